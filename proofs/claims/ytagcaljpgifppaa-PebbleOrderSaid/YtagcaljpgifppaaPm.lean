/-
  setsquareref34.Permuted.
-/
import Derived.Test.YtagcaljpgifppaaMc
import Derived.Test.YtagcaljpgifppaaSpecPO
import Derived.Test.YtagcaljpgifppaaBoxG
import Derived.Deep.RegionHeld3
namespace Go.Proofs.Ytagcaljpgifppaa
set_option linter.unusedVariables false
set_option linter.unusedSimpArgs false
open Go.RowKit Go.Sort
attribute [local go_sem ↓] Go.wp_at_zero Go.wp_at_succ

/-- The frame: the graph, and the result. -/
def PR (w : World) (N : Int) (A : Option Addr) (m c : Nat) : World := (w.alloc (.cells #[.int .i64 N, .slice A m c] 24)).alloc (.cells #[.int .i64 0, .slice none 0 0] 24)
def BP (w : World) (N : Int) (A : Option Addr) (m c : Nat) (w1 : World) : Prop := Below (w.heap.size + 2) (PR w N A m c) w1
section
variable {w w1 w2 : World} {N : Int} {A : Option Addr} {m c : Nat}
theorem BP.start : BP w N A m c (PR w N A m c) := Below.refl _ _
theorem BP.facts (h : BP w N A m c w1) : w.heap.size + 1 < w1.heap.size ∧ w1.cell? ⟨w.heap.size, 0, none⟩ = some (.int .i64 N) ∧ w1.cell? ⟨w.heap.size, 1, none⟩ = some (.slice A m c) ∧ BOXG w1 (w.heap.size + 1) := by
  have hs := h.size
  unfold PR at hs
  simp at hs
  refine ⟨by omega, ?_, ?_, ?_⟩
  · rw [Below.cell h (by simp)]; unfold PR; rw [World.cell?_alloc_lt _ _ _ (by simp)]; simp
  · rw [Below.cell h (by simp)]; unfold PR; rw [World.cell?_alloc_lt _ _ _ (by simp)]; simp
  · unfold BOXG
    rw [h.block _ (by omega)]
    have := BOXG.at (W := w.alloc (.cells #[.int .i64 N, .slice A m c] 24)) (b := w.heap.size + 1) (by simp)
    exact this
theorem BP.next (h : BP w N A m c w1) (hb : Below w1.heap.size w1 w2) : BP w N A m c w2 := Below.trans h (hb.mono (by have := h.facts.1; omega))
theorem BP.next2 (h : BP w N A m c w1) (hb : Below (w.heap.size + 2) w1 w2) : BP w N A m c w2 := Below.trans h hb
theorem BP.below (h : BP w N A m c w1) : Below w.heap.size w w1 := (((Below.refl _ _).alloc (Nat.le_refl _) _).alloc (by simp) _).trans (Below.mono h (by omega))
theorem BP.keeps (h : BP w N A m c w1) : Keeps w w1 := Keeps.of_below h.below (Nat.le_refl _)
end
def prmK (ps : List Int) (es : List (Int × Int)) (k : Nat) : List (Int × Int) := prmL ps (es.take k)
theorem prmK_zero (ps : List Int) (es : List (Int × Int)) : prmK ps es 0 = [] := by unfold prmK prmL; simp
theorem prmK_len {ps : List Int} {es : List (Int × Int)} {k : Nat} (h : k ≤ es.length) : (prmK ps es k).length = k := by unfold prmK prmL; simp; omega
theorem prmK_step {ps : List Int} {es : List (Int × Int)} {k x y : Nat} (h : k < es.length) (hx : edAt es k = ((x : Int), (y : Int))) : prmK ps es (k + 1) = prmK ps es k ++ [(ps.getD x 0, ps.getD y 0)] := by
  unfold prmK prmL
  rw [List.take_succ_eq_append_getElem h, List.map_append]
  have e : es[k] = ((x : Int), (y : Int)) := by rw [← hx]; unfold edAt; rw [List.getD_eq_getElem?_getD, List.getElem?_eq_getElem h]; rfl
  rw [e]; simp
theorem prmK_all (ps : List Int) (es : List (Int × Int)) : prmK ps es es.length = prmL ps es := by unfold prmK; rw [List.take_length]
def PmPost (w : World) (N : Int) (q : Nat) (l : List (Int × Int)) (e : Ending) (w' : World) : Prop := Below w.heap.size w w' ∧ ∃ B d, e = .returned (.agg #[.int .i64 N, .slice B q d]) ∧ Rd w' 2 B q (prs l)
set_option maxRecDepth 100000 in
set_option maxHeartbeats 8000000 in
theorem rperm34_any (n q : Nat) (N : Int) (A P : Option Addr) (m c d : Nat) (es l : List (Int × Int)) (ps : List Int) (w : World) (hm : m ≤ 900) (hn : n ≤ 60) (he : Rd w 2 A m (prs es)) (hp : Rd w 1 P n (ints ps)) (hok : ∀ e ∈ es, OkE n e) (hmk : mkE N (prmL ps es) = some l) (hq : l.length = q) :
    Calls Try.prog 21 #[.agg #[.int .i64 N, .slice A m c], .slice P n d] w (PmPost w N q l) := by
  have H0 := Lib.hid he
  have HP := Lib.hid hp
  have HE := Lib.hid he.prs_len
  have HOK := Lib.hid hok
  have GMK : Hid (∀ B d w', Rd w' 2 B m (prs (prmL ps es)) → Calls Try.prog 68 #[.int .i64 N, .slice B m d] w' fun e w'' => Below w'.heap.size w' w'' ∧ ∃ B5 d5, e = .returned (.tuple #[.agg #[.int .i64 N, .slice B5 q d5], .int .i64 0]) ∧ Rd w'' 2 B5 q (prs l)) := Lib.hid fun B d w' h => (rmake_any N B m d _ w' (by omega) h).mono (fun e w'' hp => by
    rw [hmk] at hp
    obtain ⟨hb, B5, d5, he, ho⟩ := hp
    rw [hq] at he ho
    exact ⟨hb, B5, d5, he, ho.rd⟩)
  clear he hp hok hmk hq
  have X0 : Hid (BP w N A m c (PR w N A m c)) := Lib.hid BP.start
  have hwt : PR w N A m c = (w.alloc (.cells #[.int .i64 N, .slice A m c] 24)).alloc (.cells #[.int .i64 0, .slice none 0 0] 24) := rfl
  go_enter Try.func21, Try.ntmps21
  go_wp2_with fail
  rw [← hwt]
  clear hwt
  generalize PR w N A m c = W5 at *
  go_loopg [5, 6] m (fun g o t wr => ∃ (k : Nat) (B : Option Addr) (cB : Nat), t = .int .i64 k ∧ k ≤ m ∧ g = m - k ∧ o = .slice B k cB ∧ Own wr (w.heap.size + 2) 42 2 B k cB (prs (prmK ps es k)) ∧ BP w N A m c wr)
  case atStart => exact ⟨0, none, 0, rfl, by omega, rfl, rfl, by rw [prmK_zero]; exact Own.nil _ _ _ _, X0.out⟩
  case round =>
    obtain ⟨k, B, cB, rfl, hk, rfl, rfl, ho, hb⟩ := hrel
    have HO := Lib.hid ho
    have X1 := Lib.hid hb
    obtain ⟨hz1, p0, p1, bx⟩ := X1.out.facts
    have BX1 := Lib.hid bx
    clear ho hb bx
    by_cases hlt : k < m
    · obtain ⟨x, y, hxy, hx, hy, hne⟩ := edge_nat HOK.out (k := k) (by rw [HE.out]; exact hlt)
      obtain ⟨ad, rfl, cw0, cw1⟩ := H0.out.prs_at hlt
      rw [getD_edAt, hxy] at cw0 cw1
      simp only at cw0 cw1
      obtain ⟨ap, rfl, -, dw0⟩ := HP.out.int_at hx
      obtain ⟨ap', e9, -, dw1⟩ := HP.out.int_at hy
      obtain rfl : ap = ap' := by injection e9
      have HST := Lib.hid (prmK_step (ps := ps) (by rw [HE.out]; exact hlt) hxy)
      generalize ps.getD x 0 = u at dw0 HST
      generalize ps.getD y 0 = v at dw1 HST
      clear hxy e9
      have CW0 := Lib.hid cw0
      have CW1 := Lib.hid cw1
      have DW0 := Lib.hid dw0
      have DW1 := Lib.hid dw1
      have c0 := X1.out.keeps _ _ cw0
      have c1 := X1.out.keeps _ _ cw1
      have d0 := X1.out.keeps _ _ dw0
      have d1 := X1.out.keeps _ _ dw1
      clear cw0 cw1 dw0 dw1
      have i0 : (0 : Int) ≤ (k : Int) := by omega
      have i1 : (k : Int) < (m : Int) := by omega
      have i2 : (0 : Int) ≤ (x : Int) := by omega
      have i3 : (x : Int) < (n : Int) := by omega
      have i4 : (0 : Int) ≤ (y : Int) := by omega
      have i5 : (y : Int) < (n : Int) := by omega
      have n0 := World.new_ne wr _ p1
      have n1 := World.new_ne wr _ c0
      have n2 := World.new_ne wr _ d0
      have hs2 : w.heap.size + 2 ≤ wr.heap.size := by omega
      go_wp2_with fail
      go_region_held3 (fun w' => w'.cell? ⟨w.heap.size, 1, none⟩ = some (.slice (some ad) m c) ∧ w'.cell? (ad.add (k * 2)) = some (.int .i64 (x : Int)) ∧ w'.cell? ⟨(ad.add (k * 2)).block, (ad.add (k * 2)).off + 1, none⟩ = some (.int .i64 (y : Int)) ∧ w'.cell? (ap.add x) = some (.int .i64 u) ∧ w'.cell? (ap.add y) = some (.int .i64 v)) (go_keep)
        ((first
          | (refine step_app _ rfl (.tmp 16) (.tmp 36) 22 rfl (w.heap.size + 2) 42 (.agg #[.int .i64 0, .int .i64 0]) 2 16 Try.underlying22 info_pair rfl (by decide) B k cB (prs (prmK ps es k)) (by simp [Act.eval, Act.put]) ((HO.out.drew').alloc _) (some ⟨wr.heap.size, 0, none⟩) 1 1 (prs [(u, v)]) (by simp [Act.eval, Act.put]) (rd_lit2_at (w := wr.drew) rfl [(u, v)] _) (prs_one _) (by omega) (by unfold maxLen; omega) (by first | omega | (simp; omega)) ?_; intro B4 c4 w4 ho4 hg4 hb4; have O4 : Hid (Own w4 (w.heap.size + 2) 42 2 B4 (k + 1) c4 (prs (prmK ps es (k + 1)))) := Lib.hid (by rw [HST.out, prs_app]; exact ho4); have X4 : Hid (BP w N (some ad) m c w4) := Lib.hid (X1.out.next2 ((((Below.refl _ _).drew).alloc hs2 _).grown hg4 (by first | omega | (simp; omega)) (fun b hb => (HO.out.lt hb).1))); have c0 := X4.out.keeps _ _ CW0.out; have c1 := X4.out.keeps _ _ CW1.out; have d0 := X4.out.keeps _ _ DW0.out; have d1 := X4.out.keeps _ _ DW1.out; have p1 := X4.out.facts.2.2.1; clear ho4 hg4 hb4)
          | fail))
      all_goals
       go_wp2_with fail
       go_roundg (m - (k + 1))
       case measure => omega
       case rel => exact ⟨k + 1, B4, c4, by go_num, by omega, rfl, rfl, O4.out, X4.out⟩
    · obtain rfl : k = m := by omega
      have hfin : prmK ps es k = prmL ps es := by rw [← HE.out]; exact prmK_all ps es
      rw [hfin] at HO
      go_wp2_with (first
        | (go_at_call 68; refine (GMK.out _ _ _ HO.out.rd).mono ?_; rintro e w5 ⟨hb5, B5, d5, rfl, hr5⟩; have X5 := Lib.hid ((X1.out.next hb5).next ((Below.refl _ _).alloc (Nat.le_refl _) (.cells #[.int .i64 N, .slice B5 q d5] 24))); have R5 := Lib.hid (hr5.keep (Keeps.alloc w5 (.cells #[.int .i64 N, .slice B5 q d5] 24))); have BX5 := Lib.hid X5.out.facts.2.2.2; have b0 := BX5.out.c0; have b1 := BX5.out.c1; have f0 := BX5.out.f0; have f1 := BX5.out.f1; clear hb5 hr5)
        | fail)
      have z := BX5.out.put N (d := d5) R5.out
      have HB6 := X5.out.below
      refine bodyPost_ret (v := .agg #[.int .i64 N, .slice B5 q d5]) (by simp [results, Try.results21, go_sem, z.1, z.2.1]) rfl ⟨?_, B5, d5, rfl, z.2.2⟩
      exact (HB6.setCell (by simp) _).setCell (by simp) _
end Go.Proofs.Ytagcaljpgifppaa
