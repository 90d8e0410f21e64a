/-
  Remove: of the reference and of the program.
-/
import Derived.Test.YtfkpcmklpcnebaaG9
import Derived.Deep.RegionHeld3
namespace Go.Proofs.Ytfkpcmklpcnebaa
set_option linter.unusedVariables false
set_option linter.unusedSimpArgs false
open Go.RowKit Go.Sort
attribute [local go_sem ↓] Go.wp_at_zero Go.wp_at_succ

def remL (es : List (Int × Int)) (a : Int) : List (Int × Int) := (es.filter fun e => !(e.1 == a || e.2 == a)).map fun e => (lessI e.1 a, lessI e.2 a)
def remE (N : Int) (es : List (Int × Int)) (a : Int) : Int × List (Int × Int) := if validB N es = true then (if hasB N a = true then (N - 1, remL es a) else (N, es)) else (0, [])
theorem remL_len (es : List (Int × Int)) (a : Int) : (remL es a).length ≤ es.length := by unfold remL; rw [List.length_map]; exact List.length_filter_le _ _
theorem remL_step {es : List (Int × Int)} {a : Int} {k : Nat} (hk : k < es.length) {x y : Int} (hxy : es.getD k (0, 0) = (x, y)) : remL (es.take (k + 1)) a = remL (es.take k) a ++ if (x == a || y == a) = true then [] else [(lessI x a, lessI y a)] := by
  unfold remL
  rw [List.take_succ_eq_append_getElem hk, List.filter_append, List.map_append]
  rw [List.getD_eq_getElem?_getD, List.getElem?_eq_getElem hk] at hxy
  simp only [Option.getD_some] at hxy
  rw [hxy]
  congr 1
  simp only [List.filter_cons, List.filter_nil]
  by_cases h : (x == a || y == a) = true
  · rw [h]; rfl
  · rw [Bool.not_eq_true] at h; rw [h]; rfl
def GPost (w : World) (r : Int × List (Int × Int)) (e : Ending) (w' : World) : Prop :=
  Below w.heap.size w w' ∧ ∃ B c, e = .returned (.agg #[.int .i64 r.1, .slice B r.2.length c]) ∧ Rd w' 2 B r.2.length (prs r.2)

def MkI (wr w2 : World) (z : Int) (l : List (Int × Int)) : Prop :=
  Below wr.heap.size wr w2 ∧ wr.heap.size < w2.heap.size ∧ w2.frozen? ⟨wr.heap.size, 1, none⟩ = false ∧ w2.cell? ⟨wr.heap.size, 0, none⟩ = some (.int .i64 z) ∧
    ∃ B c, w2.cell? ⟨wr.heap.size, 1, none⟩ = some (.slice B l.length c) ∧ Own w2 (wr.heap.size + 1) 36 2 B l.length c (prs l)
theorem MkI.start (wr : World) (z : Int) : MkI wr (wr.alloc (.cells #[.int .i64 z, .slice none 0 0] 24)) z [] :=
  ⟨(Below.refl _ _).alloc (Nat.le_refl _) _, by simp, by simp, by simp, none, 0, by simp, Own.nil _ _ _ _⟩
theorem MkI.push {wr w2 w4 : World} {z : Int} {l : List (Int × Int)} {e : Int × Int} {B B4 : Option Addr} {c c4 q : Nat} (h1 : Below wr.heap.size wr w2) (h2 : wr.heap.size < w2.heap.size) (h3 : w2.frozen? ⟨wr.heap.size, 1, none⟩ = false) (h4 : w2.cell? ⟨wr.heap.size, 0, none⟩ = some (.int .i64 z))
    (h5 : w2.cell? ⟨wr.heap.size, 1, none⟩ = some (.slice B q c)) (hl : l.length = q) (hb : Below (wr.heap.size + 1) w2 w4) (ho : Own w4 (wr.heap.size + 1) 36 2 B4 (q + 1) c4 (prs l ++ prs [e])) :
    MkI wr (w4.setCell ⟨wr.heap.size, 1, none⟩ (.slice B4 (q + 1) c4)) z (l ++ [e]) := by
  have hs := hb.size
  refine ⟨(h1.trans (hb.mono (by omega))).setCell (by simp) _, by simp; omega, by simp; rw [hb.frozen (by simp)]; exact h3, ?_, B4, c4, ?_, ?_⟩
  · rw [World.cell?_setCell_other _ _ _ _ (by simp), hb.cell (by simp)]; exact h4
  · rw [List.length_append, hl]; exact World.cell?_setCell_same _ _ _ (by rw [hb.cell (by simp)]; exact h5)
  · rw [List.length_append, hl, prs_app]; exact ho.setOther (by simp) _

theorem lessI_bd {x N : Int} (a : Int) (h0 : 0 ≤ x) (h1 : x < N) : -1 ≤ lessI x a ∧ lessI x a < N := by unfold lessI; split <;> omega

set_option maxRecDepth 100000 in
set_option maxHeartbeats 16000000 in
theorem rrem_any (N : Int) (A : Option Addr) (n c : Nat) (es : List (Int × Int)) (a : Int) (w : World) (hn : n ≤ 1000) (he : Rd w 2 A n (prs es)) :
    Calls Try.prog 22 #[.agg #[.int .i64 N, .slice A n c], .int .i64 a] w (GPost w (remE N es a)) := by
  have HE := Lib.hid he.prs_len
  have H0 := Lib.hid he
  have H1 := Lib.hid (he.keep ((Keeps.alloc w (.cells #[.int .i64 N, .slice A n c] 24)).trans (Keeps.alloc _ (.cells #[.int .i64 0, .slice none 0 0] 24))))
  clear he
  have S1 : Hid (Below w.heap.size w ((w.alloc (.cells #[.int .i64 N, .slice A n c] 24)).alloc (.cells #[.int .i64 0, .slice none 0 0] 24))) := ((Below.refl _ _).alloc (Nat.le_refl _) _).alloc (by simp) _
  have FACTS : Hid (∀ w1 : World, Below ((w.alloc (.cells #[.int .i64 N, .slice A n c] 24)).alloc (.cells #[.int .i64 0, .slice none 0 0] 24)).heap.size ((w.alloc (.cells #[.int .i64 N, .slice A n c] 24)).alloc (.cells #[.int .i64 0, .slice none 0 0] 24)) w1 →
      w.heap.size + 2 ≤ w1.heap.size ∧ w1.cell? ⟨w.heap.size, 0, none⟩ = some (.int .i64 N) ∧ w1.cell? ⟨w.heap.size, 1, none⟩ = some (.slice A n c) ∧ w1.cell? ⟨w.heap.size + 1, 0, none⟩ = some (.int .i64 0) ∧ w1.cell? ⟨w.heap.size + 1, 1, none⟩ = some (.slice none 0 0) ∧
      w1.frozen? ⟨w.heap.size + 1, 0, none⟩ = false ∧ w1.frozen? ⟨w.heap.size + 1, 1, none⟩ = false) := fun w1 hb => by
    have hs := hb.size
    simp at hs
    refine ⟨by omega, ?_, ?_, ?_, ?_, ?_, ?_⟩
    · rw [hb.cell (by simp; omega)]; simp
    · rw [hb.cell (by simp; omega)]; simp
    · rw [hb.cell (by simp)]; simp
    · rw [hb.cell (by simp)]; simp
    · rw [hb.frozen (by simp)]; simp
    · rw [hb.frozen (by simp)]; simp
  cases hv : validB N es
  · have HV := Lib.hid hv
    have e0 : remE N es a = (0, []) := by unfold remE; rw [hv]; rfl
    rw [e0]
    clear hv e0
    go_enter Try.func22, Try.ntmps22
    go_wp2_with (go_at_call 13; refine (rvalid_b (b := false) N _ n c es _ (by omega) H1.out HV.out).mono ?_; rintro e w1 ⟨rfl, hb1⟩; obtain ⟨hz1, p0, p1, r0, r1, f0, f1⟩ := FACTS.out _ hb1; have S2 := Lib.hid (S1.out.trans (hb1.mono (by simp; omega))); clear hb1)
    refine bodyPost_ret (v := .agg #[.int .i64 0, .slice none 0 0]) (by simp [results, Try.results22, go_sem, r0, r1]) rfl ⟨?_, none, 0, rfl, Rd.nil _ _ _⟩
    exact (S2.out.setCell (by simp) _).setCell (by simp) _
  have HV := Lib.hid hv
  have hN := (validB_iff N es).1 hv
  obtain ⟨hN0, hN1, -⟩ := hN
  have HEN := Lib.hid (ends_of hv)
  by_cases ha : a < 0 ∨ N ≤ a
  · have e0 : remE N es a = (N, es) := by unfold remE; rw [hv, hasB_no ha]; rfl
    rw [e0]
    clear hv e0
    rcases ha with ha | ha
    · go_enter Try.func22, Try.ntmps22
      go_wp2_with (go_at_call 13; refine (rvalid_b (b := true) N _ n c es _ (by omega) H1.out HV.out).mono ?_; rintro e w1 ⟨rfl, hb1⟩; obtain ⟨hz1, p0, p1, r0, r1, f0, f1⟩ := FACTS.out _ hb1; have S2 := Lib.hid (S1.out.trans (hb1.mono (by simp; omega))); have R2 := Lib.hid (H1.out.keep (Keeps.of_below hb1 (Nat.le_refl _))); clear hb1)
      refine bodyPost_ret (v := .agg #[.int .i64 N, .slice A n c]) (by simp [results, Try.results22, go_sem, r0, r1]) rfl ⟨(S2.out.setCell (by simp) _).setCell (by simp) _, A, c, by rw [HE.out], ?_⟩
      show Rd _ 2 A es.length (prs es)
      rw [HE.out]
      exact H0.out.keep (Keeps.of_below ((S2.out.setCell (by simp) _).setCell (by simp) _) (Nat.le_refl _))
    · have hna : ¬ a < 0 := by omega
      go_enter Try.func22, Try.ntmps22
      go_wp2_with (go_at_call 13; refine (rvalid_b (b := true) N _ n c es _ (by omega) H1.out HV.out).mono ?_; rintro e w1 ⟨rfl, hb1⟩; obtain ⟨hz1, p0, p1, r0, r1, f0, f1⟩ := FACTS.out _ hb1; have S2 := Lib.hid (S1.out.trans (hb1.mono (by simp; omega))); have R2 := Lib.hid (H1.out.keep (Keeps.of_below hb1 (Nat.le_refl _))); clear hb1)
      refine bodyPost_ret (v := .agg #[.int .i64 N, .slice A n c]) (by simp [results, Try.results22, go_sem, r0, r1]) rfl ⟨(S2.out.setCell (by simp) _).setCell (by simp) _, A, c, by rw [HE.out], ?_⟩
      show Rd _ 2 A es.length (prs es)
      rw [HE.out]
      exact H0.out.keep (Keeps.of_below ((S2.out.setCell (by simp) _).setCell (by simp) _) (Nat.le_refl _))
  have e0 : remE N es a = (N - 1, remL es a) := by unfold remE; rw [hv, hasB_yes (by omega) (by omega)]; rfl
  rw [e0]
  have hna0 : ¬ a < 0 := by omega
  have hna1 : ¬ N ≤ a := by omega
  clear hv e0 ha
  go_enter Try.func22, Try.ntmps22
  go_wp2_with (go_at_call 13; refine (rvalid_b (b := true) N _ n c es _ (by omega) H1.out HV.out).mono ?_; rintro e w1 ⟨rfl, hb1⟩; obtain ⟨hz1, p0, p1, r0, r1, f0, f1⟩ := FACTS.out _ hb1; have S2 := Lib.hid (S1.out.trans (hb1.mono (by simp; omega))); have R2 := Lib.hid (H1.out.keep (Keeps.of_below hb1 (Nat.le_refl _))); clear hb1)
  go_loopw [6, 7] (fun i _ wr => MkI w1 wr (N - 1) (remL (es.take (intOf i).toNat) a) ∧ ∃ k : Nat, k ≤ n ∧ i = .int .i64 k) (fun i _ _ => n - (intOf i).toNat)
  case atStart => exact ⟨MkI.start w1 (N - 1), 0, Nat.zero_le _, rfl⟩
  case round =>
    obtain ⟨hinv, k, hk, rfl⟩ := hrel
    have e0 : (intOf (.int .i64 (k : Int))).toNat = k := by simp [intOf]
    rw [e0] at hinv
    clear e0
    obtain ⟨hb, hs, fz, cg0, B, cB, cg1, own⟩ := hinv
    have hlen := remL_len (es.take k) a
    have hlen2 : (es.take k).length ≤ k := List.length_take_le _ _
    generalize hL : remL (es.take k) a = L at *
    generalize hq : L.length = q at *
    have HQ := Lib.hid hq
    have HL := Lib.hid hL
    have OWN := Lib.hid own
    have HB := Lib.hid hb
    have p0 : wr.cell? ⟨w.heap.size, 0, none⟩ = some (.int .i64 N) := by rw [hb.cell (by simp; omega)]; exact p0
    have p1 : wr.cell? ⟨w.heap.size, 1, none⟩ = some (.slice A n c) := by rw [hb.cell (by simp; omega)]; exact p1
    have r0 : wr.cell? ⟨w.heap.size + 1, 0, none⟩ = some (.int .i64 0) := by rw [hb.cell (by simp; omega)]; exact r0
    have r1 : wr.cell? ⟨w.heap.size + 1, 1, none⟩ = some (.slice none 0 0) := by rw [hb.cell (by simp; omega)]; exact r1
    have f0 : wr.frozen? ⟨w.heap.size + 1, 0, none⟩ = false := by rw [hb.frozen (by simp; omega)]; exact f0
    have f1 : wr.frozen? ⟨w.heap.size + 1, 1, none⟩ = false := by rw [hb.frozen (by simp; omega)]; exact f1
    have RD := Lib.hid (R2.out.keep (Keeps.of_below hb (Nat.le_refl _)))
    have hfin : Hid (Below w.heap.size w wr) := S2.out.trans (hb.mono (by omega))
    clear hb own hL hq
    by_cases hlt : k < n
    · have HST : Hid (∀ x y : Int, es.getD k (0, 0) = (x, y) → remL (es.take (k + 1)) a = L ++ if (x == a || y == a) = true then [] else [(lessI x a, lessI y a)]) := fun x y h => by rw [← HL.out]; exact remL_step (by rw [HE.out]; exact hlt) h
      have HEK : Hid (0 ≤ (es.getD k (0, 0)).1 ∧ (es.getD k (0, 0)).1 < (es.getD k (0, 0)).2 ∧ (es.getD k (0, 0)).2 < N) := by
        rw [List.getD_eq_getElem?_getD, List.getElem?_eq_getElem (by rw [HE.out]; exact hlt)]
        exact HEN.out _ (List.getElem_mem _)
      obtain ⟨ad, rfl, c0, c1⟩ := RD.out.prs_at hlt
      generalize hxy : es.getD k (0, 0) = xy at c0 c1 HEK
      obtain ⟨x, y⟩ := xy
      simp only at c0 c1
      have HXY := Lib.hid hxy
      obtain ⟨hx0, hxy0, hyN⟩ := HEK.out
      simp only at hx0 hxy0 hyN
      clear hxy
      have hstep : ∀ (i : Value), i = .int .i64 ((k : Int) + 1) → (intOf i).toNat = k + 1 := fun i hi => by rw [hi]; simp [intOf]
      have HSTEP := Lib.hid hstep
      clear hstep
      have hlw1 : w1.heap.size < wr.heap.size := hs
      by_cases hxa : (x == a || y == a) = true
      · have HXA := Lib.hid hxa
        have hskip : Hid (∀ o : Obj, MkI w1 (wr.alloc o) (N - 1) (remL (es.take (k + 1)) a)) := fun o => by
          rw [HST.out x y HXY.out, HXA.out, if_pos rfl, List.append_nil]
          have ba : Below (w1.heap.size + 1) wr (wr.alloc o) := (Below.refl _ _).alloc (by omega) _
          exact ⟨HB.out.trans (ba.mono (by omega)), by simp; omega, by rw [ba.frozen (by simp)]; exact fz, by rw [ba.cell (by simp)]; exact cg0, B, cB, by rw [HQ.out, ba.cell (by simp)]; exact cg1, by rw [HQ.out]; exact OWN.out.alloc _⟩
        cases h1 : (x == a)
        · rw [h1, Bool.false_or] at hxa
          have h1' : (x != a) = true := by simpa using h1
          have h2' : (y != a) = false := by simpa using hxa
          clear h1 hxa
          go_wp2
          go_roundw
          case rel => exact ⟨by rw [HSTEP.out _ rfl]; exact hskip.out _, k + 1, by omega, by go_num⟩
          case measure => simp [intOf]; omega
        · have h1' : (x != a) = false := by simpa using h1
          clear h1 hxa
          go_wp2
          go_roundw
          case rel => exact ⟨by rw [HSTEP.out _ rfl]; exact hskip.out _, k + 1, by omega, by go_num⟩
          case measure => simp [intOf]; omega
      · rw [Bool.not_eq_true] at hxa
        have HXA := Lib.hid hxa
        rw [Bool.or_eq_false_iff] at hxa
        obtain ⟨h1, h2⟩ := hxa
        have h1' : (x != a) = true := by simpa using h1
        have h2' : (y != a) = true := by simpa using h2
        have CX := Lib.hid (fun W => less_any x a W hx0 (by omega))
        have CY := Lib.hid (fun W => less_any y a W (by omega) (by omega))
        generalize hlx : lessI x a = lx at CX HST
        generalize hly : lessI y a = ly at CY HST
        have l0 : (wr.alloc (.cells #[.int .i64 x, .int .i64 y] 36)).cell? ⟨w1.heap.size, 1, none⟩ = some (.slice B q cB) := by rw [World.cell?_alloc_lt _ _ _ hlw1]; exact cg1
        have l0a : ((wr.alloc (.cells #[.int .i64 x, .int .i64 y] 36)).drew.alloc (.cells #[.int .i64 lx, .int .i64 ly] 36)).cell? ⟨w1.heap.size, 1, none⟩ = some (.slice B q cB) := by rw [World.cell?_alloc_lt _ _ _ (by simp; omega)]; exact l0
        have l0b : ((wr.alloc (.cells #[.int .i64 x, .int .i64 y] 36)).alloc (.cells #[.int .i64 lx, .int .i64 ly] 36)).cell? ⟨w1.heap.size, 1, none⟩ = some (.slice B q cB) := by rw [World.cell?_alloc_lt _ _ _ (by simp; omega)]; exact l0
        have l1 : (wr.alloc (.cells #[.int .i64 x, .int .i64 y] 36)).cell? ⟨wr.heap.size, 0, none⟩ = some (.int .i64 x) := by simp
        have l2 : (wr.alloc (.cells #[.int .i64 x, .int .i64 y] 36)).cell? ⟨wr.heap.size, 1, none⟩ = some (.int .i64 y) := by simp
        have EG : ∀ args w, (callFunc 44 args).run Try.prog w = .ok (.enter 44 args) w := enters_of Try.func44 (by kernel_rfl) rfl
        have EGH := Lib.hid EG
        have HLX := Lib.hid hlx
        have HLY := Lib.hid hly
        clear EG hlx hly
        go_wp2
        go_region_law ((first
          | (refine step_call (R := fun W => _ = W) rfl 44 #[.tmp 50, .tmp 51] #[3, 3] rfl EGH.out #[.int .i64 x, .int .i64 a] (by simp [Act.eval, Act.put]) _ (CX.out _) ?_; rintro _ rfl)
          | (refine step_call (R := fun W => _ = W) rfl 44 #[.tmp 54, .tmp 55] #[3, 3] rfl EGH.out #[.int .i64 y, .int .i64 a] (by simp [Act.eval, Act.put]) _ (CY.out _) ?_; rintro _ rfl)
          | (refine step_app _ rfl (.tmp 48) (.tmp 58) 22 rfl (w1.heap.size + 1) 36 (.agg #[.int .i64 0, .int .i64 0]) 2 16 Try.underlying22 info_pair rfl (by decide) B q cB (prs L) (by simp [Act.eval, Act.put]) ((OWN.out.alloc (.cells #[.int .i64 x, .int .i64 y] 36)).alloc _) (some ⟨wr.heap.size + 1, 0, none⟩) 1 1 (prs [(lx, ly)]) (by simp [Act.eval, Act.put]) (rd_lit2_at (by simp) [(lx, ly)] _) (prs_one _) (by omega) (by unfold maxLen; omega) (by simp; omega) ?_; intro B4 c4 w4 ho4 hg4 hb4; have OWN4 := Lib.hid ho4; have S3 : Hid (Below (w1.heap.size + 1) wr w4) := Lib.hid ((((Below.refl _ _).alloc (by omega) _).drew.alloc (by simp; omega) _).grown hg4 (by simp; omega) (fun b hb => (OWN.out.lt hb).1)); have hs4 := S3.out.size; have fz4 : w4.frozen? ⟨w1.heap.size, 1, none⟩ = false := (by rw [S3.out.frozen (by simp)]; exact fz); have cg04 : w4.cell? ⟨w1.heap.size, 0, none⟩ = some (.int .i64 (N - 1)) := (by rw [S3.out.cell (by simp)]; exact cg0); have cg14 : w4.cell? ⟨w1.heap.size, 1, none⟩ = some (.slice B q cB) := (by rw [S3.out.cell (by simp)]; exact cg1); clear ho4 hg4 hb4)
          | fail))
        all_goals
          go_wp2
          go_roundw
          case rel => exact ⟨by rw [HSTEP.out _ rfl, HST.out x y HXY.out, HXA.out, if_neg (by simp), HLX.out, HLY.out]; exact MkI.push HB.out hs fz cg0 cg1 HQ.out S3.out OWN4.out, k + 1, by omega, by go_num⟩
          case measure => simp [intOf]; omega
    · obtain rfl : k = n := by omega
      have e1 : L = remL es a := by rw [← HL.out, List.take_of_length_le (by rw [HE.out]; exact Nat.le_refl _)]
      have E1 := Lib.hid e1
      clear e1
      go_wp2
      refine bodyPost_ret (v := .agg #[.int .i64 (N - 1), .slice B q cB]) (by simp [results, Try.results22, go_sem, r0, r1]) rfl ⟨(hfin.out.setCell (by simp) _).setCell (by simp) _, B, cB, by rw [← E1.out, HQ.out], ?_⟩
      show Rd _ 2 B (remL es a).length (prs (remL es a))
      rw [← E1.out, HQ.out]
      exact ((OWN.out.setOther (by simp; omega) _).setOther (by simp; omega) _).rd
end Go.Proofs.Ytfkpcmklpcnebaa
