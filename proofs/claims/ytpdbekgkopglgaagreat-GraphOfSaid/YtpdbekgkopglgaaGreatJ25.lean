/-
  Contracts and lemmas for the statement, joined: L3.
-/
import Derived.Test.YtpdbekgkopglgaaGreatJ24
import Derived.Test.YtpdbekgkopglgaaGreatJ7
import Derived.Test.YtpdbekgkopglgaaGreatJ19
namespace Go.Proofs.YtpdbekgkopglgaaGreat
set_option linter.unusedVariables false
set_option linter.unusedSimpArgs false
open Go.RowKit Go.Sort
attribute [local go_sem ↓] Go.wp_at_zero Go.wp_at_succ

set_option maxHeartbeats 2000000 in
theorem root_at (a r n c g : Nat) (p : List Nat) (P : Addr) (w : World) (hP : w.cell? P = some (.slice (some ⟨g, 0, none⟩) n c)) (hr : Rd w 1 (some ⟨g, 0, none⟩) n (ints (NL p))) (hle : ∀ i, i < n → NA p i ≤ i) (ha : a < n) (hn : n ≤ 1000) (hroot : Root p a r) :
    Calls Tryz.prog 34 #[.int .i64 a, .pointer (some P)] w fun e w' => e = .returned (.int .i64 r) ∧ w = w' := by
  have HR := Lib.hid hr
  have HLE := Lib.hid hle
  have HRT := Lib.hid hroot
  clear hr hle hroot
  go_enter Tryz.func34, Tryz.ntmps34
  go_wp2
  go_loop [0] (fun i => ∃ k : Nat, k < n ∧ i = .int .i64 k ∧ Root p k r) (fun i => (intOf i).toNat)
  case atStart => exact ⟨a, ha, rfl, HRT.out⟩
  case round =>
    obtain ⟨k, hk, rfl, hrt⟩ := hrel
    have HK := Lib.hid hrt
    clear hrt
    obtain ⟨ad, had, hkl, c0⟩ := HR.out.int_at hk
    rw [NL_at (by rw [← NL_len]; exact hkl)] at c0
    injection had with had
    subst had
    rw [add0] at c0
    have hv := HLE.out k hk
    generalize hvv : NA p k = v at c0 hv
    have HV := Lib.hid hvv
    clear hvv
    by_cases hvk : v = k
    · subst hvk
      have hbb : ((v : Int) != (v : Int)) = false := by simp
      go_wp2
      go_ret
      refine ⟨ret_int ?_, rfl⟩
      have := HK.out.uniq (.here HV.out)
      omega
    · have hbb : ((v : Int) != (k : Int)) = true := by simp; omega
      have HVK := Lib.hid hvk
      clear hvk
      go_wp2
      go_round
      case rel =>
        refine ⟨v, by omega, rfl, ?_⟩
        have h2 := HK.out
        cases h2 with
        | here h3 => exact absurd (HV.out.symm.trans h3) HVK.out
        | up _ h3 => rw [HV.out] at h3; exact h3
      case measure =>
        have := HVK.out
        simp [intOf]; omega

theorem own_made {w : World} {b : Nat} (hb : w.heap.size = b) (n : Nat) (hn : n ≤ maxLen) : Own (w.alloc (.cells (madeCells #[.int .i64 0] n) 3)) b 3 1 (some ⟨b, 0, none⟩) n n (ints (NL (List.replicate n 0))) := by
  subst hb
  have h := World.ownsRow_lit (base := w.heap.size) (e := 3) (size := 1) w (madeCells #[.int .i64 0] n) n (Nat.le_refl _) hn (by simp [madeCells])
  rw [toList_madeCells_one] at h
  have e1 : ints (NL (List.replicate n 0)) = List.replicate n (.int .i64 0) := by simp [ints, NL]
  unfold Own
  rw [e1]; exact h
theorem fill_step {n k : Nat} (h : k < n) : (List.range k ++ List.replicate (n - k) 0).set k k = List.range (k + 1) ++ List.replicate (n - (k + 1)) 0 := by
  rw [List.set_append_right _ _ (by simp)]
  simp only [List.length_range, Nat.sub_self]
  rw [show n - k = (n - (k + 1)) + 1 by omega, List.replicate_succ, List.set_cons_zero, List.range_succ, List.append_assoc]; rfl

/-- What the parents' array and the variable that holds it are, in any later world. -/
structure PW (w1 wr : World) (n : Nat) (p : List Nat) : Prop where
  size : w1.heap.size + 2 ≤ wr.heap.size
  bel : Below w1.heap.size w1 wr
  hd : wr.cell? ⟨w1.heap.size + 1, 0, none⟩ = some (.slice (some ⟨w1.heap.size, 0, none⟩) n n)
  own : Own wr w1.heap.size 3 1 (some ⟨w1.heap.size, 0, none⟩) n n (ints (NL p))
theorem PW.later {w1 wr w2 : World} {n : Nat} {p : List Nat} (h : PW w1 wr n p) (hb : Below wr.heap.size wr w2) : PW w1 w2 n p :=
  ⟨Nat.le_trans h.size hb.size, h.bel.trans (hb.mono h.bel.size), by rw [hb.cell (by simp; have := h.size; omega)]; exact h.hd, h.own.later hb⟩
theorem PW.store {w1 wr : World} {n : Nat} {p : List Nat} (h : PW w1 wr n p) (j x : Nat) : PW w1 (wr.setCell ⟨w1.heap.size, j, none⟩ (.int .i64 (x : Int))) n (p.set j x) :=
  ⟨by simp; exact h.size, h.bel.setCell (Nat.le_refl _) _, by rw [World.cell?_setCell_other _ _ _ _ (by simp)]; exact h.hd, own_NL_store h.own j x⟩
theorem PW.rd {w1 wr : World} {n : Nat} {p : List Nat} (h : PW w1 wr n p) : Rd wr 1 (some ⟨w1.heap.size, 0, none⟩) n (ints (NL p)) := h.own.rd
theorem es_take {es : List (Int × Int)} {k : Nat} (hk : k < es.length) {x y : Int} (hxy : es.getD k (0, 0) = (x, y)) : es.take (k + 1) = es.take k ++ [(x, y)] ∧ (x, y) ∈ es := by
  rw [List.getD_eq_getElem?_getD, List.getElem?_eq_getElem hk] at hxy
  simp only [Option.getD_some] at hxy
  rw [List.take_succ_eq_append_getElem hk, hxy]
  exact ⟨rfl, by rw [← hxy]; exact List.getElem_mem hk⟩
theorem map_set' (ls : List (List Nat)) (i : Nat) (l : List Nat) : (ls.set i l).map NL = (ls.map NL).set i (NL l) := by rw [List.map_set]

theorem rd_new_at {w : World} {b : Nat} (hb : w.heap.size = b) (size n : Nat) (xs : List Value) (t : TypeId) (h : xs.length = n * size) : Rd (w.alloc (.cells xs.toArray t)) size (some ⟨b, 0, none⟩) n xs := by subst hb; exact rd_new w size n xs t h
theorem blk_lt {s o k B : Nat} (h : blk (some ⟨s, o, none⟩) = some k) (hs : s < B) : k < B := by
  simp [blk] at h; omega
theorem own_app_cell {w w' : World} {base : Nat} {B : Option Addr} {n c : Nat} {xs : List Value} {e : TypeId} {p : Addr} {v : Value} (h : Own w base e 1 B n c xs) (hg : w.grownBy w' (blk B)) (hc : w.cell? p = some v) (hp : p.block < base) : w'.cell? p = some v :=
  World.grownBy.cell hg hc (fun e => by have := (h.lt e.symm).1; omega)
theorem meas {q k : Nat} (h : q < k) : k - (intOf (.int .i64 ((q : Int) + 1))).toNat < k - (intOf (.int .i64 (q : Int))).toNat := by
  simp [intOf]; omega
theorem rel_row {w4 w6 w7 : World} {f : Nat → Nat} {q n ix ln c7 cM k g : Nat} {B7 : Option Addr} {hs : List (Option Addr × Nat)} {ls : List (List Int)} {pl' : List Nat}
    (hbel : Below w4.heap.size w4 w6) (h46 : w4.heap.size < w6.heap.size) (hb7 : Below (w4.heap.size + 1) w6 w7) (hg : w4.heap.size + 1 ≤ g)
    (om : OwnM (w7.setCell ⟨g, ix, none⟩ (.slice B7 (ln + 1) c7)) (w4.heap.size + 1) (some ⟨g, 0, none⟩) n cM hs ls)
    (op : Own w7 w4.heap.size 3 1 (some ⟨w4.heap.size, 0, none⟩) k k (ints (NL pl')))
    (e1 : (compsK f (q + 1)).length = n) (e2 : ls = (compsK f (q + 1)).map NL) (hq : q < k) (hpl : ∀ v, v < q + 1 → f v = v → NA pl' v = placeF f v) :
    Below w4.heap.size w4 (w7.setCell ⟨g, ix, none⟩ (.slice B7 (ln + 1) c7)) ∧ w4.heap.size < (w7.setCell ⟨g, ix, none⟩ (.slice B7 (ln + 1) c7)).heap.size ∧ ∃ (q' : Nat) (pl : List Nat) (C : Option Addr) (cC : Nat) (hs : List (Option Addr × Nat)), q' ≤ k ∧ Value.int .i64 ((q : Int) + 1) = .int .i64 q' ∧ Value.slice (some ⟨g, 0, none⟩) n cM = .slice C (compsK f q').length cC ∧ OwnM (w7.setCell ⟨g, ix, none⟩ (.slice B7 (ln + 1) c7)) (w4.heap.size + 1) C (compsK f q').length cC hs ((compsK f q').map NL) ∧ Own (w7.setCell ⟨g, ix, none⟩ (.slice B7 (ln + 1) c7)) w4.heap.size 3 1 (some ⟨w4.heap.size, 0, none⟩) k k (ints (NL pl)) ∧ ∀ v, v < q' → f v = v → NA pl v = placeF f v := by
  subst e2
  refine ⟨(hbel.trans (hb7.mono (by omega))).setCell (by simp; omega) _, by simp; have := hb7.size; omega, q + 1, pl', _, cM, hs, by omega, by simp, by rw [e1], by rw [e1]; exact om, op.setFar (.inr (by simp [blk]; omega)) _, hpl⟩
set_option maxRecDepth 100000 in
set_option maxHeartbeats 16000000 in
theorem gcomp_any (N : Int) (A : Option Addr) (m c : Nat) (es : List (Int × Int)) (w : World) (hm : m ≤ 1000) (he : Rd w 2 A m (prs es)) :
    Calls Tryz.prog 13 #[.agg #[.int .i64 N, .slice A m c]] w (ListsPost w (compE N es)) := by
  have HE := Lib.hid he.prs_len
  have H0 := Lib.hid he
  have H1 := Lib.hid (he.keep (Keeps.alloc w (.cells #[.int .i64 N, .slice A m c] 37)))
  clear he
  have S1 : Hid (Below w.heap.size w (w.alloc (.cells #[.int .i64 N, .slice A m c] 37))) := (Below.refl _ _).alloc (Nat.le_refl _) _
  cases hv : validB N es
  · have HV := Lib.hid hv
    have e0 : compE N es = [] := by unfold compE; rw [hv]; rfl
    rw [e0]
    clear hv e0
    go_enter Tryz.func13, Tryz.ntmps13
    go_wp2_with (go_at_call 29; refine (gvalid_b (b := false) N _ m c es _ (by omega) H1.out HV.out).mono ?_; rintro e w1 ⟨rfl, hb1⟩)
    go_ret
    exact ⟨S1.out.trans (hb1.mono (by simp)), none, 0, rfl, OwnL.nil _ _⟩
  obtain ⟨hN0, hN1, -⟩ := (validB_iff N es).1 hv
  obtain ⟨n, rfl⟩ : ∃ n : Nat, N = n := ⟨N.toNat, by omega⟩
  have hends : EndsOk n es := ends_of hv
  have HEN := Lib.hid hends
  have HV := Lib.hid hv
  have e0 : compE n es = (compsK (marksF n es) n).map NL := by unfold compE; rw [hv, if_pos rfl, Int.toNat_natCast]
  rw [e0]
  have hmk := run_make_row' (P := Tryz.prog) 46 3 (.int .i64 0) 8 Tryz.underlying46 info_int' rfl .i64 .i64 n (by omega) (by omega)
  clear hv e0 hends
  go_enter Tryz.func13, Tryz.ntmps13
  go_wp2_with (go_at_call 29; refine (gvalid_b (b := true) n _ m c es _ (by omega) H1.out HV.out).mono ?_; rintro e w1 ⟨rfl, hb1⟩; have S2 := Lib.hid (S1.out.trans (hb1.mono (by simp))); have R1 := Lib.hid (H1.out.keep (Keeps.of_below hb1 (Nat.le_refl _))); have hz1 := hb1.size; have q0 : w1.cell? ⟨w.heap.size, 0, none⟩ = some (.int .i64 n) := (by rw [hb1.cell (by simp)]; simp); have q1 : w1.cell? ⟨w.heap.size, 1, none⟩ = some (.slice A m c) := (by rw [hb1.cell (by simp)]; simp); clear hb1)
  simp at hz1
  have P0 : Hid (PW w1 ((w1.alloc (.cells (madeCells #[.int .i64 0] n) 3)).alloc (.cells #[.slice (some ⟨w1.heap.size, 0, none⟩) n n] 46)) n (List.range 0 ++ List.replicate (n - 0) 0)) :=
    ⟨by simp, ((Below.refl _ _).alloc (Nat.le_refl _) _).alloc (by simp) _, cell_at (by simp) _ _ 0 rfl, by simpa using (own_made rfl n (by unfold maxLen; omega)).alloc _⟩
  go_loopw [4, 22] (fun _ i wr => ∃ k : Nat, k ≤ n ∧ i = .int .i64 k ∧ PW w1 wr n (List.range k ++ List.replicate (n - k) 0)) (fun _ i _ => n - (intOf i).toNat)
  case atStart => exact ⟨0, Nat.zero_le _, rfl, P0.out⟩
  case round =>
    obtain ⟨k, hk, rfl, hp⟩ := hrel
    have HP := Lib.hid hp
    have hd := hp.hd
    have hps := hp.size
    clear hp
    by_cases hlt : k < n
    · have c0 := own_NL_cell HP.out.own (j := k) hlt
      have f0 := HP.out.own.frozen k
      generalize NA (List.range k ++ List.replicate (n - k) 0) k = old at c0
      go_wp2
      go_roundw
      case rel => exact ⟨k + 1, by omega, by go_num, by have := HP.out.store k k; rw [fill_step hlt] at this; exact this⟩
      case measure => simp [intOf]; omega
    · obtain rfl : k = n := by omega
      have PS : Hid (PW w1 wr k (List.range k)) := by have := HP.out; rw [Nat.sub_self, List.replicate_zero, List.append_nil] at this; exact this
      have hz2 := HP.out.bel.size
      have p1 : wr.cell? ⟨w.heap.size, 1, none⟩ = some (.slice A m c) := by rw [HP.out.bel.cell (by simp; omega)]; exact q1
      clear HV
      go_wp2
      go_loopw [7, 8, 9, 34] (fun _ _ _ i w3 => ∃ (t : Nat) (p : List Nat), t ≤ m ∧ i = .int .i64 t ∧ PW w1 w3 k p ∧ UInv k es (es.take t) p) (fun _ _ _ i _ => m - (intOf i).toNat)
      case atStart => exact ⟨0, List.range k, Nat.zero_le _, rfl, PS.out, by rw [List.take_zero]; exact UInv.start k es⟩
      case round =>
        obtain ⟨t, p, ht, rfl, hp, hu⟩ := hrel
        have HP3 := Lib.hid hp
        have HU := Lib.hid hu
        have hd3 := hp.hd
        have hps3 := hp.size
        have hz3 := hp.bel.size
        have p0 : wr.cell? ⟨w.heap.size, 0, none⟩ = some (.int .i64 k) := by rw [hp.bel.cell (by simp; omega)]; exact q0
        have RD := Lib.hid (R1.out.keep (Keeps.of_below hp.bel (Nat.le_refl _)))
        clear hp hu
        by_cases hltt : t < m
        · obtain ⟨ad, rfl, c0, c1⟩ := RD.out.prs_at hltt
          generalize hxy : es.getD t (0, 0) = xy at c0 c1
          obtain ⟨x, y⟩ := xy
          simp only at c0 c1
          obtain ⟨hst, hmem⟩ := es_take (by rw [HE.out]; exact hltt) hxy
          obtain ⟨hx0, hxy0, hyN⟩ := HEN.out _ hmem
          simp only at hx0 hxy0 hyN
          obtain ⟨a, rfl⟩ : ∃ a : Nat, x = a := ⟨x.toNat, by omega⟩
          obtain ⟨b, rfl⟩ : ∃ b : Nat, y = b := ⟨y.toNat, by omega⟩
          obtain ⟨ra, hra, hla⟩ := root_ex HU.out.le a (by omega)
          obtain ⟨rb, hrb, hlb⟩ := root_ex HU.out.le b (by omega)
          have USTEP : Hid (UInv k es (es.take (t + 1)) (p.set (max ra rb) (min ra rb))) := by
            unfold Hid
            rw [hst]
            exact HU.out.step HEN.out hmem (fun x hx => List.mem_of_mem_take hx) (by simpa using hra) (by simpa using hrb)
          have cA := call_r (w := wr.alloc (.cells #[.int .i64 (a : Int), .int .i64 (b : Int)] 41)) (fun w' hk' => root_at a ra k k w1.heap.size p ⟨w1.heap.size + 1, 0, none⟩ w' (hk' _ _ (Keeps.alloc _ _ _ _ hd3)) ((HP3.out.rd.keep (Keeps.alloc _ _)).keep hk') HU.out.le (by omega) (by omega) hra)
          have cB := call_r (w := wr.alloc (.cells #[.int .i64 (a : Int), .int .i64 (b : Int)] 41)) (fun w' hk' => root_at b rb k k w1.heap.size p ⟨w1.heap.size + 1, 0, none⟩ w' (hk' _ _ (Keeps.alloc _ _ _ _ hd3)) ((HP3.out.rd.keep (Keeps.alloc _ _)).keep hk') HU.out.le (by omega) (by omega) hrb)
          have l0 := grown_cell (w := wr.alloc (.cells #[.int .i64 (a : Int), .int .i64 (b : Int)] 41)) (a := ⟨wr.heap.size, 0, none⟩) (v := .int .i64 (a : Int)) (by simp)
          have l1 := grown_cell (w := wr.alloc (.cells #[.int .i64 (a : Int), .int .i64 (b : Int)] 41)) (a := ⟨wr.heap.size, 1, none⟩) (v := .int .i64 (b : Int)) (by simp)
          clear hra hrb hst hmem hxy
          go_wp2
          refine wp_region_q (by kernel_rfl) (by kernel_rfl) ?_
          repeat (go_big_quiet_step (first | with_reducible exact cA _ _ | with_reducible exact cB _ _))
          refine wpQuiet_nil ?_
          intro wq hgq
          have HPQ : Hid (PW w1 wq k p) := Lib.hid ((HP3.out.later ((Below.refl _ _).alloc (Nat.le_refl _) _)).later hgq)
          have hdq := HPQ.out.hd
          clear hgq cA cB l0 l1
          rcases Nat.lt_trichotomy ra rb with hab | hab | hab
          · have e1 : max ra rb = rb := by omega
            have e2 : min ra rb = ra := by omega
            have US := USTEP.out
            rw [e1, e2] at US
            have UST := Lib.hid US
            have d0 := own_NL_cell HPQ.out.own (j := rb) (by omega)
            have f0 := HPQ.out.own.frozen rb
            generalize NA p rb = old at d0
            have em : max (ra : Int) (rb : Int) = (rb : Int) := by omega
            have en : min (ra : Int) (rb : Int) = (ra : Int) := by omega
            have hr0 : (0 : Int) ≤ (rb : Int) := by omega
            have hr1 : (rb : Int) < (k : Int) := by omega
            clear US e1 e2
            go_wp2
            all_goals
              go_roundw
              case rel => exact ⟨t + 1, _, by omega, by go_num, HPQ.out.store rb ra, UST.out⟩
              case measure => simp [intOf]; omega
          · subst hab
            have e1 : max ra ra = ra := by omega
            have e2 : min ra ra = ra := by omega
            have US := USTEP.out
            rw [e1, e2] at US
            have UST := Lib.hid US
            have d0 := own_NL_cell HPQ.out.own (j := ra) (by omega)
            have f0 := HPQ.out.own.frozen ra
            generalize NA p ra = old at d0
            have hr0 : (0 : Int) ≤ (ra : Int) := by omega
            have hr1 : (ra : Int) < (k : Int) := by omega
            have em : max (ra : Int) (ra : Int) = (ra : Int) := by omega
            have en : min (ra : Int) (ra : Int) = (ra : Int) := by omega
            clear US e1 e2
            go_wp2
            all_goals
              go_roundw
              case rel => exact ⟨t + 1, _, by omega, by go_num, HPQ.out.store ra ra, UST.out⟩
              case measure => simp [intOf]; omega
          · have e1 : max ra rb = ra := by omega
            have e2 : min ra rb = rb := by omega
            have US := USTEP.out
            rw [e1, e2] at US
            have UST := Lib.hid US
            have d0 := own_NL_cell HPQ.out.own (j := ra) (by omega)
            have f0 := HPQ.out.own.frozen ra
            generalize NA p ra = old at d0
            have em : max (ra : Int) (rb : Int) = (ra : Int) := by omega
            have en : min (ra : Int) (rb : Int) = (rb : Int) := by omega
            have hr0 : (0 : Int) ≤ (ra : Int) := by omega
            have hr1 : (ra : Int) < (k : Int) := by omega
            clear US e1 e2
            go_wp2
            all_goals
              go_roundw
              case rel => exact ⟨t + 1, _, by omega, by go_num, HPQ.out.store ra rb, UST.out⟩
              case measure => simp [intOf]; omega
        · obtain rfl : t = m := by omega
          have hu := HU.out
          rw [List.take_of_length_le (by rw [HE.out]; exact Nat.le_refl _)] at hu
          have GR := Lib.hid (roots_good HEN.out hu)
          have GM := Lib.hid (marks_good HEN.out)
          have HULE := Lib.hid hu.le
          have heqf : ∀ i, i < k → rootF p i = marksF k es i := fun i hi => GR.out.uniq GM.out hi
          have HEQ := Lib.hid heqf
          clear hu heqf
          rename World => w4
          have hd4 := hd3
          have hroot : ∀ i, i < k → Root p i (marksF k es i) ∧ marksF k es i ≤ i ∧ marksF k es (marksF k es i) = marksF k es i := fun i hi => by
            obtain ⟨r, hr, hle⟩ := root_ex HULE.out i hi
            have e1 : marksF k es i = r := by rw [← HEQ.out i hi]; exact rootF_root hr
            rw [e1]
            exact ⟨hr, hle, by have := GM.out.idem hi; show marksF k es r = r; rw [← e1]; exact this⟩
          have ROOT := Lib.hid hroot
          clear hroot
          have p0a : (w4.alloc (.cells (madeCells #[.int .i64 0] k) 3)).cell? ⟨w.heap.size, 0, none⟩ = some (.int .i64 k) := by rw [World.cell?_alloc_lt _ _ _ (by simp; omega)]; exact p0
          go_wp2
          go_loopw [10, 12, 13, 60] (fun o _ _ i wr => Below w4.heap.size w4 wr ∧ w4.heap.size < wr.heap.size ∧ ∃ (q : Nat) (pl : List Nat) (C : Option Addr) (cC : Nat) (hs : List (Option Addr × Nat)), q ≤ k ∧ i = .int .i64 q ∧ o = .slice C (compsK (marksF k es) q).length cC ∧ OwnM wr (w4.heap.size + 1) C (compsK (marksF k es) q).length cC hs ((compsK (marksF k es) q).map NL) ∧ Own wr w4.heap.size 3 1 (some ⟨w4.heap.size, 0, none⟩) k k (ints (NL pl)) ∧ ∀ v, v < q → marksF k es v = v → NA pl v = placeF (marksF k es) v) (fun _ _ _ i _ => k - (intOf i).toNat)
          case atStart => exact ⟨(Below.refl _ _).alloc (Nat.le_refl _) _, by simp, 0, List.replicate k 0, none, 0, [], Nat.zero_le _, rfl, rfl, OwnM.nil _ _, own_made rfl k (by unfold maxLen; omega), fun v hv => absurd hv (by omega)⟩
          case round =>
            obtain ⟨hb, hsz, q, pl, C, cC, hs, hq, rfl, rfl, hom, hop, hpl⟩ := hrel
            have PWr : Hid (PW w1 wr k p) := Lib.hid (HP3.out.later hb)
            have hdr := PWr.out.hd
            have BEL := Lib.hid hb
            have OM := Lib.hid hom
            have OP := Lib.hid hop
            have PL := Lib.hid hpl
            clear hb hom hop hpl
            by_cases hltq : q < k
            · obtain ⟨hroot, hfle, hfid⟩ := ROOT.out q hltq
              have HFID : Hid (∀ j, j < k → marksF k es (marksF k es j) = marksF k es j ∧ marksF k es j ≤ j) := fun j hj => ⟨(ROOT.out j hj).2.2, (ROOT.out j hj).2.1⟩
              have hql : (compsK (marksF k es) q).length ≤ q := by rw [compsK_len]; exact reps_le _ _
              have HPLE : Hid ((compsK (marksF k es) q).length = placeF (marksF k es) q) := by unfold Hid placeF; rw [compsK_len]
              generalize hQ : (compsK (marksF k es) q).length = ql at OM hql HPLE ⊢
              have HQL := Lib.hid hQ
              generalize hr : marksF k es q = r at hroot hfle hfid
              have HR := Lib.hid hr
              have HRT := Lib.hid hroot
              have HFI := Lib.hid hfid
              clear hQ hr hroot hfid
              by_cases hrq : r = q
              · obtain rfl : q = r := hrq.symm
                have c0 := own_NL_cell OP.out (j := q) hltq
                have f0 := OP.out.frozen q
                generalize NA pl q = old at c0
                have hqq : ((q : Int) == (q : Int)) = true := by simp
                go_wp2_with (first
                  | (go_at_call 34; refine (root_at q q k k w1.heap.size p ⟨w1.heap.size + 1, 0, none⟩ _ hdr PWr.out.rd HULE.out hltq (by omega) HRT.out).mono ?_; rintro e w5 ⟨rfl, rfl⟩)
                  | (at_builtin; refine wpList_app _ rfl (.tmp 74) (.tmp 75) 44 rfl (w4.heap.size + 1) 46 (.slice none 0 0) 1 24 Tryz.underlying44 info_ints rfl (by decide) C ql cC (heads hs ((compsK (marksF k es) q).map NL)) rfl ((OwnM.alloc (OM.out.setOther (p := ⟨w4.heap.size, q, none⟩) (by simp) (.int .i64 (ql : Int))) _).outer) (some ⟨wr.heap.size, 0, none⟩) 1 1 [.slice none 0 0] rfl (rd_new_at (by simp) 1 1 [.slice none 0 0] _ rfl) head_one (by omega) (by unfold maxLen; omega) (by simp; omega) ?_; intro B6 c6 w6 ho6 hg6 hb6; have OMs := OwnM.alloc (OM.out.setOther (p := ⟨w4.heap.size, q, none⟩) (by simp) (.int .i64 (ql : Int))) (.cells #[.slice none 0 0] 46); have OM6 := Lib.hid (OwnM.pushNil OMs ho6 hg6); have b6 : Below (w4.heap.size + 1) (wr.setCell ⟨w4.heap.size, q, none⟩ (.int .i64 (ql : Int))) w6 := ((Below.refl _ _).alloc (by simp; omega) _).grown hg6 (by simp; omega) (fun b hb => (OMs.outer.lt hb).1); have hz6 := b6.size; simp at hz6; have BEL6 : Hid (Below w4.heap.size w4 w6) := Lib.hid ((BEL.out.setCell (by simp) _).trans (b6.mono (by omega))); have OP6 : Hid (Own w6 w4.heap.size 3 1 (some ⟨w4.heap.size, 0, none⟩) k k (ints (NL (pl.set q ql)))) := Lib.hid ((own_NL_store OP.out q ql).below b6 (fun b hb => blk_lt hb (Nat.lt_succ_self _))); clear OMs ho6 hg6 b6 hb6)
                  | fail)
                have pc := own_NL_cell OP6.out (j := q) hltq
                rw [NA_set_same (by have := OP.out.len; rw [ints_NL_len] at this; omega)] at pc
                have hdx : (hs ++ [(none, 0)])[ql]? = some (none, 0) := by rw [List.getElem?_append_right (by rw [OM.out.hlen]; exact Nat.le_refl _), OM.out.hlen, Nat.sub_self]; rfl
                have hlx : ((compsK (marksF k es) q).map NL ++ [[]])[ql]? = some (NL []) := by rw [List.getElem?_append_right (by rw [List.length_map, HQL.out]; exact Nat.le_refl _), List.length_map, HQL.out, Nat.sub_self]; rfl
                obtain ⟨lr, hlr⟩ : ∃ lr : List Nat, lr = [] := ⟨_, rfl⟩
                obtain ⟨hd, hhd⟩ : ∃ hd : Option Addr × Nat, hd = (none, 0) := ⟨_, rfl⟩
                have HDX : Hid ((hs ++ [(none, 0)])[ql]? = some hd) := by unfold Hid; rw [hhd]; exact hdx
                have HLX : Hid (((compsK (marksF k es) q).map NL ++ [[]])[ql]? = some (NL lr)) := by unfold Hid; rw [hlr]; exact hlx
                clear hdx hlx
                have hlrl : (NL lr).length ≤ 60 := by rw [hlr]; simp [NL]
                have hi2 : (ql : Int) < (ql : Int) + 1 := by omega
                have HLR := Lib.hid hlr
                clear hlr hhd
                have ROW := Lib.hid (OM6.out.row _ _ _ HDX.out HLX.out)
                obtain ⟨g, rfl, hgb, hgl⟩ := OM6.out.some_ (by omega)
                have hc := OM6.out.head_at HDX.out HLX.out
                generalize hln : (NL lr).length = ln at ROW hc
                have HLN := Lib.hid hln
                have hc' : w6.cell? ⟨g, ql, none⟩ = some (.slice hd.1 ln hd.2) := hc
                have fz : w6.frozen? ⟨g, ql, none⟩ = false := OM6.out.outer.frozen ql
                have pca : (w6.drew.alloc (.cells #[.int .i64 (q : Int)] 3)).cell? ⟨w4.heap.size, q, none⟩ = some (.int .i64 (ql : Nat)) := Keeps.alloc w6.drew _ _ _ pc
                have hca : (w6.drew.alloc (.cells #[.int .i64 (q : Int)] 3)).cell? ⟨g, ql, none⟩ = some (.slice hd.1 ln hd.2) := Keeps.alloc w6.drew _ _ _ hc
                have pcb : (w6.alloc (.cells #[.int .i64 (q : Int)] 3)).cell? ⟨w4.heap.size, q, none⟩ = some (.int .i64 (ql : Nat)) := Keeps.alloc w6 _ _ _ pc
                have hcb : (w6.alloc (.cells #[.int .i64 (q : Int)] 3)).cell? ⟨g, ql, none⟩ = some (.slice hd.1 ln hd.2) := Keeps.alloc w6 _ _ _ hc
                have hr0 : (0 : Int) ≤ (q : Int) := by omega
                have hr1 : (q : Int) < (k : Int) := by omega
                have hi0 : (0 : Int) ≤ ((ql : Nat) : Int) := by omega
                have hi1 : ((ql : Nat) : Int) < (((ql + 1) : Nat) : Int) := by omega
                have hlnk : ln ≤ 60 := by omega
                obtain ⟨Bh, dh⟩ := hd
                simp only at ROW hc' hca hc hcb
                clear hc hln
                have EQL : Hid ((compsK (marksF k es) (q + 1)).length = ql + 1) := Lib.hid (by rw [compsK_new hltq HFID.out HR.out, List.length_append, HQL.out]; rfl)
                have EQS : Hid (((compsK (marksF k es) q).map NL ++ [[]]).set ql (NL lr ++ [(q : Int)]) = (compsK (marksF k es) (q + 1)).map NL) := Lib.hid (by
                  rw [HLR.out, compsK_new hltq HFID.out HR.out, List.map_append, List.set_append_right _ _ (by rw [List.length_map, HQL.out]; exact Nat.le_refl _), List.length_map, HQL.out, Nat.sub_self]; rfl)
                have PLN : Hid (∀ v, v < q + 1 → marksF k es v = v → NA (pl.set q ql) v = placeF (marksF k es) v) := Lib.hid (by
                   intro v hv hfv
                   by_cases e : v = q
                   · subst e
                     rw [NA_set_same (by have := OP.out.len; rw [ints_NL_len] at this; omega)]; exact HPLE.out
                   · rw [NA_set_ne (fun h => e h.symm)]; exact PL.out v (by omega) hfv)
                have H46 : Hid (w4.heap.size < w6.heap.size) := Lib.hid (by omega)
                have EQL : Hid ((compsK (marksF k es) (q + 1)).length = ql + 1) := Lib.hid (by rw [compsK_new hltq HFID.out HR.out, List.length_append, HQL.out]; rfl)
                have EQS : Hid (((compsK (marksF k es) q).map NL ++ [[]]).set ql (NL lr ++ [(q : Int)]) = (compsK (marksF k es) (q + 1)).map NL) := Lib.hid (by
                  rw [HLR.out, compsK_new hltq HFID.out HR.out, List.map_append, List.set_append_right _ _ (by rw [List.length_map, HQL.out]; exact Nat.le_refl _), List.length_map, HQL.out, Nat.sub_self]; rfl)
                have PLN : Hid (∀ v, v < q + 1 → marksF k es v = v → NA (pl.set q ql) v = placeF (marksF k es) v) := Lib.hid (by
                   intro v hv hfv
                   by_cases e : v = q
                   · subst e
                     rw [NA_set_same (by have := OP.out.len; rw [ints_NL_len] at this; omega)]; exact HPLE.out
                   · rw [NA_set_ne (fun h => e h.symm)]; exact PL.out v (by omega) hfv)
                have H46 : Hid (w4.heap.size < w6.heap.size) := Lib.hid (by omega)
                go_region_law ((first
                  | (refine step_app _ rfl (.tmp 88) (.tmp 90) 46 rfl (w4.heap.size + 1) 3 (.int .i64 0) 1 8 Tryz.underlying46 info_int' rfl (by decide) Bh ln dh (ints (NL lr)) (by simp [Act.eval, Act.put]) (Own.alloc (w := w6.drew) ROW.out _) (some ⟨w6.heap.size, 0, none⟩) 1 1 (ints [(q : Int)]) (by simp [Act.eval, Act.put]) (rd_lit_at rfl [(q : Int)] _) (ints_one _) (by omega) (by unfold maxLen; omega) (by simp; omega) ?_; intro B7 c7 w7 ho7 hg7 hb7; have ROWa := Own.alloc (w := w6.drew) ROW.out (.cells #[.int .i64 (q : Int)] 3); have OUTa := (OwnM.alloc (OwnM.drew OM6.out) (.cells #[.int .i64 (q : Int)] 3)); have pc7 := own_app_cell ROWa hg7 pca (by simp); have OUT7 := OUTa.outer.apart hg7 (OUTa.outer.apart_type ROWa (by decide)); have hc7 : w7.cell? ⟨g, ql, none⟩ = some (.slice Bh ln dh) := World.grownBy.cell hg7 hca (fun e => (ROWa.apart_type OUTa.outer (by decide)).elim (fun h => by rw [h] at e; cases e) (fun h => h e.symm)); have fz7 : w7.frozen? ⟨g, ql, none⟩ = false := OUT7.frozen ql; have OM7 : Hid (OwnM (w7.setCell ⟨g, ql, none⟩ (.slice B7 (ln + 1) c7)) (w4.heap.size + 1) (some ⟨g, 0, none⟩) (ql + 1) _ _ _) := Lib.hid (by have h9 := OwnM.setRow (l' := NL lr ++ [(q : Int)]) (d := c7) (B := B7) OUTa HDX.out HLX.out hg7 (by rw [List.length_append, HLN.out]; exact (by rw [ints_app]; exact ho7)) (hb7.imp id .inl); rw [List.length_append, HLN.out] at h9; exact h9); have B7b : Hid (Below (w4.heap.size + 1) w6 w7) := Lib.hid (((Below.refl _ _).drew.alloc (by simp; omega) _).grown hg7 (by simp; omega) (fun b hb => (ROWa.lt hb).1)); have OP7 := Lib.hid (OP6.out.below B7b.out (fun b hb => blk_lt hb (Nat.lt_succ_self _))); clear ROWa OUTa OUT7 ho7 hg7 hb7)
                  | fail))
                all_goals
                 try clear pca
                 try clear hca
                 try clear pcb
                 try clear hcb
                 try clear hc'
                 try clear pc
                 try clear fz
                 try clear pc7
                 try clear hc7
                 try clear fz7
                 try clear hr0
                 try clear hr1
                 try clear hi0
                 try clear hi1
                 try clear hi2
                 try clear hlrl
                 try clear hlnk
                 go_wp2
                 go_roundw
                 case rel => exact rel_row BEL6.out H46.out B7b.out hgb OM7.out OP7.out EQL.out EQS.out hltq PLN.out
                 case measure => exact meas hltq
              · have hrlt : r < q := by omega
                have HRQ := Lib.hid hrq
                have EOLD : Hid (compsK (marksF k es) (q + 1) = (compsK (marksF k es) q).set (placeF (marksF k es) r) (cls (marksF k es) q r ++ [q])) := by
                  have := compsK_old (f := marksF k es) hltq (HFID.out q hltq).2 (HFID.out q hltq).1 (by rw [HR.out]; exact hrq)
                  rw [HR.out] at this
                  exact this
                have hgetc := compsK_get (f := marksF k es) (i := q) hrlt HFI.out
                have hpcl : (cls (marksF k es) q r).length ≤ 60 := by have := cls_le (marksF k es) q r; omega
                have hix : placeF (marksF k es) r < ql := by rw [← HQL.out]; exact place_lt hrlt HFI.out
                have pc := own_NL_cell OP.out (j := r) (by omega)
                rw [PL.out r hrlt HFI.out] at pc
                generalize hlr : cls (marksF k es) q r = lr at hgetc hpcl EOLD
                generalize placeF (marksF k es) r = ix at hgetc hix pc EOLD
                have hlx : ((compsK (marksF k es) q).map NL)[ix]? = some (NL lr) := by rw [List.getElem?_map, hgetc]; rfl
                obtain ⟨hd, hdx⟩ := OM.out.get hlx
                have HDX := Lib.hid hdx
                have HLX := Lib.hid hlx
                have hlrl : (NL lr).length ≤ 60 := by rw [NL_len]; exact hpcl
                have hrb : ((r : Int) == (q : Int)) = false := by simp; omega
                clear hdx hlx hgetc hlr hrq
                go_wp2_with (go_at_call 34; refine (root_at q r k k w1.heap.size p ⟨w1.heap.size + 1, 0, none⟩ _ hdr PWr.out.rd HULE.out hltq (by omega) HRT.out).mono ?_; rintro e w5 ⟨rfl, rfl⟩)
                have ROW := Lib.hid (OM.out.row _ _ _ HDX.out HLX.out)
                obtain ⟨g, rfl, hgb, hgl⟩ := OM.out.some_ (by omega)
                have hc := OM.out.head_at HDX.out HLX.out
                generalize hln : (NL lr).length = ln at ROW hc
                have HLN := Lib.hid hln
                have hc' : wr.cell? ⟨g, ix, none⟩ = some (.slice hd.1 ln hd.2) := hc
                have fz : wr.frozen? ⟨g, ix, none⟩ = false := OM.out.outer.frozen ix
                have pca : (wr.drew.alloc (.cells #[.int .i64 (q : Int)] 3)).cell? ⟨w4.heap.size, r, none⟩ = some (.int .i64 (ix : Nat)) := Keeps.alloc wr.drew _ _ _ pc
                have hca : (wr.drew.alloc (.cells #[.int .i64 (q : Int)] 3)).cell? ⟨g, ix, none⟩ = some (.slice hd.1 ln hd.2) := Keeps.alloc wr.drew _ _ _ hc
                have pcb : (wr.alloc (.cells #[.int .i64 (q : Int)] 3)).cell? ⟨w4.heap.size, r, none⟩ = some (.int .i64 (ix : Nat)) := Keeps.alloc wr _ _ _ pc
                have hcb : (wr.alloc (.cells #[.int .i64 (q : Int)] 3)).cell? ⟨g, ix, none⟩ = some (.slice hd.1 ln hd.2) := Keeps.alloc wr _ _ _ hc
                have hr0 : (0 : Int) ≤ (r : Int) := by omega
                have hr1 : (r : Int) < (k : Int) := by omega
                have hi0 : (0 : Int) ≤ ((ix : Nat) : Int) := by omega
                have hi1 : ((ix : Nat) : Int) < ((ql : Nat) : Int) := by omega
                have hlnk : ln ≤ 60 := by omega
                obtain ⟨Bh, dh⟩ := hd
                simp only at ROW hc' hca hc hcb
                clear hc hln
                have EQL : Hid ((compsK (marksF k es) (q + 1)).length = ql) := Lib.hid (by rw [EOLD.out, List.length_set, HQL.out])
                have EQS : Hid (((compsK (marksF k es) q).map NL).set ix (NL lr ++ [(q : Int)]) = (compsK (marksF k es) (q + 1)).map NL) := Lib.hid (by
                  rw [EOLD.out, map_set', NL_app]; rfl)
                have PLN : Hid (∀ v, v < q + 1 → marksF k es v = v → NA pl v = placeF (marksF k es) v) := Lib.hid (by
                   intro v hv hfv
                   by_cases e : v = q
                   · subst e; exact absurd (HR.out.symm.trans hfv) HRQ.out
                   · exact PL.out v (by omega) hfv)
                have H46 : Hid (w4.heap.size < wr.heap.size) := Lib.hid (by omega)
                have EQL : Hid ((compsK (marksF k es) (q + 1)).length = ql) := Lib.hid (by rw [EOLD.out, List.length_set, HQL.out])
                have EQS : Hid (((compsK (marksF k es) q).map NL).set ix (NL lr ++ [(q : Int)]) = (compsK (marksF k es) (q + 1)).map NL) := Lib.hid (by
                  rw [EOLD.out, map_set', NL_app]; rfl)
                have PLN : Hid (∀ v, v < q + 1 → marksF k es v = v → NA pl v = placeF (marksF k es) v) := Lib.hid (by
                   intro v hv hfv
                   by_cases e : v = q
                   · subst e; exact absurd (HR.out.symm.trans hfv) HRQ.out
                   · exact PL.out v (by omega) hfv)
                have H46 : Hid (w4.heap.size < wr.heap.size) := Lib.hid (by omega)
                go_region_law ((first
                  | (refine step_app _ rfl (.tmp 88) (.tmp 90) 46 rfl (w4.heap.size + 1) 3 (.int .i64 0) 1 8 Tryz.underlying46 info_int' rfl (by decide) Bh ln dh (ints (NL lr)) (by simp [Act.eval, Act.put]) (Own.alloc (w := wr.drew) ROW.out _) (some ⟨wr.heap.size, 0, none⟩) 1 1 (ints [(q : Int)]) (by simp [Act.eval, Act.put]) (rd_lit_at rfl [(q : Int)] _) (ints_one _) (by omega) (by unfold maxLen; omega) (by simp; omega) ?_; intro B7 c7 w7 ho7 hg7 hb7; have ROWa := Own.alloc (w := wr.drew) ROW.out (.cells #[.int .i64 (q : Int)] 3); have OUTa := (OwnM.alloc (OwnM.drew OM.out) (.cells #[.int .i64 (q : Int)] 3)); have pc7 := own_app_cell ROWa hg7 pca (by simp); have OUT7 := OUTa.outer.apart hg7 (OUTa.outer.apart_type ROWa (by decide)); have hc7 : w7.cell? ⟨g, ix, none⟩ = some (.slice Bh ln dh) := World.grownBy.cell hg7 hca (fun e => (ROWa.apart_type OUTa.outer (by decide)).elim (fun h => by rw [h] at e; cases e) (fun h => h e.symm)); have fz7 : w7.frozen? ⟨g, ix, none⟩ = false := OUT7.frozen ix; have OM7 : Hid (OwnM (w7.setCell ⟨g, ix, none⟩ (.slice B7 (ln + 1) c7)) (w4.heap.size + 1) (some ⟨g, 0, none⟩) ql _ _ _) := Lib.hid (by have h9 := OwnM.setRow (l' := NL lr ++ [(q : Int)]) (d := c7) (B := B7) OUTa HDX.out HLX.out hg7 (by rw [List.length_append, HLN.out]; exact (by rw [ints_app]; exact ho7)) (hb7.imp id .inl); rw [List.length_append, HLN.out] at h9; exact h9); have B7b : Hid (Below (w4.heap.size + 1) wr w7) := Lib.hid (((Below.refl _ _).drew.alloc (by simp; omega) _).grown hg7 (by simp; omega) (fun b hb => (ROWa.lt hb).1)); have OP7 := Lib.hid (OP.out.below B7b.out (fun b hb => blk_lt hb (Nat.lt_succ_self _))); clear ROWa OUTa OUT7 ho7 hg7 hb7)
                  | fail))
                all_goals
                 try clear pca
                 try clear hca
                 try clear pcb
                 try clear hcb
                 try clear hc'
                 try clear pc
                 try clear fz
                 try clear pc7
                 try clear hc7
                 try clear fz7
                 try clear hr0
                 try clear hr1
                 try clear hi0
                 try clear hi1
                 try clear hi2
                 try clear hlrl
                 try clear hlnk
                 go_wp2
                 go_roundw
                 case rel => exact rel_row BEL.out H46.out B7b.out hgb OM7.out OP7.out EQL.out EQS.out hltq PLN.out
                 case measure => exact meas hltq
            · obtain rfl : q = k := by omega
              go_wp2
              go_ret
              have e2 : ((compsK (marksF q es) q).map NL).length = (compsK (marksF q es) q).length := by rw [List.length_map]
              refine ⟨S2.out.trans ((HP3.out.bel.trans (BEL.out.mono (by omega))).mono (by omega)), C, cC, ret_slice e2.symm, ?_⟩
              rw [e2]
              exact OM.out.ownL.base_le (by omega)
end Go.Proofs.YtpdbekgkopglgaaGreat
