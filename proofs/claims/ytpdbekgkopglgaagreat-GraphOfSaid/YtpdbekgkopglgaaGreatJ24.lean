/-
  Contracts and lemmas for the statement, joined: G9, L2.
-/
import Derived.Test.YtpdbekgkopglgaaGreatJ19
import Derived.Test.YtpdbekgkopglgaaGreatJ22
import Derived.Test.YtpdbekgkopglgaaGreatJ23
import Derived.Test.YtpdbekgkopglgaaGreatJ2
namespace Go.Proofs.YtpdbekgkopglgaaGreat
set_option linter.unusedVariables false
set_option linter.unusedSimpArgs false
open Go.RowKit Go.Sort

theorem ret_ib' {a a' : Int} {b b' : Bool} (h : a = a') (k : b = b') : Ending.returned (.tuple #[.int .i64 a, .bool b]) = .returned (.tuple #[.int .i64 a', .bool b']) := by rw [h, k]
theorem countP_split {α : Type} (p : α → Bool) (d : α) : ∀ (l : List α) (i : Nat), i ≤ l.length → (∀ j, j < i → p (l.getD j d) = true) → (∀ j, i ≤ j → j < l.length → p (l.getD j d) = false) → l.countP p = i
  | [], i, hi, _, _ => by simp at hi; simp [hi]
  | a :: l, 0, _, _, h2 => by
    rw [List.countP_eq_zero]
    intro x hx
    obtain ⟨j, hj, rfl⟩ := List.getElem_of_mem hx
    have := h2 j (Nat.zero_le _) hj
    rw [List.getD_eq_getElem?_getD, List.getElem?_eq_getElem hj] at this
    simpa using this
  | a :: l, i + 1, hi, h1, h2 => by
    have ha : p a = true := by simpa using h1 0 (Nat.succ_pos _)
    rw [List.countP_cons_of_pos ha, countP_split p d l i (by simpa using hi) (fun j hj => by simpa using h1 (j + 1) (by omega)) (fun j h3 h4 => by simpa using h2 (j + 1) (by omega) (by simpa using h4))]
def bsI (l : List (Int × Int)) (t : Int × Int) : Int := (l.countP fun x => befB x.1 x.2 t.1 t.2 : Nat)
def ltAt (l : List (Int × Int)) (t : Int × Int) (j : Nat) : Prop := befB (PAt l j).1 (PAt l j).2 t.1 t.2 = true
theorem bs_none {l : List (Int × Int)} {t : Int × Int} {i : Nat} (h2 : ∀ j, i ≤ j → j < l.length → ¬ ltAt l t j) (h1 : ∀ j, j < i → ltAt l t j) (hs : l.Pairwise lt2) (h : ¬ (i < l.length ∧ PAt l i = t)) : t ∉ l := by
  intro hm
  obtain ⟨j, hj, rfl⟩ := List.getElem_of_mem hm
  have e : PAt l j = l[j] := by unfold PAt; rw [List.getD_eq_getElem?_getD, List.getElem?_eq_getElem hj]; rfl
  rcases Nat.lt_trichotomy j i with h3 | h3 | h3
  · have := h1 j h3
    unfold ltAt at this
    rw [e, befB_iff] at this
    omega
  · subst h3; exact h ⟨hj, e⟩
  · have hi : i < l.length := by omega
    have := h2 i (Nat.le_refl _) hi
    have hl := List.pairwise_iff_getElem.1 hs i j hi hj h3
    have ei : PAt l i = l[i] := by unfold PAt; rw [List.getD_eq_getElem?_getD, List.getElem?_eq_getElem hi]; rfl
    unfold ltAt at this
    rw [ei, befB_iff] at this
    exact this hl
theorem cmpE_zero {a b c d : Int} : cmpE a b c d = 0 ↔ a = c ∧ b = d := by
  unfold cmpE orI cmpI
  grind

set_option maxRecDepth 100000 in
set_option maxHeartbeats 4000000 in
theorem bs_any (A : Option Addr) (n c : Nat) (l : List (Int × Int)) (t : Int × Int) (w : World) (hn : n ≤ 1000000) (he : Rd w 2 A n (prs l)) (hs : l.Pairwise lt2) :
    Calls Tryz.prog 50 #[.slice A n c, .agg #[.int .i64 t.1, .int .i64 t.2], .func (.func 27) #[] #[]] w fun e w' => e = .returned (.tuple #[.int .i64 (bsI l t), .bool (decide (t ∈ l))]) ∧ Below w.heap.size w w' := by
  obtain ⟨a, b⟩ := t
  have HE := Lib.hid he.prs_len
  have H1 := Lib.hid (he.keep (Keeps.alloc w (.cells #[.int .i64 a, .int .i64 b] 41)))
  have HS := Lib.hid hs
  clear he hs
  generalize hbi : bsI l (a, b) = bi
  generalize hbm : decide ((a, b) ∈ l) = bm
  have HBI := Lib.hid hbi
  have HBM := Lib.hid hbm
  clear hbi hbm
  simp only
  go_enter Tryz.func50, Tryz.ntmps50
  go_wp2
  go_loopw [9, 10, 11] (fun s9 s10 _ wr => Below (w.heap.size + 1) (w.alloc (.cells #[.int .i64 a, .int .i64 b] 41)) wr ∧ ∃ lo hi : Nat, s9 = .int .i64 lo ∧ s10 = .int .i64 hi ∧ lo ≤ hi ∧ hi ≤ n ∧ (∀ j, j < lo → ltAt l (a, b) j) ∧ ∀ j, hi ≤ j → j < n → ¬ ltAt l (a, b) j) (fun s9 s10 _ _ => (intOf s10 - intOf s9).toNat)
  case atStart => exact ⟨Below.refl _ _, 0, n, rfl, rfl, Nat.zero_le _, Nat.le_refl _, by omega, by omega⟩
  case round =>
    obtain ⟨hb, lo, hi, rfl, rfl, hlh, hin, hl1, hl2⟩ := hrel
    have g0 : wr.cell? ⟨w.heap.size, 0, none⟩ = some (.int .i64 a) := by rw [hb.cell (by simp)]; simp
    have g1 : wr.cell? ⟨w.heap.size, 1, none⟩ = some (.int .i64 b) := by rw [hb.cell (by simp)]; simp
    have k0 := grown_cell g0
    have k1 := grown_cell g1
    have gs : w.heap.size < wr.heap.size := by have := hb.size; simp at this; omega
    have HB := Lib.hid hb
    have RD := Lib.hid (H1.out.keep (Keeps.of_below hb (by simp)))
    have L1 := Lib.hid hl1
    have L2 := Lib.hid hl2
    clear hb hl1 hl2
    by_cases hlt : lo < hi
    · obtain ⟨ad, rfl, c0, c1⟩ := RD.out.prs_at (k := (lo + hi) / 2) (by omega)
      generalize hxy : l.getD ((lo + hi) / 2) (0, 0) = xy at c0 c1
      obtain ⟨x, y⟩ := xy
      simp only at c0 c1
      have HXY : Hid (PAt l ((lo + hi) / 2) = (x, y)) := hxy
      have m0 := grown_cell c0
      have m1 := grown_cell c1
      clear hxy
      have cB := call_q (w := wr) (fun w' _ => gcompare_any x y a b w')
      generalize hz : cmpE x y a b = z at cB
      have HZ := Lib.hid hz
      clear hz
      have HBF := Lib.hid (befB_of HZ.out)
      have hh0 : (0 : Int) ≤ ((lo : Int) + (hi : Int)) / 2 := by omega
      have hh1 : ((lo : Int) + (hi : Int)) / 2 < (n : Int) := by omega
      by_cases hz0 : z < 0
      · go_wp2
        refine wp_region_q (by kernel_rfl) (by kernel_rfl) ?_
        repeat (go_big_quiet_step (exact cB _ _))
        refine wpQuiet_nil ?_
        intro wq hgq
        go_wp2
        go_roundw
        case rel =>
          refine ⟨HB.out.trans (hgq.mono (by omega)), (lo + hi) / 2 + 1, hi, by rw [show ((lo : Int) + (hi : Int)) / 2 + 1 = (((lo + hi) / 2 + 1 : Nat) : Int) by omega], rfl, by omega, hin, fun j hj => ?_, L2.out⟩
          have hm : ltAt l (a, b) ((lo + hi) / 2) := by
            unfold ltAt; rw [HXY.out]; show befB x y a b = true; rw [HBF.out, decide_eq_false (by omega)]; rfl
          by_cases e : j = (lo + hi) / 2
          · rw [e]; exact hm
          · have hp := List.pairwise_iff_getElem.1 HS.out j ((lo + hi) / 2) (by have := HE.out; omega) (by have := HE.out; omega) (by omega)
            have e1 : PAt l j = l[j]'(by have := HE.out; omega) := by unfold PAt; rw [List.getD_eq_getElem?_getD, List.getElem?_eq_getElem (by have := HE.out; omega)]; rfl
            have e2 : PAt l ((lo + hi) / 2) = l[(lo + hi) / 2]'(by have := HE.out; omega) := by unfold PAt; rw [List.getD_eq_getElem?_getD, List.getElem?_eq_getElem (by have := HE.out; omega)]; rfl
            unfold ltAt at hm ⊢
            rw [← e1, ← e2] at hp
            rw [befB_iff] at hm ⊢
            unfold lt2 at hp
            omega
        case measure => simp [intOf]; omega
      · go_wp2
        refine wp_region_q (by kernel_rfl) (by kernel_rfl) ?_
        repeat (go_big_quiet_step (exact cB _ _))
        refine wpQuiet_nil ?_
        intro wq hgq
        go_wp2
        go_roundw
        case rel =>
          refine ⟨HB.out.trans (hgq.mono (by omega)), lo, (lo + hi) / 2, rfl, by rw [show ((lo : Int) + (hi : Int)) / 2 = (((lo + hi) / 2 : Nat) : Int) by omega], by omega, by omega, L1.out, fun j hj hjn => ?_⟩
          have hm : ¬ ltAt l (a, b) ((lo + hi) / 2) := by
            unfold ltAt; rw [HXY.out]; show ¬ befB x y a b = true; rw [HBF.out, decide_eq_true (by omega)]; simp
          by_cases e : j = (lo + hi) / 2
          · rw [e]; exact hm
          · have hp := List.pairwise_iff_getElem.1 HS.out ((lo + hi) / 2) j (by have := HE.out; omega) (by have := HE.out; omega) (by omega)
            have e1 : PAt l j = l[j]'(by have := HE.out; omega) := by unfold PAt; rw [List.getD_eq_getElem?_getD, List.getElem?_eq_getElem (by have := HE.out; omega)]; rfl
            have e2 : PAt l ((lo + hi) / 2) = l[(lo + hi) / 2]'(by have := HE.out; omega) := by unfold PAt; rw [List.getD_eq_getElem?_getD, List.getElem?_eq_getElem (by have := HE.out; omega)]; rfl
            unfold ltAt at hm ⊢
            rw [← e1, ← e2] at hp
            rw [befB_iff] at hm ⊢
            unfold lt2 at hp
            omega
        case measure => simp [intOf]; omega
    · obtain rfl : lo = hi := by omega
      have hcnt : (lo : Int) = bi := by
        rw [← HBI.out]
        unfold bsI
        rw [countP_split (fun x : Int × Int => befB x.1 x.2 a b) (0, 0) l lo (by have := HE.out; omega) (fun j hj => L1.out j hj) (fun j h3 h4 => by
          have := L2.out j h3 (by have := HE.out; omega)
          unfold ltAt PAt at this
          simpa using this)]
      have HC := Lib.hid hcnt
      clear hcnt
      have fin : Hid (Below w.heap.size w wr) := ((Below.refl _ _).alloc (Nat.le_refl _) _).trans (HB.out.mono (by omega))
      by_cases hn2 : lo < n
      · obtain ⟨ad, rfl, c0, c1⟩ := RD.out.prs_at (k := lo) hn2
        generalize hxy : l.getD lo (0, 0) = xy at c0 c1
        obtain ⟨x, y⟩ := xy
        simp only at c0 c1
        have HXY : Hid (PAt l lo = (x, y)) := hxy
        have m0 := grown_cell c0
        have m1 := grown_cell c1
        clear hxy
        have cB := call_q (w := wr) (fun w' _ => gcompare_any x y a b w')
        generalize hz : cmpE x y a b = z at cB
        have HZ := Lib.hid hz
        clear hz
        cases hz0 : (z == 0)
        · have hbm : bm = false := by
            rw [← HBM.out, decide_eq_false_iff_not]
            refine bs_none (i := lo) (fun j h3 h4 => L2.out j h3 (by have := HE.out; omega)) L1.out HS.out ?_
            rintro ⟨-, h4⟩
            rw [HXY.out] at h4
            injection h4 with h5 h6
            have : z = 0 := by rw [← HZ.out, cmpE_zero]; exact ⟨h5, h6⟩
            simp [this] at hz0
          have HM := Lib.hid hbm
          clear hbm
          go_wp2
          refine wp_region_q (by kernel_rfl) (by kernel_rfl) ?_
          repeat (go_big_quiet_step (exact cB _ _))
          refine wpQuiet_nil ?_
          intro wq hgq
          go_wp2
          go_ret2
          exact ⟨ret_ib' HC.out HM.out.symm, fin.out.trans (hgq.mono (by omega))⟩
        · have hbm : bm = true := by
            rw [← HBM.out, decide_eq_true_iff]
            have : z = 0 := by simpa using hz0
            rw [← HZ.out, cmpE_zero] at this
            rw [← this.1, ← this.2, ← HXY.out]
            exact PAt_mem (by have := HE.out; omega)
          have HM := Lib.hid hbm
          clear hbm
          go_wp2
          refine wp_region_q (by kernel_rfl) (by kernel_rfl) ?_
          repeat (go_big_quiet_step (exact cB _ _))
          refine wpQuiet_nil ?_
          intro wq hgq
          go_wp2
          go_ret2
          exact ⟨ret_ib' HC.out HM.out.symm, fin.out.trans (hgq.mono (by omega))⟩
      · have hbm : bm = false := by
          rw [← HBM.out, decide_eq_false_iff_not]
          exact bs_none (i := lo) (fun j h3 h4 => L2.out j h3 (by have := HE.out; omega)) L1.out HS.out (fun h => by have := HE.out; omega)
        have HM := Lib.hid hbm
        clear hbm
        have hdd : decide ((lo : Int) < (n : Int)) = false := by simpa using hn2
        have hdn : decide (lo < n) = false := by simpa using hn2
        go_wp2
        refine wp_region_q (by kernel_rfl) (by kernel_rfl) ?_
        repeat (go_big_quiet_step (fail))
        refine wpQuiet_nil ?_
        intro wq hgq
        go_wp2
        go_ret2
        exact ⟨ret_ib' HC.out HM.out.symm, fin.out.trans (hgq.mono (by omega))⟩
theorem valid_strict {N : Int} {es : List (Int × Int)} (h : validB N es = true) : es.Pairwise lt2 := by
  have hv := ((validB_iff N es).1 h).2.2
  have hstep : ∀ k, k + 1 < es.length → lt2 (PAt es k) (PAt es (k + 1)) := fun k hk => by
    have := hv (k + 1) hk
    unfold okAt at this
    simp only [Bool.and_eq_true, Bool.or_eq_true, decide_eq_true_eq] at this
    rcases this.2 with h1 | h1
    · omega
    · rw [Nat.add_sub_cancel, befB_iff] at h1; exact h1
  have hall : ∀ i j, i < j → j < es.length → lt2 (PAt es i) (PAt es j) := by
    intro i j
    induction j with
    | zero => intro h _; omega
    | succ j ih =>
      intro h1 h2
      by_cases e : i = j
      · subst e; exact hstep i h2
      · have := ih (by omega) (by omega)
        have := hstep j h2
        unfold lt2 at *; omega
  rw [List.pairwise_iff_getElem]
  intro i j hi hj hij
  have := hall i j hij hj
  unfold PAt at this
  rw [List.getD_eq_getElem?_getD, List.getElem?_eq_getElem hi, List.getD_eq_getElem?_getD, List.getElem?_eq_getElem hj] at this
  exact this
theorem ends_of {N : Int} {es : List (Int × Int)} (h : validB N es = true) : ∀ e ∈ es, 0 ≤ e.1 ∧ e.1 < e.2 ∧ e.2 < N := by
  intro e he
  obtain ⟨k, hk, rfl⟩ := List.getElem_of_mem he
  have := ((validB_iff N es).1 h).2.2 k hk
  unfold okAt EAt at this
  rw [List.getD_eq_getElem?_getD, List.getElem?_eq_getElem hk] at this
  simp at this
  omega
theorem has_edge {N : Int} {es : List (Int × Int)} (hends : ∀ e ∈ es, 0 ≤ e.1 ∧ e.1 < e.2 ∧ e.2 < N) (a b : Int) : decide (edgeI (a, b) ∈ es) = pairsB es a b := by
  rw [Bool.eq_iff_iff, decide_eq_true_iff, pairsB_iff]
  unfold edgeI
  constructor
  · intro h
    rcases Int.lt_or_le a b with h1 | h1
    · left; rw [show min a b = a by omega, show max a b = b by omega] at h; exact h
    · right; rw [show min a b = b by omega, show max a b = a by omega] at h; exact h
  · rintro (h | h)
    · have := hends _ h; simp only at this
      rw [show min a b = a by omega, show max a b = b by omega]; exact h
    · have := hends _ h; simp only at this
      rw [show min a b = b by omega, show max a b = a by omega]; exact h
set_option maxRecDepth 100000 in
set_option maxHeartbeats 4000000 in
theorem ghas_any (N : Int) (A : Option Addr) (n c : Nat) (es : List (Int × Int)) (a b : Int) (w : World) (hn : n ≤ 1000000) (he : Rd w 2 A n (prs es)) :
    Calls Tryz.prog 31 #[.agg #[.int .i64 N, .slice A n c], .int .i64 a, .int .i64 b] w fun e w' => e = .returned (.bool (hasE N es a b)) ∧ Below w.heap.size w w' := by
  have H1 := Lib.hid (he.keep (Keeps.alloc w (.cells #[.int .i64 N, .slice A n c] 37)))
  clear he
  have s0 := Below.refl w.heap.size w
  have s1 := s0.alloc (Nat.le_refl _) (.cells #[.int .i64 N, .slice A n c] 37)
  have S1 := Lib.hid s1
  clear s0 s1
  cases hv : validB N es
  · have HV := Lib.hid hv
    clear hv
    go_enter Tryz.func31, Tryz.ntmps31
    go_wp2_with (go_at_call 29; refine (gvalid_b (b := false) N _ n c es _ (by omega) H1.out HV.out).mono ?_; rintro e w1 ⟨rfl, hb1⟩)
    go_ret
    exact ⟨ret_bool (by unfold hasE; rw [HV.out]; rfl), S1.out.trans (hb1.mono (by simp))⟩
  · have hr : hasE N es a b = decide (edgeI (a, b) ∈ es) := by
      unfold hasE; rw [hv, Bool.true_and, has_edge (N := N) (ends_of hv)]
    rw [hr]
    have HS := Lib.hid (valid_strict hv)
    have HV := Lib.hid hv
    clear hv hr
    have hcE := fun w' => edge_any a b w'
    have hcB := fun (w' : World) (h : Rd w' 2 A n (prs es)) => bs_any A n c es (edgeI (a, b)) w' hn h HS.out
    generalize edgeI (a, b) = ee at hcE hcB ⊢
    obtain ⟨ex, ey⟩ := ee
    simp only at hcE hcB
    generalize decide ((ex, ey) ∈ es) = bm at hcB ⊢
    generalize bsI es (ex, ey) = bi at hcB
    have HCE := Lib.hid hcE
    have HCB := Lib.hid hcB
    clear hcE hcB
    go_enter Tryz.func31, Tryz.ntmps31
    go_wp2_with (go_at_call 29; refine (gvalid_b (b := true) N _ n c es _ (by omega) H1.out HV.out).mono ?_; rintro e w1 ⟨rfl, hb1⟩; have S2 := Lib.hid (S1.out.trans (hb1.mono (by simp))); have R1 := Lib.hid (H1.out.keep (Keeps.of_below hb1 (Nat.le_refl _))); have hz1 := hb1.size; have p1 := grown_cell (w := w1) (a := ⟨w.heap.size, 1, none⟩) (v := .slice A n c) (by rw [hb1.cell (by simp)]; simp); have cE := call_q (w := w1) (fun w' _ => HCE.out w'); have cB := call_q (w := w1) (fun w' hk => HCB.out w' (R1.out.keep hk)); clear hb1)
    refine wp_region_q (by kernel_rfl) (by kernel_rfl) ?_
    repeat (go_big_quiet_step (first | with_reducible exact cE _ _ | with_reducible exact cB _ _))
    refine wpQuiet_nil ?_
    intro wq hgq
    go_wp2
    go_ret
    exact ⟨rfl, S2.out.trans (hgq.mono (by simp at hz1; omega))⟩
theorem ghas_b {r : Bool} (N : Int) (A : Option Addr) (n c : Nat) (es : List (Int × Int)) (a b : Int) (w : World) (hn : n ≤ 1000000) (he : Rd w 2 A n (prs es)) (hb : hasE N es a b = r) :
    Calls Tryz.prog 31 #[.agg #[.int .i64 N, .slice A n c], .int .i64 a, .int .i64 b] w fun e w' => e = .returned (.bool r) ∧ Below w.heap.size w w' := by
  subst hb; exact ghas_any N A n c es a b w hn he
end Go.Proofs.YtpdbekgkopglgaaGreat
namespace Go.Proofs.YtpdbekgkopglgaaGreat
set_option linter.unusedVariables false
set_option linter.unusedSimpArgs false
open Go.RowKit Go.Sort

def ListsPost (w : World) (ls : List (List Int)) (e : Ending) (w' : World) : Prop :=
  Below w.heap.size w w' ∧ ∃ A c, e = .returned (.slice A ls.length c) ∧ OwnL w' w.heap.size A ls.length c ls
def marksF (n : Nat) (es : List (Int × Int)) (i : Nat) : Nat := NA (mrounds es n (List.range n)) i
def compE (N : Int) (es : List (Int × Int)) : List (List Int) := if validB N es = true then (compsK (marksF N.toNat es) N.toNat).map NL else []
theorem NL_one (k : Nat) : NL [k] = [(k : Int)] := rfl
theorem ints_NL_len (l : List Nat) : (ints (NL l)).length = l.length := by rw [ints_length, NL_len]
theorem own_NL_cell {w : World} {base g n c : Nat} {l : List Nat} (h : Own w base 3 1 (some ⟨g, 0, none⟩) n c (ints (NL l))) {j : Nat} (hj : j < n) : w.cell? ⟨g, j, none⟩ = some (.int .i64 (NA l j : Nat)) := by
  have hl := h.len
  rw [ints_NL_len] at hl
  rw [h.cell hj, NL_at (by omega)]
theorem own_NL_store {w : World} {base g n c : Nat} {l : List Nat} (h : Own w base 3 1 (some ⟨g, 0, none⟩) n c (ints (NL l))) (j x : Nat) : Own (w.setCell ⟨g, j, none⟩ (.int .i64 (x : Int))) base 3 1 (some ⟨g, 0, none⟩) n c (ints (NL (l.set j x))) := by
  rw [NL_set]; exact h.store j x
theorem range_snoc (k : Nat) : NL (List.range (k + 1)) = NL (List.range k) ++ [(k : Int)] := by rw [List.range_succ, NL_app]; rfl
theorem mrounds_bd {n : Nat} {es : List (Int × Int)} (h : EndsOk n es) (r k : Nat) (hk : k ≤ es.length) : MInv n es (mrun (es.take k) (mrounds es r (List.range n))) :=
  (mrun_inv h (es.take k) _ (fun e he => List.mem_of_mem_take he) (mrounds_inv h r).1).1
theorem mrun_take {es : List (Int × Int)} {k : Nat} (hk : k < es.length) {x y : Int} (hxy : es.getD k (0, 0) = (x, y)) (mk : List Nat) : mrun (es.take (k + 1)) mk = mstep (mrun (es.take k) mk) x.toNat y.toNat := by
  rw [List.take_succ_eq_append_getElem hk, mrun_snoc]
  rw [List.getD_eq_getElem?_getD, List.getElem?_eq_getElem hk] at hxy
  simp only [Option.getD_some] at hxy
  rw [hxy]

end Go.Proofs.YtpdbekgkopglgaaGreat
