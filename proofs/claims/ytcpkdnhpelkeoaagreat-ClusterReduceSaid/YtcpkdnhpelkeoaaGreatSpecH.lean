/-
  Two tight sets of a sparse graph that have two points in common have a tight union and a tight intersection. No program stands in this text.
-/
import Derived.Test.YtcpkdnhpelkeoaaGreatSpecG
namespace Go.Proofs.YtcpkdnhpelkeoaaGreat
set_option linter.unusedVariables false
set_option linter.unusedSimpArgs false

theorem countP_or_and {α : Type} (p q : α → Bool) (l : List α) : l.countP (fun x => p x || q x) + l.countP (fun x => p x && q x) = l.countP p + l.countP q := by
  induction l with
  | nil => rfl
  | cons a l ih =>
    simp only [List.countP_cons]
    cases p a <;> cases q a <;> simp <;> omega
theorem cntB_or_and (K X Y : Nat) : cntB K (X ||| Y) + cntB K (X &&& Y) = cntB K X + cntB K Y := by
  unfold cntB
  simp only [Nat.testBit_or, Nat.testBit_and]
  exact countP_or_and _ _ _
theorem spanS_or_and (es : List (Int × Int)) (X Y : Nat) : spanS es X + spanS es Y ≤ spanS es (X ||| Y) + spanS es (X &&& Y) := by
  unfold spanS
  have : es.countP (bothB X) + es.countP (bothB Y) ≤ es.countP (bothB (X ||| Y)) + es.countP (bothB (X &&& Y)) := by
    induction es with
    | nil => simp
    | cons e es ih =>
      simp only [List.countP_cons]
      have h : (if bothB X e = true then 1 else 0) + (if bothB Y e = true then 1 else 0) ≤ (if bothB (X ||| Y) e = true then 1 else 0) + (if bothB (X &&& Y) e = true then 1 else 0 : Nat) := by
        unfold bothB
        simp only [Nat.testBit_or, Nat.testBit_and]
        cases X.testBit e.1.toNat <;> cases X.testBit e.2.toNat <;> cases Y.testBit e.1.toNat <;> cases Y.testBit e.2.toNat <;> decide
      omega
  omega
theorem countP_eq_range (K p : Nat) (h : p < K) : (List.range K).countP (fun i => decide (p = i)) = 1 := by
  induction K with
  | zero => omega
  | succ K ih =>
    rw [List.range_succ, List.countP_append]
    by_cases e : p = K
    · subst e
      have : (List.range p).countP (fun i => decide (p = i)) = 0 := by
        rw [List.countP_eq_zero]; intro i hi; have := List.mem_range.1 hi; simp; omega
      rw [this]; simp
    · rw [ih (by omega)]; simp [e]
theorem cntB_add {K S p : Nat} (hp : p < K) (hS : S.testBit p = false) : cntB K (S ||| 2 ^ p) = cntB K S + 1 := by
  have h := cntB_or_and K S (2 ^ p)
  have h0 : S &&& 2 ^ p = 0 := by
    apply Nat.eq_of_testBit_eq
    intro i
    rw [Nat.testBit_and, Nat.testBit_two_pow, Nat.zero_testBit]
    by_cases e : p = i
    · subst e; simp [hS]
    · simp [e]
  rw [h0, cntB_zero] at h
  have h1 : cntB K (2 ^ p) = 1 := by
    unfold cntB
    simp only [Nat.testBit_two_pow]
    exact countP_eq_range K p hp
  omega
theorem setS_take_bit {N : Int} {ps : List Int} (h : ascB N ps = true) {k : Nat} (hk : k < ps.length) : (setS (ps.take k)).testBit (ps.getD k 0).toNat = false := by
  rw [setS_bit]
  rw [List.any_eq_false]
  intro p hp
  obtain ⟨j, hj, rfl⟩ := getD_of_mem hp
  have hjk : j < k := by simp at hj; omega
  have e : (ps.take k).getD j 0 = ps.getD j 0 := by simp [List.getD_eq_getElem?_getD, List.getElem?_take, hjk]
  rw [e]
  have hasc := ascB_iff.1 h
  have h1 := asc_lt (fun i hi => by have := (hasc (i + 1) hi).2.2; simpa using this) j k hjk hk
  have h2 := (hasc j (by omega)).1
  simp only [decide_eq_true_eq]; omega
theorem cntB_setS {N : Int} {ps : List Int} (h : ascB N ps = true) (hN : N ≤ 60) : cntB 60 (setS ps) = ps.length := by
  have : ∀ k, k ≤ ps.length → cntB 60 (setS (ps.take k)) = k := by
    intro k
    induction k with
    | zero => intro _; exact cntB_zero 60
    | succ k ih =>
      intro hk
      have hm := ascB_iff.1 h k (by omega)
      rw [setS_step (by omega) rfl, cntB_add (by omega) (setS_take_bit h (by omega)), ih (by omega)]
  have h1 := this ps.length (Nat.le_refl _)
  rwa [List.take_length] at h1

/-- The points of a set, up to K. -/
def ptsK (K S : Nat) : List Int := ((List.range K).filter fun i => S.testBit i).map fun (i : Nat) => (i : Int)
theorem ptsK_zero (S : Nat) : ptsK 0 S = [] := rfl
theorem ptsK_hit {K S : Nat} (h : S.testBit K = true) : ptsK (K + 1) S = ptsK K S ++ [(K : Int)] := by
  unfold ptsK; rw [List.range_succ, List.filter_append, List.map_append]; simp [h]
theorem ptsK_miss {K S : Nat} (h : S.testBit K = false) : ptsK (K + 1) S = ptsK K S := by
  unfold ptsK; rw [List.range_succ, List.filter_append, List.map_append]; simp [h]
theorem ptsK_length (K S : Nat) : (ptsK K S).length = cntB K S := by unfold ptsK cntB; rw [List.length_map, List.countP_eq_length_filter]
theorem ptsK_length_le (K S : Nat) : (ptsK K S).length ≤ K := by rw [ptsK_length]; exact cntB_le K S
theorem ptsK_mem {K S : Nat} {x : Int} : x ∈ ptsK K S ↔ 0 ≤ x ∧ x < K ∧ S.testBit x.toNat = true := by
  unfold ptsK
  rw [List.mem_map]
  constructor
  · rintro ⟨i, hi, rfl⟩
    rw [List.mem_filter, List.mem_range] at hi
    exact ⟨by omega, by omega, by simpa using hi.2⟩
  · rintro ⟨h0, h1, h2⟩
    refine ⟨x.toNat, ?_, by omega⟩
    rw [List.mem_filter, List.mem_range]
    exact ⟨by omega, h2⟩
theorem ptsK_pairwise (K S : Nat) : (ptsK K S).Pairwise (· < ·) := by
  unfold ptsK
  rw [List.pairwise_map]
  exact (List.pairwise_lt_range.filter _).imp (fun h => by omega)
theorem ptsK_pts {K S : Nat} (h : 2 ≤ (ptsK K S).length) : ptsB K (ptsK K S) = true := by
  have hm : ∀ j, j < (ptsK K S).length → 0 ≤ (ptsK K S).getD j 0 ∧ (ptsK K S).getD j 0 < K := fun j hj => by
    have := ptsK_mem.1 (mem_getD hj); exact ⟨this.1, this.2.1⟩
  refine ptsB_yes h (hm 0 (by omega)).1 (hm _ (by omega)).2 (fun j hj => ?_)
  have := List.pairwise_iff_getElem.1 (ptsK_pairwise K S) j (j + 1) (by omega) hj (by omega)
  rw [List.getD_eq_getElem?_getD, List.getElem?_eq_getElem (by omega), List.getD_eq_getElem?_getD, List.getElem?_eq_getElem hj]
  exact this
theorem spanI_ptsK {n S : Nat} {es : List (Int × Int)} (he : ∀ e ∈ es, 0 ≤ e.1 ∧ e.1 < e.2 ∧ e.2 < n) : spanI es (ptsK n S) = spanS es S := by
  unfold spanS spanI
  have : es.countP (inB (ptsK n S)) = es.countP (bothB S) := by
    apply List.countP_congr
    intro e hm
    have := he e hm
    unfold bothB inB
    have h1 : decide (e.1 ∈ ptsK n S) = S.testBit e.1.toNat := by
      rw [Bool.eq_iff_iff, decide_eq_true_eq, ptsK_mem]; exact ⟨fun h => h.2.2, fun h => ⟨by omega, by omega, h⟩⟩
    have h2 : decide (e.2 ∈ ptsK n S) = S.testBit e.2.toNat := by
      rw [Bool.eq_iff_iff, decide_eq_true_eq, ptsK_mem]; exact ⟨fun h => h.2.2, fun h => ⟨by omega, by omega, h⟩⟩
    rw [h1, h2]
  rw [this]
theorem cntB_wide {n S : Nat} (hn : n ≤ 60) (h : S < 2 ^ n) : cntB 60 S = cntB n S := by
  have : ∀ d, n + d ≤ 60 → cntB (n + d) S = cntB n S := by
    intro d
    induction d with
    | zero => intro _; rfl
    | succ d ih =>
      intro hd
      have := cntB_more (K := n + d) (S := S) (Nat.lt_of_lt_of_le h (Nat.pow_le_pow_right (by omega) (by omega)))
      rw [show n + (d + 1) = n + d + 1 by omega, this, ih (by omega)]
  have h1 := this (60 - n) (by omega)
  rwa [show n + (60 - n) = 60 by omega] at h1
theorem okSet_use {es : List (Int × Int)} {S : Nat} (h : okSet es S = true) (h2 : 2 ≤ cntB 60 S) : spanS es S ≤ 2 * (cntB 60 S : Int) - 3 := by
  unfold okSet at h
  simp only [Bool.or_eq_true, decide_eq_true_eq] at h
  omega

/-- The law of the lattice, of the sets as numbers. -/
theorem lattice {n : Nat} {es : List (Int × Int)} {a b : List Int} (hn : n ≤ 60) (hv : validB n es = true) (hs : sparseAll n es = true)
    (ha : ptsB n a = true) (hb : ptsB n b = true) (ta : spanI es a = 2 * (a.length : Int) - 3) (tb : spanI es b = 2 * (b.length : Int) - 3)
    (hc : 2 ≤ (ptsK n (setS a &&& setS b)).length) :
    (ptsB n (ptsK n (setS a ||| setS b)) && decide (spanI es (ptsK n (setS a ||| setS b)) = 2 * ((ptsK n (setS a ||| setS b)).length : Int) - 3)) = true ∧
    (ptsB n (ptsK n (setS a &&& setS b)) && decide (spanI es (ptsK n (setS a &&& setS b)) = 2 * ((ptsK n (setS a &&& setS b)).length : Int) - 3)) = true := by
  have oka : ascB n a = true := by have := setOk_eq n a; rw [ha] at this; unfold setOk at this; simp only [Bool.and_eq_true] at this; exact this.1
  have okb : ascB n b = true := by have := setOk_eq n b; rw [hb] at this; unfold setOk at this; simp only [Bool.and_eq_true] at this; exact this.1
  have hends := ends_mem hv
  have ea := spanS_eq oka (es := es) (fun e he => by have := hends e he; omega)
  have eb := spanS_eq okb (es := es) (fun e he => by have := hends e he; omega)
  have ca := cntB_setS oka (by omega)
  have cb := cntB_setS okb (by omega)
  have la : setS a < 2 ^ n := setS_lt (fun p hp => by have := ascB_mem oka hp; omega)
  have lb : setS b < 2 ^ n := setS_lt (fun p hp => by have := ascB_mem okb hp; omega)
  have lu : (setS a ||| setS b) < 2 ^ n := Nat.or_lt_two_pow la lb
  have li : (setS a &&& setS b) < 2 ^ n := Nat.and_lt_two_pow _ lb
  have h1 := cntB_or_and 60 (setS a) (setS b)
  have h2 := spanS_or_and es (setS a) (setS b)
  have nu := cntB_wide hn lu
  have ni := cntB_wide hn li
  rw [ptsK_length, ← ni] at hc
  have hsi := okSet_use (sparseAll_iff.1 hs _ li) hc
  have ha2 := (ptsB_iff.1 ha).1
  have hcu : 2 ≤ cntB 60 (setS a ||| setS b) := by
    have : cntB 60 (setS a &&& setS b) ≤ cntB 60 (setS b) := by
      unfold cntB
      apply List.countP_mono_left
      intro i _ hi
      rw [Nat.testBit_and, Bool.and_eq_true] at hi
      exact hi.2
    omega
  have hsu := okSet_use (sparseAll_iff.1 hs _ lu) hcu
  have fu : spanI es (ptsK n (setS a ||| setS b)) = 2 * ((ptsK n (setS a ||| setS b)).length : Int) - 3 := by
    rw [spanI_ptsK hends, ptsK_length, ← nu]; omega
  have fi : spanI es (ptsK n (setS a &&& setS b)) = 2 * ((ptsK n (setS a &&& setS b)).length : Int) - 3 := by
    rw [spanI_ptsK hends, ptsK_length, ← ni]; omega
  rw [ptsK_pts (by rw [ptsK_length, ← nu]; exact hcu), ptsK_pts (by rw [ptsK_length, ← ni]; exact hc), decide_eq_true fu, decide_eq_true fi]
  exact ⟨rfl, rfl⟩
end Go.Proofs.YtcpkdnhpelkeoaaGreat
