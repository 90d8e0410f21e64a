/-
  Points and sets of points agree. No program stands in this text.
-/
import Derived.Test.YtcpkdnhpelkeoaaGreatSpecE
namespace Go.Proofs.YtcpkdnhpelkeoaaGreat
set_option linter.unusedVariables false
set_option linter.unusedSimpArgs false

theorem ascB_iff {N : Int} {ps : List Int} : ascB N ps = true ↔ ∀ j, j < ps.length → 0 ≤ ps.getD j 0 ∧ ps.getD j 0 < N ∧ (j = 0 ∨ ps.getD (j - 1) 0 < ps.getD j 0) := by
  unfold ascB ascAt
  simp only [List.all_eq_true, List.mem_range, Bool.and_eq_true, Bool.or_eq_true, decide_eq_true_eq]
theorem asc_lt {ps : List Int} (h : ∀ j, j + 1 < ps.length → ps.getD j 0 < ps.getD (j + 1) 0) : ∀ i j, i < j → j < ps.length → ps.getD i 0 < ps.getD j 0 := by
  intro i j
  induction j with
  | zero => intro h1 _; omega
  | succ j ih =>
    intro h1 h2
    by_cases e : i = j
    · subst e; exact h i h2
    · have := ih (by omega) (by omega); have := h j h2; omega
theorem setOk_eq (N : Int) (ps : List Int) : setOk N ps = ptsB N ps := by
  rw [Bool.eq_iff_iff, ptsB_iff]
  unfold setOk
  rw [Bool.and_eq_true, decide_eq_true_eq, ascB_iff]
  constructor
  · rintro ⟨h, h2⟩
    refine ⟨h2, (h 0 (by omega)).1, (h (ps.length - 1) (by omega)).2.1, fun j hj => ?_⟩
    rcases (h (j + 1) hj).2.2 with e | e
    · omega
    · exact e
  · rintro ⟨h2, h0, h1, h⟩
    refine ⟨fun j hj => ⟨?_, ?_, ?_⟩, h2⟩
    · rcases Nat.eq_zero_or_pos j with e | e
      · subst e; exact h0
      · have := asc_lt h 0 j e hj; omega
    · by_cases e : j = ps.length - 1
      · rw [e]; exact h1
      · have := asc_lt h j (ps.length - 1) (by omega) (by omega); omega
    · rcases Nat.eq_zero_or_pos j with e | e
      · exact .inl e
      · right; have := h (j - 1) (by omega); rw [show j - 1 + 1 = j by omega] at this; exact this
theorem ascB_mem {N : Int} {ps : List Int} (h : ascB N ps = true) {p : Int} (hp : p ∈ ps) : 0 ≤ p ∧ p < N := by
  obtain ⟨j, hj, rfl⟩ := getD_of_mem hp
  have := ascB_iff.1 h j hj
  exact ⟨this.1, this.2.1⟩
theorem setS_mem {N : Int} {ps : List Int} (h : ascB N ps = true) {x : Int} (hx : 0 ≤ x) : (setS ps).testBit x.toNat = decide (x ∈ ps) := by
  rw [setS_bit, Bool.eq_iff_iff]
  simp only [List.any_eq_true, decide_eq_true_eq]
  constructor
  · rintro ⟨p, hp, e⟩
    have := (ascB_mem h hp).1
    have : p = x := by omega
    rw [← this]; exact hp
  · intro h'; exact ⟨x, h', rfl⟩
theorem spanS_eq {N : Int} {es : List (Int × Int)} {ps : List Int} (h : ascB N ps = true) (he : ∀ e ∈ es, 0 ≤ e.1 ∧ 0 ≤ e.2) : spanS es (setS ps) = spanI es ps := by
  unfold spanS spanI
  have : es.countP (bothB (setS ps)) = es.countP (inB ps) := by
    apply List.countP_congr
    intro e hm
    unfold bothB inB
    rw [setS_mem h (he e hm).1, setS_mem h (he e hm).2]
  rw [this]
theorem ends_mem {N : Int} {es : List (Int × Int)} (h : validB N es = true) : ∀ e ∈ es, 0 ≤ e.1 ∧ e.1 < e.2 ∧ e.2 < N := by
  intro e he
  obtain ⟨k, hk, rfl⟩ := List.getElem_of_mem he
  have := validB_ends h hk
  rw [List.getD_eq_getElem?_getD, List.getElem?_eq_getElem hk] at this
  exact this
def excVal (N : Int) (es : List (Int × Int)) (ps : List Int) : Int := if setOk N ps = true then spanS es (setS ps) - 2 * (ps.length : Int) + 3 else 0
theorem excVal_no {N : Int} {es : List (Int × Int)} {ps : List Int} (h : setOk N ps = false) : excVal N es ps = 0 := by simp [excVal, h]
theorem excVal_yes {N : Int} {es : List (Int × Int)} {ps : List Int} (h : setOk N ps = true) : excVal N es ps = spanS es (setS ps) - 2 * (ps.length : Int) + 3 := by simp [excVal, h]
end Go.Proofs.YtcpkdnhpelkeoaaGreat
