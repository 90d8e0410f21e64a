/-
  slices.Index and slices.Contains at []int: for every slice in memory.
-/
import Derived.Test.YtbhkdodokdgijaaW1
namespace Go.Proofs.Ytbhkdodokdgijaa
set_option linter.unusedVariables false
set_option linter.unusedSimpArgs false
open Go.RowKit Go.Sort

def idxI (l : List Int) (x : Int) : Int := match l.findIdx? (· == x) with | some k => (k : Int) | none => -1
theorem idxI_hit (l : List Int) (x : Int) (k : Nat) (h : k < l.length) (hk : l.getD k 0 = x) (hn : ∀ j, j < k → ¬ l.getD j 0 = x) : idxI l x = k := by
  have e : l.findIdx? (· == x) = some k := by
    rw [List.findIdx?_eq_some_iff_getElem]
    refine ⟨h, ?_, fun j hj => ?_⟩
    · rw [List.getD_eq_getElem?_getD, List.getElem?_eq_getElem h] at hk; simpa using hk
    · have := hn j hj
      rw [List.getD_eq_getElem?_getD, List.getElem?_eq_getElem (by omega : j < l.length)] at this
      simpa using this
  unfold idxI; rw [e]
theorem idxI_miss (l : List Int) (x : Int) (hn : ∀ j, j < l.length → ¬ l.getD j 0 = x) : idxI l x = -1 := by
  have e : l.findIdx? (· == x) = none := by
    rw [List.findIdx?_eq_none_iff]
    intro y hy
    obtain ⟨j, hj, rfl⟩ := getD_of_mem hy
    simpa using hn j hj
  unfold idxI; rw [e]
theorem idxI_ge (l : List Int) (x : Int) : decide (0 ≤ idxI l x) = decide (x ∈ l) := by
  by_cases h : ∃ j, j < l.length ∧ l.getD j 0 = x
  · have hx : x ∈ l := by obtain ⟨j, hj, rfl⟩ := h; exact mem_getD hj
    have : 0 ≤ idxI l x := by
      unfold idxI
      cases e : l.findIdx? (· == x) with
      | some k => simp
      | none => rw [List.findIdx?_eq_none_iff] at e; have := e x hx; simp at this
    simp [hx, this]
  · have hx : x ∉ l := fun hx => h (by obtain ⟨j, hj, e⟩ := getD_of_mem hx; exact ⟨j, hj, e⟩)
    rw [idxI_miss l x (fun j hj e => h ⟨j, hj, e⟩)]
    simp [hx]

end Go.Proofs.Ytbhkdodokdgijaa
