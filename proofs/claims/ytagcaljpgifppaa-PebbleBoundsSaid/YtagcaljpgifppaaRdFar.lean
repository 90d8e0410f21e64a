/-
  A list of pairs survives a store into a graph's two cells: it cannot lie in their block.
-/
import Derived.Test.YtagcaljpgifppaaBase
namespace Go.Proofs.Ytagcaljpgifppaa
set_option linter.unusedVariables false
set_option linter.unusedSimpArgs false
open Go.RowKit

theorem prs_int {l : List (Int × Int)} {j : Nat} {u : Value} (h : (prs l)[j]? = some u) : ∃ x, u = .int .i64 x := by
  have hm := List.mem_of_getElem? h
  unfold prs at hm
  rw [List.mem_flatMap] at hm
  obtain ⟨e, -, he⟩ := hm
  simp at he
  rcases he with rfl | rfl
  · exact ⟨_, rfl⟩
  · exact ⟨_, rfl⟩
theorem Rd.far {w : World} {B : Option Addr} {n : Nat} {es : List (Int × Int)} (h : Rd w 2 B n (prs es)) {g : Nat} {A : Option Addr} {n' c' : Nat} (h1 : w.cell? ⟨g, 1, none⟩ = some (.slice A n' c')) {p : Addr} (hp : p = ⟨g, 0, none⟩ ∨ p = ⟨g, 1, none⟩) (v : Value) : Rd (w.setCell p v) 2 B n (prs es) := by
  refine ⟨h.1, fun hn => ?_⟩
  obtain ⟨ad, e, hc⟩ := h.2 hn
  refine ⟨ad, e, fun j u hu => ?_⟩
  have no1 : ∀ i x, (prs es)[i]? = some x → ad.add i ≠ ⟨g, 1, none⟩ := fun i x hx he => by
    obtain ⟨y, rfl⟩ := prs_int hx
    have := hc i _ hx
    rw [he, h1] at this
    cases this
  have hne : p ≠ ad.add j := by
    rcases hp with rfl | rfl
    · intro he
      have hl := h.1
      have hj : j < (prs es).length := by
        rcases Nat.lt_or_ge j (prs es).length with h' | h'
        · exact h'
        · rw [List.getElem?_eq_none h'] at hu; cases hu
      by_cases hj1 : j + 1 < (prs es).length
      · exact no1 (j + 1) _ (List.getElem?_eq_getElem hj1) (by rw [add_next, ← he])
      · have hj0 : j ≠ 0 := by omega
        unfold Addr.add at he
        rw [if_neg hj0] at he
        have := congrArg Addr.off he
        simp at this
        omega
    · exact fun he => no1 j u hu he.symm
  rw [World.cell?_setCell_other _ _ _ _ hne]
  exact hc j u hu
end Go.Proofs.Ytagcaljpgifppaa
