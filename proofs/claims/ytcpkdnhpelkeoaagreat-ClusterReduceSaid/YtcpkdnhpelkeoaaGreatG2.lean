/-
  Comparisons of lists: setsquareref33.Edges, Same.
-/
import Derived.Test.YtcpkdnhpelkeoaaGreatG1
namespace Go.Proofs.YtcpkdnhpelkeoaaGreat
set_option linter.unusedVariables false
set_option linter.unusedSimpArgs false
open Go.RowKit Go.Sort

theorem eq_of_getD {α : Type} (d : α) : ∀ (a b : List α), a.length = b.length → (∀ j, j < a.length → a.getD j d = b.getD j d) → a = b
  | [], [], _, _ => rfl
  | x :: a, y :: b, hl, h => by
    have h0 : x = y := by simpa using h 0 (by simp)
    have := eq_of_getD d a b (by simpa using hl) (fun j hj => by simpa using h (j + 1) (by simpa using hj))
    rw [h0, this]
  | [], _ :: _, hl, _ => by simp at hl
  | _ :: _, [], hl, _ => by simp at hl

end Go.Proofs.YtcpkdnhpelkeoaaGreat
