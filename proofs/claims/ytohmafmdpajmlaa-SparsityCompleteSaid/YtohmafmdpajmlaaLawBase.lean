/-
  Lemmas that the walks of the laws share. No condition.
-/
import Derived.Test.YtohmafmdpajmlaaAwA
import Derived.Test.YtohmafmdpajmlaaOpen
namespace Go.Proofs.Ytohmafmdpajmlaa
set_option linter.unusedVariables false
set_option linter.unusedSimpArgs false
open Go.ChangeShapes Go.WideShapes Go.ChangeAt Go.RowKit Go.Sort

theorem short_b {b : Bool} (A : Option Addr) (n c : Nat) (ls : List (List Int)) (w : World) (hn : n ≤ 9223372036854775807) (hr : RdL w A n ls) (hb : shortB ls = b) :
    Calls Try.prog 12 #[.slice A n c] w fun e w' => e = .returned (.bool b) ∧ w = w' := by
  subst hb; exact short_any A n c ls w hn hr

theorem shortB_lens {ls : List (List Int)} (h : shortB ls = true) : ls.length ≤ 100 ∧ ∀ j, j < ls.length → (ls.getD j []).length ≤ 120 := by
  unfold shortB at h
  simp only [Bool.and_eq_true, List.all_eq_true, decide_eq_true_eq] at h
  refine ⟨by omega, fun j hj => ?_⟩
  have := h.1 (ls.getD j []) (by rw [List.getD_eq_getElem?_getD, List.getElem?_eq_getElem hj]; exact List.getElem_mem hj)
  exact this

theorem nextB {B : Nat} {w0 w1 w2 : World} (h : Below B w0 w1) (hs : B ≤ w0.heap.size) (h2 : Below w1.heap.size w1 w2) : Below B w0 w2 := h.trans (h2.mono (Nat.le_trans hs h.size))

end Go.Proofs.Ytohmafmdpajmlaa
