/-
  More openings: an integer, a pair, a list of pairs.
-/
import Derived.Test.YtagcaljpgifppaaOpen
namespace Go.Proofs.Ytagcaljpgifppaa
set_option linter.unusedVariables false
set_option maxRecDepth 100000
set_option linter.unusedSimpArgs false
open Go.ChangeShapes Go.WideShapes Go.ChangeAt Go.RowKit
section
variable {H : Type} {enc : TypeId × Value → H} {W : World}

theorem open_intv {v : Value} {d : DataW H} {p : List MemPlace} (hv : Value.okWide Try.prog W .any 0 3 v) (h : DataW.Trod enc Try.prog W 0 (fun _ => true) true 3 v d p) :
    ∃ n : Int, v = .int .i64 n ∧ WfI n := by
  obtain ⟨n, rfl⟩ := Go.WideShapes.okWide_int Try.underlying3 hv
  obtain ⟨fuel, hf⟩ := h
  obtain ⟨a, e0, -, wa⟩ := DataW.trod_int Try.underlying3 hf
  simp [Value.cells] at e0
  subst e0
  exact ⟨n, rfl, wfI_of wa⟩

theorem open_pairv {v : Value} {d : DataW H} {p : List MemPlace} (hv : Value.okWide Try.prog W .any 0 42 v) (h : DataW.Trod enc Try.prog W 0 (fun _ => true) true 42 v d p) :
    ∃ x y : Int, v = .agg #[.int .i64 x, .int .i64 y] ∧ WfI x ∧ WfI y := by
  have h2 : ∃ xs : Array Value, v = .agg xs := by
    have hv2 := hv
    simp only [Value.okWide, Try.underlying42] at hv2
    obtain ⟨cs, h1, -⟩ := hv2
    exact ⟨cs, h1⟩
  obtain ⟨xs, rfl⟩ := h2
  obtain ⟨fuel, hf⟩ := h
  obtain ⟨a, b, e0, wa, wb⟩ := open_pair hf
  have e1 : xs = #[.int .i64 a, .int .i64 b] := by cases xs; simpa [Value.cells] using e0
  subst e1
  exact ⟨a, b, rfl, wa, wb⟩

theorem open_pairl {v : Value} {d : DataW H} {p : List MemPlace} (hv : Value.okWide Try.prog W .any 0 22 v) (h : DataW.Trod enc Try.prog W 0 (fun _ => true) true 22 v d p) :
    ∃ (A : Option Addr) (n cap : Nat) (es : List (Int × Int)), v = .slice A n cap ∧ n ≤ maxLen ∧ Rd W 2 A n (prs es) ∧ ∀ e ∈ es, WfI e.1 ∧ WfI e.2 := by
  obtain ⟨a0, len0, cap0, rfl⟩ := okWide_slice Try.underlying22 hv
  obtain ⟨fuel, hf⟩ := h
  obtain ⟨A, n, cap, es, e0, hn, hr, hw⟩ := open_pairs hf
  simp [Value.cells] at e0
  obtain ⟨rfl, rfl, rfl⟩ := e0
  exact ⟨_, _, _, es, rfl, hn, hr, hw⟩
end
end Go.Proofs.Ytagcaljpgifppaa
