/-
  More openings: small unsigned numbers, three of them, a list of them.
-/
import Derived.Test.YtagcaljpgifppaaOpenB
namespace Go.Proofs.Ytagcaljpgifppaa
set_option linter.unusedVariables false
set_option maxRecDepth 100000
set_option linter.unusedSimpArgs false
open Go.ChangeShapes Go.WideShapes Go.ChangeAt Go.RowKit
section
variable {H : Type} {enc : TypeId × Value → H} {W : World}

theorem u8_of {x : Int} (h : (Lit.int .u8 x).wf = true) : 0 ≤ x ∧ x ≤ 255 := by
  simpa [Lit.wf, IntKind.min, IntKind.max, IntKind.signed, IntKind.bits] using h
theorem open_u8v {v : Value} {d : DataW H} {p : List MemPlace} (hv : Value.okWide Try.prog W .any 0 5 v) (h : DataW.Trod enc Try.prog W 0 (fun _ => true) true 5 v d p) :
    ∃ n : Int, v = .int .u8 n ∧ 0 ≤ n ∧ n ≤ 255 := by
  obtain ⟨n, rfl⟩ := Go.WideShapes.okWide_int Try.underlying5 hv
  obtain ⟨fuel, hf⟩ := h
  obtain ⟨a, e0, -, wa⟩ := DataW.trod_int Try.underlying5 hf
  simp [Value.cells] at e0
  subst e0
  exact ⟨n, rfl, u8_of wa⟩
theorem Tp.cellsU8x3 : Try.prog.cellsOf 44 = 3 := by kernel_rfl
theorem Tp.cellsU8 : Try.prog.cellsOf 5 = 1 := by kernel_rfl
theorem open_u8x3 {v : Value} {d : DataW H} {p : List MemPlace} (hv : Value.okWide Try.prog W .any 0 44 v) (h : DataW.Trod enc Try.prog W 0 (fun _ => true) true 44 v d p) :
    ∃ x y z : Int, v = .agg #[.int .u8 x, .int .u8 y, .int .u8 z] ∧ (0 ≤ x ∧ x ≤ 255) ∧ (0 ≤ y ∧ y ≤ 255) ∧ (0 ≤ z ∧ z ≤ 255) := by
  have h2 : ∃ xs : Array Value, v = .agg xs := by
    have hv2 := hv
    simp only [Value.okWide, Try.underlying44] at hv2
    obtain ⟨cs, h1, -⟩ := hv2
    exact ⟨cs, h1⟩
  obtain ⟨xs, rfl⟩ := h2
  obtain ⟨fuel, hf⟩ := h
  obtain ⟨ys, m, -, -, hl, hx, hi⟩ := DataW.trod_array Try.underlying44 hf
  rw [Tp.cellsU8x3] at hl
  rw [Tp.cellsU8] at hi
  obtain ⟨u, v, t, e1⟩ : ∃ u v t : Value, (Value.agg xs).cells.toList = [u, v, t] := by
    match h9 : (Value.agg xs).cells.toList, hl with
    | [u, v, t], _ => exact ⟨u, v, t, rfl⟩
  rw [e1] at hi
  have h0 := hi 0 (by omega)
  have h1 := hi 1 (by omega)
  have h2 := hi 2 (by omega)
  simp only [List.drop, List.take, Nat.zero_mul, Nat.one_mul] at h0 h1 h2
  rw [List.getElem?_eq_getElem (by omega)] at h0 h1 h2
  obtain ⟨a, f0, -, wa⟩ := DataW.trod_int Try.underlying5 h0
  obtain ⟨b, f1, -, wb⟩ := DataW.trod_int Try.underlying5 h1
  obtain ⟨c, f2, -, wc⟩ := DataW.trod_int Try.underlying5 h2
  simp at f0 f1 f2
  subst f0 f1 f2
  have e2 : xs = #[.int .u8 a, .int .u8 b, .int .u8 c] := by cases xs; simpa [Value.cells] using e1
  subst e2
  exact ⟨a, b, c, rfl, u8_of wa, u8_of wb, u8_of wc⟩
def u8s (l : List Int) : List Value := l.map (Value.int .u8)
theorem u8s_length (l : List Int) : (u8s l).length = l.length := by simp [u8s]
theorem u8s_at (l : List Int) (k : Nat) (h : k < l.length) : (u8s l)[k]? = some (.int .u8 (l.getD k 0)) := by
  simp [u8s, List.getD_eq_getElem?_getD, List.getElem?_eq_getElem h]
theorem Rd.u8_at {w : World} {A : Option Addr} {n : Nat} {l : List Int} (h : Rd w 1 A n (u8s l)) {k : Nat} (hk : k < n) : ∃ ad, A = some ad ∧ k < l.length ∧ w.cell? (ad.add k) = some (.int .u8 (l.getD k 0)) := by
  obtain ⟨ad, e, hc⟩ := h.2 (by omega)
  have hl := h.1
  rw [u8s_length] at hl
  exact ⟨ad, e, by omega, hc _ _ (u8s_at l k (by omega))⟩
theorem open_u8l {v : Value} {d : DataW H} {p : List MemPlace} (hv : Value.okWide Try.prog W .any 0 30 v) (h : DataW.Trod enc Try.prog W 0 (fun _ => true) true 30 v d p) :
    ∃ (A : Option Addr) (n cap : Nat) (l : List Int), v = .slice A n cap ∧ n ≤ maxLen ∧ Rd W 1 A n (u8s l) ∧ ∀ x ∈ l, 0 ≤ x ∧ x ≤ 255 := by
  obtain ⟨a0, len0, cap0, rfl⟩ := okWide_slice Try.underlying30 hv
  obtain ⟨fuel, hf⟩ := h
  rcases open_ints Try.underlying30 Try.underlying5 Tp.cellsU8 hf with ⟨hcs, -⟩ | ⟨x, len, cap, zs, hcs, -, hl, hm, hz, -, hcell, hwz⟩
  · simp [Value.cells] at hcs
    obtain ⟨rfl, rfl, rfl⟩ := hcs
    exact ⟨none, 0, 0, [], rfl, by simp [maxLen], Rd.nil _ _ _, by simp⟩
  · simp [Value.cells] at hcs
    obtain ⟨rfl, rfl, rfl⟩ := hcs
    have hzl : len0 ≤ zs.length := by rw [hz]; simpa using hl
    refine ⟨some x, len0, cap0, zs.take len0, rfl, by omega, ⟨by simp [u8s]; omega, fun _ => ⟨x, rfl, fun j u hu => ?_⟩⟩, fun y hy => u8_of (hwz y (List.mem_of_mem_take hy))⟩
    have hj : j < len0 := by
      rcases Nat.lt_or_ge j len0 with h' | h'
      · exact h'
      · rw [List.getElem?_eq_none (by simp [u8s]; omega)] at hu; cases hu
    have hk : j < (zs.take len0).length := by simp; omega
    rw [u8s_at _ _ hk] at hu
    rw [hcell j (by omega), ← hu]
    simp [List.getD_eq_getElem?_getD, List.getElem?_take, hj]
end
end Go.Proofs.Ytagcaljpgifppaa
