/-
  What the arguments of the laws read as: graphs, lists of integers, lists of lists of integers.
-/
import Derived.Test.YtcpkdnhpelkeoaaGreatRows
import Derived.Test.YtcpkdnhpelkeoaaGreatBase
import Derived.ProofKit
import Derived.OpenShut
import Derived.Lib.SmallJoins
import Derived.Deep.Matrix
import Derived.Deep.Slices
namespace Go.Proofs.YtcpkdnhpelkeoaaGreat
set_option linter.unusedVariables false
set_option maxRecDepth 100000
set_option linter.unusedSimpArgs false
open Go.ChangeShapes Go.WideShapes Go.ChangeAt Go.RowKit

theorem Tp.own : ownKnob Tryz.prog.godebug = none := by kernel_rfl
theorem Tp.laidOut : laidOutB Tryz.prog = true := by kernel_rfl
theorem Tp.cellsGraph : Tryz.prog.cellsOf 31 = 2 := by kernel_rfl
theorem Tp.cellsPair : Tryz.prog.cellsOf 28 = 2 := by kernel_rfl
theorem Tp.cellsInt : Tryz.prog.cellsOf 3 = 1 := by kernel_rfl
theorem Tp.cellsInts : Tryz.prog.cellsOf 24 = 1 := by kernel_rfl

def WfI (x : Int) : Prop := -9223372036854775808 ≤ x ∧ x ≤ 9223372036854775807
theorem wfI_of {x : Int} (h : (Lit.int .i64 x).wf = true) : WfI x := by
  simpa [WfI, Lit.wf, IntKind.min, IntKind.max, IntKind.signed, IntKind.bits] using h

section
variable {H : Type} {enc : TypeId × Value → H} {W : World}

theorem open_pair {fuel : Nat} {cs : List Value} {x : DataW H × List MemPlace} (h : DataW.trod enc Tryz.prog W 0 (fun _ => true) true fuel 28 cs = some x) :
    ∃ a b : Int, cs = [.int .i64 a, .int .i64 b] ∧ WfI a ∧ WfI b := by
  obtain ⟨xs, m, -, -, hl, hx, hi⟩ := DataW.trod_array Tryz.underlying28 h
  rw [Tp.cellsPair] at hl
  rw [Tp.cellsInt] at hi
  match cs, hl with
  | [u, v], _ =>
    have h0 := hi 0 (by omega)
    have h1 := hi 1 (by omega)
    simp only [List.drop, List.take, Nat.zero_mul, Nat.one_mul] at h0 h1
    rw [List.getElem?_eq_getElem (by omega)] at h0 h1
    obtain ⟨a, e0, -, wa⟩ := DataW.trod_int Tryz.underlying3 h0
    obtain ⟨b, e1, -, wb⟩ := DataW.trod_int Tryz.underlying3 h1
    simp at e0 e1
    subst e0 e1
    exact ⟨a, b, rfl, wfI_of wa, wfI_of wb⟩

theorem open_pairs {fuel : Nat} {c : Value} {x : DataW H × List MemPlace} (h : DataW.trod enc Tryz.prog W 0 (fun _ => true) true fuel 29 [c] = some x) :
    ∃ (A : Option Addr) (n cap : Nat) (es : List (Int × Int)), c = .slice A n cap ∧ n ≤ maxLen ∧ Rd W 2 A n (prs es) ∧ ∀ e ∈ es, WfI e.1 ∧ WfI e.2 := by
  rcases Go.Deep.open_slice Tryz.underlying29 h with ⟨hc, -⟩ | ⟨a, len, cap, m, k, D, Pl, hc, -, hl, hm, hmm, -, hi⟩
  · simp at hc
    exact ⟨none, 0, 0, [], hc, by simp [maxLen], Rd.nil _ _ _, by simp⟩
  · simp at hc
    have hml : len ≤ m := by rw [hmm]; split <;> omega
    have hq : ∀ i, ∃ e : Int × Int, i < len → W.cell? (a.add (i * 2)) = some (.int .i64 e.1) ∧ W.cell? (a.add (i * 2 + 1)) = some (.int .i64 e.2) ∧ WfI e.1 ∧ WfI e.2 := by
      intro i
      by_cases hil : i < len
      · obtain ⟨cs', hcs, ht⟩ := hi i (by omega)
        rw [Tp.cellsPair] at hcs
        obtain ⟨p, q, rfl, wp, wq⟩ := open_pair ht
        obtain ⟨-, -, hat⟩ := World.cells?_some hcs
        have h0 := hat 0 (by omega)
        have h1 := hat 1 (by omega)
        refine ⟨(p, q), fun _ => ⟨?_, ?_, wp, wq⟩⟩
        · have : (a.add (i * 2)).add 0 = a.add (i * 2) := rfl
          rw [this] at h0; exact h0
        · rw [Go.Deep.add_add] at h1; exact h1
      · exact ⟨(0, 0), fun h => absurd h hil⟩
    obtain ⟨f, hf⟩ : ∃ f : Nat → Int × Int, ∀ i, i < len → W.cell? (a.add (i * 2)) = some (.int .i64 (f i).1) ∧ W.cell? (a.add (i * 2 + 1)) = some (.int .i64 (f i).2) ∧ WfI (f i).1 ∧ WfI (f i).2 := ⟨fun i => (hq i).choose, fun i => (hq i).choose_spec⟩
    clear hq
    refine ⟨some a, len, cap, (List.range len).map f, hc, by omega, ⟨?_, fun _ => ⟨a, rfl, fun j u hu => ?_⟩⟩, ?_⟩
    · rw [prs_length]; simp
    · have hj : j < len * 2 := by
        rcases Nat.lt_or_ge j (len * 2) with h' | h'
        · exact h'
        · rw [List.getElem?_eq_none (by rw [prs_length]; simpa using h')] at hu; cases hu
      have hk : j / 2 < len := by omega
      have hkl : j / 2 < ((List.range len).map f).length := by simpa using hk
      have eg : ((List.range len).map f).getD (j / 2) (0, 0) = f (j / 2) := by
        rw [List.getD_eq_getElem?_getD, List.getElem?_eq_getElem hkl]; simp
      obtain ⟨h0, h1, -, -⟩ := hf (j / 2) hk
      rcases Nat.mod_two_eq_zero_or_one j with e | e
      · have ej : j = j / 2 * 2 := by omega
        have := prs_at0 _ _ hkl
        rw [← ej, hu] at this
        rw [eg] at this
        rw [this, ej]; rw [show j / 2 * 2 / 2 = j / 2 by omega]; exact h0
      · have ej : j = j / 2 * 2 + 1 := by omega
        have := prs_at1 _ _ hkl
        rw [← ej, hu] at this
        rw [eg] at this
        rw [this, ej]; rw [show (j / 2 * 2 + 1) / 2 = j / 2 by omega]; exact h1
    · intro e he
      obtain ⟨i, hi', rfl⟩ := List.mem_map.1 he
      obtain ⟨-, -, w0, w1⟩ := hf i (List.mem_range.1 hi')
      exact ⟨w0, w1⟩

theorem open_graph {v : Value} {d : DataW H} {p : List MemPlace} (hv : Value.okWide Tryz.prog W .any 0 31 v) (h : DataW.Trod enc Tryz.prog W 0 (fun _ => true) true 31 v d p) :
    ∃ (N : Int) (A : Option Addr) (n cap : Nat) (es : List (Int × Int)), v = .agg #[.int .i64 N, .slice A n cap] ∧ WfI N ∧ n ≤ maxLen ∧ Rd W 2 A n (prs es) ∧ ∀ e ∈ es, WfI e.1 ∧ WfI e.2 := by
  obtain ⟨c0, c1, y0, y1, m, rfl, -, -, h0, h1⟩ := Go.Joins.open_agg2 Tryz.underlying31 (by kernel_rfl) Tp.cellsGraph hv h
  obtain ⟨N, e0, -, wN⟩ := DataW.trod_int Tryz.underlying3 h0
  simp at e0
  subst e0
  obtain ⟨A, n, cap, es, rfl, hn, hr, hw⟩ := open_pairs h1
  exact ⟨N, A, n, cap, es, rfl, wfI_of wN, hn, hr, hw⟩

theorem open_intl {v : Value} {d : DataW H} {p : List MemPlace} (hv : Value.okWide Tryz.prog W .any 0 24 v) (h : DataW.Trod enc Tryz.prog W 0 (fun _ => true) true 24 v d p) :
    ∃ (A : Option Addr) (n cap : Nat) (l : List Int), v = .slice A n cap ∧ n ≤ maxLen ∧ Rd W 1 A n (ints l) ∧ ∀ x ∈ l, WfI x := by
  obtain ⟨a0, len0, cap0, rfl⟩ := okWide_slice Tryz.underlying24 hv
  obtain ⟨fuel, hf⟩ := h
  rcases open_ints Tryz.underlying24 Tryz.underlying3 Tp.cellsInt hf with ⟨hcs, -⟩ | ⟨x, len, cap, zs, hcs, -, hl, hm, hz, -, hcell, hwz⟩
  · simp [Value.cells] at hcs
    obtain ⟨rfl, rfl, rfl⟩ := hcs
    exact ⟨none, 0, 0, [], rfl, by simp [maxLen], Rd.nil _ _ _, by simp⟩
  · simp [Value.cells] at hcs
    obtain ⟨rfl, rfl, rfl⟩ := hcs
    have hzl : len0 ≤ zs.length := by rw [hz]; simpa using hl
    refine ⟨some x, len0, cap0, zs.take len0, rfl, by omega, ⟨by simp [ints]; omega, fun _ => ⟨x, rfl, fun j u hu => ?_⟩⟩, fun y hy => wfI_of (hwz y (List.mem_of_mem_take hy))⟩
    have hj : j < len0 := by
      rcases Nat.lt_or_ge j len0 with h' | h'
      · exact h'
      · rw [List.getElem?_eq_none (by simp [ints]; omega)] at hu; cases hu
    have hk : j < (zs.take len0).length := by simp; omega
    rw [ints_at _ _ hk] at hu
    rw [hcell j (by omega), ← hu]
    simp [List.getD_eq_getElem?_getD, List.getElem?_take, hj]

theorem open_intll {v : Value} {d : DataW H} {p : List MemPlace} (hv : Value.okWide Tryz.prog W .any 0 22 v) (h : DataW.Trod enc Tryz.prog W 0 (fun _ => true) true 22 v d p) :
    ∃ (A : Option Addr) (n cap : Nat) (ls : List (List Int)), v = .slice A n cap ∧ n ≤ maxLen ∧ RdL W A n ls ∧ ∀ l ∈ ls, ∀ x ∈ l, WfI x := by
  obtain ⟨a0, len0, cap0, rfl⟩ := okWide_slice Tryz.underlying22 hv
  obtain ⟨fuel, hf⟩ := h
  rcases Go.Deep.open_int_rows Tryz.underlying22 Tryz.underlying24 Tryz.underlying3 Tp.cellsInts Tp.cellsInt hf with ⟨hcs, -⟩ | ⟨a, len, cap, A, L, C, Z, hcs, -, hl, hm, -, hr⟩
  · simp [Value.cells] at hcs
    obtain ⟨rfl, rfl, rfl⟩ := hcs
    exact ⟨none, 0, 0, [], rfl, by simp [maxLen], ⟨rfl, [], rfl, Rd.nil _ _ _, by simp⟩, by simp⟩
  · simp [Value.cells] at hcs
    obtain ⟨rfl, rfl, rfl⟩ := hcs
    refine ⟨some a, len0, cap0, (List.range len0).map fun r => (Z r).take (L r), rfl, by omega, ⟨by simp, (List.range len0).map fun r => (A r, C r), by simp, ⟨by simp, fun _ => ⟨a, rfl, fun j u hu => ?_⟩⟩, ?_⟩, ?_⟩
    · have hj : j < len0 := by
        rcases Nat.lt_or_ge j len0 with h' | h'
        · exact h'
        · rw [List.getElem?_eq_none (by simpa using h')] at hu; cases hu
      obtain ⟨hc, hLC, hCm, hZ, hwf, hAn, hcell⟩ := hr j (by omega)
      rw [hc, ← hu]
      simp [List.getElem?_zipWith, hj, hZ, Nat.min_eq_left hLC]
    · intro i hd l h1 h2
      have hi : i < len0 := by
        rcases Nat.lt_or_ge i len0 with h' | h'
        · exact h'
        · rw [List.getElem?_eq_none (by simpa using h')] at h2; cases h2
      obtain ⟨hc, hLC, hCm, hZ, hwf, hAn, hcell⟩ := hr i (by omega)
      simp [hi] at h1 h2
      subst h1 h2
      have hlen : ((Z i).take (L i)).length = L i := by simp [hZ, hLC]
      refine ⟨by rw [ints_length]; omega, fun h0 => ?_⟩
      rw [hlen] at h0
      cases hA : A i with
      | none => have := hAn hA; omega
      | some a' =>
        refine ⟨a', rfl, fun j u hu => ?_⟩
        have hj : j < L i := by
          rcases Nat.lt_or_ge j (L i) with h' | h'
          · exact h'
          · rw [List.getElem?_eq_none (by rw [ints_length, hlen]; exact h')] at hu; cases hu
        rw [ints_at _ _ (by rw [hlen]; exact hj)] at hu
        rw [(hcell a' hA).2 j (by omega), ← hu]
        simp [List.getD_eq_getElem?_getD, List.getElem?_take, hj]
    · intro l hl' x hx
      obtain ⟨i, hi, rfl⟩ := List.mem_map.1 hl'
      obtain ⟨hc, hLC, hCm, hZ, hwf, hAn, hcell⟩ := hr i (by have := List.mem_range.1 hi; omega)
      exact wfI_of (hwf x (List.mem_of_mem_take hx))
end
end Go.Proofs.YtcpkdnhpelkeoaaGreat
