/-
  Contracts and lemmas for the statement, joined: Open, Os, L1.
-/
import Derived.Test.YtpdbekgkopglgaaGreatRows
import Derived.Test.YtpdbekgkopglgaaGreatJ1
import Derived.ProofKit
import Derived.OpenShut
import Derived.Lib.SmallJoins
import Derived.Deep.Matrix
import Derived.Deep.Slices
import Derived.Test.YtpdbekgkopglgaaGreatJ13
import Derived.Test.YtpdbekgkopglgaaGreatJ3
namespace Go.Proofs.YtpdbekgkopglgaaGreat
set_option linter.unusedVariables false
set_option maxRecDepth 100000
set_option linter.unusedSimpArgs false
open Go.ChangeShapes Go.WideShapes Go.ChangeAt Go.RowKit

theorem Tp.own : ownKnob Tryz.prog.godebug = none := by kernel_rfl
theorem Tp.laidOut : laidOutB Tryz.prog = true := by kernel_rfl
theorem Tp.cellsGraph : Tryz.prog.cellsOf 37 = 2 := by kernel_rfl
theorem Tp.cellsPair : Tryz.prog.cellsOf 41 = 2 := by kernel_rfl
theorem Tp.cellsInt : Tryz.prog.cellsOf 3 = 1 := by kernel_rfl
theorem Tp.cellsInts : Tryz.prog.cellsOf 46 = 1 := by kernel_rfl

def WfI (x : Int) : Prop := -9223372036854775808 ≤ x ∧ x ≤ 9223372036854775807
theorem wfI_of {x : Int} (h : (Lit.int .i64 x).wf = true) : WfI x := by
  simpa [WfI, Lit.wf, IntKind.min, IntKind.max, IntKind.signed, IntKind.bits] using h

section
variable {H : Type} {enc : TypeId × Value → H} {W : World}

theorem open_pair {fuel : Nat} {cs : List Value} {x : DataW H × List MemPlace} (h : DataW.trod enc Tryz.prog W 0 (fun _ => true) true fuel 41 cs = some x) :
    ∃ a b : Int, cs = [.int .i64 a, .int .i64 b] ∧ WfI a ∧ WfI b := by
  obtain ⟨xs, m, -, -, hl, hx, hi⟩ := DataW.trod_array Tryz.underlying41 h
  rw [Tp.cellsPair] at hl
  rw [Tp.cellsInt] at hi
  match cs, hl with
  | [u, v], _ =>
    have h0 := hi 0 (by omega)
    have h1 := hi 1 (by omega)
    simp only [List.drop, List.take, Nat.zero_mul, Nat.one_mul] at h0 h1
    rw [List.getElem?_eq_getElem (by omega)] at h0 h1
    obtain ⟨a, e0, -, wa⟩ := DataW.trod_int Tryz.underlying3 h0
    obtain ⟨b, e1, -, wb⟩ := DataW.trod_int Tryz.underlying3 h1
    simp at e0 e1
    subst e0 e1
    exact ⟨a, b, rfl, wfI_of wa, wfI_of wb⟩

theorem open_pairs {fuel : Nat} {c : Value} {x : DataW H × List MemPlace} (h : DataW.trod enc Tryz.prog W 0 (fun _ => true) true fuel 35 [c] = some x) :
    ∃ (A : Option Addr) (n cap : Nat) (es : List (Int × Int)), c = .slice A n cap ∧ n ≤ maxLen ∧ Rd W 2 A n (prs es) ∧ ∀ e ∈ es, WfI e.1 ∧ WfI e.2 := by
  rcases Go.Deep.open_slice Tryz.underlying35 h with ⟨hc, -⟩ | ⟨a, len, cap, m, k, D, Pl, hc, -, hl, hm, hmm, -, hi⟩
  · simp at hc
    exact ⟨none, 0, 0, [], hc, by simp [maxLen], Rd.nil _ _ _, by simp⟩
  · simp at hc
    have hml : len ≤ m := by rw [hmm]; split <;> omega
    have hq : ∀ i, ∃ e : Int × Int, i < len → W.cell? (a.add (i * 2)) = some (.int .i64 e.1) ∧ W.cell? (a.add (i * 2 + 1)) = some (.int .i64 e.2) ∧ WfI e.1 ∧ WfI e.2 := by
      intro i
      by_cases hil : i < len
      · obtain ⟨cs', hcs, ht⟩ := hi i (by omega)
        rw [Tp.cellsPair] at hcs
        obtain ⟨p, q, rfl, wp, wq⟩ := open_pair ht
        obtain ⟨-, -, hat⟩ := World.cells?_some hcs
        have h0 := hat 0 (by omega)
        have h1 := hat 1 (by omega)
        refine ⟨(p, q), fun _ => ⟨?_, ?_, wp, wq⟩⟩
        · have : (a.add (i * 2)).add 0 = a.add (i * 2) := rfl
          rw [this] at h0; exact h0
        · rw [Go.Deep.add_add] at h1; exact h1
      · exact ⟨(0, 0), fun h => absurd h hil⟩
    obtain ⟨f, hf⟩ : ∃ f : Nat → Int × Int, ∀ i, i < len → W.cell? (a.add (i * 2)) = some (.int .i64 (f i).1) ∧ W.cell? (a.add (i * 2 + 1)) = some (.int .i64 (f i).2) ∧ WfI (f i).1 ∧ WfI (f i).2 := ⟨fun i => (hq i).choose, fun i => (hq i).choose_spec⟩
    clear hq
    refine ⟨some a, len, cap, (List.range len).map f, hc, by omega, ⟨?_, fun _ => ⟨a, rfl, fun j u hu => ?_⟩⟩, ?_⟩
    · rw [prs_length]; simp
    · have hj : j < len * 2 := by
        rcases Nat.lt_or_ge j (len * 2) with h' | h'
        · exact h'
        · rw [List.getElem?_eq_none (by rw [prs_length]; simpa using h')] at hu; cases hu
      have hk : j / 2 < len := by omega
      have hkl : j / 2 < ((List.range len).map f).length := by simpa using hk
      have eg : ((List.range len).map f).getD (j / 2) (0, 0) = f (j / 2) := by
        rw [List.getD_eq_getElem?_getD, List.getElem?_eq_getElem hkl]; simp
      obtain ⟨h0, h1, -, -⟩ := hf (j / 2) hk
      rcases Nat.mod_two_eq_zero_or_one j with e | e
      · have ej : j = j / 2 * 2 := by omega
        have := prs_at0 _ _ hkl
        rw [← ej, hu] at this
        rw [eg] at this
        rw [this, ej]; rw [show j / 2 * 2 / 2 = j / 2 by omega]; exact h0
      · have ej : j = j / 2 * 2 + 1 := by omega
        have := prs_at1 _ _ hkl
        rw [← ej, hu] at this
        rw [eg] at this
        rw [this, ej]; rw [show (j / 2 * 2 + 1) / 2 = j / 2 by omega]; exact h1
    · intro e he
      obtain ⟨i, hi', rfl⟩ := List.mem_map.1 he
      obtain ⟨-, -, w0, w1⟩ := hf i (List.mem_range.1 hi')
      exact ⟨w0, w1⟩

theorem open_graph {v : Value} {d : DataW H} {p : List MemPlace} (hv : Value.okWide Tryz.prog W .any 0 37 v) (h : DataW.Trod enc Tryz.prog W 0 (fun _ => true) true 37 v d p) :
    ∃ (N : Int) (A : Option Addr) (n cap : Nat) (es : List (Int × Int)), v = .agg #[.int .i64 N, .slice A n cap] ∧ WfI N ∧ n ≤ maxLen ∧ Rd W 2 A n (prs es) ∧ ∀ e ∈ es, WfI e.1 ∧ WfI e.2 := by
  obtain ⟨c0, c1, y0, y1, m, rfl, -, -, h0, h1⟩ := Go.Joins.open_agg2 Tryz.underlying37 (by kernel_rfl) Tp.cellsGraph hv h
  obtain ⟨N, e0, -, wN⟩ := DataW.trod_int Tryz.underlying3 h0
  simp at e0
  subst e0
  obtain ⟨A, n, cap, es, rfl, hn, hr, hw⟩ := open_pairs h1
  exact ⟨N, A, n, cap, es, rfl, wfI_of wN, hn, hr, hw⟩

theorem open_intl {v : Value} {d : DataW H} {p : List MemPlace} (hv : Value.okWide Tryz.prog W .any 0 46 v) (h : DataW.Trod enc Tryz.prog W 0 (fun _ => true) true 46 v d p) :
    ∃ (A : Option Addr) (n cap : Nat) (l : List Int), v = .slice A n cap ∧ n ≤ maxLen ∧ Rd W 1 A n (ints l) ∧ ∀ x ∈ l, WfI x := by
  obtain ⟨a0, len0, cap0, rfl⟩ := okWide_slice Tryz.underlying46 hv
  obtain ⟨fuel, hf⟩ := h
  rcases open_ints Tryz.underlying46 Tryz.underlying3 Tp.cellsInt hf with ⟨hcs, -⟩ | ⟨x, len, cap, zs, hcs, -, hl, hm, hz, -, hcell, hwz⟩
  · simp [Value.cells] at hcs
    obtain ⟨rfl, rfl, rfl⟩ := hcs
    exact ⟨none, 0, 0, [], rfl, by simp [maxLen], Rd.nil _ _ _, by simp⟩
  · simp [Value.cells] at hcs
    obtain ⟨rfl, rfl, rfl⟩ := hcs
    have hzl : len0 ≤ zs.length := by rw [hz]; simpa using hl
    refine ⟨some x, len0, cap0, zs.take len0, rfl, by omega, ⟨by simp [ints]; omega, fun _ => ⟨x, rfl, fun j u hu => ?_⟩⟩, fun y hy => wfI_of (hwz y (List.mem_of_mem_take hy))⟩
    have hj : j < len0 := by
      rcases Nat.lt_or_ge j len0 with h' | h'
      · exact h'
      · rw [List.getElem?_eq_none (by simp [ints]; omega)] at hu; cases hu
    have hk : j < (zs.take len0).length := by simp; omega
    rw [ints_at _ _ hk] at hu
    rw [hcell j (by omega), ← hu]
    simp [List.getD_eq_getElem?_getD, List.getElem?_take, hj]

theorem open_intll {v : Value} {d : DataW H} {p : List MemPlace} (hv : Value.okWide Tryz.prog W .any 0 44 v) (h : DataW.Trod enc Tryz.prog W 0 (fun _ => true) true 44 v d p) :
    ∃ (A : Option Addr) (n cap : Nat) (ls : List (List Int)), v = .slice A n cap ∧ n ≤ maxLen ∧ RdL W A n ls ∧ ∀ l ∈ ls, ∀ x ∈ l, WfI x := by
  obtain ⟨a0, len0, cap0, rfl⟩ := okWide_slice Tryz.underlying44 hv
  obtain ⟨fuel, hf⟩ := h
  rcases Go.Deep.open_int_rows Tryz.underlying44 Tryz.underlying46 Tryz.underlying3 Tp.cellsInts Tp.cellsInt hf with ⟨hcs, -⟩ | ⟨a, len, cap, A, L, C, Z, hcs, -, hl, hm, -, hr⟩
  · simp [Value.cells] at hcs
    obtain ⟨rfl, rfl, rfl⟩ := hcs
    exact ⟨none, 0, 0, [], rfl, by simp [maxLen], ⟨rfl, [], rfl, Rd.nil _ _ _, by simp⟩, by simp⟩
  · simp [Value.cells] at hcs
    obtain ⟨rfl, rfl, rfl⟩ := hcs
    refine ⟨some a, len0, cap0, (List.range len0).map fun r => (Z r).take (L r), rfl, by omega, ⟨by simp, (List.range len0).map fun r => (A r, C r), by simp, ⟨by simp, fun _ => ⟨a, rfl, fun j u hu => ?_⟩⟩, ?_⟩, ?_⟩
    · have hj : j < len0 := by
        rcases Nat.lt_or_ge j len0 with h' | h'
        · exact h'
        · rw [List.getElem?_eq_none (by simpa using h')] at hu; cases hu
      obtain ⟨hc, hLC, hCm, hZ, hwf, hAn, hcell⟩ := hr j (by omega)
      rw [hc, ← hu]
      simp [List.getElem?_zipWith, hj, hZ, Nat.min_eq_left hLC]
    · intro i hd l h1 h2
      have hi : i < len0 := by
        rcases Nat.lt_or_ge i len0 with h' | h'
        · exact h'
        · rw [List.getElem?_eq_none (by simpa using h')] at h2; cases h2
      obtain ⟨hc, hLC, hCm, hZ, hwf, hAn, hcell⟩ := hr i (by omega)
      simp [hi] at h1 h2
      subst h1 h2
      have hlen : ((Z i).take (L i)).length = L i := by simp [hZ, hLC]
      refine ⟨by rw [ints_length]; omega, fun h0 => ?_⟩
      rw [hlen] at h0
      cases hA : A i with
      | none => have := hAn hA; omega
      | some a' =>
        refine ⟨a', rfl, fun j u hu => ?_⟩
        have hj : j < L i := by
          rcases Nat.lt_or_ge j (L i) with h' | h'
          · exact h'
          · rw [List.getElem?_eq_none (by rw [ints_length, hlen]; exact h')] at hu; cases hu
        rw [ints_at _ _ (by rw [hlen]; exact hj)] at hu
        rw [(hcell a' hA).2 j (by omega), ← hu]
        simp [List.getD_eq_getElem?_getD, List.getElem?_take, hj]
    · intro l hl' x hx
      obtain ⟨i, hi, rfl⟩ := List.mem_map.1 hl'
      obtain ⟨hc, hLC, hCm, hZ, hwf, hAn, hcell⟩ := hr i (by have := List.mem_range.1 hi; omega)
      exact wfI_of (hwf x (List.mem_of_mem_take hx))
end
end Go.Proofs.YtpdbekgkopglgaaGreat
namespace Go.Proofs.YtpdbekgkopglgaaGreat
set_option linter.unusedVariables false
set_option maxRecDepth 100000
set_option linter.unusedSimpArgs false
open Go.ChangeShapes Go.WideShapes Go.ChangeAt Go.RowKit

theorem Ts.c4 : Tryz.prog.cellsOf 4 = 1 := by kernel_rfl
theorem Ts.c3 : Tryz.prog.cellsOf 3 = 1 := by kernel_rfl
theorem Ts.c9 : Tryz.prog.cellsOf 9 = 1 := by kernel_rfl
theorem Ts.c108 : Tryz.prog.cellsOf 108 = 1 := by kernel_rfl
theorem Ts.c48 : Tryz.prog.cellsOf 48 = 1 := by kernel_rfl
theorem Ts.c46 : Tryz.prog.cellsOf 46 = 1 := by kernel_rfl
theorem Ts.c50 : Tryz.prog.cellsOf 50 = 2 := by kernel_rfl
theorem Ts.c52 : Tryz.prog.cellsOf 52 = 4 := by kernel_rfl
theorem Ts.c54 : Tryz.prog.cellsOf 54 = 8 := by kernel_rfl
theorem Ts.c56 : Tryz.prog.cellsOf 56 = 5 := by kernel_rfl
theorem Ts.c68 : Tryz.prog.cellsOf 68 = 2 := by kernel_rfl
theorem Ts.c70 : Tryz.prog.cellsOf 70 = 4 := by kernel_rfl
theorem Ts.c86 : Tryz.prog.cellsOf 86 = 3 := by kernel_rfl
theorem Ts.c57 : Tryz.prog.cellsOf 57 = 1 := by kernel_rfl
theorem Ts.c26 : Tryz.prog.cellsOf 26 = 1 := by kernel_rfl
theorem Ts.c63 : Tryz.prog.cellsOf 63 = 7 := by kernel_rfl
theorem Ts.c58 : Tryz.prog.cellsOf 58 = 1 := by kernel_rfl
theorem Ts.c60 : Tryz.prog.cellsOf 60 = 5 := by kernel_rfl
theorem Ts.c22 : Tryz.prog.cellsOf 22 = 1 := by kernel_rfl
theorem Ts.c23 : Tryz.prog.cellsOf 23 = 1 := by kernel_rfl
theorem Ts.c24 : Tryz.prog.cellsOf 24 = 1 := by kernel_rfl
theorem Ts.c25 : Tryz.prog.cellsOf 25 = 1 := by kernel_rfl
theorem Ts.c27 : Tryz.prog.cellsOf 27 = 1 := by kernel_rfl
theorem Ts.c29 : Tryz.prog.cellsOf 29 = 6 := by kernel_rfl
section
variable {H : Type} {enc : TypeId × Value → H} {W : World}
/-- Cells that read as a datum of a type. -/
def Tro (enc : TypeId × Value → H) (W : World) (t : TypeId) (cs : List Value) : Prop := ∃ fuel x, DataW.trod enc Tryz.prog W 0 (fun _ => true) true fuel t cs = some x
theorem tro_struct {t : TypeId} {fs : Array Field} (ht : Tryz.prog.underlying t = some (.struct fs)) {cs : List Value} (h : Tro enc W t cs) : cs.length = Tryz.prog.cellsOf t ∧ ∀ (i : Nat) (f : Field), fs[i]? = some f → Tro enc W f.type ((cs.drop f.offset).take (Tryz.prog.cellsOf f.type)) := by
  obtain ⟨fuel, x, h⟩ := h
  obtain ⟨xs, n, -, -, hl, hlen, hf⟩ := DataW.trod_struct ht h
  refine ⟨hl, fun i f hi => ?_⟩
  have h1 := hf i f hi
  have hlt : i < xs.length := by rw [hlen]; exact (Array.getElem?_eq_some_iff.1 hi).1
  rw [List.getElem?_eq_getElem hlt] at h1
  exact ⟨n, _, h1⟩
theorem tro_slice {t e : TypeId} (ht : Tryz.prog.underlying t = some (.slice e)) {sz : Nat} (hc : Tryz.prog.cellsOf e = sz) {Pe : Array Value → Prop} (hp : ∀ cs, Tro enc W e cs → Pe cs.toArray) {cs : List Value} (h : Tro enc W t cs) :
    ∃ (A : Option Addr) (n c : Nat), cs = [.slice A n c] ∧ n ≤ maxLen ∧ n ≤ c ∧ SlAt W sz A n Pe := by
  obtain ⟨fuel, x, h⟩ := h
  rcases Go.Deep.open_slice ht h with ⟨hcs, -⟩ | ⟨a, len, cap, m, k, D, Pl, hcs, -, hl, hm, hmm, -, hi⟩
  · exact ⟨none, 0, 0, hcs, by simp [maxLen], Nat.le_refl _, SlAt.none _ _ _ _⟩
  · have hml : len ≤ m := by rw [hmm]; split <;> omega
    refine ⟨some a, len, cap, hcs, by omega, hl, fun i hil => ?_⟩
    obtain ⟨cs', hcs', ht'⟩ := hi i (by omega)
    rw [hc] at hcs'
    obtain ⟨-, hlen, hat⟩ := World.cells?_some hcs'
    refine ⟨a, cs'.toArray, rfl, by simpa using hlen, fun j y hy => ?_, hp _ ⟨_, _, ht'⟩⟩
    have hy' : cs'[j]? = some y := by simpa using hy
    have hj : j < sz := by
      have := (List.getElem?_eq_some_iff.1 hy').1
      omega
    exact (hat j hj).trans hy'
theorem tro_bool {cs : List Value} (h : Tro enc W 4 cs) : ∃ b, cs = [.bool b] := by
  obtain ⟨fuel, x, h⟩ := h
  obtain ⟨b, hb, -⟩ := DataW.trod_bool Tryz.underlying4 h
  exact ⟨b, hb⟩
theorem tro_int {cs : List Value} (h : Tro enc W 3 cs) : ∃ x, cs = [.int .i64 x] := by
  obtain ⟨fuel, x, h⟩ := h
  obtain ⟨b, hb, -, -⟩ := DataW.trod_int Tryz.underlying3 h
  exact ⟨b, hb⟩
theorem tro_u32 {cs : List Value} (h : Tro enc W 108 cs) : ∃ x : Nat, x < 4294967296 ∧ cs = [.int .u32 (x : Int)] := by
  obtain ⟨fuel, x, h⟩ := h
  obtain ⟨b, hb, -, wf⟩ := DataW.trod_int Tryz.underlying108 h
  have hw : 0 ≤ b ∧ b ≤ 4294967295 := by simpa [Lit.wf, IntKind.min, IntKind.max, IntKind.signed, IntKind.bits] using wf
  exact ⟨b.toNat, by omega, by rw [hb, Int.toNat_of_nonneg hw.1]⟩
theorem tro_string {cs : List Value} (h : Tro enc W 9 cs) : ∃ s : ByteArray, cs = [.string s] ∧ s.size ≤ maxLen := by
  obtain ⟨fuel, x, h⟩ := h
  obtain ⟨s, hb, -, hs⟩ := DataW.trod_string Tryz.underlying9 h
  exact ⟨s, hb, hs⟩
theorem sl_list {α : Type} [Inhabited α] {A : Option Addr} {n : Nat} {q : α → Value} {p : α → Prop} (h : SlAt W 1 A n (fun cs => ∃ x, p x ∧ cs = #[q x])) : ∃ l : List α, Rd W 1 A n (l.map q) ∧ ∀ x ∈ l, p x := by
  have hq : ∀ i, ∃ x : α, i < n → ∃ ad, A = some ad ∧ W.cell? (ad.add i) = some (q x) ∧ p x := by
    intro i
    by_cases hi : i < n
    · obtain ⟨ad, cs, h1, h2, h3, x, h4, h5⟩ := h i hi
      have := h3.zero (x := q x) (by rw [h5]; rfl)
      rw [Nat.mul_one] at this
      exact ⟨x, fun _ => ⟨ad, h1, this, h4⟩⟩
    · exact ⟨default, fun h => absurd h hi⟩
  refine ⟨(List.range n).map (fun i => (hq i).choose), ⟨by simp, fun hn => ?_⟩, fun x hx => ?_⟩
  · obtain ⟨ad, hA, -, -⟩ := (hq 0).choose_spec hn
    refine ⟨ad, hA, fun j u hu => ?_⟩
    have hj : j < n := by
      rcases Nat.lt_or_ge j n with h' | h'
      · exact h'
      · rw [List.getElem?_eq_none (by simpa using h')] at hu; cases hu
    obtain ⟨ad', hA', h1, -⟩ := (hq j).choose_spec hj
    rw [hA] at hA'
    cases hA'
    rw [h1, ← hu]
    simp [hj]
  · obtain ⟨i, hi, rfl⟩ := List.mem_map.1 hx
    obtain ⟨-, -, -, h1⟩ := (hq i).choose_spec (List.mem_range.1 hi)
    exact h1
theorem tro_Int {cs : List Value} (h : Tro enc W 50 cs) : ∃ (s : Bool) (A : Option Addr) (n c : Nat) (l : List Nat), cs = [.bool s, .slice A n c] ∧ MagAt W A n c l ∧ n ≤ maxLen := by
  obtain ⟨hl, hf⟩ := tro_struct Tryz.underlying50 h
  rw [Ts.c50] at hl
  match cs, hl, hf with
  | [u0, u1], _, hf =>
    have h0 : Tro enc W 4 (([u0, u1].drop 0).take (Tryz.prog.cellsOf 4)) := hf 0 _ rfl
    rw [Ts.c4] at h0
    simp only [List.drop, List.take] at h0
    have h1 : Tro enc W 48 (([u0, u1].drop 1).take (Tryz.prog.cellsOf 48)) := hf 1 _ rfl
    rw [Ts.c48] at h1
    simp only [List.drop, List.take] at h1
    obtain ⟨s, e0⟩ := tro_bool h0
    obtain ⟨A, n, c, e1, hn, hc, hs⟩ := tro_slice Tryz.underlying48 Ts.c108 (Pe := fun cs => ∃ x : Nat, x < 4294967296 ∧ cs = #[.int .u32 (x : Int)]) (fun cs h => by obtain ⟨x, hx, e⟩ := tro_u32 h; exact ⟨x, hx, by rw [e]⟩) h1
    obtain ⟨l, hr, hu⟩ := sl_list (q := fun x : Nat => Value.int .u32 (x : Int)) (p := fun x => x < 4294967296) hs
    cases e0; cases e1
    exact ⟨s, A, n, c, l, rfl, ⟨hr, hc, hu⟩, hn⟩
theorem tro_Rat {cs : List Value} (h : Tro enc W 52 cs) : ∃ (s : Bool) (A : Option Addr) (n c : Nat) (l : List Nat) (s' : Bool) (B : Option Addr) (m d : Nat) (l' : List Nat), cs = [.bool s, .slice A n c, .bool s', .slice B m d] ∧ RatAt W A n c l B m d l' ∧ n ≤ maxLen ∧ m ≤ maxLen := by
  obtain ⟨hl, hf⟩ := tro_struct Tryz.underlying52 h
  rw [Ts.c52] at hl
  match cs, hl, hf with
  | [u0, u1, u2, u3], _, hf =>
    have h0 : Tro enc W 50 (([u0, u1, u2, u3].drop 0).take (Tryz.prog.cellsOf 50)) := hf 0 _ rfl
    rw [Ts.c50] at h0
    simp only [List.drop, List.take] at h0
    have h1 : Tro enc W 50 (([u0, u1, u2, u3].drop 2).take (Tryz.prog.cellsOf 50)) := hf 1 _ rfl
    rw [Ts.c50] at h1
    simp only [List.drop, List.take] at h1
    obtain ⟨s, A, n, c, l, e0, hA, hn⟩ := tro_Int h0
    obtain ⟨s', B, m, d, l', e1, hB, hm⟩ := tro_Int h1
    cases e0; cases e1
    exact ⟨s, A, n, c, l, s', B, m, d, l', rfl, ⟨hA, hB⟩, hn, hm⟩
theorem tro_Pt {cs : List Value} (h : Tro enc W 54 cs) : PtAt maxLen W cs.toArray := by
  obtain ⟨hl, hf⟩ := tro_struct Tryz.underlying54 h
  rw [Ts.c54] at hl
  match cs, hl, hf with
  | [u0, u1, u2, u3, u4, u5, u6, u7], _, hf =>
    have h0 : Tro enc W 52 (([u0, u1, u2, u3, u4, u5, u6, u7].drop 0).take (Tryz.prog.cellsOf 52)) := hf 0 _ rfl
    rw [Ts.c52] at h0
    simp only [List.drop, List.take] at h0
    have h1 : Tro enc W 52 (([u0, u1, u2, u3, u4, u5, u6, u7].drop 4).take (Tryz.prog.cellsOf 52)) := hf 1 _ rfl
    rw [Ts.c52] at h1
    simp only [List.drop, List.take] at h1
    obtain ⟨s, A, n, c, l, s', B, m, d, l', e0, hr, hn, hm⟩ := tro_Rat h0
    obtain ⟨s2, A2, n2, c2, l2, s2', B2, m2, d2, l2', e1, hr2, hn2, hm2⟩ := tro_Rat h1
    cases e0; cases e1
    exact ⟨s, A, n, c, l, s', B, m, d, l', s2, A2, n2, c2, l2, s2', B2, m2, d2, l2', rfl, hr, hr2, hn, hm, hn2, hm2⟩
theorem tro_Rd {cs : List Value} (h : Tro enc W 56 cs) : RdAt maxLen W cs.toArray := by
  obtain ⟨hl, hf⟩ := tro_struct Tryz.underlying56 h
  rw [Ts.c56] at hl
  match cs, hl, hf with
  | [u0, u1, u2, u3, u4], _, hf =>
    have h0 : Tro enc W 3 (([u0, u1, u2, u3, u4].drop 0).take (Tryz.prog.cellsOf 3)) := hf 0 _ rfl
    rw [Ts.c3] at h0
    simp only [List.drop, List.take] at h0
    have h1 : Tro enc W 52 (([u0, u1, u2, u3, u4].drop 1).take (Tryz.prog.cellsOf 52)) := hf 1 _ rfl
    rw [Ts.c52] at h1
    simp only [List.drop, List.take] at h1
    obtain ⟨x, e0⟩ := tro_int h0
    obtain ⟨s, A, n, c, l, s', B, m, d, l', e1, hr, hn, hm⟩ := tro_Rat h1
    cases e0; cases e1
    exact ⟨x, s, A, n, c, l, s', B, m, d, l', rfl, hr, hn, hm⟩
theorem tro_Sg {cs : List Value} (h : Tro enc W 68 cs) : SgAt cs.toArray := by
  obtain ⟨hl, hf⟩ := tro_struct Tryz.underlying68 h
  rw [Ts.c68] at hl
  match cs, hl, hf with
  | [u0, u1], _, hf =>
    have h0 : Tro enc W 3 (([u0, u1].drop 0).take (Tryz.prog.cellsOf 3)) := hf 0 _ rfl
    rw [Ts.c3] at h0
    simp only [List.drop, List.take] at h0
    have h1 : Tro enc W 3 (([u0, u1].drop 1).take (Tryz.prog.cellsOf 3)) := hf 1 _ rfl
    rw [Ts.c3] at h1
    simp only [List.drop, List.take] at h1
    obtain ⟨x, e0⟩ := tro_int h0
    obtain ⟨y, e1⟩ := tro_int h1
    cases e0; cases e1
    exact ⟨x, y, rfl⟩
theorem tro_Ar {cs : List Value} (h : Tro enc W 70 cs) : ArAt cs.toArray := by
  obtain ⟨hl, hf⟩ := tro_struct Tryz.underlying70 h
  rw [Ts.c70] at hl
  match cs, hl, hf with
  | [u0, u1, u2, u3], _, hf =>
    have h0 : Tro enc W 3 (([u0, u1, u2, u3].drop 0).take (Tryz.prog.cellsOf 3)) := hf 0 _ rfl
    rw [Ts.c3] at h0
    simp only [List.drop, List.take] at h0
    have h1 : Tro enc W 3 (([u0, u1, u2, u3].drop 1).take (Tryz.prog.cellsOf 3)) := hf 1 _ rfl
    rw [Ts.c3] at h1
    simp only [List.drop, List.take] at h1
    have h2 : Tro enc W 3 (([u0, u1, u2, u3].drop 2).take (Tryz.prog.cellsOf 3)) := hf 2 _ rfl
    rw [Ts.c3] at h2
    simp only [List.drop, List.take] at h2
    have h3 : Tro enc W 4 (([u0, u1, u2, u3].drop 3).take (Tryz.prog.cellsOf 4)) := hf 3 _ rfl
    rw [Ts.c4] at h3
    simp only [List.drop, List.take] at h3
    obtain ⟨x, e0⟩ := tro_int h0
    obtain ⟨y, e1⟩ := tro_int h1
    obtain ⟨z, e2⟩ := tro_int h2
    obtain ⟨q, e3⟩ := tro_bool h3
    cases e0; cases e1; cases e2; cases e3
    exact ⟨x, y, z, q, rfl⟩
theorem tro_Pc {cs : List Value} (h : Tro enc W 86 cs) : PcAt cs.toArray := by
  obtain ⟨hl, hf⟩ := tro_struct Tryz.underlying86 h
  rw [Ts.c86] at hl
  match cs, hl, hf with
  | [u0, u1, u2], _, hf =>
    have h0 : Tro enc W 4 (([u0, u1, u2].drop 0).take (Tryz.prog.cellsOf 4)) := hf 0 _ rfl
    rw [Ts.c4] at h0
    simp only [List.drop, List.take] at h0
    have h1 : Tro enc W 3 (([u0, u1, u2].drop 1).take (Tryz.prog.cellsOf 3)) := hf 1 _ rfl
    rw [Ts.c3] at h1
    simp only [List.drop, List.take] at h1
    have h2 : Tro enc W 4 (([u0, u1, u2].drop 2).take (Tryz.prog.cellsOf 4)) := hf 2 _ rfl
    rw [Ts.c4] at h2
    simp only [List.drop, List.take] at h2
    obtain ⟨x, e0⟩ := tro_bool h0
    obtain ⟨y, e1⟩ := tro_int h1
    obtain ⟨z, e2⟩ := tro_bool h2
    cases e0; cases e1; cases e2
    exact ⟨x, y, z, rfl⟩
theorem tro_Ch {cs : List Value} (h : Tro enc W 57 cs) : ChAt maxLen W cs.toArray := by
  obtain ⟨A, n, c, e, hn, -, hs⟩ := tro_slice Tryz.underlying57 Ts.c86 (Pe := PcAt) (fun cs h => tro_Pc h) h
  cases e
  exact ⟨A, n, c, rfl, hn, hs⟩
theorem tro_Ex : ∀ (D : Nat) {cs : List Value}, Tro enc W 63 cs → ExprAt D W cs.toArray := by
  intro D
  induction D with
  | zero => intro cs h; exact trivial
  | succ D ih =>
    intro cs h
    obtain ⟨hl, hf⟩ := tro_struct Tryz.underlying63 h
    rw [Ts.c63] at hl
    match cs, hl, hf with
    | [u0, u1, u2, u3, u4, u5, u6], _, hf =>
      have h0 : Tro enc W 3 (([u0, u1, u2, u3, u4, u5, u6].drop 0).take (Tryz.prog.cellsOf 3)) := hf 0 _ rfl
      rw [Ts.c3] at h0
      simp only [List.drop, List.take] at h0
      have h1 : Tro enc W 52 (([u0, u1, u2, u3, u4, u5, u6].drop 1).take (Tryz.prog.cellsOf 52)) := hf 1 _ rfl
      rw [Ts.c52] at h1
      simp only [List.drop, List.take] at h1
      have h2 : Tro enc W 9 (([u0, u1, u2, u3, u4, u5, u6].drop 5).take (Tryz.prog.cellsOf 9)) := hf 2 _ rfl
      rw [Ts.c9] at h2
      simp only [List.drop, List.take] at h2
      have h3 : Tro enc W 58 (([u0, u1, u2, u3, u4, u5, u6].drop 6).take (Tryz.prog.cellsOf 58)) := hf 3 _ rfl
      rw [Ts.c58] at h3
      simp only [List.drop, List.take] at h3
      obtain ⟨x, e0⟩ := tro_int h0
      obtain ⟨s, A, n, c, l, s', B, m, d, l', e1, hr, hn, hm⟩ := tro_Rat h1
      obtain ⟨nm, e2, hs⟩ := tro_string h2
      obtain ⟨P, k, cap, e3, hk, -, hsl⟩ := tro_slice Tryz.underlying58 Ts.c63 (Pe := ExprAt D W) (fun cs h => ih h) h3
      cases e0; cases e1; cases e2; cases e3
      exact ⟨x, s, A, n, c, l, s', B, m, d, l', nm, P, k, cap, rfl, hr.num, hr.den, ⟨hs, hn, hm, hk⟩, hsl⟩
theorem tro_ints {cs : List Value} (h : Tro enc W 46 cs) : ∃ (A : Option Addr) (n c : Nat) (l : List Int), cs = [.slice A n c] ∧ n ≤ maxLen ∧ Rd W 1 A n (ints l) := by
  obtain ⟨A, n, c, e, hn, -, hs⟩ := tro_slice Tryz.underlying46 Ts.c3 (Pe := fun cs => ∃ x : Int, True ∧ cs = #[.int .i64 x]) (fun cs h => by obtain ⟨x, e⟩ := tro_int h; exact ⟨x, trivial, by rw [e]⟩) h
  obtain ⟨l, hr, -⟩ := sl_list (q := fun x : Int => Value.int .i64 x) (p := fun _ => True) hs
  exact ⟨A, n, c, l, e, hn, hr⟩
theorem tro_Con {cs : List Value} (h : Tro enc W 60 cs) : ConAt W cs.toArray := by
  obtain ⟨hl, hf⟩ := tro_struct Tryz.underlying60 h
  rw [Ts.c60] at hl
  match cs, hl, hf with
  | [u0, u1, u2, u3, u4], _, hf =>
    have h0 : Tro enc W 3 (([u0, u1, u2, u3, u4].drop 0).take (Tryz.prog.cellsOf 3)) := hf 0 _ rfl
    rw [Ts.c3] at h0
    simp only [List.drop, List.take] at h0
    have h1 : Tro enc W 46 (([u0, u1, u2, u3, u4].drop 1).take (Tryz.prog.cellsOf 46)) := hf 1 _ rfl
    rw [Ts.c46] at h1
    simp only [List.drop, List.take] at h1
    have h2 : Tro enc W 46 (([u0, u1, u2, u3, u4].drop 2).take (Tryz.prog.cellsOf 46)) := hf 2 _ rfl
    rw [Ts.c46] at h2
    simp only [List.drop, List.take] at h2
    have h3 : Tro enc W 58 (([u0, u1, u2, u3, u4].drop 3).take (Tryz.prog.cellsOf 58)) := hf 3 _ rfl
    rw [Ts.c58] at h3
    simp only [List.drop, List.take] at h3
    have h4 : Tro enc W 3 (([u0, u1, u2, u3, u4].drop 4).take (Tryz.prog.cellsOf 3)) := hf 4 _ rfl
    rw [Ts.c3] at h4
    simp only [List.drop, List.take] at h4
    obtain ⟨kind, e0⟩ := tro_int h0
    obtain ⟨P, n, c, ps, e1, hn, hp⟩ := tro_ints h1
    obtain ⟨C, m, d, qs, e2, hm, hq⟩ := tro_ints h2
    obtain ⟨V, v, e, e3, hv, -, hsl⟩ := tro_slice Tryz.underlying58 Ts.c63 (Pe := ExprAt 62 W) (fun cs h => tro_Ex 62 h) h3
    obtain ⟨side, e4⟩ := tro_int h4
    cases e0; cases e1; cases e2; cases e3; cases e4
    exact ⟨kind, P, n, c, ps, C, m, d, qs, V, v, e, side, rfl, hp, hq, ⟨hn, hm, hv⟩, hsl⟩
theorem tro_Sketch {cs : List Value} (h : Tro enc W 29 cs) : ∃ (P : Option Addr) (n c : Nat) (R : Option Addr) (m d : Nat) (G : Option Addr) (g gc : Nat) (A : Option Addr) (a ac : Nat) (H : Option Addr) (h hc : Nat) (C : Option Addr) (k kc : Nat), cs = (sketchC P n c R m d G g gc A a ac H h hc C k kc).toList ∧ SketchAt W P n c R m d G g gc A a ac H h hc C k kc := by
  obtain ⟨hl, hf⟩ := tro_struct Tryz.underlying29 h
  rw [Ts.c29] at hl
  match cs, hl, hf with
  | [u0, u1, u2, u3, u4, u5], _, hf =>
    have h0 : Tro enc W 22 (([u0, u1, u2, u3, u4, u5].drop 0).take (Tryz.prog.cellsOf 22)) := hf 0 _ rfl
    rw [Ts.c22] at h0
    simp only [List.drop, List.take] at h0
    have h1 : Tro enc W 23 (([u0, u1, u2, u3, u4, u5].drop 1).take (Tryz.prog.cellsOf 23)) := hf 1 _ rfl
    rw [Ts.c23] at h1
    simp only [List.drop, List.take] at h1
    have h2 : Tro enc W 24 (([u0, u1, u2, u3, u4, u5].drop 2).take (Tryz.prog.cellsOf 24)) := hf 2 _ rfl
    rw [Ts.c24] at h2
    simp only [List.drop, List.take] at h2
    have h3 : Tro enc W 25 (([u0, u1, u2, u3, u4, u5].drop 3).take (Tryz.prog.cellsOf 25)) := hf 3 _ rfl
    rw [Ts.c25] at h3
    simp only [List.drop, List.take] at h3
    have h4 : Tro enc W 26 (([u0, u1, u2, u3, u4, u5].drop 4).take (Tryz.prog.cellsOf 26)) := hf 4 _ rfl
    rw [Ts.c26] at h4
    simp only [List.drop, List.take] at h4
    have h5 : Tro enc W 27 (([u0, u1, u2, u3, u4, u5].drop 5).take (Tryz.prog.cellsOf 27)) := hf 5 _ rfl
    rw [Ts.c27] at h5
    simp only [List.drop, List.take] at h5
    obtain ⟨P, n, c, e0, hn, -, s0⟩ := tro_slice Tryz.underlying22 Ts.c54 (Pe := PtAt maxLen W) (fun cs h => tro_Pt h) h0
    obtain ⟨R, m, d, e1, hm, -, s1⟩ := tro_slice Tryz.underlying23 Ts.c56 (Pe := RdAt maxLen W) (fun cs h => tro_Rd h) h1
    obtain ⟨G, g, gc, e2, hg, -, s2⟩ := tro_slice Tryz.underlying24 Ts.c68 (Pe := SgAt) (fun cs h => tro_Sg h) h2
    obtain ⟨A, a, ac, e3, ha, -, s3⟩ := tro_slice Tryz.underlying25 Ts.c70 (Pe := ArAt) (fun cs h => tro_Ar h) h3
    obtain ⟨Hh, hh, hc, e4, hhn, -, s4⟩ := tro_slice Tryz.underlying26 Ts.c57 (Pe := ChAt maxLen W) (fun cs h => tro_Ch h) h4
    obtain ⟨C, k, kc, e5, hk, -, s5⟩ := tro_slice Tryz.underlying27 Ts.c60 (Pe := ConAt W) (fun cs h => tro_Con h) h5
    cases e0; cases e1; cases e2; cases e3; cases e4; cases e5
    exact ⟨P, n, c, R, m, d, G, g, gc, A, a, ac, Hh, hh, hc, C, k, kc, rfl, ⟨hn, hm, hg, ha, hhn, hk⟩, s0, s1, s2, s3, s4, s5⟩
theorem open_sketch {v : Value} {d : DataW H} {p : List MemPlace} (hv : Value.okWide Tryz.prog W .any 0 29 v) (h : DataW.Trod enc Tryz.prog W 0 (fun _ => true) true 29 v d p) :
    ∃ (P : Option Addr) (n c : Nat) (R : Option Addr) (m d : Nat) (G : Option Addr) (g gc : Nat) (A : Option Addr) (a ac : Nat) (H : Option Addr) (h hc : Nat) (C : Option Addr) (k kc : Nat), v = .agg (sketchC P n c R m d G g gc A a ac H h hc C k kc) ∧ SketchAt W P n c R m d G g gc A a ac H h hc C k kc := by
  have h2 : ∃ xs : Array Value, v = .agg xs := by
    have hv2 := hv
    simp only [Value.okWide, Tryz.underlying29] at hv2
    obtain ⟨cs, h1, -⟩ := hv2
    exact ⟨cs, h1⟩
  obtain ⟨xs, rfl⟩ := h2
  obtain ⟨fuel, hf⟩ := h
  obtain ⟨P, n, c, R, m, d, G, g, gc, A, a, ac, Hh, hh, hc, C, k, kc, e, hS⟩ := tro_Sketch ⟨fuel, _, hf⟩
  refine ⟨P, n, c, R, m, d, G, g, gc, A, a, ac, Hh, hh, hc, C, k, kc, ?_, hS⟩
  congr 1
  apply Array.toList_inj.1
  simpa [Value.cells] using e
end
end Go.Proofs.YtpdbekgkopglgaaGreat
namespace Go.Proofs.YtpdbekgkopglgaaGreat
set_option linter.unusedVariables false
set_option linter.unusedSimpArgs false
open Go.RowKit Go.Sort

def LAt (ls : List (List Int)) (i : Nat) : List Int := ls.getD i []
theorem lists_eq {a b : List (List Int)} (hl : a.length = b.length) (h : ∀ i, i < a.length → LAt a i = LAt b i) : a = b := by
  apply List.ext_getElem hl
  intro i h1 h2
  have := h i h1
  unfold LAt at this
  rw [List.getD_eq_getElem?_getD, List.getElem?_eq_getElem h1, List.getD_eq_getElem?_getD, List.getElem?_eq_getElem h2] at this
  exact this
theorem lists_ne {a b : List (List Int)} {i : Nat} (h : LAt a i ≠ LAt b i) : a ≠ b := fun e => h (by rw [e])
theorem ints_eq {a b : List Int} (hl : a.length = b.length) (h : ∀ i, i < a.length → a.getD i 0 = b.getD i 0) : a = b := by
  apply List.ext_getElem hl
  intro i h1 h2
  have := h i h1
  rw [List.getD_eq_getElem?_getD, List.getElem?_eq_getElem h1, List.getD_eq_getElem?_getD, List.getElem?_eq_getElem h2] at this
  exact this

set_option maxRecDepth 100000 in
set_option maxHeartbeats 8000000 in
theorem lists_any (A B : Option Addr) (n c m d : Nat) (la lb : List (List Int)) (w : World) (hn : n ≤ 1000000) (hm : m ≤ 1000000) (hsa : ∀ i, (LAt la i).length ≤ 1000000) (hsb : ∀ i, (LAt lb i).length ≤ 1000000) (ha : RdL w A n la) (hb : RdL w B m lb) :
    Calls Tryz.prog 12 #[.slice A n c, .slice B m d] w fun e w' => e = .returned (.bool (decide (la = lb))) ∧ Below w.heap.size w w' := by
  have HLA := Lib.hid ha.1
  have HLB := Lib.hid hb.1
  have H1 := Lib.hid ha
  have H2 := Lib.hid hb
  have SA := Lib.hid hsa
  have SB := Lib.hid hsb
  clear ha hb hsa hsb
  by_cases hnm : n = m
  · subst hnm
    go_enter Tryz.func12, Tryz.ntmps12
    go_wp2
    go_loopw [5, 6] (fun i _ wr => Below w.heap.size w wr ∧ ∃ k : Nat, k ≤ n ∧ i = .int .i64 k ∧ ∀ j, j < k → LAt la j = LAt lb j) (fun i _ _ => n - (intOf i).toNat)
    case atStart => exact ⟨Below.refl _ _, 0, Nat.zero_le _, rfl, by omega⟩
    case round =>
      obtain ⟨hb, k, hk, rfl, hok⟩ := hrel
      have HB := Lib.hid hb
      have HOK := Lib.hid hok
      have K := Lib.hid (Keeps.of_below hb (Nat.le_refl _))
      clear hb hok
      by_cases hlt : k < n
      · obtain ⟨ad, A', c', rfl, c0, ra⟩ := (H1.out.keep K.out).at hlt
        obtain ⟨ad2, B', d', rfl, c1, rb⟩ := (H2.out.keep K.out).at hlt
        have hla := SA.out k
        have hlb := SB.out k
        change _ = some (Value.slice A' (LAt la k).length c') at c0
        change _ = some (Value.slice B' (LAt lb k).length d') at c1
        change Rd wr 1 A' (LAt la k).length (ints (LAt la k)) at ra
        change Rd wr 1 B' (LAt lb k).length (ints (LAt lb k)) at rb
        generalize hxa : LAt la k = xa at *
        generalize hxb : LAt lb k = xb at *
        have XA := Lib.hid hxa
        have XB := Lib.hid hxb
        have RA := Lib.hid ra
        have RB := Lib.hid rb
        generalize hp : xa.length = p at *
        generalize hq : xb.length = q at *
        have HP := Lib.hid hp
        have HQ := Lib.hid hq
        have k0 := grown_cell c0
        have k1 := grown_cell c1
        clear hxa hxb ra rb hp hq
        by_cases hpq : p = q
        · subst hpq
          go_wp2
          refine wp_region_q (by kernel_rfl) (by kernel_rfl) ?_
          repeat (go_big_quiet_step (fail))
          refine wpQuiet_nil ?_
          intro wq hgq
          have c0 := Keeps.of_below hgq (Nat.le_refl _) _ _ c0
          have c1 := Keeps.of_below hgq (Nat.le_refl _) _ _ c1
          have RA2 := Lib.hid (RA.out.keep (Keeps.of_below hgq (Nat.le_refl _)))
          have RB2 := Lib.hid (RB.out.keep (Keeps.of_below hgq (Nat.le_refl _)))
          have HB2 := Lib.hid (HB.out.trans (hgq.mono HB.out.size))
          clear hgq k0 k1
          go_wp2
          go_loopw [6] (fun j w2 => Below wq.heap.size wq w2 ∧ ∃ t : Nat, t ≤ p ∧ j = .int .i64 t ∧ ∀ i, i < t → xa.getD i 0 = xb.getD i 0) (fun j _ => p - (intOf j).toNat)
          case atStart => exact ⟨Below.refl _ _, 0, Nat.zero_le _, rfl, by omega⟩
          case round =>
            obtain ⟨hb3, t, ht, rfl, hok2⟩ := hrel
            have HB3 := Lib.hid hb3
            have HOK2 := Lib.hid hok2
            have e0 := Keeps.of_below hb3 (Nat.le_refl _) _ _ c0
            have e1 := Keeps.of_below hb3 (Nat.le_refl _) _ _ c1
            clear hb3 hok2
            by_cases htl : t < p
            · obtain ⟨ad3, rfl, -, g0⟩ := (RA2.out.keep (Keeps.of_below HB3.out (Nat.le_refl _))).int_at htl
              obtain ⟨ad4, rfl, -, g1⟩ := (RB2.out.keep (Keeps.of_below HB3.out (Nat.le_refl _))).int_at htl
              generalize hx : xa.getD t 0 = x at g0
              generalize hy : xb.getD t 0 = y at g1
              have HX := Lib.hid hx
              have HY := Lib.hid hy
              have k0 := grown_cell g0
              have k1 := grown_cell g1
              have k2 := grown_cell e0
              have k3 := grown_cell e1
              clear hx hy
              cases hxy : (x != y)
              · have HXY : Hid (x = y) := by unfold Hid; simpa using hxy
                go_wp2
                refine wp_region_q (by kernel_rfl) (by kernel_rfl) ?_
                repeat (go_big_quiet_step (fail))
                refine wpQuiet_nil ?_
                intro wq hgq
                go_wp2
                go_roundw
                case rel => exact ⟨HB3.out.trans (hgq.mono HB3.out.size), t + 1, by omega, by go_num, fun i hi => by
                  by_cases e : i = t
                  · subst e; rw [HX.out, HY.out]; exact HXY.out
                  · exact HOK2.out i (by omega)⟩
                case measure => simp [intOf]; omega
              · have HXY : Hid (x ≠ y) := by unfold Hid; simpa using hxy
                go_wp2
                refine wp_region_q (by kernel_rfl) (by kernel_rfl) ?_
                repeat (go_big_quiet_step (fail))
                refine wpQuiet_nil ?_
                intro wq hgq
                go_wp2
                go_ret
                refine ⟨ret_bool ?_, (HB2.out.trans (HB3.out.mono HB2.out.size)).trans (hgq.mono (Nat.le_trans HB2.out.size HB3.out.size))⟩
                symm
                rw [decide_eq_false_iff_not]
                refine lists_ne (i := k) ?_
                rw [XA.out, XB.out]
                intro h
                exact HXY.out (by rw [← HX.out, ← HY.out, h])
            · go_wp2
              go_roundw
              case rel => exact ⟨HB2.out.trans (HB3.out.mono HB2.out.size), k + 1, by omega, by go_num, fun j hj => by
                by_cases e : j = k
                · subst e; rw [XA.out, XB.out]
                  exact ints_eq (by rw [HP.out, HQ.out]) (fun i hi => HOK2.out i (by rw [HP.out] at hi; omega))
                · exact HOK.out j (by omega)⟩
              case measure => simp [intOf]; omega
        · have hpb : ((p : Int) != (q : Int)) = true := by simp; omega
          have HPQ := Lib.hid hpq
          clear hpq
          go_wp2
          refine wp_region_q (by kernel_rfl) (by kernel_rfl) ?_
          repeat (go_big_quiet_step (fail))
          refine wpQuiet_nil ?_
          intro wq hgq
          go_wp2
          go_ret
          refine ⟨ret_bool ?_, HB.out.trans (hgq.mono HB.out.size)⟩
          symm
          rw [decide_eq_false_iff_not]
          refine lists_ne (i := k) ?_
          rw [XA.out, XB.out]
          intro h
          exact HPQ.out (by rw [← HP.out, ← HQ.out, h])
      · go_wp2
        go_ret
        exact ⟨ret_bool (by symm; rw [decide_eq_true_iff]; exact lists_eq (by rw [HLA.out, HLB.out]) (fun i hi => HOK.out i (by rw [HLA.out] at hi; omega))), HB.out⟩
  · have hb : ((n : Int) != (m : Int)) = true := by simp; omega
    have HNM := Lib.hid hnm
    clear hnm
    go_enter Tryz.func12, Tryz.ntmps12
    go_wp2
    go_ret
    exact ⟨ret_bool (by symm; rw [decide_eq_false_iff_not]; intro h; exact HNM.out (by rw [← HLA.out, ← HLB.out, h])), Below.refl _ _⟩
end Go.Proofs.YtpdbekgkopglgaaGreat
