/-
  Lists of pairs that the call itself owns: stores, cuts, clear.
-/
import Derived.Test.YtcpkdnhpelkeoaaGreatSpecL
import Derived.Test.YtcpkdnhpelkeoaaGreatOwnL
namespace Go.Proofs.YtcpkdnhpelkeoaaGreat
set_option linter.unusedVariables false
set_option linter.unusedSimpArgs false
open Go.RowKit Go.Sort

theorem grownBy_of_below {w w' : World} {row : Option Nat} (h : Below w.heap.size w w') : w.grownBy w' row := ⟨h.os, h.tape, h.output, h.size, fun k hk _ => h.block k hk⟩
theorem prs_set : ∀ (l : List (Int × Int)) (j : Nat) (x y : Int), ((prs l).set (j * 2) (.int .i64 x)).set (j * 2 + 1) (.int .i64 y) = prs (l.set j (x, y))
  | [], j, x, y => by simp [prs]
  | e :: l, 0, x, y => by simp [prs]
  | e :: l, j + 1, x, y => by
    have := prs_set l j x y
    simp only [prs, List.flatMap_cons, List.set_cons_succ] at this ⊢
    rw [show (j + 1) * 2 = j * 2 + 1 + 1 by omega]
    simp only [List.cons_append, List.nil_append, List.set_cons_succ]
    rw [this]
theorem prs_take (l : List (Int × Int)) (k : Nat) : (prs l).take (k * 2) = prs (l.take k) := by
  induction l generalizing k with
  | nil => simp [prs]
  | cons e l ih =>
    cases k with
    | zero => simp [prs]
    | succ k =>
      have := ih k
      simp only [prs, List.flatMap_cons, List.take_succ_cons] at this ⊢
      rw [show (k + 1) * 2 = k * 2 + 1 + 1 by omega]
      simp only [List.cons_append, List.nil_append, List.take_succ_cons]
      rw [this]
section
variable {w : World} {base g n c size : Nat} {e : TypeId} {l : List (Int × Int)} {xs : List Value} {A : Option Addr}
theorem Own.store2 (h : Own w base e 2 (some ⟨g, 0, none⟩) n c (prs l)) (j : Nat) (x y : Int) :
    Own ((w.setCell ⟨g, j * 2, none⟩ (.int .i64 x)).setCell ⟨g, j * 2 + 1, none⟩ (.int .i64 y)) base e 2 (some ⟨g, 0, none⟩) n c (prs (l.set j (x, y))) ∧
      w.grownBy ((w.setCell ⟨g, j * 2, none⟩ (.int .i64 x)).setCell ⟨g, j * 2 + 1, none⟩ (.int .i64 y)) (some g) := by
  obtain ⟨h1, g1⟩ := World.ownsRow.stored h (j * 2) (.int .i64 x)
  obtain ⟨h2, g2⟩ := World.ownsRow.stored h1 (j * 2 + 1) (.int .i64 y)
  refine ⟨?_, g1.trans g2⟩
  rw [prs_set] at h2
  exact h2
theorem Own.shrink (h : Own w base e size A n c xs) {k : Nat} (hk : k ≤ n) (hA : A ≠ none) : Own w base e size A k c (xs.take (k * size)) := by
  rcases h.2 with ⟨hv, h2⟩ | ⟨g, cap, cur, hv, hb, hh, hc, hm, hs, ht⟩
  · injection hv with h1 h3 h4
    exact absurd h1 hA
  · injection hv with h1 h3 h4
    subst h1 h4
    have hle : k * size ≤ n * size := Nat.mul_le_mul_right _ hk
    refine ⟨by rw [List.length_take, h.1]; omega, .inr ⟨g, c, cur, rfl, hb, hh, by omega, hm, hs, ?_⟩⟩
    rw [← ht, List.take_take, Nat.min_eq_left hle]
theorem Own.set_many : ∀ (vs : List Value) (o : Nat) {w : World} {xs : List Value}, Own w base e size (some ⟨g, 0, none⟩) n c xs →
    ∃ xs', Own (w.setCells g o vs) base e size (some ⟨g, 0, none⟩) n c xs' ∧ xs'.take o = xs.take o ∧ w.grownBy (w.setCells g o vs) (some g)
  | [], o, w, xs, h => ⟨xs, h, rfl, World.grownBy.refl _ _⟩
  | v :: vs, o, w, xs, h => by
    obtain ⟨h1, g1⟩ := World.ownsRow.stored h o v
    obtain ⟨xs', h2, h3, h4⟩ := Own.set_many vs (o + 1) h1
    refine ⟨xs', h2, ?_, g1.trans h4⟩
    have : (xs'.take (o + 1)).take o = ((xs.set o v).take (o + 1)).take o := by rw [h3]
    rw [List.take_take, List.take_take, Nat.min_eq_left (Nat.le_succ o)] at this
    rw [this, List.take_set_of_le (Nat.le_refl _)]
theorem Own.pr_at (h : Own w base e 2 (some ⟨g, 0, none⟩) n c (prs l)) {k : Nat} (hk : k < n) : w.cell? ⟨g, k * 2, none⟩ = some (.int .i64 (PAt l k).1) ∧ w.cell? ⟨g, k * 2 + 1, none⟩ = some (.int .i64 (PAt l k).2) := by
  have hl := h.len
  rw [prs_length] at hl
  refine ⟨?_, ?_⟩
  · rw [World.ownsRow.cellAt h (k * 2) (by omega), prs_at0 l k (by omega)]; rfl
  · rw [World.ownsRow.cellAt h (k * 2 + 1) (by omega), prs_at1 l k (by omega)]; rfl
theorem Own.plen (h : Own w base e 2 A n c (prs l)) : l.length = n := by have := h.len; rw [prs_length] at this; omega
end
theorem zeroPair : ∀ w, (zeroValue 28).run Tryz.prog w = .ok (.agg #[.int .i64 0, .int .i64 0]) w := fun w => by kernel_rfl
theorem clear_pairs {w : World} {base g n c : Nat} {l : List (Int × Int)} (h : Own w base 28 2 (some ⟨g, 0, none⟩) n c (prs l)) (k m d : Nat) (hm : 0 < m) (hkm : k + m = n) :
    ∃ w', (∀ ty, (Builtin.clear_ #[29] ty #[.slice (some ⟨g, k * 2, none⟩) m d]).run Tryz.prog w = .ok (.tuple #[]) w') ∧ Own w' base 28 2 (some ⟨g, 0, none⟩) k c (prs (l.take k)) ∧ w.grownBy w' (some g) := by
  have hl := h.plen
  have hzl : (Builtin.zeroCells (Value.agg #[.int .i64 0, .int .i64 0]).cells m).toList.length = m * 2 := by simp [Builtin.zeroCells, Value.cells]
  have hz1 : ∀ v ∈ (Builtin.zeroCells (Value.agg #[.int .i64 0, .int .i64 0]).cells m).toList, v.oneCell' = true := by
    intro v hv
    simp [Builtin.zeroCells, Value.cells] at hv
    obtain ⟨i, -, rfl⟩ := hv
    rcases Nat.mod_two_eq_zero_or_one i with e | e <;> rw [e] <;> rfl
  obtain ⟨xs', h1, h2, h3⟩ := Own.set_many (Builtin.zeroCells (Value.agg #[.int .i64 0, .int .i64 0]).cells m).toList (k * 2) h
  refine ⟨_, fun ty => ?_, ?_, h3⟩
  · have hst := run_storeCells_cells (P := Tryz.prog) g (k * 2) (Builtin.zeroCells (Value.agg #[.int .i64 0, .int .i64 0]).cells m).toList 0 w
      (fun j hj => by
        rw [hzl] at hj
        rw [World.ownsRow.cellAt h (k * 2 + 0 + j) (by omega), List.getElem?_eq_getElem (by rw [prs_length]; omega)]; rfl)
      (fun j _ => h.frozen _) hz1
    simp only [Nat.add_zero] at hst
    obtain ⟨q, rfl⟩ : ∃ q, m = q + 1 := ⟨m - 1, by omega⟩
    simp [Builtin.clear_, run_underlying Tryz.underlying29, zeroPair, hst]
  · have := h1.shrink (k := k) (by omega) (by simp)
    rw [h2, prs_take] at this
    exact this

end Go.Proofs.YtcpkdnhpelkeoaaGreat
