/-
  setsquareref33.Make: for every list of edges in memory.
-/
import Derived.Test.YtcpkdnhpelkeoaaGreatSpecK
import Derived.Test.YtcpkdnhpelkeoaaGreatG2
import Derived.Test.YtcpkdnhpelkeoaaGreatApp
import Derived.Test.YtcpkdnhpelkeoaaGreatOwnL
import Derived.Deep.DeepCutAuto
namespace Go.Proofs.YtcpkdnhpelkeoaaGreat
set_option linter.unusedVariables false
set_option linter.unusedSimpArgs false
open Go.RowKit Go.Sort

def okP (N x y : Int) : Bool := decide (0 ≤ x) && decide (0 ≤ y) && decide (x < N) && decide (y < N) && !(x == y)
def okE (N : Int) (es : List (Int × Int)) : Bool := decide (0 ≤ N) && decide (N ≤ 60) && es.all fun e => okP N e.1 e.2
def mkE (N : Int) (es : List (Int × Int)) : Option (List (Int × Int)) := if okE N es then some (mkL N.toNat es) else none
theorem mkE_range {N : Int} {es : List (Int × Int)} (h : N < 0 ∨ 60 < N) : mkE N es = none := by
  have : okE N es = false := by
    unfold okE
    rcases h with h | h
    · rw [decide_eq_false (by omega : ¬ 0 ≤ N)]; rfl
    · rw [decide_eq_false (by omega : ¬ N ≤ 60)]; simp
  unfold mkE; rw [this]; rfl
theorem mkE_no {N : Int} {es : List (Int × Int)} {k : Nat} (hk : k < es.length) (x y : Int) (hxy : es.getD k (0, 0) = (x, y)) (h : okP N x y = false) : mkE N es = none := by
  have : okE N es = false := by
    unfold okE
    rw [Bool.and_eq_false_iff]
    right
    rw [List.all_eq_false]
    refine ⟨es.getD k (0, 0), ?_, by rw [hxy]; simp [h]⟩
    rw [List.getD_eq_getElem?_getD, List.getElem?_eq_getElem hk]; exact List.getElem_mem hk
  unfold mkE; rw [this]; rfl
theorem mkE_yes {n : Nat} {es : List (Int × Int)} (hn : n ≤ 60) (h : ∀ j, j < es.length → okP n (es.getD j (0, 0)).1 (es.getD j (0, 0)).2 = true) : mkE n es = some (mkL n es) := by
  have : okE n es = true := by
    unfold okE
    rw [decide_eq_true (by omega : (0 : Int) ≤ n), decide_eq_true (by omega : (n : Int) ≤ 60)]
    simp only [Bool.true_and, List.all_eq_true]
    intro e he
    obtain ⟨j, hj, rfl⟩ := List.getElem_of_mem he
    have := h j hj
    rwa [List.getD_eq_getElem?_getD, List.getElem?_eq_getElem hj] at this
  unfold mkE; rw [this]; rfl

def MakePost (w : World) (N : Int) (r : Option (List (Int × Int))) (e : Ending) (w' : World) : Prop :=
  Below w.heap.size w w' ∧ match r with
  | none => e = .returned (.tuple #[.agg #[.int .i64 0, .slice none 0 0], .int .i64 1])
  | some l => ∃ B c, e = .returned (.tuple #[.agg #[.int .i64 N, .slice B l.length c], .int .i64 0]) ∧ Own w' w.heap.size 28 2 B l.length c (prs l)

/-- The graph under way lies in the block behind wr, its edges in a block of the call's own behind that. -/
def MkInv (wr w2 : World) (n : Nat) (l : List (Int × Int)) : Prop :=
  Below wr.heap.size wr w2 ∧ wr.heap.size < w2.heap.size ∧ w2.frozen? ⟨wr.heap.size, 1, none⟩ = false ∧ w2.cell? ⟨wr.heap.size, 0, none⟩ = some (.int .i64 n) ∧
    ∃ B c, w2.cell? ⟨wr.heap.size, 1, none⟩ = some (.slice B l.length c) ∧ Own w2 (wr.heap.size + 1) 28 2 B l.length c (prs l)
theorem MkInv.start (wr : World) (n : Nat) : MkInv wr (wr.alloc (.cells #[.int .i64 n, .slice none 0 0] 31)) n [] :=
  ⟨(Below.refl _ _).alloc (Nat.le_refl _) _, by simp, by simp, by simp, none, 0, by simp, Own.nil _ _ _ _⟩
theorem Own.setOther {w : World} {base size n c : Nat} {e : TypeId} {A : Option Addr} {xs : List Value} (h : Own w base e size A n c xs) {p : Addr} (hp : p.block < base) (u : Value) : Own (w.setCell p u) base e size A n c xs := by
  refine ⟨h.1, ?_⟩
  rcases h.2 with h2 | ⟨g, cap, cur, hv, hg, hh, rest⟩
  · exact .inl h2
  · exact .inr ⟨g, cap, cur, hv, hg, by rw [Below.heap_setCell _ _ _ _ (by omega)]; exact hh, rest⟩
theorem rowK_len (es : List (Int × Int)) (a b : Nat) : (rowK es a b).length ≤ b := by
  unfold rowK
  rw [List.length_map]
  exact Nat.le_trans (List.length_filter_le _ _) (by simp)
theorem uptoK_len (es : List (Int × Int)) (n : Nat) : ∀ k, (uptoK es n k).length ≤ k * n
  | 0 => by simp [uptoK]
  | k + 1 => by
    have h1 := uptoK_len es n k
    have h2 := rowK_len es k n
    unfold uptoK
    rw [List.length_append, Nat.succ_mul]
    omega
end Go.Proofs.YtcpkdnhpelkeoaaGreat
