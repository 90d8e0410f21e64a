/-
  Small functions of the graph layer: pairs, Edges, in, less, edge.
-/
import Derived.Test.YtcpkdnhpelkeoaaGreatW1
import Derived.Test.YtcpkdnhpelkeoaaGreatW5
import Derived.Laws.StructEq
namespace Go.Proofs.YtcpkdnhpelkeoaaGreat
set_option linter.unusedVariables false
set_option linter.unusedSimpArgs false
open Go.RowKit Go.Sort

def pairsB (es : List (Int × Int)) (a b : Int) : Bool := es.any fun e => (e.1 == a && e.2 == b) || (e.1 == b && e.2 == a)
theorem pairsB_hit (es : List (Int × Int)) (a b : Int) (k : Nat) (hk : k < es.length) (x y : Int) (hxy : es.getD k (0, 0) = (x, y)) (h : (x == a && y == b || x == b && y == a) = true) : pairsB es a b = true := by
  unfold pairsB
  rw [List.any_eq_true]
  refine ⟨es.getD k (0, 0), ?_, by rw [hxy]; exact h⟩
  rw [List.getD_eq_getElem?_getD, List.getElem?_eq_getElem hk]; exact List.getElem_mem hk
theorem pairsB_miss (es : List (Int × Int)) (a b : Int) (h : ∀ j, j < es.length → ((es.getD j (0, 0)).1 == a && (es.getD j (0, 0)).2 == b || (es.getD j (0, 0)).1 == b && (es.getD j (0, 0)).2 == a) = false) : pairsB es a b = false := by
  unfold pairsB
  rw [List.any_eq_false]
  intro e he
  obtain ⟨j, hj, rfl⟩ := List.getElem_of_mem he
  have := h j hj
  rw [List.getD_eq_getElem?_getD, List.getElem?_eq_getElem hj] at this
  simpa using this

theorem eqPair (a b c d : Int) (w : World) : (Op.equalIn 10000 28 (.agg #[.int .i64 a, .int .i64 b]) (.agg #[.int .i64 c, .int .i64 d])).run Tryz.prog w = .ok (a == c && b == d) w := by
  have u3 := Tryz.underlying3
  have a3 := Tryz.isAgg3
  have z3 := Tryz.sizeOf3
  rw [show (10000 : Nat) = 9999 + 1 from rfl, Op.equalIn]
  simp only [Sem.run_bind, run_underlying Tryz.underlying28, Result.andThen_ok]
  simp only [Std.Legacy.Range.forIn_eq_forIn_range', Std.Legacy.Range.size, Nat.sub_zero, Nat.add_sub_cancel, Nat.div_one, List.range'_succ, List.range'_zero, List.forIn_cons, List.forIn_nil]
  go_simp
  by_cases h1 : a = c <;> by_cases h2 : b = d <;> simp [h1, h2]

end Go.Proofs.YtcpkdnhpelkeoaaGreat
