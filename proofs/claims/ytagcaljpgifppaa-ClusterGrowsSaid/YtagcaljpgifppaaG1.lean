/-
  Small functions of the graph layer: pairs, Edges, in, less, edge.
-/
import Derived.Test.YtagcaljpgifppaaW1
import Derived.Test.YtagcaljpgifppaaW5
import Derived.Laws.StructEq
namespace Go.Proofs.Ytagcaljpgifppaa
set_option linter.unusedVariables false
set_option linter.unusedSimpArgs false
open Go.RowKit Go.Sort

def pairsB (es : List (Int × Int)) (a b : Int) : Bool := es.any fun e => (e.1 == a && e.2 == b) || (e.1 == b && e.2 == a)
theorem pairsB_hit (es : List (Int × Int)) (a b : Int) (k : Nat) (hk : k < es.length) (x y : Int) (hxy : es.getD k (0, 0) = (x, y)) (h : (x == a && y == b || x == b && y == a) = true) : pairsB es a b = true := by
  unfold pairsB
  rw [List.any_eq_true]
  refine ⟨es.getD k (0, 0), ?_, by rw [hxy]; exact h⟩
  rw [List.getD_eq_getElem?_getD, List.getElem?_eq_getElem hk]; exact List.getElem_mem hk
theorem pairsB_miss (es : List (Int × Int)) (a b : Int) (h : ∀ j, j < es.length → ((es.getD j (0, 0)).1 == a && (es.getD j (0, 0)).2 == b || (es.getD j (0, 0)).1 == b && (es.getD j (0, 0)).2 == a) = false) : pairsB es a b = false := by
  unfold pairsB
  rw [List.any_eq_false]
  intro e he
  obtain ⟨j, hj, rfl⟩ := List.getElem_of_mem he
  have := h j hj
  rw [List.getD_eq_getElem?_getD, List.getElem?_eq_getElem hj] at this
  simpa using this

theorem eqPair (a b c d : Int) (w : World) : (Op.equalIn 10000 42 (.agg #[.int .i64 a, .int .i64 b]) (.agg #[.int .i64 c, .int .i64 d])).run Try.prog w = .ok (a == c && b == d) w := by
  have u3 := Try.underlying3
  have a3 := Try.isAgg3
  have z3 := Try.sizeOf3
  rw [show (10000 : Nat) = 9999 + 1 from rfl, Op.equalIn]
  simp only [Sem.run_bind, run_underlying Try.underlying42, Result.andThen_ok]
  simp only [Std.Legacy.Range.forIn_eq_forIn_range', Std.Legacy.Range.size, Nat.sub_zero, Nat.add_sub_cancel, Nat.div_one, List.range'_succ, List.range'_zero, List.forIn_cons, List.forIn_nil]
  go_simp
  by_cases h1 : a = c <;> by_cases h2 : b = d <;> simp [h1, h2]

set_option maxHeartbeats 2000000 in
theorem pairs_any (A : Option Addr) (n c : Nat) (es : List (Int × Int)) (a b : Int) (w : World) (hn : n ≤ 4611686018427387904) (he : Rd w 2 A n (prs es)) :
    Calls Try.prog 108 #[.slice A n c, .int .i64 a, .int .i64 b] w fun e w' => e = .returned (.bool (pairsB es a b)) ∧ w = w' := by
  have HE := Lib.hid he.prs_len
  have H1 := Lib.hid he
  clear he
  have EQ := eqPair
  go_enter Try.func108, Try.ntmps108
  go_wp2
  go_loop [7] (fun i => ∃ k : Nat, k ≤ n ∧ i = .int .i64 k ∧ ∀ j, j < k → ((es.getD j (0, 0)).1 == a && (es.getD j (0, 0)).2 == b || (es.getD j (0, 0)).1 == b && (es.getD j (0, 0)).2 == a) = false) (fun i => n - (intOf i).toNat)
  case atStart => exact ⟨0, Nat.zero_le _, rfl, by omega⟩
  case round =>
    obtain ⟨k, hk, rfl, hok⟩ := hrel
    have HOK := Lib.hid hok
    clear hok
    by_cases hlt : k < n
    · obtain ⟨ad, rfl, c0, c1⟩ := H1.out.prs_at hlt
      generalize hxy : es.getD k (0, 0) = xy at c0 c1
      obtain ⟨x, y⟩ := xy
      simp only at c0 c1
      have HXY := Lib.hid hxy
      clear hxy
      cases h1 : (x == a) <;> cases h2 : (y == b) <;> cases h3 : (x == b) <;> cases h4 : (y == a)
      all_goals go_wp2
      all_goals first
        | (go_ret; exact ⟨ret_bool (pairsB_hit es a b k (by rw [HE.out]; exact hlt) x y HXY.out (by rw [h1, h2, h3, h4]; rfl)).symm, rfl⟩)
        | (go_round
           case rel => exact ⟨k + 1, by omega, by go_num, fun j hj => by
             by_cases e : j = k
             · subst e; rw [HXY.out]; show (x == a && y == b || x == b && y == a) = false; rw [h1, h2, h3, h4]; rfl
             · exact HOK.out j (by omega)⟩
           case measure => simp [intOf]; omega)
    · go_wp2
      go_ret
      exact ⟨ret_bool (pairsB_miss es a b (fun j hj => HOK.out j (by have := HE.out; omega))).symm, rfl⟩
end Go.Proofs.Ytagcaljpgifppaa
