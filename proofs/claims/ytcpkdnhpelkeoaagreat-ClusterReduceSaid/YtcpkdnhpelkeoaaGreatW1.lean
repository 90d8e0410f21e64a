/-
  What the small functions of the graph layer answer: cmp.Compare, cmp.Or, has, compare, before, Small, short.
-/
import Derived.Test.YtcpkdnhpelkeoaaGreatRows
import Derived.Test.YtcpkdnhpelkeoaaGreatReg
import Derived.Test.YtcpkdnhpelkeoaaGreatSpecA
import Derived.WalkLawsBesides
namespace Go.Proofs.YtcpkdnhpelkeoaaGreat
set_option linter.unusedVariables false
set_option linter.unusedSimpArgs false
open Go.RowKit Go.Sort

set_option maxHeartbeats 400000 in
theorem has_any (n k : Int) (w : World) :
    Calls Tryz.prog 44 #[.int .i64 n, .int .i64 k] w fun e w' => e = .returned (.bool (hasB n k)) ∧ w = w' := by
  unfold hasB
  go_enter Tryz.func44, Tryz.ntmps44
  go_wp2
  all_goals go_ret
  all_goals simp
  all_goals omega

set_option maxHeartbeats 400000 in
theorem ccmp_any (a b : Int) (w : World) :
    Calls Tryz.prog 37 #[.int .i64 a, .int .i64 b] w fun e w' => e = .returned (.int .i64 (cmpI a b)) ∧ w = w' := by
  go_enter Tryz.func37, Tryz.ntmps37
  go_wp2
  all_goals go_ret
  all_goals refine ⟨ret_int ?_, rfl⟩
  all_goals (unfold cmpI; grind)

set_option maxHeartbeats 400000 in
theorem cor_any (b o : Nat) (x y : Int) (c : Nat) (w : World) (h0 : w.cell? ⟨b, o, none⟩ = some (.int .i64 x)) (h1 : w.cell? ⟨b, o + 1, none⟩ = some (.int .i64 y)) :
    Calls Tryz.prog 71 #[.slice (some ⟨b, o, none⟩) 2 c] w fun e w' => e = .returned (.int .i64 (orI x y)) ∧ w = w' := by
  by_cases ha : x = 0
  · subst ha
    by_cases hb : y = 0
    · subst hb
      go_enter Tryz.func71, Tryz.ntmps71
      go_wp2
      refine wp_loop_rounds 3 ?_
      rw [rounds_succ]
      go_wp2
      rw [rounds_succ]
      go_wp2
      rw [rounds_succ]
      go_wp2
      go_ret
      exact ⟨rfl, rfl⟩
    · have hb2 : (y != 0) = true := by simpa using hb
      go_enter Tryz.func71, Tryz.ntmps71
      go_wp2
      refine wp_loop_rounds 2 ?_
      rw [rounds_succ]
      go_wp2
      rw [rounds_succ]
      go_wp2
      go_ret
      exact ⟨by simp [orI], rfl⟩
  · have hb2 : (x != 0) = true := by simpa using ha
    go_enter Tryz.func71, Tryz.ntmps71
    go_wp2
    refine wp_loop_rounds 1 ?_
    rw [rounds_succ]
    go_wp2
    go_ret
    exact ⟨by simp [orI, ha], rfl⟩

set_option maxHeartbeats 400000 in
theorem gcompare_any (a b c d : Int) (w : World) :
    Calls Tryz.prog 45 #[.agg #[.int .i64 a, .int .i64 b], .agg #[.int .i64 c, .int .i64 d]] w fun e w' => e = .returned (.int .i64 (cmpE a b c d)) ∧ Below w.heap.size w w' := by
  have c0 := grown_cell (w := (w.alloc (.cells #[.int .i64 a, .int .i64 b] 28)).alloc (.cells #[.int .i64 c, .int .i64 d] 28)) (a := ⟨w.heap.size, 0, none⟩) (v := .int .i64 a) (by simp)
  have c1 := grown_cell (w := (w.alloc (.cells #[.int .i64 a, .int .i64 b] 28)).alloc (.cells #[.int .i64 c, .int .i64 d] 28)) (a := ⟨w.heap.size, 1, none⟩) (v := .int .i64 b) (by simp)
  have c2 := grown_cell (w := (w.alloc (.cells #[.int .i64 a, .int .i64 b] 28)).alloc (.cells #[.int .i64 c, .int .i64 d] 28)) (a := ⟨w.heap.size + 1, 0, none⟩) (v := .int .i64 c) (by simp)
  have c3 := grown_cell (w := (w.alloc (.cells #[.int .i64 a, .int .i64 b] 28)).alloc (.cells #[.int .i64 c, .int .i64 d] 28)) (a := ⟨w.heap.size + 1, 1, none⟩) (v := .int .i64 d) (by simp)
  have d1 := call_p (w := (w.alloc (.cells #[.int .i64 a, .int .i64 b] 28)).alloc (.cells #[.int .i64 c, .int .i64 d] 28)) (ccmp_any a c)
  have d2 := call_p (w := (w.alloc (.cells #[.int .i64 a, .int .i64 b] 28)).alloc (.cells #[.int .i64 c, .int .i64 d] 28)) (ccmp_any b d)
  unfold cmpE
  go_enter Tryz.func45, Tryz.ntmps45
  go_wp2
  refine wp_region_qt 10 (by kernel_rfl) (by kernel_rfl) ?_
  simp only [List.take_succ_cons, List.take_zero, List.drop_succ_cons, List.drop_zero]
  repeat (go_big_quiet_step (first | with_reducible exact d1 _ _ | with_reducible exact d2 _ _))
  refine wpQuiet_nil ?_
  intro wq hgq
  go_wp2_with (go_at_call 71; refine (cor_any _ _ (cmpI a c) (cmpI b d) _ _ (by simp) (by simp)).mono ?_; rintro e w' ⟨rfl, rfl⟩)
  go_ret
  have hs := hgq.size
  simp at hs
  exact ⟨rfl, ((((Below.refl _ _).alloc (Nat.le_refl _) _).alloc (by simp) _).trans (hgq.mono (by simp; omega))).alloc (by omega) _⟩

end Go.Proofs.YtcpkdnhpelkeoaaGreat
