/-
  setsquareref36: Valid, Joined, Set; setsquarelaw36.small.
-/
import Derived.Test.YtagcaljpgifppaaW2
import Derived.Test.YtagcaljpgifppaaG4
import Derived.Test.YtagcaljpgifppaaKc
import Derived.Test.YtagcaljpgifppaaSpecF
namespace Go.Proofs.Ytagcaljpgifppaa
set_option linter.unusedVariables false
set_option linter.unusedSimpArgs false
open Go.RowKit Go.Sort
attribute [local go_sem ↓] Go.wp_at_zero Go.wp_at_succ

def v36 (N mo : Int) (es : List (Int × Int)) : Bool := validB N es && decide (N ≤ mo)
theorem v36_no {N mo : Int} {es : List (Int × Int)} {k : Nat} (hk : k < es.length) (h : okAt N es k = false) : v36 N mo es = false := by unfold v36; rw [validB_no N es k hk h]; rfl
theorem befB_gt {p q x y : Int} (h : x < p) : befB p q x y = false := by
  unfold befB
  rw [decide_eq_false (by omega : ¬ p < x), decide_eq_false (by omega : ¬ p = x)]; rfl
theorem befB_eq {p q x y : Int} (h : p = x) : befB p q x y = decide (q < y) := by
  unfold befB
  rw [decide_eq_false (by omega : ¬ p < x), decide_eq_true h]; rfl
theorem befB_lt {p q x y : Int} (h : p < x) : befB p q x y = true := by
  unfold befB
  rw [decide_eq_true h]; rfl
set_option maxHeartbeats 4000000 in
theorem valid36_any (N mo : Int) (A : Option Addr) (n c : Nat) (es : List (Int × Int)) (w : World) (hn : n ≤ 9223372036854775807) (hmo : mo ≤ 60) (he : Rd w 2 A n (prs es)) :
    Calls Try.prog 39 #[.agg #[.int .i64 N, .slice A n c], .int .i64 mo] w fun e w' => e = .returned (.bool (v36 N mo es)) ∧ Below w.heap.size w w' := by
  have X0 : Hid (BC w N A n c (w.alloc (.cells #[.int .i64 N, .slice A n c] 24))) := Lib.hid BC.start
  obtain ⟨hz0, p0, p1⟩ := X0.out.facts
  by_cases hN0 : N < 0
  · have h0 : v36 N mo es = false := by unfold v36; rw [validB_out N es (.inl hN0)]; rfl
    rw [h0]
    clear h0
    go_enter Try.func39, Try.ntmps39
    go_wp2_with fail
    go_ret
    exact ⟨rfl, X0.out.below⟩
  by_cases hN1 : mo < N
  · have h0 : v36 N mo es = false := by unfold v36; rw [decide_eq_false (by omega)]; simp
    rw [h0]
    clear h0
    go_enter Try.func39, Try.ntmps39
    go_wp2_with fail
    go_ret
    exact ⟨rfl, X0.out.below⟩
  have HL := Lib.hid he.prs_len
  have H1 := Lib.hid he
  have YES : Hid ((∀ j, j < n → okAt N es j = true) → v36 N mo es = true) := Lib.hid fun h => by
    unfold v36
    rw [validB_yes N es (by omega) (by omega) (fun j hj => h j (by rw [← he.prs_len]; exact hj)), decide_eq_true (by omega)]; rfl
  have NO : Hid (∀ k, k < n → okAt N es k = false → v36 N mo es = false) := Lib.hid fun k hk h => v36_no (by rw [he.prs_len]; exact hk) h
  clear he
  generalize v36 N mo es = vv at *
  go_enter Try.func39, Try.ntmps39
  go_wp2_with fail
  go_loopg [5] n (fun g i wr => ∃ k : Nat, k ≤ n ∧ g = n - k ∧ i = .int .i64 k ∧ (∀ j, j < k → okAt N es j = true) ∧ BC w N A n c wr)
  case atStart => exact ⟨0, Nat.zero_le _, rfl, rfl, by omega, X0.out⟩
  case round =>
    obtain ⟨k, hk, rfl, rfl, hok, hbw⟩ := hrel
    have HOK := Lib.hid hok
    have HB := Lib.hid hbw
    clear p0 p1
    obtain ⟨hz1, p0, p1⟩ := hbw.facts
    have n0 := World.new_ne wr _ p0
    clear hok hbw
    by_cases hlt : k < n
    · obtain ⟨ad, rfl, c0, c1⟩ := (H1.out.keep HB.out.keeps).prs_at hlt
      generalize hx : (es.getD k (0, 0)).1 = x at c0
      generalize hy : (es.getD k (0, 0)).2 = y at c1
      have HX := Lib.hid hx
      have HY := Lib.hid hy
      clear hx hy
      have HA : Hid (BC w N (some ad) n c (wr.alloc (.cells #[.int .i64 x, .int .i64 y] 42))) := Lib.hid (HB.out.next ((Below.refl _ _).alloc (Nat.le_refl _) _))
      have kx : ∀ d os, (grow (redrawn (wr.alloc (.cells #[.int .i64 x, .int .i64 y] 42)) d) os).cell? ⟨wr.heap.size, 0, none⟩ = some (.int .i64 x) := cell_regrown (by simp)
      have ky : ∀ d os, (grow (redrawn (wr.alloc (.cells #[.int .i64 x, .int .i64 y] 42)) d) os).cell? ⟨wr.heap.size, 1, none⟩ = some (.int .i64 y) := cell_regrown (by simp)
      have kE : ∀ d os, (grow (redrawn (wr.alloc (.cells #[.int .i64 x, .int .i64 y] 42)) d) os).cell? ⟨w.heap.size, 1, none⟩ = some (.slice (some ad) n c) := cell_regrown (Keeps.alloc _ _ _ _ p1)
      by_cases q1 : x < 0
      · have NOK := Lib.hid (NO.out k hlt (okAt_no HX.out HY.out (.inl q1)))
        go_wp2_with fail
        go_ret
        exact ⟨ret_bool NOK.out.symm, HA.out.below⟩
      by_cases q2 : y ≤ x
      · have NOK := Lib.hid (NO.out k hlt (okAt_no HX.out HY.out (.inr (.inl q2))))
        go_wp2_with fail
        go_ret
        exact ⟨ret_bool NOK.out.symm, HA.out.below⟩
      by_cases q3 : N ≤ y
      · have NOK := Lib.hid (NO.out k hlt (okAt_no HX.out HY.out (.inr (.inr q3))))
        go_wp2_with fail
        go_ret
        exact ⟨ret_bool NOK.out.symm, HA.out.below⟩
      by_cases q4 : k = 0
      · have q5 : decide (0 < k) = false := by simp [q4]
        have Q4 := Lib.hid q4
        clear q4
        go_wp2_with fail
        refine wp_region_q (by kernel_rfl) (by kernel_rfl) ?_
        repeat (go_big_quiet_step (fail))
        refine wpQuiet_nil ?_
        intro wq hgq
        go_wp2_with fail
        go_roundg (n - (k + 1))
        case measure => omega
        case rel => exact ⟨k + 1, by omega, rfl, by go_num, okAt_step HOK.out (okAt_zero HX.out HY.out (by omega) (by omega) (by omega) Q4.out), HA.out.next hgq⟩
      obtain ⟨ad', e', d0, d1⟩ := (H1.out.keep HB.out.keeps).prs_at (k := k - 1) (by omega)
      obtain rfl : ad = ad' := by injection e'
      clear e'
      generalize hp : (es.getD (k - 1) (0, 0)).1 = p at d0
      generalize hq : (es.getD (k - 1) (0, 0)).2 = q at d1
      have OK : Hid (∀ b, befB p q x y = b → okAt N es k = b) := Lib.hid fun b hb => okAt_pq HX.out HY.out hp hq hb q1 q2 q3 q4
      clear hp hq
      have kp : ∀ d os, (grow (redrawn (wr.alloc (.cells #[.int .i64 x, .int .i64 y] 42)) d) os).cell? (ad.add ((k - 1) * 2)) = some (.int .i64 p) := cell_regrown (Keeps.alloc _ _ _ _ d0)
      have kq : ∀ d os, (grow (redrawn (wr.alloc (.cells #[.int .i64 x, .int .i64 y] 42)) d) os).cell? ⟨(ad.add ((k - 1) * 2)).block, (ad.add ((k - 1) * 2)).off + 1, none⟩ = some (.int .i64 q) := cell_regrown (Keeps.alloc _ _ _ _ d1)
      have q4' : 0 < k := by omega
      have hm0 : (0 : Int) ≤ (k : Int) - 1 := by omega
      have hm1 : (k : Int) - 1 < (n : Int) := by omega
      have hi1 : ((k : Int) - 1).toNat = k - 1 := by omega
      by_cases h1 : x < p
      · have NOK := Lib.hid (NO.out k hlt (OK.out _ (befB_gt h1)))
        go_wp2_with fail
        refine wp_region_q (by kernel_rfl) (by kernel_rfl) ?_
        repeat (go_big_quiet_step (fail))
        refine wpQuiet_nil ?_
        intro wq hgq
        go_wp2_with fail
        go_ret
        exact ⟨ret_bool NOK.out.symm, (HA.out.next hgq).below⟩
      have d1 : decide (x < p) = false := decide_eq_false h1
      by_cases h2 : p = x
      · have h2b : (p == x) = true := by simp [h2]
        by_cases h3 : y ≤ q
        · have NOK := Lib.hid (NO.out k hlt (OK.out false (by rw [befB_eq h2, decide_eq_false (by omega)])))
          clear h2
          go_wp2_with fail
          refine wp_region_q (by kernel_rfl) (by kernel_rfl) ?_
          repeat (go_big_quiet_step (fail))
          refine wpQuiet_nil ?_
          intro wq hgq
          go_wp2_with fail
          go_ret
          exact ⟨ret_bool NOK.out.symm, (HA.out.next hgq).below⟩
        · have YOK := Lib.hid (OK.out true (by rw [befB_eq h2, decide_eq_true (by omega)]))
          clear h2
          go_wp2_with fail
          refine wp_region_q (by kernel_rfl) (by kernel_rfl) ?_
          repeat (go_big_quiet_step (fail))
          refine wpQuiet_nil ?_
          intro wq hgq
          go_wp2_with fail
          go_roundg (n - (k + 1))
          case measure => omega
          case rel => exact ⟨k + 1, by omega, rfl, by go_num, okAt_step HOK.out YOK.out, HA.out.next hgq⟩
      · have h2b : (p == x) = false := by simp [h2]
        have YOK := Lib.hid (OK.out true (befB_lt (by omega)))
        clear h2
        go_wp2_with fail
        refine wp_region_q (by kernel_rfl) (by kernel_rfl) ?_
        repeat (go_big_quiet_step (fail))
        refine wpQuiet_nil ?_
        intro wq hgq
        go_wp2_with fail
        go_roundg (n - (k + 1))
        case measure => omega
        case rel => exact ⟨k + 1, by omega, rfl, by go_num, okAt_step HOK.out YOK.out, HA.out.next hgq⟩
    · obtain rfl : k = n := by omega
      have YOK := Lib.hid (YES.out HOK.out)
      go_wp2_with fail
      go_ret
      exact ⟨ret_bool YOK.out.symm, HB.out.below⟩
theorem valid36_b {b : Bool} (N mo : Int) (A : Option Addr) (n c : Nat) (es : List (Int × Int)) (w : World) (hn : n ≤ 9223372036854775807) (hmo : mo ≤ 60) (he : Rd w 2 A n (prs es)) (hb : v36 N mo es = b) :
    Calls Try.prog 39 #[.agg #[.int .i64 N, .slice A n c], .int .i64 mo] w fun e w' => e = .returned (.bool b) ∧ Below w.heap.size w w' := by subst hb; exact valid36_any N mo A n c es w hn hmo he

def sm36 (N : Int) (m : Nat) : Bool := (decide (N ≤ 7) || decide (60 < N)) && decide (m ≤ 25)
theorem small36_any (N : Int) (A : Option Addr) (m c : Nat) (w : World) :
    Calls Try.prog 36 #[.agg #[.int .i64 N, .slice A m c]] w fun e w' => e = .returned (.bool (sm36 N m)) ∧ Below w.heap.size w w' := by
  have X0 : Hid (BC w N A m c (w.alloc (.cells #[.int .i64 N, .slice A m c] 24))) := Lib.hid BC.start
  obtain ⟨hz0, p0, p1⟩ := X0.out.facts
  have DF : Hid (∀ b1 b2 b3, decide (N ≤ 7) = b1 → decide (60 < N) = b2 → decide ((m : Int) ≤ 25) = b3 → sm36 N m = ((b1 || b2) && b3)) := Lib.hid fun _ _ _ h1 h2 h3 => by
    unfold sm36
    rw [h1, h2, ← h3]
    congr 1
    rw [Bool.eq_iff_iff]
    simp only [decide_eq_true_eq]
    omega
  cases h1 : decide (N ≤ 7) <;> cases h2 : decide (60 < N) <;> cases h3 : decide ((m : Int) ≤ 25)
  all_goals
    have D := Lib.hid (DF.out _ _ _ h1 h2 h3)
    go_enter Try.func36, Try.ntmps36
    go_wp2_with fail
    go_ret
    exact ⟨ret_bool D.out.symm, X0.out.below⟩
theorem small36_b {b : Bool} (N : Int) (A : Option Addr) (m c : Nat) (w : World) (hb : sm36 N m = b) :
    Calls Try.prog 36 #[.agg #[.int .i64 N, .slice A m c]] w fun e w' => e = .returned (.bool b) ∧ Below w.heap.size w w' := by subst hb; exact small36_any N A m c w

set_option maxHeartbeats 2000000 in
theorem joined36_any (N : Int) (A : Option Addr) (m c : Nat) (es : List (Int × Int)) (a b : Int) (w : World) (hm : m ≤ 4611686018427387904) (he : Rd w 2 A m (prs es)) :
    Calls Try.prog 49 #[.agg #[.int .i64 N, .slice A m c], .int .i64 a, .int .i64 b] w fun e w' => e = .returned (.bool (decide ((a, b) ∈ es))) ∧ Below w.heap.size w w' := by
  have HE := Lib.hid he.prs_len
  have H1 := Lib.hid he
  have X0 : Hid (BC w N A m c (w.alloc (.cells #[.int .i64 N, .slice A m c] 24))) := Lib.hid BC.start
  obtain ⟨hz0, p0, p1⟩ := X0.out.facts
  have EQ := eqPair
  clear he
  go_enter Try.func49, Try.ntmps49
  go_wp2_with fail
  go_loopg [7] m (fun g i wr => ∃ k : Nat, k ≤ m ∧ g = m - k ∧ i = .int .i64 k ∧ (∀ j, j < k → es.getD j (0, 0) ≠ (a, b)) ∧ wr = w.alloc (.cells #[.int .i64 N, .slice A m c] 24))
  case atStart => exact ⟨0, Nat.zero_le _, rfl, rfl, by omega, rfl⟩
  case round =>
    obtain ⟨k, hk, rfl, rfl, hok, rfl⟩ := hrel
    have HOK := Lib.hid hok
    clear hok
    by_cases hlt : k < m
    · obtain ⟨ad, rfl, c0, c1⟩ := (H1.out.keep X0.out.keeps).prs_at hlt
      generalize hxy : es.getD k (0, 0) = xy at c0 c1
      obtain ⟨x, y⟩ := xy
      simp only at c0 c1
      have HXY := Lib.hid hxy
      clear hxy
      cases h1 : (x == a) <;> cases h2 : (y == b)
      all_goals go_wp2_with fail
      all_goals first
        | (go_ret
           refine ⟨ret_bool ?_, X0.out.below⟩
           symm
           rw [decide_eq_true_iff]
           rw [beq_iff_eq] at h1 h2
           rw [← h1, ← h2, ← HXY.out, List.getD_eq_getElem?_getD, List.getElem?_eq_getElem (by rw [HE.out]; exact hlt)]
           exact List.getElem_mem _)
        | (go_roundg (m - (k + 1))
           case measure => omega
           case rel => exact ⟨k + 1, by omega, rfl, by go_num, fun j hj => by
             by_cases e : j = k
             · subst e; rw [HXY.out]; intro h; injection h with h3 h4; simp [h3, h4] at h1 h2
             · exact HOK.out j (by omega), rfl⟩)
    · obtain rfl : k = m := by omega
      go_wp2_with fail
      go_ret
      refine ⟨ret_bool ?_, X0.out.below⟩
      symm
      rw [decide_eq_false_iff_not]
      intro hmem
      obtain ⟨j, hj, e⟩ := List.getElem_of_mem hmem
      refine HOK.out j (by rw [← HE.out]; exact hj) ?_
      rw [List.getD_eq_getElem?_getD, List.getElem?_eq_getElem hj]; exact e
theorem joined36_b {r : Bool} (N : Int) (A : Option Addr) (m c : Nat) (es : List (Int × Int)) (a b : Int) (w : World) (hm : m ≤ 4611686018427387904) (he : Rd w 2 A m (prs es)) (hr : decide ((a, b) ∈ es) = r) :
    Calls Try.prog 49 #[.agg #[.int .i64 N, .slice A m c], .int .i64 a, .int .i64 b] w fun e w' => e = .returned (.bool r) ∧ Below w.heap.size w w' := by subst hr; exact joined36_any N A m c es a b w hm he
end Go.Proofs.Ytagcaljpgifppaa
