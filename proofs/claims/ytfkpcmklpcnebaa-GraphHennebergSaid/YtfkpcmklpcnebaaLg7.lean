/-
  GraphHenneberg: the walk of the statement.
-/
import Derived.Test.YtfkpcmklpcnebaaLg1
import Derived.Test.YtfkpcmklpcnebaaSpecO
import Derived.Test.YtfkpcmklpcnebaaG14
namespace Go.Proofs.Ytfkpcmklpcnebaa
set_option linter.unusedVariables false
set_option linter.unusedSimpArgs false
open Go.RowKit Go.Sort
attribute [local go_sem ↓] Go.wp_at_zero Go.wp_at_succ

/-- What a world behind the boxing of the graph and of the pair keeps. -/
def BY (w : World) (N : Int) (A : Option Addr) (m c : Nat) (x y : Int) (w1 : World) : Prop := Below (w.heap.size + 2) ((w.alloc (.cells #[.int .i64 N, .slice A m c] 24)).alloc (.cells #[.int .i64 x, .int .i64 y] 36)) w1
section
variable {w w1 w2 : World} {N x y : Int} {A : Option Addr} {m c : Nat}
theorem BY.start : BY w N A m c x y ((w.alloc (.cells #[.int .i64 N, .slice A m c] 24)).alloc (.cells #[.int .i64 x, .int .i64 y] 36)) := Below.refl _ _
theorem BY.facts (h : BY w N A m c x y w1) : w.heap.size + 1 < w1.heap.size ∧ w1.cell? ⟨w.heap.size, 0, none⟩ = some (.int .i64 N) ∧ w1.cell? ⟨w.heap.size, 1, none⟩ = some (.slice A m c) ∧ w1.cell? ⟨w.heap.size + 1, 0, none⟩ = some (.int .i64 x) ∧ w1.cell? ⟨w.heap.size + 1, 1, none⟩ = some (.int .i64 y) := by
  have hs := h.size
  simp at hs
  refine ⟨by omega, ?_, ?_, ?_, ?_⟩
  · rw [Below.cell h (by simp), World.cell?_alloc_lt _ _ _ (by simp)]; simp
  · rw [Below.cell h (by simp), World.cell?_alloc_lt _ _ _ (by simp)]; simp
  · rw [Below.cell h (by simp)]; simp
  · rw [Below.cell h (by simp)]; simp
theorem BY.next (h : BY w N A m c x y w1) (hb : Below w1.heap.size w1 w2) : BY w N A m c x y w2 := Below.trans h (hb.mono h.facts.1)
theorem BY.below (h : BY w N A m c x y w1) : Below w.heap.size w w1 := (((Below.refl _ _).alloc (Nat.le_refl _) _).alloc (by simp) _).trans (Below.mono h (by omega))
theorem BY.keeps (h : BY w N A m c x y w1) : Keeps w w1 := Keeps.of_below h.below (Nat.le_refl _)
end

theorem henn_cases (N : Int) (es : List (Int × Int)) (a b s : Int) : hennE N es a b s = (1, []) ∨ hennE N es a b s = (3, []) ∨ ∃ l, hennE N es a b s = (0, l) ∧ l.length = es.length + 2 ∧ (s < 0 → remE (N + 1) l N = (N, es)) := by
  cases h1 : hennBad1 N es a b
  · cases h2 : hennBad2 N es a b s
    · by_cases h : N = 60
      · exact .inr (.inl (henn_60 h1 h2 h))
      · have ho := hennOk_of h1 h2
        exact .inr (.inr ⟨_, henn_ok h1 h2 h, ho.len, fun hs => ho.restore h hs⟩)
    · exact .inl (henn_bad2 h2)
  · exact .inl (henn_bad1 h1)
set_option maxHeartbeats 16000000 in
theorem henn_large (HA : AwContract) (N : Int) (A : Option Addr) (m c : Nat) (es : List (Int × Int)) (x y s : Int) (w : World) (hm : m ≤ maxLen) (he : Rd w 2 A m (prs es)) (h1 : ¬ (m : Int) ≤ 100) :
    Calls Try.prog 6 #[.agg #[.int .i64 N, .slice A m c], .agg #[.int .i64 x, .int .i64 y], .int .i64 s] w fun e w' => e = .returned (.bool true) ∧ Below w.heap.size w w' := by
  have H0 := Lib.hid he
  have HE := Lib.hid he.prs_len
  have HAW := Lib.hid HA
  have X0 : Hid (BY w N A m c x y ((w.alloc (.cells #[.int .i64 N, .slice A m c] 24)).alloc (.cells #[.int .i64 x, .int .i64 y] 36))) := Lib.hid BY.start
  unfold maxLen at hm
  clear he HA
  have D1 : Hid (decide ((m : Int) ≤ 100) = false) := by unfold Hid; simpa using h1
  go_enter Try.func6, Try.ntmps6
  go_wp2_with fail
  refine (HAW.out _).mono ?_
  rintro e w1 ⟨rfl, hb⟩
  have X1 := Lib.hid (X0.out.next hb)
  obtain ⟨hz1, p0, p1, p2, p3⟩ := X1.out.facts
  clear hb
  go_wp2_with fail
  refine (small_b (b := false) N A m c _ D1.out).mono ?_
  rintro e w2 ⟨rfl, hb⟩
  have X2 := Lib.hid (X1.out.next hb)
  obtain ⟨hz2, p0, p1, p2, p3⟩ := X2.out.facts
  clear hb
  go_wp2_with fail
  refine (HAW.out _).mono ?_
  rintro e w3 ⟨rfl, hb⟩
  go_wp2
  go_ret
  exact ⟨rfl, (X2.out.next hb).below⟩

set_option maxHeartbeats 16000000 in
theorem henn_err1 (HA : AwContract) (N : Int) (A : Option Addr) (m c : Nat) (es : List (Int × Int)) (x y s : Int) (w : World) (hm : m ≤ maxLen) (he : Rd w 2 A m (prs es)) (h1 : (m : Int) ≤ 100) (hr : hennE N es x y s = (1, [])) :
    Calls Try.prog 6 #[.agg #[.int .i64 N, .slice A m c], .agg #[.int .i64 x, .int .i64 y], .int .i64 s] w fun e w' => e = .returned (.bool true) ∧ Below w.heap.size w w' := by
  have H0 := Lib.hid he
  have HE := Lib.hid he.prs_len
  have HAW := Lib.hid HA
  have X0 : Hid (BY w N A m c x y ((w.alloc (.cells #[.int .i64 N, .slice A m c] 24)).alloc (.cells #[.int .i64 x, .int .i64 y] 36))) := Lib.hid BY.start
  unfold maxLen at hm
  clear he HA
  have D1 : Hid (decide ((m : Int) ≤ 100) = true) := by unfold Hid; simpa using h1
  have HR := Lib.hid hr
  clear hr
  go_enter Try.func6, Try.ntmps6
  go_wp2_with fail
  refine (HAW.out _).mono ?_
  rintro e w1 ⟨rfl, hb⟩
  have X1 := Lib.hid (X0.out.next hb)
  obtain ⟨hz1, p0, p1, p2, p3⟩ := X1.out.facts
  clear hb
  go_wp2_with fail
  refine (small_b (b := true) N A m c _ D1.out).mono ?_
  rintro e w2 ⟨rfl, hb⟩
  have X2 := Lib.hid (X1.out.next hb)
  obtain ⟨hz2, p0, p1, p2, p3⟩ := X2.out.facts
  clear hb
  go_wp2_with fail
  refine (ghenn_any N A m c es x y s _ (by omega) (H0.out.keep X2.out.keeps)).mono ?_
  rintro e w3 hp
  rw [HR.out] at hp
  obtain ⟨hb, ⟨-, -, rfl⟩ | ⟨h9, -⟩⟩ := hp
  · have X3 := Lib.hid (X2.out.next hb)
    have X3a := Lib.hid (X3.out.next ((Below.refl _ _).alloc (Nat.le_refl _) (.cells #[.int .i64 0, .slice none 0 0] 24)))
    obtain ⟨hz3, p0, p1, p2, p3⟩ := X3a.out.facts
    clear hb
    go_wp2_with fail
    refine (rhenn_any N A m c es x y s _ (by omega) (H0.out.keep X3a.out.keeps)).mono ?_
    rintro e w4 hp
    rw [HR.out] at hp
    obtain ⟨hb, ⟨-, -, rfl⟩ | ⟨h9, -⟩⟩ := hp
    · have X4 := Lib.hid (X3a.out.next hb)
      have q0 : w4.cell? ⟨w3.heap.size, 0, none⟩ = some (.int .i64 0) := by rw [hb.cell (by simp)]; simp
      have q1 : w4.cell? ⟨w3.heap.size, 1, none⟩ = some (.slice none 0 0) := by rw [hb.cell (by simp)]; simp
      have q0 := Keeps.alloc w4 (.cells #[.int .i64 0, .slice none 0 0] 24) _ _ q0
      have q1 := Keeps.alloc w4 (.cells #[.int .i64 0, .slice none 0 0] 24) _ _ q1
      have X5 := Lib.hid (X4.out.next ((Below.refl _ _).alloc (Nat.le_refl _) (.cells #[.int .i64 0, .slice none 0 0] 24)))
      clear hb
      go_wp2_with fail
      refine (same_b (b := true) 0 0 none none 0 0 0 0 [] [] _ (by omega) (by omega) (Rd.nil _ _ _) (Rd.nil _ _ _) (by simp)).mono ?_
      rintro e w6 ⟨rfl, hb⟩
      have X6 := Lib.hid (X5.out.next hb)
      clear hb q0 q1
      go_wp2
      refine wp_region_q (by kernel_rfl) (by kernel_rfl) ?_
      repeat (go_big_quiet_step (fail))
      refine wpQuiet_nil ?_
      intro wq hgq
      go_wp2
      go_ret
      exact ⟨rfl, (X6.out.next hgq).below⟩
    · exact absurd h9 (by decide)
  · exact absurd h9 (by decide)

set_option maxHeartbeats 16000000 in
theorem henn_err3 (HA : AwContract) (N : Int) (A : Option Addr) (m c : Nat) (es : List (Int × Int)) (x y s : Int) (w : World) (hm : m ≤ maxLen) (he : Rd w 2 A m (prs es)) (h1 : (m : Int) ≤ 100) (hr : hennE N es x y s = (3, [])) :
    Calls Try.prog 6 #[.agg #[.int .i64 N, .slice A m c], .agg #[.int .i64 x, .int .i64 y], .int .i64 s] w fun e w' => e = .returned (.bool true) ∧ Below w.heap.size w w' := by
  have H0 := Lib.hid he
  have HE := Lib.hid he.prs_len
  have HAW := Lib.hid HA
  have X0 : Hid (BY w N A m c x y ((w.alloc (.cells #[.int .i64 N, .slice A m c] 24)).alloc (.cells #[.int .i64 x, .int .i64 y] 36))) := Lib.hid BY.start
  unfold maxLen at hm
  clear he HA
  have D1 : Hid (decide ((m : Int) ≤ 100) = true) := by unfold Hid; simpa using h1
  have HR := Lib.hid hr
  clear hr
  go_enter Try.func6, Try.ntmps6
  go_wp2_with fail
  refine (HAW.out _).mono ?_
  rintro e w1 ⟨rfl, hb⟩
  have X1 := Lib.hid (X0.out.next hb)
  obtain ⟨hz1, p0, p1, p2, p3⟩ := X1.out.facts
  clear hb
  go_wp2_with fail
  refine (small_b (b := true) N A m c _ D1.out).mono ?_
  rintro e w2 ⟨rfl, hb⟩
  have X2 := Lib.hid (X1.out.next hb)
  obtain ⟨hz2, p0, p1, p2, p3⟩ := X2.out.facts
  clear hb
  go_wp2_with fail
  refine (ghenn_any N A m c es x y s _ (by omega) (H0.out.keep X2.out.keeps)).mono ?_
  rintro e w3 hp
  rw [HR.out] at hp
  obtain ⟨hb, ⟨-, -, rfl⟩ | ⟨h9, -⟩⟩ := hp
  · have X3 := Lib.hid (X2.out.next hb)
    have X3a := Lib.hid (X3.out.next ((Below.refl _ _).alloc (Nat.le_refl _) (.cells #[.int .i64 0, .slice none 0 0] 24)))
    obtain ⟨hz3, p0, p1, p2, p3⟩ := X3a.out.facts
    clear hb
    go_wp2_with fail
    refine (rhenn_any N A m c es x y s _ (by omega) (H0.out.keep X3a.out.keeps)).mono ?_
    rintro e w4 hp
    rw [HR.out] at hp
    obtain ⟨hb, ⟨-, -, rfl⟩ | ⟨h9, -⟩⟩ := hp
    · have X4 := Lib.hid (X3a.out.next hb)
      have q0 : w4.cell? ⟨w3.heap.size, 0, none⟩ = some (.int .i64 0) := by rw [hb.cell (by simp)]; simp
      have q1 : w4.cell? ⟨w3.heap.size, 1, none⟩ = some (.slice none 0 0) := by rw [hb.cell (by simp)]; simp
      have q0 := Keeps.alloc w4 (.cells #[.int .i64 0, .slice none 0 0] 24) _ _ q0
      have q1 := Keeps.alloc w4 (.cells #[.int .i64 0, .slice none 0 0] 24) _ _ q1
      have X5 := Lib.hid (X4.out.next ((Below.refl _ _).alloc (Nat.le_refl _) (.cells #[.int .i64 0, .slice none 0 0] 24)))
      clear hb
      go_wp2_with fail
      refine (same_b (b := true) 0 0 none none 0 0 0 0 [] [] _ (by omega) (by omega) (Rd.nil _ _ _) (Rd.nil _ _ _) (by simp)).mono ?_
      rintro e w6 ⟨rfl, hb⟩
      have X6 := Lib.hid (X5.out.next hb)
      clear hb q0 q1
      go_wp2
      refine wp_region_q (by kernel_rfl) (by kernel_rfl) ?_
      repeat (go_big_quiet_step (fail))
      refine wpQuiet_nil ?_
      intro wq hgq
      go_wp2
      go_ret
      exact ⟨rfl, (X6.out.next hgq).below⟩
    · exact absurd h9 (by decide)
  · exact absurd h9 (by decide)

set_option maxHeartbeats 16000000 in
theorem henn_split (HA : AwContract) (N : Int) (A : Option Addr) (m c : Nat) (es : List (Int × Int)) (x y s : Int) (w : World) (hm : m ≤ maxLen) (he : Rd w 2 A m (prs es)) (h1 : (m : Int) ≤ 100) (l : List (Int × Int)) (hr : hennE N es x y s = (0, l)) (hl : l.length = es.length + 2) (hs : 0 ≤ s) :
    Calls Try.prog 6 #[.agg #[.int .i64 N, .slice A m c], .agg #[.int .i64 x, .int .i64 y], .int .i64 s] w fun e w' => e = .returned (.bool true) ∧ Below w.heap.size w w' := by
  have H0 := Lib.hid he
  have HE := Lib.hid he.prs_len
  have HAW := Lib.hid HA
  have X0 : Hid (BY w N A m c x y ((w.alloc (.cells #[.int .i64 N, .slice A m c] 24)).alloc (.cells #[.int .i64 x, .int .i64 y] 36))) := Lib.hid BY.start
  unfold maxLen at hm
  clear he HA
  have D1 : Hid (decide ((m : Int) ≤ 100) = true) := by unfold Hid; simpa using h1
  have HR := Lib.hid hr
  rw [HE.out] at hl
  generalize hq : l.length = q at hl
  have HQ := Lib.hid hq
  have hql : (q : Int) = (m : Int) + 2 := by omega
  have hqe : ((q : Int) == (m : Int) + 2) = true := by simpa using hql
  have hqw : IntKind.i64.wrap ((m : Int) + 2) = (m : Int) + 2 := IntWalk.i64_in _ (by omega)
  have HQW := Lib.hid hqw
  have HQL := Lib.hid hql
  have hq9 : q ≤ 1000 := by omega
  clear hqw hql hl
  clear hr hq
  have hds : decide (0 ≤ s) = true := by simpa using hs
  go_enter Try.func6, Try.ntmps6
  go_wp2_with fail
  refine (HAW.out _).mono ?_
  rintro e w1 ⟨rfl, hb⟩
  have X1 := Lib.hid (X0.out.next hb)
  obtain ⟨hz1, p0, p1, p2, p3⟩ := X1.out.facts
  clear hb
  go_wp2_with fail
  refine (small_b (b := true) N A m c _ D1.out).mono ?_
  rintro e w2 ⟨rfl, hb⟩
  have X2 := Lib.hid (X1.out.next hb)
  obtain ⟨hz2, p0, p1, p2, p3⟩ := X2.out.facts
  clear hb
  go_wp2_with fail
  refine (ghenn_any N A m c es x y s _ (by omega) (H0.out.keep X2.out.keeps)).mono ?_
  rintro e w3 hp
  rw [HR.out] at hp
  obtain ⟨hb, ⟨h9, -, -⟩ | ⟨-, B, d, rfl, hrd⟩⟩ := hp
  · exact absurd rfl h9
  · simp only at hrd ⊢
    rw [HQ.out] at hrd ⊢
    have X3 := Lib.hid (X2.out.next hb)
    have X3a := Lib.hid (X3.out.next ((Below.refl _ _).alloc (Nat.le_refl _) (.cells #[.int .i64 (N + 1), .slice B q d] 24)))
    obtain ⟨hz3, p0, p1, p2, p3⟩ := X3a.out.facts
    have R3 := Lib.hid (hrd.keep (Keeps.alloc w3 (.cells #[.int .i64 (N + 1), .slice B q d] 24)))
    clear hb hrd
    go_wp2_with fail
    refine (rhenn_any N A m c es x y s _ (by omega) (H0.out.keep X3a.out.keeps)).mono ?_
    rintro e w4 hp
    rw [HR.out] at hp
    obtain ⟨hb, ⟨h9, -, -⟩ | ⟨-, C, d4, rfl, hrd⟩⟩ := hp
    · exact absurd rfl h9
    · simp only at hrd ⊢
      rw [HQ.out] at hrd ⊢
      have X4 := Lib.hid (X3a.out.next hb)
      have q0 : w4.cell? ⟨w3.heap.size, 0, none⟩ = some (.int .i64 (N + 1)) := by rw [hb.cell (by simp)]; simp
      have q1 : w4.cell? ⟨w3.heap.size, 1, none⟩ = some (.slice B q d) := by rw [hb.cell (by simp)]; simp
      have q0 := Keeps.alloc w4 (.cells #[.int .i64 (N + 1), .slice C q d4] 24) _ _ q0
      have q1 := Keeps.alloc w4 (.cells #[.int .i64 (N + 1), .slice C q d4] 24) _ _ q1
      have X5 := Lib.hid (X4.out.next ((Below.refl _ _).alloc (Nat.le_refl _) (.cells #[.int .i64 (N + 1), .slice C q d4] 24)))
      have R5 := Lib.hid ((R3.out.keep (Keeps.of_below hb (Nat.le_refl _))).keep (Keeps.alloc w4 (.cells #[.int .i64 (N + 1), .slice C q d4] 24)))
      have T5 := Lib.hid (hrd.keep (Keeps.alloc w4 (.cells #[.int .i64 (N + 1), .slice C q d4] 24)))
      clear hb hrd
      go_wp2_with fail
      refine (same_b (b := true) (N + 1) (N + 1) B C q d q d4 l l _ (by omega) (by omega) R5.out T5.out (by simp)).mono ?_
      rintro e w6 ⟨rfl, hb⟩
      have X6 := Lib.hid (X5.out.next hb)
      have q0 := Keeps.of_below hb (Nat.le_refl _) _ _ q0
      have q1 := Keeps.of_below hb (Nat.le_refl _) _ _ q1
      have R6 := Lib.hid (R5.out.keep (Keeps.of_below hb (Nat.le_refl _)))
      obtain ⟨hz6, p0, p1, p2, p3⟩ := X6.out.facts
      clear hb
      have k0 := grown_cell p1
      have k1 := grown_cell q1
      go_wp2
      have hqw := HQW.out
      refine wp_region_q (by kernel_rfl) (by kernel_rfl) ?_
      repeat (go_big_quiet_step (fail))
      refine wpQuiet_nil ?_
      intro wq hgq
      clear hqw
      go_wp2
      go_ret
      exact ⟨ret_bool (by simp [HQL.out]), (X6.out.next hgq).below⟩

set_option maxHeartbeats 16000000 in
theorem henn_plain (HA : AwContract) (N : Int) (A : Option Addr) (m c : Nat) (es : List (Int × Int)) (x y s : Int) (w : World) (hm : m ≤ maxLen) (he : Rd w 2 A m (prs es)) (h1 : (m : Int) ≤ 100) (l : List (Int × Int)) (hr : hennE N es x y s = (0, l)) (hl : l.length = es.length + 2) (hs : s < 0) (hrem : remE (N + 1) l N = (N, es)) :
    Calls Try.prog 6 #[.agg #[.int .i64 N, .slice A m c], .agg #[.int .i64 x, .int .i64 y], .int .i64 s] w fun e w' => e = .returned (.bool true) ∧ Below w.heap.size w w' := by
  have H0 := Lib.hid he
  have HE := Lib.hid he.prs_len
  have HAW := Lib.hid HA
  have X0 : Hid (BY w N A m c x y ((w.alloc (.cells #[.int .i64 N, .slice A m c] 24)).alloc (.cells #[.int .i64 x, .int .i64 y] 36))) := Lib.hid BY.start
  unfold maxLen at hm
  clear he HA
  have D1 : Hid (decide ((m : Int) ≤ 100) = true) := by unfold Hid; simpa using h1
  have HR := Lib.hid hr
  rw [HE.out] at hl
  generalize hq : l.length = q at hl
  have HQ := Lib.hid hq
  have hql : (q : Int) = (m : Int) + 2 := by omega
  have hqe : ((q : Int) == (m : Int) + 2) = true := by simpa using hql
  have hqw : IntKind.i64.wrap ((m : Int) + 2) = (m : Int) + 2 := IntWalk.i64_in _ (by omega)
  have HQW := Lib.hid hqw
  have HQL := Lib.hid hql
  have hq9 : q ≤ 1000 := by omega
  clear hqw hql hl
  clear hr hq
  have hds : decide (0 ≤ s) = false := by simpa using hs
  have HREM := Lib.hid hrem
  clear hrem
  go_enter Try.func6, Try.ntmps6
  go_wp2_with fail
  refine (HAW.out _).mono ?_
  rintro e w1 ⟨rfl, hb⟩
  have X1 := Lib.hid (X0.out.next hb)
  obtain ⟨hz1, p0, p1, p2, p3⟩ := X1.out.facts
  clear hb
  go_wp2_with fail
  refine (small_b (b := true) N A m c _ D1.out).mono ?_
  rintro e w2 ⟨rfl, hb⟩
  have X2 := Lib.hid (X1.out.next hb)
  obtain ⟨hz2, p0, p1, p2, p3⟩ := X2.out.facts
  clear hb
  go_wp2_with fail
  refine (ghenn_any N A m c es x y s _ (by omega) (H0.out.keep X2.out.keeps)).mono ?_
  rintro e w3 hp
  rw [HR.out] at hp
  obtain ⟨hb, ⟨h9, -, -⟩ | ⟨-, B, d, rfl, hrd⟩⟩ := hp
  · exact absurd rfl h9
  · simp only at hrd ⊢
    rw [HQ.out] at hrd ⊢
    have X3 := Lib.hid (X2.out.next hb)
    have X3a := Lib.hid (X3.out.next ((Below.refl _ _).alloc (Nat.le_refl _) (.cells #[.int .i64 (N + 1), .slice B q d] 24)))
    obtain ⟨hz3, p0, p1, p2, p3⟩ := X3a.out.facts
    have R3 := Lib.hid (hrd.keep (Keeps.alloc w3 (.cells #[.int .i64 (N + 1), .slice B q d] 24)))
    clear hb hrd
    go_wp2_with fail
    refine (rhenn_any N A m c es x y s _ (by omega) (H0.out.keep X3a.out.keeps)).mono ?_
    rintro e w4 hp
    rw [HR.out] at hp
    obtain ⟨hb, ⟨h9, -, -⟩ | ⟨-, C, d4, rfl, hrd⟩⟩ := hp
    · exact absurd rfl h9
    · simp only at hrd ⊢
      rw [HQ.out] at hrd ⊢
      have X4 := Lib.hid (X3a.out.next hb)
      have q0 : w4.cell? ⟨w3.heap.size, 0, none⟩ = some (.int .i64 (N + 1)) := by rw [hb.cell (by simp)]; simp
      have q1 : w4.cell? ⟨w3.heap.size, 1, none⟩ = some (.slice B q d) := by rw [hb.cell (by simp)]; simp
      have q0 := Keeps.alloc w4 (.cells #[.int .i64 (N + 1), .slice C q d4] 24) _ _ q0
      have q1 := Keeps.alloc w4 (.cells #[.int .i64 (N + 1), .slice C q d4] 24) _ _ q1
      have X5 := Lib.hid (X4.out.next ((Below.refl _ _).alloc (Nat.le_refl _) (.cells #[.int .i64 (N + 1), .slice C q d4] 24)))
      have R5 := Lib.hid ((R3.out.keep (Keeps.of_below hb (Nat.le_refl _))).keep (Keeps.alloc w4 (.cells #[.int .i64 (N + 1), .slice C q d4] 24)))
      have T5 := Lib.hid (hrd.keep (Keeps.alloc w4 (.cells #[.int .i64 (N + 1), .slice C q d4] 24)))
      clear hb hrd
      go_wp2_with fail
      refine (same_b (b := true) (N + 1) (N + 1) B C q d q d4 l l _ (by omega) (by omega) R5.out T5.out (by simp)).mono ?_
      rintro e w6 ⟨rfl, hb⟩
      have X6 := Lib.hid (X5.out.next hb)
      have q0 := Keeps.of_below hb (Nat.le_refl _) _ _ q0
      have q1 := Keeps.of_below hb (Nat.le_refl _) _ _ q1
      have R6 := Lib.hid (R5.out.keep (Keeps.of_below hb (Nat.le_refl _)))
      obtain ⟨hz6, p0, p1, p2, p3⟩ := X6.out.facts
      clear hb
      go_wp2
      have hqw := HQW.out
      go_region_held3 (fun w' => w'.cell? ⟨w.heap.size, 0, none⟩ = some (.int .i64 N) ∧ w'.cell? ⟨w.heap.size, 1, none⟩ = some (.slice A m c) ∧ w'.cell? ⟨w3.heap.size, 0, none⟩ = some (.int .i64 (N + 1)) ∧ w'.cell? ⟨w3.heap.size, 1, none⟩ = some (.slice B q d)) (go_keep)
        ((first
          | (go_at_call 22; refine (rrem_any (N + 1) B q d l N _ (by omega) (R6.out.keep (Keeps.drew _))).mono ?_; rintro e w7 hp; rw [HREM.out] at hp; obtain ⟨hb, F, d7, rfl, hrd⟩ := hp; simp only at hrd ⊢; rw [HE.out] at hrd ⊢; have X7 := Lib.hid (X6.out.next (((Below.refl _ _).drew).trans hb)); have hbb : Below w6.heap.size w6 w7 := ((Below.refl _ _).drew).trans hb; obtain ⟨hz7, p0, p1, p2, p3⟩ := X7.out.facts; have q0 := Keeps.of_below hbb (Nat.le_refl _) _ _ q0; have q1 := Keeps.of_below hbb (Nat.le_refl _) _ _ q1; have R7 := Lib.hid hrd; clear hb hrd hbb)
          | (go_at_call 16; refine (same_b (b := true) N N F A m d7 m c es es _ (by omega) (by omega) R7.out (H0.out.keep X7.out.keeps) (by simp)).mono ?_; rintro e w8 ⟨rfl, hb⟩; have X8 := Lib.hid (X7.out.next hb); obtain ⟨hz8, p0, p1, p2, p3⟩ := X8.out.facts; have q0 := Keeps.of_below hb (Nat.le_refl _) _ _ q0; have q1 := Keeps.of_below hb (Nat.le_refl _) _ _ q1; clear hb)
          | fail))
      all_goals
       clear hqw
       go_wp2
       go_ret
       exact ⟨ret_bool (by simp [HQL.out]), X8.out.below⟩

theorem law_ghenn (HA : AwContract) (N : Int) (A : Option Addr) (m c : Nat) (es : List (Int × Int)) (x y s : Int) (w : World) (hm : m ≤ maxLen) (he : Rd w 2 A m (prs es)) :
    Calls Try.prog 6 #[.agg #[.int .i64 N, .slice A m c], .agg #[.int .i64 x, .int .i64 y], .int .i64 s] w fun e w' => e = .returned (.bool true) ∧ Below w.heap.size w w' := by
  by_cases h1 : (m : Int) ≤ 100
  · rcases henn_cases N es x y s with hr | hr | ⟨l, hr, hl, hrem⟩
    · exact henn_err1 HA N A m c es x y s w hm he h1 hr
    · exact henn_err3 HA N A m c es x y s w hm he h1 hr
    · by_cases hs : 0 ≤ s
      · exact henn_split HA N A m c es x y s w hm he h1 l hr hl hs
      · exact henn_plain HA N A m c es x y s w hm he h1 l hr hl (by omega) (hrem (by omega))
  · exact henn_large HA N A m c es x y s w hm he h1
end Go.Proofs.Ytfkpcmklpcnebaa
