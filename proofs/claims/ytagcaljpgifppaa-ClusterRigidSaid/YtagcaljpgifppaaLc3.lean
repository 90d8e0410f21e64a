/-
  ClusterRigid: the walk of the statement.
-/
import Derived.Test.YtagcaljpgifppaaCa
import Derived.Test.YtagcaljpgifppaaCv
import Derived.Test.YtagcaljpgifppaaKd
import Derived.Test.YtagcaljpgifppaaStepG
namespace Go.Proofs.Ytagcaljpgifppaa
set_option linter.unusedVariables false
set_option linter.unusedSimpArgs false
open Go.RowKit Go.Sort
attribute [local go_sem ↓] Go.wp_at_zero Go.wp_at_succ

set_option maxRecDepth 100000 in
set_option maxHeartbeats 8000000 in
theorem law_cr (N : Int) (A : Option Addr) (m c : Nat) (es : List (Int × Int)) (w : World) (hm : m ≤ maxLen) (he : Rd w 2 A m (prs es)) :
    Calls Try.prog 13 #[.agg #[.int .i64 N, .slice A m c]] w fun e w' => e = .returned (.bool true) ∧ Below w.heap.size w w' := by
  have H0 := Lib.hid he
  have HE := Lib.hid he.prs_len
  have X0 : Hid (BC w N A m c (w.alloc (.cells #[.int .i64 N, .slice A m c] 24))) := Lib.hid BC.start
  unfold maxLen at hm
  clear he
  cases hv : v36 N 20 es
  · have HV20 := Lib.hid hv
    clear hv
    go_enter Try.func13, Try.ntmps13
    go_wp2_with (first
      | (go_at_call 35; refine (awake36_any _).mono ?_; rintro e w1 ⟨rfl, hb⟩; have X1 := Lib.hid (X0.out.next hb); obtain ⟨hz1, p0, p1⟩ := X1.out.facts; clear hb)
      | (go_at_call 39; refine (valid36_b N 20 A m c es _ (by omega) (by omega) (H0.out.keep X1.out.keeps) HV20.out).mono ?_; rintro e w2 ⟨rfl, hb⟩; have X2 := Lib.hid (X1.out.next hb); obtain ⟨hz2, p0, p1⟩ := X2.out.facts; clear hb)
      | fail)
    go_ret
    exact ⟨rfl, X2.out.below⟩
  have HV20 := Lib.hid hv
  have hvv := hv
  unfold v36 at hvv
  simp only [Bool.and_eq_true, decide_eq_true_eq] at hvv
  obtain ⟨hv, hN20⟩ := hvv
  obtain ⟨n, rfl, hn60⟩ := nat_of_valid hv
  have hn20 : n ≤ 20 := by omega
  have HV := Lib.hid hv
  have hm400 : m ≤ 400 := by have h1 := valid_len hv; have h2 : n * n ≤ 20 * 20 := Nat.mul_le_mul hn20 hn20; have := HE.out; omega
  by_cases h2 : n < 2
  · have h2d : (n : Int) < 2 := by omega
    clear hv h2
    go_enter Try.func13, Try.ntmps13
    go_wp2_with (first
      | (go_at_call 35; refine (awake36_any _).mono ?_; rintro e w1 ⟨rfl, hb⟩; have X1 := Lib.hid (X0.out.next hb); obtain ⟨hz1, p0, p1⟩ := X1.out.facts; clear hb)
      | (go_at_call 39; refine (valid36_b n 20 A m c es _ (by omega) (by omega) (H0.out.keep X1.out.keeps) HV20.out).mono ?_; rintro e w2 ⟨rfl, hb⟩; have X2 := Lib.hid (X1.out.next hb); obtain ⟨hz2, p0, p1⟩ := X2.out.facts; clear hb)
      | fail)
    go_ret
    exact ⟨rfl, X2.out.below⟩
  have h2d : ¬ (n : Int) < 2 := by omega
  have RC : Hid (∀ ls, CluL n es ls → rigidE n es = (decide (ls.length = 1) && decide ((ls.getD 0 []).length = n))) := Lib.hid fun ls h => rigid_clu (by omega) (by omega) HV.out h
  clear hv h2
  go_enter Try.func13, Try.ntmps13
  go_upto_region 6 with (first
    | (go_at_call 35; refine (awake36_any _).mono ?_; rintro e w1 ⟨rfl, hb⟩; have X1 := Lib.hid (X0.out.next hb); obtain ⟨hz1, p0, p1⟩ := X1.out.facts; clear hb)
    | (go_at_call 39; refine (valid36_b n 20 A m c es _ (by omega) (by omega) (H0.out.keep X1.out.keeps) HV20.out).mono ?_; rintro e w2 ⟨rfl, hb⟩; have X2 := Lib.hid (X1.out.next hb); obtain ⟨hz2, p0, p1⟩ := X2.out.facts; clear hb)
    | (go_at_call 38; refine (own36_any _ A m c es _ (by omega) (H0.out.keep X2.out.keeps)).mono ?_; rintro e w3 ⟨hb, B3, d3, rfl, hr⟩; have X3 := Lib.hid (X2.out.next hb); obtain ⟨hz3, p0, p1⟩ := X3.out.facts; have R3 := Lib.hid hr; clear hb hr)
    | (go_at_call 37; refine (clusters_any n B3 m d3 es _ (by omega) R3.out HV.out).mono ?_; rintro e w4 ⟨hb, C4, n4, c4, ls, rfl, hl, ho⟩; have X4 := Lib.hid (X3.out.next hb); obtain ⟨hz4, p0, p1⟩ := X4.out.facts; have L4 := Lib.hid hl; have R4 := Lib.hid ho.rd; clear hb hl ho)
    | fail)
  have hn4 := R4.out.1
  have RC4 := RC.out ls L4.out
  rw [hn4] at RC4
  by_cases h1 : n4 = 1
  · subst h1
    obtain ⟨ad, A1, e1, rfl, c0, r1⟩ := R4.out.at (k := 0) (by omega)
    rw [decide_eq_true rfl, Bool.true_and] at RC4
    generalize hll : (ls.getD 0 []).length = ll at RC4 c0
    cases hb : ((ll : Int) == (n : Int))
    all_goals
      have RG : Hid (∀ B d W, Rd W 2 B m (prs es) → Calls Try.prog 23 #[.agg #[.int .i64 n, .slice B m d]] W fun e w' => e = .returned (.bool ((ll : Int) == (n : Int))) ∧ Below W.heap.size W w') := Lib.hid fun B d W h => by
        have := prigid_any n B m d es W (by omega) h
        rw [RC4] at this
        rw [show ((ll : Int) == (n : Int)) = decide (ll = n) by rw [Bool.eq_iff_iff, beq_iff_eq, decide_eq_true_eq]; omega]
        exact this
      rw [hb] at RG
      clear r1 hll RC4
      have h9 : ad.add 0 = ad := by unfold Addr.add; simp
      rw [h9] at c0
      go_region_held3 (fun w' => w'.cell? ad = some (.slice A1 ll e1) ∧ w'.cell? ⟨w.heap.size, 0, none⟩ = some (.int .i64 (n : Int)) ∧ w'.cell? ⟨w.heap.size, 1, none⟩ = some (.slice A m c)) (first | exact ⟨c0, p0, p1⟩ | go_keep)
        ((first
          | (go_at_call 38; refine (own36_any _ A m c es _ (by omega) (by first | exact (H0.out.keep X4.out.keeps) | exact Rd.drew' (H0.out.keep X4.out.keeps) | fail)).mono ?_; rintro e w5 ⟨hb, B5, d5, rfl, hr⟩; have X5 := Lib.hid (X4.out.next (by first | exact hb | exact (Below.refl _ _).drew.trans hb | fail)); obtain ⟨hz5, p0, p1⟩ := X5.out.facts; have KX : Hid (Keeps w4 w5) := Lib.hid (Keeps.of_below (by first | exact hb | exact (Below.refl _ _).drew.trans hb | fail) (Nat.le_refl _)); have R5 := Lib.hid hr; have c0 := KX.out _ _ c0; clear hb hr)
          | (go_at_call 23; refine (RG.out B5 d5 _ R5.out).mono ?_; rintro e w6 ⟨rfl, hb⟩; have X6 := Lib.hid (X5.out.next hb); obtain ⟨hz6, p0, p1⟩ := X6.out.facts; have c0 := Keeps.of_below hb (Nat.le_refl _) _ _ c0; clear hb)
          | fail))
      all_goals
       go_wp2_with fail
       go_ret
       exact ⟨rfl, X6.out.below⟩
  · have h1d : ((n4 : Int) == 1) = false := by simp; omega
    have RG : Hid (∀ B d W, Rd W 2 B m (prs es) → Calls Try.prog 23 #[.agg #[.int .i64 n, .slice B m d]] W fun e w' => e = .returned (.bool false) ∧ Below W.heap.size W w') := Lib.hid fun B d W h => by
      have := prigid_any n B m d es W (by omega) h
      rw [RC4, decide_eq_false h1, Bool.false_and] at this
      exact this
    clear RC4 h1
    have EGO : Hid (∀ args w, (callFunc 38 args).run Try.prog w = .ok (.enter 38 args) w) := Lib.hid (enters_of Try.func38 (by kernel_rfl) rfl)
    have EGR : Hid (∀ args w, (callFunc 23 args).run Try.prog w = .ok (.enter 23 args) w) := Lib.hid (enters_of Try.func23 (by kernel_rfl) rfl)
    first
      | go_region_law ((first
        | (refine step_callN rfl 38 #[.tmp 17] #[24] rfl EGO.out #[.agg #[.int .i64 (n : Int), .slice A m c]] (by simp [Act.eval, Act.put]) (own36_any n A m c es _ (by omega) (by first | exact (H0.out.keep X4.out.keeps) | exact Rd.drew' (H0.out.keep X4.out.keeps) | fail)) (fun e w' hp => by obtain ⟨-, B, d, he, -⟩ := hp; exact ⟨_, he⟩) ?_; rintro v5 w5 ⟨hb, B5, d5, hv5, hr⟩; injection hv5 with hv5; subst hv5; have X5 := Lib.hid (X4.out.next (by first | exact hb | exact (Below.refl _ _).drew.trans hb | fail)); obtain ⟨hz5, p0, p1⟩ := X5.out.facts; have R5 := Lib.hid hr; clear hb hr)
        | (refine step_callN rfl 23 #[.tmp 18] #[24] rfl EGR.out #[.agg #[.int .i64 (n : Int), .slice B5 m d5]] (by simp [Act.eval, Act.put]) (RG.out B5 d5 _ R5.out) (fun e w' hp => ⟨_, hp.1⟩) ?_; rintro v6 w6 ⟨hv6, hb⟩; injection hv6 with hv6; subst hv6; have X6 := Lib.hid (X5.out.next hb); obtain ⟨hz6, p0, p1⟩ := X6.out.facts; clear hb)
        | fail))
      | fail
    all_goals
     go_wp2_with fail
     go_ret
     exact ⟨rfl, X6.out.below⟩
end Go.Proofs.Ytagcaljpgifppaa
