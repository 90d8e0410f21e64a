/-
  ClusterVirtual: the walk of the statement.
-/
import Derived.Test.YtagcaljpgifppaaCa
import Derived.Test.YtagcaljpgifppaaCv
import Derived.Test.YtagcaljpgifppaaCr6
namespace Go.Proofs.Ytagcaljpgifppaa
set_option linter.unusedVariables false
set_option linter.unusedSimpArgs false
open Go.RowKit Go.Sort
attribute [local go_sem ↓] Go.wp_at_zero Go.wp_at_succ

set_option maxRecDepth 100000 in
set_option maxHeartbeats 8000000 in
theorem law_cv (N : Int) (A P : Option Addr) (m c k d : Nat) (es : List (Int × Int)) (ps : List Int) (w : World) (hm : m ≤ maxLen) (hk : k ≤ maxLen) (he : Rd w 2 A m (prs es)) (hp : Rd w 1 P k (ints ps)) :
    Calls Try.prog 10 #[.agg #[.int .i64 N, .slice A m c], .slice P k d] w fun e w' => e = .returned (.bool true) ∧ Below w.heap.size w w' := by
  have H0 := Lib.hid he
  have H1 := Lib.hid hp
  have X0 : Hid (BC w N A m c (w.alloc (.cells #[.int .i64 N, .slice A m c] 24))) := Lib.hid BC.start
  unfold maxLen at hm hk
  clear he hp
  cases hs : sm36 N m
  · have HS := Lib.hid hs
    clear hs
    go_enter Try.func10, Try.ntmps10
    go_wp2_with (first
      | (go_at_call 35; refine (awake36_any _).mono ?_; rintro e w1 ⟨rfl, hb⟩; have X1 := Lib.hid (X0.out.next hb); obtain ⟨hz1, p0, p1⟩ := X1.out.facts; clear hb)
      | (go_at_call 36; refine (small36_b _ A m c _ HS.out).mono ?_; rintro e w2 ⟨rfl, hb⟩; have X2 := Lib.hid (X1.out.next hb); obtain ⟨hz2, p0, p1⟩ := X2.out.facts; clear hb)
      | fail)
    go_ret
    exact ⟨rfl, X2.out.below⟩
  have hsm := hs
  unfold sm36 at hsm
  simp only [Bool.and_eq_true, Bool.or_eq_true, decide_eq_true_eq] at hsm
  obtain ⟨hs7, hm25⟩ := hsm
  have HS := Lib.hid hs
  clear hs
  by_cases hk10 : 10 < k
  · have dk : decide ((10 : Int) < (k : Int)) = true := decide_eq_true (by omega)
    clear hk10
    go_enter Try.func10, Try.ntmps10
    go_wp2_with (first
      | (go_at_call 35; refine (awake36_any _).mono ?_; rintro e w1 ⟨rfl, hb⟩; have X1 := Lib.hid (X0.out.next hb); obtain ⟨hz1, p0, p1⟩ := X1.out.facts; clear hb)
      | (go_at_call 36; refine (small36_b _ A m c _ HS.out).mono ?_; rintro e w2 ⟨rfl, hb⟩; have X2 := Lib.hid (X1.out.next hb); obtain ⟨hz2, p0, p1⟩ := X2.out.facts; clear hb)
      | fail)
    go_ret
    exact ⟨rfl, X2.out.below⟩
  have dk : decide ((10 : Int) < (k : Int)) = false := decide_eq_false (by omega)
  cases hv : validB N es
  · have HV7 : Hid (v36 N 7 es = false) := Lib.hid (by unfold v36; rw [hv]; rfl)
    have HVL : Hid (virL N es ps = []) := Lib.hid (virL_no (by unfold virOk; rw [hv]; rfl))
    clear hv hs7
    go_enter Try.func10, Try.ntmps10
    go_wp2_with (first
      | (go_at_call 35; refine (awake36_any _).mono ?_; rintro e w1 ⟨rfl, hb⟩; have X1 := Lib.hid (X0.out.next hb); obtain ⟨hz1, p0, p1⟩ := X1.out.facts; clear hb)
      | (go_at_call 36; refine (small36_b _ A m c _ HS.out).mono ?_; rintro e w2 ⟨rfl, hb⟩; have X2 := Lib.hid (X1.out.next hb); obtain ⟨hz2, p0, p1⟩ := X2.out.facts; clear hb)
      | (go_at_call 38; refine (own36_any _ A m c es _ (by omega) (H0.out.keep X2.out.keeps)).mono ?_; rintro e w3 ⟨hb, B3, d3, rfl, hr⟩; have X3 := Lib.hid (X2.out.next hb); obtain ⟨hz3, p0, p1⟩ := X3.out.facts; have R3 := Lib.hid hr; clear hb hr)
      | (at_builtin; refine wpList_app _ rfl (.tmp 18) (.tmp 19) 27 rfl w3.heap.size 3 (.int .i64 0) 1 8 Try.underlying27 info_int' rfl (by decide) (some ⟨w3.heap.size, 0, none⟩) 0 0 [] rfl (own_empty_at rfl _ _) P k d (ints ps) rfl ((H1.out.keep X3.out.keeps).keep (Keeps.alloc _ _)) (ints_one _) (by omega) (by unfold maxLen; omega) (by simp) ?_; intro D4 c4 w4 ho4 hg4 hb4; simp only [Nat.zero_add, List.nil_append] at ho4; have O4 := Lib.hid ho4; have BL4 : Hid (Below w3.heap.size w3 w4) := Lib.hid (((Below.refl _ _).alloc (Nat.le_refl _) _).grown hg4 (by simp) (fun k hk => by simp [blk] at hk; omega)); have X4 := Lib.hid (X3.out.next BL4.out); obtain ⟨hz4, p0, p1⟩ := X4.out.facts; have R34 := Lib.hid (R3.out.keep (Keeps.of_below BL4.out (Nat.le_refl _))); clear ho4 hg4 hb4)
      | (go_at_call 45; refine (virtual_any _ B3 D4 m d3 k c4 es ps _ (by omega) (by omega) O4.out.cap R34.out O4.out.rd).mono ?_; rintro e w5 ⟨hb, C5, n5, c5, rfl, ho⟩; have X5 := Lib.hid (X4.out.next hb); obtain ⟨hz5, p0, p1⟩ := X5.out.facts; have R5 := Lib.hid ho.rd; have N5 : n5 = 0 := (by have h9 := ho.plen; rw [HVL.out] at h9; exact h9.symm); subst N5; clear hb ho)
      | (go_at_call 39; refine (valid36_b N 7 A m c es _ (by omega) (by omega) (H0.out.keep X5.out.keeps) HV7.out).mono ?_; rintro e w6 ⟨rfl, hb⟩; have X6 := Lib.hid (X5.out.next hb); obtain ⟨hz6, p0, p1⟩ := X6.out.facts; have R6 := Lib.hid (R5.out.keep (Keeps.of_below hb (Nat.le_refl _))); clear hb)
      | fail)
    go_ret
    exact ⟨rfl, X6.out.below⟩
  · obtain ⟨n, rfl, hn60⟩ := nat_of_valid hv
    have hn7 : n ≤ 7 := by omega
    have HV7 : Hid (v36 n 7 es = true) := Lib.hid (by unfold v36; rw [hv, decide_eq_true (by omega)]; rfl)
    have HOK := Lib.hid (ok_of_valid hv)
    have VR := Lib.hid (vir_ref (ps := ps) (by omega) hv)
    have VLN : Hid ((rvL n es ps).length ≤ 1000) := Lib.hid (by
      unfold rvL
      split
      · have h1 := pfU_len (f := nj es ps) (v := atI ps) (n := ps.length) ps.length
        have h2 : ps.length = k := H1.out.int_len
        rw [h2] at h1
        have h3 : k * k ≤ 10 * 10 := Nat.mul_le_mul (by omega) (by omega)
        rw [h2]; omega
      · simp)
    clear hv hs7 hn60
    go_enter Try.func10, Try.ntmps10
    go_wp2_with (first
      | (go_at_call 35; refine (awake36_any _).mono ?_; rintro e w1 ⟨rfl, hb⟩; have X1 := Lib.hid (X0.out.next hb); obtain ⟨hz1, p0, p1⟩ := X1.out.facts; clear hb)
      | (go_at_call 36; refine (small36_b _ A m c _ HS.out).mono ?_; rintro e w2 ⟨rfl, hb⟩; have X2 := Lib.hid (X1.out.next hb); obtain ⟨hz2, p0, p1⟩ := X2.out.facts; clear hb)
      | (go_at_call 38; refine (own36_any _ A m c es _ (by omega) (H0.out.keep X2.out.keeps)).mono ?_; rintro e w3 ⟨hb, B3, d3, rfl, hr⟩; have X3 := Lib.hid (X2.out.next hb); obtain ⟨hz3, p0, p1⟩ := X3.out.facts; have R3 := Lib.hid hr; clear hb hr)
      | (at_builtin; refine wpList_app _ rfl (.tmp 18) (.tmp 19) 27 rfl w3.heap.size 3 (.int .i64 0) 1 8 Try.underlying27 info_int' rfl (by decide) (some ⟨w3.heap.size, 0, none⟩) 0 0 [] rfl (own_empty_at rfl _ _) P k d (ints ps) rfl ((H1.out.keep X3.out.keeps).keep (Keeps.alloc _ _)) (ints_one _) (by omega) (by unfold maxLen; omega) (by simp) ?_; intro D4 c4 w4 ho4 hg4 hb4; simp only [Nat.zero_add, List.nil_append] at ho4; have O4 := Lib.hid ho4; have BL4 : Hid (Below w3.heap.size w3 w4) := Lib.hid (((Below.refl _ _).alloc (Nat.le_refl _) _).grown hg4 (by simp) (fun k hk => by simp [blk] at hk; omega)); have X4 := Lib.hid (X3.out.next BL4.out); obtain ⟨hz4, p0, p1⟩ := X4.out.facts; have R34 := Lib.hid (R3.out.keep (Keeps.of_below BL4.out (Nat.le_refl _))); clear ho4 hg4 hb4)
      | (go_at_call 45; refine (virtual_any _ B3 D4 m d3 k c4 es ps _ (by omega) (by omega) O4.out.cap R34.out O4.out.rd).mono ?_; rintro e w5 ⟨hb, C5, n5, c5, rfl, ho⟩; have X5 := Lib.hid (X4.out.next hb); obtain ⟨hz5, p0, p1⟩ := X5.out.facts; have R5 := Lib.hid ho.rd; have N5 := Lib.hid ho.plen; clear hb ho)
      | (go_at_call 39; refine (valid36_b n 7 A m c es _ (by omega) (by omega) (H0.out.keep X5.out.keeps) HV7.out).mono ?_; rintro e w6 ⟨rfl, hb⟩; have X6 := Lib.hid (X5.out.next hb); obtain ⟨hz6, p0, p1⟩ := X6.out.facts; have R6 := Lib.hid (R5.out.keep (Keeps.of_below hb (Nat.le_refl _))); clear hb)
      | (go_at_call 47; refine (rvirtual_any n A P m c k d es ps _ hn7 (by omega) (by omega) (H0.out.keep X6.out.keeps) (H1.out.keep X6.out.keeps) HOK.out).mono ?_; rintro e w7 ⟨hb, C7, n7, c7, rfl, ho⟩; have X7 := Lib.hid (X6.out.next hb); have R7 := Lib.hid ho.rd; have N7 := Lib.hid ho.plen; have R67 := Lib.hid (R6.out.keep (Keeps.of_below hb (Nat.le_refl _))); clear hb ho)
      | (go_at_call 46; refine (pairs36_b (b := true) C5 C7 n5 c5 n7 c7 _ _ _ (by have := N5.out; have := VLN.out; rw [VR.out] at *; omega) (by have := N7.out; have := VLN.out; omega) R67.out R7.out (by rw [VR.out]; simp)).mono ?_; rintro e w8 ⟨rfl, hb⟩; have X8 := Lib.hid (X7.out.next hb); clear hb)
      | fail)
    go_ret
    exact ⟨rfl, X8.out.below⟩
end Go.Proofs.Ytagcaljpgifppaa
