/-
  GraphMake: the walk of the statement, from the contract of awake.
-/
import Derived.Test.YtfkpcmklpcnebaaLg1
namespace Go.Proofs.Ytfkpcmklpcnebaa
set_option linter.unusedVariables false
set_option linter.unusedSimpArgs false
open Go.RowKit Go.Sort

theorem mkL_len (n : Nat) (es : List (Int × Int)) (hn : n ≤ 60) : (mkL n es).length ≤ 3600 := by
  have := uptoK_len es n n
  unfold mkL
  have h2 : n * n ≤ 60 * 60 := Nat.mul_le_mul hn hn
  omega
theorem mkL_valid (n : Nat) (es : List (Int × Int)) (hn : n ≤ 60) : validB n (mkL n es) = true := by
  refine validB_yes n _ (by omega) (by omega) (fun k hk => ?_)
  have hm : ∀ j, j < (mkL n es).length → 0 ≤ (PAt (mkL n es) j).1 ∧ (PAt (mkL n es) j).1 < (PAt (mkL n es) j).2 ∧ (PAt (mkL n es) j).2 < n := fun j hj => by
    have := mem_mkL.1 (PAt_mem hj)
    exact ⟨this.1, this.2.1, this.2.2.1⟩
  have h1 := hm k hk
  unfold okAt
  change (decide (0 ≤ (PAt (mkL n es) k).1) && decide ((PAt (mkL n es) k).1 < (PAt (mkL n es) k).2) && decide ((PAt (mkL n es) k).2 < n) && (decide (k = 0) || befB (PAt (mkL n es) (k - 1)).1 (PAt (mkL n es) (k - 1)).2 (PAt (mkL n es) k).1 (PAt (mkL n es) k).2)) = true
  rw [decide_eq_true h1.1, decide_eq_true h1.2.1, decide_eq_true h1.2.2]
  by_cases h0 : k = 0
  · simp [h0]
  · rw [decide_eq_false h0]
    have hs := List.pairwise_iff_getElem.1 (mkL_strict n es) (k - 1) k (by omega) hk (by omega)
    have e1 : PAt (mkL n es) (k - 1) = (mkL n es)[k - 1]'(by omega) := by unfold PAt; rw [List.getD_eq_getElem?_getD, List.getElem?_eq_getElem (by omega)]; rfl
    have e2 : PAt (mkL n es) k = (mkL n es)[k] := by unfold PAt; rw [List.getD_eq_getElem?_getD, List.getElem?_eq_getElem hk]; rfl
    rw [e1, e2, befB_iff.2 hs]; rfl
theorem mkE_some {N : Int} {es l : List (Int × Int)} (h : mkE N es = some l) : validB N l = true ∧ l.length ≤ 3600 := by
  unfold mkE at h
  split at h
  · rename_i ho
    unfold okE at ho
    simp only [Bool.and_eq_true, decide_eq_true_eq] at ho
    obtain ⟨n, rfl⟩ : ∃ n : Nat, N = n := ⟨N.toNat, by omega⟩
    rw [Int.toNat_natCast] at h
    injection h with h
    subst h
    exact ⟨mkL_valid n es (by omega), mkL_len n es (by omega)⟩
  · cases h

set_option maxRecDepth 100000 in
set_option maxHeartbeats 4000000 in
theorem law_gmake (HA : AwContract) (N : Int) (A : Option Addr) (m c : Nat) (es : List (Int × Int)) (w : World) (hm : m ≤ maxLen) (he : Rd w 2 A m (prs es)) :
    Calls Try.prog 4 #[.int .i64 N, .slice A m c] w fun e w' => e = .returned (.bool true) ∧ Below w.heap.size w w' := by
  have H0 := Lib.hid he
  have HE := Lib.hid he.prs_len
  have HAW := Lib.hid HA
  clear he HA
  by_cases h1 : 100 < (m : Int)
  · have h1n : 100 < m := by omega
    go_enter Try.func4, Try.ntmps4
    go_wp2_with fail
    refine (HAW.out _).mono ?_
    rintro e w1 ⟨rfl, hb1⟩
    go_wp2_with fail
    refine (HAW.out _).mono ?_
    rintro e w2 ⟨rfl, hb2⟩
    go_wp2
    go_ret
    exact ⟨rfl, hb1.trans (hb2.mono hb1.size)⟩
  · have h1n : ¬ 100 < m := by omega
    cases hr : mkE N es with
    | none =>
      have HR := Lib.hid hr
      clear hr
      go_enter Try.func4, Try.ntmps4
      go_wp2_with fail
      refine (HAW.out _).mono ?_
      rintro e w1 ⟨rfl, hb1⟩
      have R1 := Lib.hid (H0.out.keep (Keeps.of_below hb1 (Nat.le_refl _)))
      have X1 := Lib.hid hb1
      have hz1 := hb1.size
      clear hb1
      go_wp2_with (at_builtin; refine wpList_app _ rfl (.tmp 19) (.tmp 20) 22 rfl w1.heap.size 36 (.agg #[.int .i64 0, .int .i64 0]) 2 16 Try.underlying22 info_pair rfl (by decide) (some ⟨w1.heap.size, 0, none⟩) 0 0 [] rfl (own_empty _ _ _) A m c (prs es) rfl (R1.out.keep (Keeps.alloc _ _)) (prs_one _) (by omega) (by unfold maxLen; omega) (by simp) ?_; intro B4 c4 w4 ho4 hg4 hb4; have S3 : Hid (Below w1.heap.size w1 w4) := (((Below.refl _ _).alloc (Nat.le_refl _) _).grown hg4 (by simp) (fun b hb => Nat.le_of_eq (by injection hb))); have O4 : Hid (Own w4 w1.heap.size 36 2 B4 m c4 (prs es)) := Lib.hid (by have := ho4; rw [Nat.zero_add, List.nil_append] at this; exact this); clear ho4 hg4 hb4)
      refine (gmake_any N B4 m c4 es _ (by omega) O4.out.rd).mono ?_
      rintro e w5 hp
      rw [HR.out] at hp
      obtain ⟨hb5, rfl⟩ := hp
      have X5 : Hid (Below w.heap.size w w5) := Lib.hid ((X1.out.trans (S3.out.mono hz1)).trans (hb5.mono (Nat.le_trans hz1 S3.out.size)))
      have hz5 := X5.out.size
      have R5 := Lib.hid (H0.out.keep (Keeps.of_below X5.out (Nat.le_refl _)))
      clear hb5
      go_wp2_with fail
      refine (rmake_any N A m c es _ (by omega) (R5.out.keep (Keeps.alloc _ _))).mono ?_
      rintro e w6 hp
      rw [HR.out] at hp
      obtain ⟨hb6, rfl⟩ := hp
      have X6 : Hid (Below w.heap.size w w6) := Lib.hid ((X5.out.alloc (by omega) _).trans (hb6.mono (by simp; omega)))
      have hz6 := hb6.size
      simp at hz6
      have p0 : w6.cell? ⟨w5.heap.size, 0, none⟩ = some (.int .i64 0) := by rw [hb6.cell (by simp)]; simp
      have p1 : w6.cell? ⟨w5.heap.size, 1, none⟩ = some (.slice none 0 0) := by rw [hb6.cell (by simp)]; simp
      have p0a := Keeps.alloc w6 (.cells #[.int .i64 0, .slice none 0 0] 24) _ _ p0
      have p1a := Keeps.alloc w6 (.cells #[.int .i64 0, .slice none 0 0] 24) _ _ p1
      clear hb6
      go_wp2_with fail
      refine (same_b (b := true) 0 0 none none 0 0 0 0 [] [] _ (by omega) (by omega) (Rd.nil _ _ _) (Rd.nil _ _ _) (by decide)).mono ?_
      rintro e w7 ⟨rfl, hb7⟩
      go_wp2
      go_ret
      exact ⟨rfl, (X6.out.alloc (by omega) _).trans (hb7.mono (by simp; omega))⟩
    | some l =>
      obtain ⟨hvl, hll⟩ := mkE_some hr
      have HR := Lib.hid hr
      have HVL := Lib.hid hvl
      generalize hlq : l.length = q at hll
      have HLQ := Lib.hid hlq
      clear hr hvl hlq
      go_enter Try.func4, Try.ntmps4
      go_wp2_with fail
      refine (HAW.out _).mono ?_
      rintro e w1 ⟨rfl, hb1⟩
      have R1 := Lib.hid (H0.out.keep (Keeps.of_below hb1 (Nat.le_refl _)))
      have X1 := Lib.hid hb1
      have hz1 := hb1.size
      clear hb1
      go_wp2_with (at_builtin; refine wpList_app _ rfl (.tmp 19) (.tmp 20) 22 rfl w1.heap.size 36 (.agg #[.int .i64 0, .int .i64 0]) 2 16 Try.underlying22 info_pair rfl (by decide) (some ⟨w1.heap.size, 0, none⟩) 0 0 [] rfl (own_empty _ _ _) A m c (prs es) rfl (R1.out.keep (Keeps.alloc _ _)) (prs_one _) (by omega) (by unfold maxLen; omega) (by simp) ?_; intro B4 c4 w4 ho4 hg4 hb4; have S3 : Hid (Below w1.heap.size w1 w4) := (((Below.refl _ _).alloc (Nat.le_refl _) _).grown hg4 (by simp) (fun b hb => Nat.le_of_eq (by injection hb))); have O4 : Hid (Own w4 w1.heap.size 36 2 B4 m c4 (prs es)) := Lib.hid (by have := ho4; rw [Nat.zero_add, List.nil_append] at this; exact this); clear ho4 hg4 hb4)
      refine (gmake_any N B4 m c4 es _ (by omega) O4.out.rd).mono ?_
      rintro e w5 hp
      rw [HR.out] at hp
      obtain ⟨hb5, B5, d5, rfl, ho5⟩ := hp
      rw [HLQ.out] at ho5 ⊢
      have X5 : Hid (Below w.heap.size w w5) := Lib.hid ((X1.out.trans (S3.out.mono hz1)).trans (hb5.mono (Nat.le_trans hz1 S3.out.size)))
      have hz5 := X5.out.size
      have R5 := Lib.hid (H0.out.keep (Keeps.of_below X5.out (Nat.le_refl _)))
      have Q5 := Lib.hid ho5.rd
      clear hb5 ho5
      go_wp2_with fail
      refine (rmake_any N A m c es _ (by omega) (R5.out.keep (Keeps.alloc _ _))).mono ?_
      rintro e w6 hp
      rw [HR.out] at hp
      obtain ⟨hb6, B6, d6, rfl, ho6⟩ := hp
      rw [HLQ.out] at ho6 ⊢
      have X6 : Hid (Below w.heap.size w w6) := Lib.hid ((X5.out.alloc (by omega) _).trans (hb6.mono (by simp; omega)))
      have hz6 := hb6.size
      simp at hz6
      have p0 : w6.cell? ⟨w5.heap.size, 0, none⟩ = some (.int .i64 N) := by rw [hb6.cell (by simp)]; simp
      have p1 : w6.cell? ⟨w5.heap.size, 1, none⟩ = some (.slice B5 q d5) := by rw [hb6.cell (by simp)]; simp
      have p0a := Keeps.alloc w6 (.cells #[.int .i64 N, .slice B6 q d6] 24) _ _ p0
      have p1a := Keeps.alloc w6 (.cells #[.int .i64 N, .slice B6 q d6] 24) _ _ p1
      have Q6 := Lib.hid (((Q5.out.keep (Keeps.alloc _ _)).keep (Keeps.of_below hb6 (Nat.le_refl _))).keep (Keeps.alloc w6 (.cells #[.int .i64 N, .slice B6 q d6] 24)))
      have S6 := Lib.hid (ho6.rd.keep (Keeps.alloc w6 (.cells #[.int .i64 N, .slice B6 q d6] 24)))
      clear hb6 ho6
      go_wp2_with fail
      refine (same_b (b := true) N N B5 B6 q d5 q d6 l l _ (by omega) (by omega) Q6.out S6.out (by simp)).mono ?_
      rintro e w7 ⟨rfl, hb7⟩
      have X7 : Hid (Below w.heap.size w w7) := Lib.hid ((X6.out.alloc (by omega) _).trans (hb7.mono (by simp; omega)))
      have hz7 := hb7.size
      simp at hz7
      have p0b := Keeps.of_below hb7 (Nat.le_refl _) _ _ p0a
      have p1b := Keeps.of_below hb7 (Nat.le_refl _) _ _ p1a
      have Q7 := Lib.hid (Q6.out.keep (Keeps.of_below hb7 (Nat.le_refl _)))
      clear hb7
      go_wp2_with fail
      refine (rvalid_b (b := true) N B5 q d5 l _ (by omega) Q7.out HVL.out).mono ?_
      rintro e w8 ⟨rfl, hb8⟩
      go_wp2
      go_ret
      exact ⟨rfl, X7.out.trans (hb8.mono (by omega))⟩
end Go.Proofs.Ytfkpcmklpcnebaa
