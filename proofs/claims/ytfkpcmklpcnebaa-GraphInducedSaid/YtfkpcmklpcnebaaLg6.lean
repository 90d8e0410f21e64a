/-
  GraphInduced: the walk of the statement.
-/
import Derived.Test.YtfkpcmklpcnebaaLg1
import Derived.Test.YtfkpcmklpcnebaaG5
import Derived.Test.YtfkpcmklpcnebaaOwnL
namespace Go.Proofs.Ytfkpcmklpcnebaa
set_option linter.unusedVariables false
set_option linter.unusedSimpArgs false
open Go.RowKit Go.Sort
attribute [local go_sem ↓] Go.wp_at_zero Go.wp_at_succ

set_option maxHeartbeats 16000000 in
theorem law_ginduced (HA : AwContract) (N : Int) (A P : Option Addr) (m c n dp : Nat) (es : List (Int × Int)) (ps : List Int) (w : World) (hm : m ≤ maxLen) (hn : n ≤ maxLen) (he : Rd w 2 A m (prs es)) (hp : Rd w 1 P n (ints ps)) :
    Calls Try.prog 9 #[.agg #[.int .i64 N, .slice A m c], .slice P n dp] w fun e w' => e = .returned (.bool true) ∧ Below w.heap.size w w' := by
  have H0 := Lib.hid he
  have HE := Lib.hid he.prs_len
  have HP := Lib.hid hp
  have HAW := Lib.hid HA
  unfold maxLen at hm hn
  have X0 : Hid (BX w N A m c (w.alloc (.cells #[.int .i64 N, .slice A m c] 24))) := Lib.hid BX.start
  clear he HA hp
  by_cases h1 : (m : Int) ≤ 100
  · have D1 : Hid (decide ((m : Int) ≤ 100) = true) := by unfold Hid; simpa using h1
    by_cases h2 : (n : Int) ≤ 100
    · have hd2 : decide (100 < (n : Int)) = false := by simpa using h2
      have hl := indK_len (validB N es) es ps es.length
      have RI : Hid (∀ w, Rd w 2 A m (prs es) → Rd w 1 P n (ints ps) → Calls Try.prog 30 #[.agg #[.int .i64 N, .slice A m c], .slice P n dp] w (PrsPost w (indE N es ps))) := Lib.hid fun w h k => rind_any N A P m c n dp es ps w (by omega) (by omega) h k
      have GI : Hid (∀ B4 c4 w, Rd w 2 A m (prs es) → Rd w 1 B4 n (ints ps) → Calls Try.prog 29 #[.agg #[.int .i64 N, .slice A m c], .slice B4 n c4] w (PrsPost w (indE N es ps))) := Lib.hid fun B4 c4 w h k => gind_any N A B4 m c n c4 es ps w (by omega) (by omega) h k
      change (indE N es ps).length ≤ _ at hl
      rw [HE.out] at hl
      unfold PrsPost at RI GI
      generalize indE N es ps = l at RI GI hl
      generalize hq : l.length = q at RI GI hl
      have HQ := Lib.hid hq
      clear hq
      go_enter Try.func9, Try.ntmps9
      go_wp2_with fail
      refine (HAW.out _).mono ?_
      rintro e w1 ⟨rfl, hb⟩
      have X1 := Lib.hid (X0.out.next hb)
      obtain ⟨hz1, p0, p1⟩ := X1.out.facts
      clear hb
      go_wp2_with fail
      refine (small_b (b := true) N A m c _ D1.out).mono ?_
      rintro e w3 ⟨rfl, hb⟩
      have X3 := Lib.hid (X1.out.next hb)
      obtain ⟨hz3, p0, p1⟩ := X3.out.facts; have n0 := World.new_ne w3 _ p1
      clear hb
      go_wp2
      go_region_held3 (fun w' => w'.cell? ⟨w.heap.size, 0, none⟩ = some (.int .i64 N) ∧ w'.cell? ⟨w.heap.size, 1, none⟩ = some (.slice A m c)) (go_keep)
        ((first
          | (go_at_call 30; refine (RI.out _ (H0.out.keep (by first | exact X5.out.keeps | exact X6.out.keeps | exact X4.out.keeps | exact X3.out.keeps | exact X3.out.keeps.trans (Keeps.drew _) | exact X3.out.keeps.trans ((Keeps.drew _).trans (Keeps.alloc _ _)) | exact X3.out.keeps.trans ((Keeps.alloc _ _).trans (Keeps.drew _)) | exact X6.out.keeps.trans (Keeps.alloc _ _))) (HP.out.keep (by first | exact X5.out.keeps | exact X6.out.keeps | exact X4.out.keeps | exact X3.out.keeps | exact X3.out.keeps.trans (Keeps.drew _) | exact X3.out.keeps.trans ((Keeps.drew _).trans (Keeps.alloc _ _)) | exact X3.out.keeps.trans ((Keeps.alloc _ _).trans (Keeps.drew _)) | exact X6.out.keeps.trans (Keeps.alloc _ _)))).mono ?_; rintro e w6 ⟨hb, C, d6, rfl, ho⟩; have HB6 := Lib.hid (Keeps.of_below hb (Nat.le_refl _)); have HW6 := Lib.hid hb; have X6 : Hid (BX w N A m c w6) := Lib.hid (by first | exact X5.out.next hb | exact X4.out.next hb | exact X3.out.next hb | exact X3.out.next ((Below.refl _ _).drew.trans hb) | exact X3.out.next (((Below.refl _ _).drew.alloc (Nat.le_refl _) _).trans (hb.mono (by simp))) | exact X3.out.next ((((Below.refl _ _).alloc (Nat.le_refl _) _).drew).trans (hb.mono (by simp)))); obtain ⟨hz6, p0, p1⟩ := X6.out.facts; have n0 := World.new_ne w6 _ p1; have O6 := Lib.hid ho; have R6 := Lib.hid ho.rd; clear hb ho)
          | (go_at_call 29; refine (GI.out B4 c4 _ (H0.out.keep (by first | exact X5.out.keeps | exact X6.out.keeps | exact X4.out.keeps | exact X3.out.keeps | exact X3.out.keeps.trans (Keeps.drew _) | exact X3.out.keeps.trans ((Keeps.drew _).trans (Keeps.alloc _ _)) | exact X3.out.keeps.trans ((Keeps.alloc _ _).trans (Keeps.drew _)) | exact X6.out.keeps.trans (Keeps.alloc _ _))) (by first | exact R4.out | exact R4.out.keep HB6.out)).mono ?_; rintro e w5 ⟨hb, B, d5, rfl, ho⟩; have HB5 := Lib.hid (Keeps.of_below hb (Nat.le_refl _)); have X5 : Hid (BX w N A m c w5) := Lib.hid (by first | exact X6.out.next hb | exact X4.out.next hb); obtain ⟨hz5, p0, p1⟩ := X5.out.facts; have n0 := World.new_ne w5 _ p1; have R5 := Lib.hid ho.rd; clear hb ho)
          | (go_at_call 28; refine (edges_b (b := true) B C q d5 q d6 l l _ (by omega) (by omega) (by first | exact R5.out | exact R5.out.keep HB6.out) (by first | exact R6.out | exact R6.out.keep HB5.out) (by simp)).mono ?_; rintro e w7 ⟨rfl, hb⟩; have X7 : Hid (BX w N A m c w7) := Lib.hid (by first | exact X5.out.next hb | exact X6.out.next hb); obtain ⟨hz7, p0, p1⟩ := X7.out.facts; have n0 := World.new_ne w7 _ p1; clear hb)
          | (refine step_app _ rfl (.tmp 19) (.tmp 20) 35 rfl w6.heap.size 3 (.int .i64 0) 1 8 Try.underlying35 info_int' rfl (by decide) (some ⟨w6.heap.size, 0, none⟩) 0 0 [] (by simp [Act.eval, Act.put]) (own_empty _ _ _) P n dp (ints ps) (by simp [Act.eval, Act.put]) (HP.out.keep (by first | exact X5.out.keeps | exact X6.out.keeps | exact X4.out.keeps | exact X3.out.keeps | exact X3.out.keeps.trans (Keeps.drew _) | exact X3.out.keeps.trans ((Keeps.drew _).trans (Keeps.alloc _ _)) | exact X3.out.keeps.trans ((Keeps.alloc _ _).trans (Keeps.drew _)) | exact X6.out.keeps.trans (Keeps.alloc _ _))) (ints_one _) (by omega) (by unfold maxLen; omega) (by simp; try omega) ?_; intro B4 c4 w4 ho4 hg4 hb4; have X4 : Hid (BX w N A m c w4) := Lib.hid (X6.out.next (((Below.refl _ _).alloc (Nat.le_refl _) _).grown hg4 (by simp) (fun b hb => Nat.le_of_eq (by injection hb)))); obtain ⟨hz4, p0, p1⟩ := X4.out.facts; have n0 := World.new_ne w4 _ p1; have R4 : Hid (Rd w4 1 B4 n (ints ps)) := Lib.hid (by have h9 := ho4.rd; rw [Nat.zero_add, List.nil_append] at h9; exact h9); have R6 := Lib.hid (R6.out.keep (Keeps.of_below (((Below.refl _ _).alloc (Nat.le_refl _) _).grown hg4 (by simp) (fun b hb => Nat.le_of_eq (by injection hb))) (Nat.le_refl _))); clear ho4 hg4 hb4)
          | (refine step_app _ rfl (.tmp 19) (.tmp 20) 35 rfl w3.heap.size 3 (.int .i64 0) 1 8 Try.underlying35 info_int' rfl (by decide) (some ⟨w3.heap.size, 0, none⟩) 0 0 [] (by simp [Act.eval, Act.put]) ((own_empty w3.drew 3 1).later HW6.out) P n dp (ints ps) (by simp [Act.eval, Act.put]) (HP.out.keep (by first | exact X5.out.keeps | exact X6.out.keeps | exact X4.out.keeps | exact X3.out.keeps | exact X3.out.keeps.trans (Keeps.drew _) | exact X3.out.keeps.trans ((Keeps.drew _).trans (Keeps.alloc _ _)) | exact X3.out.keeps.trans ((Keeps.alloc _ _).trans (Keeps.drew _)) | exact X6.out.keeps.trans (Keeps.alloc _ _))) (ints_one _) (by omega) (by unfold maxLen; omega) (by simp; try omega) ?_; intro B4 c4 w4 ho4 hg4 hb4; have X4 : Hid (BX w N A m c w4) := Lib.hid (X6.out.trans ((Below.refl _ _).grown hg4 (by omega) (fun b hb => by have := X3.out.facts.1; injection hb with hb; omega))); obtain ⟨hz4, p0, p1⟩ := X4.out.facts; have n0 := World.new_ne w4 _ p1; have R4 : Hid (Rd w4 1 B4 n (ints ps)) := Lib.hid (by have h9 := ho4.rd; rw [Nat.zero_add, List.nil_append] at h9; exact h9); have R6 := Lib.hid ((O6.out.apart hg4 (O6.out.apart_type ((own_empty w3.drew 3 1).later HW6.out) (by decide))).rd); clear ho4 hg4 hb4)
          | (refine step_app _ rfl (.tmp 19) (.tmp 20) 35 rfl w3.heap.size 3 (.int .i64 0) 1 8 Try.underlying35 info_int' rfl (by decide) (some ⟨w3.heap.size, 0, none⟩) 0 0 [] (by simp [Act.eval, Act.put]) (own_empty w3.drew 3 1) P n dp (ints ps) (by simp [Act.eval, Act.put]) (HP.out.keep (by first | exact X5.out.keeps | exact X6.out.keeps | exact X4.out.keeps | exact X3.out.keeps | exact X3.out.keeps.trans (Keeps.drew _) | exact X3.out.keeps.trans ((Keeps.drew _).trans (Keeps.alloc _ _)) | exact X3.out.keeps.trans ((Keeps.alloc _ _).trans (Keeps.drew _)) | exact X6.out.keeps.trans (Keeps.alloc _ _))) (ints_one _) (by omega) (by unfold maxLen; omega) (by simp; try omega) ?_; intro B4 c4 w4 ho4 hg4 hb4; have X4 : Hid (BX w N A m c w4) := Lib.hid (X3.out.next (((Below.refl _ _).drew.alloc (Nat.le_refl _) _).grown hg4 (by simp) (fun b hb => Nat.le_of_eq (by injection hb)))); obtain ⟨hz4, p0, p1⟩ := X4.out.facts; have n0 := World.new_ne w4 _ p1; have R4 : Hid (Rd w4 1 B4 n (ints ps)) := Lib.hid (by have h9 := ho4.rd; rw [Nat.zero_add, List.nil_append] at h9; exact h9); clear ho4 hg4 hb4)
          | fail))
      all_goals
       go_wp2
       go_ret
       exact ⟨rfl, X7.out.below⟩
    · have hd2 : decide (100 < (n : Int)) = true := by simpa using h2
      go_enter Try.func9, Try.ntmps9
      go_wp2_with fail
      refine (HAW.out _).mono ?_
      rintro e w1 ⟨rfl, hb⟩
      have X1 := Lib.hid (X0.out.next hb)
      obtain ⟨hz1, p0, p1⟩ := X1.out.facts
      clear hb
      go_wp2_with fail
      refine (small_b (b := true) N A m c _ D1.out).mono ?_
      rintro e w2 ⟨rfl, hb⟩
      have X2 := Lib.hid (X1.out.next hb)
      clear hb
      go_wp2_with fail
      refine (HAW.out _).mono ?_
      rintro e w3 ⟨rfl, hb⟩
      go_wp2
      go_ret
      exact ⟨rfl, (X2.out.next hb).below⟩
  · have D1 : Hid (decide ((m : Int) ≤ 100) = false) := by unfold Hid; simpa using h1
    go_enter Try.func9, Try.ntmps9
    go_wp2_with fail
    refine (HAW.out _).mono ?_
    rintro e w1 ⟨rfl, hb⟩
    have X1 := Lib.hid (X0.out.next hb)
    obtain ⟨hz1, p0, p1⟩ := X1.out.facts
    clear hb
    go_wp2_with fail
    refine (small_b (b := false) N A m c _ D1.out).mono ?_
    rintro e w2 ⟨rfl, hb⟩
    have X2 := Lib.hid (X1.out.next hb)
    clear hb
    go_wp2_with fail
    refine (HAW.out _).mono ?_
    rintro e w3 ⟨rfl, hb⟩
    go_wp2
    go_ret
    exact ⟨rfl, (X2.out.next hb).below⟩
end Go.Proofs.Ytfkpcmklpcnebaa
