/-
  Henneberg of the program: errors of a split.
-/
import Derived.Test.YtagcaljpgifppaaMa
namespace Go.Proofs.Ytagcaljpgifppaa
set_option linter.unusedVariables false
set_option linter.unusedSimpArgs false
open Go.RowKit Go.Sort
attribute [local go_sem ↓] Go.wp_at_zero Go.wp_at_succ

set_option maxRecDepth 100000 in
set_option maxHeartbeats 16000000 in
theorem ghenn_bad2 (N : Int) (A : Option Addr) (n c : Nat) (es : List (Int × Int)) (a b s : Int) (w : World) (hn : n ≤ 900) (he : Rd w 2 A n (prs es)) (hok : hennBad1 N es a b = false) (hbad : hennBad2 N es a b s = true) :
    Calls Try.prog 32 #[.agg #[.int .i64 N, .slice A n c], .int .i64 a, .int .i64 b, .int .i64 s] w (HPost w N (hennE N es a b s)) := by
  have HE := Lib.hid he.prs_len
  have H0 := Lib.hid he
  have G0 : Hid (GF w N A n c a b (W4 w N A n c a b)) := Lib.hid GF.start
  have H1 := Lib.hid (he.keep (Keeps.of_below G0.out.below (Nat.le_refl _)))
  unfold W4 at H1
  clear he
  have hN0 := (validB_iff N es).1 (not_bad1 hok).1
  obtain ⟨hNa, hNb, -⟩ := hN0
  have HB2 := Lib.hid hbad
  obtain ⟨hv, hA, hB, hab⟩ := not_bad1 hok
  unfold hennBad2 at hbad
  rw [Bool.and_eq_true, decide_eq_true_eq] at hbad
  obtain ⟨hs0, hbad⟩ := hbad
  have hd0 : decide (0 ≤ s) = true := by simpa using hs0
  cases hS : hasB N s
  · have HV := Lib.hid hv
    have HA := Lib.hid hA
    have HBb := Lib.hid hB
    have HS := Lib.hid hS
    clear hv hA hB hS
    clear hbad hok
    go_enter Try.func32, Try.ntmps32
    go_wp2_with (first
      | (go_at_call 60; refine (gvalid_b (b := true) N _ n c es _ (by omega) H1.out HV.out).mono ?_; rintro e w1 ⟨rfl, hb1⟩; have F1 : Hid (GF w N A n c a b w1) := Lib.hid (G0.out.next hb1); obtain ⟨hz1, p0, p1, r0, r1, f0, f1, pa, pb⟩ := F1.out.facts; clear hb1)
      | (go_at_call 78; (with_reducible refine (has_b (b := true) N a _ HA.out).mono ?_); rintro e w2 ⟨rfl, rfl⟩)
      | (go_at_call 78; (with_reducible refine (has_b (b := true) N b _ HBb.out).mono ?_); rintro e w2 ⟨rfl, rfl⟩)
      | fail)
    have R1 := Lib.hid (H0.out.keep (Keeps.of_below F1.out.below (Nat.le_refl _)))
    have n0 := World.new_ne w1 _ p1
    have n1 := World.new_ne w1 _ pa
    have n2 := World.new_ne w1 _ pb
    go_region_held3 (fun w' => w'.cell? ⟨w.heap.size, 1, none⟩ = some (.slice A n c) ∧ w'.cell? ⟨w.heap.size + 1, 0, none⟩ = some (.int .i64 a) ∧ w'.cell? ⟨w.heap.size + 2, 0, none⟩ = some (.int .i64 b)) (go_keep)
      ((first
        | (go_at_call 64; refine (clone_n A n c es _ (R1.out.keep (Keeps.drew _)) (by omega)).mono ?_; rintro e w3 ⟨hb3, B3, c3, rfl, ho3⟩; have F3 : Hid (GF w N A n c a b w3) := Lib.hid (F1.out.next2 ((Below.refl _ _).drew.trans (hb3.mono (by simp; omega)))); obtain ⟨hz3, p0, p1, r0, r1, f0, f1, pa, pb⟩ := F3.out.facts; have n0 := World.new_ne w3 _ p1; have n1 := World.new_ne w3 _ pa; have n2 := World.new_ne w3 _ pb; have O3 : Hid (Own w3 (w.heap.size + 4) 42 2 B3 n c3 (prs es)) := Lib.hid (ho3.base_le (by simp; omega)); clear hb3 ho3)
        | (go_at_call 64; refine (clone_n A n c es _ (R1.out.keep ((Keeps.alloc w1 (.cells #[.int .i64 a, .int .i64 N, .int .i64 b, .int .i64 N] 42)).trans (Keeps.drew _))) (by omega)).mono ?_; rintro e w3 ⟨hb3, B3, c3, rfl, ho3⟩; have hz31 := hb3.size; simp at hz31; have F3 : Hid (GF w N A n c a b w3) := Lib.hid (F1.out.next2 ((((Below.refl _ _).alloc (by omega) _).drew).trans (hb3.mono (by simp; omega)))); obtain ⟨hz3, p0, p1, r0, r1, f0, f1, pa, pb⟩ := F3.out.facts; have n0 := World.new_ne w3 _ p1; have n1 := World.new_ne w3 _ pa; have n2 := World.new_ne w3 _ pb; have LIT : Hid (Rd w3 2 (some ⟨w1.heap.size, 0, none⟩) 2 (prs [(a, N), (b, N)])) := Lib.hid (((rd_lit2_at rfl [(a, N), (b, N)] _).keep (Keeps.drew _)).keep (Keeps.of_below hb3 (Nat.le_refl _))); have O3 : Hid (Own w3 (w.heap.size + 4) 42 2 B3 n c3 (prs es)) := Lib.hid (ho3.base_le (by simp; omega)); clear hb3 ho3)
        | (refine step_app _ rfl (.tmp 39) (.tmp 46) 22 rfl (w.heap.size + 4) 42 (.agg #[.int .i64 0, .int .i64 0]) 2 16 Try.underlying22 info_pair rfl (by decide) B3 n c3 (prs es) (by simp [Act.eval, Act.put]) O3.out (some ⟨w1.heap.size, 0, none⟩) 2 2 (prs [(a, N), (b, N)]) (by simp [Act.eval, Act.put]) LIT.out (prs_one _) (by omega) (by unfold maxLen; omega) (by omega) ?_; intro B4 c4 w4 ho4 hg4 hb4; have F4 : Hid (GF w N A n c a b w4) := Lib.hid (F3.out.next2 ((Below.refl _ _).grown hg4 (by omega) (fun b hb => (O3.out.lt hb).1))); obtain ⟨hz4, p0, p1, r0, r1, f0, f1, pa, pb⟩ := F4.out.facts; have n0 := World.new_ne w4 _ p1; have n1 := World.new_ne w4 _ pa; have n2 := World.new_ne w4 _ pb; have O4 : Hid (Own w4 (w.heap.size + 4) 42 2 B4 (n + 2) c4 (prs (es ++ [(a, N), (b, N)]))) := Lib.hid (by rw [prs_app]; exact ho4); clear ho4 hg4 hb4)
        | (refine step_app _ rfl (.tmp 39) (.tmp 46) 22 rfl (w.heap.size + 4) 42 (.agg #[.int .i64 0, .int .i64 0]) 2 16 Try.underlying22 info_pair rfl (by decide) B3 n c3 (prs es) (by simp [Act.eval, Act.put]) (O3.out.alloc _) (some ⟨w3.heap.size, 0, none⟩) 2 2 (prs [(a, N), (b, N)]) (by simp [Act.eval, Act.put]) (rd_lit2_at rfl [(a, N), (b, N)] _) (prs_one _) (by omega) (by unfold maxLen; omega) (by simp; omega) ?_; intro B4 c4 w4 ho4 hg4 hb4; have F4 : Hid (GF w N A n c a b w4) := Lib.hid (F3.out.next2 (((Below.refl _ _).alloc (by omega) _).grown hg4 (by simp; omega) (fun b hb => (O3.out.lt hb).1))); obtain ⟨hz4, p0, p1, r0, r1, f0, f1, pa, pb⟩ := F4.out.facts; have n0 := World.new_ne w4 _ p1; have n1 := World.new_ne w4 _ pa; have n2 := World.new_ne w4 _ pb; have O4 : Hid (Own w4 (w.heap.size + 4) 42 2 B4 (n + 2) c4 (prs (es ++ [(a, N), (b, N)]))) := Lib.hid (by rw [prs_app]; exact ho4); clear ho4 hg4 hb4)
        | fail))
    all_goals
     go_wp2_with (first
      | (go_at_call 78; (with_reducible refine (has_b (b := false) _ s _ HS.out).mono ?_); rintro e w2 ⟨rfl, rfl⟩)
      | fail)
     refine bodyPost_ret (v := .tuple #[.agg #[.int .i64 0, .slice none 0 0], .int .i64 1]) (by simp [results, Try.results32, go_sem, r0, r1]) rfl ?_
     rw [henn_bad2 HB2.out]
     exact ⟨(F4.out.below.setCell (by simp; omega) _).setCell (by simp; omega) _, .inl ⟨by simp, rfl, rfl⟩⟩
  by_cases hsa : a = s
  · subst hsa
    have HV := Lib.hid hv
    have HA := Lib.hid hA
    have HBb := Lib.hid hB
    have HS := Lib.hid hS
    clear hv hA hB hS
    clear hbad hok
    go_enter Try.func32, Try.ntmps32
    go_wp2_with (first
      | (go_at_call 60; refine (gvalid_b (b := true) N _ n c es _ (by omega) H1.out HV.out).mono ?_; rintro e w1 ⟨rfl, hb1⟩; have F1 : Hid (GF w N A n c a b w1) := Lib.hid (G0.out.next hb1); obtain ⟨hz1, p0, p1, r0, r1, f0, f1, pa, pb⟩ := F1.out.facts; clear hb1)
      | (go_at_call 78; (with_reducible refine (has_b (b := true) N a _ HA.out).mono ?_); rintro e w2 ⟨rfl, rfl⟩)
      | (go_at_call 78; (with_reducible refine (has_b (b := true) N b _ HBb.out).mono ?_); rintro e w2 ⟨rfl, rfl⟩)
      | fail)
    have R1 := Lib.hid (H0.out.keep (Keeps.of_below F1.out.below (Nat.le_refl _)))
    have n0 := World.new_ne w1 _ p1
    have n1 := World.new_ne w1 _ pa
    have n2 := World.new_ne w1 _ pb
    go_region_held3 (fun w' => w'.cell? ⟨w.heap.size, 1, none⟩ = some (.slice A n c) ∧ w'.cell? ⟨w.heap.size + 1, 0, none⟩ = some (.int .i64 a) ∧ w'.cell? ⟨w.heap.size + 2, 0, none⟩ = some (.int .i64 b)) (go_keep)
      ((first
        | (go_at_call 64; refine (clone_n A n c es _ (R1.out.keep (Keeps.drew _)) (by omega)).mono ?_; rintro e w3 ⟨hb3, B3, c3, rfl, ho3⟩; have F3 : Hid (GF w N A n c a b w3) := Lib.hid (F1.out.next2 ((Below.refl _ _).drew.trans (hb3.mono (by simp; omega)))); obtain ⟨hz3, p0, p1, r0, r1, f0, f1, pa, pb⟩ := F3.out.facts; have n0 := World.new_ne w3 _ p1; have n1 := World.new_ne w3 _ pa; have n2 := World.new_ne w3 _ pb; have O3 : Hid (Own w3 (w.heap.size + 4) 42 2 B3 n c3 (prs es)) := Lib.hid (ho3.base_le (by simp; omega)); clear hb3 ho3)
        | (go_at_call 64; refine (clone_n A n c es _ (R1.out.keep ((Keeps.alloc w1 (.cells #[.int .i64 a, .int .i64 N, .int .i64 b, .int .i64 N] 42)).trans (Keeps.drew _))) (by omega)).mono ?_; rintro e w3 ⟨hb3, B3, c3, rfl, ho3⟩; have hz31 := hb3.size; simp at hz31; have F3 : Hid (GF w N A n c a b w3) := Lib.hid (F1.out.next2 ((((Below.refl _ _).alloc (by omega) _).drew).trans (hb3.mono (by simp; omega)))); obtain ⟨hz3, p0, p1, r0, r1, f0, f1, pa, pb⟩ := F3.out.facts; have n0 := World.new_ne w3 _ p1; have n1 := World.new_ne w3 _ pa; have n2 := World.new_ne w3 _ pb; have LIT : Hid (Rd w3 2 (some ⟨w1.heap.size, 0, none⟩) 2 (prs [(a, N), (b, N)])) := Lib.hid (((rd_lit2_at rfl [(a, N), (b, N)] _).keep (Keeps.drew _)).keep (Keeps.of_below hb3 (Nat.le_refl _))); have O3 : Hid (Own w3 (w.heap.size + 4) 42 2 B3 n c3 (prs es)) := Lib.hid (ho3.base_le (by simp; omega)); clear hb3 ho3)
        | (refine step_app _ rfl (.tmp 39) (.tmp 46) 22 rfl (w.heap.size + 4) 42 (.agg #[.int .i64 0, .int .i64 0]) 2 16 Try.underlying22 info_pair rfl (by decide) B3 n c3 (prs es) (by simp [Act.eval, Act.put]) O3.out (some ⟨w1.heap.size, 0, none⟩) 2 2 (prs [(a, N), (b, N)]) (by simp [Act.eval, Act.put]) LIT.out (prs_one _) (by omega) (by unfold maxLen; omega) (by omega) ?_; intro B4 c4 w4 ho4 hg4 hb4; have F4 : Hid (GF w N A n c a b w4) := Lib.hid (F3.out.next2 ((Below.refl _ _).grown hg4 (by omega) (fun b hb => (O3.out.lt hb).1))); obtain ⟨hz4, p0, p1, r0, r1, f0, f1, pa, pb⟩ := F4.out.facts; have n0 := World.new_ne w4 _ p1; have n1 := World.new_ne w4 _ pa; have n2 := World.new_ne w4 _ pb; have O4 : Hid (Own w4 (w.heap.size + 4) 42 2 B4 (n + 2) c4 (prs (es ++ [(a, N), (b, N)]))) := Lib.hid (by rw [prs_app]; exact ho4); clear ho4 hg4 hb4)
        | (refine step_app _ rfl (.tmp 39) (.tmp 46) 22 rfl (w.heap.size + 4) 42 (.agg #[.int .i64 0, .int .i64 0]) 2 16 Try.underlying22 info_pair rfl (by decide) B3 n c3 (prs es) (by simp [Act.eval, Act.put]) (O3.out.alloc _) (some ⟨w3.heap.size, 0, none⟩) 2 2 (prs [(a, N), (b, N)]) (by simp [Act.eval, Act.put]) (rd_lit2_at rfl [(a, N), (b, N)] _) (prs_one _) (by omega) (by unfold maxLen; omega) (by simp; omega) ?_; intro B4 c4 w4 ho4 hg4 hb4; have F4 : Hid (GF w N A n c a b w4) := Lib.hid (F3.out.next2 (((Below.refl _ _).alloc (by omega) _).grown hg4 (by simp; omega) (fun b hb => (O3.out.lt hb).1))); obtain ⟨hz4, p0, p1, r0, r1, f0, f1, pa, pb⟩ := F4.out.facts; have n0 := World.new_ne w4 _ p1; have n1 := World.new_ne w4 _ pa; have n2 := World.new_ne w4 _ pb; have O4 : Hid (Own w4 (w.heap.size + 4) 42 2 B4 (n + 2) c4 (prs (es ++ [(a, N), (b, N)]))) := Lib.hid (by rw [prs_app]; exact ho4); clear ho4 hg4 hb4)
        | fail))
    all_goals
     go_wp2_with (first
      | (go_at_call 78; (with_reducible refine (has_b (b := true) _ a _ HS.out).mono ?_); rintro e w2 ⟨rfl, rfl⟩)
      | fail)
     refine bodyPost_ret (v := .tuple #[.agg #[.int .i64 0, .slice none 0 0], .int .i64 1]) (by simp [results, Try.results32, go_sem, r0, r1]) rfl ?_
     rw [henn_bad2 HB2.out]
     exact ⟨(F4.out.below.setCell (by simp; omega) _).setCell (by simp; omega) _, .inl ⟨by simp, rfl, rfl⟩⟩
  by_cases hsb : b = s
  · subst hsb
    have hba : (b == a) = false := by simpa using fun h => hsa h.symm
    have HV := Lib.hid hv
    have HA := Lib.hid hA
    have HBb := Lib.hid hB
    have HS := Lib.hid hS
    clear hv hA hB hS
    clear hbad hok hsa
    go_enter Try.func32, Try.ntmps32
    go_wp2_with (first
      | (go_at_call 60; refine (gvalid_b (b := true) N _ n c es _ (by omega) H1.out HV.out).mono ?_; rintro e w1 ⟨rfl, hb1⟩; have F1 : Hid (GF w N A n c a b w1) := Lib.hid (G0.out.next hb1); obtain ⟨hz1, p0, p1, r0, r1, f0, f1, pa, pb⟩ := F1.out.facts; clear hb1)
      | (go_at_call 78; (with_reducible refine (has_b (b := true) N a _ HA.out).mono ?_); rintro e w2 ⟨rfl, rfl⟩)
      | (go_at_call 78; (with_reducible refine (has_b (b := true) N b _ HBb.out).mono ?_); rintro e w2 ⟨rfl, rfl⟩)
      | fail)
    have R1 := Lib.hid (H0.out.keep (Keeps.of_below F1.out.below (Nat.le_refl _)))
    have n0 := World.new_ne w1 _ p1
    have n1 := World.new_ne w1 _ pa
    have n2 := World.new_ne w1 _ pb
    go_region_held3 (fun w' => w'.cell? ⟨w.heap.size, 1, none⟩ = some (.slice A n c) ∧ w'.cell? ⟨w.heap.size + 1, 0, none⟩ = some (.int .i64 a) ∧ w'.cell? ⟨w.heap.size + 2, 0, none⟩ = some (.int .i64 b)) (go_keep)
      ((first
        | (go_at_call 64; refine (clone_n A n c es _ (R1.out.keep (Keeps.drew _)) (by omega)).mono ?_; rintro e w3 ⟨hb3, B3, c3, rfl, ho3⟩; have F3 : Hid (GF w N A n c a b w3) := Lib.hid (F1.out.next2 ((Below.refl _ _).drew.trans (hb3.mono (by simp; omega)))); obtain ⟨hz3, p0, p1, r0, r1, f0, f1, pa, pb⟩ := F3.out.facts; have n0 := World.new_ne w3 _ p1; have n1 := World.new_ne w3 _ pa; have n2 := World.new_ne w3 _ pb; have O3 : Hid (Own w3 (w.heap.size + 4) 42 2 B3 n c3 (prs es)) := Lib.hid (ho3.base_le (by simp; omega)); clear hb3 ho3)
        | (go_at_call 64; refine (clone_n A n c es _ (R1.out.keep ((Keeps.alloc w1 (.cells #[.int .i64 a, .int .i64 N, .int .i64 b, .int .i64 N] 42)).trans (Keeps.drew _))) (by omega)).mono ?_; rintro e w3 ⟨hb3, B3, c3, rfl, ho3⟩; have hz31 := hb3.size; simp at hz31; have F3 : Hid (GF w N A n c a b w3) := Lib.hid (F1.out.next2 ((((Below.refl _ _).alloc (by omega) _).drew).trans (hb3.mono (by simp; omega)))); obtain ⟨hz3, p0, p1, r0, r1, f0, f1, pa, pb⟩ := F3.out.facts; have n0 := World.new_ne w3 _ p1; have n1 := World.new_ne w3 _ pa; have n2 := World.new_ne w3 _ pb; have LIT : Hid (Rd w3 2 (some ⟨w1.heap.size, 0, none⟩) 2 (prs [(a, N), (b, N)])) := Lib.hid (((rd_lit2_at rfl [(a, N), (b, N)] _).keep (Keeps.drew _)).keep (Keeps.of_below hb3 (Nat.le_refl _))); have O3 : Hid (Own w3 (w.heap.size + 4) 42 2 B3 n c3 (prs es)) := Lib.hid (ho3.base_le (by simp; omega)); clear hb3 ho3)
        | (refine step_app _ rfl (.tmp 39) (.tmp 46) 22 rfl (w.heap.size + 4) 42 (.agg #[.int .i64 0, .int .i64 0]) 2 16 Try.underlying22 info_pair rfl (by decide) B3 n c3 (prs es) (by simp [Act.eval, Act.put]) O3.out (some ⟨w1.heap.size, 0, none⟩) 2 2 (prs [(a, N), (b, N)]) (by simp [Act.eval, Act.put]) LIT.out (prs_one _) (by omega) (by unfold maxLen; omega) (by omega) ?_; intro B4 c4 w4 ho4 hg4 hb4; have F4 : Hid (GF w N A n c a b w4) := Lib.hid (F3.out.next2 ((Below.refl _ _).grown hg4 (by omega) (fun b hb => (O3.out.lt hb).1))); obtain ⟨hz4, p0, p1, r0, r1, f0, f1, pa, pb⟩ := F4.out.facts; have n0 := World.new_ne w4 _ p1; have n1 := World.new_ne w4 _ pa; have n2 := World.new_ne w4 _ pb; have O4 : Hid (Own w4 (w.heap.size + 4) 42 2 B4 (n + 2) c4 (prs (es ++ [(a, N), (b, N)]))) := Lib.hid (by rw [prs_app]; exact ho4); clear ho4 hg4 hb4)
        | (refine step_app _ rfl (.tmp 39) (.tmp 46) 22 rfl (w.heap.size + 4) 42 (.agg #[.int .i64 0, .int .i64 0]) 2 16 Try.underlying22 info_pair rfl (by decide) B3 n c3 (prs es) (by simp [Act.eval, Act.put]) (O3.out.alloc _) (some ⟨w3.heap.size, 0, none⟩) 2 2 (prs [(a, N), (b, N)]) (by simp [Act.eval, Act.put]) (rd_lit2_at rfl [(a, N), (b, N)] _) (prs_one _) (by omega) (by unfold maxLen; omega) (by simp; omega) ?_; intro B4 c4 w4 ho4 hg4 hb4; have F4 : Hid (GF w N A n c a b w4) := Lib.hid (F3.out.next2 (((Below.refl _ _).alloc (by omega) _).grown hg4 (by simp; omega) (fun b hb => (O3.out.lt hb).1))); obtain ⟨hz4, p0, p1, r0, r1, f0, f1, pa, pb⟩ := F4.out.facts; have n0 := World.new_ne w4 _ p1; have n1 := World.new_ne w4 _ pa; have n2 := World.new_ne w4 _ pb; have O4 : Hid (Own w4 (w.heap.size + 4) 42 2 B4 (n + 2) c4 (prs (es ++ [(a, N), (b, N)]))) := Lib.hid (by rw [prs_app]; exact ho4); clear ho4 hg4 hb4)
        | fail))
    all_goals
     go_wp2_with (first
      | (go_at_call 78; (with_reducible refine (has_b (b := true) _ b _ HS.out).mono ?_); rintro e w2 ⟨rfl, rfl⟩)
      | fail)
     refine bodyPost_ret (v := .tuple #[.agg #[.int .i64 0, .slice none 0 0], .int .i64 1]) (by simp [results, Try.results32, go_sem, r0, r1]) rfl ?_
     rw [henn_bad2 HB2.out]
     exact ⟨(F4.out.below.setCell (by simp; omega) _).setCell (by simp; omega) _, .inl ⟨by simp, rfl, rfl⟩⟩
  have hsa' : (s == a) = false := by simpa using fun h : s = a => hsa h.symm
  have hsb' : (s == b) = false := by simpa using fun h : s = b => hsb h.symm
  have hH : hasE N es a b = false := by rw [hS, hsa', hsb'] at hbad; simpa using hbad
  have HV := Lib.hid hv
  have HA := Lib.hid hA
  have HBb := Lib.hid hB
  have HS := Lib.hid hS
  have HH := Lib.hid hH
  clear hv hA hB hS hH
  clear hbad hok hsa hsb
  go_enter Try.func32, Try.ntmps32
  go_wp2_with (first
    | (go_at_call 60; refine (gvalid_b (b := true) N _ n c es _ (by omega) H1.out HV.out).mono ?_; rintro e w1 ⟨rfl, hb1⟩; have F1 : Hid (GF w N A n c a b w1) := Lib.hid (G0.out.next hb1); obtain ⟨hz1, p0, p1, r0, r1, f0, f1, pa, pb⟩ := F1.out.facts; clear hb1)
    | (go_at_call 78; (with_reducible refine (has_b (b := true) N a _ HA.out).mono ?_); rintro e w2 ⟨rfl, rfl⟩)
    | (go_at_call 78; (with_reducible refine (has_b (b := true) N b _ HBb.out).mono ?_); rintro e w2 ⟨rfl, rfl⟩)
    | fail)
  have R1 := Lib.hid (H0.out.keep (Keeps.of_below F1.out.below (Nat.le_refl _)))
  have n0 := World.new_ne w1 _ p1
  have n1 := World.new_ne w1 _ pa
  have n2 := World.new_ne w1 _ pb
  go_region_held3 (fun w' => w'.cell? ⟨w.heap.size, 1, none⟩ = some (.slice A n c) ∧ w'.cell? ⟨w.heap.size + 1, 0, none⟩ = some (.int .i64 a) ∧ w'.cell? ⟨w.heap.size + 2, 0, none⟩ = some (.int .i64 b)) (go_keep)
    ((first
      | (go_at_call 64; refine (clone_n A n c es _ (R1.out.keep (Keeps.drew _)) (by omega)).mono ?_; rintro e w3 ⟨hb3, B3, c3, rfl, ho3⟩; have F3 : Hid (GF w N A n c a b w3) := Lib.hid (F1.out.next2 ((Below.refl _ _).drew.trans (hb3.mono (by simp; omega)))); obtain ⟨hz3, p0, p1, r0, r1, f0, f1, pa, pb⟩ := F3.out.facts; have n0 := World.new_ne w3 _ p1; have n1 := World.new_ne w3 _ pa; have n2 := World.new_ne w3 _ pb; have O3 : Hid (Own w3 (w.heap.size + 4) 42 2 B3 n c3 (prs es)) := Lib.hid (ho3.base_le (by simp; omega)); clear hb3 ho3)
      | (go_at_call 64; refine (clone_n A n c es _ (R1.out.keep ((Keeps.alloc w1 (.cells #[.int .i64 a, .int .i64 N, .int .i64 b, .int .i64 N] 42)).trans (Keeps.drew _))) (by omega)).mono ?_; rintro e w3 ⟨hb3, B3, c3, rfl, ho3⟩; have hz31 := hb3.size; simp at hz31; have F3 : Hid (GF w N A n c a b w3) := Lib.hid (F1.out.next2 ((((Below.refl _ _).alloc (by omega) _).drew).trans (hb3.mono (by simp; omega)))); obtain ⟨hz3, p0, p1, r0, r1, f0, f1, pa, pb⟩ := F3.out.facts; have n0 := World.new_ne w3 _ p1; have n1 := World.new_ne w3 _ pa; have n2 := World.new_ne w3 _ pb; have LIT : Hid (Rd w3 2 (some ⟨w1.heap.size, 0, none⟩) 2 (prs [(a, N), (b, N)])) := Lib.hid (((rd_lit2_at rfl [(a, N), (b, N)] _).keep (Keeps.drew _)).keep (Keeps.of_below hb3 (Nat.le_refl _))); have O3 : Hid (Own w3 (w.heap.size + 4) 42 2 B3 n c3 (prs es)) := Lib.hid (ho3.base_le (by simp; omega)); clear hb3 ho3)
      | (refine step_app _ rfl (.tmp 39) (.tmp 46) 22 rfl (w.heap.size + 4) 42 (.agg #[.int .i64 0, .int .i64 0]) 2 16 Try.underlying22 info_pair rfl (by decide) B3 n c3 (prs es) (by simp [Act.eval, Act.put]) O3.out (some ⟨w1.heap.size, 0, none⟩) 2 2 (prs [(a, N), (b, N)]) (by simp [Act.eval, Act.put]) LIT.out (prs_one _) (by omega) (by unfold maxLen; omega) (by omega) ?_; intro B4 c4 w4 ho4 hg4 hb4; have F4 : Hid (GF w N A n c a b w4) := Lib.hid (F3.out.next2 ((Below.refl _ _).grown hg4 (by omega) (fun b hb => (O3.out.lt hb).1))); obtain ⟨hz4, p0, p1, r0, r1, f0, f1, pa, pb⟩ := F4.out.facts; have n0 := World.new_ne w4 _ p1; have n1 := World.new_ne w4 _ pa; have n2 := World.new_ne w4 _ pb; have O4 : Hid (Own w4 (w.heap.size + 4) 42 2 B4 (n + 2) c4 (prs (es ++ [(a, N), (b, N)]))) := Lib.hid (by rw [prs_app]; exact ho4); clear ho4 hg4 hb4)
      | (refine step_app _ rfl (.tmp 39) (.tmp 46) 22 rfl (w.heap.size + 4) 42 (.agg #[.int .i64 0, .int .i64 0]) 2 16 Try.underlying22 info_pair rfl (by decide) B3 n c3 (prs es) (by simp [Act.eval, Act.put]) (O3.out.alloc _) (some ⟨w3.heap.size, 0, none⟩) 2 2 (prs [(a, N), (b, N)]) (by simp [Act.eval, Act.put]) (rd_lit2_at rfl [(a, N), (b, N)] _) (prs_one _) (by omega) (by unfold maxLen; omega) (by simp; omega) ?_; intro B4 c4 w4 ho4 hg4 hb4; have F4 : Hid (GF w N A n c a b w4) := Lib.hid (F3.out.next2 (((Below.refl _ _).alloc (by omega) _).grown hg4 (by simp; omega) (fun b hb => (O3.out.lt hb).1))); obtain ⟨hz4, p0, p1, r0, r1, f0, f1, pa, pb⟩ := F4.out.facts; have n0 := World.new_ne w4 _ p1; have n1 := World.new_ne w4 _ pa; have n2 := World.new_ne w4 _ pb; have O4 : Hid (Own w4 (w.heap.size + 4) 42 2 B4 (n + 2) c4 (prs (es ++ [(a, N), (b, N)]))) := Lib.hid (by rw [prs_app]; exact ho4); clear ho4 hg4 hb4)
      | fail))
  all_goals
   go_wp2_with (first
    | (go_at_call 78; (with_reducible refine (has_b (b := true) _ s _ HS.out).mono ?_); rintro e w2 ⟨rfl, rfl⟩)
    | (go_at_call 83; (with_reducible refine (ghas_b (r := false) N A n c es a b _ (by omega) (H0.out.keep (Keeps.of_below F4.out.below (Nat.le_refl _))) HH.out).mono ?_); rintro e w5 ⟨rfl, hb5⟩; have F5 : Hid (GF w N A n c a b w5) := Lib.hid (F4.out.next hb5); obtain ⟨hz5, p0, p1, r0, r1, f0, f1, pa, pb⟩ := F5.out.facts; have O5 := Lib.hid (O4.out.later hb5); clear hb5)
    | fail)
   refine bodyPost_ret (v := .tuple #[.agg #[.int .i64 0, .slice none 0 0], .int .i64 1]) (by simp [results, Try.results32, go_sem, r0, r1]) rfl ?_
   rw [henn_bad2 HB2.out]
   exact ⟨(F5.out.below.setCell (by simp; omega) _).setCell (by simp; omega) _, .inl ⟨by simp, rfl, rfl⟩⟩
end Go.Proofs.Ytagcaljpgifppaa
