/-
  Contracts and lemmas for the statement, joined: H3, H4, H5.
-/
import Derived.Test.YtpdbekgkopglgaaGreatJ26
namespace Go.Proofs.YtpdbekgkopglgaaGreat
set_option linter.unusedVariables false
set_option linter.unusedSimpArgs false
open Go.RowKit Go.Sort
attribute [local go_sem ↓] Go.wp_at_zero Go.wp_at_succ

set_option maxRecDepth 100000 in
set_option maxHeartbeats 16000000 in
theorem ghenn_pos (N : Int) (A : Option Addr) (n c : Nat) (es : List (Int × Int)) (a b s : Int) (w : World) (hn : n ≤ 900) (he : Rd w 2 A n (prs es)) (hok : hennBad1 N es a b = false) (hok2 : hennBad2 N es a b s = false) (h60 : ¬ N = 60) (hs : 0 ≤ s) :
    Calls Tryz.prog 11 #[.agg #[.int .i64 N, .slice A n c], .int .i64 a, .int .i64 b, .int .i64 s] w (HPost w N (hennE N es a b s)) := by
  have HE := Lib.hid he.prs_len
  have H0 := Lib.hid he
  have G0 : Hid (GF w N A n c a b (W4 w N A n c a b)) := Lib.hid GF.start
  have H1 := Lib.hid (he.keep (Keeps.of_below G0.out.below (Nat.le_refl _)))
  unfold W4 at H1
  clear he
  have hN0 := (validB_iff N es).1 (not_bad1 hok).1
  obtain ⟨hNa, hNb, -⟩ := hN0
  have hAN : a < N := by have := (not_bad1 hok).2.1; unfold hasB at this; simp at this; omega
  have hBN : b < N := by have := (not_bad1 hok).2.2.1; unfold hasB at this; simp at this; omega
  have MKL : Hid (mkE (N + 1) (delL a b (es ++ [(a, N), (b, N)]) ++ [(s, N)]) = some (mkL (N + 1).toNat (hennL N es a b s))) := Lib.hid (mkE_same (mem_pos hs (ends_of (not_bad1 hok).1) hAN hBN) (henn_mk hok hok2 h60))
  have HOK := Lib.hid (henn_ok hok hok2 h60)
  have hdl : (delL a b (es ++ [(a, N), (b, N)])).length ≤ n + 2 := by
    refine Nat.le_trans (List.length_filter_le _ _) ?_
    rw [List.length_append, HE.out]; simp
  obtain ⟨hv, hA, hB, hab⟩ := not_bad1 hok
  have h60' : (N == 60) = false := by simpa using h60
  unfold hennBad2 at hok2
  rw [decide_eq_true hs, Bool.true_and] at hok2
  simp only [Bool.or_eq_false_iff, Bool.not_eq_false'] at hok2
  obtain ⟨⟨⟨hS', hsa⟩, hsb⟩, hH⟩ := hok2
  have hd0 : decide (0 ≤ s) = true := by simpa using hs
  have HV := Lib.hid hv
  have HA := Lib.hid hA
  have HBb := Lib.hid hB
  have HS := Lib.hid hS'
  have HH := Lib.hid hH
  clear hv hA hB hS' hH
  clear hok h60
  go_enter Tryz.func11, Tryz.ntmps11
  go_wp2_with (first
    | (go_at_call 29; refine (gvalid_b (b := true) N _ n c es _ (by omega) H1.out HV.out).mono ?_; rintro e w1 ⟨rfl, hb1⟩; have F1 : Hid (GF w N A n c a b w1) := Lib.hid (G0.out.next hb1); obtain ⟨hz1, p0, p1, r0, r1, f0, f1, pa, pb⟩ := F1.out.facts; clear hb1)
    | (go_at_call 24; (with_reducible refine (has_b (b := true) N a _ HA.out).mono ?_); rintro e w2 ⟨rfl, rfl⟩)
    | (go_at_call 24; (with_reducible refine (has_b (b := true) N b _ HBb.out).mono ?_); rintro e w2 ⟨rfl, rfl⟩)
    | fail)
  have R1 := Lib.hid (H0.out.keep (Keeps.of_below F1.out.below (Nat.le_refl _)))
  have n0 := World.new_ne w1 _ p1
  have n1 := World.new_ne w1 _ pa
  have n2 := World.new_ne w1 _ pb
  go_region_held3 (fun w' => w'.cell? ⟨w.heap.size, 1, none⟩ = some (.slice A n c) ∧ w'.cell? ⟨w.heap.size + 1, 0, none⟩ = some (.int .i64 a) ∧ w'.cell? ⟨w.heap.size + 2, 0, none⟩ = some (.int .i64 b)) (go_keep)
    ((first
      | (go_at_call 30; refine (clone_n A n c es _ (R1.out.keep (Keeps.drew _)) (by omega)).mono ?_; rintro e w3 ⟨hb3, B3, c3, rfl, ho3⟩; have F3 : Hid (GF w N A n c a b w3) := Lib.hid (F1.out.next2 ((Below.refl _ _).drew.trans (hb3.mono (by simp; omega)))); obtain ⟨hz3, p0, p1, r0, r1, f0, f1, pa, pb⟩ := F3.out.facts; have n0 := World.new_ne w3 _ p1; have n1 := World.new_ne w3 _ pa; have n2 := World.new_ne w3 _ pb; have O3 : Hid (Own w3 (w.heap.size + 4) 41 2 B3 n c3 (prs es)) := Lib.hid (ho3.base_le (by simp; omega)); clear hb3 ho3)
      | (go_at_call 30; refine (clone_n A n c es _ (R1.out.keep ((Keeps.alloc w1 (.cells #[.int .i64 a, .int .i64 N, .int .i64 b, .int .i64 N] 41)).trans (Keeps.drew _))) (by omega)).mono ?_; rintro e w3 ⟨hb3, B3, c3, rfl, ho3⟩; have hz31 := hb3.size; simp at hz31; have F3 : Hid (GF w N A n c a b w3) := Lib.hid (F1.out.next2 ((((Below.refl _ _).alloc (by omega) _).drew).trans (hb3.mono (by simp; omega)))); obtain ⟨hz3, p0, p1, r0, r1, f0, f1, pa, pb⟩ := F3.out.facts; have n0 := World.new_ne w3 _ p1; have n1 := World.new_ne w3 _ pa; have n2 := World.new_ne w3 _ pb; have LIT : Hid (Rd w3 2 (some ⟨w1.heap.size, 0, none⟩) 2 (prs [(a, N), (b, N)])) := Lib.hid (((rd_lit2_at rfl [(a, N), (b, N)] _).keep (Keeps.drew _)).keep (Keeps.of_below hb3 (Nat.le_refl _))); have O3 : Hid (Own w3 (w.heap.size + 4) 41 2 B3 n c3 (prs es)) := Lib.hid (ho3.base_le (by simp; omega)); clear hb3 ho3)
      | (refine step_app _ rfl (.tmp 39) (.tmp 46) 35 rfl (w.heap.size + 4) 41 (.agg #[.int .i64 0, .int .i64 0]) 2 16 Tryz.underlying35 info_pair rfl (by decide) B3 n c3 (prs es) (by simp [Act.eval, Act.put]) O3.out (some ⟨w1.heap.size, 0, none⟩) 2 2 (prs [(a, N), (b, N)]) (by simp [Act.eval, Act.put]) LIT.out (prs_one _) (by omega) (by unfold maxLen; omega) (by omega) ?_; intro B4 c4 w4 ho4 hg4 hb4; have F4 : Hid (GF w N A n c a b w4) := Lib.hid (F3.out.next2 ((Below.refl _ _).grown hg4 (by omega) (fun b hb => (O3.out.lt hb).1))); obtain ⟨hz4, p0, p1, r0, r1, f0, f1, pa, pb⟩ := F4.out.facts; have n0 := World.new_ne w4 _ p1; have n1 := World.new_ne w4 _ pa; have n2 := World.new_ne w4 _ pb; have O4 : Hid (Own w4 (w.heap.size + 4) 41 2 B4 (n + 2) c4 (prs (es ++ [(a, N), (b, N)]))) := Lib.hid (by rw [prs_app]; exact ho4); clear ho4 hg4 hb4)
      | (refine step_app _ rfl (.tmp 39) (.tmp 46) 35 rfl (w.heap.size + 4) 41 (.agg #[.int .i64 0, .int .i64 0]) 2 16 Tryz.underlying35 info_pair rfl (by decide) B3 n c3 (prs es) (by simp [Act.eval, Act.put]) (O3.out.alloc _) (some ⟨w3.heap.size, 0, none⟩) 2 2 (prs [(a, N), (b, N)]) (by simp [Act.eval, Act.put]) (rd_lit2_at rfl [(a, N), (b, N)] _) (prs_one _) (by omega) (by unfold maxLen; omega) (by simp; omega) ?_; intro B4 c4 w4 ho4 hg4 hb4; have F4 : Hid (GF w N A n c a b w4) := Lib.hid (F3.out.next2 (((Below.refl _ _).alloc (by omega) _).grown hg4 (by simp; omega) (fun b hb => (O3.out.lt hb).1))); obtain ⟨hz4, p0, p1, r0, r1, f0, f1, pa, pb⟩ := F4.out.facts; have n0 := World.new_ne w4 _ p1; have n1 := World.new_ne w4 _ pa; have n2 := World.new_ne w4 _ pb; have O4 : Hid (Own w4 (w.heap.size + 4) 41 2 B4 (n + 2) c4 (prs (es ++ [(a, N), (b, N)]))) := Lib.hid (by rw [prs_app]; exact ho4); clear ho4 hg4 hb4)
      | fail))
  all_goals
   go_wp2_with (first
    | (go_at_call 24; (with_reducible refine (has_b (b := true) _ s _ HS.out).mono ?_); rintro e w2 ⟨rfl, rfl⟩)
    | (go_at_call 31; (with_reducible refine (ghas_b (r := true) N A n c es a b _ (by omega) (H0.out.keep (Keeps.of_below F4.out.below (Nat.le_refl _))) HH.out).mono ?_); rintro e w5 ⟨rfl, hb5⟩; have F5 : Hid (GF w N A n c a b w5) := Lib.hid (F4.out.next hb5); obtain ⟨hz5, p0, p1, r0, r1, f0, f1, pa, pb⟩ := F5.out.facts; have O5 := Lib.hid (O4.out.later hb5); clear hb5)
    | (go_at_call 32; refine (delf_own B4 (n + 2) c4 (es ++ [(a, N), (b, N)]) _ (w.heap.size + 4) a b ⟨w.heap.size + 1, 0, none⟩ ⟨w.heap.size + 2, 0, none⟩ O5.out (by omega) ⟨by simp, by simp, pa, pb⟩ hz5).mono ?_; rintro e w6 ⟨rfl, ho6, hg6⟩; have F6 : Hid (GF w N A n c a b w6) := Lib.hid (F5.out.next2 ((Below.refl _ _).grown hg6 hz5 (fun b hb => (O5.out.lt hb).1))); obtain ⟨hz6, p0, p1, r0, r1, f0, f1, pa, pb⟩ := F6.out.facts; have O6 := Lib.hid ho6; clear ho6 hg6)
    | (at_builtin; refine wpList_app _ rfl (.tmp 75) (.tmp 79) 35 rfl (w.heap.size + 4) 41 (.agg #[.int .i64 0, .int .i64 0]) 2 16 Tryz.underlying35 info_pair rfl (by decide) B4 (delL a b (es ++ [(a, N), (b, N)])).length c4 (prs (delL a b (es ++ [(a, N), (b, N)]))) rfl (O6.out.alloc _) (some ⟨w6.heap.size, 0, none⟩) 1 1 (prs [(s, N)]) rfl (rd_lit2_at rfl [(s, N)] _) (prs_one _) (by omega) (by unfold maxLen; omega) (by simp; omega) ?_; intro B7 c7 w7 ho7 hg7 hb7; have F7 : Hid (GF w N A n c a b w7) := Lib.hid (F6.out.next2 (((Below.refl _ _).alloc (by omega) _).grown hg7 (by simp; omega) (fun b hb => (O6.out.lt hb).1))); obtain ⟨hz7, p0, p1, r0, r1, f0, f1, pa, pb⟩ := F7.out.facts; have O7 : Hid (Own w7 (w.heap.size + 4) 41 2 B7 ((delL a b (es ++ [(a, N), (b, N)])).length + 1) c7 (prs ((delL a b (es ++ [(a, N), (b, N)])) ++ [(s, N)]))) := Lib.hid (by rw [prs_app]; exact ho7); clear ho7 hg7 hb7)
    | (go_at_call 10; refine (gmake_any (N + 1) B7 ((delL a b (es ++ [(a, N), (b, N)])).length + 1) c7 ((delL a b (es ++ [(a, N), (b, N)])) ++ [(s, N)]) _ (by omega) O7.out.rd).mono ?_; rintro e w8 hpost; rw [MKL.out] at hpost; obtain ⟨hb8, B8, c8, rfl, ho8⟩ := hpost; have F8 : Hid (GF w N A n c a b w8) := Lib.hid (F7.out.next hb8); obtain ⟨hz8, p0, p1, r0, r1, f0, f1, pa, pb⟩ := F8.out.facts; have O8 := Lib.hid ho8; clear hb8 ho8)
    | fail)
   rw [HOK.out]
   refine bodyPost_ret (v := .tuple #[.agg #[.int .i64 (N + 1), .slice B8 (mkL (N + 1).toNat (hennL N es a b s)).length c8], .int .i64 0]) (by simp [results, Tryz.results11, go_sem, r0, r1]) rfl ⟨(F8.out.below.setCell (by simp; omega) _).setCell (by simp; omega) _, .inr ⟨rfl, B8, c8, rfl, ?_⟩⟩
   exact ((O8.out.setOther (by simp; omega) _).setOther (by simp; omega) _).rd
end Go.Proofs.YtpdbekgkopglgaaGreat
namespace Go.Proofs.YtpdbekgkopglgaaGreat
set_option linter.unusedVariables false
set_option linter.unusedSimpArgs false
open Go.RowKit Go.Sort
attribute [local go_sem ↓] Go.wp_at_zero Go.wp_at_succ

set_option maxRecDepth 100000 in
set_option maxHeartbeats 16000000 in
theorem ghenn_bad2 (N : Int) (A : Option Addr) (n c : Nat) (es : List (Int × Int)) (a b s : Int) (w : World) (hn : n ≤ 900) (he : Rd w 2 A n (prs es)) (hok : hennBad1 N es a b = false) (hbad : hennBad2 N es a b s = true) :
    Calls Tryz.prog 11 #[.agg #[.int .i64 N, .slice A n c], .int .i64 a, .int .i64 b, .int .i64 s] w (HPost w N (hennE N es a b s)) := by
  have HE := Lib.hid he.prs_len
  have H0 := Lib.hid he
  have G0 : Hid (GF w N A n c a b (W4 w N A n c a b)) := Lib.hid GF.start
  have H1 := Lib.hid (he.keep (Keeps.of_below G0.out.below (Nat.le_refl _)))
  unfold W4 at H1
  clear he
  have hN0 := (validB_iff N es).1 (not_bad1 hok).1
  obtain ⟨hNa, hNb, -⟩ := hN0
  have HB2 := Lib.hid hbad
  obtain ⟨hv, hA, hB, hab⟩ := not_bad1 hok
  unfold hennBad2 at hbad
  rw [Bool.and_eq_true, decide_eq_true_eq] at hbad
  obtain ⟨hs0, hbad⟩ := hbad
  have hd0 : decide (0 ≤ s) = true := by simpa using hs0
  cases hS : hasB N s
  · have HV := Lib.hid hv
    have HA := Lib.hid hA
    have HBb := Lib.hid hB
    have HS := Lib.hid hS
    clear hv hA hB hS
    clear hbad hok
    go_enter Tryz.func11, Tryz.ntmps11
    go_wp2_with (first
      | (go_at_call 29; refine (gvalid_b (b := true) N _ n c es _ (by omega) H1.out HV.out).mono ?_; rintro e w1 ⟨rfl, hb1⟩; have F1 : Hid (GF w N A n c a b w1) := Lib.hid (G0.out.next hb1); obtain ⟨hz1, p0, p1, r0, r1, f0, f1, pa, pb⟩ := F1.out.facts; clear hb1)
      | (go_at_call 24; (with_reducible refine (has_b (b := true) N a _ HA.out).mono ?_); rintro e w2 ⟨rfl, rfl⟩)
      | (go_at_call 24; (with_reducible refine (has_b (b := true) N b _ HBb.out).mono ?_); rintro e w2 ⟨rfl, rfl⟩)
      | fail)
    have R1 := Lib.hid (H0.out.keep (Keeps.of_below F1.out.below (Nat.le_refl _)))
    have n0 := World.new_ne w1 _ p1
    have n1 := World.new_ne w1 _ pa
    have n2 := World.new_ne w1 _ pb
    go_region_held3 (fun w' => w'.cell? ⟨w.heap.size, 1, none⟩ = some (.slice A n c) ∧ w'.cell? ⟨w.heap.size + 1, 0, none⟩ = some (.int .i64 a) ∧ w'.cell? ⟨w.heap.size + 2, 0, none⟩ = some (.int .i64 b)) (go_keep)
      ((first
        | (go_at_call 30; refine (clone_n A n c es _ (R1.out.keep (Keeps.drew _)) (by omega)).mono ?_; rintro e w3 ⟨hb3, B3, c3, rfl, ho3⟩; have F3 : Hid (GF w N A n c a b w3) := Lib.hid (F1.out.next2 ((Below.refl _ _).drew.trans (hb3.mono (by simp; omega)))); obtain ⟨hz3, p0, p1, r0, r1, f0, f1, pa, pb⟩ := F3.out.facts; have n0 := World.new_ne w3 _ p1; have n1 := World.new_ne w3 _ pa; have n2 := World.new_ne w3 _ pb; have O3 : Hid (Own w3 (w.heap.size + 4) 41 2 B3 n c3 (prs es)) := Lib.hid (ho3.base_le (by simp; omega)); clear hb3 ho3)
        | (go_at_call 30; refine (clone_n A n c es _ (R1.out.keep ((Keeps.alloc w1 (.cells #[.int .i64 a, .int .i64 N, .int .i64 b, .int .i64 N] 41)).trans (Keeps.drew _))) (by omega)).mono ?_; rintro e w3 ⟨hb3, B3, c3, rfl, ho3⟩; have hz31 := hb3.size; simp at hz31; have F3 : Hid (GF w N A n c a b w3) := Lib.hid (F1.out.next2 ((((Below.refl _ _).alloc (by omega) _).drew).trans (hb3.mono (by simp; omega)))); obtain ⟨hz3, p0, p1, r0, r1, f0, f1, pa, pb⟩ := F3.out.facts; have n0 := World.new_ne w3 _ p1; have n1 := World.new_ne w3 _ pa; have n2 := World.new_ne w3 _ pb; have LIT : Hid (Rd w3 2 (some ⟨w1.heap.size, 0, none⟩) 2 (prs [(a, N), (b, N)])) := Lib.hid (((rd_lit2_at rfl [(a, N), (b, N)] _).keep (Keeps.drew _)).keep (Keeps.of_below hb3 (Nat.le_refl _))); have O3 : Hid (Own w3 (w.heap.size + 4) 41 2 B3 n c3 (prs es)) := Lib.hid (ho3.base_le (by simp; omega)); clear hb3 ho3)
        | (refine step_app _ rfl (.tmp 39) (.tmp 46) 35 rfl (w.heap.size + 4) 41 (.agg #[.int .i64 0, .int .i64 0]) 2 16 Tryz.underlying35 info_pair rfl (by decide) B3 n c3 (prs es) (by simp [Act.eval, Act.put]) O3.out (some ⟨w1.heap.size, 0, none⟩) 2 2 (prs [(a, N), (b, N)]) (by simp [Act.eval, Act.put]) LIT.out (prs_one _) (by omega) (by unfold maxLen; omega) (by omega) ?_; intro B4 c4 w4 ho4 hg4 hb4; have F4 : Hid (GF w N A n c a b w4) := Lib.hid (F3.out.next2 ((Below.refl _ _).grown hg4 (by omega) (fun b hb => (O3.out.lt hb).1))); obtain ⟨hz4, p0, p1, r0, r1, f0, f1, pa, pb⟩ := F4.out.facts; have n0 := World.new_ne w4 _ p1; have n1 := World.new_ne w4 _ pa; have n2 := World.new_ne w4 _ pb; have O4 : Hid (Own w4 (w.heap.size + 4) 41 2 B4 (n + 2) c4 (prs (es ++ [(a, N), (b, N)]))) := Lib.hid (by rw [prs_app]; exact ho4); clear ho4 hg4 hb4)
        | (refine step_app _ rfl (.tmp 39) (.tmp 46) 35 rfl (w.heap.size + 4) 41 (.agg #[.int .i64 0, .int .i64 0]) 2 16 Tryz.underlying35 info_pair rfl (by decide) B3 n c3 (prs es) (by simp [Act.eval, Act.put]) (O3.out.alloc _) (some ⟨w3.heap.size, 0, none⟩) 2 2 (prs [(a, N), (b, N)]) (by simp [Act.eval, Act.put]) (rd_lit2_at rfl [(a, N), (b, N)] _) (prs_one _) (by omega) (by unfold maxLen; omega) (by simp; omega) ?_; intro B4 c4 w4 ho4 hg4 hb4; have F4 : Hid (GF w N A n c a b w4) := Lib.hid (F3.out.next2 (((Below.refl _ _).alloc (by omega) _).grown hg4 (by simp; omega) (fun b hb => (O3.out.lt hb).1))); obtain ⟨hz4, p0, p1, r0, r1, f0, f1, pa, pb⟩ := F4.out.facts; have n0 := World.new_ne w4 _ p1; have n1 := World.new_ne w4 _ pa; have n2 := World.new_ne w4 _ pb; have O4 : Hid (Own w4 (w.heap.size + 4) 41 2 B4 (n + 2) c4 (prs (es ++ [(a, N), (b, N)]))) := Lib.hid (by rw [prs_app]; exact ho4); clear ho4 hg4 hb4)
        | fail))
    all_goals
     go_wp2_with (first
      | (go_at_call 24; (with_reducible refine (has_b (b := false) _ s _ HS.out).mono ?_); rintro e w2 ⟨rfl, rfl⟩)
      | fail)
     refine bodyPost_ret (v := .tuple #[.agg #[.int .i64 0, .slice none 0 0], .int .i64 1]) (by simp [results, Tryz.results11, go_sem, r0, r1]) rfl ?_
     rw [henn_bad2 HB2.out]
     exact ⟨(F4.out.below.setCell (by simp; omega) _).setCell (by simp; omega) _, .inl ⟨by simp, rfl, rfl⟩⟩
  by_cases hsa : a = s
  · subst hsa
    have HV := Lib.hid hv
    have HA := Lib.hid hA
    have HBb := Lib.hid hB
    have HS := Lib.hid hS
    clear hv hA hB hS
    clear hbad hok
    go_enter Tryz.func11, Tryz.ntmps11
    go_wp2_with (first
      | (go_at_call 29; refine (gvalid_b (b := true) N _ n c es _ (by omega) H1.out HV.out).mono ?_; rintro e w1 ⟨rfl, hb1⟩; have F1 : Hid (GF w N A n c a b w1) := Lib.hid (G0.out.next hb1); obtain ⟨hz1, p0, p1, r0, r1, f0, f1, pa, pb⟩ := F1.out.facts; clear hb1)
      | (go_at_call 24; (with_reducible refine (has_b (b := true) N a _ HA.out).mono ?_); rintro e w2 ⟨rfl, rfl⟩)
      | (go_at_call 24; (with_reducible refine (has_b (b := true) N b _ HBb.out).mono ?_); rintro e w2 ⟨rfl, rfl⟩)
      | fail)
    have R1 := Lib.hid (H0.out.keep (Keeps.of_below F1.out.below (Nat.le_refl _)))
    have n0 := World.new_ne w1 _ p1
    have n1 := World.new_ne w1 _ pa
    have n2 := World.new_ne w1 _ pb
    go_region_held3 (fun w' => w'.cell? ⟨w.heap.size, 1, none⟩ = some (.slice A n c) ∧ w'.cell? ⟨w.heap.size + 1, 0, none⟩ = some (.int .i64 a) ∧ w'.cell? ⟨w.heap.size + 2, 0, none⟩ = some (.int .i64 b)) (go_keep)
      ((first
        | (go_at_call 30; refine (clone_n A n c es _ (R1.out.keep (Keeps.drew _)) (by omega)).mono ?_; rintro e w3 ⟨hb3, B3, c3, rfl, ho3⟩; have F3 : Hid (GF w N A n c a b w3) := Lib.hid (F1.out.next2 ((Below.refl _ _).drew.trans (hb3.mono (by simp; omega)))); obtain ⟨hz3, p0, p1, r0, r1, f0, f1, pa, pb⟩ := F3.out.facts; have n0 := World.new_ne w3 _ p1; have n1 := World.new_ne w3 _ pa; have n2 := World.new_ne w3 _ pb; have O3 : Hid (Own w3 (w.heap.size + 4) 41 2 B3 n c3 (prs es)) := Lib.hid (ho3.base_le (by simp; omega)); clear hb3 ho3)
        | (go_at_call 30; refine (clone_n A n c es _ (R1.out.keep ((Keeps.alloc w1 (.cells #[.int .i64 a, .int .i64 N, .int .i64 b, .int .i64 N] 41)).trans (Keeps.drew _))) (by omega)).mono ?_; rintro e w3 ⟨hb3, B3, c3, rfl, ho3⟩; have hz31 := hb3.size; simp at hz31; have F3 : Hid (GF w N A n c a b w3) := Lib.hid (F1.out.next2 ((((Below.refl _ _).alloc (by omega) _).drew).trans (hb3.mono (by simp; omega)))); obtain ⟨hz3, p0, p1, r0, r1, f0, f1, pa, pb⟩ := F3.out.facts; have n0 := World.new_ne w3 _ p1; have n1 := World.new_ne w3 _ pa; have n2 := World.new_ne w3 _ pb; have LIT : Hid (Rd w3 2 (some ⟨w1.heap.size, 0, none⟩) 2 (prs [(a, N), (b, N)])) := Lib.hid (((rd_lit2_at rfl [(a, N), (b, N)] _).keep (Keeps.drew _)).keep (Keeps.of_below hb3 (Nat.le_refl _))); have O3 : Hid (Own w3 (w.heap.size + 4) 41 2 B3 n c3 (prs es)) := Lib.hid (ho3.base_le (by simp; omega)); clear hb3 ho3)
        | (refine step_app _ rfl (.tmp 39) (.tmp 46) 35 rfl (w.heap.size + 4) 41 (.agg #[.int .i64 0, .int .i64 0]) 2 16 Tryz.underlying35 info_pair rfl (by decide) B3 n c3 (prs es) (by simp [Act.eval, Act.put]) O3.out (some ⟨w1.heap.size, 0, none⟩) 2 2 (prs [(a, N), (b, N)]) (by simp [Act.eval, Act.put]) LIT.out (prs_one _) (by omega) (by unfold maxLen; omega) (by omega) ?_; intro B4 c4 w4 ho4 hg4 hb4; have F4 : Hid (GF w N A n c a b w4) := Lib.hid (F3.out.next2 ((Below.refl _ _).grown hg4 (by omega) (fun b hb => (O3.out.lt hb).1))); obtain ⟨hz4, p0, p1, r0, r1, f0, f1, pa, pb⟩ := F4.out.facts; have n0 := World.new_ne w4 _ p1; have n1 := World.new_ne w4 _ pa; have n2 := World.new_ne w4 _ pb; have O4 : Hid (Own w4 (w.heap.size + 4) 41 2 B4 (n + 2) c4 (prs (es ++ [(a, N), (b, N)]))) := Lib.hid (by rw [prs_app]; exact ho4); clear ho4 hg4 hb4)
        | (refine step_app _ rfl (.tmp 39) (.tmp 46) 35 rfl (w.heap.size + 4) 41 (.agg #[.int .i64 0, .int .i64 0]) 2 16 Tryz.underlying35 info_pair rfl (by decide) B3 n c3 (prs es) (by simp [Act.eval, Act.put]) (O3.out.alloc _) (some ⟨w3.heap.size, 0, none⟩) 2 2 (prs [(a, N), (b, N)]) (by simp [Act.eval, Act.put]) (rd_lit2_at rfl [(a, N), (b, N)] _) (prs_one _) (by omega) (by unfold maxLen; omega) (by simp; omega) ?_; intro B4 c4 w4 ho4 hg4 hb4; have F4 : Hid (GF w N A n c a b w4) := Lib.hid (F3.out.next2 (((Below.refl _ _).alloc (by omega) _).grown hg4 (by simp; omega) (fun b hb => (O3.out.lt hb).1))); obtain ⟨hz4, p0, p1, r0, r1, f0, f1, pa, pb⟩ := F4.out.facts; have n0 := World.new_ne w4 _ p1; have n1 := World.new_ne w4 _ pa; have n2 := World.new_ne w4 _ pb; have O4 : Hid (Own w4 (w.heap.size + 4) 41 2 B4 (n + 2) c4 (prs (es ++ [(a, N), (b, N)]))) := Lib.hid (by rw [prs_app]; exact ho4); clear ho4 hg4 hb4)
        | fail))
    all_goals
     go_wp2_with (first
      | (go_at_call 24; (with_reducible refine (has_b (b := true) _ a _ HS.out).mono ?_); rintro e w2 ⟨rfl, rfl⟩)
      | fail)
     refine bodyPost_ret (v := .tuple #[.agg #[.int .i64 0, .slice none 0 0], .int .i64 1]) (by simp [results, Tryz.results11, go_sem, r0, r1]) rfl ?_
     rw [henn_bad2 HB2.out]
     exact ⟨(F4.out.below.setCell (by simp; omega) _).setCell (by simp; omega) _, .inl ⟨by simp, rfl, rfl⟩⟩
  by_cases hsb : b = s
  · subst hsb
    have hba : (b == a) = false := by simpa using fun h => hsa h.symm
    have HV := Lib.hid hv
    have HA := Lib.hid hA
    have HBb := Lib.hid hB
    have HS := Lib.hid hS
    clear hv hA hB hS
    clear hbad hok hsa
    go_enter Tryz.func11, Tryz.ntmps11
    go_wp2_with (first
      | (go_at_call 29; refine (gvalid_b (b := true) N _ n c es _ (by omega) H1.out HV.out).mono ?_; rintro e w1 ⟨rfl, hb1⟩; have F1 : Hid (GF w N A n c a b w1) := Lib.hid (G0.out.next hb1); obtain ⟨hz1, p0, p1, r0, r1, f0, f1, pa, pb⟩ := F1.out.facts; clear hb1)
      | (go_at_call 24; (with_reducible refine (has_b (b := true) N a _ HA.out).mono ?_); rintro e w2 ⟨rfl, rfl⟩)
      | (go_at_call 24; (with_reducible refine (has_b (b := true) N b _ HBb.out).mono ?_); rintro e w2 ⟨rfl, rfl⟩)
      | fail)
    have R1 := Lib.hid (H0.out.keep (Keeps.of_below F1.out.below (Nat.le_refl _)))
    have n0 := World.new_ne w1 _ p1
    have n1 := World.new_ne w1 _ pa
    have n2 := World.new_ne w1 _ pb
    go_region_held3 (fun w' => w'.cell? ⟨w.heap.size, 1, none⟩ = some (.slice A n c) ∧ w'.cell? ⟨w.heap.size + 1, 0, none⟩ = some (.int .i64 a) ∧ w'.cell? ⟨w.heap.size + 2, 0, none⟩ = some (.int .i64 b)) (go_keep)
      ((first
        | (go_at_call 30; refine (clone_n A n c es _ (R1.out.keep (Keeps.drew _)) (by omega)).mono ?_; rintro e w3 ⟨hb3, B3, c3, rfl, ho3⟩; have F3 : Hid (GF w N A n c a b w3) := Lib.hid (F1.out.next2 ((Below.refl _ _).drew.trans (hb3.mono (by simp; omega)))); obtain ⟨hz3, p0, p1, r0, r1, f0, f1, pa, pb⟩ := F3.out.facts; have n0 := World.new_ne w3 _ p1; have n1 := World.new_ne w3 _ pa; have n2 := World.new_ne w3 _ pb; have O3 : Hid (Own w3 (w.heap.size + 4) 41 2 B3 n c3 (prs es)) := Lib.hid (ho3.base_le (by simp; omega)); clear hb3 ho3)
        | (go_at_call 30; refine (clone_n A n c es _ (R1.out.keep ((Keeps.alloc w1 (.cells #[.int .i64 a, .int .i64 N, .int .i64 b, .int .i64 N] 41)).trans (Keeps.drew _))) (by omega)).mono ?_; rintro e w3 ⟨hb3, B3, c3, rfl, ho3⟩; have hz31 := hb3.size; simp at hz31; have F3 : Hid (GF w N A n c a b w3) := Lib.hid (F1.out.next2 ((((Below.refl _ _).alloc (by omega) _).drew).trans (hb3.mono (by simp; omega)))); obtain ⟨hz3, p0, p1, r0, r1, f0, f1, pa, pb⟩ := F3.out.facts; have n0 := World.new_ne w3 _ p1; have n1 := World.new_ne w3 _ pa; have n2 := World.new_ne w3 _ pb; have LIT : Hid (Rd w3 2 (some ⟨w1.heap.size, 0, none⟩) 2 (prs [(a, N), (b, N)])) := Lib.hid (((rd_lit2_at rfl [(a, N), (b, N)] _).keep (Keeps.drew _)).keep (Keeps.of_below hb3 (Nat.le_refl _))); have O3 : Hid (Own w3 (w.heap.size + 4) 41 2 B3 n c3 (prs es)) := Lib.hid (ho3.base_le (by simp; omega)); clear hb3 ho3)
        | (refine step_app _ rfl (.tmp 39) (.tmp 46) 35 rfl (w.heap.size + 4) 41 (.agg #[.int .i64 0, .int .i64 0]) 2 16 Tryz.underlying35 info_pair rfl (by decide) B3 n c3 (prs es) (by simp [Act.eval, Act.put]) O3.out (some ⟨w1.heap.size, 0, none⟩) 2 2 (prs [(a, N), (b, N)]) (by simp [Act.eval, Act.put]) LIT.out (prs_one _) (by omega) (by unfold maxLen; omega) (by omega) ?_; intro B4 c4 w4 ho4 hg4 hb4; have F4 : Hid (GF w N A n c a b w4) := Lib.hid (F3.out.next2 ((Below.refl _ _).grown hg4 (by omega) (fun b hb => (O3.out.lt hb).1))); obtain ⟨hz4, p0, p1, r0, r1, f0, f1, pa, pb⟩ := F4.out.facts; have n0 := World.new_ne w4 _ p1; have n1 := World.new_ne w4 _ pa; have n2 := World.new_ne w4 _ pb; have O4 : Hid (Own w4 (w.heap.size + 4) 41 2 B4 (n + 2) c4 (prs (es ++ [(a, N), (b, N)]))) := Lib.hid (by rw [prs_app]; exact ho4); clear ho4 hg4 hb4)
        | (refine step_app _ rfl (.tmp 39) (.tmp 46) 35 rfl (w.heap.size + 4) 41 (.agg #[.int .i64 0, .int .i64 0]) 2 16 Tryz.underlying35 info_pair rfl (by decide) B3 n c3 (prs es) (by simp [Act.eval, Act.put]) (O3.out.alloc _) (some ⟨w3.heap.size, 0, none⟩) 2 2 (prs [(a, N), (b, N)]) (by simp [Act.eval, Act.put]) (rd_lit2_at rfl [(a, N), (b, N)] _) (prs_one _) (by omega) (by unfold maxLen; omega) (by simp; omega) ?_; intro B4 c4 w4 ho4 hg4 hb4; have F4 : Hid (GF w N A n c a b w4) := Lib.hid (F3.out.next2 (((Below.refl _ _).alloc (by omega) _).grown hg4 (by simp; omega) (fun b hb => (O3.out.lt hb).1))); obtain ⟨hz4, p0, p1, r0, r1, f0, f1, pa, pb⟩ := F4.out.facts; have n0 := World.new_ne w4 _ p1; have n1 := World.new_ne w4 _ pa; have n2 := World.new_ne w4 _ pb; have O4 : Hid (Own w4 (w.heap.size + 4) 41 2 B4 (n + 2) c4 (prs (es ++ [(a, N), (b, N)]))) := Lib.hid (by rw [prs_app]; exact ho4); clear ho4 hg4 hb4)
        | fail))
    all_goals
     go_wp2_with (first
      | (go_at_call 24; (with_reducible refine (has_b (b := true) _ b _ HS.out).mono ?_); rintro e w2 ⟨rfl, rfl⟩)
      | fail)
     refine bodyPost_ret (v := .tuple #[.agg #[.int .i64 0, .slice none 0 0], .int .i64 1]) (by simp [results, Tryz.results11, go_sem, r0, r1]) rfl ?_
     rw [henn_bad2 HB2.out]
     exact ⟨(F4.out.below.setCell (by simp; omega) _).setCell (by simp; omega) _, .inl ⟨by simp, rfl, rfl⟩⟩
  have hsa' : (s == a) = false := by simpa using fun h : s = a => hsa h.symm
  have hsb' : (s == b) = false := by simpa using fun h : s = b => hsb h.symm
  have hH : hasE N es a b = false := by rw [hS, hsa', hsb'] at hbad; simpa using hbad
  have HV := Lib.hid hv
  have HA := Lib.hid hA
  have HBb := Lib.hid hB
  have HS := Lib.hid hS
  have HH := Lib.hid hH
  clear hv hA hB hS hH
  clear hbad hok hsa hsb
  go_enter Tryz.func11, Tryz.ntmps11
  go_wp2_with (first
    | (go_at_call 29; refine (gvalid_b (b := true) N _ n c es _ (by omega) H1.out HV.out).mono ?_; rintro e w1 ⟨rfl, hb1⟩; have F1 : Hid (GF w N A n c a b w1) := Lib.hid (G0.out.next hb1); obtain ⟨hz1, p0, p1, r0, r1, f0, f1, pa, pb⟩ := F1.out.facts; clear hb1)
    | (go_at_call 24; (with_reducible refine (has_b (b := true) N a _ HA.out).mono ?_); rintro e w2 ⟨rfl, rfl⟩)
    | (go_at_call 24; (with_reducible refine (has_b (b := true) N b _ HBb.out).mono ?_); rintro e w2 ⟨rfl, rfl⟩)
    | fail)
  have R1 := Lib.hid (H0.out.keep (Keeps.of_below F1.out.below (Nat.le_refl _)))
  have n0 := World.new_ne w1 _ p1
  have n1 := World.new_ne w1 _ pa
  have n2 := World.new_ne w1 _ pb
  go_region_held3 (fun w' => w'.cell? ⟨w.heap.size, 1, none⟩ = some (.slice A n c) ∧ w'.cell? ⟨w.heap.size + 1, 0, none⟩ = some (.int .i64 a) ∧ w'.cell? ⟨w.heap.size + 2, 0, none⟩ = some (.int .i64 b)) (go_keep)
    ((first
      | (go_at_call 30; refine (clone_n A n c es _ (R1.out.keep (Keeps.drew _)) (by omega)).mono ?_; rintro e w3 ⟨hb3, B3, c3, rfl, ho3⟩; have F3 : Hid (GF w N A n c a b w3) := Lib.hid (F1.out.next2 ((Below.refl _ _).drew.trans (hb3.mono (by simp; omega)))); obtain ⟨hz3, p0, p1, r0, r1, f0, f1, pa, pb⟩ := F3.out.facts; have n0 := World.new_ne w3 _ p1; have n1 := World.new_ne w3 _ pa; have n2 := World.new_ne w3 _ pb; have O3 : Hid (Own w3 (w.heap.size + 4) 41 2 B3 n c3 (prs es)) := Lib.hid (ho3.base_le (by simp; omega)); clear hb3 ho3)
      | (go_at_call 30; refine (clone_n A n c es _ (R1.out.keep ((Keeps.alloc w1 (.cells #[.int .i64 a, .int .i64 N, .int .i64 b, .int .i64 N] 41)).trans (Keeps.drew _))) (by omega)).mono ?_; rintro e w3 ⟨hb3, B3, c3, rfl, ho3⟩; have hz31 := hb3.size; simp at hz31; have F3 : Hid (GF w N A n c a b w3) := Lib.hid (F1.out.next2 ((((Below.refl _ _).alloc (by omega) _).drew).trans (hb3.mono (by simp; omega)))); obtain ⟨hz3, p0, p1, r0, r1, f0, f1, pa, pb⟩ := F3.out.facts; have n0 := World.new_ne w3 _ p1; have n1 := World.new_ne w3 _ pa; have n2 := World.new_ne w3 _ pb; have LIT : Hid (Rd w3 2 (some ⟨w1.heap.size, 0, none⟩) 2 (prs [(a, N), (b, N)])) := Lib.hid (((rd_lit2_at rfl [(a, N), (b, N)] _).keep (Keeps.drew _)).keep (Keeps.of_below hb3 (Nat.le_refl _))); have O3 : Hid (Own w3 (w.heap.size + 4) 41 2 B3 n c3 (prs es)) := Lib.hid (ho3.base_le (by simp; omega)); clear hb3 ho3)
      | (refine step_app _ rfl (.tmp 39) (.tmp 46) 35 rfl (w.heap.size + 4) 41 (.agg #[.int .i64 0, .int .i64 0]) 2 16 Tryz.underlying35 info_pair rfl (by decide) B3 n c3 (prs es) (by simp [Act.eval, Act.put]) O3.out (some ⟨w1.heap.size, 0, none⟩) 2 2 (prs [(a, N), (b, N)]) (by simp [Act.eval, Act.put]) LIT.out (prs_one _) (by omega) (by unfold maxLen; omega) (by omega) ?_; intro B4 c4 w4 ho4 hg4 hb4; have F4 : Hid (GF w N A n c a b w4) := Lib.hid (F3.out.next2 ((Below.refl _ _).grown hg4 (by omega) (fun b hb => (O3.out.lt hb).1))); obtain ⟨hz4, p0, p1, r0, r1, f0, f1, pa, pb⟩ := F4.out.facts; have n0 := World.new_ne w4 _ p1; have n1 := World.new_ne w4 _ pa; have n2 := World.new_ne w4 _ pb; have O4 : Hid (Own w4 (w.heap.size + 4) 41 2 B4 (n + 2) c4 (prs (es ++ [(a, N), (b, N)]))) := Lib.hid (by rw [prs_app]; exact ho4); clear ho4 hg4 hb4)
      | (refine step_app _ rfl (.tmp 39) (.tmp 46) 35 rfl (w.heap.size + 4) 41 (.agg #[.int .i64 0, .int .i64 0]) 2 16 Tryz.underlying35 info_pair rfl (by decide) B3 n c3 (prs es) (by simp [Act.eval, Act.put]) (O3.out.alloc _) (some ⟨w3.heap.size, 0, none⟩) 2 2 (prs [(a, N), (b, N)]) (by simp [Act.eval, Act.put]) (rd_lit2_at rfl [(a, N), (b, N)] _) (prs_one _) (by omega) (by unfold maxLen; omega) (by simp; omega) ?_; intro B4 c4 w4 ho4 hg4 hb4; have F4 : Hid (GF w N A n c a b w4) := Lib.hid (F3.out.next2 (((Below.refl _ _).alloc (by omega) _).grown hg4 (by simp; omega) (fun b hb => (O3.out.lt hb).1))); obtain ⟨hz4, p0, p1, r0, r1, f0, f1, pa, pb⟩ := F4.out.facts; have n0 := World.new_ne w4 _ p1; have n1 := World.new_ne w4 _ pa; have n2 := World.new_ne w4 _ pb; have O4 : Hid (Own w4 (w.heap.size + 4) 41 2 B4 (n + 2) c4 (prs (es ++ [(a, N), (b, N)]))) := Lib.hid (by rw [prs_app]; exact ho4); clear ho4 hg4 hb4)
      | fail))
  all_goals
   go_wp2_with (first
    | (go_at_call 24; (with_reducible refine (has_b (b := true) _ s _ HS.out).mono ?_); rintro e w2 ⟨rfl, rfl⟩)
    | (go_at_call 31; (with_reducible refine (ghas_b (r := false) N A n c es a b _ (by omega) (H0.out.keep (Keeps.of_below F4.out.below (Nat.le_refl _))) HH.out).mono ?_); rintro e w5 ⟨rfl, hb5⟩; have F5 : Hid (GF w N A n c a b w5) := Lib.hid (F4.out.next hb5); obtain ⟨hz5, p0, p1, r0, r1, f0, f1, pa, pb⟩ := F5.out.facts; have O5 := Lib.hid (O4.out.later hb5); clear hb5)
    | fail)
   refine bodyPost_ret (v := .tuple #[.agg #[.int .i64 0, .slice none 0 0], .int .i64 1]) (by simp [results, Tryz.results11, go_sem, r0, r1]) rfl ?_
   rw [henn_bad2 HB2.out]
   exact ⟨(F5.out.below.setCell (by simp; omega) _).setCell (by simp; omega) _, .inl ⟨by simp, rfl, rfl⟩⟩
end Go.Proofs.YtpdbekgkopglgaaGreat
namespace Go.Proofs.YtpdbekgkopglgaaGreat
set_option linter.unusedVariables false
set_option linter.unusedSimpArgs false
open Go.RowKit Go.Sort
attribute [local go_sem ↓] Go.wp_at_zero Go.wp_at_succ

set_option maxRecDepth 100000 in
set_option maxHeartbeats 16000000 in
theorem ghenn_60 (N : Int) (A : Option Addr) (n c : Nat) (es : List (Int × Int)) (a b s : Int) (w : World) (hn : n ≤ 900) (he : Rd w 2 A n (prs es)) (hok : hennBad1 N es a b = false) (hok2 : hennBad2 N es a b s = false) (hN6 : N = 60) :
    Calls Tryz.prog 11 #[.agg #[.int .i64 N, .slice A n c], .int .i64 a, .int .i64 b, .int .i64 s] w (HPost w N (hennE N es a b s)) := by
  have HE := Lib.hid he.prs_len
  have H0 := Lib.hid he
  have G0 : Hid (GF w N A n c a b (W4 w N A n c a b)) := Lib.hid GF.start
  have H1 := Lib.hid (he.keep (Keeps.of_below G0.out.below (Nat.le_refl _)))
  unfold W4 at H1
  clear he
  have HB := Lib.hid (henn_60 hok hok2 hN6)
  have hdl : (delL a b (es ++ [(a, N), (b, N)])).length ≤ n + 2 := by
    refine Nat.le_trans (List.length_filter_le _ _) ?_
    rw [List.length_append, HE.out]; simp
  obtain ⟨hv, hA, hB, hab⟩ := not_bad1 hok
  clear hok
  subst hN6
  by_cases hs0 : s < 0
  · have HV := Lib.hid hv
    have HA := Lib.hid hA
    have HBb := Lib.hid hB
    clear hv hA hB
    clear hok2
    go_enter Tryz.func11, Tryz.ntmps11
    go_wp2_with (first
      | (go_at_call 29; refine (gvalid_b (b := true) 60 _ n c es _ (by omega) H1.out HV.out).mono ?_; rintro e w1 ⟨rfl, hb1⟩; have F1 : Hid (GF w 60 A n c a b w1) := Lib.hid (G0.out.next hb1); obtain ⟨hz1, p0, p1, r0, r1, f0, f1, pa, pb⟩ := F1.out.facts; clear hb1)
      | (go_at_call 24; (with_reducible refine (has_b (b := true) 60 a _ HA.out).mono ?_); rintro e w2 ⟨rfl, rfl⟩)
      | (go_at_call 24; (with_reducible refine (has_b (b := true) 60 b _ HBb.out).mono ?_); rintro e w2 ⟨rfl, rfl⟩)
      | fail)
    have R1 := Lib.hid (H0.out.keep (Keeps.of_below F1.out.below (Nat.le_refl _)))
    have n0 := World.new_ne w1 _ p1
    have n1 := World.new_ne w1 _ pa
    have n2 := World.new_ne w1 _ pb
    go_region_held3 (fun w' => w'.cell? ⟨w.heap.size, 1, none⟩ = some (.slice A n c) ∧ w'.cell? ⟨w.heap.size + 1, 0, none⟩ = some (.int .i64 a) ∧ w'.cell? ⟨w.heap.size + 2, 0, none⟩ = some (.int .i64 b)) (go_keep)
      ((first
        | (go_at_call 30; refine (clone_n A n c es _ (R1.out.keep (Keeps.drew _)) (by omega)).mono ?_; rintro e w3 ⟨hb3, B3, c3, rfl, ho3⟩; have F3 : Hid (GF w 60 A n c a b w3) := Lib.hid (F1.out.next2 ((Below.refl _ _).drew.trans (hb3.mono (by simp; omega)))); obtain ⟨hz3, p0, p1, r0, r1, f0, f1, pa, pb⟩ := F3.out.facts; have n0 := World.new_ne w3 _ p1; have n1 := World.new_ne w3 _ pa; have n2 := World.new_ne w3 _ pb; have O3 : Hid (Own w3 (w.heap.size + 4) 41 2 B3 n c3 (prs es)) := Lib.hid (ho3.base_le (by simp; omega)); clear hb3 ho3)
        | (go_at_call 30; refine (clone_n A n c es _ (R1.out.keep ((Keeps.alloc w1 (.cells #[.int .i64 a, .int .i64 60, .int .i64 b, .int .i64 60] 41)).trans (Keeps.drew _))) (by omega)).mono ?_; rintro e w3 ⟨hb3, B3, c3, rfl, ho3⟩; have hz31 := hb3.size; simp at hz31; have F3 : Hid (GF w 60 A n c a b w3) := Lib.hid (F1.out.next2 ((((Below.refl _ _).alloc (by omega) _).drew).trans (hb3.mono (by simp; omega)))); obtain ⟨hz3, p0, p1, r0, r1, f0, f1, pa, pb⟩ := F3.out.facts; have n0 := World.new_ne w3 _ p1; have n1 := World.new_ne w3 _ pa; have n2 := World.new_ne w3 _ pb; have LIT : Hid (Rd w3 2 (some ⟨w1.heap.size, 0, none⟩) 2 (prs [(a, 60), (b, 60)])) := Lib.hid (((rd_lit2_at rfl [(a, 60), (b, 60)] _).keep (Keeps.drew _)).keep (Keeps.of_below hb3 (Nat.le_refl _))); have O3 : Hid (Own w3 (w.heap.size + 4) 41 2 B3 n c3 (prs es)) := Lib.hid (ho3.base_le (by simp; omega)); clear hb3 ho3)
        | (refine step_app _ rfl (.tmp 39) (.tmp 46) 35 rfl (w.heap.size + 4) 41 (.agg #[.int .i64 0, .int .i64 0]) 2 16 Tryz.underlying35 info_pair rfl (by decide) B3 n c3 (prs es) (by simp [Act.eval, Act.put]) O3.out (some ⟨w1.heap.size, 0, none⟩) 2 2 (prs [(a, 60), (b, 60)]) (by simp [Act.eval, Act.put]) LIT.out (prs_one _) (by omega) (by unfold maxLen; omega) (by omega) ?_; intro B4 c4 w4 ho4 hg4 hb4; have F4 : Hid (GF w 60 A n c a b w4) := Lib.hid (F3.out.next2 ((Below.refl _ _).grown hg4 (by omega) (fun b hb => (O3.out.lt hb).1))); obtain ⟨hz4, p0, p1, r0, r1, f0, f1, pa, pb⟩ := F4.out.facts; have n0 := World.new_ne w4 _ p1; have n1 := World.new_ne w4 _ pa; have n2 := World.new_ne w4 _ pb; have O4 : Hid (Own w4 (w.heap.size + 4) 41 2 B4 (n + 2) c4 (prs (es ++ [(a, 60), (b, 60)]))) := Lib.hid (by rw [prs_app]; exact ho4); clear ho4 hg4 hb4)
        | (refine step_app _ rfl (.tmp 39) (.tmp 46) 35 rfl (w.heap.size + 4) 41 (.agg #[.int .i64 0, .int .i64 0]) 2 16 Tryz.underlying35 info_pair rfl (by decide) B3 n c3 (prs es) (by simp [Act.eval, Act.put]) (O3.out.alloc _) (some ⟨w3.heap.size, 0, none⟩) 2 2 (prs [(a, 60), (b, 60)]) (by simp [Act.eval, Act.put]) (rd_lit2_at rfl [(a, 60), (b, 60)] _) (prs_one _) (by omega) (by unfold maxLen; omega) (by simp; omega) ?_; intro B4 c4 w4 ho4 hg4 hb4; have F4 : Hid (GF w 60 A n c a b w4) := Lib.hid (F3.out.next2 (((Below.refl _ _).alloc (by omega) _).grown hg4 (by simp; omega) (fun b hb => (O3.out.lt hb).1))); obtain ⟨hz4, p0, p1, r0, r1, f0, f1, pa, pb⟩ := F4.out.facts; have n0 := World.new_ne w4 _ p1; have n1 := World.new_ne w4 _ pa; have n2 := World.new_ne w4 _ pb; have O4 : Hid (Own w4 (w.heap.size + 4) 41 2 B4 (n + 2) c4 (prs (es ++ [(a, 60), (b, 60)]))) := Lib.hid (by rw [prs_app]; exact ho4); clear ho4 hg4 hb4)
        | fail))
    all_goals
     go_wp2
     refine bodyPost_ret (v := .tuple #[.agg #[.int .i64 0, .slice none 0 0], .int .i64 3]) (by simp [results, Tryz.results11, go_sem, r0, r1]) rfl ?_
     rw [HB.out]
     exact ⟨(F4.out.below.setCell (by simp; omega) _).setCell (by simp; omega) _, .inl ⟨by simp, rfl, rfl⟩⟩
  unfold hennBad2 at hok2
  rw [decide_eq_true (by omega : 0 ≤ s), Bool.true_and] at hok2
  simp only [Bool.or_eq_false_iff, Bool.not_eq_false'] at hok2
  obtain ⟨⟨⟨hS, hsa⟩, hsb⟩, hH⟩ := hok2
  have hd0 : decide (0 ≤ s) = true := by simp; omega
  have HV := Lib.hid hv
  have HA := Lib.hid hA
  have HBb := Lib.hid hB
  have HS := Lib.hid hS
  have HH := Lib.hid hH
  clear hv hA hB hS hH
  go_enter Tryz.func11, Tryz.ntmps11
  go_wp2_with (first
    | (go_at_call 29; refine (gvalid_b (b := true) 60 _ n c es _ (by omega) H1.out HV.out).mono ?_; rintro e w1 ⟨rfl, hb1⟩; have F1 : Hid (GF w 60 A n c a b w1) := Lib.hid (G0.out.next hb1); obtain ⟨hz1, p0, p1, r0, r1, f0, f1, pa, pb⟩ := F1.out.facts; clear hb1)
    | (go_at_call 24; (with_reducible refine (has_b (b := true) 60 a _ HA.out).mono ?_); rintro e w2 ⟨rfl, rfl⟩)
    | (go_at_call 24; (with_reducible refine (has_b (b := true) 60 b _ HBb.out).mono ?_); rintro e w2 ⟨rfl, rfl⟩)
    | fail)
  have R1 := Lib.hid (H0.out.keep (Keeps.of_below F1.out.below (Nat.le_refl _)))
  have n0 := World.new_ne w1 _ p1
  have n1 := World.new_ne w1 _ pa
  have n2 := World.new_ne w1 _ pb
  go_region_held3 (fun w' => w'.cell? ⟨w.heap.size, 1, none⟩ = some (.slice A n c) ∧ w'.cell? ⟨w.heap.size + 1, 0, none⟩ = some (.int .i64 a) ∧ w'.cell? ⟨w.heap.size + 2, 0, none⟩ = some (.int .i64 b)) (go_keep)
    ((first
      | (go_at_call 30; refine (clone_n A n c es _ (R1.out.keep (Keeps.drew _)) (by omega)).mono ?_; rintro e w3 ⟨hb3, B3, c3, rfl, ho3⟩; have F3 : Hid (GF w 60 A n c a b w3) := Lib.hid (F1.out.next2 ((Below.refl _ _).drew.trans (hb3.mono (by simp; omega)))); obtain ⟨hz3, p0, p1, r0, r1, f0, f1, pa, pb⟩ := F3.out.facts; have n0 := World.new_ne w3 _ p1; have n1 := World.new_ne w3 _ pa; have n2 := World.new_ne w3 _ pb; have O3 : Hid (Own w3 (w.heap.size + 4) 41 2 B3 n c3 (prs es)) := Lib.hid (ho3.base_le (by simp; omega)); clear hb3 ho3)
      | (go_at_call 30; refine (clone_n A n c es _ (R1.out.keep ((Keeps.alloc w1 (.cells #[.int .i64 a, .int .i64 60, .int .i64 b, .int .i64 60] 41)).trans (Keeps.drew _))) (by omega)).mono ?_; rintro e w3 ⟨hb3, B3, c3, rfl, ho3⟩; have hz31 := hb3.size; simp at hz31; have F3 : Hid (GF w 60 A n c a b w3) := Lib.hid (F1.out.next2 ((((Below.refl _ _).alloc (by omega) _).drew).trans (hb3.mono (by simp; omega)))); obtain ⟨hz3, p0, p1, r0, r1, f0, f1, pa, pb⟩ := F3.out.facts; have n0 := World.new_ne w3 _ p1; have n1 := World.new_ne w3 _ pa; have n2 := World.new_ne w3 _ pb; have LIT : Hid (Rd w3 2 (some ⟨w1.heap.size, 0, none⟩) 2 (prs [(a, 60), (b, 60)])) := Lib.hid (((rd_lit2_at rfl [(a, 60), (b, 60)] _).keep (Keeps.drew _)).keep (Keeps.of_below hb3 (Nat.le_refl _))); have O3 : Hid (Own w3 (w.heap.size + 4) 41 2 B3 n c3 (prs es)) := Lib.hid (ho3.base_le (by simp; omega)); clear hb3 ho3)
      | (refine step_app _ rfl (.tmp 39) (.tmp 46) 35 rfl (w.heap.size + 4) 41 (.agg #[.int .i64 0, .int .i64 0]) 2 16 Tryz.underlying35 info_pair rfl (by decide) B3 n c3 (prs es) (by simp [Act.eval, Act.put]) O3.out (some ⟨w1.heap.size, 0, none⟩) 2 2 (prs [(a, 60), (b, 60)]) (by simp [Act.eval, Act.put]) LIT.out (prs_one _) (by omega) (by unfold maxLen; omega) (by omega) ?_; intro B4 c4 w4 ho4 hg4 hb4; have F4 : Hid (GF w 60 A n c a b w4) := Lib.hid (F3.out.next2 ((Below.refl _ _).grown hg4 (by omega) (fun b hb => (O3.out.lt hb).1))); obtain ⟨hz4, p0, p1, r0, r1, f0, f1, pa, pb⟩ := F4.out.facts; have n0 := World.new_ne w4 _ p1; have n1 := World.new_ne w4 _ pa; have n2 := World.new_ne w4 _ pb; have O4 : Hid (Own w4 (w.heap.size + 4) 41 2 B4 (n + 2) c4 (prs (es ++ [(a, 60), (b, 60)]))) := Lib.hid (by rw [prs_app]; exact ho4); clear ho4 hg4 hb4)
      | (refine step_app _ rfl (.tmp 39) (.tmp 46) 35 rfl (w.heap.size + 4) 41 (.agg #[.int .i64 0, .int .i64 0]) 2 16 Tryz.underlying35 info_pair rfl (by decide) B3 n c3 (prs es) (by simp [Act.eval, Act.put]) (O3.out.alloc _) (some ⟨w3.heap.size, 0, none⟩) 2 2 (prs [(a, 60), (b, 60)]) (by simp [Act.eval, Act.put]) (rd_lit2_at rfl [(a, 60), (b, 60)] _) (prs_one _) (by omega) (by unfold maxLen; omega) (by simp; omega) ?_; intro B4 c4 w4 ho4 hg4 hb4; have F4 : Hid (GF w 60 A n c a b w4) := Lib.hid (F3.out.next2 (((Below.refl _ _).alloc (by omega) _).grown hg4 (by simp; omega) (fun b hb => (O3.out.lt hb).1))); obtain ⟨hz4, p0, p1, r0, r1, f0, f1, pa, pb⟩ := F4.out.facts; have n0 := World.new_ne w4 _ p1; have n1 := World.new_ne w4 _ pa; have n2 := World.new_ne w4 _ pb; have O4 : Hid (Own w4 (w.heap.size + 4) 41 2 B4 (n + 2) c4 (prs (es ++ [(a, 60), (b, 60)]))) := Lib.hid (by rw [prs_app]; exact ho4); clear ho4 hg4 hb4)
      | fail))
  all_goals
   go_wp2_with (first
    | (go_at_call 24; (with_reducible refine (has_b (b := true) _ s _ HS.out).mono ?_); rintro e w2 ⟨rfl, rfl⟩)
    | (go_at_call 31; (with_reducible refine (ghas_b (r := true) 60 A n c es a b _ (by omega) (H0.out.keep (Keeps.of_below F4.out.below (Nat.le_refl _))) HH.out).mono ?_); rintro e w5 ⟨rfl, hb5⟩; have F5 : Hid (GF w 60 A n c a b w5) := Lib.hid (F4.out.next hb5); obtain ⟨hz5, p0, p1, r0, r1, f0, f1, pa, pb⟩ := F5.out.facts; have O5 := Lib.hid (O4.out.later hb5); clear hb5)
    | (go_at_call 32; refine (delf_own B4 (n + 2) c4 (es ++ [(a, 60), (b, 60)]) _ (w.heap.size + 4) a b ⟨w.heap.size + 1, 0, none⟩ ⟨w.heap.size + 2, 0, none⟩ O5.out (by omega) ⟨by simp, by simp, pa, pb⟩ hz5).mono ?_; rintro e w6 ⟨rfl, ho6, hg6⟩; have F6 : Hid (GF w 60 A n c a b w6) := Lib.hid (F5.out.next2 ((Below.refl _ _).grown hg6 hz5 (fun b hb => (O5.out.lt hb).1))); obtain ⟨hz6, p0, p1, r0, r1, f0, f1, pa, pb⟩ := F6.out.facts; have O6 := Lib.hid ho6; clear ho6 hg6)
    | (at_builtin; refine wpList_app _ rfl (.tmp 75) (.tmp 79) 35 rfl (w.heap.size + 4) 41 (.agg #[.int .i64 0, .int .i64 0]) 2 16 Tryz.underlying35 info_pair rfl (by decide) B4 (delL a b (es ++ [(a, 60), (b, 60)])).length c4 (prs (delL a b (es ++ [(a, 60), (b, 60)]))) rfl (O6.out.alloc _) (some ⟨w6.heap.size, 0, none⟩) 1 1 (prs [(s, 60)]) rfl (rd_lit2_at rfl [(s, 60)] _) (prs_one _) (by omega) (by unfold maxLen; omega) (by simp; omega) ?_; intro B7 c7 w7 ho7 hg7 hb7; have F7 : Hid (GF w 60 A n c a b w7) := Lib.hid (F6.out.next2 (((Below.refl _ _).alloc (by omega) _).grown hg7 (by simp; omega) (fun b hb => (O6.out.lt hb).1))); obtain ⟨hz7, p0, p1, r0, r1, f0, f1, pa, pb⟩ := F7.out.facts; have O7 : Hid (Own w7 (w.heap.size + 4) 41 2 B7 ((delL a b (es ++ [(a, 60), (b, 60)])).length + 1) c7 (prs ((delL a b (es ++ [(a, 60), (b, 60)])) ++ [(s, 60)]))) := Lib.hid (by rw [prs_app]; exact ho7); clear ho7 hg7 hb7)
    | fail)
   refine bodyPost_ret (v := .tuple #[.agg #[.int .i64 0, .slice none 0 0], .int .i64 3]) (by simp [results, Tryz.results11, go_sem, r0, r1]) rfl ?_
   rw [HB.out]
   exact ⟨(F7.out.below.setCell (by simp; omega) _).setCell (by simp; omega) _, .inl ⟨by simp, rfl, rfl⟩⟩
theorem ghenn_any (N : Int) (A : Option Addr) (n c : Nat) (es : List (Int × Int)) (a b s : Int) (w : World) (hn : n ≤ 900) (he : Rd w 2 A n (prs es)) :
    Calls Tryz.prog 11 #[.agg #[.int .i64 N, .slice A n c], .int .i64 a, .int .i64 b, .int .i64 s] w (HPost w N (hennE N es a b s)) := by
  cases h1 : hennBad1 N es a b
  · cases h2 : hennBad2 N es a b s
    · by_cases h : N = 60
      · exact ghenn_60 N A n c es a b s w hn he h1 h2 h
      · by_cases hs : s < 0
        · exact ghenn_neg N A n c es a b s w hn he h1 h2 h hs
        · exact ghenn_pos N A n c es a b s w hn he h1 h2 h (by omega)
    · exact ghenn_bad2 N A n c es a b s w hn he h1 h2
  · exact ghenn_bad1 N A n c es a b s w hn he h1
end Go.Proofs.YtpdbekgkopglgaaGreat
