/-
  Henneberg of the program: sixty points.
-/
import Derived.Test.YtagcaljpgifppaaH1
import Derived.Test.YtagcaljpgifppaaH2
import Derived.Test.YtagcaljpgifppaaH3
import Derived.Test.YtagcaljpgifppaaH4
namespace Go.Proofs.Ytagcaljpgifppaa
set_option linter.unusedVariables false
set_option linter.unusedSimpArgs false
open Go.RowKit Go.Sort
attribute [local go_sem ↓] Go.wp_at_zero Go.wp_at_succ

set_option maxRecDepth 100000 in
set_option maxHeartbeats 16000000 in
theorem ghenn_60 (N : Int) (A : Option Addr) (n c : Nat) (es : List (Int × Int)) (a b s : Int) (w : World) (hn : n ≤ 900) (he : Rd w 2 A n (prs es)) (hok : hennBad1 N es a b = false) (hok2 : hennBad2 N es a b s = false) (hN6 : N = 60) :
    Calls Try.prog 32 #[.agg #[.int .i64 N, .slice A n c], .int .i64 a, .int .i64 b, .int .i64 s] w (HPost w N (hennE N es a b s)) := by
  have HE := Lib.hid he.prs_len
  have H0 := Lib.hid he
  have G0 : Hid (GF w N A n c a b (W4 w N A n c a b)) := Lib.hid GF.start
  have H1 := Lib.hid (he.keep (Keeps.of_below G0.out.below (Nat.le_refl _)))
  unfold W4 at H1
  clear he
  have HB := Lib.hid (henn_60 hok hok2 hN6)
  have hdl : (delL a b (es ++ [(a, N), (b, N)])).length ≤ n + 2 := by
    refine Nat.le_trans (List.length_filter_le _ _) ?_
    rw [List.length_append, HE.out]; simp
  obtain ⟨hv, hA, hB, hab⟩ := not_bad1 hok
  clear hok
  subst hN6
  by_cases hs0 : s < 0
  · have HV := Lib.hid hv
    have HA := Lib.hid hA
    have HBb := Lib.hid hB
    clear hv hA hB
    clear hok2
    go_enter Try.func32, Try.ntmps32
    go_wp2_with (first
      | (go_at_call 60; refine (gvalid_b (b := true) 60 _ n c es _ (by omega) H1.out HV.out).mono ?_; rintro e w1 ⟨rfl, hb1⟩; have F1 : Hid (GF w 60 A n c a b w1) := Lib.hid (G0.out.next hb1); obtain ⟨hz1, p0, p1, r0, r1, f0, f1, pa, pb⟩ := F1.out.facts; clear hb1)
      | (go_at_call 78; (with_reducible refine (has_b (b := true) 60 a _ HA.out).mono ?_); rintro e w2 ⟨rfl, rfl⟩)
      | (go_at_call 78; (with_reducible refine (has_b (b := true) 60 b _ HBb.out).mono ?_); rintro e w2 ⟨rfl, rfl⟩)
      | fail)
    have R1 := Lib.hid (H0.out.keep (Keeps.of_below F1.out.below (Nat.le_refl _)))
    have n0 := World.new_ne w1 _ p1
    have n1 := World.new_ne w1 _ pa
    have n2 := World.new_ne w1 _ pb
    go_region_held3 (fun w' => w'.cell? ⟨w.heap.size, 1, none⟩ = some (.slice A n c) ∧ w'.cell? ⟨w.heap.size + 1, 0, none⟩ = some (.int .i64 a) ∧ w'.cell? ⟨w.heap.size + 2, 0, none⟩ = some (.int .i64 b)) (go_keep)
      ((first
        | (go_at_call 64; refine (clone_n A n c es _ (R1.out.keep (Keeps.drew _)) (by omega)).mono ?_; rintro e w3 ⟨hb3, B3, c3, rfl, ho3⟩; have F3 : Hid (GF w 60 A n c a b w3) := Lib.hid (F1.out.next2 ((Below.refl _ _).drew.trans (hb3.mono (by simp; omega)))); obtain ⟨hz3, p0, p1, r0, r1, f0, f1, pa, pb⟩ := F3.out.facts; have n0 := World.new_ne w3 _ p1; have n1 := World.new_ne w3 _ pa; have n2 := World.new_ne w3 _ pb; have O3 : Hid (Own w3 (w.heap.size + 4) 42 2 B3 n c3 (prs es)) := Lib.hid (ho3.base_le (by simp; omega)); clear hb3 ho3)
        | (go_at_call 64; refine (clone_n A n c es _ (R1.out.keep ((Keeps.alloc w1 (.cells #[.int .i64 a, .int .i64 60, .int .i64 b, .int .i64 60] 42)).trans (Keeps.drew _))) (by omega)).mono ?_; rintro e w3 ⟨hb3, B3, c3, rfl, ho3⟩; have hz31 := hb3.size; simp at hz31; have F3 : Hid (GF w 60 A n c a b w3) := Lib.hid (F1.out.next2 ((((Below.refl _ _).alloc (by omega) _).drew).trans (hb3.mono (by simp; omega)))); obtain ⟨hz3, p0, p1, r0, r1, f0, f1, pa, pb⟩ := F3.out.facts; have n0 := World.new_ne w3 _ p1; have n1 := World.new_ne w3 _ pa; have n2 := World.new_ne w3 _ pb; have LIT : Hid (Rd w3 2 (some ⟨w1.heap.size, 0, none⟩) 2 (prs [(a, 60), (b, 60)])) := Lib.hid (((rd_lit2_at rfl [(a, 60), (b, 60)] _).keep (Keeps.drew _)).keep (Keeps.of_below hb3 (Nat.le_refl _))); have O3 : Hid (Own w3 (w.heap.size + 4) 42 2 B3 n c3 (prs es)) := Lib.hid (ho3.base_le (by simp; omega)); clear hb3 ho3)
        | (refine step_app _ rfl (.tmp 39) (.tmp 46) 22 rfl (w.heap.size + 4) 42 (.agg #[.int .i64 0, .int .i64 0]) 2 16 Try.underlying22 info_pair rfl (by decide) B3 n c3 (prs es) (by simp [Act.eval, Act.put]) O3.out (some ⟨w1.heap.size, 0, none⟩) 2 2 (prs [(a, 60), (b, 60)]) (by simp [Act.eval, Act.put]) LIT.out (prs_one _) (by omega) (by unfold maxLen; omega) (by omega) ?_; intro B4 c4 w4 ho4 hg4 hb4; have F4 : Hid (GF w 60 A n c a b w4) := Lib.hid (F3.out.next2 ((Below.refl _ _).grown hg4 (by omega) (fun b hb => (O3.out.lt hb).1))); obtain ⟨hz4, p0, p1, r0, r1, f0, f1, pa, pb⟩ := F4.out.facts; have n0 := World.new_ne w4 _ p1; have n1 := World.new_ne w4 _ pa; have n2 := World.new_ne w4 _ pb; have O4 : Hid (Own w4 (w.heap.size + 4) 42 2 B4 (n + 2) c4 (prs (es ++ [(a, 60), (b, 60)]))) := Lib.hid (by rw [prs_app]; exact ho4); clear ho4 hg4 hb4)
        | (refine step_app _ rfl (.tmp 39) (.tmp 46) 22 rfl (w.heap.size + 4) 42 (.agg #[.int .i64 0, .int .i64 0]) 2 16 Try.underlying22 info_pair rfl (by decide) B3 n c3 (prs es) (by simp [Act.eval, Act.put]) (O3.out.alloc _) (some ⟨w3.heap.size, 0, none⟩) 2 2 (prs [(a, 60), (b, 60)]) (by simp [Act.eval, Act.put]) (rd_lit2_at rfl [(a, 60), (b, 60)] _) (prs_one _) (by omega) (by unfold maxLen; omega) (by simp; omega) ?_; intro B4 c4 w4 ho4 hg4 hb4; have F4 : Hid (GF w 60 A n c a b w4) := Lib.hid (F3.out.next2 (((Below.refl _ _).alloc (by omega) _).grown hg4 (by simp; omega) (fun b hb => (O3.out.lt hb).1))); obtain ⟨hz4, p0, p1, r0, r1, f0, f1, pa, pb⟩ := F4.out.facts; have n0 := World.new_ne w4 _ p1; have n1 := World.new_ne w4 _ pa; have n2 := World.new_ne w4 _ pb; have O4 : Hid (Own w4 (w.heap.size + 4) 42 2 B4 (n + 2) c4 (prs (es ++ [(a, 60), (b, 60)]))) := Lib.hid (by rw [prs_app]; exact ho4); clear ho4 hg4 hb4)
        | fail))
    all_goals
     go_wp2
     refine bodyPost_ret (v := .tuple #[.agg #[.int .i64 0, .slice none 0 0], .int .i64 3]) (by simp [results, Try.results32, go_sem, r0, r1]) rfl ?_
     rw [HB.out]
     exact ⟨(F4.out.below.setCell (by simp; omega) _).setCell (by simp; omega) _, .inl ⟨by simp, rfl, rfl⟩⟩
  unfold hennBad2 at hok2
  rw [decide_eq_true (by omega : 0 ≤ s), Bool.true_and] at hok2
  simp only [Bool.or_eq_false_iff, Bool.not_eq_false'] at hok2
  obtain ⟨⟨⟨hS, hsa⟩, hsb⟩, hH⟩ := hok2
  have hd0 : decide (0 ≤ s) = true := by simp; omega
  have HV := Lib.hid hv
  have HA := Lib.hid hA
  have HBb := Lib.hid hB
  have HS := Lib.hid hS
  have HH := Lib.hid hH
  clear hv hA hB hS hH
  go_enter Try.func32, Try.ntmps32
  go_wp2_with (first
    | (go_at_call 60; refine (gvalid_b (b := true) 60 _ n c es _ (by omega) H1.out HV.out).mono ?_; rintro e w1 ⟨rfl, hb1⟩; have F1 : Hid (GF w 60 A n c a b w1) := Lib.hid (G0.out.next hb1); obtain ⟨hz1, p0, p1, r0, r1, f0, f1, pa, pb⟩ := F1.out.facts; clear hb1)
    | (go_at_call 78; (with_reducible refine (has_b (b := true) 60 a _ HA.out).mono ?_); rintro e w2 ⟨rfl, rfl⟩)
    | (go_at_call 78; (with_reducible refine (has_b (b := true) 60 b _ HBb.out).mono ?_); rintro e w2 ⟨rfl, rfl⟩)
    | fail)
  have R1 := Lib.hid (H0.out.keep (Keeps.of_below F1.out.below (Nat.le_refl _)))
  have n0 := World.new_ne w1 _ p1
  have n1 := World.new_ne w1 _ pa
  have n2 := World.new_ne w1 _ pb
  go_region_held3 (fun w' => w'.cell? ⟨w.heap.size, 1, none⟩ = some (.slice A n c) ∧ w'.cell? ⟨w.heap.size + 1, 0, none⟩ = some (.int .i64 a) ∧ w'.cell? ⟨w.heap.size + 2, 0, none⟩ = some (.int .i64 b)) (go_keep)
    ((first
      | (go_at_call 64; refine (clone_n A n c es _ (R1.out.keep (Keeps.drew _)) (by omega)).mono ?_; rintro e w3 ⟨hb3, B3, c3, rfl, ho3⟩; have F3 : Hid (GF w 60 A n c a b w3) := Lib.hid (F1.out.next2 ((Below.refl _ _).drew.trans (hb3.mono (by simp; omega)))); obtain ⟨hz3, p0, p1, r0, r1, f0, f1, pa, pb⟩ := F3.out.facts; have n0 := World.new_ne w3 _ p1; have n1 := World.new_ne w3 _ pa; have n2 := World.new_ne w3 _ pb; have O3 : Hid (Own w3 (w.heap.size + 4) 42 2 B3 n c3 (prs es)) := Lib.hid (ho3.base_le (by simp; omega)); clear hb3 ho3)
      | (go_at_call 64; refine (clone_n A n c es _ (R1.out.keep ((Keeps.alloc w1 (.cells #[.int .i64 a, .int .i64 60, .int .i64 b, .int .i64 60] 42)).trans (Keeps.drew _))) (by omega)).mono ?_; rintro e w3 ⟨hb3, B3, c3, rfl, ho3⟩; have hz31 := hb3.size; simp at hz31; have F3 : Hid (GF w 60 A n c a b w3) := Lib.hid (F1.out.next2 ((((Below.refl _ _).alloc (by omega) _).drew).trans (hb3.mono (by simp; omega)))); obtain ⟨hz3, p0, p1, r0, r1, f0, f1, pa, pb⟩ := F3.out.facts; have n0 := World.new_ne w3 _ p1; have n1 := World.new_ne w3 _ pa; have n2 := World.new_ne w3 _ pb; have LIT : Hid (Rd w3 2 (some ⟨w1.heap.size, 0, none⟩) 2 (prs [(a, 60), (b, 60)])) := Lib.hid (((rd_lit2_at rfl [(a, 60), (b, 60)] _).keep (Keeps.drew _)).keep (Keeps.of_below hb3 (Nat.le_refl _))); have O3 : Hid (Own w3 (w.heap.size + 4) 42 2 B3 n c3 (prs es)) := Lib.hid (ho3.base_le (by simp; omega)); clear hb3 ho3)
      | (refine step_app _ rfl (.tmp 39) (.tmp 46) 22 rfl (w.heap.size + 4) 42 (.agg #[.int .i64 0, .int .i64 0]) 2 16 Try.underlying22 info_pair rfl (by decide) B3 n c3 (prs es) (by simp [Act.eval, Act.put]) O3.out (some ⟨w1.heap.size, 0, none⟩) 2 2 (prs [(a, 60), (b, 60)]) (by simp [Act.eval, Act.put]) LIT.out (prs_one _) (by omega) (by unfold maxLen; omega) (by omega) ?_; intro B4 c4 w4 ho4 hg4 hb4; have F4 : Hid (GF w 60 A n c a b w4) := Lib.hid (F3.out.next2 ((Below.refl _ _).grown hg4 (by omega) (fun b hb => (O3.out.lt hb).1))); obtain ⟨hz4, p0, p1, r0, r1, f0, f1, pa, pb⟩ := F4.out.facts; have n0 := World.new_ne w4 _ p1; have n1 := World.new_ne w4 _ pa; have n2 := World.new_ne w4 _ pb; have O4 : Hid (Own w4 (w.heap.size + 4) 42 2 B4 (n + 2) c4 (prs (es ++ [(a, 60), (b, 60)]))) := Lib.hid (by rw [prs_app]; exact ho4); clear ho4 hg4 hb4)
      | (refine step_app _ rfl (.tmp 39) (.tmp 46) 22 rfl (w.heap.size + 4) 42 (.agg #[.int .i64 0, .int .i64 0]) 2 16 Try.underlying22 info_pair rfl (by decide) B3 n c3 (prs es) (by simp [Act.eval, Act.put]) (O3.out.alloc _) (some ⟨w3.heap.size, 0, none⟩) 2 2 (prs [(a, 60), (b, 60)]) (by simp [Act.eval, Act.put]) (rd_lit2_at rfl [(a, 60), (b, 60)] _) (prs_one _) (by omega) (by unfold maxLen; omega) (by simp; omega) ?_; intro B4 c4 w4 ho4 hg4 hb4; have F4 : Hid (GF w 60 A n c a b w4) := Lib.hid (F3.out.next2 (((Below.refl _ _).alloc (by omega) _).grown hg4 (by simp; omega) (fun b hb => (O3.out.lt hb).1))); obtain ⟨hz4, p0, p1, r0, r1, f0, f1, pa, pb⟩ := F4.out.facts; have n0 := World.new_ne w4 _ p1; have n1 := World.new_ne w4 _ pa; have n2 := World.new_ne w4 _ pb; have O4 : Hid (Own w4 (w.heap.size + 4) 42 2 B4 (n + 2) c4 (prs (es ++ [(a, 60), (b, 60)]))) := Lib.hid (by rw [prs_app]; exact ho4); clear ho4 hg4 hb4)
      | fail))
  all_goals
   go_wp2_with (first
    | (go_at_call 78; (with_reducible refine (has_b (b := true) _ s _ HS.out).mono ?_); rintro e w2 ⟨rfl, rfl⟩)
    | (go_at_call 83; (with_reducible refine (ghas_b (r := true) 60 A n c es a b _ (by omega) (H0.out.keep (Keeps.of_below F4.out.below (Nat.le_refl _))) HH.out).mono ?_); rintro e w5 ⟨rfl, hb5⟩; have F5 : Hid (GF w 60 A n c a b w5) := Lib.hid (F4.out.next hb5); obtain ⟨hz5, p0, p1, r0, r1, f0, f1, pa, pb⟩ := F5.out.facts; have O5 := Lib.hid (O4.out.later hb5); clear hb5)
    | (go_at_call 84; refine (delf_own B4 (n + 2) c4 (es ++ [(a, 60), (b, 60)]) _ (w.heap.size + 4) a b ⟨w.heap.size + 1, 0, none⟩ ⟨w.heap.size + 2, 0, none⟩ O5.out (by omega) ⟨by simp, by simp, pa, pb⟩ hz5).mono ?_; rintro e w6 ⟨rfl, ho6, hg6⟩; have F6 : Hid (GF w 60 A n c a b w6) := Lib.hid (F5.out.next2 ((Below.refl _ _).grown hg6 hz5 (fun b hb => (O5.out.lt hb).1))); obtain ⟨hz6, p0, p1, r0, r1, f0, f1, pa, pb⟩ := F6.out.facts; have O6 := Lib.hid ho6; clear ho6 hg6)
    | (at_builtin; refine wpList_app _ rfl (.tmp 75) (.tmp 79) 22 rfl (w.heap.size + 4) 42 (.agg #[.int .i64 0, .int .i64 0]) 2 16 Try.underlying22 info_pair rfl (by decide) B4 (delL a b (es ++ [(a, 60), (b, 60)])).length c4 (prs (delL a b (es ++ [(a, 60), (b, 60)]))) rfl (O6.out.alloc _) (some ⟨w6.heap.size, 0, none⟩) 1 1 (prs [(s, 60)]) rfl (rd_lit2_at rfl [(s, 60)] _) (prs_one _) (by omega) (by unfold maxLen; omega) (by simp; omega) ?_; intro B7 c7 w7 ho7 hg7 hb7; have F7 : Hid (GF w 60 A n c a b w7) := Lib.hid (F6.out.next2 (((Below.refl _ _).alloc (by omega) _).grown hg7 (by simp; omega) (fun b hb => (O6.out.lt hb).1))); obtain ⟨hz7, p0, p1, r0, r1, f0, f1, pa, pb⟩ := F7.out.facts; have O7 : Hid (Own w7 (w.heap.size + 4) 42 2 B7 ((delL a b (es ++ [(a, 60), (b, 60)])).length + 1) c7 (prs ((delL a b (es ++ [(a, 60), (b, 60)])) ++ [(s, 60)]))) := Lib.hid (by rw [prs_app]; exact ho7); clear ho7 hg7 hb7)
    | fail)
   refine bodyPost_ret (v := .tuple #[.agg #[.int .i64 0, .slice none 0 0], .int .i64 3]) (by simp [results, Try.results32, go_sem, r0, r1]) rfl ?_
   rw [HB.out]
   exact ⟨(F7.out.below.setCell (by simp; omega) _).setCell (by simp; omega) _, .inl ⟨by simp, rfl, rfl⟩⟩
theorem ghenn_any (N : Int) (A : Option Addr) (n c : Nat) (es : List (Int × Int)) (a b s : Int) (w : World) (hn : n ≤ 900) (he : Rd w 2 A n (prs es)) :
    Calls Try.prog 32 #[.agg #[.int .i64 N, .slice A n c], .int .i64 a, .int .i64 b, .int .i64 s] w (HPost w N (hennE N es a b s)) := by
  cases h1 : hennBad1 N es a b
  · cases h2 : hennBad2 N es a b s
    · by_cases h : N = 60
      · exact ghenn_60 N A n c es a b s w hn he h1 h2 h
      · by_cases hs : s < 0
        · exact ghenn_neg N A n c es a b s w hn he h1 h2 h hs
        · exact ghenn_pos N A n c es a b s w hn he h1 h2 h (by omega)
    · exact ghenn_bad2 N A n c es a b s w hn he h1 h2
  · exact ghenn_bad1 N A n c es a b s w hn he h1
end Go.Proofs.Ytagcaljpgifppaa
