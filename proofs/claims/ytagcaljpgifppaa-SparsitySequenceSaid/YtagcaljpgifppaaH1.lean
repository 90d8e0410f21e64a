/-
  Henneberg of the program: errors.
-/
import Derived.Test.YtagcaljpgifppaaMa
namespace Go.Proofs.Ytagcaljpgifppaa
set_option linter.unusedVariables false
set_option linter.unusedSimpArgs false
open Go.RowKit Go.Sort
attribute [local go_sem ↓] Go.wp_at_zero Go.wp_at_succ

set_option maxRecDepth 100000 in
set_option maxHeartbeats 16000000 in
theorem ghenn_bad1 (N : Int) (A : Option Addr) (n c : Nat) (es : List (Int × Int)) (a b s : Int) (w : World) (hn : n ≤ 900) (he : Rd w 2 A n (prs es)) (hbad : hennBad1 N es a b = true) :
    Calls Try.prog 32 #[.agg #[.int .i64 N, .slice A n c], .int .i64 a, .int .i64 b, .int .i64 s] w (HPost w N (hennE N es a b s)) := by
  have HE := Lib.hid he.prs_len
  have H0 := Lib.hid he
  have G0 : Hid (GF w N A n c a b (W4 w N A n c a b)) := Lib.hid GF.start
  have H1 := Lib.hid (he.keep (Keeps.of_below G0.out.below (Nat.le_refl _)))
  unfold W4 at H1
  clear he
  have HB1 := Lib.hid hbad
  unfold hennBad1 at hbad
  cases hv : validB N es
  · have HV := Lib.hid hv
    clear hv
    clear hbad
    go_enter Try.func32, Try.ntmps32
    go_wp2_with (first
      | (go_at_call 60; refine (gvalid_b (b := false) N _ n c es _ (by omega) H1.out HV.out).mono ?_; rintro e w1 ⟨rfl, hb1⟩; have F1 : Hid (GF w N A n c a b w1) := Lib.hid (G0.out.next hb1); obtain ⟨hz1, p0, p1, r0, r1, f0, f1, pa, pb⟩ := F1.out.facts; clear hb1)
      | fail)
    refine bodyPost_ret (v := .tuple #[.agg #[.int .i64 0, .slice none 0 0], .int .i64 1]) (by simp [results, Try.results32, go_sem, r0, r1]) rfl ?_
    rw [henn_bad1 HB1.out]
    exact ⟨(F1.out.below.setCell (by simp; omega) _).setCell (by simp; omega) _, .inl ⟨by simp, rfl, rfl⟩⟩
  cases hA : hasB N a
  · have HV := Lib.hid hv
    have HA := Lib.hid hA
    clear hv hA
    clear hbad
    go_enter Try.func32, Try.ntmps32
    go_wp2_with (first
      | (go_at_call 60; refine (gvalid_b (b := true) N _ n c es _ (by omega) H1.out HV.out).mono ?_; rintro e w1 ⟨rfl, hb1⟩; have F1 : Hid (GF w N A n c a b w1) := Lib.hid (G0.out.next hb1); obtain ⟨hz1, p0, p1, r0, r1, f0, f1, pa, pb⟩ := F1.out.facts; clear hb1)
      | (go_at_call 78; (with_reducible refine (has_b (b := false) N a _ HA.out).mono ?_); rintro e w2 ⟨rfl, rfl⟩)
      | fail)
    refine bodyPost_ret (v := .tuple #[.agg #[.int .i64 0, .slice none 0 0], .int .i64 1]) (by simp [results, Try.results32, go_sem, r0, r1]) rfl ?_
    rw [henn_bad1 HB1.out]
    exact ⟨(F1.out.below.setCell (by simp; omega) _).setCell (by simp; omega) _, .inl ⟨by simp, rfl, rfl⟩⟩
  cases hB : hasB N b
  · have HV := Lib.hid hv
    have HA := Lib.hid hA
    have HBb := Lib.hid hB
    clear hv hA hB
    clear hbad
    go_enter Try.func32, Try.ntmps32
    go_wp2_with (first
      | (go_at_call 60; refine (gvalid_b (b := true) N _ n c es _ (by omega) H1.out HV.out).mono ?_; rintro e w1 ⟨rfl, hb1⟩; have F1 : Hid (GF w N A n c a b w1) := Lib.hid (G0.out.next hb1); obtain ⟨hz1, p0, p1, r0, r1, f0, f1, pa, pb⟩ := F1.out.facts; clear hb1)
      | (go_at_call 78; (with_reducible refine (has_b (b := true) N a _ HA.out).mono ?_); rintro e w2 ⟨rfl, rfl⟩)
      | (go_at_call 78; (with_reducible refine (has_b (b := false) N b _ HBb.out).mono ?_); rintro e w2 ⟨rfl, rfl⟩)
      | fail)
    refine bodyPost_ret (v := .tuple #[.agg #[.int .i64 0, .slice none 0 0], .int .i64 1]) (by simp [results, Try.results32, go_sem, r0, r1]) rfl ?_
    rw [henn_bad1 HB1.out]
    exact ⟨(F1.out.below.setCell (by simp; omega) _).setCell (by simp; omega) _, .inl ⟨by simp, rfl, rfl⟩⟩
  have hab : (a == b) = true := by rw [hv, hA, hB] at hbad; simpa using hbad
  have HV := Lib.hid hv
  have HA := Lib.hid hA
  have HBb := Lib.hid hB
  clear hv hA hB
  clear hbad
  obtain rfl : a = b := by simpa using hab
  clear hab
  go_enter Try.func32, Try.ntmps32
  go_wp2_with (first
    | (go_at_call 60; refine (gvalid_b (b := true) N _ n c es _ (by omega) H1.out HV.out).mono ?_; rintro e w1 ⟨rfl, hb1⟩; have F1 : Hid (GF w N A n c a a w1) := Lib.hid (G0.out.next hb1); obtain ⟨hz1, p0, p1, r0, r1, f0, f1, pa, pb⟩ := F1.out.facts; clear hb1)
    | (go_at_call 78; (with_reducible refine (has_b (b := true) N a _ HA.out).mono ?_); rintro e w2 ⟨rfl, rfl⟩)
    | fail)
  refine bodyPost_ret (v := .tuple #[.agg #[.int .i64 0, .slice none 0 0], .int .i64 1]) (by simp [results, Try.results32, go_sem, r0, r1]) rfl ?_
  rw [henn_bad1 HB1.out]
  exact ⟨(F1.out.below.setCell (by simp; omega) _).setCell (by simp; omega) _, .inl ⟨by simp, rfl, rfl⟩⟩
end Go.Proofs.Ytagcaljpgifppaa
