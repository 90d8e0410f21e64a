/-
  SparsityCounts: for every graph and every points, the call returns true and the arguments read as they did. No condition.
-/
import Derived.Test.YtohmafmdpajmlaaLawBase
import Derived.Test.YtohmafmdpajmlaaW12
namespace Go.Proofs.Ytohmafmdpajmlaa
set_option linter.unusedVariables false
set_option linter.unusedSimpArgs false
open Go.ChangeShapes Go.WideShapes Go.ChangeAt Go.RowKit Go.Sort

theorem valid_b {b : Bool} (N : Int) (A : Option Addr) (m c : Nat) (es : List (Int × Int)) (w : World) (hm : m ≤ 100) (he : Rd w 2 A m (prs es)) (hb : validB N es = b) :
    Calls Try.prog 14 #[.agg #[.int .i64 N, .slice A m c]] w fun e w' => e = .returned (.bool b) ∧ Below w.heap.size w w' := by
  subst hb; exact valid_any N A m c es w hm he
theorem viol_eq {N : Int} {es : List (Int × Int)} {ps : List Int} (hv : validB N es = true) : violB N es ps = (setOk N ps && decide (0 < excVal N es ps)) := by
  unfold violB exOk
  rw [hv, Bool.true_and, ← setOk_eq]
  cases hx : setOk N ps
  · rfl
  · have h1 : ascB N ps = true := by unfold setOk at hx; simp only [Bool.and_eq_true] at hx; exact hx.1
    rw [excVal_yes hx, spanS_eq h1 (fun e he => by have := ends_mem hv e he; omega)]
    congr 1
    rw [decide_eq_decide]; omega
theorem tight_eq {N : Int} {es : List (Int × Int)} {ps : List Int} (hv : validB N es = true) : tightB N es ps = (setOk N ps && decide (excVal N es ps = 0)) := by
  unfold tightB exOk
  rw [hv, Bool.true_and, ← setOk_eq]
  cases hx : setOk N ps
  · rfl
  · have h1 : ascB N ps = true := by unfold setOk at hx; simp only [Bool.and_eq_true] at hx; exact hx.1
    rw [excVal_yes hx, spanS_eq h1 (fun e he => by have := ends_mem hv e he; omega)]
    congr 1
    rw [decide_eq_decide]; omega

set_option maxHeartbeats 2000000 in
theorem law_counts (N : Int) (A L : Option Addr) (m cm n cl : Nat) (es : List (Int × Int)) (ps : List Int) (w : World) (hm : m ≤ maxLen) (hn : n ≤ maxLen) (he : Rd w 2 A m (prs es)) (hl : Rd w 1 L n (ints ps)) :
    Calls Try.prog 6 #[.agg #[.int .i64 N, .slice A m cm], .slice L n cl] w fun e w' => e = .returned (.bool true) ∧ Below w.heap.size w w' := by
  unfold maxLen at hm hn
  have HE := Lib.hid he.prs_len
  have HL := Lib.hid hl.int_len
  have H1 := Lib.hid he
  have H2 := Lib.hid hl
  clear he hl
  by_cases h1 : (m : Int) ≤ 100
  case neg =>
    have hK : ∀ w', Below (w.heap.size + 1) (w.alloc (.cells #[.int .i64 N, .slice A m cm] 24)) w' → Keeps w w' := fun w' h => (Keeps.alloc w _).trans (Keeps.of_below h (by simp))
    have hF : ∀ w', Below (w.heap.size + 1) (w.alloc (.cells #[.int .i64 N, .slice A m cm] 24)) w' → Below w.heap.size w w' := fun w' h => ((Below.refl _ _).alloc (Nat.le_refl _) _).trans (h.mono (by omega))
    have HK := Lib.hid hK
    have HF := Lib.hid hF
    clear hK hF
    go_enter Try.func6, Try.ntmps6
    go_wp2_with fail
    refine (awake_any _).mono ?_
    rintro e w1 ⟨rfl, hb⟩
    have B1 : Hid (Below (w.heap.size + 1) (w.alloc (.cells #[.int .i64 N, .slice A m cm] 24)) w1) := nextB (Below.refl _ _) (by simp) hb
    clear hb
    have g0 : w1.cell? ⟨w.heap.size, 0, none⟩ = some (.int .i64 N) := by rw [B1.out.cell (by simp)]; simp
    have g1 : w1.cell? ⟨w.heap.size, 1, none⟩ = some (.slice A m cm) := by rw [B1.out.cell (by simp)]; simp
    go_wp2_with fail
    refine (small_b (b := false) N A m cm _ (by simp; omega)).mono ?_
    rintro e w2 ⟨rfl, hb⟩
    have B2 : Hid (Below (w.heap.size + 1) (w.alloc (.cells #[.int .i64 N, .slice A m cm] 24)) w2) := nextB B1.out (by simp) hb
    clear hb
    have g0 : w2.cell? ⟨w.heap.size, 0, none⟩ = some (.int .i64 N) := by rw [B2.out.cell (by simp)]; simp
    have g1 : w2.cell? ⟨w.heap.size, 1, none⟩ = some (.slice A m cm) := by rw [B2.out.cell (by simp)]; simp
    go_wp2_with fail
    refine (awake_any _).mono ?_
    rintro e w3 ⟨rfl, hb⟩
    have B3 : Hid (Below (w.heap.size + 1) (w.alloc (.cells #[.int .i64 N, .slice A m cm] 24)) w3) := nextB B2.out (by simp) hb
    clear hb
    go_wp2
    go_ret
    exact ⟨rfl, HF.out _ B3.out⟩
  by_cases h2 : (70 : Int) < n
  · have hK : ∀ w', Below (w.heap.size + 1) (w.alloc (.cells #[.int .i64 N, .slice A m cm] 24)) w' → Keeps w w' := fun w' h => (Keeps.alloc w _).trans (Keeps.of_below h (by simp))
    have hF : ∀ w', Below (w.heap.size + 1) (w.alloc (.cells #[.int .i64 N, .slice A m cm] 24)) w' → Below w.heap.size w w' := fun w' h => ((Below.refl _ _).alloc (Nat.le_refl _) _).trans (h.mono (by omega))
    have HK := Lib.hid hK
    have HF := Lib.hid hF
    clear hK hF
    go_enter Try.func6, Try.ntmps6
    go_wp2_with fail
    refine (awake_any _).mono ?_
    rintro e w1 ⟨rfl, hb⟩
    have B1 : Hid (Below (w.heap.size + 1) (w.alloc (.cells #[.int .i64 N, .slice A m cm] 24)) w1) := nextB (Below.refl _ _) (by simp) hb
    clear hb
    have g0 : w1.cell? ⟨w.heap.size, 0, none⟩ = some (.int .i64 N) := by rw [B1.out.cell (by simp)]; simp
    have g1 : w1.cell? ⟨w.heap.size, 1, none⟩ = some (.slice A m cm) := by rw [B1.out.cell (by simp)]; simp
    go_wp2_with fail
    refine (small_b (b := true) N A m cm _ (by simp; omega)).mono ?_
    rintro e w2 ⟨rfl, hb⟩
    have B2 : Hid (Below (w.heap.size + 1) (w.alloc (.cells #[.int .i64 N, .slice A m cm] 24)) w2) := nextB B1.out (by simp) hb
    clear hb
    have g0 : w2.cell? ⟨w.heap.size, 0, none⟩ = some (.int .i64 N) := by rw [B2.out.cell (by simp)]; simp
    have g1 : w2.cell? ⟨w.heap.size, 1, none⟩ = some (.slice A m cm) := by rw [B2.out.cell (by simp)]; simp
    go_wp2_with fail
    refine (awake_any _).mono ?_
    rintro e w3 ⟨rfl, hb⟩
    have B3 : Hid (Below (w.heap.size + 1) (w.alloc (.cells #[.int .i64 N, .slice A m cm] 24)) w3) := nextB B2.out (by simp) hb
    clear hb
    go_wp2
    go_ret
    exact ⟨rfl, HF.out _ B3.out⟩
  by_cases hv : validB N es = false
  · have hvi : violB N es ps = false := by unfold violB exOk; rw [hv]; simp
    have hti : tightB N es ps = false := by unfold tightB exOk; rw [hv]; simp
    have HV := Lib.hid hv
    have HVI := Lib.hid hvi
    have HTI := Lib.hid hti
    clear hv hvi hti
    have hK : ∀ w', Below (w.heap.size + 1) (w.alloc (.cells #[.int .i64 N, .slice A m cm] 24)) w' → Keeps w w' := fun w' h => (Keeps.alloc w _).trans (Keeps.of_below h (by simp))
    have hF : ∀ w', Below (w.heap.size + 1) (w.alloc (.cells #[.int .i64 N, .slice A m cm] 24)) w' → Below w.heap.size w w' := fun w' h => ((Below.refl _ _).alloc (Nat.le_refl _) _).trans (h.mono (by omega))
    have HK := Lib.hid hK
    have HF := Lib.hid hF
    clear hK hF
    go_enter Try.func6, Try.ntmps6
    go_wp2_with fail
    refine (awake_any _).mono ?_
    rintro e w1 ⟨rfl, hb⟩
    have B1 : Hid (Below (w.heap.size + 1) (w.alloc (.cells #[.int .i64 N, .slice A m cm] 24)) w1) := nextB (Below.refl _ _) (by simp) hb
    clear hb
    have g0 : w1.cell? ⟨w.heap.size, 0, none⟩ = some (.int .i64 N) := by rw [B1.out.cell (by simp)]; simp
    have g1 : w1.cell? ⟨w.heap.size, 1, none⟩ = some (.slice A m cm) := by rw [B1.out.cell (by simp)]; simp
    go_wp2_with fail
    refine (small_b (b := true) N A m cm _ (by simp; omega)).mono ?_
    rintro e w2 ⟨rfl, hb⟩
    have B2 : Hid (Below (w.heap.size + 1) (w.alloc (.cells #[.int .i64 N, .slice A m cm] 24)) w2) := nextB B1.out (by simp) hb
    clear hb
    have g0 : w2.cell? ⟨w.heap.size, 0, none⟩ = some (.int .i64 N) := by rw [B2.out.cell (by simp)]; simp
    have g1 : w2.cell? ⟨w.heap.size, 1, none⟩ = some (.slice A m cm) := by rw [B2.out.cell (by simp)]; simp
    go_wp2_with fail
    refine (valid_b (b := false) N A m cm es _ (by omega) (H1.out.keep (HK.out _ B2.out)) HV.out).mono ?_
    rintro e w3 ⟨rfl, hb⟩
    have B3 : Hid (Below (w.heap.size + 1) (w.alloc (.cells #[.int .i64 N, .slice A m cm] 24)) w3) := nextB B2.out (by simp) hb
    clear hb
    have g0 : w3.cell? ⟨w.heap.size, 0, none⟩ = some (.int .i64 N) := by rw [B3.out.cell (by simp)]; simp
    have g1 : w3.cell? ⟨w.heap.size, 1, none⟩ = some (.slice A m cm) := by rw [B3.out.cell (by simp)]; simp
    go_wp2_with fail
    refine (violates_b (b := false) N A L m cm n cl es ps _ (by omega) (by omega) (H1.out.keep (HK.out _ B3.out)) (H2.out.keep (HK.out _ B3.out)) HVI.out).mono ?_
    rintro e w4 ⟨rfl, hb⟩
    have B4 : Hid (Below (w.heap.size + 1) (w.alloc (.cells #[.int .i64 N, .slice A m cm] 24)) w4) := nextB B3.out (by simp) hb
    clear hb
    have g0 : w4.cell? ⟨w.heap.size, 0, none⟩ = some (.int .i64 N) := by rw [B4.out.cell (by simp)]; simp
    have g1 : w4.cell? ⟨w.heap.size, 1, none⟩ = some (.slice A m cm) := by rw [B4.out.cell (by simp)]; simp
    go_wp2_with fail
    refine (tight_b (b := false) N A L m cm n cl es ps _ (by omega) (by omega) (H1.out.keep (HK.out _ B4.out)) (H2.out.keep (HK.out _ B4.out)) HTI.out).mono ?_
    rintro e w5 ⟨rfl, hb⟩
    have B5 : Hid (Below (w.heap.size + 1) (w.alloc (.cells #[.int .i64 N, .slice A m cm] 24)) w5) := nextB B4.out (by simp) hb
    clear hb
    have g0 : w5.cell? ⟨w.heap.size, 0, none⟩ = some (.int .i64 N) := by rw [B5.out.cell (by simp)]; simp
    have g1 : w5.cell? ⟨w.heap.size, 1, none⟩ = some (.slice A m cm) := by rw [B5.out.cell (by simp)]; simp
    go_wp2
    go_ret
    exact ⟨rfl, HF.out _ B5.out⟩
  have hv' : validB N es = true := by simpa using hv
  have hN60 := ((validB_iff N es).1 hv').2.1
  have HV := Lib.hid hv'
  have HVI : Hid (violB N es ps = (setOk N ps && decide (0 < excVal N es ps))) := viol_eq hv'
  have HTI : Hid (tightB N es ps = (setOk N ps && decide (excVal N es ps = 0))) := tight_eq hv'
  clear hv hv'
  cases hok : setOk N ps
  · rw [hok, Bool.false_and] at HVI HTI
    generalize hv : excVal N es ps = v
    have HEV := Lib.hid hv
    have HOK := Lib.hid hok
    clear hv hok
    have hK : ∀ w', Below (w.heap.size + 1) (w.alloc (.cells #[.int .i64 N, .slice A m cm] 24)) w' → Keeps w w' := fun w' h => (Keeps.alloc w _).trans (Keeps.of_below h (by simp))
    have hF : ∀ w', Below (w.heap.size + 1) (w.alloc (.cells #[.int .i64 N, .slice A m cm] 24)) w' → Below w.heap.size w w' := fun w' h => ((Below.refl _ _).alloc (Nat.le_refl _) _).trans (h.mono (by omega))
    have HK := Lib.hid hK
    have HF := Lib.hid hF
    clear hK hF
    go_enter Try.func6, Try.ntmps6
    go_wp2_with fail
    refine (awake_any _).mono ?_
    rintro e w1 ⟨rfl, hb⟩
    have B1 : Hid (Below (w.heap.size + 1) (w.alloc (.cells #[.int .i64 N, .slice A m cm] 24)) w1) := nextB (Below.refl _ _) (by simp) hb
    clear hb
    have g0 : w1.cell? ⟨w.heap.size, 0, none⟩ = some (.int .i64 N) := by rw [B1.out.cell (by simp)]; simp
    have g1 : w1.cell? ⟨w.heap.size, 1, none⟩ = some (.slice A m cm) := by rw [B1.out.cell (by simp)]; simp
    go_wp2_with fail
    refine (small_b (b := true) N A m cm _ (by simp; omega)).mono ?_
    rintro e w2 ⟨rfl, hb⟩
    have B2 : Hid (Below (w.heap.size + 1) (w.alloc (.cells #[.int .i64 N, .slice A m cm] 24)) w2) := nextB B1.out (by simp) hb
    clear hb
    have g0 : w2.cell? ⟨w.heap.size, 0, none⟩ = some (.int .i64 N) := by rw [B2.out.cell (by simp)]; simp
    have g1 : w2.cell? ⟨w.heap.size, 1, none⟩ = some (.slice A m cm) := by rw [B2.out.cell (by simp)]; simp
    go_wp2_with fail
    refine (valid_b (b := true) N A m cm es _ (by omega) (H1.out.keep (HK.out _ B2.out)) HV.out).mono ?_
    rintro e w3 ⟨rfl, hb⟩
    have B3 : Hid (Below (w.heap.size + 1) (w.alloc (.cells #[.int .i64 N, .slice A m cm] 24)) w3) := nextB B2.out (by simp) hb
    clear hb
    have g0 : w3.cell? ⟨w.heap.size, 0, none⟩ = some (.int .i64 N) := by rw [B3.out.cell (by simp)]; simp
    have g1 : w3.cell? ⟨w.heap.size, 1, none⟩ = some (.slice A m cm) := by rw [B3.out.cell (by simp)]; simp
    go_wp2_with fail
    refine (excess_b (b := false) (v := v) N A L m cm n cl es ps _ (by omega) (by omega) (H1.out.keep (HK.out _ B3.out)) (H2.out.keep (HK.out _ B3.out)) HV.out HEV.out HOK.out).mono ?_
    rintro e w4 ⟨rfl, hb⟩
    have B4 : Hid (Below (w.heap.size + 1) (w.alloc (.cells #[.int .i64 N, .slice A m cm] 24)) w4) := nextB B3.out (by simp) hb
    clear hb
    have g0 : w4.cell? ⟨w.heap.size, 0, none⟩ = some (.int .i64 N) := by rw [B4.out.cell (by simp)]; simp
    have g1 : w4.cell? ⟨w.heap.size, 1, none⟩ = some (.slice A m cm) := by rw [B4.out.cell (by simp)]; simp
    go_wp2_with fail
    refine (violates_b (b := false) N A L m cm n cl es ps _ (by omega) (by omega) (H1.out.keep (HK.out _ B4.out)) (H2.out.keep (HK.out _ B4.out)) HVI.out).mono ?_
    rintro e w5 ⟨rfl, hb⟩
    have B5 : Hid (Below (w.heap.size + 1) (w.alloc (.cells #[.int .i64 N, .slice A m cm] 24)) w5) := nextB B4.out (by simp) hb
    clear hb
    have g0 : w5.cell? ⟨w.heap.size, 0, none⟩ = some (.int .i64 N) := by rw [B5.out.cell (by simp)]; simp
    have g1 : w5.cell? ⟨w.heap.size, 1, none⟩ = some (.slice A m cm) := by rw [B5.out.cell (by simp)]; simp
    go_wp2_with fail
    refine (tight_b (b := false) N A L m cm n cl es ps _ (by omega) (by omega) (H1.out.keep (HK.out _ B5.out)) (H2.out.keep (HK.out _ B5.out)) HTI.out).mono ?_
    rintro e w6 ⟨rfl, hb⟩
    have B6 : Hid (Below (w.heap.size + 1) (w.alloc (.cells #[.int .i64 N, .slice A m cm] 24)) w6) := nextB B5.out (by simp) hb
    clear hb
    have g0 : w6.cell? ⟨w.heap.size, 0, none⟩ = some (.int .i64 N) := by rw [B6.out.cell (by simp)]; simp
    have g1 : w6.cell? ⟨w.heap.size, 1, none⟩ = some (.slice A m cm) := by rw [B6.out.cell (by simp)]; simp
    go_wp2
    go_ret
    exact ⟨rfl, HF.out _ B6.out⟩
  · rw [hok, Bool.true_and] at HVI HTI
    generalize hv : excVal N es ps = v at HVI HTI
    have HEV := Lib.hid hv
    have HOK := Lib.hid hok
    clear hv hok
    by_cases h0 : 0 < v
    · rw [decide_eq_true h0] at HVI
      rw [decide_eq_false (by omega : ¬ v = 0)] at HTI
      have h0b : (v == 0) = false := by simp; omega
      have hK : ∀ w', Below (w.heap.size + 1) (w.alloc (.cells #[.int .i64 N, .slice A m cm] 24)) w' → Keeps w w' := fun w' h => (Keeps.alloc w _).trans (Keeps.of_below h (by simp))
      have hF : ∀ w', Below (w.heap.size + 1) (w.alloc (.cells #[.int .i64 N, .slice A m cm] 24)) w' → Below w.heap.size w w' := fun w' h => ((Below.refl _ _).alloc (Nat.le_refl _) _).trans (h.mono (by omega))
      have HK := Lib.hid hK
      have HF := Lib.hid hF
      clear hK hF
      go_enter Try.func6, Try.ntmps6
      go_wp2_with fail
      refine (awake_any _).mono ?_
      rintro e w1 ⟨rfl, hb⟩
      have B1 : Hid (Below (w.heap.size + 1) (w.alloc (.cells #[.int .i64 N, .slice A m cm] 24)) w1) := nextB (Below.refl _ _) (by simp) hb
      clear hb
      have g0 : w1.cell? ⟨w.heap.size, 0, none⟩ = some (.int .i64 N) := by rw [B1.out.cell (by simp)]; simp
      have g1 : w1.cell? ⟨w.heap.size, 1, none⟩ = some (.slice A m cm) := by rw [B1.out.cell (by simp)]; simp
      go_wp2_with fail
      refine (small_b (b := true) N A m cm _ (by simp; omega)).mono ?_
      rintro e w2 ⟨rfl, hb⟩
      have B2 : Hid (Below (w.heap.size + 1) (w.alloc (.cells #[.int .i64 N, .slice A m cm] 24)) w2) := nextB B1.out (by simp) hb
      clear hb
      have g0 : w2.cell? ⟨w.heap.size, 0, none⟩ = some (.int .i64 N) := by rw [B2.out.cell (by simp)]; simp
      have g1 : w2.cell? ⟨w.heap.size, 1, none⟩ = some (.slice A m cm) := by rw [B2.out.cell (by simp)]; simp
      go_wp2_with fail
      refine (valid_b (b := true) N A m cm es _ (by omega) (H1.out.keep (HK.out _ B2.out)) HV.out).mono ?_
      rintro e w3 ⟨rfl, hb⟩
      have B3 : Hid (Below (w.heap.size + 1) (w.alloc (.cells #[.int .i64 N, .slice A m cm] 24)) w3) := nextB B2.out (by simp) hb
      clear hb
      have g0 : w3.cell? ⟨w.heap.size, 0, none⟩ = some (.int .i64 N) := by rw [B3.out.cell (by simp)]; simp
      have g1 : w3.cell? ⟨w.heap.size, 1, none⟩ = some (.slice A m cm) := by rw [B3.out.cell (by simp)]; simp
      go_wp2_with fail
      refine (excess_b (b := true) (v := v) N A L m cm n cl es ps _ (by omega) (by omega) (H1.out.keep (HK.out _ B3.out)) (H2.out.keep (HK.out _ B3.out)) HV.out HEV.out HOK.out).mono ?_
      rintro e w4 ⟨rfl, hb⟩
      have B4 : Hid (Below (w.heap.size + 1) (w.alloc (.cells #[.int .i64 N, .slice A m cm] 24)) w4) := nextB B3.out (by simp) hb
      clear hb
      have g0 : w4.cell? ⟨w.heap.size, 0, none⟩ = some (.int .i64 N) := by rw [B4.out.cell (by simp)]; simp
      have g1 : w4.cell? ⟨w.heap.size, 1, none⟩ = some (.slice A m cm) := by rw [B4.out.cell (by simp)]; simp
      go_wp2_with fail
      refine (violates_b (b := true) N A L m cm n cl es ps _ (by omega) (by omega) (H1.out.keep (HK.out _ B4.out)) (H2.out.keep (HK.out _ B4.out)) HVI.out).mono ?_
      rintro e w5 ⟨rfl, hb⟩
      have B5 : Hid (Below (w.heap.size + 1) (w.alloc (.cells #[.int .i64 N, .slice A m cm] 24)) w5) := nextB B4.out (by simp) hb
      clear hb
      have g0 : w5.cell? ⟨w.heap.size, 0, none⟩ = some (.int .i64 N) := by rw [B5.out.cell (by simp)]; simp
      have g1 : w5.cell? ⟨w.heap.size, 1, none⟩ = some (.slice A m cm) := by rw [B5.out.cell (by simp)]; simp
      go_wp2_with fail
      refine (tight_b (b := false) N A L m cm n cl es ps _ (by omega) (by omega) (H1.out.keep (HK.out _ B5.out)) (H2.out.keep (HK.out _ B5.out)) HTI.out).mono ?_
      rintro e w6 ⟨rfl, hb⟩
      have B6 : Hid (Below (w.heap.size + 1) (w.alloc (.cells #[.int .i64 N, .slice A m cm] 24)) w6) := nextB B5.out (by simp) hb
      clear hb
      have g0 : w6.cell? ⟨w.heap.size, 0, none⟩ = some (.int .i64 N) := by rw [B6.out.cell (by simp)]; simp
      have g1 : w6.cell? ⟨w.heap.size, 1, none⟩ = some (.slice A m cm) := by rw [B6.out.cell (by simp)]; simp
      go_wp2
      go_ret
      exact ⟨rfl, HF.out _ B6.out⟩
    rw [decide_eq_false h0] at HVI
    have h0c : decide (0 < v) = false := by simpa using h0
    by_cases h3 : v = 0
    · rw [decide_eq_true h3] at HTI
      have h0b : (v == 0) = true := by simpa using h3
      have H3 := Lib.hid h3
      clear h3
      have hK : ∀ w', Below (w.heap.size + 1) (w.alloc (.cells #[.int .i64 N, .slice A m cm] 24)) w' → Keeps w w' := fun w' h => (Keeps.alloc w _).trans (Keeps.of_below h (by simp))
      have hF : ∀ w', Below (w.heap.size + 1) (w.alloc (.cells #[.int .i64 N, .slice A m cm] 24)) w' → Below w.heap.size w w' := fun w' h => ((Below.refl _ _).alloc (Nat.le_refl _) _).trans (h.mono (by omega))
      have HK := Lib.hid hK
      have HF := Lib.hid hF
      clear hK hF
      go_enter Try.func6, Try.ntmps6
      go_wp2_with fail
      refine (awake_any _).mono ?_
      rintro e w1 ⟨rfl, hb⟩
      have B1 : Hid (Below (w.heap.size + 1) (w.alloc (.cells #[.int .i64 N, .slice A m cm] 24)) w1) := nextB (Below.refl _ _) (by simp) hb
      clear hb
      have g0 : w1.cell? ⟨w.heap.size, 0, none⟩ = some (.int .i64 N) := by rw [B1.out.cell (by simp)]; simp
      have g1 : w1.cell? ⟨w.heap.size, 1, none⟩ = some (.slice A m cm) := by rw [B1.out.cell (by simp)]; simp
      go_wp2_with fail
      refine (small_b (b := true) N A m cm _ (by simp; omega)).mono ?_
      rintro e w2 ⟨rfl, hb⟩
      have B2 : Hid (Below (w.heap.size + 1) (w.alloc (.cells #[.int .i64 N, .slice A m cm] 24)) w2) := nextB B1.out (by simp) hb
      clear hb
      have g0 : w2.cell? ⟨w.heap.size, 0, none⟩ = some (.int .i64 N) := by rw [B2.out.cell (by simp)]; simp
      have g1 : w2.cell? ⟨w.heap.size, 1, none⟩ = some (.slice A m cm) := by rw [B2.out.cell (by simp)]; simp
      go_wp2_with fail
      refine (valid_b (b := true) N A m cm es _ (by omega) (H1.out.keep (HK.out _ B2.out)) HV.out).mono ?_
      rintro e w3 ⟨rfl, hb⟩
      have B3 : Hid (Below (w.heap.size + 1) (w.alloc (.cells #[.int .i64 N, .slice A m cm] 24)) w3) := nextB B2.out (by simp) hb
      clear hb
      have g0 : w3.cell? ⟨w.heap.size, 0, none⟩ = some (.int .i64 N) := by rw [B3.out.cell (by simp)]; simp
      have g1 : w3.cell? ⟨w.heap.size, 1, none⟩ = some (.slice A m cm) := by rw [B3.out.cell (by simp)]; simp
      go_wp2_with fail
      refine (excess_b (b := true) (v := v) N A L m cm n cl es ps _ (by omega) (by omega) (H1.out.keep (HK.out _ B3.out)) (H2.out.keep (HK.out _ B3.out)) HV.out HEV.out HOK.out).mono ?_
      rintro e w4 ⟨rfl, hb⟩
      have B4 : Hid (Below (w.heap.size + 1) (w.alloc (.cells #[.int .i64 N, .slice A m cm] 24)) w4) := nextB B3.out (by simp) hb
      clear hb
      have g0 : w4.cell? ⟨w.heap.size, 0, none⟩ = some (.int .i64 N) := by rw [B4.out.cell (by simp)]; simp
      have g1 : w4.cell? ⟨w.heap.size, 1, none⟩ = some (.slice A m cm) := by rw [B4.out.cell (by simp)]; simp
      go_wp2_with fail
      refine (violates_b (b := false) N A L m cm n cl es ps _ (by omega) (by omega) (H1.out.keep (HK.out _ B4.out)) (H2.out.keep (HK.out _ B4.out)) HVI.out).mono ?_
      rintro e w5 ⟨rfl, hb⟩
      have B5 : Hid (Below (w.heap.size + 1) (w.alloc (.cells #[.int .i64 N, .slice A m cm] 24)) w5) := nextB B4.out (by simp) hb
      clear hb
      have g0 : w5.cell? ⟨w.heap.size, 0, none⟩ = some (.int .i64 N) := by rw [B5.out.cell (by simp)]; simp
      have g1 : w5.cell? ⟨w.heap.size, 1, none⟩ = some (.slice A m cm) := by rw [B5.out.cell (by simp)]; simp
      go_wp2_with fail
      refine (tight_b (b := true) N A L m cm n cl es ps _ (by omega) (by omega) (H1.out.keep (HK.out _ B5.out)) (H2.out.keep (HK.out _ B5.out)) HTI.out).mono ?_
      rintro e w6 ⟨rfl, hb⟩
      have B6 : Hid (Below (w.heap.size + 1) (w.alloc (.cells #[.int .i64 N, .slice A m cm] 24)) w6) := nextB B5.out (by simp) hb
      clear hb
      have g0 : w6.cell? ⟨w.heap.size, 0, none⟩ = some (.int .i64 N) := by rw [B6.out.cell (by simp)]; simp
      have g1 : w6.cell? ⟨w.heap.size, 1, none⟩ = some (.slice A m cm) := by rw [B6.out.cell (by simp)]; simp
      go_wp2
      go_ret
      exact ⟨rfl, HF.out _ B6.out⟩
    · rw [decide_eq_false h3] at HTI
      have h0b : (v == 0) = false := by simpa using h3
      have hK : ∀ w', Below (w.heap.size + 1) (w.alloc (.cells #[.int .i64 N, .slice A m cm] 24)) w' → Keeps w w' := fun w' h => (Keeps.alloc w _).trans (Keeps.of_below h (by simp))
      have hF : ∀ w', Below (w.heap.size + 1) (w.alloc (.cells #[.int .i64 N, .slice A m cm] 24)) w' → Below w.heap.size w w' := fun w' h => ((Below.refl _ _).alloc (Nat.le_refl _) _).trans (h.mono (by omega))
      have HK := Lib.hid hK
      have HF := Lib.hid hF
      clear hK hF
      go_enter Try.func6, Try.ntmps6
      go_wp2_with fail
      refine (awake_any _).mono ?_
      rintro e w1 ⟨rfl, hb⟩
      have B1 : Hid (Below (w.heap.size + 1) (w.alloc (.cells #[.int .i64 N, .slice A m cm] 24)) w1) := nextB (Below.refl _ _) (by simp) hb
      clear hb
      have g0 : w1.cell? ⟨w.heap.size, 0, none⟩ = some (.int .i64 N) := by rw [B1.out.cell (by simp)]; simp
      have g1 : w1.cell? ⟨w.heap.size, 1, none⟩ = some (.slice A m cm) := by rw [B1.out.cell (by simp)]; simp
      go_wp2_with fail
      refine (small_b (b := true) N A m cm _ (by simp; omega)).mono ?_
      rintro e w2 ⟨rfl, hb⟩
      have B2 : Hid (Below (w.heap.size + 1) (w.alloc (.cells #[.int .i64 N, .slice A m cm] 24)) w2) := nextB B1.out (by simp) hb
      clear hb
      have g0 : w2.cell? ⟨w.heap.size, 0, none⟩ = some (.int .i64 N) := by rw [B2.out.cell (by simp)]; simp
      have g1 : w2.cell? ⟨w.heap.size, 1, none⟩ = some (.slice A m cm) := by rw [B2.out.cell (by simp)]; simp
      go_wp2_with fail
      refine (valid_b (b := true) N A m cm es _ (by omega) (H1.out.keep (HK.out _ B2.out)) HV.out).mono ?_
      rintro e w3 ⟨rfl, hb⟩
      have B3 : Hid (Below (w.heap.size + 1) (w.alloc (.cells #[.int .i64 N, .slice A m cm] 24)) w3) := nextB B2.out (by simp) hb
      clear hb
      have g0 : w3.cell? ⟨w.heap.size, 0, none⟩ = some (.int .i64 N) := by rw [B3.out.cell (by simp)]; simp
      have g1 : w3.cell? ⟨w.heap.size, 1, none⟩ = some (.slice A m cm) := by rw [B3.out.cell (by simp)]; simp
      go_wp2_with fail
      refine (excess_b (b := true) (v := v) N A L m cm n cl es ps _ (by omega) (by omega) (H1.out.keep (HK.out _ B3.out)) (H2.out.keep (HK.out _ B3.out)) HV.out HEV.out HOK.out).mono ?_
      rintro e w4 ⟨rfl, hb⟩
      have B4 : Hid (Below (w.heap.size + 1) (w.alloc (.cells #[.int .i64 N, .slice A m cm] 24)) w4) := nextB B3.out (by simp) hb
      clear hb
      have g0 : w4.cell? ⟨w.heap.size, 0, none⟩ = some (.int .i64 N) := by rw [B4.out.cell (by simp)]; simp
      have g1 : w4.cell? ⟨w.heap.size, 1, none⟩ = some (.slice A m cm) := by rw [B4.out.cell (by simp)]; simp
      go_wp2_with fail
      refine (violates_b (b := false) N A L m cm n cl es ps _ (by omega) (by omega) (H1.out.keep (HK.out _ B4.out)) (H2.out.keep (HK.out _ B4.out)) HVI.out).mono ?_
      rintro e w5 ⟨rfl, hb⟩
      have B5 : Hid (Below (w.heap.size + 1) (w.alloc (.cells #[.int .i64 N, .slice A m cm] 24)) w5) := nextB B4.out (by simp) hb
      clear hb
      have g0 : w5.cell? ⟨w.heap.size, 0, none⟩ = some (.int .i64 N) := by rw [B5.out.cell (by simp)]; simp
      have g1 : w5.cell? ⟨w.heap.size, 1, none⟩ = some (.slice A m cm) := by rw [B5.out.cell (by simp)]; simp
      go_wp2_with fail
      refine (tight_b (b := false) N A L m cm n cl es ps _ (by omega) (by omega) (H1.out.keep (HK.out _ B5.out)) (H2.out.keep (HK.out _ B5.out)) HTI.out).mono ?_
      rintro e w6 ⟨rfl, hb⟩
      have B6 : Hid (Below (w.heap.size + 1) (w.alloc (.cells #[.int .i64 N, .slice A m cm] 24)) w6) := nextB B5.out (by simp) hb
      clear hb
      have g0 : w6.cell? ⟨w.heap.size, 0, none⟩ = some (.int .i64 N) := by rw [B6.out.cell (by simp)]; simp
      have g1 : w6.cell? ⟨w.heap.size, 1, none⟩ = some (.slice A m cm) := by rw [B6.out.cell (by simp)]; simp
      go_wp2
      go_ret
      exact ⟨rfl, HF.out _ B6.out⟩

set_option maxRecDepth 100000 in
theorem sparsityCounts_lifted (os : Os) (started : os.Started) (H : Type) (enc : TypeId × Value → H) :
    ReturnsInHanded {} Try.checked os 6 .any (Rows.sparsityCountsSpec.pre6 enc Try.prog Try.f6 Rows.sparsityCountsRow.domain false) (Rows.sparsityCountsSpec.post enc Try.prog Try.f6 false true false false) := by
  refine returnsInHanded_of_change (C := Try.checked) Tp.own started (by kernel_rfl) Try.func6
    (ChangeSpec.witness6 (enc := enc) (C := Try.checked) false ⟨#[], #[.agg #[.int .i64 0, .slice none 0 0], .slice none 0 0], []⟩ 8 (by kernel_rfl) (by kernel_rfl) (by kernel_rfl) (by kernel_rfl)) ?_
  intro W base args ds gs before hval0 hW hcnd _
  have hval : ∀ (j : Nat) t v, Try.f6.params[j]? = some t → args[j]? = some v → Value.okWide Try.prog W .any base t v := hval0
  have hW' := hW
  obtain ⟨p, q, hA0, hV, rfl, hfz, hnd⟩ := hW
  have hA : DataW.TrodAll enc Try.prog W 0 (fun _ => true) true Try.f6.params.toList args.toList ds p := hA0
  rw [Try.params6] at hA hval
  obtain ⟨v0, vs0, d0, ds0, p0, q0, hargs, rfl, rfl, h0, r0⟩ := trodAll_cons hA
  obtain ⟨v1, vs1, d1, ds1, p1, q1, rfl, rfl, rfl, h1, r1⟩ := trodAll_cons r0
  obtain ⟨rfl, rfl, rfl⟩ := trodAll_nil r1
  obtain rfl : args = #[v0, v1] := by cases args; simp_all
  obtain ⟨rfl, rfl⟩ := trodVars_none hV
  have lt0 : ∀ x ∈ p0, x.block < W.heap.size := by obtain ⟨m, hm⟩ := h0; exact DataW.trod_lt m _ _ _ hm
  obtain ⟨N0, A0, m0, c0, es0, rfl, wN0, hm0, he0, wE0⟩ := open_graph (hval 0 24 v0 rfl rfl) h0
  have lt1 : ∀ x ∈ p1, x.block < W.heap.size := by obtain ⟨m, hm⟩ := h1; exact DataW.trod_lt m _ _ _ hm
  obtain ⟨A1, m1, c1, l1, rfl, hm1, he1, wE1⟩ := open_intl (hval 1 30 v1 rfl rfl) h1
  clear hA0 hval0
  refine (law_counts N0 A0 A1 m0 c0 m1 c1 es0 l1 W hm0 hm1 he0 he1).mono fun e W' ⟨he, bel⟩ => ?_
  subst he
  exact ⟨_, rfl, _, _, _, [], _, [], hW', trodAll_mk1 (shut_bool Try.underlying4 _), (trodAll_cons_mk (Below.trod Tp.laidOut (by kernel_rfl) (of_decide_eq_true (by kernel_rfl)) h0 bel lt0) (trodAll_cons_mk (Below.trod Tp.laidOut (by kernel_rfl) (of_decide_eq_true (by kernel_rfl)) h1 bel lt1) trodAll_mk0)), rfl, bel.frame _, fun h => by cases h⟩

theorem sparsityCounts_holds : Rows.SparsityCountsSaid :=
  OpenClaim.holds_of_wide 6 Try.f6 rfl rfl rfl rfl rfl rfl rfl ⟨rfl, rfl, rfl, rfl, rfl⟩ rfl rfl rfl rfl rfl (by kernel_rfl) Try.func6 (by kernel_rfl)
    (of_decide_eq_true (by kernel_rfl)) (by unfold Func.isWrapper; first | (rw [if_pos (by decide +kernel)]; kernel_rfl) | (rw [if_neg (by decide +kernel)]; exact ⟨rfl, rfl⟩))
    (fun os started H enc _ => sparsityCounts_lifted os started H enc)
end Go.Proofs.Ytohmafmdpajmlaa
