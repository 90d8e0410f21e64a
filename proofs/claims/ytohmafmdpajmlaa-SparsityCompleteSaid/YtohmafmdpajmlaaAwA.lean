/-
  setsquarelaw35.triangle and awake: the examples of the chapter hold.
-/
import Derived.Test.YtohmafmdpajmlaaW10
import Derived.Test.YtohmafmdpajmlaaLit
namespace Go.Proofs.Ytohmafmdpajmlaa
set_option linter.unusedVariables false
set_option linter.unusedSimpArgs false
open Go.RowKit Go.Sort

def tri : List (Int × Int) := [(0, 1), (0, 2), (1, 2)]
def four : List (Int × Int) := [(0, 1), (0, 2), (0, 3), (1, 2), (1, 3), (2, 3)]
def awT : List (List Int) := [[0, 2, 2, 0, 1, 1], [1, 2, 1, 0, 0, 2], [0, 0, 1, 1, 2, 2]]

theorem triangle_any (w : World) :
    Calls Try.prog 28 #[] w fun e w' => ∃ a, e = .returned (.agg #[.int .i64 3, .slice (some a) 3 3]) ∧ Rd w' 2 (some a) 3 (prs tri) ∧ Below w.heap.size w w' := by
  go_enter Try.func28, Try.ntmps28
  go_wp2
  refine bodyPost_ret (v := .agg #[.int .i64 3, .slice (some ⟨w.heap.size + 1, 0, none⟩) 3 3]) (by simp [results, Try.results28, go_sem]) rfl ⟨_, rfl, ?_, ?_⟩
  · exact rd_lit2_at (by simp) tri _
  · exact ((Below.refl _ _).alloc (Nat.le_refl _) _).alloc (by simp) _

def AwOk (w : World) (t g : Value) (W : World) : Prop :=
  Below w.heap.size w W ∧ (∃ a, t = .slice (some a) 3 3 ∧ RdL W (some a) 3 awT) ∧ ∃ b c, g = .pointer (some ⟨b, 0, none⟩) ∧ W.cell? ⟨b, 0, none⟩ = some (.int .i64 4) ∧ W.cell? ⟨b, 1, none⟩ = some (.slice (some c) 6 6) ∧ Rd W 2 (some c) 6 (prs four)

set_option maxHeartbeats 1000000 in
theorem awake_any (w : World) : Calls Try.prog 10 #[] w fun e w' => e = .returned (.bool true) ∧ Below w.heap.size w w' := by
  go_enter Try.func10, Try.ntmps10
  go_upto_region 2 with fail
  go_cut [1, 2] (fun t g W => AwOk w t g W)
  case first =>
    go_wp2
    go_meet
    refine ⟨?_, ⟨_, rfl, ?_⟩, _, ⟨w.heap.size + 1 + 1 + 1 + 1, 0, none⟩, rfl, ?_, ?_, ?_⟩
    rotate_left 2
    · exact cell_at (by simp) _ _ _ rfl
    · exact cell_at (by simp) _ _ _ rfl
    rotate_left 1
    · exact (((((((Below.refl _ _).alloc (Nat.le_refl _) _).alloc (by simp) _).alloc (by simp; omega) _).alloc (by simp; omega) _).alloc (by simp; omega) _).alloc (by simp; omega) _)
    · refine ((rdL_lit_at (by simp) [(some ⟨w.heap.size, 0, none⟩, 6), (some ⟨w.heap.size + 1, 0, none⟩, 6), (some ⟨w.heap.size + 1 + 1, 0, none⟩, 6)] awT 30 rfl ?_).keep (Keeps.alloc _ _)).keep (Keeps.alloc _ _)
      intro i hd l h1 h2
      rcases i with _ | _ | _ | i
      · simp [awT] at h1 h2; subst h1 h2
        exact ((rd_lit_at rfl [0, 2, 2, 0, 1, 1] _).keep (Keeps.alloc _ _)).keep (Keeps.alloc _ _)
      · simp [awT] at h1 h2; subst h1 h2
        exact (rd_lit_at (by simp) [1, 2, 1, 0, 0, 2] _).keep (Keeps.alloc _ _)
      · simp [awT] at h1 h2; subst h1 h2
        exact rd_lit_at (by simp) [0, 0, 1, 1, 2, 2] _
      · simp at h1
    · exact (rd_lit2_at (by simp) four _).keep (Keeps.alloc _ _)
  case rest =>
    obtain ⟨hb, ⟨a, rfl, ht⟩, b, c, rfl, g0, g1, hg⟩ := hcut
    have HB := Lib.hid hb
    have HT := Lib.hid ht
    have HG := Lib.hid hg
    have G0 := Lib.hid g0
    have G1 := Lib.hid g1
    clear hb ht hg g0 g1
    go_wp2_with fail
    refine (triangle_any _).mono ?_
    rintro e w1 ⟨a1, rfl, hr1, hb1⟩
    have K1 : Hid (Keeps wc w1) := Keeps.of_below hb1 (Nat.le_refl _)
    have HR1 := Lib.hid hr1
    have B1 : Hid (Below w.heap.size w w1) := HB.out.trans (hb1.mono HB.out.size)
    clear hr1 hb1
    go_wp2_with fail
    refine (sparse_b (b := true) 3 (some a1) (some a) 3 3 3 3 tri awT w1 (by omega) (by omega) (fun j hj => ?_) HR1.out (HT.out.keep K1.out) (by decide +kernel)).mono ?_
    · match j, hj with
      | 0, _ => decide
      | 1, _ => decide
      | 2, _ => decide
    rintro e w2 ⟨rfl, hb2⟩
    have K2 : Hid (Keeps wc w2) := K1.out.trans (Keeps.of_below hb2 (Nat.le_refl _))
    have B2 : Hid (Below w.heap.size w w2) := B1.out.trans (hb2.mono B1.out.size)
    clear hb2
    go_wp2_with fail
    refine (triangle_any _).mono ?_
    rintro e w3 ⟨a3, rfl, hr3, hb3⟩
    have HR3 := Lib.hid hr3
    clear hr3
    have K3 : Hid (Keeps wc w3) := K2.out.trans ((Keeps.of_below hb3 (Nat.le_refl _)))
    have B3 : Hid (Below w.heap.size w w3) := B2.out.trans (hb3.mono B2.out.size)
    clear hb3
    go_wp2_with fail
    refine (laman_b (b := true) 3 (some a3) (some a) 3 3 3 3 tri awT w3 (by omega) (by omega) (fun j hj => ?_) HR3.out (HT.out.keep K3.out) (by decide +kernel)).mono ?_
    · match j, hj with
      | 0, _ => decide
      | 1, _ => decide
      | 2, _ => decide
    rintro e w4 ⟨rfl, hb4⟩
    have K4 : Hid (Keeps wc w4) := K3.out.trans ((Keeps.of_below hb4 (Nat.le_refl _)))
    have B4 : Hid (Below w.heap.size w w4) := B3.out.trans (hb4.mono B3.out.size)
    clear hb4
    go_wp2_with fail
    refine (triangle_any _).mono ?_
    rintro e w5 ⟨a5, rfl, hr5, hb5⟩
    have HR5 := Lib.hid hr5
    clear hr5
    have K5 : Hid (Keeps wc w5) := K4.out.trans ((Keeps.of_below hb5 (Nat.le_refl _)))
    have B5 : Hid (Below w.heap.size w w5) := B4.out.trans (hb5.mono B4.out.size)
    clear hb5
    go_wp2_with fail
    refine (tight_b (b := true) 3 (some a5) _ 3 3 3 3 tri [0, 1, 2] _ (by omega) (by omega) (HR5.out.keep (Keeps.alloc _ _)) (rd_lit_at rfl [0, 1, 2] _) (by decide +kernel)).mono ?_
    rintro e w6 ⟨rfl, hb6⟩
    have K6 : Hid (Keeps wc w6) := (K5.out.trans (Keeps.alloc _ _)).trans (Keeps.of_below hb6 (Nat.le_refl _))
    have B6 : Hid (Below w.heap.size w w6) := (B5.out.alloc B5.out.size _).trans (hb6.mono (by have := B5.out.size; simp; omega))
    have g60 := K6.out _ _ G0.out
    have g61 := K6.out _ _ G1.out
    clear hb6
    go_wp2_with fail
    refine (violates_b (b := true) 4 (some c) _ 6 6 4 4 four [0, 1, 2, 3] _ (by omega) (by omega) (HG.out.keep (K6.out.trans (Keeps.alloc _ _))) (rd_lit_at rfl [0, 1, 2, 3] _) (by decide +kernel)).mono ?_
    rintro e w7 ⟨rfl, hb7⟩
    have K7 : Hid (Keeps wc w7) := (K6.out.trans (Keeps.alloc _ _)).trans (Keeps.of_below hb7 (Nat.le_refl _))
    have B7 : Hid (Below w.heap.size w w7) := (B6.out.alloc B6.out.size _).trans (hb7.mono (by have := B6.out.size; simp; omega))
    have g70 := K7.out _ _ G0.out
    have g71 := K7.out _ _ G1.out
    clear hb7
    go_wp2_with fail
    refine (violates_b (b := false) 4 (some c) _ 6 6 3 3 four [0, 1, 2] _ (by omega) (by omega) (HG.out.keep (K7.out.trans (Keeps.alloc _ _))) (rd_lit_at rfl [0, 1, 2] _) (by decide +kernel)).mono ?_
    rintro e w8 ⟨rfl, hb8⟩
    have B8 : Hid (Below w.heap.size w w8) := (B7.out.alloc B7.out.size _).trans (hb8.mono (by have := B7.out.size; simp; omega))
    clear hb8
    go_wp2_with fail
    go_ret
    exact ⟨rfl, B8.out⟩
end Go.Proofs.Ytohmafmdpajmlaa
