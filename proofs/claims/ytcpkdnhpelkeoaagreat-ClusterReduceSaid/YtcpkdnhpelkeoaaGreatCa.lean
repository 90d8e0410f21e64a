/-
  setsquarelaw36.awake: the examples of the chapter hold.
-/
import Derived.Test.YtcpkdnhpelkeoaaGreatSpecCD
import Derived.Test.YtcpkdnhpelkeoaaGreatKc
import Derived.Test.YtcpkdnhpelkeoaaGreatEqQ
namespace Go.Proofs.YtcpkdnhpelkeoaaGreat
set_option linter.unusedVariables false
set_option linter.unusedSimpArgs false
open Go.RowKit Go.Sort
attribute [local go_sem ↓] Go.wp_at_zero Go.wp_at_succ

/-- A graph that lies in a block of its own. -/
def BoxAt (W : World) (v : Value) (N : Int) (es : List (Int × Int)) (m : Nat) : Prop :=
  ∃ b c, v = .pointer (some ⟨b, 0, none⟩) ∧ W.cell? ⟨b, 0, none⟩ = some (.int .i64 N) ∧ W.cell? ⟨b, 1, none⟩ = some (.slice (some c) m m) ∧ Rd W 2 (some c) m (prs es)
def AwK (w : World) (g h : Value) (W : World) : Prop := Below w.heap.size w W ∧ BoxAt W g 4 aw1 4 ∧ BoxAt W h 4 aw2 5
theorem aw_mg1 : mgR (mgV [0, 1] [1, 2] [0, 2]) = .tuple #[.int .i64 1, .int .i64 2, .int .i64 0, .bool true] := by rw [aw_m1]; rfl
theorem aw_mv2 : mgV [0, 1] [1, 2] [2, 3] = (0, 0, 0, false) := by decide +kernel
theorem aw_mg2 : mgR (mgV [0, 1] [1, 2] [2, 3]) = .tuple #[.int .i64 0, .int .i64 0, .int .i64 0, .bool false] := by rw [aw_mv2]; rfl
theorem short36 {ls : List (List Int)} (h : shortL ls) : lensL ls := fun k => Nat.le_trans (h k) (by omega)
theorem aw_call1 (A : Option Addr) (c : Nat) (w : World) (he : Rd w 2 A 4 (prs aw1)) : Calls Tryz.prog 10 #[.agg #[.int .i64 4, .slice A 4 c]] w fun e w' => Below w.heap.size w w' ∧ ∃ C nC c', e = .returned (.slice C nC c') ∧ RdL w' C nC [[0, 1, 2], [2, 3]] :=
  (clusters_any 4 A 4 c aw1 w (by omega) he aw_v1).mono fun e w' ⟨hb, C, nC, c', ls, he, hl, ho⟩ => ⟨hb, C, nC, c', he, by rw [← aw_clu hl]; exact ho.rd⟩
theorem aw_call2 (A P : Option Addr) (c d : Nat) (w : World) (hd : 4 ≤ d) (he : Rd w 2 A 5 (prs aw2)) (hp : Rd w 1 P 4 (ints [0, 1, 2, 3])) : Calls Tryz.prog 12 #[.agg #[.int .i64 4, .slice A 5 c], .slice P 4 d] w fun e w' => Below w.heap.size w w' ∧ ∃ C nC c', e = .returned (.slice C nC c') ∧ nC = 1 ∧ Rd w' 2 C nC (prs [(0, 3)]) :=
  (virtual_any 4 A P 5 c 4 d aw2 [0, 1, 2, 3] w (by omega) (by omega) hd he hp).mono fun e w' ⟨hb, C, nC, c', he, ho⟩ => ⟨hb, C, nC, c', he, by rw [aw_vir] at ho; have := ho.plen; simpa using this.symm, by rw [aw_vir] at ho; exact ho.rd⟩
theorem aw_lens : lensL [[0, 1, 2], [2, 3]] := fun k => by
  match k with
  | 0 => decide
  | 1 => decide
  | k + 2 => simp
set_option maxRecDepth 100000 in
set_option maxHeartbeats 4000000 in
theorem awake36_any (w : World) : Calls Tryz.prog 4 #[] w fun e w' => e = .returned (.bool true) ∧ Below w.heap.size w w' := by
  go_enter Tryz.func4, Tryz.ntmps4
  go_upto_region 2 with fail
  go_cut [1, 2] (fun t g W => AwK w t g W)
  case first =>
    go_wp2
    go_meet
    refine ⟨?_, ⟨_, ⟨w.heap.size, 0, none⟩, rfl, ?_, ?_, ?_⟩, ⟨_, ⟨w.heap.size + 1 + 1, 0, none⟩, rfl, ?_, ?_, ?_⟩⟩
    · exact ((((Below.refl _ _).alloc (Nat.le_refl _) _).alloc (by simp) _).alloc (by simp; omega) _).alloc (by simp; omega) _
    · exact Keeps.alloc _ _ _ _ (Keeps.alloc _ _ _ _ (cell_at (by simp) _ _ _ rfl))
    · exact Keeps.alloc _ _ _ _ (Keeps.alloc _ _ _ _ (cell_at (by simp) _ _ _ rfl))
    · exact (((rd_lit2_at rfl aw1 _).keep (Keeps.alloc _ _)).keep (Keeps.alloc _ _)).keep (Keeps.alloc _ _)
    · exact cell_at (by simp) _ _ _ rfl
    · exact cell_at (by simp) _ _ _ rfl
    · exact (rd_lit2_at (by simp) aw2 _).keep (Keeps.alloc _ _)
  case rest =>
    obtain ⟨hb, ⟨b1, c1, rfl, g0, g1, hg⟩, ⟨b2, c2, rfl, k0, k1, hk⟩⟩ := hcut
    rename World => wc
    have HB := Lib.hid hb
    have HG := Lib.hid hg
    have HK := Lib.hid hk
    have G0 := Lib.hid g0
    have G1 := Lib.hid g1
    have K0 := Lib.hid k0
    have K1 := Lib.hid k1
    have hz := hb.size
    clear hb hg hk g0 g1 k0 k1
    go_wp2_with fail
    refine (merge_any _ _ _ 2 2 2 2 2 2 [0, 1] [1, 2] [0, 2] _ (by omega) (by omega) (by omega) (((rd_lit_at rfl [0, 1] _).keep (Keeps.alloc _ _)).keep (Keeps.alloc _ _)) ((rd_lit_at (by simp) [1, 2] _).keep (Keeps.alloc _ _)) (rd_lit_at (by simp) [0, 2] _)).mono ?_
    rintro e w1 ⟨rfl, hb1⟩
    have X1 : Hid (Below wc.heap.size wc w1) := Lib.hid ((((((Below.refl _ _).alloc (Nat.le_refl _) _).alloc (by simp) _).alloc (by simp; omega) _)).trans (hb1.mono (by simp; omega)))
    rw [aw_mg1]
    clear hb1
    go_wp2_with fail
    refine (merge_any _ _ _ 2 2 2 2 2 2 [0, 1] [1, 2] [2, 3] _ (by omega) (by omega) (by omega) (((rd_lit_at rfl [0, 1] _).keep (Keeps.alloc _ _)).keep (Keeps.alloc _ _)) ((rd_lit_at (by simp) [1, 2] _).keep (Keeps.alloc _ _)) (rd_lit_at (by simp) [2, 3] _)).mono ?_
    rintro e w2 ⟨rfl, hb2⟩
    have X2 : Hid (Below wc.heap.size wc w2) := Lib.hid (X1.out.trans ((((((Below.refl _ _).alloc (Nat.le_refl _) _).alloc (by simp) _).alloc (by simp; omega) _)).trans (hb2.mono (by simp; omega)) |>.mono X1.out.size))
    rw [aw_mg2]
    clear hb2
    have kk2 := Keeps.of_below X2.out (Nat.le_refl _)
    have g20 := kk2 _ _ G0.out
    have g21 := kk2 _ _ G1.out
    go_wp2_with fail
    refine (aw_call1 (some c1) 4 _ (HG.out.keep kk2)).mono ?_
    rintro e w3 ⟨hb3, C3, n3, d3, rfl, hr3⟩
    have X3 : Hid (Below wc.heap.size wc w3) := Lib.hid (X2.out.trans (hb3.mono X2.out.size))
    have R3 := Lib.hid hr3
    have hn3 : n3 = 2 := hr3.1.symm
    have HN3 := Lib.hid hn3
    clear hb3 hr3 kk2 g20 g21 hn3
    go_wp2_with fail
    refine (same36_b (b := true) C3 _ n3 d3 2 2 [[0, 1, 2], [2, 3]] [[0, 1, 2], [2, 3]] _ (by have := HN3.out; omega) (by omega) aw_lens aw_lens (((R3.out.keep (Keeps.alloc _ _)).keep (Keeps.alloc _ _)).keep (Keeps.alloc _ _)) (rdL_lit_at (by simp) [(some ⟨w3.heap.size, 0, none⟩, 3), (some ⟨w3.heap.size + 1, 0, none⟩, 2)] [[0, 1, 2], [2, 3]] 24 rfl ?_) (by decide)).mono ?_
    · intro i hd l h1 h2
      rcases i with _ | _ | i
      · simp at h1 h2; subst h1 h2
        exact (rd_lit_at rfl [0, 1, 2] _).keep (Keeps.alloc _ _)
      · simp at h1 h2; subst h1 h2
        exact rd_lit_at (by simp) [2, 3] _
      · simp at h1
    rintro e w4 ⟨rfl, hb4⟩
    have X4 : Hid (Below wc.heap.size wc w4) := Lib.hid (X3.out.trans (((((Below.refl _ _).alloc (Nat.le_refl _) _).alloc (by simp) _).alloc (by simp; omega) _).trans (hb4.mono (by simp; omega)) |>.mono X3.out.size))
    clear hb4
    have kk4 := Keeps.of_below X4.out (Nat.le_refl _)
    have g40 := kk4 _ _ K0.out
    have g41 := kk4 _ _ K1.out
    go_wp2_with fail
    refine (aw_call2 (some c2) _ 5 4 _ (by omega) ((HK.out.keep kk4).keep (Keeps.alloc _ _)) (rd_lit_at rfl [0, 1, 2, 3] _)).mono ?_
    rintro e w5 ⟨hb5, C5, n5, d5, rfl, hn5, hr5⟩
    have X5 : Hid (Below wc.heap.size wc w5) := Lib.hid (X4.out.trans (((Below.refl _ _).alloc (Nat.le_refl _) _).trans (hb5.mono (by simp)) |>.mono X4.out.size))
    have R5 := Lib.hid hr5
    have HN5 := Lib.hid hn5
    clear hb5 hr5 kk4 g40 g41 hn5
    go_wp2_with fail
    refine (pairs36_b (b := true) C5 _ n5 d5 1 1 [(0, 3)] [(0, 3)] _ (by have := HN5.out; omega) (by omega) (R5.out.keep (Keeps.alloc _ _)) (rd_lit2_at rfl [(0, 3)] _) (by decide)).mono ?_
    rintro e w6 ⟨rfl, hb6⟩
    have X6 : Hid (Below w.heap.size w w6) := Lib.hid (HB.out.trans (X5.out.trans (((Below.refl _ _).alloc (Nat.le_refl _) _).trans (hb6.mono (by simp)) |>.mono X5.out.size) |>.mono hz))
    clear hb6
    go_wp2_with fail
    go_ret
    exact ⟨rfl, X6.out⟩
end Go.Proofs.YtcpkdnhpelkeoaaGreat
