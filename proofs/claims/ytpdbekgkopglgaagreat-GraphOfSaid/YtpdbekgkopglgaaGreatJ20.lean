/-
  Contracts and lemmas for the statement, joined: Vq, Vr.
-/
import Derived.Test.YtpdbekgkopglgaaGreatJ17
import Derived.Test.YtpdbekgkopglgaaGreatJ19
import Derived.Deep.RegionHeld3
import Derived.Test.YtpdbekgkopglgaaGreatJ2
namespace Go.Proofs.YtpdbekgkopglgaaGreat
set_option linter.unusedVariables false
set_option linter.unusedSimpArgs false
open Go.RowKit Go.Sort
attribute [local go_sem ↓] Go.wp_at_zero Go.wp_at_succ

set_option maxRecDepth 100000 in
set_option maxHeartbeats 16000000 in
theorem gof_any (P : Option Addr) (n c : Nat) (R : Option Addr) (m d : Nat) (G : Option Addr) (g gc : Nat) (A : Option Addr) (a ac : Nat) (H : Option Addr) (h hc : Nat) (C : Option Addr) (k kc : Nat) (f : Nat → Option (Int × Int)) (w : World) (hn : n ≤ 10) (hk : k ≤ 20) (hf : ∀ i, i < k → ConIs w C i (f i)) : Calls Tryz.prog 8 #[.agg (sketchC P n c R m d G g gc A a ac H h hc C k kc)] w (OfGPost w n (mkE n (distL f k))) := by
  unfold sketchC
  obtain ⟨W, hW⟩ : ∃ W, W = (w.alloc (.cells #[.slice P n c, .slice R m d, .slice G g gc, .slice A a ac, .slice H h hc, .slice C k kc] 29)).alloc (.cells #[.int .i64 0, .slice none 0 0] 37) := ⟨_, rfl⟩
  have b0 : CellsAt W w.heap.size #[.slice P n c, .slice R m d, .slice G g gc, .slice A a ac, .slice H h hc, .slice C k kc] 29 := by rw [hW]; exact (CellsAt.new _ _ _).alloc _
  have b1 : CellsAt W (w.heap.size + 1) #[.int .i64 0, .slice none 0 0] 37 := by rw [hW]; exact CellsAt.new_at (by simp) _ _
  have BW : Hid (Below w.heap.size w W) := Lib.hid (by rw [hW]; exact ((Below.refl _ _).alloc (Nat.le_refl _) _).alloc (by simp) _)
  have kW : Keeps w W := by rw [hW]; exact (Keeps.alloc _ _).trans (Keeps.alloc _ _)
  have HF : Hid (∀ i, i < k → ConIs W C i (f i)) := Lib.hid (fun i hi => (hf i hi).keep kW)
  have B0 := Lib.hid b0
  have G0 := Lib.hid b1
  have hWz : w.heap.size + 2 ≤ W.heap.size := b1.lt
  have e5 := b0.at (j := 5) rfl
  clear b0 b1 kW hf
  go_enter Tryz.func8, Tryz.ntmps8
  go_upto_region 1 with fail
  rw [← hW]
  have HW := Lib.hid hW
  clear hW
  go_wp2_with fail
  clear e5
  go_loopg [11, 3] k (fun gg iv lv wr => ∃ (i : Nat) (B : Option Addr) (q : Nat) (cB : Nat), iv = .int .i64 (i : Int) ∧ i + gg = k ∧ lv = .slice B q cB ∧ q = (distL f i).length ∧ Own wr W.heap.size 41 2 B q cB (prs (distL f i)) ∧ Below W.heap.size W wr)
  case atStart => exact ⟨0, none, 0, 0, rfl, by omega, rfl, rfl, Own.nil _ _ _ _, Below.refl _ _⟩
  case round =>
    obtain ⟨i, B, q, cB, rfl, hig, rfl, hql, hown, hb⟩ := hrel
    rename World => wr
    have HQL := Lib.hid hql
    have hq20 : q ≤ 20 := by have := distL_len f i; omega
    have OWN := Lib.hid hown
    have BR := Lib.hid hb
    have B1 := Lib.hid (B0.out.below hb (by omega))
    have BWR := Lib.hid (BW.out.trans (hb.mono (by omega)))
    have KR := Lib.hid (Keeps.of_below hb (Nat.le_refl _))
    have hzr := hb.size
    have e5 := B1.out.at (j := 5) rfl
    have e0 := B1.out.at (j := 0) rfl
    clear hown hb hql
    by_cases h5 : i < k
    · have h5i : (i : Int) < (k : Int) := by omega
      have h50 : (0 : Int) ≤ (i : Int) := by omega
      obtain ⟨ad, kind, P1, n1, c1, C1, m1, d1, V1, v1, v1c, side, rfl, hel0, hn1, hor⟩ := HF.out i h5
      have hel := hel0.keep KR.out
      have HOR := Lib.hid hor
      have f0 := hel.zero (x := .int .i64 kind) rfl
      have f1 := hel.at (j := 1) (by omega) (x := .slice P1 n1 c1) rfl
      have f2 := hel.at (j := 2) (by omega) (x := .slice C1 m1 d1) rfl
      have f3 := hel.at (j := 3) (by omega) (x := .slice V1 v1 v1c) rfl
      have f4 := hel.at (j := 4) (by omega) (x := .int .i64 side) rfl
      obtain ⟨w5, hw5⟩ : ∃ w5, w5 = wr.alloc (.cells #[.int .i64 kind, .slice P1 n1 c1, .slice C1 m1 d1, .slice V1 v1 v1c, .int .i64 side] 60) := ⟨_, rfl⟩
      have x5 : CellsAt w5 wr.heap.size #[.int .i64 kind, .slice P1 n1 c1, .slice C1 m1 d1, .slice V1 v1 v1c, .int .i64 side] 60 := by rw [hw5]; exact CellsAt.new _ _ _
      have hb5 : Below wr.heap.size wr w5 := by rw [hw5]; exact (Below.refl _ _).alloc (Nat.le_refl _) _
      have OWN5 : Hid (Own w5 W.heap.size 41 2 B q cB (prs (distL f i))) := Lib.hid (by rw [hw5]; exact OWN.out.alloc _)
      have BR5 := Lib.hid (BR.out.trans (hb5.mono hzr))
      have K5 := Lib.hid (Keeps.of_below hb5 (Nat.le_refl _))
      have hz5 : w5.heap.size = wr.heap.size + 1 := by rw [hw5]; simp
      have g0 := x5.at (j := 0) rfl
      have g1 := x5.at (j := 1) rfl
      clear x5 hel hel0 hb5 hor
      go_upto_region 5 with fail
      rw [← hw5]
      have HW5 := Lib.hid hw5
      clear hw5 f0 f1 f2 f3 f4 e0 e5
      have hbx : wr.heap.size < w5.heap.size := by omega
      have HZ5 := Lib.hid hz5
      clear hz5
      cases hk2 : (kind == 2)
      · have hfi : f i = none := by
          rcases HOR.out with h | ⟨x, y, pd, -, h, -⟩
          · exact h.1
          · subst h; cases hk2
        have HFI := Lib.hid hfi
        clear hfi
        go_wp2_with fail
        go_roundg (k - (i + 1))
        case measure => omega
        case rel => exact ⟨i + 1, B, q, cB, by go_num, by omega, rfl, by rw [distL_none HFI.out]; exact HQL.out, by rw [distL_none HFI.out]; exact OWN5.out, BR5.out⟩
      · obtain ⟨x, y, pd, hfi, -, rfl, rfl, hx, hy⟩ : ∃ x y pd, f i = some (x, y) ∧ kind = 2 ∧ n1 = 2 ∧ P1 = some pd ∧ W.cell? pd = some (.int .i64 x) ∧ W.cell? ⟨pd.block, pd.off + 1, none⟩ = some (.int .i64 y) := by
          rcases HOR.out with h | h
          · exact absurd (hk2.symm.trans h.2) (by decide)
          · exact h
        have HFI := Lib.hid hfi
        have X0 := K5.out _ _ (KR.out _ _ hx)
        have X1 := K5.out _ _ (KR.out _ _ hy)
        have hpd := World.block_lt_of_cell? _ _ hx
        have CN : Hid (∀ (p : Addr) (v : Value), w5.cell? p = some v → (p.block = wr.heap.size ∨ p.block = pd.block) → ∀ o w4, World.grownBy (w5.drew.alloc o) w4 (blk B) → w4.cell? p = some v) := Lib.hid (fun p v h1 h2 o w4 hg => World.grownBy.cell hg (cell_al (show w5.drew.cell? p = some v from h1) o) (fun e => by
          have h3 := OWN.out.lt e.symm
          rcases h2 with h2 | h2 <;> omega))
        clear hfi hx hy
        go_upto_region 6 with fail
        go_region_held3 (fun w' => w'.cell? ⟨wr.heap.size, 1, none⟩ = some (.slice (some pd) 2 c1) ∧ w'.cell? pd = some (.int .i64 x) ∧ w'.cell? ⟨pd.block, pd.off + 1, none⟩ = some (.int .i64 y)) (first | exact SW | exact ⟨g1, X0, X1⟩ | exact ⟨cell_al (show w5.drew.cell? _ = _ from g1) _, cell_al (show w5.drew.cell? _ = _ from X0) _, cell_al (show w5.drew.cell? _ = _ from X1) _⟩ | go_keep)
          ((first
            | (refine step_app _ rfl (.tmp 24) (.tmp 34) 35 rfl W.heap.size 41 (.agg #[.int .i64 0, .int .i64 0]) 2 16 Tryz.underlying35 info_pair rfl (by decide) B q cB (prs (distL f i)) (by simp [Act.eval, Act.put]) ((own_dr OWN5.out).alloc _) (some ⟨w5.heap.size, 0, none⟩) 1 1 (prs [(x, y)]) (by simp [Act.eval, Act.put]) (rd_lit2_at rfl [(x, y)] _) (prs_one _) (by omega) (by unfold maxLen; omega) (by simp; omega) ?_; intro B4 c4 w4 ho4 hg4 hb4; have SW := And.intro (CN.out _ _ g1 (.inl rfl) _ _ hg4) (And.intro (CN.out _ _ X0 (.inr rfl) _ _ hg4) (CN.out _ _ X1 (.inr rfl) _ _ hg4)); have OWN4 := Lib.hid ho4; have BR4 : Hid (Below W.heap.size W w4) := Lib.hid (Below.app (belowAl (belowDr BR5.out) _) hg4 (by simp; omega) (fun k hk => (OWN5.out.lt hk).1)); clear ho4 hg4 hb4)
            | fail))
        all_goals
         clear g0 g1 X0 X1
         go_wp2_with fail
         go_roundg (k - (i + 1))
         case measure => omega
         case rel => exact ⟨i + 1, B4, q + 1, c4, by go_num, by omega, rfl, by rw [distL_some HFI.out, List.length_append, ← HQL.out]; rfl, by rw [distL_some HFI.out, prs_app]; exact OWN4.out, BR4.out⟩
    · obtain rfl : i = k := by omega
      have cM := gmake_any (n : Int) B q cB (distL f i) wr (by omega) OWN.out.rd
      have G1 := Lib.hid (G0.out.below BR.out (by omega))
      cases hr : mkE (n : Int) (distL f i) with
      | none =>
        rw [hr] at cM
        go_wp2_with fail
        refine Calls.mono cM ?_
        rintro _ w6 ⟨hb6, rfl⟩
        have G6 := Lib.hid (G1.out.below hb6 G1.out.lt)
        have BW6 := Lib.hid (BWR.out.trans (hb6.mono BWR.out.size))
        obtain ⟨w7, hw7⟩ : ∃ w7, w7 = w6.alloc (.cells #[.int .i64 0, .slice none 0 0] 37) := ⟨_, rfl⟩
        have G7 : Hid (CellsAt w7 (w.heap.size + 1) #[.int .i64 0, .slice none 0 0] 37) := Lib.hid (by rw [hw7]; exact G6.out.alloc _)
        have x7 : CellsAt w7 w6.heap.size #[.int .i64 0, .slice none 0 0] 37 := by rw [hw7]; exact CellsAt.new _ _ _
        have BW7 : Hid (Below w.heap.size w w7) := Lib.hid (by rw [hw7]; exact BW6.out.alloc BW6.out.size _)
        have K7 : Hid (Keeps w6 w7) := Lib.hid (by rw [hw7]; exact Keeps.alloc _ _)
        obtain ⟨a0, a1⟩ := x7.k2
        obtain ⟨z0, z1⟩ := G7.out.k2
        have y0 := G7.out.frozen 0
        have y1 := G7.out.frozen 1
        have G8 := Lib.hid (G7.out.two (.int .i64 0) (.slice none 0 0))
        obtain ⟨s0, s1⟩ := G8.out.k2
        have BW8 := Lib.hid ((BW7.out.setCell (p := ⟨w.heap.size + 1, 0, none⟩) (by simp) (.int .i64 0)).setCell (p := ⟨w.heap.size + 1, 1, none⟩) (by simp) (.slice none 0 0))
        clear x7 hb6 cM
        go_upto_region 9 with fail
        rw [← hw7]
        have HW7 := Lib.hid hw7
        clear hw7
        go_wp2_with fail
        exact bodyPost_ret (v := .agg #[.int .i64 0, .slice none 0 0]) (by simp [results, Tryz.results8, go_sem, s0, s1]) rfl ⟨BW8.out, by rw [hr]⟩
      | some l =>
        rw [hr] at cM
        go_wp2_with fail
        refine Calls.mono cM ?_
        rintro _ w6 ⟨hb6, B6, c6, rfl, hown6⟩
        have O6 := Lib.hid hown6
        clear hown6
        have G6 := Lib.hid (G1.out.below hb6 G1.out.lt)
        have BW6 := Lib.hid (BWR.out.trans (hb6.mono BWR.out.size))
        obtain ⟨w7, hw7⟩ : ∃ w7, w7 = w6.alloc (.cells #[.int .i64 (n : Int), .slice B6 l.length c6] 37) := ⟨_, rfl⟩
        have G7 : Hid (CellsAt w7 (w.heap.size + 1) #[.int .i64 0, .slice none 0 0] 37) := Lib.hid (by rw [hw7]; exact G6.out.alloc _)
        have x7 : CellsAt w7 w6.heap.size #[.int .i64 (n : Int), .slice B6 l.length c6] 37 := by rw [hw7]; exact CellsAt.new _ _ _
        have BW7 : Hid (Below w.heap.size w w7) := Lib.hid (by rw [hw7]; exact BW6.out.alloc BW6.out.size _)
        have K7 : Hid (Keeps w6 w7) := Lib.hid (by rw [hw7]; exact Keeps.alloc _ _)
        obtain ⟨a0, a1⟩ := x7.k2
        obtain ⟨z0, z1⟩ := G7.out.k2
        have y0 := G7.out.frozen 0
        have y1 := G7.out.frozen 1
        have G8 := Lib.hid (G7.out.two (.int .i64 (n : Int)) (.slice B6 l.length c6))
        obtain ⟨s0, s1⟩ := G8.out.k2
        have BW8 := Lib.hid ((BW7.out.setCell (p := ⟨w.heap.size + 1, 0, none⟩) (by simp) (.int .i64 (n : Int))).setCell (p := ⟨w.heap.size + 1, 1, none⟩) (by simp) (.slice B6 l.length c6))
        have O7 : Hid (Own w7 wr.heap.size 41 2 B6 l.length c6 (prs l)) := Lib.hid (by rw [hw7]; exact O6.out.alloc _)
        have RR := Lib.hid ((O7.out.setOther (p := ⟨w.heap.size + 1, 0, none⟩) (by simp; omega) (.int .i64 (n : Int))).setOther (p := ⟨w.heap.size + 1, 1, none⟩) (by simp; omega) (.slice B6 l.length c6)).rd
        clear x7 hb6 cM
        go_upto_region 9 with fail
        rw [← hw7]
        have HW7 := Lib.hid hw7
        clear hw7
        go_wp2_with fail
        exact bodyPost_ret (v := .agg #[.int .i64 (n : Int), .slice B6 l.length c6]) (by simp [results, Tryz.results8, go_sem, s0, s1]) rfl ⟨BW8.out, by rw [hr]; exact ⟨B6, c6, rfl, RR.out⟩⟩
end Go.Proofs.YtpdbekgkopglgaaGreat
namespace Go.Proofs.YtpdbekgkopglgaaGreat
set_option linter.unusedVariables false
set_option linter.unusedSimpArgs false
open Go.RowKit Go.Sort
attribute [local go_sem ↓] Go.wp_at_zero Go.wp_at_succ

theorem mkE_len {n : Nat} {es l : List (Int × Int)} (hn : n ≤ 10) (h : mkE (n : Int) es = some l) : l.length ≤ 4611686018427387904 := by
  unfold mkE at h
  split at h
  · rw [Int.toNat_natCast] at h
    injection h with h
    subst h
    have := uptoK_len es n n
    unfold mkL
    have h2 : n * n ≤ 10 * 10 := Nat.mul_le_mul hn hn
    omega
  · cases h
theorem same_self (N : Int) (A B : Option Addr) (q c d : Nat) (l : List (Int × Int)) (w : World) (hq : q ≤ 4611686018427387904) (he : Rd w 2 A q (prs l)) (hf : Rd w 2 B q (prs l)) :
    Calls Tryz.prog 7 #[.agg #[.int .i64 N, .slice A q c], .agg #[.int .i64 N, .slice B q d]] w fun e w' => e = .returned (.bool true) ∧ Below w.heap.size w w' := by
  refine (same_any N N A B q c q d l l w hq hq he hf).mono ?_
  rintro e w' ⟨h1, h2⟩
  exact ⟨by rw [h1]; simp, h2⟩
set_option maxRecDepth 100000 in
set_option maxHeartbeats 16000000 in
theorem law_gof (HA : ∀ w : World, Calls Tryz.prog 4 #[] w fun e w' => e = .returned (.bool true) ∧ Below w.heap.size w w') (hM : MulOK) (P : Option Addr) (n c : Nat) (R : Option Addr) (m d : Nat) (G : Option Addr) (g gc : Nat) (A : Option Addr) (a ac : Nat) (H : Option Addr) (h hc : Nat) (C : Option Addr) (k kc : Nat) (w : World) (hS : SketchAt w P n c R m d G g gc A a ac H h hc C k kc) :
    Calls Tryz.prog 3 #[.agg (sketchC P n c R m d G g gc A a ac H h hc C k kc)] w fun e w' => e = .returned (.bool true) ∧ Below w.heap.size w w' := by
  obtain ⟨W, hW⟩ : ∃ W, W = w.alloc (.cells #[.slice P n c, .slice R m d, .slice G g gc, .slice A a ac, .slice H h hc, .slice C k kc] 29) := ⟨_, rfl⟩
  have b0 : CellsAt W w.heap.size #[.slice P n c, .slice R m d, .slice G g gc, .slice A a ac, .slice H h hc, .slice C k kc] 29 := by rw [hW]; exact CellsAt.new _ _ _
  have BW : Hid (Below w.heap.size w W) := Lib.hid (by rw [hW]; exact (Below.refl _ _).alloc (Nat.le_refl _) _)
  have kW : Keeps w W := by rw [hW]; exact Keeps.alloc _ _
  have HS := Lib.hid (hS.keep kW)
  have HAW := Lib.hid HA
  have HM := Lib.hid hM
  have B0 := Lib.hid b0
  have hWz := b0.lt
  obtain ⟨hn, hm, hg, ha, hh, hk⟩ := hS.1
  unfold maxLen at hn hm hg ha hh hk
  clear b0 kW hS HA hM
  unfold sketchC
  go_enter Tryz.func3, Tryz.ntmps3
  go_upto_region 1 with fail
  rw [← hW]
  have HW := Lib.hid hW
  clear hW
  go_wp2_with fail
  refine (HAW.out _).mono ?_
  rintro _ w1 ⟨rfl, hb1⟩
  have Z1 := Lib.hid (B0.out.below hb1 hWz)
  have BW1 := Lib.hid (BW.out.trans (hb1.mono (by omega)))
  have cS := small_any P n c R m d G g gc A a ac H h hc C k kc w1 (HS.out.keep (Keeps.of_below hb1 (Nat.le_refl _)))
  unfold sketchC at cS
  clear hb1
  have e0 := Z1.out.at (j := 0) rfl
  have e1 := Z1.out.at (j := 1) rfl
  have e2 := Z1.out.at (j := 2) rfl
  have e3 := Z1.out.at (j := 3) rfl
  have e4 := Z1.out.at (j := 4) rfl
  have e5 := Z1.out.at (j := 5) rfl
  go_wp2_with fail
  refine cS.mono ?_
  rintro _ w2 ⟨hb2, r, rfl, hr⟩
  have Z2 := Lib.hid (Z1.out.below hb2 Z1.out.lt)
  have BW2 := Lib.hid (BW1.out.trans (hb2.mono BW1.out.size))
  have HR := Lib.hid hr
  clear cS hb2 hr e0 e1 e2 e3 e4 e5
  cases r
  · go_wp2_with fail
    refine (HAW.out _).mono ?_
    rintro _ w3 ⟨rfl, hb3⟩
    have BW3 := Lib.hid (BW2.out.trans (hb3.mono BW2.out.size))
    clear hb3
    go_wp2_with fail
    go_ret
    exact ⟨rfl, BW3.out⟩
  · have HOK := Lib.hid (HR.out rfl)
    have hn10 : n ≤ 10 := HOK.out.1.1
    have hk20 : k ≤ 20 := HOK.out.1.2.2.2.2.2
    have cV := valid26_of HM.out P n c R m d G g gc A a ac H h hc C k kc w2 HOK.out
    unfold sketchC at cV
    obtain ⟨VP, hVP⟩ : ∃ VP, VP = ValidPost P n c R m d G g gc A a ac H h hc C k kc w2 := ⟨_, rfl⟩
    have HVP := Lib.hid hVP
    rw [← hVP] at cV
    clear hVP
    have e0 := Z2.out.at (j := 0) rfl
    have e1 := Z2.out.at (j := 1) rfl
    have e2 := Z2.out.at (j := 2) rfl
    have e3 := Z2.out.at (j := 3) rfl
    have e4 := Z2.out.at (j := 4) rfl
    have e5 := Z2.out.at (j := 5) rfl
    go_wp2_with fail
    refine cV.mono ?_
    intro ev w3 hp
    rw [HVP.out] at hp
    obtain ⟨hb3, r, he3, hr⟩ := hp
    subst he3
    have Z3 := Lib.hid (Z2.out.below hb3 Z2.out.lt)
    have BW3 := Lib.hid (BW2.out.trans (hb3.mono BW2.out.size))
    have HR3 := Lib.hid hr
    clear cV hb3 hr e0 e1 e2 e3 e4 e5
    cases hr0 : (r != 0)
    · have hrz : r = 0 := by simpa using hr0
      obtain ⟨f, hf⟩ := con_is (HR3.out hrz)
      have HF := Lib.hid hf
      clear hf hrz
      have e0 := Z3.out.at (j := 0) rfl
      have e1 := Z3.out.at (j := 1) rfl
      have e2 := Z3.out.at (j := 2) rfl
      have e3 := Z3.out.at (j := 3) rfl
      have e4 := Z3.out.at (j := 4) rfl
      have e5 := Z3.out.at (j := 5) rfl
      have CG : Hid (∀ w', Keeps w3 w' → Calls Tryz.prog 8 #[.agg #[.slice P n c, .slice R m d, .slice G g gc, .slice A a ac, .slice H h hc, .slice C k kc]] w' (OfGPost w' n (mkE n (distL f k)))) := Lib.hid (fun w' kk => gof_any P n c R m d G g gc A a ac H h hc C k kc f w' hn10 hk20 (fun i hi => (HF.out i hi).keep kk))
      have CR : Hid (∀ w', Keeps w3 w' → Calls Tryz.prog 9 #[.agg #[.slice P n c, .slice R m d, .slice G g gc, .slice A a ac, .slice H h hc, .slice C k kc]] w' (OfGPost w' n (mkE n (distL f k)))) := Lib.hid (fun w' kk => rof_any P n c R m d G g gc A a ac H h hc C k kc f w' hn10 hk20 (fun i hi => (HF.out i hi).keep kk))
      cases hmk : mkE (n : Int) (distL f k) with
      | none =>
        rw [hmk] at CG CR
        go_upto_region 3 with fail
        go_region_held3 (fun w' => w'.cell? ⟨w.heap.size, 0, none⟩ = some (.slice P n c) ∧ w'.cell? ⟨w.heap.size, 1, none⟩ = some (.slice R m d) ∧ w'.cell? ⟨w.heap.size, 2, none⟩ = some (.slice G g gc) ∧ w'.cell? ⟨w.heap.size, 3, none⟩ = some (.slice A a ac) ∧ w'.cell? ⟨w.heap.size, 4, none⟩ = some (.slice H h hc) ∧ w'.cell? ⟨w.heap.size, 5, none⟩ = some (.slice C k kc)) (first | exact SW6 | exact SW5 | exact SW4 | exact ⟨e0, e1, e2, e3, e4, e5⟩ | go_keep)
          ((first
            | (go_at_call 8; refine (CG.out _ (Keeps.drew _)).mono ?_; rintro ev w4 ⟨hb4, rfl⟩; have hb44 : Below w3.heap.size w3 w4 := (Below.refl _ _).drew.trans hb4; have K4 := Lib.hid (Keeps.of_below hb44 (Nat.le_refl _)); have BW4 := Lib.hid (BW3.out.trans (hb44.mono BW3.out.size)); have SW4 := And.intro (K4.out _ _ e0) (And.intro (K4.out _ _ e1) (And.intro (K4.out _ _ e2) (And.intro (K4.out _ _ e3) (And.intro (K4.out _ _ e4) (K4.out _ _ e5))))); clear hb4 hb44)
            | (go_at_call 9; refine (CR.out _ K4.out).mono ?_; rintro ev w5 ⟨hb5, rfl⟩; have K5 := Lib.hid (K4.out.trans (Keeps.of_below hb5 (Nat.le_refl _))); have K45 := Lib.hid (Keeps.of_below hb5 (Nat.le_refl _)); have BW5 := Lib.hid (BW4.out.trans (hb5.mono BW4.out.size)); have SW5 := And.intro (K5.out _ _ e0) (And.intro (K5.out _ _ e1) (And.intro (K5.out _ _ e2) (And.intro (K5.out _ _ e3) (And.intro (K5.out _ _ e4) (K5.out _ _ e5))))); clear hb5)
            | (go_at_call 7; refine (same_self 0 none none 0 0 0 [] _ (by omega) (Rd.nil _ _ _) (Rd.nil _ _ _)).mono ?_; rintro ev w6 ⟨rfl, hb6⟩; have K6 := Lib.hid (K5.out.trans (Keeps.of_below hb6 (Nat.le_refl _))); have BW6 := Lib.hid (BW5.out.trans (hb6.mono BW5.out.size)); have SW6 := And.intro (K6.out _ _ e0) (And.intro (K6.out _ _ e1) (And.intro (K6.out _ _ e2) (And.intro (K6.out _ _ e3) (And.intro (K6.out _ _ e4) (K6.out _ _ e5))))); clear hb6)
            | fail))
        all_goals
         clear e0 e1 e2 e3 e4 e5
         go_wp2_with fail
         go_ret
         exact ⟨rfl, BW6.out⟩
      | some l =>
        have hl := mkE_len hn10 hmk
        rw [hmk] at CG CR
        go_upto_region 3 with fail
        go_region_held3 (fun w' => w'.cell? ⟨w.heap.size, 0, none⟩ = some (.slice P n c) ∧ w'.cell? ⟨w.heap.size, 1, none⟩ = some (.slice R m d) ∧ w'.cell? ⟨w.heap.size, 2, none⟩ = some (.slice G g gc) ∧ w'.cell? ⟨w.heap.size, 3, none⟩ = some (.slice A a ac) ∧ w'.cell? ⟨w.heap.size, 4, none⟩ = some (.slice H h hc) ∧ w'.cell? ⟨w.heap.size, 5, none⟩ = some (.slice C k kc)) (first | exact SW6 | exact SW5 | exact SW4 | exact ⟨e0, e1, e2, e3, e4, e5⟩ | go_keep)
          ((first
            | (go_at_call 8; refine (CG.out _ (Keeps.drew _)).mono ?_; rintro ev w4 ⟨hb4, B1, c1, rfl, hrg⟩; have hb44 : Below w3.heap.size w3 w4 := (Below.refl _ _).drew.trans hb4; have K4 := Lib.hid (Keeps.of_below hb44 (Nat.le_refl _)); have BW4 := Lib.hid (BW3.out.trans (hb44.mono BW3.out.size)); have SW4 := And.intro (K4.out _ _ e0) (And.intro (K4.out _ _ e1) (And.intro (K4.out _ _ e2) (And.intro (K4.out _ _ e3) (And.intro (K4.out _ _ e4) (K4.out _ _ e5))))); clear hb4 hb44; have RG := Lib.hid hrg; clear hrg)
            | (go_at_call 9; refine (CR.out _ K4.out).mono ?_; rintro ev w5 ⟨hb5, B2, c2, rfl, hrr⟩; have K5 := Lib.hid (K4.out.trans (Keeps.of_below hb5 (Nat.le_refl _))); have K45 := Lib.hid (Keeps.of_below hb5 (Nat.le_refl _)); have BW5 := Lib.hid (BW4.out.trans (hb5.mono BW4.out.size)); have SW5 := And.intro (K5.out _ _ e0) (And.intro (K5.out _ _ e1) (And.intro (K5.out _ _ e2) (And.intro (K5.out _ _ e3) (And.intro (K5.out _ _ e4) (K5.out _ _ e5))))); clear hb5; have RR := Lib.hid hrr; clear hrr)
            | (go_at_call 7; refine (same_self (n : Int) B1 B2 l.length c1 c2 l _ hl (RG.out.keep K45.out) RR.out).mono ?_; rintro ev w6 ⟨rfl, hb6⟩; have K6 := Lib.hid (K5.out.trans (Keeps.of_below hb6 (Nat.le_refl _))); have BW6 := Lib.hid (BW5.out.trans (hb6.mono BW5.out.size)); have SW6 := And.intro (K6.out _ _ e0) (And.intro (K6.out _ _ e1) (And.intro (K6.out _ _ e2) (And.intro (K6.out _ _ e3) (And.intro (K6.out _ _ e4) (K6.out _ _ e5))))); clear hb6)
            | fail))
        all_goals
         clear e0 e1 e2 e3 e4 e5
         go_wp2_with fail
         go_ret
         exact ⟨rfl, BW6.out⟩
    · go_wp2_with fail
      refine (HAW.out _).mono ?_
      rintro _ w4 ⟨rfl, hb4⟩
      have BW4 := Lib.hid (BW3.out.trans (hb4.mono BW3.out.size))
      clear hb4
      go_wp2_with fail
      go_ret
      exact ⟨rfl, BW4.out⟩
end Go.Proofs.YtpdbekgkopglgaaGreat
