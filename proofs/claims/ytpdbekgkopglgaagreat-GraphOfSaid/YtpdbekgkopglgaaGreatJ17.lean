/-
  Contracts and lemmas for the statement, joined: Vo, Vp.
-/
import Derived.Test.YtpdbekgkopglgaaGreatJ16
import Derived.Test.YtpdbekgkopglgaaGreatJ3
import Derived.Deep.RegionHeld3
namespace Go.Proofs.YtpdbekgkopglgaaGreat
set_option linter.unusedVariables false
set_option linter.unusedSimpArgs false
open Go.RowKit Go.Sort
attribute [local go_sem ↓] Go.wp_at_zero Go.wp_at_succ

/-- What constraint i says: the pair of a distance, or none. -/
def ConIs (w : World) (C : Option Addr) (i : Nat) (o : Option (Int × Int)) : Prop := ∃ (ad : Addr) (kind : Int) (P : Option Addr) (n c : Nat) (C' : Option Addr) (m d : Nat) (V : Option Addr) (v e : Nat) (side : Int), C = some ad ∧ ElAt w (ad.add (i * 5)) (conC kind P n c C' m d V v e side) ∧ n ≤ 10 ∧
  ((o = none ∧ (kind == 2) = false) ∨ ∃ x y pd, o = some (x, y) ∧ kind = 2 ∧ n = 2 ∧ P = some pd ∧ w.cell? pd = some (.int .i64 x) ∧ w.cell? ⟨pd.block, pd.off + 1, none⟩ = some (.int .i64 y))
theorem ConIs.keep {w w' : World} {C : Option Addr} {i : Nat} {o : Option (Int × Int)} (h : ConIs w C i o) (kk : Keeps w w') : ConIs w' C i o := by
  obtain ⟨ad, kind, P, n, c, C', m, d, V, v, e, side, h1, h2, h3, h4⟩ := h
  refine ⟨ad, kind, P, n, c, C', m, d, V, v, e, side, h1, h2.keep kk, h3, ?_⟩
  rcases h4 with h4 | ⟨x, y, pd, h5, h6, h7, h8, h9, h10⟩
  · exact .inl h4
  · exact .inr ⟨x, y, pd, h5, h6, h7, h8, kk _ _ h9, kk _ _ h10⟩
theorem con_is {w : World} {C : Option Addr} {k : Nat} (h : SlAt w 5 C k (fun cs => OkC w cs ∧ DistOK cs)) : ∃ f : Nat → Option (Int × Int), ∀ i, i < k → ConIs w C i (f i) := by
  have hq : ∀ i, ∃ o, i < k → ConIs w C i o := by
    intro i
    by_cases hi : i < k
    · obtain ⟨ad, cs, h1, h2, h3, ⟨kind, P, n, c, ps, C', m, d, qs, V, v, e, side, hc, hp, -, hn, -⟩, hd⟩ := h i hi
      cases hk : (kind == 2)
      · exact ⟨none, fun _ => ⟨ad, kind, P, n, c, C', m, d, V, v, e, side, h1, by rw [← hc]; exact h3, hn.1, .inl ⟨rfl, hk⟩⟩⟩
      · have hk2 : kind = 2 := by simpa using hk
        obtain ⟨P2, c2, hP2⟩ := hd (by rw [hc, hk2]; rfl)
        have hn2 : n = 2 := by
          rw [hc] at hP2
          simp [conC] at hP2
          exact hP2.2.1
        subst hn2
        obtain ⟨pd, rfl, -, x0⟩ := hp.int_at (k := 0) (by omega)
        obtain ⟨pd', e2, -, x1⟩ := hp.int_at (k := 1) (by omega)
        cases e2
        rw [add_ne _ (by omega)] at x1
        exact ⟨some (ps.getD 0 0, ps.getD 1 0), fun _ => ⟨ad, kind, some pd, 2, c, C', m, d, V, v, e, side, h1, by rw [← hc]; exact h3, hn.1, .inr ⟨_, _, pd, rfl, hk2, rfl, rfl, x0, x1⟩⟩⟩
    · exact ⟨none, fun h => absurd h hi⟩
  exact ⟨fun i => (hq i).choose, fun i => (hq i).choose_spec⟩
def distL (f : Nat → Option (Int × Int)) (i : Nat) : List (Int × Int) := (List.range i).filterMap f
theorem distL_zero (f : Nat → Option (Int × Int)) : distL f 0 = [] := rfl
theorem distL_none {f : Nat → Option (Int × Int)} {i : Nat} (h : f i = none) : distL f (i + 1) = distL f i := by
  unfold distL; rw [List.range_succ, List.filterMap_append]; simp [h]
theorem distL_some {f : Nat → Option (Int × Int)} {i : Nat} {p : Int × Int} (h : f i = some p) : distL f (i + 1) = distL f i ++ [p] := by
  unfold distL; rw [List.range_succ, List.filterMap_append]; simp [h]
theorem distL_len (f : Nat → Option (Int × Int)) (i : Nat) : (distL f i).length ≤ i := by
  unfold distL
  have := List.length_filterMap_le f (List.range i)
  simpa using this
theorem own_dr {w : World} {base size n c : Nat} {e : TypeId} {A : Option Addr} {xs : List Value} (h : Own w base e size A n c xs) : Own w.drew base e size A n c xs := h
def OfGPost (w : World) (N : Int) (r : Option (List (Int × Int))) (e : Ending) (w' : World) : Prop :=
  Below w.heap.size w w' ∧ match r with
  | none => e = .returned (.agg #[.int .i64 0, .slice none 0 0])
  | some l => ∃ B c, e = .returned (.agg #[.int .i64 N, .slice B l.length c]) ∧ Rd w' 2 B l.length (prs l)
end Go.Proofs.YtpdbekgkopglgaaGreat
namespace Go.Proofs.YtpdbekgkopglgaaGreat
set_option linter.unusedVariables false
set_option linter.unusedSimpArgs false
open Go.RowKit Go.Sort
attribute [local go_sem ↓] Go.wp_at_zero Go.wp_at_succ

set_option maxRecDepth 100000 in
set_option maxHeartbeats 16000000 in
theorem rof_any (P : Option Addr) (n c : Nat) (R : Option Addr) (m d : Nat) (G : Option Addr) (g gc : Nat) (A : Option Addr) (a ac : Nat) (H : Option Addr) (h hc : Nat) (C : Option Addr) (k kc : Nat) (f : Nat → Option (Int × Int)) (w : World) (hn : n ≤ 10) (hk : k ≤ 20) (hf : ∀ i, i < k → ConIs w C i (f i)) : Calls Tryz.prog 9 #[.agg (sketchC P n c R m d G g gc A a ac H h hc C k kc)] w (OfGPost w n (mkE n (distL f k))) := by
  unfold sketchC
  obtain ⟨W, hW⟩ : ∃ W, W = (w.alloc (.cells #[.slice P n c, .slice R m d, .slice G g gc, .slice A a ac, .slice H h hc, .slice C k kc] 29)).alloc (.cells #[.int .i64 0, .slice none 0 0] 37) := ⟨_, rfl⟩
  have b0 : CellsAt W w.heap.size #[.slice P n c, .slice R m d, .slice G g gc, .slice A a ac, .slice H h hc, .slice C k kc] 29 := by rw [hW]; exact (CellsAt.new _ _ _).alloc _
  have b1 : CellsAt W (w.heap.size + 1) #[.int .i64 0, .slice none 0 0] 37 := by rw [hW]; exact CellsAt.new_at (by simp) _ _
  have BW : Hid (Below w.heap.size w W) := Lib.hid (by rw [hW]; exact ((Below.refl _ _).alloc (Nat.le_refl _) _).alloc (by simp) _)
  have kW : Keeps w W := by rw [hW]; exact (Keeps.alloc _ _).trans (Keeps.alloc _ _)
  have HF : Hid (∀ i, i < k → ConIs W C i (f i)) := Lib.hid (fun i hi => (hf i hi).keep kW)
  have B0 := Lib.hid b0
  have G0 := Lib.hid b1
  have hWz : w.heap.size + 2 ≤ W.heap.size := b1.lt
  have e5 := b0.at (j := 5) rfl
  clear b0 b1 kW hf
  go_enter Tryz.func9, Tryz.ntmps9
  go_upto_region 1 with fail
  rw [← hW]
  have HW := Lib.hid hW
  clear hW
  go_wp2_with fail
  clear e5
  go_loopg [4, 3] k (fun gg iv lv wr => ∃ (i : Nat) (B : Option Addr) (q : Nat) (cB : Nat), iv = .int .i64 (i : Int) ∧ i + gg = k ∧ lv = .slice B q cB ∧ q = (distL f i).length ∧ Own wr W.heap.size 41 2 B q cB (prs (distL f i)) ∧ Below W.heap.size W wr)
  case atStart => exact ⟨0, none, 0, 0, rfl, by omega, rfl, rfl, Own.nil _ _ _ _, Below.refl _ _⟩
  case round =>
    obtain ⟨i, B, q, cB, rfl, hig, rfl, hql, hown, hb⟩ := hrel
    rename World => wr
    have HQL := Lib.hid hql
    have hq20 : q ≤ 20 := by have := distL_len f i; omega
    have OWN := Lib.hid hown
    have BR := Lib.hid hb
    have B1 := Lib.hid (B0.out.below hb (by omega))
    have BWR := Lib.hid (BW.out.trans (hb.mono (by omega)))
    have KR := Lib.hid (Keeps.of_below hb (Nat.le_refl _))
    have hzr := hb.size
    have e5 := B1.out.at (j := 5) rfl
    have e0 := B1.out.at (j := 0) rfl
    clear hown hb hql
    by_cases h5 : i < k
    · have h5i : (i : Int) < (k : Int) := by omega
      have h50 : (0 : Int) ≤ (i : Int) := by omega
      obtain ⟨ad, kind, P1, n1, c1, C1, m1, d1, V1, v1, v1c, side, rfl, hel0, hn1, hor⟩ := HF.out i h5
      have hel := hel0.keep KR.out
      have HOR := Lib.hid hor
      have f0 := hel.zero (x := .int .i64 kind) rfl
      have f1 := hel.at (j := 1) (by omega) (x := .slice P1 n1 c1) rfl
      have f2 := hel.at (j := 2) (by omega) (x := .slice C1 m1 d1) rfl
      have f3 := hel.at (j := 3) (by omega) (x := .slice V1 v1 v1c) rfl
      have f4 := hel.at (j := 4) (by omega) (x := .int .i64 side) rfl
      obtain ⟨w5, hw5⟩ : ∃ w5, w5 = wr.alloc (.cells #[.int .i64 kind, .slice P1 n1 c1, .slice C1 m1 d1, .slice V1 v1 v1c, .int .i64 side] 60) := ⟨_, rfl⟩
      have x5 : CellsAt w5 wr.heap.size #[.int .i64 kind, .slice P1 n1 c1, .slice C1 m1 d1, .slice V1 v1 v1c, .int .i64 side] 60 := by rw [hw5]; exact CellsAt.new _ _ _
      have hb5 : Below wr.heap.size wr w5 := by rw [hw5]; exact (Below.refl _ _).alloc (Nat.le_refl _) _
      have OWN5 : Hid (Own w5 W.heap.size 41 2 B q cB (prs (distL f i))) := Lib.hid (by rw [hw5]; exact OWN.out.alloc _)
      have BR5 := Lib.hid (BR.out.trans (hb5.mono hzr))
      have K5 := Lib.hid (Keeps.of_below hb5 (Nat.le_refl _))
      have hz5 : w5.heap.size = wr.heap.size + 1 := by rw [hw5]; simp
      have g0 := x5.at (j := 0) rfl
      have g1 := x5.at (j := 1) rfl
      clear x5 hel hel0 hb5 hor
      go_upto_region 6 with fail
      rw [← hw5]
      have HW5 := Lib.hid hw5
      clear hw5 f0 f1 f2 f3 f4 e0 e5
      have hbx : wr.heap.size < w5.heap.size := by omega
      have HZ5 := Lib.hid hz5
      clear hz5
      cases hk2 : (kind == 2)
      · have hfi : f i = none := by
          rcases HOR.out with h | ⟨x, y, pd, -, h, -⟩
          · exact h.1
          · subst h; cases hk2
        have HFI := Lib.hid hfi
        clear hfi
        go_wp2_with fail
        go_roundg (k - (i + 1))
        case measure => omega
        case rel => exact ⟨i + 1, B, q, cB, by go_num, by omega, rfl, by rw [distL_none HFI.out]; exact HQL.out, by rw [distL_none HFI.out]; exact OWN5.out, BR5.out⟩
      · obtain ⟨x, y, pd, hfi, -, rfl, rfl, hx, hy⟩ : ∃ x y pd, f i = some (x, y) ∧ kind = 2 ∧ n1 = 2 ∧ P1 = some pd ∧ W.cell? pd = some (.int .i64 x) ∧ W.cell? ⟨pd.block, pd.off + 1, none⟩ = some (.int .i64 y) := by
          rcases HOR.out with h | h
          · exact absurd (hk2.symm.trans h.2) (by decide)
          · exact h
        have HFI := Lib.hid hfi
        have X0 := K5.out _ _ (KR.out _ _ hx)
        have X1 := K5.out _ _ (KR.out _ _ hy)
        have hpd := World.block_lt_of_cell? _ _ hx
        have CN : Hid (∀ (p : Addr) (v : Value), w5.cell? p = some v → (p.block = wr.heap.size ∨ p.block = pd.block) → ∀ o w4, World.grownBy (w5.drew.alloc o) w4 (blk B) → w4.cell? p = some v) := Lib.hid (fun p v h1 h2 o w4 hg => World.grownBy.cell hg (cell_al (show w5.drew.cell? p = some v from h1) o) (fun e => by
          have h3 := OWN.out.lt e.symm
          rcases h2 with h2 | h2 <;> omega))
        clear hfi hx hy
        go_upto_region 7 with fail
        go_region_held3 (fun w' => w'.cell? ⟨wr.heap.size, 1, none⟩ = some (.slice (some pd) 2 c1) ∧ w'.cell? pd = some (.int .i64 x) ∧ w'.cell? ⟨pd.block, pd.off + 1, none⟩ = some (.int .i64 y)) (first | exact SW | exact ⟨g1, X0, X1⟩ | exact ⟨cell_al (show w5.drew.cell? _ = _ from g1) _, cell_al (show w5.drew.cell? _ = _ from X0) _, cell_al (show w5.drew.cell? _ = _ from X1) _⟩ | go_keep)
          ((first
            | (refine step_app _ rfl (.tmp 23) (.tmp 33) 35 rfl W.heap.size 41 (.agg #[.int .i64 0, .int .i64 0]) 2 16 Tryz.underlying35 info_pair rfl (by decide) B q cB (prs (distL f i)) (by simp [Act.eval, Act.put]) ((own_dr OWN5.out).alloc _) (some ⟨w5.heap.size, 0, none⟩) 1 1 (prs [(x, y)]) (by simp [Act.eval, Act.put]) (rd_lit2_at rfl [(x, y)] _) (prs_one _) (by omega) (by unfold maxLen; omega) (by simp; omega) ?_; intro B4 c4 w4 ho4 hg4 hb4; have SW := And.intro (CN.out _ _ g1 (.inl rfl) _ _ hg4) (And.intro (CN.out _ _ X0 (.inr rfl) _ _ hg4) (CN.out _ _ X1 (.inr rfl) _ _ hg4)); have OWN4 := Lib.hid ho4; have BR4 : Hid (Below W.heap.size W w4) := Lib.hid (Below.app (belowAl (belowDr BR5.out) _) hg4 (by simp; omega) (fun k hk => (OWN5.out.lt hk).1)); clear ho4 hg4 hb4)
            | fail))
        all_goals
         clear g0 g1 X0 X1
         go_wp2_with fail
         go_roundg (k - (i + 1))
         case measure => omega
         case rel => exact ⟨i + 1, B4, q + 1, c4, by go_num, by omega, rfl, by rw [distL_some HFI.out, List.length_append, ← HQL.out]; rfl, by rw [distL_some HFI.out, prs_app]; exact OWN4.out, BR4.out⟩
    · obtain rfl : i = k := by omega
      have cM := rmake_any (n : Int) B q cB (distL f i) wr (by omega) OWN.out.rd
      have G1 := Lib.hid (G0.out.below BR.out (by omega))
      cases hr : mkE (n : Int) (distL f i) with
      | none =>
        rw [hr] at cM
        go_wp2_with fail
        refine Calls.mono cM ?_
        rintro _ w6 ⟨hb6, rfl⟩
        have G6 := Lib.hid (G1.out.below hb6 G1.out.lt)
        have BW6 := Lib.hid (BWR.out.trans (hb6.mono BWR.out.size))
        obtain ⟨w7, hw7⟩ : ∃ w7, w7 = w6.alloc (.cells #[.int .i64 0, .slice none 0 0] 37) := ⟨_, rfl⟩
        have G7 : Hid (CellsAt w7 (w.heap.size + 1) #[.int .i64 0, .slice none 0 0] 37) := Lib.hid (by rw [hw7]; exact G6.out.alloc _)
        have x7 : CellsAt w7 w6.heap.size #[.int .i64 0, .slice none 0 0] 37 := by rw [hw7]; exact CellsAt.new _ _ _
        have BW7 : Hid (Below w.heap.size w w7) := Lib.hid (by rw [hw7]; exact BW6.out.alloc BW6.out.size _)
        have K7 : Hid (Keeps w6 w7) := Lib.hid (by rw [hw7]; exact Keeps.alloc _ _)
        obtain ⟨a0, a1⟩ := x7.k2
        obtain ⟨z0, z1⟩ := G7.out.k2
        have y0 := G7.out.frozen 0
        have y1 := G7.out.frozen 1
        have G8 := Lib.hid (G7.out.two (.int .i64 0) (.slice none 0 0))
        obtain ⟨s0, s1⟩ := G8.out.k2
        have BW8 := Lib.hid ((BW7.out.setCell (p := ⟨w.heap.size + 1, 0, none⟩) (by simp) (.int .i64 0)).setCell (p := ⟨w.heap.size + 1, 1, none⟩) (by simp) (.slice none 0 0))
        clear x7 hb6 cM
        go_upto_region 9 with fail
        rw [← hw7]
        have HW7 := Lib.hid hw7
        clear hw7
        go_wp2_with fail
        exact bodyPost_ret (v := .agg #[.int .i64 0, .slice none 0 0]) (by simp [results, Tryz.results9, go_sem, s0, s1]) rfl ⟨BW8.out, by rw [hr]⟩
      | some l =>
        rw [hr] at cM
        go_wp2_with fail
        refine Calls.mono cM ?_
        rintro _ w6 ⟨hb6, B6, c6, rfl, hown6⟩
        have O6 := Lib.hid hown6
        clear hown6
        have G6 := Lib.hid (G1.out.below hb6 G1.out.lt)
        have BW6 := Lib.hid (BWR.out.trans (hb6.mono BWR.out.size))
        obtain ⟨w7, hw7⟩ : ∃ w7, w7 = w6.alloc (.cells #[.int .i64 (n : Int), .slice B6 l.length c6] 37) := ⟨_, rfl⟩
        have G7 : Hid (CellsAt w7 (w.heap.size + 1) #[.int .i64 0, .slice none 0 0] 37) := Lib.hid (by rw [hw7]; exact G6.out.alloc _)
        have x7 : CellsAt w7 w6.heap.size #[.int .i64 (n : Int), .slice B6 l.length c6] 37 := by rw [hw7]; exact CellsAt.new _ _ _
        have BW7 : Hid (Below w.heap.size w w7) := Lib.hid (by rw [hw7]; exact BW6.out.alloc BW6.out.size _)
        have K7 : Hid (Keeps w6 w7) := Lib.hid (by rw [hw7]; exact Keeps.alloc _ _)
        obtain ⟨a0, a1⟩ := x7.k2
        obtain ⟨z0, z1⟩ := G7.out.k2
        have y0 := G7.out.frozen 0
        have y1 := G7.out.frozen 1
        have G8 := Lib.hid (G7.out.two (.int .i64 (n : Int)) (.slice B6 l.length c6))
        obtain ⟨s0, s1⟩ := G8.out.k2
        have BW8 := Lib.hid ((BW7.out.setCell (p := ⟨w.heap.size + 1, 0, none⟩) (by simp) (.int .i64 (n : Int))).setCell (p := ⟨w.heap.size + 1, 1, none⟩) (by simp) (.slice B6 l.length c6))
        have O7 : Hid (Own w7 wr.heap.size 41 2 B6 l.length c6 (prs l)) := Lib.hid (by rw [hw7]; exact O6.out.alloc _)
        have RR := Lib.hid ((O7.out.setOther (p := ⟨w.heap.size + 1, 0, none⟩) (by simp; omega) (.int .i64 (n : Int))).setOther (p := ⟨w.heap.size + 1, 1, none⟩) (by simp; omega) (.slice B6 l.length c6)).rd
        clear x7 hb6 cM
        go_upto_region 9 with fail
        rw [← hw7]
        have HW7 := Lib.hid hw7
        clear hw7
        go_wp2_with fail
        exact bodyPost_ret (v := .agg #[.int .i64 (n : Int), .slice B6 l.length c6]) (by simp [results, Tryz.results9, go_sem, s0, s1]) rfl ⟨BW8.out, by rw [hr]; exact ⟨B6, c6, rfl, RR.out⟩⟩
end Go.Proofs.YtpdbekgkopglgaaGreat
