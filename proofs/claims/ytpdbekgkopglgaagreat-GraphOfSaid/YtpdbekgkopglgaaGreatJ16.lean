/-
  Contracts and lemmas for the statement, joined: Vn.
-/
import Derived.Test.YtpdbekgkopglgaaGreatJ14
import Derived.Test.YtpdbekgkopglgaaGreatJ15
import Derived.Deep.RegionHeld3
namespace Go.Proofs.YtpdbekgkopglgaaGreat
set_option linter.unusedVariables false
set_option linter.unusedSimpArgs false
open Go.RowKit Go.Sort
attribute [local go_sem ↓] Go.wp_at_zero Go.wp_at_succ

/-- A distance has two points. -/
def DistOK (cs : Array Value) : Prop := cs[0]? = some (.int .i64 2) → ∃ P c, cs[1]? = some (.slice P 2 c)
/-- What Valid gives: if it accepts, each distance has two points. -/
def ValidPost (P : Option Addr) (n c : Nat) (R : Option Addr) (m d : Nat) (G : Option Addr) (g gc : Nat) (A : Option Addr) (a ac : Nat) (H : Option Addr) (h hc : Nat) (C : Option Addr) (k kc : Nat) (w : World) (e : Ending) (w' : World) : Prop := Below w.heap.size w w' ∧ ∃ r : Int, e = .returned (.int .i64 r) ∧ (r = 0 → SlAt w' 5 C k (fun cs => OkC w' cs ∧ DistOK cs))
set_option maxRecDepth 100000 in
set_option maxHeartbeats 16000000 in
theorem valid26_of (hM : MulOK) (P : Option Addr) (n c : Nat) (R : Option Addr) (m d : Nat) (G : Option Addr) (g gc : Nat) (A : Option Addr) (a ac : Nat) (H : Option Addr) (h hc : Nat) (C : Option Addr) (k kc : Nat) (w : World) (hS : OkS w P n c R m d G g gc A a ac H h hc C k kc) : Calls Tryz.prog 6 #[.agg (sketchC P n c R m d G g gc A a ac H h hc C k kc)] w (ValidPost P n c R m d G g gc A a ac H h hc C k kc w) := by
  obtain ⟨Q, hQ⟩ : ∃ Q, Q = ValidPost P n c R m d G g gc A a ac H h hc C k kc w := ⟨_, rfl⟩
  have HN : Hid (∀ w', Below w.heap.size w w' → Q (.returned (.int .i64 1)) w') := Lib.hid fun w' hb => by rw [hQ]; exact ⟨hb, 1, rfl, fun h => absurd h (by omega)⟩
  have HT : Hid (∀ w', Below w.heap.size w w' → Q (.returned (.int .i64 3)) w') := Lib.hid fun w' hb => by rw [hQ]; exact ⟨hb, 3, rfl, fun h => absurd h (by omega)⟩
  have HY : Hid (∀ w', Below w.heap.size w w' → SlAt w' 5 C k (fun cs => OkC w' cs ∧ DistOK cs) → Q (.returned (.int .i64 0)) w') := Lib.hid fun w' hb ho => by rw [hQ]; exact ⟨hb, 0, rfl, fun _ => ho⟩
  rw [← hQ]
  clear hQ
  obtain ⟨W, hW⟩ : ∃ W, W = w.alloc (.cells #[.slice P n c, .slice R m d, .slice G g gc, .slice A a ac, .slice H h hc, .slice C k kc] 29) := ⟨_, rfl⟩
  have b0 : CellsAt W w.heap.size #[.slice P n c, .slice R m d, .slice G g gc, .slice A a ac, .slice H h hc, .slice C k kc] 29 := by rw [hW]; exact CellsAt.new _ _ _
  have BW : Hid (Below w.heap.size w W) := Lib.hid (by rw [hW]; exact (Below.refl _ _).alloc (Nat.le_refl _) _)
  have kW : Keeps w W := by rw [hW]; exact Keeps.alloc _ _
  have HS := Lib.hid (hS.keep kW)
  obtain ⟨hn, hm, hg, ha, hh, hk⟩ := hS.1
  have B0 := Lib.hid b0
  have HM := Lib.hid hM
  have cM := many_any P n c R m d G g gc A a ac H h hc C k kc W HS.out
  unfold sketchC at cM ⊢
  have e0 := b0.at (j := 0) rfl
  have e1 := b0.at (j := 1) rfl
  have e2 := b0.at (j := 2) rfl
  have e3 := b0.at (j := 3) rfl
  have e4 := b0.at (j := 4) rfl
  have e5 := b0.at (j := 5) rfl
  have hWz := b0.lt
  clear b0 kW hS hM
  go_enter Tryz.func6, Tryz.ntmps6
  go_upto_region 1 with fail
  rw [← hW]
  have HW := Lib.hid hW
  clear hW
  go_wp2_with fail
  refine Calls.mono cM ?_
  rintro _ w1 ⟨v0, rfl, hb1⟩
  have BB := Lib.hid hb1
  have BW1 := Lib.hid (BW.out.trans (hb1.mono (by omega)))
  have Z1 := Lib.hid (B0.out.below hb1 hWz)
  clear cM hb1 e0 e1 e2 e3 e4 e5
  cases v0
  · have e0 := Z1.out.at (j := 0) rfl
    go_wp2_with fail
    go_loopg [4] n (fun gg iv wr => ∃ i : Nat, iv = .int .i64 (i : Int) ∧ i + gg = n ∧ Below W.heap.size W wr)
    case atStart => exact ⟨0, rfl, by omega, BB.out⟩
    case round =>
      obtain ⟨i, rfl, hig, hb⟩ := hrel
      rename World => wr
      have BR := Lib.hid hb
      have B1 := Lib.hid (B0.out.below hb hWz)
      have BWR := Lib.hid (BW.out.trans (hb.mono (by omega)))
      have KR := Lib.hid (Keeps.of_below hb (Nat.le_refl _))
      have e0 := B1.out.at (j := 0) rfl
      clear hb
      by_cases h5 : i < n
      · have h5i : (i : Int) < (n : Int) := by omega
        have h50 : (0 : Int) ≤ (i : Int) := by omega
        obtain ⟨ad, cs1, rfl, hsz, hel, s1, A1, n1, c1, a1, t1, B1', m1, d1, b1, s2, A2, n2, c2, a2, t2, B2', m2, d2, b2, hc1, r1, r2, q1, q2, q3, q4⟩ := HS.out.2.1 i h5
        have hel' := hel.keep KR.out
        have R2 := Lib.hid (r2.keep KR.out)
        have f0 := hel'.zero (x := .bool s1) (by rw [hc1]; rfl)
        have f1 := hel'.at (j := 1) (by omega) (x := .slice A1 n1 c1) (by rw [hc1]; rfl)
        have f2 := hel'.at (j := 2) (by omega) (x := .bool t1) (by rw [hc1]; rfl)
        have f3 := hel'.at (j := 3) (by omega) (x := .slice B1' m1 d1) (by rw [hc1]; rfl)
        have f4 := hel'.at (j := 4) (by omega) (x := .bool s2) (by rw [hc1]; rfl)
        have f5 := hel'.at (j := 5) (by omega) (x := .slice A2 n2 c2) (by rw [hc1]; rfl)
        have f6 := hel'.at (j := 6) (by omega) (x := .bool t2) (by rw [hc1]; rfl)
        have f7 := hel'.at (j := 7) (by omega) (x := .slice B2' m2 d2) (by rw [hc1]; rfl)
        have cF := valid02_any s1 t1 A1 B1' n1 c1 m1 d1 a1 b1 wr (by omega) (by omega) (r1.keep KR.out)
        unfold ratV at cF
        clear hel hel' hc1 r1 r2
        go_wp2_with fail
        refine Calls.mono cF ?_
        rintro _ w5 ⟨v, rfl, hb5⟩
        have BR5 := Lib.hid (BR.out.trans (hb5.mono BR.out.size))
        have BW5 := Lib.hid (BWR.out.trans (hb5.mono BWR.out.size))
        have K5 := Lib.hid (Keeps.of_below hb5 (Nat.le_refl _))
        have Z5 := Lib.hid (B1.out.below hb5 B1.out.lt)
        clear cF hb5 e0 f0 f1 f2 f3
        cases v
        · go_wp2_with fail
          exact HN.out _ BW5.out
        · have e0 := Z5.out.at (j := 0) rfl
          have f4 := K5.out _ _ f4
          have f5 := K5.out _ _ f5
          have f6 := K5.out _ _ f6
          have f7 := K5.out _ _ f7
          have cG := valid02_any s2 t2 A2 B2' n2 c2 m2 d2 a2 b2 w5 (by omega) (by omega) (R2.out.keep K5.out)
          unfold ratV at cG
          go_wp2_with fail
          refine Calls.mono cG ?_
          rintro _ w6 ⟨v2, rfl, hb6⟩
          have BR6 := Lib.hid (BR5.out.trans (hb6.mono BR5.out.size))
          have BW6 := Lib.hid (BW5.out.trans (hb6.mono BW5.out.size))
          clear cG hb6 e0 f4 f5 f6 f7
          cases v2
          · go_wp2_with fail
            exact HN.out _ BW6.out
          · go_wp2_with fail
            go_roundg (n - (i + 1))
            case measure => omega
            case rel => exact ⟨i + 1, by go_num, by omega, BR6.out⟩
      · obtain hiN : i = n := by omega
        have h5i : ¬ (i : Int) < (n : Int) := by omega
        clear hiN
        go_wp2_with fail
        clear e0
        go_loopg [5] m (fun gg iv wr => ∃ i : Nat, iv = .int .i64 (i : Int) ∧ i + gg = m ∧ Below W.heap.size W wr)
        case atStart => exact ⟨0, rfl, by omega, BR.out⟩
        case round =>
          obtain ⟨i, rfl, hig, hb⟩ := hrel
          rename World => wr
          have BR := Lib.hid hb
          have B1 := Lib.hid (B0.out.below hb hWz)
          have BWR := Lib.hid (BW.out.trans (hb.mono (by omega)))
          have KR := Lib.hid (Keeps.of_below hb (Nat.le_refl _))
          have e1 := B1.out.at (j := 1) rfl
          clear hb
          by_cases h5 : i < m
          · have h5i : (i : Int) < (m : Int) := by omega
            have h50 : (0 : Int) ≤ (i : Int) := by omega
            obtain ⟨ad, cs1, rfl, hsz, hel, x1, s1, A1, n1, c1, a1, t1, B1', m1, d1, b1, hc1, r1, q1, q2⟩ := HS.out.2.2.1 i h5
            have hel' := hel.keep KR.out
            have R1 := Lib.hid (r1.keep KR.out)
            have f0 := hel'.zero (x := .int .i64 x1) (by rw [hc1]; rfl)
            have f1 := hel'.at (j := 1) (by omega) (x := .bool s1) (by rw [hc1]; rfl)
            have f2 := hel'.at (j := 2) (by omega) (x := .slice A1 n1 c1) (by rw [hc1]; rfl)
            have f3 := hel'.at (j := 3) (by omega) (x := .bool t1) (by rw [hc1]; rfl)
            have f4 := hel'.at (j := 4) (by omega) (x := .slice B1' m1 d1) (by rw [hc1]; rfl)
            clear hel hel' hc1 r1
            obtain ⟨w5, hw5⟩ : ∃ w5, w5 = wr.alloc (.cells #[.int .i64 x1, .bool s1, .slice A1 n1 c1, .bool t1, .slice B1' m1 d1] 56) := ⟨_, rfl⟩
            have x5 : CellsAt w5 wr.heap.size #[.int .i64 x1, .bool s1, .slice A1 n1 c1, .bool t1, .slice B1' m1 d1] 56 := by rw [hw5]; exact CellsAt.new _ _ _
            have hb5 : Below wr.heap.size wr w5 := by rw [hw5]; exact (Below.refl _ _).alloc (Nat.le_refl _) _
            have X5 := Lib.hid x5
            have BR5 := Lib.hid (BR.out.trans (hb5.mono BR.out.size))
            have BW5 := Lib.hid (BWR.out.trans (hb5.mono BWR.out.size))
            have K5 := Lib.hid (KR.out.trans (Keeps.of_below hb5 (Nat.le_refl _)))
            have Z5 := Lib.hid (B1.out.below hb5 B1.out.lt)
            have g0 := x5.at (j := 0) rfl
            have g1 := x5.at (j := 1) rfl
            have g2 := x5.at (j := 2) rfl
            have g3 := x5.at (j := 3) rfl
            have g4 := x5.at (j := 4) rfl
            have hzz := x5.lt
            have R5 := Lib.hid (R1.out.keep (Keeps.of_below hb5 (Nat.le_refl _)))
            clear x5 hb5
            go_upto_region 13 with fail
            rw [← hw5]
            have HW5 := Lib.hid hw5
            clear hw5 f0 f1 f2 f3 f4
            generalize wr.heap.size = bx at *
            have KW5 := Lib.hid (Keeps.of_below BR5.out (Nat.le_refl _))
            go_wp2_with fail
            refine Calls.mono (has26_any (n : Int) x1 w5) ?_
            rintro _ _ ⟨rfl, rfl⟩
            generalize (decide (0 ≤ x1) && decide (x1 < (n : Int))) = v1 at *
            cases v1
            · go_wp2_with fail
              exact HN.out _ BW5.out
            · have cV := valid02_any s1 t1 A1 B1' n1 c1 m1 d1 a1 b1 w5 (by omega) (by omega) R5.out
              unfold ratV at cV
              go_wp2_with fail
              refine Calls.mono cV ?_
              rintro _ w6 ⟨v2, rfl, hb6⟩
              have BR6 := Lib.hid (BR5.out.trans (hb6.mono BR5.out.size))
              have BW6 := Lib.hid (BW5.out.trans (hb6.mono BW5.out.size))
              have X6 := Lib.hid (X5.out.below hb6 hzz)
              have R6 := Lib.hid (R5.out.keep (Keeps.of_below hb6 (Nat.le_refl _)))
              clear cV hb6 g0 g1 g2 g3 g4 e1
              cases v2
              · go_wp2_with fail
                exact HN.out _ BW6.out
              · have g1 := X6.out.at (j := 1) rfl
                have g2 := X6.out.at (j := 2) rfl
                have g3 := X6.out.at (j := 3) rfl
                have g4 := X6.out.at (j := 4) rfl
                have cS := sign02_any s1 t1 A1 B1' n1 c1 m1 d1 a1 b1 w6 (by omega) (by omega) R6.out
                unfold ratV at cS
                go_wp2_with fail
                refine Calls.mono cS ?_
                rintro _ w7 ⟨rfl, hb7⟩
                have BR7 := Lib.hid (BR6.out.trans (hb7.mono BR6.out.size))
                have BW7 := Lib.hid (BW6.out.trans (hb7.mono BW6.out.size))
                clear cS hb7 g1 g2 g3 g4
                generalize sgnI s1 (tlen a1) = sg at *
                by_cases hsg : sg ≤ 0
                · go_wp2_with fail
                  exact HN.out _ BW7.out
                · go_wp2_with fail
                  go_roundg (m - (i + 1))
                  case measure => omega
                  case rel => exact ⟨i + 1, by go_num, by omega, BR7.out⟩
          · obtain hiN : i = m := by omega
            have h5i : ¬ (i : Int) < (m : Int) := by omega
            clear hiN
            go_wp2_with fail
            clear e1
            go_loopg [7] g (fun gg iv wr => ∃ i : Nat, iv = .int .i64 (i : Int) ∧ i + gg = g ∧ Below W.heap.size W wr)
            case atStart => exact ⟨0, rfl, by omega, BR.out⟩
            case round =>
              obtain ⟨i, rfl, hig, hb⟩ := hrel
              rename World => wr
              have BR := Lib.hid hb
              have B1 := Lib.hid (B0.out.below hb hWz)
              have BWR := Lib.hid (BW.out.trans (hb.mono (by omega)))
              have KR := Lib.hid (Keeps.of_below hb (Nat.le_refl _))
              have e2 := B1.out.at (j := 2) rfl
              clear hb
              by_cases h5 : i < g
              · have h5i : (i : Int) < (g : Int) := by omega
                have h50 : (0 : Int) ≤ (i : Int) := by omega
                obtain ⟨ad, cs1, rfl, hsz, hel, x1, y1, hc1⟩ := HS.out.2.2.2.1 i h5
                have hel' := hel.keep KR.out
                have f0 := hel'.zero (x := .int .i64 x1) (by rw [hc1]; rfl)
                have f1 := hel'.at (j := 1) (by omega) (x := .int .i64 y1) (by rw [hc1]; rfl)
                clear hel hel' hc1
                obtain ⟨w5, hw5⟩ : ∃ w5, w5 = wr.alloc (.cells #[.int .i64 x1, .int .i64 y1] 68) := ⟨_, rfl⟩
                have x5 : CellsAt w5 wr.heap.size #[.int .i64 x1, .int .i64 y1] 68 := by rw [hw5]; exact CellsAt.new _ _ _
                have hb5 : Below wr.heap.size wr w5 := by rw [hw5]; exact (Below.refl _ _).alloc (Nat.le_refl _) _
                have X5 := Lib.hid x5
                have BR5 := Lib.hid (BR.out.trans (hb5.mono BR.out.size))
                have BW5 := Lib.hid (BWR.out.trans (hb5.mono BWR.out.size))
                have K5 := Lib.hid (KR.out.trans (Keeps.of_below hb5 (Nat.le_refl _)))
                have Z5 := Lib.hid (B1.out.below hb5 B1.out.lt)
                have g0 := x5.at (j := 0) rfl
                have g1 := x5.at (j := 1) rfl
                have hzz := x5.lt
                clear x5 hb5
                go_upto_region 19 with fail
                rw [← hw5]
                have HW5 := Lib.hid hw5
                clear hw5 f0 f1
                generalize wr.heap.size = bx at *
                go_wp2_with fail
                refine Calls.mono (has26_any (n : Int) x1 w5) ?_
                rintro _ _ ⟨rfl, rfl⟩
                generalize (decide (0 ≤ x1) && decide (x1 < (n : Int))) = v1 at *
                cases v1
                · go_wp2_with fail
                  exact HN.out _ BW5.out
                · go_wp2_with fail
                  refine Calls.mono (has26_any (n : Int) y1 _) ?_
                  rintro _ _ ⟨rfl, rfl⟩
                  generalize (decide (0 ≤ y1) && decide (y1 < (n : Int))) = v2 at *
                  cases v2
                  · go_wp2_with fail
                    exact HN.out _ BW5.out
                  · cases hxy : (x1 == y1)
                    · go_wp2_with fail
                      go_roundg (g - (i + 1))
                      case measure => omega
                      case rel => exact ⟨i + 1, by go_num, by omega, BR5.out⟩
                    · go_wp2_with fail
                      exact HN.out _ BW5.out
              · obtain hiN : i = g := by omega
                have h5i : ¬ (i : Int) < (g : Int) := by omega
                clear hiN
                go_wp2_with fail
                clear e2
                go_loopg [9] a (fun gg iv wr => ∃ i : Nat, iv = .int .i64 (i : Int) ∧ i + gg = a ∧ Below W.heap.size W wr)
                case atStart => exact ⟨0, rfl, by omega, BR.out⟩
                case round =>
                  obtain ⟨i, rfl, hig, hb⟩ := hrel
                  rename World => wr
                  have BR := Lib.hid hb
                  have B1 := Lib.hid (B0.out.below hb hWz)
                  have BWR := Lib.hid (BW.out.trans (hb.mono (by omega)))
                  have KR := Lib.hid (Keeps.of_below hb (Nat.le_refl _))
                  have e1 := B1.out.at (j := 1) rfl
                  have e3 := B1.out.at (j := 3) rfl
                  clear hb
                  by_cases h5 : i < a
                  · have h5i : (i : Int) < (a : Int) := by omega
                    have h50 : (0 : Int) ≤ (i : Int) := by omega
                    obtain ⟨ad, cs1, rfl, hsz, hel, x1, y1, z1, cw, hc1⟩ := HS.out.2.2.2.2.1 i h5
                    have hel' := hel.keep KR.out
                    have f0 := hel'.zero (x := .int .i64 x1) (by rw [hc1]; rfl)
                    have f1 := hel'.at (j := 1) (by omega) (x := .int .i64 y1) (by rw [hc1]; rfl)
                    have f2 := hel'.at (j := 2) (by omega) (x := .int .i64 z1) (by rw [hc1]; rfl)
                    have f3 := hel'.at (j := 3) (by omega) (x := .bool cw) (by rw [hc1]; rfl)
                    clear hel hel' hc1
                    obtain ⟨w5, hw5⟩ : ∃ w5, w5 = wr.alloc (.cells #[.int .i64 x1, .int .i64 y1, .int .i64 z1, .bool cw] 70) := ⟨_, rfl⟩
                    have x5 : CellsAt w5 wr.heap.size #[.int .i64 x1, .int .i64 y1, .int .i64 z1, .bool cw] 70 := by rw [hw5]; exact CellsAt.new _ _ _
                    have hb5 : Below wr.heap.size wr w5 := by rw [hw5]; exact (Below.refl _ _).alloc (Nat.le_refl _) _
                    have X5 := Lib.hid x5
                    have BR5 := Lib.hid (BR.out.trans (hb5.mono BR.out.size))
                    have BW5 := Lib.hid (BWR.out.trans (hb5.mono BWR.out.size))
                    have K5 := Lib.hid (KR.out.trans (Keeps.of_below hb5 (Nat.le_refl _)))
                    have Z5 := Lib.hid (B1.out.below hb5 B1.out.lt)
                    have g0 := x5.at (j := 0) rfl
                    have g1 := x5.at (j := 1) rfl
                    have g2 := x5.at (j := 2) rfl
                    have g3 := x5.at (j := 3) rfl
                    have hzz := x5.lt
                    clear x5 hb5
                    go_upto_region 25 with fail
                    rw [← hw5]
                    have HW5 := Lib.hid hw5
                    clear hw5 f0 f1 f2 f3
                    generalize wr.heap.size = bx at *
                    clear e1 e3
                    have e1 := Z5.out.at (j := 1) rfl
                    have k1 := grown_cell e1
                    have j0 := grown_cell g0
                    have j1 := grown_cell g1
                    have j2 := grown_cell g2
                    have nh : ∀ (x : Int) (w' : World), Calls Tryz.prog 18 #[.int .i64 (n : Int), .int .i64 x] w' fun e w'' => e = .returned (.bool (decide (0 ≤ x) && decide (x < (n : Int)))) ∧ w' = w'' := fun x w' => has26_any _ x w'
                    cases hA : (decide (0 ≤ x1) && decide (x1 < (m : Int)))
                    · have cA := call_p (w := w5) (fun w' => has_v hA w')
                      have cB := cA
                      have cC := cA
                      refine wp_region_q (by kernel_rfl) (by kernel_rfl) ?_
                      repeat (go_big_quiet_step (first | with_reducible exact cA _ _ | with_reducible exact cB _ _ | with_reducible exact cC _ _))
                      refine wpQuiet_nil ?_
                      intro w6 hg6
                      have BR6 := Lib.hid (BR5.out.trans (hg6.mono BR5.out.size))
                      have BW6 := Lib.hid (BW5.out.trans (hg6.mono BW5.out.size))
                      clear hg6
                      go_wp2_with fail
                      exact HN.out _ BW6.out
                    · obtain ⟨hx0, hx1⟩ := has_t hA
                      obtain ⟨x2, hx2⟩ : ∃ x2 : Nat, x1 = (x2 : Int) := ⟨x1.toNat, by omega⟩
                      subst hx2
                      obtain ⟨ad3, cs3, rfl, hsz3, hel3, ctr, s3, A3, n3, c3, a3, t3, B3', m3, d3, b3, hc3, -, -, -⟩ := HS.out.2.2.1 x2 (by omega)
                      have c0 := (hel3.keep K5.out).zero (x := .int .i64 ctr) (by rw [hc3]; rfl)
                      have k0 := grown_cell c0
                      have cA := call_p (w := w5) (fun w' => has_v hA w')
                      clear hel3 hc3
                      cases hB : (decide (0 ≤ y1) && decide (y1 < (n : Int)))
                      · have cB := call_p (w := w5) (fun w' => has_v hB w')
                        have cC := cB
                        refine wp_region_q (by kernel_rfl) (by kernel_rfl) ?_
                        repeat (go_big_quiet_step (first | with_reducible exact cA _ _ | with_reducible exact cB _ _ | with_reducible exact cC _ _))
                        refine wpQuiet_nil ?_
                        intro w6 hg6
                        have BR6 := Lib.hid (BR5.out.trans (hg6.mono BR5.out.size))
                        have BW6 := Lib.hid (BW5.out.trans (hg6.mono BW5.out.size))
                        clear hg6
                        go_wp2_with fail
                        exact HN.out _ BW6.out
                      · have cB := call_p (w := w5) (fun w' => has_v hB w')
                        cases hC : (decide (0 ≤ z1) && decide (z1 < (n : Int)))
                        · have cC := call_p (w := w5) (fun w' => has_v hC w')
                          refine wp_region_q (by kernel_rfl) (by kernel_rfl) ?_
                          repeat (go_big_quiet_step (first | with_reducible exact cA _ _ | with_reducible exact cB _ _ | with_reducible exact cC _ _))
                          refine wpQuiet_nil ?_
                          intro w6 hg6
                          have BR6 := Lib.hid (BR5.out.trans (hg6.mono BR5.out.size))
                          have BW6 := Lib.hid (BW5.out.trans (hg6.mono BW5.out.size))
                          clear hg6
                          go_wp2_with fail
                          exact HN.out _ BW6.out
                        · have cC := call_p (w := w5) (fun w' => has_v hC w')
                          cases hD : (y1 == ctr)
                          · cases hE : (z1 == ctr)
                            · refine wp_region_q (by kernel_rfl) (by kernel_rfl) ?_
                              repeat (go_big_quiet_step (first | with_reducible exact cA _ _ | with_reducible exact cB _ _ | with_reducible exact cC _ _))
                              refine wpQuiet_nil ?_
                              intro w6 hg6
                              have BR6 := Lib.hid (BR5.out.trans (hg6.mono BR5.out.size))
                              have BW6 := Lib.hid (BW5.out.trans (hg6.mono BW5.out.size))
                              clear hg6
                              go_wp2_with fail
                              go_roundg (a - (i + 1))
                              case measure => omega
                              case rel => exact ⟨i + 1, by go_num, by omega, BR6.out⟩
                            · refine wp_region_q (by kernel_rfl) (by kernel_rfl) ?_
                              repeat (go_big_quiet_step (first | with_reducible exact cA _ _ | with_reducible exact cB _ _ | with_reducible exact cC _ _))
                              refine wpQuiet_nil ?_
                              intro w6 hg6
                              have BR6 := Lib.hid (BR5.out.trans (hg6.mono BR5.out.size))
                              have BW6 := Lib.hid (BW5.out.trans (hg6.mono BW5.out.size))
                              clear hg6
                              go_wp2_with fail
                              exact HN.out _ BW6.out
                          · refine wp_region_q (by kernel_rfl) (by kernel_rfl) ?_
                            repeat (go_big_quiet_step (first | with_reducible exact cA _ _ | with_reducible exact cB _ _ | with_reducible exact cC _ _))
                            refine wpQuiet_nil ?_
                            intro w6 hg6
                            have BR6 := Lib.hid (BR5.out.trans (hg6.mono BR5.out.size))
                            have BW6 := Lib.hid (BW5.out.trans (hg6.mono BW5.out.size))
                            clear hg6
                            go_wp2_with fail
                            exact HN.out _ BW6.out
                  · obtain hiN : i = a := by omega
                    have h5i : ¬ (i : Int) < (a : Int) := by omega
                    clear hiN
                    go_wp2_with fail
                    clear e1 e3
                    go_loopg [11] h (fun gg iv wr => ∃ i : Nat, iv = .int .i64 (i : Int) ∧ i + gg = h ∧ Below W.heap.size W wr)
                    case atStart => exact ⟨0, rfl, by omega, BR.out⟩
                    case round =>
                      obtain ⟨i, rfl, hig, hb⟩ := hrel
                      rename World => wr
                      have BR := Lib.hid hb
                      have B1 := Lib.hid (B0.out.below hb hWz)
                      have BWR := Lib.hid (BW.out.trans (hb.mono (by omega)))
                      have KR := Lib.hid (Keeps.of_below hb (Nat.le_refl _))
                      have e0 := B1.out.at (j := 0) rfl
                      have e1 := B1.out.at (j := 1) rfl
                      have e2 := B1.out.at (j := 2) rfl
                      have e3 := B1.out.at (j := 3) rfl
                      have e4 := B1.out.at (j := 4) rfl
                      have e5 := B1.out.at (j := 5) rfl
                      clear hb
                      by_cases h5 : i < h
                      · have h5i : (i : Int) < (h : Int) := by omega
                        have h50 : (0 : Int) ≤ (i : Int) := by omega
                        obtain ⟨ad, cs1, rfl, hsz, hel, Q1, q1, qc1, hc1, hq1, hq2⟩ := HS.out.2.2.2.2.2.1 i h5
                        have hel' := hel.keep KR.out
                        have f0 := hel'.zero (x := .slice Q1 q1 qc1) (by rw [hc1]; rfl)
                        rw [Nat.mul_one] at f0
                        have CC := Lib.hid (fun w' (kk : Keeps W w') => chain_any P n c R m d G g gc A a ac (some ad) h hc C k kc Q1 q1 qc1 w' (HS.out.keep kk) hq1 (hq2.keep kk (fun _ h => h)))
                        unfold sketchC at CC
                        clear hel hel' hc1 hq2
                        go_upto_region 30 with fail
                        go_region_held3 (fun w' => w'.cell? ⟨w.heap.size, 0, none⟩ = some (.slice P n c) ∧ w'.cell? ⟨w.heap.size, 1, none⟩ = some (.slice R m d) ∧ w'.cell? ⟨w.heap.size, 2, none⟩ = some (.slice G g gc) ∧ w'.cell? ⟨w.heap.size, 3, none⟩ = some (.slice A a ac) ∧ w'.cell? ⟨w.heap.size, 4, none⟩ = some (.slice (some ad) h hc) ∧ w'.cell? ⟨w.heap.size, 5, none⟩ = some (.slice C k kc) ∧ w'.cell? (ad.add i) = some (.slice Q1 q1 qc1)) (first | exact SWE | exact ⟨e0, e1, e2, e3, e4, e5, f0⟩ | go_keep)
                          ((first
                            | (go_at_call 20; refine (CC.out _ (KR.out.trans (Keeps.drew _))).mono ?_; rintro ev w5 ⟨v5, rfl, hb5⟩; have hb6 : Below wr.heap.size wr w5 := (Below.refl _ _).drew.trans hb5; have BR5 := Lib.hid (BR.out.trans (hb6.mono BR.out.size)); have BW5 := Lib.hid (BWR.out.trans (hb6.mono BWR.out.size)); have K5 := Keeps.of_below hb6 (Nat.le_refl _); have SWE := And.intro (K5 _ _ e0) (And.intro (K5 _ _ e1) (And.intro (K5 _ _ e2) (And.intro (K5 _ _ e3) (And.intro (K5 _ _ e4) (And.intro (K5 _ _ e5) (K5 _ _ f0)))))); clear hb5 hb6 K5)
                            | fail))
                        all_goals
                         clear e0 e1 e2 e3 e4 e5 f0
                         cases v5
                         · go_wp2_with fail
                           exact HN.out _ BW5.out
                         · go_wp2_with fail
                           go_roundg (h - (i + 1))
                           case measure => omega
                           case rel => exact ⟨i + 1, by go_num, by omega, BR5.out⟩
                      · obtain hiN : i = h := by omega
                        have h5i : ¬ (i : Int) < (h : Int) := by omega
                        clear hiN
                        go_wp2_with fail
                        clear e0 e1 e2 e3 e4 e5
                        go_loopg [12] k (fun gg iv wr => ∃ i : Nat, iv = .int .i64 (i : Int) ∧ i + gg = k ∧ SlAt W 5 C i (fun cs => OkC W cs ∧ DistOK cs) ∧ Below W.heap.size W wr)
                        case atStart => exact ⟨0, rfl, by omega, SlAt.none _ _ _ _, BR.out⟩
                        case round =>
                          obtain ⟨i, rfl, hig, hsl, hb⟩ := hrel
                          rename World => wr
                          have SL := Lib.hid hsl
                          have BR := Lib.hid hb
                          have B1 := Lib.hid (B0.out.below hb hWz)
                          have BWR := Lib.hid (BW.out.trans (hb.mono (by omega)))
                          have KR := Lib.hid (Keeps.of_below hb (Nat.le_refl _))
                          have e1 := B1.out.at (j := 1) rfl
                          have e5 := B1.out.at (j := 5) rfl
                          clear hb hsl
                          by_cases h5 : i < k
                          · have h5i : (i : Int) < (k : Int) := by omega
                            have h50 : (0 : Int) ≤ (i : Int) := by omega
                            obtain ⟨ad, cs1, rfl, hsz, hel, hok⟩ := HS.out.2.2.2.2.2.2 i h5
                            have HEL := Lib.hid hel
                            have HOK := Lib.hid hok
                            have hel' := hel.keep KR.out
                            have CC : Hid (∀ w', Keeps W w' → Calls Tryz.prog 21 #[.agg cs1, .int .i64 (n : Int), .int .i64 (m : Int)] w' (ConPost cs1 w')) := Lib.hid (fun w' kk => valid25_of HM.out cs1 (n : Int) (m : Int) w' (hok.keep kk))
                            obtain ⟨kind, P1, n1, c1, ps, C1, m1, d1, qs, V1, v1, v1c, side, hc1, -, -, -, -⟩ := hok
                            have f0 := hel'.zero (x := .int .i64 kind) (by rw [hc1]; rfl)
                            have f1 := hel'.at (j := 1) (by omega) (x := .slice P1 n1 c1) (by rw [hc1]; rfl)
                            have f2 := hel'.at (j := 2) (by omega) (x := .slice C1 m1 d1) (by rw [hc1]; rfl)
                            have f3 := hel'.at (j := 3) (by omega) (x := .slice V1 v1 v1c) (by rw [hc1]; rfl)
                            have f4 := hel'.at (j := 4) (by omega) (x := .int .i64 side) (by rw [hc1]; rfl)
                            obtain ⟨CP, hCP⟩ : ∃ CP : World → Ending → World → Prop, CP = ConPost cs1 := ⟨_, rfl⟩
                            have HCP := Lib.hid hCP
                            rw [← hCP] at CC
                            rw [hc1] at CC
                            unfold conC at CC
                            clear hel hel' hCP hc1
                            go_upto_region 35 with fail
                            go_region_held3 (fun w' => w'.cell? ⟨w.heap.size, 1, none⟩ = some (.slice R m d) ∧ w'.cell? ⟨w.heap.size, 5, none⟩ = some (.slice (some ad) k kc) ∧ w'.cell? (ad.add (i * 5)) = some (.int .i64 kind) ∧ w'.cell? ⟨(ad.add (i * 5)).block, (ad.add (i * 5)).off + 1, none⟩ = some (.slice P1 n1 c1) ∧ w'.cell? ⟨(ad.add (i * 5)).block, (ad.add (i * 5)).off + 2, none⟩ = some (.slice C1 m1 d1) ∧ w'.cell? ⟨(ad.add (i * 5)).block, (ad.add (i * 5)).off + 3, none⟩ = some (.slice V1 v1 v1c) ∧ w'.cell? ⟨(ad.add (i * 5)).block, (ad.add (i * 5)).off + 4, none⟩ = some (.int .i64 side)) (first | exact SWE | exact ⟨e1, e5, f0, f1, f2, f3, f4⟩ | go_keep)
                              ((first
                                | (go_at_call 21; refine (CC.out _ (KR.out.trans (Keeps.drew _))).mono ?_; intro ev w5 hp; rw [HCP.out] at hp; obtain ⟨hb5, v5, he5, hv5⟩ := hp; subst he5; have hb6 : Below wr.heap.size wr w5 := (Below.refl _ _).drew.trans hb5; have BR5 := Lib.hid (BR.out.trans (hb6.mono BR.out.size)); have BW5 := Lib.hid (BWR.out.trans (hb6.mono BWR.out.size)); have HV5 := Lib.hid hv5; have K5 := Keeps.of_below hb6 (Nat.le_refl _); have SWE := And.intro (K5 _ _ e1) (And.intro (K5 _ _ e5) (And.intro (K5 _ _ f0) (And.intro (K5 _ _ f1) (And.intro (K5 _ _ f2) (And.intro (K5 _ _ f3) (K5 _ _ f4)))))); clear hb5 hb6 K5 hv5)
                                | fail))
                            all_goals
                             clear e1 e5 f0 f1 f2 f3 f4
                             cases v5
                             · go_wp2_with fail
                               exact HN.out _ BW5.out
                             · go_wp2_with fail
                               go_roundg (k - (i + 1))
                               case measure => omega
                               case rel => exact ⟨i + 1, by go_num, by omega, SL.out.more rfl hsz HEL.out ⟨HOK.out, HV5.out (by first | rfl | trivial)⟩, BR5.out⟩
                          · obtain rfl : i = k := by omega
                            go_wp2_with fail
                            exact HY.out _ BWR.out (SL.out.keep KR.out (fun _ h => ⟨h.1.keep KR.out, h.2⟩))
  · go_wp2_with fail
    exact HT.out _ BW1.out
end Go.Proofs.YtpdbekgkopglgaaGreat
