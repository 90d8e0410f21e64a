/-
  Contracts and lemmas for the statement, joined: Nz.
-/
import Derived.Test.YtpdbekgkopglgaaGreatJ11
import Derived.Deep.RegionHeld3
namespace Go.Proofs.YtpdbekgkopglgaaGreat
set_option linter.unusedVariables false
set_option linter.unusedSimpArgs false
open Go.RowKit Go.Sort
attribute [local go_sem ↓] Go.wp_at_zero Go.wp_at_succ
attribute [local simp] ne_two ne_two'

set_option maxRecDepth 100000 in
set_option maxHeartbeats 16000000 in
theorem mul02_any (K : Nat) (w : World) (na nb ya yb : Bool) (A B Y Z : Option Addr) (n c m d p e q f : Nat) (a b a' b' : List Nat) (hK : K ≤ 10000) (hn : n ≤ K) (hm : m ≤ K) (hp : p ≤ 2) (hq : q ≤ 2) (h : RatAt w A n c a B m d b) (h' : RatAt w Y p e a' Z q f b') :
    Calls Tryz.prog 93 #[ratV na A n c nb B m d, ratV ya Y p e yb Z q f] w (RatPost w (K + 10)) := by
  unfold ratV
  obtain ⟨W, hW⟩ : ∃ W, W = ((w.alloc (.cells #[.bool na, .slice A n c, .bool nb, .slice B m d] 52)).alloc (.cells #[.bool ya, .slice Y p e, .bool yb, .slice Z q f] 52)).alloc (.cells #[.bool false, .slice none 0 0, .bool false, .slice none 0 0] 52) := ⟨_, rfl⟩
  have KP := Lib.hid (mulKeep w W na nb ya yb A B Y Z n c m d p e q f a b a' b' h h' hW)
  have X0 : Hid (Below W.heap.size W W) := Lib.hid (Below.refl _ _)
  have FZ : Hid (∀ W, Calls Tryz.prog 89 #[.int .i64 0] W (RatPost W 2)) := Lib.hid fun W => fromint02_any 0 W (by omega)
  clear h h'
  obtain ⟨-, b0, b1, b2, -, hz0, -⟩ := KP.out W X0.out
  obtain ⟨c0, c1, c2, c3⟩ := b0.k4
  obtain ⟨d0, d1, d2, d3⟩ := b1.k4
  clear b0 b1 b2
  have EGQ : Hid (∀ args w, (callFunc 96 args).run Tryz.prog w = .ok (.enter 96 args) w) := Lib.hid (enters_of Tryz.func96 (by kernel_rfl) rfl)
  have EGM : Hid (∀ args w, (callFunc 95 args).run Tryz.prog w = .ok (.enter 95 args) w) := Lib.hid (enters_of Tryz.func95 (by kernel_rfl) rfl)
  by_cases h1 : n = 0
  · subst h1
    have cz := FZ.out W
    go_enter Tryz.func93, Tryz.ntmps93
    go_upto_region 1 with fail
    rw [← hW]
    have HW := Lib.hid hW
    clear hW
    go_wp2_with fail
    refine Calls.mono cz ?_
    rintro _ w2 ⟨hb2, s2, C2, k2, x2, q2, s3, C3, k3, x3, q3, rfl, hr2, hk2, hk3⟩
    obtain ⟨-, -, -, b2, bw, -, -⟩ := KP.out w2 (X0.out.trans hb2)
    obtain ⟨r, hr⟩ := mulRet w w2 (w.heap.size + 1 + 1) rfl (K := K + 10) (s := s2) (s' := s3) b2 bw hr2 (by omega) (by omega) _ rfl
    have f0 := b2.frozen 0
    have f1 := b2.frozen 1
    have f2 := b2.frozen 2
    have f3 := b2.frozen 3
    obtain ⟨e0, e1, e2, e3⟩ := b2.k4
    have R := Lib.hid hr
    have G := Lib.hid r
    obtain ⟨r0, r1, r2, r3⟩ := r.k4
    clear cz hb2 b2 bw hr2 r hr
    unfold ratV
    go_wp2_with fail
    exact bodyPost_ret (v := ratV s2 C2 k2 x2 s3 C3 k3 x3) (by simp [ratV, results, Tryz.results93, go_sem, r0, r1, r2, r3]) rfl R.out
  by_cases h2 : p = 0
  · subst h2
    have hn0 : ((n : Int) == 0) = false := by simp; omega
    have cz := FZ.out W
    go_enter Tryz.func93, Tryz.ntmps93
    go_upto_region 1 with fail
    rw [← hW]
    have HW := Lib.hid hW
    clear hW
    go_wp2_with fail
    refine Calls.mono cz ?_
    rintro _ w2 ⟨hb2, s2, C2, k2, x2, q2, s3, C3, k3, x3, q3, rfl, hr2, hk2, hk3⟩
    obtain ⟨-, -, -, b2, bw, -, -⟩ := KP.out w2 (X0.out.trans hb2)
    obtain ⟨r, hr⟩ := mulRet w w2 (w.heap.size + 1 + 1) rfl (K := K + 10) (s := s2) (s' := s3) b2 bw hr2 (by omega) (by omega) _ rfl
    have f0 := b2.frozen 0
    have f1 := b2.frozen 1
    have f2 := b2.frozen 2
    have f3 := b2.frozen 3
    obtain ⟨e0, e1, e2, e3⟩ := b2.k4
    have R := Lib.hid hr
    have G := Lib.hid r
    obtain ⟨r0, r1, r2, r3⟩ := r.k4
    clear cz hb2 b2 bw hr2 r hr
    unfold ratV
    go_wp2_with fail
    exact bodyPost_ret (v := ratV s2 C2 k2 x2 s3 C3 k3 x3) (by simp [ratV, results, Tryz.results93, go_sem, r0, r1, r2, r3]) rfl R.out
  have hn0 : ((n : Int) == 0) = false := by simp; omega
  have hp0 : ((p : Int) == 0) = false := by simp; omega
  go_enter Tryz.func93, Tryz.ntmps93
  go_upto_region 1 with fail
  rw [← hW]
  have HW := Lib.hid hW
  clear hW FZ
  go_upto_region 3 with fail
  go_cut [27] (fun pv wx => ∃ o, pv = .bool o ∧ Below W.heap.size W wx)
  case first =>
    have cO := one_any nb B m d b W (by omega) (KP.out W X0.out).1.1.den
    go_wp2_with fail
    refine Calls.mono cO ?_
    rintro _ w1 ⟨o1, rfl, hb1⟩
    have X1 := Lib.hid (X0.out.trans hb1)
    clear cO hb1 c0 c1 c2 c3 d0 d1 d2 d3
    obtain ⟨-, b0, b1, b2, -, -, hz1⟩ := KP.out w1 X1.out
    obtain ⟨c0, c1, c2, c3⟩ := b0.k4
    obtain ⟨d0, d1, d2, d3⟩ := b1.k4
    clear b0 b1 b2
    have cP := one_any yb Z q f b' w1 (by omega) (KP.out w1 X1.out).1.2.den
    cases o1
    · go_wp2_with fail
      go_meet
      exact ⟨false, rfl, X1.out⟩
    · go_wp2_with fail
      refine Calls.mono cP ?_
      rintro _ w2 ⟨o2, rfl, hb2⟩
      have X2 := Lib.hid (X1.out.trans (hb2.mono (by omega)))
      clear cP hb2 c0 c1 c2 c3 d0 d1 d2 d3
      go_wp2_with fail
      go_meet
      exact ⟨o2, rfl, X2.out⟩
  case rest =>
    obtain ⟨o, rfl, x2⟩ := hcut
    rename World => w2
    have X2 := Lib.hid x2
    clear c0 c1 c2 c3 d0 d1 d2 d3 x2
    cases o
    · go_upto_region 5 with fail
      obtain ⟨-, b0, b1, b2, -, -, hz2⟩ := KP.out w2 X2.out
      obtain ⟨c0, c1, c2, c3⟩ := b0.k4
      obtain ⟨d0, d1, d2, d3⟩ := b1.k4
      clear b0 b1 b2
      have EGC : Hid (∀ args w, (callFunc 38 args).run Tryz.prog w = .ok (.enter 38 args) w) := Lib.hid (enters_of Tryz.func38 (by kernel_rfl) rfl)
      go_cut [5, 6] (fun p5 p6 wx => ∃ g5 g6 Cg kg cg lg Ch kh ch lh, p5 = .pointer (some ⟨g5, 0, none⟩) ∧ p6 = .pointer (some ⟨g6, 0, none⟩) ∧ Below W.heap.size W wx ∧ W.heap.size ≤ g5 ∧ W.heap.size ≤ g6 ∧ CellsAt wx g5 #[.bool false, .slice Cg kg cg] 50 ∧ CellsAt wx g6 #[.bool false, .slice Ch kh ch] 50 ∧ MagAt wx Cg kg cg lg ∧ MagAt wx Ch kh ch lh ∧ kg ≤ K + 2 ∧ kh ≤ K + 2)
      case first =>
        obtain ⟨⟨_, _⟩, ⟨_, _⟩, ⟨_, _⟩, ⟨_, _⟩, ⟨_, _⟩⟩ := ne8 hz0 hz2
        have cc8 : C8 w2 w.heap.size (.bool na) (.slice A n c) (.bool nb) (.slice B m d) (.bool ya) (.slice Y p e) (.bool yb) (.slice Z q f) := ⟨c0, c1, c2, c3, d0, d1, d2, d3⟩
        have GS1 := Lib.hid (gcd_first (K := K) KP.out hK hn hq)
        have GS2 := Lib.hid (gcd_second (K := K) KP.out hK hm hp)
        clear KP X0 EGQ EGM HW hn0 hp0
        go_region_held3 (fun w' => w'.cell? ⟨w.heap.size, 0, none⟩ = some (.bool na) ∧ w'.cell? ⟨w.heap.size, 1, none⟩ = some (.slice A n c) ∧ w'.cell? ⟨w.heap.size, 2, none⟩ = some (.bool nb) ∧ w'.cell? ⟨w.heap.size, 3, none⟩ = some (.slice B m d) ∧ w'.cell? ⟨w.heap.size + 1, 0, none⟩ = some (.bool ya) ∧ w'.cell? ⟨w.heap.size + 1, 1, none⟩ = some (.slice Y p e) ∧ w'.cell? ⟨w.heap.size + 1, 2, none⟩ = some (.bool yb) ∧ w'.cell? ⟨w.heap.size + 1, 3, none⟩ = some (.slice Z q f)) (first | (show C8 _ w.heap.size (.bool na) (.slice A n c) (.bool nb) (.slice B m d) (.bool ya) (.slice Y p e) (.bool yb) (.slice Z q f); (repeat (first | with_reducible exact cc8 | with_reducible refine C8.alloc ?_ _ | with_reducible refine C8.drew ?_ | with_reducible refine C8.set ?_ (by first | assumption | fail) (by first | assumption | fail) _)); done) | go_keep)
          ((first
            | (go_at_call_of 38 (Value.agg #[.bool na, .slice A n c]); refine (GS1.out _ (by repeat (first | with_reducible exact X2.out | with_reducible refine belowAl ?_ _ | with_reducible refine belowDr ?_))).mono ?_; clear cc8 c0 c1 c2 c3 d0 d1 d2 d3; rintro ev w8 ⟨Cg, kg, cg, lg, rfl, M8, hl8, X8, Z8, KC8, K8, hz8, cc8⟩; obtain ⟨c0, c1, c2, c3, d0, d1, d2, d3⟩ := id cc8; obtain ⟨⟨_, _⟩, ⟨_, _⟩, ⟨_, _⟩, ⟨_, _⟩, ⟨_, _⟩⟩ := ne8 hz0 hz8; (first | (refine putF (T := CellsAt w8 (w2.heap.size) #[.bool false, .slice none 0 0] 50) ?_ ?_; (focus ((repeat (first | with_reducible exact CellsAt.new _ _ _ | with_reducible refine CellsAt.new_at (by first | (simp; done) | fail) _ _ | with_reducible refine CellsAt.alloc ?_ _ | with_reducible refine cellsAt_dr ?_ | with_reducible refine KC8.out _ _ _ ?_)); done)); intro CU; obtain ⟨⟨_, _⟩, ⟨_, _⟩⟩ := ne4 CU.lt; have := (CU.k2).1; have := (CU.k2).2; have := CU.frozen 0; have := CU.frozen 1; have CA := (fun o => CU.alloc o); have := (fun o => (CA o).k2.1); have := (fun o => (CA o).k2.2); have := (fun o => (CA o).frozen 0); have := (fun o => (CA o).frozen 1); clear CU CA) | skip); (first | (refine putF (T := CellsAt w8 (w2.heap.size + 1) #[.bool false, .slice none 0 0] 50) ?_ ?_; (focus ((repeat (first | with_reducible exact CellsAt.new _ _ _ | with_reducible refine CellsAt.new_at (by first | (simp; done) | fail) _ _ | with_reducible refine CellsAt.alloc ?_ _ | with_reducible refine cellsAt_dr ?_ | with_reducible refine KC8.out _ _ _ ?_)); done)); intro CU; obtain ⟨⟨_, _⟩, ⟨_, _⟩⟩ := ne4 CU.lt; have := (CU.k2).1; have := (CU.k2).2; have := CU.frozen 0; have := CU.frozen 1; have CA := (fun o => CU.alloc o); have := (fun o => (CA o).k2.1); have := (fun o => (CA o).k2.2); have := (fun o => (CA o).frozen 0); have := (fun o => (CA o).frozen 1); clear CU CA) | skip))
            | (go_at_call_of 38 (Value.agg #[.bool ya, .slice Y p e]); refine (GS2.out _ (by repeat (first | with_reducible exact X8.out | with_reducible exact X2.out | with_reducible refine belowAl ?_ _ | with_reducible refine belowDr ?_))).mono ?_; clear cc8 c0 c1 c2 c3 d0 d1 d2 d3; rintro ev w9 ⟨Ch, kh, ch, lh, rfl, M9, hl9, X9, Z9, KC9, K9, hz9, cc8⟩; obtain ⟨c0, c1, c2, c3, d0, d1, d2, d3⟩ := id cc8; obtain ⟨⟨_, _⟩, ⟨_, _⟩, ⟨_, _⟩, ⟨_, _⟩, ⟨_, _⟩⟩ := ne8 hz0 hz9; have M8 := Lib.hid (M8.out.keep (by repeat (first | with_reducible exact K9.out | with_reducible refine Keeps.trans ?_ K9.out | with_reducible exact Keeps.refl _ | with_reducible refine keeps_al ?_ _ | with_reducible refine keeps_dr ?_))); (first | (refine putF (T := CellsAt w9 (w2.heap.size) #[.bool false, .slice none 0 0] 50) ?_ ?_; (focus ((repeat (first | with_reducible exact CellsAt.new _ _ _ | with_reducible refine CellsAt.new_at (by first | (simp; done) | fail) _ _ | with_reducible refine CellsAt.alloc ?_ _ | with_reducible refine cellsAt_dr ?_ | with_reducible refine KC9.out _ _ _ ?_ | with_reducible refine KC8.out _ _ _ ?_)); done)); intro CU; obtain ⟨⟨_, _⟩, ⟨_, _⟩⟩ := ne4 CU.lt; have := (CU.k2).1; have := (CU.k2).2; have := CU.frozen 0; have := CU.frozen 1; have CA := (fun o => CU.alloc o); have := (fun o => (CA o).k2.1); have := (fun o => (CA o).k2.2); have := (fun o => (CA o).frozen 0); have := (fun o => (CA o).frozen 1); clear CU CA) | skip); (first | (refine putF (T := CellsAt w9 (w2.heap.size + 1) #[.bool false, .slice none 0 0] 50) ?_ ?_; (focus ((repeat (first | with_reducible exact CellsAt.new _ _ _ | with_reducible refine CellsAt.new_at (by first | (simp; done) | fail) _ _ | with_reducible refine CellsAt.alloc ?_ _ | with_reducible refine cellsAt_dr ?_ | with_reducible refine KC9.out _ _ _ ?_ | with_reducible refine KC8.out _ _ _ ?_)); done)); intro CU; obtain ⟨⟨_, _⟩, ⟨_, _⟩⟩ := ne4 CU.lt; have := (CU.k2).1; have := (CU.k2).2; have := CU.frozen 0; have := CU.frozen 1; have CA := (fun o => CU.alloc o); have := (fun o => (CA o).k2.1); have := (fun o => (CA o).k2.2); have := (fun o => (CA o).frozen 0); have := (fun o => (CA o).frozen 1); clear CU CA) | skip); (first | (refine putF (T := CellsAt w9 (w8.heap.size) #[.bool false, .slice none 0 0] 50) ?_ ?_; (focus ((repeat (first | with_reducible exact CellsAt.new _ _ _ | with_reducible refine CellsAt.new_at (by first | (simp; done) | fail) _ _ | with_reducible refine CellsAt.alloc ?_ _ | with_reducible refine cellsAt_dr ?_ | with_reducible refine KC9.out _ _ _ ?_ | with_reducible refine KC8.out _ _ _ ?_)); done)); intro CU; obtain ⟨⟨_, _⟩, ⟨_, _⟩⟩ := ne4 CU.lt; have := (CU.k2).1; have := (CU.k2).2; have := CU.frozen 0; have := CU.frozen 1; have CA := (fun o => CU.alloc o); have := (fun o => (CA o).k2.1); have := (fun o => (CA o).k2.2); have := (fun o => (CA o).frozen 0); have := (fun o => (CA o).frozen 1); clear CU CA) | skip); (first | (refine putF (T := CellsAt w9 (w8.heap.size + 1) #[.bool false, .slice none 0 0] 50) ?_ ?_; (focus ((repeat (first | with_reducible exact CellsAt.new _ _ _ | with_reducible refine CellsAt.new_at (by first | (simp; done) | fail) _ _ | with_reducible refine CellsAt.alloc ?_ _ | with_reducible refine cellsAt_dr ?_ | with_reducible refine KC9.out _ _ _ ?_ | with_reducible refine KC8.out _ _ _ ?_)); done)); intro CU; obtain ⟨⟨_, _⟩, ⟨_, _⟩⟩ := ne4 CU.lt; have := (CU.k2).1; have := (CU.k2).2; have := CU.frozen 0; have := CU.frozen 1; have CA := (fun o => CU.alloc o); have := (fun o => (CA o).k2.1); have := (fun o => (CA o).k2.2); have := (fun o => (CA o).frozen 0); have := (fun o => (CA o).frozen 1); clear CU CA) | skip))
            | fail))
        all_goals
         go_wp2_with fail
         go_meet
         refine ⟨_, _, Cg, kg, cg, lg, Ch, kh, ch, lh, rfl, rfl, ?_, ?_, ?_, ?_, ?_, ?_, ?_, hl8, hl9⟩
         all_goals
          repeat (first | with_reducible exact X9.out | with_reducible exact X8.out | with_reducible exact X2.out | with_reducible exact M8.out | with_reducible exact M9.out | with_reducible exact CellsAt.new _ _ _ | with_reducible refine belowAl ?_ _ | with_reducible refine belowDr ?_ | with_reducible refine belowSt ?_ ?_ _ | with_reducible refine magAl ?_ _ | with_reducible refine magTwoZ ?_ ?_ _ _ | (with_reducible refine CellsAt.new_at ?_ _ _; focus (simp; done)) | with_reducible refine CellsAt.twoZ ?_ _ _ | (with_reducible refine cellsSt' ?_ ?_ _ _; focus (first | (with_reducible assumption) | (simp; done) | (simp; with_reducible assumption))) | with_reducible refine CellsAt.alloc ?_ _ | with_reducible refine cellsAt_dr ?_ | with_reducible refine KC9.out _ _ _ ?_ | with_reducible refine KC8.out _ _ _ ?_ | (with_reducible assumption) | (with_reducible refine Nat.le_succ_of_le ?_; with_reducible assumption) | (simp only [World.size_alloc, World.size_drew]; first | (with_reducible assumption) | (with_reducible refine Nat.le_succ_of_le ?_; with_reducible assumption)))
      case rest =>
        obtain ⟨g5, g6, Cg, kg, cg, lg, Ch, kh, ch, lh, rfl, rfl, hx, hg5, hg6, hc5, hc6, hm5, hm6, hk5, hk6⟩ := hcut
        rename World => wx
        have HX := Lib.hid hx
        have KQ : Hid (∀ w', Below wx.heap.size wx w' → ((fun w' => w'.cell? ⟨w.heap.size, 0, none⟩ = some (.bool na) ∧ w'.cell? ⟨w.heap.size, 1, none⟩ = some (.slice A n c) ∧ w'.cell? ⟨w.heap.size, 2, none⟩ = some (.bool nb) ∧ w'.cell? ⟨w.heap.size, 3, none⟩ = some (.slice B m d) ∧ w'.cell? ⟨w.heap.size + 1, 0, none⟩ = some (.bool ya) ∧ w'.cell? ⟨w.heap.size + 1, 1, none⟩ = some (.slice Y p e) ∧ w'.cell? ⟨w.heap.size + 1, 2, none⟩ = some (.bool yb) ∧ w'.cell? ⟨w.heap.size + 1, 3, none⟩ = some (.slice Z q f) ∧ w'.cell? ⟨g5, 0, none⟩ = some (.bool false) ∧ w'.cell? ⟨g5, 1, none⟩ = some (.slice Cg kg cg) ∧ w'.cell? ⟨g6, 0, none⟩ = some (.bool false) ∧ w'.cell? ⟨g6, 1, none⟩ = some (.slice Ch kh ch)) w') ∧ (RatAt w' A n c a B m d b ∧ RatAt w' Y p e a' Z q f b') ∧ MagAt w' Cg kg cg lg ∧ MagAt w' Ch kh ch lh) := Lib.hid (fun w' hb => by
          obtain ⟨hr, k0, k1, -, -, -, -⟩ := KP.out w' (HX.out.trans (hb.mono HX.out.size))
          have j5 := (hc5.below hb hc5.lt).k2
          have j6 := (hc6.below hb hc6.lt).k2
          have i0 := k0.k4
          have i1 := k1.k4
          exact ⟨⟨i0.1, i0.2.1, i0.2.2.1, i0.2.2.2, i1.1, i1.2.1, i1.2.2.1, i1.2.2.2, j5.1, j5.2, j6.1, j6.2⟩, hr, hm5.keep (Keeps.of_below hb (Nat.le_refl _)), hm6.keep (Keeps.of_below hb (Nat.le_refl _))⟩)
        have U0 := KQ.out wx (Below.refl _ _)
        have SW0 := U0.1
        have G0 := Lib.hid U0.2
        clear U0 hx hc5 hc6 hm5 hm6
        have : g5 ≠ w.heap.size + 1 + 1 := (by omega)
        have : w.heap.size + 1 + 1 ≠ g5 := (by omega)
        have : g6 ≠ w.heap.size + 1 + 1 := (by omega)
        have : w.heap.size + 1 + 1 ≠ g6 := (by omega)
        clear hg5 hg6
        go_upto_region 6 with fail
        go_region_held3 (fun w' => w'.cell? ⟨w.heap.size, 0, none⟩ = some (.bool na) ∧ w'.cell? ⟨w.heap.size, 1, none⟩ = some (.slice A n c) ∧ w'.cell? ⟨w.heap.size, 2, none⟩ = some (.bool nb) ∧ w'.cell? ⟨w.heap.size, 3, none⟩ = some (.slice B m d) ∧ w'.cell? ⟨w.heap.size + 1, 0, none⟩ = some (.bool ya) ∧ w'.cell? ⟨w.heap.size + 1, 1, none⟩ = some (.slice Y p e) ∧ w'.cell? ⟨w.heap.size + 1, 2, none⟩ = some (.bool yb) ∧ w'.cell? ⟨w.heap.size + 1, 3, none⟩ = some (.slice Z q f) ∧ w'.cell? ⟨g5, 0, none⟩ = some (.bool false) ∧ w'.cell? ⟨g5, 1, none⟩ = some (.slice Cg kg cg) ∧ w'.cell? ⟨g6, 0, none⟩ = some (.bool false) ∧ w'.cell? ⟨g6, 1, none⟩ = some (.slice Ch kh ch)) (first | exact SW6 | exact SW5 | exact SW4 | exact SW3 | exact SW2 | exact SW1 | exact SW0 | go_keep)
          ((first
            | (go_at_call_of 96 (Value.agg #[.bool na, .slice A n c]); refine (quo_any na false A Cg n c kg cg a lg _ (by omega) (by omega) (G0.out.1.1.num.keep (by repeat (first | with_reducible exact Keeps.refl _ | with_reducible refine keeps_al ?_ _ | with_reducible refine keeps_dr ?_))) (G0.out.2.1.keep (by repeat (first | with_reducible exact Keeps.refl _ | with_reducible refine keeps_al ?_ _ | with_reducible refine keeps_dr ?_)))).mono ?_; rintro ev w1 ⟨hb1, s1, C1, n1, x1, q1, rfl, hm1, hl1⟩; have Y1 : Hid (Below wx.heap.size wx w1) := Lib.hid ((Below.drew (Below.refl _ _)).trans hb1); have M1 := Lib.hid hm1; have U1 := KQ.out w1 Y1.out; have SW1 := U1.1; have G1 := Lib.hid U1.2; clear U1 hb1 hm1)
            | (go_at_call_of 96 (Value.agg #[.bool ya, .slice Y p e]); refine (quo_any ya false Y Ch p e kh ch a' lh _ (by omega) (by omega) G1.out.1.2.num G1.out.2.2).mono ?_; rintro ev w2 ⟨hb2, s2, C2, n2, x2, q2, rfl, hm2, hl2⟩; have hz2 := Y1.out.size; have Y2 : Hid (Below wx.heap.size wx w2) := Lib.hid (Y1.out.trans (hb2.mono hz2)); clear hz2; have M1 := Lib.hid (M1.out.keep (Keeps.of_below hb2 (Nat.le_refl _))); have M2 := Lib.hid hm2; have U2 := KQ.out w2 Y2.out; have SW2 := U2.1; have G2 := Lib.hid U2.2; clear U2 hb2 hm2)
            | (go_at_call_of 95 (Value.agg #[.bool s1, .slice C1 n1 x1]); refine (mul01_any s1 s2 C1 C2 n1 x1 n2 x2 q1 q2 _ (by omega) (by omega) M1.out M2.out).mono ?_; rintro ev w3 ⟨hb3, s3, C3, n3, x3, q3, rfl, hm3, hl3⟩; have hz3 := Y2.out.size; have Y3 : Hid (Below wx.heap.size wx w3) := Lib.hid (Y2.out.trans (hb3.mono hz3)); clear hz3; have M3 := Lib.hid hm3; have U3 := KQ.out w3 Y3.out; have SW3 := U3.1; have G3 := Lib.hid U3.2; clear U3 hb3 hm3)
            | (go_at_call_of 96 (Value.agg #[.bool nb, .slice B m d]); refine (quo_any nb false B Ch m d kh ch b lh _ (by omega) (by omega) G3.out.1.1.den G3.out.2.2).mono ?_; rintro ev w4 ⟨hb4, s4, C4, n4, x4, q4, rfl, hm4, hl4⟩; have hz4 := Y3.out.size; have Y4 : Hid (Below wx.heap.size wx w4) := Lib.hid (Y3.out.trans (hb4.mono hz4)); clear hz4; have M3 := Lib.hid (M3.out.keep (Keeps.of_below hb4 (Nat.le_refl _))); have M4 := Lib.hid hm4; have U4 := KQ.out w4 Y4.out; have SW4 := U4.1; have G4 := Lib.hid U4.2; clear U4 hb4 hm4)
            | (go_at_call_of 96 (Value.agg #[.bool yb, .slice Z q f]); refine (quo_any yb false Z Cg q f kg cg b' lg _ (by omega) (by omega) G4.out.1.2.den G4.out.2.1).mono ?_; rintro ev w5 ⟨hb5, s5, C5, n5, x5, q5, rfl, hm5, hl5⟩; have hz5 := Y4.out.size; have Y5 : Hid (Below wx.heap.size wx w5) := Lib.hid (Y4.out.trans (hb5.mono hz5)); clear hz5; have M3 := Lib.hid (M3.out.keep (Keeps.of_below hb5 (Nat.le_refl _))); have M4 := Lib.hid (M4.out.keep (Keeps.of_below hb5 (Nat.le_refl _))); have M5 := Lib.hid hm5; have U5 := KQ.out w5 Y5.out; have SW5 := U5.1; have G5 := Lib.hid U5.2; clear U5 hb5 hm5)
            | (go_at_call_of 95 (Value.agg #[.bool s4, .slice C4 n4 x4]); refine (mul01_any s4 s5 C4 C5 n4 x4 n5 x5 q4 q5 _ (by omega) (by omega) M4.out M5.out).mono ?_; rintro ev w6 ⟨hb6, s6, C6, n6, x6, q6, rfl, hm6, hl6⟩; have hz6 := Y5.out.size; have Y6 : Hid (Below wx.heap.size wx w6) := Lib.hid (Y5.out.trans (hb6.mono hz6)); clear hz6; have M3 := Lib.hid (M3.out.keep (Keeps.of_below hb6 (Nat.le_refl _))); have M6 := Lib.hid hm6; have U6 := KQ.out w6 Y6.out; have SW6 := U6.1; have G6 := Lib.hid U6.2; clear U6 hb6 hm6; obtain ⟨-, -, -, b2, bw, -, -⟩ := KP.out w6 (HX.out.trans (Y6.out.mono HX.out.size)); obtain ⟨e0, e1, e2, e3⟩ := b2.k4; have f0 := b2.frozen 0; have f1 := b2.frozen 1; have f2 := b2.frozen 2; have f3 := b2.frozen 3; clear b2 bw)
            | fail))
        all_goals
         obtain ⟨-, -, -, b2, bw, -, -⟩ := KP.out w6 (HX.out.trans (Y6.out.mono HX.out.size))
         obtain ⟨r, hr⟩ := mulRet w w6 (w.heap.size + 1 + 1) rfl (K := K + 10) (s := s3) (s' := s6) b2 bw ⟨M3.out, M6.out⟩ (by omega) (by omega) _ rfl
         have R := Lib.hid hr
         obtain ⟨r0, r1, r2, r3⟩ := r.k4
         clear r hr b2 bw
         go_wp2_with fail
         exact bodyPost_ret (v := ratV s3 C3 n3 x3 s6 C6 n6 x6) (by simp [ratV, results, Tryz.results93, go_sem, r0, r1, r2, r3]) rfl R.out
    · go_upto_region 4 with fail
      obtain ⟨-, b0, b1, b2, -, -, hz2⟩ := KP.out w2 X2.out
      obtain ⟨c0, c1, c2, c3⟩ := b0.k4
      obtain ⟨d0, d1, d2, d3⟩ := b1.k4
      clear b0 b1 b2
      go_region_held3 (fun w' => w'.cell? ⟨w.heap.size, 0, none⟩ = some (.bool na) ∧ w'.cell? ⟨w.heap.size, 1, none⟩ = some (.slice A n c) ∧ w'.cell? ⟨w.heap.size, 2, none⟩ = some (.bool nb) ∧ w'.cell? ⟨w.heap.size, 3, none⟩ = some (.slice B m d) ∧ w'.cell? ⟨w.heap.size + 1, 0, none⟩ = some (.bool ya) ∧ w'.cell? ⟨w.heap.size + 1, 1, none⟩ = some (.slice Y p e) ∧ w'.cell? ⟨w.heap.size + 1, 2, none⟩ = some (.bool yb) ∧ w'.cell? ⟨w.heap.size + 1, 3, none⟩ = some (.slice Z q f)) (first | exact ⟨c0, c1, c2, c3, d0, d1, d2, d3⟩ | go_keep)
        ((first
          | (go_at_call 95; refine (mul01_any na ya A Y n c p e a a' _ (by omega) (by omega) ((KP.out w2 X2.out).1.1.num.keep (by repeat (first | with_reducible exact Keeps.refl _ | with_reducible refine keeps_al ?_ _ | with_reducible refine keeps_dr ?_))) ((KP.out w2 X2.out).1.2.num.keep (by repeat (first | with_reducible exact Keeps.refl _ | with_reducible refine keeps_al ?_ _ | with_reducible refine keeps_dr ?_)))).mono ?_; rintro ev w8 ⟨hb8, s8, C8, n8, x8, q8, rfl, hm8, hl8⟩; have X8 : Hid (Below W.heap.size W w8) := Lib.hid (Below.trans (by repeat (first | with_reducible exact Below.refl _ _ | with_reducible exact X9.out | with_reducible exact X8.out | with_reducible exact X2.out | with_reducible refine Below.alloc ?_ (by first | omega | (simp; omega)) _ | with_reducible refine Below.drew ?_ | with_reducible refine Below.setCell ?_ (by first | omega | (simp; omega)) _)) (hb8.mono (by first | omega | (simp; omega)))); have M8 := Lib.hid hm8; clear hb8 hm8 c0 c1 c2 c3 d0 d1 d2 d3; obtain ⟨-, b0, b1, b2, bw, -, hz8⟩ := KP.out w8 X8.out; obtain ⟨c0, c1, c2, c3⟩ := b0.k4; obtain ⟨d0, d1, d2, d3⟩ := b1.k4; obtain ⟨e0, e1, e2, e3⟩ := b2.k4; have f0 := b2.frozen 0; have f1 := b2.frozen 1; have f2 := b2.frozen 2; have f3 := b2.frozen 3; clear b0 b1 b2 bw)
          | fail))
      all_goals
       obtain ⟨r, hr⟩ := mulRet w w8 (w.heap.size + 1 + 1) rfl (K := K + 10) (s := s8) (s' := nb) (KP.out w8 X8.out).2.2.2.1 (KP.out w8 X8.out).2.2.2.2.1 ⟨M8.out, (KP.out w8 X8.out).1.1.den⟩ (by omega) (by omega) _ rfl
       have R := Lib.hid hr
       obtain ⟨r0, r1, r2, r3⟩ := r.k4
       clear r hr
       go_wp2_with fail
       exact bodyPost_ret (v := ratV s8 C8 n8 x8 nb B m d) (by simp [ratV, results, Tryz.results93, go_sem, r0, r1, r2, r3]) rfl R.out
end Go.Proofs.YtpdbekgkopglgaaGreat
