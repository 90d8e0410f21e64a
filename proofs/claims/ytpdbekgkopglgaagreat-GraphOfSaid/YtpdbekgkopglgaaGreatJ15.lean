/-
  Contracts and lemmas for the statement, joined: Vi.
-/
import Derived.Test.YtpdbekgkopglgaaGreatJ13
import Derived.BigQuiet
namespace Go.Proofs.YtpdbekgkopglgaaGreat
set_option linter.unusedVariables false
set_option linter.unusedSimpArgs false
open Go.RowKit Go.Sort
attribute [local go_sem ↓] Go.wp_at_zero Go.wp_at_succ

set_option maxRecDepth 100000 in
set_option maxHeartbeats 16000000 in
theorem valid25_k5 (hM : MulOK) (cs : Array Value) (N M : Int) (w : World) (h : OkC w cs) (hkd : cs[0]? = some (.int .i64 5)) : Calls Tryz.prog 21 #[.agg cs, .int .i64 N, .int .i64 M] w (ConPost cs w) := by
  obtain ⟨kind, P, n, c, ps, C, m, d, qs, V, v, e, side, rfl, hp, hq, ⟨hn, hm, hv⟩, hl⟩ := h
  have HKD : Hid (kind = 5) := Lib.hid (by simpa [conC] using hkd)
  clear hkd
  have RET := fun (w' : World) (r : Bool) (h : Below w.heap.size w w') (hk : ∃ k : Nat, k < 17 ∧ kind = (k : Int) + 1 ∧ (n : Int) = ptsK k) => conPost_ret (kind := kind) (P := P) (n := n) (c := c) (C := C) (m := m) (d := d) (V := V) (v := v) (e := e) (side := side) (r := r) h hk
  have NO := fun (w' : World) (h : Below w.heap.size w w') => conPost_no (cs := conC kind P n c C m d V v e side) h
  have HR := Lib.hid RET
  have HN := Lib.hid NO
  clear RET NO
  obtain ⟨Q, hQ⟩ : ∃ Q, Q = ConPost (conC kind P n c C m d V v e side) w := ⟨_, rfl⟩
  rw [← hQ] at HR HN ⊢
  clear hQ
  unfold conC
  obtain ⟨W, hW⟩ : ∃ W, W = w.alloc (.cells #[.int .i64 kind, .slice P n c, .slice C m d, .slice V v e, .int .i64 side] 60) := ⟨_, rfl⟩
  have b0 : CellsAt W w.heap.size #[.int .i64 kind, .slice P n c, .slice C m d, .slice V v e, .int .i64 side] 60 := by rw [hW]; exact CellsAt.new _ _ _
  have BW : Hid (Below w.heap.size w W) := Lib.hid (by rw [hW]; exact (Below.refl _ _).alloc (Nat.le_refl _) _)
  have kW : Keeps w W := by rw [hW]; exact Keeps.alloc _ _
  have RP := Lib.hid (hp.keep kW)
  have RQ := Lib.hid (hq.keep kW)
  have HL := Lib.hid (hl.keep kW (fun cs h => OkE.keep kW h))
  have B0 := Lib.hid b0
  have e0 := b0.at (j := 0) rfl
  have hWz := b0.lt
  have HM := Lib.hid hM
  have cO := of_any kind W
  clear b0 hp hq hl kW hM
  go_enter Tryz.func21, Tryz.ntmps21
  go_upto_region 1 with fail
  rw [← hW]
  have HW := Lib.hid hW
  clear hW
  go_wp2_with fail
  refine Calls.mono cO ?_
  rintro _ w1 ⟨hb1, s, rp, rc, rv, ra, rq, rb, ok, rfl, hok⟩
  obtain ⟨W2, hW2⟩ : ∃ W2, W2 = w1.alloc (.cells #[.string s, .int .i64 rp, .int .i64 rc, .int .i64 rv, .int .i64 ra, .int .i64 rq, .bool rb] 90) := ⟨_, rfl⟩
  have hb2 : Below W.heap.size W W2 := by rw [hW2]; exact hb1.alloc hb1.size _
  have r0 : CellsAt W2 w1.heap.size #[.string s, .int .i64 rp, .int .i64 rc, .int .i64 rv, .int .i64 ra, .int .i64 rq, .bool rb] 90 := by rw [hW2]; exact CellsAt.new _ _ _
  have B2 := Lib.hid (B0.out.below hb2 hWz)
  have R2 := Lib.hid r0
  have BW2 := Lib.hid (BW.out.trans (hb2.mono (by omega)))
  have RP2 := Lib.hid (RP.out.keep (Keeps.of_below hb2 (Nat.le_refl _)))
  have RQ2 := Lib.hid (RQ.out.keep (Keeps.of_below hb2 (Nat.le_refl _)))
  have HL2 := Lib.hid (HL.out.keep (Keeps.of_below hb2 (Nat.le_refl _)) (fun cs h => OkE.keep (Keeps.of_below hb2 (Nat.le_refl _)) h))
  have HOK := Lib.hid hok
  have hz1 := hb1.size
  have hr0 := r0.lt
  clear cO hb1 hb2 r0 e0 B0 BW RP RQ HL hok
  go_upto_region 2 with fail
  rw [← hW2]
  have HW2 := Lib.hid hW2
  clear hW2 HW
  generalize w1.heap.size = rr at *
  have e0 := B2.out.at (j := 0) rfl
  have e1 := B2.out.at (j := 1) rfl
  have e2 := B2.out.at (j := 2) rfl
  have e3 := B2.out.at (j := 3) rfl
  have e4 := B2.out.at (j := 4) rfl
  have r1 := R2.out.at (j := 1) rfl
  have r2 := R2.out.at (j := 2) rfl
  have r3 := R2.out.at (j := 3) rfl
  have r6 := R2.out.at (j := 6) rfl
  cases ok
  · go_wp2_with fail
    exact HN.out _ BW2.out
  cases h1 : ((n : Int) != rp)
  · cases h2 : ((m : Int) != rc)
    · cases h3 : ((v : Int) != rv)
      · have KND : Hid (∃ k : Nat, k < 17 ∧ kind = (k : Int) + 1 ∧ (n : Int) = ptsK k) := Lib.hid (by
          obtain ⟨k, a1, a2, a3⟩ := HOK.out rfl
          have : (n : Int) = rp := by simpa using h1
          exact ⟨k, a1, a2, by omega⟩)
        have cA := within_any P n c ps N W2 (by omega) RP2.out
        go_wp2_with fail
        refine Calls.mono cA ?_
        rintro _ w3 ⟨x1, rfl, hb3⟩
        have B3 := Lib.hid (B2.out.below hb3 (by have := hb3.size; have := B2.out.lt; omega))
        have R3 := Lib.hid (R2.out.below hb3 hr0)
        have BW3 := Lib.hid (BW2.out.trans (hb3.mono BW2.out.size))
        have RP3 := Lib.hid (RP2.out.keep (Keeps.of_below hb3 (Nat.le_refl _)))
        have RQ3 := Lib.hid (RQ2.out.keep (Keeps.of_below hb3 (Nat.le_refl _)))
        have HL3 := Lib.hid (HL2.out.keep (Keeps.of_below hb3 (Nat.le_refl _)) (fun cs h => OkE.keep (Keeps.of_below hb3 (Nat.le_refl _)) h))
        clear cA hb3 e0 e1 e2 e3 e4 r1 r2 r3 r6
        have e2 := B3.out.at (j := 2) rfl
        cases x1
        · go_wp2_with fail
          exact HN.out _ BW3.out
        have cB := within_any C m d qs M w3 (by omega) RQ3.out
        go_wp2_with fail
        refine Calls.mono cB ?_
        rintro _ w4 ⟨x2, rfl, hb4⟩
        have B4 := Lib.hid (B3.out.below hb4 B3.out.lt)
        have R4 := Lib.hid (R3.out.below hb4 R3.out.lt)
        have BW4 := Lib.hid (BW3.out.trans (hb4.mono BW3.out.size))
        have RP4 := Lib.hid (RP3.out.keep (Keeps.of_below hb4 (Nat.le_refl _)))
        have RQ4 := Lib.hid (RQ3.out.keep (Keeps.of_below hb4 (Nat.le_refl _)))
        have HL4 := Lib.hid (HL3.out.keep (Keeps.of_below hb4 (Nat.le_refl _)) (fun cs h => OkE.keep (Keeps.of_below hb4 (Nat.le_refl _)) h))
        clear cB hb4 e2 B2 R2 BW2 RP2 RQ2 HL2 B3 R3 BW3 RP3 RQ3 HL3 HW2
        cases x2
        · go_wp2_with fail
          exact HN.out _ BW4.out
        go_wp2_with fail
        go_loopg [9] v (fun g iv wr => ∃ i : Nat, iv = .int .i64 (i : Int) ∧ i + g = v ∧ Below w4.heap.size w4 wr)
        case atStart => exact ⟨0, rfl, by omega, Below.refl _ _⟩
        case round =>
          obtain ⟨i, rfl, hig, hb⟩ := hrel
          rename World => wr
          have BR := Lib.hid hb
          have B5 := Lib.hid (B4.out.below hb B4.out.lt)
          have R5 := Lib.hid (R4.out.below hb R4.out.lt)
          have BW5 := Lib.hid (BW4.out.trans (hb.mono BW4.out.size))
          have KR := Lib.hid (Keeps.of_below hb (Nat.le_refl _))
          have e3 := B5.out.at (j := 3) rfl
          clear hb
          by_cases h5 : i < v
          · have h5i : (i : Int) < (v : Int) := by omega
            obtain ⟨ad, cs1, rfl, hsz, hel, hex⟩ := HL4.out i h5
            have hel' := hel.keep KR.out
            have hex' := OkE.keep KR.out hex
            have cI := valid22_of HM.out 62 cs1 wr (by omega) hex'
            obtain ⟨op1, sn1, A1, n1, c1, a1, sd1, B1', m1, d1, b1, name1, P1, k1, cap1, hc1, -, -, -, -⟩ := hex'
            have f0 := hel'.zero (x := .int .i64 op1) (by rw [hc1]; rfl)
            have f1 := hel'.at (j := 1) (by omega) (x := .bool sn1) (by rw [hc1]; rfl)
            have f2 := hel'.at (j := 2) (by omega) (x := .slice A1 n1 c1) (by rw [hc1]; rfl)
            have f3 := hel'.at (j := 3) (by omega) (x := .bool sd1) (by rw [hc1]; rfl)
            have f4 := hel'.at (j := 4) (by omega) (x := .slice B1' m1 d1) (by rw [hc1]; rfl)
            have f5 := hel'.at (j := 5) (by omega) (x := .string name1) (by rw [hc1]; rfl)
            have f6 := hel'.at (j := 6) (by omega) (x := .slice P1 k1 cap1) (by rw [hc1]; rfl)
            rw [hc1] at cI
            unfold exprC at cI
            clear hel hel' hex hc1
            go_wp2_with fail
            refine Calls.mono cI ?_
            rintro _ w6 ⟨hb6, er, rfl⟩
            have BR6 := Lib.hid (BR.out.trans (hb6.mono BR.out.size))
            have BW6 := Lib.hid (BW5.out.trans (hb6.mono BW5.out.size))
            clear cI hb6
            cases h7 : (er != 0)
            · go_wp2_with fail
              go_roundg (v - (i + 1))
              case measure => omega
              case rel => exact ⟨i + 1, by go_num, by omega, BR6.out⟩
            · go_wp2_with fail
              exact HN.out _ BW6.out
          · obtain rfl : i = v := by omega
            have RP5 := Lib.hid (RP4.out.keep KR.out)
            have RQ5 := Lib.hid (RQ4.out.keep KR.out)
            clear HL4 HM RP4 RQ4
            have e0 := B5.out.at (j := 0) rfl
            have e1 := B5.out.at (j := 1) rfl
            have e2 := B5.out.at (j := 2) rfl
            have e4 := B5.out.at (j := 4) rfl
            have r6 := R5.out.at (j := 6) rfl
            clear R4 B4 BW4 BR
            go_upto_region 9 with fail
            go_cut [93] (fun zv wx => ∃ z, zv = .bool z ∧ wx = wr)
            case first =>
              cases rb
              · cases h8 : (side != 0)
                · go_wp2_with fail
                  go_meet
                  exact ⟨_, rfl, rfl⟩
                · go_wp2_with fail
                  go_meet
                  exact ⟨_, rfl, rfl⟩
              · cases h8 : (side != 1)
                · go_wp2_with fail
                  go_meet
                  exact ⟨_, rfl, rfl⟩
                · cases h9 : (side != -1)
                  · go_wp2_with fail
                    go_meet
                    exact ⟨_, rfl, rfl⟩
                  · go_wp2_with fail
                    go_meet
                    exact ⟨_, rfl, rfl⟩
            case rest =>
              obtain ⟨z, rfl, hwx⟩ := hcut
              rename World => wy
              have hwy := hwx.symm
              clear hwx
              subst hwy
              clear r6 e4
              cases z
              · go_upto_region 12 with fail
                have hk := HKD.out
                have hn4 : n = 4 := by
                  obtain ⟨k, a1, a2, a3⟩ := KND.out
                  have : k = 4 := by omega
                  subst this; simp [ptsK] at a3; omega
                subst hn4
                obtain ⟨ad, x, y, z, u, rfl, a0, a1, a2, a3⟩ := four_off RP5.out
                subst hk
                all_goals
                  go_upto_region 17 with fail
                  go_cut [11] (fun zv wx => ∃ z, zv = .bool z ∧ ∃ nq, wx = wr.drewN nq)
                  case first =>
                    cases h02 : (x == z)
                    · cases h03 : (x == u)
                      · go_quiet (fail)
                        all_goals
                          go_wp2_with fail
                          go_meet
                          exact ⟨_, rfl, _, rfl⟩
                      · go_quiet (fail)
                        all_goals
                          go_wp2_with fail
                          go_meet
                          exact ⟨_, rfl, _, rfl⟩
                    · cases h13 : (y == u)
                      · cases h03 : (x == u)
                        · go_quiet (fail)
                          all_goals
                            go_wp2_with fail
                            go_meet
                            exact ⟨_, rfl, _, rfl⟩
                        · go_quiet (fail)
                          all_goals
                            go_wp2_with fail
                            go_meet
                            exact ⟨_, rfl, _, rfl⟩
                      · go_quiet (fail)
                        all_goals
                          go_wp2_with fail
                          go_meet
                          exact ⟨_, rfl, _, rfl⟩
                  case rest =>
                    obtain ⟨t, rfl, nq, hwx⟩ := hcut
                    rename World => wy
                    have RY : Hid (∀ q, Below w.heap.size w (wy.drewN q)) := Lib.hid (by rw [hwx]; intro q; exact below_dN (below_dN BW5.out nq) q)
                    have a0 : wy.cell? ad = some (.int .i64 x) := by rw [hwx]; simpa using a0
                    have a1 : wy.cell? ⟨ad.block, ad.off + 1, none⟩ = some (.int .i64 y) := by rw [hwx]; simpa using a1
                    have a2 : wy.cell? ⟨ad.block, ad.off + 2, none⟩ = some (.int .i64 z) := by rw [hwx]; simpa using a2
                    have a3 : wy.cell? ⟨ad.block, ad.off + 3, none⟩ = some (.int .i64 u) := by rw [hwx]; simpa using a3
                    clear hwx e0 e1 e2 e3
                    go_upto_region 18 with fail
                    cases h1 : (x != y)
                    · go_quiet (fail)
                      all_goals
                        go_wp2_with fail
                        exact HR.out _ _ (RY.out _) KND.out
                    · cases h2 : (z != u)
                      · go_quiet (fail)
                        all_goals
                          go_wp2_with fail
                          exact HR.out _ _ (RY.out _) KND.out
                      · go_quiet (fail)
                        all_goals
                          go_wp2_with fail
                          exact HR.out _ _ (RY.out _) KND.out
              · go_wp2_with fail
                exact HN.out _ BW5.out
      · go_wp2_with fail
        exact HN.out _ BW2.out
    · go_wp2_with fail
      exact HN.out _ BW2.out
  · go_wp2_with fail
    exact HN.out _ BW2.out
set_option maxRecDepth 100000 in
set_option maxHeartbeats 16000000 in
theorem valid25_k6 (hM : MulOK) (cs : Array Value) (N M : Int) (w : World) (h : OkC w cs) (hkd : cs[0]? = some (.int .i64 6)) : Calls Tryz.prog 21 #[.agg cs, .int .i64 N, .int .i64 M] w (ConPost cs w) := by
  obtain ⟨kind, P, n, c, ps, C, m, d, qs, V, v, e, side, rfl, hp, hq, ⟨hn, hm, hv⟩, hl⟩ := h
  have HKD : Hid (kind = 6) := Lib.hid (by simpa [conC] using hkd)
  clear hkd
  have RET := fun (w' : World) (r : Bool) (h : Below w.heap.size w w') (hk : ∃ k : Nat, k < 17 ∧ kind = (k : Int) + 1 ∧ (n : Int) = ptsK k) => conPost_ret (kind := kind) (P := P) (n := n) (c := c) (C := C) (m := m) (d := d) (V := V) (v := v) (e := e) (side := side) (r := r) h hk
  have NO := fun (w' : World) (h : Below w.heap.size w w') => conPost_no (cs := conC kind P n c C m d V v e side) h
  have HR := Lib.hid RET
  have HN := Lib.hid NO
  clear RET NO
  obtain ⟨Q, hQ⟩ : ∃ Q, Q = ConPost (conC kind P n c C m d V v e side) w := ⟨_, rfl⟩
  rw [← hQ] at HR HN ⊢
  clear hQ
  unfold conC
  obtain ⟨W, hW⟩ : ∃ W, W = w.alloc (.cells #[.int .i64 kind, .slice P n c, .slice C m d, .slice V v e, .int .i64 side] 60) := ⟨_, rfl⟩
  have b0 : CellsAt W w.heap.size #[.int .i64 kind, .slice P n c, .slice C m d, .slice V v e, .int .i64 side] 60 := by rw [hW]; exact CellsAt.new _ _ _
  have BW : Hid (Below w.heap.size w W) := Lib.hid (by rw [hW]; exact (Below.refl _ _).alloc (Nat.le_refl _) _)
  have kW : Keeps w W := by rw [hW]; exact Keeps.alloc _ _
  have RP := Lib.hid (hp.keep kW)
  have RQ := Lib.hid (hq.keep kW)
  have HL := Lib.hid (hl.keep kW (fun cs h => OkE.keep kW h))
  have B0 := Lib.hid b0
  have e0 := b0.at (j := 0) rfl
  have hWz := b0.lt
  have HM := Lib.hid hM
  have cO := of_any kind W
  clear b0 hp hq hl kW hM
  go_enter Tryz.func21, Tryz.ntmps21
  go_upto_region 1 with fail
  rw [← hW]
  have HW := Lib.hid hW
  clear hW
  go_wp2_with fail
  refine Calls.mono cO ?_
  rintro _ w1 ⟨hb1, s, rp, rc, rv, ra, rq, rb, ok, rfl, hok⟩
  obtain ⟨W2, hW2⟩ : ∃ W2, W2 = w1.alloc (.cells #[.string s, .int .i64 rp, .int .i64 rc, .int .i64 rv, .int .i64 ra, .int .i64 rq, .bool rb] 90) := ⟨_, rfl⟩
  have hb2 : Below W.heap.size W W2 := by rw [hW2]; exact hb1.alloc hb1.size _
  have r0 : CellsAt W2 w1.heap.size #[.string s, .int .i64 rp, .int .i64 rc, .int .i64 rv, .int .i64 ra, .int .i64 rq, .bool rb] 90 := by rw [hW2]; exact CellsAt.new _ _ _
  have B2 := Lib.hid (B0.out.below hb2 hWz)
  have R2 := Lib.hid r0
  have BW2 := Lib.hid (BW.out.trans (hb2.mono (by omega)))
  have RP2 := Lib.hid (RP.out.keep (Keeps.of_below hb2 (Nat.le_refl _)))
  have RQ2 := Lib.hid (RQ.out.keep (Keeps.of_below hb2 (Nat.le_refl _)))
  have HL2 := Lib.hid (HL.out.keep (Keeps.of_below hb2 (Nat.le_refl _)) (fun cs h => OkE.keep (Keeps.of_below hb2 (Nat.le_refl _)) h))
  have HOK := Lib.hid hok
  have hz1 := hb1.size
  have hr0 := r0.lt
  clear cO hb1 hb2 r0 e0 B0 BW RP RQ HL hok
  go_upto_region 2 with fail
  rw [← hW2]
  have HW2 := Lib.hid hW2
  clear hW2 HW
  generalize w1.heap.size = rr at *
  have e0 := B2.out.at (j := 0) rfl
  have e1 := B2.out.at (j := 1) rfl
  have e2 := B2.out.at (j := 2) rfl
  have e3 := B2.out.at (j := 3) rfl
  have e4 := B2.out.at (j := 4) rfl
  have r1 := R2.out.at (j := 1) rfl
  have r2 := R2.out.at (j := 2) rfl
  have r3 := R2.out.at (j := 3) rfl
  have r6 := R2.out.at (j := 6) rfl
  cases ok
  · go_wp2_with fail
    exact HN.out _ BW2.out
  cases h1 : ((n : Int) != rp)
  · cases h2 : ((m : Int) != rc)
    · cases h3 : ((v : Int) != rv)
      · have KND : Hid (∃ k : Nat, k < 17 ∧ kind = (k : Int) + 1 ∧ (n : Int) = ptsK k) := Lib.hid (by
          obtain ⟨k, a1, a2, a3⟩ := HOK.out rfl
          have : (n : Int) = rp := by simpa using h1
          exact ⟨k, a1, a2, by omega⟩)
        have cA := within_any P n c ps N W2 (by omega) RP2.out
        go_wp2_with fail
        refine Calls.mono cA ?_
        rintro _ w3 ⟨x1, rfl, hb3⟩
        have B3 := Lib.hid (B2.out.below hb3 (by have := hb3.size; have := B2.out.lt; omega))
        have R3 := Lib.hid (R2.out.below hb3 hr0)
        have BW3 := Lib.hid (BW2.out.trans (hb3.mono BW2.out.size))
        have RP3 := Lib.hid (RP2.out.keep (Keeps.of_below hb3 (Nat.le_refl _)))
        have RQ3 := Lib.hid (RQ2.out.keep (Keeps.of_below hb3 (Nat.le_refl _)))
        have HL3 := Lib.hid (HL2.out.keep (Keeps.of_below hb3 (Nat.le_refl _)) (fun cs h => OkE.keep (Keeps.of_below hb3 (Nat.le_refl _)) h))
        clear cA hb3 e0 e1 e2 e3 e4 r1 r2 r3 r6
        have e2 := B3.out.at (j := 2) rfl
        cases x1
        · go_wp2_with fail
          exact HN.out _ BW3.out
        have cB := within_any C m d qs M w3 (by omega) RQ3.out
        go_wp2_with fail
        refine Calls.mono cB ?_
        rintro _ w4 ⟨x2, rfl, hb4⟩
        have B4 := Lib.hid (B3.out.below hb4 B3.out.lt)
        have R4 := Lib.hid (R3.out.below hb4 R3.out.lt)
        have BW4 := Lib.hid (BW3.out.trans (hb4.mono BW3.out.size))
        have RP4 := Lib.hid (RP3.out.keep (Keeps.of_below hb4 (Nat.le_refl _)))
        have RQ4 := Lib.hid (RQ3.out.keep (Keeps.of_below hb4 (Nat.le_refl _)))
        have HL4 := Lib.hid (HL3.out.keep (Keeps.of_below hb4 (Nat.le_refl _)) (fun cs h => OkE.keep (Keeps.of_below hb4 (Nat.le_refl _)) h))
        clear cB hb4 e2 B2 R2 BW2 RP2 RQ2 HL2 B3 R3 BW3 RP3 RQ3 HL3 HW2
        cases x2
        · go_wp2_with fail
          exact HN.out _ BW4.out
        go_wp2_with fail
        go_loopg [9] v (fun g iv wr => ∃ i : Nat, iv = .int .i64 (i : Int) ∧ i + g = v ∧ Below w4.heap.size w4 wr)
        case atStart => exact ⟨0, rfl, by omega, Below.refl _ _⟩
        case round =>
          obtain ⟨i, rfl, hig, hb⟩ := hrel
          rename World => wr
          have BR := Lib.hid hb
          have B5 := Lib.hid (B4.out.below hb B4.out.lt)
          have R5 := Lib.hid (R4.out.below hb R4.out.lt)
          have BW5 := Lib.hid (BW4.out.trans (hb.mono BW4.out.size))
          have KR := Lib.hid (Keeps.of_below hb (Nat.le_refl _))
          have e3 := B5.out.at (j := 3) rfl
          clear hb
          by_cases h5 : i < v
          · have h5i : (i : Int) < (v : Int) := by omega
            obtain ⟨ad, cs1, rfl, hsz, hel, hex⟩ := HL4.out i h5
            have hel' := hel.keep KR.out
            have hex' := OkE.keep KR.out hex
            have cI := valid22_of HM.out 62 cs1 wr (by omega) hex'
            obtain ⟨op1, sn1, A1, n1, c1, a1, sd1, B1', m1, d1, b1, name1, P1, k1, cap1, hc1, -, -, -, -⟩ := hex'
            have f0 := hel'.zero (x := .int .i64 op1) (by rw [hc1]; rfl)
            have f1 := hel'.at (j := 1) (by omega) (x := .bool sn1) (by rw [hc1]; rfl)
            have f2 := hel'.at (j := 2) (by omega) (x := .slice A1 n1 c1) (by rw [hc1]; rfl)
            have f3 := hel'.at (j := 3) (by omega) (x := .bool sd1) (by rw [hc1]; rfl)
            have f4 := hel'.at (j := 4) (by omega) (x := .slice B1' m1 d1) (by rw [hc1]; rfl)
            have f5 := hel'.at (j := 5) (by omega) (x := .string name1) (by rw [hc1]; rfl)
            have f6 := hel'.at (j := 6) (by omega) (x := .slice P1 k1 cap1) (by rw [hc1]; rfl)
            rw [hc1] at cI
            unfold exprC at cI
            clear hel hel' hex hc1
            go_wp2_with fail
            refine Calls.mono cI ?_
            rintro _ w6 ⟨hb6, er, rfl⟩
            have BR6 := Lib.hid (BR.out.trans (hb6.mono BR.out.size))
            have BW6 := Lib.hid (BW5.out.trans (hb6.mono BW5.out.size))
            clear cI hb6
            cases h7 : (er != 0)
            · go_wp2_with fail
              go_roundg (v - (i + 1))
              case measure => omega
              case rel => exact ⟨i + 1, by go_num, by omega, BR6.out⟩
            · go_wp2_with fail
              exact HN.out _ BW6.out
          · obtain rfl : i = v := by omega
            have RP5 := Lib.hid (RP4.out.keep KR.out)
            have RQ5 := Lib.hid (RQ4.out.keep KR.out)
            clear HL4 HM RP4 RQ4
            have e0 := B5.out.at (j := 0) rfl
            have e1 := B5.out.at (j := 1) rfl
            have e2 := B5.out.at (j := 2) rfl
            have e4 := B5.out.at (j := 4) rfl
            have r6 := R5.out.at (j := 6) rfl
            clear R4 B4 BW4 BR
            go_upto_region 9 with fail
            go_cut [93] (fun zv wx => ∃ z, zv = .bool z ∧ wx = wr)
            case first =>
              cases rb
              · cases h8 : (side != 0)
                · go_wp2_with fail
                  go_meet
                  exact ⟨_, rfl, rfl⟩
                · go_wp2_with fail
                  go_meet
                  exact ⟨_, rfl, rfl⟩
              · cases h8 : (side != 1)
                · go_wp2_with fail
                  go_meet
                  exact ⟨_, rfl, rfl⟩
                · cases h9 : (side != -1)
                  · go_wp2_with fail
                    go_meet
                    exact ⟨_, rfl, rfl⟩
                  · go_wp2_with fail
                    go_meet
                    exact ⟨_, rfl, rfl⟩
            case rest =>
              obtain ⟨z, rfl, hwx⟩ := hcut
              rename World => wy
              have hwy := hwx.symm
              clear hwx
              subst hwy
              clear r6 e4
              cases z
              · go_upto_region 12 with fail
                have hk := HKD.out
                have hn4 : n = 4 := by
                  obtain ⟨k, a1, a2, a3⟩ := KND.out
                  have : k = 5 := by omega
                  subst this; simp [ptsK] at a3; omega
                subst hn4
                obtain ⟨ad, x, y, z, u, rfl, a0, a1, a2, a3⟩ := four_off RP5.out
                subst hk
                all_goals
                  go_upto_region 17 with fail
                  go_cut [11] (fun zv wx => ∃ z, zv = .bool z ∧ ∃ nq, wx = wr.drewN nq)
                  case first =>
                    cases h02 : (x == z)
                    · cases h03 : (x == u)
                      · go_quiet (fail)
                        all_goals
                          go_wp2_with fail
                          go_meet
                          exact ⟨_, rfl, _, rfl⟩
                      · go_quiet (fail)
                        all_goals
                          go_wp2_with fail
                          go_meet
                          exact ⟨_, rfl, _, rfl⟩
                    · cases h13 : (y == u)
                      · cases h03 : (x == u)
                        · go_quiet (fail)
                          all_goals
                            go_wp2_with fail
                            go_meet
                            exact ⟨_, rfl, _, rfl⟩
                        · go_quiet (fail)
                          all_goals
                            go_wp2_with fail
                            go_meet
                            exact ⟨_, rfl, _, rfl⟩
                      · go_quiet (fail)
                        all_goals
                          go_wp2_with fail
                          go_meet
                          exact ⟨_, rfl, _, rfl⟩
                  case rest =>
                    obtain ⟨t, rfl, nq, hwx⟩ := hcut
                    rename World => wy
                    have RY : Hid (∀ q, Below w.heap.size w (wy.drewN q)) := Lib.hid (by rw [hwx]; intro q; exact below_dN (below_dN BW5.out nq) q)
                    have a0 : wy.cell? ad = some (.int .i64 x) := by rw [hwx]; simpa using a0
                    have a1 : wy.cell? ⟨ad.block, ad.off + 1, none⟩ = some (.int .i64 y) := by rw [hwx]; simpa using a1
                    have a2 : wy.cell? ⟨ad.block, ad.off + 2, none⟩ = some (.int .i64 z) := by rw [hwx]; simpa using a2
                    have a3 : wy.cell? ⟨ad.block, ad.off + 3, none⟩ = some (.int .i64 u) := by rw [hwx]; simpa using a3
                    clear hwx e0 e1 e2 e3
                    go_upto_region 18 with fail
                    cases h1 : (x != y)
                    · go_quiet (fail)
                      all_goals
                        go_wp2_with fail
                        exact HR.out _ _ (RY.out _) KND.out
                    · cases h2 : (z != u)
                      · go_quiet (fail)
                        all_goals
                          go_wp2_with fail
                          exact HR.out _ _ (RY.out _) KND.out
                      · go_quiet (fail)
                        all_goals
                          go_wp2_with fail
                          exact HR.out _ _ (RY.out _) KND.out
              · go_wp2_with fail
                exact HN.out _ BW5.out
      · go_wp2_with fail
        exact HN.out _ BW2.out
    · go_wp2_with fail
      exact HN.out _ BW2.out
  · go_wp2_with fail
    exact HN.out _ BW2.out
set_option maxRecDepth 100000 in
set_option maxHeartbeats 16000000 in
theorem valid25_k7 (hM : MulOK) (cs : Array Value) (N M : Int) (w : World) (h : OkC w cs) (hkd : cs[0]? = some (.int .i64 7)) : Calls Tryz.prog 21 #[.agg cs, .int .i64 N, .int .i64 M] w (ConPost cs w) := by
  obtain ⟨kind, P, n, c, ps, C, m, d, qs, V, v, e, side, rfl, hp, hq, ⟨hn, hm, hv⟩, hl⟩ := h
  have HKD : Hid (kind = 7) := Lib.hid (by simpa [conC] using hkd)
  clear hkd
  have RET := fun (w' : World) (r : Bool) (h : Below w.heap.size w w') (hk : ∃ k : Nat, k < 17 ∧ kind = (k : Int) + 1 ∧ (n : Int) = ptsK k) => conPost_ret (kind := kind) (P := P) (n := n) (c := c) (C := C) (m := m) (d := d) (V := V) (v := v) (e := e) (side := side) (r := r) h hk
  have NO := fun (w' : World) (h : Below w.heap.size w w') => conPost_no (cs := conC kind P n c C m d V v e side) h
  have HR := Lib.hid RET
  have HN := Lib.hid NO
  clear RET NO
  obtain ⟨Q, hQ⟩ : ∃ Q, Q = ConPost (conC kind P n c C m d V v e side) w := ⟨_, rfl⟩
  rw [← hQ] at HR HN ⊢
  clear hQ
  unfold conC
  obtain ⟨W, hW⟩ : ∃ W, W = w.alloc (.cells #[.int .i64 kind, .slice P n c, .slice C m d, .slice V v e, .int .i64 side] 60) := ⟨_, rfl⟩
  have b0 : CellsAt W w.heap.size #[.int .i64 kind, .slice P n c, .slice C m d, .slice V v e, .int .i64 side] 60 := by rw [hW]; exact CellsAt.new _ _ _
  have BW : Hid (Below w.heap.size w W) := Lib.hid (by rw [hW]; exact (Below.refl _ _).alloc (Nat.le_refl _) _)
  have kW : Keeps w W := by rw [hW]; exact Keeps.alloc _ _
  have RP := Lib.hid (hp.keep kW)
  have RQ := Lib.hid (hq.keep kW)
  have HL := Lib.hid (hl.keep kW (fun cs h => OkE.keep kW h))
  have B0 := Lib.hid b0
  have e0 := b0.at (j := 0) rfl
  have hWz := b0.lt
  have HM := Lib.hid hM
  have cO := of_any kind W
  clear b0 hp hq hl kW hM
  go_enter Tryz.func21, Tryz.ntmps21
  go_upto_region 1 with fail
  rw [← hW]
  have HW := Lib.hid hW
  clear hW
  go_wp2_with fail
  refine Calls.mono cO ?_
  rintro _ w1 ⟨hb1, s, rp, rc, rv, ra, rq, rb, ok, rfl, hok⟩
  obtain ⟨W2, hW2⟩ : ∃ W2, W2 = w1.alloc (.cells #[.string s, .int .i64 rp, .int .i64 rc, .int .i64 rv, .int .i64 ra, .int .i64 rq, .bool rb] 90) := ⟨_, rfl⟩
  have hb2 : Below W.heap.size W W2 := by rw [hW2]; exact hb1.alloc hb1.size _
  have r0 : CellsAt W2 w1.heap.size #[.string s, .int .i64 rp, .int .i64 rc, .int .i64 rv, .int .i64 ra, .int .i64 rq, .bool rb] 90 := by rw [hW2]; exact CellsAt.new _ _ _
  have B2 := Lib.hid (B0.out.below hb2 hWz)
  have R2 := Lib.hid r0
  have BW2 := Lib.hid (BW.out.trans (hb2.mono (by omega)))
  have RP2 := Lib.hid (RP.out.keep (Keeps.of_below hb2 (Nat.le_refl _)))
  have RQ2 := Lib.hid (RQ.out.keep (Keeps.of_below hb2 (Nat.le_refl _)))
  have HL2 := Lib.hid (HL.out.keep (Keeps.of_below hb2 (Nat.le_refl _)) (fun cs h => OkE.keep (Keeps.of_below hb2 (Nat.le_refl _)) h))
  have HOK := Lib.hid hok
  have hz1 := hb1.size
  have hr0 := r0.lt
  clear cO hb1 hb2 r0 e0 B0 BW RP RQ HL hok
  go_upto_region 2 with fail
  rw [← hW2]
  have HW2 := Lib.hid hW2
  clear hW2 HW
  generalize w1.heap.size = rr at *
  have e0 := B2.out.at (j := 0) rfl
  have e1 := B2.out.at (j := 1) rfl
  have e2 := B2.out.at (j := 2) rfl
  have e3 := B2.out.at (j := 3) rfl
  have e4 := B2.out.at (j := 4) rfl
  have r1 := R2.out.at (j := 1) rfl
  have r2 := R2.out.at (j := 2) rfl
  have r3 := R2.out.at (j := 3) rfl
  have r6 := R2.out.at (j := 6) rfl
  cases ok
  · go_wp2_with fail
    exact HN.out _ BW2.out
  cases h1 : ((n : Int) != rp)
  · cases h2 : ((m : Int) != rc)
    · cases h3 : ((v : Int) != rv)
      · have KND : Hid (∃ k : Nat, k < 17 ∧ kind = (k : Int) + 1 ∧ (n : Int) = ptsK k) := Lib.hid (by
          obtain ⟨k, a1, a2, a3⟩ := HOK.out rfl
          have : (n : Int) = rp := by simpa using h1
          exact ⟨k, a1, a2, by omega⟩)
        have cA := within_any P n c ps N W2 (by omega) RP2.out
        go_wp2_with fail
        refine Calls.mono cA ?_
        rintro _ w3 ⟨x1, rfl, hb3⟩
        have B3 := Lib.hid (B2.out.below hb3 (by have := hb3.size; have := B2.out.lt; omega))
        have R3 := Lib.hid (R2.out.below hb3 hr0)
        have BW3 := Lib.hid (BW2.out.trans (hb3.mono BW2.out.size))
        have RP3 := Lib.hid (RP2.out.keep (Keeps.of_below hb3 (Nat.le_refl _)))
        have RQ3 := Lib.hid (RQ2.out.keep (Keeps.of_below hb3 (Nat.le_refl _)))
        have HL3 := Lib.hid (HL2.out.keep (Keeps.of_below hb3 (Nat.le_refl _)) (fun cs h => OkE.keep (Keeps.of_below hb3 (Nat.le_refl _)) h))
        clear cA hb3 e0 e1 e2 e3 e4 r1 r2 r3 r6
        have e2 := B3.out.at (j := 2) rfl
        cases x1
        · go_wp2_with fail
          exact HN.out _ BW3.out
        have cB := within_any C m d qs M w3 (by omega) RQ3.out
        go_wp2_with fail
        refine Calls.mono cB ?_
        rintro _ w4 ⟨x2, rfl, hb4⟩
        have B4 := Lib.hid (B3.out.below hb4 B3.out.lt)
        have R4 := Lib.hid (R3.out.below hb4 R3.out.lt)
        have BW4 := Lib.hid (BW3.out.trans (hb4.mono BW3.out.size))
        have RP4 := Lib.hid (RP3.out.keep (Keeps.of_below hb4 (Nat.le_refl _)))
        have RQ4 := Lib.hid (RQ3.out.keep (Keeps.of_below hb4 (Nat.le_refl _)))
        have HL4 := Lib.hid (HL3.out.keep (Keeps.of_below hb4 (Nat.le_refl _)) (fun cs h => OkE.keep (Keeps.of_below hb4 (Nat.le_refl _)) h))
        clear cB hb4 e2 B2 R2 BW2 RP2 RQ2 HL2 B3 R3 BW3 RP3 RQ3 HL3 HW2
        cases x2
        · go_wp2_with fail
          exact HN.out _ BW4.out
        go_wp2_with fail
        go_loopg [9] v (fun g iv wr => ∃ i : Nat, iv = .int .i64 (i : Int) ∧ i + g = v ∧ Below w4.heap.size w4 wr)
        case atStart => exact ⟨0, rfl, by omega, Below.refl _ _⟩
        case round =>
          obtain ⟨i, rfl, hig, hb⟩ := hrel
          rename World => wr
          have BR := Lib.hid hb
          have B5 := Lib.hid (B4.out.below hb B4.out.lt)
          have R5 := Lib.hid (R4.out.below hb R4.out.lt)
          have BW5 := Lib.hid (BW4.out.trans (hb.mono BW4.out.size))
          have KR := Lib.hid (Keeps.of_below hb (Nat.le_refl _))
          have e3 := B5.out.at (j := 3) rfl
          clear hb
          by_cases h5 : i < v
          · have h5i : (i : Int) < (v : Int) := by omega
            obtain ⟨ad, cs1, rfl, hsz, hel, hex⟩ := HL4.out i h5
            have hel' := hel.keep KR.out
            have hex' := OkE.keep KR.out hex
            have cI := valid22_of HM.out 62 cs1 wr (by omega) hex'
            obtain ⟨op1, sn1, A1, n1, c1, a1, sd1, B1', m1, d1, b1, name1, P1, k1, cap1, hc1, -, -, -, -⟩ := hex'
            have f0 := hel'.zero (x := .int .i64 op1) (by rw [hc1]; rfl)
            have f1 := hel'.at (j := 1) (by omega) (x := .bool sn1) (by rw [hc1]; rfl)
            have f2 := hel'.at (j := 2) (by omega) (x := .slice A1 n1 c1) (by rw [hc1]; rfl)
            have f3 := hel'.at (j := 3) (by omega) (x := .bool sd1) (by rw [hc1]; rfl)
            have f4 := hel'.at (j := 4) (by omega) (x := .slice B1' m1 d1) (by rw [hc1]; rfl)
            have f5 := hel'.at (j := 5) (by omega) (x := .string name1) (by rw [hc1]; rfl)
            have f6 := hel'.at (j := 6) (by omega) (x := .slice P1 k1 cap1) (by rw [hc1]; rfl)
            rw [hc1] at cI
            unfold exprC at cI
            clear hel hel' hex hc1
            go_wp2_with fail
            refine Calls.mono cI ?_
            rintro _ w6 ⟨hb6, er, rfl⟩
            have BR6 := Lib.hid (BR.out.trans (hb6.mono BR.out.size))
            have BW6 := Lib.hid (BW5.out.trans (hb6.mono BW5.out.size))
            clear cI hb6
            cases h7 : (er != 0)
            · go_wp2_with fail
              go_roundg (v - (i + 1))
              case measure => omega
              case rel => exact ⟨i + 1, by go_num, by omega, BR6.out⟩
            · go_wp2_with fail
              exact HN.out _ BW6.out
          · obtain rfl : i = v := by omega
            have RP5 := Lib.hid (RP4.out.keep KR.out)
            have RQ5 := Lib.hid (RQ4.out.keep KR.out)
            clear HL4 HM RP4 RQ4
            have e0 := B5.out.at (j := 0) rfl
            have e1 := B5.out.at (j := 1) rfl
            have e2 := B5.out.at (j := 2) rfl
            have e4 := B5.out.at (j := 4) rfl
            have r6 := R5.out.at (j := 6) rfl
            clear R4 B4 BW4 BR
            go_upto_region 9 with fail
            go_cut [93] (fun zv wx => ∃ z, zv = .bool z ∧ wx = wr)
            case first =>
              cases rb
              · cases h8 : (side != 0)
                · go_wp2_with fail
                  go_meet
                  exact ⟨_, rfl, rfl⟩
                · go_wp2_with fail
                  go_meet
                  exact ⟨_, rfl, rfl⟩
              · cases h8 : (side != 1)
                · go_wp2_with fail
                  go_meet
                  exact ⟨_, rfl, rfl⟩
                · cases h9 : (side != -1)
                  · go_wp2_with fail
                    go_meet
                    exact ⟨_, rfl, rfl⟩
                  · go_wp2_with fail
                    go_meet
                    exact ⟨_, rfl, rfl⟩
            case rest =>
              obtain ⟨z, rfl, hwx⟩ := hcut
              rename World => wy
              have hwy := hwx.symm
              clear hwx
              subst hwy
              clear r6 e4
              cases z
              · go_upto_region 12 with fail
                have hk := HKD.out
                have hn4 : n = 4 := by
                  obtain ⟨k, a1, a2, a3⟩ := KND.out
                  have : k = 6 := by omega
                  subst this; simp [ptsK] at a3; omega
                subst hn4
                obtain ⟨ad, x, y, z, u, rfl, a0, a1, a2, a3⟩ := four_off RP5.out
                subst hk
                all_goals
                  go_upto_region 17 with fail
                  go_cut [11] (fun zv wx => ∃ z, zv = .bool z ∧ ∃ nq, wx = wr.drewN nq)
                  case first =>
                    cases h02 : (x == z)
                    · cases h03 : (x == u)
                      · go_quiet (fail)
                        all_goals
                          go_wp2_with fail
                          go_meet
                          exact ⟨_, rfl, _, rfl⟩
                      · go_quiet (fail)
                        all_goals
                          go_wp2_with fail
                          go_meet
                          exact ⟨_, rfl, _, rfl⟩
                    · cases h13 : (y == u)
                      · cases h03 : (x == u)
                        · go_quiet (fail)
                          all_goals
                            go_wp2_with fail
                            go_meet
                            exact ⟨_, rfl, _, rfl⟩
                        · go_quiet (fail)
                          all_goals
                            go_wp2_with fail
                            go_meet
                            exact ⟨_, rfl, _, rfl⟩
                      · go_quiet (fail)
                        all_goals
                          go_wp2_with fail
                          go_meet
                          exact ⟨_, rfl, _, rfl⟩
                  case rest =>
                    obtain ⟨t, rfl, nq, hwx⟩ := hcut
                    rename World => wy
                    have RY : Hid (∀ q, Below w.heap.size w (wy.drewN q)) := Lib.hid (by rw [hwx]; intro q; exact below_dN (below_dN BW5.out nq) q)
                    have a0 : wy.cell? ad = some (.int .i64 x) := by rw [hwx]; simpa using a0
                    have a1 : wy.cell? ⟨ad.block, ad.off + 1, none⟩ = some (.int .i64 y) := by rw [hwx]; simpa using a1
                    have a2 : wy.cell? ⟨ad.block, ad.off + 2, none⟩ = some (.int .i64 z) := by rw [hwx]; simpa using a2
                    have a3 : wy.cell? ⟨ad.block, ad.off + 3, none⟩ = some (.int .i64 u) := by rw [hwx]; simpa using a3
                    clear hwx e0 e1 e2 e3
                    go_upto_region 18 with fail
                    cases h1 : (x != y)
                    · go_quiet (fail)
                      all_goals
                        go_wp2_with fail
                        exact HR.out _ _ (RY.out _) KND.out
                    · cases h2 : (z != u)
                      · go_quiet (fail)
                        all_goals
                          go_wp2_with fail
                          exact HR.out _ _ (RY.out _) KND.out
                      · go_quiet (fail)
                        all_goals
                          go_wp2_with fail
                          exact HR.out _ _ (RY.out _) KND.out
              · go_wp2_with fail
                exact HN.out _ BW5.out
      · go_wp2_with fail
        exact HN.out _ BW2.out
    · go_wp2_with fail
      exact HN.out _ BW2.out
  · go_wp2_with fail
    exact HN.out _ BW2.out
set_option maxRecDepth 100000 in
set_option maxHeartbeats 16000000 in
theorem valid25_k8 (hM : MulOK) (cs : Array Value) (N M : Int) (w : World) (h : OkC w cs) (hkd : cs[0]? = some (.int .i64 8)) : Calls Tryz.prog 21 #[.agg cs, .int .i64 N, .int .i64 M] w (ConPost cs w) := by
  obtain ⟨kind, P, n, c, ps, C, m, d, qs, V, v, e, side, rfl, hp, hq, ⟨hn, hm, hv⟩, hl⟩ := h
  have HKD : Hid (kind = 8) := Lib.hid (by simpa [conC] using hkd)
  clear hkd
  have RET := fun (w' : World) (r : Bool) (h : Below w.heap.size w w') (hk : ∃ k : Nat, k < 17 ∧ kind = (k : Int) + 1 ∧ (n : Int) = ptsK k) => conPost_ret (kind := kind) (P := P) (n := n) (c := c) (C := C) (m := m) (d := d) (V := V) (v := v) (e := e) (side := side) (r := r) h hk
  have NO := fun (w' : World) (h : Below w.heap.size w w') => conPost_no (cs := conC kind P n c C m d V v e side) h
  have HR := Lib.hid RET
  have HN := Lib.hid NO
  clear RET NO
  obtain ⟨Q, hQ⟩ : ∃ Q, Q = ConPost (conC kind P n c C m d V v e side) w := ⟨_, rfl⟩
  rw [← hQ] at HR HN ⊢
  clear hQ
  unfold conC
  obtain ⟨W, hW⟩ : ∃ W, W = w.alloc (.cells #[.int .i64 kind, .slice P n c, .slice C m d, .slice V v e, .int .i64 side] 60) := ⟨_, rfl⟩
  have b0 : CellsAt W w.heap.size #[.int .i64 kind, .slice P n c, .slice C m d, .slice V v e, .int .i64 side] 60 := by rw [hW]; exact CellsAt.new _ _ _
  have BW : Hid (Below w.heap.size w W) := Lib.hid (by rw [hW]; exact (Below.refl _ _).alloc (Nat.le_refl _) _)
  have kW : Keeps w W := by rw [hW]; exact Keeps.alloc _ _
  have RP := Lib.hid (hp.keep kW)
  have RQ := Lib.hid (hq.keep kW)
  have HL := Lib.hid (hl.keep kW (fun cs h => OkE.keep kW h))
  have B0 := Lib.hid b0
  have e0 := b0.at (j := 0) rfl
  have hWz := b0.lt
  have HM := Lib.hid hM
  have cO := of_any kind W
  clear b0 hp hq hl kW hM
  go_enter Tryz.func21, Tryz.ntmps21
  go_upto_region 1 with fail
  rw [← hW]
  have HW := Lib.hid hW
  clear hW
  go_wp2_with fail
  refine Calls.mono cO ?_
  rintro _ w1 ⟨hb1, s, rp, rc, rv, ra, rq, rb, ok, rfl, hok⟩
  obtain ⟨W2, hW2⟩ : ∃ W2, W2 = w1.alloc (.cells #[.string s, .int .i64 rp, .int .i64 rc, .int .i64 rv, .int .i64 ra, .int .i64 rq, .bool rb] 90) := ⟨_, rfl⟩
  have hb2 : Below W.heap.size W W2 := by rw [hW2]; exact hb1.alloc hb1.size _
  have r0 : CellsAt W2 w1.heap.size #[.string s, .int .i64 rp, .int .i64 rc, .int .i64 rv, .int .i64 ra, .int .i64 rq, .bool rb] 90 := by rw [hW2]; exact CellsAt.new _ _ _
  have B2 := Lib.hid (B0.out.below hb2 hWz)
  have R2 := Lib.hid r0
  have BW2 := Lib.hid (BW.out.trans (hb2.mono (by omega)))
  have RP2 := Lib.hid (RP.out.keep (Keeps.of_below hb2 (Nat.le_refl _)))
  have RQ2 := Lib.hid (RQ.out.keep (Keeps.of_below hb2 (Nat.le_refl _)))
  have HL2 := Lib.hid (HL.out.keep (Keeps.of_below hb2 (Nat.le_refl _)) (fun cs h => OkE.keep (Keeps.of_below hb2 (Nat.le_refl _)) h))
  have HOK := Lib.hid hok
  have hz1 := hb1.size
  have hr0 := r0.lt
  clear cO hb1 hb2 r0 e0 B0 BW RP RQ HL hok
  go_upto_region 2 with fail
  rw [← hW2]
  have HW2 := Lib.hid hW2
  clear hW2 HW
  generalize w1.heap.size = rr at *
  have e0 := B2.out.at (j := 0) rfl
  have e1 := B2.out.at (j := 1) rfl
  have e2 := B2.out.at (j := 2) rfl
  have e3 := B2.out.at (j := 3) rfl
  have e4 := B2.out.at (j := 4) rfl
  have r1 := R2.out.at (j := 1) rfl
  have r2 := R2.out.at (j := 2) rfl
  have r3 := R2.out.at (j := 3) rfl
  have r6 := R2.out.at (j := 6) rfl
  cases ok
  · go_wp2_with fail
    exact HN.out _ BW2.out
  cases h1 : ((n : Int) != rp)
  · cases h2 : ((m : Int) != rc)
    · cases h3 : ((v : Int) != rv)
      · have KND : Hid (∃ k : Nat, k < 17 ∧ kind = (k : Int) + 1 ∧ (n : Int) = ptsK k) := Lib.hid (by
          obtain ⟨k, a1, a2, a3⟩ := HOK.out rfl
          have : (n : Int) = rp := by simpa using h1
          exact ⟨k, a1, a2, by omega⟩)
        have cA := within_any P n c ps N W2 (by omega) RP2.out
        go_wp2_with fail
        refine Calls.mono cA ?_
        rintro _ w3 ⟨x1, rfl, hb3⟩
        have B3 := Lib.hid (B2.out.below hb3 (by have := hb3.size; have := B2.out.lt; omega))
        have R3 := Lib.hid (R2.out.below hb3 hr0)
        have BW3 := Lib.hid (BW2.out.trans (hb3.mono BW2.out.size))
        have RP3 := Lib.hid (RP2.out.keep (Keeps.of_below hb3 (Nat.le_refl _)))
        have RQ3 := Lib.hid (RQ2.out.keep (Keeps.of_below hb3 (Nat.le_refl _)))
        have HL3 := Lib.hid (HL2.out.keep (Keeps.of_below hb3 (Nat.le_refl _)) (fun cs h => OkE.keep (Keeps.of_below hb3 (Nat.le_refl _)) h))
        clear cA hb3 e0 e1 e2 e3 e4 r1 r2 r3 r6
        have e2 := B3.out.at (j := 2) rfl
        cases x1
        · go_wp2_with fail
          exact HN.out _ BW3.out
        have cB := within_any C m d qs M w3 (by omega) RQ3.out
        go_wp2_with fail
        refine Calls.mono cB ?_
        rintro _ w4 ⟨x2, rfl, hb4⟩
        have B4 := Lib.hid (B3.out.below hb4 B3.out.lt)
        have R4 := Lib.hid (R3.out.below hb4 R3.out.lt)
        have BW4 := Lib.hid (BW3.out.trans (hb4.mono BW3.out.size))
        have RP4 := Lib.hid (RP3.out.keep (Keeps.of_below hb4 (Nat.le_refl _)))
        have RQ4 := Lib.hid (RQ3.out.keep (Keeps.of_below hb4 (Nat.le_refl _)))
        have HL4 := Lib.hid (HL3.out.keep (Keeps.of_below hb4 (Nat.le_refl _)) (fun cs h => OkE.keep (Keeps.of_below hb4 (Nat.le_refl _)) h))
        clear cB hb4 e2 B2 R2 BW2 RP2 RQ2 HL2 B3 R3 BW3 RP3 RQ3 HL3 HW2
        cases x2
        · go_wp2_with fail
          exact HN.out _ BW4.out
        go_wp2_with fail
        go_loopg [9] v (fun g iv wr => ∃ i : Nat, iv = .int .i64 (i : Int) ∧ i + g = v ∧ Below w4.heap.size w4 wr)
        case atStart => exact ⟨0, rfl, by omega, Below.refl _ _⟩
        case round =>
          obtain ⟨i, rfl, hig, hb⟩ := hrel
          rename World => wr
          have BR := Lib.hid hb
          have B5 := Lib.hid (B4.out.below hb B4.out.lt)
          have R5 := Lib.hid (R4.out.below hb R4.out.lt)
          have BW5 := Lib.hid (BW4.out.trans (hb.mono BW4.out.size))
          have KR := Lib.hid (Keeps.of_below hb (Nat.le_refl _))
          have e3 := B5.out.at (j := 3) rfl
          clear hb
          by_cases h5 : i < v
          · have h5i : (i : Int) < (v : Int) := by omega
            obtain ⟨ad, cs1, rfl, hsz, hel, hex⟩ := HL4.out i h5
            have hel' := hel.keep KR.out
            have hex' := OkE.keep KR.out hex
            have cI := valid22_of HM.out 62 cs1 wr (by omega) hex'
            obtain ⟨op1, sn1, A1, n1, c1, a1, sd1, B1', m1, d1, b1, name1, P1, k1, cap1, hc1, -, -, -, -⟩ := hex'
            have f0 := hel'.zero (x := .int .i64 op1) (by rw [hc1]; rfl)
            have f1 := hel'.at (j := 1) (by omega) (x := .bool sn1) (by rw [hc1]; rfl)
            have f2 := hel'.at (j := 2) (by omega) (x := .slice A1 n1 c1) (by rw [hc1]; rfl)
            have f3 := hel'.at (j := 3) (by omega) (x := .bool sd1) (by rw [hc1]; rfl)
            have f4 := hel'.at (j := 4) (by omega) (x := .slice B1' m1 d1) (by rw [hc1]; rfl)
            have f5 := hel'.at (j := 5) (by omega) (x := .string name1) (by rw [hc1]; rfl)
            have f6 := hel'.at (j := 6) (by omega) (x := .slice P1 k1 cap1) (by rw [hc1]; rfl)
            rw [hc1] at cI
            unfold exprC at cI
            clear hel hel' hex hc1
            go_wp2_with fail
            refine Calls.mono cI ?_
            rintro _ w6 ⟨hb6, er, rfl⟩
            have BR6 := Lib.hid (BR.out.trans (hb6.mono BR.out.size))
            have BW6 := Lib.hid (BW5.out.trans (hb6.mono BW5.out.size))
            clear cI hb6
            cases h7 : (er != 0)
            · go_wp2_with fail
              go_roundg (v - (i + 1))
              case measure => omega
              case rel => exact ⟨i + 1, by go_num, by omega, BR6.out⟩
            · go_wp2_with fail
              exact HN.out _ BW6.out
          · obtain rfl : i = v := by omega
            have RP5 := Lib.hid (RP4.out.keep KR.out)
            have RQ5 := Lib.hid (RQ4.out.keep KR.out)
            clear HL4 HM RP4 RQ4
            have e0 := B5.out.at (j := 0) rfl
            have e1 := B5.out.at (j := 1) rfl
            have e2 := B5.out.at (j := 2) rfl
            have e4 := B5.out.at (j := 4) rfl
            have r6 := R5.out.at (j := 6) rfl
            clear R4 B4 BW4 BR
            go_upto_region 9 with fail
            go_cut [93] (fun zv wx => ∃ z, zv = .bool z ∧ wx = wr)
            case first =>
              cases rb
              · cases h8 : (side != 0)
                · go_wp2_with fail
                  go_meet
                  exact ⟨_, rfl, rfl⟩
                · go_wp2_with fail
                  go_meet
                  exact ⟨_, rfl, rfl⟩
              · cases h8 : (side != 1)
                · go_wp2_with fail
                  go_meet
                  exact ⟨_, rfl, rfl⟩
                · cases h9 : (side != -1)
                  · go_wp2_with fail
                    go_meet
                    exact ⟨_, rfl, rfl⟩
                  · go_wp2_with fail
                    go_meet
                    exact ⟨_, rfl, rfl⟩
            case rest =>
              obtain ⟨z, rfl, hwx⟩ := hcut
              rename World => wy
              have hwy := hwx.symm
              clear hwx
              subst hwy
              clear r6 e4
              cases z
              · go_upto_region 12 with fail
                have hk := HKD.out
                have hn4 : n = 4 := by
                  obtain ⟨k, a1, a2, a3⟩ := KND.out
                  have : k = 7 := by omega
                  subst this; simp [ptsK] at a3; omega
                subst hn4
                obtain ⟨ad, x, y, z, u, rfl, a0, a1, a2, a3⟩ := four_off RP5.out
                subst hk
                all_goals
                  go_upto_region 17 with fail
                  go_cut [11] (fun zv wx => ∃ z, zv = .bool z ∧ ∃ nq, wx = wr.drewN nq)
                  case first =>
                    cases h02 : (x == z)
                    · cases h03 : (x == u)
                      · go_quiet (fail)
                        all_goals
                          go_wp2_with fail
                          go_meet
                          exact ⟨_, rfl, _, rfl⟩
                      · go_quiet (fail)
                        all_goals
                          go_wp2_with fail
                          go_meet
                          exact ⟨_, rfl, _, rfl⟩
                    · cases h13 : (y == u)
                      · cases h03 : (x == u)
                        · go_quiet (fail)
                          all_goals
                            go_wp2_with fail
                            go_meet
                            exact ⟨_, rfl, _, rfl⟩
                        · go_quiet (fail)
                          all_goals
                            go_wp2_with fail
                            go_meet
                            exact ⟨_, rfl, _, rfl⟩
                      · go_quiet (fail)
                        all_goals
                          go_wp2_with fail
                          go_meet
                          exact ⟨_, rfl, _, rfl⟩
                  case rest =>
                    obtain ⟨t, rfl, nq, hwx⟩ := hcut
                    rename World => wy
                    have RY : Hid (∀ q, Below w.heap.size w (wy.drewN q)) := Lib.hid (by rw [hwx]; intro q; exact below_dN (below_dN BW5.out nq) q)
                    have a0 : wy.cell? ad = some (.int .i64 x) := by rw [hwx]; simpa using a0
                    have a1 : wy.cell? ⟨ad.block, ad.off + 1, none⟩ = some (.int .i64 y) := by rw [hwx]; simpa using a1
                    have a2 : wy.cell? ⟨ad.block, ad.off + 2, none⟩ = some (.int .i64 z) := by rw [hwx]; simpa using a2
                    have a3 : wy.cell? ⟨ad.block, ad.off + 3, none⟩ = some (.int .i64 u) := by rw [hwx]; simpa using a3
                    clear hwx e0 e1 e2 e3
                    go_upto_region 18 with fail
                    cases h1 : (x != y)
                    · go_quiet (fail)
                      all_goals
                        go_wp2_with fail
                        exact HR.out _ _ (RY.out _) KND.out
                    · cases h2 : (z != u)
                      · go_quiet (fail)
                        all_goals
                          go_wp2_with fail
                          exact HR.out _ _ (RY.out _) KND.out
                      · go_quiet (fail)
                        all_goals
                          go_wp2_with fail
                          exact HR.out _ _ (RY.out _) KND.out
              · go_wp2_with fail
                exact HN.out _ BW5.out
      · go_wp2_with fail
        exact HN.out _ BW2.out
    · go_wp2_with fail
      exact HN.out _ BW2.out
  · go_wp2_with fail
    exact HN.out _ BW2.out
set_option maxRecDepth 100000 in
set_option maxHeartbeats 16000000 in
theorem valid25_ko (hM : MulOK) (cs : Array Value) (N M : Int) (w : World) (h : OkC w cs) (hkd : ∀ x : Int, x = 5 ∨ x = 6 ∨ x = 7 ∨ x = 8 → cs[0]? ≠ some (.int .i64 x)) : Calls Tryz.prog 21 #[.agg cs, .int .i64 N, .int .i64 M] w (ConPost cs w) := by
  obtain ⟨kind, P, n, c, ps, C, m, d, qs, V, v, e, side, rfl, hp, hq, ⟨hn, hm, hv⟩, hl⟩ := h
  have HKD : Hid (¬ (kind = 5 ∨ kind = 6 ∨ kind = 7 ∨ kind = 8)) := Lib.hid (fun e => hkd kind e rfl)
  clear hkd
  have RET := fun (w' : World) (r : Bool) (h : Below w.heap.size w w') (hk : ∃ k : Nat, k < 17 ∧ kind = (k : Int) + 1 ∧ (n : Int) = ptsK k) => conPost_ret (kind := kind) (P := P) (n := n) (c := c) (C := C) (m := m) (d := d) (V := V) (v := v) (e := e) (side := side) (r := r) h hk
  have NO := fun (w' : World) (h : Below w.heap.size w w') => conPost_no (cs := conC kind P n c C m d V v e side) h
  have HR := Lib.hid RET
  have HN := Lib.hid NO
  clear RET NO
  obtain ⟨Q, hQ⟩ : ∃ Q, Q = ConPost (conC kind P n c C m d V v e side) w := ⟨_, rfl⟩
  rw [← hQ] at HR HN ⊢
  clear hQ
  unfold conC
  obtain ⟨W, hW⟩ : ∃ W, W = w.alloc (.cells #[.int .i64 kind, .slice P n c, .slice C m d, .slice V v e, .int .i64 side] 60) := ⟨_, rfl⟩
  have b0 : CellsAt W w.heap.size #[.int .i64 kind, .slice P n c, .slice C m d, .slice V v e, .int .i64 side] 60 := by rw [hW]; exact CellsAt.new _ _ _
  have BW : Hid (Below w.heap.size w W) := Lib.hid (by rw [hW]; exact (Below.refl _ _).alloc (Nat.le_refl _) _)
  have kW : Keeps w W := by rw [hW]; exact Keeps.alloc _ _
  have RP := Lib.hid (hp.keep kW)
  have RQ := Lib.hid (hq.keep kW)
  have HL := Lib.hid (hl.keep kW (fun cs h => OkE.keep kW h))
  have B0 := Lib.hid b0
  have e0 := b0.at (j := 0) rfl
  have hWz := b0.lt
  have HM := Lib.hid hM
  have cO := of_any kind W
  clear b0 hp hq hl kW hM
  go_enter Tryz.func21, Tryz.ntmps21
  go_upto_region 1 with fail
  rw [← hW]
  have HW := Lib.hid hW
  clear hW
  go_wp2_with fail
  refine Calls.mono cO ?_
  rintro _ w1 ⟨hb1, s, rp, rc, rv, ra, rq, rb, ok, rfl, hok⟩
  obtain ⟨W2, hW2⟩ : ∃ W2, W2 = w1.alloc (.cells #[.string s, .int .i64 rp, .int .i64 rc, .int .i64 rv, .int .i64 ra, .int .i64 rq, .bool rb] 90) := ⟨_, rfl⟩
  have hb2 : Below W.heap.size W W2 := by rw [hW2]; exact hb1.alloc hb1.size _
  have r0 : CellsAt W2 w1.heap.size #[.string s, .int .i64 rp, .int .i64 rc, .int .i64 rv, .int .i64 ra, .int .i64 rq, .bool rb] 90 := by rw [hW2]; exact CellsAt.new _ _ _
  have B2 := Lib.hid (B0.out.below hb2 hWz)
  have R2 := Lib.hid r0
  have BW2 := Lib.hid (BW.out.trans (hb2.mono (by omega)))
  have RP2 := Lib.hid (RP.out.keep (Keeps.of_below hb2 (Nat.le_refl _)))
  have RQ2 := Lib.hid (RQ.out.keep (Keeps.of_below hb2 (Nat.le_refl _)))
  have HL2 := Lib.hid (HL.out.keep (Keeps.of_below hb2 (Nat.le_refl _)) (fun cs h => OkE.keep (Keeps.of_below hb2 (Nat.le_refl _)) h))
  have HOK := Lib.hid hok
  have hz1 := hb1.size
  have hr0 := r0.lt
  clear cO hb1 hb2 r0 e0 B0 BW RP RQ HL hok
  go_upto_region 2 with fail
  rw [← hW2]
  have HW2 := Lib.hid hW2
  clear hW2 HW
  generalize w1.heap.size = rr at *
  have e0 := B2.out.at (j := 0) rfl
  have e1 := B2.out.at (j := 1) rfl
  have e2 := B2.out.at (j := 2) rfl
  have e3 := B2.out.at (j := 3) rfl
  have e4 := B2.out.at (j := 4) rfl
  have r1 := R2.out.at (j := 1) rfl
  have r2 := R2.out.at (j := 2) rfl
  have r3 := R2.out.at (j := 3) rfl
  have r6 := R2.out.at (j := 6) rfl
  cases ok
  · go_wp2_with fail
    exact HN.out _ BW2.out
  cases h1 : ((n : Int) != rp)
  · cases h2 : ((m : Int) != rc)
    · cases h3 : ((v : Int) != rv)
      · have KND : Hid (∃ k : Nat, k < 17 ∧ kind = (k : Int) + 1 ∧ (n : Int) = ptsK k) := Lib.hid (by
          obtain ⟨k, a1, a2, a3⟩ := HOK.out rfl
          have : (n : Int) = rp := by simpa using h1
          exact ⟨k, a1, a2, by omega⟩)
        have cA := within_any P n c ps N W2 (by omega) RP2.out
        go_wp2_with fail
        refine Calls.mono cA ?_
        rintro _ w3 ⟨x1, rfl, hb3⟩
        have B3 := Lib.hid (B2.out.below hb3 (by have := hb3.size; have := B2.out.lt; omega))
        have R3 := Lib.hid (R2.out.below hb3 hr0)
        have BW3 := Lib.hid (BW2.out.trans (hb3.mono BW2.out.size))
        have RP3 := Lib.hid (RP2.out.keep (Keeps.of_below hb3 (Nat.le_refl _)))
        have RQ3 := Lib.hid (RQ2.out.keep (Keeps.of_below hb3 (Nat.le_refl _)))
        have HL3 := Lib.hid (HL2.out.keep (Keeps.of_below hb3 (Nat.le_refl _)) (fun cs h => OkE.keep (Keeps.of_below hb3 (Nat.le_refl _)) h))
        clear cA hb3 e0 e1 e2 e3 e4 r1 r2 r3 r6
        have e2 := B3.out.at (j := 2) rfl
        cases x1
        · go_wp2_with fail
          exact HN.out _ BW3.out
        have cB := within_any C m d qs M w3 (by omega) RQ3.out
        go_wp2_with fail
        refine Calls.mono cB ?_
        rintro _ w4 ⟨x2, rfl, hb4⟩
        have B4 := Lib.hid (B3.out.below hb4 B3.out.lt)
        have R4 := Lib.hid (R3.out.below hb4 R3.out.lt)
        have BW4 := Lib.hid (BW3.out.trans (hb4.mono BW3.out.size))
        have RP4 := Lib.hid (RP3.out.keep (Keeps.of_below hb4 (Nat.le_refl _)))
        have RQ4 := Lib.hid (RQ3.out.keep (Keeps.of_below hb4 (Nat.le_refl _)))
        have HL4 := Lib.hid (HL3.out.keep (Keeps.of_below hb4 (Nat.le_refl _)) (fun cs h => OkE.keep (Keeps.of_below hb4 (Nat.le_refl _)) h))
        clear cB hb4 e2 B2 R2 BW2 RP2 RQ2 HL2 B3 R3 BW3 RP3 RQ3 HL3 HW2
        cases x2
        · go_wp2_with fail
          exact HN.out _ BW4.out
        go_wp2_with fail
        go_loopg [9] v (fun g iv wr => ∃ i : Nat, iv = .int .i64 (i : Int) ∧ i + g = v ∧ Below w4.heap.size w4 wr)
        case atStart => exact ⟨0, rfl, by omega, Below.refl _ _⟩
        case round =>
          obtain ⟨i, rfl, hig, hb⟩ := hrel
          rename World => wr
          have BR := Lib.hid hb
          have B5 := Lib.hid (B4.out.below hb B4.out.lt)
          have R5 := Lib.hid (R4.out.below hb R4.out.lt)
          have BW5 := Lib.hid (BW4.out.trans (hb.mono BW4.out.size))
          have KR := Lib.hid (Keeps.of_below hb (Nat.le_refl _))
          have e3 := B5.out.at (j := 3) rfl
          clear hb
          by_cases h5 : i < v
          · have h5i : (i : Int) < (v : Int) := by omega
            obtain ⟨ad, cs1, rfl, hsz, hel, hex⟩ := HL4.out i h5
            have hel' := hel.keep KR.out
            have hex' := OkE.keep KR.out hex
            have cI := valid22_of HM.out 62 cs1 wr (by omega) hex'
            obtain ⟨op1, sn1, A1, n1, c1, a1, sd1, B1', m1, d1, b1, name1, P1, k1, cap1, hc1, -, -, -, -⟩ := hex'
            have f0 := hel'.zero (x := .int .i64 op1) (by rw [hc1]; rfl)
            have f1 := hel'.at (j := 1) (by omega) (x := .bool sn1) (by rw [hc1]; rfl)
            have f2 := hel'.at (j := 2) (by omega) (x := .slice A1 n1 c1) (by rw [hc1]; rfl)
            have f3 := hel'.at (j := 3) (by omega) (x := .bool sd1) (by rw [hc1]; rfl)
            have f4 := hel'.at (j := 4) (by omega) (x := .slice B1' m1 d1) (by rw [hc1]; rfl)
            have f5 := hel'.at (j := 5) (by omega) (x := .string name1) (by rw [hc1]; rfl)
            have f6 := hel'.at (j := 6) (by omega) (x := .slice P1 k1 cap1) (by rw [hc1]; rfl)
            rw [hc1] at cI
            unfold exprC at cI
            clear hel hel' hex hc1
            go_wp2_with fail
            refine Calls.mono cI ?_
            rintro _ w6 ⟨hb6, er, rfl⟩
            have BR6 := Lib.hid (BR.out.trans (hb6.mono BR.out.size))
            have BW6 := Lib.hid (BW5.out.trans (hb6.mono BW5.out.size))
            clear cI hb6
            cases h7 : (er != 0)
            · go_wp2_with fail
              go_roundg (v - (i + 1))
              case measure => omega
              case rel => exact ⟨i + 1, by go_num, by omega, BR6.out⟩
            · go_wp2_with fail
              exact HN.out _ BW6.out
          · obtain rfl : i = v := by omega
            have RP5 := Lib.hid (RP4.out.keep KR.out)
            have RQ5 := Lib.hid (RQ4.out.keep KR.out)
            clear HL4 HM RP4 RQ4
            have e0 := B5.out.at (j := 0) rfl
            have e1 := B5.out.at (j := 1) rfl
            have e2 := B5.out.at (j := 2) rfl
            have e4 := B5.out.at (j := 4) rfl
            have r6 := R5.out.at (j := 6) rfl
            clear R4 B4 BW4 BR
            go_upto_region 9 with fail
            go_cut [93] (fun zv wx => ∃ z, zv = .bool z ∧ wx = wr)
            case first =>
              cases rb
              · cases h8 : (side != 0)
                · go_wp2_with fail
                  go_meet
                  exact ⟨_, rfl, rfl⟩
                · go_wp2_with fail
                  go_meet
                  exact ⟨_, rfl, rfl⟩
              · cases h8 : (side != 1)
                · go_wp2_with fail
                  go_meet
                  exact ⟨_, rfl, rfl⟩
                · cases h9 : (side != -1)
                  · go_wp2_with fail
                    go_meet
                    exact ⟨_, rfl, rfl⟩
                  · go_wp2_with fail
                    go_meet
                    exact ⟨_, rfl, rfl⟩
            case rest =>
              obtain ⟨z, rfl, hwx⟩ := hcut
              rename World => wy
              have hwy := hwx.symm
              clear hwx
              subst hwy
              clear r6 e4
              cases z
              · go_upto_region 12 with fail
                have hk := HKD.out
                have k5 : (kind == 5) = false := by rw [beq_eq_false_iff_ne]; omega
                have k6 : (kind == 6) = false := by rw [beq_eq_false_iff_ne]; omega
                have k7 : (kind == 7) = false := by rw [beq_eq_false_iff_ne]; omega
                have k8 : (kind == 8) = false := by rw [beq_eq_false_iff_ne]; omega
                have cE := different_any P n c ps wr (by omega) RP5.out
                clear hk
                go_wp2_with fail
                refine Calls.mono cE ?_
                rintro _ w7 ⟨x7, rfl, hb7⟩
                have BW7 := Lib.hid (BW5.out.trans (hb7.mono BW5.out.size))
                have B7 := Lib.hid (B5.out.below hb7 B5.out.lt)
                have RQ7 := Lib.hid (RQ5.out.keep (Keeps.of_below hb7 (Nat.le_refl _)))
                clear cE hb7 e0 e1 e2 e3
                cases x7
                · go_wp2_with fail
                  exact HR.out _ _ BW7.out KND.out
                · have e2 := B7.out.at (j := 2) rfl
                  have cF := different_any C m d qs w7 (by omega) RQ7.out
                  go_wp2_with fail
                  refine Calls.mono cF ?_
                  rintro _ w8 ⟨x8, rfl, hb8⟩
                  have BW8 := Lib.hid (BW7.out.trans (hb8.mono BW7.out.size))
                  clear cF hb8 e2
                  go_wp2_with fail
                  exact HR.out _ _ BW8.out KND.out
              · go_wp2_with fail
                exact HN.out _ BW5.out
      · go_wp2_with fail
        exact HN.out _ BW2.out
    · go_wp2_with fail
      exact HN.out _ BW2.out
  · go_wp2_with fail
    exact HN.out _ BW2.out
theorem valid25_of (hM : MulOK) (cs : Array Value) (N M : Int) (w : World) (h : OkC w cs) : Calls Tryz.prog 21 #[.agg cs, .int .i64 N, .int .i64 M] w (ConPost cs w) := by
  by_cases h5 : cs[0]? = some (.int .i64 5)
  · exact valid25_k5 hM cs N M w h h5
  by_cases h6 : cs[0]? = some (.int .i64 6)
  · exact valid25_k6 hM cs N M w h h6
  by_cases h7 : cs[0]? = some (.int .i64 7)
  · exact valid25_k7 hM cs N M w h h7
  by_cases h8 : cs[0]? = some (.int .i64 8)
  · exact valid25_k8 hM cs N M w h h8
  refine valid25_ko hM cs N M w h (fun x hx => ?_)
  rcases hx with rfl | rfl | rfl | rfl
  · exact h5
  · exact h6
  · exact h7
  · exact h8
end Go.Proofs.YtpdbekgkopglgaaGreat
