/-
  Contracts and lemmas for the statement, joined: Nk, Nl, Nm.
-/
import Derived.Test.YtpdbekgkopglgaaGreatJ7
namespace Go.Proofs.YtpdbekgkopglgaaGreat
set_option linter.unusedVariables false
set_option linter.unusedSimpArgs false
open Go.RowKit Go.Sort
attribute [local go_sem ↓] Go.wp_at_zero Go.wp_at_succ

/-- A part of a list of words. -/
theorem Own.part {w : World} {base n c g i m : Nat} {l : List Nat} (h : Own w base 108 1 (some ⟨g, 0, none⟩) n c (us l)) (hu : U32 l) (hi : i + m ≤ n) (d : Nat) (hd : m ≤ d) : MagAt w (some ⟨g, i, none⟩) m d ((l.drop i).take m) := by
  have hl := h.ulen
  refine ⟨⟨by rw [us_length, List.length_take, List.length_drop]; omega, fun h0 => ⟨_, rfl, fun j u hu => ?_⟩⟩, hd, (hu.drop _).take _⟩
  rw [us_take] at hu
  rw [List.getElem?_take] at hu
  split at hu
  · rename_i hj
    have e2 : (⟨g, i, none⟩ : Addr).add j = ⟨g, i + j, none⟩ := by unfold Addr.add; split <;> simp_all
    rw [e2, h.cellU (by omega)]
    have hd : (us (l.drop i))[j]? = some (.int .u32 (((l.drop i).getD j 0 : Nat) : Int)) := us_at _ _ (by rw [List.length_drop]; omega)
    rw [hd] at hu
    rw [getD_dropN] at hu
    exact hu
  · cases hu
set_option maxRecDepth 100000 in
set_option maxHeartbeats 16000000 in
theorem divide_long (A B : Option Addr) (n c k d : Nat) (a b : List Nat) (w : World) (hn2 : 2 < n) (hn : n ≤ 100000) (hk : 1 ≤ k) (ha : MagAt w A n c a) (hb : MagAt w B (k + 1) d b) (ta : Trm a) (tb : Trm b) (hge : nv b ≤ nv a) :
    Calls Tryz.prog 54 #[.slice A n c, .slice B (k + 1) d] w (DivPost w n (nv b)) := by
  have hkn : k + 1 ≤ n := by have := len_le_of ha.2.2 tb hge; rw [hb.len, ha.len] at this; exact this
  have cC := compare_any A B n c (k + 1) d a b w (by omega) (by omega) ha.1 hb.1
  have hc : ¬ cmpN a b < 0 := fun h => by have := (cmpN_nv ha.2.2 hb.2.2 ta tb).1 h; omega
  have H1 := Lib.hid ha
  have H2 := Lib.hid hb
  have TB := Lib.hid tb
  have LA := Lib.hid ha.len
  have LB := Lib.hid hb.len
  have hn3 : ¬ (n : Int) ≤ 2 := by omega
  have hk1 : ¬ (k : Int) + 1 = 1 := by omega
  clear ha hb ta tb hge
  generalize cmpN a b = cv at *
  go_enter Tryz.func54, Tryz.ntmps54
  go_wp2_with fail
  refine Calls.mono cC ?_
  rintro _ w1 ⟨rfl, hb1⟩
  have HB := Lib.hid hb1
  have k1 := Keeps.of_below hb1 (Nat.le_refl _)
  have hz1 := hb1.size
  have cL := length_any B (k + 1) d b w1 (by omega) (H2.out.keep k1) TB.out (by omega)
  clear cC hb1
  go_wp2_with fail
  refine Calls.mono cL ?_
  rintro _ _ ⟨t, rfl, ht0, ht32, htl, hth, rfl⟩
  obtain ⟨L, hL⟩ : ∃ L : Nat, L = 32 * (k + 1 - 1) + t := ⟨_, rfl⟩
  obtain ⟨s, hs⟩ : ∃ s : Nat, s = 32 - t := ⟨_, rfl⟩
  have hs32 : s < 32 := by omega
  have eS : 32 * ((k : Int) + 1) - (L : Int) = (s : Int) := by omega
  have TT : Hid (0 < t ∧ t ≤ 32 ∧ 2 ^ (t - 1) ≤ b.getD k 0 ∧ b.getD k 0 < 2 ^ t ∧ s = 32 - t) := Lib.hid ⟨ht0, ht32, by have := htl; rwa [Nat.add_sub_cancel] at this, by have := hth; rwa [Nat.add_sub_cancel] at this, hs⟩
  rw [← hL]
  have cX := shifted_any A n c a s w1 (by omega) hs32 (H1.out.keep k1)
  clear cL k1 ht0 ht32 htl hth hL hs
  go_wp2_with fail
  refine Calls.mono cX ?_
  rintro _ w2 ⟨hb2, X, rfl, hx2, ux2, lx2, vx2⟩
  have HB2 := Lib.hid (HB.out.trans (hb2.mono hz1))
  have OX2 := Lib.hid (hx2.base_le hz1)
  have UX2 := Lib.hid ux2
  have LX2 := Lib.hid lx2
  have VX2 := Lib.hid vx2
  have hz2 := HB2.out.size
  have hgx : w1.heap.size < w2.heap.size := (hx2.lt rfl).2
  clear cX hb2 hx2 ux2 lx2 vx2
  have cY := shifted_any B (k + 1) d b s w2 (by omega) hs32 (H2.out.keep (Keeps.of_below HB2.out (Nat.le_refl _)))
  go_wp2_with fail
  refine Calls.mono cY ?_
  rintro _ w3 ⟨hb3, Yl, rfl, hy3, uy3, ly3, vy3⟩
  have HB3 := Lib.hid (HB2.out.trans (hb3.mono hz2))
  have OX3 := Lib.hid (OX2.out.later hb3)
  obtain ⟨NL, NB⟩ := norm_len LB.out H2.out.2.2 TT.out.2.2.1 TT.out.2.2.2.1 TT.out.1 TT.out.2.1 TT.out.2.2.2.2 vy3 uy3
  have OY3 := Lib.hid ((hy3.base_le hz2).trimU NL)
  have UY := Lib.hid (trimN_u32 uy3)
  have TY := Lib.hid (trimN_trm Yl)
  have LY : Hid ((trimN Yl).length = k + 1) := Lib.hid (by rw [trimN_len, NL])
  have VY : Hid (nv (trimN Yl) = nv b * 2 ^ s) := Lib.hid (by rw [nv_trim, vy3])
  have NB2 : Hid (2147483648 * 4294967296 ^ k ≤ nv (trimN Yl)) := Lib.hid (by rw [nv_trim]; exact NB)
  have hz3 := HB3.out.size
  have hgy : w2.heap.size < w3.heap.size := (hy3.lt rfl).2
  have cT := trim_mag _ (k + 1 + 1) (k + 1 + 1) Yl w3 (by omega) (hy3.mag uy3)
  rw [NL] at cT
  clear cY hb3 hy3 uy3 ly3 vy3 NL NB
  generalize trimN Yl = y at *
  go_wp2_with fail
  refine Calls.mono cT ?_
  rintro _ _ ⟨rfl, rfl⟩
  have hmk := run_make_row' (P := Tryz.prog) 48 108 (.int .u32 0) 4 Tryz.underlying48 info_u32 rfl .i64 .i64 n (by omega) (by omega)
  have OQ0 : Hid (Own (w3.alloc (.cells (madeCells #[.int .u32 0] n) 108)) w.heap.size 108 1 (some ⟨w3.heap.size, 0, none⟩) n n (us (List.replicate n 0))) := Lib.hid (own_madeU rfl n (by unfold maxLen; omega) hz3)
  have ST : Hid (nv (X.drop (n - (k + 1))) < 4294967296 * nv y) := Lib.hid (start_lt VX2.out H1.out.2.2 LA.out LX2.out hs32 hkn NB2.out)
  have HB4 : Hid (Below w.heap.size w (w3.alloc (.cells (madeCells #[.int .u32 0] n) 108))) := Lib.hid (HB3.out.alloc hz3 _)
  obtain ⟨gX, hgX⟩ : ∃ g, g = w1.heap.size := ⟨_, rfl⟩
  obtain ⟨gY, hgY⟩ : ∃ g, g = w2.heap.size := ⟨_, rfl⟩
  obtain ⟨gQ, hgQ⟩ : ∃ g, g = w3.heap.size := ⟨_, rfl⟩
  have hXY : gX < gY := by omega
  have hYQ : gY < gQ := by omega
  clear cT
  rw [← hgX] at OX2 OX3 hgx
  rw [← hgY] at OY3 hgy
  rw [← hgQ] at OQ0
  rw [← hgX, ← hgY]
  clear hgx hgy hgX hgY
  have HGQ := Lib.hid hgQ
  clear hgQ
  go_wp2_with fail
  rw [← HGQ.out]
  clear HGQ
  go_loopg [14] (n - k) (fun g iv wr => ∃ (X Q : List Nat), U32 X ∧ X.length = n + 1 ∧ U32 Q ∧ Own wr w.heap.size 108 1 (some ⟨gX, 0, none⟩) (n + 1) (n + 1) (us X) ∧ Own wr w.heap.size 108 1 (some ⟨gY, 0, none⟩) (k + 1) (k + 1 + 1) (us y) ∧ Own wr w.heap.size 108 1 (some ⟨gQ, 0, none⟩) n n (us Q) ∧ Below w.heap.size w wr ∧ ((∃ j : Nat, g = j + 1 ∧ iv = .int .i64 (j : Int) ∧ j + (k + 1) ≤ n ∧ nv (X.drop j) < 4294967296 * nv y) ∨ (g = 0 ∧ iv = .int .i64 (-1) ∧ nv X < nv y)))
  case atStart => exact ⟨X, List.replicate n 0, UX2.out, LX2.out, U32.zero n, OX3.out.alloc _, OY3.out.alloc _, OQ0.out, HB4.out, .inl ⟨n - (k + 1), by omega, by congr 1; omega, by omega, ST.out⟩⟩
  case round =>
    clear ST HB4 HB3 HB2 OX2 OX3 OY3 OQ0 UX2 LX2 VX2 HB
    obtain ⟨X, Q, ux, lx, uq, hox, hoy, hoq, hb, hj⟩ := hrel
    rename World => wr
    have HB := Lib.hid hb
    have OX := Lib.hid hox
    have OY := Lib.hid hoy
    have OQ := Lib.hid hoq
    have UX := Lib.hid ux
    have LX := Lib.hid lx
    have UQ := Lib.hid uq
    have hzr := hb.size
    clear ux lx uq hox hoy hoq hb
    rcases hj with ⟨j, rfl, rfl, hjn, hjv⟩ | ⟨rfl, rfl, hfin⟩
    · obtain ⟨PA, PZ⟩ := part_all (m := k) LY.out UY.out hjv (by rw [LX.out]; omega)
      have PZ := Lib.hid PZ
      have MP := Lib.hid (OX.out.part UX.out (i := j) (m := k + 2) (by omega) (n + 1 - j) (by omega))
      have cD := digit_any (some ⟨gX, j, none⟩) (some ⟨gY, 0, none⟩) k (n + 1 - j) (k + 1 + 1) ((X.drop j).take (k + 2)) y wr (by omega) MP.out (OY.out.mag UY.out) TY.out (by rw [PA]; exact hjv)
      have PA := Lib.hid PA
      have hs0 : (0 : Int) ≤ (j : Int) := by omega
      have hs1 : (j : Int) + ((k : Int) + 1) + 1 ≤ (n : Int) + 1 := by omega
      have hs2 : (j : Int) ≤ (j : Int) + ((k : Int) + 1) + 1 := by omega
      have hs3 : ((j : Int) + ((k : Int) + 1) + 1).toNat = j + (k + 2) := by omega
      go_wp2_with fail
      refine Calls.mono cD ?_
      rintro _ w5 ⟨hb5, dq, C5, n5, c5, p5, rfl, hdq, ho5, hu5, ht5, hv5, hq5, hl5⟩
      have hY0 : 0 < nv y := TY.out.pos (by rw [LY.out]; omega)
      obtain ⟨ML1, ML2⟩ := mod_lt_of hY0 hv5 hq5
      have ML1 := Lib.hid ML1
      have ML2 := Lib.hid ML2
      have HB5 := Lib.hid (HB.out.trans (hb5.mono hzr))
      have hgx5 : gX < wr.heap.size := (OX.out.lt rfl).2
      have hgq5 : gQ < wr.heap.size := (OQ.out.lt rfl).2
      have OX5 := Lib.hid (OX.out.later hb5)
      have OY5 := Lib.hid (OY.out.later hb5)
      have OQ5 := Lib.hid (OQ.out.later hb5)
      have OP6 := Lib.hid (ho5.setOther' (p := ⟨gQ, j, none⟩) hgq5 (.int .u32 (dq : Int)))
      have U5 := Lib.hid hu5
      have T5 := Lib.hid ht5
      have cq := OQ5.out.cellU (j := j) (by omega)
      have fq : w5.frozen? ⟨gQ, j, none⟩ = false := OQ5.out.frozen j
      have hw5 := hb5.size
      clear cD hb5 ho5 hu5 ht5 hv5 hq5
      have OX6 := Lib.hid (OX5.out.setFar (p := ⟨gQ, j, none⟩) (.inr (by simp [blk]; omega)) (.int .u32 (dq : Int)))
      have OY6 := Lib.hid (OY5.out.setFar (p := ⟨gQ, j, none⟩) (.inr (by simp [blk]; omega)) (.int .u32 (dq : Int)))
      have OQ6 := Lib.hid (OQ5.out.storeU j dq)
      have UQ6 : Hid (U32 (Q.set j dq)) := Lib.hid (UQ.out.set _ hdq)
      have HB6 := Lib.hid (HB5.out.setCell (p := ⟨gQ, j, none⟩) (by have := (OQ5.out.lt rfl).1; exact this) (.int .u32 (dq : Int)))
      have hjn2 : (j : Int) < (n : Int) := by omega
      clear OX5 OY5 OQ5 HB5
      go_wp2_with fail
      generalize hW6 : w5.setCell ⟨gQ, j, none⟩ (.int .u32 (dq : Int)) = w6 at *
      have hs6 : w6.heap.size = w5.heap.size := by rw [← hW6]; simp [World.setCell]
      clear hW6 cq fq
      generalize Q.set j dq = Q6 at *
      have MP6 := Lib.hid (OX6.out.part UX.out (i := j) (m := k + 2) (by omega) (n + 1 - j) (by omega))
      have cT := trim_mag _ (k + 2) (n + 1 - j) _ w6 (by omega) MP6.out
      have TLp : tlen ((X.drop j).take (k + 2)) ≤ k + 2 := by have := tlen_le ((X.drop j).take (k + 2)); rw [MP6.out.len] at this; exact this
      have cM := minus_any (some ⟨gX, j, none⟩) C5 (tlen ((X.drop j).take (k + 2))) (n + 1 - j) n5 c5 (trimN ((X.drop j).take (k + 2))) p5 w6 (by omega) (by omega) MP6.out.trim (OP6.out.mag U5.out) T5.out (by rw [nv_trim]; exact ML1.out)
      rw [nv_trim] at cM
      refine Calls.mono cT ?_
      rintro _ _ ⟨rfl, rfl⟩
      go_wp2_with fail
      refine Calls.mono cM ?_
      rintro _ w7 ⟨⟨hb7, C7, n7, c7, dd, rfl, ho7, hu7, ht7, hv7⟩, -⟩
      have DV : Hid (nv dd < nv y) := Lib.hid (by rw [hv7]; exact ML2.out)
      have DL : dd.length ≤ k + 1 := len_lt_pow ht7 (Nat.lt_trans DV.out (by have := nv_lt UY.out; rwa [LY.out] at this))
      have hn7 : dd.length = n7 := ho7.ulen
      have OX7 := Lib.hid (OX6.out.later hb7)
      have OY7 := Lib.hid (OY6.out.later hb7)
      have OQ7 := Lib.hid (OQ6.out.later hb7)
      have HB7 := Lib.hid (HB6.out.trans (hb7.mono HB6.out.size))
      have OD7 := Lib.hid ho7
      have UD := Lib.hid hu7
      have hgx7 : gX < w6.heap.size := by omega
      have DN := Lib.hid hn7
      clear cT cM hb7 ho7 hu7 ht7 hv7 OX6 OY6 OQ6 OP6 HB6 MP6 TLp
      go_wp2_with fail
      go_loopg [19] (k + 2) (fun g iv wr => ∃ (r : Nat) (X' : List Nat), r ≤ k + 2 ∧ k + 2 - r ≤ g ∧ iv = .int .i64 (r : Int) ∧ U32 X' ∧ X'.length = n + 1 ∧ (∀ i, i < r → X'.getD (j + i) 0 = dd.getD i 0) ∧ (∀ i, j + r ≤ i → X'.getD i 0 = X.getD i 0) ∧ Own wr w.heap.size 108 1 (some ⟨gX, 0, none⟩) (n + 1) (n + 1) (us X') ∧ Own wr w.heap.size 108 1 (some ⟨gY, 0, none⟩) (k + 1) (k + 1 + 1) (us y) ∧ Own wr w.heap.size 108 1 (some ⟨gQ, 0, none⟩) n n (us Q6) ∧ Own wr w6.heap.size 108 1 C7 n7 c7 (us dd) ∧ Below w.heap.size w wr)
      case atStart => exact ⟨0, X, Nat.zero_le _, by omega, rfl, UX.out, LX.out, (fun i h => by omega), (fun i h => rfl), OX7.out, OY7.out, OQ7.out, OD7.out, HB7.out⟩
      case round =>
        clear OX7 OY7 OQ7 OD7 HB7
        obtain ⟨r, X', hr, hg, rfl, ux, lx, hlo, hhi, hox, hoy, hoq, hod, hb⟩ := hrel
        rename World => wr
        have HB8 := Lib.hid hb
        have OX8 := Lib.hid hox
        have OY8 := Lib.hid hoy
        have OQ8 := Lib.hid hoq
        have OD8 := Lib.hid hod
        have UX8 := Lib.hid ux
        have LX8 := Lib.hid lx
        have LO := Lib.hid hlo
        have HI := Lib.hid hhi
        clear ux lx hlo hhi hox hoy hoq hod hb
        by_cases hrk : r < k + 2
        · have cx := OX8.out.cellU (j := j + r) (by omega)
          have fx : wr.frozen? ⟨gX, j + r, none⟩ = false := OX8.out.frozen (j + r)
          have hrk2 : (r : Int) < (k : Int) + 2 := by omega
          have OXa : Hid (Own (wr.setCell ⟨gX, j + r, none⟩ (.int .u32 0)) w.heap.size 108 1 (some ⟨gX, 0, none⟩) (n + 1) (n + 1) (us (X'.set (j + r) 0))) := Lib.hid (OX8.out.storeU (j + r) 0)
          have OYa := Lib.hid (OY8.out.setFar (p := ⟨gX, j + r, none⟩) (.inr (by simp [blk]; omega)) (.int .u32 0))
          have OQa := Lib.hid (OQ8.out.setFar (p := ⟨gX, j + r, none⟩) (.inr (by simp [blk]; omega)) (.int .u32 0))
          have ODa := Lib.hid (OD8.out.setOther' (p := ⟨gX, j + r, none⟩) hgx7 (.int .u32 0))
          have hgb : w.heap.size ≤ gX := (OX8.out.lt rfl).1
          have HBa := Lib.hid (HB8.out.setCell (p := ⟨gX, j + r, none⟩) hgb (.int .u32 0))
          have UXa : Hid (U32 (X'.set (j + r) 0)) := Lib.hid (UX8.out.set _ (by omega))
          have LXa : Hid ((X'.set (j + r) 0).length = n + 1) := Lib.hid (by rw [List.length_set]; exact LX8.out)
          by_cases hrn : r < n7
          · have hrn2 : (r : Int) < (n7 : Int) := by omega
            obtain ⟨g7, hC7, -, -⟩ := OD8.out.some_ (by omega)
            have cd := (show Own _ _ _ _ (some ⟨g7, 0, none⟩) _ _ _ from hC7 ▸ ODa.out).cellU (j := r) hrn
            have hdb := UD.out.at r
            have FL : Hid (∀ i, i < r + 1 → ((X'.set (j + r) 0).set (j + r) (dd.getD r 0)).getD (j + i) 0 = dd.getD i 0) := Lib.hid fun i hi => by
              by_cases e : i = r
              · subst e; rw [getD_set_same (by rw [LXa.out]; omega)]
              · rw [getD_set_other (by omega), getD_set_other (by omega)]; exact LO.out i (by omega)
            have FH : Hid (∀ i, j + (r + 1) ≤ i → ((X'.set (j + r) 0).set (j + r) (dd.getD r 0)).getD i 0 = X.getD i 0) := Lib.hid fun i hi => by
              rw [getD_set_other (by omega), getD_set_other (by omega)]; exact HI.out i (by omega)
            have OXb := Lib.hid (OXa.out.storeU (j + r) (dd.getD r 0))
            have UXb : Hid (U32 ((X'.set (j + r) 0).set (j + r) (dd.getD r 0))) := Lib.hid (UXa.out.set _ hdb)
            have LXb : Hid (((X'.set (j + r) 0).set (j + r) (dd.getD r 0)).length = n + 1) := Lib.hid (by rw [List.length_set]; exact LXa.out)
            have cxa := OXa.out.cellU (j := j + r) (by omega)
            have fxa : (wr.setCell ⟨gX, j + r, none⟩ (.int .u32 0)).frozen? ⟨gX, j + r, none⟩ = false := OXa.out.frozen (j + r)
            generalize dd.getD r 0 = v at *
            have OYb := Lib.hid (OYa.out.setFar (p := ⟨gX, j + r, none⟩) (.inr (by simp [blk]; omega)) (.int .u32 (v : Int)))
            have OQb := Lib.hid (OQa.out.setFar (p := ⟨gX, j + r, none⟩) (.inr (by simp [blk]; omega)) (.int .u32 (v : Int)))
            have ODb := Lib.hid (ODa.out.setOther' (p := ⟨gX, j + r, none⟩) hgx7 (.int .u32 (v : Int)))
            have HBb := Lib.hid (HBa.out.setCell (p := ⟨gX, j + r, none⟩) hgb (.int .u32 (v : Int)))
            subst hC7
            clear OXa OYa OQa ODa HBa
            go_wp2_with fail
            go_roundg (k + 2 - (r + 1))
            case measure => omega
            case rel => exact ⟨r + 1, _, by omega, Nat.le_refl _, by go_num, UXb.out, LXb.out, FL.out, FH.out, OXb.out, OYb.out, OQb.out, ODb.out, HBb.out⟩
          · have hrn2 : ¬ (r : Int) < (n7 : Int) := by omega
            have hd0 : dd.getD r 0 = 0 := by rw [List.getD_eq_getElem?_getD, List.getElem?_eq_none (by rw [DN.out]; omega)]; rfl
            have FL : Hid (∀ i, i < r + 1 → (X'.set (j + r) 0).getD (j + i) 0 = dd.getD i 0) := Lib.hid fun i hi => by
              by_cases e : i = r
              · subst e; rw [getD_set_same (by rw [LX8.out]; omega), hd0]
              · rw [getD_set_other (by omega)]; exact LO.out i (by omega)
            have FH : Hid (∀ i, j + (r + 1) ≤ i → (X'.set (j + r) 0).getD i 0 = X.getD i 0) := Lib.hid fun i hi => by
              rw [getD_set_other (by omega)]; exact HI.out i (by omega)
            clear hd0
            go_wp2_with fail
            go_roundg (k + 2 - (r + 1))
            case measure => omega
            case rel => exact ⟨r + 1, _, by omega, Nat.le_refl _, by go_num, UXa.out, LXa.out, FL.out, FH.out, OXa.out, OYa.out, OQa.out, ODa.out, HBa.out⟩
        · obtain rfl : r = k + 2 := by omega
          have NV : nv (X'.drop j) < nv y := by
            rw [part_put (d := dd) (y := y) (X := X) (fun i hi => LO.out i hi) (fun i hi => by rw [HI.out i hi]; exact PZ.out i hi) (by omega)]
            exact DV.out
          have NV := Lib.hid NV
          have NR : Hid (∀ j', j = j' + 1 → nv (X'.drop j') < 4294967296 * nv y) := Lib.hid fun j' e => next_lt UX8.out (by rw [LX8.out]; omega) (by rw [← e]; exact NV.out)
          by_cases hj0 : j = 0
          · subst hj0
            have NZ : Hid (nv X' < nv y) := Lib.hid (by have := NV.out; rwa [List.drop_zero] at this)
            go_wp2_with fail
            go_roundg 0
            case measure => omega
            case rel => exact ⟨X', Q6, UX8.out, LX8.out, UQ6.out, OX8.out, OY8.out, OQ8.out, HB8.out, .inr ⟨rfl, rfl, NZ.out⟩⟩
          · have NJ := Lib.hid (NR.out (j - 1) (by omega))
            go_wp2_with fail
            go_roundg j
            case measure => omega
            case rel => exact ⟨X', Q6, UX8.out, LX8.out, UQ6.out, OX8.out, OY8.out, OQ8.out, HB8.out, .inl ⟨j - 1, by omega, by congr 1; omega, by omega, NJ.out⟩⟩
    · have cT := trim_mag _ n n Q wr (by omega) (OQ.out.mag UQ.out)
      have cX := trim_mag _ (n + 1) (n + 1) X wr (by omega) (OX.out.mag UX.out)
      have TQ : Hid (tlen Q ≤ n + 2) := Lib.hid (by have := tlen_le Q; rw [OQ.out.ulen] at this; omega)
      have tlx : tlen X ≤ n + 1 := by have := tlen_le X; rwa [LX.out] at this
      have MX := Lib.hid (OX.out.mag UX.out).trim
      have cK := back_any (some ⟨gX, 0, none⟩) (tlen X) (n + 1) (trimN X) s wr (by omega) hs32 MX.out
      have BL : Hid (nv (trimN X) / 2 ^ s < nv b) := Lib.hid (by rw [nv_trim]; exact back_lt hfin VY.out)
      clear hfin
      generalize tlen X = tX at *
      go_wp2_with fail
      refine Calls.mono cT ?_
      rintro _ _ ⟨rfl, rfl⟩
      go_wp2_with fail
      refine Calls.mono cX ?_
      rintro _ _ ⟨rfl, rfl⟩
      go_wp2_with fail
      refine Calls.mono cK ?_
      rintro _ w5 ⟨⟨hb5, C5, n5, c5, r5, rfl, ho5, hu5, ht5, hv5⟩, -⟩
      have hm5 := ho5.mag hu5
      have HB5 := Lib.hid (HB.out.trans (hb5.mono hzr))
      have MQ := Lib.hid ((OQ.out.mag UQ.out).trim.keep (Keeps.of_below hb5 (Nat.le_refl _)))
      have M5 := Lib.hid hm5
      have T5 := Lib.hid ht5
      have V5 := Lib.hid hv5
      clear cT cX cK hb5 ho5 hu5 hm5 ht5 hv5
      go_wp2_with fail
      exact bodyPost_ret (v := .tuple #[.slice (some ⟨gQ, 0, none⟩) (tlen Q) n, .slice C5 n5 c5]) (by simp [results, Tryz.results54, go_sem]) rfl ⟨HB5.out, _, _, _, trimN Q, C5, n5, c5, r5, rfl, MQ.out, TQ.out, M5.out, T5.out, by rw [V5.out]; exact BL.out⟩
end Go.Proofs.YtpdbekgkopglgaaGreat
namespace Go.Proofs.YtpdbekgkopglgaaGreat
set_option linter.unusedVariables false
set_option linter.unusedSimpArgs false
open Go.RowKit Go.Sort
attribute [local go_sem ↓] Go.wp_at_zero Go.wp_at_succ

theorem divide_any (A B : Option Addr) (n c m d : Nat) (a b : List Nat) (w : World) (hn : n ≤ 100000) (hm : m ≤ 100000) (h0 : 0 < m) (ha : MagAt w A n c a) (hb : MagAt w B m d b) (ta : Trm a) (tb : Trm b) :
    Calls Tryz.prog 54 #[.slice A n c, .slice B m d] w (DivPost w n (nv b)) := by
  rcases Nat.lt_or_ge (nv a) (nv b) with h | h
  · exact divide_lt A B n c m d a b w hn hm ha hb ta tb h
  · by_cases h2 : n ≤ 2
    · exact divide_two A B n c m d a b w h2 hm ha hb ta tb h0 h
    · by_cases h1 : m = 1
      · subst h1
        exact divide_one A B n c d a b w (by omega) hn ha hb ta tb h
      · obtain ⟨k, rfl⟩ : ∃ k, m = k + 1 := ⟨m - 1, by omega⟩
        exact divide_long A B n c k d a b w (by omega) hn (by omega) ha hb ta tb h
theorem trim_q (A : Option Addr) (n c : Nat) (l : List Nat) (w : World) (hn : n ≤ 1000000) (h : MagAt w A n c l) :
    Calls Tryz.prog 52 #[.slice A n c] w fun e w' => e = .returned (.slice A (tlen l) c) ∧ Below w.heap.size w w' :=
  (trim_mag A n c l w hn h).mono fun e w' hh => ⟨hh.1, by rw [← hh.2]; exact Below.refl _ _⟩
theorem CellsAt.alloc {W : World} {b : Nat} {cs : Array Value} {t : TypeId} (h : CellsAt W b cs t) (o : Obj) : CellsAt (W.alloc o) b cs t :=
  h.below (B := W.heap.size) ((Below.refl _ _).alloc (Nat.le_refl _) _) h.lt
theorem CellsAt.new_at {w : World} {b : Nat} (hb : w.heap.size = b) (cs : Array Value) (t : TypeId) : CellsAt (w.alloc (.cells cs t)) b cs t := by subst hb; exact CellsAt.new _ _ _
theorem boxes3 (w : World) (c1 c2 c3 : Array Value) (t1 t2 t3 : TypeId) {W : World} (hW : W = ((w.alloc (.cells c1 t1)).alloc (.cells c2 t2)).alloc (.cells c3 t3)) :
    CellsAt W w.heap.size c1 t1 ∧ CellsAt W (w.heap.size + 1) c2 t2 ∧ CellsAt W (w.heap.size + 2) c3 t3 ∧ Below w.heap.size w W ∧ Keeps w W ∧ W.heap.size = w.heap.size + 3 := by
  subst hW
  refine ⟨((CellsAt.new _ _ _).alloc _).alloc _, (CellsAt.new_at (by simp) _ _).alloc _, CellsAt.new_at (by simp) _ _, (((Below.refl _ _).alloc (Nat.le_refl _) _).alloc (by simp) _).alloc (by simp; omega) _, ((Keeps.alloc _ _).trans (Keeps.alloc _ _)).trans (Keeps.alloc _ _), by simp⟩
theorem MagAt.setOff {W : World} {A : Option Addr} {n c : Nat} {l : List Nat} (h : MagAt W A n c l) {p : Addr} {v : Value} (hp : W.cell? p = some v) (hv : ∀ i, v ≠ .int .u32 i) (u : Value) : MagAt (W.setCell p u) A n c l := by
  obtain ⟨⟨h1, h2⟩, h3, h4⟩ := h
  refine ⟨⟨h1, fun h0 => ?_⟩, h3, h4⟩
  obtain ⟨ad, e, hc⟩ := h2 h0
  refine ⟨ad, e, fun j x hx => ?_⟩
  have h5 := hc j x hx
  rw [World.cell?_setCell_other _ _ _ _ ?_]
  · exact h5
  · intro e2
    rw [← e2] at h5
    rw [hp] at h5
    injection h5 with h5
    have hj : j < l.length := by
      rcases Nat.lt_or_ge j l.length with h | h
      · exact h
      · rw [List.getElem?_eq_none (by rw [us_length]; exact h)] at hx; cases hx
    rw [us_at l j hj] at hx
    injection hx with hx
    exact hv _ (h5.trans hx.symm)
theorem MagAt.setTwo {W : World} {A : Option Addr} {n c b : Nat} {l : List Nat} (h : MagAt W A n c l) {z : Bool} {C : Option Addr} {m d : Nat} (h0 : W.cell? ⟨b, 0, none⟩ = some (.bool z)) (h1 : W.cell? ⟨b, 1, none⟩ = some (.slice C m d)) (u v : Value) :
    MagAt ((W.setCell ⟨b, 0, none⟩ u).setCell ⟨b, 1, none⟩ v) A n c l :=
  (h.setOff h0 (fun i e => by cases e) u).setOff (v := .slice C m d) ((World.cell?_setCell_other _ _ _ _ (by simp)).trans h1) (fun i e => by cases e) v
def GcdPost (w : World) (K : Nat) (e : Ending) (w' : World) : Prop :=
  Below w.heap.size w w' ∧ ∃ C k c q, e = .returned (.agg #[.bool false, .slice C k c]) ∧ MagAt w' C k c q ∧ Trm q ∧ k ≤ K
set_option maxRecDepth 100000 in
set_option maxHeartbeats 8000000 in
theorem gcd_any (na nb : Bool) (A B : Option Addr) (n c m d K : Nat) (a b : List Nat) (w : World) (hK : K ≤ 100000) (hn : n ≤ K) (hm : m ≤ K) (ha : MagAt w A n c a) (hb : MagAt w B m d b) :
    Calls Tryz.prog 38 #[.agg #[.bool na, .slice A n c], .agg #[.bool nb, .slice B m d]] w (GcdPost w K) := by
  obtain ⟨W, hW⟩ : ∃ W, W = ((w.alloc (.cells #[.bool na, .slice A n c] 50)).alloc (.cells #[.bool nb, .slice B m d] 50)).alloc (.cells #[.bool false, .slice none 0 0] 50) := ⟨_, rfl⟩
  obtain ⟨b0, b1, b2, bW, kW, hWs⟩ := boxes3 w _ _ _ _ _ _ hW
  have BW := Lib.hid bW
  have CR := Lib.hid b2
  have c0 : W.cell? ⟨w.heap.size, 1, none⟩ = some (.slice A n c) := by rw [b0.cell]; rfl
  have c1 : W.cell? ⟨w.heap.size + 1, 1, none⟩ = some (.slice B m d) := by rw [b1.cell]; rfl
  clear b0 b1 b2 bW
  have MA := Lib.hid (ha.keep kW)
  have MB := Lib.hid (hb.keep kW)
  have TLa : tlen a ≤ K := by have := tlen_le a; rw [ha.len] at this; omega
  have TLb : tlen b ≤ K := by have := tlen_le b; rw [hb.len] at this; omega
  clear ha hb kW
  have cA := call_q (w := W) (fun w' hk => trim_q A n c a w' (by omega) (MA.out.keep hk))
  have cB := call_q (w := W) (fun w' hk => trim_q B m d b w' (by omega) (MB.out.keep hk))
  have k0 := grown_cell c0
  have k1 := grown_cell c1
  go_enter Tryz.func38, Tryz.ntmps38
  go_upto_region 1 with fail
  rw [← hW]
  have HW := Lib.hid hW
  clear hW
  refine wp_region_q (by kernel_rfl) (by kernel_rfl) ?_
  repeat (go_big_quiet_step (first | with_reducible exact cA _ _ | with_reducible exact cB _ _))
  refine wpQuiet_nil ?_
  intro wq hgq
  have X0 := Lib.hid (MA.out.trim.keep (Keeps.of_below hgq (Nat.le_refl _)))
  have Y0 := Lib.hid (MB.out.trim.keep (Keeps.of_below hgq (Nat.le_refl _)))
  have HQ := Lib.hid (BW.out.trans (hgq.mono (by omega)))
  have CQ := Lib.hid (CR.out.below hgq (by omega))
  have VB : Hid (nv (trimN b) = nv b) := Lib.hid (nv_trim b)
  have hsz := hgq.size
  have hzq : w.heap.size + 3 ≤ wq.heap.size := by omega
  clear hgq cA cB k0 k1 c0 c1 HW
  have CQ2 : Hid (CellsAt wq (w.heap.size + 1 + 1) #[.bool false, .slice none 0 0] 50) := CQ
  go_wp2_with fail
  go_loopg [5, 6] (nv b) (fun g xv yv wr => ∃ X1 n1 c1 x Y1 m1 d1 y, xv = .slice X1 n1 c1 ∧ yv = .slice Y1 m1 d1 ∧ MagAt wr X1 n1 c1 x ∧ Trm x ∧ n1 ≤ K ∧ MagAt wr Y1 m1 d1 y ∧ Trm y ∧ m1 ≤ K ∧ nv y = g ∧ CellsAt wr (w.heap.size + 1 + 1) #[.bool false, .slice none 0 0] 50 ∧ Below w.heap.size w wr ∧ w.heap.size + 3 ≤ wr.heap.size)
  case atStart => exact ⟨A, tlen a, c, trimN a, B, tlen b, d, trimN b, rfl, rfl, X0.out, trimN_trm _, TLa, Y0.out, trimN_trm _, TLb, VB.out, CQ2.out, HQ.out, hzq⟩
  case round =>
    clear X0 Y0 HQ CQ CQ2 VB hsz hzq
    obtain ⟨X1, n1, c1, x, Y1, m1, d1, y, rfl, rfl, hx, tx, hn1, hy, ty, hm1, rfl, hcr, hb, hz⟩ := hrel
    rename World => wr
    have HB := Lib.hid hb
    have MX := Lib.hid hx
    have MY := Lib.hid hy
    have TX := Lib.hid tx
    have TY := Lib.hid ty
    have CR := Lib.hid hcr
    clear hb hx hy tx ty hcr
    by_cases h0 : m1 = 0
    · subst h0
      have cS := signed_any false X1 n1 c1 x wr (by omega) MX.out
      have TLX : Hid (tlen x = n1) := Lib.hid (by rw [← MX.out.len]; exact TX.out)
      rw [Bool.false_and, TLX.out] at cS
      go_wp2_with fail
      refine Calls.mono cS ?_
      rintro _ w5 ⟨rfl, hb5⟩
      have h2 := CR.out.below hb5 (by omega)
      have e0 : w5.cell? ⟨w.heap.size + 1 + 1, 0, none⟩ = some (.bool false) := by rw [h2.cell]; rfl
      have e1 : w5.cell? ⟨w.heap.size + 1 + 1, 1, none⟩ = some (.slice none 0 0) := by rw [h2.cell]; rfl
      have f0 := h2.frozen 0
      have f1 := h2.frozen 1
      have z := two_cells (u := .bool false) (v := .slice X1 n1 c1) e0 e1
      have HB5 := Lib.hid ((HB.out.trans (hb5.mono (by omega))).setCell (p := ⟨w.heap.size + 1 + 1, 0, none⟩) (by simp; omega) (.bool false) |>.setCell (p := ⟨w.heap.size + 1 + 1, 1, none⟩) (by simp; omega) (.slice X1 n1 c1))
      have MX5 : Hid (MagAt ((w5.setCell ⟨w.heap.size + 1 + 1, 0, none⟩ (.bool false)).setCell ⟨w.heap.size + 1 + 1, 1, none⟩ (.slice X1 n1 c1)) X1 n1 c1 x) := Lib.hid ((MX.out.keep (Keeps.of_below hb5 (Nat.le_refl _))).setTwo e0 e1 _ _)
      clear hb5 h2 cS
      go_wp2_with fail
      exact bodyPost_ret (v := .agg #[.bool false, .slice X1 n1 c1]) (by simp [results, Tryz.results38, go_sem, z.1, z.2]) rfl ⟨HB5.out, X1, n1, c1, x, rfl, MX5.out, TX.out, hn1⟩
    · have cD := divide_any X1 Y1 n1 c1 m1 d1 x y wr (by omega) (by omega) (by omega) MX.out MY.out TX.out TY.out
      have hm0 : (0 : Int) < (m1 : Int) := by omega
      go_wp2_with fail
      refine Calls.mono cD ?_
      rintro _ w5 ⟨hb5, C1, n5, c5, q5, C2, n6, c6, r6, rfl, -, -, hr6, tr6, vr6⟩
      have HB5 := Lib.hid (HB.out.trans (hb5.mono (by omega)))
      have CR5 := Lib.hid (CR.out.below hb5 (by omega))
      have MY5 := Lib.hid (MY.out.keep (Keeps.of_below hb5 (Nat.le_refl _)))
      have M6 := Lib.hid hr6
      have T6 := Lib.hid tr6
      have V6 := Lib.hid vr6
      have hl6 : n6 ≤ K := by
        have h1 := len_le_of MY.out.2.2 tr6 (Nat.le_of_lt vr6)
        rw [hr6.len, MY.out.len] at h1
        omega
      have hz5 := hb5.size
      have hz6 : w.heap.size + 3 ≤ w5.heap.size := by omega
      clear cD hb5 hr6 tr6 vr6
      go_wp2_with fail
      go_roundg (nv r6)
      case measure => exact V6.out
      case rel => exact ⟨Y1, m1, d1, y, C2, n6, c6, r6, rfl, rfl, MY5.out, TY.out, hm1, M6.out, T6.out, hl6, rfl, CR5.out, HB5.out, hz6⟩
end Go.Proofs.YtpdbekgkopglgaaGreat
namespace Go.Proofs.YtpdbekgkopglgaaGreat
set_option linter.unusedVariables false
set_option linter.unusedSimpArgs false
open Go.RowKit Go.Sort
attribute [local go_sem ↓] Go.wp_at_zero Go.wp_at_succ

def v01 (neg : Bool) (n : Nat) (l : List Nat) : Bool := decide (tlen l = n) && (!neg || decide (0 < n))
set_option maxRecDepth 100000 in
set_option maxHeartbeats 4000000 in
theorem valid01_any (neg : Bool) (A : Option Addr) (n c : Nat) (l : List Nat) (w : World) (hn : n ≤ 1000000) (h : MagAt w A n c l) :
    Calls Tryz.prog 35 #[.agg #[.bool neg, .slice A n c]] w fun e w' => e = .returned (.bool (v01 neg n l)) ∧ Below w.heap.size w w' := by
  obtain ⟨W, hW⟩ : ∃ W, W = w.alloc (.cells #[.bool neg, .slice A n c] 50) := ⟨_, rfl⟩
  have b0 : CellsAt W w.heap.size #[.bool neg, .slice A n c] 50 := by rw [hW]; exact CellsAt.new _ _ _
  have BW : Hid (Below w.heap.size w W) := Lib.hid (by rw [hW]; exact (Below.refl _ _).alloc (Nat.le_refl _) _)
  have hWs : W.heap.size = w.heap.size + 1 := by rw [hW]; simp
  have MA : Hid (MagAt W A n c l) := Lib.hid (by rw [hW]; exact h.keep (Keeps.alloc _ _))
  have c0 : W.cell? ⟨w.heap.size, 0, none⟩ = some (.bool neg) := by rw [b0.cell]; rfl
  have c1 : W.cell? ⟨w.heap.size, 1, none⟩ = some (.slice A n c) := by rw [b0.cell]; rfl
  have cT := call_q (w := W) (fun w' hk => trim_q A n c l w' hn (MA.out.keep hk))
  have EV : Hid (v01 neg n l = (decide (tlen l = n) && (!neg || decide (0 < n)))) := Lib.hid rfl
  clear h b0
  generalize v01 neg n l = v at *
  generalize tlen l = t at *
  have k0 := grown_cell c0
  have k1 := grown_cell c1
  clear c0 c1
  by_cases h1 : t = n
  · cases neg
    · have EV2 : Hid (v = true) := Lib.hid (by rw [EV.out, decide_eq_true h1]; rfl)
      have h1i : (t : Int) = (n : Int) := by omega
      subst h1
      clear EV h1i
      go_enter Tryz.func35, Tryz.ntmps35
      go_upto_region 1 with fail
      rw [← hW]
      have HW := Lib.hid hW
      clear hW
      refine wp_region_q (by kernel_rfl) (by kernel_rfl) ?_
      repeat (go_big_quiet_step (first | with_reducible exact cT _ _))
      refine wpQuiet_nil ?_
      intro wq hgq
      have HQ := Lib.hid (BW.out.trans (hgq.mono (by omega)))
      clear hgq cT k0 k1 HW
      go_wp2_with fail
      go_ret
      exact ⟨by rw [EV2.out]; rfl, HQ.out⟩
    · by_cases h2 : 0 < n
      · have EV2 : Hid (v = true) := Lib.hid (by rw [EV.out, decide_eq_true h1, decide_eq_true h2]; rfl)
        have h2i : (0 : Int) < (n : Int) := by omega
        subst h1
        clear EV
        go_enter Tryz.func35, Tryz.ntmps35
        go_upto_region 1 with fail
        rw [← hW]
        have HW := Lib.hid hW
        clear hW
        refine wp_region_q (by kernel_rfl) (by kernel_rfl) ?_
        repeat (go_big_quiet_step (first | with_reducible exact cT _ _))
        refine wpQuiet_nil ?_
        intro wq hgq
        have HQ := Lib.hid (BW.out.trans (hgq.mono (by omega)))
        clear hgq cT k0 k1 HW
        go_wp2_with fail
        go_ret
        exact ⟨by rw [EV2.out]; rfl, HQ.out⟩
      · have EV2 : Hid (v = false) := Lib.hid (by rw [EV.out, decide_eq_true h1, decide_eq_false h2]; rfl)
        have h2i : ¬ (0 : Int) < (n : Int) := by omega
        subst h1
        clear EV
        go_enter Tryz.func35, Tryz.ntmps35
        go_upto_region 1 with fail
        rw [← hW]
        have HW := Lib.hid hW
        clear hW
        refine wp_region_q (by kernel_rfl) (by kernel_rfl) ?_
        repeat (go_big_quiet_step (first | with_reducible exact cT _ _))
        refine wpQuiet_nil ?_
        intro wq hgq
        have HQ := Lib.hid (BW.out.trans (hgq.mono (by omega)))
        clear hgq cT k0 k1 HW
        go_wp2_with fail
        go_ret
        exact ⟨by rw [EV2.out]; rfl, HQ.out⟩
  · have EV2 : Hid (v = false) := Lib.hid (by rw [EV.out, decide_eq_false h1]; rfl)
    have h1i : decide ((t : Int) = (n : Int)) = false := decide_eq_false (by omega)
    have h1j : decide (t = n) = false := decide_eq_false h1
    have h1k : ((t : Int) == (n : Int)) = false := by rw [beq_eq_false_iff_ne]; omega
    clear EV
    go_enter Tryz.func35, Tryz.ntmps35
    go_upto_region 1 with fail
    rw [← hW]
    have HW := Lib.hid hW
    clear hW
    refine wp_region_q (by kernel_rfl) (by kernel_rfl) ?_
    repeat (go_big_quiet_step (first | with_reducible exact cT _ _))
    refine wpQuiet_nil ?_
    intro wq hgq
    have HQ := Lib.hid (BW.out.trans (hgq.mono (by omega)))
    clear hgq cT k0 k1 HW
    go_wp2_with fail
    go_ret
    exact ⟨by rw [EV2.out]; rfl, HQ.out⟩
def BoolPost (w : World) (e : Ending) (w' : World) : Prop := ∃ b, e = .returned (.bool b) ∧ Below w.heap.size w w'
theorem boolPost_ret {w w' : World} {b : Bool} (h : Below w.heap.size w w') : BoolPost w (.returned (.bool b)) w' := ⟨b, rfl, h⟩
set_option maxRecDepth 100000 in
set_option maxHeartbeats 4000000 in
theorem one_any (neg : Bool) (A : Option Addr) (n c : Nat) (l : List Nat) (w : World) (hn : n ≤ 1000000) (h : MagAt w A n c l) :
    Calls Tryz.prog 37 #[.agg #[.bool neg, .slice A n c]] w (BoolPost w) := by
  obtain ⟨W, hW⟩ : ∃ W, W = w.alloc (.cells #[.bool neg, .slice A n c] 50) := ⟨_, rfl⟩
  have b0 : CellsAt W w.heap.size #[.bool neg, .slice A n c] 50 := by rw [hW]; exact CellsAt.new _ _ _
  have BW : Hid (Below w.heap.size w W) := Lib.hid (by rw [hW]; exact (Below.refl _ _).alloc (Nat.le_refl _) _)
  have MA : MagAt W A n c l := by rw [hW]; exact h.keep (Keeps.alloc _ _)
  have d0 : W.cell? ⟨w.heap.size, 0, none⟩ = some (.bool neg) := by rw [b0.cell]; rfl
  have d1 : W.cell? ⟨w.heap.size, 1, none⟩ = some (.slice A n c) := by rw [b0.cell]; rfl
  clear h b0
  by_cases h1 : n = 1
  · subst h1
    obtain ⟨ad, rfl, -, c0⟩ := MA.1.us_at (by omega : 0 < 1)
    have h9 : ad.add 0 = ad := by unfold Addr.add; simp
    rw [h9] at c0
    clear MA h9
    generalize l.getD 0 0 = x at *
    by_cases hx : x = 1
    · subst hx
      go_enter Tryz.func37, Tryz.ntmps37
      go_upto_region 1 with fail
      rw [← hW]
      clear hW
      go_wp2_with fail
      go_ret
      exact boolPost_ret BW.out
    · have hxi : ¬ (x : Int) = 1 := by omega
      have hxd : decide ((x : Int) = 1) = false := decide_eq_false hxi
      go_enter Tryz.func37, Tryz.ntmps37
      go_upto_region 1 with fail
      rw [← hW]
      clear hW
      go_wp2_with fail
      go_ret
      exact boolPost_ret BW.out
  · have h1i : ¬ (n : Int) = 1 := by omega
    have h1d : decide ((n : Int) = 1) = false := decide_eq_false h1i
    clear MA
    go_enter Tryz.func37, Tryz.ntmps37
    go_upto_region 1 with fail
    rw [← hW]
    clear hW
    go_wp2_with fail
    go_ret
    exact boolPost_ret BW.out
/-- A fraction in memory. -/
structure RatAt (w : World) (A : Option Addr) (n c : Nat) (a : List Nat) (B : Option Addr) (m d : Nat) (b : List Nat) : Prop where
  num : MagAt w A n c a
  den : MagAt w B m d b
theorem RatAt.keep {w w' : World} {A B : Option Addr} {n c m d : Nat} {a b : List Nat} (h : RatAt w A n c a B m d b) (k : Keeps w w') : RatAt w' A n c a B m d b := ⟨h.num.keep k, h.den.keep k⟩
def ratV (na : Bool) (A : Option Addr) (n c : Nat) (nb : Bool) (B : Option Addr) (m d : Nat) : Value := .agg #[.bool na, .slice A n c, .bool nb, .slice B m d]
set_option maxRecDepth 100000 in
set_option maxHeartbeats 4000000 in
theorem sign02_any (na nb : Bool) (A B : Option Addr) (n c m d : Nat) (a b : List Nat) (w : World) (hn : n ≤ 100000) (hm : m ≤ 100000) (h : RatAt w A n c a B m d b) :
    Calls Tryz.prog 19 #[ratV na A n c nb B m d] w fun e w' => e = .returned (.int .i64 (sgnI na (tlen a))) ∧ Below w.heap.size w w' := by
  have cS := sign_any na A n c a (w.alloc (.cells #[.bool na, .slice A n c, .bool nb, .slice B m d] 52)) (by omega) (h.num.keep (Keeps.alloc _ _))
  unfold ratV
  generalize sgnI na (tlen a) = v at *
  clear h
  go_enter Tryz.func19, Tryz.ntmps19
  go_wp2_with fail
  refine Calls.mono cS ?_
  rintro _ w2 ⟨rfl, hb⟩
  have HB : Hid (Below w.heap.size w w2) := Lib.hid (((Below.refl _ _).alloc (Nat.le_refl _) _).trans (hb.mono (by simp)))
  clear cS hb
  go_wp2_with fail
  go_ret
  exact ⟨rfl, HB.out⟩
set_option maxRecDepth 100000 in
set_option maxHeartbeats 8000000 in
theorem valid02_any (na nb : Bool) (A B : Option Addr) (n c m d : Nat) (a b : List Nat) (w : World) (hn : n ≤ 100000) (hm : m ≤ 100000) (h : RatAt w A n c a B m d b) :
    Calls Tryz.prog 17 #[ratV na A n c nb B m d] w (BoolPost w) := by
  unfold ratV
  obtain ⟨W, hW⟩ : ∃ W, W = w.alloc (.cells #[.bool na, .slice A n c, .bool nb, .slice B m d] 52) := ⟨_, rfl⟩
  have B0 : Hid (CellsAt W w.heap.size #[.bool na, .slice A n c, .bool nb, .slice B m d] 52) := Lib.hid (by rw [hW]; exact CellsAt.new _ _ _)
  have BW : Hid (Below w.heap.size w W) := Lib.hid (by rw [hW]; exact (Below.refl _ _).alloc (Nat.le_refl _) _)
  have hWs : W.heap.size = w.heap.size + 1 := by rw [hW]; simp
  have H0 : Hid (RatAt W A n c a B m d b) := Lib.hid (by rw [hW]; exact h.keep (Keeps.alloc _ _))
  have KW : Hid (∀ w', Below W.heap.size W w' → RatAt w' A n c a B m d b ∧ w'.cell? ⟨w.heap.size, 0, none⟩ = some (.bool na) ∧ w'.cell? ⟨w.heap.size, 1, none⟩ = some (.slice A n c) ∧ w'.cell? ⟨w.heap.size, 2, none⟩ = some (.bool nb) ∧ w'.cell? ⟨w.heap.size, 3, none⟩ = some (.slice B m d) ∧ Below w.heap.size w w' ∧ W.heap.size ≤ w'.heap.size) := Lib.hid fun w' hb => by
    have h2 := B0.out.below hb (by omega)
    exact ⟨H0.out.keep (Keeps.of_below hb (Nat.le_refl _)), by rw [h2.cell]; rfl, by rw [h2.cell]; rfl, by rw [h2.cell]; rfl, by rw [h2.cell]; rfl, BW.out.trans (hb.mono (by omega)), hb.size⟩
  clear h B0 BW H0
  have X0 : Hid (Below W.heap.size W W) := Lib.hid (Below.refl _ _)
  obtain ⟨r0, d0, d1, d2, d3, -, -⟩ := KW.out W X0.out
  have c1 := valid01_any na A n c a W (by omega) r0.num
  generalize v01 na n a = v1 at *
  clear r0
  go_enter Tryz.func17, Tryz.ntmps17
  go_upto_region 1 with fail
  rw [← hW]
  have HW := Lib.hid hW
  clear hW
  go_wp2_with fail
  refine Calls.mono c1 ?_
  rintro _ w1 ⟨rfl, hb1⟩
  have X1 := Lib.hid (X0.out.trans hb1)
  clear c1 hb1 d0 d1 d2 d3
  obtain ⟨r1, d0, d1, d2, d3, hB1, hz1⟩ := KW.out w1 X1.out
  have HB1 := Lib.hid hB1
  clear hB1
  cases v1
  · clear r1
    go_wp2_with fail
    go_ret
    exact boolPost_ret HB1.out
  have c2 := valid01_any nb B m d b w1 (by omega) r1.den
  generalize v01 nb m b = v2 at *
  clear r1
  go_wp2_with fail
  refine Calls.mono c2 ?_
  rintro _ w2 ⟨rfl, hb2⟩
  have X2 := Lib.hid (X1.out.trans (hb2.mono hz1))
  clear c2 hb2 d0 d1 d2 d3 HB1
  obtain ⟨r2, d0, d1, d2, d3, hB2, hz2⟩ := KW.out w2 X2.out
  have HB2 := Lib.hid hB2
  clear hB2
  cases v2
  · clear r2
    go_wp2_with fail
    go_ret
    exact boolPost_ret HB2.out
  have c3 := sign_any nb B m d b w2 (by omega) r2.den
  generalize sgnI nb (tlen b) = v3 at *
  clear r2
  go_wp2_with fail
  refine Calls.mono c3 ?_
  rintro _ w3 ⟨rfl, hb3⟩
  have X3 := Lib.hid (X2.out.trans (hb3.mono hz2))
  clear c3 hb3 d0 d1 d2 d3 HB2
  obtain ⟨r3, d0, d1, d2, d3, hB3, hz3⟩ := KW.out w3 X3.out
  have HB3 := Lib.hid hB3
  clear hB3
  by_cases hv3 : 0 < v3
  · have c4 := gcd_any na nb A B n c m d (max n m) a b w3 (by omega) (by omega) (by omega) r3.num r3.den
    clear r3
    go_wp2_with fail
    refine Calls.mono c4 ?_
    rintro _ w4 ⟨hb4, C4, k4, e4, q4, rfl, hm4, ht4, hk4⟩
    have c5 := one_any false C4 k4 e4 q4 w4 (by omega) hm4
    have HB4 := Lib.hid (HB3.out.trans (hb4.mono (by have := HB3.out.size; omega)))
    have hz4 := HB4.out.size
    clear c4 hb4 hm4 ht4 d0 d1 d2 d3
    go_wp2_with fail
    refine Calls.mono c5 ?_
    rintro _ w5 ⟨b5, rfl, hb5⟩
    have HB5 := Lib.hid (HB4.out.trans (hb5.mono hz4))
    clear c5 hb5
    go_wp2_with fail
    go_ret
    exact boolPost_ret HB5.out
  · clear r3
    go_wp2_with fail
    go_ret
    exact boolPost_ret HB3.out
end Go.Proofs.YtpdbekgkopglgaaGreat
