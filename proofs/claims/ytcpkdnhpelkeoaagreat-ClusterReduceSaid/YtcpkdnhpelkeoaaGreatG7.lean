/-
  slices.Compact and slices.Clone at pairs.
-/
import Derived.Test.YtcpkdnhpelkeoaaGreatSpecL
import Derived.Test.YtcpkdnhpelkeoaaGreatG6
import Derived.Test.YtcpkdnhpelkeoaaGreatOwnP
namespace Go.Proofs.YtcpkdnhpelkeoaaGreat
set_option linter.unusedVariables false
set_option linter.unusedSimpArgs false
open Go.RowKit Go.Sort

def CompInv (l m : List (Int × Int)) (K kk : Nat) : Prop := kk = (cptK l K).length ∧ kk < K ∧ K ≤ l.length ∧ m.length = l.length ∧ m.take kk = cptK l K ∧ ∀ j, K - 1 ≤ j → PAt m j = PAt l j
theorem CompInv.start {l : List (Int × Int)} {k : Nat} (h : ∀ j, j < k → j = 0 ∨ PAt l j ≠ PAt l (j - 1)) (hk : k < l.length) (h0 : 1 ≤ k) (he : PAt l k = PAt l (k - 1)) : CompInv l l (k + 1) k := by
  have e1 : cptK l (k + 1) = l.take k := by rw [cptK_skip (fun h' => h'.elim (fun h'' => by omega) (fun h'' => h'' he)), cptK_all k (by omega) h]
  refine ⟨by rw [e1, List.length_take]; omega, by omega, by omega, rfl, e1.symm, fun _ _ => rfl⟩
theorem CompInv.skip {l m : List (Int × Int)} {K kk : Nat} (h : CompInv l m K kk) (hK : K < l.length) (he : PAt l K = PAt l (K - 1)) : CompInv l m (K + 1) kk := by
  obtain ⟨h1, h2, h3, h4, h5, h6⟩ := h
  have e1 : cptK l (K + 1) = cptK l K := cptK_skip (fun h' => h'.elim (fun h'' => by omega) (fun h'' => h'' he))
  exact ⟨by rw [e1]; exact h1, by omega, by omega, h4, by rw [e1]; exact h5, fun j hj => h6 j (by omega)⟩
theorem CompInv.keep {l m : List (Int × Int)} {K kk : Nat} (h : CompInv l m K kk) (hK : K < l.length) (he : PAt l K ≠ PAt l (K - 1)) : CompInv l (m.set kk (PAt l K)) (K + 1) (kk + 1) := by
  obtain ⟨h1, h2, h3, h4, h5, h6⟩ := h
  have e1 : cptK l (K + 1) = cptK l K ++ [PAt l K] := cptK_keep (.inr he)
  refine ⟨by rw [e1, List.length_append, ← h1]; rfl, by omega, by omega, by simpa using h4, ?_, fun j hj => ?_⟩
  · rw [e1, List.take_succ_eq_append_getElem (by simp; omega), List.take_set_of_le (Nat.le_refl _), h5]
    simp
  · have := h6 j (by omega)
    unfold PAt at this ⊢
    rw [← this, List.getD_eq_getElem?_getD, List.getElem?_set_ne (by omega), List.getD_eq_getElem?_getD]

def CptPost (w : World) (base : Nat) (A : Option Addr) (c : Nat) (l : List (Int × Int)) (e : Ending) (w' : World) : Prop :=
  e = .returned (.slice A (cptL l).length c) ∧ Own w' base 28 2 A (cptL l).length c (prs (cptL l)) ∧ w.grownBy w' (blk A)
set_option maxRecDepth 100000 in
set_option maxHeartbeats 8000000 in
theorem compact_own (A : Option Addr) (n c : Nat) (l : List (Int × Int)) (w : World) (base : Nat) (ho : Own w base 28 2 A n c (prs l)) (hn : n ≤ 1000000) :
    Calls Tryz.prog 75 #[.slice A n c] w (CptPost w base A c l) := by
  have hl := ho.plen
  have hcap := ho.cap
  have EQ := eqPair
  by_cases h2 : n < 2
  · have e1 : cptL l = l := by
      unfold cptL; rw [cptK_all _ (Nat.le_refl _) (fun j hj => .inl (by omega)), List.take_length]
    have OWN := Lib.hid ho
    have E1 := Lib.hid e1
    have HL := Lib.hid hl
    clear ho e1 hl
    go_enter Tryz.func75, Tryz.ntmps75
    go_wp2
    go_ret
    exact ⟨ret_slice (by rw [E1.out, HL.out]), by rw [E1.out, HL.out]; exact OWN.out, World.grownBy.refl _ _⟩
  · obtain ⟨g, rfl, hg1, hg2⟩ := ho.some_ (by omega)
    have OWN := Lib.hid ho
    have HL := Lib.hid hl
    clear ho hl
    go_enter Tryz.func75, Tryz.ntmps75
    go_wp2
    go_loopw [3] (fun i wr => ∃ k : Nat, 1 ≤ k ∧ k ≤ n ∧ i = .int .i64 k ∧ Own wr base 28 2 (some ⟨g, 0, none⟩) n c (prs l) ∧ w.grownBy wr (some g) ∧ ∀ j, j < k → j = 0 ∨ PAt l j ≠ PAt l (j - 1)) (fun i _ => n - (intOf i).toNat)
    case atStart => exact ⟨1, Nat.le_refl _, by omega, rfl, OWN.out, World.grownBy.refl _ _, fun j hj => .inl (by omega)⟩
    case round =>
      obtain ⟨k, hk1, hk, rfl, ho, hgr, hok⟩ := hrel
      have OW := Lib.hid ho
      have HG := Lib.hid hgr
      have HOK := Lib.hid hok
      clear ho hgr hok
      by_cases hlt : k < n
      · obtain ⟨c0, c1⟩ := OW.out.pr_at hlt
        obtain ⟨d0, d1⟩ := OW.out.pr_at (k := k - 1) (by omega)
        generalize hxy : PAt l k = xy at c0 c1
        obtain ⟨x, y⟩ := xy
        generalize hpq : PAt l (k - 1) = pq at d0 d1
        obtain ⟨p, q⟩ := pq
        simp only at c0 c1 d0 d1
        have HXY := Lib.hid hxy
        have HPQ := Lib.hid hpq
        have k0 := grown_cell c0
        have k1 := grown_cell c1
        have l0 := grown_cell d0
        have l1 := grown_cell d1
        clear hxy hpq
        by_cases hdup : (x == p && y == q) = true
        · simp only [Bool.and_eq_true] at hdup
          obtain ⟨h1, h3⟩ := hdup
          have HD : Hid (PAt l k = PAt l (k - 1)) := by
            unfold Hid; rw [HXY.out, HPQ.out]; rw [beq_iff_eq] at h1 h3; rw [h1, h3]
          have hkc : k < c := by omega
          go_wp2
          refine wp_region_q (by kernel_rfl) (by kernel_rfl) ?_
          repeat (go_big_quiet_step (fail))
          refine wpQuiet_nil ?_
          intro wq hgq
          clear k0 k1 l0 l1 c0 c1 d0 d1
          go_wp2
          go_loopw [3, 5] (fun s3 s5 w2 => ∃ (kk k2 : Nat) (m : List (Int × Int)), s3 = .int .i64 kk ∧ s5 = .int .i64 k2 ∧ 1 ≤ k2 ∧ k + k2 ≤ n ∧ Own w2 base 28 2 (some ⟨g, 0, none⟩) n c (prs m) ∧ w.grownBy w2 (some g) ∧ CompInv l m (k + k2) kk) (fun _ s5 _ => n - (intOf s5).toNat)
          case atStart => exact ⟨k, 1, l, rfl, rfl, Nat.le_refl _, by omega, OW.out.later hgq, HG.out.trans (grownBy_of_below hgq), CompInv.start HOK.out (by rw [HL.out]; exact hlt) hk1 HD.out⟩
          case round =>
            obtain ⟨kk, k2, m, rfl, rfl, hk21, hk2, ho2, hg2, hI⟩ := hrel
            have hkk := hI.2.1
            have O2 := Lib.hid ho2
            have G2 := Lib.hid hg2
            have II := Lib.hid hI
            clear ho2 hg2 hI
            by_cases hlt2 : k + k2 < n
            · obtain ⟨c0, c1⟩ := O2.out.pr_at hlt2
              obtain ⟨d0, d1⟩ := O2.out.pr_at (k := k + k2 - 1) (by omega)
              obtain ⟨s0, s1⟩ := O2.out.pr_at (k := kk) (by omega)
              rw [II.out.2.2.2.2.2 (k + k2) (by omega), show (k + k2) * 2 = k * 2 + k2 * 2 by omega] at c0 c1
              rw [II.out.2.2.2.2.2 (k + k2 - 1) (by omega), show (k + k2 - 1) * 2 = k * 2 + (k2 - 1) * 2 by omega] at d0 d1
              generalize PAt m kk = old at s0 s1
              generalize hxy2 : PAt l (k + k2) = xy2 at c0 c1
              obtain ⟨u, v⟩ := xy2
              generalize hpq2 : PAt l (k + k2 - 1) = pq2 at d0 d1
              obtain ⟨u', v'⟩ := pq2
              simp only at c0 c1 d0 d1
              have HUV := Lib.hid hxy2
              have HUV' := Lib.hid hpq2
              have k0 := grown_cell c0
              have k1 := grown_cell c1
              have l0 := grown_cell d0
              have l1 := grown_cell d1
              clear hxy2 hpq2
              have f0 := O2.out.frozen (kk * 2)
              have f1 := O2.out.frozen (kk * 2 + 1)
              cases e1 : (u == u') <;> cases e2 : (v == v')
              all_goals
                go_wp2
                refine wp_region_q (by kernel_rfl) (by kernel_rfl) ?_
                repeat (go_big_quiet_step (fail))
                refine wpQuiet_nil ?_
                intro wq hgq
              all_goals
                have c0 := Keeps.of_below hgq (Nat.le_refl _) _ _ c0
                have c1 := Keeps.of_below hgq (Nat.le_refl _) _ _ c1
                have s0 := Keeps.of_below hgq (Nat.le_refl _) _ _ s0
                have s1 := Keeps.of_below hgq (Nat.le_refl _) _ _ s1
                have O3 := Lib.hid (O2.out.later hgq)
                have f0 := O3.out.frozen (kk * 2)
                have f1 := O3.out.frozen (kk * 2 + 1)
                go_wp2
              all_goals first
                | (go_roundw
                   case rel => exact ⟨kk, k2 + 1, m, rfl, by go_num, by omega, by omega, O3.out, G2.out.trans (grownBy_of_below hgq), II.out.skip (by rw [HL.out]; exact hlt2) (by rw [HUV.out, HUV'.out]; rw [beq_iff_eq] at e1 e2; rw [e1, e2])⟩
                   case measure => simp [intOf]; omega)
                | (go_roundw
                   case rel => exact ⟨kk + 1, k2 + 1, m.set kk (u, v), by go_num, by go_num, by omega, by omega, (O3.out.store2 kk u v).1, (G2.out.trans (grownBy_of_below hgq)).trans (O3.out.store2 kk u v).2, by
                     have := II.out.keep (by rw [HL.out]; exact hlt2) (by rw [HUV.out, HUV'.out]; intro h; injection h with h3 h4; simp [h3, h4] at e1 e2)
                     rw [HUV.out] at this
                     exact this⟩
                   case measure => simp [intOf]; omega)
            · have hend : k + k2 = n := by omega
              have hfin : (cptL l).length = kk ∧ m.take kk = cptL l := by
                have := II.out
                rw [hend] at this
                unfold cptL; rw [HL.out]
                exact ⟨this.1.symm, this.2.2.2.2.1⟩
              have HF := Lib.hid hfin
              obtain ⟨w5, hcl, ho5, hg5⟩ := clear_pairs O2.out kk (n - kk) (c - kk) (by omega) (by omega)
              have O5 := Lib.hid ho5
              have G5 := Lib.hid hg5
              clear hfin ho5 hg5
              have hkc2 : kk < c := by omega
              go_wp2
              go_ret
              exact ⟨ret_slice HF.out.1.symm, by rw [HF.out.1, ← HF.out.2]; exact O5.out, G2.out.trans G5.out⟩
        · have HD : Hid (PAt l k ≠ PAt l (k - 1)) := by
            unfold Hid; rw [HXY.out, HPQ.out]; intro h; injection h with h3 h4; exact hdup (by simp [h3, h4])
          have hdup : (x == p && y == q) = false := by simpa using hdup
          go_wp2
          refine wp_region_q (by kernel_rfl) (by kernel_rfl) ?_
          repeat (go_big_quiet_step (fail))
          refine wpQuiet_nil ?_
          intro wq hgq
          go_wp2
          go_roundw
          case rel => exact ⟨k + 1, by omega, by omega, by go_num, OW.out.later hgq, HG.out.trans (grownBy_of_below hgq), fun j hj => by
            by_cases e : j = k
            · subst e; exact .inr HD.out
            · exact HOK.out j (by omega)⟩
          case measure => simp [intOf]; omega
      · obtain rfl : k = n := by omega
        have e1 : cptL l = l := by
          unfold cptL; rw [HL.out, cptK_all _ (by rw [HL.out]; exact Nat.le_refl _) HOK.out, List.take_of_length_le (by rw [HL.out]; exact Nat.le_refl _)]
        have E1 := Lib.hid e1
        clear e1
        go_wp2
        go_ret
        exact ⟨ret_slice (by rw [E1.out, HL.out]), by rw [E1.out, HL.out]; exact OW.out, HG.out⟩

set_option maxHeartbeats 1000000 in
theorem clone_any (A : Option Addr) (n c : Nat) (l : List (Int × Int)) (w : World) (he : Rd w 2 A n (prs l)) (hn : n ≤ 1000000) :
    Calls Tryz.prog 73 #[.slice A n c] w (PrsPost w l) := by
  have HL := Lib.hid he.prs_len
  have H1 := Lib.hid he
  clear he
  have hnil := fun (a : Option Addr) (W : World) => Lib.run_eql_slice_nil (P := Tryz.prog) W 29 28 a n c 0 0 Tryz.underlying29
  cases A with
  | none =>
    have hn0 : n = 0 := by
      rcases Nat.eq_zero_or_pos n with h | h
      · exact h
      · obtain ⟨ad, h', _⟩ := H1.out.2 h; cases h'
    have hl0 : l = [] := List.eq_nil_of_length_eq_zero (by rw [HL.out, hn0])
    have HL0 := Lib.hid hl0
    clear hl0 hn0
    go_enter Tryz.func73, Tryz.ntmps73
    go_wp2
    go_ret
    exact ⟨Below.refl _ _, none, 0, by rw [HL0.out]; rfl, by rw [HL0.out]; exact Own.nil _ _ _ _⟩
  | some ad =>
    go_enter Tryz.func73, Tryz.ntmps73
    go_wp2_with (at_builtin; refine wpList_app _ rfl (.tmp 5) (.tmp 6) 29 rfl w.heap.size 28 (.agg #[.int .i64 0, .int .i64 0]) 2 16 Tryz.underlying29 info_pair rfl (by decide) (some ⟨w.heap.size, 0, none⟩) 0 0 [] rfl (own_empty _ _ _) (some ad) n c (prs l) rfl (H1.out.keep (Keeps.alloc _ _)) (prs_one _) (by omega) (by unfold maxLen; omega) (by simp) ?_; intro B4 c4 w4 ho4 hg4 hb4; have OWN4 := Lib.hid ho4; have S3 : Hid (Below w.heap.size w w4) := (((Below.refl _ _).alloc (Nat.le_refl _) _).grown hg4 (by simp) (fun b hb => Nat.le_of_eq (by injection hb))); clear ho4 hg4 hb4)
    go_ret
    refine ⟨S3.out, B4, c4, ret_slice (by rw [HL.out]), ?_⟩
    have := OWN4.out
    rw [Nat.zero_add, List.nil_append] at this
    rw [HL.out]; exact this
end Go.Proofs.YtcpkdnhpelkeoaaGreat
