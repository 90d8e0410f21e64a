/-
  setsquareref35.right and sparsity.Sparse: for every graph and every lists in memory.
-/
import Derived.Test.YtohmafmdpajmlaaW2
import Derived.Test.YtohmafmdpajmlaaSpecB
import Derived.Deep.OwnRows
namespace Go.Proofs.Ytohmafmdpajmlaa
set_option linter.unusedVariables false
set_option linter.unusedSimpArgs false
open Go.RowKit Go.Sort

theorem info_int : (Try.prog.info? 3).map (fun i => (i.zero, i.size, i.bytes)) = some (some (.int .i64 0), 1, 8) := by kernel_rfl

set_option maxHeartbeats 1000000 in
theorem right_any (M : Nat) (A L : Option Addr) (m cm n cl i : Nat) (es : List (Int × Int)) (l : List Int) (w : World) (hm : m ≤ 100) (hn : n ≤ 4611686018427387904) (he : Rd w 2 A m (prs es)) (hl : Rd w 1 L n (ints l)) (hv : validB M es = true) (hi : i < m) :
    Calls Try.prog 32 #[.agg #[.int .i64 M, .slice A m cm], .int .i64 i, .slice L n cl] w fun e w' => e = .returned (.bool (rightB es i l)) ∧ Below w.heap.size w w' := by
  have hM : (M : Int) ≤ 60 := ((validB_iff M es).1 hv).2.1
  have HE := Lib.hid he.prs_len
  have HL := Lib.hid hl.int_len
  have HV := Lib.hid hv
  have H1 := Lib.hid he
  have H2 := Lib.hid hl
  clear he hl hv
  by_cases hlen : n = m + 3
  · subst hlen
    have hmk := run_make_row' (P := Try.prog) 30 3 (.int .i64 0) 8 Try.underlying30 info_int rfl .i64 .i64 M (by omega) (by omega)
    go_enter Try.func32, Try.ntmps32
    go_wp2
    clear hmk
    go_loopw [9, 10] (fun iv _ wr => ∃ k : Nat, k ≤ m + 3 ∧ iv = .int .i64 k ∧ (∀ j, j < k → rightAt es i l j = true) ∧ Below w.heap.size w wr ∧ w.heap.size + 2 ≤ wr.heap.size ∧ wr.cell? ⟨w.heap.size, 0, none⟩ = some (.int .i64 M) ∧
        wr.cell? ⟨w.heap.size, 1, none⟩ = some (.slice A m cm) ∧ wr.rowIs (w.heap.size + 1) 3 M (fun v => .int .i64 (cnt (l.take k) v)))
      (fun iv _ _ => m + 3 - (intOf iv).toNat)
    case atStart => exact ⟨0, Nat.zero_le _, rfl, by omega, ((Below.refl _ _).alloc (Nat.le_refl _) _).alloc (by simp) _, by simp, by simp, by simp, by have h := World.rowIs_made (w.alloc (.cells #[.int .i64 M, .slice A m cm] 24)) (.int .i64 0) M 3; simpa [cnt] using h⟩
    case round =>
      obtain ⟨k, hk, rfl, hok, hbw, gs, g0, g1, hrow⟩ := hrel
      have HOK := Lib.hid hok
      have HB := Lib.hid hbw
      have HR := Lib.hid hrow
      clear hok hbw hrow
      by_cases hlt : k < m + 3
      · obtain ⟨adl, rfl, -, ct⟩ := (H2.out.keep (Keeps.of_below HB.out (Nat.le_refl _))).int_at hlt
        obtain ⟨ad, rfl, ci0, ci1⟩ := (H1.out.keep (Keeps.of_below HB.out (Nat.le_refl _))).prs_at hi
        generalize ht : l.getD k 0 = t at ct
        have HT := Lib.hid ht
        clear ht
        have gs' : w.heap.size < wr.heap.size := by omega
        have gs2 : w.heap.size + 1 < wr.heap.size := by omega
        have hends := edgeOf_ends HV.out (i := i) (k := k) (by rw [HE.out]; exact hi)
        generalize hx : (edgeOf es i k).1 = x at hends
        generalize hy : (edgeOf es i k).2 = y at hends
        have HX := Lib.hid hx
        have HY := Lib.hid hy
        clear hx hy
        by_cases hkm : k < m
        case' pos =>
          obtain ⟨ad', e', ck0, ck1⟩ := (H1.out.keep (Keeps.of_below HB.out (Nat.le_refl _))).prs_at hkm
          obtain rfl : ad = ad' := by injection e'
          clear e'
          rw [← edgeOf_lt (i := i) (by rw [HE.out]; exact hkm), HX.out] at ck0
          rw [← edgeOf_lt (i := i) (by rw [HE.out]; exact hkm), HY.out] at ck1
          generalize (es.getD i (0, 0)).1 = xi at ci0
          generalize (es.getD i (0, 0)).2 = yi at ci1
          have ck0' := fun o => Keeps.alloc wr o _ _ ck0
          have ck1' := fun o => Keeps.alloc wr o _ _ ck1
          go_wp2
          clear ck0' ck1' ck0 ck1 ci0 ci1
        case' neg =>
          rw [← edgeOf_ge (i := i) (by rw [HE.out]; exact hkm), HX.out] at ci0
          rw [← edgeOf_ge (i := i) (by rw [HE.out]; exact hkm), HY.out] at ci1
          go_wp2
          clear ci0 ci1
        all_goals
          have kt := grown_cell (Keeps.alloc wr (.cells #[.int .i64 x, .int .i64 y] 43) _ _ ct)
          have kx := grown_cell (w := (wr.alloc (.cells #[.int .i64 x, .int .i64 y] 43))) (a := ⟨wr.heap.size, 0, none⟩) (v := .int .i64 x) (by simp)
          have ky := grown_cell (w := (wr.alloc (.cells #[.int .i64 x, .int .i64 y] 43))) (a := ⟨wr.heap.size, 1, none⟩) (v := .int .i64 y) (by simp)
          refine wp_region_q (by kernel_rfl) (by kernel_rfl) ?_
          by_cases hno : t ≠ x ∧ t ≠ y
          · obtain ⟨hn1, hn2⟩ := hno
            have hn1' : (t != x) = true := by simpa using hn1
            have hn2' : (t != y) = true := by simpa using hn2
            repeat (go_big_quiet_step (fail))
            refine wpQuiet_nil ?_
            intro wq hgq
            go_wp2
            go_ret
            exact ⟨ret_bool (rightB_no (by rw [HL.out]; exact hlt) (rightAt_of_no (tailAt_no HX.out HY.out HT.out hn1 hn2))).symm, (HB.out.alloc (by omega) _).trans (hgq.mono (by simp; omega))⟩
          have hin : t = x ∨ t = y := by omega
          obtain ⟨T, rfl⟩ : ∃ T : Nat, t = T := ⟨t.toNat, by omega⟩
          have hTM : T < M := by omega
          by_cases htx : (T : Int) = x
          case' pos =>
            have hn1' : ((T : Int) != x) = false := by simpa using htx
            have HTX := Lib.hid htx
            clear htx
            repeat (go_big_quiet_step (fail))
            refine wpQuiet_nil ?_
            intro wq hgq
          case' neg =>
            have hn1' : ((T : Int) != x) = true := by simpa using htx
            have hn2' : ((T : Int) != y) = false := by simp; omega
            repeat (go_big_quiet_step (fail))
            refine wpQuiet_nil ?_
            intro wq hgq
          all_goals
            go_wp2
            have hsz : wr.heap.size + 1 ≤ wq.heap.size := by have := hgq.size; simpa using this
            have K1 : Keeps wr wq := (Keeps.alloc wr _).trans (Keeps.of_below hgq (Nat.le_refl _))
            have hR1 : wq.rowIs (w.heap.size + 1) 3 M (fun v => .int .i64 (cnt (l.take k) v)) := (HR.out.alloc _).of_block (hgq.block _ (by simp; omega))
            have hB1 : Below w.heap.size w wq := (HB.out.alloc (by omega) _).trans (hgq.mono (by simp; omega))
            have hq0 := cnt_nonneg (l.take k) T
            have hq1 := Int.le_trans (cnt_le (l.take k) T) (Int.ofNat_le.2 (List.length_take_le k l))
            have dt := K1 _ _ ct
            have do1 := hR1.cell hTM
            generalize hq : cnt (l.take k) (T : Int) = q at hq0 hq1 do1
            have HQ := Lib.hid hq
            have KK := Lib.hid K1
            have HR1 := Lib.hid hR1
            have HB1 := Lib.hid hB1
            clear hq K1 hR1 hB1 kt kx ky hgq ct
            have kt := grown_cell dt
            have ko := grown_cell do1
            refine wp_region_qt 14 (by kernel_rfl) (by kernel_rfl) ?_
            simp only [List.take_succ_cons, List.take_zero, List.drop_succ_cons, List.drop_zero]
            repeat (go_big_quiet_step (fail))
            refine wpQuiet_nil ?_
            intro wp hgp
            have KP : Keeps wq wp := Keeps.of_below hgp (Nat.le_refl _)
            have hsz2 : wq.heap.size ≤ wp.heap.size := hgp.size
            have hR2 := HR1.out.of_block (hgp.block _ (by omega))
            have eo := KP _ _ do1
            have ef : wp.frozen? ⟨w.heap.size + 1, T, none⟩ = false := hR2.frozen _
            have hadl : (adl.add k).block < w.heap.size := by
              obtain ⟨ad', e', -, h⟩ := H2.out.int_at hlt
              have e'' : adl = ad' := by injection e'
              rw [e'']; exact World.block_lt_of_cell? w _ h
            have et : ∀ v, (wp.setCell ⟨w.heap.size + 1, T, none⟩ v).cell? (adl.add k) = some (.int .i64 T) := fun v => by
              rw [World.cell?_setCell_other _ _ _ _ (fun e => by rw [← e] at hadl; simp at hadl; omega)]; exact KP _ _ dt
            have HR2 := Lib.hid hR2
            have HBP : Hid (Below w.heap.size w (wp.setCell ⟨w.heap.size + 1, T, none⟩ (.int .i64 (q + 1)))) := (HB1.out.trans (hgp.mono (by omega))).setCell (by simp) _
            have HKP : Hid (Keeps wr wp) := KK.out.trans KP
            clear hR2 KP hgp kt ko
            by_cases h2 : 2 < q + 1
            · go_wp2
              go_ret
              exact ⟨ret_bool (rightB_no (by rw [HL.out]; exact hlt) (by rw [rightAt_of_yes (by rw [HL.out]; exact hlt) (tailAt_yes HX.out HY.out HT.out hin) HT.out HQ.out]; simp; omega)).symm, HBP.out⟩
            · go_wp2
              go_roundw
              case rel => exact ⟨k + 1, by omega, by go_num, rightAt_step HOK.out (by rw [rightAt_of_yes (by rw [HL.out]; exact hlt) (tailAt_yes HX.out HY.out HT.out hin) HT.out HQ.out]; simp; omega), HBP.out, by simp; omega,
                by rw [World.cell?_setCell_other _ _ _ _ (by simp)]; exact HKP.out _ _ g0, by rw [World.cell?_setCell_other _ _ _ _ (by simp)]; exact HKP.out _ _ g1,
                (HR2.out.set _ _).congr fun j _ => by
                  rw [cnt_take l k (by rw [HL.out]; exact hlt), HT.out]
                  by_cases e : j = T
                  · subst e; rw [if_pos rfl, if_pos rfl, HQ.out]
                  · rw [if_neg e, if_neg (by omega)]; simp⟩
              case measure => simp [intOf]; omega
      · go_wp2
        go_ret
        exact ⟨ret_bool (rightB_yes (by rw [HL.out, HE.out]) (fun j hj => HOK.out j (by have := HL.out; omega))).symm, HB.out⟩
  · rw [rightB_len (by rw [HL.out, HE.out]; exact hlen)]
    have hne : ((n : Int) != (m : Int) + 3) = true := by rw [bne_iff_ne]; omega
    go_enter Try.func32, Try.ntmps32
    go_wp2
    go_ret
    exact ⟨rfl, (Below.refl _ _).alloc (Nat.le_refl _) _⟩

end Go.Proofs.Ytohmafmdpajmlaa
