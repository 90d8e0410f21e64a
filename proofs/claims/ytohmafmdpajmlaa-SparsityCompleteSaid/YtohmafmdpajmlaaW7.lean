/-
  sparsity.Sparse: for every graph and every lists in memory.
-/
import Derived.Test.YtohmafmdpajmlaaW6
namespace Go.Proofs.Ytohmafmdpajmlaa
set_option linter.unusedVariables false
set_option linter.unusedSimpArgs false
open Go.RowKit Go.Sort

theorem gvalid_b {b : Bool} (N : Int) (A : Option Addr) (n c : Nat) (es : List (Int × Int)) (w : World) (hn : n ≤ 4611686018427387904) (he : Rd w 2 A n (prs es)) (hb : validB N es = b) :
    Calls Try.prog 29 #[.agg #[.int .i64 N, .slice A n c]] w fun e w' => e = .returned (.bool b) ∧ Below w.heap.size w w' := by
  subst hb; exact gvalid_any N A n c es w hn he

set_option maxHeartbeats 2000000 in
theorem sparse_any (N : Int) (A L : Option Addr) (m cm n cl : Nat) (es : List (Int × Int)) (ls : List (List Int)) (w : World) (hm : m ≤ 100) (hn : n ≤ 4611686018427387904) (hsh : ∀ j, j < n → (ls.getD j []).length ≤ 4611686018427387904)
    (he : Rd w 2 A m (prs es)) (hl : RdL w L n ls) :
    Calls Try.prog 13 #[.agg #[.int .i64 N, .slice A m cm], .slice L n cl] w fun e w' => e = .returned (.bool (sparseB N es ls)) ∧ Below w.heap.size w w' := by
  have HE := Lib.hid he.prs_len
  have HL := Lib.hid hl.1
  have H1 := Lib.hid he
  have H2 := Lib.hid hl
  have HS := Lib.hid hsh
  clear he hl hsh
  have H1a : Hid (Rd (w.alloc (.cells #[.int .i64 N, .slice A m cm] 24)) 2 A m (prs es)) := H1.out.keep (Keeps.alloc w _)
  by_cases hv : validB N es = false
  · rw [sparseB_invalid hv]
    have HV := Lib.hid hv
    clear hv
    go_enter Try.func13, Try.ntmps13
    go_wp2_with (go_at_call 29; refine (gvalid_b N A m cm es _ (by omega) H1a.out HV.out).mono ?_; rintro e w1 ⟨rfl, hb1⟩)
    go_ret
    exact ⟨rfl, ((Below.refl _ _).alloc (Nat.le_refl _) _).trans (hb1.mono (by simp))⟩
  have HV : Hid (validB N es = true) := Lib.hid (by simpa using hv)
  clear hv
  by_cases hlen : n = m
  · subst hlen
    obtain ⟨M, rfl⟩ : ∃ M : Nat, N = M := ⟨N.toNat, by have := ((validB_iff N es).1 HV.out).1; omega⟩
    have hM : (M : Int) ≤ 60 := ((validB_iff M es).1 HV.out).2.1
    have hmk := run_make_row' (P := Try.prog) 30 3 (.int .i64 0) 8 Try.underlying30 info_int rfl .i64 .i64 M (by omega) (by omega)
    go_enter Try.func13, Try.ntmps13
    go_wp2_with (go_at_call 29; refine (gvalid_b M A n cm es _ (by omega) H1a.out HV.out).mono ?_; rintro e w1 ⟨rfl, hb1⟩; have g1 : w1.cell? ⟨w.heap.size, 1, none⟩ = some (.slice A n cm) := (by rw [hb1.cell (by simp)]; simp); have HB1 := Lib.hid hb1; clear hb1)
    go_loopw [24] (fun iv wr => ∃ k : Nat, k ≤ n ∧ iv = .int .i64 k ∧ (∀ j, j < k → rightB es j (ls.getD j []) = true) ∧ Below (w.heap.size + 1) (w.alloc (.cells #[.int .i64 M, .slice A n cm] 24)) wr)
      (fun iv _ => n - (intOf iv).toNat)
    case atStart => exact ⟨0, Nat.zero_le _, rfl, by omega, HB1.out.mono (by simp)⟩
    case round =>
      clear HB1 g1
      obtain ⟨wo, rfl⟩ : ∃ wo : World, wo = wr := ⟨_, rfl⟩
      obtain ⟨k, hk, rfl, hok, hbw⟩ := hrel
      have HOK := Lib.hid hok
      have g0 : wo.cell? ⟨w.heap.size, 0, none⟩ = some (.int .i64 M) := by rw [hbw.cell (by simp)]; simp
      have g1 : wo.cell? ⟨w.heap.size, 1, none⟩ = some (.slice A n cm) := by rw [hbw.cell (by simp)]; simp
      have gso : w.heap.size < wo.heap.size := by have := hbw.size; simp at this; omega
      have HB := Lib.hid hbw
      clear hok hbw
      have HK : Hid (Keeps w wo) := Lib.hid ((Keeps.alloc w _).trans (Keeps.of_below HB.out (by simp)))
      by_cases hlt : k < n
      · obtain ⟨ad, A', c', rfl, c0w, hr⟩ := H2.out.at hlt
        have c0 := HK.out _ _ c0w
        clear c0w
        have HR := Lib.hid hr
        clear hr
        have hs1 := HS.out k hlt
        generalize hml : (ls.getD k []).length = ml at c0 hs1
        have HML := Lib.hid hml
        clear hml
        by_cases hl3 : ml = n + 3
        · subst hl3
          have hM0 : 0 < M := by
            have := validB_ends HV.out (k := k) (by rw [HE.out]; exact hlt)
            omega
          generalize hl : ls.getD k [] = l at HR HML
          have HLL := Lib.hid hl
          clear hl
          go_wp2
          clear hmk
          go_loopw [41] (fun iv wi => ∃ kk : Nat, kk ≤ n + 3 ∧ iv = .int .i64 kk ∧ (∀ j, j < kk → tailAt es k l j = true) ∧ Below (w.heap.size + 1) (w.alloc (.cells #[.int .i64 M, .slice A n cm] 24)) wi ∧ wo.heap.size + 1 ≤ wi.heap.size ∧
              wi.rowIs wo.heap.size 3 M (fun v => .int .i64 (cnt (l.take kk) v)))
            (fun iv _ => n + 3 - (intOf iv).toNat)
          case atStart => exact ⟨0, Nat.zero_le _, rfl, by omega, HB.out.alloc (by omega) _, by simp, by have h := World.rowIs_made wo (.int .i64 0) M 3; simpa [cnt] using h⟩
          case round =>
            clear g0 g1 c0
            obtain ⟨wi, rfl⟩ : ∃ wi : World, wi = wr := ⟨_, rfl⟩
            obtain ⟨kk, hkk, rfl, hok, hbw, gsi, hrow⟩ := hrel
            have HOKI := Lib.hid hok
            have g0 : wi.cell? ⟨w.heap.size, 0, none⟩ = some (.int .i64 M) := by rw [hbw.cell (by simp)]; simp
            have g1 : wi.cell? ⟨w.heap.size, 1, none⟩ = some (.slice A n cm) := by rw [hbw.cell (by simp)]; simp
            have gw : w.heap.size < wi.heap.size := by omega
            have gwo : wo.heap.size < wi.heap.size := by omega
            have HBI := Lib.hid hbw
            have HROW := Lib.hid hrow
            clear hok hbw hrow
            have HKI : Hid (Keeps w wi) := Lib.hid ((Keeps.alloc w _).trans (Keeps.of_below HBI.out (by simp)))
            by_cases hltk : kk < n + 3
            · obtain ⟨adl, rfl, -, ct⟩ := (HR.out.keep HKI.out).int_at (k := kk) (by rw [HML.out]; exact hltk)
              obtain ⟨ae, rfl, ci0, ci1⟩ := (H1.out.keep HKI.out).prs_at hlt
              generalize ht : l.getD kk 0 = t at ct
              have HT := Lib.hid ht
              clear ht
              have hends := edgeOf_ends HV.out (i := k) (k := kk) (by rw [HE.out]; exact hlt)
              generalize hx : (edgeOf es k kk).1 = x at hends
              generalize hy : (edgeOf es k kk).2 = y at hends
              have HX := Lib.hid hx
              have HY := Lib.hid hy
              clear hx hy
              have hadl : (adl.add kk).block < wo.heap.size := by
                obtain ⟨ad', e', -, h⟩ := (HR.out.keep HK.out).int_at (k := kk) (by rw [HML.out]; exact hltk)
                have e'' : adl = ad' := by injection e'
                rw [e'']; exact World.block_lt_of_cell? wo _ h
              have hq0 := cnt_nonneg (l.take kk)
              have hq1 := fun v => Int.le_trans (cnt_le (l.take kk) v) (Int.ofNat_le.2 (List.length_take_le kk l))
              by_cases hkm : kk < n
              case' pos =>
                obtain ⟨ad', e', ck0, ck1⟩ := (H1.out.keep HKI.out).prs_at hkm
                obtain rfl : ae = ad' := by injection e'
                clear e'
                rw [← edgeOf_lt (i := k) (by rw [HE.out]; exact hkm), HX.out] at ck0
                rw [← edgeOf_lt (i := k) (by rw [HE.out]; exact hkm), HY.out] at ck1
                generalize (es.getD k (0, 0)).1 = xi at ci0
                generalize (es.getD k (0, 0)).2 = yi at ci1
                have ck0' := fun o => Keeps.alloc wi o _ _ ck0
                have ck1' := fun o => Keeps.alloc wi o _ _ ck1
              case' neg =>
                rw [← edgeOf_ge (i := k) (by rw [HE.out]; exact hkm), HX.out] at ci0
                rw [← edgeOf_ge (i := k) (by rw [HE.out]; exact hkm), HY.out] at ci1
              all_goals
                by_cases hno : t ≠ x ∧ t ≠ y
                · obtain ⟨hn1, hn2⟩ := hno
                  have hn1' : (t != x) = true := by simpa using hn1
                  have hn2' : (t != y) = true := by simpa using hn2
                  clear hq0 hq1
                  go_wp2
                  go_ret
                  refine ⟨ret_bool (sparseB_no (i := k) (by rw [HL.out]; exact hlt) ?_).symm, (((Below.refl _ _).alloc (Nat.le_refl _) _).trans (HBI.out.mono (by omega))).alloc (by omega) _⟩
                  rw [HLL.out]
                  exact rightB_no (by rw [HML.out]; exact hltk) (rightAt_of_no (tailAt_no HX.out HY.out HT.out hn1 hn2))
                have hin : t = x ∨ t = y := by omega
                obtain ⟨T, rfl⟩ : ∃ T : Nat, t = T := ⟨t.toNat, by omega⟩
                have hTM : T < M := by omega
                have ex : ∀ o, (wi.alloc o).cell? ⟨wo.heap.size, T, none⟩ = some (.int .i64 (cnt (l.take kk) T)) := fun o => Keeps.alloc wi o _ _ (HROW.out.cell hTM)
                have ef : ∀ o, (wi.alloc o).frozen? ⟨wo.heap.size, T, none⟩ = false := fun o => (HROW.out.alloc o).frozen _
                have q0 := hq0 T
                have q1 := hq1 T
                clear hq0 hq1
                generalize hq : cnt (l.take kk) (T : Int) = q at ex q0 q1
                have HQ := Lib.hid hq
                clear hq
                have hok1 : ∀ j, j < kk + 1 → tailAt es k l j = true := tails_step HOKI.out (tailAt_yes HX.out HY.out HT.out hin)
                have HOK1 := Lib.hid hok1
                clear hok1
                by_cases htx : (T : Int) = x
                case' pos =>
                  have hn1' : ((T : Int) != x) = false := by simpa using htx
                  have HTX := Lib.hid htx
                  clear htx
                case' neg =>
                  have hn1' : ((T : Int) != x) = true := by simpa using htx
                  have hn2' : ((T : Int) != y) = false := by simp; omega
                all_goals
                  go_wp2
                  go_roundw
                  case rel => exact ⟨kk + 1, by omega, by go_num, HOK1.out, (HBI.out.setCell (by simp; omega) _).alloc (by simp; omega) _, by simp; omega,
                    ((HROW.out.set _ _).congr fun j _ => by
                      rw [cnt_take l kk (by rw [HML.out]; exact hltk), HT.out]
                      by_cases e : j = T
                      · subst e; rw [if_pos rfl, if_pos rfl, HQ.out]
                      · rw [if_neg e, if_neg (by omega)]; simp).alloc _⟩
                  case measure => simp [intOf]; omega
            · have hkk3 : kk = n + 3 := by omega
              subst hkk3
              have hRd := rd_of_rowIs HROW.out
              rw [List.take_of_length_le (by rw [HML.out]; exact Nat.le_refl _)] at hRd
              have HRD := Lib.hid hRd
              clear hRd
              go_wp2_with (go_at_call 30; refine (max_any _ _ _ _ _ (by omega) hM0 HRD.out).mono ?_; rintro e w' ⟨⟨mx, rfl, hmx⟩, rfl⟩; have HMX := Lib.hid hmx; clear hmx)
              · have h2 : 2 < mx := by assumption
                go_ret
                refine ⟨ret_bool (sparseB_no (i := k) (by rw [HL.out]; exact hlt) ?_).symm, ((Below.refl _ _).alloc (Nat.le_refl _) _).trans (HBI.out.mono (by omega))⟩
                rw [HLL.out, rightB_max rfl HV.out (by rw [HE.out]; exact hlt) (by rw [HML.out, HE.out]) (fun j hj => HOKI.out j (by have := HML.out; omega)) HMX.out]
                simp; omega
              · have h2 : mx ≤ 2 := by assumption
                go_roundw
                case rel =>
                  refine ⟨k + 1, by omega, by go_num, rights_step HOK.out ?_, HBI.out⟩
                  rw [HLL.out, rightB_max rfl HV.out (by rw [HE.out]; exact hlt) (by rw [HML.out, HE.out]) (fun j hj => HOKI.out j (by have := HML.out; omega)) HMX.out]
                  simp; omega
                case measure => simp [intOf]; omega
        · have hmne : ((ml : Int) != (n : Int) + 3) = true := by rw [bne_iff_ne]; omega
          go_wp2
          go_ret
          exact ⟨ret_bool (sparseB_no (by rw [HL.out]; exact hlt) (rightB_len (by rw [HML.out, HE.out]; exact hl3))).symm, ((Below.refl _ _).alloc (Nat.le_refl _) _).trans (HB.out.mono (by omega))⟩
      · go_wp2
        go_ret
        exact ⟨ret_bool (sparseB_yes HV.out (by rw [HL.out, HE.out]) (fun j hj => HOK.out j (by have := HL.out; omega))).symm, ((Below.refl _ _).alloc (Nat.le_refl _) _).trans (HB.out.mono (by omega))⟩
  · rw [sparseB_len (by rw [HL.out, HE.out]; exact hlen)]
    have hne : ((n : Int) != (m : Int)) = true := by rw [bne_iff_ne]; omega
    go_enter Try.func13, Try.ntmps13
    go_wp2_with (go_at_call 29; refine (gvalid_b N A m cm es _ (by omega) H1a.out HV.out).mono ?_; rintro e w1 ⟨rfl, hb1⟩; have g1 : w1.cell? ⟨w.heap.size, 1, none⟩ = some (.slice A m cm) := (by rw [hb1.cell (by simp)]; simp))
    go_ret
    exact ⟨rfl, ((Below.refl _ _).alloc (Nat.le_refl _) _).trans (hb1.mono (by simp))⟩
end Go.Proofs.Ytohmafmdpajmlaa
