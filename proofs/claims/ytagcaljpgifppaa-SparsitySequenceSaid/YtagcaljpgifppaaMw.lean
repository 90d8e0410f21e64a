/-
  Sparse, Violates, Tight, Laman and awake of the sparsity layer: joined texts.
-/
import Derived.Test.YtagcaljpgifppaaW2
import Derived.Test.YtagcaljpgifppaaSpecB
import Derived.Deep.OwnRows
import Derived.Test.YtagcaljpgifppaaSpecC
import Derived.Test.YtagcaljpgifppaaW5
import Derived.Test.YtagcaljpgifppaaSpecD
import Derived.Test.YtagcaljpgifppaaLit
namespace Go.Proofs.Ytagcaljpgifppaa
set_option linter.unusedVariables false
set_option linter.unusedSimpArgs false
open Go.RowKit Go.Sort

theorem info_int : (Try.prog.info? 3).map (fun i => (i.zero, i.size, i.bytes)) = some (some (.int .i64 0), 1, 8) := by kernel_rfl

end Go.Proofs.Ytagcaljpgifppaa

namespace Go.Proofs.Ytagcaljpgifppaa
set_option linter.unusedVariables false
set_option linter.unusedSimpArgs false
open Go.RowKit Go.Sort

set_option maxHeartbeats 400000 in
theorem max_any (A : Option Addr) (n c : Nat) (l : List Int) (w : World) (hn : n ≤ 4611686018427387904) (h0 : 0 < n) (hr : Rd w 1 A n (ints l)) :
    Calls Try.prog 109 #[.slice A n c] w fun e w' => (∃ m : Int, e = .returned (.int .i64 m) ∧ IsMax l m) ∧ w = w' := by
  obtain ⟨ad, rfl, -, c0⟩ := hr.int_at h0
  have HL := Lib.hid hr.int_len
  have H := Lib.hid hr
  clear hr
  have c0' : w.cell? ad = some (.int .i64 (l.getD 0 0)) := c0
  generalize hz : l.getD 0 0 = z at c0'
  have HZ := Lib.hid hz
  clear hz c0
  go_enter Try.func109, Try.ntmps109
  go_wp2
  go_loop [3, 4] (fun mv iv => ∃ (k : Nat) (m : Int), 1 ≤ k ∧ k ≤ n ∧ iv = .int .i64 k ∧ mv = .int .i64 m ∧ m ∈ l ∧ ∀ j, j < k → l.getD j 0 ≤ m) (fun _ iv => n - (intOf iv).toNat)
  case atStart => exact ⟨1, _, Nat.le_refl _, h0, rfl, rfl, by rw [← HZ.out]; exact mem_getD (by rw [HL.out]; exact h0), fun j hj => by rw [show j = 0 by omega, HZ.out]; exact Int.le_refl _⟩
  case round =>
    obtain ⟨k, m, hk1, hk, rfl, rfl, hm, hok⟩ := hrel
    have HM := Lib.hid hm
    have HOK := Lib.hid hok
    clear hm hok
    by_cases hlt : k < n
    · obtain ⟨ad', e', -, c1⟩ := H.out.int_at hlt
      obtain rfl : ad = ad' := by injection e'
      clear e'
      generalize hx : l.getD k 0 = x at c1
      have HX := Lib.hid hx
      clear hx
      go_wp2
      go_round
      case rel => exact ⟨k + 1, if m < x then x else m, by omega, by omega, by go_num, rfl, by
          split
          · rw [← HX.out]; exact mem_getD (by rw [HL.out]; exact hlt)
          · exact HM.out, fun j hj => by
          by_cases e : j = k
          · subst e; rw [HX.out]; split <;> omega
          · have := HOK.out j (by omega); split <;> omega⟩
      case measure => simp [intOf]; omega
    · go_wp2
      go_ret
      exact ⟨⟨m, rfl, HM.out, fun x hx => by obtain ⟨j, hj, rfl⟩ := getD_of_mem hx; exact HOK.out j (by have := HL.out; omega)⟩, rfl⟩
end Go.Proofs.Ytagcaljpgifppaa

namespace Go.Proofs.Ytagcaljpgifppaa
set_option linter.unusedVariables false
set_option linter.unusedSimpArgs false
open Go.RowKit Go.Sort

end Go.Proofs.Ytagcaljpgifppaa

namespace Go.Proofs.Ytagcaljpgifppaa
set_option linter.unusedVariables false
set_option linter.unusedSimpArgs false
open Go.RowKit Go.Sort

theorem gvalid_w {b : Bool} (N : Int) (A : Option Addr) (n c : Nat) (es : List (Int × Int)) (w : World) (hn : n ≤ 4611686018427387904) (he : Rd w 2 A n (prs es)) (hb : validB N es = b) :
    Calls Try.prog 60 #[.agg #[.int .i64 N, .slice A n c]] w fun e w' => e = .returned (.bool b) ∧ Below w.heap.size w w' := by
  subst hb; exact gvalid_any N A n c es w hn he

set_option maxHeartbeats 2000000 in
theorem sparse_any (N : Int) (A L : Option Addr) (m cm n cl : Nat) (es : List (Int × Int)) (ls : List (List Int)) (w : World) (hm : m ≤ 100) (hn : n ≤ 4611686018427387904) (hsh : ∀ j, j < n → (ls.getD j []).length ≤ 4611686018427387904)
    (he : Rd w 2 A m (prs es)) (hl : RdL w L n ls) :
    Calls Try.prog 69 #[.agg #[.int .i64 N, .slice A m cm], .slice L n cl] w fun e w' => e = .returned (.bool (sparseB N es ls)) ∧ Below w.heap.size w w' := by
  have HE := Lib.hid he.prs_len
  have HL := Lib.hid hl.1
  have H1 := Lib.hid he
  have H2 := Lib.hid hl
  have HS := Lib.hid hsh
  clear he hl hsh
  have H1a : Hid (Rd (w.alloc (.cells #[.int .i64 N, .slice A m cm] 24)) 2 A m (prs es)) := H1.out.keep (Keeps.alloc w _)
  by_cases hv : validB N es = false
  · rw [sparseB_invalid hv]
    have HV := Lib.hid hv
    clear hv
    go_enter Try.func69, Try.ntmps69
    go_wp2_with (go_at_call 60; refine (gvalid_w N A m cm es _ (by omega) H1a.out HV.out).mono ?_; rintro e w1 ⟨rfl, hb1⟩)
    go_ret
    exact ⟨rfl, ((Below.refl _ _).alloc (Nat.le_refl _) _).trans (hb1.mono (by simp))⟩
  have HV : Hid (validB N es = true) := Lib.hid (by simpa using hv)
  clear hv
  by_cases hlen : n = m
  · subst hlen
    obtain ⟨M, rfl⟩ : ∃ M : Nat, N = M := ⟨N.toNat, by have := ((validB_iff N es).1 HV.out).1; omega⟩
    have hM : (M : Int) ≤ 60 := ((validB_iff M es).1 HV.out).2.1
    have hmk := run_make_row' (P := Try.prog) 27 3 (.int .i64 0) 8 Try.underlying27 info_int rfl .i64 .i64 M (by omega) (by omega)
    go_enter Try.func69, Try.ntmps69
    go_wp2_with (go_at_call 60; refine (gvalid_w M A n cm es _ (by omega) H1a.out HV.out).mono ?_; rintro e w1 ⟨rfl, hb1⟩; have g1 : w1.cell? ⟨w.heap.size, 1, none⟩ = some (.slice A n cm) := (by rw [hb1.cell (by simp)]; simp); have HB1 := Lib.hid hb1; clear hb1)
    go_loopw [24] (fun iv wr => ∃ k : Nat, k ≤ n ∧ iv = .int .i64 k ∧ (∀ j, j < k → rightB es j (ls.getD j []) = true) ∧ Below (w.heap.size + 1) (w.alloc (.cells #[.int .i64 M, .slice A n cm] 24)) wr)
      (fun iv _ => n - (intOf iv).toNat)
    case atStart => exact ⟨0, Nat.zero_le _, rfl, by omega, HB1.out.mono (by simp)⟩
    case round =>
      clear HB1 g1
      obtain ⟨wo, rfl⟩ : ∃ wo : World, wo = wr := ⟨_, rfl⟩
      obtain ⟨k, hk, rfl, hok, hbw⟩ := hrel
      have HOK := Lib.hid hok
      have g0 : wo.cell? ⟨w.heap.size, 0, none⟩ = some (.int .i64 M) := by rw [hbw.cell (by simp)]; simp
      have g1 : wo.cell? ⟨w.heap.size, 1, none⟩ = some (.slice A n cm) := by rw [hbw.cell (by simp)]; simp
      have gso : w.heap.size < wo.heap.size := by have := hbw.size; simp at this; omega
      have HB := Lib.hid hbw
      clear hok hbw
      have HK : Hid (Keeps w wo) := Lib.hid ((Keeps.alloc w _).trans (Keeps.of_below HB.out (by simp)))
      by_cases hlt : k < n
      · obtain ⟨ad, A', c', rfl, c0w, hr⟩ := H2.out.at hlt
        have c0 := HK.out _ _ c0w
        clear c0w
        have HR := Lib.hid hr
        clear hr
        have hs1 := HS.out k hlt
        generalize hml : (ls.getD k []).length = ml at c0 hs1
        have HML := Lib.hid hml
        clear hml
        by_cases hl3 : ml = n + 3
        · subst hl3
          have hM0 : 0 < M := by
            have := validB_ends HV.out (k := k) (by rw [HE.out]; exact hlt)
            omega
          generalize hl : ls.getD k [] = l at HR HML
          have HLL := Lib.hid hl
          clear hl
          go_wp2
          clear hmk
          go_loopw [41] (fun iv wi => ∃ kk : Nat, kk ≤ n + 3 ∧ iv = .int .i64 kk ∧ (∀ j, j < kk → tailAt es k l j = true) ∧ Below (w.heap.size + 1) (w.alloc (.cells #[.int .i64 M, .slice A n cm] 24)) wi ∧ wo.heap.size + 1 ≤ wi.heap.size ∧
              wi.rowIs wo.heap.size 3 M (fun v => .int .i64 (cnt (l.take kk) v)))
            (fun iv _ => n + 3 - (intOf iv).toNat)
          case atStart => exact ⟨0, Nat.zero_le _, rfl, by omega, HB.out.alloc (by omega) _, by simp, by have h := World.rowIs_made wo (.int .i64 0) M 3; simpa [cnt] using h⟩
          case round =>
            clear g0 g1 c0
            obtain ⟨wi, rfl⟩ : ∃ wi : World, wi = wr := ⟨_, rfl⟩
            obtain ⟨kk, hkk, rfl, hok, hbw, gsi, hrow⟩ := hrel
            have HOKI := Lib.hid hok
            have g0 : wi.cell? ⟨w.heap.size, 0, none⟩ = some (.int .i64 M) := by rw [hbw.cell (by simp)]; simp
            have g1 : wi.cell? ⟨w.heap.size, 1, none⟩ = some (.slice A n cm) := by rw [hbw.cell (by simp)]; simp
            have gw : w.heap.size < wi.heap.size := by omega
            have gwo : wo.heap.size < wi.heap.size := by omega
            have HBI := Lib.hid hbw
            have HROW := Lib.hid hrow
            clear hok hbw hrow
            have HKI : Hid (Keeps w wi) := Lib.hid ((Keeps.alloc w _).trans (Keeps.of_below HBI.out (by simp)))
            by_cases hltk : kk < n + 3
            · obtain ⟨adl, rfl, -, ct⟩ := (HR.out.keep HKI.out).int_at (k := kk) (by rw [HML.out]; exact hltk)
              obtain ⟨ae, rfl, ci0, ci1⟩ := (H1.out.keep HKI.out).prs_at hlt
              generalize ht : l.getD kk 0 = t at ct
              have HT := Lib.hid ht
              clear ht
              have hends := edgeOf_ends HV.out (i := k) (k := kk) (by rw [HE.out]; exact hlt)
              generalize hx : (edgeOf es k kk).1 = x at hends
              generalize hy : (edgeOf es k kk).2 = y at hends
              have HX := Lib.hid hx
              have HY := Lib.hid hy
              clear hx hy
              have hadl : (adl.add kk).block < wo.heap.size := by
                obtain ⟨ad', e', -, h⟩ := (HR.out.keep HK.out).int_at (k := kk) (by rw [HML.out]; exact hltk)
                have e'' : adl = ad' := by injection e'
                rw [e'']; exact World.block_lt_of_cell? wo _ h
              have hq0 := cnt_nonneg (l.take kk)
              have hq1 := fun v => Int.le_trans (cnt_le (l.take kk) v) (Int.ofNat_le.2 (List.length_take_le kk l))
              by_cases hkm : kk < n
              case' pos =>
                obtain ⟨ad', e', ck0, ck1⟩ := (H1.out.keep HKI.out).prs_at hkm
                obtain rfl : ae = ad' := by injection e'
                clear e'
                rw [← edgeOf_lt (i := k) (by rw [HE.out]; exact hkm), HX.out] at ck0
                rw [← edgeOf_lt (i := k) (by rw [HE.out]; exact hkm), HY.out] at ck1
                generalize (es.getD k (0, 0)).1 = xi at ci0
                generalize (es.getD k (0, 0)).2 = yi at ci1
                have ck0' := fun o => Keeps.alloc wi o _ _ ck0
                have ck1' := fun o => Keeps.alloc wi o _ _ ck1
              case' neg =>
                rw [← edgeOf_ge (i := k) (by rw [HE.out]; exact hkm), HX.out] at ci0
                rw [← edgeOf_ge (i := k) (by rw [HE.out]; exact hkm), HY.out] at ci1
              all_goals
                by_cases hno : t ≠ x ∧ t ≠ y
                · obtain ⟨hn1, hn2⟩ := hno
                  have hn1' : (t != x) = true := by simpa using hn1
                  have hn2' : (t != y) = true := by simpa using hn2
                  clear hq0 hq1
                  go_wp2
                  go_ret
                  refine ⟨ret_bool (sparseB_no (i := k) (by rw [HL.out]; exact hlt) ?_).symm, (((Below.refl _ _).alloc (Nat.le_refl _) _).trans (HBI.out.mono (by omega))).alloc (by omega) _⟩
                  rw [HLL.out]
                  exact rightB_no (by rw [HML.out]; exact hltk) (rightAt_of_no (tailAt_no HX.out HY.out HT.out hn1 hn2))
                have hin : t = x ∨ t = y := by omega
                obtain ⟨T, rfl⟩ : ∃ T : Nat, t = T := ⟨t.toNat, by omega⟩
                have hTM : T < M := by omega
                have ex : ∀ o, (wi.alloc o).cell? ⟨wo.heap.size, T, none⟩ = some (.int .i64 (cnt (l.take kk) T)) := fun o => Keeps.alloc wi o _ _ (HROW.out.cell hTM)
                have ef : ∀ o, (wi.alloc o).frozen? ⟨wo.heap.size, T, none⟩ = false := fun o => (HROW.out.alloc o).frozen _
                have q0 := hq0 T
                have q1 := hq1 T
                clear hq0 hq1
                generalize hq : cnt (l.take kk) (T : Int) = q at ex q0 q1
                have HQ := Lib.hid hq
                clear hq
                have hok1 : ∀ j, j < kk + 1 → tailAt es k l j = true := tails_step HOKI.out (tailAt_yes HX.out HY.out HT.out hin)
                have HOK1 := Lib.hid hok1
                clear hok1
                by_cases htx : (T : Int) = x
                case' pos =>
                  have hn1' : ((T : Int) != x) = false := by simpa using htx
                  have HTX := Lib.hid htx
                  clear htx
                case' neg =>
                  have hn1' : ((T : Int) != x) = true := by simpa using htx
                  have hn2' : ((T : Int) != y) = false := by simp; omega
                all_goals
                  go_wp2
                  go_roundw
                  case rel => exact ⟨kk + 1, by omega, by go_num, HOK1.out, (HBI.out.setCell (by simp; omega) _).alloc (by simp; omega) _, by simp; omega,
                    ((HROW.out.set _ _).congr fun j _ => by
                      rw [cnt_take l kk (by rw [HML.out]; exact hltk), HT.out]
                      by_cases e : j = T
                      · subst e; rw [if_pos rfl, if_pos rfl, HQ.out]
                      · rw [if_neg e, if_neg (by omega)]; simp).alloc _⟩
                  case measure => simp [intOf]; omega
            · have hkk3 : kk = n + 3 := by omega
              subst hkk3
              have hRd := rd_of_rowIs HROW.out
              rw [List.take_of_length_le (by rw [HML.out]; exact Nat.le_refl _)] at hRd
              have HRD := Lib.hid hRd
              clear hRd
              go_wp2_with (go_at_call 109; refine (max_any _ _ _ _ _ (by omega) hM0 HRD.out).mono ?_; rintro e w' ⟨⟨mx, rfl, hmx⟩, rfl⟩; have HMX := Lib.hid hmx; clear hmx)
              · have h2 : 2 < mx := by assumption
                go_ret
                refine ⟨ret_bool (sparseB_no (i := k) (by rw [HL.out]; exact hlt) ?_).symm, ((Below.refl _ _).alloc (Nat.le_refl _) _).trans (HBI.out.mono (by omega))⟩
                rw [HLL.out, rightB_max rfl HV.out (by rw [HE.out]; exact hlt) (by rw [HML.out, HE.out]) (fun j hj => HOKI.out j (by have := HML.out; omega)) HMX.out]
                simp; omega
              · have h2 : mx ≤ 2 := by assumption
                go_roundw
                case rel =>
                  refine ⟨k + 1, by omega, by go_num, rights_step HOK.out ?_, HBI.out⟩
                  rw [HLL.out, rightB_max rfl HV.out (by rw [HE.out]; exact hlt) (by rw [HML.out, HE.out]) (fun j hj => HOKI.out j (by have := HML.out; omega)) HMX.out]
                  simp; omega
                case measure => simp [intOf]; omega
        · have hmne : ((ml : Int) != (n : Int) + 3) = true := by rw [bne_iff_ne]; omega
          go_wp2
          go_ret
          exact ⟨ret_bool (sparseB_no (by rw [HL.out]; exact hlt) (rightB_len (by rw [HML.out, HE.out]; exact hl3))).symm, ((Below.refl _ _).alloc (Nat.le_refl _) _).trans (HB.out.mono (by omega))⟩
      · go_wp2
        go_ret
        exact ⟨ret_bool (sparseB_yes HV.out (by rw [HL.out, HE.out]) (fun j hj => HOK.out j (by have := HL.out; omega))).symm, ((Below.refl _ _).alloc (Nat.le_refl _) _).trans (HB.out.mono (by omega))⟩
  · rw [sparseB_len (by rw [HL.out, HE.out]; exact hlen)]
    have hne : ((n : Int) != (m : Int)) = true := by rw [bne_iff_ne]; omega
    go_enter Try.func69, Try.ntmps69
    go_wp2_with (go_at_call 60; refine (gvalid_w N A m cm es _ (by omega) H1a.out HV.out).mono ?_; rintro e w1 ⟨rfl, hb1⟩; have g1 : w1.cell? ⟨w.heap.size, 1, none⟩ = some (.slice A m cm) := (by rw [hb1.cell (by simp)]; simp))
    go_ret
    exact ⟨rfl, ((Below.refl _ _).alloc (Nat.le_refl _) _).trans (hb1.mono (by simp))⟩
end Go.Proofs.Ytagcaljpgifppaa

namespace Go.Proofs.Ytagcaljpgifppaa
set_option linter.unusedVariables false
set_option linter.unusedSimpArgs false
open Go.RowKit Go.Sort

theorem contains_w {b : Bool} (A : Option Addr) (n c : Nat) (l : List Int) (x : Int) (w : World) (hn : n ≤ 4611686018427387904) (hr : Rd w 1 A n (ints l)) (hb : decide (x ∈ l) = b) :
    Calls Try.prog 127 #[.slice A n c, .int .i64 x] w fun e w' => e = .returned (.bool b) ∧ w = w' := by
  subst hb; exact contains_any A n c l x w hn hr

set_option maxHeartbeats 2000000 in
theorem spanned_no (N : Int) (A L : Option Addr) (m cm n cl : Nat) (es : List (Int × Int)) (ps : List Int) (w : World) (hm : m ≤ 100) (hn : n ≤ 4611686018427387904) (he : Rd w 2 A m (prs es)) (hl : Rd w 1 L n (ints ps)) (hx : exOk N es ps = false) :
    Calls Try.prog 110 #[.agg #[.int .i64 N, .slice A m cm], .slice L n cl] w fun e w' => e = .returned (.tuple #[.int .i64 0, .bool false]) ∧ Below w.heap.size w w' := by
  have HE := Lib.hid he.prs_len
  have HL := Lib.hid hl.int_len
  have H1 := Lib.hid he
  have H2 := Lib.hid hl
  have HX := Lib.hid hx
  clear he hl hx
  have c0 := grown_cell (w := w.alloc (.cells #[.int .i64 N, .slice A m cm] 24)) (a := ⟨w.heap.size, 0, none⟩) (v := .int .i64 N) (by simp)
  have c1 := grown_cell (w := w.alloc (.cells #[.int .i64 N, .slice A m cm] 24)) (a := ⟨w.heap.size, 1, none⟩) (v := .slice A m cm) (by simp)
  have hfin : ∀ wq, Below (w.alloc (.cells #[.int .i64 N, .slice A m cm] 24)).heap.size (w.alloc (.cells #[.int .i64 N, .slice A m cm] 24)) wq → Below w.heap.size w wq := fun wq hq =>
    ((Below.refl _ _).alloc (Nat.le_refl _) _).trans (hq.mono (by simp))
  have HFIN := Lib.hid hfin
  clear hfin
  have cV := call_q (w := w.alloc (.cells #[.int .i64 N, .slice A m cm] 24)) (fun w' hk' => gvalid_any N A m cm es w' (by omega) (H1.out.keep ((Keeps.alloc w _).trans hk')))
  by_cases hv : validB N es = false
  · rw [hv] at cV
    have HV := Lib.hid hv
    clear hv
    go_enter Try.func110, Try.ntmps110
    go_wp2
    refine wp_region_q (by kernel_rfl) (by kernel_rfl) ?_
    repeat (go_big_quiet_step (exact cV _ _))
    refine wpQuiet_nil ?_
    intro wq hgq
    go_wp2
    go_ret2
    exact ⟨rfl, HFIN.out _ hgq⟩
  have hv' : validB N es = true := by simpa using hv
  rw [hv'] at cV
  have HV := Lib.hid hv'
  clear hv hv'
  have hp : Hid (ptsB N ps = false) := Lib.hid (by have := HX.out; unfold exOk at this; rw [HV.out] at this; simpa using this)
  by_cases h2 : n < 2
  · have h2b : decide ((n : Int) < 2) = true := by simp; omega
    go_enter Try.func110, Try.ntmps110
    go_wp2
    refine wp_region_q (by kernel_rfl) (by kernel_rfl) ?_
    repeat (go_big_quiet_step (exact cV _ _))
    refine wpQuiet_nil ?_
    intro wq hgq
    go_wp2
    go_ret2
    exact ⟨rfl, HFIN.out _ hgq⟩
  have h2b : decide ((n : Int) < 2) = false := by simp; omega
  have h2c : (2 : Int) ≤ n := by omega
  obtain ⟨ad, rfl, -, p0⟩ := (H2.out.keep (Keeps.alloc w (.cells #[.int .i64 N, .slice A m cm] 24))).int_at (k := 0) (by omega)
  have p0' : (w.alloc (.cells #[.int .i64 N, .slice A m cm] 24)).cell? ad = some (.int .i64 (ps.getD 0 0)) := p0
  generalize hz : ps.getD 0 0 = z at p0'
  have HZ := Lib.hid hz
  have kp0 := grown_cell p0'
  clear hz p0 p0'
  by_cases h3 : z < 0
  · have h3b : decide (z < 0) = true := by simpa using h3
    go_enter Try.func110, Try.ntmps110
    go_wp2
    refine wp_region_q (by kernel_rfl) (by kernel_rfl) ?_
    repeat (go_big_quiet_step (exact cV _ _))
    refine wpQuiet_nil ?_
    intro wq hgq
    go_wp2
    go_ret2
    exact ⟨rfl, HFIN.out _ hgq⟩
  have h3b : decide (z < 0) = false := by simpa using h3
  obtain ⟨ad', e', -, p1⟩ := (H2.out.keep (Keeps.alloc w (.cells #[.int .i64 N, .slice (A) m cm] 24))).int_at (k := n - 1) (by omega)
  obtain rfl : ad = ad' := by injection e'
  clear e'
  generalize hy : ps.getD (n - 1) 0 = y at p1
  have HY := Lib.hid hy
  have kp1 := grown_cell p1
  clear hy p1
  by_cases h4 : N ≤ y
  · have h4b : decide (N ≤ y) = true := by simpa using h4
    go_enter Try.func110, Try.ntmps110
    go_wp2
    refine wp_region_q (by kernel_rfl) (by kernel_rfl) ?_
    repeat (go_big_quiet_step (exact cV _ _))
    refine wpQuiet_nil ?_
    intro wq hgq
    go_wp2
    go_ret2
    exact ⟨rfl, HFIN.out _ hgq⟩
  have h4b : decide (N ≤ y) = false := by simpa using h4
  go_enter Try.func110, Try.ntmps110
  go_wp2
  refine wp_region_q (by kernel_rfl) (by kernel_rfl) ?_
  repeat (go_big_quiet_step (exact cV _ _))
  refine wpQuiet_nil ?_
  intro wq hgq
  have HGQ := Lib.hid (HFIN.out _ hgq)
  clear hgq c0 c1 kp0 kp1 cV
  go_wp2
  go_loopw [6] (fun iv wr => ∃ k : Nat, 1 ≤ k ∧ k ≤ n ∧ iv = .int .i64 k ∧ (∀ j, j + 1 < k → ps.getD j 0 < ps.getD (j + 1) 0) ∧ Below w.heap.size w wr) (fun iv _ => n - (intOf iv).toNat)
  case atStart => exact ⟨1, Nat.le_refl _, by omega, rfl, by omega, HGQ.out⟩
  case round =>
    clear HGQ
    obtain ⟨k, hk1, hk, rfl, hok, hb⟩ := hrel
    have HOK := Lib.hid hok
    have HB := Lib.hid hb
    clear hok hb
    by_cases hlt : k < n
    · obtain ⟨ad', e', -, p0⟩ := (H2.out.keep (Keeps.of_below HB.out (Nat.le_refl _))).int_at hlt
      obtain rfl : ad = ad' := by injection e'
      clear e'
      obtain ⟨ad', e', -, p1⟩ := (H2.out.keep (Keeps.of_below HB.out (Nat.le_refl _))).int_at (k := k - 1) (by omega)
      obtain rfl : ad = ad' := by injection e'
      clear e'
      generalize hu : ps.getD k 0 = u at p0
      generalize hv : ps.getD (k - 1) 0 = v at p1
      have HU := Lib.hid hu
      have HW := Lib.hid hv
      have k0 := grown_cell p0
      have k1 := grown_cell p1
      clear hu hv p0 p1
      have hkI : (1 : Int) ≤ k := by omega
      go_wp2
      refine wp_region_q (by kernel_rfl) (by kernel_rfl) ?_
      by_cases h5 : u ≤ v
      · have h5b : decide (u ≤ v) = true := by simpa using h5
        repeat (go_big_quiet_step (fail))
        refine wpQuiet_nil ?_
        intro wq hgq
        go_wp2
        go_ret2
        exact ⟨rfl, HB.out.trans (hgq.mono HB.out.size)⟩
      · have h5b : decide (u ≤ v) = false := by simpa using h5
        repeat (go_big_quiet_step (fail))
        refine wpQuiet_nil ?_
        intro wq hgq
        go_wp2
        go_roundw
        case rel => exact ⟨k + 1, by omega, by omega, by go_num, fun j hj => by
            by_cases e : j + 1 = k
            · rw [e, HU.out, show j = k - 1 by omega, HW.out]; omega
            · exact HOK.out j (by omega), HB.out.trans (hgq.mono HB.out.size)⟩
        case measure => simp [intOf]; omega
    · exfalso
      have := ptsB_yes (N := N) (ps := ps) (by rw [HL.out]; omega) (by rw [HZ.out]; omega) (by rw [HL.out, HY.out]; omega) (fun j hj => HOK.out j (by have := HL.out; omega))
      rw [hp.out] at this
      cases this
end Go.Proofs.Ytagcaljpgifppaa

namespace Go.Proofs.Ytagcaljpgifppaa
set_option linter.unusedVariables false
set_option linter.unusedSimpArgs false
open Go.RowKit Go.Sort

set_option maxHeartbeats 2000000 in
theorem spanned_yes (N : Int) (A L : Option Addr) (m cm n cl : Nat) (es : List (Int × Int)) (ps : List Int) (w : World) (hm : m ≤ 100) (hn : n ≤ 4611686018427387904) (he : Rd w 2 A m (prs es)) (hl : Rd w 1 L n (ints ps)) (hx : exOk N es ps = true) :
    Calls Try.prog 110 #[.agg #[.int .i64 N, .slice A m cm], .slice L n cl] w fun e w' => e = .returned (.tuple #[.int .i64 (spanI es ps), .bool true]) ∧ Below w.heap.size w w' := by
  have HE := Lib.hid he.prs_len
  have HL := Lib.hid hl.int_len
  have H1 := Lib.hid he
  have H2 := Lib.hid hl
  have hv : validB N es = true := by unfold exOk at hx; simp only [Bool.and_eq_true] at hx; exact hx.1
  have hp : ptsB N ps = true := by unfold exOk at hx; simp only [Bool.and_eq_true] at hx; exact hx.2
  obtain ⟨hp0, hp1, hp2, hp3⟩ := ptsB_iff.1 hp
  rw [hl.int_len] at hp0 hp2
  have HP3 := Lib.hid hp3
  clear he hl hx hp hp3
  have c0 := grown_cell (w := w.alloc (.cells #[.int .i64 N, .slice A m cm] 24)) (a := ⟨w.heap.size, 0, none⟩) (v := .int .i64 N) (by simp)
  have c1 := grown_cell (w := w.alloc (.cells #[.int .i64 N, .slice A m cm] 24)) (a := ⟨w.heap.size, 1, none⟩) (v := .slice A m cm) (by simp)
  have hfin : ∀ wq, Below (w.alloc (.cells #[.int .i64 N, .slice A m cm] 24)).heap.size (w.alloc (.cells #[.int .i64 N, .slice A m cm] 24)) wq → Below (w.heap.size + 1) (w.alloc (.cells #[.int .i64 N, .slice A m cm] 24)) wq := fun wq hq =>
    hq.mono (by simp)
  have HFIN := Lib.hid hfin
  clear hfin
  have cV := call_q (w := w.alloc (.cells #[.int .i64 N, .slice A m cm] 24)) (fun w' hk' => gvalid_any N A m cm es w' (by omega) (H1.out.keep ((Keeps.alloc w _).trans hk')))
  rw [hv] at cV
  clear hv
  have h2b : decide ((n : Int) < 2) = false := by simp; omega
  have h2c : (2 : Int) ≤ n := by omega
  obtain ⟨ad, rfl, -, p0⟩ := (H2.out.keep (Keeps.alloc w (.cells #[.int .i64 N, .slice A m cm] 24))).int_at (k := 0) (by omega)
  have p0' : (w.alloc (.cells #[.int .i64 N, .slice A m cm] 24)).cell? ad = some (.int .i64 (ps.getD 0 0)) := p0
  generalize hz : ps.getD 0 0 = z at p0' hp1
  have kp0 := grown_cell p0'
  clear hz p0 p0'
  have h3b : decide (z < 0) = false := by simpa using hp1
  obtain ⟨ad', e', -, p1⟩ := (H2.out.keep (Keeps.alloc w (.cells #[.int .i64 N, .slice (A) m cm] 24))).int_at (k := n - 1) (by omega)
  obtain rfl : ad = ad' := by injection e'
  clear e'
  generalize hy : ps.getD (n - 1) 0 = y at p1 hp2
  have kp1 := grown_cell p1
  clear hy p1
  have h4b : decide (N ≤ y) = false := by simpa using hp2
  go_enter Try.func110, Try.ntmps110
  go_wp2
  refine wp_region_q (by kernel_rfl) (by kernel_rfl) ?_
  repeat (go_big_quiet_step (exact cV _ _))
  refine wpQuiet_nil ?_
  intro wq hgq
  have HGQ := Lib.hid (HFIN.out _ hgq)
  clear hgq c0 c1 kp0 kp1 cV
  go_wp2
  go_loopw [6] (fun iv wr => ∃ k : Nat, 1 ≤ k ∧ k ≤ n ∧ iv = .int .i64 k ∧ Below (w.heap.size + 1) (w.alloc (.cells #[.int .i64 N, .slice A m cm] 24)) wr) (fun iv _ => n - (intOf iv).toNat)
  case atStart => exact ⟨1, Nat.le_refl _, by omega, rfl, HGQ.out⟩
  case round =>
    clear HGQ
    obtain ⟨k, hk1, hk, rfl, hb⟩ := hrel
    have HB := Lib.hid hb
    clear hb
    have HK : Hid (Keeps w wr) := (Keeps.alloc w _).trans (Keeps.of_below HB.out (by simp))
    by_cases hlt : k < n
    · obtain ⟨ad', e', -, p0⟩ := (H2.out.keep HK.out).int_at hlt
      obtain rfl : ad = ad' := by injection e'
      clear e'
      obtain ⟨ad', e', -, p1⟩ := (H2.out.keep HK.out).int_at (k := k - 1) (by omega)
      obtain rfl : ad = ad' := by injection e'
      clear e'
      have huv := HP3.out (k - 1) (by have := HL.out; omega)
      rw [show k - 1 + 1 = k by omega] at huv
      generalize hu : ps.getD k 0 = u at p0 huv
      generalize hv : ps.getD (k - 1) 0 = v at p1 huv
      have k0 := grown_cell p0
      have k1 := grown_cell p1
      clear hu hv p0 p1
      have hkI : (1 : Int) ≤ k := by omega
      have h5b : decide (u ≤ v) = false := by simpa using huv
      go_wp2
      refine wp_region_q (by kernel_rfl) (by kernel_rfl) ?_
      repeat (go_big_quiet_step (fail))
      refine wpQuiet_nil ?_
      intro wq hgq
      go_wp2
      go_roundw
      case rel => exact ⟨k + 1, by omega, by omega, by go_num, HB.out.trans (hgq.mono (by have := HB.out.size; simp at this; omega))⟩
      case measure => simp [intOf]; omega
    · have g1 : wr.cell? ⟨w.heap.size, 1, none⟩ = some (.slice A m cm) := by rw [HB.out.cell (by simp)]; simp
      go_wp2
      clear g1
      go_loopw [7, 54] (fun nv iv wi => ∃ (kk : Nat), kk ≤ m ∧ iv = .int .i64 kk ∧ nv = .int .i64 (spanI (es.take kk) ps) ∧ Below (w.heap.size + 1) (w.alloc (.cells #[.int .i64 N, .slice A m cm] 24)) wi) (fun _ iv _ => m - (intOf iv).toNat)
      case atStart => exact ⟨0, Nat.zero_le _, rfl, rfl, HB.out⟩
      case round =>
        obtain ⟨wi, rfl⟩ : ∃ wi : World, wi = wr := ⟨_, rfl⟩
        obtain ⟨kk, hkk, rfl, rfl, hb⟩ := hrel
        have HBI := Lib.hid hb
        clear hb HB HK
        have HK : Hid (Keeps w wi) := (Keeps.alloc w _).trans (Keeps.of_below HBI.out (by simp))
        have hs0 := spanI_nonneg (es.take kk) ps
        have hs1 := Int.le_trans (spanI_le (es.take kk) ps) (Int.ofNat_le.2 (List.length_take_le kk es))
        by_cases hlt2 : kk < m
        · obtain ⟨ae, rfl, e0, e1⟩ := (H1.out.keep HK.out).prs_at hlt2
          generalize hx : (es.getD kk (0, 0)).1 = x at e0
          generalize hy : (es.getD kk (0, 0)).2 = y' at e1
          have hst := spanI_step (ps := ps) (by rw [HE.out]; exact hlt2) hx hy
          generalize spanI (es.take kk) ps = s at hs0 hs1 hst
          have HST := Lib.hid hst
          clear hx hy hst
          by_cases hx1 : x ∈ ps
          · have cx := fun w' (hk' : Keeps w w') => contains_w (some ad) n cl ps x w' hn (H2.out.keep hk') (decide_eq_true hx1)
            by_cases hy1 : y' ∈ ps
            · have cy := fun w' (hk' : Keeps w w') => contains_w (some ad) n cl ps y' w' hn (H2.out.keep hk') (decide_eq_true hy1)
              have HX1 := Lib.hid hx1
              have HY1 := Lib.hid hy1
              have CX := Lib.hid cx
              have CY := Lib.hid cy
              clear hx1 hy1 cx cy
              go_wp2_with (go_at_call 127; (first | ((with_reducible refine (CX.out _ (HK.out.trans (Keeps.alloc _ _))).mono ?_); rintro e w' ⟨rfl, rfl⟩) | ((with_reducible refine (CY.out _ (HK.out.trans (Keeps.alloc _ _))).mono ?_); rintro e w' ⟨rfl, rfl⟩)))
              go_roundw
              case rel => exact ⟨kk + 1, by omega, by go_num, by rw [HST.out, if_pos ⟨HX1.out, HY1.out⟩], HBI.out.alloc (by have := HBI.out.size; simp at this; omega) _⟩
              case measure => simp [intOf]; omega
            · have cy := fun w' (hk' : Keeps w w') => contains_w (some ad) n cl ps y' w' hn (H2.out.keep hk') (decide_eq_false hy1)
              have HX1 := Lib.hid hx1
              have HY1 := Lib.hid hy1
              have CX := Lib.hid cx
              have CY := Lib.hid cy
              clear hx1 hy1 cx cy
              go_wp2_with (go_at_call 127; (first | ((with_reducible refine (CX.out _ (HK.out.trans (Keeps.alloc _ _))).mono ?_); rintro e w' ⟨rfl, rfl⟩) | ((with_reducible refine (CY.out _ (HK.out.trans (Keeps.alloc _ _))).mono ?_); rintro e w' ⟨rfl, rfl⟩)))
              go_roundw
              case rel => exact ⟨kk + 1, by omega, by go_num, by rw [HST.out, if_neg (fun h => HY1.out h.2)]; simp, HBI.out.alloc (by have := HBI.out.size; simp at this; omega) _⟩
              case measure => simp [intOf]; omega
          · have cx := fun w' (hk' : Keeps w w') => contains_w (some ad) n cl ps x w' hn (H2.out.keep hk') (decide_eq_false hx1)
            have HX1 := Lib.hid hx1
            have CX := Lib.hid cx
            clear hx1 cx
            go_wp2_with (go_at_call 127; ((with_reducible refine (CX.out _ (HK.out.trans (Keeps.alloc _ _))).mono ?_); rintro e w' ⟨rfl, rfl⟩))
            go_roundw
            case rel => exact ⟨kk + 1, by omega, by go_num, by rw [HST.out, if_neg (fun h => HX1.out h.1)]; simp, HBI.out.alloc (by have := HBI.out.size; simp at this; omega) _⟩
            case measure => simp [intOf]; omega
        · obtain rfl : kk = m := by omega
          have hfull : spanI (es.take kk) ps = spanI es ps := by rw [List.take_of_length_le (by rw [HE.out]; exact Nat.le_refl _)]
          rw [hfull] at *
          clear hfull
          go_wp2
          go_ret2
          exact ⟨rfl, ((Below.refl _ _).alloc (Nat.le_refl _) _).trans (HBI.out.mono (by omega))⟩
end Go.Proofs.Ytagcaljpgifppaa

namespace Go.Proofs.Ytagcaljpgifppaa
set_option linter.unusedVariables false
set_option linter.unusedSimpArgs false
open Go.RowKit Go.Sort

def violB (N : Int) (es : List (Int × Int)) (ps : List Int) : Bool := exOk N es ps && decide (2 * (ps.length : Int) - 3 < spanI es ps)
def tightB (N : Int) (es : List (Int × Int)) (ps : List Int) : Bool := exOk N es ps && decide (spanI es ps = 2 * (ps.length : Int) - 3)
def lamanB (N : Int) (es : List (Int × Int)) (ls : List (List Int)) : Bool := decide (2 ≤ N) && (decide ((es.length : Int) = 2 * N - 3) && sparseB N es ls)

set_option maxHeartbeats 1000000 in
theorem violates_any (N : Int) (A L : Option Addr) (m cm n cl : Nat) (es : List (Int × Int)) (ps : List Int) (w : World) (hm : m ≤ 100) (hn : n ≤ 100000) (he : Rd w 2 A m (prs es)) (hl : Rd w 1 L n (ints ps)) :
    Calls Try.prog 73 #[.agg #[.int .i64 N, .slice A m cm], .slice L n cl] w fun e w' => e = .returned (.bool (violB N es ps)) ∧ Below w.heap.size w w' := by
  have HL := Lib.hid hl.int_len
  have H1 : Hid (Rd (w.alloc (.cells #[.int .i64 N, .slice A m cm] 24)) 2 A m (prs es)) := he.keep (Keeps.alloc w _)
  have H2 : Hid (Rd (w.alloc (.cells #[.int .i64 N, .slice A m cm] 24)) 1 L n (ints ps)) := hl.keep (Keeps.alloc w _)
  clear he hl
  unfold violB
  by_cases hx : exOk N es ps = false
  · rw [hx]
    have HX := Lib.hid hx
    clear hx
    go_enter Try.func73, Try.ntmps73
    go_wp2_with (go_at_call 110; refine (spanned_no N A L m cm n cl es ps _ hm (by omega) H1.out H2.out HX.out).mono ?_; rintro e w1 ⟨rfl, hb1⟩)
    go_ret
    exact ⟨rfl, ((Below.refl _ _).alloc (Nat.le_refl _) _).trans (hb1.mono (by simp))⟩
  · have hx' : exOk N es ps = true := by simpa using hx
    rw [hx']
    have HX := Lib.hid hx'
    have hs0 := spanI_nonneg es ps
    clear hx hx'
    go_enter Try.func73, Try.ntmps73
    go_wp2_with (go_at_call 110; refine (spanned_yes N A L m cm n cl es ps _ hm (by omega) H1.out H2.out HX.out).mono ?_; rintro e w1 ⟨rfl, hb1⟩)
    go_ret
    exact ⟨ret_bool (by rw [HL.out]; rfl), ((Below.refl _ _).alloc (Nat.le_refl _) _).trans (hb1.mono (by simp))⟩

set_option maxHeartbeats 1000000 in
theorem tight_any (N : Int) (A L : Option Addr) (m cm n cl : Nat) (es : List (Int × Int)) (ps : List Int) (w : World) (hm : m ≤ 100) (hn : n ≤ 100000) (he : Rd w 2 A m (prs es)) (hl : Rd w 1 L n (ints ps)) :
    Calls Try.prog 72 #[.agg #[.int .i64 N, .slice A m cm], .slice L n cl] w fun e w' => e = .returned (.bool (tightB N es ps)) ∧ Below w.heap.size w w' := by
  have HL := Lib.hid hl.int_len
  have H1 : Hid (Rd (w.alloc (.cells #[.int .i64 N, .slice A m cm] 24)) 2 A m (prs es)) := he.keep (Keeps.alloc w _)
  have H2 : Hid (Rd (w.alloc (.cells #[.int .i64 N, .slice A m cm] 24)) 1 L n (ints ps)) := hl.keep (Keeps.alloc w _)
  clear he hl
  unfold tightB
  by_cases hx : exOk N es ps = false
  · rw [hx]
    have HX := Lib.hid hx
    clear hx
    go_enter Try.func72, Try.ntmps72
    go_wp2_with (go_at_call 110; refine (spanned_no N A L m cm n cl es ps _ hm (by omega) H1.out H2.out HX.out).mono ?_; rintro e w1 ⟨rfl, hb1⟩)
    go_ret
    exact ⟨rfl, ((Below.refl _ _).alloc (Nat.le_refl _) _).trans (hb1.mono (by simp))⟩
  · have hx' : exOk N es ps = true := by simpa using hx
    rw [hx']
    have HX := Lib.hid hx'
    have hs0 := spanI_nonneg es ps
    clear hx hx'
    go_enter Try.func72, Try.ntmps72
    go_wp2_with (go_at_call 110; refine (spanned_yes N A L m cm n cl es ps _ hm (by omega) H1.out H2.out HX.out).mono ?_; rintro e w1 ⟨rfl, hb1⟩)
    go_ret
    exact ⟨ret_bool (by rw [HL.out]; rfl), ((Below.refl _ _).alloc (Nat.le_refl _) _).trans (hb1.mono (by simp))⟩

theorem sparse_b {b : Bool} (N : Int) (A L : Option Addr) (m cm n cl : Nat) (es : List (Int × Int)) (ls : List (List Int)) (w : World) (hm : m ≤ 100) (hn : n ≤ 4611686018427387904) (hsh : ∀ j, j < n → (ls.getD j []).length ≤ 4611686018427387904)
    (he : Rd w 2 A m (prs es)) (hl : RdL w L n ls) (hb : sparseB N es ls = b) :
    Calls Try.prog 69 #[.agg #[.int .i64 N, .slice A m cm], .slice L n cl] w fun e w' => e = .returned (.bool b) ∧ Below w.heap.size w w' := by
  subst hb; exact sparse_any N A L m cm n cl es ls w hm hn hsh he hl

set_option maxHeartbeats 1000000 in
theorem laman_any (N : Int) (A L : Option Addr) (m cm n cl : Nat) (es : List (Int × Int)) (ls : List (List Int)) (w : World) (hm : m ≤ 100) (hn : n ≤ 4611686018427387904) (hsh : ∀ j, j < n → (ls.getD j []).length ≤ 4611686018427387904)
    (he : Rd w 2 A m (prs es)) (hl : RdL w L n ls) :
    Calls Try.prog 71 #[.agg #[.int .i64 N, .slice A m cm], .slice L n cl] w fun e w' => e = .returned (.bool (lamanB N es ls)) ∧ Below w.heap.size w w' := by
  have HE := Lib.hid he.prs_len
  have H1 : Hid (Rd (w.alloc (.cells #[.int .i64 N, .slice A m cm] 24)) 2 A m (prs es)) := he.keep (Keeps.alloc w _)
  have H2 : Hid (RdL (w.alloc (.cells #[.int .i64 N, .slice A m cm] 24)) L n ls) := hl.keep (Keeps.alloc w _)
  have HS := Lib.hid hsh
  clear he hl hsh
  unfold lamanB
  rw [HE.out]
  by_cases hN : N < 2
  · rw [decide_eq_false (by omega : ¬ 2 ≤ N)]
    go_enter Try.func71, Try.ntmps71
    go_wp2
    go_ret
    exact ⟨rfl, (Below.refl _ _).alloc (Nat.le_refl _) _⟩
  rw [decide_eq_true (by omega : 2 ≤ N)]
  by_cases hN6 : 60 < N
  · have HX : Hid (sparseB N es ls = false) := sparseB_invalid (validB_out N es (.inr hN6))
    rw [HX.out, Bool.and_false]
    go_enter Try.func71, Try.ntmps71
    go_wp2_with (go_at_call 69; refine (sparse_b N A L m cm n cl es ls _ hm hn HS.out H1.out H2.out HX.out).mono ?_; rintro e w1 ⟨rfl, hb1⟩)
    · go_ret
      exact ⟨rfl, ((Below.refl _ _).alloc (Nat.le_refl _) _).trans (hb1.mono (by simp))⟩
    · go_ret
      exact ⟨rfl, (Below.refl _ _).alloc (Nat.le_refl _) _⟩
  by_cases hl : (m : Int) = 2 * N - 3
  · rw [decide_eq_true hl]
    have hlb : ((m : Int) == 2 * N - 3) = true := by simpa using hl
    generalize hz : sparseB N es ls = z
    have HZ := Lib.hid hz
    clear hz hl
    go_enter Try.func71, Try.ntmps71
    go_wp2_with (go_at_call 69; refine (sparse_b N A L m cm n cl es ls _ hm hn HS.out H1.out H2.out HZ.out).mono ?_; rintro e w1 ⟨rfl, hb1⟩)
    go_ret
    exact ⟨rfl, ((Below.refl _ _).alloc (Nat.le_refl _) _).trans (hb1.mono (by simp))⟩
  · rw [decide_eq_false hl]
    have hlb : ((m : Int) == 2 * N - 3) = false := by simpa using hl
    clear hl
    go_enter Try.func71, Try.ntmps71
    go_wp2
    go_ret
    exact ⟨rfl, (Below.refl _ _).alloc (Nat.le_refl _) _⟩

theorem rvalid_w {b : Bool} (N : Int) (A : Option Addr) (n c : Nat) (es : List (Int × Int)) (w : World) (hn : n ≤ 4611686018427387904) (he : Rd w 2 A n (prs es)) (hb : validB N es = b) :
    Calls Try.prog 17 #[.agg #[.int .i64 N, .slice A n c]] w fun e w' => e = .returned (.bool b) ∧ Below w.heap.size w w' := by
  subst hb; exact rvalid_any N A n c es w hn he
theorem small_b {b : Bool} (N : Int) (A : Option Addr) (n c : Nat) (w : World) (hb : decide ((n : Int) ≤ 100) = b) :
    Calls Try.prog 25 #[.agg #[.int .i64 N, .slice A n c]] w fun e w' => e = .returned (.bool b) ∧ Below w.heap.size w w' := by
  subst hb; exact small_any N A n c w

theorem laman_b {b : Bool} (N : Int) (A L : Option Addr) (m cm n cl : Nat) (es : List (Int × Int)) (ls : List (List Int)) (w : World) (hm : m ≤ 100) (hn : n ≤ 4611686018427387904) (hsh : ∀ j, j < n → (ls.getD j []).length ≤ 4611686018427387904)
    (he : Rd w 2 A m (prs es)) (hl : RdL w L n ls) (hb : lamanB N es ls = b) :
    Calls Try.prog 71 #[.agg #[.int .i64 N, .slice A m cm], .slice L n cl] w fun e w' => e = .returned (.bool b) ∧ Below w.heap.size w w' := by
  subst hb; exact laman_any N A L m cm n cl es ls w hm hn hsh he hl
theorem violates_b {b : Bool} (N : Int) (A L : Option Addr) (m cm n cl : Nat) (es : List (Int × Int)) (ps : List Int) (w : World) (hm : m ≤ 100) (hn : n ≤ 100000) (he : Rd w 2 A m (prs es)) (hl : Rd w 1 L n (ints ps)) (hb : violB N es ps = b) :
    Calls Try.prog 73 #[.agg #[.int .i64 N, .slice A m cm], .slice L n cl] w fun e w' => e = .returned (.bool b) ∧ Below w.heap.size w w' := by
  subst hb; exact violates_any N A L m cm n cl es ps w hm hn he hl
theorem tight_b {b : Bool} (N : Int) (A L : Option Addr) (m cm n cl : Nat) (es : List (Int × Int)) (ps : List Int) (w : World) (hm : m ≤ 100) (hn : n ≤ 100000) (he : Rd w 2 A m (prs es)) (hl : Rd w 1 L n (ints ps)) (hb : tightB N es ps = b) :
    Calls Try.prog 72 #[.agg #[.int .i64 N, .slice A m cm], .slice L n cl] w fun e w' => e = .returned (.bool b) ∧ Below w.heap.size w w' := by
  subst hb; exact tight_any N A L m cm n cl es ps w hm hn he hl

/-- 'valid' at a graph with at most 100 edges. -/
theorem valid_any (N : Int) (A : Option Addr) (m c : Nat) (es : List (Int × Int)) (w : World) (hm : m ≤ 100) (he : Rd w 2 A m (prs es)) :
    Calls Try.prog 27 #[.agg #[.int .i64 N, .slice A m c]] w fun e w' => e = .returned (.bool (validB N es)) ∧ Below w.heap.size w w' := by
  have H1 : Hid (Rd (w.alloc (.cells #[.int .i64 N, .slice A m c] 24)) 2 A m (prs es)) := he.keep (Keeps.alloc w _)
  clear he
  generalize hz : validB N es = z
  have HZ := Lib.hid hz
  clear hz
  go_enter Try.func27, Try.ntmps27
  go_wp2_with (first
    | (go_at_call 25; refine (small_b (b := true) N A m c _ (by simp; omega)).mono ?_; rintro e w1 ⟨rfl, hb1⟩; have HB1 := Lib.hid hb1; have g0 : w1.cell? ⟨w.heap.size, 0, none⟩ = some (.int .i64 N) := (by rw [hb1.cell (by simp)]; simp); have g1 : w1.cell? ⟨w.heap.size, 1, none⟩ = some (.slice A m c) := (by rw [hb1.cell (by simp)]; simp); clear hb1)
    | (go_at_call 17; refine (rvalid_w N A m c es _ (by omega) (H1.out.keep (Keeps.of_below HB1.out (Nat.le_refl _))) HZ.out).mono ?_; rintro e w2 ⟨rfl, hb2⟩; have HB2 := Lib.hid hb2; clear hb2))
  go_ret
  have hs := HB1.out.size
  exact ⟨rfl, (((Below.refl _ _).alloc (Nat.le_refl _) _).trans (HB1.out.mono (by simp))).trans (HB2.out.mono (by simp at hs; omega))⟩

/-- 'Few': a valid graph with at most nine points (and at most 100 edges). -/
def fewB (N : Int) (es : List (Int × Int)) : Bool := decide (N ≤ 9) && (decide ((es.length : Int) ≤ 100) && validB N es)
end Go.Proofs.Ytagcaljpgifppaa

namespace Go.Proofs.Ytagcaljpgifppaa
set_option linter.unusedVariables false
set_option linter.unusedSimpArgs false
open Go.RowKit Go.Sort

def tri : List (Int × Int) := [(0, 1), (0, 2), (1, 2)]
def four : List (Int × Int) := [(0, 1), (0, 2), (0, 3), (1, 2), (1, 3), (2, 3)]
def awT : List (List Int) := [[0, 2, 2, 0, 1, 1], [1, 2, 1, 0, 0, 2], [0, 0, 1, 1, 2, 2]]

theorem triangle_any (w : World) :
    Calls Try.prog 70 #[] w fun e w' => ∃ a, e = .returned (.agg #[.int .i64 3, .slice (some a) 3 3]) ∧ Rd w' 2 (some a) 3 (prs tri) ∧ Below w.heap.size w w' := by
  go_enter Try.func70, Try.ntmps70
  go_wp2
  refine bodyPost_ret (v := .agg #[.int .i64 3, .slice (some ⟨w.heap.size + 1, 0, none⟩) 3 3]) (by simp [results, Try.results70, go_sem]) rfl ⟨_, rfl, ?_, ?_⟩
  · exact rd_lit2_at (by simp) tri _
  · exact ((Below.refl _ _).alloc (Nat.le_refl _) _).alloc (by simp) _

def AwOk (w : World) (t g : Value) (W : World) : Prop :=
  Below w.heap.size w W ∧ (∃ a, t = .slice (some a) 3 3 ∧ RdL W (some a) 3 awT) ∧ ∃ b c, g = .pointer (some ⟨b, 0, none⟩) ∧ W.cell? ⟨b, 0, none⟩ = some (.int .i64 4) ∧ W.cell? ⟨b, 1, none⟩ = some (.slice (some c) 6 6) ∧ Rd W 2 (some c) 6 (prs four)

set_option maxHeartbeats 1000000 in
theorem awake_any (w : World) : Calls Try.prog 24 #[] w fun e w' => e = .returned (.bool true) ∧ Below w.heap.size w w' := by
  go_enter Try.func24, Try.ntmps24
  go_upto_region 2 with fail
  go_cut [1, 2] (fun t g W => AwOk w t g W)
  case first =>
    go_wp2
    go_meet
    refine ⟨?_, ⟨_, rfl, ?_⟩, _, ⟨w.heap.size + 1 + 1 + 1 + 1, 0, none⟩, rfl, ?_, ?_, ?_⟩
    rotate_left 2
    · exact cell_at (by simp) _ _ _ rfl
    · exact cell_at (by simp) _ _ _ rfl
    rotate_left 1
    · exact (((((((Below.refl _ _).alloc (Nat.le_refl _) _).alloc (by simp) _).alloc (by simp; omega) _).alloc (by simp; omega) _).alloc (by simp; omega) _).alloc (by simp; omega) _)
    · refine ((rdL_lit_at (by simp) [(some ⟨w.heap.size, 0, none⟩, 6), (some ⟨w.heap.size + 1, 0, none⟩, 6), (some ⟨w.heap.size + 1 + 1, 0, none⟩, 6)] awT 27 rfl ?_).keep (Keeps.alloc _ _)).keep (Keeps.alloc _ _)
      intro i hd l h1 h2
      rcases i with _ | _ | _ | i
      · simp [awT] at h1 h2; subst h1 h2
        exact ((rd_lit_at rfl [0, 2, 2, 0, 1, 1] _).keep (Keeps.alloc _ _)).keep (Keeps.alloc _ _)
      · simp [awT] at h1 h2; subst h1 h2
        exact (rd_lit_at (by simp) [1, 2, 1, 0, 0, 2] _).keep (Keeps.alloc _ _)
      · simp [awT] at h1 h2; subst h1 h2
        exact rd_lit_at (by simp) [0, 0, 1, 1, 2, 2] _
      · simp at h1
    · exact (rd_lit2_at (by simp) four _).keep (Keeps.alloc _ _)
  case rest =>
    obtain ⟨hb, ⟨a, rfl, ht⟩, b, c, rfl, g0, g1, hg⟩ := hcut
    have HB := Lib.hid hb
    have HT := Lib.hid ht
    have HG := Lib.hid hg
    have G0 := Lib.hid g0
    have G1 := Lib.hid g1
    clear hb ht hg g0 g1
    go_wp2_with fail
    refine (triangle_any _).mono ?_
    rintro e w1 ⟨a1, rfl, hr1, hb1⟩
    have K1 : Hid (Keeps wc w1) := Keeps.of_below hb1 (Nat.le_refl _)
    have HR1 := Lib.hid hr1
    have B1 : Hid (Below w.heap.size w w1) := HB.out.trans (hb1.mono HB.out.size)
    clear hr1 hb1
    go_wp2_with fail
    refine (sparse_b (b := true) 3 (some a1) (some a) 3 3 3 3 tri awT w1 (by omega) (by omega) (fun j hj => ?_) HR1.out (HT.out.keep K1.out) (by decide +kernel)).mono ?_
    · match j, hj with
      | 0, _ => decide
      | 1, _ => decide
      | 2, _ => decide
    rintro e w2 ⟨rfl, hb2⟩
    have K2 : Hid (Keeps wc w2) := K1.out.trans (Keeps.of_below hb2 (Nat.le_refl _))
    have B2 : Hid (Below w.heap.size w w2) := B1.out.trans (hb2.mono B1.out.size)
    clear hb2
    go_wp2_with fail
    refine (triangle_any _).mono ?_
    rintro e w3 ⟨a3, rfl, hr3, hb3⟩
    have HR3 := Lib.hid hr3
    clear hr3
    have K3 : Hid (Keeps wc w3) := K2.out.trans ((Keeps.of_below hb3 (Nat.le_refl _)))
    have B3 : Hid (Below w.heap.size w w3) := B2.out.trans (hb3.mono B2.out.size)
    clear hb3
    go_wp2_with fail
    refine (laman_b (b := true) 3 (some a3) (some a) 3 3 3 3 tri awT w3 (by omega) (by omega) (fun j hj => ?_) HR3.out (HT.out.keep K3.out) (by decide +kernel)).mono ?_
    · match j, hj with
      | 0, _ => decide
      | 1, _ => decide
      | 2, _ => decide
    rintro e w4 ⟨rfl, hb4⟩
    have K4 : Hid (Keeps wc w4) := K3.out.trans ((Keeps.of_below hb4 (Nat.le_refl _)))
    have B4 : Hid (Below w.heap.size w w4) := B3.out.trans (hb4.mono B3.out.size)
    clear hb4
    go_wp2_with fail
    refine (triangle_any _).mono ?_
    rintro e w5 ⟨a5, rfl, hr5, hb5⟩
    have HR5 := Lib.hid hr5
    clear hr5
    have K5 : Hid (Keeps wc w5) := K4.out.trans ((Keeps.of_below hb5 (Nat.le_refl _)))
    have B5 : Hid (Below w.heap.size w w5) := B4.out.trans (hb5.mono B4.out.size)
    clear hb5
    go_wp2_with fail
    refine (tight_b (b := true) 3 (some a5) _ 3 3 3 3 tri [0, 1, 2] _ (by omega) (by omega) (HR5.out.keep (Keeps.alloc _ _)) (rd_lit_at rfl [0, 1, 2] _) (by decide +kernel)).mono ?_
    rintro e w6 ⟨rfl, hb6⟩
    have K6 : Hid (Keeps wc w6) := (K5.out.trans (Keeps.alloc _ _)).trans (Keeps.of_below hb6 (Nat.le_refl _))
    have B6 : Hid (Below w.heap.size w w6) := (B5.out.alloc B5.out.size _).trans (hb6.mono (by have := B5.out.size; simp; omega))
    have g60 := K6.out _ _ G0.out
    have g61 := K6.out _ _ G1.out
    clear hb6
    go_wp2_with fail
    refine (violates_b (b := true) 4 (some c) _ 6 6 4 4 four [0, 1, 2, 3] _ (by omega) (by omega) (HG.out.keep (K6.out.trans (Keeps.alloc _ _))) (rd_lit_at rfl [0, 1, 2, 3] _) (by decide +kernel)).mono ?_
    rintro e w7 ⟨rfl, hb7⟩
    have K7 : Hid (Keeps wc w7) := (K6.out.trans (Keeps.alloc _ _)).trans (Keeps.of_below hb7 (Nat.le_refl _))
    have B7 : Hid (Below w.heap.size w w7) := (B6.out.alloc B6.out.size _).trans (hb7.mono (by have := B6.out.size; simp; omega))
    have g70 := K7.out _ _ G0.out
    have g71 := K7.out _ _ G1.out
    clear hb7
    go_wp2_with fail
    refine (violates_b (b := false) 4 (some c) _ 6 6 3 3 four [0, 1, 2] _ (by omega) (by omega) (HG.out.keep (K7.out.trans (Keeps.alloc _ _))) (rd_lit_at rfl [0, 1, 2] _) (by decide +kernel)).mono ?_
    rintro e w8 ⟨rfl, hb8⟩
    have B8 : Hid (Below w.heap.size w w8) := (B7.out.alloc B7.out.size _).trans (hb8.mono (by have := B7.out.size; simp; omega))
    clear hb8
    go_wp2_with fail
    go_ret
    exact ⟨rfl, B8.out⟩
end Go.Proofs.Ytagcaljpgifppaa
