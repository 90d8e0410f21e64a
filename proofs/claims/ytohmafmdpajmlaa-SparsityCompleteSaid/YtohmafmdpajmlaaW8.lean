/-
  sparsity.spanned, Violates, Tight, Laman; setsquarelaw35.valid: for every graph, every points and lists in memory.
-/
import Derived.Test.YtohmafmdpajmlaaW5
import Derived.Test.YtohmafmdpajmlaaW2
import Derived.Test.YtohmafmdpajmlaaSpecD
namespace Go.Proofs.Ytohmafmdpajmlaa
set_option linter.unusedVariables false
set_option linter.unusedSimpArgs false
open Go.RowKit Go.Sort

theorem contains_b {b : Bool} (A : Option Addr) (n c : Nat) (l : List Int) (x : Int) (w : World) (hn : n ≤ 4611686018427387904) (hr : Rd w 1 A n (ints l)) (hb : decide (x ∈ l) = b) :
    Calls Try.prog 45 #[.slice A n c, .int .i64 x] w fun e w' => e = .returned (.bool b) ∧ w = w' := by
  subst hb; exact contains_any A n c l x w hn hr

set_option maxHeartbeats 2000000 in
theorem spanned_no (N : Int) (A L : Option Addr) (m cm n cl : Nat) (es : List (Int × Int)) (ps : List Int) (w : World) (hm : m ≤ 100) (hn : n ≤ 4611686018427387904) (he : Rd w 2 A m (prs es)) (hl : Rd w 1 L n (ints ps)) (hx : exOk N es ps = false) :
    Calls Try.prog 35 #[.agg #[.int .i64 N, .slice A m cm], .slice L n cl] w fun e w' => e = .returned (.tuple #[.int .i64 0, .bool false]) ∧ Below w.heap.size w w' := by
  have HE := Lib.hid he.prs_len
  have HL := Lib.hid hl.int_len
  have H1 := Lib.hid he
  have H2 := Lib.hid hl
  have HX := Lib.hid hx
  clear he hl hx
  have c0 := grown_cell (w := w.alloc (.cells #[.int .i64 N, .slice A m cm] 24)) (a := ⟨w.heap.size, 0, none⟩) (v := .int .i64 N) (by simp)
  have c1 := grown_cell (w := w.alloc (.cells #[.int .i64 N, .slice A m cm] 24)) (a := ⟨w.heap.size, 1, none⟩) (v := .slice A m cm) (by simp)
  have hfin : ∀ wq, Below (w.alloc (.cells #[.int .i64 N, .slice A m cm] 24)).heap.size (w.alloc (.cells #[.int .i64 N, .slice A m cm] 24)) wq → Below w.heap.size w wq := fun wq hq =>
    ((Below.refl _ _).alloc (Nat.le_refl _) _).trans (hq.mono (by simp))
  have HFIN := Lib.hid hfin
  clear hfin
  have cV := call_q (w := w.alloc (.cells #[.int .i64 N, .slice A m cm] 24)) (fun w' hk' => gvalid_any N A m cm es w' (by omega) (H1.out.keep ((Keeps.alloc w _).trans hk')))
  by_cases hv : validB N es = false
  · rw [hv] at cV
    have HV := Lib.hid hv
    clear hv
    go_enter Try.func35, Try.ntmps35
    go_wp2
    refine wp_region_q (by kernel_rfl) (by kernel_rfl) ?_
    repeat (go_big_quiet_step (exact cV _ _))
    refine wpQuiet_nil ?_
    intro wq hgq
    go_wp2
    go_ret2
    exact ⟨rfl, HFIN.out _ hgq⟩
  have hv' : validB N es = true := by simpa using hv
  rw [hv'] at cV
  have HV := Lib.hid hv'
  clear hv hv'
  have hp : Hid (ptsB N ps = false) := Lib.hid (by have := HX.out; unfold exOk at this; rw [HV.out] at this; simpa using this)
  by_cases h2 : n < 2
  · have h2b : decide ((n : Int) < 2) = true := by simp; omega
    go_enter Try.func35, Try.ntmps35
    go_wp2
    refine wp_region_q (by kernel_rfl) (by kernel_rfl) ?_
    repeat (go_big_quiet_step (exact cV _ _))
    refine wpQuiet_nil ?_
    intro wq hgq
    go_wp2
    go_ret2
    exact ⟨rfl, HFIN.out _ hgq⟩
  have h2b : decide ((n : Int) < 2) = false := by simp; omega
  have h2c : (2 : Int) ≤ n := by omega
  obtain ⟨ad, rfl, -, p0⟩ := (H2.out.keep (Keeps.alloc w (.cells #[.int .i64 N, .slice A m cm] 24))).int_at (k := 0) (by omega)
  have p0' : (w.alloc (.cells #[.int .i64 N, .slice A m cm] 24)).cell? ad = some (.int .i64 (ps.getD 0 0)) := p0
  generalize hz : ps.getD 0 0 = z at p0'
  have HZ := Lib.hid hz
  have kp0 := grown_cell p0'
  clear hz p0 p0'
  by_cases h3 : z < 0
  · have h3b : decide (z < 0) = true := by simpa using h3
    go_enter Try.func35, Try.ntmps35
    go_wp2
    refine wp_region_q (by kernel_rfl) (by kernel_rfl) ?_
    repeat (go_big_quiet_step (exact cV _ _))
    refine wpQuiet_nil ?_
    intro wq hgq
    go_wp2
    go_ret2
    exact ⟨rfl, HFIN.out _ hgq⟩
  have h3b : decide (z < 0) = false := by simpa using h3
  obtain ⟨ad', e', -, p1⟩ := (H2.out.keep (Keeps.alloc w (.cells #[.int .i64 N, .slice (A) m cm] 24))).int_at (k := n - 1) (by omega)
  obtain rfl : ad = ad' := by injection e'
  clear e'
  generalize hy : ps.getD (n - 1) 0 = y at p1
  have HY := Lib.hid hy
  have kp1 := grown_cell p1
  clear hy p1
  by_cases h4 : N ≤ y
  · have h4b : decide (N ≤ y) = true := by simpa using h4
    go_enter Try.func35, Try.ntmps35
    go_wp2
    refine wp_region_q (by kernel_rfl) (by kernel_rfl) ?_
    repeat (go_big_quiet_step (exact cV _ _))
    refine wpQuiet_nil ?_
    intro wq hgq
    go_wp2
    go_ret2
    exact ⟨rfl, HFIN.out _ hgq⟩
  have h4b : decide (N ≤ y) = false := by simpa using h4
  go_enter Try.func35, Try.ntmps35
  go_wp2
  refine wp_region_q (by kernel_rfl) (by kernel_rfl) ?_
  repeat (go_big_quiet_step (exact cV _ _))
  refine wpQuiet_nil ?_
  intro wq hgq
  have HGQ := Lib.hid (HFIN.out _ hgq)
  clear hgq c0 c1 kp0 kp1 cV
  go_wp2
  go_loopw [6] (fun iv wr => ∃ k : Nat, 1 ≤ k ∧ k ≤ n ∧ iv = .int .i64 k ∧ (∀ j, j + 1 < k → ps.getD j 0 < ps.getD (j + 1) 0) ∧ Below w.heap.size w wr) (fun iv _ => n - (intOf iv).toNat)
  case atStart => exact ⟨1, Nat.le_refl _, by omega, rfl, by omega, HGQ.out⟩
  case round =>
    clear HGQ
    obtain ⟨k, hk1, hk, rfl, hok, hb⟩ := hrel
    have HOK := Lib.hid hok
    have HB := Lib.hid hb
    clear hok hb
    by_cases hlt : k < n
    · obtain ⟨ad', e', -, p0⟩ := (H2.out.keep (Keeps.of_below HB.out (Nat.le_refl _))).int_at hlt
      obtain rfl : ad = ad' := by injection e'
      clear e'
      obtain ⟨ad', e', -, p1⟩ := (H2.out.keep (Keeps.of_below HB.out (Nat.le_refl _))).int_at (k := k - 1) (by omega)
      obtain rfl : ad = ad' := by injection e'
      clear e'
      generalize hu : ps.getD k 0 = u at p0
      generalize hv : ps.getD (k - 1) 0 = v at p1
      have HU := Lib.hid hu
      have HW := Lib.hid hv
      have k0 := grown_cell p0
      have k1 := grown_cell p1
      clear hu hv p0 p1
      have hkI : (1 : Int) ≤ k := by omega
      go_wp2
      refine wp_region_q (by kernel_rfl) (by kernel_rfl) ?_
      by_cases h5 : u ≤ v
      · have h5b : decide (u ≤ v) = true := by simpa using h5
        repeat (go_big_quiet_step (fail))
        refine wpQuiet_nil ?_
        intro wq hgq
        go_wp2
        go_ret2
        exact ⟨rfl, HB.out.trans (hgq.mono HB.out.size)⟩
      · have h5b : decide (u ≤ v) = false := by simpa using h5
        repeat (go_big_quiet_step (fail))
        refine wpQuiet_nil ?_
        intro wq hgq
        go_wp2
        go_roundw
        case rel => exact ⟨k + 1, by omega, by omega, by go_num, fun j hj => by
            by_cases e : j + 1 = k
            · rw [e, HU.out, show j = k - 1 by omega, HW.out]; omega
            · exact HOK.out j (by omega), HB.out.trans (hgq.mono HB.out.size)⟩
        case measure => simp [intOf]; omega
    · exfalso
      have := ptsB_yes (N := N) (ps := ps) (by rw [HL.out]; omega) (by rw [HZ.out]; omega) (by rw [HL.out, HY.out]; omega) (fun j hj => HOK.out j (by have := HL.out; omega))
      rw [hp.out] at this
      cases this
end Go.Proofs.Ytohmafmdpajmlaa
