/-
  sparsity.spanned at points of a valid graph; Violates, Tight, Laman; setsquarelaw35.valid: for every graph, every points and lists in memory.
-/
import Derived.Test.YtohmafmdpajmlaaW8
namespace Go.Proofs.Ytohmafmdpajmlaa
set_option linter.unusedVariables false
set_option linter.unusedSimpArgs false
open Go.RowKit Go.Sort

set_option maxHeartbeats 2000000 in
theorem spanned_yes (N : Int) (A L : Option Addr) (m cm n cl : Nat) (es : List (Int × Int)) (ps : List Int) (w : World) (hm : m ≤ 100) (hn : n ≤ 4611686018427387904) (he : Rd w 2 A m (prs es)) (hl : Rd w 1 L n (ints ps)) (hx : exOk N es ps = true) :
    Calls Try.prog 35 #[.agg #[.int .i64 N, .slice A m cm], .slice L n cl] w fun e w' => e = .returned (.tuple #[.int .i64 (spanI es ps), .bool true]) ∧ Below w.heap.size w w' := by
  have HE := Lib.hid he.prs_len
  have HL := Lib.hid hl.int_len
  have H1 := Lib.hid he
  have H2 := Lib.hid hl
  have hv : validB N es = true := by unfold exOk at hx; simp only [Bool.and_eq_true] at hx; exact hx.1
  have hp : ptsB N ps = true := by unfold exOk at hx; simp only [Bool.and_eq_true] at hx; exact hx.2
  obtain ⟨hp0, hp1, hp2, hp3⟩ := ptsB_iff.1 hp
  rw [hl.int_len] at hp0 hp2
  have HP3 := Lib.hid hp3
  clear he hl hx hp hp3
  have c0 := grown_cell (w := w.alloc (.cells #[.int .i64 N, .slice A m cm] 24)) (a := ⟨w.heap.size, 0, none⟩) (v := .int .i64 N) (by simp)
  have c1 := grown_cell (w := w.alloc (.cells #[.int .i64 N, .slice A m cm] 24)) (a := ⟨w.heap.size, 1, none⟩) (v := .slice A m cm) (by simp)
  have hfin : ∀ wq, Below (w.alloc (.cells #[.int .i64 N, .slice A m cm] 24)).heap.size (w.alloc (.cells #[.int .i64 N, .slice A m cm] 24)) wq → Below (w.heap.size + 1) (w.alloc (.cells #[.int .i64 N, .slice A m cm] 24)) wq := fun wq hq =>
    hq.mono (by simp)
  have HFIN := Lib.hid hfin
  clear hfin
  have cV := call_q (w := w.alloc (.cells #[.int .i64 N, .slice A m cm] 24)) (fun w' hk' => gvalid_any N A m cm es w' (by omega) (H1.out.keep ((Keeps.alloc w _).trans hk')))
  rw [hv] at cV
  clear hv
  have h2b : decide ((n : Int) < 2) = false := by simp; omega
  have h2c : (2 : Int) ≤ n := by omega
  obtain ⟨ad, rfl, -, p0⟩ := (H2.out.keep (Keeps.alloc w (.cells #[.int .i64 N, .slice A m cm] 24))).int_at (k := 0) (by omega)
  have p0' : (w.alloc (.cells #[.int .i64 N, .slice A m cm] 24)).cell? ad = some (.int .i64 (ps.getD 0 0)) := p0
  generalize hz : ps.getD 0 0 = z at p0' hp1
  have kp0 := grown_cell p0'
  clear hz p0 p0'
  have h3b : decide (z < 0) = false := by simpa using hp1
  obtain ⟨ad', e', -, p1⟩ := (H2.out.keep (Keeps.alloc w (.cells #[.int .i64 N, .slice (A) m cm] 24))).int_at (k := n - 1) (by omega)
  obtain rfl : ad = ad' := by injection e'
  clear e'
  generalize hy : ps.getD (n - 1) 0 = y at p1 hp2
  have kp1 := grown_cell p1
  clear hy p1
  have h4b : decide (N ≤ y) = false := by simpa using hp2
  go_enter Try.func35, Try.ntmps35
  go_wp2
  refine wp_region_q (by kernel_rfl) (by kernel_rfl) ?_
  repeat (go_big_quiet_step (exact cV _ _))
  refine wpQuiet_nil ?_
  intro wq hgq
  have HGQ := Lib.hid (HFIN.out _ hgq)
  clear hgq c0 c1 kp0 kp1 cV
  go_wp2
  go_loopw [6] (fun iv wr => ∃ k : Nat, 1 ≤ k ∧ k ≤ n ∧ iv = .int .i64 k ∧ Below (w.heap.size + 1) (w.alloc (.cells #[.int .i64 N, .slice A m cm] 24)) wr) (fun iv _ => n - (intOf iv).toNat)
  case atStart => exact ⟨1, Nat.le_refl _, by omega, rfl, HGQ.out⟩
  case round =>
    clear HGQ
    obtain ⟨k, hk1, hk, rfl, hb⟩ := hrel
    have HB := Lib.hid hb
    clear hb
    have HK : Hid (Keeps w wr) := (Keeps.alloc w _).trans (Keeps.of_below HB.out (by simp))
    by_cases hlt : k < n
    · obtain ⟨ad', e', -, p0⟩ := (H2.out.keep HK.out).int_at hlt
      obtain rfl : ad = ad' := by injection e'
      clear e'
      obtain ⟨ad', e', -, p1⟩ := (H2.out.keep HK.out).int_at (k := k - 1) (by omega)
      obtain rfl : ad = ad' := by injection e'
      clear e'
      have huv := HP3.out (k - 1) (by have := HL.out; omega)
      rw [show k - 1 + 1 = k by omega] at huv
      generalize hu : ps.getD k 0 = u at p0 huv
      generalize hv : ps.getD (k - 1) 0 = v at p1 huv
      have k0 := grown_cell p0
      have k1 := grown_cell p1
      clear hu hv p0 p1
      have hkI : (1 : Int) ≤ k := by omega
      have h5b : decide (u ≤ v) = false := by simpa using huv
      go_wp2
      refine wp_region_q (by kernel_rfl) (by kernel_rfl) ?_
      repeat (go_big_quiet_step (fail))
      refine wpQuiet_nil ?_
      intro wq hgq
      go_wp2
      go_roundw
      case rel => exact ⟨k + 1, by omega, by omega, by go_num, HB.out.trans (hgq.mono (by have := HB.out.size; simp at this; omega))⟩
      case measure => simp [intOf]; omega
    · have g1 : wr.cell? ⟨w.heap.size, 1, none⟩ = some (.slice A m cm) := by rw [HB.out.cell (by simp)]; simp
      go_wp2
      clear g1
      go_loopw [7, 54] (fun nv iv wi => ∃ (kk : Nat), kk ≤ m ∧ iv = .int .i64 kk ∧ nv = .int .i64 (spanI (es.take kk) ps) ∧ Below (w.heap.size + 1) (w.alloc (.cells #[.int .i64 N, .slice A m cm] 24)) wi) (fun _ iv _ => m - (intOf iv).toNat)
      case atStart => exact ⟨0, Nat.zero_le _, rfl, rfl, HB.out⟩
      case round =>
        obtain ⟨wi, rfl⟩ : ∃ wi : World, wi = wr := ⟨_, rfl⟩
        obtain ⟨kk, hkk, rfl, rfl, hb⟩ := hrel
        have HBI := Lib.hid hb
        clear hb HB HK
        have HK : Hid (Keeps w wi) := (Keeps.alloc w _).trans (Keeps.of_below HBI.out (by simp))
        have hs0 := spanI_nonneg (es.take kk) ps
        have hs1 := Int.le_trans (spanI_le (es.take kk) ps) (Int.ofNat_le.2 (List.length_take_le kk es))
        by_cases hlt2 : kk < m
        · obtain ⟨ae, rfl, e0, e1⟩ := (H1.out.keep HK.out).prs_at hlt2
          generalize hx : (es.getD kk (0, 0)).1 = x at e0
          generalize hy : (es.getD kk (0, 0)).2 = y' at e1
          have hst := spanI_step (ps := ps) (by rw [HE.out]; exact hlt2) hx hy
          generalize spanI (es.take kk) ps = s at hs0 hs1 hst
          have HST := Lib.hid hst
          clear hx hy hst
          by_cases hx1 : x ∈ ps
          · have cx := fun w' (hk' : Keeps w w') => contains_b (some ad) n cl ps x w' hn (H2.out.keep hk') (decide_eq_true hx1)
            by_cases hy1 : y' ∈ ps
            · have cy := fun w' (hk' : Keeps w w') => contains_b (some ad) n cl ps y' w' hn (H2.out.keep hk') (decide_eq_true hy1)
              have HX1 := Lib.hid hx1
              have HY1 := Lib.hid hy1
              have CX := Lib.hid cx
              have CY := Lib.hid cy
              clear hx1 hy1 cx cy
              go_wp2_with (go_at_call 45; (first | ((with_reducible refine (CX.out _ (HK.out.trans (Keeps.alloc _ _))).mono ?_); rintro e w' ⟨rfl, rfl⟩) | ((with_reducible refine (CY.out _ (HK.out.trans (Keeps.alloc _ _))).mono ?_); rintro e w' ⟨rfl, rfl⟩)))
              go_roundw
              case rel => exact ⟨kk + 1, by omega, by go_num, by rw [HST.out, if_pos ⟨HX1.out, HY1.out⟩], HBI.out.alloc (by have := HBI.out.size; simp at this; omega) _⟩
              case measure => simp [intOf]; omega
            · have cy := fun w' (hk' : Keeps w w') => contains_b (some ad) n cl ps y' w' hn (H2.out.keep hk') (decide_eq_false hy1)
              have HX1 := Lib.hid hx1
              have HY1 := Lib.hid hy1
              have CX := Lib.hid cx
              have CY := Lib.hid cy
              clear hx1 hy1 cx cy
              go_wp2_with (go_at_call 45; (first | ((with_reducible refine (CX.out _ (HK.out.trans (Keeps.alloc _ _))).mono ?_); rintro e w' ⟨rfl, rfl⟩) | ((with_reducible refine (CY.out _ (HK.out.trans (Keeps.alloc _ _))).mono ?_); rintro e w' ⟨rfl, rfl⟩)))
              go_roundw
              case rel => exact ⟨kk + 1, by omega, by go_num, by rw [HST.out, if_neg (fun h => HY1.out h.2)]; simp, HBI.out.alloc (by have := HBI.out.size; simp at this; omega) _⟩
              case measure => simp [intOf]; omega
          · have cx := fun w' (hk' : Keeps w w') => contains_b (some ad) n cl ps x w' hn (H2.out.keep hk') (decide_eq_false hx1)
            have HX1 := Lib.hid hx1
            have CX := Lib.hid cx
            clear hx1 cx
            go_wp2_with (go_at_call 45; ((with_reducible refine (CX.out _ (HK.out.trans (Keeps.alloc _ _))).mono ?_); rintro e w' ⟨rfl, rfl⟩))
            go_roundw
            case rel => exact ⟨kk + 1, by omega, by go_num, by rw [HST.out, if_neg (fun h => HX1.out h.1)]; simp, HBI.out.alloc (by have := HBI.out.size; simp at this; omega) _⟩
            case measure => simp [intOf]; omega
        · obtain rfl : kk = m := by omega
          have hfull : spanI (es.take kk) ps = spanI es ps := by rw [List.take_of_length_le (by rw [HE.out]; exact Nat.le_refl _)]
          rw [hfull] at *
          clear hfull
          go_wp2
          go_ret2
          exact ⟨rfl, ((Below.refl _ _).alloc (Nat.le_refl _) _).trans (HBI.out.mono (by omega))⟩
end Go.Proofs.Ytohmafmdpajmlaa
