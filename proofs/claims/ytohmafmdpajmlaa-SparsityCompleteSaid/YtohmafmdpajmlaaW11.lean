/-
  setsquareref35.bits, spans, Set, Excess: for every graph of at most 60 points, every points in memory.
-/
import Derived.Test.YtohmafmdpajmlaaW2
import Derived.Test.YtohmafmdpajmlaaSpecE
import Derived.Laws.BitsAllLaws
namespace Go.Proofs.Ytohmafmdpajmlaa
set_option linter.unusedVariables false
set_option linter.unusedSimpArgs false
open Go.RowKit Go.Sort

theorem i64_or_nat (a b : Nat) (ha : a < 9223372036854775808) (hb : b < 9223372036854775808) : bits .or .i64 (a : Int) (b : Int) = ((a ||| b : Nat) : Int) := by
  have hx : a ||| b < 2 ^ 63 := Nat.or_lt_two_pow (by omega) (by omega)
  show IntKind.i64.wrap ((BitVec.ofInt 64 (a : Int) ||| BitVec.ofInt 64 (b : Int)).toNat : Int) = _
  rw [BitVec.toNat_or, ofInt_u64 a (by omega), ofInt_u64 b (by omega)]
  simp [IntKind.wrap, IntKind.bits, IntKind.signed]
  omega
theorem i64_and_nat (a b : Nat) (ha : a < 9223372036854775808) (hb : b < 9223372036854775808) : bits .and .i64 (a : Int) (b : Int) = ((a &&& b : Nat) : Int) := by
  have hx : a &&& b < 2 ^ 63 := Nat.and_lt_two_pow _ (by omega)
  show IntKind.i64.wrap ((BitVec.ofInt 64 (a : Int) &&& BitVec.ofInt 64 (b : Int)).toNat : Int) = _
  rw [BitVec.toNat_and, ofInt_u64 a (by omega), ofInt_u64 b (by omega)]
  simp [IntKind.wrap, IntKind.bits, IntKind.signed]
  omega
theorem pow_lt60 {X : Nat} (h : X < 60) : 2 ^ X < 1152921504606846976 := by
  have : 2 ^ X < 2 ^ 60 := Nat.pow_lt_pow_right (by omega) h
  simpa using this
theorem wrap_pow {X : Nat} (h : X < 60) : wrap64 ((2 : Int) ^ X) = ((2 ^ X : Nat) : Int) := by
  have := pow_lt60 h
  have e : ((2 : Int) ^ X) = ((2 ^ X : Nat) : Int) := by norm_cast
  rw [e]; generalize 2 ^ X = P at this; unfold wrap64; omega
theorem or_pow {s X : Nat} (hs : s < 1152921504606846976) (h : X < 60) : bits .or .i64 (s : Int) (wrap64 ((2 : Int) ^ X)) = ((s ||| 2 ^ X : Nat) : Int) := by
  have := pow_lt60 h
  rw [wrap_pow h, i64_or_nat _ _ (by omega) (by omega)]

set_option maxHeartbeats 1000000 in
theorem set_any (N : Int) (A L : Option Addr) (m cm n cl : Nat) (ps : List Int) (w : World) (hN : N ≤ 60) (hn : n ≤ 100000) (hl : Rd w 1 L n (ints ps)) :
    Calls Try.prog 24 #[.agg #[.int .i64 N, .slice A m cm], .slice L n cl] w fun e w' => e = .returned (.tuple #[.int .i64 (setVal N ps), .bool (setOk N ps)]) ∧ Below w.heap.size w w' := by
  have HL := Lib.hid hl.int_len
  have H2 := Lib.hid hl
  clear hl
  go_enter Try.func24, Try.ntmps24
  go_wp2
  go_loopw [6, 7] (fun sv iv wr => ∃ (k : Nat), k ≤ n ∧ iv = .int .i64 k ∧ sv = .int .i64 (setS (ps.take k) : Nat) ∧ (∀ j, j < k → ascAt N ps j = true) ∧ Below (w.heap.size + 1) (w.alloc (.cells #[.int .i64 N, .slice A m cm] 24)) wr) (fun _ iv _ => n - (intOf iv).toNat)
  case atStart => exact ⟨0, by omega, rfl, rfl, by omega, Below.refl _ _⟩
  case round =>
    obtain ⟨k, hk, rfl, rfl, hok, hb⟩ := hrel
    have HB := Lib.hid hb
    have HOK := Lib.hid hok
    have g0 : wr.cell? ⟨w.heap.size, 0, none⟩ = some (.int .i64 N) := by rw [hb.cell (by simp)]; simp
    clear hb hok
    by_cases hlt : k < n
    · obtain ⟨ad, rfl, -, c0⟩ := (H2.out.keep ((Keeps.alloc w _).trans (Keeps.of_below HB.out (by simp)))).int_at hlt
      generalize hx : ps.getD k 0 = x at c0
      have HX := Lib.hid hx
      clear hx
      have kN := grown_cell g0
      have kx := grown_cell c0
      by_cases q1 : x < 0
      · have q1b : decide (x < 0) = true := by simpa using q1
        go_wp2
        refine wp_region_q (by kernel_rfl) (by kernel_rfl) ?_
        repeat (go_big_quiet_step (fail))
        refine wpQuiet_nil ?_
        intro wq hgq
        go_wp2
        go_ret2
        have hno := ascB_no (N := N) (by rw [HL.out]; exact hlt) (ascAt_no HX.out (.inl q1))
        exact ⟨ret_ib (setVal_no hno).symm (setOk_no hno).symm, ((Below.refl _ _).alloc (Nat.le_refl _) _).trans ((HB.out.trans (hgq.mono (by have := HB.out.size; simp at this; omega))).mono (by omega))⟩
      have q1b : decide (x < 0) = false := by simpa using q1
      by_cases q2 : N ≤ x
      · have q2b : decide (N ≤ x) = true := by simpa using q2
        go_wp2
        refine wp_region_q (by kernel_rfl) (by kernel_rfl) ?_
        repeat (go_big_quiet_step (fail))
        refine wpQuiet_nil ?_
        intro wq hgq
        go_wp2
        go_ret2
        have hno := ascB_no (N := N) (by rw [HL.out]; exact hlt) (ascAt_no HX.out (.inr q2))
        exact ⟨ret_ib (setVal_no hno).symm (setOk_no hno).symm, ((Below.refl _ _).alloc (Nat.le_refl _) _).trans ((HB.out.trans (hgq.mono (by have := HB.out.size; simp at this; omega))).mono (by omega))⟩
      have q2b : decide (N ≤ x) = false := by simpa using q2
      obtain ⟨X, rfl⟩ : ∃ X : Nat, x = X := ⟨x.toNat, by omega⟩
      have hX60 : X < 60 := by omega
      have hk0 : setS (ps.take k) < 2 ^ 60 := setS_lt (fun p hp => by
        obtain ⟨j, hj, rfl⟩ := getD_of_mem hp
        have hjk : j < k := by simp at hj; omega
        have h1 := HOK.out j hjk
        have e : (ps.take k).getD j 0 = ps.getD j 0 := by simp [List.getD_eq_getElem?_getD, List.getElem?_take, hjk]
        rw [e]
        unfold ascAt at h1
        simp only [Bool.and_eq_true, decide_eq_true_eq] at h1
        omega)
      have hst := setS_step (k := k) (by rw [HL.out]; exact hlt) HX.out
      generalize setS (ps.take k) = s at hk0 hst
      have HST := Lib.hid hst
      clear hst
      have hs2 : s < 1152921504606846976 := hk0
      clear hk0
      by_cases q4 : k = 0
      case' pos =>
        have q5 : decide (0 < k) = false := by simp [q4]
        have hnext : ascAt N ps k = true := ascAt_yes HX.out (by omega) (by omega) (.inl q4)
        have HN := Lib.hid hnext
        clear hnext q4
        go_wp2
        refine wp_region_q (by kernel_rfl) (by kernel_rfl) ?_
        repeat (go_big_quiet_step (fail))
        refine wpQuiet_nil ?_
        intro wq hgq
        clear kN kx
      case' neg =>
        obtain ⟨ad', e', -, d0⟩ := (H2.out.keep ((Keeps.alloc w _).trans (Keeps.of_below HB.out (by simp)))).int_at (k := k - 1) (by omega)
        obtain rfl : ad = ad' := by injection e'
        clear e'
        generalize hy : ps.getD (k - 1) 0 = y at d0
        have HY := Lib.hid hy
        clear hy
        have ky := grown_cell d0
        have q4' : 0 < k := by omega
        by_cases q6 : (X : Int) ≤ y
        · have q6b : decide ((X : Int) ≤ y) = true := by simpa using q6
          go_wp2
          refine wp_region_q (by kernel_rfl) (by kernel_rfl) ?_
          repeat (go_big_quiet_step (fail))
          refine wpQuiet_nil ?_
          intro wq hgq
          go_wp2
          go_ret2
          have hno := ascB_no (N := N) (by rw [HL.out]; exact hlt) (ascAt_no2 HX.out HY.out q6 (by omega))
          exact ⟨ret_ib (setVal_no hno).symm (setOk_no hno).symm, ((Below.refl _ _).alloc (Nat.le_refl _) _).trans ((HB.out.trans (hgq.mono (by have := HB.out.size; simp at this; omega))).mono (by omega))⟩
        have q6b : decide ((X : Int) ≤ y) = false := by simpa using q6
        have hnext : ascAt N ps k = true := ascAt_yes HX.out (by omega) (by omega) (.inr (by rw [HY.out]; omega))
        have HN := Lib.hid hnext
        clear hnext q4
        go_wp2
        refine wp_region_q (by kernel_rfl) (by kernel_rfl) ?_
        repeat (go_big_quiet_step (fail))
        refine wpQuiet_nil ?_
        intro wq hgq
        clear kN kx ky d0
      all_goals
        have dx : wq.cell? (ad.add k) = some (.int .i64 X) := Keeps.of_below hgq (Nat.le_refl _) _ _ c0
        go_wp2
        go_roundw
        case rel => exact ⟨k + 1, by omega, by go_num, by rw [HST.out, or_pow hs2 hX60]; rfl, asc_step HOK.out HN.out, HB.out.trans (hgq.mono (by have := HB.out.size; simp at this; omega))⟩
        case measure => simp [intOf]; omega
    · obtain rfl : k = n := by omega
      have hfull : setS (ps.take k) = setS ps := by rw [List.take_of_length_le (by rw [HL.out]; exact Nat.le_refl _)]
      rw [hfull] at *
      clear hfull
      have hyes := ascB_yes (N := N) (fun j hj => HOK.out j (by have := HL.out; omega))
      have HY := Lib.hid hyes
      clear hyes
      go_wp2
      go_ret2
      exact ⟨ret_ib (setVal_yes HY.out).symm (by rw [setOk_yes HY.out, HL.out]; simp; omega), ((Below.refl _ _).alloc (Nat.le_refl _) _).trans (HB.out.mono (by omega))⟩

set_option maxHeartbeats 1000000 in
theorem spans_any (N : Int) (A : Option Addr) (m cm : Nat) (es : List (Int × Int)) (S : Nat) (w : World) (hm : m ≤ 100) (hS : S < 1152921504606846976) (he : Rd w 2 A m (prs es)) (hv : ∀ k, k < m → 0 ≤ (es.getD k (0, 0)).1 ∧ (es.getD k (0, 0)).1 < 60 ∧ 0 ≤ (es.getD k (0, 0)).2 ∧ (es.getD k (0, 0)).2 < 60) :
    Calls Try.prog 34 #[.agg #[.int .i64 N, .slice A m cm], .int .i64 S] w fun e w' => e = .returned (.int .i64 (spanS es S)) ∧ Below w.heap.size w w' := by
  have HE := Lib.hid he.prs_len
  have H1 := Lib.hid he
  have HV := Lib.hid hv
  clear he hv
  go_enter Try.func34, Try.ntmps34
  go_wp2
  go_loopw [5, 6] (fun nv iv wr => ∃ (k : Nat), k ≤ m ∧ iv = .int .i64 k ∧ nv = .int .i64 (spanS (es.take k) S) ∧ Below (w.heap.size + 1) (w.alloc (.cells #[.int .i64 N, .slice A m cm] 24)) wr) (fun _ iv _ => m - (intOf iv).toNat)
  case atStart => exact ⟨0, by omega, rfl, rfl, Below.refl _ _⟩
  case round =>
    obtain ⟨k, hk, rfl, rfl, hb⟩ := hrel
    have HB := Lib.hid hb
    have g1 : wr.cell? ⟨w.heap.size, 1, none⟩ = some (.slice A m cm) := by rw [hb.cell (by simp)]; simp
    clear hb
    by_cases hlt : k < m
    · obtain ⟨ad, rfl, c0, c1⟩ := (H1.out.keep ((Keeps.alloc w _).trans (Keeps.of_below HB.out (by simp)))).prs_at hlt
      have hvk := HV.out k hlt
      have hs0 := spanS_nonneg (es.take k) S
      have hs1 := Int.le_trans (spanS_le (es.take k) S) (Int.ofNat_le.2 (List.length_take_le k es))
      generalize hx : (es.getD k (0, 0)).1 = x at c0 hvk
      generalize hy : (es.getD k (0, 0)).2 = y at c1 hvk
      obtain ⟨v1, v2, v3, v4⟩ := hvk
      obtain ⟨X, rfl⟩ : ∃ X : Nat, x = X := ⟨x.toNat, by omega⟩
      obtain ⟨Y, rfl⟩ : ∃ X : Nat, y = X := ⟨y.toNat, by omega⟩
      have hst := spanS_step (S := S) (by rw [HE.out]; exact hlt) hx hy
      generalize spanS (es.take k) S = s at hs0 hs1 hst
      have HST := Lib.hid hst
      clear hx hy hst
      have hb1 := shr_bit S X
      have hb2 := shr_bit S Y
      cases hX : S.testBit X
      · rw [hX] at hb1
        clear hb2
        go_wp2
        go_roundw
        case rel => exact ⟨k + 1, by omega, by go_num, by rw [HST.out, Int.toNat_natCast, Int.toNat_natCast, hX]; simp, HB.out⟩
        case measure => simp [intOf]; omega
      · rw [hX] at hb1
        cases hY : S.testBit Y
        · rw [hY] at hb2
          go_wp2
          go_roundw
          case rel => exact ⟨k + 1, by omega, by go_num, by rw [HST.out, Int.toNat_natCast, Int.toNat_natCast, hX, hY]; simp, HB.out⟩
          case measure => simp [intOf]; omega
        · rw [hY] at hb2
          go_wp2
          go_roundw
          case rel => exact ⟨k + 1, by omega, by go_num, by rw [HST.out, Int.toNat_natCast, Int.toNat_natCast, hX, hY]; simp, HB.out⟩
          case measure => simp [intOf]; omega
    · obtain rfl : k = m := by omega
      have hfull : spanS (es.take k) S = spanS es S := by rw [List.take_of_length_le (by rw [HE.out]; exact Nat.le_refl _)]
      rw [hfull] at *
      clear hfull
      go_wp2
      go_ret
      exact ⟨rfl, ((Below.refl _ _).alloc (Nat.le_refl _) _).trans (HB.out.mono (by omega))⟩
end Go.Proofs.Ytohmafmdpajmlaa
