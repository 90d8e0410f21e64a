/-
  setsquareref35.bits and Sparse (all sets of points are counted): for every valid graph of at most nine points in memory.
-/
import Derived.Test.YtohmafmdpajmlaaW11
import Derived.Test.YtohmafmdpajmlaaSpecG
namespace Go.Proofs.Ytohmafmdpajmlaa
set_option linter.unusedVariables false
set_option linter.unusedSimpArgs false
open Go.RowKit Go.Sort

set_option maxHeartbeats 1000000 in
theorem bits_any (S : Nat) (w : World) (hS : S < 1152921504606846976) :
    Calls Try.prog 33 #[.int .i64 S] w fun e w' => e = .returned (.int .i64 (cntB 60 S : Nat)) ∧ w = w' := by
  generalize hc : cntB 60 S = c
  have HC := Lib.hid hc
  have hc60 := cntB_le 60 S
  rw [hc] at hc60
  clear hc
  go_enter Try.func33, Try.ntmps33
  go_wp2
  go_loop [0, 3] (fun sv nv => ∃ (T n : Nat), T ≤ S ∧ n + cntB 60 T = c ∧ sv = .int .i64 T ∧ nv = .int .i64 n) (fun sv _ => (intOf sv).toNat)
  case atStart => exact ⟨S, 0, Nat.le_refl _, by rw [HC.out]; omega, rfl, rfl⟩
  case round =>
    obtain ⟨T, n, hT, hn, rfl, rfl⟩ := hrel
    have hn60 : n ≤ 60 := by omega
    have HN := Lib.hid hn
    clear hn
    by_cases h : 0 < T
    · go_wp2
      go_round
      case rel => exact ⟨T / 2, n + T % 2, by omega, by have := cntB_step (T := T) (by have : (2 : Nat) ^ 60 = 1152921504606846976 := rfl; omega); have := HN.out; omega, by go_num, by go_num⟩
      case measure => simp [intOf]; omega
    · have hT0 : T = 0 := by omega
      subst hT0
      have hnc : n = c := by have := HN.out; rw [cntB_zero] at this; omega
      subst hnc
      go_wp2
      go_ret
      exact ⟨rfl, rfl⟩

set_option maxHeartbeats 1000000 in
theorem rsparse_any (n : Nat) (A : Option Addr) (m cm : Nat) (es : List (Int × Int)) (w : World) (hn9 : n ≤ 9) (hm : m ≤ 100) (he : Rd w 2 A m (prs es)) (hv : validB n es = true) :
    Calls Try.prog 17 #[.agg #[.int .i64 n, .slice A m cm]] w fun e w' => e = .returned (.bool (sparseAll n es)) ∧ Below w.heap.size w w' := by
  have HE := Lib.hid he.prs_len
  have H1 := Lib.hid he
  have HV : Hid (∀ k, k < m → 0 ≤ (es.getD k (0, 0)).1 ∧ (es.getD k (0, 0)).1 < 60 ∧ 0 ≤ (es.getD k (0, 0)).2 ∧ (es.getD k (0, 0)).2 < 60) := Lib.hid (fun k hk => by
    have := validB_ends hv (k := k) (by rw [he.prs_len]; exact hk)
    omega)
  have hQ : 2 ^ n ≤ 512 := by
    have : (2 : Nat) ^ n ≤ 2 ^ 9 := Nat.pow_le_pow_right (by omega) hn9
    simpa using this
  have hw := wrap_pow (X := n) (by omega)
  have hall := Lib.hid (sparseAll_iff (n := n) (es := es))
  have hno := Lib.hid (fun S => sparseAll_no (n := n) (es := es) (S := S))
  generalize sparseAll n es = b at hall hno
  generalize 2 ^ n = Q at hQ hw hall hno
  clear he hv
  go_enter Try.func17, Try.ntmps17
  go_wp2
  go_loopw [3] (fun sv wr => ∃ (S : Nat), 1 ≤ S ∧ (S ≤ Q ∨ S = 1) ∧ sv = .int .i64 S ∧ (∀ T, T < S → okSet es T = true) ∧ Below (w.heap.size + 1) (w.alloc (.cells #[.int .i64 n, .slice A m cm] 24)) wr) (fun sv _ => Q - (intOf sv).toNat)
  case atStart => exact ⟨1, Nat.le_refl _, .inr rfl, rfl, fun T hT => by rw [show T = 0 by omega]; exact okSet_zero es, Below.refl _ _⟩
  case round =>
    obtain ⟨S, hS1, hSQ, rfl, hok, hb⟩ := hrel
    have HB := Lib.hid hb
    have HOK := Lib.hid hok
    have g0 : wr.cell? ⟨w.heap.size, 0, none⟩ = some (.int .i64 n) := by rw [hb.cell (by simp)]; simp
    have g1 : wr.cell? ⟨w.heap.size, 1, none⟩ = some (.slice A m cm) := by rw [hb.cell (by simp)]; simp
    clear hb hok
    by_cases hlt : S < Q
    · have hsb := cntB_le 60 S
      have HBI : Hid (Calls Try.prog 33 #[.int .i64 S] wr fun e w' => e = .returned (.int .i64 (cntB 60 S : Nat)) ∧ wr = w') := bits_any S wr (by omega)
      have HSP : Hid (Calls Try.prog 34 #[.agg #[.int .i64 n, .slice A m cm], .int .i64 S] wr fun e w'' => e = .returned (.int .i64 (spanS es S)) ∧ Below wr.heap.size wr w'') :=
        spans_any n A m cm es S wr hm (by omega) (H1.out.keep ((Keeps.alloc w _).trans (Keeps.of_below HB.out (by simp)))) HV.out
      have hoc : okSet es S = (decide (cntB 60 S < 2) || decide (spanS es S ≤ 2 * (cntB 60 S : Int) - 3)) := rfl
      have hs0 := spanS_nonneg es S
      generalize cntB 60 S = c at hsb HBI hoc
      generalize spanS es S = sp at HSP hoc hs0
      by_cases hc2 : c < 2
      · have hok2 : okSet es S = true := by rw [hoc, decide_eq_true hc2]; rfl
        have HO2 := Lib.hid hok2
        clear hoc hok2
        go_wp2_with (go_at_call 33; refine HBI.out.mono ?_; rintro e w' ⟨rfl, rfl⟩)
        go_roundw
        case rel => exact ⟨S + 1, by omega, .inl (by omega), by go_num, fun T hT => by
            by_cases e : T = S
            · rw [e]; exact HO2.out
            · exact HOK.out T (by omega), HB.out⟩
        case measure => simp [intOf]; omega
      · have hc2b : decide ((2 : Int) ≤ c) = true := by simp; omega
        by_cases hsp : sp ≤ 2 * (c : Int) - 3
        · have hok2 : okSet es S = true := by rw [hoc, decide_eq_true hsp]; simp
          have HO2 := Lib.hid hok2
          clear hoc hok2
          go_wp2_with (first
            | (go_at_call 33; refine HBI.out.mono ?_; rintro e w' ⟨rfl, rfl⟩)
            | (go_at_call 34; refine HSP.out.mono ?_; rintro e w1 ⟨rfl, hb1⟩; have HB1 := Lib.hid hb1; clear hb1))
          go_roundw
          case rel => exact ⟨S + 1, by omega, .inl (by omega), by go_num, fun T hT => by
              by_cases e : T = S
              · rw [e]; exact HO2.out
              · exact HOK.out T (by omega), HB.out.trans (HB1.out.mono (by have := HB.out.size; simp at this; omega))⟩
          case measure => simp [intOf]; omega
        · have hok2 : okSet es S = false := by rw [hoc, decide_eq_false hsp, decide_eq_false hc2]; rfl
          have hb0 := hno.out S hlt hok2
          have HB0 := Lib.hid hb0
          clear hoc hok2 hb0
          go_wp2_with (first
            | (go_at_call 33; refine HBI.out.mono ?_; rintro e w' ⟨rfl, rfl⟩)
            | (go_at_call 34; refine HSP.out.mono ?_; rintro e w1 ⟨rfl, hb1⟩; have HB1 := Lib.hid hb1; clear hb1))
          go_ret
          exact ⟨ret_bool HB0.out.symm, ((Below.refl _ _).alloc (Nat.le_refl _) _).trans ((HB.out.trans (HB1.out.mono (by have := HB.out.size; simp at this; omega))).mono (by omega))⟩
    · have hb1 : b = true := hall.out.2 (fun T hT => HOK.out T (by omega))
      have HB1 := Lib.hid hb1
      clear hb1
      go_wp2
      go_ret
      exact ⟨ret_bool HB1.out.symm, ((Below.refl _ _).alloc (Nat.le_refl _) _).trans (HB.out.mono (by omega))⟩
end Go.Proofs.Ytohmafmdpajmlaa
