/-
  setsquareref36: Rigid, List.
-/
import Derived.Test.YtagcaljpgifppaaCr2
import Derived.Test.YtagcaljpgifppaaKd
namespace Go.Proofs.Ytagcaljpgifppaa
set_option linter.unusedVariables false
set_option linter.unusedSimpArgs false
open Go.RowKit Go.Sort
attribute [local go_sem ↓] Go.wp_at_zero Go.wp_at_succ

theorem and36 (a b : Nat) (ha : a < 9223372036854775808) (hb : b < 9223372036854775808) : bits .and .i64 (a : Int) (b : Int) = ((a &&& b : Nat) : Int) := by
  have hx : a &&& b < 2 ^ 63 := Nat.and_lt_two_pow _ (by omega)
  show IntKind.i64.wrap ((BitVec.ofInt 64 (a : Int) &&& BitVec.ofInt 64 (b : Int)).toNat : Int) = _
  rw [BitVec.toNat_and, ofInt_u64 a (by omega), ofInt_u64 b (by omega)]
  simp [IntKind.wrap, IntKind.bits, IntKind.signed]
  omega
theorem or36 (a b : Nat) (ha : a < 9223372036854775808) (hb : b < 9223372036854775808) : bits .or .i64 (a : Int) (b : Int) = ((a ||| b : Nat) : Int) := by
  have hx : a ||| b < 2 ^ 63 := Nat.or_lt_two_pow (by omega) (by omega)
  show IntKind.i64.wrap ((BitVec.ofInt 64 (a : Int) ||| BitVec.ofInt 64 (b : Int)).toNat : Int) = _
  rw [BitVec.toNat_or, ofInt_u64 a (by omega), ofInt_u64 b (by omega)]
  simp [IntKind.wrap, IntKind.bits, IntKind.signed]
  omega
theorem orpow36 {s X : Nat} (hs : s < 1152921504606846976) (h : X < 60) : bits .or .i64 (s : Int) (wrap64 ((2 : Int) ^ X)) = ((s ||| 2 ^ X : Nat) : Int) := by
  have : 2 ^ X < 2 ^ 60 := Nat.pow_lt_pow_right (by omega) h
  have : (2 : Nat) ^ 60 = 1152921504606846976 := rfl
  rw [wrap_pow8 h, or36 _ _ (by omega) (by omega)]

set_option maxHeartbeats 4000000 in
theorem rigid36_any (n : Nat) (A : Option Addr) (m c : Nat) (es : List (Int × Int)) (S : Nat) (w : World) (hn : n ≤ 7) (hm : m ≤ 90) (hS : S < 2 ^ n) (he : Rd w 2 A m (prs es)) (hok : ∀ e ∈ es, OkE n e) :
    Calls Try.prog 93 #[.agg #[.int .i64 n, .slice A m c], .int .i64 S] w fun e w' => e = .returned (.bool (decide (RigS es S))) ∧ Below w.heap.size w w' := by
  have HE := Lib.hid he.prs_len
  have X0 : Hid (BC w n A m c (w.alloc (.cells #[.int .i64 (n : Int), .slice A m c] 24))) := Lib.hid BC.start
  have H1 := Lib.hid (he.keep X0.out.keeps)
  obtain ⟨hz1, p0, p1⟩ := X0.out.facts
  have hS60 : S < 1152921504606846976 := by have : 2 ^ n ≤ 2 ^ 7 := Nat.pow_le_pow_right (by omega) hn; omega
  have hc60 := cntB_le 60 S
  have SZ : Hid (∀ W, Calls Try.prog 125 #[.int .i64 S] W fun e w' => e = .returned (.int .i64 (cntB 60 S : Nat)) ∧ W = w') := Lib.hid fun W => size36_any S W hS60
  have hrk : rkS es S ≤ 1000 := by have := rkK_len es S m; have h2 := rkK_end es S; rw [HE.out] at h2; omega
  have RK : Hid (∀ W, Rd W 2 A m (prs es) → Calls Try.prog 126 #[.agg #[.int .i64 n, .slice A m c], .int .i64 S] W fun e w' => e = .returned (.int .i64 (rkS es S : Nat)) ∧ Below W.heap.size W w') := Lib.hid fun W h => rank36_any n A m c es S W hn hm hS h hok
  have hdef : RigS es S ↔ (2 ≤ cntB 60 S ∧ (rkS es S : Int) = 2 * (cntB 60 S : Int) - 3) := Iff.rfl
  have DF : Hid (∀ b, (decide (2 ≤ cntB 60 S) && decide ((rkS es S : Int) = 2 * (cntB 60 S : Int) - 3)) = b → decide (RigS es S) = b) := Lib.hid fun b h => by
    rw [← h, Bool.eq_iff_iff]; simp [hdef]
  clear he hok hS hdef
  generalize decide (RigS es S) = r at DF ⊢
  generalize cntB 60 S = cc at SZ DF hc60
  generalize rkS es S = rk at RK DF hrk
  by_cases h2 : 2 ≤ cc
  · have h2i : decide ((2 : Int) ≤ (cc : Int)) = true := decide_eq_true (by omega)
    cases h3 : ((rk : Int) == 2 * (cc : Int) - 3)
    all_goals
      have hh : Hid (r = ((rk : Int) == 2 * (cc : Int) - 3)) := Lib.hid (DF.out _ (by rw [decide_eq_true h2, Bool.true_and]; first | rfl | (rw [Bool.eq_iff_iff]; simp)))
      rw [h3] at hh
      clear h2
      go_enter Try.func93, Try.ntmps93
      go_wp2_with (first
        | (go_at_call 125; refine (SZ.out _).mono ?_; rintro e w5 ⟨rfl, rfl⟩)
        | (go_at_call 126; refine (RK.out _ H1.out).mono ?_; rintro e w6 ⟨rfl, hb6⟩; have B6 := Lib.hid (X0.out.next hb6); clear hb6)
        | fail)
      go_ret
      exact ⟨ret_bool hh.out.symm, B6.out.below⟩
  · have h2i : decide ((2 : Int) ≤ (cc : Int)) = false := decide_eq_false (by omega)
    have hh : Hid (r = false) := Lib.hid (DF.out _ (by rw [decide_eq_false h2, Bool.false_and]))
    clear h2
    go_enter Try.func93, Try.ntmps93
    go_wp2_with (first
      | (go_at_call 125; refine (SZ.out _).mono ?_; rintro e w5 ⟨rfl, rfl⟩)
      | fail)
    go_ret
    exact ⟨ret_bool hh.out.symm, X0.out.below⟩
theorem rigid36_b {b : Bool} (n : Nat) (A : Option Addr) (m c : Nat) (es : List (Int × Int)) (S : Nat) (w : World) (hn : n ≤ 7) (hm : m ≤ 90) (hS : S < 2 ^ n) (he : Rd w 2 A m (prs es)) (hok : ∀ e ∈ es, OkE n e) (hb : decide (RigS es S) = b) :
    Calls Try.prog 93 #[.agg #[.int .i64 n, .slice A m c], .int .i64 S] w fun e w' => e = .returned (.bool b) ∧ Below w.heap.size w w' := by subst hb; exact rigid36_any n A m c es S w hn hm hS he hok

theorem ptsK_more {S i : Nat} (h : S < 2 ^ i) : ∀ d, ptsK (i + d) S = ptsK i S
  | 0 => rfl
  | d + 1 => by
    rw [show i + (d + 1) = (i + d) + 1 by omega, ptsK_miss (Nat.testBit_lt_two_pow (Nat.lt_of_lt_of_le h (Nat.pow_le_pow_right (by omega) (by omega)))), ptsK_more h d]
theorem ptsK_fin {S i n : Nat} (h : S < 2 ^ i) (hS : S < 2 ^ n) : ptsK i S = ptsK n S := by
  rcases Nat.le_total i n with hin | hin
  · obtain ⟨d, rfl⟩ := Nat.exists_eq_add_of_le hin
    exact (ptsK_more h d).symm
  · obtain ⟨d, rfl⟩ := Nat.exists_eq_add_of_le hin
    exact ptsK_more hS d
set_option maxHeartbeats 4000000 in
theorem list36_any (n S : Nat) (w : World) (hn : n ≤ 50) (hS : S < 2 ^ n) :
    Calls Try.prog 94 #[.int .i64 S] w (IntsPost w (ptsK n S)) := by
  have hS60 : S < 1152921504606846976 := by have : 2 ^ n ≤ 2 ^ 60 := Nat.pow_le_pow_right (by omega) (by omega); have : (2 : Nat) ^ 60 = 1152921504606846976 := rfl; omega
  have HS := Lib.hid hS
  clear hS
  go_enter Try.func94, Try.ntmps94
  go_wp2_with fail
  go_loopg [0, 3, 4] S (fun g sv o t wr => ∃ (i T : Nat) (D : Option Addr) (l cD : Nat), T = S / 2 ^ i ∧ i ≤ n ∧ g = T ∧ sv = .int .i64 T ∧ t = .int .i64 i ∧ o = .slice D l cD ∧ (ptsK i S).length = l ∧ Own wr w.heap.size 3 1 D l cD (ints (ptsK i S)) ∧ Below w.heap.size w wr)
  case atStart => exact ⟨0, S, none, 0, 0, by simp, by omega, rfl, rfl, rfl, rfl, rfl, Own.nil _ _ _ _, Below.refl _ _⟩
  case round =>
    obtain ⟨i, T, D, l, cD, hT, hin, rfl, rfl, rfl, rfl, hl, ho, hb⟩ := hrel
    have HT := Lib.hid hT
    have HL := Lib.hid hl
    have HO := Lib.hid ho
    have HB := Lib.hid hb
    have hsz := hb.size
    have hli : l ≤ i := by rw [← hl]; exact ptsK_length_le i S
    have hTS : gk ≤ S := by rw [hT]; exact Nat.div_le_self _ _
    have hbit := shr_bit S i
    have hcast : ((S : Int) / 2 ^ i) = (gk : Int) := by rw [hT, Int.natCast_ediv]; norm_cast
    rw [hcast, Int.tmod_eq_emod_of_nonneg (Int.natCast_nonneg _)] at hbit
    have NX : Hid (gk / 2 = S / 2 ^ (i + 1)) := Lib.hid (by rw [hT, Nat.div_div_eq_div_mul, Nat.pow_succ])
    have LT : Hid (0 < gk → i < n) := Lib.hid fun h => by
      rcases Nat.lt_or_ge i n with h1 | h1
      · exact h1
      · have h2 := HS.out
        have : 2 ^ n ≤ 2 ^ i := Nat.pow_le_pow_right (by omega) h1
        rw [hT, Nat.div_eq_of_lt (by omega)] at h
        omega
    have ZR : Hid (gk = 0 → S < 2 ^ i) := Lib.hid fun h => by
      rw [hT] at h
      exact (Nat.div_eq_zero_iff_lt (Nat.two_pow_pos i)).1 h
    clear hT hl ho hb hcast
    by_cases h0 : 0 < gk
    · have hi := LT.out h0
      cases hX : S.testBit i
      · rw [hX] at hbit
        have e1 : Hid (ptsK (i + 1) S = ptsK i S) := Lib.hid (ptsK_miss hX)
        clear hX
        go_wp2_with fail
        go_roundg (gk / 2)
        case measure => omega
        case rel => exact ⟨i + 1, gk / 2, D, l, cD, NX.out, by omega, rfl, by go_num, by go_num, rfl, by rw [e1.out]; exact HL.out, by rw [e1.out]; exact HO.out, HB.out⟩
      · rw [hX] at hbit
        have e1 : Hid (ptsK (i + 1) S = ptsK i S ++ [(i : Int)]) := Lib.hid (ptsK_hit hX)
        clear hX
        go_wp2_with (first
          | (at_builtin; refine wpList_app _ rfl (.tmp 12) (.tmp 14) 27 rfl w.heap.size 3 (.int .i64 0) 1 8 Try.underlying27 info_int' rfl (by decide) D l cD (ints (ptsK i S)) rfl (HO.out.alloc _) (some ⟨wr.heap.size, 0, none⟩) 1 1 (ints [(i : Int)]) rfl (rd_lit_at rfl [(i : Int)] _) (ints_one _) (by omega) (by unfold maxLen; omega) (by simp; omega) ?_; intro B7 c7 w7 ho7 hg7 hb7; have O7 := Lib.hid ho7; have BL7 := Lib.hid ((HB.out.alloc hsz (.cells #[.int .i64 (i : Int)] 3)).grown hg7 (by simp; omega) (fun k hk => (HO.out.lt hk).1)); clear ho7 hg7 hb7)
          | fail)
        go_roundg (gk / 2)
        case measure => omega
        case rel => exact ⟨i + 1, gk / 2, B7, l + 1, c7, NX.out, by omega, rfl, by go_num, by go_num, rfl, by rw [e1.out, List.length_append, HL.out]; rfl, by rw [e1.out, ints_app]; exact O7.out, BL7.out⟩
    · have hT0 : gk = 0 := by omega
      have hz := ZR.out hT0
      have e1 : Hid (ptsK i S = ptsK n S) := Lib.hid (ptsK_fin hz HS.out)
      subst hT0
      clear hz
      go_wp2_with fail
      go_ret
      refine ⟨HB.out, D, cD, ?_, ?_⟩
      · rw [← e1.out, HL.out]; rfl
      · rw [← e1.out, HL.out]; exact HO.out
end Go.Proofs.Ytagcaljpgifppaa
