/-
  setsquareref36: size, within, sparse.
-/
import Derived.Test.YtagcaljpgifppaaMc
import Derived.Test.YtagcaljpgifppaaSpecG
import Derived.Test.YtagcaljpgifppaaKa
namespace Go.Proofs.Ytagcaljpgifppaa
set_option linter.unusedVariables false
set_option linter.unusedSimpArgs false
open Go.RowKit Go.Sort
attribute [local go_sem ↓] Go.wp_at_zero Go.wp_at_succ

set_option maxHeartbeats 1000000 in
theorem size36_any (S : Nat) (w : World) (hS : S < 1152921504606846976) :
    Calls Try.prog 125 #[.int .i64 S] w fun e w' => e = .returned (.int .i64 (cntB 60 S : Nat)) ∧ w = w' := by
  generalize hc : cntB 60 S = c
  have HC := Lib.hid hc
  have hc60 := cntB_le 60 S
  rw [hc] at hc60
  clear hc
  go_enter Try.func125, Try.ntmps125
  go_wp2
  go_loop [0, 3] (fun sv nv => ∃ (T n : Nat), T ≤ S ∧ n + cntB 60 T = c ∧ sv = .int .i64 T ∧ nv = .int .i64 n) (fun sv _ => (intOf sv).toNat)
  case atStart => exact ⟨S, 0, Nat.le_refl _, by rw [HC.out]; omega, rfl, rfl⟩
  case round =>
    obtain ⟨T, n, hT, hn, rfl, rfl⟩ := hrel
    have hn60 : n ≤ 60 := by omega
    have HN := Lib.hid hn
    clear hn
    by_cases h : 0 < T
    · go_wp2
      go_round
      case rel => exact ⟨T / 2, n + T % 2, by omega, by have := cntB_step (T := T) (by have : (2 : Nat) ^ 60 = 1152921504606846976 := rfl; omega); have := HN.out; omega, by go_num, by go_num⟩
      case measure => simp [intOf]; omega
    · have hT0 : T = 0 := by omega
      subst hT0
      have hnc : n = c := by have := HN.out; rw [cntB_zero] at this; omega
      subst hnc
      go_wp2
      go_ret
      exact ⟨rfl, rfl⟩
theorem size36_n {c : Nat} (S : Nat) (w : World) (hS : S < 1152921504606846976) (hc : cntB 60 S = c) :
    Calls Try.prog 125 #[.int .i64 S] w fun e w' => e = .returned (.int .i64 (c : Nat)) ∧ w = w' := by subst hc; exact size36_any S w hS

set_option maxHeartbeats 1000000 in
theorem within36_any (x y S : Nat) (w : World) (hx : x < 60) (hy : y < 60) (hS : S < 1152921504606846976) :
    Calls Try.prog 152 #[.agg #[.int .i64 x, .int .i64 y], .int .i64 S] w fun e w' => e = .returned (.bool (S.testBit x && S.testBit y)) ∧ Below w.heap.size w w' := by
  have hb1 := shr_bit S x
  have hb2 := shr_bit S y
  have bl : Hid (Below w.heap.size w (w.alloc (.cells #[.int .i64 (x : Int), .int .i64 (y : Int)] 42))) := Lib.hid ((Below.refl _ _).alloc (Nat.le_refl _) _)
  cases h1 : S.testBit x
  · rw [h1] at hb1
    clear h1
    go_enter Try.func152, Try.ntmps152
    go_wp2_with fail
    go_ret
    exact ⟨rfl, bl.out⟩
  · rw [h1] at hb1
    clear h1
    cases h2 : S.testBit y
    all_goals
      rw [h2] at hb2
      clear h2
      go_enter Try.func152, Try.ntmps152
      go_wp2_with fail
      go_ret
      exact ⟨rfl, bl.out⟩
theorem within36_b {b : Bool} (x y S : Nat) (w : World) (hx : x < 60) (hy : y < 60) (hS : S < 1152921504606846976) (hb : (S.testBit x && S.testBit y) = b) :
    Calls Try.prog 152 #[.agg #[.int .i64 x, .int .i64 y], .int .i64 S] w fun e w' => e = .returned (.bool b) ∧ Below w.heap.size w w' := by subst hb; exact within36_any x y S w hx hy hS

set_option maxRecDepth 100000 in
set_option maxHeartbeats 4000000 in
theorem sparse36_any (n : Nat) (A : Option Addr) (m c : Nat) (es : List (Int × Int)) (w : World) (hn : n ≤ 8) (hm : m ≤ 100) (he : Rd w 2 A m (prs es)) (hok : ∀ e ∈ es, OkE n e) :
    Calls Try.prog 153 #[.int .i64 n, .slice A m c] w fun e w' => e = .returned (.bool (indB es)) ∧ Below w.heap.size w w' := by
  have HE := Lib.hid he.prs_len
  have H1 := Lib.hid he
  have HOK := Lib.hid hok
  have hQ : 2 ^ n ≤ 256 := by
    have : (2 : Nat) ^ n ≤ 2 ^ 8 := Nat.pow_le_pow_right (by omega) hn
    simpa using this
  have hw := wrap_pow8 (X := n) (by omega)
  have hall := Lib.hid (indB_sets (n := n) (es := es) (by omega) hok)
  have hcw : Hid (∀ S, S < 2 ^ n → cntB 60 S = cntB n S) := Lib.hid fun S hS => cntB_wide (by omega) hS
  generalize indB es = b at hall
  generalize 2 ^ n = Q at hQ hw hall hcw
  clear he hok
  go_enter Try.func153, Try.ntmps153
  go_wp2_with fail
  go_loopg [5, 6, 7] Q (fun g s _ _ wr => ∃ S : Nat, S ≤ Q ∧ g = Q - S ∧ s = .int .i64 S ∧ (∀ T, T < S → okN n es T) ∧ Below w.heap.size w wr)
  case atStart => exact ⟨0, by omega, rfl, rfl, fun T hT => by omega, Below.refl _ _⟩
  case round =>
    obtain ⟨S, hS, rfl, rfl, hT, hb⟩ := hrel
    have HT := Lib.hid hT
    have HB := Lib.hid hb
    clear hT hb
    by_cases hlt : S < Q
    · have SZ : Hid (∀ W, Calls Try.prog 125 #[.int .i64 S] W fun e w' => e = .returned (.int .i64 (cntB n S : Nat)) ∧ W = w') := Lib.hid fun W => size36_n S W (by omega) (hcw.out S hlt)
      go_wp2_with fail
      clear hw
      go_loopg [6, 7] m (fun g ev i wi => ∃ k : Nat, k ≤ m ∧ g = m - k ∧ ev = .int .i64 (spanS (es.take k) S) ∧ i = .int .i64 k ∧ Below wr.heap.size wr wi)
      case atStart => exact ⟨0, by omega, rfl, rfl, rfl, Below.refl _ _⟩
      case round =>
        obtain ⟨k, hk, rfl, rfl, rfl, hb3⟩ := hrel
        have HB3 := Lib.hid hb3
        have hs0 := spanS_nonneg (es.take k) S
        have hs1 := Int.le_trans (spanS_le (es.take k) S) (Int.ofNat_le.2 (List.length_take_le k es))
        rename World => wi
        clear hb3
        by_cases hkm : k < m
        · obtain ⟨ad, rfl, c0, c1⟩ := (H1.out.keep (Keeps.of_below (HB.out.trans (HB3.out.mono HB.out.size)) (Nat.le_refl _))).prs_at hkm
          obtain ⟨x, y, hxy, hx, hy, hne⟩ := edge_nat HOK.out (k := k) (by rw [HE.out]; exact hkm)
          rw [getD_edAt, hxy] at c0 c1
          simp only at c0 c1
          have hx1 : (es.getD k (0, 0)).1 = (x : Int) := by rw [getD_edAt, hxy]
          have hy1 : (es.getD k (0, 0)).2 = (y : Int) := by rw [getD_edAt, hxy]
          have hst := spanS_step (S := S) (by rw [HE.out]; exact hkm) hx1 hy1
          generalize spanS (es.take k) S = s at hs0 hs1 hst
          have HST := Lib.hid hst
          have WI : Hid (∀ b W, (S.testBit x && S.testBit y) = b → Calls Try.prog 152 #[.agg #[.int .i64 (x : Int), .int .i64 (y : Int)], .int .i64 (S : Int)] W fun e w' => e = .returned (.bool b) ∧ Below W.heap.size W w') := Lib.hid fun b W h => within36_b x y S W (by omega) (by omega) (by omega) h
          clear hst hx1 hy1 hxy
          cases hX : (S.testBit x && S.testBit y)
          · go_wp2_with (first
              | (go_at_call 152; refine (WI.out false _ hX).mono ?_; rintro e w5 ⟨rfl, hb5⟩; have B5 := Lib.hid (HB3.out.trans (hb5.mono HB3.out.size)); clear hb5)
              | fail)
            go_roundg (m - (k + 1))
            case measure => omega
            case rel => exact ⟨k + 1, by omega, rfl, by rw [HST.out, Int.toNat_natCast, Int.toNat_natCast, hX]; simp, by go_num, B5.out⟩
          · go_wp2_with (first
              | (go_at_call 152; refine (WI.out true _ hX).mono ?_; rintro e w5 ⟨rfl, hb5⟩; have B5 := Lib.hid (HB3.out.trans (hb5.mono HB3.out.size)); clear hb5)
              | fail)
            go_roundg (m - (k + 1))
            case measure => omega
            case rel => exact ⟨k + 1, by omega, rfl, by rw [HST.out, Int.toNat_natCast, Int.toNat_natCast, hX, if_pos rfl], by go_num, B5.out⟩
        · obtain rfl : k = m := by omega
          have hfull : spanS (es.take k) S = spanS es S := by rw [List.take_of_length_le (by rw [HE.out]; exact Nat.le_refl _)]
          rw [hfull] at hs0 hs1 ⊢
          have hdef : okN n es S ↔ (2 ≤ cntB n S → spanS es S ≤ 2 * (cntB n S : Int) - 3) := Iff.rfl
          have hc60 := cntB_le n S
          generalize cntB n S = cc at hc60 hdef SZ ⊢
          generalize spanS es S = sp at hs0 hs1 hdef ⊢
          have HD := Lib.hid hdef
          clear hdef hfull
          by_cases h2 : 2 ≤ cc
          · have h2i : (2 : Int) ≤ (cc : Int) := by omega
            by_cases h3 : 2 * (cc : Int) - 3 < sp
            · have hbf : b = false := by
                cases hb : b
                · rfl
                · have := HD.out.1 (hall.out.1 hb S hlt) h2; omega
              have HBF := Lib.hid hbf
              clear hbf
              go_wp2_with (first
                | (go_at_call 125; refine (SZ.out _).mono ?_; rintro e w5 ⟨rfl, rfl⟩)
                | fail)
              go_ret
              exact ⟨ret_bool HBF.out.symm, HB.out.trans (HB3.out.mono HB.out.size)⟩
            · go_wp2_with (first
                | (go_at_call 125; refine (SZ.out _).mono ?_; rintro e w5 ⟨rfl, rfl⟩)
                | fail)
              go_roundg (Q - (S + 1))
              case measure => omega
              case rel => exact ⟨S + 1, by omega, rfl, by go_num, fun T hT => by
                by_cases e : T = S
                · rw [e]; exact HD.out.2 (fun _ => by omega)
                · exact HT.out T (by omega), HB.out.trans (HB3.out.mono HB.out.size)⟩
          · have h2i : ¬ (2 : Int) ≤ (cc : Int) := by omega
            go_wp2_with (first
              | (go_at_call 125; refine (SZ.out _).mono ?_; rintro e w5 ⟨rfl, rfl⟩)
              | fail)
            go_roundg (Q - (S + 1))
            case measure => omega
            case rel => exact ⟨S + 1, by omega, rfl, by go_num, fun T hT => by
              by_cases e : T = S
              · rw [e]; exact HD.out.2 (fun h => by omega)
              · exact HT.out T (by omega), HB.out.trans (HB3.out.mono HB.out.size)⟩
    · obtain rfl : S = Q := by omega
      have hbt : b = true := hall.out.2 HT.out
      have HBT := Lib.hid hbt
      clear hbt
      go_wp2_with fail
      go_ret
      exact ⟨ret_bool HBT.out.symm, HB.out⟩
theorem sparse36_b {b : Bool} (n : Nat) (A : Option Addr) (m c : Nat) (es : List (Int × Int)) (w : World) (hn : n ≤ 8) (hm : m ≤ 100) (he : Rd w 2 A m (prs es)) (hok : ∀ e ∈ es, OkE n e) (hb : indB es = b) :
    Calls Try.prog 153 #[.int .i64 n, .slice A m c] w fun e w' => e = .returned (.bool b) ∧ Below w.heap.size w w' := by subst hb; exact sparse36_any n A m c es w hn hm he hok
end Go.Proofs.Ytagcaljpgifppaa
