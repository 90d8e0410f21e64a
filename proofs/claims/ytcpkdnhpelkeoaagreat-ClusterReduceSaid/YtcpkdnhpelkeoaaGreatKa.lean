/-
  Lists of points, their order, tight sets and clusters; the lists' functions: joined texts.
-/
import Derived.Test.YtcpkdnhpelkeoaaGreatW5
import Derived.Test.YtcpkdnhpelkeoaaGreatG2
import Derived.Test.YtcpkdnhpelkeoaaGreatMp
import Derived.Test.YtcpkdnhpelkeoaaGreatSpecR
import Derived.Test.YtcpkdnhpelkeoaaGreatMa
import Derived.Test.YtcpkdnhpelkeoaaGreatG6
namespace Go.Proofs.YtcpkdnhpelkeoaaGreat
set_option linter.unusedVariables false
set_option linter.unusedSimpArgs false
open Go.RowKit Go.Sort

attribute [local go_sem ↓] Go.wp_at_zero Go.wp_at_succ
def upAt (ps : List Int) (i : Nat) : Bool := decide (0 ≤ ps.getD i 0) && (decide (i = 0) || decide (ps.getD (i - 1) 0 < ps.getD i 0))
def upB (ps : List Int) : Bool := (List.range ps.length).all (upAt ps)
theorem upB_no {ps : List Int} {i : Nat} (hi : i < ps.length) (h : upAt ps i = false) : upB ps = false := by
  unfold upB
  rw [List.all_eq_false]
  exact ⟨i, List.mem_range.2 hi, by rw [h]; simp⟩
theorem upB_all {ps : List Int} (h : ∀ j, j < ps.length → upAt ps j = true) : upB ps = true := List.all_eq_true.2 (fun j hj => h j (List.mem_range.1 hj))
theorem upAt_low {ps : List Int} {i : Nat} {x : Int} (hx : ps.getD i 0 = x) (h : x < 0) : upAt ps i = false := by
  unfold upAt; rw [hx, decide_eq_false (by omega), Bool.false_and]
theorem upAt_first {ps : List Int} {i : Nat} {x : Int} (hx : ps.getD i 0 = x) (h : 0 ≤ x) (hi : i = 0) : upAt ps i = true := by
  unfold upAt; rw [hx, decide_eq_true h, decide_eq_true hi]; rfl
theorem upAt_next {ps : List Int} {i : Nat} {x p : Int} (hx : ps.getD i 0 = x) (hp : ps.getD (i - 1) 0 = p) (h : 0 ≤ x) (hi : i ≠ 0) : upAt ps i = decide (p < x) := by
  unfold upAt; rw [hx, hp, decide_eq_true h, decide_eq_false hi]; rfl
theorem up_step {ps : List Int} {k : Nat} (h : ∀ j, j < k → upAt ps j = true) (hk : upAt ps k = true) : ∀ j, j < k + 1 → upAt ps j = true := fun j hj => by
  by_cases e : j = k
  · rw [e]; exact hk
  · exact h j (by omega)
set_option maxHeartbeats 2000000 in
theorem points36_any (P : Option Addr) (k d : Nat) (ps : List Int) (w : World) (hk : k ≤ 1152921504606846976) (hp : Rd w 1 P k (ints ps)) :
    Calls Tryz.prog 19 #[.slice P k d] w fun e w' => e = .returned (.bool (upB ps)) ∧ Below w.heap.size w w' := by
  have HP := Lib.hid hp.int_len
  have H2 := Lib.hid hp
  clear hp
  go_enter Tryz.func19, Tryz.ntmps19
  go_wp2_with fail
  go_loopg [3] k (fun g t wr => ∃ i : Nat, i ≤ k ∧ g = k - i ∧ t = .int .i64 i ∧ (∀ j, j < i → upAt ps j = true) ∧ Below w.heap.size w wr)
  case atStart => exact ⟨0, by omega, rfl, rfl, by omega, Below.refl _ _⟩
  case round =>
    obtain ⟨i, hik, rfl, rfl, hal, hb⟩ := hrel
    have HAL := Lib.hid hal
    have HB := Lib.hid hb
    have hsz := hb.size
    have R2 := Lib.hid (H2.out.keep (Keeps.of_below hb (Nat.le_refl _)))
    clear hal hb
    by_cases hlt : i < k
    · obtain ⟨ap, rfl, -, c0⟩ := R2.out.int_at hlt
      generalize hx : ps.getD i 0 = x at c0
      have k0 := grown_cell c0
      have HX := Lib.hid hx
      have HI : Hid (i < ps.length) := Lib.hid (by rw [HP.out]; exact hlt)
      clear hx
      by_cases h1 : x < 0
      · have d1 : decide (x < 0) = true := decide_eq_true h1
        have NO := Lib.hid (upAt_low HX.out h1)
        clear h1
        go_wp2_with fail
        refine wp_region_q (by kernel_rfl) (by kernel_rfl) ?_
        repeat (go_big_quiet_step (fail))
        refine wpQuiet_nil ?_
        intro wq hgq
        go_wp2_with fail
        go_ret
        exact ⟨ret_bool (upB_no HI.out NO.out).symm, HB.out.trans (hgq.mono hsz)⟩
      · have d1 : decide (x < 0) = false := decide_eq_false h1
        by_cases h3 : i = 0
        · have d3 : decide (0 < i) = false := decide_eq_false (by omega)
          have YES := Lib.hid (up_step HAL.out (upAt_first HX.out (by omega) h3))
          clear h1 h3
          go_wp2_with fail
          refine wp_region_q (by kernel_rfl) (by kernel_rfl) ?_
          repeat (go_big_quiet_step (fail))
          refine wpQuiet_nil ?_
          intro wq hgq
          go_wp2_with fail
          go_roundg (k - (i + 1))
          case measure => omega
          case rel => exact ⟨i + 1, by omega, rfl, by go_num, YES.out, HB.out.trans (hgq.mono hsz)⟩
        · have d3 : decide (0 < i) = true := decide_eq_true (by omega)
          have hm0 : (0 : Int) ≤ (i : Int) - 1 := by omega
          have hm1 : (i : Int) - 1 < (k : Int) := by omega
          obtain ⟨ap', e9, -, c1⟩ := R2.out.int_at (by omega : i - 1 < k)
          obtain rfl : ap = ap' := by injection e9
          generalize hp9 : ps.getD (i - 1) 0 = p at c1
          have hi1 : ((i : Int) - 1).toNat = i - 1 := by omega
          have k1 := grown_cell c1
          have EQ := Lib.hid (upAt_next HX.out hp9 (by omega) h3)
          clear hp9 e9 h1 h3
          by_cases h2 : x ≤ p
          · have d2 : decide (x ≤ p) = true := decide_eq_true h2
            have NO : Hid (upAt ps i = false) := Lib.hid (by rw [EQ.out, decide_eq_false (by omega)])
            clear h2
            go_wp2_with fail
            refine wp_region_q (by kernel_rfl) (by kernel_rfl) ?_
            repeat (go_big_quiet_step (fail))
            refine wpQuiet_nil ?_
            intro wq hgq
            go_wp2_with fail
            go_ret
            exact ⟨ret_bool (upB_no HI.out NO.out).symm, HB.out.trans (hgq.mono hsz)⟩
          · have d2 : decide (x ≤ p) = false := decide_eq_false h2
            have YES := Lib.hid (up_step HAL.out (show upAt ps i = true by rw [EQ.out, decide_eq_true (by omega)]))
            clear h2
            go_wp2_with fail
            refine wp_region_q (by kernel_rfl) (by kernel_rfl) ?_
            repeat (go_big_quiet_step (fail))
            refine wpQuiet_nil ?_
            intro wq hgq
            go_wp2_with fail
            go_roundg (k - (i + 1))
            case measure => omega
            case rel => exact ⟨i + 1, by omega, rfl, by go_num, YES.out, HB.out.trans (hgq.mono hsz)⟩
    · obtain rfl : i = k := by omega
      go_wp2_with fail
      go_ret
      exact ⟨ret_bool (upB_all (fun j hj => HAL.out j (by have := HP.out; omega))).symm, HB.out⟩

set_option maxHeartbeats 2000000 in
theorem list_any (P : Option Addr) (k d : Nat) (ps : List Int) (w : World) (hk : k ≤ 1152921504606846976) (hp : Rd w 1 P k (ints ps)) :
    Calls Tryz.prog 14 #[.slice P k d] w fun e w' => e = .returned (.bool (upB ps)) ∧ w = w' := by
  have HP := Lib.hid hp.int_len
  have H2 := Lib.hid hp
  clear hp
  go_enter Tryz.func14, Tryz.ntmps14
  go_wp2_with fail
  go_loop [7] (fun iv => ∃ i : Nat, i ≤ k ∧ iv = .int .i64 i ∧ (∀ j, j < i → upAt ps j = true)) (fun iv => k - (intOf iv).toNat)
  case atStart => exact ⟨0, Nat.zero_le _, rfl, by omega⟩
  case round =>
    obtain ⟨i, hik, rfl, hal⟩ := hrel
    have HAL := Lib.hid hal
    clear hal
    by_cases hlt : i < k
    · obtain ⟨ap, rfl, -, c0⟩ := H2.out.int_at hlt
      generalize hx : ps.getD i 0 = x at c0
      have HX := Lib.hid hx
      have HI : Hid (i < ps.length) := Lib.hid (by rw [HP.out]; exact hlt)
      clear hx
      by_cases h1 : x < 0
      · have d1 : decide (x < 0) = true := decide_eq_true h1
        have NO := Lib.hid (upAt_low HX.out h1)
        clear h1
        go_wp2_with fail
        go_ret
        exact ⟨ret_bool (upB_no HI.out NO.out).symm, rfl⟩
      · have d1 : decide (x < 0) = false := decide_eq_false h1
        by_cases h3 : i = 0
        · have d3 : decide (0 < i) = false := decide_eq_false (by omega)
          have YES := Lib.hid (up_step HAL.out (upAt_first HX.out (by omega) h3))
          clear h1 h3
          go_wp2_with fail
          go_round
          case rel => exact ⟨i + 1, by omega, by go_num, YES.out⟩
          case measure => simp [intOf]; omega
        · have d3 : decide (0 < i) = true := decide_eq_true (by omega)
          have hm0 : (0 : Int) ≤ (i : Int) - 1 := by omega
          have hm1 : (i : Int) - 1 < (k : Int) := by omega
          obtain ⟨ap', e9, -, c1⟩ := H2.out.int_at (by omega : i - 1 < k)
          obtain rfl : ap = ap' := by injection e9
          generalize hp9 : ps.getD (i - 1) 0 = p at c1
          have hi1 : ((i : Int) - 1).toNat = i - 1 := by omega
          have EQ := Lib.hid (upAt_next HX.out hp9 (by omega) h3)
          clear hp9 e9 h1 h3
          by_cases h2 : x ≤ p
          · have d2 : decide (x ≤ p) = true := decide_eq_true h2
            have NO : Hid (upAt ps i = false) := Lib.hid (by rw [EQ.out, decide_eq_false (by omega)])
            clear h2
            go_wp2_with fail
            go_ret
            exact ⟨ret_bool (upB_no HI.out NO.out).symm, rfl⟩
          · have d2 : decide (x ≤ p) = false := decide_eq_false h2
            have YES := Lib.hid (up_step HAL.out (show upAt ps i = true by rw [EQ.out, decide_eq_true (by omega)]))
            clear h2
            go_wp2_with fail
            go_round
            case rel => exact ⟨i + 1, by omega, by go_num, YES.out⟩
            case measure => simp [intOf]; omega
    · obtain rfl : i = k := by omega
      go_wp2_with fail
      go_ret
      exact ⟨ret_bool (upB_all (fun j hj => HAL.out j (by have := HP.out; omega))).symm, rfl⟩

set_option maxHeartbeats 2000000 in
theorem has36_any (P : Option Addr) (k d : Nat) (ps : List Int) (y : Int) (w : World) (hk : k ≤ 1152921504606846976) (hp : Rd w 1 P k (ints ps)) :
    Calls Tryz.prog 70 #[.slice P k d, .int .i64 y] w fun e w' => e = .returned (.bool (decide (y ∈ ps))) ∧ w = w' := by
  have HP := Lib.hid hp.int_len
  have H2 := Lib.hid hp
  clear hp
  go_enter Tryz.func70, Tryz.ntmps70
  go_wp2_with fail
  go_loop [5] (fun iv => ∃ i : Nat, i ≤ k ∧ iv = .int .i64 i ∧ (∀ j, j < i → ps.getD j 0 ≠ y)) (fun iv => k - (intOf iv).toNat)
  case atStart => exact ⟨0, Nat.zero_le _, rfl, by omega⟩
  case round =>
    obtain ⟨i, hik, rfl, hal⟩ := hrel
    have HAL := Lib.hid hal
    clear hal
    by_cases hlt : i < k
    · obtain ⟨ap, rfl, -, c0⟩ := H2.out.int_at hlt
      generalize hx : ps.getD i 0 = x at c0
      have HX := Lib.hid hx
      have HI : Hid (i < ps.length) := Lib.hid (by rw [HP.out]; exact hlt)
      clear hx
      cases h1 : (x == y)
      · go_wp2_with fail
        go_round
        case rel => exact ⟨i + 1, by omega, by go_num, fun j hj => by
          by_cases e : j = i
          · subst e; rw [HX.out]; simpa using h1
          · exact HAL.out j (by omega)⟩
        case measure => simp [intOf]; omega
      · go_wp2_with fail
        go_ret
        refine ⟨ret_bool ?_, rfl⟩
        symm
        rw [decide_eq_true_iff]
        have : x = y := by simpa using h1
        rw [← this, ← HX.out]
        exact mem_getD HI.out
    · obtain rfl : i = k := by omega
      go_wp2_with fail
      go_ret
      refine ⟨ret_bool ?_, rfl⟩
      symm
      rw [decide_eq_false_iff_not]
      intro hm
      obtain ⟨j, hj, e⟩ := getD_of_mem hm
      exact HAL.out j (by have := HP.out; omega) e
theorem has36_b {b : Bool} (P : Option Addr) (k d : Nat) (ps : List Int) (y : Int) (w : World) (hk : k ≤ 1152921504606846976) (hp : Rd w 1 P k (ints ps)) (hb : decide (y ∈ ps) = b) :
    Calls Tryz.prog 70 #[.slice P k d, .int .i64 y] w fun e w' => e = .returned (.bool b) ∧ w = w' := by
  subst hb; exact has36_any P k d ps y w hk hp
end Go.Proofs.YtcpkdnhpelkeoaaGreat

namespace Go.Proofs.YtcpkdnhpelkeoaaGreat
set_option linter.unusedVariables false
set_option linter.unusedSimpArgs false

def basE (es : List (Int × Int)) : List (Int × Int) := grd [] es
theorem basE_len (es : List (Int × Int)) : (basE es).length = rankE es := rfl
theorem basE_eq (es : List (Int × Int)) : grd [] es = basE es := rfl
theorem basE_ok {es : List (Int × Int)} (h : Ok60 es) : Ok60 (basE es) := grd_ok Ok60.nil h
theorem basE_spA {es : List (Int × Int)} (h : Ok60 es) : SpA (basE es) := grd_spA Ok60.nil h SpA.nil
theorem grd_sub : ∀ (l I : List (Int × Int)), ∃ t, grd I l = I ++ t ∧ t.Sublist l
  | [], I => ⟨[], by unfold grd; simp, List.Sublist.refl _⟩
  | e :: l, I => by
    rw [grd_cons]
    unfold addE
    split
    · obtain ⟨t, h1, h2⟩ := grd_sub l (I ++ [e])
      exact ⟨e :: t, by rw [h1]; simp, h2.cons_cons e⟩
    · obtain ⟨t, h1, h2⟩ := grd_sub l I
      exact ⟨t, h1, h2.cons e⟩
theorem basE_sub (es : List (Int × Int)) : (basE es).Sublist es := by
  obtain ⟨t, h1, h2⟩ := grd_sub es []
  unfold basE
  rw [h1]; simpa using h2
theorem basE_app (l r : List (Int × Int)) : basE (l ++ r) = grd (basE l) r := grd_app [] l r

/-- The edges determine the pair e: it adds nothing to the rank. -/
def impE (es : List (Int × Int)) (e : Int × Int) : Prop := rankE (es ++ [e]) = rankE es
theorem rankE_one {es : List (Int × Int)} {e : Int × Int} : rankE (es ++ [e]) = (addE (basE es) e).length := by
  unfold rankE; rw [grd_app, basE_eq, grd_cons]; unfold grd; rw [List.foldl_nil]
theorem impE_iff {es : List (Int × Int)} {e : Int × Int} (ho : Ok60 es) (he : OkE 60 e) : impE es e ↔ ¬ SpA (basE es ++ [e]) := by
  unfold impE
  rw [rankE_one]
  constructor
  · intro h hs
    rw [addE_yes (basE_ok ho) he hs] at h
    simp [basE_len] at h
  · intro h
    rw [addE_no (basE_ok ho) he h]; exact basE_len es
/-- A set whose span in the basis is as great as may be. -/
def Tg (es : List (Int × Int)) (S : Nat) : Prop := 2 ≤ cntB 60 S ∧ spanS (basE es) S = 2 * (cntB 60 S : Int) - 3
theorem impE_tight {es : List (Int × Int)} {e : Int × Int} (ho : Ok60 es) (he : OkE 60 e) : impE es e ↔ ∃ S, Tg es S ∧ bothB S e = true := by
  rw [impE_iff ho he]
  constructor
  · intro h
    obtain ⟨S, h2, h3⟩ := not_spA h
    have h4 := basE_spA ho S h2
    rw [spanS_app, spanS_one] at h3
    refine ⟨S, ⟨h2, ?_⟩, ?_⟩
    · split at h3 <;> omega
    · split at h3
      · assumption
      · omega
  · rintro ⟨S, ⟨h2, h3⟩, hb⟩ hs
    have := hs S h2
    rw [spanS_app, spanS_one, if_pos hb] at this
    omega
theorem impE_mem {es : List (Int × Int)} {e : Int × Int} (ho : Ok60 es) (hm : e ∈ es) : impE es e := by
  have he := ho e hm
  rw [impE_iff ho he]
  intro hs
  obtain ⟨l, r, rfl⟩ := List.append_of_mem hm
  have hl : Ok60 l := fun x hx => ho x (by simp [hx])
  have h1 : basE (l ++ e :: r) = grd (addE (basE l) e) r := by rw [basE_app, grd_cons]
  obtain ⟨t, h2, -⟩ := grd_sub r (addE (basE l) e)
  by_cases hq : SpA (basE l ++ [e])
  · rw [h1, h2, addE_yes (basE_ok hl) he hq] at hs
    -- e stands twice
    have hc : 2 ≤ cntB 60 (2 ^ e.1.toNat ||| 2 ^ e.2.toNat) := by
      refine he.two ?_
      unfold bothB
      simp [Nat.testBit_or, Nat.testBit_two_pow]
    have hcc : cntB 60 (2 ^ e.1.toNat ||| 2 ^ e.2.toNat) ≤ 2 := by
      have h := cntB_or_and 60 (2 ^ e.1.toNat) (2 ^ e.2.toNat)
      have h1 : ∀ p, cntB 60 (2 ^ p) ≤ 1 := fun p => by
        unfold cntB
        simp only [Nat.testBit_two_pow]
        by_cases hp : p < 60
        · rw [countP_eq_range 60 p hp]; omega
        · have : (List.range 60).countP (fun i => decide (p = i)) = 0 := by
            rw [List.countP_eq_zero]; intro i hi; have := List.mem_range.1 hi; simp; omega
          rw [this]; omega
      have := h1 e.1.toNat
      have := h1 e.2.toNat
      omega
    have hb : bothB (2 ^ e.1.toNat ||| 2 ^ e.2.toNat) e = true := by
      unfold bothB; simp [Nat.testBit_or, Nat.testBit_two_pow]
    have := hs _ hc
    simp only [spanS_app, spanS_one, if_pos hb] at this
    have a1 := spanS_nonneg (basE l) (2 ^ e.1.toNat ||| 2 ^ e.2.toNat)
    have a2 := spanS_nonneg t (2 ^ e.1.toNat ||| 2 ^ e.2.toNat)
    omega
  · rw [h1, h2, addE_no (basE_ok hl) he hq] at hs
    refine hq (SpA.left (r := t) (hs.perm ?_))
    rw [List.append_assoc, List.append_assoc]
    exact List.Perm.append_left _ List.perm_append_comm
theorem Tg.or {es : List (Int × Int)} {S T : Nat} (ho : Ok60 es) (hS : Tg es S) (hT : Tg es T) (h : 2 ≤ cntB 60 (S &&& T)) : Tg es (S ||| T) := by
  have h1 := cntB_or_and 60 S T
  have h2 := spanS_or_and (basE es) S T
  have h3 := basE_spA ho _ h
  have h5 : cntB 60 (S &&& T) ≤ cntB 60 S := by
    unfold cntB
    apply List.countP_mono_left
    intro i _ hi
    rw [Nat.testBit_and, Bool.and_eq_true] at hi
    exact hi.1
  have hT1 := hT.1
  have h4 := basE_spA ho (S ||| T) (by omega)
  exact ⟨by omega, by have := hS.2; have := hT.2; omega⟩
theorem cntB_pq {S p q : Nat} (hp : p < 60) (hq : q < 60) (h : p ≠ q) (h1 : S.testBit p = true) (h2 : S.testBit q = true) : 2 ≤ cntB 60 S := cntB_two hp hq (Ne.symm h) h1 h2
/-- If a set has at most one point, then it is that point. -/
theorem cntB_single {S p q : Nat} (hp : p < 60) (hq : q < 60) (h : cntB 60 S < 2) (h1 : S.testBit p = true) (h2 : S.testBit q = true) : p = q := by
  apply Classical.byContradiction
  intro hne
  have := cntB_pq hp hq hne h1 h2
  omega
theorem bit_or (S T p : Nat) : (S ||| T).testBit p = (S.testBit p || T.testBit p) := Nat.testBit_or ..
theorem bit_and (S T p : Nat) : (S &&& T).testBit p = (S.testBit p && T.testBit p) := Nat.testBit_and ..
/-- Three tight sets that share two points each in a ring of three points. -/
theorem Tg.three {es : List (Int × Int)} {A B C u v p : Nat} (ho : Ok60 es) (hA : Tg es A) (hB : Tg es B) (hC : Tg es C) (hu : u < 60) (hv : v < 60) (hp : p < 60) (huv : u ≠ v)
    (a1 : A.testBit u = true) (a2 : A.testBit v = true) (b1 : B.testBit p = true) (b2 : B.testBit u = true) (c1 : C.testBit p = true) (c2 : C.testBit v = true) :
    ∃ T, Tg es T ∧ T.testBit u = true ∧ T.testBit v = true ∧ T.testBit p = true ∧ ∀ i, A.testBit i = true → T.testBit i = true := by
  by_cases hAp : A.testBit p = true
  · exact ⟨A, hA, a1, a2, hAp, fun i h => h⟩
  have hpu : p ≠ u := fun e => hAp (by rw [e]; exact a1)
  have hpv : p ≠ v := fun e => hAp (by rw [e]; exact a2)
  by_cases hAB : 2 ≤ cntB 60 (A &&& B)
  · exact ⟨A ||| B, hA.or ho hB hAB, by simp [bit_or, a1], by simp [bit_or, a2], by simp [bit_or, b1], fun i h => by simp [bit_or, h]⟩
  by_cases hAC : 2 ≤ cntB 60 (A &&& C)
  · exact ⟨A ||| C, hA.or ho hC hAC, by simp [bit_or, a1], by simp [bit_or, a2], by simp [bit_or, c1], fun i h => by simp [bit_or, h]⟩
  by_cases hBC : 2 ≤ cntB 60 (B &&& C)
  · have h1 := hB.or ho hC hBC
    have h2 : 2 ≤ cntB 60 (A &&& (B ||| C)) := cntB_pq hu hv huv (by simp [bit_and, bit_or, a1, b2]) (by simp [bit_and, bit_or, a2, c2])
    exact ⟨A ||| (B ||| C), hA.or ho h1 h2, by simp [bit_or, a1], by simp [bit_or, a2], by simp [bit_or, b1], fun i h => by simp [bit_or, h]⟩
  have hB0 : (B &&& C).testBit p = true := by simp [bit_and, b1, c1]
  have hAB1 : 1 ≤ cntB 60 (A &&& B) := List.countP_pos_iff.2 ⟨u, List.mem_range.2 hu, by simp [bit_and, a1, b2]⟩
  have hAC1 : 1 ≤ cntB 60 (A &&& C) := List.countP_pos_iff.2 ⟨v, List.mem_range.2 hv, by simp [bit_and, a2, c2]⟩
  have hBC1 : 1 ≤ cntB 60 (B &&& C) := List.countP_pos_iff.2 ⟨p, List.mem_range.2 hp, hB0⟩
  have k1 := cntB_or_and 60 A B
  have k2 := cntB_or_and 60 (A ||| B) C
  have m1 := spanS_or_and (basE es) A B
  have m2 := spanS_or_and (basE es) (A ||| B) C
  -- an edge of the basis lies in at most one of the three
  have sp0 : ∀ X, cntB 60 X < 2 → spanS (basE es) X = 0 := by
    intro X hX
    unfold spanS
    have : (basE es).countP (bothB X) = 0 := by
      rw [List.countP_eq_zero]
      intro e he hb
      have := (basE_ok ho e he).two hb
      omega
    rw [this]; rfl
  have z1 := sp0 _ (by omega : cntB 60 (A &&& B) < 2)
  -- (A or B) and C holds v and p; the count is 2, and its span is that of edges within
  have k3 : cntB 60 ((A ||| B) &&& C) ≤ cntB 60 (A &&& C) + cntB 60 (B &&& C) := by
    have h := cntB_or_and 60 (A &&& C) (B &&& C)
    have e : (A ||| B) &&& C = (A &&& C) ||| (B &&& C) := Nat.and_or_distrib_right ..
    rw [e]; omega
  have k4 : 2 ≤ cntB 60 ((A ||| B) &&& C) := cntB_pq hv hp (Ne.symm hpv) (by simp [bit_and, bit_or, a2, c2]) (by simp [bit_and, bit_or, b1, c1])
  have hU : 2 ≤ cntB 60 ((A ||| B) ||| C) := cntB_pq hu hv huv (by simp [bit_or, a1]) (by simp [bit_or, a2])
  have top := basE_spA ho _ hU
  have key : spanS (basE es) A + spanS (basE es) B + spanS (basE es) C ≤ spanS (basE es) ((A ||| B) ||| C) := by
    have one : ∀ e ∈ basE es, (if bothB A e = true then 1 else 0) + (if bothB B e = true then 1 else 0) + (if bothB C e = true then 1 else 0) ≤ (if bothB ((A ||| B) ||| C) e = true then 1 else 0 : Nat) := by
      intro e he
      have hok := basE_ok ho e he
      have n1 : ¬ (bothB A e = true ∧ bothB B e = true) := fun ⟨x, y⟩ => by have := hok.two (bothB_and x y); omega
      have n2 : ¬ (bothB A e = true ∧ bothB C e = true) := fun ⟨x, y⟩ => by have := hok.two (bothB_and x y); omega
      have n3 : ¬ (bothB B e = true ∧ bothB C e = true) := fun ⟨x, y⟩ => by have := hok.two (bothB_and x y); omega
      have i1 : bothB A e = true → bothB ((A ||| B) ||| C) e = true := fun h => bothB_or (.inl (bothB_or (.inl h)))
      have i2 : bothB B e = true → bothB ((A ||| B) ||| C) e = true := fun h => bothB_or (.inl (bothB_or (.inr h)))
      have i3 : bothB C e = true → bothB ((A ||| B) ||| C) e = true := fun h => bothB_or (.inr h)
      cases hx : bothB A e <;> cases hy : bothB B e <;> cases hz : bothB C e <;> simp_all
    have all : ∀ l : List (Int × Int), (∀ e ∈ l, (if bothB A e = true then 1 else 0) + (if bothB B e = true then 1 else 0) + (if bothB C e = true then 1 else 0) ≤ (if bothB ((A ||| B) ||| C) e = true then 1 else 0 : Nat)) → l.countP (bothB A) + l.countP (bothB B) + l.countP (bothB C) ≤ l.countP (bothB ((A ||| B) ||| C)) := by
      intro l
      induction l with
      | nil => intro _; simp
      | cons e l ih =>
        intro h
        have h1 := h e (by simp)
        have h2 := ih (fun x hx => h x (by simp [hx]))
        simp only [List.countP_cons]
        omega
    have := all _ one
    unfold spanS
    omega
  have hA2 := hA.2
  have hB2 := hB.2
  have hC2 := hC.2
  refine ⟨(A ||| B) ||| C, ⟨hU, by omega⟩, by simp [bit_or, a1], by simp [bit_or, a2], by simp [bit_or, b1], fun i h => by simp [bit_or, h]⟩
theorem Tg.cut {n : Nat} {es : List (Int × Int)} {T : Nat} (hn : n ≤ 60) (hok : ∀ e ∈ es, OkE n e) (h : Tg es T) : Tg es (T % 2 ^ n) := by
  have ho : Ok60 es := fun e he => (hok e he).mono hn
  have hs : spanS (basE es) (T % 2 ^ n) = spanS (basE es) T := spanS_congr (fun e hm => by
    obtain ⟨p1, p2, p3, p4, p5⟩ := hok e ((basE_sub es).subset hm)
    unfold bothB
    rw [Nat.testBit_mod_two_pow, Nat.testBit_mod_two_pow, decide_eq_true (by omega : e.1.toNat < n), decide_eq_true (by omega : e.2.toNat < n), Bool.true_and, Bool.true_and])
  have hle : cntB 60 (T % 2 ^ n) ≤ cntB 60 T := by
    unfold cntB
    apply List.countP_mono_left
    intro i _ hi
    rw [Nat.testBit_mod_two_pow, Bool.and_eq_true] at hi
    exact hi.2
  have h2 : 2 ≤ cntB 60 (T % 2 ^ n) := by
    have hpos : 0 < (basE es).countP (bothB (T % 2 ^ n)) := by
      have h1 := h.1
      have h3 := h.2
      rw [← hs] at h3
      unfold spanS at h3
      omega
    obtain ⟨e, he, hb⟩ := List.countP_pos_iff.1 hpos
    exact (basE_ok ho e he).two hb
  have h4 := basE_spA ho _ h2
  have h5 := h.2
  exact ⟨h2, by omega⟩

/-- The point p belongs to the cluster of the pair u, v. -/
def inC (es : List (Int × Int)) (u v p : Nat) : Prop := p = u ∨ p = v ∨ (impE es ((p : Int), (u : Int)) ∧ impE es ((p : Int), (v : Int)))
theorem bothB_nat {T a b : Nat} : bothB T ((a : Int), (b : Int)) = (T.testBit a && T.testBit b) := by unfold bothB; simp
theorem okE_nat {n a b : Nat} (ha : a < n) (hb : b < n) (h : a ≠ b) : OkE n ((a : Int), (b : Int)) := ⟨by simp, by simp; omega, by simp, by simp; omega, by simp; omega⟩
/-- The points of a cluster form a tight set. -/
theorem cluster_set {n : Nat} {es : List (Int × Int)} {u v : Nat} (hn : n ≤ 60) (hok : ∀ e ∈ es, OkE n e) (hu : u < n) (hv : v < n) (huv : u ≠ v) (hi : impE es ((u : Int), (v : Int))) :
    ∃ T, T < 2 ^ n ∧ Tg es T ∧ ∀ p, p < n → (T.testBit p = true ↔ inC es u v p) := by
  have ho : Ok60 es := fun e he => (hok e he).mono hn
  have o60 : ∀ {a b : Nat}, a < n → b < n → a ≠ b → OkE 60 ((a : Int), (b : Int)) := fun ha hb h => (okE_nat ha hb h).mono hn
  obtain ⟨T0, t0, b0⟩ := (impE_tight ho (o60 hu hv huv)).1 hi
  rw [bothB_nat, Bool.and_eq_true] at b0
  have step : ∀ k, k ≤ n → ∃ T, Tg es T ∧ T.testBit u = true ∧ T.testBit v = true ∧ ∀ p, p < k → inC es u v p → T.testBit p = true := by
    intro k
    induction k with
    | zero => intro _; exact ⟨T0, t0, b0.1, b0.2, fun p hp => by omega⟩
    | succ k ih =>
      intro hk
      obtain ⟨T, t1, t2, t3, t4⟩ := ih (by omega)
      by_cases hT : T.testBit k = true
      · exact ⟨T, t1, t2, t3, fun p hp hc => by
          by_cases e : p = k
          · rw [e]; exact hT
          · exact t4 p (by omega) hc⟩
      · by_cases hc : inC es u v k
        · rcases hc with e | e | ⟨h1, h2⟩
          · exact absurd (by rw [e]; exact t2) hT
          · exact absurd (by rw [e]; exact t3) hT
          · have hku : k ≠ u := fun e => hT (by rw [e]; exact t2)
            have hkv : k ≠ v := fun e => hT (by rw [e]; exact t3)
            obtain ⟨B, hB, bB⟩ := (impE_tight ho (o60 (by omega) hu hku)).1 h1
            obtain ⟨C, hC, bC⟩ := (impE_tight ho (o60 (by omega) hv hkv)).1 h2
            rw [bothB_nat, Bool.and_eq_true] at bB bC
            obtain ⟨X, x1, x2, x3, x4, x5⟩ := Tg.three (u := u) (v := v) (p := k) ho t1 hB hC (by omega) (by omega) (by omega) huv t2 t3 bB.1 bB.2 bC.1 bC.2
            exact ⟨X, x1, x2, x3, fun p hp hc => by
              by_cases e : p = k
              · rw [e]; exact x4
              · exact x5 p (t4 p (by omega) hc)⟩
        · exact ⟨T, t1, t2, t3, fun p hp hc' => by
            by_cases e : p = k
            · rw [e] at hc'; exact absurd hc' hc
            · exact t4 p (by omega) hc'⟩
  obtain ⟨T, t1, t2, t3, t4⟩ := step n (Nat.le_refl _)
  refine ⟨T % 2 ^ n, Nat.mod_lt _ (Nat.two_pow_pos n), t1.cut hn hok, fun p hp => ?_⟩
  rw [Nat.testBit_mod_two_pow, decide_eq_true hp, Bool.true_and]
  refine ⟨fun h => ?_, t4 p hp⟩
  by_cases e1 : p = u
  · exact .inl e1
  by_cases e2 : p = v
  · exact .inr (.inl e2)
  refine .inr (.inr ⟨(impE_tight ho (o60 hp hu e1)).2 ⟨T, t1, ?_⟩, (impE_tight ho (o60 hp hv e2)).2 ⟨T, t1, ?_⟩⟩)
  · rw [bothB_nat, h, t2]; rfl
  · rw [bothB_nat, h, t3]; rfl

/-- The rank of the edges within a set. -/
def rkS (es : List (Int × Int)) (S : Nat) : Nat := rankE (es.filter (bothB S))
/-- A rigid set. -/
def RigS (es : List (Int × Int)) (S : Nat) : Prop := 2 ≤ cntB 60 S ∧ (rkS es S : Int) = 2 * (cntB 60 S : Int) - 3
theorem ok60_filter {es : List (Int × Int)} (h : Ok60 es) (p : Int × Int → Bool) : Ok60 (es.filter p) := fun e he => h e (List.mem_filter.1 he).1
theorem span_all {l : List (Int × Int)} {S : Nat} (h : ∀ e ∈ l, bothB S e = true) : spanS l S = l.length := by
  unfold spanS; rw [List.countP_eq_length.2 h]
theorem rkS_le {es : List (Int × Int)} {S : Nat} (ho : Ok60 es) (h : 2 ≤ cntB 60 S) : (rkS es S : Int) ≤ 2 * (cntB 60 S : Int) - 3 := by
  have h1 := basE_spA (ok60_filter ho (bothB S)) S h
  rw [span_all (fun e he => (List.mem_filter.1 ((basE_sub _).subset he)).2)] at h1
  exact h1
theorem rank_ge {J L : List (Int × Int)} (hL : Ok60 L) (hJ : SpA J) (h : J.Sublist L) : J.length ≤ rankE L := by
  obtain ⟨K, hK⟩ := h.exists_perm_append
  rw [rankE_perm hK hL]
  have hJo : Ok60 J := fun e he => hL e (h.subset he)
  unfold rankE
  rw [grd_app, grd_whole Ok60.nil hJo (by simpa using hJ)]
  have := (grd_len K ([] ++ J)).2
  simpa using this
theorem Tg.rig {es : List (Int × Int)} {S : Nat} (ho : Ok60 es) (h : Tg es S) : RigS es S := by
  refine ⟨h.1, ?_⟩
  have h1 := rkS_le ho h.1
  have h2 : ((basE es).filter (bothB S)).length ≤ rkS es S := by
    refine rank_ge (ok60_filter ho _) ?_ ((basE_sub es).filter _)
    intro X hX
    exact Int.le_trans (spanS_filter _ _ _) (basE_spA ho X hX)
  have h3 := h.2
  unfold spanS at h3
  rw [List.countP_eq_length_filter] at h3
  omega
theorem rig_imp {n : Nat} {es : List (Int × Int)} {S a b : Nat} (hn : n ≤ 60) (hok : ∀ e ∈ es, OkE n e) (h : RigS es S) (ha : a < n) (hb : b < n) (hab : a ≠ b) (h1 : S.testBit a = true) (h2 : S.testBit b = true) : impE es ((a : Int), (b : Int)) := by
  have ho : Ok60 es := fun e he => (hok e he).mono hn
  have he : OkE 60 ((a : Int), (b : Int)) := (okE_nat ha hb hab).mono hn
  have hperm : es.Perm (es.filter (bothB S) ++ es.filter (fun e => !bothB S e)) := (List.filter_append_perm (bothB S) es).symm
  have oF := ok60_filter ho (bothB S)
  have hno : ¬ SpA (basE (es.filter (bothB S)) ++ [((a : Int), (b : Int))]) := fun hs => by
    have := hs S h.1
    rw [spanS_app, spanS_one, if_pos (by rw [bothB_nat, h1, h2]; rfl), span_all (fun e he => (List.mem_filter.1 ((basE_sub _).subset he)).2)] at this
    have h3 := h.2
    unfold rkS at h3
    rw [← basE_len] at h3
    omega
  unfold impE
  have p1 : (es ++ [((a : Int), (b : Int))]).Perm (es.filter (bothB S) ++ [((a : Int), (b : Int))] ++ es.filter (fun e => !bothB S e)) := by
    refine (hperm.append_right _).trans ?_
    rw [List.append_assoc, List.append_assoc]
    exact List.Perm.append_left _ List.perm_append_comm
  rw [rankE_perm p1 (ho.app (Ok60.one he)), rankE_perm hperm ho]
  unfold rankE
  rw [grd_app, grd_app, grd_app]
  have : grd (grd [] (es.filter (bothB S))) [((a : Int), (b : Int))] = grd [] (es.filter (bothB S)) := by
    rw [basE_eq]
    unfold grd
    rw [List.foldl_cons, List.foldl_nil, addE_no (basE_ok oF) he hno]
  rw [this]
theorem rig_edge {es : List (Int × Int)} {S : Nat} (h : RigS es S) : ∃ e ∈ es, bothB S e = true := by
  have h1 : 0 < (basE (es.filter (bothB S))).length := by
    rw [basE_len]
    have h2 := h.2
    have h3 := h.1
    unfold rkS at h2
    omega
  obtain ⟨e, he⟩ := List.exists_mem_of_length_pos h1
  have := List.mem_filter.1 ((basE_sub _).subset he)
  exact ⟨e, this.1, this.2⟩
end Go.Proofs.YtcpkdnhpelkeoaaGreat

namespace Go.Proofs.YtcpkdnhpelkeoaaGreat
set_option linter.unusedVariables false
set_option linter.unusedSimpArgs false

/-- A list comes before another one. -/
def lexL : List Int → List Int → Bool
  | _, [] => false
  | [], _ :: _ => true
  | a :: l, b :: r => decide (a < b) || (decide (a = b) && lexL l r)
theorem lexL_nil (l : List Int) : lexL l [] = false := by cases l <;> rfl
theorem lexL_cons (a b : Int) (l r : List Int) : lexL (a :: l) (b :: r) = (decide (a < b) || (decide (a = b) && lexL l r)) := rfl
theorem lexL_irrefl : ∀ l : List Int, lexL l l = false
  | [] => rfl
  | a :: l => by rw [lexL_cons, lexL_irrefl l]; simp
theorem lexL_asymm : ∀ {l r : List Int}, lexL l r = true → lexL r l = false
  | [], r, _ => lexL_nil r
  | a :: l, [], h => by rw [lexL_nil] at h; cases h
  | a :: l, b :: r, h => by
    rw [lexL_cons] at h ⊢
    by_cases e : a = b
    · subst e
      simp at h ⊢
      exact lexL_asymm h
    · have e' : ¬ b = a := fun x => e x.symm
      simp [e, e'] at h ⊢
      omega
theorem lexL_trans : ∀ {a b c : List Int}, lexL a b = true → lexL b c = true → lexL a c = true
  | _, [], _, h, _ => by rw [lexL_nil] at h; cases h
  | _, _ :: _, [], _, h => by rw [lexL_nil] at h; cases h
  | [], _ :: _, _ :: _, _, _ => rfl
  | x :: a, y :: b, z :: c, h1, h2 => by
    rw [lexL_cons] at *
    simp only [Bool.or_eq_true, Bool.and_eq_true, decide_eq_true_eq] at *
    rcases h1 with h1 | ⟨rfl, h1⟩
    · rcases h2 with h2 | ⟨rfl, h2⟩
      · exact .inl (by omega)
      · exact .inl h1
    · rcases h2 with h2 | ⟨rfl, h2⟩
      · exact .inl h2
      · exact .inr ⟨rfl, lexL_trans h1 h2⟩
theorem lexL_total : ∀ {a b : List Int}, lexL a b = false → lexL b a = false → a = b
  | [], [], _, _ => rfl
  | [], _ :: _, h, _ => by cases h
  | _ :: _, [], _, h => by cases h
  | x :: a, y :: b, h1, h2 => by
    rw [lexL_cons] at *
    simp only [Bool.or_eq_false_iff, Bool.and_eq_false_iff, decide_eq_false_iff_not] at *
    have e : x = y := by omega
    subst e
    rw [lexL_total (a := a) (b := b) (by rcases h1.2 with h | h; exact absurd rfl h; exact h) (by rcases h2.2 with h | h; exact absurd rfl h; exact h)]
theorem lexL_drop : ∀ (i : Nat) {a b : List Int}, i ≤ a.length → i ≤ b.length → (∀ j, j < i → a.getD j 0 = b.getD j 0) → lexL a b = lexL (a.drop i) (b.drop i)
  | 0, a, b, _, _, _ => by simp
  | i + 1, [], b, h, _, _ => by simp at h
  | i + 1, _ :: _, [], _, h, _ => by simp at h
  | i + 1, x :: a, y :: b, h1, h2, h => by
    have e : x = y := by simpa using h 0 (by omega)
    subst e
    rw [lexL_cons, List.drop_succ_cons, List.drop_succ_cons, ← lexL_drop i (by simpa using h1) (by simpa using h2) (fun j hj => by simpa using h (j + 1) (by omega))]
    simp
/-- The first difference decides. -/
theorem lexL_at {i : Nat} {a b : List Int} {x y : Int} (h1 : i < a.length) (h2 : i < b.length) (h : ∀ j, j < i → a.getD j 0 = b.getD j 0) (hx : a.getD i 0 = x) (hy : b.getD i 0 = y) (hne : x ≠ y) : lexL a b = decide (x < y) := by
  rw [lexL_drop i (by omega) (by omega) h, List.drop_eq_getElem_cons h1, List.drop_eq_getElem_cons h2, lexL_cons]
  have e1 : a[i] = x := by rw [← hx, List.getD_eq_getElem?_getD, List.getElem?_eq_getElem h1]; rfl
  have e2 : b[i] = y := by rw [← hy, List.getD_eq_getElem?_getD, List.getElem?_eq_getElem h2]; rfl
  rw [e1, e2, decide_eq_false hne]; simp
theorem lexL_end {i : Nat} {a b : List Int} (h1 : i ≤ a.length) (h2 : i ≤ b.length) (hi : i = a.length ∨ i = b.length) (h : ∀ j, j < i → a.getD j 0 = b.getD j 0) : lexL a b = decide (a.length < b.length) := by
  rw [lexL_drop i h1 h2 h]
  rcases hi with rfl | rfl
  · rw [List.drop_length]
    rcases Nat.lt_or_ge a.length b.length with h' | h'
    · rw [List.drop_eq_getElem_cons h', decide_eq_true h']; rfl
    · rw [List.drop_eq_nil_of_le h', decide_eq_false (by omega)]; rfl
  · rw [List.drop_length, lexL_nil, decide_eq_false (by omega)]
def LtL (a b : List Int) : Prop := lexL a b = true
theorem strictL_eq : ∀ {a b : List (List Int)}, a.Pairwise LtL → b.Pairwise LtL → (∀ x, x ∈ a ↔ x ∈ b) → a = b
  | [], [], _, _, _ => rfl
  | [], y :: b, _, _, h => by have := (h y).2 (by simp); simp at this
  | x :: a, [], _, _, h => by have := (h x).1 (by simp); simp at this
  | x :: a, y :: b, ha, hb, h => by
    have asy : ∀ {p q : List Int}, LtL p q → ¬ LtL q p := fun {p q} h1 h2 => by unfold LtL at *; rw [lexL_asymm h1] at h2; cases h2
    have irr : ∀ {p : List Int}, ¬ LtL p p := fun {p} h1 => by unfold LtL at *; rw [lexL_irrefl] at h1; cases h1
    rw [List.pairwise_cons] at ha hb
    have hxy : x = y := by
      rcases List.mem_cons.1 ((h x).1 (by simp)) with e | e
      · exact e
      · rcases List.mem_cons.1 ((h y).2 (by simp)) with e' | e'
        · exact e'.symm
        · exact absurd (ha.1 _ e') (asy (hb.1 _ e))
    subst hxy
    have := strictL_eq ha.2 hb.2 (fun z => by
      have hz := h z
      simp only [List.mem_cons] at hz
      constructor
      · intro hm
        rcases hz.1 (.inr hm) with e | e
        · subst e; exact absurd (ha.1 _ hm) irr
        · exact e
      · intro hm
        rcases hz.2 (.inr hm) with e | e
        · subst e; exact absurd (hb.1 _ hm) irr
        · exact e)
    rw [this]
/-- What is sorted and has no double is strictly sorted. -/
theorem strictL_of {l : List (List Int)} (hd : l.Nodup) (hs : l.Pairwise fun x y => lexL y x = false) : l.Pairwise LtL := by
  refine hs.imp₂ (fun x y h1 h2 => ?_) hd
  unfold LtL
  cases h : lexL x y
  · exact absurd (lexL_total h h1) h2
  · rfl

instance impE_dec (es : List (Int × Int)) (e : Int × Int) : Decidable (impE es e) := by unfold impE; infer_instance
def inCb (es : List (Int × Int)) (u v p : Nat) : Bool := decide (p = u) || decide (p = v) || (decide (impE es ((p : Int), (u : Int))) && decide (impE es ((p : Int), (v : Int))))
theorem inCb_iff {es : List (Int × Int)} {u v p : Nat} : inCb es u v p = true ↔ inC es u v p := by
  unfold inCb inC; simp [or_assoc]
/-- The points of the cluster of a pair. -/
def clP (n : Nat) (es : List (Int × Int)) (u v : Nat) : List Int := ((List.range n).filter (inCb es u v)).map fun (i : Nat) => (i : Int)
theorem impE_symm {es : List (Int × Int)} {a b : Nat} (ho : Ok60 es) (ha : a < 60) (hb : b < 60) (hab : a ≠ b) (h : impE es ((a : Int), (b : Int))) : impE es ((b : Int), (a : Int)) := by
  obtain ⟨S, h1, h2⟩ := (impE_tight ho (okE_nat ha hb hab)).1 h
  rw [bothB_nat] at h2
  exact (impE_tight ho (okE_nat hb ha (Ne.symm hab))).2 ⟨S, h1, by rw [bothB_nat, Bool.and_comm]; exact h2⟩
theorem clP_set {n : Nat} {es : List (Int × Int)} {u v : Nat} (hn : n ≤ 60) (hok : ∀ e ∈ es, OkE n e) (hu : u < n) (hv : v < n) (huv : u ≠ v) (hi : impE es ((u : Int), (v : Int))) :
    ∃ T, T < 2 ^ n ∧ Tg es T ∧ clP n es u v = ptsK n T ∧ ∀ p, p < n → (T.testBit p = true ↔ inC es u v p) := by
  obtain ⟨T, t1, t2, t3⟩ := cluster_set hn hok hu hv huv hi
  refine ⟨T, t1, t2, ?_, t3⟩
  unfold clP ptsK
  congr 1
  refine List.filter_congr (fun p hp => ?_)
  rw [Bool.eq_iff_iff, inCb_iff, t3 p (List.mem_range.1 hp)]
theorem ptsK_inj {n S T : Nat} (hS : S < 2 ^ n) (hT : T < 2 ^ n) (h : ptsK n S = ptsK n T) : S = T := by
  apply Nat.eq_of_testBit_eq
  intro i
  by_cases hi : i < n
  · have h1 : ∀ X : Nat, X.testBit i = decide ((i : Int) ∈ ptsK n X) := fun X => by
      rw [Bool.eq_iff_iff, decide_eq_true_eq, ptsK_mem]
      simp
      omega
    rw [h1 S, h1 T, h]
  · rw [Nat.testBit_lt_two_pow (Nat.lt_of_lt_of_le hS (Nat.pow_le_pow_right (by omega) (by omega))), Nat.testBit_lt_two_pow (Nat.lt_of_lt_of_le hT (Nat.pow_le_pow_right (by omega) (by omega)))]
/-- S is a rigid set that no other one holds. -/
def MaxS (n : Nat) (es : List (Int × Int)) (S : Nat) : Prop := S < 2 ^ n ∧ RigS es S ∧ ∀ K, K < 2 ^ n → RigS es K → S &&& K = S → K = S
theorem and_sub {S K : Nat} : S &&& K = S ↔ ∀ i, S.testBit i = true → K.testBit i = true := by
  constructor
  · intro h i hi
    rw [← h, Nat.testBit_and, Bool.and_eq_true] at hi
    exact hi.2
  · intro h
    apply Nat.eq_of_testBit_eq
    intro i
    rw [Nat.testBit_and]
    cases hs : S.testBit i
    · rfl
    · rw [h i hs]; rfl
theorem lt_bit {n S i : Nat} (hS : S < 2 ^ n) (h : S.testBit i = true) : i < n := by
  rcases Nat.lt_or_ge i n with h' | h'
  · exact h'
  · rw [Nat.testBit_lt_two_pow (Nat.lt_of_lt_of_le hS (Nat.pow_le_pow_right (by omega) h'))] at h; cases h
/-- A rigid set that holds u and v lies within their cluster. -/
theorem rig_in {n : Nat} {es : List (Int × Int)} {K u v : Nat} (hn : n ≤ 60) (hok : ∀ e ∈ es, OkE n e) (hK : RigS es K) (hu : u < n) (hv : v < n) (h1 : K.testBit u = true) (h2 : K.testBit v = true) {p : Nat} (hp : p < n) (h : K.testBit p = true) : inC es u v p := by
  by_cases e1 : p = u
  · exact .inl e1
  by_cases e2 : p = v
  · exact .inr (.inl e2)
  exact .inr (.inr ⟨rig_imp hn hok hK hp hu e1 h h1, rig_imp hn hok hK hp hv e2 h h2⟩)
theorem nat_edge {n : Nat} {e : Int × Int} (h : OkE n e) : ∃ u v : Nat, e = ((u : Int), (v : Int)) ∧ u < n ∧ v < n ∧ u ≠ v := by
  obtain ⟨h1, h2, h3, h4, h5⟩ := h
  exact ⟨e.1.toNat, e.2.toNat, Prod.ext (by simp; omega) (by simp; omega), by omega, by omega, by omega⟩
/-- The clusters of the edges are the maximal rigid sets. -/
theorem clusters_iff {n : Nat} {es : List (Int × Int)} (hn : n ≤ 60) (hok : ∀ e ∈ es, OkE n e) (l : List Int) :
    (∃ e ∈ es, l = clP n es e.1.toNat e.2.toNat) ↔ ∃ S, MaxS n es S ∧ l = ptsK n S := by
  have ho : Ok60 es := fun e he => (hok e he).mono hn
  constructor
  · rintro ⟨e, he, rfl⟩
    obtain ⟨u, v, rfl, hu, hv, huv⟩ := nat_edge (hok e he)
    simp only [Int.toNat_natCast]
    obtain ⟨T, t1, t2, t3, t4⟩ := clP_set hn hok hu hv huv (impE_mem ho he)
    refine ⟨T, ⟨t1, t2.rig ho, fun K hK hR hsub => ?_⟩, t3⟩
    have hs := and_sub.1 hsub
    have hTu := (t4 u hu).2 (.inl rfl)
    have hTv := (t4 v hv).2 (.inr (.inl rfl))
    apply Nat.eq_of_testBit_eq
    intro i
    rw [Bool.eq_iff_iff]
    constructor
    · intro hi
      have hin := lt_bit hK hi
      exact (t4 i hin).2 (rig_in hn hok hR hu hv (hs u hTu) (hs v hTv) hin hi)
    · intro hi; exact hs i hi
  · rintro ⟨S, ⟨s1, s2, s3⟩, rfl⟩
    obtain ⟨e, he, hb⟩ := rig_edge s2
    refine ⟨e, he, ?_⟩
    obtain ⟨u, v, rfl, hu, hv, huv⟩ := nat_edge (hok e he)
    rw [bothB_nat, Bool.and_eq_true] at hb
    simp only [Int.toNat_natCast]
    obtain ⟨T, t1, t2, t3, t4⟩ := clP_set hn hok hu hv huv (impE_mem ho he)
    rw [t3]
    have := s3 T t1 (t2.rig ho) (and_sub.2 fun i hi => (t4 i (lt_bit s1 hi)).2 (rig_in hn hok s2 hu hv hb.1 hb.2 (lt_bit s1 hi) hi))
    rw [this]
/-- The clusters in order. -/
structure CluL (n : Nat) (es : List (Int × Int)) (ls : List (List Int)) : Prop where
  lt : ls.Pairwise LtL
  mem : ∀ l, l ∈ ls ↔ ∃ e ∈ es, l = clP n es e.1.toNat e.2.toNat
theorem CluL.unique {n : Nat} {es : List (Int × Int)} {a b : List (List Int)} (ha : CluL n es a) (hb : CluL n es b) : a = b := strictL_eq ha.lt hb.lt (fun x => by rw [ha.mem, hb.mem])
end Go.Proofs.YtcpkdnhpelkeoaaGreat

namespace Go.Proofs.YtcpkdnhpelkeoaaGreat
set_option linter.unusedVariables false
set_option linter.unusedSimpArgs false
open Go.RowKit Go.Sort

attribute [local go_sem ↓] Go.wp_at_zero Go.wp_at_succ
set_option maxHeartbeats 2000000 in
theorem less36_any (A B : Option Addr) (n c m d : Nat) (es fs : List Int) (w : World) (hn : n ≤ 1152921504606846976) (hm : m ≤ 1152921504606846976) (he : Rd w 1 A n (ints es)) (hf : Rd w 1 B m (ints fs)) :
    Calls Tryz.prog 13 #[.slice A n c, .slice B m d] w fun e w' => e = .returned (.bool (lexL es fs)) ∧ Below w.heap.size w w' := by
  have HE := Lib.hid he.int_len
  have HF := Lib.hid hf.int_len
  have H1 := Lib.hid he
  have H2 := Lib.hid hf
  clear he hf
  go_enter Tryz.func13, Tryz.ntmps13
  go_wp2_with fail
  go_loopg [5] n (fun g i wr => Below w.heap.size w wr ∧ ∃ k : Nat, k ≤ n ∧ k ≤ m ∧ g = n - k ∧ i = .int .i64 k ∧ ∀ j, j < k → es.getD j 0 = fs.getD j 0)
  case atStart => exact ⟨Below.refl _ _, 0, Nat.zero_le _, Nat.zero_le _, rfl, rfl, by omega⟩
  case round =>
    obtain ⟨hb, k, hk, hkm, rfl, rfl, hok⟩ := hrel
    have HOK := Lib.hid hok
    have HB := Lib.hid hb
    have K := Lib.hid (Keeps.of_below hb (Nat.le_refl _))
    clear hok hb
    by_cases hlt : k < n
    · have q1 : (k : Int) < (n : Int) := by omega
      by_cases hlt2 : k < m
      · have q2 : (k : Int) < (m : Int) := by omega
        obtain ⟨ad, rfl, -, c0⟩ := (H1.out.keep K.out).int_at hlt
        obtain ⟨ad', rfl, -, d0⟩ := (H2.out.keep K.out).int_at hlt2
        generalize hx : es.getD k 0 = x at c0
        generalize hu : fs.getD k 0 = u at d0
        have k0 := grown_cell c0
        have l0 := grown_cell d0
        have HX := Lib.hid hx
        have HU := Lib.hid hu
        clear hx hu
        cases h1 : (x != u)
        · go_wp2_with fail
          refine wp_region_q (by kernel_rfl) (by kernel_rfl) ?_
          repeat (go_big_quiet_step (fail))
          refine wpQuiet_nil ?_
          intro wq hgq
          go_wp2_with fail
          go_roundg (n - (k + 1))
          case measure => omega
          case rel => exact ⟨HB.out.trans (hgq.mono HB.out.size), k + 1, by omega, by omega, rfl, by go_num, fun j hj => by
             by_cases e : j = k
             · subst e; rw [HX.out, HU.out]; simpa using h1
             · exact HOK.out j (by omega)⟩
        · go_wp2_with fail
          refine wp_region_q (by kernel_rfl) (by kernel_rfl) ?_
          repeat (go_big_quiet_step (fail))
          refine wpQuiet_nil ?_
          intro wq hgq
          go_wp2_with fail
          have c0' := Keeps.of_below hgq (Nat.le_refl _) _ _ c0
          have d0' := Keeps.of_below hgq (Nat.le_refl _) _ _ d0
          have k1 := grown_cell c0'
          have l1 := grown_cell d0'
          have HGQ := Lib.hid hgq
          clear hgq
          refine wp_region_q (by kernel_rfl) (by kernel_rfl) ?_
          repeat (go_big_quiet_step (fail))
          refine wpQuiet_nil ?_
          intro wq2 hgq2
          go_wp2_with fail
          go_ret
          refine ⟨ret_bool ?_, (HB.out.trans (HGQ.out.mono HB.out.size)).trans (hgq2.mono (HB.out.trans (HGQ.out.mono HB.out.size)).size)⟩
          exact (lexL_at (by rw [HE.out]; exact hlt) (by rw [HF.out]; exact hlt2) HOK.out HX.out HU.out (by simpa using h1)).symm
      · have q2 : ¬ (k : Int) < (m : Int) := by omega
        go_wp2_with fail
        go_ret
        refine ⟨ret_bool ?_, HB.out⟩
        have := lexL_end (i := k) (a := es) (b := fs) (by rw [HE.out]; omega) (by rw [HF.out]; omega) (.inr (by rw [HF.out]; omega)) HOK.out
        rw [this, HE.out, HF.out]
    · obtain rfl : k = n := by omega
      go_wp2_with fail
      go_ret
      refine ⟨ret_bool ?_, HB.out⟩
      have := lexL_end (i := k) (a := es) (b := fs) (by rw [HE.out]; omega) (by rw [HF.out]; omega) (.inl (by rw [HE.out])) HOK.out
      rw [this, HE.out, HF.out]
theorem less36_b {b : Bool} (A B : Option Addr) (n c m d : Nat) (es fs : List Int) (w : World) (hn : n ≤ 1152921504606846976) (hm : m ≤ 1152921504606846976) (he : Rd w 1 A n (ints es)) (hf : Rd w 1 B m (ints fs)) (hb : lexL es fs = b) :
    Calls Tryz.prog 13 #[.slice A n c, .slice B m d] w fun e w' => e = .returned (.bool b) ∧ Below w.heap.size w w' := by
  subst hb; exact less36_any A B n c m d es fs w hn hm he hf

def lensL (ls : List (List Int)) : Prop := ∀ k, (ls.getD k []).length ≤ 1152921504606846976
set_option maxHeartbeats 4000000 in
theorem same36_any (A B : Option Addr) (n c m d : Nat) (ls ms : List (List Int)) (w : World) (hn : n ≤ 1152921504606846976) (hm : m ≤ 1152921504606846976) (hls : lensL ls) (hms : lensL ms) (he : RdL w A n ls) (hf : RdL w B m ms) :
    Calls Tryz.prog 5 #[.slice A n c, .slice B m d] w fun e w' => e = .returned (.bool (decide (ls = ms))) ∧ Below w.heap.size w w' := by
  have HE : Hid (ls.length = n) := Lib.hid he.1
  have HF : Hid (ms.length = m) := Lib.hid hf.1
  have H1 := Lib.hid he
  have H2 := Lib.hid hf
  have HL1 := Lib.hid hls
  have HL2 := Lib.hid hms
  clear he hf hls hms
  by_cases hnm : n = m
  · subst hnm
    have hbn : ((n : Int) != (n : Int)) = false := by simp
    go_enter Tryz.func5, Tryz.ntmps5
    go_wp2_with fail
    go_loopg [5] n (fun g i wr => Below w.heap.size w wr ∧ ∃ k : Nat, k ≤ n ∧ g = n - k ∧ i = .int .i64 k ∧ ∀ j, j < k → ls.getD j [] = ms.getD j [])
    case atStart => exact ⟨Below.refl _ _, 0, Nat.zero_le _, rfl, rfl, by omega⟩
    case round =>
      obtain ⟨hb, k, hk, rfl, rfl, hok⟩ := hrel
      have HOK := Lib.hid hok
      have HB := Lib.hid hb
      have K := Lib.hid (Keeps.of_below hb (Nat.le_refl _))
      clear hok hb
      by_cases hlt : k < n
      · obtain ⟨ad, A1, e1, rfl, c0, r1⟩ := (H1.out.keep K.out).at hlt
        obtain ⟨ad', B1, e2, rfl, d0, r2⟩ := (H2.out.keep K.out).at hlt
        have b1 := HL1.out k
        have b2 := HL2.out k
        generalize hx : ls.getD k [] = x at c0 r1 b1
        generalize hu : ms.getD k [] = u at d0 r2 b2
        have k0 := grown_cell c0
        have l0 := grown_cell d0
        have HX := Lib.hid hx
        have HU := Lib.hid hu
        have R1 := Lib.hid r1
        have R2 := Lib.hid r2
        have cA := call_q (w := wr) (fun w' hw => less36_any A1 B1 x.length e1 u.length e2 x u w' b1 b2 (R1.out.keep hw) (R2.out.keep hw))
        have cB := call_q (w := wr) (fun w' hw => less36_any B1 A1 u.length e2 x.length e1 u x w' b2 b1 (R2.out.keep hw) (R1.out.keep hw))
        have LX := Lib.hid (show lexL x u = lexL x u from rfl)
        have fin : Hid (lexL x u = true ∨ lexL u x = true → decide (ls = ms) = false) := Lib.hid (by
          intro h
          rw [decide_eq_false_iff_not]
          intro e
          rw [e] at HX
          have e3 : x = u := HX.out.symm.trans HU.out
          subst e3
          rw [lexL_irrefl] at h
          rcases h with h | h <;> cases h)
        clear hx hu r1 r2
        generalize x.length = lx at *
        generalize u.length = lu at *
        cases h1 : lexL x u
        · rw [h1] at cA
          cases h2 : lexL u x
          · rw [h2] at cB
            have EQ : Hid (x = u) := Lib.hid (lexL_total h1 h2)
            clear h1 h2
            go_wp2_with fail
            refine wp_region_q (by kernel_rfl) (by kernel_rfl) ?_
            repeat (go_big_quiet_step (first | with_reducible exact cA _ _ | with_reducible exact cB _ _))
            refine wpQuiet_nil ?_
            intro wq hgq
            go_wp2_with fail
            go_roundg (n - (k + 1))
            case measure => omega
            case rel => exact ⟨HB.out.trans (hgq.mono HB.out.size), k + 1, by omega, rfl, by go_num, fun j hj => by
               by_cases e : j = k
               · subst e; rw [HX.out, HU.out]; exact EQ.out
               · exact HOK.out j (by omega)⟩
          · rw [h2] at cB
            have FIN := Lib.hid (fin.out (.inr h2))
            clear h1 h2
            go_wp2_with fail
            refine wp_region_q (by kernel_rfl) (by kernel_rfl) ?_
            repeat (go_big_quiet_step (first | with_reducible exact cA _ _ | with_reducible exact cB _ _))
            refine wpQuiet_nil ?_
            intro wq hgq
            go_wp2_with fail
            go_ret
            exact ⟨ret_bool FIN.out.symm, HB.out.trans (hgq.mono HB.out.size)⟩
        · rw [h1] at cA
          have FIN := Lib.hid (fin.out (.inl h1))
          clear h1
          go_wp2_with fail
          refine wp_region_q (by kernel_rfl) (by kernel_rfl) ?_
          repeat (go_big_quiet_step (first | with_reducible exact cA _ _ | with_reducible exact cB _ _))
          refine wpQuiet_nil ?_
          intro wq hgq
          go_wp2_with fail
          go_ret
          exact ⟨ret_bool FIN.out.symm, HB.out.trans (hgq.mono HB.out.size)⟩
      · obtain rfl : k = n := by omega
        go_wp2_with fail
        go_ret
        exact ⟨ret_bool (by symm; rw [decide_eq_true_iff]; exact eq_of_getD [] _ _ (by rw [HE.out, HF.out]) (fun j hj => HOK.out j (by have := HE.out; omega))), HB.out⟩
  · have hb : ((n : Int) != (m : Int)) = true := by simp; omega
    have HNM := Lib.hid hnm
    clear hnm
    go_enter Tryz.func5, Tryz.ntmps5
    go_wp2_with fail
    go_ret
    exact ⟨ret_bool (by symm; rw [decide_eq_false_iff_not]; intro h; exact HNM.out (by rw [← HE.out, ← HF.out, h])), Below.refl _ _⟩
theorem same36_b {b : Bool} (A B : Option Addr) (n c m d : Nat) (ls ms : List (List Int)) (w : World) (hn : n ≤ 1152921504606846976) (hm : m ≤ 1152921504606846976) (hls : lensL ls) (hms : lensL ms) (he : RdL w A n ls) (hf : RdL w B m ms) (hb : decide (ls = ms) = b) :
    Calls Tryz.prog 5 #[.slice A n c, .slice B m d] w fun e w' => e = .returned (.bool b) ∧ Below w.heap.size w w' := by
  subst hb; exact same36_any A B n c m d ls ms w hn hm hls hms he hf
end Go.Proofs.YtcpkdnhpelkeoaaGreat

namespace Go.Proofs.YtcpkdnhpelkeoaaGreat
set_option linter.unusedVariables false
set_option linter.unusedSimpArgs false
open Go.RowKit Go.Sort

attribute [local go_sem ↓] Go.wp_at_zero Go.wp_at_succ
def comK (a b : List Int) (k : Nat) : List Int := (a.take k).filter fun x => decide (x ∈ b)
def comL (a b : List Int) : List Int := comK a b a.length
theorem comK_len (a b : List Int) (k : Nat) : (comK a b k).length ≤ k := Nat.le_trans (List.length_filter_le _ _) (List.length_take_le _ _)
theorem comK_step {a b : List Int} {k : Nat} {x : Int} (h : k < a.length) (hx : a.getD k 0 = x) : comK a b (k + 1) = comK a b k ++ if decide (x ∈ b) = true then [x] else [] := by
  unfold comK
  rw [List.take_succ_eq_append_getElem h, List.filter_append]
  have e : a[k] = x := by rw [← hx, List.getD_eq_getElem?_getD, List.getElem?_eq_getElem h]; rfl
  rw [e, List.filter_cons, List.filter_nil]
theorem comK_yes {a b : List Int} {k : Nat} {x : Int} (h : k < a.length) (hx : a.getD k 0 = x) (hb : decide (x ∈ b) = true) : comK a b (k + 1) = comK a b k ++ [x] := by rw [comK_step h hx, hb]; rfl
theorem comK_no {a b : List Int} {k : Nat} {x : Int} (h : k < a.length) (hx : a.getD k 0 = x) (hb : decide (x ∈ b) = false) : comK a b (k + 1) = comK a b k := by rw [comK_step h hx, hb]; simp
def comV (a b : List Int) : Int × Bool := if (comL a b).length = 1 then ((comL a b).getD 0 0, true) else (0, false)

set_option maxHeartbeats 4000000 in
theorem rcommon_any (A B : Option Addr) (n c m d : Nat) (a b : List Int) (w : World) (hn : n ≤ 1000000) (hm : m ≤ 1000000) (ha : Rd w 1 A n (ints a)) (hb : Rd w 1 B m (ints b)) :
    Calls Tryz.prog 69 #[.slice A n c, .slice B m d] w (IntsPost w (comL a b)) := by
  have HA := Lib.hid ha.int_len
  have HBL := Lib.hid hb.int_len
  have H1 := Lib.hid ha
  have H2 := Lib.hid hb
  clear ha hb
  go_enter Tryz.func69, Tryz.ntmps69
  go_wp2_with fail
  go_loopg [5, 6] n (fun g o t wr => ∃ (q : Nat) (D : Option Addr) (l cD : Nat), t = .int .i64 q ∧ q ≤ n ∧ g = n - q ∧ o = .slice D l cD ∧ (comK a b q).length = l ∧ Own wr w.heap.size 3 1 D l cD (ints (comK a b q)) ∧ Below w.heap.size w wr)
  case atStart => exact ⟨0, none, 0, 0, rfl, by omega, rfl, rfl, rfl, Own.nil _ _ _ _, Below.refl _ _⟩
  case round =>
    obtain ⟨q, D, l, cD, rfl, hq, rfl, rfl, hl, ho, hb⟩ := hrel
    have HL := Lib.hid hl
    have HO := Lib.hid ho
    have HB := Lib.hid hb
    have hsz := hb.size
    have kr := Keeps.of_below hb (Nat.le_refl _)
    have R1 := Lib.hid (H1.out.keep kr)
    have R2 := Lib.hid (H2.out.keep kr)
    have hql : l ≤ q := by have := comK_len a b q; omega
    clear hl ho hb kr
    by_cases hlt : q < n
    · obtain ⟨ad, rfl, -, c0⟩ := R1.out.int_at hlt
      generalize hx : a.getD q 0 = x at c0
      have HX := Lib.hid hx
      have HQ : Hid (q < a.length) := Lib.hid (by rw [HA.out]; exact hlt)
      clear hx
      cases h1 : decide (x ∈ b)
      · have D1 := Lib.hid h1
        have EQ := Lib.hid (comK_no HQ.out HX.out h1)
        clear h1
        go_wp2_with (first
          | (go_at_call 70; refine (has36_b (b := false) B m d b x _ (by omega) R2.out D1.out).mono ?_; rintro e w5 ⟨rfl, rfl⟩)
          | fail)
        go_roundg (n - (q + 1))
        case measure => omega
        case rel => exact ⟨q + 1, D, l, cD, by go_num, by omega, rfl, rfl, by rw [EQ.out]; exact HL.out, by rw [EQ.out]; exact HO.out, HB.out⟩
      · have D1 := Lib.hid h1
        have EQ := Lib.hid (comK_yes HQ.out HX.out h1)
        clear h1
        go_wp2_with (first
          | (go_at_call 70; refine (has36_b (b := true) B m d b x _ (by omega) R2.out D1.out).mono ?_; rintro e w5 ⟨rfl, rfl⟩)
          | (at_builtin; refine wpList_app _ rfl (.tmp 19) (.tmp 24) 24 rfl w.heap.size 3 (.int .i64 0) 1 8 Tryz.underlying24 info_int' rfl (by decide) D l cD (ints (comK a b q)) rfl (HO.out.alloc _) (some ⟨wr.heap.size, 0, none⟩) 1 1 (ints [x]) rfl (rd_lit_at rfl [x] _) (ints_one _) (by omega) (by unfold maxLen; omega) (by simp; omega) ?_; intro B7 c7 w7 ho7 hg7 hb7; have O7 := Lib.hid ho7; have BL7 := Lib.hid ((HB.out.alloc (by omega) (.cells #[.int .i64 x] 3)).grown hg7 (by simp; omega) (fun k hk => (HO.out.lt hk).1)); clear ho7 hg7 hb7)
          | fail)
        go_roundg (n - (q + 1))
        case measure => omega
        case rel => exact ⟨q + 1, B7, l + 1, c7, by go_num, by omega, rfl, rfl, by rw [EQ.out, List.length_append, HL.out]; rfl, by rw [EQ.out, ints_app]; exact O7.out, BL7.out⟩
    · obtain rfl : q = n := by omega
      go_wp2_with fail
      go_ret
      have e1 : comL a b = comK a b q := by unfold comL; rw [HA.out]
      rw [e1]
      exact ⟨HB.out, D, cD, by rw [HL.out]; rfl, by rw [HL.out]; exact HO.out⟩

set_option maxHeartbeats 4000000 in
theorem common_any (A B : Option Addr) (n c m d : Nat) (a b : List Int) (w : World) (hn : n ≤ 1000000) (hm : m ≤ 1000000) (ha : Rd w 1 A n (ints a)) (hb : Rd w 1 B m (ints b)) :
    Calls Tryz.prog 22 #[.slice A n c, .slice B m d] w fun e w' => e = .returned (.tuple #[.int .i64 (comV a b).1, .bool (comV a b).2]) ∧ Below w.heap.size w w' := by
  have HA := Lib.hid ha.int_len
  have HBL := Lib.hid hb.int_len
  have H1 := Lib.hid ha
  have H2 := Lib.hid hb
  clear ha hb
  go_enter Tryz.func22, Tryz.ntmps22
  go_wp2_with fail
  go_loopg [6, 11] n (fun g o t wr => ∃ (q : Nat) (D : Option Addr) (l cD : Nat), t = .int .i64 q ∧ q ≤ n ∧ g = n - q ∧ o = .slice D l cD ∧ (comK a b q).length = l ∧ Own wr w.heap.size 3 1 D l cD (ints (comK a b q)) ∧ Below w.heap.size w wr)
  case atStart => exact ⟨0, none, 0, 0, rfl, by omega, rfl, rfl, rfl, Own.nil _ _ _ _, Below.refl _ _⟩
  case round =>
    obtain ⟨q, D, l, cD, rfl, hq, rfl, rfl, hl, ho, hb⟩ := hrel
    have HL := Lib.hid hl
    have HO := Lib.hid ho
    have HB := Lib.hid hb
    have hsz := hb.size
    have kr := Keeps.of_below hb (Nat.le_refl _)
    have R1 := Lib.hid (H1.out.keep kr)
    have R2 := Lib.hid (H2.out.keep kr)
    have hql : l ≤ q := by have := comK_len a b q; omega
    clear hl ho hb kr
    by_cases hlt : q < n
    · obtain ⟨ad, rfl, -, c0⟩ := R1.out.int_at hlt
      generalize hx : a.getD q 0 = x at c0
      have HX := Lib.hid hx
      have HQ : Hid (q < a.length) := Lib.hid (by rw [HA.out]; exact hlt)
      clear hx
      cases h1 : decide (x ∈ b)
      · have D1 := Lib.hid h1
        have EQ := Lib.hid (comK_no HQ.out HX.out h1)
        clear h1
        go_wp2_with (first
          | (go_at_call 43; refine (contains_b (b := false) B m d b x _ (by omega) R2.out D1.out).mono ?_; rintro e w5 ⟨rfl, rfl⟩)
          | fail)
        go_roundg (n - (q + 1))
        case measure => omega
        case rel => exact ⟨q + 1, D, l, cD, by go_num, by omega, rfl, rfl, by rw [EQ.out]; exact HL.out, by rw [EQ.out]; exact HO.out, HB.out⟩
      · have D1 := Lib.hid h1
        have EQ := Lib.hid (comK_yes HQ.out HX.out h1)
        clear h1
        go_wp2_with (first
          | (go_at_call 43; refine (contains_b (b := true) B m d b x _ (by omega) R2.out D1.out).mono ?_; rintro e w5 ⟨rfl, rfl⟩)
          | (at_builtin; refine wpList_app _ rfl (.tmp 18) (.tmp 20) 24 rfl w.heap.size 3 (.int .i64 0) 1 8 Tryz.underlying24 info_int' rfl (by decide) D l cD (ints (comK a b q)) rfl (HO.out.alloc _) (some ⟨wr.heap.size, 0, none⟩) 1 1 (ints [x]) rfl (rd_lit_at rfl [x] _) (ints_one _) (by omega) (by unfold maxLen; omega) (by simp; omega) ?_; intro B7 c7 w7 ho7 hg7 hb7; have O7 := Lib.hid ho7; have BL7 := Lib.hid ((HB.out.alloc (by omega) (.cells #[.int .i64 x] 3)).grown hg7 (by simp; omega) (fun k hk => (HO.out.lt hk).1)); clear ho7 hg7 hb7)
          | fail)
        go_roundg (n - (q + 1))
        case measure => omega
        case rel => exact ⟨q + 1, B7, l + 1, c7, by go_num, by omega, rfl, rfl, by rw [EQ.out, List.length_append, HL.out]; rfl, by rw [EQ.out, ints_app]; exact O7.out, BL7.out⟩
    · obtain rfl : q = n := by omega
      have e1 : comL a b = comK a b q := by unfold comL; rw [HA.out]
      have EV : Hid (comV a b = if l = 1 then ((comK a b q).getD 0 0, true) else (0, false)) := Lib.hid (by unfold comV; rw [e1, HL.out])
      generalize comK a b q = L at HO HL EV
      clear e1
      by_cases h1 : l = 1
      · subst h1
        obtain ⟨ad, rfl, -, c0⟩ := HO.out.rd.int_at (k := 0) (by omega)
        have d1 : (((1 : Nat) : Int) != 1) = false := by decide
        have c1 : wr.cell? ad = some (.int .i64 (L.getD 0 0)) := c0
        clear c0
        generalize L.getD 0 0 = y at c1 EV
        go_wp2_with fail
        refine bodyPost_ret (v := .tuple #[.int .i64 y, .bool true]) (by simp [results, Tryz.results22, go_sem]) rfl ⟨?_, HB.out⟩
        rw [EV.out]; rfl
      · have d1 : ((l : Int) != 1) = true := by simp; omega
        have EV2 : Hid (comV a b = (0, false)) := Lib.hid (by rw [EV.out, if_neg h1])
        clear h1
        go_wp2_with fail
        refine bodyPost_ret (v := .tuple #[.int .i64 0, .bool false]) (by simp [results, Tryz.results22, go_sem]) rfl ⟨?_, HB.out⟩
        rw [EV2.out]
end Go.Proofs.YtcpkdnhpelkeoaaGreat

namespace Go.Proofs.YtcpkdnhpelkeoaaGreat
set_option linter.unusedVariables false
set_option linter.unusedSimpArgs false
open Go.RowKit Go.Sort

attribute [local go_sem ↓] Go.wp_at_zero Go.wp_at_succ
set_option maxHeartbeats 2000000 in
theorem equalI_any (A B : Option Addr) (n c m d : Nat) (es fs : List Int) (w : World) (hn : n ≤ 1152921504606846976) (hm : m ≤ 1152921504606846976) (he : Rd w 1 A n (ints es)) (hf : Rd w 1 B m (ints fs)) :
    Calls Tryz.prog 28 #[.slice A n c, .slice B m d] w fun e w' => e = .returned (.bool (decide (es = fs))) ∧ Below w.heap.size w w' := by
  have HE := Lib.hid he.int_len
  have HF := Lib.hid hf.int_len
  have H1 := Lib.hid he
  have H2 := Lib.hid hf
  clear he hf
  by_cases hnm : n = m
  · subst hnm
    have hbn : ((n : Int) != (n : Int)) = false := by simp
    go_enter Tryz.func28, Tryz.ntmps28
    go_wp2_with fail
    go_loopg [13] n (fun g i wr => Below w.heap.size w wr ∧ ∃ k : Nat, k ≤ n ∧ g = n - k ∧ i = .int .i64 k ∧ ∀ j, j < k → es.getD j 0 = fs.getD j 0)
    case atStart => exact ⟨Below.refl _ _, 0, Nat.zero_le _, rfl, rfl, by omega⟩
    case round =>
      obtain ⟨hb, k, hk, rfl, rfl, hok⟩ := hrel
      have HOK := Lib.hid hok
      have HB := Lib.hid hb
      have K := Lib.hid (Keeps.of_below hb (Nat.le_refl _))
      clear hok hb
      by_cases hlt : k < n
      · obtain ⟨ad, rfl, -, c0⟩ := (H1.out.keep K.out).int_at hlt
        obtain ⟨ad', rfl, -, d0⟩ := (H2.out.keep K.out).int_at hlt
        generalize hx : es.getD k 0 = x at c0
        generalize hu : fs.getD k 0 = u at d0
        have k0 := grown_cell c0
        have l0 := grown_cell d0
        have HX := Lib.hid hx
        have HU := Lib.hid hu
        clear hx hu
        cases h1 : (x != u)
        · go_wp2_with fail
          refine wp_region_q (by kernel_rfl) (by kernel_rfl) ?_
          repeat (go_big_quiet_step (fail))
          refine wpQuiet_nil ?_
          intro wq hgq
          go_wp2_with fail
          go_roundg (n - (k + 1))
          case measure => omega
          case rel => exact ⟨HB.out.trans (hgq.mono HB.out.size), k + 1, by omega, rfl, by go_num, fun j hj => by
             by_cases e : j = k
             · subst e; rw [HX.out, HU.out]; simpa using h1
             · exact HOK.out j (by omega)⟩
        · go_wp2_with fail
          refine wp_region_q (by kernel_rfl) (by kernel_rfl) ?_
          repeat (go_big_quiet_step (fail))
          refine wpQuiet_nil ?_
          intro wq hgq
          go_wp2_with fail
          go_ret
          refine ⟨ret_bool ?_, HB.out.trans (hgq.mono HB.out.size)⟩
          symm
          rw [decide_eq_false_iff_not]
          intro h
          rw [h] at HX
          have := HX.out.symm.trans HU.out
          simp [this] at h1
      · go_wp2_with fail
        go_ret
        exact ⟨ret_bool (by symm; rw [decide_eq_true_iff]; exact eq_of_getD 0 _ _ (by rw [HE.out, HF.out]) (fun j hj => HOK.out j (by have := HE.out; omega))), HB.out⟩
  · have hb : ((n : Int) != (m : Int)) = true := by simp; omega
    have HNM := Lib.hid hnm
    clear hnm
    go_enter Tryz.func28, Tryz.ntmps28
    go_wp2_with fail
    go_ret
    exact ⟨ret_bool (by symm; rw [decide_eq_false_iff_not]; intro h; exact HNM.out (by rw [← HE.out, ← HF.out, h])), Below.refl _ _⟩

/-- What slices.Compare answers. -/
def cmpL (a b : List Int) : Int := if lexL a b = true then -1 else if lexL b a = true then 1 else 0
theorem cmpI_zero {x y : Int} : cmpI x y = 0 ↔ x = y := by unfold cmpI; split <;> (try split) <;> omega
theorem cmpL_at {i : Nat} {a b : List Int} {x y : Int} (h1 : i < a.length) (h2 : i < b.length) (h : ∀ j, j < i → a.getD j 0 = b.getD j 0) (hx : a.getD i 0 = x) (hy : b.getD i 0 = y) (hne : x ≠ y) : cmpL a b = cmpI x y := by
  unfold cmpL cmpI
  rw [lexL_at h1 h2 h hx hy hne, lexL_at h2 h1 (fun j hj => (h j hj).symm) hy hx (Ne.symm hne)]
  simp
theorem cmpL_end {i : Nat} {a b : List Int} (h1 : i ≤ a.length) (h2 : i ≤ b.length) (hi : i = a.length ∨ i = b.length) (h : ∀ j, j < i → a.getD j 0 = b.getD j 0) : cmpL a b = if a.length < b.length then -1 else if b.length < a.length then 1 else 0 := by
  unfold cmpL
  rw [lexL_end h1 h2 hi h, lexL_end h2 h1 hi.symm (fun j hj => (h j hj).symm)]
  simp
set_option maxHeartbeats 4000000 in
theorem compareL_any (A B : Option Addr) (n c m d : Nat) (es fs : List Int) (w : World) (hn : n ≤ 1152921504606846976) (hm : m ≤ 1152921504606846976) (he : Rd w 1 A n (ints es)) (hf : Rd w 1 B m (ints fs)) :
    Calls Tryz.prog 17 #[.slice A n c, .slice B m d] w fun e w' => e = .returned (.int .i64 (cmpL es fs)) ∧ w = w' := by
  have HE := Lib.hid he.int_len
  have HF := Lib.hid hf.int_len
  have H1 := Lib.hid he
  have H2 := Lib.hid hf
  clear he hf
  go_enter Tryz.func17, Tryz.ntmps17
  go_wp2_with fail
  go_loop [11] (fun iv => ∃ k : Nat, k ≤ n ∧ k ≤ m ∧ iv = .int .i64 k ∧ ∀ j, j < k → es.getD j 0 = fs.getD j 0) (fun iv => n - (intOf iv).toNat)
  case atStart => exact ⟨0, Nat.zero_le _, Nat.zero_le _, rfl, by omega⟩
  case round =>
    obtain ⟨k, hk, hkm, rfl, hok⟩ := hrel
    have HOK := Lib.hid hok
    clear hok
    by_cases hlt : k < n
    · obtain ⟨ad, rfl, -, c0⟩ := H1.out.int_at hlt
      generalize hx : es.getD k 0 = x at c0
      have HX := Lib.hid hx
      clear hx
      by_cases hlt2 : k < m
      · have q2 : decide ((m : Int) ≤ (k : Int)) = false := decide_eq_false (by omega)
        obtain ⟨ad', rfl, -, d0⟩ := H2.out.int_at hlt2
        generalize hu : fs.getD k 0 = u at d0
        have HU := Lib.hid hu
        clear hu
        have EQ : Hid (x ≠ u → cmpL es fs = cmpI x u) := Lib.hid (fun hne => cmpL_at (by rw [HE.out]; exact hlt) (by rw [HF.out]; exact hlt2) HOK.out HX.out HU.out hne)
        have NX : Hid (x = u → ∀ j, j < k + 1 → es.getD j 0 = fs.getD j 0) := Lib.hid (fun e j hj => by
          by_cases e2 : j = k
          · rw [e2, HX.out, HU.out]; exact e
          · exact HOK.out j (by omega))
        have ZR : Hid (cmpI x u = 0 ↔ x = u) := Lib.hid cmpI_zero
        have CC : Hid (∀ w', Calls Tryz.prog 37 #[.int .i64 x, .int .i64 u] w' fun e w'' => e = .returned (.int .i64 (cmpI x u)) ∧ w' = w'') := Lib.hid (fun w' => ccmp_any x u w')
        generalize cmpI x u = z at EQ ZR CC
        cases h1 : (z != 0)
        · have HZ : Hid (x = u) := Lib.hid (ZR.out.1 (by simpa using h1))
          go_wp2_with (first
            | (go_at_call 37; (with_reducible refine (CC.out _).mono ?_); rintro e w1 ⟨rfl, rfl⟩)
            | fail)
          go_round
          case rel => exact ⟨k + 1, by omega, by omega, by go_num, NX.out HZ.out⟩
          case measure => simp [intOf]; omega
        · have HZ : Hid (x ≠ u) := Lib.hid (fun e => by rw [ZR.out.2 e] at h1; simp at h1)
          go_wp2_with (first
            | (go_at_call 37; (with_reducible refine (CC.out _).mono ?_); rintro e w1 ⟨rfl, rfl⟩)
            | fail)
          go_ret
          exact ⟨ret_int (EQ.out HZ.out).symm, rfl⟩
      · have q2 : decide ((m : Int) ≤ (k : Int)) = true := decide_eq_true (by omega)
        go_wp2_with fail
        go_ret
        refine ⟨ret_int ?_, rfl⟩
        rw [cmpL_end (i := k) (by rw [HE.out]; omega) (by rw [HF.out]; omega) (.inr (by rw [HF.out]; omega)) HOK.out, HE.out, HF.out, if_neg (by omega), if_pos (by omega)]
    · obtain rfl : k = n := by omega
      by_cases hlt2 : k < m
      · have q2 : (k : Int) < (m : Int) := by omega
        go_wp2_with fail
        go_ret
        refine ⟨ret_int ?_, rfl⟩
        rw [cmpL_end (i := k) (by rw [HE.out]; omega) (by rw [HF.out]; omega) (.inl (by rw [HE.out])) HOK.out, HE.out, HF.out, if_pos hlt2]
      · have q2 : ¬ (k : Int) < (m : Int) := by omega
        go_wp2_with fail
        go_ret
        refine ⟨ret_int ?_, rfl⟩
        rw [cmpL_end (i := k) (by rw [HE.out]; omega) (by rw [HF.out]; omega) (.inl (by rw [HE.out])) HOK.out, HE.out, HF.out, if_neg hlt2, if_neg (by omega)]
end Go.Proofs.YtcpkdnhpelkeoaaGreat

namespace Go.Proofs.YtcpkdnhpelkeoaaGreat
set_option linter.unusedVariables false
set_option linter.unusedSimpArgs false
open Go.RowKit Go.Sort Go.Shelf Go.Lib

theorem cmpL_lt {a b : List Int} : decide (cmpL a b < 0) = lexL a b := by
  unfold cmpL
  cases h : lexL a b
  · cases lexL b a <;> simp
  · simp
def lsAt (ls : List (List Int)) (i : Nat) : List Int := ls.getD i []
def hsAt (hs : List (Option Addr × Nat)) (i : Nat) : Option Addr × Nat := hs.getD i (none, 0)
def encL (hs : List (Option Addr × Nat)) (ls : List (List Int)) (i : Nat) : Value := .slice (hsAt hs i).1 (lsAt ls i).length (hsAt hs i).2
def cfL (ls : List (List Int)) (i j : Nat) : Int := cmpL (lsAt ls i) (lsAt ls j)
theorem ltL (ls : List (List Int)) (i j : Nat) : ltOf (cfL ls) i j = lexL (lsAt ls i) (lsAt ls j) := by unfold ltOf cfL; exact cmpL_lt
theorem swoL (ls : List (List Int)) : SWO (ltOf (cfL ls)) where
  irrefl x := by rw [ltL]; exact lexL_irrefl _
  trans x y z h1 h2 := by rw [ltL] at *; exact lexL_trans h1 h2
  ntrans x y z h1 h2 := by
    rw [ltL] at *
    cases h : lexL (lsAt ls x) (lsAt ls z)
    · rfl
    · exfalso
      by_cases e : lsAt ls x = lsAt ls y
      · rw [e] at h; rw [h] at h2; cases h2
      · cases h3 : lexL (lsAt ls y) (lsAt ls x)
        · exact e (lexL_total h1 h3)
        · rw [lexL_trans h3 h] at h2; cases h2
theorem encL_at {hs : List (Option Addr × Nat)} {ls : List (List Int)} (hl : hs.length = ls.length) {i : Nat} (hi : i < ls.length) : (heads hs ls)[i]? = some (encL hs ls i) := by
  unfold heads encL hsAt lsAt
  rw [List.getElem?_zipWith, List.getElem?_eq_getElem (by omega : i < hs.length), List.getElem?_eq_getElem hi]
  simp [List.getD_eq_getElem?_getD, List.getElem?_eq_getElem (by omega : i < hs.length), List.getElem?_eq_getElem hi]
theorem putCells_take (enc : Nat → Value) (d : Array Nat) (cur : Array Value) (h : d.size ≤ cur.size) : (putCells enc 0 d cur).toList.take d.size = d.toList.map enc := by
  apply List.ext_getElem?
  intro j
  rw [List.getElem?_take]
  by_cases hj : j < d.size
  · have hb : d[j]! = d[j] := getElem!_pos d j hj
    have hc : j < cur.size := by omega
    simp [putCells, hj, hc, hb]
  · simp [hj]
theorem sortW_old {enc : Nat → Value} {w : World} {g m : Nat} {d : Array Nat} {os : Array Obj} {k : Nat} (hk : k < w.heap.size) (hne : k ≠ g) : (sortWorld enc w g 0 m d os).heap[k]? = w.heap[k]? := by
  unfold sortWorld
  rw [heap_grow_old _ _ (by simp [putRow, mapBlock, ahead]; exact hk)]
  simp [putRow, mapBlock, ahead, Array.getElem?_modify, Ne.symm hne]
theorem sortW_grown (enc : Nat → Value) (w : World) (g m : Nat) (d : Array Nat) (os : Array Obj) : w.grownBy (sortWorld enc w g 0 m d os) (some g) :=
  ⟨rfl, rfl, rfl, by simp [sortWorld, putRow, mapBlock, ahead], fun k hk hne => sortW_old hk (fun e => hne (by rw [e]))⟩
theorem heads_map (hs : List (Option Addr × Nat)) (ls : List (List Int)) : ∀ d : List Nat, heads (d.map (hsAt hs)) (d.map (lsAt ls)) = d.map (encL hs ls)
  | [] => rfl
  | x :: d => by
    show _ :: heads (d.map (hsAt hs)) (d.map (lsAt ls)) = _
    rw [heads_map hs ls d]; rfl
/-- The outer block behind the sort. -/
theorem Own.sortedL {w : World} {base g n c : Nat} {hs : List (Option Addr × Nat)} {ls : List (List Int)} {xs : List Value} {d : Array Nat} (h : Own w base 24 1 (some ⟨g, 0, none⟩) n c xs) (hd : d.size = n) (m : Nat) (os : Array Obj) :
    Own (sortWorld (encL hs ls) w g 0 m d os) base 24 1 (some ⟨g, 0, none⟩) n c (heads (d.toList.map (hsAt hs)) (d.toList.map (lsAt ls))) := by
  have hlt := (h.lt (k := g) rfl).2
  rw [heads_map]
  refine ⟨by simp [hd], ?_⟩
  rcases h.2 with ⟨h1, h2⟩ | ⟨g', cap, cur, hv, hb, hh, hnc, hcm, hcs, htake⟩
  · cases h1
  · have hg : g = g' := by injection hv with hv; injection hv with hv; injection hv
    subst hg
    refine .inr ⟨g, cap, putCells (encL hs ls) 0 d cur, hv, hb, ?_, hnc, hcm, ?_, ?_⟩
    · unfold sortWorld
      rw [heap_grow_old _ _ (by simp [putRow, mapBlock, ahead]; exact hlt)]
      simp [putRow, mapBlock, ahead, Array.getElem?_modify, hh, onCells]
    · simp [putCells, hcs]
    · have := putCells_take (encL hs ls) d cur (by omega)
      rw [hd] at this
      simpa using this
def SortLPost (w : World) (base : Nat) (A : Option Addr) (n c : Nat) (ls : List (List Int)) (e : Ending) (w' : World) : Prop :=
  e = .returned (.tuple #[]) ∧ ∃ ls' : List (List Int), ls'.Perm ls ∧ ls'.Pairwise (fun x y => lexL y x = false) ∧ OwnL w' base A n c ls' ∧ w.grownBy w' (blk A)
set_option maxHeartbeats 1000000 in
theorem sortL_own (A : Option Addr) (n c : Nat) (ls : List (List Int)) (w : World) (base : Nat) (ho : OwnL w base A n c ls) (hn : n ≤ 1000000) (hlen : ∀ i, (lsAt ls i).length ≤ 1152921504606846976) :
    Calls Tryz.prog 16 #[.slice A n c, .func (.func 17) #[] #[]] w (SortLPost w base A n c ls) := by
  obtain ⟨hl, hs, hhl, hout, hrow⟩ := ho
  rcases hout.2 with ⟨h1, h2⟩ | ⟨g, cap, cur, hv, hb, hh, _⟩
  · injection h1 with h1 _ h3
    subst h1 h2 h3
    have hl0 : ls = [] := List.eq_nil_of_length_eq_zero hl
    subst hl0
    have := AnyF.slices_SortFunc_none Tryz.laysSlF06_f16 none 0 (.func (.func 17) #[] #[]) w
    refine Calls.mono this ?_
    rintro e w' ⟨rfl, rfl⟩
    exact ⟨rfl, [], List.Perm.refl _, List.Pairwise.nil, ⟨rfl, hs, hhl, hout, hrow⟩, World.grownBy.refl _ _⟩
  · have hA : A = some ⟨g, 0, none⟩ := by injection hv
    subst hA
    have eg : ∀ args w, (callFunc 17 args).run Tryz.prog w = .ok (.enter 17 args) w := enters_of Tryz.func17 (by kernel_rfl) rfl
    have hlt := (hout.lt (k := g) rfl).2
    have hhs : hs.length = ls.length := by omega
    have rowK : ∀ (w' : World), w.grownBy w' (some g) → ∀ i, Rd w' 1 (hsAt hs i).1 (lsAt ls i).length (ints (lsAt ls i)) := fun w' hg i => by
      by_cases hi : i < ls.length
      · have e1 : ls[i]? = some (lsAt ls i) := by unfold lsAt; rw [List.getD_eq_getElem?_getD, List.getElem?_eq_getElem hi]; rfl
        have e2 : hs[i]? = some (hsAt hs i) := by unfold hsAt; rw [List.getD_eq_getElem?_getD, List.getElem?_eq_getElem (by omega)]; rfl
        have h3 := hrow i _ _ e2 e1
        exact (h3.apart (B := some ⟨g, 0, none⟩) hg (h3.apart_type hout (by decide))).rd
      · have e1 : lsAt ls i = [] := by unfold lsAt; rw [List.getD_eq_getElem?_getD, List.getElem?_eq_none (by omega)]; rfl
        rw [e1]; exact Rd.nil _ _ _
    have hcmp : CmpLays1 Tryz.prog 17 #[] (encL hs ls) (cfL ls) g 0 (Array.range n).size w := fun m os dk _ x y => by
      have hg := sortW_grown (encL hs ls) w g m dk os
      have := compareL_any (hsAt hs x).1 (hsAt hs y).1 _ (hsAt hs x).2 _ (hsAt hs y).2 (lsAt ls x) (lsAt ls y) (sortWorld (encL hs ls) w g 0 m dk os) (hlen x) (hlen y) (rowK _ hg x) (rowK _ hg y)
      exact this.mono (fun e w' hh => ⟨hh.1, 0, #[], by rw [grow_empty, ← hh.2]; rfl⟩)
    have hholds : Holds (encL hs ls) w g 0 (Array.range n) := fun j hj => by
      have hj' : j < n := by simpa using hj
      refine ⟨?_, by rw [Nat.zero_add]; exact hout.frozen j⟩
      rw [Nat.zero_add, World.ownsRow.cellAt hout j (by omega), encL_at hhs (by omega)]
      simp [getElem!_pos, hj']
    have hcon := Any.slices_SortFunc Tryz.laysSlF6_f16 (encL hs ls) (fun _ => rfl) (cfL ls) (swoL ls) 17 #[] g 0 c (Array.range n) w eg hcmp hholds hlt (by simp; omega)
    rw [show (Array.range n).size = n by simp] at hcon
    refine hcon.mono ?_
    rintro e w' ⟨rfl, d', m, os, hp, hsrt, rfl⟩
    have hsz : d'.size = n := by rw [hp.1]; simp
    have hg := sortW_grown (encL hs ls) w g m d' os
    have hpd : d'.toList.Perm (List.range n) := by
      have h3 := hp.2.2
      rw [show d'.extract 0 n = d' by rw [← hsz]; simp, show (Array.range n).extract 0 n = Array.range n by simp] at h3
      simpa using h3
    have hidx : (List.range n).map (lsAt ls) = ls := by
      apply List.ext_getElem
      · simp [hl]
      · intro i h1 h2
        simp [lsAt, List.getD_eq_getElem?_getD, List.getElem?_eq_getElem h2]
    refine ⟨rfl, d'.toList.map (lsAt ls), ?_, ?_, ⟨by simp [hsz], d'.toList.map (hsAt hs), by simp [hsz], Own.sortedL hout hsz m os, ?_⟩, hg⟩
    · have := hpd.map (lsAt ls)
      rw [hidx] at this
      exact this
    · rw [List.pairwise_map, List.pairwise_iff_getElem]
      intro i j hi hj hij
      simp at hi hj
      have := hsrt i j (Nat.zero_le _) hij (by omega)
      rw [ltL, getElem!_pos d' j hj, getElem!_pos d' i hi] at this
      simpa using this
    · intro i hd l a b
      rw [List.getElem?_map] at a b
      obtain ⟨x, hx, rfl⟩ := Option.map_eq_some_iff.1 a
      rw [hx] at b
      simp at b
      subst b
      have hm : x ∈ List.range n := (hpd.mem_iff).1 (List.mem_of_getElem? hx)
      have hxn := List.mem_range.1 hm
      have e1 : ls[x]? = some (lsAt ls x) := by unfold lsAt; rw [List.getD_eq_getElem?_getD, List.getElem?_eq_getElem (by omega)]; rfl
      have e2 : hs[x]? = some (hsAt hs x) := by unfold hsAt; rw [List.getD_eq_getElem?_getD, List.getElem?_eq_getElem (by omega)]; rfl
      have h3 := hrow x _ _ e2 e1
      exact h3.apart (B := some ⟨g, 0, none⟩) hg (h3.apart_type hout (by decide))
end Go.Proofs.YtcpkdnhpelkeoaaGreat

