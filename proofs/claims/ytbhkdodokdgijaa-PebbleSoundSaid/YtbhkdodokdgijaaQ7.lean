/-
  setsquareref34.Violates.
-/
import Derived.Test.YtbhkdodokdgijaaMc
import Derived.Test.YtbhkdodokdgijaaG5
namespace Go.Proofs.Ytbhkdodokdgijaa
set_option linter.unusedVariables false
set_option linter.unusedSimpArgs false
open Go.RowKit Go.Sort

attribute [local go_sem ↓] Go.wp_at_zero Go.wp_at_succ
def ascP (N : Int) (ps : List Int) (i : Nat) : Bool := decide (0 ≤ ps.getD i 0) && decide (ps.getD i 0 < N) && (decide (i = 0) || decide (ps.getD (i - 1) 0 < ps.getD i 0))
def violB (N : Int) (es : List (Int × Int)) (ps : List Int) : Bool := (List.range ps.length).all (ascP N ps) && (decide (2 ≤ ps.length) && decide (2 * (ps.length : Int) - 3 < ((indE N es ps).length : Int)))
theorem violB_no {N : Int} {es : List (Int × Int)} {ps : List Int} {i : Nat} (hi : i < ps.length) (h : ascP N ps i = false) : violB N es ps = false := by
  unfold violB
  have : (List.range ps.length).all (ascP N ps) = false := by
    rw [List.all_eq_false]
    exact ⟨i, List.mem_range.2 hi, by rw [h]; simp⟩
  rw [this, Bool.false_and]
theorem violB_all {N : Int} {es : List (Int × Int)} {ps : List Int} (h : ∀ j, j < ps.length → ascP N ps j = true) : violB N es ps = (decide (2 ≤ ps.length) && decide (2 * (ps.length : Int) - 3 < ((indE N es ps).length : Int))) := by
  unfold violB
  rw [show (List.range ps.length).all (ascP N ps) = true from List.all_eq_true.2 (fun j hj => h j (List.mem_range.1 hj)), Bool.true_and]
theorem ascP_low {N : Int} {ps : List Int} {i : Nat} {x : Int} (hx : ps.getD i 0 = x) (h : x < 0) : ascP N ps i = false := by
  unfold ascP; rw [hx, decide_eq_false (by omega), Bool.false_and, Bool.false_and]
theorem ascP_high {N : Int} {ps : List Int} {i : Nat} {x : Int} (hx : ps.getD i 0 = x) (h : N ≤ x) : ascP N ps i = false := by
  unfold ascP; rw [hx, decide_eq_false (by omega : ¬ x < N), Bool.and_false, Bool.false_and]
theorem ascP_first {N : Int} {ps : List Int} {x : Int} (hx : ps.getD 0 0 = x) (h : 0 ≤ x) (h2 : x < N) : ascP N ps 0 = true := by
  unfold ascP; rw [hx, decide_eq_true h, decide_eq_true h2]; rfl
theorem ascP_next {N : Int} {ps : List Int} {i : Nat} {x p : Int} (hx : ps.getD i 0 = x) (hp : ps.getD (i - 1) 0 = p) (h : 0 ≤ x) (h2 : x < N) (hi : i ≠ 0) : ascP N ps i = decide (p < x) := by
  unfold ascP; rw [hx, hp, decide_eq_true h, decide_eq_true h2, decide_eq_false hi]; rfl
set_option maxRecDepth 100000 in
set_option maxHeartbeats 8000000 in
theorem viol_any (N : Int) (A P : Option Addr) (m c k d : Nat) (es : List (Int × Int)) (ps : List Int) (w : World) (hm : m ≤ 1000) (hk : k ≤ 1152921504606846976) (he : Rd w 2 A m (prs es)) (hp : Rd w 1 P k (ints ps)) :
    Calls Try.prog 25 #[.agg #[.int .i64 N, .slice A m c], .slice P k d] w fun e w' => e = .returned (.bool (violB N es ps)) ∧ Below w.heap.size w w' := by
  have HE := Lib.hid he.prs_len
  have HP := Lib.hid hp.int_len
  have H1 := Lib.hid (he.keep (Keeps.alloc w (.cells #[.int .i64 N, .slice A m c] 24)))
  have H2 := Lib.hid (hp.keep (Keeps.alloc w (.cells #[.int .i64 N, .slice A m c] 24)))
  have S1 := Lib.hid ((Below.refl w.heap.size w).alloc (Nat.le_refl _) (.cells #[.int .i64 N, .slice A m c] 24))
  have p00 : (w.alloc (.cells #[.int .i64 N, .slice A m c] 24)).cell? ⟨w.heap.size, 0, none⟩ = some (.int .i64 N) := by simp
  have p01 : (w.alloc (.cells #[.int .i64 N, .slice A m c] 24)).cell? ⟨w.heap.size, 1, none⟩ = some (.slice A m c) := by simp
  have hz1 : w.heap.size < (w.alloc (.cells #[.int .i64 N, .slice A m c] 24)).heap.size := by simp
  clear he hp
  go_enter Try.func25, Try.ntmps25
  go_wp2_with fail
  generalize w.alloc (.cells #[.int .i64 N, .slice A m c] 24) = w1 at *
  go_loopg [5] k (fun g t wr => ∃ i : Nat, i ≤ k ∧ g = k - i ∧ t = .int .i64 i ∧ (∀ j, j < i → ascP N ps j = true) ∧ Below w1.heap.size w1 wr)
  case atStart => exact ⟨0, by omega, rfl, rfl, by omega, Below.refl _ _⟩
  case round =>
    obtain ⟨i, hik, rfl, rfl, hal, hb⟩ := hrel
    have HAL := Lib.hid hal
    have HB := Lib.hid hb
    have hsz := hb.size
    have kr := Keeps.of_below hb (Nat.le_refl _)
    have p0 := kr _ _ p00
    have p1 := kr _ _ p01
    have R1 := Lib.hid (H1.out.keep kr)
    have R2 := Lib.hid (H2.out.keep kr)
    clear hal hb kr
    by_cases hlt : i < k
    · obtain ⟨ap, rfl, -, c0⟩ := R2.out.int_at hlt
      generalize hx : ps.getD i 0 = x at c0
      have g0 := grown_cell p0
      have k0 := grown_cell c0
      have HX := Lib.hid hx
      have HI : Hid (i < ps.length) := Lib.hid (by rw [HP.out]; exact hlt)
      clear hx
      by_cases h1 : x < 0
      · have d1 : decide (x < 0) = true := decide_eq_true h1
        have NO := Lib.hid (ascP_low (N := N) HX.out h1)
        clear h1
        go_wp2_with fail
        refine wp_region_q (by kernel_rfl) (by kernel_rfl) ?_
        repeat (go_big_quiet_step (fail))
        refine wpQuiet_nil ?_
        intro wq hgq
        go_wp2_with fail
        go_ret
        exact ⟨ret_bool (violB_no HI.out NO.out).symm, S1.out.trans ((HB.out.trans (hgq.mono hsz)).mono (by omega))⟩
      · have d1 : decide (x < 0) = false := decide_eq_false h1
        by_cases h2 : N ≤ x
        · have d2 : decide (N ≤ x) = true := decide_eq_true h2
          have NO := Lib.hid (ascP_high (N := N) HX.out h2)
          clear h1 h2
          go_wp2_with fail
          refine wp_region_q (by kernel_rfl) (by kernel_rfl) ?_
          repeat (go_big_quiet_step (fail))
          refine wpQuiet_nil ?_
          intro wq hgq
          go_wp2_with fail
          go_ret
          exact ⟨ret_bool (violB_no HI.out NO.out).symm, S1.out.trans ((HB.out.trans (hgq.mono hsz)).mono (by omega))⟩
        · have d2 : decide (N ≤ x) = false := decide_eq_false h2
          by_cases h3 : i = 0
          · have d3 : decide (0 < i) = false := decide_eq_false (by omega)
            have YES : Hid (ascP N ps i = true) := Lib.hid (by subst h3; exact ascP_first (N := N) HX.out (by omega) (by omega))
            have HI0 := Lib.hid h3
            clear h1 h2 h3
            go_wp2_with fail
            refine wp_region_q (by kernel_rfl) (by kernel_rfl) ?_
            repeat (go_big_quiet_step (fail))
            refine wpQuiet_nil ?_
            intro wq hgq
            go_wp2_with fail
            go_roundg (k - (i + 1))
            case measure => omega
            case rel => exact ⟨i + 1, by omega, rfl, by go_num, fun j hj => by
              have := HI0.out
              obtain rfl : j = i := by omega
              exact YES.out, HB.out.trans (hgq.mono hsz)⟩
          · have d3 : decide (0 < i) = true := decide_eq_true (by omega)
            have hm0 : (0 : Int) ≤ (i : Int) - 1 := by omega
            have hm1 : (i : Int) - 1 < (k : Int) := by omega
            obtain ⟨ap', e9, -, c1⟩ := R2.out.int_at (by omega : i - 1 < k)
            obtain rfl : ap = ap' := by injection e9
            generalize hp9 : ps.getD (i - 1) 0 = p at c1
            have hpi : ((i : Int) - 1).toNat = i - 1 := by omega
            have k1 := grown_cell c1
            have NX := Lib.hid (ascP_next (N := N) HX.out hp9 (by omega) (by omega) h3)
            clear e9 h1 h2 hp9
            by_cases h4 : x ≤ p
            · have d4 : decide (x ≤ p) = true := decide_eq_true h4
              have d5 : decide (p < x) = false := decide_eq_false (by omega)
              have NO : Hid (ascP N ps i = false) := Lib.hid (by rw [NX.out]; exact d5)
              clear h4 d5
              go_wp2_with fail
              refine wp_region_q (by kernel_rfl) (by kernel_rfl) ?_
              repeat (go_big_quiet_step (fail))
              refine wpQuiet_nil ?_
              intro wq hgq
              go_wp2_with fail
              go_ret
              exact ⟨ret_bool (violB_no HI.out NO.out).symm, S1.out.trans ((HB.out.trans (hgq.mono hsz)).mono (by omega))⟩
            · have d4 : decide (x ≤ p) = false := decide_eq_false h4
              have d5 : decide (p < x) = true := decide_eq_true (by omega)
              have YES : Hid (ascP N ps i = true) := Lib.hid (by rw [NX.out]; exact d5)
              clear h4 d5
              go_wp2_with fail
              refine wp_region_q (by kernel_rfl) (by kernel_rfl) ?_
              repeat (go_big_quiet_step (fail))
              refine wpQuiet_nil ?_
              intro wq hgq
              go_wp2_with fail
              go_roundg (k - (i + 1))
              case measure => omega
              case rel => exact ⟨i + 1, by omega, rfl, by go_num, fun j hj => by
                by_cases e : j = i
                · subst e; exact YES.out
                · exact HAL.out j (by omega), HB.out.trans (hgq.mono hsz)⟩
    · obtain rfl : i = k := by omega
      have ALL := Lib.hid (violB_all (N := N) (es := es) (ps := ps) (fun j hj => HAL.out j (by rw [HP.out] at hj; exact hj)))
      have hlen := indK_len (validB N es) es ps es.length
      change (indE N es ps).length ≤ _ at hlen
      rw [HE.out] at hlen
      have RI : Hid (∀ w, Rd w 2 A m (prs es) → Rd w 1 P i (ints ps) → Calls Try.prog 41 #[.agg #[.int .i64 N, .slice A m c], .slice P i d] w (PrsPost w (indE N es ps))) := Lib.hid fun w h h' => rind_any N A P m c i d es ps w (by omega) (by omega) h h'
      unfold PrsPost at RI
      generalize (indE N es ps).length = q at ALL hlen RI
      by_cases h2 : 2 ≤ i
      · have d1 : decide ((2 : Int) ≤ (i : Int)) = true := decide_eq_true (by omega)
        go_wp2_with (first
          | (go_at_call 41; refine (RI.out _ R1.out R2.out).mono ?_; rintro e w5 ⟨hb5, B5, c5, rfl, -⟩; have HB5 := Lib.hid (HB.out.trans (hb5.mono hsz)); clear hb5)
          | fail)
        go_ret
        refine ⟨ret_bool ?_, S1.out.trans (HB5.out.mono (by omega))⟩
        rw [ALL.out, HP.out, decide_eq_true h2, Bool.true_and]
      · have d1 : decide ((2 : Int) ≤ (i : Int)) = false := decide_eq_false (by omega)
        go_wp2_with fail
        go_ret
        refine ⟨ret_bool ?_, S1.out.trans (HB.out.mono (by omega))⟩
        rw [ALL.out, HP.out, decide_eq_false h2, Bool.false_and]
end Go.Proofs.Ytbhkdodokdgijaa
