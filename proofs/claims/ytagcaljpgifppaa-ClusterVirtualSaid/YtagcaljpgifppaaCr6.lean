/-
  setsquareref36: Set, Virtual.
-/
import Derived.Test.YtagcaljpgifppaaCr3
import Derived.Test.YtagcaljpgifppaaCv
import Derived.Test.YtagcaljpgifppaaKd
import Derived.Test.YtagcaljpgifppaaStepG
namespace Go.Proofs.Ytagcaljpgifppaa
set_option linter.unusedVariables false
set_option linter.unusedSimpArgs false
open Go.RowKit Go.Sort
attribute [local go_sem ↓] Go.wp_at_zero Go.wp_at_succ

theorem BC.kept {w w1 w2 : World} {N : Int} {A : Option Addr} {m c : Nat} (_ : BC w N A m c w1) (h2 : BC w N A m c w2) : Keeps (w.alloc (.cells #[.int .i64 N, .slice A m c] 24)) w2 := Keeps.of_below h2 (by simp)
theorem setS_nil : setS [] = 0 := rfl
set_option maxHeartbeats 4000000 in
theorem set36_any (P : Option Addr) (k d : Nat) (ps : List Int) (w : World) (hk : k ≤ 100000) (hps : ∀ p ∈ ps, 0 ≤ p ∧ p < 60) (hp : Rd w 1 P k (ints ps)) :
    Calls Try.prog 103 #[.slice P k d] w fun e w' => e = .returned (.int .i64 (setS ps : Nat)) ∧ w = w' := by
  have HP := Lib.hid hp.int_len
  have H1 := Lib.hid hp
  have HPS := Lib.hid hps
  have LT : Hid (∀ i, setS (ps.take i) < 1152921504606846976) := Lib.hid fun i => by
    have h1 : setS (ps.take i) < 2 ^ 60 := setS_lt (fun p hp => by have := HPS.out p (List.mem_of_mem_take hp); omega)
    have h2 : (2 : Nat) ^ 60 = 1152921504606846976 := rfl
    omega
  clear hp hps
  go_enter Try.func103, Try.ntmps103
  go_wp2_with fail
  go_loopg [3, 4] k (fun g s t wr => ∃ i : Nat, i ≤ k ∧ g = k - i ∧ t = .int .i64 i ∧ s = .int .i64 (setS (ps.take i) : Nat) ∧ wr = w)
  case atStart => exact ⟨0, Nat.zero_le _, rfl, rfl, rfl, rfl⟩
  case round =>
    obtain ⟨i, hi, rfl, rfl, rfl, rfl⟩ := hrel
    have hlt0 := LT.out i
    by_cases hik : i < k
    · obtain ⟨ad, rfl, -, c0⟩ := H1.out.int_at hik
      generalize hx : ps.getD i 0 = x at c0
      have hb : 0 ≤ x ∧ x < 60 := by rw [← hx]; exact HPS.out _ (mem_getD (by rw [HP.out]; exact hik))
      obtain ⟨X, rfl⟩ : ∃ X : Nat, x = X := ⟨x.toNat, by omega⟩
      have hX60 : X < 60 := by omega
      have hst := setS_step (k := i) (by rw [HP.out]; exact hik) hx
      rw [Int.toNat_natCast] at hst
      clear hx
      generalize setS (ps.take i) = s at hlt0 hst
      have HST := Lib.hid hst
      have hor := orpow36 hlt0 hX60
      clear hst
      go_wp2_with fail
      go_roundg (k - (i + 1))
      case measure => omega
      case rel => exact ⟨i + 1, by omega, rfl, by go_num, by rw [HST.out], rfl⟩
    · obtain rfl : i = k := by omega
      have e1 : Hid (ps.take i = ps) := Lib.hid (List.take_of_length_le (by rw [HP.out]; exact Nat.le_refl _))
      rw [e1.out] at hlt0 ⊢
      go_wp2_with fail
      go_ret
      exact ⟨rfl, rfl⟩

/-- What the reference's Virtual answers. -/
def rvOk (N : Int) (es : List (Int × Int)) (ps : List Int) : Bool := upB ps && (!(decide (0 < ps.length) && decide (N ≤ ps.getD (ps.length - 1) 0)) && decide (RigS es (setS ps)))
def atI (ps : List Int) (i : Nat) : Int := ps.getD i 0
def nj (es : List (Int × Int)) (ps : List Int) (i k : Nat) : Bool := !decide ((atI ps i, atI ps k) ∈ es)
def rvL (N : Int) (es : List (Int × Int)) (ps : List Int) : List (Int × Int) := if rvOk N es ps = true then pfU (nj es ps) (atI ps) ps.length ps.length else []
theorem up_all {ps : List Int} (h : upB ps = true) {i : Nat} (hi : i < ps.length) : upAt ps i = true := List.all_eq_true.1 h i (List.mem_range.2 hi)
theorem up_step2 {ps : List Int} (h : upB ps = true) {i : Nat} (hi : i + 1 < ps.length) : ps.getD i 0 < ps.getD (i + 1) 0 := by
  have := up_all h hi
  unfold upAt at this
  simp at this
  simpa using this.2
theorem up_lt {ps : List Int} (h : upB ps = true) : ∀ {i j : Nat}, i < j → j < ps.length → ps.getD i 0 < ps.getD j 0 := fun {i j} hij hj => asc_lt (fun j hj => up_step2 h hj) i j hij hj
theorem up_pos {ps : List Int} (h : upB ps = true) {i : Nat} (hi : i < ps.length) : 0 ≤ ps.getD i 0 := by
  have := up_all h hi
  unfold upAt at this
  simp only [Bool.and_eq_true, decide_eq_true_eq] at this
  exact this.1
theorem up_asc {N : Int} {ps : List Int} (h : upB ps = true) (hl : 0 < ps.length → ps.getD (ps.length - 1) 0 < N) : ascB N ps = true := ascB_yes fun j hj => by
  have h1 := up_pos h hj
  have h2 : ps.getD j 0 ≤ ps.getD (ps.length - 1) 0 := by
    by_cases e : j = ps.length - 1
    · rw [e]; omega
    · have := up_lt h (i := j) (j := ps.length - 1) (by omega) (by omega); omega
  have h3 := hl (by omega)
  unfold ascAt
  simp only [Bool.and_eq_true, decide_eq_true_eq, Bool.or_eq_true]
  refine ⟨h1, by omega, ?_⟩
  by_cases e : j = 0
  · exact .inl e
  · right
    have := up_lt h (i := j - 1) (j := j) (by omega) hj
    exact this
theorem ov_last {N : Int} {ps : List Int} (h : upB ps = true) : ovB N ps = (decide (0 < ps.length) && decide (N ≤ ps.getD (ps.length - 1) 0)) := by
  rw [Bool.eq_iff_iff]
  unfold ovB
  rw [List.any_eq_true, Bool.and_eq_true, decide_eq_true_eq, decide_eq_true_eq]
  constructor
  · rintro ⟨y, hy, hn⟩
    obtain ⟨j, hj, rfl⟩ := getD_of_mem hy
    simp only [decide_eq_true_eq] at hn
    refine ⟨by omega, ?_⟩
    by_cases e : j = ps.length - 1
    · rw [← e]; exact hn
    · have := up_lt h (i := j) (j := ps.length - 1) (by omega) (by omega); omega
  · rintro ⟨h1, h2⟩
    exact ⟨_, mem_getD (by omega : ps.length - 1 < ps.length), by simpa using h2⟩
theorem row_eq {n : Nat} {es : List (Int × Int)} {ps : List Int} {i : Nat} (hv : validB n es = true) (hu : upB ps = true) (hi : i < ps.length) : ∀ q, q ≤ ps.length →
    (((ps.take q).drop (i + 1)).map (fun y => (ps.getD i 0, y))).filter (fun e => !hasE n es e.1 e.2) = pfR (nj es ps) (atI ps) i q
  | 0, _ => by simp [pfR]
  | q + 1, hq => by
    have ih := row_eq hv hu hi q (by omega)
    by_cases hiq : i < q
    · have e1 : (ps.take (q + 1)).drop (i + 1) = (ps.take q).drop (i + 1) ++ [ps.getD q 0] := by
        rw [List.take_succ_eq_append_getElem (by omega), List.drop_append_of_le_length (by rw [List.length_take]; omega), List.getD_eq_getElem?_getD, List.getElem?_eq_getElem (by omega)]; rfl
      have hlt := up_lt hu hiq (by omega)
      have e2 : hasE n es (ps.getD i 0) (ps.getD q 0) = decide ((ps.getD i 0, ps.getD q 0) ∈ es) := by
        unfold hasE
        rw [hv, Bool.true_and, Bool.eq_iff_iff, mem_pairsB, decide_eq_true_eq]
        constructor
        · rintro (h | h)
          · exact h
          · have := valid_ends hv _ h; simp only at this; omega
        · exact .inl
      rw [e1, List.map_append, List.filter_append, ih]
      show _ = pfR (nj es ps) (atI ps) i q ++ (if (decide (i < q) && nj es ps i q) = true then [(atI ps i, atI ps q)] else [])
      congr 1
      rw [decide_eq_true hiq, Bool.true_and]
      unfold nj atI
      simp only [List.map_cons, List.map_nil, List.filter_cons, List.filter_nil, e2]
    · rw [pfR_low (by omega), List.drop_eq_nil_of_le (by rw [List.length_take]; omega)]; rfl
theorem vir_eq {n : Nat} {es : List (Int × Int)} {ps : List Int} (hv : validB n es = true) (hu : upB ps = true) : ∀ i, i ≤ ps.length → delF (fun e => hasE n es e.1 e.2) (prU ps i) = pfU (nj es ps) (atI ps) ps.length i
  | 0, _ => rfl
  | i + 1, hi => by
    have ih := vir_eq hv hu i (by omega)
    have h1 := row_eq hv hu (i := i) (by omega) ps.length (Nat.le_refl _)
    rw [List.take_length] at h1
    show delF _ (prU ps i ++ (ps.drop (i + 1)).map (fun y => (ps.getD i 0, y))) = pfU (nj es ps) (atI ps) ps.length i ++ pfR (nj es ps) (atI ps) i ps.length
    rw [← ih, ← h1]
    unfold delF
    rw [List.filter_append]
theorem vir_ref {n : Nat} {es : List (Int × Int)} {ps : List Int} (hn : n ≤ 60) (hv : validB n es = true) : virL n es ps = rvL n es ps := by
  unfold virL rvL virOk rvOk
  rw [hv, Bool.true_and]
  by_cases hu : upB ps = true
  · rw [hu, Bool.true_and, Bool.true_and, ov_last hu]
    by_cases ho : (decide (0 < ps.length) && decide ((n : Int) ≤ ps.getD (ps.length - 1) 0)) = true
    · rw [ho]; simp
    · have ho' : (decide (0 < ps.length) && decide ((n : Int) ≤ ps.getD (ps.length - 1) 0)) = false := by simpa using ho
      rw [ho', Bool.not_false, Bool.true_and, Bool.true_and]
      have ha : ascB n ps = true := up_asc hu (fun h => by
        simp only [Bool.and_eq_true, decide_eq_true_eq, not_and] at ho
        have := ho h; omega)
      rw [rigE_iff hn hv ha, vir_eq hv hu _ (Nat.le_refl _)]
  · have hu' : upB ps = false := by simpa using hu
    rw [hu']; simp
theorem points36_b {b : Bool} (P : Option Addr) (k d : Nat) (ps : List Int) (w : World) (hk : k ≤ 1152921504606846976) (hp : Rd w 1 P k (ints ps)) (hb : upB ps = b) :
    Calls Try.prog 52 #[.slice P k d] w fun e w' => e = .returned (.bool b) ∧ Below w.heap.size w w' := by subst hb; exact points36_any P k d ps w hk hp
set_option maxRecDepth 100000 in
set_option maxHeartbeats 16000000 in
theorem rvirtual_any (n : Nat) (A P : Option Addr) (m c k d : Nat) (es : List (Int × Int)) (ps : List Int) (w : World) (hn : n ≤ 7) (hm : m ≤ 90) (hk : k ≤ 10) (he : Rd w 2 A m (prs es)) (hp : Rd w 1 P k (ints ps)) (hok : ∀ e ∈ es, OkE n e) :
    Calls Try.prog 47 #[.agg #[.int .i64 n, .slice A m c], .slice P k d] w (PrPost w (rvL n es ps)) := by
  have X0 : Hid (BC w n A m c (w.alloc (.cells #[.int .i64 (n : Int), .slice A m c] 24))) := Lib.hid BC.start
  have H1 := Lib.hid (he.keep X0.out.keeps)
  have HP := Lib.hid (hp.keep X0.out.keeps)
  have HPL : Hid (ps.length = k) := Lib.hid hp.int_len
  obtain ⟨hz1, p0, p1⟩ := X0.out.facts
  have g0 := grown_cell p0
  have g1 := grown_cell p1
  have PT : Hid (∀ b, upB ps = b → ∀ w', Keeps (w.alloc (.cells #[.int .i64 (n : Int), .slice A m c] 24)) w' → Calls Try.prog 52 #[.slice P k d] w' fun e w'' => e = .returned (.bool b) ∧ Below w'.heap.size w' w'') := Lib.hid fun b hb w' hw => points36_b P k d ps w' (by omega) (HP.out.keep hw) hb
  have RV : Hid (∀ b1 b2 b3, upB ps = b1 → (decide (0 < ps.length) && decide ((n : Int) ≤ ps.getD (ps.length - 1) 0)) = b2 → decide (RigS es (setS ps)) = b3 → rvOk n es ps = (b1 && (!b2 && b3))) := Lib.hid fun _ _ _ h1 h2 h3 => by unfold rvOk; rw [h1, h2, h3]
  have NO : Hid (rvOk n es ps = false → rvL n es ps = []) := Lib.hid fun h => by unfold rvL; rw [h]; rfl
  have YES : Hid (rvOk n es ps = true → rvL n es ps = pfU (nj es ps) (atI ps) k k) := Lib.hid fun h => by unfold rvL; rw [h, if_pos rfl, HPL.out]
  have JN : Hid (∀ (x y : Int) (b : Bool), decide ((x, y) ∈ es) = b → ∀ W, Rd W 2 A m (prs es) → Calls Try.prog 49 #[.agg #[.int .i64 n, .slice A m c], .int .i64 x, .int .i64 y] W fun e w' => e = .returned (.bool b) ∧ Below W.heap.size W w') := Lib.hid fun x y b hb W h => joined36_b n A m c es x y W (by omega) h hb
  have RG : Hid (setS ps < 2 ^ n → ∀ b, decide (RigS es (setS ps)) = b → ∀ W, Rd W 2 A m (prs es) → Calls Try.prog 93 #[.agg #[.int .i64 n, .slice A m c], .int .i64 (setS ps : Nat)] W fun e w' => e = .returned (.bool b) ∧ Below W.heap.size W w') := Lib.hid fun hS b hb W h => rigid36_b n A m c es (setS ps) W hn hm hS h hok hb
  clear he hp hok
  cases hu : upB ps
  · have cP := call_q (w := w.alloc (.cells #[.int .i64 (n : Int), .slice A m c] 24)) (PT.out false hu)
    have NN := Lib.hid (NO.out (by rw [RV.out _ _ _ hu rfl rfl]; rfl))
    clear hu
    go_enter Try.func47, Try.ntmps47
    go_wp2_with fail
    refine wp_region_q (by kernel_rfl) (by kernel_rfl) ?_
    repeat (go_big_quiet_step (first | with_reducible exact cP _ _))
    refine wpQuiet_nil ?_
    intro wq hgq
    go_wp2_with fail
    go_ret
    exact ⟨(X0.out.next hgq).below, none, 0, 0, rfl, by rw [NN.out]; exact Own.nil _ _ _ _⟩
  have UP := Lib.hid hu
  have cP := call_q (w := w.alloc (.cells #[.int .i64 (n : Int), .slice A m c] 24)) (PT.out true hu)
  -- the list is empty, or its last point is looked at
  have main : ∀ (b3 : Bool), decide (RigS es (setS ps)) = b3 → (decide (0 < ps.length) && decide ((n : Int) ≤ ps.getD (ps.length - 1) 0)) = false → setS ps < 2 ^ n ∧ (∀ p ∈ ps, 0 ≤ p ∧ p < 60) := by
    intro b3 _ h2
    have ha : ascB n ps = true := up_asc hu (fun h => by
      simp only [Bool.and_eq_false_iff, decide_eq_false_iff_not] at h2
      omega)
    exact ⟨setS_lt (fun p hp => by have := ascB_mem ha hp; omega), fun p hp => by have := ascB_mem ha hp; omega⟩
  by_cases hk0 : k = 0
  · have hps : ps = [] := List.eq_nil_of_length_eq_zero (by rw [HPL.out, hk0])
    have h2 : (decide (0 < ps.length) && decide ((n : Int) ≤ ps.getD (ps.length - 1) 0)) = false := by rw [HPL.out, hk0]; rfl
    have h3 : decide (RigS es (setS ps)) = false := by
      rw [decide_eq_false_iff_not]
      intro h
      have h1 := h.1
      rw [hps, setS_nil, cntB_zero] at h1
      omega
    obtain ⟨hS, hpp⟩ := main _ h3 h2
    have cR := call_q (w := w.alloc (.cells #[.int .i64 (n : Int), .slice A m c] 24)) (fun w' hw => RG.out hS false h3 w' (H1.out.keep hw))
    have cS := call_p (w := w.alloc (.cells #[.int .i64 (n : Int), .slice A m c] 24)) (v := .int .i64 (setS ps : Nat)) (P := Try.prog) (f := 103) (args := #[.slice P k d])
    have cS2 : ∀ d' os, Calls Try.prog 103 #[.slice P k d] (grow (redrawn (w.alloc (.cells #[.int .i64 (n : Int), .slice A m c] 24)) d') os) fun e w'' => e = .returned (.int .i64 (setS ps : Nat)) ∧ ∃ p : Regrown, w'' = grow (redrawn (w.alloc (.cells #[.int .i64 (n : Int), .slice A m c] 24)) p.d) p.os := fun d' os => Calls.regrown_of ((set36_any P k d ps _ (by omega) hpp (HP.out.keep (Keeps.grown _ d' os))).mono fun e w'' hh => ⟨hh.1, by rw [← hh.2]; exact Below.refl _ _⟩)
    have NN := Lib.hid (NO.out (by rw [RV.out _ _ _ hu h2 h3]; rfl))
    have hd0 : decide ((0 : Int) < (k : Int)) = false := decide_eq_false (by omega)
    have hd1 : decide (0 < k) = false := decide_eq_false (by omega)
    generalize setS ps = S at *
    clear hu main h2 h3 hS hpp hk0 cS hps
    go_enter Try.func47, Try.ntmps47
    go_wp2_with fail
    refine wp_region_q (by kernel_rfl) (by kernel_rfl) ?_
    repeat (go_big_quiet_step (first | with_reducible exact cP _ _ | with_reducible exact cS2 _ _ | with_reducible exact cR _ _))
    refine wpQuiet_nil ?_
    intro wq hgq
    go_wp2_with fail
    go_ret
    exact ⟨(X0.out.next hgq).below, none, 0, 0, rfl, by rw [NN.out]; exact Own.nil _ _ _ _⟩
  obtain ⟨ap, rfl, -, cl⟩ := HP.out.int_at (by omega : k - 1 < k)
  generalize hx : ps.getD (k - 1) 0 = x at cl
  have k0 := grown_cell cl
  have hd0 : decide ((0 : Int) < (k : Int)) = true := decide_eq_true (by omega)
  have hd1 : decide (0 < k) = true := decide_eq_true (by omega)
  have hm0 : (0 : Int) ≤ (k : Int) - 1 := by omega
  have hm1 : (k : Int) - 1 < (k : Int) := by omega
  have hi1 : ((k : Int) - 1).toNat = k - 1 := by omega
  by_cases hxn : (n : Int) ≤ x
  · have h2 : (decide (0 < ps.length) && decide ((n : Int) ≤ ps.getD (ps.length - 1) 0)) = true := by rw [HPL.out, hx, hd1, decide_eq_true hxn]; rfl
    have NN := Lib.hid (NO.out (by rw [RV.out _ _ _ hu h2 rfl]; rfl))
    have hxd : decide ((n : Int) ≤ x) = true := decide_eq_true hxn
    clear hu main h2 hx hk0
    go_enter Try.func47, Try.ntmps47
    go_wp2_with fail
    refine wp_region_q (by kernel_rfl) (by kernel_rfl) ?_
    repeat (go_big_quiet_step (first | with_reducible exact cP _ _))
    refine wpQuiet_nil ?_
    intro wq hgq
    go_wp2_with fail
    go_ret
    exact ⟨(X0.out.next hgq).below, none, 0, 0, rfl, by rw [NN.out]; exact Own.nil _ _ _ _⟩
  have h2 : (decide (0 < ps.length) && decide ((n : Int) ≤ ps.getD (ps.length - 1) 0)) = false := by rw [HPL.out, hx, hd1, decide_eq_false hxn]; rfl
  have hxd : decide ((n : Int) ≤ x) = false := decide_eq_false hxn
  obtain ⟨hS, hpp⟩ := main _ rfl h2
  have cS2 : ∀ d' os, Calls Try.prog 103 #[.slice (some ap) k d] (grow (redrawn (w.alloc (.cells #[.int .i64 (n : Int), .slice A m c] 24)) d') os) fun e w'' => e = .returned (.int .i64 (setS ps : Nat)) ∧ ∃ p : Regrown, w'' = grow (redrawn (w.alloc (.cells #[.int .i64 (n : Int), .slice A m c] 24)) p.d) p.os := fun d' os => Calls.regrown_of ((set36_any (some ap) k d ps _ (by omega) hpp (HP.out.keep (Keeps.grown _ d' os))).mono fun e w'' hh => ⟨hh.1, by rw [← hh.2]; exact Below.refl _ _⟩)
  cases h3 : decide (RigS es (setS ps))
  · have cR := call_q (w := w.alloc (.cells #[.int .i64 (n : Int), .slice A m c] 24)) (fun w' hw => RG.out hS false h3 w' (H1.out.keep hw))
    have NN := Lib.hid (NO.out (by rw [RV.out _ _ _ hu h2 h3]; rfl))
    generalize setS ps = S at *
    clear hu main h2 h3 hS hpp hk0 hx
    go_enter Try.func47, Try.ntmps47
    go_wp2_with fail
    refine wp_region_q (by kernel_rfl) (by kernel_rfl) ?_
    repeat (go_big_quiet_step (first | with_reducible exact cP _ _ | with_reducible exact cS2 _ _ | with_reducible exact cR _ _))
    refine wpQuiet_nil ?_
    intro wq hgq
    go_wp2_with fail
    go_ret
    exact ⟨(X0.out.next hgq).below, none, 0, 0, rfl, by rw [NN.out]; exact Own.nil _ _ _ _⟩
  have cR := call_q (w := w.alloc (.cells #[.int .i64 (n : Int), .slice A m c] 24)) (fun w' hw => RG.out hS true h3 w' (H1.out.keep hw))
  have YY := Lib.hid (YES.out (by rw [RV.out _ _ _ hu h2 h3]; rfl))
  generalize setS ps = S at *
  clear hu main h2 h3 hS hpp hk0 hx RG NO YES RV PT
  go_enter Try.func47, Try.ntmps47
  go_wp2_with fail
  refine wp_region_q (by kernel_rfl) (by kernel_rfl) ?_
  repeat (go_big_quiet_step (first | with_reducible exact cP _ _ | with_reducible exact cS2 _ _ | with_reducible exact cR _ _))
  refine wpQuiet_nil ?_
  intro wq hgq
  have X1 := Lib.hid (X0.out.next hgq)
  clear hgq p0 p1 g0 g1 cP cS2 cR k0 cl
  go_wp2_with fail
  go_loopg [5, 6, 7] k (fun g o t _ wr => ∃ (i : Nat) (D : Option Addr) (l cD : Nat), i ≤ k ∧ g = k - i ∧ t = .int .i64 i ∧ o = .slice D l cD ∧ l ≤ i * k ∧ Own wr wq.heap.size 42 2 D l cD (prs (pfU (nj es ps) (atI ps) k i)) ∧ Below wq.heap.size wq wr)
  case atStart => exact ⟨0, none, 0, 0, Nat.zero_le _, rfl, rfl, rfl, by omega, Own.nil _ _ _ _, Below.refl _ _⟩
  case round =>
    obtain ⟨i, D, l, cD, hi, rfl, rfl, rfl, hl, ho, hb⟩ := hrel
    have HB := Lib.hid hb
    have HO := Lib.hid ho
    have hzr := hb.size
    clear hb ho
    by_cases hik : i < k
    · go_wp2_with fail
      go_loopg [5, 7] (k - (i + 1)) (fun g o t wi => ∃ (q : Nat) (D : Option Addr) (l cD : Nat), i < q ∧ q ≤ k ∧ g = k - q ∧ t = .int .i64 q ∧ o = .slice D l cD ∧ l ≤ i * k + q ∧ Own wi wq.heap.size 42 2 D l cD (prs (pfU (nj es ps) (atI ps) k i ++ pfR (nj es ps) (atI ps) i q)) ∧ Below wq.heap.size wq wi)
      case atStart => exact ⟨i + 1, D, l, cD, by omega, by omega, rfl, by go_num, rfl, by omega, by rw [pfR_low (Nat.le_refl _), List.append_nil]; exact HO.out, HB.out⟩
      case round =>
        obtain ⟨q, D, l, cD, hiq, hqk, rfl, rfl, rfl, hl2, ho, hb⟩ := hrel
        rename World => wi
        have HBi := Lib.hid hb
        have HOi := Lib.hid ho
        have hzi := hb.size
        have hik2 : i * k ≤ 10 * 10 := Nat.mul_le_mul (by omega) hk
        have XI := Lib.hid (X1.out.next hb)
        obtain ⟨hzz, p0, p1⟩ := XI.out.facts
        have KX := Lib.hid (Keeps.of_below ((Below.refl _ _).trans hb) (Nat.le_refl _))
        have RI := Lib.hid (H1.out.keep (X0.out.kept XI.out))
        have RP := Lib.hid (HP.out.keep (X0.out.kept XI.out))
        clear hb ho
        by_cases hq : q < k
        · obtain ⟨ap', e9, -, c0⟩ := RP.out.int_at hik
          injection e9 with e9
          subst e9
          obtain ⟨ap', e9, -, c1⟩ := RP.out.int_at hq
          injection e9 with e9
          subst e9
          have hx : atI ps i = ps.getD i 0 := rfl
          have hy : atI ps q = ps.getD q 0 := rfl
          have PY := Lib.hid (fun h => pfR_yes (f := nj es ps) (v := atI ps) (a := i) (k := q) hiq h)
          have PN := Lib.hid (fun h => pfR_no (f := nj es ps) (v := atI ps) (a := i) (k := q) h)
          have NJ : Hid (nj es ps i q = !decide ((atI ps i, atI ps q) ∈ es)) := Lib.hid rfl
          rw [← hx] at c0
          rw [← hy] at c1
          clear hx hy
          generalize atI ps i = x at *
          generalize atI ps q = y at *
          generalize nj es ps i q = nb at *
          have k0 := grown_cell c0
          have k1 := grown_cell c1
          have k2 := grown_cell p0
          have k3 := grown_cell p1
          cases hj : decide ((x, y) ∈ es)
          · have cJ := call_q (w := wi) (fun w' hw => JN.out x y false hj w' (RI.out.keep hw))
            have hnb : nb = true := by rw [NJ.out, hj]; rfl
            have PE := Lib.hid (PY.out hnb)
            clear hnb hj PY PN NJ
            go_upto_region 10 with fail
            go_cut [58] (fun t wx => t = .bool true ∧ Below wi.heap.size wi wx)
            case first =>
              refine wp_region_q (by kernel_rfl) (by kernel_rfl) ?_
              repeat (go_big_quiet_step (first | with_reducible exact cJ _ _))
              refine wpQuiet_nil ?_
              intro wq2 hgq2
              go_wp2_with fail
              go_meet
              exact ⟨rfl, hgq2⟩
            case rest =>
              obtain ⟨rfl, hbd⟩ := hcut
              rename World => w5
              have HBD := Lib.hid hbd
              have HO5 := Lib.hid (HOi.out.later hbd)
              have hz5 := hbd.size
              have kd := Keeps.of_below hbd (Nat.le_refl _)
              have c0 := kd _ _ c0
              have c1 := kd _ _ c1
              have n0 := World.new_ne w5 _ c0
              have n1 := World.new_ne w5 _ c1
              clear hbd kd k0 k1 k2 k3 cJ
              generalize hL : pfU (nj es ps) (atI ps) k i ++ pfR (nj es ps) (atI ps) i q = L at *
              go_upto_region 11 with fail
              go_region_law ((first
                | (refine step_app _ rfl (.tmp 59) (.tmp 69) 22 rfl wq.heap.size 42 (.agg #[.int .i64 0, .int .i64 0]) 2 16 Try.underlying22 info_pair rfl (by decide) D l cD (prs L) (by simp [Act.eval, Act.put]) (by first | exact Own.drew' (HO5.out.alloc _) | exact HO5.out.alloc _ | fail) (some ⟨w5.heap.size, 0, none⟩) 1 1 (prs [(x, y)]) (by simp [Act.eval, Act.put]) (by first | exact Rd.drew' (rd_lit2_at rfl [(x, y)] _) | exact rd_lit2_at rfl [(x, y)] _ | fail) (prs_one _) (by omega) (by unfold maxLen; omega) (by first | omega | (simp; done) | (simp; omega)) ?_; intro A4 c4 w4 ho4 hg4 hb4; have O4 : Hid (Own w4 wq.heap.size 42 2 A4 (l + 1) c4 (prs (L ++ [(x, y)]))) := Lib.hid (by rw [prs_app]; exact ho4); have B4 : Hid (Below wq.heap.size wq w4) := Lib.hid (by first | exact (((HBi.out.trans (HBD.out.mono hzi)).alloc (by omega) _).drew).grown hg4 (by first | omega | (simp; done) | (simp; omega)) (fun k hk => (HO5.out.lt hk).1) | exact ((HBi.out.trans (HBD.out.mono hzi)).alloc (by omega) _).grown hg4 (by first | omega | (simp; done) | (simp; omega)) (fun k hk => (HO5.out.lt hk).1) | fail); clear ho4 hg4 hb4)
                | fail))
              all_goals
               go_wp2_with fail
               go_roundg (k - (q + 1))
               case measure => omega
               case rel => exact ⟨q + 1, A4, l + 1, c4, by omega, by omega, rfl, by go_num, rfl, by omega, by rw [PE.out, ← List.append_assoc, hL]; exact O4.out, B4.out⟩
          · have cJ := call_q (w := wi) (fun w' hw => JN.out x y true hj w' (RI.out.keep hw))
            have hnb : nb = false := by rw [NJ.out, hj]; rfl
            have PE := Lib.hid (PN.out hnb)
            clear hnb hj PY PN NJ
            go_wp2_with fail
            refine wp_region_q (by kernel_rfl) (by kernel_rfl) ?_
            repeat (go_big_quiet_step (first | with_reducible exact cJ _ _))
            refine wpQuiet_nil ?_
            intro wq2 hgq2
            go_wp2_with fail
            go_roundg (k - (q + 1))
            case measure => omega
            case rel => exact ⟨q + 1, D, l, cD, by omega, by omega, rfl, by go_num, rfl, by omega, by rw [PE.out]; exact HOi.out.later hgq2, HBi.out.trans (hgq2.mono hzi)⟩
        · obtain rfl : q = k := by omega
          have hl3 : l ≤ (i + 1) * q := by rw [Nat.add_mul]; omega
          go_wp2_with fail
          go_roundg (q - (i + 1))
          case measure => omega
          case rel => exact ⟨i + 1, D, l, cD, by omega, rfl, by go_num, rfl, hl3, HOi.out, HBi.out⟩
    · obtain rfl : i = k := by omega
      go_wp2_with fail
      go_ret
      exact ⟨X1.out.below.trans (HB.out.mono (by have := X1.out.facts.1; omega)), D, l, cD, rfl, by rw [YY.out]; exact HO.out.base_le (by have := X1.out.facts.1; omega)⟩
end Go.Proofs.Ytagcaljpgifppaa
