/-
  SparsitySequence: the walk of the statement.
-/
import Derived.Test.YtagcaljpgifppaaMs
import Derived.Test.YtagcaljpgifppaaMv
namespace Go.Proofs.Ytagcaljpgifppaa
set_option linter.unusedVariables false
set_option linter.unusedSimpArgs false
open Go.RowKit Go.Sort
attribute [local go_sem ↓] Go.wp_at_zero Go.wp_at_succ

/-- What a world behind the boxing of the graph keeps. -/
def SX (w : World) (N : Int) (A : Option Addr) (m c : Nat) (w1 : World) : Prop := Below (w.heap.size + 1) (w.alloc (.cells #[.int .i64 N, .slice A m c] 24)) w1
section
variable {w w1 w2 : World} {N : Int} {A : Option Addr} {m c : Nat}
theorem SX.start : SX w N A m c (w.alloc (.cells #[.int .i64 N, .slice A m c] 24)) := Below.refl _ _
theorem SX.facts (h : SX w N A m c w1) : w.heap.size < w1.heap.size ∧ w1.cell? ⟨w.heap.size, 0, none⟩ = some (.int .i64 N) ∧ w1.cell? ⟨w.heap.size, 1, none⟩ = some (.slice A m c) := by
  have hs := h.size
  simp at hs
  exact ⟨by omega, by rw [Below.cell h (by simp)]; simp, by rw [Below.cell h (by simp)]; simp⟩
theorem SX.next (h : SX w N A m c w1) (hb : Below w1.heap.size w1 w2) : SX w N A m c w2 := Below.trans h (hb.mono h.facts.1)
theorem SX.below (h : SX w N A m c w1) : Below w.heap.size w w1 := ((Below.refl _ _).alloc (Nat.le_refl _) _).trans (Below.mono h (by omega))
theorem SX.keeps (h : SX w N A m c w1) : Keeps w w1 := Keeps.of_below h.below (Nat.le_refl _)
end
theorem valid35_b {b : Bool} (N : Int) (A : Option Addr) (m c : Nat) (es : List (Int × Int)) (w : World) (hm : m ≤ 100) (he : Rd w 2 A m (prs es)) (hb : validB N es = b) :
    Calls Try.prog 27 #[.agg #[.int .i64 N, .slice A m c]] w fun e w' => e = .returned (.bool b) ∧ Below w.heap.size w w' := by
  have := valid_any N A m c es w hm he
  rw [hb] at this
  exact this
theorem pseq_b {b : Bool} (N : Int) (A S : Option Addr) (m c n cs : Nat) (es : List (Int × Int)) (st : List (Int × Int × Int)) (w : World) (hm : m ≤ 1000000) (hn : n ≤ 20) (he : Rd w 2 A m (prs es)) (hs : Rd w 3 S n (trs st)) (hb : seqB N es (seqK st n) = b) :
    Calls Try.prog 29 #[.agg #[.int .i64 N, .slice A m c], .slice S n cs] w fun e w' => e = .returned (.bool b) ∧ Below w.heap.size w w' := by
  subst hb; exact pseq_any N A S m c n cs es st w hm hn he hs
set_option maxHeartbeats 8000000 in
theorem law_ss (N : Int) (A S : Option Addr) (m c n cs : Nat) (es : List (Int × Int)) (st : List (Int × Int × Int)) (w : World) (hm : m ≤ maxLen) (hn : n ≤ maxLen) (he : Rd w 2 A m (prs es)) (hs : Rd w 3 S n (trs st)) :
    Calls Try.prog 5 #[.agg #[.int .i64 N, .slice A m c], .slice S n cs] w fun e w' => e = .returned (.bool true) ∧ Below w.heap.size w w' := by
  have H0 := Lib.hid he
  have HS := Lib.hid hs
  have HE := Lib.hid he.prs_len
  have X0 : Hid (SX w N A m c (w.alloc (.cells #[.int .i64 N, .slice A m c] 24))) := Lib.hid SX.start
  unfold maxLen at hm hn
  clear he hs
  cases h1 : decide ((m : Int) ≤ 100)
  · have D1 := Lib.hid h1
    clear h1
    go_enter Try.func5, Try.ntmps5
    go_wp2_with fail
    refine (awake_any _).mono ?_
    rintro e w1 ⟨rfl, hb⟩
    have X1 := Lib.hid (X0.out.next hb)
    obtain ⟨hz1, p0, p1⟩ := X1.out.facts
    clear hb
    go_wp2_with fail
    refine (small_b (b := false) N A m c _ D1.out).mono ?_
    rintro e w2 ⟨rfl, hb⟩
    have X2 := Lib.hid (X1.out.next hb)
    clear hb
    go_wp2_with fail
    refine (awake_any _).mono ?_
    rintro e w3 ⟨rfl, hb⟩
    have X3 := Lib.hid (X2.out.next hb)
    clear hb
    go_wp2_with fail
    go_ret
    exact ⟨rfl, X3.out.below⟩
  have hm100 : m ≤ 100 := by simp at h1; omega
  have D1 := Lib.hid h1
  clear h1
  by_cases hn20 : 20 < n
  · have d2 : decide ((20 : Int) < (n : Int)) = true := decide_eq_true (by omega)
    clear hn20
    go_enter Try.func5, Try.ntmps5
    go_wp2_with fail
    refine (awake_any _).mono ?_
    rintro e w1 ⟨rfl, hb⟩
    have X1 := Lib.hid (X0.out.next hb)
    obtain ⟨hz1, p0, p1⟩ := X1.out.facts
    clear hb
    go_wp2_with fail
    refine (small_b (b := true) N A m c _ D1.out).mono ?_
    rintro e w2 ⟨rfl, hb⟩
    have X2 := Lib.hid (X1.out.next hb)
    clear hb
    go_wp2_with fail
    refine (awake_any _).mono ?_
    rintro e w3 ⟨rfl, hb⟩
    have X3 := Lib.hid (X2.out.next hb)
    clear hb
    go_wp2_with fail
    go_ret
    exact ⟨rfl, X3.out.below⟩
  have d2 : decide ((20 : Int) < (n : Int)) = false := decide_eq_false (by omega)
  have RS : Hid (∀ w', Rd w' 3 S n (trs st) → Calls Try.prog 26 #[.slice S n cs] w' (SeqPost w' (seqK st n))) := Lib.hid fun w' h => rseq_any S n cs st w' (by omega) h
  cases hk : seqK st n with
  | none =>
    rw [hk] at RS
    have FB : Hid (seqB N es (seqK st n) = false) := Lib.hid (by rw [hk]; rfl)
    clear hk
    go_enter Try.func5, Try.ntmps5
    go_wp2_with fail
    refine (awake_any _).mono ?_
    rintro e w1 ⟨rfl, hb⟩
    have X1 := Lib.hid (X0.out.next hb)
    obtain ⟨hz1, p0, p1⟩ := X1.out.facts
    clear hb
    go_wp2_with fail
    refine (small_b (b := true) N A m c _ D1.out).mono ?_
    rintro e w2 ⟨rfl, hb⟩
    have X2 := Lib.hid (X1.out.next hb)
    obtain ⟨hz1, p0, p1⟩ := X2.out.facts
    clear hb
    go_wp2_with fail
    refine (RS.out _ (HS.out.keep X2.out.keeps)).mono ?_
    rintro e w3 ⟨hb, ⟨-, rfl⟩ | ⟨N', es', B', c', h9, -⟩⟩
    rotate_left
    · cases h9
    have X3 := Lib.hid ((X2.out.next hb).next ((Below.refl _ _).alloc (Nat.le_refl _) (.cells #[.int .i64 0, .slice none 0 0] 24)))
    obtain ⟨hz1, p0, p1⟩ := X3.out.facts
    clear hb
    go_wp2_with fail
    refine (pseq_b (b := false) N A S m c n cs es st _ (by omega) (by omega) (H0.out.keep X3.out.keeps) (HS.out.keep X3.out.keeps) FB.out).mono ?_
    rintro e w4 ⟨rfl, hb⟩
    have X4 := Lib.hid (X3.out.next hb)
    clear hb
    go_wp2_with fail
    go_ret
    exact ⟨rfl, X4.out.below⟩
  | some g =>
    obtain ⟨N', es'⟩ := g
    rw [hk] at RS
    have inv := seqK_inv st n _ hk
    have hin := inv.n
    have hil := inv.len
    simp only at hin hil
    generalize hq : es'.length = q at hil
    have hq100 : q ≤ 100 := by omega
    have FB : Hid (∀ b1 b2, validB N es = b1 → (decide (N = N') && decide (es = es')) = b2 → seqB N es (seqK st n) = (b1 && b2)) := Lib.hid (fun b1 b2 h1 h2 => by rw [hk, ← h1, ← h2]; rfl)
    have LB : Hid (validB N es = true → (decide (N = N') && decide (es = es')) = true → ∀ n' : Nat, N = n' → rlamanB n' es = true) := Lib.hid (fun _ h2 n' hn' => by
      simp at h2
      obtain ⟨h3, h4⟩ := inv.laman n' |>.2
      have h5 := (inv.laman n').1
      simp only at h3 h4 h5
      unfold rlamanB
      rw [h2.2, h4, decide_eq_true (by omega), decide_eq_true (by omega)]; rfl)
    have RS2 : Hid (∀ w', Rd w' 3 S n (trs st) → Calls Try.prog 26 #[.slice S n cs] w' fun e w'' => Below w'.heap.size w' w'' ∧ ∃ B c', e = .returned (.tuple #[.agg #[.int .i64 N', .slice B q c'], .bool true]) ∧ Rd w'' 2 B q (prs es')) := Lib.hid fun w' h => (RS.out w' h).mono (fun e w'' hp => by
      obtain ⟨hb, ⟨h9, -⟩ | ⟨N2, es2, B, c', h8, he, hr⟩⟩ := hp
      · cases h9
      · injection h8 with h8
        injection h8 with h8 h9
        subst h8 h9
        rw [hq] at he hr
        exact ⟨hb, B, c', he, hr⟩)
    clear RS inv hin hil hk
    cases hv : validB N es
    · have HV := Lib.hid hv
      have FB2 : Hid (seqB N es (seqK st n) = false) := Lib.hid (FB.out false _ hv rfl)
      clear hv
      go_enter Try.func5, Try.ntmps5
      go_wp2_with fail
      refine (awake_any _).mono ?_
      rintro e w1 ⟨rfl, hb⟩
      have X1 := Lib.hid (X0.out.next hb)
      obtain ⟨hz1, p0, p1⟩ := X1.out.facts
      clear hb
      go_wp2_with fail
      refine (small_b (b := true) N A m c _ D1.out).mono ?_
      rintro e w2 ⟨rfl, hb⟩
      have X2 := Lib.hid (X1.out.next hb)
      obtain ⟨hz1, p0, p1⟩ := X2.out.facts
      clear hb
      go_wp2_with fail
      refine (RS2.out _ (HS.out.keep X2.out.keeps)).mono ?_
      rintro e w3 ⟨hb, B3, c3, rfl, hr⟩
      have X3 := Lib.hid ((X2.out.next hb).next ((Below.refl _ _).alloc (Nat.le_refl _) (.cells #[.int .i64 N', .slice B3 q c3] 24)))
      obtain ⟨hz1, p0, p1⟩ := X3.out.facts
      clear hb hr
      go_wp2_with fail
      refine (valid35_b (b := false) N A m c es _ (by omega) (H0.out.keep X3.out.keeps) HV.out).mono ?_
      rintro e w4 ⟨rfl, hb⟩
      have X4 := Lib.hid (X3.out.next hb)
      obtain ⟨hz1, p0, p1⟩ := X4.out.facts
      clear hb
      go_wp2_with fail
      refine (pseq_b (b := false) N A S m c n cs es st _ (by omega) (by omega) (H0.out.keep X4.out.keeps) (HS.out.keep X4.out.keeps) FB2.out).mono ?_
      rintro e w5 ⟨rfl, hb⟩
      have X5 := Lib.hid (X4.out.next hb)
      clear hb
      go_wp2_with fail
      go_ret
      exact ⟨rfl, X5.out.below⟩
    · have HV := Lib.hid hv
      generalize hsm : (decide (N = N') && decide (es = es')) = sm
      have SM := Lib.hid hsm
      have FB2 : Hid (seqB N es (seqK st n) = sm) := Lib.hid (by rw [FB.out true _ hv hsm]; rfl)
      have hN := (validB_iff N es).1 hv
      have hN0 := hN.1
      have hN60 := hN.2.1
      clear hv hsm hN
      cases sm
      · go_enter Try.func5, Try.ntmps5
        go_wp2_with fail
        refine (awake_any _).mono ?_
        rintro e w1 ⟨rfl, hb⟩
        have X1 := Lib.hid (X0.out.next hb)
        obtain ⟨hz1, p0, p1⟩ := X1.out.facts
        clear hb
        go_wp2_with fail
        refine (small_b (b := true) N A m c _ D1.out).mono ?_
        rintro e w2 ⟨rfl, hb⟩
        have X2 := Lib.hid (X1.out.next hb)
        obtain ⟨hz1, p0, p1⟩ := X2.out.facts
        clear hb
        go_wp2_with fail
        refine (RS2.out _ (HS.out.keep X2.out.keeps)).mono ?_
        rintro e w3 ⟨hb, B3, c3, rfl, hr⟩
        have X3 := Lib.hid ((X2.out.next hb).next ((Below.refl _ _).alloc (Nat.le_refl _) (.cells #[.int .i64 N', .slice B3 q c3] 24)))
        obtain ⟨hz1, p0, p1⟩ := X3.out.facts
        have R3 := Lib.hid (hr.keep (Keeps.alloc w3 (.cells #[.int .i64 N', .slice B3 q c3] 24)))
        clear hb hr
        go_wp2_with fail
        refine (valid35_b (b := true) N A m c es _ (by omega) (H0.out.keep X3.out.keeps) HV.out).mono ?_
        rintro e w4 ⟨rfl, hb⟩
        have X4 := Lib.hid (X3.out.next hb)
        obtain ⟨hz1, p0, p1⟩ := X4.out.facts
        have k4 := Keeps.of_below hb (Nat.le_refl _)
        have R4 := Lib.hid (R3.out.keep k4)
        have g0 := k4 _ _ (show (w3.alloc (.cells #[.int .i64 N', .slice B3 q c3] 24)).cell? ⟨w3.heap.size, 0, none⟩ = some (.int .i64 N') by simp)
        have g1 := k4 _ _ (show (w3.alloc (.cells #[.int .i64 N', .slice B3 q c3] 24)).cell? ⟨w3.heap.size, 1, none⟩ = some (.slice B3 q c3) by simp)
        clear hb k4
        go_wp2_with fail
        refine (rsame_b (b := false) N N' A B3 m c q c3 es es' _ (by omega) (by omega) (H0.out.keep X4.out.keeps) R4.out SM.out).mono ?_
        rintro e w5 ⟨rfl, hb⟩
        have X5 := Lib.hid (X4.out.next hb)
        obtain ⟨hz1, p0, p1⟩ := X5.out.facts
        clear hb
        go_wp2_with fail
        refine (pseq_b (b := false) N A S m c n cs es st _ (by omega) (by omega) (H0.out.keep X5.out.keeps) (HS.out.keep X5.out.keeps) FB2.out).mono ?_
        rintro e w6 ⟨rfl, hb⟩
        have X6 := Lib.hid (X5.out.next hb)
        clear hb
        go_wp2_with fail
        go_ret
        exact ⟨rfl, X6.out.below⟩
      · go_enter Try.func5, Try.ntmps5
        go_wp2_with fail
        refine (awake_any _).mono ?_
        rintro e w1 ⟨rfl, hb⟩
        have X1 := Lib.hid (X0.out.next hb)
        obtain ⟨hz1, p0, p1⟩ := X1.out.facts
        clear hb
        go_wp2_with fail
        refine (small_b (b := true) N A m c _ D1.out).mono ?_
        rintro e w2 ⟨rfl, hb⟩
        have X2 := Lib.hid (X1.out.next hb)
        obtain ⟨hz1, p0, p1⟩ := X2.out.facts
        clear hb
        go_wp2_with fail
        refine (RS2.out _ (HS.out.keep X2.out.keeps)).mono ?_
        rintro e w3 ⟨hb, B3, c3, rfl, hr⟩
        have X3 := Lib.hid ((X2.out.next hb).next ((Below.refl _ _).alloc (Nat.le_refl _) (.cells #[.int .i64 N', .slice B3 q c3] 24)))
        obtain ⟨hz1, p0, p1⟩ := X3.out.facts
        have R3 := Lib.hid (hr.keep (Keeps.alloc w3 (.cells #[.int .i64 N', .slice B3 q c3] 24)))
        clear hb hr
        go_wp2_with fail
        refine (valid35_b (b := true) N A m c es _ (by omega) (H0.out.keep X3.out.keeps) HV.out).mono ?_
        rintro e w4 ⟨rfl, hb⟩
        have X4 := Lib.hid (X3.out.next hb)
        obtain ⟨hz1, p0, p1⟩ := X4.out.facts
        have k4 := Keeps.of_below hb (Nat.le_refl _)
        have R4 := Lib.hid (R3.out.keep k4)
        have g0 := k4 _ _ (show (w3.alloc (.cells #[.int .i64 N', .slice B3 q c3] 24)).cell? ⟨w3.heap.size, 0, none⟩ = some (.int .i64 N') by simp)
        have g1 := k4 _ _ (show (w3.alloc (.cells #[.int .i64 N', .slice B3 q c3] 24)).cell? ⟨w3.heap.size, 1, none⟩ = some (.slice B3 q c3) by simp)
        clear hb k4
        go_wp2_with fail
        refine (rsame_b (b := true) N N' A B3 m c q c3 es es' _ (by omega) (by omega) (H0.out.keep X4.out.keeps) R4.out SM.out).mono ?_
        rintro e w5 ⟨rfl, hb⟩
        have X5 := Lib.hid (X4.out.next hb)
        obtain ⟨hz1, p0, p1⟩ := X5.out.facts
        clear hb
        go_wp2_with fail
        refine (pseq_b (b := true) N A S m c n cs es st _ (by omega) (by omega) (H0.out.keep X5.out.keeps) (HS.out.keep X5.out.keeps) FB2.out).mono ?_
        rintro e w6 ⟨rfl, hb⟩
        have X6 := Lib.hid (X5.out.next hb)
        obtain ⟨hz1, p0, p1⟩ := X6.out.facts
        clear hb
        by_cases h9 : 9 < N
        · go_wp2_with fail
          go_ret
          exact ⟨rfl, X6.out.below⟩
        · obtain ⟨n', hn'⟩ : ∃ n' : Nat, N = n' := ⟨N.toNat, by omega⟩
          have LM : Hid (∀ w', Rd w' 2 A m (prs es) → Calls Try.prog 30 #[.agg #[.int .i64 N, .slice A m c]] w' fun e w'' => e = .returned (.bool true) ∧ Below w'.heap.size w' w'') := Lib.hid fun w' h => by
            have h1 := rlaman_any n' A m c es w' (by omega) (by omega) h (by rw [← hn']; exact HV.out)
            rw [LB.out HV.out SM.out n' hn', ← hn'] at h1
            exact h1
          clear hn'
          go_wp2_with fail
          refine (LM.out _ (H0.out.keep X6.out.keeps)).mono ?_
          rintro e w7 ⟨rfl, hb⟩
          have X7 := Lib.hid (X6.out.next hb)
          clear hb
          go_wp2_with fail
          go_ret
          exact ⟨rfl, X7.out.below⟩
end Go.Proofs.Ytagcaljpgifppaa
