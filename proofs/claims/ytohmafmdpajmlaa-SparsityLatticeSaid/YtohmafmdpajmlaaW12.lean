/-
  setsquareref35.Excess: for every valid graph and every points in memory.
-/
import Derived.Test.YtohmafmdpajmlaaW11
import Derived.Test.YtohmafmdpajmlaaSpecF
namespace Go.Proofs.Ytohmafmdpajmlaa
set_option linter.unusedVariables false
set_option linter.unusedSimpArgs false
open Go.RowKit Go.Sort

theorem set_no (N : Int) (A L : Option Addr) (m cm n cl : Nat) (ps : List Int) (w : World) (hN : N ≤ 60) (hn : n ≤ 100000) (hl : Rd w 1 L n (ints ps)) (hb : setOk N ps = false) :
    Calls Try.prog 24 #[.agg #[.int .i64 N, .slice A m cm], .slice L n cl] w fun e w' => (∃ v : Int, e = .returned (.tuple #[.int .i64 v, .bool false])) ∧ Below w.heap.size w w' :=
  (set_any N A L m cm n cl ps w hN hn hl).mono fun e w' ⟨he, hw⟩ => ⟨⟨setVal N ps, by rw [he, hb]⟩, hw⟩
theorem set_yes (N : Int) (A L : Option Addr) (m cm n cl : Nat) (ps : List Int) (w : World) (hN : N ≤ 60) (hn : n ≤ 100000) (hl : Rd w 1 L n (ints ps)) (hb : setOk N ps = true) :
    Calls Try.prog 24 #[.agg #[.int .i64 N, .slice A m cm], .slice L n cl] w fun e w' => e = .returned (.tuple #[.int .i64 (setS ps : Nat), .bool true]) ∧ Below w.heap.size w w' :=
  (set_any N A L m cm n cl ps w hN hn hl).mono fun e w' ⟨he, hw⟩ => ⟨by
    have h1 : ascB N ps = true := by unfold setOk at hb; simp only [Bool.and_eq_true] at hb; exact hb.1
    rw [he, hb, setVal_yes h1], hw⟩

set_option maxHeartbeats 1000000 in
theorem excess_any (N : Int) (A L : Option Addr) (m cm n cl : Nat) (es : List (Int × Int)) (ps : List Int) (w : World) (hm : m ≤ 100) (hn : n ≤ 100000) (he : Rd w 2 A m (prs es)) (hl : Rd w 1 L n (ints ps)) (hv : validB N es = true) :
    Calls Try.prog 22 #[.agg #[.int .i64 N, .slice A m cm], .slice L n cl] w fun e w' => e = .returned (.tuple #[.int .i64 (excVal N es ps), .bool (setOk N ps)]) ∧ Below w.heap.size w w' := by
  have HN := ((validB_iff N es).1 hv).2.1
  have HL := Lib.hid hl.int_len
  have HE := Lib.hid he.prs_len
  have H1 : Hid (Rd (w.alloc (.cells #[.int .i64 N, .slice A m cm] 24)) 2 A m (prs es)) := he.keep (Keeps.alloc w _)
  have H2 : Hid (Rd (w.alloc (.cells #[.int .i64 N, .slice A m cm] 24)) 1 L n (ints ps)) := hl.keep (Keeps.alloc w _)
  have hends : ∀ k, k < m → 0 ≤ (es.getD k (0, 0)).1 ∧ (es.getD k (0, 0)).1 < 60 ∧ 0 ≤ (es.getD k (0, 0)).2 ∧ (es.getD k (0, 0)).2 < 60 := fun k hk => by
    have := validB_ends hv (k := k) (by rw [HE.out]; exact hk)
    omega
  have HEN := Lib.hid hends
  clear he hl hv hends
  cases hx : setOk N ps
  · rw [excVal_no hx]
    have HX := Lib.hid hx
    clear hx
    go_enter Try.func22, Try.ntmps22
    go_wp2_with (go_at_call 24; refine (set_no N A L m cm n cl ps _ HN hn H2.out HX.out).mono ?_; rintro e w1 ⟨⟨v, rfl⟩, hb1⟩)
    go_ret2
    exact ⟨rfl, ((Below.refl _ _).alloc (Nat.le_refl _) _).trans (hb1.mono (by simp))⟩
  · rw [excVal_yes hx]
    have hlt : setS ps < 2 ^ 60 := setS_lt (fun p hp => by
      have h1 : ascB N ps = true := by unfold setOk at hx; simp only [Bool.and_eq_true] at hx; exact hx.1
      have := ascB_mem h1 hp; omega)
    have hlt2 : setS ps < 1152921504606846976 := hlt
    have HX := Lib.hid hx
    have hs0 := spanS_nonneg es (setS ps)
    have hs1 := spanS_le es (setS ps)
    rw [HE.out] at hs1
    rw [HL.out]
    have HP : Hid (∀ w', Keeps (w.alloc (.cells #[.int .i64 N, .slice A m cm] 24)) w' → Calls Try.prog 34 #[.agg #[.int .i64 N, .slice A m cm], .int .i64 (setS ps : Nat)] w' fun e w'' => e = .returned (.int .i64 (spanS es (setS ps))) ∧ Below w'.heap.size w' w'') :=
      fun w' hk => spans_any N A m cm es (setS ps) w' hm hlt2 (H1.out.keep hk) HEN.out
    have HQ : Hid (Calls Try.prog 24 #[.agg #[.int .i64 N, .slice A m cm], .slice L n cl] (w.alloc (.cells #[.int .i64 N, .slice A m cm] 24)) fun e w' => e = .returned (.tuple #[.int .i64 (setS ps : Nat), .bool true]) ∧ Below (w.alloc (.cells #[.int .i64 N, .slice A m cm] 24)).heap.size (w.alloc (.cells #[.int .i64 N, .slice A m cm] 24)) w') :=
      set_yes N A L m cm n cl ps _ HN hn H2.out HX.out
    generalize spanS es (setS ps) = sp at HP hs0 hs1
    generalize setS ps = S at HP HQ hlt2
    clear hx hlt
    go_enter Try.func22, Try.ntmps22
    go_wp2_with (first
      | (go_at_call 24; refine HQ.out.mono ?_; rintro e w1 ⟨rfl, hb1⟩; have HB1 := Lib.hid hb1; have g0 : w1.cell? ⟨w.heap.size, 0, none⟩ = some (.int .i64 N) := (by rw [hb1.cell (by simp)]; simp); have g1 : w1.cell? ⟨w.heap.size, 1, none⟩ = some (.slice A m cm) := (by rw [hb1.cell (by simp)]; simp); clear hb1)
      | (go_at_call 34; refine (HP.out _ (Keeps.of_below HB1.out (Nat.le_refl _))).mono ?_; rintro e w2 ⟨rfl, hb2⟩; have HB2 := Lib.hid hb2; clear hb2))
    go_ret2
    have hs := HB1.out.size
    exact ⟨rfl, (((Below.refl _ _).alloc (Nat.le_refl _) _).trans (HB1.out.mono (by simp))).trans (HB2.out.mono (by simp at hs; omega))⟩
theorem excess_b {b : Bool} {v : Int} (N : Int) (A L : Option Addr) (m cm n cl : Nat) (es : List (Int × Int)) (ps : List Int) (w : World) (hm : m ≤ 100) (hn : n ≤ 100000) (he : Rd w 2 A m (prs es)) (hl : Rd w 1 L n (ints ps)) (hv : validB N es = true) (h1 : excVal N es ps = v) (h2 : setOk N ps = b) :
    Calls Try.prog 22 #[.agg #[.int .i64 N, .slice A m cm], .slice L n cl] w fun e w' => e = .returned (.tuple #[.int .i64 v, .bool b]) ∧ Below w.heap.size w w' := by
  subst h1 h2; exact excess_any N A L m cm n cl es ps w hm hn he hl hv
end Go.Proofs.Ytohmafmdpajmlaa
