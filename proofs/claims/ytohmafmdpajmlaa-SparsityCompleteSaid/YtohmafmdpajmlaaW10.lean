/-
  sparsity.Violates, Tight, Laman; setsquareref35.Few; setsquarelaw35.valid: for every graph, every points and lists in memory.
-/
import Derived.Test.YtohmafmdpajmlaaW9
import Derived.Test.YtohmafmdpajmlaaW7
namespace Go.Proofs.Ytohmafmdpajmlaa
set_option linter.unusedVariables false
set_option linter.unusedSimpArgs false
open Go.RowKit Go.Sort

def violB (N : Int) (es : List (Int × Int)) (ps : List Int) : Bool := exOk N es ps && decide (2 * (ps.length : Int) - 3 < spanI es ps)
def tightB (N : Int) (es : List (Int × Int)) (ps : List Int) : Bool := exOk N es ps && decide (spanI es ps = 2 * (ps.length : Int) - 3)
def lamanB (N : Int) (es : List (Int × Int)) (ls : List (List Int)) : Bool := decide (2 ≤ N) && (decide ((es.length : Int) = 2 * N - 3) && sparseB N es ls)

set_option maxHeartbeats 1000000 in
theorem violates_any (N : Int) (A L : Option Addr) (m cm n cl : Nat) (es : List (Int × Int)) (ps : List Int) (w : World) (hm : m ≤ 100) (hn : n ≤ 100000) (he : Rd w 2 A m (prs es)) (hl : Rd w 1 L n (ints ps)) :
    Calls Try.prog 18 #[.agg #[.int .i64 N, .slice A m cm], .slice L n cl] w fun e w' => e = .returned (.bool (violB N es ps)) ∧ Below w.heap.size w w' := by
  have HL := Lib.hid hl.int_len
  have H1 : Hid (Rd (w.alloc (.cells #[.int .i64 N, .slice A m cm] 24)) 2 A m (prs es)) := he.keep (Keeps.alloc w _)
  have H2 : Hid (Rd (w.alloc (.cells #[.int .i64 N, .slice A m cm] 24)) 1 L n (ints ps)) := hl.keep (Keeps.alloc w _)
  clear he hl
  unfold violB
  by_cases hx : exOk N es ps = false
  · rw [hx]
    have HX := Lib.hid hx
    clear hx
    go_enter Try.func18, Try.ntmps18
    go_wp2_with (go_at_call 35; refine (spanned_no N A L m cm n cl es ps _ hm (by omega) H1.out H2.out HX.out).mono ?_; rintro e w1 ⟨rfl, hb1⟩)
    go_ret
    exact ⟨rfl, ((Below.refl _ _).alloc (Nat.le_refl _) _).trans (hb1.mono (by simp))⟩
  · have hx' : exOk N es ps = true := by simpa using hx
    rw [hx']
    have HX := Lib.hid hx'
    have hs0 := spanI_nonneg es ps
    clear hx hx'
    go_enter Try.func18, Try.ntmps18
    go_wp2_with (go_at_call 35; refine (spanned_yes N A L m cm n cl es ps _ hm (by omega) H1.out H2.out HX.out).mono ?_; rintro e w1 ⟨rfl, hb1⟩)
    go_ret
    exact ⟨ret_bool (by rw [HL.out]; rfl), ((Below.refl _ _).alloc (Nat.le_refl _) _).trans (hb1.mono (by simp))⟩

set_option maxHeartbeats 1000000 in
theorem tight_any (N : Int) (A L : Option Addr) (m cm n cl : Nat) (es : List (Int × Int)) (ps : List Int) (w : World) (hm : m ≤ 100) (hn : n ≤ 100000) (he : Rd w 2 A m (prs es)) (hl : Rd w 1 L n (ints ps)) :
    Calls Try.prog 23 #[.agg #[.int .i64 N, .slice A m cm], .slice L n cl] w fun e w' => e = .returned (.bool (tightB N es ps)) ∧ Below w.heap.size w w' := by
  have HL := Lib.hid hl.int_len
  have H1 : Hid (Rd (w.alloc (.cells #[.int .i64 N, .slice A m cm] 24)) 2 A m (prs es)) := he.keep (Keeps.alloc w _)
  have H2 : Hid (Rd (w.alloc (.cells #[.int .i64 N, .slice A m cm] 24)) 1 L n (ints ps)) := hl.keep (Keeps.alloc w _)
  clear he hl
  unfold tightB
  by_cases hx : exOk N es ps = false
  · rw [hx]
    have HX := Lib.hid hx
    clear hx
    go_enter Try.func23, Try.ntmps23
    go_wp2_with (go_at_call 35; refine (spanned_no N A L m cm n cl es ps _ hm (by omega) H1.out H2.out HX.out).mono ?_; rintro e w1 ⟨rfl, hb1⟩)
    go_ret
    exact ⟨rfl, ((Below.refl _ _).alloc (Nat.le_refl _) _).trans (hb1.mono (by simp))⟩
  · have hx' : exOk N es ps = true := by simpa using hx
    rw [hx']
    have HX := Lib.hid hx'
    have hs0 := spanI_nonneg es ps
    clear hx hx'
    go_enter Try.func23, Try.ntmps23
    go_wp2_with (go_at_call 35; refine (spanned_yes N A L m cm n cl es ps _ hm (by omega) H1.out H2.out HX.out).mono ?_; rintro e w1 ⟨rfl, hb1⟩)
    go_ret
    exact ⟨ret_bool (by rw [HL.out]; rfl), ((Below.refl _ _).alloc (Nat.le_refl _) _).trans (hb1.mono (by simp))⟩

theorem sparse_b {b : Bool} (N : Int) (A L : Option Addr) (m cm n cl : Nat) (es : List (Int × Int)) (ls : List (List Int)) (w : World) (hm : m ≤ 100) (hn : n ≤ 4611686018427387904) (hsh : ∀ j, j < n → (ls.getD j []).length ≤ 4611686018427387904)
    (he : Rd w 2 A m (prs es)) (hl : RdL w L n ls) (hb : sparseB N es ls = b) :
    Calls Try.prog 13 #[.agg #[.int .i64 N, .slice A m cm], .slice L n cl] w fun e w' => e = .returned (.bool b) ∧ Below w.heap.size w w' := by
  subst hb; exact sparse_any N A L m cm n cl es ls w hm hn hsh he hl

set_option maxHeartbeats 1000000 in
theorem laman_any (N : Int) (A L : Option Addr) (m cm n cl : Nat) (es : List (Int × Int)) (ls : List (List Int)) (w : World) (hm : m ≤ 100) (hn : n ≤ 4611686018427387904) (hsh : ∀ j, j < n → (ls.getD j []).length ≤ 4611686018427387904)
    (he : Rd w 2 A m (prs es)) (hl : RdL w L n ls) :
    Calls Try.prog 20 #[.agg #[.int .i64 N, .slice A m cm], .slice L n cl] w fun e w' => e = .returned (.bool (lamanB N es ls)) ∧ Below w.heap.size w w' := by
  have HE := Lib.hid he.prs_len
  have H1 : Hid (Rd (w.alloc (.cells #[.int .i64 N, .slice A m cm] 24)) 2 A m (prs es)) := he.keep (Keeps.alloc w _)
  have H2 : Hid (RdL (w.alloc (.cells #[.int .i64 N, .slice A m cm] 24)) L n ls) := hl.keep (Keeps.alloc w _)
  have HS := Lib.hid hsh
  clear he hl hsh
  unfold lamanB
  rw [HE.out]
  by_cases hN : N < 2
  · rw [decide_eq_false (by omega : ¬ 2 ≤ N)]
    go_enter Try.func20, Try.ntmps20
    go_wp2
    go_ret
    exact ⟨rfl, (Below.refl _ _).alloc (Nat.le_refl _) _⟩
  rw [decide_eq_true (by omega : 2 ≤ N)]
  by_cases hN6 : 60 < N
  · have HX : Hid (sparseB N es ls = false) := sparseB_invalid (validB_out N es (.inr hN6))
    rw [HX.out, Bool.and_false]
    go_enter Try.func20, Try.ntmps20
    go_wp2_with (go_at_call 13; refine (sparse_b N A L m cm n cl es ls _ hm hn HS.out H1.out H2.out HX.out).mono ?_; rintro e w1 ⟨rfl, hb1⟩)
    · go_ret
      exact ⟨rfl, ((Below.refl _ _).alloc (Nat.le_refl _) _).trans (hb1.mono (by simp))⟩
    · go_ret
      exact ⟨rfl, (Below.refl _ _).alloc (Nat.le_refl _) _⟩
  by_cases hl : (m : Int) = 2 * N - 3
  · rw [decide_eq_true hl]
    have hlb : ((m : Int) == 2 * N - 3) = true := by simpa using hl
    generalize hz : sparseB N es ls = z
    have HZ := Lib.hid hz
    clear hz hl
    go_enter Try.func20, Try.ntmps20
    go_wp2_with (go_at_call 13; refine (sparse_b N A L m cm n cl es ls _ hm hn HS.out H1.out H2.out HZ.out).mono ?_; rintro e w1 ⟨rfl, hb1⟩)
    go_ret
    exact ⟨rfl, ((Below.refl _ _).alloc (Nat.le_refl _) _).trans (hb1.mono (by simp))⟩
  · rw [decide_eq_false hl]
    have hlb : ((m : Int) == 2 * N - 3) = false := by simpa using hl
    clear hl
    go_enter Try.func20, Try.ntmps20
    go_wp2
    go_ret
    exact ⟨rfl, (Below.refl _ _).alloc (Nat.le_refl _) _⟩

theorem rvalid_b {b : Bool} (N : Int) (A : Option Addr) (n c : Nat) (es : List (Int × Int)) (w : World) (hn : n ≤ 4611686018427387904) (he : Rd w 2 A n (prs es)) (hb : validB N es = b) :
    Calls Try.prog 31 #[.agg #[.int .i64 N, .slice A n c]] w fun e w' => e = .returned (.bool b) ∧ Below w.heap.size w w' := by
  subst hb; exact rvalid_any N A n c es w hn he
theorem small_b {b : Bool} (N : Int) (A : Option Addr) (n c : Nat) (w : World) (hb : decide ((n : Int) ≤ 100) = b) :
    Calls Try.prog 11 #[.agg #[.int .i64 N, .slice A n c]] w fun e w' => e = .returned (.bool b) ∧ Below w.heap.size w w' := by
  subst hb; exact small_any N A n c w

theorem laman_b {b : Bool} (N : Int) (A L : Option Addr) (m cm n cl : Nat) (es : List (Int × Int)) (ls : List (List Int)) (w : World) (hm : m ≤ 100) (hn : n ≤ 4611686018427387904) (hsh : ∀ j, j < n → (ls.getD j []).length ≤ 4611686018427387904)
    (he : Rd w 2 A m (prs es)) (hl : RdL w L n ls) (hb : lamanB N es ls = b) :
    Calls Try.prog 20 #[.agg #[.int .i64 N, .slice A m cm], .slice L n cl] w fun e w' => e = .returned (.bool b) ∧ Below w.heap.size w w' := by
  subst hb; exact laman_any N A L m cm n cl es ls w hm hn hsh he hl
theorem violates_b {b : Bool} (N : Int) (A L : Option Addr) (m cm n cl : Nat) (es : List (Int × Int)) (ps : List Int) (w : World) (hm : m ≤ 100) (hn : n ≤ 100000) (he : Rd w 2 A m (prs es)) (hl : Rd w 1 L n (ints ps)) (hb : violB N es ps = b) :
    Calls Try.prog 18 #[.agg #[.int .i64 N, .slice A m cm], .slice L n cl] w fun e w' => e = .returned (.bool b) ∧ Below w.heap.size w w' := by
  subst hb; exact violates_any N A L m cm n cl es ps w hm hn he hl
theorem tight_b {b : Bool} (N : Int) (A L : Option Addr) (m cm n cl : Nat) (es : List (Int × Int)) (ps : List Int) (w : World) (hm : m ≤ 100) (hn : n ≤ 100000) (he : Rd w 2 A m (prs es)) (hl : Rd w 1 L n (ints ps)) (hb : tightB N es ps = b) :
    Calls Try.prog 23 #[.agg #[.int .i64 N, .slice A m cm], .slice L n cl] w fun e w' => e = .returned (.bool b) ∧ Below w.heap.size w w' := by
  subst hb; exact tight_any N A L m cm n cl es ps w hm hn he hl

/-- 'valid' at a graph with at most 100 edges. -/
theorem valid_any (N : Int) (A : Option Addr) (m c : Nat) (es : List (Int × Int)) (w : World) (hm : m ≤ 100) (he : Rd w 2 A m (prs es)) :
    Calls Try.prog 14 #[.agg #[.int .i64 N, .slice A m c]] w fun e w' => e = .returned (.bool (validB N es)) ∧ Below w.heap.size w w' := by
  have H1 : Hid (Rd (w.alloc (.cells #[.int .i64 N, .slice A m c] 24)) 2 A m (prs es)) := he.keep (Keeps.alloc w _)
  clear he
  generalize hz : validB N es = z
  have HZ := Lib.hid hz
  clear hz
  go_enter Try.func14, Try.ntmps14
  go_wp2_with (first
    | (go_at_call 11; refine (small_b (b := true) N A m c _ (by simp; omega)).mono ?_; rintro e w1 ⟨rfl, hb1⟩; have HB1 := Lib.hid hb1; have g0 : w1.cell? ⟨w.heap.size, 0, none⟩ = some (.int .i64 N) := (by rw [hb1.cell (by simp)]; simp); have g1 : w1.cell? ⟨w.heap.size, 1, none⟩ = some (.slice A m c) := (by rw [hb1.cell (by simp)]; simp); clear hb1)
    | (go_at_call 31; refine (rvalid_b N A m c es _ (by omega) (H1.out.keep (Keeps.of_below HB1.out (Nat.le_refl _))) HZ.out).mono ?_; rintro e w2 ⟨rfl, hb2⟩; have HB2 := Lib.hid hb2; clear hb2))
  go_ret
  have hs := HB1.out.size
  exact ⟨rfl, (((Below.refl _ _).alloc (Nat.le_refl _) _).trans (HB1.out.mono (by simp))).trans (HB2.out.mono (by simp at hs; omega))⟩

/-- 'Few': a valid graph with at most nine points (and at most 100 edges). -/
def fewB (N : Int) (es : List (Int × Int)) : Bool := decide (N ≤ 9) && (decide ((es.length : Int) ≤ 100) && validB N es)
theorem few_any (N : Int) (A : Option Addr) (m c : Nat) (es : List (Int × Int)) (w : World) (hm : m ≤ 9223372036854775807) (he : Rd w 2 A m (prs es)) :
    Calls Try.prog 16 #[.agg #[.int .i64 N, .slice A m c]] w fun e w' => e = .returned (.bool (fewB N es)) ∧ Below w.heap.size w w' := by
  have H1 : Hid (Rd (w.alloc (.cells #[.int .i64 N, .slice A m c] 24)) 2 A m (prs es)) := he.keep (Keeps.alloc w _)
  have HE := Lib.hid he.prs_len
  clear he
  unfold fewB
  rw [HE.out]
  by_cases hN : N ≤ 9
  · rw [decide_eq_true hN]
    generalize hz : validB N es = z
    have HZ := Lib.hid hz
    clear hz
    by_cases h1 : (m : Int) ≤ 100
    · rw [decide_eq_true h1]
      go_enter Try.func16, Try.ntmps16
      go_wp2_with (first
        | (go_at_call 11; refine (small_b (b := true) N A m c _ (by simp; omega)).mono ?_; rintro e w1 ⟨rfl, hb1⟩; have HB1 := Lib.hid hb1; have g0 : w1.cell? ⟨w.heap.size, 0, none⟩ = some (.int .i64 N) := (by rw [hb1.cell (by simp)]; simp); have g1 : w1.cell? ⟨w.heap.size, 1, none⟩ = some (.slice A m c) := (by rw [hb1.cell (by simp)]; simp); clear hb1)
        | (go_at_call 31; refine (rvalid_b N A m c es _ (by omega) (H1.out.keep (Keeps.of_below HB1.out (Nat.le_refl _))) HZ.out).mono ?_; rintro e w2 ⟨rfl, hb2⟩; have HB2 := Lib.hid hb2; clear hb2))
      go_ret
      have hs := HB1.out.size
      exact ⟨rfl, (((Below.refl _ _).alloc (Nat.le_refl _) _).trans (HB1.out.mono (by simp))).trans (HB2.out.mono (by simp at hs; omega))⟩
    · rw [decide_eq_false h1]
      go_enter Try.func16, Try.ntmps16
      go_wp2_with (go_at_call 11; refine (small_b (b := false) N A m c _ (by simp; omega)).mono ?_; rintro e w1 ⟨rfl, hb1⟩)
      go_ret
      exact ⟨rfl, ((Below.refl _ _).alloc (Nat.le_refl _) _).trans (hb1.mono (by simp))⟩
  · rw [decide_eq_false hN]
    go_enter Try.func16, Try.ntmps16
    go_wp2
    go_ret
    exact ⟨rfl, (Below.refl _ _).alloc (Nat.le_refl _) _⟩
end Go.Proofs.Ytohmafmdpajmlaa
