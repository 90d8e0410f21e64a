/-
  Contracts and lemmas for the statement, joined: AwG.
-/
import Derived.Test.YtpdbekgkopglgaaGreatJ27
import Derived.Test.YtpdbekgkopglgaaGreatJ22
import Derived.Test.YtpdbekgkopglgaaGreatJ24
import Derived.Test.YtpdbekgkopglgaaGreatJ2
namespace Go.Proofs.YtpdbekgkopglgaaGreat
set_option linter.unusedVariables false
set_option linter.unusedSimpArgs false
open Go.RowKit Go.Sort

def CompContract : Prop := ∀ (N : Int) (A : Option Addr) (m c : Nat) (es : List (Int × Int)) (w : World), m ≤ 1000 → Rd w 2 A m (prs es) →
    Calls Tryz.prog 13 #[.agg #[.int .i64 N, .slice A m c]] w (ListsPost w (compE N es))
theorem make_ex (A : Option Addr) (c : Nat) (w : World) (he : Rd w 2 A 3 (prs [(2, 1), (0, 1), (1, 2)])) :
    Calls Tryz.prog 10 #[.int .i64 4, .slice A 3 c] w fun e w' => Below w.heap.size w w' ∧ ∃ B d, e = .returned (.tuple #[.agg #[.int .i64 4, .slice B 2 d], .int .i64 0]) ∧ Rd w' 2 B 2 (prs [(0, 1), (1, 2)]) := by
  have e1 : mkE 4 [(2, 1), (0, 1), (1, 2)] = some [(0, 1), (1, 2)] := by decide
  refine (gmake_any 4 A 3 c _ w (by omega) he).mono ?_
  rintro e w' hp
  rw [e1] at hp
  obtain ⟨h1, B, d, h2, h3⟩ := hp
  exact ⟨h1, B, d, h2, h3.rd⟩
theorem henn_ex (A : Option Addr) (c : Nat) (w : World) (he : Rd w 2 A 2 (prs [(0, 1), (1, 2)])) :
    Calls Tryz.prog 11 #[.agg #[.int .i64 4, .slice A 2 c], .int .i64 0, .int .i64 1, .int .i64 3] w fun e w' => Below w.heap.size w w' ∧ ∃ B d, e = .returned (.tuple #[.agg #[.int .i64 5, .slice B 4 d], .int .i64 0]) ∧ Rd w' 2 B 4 (prs [(0, 4), (1, 2), (1, 4), (3, 4)]) := by
  have e1 : hennE 4 [(0, 1), (1, 2)] 0 1 3 = (0, [(0, 4), (1, 2), (1, 4), (3, 4)]) := by decide
  refine (ghenn_any 4 A 2 c _ 0 1 3 w (by omega) he).mono ?_
  rintro e w' hp
  rw [e1] at hp
  obtain ⟨h1, h2 | ⟨-, B, d, h3, h4⟩⟩ := hp
  · exact absurd rfl h2.1
  · exact ⟨h1, B, d, h3, h4⟩
theorem comp_ex (HC : CompContract) (A : Option Addr) (c : Nat) (w : World) (he : Rd w 2 A 2 (prs [(0, 1), (1, 2)])) :
    Calls Tryz.prog 13 #[.agg #[.int .i64 4, .slice A 2 c]] w fun e w' => Below w.heap.size w w' ∧ ∃ B d, e = .returned (.slice B 2 d) ∧ RdL w' B 2 [[0, 1, 2], [3]] := by
  have e1 : compE 4 [(0, 1), (1, 2)] = [[0, 1, 2], [3]] := by decide
  refine (HC 4 A 2 c _ w (by omega) he).mono ?_
  rintro e w' hp
  rw [e1] at hp
  obtain ⟨h1, B, d, h2, h3⟩ := hp
  exact ⟨h1, B, d, h2, h3.rd⟩

theorem lists_b {b : Bool} (A B : Option Addr) (n c m d : Nat) (la lb : List (List Int)) (w : World) (hn : n ≤ 1000000) (hm : m ≤ 1000000) (hsa : ∀ i, (LAt la i).length ≤ 1000000) (hsb : ∀ i, (LAt lb i).length ≤ 1000000) (ha : RdL w A n la) (hb : RdL w B m lb) (hr : decide (la = lb) = b) :
    Calls Tryz.prog 12 #[.slice A n c, .slice B m d] w fun e w' => e = .returned (.bool b) ∧ Below w.heap.size w w' := by
  subst hr; exact lists_any A B n c m d la lb w hn hm hsa hsb ha hb
theorem awLen : ∀ i, (LAt [[0, 1, 2], [3]] i).length ≤ 1000000 := by
  intro i
  unfold LAt
  match i with
  | 0 => decide
  | 1 => decide
  | i + 2 => simp
set_option maxRecDepth 100000 in
set_option maxHeartbeats 8000000 in
theorem awakeG (HC : CompContract) (w : World) : Calls Tryz.prog 4 #[] w fun e w' => e = .returned (.bool true) ∧ Below w.heap.size w w' := by
  have HCC := Lib.hid HC
  clear HC
  go_enter Tryz.func4, Tryz.ntmps4
  go_wp2_with fail
  refine (make_ex (some ⟨w.heap.size, 0, none⟩) 3 _ (rd_lit2_at rfl [(2, 1), (0, 1), (1, 2)] _)).mono ?_
  rintro e w1 ⟨hb1, B1, d1, rfl, hr1⟩
  have X1 : Hid (Below w.heap.size w w1) := Lib.hid (((Below.refl _ _).alloc (Nat.le_refl _) _).trans (hb1.mono (by simp)))
  have R1 := Lib.hid (hr1.keep (Keeps.alloc w1 (.cells #[.int .i64 4, .slice B1 2 d1] 37)))
  have hz1 := hb1.size
  simp at hz1
  clear hb1 hr1
  go_wp2_with fail
  refine (henn_ex B1 d1 _ R1.out).mono ?_
  rintro e w2 ⟨hb2, B2, d2, rfl, hr2⟩
  have X2 : Hid (Below w.heap.size w w2) := Lib.hid ((X1.out.alloc (by omega) _).trans (hb2.mono (by simp; omega)))
  have hz2 := hb2.size
  simp at hz2
  have p0 : w2.cell? ⟨w1.heap.size, 0, none⟩ = some (.int .i64 4) := by rw [hb2.cell (by simp)]; simp
  have p1 : w2.cell? ⟨w1.heap.size, 1, none⟩ = some (.slice B1 2 d1) := by rw [hb2.cell (by simp)]; simp
  have R2 := Lib.hid (R1.out.keep (Keeps.of_below hb2 (Nat.le_refl _)))
  have Q2 := Lib.hid hr2
  clear hb2 hr2
  have p0a : (w2.alloc (.cells #[.int .i64 5, .slice B2 4 d2] 37)).cell? ⟨w1.heap.size, 0, none⟩ = some (.int .i64 4) := Keeps.alloc _ _ _ _ p0
  have p1a : (w2.alloc (.cells #[.int .i64 5, .slice B2 4 d2] 37)).cell? ⟨w1.heap.size, 1, none⟩ = some (.slice B1 2 d1) := Keeps.alloc _ _ _ _ p1
  go_wp2_with fail
  refine (same_b (b := true) 4 4 B1 (some ⟨w2.heap.size + 1, 0, none⟩) 2 d1 2 2 [(0, 1), (1, 2)] [(0, 1), (1, 2)] _ (by omega) (by omega) ((R2.out.keep (Keeps.alloc _ _)).keep (Keeps.alloc _ _)) (rd_lit2_at (by simp) [(0, 1), (1, 2)] _) (by decide)).mono ?_
  rintro e w3 ⟨rfl, hb3⟩
  have X3 : Hid (Below w.heap.size w w3) := Lib.hid (((X2.out.alloc (by omega) _).alloc (by simp; omega) _).trans (hb3.mono (by simp; omega)))
  have hz3 := hb3.size
  simp at hz3
  have p0 : w3.cell? ⟨w1.heap.size, 0, none⟩ = some (.int .i64 4) := Keeps.of_below hb3 (Nat.le_refl _) _ _ (Keeps.alloc _ _ _ _ p0a)
  have p1 : w3.cell? ⟨w1.heap.size, 1, none⟩ = some (.slice B1 2 d1) := Keeps.of_below hb3 (Nat.le_refl _) _ _ (Keeps.alloc _ _ _ _ p1a)
  have s0 : w3.cell? ⟨w2.heap.size, 0, none⟩ = some (.int .i64 5) := Keeps.of_below hb3 (Nat.le_refl _) _ _ (Keeps.alloc _ _ _ _ (cell_at rfl _ _ 0 rfl))
  have s1 : w3.cell? ⟨w2.heap.size, 1, none⟩ = some (.slice B2 4 d2) := Keeps.of_below hb3 (Nat.le_refl _) _ _ (Keeps.alloc _ _ _ _ (cell_at rfl _ _ 1 rfl))
  have R3 := Lib.hid (((R2.out.keep (Keeps.alloc w2 (.cells #[.int .i64 5, .slice B2 4 d2] 37))).keep (Keeps.alloc _ _)).keep (Keeps.of_below hb3 (Nat.le_refl _)))
  have Q3 := Lib.hid (((Q2.out.keep (Keeps.alloc w2 (.cells #[.int .i64 5, .slice B2 4 d2] 37))).keep (Keeps.alloc _ _)).keep (Keeps.of_below hb3 (Nat.le_refl _)))
  clear hb3 p0a p1a
  go_wp2_with fail
  refine (comp_ex HCC.out B1 d1 _ R3.out).mono ?_
  rintro e w4 ⟨hb4, B4, d4, rfl, hr4⟩
  have X4 : Hid (Below w.heap.size w w4) := Lib.hid (X3.out.trans (hb4.mono (by omega)))
  have hz4 := hb4.size
  have s0 : w4.cell? ⟨w2.heap.size, 0, none⟩ = some (.int .i64 5) := Keeps.of_below hb4 (Nat.le_refl _) _ _ s0
  have s1 : w4.cell? ⟨w2.heap.size, 1, none⟩ = some (.slice B2 4 d2) := Keeps.of_below hb4 (Nat.le_refl _) _ _ s1
  have Q4 := Lib.hid (Q3.out.keep (Keeps.of_below hb4 (Nat.le_refl _)))
  have L4 := Lib.hid hr4
  clear hb4 hr4
  have LIT : Hid (RdL (((w4.alloc (.cells #[.int .i64 0, .int .i64 1, .int .i64 2] 3)).alloc (.cells #[.int .i64 3] 3)).alloc (.cells #[.slice (some ⟨w4.heap.size, 0, none⟩) 3 3, .slice (some ⟨w4.heap.size + 1, 0, none⟩) 1 1] 46)) (some ⟨w4.heap.size + 1 + 1, 0, none⟩) 2 [[0, 1, 2], [3]]) := by
    refine rdL_lit_at (by simp) [(some ⟨w4.heap.size, 0, none⟩, 3), (some ⟨w4.heap.size + 1, 0, none⟩, 1)] [[0, 1, 2], [3]] 46 rfl ?_
    intro i hd l h1 h2
    rcases i with _ | _ | i
    · simp at h1 h2; subst h1 h2
      exact (rd_lit_at rfl [0, 1, 2] _).keep (Keeps.alloc _ _)
    · simp at h1 h2; subst h1 h2
      exact rd_lit_at (by simp) [3] _
    · simp at h1
  have s0a := Keeps.alloc _ (.cells #[.slice (some ⟨w4.heap.size, 0, none⟩) 3 3, .slice (some ⟨w4.heap.size + 1, 0, none⟩) 1 1] 46) _ _ (Keeps.alloc _ (.cells #[.int .i64 3] 3) _ _ (Keeps.alloc w4 (.cells #[.int .i64 0, .int .i64 1, .int .i64 2] 3) _ _ s0))
  have s1a := Keeps.alloc _ (.cells #[.slice (some ⟨w4.heap.size, 0, none⟩) 3 3, .slice (some ⟨w4.heap.size + 1, 0, none⟩) 1 1] 46) _ _ (Keeps.alloc _ (.cells #[.int .i64 3] 3) _ _ (Keeps.alloc w4 (.cells #[.int .i64 0, .int .i64 1, .int .i64 2] 3) _ _ s1))
  have L4a := Lib.hid (((L4.out.keep (Keeps.alloc w4 (.cells #[.int .i64 0, .int .i64 1, .int .i64 2] 3))).keep (Keeps.alloc _ (.cells #[.int .i64 3] 3))).keep (Keeps.alloc _ (.cells #[.slice (some ⟨w4.heap.size, 0, none⟩) 3 3, .slice (some ⟨w4.heap.size + 1, 0, none⟩) 1 1] 46)))
  have Q4a := Lib.hid (((Q4.out.keep (Keeps.alloc w4 (.cells #[.int .i64 0, .int .i64 1, .int .i64 2] 3))).keep (Keeps.alloc _ (.cells #[.int .i64 3] 3))).keep (Keeps.alloc _ (.cells #[.slice (some ⟨w4.heap.size, 0, none⟩) 3 3, .slice (some ⟨w4.heap.size + 1, 0, none⟩) 1 1] 46)))
  have S0 := Lib.hid s0a
  have S1 := Lib.hid s1a
  clear s0a s1a
  go_wp2_with fail
  refine (lists_b (b := true) B4 (some ⟨w4.heap.size + 1 + 1, 0, none⟩) 2 d4 2 2 [[0, 1, 2], [3]] [[0, 1, 2], [3]] _ (by omega) (by omega) awLen awLen L4a.out LIT.out (by decide)).mono ?_
  rintro e w5 ⟨rfl, hb5⟩
  have X5 : Hid (Below w.heap.size w w5) := Lib.hid ((((X4.out.alloc (by omega) _).alloc (by simp; omega) _).alloc (by simp; omega) _).trans (hb5.mono (by simp; omega)))
  have hz5 := hb5.size
  simp at hz5
  have t0 : w5.cell? ⟨w2.heap.size, 0, none⟩ = some (.int .i64 5) := Keeps.of_below hb5 (Nat.le_refl _) _ _ S0.out
  have t1 : w5.cell? ⟨w2.heap.size, 1, none⟩ = some (.slice B2 4 d2) := Keeps.of_below hb5 (Nat.le_refl _) _ _ S1.out
  have Q5 := Lib.hid (Q4a.out.keep (Keeps.of_below hb5 (Nat.le_refl _)))
  clear hb5
  go_wp2_with fail
  refine (same_b (b := true) 5 5 B2 (some ⟨w5.heap.size, 0, none⟩) 4 d2 4 4 [(0, 4), (1, 2), (1, 4), (3, 4)] [(0, 4), (1, 2), (1, 4), (3, 4)] _ (by omega) (by omega) (Q5.out.keep (Keeps.alloc _ _)) (rd_lit2_at rfl [(0, 4), (1, 2), (1, 4), (3, 4)] _) (by decide)).mono ?_
  rintro e w6 ⟨rfl, hb6⟩
  go_wp2
  go_ret
  exact ⟨rfl, (X5.out.alloc (by omega) _).trans (hb6.mono (by simp; omega))⟩
end Go.Proofs.YtpdbekgkopglgaaGreat
