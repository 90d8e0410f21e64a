/-
  PebbleHenneberg: the walk of the statement.
-/
import Derived.Test.YtagcaljpgifppaaPl4
import Derived.Test.YtagcaljpgifppaaSpecPB
import Derived.Test.YtagcaljpgifppaaH5
namespace Go.Proofs.Ytagcaljpgifppaa
set_option linter.unusedVariables false
set_option linter.unusedSimpArgs false
open Go.RowKit Go.Sort
attribute [local go_sem ↓] Go.wp_at_zero Go.wp_at_succ

/-- The world behind the boxing of the two arguments. -/
def WT (w : World) (N : Int) (A : Option Addr) (m c : Nat) (a0 a1 a2 : Int) : World := (w.alloc (.cells #[.int .i64 N, .slice A m c] 24)).alloc (.cells #[.int .u8 a0, .int .u8 a1, .int .u8 a2] 44)
def BT (w : World) (N : Int) (A : Option Addr) (m c : Nat) (a0 a1 a2 : Int) (w1 : World) : Prop := Below (w.heap.size + 2) (WT w N A m c a0 a1 a2) w1
section
variable {w w1 w2 : World} {N a0 a1 a2 : Int} {A : Option Addr} {m c : Nat}
theorem BT.start : BT w N A m c a0 a1 a2 (WT w N A m c a0 a1 a2) := Below.refl _ _
theorem BT.facts (h : BT w N A m c a0 a1 a2 w1) : w.heap.size + 1 < w1.heap.size ∧ w1.cell? ⟨w.heap.size, 0, none⟩ = some (.int .i64 N) ∧ w1.cell? ⟨w.heap.size, 1, none⟩ = some (.slice A m c) ∧
    w1.cell? ⟨w.heap.size + 1, 0, none⟩ = some (.int .u8 a0) ∧ w1.cell? ⟨w.heap.size + 1, 1, none⟩ = some (.int .u8 a1) ∧ w1.cell? ⟨w.heap.size + 1, 2, none⟩ = some (.int .u8 a2) := by
  have hs := h.size
  unfold WT at hs
  simp at hs
  refine ⟨by omega, ?_, ?_, ?_, ?_, ?_⟩
  all_goals rw [Below.cell h (by simp)]; unfold WT
  · rw [World.cell?_alloc_lt _ _ _ (by simp)]; simp
  · rw [World.cell?_alloc_lt _ _ _ (by simp)]; simp
  · exact cell_at (by simp) _ _ _ rfl
  · exact cell_at (by simp) _ _ _ rfl
  · exact cell_at (by simp) _ _ _ rfl
theorem BT.next (h : BT w N A m c a0 a1 a2 w1) (hb : Below w1.heap.size w1 w2) : BT w N A m c a0 a1 a2 w2 := Below.trans h (hb.mono (by have := h.facts.1; omega))
theorem BT.drew (h : BT w N A m c a0 a1 a2 w1) : BT w N A m c a0 a1 a2 w1.drew := h.next ((Below.refl _ _).drew)
theorem BT.below (h : BT w N A m c a0 a1 a2 w1) : Below w.heap.size w w1 := (((Below.refl _ _).alloc (Nat.le_refl _) _).alloc (by simp) _).trans (Below.mono h (by omega))
theorem BT.keeps (h : BT w N A m c a0 a1 a2 w1) : Keeps w w1 := Keeps.of_below h.below (Nat.le_refl _)
end
/-- A graph in a new block. -/
def ST (W : World) (N : Int) (B : Option Addr) (q d : Nat) : World := ((W.alloc (.cells #[.int .i64 0, .slice none 0 0] 24)).setCell ⟨W.heap.size, 0, none⟩ (.int .i64 N)).setCell ⟨W.heap.size, 1, none⟩ (.slice B q d)
theorem ST.below (W : World) (N : Int) (B : Option Addr) (q d : Nat) : Below W.heap.size W (ST W N B q d) := (((Below.refl _ _).alloc (Nat.le_refl _) _).setCell (by simp) _).setCell (by simp) _
theorem ST.c0 (W : World) (N : Int) (B : Option Addr) (q d : Nat) : (ST W N B q d).cell? ⟨W.heap.size, 0, none⟩ = some (.int .i64 N) := by
  unfold ST
  rw [World.cell?_setCell_other _ _ _ _ (by simp)]
  exact World.cell?_setCell_same _ _ _ (u := .int .i64 0) (by simp)
theorem ST.c1 (W : World) (N : Int) (B : Option Addr) (q d : Nat) : (ST W N B q d).cell? ⟨W.heap.size, 1, none⟩ = some (.slice B q d) := by
  unfold ST
  exact World.cell?_setCell_same _ _ _ (u := .slice none 0 0) (by rw [World.cell?_setCell_other _ _ _ _ (by simp)]; simp)
theorem henn_first {n a b : Nat} {es : List (Int × Int)} (hn : n < 60) (hv : validB n es = true) (ha : a < n) (hb : b < n) (hab : a ≠ b) :
    HennOk n es a b (-1) ∧ hennE n es a b (-1) = (0, mkL (n + 1) (hennL n es a b (-1))) := by
  have h1 : hennBad1 n es a b = false := by
    unfold hennBad1 hasB
    rw [hv]
    simp
    omega
  have h2 : hennBad2 n es a b (-1) = false := by unfold hennBad2; simp
  refine ⟨hennOk_of h1 h2, ?_⟩
  rw [henn_ok h1 h2 (by omega), show ((n : Int) + 1).toNat = n + 1 by omega]
theorem henn_second {n : Nat} {es : List (Int × Int)} {p q s : Int} (hn : n < 60) (hv : validB n es = true) (he : (p, q) ∈ es) (hs0 : 0 ≤ s) (hs1 : s < n) (hsp : s ≠ p) (hsq : s ≠ q) :
    HennOk n es p q s ∧ hennE n es p q s = (0, mkL (n + 1) (hennL n es p q s)) := by
  have hE := valid_ends hv (p, q) he
  simp only at hE
  have h1 : hennBad1 n es p q = false := by
    unfold hennBad1 hasB
    rw [hv]
    simp
    omega
  have h2 : hennBad2 n es p q s = false := by
    unfold hennBad2 hasB hasE
    rw [hv, decide_eq_true hs0, decide_eq_true hs1, (mem_pairsB.2 (.inl he))]
    simp
    exact ⟨hsp, hsq⟩
  refine ⟨hennOk_of h1 h2, ?_⟩
  rw [henn_ok h1 h2 (by omega), show ((n : Int) + 1).toNat = n + 1 by omega]
theorem ghenn_l {l : List (Int × Int)} {q : Nat} (N : Int) (A : Option Addr) (m c : Nat) (es : List (Int × Int)) (a b s : Int) (w : World) (hm : m ≤ 900) (he : Rd w 2 A m (prs es)) (h : hennE N es a b s = (0, l)) (hq : l.length = q) :
    Calls Try.prog 32 #[.agg #[.int .i64 N, .slice A m c], .int .i64 a, .int .i64 b, .int .i64 s] w fun e w' => Below w.heap.size w w' ∧ ∃ B d, e = .returned (.tuple #[.agg #[.int .i64 (N + 1), .slice B q d], .int .i64 0]) ∧ Rd w' 2 B q (prs l) := by
  subst hq
  refine (ghenn_any N A m c es a b s w hm he).mono ?_
  rw [h]
  rintro e w' ⟨hb, h9 | ⟨-, B, d, he, hr⟩⟩
  · exact absurd rfl h9.1
  · exact ⟨hb, B, d, he, hr⟩
set_option maxHeartbeats 4000000 in
theorem law_ph_few (N : Int) (A : Option Addr) (m c : Nat) (es : List (Int × Int)) (a0 a1 a2 : Int) (w : World) (D1 : Hid ((decide (N ≤ 8) && decide ((m : Int) ≤ 20)) = false)) :
    Calls Try.prog 7 #[.agg #[.int .i64 N, .slice A m c], .agg #[.int .u8 a0, .int .u8 a1, .int .u8 a2]] w fun e w' => e = .returned (.bool true) ∧ Below w.heap.size w w' := by
  have X0 : Hid (BT w N A m c a0 a1 a2 (WT w N A m c a0 a1 a2)) := Lib.hid BT.start
  have hwt : WT w N A m c a0 a1 a2 = (w.alloc (.cells #[.int .i64 N, .slice A m c] 24)).alloc (.cells #[.int .u8 a0, .int .u8 a1, .int .u8 a2] 44) := rfl
  go_enter Try.func7, Try.ntmps7
  go_wp2_with fail
  rw [← hwt]
  clear hwt
  generalize WT w N A m c a0 a1 a2 = w0 at *
  go_wp2_with fail
  refine (awake_any _).mono ?_
  rintro e w1 ⟨rfl, hb⟩
  have X1 := Lib.hid (X0.out.next hb)
  obtain ⟨hz1, p0, p1, t0, t1, t2⟩ := X1.out.facts
  clear hb
  go_wp2_with fail
  refine (few_b (b := false) N A m c _ D1.out).mono ?_
  rintro e w2 ⟨rfl, hb⟩
  have X2 := Lib.hid (X1.out.next hb)
  obtain ⟨hz1, p0, p1, t0, t1, t2⟩ := X2.out.facts
  clear hb
  go_wp2_with fail
  refine (awake_any _).mono ?_
  rintro e w3 ⟨rfl, hb⟩
  have X3 := Lib.hid (X2.out.next hb)
  clear hb
  go_wp2_with fail
  go_ret
  exact ⟨rfl, X3.out.below⟩
set_option maxHeartbeats 4000000 in
theorem law_ph_inv (N : Int) (A : Option Addr) (m c : Nat) (es : List (Int × Int)) (a0 a1 a2 : Int) (w : World) (D1 : Hid ((decide (N ≤ 8) && decide ((m : Int) ≤ 20)) = true)) (hm : m ≤ 20) (H0 : Hid (Rd w 2 A m (prs es))) (HV : Hid (validB N es = false)) :
    Calls Try.prog 7 #[.agg #[.int .i64 N, .slice A m c], .agg #[.int .u8 a0, .int .u8 a1, .int .u8 a2]] w fun e w' => e = .returned (.bool true) ∧ Below w.heap.size w w' := by
  have X0 : Hid (BT w N A m c a0 a1 a2 (WT w N A m c a0 a1 a2)) := Lib.hid BT.start
  have hwt : WT w N A m c a0 a1 a2 = (w.alloc (.cells #[.int .i64 N, .slice A m c] 24)).alloc (.cells #[.int .u8 a0, .int .u8 a1, .int .u8 a2] 44) := rfl
  go_enter Try.func7, Try.ntmps7
  go_wp2_with fail
  rw [← hwt]
  clear hwt
  generalize WT w N A m c a0 a1 a2 = w0 at *
  go_wp2_with fail
  refine (awake_any _).mono ?_
  rintro e w1 ⟨rfl, hb⟩
  have X1 := Lib.hid (X0.out.next hb)
  obtain ⟨hz1, p0, p1, t0, t1, t2⟩ := X1.out.facts
  clear hb
  go_wp2_with fail
  refine (few_b (b := true) N A m c _ D1.out).mono ?_
  rintro e w2 ⟨rfl, hb⟩
  have X2 := Lib.hid (X1.out.next hb)
  obtain ⟨hz1, p0, p1, t0, t1, t2⟩ := X2.out.facts
  clear hb
  go_wp2_with fail
  refine (rvalid_b (b := false) N A m c es _ (by omega) (H0.out.keep X2.out.keeps) HV.out).mono ?_
  rintro e w3 ⟨rfl, hb⟩
  have X3 := Lib.hid (X2.out.next hb)
  obtain ⟨hz1, p0, p1, t0, t1, t2⟩ := X3.out.facts
  clear hb
  go_wp2_with fail
  refine (awake_any _).mono ?_
  rintro e w4 ⟨rfl, hb⟩
  have X4 := Lib.hid (X3.out.next hb)
  clear hb
  go_wp2_with fail
  go_ret
  exact ⟨rfl, X4.out.below⟩
set_option maxHeartbeats 4000000 in
theorem law_ph_low (N : Int) (A : Option Addr) (m c : Nat) (es : List (Int × Int)) (a0 a1 a2 : Int) (w : World) (D1 : Hid ((decide (N ≤ 8) && decide ((m : Int) ≤ 20)) = true)) (hm : m ≤ 20) (H0 : Hid (Rd w 2 A m (prs es))) (HV : Hid (validB N es = true)) (d2 : N < 2) :
    Calls Try.prog 7 #[.agg #[.int .i64 N, .slice A m c], .agg #[.int .u8 a0, .int .u8 a1, .int .u8 a2]] w fun e w' => e = .returned (.bool true) ∧ Below w.heap.size w w' := by
  have X0 : Hid (BT w N A m c a0 a1 a2 (WT w N A m c a0 a1 a2)) := Lib.hid BT.start
  have hwt : WT w N A m c a0 a1 a2 = (w.alloc (.cells #[.int .i64 N, .slice A m c] 24)).alloc (.cells #[.int .u8 a0, .int .u8 a1, .int .u8 a2] 44) := rfl
  go_enter Try.func7, Try.ntmps7
  go_wp2_with fail
  rw [← hwt]
  clear hwt
  generalize WT w N A m c a0 a1 a2 = w0 at *
  go_wp2_with fail
  refine (awake_any _).mono ?_
  rintro e w1 ⟨rfl, hb⟩
  have X1 := Lib.hid (X0.out.next hb)
  obtain ⟨hz1, p0, p1, t0, t1, t2⟩ := X1.out.facts
  clear hb
  go_wp2_with fail
  refine (few_b (b := true) N A m c _ D1.out).mono ?_
  rintro e w2 ⟨rfl, hb⟩
  have X2 := Lib.hid (X1.out.next hb)
  obtain ⟨hz1, p0, p1, t0, t1, t2⟩ := X2.out.facts
  clear hb
  go_wp2_with fail
  refine (rvalid_b (b := true) N A m c es _ (by omega) (H0.out.keep X2.out.keeps) HV.out).mono ?_
  rintro e w3 ⟨rfl, hb⟩
  have X3 := Lib.hid (X2.out.next hb)
  obtain ⟨hz1, p0, p1, t0, t1, t2⟩ := X3.out.facts
  clear hb
  go_wp2_with fail
  refine (awake_any _).mono ?_
  rintro e w4 ⟨rfl, hb⟩
  have X4 := Lib.hid (X3.out.next hb)
  clear hb
  go_wp2_with fail
  go_ret
  exact ⟨rfl, X4.out.below⟩
set_option maxHeartbeats 4000000 in
theorem law_ph_high (N : Int) (A : Option Addr) (m c : Nat) (es : List (Int × Int)) (a0 a1 a2 : Int) (w : World) (D1 : Hid ((decide (N ≤ 8) && decide ((m : Int) ≤ 20)) = true)) (hm : m ≤ 20) (H0 : Hid (Rd w 2 A m (prs es))) (HV : Hid (validB N es = true)) (d2 : 2 ≤ N) (d7 : 7 < N) :
    Calls Try.prog 7 #[.agg #[.int .i64 N, .slice A m c], .agg #[.int .u8 a0, .int .u8 a1, .int .u8 a2]] w fun e w' => e = .returned (.bool true) ∧ Below w.heap.size w w' := by
  have X0 : Hid (BT w N A m c a0 a1 a2 (WT w N A m c a0 a1 a2)) := Lib.hid BT.start
  have hwt : WT w N A m c a0 a1 a2 = (w.alloc (.cells #[.int .i64 N, .slice A m c] 24)).alloc (.cells #[.int .u8 a0, .int .u8 a1, .int .u8 a2] 44) := rfl
  go_enter Try.func7, Try.ntmps7
  go_wp2_with fail
  rw [← hwt]
  clear hwt
  generalize WT w N A m c a0 a1 a2 = w0 at *
  go_wp2_with fail
  refine (awake_any _).mono ?_
  rintro e w1 ⟨rfl, hb⟩
  have X1 := Lib.hid (X0.out.next hb)
  obtain ⟨hz1, p0, p1, t0, t1, t2⟩ := X1.out.facts
  clear hb
  go_wp2_with fail
  refine (few_b (b := true) N A m c _ D1.out).mono ?_
  rintro e w2 ⟨rfl, hb⟩
  have X2 := Lib.hid (X1.out.next hb)
  obtain ⟨hz1, p0, p1, t0, t1, t2⟩ := X2.out.facts
  clear hb
  go_wp2_with fail
  refine (rvalid_b (b := true) N A m c es _ (by omega) (H0.out.keep X2.out.keeps) HV.out).mono ?_
  rintro e w3 ⟨rfl, hb⟩
  have X3 := Lib.hid (X2.out.next hb)
  obtain ⟨hz1, p0, p1, t0, t1, t2⟩ := X3.out.facts
  clear hb
  go_wp2_with fail
  refine (awake_any _).mono ?_
  rintro e w4 ⟨rfl, hb⟩
  have X4 := Lib.hid (X3.out.next hb)
  clear hb
  go_wp2_with fail
  go_ret
  exact ⟨rfl, X4.out.below⟩
set_option maxHeartbeats 16000000 in
theorem law_ph_ok (n : Nat) (N : Int) (hN : N = n) (A : Option Addr) (m c : Nat) (es : List (Int × Int)) (a0 a1 a2 : Int) (w : World) (D1 : Hid ((decide (N ≤ 8) && decide ((m : Int) ≤ 20)) = true)) (hm : m ≤ 20) (H0 : Hid (Rd w 2 A m (prs es))) (HV : Hid (validB N es = true)) (h2 : 2 ≤ N) (h7 : N ≤ 7)
    (u0 : 0 ≤ a0 ∧ a0 ≤ 255) (u1 : 0 ≤ a1 ∧ a1 ≤ 255) (u2 : 0 ≤ a2 ∧ a2 ≤ 255) :
    Calls Try.prog 7 #[.agg #[.int .i64 N, .slice A m c], .agg #[.int .u8 a0, .int .u8 a1, .int .u8 a2]] w fun e w' => e = .returned (.bool true) ∧ Below w.heap.size w w' := by
  have HE := H0.out.prs_len
  have hv : validB (n : Int) es = true := by rw [← hN]; exact HV.out
  have hok := ok_of_valid hv
  have ho60 : Ok60 es := fun e he => (hok e he).mono (by omega)
  have e0 := u0.1
  have e1 := u0.2
  have e2 := u1.1
  have e3 := u1.2
  have e4 := u2.1
  have e5 := u2.2
  have hz0 : (N : Int) ≠ 0 := by omega
  have hxa0 := Int.emod_nonneg a0 hz0
  have hxa1 := Int.emod_lt_of_pos a0 (show (0 : Int) < N by omega)
  have hya0 := Int.emod_nonneg a1 (show N - 1 ≠ 0 by omega)
  have hya1 := Int.emod_lt_of_pos a1 (show (0 : Int) < N - 1 by omega)
  generalize hxa : a0 % N = xa at hxa0 hxa1
  generalize hya : a1 % (N - 1) = ya at hya0 hya1
  have hxb0 := Int.emod_nonneg (xa + 1 + ya) hz0
  have hxb1 := Int.emod_lt_of_pos (xa + 1 + ya) (show (0 : Int) < N by omega)
  have hab : xa ≠ (xa + 1 + ya) % N := by
    intro e
    rcases Int.lt_or_le (xa + 1 + ya) N with h | h
    · rw [Int.emod_eq_of_lt (by omega) h] at e; omega
    · rw [← Int.sub_emod_right, Int.emod_eq_of_lt (by omega) (by omega)] at e; omega
  generalize hxb : (xa + 1 + ya) % N = xb at hxb0 hxb1 hab
  have hf1 := henn_first (n := n) (a := xa.toNat) (b := xb.toNat) (by omega) hv (by omega) (by omega) (by omega)
  rw [Int.toNat_of_nonneg hxa0, Int.toNat_of_nonneg hxb0] at hf1
  have hr1 := henn_rank (by omega) hf1.1 hok
  have hv1 : validB ((n + 1 : Nat) : Int) (mkL (n + 1) (hennL n es xa xb (-1))) = true := mkL_valid' (by omega)
  have hl1 := hf1.1.len
  rw [show ((n : Int) + 1).toNat = n + 1 by omega] at hl1
  have hen1 := hf1.2
  generalize mkL (n + 1) (hennL n es xa xb (-1)) = l1 at hr1 hv1 hl1 hen1
  generalize hq1 : l1.length = q1 at hl1
  have hrk := rank_le es
  have SPA : Hid (rankE es = es.length → SpA es) := Lib.hid (fun h => whole_spA ho60 h)
  have RI : Hid (∀ w', Rd w' 2 A m (prs es) → Calls Try.prog 33 #[.agg #[.int .i64 N, .slice A m c]] w' fun e w'' => Below w'.heap.size w' w'' ∧ ∃ B d, e = .returned (.slice B (rankE es) d)) := Lib.hid fun w' h => by
    rw [hN]
    exact (rind34_l n _ A m c es w' (by omega) (by omega) h hok rfl).mono (fun e w'' hh => ⟨hh.1, by obtain ⟨-, B, d, h1, -⟩ := hh; exact ⟨B, d, h1⟩⟩)
  have GH1 : Hid (∀ w', Rd w' 2 A m (prs es) → Calls Try.prog 32 #[.agg #[.int .i64 N, .slice A m c], .int .i64 xa, .int .i64 xb, .int .i64 (-1)] w' fun e w'' => Below w'.heap.size w' w'' ∧ ∃ B d, e = .returned (.tuple #[.agg #[.int .i64 (N + 1), .slice B q1 d], .int .i64 0]) ∧ Rd w'' 2 B q1 (prs l1)) := Lib.hid fun w' h => ghenn_l N A m c es xa xb (-1) w' (by omega) h (by rw [hN]; exact hen1) hq1
  have FG0 : freeE N es = 2 * N - (rankE es : Int) := by rw [hN]; exact free_eq hv rfl
  have FG1 : freeE (N + 1) l1 = 2 * N - (rankE es : Int) := by
    have := free_eq (n := n + 1) hv1 hr1
    rw [hN]
    rw [show (n : Int) + 1 = ((n + 1 : Nat) : Int) by omega, this]
    omega
  have SEC : Hid (∀ (p q s : Int), (p, q) ∈ es → SpA es → 0 ≤ s → s < N → s ≠ p → s ≠ q → ∃ l2 : List (Int × Int), l2.length = m + 2 ∧ hennE N es p q s = (0, l2) ∧ freeE (N + 1) l2 = 2 * N - (m : Int) ∧ indE' (N + 1) l2 = idxL l2 ∧ (idxL l2).length = m + 2) := Lib.hid (fun p q s hm hs h0 h1 hp hq => by
    have h := henn_second (n := n) (by omega) hv hm h0 (by omega) hp hq
    have hsp := h.1.spa (by omega) hs
    have hln := h.1.len
    rw [show ((n : Int) + 1).toNat = n + 1 by omega] at hsp hln
    have hv2 : validB ((n + 1 : Nat) : Int) (mkL (n + 1) (hennL n es p q s)) = true := mkL_valid' (by omega)
    have hrk2 := rank_spa (es := mkL (n + 1) (hennL n es p q s)) (fun e he => (mkL_ok e he).mono (by omega)) hsp
    have hfr := free_eq (n := n + 1) hv2 hrk2
    have hi : indE' ((n + 1 : Nat) : Int) (mkL (n + 1) (hennL n es p q s)) = idxL (mkL (n + 1) (hennL n es p q s)) := by unfold indE'; rw [if_pos hv2]
    rw [hln] at hrk2 hfr
    refine ⟨_, by rw [hln, HE], by rw [hN]; exact h.2, ?_, ?_, by rw [idxL_len, hrk2, HE]⟩
    · rw [hN, show (n : Int) + 1 = ((n + 1 : Nat) : Int) by omega, hfr, HE]; omega
    · rw [hN, show (n : Int) + 1 = ((n + 1 : Nat) : Int) by omega, hi])
  have MEM : Hid (∀ k, k < m → (es.getD k (0, 0)) ∈ es ∧ 0 ≤ (es.getD k (0, 0)).1 ∧ (es.getD k (0, 0)).1 < (es.getD k (0, 0)).2 ∧ (es.getD k (0, 0)).2 < N) := Lib.hid (fun k hk => by
    have hmem : es.getD k (0, 0) ∈ es := by rw [List.getD_eq_getElem?_getD, List.getElem?_eq_getElem (by omega)]; exact List.getElem_mem _
    have := valid_ends hv _ hmem
    exact ⟨hmem, by omega⟩)
  have HLEN := Lib.hid HE
  generalize hrkE : rankE es = rk at hrk FG0 FG1 RI SPA
  clear hf1 hr1 hv1 hen1 hrkE hok hv ho60
  have PF0 : Hid (∀ w', Rd w' 2 A m (prs es) → Calls Try.prog 22 #[.agg #[.int .i64 N, .slice A m c]] w' fun e w'' => e = .returned (.int .i64 (2 * N - (rk : Int))) ∧ Below w'.heap.size w' w'') := Lib.hid fun w' h => pfree_b _ N A m c es w' (by omega) h FG0
  have PF1 : Hid (∀ B d w', Rd w' 2 B q1 (prs l1) → Calls Try.prog 22 #[.agg #[.int .i64 (N + 1), .slice B q1 d]] w' fun e w'' => e = .returned (.int .i64 (2 * N - (rk : Int))) ∧ Below w'.heap.size w' w'') := Lib.hid fun B d w' h => pfree_b _ (N + 1) B q1 d l1 w' (by omega) h FG1
  clear FG0 FG1
  have HN := Lib.hid hN
  have HL1 := Lib.hid hl1
  clear hN HE hl1
  have X0 : Hid (BT w N A m c a0 a1 a2 (WT w N A m c a0 a1 a2)) := Lib.hid BT.start
  have hwt : WT w N A m c a0 a1 a2 = (w.alloc (.cells #[.int .i64 N, .slice A m c] 24)).alloc (.cells #[.int .u8 a0, .int .u8 a1, .int .u8 a2] 44) := rfl
  go_enter Try.func7, Try.ntmps7
  go_wp2_with fail
  rw [← hwt]
  clear hwt
  generalize WT w N A m c a0 a1 a2 = w0 at *
  go_wp2_with fail
  refine (awake_any _).mono ?_
  rintro e w1 ⟨rfl, hb⟩
  have X1 := Lib.hid (X0.out.next hb)
  obtain ⟨hz1, p0, p1, t0, t1, t2⟩ := X1.out.facts
  clear hb
  go_wp2_with fail
  refine (few_b (b := true) N A m c _ D1.out).mono ?_
  rintro e w2 ⟨rfl, hb⟩
  have X2 := Lib.hid (X1.out.next hb)
  obtain ⟨hz1, p0, p1, t0, t1, t2⟩ := X2.out.facts
  clear hb
  go_wp2_with fail
  refine (rvalid_b (b := true) N A m c es _ (by omega) (H0.out.keep X2.out.keeps) HV.out).mono ?_
  rintro e w3 ⟨rfl, hb⟩
  have X3 := Lib.hid (X2.out.next hb)
  obtain ⟨hz1, p0, p1, t0, t1, t2⟩ := X3.out.facts
  clear hb
  go_wp2_with fail
  rw [hxa]
  have q0 := grown_cell p0
  have q1' := grown_cell t1
  refine wp_region_q (by kernel_rfl) (by kernel_rfl) ?_
  repeat (go_big_quiet_step (fail))
  refine wpQuiet_nil ?_
  intro wq hgq
  have X4 := Lib.hid (X3.out.next hgq)
  obtain ⟨hz1, p0, p1, t0, t1, t2⟩ := X4.out.facts
  clear hgq q0 q1'
  rw [hya, hxb]
  go_wp2_with fail
  refine (GH1.out _ (H0.out.keep X4.out.keeps)).mono ?_
  rintro e w5 ⟨hb, B5, d5, rfl, hr⟩
  have X5 := Lib.hid (X4.out.next hb)
  have R5 := Lib.hid hr
  obtain ⟨hz1, p0, p1, t0, t1, t2⟩ := X5.out.facts
  clear hb hr
  go_wp2_with fail
  have X6 : Hid (BT w N A m c a0 a1 a2 (w5.alloc (.cells #[.int .i64 (N + 1), .slice B5 q1 d5] 24))) := Lib.hid (X5.out.next ((Below.refl _ _).alloc (Nat.le_refl _) _))
  have R6 := Lib.hid (R5.out.keep (Keeps.alloc w5 (.cells #[.int .i64 (N + 1), .slice B5 q1 d5] 24)))
  have g0 : (w5.alloc (.cells #[.int .i64 (N + 1), .slice B5 q1 d5] 24)).cell? ⟨w5.heap.size, 0, none⟩ = some (.int .i64 (N + 1)) := by simp
  have g1 : (w5.alloc (.cells #[.int .i64 (N + 1), .slice B5 q1 d5] 24)).cell? ⟨w5.heap.size, 1, none⟩ = some (.slice B5 q1 d5) := by simp
  obtain ⟨hz1, p0, p1, t0, t1, t2⟩ := X6.out.facts
  generalize w5.alloc (.cells #[.int .i64 (N + 1), .slice B5 q1 d5] 24) = w6 at *
  have q0 := grown_cell p0
  have q1' := grown_cell p1
  have q2 := grown_cell g0
  have q3 := grown_cell g1
  have cF1 := call_q (w := w6) (fun w' hw => PF1.out B5 d5 w' (R6.out.keep hw))
  have cF0 := call_q (w := w6) (fun w' hw => PF0.out w' (H0.out.keep (X6.out.keeps.trans hw)))
  refine wp_region_q (by kernel_rfl) (by kernel_rfl) ?_
  repeat (go_big_quiet_step (first | with_reducible exact cF1 _ _ | with_reducible exact cF0 _ _))
  refine wpQuiet_nil ?_
  intro wq hgq
  have X7 := Lib.hid (X6.out.next hgq)
  obtain ⟨hz1, p0, p1, t0, t1, t2⟩ := X7.out.facts
  clear hgq q0 q1' q2 q3 cF1 cF0 g0 g1
  go_wp2_with fail
  have q0 := grown_cell p0
  have q1' := grown_cell p1
  by_cases hm0 : m = 0
  · have d0 : ((m : Int) == 0) = true := by simp; omega
    clear hm0
    refine wp_region_q (by kernel_rfl) (by kernel_rfl) ?_
    repeat (go_big_quiet_step (fail))
    refine wpQuiet_nil ?_
    intro wq hgq
    have X8 := Lib.hid (X7.out.next hgq)
    clear hgq
    go_wp2_with fail
    go_ret
    exact ⟨rfl, X8.out.below⟩
  have d0 : ((m : Int) == 0) = false := by simp; omega
  by_cases hn3 : N < 3
  · have d3 : decide (N < 3) = true := decide_eq_true hn3
    clear hn3
    refine wp_region_q (by kernel_rfl) (by kernel_rfl) ?_
    repeat (go_big_quiet_step (fail))
    refine wpQuiet_nil ?_
    intro wq hgq
    have X8 := Lib.hid (X7.out.next hgq)
    clear hgq
    go_wp2_with fail
    go_ret
    exact ⟨rfl, X8.out.below⟩
  have d3 : decide (N < 3) = false := decide_eq_false hn3
  clear q0 q1'
  by_cases hrm : rk = m
  · have dr : ((rk : Int) != (m : Int)) = false := by simp; omega
    go_region_held3 (fun w' => w'.cell? ⟨w.heap.size, 0, none⟩ = some (.int .i64 N) ∧ w'.cell? ⟨w.heap.size, 1, none⟩ = some (.slice A m c)) (go_keep)
      ((first
        | (go_at_call 33; refine (RI.out _ (H0.out.keep X7.out.drew.keeps)).mono ?_; rintro e w8 ⟨hb, B8, d8, rfl⟩; have X8 := Lib.hid (X7.out.drew.next hb); obtain ⟨hz8, p0, p1, t0, t1, t2⟩ := X8.out.facts; have n0 := World.new_ne w8 _ p1; clear hb)
        | fail))
    all_goals
     go_wp2_with fail
    clear n0
    have SP := Lib.hid (SPA.out (by rw [HLEN.out]; exact hrm))
    have hj0 := Int.emod_nonneg a1 (show (m : Int) ≠ 0 by omega)
    have hj1 := Int.emod_lt_of_pos a1 (show (0 : Int) < (m : Int) by omega)
    obtain ⟨k, hk⟩ : ∃ k : Nat, a1 % (m : Int) = k := ⟨(a1 % (m : Int)).toNat, by omega⟩
    rw [hk] at hj0 hj1
    have hkm : k < m := by omega
    obtain ⟨ad, rfl, c0, c1⟩ := (H0.out.keep X8.out.keeps).prs_at hkm
    obtain ⟨he1, he2, he3, he4⟩ := MEM.out k hkm
    have hw1 : IntKind.i64.wrap a1 = a1 := by simp [IntKind.wrap, IntKind.bits, IntKind.signed]; omega
    have hw3 : IntKind.i64.wrap (k : Int) = k := by simp [IntKind.wrap, IntKind.bits, IntKind.signed]; omega
    have ht1 : a1.tmod (m : Int) = (k : Int) := by rw [Int.tmod_eq_emod_of_nonneg e2]; exact hk
    generalize es.getD k (0, 0) = pq at c0 c1 he1 he2 he3 he4
    obtain ⟨p, q⟩ := pq
    simp only at c0 c1 he2 he3 he4
    have HE1 := Lib.hid he1
    clear he1
    have n0 := World.new_ne w8 _ p1
    have n1 := World.new_ne w8 _ c0
    go_region_held3 (fun w' => w'.cell? ⟨w.heap.size, 1, none⟩ = some (.slice (some ad) m c) ∧ w'.cell? ⟨w.heap.size + 1, 1, none⟩ = some (.int .u8 a1) ∧ w'.cell? (ad.add (k * 2)) = some (.int .i64 p) ∧ w'.cell? ⟨(ad.add (k * 2)).block, (ad.add (k * 2)).off + 1, none⟩ = some (.int .i64 q)) (go_keep)
      (fail)
    all_goals
     have X9 : Hid (BT w N (some ad) m c a0 a1 a2 ((w8.alloc (.cells #[.int .i64 p, .int .i64 q] 42)).drew)) := Lib.hid (X8.out.next (((Below.refl _ _).alloc (Nat.le_refl _) _).drew))
     obtain ⟨hz9, p0, p1, t0, t1, t2⟩ := X9.out.facts
     have y0 : ((w8.alloc (.cells #[.int .i64 p, .int .i64 q] 42)).drew).cell? ⟨w8.heap.size, 0, none⟩ = some (.int .i64 p) := by
       show (w8.alloc (.cells #[.int .i64 p, .int .i64 q] 42)).cell? ⟨w8.heap.size, 0, none⟩ = _
       simp
     have y1 : ((w8.alloc (.cells #[.int .i64 p, .int .i64 q] 42)).drew).cell? ⟨w8.heap.size, 1, none⟩ = some (.int .i64 q) := by
       show (w8.alloc (.cells #[.int .i64 p, .int .i64 q] 42)).cell? ⟨w8.heap.size, 1, none⟩ = _
       simp
     generalize (w8.alloc (.cells #[.int .i64 p, .int .i64 q] 42)).drew = w9 at *
     have hs0 := Int.emod_nonneg a2 (show N ≠ 0 by omega)
     have hs1 := Int.emod_lt_of_pos a2 (show (0 : Int) < N by omega)
     generalize hs : a2 % N = xs at hs0 hs1
     cases hsp : (xs == p)
     · cases hsq : (xs == q)
       · obtain ⟨l2, hl2, hen2, hfr2, hin2, hil2⟩ := SEC.out p q xs HE1.out SP.out hs0 hs1 (by simpa using hsp) (by simpa using hsq)
         obtain rfl : rk = m := hrm
         have GH2 : Hid (∀ w', Rd w' 2 (some ad) rk (prs es) → Calls Try.prog 32 #[.agg #[.int .i64 N, .slice (some ad) rk c], .int .i64 p, .int .i64 q, .int .i64 xs] w' fun e w'' => Below w'.heap.size w' w'' ∧ ∃ B d, e = .returned (.tuple #[.agg #[.int .i64 (N + 1), .slice B (rk + 2) d], .int .i64 0]) ∧ Rd w'' 2 B (rk + 2) (prs l2)) := Lib.hid fun w' h => ghenn_l N _ rk c es p q xs w' (by omega) h hen2 hl2
         have PF2 : Hid (∀ B d w', Rd w' 2 B (rk + 2) (prs l2) → Calls Try.prog 22 #[.agg #[.int .i64 (N + 1), .slice B (rk + 2) d]] w' fun e w'' => e = .returned (.int .i64 (2 * N - (rk : Int))) ∧ Below w'.heap.size w' w'') := Lib.hid fun B d w' h => pfree_b _ (N + 1) B (rk + 2) d l2 w' (by omega) h hfr2
         have PI2 : Hid (∀ B d w', Rd w' 2 B (rk + 2) (prs l2) → Calls Try.prog 34 #[.agg #[.int .i64 (N + 1), .slice B (rk + 2) d]] w' fun e w'' => Below w'.heap.size w' w'' ∧ ∃ B d, e = .returned (.slice B (rk + 2) d)) := Lib.hid fun B d w' h => (pind_l (idxL l2) (rk + 2) B (rk + 2) d l2 w' (by omega) h hin2 hil2).mono (fun e w'' hh => ⟨hh.1, by obtain ⟨-, B, d, h1, -⟩ := hh; exact ⟨B, d, h1⟩⟩)
         clear hl2 hen2 hfr2 hin2 hil2
         go_wp2_with fail
         refine (GH2.out _ (H0.out.keep X9.out.keeps)).mono ?_
         rintro e w10 ⟨hb, B10, d10, rfl, hr⟩
         have X10 := Lib.hid (X9.out.next hb)
         have R10 := Lib.hid hr
         obtain ⟨hz10, p0, p1, t0, t1, t2⟩ := X10.out.facts
         clear hb hr
         go_wp2_with fail
         have X11 : Hid (BT w N (some ad) rk c a0 a1 a2 (w10.alloc (.cells #[.int .i64 (N + 1), .slice B10 (rk + 2) d10] 24))) := Lib.hid (X10.out.next ((Below.refl _ _).alloc (Nat.le_refl _) _))
         have R11 := Lib.hid (R10.out.keep (Keeps.alloc w10 (.cells #[.int .i64 (N + 1), .slice B10 (rk + 2) d10] 24)))
         have g0 : (w10.alloc (.cells #[.int .i64 (N + 1), .slice B10 (rk + 2) d10] 24)).cell? ⟨w10.heap.size, 0, none⟩ = some (.int .i64 (N + 1)) := by simp
         have g1 : (w10.alloc (.cells #[.int .i64 (N + 1), .slice B10 (rk + 2) d10] 24)).cell? ⟨w10.heap.size, 1, none⟩ = some (.slice B10 (rk + 2) d10) := by simp
         obtain ⟨hz11, p0, p1, t0, t1, t2⟩ := X11.out.facts
         generalize w10.alloc (.cells #[.int .i64 (N + 1), .slice B10 (rk + 2) d10] 24) = w11 at *
         have p0r := p0
         have p1r := p1
         have g0r := g0
         have g1r := g1
         have n0 := World.new_ne w11 _ p1
         have n1 := World.new_ne w11 _ g1
         go_region_held3 (fun w' => w'.cell? ⟨w.heap.size, 0, none⟩ = some (.int .i64 N) ∧ w'.cell? ⟨w.heap.size, 1, none⟩ = some (.slice (some ad) rk c) ∧ w'.cell? ⟨w10.heap.size, 0, none⟩ = some (.int .i64 (N + 1)) ∧ w'.cell? ⟨w10.heap.size, 1, none⟩ = some (.slice B10 (rk + 2) d10)) (go_keep)
           ((first
             | (go_at_call 22; (with_reducible refine (PF2.out B10 d10 _ (R11.out.keep (by first | exact K13.out | exact Keeps.drew _))).mono ?_); rintro e w12 ⟨rfl, hb⟩; have B12 : Hid (Below w11.heap.size w11 w12) := Lib.hid (by first | exact B13.out.trans (hb.mono B13.out.size) | exact (Below.refl _ _).drew.trans hb); have K12 := Lib.hid (Keeps.of_below B12.out (Nat.le_refl _)); have p0 := K12.out _ _ p0r; have p1 := K12.out _ _ p1r; have g0 := K12.out _ _ g0r; have g1 := K12.out _ _ g1r; have n0 := World.new_ne w12 _ p1; have n1 := World.new_ne w12 _ g1; clear hb)
             | (go_at_call 22; (with_reducible refine (PF0.out _ (H0.out.keep (X11.out.keeps.trans (by first | exact K12.out | exact Keeps.drew _)))).mono ?_); rintro e w13 ⟨rfl, hb⟩; have B13 : Hid (Below w11.heap.size w11 w13) := Lib.hid (by first | exact B12.out.trans (hb.mono B12.out.size) | exact (Below.refl _ _).drew.trans hb); have K13 := Lib.hid (Keeps.of_below B13.out (Nat.le_refl _)); have p0 := K13.out _ _ p0r; have p1 := K13.out _ _ p1r; have g0 := K13.out _ _ g0r; have g1 := K13.out _ _ g1r; have n0 := World.new_ne w13 _ p1; have n1 := World.new_ne w13 _ g1; clear hb)
             | (go_at_call 34; (first | refine (PI2.out B10 d10 _ (R11.out.keep K13.out)).mono ?_ | refine (PI2.out B10 d10 _ (R11.out.keep K12.out)).mono ?_); rintro e w14 ⟨hb, B14, d14, rfl⟩; have B14b : Hid (Below w11.heap.size w11 w14) := Lib.hid (by first | exact B13.out.trans (hb.mono B13.out.size) | exact B12.out.trans (hb.mono B12.out.size)); have K14 := Lib.hid (Keeps.of_below B14b.out (Nat.le_refl _)); have p0 := K14.out _ _ p0r; have p1 := K14.out _ _ p1r; have g0 := K14.out _ _ g0r; have g1 := K14.out _ _ g1r; have n0 := World.new_ne w14 _ p1; have n1 := World.new_ne w14 _ g1; clear hb)
             | fail))
         all_goals
          go_wp2_with fail
          go_ret
          exact ⟨rfl, (X11.out.next B14b.out).below⟩
       · go_wp2_with fail
         go_ret
         exact ⟨rfl, X9.out.below⟩
     · go_wp2_with fail
       go_ret
       exact ⟨rfl, X9.out.below⟩
  · have dr : ((rk : Int) != (m : Int)) = true := by simp; omega
    go_region_held3 (fun w' => w'.cell? ⟨w.heap.size, 0, none⟩ = some (.int .i64 N) ∧ w'.cell? ⟨w.heap.size, 1, none⟩ = some (.slice A m c)) (go_keep)
      ((first
        | (go_at_call 33; refine (RI.out _ (H0.out.keep X7.out.drew.keeps)).mono ?_; rintro e w8 ⟨hb, B8, d8, rfl⟩; have X8 := Lib.hid (X7.out.drew.next hb); obtain ⟨hz8, p0, p1, t0, t1, t2⟩ := X8.out.facts; have n0 := World.new_ne w8 _ p1; clear hb)
        | fail))
    all_goals
     go_wp2_with fail
     go_ret
     exact ⟨rfl, X8.out.below⟩
theorem law_ph (N : Int) (A : Option Addr) (m c : Nat) (es : List (Int × Int)) (a0 a1 a2 : Int) (w : World) (hm : m ≤ maxLen) (he : Rd w 2 A m (prs es)) (u0 : 0 ≤ a0 ∧ a0 ≤ 255) (u1 : 0 ≤ a1 ∧ a1 ≤ 255) (u2 : 0 ≤ a2 ∧ a2 ≤ 255) :
    Calls Try.prog 7 #[.agg #[.int .i64 N, .slice A m c], .agg #[.int .u8 a0, .int .u8 a1, .int .u8 a2]] w fun e w' => e = .returned (.bool true) ∧ Below w.heap.size w w' := by
  by_cases h1 : (decide (N ≤ 8) && decide ((m : Int) ≤ 20)) = true
  · have hm20 : m ≤ 20 := by simp at h1; omega
    cases hv : validB N es
    · exact law_ph_inv N A m c es a0 a1 a2 w (Lib.hid h1) hm20 (Lib.hid he) (Lib.hid hv)
    · by_cases h2 : N < 2
      · exact law_ph_low N A m c es a0 a1 a2 w (Lib.hid h1) hm20 (Lib.hid he) (Lib.hid hv) h2
      · by_cases h7 : 7 < N
        · exact law_ph_high N A m c es a0 a1 a2 w (Lib.hid h1) hm20 (Lib.hid he) (Lib.hid hv) (by omega) h7
        · exact law_ph_ok N.toNat N (by omega) A m c es a0 a1 a2 w (Lib.hid h1) hm20 (Lib.hid he) (Lib.hid hv) (by omega) (by omega) u0 u1 u2
  · exact law_ph_few N A m c es a0 a1 a2 w (Lib.hid (by simpa using h1))
end Go.Proofs.Ytagcaljpgifppaa
