/-
  PebbleIndependent: the walk of the statement.
-/
import Derived.Test.YtbhkdodokdgijaaMc
namespace Go.Proofs.Ytbhkdodokdgijaa
set_option linter.unusedVariables false
set_option linter.unusedSimpArgs false
open Go.RowKit Go.Sort
attribute [local go_sem ↓] Go.wp_at_zero Go.wp_at_succ

/-- What a world behind the boxing of the graph keeps. -/
def BX (w : World) (N : Int) (A : Option Addr) (m c : Nat) (w1 : World) : Prop := Below (w.heap.size + 1) (w.alloc (.cells #[.int .i64 N, .slice A m c] 24)) w1
section
variable {w w1 w2 : World} {N : Int} {A : Option Addr} {m c : Nat}
theorem BX.start : BX w N A m c (w.alloc (.cells #[.int .i64 N, .slice A m c] 24)) := Below.refl _ _
theorem BX.facts (h : BX w N A m c w1) : w.heap.size < w1.heap.size ∧ w1.cell? ⟨w.heap.size, 0, none⟩ = some (.int .i64 N) ∧ w1.cell? ⟨w.heap.size, 1, none⟩ = some (.slice A m c) := by
  have hs := h.size
  simp at hs
  exact ⟨by omega, by rw [Below.cell h (by simp)]; simp, by rw [Below.cell h (by simp)]; simp⟩
theorem BX.next (h : BX w N A m c w1) (hb : Below w1.heap.size w1 w2) : BX w N A m c w2 := Below.trans h (hb.mono h.facts.1)
theorem BX.drew (h : BX w N A m c w1) : BX w N A m c w1.drew := h.next ((Below.refl _ _).drew)
theorem BX.below (h : BX w N A m c w1) : Below w.heap.size w w1 := ((Below.refl _ _).alloc (Nat.le_refl _) _).trans (Below.mono h (by omega))
theorem BX.keeps (h : BX w N A m c w1) : Keeps w w1 := Keeps.of_below h.below (Nat.le_refl _)
end
theorem few_b {b : Bool} (N : Int) (A : Option Addr) (n c : Nat) (w : World) (hb : (decide (N ≤ 8) && decide ((n : Int) ≤ 20)) = b) :
    Calls Try.prog 11 #[.agg #[.int .i64 N, .slice A n c]] w fun e w' => e = .returned (.bool b) ∧ Below w.heap.size w w' := by
  subst hb; exact few_any N A n c w
theorem pind_l {N : Int} (L : List Int) (l : Nat) (A : Option Addr) (m c : Nat) (es : List (Int × Int)) (w : World) (hm : m ≤ 100000) (he : Rd w 2 A m (prs es)) (hL : indE' N es = L) (hl : L.length = l) :
    Calls Try.prog 13 #[.agg #[.int .i64 N, .slice A m c]] w fun e w' => Below w.heap.size w w' ∧ ∃ B d, e = .returned (.slice B l d) ∧ Rd w' 1 B l (ints L) := by
  subst hl hL
  refine (pind_any N A m c es w hm he).mono ?_
  rintro e w' ⟨hb, B, d, rfl, ho⟩
  exact ⟨hb, B, d, rfl, ho.rd⟩
theorem prigid_b {b : Bool} (N : Int) (A : Option Addr) (m c : Nat) (es : List (Int × Int)) (w : World) (hm : m ≤ 100000) (he : Rd w 2 A m (prs es)) (hb : rigidE N es = b) :
    Calls Try.prog 15 #[.agg #[.int .i64 N, .slice A m c]] w fun e w' => e = .returned (.bool b) ∧ Below w.heap.size w w' := by
  subst hb; exact prigid_any N A m c es w hm he
theorem rigid_eq {n rk : Nat} {es : List (Int × Int)} (hv : validB n es = true) (hk : rankE es = rk) : rigidE n es = rigid34 n rk := by
  unfold rigidE rigid34 freeE
  rw [if_pos hv, hv, hk, Bool.true_and]
theorem free_eq {n rk : Nat} {es : List (Int × Int)} (hv : validB n es = true) (hk : rankE es = rk) : freeE n es = 2 * (n : Int) - (rk : Int) := by
  unfold freeE
  rw [if_pos hv, hk]
theorem indE'_no {N : Int} {es : List (Int × Int)} (hv : validB N es = false) : indE' N es = [] := by unfold indE'; rw [if_neg (by rw [hv]; simp)]
theorem freeE_no {N : Int} {es : List (Int × Int)} (hv : validB N es = false) : freeE N es = 0 := by unfold freeE; rw [if_neg (by rw [hv]; simp)]
theorem rigidE_no {N : Int} {es : List (Int × Int)} (hv : validB N es = false) : rigidE N es = false := by unfold rigidE; rw [hv, Bool.false_and]

set_option maxHeartbeats 8000000 in
theorem law_pind (N : Int) (A : Option Addr) (m c : Nat) (es : List (Int × Int)) (w : World) (hm : m ≤ maxLen) (he : Rd w 2 A m (prs es)) :
    Calls Try.prog 3 #[.agg #[.int .i64 N, .slice A m c]] w fun e w' => e = .returned (.bool true) ∧ Below w.heap.size w w' := by
  have H0 := Lib.hid he
  have X0 : Hid (BX w N A m c (w.alloc (.cells #[.int .i64 N, .slice A m c] 24))) := Lib.hid BX.start
  unfold maxLen at hm
  clear he
  by_cases h1 : (decide (N ≤ 8) && decide ((m : Int) ≤ 20)) = true
  · have D1 := Lib.hid h1
    have hm20 : m ≤ 20 := by simp at h1; omega
    have hN8 : N ≤ 8 := by simp at h1; omega
    clear h1
    cases hv : validB N es
    · have HI := Lib.hid (indE'_no hv)
      have HF := Lib.hid (freeE_no hv)
      have HR := Lib.hid (rigidE_no hv)
      have HV := Lib.hid hv
      clear hv
      go_enter Try.func3, Try.ntmps3
      go_wp2_with fail
      refine (awake_any _).mono ?_
      rintro e w1 ⟨rfl, hb⟩
      have X1 := Lib.hid (X0.out.next hb)
      obtain ⟨hz1, p0, p1⟩ := X1.out.facts
      clear hb
      go_wp2_with fail
      refine (few_b (b := true) N A m c _ D1.out).mono ?_
      rintro e w2 ⟨rfl, hb⟩
      have X2 := Lib.hid (X1.out.next hb)
      obtain ⟨hz2, p0, p1⟩ := X2.out.facts
      clear hb
      go_wp2_with fail
      refine (rvalid_b (b := false) N A m c es _ (by omega) (H0.out.keep X2.out.keeps) HV.out).mono ?_
      rintro e w3 ⟨rfl, hb⟩
      have X3 := Lib.hid (X2.out.next hb)
      obtain ⟨hz3, p0, p1⟩ := X3.out.facts
      clear hb
      go_wp2_with fail
      refine (pind_l [] 0 A m c es _ (by omega) (H0.out.keep X3.out.keeps) HI.out rfl).mono ?_
      rintro e w4 ⟨hb, B4, d4, rfl, -⟩
      have X4 := Lib.hid (X3.out.next hb)
      obtain ⟨hz4, p0, p1⟩ := X4.out.facts
      clear hb
      go_wp2_with fail
      refine (pfree_b 0 N A m c es _ (by omega) (H0.out.keep X4.out.keeps) HF.out).mono ?_
      rintro e w5 ⟨rfl, hb⟩
      have X5 := Lib.hid (X4.out.next hb)
      obtain ⟨hz5, p0, p1⟩ := X5.out.facts
      clear hb
      go_wp2_with fail
      refine (prigid_b (b := false) N A m c es _ (by omega) (H0.out.keep X5.out.keeps) HR.out).mono ?_
      rintro e w6 ⟨rfl, hb⟩
      have X6 := Lib.hid (X5.out.next hb)
      clear hb
      go_wp2_with fail
      go_ret
      exact ⟨rfl, X6.out.below⟩
    · obtain ⟨n, rfl, hn60⟩ := nat_of_valid hv
      have hn8 : n ≤ 8 := by omega
      generalize hk : rankE es = rk
      generalize hL : idxL es = L
      have hLl : L.length = rk := by rw [← hL, idxL_len, hk]
      have hrk : rk ≤ m := by have := rank_le es; have := H0.out.prs_len; omega
      have PI : Hid (∀ w', Rd w' 2 A m (prs es) → Calls Try.prog 13 #[.agg #[.int .i64 (n : Int), .slice A m c]] w' fun e w'' => Below w'.heap.size w' w'' ∧ ∃ B d, e = .returned (.slice B rk d) ∧ Rd w'' 1 B rk (ints L)) := Lib.hid fun w' h => pind_l L rk A m c es w' (by omega) h (by unfold indE'; rw [if_pos hv, hL]) hLl
      have RI : Hid (∀ w', Rd w' 2 A m (prs es) → Calls Try.prog 17 #[.agg #[.int .i64 (n : Int), .slice A m c]] w' fun e w'' => Below w'.heap.size w' w'' ∧ ∃ B d, e = .returned (.slice B rk d) ∧ Rd w'' 1 B rk (ints L)) := Lib.hid fun w' h => (rind34_l n rk A m c es w' hn8 (by omega) h (ok_of_valid hv) hk).mono (by rintro e w'' ⟨hb, B, d, rfl, ho⟩; rw [hL] at ho; exact ⟨hb, B, d, rfl, ho.rd⟩)
      have PF : Hid (∀ w', Rd w' 2 A m (prs es) → Calls Try.prog 14 #[.agg #[.int .i64 (n : Int), .slice A m c]] w' fun e w'' => e = .returned (.int .i64 (2 * (n : Int) - (rk : Int))) ∧ Below w'.heap.size w' w'') := Lib.hid fun w' h => pfree_b _ n A m c es w' (by omega) h (free_eq hv hk)
      have RF : Hid (∀ w', Rd w' 2 A m (prs es) → Calls Try.prog 18 #[.agg #[.int .i64 (n : Int), .slice A m c]] w' fun e w'' => e = .returned (.int .i64 (2 * (n : Int) - (rk : Int))) ∧ Below w'.heap.size w' w'') := Lib.hid fun w' h => rfree34_any n rk A m c es w' hn8 (by omega) h (ok_of_valid hv) hk
      have PR : Hid (∀ w', Rd w' 2 A m (prs es) → Calls Try.prog 15 #[.agg #[.int .i64 (n : Int), .slice A m c]] w' fun e w'' => e = .returned (.bool (rigid34 n rk)) ∧ Below w'.heap.size w' w'') := Lib.hid fun w' h => prigid_b n A m c es w' (by omega) h (rigid_eq hv hk)
      have RR : Hid (∀ w', Rd w' 2 A m (prs es) → Calls Try.prog 19 #[.agg #[.int .i64 (n : Int), .slice A m c]] w' fun e w'' => e = .returned (.bool (rigid34 n rk)) ∧ Below w'.heap.size w' w'') := Lib.hid fun w' h => rrigid34_any n rk A m c es w' hn8 (by omega) h (ok_of_valid hv) hk
      generalize rigid34 n rk = rg at PR RR
      have HV := Lib.hid hv
      clear hv hL hk hLl
      go_enter Try.func3, Try.ntmps3
      go_wp2_with fail
      refine (awake_any _).mono ?_
      rintro e w1 ⟨rfl, hb⟩
      have X1 := Lib.hid (X0.out.next hb)
      obtain ⟨hz1, p0, p1⟩ := X1.out.facts
      clear hb
      go_wp2_with fail
      refine (few_b (b := true) n A m c _ D1.out).mono ?_
      rintro e w2 ⟨rfl, hb⟩
      have X2 := Lib.hid (X1.out.next hb)
      obtain ⟨hz2, p0, p1⟩ := X2.out.facts
      clear hb
      go_wp2_with fail
      refine (rvalid_b (b := true) n A m c es _ (by omega) (H0.out.keep X2.out.keeps) HV.out).mono ?_
      rintro e w3 ⟨rfl, hb⟩
      have X3 := Lib.hid (X2.out.next hb)
      obtain ⟨hz3, p0, p1⟩ := X3.out.facts
      have n0 := World.new_ne w3 _ p1
      clear hb
      go_wp2_with fail
      go_region_held3 (fun w' => w'.cell? ⟨w.heap.size, 0, none⟩ = some (.int .i64 (n : Int)) ∧ w'.cell? ⟨w.heap.size, 1, none⟩ = some (.slice A m c)) (go_keep)
        ((first
          | (go_at_call 13; refine (PI.out _ (H0.out.keep (by first | exact X5.out.keeps | exact X3.out.drew.keeps))).mono ?_; rintro e w4 ⟨hb, B4, d4, rfl, hr⟩; have K4 := Lib.hid (Keeps.of_below hb (Nat.le_refl _)); have X4 : Hid (BX w n A m c w4) := Lib.hid (by first | exact X5.out.next hb | exact X3.out.drew.next hb); have R4 := Lib.hid hr; obtain ⟨hz4, p0, p1⟩ := X4.out.facts; have n0 := World.new_ne w4 _ p1; clear hb hr)
          | (go_at_call 17; refine (RI.out _ (H0.out.keep (by first | exact X4.out.keeps | exact X3.out.drew.keeps))).mono ?_; rintro e w5 ⟨hb, B5, d5, rfl, hr⟩; have K5 := Lib.hid (Keeps.of_below hb (Nat.le_refl _)); have X5 : Hid (BX w n A m c w5) := Lib.hid (by first | exact X4.out.next hb | exact X3.out.drew.next hb); have R5 := Lib.hid hr; obtain ⟨hz5, p0, p1⟩ := X5.out.facts; have n0 := World.new_ne w5 _ p1; clear hb hr)
          | (go_at_call 16; refine (sameI_b (b := true) B4 B5 rk d4 rk d5 L L _ (by omega) (by omega) (by first | exact R4.out | exact R4.out.keep K5.out) (by first | exact R5.out | exact R5.out.keep K4.out) (by simp)).mono ?_; rintro e w6 ⟨rfl, hb⟩; have X6 : Hid (BX w n A m c w6) := Lib.hid (by first | exact X4.out.next hb | exact X5.out.next hb); obtain ⟨hz6, p0, p1⟩ := X6.out.facts; have n0 := World.new_ne w6 _ p1; clear hb)
          | (go_at_call 14; refine (PF.out _ (H0.out.keep (by first | exact X8.out.keeps | exact X6.out.keeps))).mono ?_; rintro e w7 ⟨rfl, hb⟩; have X7 : Hid (BX w n A m c w7) := Lib.hid (by first | exact X8.out.next hb | exact X6.out.next hb); obtain ⟨hz7, p0, p1⟩ := X7.out.facts; have n0 := World.new_ne w7 _ p1; clear hb)
          | (go_at_call 18; refine (RF.out _ (H0.out.keep (by first | exact X7.out.keeps | exact X6.out.keeps))).mono ?_; rintro e w8 ⟨rfl, hb⟩; have X8 : Hid (BX w n A m c w8) := Lib.hid (by first | exact X7.out.next hb | exact X6.out.next hb); obtain ⟨hz8, p0, p1⟩ := X8.out.facts; have n0 := World.new_ne w8 _ p1; clear hb)
          | (go_at_call 15; refine (PR.out _ (H0.out.keep (by first | exact X10.out.keeps | exact X8.out.keeps | exact X7.out.keeps))).mono ?_; rintro e w9 ⟨rfl, hb⟩; have X9 : Hid (BX w n A m c w9) := Lib.hid (by first | exact X10.out.next hb | exact X8.out.next hb | exact X7.out.next hb); obtain ⟨hz9, p0, p1⟩ := X9.out.facts; have n0 := World.new_ne w9 _ p1; clear hb)
          | (go_at_call 19; refine (RR.out _ (H0.out.keep (by first | exact X9.out.keeps | exact X8.out.keeps | exact X7.out.keeps))).mono ?_; rintro e w10 ⟨rfl, hb⟩; have X10 : Hid (BX w n A m c w10) := Lib.hid (by first | exact X9.out.next hb | exact X8.out.next hb | exact X7.out.next hb); obtain ⟨hz10, p0, p1⟩ := X10.out.facts; have n0 := World.new_ne w10 _ p1; clear hb)
          | fail))
      all_goals
       go_wp2_with fail
       go_ret
       first
         | exact ⟨rfl, X9.out.below⟩
         | exact ⟨rfl, X10.out.below⟩
  · have D1 : Hid ((decide (N ≤ 8) && decide ((m : Int) ≤ 20)) = false) := Lib.hid (by simpa using h1)
    clear h1
    go_enter Try.func3, Try.ntmps3
    go_wp2_with fail
    refine (awake_any _).mono ?_
    rintro e w1 ⟨rfl, hb⟩
    have X1 := Lib.hid (X0.out.next hb)
    obtain ⟨hz1, p0, p1⟩ := X1.out.facts
    clear hb
    go_wp2_with fail
    refine (few_b (b := false) N A m c _ D1.out).mono ?_
    rintro e w2 ⟨rfl, hb⟩
    have X2 := Lib.hid (X1.out.next hb)
    clear hb
    go_wp2_with fail
    refine (awake_any _).mono ?_
    rintro e w3 ⟨rfl, hb⟩
    have X3 := Lib.hid (X2.out.next hb)
    clear hb
    go_wp2_with fail
    go_ret
    exact ⟨rfl, X3.out.below⟩
end Go.Proofs.Ytbhkdodokdgijaa
