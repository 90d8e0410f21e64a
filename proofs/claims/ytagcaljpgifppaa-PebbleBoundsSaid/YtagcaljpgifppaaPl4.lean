/-
  PebbleRedundant: the walk of the statement.
-/
import Derived.Test.YtagcaljpgifppaaPl1
import Derived.Test.YtagcaljpgifppaaQ9
import Derived.Test.YtagcaljpgifppaaOpen
namespace Go.Proofs.Ytagcaljpgifppaa
set_option linter.unusedVariables false
set_option linter.unusedSimpArgs false
open Go.RowKit Go.Sort
attribute [local go_sem ↓] Go.wp_at_zero Go.wp_at_succ

section
set_option maxRecDepth 100000
variable {H : Type} {enc : TypeId × Value → H} {W : World}
theorem cap_pairs {fuel : Nat} {c : Value} {A : Option Addr} {n cap : Nat} {x : DataW H × List MemPlace} (h : DataW.trod enc Try.prog W 0 (fun _ => true) true fuel 22 [c] = some x) (e : c = .slice A n cap) : n ≤ cap := by
  rcases Go.Deep.open_slice Try.underlying22 h with ⟨hc, -⟩ | ⟨a, len, cap', m, k, D, Pl, hc, -, hl, hm, hmm, -, hi⟩
  · rw [e] at hc
    simp at hc
    omega
  · rw [e] at hc
    simp at hc
    omega
theorem cap_graph {v : Value} {N : Int} {A : Option Addr} {n cap : Nat} {d : DataW H} {p : List MemPlace} (hv : Value.okWide Try.prog W .any 0 24 v) (h : DataW.Trod enc Try.prog W 0 (fun _ => true) true 24 v d p) (e0 : v = .agg #[.int .i64 N, .slice A n cap]) : n ≤ cap := by
  obtain ⟨c0, c1, y0, y1, m, e, -, -, h0, h1⟩ := Go.Joins.open_agg2 Try.underlying24 (by kernel_rfl) Tp.cellsGraph hv h
  rw [e] at e0
  simp at e0
  exact cap_pairs h1 e0.2
end
theorem pred_l {N : Int} (L : List Int) (l : Nat) (A : Option Addr) (m c : Nat) (es : List (Int × Int)) (w : World) (hm : m ≤ 100000) (he : Rd w 2 A m (prs es)) (hL : redE N es = L) (hl : L.length = l) :
    Calls Try.prog 18 #[.agg #[.int .i64 N, .slice A m c]] w fun e w' => Below w.heap.size w w' ∧ ∃ B d, e = .returned (.slice B l d) ∧ Rd w' 1 B l (ints L) := by
  subst hl hL
  refine (pred_any N A m c es w hm he).mono ?_
  rintro e w' ⟨hb, B, d, rfl, ho⟩
  exact ⟨hb, B, d, rfl, ho.rd⟩
set_option maxHeartbeats 4000000 in
theorem law_pred_few (N : Int) (A : Option Addr) (m c : Nat) (es : List (Int × Int)) (w : World) (D1 : Hid ((decide (N ≤ 8) && decide ((m : Int) ≤ 20)) = false)) :
    Calls Try.prog 3 #[.agg #[.int .i64 N, .slice A m c]] w fun e w' => e = .returned (.bool true) ∧ Below w.heap.size w w' := by
  have X0 : Hid (BX w N A m c (w.alloc (.cells #[.int .i64 N, .slice A m c] 24))) := Lib.hid BX.start
  go_enter Try.func3, Try.ntmps3
  go_wp2_with fail
  refine (awake_any _).mono ?_
  rintro e w1 ⟨rfl, hb⟩
  have X1 := Lib.hid (X0.out.next hb)
  obtain ⟨hz1, p0, p1⟩ := X1.out.facts
  clear hb
  go_wp2_with fail
  refine (few_b (b := false) N A m c _ D1.out).mono ?_
  rintro e w2 ⟨rfl, hb⟩
  have X2 := Lib.hid (X1.out.next hb)
  obtain ⟨hz2, p0, p1⟩ := X2.out.facts
  clear hb
  go_wp2_with fail
  refine (awake_any _).mono ?_
  rintro e w3 ⟨rfl, hb⟩
  have X3 := Lib.hid (X2.out.next hb)
  clear hb
  go_wp2_with fail
  go_ret
  exact ⟨rfl, X3.out.below⟩
set_option maxHeartbeats 4000000 in
theorem law_pred_7 (N : Int) (A : Option Addr) (m c : Nat) (es : List (Int × Int)) (w : World) (D1 : Hid ((decide (N ≤ 8) && decide ((m : Int) ≤ 20)) = true)) (d7 : 7 < N) :
    Calls Try.prog 3 #[.agg #[.int .i64 N, .slice A m c]] w fun e w' => e = .returned (.bool true) ∧ Below w.heap.size w w' := by
  have X0 : Hid (BX w N A m c (w.alloc (.cells #[.int .i64 N, .slice A m c] 24))) := Lib.hid BX.start
  go_enter Try.func3, Try.ntmps3
  go_wp2_with fail
  refine (awake_any _).mono ?_
  rintro e w1 ⟨rfl, hb⟩
  have X1 := Lib.hid (X0.out.next hb)
  obtain ⟨hz1, p0, p1⟩ := X1.out.facts
  clear hb
  go_wp2_with fail
  refine (few_b (b := true) N A m c _ D1.out).mono ?_
  rintro e w2 ⟨rfl, hb⟩
  have X2 := Lib.hid (X1.out.next hb)
  obtain ⟨hz2, p0, p1⟩ := X2.out.facts
  clear hb
  go_wp2_with fail
  refine (awake_any _).mono ?_
  rintro e w3 ⟨rfl, hb⟩
  have X3 := Lib.hid (X2.out.next hb)
  clear hb
  go_wp2_with fail
  go_ret
  exact ⟨rfl, X3.out.below⟩
set_option maxHeartbeats 4000000 in
theorem law_pred_14 (N : Int) (A : Option Addr) (m c : Nat) (es : List (Int × Int)) (w : World) (D1 : Hid ((decide (N ≤ 8) && decide ((m : Int) ≤ 20)) = true)) (d7 : N ≤ 7) (d14 : 14 < m) :
    Calls Try.prog 3 #[.agg #[.int .i64 N, .slice A m c]] w fun e w' => e = .returned (.bool true) ∧ Below w.heap.size w w' := by
  have X0 : Hid (BX w N A m c (w.alloc (.cells #[.int .i64 N, .slice A m c] 24))) := Lib.hid BX.start
  go_enter Try.func3, Try.ntmps3
  go_wp2_with fail
  refine (awake_any _).mono ?_
  rintro e w1 ⟨rfl, hb⟩
  have X1 := Lib.hid (X0.out.next hb)
  obtain ⟨hz1, p0, p1⟩ := X1.out.facts
  clear hb
  go_wp2_with fail
  refine (few_b (b := true) N A m c _ D1.out).mono ?_
  rintro e w2 ⟨rfl, hb⟩
  have X2 := Lib.hid (X1.out.next hb)
  obtain ⟨hz2, p0, p1⟩ := X2.out.facts
  clear hb
  go_wp2_with fail
  refine (awake_any _).mono ?_
  rintro e w3 ⟨rfl, hb⟩
  have X3 := Lib.hid (X2.out.next hb)
  clear hb
  go_wp2_with fail
  go_ret
  exact ⟨rfl, X3.out.below⟩
set_option maxHeartbeats 4000000 in
theorem law_pred_inv (N : Int) (A : Option Addr) (m c : Nat) (es : List (Int × Int)) (w : World) (D1 : Hid ((decide (N ≤ 8) && decide ((m : Int) ≤ 20)) = true)) (d7 : N ≤ 7) (d14 : m ≤ 14) (H0 : Hid (Rd w 2 A m (prs es))) (HV : Hid (validB N es = false)) (HR : Hid (redE N es = [])) :
    Calls Try.prog 3 #[.agg #[.int .i64 N, .slice A m c]] w fun e w' => e = .returned (.bool true) ∧ Below w.heap.size w w' := by
  have X0 : Hid (BX w N A m c (w.alloc (.cells #[.int .i64 N, .slice A m c] 24))) := Lib.hid BX.start
  go_enter Try.func3, Try.ntmps3
  go_wp2_with fail
  refine (awake_any _).mono ?_
  rintro e w1 ⟨rfl, hb⟩
  have X1 := Lib.hid (X0.out.next hb)
  obtain ⟨hz1, p0, p1⟩ := X1.out.facts
  clear hb
  go_wp2_with fail
  refine (few_b (b := true) N A m c _ D1.out).mono ?_
  rintro e w2 ⟨rfl, hb⟩
  have X2 := Lib.hid (X1.out.next hb)
  obtain ⟨hz2, p0, p1⟩ := X2.out.facts
  clear hb
  go_wp2_with fail
  refine (rvalid_b (b := false) N A m c es _ (by omega) (H0.out.keep X2.out.keeps) HV.out).mono ?_
  rintro e w3 ⟨rfl, hb⟩
  have X3 := Lib.hid (X2.out.next hb)
  obtain ⟨hz3, p0, p1⟩ := X3.out.facts
  clear hb
  go_wp2_with fail
  refine (pred_l [] 0 A m c es _ (by omega) (H0.out.keep X3.out.keeps) HR.out rfl).mono ?_
  rintro e w4 ⟨hb, B4, d4, rfl, -⟩
  have X4 := Lib.hid (X3.out.next hb)
  clear hb
  go_wp2_with fail
  go_ret
  exact ⟨rfl, X4.out.below⟩
set_option maxHeartbeats 4000000 in
theorem law_pred_ok (N : Int) (A : Option Addr) (m c : Nat) (es : List (Int × Int)) (w : World) (D1 : Hid ((decide (N ≤ 8) && decide ((m : Int) ≤ 20)) = true)) (d7 : N ≤ 7) (d14 : m ≤ 14) (H0 : Hid (Rd w 2 A m (prs es))) (HV : Hid (validB N es = true)) (L : List Int) (l : Nat) (hl : l ≤ 14)
    (PR : Hid (∀ w', Rd w' 2 A m (prs es) → Calls Try.prog 18 #[.agg #[.int .i64 N, .slice A m c]] w' fun e w'' => Below w'.heap.size w' w'' ∧ ∃ B d, e = .returned (.slice B l d) ∧ Rd w'' 1 B l (ints L)))
    (RR : Hid (∀ w', Rd w' 2 A m (prs es) → Calls Try.prog 20 #[.agg #[.int .i64 N, .slice A m c]] w' fun e w'' => Below w'.heap.size w' w'' ∧ ∃ B d, e = .returned (.slice B l d) ∧ Rd w'' 1 B l (ints L))) :
    Calls Try.prog 3 #[.agg #[.int .i64 N, .slice A m c]] w fun e w' => e = .returned (.bool true) ∧ Below w.heap.size w w' := by
  have X0 : Hid (BX w N A m c (w.alloc (.cells #[.int .i64 N, .slice A m c] 24))) := Lib.hid BX.start
  go_enter Try.func3, Try.ntmps3
  go_wp2_with fail
  refine (awake_any _).mono ?_
  rintro e w1 ⟨rfl, hb⟩
  have X1 := Lib.hid (X0.out.next hb)
  obtain ⟨hz1, p0, p1⟩ := X1.out.facts
  clear hb
  go_wp2_with fail
  refine (few_b (b := true) N A m c _ D1.out).mono ?_
  rintro e w2 ⟨rfl, hb⟩
  have X2 := Lib.hid (X1.out.next hb)
  obtain ⟨hz2, p0, p1⟩ := X2.out.facts
  clear hb
  go_wp2_with fail
  refine (rvalid_b (b := true) N A m c es _ (by omega) (H0.out.keep X2.out.keeps) HV.out).mono ?_
  rintro e w3 ⟨rfl, hb⟩
  have X3 := Lib.hid (X2.out.next hb)
  obtain ⟨hz3, p0, p1⟩ := X3.out.facts
  have n0 := World.new_ne w3 _ p1
  clear hb
  go_wp2_with fail
  go_region_held3 (fun w' => w'.cell? ⟨w.heap.size, 0, none⟩ = some (.int .i64 N) ∧ w'.cell? ⟨w.heap.size, 1, none⟩ = some (.slice A m c)) (go_keep)
    ((first
      | (go_at_call 18; refine (PR.out _ (H0.out.keep (by first | exact X5.out.keeps | exact X3.out.drew.keeps))).mono ?_; rintro e w4 ⟨hb, B4, d4, rfl, hr⟩; have K4 := Lib.hid (Keeps.of_below hb (Nat.le_refl _)); have X4 : Hid (BX w N A m c w4) := Lib.hid (by first | exact X5.out.next hb | exact X3.out.drew.next hb); have R4 := Lib.hid hr; obtain ⟨hz4, p0, p1⟩ := X4.out.facts; have n0 := World.new_ne w4 _ p1; clear hb hr)
      | (go_at_call 20; refine (RR.out _ (H0.out.keep (by first | exact X4.out.keeps | exact X3.out.drew.keeps))).mono ?_; rintro e w5 ⟨hb, B5, d5, rfl, hr⟩; have K5 := Lib.hid (Keeps.of_below hb (Nat.le_refl _)); have X5 : Hid (BX w N A m c w5) := Lib.hid (by first | exact X4.out.next hb | exact X3.out.drew.next hb); have R5 := Lib.hid hr; obtain ⟨hz5, p0, p1⟩ := X5.out.facts; have n0 := World.new_ne w5 _ p1; clear hb hr)
      | (go_at_call 19; refine (sameI_b (b := true) B4 B5 l d4 l d5 L L _ (by omega) (by omega) (by first | exact R4.out | exact R4.out.keep K5.out) (by first | exact R5.out | exact R5.out.keep K4.out) (by simp)).mono ?_; rintro e w6 ⟨rfl, hb⟩; have X6 : Hid (BX w N A m c w6) := Lib.hid (by first | exact X4.out.next hb | exact X5.out.next hb); obtain ⟨hz6, p0, p1⟩ := X6.out.facts; have n0 := World.new_ne w6 _ p1; clear hb)
      | fail))
  all_goals
   go_wp2_with fail
   go_ret
   exact ⟨rfl, X6.out.below⟩
theorem law_pred (N : Int) (A : Option Addr) (m c : Nat) (es : List (Int × Int)) (w : World) (hm : m ≤ maxLen) (hmc : m ≤ c) (he : Rd w 2 A m (prs es)) :
    Calls Try.prog 3 #[.agg #[.int .i64 N, .slice A m c]] w fun e w' => e = .returned (.bool true) ∧ Below w.heap.size w w' := by
  have HE := he.prs_len
  by_cases h1 : (decide (N ≤ 8) && decide ((m : Int) ≤ 20)) = true
  · have hm20 : m ≤ 20 := by simp at h1; omega
    have hN8 : N ≤ 8 := by simp at h1; omega
    by_cases h7 : 7 < N
    · exact law_pred_7 N A m c es w (Lib.hid h1) h7
    · by_cases h14 : 14 < m
      · exact law_pred_14 N A m c es w (Lib.hid h1) (by omega) h14
      · cases hv : validB N es
        · exact law_pred_inv N A m c es w (Lib.hid h1) (by omega) (by omega) (Lib.hid he) (Lib.hid hv) (Lib.hid (by unfold redE; rw [if_neg (by rw [hv]; simp)]))
        · obtain ⟨n, rfl, hn60⟩ := nat_of_valid hv
          have hl := redK_lek es m
          exact law_pred_ok n A m c es w (Lib.hid h1) (by omega) (by omega) (Lib.hid he) (Lib.hid hv) (redK es m) (redK es m).length (by omega)
            (Lib.hid fun w' h => pred_l (redK es m) _ A m c es w' (by omega) h (by unfold redE; rw [if_pos hv, HE]) rfl)
            (Lib.hid fun w' h => (rred34_any n A m c es w' (by omega) (by omega) hmc h (ok_of_valid hv)).mono (by rintro e w'' ⟨hb, B, d, rfl, ho⟩; exact ⟨hb, B, d, rfl, ho.rd⟩))
  · exact law_pred_few N A m c es w (Lib.hid (by simpa using h1))
end Go.Proofs.Ytagcaljpgifppaa
