/-
  PebbleOrder: the other cases, and the walk of the statement whole.
-/
import Derived.Test.YtagcaljpgifppaaPl7
namespace Go.Proofs.Ytagcaljpgifppaa
set_option linter.unusedVariables false
set_option linter.unusedSimpArgs false
open Go.RowKit Go.Sort
attribute [local go_sem ↓] Go.wp_at_zero Go.wp_at_succ

set_option maxHeartbeats 4000000 in
theorem law_po_few (N : Int) (A S : Option Addr) (m c k d : Nat) (es : List (Int × Int)) (w : World) (D1 : Hid ((decide (N ≤ 8) && decide ((m : Int) ≤ 20)) = false)) :
    Calls Try.prog 4 #[.agg #[.int .i64 N, .slice A m c], .slice S k d] w fun e w' => e = .returned (.bool true) ∧ Below w.heap.size w w' := by
  have X0 : Hid (BX w N A m c (w.alloc (.cells #[.int .i64 N, .slice A m c] 24))) := Lib.hid BX.start
  go_enter Try.func4, Try.ntmps4
  go_wp2_with fail
  refine (awake_any _).mono ?_
  rintro e w1 ⟨rfl, hb⟩
  have X1 := Lib.hid (X0.out.next hb)
  obtain ⟨hz1, p0, p1⟩ := X1.out.facts
  clear hb
  go_wp2_with fail
  refine (few_b (b := false) N A m c _ D1.out).mono ?_
  rintro e w2 ⟨rfl, hb⟩
  have X2 := Lib.hid (X1.out.next hb)
  clear hb
  go_wp2_with fail
  refine (awake_any _).mono ?_
  rintro e w3 ⟨rfl, hb⟩
  have X3 := Lib.hid (X2.out.next hb)
  clear hb
  go_wp2_with fail
  go_ret
  exact ⟨rfl, X3.out.below⟩
set_option maxHeartbeats 4000000 in
theorem law_po_inv (N : Int) (A S : Option Addr) (m c k d : Nat) (es : List (Int × Int)) (w : World) (D1 : Hid ((decide (N ≤ 8) && decide ((m : Int) ≤ 20)) = true)) (hm : m ≤ 20) (H0 : Hid (Rd w 2 A m (prs es))) (HV : Hid (validB N es = false)) :
    Calls Try.prog 4 #[.agg #[.int .i64 N, .slice A m c], .slice S k d] w fun e w' => e = .returned (.bool true) ∧ Below w.heap.size w w' := by
  have X0 : Hid (BX w N A m c (w.alloc (.cells #[.int .i64 N, .slice A m c] 24))) := Lib.hid BX.start
  go_enter Try.func4, Try.ntmps4
  go_wp2_with fail
  refine (awake_any _).mono ?_
  rintro e w1 ⟨rfl, hb⟩
  have X1 := Lib.hid (X0.out.next hb)
  obtain ⟨hz1, p0, p1⟩ := X1.out.facts
  clear hb
  go_wp2_with fail
  refine (few_b (b := true) N A m c _ D1.out).mono ?_
  rintro e w2 ⟨rfl, hb⟩
  have X2 := Lib.hid (X1.out.next hb)
  obtain ⟨hz1, p0, p1⟩ := X2.out.facts
  clear hb
  go_wp2_with fail
  refine (rvalid_b (b := false) N A m c es _ (by omega) (H0.out.keep X2.out.keeps) HV.out).mono ?_
  rintro e w3 ⟨rfl, hb⟩
  have X3 := Lib.hid (X2.out.next hb)
  clear hb
  go_wp2_with fail
  refine (awake_any _).mono ?_
  rintro e w4 ⟨rfl, hb⟩
  have X4 := Lib.hid (X3.out.next hb)
  clear hb
  go_wp2_with fail
  go_ret
  exact ⟨rfl, X4.out.below⟩
set_option maxHeartbeats 4000000 in
theorem law_po_big (N : Int) (A S : Option Addr) (m c k d : Nat) (es : List (Int × Int)) (w : World) (D1 : Hid ((decide (N ≤ 8) && decide ((m : Int) ≤ 20)) = true)) (hm : m ≤ 20) (H0 : Hid (Rd w 2 A m (prs es))) (HV : Hid (validB N es = true)) (hk : 20 < k) :
    Calls Try.prog 4 #[.agg #[.int .i64 N, .slice A m c], .slice S k d] w fun e w' => e = .returned (.bool true) ∧ Below w.heap.size w w' := by
  have X0 : Hid (BX w N A m c (w.alloc (.cells #[.int .i64 N, .slice A m c] 24))) := Lib.hid BX.start
  have d20 : decide ((20 : Int) < (k : Int)) = true := decide_eq_true (by omega)
  go_enter Try.func4, Try.ntmps4
  go_wp2_with fail
  refine (awake_any _).mono ?_
  rintro e w1 ⟨rfl, hb⟩
  have X1 := Lib.hid (X0.out.next hb)
  obtain ⟨hz1, p0, p1⟩ := X1.out.facts
  clear hb
  go_wp2_with fail
  refine (few_b (b := true) N A m c _ D1.out).mono ?_
  rintro e w2 ⟨rfl, hb⟩
  have X2 := Lib.hid (X1.out.next hb)
  obtain ⟨hz1, p0, p1⟩ := X2.out.facts
  clear hb
  go_wp2_with fail
  refine (rvalid_b (b := true) N A m c es _ (by omega) (H0.out.keep X2.out.keeps) HV.out).mono ?_
  rintro e w3 ⟨rfl, hb⟩
  have X3 := Lib.hid (X2.out.next hb)
  obtain ⟨hz1, p0, p1⟩ := X3.out.facts
  clear hb
  go_wp2_with fail
  refine (awake_any _).mono ?_
  rintro e w4 ⟨rfl, hb⟩
  have X4 := Lib.hid (X3.out.next hb)
  clear hb
  go_wp2_with fail
  go_ret
  exact ⟨rfl, X4.out.below⟩
theorem law_po (N : Int) (A : Option Addr) (m c : Nat) (es : List (Int × Int)) (S : Option Addr) (k d : Nat) (sw : List Int) (w : World) (hm : m ≤ maxLen) (hk : k ≤ maxLen) (he : Rd w 2 A m (prs es)) (hs : Rd w 1 S k (u8s sw)) (hu : ∀ x ∈ sw, 0 ≤ x ∧ x ≤ 255) :
    Calls Try.prog 4 #[.agg #[.int .i64 N, .slice A m c], .slice S k d] w fun e w' => e = .returned (.bool true) ∧ Below w.heap.size w w' := by
  by_cases h1 : (decide (N ≤ 8) && decide ((m : Int) ≤ 20)) = true
  · have hm20 : m ≤ 20 := by simp at h1; omega
    have hN8 : N ≤ 8 := by simp at h1; omega
    cases hv : validB N es
    · exact law_po_inv N A S m c k d es w (Lib.hid h1) hm20 (Lib.hid he) (Lib.hid hv)
    · by_cases h2 : 20 < k
      · exact law_po_big N A S m c k d es w (Lib.hid h1) hm20 (Lib.hid he) (Lib.hid hv) h2
      · have hN := (validB_iff N es).1 hv
        exact law_po_try N.toNat N (by omega) A S m c k d es sw w (Lib.hid h1) hm20 (by omega) (Lib.hid he) (Lib.hid hs) (Lib.hid hu) (Lib.hid hv) hN8
  · exact law_po_few N A S m c k d es w (Lib.hid (by simpa using h1))
end Go.Proofs.Ytagcaljpgifppaa
