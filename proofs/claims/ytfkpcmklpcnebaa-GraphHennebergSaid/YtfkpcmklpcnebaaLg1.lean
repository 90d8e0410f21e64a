/-
  GraphValid, GraphRemove: the walks of the statements, from the contract of awake.
-/
import Derived.Test.YtfkpcmklpcnebaaAwG
import Derived.Test.YtfkpcmklpcnebaaG12
namespace Go.Proofs.Ytfkpcmklpcnebaa
set_option linter.unusedVariables false
set_option linter.unusedSimpArgs false
open Go.RowKit Go.Sort

def AwContract : Prop := ∀ w : World, Calls Try.prog 10 #[] w fun e w' => e = .returned (.bool true) ∧ Below w.heap.size w w'
theorem small_b {b : Bool} (N : Int) (A : Option Addr) (n c : Nat) (w : World) (hb : decide ((n : Int) ≤ 100) = b) :
    Calls Try.prog 11 #[.agg #[.int .i64 N, .slice A n c]] w fun e w' => e = .returned (.bool b) ∧ Below w.heap.size w w' := by
  subst hb; exact small_any N A n c w
/-- What a world behind the boxing of the graph keeps. -/
def BX (w : World) (N : Int) (A : Option Addr) (m c : Nat) (w1 : World) : Prop := Below (w.heap.size + 1) (w.alloc (.cells #[.int .i64 N, .slice A m c] 24)) w1
section
variable {w w1 w2 : World} {N : Int} {A : Option Addr} {m c : Nat}
theorem BX.start : BX w N A m c (w.alloc (.cells #[.int .i64 N, .slice A m c] 24)) := Below.refl _ _
theorem BX.facts (h : BX w N A m c w1) : w.heap.size < w1.heap.size ∧ w1.cell? ⟨w.heap.size, 0, none⟩ = some (.int .i64 N) ∧ w1.cell? ⟨w.heap.size, 1, none⟩ = some (.slice A m c) := by
  have hs := h.size
  simp at hs
  exact ⟨by omega, by rw [Below.cell h (by simp)]; simp, by rw [Below.cell h (by simp)]; simp⟩
theorem BX.next (h : BX w N A m c w1) (hb : Below w1.heap.size w1 w2) : BX w N A m c w2 := Below.trans h (hb.mono h.facts.1)
theorem BX.below (h : BX w N A m c w1) : Below w.heap.size w w1 := ((Below.refl _ _).alloc (Nat.le_refl _) _).trans (Below.mono h (by omega))
theorem BX.keeps (h : BX w N A m c w1) : Keeps w w1 := Keeps.of_below h.below (Nat.le_refl _)
end

set_option maxHeartbeats 4000000 in
theorem law_gvalid (HA : AwContract) (N : Int) (A : Option Addr) (m c : Nat) (es : List (Int × Int)) (w : World) (hm : m ≤ maxLen) (he : Rd w 2 A m (prs es)) :
    Calls Try.prog 3 #[.agg #[.int .i64 N, .slice A m c]] w fun e w' => e = .returned (.bool true) ∧ Below w.heap.size w w' := by
  have H0 := Lib.hid he
  have HAW := Lib.hid HA
  have X0 : Hid (BX w N A m c (w.alloc (.cells #[.int .i64 N, .slice A m c] 24))) := Lib.hid BX.start
  clear he HA
  by_cases h1 : (m : Int) ≤ 100
  · have D1 : Hid (decide ((m : Int) ≤ 100) = true) := by unfold Hid; simpa using h1
    go_enter Try.func3, Try.ntmps3
    go_wp2_with fail
    refine (HAW.out _).mono ?_
    rintro e w1 ⟨rfl, hb⟩
    have X1 := Lib.hid (X0.out.next hb)
    obtain ⟨hz1, p0, p1⟩ := X1.out.facts
    clear hb
    go_wp2_with fail
    refine (small_b (b := true) N A m c _ D1.out).mono ?_
    rintro e w2 ⟨rfl, hb⟩
    have X2 := Lib.hid (X1.out.next hb)
    obtain ⟨hz2, p0, p1⟩ := X2.out.facts
    clear hb
    have k0 := grown_cell p0
    have k1 := grown_cell p1
    have cG := call_q (w := w2) (fun w' hk => gvalid_any N A m c es w' (by omega) ((H0.out.keep X2.out.keeps).keep hk))
    have cR := call_q (w := w2) (fun w' hk => rvalid_any N A m c es w' (by omega) ((H0.out.keep X2.out.keeps).keep hk))
    generalize validB N es = v at cG cR
    go_wp2
    refine wp_region_q (by kernel_rfl) (by kernel_rfl) ?_
    repeat (go_big_quiet_step (first | with_reducible exact cG _ _ | with_reducible exact cR _ _))
    refine wpQuiet_nil ?_
    intro wq hgq
    go_wp2
    go_ret
    exact ⟨ret_bool (by simp), (X2.out.next hgq).below⟩
  · have D1 : Hid (decide ((m : Int) ≤ 100) = false) := by unfold Hid; simpa using h1
    go_enter Try.func3, Try.ntmps3
    go_wp2_with fail
    refine (HAW.out _).mono ?_
    rintro e w1 ⟨rfl, hb⟩
    have X1 := Lib.hid (X0.out.next hb)
    obtain ⟨hz1, p0, p1⟩ := X1.out.facts
    clear hb
    go_wp2_with fail
    refine (small_b (b := false) N A m c _ D1.out).mono ?_
    rintro e w2 ⟨rfl, hb⟩
    have X2 := Lib.hid (X1.out.next hb)
    clear hb
    go_wp2_with fail
    refine (HAW.out _).mono ?_
    rintro e w3 ⟨rfl, hb⟩
    go_wp2
    go_ret
    exact ⟨rfl, (X2.out.next hb).below⟩
end Go.Proofs.Ytfkpcmklpcnebaa
