/-
  PebbleIndependent: the walk of the statement.
-/
import Derived.Test.YtagcaljpgifppaaMc
namespace Go.Proofs.Ytagcaljpgifppaa
set_option linter.unusedVariables false
set_option linter.unusedSimpArgs false
open Go.RowKit Go.Sort
attribute [local go_sem ↓] Go.wp_at_zero Go.wp_at_succ

/-- What a world behind the boxing of the graph keeps. -/
def BX (w : World) (N : Int) (A : Option Addr) (m c : Nat) (w1 : World) : Prop := Below (w.heap.size + 1) (w.alloc (.cells #[.int .i64 N, .slice A m c] 24)) w1
section
variable {w w1 w2 : World} {N : Int} {A : Option Addr} {m c : Nat}
theorem BX.start : BX w N A m c (w.alloc (.cells #[.int .i64 N, .slice A m c] 24)) := Below.refl _ _
theorem BX.facts (h : BX w N A m c w1) : w.heap.size < w1.heap.size ∧ w1.cell? ⟨w.heap.size, 0, none⟩ = some (.int .i64 N) ∧ w1.cell? ⟨w.heap.size, 1, none⟩ = some (.slice A m c) := by
  have hs := h.size
  simp at hs
  exact ⟨by omega, by rw [Below.cell h (by simp)]; simp, by rw [Below.cell h (by simp)]; simp⟩
theorem BX.next (h : BX w N A m c w1) (hb : Below w1.heap.size w1 w2) : BX w N A m c w2 := Below.trans h (hb.mono h.facts.1)
theorem BX.drew (h : BX w N A m c w1) : BX w N A m c w1.drew := h.next ((Below.refl _ _).drew)
theorem BX.below (h : BX w N A m c w1) : Below w.heap.size w w1 := ((Below.refl _ _).alloc (Nat.le_refl _) _).trans (Below.mono h (by omega))
theorem BX.keeps (h : BX w N A m c w1) : Keeps w w1 := Keeps.of_below h.below (Nat.le_refl _)
end
theorem few_b {b : Bool} (N : Int) (A : Option Addr) (n c : Nat) (w : World) (hb : (decide (N ≤ 8) && decide ((n : Int) ≤ 20)) = b) :
    Calls Try.prog 16 #[.agg #[.int .i64 N, .slice A n c]] w fun e w' => e = .returned (.bool b) ∧ Below w.heap.size w w' := by
  subst hb; exact few_any N A n c w
theorem pind_l {N : Int} (L : List Int) (l : Nat) (A : Option Addr) (m c : Nat) (es : List (Int × Int)) (w : World) (hm : m ≤ 100000) (he : Rd w 2 A m (prs es)) (hL : indE' N es = L) (hl : L.length = l) :
    Calls Try.prog 34 #[.agg #[.int .i64 N, .slice A m c]] w fun e w' => Below w.heap.size w w' ∧ ∃ B d, e = .returned (.slice B l d) ∧ Rd w' 1 B l (ints L) := by
  subst hl hL
  refine (pind_any N A m c es w hm he).mono ?_
  rintro e w' ⟨hb, B, d, rfl, ho⟩
  exact ⟨hb, B, d, rfl, ho.rd⟩
theorem prigid_b {b : Bool} (N : Int) (A : Option Addr) (m c : Nat) (es : List (Int × Int)) (w : World) (hm : m ≤ 100000) (he : Rd w 2 A m (prs es)) (hb : rigidE N es = b) :
    Calls Try.prog 23 #[.agg #[.int .i64 N, .slice A m c]] w fun e w' => e = .returned (.bool b) ∧ Below w.heap.size w w' := by
  subst hb; exact prigid_any N A m c es w hm he
theorem rigid_eq {n rk : Nat} {es : List (Int × Int)} (hv : validB n es = true) (hk : rankE es = rk) : rigidE n es = rigid34 n rk := by
  unfold rigidE rigid34 freeE
  rw [if_pos hv, hv, hk, Bool.true_and]
theorem free_eq {n rk : Nat} {es : List (Int × Int)} (hv : validB n es = true) (hk : rankE es = rk) : freeE n es = 2 * (n : Int) - (rk : Int) := by
  unfold freeE
  rw [if_pos hv, hk]
theorem indE'_no {N : Int} {es : List (Int × Int)} (hv : validB N es = false) : indE' N es = [] := by unfold indE'; rw [if_neg (by rw [hv]; simp)]
theorem freeE_no {N : Int} {es : List (Int × Int)} (hv : validB N es = false) : freeE N es = 0 := by unfold freeE; rw [if_neg (by rw [hv]; simp)]
theorem rigidE_no {N : Int} {es : List (Int × Int)} (hv : validB N es = false) : rigidE N es = false := by unfold rigidE; rw [hv, Bool.false_and]

end Go.Proofs.Ytagcaljpgifppaa
