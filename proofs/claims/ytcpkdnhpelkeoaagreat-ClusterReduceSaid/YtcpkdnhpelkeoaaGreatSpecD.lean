/-
  Points in ascending order, and how many edges they span. No program stands in this text.
-/
import Derived.Test.YtcpkdnhpelkeoaaGreatSpecC
namespace Go.Proofs.YtcpkdnhpelkeoaaGreat
set_option linter.unusedVariables false
set_option linter.unusedSimpArgs false

def ptsB (N : Int) (ps : List Int) : Bool := decide (2 ≤ ps.length) && (decide (0 ≤ ps.getD 0 0) && (decide (ps.getD (ps.length - 1) 0 < N) && (List.range (ps.length - 1)).all fun j => decide (ps.getD j 0 < ps.getD (j + 1) 0)))
def inB (ps : List Int) (e : Int × Int) : Bool := decide (e.1 ∈ ps) && decide (e.2 ∈ ps)
def spanI (es : List (Int × Int)) (ps : List Int) : Int := (es.countP (inB ps) : Nat)

theorem ptsB_short {N : Int} {ps : List Int} (h : ps.length < 2) : ptsB N ps = false := by
  unfold ptsB; rw [decide_eq_false (by omega)]; rfl
theorem ptsB_low {N : Int} {ps : List Int} (h : ps.getD 0 0 < 0) : ptsB N ps = false := by
  unfold ptsB; rw [decide_eq_false (by omega : ¬ 0 ≤ ps.getD 0 0)]; simp
theorem ptsB_high {N : Int} {ps : List Int} (h : N ≤ ps.getD (ps.length - 1) 0) : ptsB N ps = false := by
  unfold ptsB; rw [decide_eq_false (by omega : ¬ ps.getD (ps.length - 1) 0 < N)]; simp
theorem ptsB_no {N : Int} {ps : List Int} {j : Nat} (hj : j + 1 < ps.length) (h : ps.getD (j + 1) 0 ≤ ps.getD j 0) : ptsB N ps = false := by
  unfold ptsB
  have : ((List.range (ps.length - 1)).all fun j => decide (ps.getD j 0 < ps.getD (j + 1) 0)) = false := by
    rw [List.all_eq_false]; exact ⟨j, by simp; omega, by simp only [decide_eq_true_eq]; omega⟩
  rw [this, Bool.and_false, Bool.and_false, Bool.and_false]
theorem ptsB_yes {N : Int} {ps : List Int} (h0 : 2 ≤ ps.length) (h1 : 0 ≤ ps.getD 0 0) (h2 : ps.getD (ps.length - 1) 0 < N) (h : ∀ j, j + 1 < ps.length → ps.getD j 0 < ps.getD (j + 1) 0) : ptsB N ps = true := by
  unfold ptsB
  rw [decide_eq_true h0, decide_eq_true h1, decide_eq_true h2, Bool.true_and, Bool.true_and, Bool.true_and, List.all_eq_true]
  intro j hj
  rw [List.mem_range] at hj
  exact decide_eq_true (h j (by omega))
theorem spanI_step {es : List (Int × Int)} {ps : List Int} {k : Nat} {x y : Int} (hk : k < es.length) (hx : (es.getD k (0, 0)).1 = x) (hy : (es.getD k (0, 0)).2 = y) :
    spanI (es.take (k + 1)) ps = spanI (es.take k) ps + if x ∈ ps ∧ y ∈ ps then 1 else 0 := by
  unfold spanI
  rw [List.take_succ_eq_append_getElem hk, List.countP_append]
  have e : es.getD k (0, 0) = es[k] := by simp [List.getD_eq_getElem?_getD, List.getElem?_eq_getElem hk]
  rw [e] at hx hy
  have hb : inB ps es[k] = decide (x ∈ ps ∧ y ∈ ps) := by unfold inB; rw [hx, hy]; simp
  simp only [List.countP_cons, List.countP_nil, hb, decide_eq_true_eq]
  split <;> simp
theorem spanI_nonneg (es : List (Int × Int)) (ps : List Int) : 0 ≤ spanI es ps := by unfold spanI; omega
theorem spanI_le (es : List (Int × Int)) (ps : List Int) : spanI es ps ≤ es.length := by
  unfold spanI; have := List.countP_le_length (p := inB ps) (l := es); omega
theorem ptsB_iff {N : Int} {ps : List Int} : ptsB N ps = true ↔ 2 ≤ ps.length ∧ 0 ≤ ps.getD 0 0 ∧ ps.getD (ps.length - 1) 0 < N ∧ ∀ j, j + 1 < ps.length → ps.getD j 0 < ps.getD (j + 1) 0 := by
  unfold ptsB
  simp only [Bool.and_eq_true, decide_eq_true_eq, List.all_eq_true, List.mem_range]
  constructor
  · rintro ⟨a, b, c, d⟩; exact ⟨a, b, c, fun j hj => d j (by omega)⟩
  · rintro ⟨a, b, c, d⟩; exact ⟨a, b, c, fun j hj => d j (by omega)⟩
def exOk (N : Int) (es : List (Int × Int)) (ps : List Int) : Bool := validB N es && ptsB N ps
end Go.Proofs.YtcpkdnhpelkeoaaGreat
