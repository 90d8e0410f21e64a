/-
  Plain functions of the sparsity layer: what right and Sparse answer, said of lists. No program stands in this text.
-/
import Derived.Test.YtcpkdnhpelkeoaaGreatSpecA
namespace Go.Proofs.YtcpkdnhpelkeoaaGreat
set_option linter.unusedVariables false
set_option linter.unusedSimpArgs false

/-- The edge whose tail is number k of a list for edge i: the edges themselves, then copies of edge i. -/
def edgeOf (es : List (Int × Int)) (i k : Nat) : Int × Int := if k < es.length then es.getD k (0, 0) else es.getD i (0, 0)
def tailAt (es : List (Int × Int)) (i : Nat) (l : List Int) (k : Nat) : Bool := decide (l.getD k 0 = (edgeOf es i k).1) || decide (l.getD k 0 = (edgeOf es i k).2)
def cnt (l : List Int) (v : Int) : Int := (l.count v : Nat)
def rightAt (es : List (Int × Int)) (i : Nat) (l : List Int) (k : Nat) : Bool := tailAt es i l k && decide (cnt (l.take (k + 1)) (l.getD k 0) ≤ 2)
def rightB (es : List (Int × Int)) (i : Nat) (l : List Int) : Bool := decide (l.length = es.length + 3) && (List.range l.length).all (rightAt es i l)

theorem cnt_nonneg (l : List Int) (v : Int) : 0 ≤ cnt l v := by unfold cnt; omega
theorem cnt_le (l : List Int) (v : Int) : cnt l v ≤ l.length := by
  unfold cnt; have := List.count_le_length (a := v) (l := l); omega
theorem cnt_nil (v : Int) : cnt [] v = 0 := rfl
theorem cnt_take (l : List Int) (k : Nat) (h : k < l.length) (v : Int) : cnt (l.take (k + 1)) v = cnt (l.take k) v + if l.getD k 0 = v then 1 else 0 := by
  unfold cnt
  rw [List.take_succ_eq_append_getElem h, List.count_append]
  simp only [List.getD_eq_getElem?_getD, List.getElem?_eq_getElem h, Option.getD_some, List.count_cons, List.count_nil, beq_iff_eq]
  split <;> simp
theorem cnt_mono (l : List Int) (k : Nat) (v : Int) : cnt (l.take k) v ≤ cnt l v := by
  unfold cnt
  have := (List.take_sublist k l).count_le v
  omega

theorem rightB_len {es : List (Int × Int)} {i : Nat} {l : List Int} (h : l.length ≠ es.length + 3) : rightB es i l = false := by simp [rightB, h]
theorem rightB_no {es : List (Int × Int)} {i : Nat} {l : List Int} {k : Nat} (hk : k < l.length) (h : rightAt es i l k = false) : rightB es i l = false := by
  unfold rightB
  have : (List.range l.length).all (rightAt es i l) = false := by
    rw [List.all_eq_false]; exact ⟨k, by simpa using hk, by simp [h]⟩
  simp [this]
theorem rightB_yes {es : List (Int × Int)} {i : Nat} {l : List Int} (hl : l.length = es.length + 3) (h : ∀ j, j < l.length → rightAt es i l j = true) : rightB es i l = true := by
  unfold rightB
  simp only [hl, decide_true, Bool.true_and, List.all_eq_true, List.mem_range]
  intro j hj; exact h j (by omega)
theorem rightAt_step {es : List (Int × Int)} {i : Nat} {l : List Int} {k : Nat} (h : ∀ j, j < k → rightAt es i l j = true) (hk : rightAt es i l k = true) : ∀ j, j < k + 1 → rightAt es i l j = true := fun j hj => by
  by_cases e : j = k
  · rw [e]; exact hk
  · exact h j (by omega)

theorem tailAt_no {es : List (Int × Int)} {i : Nat} {l : List Int} {k : Nat} {x y t : Int} (hx : (edgeOf es i k).1 = x) (hy : (edgeOf es i k).2 = y) (ht : l.getD k 0 = t) (h1 : ¬ t = x) (h2 : ¬ t = y) : tailAt es i l k = false := by
  unfold tailAt; rw [hx, hy, ht]; simp [h1, h2]
theorem tailAt_yes {es : List (Int × Int)} {i : Nat} {l : List Int} {k : Nat} {x y t : Int} (hx : (edgeOf es i k).1 = x) (hy : (edgeOf es i k).2 = y) (ht : l.getD k 0 = t) (h : t = x ∨ t = y) : tailAt es i l k = true := by
  unfold tailAt; rw [hx, hy, ht]; rcases h with h | h <;> simp [h]
theorem rightAt_of_no {es : List (Int × Int)} {i : Nat} {l : List Int} {k : Nat} (h : tailAt es i l k = false) : rightAt es i l k = false := by simp [rightAt, h]
theorem rightAt_of_yes {es : List (Int × Int)} {i : Nat} {l : List Int} {k : Nat} {t q : Int} (hk : k < l.length) (h : tailAt es i l k = true) (ht : l.getD k 0 = t) (hq : cnt (l.take k) t = q) : rightAt es i l k = decide (q + 1 ≤ 2) := by
  unfold rightAt
  rw [h, cnt_take l k hk, ht, if_pos rfl, hq]; simp

/-- In a valid graph the ends of each edge are points. -/
theorem validB_ends {N : Int} {es : List (Int × Int)} (h : validB N es = true) {k : Nat} (hk : k < es.length) :
    0 ≤ (es.getD k (0, 0)).1 ∧ (es.getD k (0, 0)).1 < (es.getD k (0, 0)).2 ∧ (es.getD k (0, 0)).2 < N := by
  have := ((validB_iff N es).1 h).2.2 k hk
  unfold okAt EAt at this
  simp only [Bool.and_eq_true, decide_eq_true_eq] at this
  exact ⟨this.1.1.1, this.1.1.2, this.1.2⟩
theorem edgeOf_ends {N : Int} {es : List (Int × Int)} (h : validB N es = true) {i k : Nat} (hi : i < es.length) : 0 ≤ (edgeOf es i k).1 ∧ (edgeOf es i k).1 < (edgeOf es i k).2 ∧ (edgeOf es i k).2 < N := by
  unfold edgeOf
  split
  · exact validB_ends h (by assumption)
  · exact validB_ends h hi
theorem edgeOf_lt {es : List (Int × Int)} {i k : Nat} (h : k < es.length) : edgeOf es i k = es.getD k (0, 0) := if_pos h
theorem edgeOf_ge {es : List (Int × Int)} {i k : Nat} (h : ¬ k < es.length) : edgeOf es i k = es.getD i (0, 0) := if_neg h
end Go.Proofs.YtcpkdnhpelkeoaaGreat
