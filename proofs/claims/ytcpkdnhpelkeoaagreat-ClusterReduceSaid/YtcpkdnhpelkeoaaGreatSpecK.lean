/-
  The valid graph with given edges, as a list: all pairs in order that the edges hold; a list in strict order is fixed by its members. Plain, no program in sight.
-/
import Derived.Test.YtcpkdnhpelkeoaaGreatSpecA
import Derived.Test.YtcpkdnhpelkeoaaGreatG1
namespace Go.Proofs.YtcpkdnhpelkeoaaGreat
set_option linter.unusedVariables false
set_option linter.unusedSimpArgs false

def lt2 (x y : Int × Int) : Prop := x.1 < y.1 ∨ x.1 = y.1 ∧ x.2 < y.2
theorem lt2_irrefl (x : Int × Int) : ¬ lt2 x x := by unfold lt2; omega
theorem lt2_asymm {x y : Int × Int} (h : lt2 x y) : ¬ lt2 y x := by unfold lt2 at *; omega
theorem strict_eq : ∀ {a b : List (Int × Int)}, a.Pairwise lt2 → b.Pairwise lt2 → (∀ x, x ∈ a ↔ x ∈ b) → a = b
  | [], [], _, _, _ => rfl
  | [], y :: b, _, _, h => by have := (h y).2 (by simp); simp at this
  | x :: a, [], _, _, h => by have := (h x).1 (by simp); simp at this
  | x :: a, y :: b, ha, hb, h => by
    rw [List.pairwise_cons] at ha hb
    have hxy : x = y := by
      rcases List.mem_cons.1 ((h x).1 (by simp)) with e | e
      · exact e
      · rcases List.mem_cons.1 ((h y).2 (by simp)) with e' | e'
        · exact e'.symm
        · exact absurd (ha.1 _ e') (lt2_asymm (hb.1 _ e))
    subst hxy
    have := strict_eq ha.2 hb.2 (fun z => by
      have hz := h z
      simp only [List.mem_cons] at hz
      constructor
      · intro hm
        rcases hz.1 (.inr hm) with e | e
        · subst e; exact absurd (ha.1 _ hm) (lt2_irrefl _)
        · exact e
      · intro hm
        rcases hz.2 (.inr hm) with e | e
        · subst e; exact absurd (hb.1 _ hm) (lt2_irrefl _)
        · exact e)
    rw [this]

/-- The edges from a to the points below b (from a + 1 on), in order. -/
def rowK (es : List (Int × Int)) (a b : Nat) : List (Int × Int) := ((List.range b).filter fun (j : Nat) => decide (a < j) && pairsB es (a : Int) (j : Int)).map fun (j : Nat) => ((a : Int), (j : Int))
/-- The edges from the points below k, in order. -/
def uptoK (es : List (Int × Int)) (n : Nat) : Nat → List (Int × Int)
  | 0 => []
  | k + 1 => uptoK es n k ++ rowK es k n
def mkL (n : Nat) (es : List (Int × Int)) : List (Int × Int) := uptoK es n n
theorem rowK_succ (es : List (Int × Int)) (a b : Nat) : rowK es a (b + 1) = rowK es a b ++ if (decide (a < b) && pairsB es a b) = true then [((a : Int), (b : Int))] else [] := by
  unfold rowK
  rw [List.range_succ, List.filter_append, List.map_append]
  congr 1
  simp only [List.filter_cons, List.filter_nil]
  by_cases h : (decide (a < b) && pairsB es a b) = true
  · rw [if_pos h, if_pos h]; rfl
  · rw [if_neg h, if_neg h]; rfl
theorem rowK_start (es : List (Int × Int)) (a b : Nat) (h : b ≤ a + 1) : rowK es a b = [] := by
  unfold rowK
  rw [List.map_eq_nil_iff, List.filter_eq_nil_iff]
  intro j hj
  rw [List.mem_range] at hj
  rw [decide_eq_false (by omega : ¬ a < j)]; simp
theorem mem_rowK {es : List (Int × Int)} {a b : Nat} {x : Int × Int} : x ∈ rowK es a b ↔ x.1 = a ∧ (a : Int) < x.2 ∧ x.2 < b ∧ pairsB es x.1 x.2 = true := by
  unfold rowK
  simp only [List.mem_map, List.mem_filter, List.mem_range, Bool.and_eq_true, decide_eq_true_eq]
  constructor
  · rintro ⟨j, ⟨h1, h2, h3⟩, rfl⟩
    exact ⟨rfl, by simpa using h2, by simpa using h1, h3⟩
  · rintro ⟨h1, h2, h3, h4⟩
    refine ⟨x.2.toNat, ⟨by omega, by omega, ?_⟩, ?_⟩
    · rw [Int.toNat_of_nonneg (by omega), ← h1]; exact h4
    · rw [Int.toNat_of_nonneg (by omega), ← h1]
theorem rowK_strict (es : List (Int × Int)) (a b : Nat) : (rowK es a b).Pairwise lt2 := by
  unfold rowK
  rw [List.pairwise_map]
  refine List.Pairwise.filter _ ?_
  exact (List.pairwise_lt_range (n := b)).imp fun h => .inr ⟨rfl, by simpa using h⟩
theorem mem_uptoK {es : List (Int × Int)} {n : Nat} {x : Int × Int} : ∀ k, x ∈ uptoK es n k ↔ 0 ≤ x.1 ∧ x.1 < k ∧ x.1 < x.2 ∧ x.2 < n ∧ pairsB es x.1 x.2 = true
  | 0 => by unfold uptoK; simp; omega
  | k + 1 => by
    unfold uptoK
    rw [List.mem_append, mem_uptoK k, mem_rowK]
    constructor
    · rintro (⟨h1, h2, h3, h4, h5⟩ | ⟨h1, h2, h3, h4⟩)
      · exact ⟨h1, by omega, h3, h4, h5⟩
      · exact ⟨by omega, by omega, by omega, h3, h4⟩
    · rintro ⟨h1, h2, h3, h4, h5⟩
      by_cases h : x.1 = k
      · exact .inr ⟨h, by omega, h4, h5⟩
      · exact .inl ⟨h1, by omega, h3, h4, h5⟩
theorem uptoK_strict (es : List (Int × Int)) (n : Nat) : ∀ k, (uptoK es n k).Pairwise lt2
  | 0 => by unfold uptoK; exact List.Pairwise.nil
  | k + 1 => by
    unfold uptoK
    rw [List.pairwise_append]
    refine ⟨uptoK_strict es n k, rowK_strict es k n, fun x hx y hy => ?_⟩
    rw [mem_uptoK] at hx
    rw [mem_rowK] at hy
    left; omega
theorem mkL_strict (n : Nat) (es : List (Int × Int)) : (mkL n es).Pairwise lt2 := uptoK_strict es n n
theorem mem_mkL {n : Nat} {es : List (Int × Int)} {x : Int × Int} : x ∈ mkL n es ↔ 0 ≤ x.1 ∧ x.1 < x.2 ∧ x.2 < n ∧ pairsB es x.1 x.2 = true := by
  unfold mkL; rw [mem_uptoK]
  constructor
  · rintro ⟨h1, h2, h3, h4, h5⟩; exact ⟨h1, h3, h4, h5⟩
  · rintro ⟨h1, h2, h3, h4⟩; exact ⟨h1, by omega, h2, h3, h4⟩
theorem pairsB_iff {es : List (Int × Int)} {a b : Int} : pairsB es a b = true ↔ (a, b) ∈ es ∨ (b, a) ∈ es := by
  unfold pairsB
  rw [List.any_eq_true]
  constructor
  · rintro ⟨⟨x, y⟩, h1, h2⟩
    simp at h2
    rcases h2 with ⟨rfl, rfl⟩ | ⟨rfl, rfl⟩
    · exact .inl h1
    · exact .inr h1
  · rintro (h | h)
    · exact ⟨_, h, by simp⟩
    · exact ⟨_, h, by simp⟩
end Go.Proofs.YtcpkdnhpelkeoaaGreat
