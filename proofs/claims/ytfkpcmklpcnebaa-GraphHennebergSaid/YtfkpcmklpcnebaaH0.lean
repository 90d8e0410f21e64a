/-
  Henneberg of the program.
-/
import Derived.Test.YtfkpcmklpcnebaaG14
import Derived.Test.YtfkpcmklpcnebaaG10
namespace Go.Proofs.Ytfkpcmklpcnebaa
set_option linter.unusedVariables false
set_option linter.unusedSimpArgs false
open Go.RowKit Go.Sort
attribute [local go_sem ↓] Go.wp_at_zero Go.wp_at_succ

/-- The blocks at the head of Henneberg: the graph, the two points, the result. -/
def W4 (w : World) (N : Int) (A : Option Addr) (n c : Nat) (a b : Int) : World :=
  (((w.alloc (.cells #[.int .i64 N, .slice A n c] 24)).alloc (.cells #[.int .i64 a] 3)).alloc (.cells #[.int .i64 b] 3)).alloc (.cells #[.int .i64 0, .slice none 0 0] 24)
def GF (w : World) (N : Int) (A : Option Addr) (n c : Nat) (a b : Int) (w1 : World) : Prop := Below (w.heap.size + 4) (W4 w N A n c a b) w1
section
variable {w w1 w2 : World} {N : Int} {A : Option Addr} {n c : Nat} {a b : Int}
theorem frozen_at {w : World} {b : Nat} (hb : w.heap.size = b) (cs : Array Value) (t : TypeId) (j : Nat) : (w.alloc (.cells cs t)).frozen? ⟨b, j, none⟩ = false := by subst hb; simp
theorem GF.facts (hb : GF w N A n c a b w1) :
    w.heap.size + 4 ≤ w1.heap.size ∧ w1.cell? ⟨w.heap.size, 0, none⟩ = some (.int .i64 N) ∧ w1.cell? ⟨w.heap.size, 1, none⟩ = some (.slice A n c) ∧ w1.cell? ⟨w.heap.size + 3, 0, none⟩ = some (.int .i64 0) ∧ w1.cell? ⟨w.heap.size + 3, 1, none⟩ = some (.slice none 0 0) ∧
      w1.frozen? ⟨w.heap.size + 3, 0, none⟩ = false ∧ w1.frozen? ⟨w.heap.size + 3, 1, none⟩ = false ∧ w1.cell? ⟨w.heap.size + 1, 0, none⟩ = some (.int .i64 a) ∧ w1.cell? ⟨w.heap.size + 2, 0, none⟩ = some (.int .i64 b) := by
  have hs := hb.size
  unfold GF at hb
  unfold W4 at hs
  simp at hs
  have kk : ∀ {p : Addr} {v : Value}, p.block < w.heap.size + 4 → (W4 w N A n c a b).cell? p = some v → w1.cell? p = some v := fun hp h => by rw [Below.cell hb hp]; exact h
  have kf : ∀ {p : Addr}, p.block < w.heap.size + 4 → (W4 w N A n c a b).frozen? p = false → w1.frozen? p = false := fun hp h => by rw [Below.frozen hb hp]; exact h
  refine ⟨by omega, kk (by simp) ?_, kk (by simp) ?_, kk (by simp) ?_, kk (by simp) ?_, kf (by simp) ?_, kf (by simp) ?_, kk (by simp) ?_, kk (by simp) ?_⟩
  · exact Keeps.alloc _ _ _ _ (Keeps.alloc _ _ _ _ (Keeps.alloc _ _ _ _ (cell_at rfl _ _ 0 rfl)))
  · exact Keeps.alloc _ _ _ _ (Keeps.alloc _ _ _ _ (Keeps.alloc _ _ _ _ (cell_at rfl _ _ 1 rfl)))
  · exact cell_at (by simp) _ _ 0 rfl
  · exact cell_at (by simp) _ _ 1 rfl
  · exact frozen_at (by simp) _ _ 0
  · exact frozen_at (by simp) _ _ 1
  · exact Keeps.alloc _ _ _ _ (Keeps.alloc _ _ _ _ (cell_at (by simp) _ _ 0 rfl))
  · exact Keeps.alloc _ _ _ _ (cell_at (by simp) _ _ 0 rfl)
theorem GF.start : GF w N A n c a b (W4 w N A n c a b) := Below.refl _ _
theorem GF.next (hb : GF w N A n c a b w1) (h : Below w1.heap.size w1 w2) : GF w N A n c a b w2 := Below.trans hb (h.mono hb.facts.1)
theorem GF.next2 (hb : GF w N A n c a b w1) (h : Below (w.heap.size + 4) w1 w2) : GF w N A n c a b w2 := Below.trans hb h
theorem GF.below (hb : GF w N A n c a b w1) : Below w.heap.size w w1 :=
  (((((Below.refl _ _).alloc (Nat.le_refl _) _).alloc (by simp) _).alloc (by simp; omega) _).alloc (by simp; omega) _).trans (Below.mono hb (by omega))
end

theorem clone_n (A : Option Addr) (n c : Nat) (l : List (Int × Int)) (w : World) (he : Rd w 2 A n (prs l)) (hn : n ≤ 1000000) :
    Calls Try.prog 40 #[.slice A n c] w fun e w' => Below w.heap.size w w' ∧ ∃ B d, e = .returned (.slice B n d) ∧ Own w' w.heap.size 36 2 B n d (prs l) := by
  have hl := he.prs_len
  refine (clone_any A n c l w he hn).mono ?_
  rintro e w' ⟨h1, B, d, h2, h3⟩
  rw [hl] at h2 h3
  exact ⟨h1, B, d, h2, h3⟩
theorem hl_eq {N : Int} {es : List (Int × Int)} {a b s : Int} {n : Nat} {L : List (Int × Int)} (h : ∀ x, x ∈ L ↔ x ∈ hennL N es a b s) : mkL n L = mkL n (hennL N es a b s) := by
  refine strict_eq (mkL_strict _ _) (mkL_strict _ _) (fun x => ?_)
  rw [mem_mkL, mem_mkL, pairsB_iff, pairsB_iff, h, h]
theorem mem_neg {N : Int} {es : List (Int × Int)} {a b s : Int} (hs : s < 0) (x : Int × Int) : x ∈ es ++ [(a, N), (b, N)] ↔ x ∈ hennL N es a b s := by
  unfold hennL
  rw [if_neg (by omega)]
  have : es.filter (keepH a b s) = es := by rw [List.filter_eq_self]; intro e _; unfold keepH; rw [decide_eq_true hs]; rfl
  rw [this]
  simp only [List.mem_append, List.mem_cons, List.not_mem_nil, or_false]
  exact or_comm
theorem keep_is {N : Int} {a b s : Int} (hs : 0 ≤ s) {e : Int × Int} (he : e.1 < e.2) : keepH a b s e = !isE a b e := by
  unfold keepH pairsB isE edgeI
  rw [decide_eq_false (by omega), Bool.false_or]
  congr 1
  simp only [List.any_cons, List.any_nil, Bool.or_false]
  rw [Bool.eq_iff_iff]
  simp only [Bool.or_eq_true, Bool.and_eq_true, beq_iff_eq]
  omega
theorem mem_pos {N : Int} {es : List (Int × Int)} {a b s : Int} (hs : 0 ≤ s) (hends : ∀ e ∈ es, 0 ≤ e.1 ∧ e.1 < e.2 ∧ e.2 < N) (haN : a < N) (hbN : b < N) (x : Int × Int) : x ∈ delL a b (es ++ [(a, N), (b, N)]) ++ [(s, N)] ↔ x ∈ hennL N es a b s := by
  have h1 : delL a b (es ++ [(a, N), (b, N)]) = es.filter (keepH a b s) ++ [(a, N), (b, N)] := by
    unfold delL
    rw [List.filter_append]
    congr 1
    · apply List.filter_congr
      intro e he
      rw [keep_is (N := N) hs (hends e he).2.1]
    · rw [List.filter_eq_self]
      intro e he
      simp only [List.mem_cons, List.not_mem_nil, or_false] at he
      rcases he with rfl | rfl <;> (unfold isE edgeI; simp; omega)
  rw [h1]
  unfold hennL
  rw [if_pos hs]
  simp only [List.mem_append, List.mem_cons, List.not_mem_nil, or_false]
  constructor
  · rintro ((h | h) | h)
    · exact .inr h
    · exact .inl (.inl h)
    · exact .inl (.inr h)
  · rintro ((h | h) | h)
    · exact .inl (.inr h)
    · exact .inr h
    · exact .inl (.inl h)
theorem okE_same {N : Int} {L M : List (Int × Int)} (h : ∀ x, x ∈ L ↔ x ∈ M) : okE N L = okE N M := by
  unfold okE
  congr 1
  rw [Bool.eq_iff_iff]
  simp only [List.all_eq_true]
  exact ⟨fun k x hx => k x ((h x).2 hx), fun k x hx => k x ((h x).1 hx)⟩
theorem mkE_same {N : Int} {es L : List (Int × Int)} {a b s : Int} {r : Option (List (Int × Int))} (h : ∀ x, x ∈ L ↔ x ∈ hennL N es a b s) (hr : mkE (N + 1) (hennL N es a b s) = r) : mkE (N + 1) L = r := by
  rw [← hr]; unfold mkE; rw [okE_same h, hl_eq h]

end Go.Proofs.Ytfkpcmklpcnebaa
