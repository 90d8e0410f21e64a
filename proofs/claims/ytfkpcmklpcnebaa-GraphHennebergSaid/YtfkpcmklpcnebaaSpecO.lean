/-
  The graph with a further point: how many edges, and that removing the point restores the graph.
-/
import Derived.Test.YtfkpcmklpcnebaaLg5
import Derived.Test.YtfkpcmklpcnebaaH5
namespace Go.Proofs.Ytfkpcmklpcnebaa
set_option linter.unusedVariables false
set_option linter.unusedSimpArgs false
open Go.RowKit Go.Sort

theorem nodup_lt2 {l : List (Int × Int)} (h : l.Pairwise lt2) : l.Nodup := h.imp (fun {x y} h e => by subst e; exact lt2_irrefl _ h)
theorem mem_pairsB {l : List (Int × Int)} {a b : Int} : pairsB l a b = true ↔ (a, b) ∈ l ∨ (b, a) ∈ l := by
  unfold pairsB
  simp only [List.any_eq_true, Bool.or_eq_true, Bool.and_eq_true, beq_iff_eq]
  constructor
  · rintro ⟨⟨x, y⟩, h, h1 | h1⟩
    · obtain ⟨rfl, rfl⟩ := h1; exact .inl h
    · obtain ⟨rfl, rfl⟩ := h1; exact .inr h
  · rintro (h | h)
    · exact ⟨_, h, .inl ⟨rfl, rfl⟩⟩
    · exact ⟨_, h, .inr ⟨rfl, rfl⟩⟩
theorem mem_mkL_of {n : Nat} {L : List (Int × Int)} (h : ∀ e ∈ L, 0 ≤ e.1 ∧ e.1 < e.2 ∧ e.2 < (n : Int)) (x : Int × Int) : x ∈ mkL n L ↔ x ∈ L := by
  obtain ⟨p, q⟩ := x
  rw [mem_mkL, mem_pairsB]
  constructor
  · rintro ⟨h1, h2, h3, h4 | h4⟩
    · exact h4
    · have := h _ h4; simp only at this h2; omega
  · intro hx
    have := h _ hx
    exact ⟨this.1, this.2.1, this.2.2, .inl hx⟩

structure HennOk (N : Int) (es : List (Int × Int)) (a b s : Int) : Prop where
  v : validB N es = true
  a0 : 0 ≤ a
  a1 : a < N
  b0 : 0 ≤ b
  b1 : b < N
  ab : a ≠ b
  sp : 0 ≤ s → s < N ∧ s ≠ a ∧ s ≠ b ∧ hasE N es a b = true
theorem hennOk_of {N : Int} {es : List (Int × Int)} {a b s : Int} (h1 : hennBad1 N es a b = false) (h2 : hennBad2 N es a b s = false) : HennOk N es a b s := by
  obtain ⟨hv, ha, hb, hab⟩ := not_bad1 h1
  unfold hasB at ha hb
  simp at ha hb hab
  refine ⟨hv, ha.1, ha.2, hb.1, hb.2, hab, fun hs => ?_⟩
  unfold hennBad2 at h2
  rw [decide_eq_true hs] at h2
  simp only [Bool.true_and, Bool.or_eq_false_iff, Bool.not_eq_false', beq_eq_false_iff_ne] at h2
  obtain ⟨⟨⟨h3, h4⟩, h5⟩, h6⟩ := h2
  unfold hasB at h3
  simp at h3
  exact ⟨h3.2, h4, h5, h6⟩
section
variable {N : Int} {es : List (Int × Int)} {a b s : Int}
theorem HennOk.ends (h : HennOk N es a b s) : ∀ e ∈ hennL N es a b s, 0 ≤ e.1 ∧ e.1 < e.2 ∧ e.2 < N + 1 := by
  intro e he
  unfold hennL at he
  rw [List.mem_append, List.mem_append] at he
  have := h.a0; have := h.a1; have := h.b0; have := h.b1
  rcases he with (he | he) | he
  · simp at he
    rcases he with rfl | rfl <;> simp <;> omega
  · by_cases hs : 0 ≤ s
    · rw [if_pos hs] at he
      simp at he
      subst he
      have := (h.sp hs).1
      simp; omega
    · rw [if_neg hs] at he; simp at he
  · have := ends_of h.v e (List.mem_filter.1 he).1
    omega
theorem HennOk.nodup (h : HennOk N es a b s) : (hennL N es a b s).Nodup := by
  unfold hennL
  rw [List.nodup_append]
  refine ⟨?_, (nodup_lt2 (valid_strict h.v)).filter _, ?_⟩
  · by_cases hs : 0 ≤ s
    · rw [if_pos hs]
      obtain ⟨-, h1, h2, -⟩ := h.sp hs
      simp [h.ab, h1.symm, h2.symm, Ne.symm h1, Ne.symm h2]
    · rw [if_neg hs]
      simp [h.ab]
  · intro x hx y hy e
    subst e
    have h1 := ends_of h.v x (List.mem_filter.1 hy).1
    have h2 : x.2 = N := by
      rw [List.mem_append] at hx
      rcases hx with hx | hx
      · simp at hx; rcases hx with rfl | rfl <;> rfl
      · by_cases hs : 0 ≤ s
        · rw [if_pos hs] at hx; simp at hx; subst hx; rfl
        · rw [if_neg hs] at hx; simp at hx
    omega
theorem HennOk.filter_len (h : HennOk N es a b s) (hs : 0 ≤ s) : (es.filter (keepH a b s)).length + 1 = es.length := by
  obtain ⟨-, -, -, he⟩ := h.sp hs
  have hd := nodup_lt2 (valid_strict h.v)
  have hen := ends_of h.v
  unfold hasE at he
  rw [h.v, Bool.true_and, mem_pairsB] at he
  obtain ⟨x, hx, hxe⟩ : ∃ x, x ∈ es ∧ (x = (a, b) ∨ x = (b, a)) := he.elim (fun h => ⟨_, h, .inl rfl⟩) (fun h => ⟨_, h, .inr rfl⟩)
  have h1 := List.length_eq_countP_add_countP (keepH a b s) (l := es)
  rw [List.countP_eq_length_filter] at h1
  have h2 : es.countP (fun e => decide ¬keepH a b s e = true) = es.count x := by
    unfold List.count
    refine List.countP_congr (fun e hee => ?_)
    have e1 := hen e hee
    have e2 := hen x hx
    obtain ⟨p, q⟩ := e
    unfold keepH
    rw [decide_eq_false (by omega : ¬ s < 0), Bool.false_or]
    simp only [decide_eq_true_eq, Bool.not_eq_true', beq_iff_eq, Bool.not_eq_false]
    rw [mem_pairsB]
    simp only [List.mem_singleton, Prod.mk.injEq]
    rcases hxe with rfl | rfl <;> simp only [Prod.mk.injEq] at * <;> constructor <;> intro h' <;> omega
  rw [h2, hd.count, if_pos hx] at h1
  omega
theorem HennOk.len (h : HennOk N es a b s) : (mkL (N + 1).toNat (hennL N es a b s)).length = es.length + 2 := by
  have hN := (validB_iff N es).1 h.v
  have he : ∀ e ∈ hennL N es a b s, 0 ≤ e.1 ∧ e.1 < e.2 ∧ e.2 < (((N + 1).toNat : Nat) : Int) := fun e he => by
    have := h.ends e he; omega
  have hp := (List.perm_ext_iff_of_nodup (nodup_lt2 (mkL_strict _ _)) h.nodup).2 (mem_mkL_of he)
  rw [hp.length_eq]
  unfold hennL
  rw [List.length_append, List.length_append]
  by_cases hs : 0 ≤ s
  · have := h.filter_len hs
    rw [if_pos hs]; simp; omega
  · rw [if_neg hs]
    have : es.filter (keepH a b s) = es := by rw [List.filter_eq_self]; intro e _; unfold keepH; rw [decide_eq_true (by omega)]; rfl
    rw [this]; simp; omega
theorem HennOk.restore (h : HennOk N es a b s) (h60 : ¬ N = 60) (hs : s < 0) : remE (N + 1) (mkL (N + 1).toNat (hennL N es a b s)) N = (N, es) := by
  have hN := (validB_iff N es).1 h.v
  obtain ⟨n, rfl⟩ : ∃ n : Nat, N = n := ⟨N.toNat, by omega⟩
  have e1 : ((n : Int) + 1).toNat = n + 1 := by omega
  rw [e1]
  have he : ∀ e ∈ hennL n es a b s, 0 ≤ e.1 ∧ e.1 < e.2 ∧ e.2 < ((n + 1 : Nat) : Int) := fun e he => by
    have := h.ends e he; omega
  have hv : validB ((n : Int) + 1) (mkL (n + 1) (hennL n es a b s)) = true :=
    valid_of_strict (by omega) (by omega) (fun e hm => by have := he e ((mem_mkL_of he e).1 hm); omega) (mkL_strict _ _)
  have hh : hasB ((n : Int) + 1) n = true := by unfold hasB; simp; omega
  unfold remE
  rw [if_pos hv, if_pos hh]
  have e2 : (n : Int) + 1 - 1 = n := by omega
  rw [e2]
  congr 1
  unfold remL
  have e3 : ((mkL (n + 1) (hennL n es a b s)).filter fun e => !(e.1 == (n : Int) || e.2 == (n : Int))) = es := by
    refine strict_eq ((mkL_strict _ _).filter _) (valid_strict h.v) (fun x => ?_)
    rw [List.mem_filter, mem_mkL_of he, ← mem_neg hs, List.mem_append]
    constructor
    · rintro ⟨h1 | h1, h2⟩
      · exact h1
      · simp at h1
        rcases h1 with rfl | rfl <;> simp at h2
    · intro hx
      have := ends_of h.v x hx
      refine ⟨.inl hx, ?_⟩
      simp; omega
  rw [e3]
  have e4 : es.map (fun e => (lessI e.1 n, lessI e.2 n)) = es.map id := by
    refine List.map_congr_left (fun e hm => ?_)
    have := ends_of h.v e hm
    unfold lessI
    rw [if_neg (by omega), if_neg (by omega)]; rfl
  rw [e4, List.map_id]
end
end Go.Proofs.Ytfkpcmklpcnebaa
