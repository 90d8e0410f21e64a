/-
  A Henneberg step keeps a graph minimally rigid: lengths, and each set of points holds few edges.
-/
import Derived.Test.YtagcaljpgifppaaSpecR
import Derived.Test.YtagcaljpgifppaaMa
namespace Go.Proofs.Ytagcaljpgifppaa
set_option linter.unusedVariables false
set_option linter.unusedSimpArgs false
open Go.RowKit Go.Sort

theorem nodup_lt2 {l : List (Int × Int)} (h : l.Pairwise lt2) : l.Nodup := h.imp (fun {x y} h e => by subst e; exact lt2_irrefl _ h)
theorem mem_pairsB {l : List (Int × Int)} {a b : Int} : pairsB l a b = true ↔ (a, b) ∈ l ∨ (b, a) ∈ l := by
  unfold pairsB
  simp only [List.any_eq_true, Bool.or_eq_true, Bool.and_eq_true, beq_iff_eq]
  constructor
  · rintro ⟨⟨x, y⟩, h, h1 | h1⟩
    · obtain ⟨rfl, rfl⟩ := h1; exact .inl h
    · obtain ⟨rfl, rfl⟩ := h1; exact .inr h
  · rintro (h | h)
    · exact ⟨_, h, .inl ⟨rfl, rfl⟩⟩
    · exact ⟨_, h, .inr ⟨rfl, rfl⟩⟩
theorem mem_mkL_of {n : Nat} {L : List (Int × Int)} (h : ∀ e ∈ L, 0 ≤ e.1 ∧ e.1 < e.2 ∧ e.2 < (n : Int)) (x : Int × Int) : x ∈ mkL n L ↔ x ∈ L := by
  obtain ⟨p, q⟩ := x
  rw [mem_mkL, mem_pairsB]
  constructor
  · rintro ⟨h1, h2, h3, h4 | h4⟩
    · exact h4
    · have := h _ h4; simp only at this h2; omega
  · intro hx
    have := h _ hx
    exact ⟨this.1, this.2.1, this.2.2, .inl hx⟩

structure HennOk (N : Int) (es : List (Int × Int)) (a b s : Int) : Prop where
  v : validB N es = true
  a0 : 0 ≤ a
  a1 : a < N
  b0 : 0 ≤ b
  b1 : b < N
  ab : a ≠ b
  sp : 0 ≤ s → s < N ∧ s ≠ a ∧ s ≠ b ∧ hasE N es a b = true
theorem hennOk_of {N : Int} {es : List (Int × Int)} {a b s : Int} (h1 : hennBad1 N es a b = false) (h2 : hennBad2 N es a b s = false) : HennOk N es a b s := by
  obtain ⟨hv, ha, hb, hab⟩ := not_bad1 h1
  unfold hasB at ha hb
  simp at ha hb hab
  refine ⟨hv, ha.1, ha.2, hb.1, hb.2, hab, fun hs => ?_⟩
  unfold hennBad2 at h2
  rw [decide_eq_true hs] at h2
  simp only [Bool.true_and, Bool.or_eq_false_iff, Bool.not_eq_false', beq_eq_false_iff_ne] at h2
  obtain ⟨⟨⟨h3, h4⟩, h5⟩, h6⟩ := h2
  unfold hasB at h3
  simp at h3
  exact ⟨h3.2, h4, h5, h6⟩

theorem SpA.start : SpA [(0, 1)] := fun S h => by
  have := spanS_le [(0, 1)] S
  simp at this; omega
section
variable {N : Int} {es : List (Int × Int)} {a b s : Int}
theorem HennOk.ends (h : HennOk N es a b s) : ∀ e ∈ hennL N es a b s, 0 ≤ e.1 ∧ e.1 < e.2 ∧ e.2 < N + 1 := by
  intro e he
  unfold hennL at he
  rw [List.mem_append, List.mem_append] at he
  have := h.a0; have := h.a1; have := h.b0; have := h.b1
  rcases he with (he | he) | he
  · simp at he
    rcases he with rfl | rfl <;> simp <;> omega
  · by_cases hs : 0 ≤ s
    · rw [if_pos hs] at he
      simp at he
      subst he
      have := (h.sp hs).1
      simp; omega
    · rw [if_neg hs] at he; simp at he
  · have := ends_of h.v e (List.mem_filter.1 he).1
    omega
theorem HennOk.nodup (h : HennOk N es a b s) : (hennL N es a b s).Nodup := by
  unfold hennL
  rw [List.nodup_append]
  refine ⟨?_, (nodup_lt2 (valid_strict h.v)).filter _, ?_⟩
  · by_cases hs : 0 ≤ s
    · rw [if_pos hs]
      obtain ⟨-, h1, h2, -⟩ := h.sp hs
      simp [h.ab, h1.symm, h2.symm, Ne.symm h1, Ne.symm h2]
    · rw [if_neg hs]
      simp [h.ab]
  · intro x hx y hy e
    subst e
    have h1 := ends_of h.v x (List.mem_filter.1 hy).1
    have h2 : x.2 = N := by
      rw [List.mem_append] at hx
      rcases hx with hx | hx
      · simp at hx; rcases hx with rfl | rfl <;> rfl
      · by_cases hs : 0 ≤ s
        · rw [if_pos hs] at hx; simp at hx; subst hx; rfl
        · rw [if_neg hs] at hx; simp at hx
    omega
theorem HennOk.the_edge (h : HennOk N es a b s) (hs : 0 ≤ s) : ∃ x, x ∈ es ∧ (x = (a, b) ∨ x = (b, a)) ∧ ∀ e ∈ es, (keepH a b s e = false ↔ e = x) := by
  obtain ⟨-, -, -, he⟩ := h.sp hs
  have hen := ends_of h.v
  unfold hasE at he
  rw [h.v, Bool.true_and, mem_pairsB] at he
  obtain ⟨x, hx, hxe⟩ : ∃ x, x ∈ es ∧ (x = (a, b) ∨ x = (b, a)) := he.elim (fun h => ⟨_, h, .inl rfl⟩) (fun h => ⟨_, h, .inr rfl⟩)
  refine ⟨x, hx, hxe, fun e hee => ?_⟩
  have e1 := hen e hee
  have e2 := hen x hx
  obtain ⟨p, q⟩ := e
  unfold keepH
  rw [decide_eq_false (by omega : ¬ s < 0), Bool.false_or, Bool.not_eq_false', mem_pairsB]
  simp only [List.mem_singleton, Prod.mk.injEq]
  rcases hxe with rfl | rfl <;> simp only [Prod.mk.injEq] at * <;> constructor <;> intro h' <;> omega
/-- The removed edge counts once in each set that holds it. -/
theorem HennOk.filter_span (h : HennOk N es a b s) (hs : 0 ≤ s) (S : Nat) : spanS (es.filter (keepH a b s)) S + (if S.testBit a.toNat && S.testBit b.toNat then 1 else 0) = spanS es S := by
  obtain ⟨x, hx, hxe, hk⟩ := h.the_edge hs
  have hd := nodup_lt2 (valid_strict h.v)
  have h1 := List.countP_eq_countP_filter_add es (bothB S) (keepH a b s)
  have h2 : (es.filter fun e => !keepH a b s e).countP (bothB S) = if bothB S x = true then 1 else 0 := by
    rw [List.countP_filter]
    have e1 : es.countP (fun e => bothB S e && !keepH a b s e) = es.countP (fun e => e == x && bothB S x) := by
      refine List.countP_congr (fun e he => ?_)
      have := hk e he
      cases hke : keepH a b s e
      · have e2 := this.1 hke
        subst e2; simp
      · have e2 : e ≠ x := fun h' => by rw [this.2 h'] at hke; cases hke
        simp [e2]
    rw [e1]
    by_cases hb : bothB S x = true
    · rw [if_pos hb]
      simp only [hb, Bool.and_true]
      have := hd.count (a := x)
      rw [if_pos hx] at this
      exact this
    · rw [if_neg hb]
      simp [hb]
  have h3 : bothB S x = (S.testBit a.toNat && S.testBit b.toNat) := by
    unfold bothB
    rcases hxe with rfl | rfl
    · rfl
    · exact Bool.and_comm _ _
  rw [h3] at h2
  unfold spanS
  rw [h1, h2]
  split <;> simp
theorem HennOk.perm (h : HennOk N es a b s) : (mkL (N + 1).toNat (hennL N es a b s)).Perm (hennL N es a b s) := by
  have hN := (validB_iff N es).1 h.v
  have he : ∀ e ∈ hennL N es a b s, 0 ≤ e.1 ∧ e.1 < e.2 ∧ e.2 < (((N + 1).toNat : Nat) : Int) := fun e he => by
    have := h.ends e he; omega
  exact (List.perm_ext_iff_of_nodup (nodup_lt2 (mkL_strict _ _)) h.nodup).2 (mem_mkL_of he)
theorem HennOk.len (h : HennOk N es a b s) : (mkL (N + 1).toNat (hennL N es a b s)).length = es.length + 2 := by
  rw [h.perm.length_eq]
  unfold hennL
  rw [List.length_append, List.length_append]
  by_cases hs : 0 ≤ s
  · obtain ⟨x, hx, hxe, hk⟩ := h.the_edge hs
    have h1 := List.length_eq_countP_add_countP (keepH a b s) (l := es)
    rw [List.countP_eq_length_filter] at h1
    have h2 : es.countP (fun e => decide ¬keepH a b s e = true) = es.count x := by
      unfold List.count
      refine List.countP_congr (fun e he => ?_)
      have := hk e he
      simp only [decide_eq_true_eq, beq_iff_eq, Bool.not_eq_true]
      exact this
    rw [h2, (nodup_lt2 (valid_strict h.v)).count, if_pos hx] at h1
    rw [if_pos hs]; simp; omega
  · rw [if_neg hs]
    have : es.filter (keepH a b s) = es := by rw [List.filter_eq_self]; intro e _; unfold keepH; rw [decide_eq_true (by omega)]; rfl
    rw [this]; simp; omega
theorem HennOk.spa (h : HennOk N es a b s) (h60 : N < 60) (hs : SpA es) : SpA (mkL (N + 1).toNat (hennL N es a b s)) := by
  intro S hc
  have ha0 := h.a0; have ha1 := h.a1; have hb0 := h.b0; have hb1 := h.b1; have hab := h.ab
  have hen := ends_of h.v
  rw [spanS_perm h.perm]
  have e0 : spanS (hennL N es a b s) S = (if S.testBit a.toNat && S.testBit N.toNat then 1 else 0) + (if S.testBit b.toNat && S.testBit N.toNat then 1 else 0) + (if 0 ≤ s then (if S.testBit s.toNat && S.testBit N.toNat then 1 else 0) else 0) + spanS (es.filter (keepH a b s)) S := by
    unfold hennL
    have e1 : [(a, N), (b, N)] = [(a, N)] ++ [(b, N)] := rfl
    rw [spanS_app, spanS_app, e1, spanS_app, spanS_one, spanS_one]
    congr 2
    by_cases h0 : 0 ≤ s
    · rw [if_pos h0, if_pos h0, spanS_one]; rfl
    · rw [if_neg h0, if_neg h0]; rfl
  rw [e0]
  have hf := spanS_filter es (keepH a b s) S
  cases hN : S.testBit N.toNat
  · have := hs S hc
    simp only [Bool.and_false, if_false, Bool.false_eq_true]
    split <;> omega
  · simp only [Bool.and_true]
    have hNn : N.toNat < 60 := by omega
    have hcnt := cntB_drop hNn hN
    have hT : ∀ i, i ≠ N.toNat → (S ^^^ 2 ^ N.toNat).testBit i = S.testBit i := fun i hi => bit_drop hi
    have hsp : spanS es S = spanS es (S ^^^ 2 ^ N.toNat) := spanS_congr (fun e he => by
      have := hen e he
      unfold bothB
      rw [hT _ (by omega), hT _ (by omega)])
    have two : ∀ p q : Int, 0 ≤ p → p < N → 0 ≤ q → q < N → p ≠ q → S.testBit p.toNat = true → S.testBit q.toNat = true → 2 ≤ cntB 60 (S ^^^ 2 ^ N.toNat) := fun p q h1 h2 h3 h4 h5 h6 h7 =>
      cntB_two (p := p.toNat) (q := q.toNat) (by omega) (by omega) (by omega) (by rw [hT _ (by omega)]; exact h6) (by rw [hT _ (by omega)]; exact h7)
    have tab := two a b ha0 ha1 hb0 hb1 hab
    by_cases c2 : 2 ≤ cntB 60 (S ^^^ 2 ^ N.toNat)
    · have hb := hs _ c2
      rw [← hsp] at hb
      by_cases h0 : 0 ≤ s
      · have hfs := h.filter_span h0 S
        rw [if_pos h0]
        cases hA : S.testBit a.toNat <;> cases hB : S.testBit b.toNat <;> cases hS : S.testBit s.toNat <;> simp [hA, hB] at hfs ⊢ <;> omega
      · rw [if_neg h0]
        cases hA : S.testBit a.toNat <;> cases hB : S.testBit b.toNat <;> simp <;> omega
    · have hz : spanS es S = 0 := by
        rw [hsp]
        unfold spanS
        have : es.countP (bothB (S ^^^ 2 ^ N.toNat)) = 0 := by
          rw [List.countP_eq_zero]
          intro e he hbb
          have := hen e he
          unfold bothB at hbb
          rw [Bool.and_eq_true] at hbb
          exact c2 (cntB_two (p := e.1.toNat) (q := e.2.toNat) (by omega) (by omega) (by omega) hbb.1 hbb.2)
        rw [this]; rfl
      by_cases h0 : 0 ≤ s
      · obtain ⟨hs1, hsa, hsb, -⟩ := h.sp h0
        have tas := two a s ha0 ha1 h0 hs1 (Ne.symm hsa)
        have tbs := two b s hb0 hb1 h0 hs1 (Ne.symm hsb)
        rw [if_pos h0]
        cases hA : S.testBit a.toNat <;> cases hB : S.testBit b.toNat <;> cases hS : S.testBit s.toNat <;> simp [hA, hB, hS] at tab tas tbs ⊢ <;> omega
      · rw [if_neg h0]
        cases hA : S.testBit a.toNat <;> cases hB : S.testBit b.toNat <;> simp [hA, hB] at tab ⊢ <;> omega
end
end Go.Proofs.Ytagcaljpgifppaa
