/-
  A graph is sparse exactly if the tails can be chosen: the search finds them if they exist, and they exist if no points span too many edges. No program stands in this text.
-/
import Derived.Test.YtohmafmdpajmlaaSpecH
namespace Go.Proofs.Ytohmafmdpajmlaa
set_option linter.unusedVariables false
set_option linter.unusedSimpArgs false

/-- The tails t fit the edges L: each is an end of its edge. -/
def Fits (L : List (Int × Int)) (t : List Int) : Prop := t.length = L.length ∧ ∀ (k : Nat) (e : Int × Int) (x : Int), L[k]? = some e → t[k]? = some x → x = e.1 ∨ x = e.2
def other (e : Int × Int) (v : Int) : Int := if e.1 = v then e.2 else e.1

/-- From v a tail can be freed in k steps. -/
def Free (L : List (Int × Int)) (t : List Int) : Nat → Int → Prop
  | 0, v => t.count v < 2
  | k + 1, v => Free L t k v ∨ ∃ (j : Nat) (e : Int × Int), L[j]? = some e ∧ t[j]? = some v ∧ Free L t k (other e v)
theorem Free.mono {L : List (Int × Int)} {t : List Int} {k : Nat} {v : Int} (h : Free L t k v) : Free L t (k + 1) v := .inl h

theorem count_set' (t : List Int) (j : Nat) (w v x : Int) (hj : t[j]? = some x) : ((t.set j w).count v : Int) = t.count v - (if x = v then 1 else 0) + (if w = v then 1 else 0) := by
  induction t generalizing j with
  | nil => simp at hj
  | cons a t ih =>
    cases j with
    | zero =>
      simp at hj
      subst hj
      simp only [List.set_cons_zero, List.count_cons, beq_iff_eq]
      split <;> split <;> omega
    | succ j =>
      have := ih j (by simpa using hj)
      simp only [List.set_cons_succ, List.count_cons]
      omega

theorem free_step {L : List (Int × Int)} {t : List Int} (hf : Fits L t) (h2 : ∀ v, t.count v ≤ 2) : ∀ (k : Nat) (v : Int), Free L t k v →
    ∃ t', Fits L t' ∧ (∀ u, t'.count u ≤ 2) ∧ t'.count v ≤ 1 ∧ ∀ (j : Nat) (u : Int), t[j]? = some u → ¬ Free L t k u → t'[j]? = some u := by
  intro k
  induction k with
  | zero => intro v hv; exact ⟨t, hf, h2, by have h : t.count v < 2 := hv; omega, fun j u hu _ => hu⟩
  | succ k ih =>
    intro v hv
    by_cases hk : Free L t k v
    · obtain ⟨t', h1, h3, h4, h5⟩ := ih v hk
      exact ⟨t', h1, h3, h4, fun j u hu hn => h5 j u hu (fun hh => hn hh.mono)⟩
    · rcases hv with hv | ⟨j, e, hj, htj, hw⟩
      · exact absurd hv hk
      · obtain ⟨t', h1, h3, h4, h5⟩ := ih (other e v) hw
        have hj' := h5 j v htj hk
        have hne : other e v ≠ v := fun hh => hk (by rw [hh] at hw; exact hw)
        have hjl : j < t'.length := by
          rcases Nat.lt_or_ge j t'.length with h | h
          · exact h
          · rw [List.getElem?_eq_none h] at hj'; cases hj'
        have hc := fun u => count_set' t' j (other e v) u v hj'
        refine ⟨t'.set j (other e v), ⟨by rw [List.length_set]; exact h1.1, ?_⟩, ?_, ?_, ?_⟩
        · intro i e' x he' hx
          rw [List.getElem?_set] at hx
          by_cases hij : j = i
          · subst hij
            rw [if_pos rfl, if_pos hjl] at hx
            rw [hj] at he'
            injection he' with he'
            injection hx with hx
            subst he' hx
            unfold other
            split
            · exact .inr rfl
            · exact .inl rfl
          · rw [if_neg hij] at hx
            exact h1.2 i e' x he' hx
        · intro u
          have := hc u
          have h3u := h3 u
          by_cases e1 : other e v = u
          · subst e1; rw [if_neg (fun h => hne h.symm), if_pos rfl] at this; omega
          · rw [if_neg e1] at this; split at this <;> omega
        · have := hc v
          have h3v := h3 v
          rw [if_pos rfl, if_neg hne] at this
          omega
        · intro i u hu hn
          rw [List.getElem?_set]
          by_cases hij : j = i
          · subst hij
            rw [htj] at hu
            injection hu with hu
            subst hu
            exact absurd (.inr ⟨j, e, hj, htj, hw⟩) hn
          · rw [if_neg hij]
            exact h5 i u hu (fun hh => hn hh.mono)

theorem countP_sat (t : List Int) : ∀ V : List Int, V.Pairwise (· < ·) → (∀ v ∈ V, 2 ≤ t.count v) → 2 * V.length ≤ t.countP (fun x => decide (x ∈ V))
  | [], _, _ => by simp
  | v :: V, hp, h => by
    rw [List.pairwise_cons] at hp
    have ih := countP_sat t V hp.2 (fun u hu => h u (by simp [hu]))
    have hv := h v (by simp)
    have hn : v ∉ V := fun hh => by have := hp.1 v hh; omega
    have : t.countP (fun x => decide (x ∈ v :: V)) = t.count v + t.countP (fun x => decide (x ∈ V)) := by
      clear ih hv h hp
      have e0 : (fun x => decide (x ∈ v :: V)) = fun x => (decide (x = v) || decide (x ∈ V)) := by funext x; simp
      rw [e0]
      induction t with
      | nil => simp
      | cons a t ih =>
        rw [List.countP_cons, List.countP_cons, List.count_cons]
        by_cases e : a = v
        · subst e
          rw [decide_eq_false hn]
          simp only [decide_true, Bool.true_or, if_true, BEq.rfl, Bool.false_eq_true, if_false]
          omega
        · rw [decide_eq_false e, if_neg (by simpa using e : ¬ (a == v) = true)]
          simp only [Bool.false_or]
          omega
    rw [this, List.length_cons]; omega

open Classical in
/-- No points span more than twice their number of the edges: then tails exist. -/
theorem orient (n : Nat) : ∀ (L : List (Int × Int)), (∀ e ∈ L, 0 ≤ e.1 ∧ e.1 < n ∧ 0 ≤ e.2 ∧ e.2 < n) →
    (∀ V : List Int, V.Pairwise (· < ·) → (∀ v ∈ V, 0 ≤ v ∧ v < n) → L.countP (inB V) ≤ 2 * V.length) → ∃ t, Fits L t ∧ ∀ v, t.count v ≤ 2 := by
  intro L
  induction hL : L.length generalizing L with
  | zero =>
    intro _ _
    have : L = [] := List.eq_nil_of_length_eq_zero hL
    subst this
    exact ⟨[], ⟨rfl, fun k e x h => by simp at h⟩, fun v => by simp⟩
  | succ m ih =>
    intro hends hV
    have hne : L ≠ [] := by intro h; rw [h] at hL; simp at hL
    obtain ⟨L0, e, rfl⟩ : ∃ L0 e, L = L0 ++ [e] := ⟨L.dropLast, L.getLast hne, (List.dropLast_concat_getLast hne).symm⟩
    have hlen : L0.length = m := by simpa using hL
    obtain ⟨t, hf, h2⟩ := ih L0 hlen (fun e' he' => hends e' (by simp [he'])) (fun V hp hv => by
      have := hV V hp hv
      rw [List.countP_append] at this
      omega)
    have he := hends e (by simp)
    have push : ∀ (t' : List Int) (v : Int), Fits L0 t' → (∀ u, t'.count u ≤ 2) → t'.count v ≤ 1 → (v = e.1 ∨ v = e.2) → ∃ t, Fits (L0 ++ [e]) t ∧ ∀ v, t.count v ≤ 2 := by
      intro t' v hf' h2' h1' hv
      refine ⟨t' ++ [v], ⟨by simp [hf'.1], ?_⟩, ?_⟩
      · intro k e' x h3 h4
        rw [List.getElem?_append] at h3 h4
        have hll := hf'.1
        by_cases hk : k < L0.length
        · rw [if_pos hk] at h3
          rw [if_pos (by omega)] at h4
          exact hf'.2 k e' x h3 h4
        · rw [if_neg hk] at h3
          rw [if_neg (by omega)] at h4
          have hk0 : k - L0.length = 0 := by
            rcases Nat.eq_zero_or_pos (k - L0.length) with h | h
            · exact h
            · rw [List.getElem?_eq_none (by simp; omega)] at h3; cases h3
          rw [hk0] at h3
          rw [hll, hk0] at h4
          simp at h3 h4
          subst h3 h4
          exact hv
      · intro u
        rw [List.count_append]
        have := h2' u
        by_cases e1 : v = u
        · subst e1; simp; omega
        · simp [e1]; omega
    by_cases ha : ∃ k, Free L0 t k e.1
    · obtain ⟨k, hk⟩ := ha
      obtain ⟨t', h1, h3, h4, _⟩ := free_step hf h2 k _ hk
      exact push t' e.1 h1 h3 h4 (.inl rfl)
    by_cases hb : ∃ k, Free L0 t k e.2
    · obtain ⟨k, hk⟩ := hb
      obtain ⟨t', h1, h3, h4, _⟩ := free_step hf h2 k _ hk
      exact push t' e.2 h1 h3 h4 (.inr rfl)
    exfalso
    let V : List Int := ((List.range n).filter fun (i : Nat) => decide (¬ ∃ k, Free L0 t k (i : Int))).map fun (i : Nat) => (i : Int)
    have memV : ∀ x : Int, x ∈ V ↔ 0 ≤ x ∧ x < n ∧ ¬ ∃ k, Free L0 t k x := by
      intro x
      show x ∈ List.map _ _ ↔ _
      rw [List.mem_map]
      constructor
      · rintro ⟨i, hi, rfl⟩
        rw [List.mem_filter, List.mem_range, decide_eq_true_eq] at hi
        exact ⟨by omega, by omega, hi.2⟩
      · rintro ⟨h0, h1, h3⟩
        refine ⟨x.toNat, ?_, by omega⟩
        rw [List.mem_filter, List.mem_range, decide_eq_true_eq]
        refine ⟨by omega, ?_⟩
        rw [show ((x.toNat : Nat) : Int) = x by omega]; exact h3
    have hpw : V.Pairwise (· < ·) := by
      show (List.map _ _).Pairwise _
      rw [List.pairwise_map]
      exact (List.pairwise_lt_range.filter _).imp (fun h => by omega)
    have hsat := countP_sat t V hpw (fun v hv => by
      have := (memV v).1 hv
      rcases Nat.lt_or_ge (t.count v) 2 with h | h
      · exact absurd ⟨0, h⟩ this.2.2
      · exact h)
    have hin : t.countP (fun x => decide (x ∈ V)) ≤ L0.countP (inB V) := by
      apply countP_le_of_at
      · exact hf.1
      · intro k x e' hx he' hxV
        rw [decide_eq_true_eq] at hxV
        have hx2 := (memV x).1 hxV
        have hmem : e' ∈ L0 := List.mem_of_getElem? he'
        have hen := hends e' (by simp [hmem])
        have hoth : other e' x ∈ V := by
          rw [memV]
          refine ⟨?_, ?_, ?_⟩
          · unfold other; split <;> omega
          · unfold other; split <;> omega
          · rintro ⟨i, hi⟩; exact hx2.2.2 ⟨i + 1, .inr ⟨k, e', he', hx, hi⟩⟩
        unfold inB
        simp only [Bool.and_eq_true, decide_eq_true_eq]
        rcases hf.2 k e' x he' hx with h | h
        · subst h
          unfold other at hoth
          rw [if_pos rfl] at hoth
          exact ⟨hxV, hoth⟩
        · by_cases h' : e'.1 = x
          · unfold other at hoth
            rw [if_pos h'] at hoth
            rw [h']; exact ⟨hxV, hoth⟩
          · unfold other at hoth
            rw [if_neg h'] at hoth
            rw [← h]; exact ⟨hoth, hxV⟩
    have heV : inB V e = true := by
      unfold inB
      simp only [Bool.and_eq_true, decide_eq_true_eq]
      exact ⟨(memV _).2 ⟨he.1, he.2.1, ha⟩, (memV _).2 ⟨he.2.2.1, he.2.2.2, hb⟩⟩
    have hfin := hV V hpw (fun v hv => by have := (memV v).1 hv; exact ⟨this.1, this.2.1⟩)
    rw [List.countP_append] at hfin
    simp [heV] at hfin
    omega
end Go.Proofs.Ytohmafmdpajmlaa
