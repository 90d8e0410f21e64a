/-
  The reference of the sparsity layer: joined texts.
-/
import Derived.Test.YtagcaljpgifppaaSpecH
import Derived.Test.YtagcaljpgifppaaW2
import Derived.Test.YtagcaljpgifppaaSpecE
import Derived.Laws.BitsAllLaws
import Derived.Test.YtagcaljpgifppaaSpecG
import Derived.Test.YtagcaljpgifppaaMw
import Derived.Test.YtagcaljpgifppaaApp
import Derived.Test.YtagcaljpgifppaaOwnL
import Derived.Deep.RegionLaw
import Derived.Test.YtagcaljpgifppaaOpen
namespace Go.Proofs.Ytagcaljpgifppaa
set_option linter.unusedVariables false
set_option linter.unusedSimpArgs false

/-- The tails t fit the edges L: each is an end of its edge. -/
def Fits (L : List (Int × Int)) (t : List Int) : Prop := t.length = L.length ∧ ∀ (k : Nat) (e : Int × Int) (x : Int), L[k]? = some e → t[k]? = some x → x = e.1 ∨ x = e.2
def other (e : Int × Int) (v : Int) : Int := if e.1 = v then e.2 else e.1

/-- From v a tail can be freed in k steps. -/
def Free (L : List (Int × Int)) (t : List Int) : Nat → Int → Prop
  | 0, v => t.count v < 2
  | k + 1, v => Free L t k v ∨ ∃ (j : Nat) (e : Int × Int), L[j]? = some e ∧ t[j]? = some v ∧ Free L t k (other e v)
theorem Free.mono {L : List (Int × Int)} {t : List Int} {k : Nat} {v : Int} (h : Free L t k v) : Free L t (k + 1) v := .inl h

theorem count_set' (t : List Int) (j : Nat) (w v x : Int) (hj : t[j]? = some x) : ((t.set j w).count v : Int) = t.count v - (if x = v then 1 else 0) + (if w = v then 1 else 0) := by
  induction t generalizing j with
  | nil => simp at hj
  | cons a t ih =>
    cases j with
    | zero =>
      simp at hj
      subst hj
      simp only [List.set_cons_zero, List.count_cons, beq_iff_eq]
      split <;> split <;> omega
    | succ j =>
      have := ih j (by simpa using hj)
      simp only [List.set_cons_succ, List.count_cons]
      omega

theorem free_step {L : List (Int × Int)} {t : List Int} (hf : Fits L t) (h2 : ∀ v, t.count v ≤ 2) : ∀ (k : Nat) (v : Int), Free L t k v →
    ∃ t', Fits L t' ∧ (∀ u, t'.count u ≤ 2) ∧ t'.count v ≤ 1 ∧ ∀ (j : Nat) (u : Int), t[j]? = some u → ¬ Free L t k u → t'[j]? = some u := by
  intro k
  induction k with
  | zero => intro v hv; exact ⟨t, hf, h2, by have h : t.count v < 2 := hv; omega, fun j u hu _ => hu⟩
  | succ k ih =>
    intro v hv
    by_cases hk : Free L t k v
    · obtain ⟨t', h1, h3, h4, h5⟩ := ih v hk
      exact ⟨t', h1, h3, h4, fun j u hu hn => h5 j u hu (fun hh => hn hh.mono)⟩
    · rcases hv with hv | ⟨j, e, hj, htj, hw⟩
      · exact absurd hv hk
      · obtain ⟨t', h1, h3, h4, h5⟩ := ih (other e v) hw
        have hj' := h5 j v htj hk
        have hne : other e v ≠ v := fun hh => hk (by rw [hh] at hw; exact hw)
        have hjl : j < t'.length := by
          rcases Nat.lt_or_ge j t'.length with h | h
          · exact h
          · rw [List.getElem?_eq_none h] at hj'; cases hj'
        have hc := fun u => count_set' t' j (other e v) u v hj'
        refine ⟨t'.set j (other e v), ⟨by rw [List.length_set]; exact h1.1, ?_⟩, ?_, ?_, ?_⟩
        · intro i e' x he' hx
          rw [List.getElem?_set] at hx
          by_cases hij : j = i
          · subst hij
            rw [if_pos rfl, if_pos hjl] at hx
            rw [hj] at he'
            injection he' with he'
            injection hx with hx
            subst he' hx
            unfold other
            split
            · exact .inr rfl
            · exact .inl rfl
          · rw [if_neg hij] at hx
            exact h1.2 i e' x he' hx
        · intro u
          have := hc u
          have h3u := h3 u
          by_cases e1 : other e v = u
          · subst e1; rw [if_neg (fun h => hne h.symm), if_pos rfl] at this; omega
          · rw [if_neg e1] at this; split at this <;> omega
        · have := hc v
          have h3v := h3 v
          rw [if_pos rfl, if_neg hne] at this
          omega
        · intro i u hu hn
          rw [List.getElem?_set]
          by_cases hij : j = i
          · subst hij
            rw [htj] at hu
            injection hu with hu
            subst hu
            exact absurd (.inr ⟨j, e, hj, htj, hw⟩) hn
          · rw [if_neg hij]
            exact h5 i u hu (fun hh => hn hh.mono)

theorem countP_sat (t : List Int) : ∀ V : List Int, V.Pairwise (· < ·) → (∀ v ∈ V, 2 ≤ t.count v) → 2 * V.length ≤ t.countP (fun x => decide (x ∈ V))
  | [], _, _ => by simp
  | v :: V, hp, h => by
    rw [List.pairwise_cons] at hp
    have ih := countP_sat t V hp.2 (fun u hu => h u (by simp [hu]))
    have hv := h v (by simp)
    have hn : v ∉ V := fun hh => by have := hp.1 v hh; omega
    have : t.countP (fun x => decide (x ∈ v :: V)) = t.count v + t.countP (fun x => decide (x ∈ V)) := by
      clear ih hv h hp
      have e0 : (fun x => decide (x ∈ v :: V)) = fun x => (decide (x = v) || decide (x ∈ V)) := by funext x; simp
      rw [e0]
      induction t with
      | nil => simp
      | cons a t ih =>
        rw [List.countP_cons, List.countP_cons, List.count_cons]
        by_cases e : a = v
        · subst e
          rw [decide_eq_false hn]
          simp only [decide_true, Bool.true_or, if_true, BEq.rfl, Bool.false_eq_true, if_false]
          omega
        · rw [decide_eq_false e, if_neg (by simpa using e : ¬ (a == v) = true)]
          simp only [Bool.false_or]
          omega
    rw [this, List.length_cons]; omega

open Classical in
/-- No points span more than twice their number of the edges: then tails exist. -/
theorem orient (n : Nat) : ∀ (L : List (Int × Int)), (∀ e ∈ L, 0 ≤ e.1 ∧ e.1 < n ∧ 0 ≤ e.2 ∧ e.2 < n) →
    (∀ V : List Int, V.Pairwise (· < ·) → (∀ v ∈ V, 0 ≤ v ∧ v < n) → L.countP (inB V) ≤ 2 * V.length) → ∃ t, Fits L t ∧ ∀ v, t.count v ≤ 2 := by
  intro L
  induction hL : L.length generalizing L with
  | zero =>
    intro _ _
    have : L = [] := List.eq_nil_of_length_eq_zero hL
    subst this
    exact ⟨[], ⟨rfl, fun k e x h => by simp at h⟩, fun v => by simp⟩
  | succ m ih =>
    intro hends hV
    have hne : L ≠ [] := by intro h; rw [h] at hL; simp at hL
    obtain ⟨L0, e, rfl⟩ : ∃ L0 e, L = L0 ++ [e] := ⟨L.dropLast, L.getLast hne, (List.dropLast_concat_getLast hne).symm⟩
    have hlen : L0.length = m := by simpa using hL
    obtain ⟨t, hf, h2⟩ := ih L0 hlen (fun e' he' => hends e' (by simp [he'])) (fun V hp hv => by
      have := hV V hp hv
      rw [List.countP_append] at this
      omega)
    have he := hends e (by simp)
    have push : ∀ (t' : List Int) (v : Int), Fits L0 t' → (∀ u, t'.count u ≤ 2) → t'.count v ≤ 1 → (v = e.1 ∨ v = e.2) → ∃ t, Fits (L0 ++ [e]) t ∧ ∀ v, t.count v ≤ 2 := by
      intro t' v hf' h2' h1' hv
      refine ⟨t' ++ [v], ⟨by simp [hf'.1], ?_⟩, ?_⟩
      · intro k e' x h3 h4
        rw [List.getElem?_append] at h3 h4
        have hll := hf'.1
        by_cases hk : k < L0.length
        · rw [if_pos hk] at h3
          rw [if_pos (by omega)] at h4
          exact hf'.2 k e' x h3 h4
        · rw [if_neg hk] at h3
          rw [if_neg (by omega)] at h4
          have hk0 : k - L0.length = 0 := by
            rcases Nat.eq_zero_or_pos (k - L0.length) with h | h
            · exact h
            · rw [List.getElem?_eq_none (by simp; omega)] at h3; cases h3
          rw [hk0] at h3
          rw [hll, hk0] at h4
          simp at h3 h4
          subst h3 h4
          exact hv
      · intro u
        rw [List.count_append]
        have := h2' u
        by_cases e1 : v = u
        · subst e1; simp; omega
        · simp [e1]; omega
    by_cases ha : ∃ k, Free L0 t k e.1
    · obtain ⟨k, hk⟩ := ha
      obtain ⟨t', h1, h3, h4, _⟩ := free_step hf h2 k _ hk
      exact push t' e.1 h1 h3 h4 (.inl rfl)
    by_cases hb : ∃ k, Free L0 t k e.2
    · obtain ⟨k, hk⟩ := hb
      obtain ⟨t', h1, h3, h4, _⟩ := free_step hf h2 k _ hk
      exact push t' e.2 h1 h3 h4 (.inr rfl)
    exfalso
    let V : List Int := ((List.range n).filter fun (i : Nat) => decide (¬ ∃ k, Free L0 t k (i : Int))).map fun (i : Nat) => (i : Int)
    have memV : ∀ x : Int, x ∈ V ↔ 0 ≤ x ∧ x < n ∧ ¬ ∃ k, Free L0 t k x := by
      intro x
      show x ∈ List.map _ _ ↔ _
      rw [List.mem_map]
      constructor
      · rintro ⟨i, hi, rfl⟩
        rw [List.mem_filter, List.mem_range, decide_eq_true_eq] at hi
        exact ⟨by omega, by omega, hi.2⟩
      · rintro ⟨h0, h1, h3⟩
        refine ⟨x.toNat, ?_, by omega⟩
        rw [List.mem_filter, List.mem_range, decide_eq_true_eq]
        refine ⟨by omega, ?_⟩
        rw [show ((x.toNat : Nat) : Int) = x by omega]; exact h3
    have hpw : V.Pairwise (· < ·) := by
      show (List.map _ _).Pairwise _
      rw [List.pairwise_map]
      exact (List.pairwise_lt_range.filter _).imp (fun h => by omega)
    have hsat := countP_sat t V hpw (fun v hv => by
      have := (memV v).1 hv
      rcases Nat.lt_or_ge (t.count v) 2 with h | h
      · exact absurd ⟨0, h⟩ this.2.2
      · exact h)
    have hin : t.countP (fun x => decide (x ∈ V)) ≤ L0.countP (inB V) := by
      apply countP_le_of_at
      · exact hf.1
      · intro k x e' hx he' hxV
        rw [decide_eq_true_eq] at hxV
        have hx2 := (memV x).1 hxV
        have hmem : e' ∈ L0 := List.mem_of_getElem? he'
        have hen := hends e' (by simp [hmem])
        have hoth : other e' x ∈ V := by
          rw [memV]
          refine ⟨?_, ?_, ?_⟩
          · unfold other; split <;> omega
          · unfold other; split <;> omega
          · rintro ⟨i, hi⟩; exact hx2.2.2 ⟨i + 1, .inr ⟨k, e', he', hx, hi⟩⟩
        unfold inB
        simp only [Bool.and_eq_true, decide_eq_true_eq]
        rcases hf.2 k e' x he' hx with h | h
        · subst h
          unfold other at hoth
          rw [if_pos rfl] at hoth
          exact ⟨hxV, hoth⟩
        · by_cases h' : e'.1 = x
          · unfold other at hoth
            rw [if_pos h'] at hoth
            rw [h']; exact ⟨hxV, hoth⟩
          · unfold other at hoth
            rw [if_neg h'] at hoth
            rw [← h]; exact ⟨hoth, hxV⟩
    have heV : inB V e = true := by
      unfold inB
      simp only [Bool.and_eq_true, decide_eq_true_eq]
      exact ⟨(memV _).2 ⟨he.1, he.2.1, ha⟩, (memV _).2 ⟨he.2.2.1, he.2.2.2, hb⟩⟩
    have hfin := hV V hpw (fun v hv => by have := (memV v).1 hv; exact ⟨this.1, this.2.1⟩)
    rw [List.countP_append] at hfin
    simp [heV] at hfin
    omega
end Go.Proofs.Ytagcaljpgifppaa

namespace Go.Proofs.Ytagcaljpgifppaa
set_option linter.unusedVariables false
set_option linter.unusedSimpArgs false

def bump (out : List Int) (v : Int) : List Int := out.set v.toNat (out.getD v.toNat 0 + 1)
/-- The search: the edges that are still to come, how often each point is a tail, the tails so far. -/
def findR : List (Int × Int) → List Int → List Int → Option (List Int)
  | [], _, tails => some tails
  | e :: rest, out, tails =>
    match (if out.getD e.1.toNat 0 < 2 then findR rest (bump out e.1) (tails ++ [e.1]) else none) with
    | some l => some l
    | none => if out.getD e.2.toNat 0 < 2 then findR rest (bump out e.2) (tails ++ [e.2]) else none

def InN (n : Nat) (e : Int × Int) : Prop := 0 ≤ e.1 ∧ e.1 < n ∧ 0 ≤ e.2 ∧ e.2 < n
def OutOk (n : Nat) (out : List Int) : Prop := out.length = n ∧ ∀ v : Nat, v < n → 0 ≤ out.getD v 0 ∧ out.getD v 0 ≤ 2

theorem bump_getD {n : Nat} {out : List Int} {v : Int} (hl : out.length = n) (h0 : 0 ≤ v) (h1 : v < n) (u : Nat) : (bump out v).getD u 0 = out.getD u 0 + if (u : Int) = v then 1 else 0 := by
  unfold bump
  rw [List.getD_eq_getElem?_getD, List.getElem?_set]
  by_cases e : v.toNat = u
  · subst e
    rw [if_pos rfl, if_pos (by omega), if_pos (by omega)]
    rfl
  · rw [if_neg e, if_neg (by omega), List.getD_eq_getElem?_getD]; omega
theorem bump_ok {n : Nat} {out : List Int} {v : Int} (h : OutOk n out) (h0 : 0 ≤ v) (h1 : v < n) (h2 : out.getD v.toNat 0 < 2) : OutOk n (bump out v) := by
  refine ⟨by unfold bump; rw [List.length_set]; exact h.1, fun u hu => ?_⟩
  rw [bump_getD h.1 h0 h1]
  have := h.2 u hu
  by_cases e : (u : Int) = v
  · rw [if_pos e]; subst e; rw [Int.toNat_natCast] at h2; omega
  · rw [if_neg e]; omega

/-- What the search finds is right. -/
theorem findR_sound {n : Nat} : ∀ (L : List (Int × Int)) (out tails l : List Int), OutOk n out → (∀ e ∈ L, InN n e) → findR L out tails = some l →
    ∃ t, l = tails ++ t ∧ Fits L t ∧ ∀ v : Nat, v < n → out.getD v 0 + (t.count (v : Int) : Int) ≤ 2 := by
  intro L
  induction L with
  | nil =>
    intro out tails l ho _ h
    simp only [findR, Option.some.injEq] at h
    exact ⟨[], by simp [h], ⟨rfl, fun k e x h => by simp at h⟩, fun v hv => by have := (ho.2 v hv).2; simpa using this⟩
  | cons e rest ih =>
    intro out tails l ho hL h
    have he := hL e (by simp)
    have hrest : ∀ e' ∈ rest, InN n e' := fun e' h' => hL e' (by simp [h'])
    have key : ∀ v : Int, (v = e.1 ∨ v = e.2) → out.getD v.toNat 0 < 2 → findR rest (bump out v) (tails ++ [v]) = some l → ∃ t, l = tails ++ t ∧ Fits (e :: rest) t ∧ ∀ v : Nat, v < n → out.getD v 0 + (t.count (v : Int) : Int) ≤ 2 := by
      intro v hv h2 hf
      have hv0 : 0 ≤ v ∧ v < n := by unfold InN at he; rcases hv with h | h <;> subst h <;> omega
      obtain ⟨t, e1, hft, hc⟩ := ih _ _ _ (bump_ok ho hv0.1 hv0.2 h2) hrest hf
      refine ⟨v :: t, by rw [e1]; simp, ⟨by simp [hft.1], ?_⟩, ?_⟩
      · intro k e' x h3 h4
        cases k with
        | zero => simp at h3 h4; subst h3 h4; exact hv
        | succ k => exact hft.2 k e' x (by simpa using h3) (by simpa using h4)
      · intro u hu
        have := hc u hu
        rw [bump_getD ho.1 hv0.1 hv0.2] at this
        rw [List.count_cons]
        by_cases e2 : (u : Int) = v
        · rw [if_pos e2] at this
          rw [if_pos (by simpa using e2.symm : (v == (u : Int)) = true)]
          omega
        · rw [if_neg e2] at this
          rw [if_neg (by simpa using fun h => e2 h.symm : ¬ (v == (u : Int)) = true)]
          omega
    unfold findR at h
    split at h
    · rename_i l' hl'
      simp only [Option.some.injEq] at h
      subst h
      split at hl'
      · rename_i h2; exact key e.1 (.inl rfl) h2 hl'
      · cases hl'
    · split at h
      · rename_i h2; exact key e.2 (.inr rfl) h2 h
      · cases h

/-- If there are tails, the search finds some. -/
theorem findR_complete {n : Nat} : ∀ (L : List (Int × Int)) (out tails t : List Int), OutOk n out → (∀ e ∈ L, InN n e) → Fits L t → (∀ v : Nat, v < n → out.getD v 0 + (t.count (v : Int) : Int) ≤ 2) → ∃ l, findR L out tails = some l := by
  intro L
  induction L with
  | nil => intro out tails t _ _ _ _; exact ⟨tails, rfl⟩
  | cons e rest ih =>
    intro out tails t ho hL hf hc
    have he := hL e (by simp)
    have hrest : ∀ e' ∈ rest, InN n e' := fun e' h' => hL e' (by simp [h'])
    cases t with
    | nil => have := hf.1; simp at this
    | cons x t =>
      have hx := hf.2 0 e x rfl rfl
      have hft : Fits rest t := ⟨by have := hf.1; simpa using this, fun k e' y h1 h2 => hf.2 (k + 1) e' y (by simpa using h1) (by simpa using h2)⟩
      have hx0 : 0 ≤ x ∧ x < n := by unfold InN at he; rcases hx with h | h <;> subst h <;> omega
      have h2 : out.getD x.toNat 0 < 2 := by
        have := hc x.toNat (by omega)
        rw [show ((x.toNat : Nat) : Int) = x by omega, List.count_cons, if_pos (by simp : (x == x) = true)] at this
        omega
      have hcb : ∀ v : Nat, v < n → (bump out x).getD v 0 + (t.count (v : Int) : Int) ≤ 2 := by
        intro u hu
        have := hc u hu
        rw [bump_getD ho.1 hx0.1 hx0.2]
        rw [List.count_cons] at this
        by_cases e2 : (u : Int) = x
        · rw [if_pos e2]
          rw [if_pos (by simpa using e2.symm : (x == (u : Int)) = true)] at this
          omega
        · rw [if_neg e2]
          rw [if_neg (by simpa using fun h => e2 h.symm : ¬ (x == (u : Int)) = true)] at this
          omega
      obtain ⟨l, hl⟩ := ih (bump out x) (tails ++ [x]) t (bump_ok ho hx0.1 hx0.2 h2) hrest hft hcb
      unfold findR
      rcases hx with h | h
      · subst h
        rw [if_pos h2, hl]
        exact ⟨l, rfl⟩
      · subst h
        split
        · rename_i l' _; exact ⟨l', rfl⟩
        · rw [if_pos h2]; exact ⟨l, hl⟩

/-! ### The certificate -/
def zeros (n : Nat) : List Int := List.replicate n 0
theorem zeros_ok (n : Nat) : OutOk n (zeros n) := by
  refine ⟨by simp [zeros], fun v hv => ?_⟩
  have : (zeros n).getD v 0 = 0 := by simp [zeros, List.getD_eq_getElem?_getD, List.getElem?_replicate, hv]
  rw [this]; omega
def copies3 (es : List (Int × Int)) (i : Nat) : List (Int × Int) := es.getD i (0, 0) :: es.getD i (0, 0) :: es.getD i (0, 0) :: es
/-- The list for edge i, if there is one. -/
def certI (n : Nat) (es : List (Int × Int)) (i : Nat) : Option (List Int) := (findR (copies3 es i) (zeros n) []).map fun l => l.drop 3 ++ l.take 3
def certTo (n : Nat) (es : List (Int × Int)) : Nat → Option (List (List Int))
  | 0 => some []
  | k + 1 => match certTo n es k with
    | none => none
    | some out => match certI n es k with
      | none => none
      | some l => some (out ++ [l])

theorem inN_of {n : Nat} {es : List (Int × Int)} (hv : validB n es = true) : ∀ e ∈ es, InN n e := fun e he => by
  have := ends_mem hv e he; unfold InN; omega
theorem copies3_in {n : Nat} {es : List (Int × Int)} {i : Nat} (hv : validB n es = true) (hi : i < es.length) : ∀ e ∈ copies3 es i, InN n e := by
  intro e he
  have h0 : es.getD i (0, 0) ∈ es := by rw [List.getD_eq_getElem?_getD, List.getElem?_eq_getElem hi]; exact List.getElem_mem hi
  unfold copies3 at he
  simp only [List.mem_cons] at he
  rcases he with rfl | rfl | rfl | he
  · exact inN_of hv _ h0
  · exact inN_of hv _ h0
  · exact inN_of hv _ h0
  · exact inN_of hv _ he

theorem certI_right {n : Nat} {es : List (Int × Int)} {i : Nat} {l : List Int} (hv : validB n es = true) (hi : i < es.length) (h : certI n es i = some l) : rightB es i l = true := by
  unfold certI at h
  rw [Option.map_eq_some_iff] at h
  obtain ⟨l0, hl0, rfl⟩ := h
  obtain ⟨t, e1, hf, hc⟩ := findR_sound _ _ _ _ (zeros_ok n) (copies3_in hv hi) hl0
  rw [List.nil_append] at e1
  have e2 := e1.symm
  subst e2
  have hlen : t.length = es.length + 3 := by rw [hf.1]; simp [copies3]
  match t, hlen with
  | a :: b :: c :: t, hlen =>
    have htl : t.length = es.length := by simpa using hlen
    have hend : ∀ k, k < es.length + 3 → tailAt es i (t ++ [a, b, c]) k = true := by
      intro k hk
      by_cases hke : k < es.length
      · refine tailAt_yes (x := (es.getD k (0, 0)).1) (y := (es.getD k (0, 0)).2) (t := t.getD k 0) (by rw [edgeOf_lt hke]) (by rw [edgeOf_lt hke]) ?_ ?_
        · rw [List.getD_eq_getElem?_getD, List.getElem?_append_left (by omega), ← List.getD_eq_getElem?_getD]
        · have := hf.2 (k + 3) (es.getD k (0, 0)) (t.getD k 0) (by simp [copies3, List.getD_eq_getElem?_getD, List.getElem?_eq_getElem hke]) (by simp [List.getD_eq_getElem?_getD, List.getElem?_eq_getElem (by omega : k < t.length)])
          exact this
      · have hx : ∀ j, j < 3 → k = es.length + j → tailAt es i (t ++ [a, b, c]) k = true := by
          intro j hj hkj
          have := hf.2 j (es.getD i (0, 0)) ([a, b, c].getD j 0)
          refine tailAt_yes (x := (es.getD i (0, 0)).1) (y := (es.getD i (0, 0)).2) (t := [a, b, c].getD j 0) (by rw [edgeOf_ge hke]) (by rw [edgeOf_ge hke]) ?_ ?_
          · rw [List.getD_eq_getElem?_getD, List.getElem?_append_right (by omega), List.getD_eq_getElem?_getD, show k - t.length = j by omega]
          · match j, hj with
            | 0, _ => exact this rfl rfl
            | 1, _ => exact this rfl rfl
            | 2, _ => exact this rfl rfl
        exact hx (k - es.length) (by omega) (by omega)
    have hcnt : ∀ v : Int, cnt (t ++ [a, b, c]) v ≤ 2 := by
      intro v
      by_cases hv0 : 0 ≤ v ∧ v < n
      · have := hc v.toNat (by omega)
        rw [show ((v.toNat : Nat) : Int) = v by omega] at this
        have hz : 0 ≤ (zeros n).getD v.toNat 0 := ((zeros_ok n).2 v.toNat (by omega)).1
        have e2 : (t ++ [a, b, c]).count v = (a :: b :: c :: t).count v := by
          rw [List.count_append]; simp only [List.count_cons, List.count_nil]; omega
        unfold cnt
        rw [e2]; omega
      · have : v ∉ t ++ [a, b, c] := by
          intro hm
          obtain ⟨k, hk, rfl⟩ := getD_of_mem hm
          have h1 := hend k (by simp at hk; omega)
          unfold tailAt at h1
          simp only [Bool.or_eq_true, decide_eq_true_eq] at h1
          have h2 := edgeOf_ends hv (i := i) (k := k) hi
          omega
        rw [cnt_zero this]; omega
    show rightB es i (List.drop 3 (a :: b :: c :: t) ++ List.take 3 (a :: b :: c :: t)) = true
    have e3 : List.drop 3 (a :: b :: c :: t) ++ List.take 3 (a :: b :: c :: t) = t ++ [a, b, c] := by simp
    rw [e3]
    refine rightB_yes (by simp; omega) (fun j hj => ?_)
    have hj' : j < es.length + 3 := by simp at hj; omega
    rw [rightAt_of_yes hj (hend j hj') rfl rfl, decide_eq_true_eq]
    have h1 := cnt_take (t ++ [a, b, c]) j hj ((t ++ [a, b, c]).getD j 0)
    rw [if_pos rfl] at h1
    have h2 := cnt_mono (t ++ [a, b, c]) (j + 1) ((t ++ [a, b, c]).getD j 0)
    have h3 := hcnt ((t ++ [a, b, c]).getD j 0)
    omega

theorem certTo_right {n : Nat} {es : List (Int × Int)} (hv : validB n es = true) : ∀ (k : Nat) (ls : List (List Int)), k ≤ es.length → certTo n es k = some ls → ls.length = k ∧ ∀ j, j < k → rightB es j (ls.getD j []) = true := by
  intro k
  induction k with
  | zero =>
    intro ls _ h
    unfold certTo at h
    simp at h
    subst h
    exact ⟨rfl, by omega⟩
  | succ k ih =>
    intro ls hk h
    unfold certTo at h
    split at h
    · cases h
    · rename_i out hout
      split at h
      · cases h
      · rename_i l hl
        simp only [Option.some.injEq] at h
        subst h
        obtain ⟨h1, h2⟩ := ih out (by omega) hout
        refine ⟨by simp [h1], fun j hj => ?_⟩
        rw [List.getD_eq_getElem?_getD, List.getElem?_append]
        by_cases e : j < k
        · rw [if_pos (by omega), ← List.getD_eq_getElem?_getD]; exact h2 j e
        · have : j = k := by omega
          subst this
          rw [if_neg (by omega), h1]
          simp
          exact certI_right hv (by omega) hl
theorem cert_sparse {n : Nat} {es : List (Int × Int)} {ls : List (List Int)} (hv : validB n es = true) (h : certTo n es es.length = some ls) : sparseB n es ls = true := by
  obtain ⟨h1, h2⟩ := certTo_right hv _ _ (Nat.le_refl _) h
  exact sparseB_yes hv h1 (fun j hj => h2 j (by omega))

theorem ascB_of_pairwise {n : Nat} {V : List Int} (hp : V.Pairwise (· < ·)) (hv : ∀ v ∈ V, 0 ≤ v ∧ v < n) : ascB n V = true := by
  rw [ascB_iff]
  intro j hj
  have := hv _ (mem_getD hj)
  refine ⟨this.1, this.2, ?_⟩
  rcases Nat.eq_zero_or_pos j with h | h
  · exact .inl h
  · right
    have h1 := List.pairwise_iff_getElem.1 hp (j - 1) j (by omega) hj (by omega)
    rw [List.getD_eq_getElem?_getD, List.getElem?_eq_getElem (by omega), List.getD_eq_getElem?_getD, List.getElem?_eq_getElem hj]
    exact h1

/-- A sparse graph: the search finds a list for each edge. -/
theorem certI_some {n : Nat} {es : List (Int × Int)} {i : Nat} (hn : n ≤ 60) (hv : validB n es = true) (hs : sparseAll n es = true) (hi : i < es.length) : ∃ l, certI n es i = some l := by
  have hin := copies3_in hv hi
  have hends := ends_mem hv
  have hei : es.getD i (0, 0) ∈ es := by rw [List.getD_eq_getElem?_getD, List.getElem?_eq_getElem hi]; exact List.getElem_mem hi
  obtain ⟨t, hf, hc⟩ := orient n (copies3 es i) (fun e he => hin e he) (fun V hp hvV => by
    have hasc := ascB_of_pairwise hp hvV
    have hl : setS V < 2 ^ n := setS_lt (fun p hp' => by have := hvV p hp'; omega)
    have hok := sparseAll_iff.1 hs _ hl
    have hcnt := cntB_setS hasc (by omega)
    have hsp := spanS_eq hasc (es := es) (fun e he => by have := hends e he; omega)
    unfold copies3
    simp only [List.countP_cons]
    by_cases h2 : 2 ≤ V.length
    · have := okSet_use hok (by omega)
      rw [hsp, hcnt] at this
      unfold spanI at this
      split <;> omega
    · have h0 : ∀ e ∈ es, inB V e = false := by
        intro e he
        cases hb : inB V e with
        | false => rfl
        | true =>
          exfalso
          unfold inB at hb
          simp only [Bool.and_eq_true, decide_eq_true_eq] at hb
          have := hends e he
          match V, h2 with
          | [], _ => simp at hb
          | [v], _ => simp at hb; omega
          | _ :: _ :: _, h2 => simp at h2
      rw [h0 _ hei]
      have : es.countP (inB V) = 0 := by rw [List.countP_eq_zero]; intro e he; rw [h0 e he]; decide
      rw [this]; simp)
  obtain ⟨l, hl⟩ := findR_complete (copies3 es i) (zeros n) [] t (zeros_ok n) hin hf (fun v hv' => by
    have hz : (zeros n).getD v 0 = 0 := by simp [zeros, List.getD_eq_getElem?_getD, List.getElem?_replicate, hv']
    rw [hz]
    have := hc (v : Int)
    omega)
  exact ⟨l.drop 3 ++ l.take 3, by unfold certI; rw [hl]; rfl⟩
theorem certTo_some {n : Nat} {es : List (Int × Int)} (hn : n ≤ 60) (hv : validB n es = true) (hs : sparseAll n es = true) : ∀ k, k ≤ es.length → ∃ ls, certTo n es k = some ls := by
  intro k
  induction k with
  | zero => intro _; exact ⟨[], rfl⟩
  | succ k ih =>
    intro hk
    obtain ⟨ls, hls⟩ := ih (by omega)
    obtain ⟨l, hl⟩ := certI_some hn hv hs (i := k) (by omega)
    exact ⟨ls ++ [l], by unfold certTo; rw [hls, hl]⟩
theorem certTo_none_mono {n : Nat} {es : List (Int × Int)} {k : Nat} (h : certTo n es k = none) : ∀ d, certTo n es (k + d) = none := by
  intro d
  induction d with
  | zero => exact h
  | succ d ih => show certTo n es (k + d + 1) = none; unfold certTo; rw [ih]
/-- The search fails exactly at graphs that are not sparse. -/
theorem cert_iff {n : Nat} {es : List (Int × Int)} (hn : n ≤ 60) (hv : validB n es = true) : (certTo n es es.length).isSome = sparseAll n es := by
  rw [Bool.eq_iff_iff]
  constructor
  · intro h
    obtain ⟨ls, hls⟩ := Option.isSome_iff_exists.1 h
    exact sparse_all_sound (cert_sparse hv hls)
  · intro h
    obtain ⟨ls, hls⟩ := certTo_some hn hv h es.length (Nat.le_refl _)
    rw [hls]; rfl
end Go.Proofs.Ytagcaljpgifppaa

namespace Go.Proofs.Ytagcaljpgifppaa
set_option linter.unusedVariables false
set_option linter.unusedSimpArgs false
open Go.RowKit Go.Sort

theorem i64_or_nat (a b : Nat) (ha : a < 9223372036854775808) (hb : b < 9223372036854775808) : bits .or .i64 (a : Int) (b : Int) = ((a ||| b : Nat) : Int) := by
  have hx : a ||| b < 2 ^ 63 := Nat.or_lt_two_pow (by omega) (by omega)
  show IntKind.i64.wrap ((BitVec.ofInt 64 (a : Int) ||| BitVec.ofInt 64 (b : Int)).toNat : Int) = _
  rw [BitVec.toNat_or, ofInt_u64 a (by omega), ofInt_u64 b (by omega)]
  simp [IntKind.wrap, IntKind.bits, IntKind.signed]
  omega
theorem i64_and_nat (a b : Nat) (ha : a < 9223372036854775808) (hb : b < 9223372036854775808) : bits .and .i64 (a : Int) (b : Int) = ((a &&& b : Nat) : Int) := by
  have hx : a &&& b < 2 ^ 63 := Nat.and_lt_two_pow _ (by omega)
  show IntKind.i64.wrap ((BitVec.ofInt 64 (a : Int) &&& BitVec.ofInt 64 (b : Int)).toNat : Int) = _
  rw [BitVec.toNat_and, ofInt_u64 a (by omega), ofInt_u64 b (by omega)]
  simp [IntKind.wrap, IntKind.bits, IntKind.signed]
  omega
theorem pow_lt60 {X : Nat} (h : X < 60) : 2 ^ X < 1152921504606846976 := by
  have : 2 ^ X < 2 ^ 60 := Nat.pow_lt_pow_right (by omega) h
  simpa using this
theorem wrap_pow {X : Nat} (h : X < 60) : wrap64 ((2 : Int) ^ X) = ((2 ^ X : Nat) : Int) := by
  have := pow_lt60 h
  have e : ((2 : Int) ^ X) = ((2 ^ X : Nat) : Int) := by norm_cast
  rw [e]; generalize 2 ^ X = P at this; unfold wrap64; omega
theorem or_pow {s X : Nat} (hs : s < 1152921504606846976) (h : X < 60) : bits .or .i64 (s : Int) (wrap64 ((2 : Int) ^ X)) = ((s ||| 2 ^ X : Nat) : Int) := by
  have := pow_lt60 h
  rw [wrap_pow h, i64_or_nat _ _ (by omega) (by omega)]

set_option maxHeartbeats 1000000 in
theorem spans_any (N : Int) (A : Option Addr) (m cm : Nat) (es : List (Int × Int)) (S : Nat) (w : World) (hm : m ≤ 100) (hS : S < 1152921504606846976) (he : Rd w 2 A m (prs es)) (hv : ∀ k, k < m → 0 ≤ (es.getD k (0, 0)).1 ∧ (es.getD k (0, 0)).1 < 60 ∧ 0 ≤ (es.getD k (0, 0)).2 ∧ (es.getD k (0, 0)).2 < 60) :
    Calls Try.prog 114 #[.agg #[.int .i64 N, .slice A m cm], .int .i64 S] w fun e w' => e = .returned (.int .i64 (spanS es S)) ∧ Below w.heap.size w w' := by
  have HE := Lib.hid he.prs_len
  have H1 := Lib.hid he
  have HV := Lib.hid hv
  clear he hv
  go_enter Try.func114, Try.ntmps114
  go_wp2
  go_loopw [5, 6] (fun nv iv wr => ∃ (k : Nat), k ≤ m ∧ iv = .int .i64 k ∧ nv = .int .i64 (spanS (es.take k) S) ∧ Below (w.heap.size + 1) (w.alloc (.cells #[.int .i64 N, .slice A m cm] 24)) wr) (fun _ iv _ => m - (intOf iv).toNat)
  case atStart => exact ⟨0, by omega, rfl, rfl, Below.refl _ _⟩
  case round =>
    obtain ⟨k, hk, rfl, rfl, hb⟩ := hrel
    have HB := Lib.hid hb
    have g1 : wr.cell? ⟨w.heap.size, 1, none⟩ = some (.slice A m cm) := by rw [hb.cell (by simp)]; simp
    clear hb
    by_cases hlt : k < m
    · obtain ⟨ad, rfl, c0, c1⟩ := (H1.out.keep ((Keeps.alloc w _).trans (Keeps.of_below HB.out (by simp)))).prs_at hlt
      have hvk := HV.out k hlt
      have hs0 := spanS_nonneg (es.take k) S
      have hs1 := Int.le_trans (spanS_le (es.take k) S) (Int.ofNat_le.2 (List.length_take_le k es))
      generalize hx : (es.getD k (0, 0)).1 = x at c0 hvk
      generalize hy : (es.getD k (0, 0)).2 = y at c1 hvk
      obtain ⟨v1, v2, v3, v4⟩ := hvk
      obtain ⟨X, rfl⟩ : ∃ X : Nat, x = X := ⟨x.toNat, by omega⟩
      obtain ⟨Y, rfl⟩ : ∃ X : Nat, y = X := ⟨y.toNat, by omega⟩
      have hst := spanS_step (S := S) (by rw [HE.out]; exact hlt) hx hy
      generalize spanS (es.take k) S = s at hs0 hs1 hst
      have HST := Lib.hid hst
      clear hx hy hst
      have hb1 := shr_bit S X
      have hb2 := shr_bit S Y
      cases hX : S.testBit X
      · rw [hX] at hb1
        clear hb2
        go_wp2
        go_roundw
        case rel => exact ⟨k + 1, by omega, by go_num, by rw [HST.out, Int.toNat_natCast, Int.toNat_natCast, hX]; simp, HB.out⟩
        case measure => simp [intOf]; omega
      · rw [hX] at hb1
        cases hY : S.testBit Y
        · rw [hY] at hb2
          go_wp2
          go_roundw
          case rel => exact ⟨k + 1, by omega, by go_num, by rw [HST.out, Int.toNat_natCast, Int.toNat_natCast, hX, hY]; simp, HB.out⟩
          case measure => simp [intOf]; omega
        · rw [hY] at hb2
          go_wp2
          go_roundw
          case rel => exact ⟨k + 1, by omega, by go_num, by rw [HST.out, Int.toNat_natCast, Int.toNat_natCast, hX, hY]; simp, HB.out⟩
          case measure => simp [intOf]; omega
    · obtain rfl : k = m := by omega
      have hfull : spanS (es.take k) S = spanS es S := by rw [List.take_of_length_le (by rw [HE.out]; exact Nat.le_refl _)]
      rw [hfull] at *
      clear hfull
      go_wp2
      go_ret
      exact ⟨rfl, ((Below.refl _ _).alloc (Nat.le_refl _) _).trans (HB.out.mono (by omega))⟩
end Go.Proofs.Ytagcaljpgifppaa

namespace Go.Proofs.Ytagcaljpgifppaa
set_option linter.unusedVariables false
set_option linter.unusedSimpArgs false
open Go.RowKit Go.Sort

set_option maxHeartbeats 1000000 in
theorem bits_any (S : Nat) (w : World) (hS : S < 1152921504606846976) :
    Calls Try.prog 113 #[.int .i64 S] w fun e w' => e = .returned (.int .i64 (cntB 60 S : Nat)) ∧ w = w' := by
  generalize hc : cntB 60 S = c
  have HC := Lib.hid hc
  have hc60 := cntB_le 60 S
  rw [hc] at hc60
  clear hc
  go_enter Try.func113, Try.ntmps113
  go_wp2
  go_loop [0, 3] (fun sv nv => ∃ (T n : Nat), T ≤ S ∧ n + cntB 60 T = c ∧ sv = .int .i64 T ∧ nv = .int .i64 n) (fun sv _ => (intOf sv).toNat)
  case atStart => exact ⟨S, 0, Nat.le_refl _, by rw [HC.out]; omega, rfl, rfl⟩
  case round =>
    obtain ⟨T, n, hT, hn, rfl, rfl⟩ := hrel
    have hn60 : n ≤ 60 := by omega
    have HN := Lib.hid hn
    clear hn
    by_cases h : 0 < T
    · go_wp2
      go_round
      case rel => exact ⟨T / 2, n + T % 2, by omega, by have := cntB_step (T := T) (by have : (2 : Nat) ^ 60 = 1152921504606846976 := rfl; omega); have := HN.out; omega, by go_num, by go_num⟩
      case measure => simp [intOf]; omega
    · have hT0 : T = 0 := by omega
      subst hT0
      have hnc : n = c := by have := HN.out; rw [cntB_zero] at this; omega
      subst hnc
      go_wp2
      go_ret
      exact ⟨rfl, rfl⟩

set_option maxHeartbeats 1000000 in
theorem rsparse_any (n : Nat) (A : Option Addr) (m cm : Nat) (es : List (Int × Int)) (w : World) (hn9 : n ≤ 9) (hm : m ≤ 100) (he : Rd w 2 A m (prs es)) (hv : validB n es = true) :
    Calls Try.prog 77 #[.agg #[.int .i64 n, .slice A m cm]] w fun e w' => e = .returned (.bool (sparseAll n es)) ∧ Below w.heap.size w w' := by
  have HE := Lib.hid he.prs_len
  have H1 := Lib.hid he
  have HV : Hid (∀ k, k < m → 0 ≤ (es.getD k (0, 0)).1 ∧ (es.getD k (0, 0)).1 < 60 ∧ 0 ≤ (es.getD k (0, 0)).2 ∧ (es.getD k (0, 0)).2 < 60) := Lib.hid (fun k hk => by
    have := validB_ends hv (k := k) (by rw [he.prs_len]; exact hk)
    omega)
  have hQ : 2 ^ n ≤ 512 := by
    have : (2 : Nat) ^ n ≤ 2 ^ 9 := Nat.pow_le_pow_right (by omega) hn9
    simpa using this
  have hw := wrap_pow (X := n) (by omega)
  have hall := Lib.hid (sparseAll_iff (n := n) (es := es))
  have hno := Lib.hid (fun S => sparseAll_no (n := n) (es := es) (S := S))
  generalize sparseAll n es = b at hall hno
  generalize 2 ^ n = Q at hQ hw hall hno
  clear he hv
  go_enter Try.func77, Try.ntmps77
  go_wp2
  go_loopw [3] (fun sv wr => ∃ (S : Nat), 1 ≤ S ∧ (S ≤ Q ∨ S = 1) ∧ sv = .int .i64 S ∧ (∀ T, T < S → okSet es T = true) ∧ Below (w.heap.size + 1) (w.alloc (.cells #[.int .i64 n, .slice A m cm] 24)) wr) (fun sv _ => Q - (intOf sv).toNat)
  case atStart => exact ⟨1, Nat.le_refl _, .inr rfl, rfl, fun T hT => by rw [show T = 0 by omega]; exact okSet_zero es, Below.refl _ _⟩
  case round =>
    obtain ⟨S, hS1, hSQ, rfl, hok, hb⟩ := hrel
    have HB := Lib.hid hb
    have HOK := Lib.hid hok
    have g0 : wr.cell? ⟨w.heap.size, 0, none⟩ = some (.int .i64 n) := by rw [hb.cell (by simp)]; simp
    have g1 : wr.cell? ⟨w.heap.size, 1, none⟩ = some (.slice A m cm) := by rw [hb.cell (by simp)]; simp
    clear hb hok
    by_cases hlt : S < Q
    · have hsb := cntB_le 60 S
      have HBI : Hid (Calls Try.prog 113 #[.int .i64 S] wr fun e w' => e = .returned (.int .i64 (cntB 60 S : Nat)) ∧ wr = w') := bits_any S wr (by omega)
      have HSP : Hid (Calls Try.prog 114 #[.agg #[.int .i64 n, .slice A m cm], .int .i64 S] wr fun e w'' => e = .returned (.int .i64 (spanS es S)) ∧ Below wr.heap.size wr w'') :=
        spans_any n A m cm es S wr hm (by omega) (H1.out.keep ((Keeps.alloc w _).trans (Keeps.of_below HB.out (by simp)))) HV.out
      have hoc : okSet es S = (decide (cntB 60 S < 2) || decide (spanS es S ≤ 2 * (cntB 60 S : Int) - 3)) := rfl
      have hs0 := spanS_nonneg es S
      generalize cntB 60 S = c at hsb HBI hoc
      generalize spanS es S = sp at HSP hoc hs0
      by_cases hc2 : c < 2
      · have hok2 : okSet es S = true := by rw [hoc, decide_eq_true hc2]; rfl
        have HO2 := Lib.hid hok2
        clear hoc hok2
        go_wp2_with (go_at_call 113; refine HBI.out.mono ?_; rintro e w' ⟨rfl, rfl⟩)
        go_roundw
        case rel => exact ⟨S + 1, by omega, .inl (by omega), by go_num, fun T hT => by
            by_cases e : T = S
            · rw [e]; exact HO2.out
            · exact HOK.out T (by omega), HB.out⟩
        case measure => simp [intOf]; omega
      · have hc2b : decide ((2 : Int) ≤ c) = true := by simp; omega
        by_cases hsp : sp ≤ 2 * (c : Int) - 3
        · have hok2 : okSet es S = true := by rw [hoc, decide_eq_true hsp]; simp
          have HO2 := Lib.hid hok2
          clear hoc hok2
          go_wp2_with (first
            | (go_at_call 113; refine HBI.out.mono ?_; rintro e w' ⟨rfl, rfl⟩)
            | (go_at_call 114; refine HSP.out.mono ?_; rintro e w1 ⟨rfl, hb1⟩; have HB1 := Lib.hid hb1; clear hb1))
          go_roundw
          case rel => exact ⟨S + 1, by omega, .inl (by omega), by go_num, fun T hT => by
              by_cases e : T = S
              · rw [e]; exact HO2.out
              · exact HOK.out T (by omega), HB.out.trans (HB1.out.mono (by have := HB.out.size; simp at this; omega))⟩
          case measure => simp [intOf]; omega
        · have hok2 : okSet es S = false := by rw [hoc, decide_eq_false hsp, decide_eq_false hc2]; rfl
          have hb0 := hno.out S hlt hok2
          have HB0 := Lib.hid hb0
          clear hoc hok2 hb0
          go_wp2_with (first
            | (go_at_call 113; refine HBI.out.mono ?_; rintro e w' ⟨rfl, rfl⟩)
            | (go_at_call 114; refine HSP.out.mono ?_; rintro e w1 ⟨rfl, hb1⟩; have HB1 := Lib.hid hb1; clear hb1))
          go_ret
          exact ⟨ret_bool HB0.out.symm, ((Below.refl _ _).alloc (Nat.le_refl _) _).trans ((HB.out.trans (HB1.out.mono (by have := HB.out.size; simp at this; omega))).mono (by omega))⟩
    · have hb1 : b = true := hall.out.2 (fun T hT => HOK.out T (by omega))
      have HB1 := Lib.hid hb1
      clear hb1
      go_wp2
      go_ret
      exact ⟨ret_bool HB1.out.symm, ((Below.refl _ _).alloc (Nat.le_refl _) _).trans (HB.out.mono (by omega))⟩
end Go.Proofs.Ytagcaljpgifppaa

namespace Go.Proofs.Ytagcaljpgifppaa
set_option linter.unusedVariables false
set_option linter.unusedSimpArgs false
open Go.RowKit Go.Sort

def FindPost (w : World) (r : Option (List Int)) (e : Ending) (w' : World) : Prop :=
  Below w.heap.size w w' ∧ match r with
  | none => e = .returned (.tuple #[.slice none 0 0, .bool false])
  | some l => ∃ A c, e = .returned (.tuple #[.slice A l.length c, .bool true]) ∧ Rd w' 1 A l.length (ints l) ∧ l.length ≤ c

end Go.Proofs.Ytagcaljpgifppaa

namespace Go.Proofs.Ytagcaljpgifppaa
set_option linter.unusedVariables false
set_option linter.unusedSimpArgs false
open Go.RowKit Go.Sort

def CertPost (w : World) (r : Option (List (List Int))) (e : Ending) (w' : World) : Prop :=
  Below w.heap.size w w' ∧ match r with
  | none => e = .returned (.tuple #[.slice none 0 0, .bool false])
  | some ls => ∃ A c, e = .returned (.tuple #[.slice A ls.length c, .bool true]) ∧ RdL w' A ls.length ls

theorem copies3_prs (es : List (Int × Int)) (i : Nat) (x y : Int) (h : es.getD i (0, 0) = (x, y)) : prs [(x, y), (x, y), (x, y)] ++ prs es = prs (copies3 es i) := by
  unfold copies3; rw [h, ← prs_app]; rfl
theorem zeros_row {w : World} {b : Nat} {t : TypeId} {n : Nat} (h : w.rowIs b t n (fun _ => .int .i64 0)) : Rd w 1 (some ⟨b, 0, none⟩) n (ints (zeros n)) := by
  have := rd_of_rowIs (f := fun _ => 0) h
  have e : (List.range n).map (fun _ => (0 : Int)) = zeros n := by
    apply List.ext_getElem <;> simp [zeros]
  rwa [e] at this

theorem rd_from {w : World} {ad : Addr} {n : Nat} {l : List Int} (h : Rd w 1 (some ad) (3 + n) (ints l)) (i : Nat) : Rd w 1 (some ⟨ad.block, ad.off + 3, none⟩) n (ints (l.drop 3)) := by
  have hl := h.int_len
  refine ⟨by simp [ints]; omega, fun hn => ⟨_, rfl, fun j u hu => ?_⟩⟩
  obtain ⟨ad', he, hc⟩ := h.2 (by omega)
  injection he with he
  subst he
  have := hc (3 + j) u (by rw [← hu]; simp [ints])
  rw [← this]
  congr 1
  unfold Addr.add
  by_cases hj : j = 0
  · subst hj; simp
  · simp [hj]; omega
theorem rd_upto {w : World} {ad : Addr} {n : Nat} {l : List Int} (h : Rd w 1 (some ad) (3 + n) (ints l)) (i : Nat) : Rd w 1 (some ad) 3 (ints (l.take 3)) := by
  have hl := h.int_len
  refine ⟨by simp [ints]; omega, fun hn => ⟨_, rfl, fun j u hu => ?_⟩⟩
  obtain ⟨ad', he, hc⟩ := h.2 (by omega)
  injection he with he
  subst he
  refine hc j u ?_
  simp [ints, List.getElem?_take] at hu ⊢
  exact hu.2

theorem certL {lt : List Int} {m : Nat} (h : lt.length = 3 + m) : (lt.drop 3 ++ lt.take 3).length = m + 3 := by simp; omega
theorem pushed {w w' : World} {base n c c' : Nat} {A A' : Option Addr} {ls : List (List Int)} {hs : List (Option Addr × Nat)} {B : Option Addr} {d q : Nat} {l1 l2 : List Int} (hq : (l1 ++ l2).length = q)
    (h1 : ls.length = n) (h2 : hs.length = n) (h4 : ∀ (i : Nat) (h : Option Addr × Nat) (l : List Int), hs[i]? = some h → ls[i]? = some l → Own w base 3 1 h.1 l.length h.2 (ints l))
    (hl : Own w base 3 1 B q d (ints l1 ++ ints l2)) (ho0 : ∃ xs, Own w base 27 1 A n c xs)
    (ho : Own w' base 27 1 A' (n + 1) c' (heads hs ls ++ [.slice B q d])) (hg : w.grownBy w' (blk A)) : OwnL w' base A' (n + 1) c' (ls ++ [l1 ++ l2]) := by
  subst hq
  rw [← ints_app] at hl
  exact OwnL.push h1 h2 h4 hl ho0 ho hg

end Go.Proofs.Ytagcaljpgifppaa

namespace Go.Proofs.Ytagcaljpgifppaa
set_option linter.unusedVariables false
set_option linter.unusedSimpArgs false
open Go.ChangeShapes Go.WideShapes Go.ChangeAt Go.RowKit Go.Sort

theorem shortB_lens {ls : List (List Int)} (h : shortB ls = true) : ls.length ≤ 100 ∧ ∀ j, j < ls.length → (ls.getD j []).length ≤ 120 := by
  unfold shortB at h
  simp only [Bool.and_eq_true, List.all_eq_true, decide_eq_true_eq] at h
  refine ⟨by omega, fun j hj => ?_⟩
  have := h.1 (ls.getD j []) (by rw [List.getD_eq_getElem?_getD, List.getElem?_eq_getElem hj]; exact List.getElem_mem hj)
  exact this

theorem nextB {B : Nat} {w0 w1 w2 : World} (h : Below B w0 w1) (hs : B ≤ w0.heap.size) (h2 : Below w1.heap.size w1 w2) : Below B w0 w2 := h.trans (h2.mono (Nat.le_trans hs h.size))

end Go.Proofs.Ytagcaljpgifppaa

namespace Go.Proofs.Ytagcaljpgifppaa
set_option linter.unusedVariables false
set_option linter.unusedSimpArgs false
open Go.ChangeShapes Go.WideShapes Go.ChangeAt Go.RowKit Go.Sort

theorem rsparse_b {b : Bool} (N : Int) (n : Nat) (hN : N = n) (A : Option Addr) (m cm : Nat) (es : List (Int × Int)) (w : World) (hn9 : n ≤ 9) (hm : m ≤ 100) (he : Rd w 2 A m (prs es)) (hv : validB N es = true) (hb : sparseAll n es = b) :
    Calls Try.prog 77 #[.agg #[.int .i64 N, .slice A m cm]] w fun e w' => e = .returned (.bool b) ∧ Below w.heap.size w w' := by
  subst hb hN; exact rsparse_any n A m cm es w hn9 hm he hv

end Go.Proofs.Ytagcaljpgifppaa

namespace Go.Proofs.Ytagcaljpgifppaa
set_option linter.unusedVariables false
set_option linter.unusedSimpArgs false
open Go.ChangeShapes Go.WideShapes Go.ChangeAt Go.RowKit Go.Sort

def rlamanB (n : Nat) (es : List (Int × Int)) : Bool := decide ((2 : Int) ≤ n) && decide ((es.length : Int) = 2 * (n : Int) - 3) && sparseAll n es

set_option maxHeartbeats 1000000 in
theorem rlaman_any (n : Nat) (A : Option Addr) (m cm : Nat) (es : List (Int × Int)) (w : World) (hn9 : n ≤ 9) (hm : m ≤ 100) (he : Rd w 2 A m (prs es)) (hv : validB n es = true) :
    Calls Try.prog 30 #[.agg #[.int .i64 n, .slice A m cm]] w fun e w' => e = .returned (.bool (rlamanB n es)) ∧ Below w.heap.size w w' := by
  have HE := Lib.hid he.prs_len
  have H1 : Hid (Rd (w.alloc (.cells #[.int .i64 n, .slice A m cm] 24)) 2 A m (prs es)) := he.keep (Keeps.alloc w _)
  have HV := Lib.hid hv
  clear he hv
  unfold rlamanB
  rw [HE.out]
  by_cases hN : (2 : Int) ≤ n
  · rw [decide_eq_true hN]
    have hNb : (2 : Int) ≤ (n : Int) := hN
    by_cases hl : (m : Int) = 2 * (n : Int) - 3
    · rw [decide_eq_true hl]
      have hlb : ((m : Int) == 2 * (n : Int) - 3) = true := by simpa using hl
      generalize hz : sparseAll n es = z
      have HZ := Lib.hid hz
      clear hz hl
      go_enter Try.func30, Try.ntmps30
      go_wp2_with (go_at_call 77; refine (rsparse_b (b := z) n n rfl A m cm es _ hn9 hm H1.out HV.out HZ.out).mono ?_; rintro e w1 ⟨rfl, hb1⟩)
      go_ret
      exact ⟨rfl, ((Below.refl _ _).alloc (Nat.le_refl _) _).trans (hb1.mono (by simp))⟩
    · rw [decide_eq_false hl]
      have hlb : ((m : Int) == 2 * (n : Int) - 3) = false := by simpa using hl
      clear hl
      go_enter Try.func30, Try.ntmps30
      go_wp2
      go_ret
      exact ⟨rfl, (Below.refl _ _).alloc (Nat.le_refl _) _⟩
  · rw [decide_eq_false hN]
    go_enter Try.func30, Try.ntmps30
    go_wp2
    go_ret
    exact ⟨rfl, (Below.refl _ _).alloc (Nat.le_refl _) _⟩

theorem laman_same {n : Nat} {es : List (Int × Int)} {ls : List (List Int)} (h1 : sparseB n es ls = true) (h2 : sparseAll n es = true) : lamanB n es ls = rlamanB n es := by
  unfold lamanB rlamanB; rw [h1, h2, Bool.and_assoc]

end Go.Proofs.Ytagcaljpgifppaa
