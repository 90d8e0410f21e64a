/-
  Assigning edges to their ends: what a search for a place does, and that it succeeds where no points span too many edges. No program stands in this text.
-/
import Derived.Test.YtbhkdodokdgijaaSpecU
namespace Go.Proofs.Ytbhkdodokdgijaa
set_option linter.unusedVariables false
set_option linter.unusedSimpArgs false

def endOf (es : List (Int × Int)) (i t : Nat) : Nat := if t = 0 then (edAt es i).1.toNat else (edAt es i).2.toNat
/-- mode false: a place for edge x, from its end number t on; mode true: a new place for one of the edges at x, from number t on. -/
inductive AL (es : List (Int × Int)) : Bool → List (List Int) → List Int → List Bool → Nat → Nat → Option Nat → List (List Int) → List Int → List Bool → Prop
  | outDone {ld : List (List Int)} {tl : List Int} {vis : List Bool} {i t : Nat} : 2 ≤ t → AL es false ld tl vis i t none ld tl vis
  | outSkip {ld : List (List Int)} {tl : List Int} {vis : List Bool} {i t : Nat} {r : Option Nat} {ld' : List (List Int)} {tl' : List Int} {vis' : List Bool} : t < 2 → visB vis (endOf es i t) = true → AL es false ld tl vis i (t + 1) r ld' tl' vis' → AL es false ld tl vis i t r ld' tl' vis'
  | outFree {ld : List (List Int)} {tl : List Int} {vis : List Bool} {i t v : Nat} : t < 2 → endOf es i t = v → visB vis v = false → (rowOf ld v).length < 2 → AL es false ld tl vis i t (some 0) (ld.set v (rowOf ld v ++ [(i : Int)])) (tl.set i (v : Int)) (vis.set v true)
  | outHit {ld : List (List Int)} {tl : List Int} {vis : List Bool} {i t v k : Nat} {ld1 : List (List Int)} {tl1 : List Int} {vis1 : List Bool} : t < 2 → endOf es i t = v → visB vis v = false → 2 ≤ (rowOf ld v).length → AL es true ld tl (vis.set v true) v 0 (some k) ld1 tl1 vis1 → AL es false ld tl vis i t (some 0) (ld1.set v ((rowOf ld1 v).set k (i : Int))) (tl1.set i (v : Int)) vis1
  | outMiss {ld : List (List Int)} {tl : List Int} {vis : List Bool} {i t v : Nat} {ld1 : List (List Int)} {tl1 : List Int} {vis1 : List Bool} {r : Option Nat} {ld' : List (List Int)} {tl' : List Int} {vis' : List Bool} : t < 2 → endOf es i t = v → visB vis v = false → 2 ≤ (rowOf ld v).length → AL es true ld tl (vis.set v true) v 0 none ld1 tl1 vis1 → AL es false ld1 tl1 vis1 i (t + 1) r ld' tl' vis' → AL es false ld tl vis i t r ld' tl' vis'
  | inDone {ld : List (List Int)} {tl : List Int} {vis : List Bool} {v k : Nat} : (rowOf ld v).length ≤ k → AL es true ld tl vis v k none ld tl vis
  | inHit {ld : List (List Int)} {tl : List Int} {vis : List Bool} {v k j : Nat} {ld1 : List (List Int)} {tl1 : List Int} {vis1 : List Bool} : (rowOf ld v)[k]? = some (j : Int) → AL es false ld tl vis j 0 (some 0) ld1 tl1 vis1 → AL es true ld tl vis v k (some k) ld1 tl1 vis1
  | inMiss {ld : List (List Int)} {tl : List Int} {vis : List Bool} {v k j : Nat} {ld1 : List (List Int)} {tl1 : List Int} {vis1 : List Bool} {r : Option Nat} {ld' : List (List Int)} {tl' : List Int} {vis' : List Bool} : (rowOf ld v)[k]? = some (j : Int) → AL es false ld tl vis j 0 none ld1 tl1 vis1 → AL es true ld1 tl1 vis1 v (k + 1) r ld' tl' vis' → AL es true ld tl vis v k r ld' tl' vis'

theorem vset_mono' (vis : List Bool) (b x : Nat) (h : visB vis x = true) : visB (vis.set b true) x = true := by
  unfold visB at h ⊢
  rw [List.getD_eq_getElem?_getD, List.getElem?_set]
  rw [List.getD_eq_getElem?_getD] at h
  split
  · split
    · rfl
    · rename_i h1 h2; rw [← h1, List.getElem?_eq_none (by omega)] at h; simp at h
  · exact h
section
variable {es : List (Int × Int)} {md : Bool} {ld : List (List Int)} {tl : List Int} {vis : List Bool} {x t : Nat} {r : Option Nat} {ld' : List (List Int)} {tl' : List Int} {vis' : List Bool}
theorem AL.vlen (h : AL es md ld tl vis x t r ld' tl' vis') : vis'.length = vis.length := by
  induction h with
  | outDone => rfl
  | outSkip _ _ _ ih => exact ih
  | outFree => simp
  | outHit _ _ _ _ _ ih => rw [ih]; simp
  | outMiss _ _ _ _ _ _ ih1 ih2 => rw [ih2, ih1]; simp
  | inDone => rfl
  | inHit _ _ ih => exact ih
  | inMiss _ _ _ ih1 ih2 => rw [ih2, ih1]
theorem AL.vmono (h : AL es md ld tl vis x t r ld' tl' vis') : ∀ y, visB vis y = true → visB vis' y = true := by
  induction h with
  | outDone => exact fun _ h => h
  | outSkip _ _ _ ih => exact ih
  | outFree => exact fun y hy => vset_mono' _ _ _ hy
  | outHit _ _ _ _ _ ih => exact fun y hy => ih y (vset_mono' _ _ _ hy)
  | outMiss _ _ _ _ _ _ ih1 ih2 => exact fun y hy => ih2 y (ih1 y (vset_mono' _ _ _ hy))
  | inDone => exact fun _ h => h
  | inHit _ _ ih => exact ih
  | inMiss _ _ _ ih1 ih2 => exact fun y hy => ih2 y (ih1 y hy)
/-- Both ends of edge j are visited. -/
def EV (es : List (Int × Int)) (vis : List Bool) (j : Nat) : Prop := visB vis (endOf es j 0) = true ∧ visB vis (endOf es j 1) = true
theorem EV.mono {vis vis' : List Bool} {j : Nat} (h : EV es vis j) (hm : ∀ y, visB vis y = true → visB vis' y = true) : EV es vis' j := ⟨hm _ h.1, hm _ h.2⟩
end
/-- The lists are in order at the points that are not visited. -/
structure AInv (n M : Nat) (es : List (Int × Int)) (ld : List (List Int)) (tl : List Int) (vis : List Bool) : Prop where
  llen : ld.length = n
  tlen : tl.length = M
  two : ∀ v, v < n → visB vis v = false → (rowOf ld v).length ≤ 2
  nod : ∀ v, v < n → visB vis v = false → (rowOf ld v).Nodup
  at_ : ∀ v, v < n → visB vis v = false → ∀ j ∈ rowOf ld v, ∃ k : Nat, j = (k : Int) ∧ k < M ∧ tl.getD k 0 = (v : Int) ∧ (endOf es k 0 = v ∨ endOf es k 1 = v)
/-- The rows hold numbers of edges. -/
def RowsNat (M : Nat) (ld : List (List Int)) : Prop := ∀ v, ∀ j ∈ rowOf ld v, 0 ≤ j ∧ j < M
theorem endOf_lt {n : Nat} {es : List (Int × Int)} (h : ∀ e ∈ es, OkE n e) {i t : Nat} (hi : i < es.length) : endOf es i t < n := by
  obtain ⟨h1, h2, h3, h4, h5⟩ := h _ (edAt_mem hi)
  unfold endOf; split <;> omega
theorem AL.no {es : List (Int × Int)} {md : Bool} {ld : List (List Int)} {tl : List Int} {vis : List Bool} {x t : Nat} {r : Option Nat} {ld' : List (List Int)} {tl' : List Int} {vis' : List Bool} {n : Nat} (hok : ∀ e ∈ es, OkE n e) (h : AL es md ld tl vis x t r ld' tl' vis') : RowsNat es.length ld → vis.length = n → (md = false → x < es.length) → r = none →
    ld' = ld ∧ tl' = tl ∧ (md = false → ∀ s, t ≤ s → s < 2 → visB vis' (endOf es x s) = true) ∧ (md = true → ∀ (k : Nat) (j : Nat), t ≤ k → (rowOf ld x)[k]? = some (j : Int) → EV es vis' j) ∧
      ∀ y, visB vis' y = true → visB vis y = false → 2 ≤ (rowOf ld y).length ∧ ∀ j : Nat, (j : Int) ∈ rowOf ld y → EV es vis' j := by
  induction h with
  | outDone h => exact fun _ _ _ _ => ⟨rfl, rfl, fun _ s h1 h2 => by omega, fun h => (by cases h), fun y h1 h2 => (by rw [h1] at h2; cases h2)⟩
  | @outSkip ld tl vis i t r ld' tl' vis' h1 h2 h3 ih =>
    intro hr hv hx hn
    obtain ⟨k1, k2, k3, -, k5⟩ := ih hr hv hx hn
    refine ⟨k1, k2, fun _ s hs hs2 => ?_, fun h => (by cases h), k5⟩
    by_cases e : s = t
    · subst e; exact h3.vmono _ h2
    · exact k3 rfl s (by omega) hs2
  | outFree => intro _ _ _ hn; cases hn
  | outHit => intro _ _ _ hn; cases hn
  | @outMiss ld tl vis i t v ld1 tl1 vis1 r ld' tl' vis' h1 h2 h3 h4 h5 h6 ih1 ih2 =>
    intro hr hv hx hn
    have hvn : v < n := by rw [← h2]; exact endOf_lt hok (hx rfl)
    obtain ⟨rfl, rfl, -, k4, k5⟩ := ih1 hr (by simpa using hv) (fun h => by cases h) rfl
    obtain ⟨m1, m2, m3, -, m5⟩ := ih2 hr (by rw [h5.vlen]; simpa using hv) hx hn
    have hvv : visB vis1 v = true := h5.vmono v (by rw [visB_set _ _ _ (by omega)]; simp)
    refine ⟨m1, m2, fun _ s hs hs2 => ?_, fun h => (by cases h), fun y hy hy0 => ?_⟩
    · by_cases e : s = t
      · subst e; rw [h2]; exact h6.vmono _ hvv
      · exact m3 rfl s (by omega) hs2
    · cases hy1 : visB vis1 y
      · exact m5 y hy hy1
      · by_cases e : y = v
        · subst e
          refine ⟨h4, fun j hj => ?_⟩
          obtain ⟨k, hk, he⟩ := List.getElem_of_mem hj
          exact (k4 rfl k j (Nat.zero_le _) (by rw [List.getElem?_eq_getElem hk, he])).mono h6.vmono
        · obtain ⟨q1, q2⟩ := k5 y hy1 (by rw [visB_set _ _ _ (by omega), hy0]; simp [e])
          exact ⟨q1, fun j hj => (q2 j hj).mono h6.vmono⟩
  | inDone h => exact fun _ _ _ _ => ⟨rfl, rfl, fun h => (by cases h), fun _ k j h1 h2 => (by have := getI_lt h2; omega), fun y h1 h2 => (by rw [h1] at h2; cases h2)⟩
  | inHit => intro _ _ _ hn; cases hn
  | @inMiss ld tl vis v k j ld1 tl1 vis1 r ld' tl' vis' h1 h2 h3 ih1 ih2 =>
    intro hr hv hx hn
    have hj := hr v _ (getI_mem h1)
    obtain ⟨rfl, rfl, k3, -, k5⟩ := ih1 hr hv (fun _ => by omega) rfl
    obtain ⟨m1, m2, -, m4, m5⟩ := ih2 hr (by rw [h2.vlen]; exact hv) (fun h => by cases h) hn
    refine ⟨m1, m2, fun h => (by cases h), fun _ k' j' hk' hj' => ?_, fun y hy hy0 => ?_⟩
    · by_cases e : k' = k
      · subst e
        rw [h1] at hj'
        have e2 : j = j' := by injection hj' with hj'; omega
        subst e2
        exact EV.mono ⟨k3 rfl 0 (by omega) (by omega), k3 rfl 1 (by omega) (by omega)⟩ h3.vmono
      · exact m4 rfl k' j' (by omega) hj'
    · cases hy1 : visB vis1 y
      · exact m5 y hy hy1
      · obtain ⟨q1, q2⟩ := k5 y hy1 hy0
        exact ⟨q1, fun j hj => (q2 j hj).mono h3.vmono⟩

/-- A place for edge i has been found at a point that was not visited. -/
structure AYes (n M : Nat) (es : List (Int × Int)) (ld : List (List Int)) (tl : List Int) (vis : List Bool) (i : Nat) (ld' : List (List Int)) (tl' : List Int) : Prop where
  inv : AInv n M es ld' tl' vis
  same : ∀ v, visB vis v = true → rowOf ld' v = rowOf ld v
  tsame : ∀ j : Nat, j ≠ i → (∀ v, v < n → visB vis v = false → ¬ (j : Int) ∈ rowOf ld v) → tl'.getD j 0 = tl.getD j 0
  put : ∃ v, v < n ∧ visB vis v = false ∧ (i : Int) ∈ rowOf ld' v
  old : ∀ v, v < n → visB vis v = false → ∀ j ∈ rowOf ld v, ∃ u, u < n ∧ visB vis u = false ∧ j ∈ rowOf ld' u
  new : ∀ v, v < n → visB vis v = false → ∀ j ∈ rowOf ld' v, j = (i : Int) ∨ ∃ u, u < n ∧ visB vis u = false ∧ j ∈ rowOf ld u
theorem AInv.more {n M : Nat} {es : List (Int × Int)} {ld : List (List Int)} {tl : List Int} {vis vis' : List Bool} (h : AInv n M es ld tl vis) (hm : ∀ y, visB vis y = true → visB vis' y = true) : AInv n M es ld tl vis' := by
  have key : ∀ v, visB vis' v = false → visB vis v = false := fun v hv => by
    cases e : visB vis v
    · rfl
    · rw [hm v e] at hv; cases hv
  exact ⟨h.llen, h.tlen, fun v h1 h2 => h.two v h1 (key v h2), fun v h1 h2 => h.nod v h1 (key v h2), fun v h1 h2 => h.at_ v h1 (key v h2)⟩
/-- What was found among fewer points serves for more. -/
theorem AYes.wider {n M : Nat} {es : List (Int × Int)} {ld : List (List Int)} {tl : List Int} {vis vis1 : List Bool} {i : Nat} {ld' : List (List Int)} {tl' : List Int} (hi : AInv n M es ld tl vis) (hno : ∀ v, v < n → visB vis v = false → ¬ (i : Int) ∈ rowOf ld v)
    (hm : ∀ y, visB vis y = true → visB vis1 y = true) (h : AYes n M es ld tl vis1 i ld' tl') : AYes n M es ld tl vis i ld' tl' := by
  have key : ∀ v, visB vis1 v = false → visB vis v = false := fun v hv => by
    cases e : visB vis v
    · rfl
    · rw [hm v e] at hv; cases hv
  have tk : ∀ v, v < n → visB vis v = false → visB vis1 v = true → ∀ j : Nat, (j : Int) ∈ rowOf ld v → tl'.getD j 0 = tl.getD j 0 := fun v hv h0 h1 j hj => by
    refine h.tsame j (fun e => hno v hv h0 (e ▸ hj)) (fun u hu hu1 hju => ?_)
    obtain ⟨k, e1, -, e2, -⟩ := hi.at_ v hv h0 _ hj
    obtain ⟨k', e3, -, e4, -⟩ := hi.at_ u hu (key u hu1) _ hju
    have : k = k' := by omega
    subst this
    rw [e2] at e4
    have : v = u := by omega
    subst this
    rw [h1] at hu1; cases hu1
  refine ⟨⟨h.inv.llen, h.inv.tlen, fun v hv h0 => ?_, fun v hv h0 => ?_, fun v hv h0 j hj => ?_⟩, fun v hv => h.same v (hm v hv), fun j hj hn => h.tsame j hj (fun u hu hu1 => hn u hu (key u hu1)), ?_, fun v hv h0 j hj => ?_, fun v hv h0 j hj => ?_⟩
  · cases e : visB vis1 v
    · exact h.inv.two v hv e
    · rw [h.same v e]; exact hi.two v hv h0
  · cases e : visB vis1 v
    · exact h.inv.nod v hv e
    · rw [h.same v e]; exact hi.nod v hv h0
  · cases e : visB vis1 v
    · exact h.inv.at_ v hv e j hj
    · rw [h.same v e] at hj
      obtain ⟨k, rfl, e1, e2, e3⟩ := hi.at_ v hv h0 j hj
      exact ⟨k, rfl, e1, by rw [tk v hv h0 e k hj]; exact e2, e3⟩
  · obtain ⟨v, h1, h2, h3⟩ := h.put
    exact ⟨v, h1, key v h2, h3⟩
  · cases e : visB vis1 v
    · obtain ⟨u, h1, h2, h3⟩ := h.old v hv e j hj
      exact ⟨u, h1, key u h2, h3⟩
    · exact ⟨v, hv, h0, by rw [h.same v e]; exact hj⟩
  · cases e : visB vis1 v
    · rcases h.new v hv e j hj with h1 | ⟨u, h1, h2, h3⟩
      · exact .inl h1
      · exact .inr ⟨u, h1, key u h2, h3⟩
    · rw [h.same v e] at hj
      exact .inr ⟨v, hv, h0, hj⟩
theorem getD_set_nat {tl : List Int} {i j : Nat} {x : Int} (hi : i < tl.length) : (tl.set i x).getD j 0 = if j = i then x else tl.getD j 0 := by
  rw [List.getD_eq_getElem?_getD, List.getElem?_set, List.getD_eq_getElem?_getD]
  by_cases e : j = i
  · subst e; simp [hi]
  · rw [if_neg (Ne.symm e), if_neg e]
theorem nodup_set {l : List Int} {k : Nat} {x : Int} (h : l.Nodup) (hx : ¬ x ∈ l) : (l.set k x).Nodup := by
  induction l generalizing k with
  | nil => simp
  | cons y l ih =>
    rw [List.nodup_cons] at h
    simp only [List.mem_cons, not_or] at hx
    cases k with
    | zero => rw [List.set_cons_zero, List.nodup_cons]; exact ⟨hx.2, h.2⟩
    | succ k =>
      rw [List.set_cons_succ, List.nodup_cons]
      refine ⟨fun hm => ?_, ih h.2 hx.2⟩
      rcases List.mem_or_eq_of_mem_set hm with h1 | h1
      · exact h.1 h1
      · exact hx.1 h1.symm
theorem mem_set_ne {l : List Int} {k : Nat} {x y z : Int} (h : l.Nodup) (hk : l[k]? = some z) (hy : y ∈ l.set k x) : y = x ∨ (y ∈ l ∧ y ≠ z) := by
  induction l generalizing k with
  | nil => simp at hk
  | cons a l ih =>
    rw [List.nodup_cons] at h
    cases k with
    | zero =>
      simp at hk; subst hk
      rw [List.set_cons_zero, List.mem_cons] at hy
      rcases hy with hy | hy
      · exact .inl hy
      · exact .inr ⟨by simp [hy], fun e => h.1 (e ▸ hy)⟩
    | succ k =>
      rw [List.set_cons_succ, List.mem_cons] at hy
      have hz : l[k]? = some z := by simpa using hk
      rcases hy with hy | hy
      · exact .inr ⟨by simp [hy], fun e => h.1 (by rw [← hy, e]; exact List.mem_of_getElem? hz)⟩
      · rcases ih h.2 hz hy with h1 | ⟨h1, h2⟩
        · exact .inl h1
        · exact .inr ⟨by simp [h1], h2⟩
theorem mem_set_of {l : List Int} {k : Nat} {x y z : Int} (hk : l[k]? = some z) (hy : y ∈ l) (hne : y ≠ z) : y ∈ l.set k x := by
  induction l generalizing k with
  | nil => simp at hy
  | cons a l ih =>
    cases k with
    | zero =>
      simp at hk; subst hk
      rw [List.mem_cons] at hy
      rcases hy with hy | hy
      · exact absurd hy hne
      · rw [List.set_cons_zero]; simp [hy]
    | succ k =>
      rw [List.mem_cons] at hy
      rw [List.set_cons_succ, List.mem_cons]
      rcases hy with hy | hy
      · exact .inl hy
      · exact .inr (ih (by simpa using hk) hy)
end Go.Proofs.Ytbhkdodokdgijaa
