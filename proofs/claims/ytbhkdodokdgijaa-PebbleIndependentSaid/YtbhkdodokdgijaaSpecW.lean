/-
  Assigning edges to their ends: what a search that succeeds leaves. No program stands in this text.
-/
import Derived.Test.YtbhkdodokdgijaaSpecV
namespace Go.Proofs.Ytbhkdodokdgijaa
set_option linter.unusedVariables false
set_option linter.unusedSimpArgs false

theorem rowOf_set' (ld : List (List Int)) (a x : Nat) (r : List Int) (ha : a < ld.length) : rowOf (ld.set a r) x = if x = a then r else rowOf ld x := rowOf_set ld a x r ha
theorem AL.yes {es : List (Int × Int)} {md : Bool} {ld : List (List Int)} {tl : List Int} {vis : List Bool} {x t : Nat} {r : Option Nat} {ld' : List (List Int)} {tl' : List Int} {vis' : List Bool} {n : Nat} (hok : ∀ e ∈ es, OkE n e) (h : AL es md ld tl vis x t r ld' tl' vis') : RowsNat es.length ld → vis.length = n → AInv n es.length es ld tl vis →
    (md = false → x < es.length ∧ (∀ v, v < n → visB vis v = false → ¬ (x : Int) ∈ rowOf ld v) → ∀ k, r = some k → AYes n es.length es ld tl vis x ld' tl') ∧
    (md = true → visB vis x = true ∧ (∀ j ∈ rowOf ld x, ∀ v, v < n → visB vis v = false → ¬ j ∈ rowOf ld v) → ∀ k, r = some k → ∃ j : Nat, (rowOf ld x)[k]? = some (j : Int) ∧ AYes n es.length es ld tl vis j ld' tl') := by
  induction h with
  | outDone => exact fun _ _ _ => ⟨fun _ _ k hk => (by cases hk), fun h => (by cases h)⟩
  | outSkip h1 h2 h3 ih =>
    intro hr hv hi
    exact ⟨(ih hr hv hi).1, fun h => (by cases h)⟩
  | @outFree ld tl vis i t v h1 h2 h3 h4 =>
    intro hr hv hi
    refine ⟨fun _ ⟨hx, hno⟩ k _ => ?_, fun h => (by cases h)⟩
    have hvn : v < n := by rw [← h2]; exact endOf_lt hok hx
    have hvl : v < ld.length := by rw [hi.llen]; exact hvn
    have hil : i < tl.length := by rw [hi.tlen]; exact hx
    have hnv := hno v hvn h3
    have hne : ∀ u, u < n → visB vis u = false → ∀ j : Nat, (j : Int) ∈ rowOf ld u → j ≠ i := fun u hu h0 j hj e => hno u hu h0 (e ▸ hj)
    refine ⟨⟨by rw [List.length_set]; exact hi.llen, by rw [List.length_set]; exact hi.tlen, fun u hu h0 => ?_, fun u hu h0 => ?_, fun u hu h0 j hj => ?_⟩, fun u hu => ?_, fun j hj hn => ?_, ⟨v, hvn, h3, ?_⟩, fun u hu h0 j hj => ⟨u, hu, h0, ?_⟩, fun u hu h0 j hj => ?_⟩
    · rw [rowOf_set _ _ _ _ hvl]; split
      · simp; omega
      · exact hi.two u hu h0
    · rw [rowOf_set _ _ _ _ hvl]; split
      · rw [List.nodup_append]
        exact ⟨hi.nod v hvn h3, by simp, fun a ha b hb e => by simp at hb; subst hb; subst e; exact hnv ha⟩
      · exact hi.nod u hu h0
    · rw [rowOf_set _ _ _ _ hvl] at hj
      have keep : ∀ u, u < n → visB vis u = false → ∀ j ∈ rowOf ld u, ∃ k : Nat, j = (k : Int) ∧ k < es.length ∧ (tl.set i (v : Int)).getD k 0 = (u : Int) ∧ (endOf es k 0 = u ∨ endOf es k 1 = u) := fun u hu h0 j hj => by
        obtain ⟨k, rfl, e1, e2, e3⟩ := hi.at_ u hu h0 j hj
        exact ⟨k, rfl, e1, by rw [getD_set_nat hil, if_neg (hne u hu h0 k hj : ¬ k = i)]; exact e2, e3⟩
      split at hj
      · rename_i e
        subst e
        rw [List.mem_append] at hj
        rcases hj with hj | hj
        · exact keep u hu h0 j hj
        · simp at hj
          subst hj
          refine ⟨i, rfl, hx, by rw [getD_set_nat hil, if_pos rfl], ?_⟩
          rw [← h2]
          rcases (show t = 0 ∨ t = 1 by omega) with rfl | rfl
          · exact .inl rfl
          · exact .inr rfl
      · exact keep u hu h0 j hj
    · rw [rowOf_set _ _ _ _ hvl, if_neg (fun e => by rw [e, h3] at hu; cases hu)]
    · rw [getD_set_nat hil, if_neg hj]
    · rw [rowOf_set _ _ _ _ hvl, if_pos rfl]; simp
    · rw [rowOf_set _ _ _ _ hvl]; split
      · rename_i e; subst e; simp [hj]
      · exact hj
    · rw [rowOf_set _ _ _ _ hvl] at hj
      split at hj
      · rename_i e
        subst e
        rw [List.mem_append] at hj
        rcases hj with hj | hj
        · exact .inr ⟨u, hu, h0, hj⟩
        · simp at hj; exact .inl hj
      · exact .inr ⟨u, hu, h0, hj⟩
  | @outHit ld tl vis i t v k0 ld1 tl1 vis1 h1 h2 h3 h4 h5 ih =>
    intro hr hv hi
    refine ⟨fun _ ⟨hx, hno⟩ k _ => ?_, fun h => (by cases h)⟩
    have hvn : v < n := by rw [← h2]; exact endOf_lt hok hx
    have hm : ∀ y, visB vis y = true → visB (vis.set v true) y = true := fun y hy => vset_mono' _ _ _ hy
    have hvv : visB (vis.set v true) v = true := by rw [visB_set _ _ _ (by omega)]; simp
    have hun : ∀ u, visB (vis.set v true) u = false → visB vis u = false ∧ u ≠ v := fun u hu => by
      rw [visB_set _ _ _ (by omega), Bool.or_eq_false_iff] at hu
      exact ⟨hu.2, by simpa using hu.1⟩
    have hun' : ∀ u, visB vis u = false → u ≠ v → visB (vis.set v true) u = false := fun u hu hne => by
      rw [visB_set _ _ _ (by omega), hu]; simp [hne]
    have hown : ∀ j ∈ rowOf ld v, ∀ u, u < n → visB (vis.set v true) u = false → ¬ j ∈ rowOf ld u := fun j hj u hu hu1 hju => by
      obtain ⟨a1, a2⟩ := hun u hu1
      obtain ⟨k, rfl, -, e2, -⟩ := hi.at_ v hvn h3 j hj
      obtain ⟨k', e3, -, e4, -⟩ := hi.at_ u hu a1 _ hju
      have : k = k' := by omega
      subst this
      rw [e2] at e4
      exact a2 (by omega)
    obtain ⟨j0, hj0, hy⟩ := (ih hr (by simpa using hv) (hi.more hm)).2 rfl ⟨hvv, hown⟩ k0 rfl
    have hrow : rowOf ld1 v = rowOf ld v := hy.same v hvv
    have hvl : v < ld1.length := by rw [hy.inv.llen]; exact hvn
    have hil : i < tl1.length := by rw [hy.inv.tlen]; exact hx
    have hnv := hno v hvn h3
    have hj0m := getI_mem hj0
    have hj0i : j0 ≠ i := fun e => hnv (e ▸ hj0m)
    have hnd := hi.nod v hvn h3
    have hnew_i : ∀ u, u < n → visB (vis.set v true) u = false → ∀ j : Nat, (j : Int) ∈ rowOf ld1 u → j ≠ i := fun u hu h0 j hj e => by
      subst e
      rcases hy.new u hu h0 _ hj with e | ⟨u', hu', h0', hj'⟩
      · exact hj0i (by omega)
      · exact hno u' hu' (hun u' h0').1 hj'
    have htl : ∀ j : Nat, (j : Int) ∈ rowOf ld v → j ≠ j0 → tl1.getD j 0 = tl.getD j 0 := fun j hj hne => hy.tsame j hne (fun u hu h0 => hown _ hj u hu h0)
    rw [hrow]
    refine ⟨⟨by rw [List.length_set]; exact hy.inv.llen, by rw [List.length_set]; exact hy.inv.tlen, fun u hu h0 => ?_, fun u hu h0 => ?_, fun u hu h0 j hj => ?_⟩, fun u hu => ?_, fun j hj hn => ?_, ⟨v, hvn, h3, ?_⟩, fun u hu h0 j hj => ?_, fun u hu h0 j hj => ?_⟩
    · rw [rowOf_set _ _ _ _ hvl]; split
      · rw [List.length_set]; exact hi.two v hvn h3
      · rename_i e; exact hy.inv.two u hu (hun' u h0 e)
    · rw [rowOf_set _ _ _ _ hvl]; split
      · exact nodup_set hnd hnv
      · rename_i e; exact hy.inv.nod u hu (hun' u h0 e)
    · rw [rowOf_set _ _ _ _ hvl] at hj
      split at hj
      · rename_i e
        subst e
        rcases mem_set_ne hnd hj0 hj with rfl | ⟨hm2, hne⟩
        · refine ⟨i, rfl, hx, by rw [getD_set_nat hil, if_pos rfl], ?_⟩
          rw [← h2]
          rcases (show t = 0 ∨ t = 1 by omega) with rfl | rfl
          · exact .inl rfl
          · exact .inr rfl
        · obtain ⟨q, rfl, e1, e2, e3⟩ := hi.at_ u hu h0 j hm2
          exact ⟨q, rfl, e1, by rw [getD_set_nat hil, if_neg (fun (e : q = i) => hnv (e ▸ hm2)), htl q hm2 (fun (e : q = j0) => hne (by rw [e]))]; exact e2, e3⟩
      · rename_i e
        obtain ⟨q, rfl, e1, e2, e3⟩ := hy.inv.at_ u hu (hun' u h0 e) j hj
        exact ⟨q, rfl, e1, by rw [getD_set_nat hil, if_neg (hnew_i u hu (hun' u h0 e) q hj : ¬ q = i)]; exact e2, e3⟩
    · rw [rowOf_set _ _ _ _ hvl, if_neg (fun e => by rw [e, h3] at hu; cases hu)]
      exact hy.same u (hm u hu)
    · rw [getD_set_nat hil, if_neg hj]
      exact hy.tsame j (fun e => hn v hvn h3 (e ▸ hj0m)) (fun u hu h0 => hn u hu (hun u h0).1)
    · rw [rowOf_set _ _ _ _ hvl, if_pos rfl]
      exact List.mem_of_getElem? (by rw [List.getElem?_set, if_pos rfl, if_pos (getI_lt hj0)])
    · by_cases e : u = v
      · subst e
        by_cases e2 : j = (j0 : Int)
        · obtain ⟨u', b1, b2, b3⟩ := hy.put
          refine ⟨u', b1, (hun u' b2).1, ?_⟩
          rw [rowOf_set _ _ _ _ hvl, if_neg (hun u' b2).2, e2]; exact b3
        · refine ⟨u, hu, h0, ?_⟩
          rw [rowOf_set _ _ _ _ hvl, if_pos rfl]
          exact mem_set_of hj0 hj e2
      · obtain ⟨u', b1, b2, b3⟩ := hy.old u hu (hun' u h0 e) j hj
        refine ⟨u', b1, (hun u' b2).1, ?_⟩
        rw [rowOf_set _ _ _ _ hvl, if_neg (hun u' b2).2]; exact b3
    · rw [rowOf_set _ _ _ _ hvl] at hj
      split at hj
      · rename_i e
        subst e
        rcases mem_set_ne hnd hj0 hj with h' | ⟨hm2, -⟩
        · exact .inl h'
        · exact .inr ⟨u, hu, h0, hm2⟩
      · rename_i e
        rcases hy.new u hu (hun' u h0 e) j hj with h' | ⟨u', b1, b2, b3⟩
        · exact .inr ⟨v, hvn, h3, by rw [h']; exact hj0m⟩
        · exact .inr ⟨u', b1, (hun u' b2).1, b3⟩
  | @outMiss ld tl vis i t v ld1 tl1 vis1 r ld' tl' vis' h1 h2 h3 h4 h5 h6 ih1 ih2 =>
    intro hr hv hi
    refine ⟨fun _ ⟨hx, hno⟩ k hk => ?_, fun h => (by cases h)⟩
    obtain ⟨rfl, rfl, -, -, -⟩ := h5.no hok hr (by simpa using hv) (fun h => by cases h) rfl
    have hm : ∀ y, visB vis y = true → visB vis1 y = true := fun y hy => h5.vmono y (vset_mono' _ _ _ hy)
    have key : ∀ u, visB vis1 u = false → visB vis u = false := fun u hu => by
      cases e : visB vis u
      · rfl
      · rw [hm u e] at hu; cases hu
    have := (ih2 hr (by rw [h5.vlen]; simpa using hv) (hi.more hm)).1 rfl ⟨hx, fun u hu h0 => hno u hu (key u h0)⟩ k hk
    exact this.wider hi hno hm
  | inDone => exact fun _ _ _ => ⟨fun h => (by cases h), fun _ _ k hk => (by cases hk)⟩
  | @inHit ld tl vis v k j ld1 tl1 vis1 h1 h2 ih =>
    intro hr hv hi
    refine ⟨fun h => (by cases h), fun _ ⟨hvv, hown⟩ k' hk' => ?_⟩
    obtain rfl := Option.some.inj hk'
    have hj := hr v _ (getI_mem h1)
    exact ⟨j, h1, (ih hr hv hi).1 rfl ⟨by omega, hown _ (getI_mem h1)⟩ 0 rfl⟩
  | @inMiss ld tl vis v k j ld1 tl1 vis1 r ld' tl' vis' h1 h2 h3 ih1 ih2 =>
    intro hr hv hi
    refine ⟨fun h => (by cases h), fun _ ⟨hvv, hown⟩ k' hk' => ?_⟩
    have hj := hr v _ (getI_mem h1)
    obtain ⟨rfl, rfl, -, -, -⟩ := h2.no hok hr hv (fun _ => by omega) rfl
    have hm := h2.vmono
    have key : ∀ u, visB vis1 u = false → visB vis u = false := fun u hu => by
      cases e : visB vis u
      · rfl
      · rw [hm u e] at hu; cases hu
    obtain ⟨j', hj', hy⟩ := (ih2 hr (by rw [h2.vlen]; exact hv) (hi.more hm)).2 rfl ⟨hm v hvv, fun q hq u hu h0 => hown q hq u hu (key u h0)⟩ k' hk'
    exact ⟨j', hj', hy.wider hi (hown _ (getI_mem hj')) hm⟩
end Go.Proofs.Ytbhkdodokdgijaa
