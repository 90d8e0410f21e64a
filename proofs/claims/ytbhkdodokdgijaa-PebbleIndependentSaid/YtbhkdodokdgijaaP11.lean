/-
  An assignment of edges to tails in memory.
-/
import Derived.Test.YtbhkdodokdgijaaP4
import Derived.Test.YtbhkdodokdgijaaSpecX
namespace Go.Proofs.Ytbhkdodokdgijaa
set_option linter.unusedVariables false
set_option linter.unusedSimpArgs false
open Go.RowKit Go.Sort

theorem OwnM.setElem {w : World} {base n c go gr d k v : Nat} {hs : List (Option Addr × Nat)} {ls : List (List Int)} {l : List Int} {x : Int}
    (h : OwnM w base (some ⟨go, 0, none⟩) n c hs ls) (p : hs[v]? = some (some ⟨gr, 0, none⟩, d)) (q : ls[v]? = some l) : OwnM (w.setCell ⟨gr, k, none⟩ (.int .i64 x)) base (some ⟨go, 0, none⟩) n c hs (ls.set v (l.set k x)) := by
  have hrow := h.row v _ _ p q
  have hvl : v < ls.length := by
    rcases Nat.lt_or_ge v ls.length with h' | h'
    · exact h'
    · rw [List.getElem?_eq_none h'] at q; cases q
  have hne : blk (some ⟨go, 0, none⟩) ≠ some gr := by
    have := hrow.apart_type h.outer (by decide)
    rcases this with h' | h'
    · simp [blk] at h'
    · exact fun e => h' (by rw [e]; rfl)
  refine ⟨by rw [List.length_set]; exact h.len, h.hlen, ?_, fun i hd l' a b => ?_, h.far⟩
  · have e : heads hs (ls.set v (l.set k x)) = heads hs ls := by
      have e1 := heads_set (some ⟨gr, 0, none⟩, d) (l.set k x) hs ls v
      have e2 := heads_set (some ⟨gr, 0, none⟩, d) l hs ls v
      have hh : hs.set v (some ⟨gr, 0, none⟩, d) = hs := by
        apply List.ext_getElem?
        intro j
        rw [List.getElem?_set]
        split
        · rename_i e; subst e
          split
          · exact p.symm
          · rename_i h'; rw [List.getElem?_eq_none (by omega)] at p; cases p
        · rfl
      have hl : ls.set v l = ls := by
        apply List.ext_getElem?
        intro j
        rw [List.getElem?_set]
        split
        · rename_i e; subst e; first | (rw [if_pos hvl]; exact q.symm) | exact q.symm
        · rfl
      rw [hh] at e1 e2
      rw [hl] at e2
      rw [e1, List.length_set, ← e2]
    rw [e]
    exact h.outer.setFar (.inr hne) _
  · rw [List.getElem?_set] at b
    by_cases e : v = i
    · subst e
      rw [if_pos rfl, if_pos hvl] at b
      obtain rfl := Option.some.inj b
      rw [p] at a
      obtain rfl := Option.some.inj a
      rw [List.length_set]
      exact hrow.store k x
    · rw [if_neg e] at b
      refine (h.row i hd l' a b).setFar ?_ _
      rcases h.far i v hd _ (Ne.symm e) a p with h' | h'
      · exact .inl h'
      · exact .inr h'

structure AM (w : World) (base b go gt n M : Nat) (hs : List (Option Addr × Nat)) (ld : List (List Int)) (tl : List Int) (E : Option Addr) (cE : Nat) (es : List (Int × Int)) : Prop where
  st : w.heap[b]? = some (.cells #[.slice E M cE, .slice (some ⟨gt, 0, none⟩) M M, .slice (some ⟨go, 0, none⟩) n n] 73 (0, 0))
  lo : base ≤ b
  om : OwnM w base (some ⟨go, 0, none⟩) n n hs ld
  ta : Own w base 3 1 (some ⟨gt, 0, none⟩) M M (ints tl)
  far : ¬ Ft go hs gt
  eds : ∃ base', Own w base' 45 2 E M cE (prs es)
section
variable {w w' : World} {base b go gt n M cE : Nat} {hs : List (Option Addr × Nat)} {ld : List (List Int)} {tl : List Int} {E : Option Addr} {es : List (Int × Int)}
theorem AM.lt (h : AM w base b go gt n M hs ld tl E cE es) : b < w.heap.size := by
  rcases Nat.lt_or_ge b w.heap.size with h' | h'
  · exact h'
  · have := h.st; rw [Array.getElem?_eq_none h'] at this; cases this
theorem AM.c0 (h : AM w base b go gt n M hs ld tl E cE es) : w.cell? ⟨b, 0, none⟩ = some (.slice E M cE) := by simp [World.cell?, h.st]
theorem AM.c1 (h : AM w base b go gt n M hs ld tl E cE es) : w.cell? ⟨b, 1, none⟩ = some (.slice (some ⟨gt, 0, none⟩) M M) := by simp [World.cell?, h.st]
theorem AM.c2 (h : AM w base b go gt n M hs ld tl E cE es) : w.cell? ⟨b, 2, none⟩ = some (.slice (some ⟨go, 0, none⟩) n n) := by simp [World.cell?, h.st]
/-- A block that holds other things than the struct. -/
theorem AM.ne (h : AM w base b go gt n M hs ld tl E cE es) {g : Nat} {cur : Array Value} {e : TypeId} (hg : w.heap[g]? = some (.cells cur e (0, 0))) (he : e ≠ 73) : g ≠ b := by
  intro e1
  subst e1
  rw [h.st] at hg
  injection hg with hg
  injection hg with _ h2
  exact he h2.symm
theorem AM.not_ft (h : AM w base b go gt n M hs ld tl E cE es) : ¬ Ft go hs b := fun hk => by
  obtain ⟨-, -, cur, e, hh, he⟩ := h.om.ft (A := none) hk
  exact h.ne hh (by rcases he with rfl | rfl <;> decide) rfl
theorem AM.gt_ne (h : AM w base b go gt n M hs ld tl E cE es) : gt ≠ b := by
  obtain ⟨cur, hh⟩ := h.ta.block_type (g := gt) rfl
  exact h.ne hh (by decide)
theorem AM.ed_not (h : AM w base b go gt n M hs ld tl E cE es) {k : Nat} (hk : blk E = some k) : k ≠ b ∧ ¬ Ft go hs k ∧ k ≠ gt := by
  obtain ⟨base', ho⟩ := h.eds
  obtain ⟨cur, hh⟩ := ho.block_type hk
  refine ⟨h.ne hh (by decide), fun hf => ?_, fun e => ?_⟩
  · obtain ⟨-, -, cur', e, h2, he⟩ := h.om.ft (A := none) hf
    rw [hh] at h2; injection h2 with h2; injection h2 with _ h2
    subst h2
    rcases he with he | he <;> revert he <;> decide
  · subst e
    obtain ⟨cur', h2⟩ := h.ta.block_type (g := k) rfl
    rw [hh] at h2; injection h2 with h2; injection h2 with _ h2
    revert h2; decide
theorem AM.fr {F : Nat → Prop} (h : AM w base b go gt n M hs ld tl E cE es) (hf : Fr F w w') (h1 : ∀ k, Ft go hs k → ¬ F k) (h2 : ¬ F gt) (h3 : ¬ F b) (h4 : ∀ k, blk E = some k → ¬ F k) : AM w' base b go gt n M hs ld tl E cE es :=
  ⟨by rw [hf.block b h.lt h3]; exact h.st, h.lo, h.om.fr rfl hf h1, Fr.own h.ta hf (fun k hk => by simp [blk] at hk; subst hk; exact h2), h.far, h.eds.elim fun base' ho => ⟨base', Fr.own ho hf h4⟩⟩
theorem AM.later (h : AM w base b go gt n M hs ld tl E cE es) (hb : Below w.heap.size w w') : AM w' base b go gt n M hs ld tl E cE es :=
  h.fr (F := fun _ => False) (Fr.of_below hb) (fun _ _ h => h) (fun h => h) (fun h => h) (fun _ _ h => h)
/-- A block of Booleans is none of it. -/
theorem AM.vis (h : AM w base b go gt n M hs ld tl E cE es) {gv bv m d : Nat} {xs : List Value} (hv : Own w bv 4 1 (some ⟨gv, 0, none⟩) m d xs) : ¬ Ft go hs gv ∧ gv ≠ gt ∧ gv ≠ b ∧ ∀ k, blk E = some k → k ≠ gv := by
  obtain ⟨cur, hh⟩ := hv.block_type (g := gv) rfl
  refine ⟨fun hf => ?_, fun e => ?_, h.ne hh (by decide), fun k hk e => ?_⟩
  · obtain ⟨-, -, cur', e, h2, he⟩ := h.om.ft (A := none) hf
    rw [hh] at h2; injection h2 with h2; injection h2 with _ h2
    subst h2
    rcases he with he | he <;> revert he <;> decide
  · subst e
    obtain ⟨cur', h2⟩ := h.ta.block_type (g := gv) rfl
    rw [hh] at h2; injection h2 with h2; injection h2 with _ h2
    revert h2; decide
  · subst e
    obtain ⟨base', ho⟩ := h.eds
    obtain ⟨cur', h2⟩ := ho.block_type hk
    rw [hh] at h2; injection h2 with h2; injection h2 with _ h2
    revert h2; decide
theorem AM.visited {gv bv a : Nat} {l : List Bool} (h : AM w base b go gt n M hs ld tl E cE es) (hv : Own w bv 4 1 (some ⟨gv, 0, none⟩) n n (bools l)) (u : Value) : AM (w.setCell ⟨gv, a, none⟩ u) base b go gt n M hs ld tl E cE es := by
  obtain ⟨h1, h2, h3, h4⟩ := h.vis hv
  exact h.fr ((Fr.refl (fun k => k = gv) w).setCell (p := ⟨gv, a, none⟩) (.inl rfl) u) (fun k hk e => h1 (e ▸ hk)) (Ne.symm h2) (Ne.symm h3) (fun k hk e => h4 k hk e)
theorem AM.row_at (h : AM w base b go gt n M hs ld tl E cE es) {a : Nat} (ha : a < n) : ∃ hd, hs[a]? = some hd ∧ ld[a]? = some (rowOf ld a) ∧ w.cell? ⟨go, a, none⟩ = some (.slice hd.1 (rowOf ld a).length hd.2) ∧ Own w base 3 1 hd.1 (rowOf ld a).length hd.2 (ints (rowOf ld a)) := by
  have hl : a < ld.length := by rw [h.om.len]; exact ha
  have e := rowOf_some hl
  obtain ⟨hd, hh⟩ := h.om.get e
  exact ⟨hd, hh, e, h.om.head_at hh e, h.om.row a hd _ hh e⟩
theorem AM.setTail (h : AM w base b go gt n M hs ld tl E cE es) (i : Nat) (x : Int) : AM (w.setCell ⟨gt, i, none⟩ (.int .i64 x)) base b go gt n M hs ld (tl.set i x) E cE es ∧ ∀ V : Nat → Prop, V gt → GStep V w (w.setCell ⟨gt, i, none⟩ (.int .i64 x)) go hs hs := by
  have hf := (Fr.refl (fun k => k = gt) w).setCell (p := ⟨gt, i, none⟩) (.inl rfl) (.int .i64 x)
  refine ⟨⟨by rw [Below.heap_setCell _ _ _ _ (Ne.symm h.gt_ne)]; exact h.st, h.lo, h.om.fr rfl hf (fun k hk e => h.far (e ▸ hk)), h.ta.store i x, h.far, h.eds.elim fun base' ho => ⟨base', Fr.own ho hf (fun k hk e => (h.ed_not hk).2.2 e)⟩⟩, fun V hV => ⟨hf.mono (fun k _ e => .inr (e ▸ hV)), fun _ _ h => h⟩⟩
theorem AM.setElem (h : AM w base b go gt n M hs ld tl E cE es) {v gr d k : Nat} {l : List Int} {x : Int} (p : hs[v]? = some (some ⟨gr, 0, none⟩, d)) (q : ld[v]? = some l) : AM (w.setCell ⟨gr, k, none⟩ (.int .i64 x)) base b go gt n M hs (ld.set v (l.set k x)) tl E cE es ∧ ∀ V : Nat → Prop, GStep V w (w.setCell ⟨gr, k, none⟩ (.int .i64 x)) go hs hs := by
  have hf := (Fr.refl (fun k => k = gr) w).setCell (p := ⟨gr, k, none⟩) (.inl rfl) (.int .i64 x)
  have hgr : Ft go hs gr := .inr ⟨_, List.mem_of_getElem? p, rfl⟩
  refine ⟨⟨by rw [Below.heap_setCell _ _ _ _ (fun (e : b = gr) => h.not_ft (e ▸ hgr))]; exact h.st, h.lo, h.om.setElem p q, Fr.own h.ta hf (fun j hj e => by simp [blk] at hj; subst hj; subst e; exact h.far hgr), h.far, h.eds.elim fun base' ho => ⟨base', Fr.own ho hf (fun j hj e => (h.ed_not hj).2.1 (e ▸ hgr))⟩⟩, fun V => ⟨hf.mono (fun k _ e => .inl (e ▸ hgr)), fun _ _ h => h⟩⟩
end
/-- Behind 'x.load[v] = append(x.load[v], i)'. -/
theorem AM.push {wa w7 : World} {base b go gt n M cE d v : Nat} {B : Option Addr} {hs : List (Option Addr × Nat)} {ld : List (List Int)} {tl : List Int} {E : Option Addr} {es : List (Int × Int)} {hd : Option Addr × Nat} {l : List Int} {x : Int} {m : Nat}
    (h : AM wa base b go gt n M hs ld tl E cE es) (p : hs[v]? = some hd) (q : ld[v]? = some l) (hm : l.length = m) (hg : wa.grownBy w7 (blk hd.1)) (ho : Own w7 base 3 1 B (m + 1) d (ints l ++ ints [x])) (hB : blk B = blk hd.1 ∨ blk B = some wa.heap.size) :
    AM (w7.setCell ⟨go, v, none⟩ (.slice B (m + 1) d)) base b go gt n M (hs.set v (B, d)) (ld.set v (l ++ [x])) tl E cE es ∧ ∀ V, GStep V wa (w7.setCell ⟨go, v, none⟩ (.slice B (m + 1) d)) go hs (hs.set v (B, d)) := by
  subst hm
  rw [← ints_app] at ho
  have e : l.length + 1 = (l ++ [x]).length := by simp
  rw [e] at ho ⊢
  have hrow : ∀ k, blk hd.1 = some k → Ft go hs k := fun k hk => .inr ⟨hd, List.mem_of_getElem? p, hk⟩
  have hbg : b ≠ go := fun e => h.not_ft (.inl e)
  have hbl := h.lt
  have hf : Fr (fun k => Ft go hs k) wa (w7.setCell ⟨go, v, none⟩ (.slice B (l ++ [x]).length d)) := (Fr.of_grown (F := fun k => Ft go hs k) hg (fun k hk _ => hrow k hk)).setCell (p := ⟨go, v, none⟩) (.inl (.inl rfl)) _
  have hgt := (h.ta.lt (k := gt) rfl).2
  have hnew : ∀ k, k < wa.heap.size → Ft go (hs.set v (B, d)) k → Ft go hs k := fun k hk hf => by
    rcases hf with e | ⟨y, hy, hyk⟩
    · exact .inl e
    · rcases List.mem_or_eq_of_mem_set hy with hy | rfl
      · exact .inr ⟨y, hy, hyk⟩
      · rcases hB with e | e
        · exact hrow k (by rw [← e]; exact hyk)
        · rw [hyk] at e; injection e with e; omega
  refine ⟨⟨?_, h.lo, OwnM.setRow h.om p q hg ho (hB.imp id (fun e => .inl e)), Fr.own h.ta hf (fun k hk hk2 => ?_), fun hk => h.far (hnew gt hgt hk), h.eds.elim fun base' ho => ⟨base', Fr.own ho hf (fun k hk hk2 => (h.ed_not hk).2.1 hk2)⟩⟩, fun V => ⟨hf.mono (fun k _ hk => .inl hk), hnew⟩⟩
  · rw [hf.block b hbl h.not_ft]; exact h.st
  · simp [blk] at hk; subst hk; exact h.far hk2
theorem AM.push_facts {wa w7 : World} {base b go gt n M cE v : Nat} {hs : List (Option Addr × Nat)} {ld : List (List Int)} {tl : List Int} {E : Option Addr} {es : List (Int × Int)} {hd : Option Addr × Nat} {m d : Nat} {xs : List Value} {u : Value}
    (h : AM wa base b go gt n M hs ld tl E cE es) (p : hs[v]? = some hd) (hr : Own wa base 3 1 hd.1 m d xs) (hg : wa.grownBy w7 (blk hd.1)) (hc : wa.cell? ⟨go, v, none⟩ = some u) :
    w7.cell? ⟨b, 2, none⟩ = some (.slice (some ⟨go, 0, none⟩) n n) ∧ w7.cell? ⟨go, v, none⟩ = some u ∧ w7.frozen? ⟨go, v, none⟩ = false := by
  have hA1 : ∀ k, blk hd.1 = some k → k ≠ b := fun k hk e => h.not_ft (.inr ⟨hd, List.mem_of_getElem? p, by rw [hk, e]⟩)
  have hA2 : ∀ k, blk hd.1 = some k → k ≠ go := fun k hk e => by
    obtain ⟨cur, h1⟩ := hr.block_type hk
    obtain ⟨cur', h2⟩ := h.om.outer.block_type (g := go) rfl
    rw [e, h2] at h1; injection h1 with h1; injection h1 with _ h1; revert h1; decide
  exact ⟨World.grownBy.cell hg h.c2 (fun e => hA1 _ e.symm rfl), World.grownBy.cell hg hc (fun e => hA2 _ e.symm rfl), (h.om.outer.keptBy hg (.inr (fun e => hA2 go e.symm rfl))).frozen v⟩
end Go.Proofs.Ytbhkdodokdgijaa
