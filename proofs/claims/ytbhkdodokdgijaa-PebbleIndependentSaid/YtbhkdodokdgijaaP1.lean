/-
  A game of pebbles in memory: the struct, the outer list, its rows; what changes while the game is played.
-/
import Derived.Test.YtbhkdodokdgijaaOwnM
import Derived.Test.YtbhkdodokdgijaaOwnP
import Derived.Test.YtbhkdodokdgijaaSpecT
namespace Go.Proofs.Ytbhkdodokdgijaa
set_option linter.unusedVariables false
set_option linter.unusedSimpArgs false
open Go.RowKit Go.Sort

def bools (l : List Bool) : List Value := l.map Value.bool
theorem bools_length (l : List Bool) : (bools l).length = l.length := by simp [bools]
theorem bools_at (l : List Bool) (k : Nat) (h : k < l.length) : (bools l)[k]? = some (.bool (visB l k)) := by
  simp [bools, visB, List.getD_eq_getElem?_getD, List.getElem?_eq_getElem h]
theorem Own.storeB {w : World} {base g n c : Nat} {l : List Bool} (h : Own w base 4 1 (some ⟨g, 0, none⟩) n c (bools l)) (j : Nat) (x : Bool) : Own (w.setCell ⟨g, j, none⟩ (.bool x)) base 4 1 (some ⟨g, 0, none⟩) n c (bools (l.set j x)) := by
  have := (World.ownsRow.stored h j (.bool x)).1
  have e1 : bools (l.set j x) = (bools l).set j (.bool x) := by unfold bools; rw [List.map_set]
  unfold Own
  rw [e1]; exact this
theorem Own.blen {w : World} {base n c : Nat} {A : Option Addr} {l : List Bool} (h : Own w base 4 1 A n c (bools l)) : l.length = n := by have := h.len; rw [bools_length] at this; omega
theorem Own.cellB {w : World} {base g n c : Nat} {l : List Bool} (h : Own w base 4 1 (some ⟨g, 0, none⟩) n c (bools l)) {j : Nat} (hj : j < n) : w.cell? ⟨g, j, none⟩ = some (.bool (visB l j)) := by
  rw [World.ownsRow.cellAt h j (by omega), bools_at l j (by rw [h.blen]; exact hj)]

/-- Outside the blocks F (and the new ones) w' is as w. -/
structure Fr (F : Nat → Prop) (w w' : World) : Prop where
  os : w'.os = w.os
  tape : w'.tape = w.tape
  output : w'.output = w.output
  size : w.heap.size ≤ w'.heap.size
  block : ∀ k, k < w.heap.size → ¬ F k → w'.heap[k]? = w.heap[k]?
section
variable {F G : Nat → Prop} {a b w w' : World}
theorem Fr.refl (F : Nat → Prop) (w : World) : Fr F w w := ⟨rfl, rfl, rfl, Nat.le_refl _, fun _ _ _ => rfl⟩
theorem Fr.trans {c : World} (h : Fr F a b) (k : Fr G b c) (hG : ∀ i, i < a.heap.size → G i → F i) : Fr F a c :=
  ⟨k.os.trans h.os, k.tape.trans h.tape, k.output.trans h.output, Nat.le_trans h.size k.size, fun i hi hF => (k.block i (Nat.lt_of_lt_of_le hi h.size) (fun hg => hF (hG i hi hg))).trans (h.block i hi hF)⟩
theorem Fr.mono (h : Fr F a b) (hG : ∀ i, i < a.heap.size → F i → G i) : Fr G a b := ⟨h.os, h.tape, h.output, h.size, fun i hi hg => h.block i hi (fun hf => hg (hG i hi hf))⟩
theorem Fr.of_grown {row : Option Nat} (hg : w.grownBy w' row) (hF : ∀ k, row = some k → k < w.heap.size → F k) : Fr F w w' :=
  ⟨hg.os, hg.tape, hg.output, hg.size, fun k hk hf => hg.block k hk (fun e => hf (hF k e.symm hk))⟩
theorem Fr.of_below (h : Below w.heap.size w w') : Fr F w w' := ⟨h.os, h.tape, h.output, h.size, fun k hk _ => h.block k hk⟩
theorem Fr.alloc (w : World) (o : Obj) : Fr F w (w.alloc o) := Fr.of_below ((Below.refl _ _).alloc (Nat.le_refl _) o)
theorem Fr.drew (w : World) : Fr F w w.drew := Fr.of_below (Below.refl _ _).drew
theorem Fr.setCell (h : Fr F a w) {p : Addr} (hp : F p.block ∨ a.heap.size ≤ p.block) (v : Value) : Fr F a (w.setCell p v) :=
  have hb := (Below.refl 0 w).setCell (Nat.zero_le p.block) v
  ⟨hb.os.trans h.os, hb.tape.trans h.tape, hb.output.trans h.output, Nat.le_trans h.size hb.size, fun k hk hf => by
    rw [Below.heap_setCell _ _ _ _ (fun e => by
      subst e
      rcases hp with hp | hp
      · exact hf hp
      · omega)]
    exact h.block k hk hf⟩
theorem Fr.below {B : Nat} (h : Fr F w w') (hB : B ≤ w.heap.size) (hF : ∀ k, k < w.heap.size → F k → B ≤ k) : Below B w w' :=
  ⟨h.os, h.tape, h.output, h.size, fun k hk => h.block k (by omega) (fun hf => by have := hF k (by omega) hf; omega)⟩
theorem Fr.own {base size n c : Nat} {e : TypeId} {A : Option Addr} {xs : List Value} (ho : Own w base e size A n c xs) (h : Fr F w w') (hA : ∀ k, blk A = some k → ¬ F k) : Own w' base e size A n c xs := by
  refine ⟨ho.1, ?_⟩
  rcases ho.2 with h2 | ⟨g, cap, cur, hv, hg, hh, rest⟩
  · exact .inl h2
  · have e : A = some ⟨g, 0, none⟩ := by injection hv
    have hk : blk A = some g := by rw [e]; rfl
    exact .inr ⟨g, cap, cur, hv, hg, by rw [h.block g (ho.lt hk).2 (hA g hk)]; exact hh, rest⟩
theorem Fr.keep {p : Addr} {v : Value} (h : Fr F w w') (hc : w.cell? p = some v) (hp : ¬ F p.block) : w'.cell? p = some v := by
  rw [World.cell?_of_block (w := w) (h.block p.block (World.block_lt_of_cell? w p hc) hp)]; exact hc
end
theorem Own.block_type {w : World} {base size n c g : Nat} {e : TypeId} {xs : List Value} {A : Option Addr} (h : Own w base e size A n c xs) (hA : blk A = some g) : ∃ cur, w.heap[g]? = some (.cells cur e (0, 0)) := by
  rcases h.2 with ⟨hv, -⟩ | ⟨g', cap, cur, hv, -, hh, -⟩
  · have e : A = none := by injection hv
    rw [e] at hA; cases hA
  · have e : A = some ⟨g', 0, none⟩ := by injection hv
    rw [e] at hA
    simp [blk] at hA
    subst hA
    exact ⟨cur, hh⟩

/-- The blocks that a game writes. -/
def Ft (go : Nat) (hs : List (Option Addr × Nat)) (k : Nat) : Prop := k = go ∨ ∃ h ∈ hs, blk h.1 = some k
/-- The game of pointer b holds the rows out. -/
structure GM (w : World) (base b go n c : Nat) (hs : List (Option Addr × Nat)) (out : List (List Int)) : Prop where
  st : w.heap[b]? = some (.cells #[.slice (some ⟨go, 0, none⟩) n c] 76 (0, 0))
  lo : base ≤ b
  om : OwnM w base (some ⟨go, 0, none⟩) n c hs out
/-- From w to w' only the game (and V) is written; the game's blocks are old ones of it, or new. -/
structure GStep (V : Nat → Prop) (w w' : World) (go : Nat) (hs hs' : List (Option Addr × Nat)) : Prop where
  fr : Fr (fun k => Ft go hs k ∨ V k) w w'
  ft : ∀ k, k < w.heap.size → Ft go hs' k → Ft go hs k
section
variable {V V' : Nat → Prop} {w w' w'' : World} {base b go n c : Nat} {hs hs' hs'' : List (Option Addr × Nat)} {out : List (List Int)}
theorem GM.lt (h : GM w base b go n c hs out) : b < w.heap.size := by
  rcases Nat.lt_or_ge b w.heap.size with h' | h'
  · exact h'
  · have := h.st; rw [Array.getElem?_eq_none h'] at this; cases this
theorem GM.cell (h : GM w base b go n c hs out) : w.cell? ⟨b, 0, none⟩ = some (.slice (some ⟨go, 0, none⟩) n c) := by simp [World.cell?, h.st]
theorem GM.ne {size m d g : Nat} {e : TypeId} {A : Option Addr} {xs : List Value} (h : GM w base b go n c hs out) (ho : Own w base e size A m d xs) (he : e ≠ 76) (hA : blk A = some g) : g ≠ b := by
  intro e1
  subst e1
  obtain ⟨cur, hh⟩ := ho.block_type hA
  rw [h.st] at hh
  injection hh with hh
  injection hh with _ h2
  exact he h2.symm
theorem OwnM.ft {A : Option Addr} (h : OwnM w base (some ⟨go, 0, none⟩) n c hs out) {k : Nat} (hk : Ft go hs k) : base ≤ k ∧ k < w.heap.size ∧ ∃ cur e, w.heap[k]? = some (.cells cur e (0, 0)) ∧ (e = 3 ∨ e = 27) := by
  rcases hk with rfl | ⟨hd, hm, hb⟩
  · have h1 := h.outer.lt (k := k) rfl
    obtain ⟨cur, hh⟩ := h.outer.block_type (g := k) rfl
    exact ⟨h1.1, h1.2, cur, _, hh, .inr rfl⟩
  · obtain ⟨i, hi, rfl⟩ := List.getElem_of_mem hm
    have hl : i < out.length := by rw [h.len, ← h.hlen]; exact hi
    have hr := h.row i _ _ (List.getElem?_eq_getElem hi) (List.getElem?_eq_getElem hl)
    have h1 := hr.lt hb
    obtain ⟨cur, hh⟩ := hr.block_type hb
    exact ⟨h1.1, h1.2, cur, _, hh, .inl rfl⟩
theorem GM.not_ft (h : GM w base b go n c hs out) : ¬ Ft go hs b := fun hk => by
  obtain ⟨-, -, cur, e, hh, he⟩ := h.om.ft (A := none) hk
  rw [h.st] at hh
  injection hh with hh
  injection hh with _ h2
  subst h2
  rcases he with he | he <;> revert he <;> decide
theorem OwnM.fr {F : Nat → Prop} {A : Option Addr} {go : Nat} (hA : A = some ⟨go, 0, none⟩) (h : OwnM w base A n c hs out) (hf : Fr F w w') (hF : ∀ k, Ft go hs k → ¬ F k) : OwnM w' base A n c hs out := by
  subst hA
  refine ⟨h.len, h.hlen, Fr.own h.outer hf (fun k hk => hF k (.inl (by simp [blk] at hk; exact hk.symm))), fun i hd l p q => Fr.own (h.row i hd l p q) hf (fun k hk => hF k (.inr ⟨hd, List.mem_of_getElem? p, hk⟩)), h.far⟩
/-- Nothing of the game is written. -/
theorem GM.fr {F : Nat → Prop} (h : GM w base b go n c hs out) (hf : Fr F w w') (hF : ∀ k, Ft go hs k → ¬ F k) (hb : ¬ F b) : GM w' base b go n c hs out :=
  ⟨by rw [hf.block b h.lt hb]; exact h.st, h.lo, h.om.fr rfl hf hF⟩
theorem GM.later (h : GM w base b go n c hs out) (hb : Below w.heap.size w w') : GM w' base b go n c hs out := h.fr (F := fun _ => False) (Fr.of_below hb) (fun _ _ h => h) (fun h => h)
theorem GM.row_at (h : GM w base b go n c hs out) {a : Nat} (ha : a < n) : ∃ hd, hs[a]? = some hd ∧ out[a]? = some (rowOf out a) ∧ w.cell? ⟨go, a, none⟩ = some (.slice hd.1 (rowOf out a).length hd.2) ∧ Own w base 3 1 hd.1 (rowOf out a).length hd.2 (ints (rowOf out a)) := by
  have hl : a < out.length := by rw [h.om.len]; exact ha
  have e := rowOf_some hl
  obtain ⟨hd, hh⟩ := h.om.get e
  exact ⟨hd, hh, e, h.om.head_at hh e, h.om.row a hd _ hh e⟩
theorem GStep.refl (V : Nat → Prop) (w : World) (go : Nat) (hs : List (Option Addr × Nat)) : GStep V w w go hs hs := ⟨Fr.refl _ _, fun _ _ h => h⟩
theorem GStep.trans (h : GStep V w w' go hs hs') (k : GStep V w' w'' go hs' hs'') : GStep V w w'' go hs hs'' :=
  ⟨h.fr.trans k.fr (fun i hi hi' => hi'.imp (h.ft i hi) id), fun i hi hi' => h.ft i hi (k.ft i (Nat.lt_of_lt_of_le hi h.fr.size) hi')⟩
theorem GStep.mono (h : GStep V w w' go hs hs') (hV : ∀ k, k < w.heap.size → V k → V' k) : GStep V' w w' go hs hs' := ⟨h.fr.mono (fun i hi hi' => hi'.imp id (hV i hi)), h.ft⟩
theorem GStep.of_below (h : Below w.heap.size w w') : GStep V w w' go hs hs := ⟨Fr.of_below h, fun _ _ h => h⟩
theorem GStep.below (h : GStep V w w' go hs hs') (hm : OwnM w base (some ⟨go, 0, none⟩) n c hs out) {B : Nat} (hB : B ≤ w.heap.size) (hb : B ≤ base) (hV : ∀ k, k < w.heap.size → V k → B ≤ k) : Below B w w' :=
  h.fr.below hB (fun k hk hf => hf.elim (fun h1 => Nat.le_trans hb (hm.ft (A := none) h1).1) (hV k hk))
end
/-- A row is given a new list, in its own block or in a new one. -/
theorem GM.setRow {w w1 : World} {base b go n c d : Nat} {B : Option Addr} {hs : List (Option Addr × Nat)} {out : List (List Int)} {a : Nat} {hd : Option Addr × Nat} {l l' : List Int}
    (h : GM w base b go n c hs out) (p : hs[a]? = some hd) (q : out[a]? = some l) (hg : w.grownBy w1 (blk hd.1)) (ho : Own w1 base 3 1 B l'.length d (ints l'))
    (hB : blk B = blk hd.1 ∨ ∃ s, blk B = some s ∧ w.heap.size ≤ s) :
    GM (w1.setCell ⟨go, a, none⟩ (.slice B l'.length d)) base b go n c (hs.set a (B, d)) (out.set a l') ∧ ∀ V, GStep V w (w1.setCell ⟨go, a, none⟩ (.slice B l'.length d)) go hs (hs.set a (B, d)) := by
  have hrow : ∀ k, blk hd.1 = some k → Ft go hs k := fun k hk => .inr ⟨hd, List.mem_of_getElem? p, hk⟩
  have hbg : b ≠ go := fun e => h.not_ft (.inl e)
  have hbl := h.lt
  refine ⟨⟨?_, h.lo, OwnM.setRow h.om p q hg ho (hB.imp id .inr)⟩, fun V => ⟨?_, fun k hk hf => ?_⟩⟩
  · rw [Below.heap_setCell _ _ _ _ hbg, hg.block b hbl (fun e => h.not_ft (hrow b e.symm))]; exact h.st
  · exact (Fr.of_grown hg (fun k hk _ => .inl (hrow k hk))).setCell (.inl (.inl (.inl rfl))) _
  · rcases hf with e | ⟨x, hx, hxk⟩
    · exact .inl e
    · rcases List.mem_or_eq_of_mem_set hx with hx | rfl
      · exact .inr ⟨x, hx, hxk⟩
      · rcases hB with e | ⟨s, e, hs'⟩
        · exact hrow k (by rw [← e]; exact hxk)
        · rw [hxk] at e; injection e with e; omega
end Go.Proofs.Ytbhkdodokdgijaa
