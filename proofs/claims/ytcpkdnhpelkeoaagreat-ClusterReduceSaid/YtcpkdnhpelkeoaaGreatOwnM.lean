/-
  A list of lists that the call itself makes and whose rows it appends to in place: the rows lie in blocks of their own, apart from each other.
-/
import Derived.Test.YtcpkdnhpelkeoaaGreatOwnL
namespace Go.Proofs.YtcpkdnhpelkeoaaGreat
set_option linter.unusedVariables false
set_option linter.unusedSimpArgs false
open Go.RowKit

/-- The list ls, its headers hs. -/
structure OwnM (w : World) (base : Nat) (A : Option Addr) (n c : Nat) (hs : List (Option Addr × Nat)) (ls : List (List Int)) : Prop where
  len : ls.length = n
  hlen : hs.length = n
  outer : Own w base 24 1 A n c (heads hs ls)
  row : ∀ (i : Nat) (h : Option Addr × Nat) (l : List Int), hs[i]? = some h → ls[i]? = some l → Own w base 3 1 h.1 l.length h.2 (ints l)
  far : ∀ (i j : Nat) (h h' : Option Addr × Nat), i ≠ j → hs[i]? = some h → hs[j]? = some h' → Apart h.1 h'.1

section
variable {w w' : World} {base n c : Nat} {A : Option Addr} {hs : List (Option Addr × Nat)} {ls : List (List Int)}
theorem OwnM.nil (w : World) (base : Nat) : OwnM w base none 0 0 [] [] := ⟨rfl, rfl, Own.nil _ _ _ _, fun i h l a => by simp at a, fun i j h h' _ a => by simp at a⟩
theorem OwnM.ownL (h : OwnM w base A n c hs ls) : OwnL w base A n c ls := ⟨h.len, hs, h.hlen, h.outer, h.row⟩
theorem OwnM.later (h : OwnM w base A n c hs ls) (hb : Below w.heap.size w w') : OwnM w' base A n c hs ls :=
  ⟨h.len, h.hlen, h.outer.later hb, fun i hd l a b => (h.row i hd l a b).later hb, h.far⟩
theorem OwnM.alloc (h : OwnM w base A n c hs ls) (o : Obj) : OwnM (w.alloc o) base A n c hs ls :=
  ⟨h.len, h.hlen, h.outer.alloc o, fun i hd l a b => (h.row i hd l a b).alloc o, h.far⟩
theorem OwnM.drew (h : OwnM w base A n c hs ls) : OwnM w.drew base A n c hs ls := ⟨h.len, h.hlen, h.outer, h.row, h.far⟩
theorem OwnM.base_le {base' : Nat} (h : OwnM w base A n c hs ls) (hb : base' ≤ base) : OwnM w base' A n c hs ls :=
  ⟨h.len, h.hlen, h.outer.base_le hb, fun i hd l a b => (h.row i hd l a b).base_le hb, h.far⟩
theorem Own.setOther' {size n c : Nat} {e : TypeId} {A : Option Addr} {xs : List Value} (h : Own w base e size A n c xs) {p : Addr} (hp : p.block < base) (u : Value) : Own (w.setCell p u) base e size A n c xs := by
  refine ⟨h.1, ?_⟩
  rcases h.2 with h2 | ⟨g, cap, cur, hv, hg, hh, rest⟩
  · exact .inl h2
  · exact .inr ⟨g, cap, cur, hv, hg, by rw [Below.heap_setCell _ _ _ _ (by omega)]; exact hh, rest⟩
theorem Own.setFar {size n c : Nat} {e : TypeId} {A : Option Addr} {xs : List Value} (h : Own w base e size A n c xs) {p : Addr} (hp : blk A = none ∨ blk A ≠ some p.block) (u : Value) : Own (w.setCell p u) base e size A n c xs := by
  refine ⟨h.1, ?_⟩
  rcases h.2 with h2 | ⟨g, cap, cur, hv, hg, hh, rest⟩
  · exact .inl h2
  · have hA : A = some ⟨g, 0, none⟩ := by injection hv
    refine .inr ⟨g, cap, cur, hv, hg, ?_, rest⟩
    rw [Below.heap_setCell _ _ _ _ ?_]
    · exact hh
    · rintro rfl
      rw [hA] at hp
      rcases hp with hp | hp
      · simp [blk] at hp
      · exact hp rfl
theorem OwnM.setOther (h : OwnM w base A n c hs ls) {p : Addr} (hp : p.block < base) (u : Value) : OwnM (w.setCell p u) base A n c hs ls :=
  ⟨h.len, h.hlen, h.outer.setOther' hp u, fun i hd l a b => (h.row i hd l a b).setOther' hp u, h.far⟩
theorem OwnM.head_at {g : Nat} (h : OwnM w base (some ⟨g, 0, none⟩) n c hs ls) {i : Nat} {hd : Option Addr × Nat} {l : List Int} (a : hs[i]? = some hd) (b : ls[i]? = some l) : w.cell? ⟨g, i, none⟩ = some (.slice hd.1 l.length hd.2) := by
  have hi : i < n := by
    rcases Nat.lt_or_ge i n with h' | h'
    · exact h'
    · rw [List.getElem?_eq_none (by rw [h.len]; exact h')] at b; cases b
  rw [World.ownsRow.cellAt h.outer i (by omega)]
  unfold heads
  simp [List.getElem?_zipWith, a, b]
theorem OwnM.get (h : OwnM w base A n c hs ls) {i : Nat} {l : List Int} (b : ls[i]? = some l) : ∃ hd, hs[i]? = some hd := by
  have hi : i < ls.length := by
    rcases Nat.lt_or_ge i ls.length with h' | h'
    · exact h'
    · rw [List.getElem?_eq_none h'] at b; cases b
  exact ⟨hs[i]'(by rw [h.hlen, ← h.len]; exact hi), List.getElem?_eq_getElem _⟩
theorem OwnM.some_ (h : OwnM w base A n c hs ls) (hn : 0 < n) : ∃ g, A = some ⟨g, 0, none⟩ ∧ base ≤ g ∧ g < w.heap.size := h.outer.some_ hn
end

theorem heads_set (hd : Option Addr × Nat) (l : List Int) : ∀ (hs : List (Option Addr × Nat)) (ls : List (List Int)) (i : Nat), heads (hs.set i hd) (ls.set i l) = (heads hs ls).set i (.slice hd.1 l.length hd.2)
  | [], _, _ => by simp [heads]
  | _ :: _, [], i => by cases i <;> simp [heads]
  | _ :: _, _ :: _, 0 => by simp [heads]
  | h :: hs, l0 :: ls, i + 1 => by
    have := heads_set hd l hs ls i
    simp only [heads] at this ⊢
    simp only [List.set_cons_succ, List.zipWith_cons_cons, this]

/-- Row i has become l' (in a block of its own, the old one or a new one), and its header is stored. -/
theorem OwnM.setRow {w w1 : World} {base n c d g : Nat} {B : Option Addr} {hs : List (Option Addr × Nat)} {ls : List (List Int)} {i : Nat} {hd : Option Addr × Nat} {l l' : List Int}
    (h : OwnM w base (some ⟨g, 0, none⟩) n c hs ls) (a : hs[i]? = some hd) (b : ls[i]? = some l) (hg : w.grownBy w1 (blk hd.1)) (ho : Own w1 base 3 1 B l'.length d (ints l'))
    (hB : blk B = blk hd.1 ∨ blk B = some w.heap.size ∨ ∃ s, blk B = some s ∧ w.heap.size ≤ s) :
    OwnM (w1.setCell ⟨g, i, none⟩ (.slice B l'.length d)) base (some ⟨g, 0, none⟩) n c (hs.set i (B, d)) (ls.set i l') := by
  have hrow := h.row i hd l a b
  have hout : Own w1 base 24 1 (some ⟨g, 0, none⟩) n c (heads hs ls) := h.outer.apart hg (h.outer.apart_type hrow (by decide))
  have hil : i < hs.length := by
    rcases Nat.lt_or_ge i hs.length with h' | h'
    · exact h'
    · rw [List.getElem?_eq_none h'] at a; cases a
  have hil2 : i < ls.length := by rw [h.len, ← h.hlen]; exact hil
  have hnew : ∀ (j : Nat) (hj : Option Addr × Nat) (lj : List Int), i ≠ j → hs[j]? = some hj → ls[j]? = some lj → Apart hj.1 B := by
    intro j hj lj hij c1 c2
    have hapart := (h.far i j hd hj hij a c1).symm
    have hrj := h.row j hj lj c1 c2
    have hfresh : ∀ s, blk B = some s → w.heap.size ≤ s → Apart hj.1 B := fun s h1 h2 => by
      refine .inr (fun e => ?_)
      rw [h1] at e
      have := (hrj.lt e).2
      omega
    rcases hB with h1 | h1 | ⟨s, h1, h2⟩
    · unfold Apart at hapart ⊢; rw [h1]; exact hapart
    · exact hfresh _ h1 (Nat.le_refl _)
    · exact hfresh s h1 h2
  refine ⟨by simpa using h.len, by simpa using h.hlen, ?_, ?_, ?_⟩
  · rw [heads_set]
    exact (World.ownsRow.stored hout i (.slice B l'.length d)).1
  · intro j hj lj c1 c2
    have key : ∀ {C : Option Addr} {p q : Nat} {xs : List Value}, Own w1 base 3 1 C p q xs → Own (w1.setCell ⟨g, i, none⟩ (.slice B l'.length d)) base 3 1 C p q xs :=
      fun h1 => h1.setFar (p := ⟨g, i, none⟩) (h1.apart_type hout (by decide)) _
    rw [List.getElem?_set] at c1 c2
    by_cases e : i = j
    · rw [if_pos e, if_pos hil] at c1
      rw [if_pos e, if_pos hil2] at c2
      injection c1 with c1
      injection c2 with c2
      subst c1 c2
      exact key ho
    · rw [if_neg e] at c1 c2
      exact key ((h.row j hj lj c1 c2).apart hg ((h.far i j hd hj e a c1).symm))
  · intro p q hp hq hpq c1 c2
    rw [List.getElem?_set] at c1 c2
    have get : ∀ j hj, hs[j]? = some hj → ∃ lj, ls[j]? = some lj := fun j hj hh => by
      have : j < hs.length := by
        rcases Nat.lt_or_ge j hs.length with h' | h'
        · exact h'
        · rw [List.getElem?_eq_none h'] at hh; cases hh
      exact ⟨ls[j]'(by rw [h.len, ← h.hlen]; exact this), List.getElem?_eq_getElem _⟩
    by_cases e1 : i = p
    · rw [if_pos e1, if_pos hil] at c1
      injection c1 with c1
      subst c1
      rw [if_neg (fun e => hpq (e1.symm.trans e))] at c2
      obtain ⟨lq, hlq⟩ := get q hq c2
      exact (hnew q hq lq (fun e => hpq (e1.symm.trans e)) c2 hlq).symm
    · rw [if_neg e1] at c1
      by_cases e2 : i = q
      · rw [if_pos e2, if_pos hil] at c2
        injection c2 with c2
        subst c2
        obtain ⟨lp, hlp⟩ := get p hp c1
        exact hnew p hp lp e1 c1 hlp
      · rw [if_neg e2] at c2
        exact h.far p q hp hq hpq c1 c2

/-- Behind 'append(out, nil)'. -/
theorem OwnM.pushNil {w w' : World} {base n c c' : Nat} {A A' : Option Addr} {hs : List (Option Addr × Nat)} {ls : List (List Int)}
    (h : OwnM w base A n c hs ls) (ho : Own w' base 24 1 A' (n + 1) c' (heads hs ls ++ [.slice none 0 0])) (hg : w.grownBy w' (blk A)) : OwnM w' base A' (n + 1) c' (hs ++ [(none, 0)]) (ls ++ [[]]) := by
  refine ⟨by simp [h.len], by simp [h.hlen], by rw [heads_snoc _ _ _ _ (by rw [h.len, h.hlen])]; exact ho, fun i hd l a b => ?_, fun i j hi hj hij a b => ?_⟩
  · rw [List.getElem?_append] at a b
    by_cases hi : i < hs.length
    · rw [if_pos hi] at a
      rw [if_pos (by rw [h.len, ← h.hlen]; exact hi)] at b
      have := h.row i hd l a b
      exact this.apart hg (this.apart_type h.outer (by decide))
    · rw [if_neg hi] at a
      rw [if_neg (by rw [h.len, ← h.hlen]; exact hi)] at b
      have h0 : i - hs.length = 0 := by
        rcases Nat.eq_zero_or_pos (i - hs.length) with h' | h'
        · exact h'
        · rw [List.getElem?_eq_none (by simp; omega)] at a; cases a
      rw [h0] at a
      rw [show i - ls.length = 0 by rw [h.len, ← h.hlen]; exact h0] at b
      simp at a b
      subst a b
      exact Own.nil _ _ _ _
  · rw [List.getElem?_append] at a b
    by_cases hi' : i < hs.length
    · rw [if_pos hi'] at a
      by_cases hj' : j < hs.length
      · rw [if_pos hj'] at b
        exact h.far i j hi hj hij a b
      · rw [if_neg hj'] at b
        have : hj = (none, 0) := by
          rcases Nat.eq_zero_or_pos (j - hs.length) with h' | h'
          · rw [h'] at b; simp at b; exact b.symm
          · rw [List.getElem?_eq_none (by simp; omega)] at b; cases b
        rw [this]
        exact Apart.symm (.inl rfl)
    · rw [if_neg hi'] at a
      have : hi = (none, 0) := by
        rcases Nat.eq_zero_or_pos (i - hs.length) with h' | h'
        · rw [h'] at a; simp at a; exact a.symm
        · rw [List.getElem?_eq_none (by simp; omega)] at a; cases a
      rw [this]
      exact .inl rfl
end Go.Proofs.YtcpkdnhpelkeoaaGreat
