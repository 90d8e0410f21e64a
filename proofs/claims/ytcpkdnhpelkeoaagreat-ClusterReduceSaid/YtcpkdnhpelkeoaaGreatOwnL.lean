/-
  A list of lists of integers that the call itself makes: the outer slice and the inner ones are its own; 'append' of a further list.
-/
import Derived.Test.YtcpkdnhpelkeoaaGreatRows
import Derived.Test.YtcpkdnhpelkeoaaGreatApp
namespace Go.Proofs.YtcpkdnhpelkeoaaGreat
set_option linter.unusedVariables false
set_option linter.unusedSimpArgs false
open Go.RowKit

theorem info_ints : (Tryz.prog.info? 24).map (fun i => (i.zero, i.size, i.bytes)) = some (some (.slice none 0 0), 1, 24) := by kernel_rfl
theorem info_pair : (Tryz.prog.info? 28).map (fun i => (i.zero, i.size, i.bytes)) = some (some (.agg #[.int .i64 0, .int .i64 0]), 2, 16) := by kernel_rfl
theorem info_int' : (Tryz.prog.info? 3).map (fun i => (i.zero, i.size, i.bytes)) = some (some (.int .i64 0), 1, 8) := by kernel_rfl

theorem step_app {P : Program} (w : World) {ops : Array Oper} {o : Oper} {a : Act} {K : Act → World → Prop} {Q : Exit → Act → World → Prop} {E : Prop} (hgd : o.guard = none) (s x : Operand) (t : TypeId)
    (ho : o.op = .call { callee := .builtin .append, args := #[s, x], argTypes := #[t, t] })
    (base : Nat) (e : TypeId) (z : Value) (size bytes : Nat) (ht : P.underlying t = some (.slice e)) (hinfo : (P.info? e).map (fun i => (i.zero, i.size, i.bytes)) = some (some z, size, bytes))
    (hzs : z.cells.size = size) (hsz : 0 < size) (A : Option Addr) (n c : Nat) (xs : List Value) (hs : a.eval s = .slice A n c) (hown : Own w base e size A n c xs)
    (B : Option Addr) (m d : Nat) (news : List Value) (hx : a.eval x = .slice B m d) (hr : Rd w size B m news) (h1 : ∀ u ∈ news, u.oneCell' = true)
    (hbytes : (n + m) * bytes ≤ 140737488355328) (h63 : n + m ≤ maxLen) (hbase : base ≤ w.heap.size)
    (h : ∀ A' c' w', Own w' base e size A' (n + m) c' (xs ++ news) → w.grownBy w' (blk A) → (blk A' = blk A ∨ blk A' = some w.heap.size) → K (a.put o.dst (.slice A' (n + m) c')) w') :
    if Region.wanted o (yielded ops a.tmps) = true then Oper.wp P o a w K Q else E := by
  have hw : Region.wanted o (yielded ops a.tmps) = true := by simp [Region.wanted, hgd]
  rw [if_pos hw]
  exact wp_app w s x t ho base e z size bytes ht hinfo hzs hsz A n c xs hs hown B m d news hx hr h1 hbytes h63 hbase h

theorem Own.apart_type {w : World} {b b' size size' n n' c c' : Nat} {e e' : TypeId} {A B : Option Addr} {xs ys : List Value} (h : Own w b e size A n c xs) (h' : Own w b' e' size' B n' c' ys) (hne : e ≠ e') : Apart A B := by
  rcases h.2 with ⟨hv, _⟩ | ⟨g, cap, cur, hv, _, hh, _⟩
  · have hA : A = none := by injection hv
    exact .inl (by rw [hA]; rfl)
  · have hA : A = some ⟨g, 0, none⟩ := by injection hv
    rcases h'.2 with ⟨hv', _⟩ | ⟨g', cap', cur', hv', _, hh', _⟩
    · have hB : B = none := by injection hv'
      exact .inr (by rw [hA, hB]; simp [blk])
    · have hB : B = some ⟨g', 0, none⟩ := by injection hv'
      refine .inr (fun h3 => ?_)
      rw [hA, hB] at h3
      simp [blk] at h3
      subst h3
      rw [hh] at hh'
      injection hh' with hh'
      injection hh' with _ h4
      exact hne h4

/-- The outer slice and all inner ones are the call's own. -/
def OwnL (w : World) (base : Nat) (A : Option Addr) (n c : Nat) (ls : List (List Int)) : Prop :=
  ls.length = n ∧ ∃ hs : List (Option Addr × Nat), hs.length = n ∧ Own w base 24 1 A n c (heads hs ls) ∧
    ∀ (i : Nat) (h : Option Addr × Nat) (l : List Int), hs[i]? = some h → ls[i]? = some l → Own w base 3 1 h.1 l.length h.2 (ints l)
theorem OwnL.nil (w : World) (base : Nat) : OwnL w base none 0 0 [] := ⟨rfl, [], rfl, Own.nil _ _ _ _, fun i h l h1 => by simp at h1⟩
theorem OwnL.rd {w : World} {base n c : Nat} {A : Option Addr} {ls : List (List Int)} (h : OwnL w base A n c ls) : RdL w A n ls := by
  obtain ⟨h1, hs, h2, h3, h4⟩ := h
  exact ⟨h1, hs, h2, h3.rd, fun i hd l a b => (h4 i hd l a b).rd⟩
theorem OwnL.outer {w : World} {base n c : Nat} {A : Option Addr} {ls : List (List Int)} (h : OwnL w base A n c ls) : ∃ xs, Own w base 24 1 A n c xs := by
  obtain ⟨h1, hs, h2, h3, h4⟩ := h; exact ⟨_, h3⟩
theorem OwnL.later {w w' : World} {base n c : Nat} {A : Option Addr} {ls : List (List Int)} (h : OwnL w base A n c ls) (hb : Below w.heap.size w w') : OwnL w' base A n c ls := by
  obtain ⟨h1, hs, h2, h3, h4⟩ := h
  exact ⟨h1, hs, h2, h3.later hb, fun i hd l a b => (h4 i hd l a b).later hb⟩
theorem OwnL.base_le {w : World} {base base' n c : Nat} {A : Option Addr} {ls : List (List Int)} (h : OwnL w base A n c ls) (hb : base' ≤ base) : OwnL w base' A n c ls := by
  obtain ⟨h1, hs, h2, h3, h4⟩ := h
  exact ⟨h1, hs, h2, h3.base_le hb, fun i hd l a b => (h4 i hd l a b).base_le hb⟩
theorem OwnL.cap {w : World} {base n c : Nat} {A : Option Addr} {ls : List (List Int)} (h : OwnL w base A n c ls) : n ≤ c := by
  obtain ⟨xs, h⟩ := h.outer; exact h.cap

theorem heads_snoc (hs : List (Option Addr × Nat)) (ls : List (List Int)) (h : Option Addr × Nat) (l : List Int) (hl : hs.length = ls.length) : heads (hs ++ [h]) (ls ++ [l]) = heads hs ls ++ [.slice h.1 l.length h.2] := by
  unfold heads
  rw [List.zipWith_append hl]; rfl
/-- Behind 'append(out, l)': w is the world before, w' behind; the list l is the call's own in w. -/
theorem OwnL.push {w w' : World} {base n c c' : Nat} {A A' : Option Addr} {ls : List (List Int)} {hs : List (Option Addr × Nat)} {B : Option Addr} {d : Nat} {l : List Int}
    (h1 : ls.length = n) (h2 : hs.length = n) (h4 : ∀ (i : Nat) (h : Option Addr × Nat) (l : List Int), hs[i]? = some h → ls[i]? = some l → Own w base 3 1 h.1 l.length h.2 (ints l))
    (hl : Own w base 3 1 B l.length d (ints l)) (ho0 : ∃ xs, Own w base 24 1 A n c xs)
    (ho : Own w' base 24 1 A' (n + 1) c' (heads hs ls ++ [.slice B l.length d])) (hg : w.grownBy w' (blk A)) : OwnL w' base A' (n + 1) c' (ls ++ [l]) := by
  obtain ⟨xs, ho0⟩ := ho0
  refine ⟨by simp [h1], hs ++ [(B, d)], by simp [h2], by rw [heads_snoc _ _ _ _ (by rw [h1, h2])]; exact ho, fun i hd l' a b => ?_⟩
  have key : ∀ {hd : Option Addr × Nat} {l' : List Int}, Own w base 3 1 hd.1 l'.length hd.2 (ints l') → Own w' base 3 1 hd.1 l'.length hd.2 (ints l') :=
    fun h => h.apart hg (h.apart_type ho0 (by decide))
  rw [List.getElem?_append] at a b
  by_cases hi : i < hs.length
  · rw [if_pos hi] at a
    rw [if_pos (by omega)] at b
    exact key (h4 i hd l' a b)
  · rw [if_neg hi] at a
    rw [if_neg (by omega)] at b
    have h0 : i - hs.length = 0 := by
      rcases Nat.eq_zero_or_pos (i - hs.length) with h | h
      · exact h
      · rw [List.getElem?_eq_none (by simp; omega)] at a; cases a
    rw [h0] at a
    rw [show i - ls.length = 0 by omega] at b
    simp at a b
    subst a b
    exact key (hd := (B, d)) hl
theorem own_lit_at {w : World} {b : Nat} (hb : w.heap.size = b) (e : TypeId) (size n : Nat) (xs : List Value) (hn : n ≤ maxLen) (h : xs.length = n * size) : Own (w.alloc (.cells xs.toArray e)) b e size (some ⟨b, 0, none⟩) n n xs := by
  subst hb
  have := World.ownsRow_lit (base := w.heap.size) (e := e) (size := size) w xs.toArray n (Nat.le_refl _) hn (by simpa using h)
  simpa [Own] using this
theorem head_one {B : Option Addr} {n d : Nat} : ∀ u ∈ [Value.slice B n d], u.oneCell' = true := by simp [Value.oneCell']
end Go.Proofs.YtcpkdnhpelkeoaaGreat
