/-
  The ascending union, sorting and compacting at integers; lists of lists: joined texts.
-/
import Derived.Test.YtcpkdnhpelkeoaaGreatBase
import Derived.Lib.SlicesCompact
import Derived.Test.YtcpkdnhpelkeoaaGreatOwnL
namespace Go.Proofs.YtcpkdnhpelkeoaaGreat
set_option linter.unusedVariables false
set_option linter.unusedSimpArgs false

/-- The union of lists, in ascending order. -/
def insI (x : Int) : List Int → List Int
  | [] => [x]
  | y :: l => if y < x then y :: insI x l else if y = x then y :: l else x :: y :: l
def unI (l : List Int) : List Int := l.foldl (fun a x => insI x a) []
theorem insI_mem {x z : Int} : ∀ {l : List Int}, z ∈ insI x l ↔ z = x ∨ z ∈ l
  | [] => by simp [insI]
  | y :: l => by
    unfold insI
    split
    · rw [List.mem_cons, insI_mem, List.mem_cons]
      constructor
      · rintro (h | h | h)
        · exact .inr (.inl h)
        · exact .inl h
        · exact .inr (.inr h)
      · rintro (h | h | h)
        · exact .inr (.inl h)
        · exact .inl h
        · exact .inr (.inr h)
    · split
      · rename_i e
        subst e
        constructor
        · intro h; exact .inr h
        · rintro (rfl | h)
          · exact List.mem_cons_self ..
          · exact h
      · rw [List.mem_cons]
theorem insI_asc {x : Int} : ∀ {l : List Int}, l.Pairwise (· < ·) → (insI x l).Pairwise (· < ·)
  | [], _ => by simp [insI]
  | y :: l, h => by
    rw [List.pairwise_cons] at h
    unfold insI
    split
    · rw [List.pairwise_cons]
      refine ⟨fun z hz => ?_, insI_asc h.2⟩
      rcases insI_mem.1 hz with rfl | hz
      · assumption
      · exact h.1 z hz
    · split
      · exact List.pairwise_cons.2 h
      · rw [List.pairwise_cons]
        refine ⟨fun z hz => ?_, List.pairwise_cons.2 h⟩
        rcases List.mem_cons.1 hz with rfl | hz
        · omega
        · have := h.1 z hz; omega
theorem unI_fold : ∀ (l a : List Int), a.Pairwise (· < ·) → (l.foldl (fun a x => insI x a) a).Pairwise (· < ·) ∧ ∀ z, z ∈ l.foldl (fun a x => insI x a) a ↔ z ∈ a ∨ z ∈ l
  | [], a, h => ⟨h, fun z => by simp⟩
  | x :: l, a, h => by
    have := unI_fold l (insI x a) (insI_asc h)
    refine ⟨this.1, fun z => ?_⟩
    rw [List.foldl_cons, this.2, insI_mem, List.mem_cons]
    constructor
    · rintro ((h | h) | h)
      · exact .inr (.inl h)
      · exact .inl h
      · exact .inr (.inr h)
    · rintro (h | h | h)
      · exact .inl (.inr h)
      · exact .inl (.inl h)
      · exact .inr h
theorem unI_asc (l : List Int) : (unI l).Pairwise (· < ·) := (unI_fold l [] List.Pairwise.nil).1
theorem unI_mem {l : List Int} {z : Int} : z ∈ unI l ↔ z ∈ l := by
  rw [unI, (unI_fold l [] List.Pairwise.nil).2]; simp
theorem ascI_uniq : ∀ {a b : List Int}, a.Pairwise (· < ·) → b.Pairwise (· < ·) → (∀ z, z ∈ a ↔ z ∈ b) → a = b
  | [], [], _, _, _ => rfl
  | [], y :: b, _, _, h => absurd ((h y).2 (List.mem_cons_self ..)) (by simp)
  | x :: a, [], _, _, h => absurd ((h x).1 (List.mem_cons_self ..)) (by simp)
  | x :: a, y :: b, ha, hb, h => by
    rw [List.pairwise_cons] at ha hb
    have e : x = y := by
      rcases List.mem_cons.1 ((h x).1 (List.mem_cons_self ..)) with e | hx
      · exact e
      · rcases List.mem_cons.1 ((h y).2 (List.mem_cons_self ..)) with e | hy
        · exact e.symm
        · have := hb.1 x hx; have := ha.1 y hy; omega
    subst e
    rw [ascI_uniq ha.2 hb.2 (fun z => by
      have hz := h z
      rw [List.mem_cons, List.mem_cons] at hz
      constructor
      · intro h1
        rcases hz.1 (.inr h1) with rfl | h2
        · exact absurd (ha.1 z h1) (by omega)
        · exact h2
      · intro h1
        rcases hz.2 (.inr h1) with rfl | h2
        · exact absurd (hb.1 z h1) (by omega)
        · exact h2)]
theorem insI_len (x : Int) : ∀ l : List Int, (insI x l).length ≤ l.length + 1
  | [] => by simp [insI]
  | y :: l => by
    unfold insI
    split
    · have := insI_len x l; simp; omega
    · split <;> simp
theorem unI_len_fold : ∀ (l a : List Int), (l.foldl (fun a x => insI x a) a).length ≤ a.length + l.length
  | [], a => by simp
  | x :: l, a => by
    have h1 := unI_len_fold l (insI x a)
    have h2 := insI_len x a
    rw [List.foldl_cons, List.length_cons]; omega
theorem unI_len (l : List Int) : (unI l).length ≤ l.length := by
  have := unI_len_fold l []
  rw [List.length_nil, Nat.zero_add] at this
  exact this
theorem unI_eq {l m : List Int} (h : m.Pairwise (· < ·)) (hm : ∀ z, z ∈ m ↔ z ∈ l) : m = unI l := ascI_uniq h (unI_asc l) fun z => by rw [hm, unI_mem]

theorem insI_self {x : Int} : ∀ {l : List Int}, l.Pairwise (· < ·) → x ∈ l → insI x l = l
  | [], _, h => nomatch h
  | y :: l, ha, h => by
    rw [List.pairwise_cons] at ha
    unfold insI
    rcases List.mem_cons.1 h with rfl | h
    · rw [if_neg (by omega), if_pos rfl]
    · rw [if_pos (ha.1 x h), insI_self ha.2 h]
theorem insI_at {x : Int} : ∀ {l : List Int} {k : Nat}, (∀ j, j < k → j < l.length → l.getD j 0 < x) → (k < l.length → ¬ l.getD k 0 < x) → k ≤ l.length → x ∉ l → insI x l = l.take k ++ x :: l.drop k
  | [], k, _, _, _, _ => by simp [insI]
  | y :: l, 0, _, h2, _, h4 => by
    have h5 := h2 (by simp)
    simp only [List.getD_cons_zero] at h5
    unfold insI
    rw [if_neg h5, if_neg (fun e => h4 (by rw [e]; exact List.mem_cons_self ..))]
    simp
  | y :: l, k + 1, h1, h2, h3, h4 => by
    have h5 := h1 0 (by omega) (by simp)
    simp only [List.getD_cons_zero] at h5
    unfold insI
    rw [if_pos h5, insI_at (l := l) (k := k) (fun j a b => by
      have := h1 (j + 1) (by omega) (by simp; omega)
      simpa using this) (fun a => by
      have := h2 (by simp; omega)
      simpa using this) (by simp at h3; omega) (fun h => h4 (List.mem_cons_of_mem _ h))]
    simp
theorem unI_snoc (l : List Int) (x : Int) : unI (l ++ [x]) = insI x (unI l) := by
  unfold unI; rw [List.foldl_append]; rfl
theorem unI_nil : unI [] = [] := rfl
/-- All rows before the q-th, joined. -/
def joinI (ls : List (List Int)) (q : Nat) : List Int := (ls.take q).flatten
theorem joinI_next {ls : List (List Int)} {q : Nat} (h : q < ls.length) : joinI ls (q + 1) = joinI ls q ++ ls.getD q [] := by
  unfold joinI
  rw [List.take_add_one, List.flatten_append, List.getD_eq_getElem?_getD, List.getElem?_eq_getElem h]
  simp
theorem take_nextI {l : List Int} {k : Nat} (h : k < l.length) : l.take (k + 1) = l.take k ++ [l.getD k 0] := by
  rw [List.take_add_one, List.getD_eq_getElem?_getD, List.getElem?_eq_getElem h]
  simp
/-- The union after k numbers of the row x. -/
def unAt (pre x : List Int) (k : Nat) : List Int := unI (pre ++ x.take k)
theorem unAt_zero (pre x : List Int) : unAt pre x 0 = unI pre := by unfold unAt; simp
theorem unAt_next {pre x : List Int} {k : Nat} (h : k < x.length) : unAt pre x (k + 1) = insI (x.getD k 0) (unAt pre x k) := by
  unfold unAt
  rw [take_nextI h, ← List.append_assoc, unI_snoc]
theorem unAt_end {pre x : List Int} {k : Nat} (h : x.length ≤ k) : unAt pre x k = unI (pre ++ x) := by unfold unAt; rw [List.take_of_length_le h]
theorem unAt_asc (pre x : List Int) (k : Nat) : (unAt pre x k).Pairwise (· < ·) := unI_asc _
theorem unAt_len (pre x : List Int) (k : Nat) : (unAt pre x k).length ≤ pre.length + k := by
  unfold unAt
  have := unI_len (pre ++ x.take k)
  rw [List.length_append, List.length_take] at this
  omega
end Go.Proofs.YtcpkdnhpelkeoaaGreat

namespace Go.Proofs.YtcpkdnhpelkeoaaGreat
set_option linter.unusedVariables false
set_option linter.unusedSimpArgs false

theorem cpt_asc {d : Array Int} (hs : ∀ i j, i < j → j < d.size → d[i]! ≤ d[j]!) : ∀ m, m ≤ d.size →
    (Lib.compactUpTo d m).Pairwise (· < ·) ∧ (∀ x, x ∈ Lib.compactUpTo d m ↔ ∃ j, j < m ∧ d[j]! = x)
  | 0, _ => by
    refine ⟨?_, fun x => ?_⟩
    · simp [Lib.compactUpTo]
    · simp [Lib.compactUpTo]
  | m + 1, hm => by
    obtain ⟨ih1, ih2⟩ := cpt_asc hs m (by omega)
    rw [Lib.compactUpTo_succ]
    by_cases hk : m = 0 ∨ d[m]! ≠ d[m - 1]!
    · have hk' : Lib.keeps d m = true := by unfold Lib.keeps; exact decide_eq_true hk
      rw [if_pos hk']
      have hlt : ∀ x ∈ Lib.compactUpTo d m, x < d[m]! := fun x hx => by
        obtain ⟨j, hj, rfl⟩ := (ih2 x).1 hx
        have hne : d[m]! ≠ d[m - 1]! := by
          rcases hk with h | h
          · omega
          · exact h
        have h1 := hs (m - 1) m (by omega) (by omega)
        rcases Nat.lt_or_ge j (m - 1) with h | h
        · have h2 := hs j (m - 1) h (by omega)
          omega
        · obtain rfl : j = m - 1 := by omega
          omega
      refine ⟨?_, fun x => ?_⟩
      · rw [List.pairwise_append]
        exact ⟨ih1, by simp, fun a ha b hb => by rw [List.mem_singleton.1 hb]; exact hlt a ha⟩
      · rw [List.mem_append, ih2, List.mem_singleton]
        constructor
        · rintro (⟨j, hj, e⟩ | e)
          · exact ⟨j, by omega, e⟩
          · exact ⟨m, by omega, e.symm⟩
        · rintro ⟨j, hj, e⟩
          rcases Nat.lt_or_ge j m with h | h
          · exact .inl ⟨j, h, e⟩
          · obtain rfl : j = m := by omega
            exact .inr e.symm
    · have hk' : Lib.keeps d m = false := by unfold Lib.keeps; exact decide_eq_false hk
      have h0 : m ≠ 0 := fun h => hk (.inl h)
      have he : d[m]! = d[m - 1]! := Classical.byContradiction fun h => hk (.inr h)
      rw [hk']
      simp only [Bool.false_eq_true, if_false, List.append_nil]
      refine ⟨ih1, fun x => ?_⟩
      rw [ih2]
      constructor
      · rintro ⟨j, hj, e⟩
        exact ⟨j, by omega, e⟩
      · rintro ⟨j, hj, e⟩
        rcases Nat.lt_or_ge j m with h | h
        · exact ⟨j, h, e⟩
        · obtain rfl : j = m := by omega
          exact ⟨j - 1, by omega, by rw [← he]; exact e⟩
def sortI (l : List Int) : List Int := l.mergeSort fun x y => decide (x ≤ y)
theorem sortI_len (l : List Int) : (sortI l).length = l.length := by unfold sortI; simp
theorem sortI_mem {l : List Int} {x : Int} : x ∈ sortI l ↔ x ∈ l := (List.mergeSort_perm l _).mem_iff
theorem sortI_le (l : List Int) : (sortI l).Pairwise (· ≤ ·) := by
  have h := List.pairwise_mergeSort (le := fun x y : Int => decide (x ≤ y)) (fun a b c h1 h2 => by
    have h1 := of_decide_eq_true h1
    have h2 := of_decide_eq_true h2
    exact decide_eq_true (by omega)) (fun a b => by
    by_cases h : a ≤ b
    · simp [h]
    · have : b ≤ a := by omega
      simp [this]) l
  exact h.imp fun h => of_decide_eq_true h
/-- slices.Compact of the sorted list: the ascending union. -/
theorem compact_sortI (l : List Int) : Lib.compact (sortI l) = unI l := by
  have hp := List.pairwise_iff_getElem.1 (sortI_le l)
  have h := cpt_asc (d := (sortI l).toArray) (fun i j hij hj => by
    have hj' : j < (sortI l).length := by simpa using hj
    have := hp i j (by omega) hj' hij
    rw [getElem!_pos _ i (by simp; omega), getElem!_pos _ j hj]
    simpa using this) (sortI l).length (by simp)
  refine unI_eq h.1 fun z => ?_
  rw [show Lib.compact (sortI l) = Lib.compactUpTo (sortI l).toArray (sortI l).length from rfl, h.2 z, ← sortI_mem]
  constructor
  · rintro ⟨j, hj, rfl⟩
    rw [getElem!_pos _ j (by simpa using hj)]
    simp
  · intro hz
    obtain ⟨j, hj, rfl⟩ := List.getElem_of_mem hz
    exact ⟨j, hj, by rw [getElem!_pos _ j (by simpa using hj)]; simp⟩
end Go.Proofs.YtcpkdnhpelkeoaaGreat

namespace Go.Proofs.YtcpkdnhpelkeoaaGreat
set_option linter.unusedVariables false
set_option linter.unusedSimpArgs false
open Go.RowKit

/-- The outer list is own from b on, the rows from base on. -/
def OwnT (w : World) (b base : Nat) (A : Option Addr) (n c : Nat) (ls : List (List Int)) : Prop :=
  ls.length = n ∧ ∃ hs : List (Option Addr × Nat), hs.length = n ∧ Own w b 24 1 A n c (heads hs ls) ∧
    ∀ (i : Nat) (h : Option Addr × Nat) (l : List Int), hs[i]? = some h → ls[i]? = some l → Own w base 3 1 h.1 l.length h.2 (ints l)
section
variable {w w' : World} {b base n c : Nat} {A : Option Addr} {ls : List (List Int)}
theorem OwnT.rd (h : OwnT w b base A n c ls) : RdL w A n ls := by
  obtain ⟨h1, hs, h2, h3, h4⟩ := h
  exact ⟨h1, hs, h2, h3.rd, fun i hd l a b => (h4 i hd l a b).rd⟩
theorem OwnT.later (h : OwnT w b base A n c ls) (hb : Below w.heap.size w w') : OwnT w' b base A n c ls := by
  obtain ⟨h1, hs, h2, h3, h4⟩ := h
  exact ⟨h1, hs, h2, h3.later hb, fun i hd l a b => (h4 i hd l a b).later hb⟩
theorem OwnT.own (h : OwnT w b base A n c ls) (hb : base ≤ b) : OwnL w base A n c ls := by
  obtain ⟨h1, hs, h2, h3, h4⟩ := h
  exact ⟨h1, hs, h2, h3.base_le hb, h4⟩
theorem OwnL.t (h : OwnL w base A n c ls) : OwnT w base base A n c ls := h
theorem OwnT.outer (h : OwnT w b base A n c ls) : ∃ xs, Own w b 24 1 A n c xs := by
  obtain ⟨h1, hs, h2, h3, h4⟩ := h; exact ⟨_, h3⟩
theorem OwnT.some_ (h : OwnT w b base A n c ls) (hn : 0 < n) : ∃ g, A = some ⟨g, 0, none⟩ := by
  obtain ⟨xs, h⟩ := h.outer
  obtain ⟨g, e, -, -⟩ := h.some_ hn
  exact ⟨g, e⟩
theorem OwnT.lt (h : OwnT w b base A n c ls) {k : Nat} (hk : blk A = some k) : b ≤ k := by
  obtain ⟨xs, h⟩ := h.outer
  exact (h.lt hk).1
end
theorem OwnT.cell {w : World} {b base n c g : Nat} {ls : List (List Int)} (h : OwnT w b base (some ⟨g, 0, none⟩) n c ls) {k : Nat} (hk : k < n) :
    ∃ A' c', w.cell? ⟨g, k, none⟩ = some (.slice A' (ls.getD k []).length c') ∧ Own w base 3 1 A' (ls.getD k []).length c' (ints (ls.getD k [])) := by
  obtain ⟨h1, hs, h2, h3, h4⟩ := h
  have hk1 : k < hs.length := by omega
  have hk2 : k < ls.length := by omega
  have e1 : ls.getD k [] = ls[k] := by simp [List.getD_eq_getElem?_getD, List.getElem?_eq_getElem hk2]
  refine ⟨hs[k].1, hs[k].2, ?_, ?_⟩
  · have := World.ownsRow.cellAt h3 k (by omega)
    rw [this, e1]
    simp [heads, List.getElem?_zipWith, List.getElem?_eq_getElem hk1, List.getElem?_eq_getElem hk2]
  · rw [e1]; exact h4 k _ _ (List.getElem?_eq_getElem hk1) (List.getElem?_eq_getElem hk2)
/-- Behind 'append(out, l)': the header of l. -/
theorem OwnT.push {w w' : World} {b base n c c' q : Nat} {A A' : Option Addr} {ls : List (List Int)} {hs : List (Option Addr × Nat)} {B : Option Addr} {d : Nat} {l : List Int} (hq : l.length = q)
    (h1 : ls.length = n) (h2 : hs.length = n) (h4 : ∀ (i : Nat) (h : Option Addr × Nat) (l : List Int), hs[i]? = some h → ls[i]? = some l → Own w base 3 1 h.1 l.length h.2 (ints l))
    (hl : Own w base 3 1 B q d (ints l)) (ho0 : ∃ xs, Own w b 24 1 A n c xs)
    (ho : Own w' b 24 1 A' (n + 1) c' (heads hs ls ++ [.slice B q d])) (hg : w.grownBy w' (blk A)) : OwnT w' b base A' (n + 1) c' (ls ++ [l]) := by
  subst hq
  obtain ⟨xs, ho0⟩ := ho0
  refine ⟨by simp [h1], hs ++ [(B, d)], by simp [h2], by rw [heads_snoc _ _ _ _ (by rw [h1, h2])]; exact ho, fun i hd l' a b => ?_⟩
  have key : ∀ {hd : Option Addr × Nat} {l' : List Int}, Own w base 3 1 hd.1 l'.length hd.2 (ints l') → Own w' base 3 1 hd.1 l'.length hd.2 (ints l') :=
    fun h => h.apart hg (h.apart_type ho0 (by decide))
  rw [List.getElem?_append] at a b
  by_cases hi : i < hs.length
  · rw [if_pos hi] at a
    rw [if_pos (by omega)] at b
    exact key (h4 i hd l' a b)
  · rw [if_neg hi] at a
    rw [if_neg (by omega)] at b
    have h0 : i - hs.length = 0 := by
      rcases Nat.eq_zero_or_pos (i - hs.length) with h | h
      · exact h
      · rw [List.getElem?_eq_none (by simp; omega)] at a; cases a
    rw [h0] at a
    rw [show i - ls.length = 0 by omega] at b
    simp at a b
    subst a b
    exact key (hd := (B, d)) hl
/-- A literal of one header. -/
theorem ownT_one {w : World} {b base q d : Nat} (hb : w.heap.size = b) {b0 : Nat} (hb0 : b0 ≤ b) {B : Option Addr} {l : List Int} (hq : l.length = q) (hl : Own w base 3 1 B q d (ints l)) :
    OwnT (w.alloc (.cells #[.slice B q d] 24)) b0 base (some ⟨b, 0, none⟩) 1 1 [l] := by
  subst hq
  refine ⟨rfl, [(B, d)], rfl, (own_lit_at hb 24 1 1 [.slice B l.length d] (by unfold maxLen; omega) rfl).base_le hb0, fun i hd l' a e => ?_⟩
  match i, a, e with
  | 0, a, e => simp at a e; subst a e; exact hl.alloc _
  | i + 1, a, e => simp at a
/-- A literal of three headers. -/
theorem rdL_three {w : World} {b : Nat} (hb : w.heap.size = b) {A1 A2 A3 : Option Addr} {n1 e1 n2 e2 n3 e3 : Nat} {x y z : List Int} (h1 : x.length = n1) (h2 : y.length = n2) (h3 : z.length = n3) (t : TypeId)
    (r1 : Rd w 1 A1 n1 (ints x)) (r2 : Rd w 1 A2 n2 (ints y)) (r3 : Rd w 1 A3 n3 (ints z)) :
    RdL (w.alloc (.cells #[.slice A1 n1 e1, .slice A2 n2 e2, .slice A3 n3 e3] t)) (some ⟨b, 0, none⟩) 3 [x, y, z] := by
  subst h1 h2 h3
  refine rdL_lit_at hb [(A1, e1), (A2, e2), (A3, e3)] [x, y, z] t rfl fun i hd l a e => ?_
  match i, a, e with
  | 0, a, e => simp at a e; subst a e; exact r1
  | 1, a, e => simp at a e; subst a e; exact r2
  | 2, a, e => simp at a e; subst a e; exact r3
  | i + 3, a, e => simp at a
end Go.Proofs.YtcpkdnhpelkeoaaGreat

