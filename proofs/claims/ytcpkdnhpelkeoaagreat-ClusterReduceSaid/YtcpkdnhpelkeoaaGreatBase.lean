/-
  What memory reads as: lists of integers, of pairs of integers, of lists; and how these readings are kept while a call makes blocks of its own. No program stands in this text.
-/
import Derived.WalkKit
import Derived.WalkSpells
import Derived.Lib.QuietBelow
import Derived.Lib.Hide
import Derived.Deep.Draws
namespace Go.Proofs.YtcpkdnhpelkeoaaGreat
set_option linter.unusedVariables false
set_option linter.unusedSimpArgs false
open Go.RowKit Go.Sort

def ints (l : List Int) : List Value := l.map (Value.int .i64)
def prs (l : List (Int × Int)) : List Value := l.flatMap fun e => [.int .i64 e.1, .int .i64 e.2]

theorem ints_length (l : List Int) : (ints l).length = l.length := by simp [ints]
theorem prs_length (l : List (Int × Int)) : (prs l).length = l.length * 2 := by
  induction l with
  | nil => rfl
  | cons e l ih => simp only [prs, List.flatMap_cons, List.length_append, List.length_cons, List.length_nil] at ih ⊢; omega
theorem ints_at (l : List Int) (k : Nat) (h : k < l.length) : (ints l)[k]? = some (.int .i64 (l.getD k 0)) := by
  simp [ints, List.getD_eq_getElem?_getD, List.getElem?_eq_getElem h]
theorem prs_at0 (l : List (Int × Int)) (k : Nat) (h : k < l.length) : (prs l)[k * 2]? = some (.int .i64 (l.getD k (0, 0)).1) := by
  induction l generalizing k with
  | nil => simp at h
  | cons e l ih =>
    cases k with
    | zero => simp [prs]
    | succ k =>
      have := ih k (by simpa using h)
      simp only [prs, List.flatMap_cons] at this ⊢
      rw [show (k + 1) * 2 = k * 2 + 2 from by omega]
      simpa using this
theorem prs_at1 (l : List (Int × Int)) (k : Nat) (h : k < l.length) : (prs l)[k * 2 + 1]? = some (.int .i64 (l.getD k (0, 0)).2) := by
  induction l generalizing k with
  | nil => simp at h
  | cons e l ih =>
    cases k with
    | zero => simp [prs]
    | succ k =>
      have := ih k (by simpa using h)
      simp only [prs, List.flatMap_cons] at this ⊢
      rw [show (k + 1) * 2 + 1 = (k * 2 + 1) + 2 from by omega]
      simpa using this

/-- The cells of w stand in w' as they were. -/
def Keeps (w w' : World) : Prop := ∀ p v, w.cell? p = some v → w'.cell? p = some v
theorem Keeps.refl (w : World) : Keeps w w := fun _ _ h => h
theorem Keeps.trans {a b c : World} (h : Keeps a b) (k : Keeps b c) : Keeps a c := fun p v x => k p v (h p v x)
theorem Keeps.of_below {w w' : World} {B : Nat} (h : Below B w w') (hB : w.heap.size ≤ B) : Keeps w w' := fun p v x => by
  have hl := World.block_lt_of_cell? w p x
  rw [h.cell (by omega)]; exact x
theorem Keeps.alloc (w : World) (o : Obj) : Keeps w (w.alloc o) := fun p v x => by
  rw [World.cell?_alloc_lt w o p (World.block_lt_of_cell? w p x)]; exact x
theorem Keeps.drew (w : World) : Keeps w w.drew := fun _ _ x => x
theorem Keeps.drewN (w : World) (n : Nat) : Keeps w (w.drewN n) := fun _ _ x => x
theorem Keeps.setCell {a w : World} (h : Keeps a w) {p : Addr} (hp : a.heap.size ≤ p.block) (u : Value) : Keeps a (w.setCell p u) := fun q v x => by
  have hl := World.block_lt_of_cell? a q x
  rw [World.cell?_setCell_other w p q u (fun e => by subst e; omega)]; exact h q v x

/-- The slice that starts at A and has n elements of 'size' cells reads xs. -/
def Rd (w : World) (size : Nat) (A : Option Addr) (n : Nat) (xs : List Value) : Prop :=
  xs.length = n * size ∧ (0 < n → ∃ ad, A = some ad ∧ ∀ j u, xs[j]? = some u → w.cell? (ad.add j) = some u)

theorem add_next (a : Addr) (j : Nat) : a.add (j + 1) = ⟨(a.add j).block, (a.add j).off + 1, none⟩ := by
  unfold Addr.add
  by_cases hj : j = 0
  · subst hj; simp
  · simp [hj]; omega

section
variable {w w' : World} {size n : Nat} {A : Option Addr} {xs : List Value}
theorem Rd.keep (h : Rd w size A n xs) (k : Keeps w w') : Rd w' size A n xs :=
  ⟨h.1, fun hn => by obtain ⟨ad, e, hc⟩ := h.2 hn; exact ⟨ad, e, fun j u hu => k _ _ (hc j u hu)⟩⟩
theorem Rd.nil (w : World) (size : Nat) (A : Option Addr) : Rd w size A 0 [] := ⟨by simp, fun h => absurd h (by omega)⟩
theorem Rd.int_at {l : List Int} (h : Rd w 1 A n (ints l)) {k : Nat} (hk : k < n) : ∃ ad, A = some ad ∧ k < l.length ∧ w.cell? (ad.add k) = some (.int .i64 (l.getD k 0)) := by
  obtain ⟨ad, e, hc⟩ := h.2 (by omega)
  have hl := h.1
  rw [ints_length] at hl
  exact ⟨ad, e, by omega, hc _ _ (ints_at l k (by omega))⟩
theorem Rd.int_len {l : List Int} (h : Rd w 1 A n (ints l)) : l.length = n := by have := h.1; rw [ints_length] at this; omega
theorem Rd.prs_len {l : List (Int × Int)} (h : Rd w 2 A n (prs l)) : l.length = n := by have := h.1; rw [prs_length] at this; omega
theorem Rd.prs_at {l : List (Int × Int)} (h : Rd w 2 A n (prs l)) {k : Nat} (hk : k < n) :
    ∃ ad, A = some ad ∧ w.cell? (ad.add (k * 2)) = some (.int .i64 (l.getD k (0, 0)).1) ∧
      w.cell? ⟨(ad.add (k * 2)).block, (ad.add (k * 2)).off + 1, none⟩ = some (.int .i64 (l.getD k (0, 0)).2) := by
  obtain ⟨ad, e, hc⟩ := h.2 (by omega)
  have hl := h.prs_len
  exact ⟨ad, e, hc _ _ (prs_at0 l k (by omega)), by rw [← add_next]; exact hc _ _ (prs_at1 l k (by omega))⟩
end

/-- A list of lists of integers: the headers, and what each reads. -/
def RdL (w : World) (A : Option Addr) (n : Nat) (ls : List (List Int)) : Prop :=
  ls.length = n ∧ ∃ hs : List (Option Addr × Nat), hs.length = n ∧ Rd w 1 A n (List.zipWith (fun (h : Option Addr × Nat) (l : List Int) => Value.slice h.1 l.length h.2) hs ls) ∧ ∀ (i : Nat) (h : Option Addr × Nat) (l : List Int), hs[i]? = some h → ls[i]? = some l → Rd w 1 h.1 l.length (ints l)
theorem RdL.keep {w w' : World} {A : Option Addr} {n : Nat} {ls : List (List Int)} (h : RdL w A n ls) (k : Keeps w w') : RdL w' A n ls := by
  obtain ⟨h1, hs, h2, h3, h4⟩ := h
  exact ⟨h1, hs, h2, h3.keep k, fun i h l a b => (h4 i h l a b).keep k⟩
theorem RdL.at {w : World} {A : Option Addr} {n : Nat} {ls : List (List Int)} (h : RdL w A n ls) {k : Nat} (hk : k < n) :
    ∃ ad A' c, A = some ad ∧ w.cell? (ad.add k) = some (.slice A' (ls.getD k []).length c) ∧ Rd w 1 A' (ls.getD k []).length (ints (ls.getD k [])) := by
  obtain ⟨h1, hs, h2, h3, h4⟩ := h
  obtain ⟨ad, e, hc⟩ := h3.2 (by omega)
  have hk1 : k < hs.length := by omega
  have hk2 : k < ls.length := by omega
  have e1 : ls.getD k [] = ls[k] := by simp [List.getD_eq_getElem?_getD, List.getElem?_eq_getElem hk2]
  refine ⟨ad, hs[k].1, hs[k].2, e, ?_, ?_⟩
  · rw [e1]; refine hc k _ ?_
    simp [List.getElem?_zipWith, List.getElem?_eq_getElem hk1, List.getElem?_eq_getElem hk2]
  · rw [e1]; exact h4 k _ _ (List.getElem?_eq_getElem hk1) (List.getElem?_eq_getElem hk2)

theorem ret_bool {a b : Bool} (h : a = b) : Ending.returned (.bool a) = .returned (.bool b) := by rw [h]
theorem ret_int {a b : Int} (h : a = b) : Ending.returned (.int .i64 a) = .returned (.int .i64 b) := by rw [h]

/-- A contract that ends in 'Below', met in a world that has grown. -/
theorem grown_below (w : World) (d : Nat) (os : Array Obj) : Below w.heap.size w (grow (redrawn w d) os) := below_regrown w d os
end Go.Proofs.YtcpkdnhpelkeoaaGreat
