/-
  Contracts and lemmas for the statement, joined: Base, Na, SpecA, Reg, W1, W5.
-/
import Derived.WalkKit
import Derived.WalkSpells
import Derived.Lib.QuietBelow
import Derived.Lib.Hide
import Derived.Deep.Draws
import Derived.StillTail
import Derived.Deep.QuietTactic
import Derived.BigQuiet
import Derived.Test.YtpdbekgkopglgaaGreatRows
import Derived.WalkLawsBesides
namespace Go.Proofs.YtpdbekgkopglgaaGreat
set_option linter.unusedVariables false
set_option linter.unusedSimpArgs false
open Go.RowKit Go.Sort

def ints (l : List Int) : List Value := l.map (Value.int .i64)
def prs (l : List (Int × Int)) : List Value := l.flatMap fun e => [.int .i64 e.1, .int .i64 e.2]

theorem ints_length (l : List Int) : (ints l).length = l.length := by simp [ints]
theorem prs_length (l : List (Int × Int)) : (prs l).length = l.length * 2 := by
  induction l with
  | nil => rfl
  | cons e l ih => simp only [prs, List.flatMap_cons, List.length_append, List.length_cons, List.length_nil] at ih ⊢; omega
theorem ints_at (l : List Int) (k : Nat) (h : k < l.length) : (ints l)[k]? = some (.int .i64 (l.getD k 0)) := by
  simp [ints, List.getD_eq_getElem?_getD, List.getElem?_eq_getElem h]
theorem prs_at0 (l : List (Int × Int)) (k : Nat) (h : k < l.length) : (prs l)[k * 2]? = some (.int .i64 (l.getD k (0, 0)).1) := by
  induction l generalizing k with
  | nil => simp at h
  | cons e l ih =>
    cases k with
    | zero => simp [prs]
    | succ k =>
      have := ih k (by simpa using h)
      simp only [prs, List.flatMap_cons] at this ⊢
      rw [show (k + 1) * 2 = k * 2 + 2 from by omega]
      simpa using this
theorem prs_at1 (l : List (Int × Int)) (k : Nat) (h : k < l.length) : (prs l)[k * 2 + 1]? = some (.int .i64 (l.getD k (0, 0)).2) := by
  induction l generalizing k with
  | nil => simp at h
  | cons e l ih =>
    cases k with
    | zero => simp [prs]
    | succ k =>
      have := ih k (by simpa using h)
      simp only [prs, List.flatMap_cons] at this ⊢
      rw [show (k + 1) * 2 + 1 = (k * 2 + 1) + 2 from by omega]
      simpa using this

/-- The cells of w stand in w' as they were. -/
def Keeps (w w' : World) : Prop := ∀ p v, w.cell? p = some v → w'.cell? p = some v
theorem Keeps.refl (w : World) : Keeps w w := fun _ _ h => h
theorem Keeps.trans {a b c : World} (h : Keeps a b) (k : Keeps b c) : Keeps a c := fun p v x => k p v (h p v x)
theorem Keeps.of_below {w w' : World} {B : Nat} (h : Below B w w') (hB : w.heap.size ≤ B) : Keeps w w' := fun p v x => by
  have hl := World.block_lt_of_cell? w p x
  rw [h.cell (by omega)]; exact x
theorem Keeps.alloc (w : World) (o : Obj) : Keeps w (w.alloc o) := fun p v x => by
  rw [World.cell?_alloc_lt w o p (World.block_lt_of_cell? w p x)]; exact x
theorem Keeps.drew (w : World) : Keeps w w.drew := fun _ _ x => x
theorem Keeps.drewN (w : World) (n : Nat) : Keeps w (w.drewN n) := fun _ _ x => x
theorem Keeps.setCell {a w : World} (h : Keeps a w) {p : Addr} (hp : a.heap.size ≤ p.block) (u : Value) : Keeps a (w.setCell p u) := fun q v x => by
  have hl := World.block_lt_of_cell? a q x
  rw [World.cell?_setCell_other w p q u (fun e => by subst e; omega)]; exact h q v x

/-- The slice that starts at A and has n elements of 'size' cells reads xs. -/
def Rd (w : World) (size : Nat) (A : Option Addr) (n : Nat) (xs : List Value) : Prop :=
  xs.length = n * size ∧ (0 < n → ∃ ad, A = some ad ∧ ∀ j u, xs[j]? = some u → w.cell? (ad.add j) = some u)

theorem add_next (a : Addr) (j : Nat) : a.add (j + 1) = ⟨(a.add j).block, (a.add j).off + 1, none⟩ := by
  unfold Addr.add
  by_cases hj : j = 0
  · subst hj; simp
  · simp [hj]; omega

section
variable {w w' : World} {size n : Nat} {A : Option Addr} {xs : List Value}
theorem Rd.keep (h : Rd w size A n xs) (k : Keeps w w') : Rd w' size A n xs :=
  ⟨h.1, fun hn => by obtain ⟨ad, e, hc⟩ := h.2 hn; exact ⟨ad, e, fun j u hu => k _ _ (hc j u hu)⟩⟩
theorem Rd.nil (w : World) (size : Nat) (A : Option Addr) : Rd w size A 0 [] := ⟨by simp, fun h => absurd h (by omega)⟩
theorem Rd.int_at {l : List Int} (h : Rd w 1 A n (ints l)) {k : Nat} (hk : k < n) : ∃ ad, A = some ad ∧ k < l.length ∧ w.cell? (ad.add k) = some (.int .i64 (l.getD k 0)) := by
  obtain ⟨ad, e, hc⟩ := h.2 (by omega)
  have hl := h.1
  rw [ints_length] at hl
  exact ⟨ad, e, by omega, hc _ _ (ints_at l k (by omega))⟩
theorem Rd.int_len {l : List Int} (h : Rd w 1 A n (ints l)) : l.length = n := by have := h.1; rw [ints_length] at this; omega
theorem Rd.prs_len {l : List (Int × Int)} (h : Rd w 2 A n (prs l)) : l.length = n := by have := h.1; rw [prs_length] at this; omega
theorem Rd.prs_at {l : List (Int × Int)} (h : Rd w 2 A n (prs l)) {k : Nat} (hk : k < n) :
    ∃ ad, A = some ad ∧ w.cell? (ad.add (k * 2)) = some (.int .i64 (l.getD k (0, 0)).1) ∧
      w.cell? ⟨(ad.add (k * 2)).block, (ad.add (k * 2)).off + 1, none⟩ = some (.int .i64 (l.getD k (0, 0)).2) := by
  obtain ⟨ad, e, hc⟩ := h.2 (by omega)
  have hl := h.prs_len
  exact ⟨ad, e, hc _ _ (prs_at0 l k (by omega)), by rw [← add_next]; exact hc _ _ (prs_at1 l k (by omega))⟩
end

/-- A list of lists of integers: the headers, and what each reads. -/
def RdL (w : World) (A : Option Addr) (n : Nat) (ls : List (List Int)) : Prop :=
  ls.length = n ∧ ∃ hs : List (Option Addr × Nat), hs.length = n ∧ Rd w 1 A n (List.zipWith (fun (h : Option Addr × Nat) (l : List Int) => Value.slice h.1 l.length h.2) hs ls) ∧ ∀ (i : Nat) (h : Option Addr × Nat) (l : List Int), hs[i]? = some h → ls[i]? = some l → Rd w 1 h.1 l.length (ints l)
theorem RdL.keep {w w' : World} {A : Option Addr} {n : Nat} {ls : List (List Int)} (h : RdL w A n ls) (k : Keeps w w') : RdL w' A n ls := by
  obtain ⟨h1, hs, h2, h3, h4⟩ := h
  exact ⟨h1, hs, h2, h3.keep k, fun i h l a b => (h4 i h l a b).keep k⟩
theorem RdL.at {w : World} {A : Option Addr} {n : Nat} {ls : List (List Int)} (h : RdL w A n ls) {k : Nat} (hk : k < n) :
    ∃ ad A' c, A = some ad ∧ w.cell? (ad.add k) = some (.slice A' (ls.getD k []).length c) ∧ Rd w 1 A' (ls.getD k []).length (ints (ls.getD k [])) := by
  obtain ⟨h1, hs, h2, h3, h4⟩ := h
  obtain ⟨ad, e, hc⟩ := h3.2 (by omega)
  have hk1 : k < hs.length := by omega
  have hk2 : k < ls.length := by omega
  have e1 : ls.getD k [] = ls[k] := by simp [List.getD_eq_getElem?_getD, List.getElem?_eq_getElem hk2]
  refine ⟨ad, hs[k].1, hs[k].2, e, ?_, ?_⟩
  · rw [e1]; refine hc k _ ?_
    simp [List.getElem?_zipWith, List.getElem?_eq_getElem hk1, List.getElem?_eq_getElem hk2]
  · rw [e1]; exact h4 k _ _ (List.getElem?_eq_getElem hk1) (List.getElem?_eq_getElem hk2)

theorem ret_bool {a b : Bool} (h : a = b) : Ending.returned (.bool a) = .returned (.bool b) := by rw [h]
theorem ret_int {a b : Int} (h : a = b) : Ending.returned (.int .i64 a) = .returned (.int .i64 b) := by rw [h]

/-- A contract that ends in 'Below', met in a world that has grown. -/
theorem grown_below (w : World) (d : Nat) (os : Array Obj) : Below w.heap.size w (grow (redrawn w d) os) := below_regrown w d os
end Go.Proofs.YtpdbekgkopglgaaGreat
namespace Go.Proofs.YtpdbekgkopglgaaGreat
set_option linter.unusedVariables false
set_option linter.unusedSimpArgs false

def us (l : List Nat) : List Value := l.map fun (x : Nat) => Value.int .u32 (x : Int)
def U32 (l : List Nat) : Prop := ∀ x ∈ l, x < 4294967296
theorem us_length (l : List Nat) : (us l).length = l.length := by simp [us]
theorem us_at (l : List Nat) (k : Nat) (h : k < l.length) : (us l)[k]? = some (.int .u32 ((l.getD k 0 : Nat) : Int)) := by
  simp [us, List.getD_eq_getElem?_getD, List.getElem?_eq_getElem h]
theorem us_app (a b : List Nat) : us (a ++ b) = us a ++ us b := by simp [us]
theorem us_set (l : List Nat) (k x : Nat) : us (l.set k x) = (us l).set k (.int .u32 (x : Int)) := by unfold us; rw [List.map_set]
theorem us_take (l : List Nat) (k : Nat) : us (l.take k) = (us l).take k := by unfold us; rw [List.map_take]
theorem Rd.us_len {w : World} {A : Option Addr} {n : Nat} {l : List Nat} (h : Rd w 1 A n (us l)) : l.length = n := by have := h.1; rw [us_length] at this; omega
theorem Rd.us_at {w : World} {A : Option Addr} {n : Nat} {l : List Nat} (h : Rd w 1 A n (us l)) {k : Nat} (hk : k < n) :
    ∃ ad, A = some ad ∧ k < l.length ∧ w.cell? (ad.add k) = some (.int .u32 ((l.getD k 0 : Nat) : Int)) := by
  obtain ⟨ad, e, hc⟩ := h.2 (by omega)
  have hl := h.us_len
  exact ⟨ad, e, by omega, hc _ _ (Go.Proofs.YtpdbekgkopglgaaGreat.us_at l k (by omega))⟩
theorem U32.at {l : List Nat} (h : U32 l) (k : Nat) : l.getD k 0 < 4294967296 := by
  rcases Nat.lt_or_ge k l.length with h1 | h1
  · rw [List.getD_eq_getElem?_getD, List.getElem?_eq_getElem h1]; exact h _ (List.getElem_mem h1)
  · rw [List.getD_eq_getElem?_getD, List.getElem?_eq_none h1]; simp
theorem U32.take {l : List Nat} (h : U32 l) (k : Nat) : U32 (l.take k) := fun x hx => h x (List.mem_of_mem_take hx)
theorem U32.drop {l : List Nat} (h : U32 l) (k : Nat) : U32 (l.drop k) := fun x hx => h x (List.mem_of_mem_drop hx)
theorem U32.set {l : List Nat} (h : U32 l) (k : Nat) {x : Nat} (hx : x < 4294967296) : U32 (l.set k x) := fun y hy => by
  rcases List.mem_or_eq_of_mem_set hy with hy | rfl
  · exact h y hy
  · exact hx
theorem U32.nil : U32 [] := fun x h => nomatch h
theorem U32.zero (n : Nat) : U32 (List.replicate n 0) := fun x hx => by rw [(List.mem_replicate.1 hx).2]; omega

/-- The value. -/
def nv : List Nat → Nat
  | [] => 0
  | x :: l => x + 4294967296 * nv l
theorem nv_app (a b : List Nat) : nv (a ++ b) = nv a + 4294967296 ^ a.length * nv b := by
  induction a with
  | nil => simp [nv]
  | cons x a ih =>
    rw [List.cons_append, nv, nv, ih, List.length_cons, Nat.pow_succ, Nat.mul_add, Nat.mul_comm (4294967296 ^ a.length) 4294967296, Nat.mul_assoc, Nat.add_assoc]
theorem nv_lt {l : List Nat} (h : U32 l) : nv l < 4294967296 ^ l.length := by
  induction l with
  | nil => simp [nv]
  | cons x l ih =>
    have hx := h x (List.mem_cons_self ..)
    have hi := ih (fun y hy => h y (List.mem_cons_of_mem _ hy))
    rw [nv, List.length_cons, Nat.pow_succ]
    have : (nv l + 1) * 4294967296 ≤ 4294967296 ^ l.length * 4294967296 := Nat.mul_le_mul_right _ hi
    omega
theorem nv_take_drop (l : List Nat) (k : Nat) (hk : k ≤ l.length) : nv l = nv (l.take k) + 4294967296 ^ k * nv (l.drop k) := by
  have := nv_app (l.take k) (l.drop k)
  rw [List.take_append_drop, List.length_take, Nat.min_eq_left hk] at this
  exact this
theorem nv_zero {l : List Nat} (h : ∀ j, l.getD j 0 = 0) : nv l = 0 := by
  induction l with
  | nil => rfl
  | cons x l ih =>
    have h0 := h 0
    have hi := ih (fun j => by have := h (j + 1); simpa using this)
    simp only [List.getD_cons_zero] at h0
    rw [nv, hi, h0]
theorem nv_replicate (n : Nat) : nv (List.replicate n 0) = 0 := nv_zero fun j => by
  rw [List.getD_eq_getElem?_getD, List.getElem?_replicate]; split <;> rfl

/-- The length without the zeros at the end. -/
def tlen : List Nat → Nat
  | [] => 0
  | x :: l => if tlen l = 0 then (if x = 0 then 0 else 1) else tlen l + 1
theorem tlen_le : ∀ l : List Nat, tlen l ≤ l.length
  | [] => Nat.le_refl _
  | x :: l => by
    have := tlen_le l
    unfold tlen
    rw [List.length_cons]
    split
    · split <;> omega
    · omega
theorem tlen_top : ∀ {l : List Nat}, 0 < tlen l → l.getD (tlen l - 1) 0 ≠ 0
  | x :: l, h => by
    unfold tlen at h ⊢
    split at h
    · split at h
      · omega
      · rename_i h1 h2
        rw [if_pos h1, if_neg h2]; simpa using h2
    · rename_i h1
      rw [if_neg h1]
      have := tlen_top (l := l) (by omega)
      rw [show tlen l + 1 - 1 = (tlen l - 1) + 1 by omega, List.getD_cons_succ]
      exact this
theorem tlen_out : ∀ {l : List Nat} {j : Nat}, tlen l ≤ j → l.getD j 0 = 0
  | [], j, _ => by simp
  | x :: l, j, h => by
    unfold tlen at h
    split at h
    · rename_i h1
      split at h
      · rename_i h2
        cases j with
        | zero => simpa using h2
        | succ j => rw [List.getD_cons_succ]; exact tlen_out (by omega)
      · cases j with
        | zero => omega
        | succ j => rw [List.getD_cons_succ]; exact tlen_out (by omega)
    · cases j with
      | zero => omega
      | succ j => rw [List.getD_cons_succ]; exact tlen_out (by omega)
theorem tlen_of {l : List Nat} {k : Nat} (h1 : ∀ j, k ≤ j → l.getD j 0 = 0) (h2 : 0 < k → l.getD (k - 1) 0 ≠ 0) : tlen l = k := by
  rcases Nat.lt_trichotomy (tlen l) k with h | h | h
  · exact absurd (tlen_out (l := l) (j := k - 1) (by omega)) (h2 (by omega))
  · exact h
  · exact absurd (h1 (tlen l - 1) (by omega)) (tlen_top (by omega))
def trimN (l : List Nat) : List Nat := l.take (tlen l)
theorem trimN_len (l : List Nat) : (trimN l).length = tlen l := by unfold trimN; rw [List.length_take, Nat.min_eq_left (tlen_le l)]
theorem getD_takeN (l : List Nat) (k j : Nat) : (l.take k).getD j 0 = if j < k then l.getD j 0 else 0 := by
  rw [List.getD_eq_getElem?_getD, List.getElem?_take, List.getD_eq_getElem?_getD]
  split <;> rfl
theorem getD_dropN (l : List Nat) (k j : Nat) : (l.drop k).getD j 0 = l.getD (k + j) 0 := by
  rw [List.getD_eq_getElem?_getD, List.getElem?_drop, List.getD_eq_getElem?_getD]
theorem nv_trim (l : List Nat) : nv (trimN l) = nv l := by
  rw [nv_take_drop l (tlen l) (tlen_le l), nv_zero (l := l.drop (tlen l)) (fun j => by rw [getD_dropN]; exact tlen_out (by omega))]
  unfold trimN
  omega
/-- Without zeros at the end. -/
def Trm (l : List Nat) : Prop := tlen l = l.length
theorem trimN_trm (l : List Nat) : Trm (trimN l) := by
  unfold Trm
  rw [trimN_len]
  refine tlen_of (fun j hj => ?_) (fun h => ?_)
  · unfold trimN; rw [getD_takeN, if_neg (by omega)]
  · unfold trimN; rw [getD_takeN, if_pos (by omega)]; exact tlen_top h
theorem Trm.eq {l : List Nat} (h : Trm l) : trimN l = l := by unfold trimN; rw [h]; simp
theorem Trm.top {l : List Nat} (h : Trm l) (h0 : 0 < l.length) : l.getD (l.length - 1) 0 ≠ 0 := by rw [← h]; exact tlen_top (by rw [h]; exact h0)
theorem Trm.nil : Trm [] := rfl
theorem trimN_u32 {l : List Nat} (h : U32 l) : U32 (trimN l) := h.take _
/-- A trimmed list of n words is at least 2^(32 (n-1)). -/
theorem Trm.low {l : List Nat} (h : Trm l) (h0 : 0 < l.length) : 4294967296 ^ (l.length - 1) ≤ nv l := by
  have h1 := h.top h0
  rw [nv_take_drop l (l.length - 1) (by omega)]
  have h2 : nv (l.drop (l.length - 1)) = l.getD (l.length - 1) 0 := by
    have h3 : l.drop (l.length - 1) = [l.getD (l.length - 1) 0] := by
      rw [List.drop_eq_getElem_cons (by omega), List.drop_eq_nil_of_le (by omega), List.getD_eq_getElem?_getD, List.getElem?_eq_getElem (by omega)]
      rfl
    rw [h3]; simp [nv]
  rw [h2]
  have : 4294967296 ^ (l.length - 1) * 1 ≤ 4294967296 ^ (l.length - 1) * l.getD (l.length - 1) 0 := Nat.mul_le_mul_left _ (by omega)
  omega
theorem Trm.pos {l : List Nat} (h : Trm l) (h0 : 0 < l.length) : 0 < nv l := Nat.lt_of_lt_of_le (Nat.pow_pos (by omega)) (h.low h0)
theorem Trm.zero {l : List Nat} (h : Trm l) (h0 : nv l = 0) : l = [] := by
  rcases Nat.eq_zero_or_pos l.length with h1 | h1
  · exact List.eq_nil_of_length_eq_zero h1
  · have := h.pos h1; omega
/-- Comparison of words from the top. -/
def cmpW : List Nat → List Nat → Int
  | x :: a, y :: b => if cmpW a b ≠ 0 then cmpW a b else if x < y then -1 else if y < x then 1 else 0
  | _, _ => 0
def cmpN (a b : List Nat) : Int := if a.length = b.length then cmpW a b else if a.length < b.length then -1 else 1
theorem cmpW_eq : ∀ {a b : List Nat}, a.length = b.length → (∀ j, a.getD j 0 = b.getD j 0) → cmpW a b = 0
  | [], [], _, _ => rfl
  | x :: a, y :: b, hl, h => by
    have h0 := h 0
    have hi := cmpW_eq (a := a) (b := b) (by simpa using hl) (fun j => by have := h (j + 1); simpa using this)
    simp only [List.getD_cons_zero] at h0
    unfold cmpW
    rw [hi, if_neg (by simp), if_neg (by omega), if_neg (by omega)]
theorem cmpW_at : ∀ {a b : List Nat} {i : Nat} {r : Int}, a.length = b.length → i < a.length → (∀ j, i < j → a.getD j 0 = b.getD j 0) → (a.getD i 0 < b.getD i 0 ∧ r = -1 ∨ b.getD i 0 < a.getD i 0 ∧ r = 1) → cmpW a b = r
  | x :: a, y :: b, 0, r, hl, _, h, hr => by
    have hi := cmpW_eq (a := a) (b := b) (by simpa using hl) (fun j => by have := h (j + 1) (by omega); simpa using this)
    simp only [List.getD_cons_zero] at hr
    unfold cmpW
    rw [hi, if_neg (by simp)]
    rcases hr with ⟨h1, rfl⟩ | ⟨h1, rfl⟩
    · rw [if_pos h1]
    · rw [if_neg (by omega), if_pos h1]
  | x :: a, y :: b, i + 1, r, hl, hi, h, hr => by
    have ih := cmpW_at (a := a) (b := b) (i := i) (r := r) (by simpa using hl) (by simpa using hi) (fun j hj => by have := h (j + 1) (by omega); simpa using this) (by simpa using hr)
    have hr0 : r ≠ 0 := by rcases hr with ⟨-, rfl⟩ | ⟨-, rfl⟩ <;> simp
    unfold cmpW
    rw [ih, if_pos hr0]
theorem cmpW_nv : ∀ {a b : List Nat}, a.length = b.length → U32 a → U32 b → (cmpW a b = -1 ∧ nv a < nv b) ∨ (cmpW a b = 0 ∧ a = b) ∨ (cmpW a b = 1 ∧ nv b < nv a)
  | [], [], _, _, _ => .inr (.inl ⟨rfl, rfl⟩)
  | x :: a, y :: b, hl, ha, hb => by
    have hx := ha x (List.mem_cons_self ..)
    have hy := hb y (List.mem_cons_self ..)
    have ih := cmpW_nv (a := a) (b := b) (by simpa using hl) (fun z hz => ha z (List.mem_cons_of_mem _ hz)) (fun z hz => hb z (List.mem_cons_of_mem _ hz))
    unfold cmpW
    rw [nv, nv]
    rcases ih with ⟨h1, h2⟩ | ⟨h1, rfl⟩ | ⟨h1, h2⟩
    · rw [h1, if_pos (by simp)]
      exact .inl ⟨rfl, by omega⟩
    · rw [h1, if_neg (by simp)]
      rcases Nat.lt_trichotomy x y with h | rfl | h
      · rw [if_pos h]; exact .inl ⟨rfl, by omega⟩
      · rw [if_neg (by omega), if_neg (by omega)]; exact .inr (.inl ⟨rfl, rfl⟩)
      · rw [if_neg (by omega), if_pos h]; exact .inr (.inr ⟨rfl, by omega⟩)
    · rw [h1, if_pos (by simp)]
      exact .inr (.inr ⟨rfl, by omega⟩)
theorem nv_lt_len {a b : List Nat} (ha : U32 a) (hb : Trm b) (h : a.length < b.length) : nv a < nv b := by
  have h1 := nv_lt ha
  have h2 := hb.low (by omega)
  have h3 : 4294967296 ^ a.length ≤ 4294967296 ^ (b.length - 1) := Nat.pow_le_pow_right (by omega) (by omega)
  omega
/-- The comparison of trimmed numbers is that of their values. -/
theorem cmpN_nv {a b : List Nat} (ha : U32 a) (hb : U32 b) (ta : Trm a) (tb : Trm b) : cmpN a b < 0 ↔ nv a < nv b := by
  unfold cmpN
  split
  · rename_i hl
    rcases cmpW_nv hl ha hb with ⟨h1, h2⟩ | ⟨h1, rfl⟩ | ⟨h1, h2⟩
    · rw [h1]; simp; exact h2
    · rw [h1]; simp
    · rw [h1]; simp; omega
  · rename_i hl
    split
    · rename_i h
      have := nv_lt_len ha tb h
      simp; exact this
    · have := nv_lt_len hb ta (by omega)
      simp; omega
theorem cmpN_vals (a b : List Nat) : cmpN a b = -1 ∨ cmpN a b = 0 ∨ cmpN a b = 1 := by
  have hE : ∀ a b : List Nat, cmpW a b = -1 ∨ cmpW a b = 0 ∨ cmpW a b = 1 := by
    intro a
    induction a with
    | nil => intro b; unfold cmpW; exact .inr (.inl rfl)
    | cons x a ih =>
      intro b
      cases b with
      | nil => unfold cmpW; exact .inr (.inl rfl)
      | cons y b =>
        unfold cmpW
        split
        · exact ih b
        · split
          · exact .inl rfl
          · split
            · exact .inr (.inr rfl)
            · exact .inr (.inl rfl)
  unfold cmpN
  split
  · exact hE a b
  · split
    · exact .inl rfl
    · exact .inr (.inr rfl)
end Go.Proofs.YtpdbekgkopglgaaGreat
namespace Go.Proofs.YtpdbekgkopglgaaGreat
set_option linter.unusedVariables false
set_option linter.unusedSimpArgs false

def hasB (n k : Int) : Bool := decide (0 ≤ k) && decide (k < n)
/-- (a, b) comes before (c, d). -/
def befB (a b c d : Int) : Bool := decide (a < c) || (decide (a = c) && decide (b < d))
def cmpI (a b : Int) : Int := if a < b then -1 else if b < a then 1 else 0
def orI (a b : Int) : Int := if a = 0 then b else a
def cmpE (a b c d : Int) : Int := orI (cmpI a c) (cmpI b d)

theorem cmpE_ge (a b c d : Int) : decide (0 ≤ cmpE a b c d) = !befB a b c d := by
  unfold cmpE orI cmpI befB
  grind

def EAt (es : List (Int × Int)) (k : Nat) : Int × Int := es.getD k (0, 0)
/-- Edge number k is fit, and comes behind the one before it. -/
def okAt (N : Int) (es : List (Int × Int)) (k : Nat) : Bool :=
  decide (0 ≤ (EAt es k).1) && decide ((EAt es k).1 < (EAt es k).2) && decide ((EAt es k).2 < N) && (decide (k = 0) || befB (EAt es (k - 1)).1 (EAt es (k - 1)).2 (EAt es k).1 (EAt es k).2)
def validB (N : Int) (es : List (Int × Int)) : Bool := decide (0 ≤ N) && decide (N ≤ 60) && (List.range es.length).all (okAt N es)

theorem okAt_x {N : Int} {es : List (Int × Int)} {k : Nat} {x y : Int} (hx : (es.getD k (0, 0)).1 = x) (hy : (es.getD k (0, 0)).2 = y) :
    okAt N es k = (decide (0 ≤ x) && decide (x < y) && decide (y < N) && (decide (k = 0) || befB (es.getD (k - 1) (0, 0)).1 (es.getD (k - 1) (0, 0)).2 x y)) := by
  subst hx hy; rfl
theorem okAt_pq {N : Int} {es : List (Int × Int)} {k : Nat} {x y p q : Int} {b : Bool} (hx : (es.getD k (0, 0)).1 = x) (hy : (es.getD k (0, 0)).2 = y) (hp : (es.getD (k - 1) (0, 0)).1 = p) (hq : (es.getD (k - 1) (0, 0)).2 = q)
    (hb : befB p q x y = b) (h1 : ¬ x < 0) (h2 : ¬ y ≤ x) (h3 : ¬ N ≤ y) (hk : ¬ k = 0) : okAt N es k = b := by
  rw [okAt_x hx hy, hp, hq, hb]
  simp [hk, (by omega : 0 ≤ x), (by omega : x < y), (by omega : y < N)]
theorem validB_no (N : Int) (es : List (Int × Int)) (k : Nat) (hk : k < es.length) (h : okAt N es k = false) : validB N es = false := by
  unfold validB
  have : (List.range es.length).all (okAt N es) = false := by
    rw [List.all_eq_false]; exact ⟨k, by simpa using hk, by simp [h]⟩
  simp [this]
theorem okAt_no {N : Int} {es : List (Int × Int)} {k : Nat} {x y : Int} (hx : (es.getD k (0, 0)).1 = x) (hy : (es.getD k (0, 0)).2 = y) (h : x < 0 ∨ y ≤ x ∨ N ≤ y) : okAt N es k = false := by
  rw [okAt_x hx hy]
  rcases h with h | h | h
  · rw [decide_eq_false (by omega : ¬ 0 ≤ x)]; simp
  · rw [decide_eq_false (by omega : ¬ x < y)]; simp
  · rw [decide_eq_false (by omega : ¬ y < N)]; simp
theorem okAt_zero {N : Int} {es : List (Int × Int)} {k : Nat} {x y : Int} (hx : (es.getD k (0, 0)).1 = x) (hy : (es.getD k (0, 0)).2 = y) (h1 : ¬ x < 0) (h2 : ¬ y ≤ x) (h3 : ¬ N ≤ y) (hk : k = 0) : okAt N es k = true := by
  rw [okAt_x hx hy]
  simp [hk, (by omega : 0 ≤ x), (by omega : x < y), (by omega : y < N)]
theorem okAt_step {N : Int} {es : List (Int × Int)} {k : Nat} (h : ∀ j, j < k → okAt N es j = true) (hk : okAt N es k = true) : ∀ j, j < k + 1 → okAt N es j = true := fun j hj => by
  by_cases e : j = k
  · rw [e]; exact hk
  · exact h j (by omega)
theorem hasB_yes {n k : Int} (h0 : 0 ≤ k) (h1 : k < n) : hasB n k = true := by simp [hasB, h0, h1]
theorem hasB_no {n k : Int} (h : k < 0 ∨ n ≤ k) : hasB n k = false := by
  unfold hasB
  rcases h with h | h
  · rw [decide_eq_false (by omega : ¬ 0 ≤ k)]; rfl
  · rw [decide_eq_false (by omega : ¬ k < n)]; simp
theorem befB_of {p q x y z : Int} (hz : cmpE p q x y = z) : befB p q x y = !decide (0 ≤ z) := by rw [← hz, cmpE_ge]; simp
theorem validB_yes (N : Int) (es : List (Int × Int)) (h0 : 0 ≤ N) (h1 : N ≤ 60) (h : ∀ j, j < es.length → okAt N es j = true) : validB N es = true := by
  unfold validB
  simp only [h0, h1, decide_true, Bool.true_and, List.all_eq_true, List.mem_range]
  exact h
theorem validB_out (N : Int) (es : List (Int × Int)) (h : N < 0 ∨ 60 < N) : validB N es = false := by
  unfold validB
  rcases h with h | h
  · rw [decide_eq_false (by omega : ¬ 0 ≤ N)]; rfl
  · rw [decide_eq_false (by omega : ¬ N ≤ 60)]; simp
theorem validB_iff (N : Int) (es : List (Int × Int)) : validB N es = true ↔ 0 ≤ N ∧ N ≤ 60 ∧ ∀ j, j < es.length → okAt N es j = true := by
  unfold validB
  simp [and_assoc]

def shortB (ls : List (List Int)) : Bool := ls.all (fun l => decide (l.length ≤ 120)) && decide ((ls.length : Int) ≤ 100)
theorem shortB_no (ls : List (List Int)) (k : Nat) (hk : k < ls.length) (h : 120 < (ls.getD k []).length) : shortB ls = false := by
  unfold shortB
  have : ls.all (fun l => decide (l.length ≤ 120)) = false := by
    rw [List.all_eq_false]
    refine ⟨ls[k], List.getElem_mem hk, ?_⟩
    rw [List.getD_eq_getElem?_getD, List.getElem?_eq_getElem hk] at h
    simpa using h
  simp [this]
theorem shortB_yes (ls : List (List Int)) (h : ∀ j, j < ls.length → (ls.getD j []).length ≤ 120) : shortB ls = decide ((ls.length : Int) ≤ 100) := by
  unfold shortB
  have : ls.all (fun l => decide (l.length ≤ 120)) = true := by
    rw [List.all_eq_true]
    intro x hx
    obtain ⟨k, hk, rfl⟩ := List.getElem_of_mem hx
    have := h k hk
    rw [List.getD_eq_getElem?_getD, List.getElem?_eq_getElem hk] at this
    simpa using this
  simp [this]
def IsMax (l : List Int) (m : Int) : Prop := m ∈ l ∧ ∀ x, x ∈ l → x ≤ m
theorem mem_getD {l : List Int} {k : Nat} (h : k < l.length) : l.getD k 0 ∈ l := by
  rw [List.getD_eq_getElem?_getD, List.getElem?_eq_getElem h]; exact List.getElem_mem h
theorem getD_of_mem {l : List Int} {x : Int} (h : x ∈ l) : ∃ k, k < l.length ∧ l.getD k 0 = x := by
  obtain ⟨k, hk, rfl⟩ := List.getElem_of_mem h
  exact ⟨k, hk, by rw [List.getD_eq_getElem?_getD, List.getElem?_eq_getElem hk]; rfl⟩

end Go.Proofs.YtpdbekgkopglgaaGreat
namespace Go.Proofs.YtpdbekgkopglgaaGreat
set_option linter.unusedVariables false
set_option linter.unusedSimpArgs false
open Go.RowKit Go.Sort

section
variable {P : Program} {ops : Array Oper} {md : Region.Mode} {C : World → Prop}

def wpAnyK (P : Program) (md : Region.Mode) (ops : Array Oper) (C : World → Prop) (n : Nat) (L : Array Bool → Act → Prop) : Nat → Array Bool → Act → Prop
  | 0, listed, a => L listed a
  | f + 1, listed, a =>
    Region.ready md ops listed ≠ [] ∧ ∀ i ∈ Region.ready md ops listed, i < n ∧ qOp P ops C i (wpAnyK P md ops C n L f (listed.setIfInBounds i true)) a

theorem wpAny_of_headK {n g : Nat} {L : Array Bool → Act → Prop} {Q' : Exit → Act → World → Prop} (hL : ∀ listed a w, C w → L listed a → wpAny P md ops Q' g listed a w) :
    ∀ (f : Nat) (listed : Array Bool) (a : Act) (w : World), C w → wpAnyK P md ops C n L f listed a → wpAny P md ops Q' (f + g) listed a w
  | 0, listed, a, w, hw, h => by rw [Nat.zero_add]; exact hL _ _ _ hw h
  | f + 1, listed, a, w, hw, h => by
    rw [show f + 1 + g = (f + g) + 1 by omega]
    exact ⟨fun h0 => absurd h0 h.1, fun i hi => wpOp_of_qOp hw (fun a' w' hw' h' => wpAny_of_headK hL f _ a' w' hw' h') (h.2 i hi).2⟩

theorem wpAnyK_first {n i : Nat} {oi : Oper} {v : Value} {L : Array Bool → Act → Prop} (hi : ops[i]? = some oi) (hsel : ∀ (j : Nat) (o : Oper) cs b, ops[j]? = some o → o.op ≠ .select cs b)
    (hs : Region.sinkB md ops n = true) (hc : Region.chainB md ops n = true) (hn : n < ops.size) (hin : i < n)
    (hdone : ∀ listed a, L listed a → ∀ j ∈ Region.ready md ops listed, n ≤ j) :
    ∀ (f : Nat) (listed : Array Bool) (a : Act), HeadInv md ops n listed →
      (∀ j oj, ops[j]? = some oj → j ≠ i → listed.getD j true = false → (∀ e ∈ oj.after, Region.binds md e = true → e.on ≠ i) → oi.apart ops oj = true) →
      i ∈ Region.ready md ops listed → YieldsIn P ops C oi v a →
      wpAnyK P md ops C n L f (listed.setIfInBounds i true) (a.put oi.dst v) → wpAnyK P md ops C n L (f + 1) listed a := by
  intro f
  induction f with
  | zero =>
    intro listed a inv _ hr hy H
    have hun := (mem_ready.1 hr).1
    refine ⟨fun h => (by rw [h] at hr; cases hr), fun j hj => ?_⟩
    have hjn : j < n := by
      rcases Nat.lt_or_ge j n with h | h
      · exact h
      · exact absurd hj (tail_waits hs hc hn inv _ i rfl hin hun j h)
    refine ⟨hjn, ?_⟩
    by_cases hji : j = i
    · subst hji; exact hy.qOp hi H
    · have := hdone _ _ H j (ready_mono hj hji)
      omega
  | succ f ih =>
    intro listed a inv hfree hr hy H
    have hun := (mem_ready.1 hr).1
    refine ⟨fun h => (by rw [h] at hr; cases hr), fun j hj => ?_⟩
    have hjn : j < n := by
      rcases Nat.lt_or_ge j n with h | h
      · exact h
      · exact absurd hj (tail_waits hs hc hn inv _ i rfl hin hun j h)
    refine ⟨hjn, ?_⟩
    by_cases hji : j = i
    · subst hji; exact hy.qOp hi H
    · have h1 := (H.2 j (ready_mono hj hji)).2
      obtain ⟨hjun, oj, hoj, hall⟩ := mem_ready.1 hj
      have hnot : ∀ e ∈ oj.after, Region.binds md e = true → e.on ≠ i := fun e he hb heq => by
        have h1 := hall e he hb
        rw [heq, getD_both hun] at h1
        cases h1
      have h2 := qOp_put hoj (hfree j oj hoj hji hjun hnot) (fun cs b => hsel i oi cs b hi) (fun cs b => hsel j oj cs b hoj) hy h1
      have hfree' : ∀ k ok, ops[k]? = some ok → k ≠ i → (listed.setIfInBounds j true).getD k true = false →
          (∀ e ∈ ok.after, Region.binds md e = true → e.on ≠ i) → oi.apart ops ok = true := fun k ok hk hki hun hno => by
        refine hfree k ok hk hki ?_ hno
        by_cases hjk : j = k
        · subst hjk; exact hjun
        · rw [getD_set_ne true hjk] at hun; exact hun
      refine qOp_mono (fun a' h3 => ih (listed.setIfInBounds j true) a' (inv.set hj hjn) hfree' (ready_mono hr (Ne.symm hji)) h3.1 ?_) h2
      rw [Array.setIfInBounds_comm _ _ hji]
      exact h3.2

theorem wpAnyK_lex {n g : Nat} {Lq : Act → Prop} (hsel : Region.noSelect ops = true) (hs : Region.sinkB md ops n = true) (hc : Region.chainB md ops n = true) (hn : n < ops.size) :
    ∀ (l : List Oper) (k : Nat) (listed : Array Bool) (a : Act), (∀ j, j < l.length → l[j]? = ops[k + j]?) → k + l.length = n → HeadInv md ops n listed →
    Region.lexHead md ops g l.length k listed = true → wpQuiet P ops C Lq l a →
    wpAnyK P md ops C n (fun listed' a' => Region.seqB md ops g n listed' = true ∧ Lq a') l.length listed a
  | [], k, listed, a, _, hk, _, hB, h => by
    have : k = n := by simpa using hk
    subst this
    exact ⟨by simpa [Region.lexHead] using hB, h⟩
  | o :: l, k, listed, a, hl, hk, inv, hB, h => by
    have h0 : ops[k]? = some o := by simpa using (hl 0 (by simp)).symm
    simp only [List.length_cons, Region.lexHead, Bool.and_eq_true] at hB
    obtain ⟨⟨hr, hf⟩, hB'⟩ := hB
    have hkn : k < n := by simp only [List.length_cons] at hk; omega
    have hr' : k ∈ Region.ready md ops listed := by simpa using hr
    have hst : qOp P ops C k (wpQuiet P ops C Lq l) a := by unfold qOp; simp only [h0]; exact h
    obtain ⟨v, hy, hK⟩ := yieldsIn_of_qOp h0 hst
    exact wpAnyK_first h0 (Region.noSelect_spec hsel) hs hc hn hkn (fun listed' a' hL => seqB_ready hL.1) l.length listed a inv (Region.free_spec h0 hf) hr' hy
      (wpAnyK_lex hsel hs hc hn l (k + 1) _ _ (fun j hj => by have := hl (j + 1) (by simp; omega); simpa [Nat.add_assoc, Nat.add_comm 1 j] using this) (by simp only [List.length_cons] at hk; omega) (inv.set hr' hkn) hB' hK)

theorem wpQuiet_mono {Q Q' : Act → Prop} (h : ∀ a, Q a → Q' a) : ∀ (l : List Oper) (a : Act), wpQuiet P ops C Q l a → wpQuiet P ops C Q' l a
  | [], a, x => h a x
  | o :: l, a, x => by
    unfold wpQuiet at x ⊢
    split
    · rename_i hw; rw [if_pos hw] at x; exact Oper.quiet_mono (fun a' h' => wpQuiet_mono h l a' h') x
    · rename_i hw; rw [if_neg hw] at x; exact wpQuiet_mono h l _ x
end

/-- The class: w with whatever count of draws, with some blocks laid behind it. -/
def Wider (w w' : World) : Prop := ∃ p : Regrown, w' = grow (redrawn w p.d) p.os
theorem Wider.below {w w' : World} (h : Wider w w') : Below w.heap.size w w' := by
  obtain ⟨p, rfl⟩ := h; exact below_regrown _ _ _

/-- (1) All operations read, or call what makes blocks of its own. -/
theorem wp_region_q {P : Program} {id : Nat} {Q : Exit → Act → World → Prop} {a : Act} {w : World} {l : List Oper} (hm : P.follows .mixedOrders = true) (hB : Region.lexB .any l.toArray = true)
    (h : wpQuiet P l.toArray (fun w' => ∃ p : Regrown, w' = grow (redrawn w p.d) p.os) (fun a' => ∀ w', Below w.heap.size w w' → Q .normal a' w') l a) : (Code.region id l.toArray true).wp P Q a w := by
  refine wp_region_quiet_below hm hB (wpQuiet_mono (fun a' h' w' hw' => ?_) l a h)
  exact h' w' (Wider.below hw')

/-- (2) The first n operations so; the others in one forced order. -/
theorem wp_region_qt {P : Program} {id : Nat} {Q : Exit → Act → World → Prop} {a : Act} {w : World} {l : List Oper} (n : Nat) (hm : P.follows .mixedOrders = true) (hB : Region.lexTailB .any l.toArray n = true)
    (h : wpQuiet P l.toArray (fun w' => ∃ p : Regrown, w' = grow (redrawn w p.d) p.os) (fun a' => ∀ w', Below w.heap.size w w' → wpList P l.toArray Q (l.drop n) a' w') (l.take n) a) : (Code.region id l.toArray true).wp P Q a w := by
  simp only [Region.lexTailB, Bool.and_eq_true, decide_eq_true_eq] at hB
  obtain ⟨⟨⟨⟨hsel, hn⟩, hs⟩, hc⟩, hlex⟩ := hB
  have hn' : n < l.length := by simpa using hn
  have htl : (l.take n).length = n := by simp; omega
  have hdl : (l.drop n).length = l.toArray.size - n := by simp
  have inv0 : HeadInv .any l.toArray n (Array.replicate l.toArray.size false) :=
    ⟨by simp, fun j oj _ hl => (by rw [getD_replicate_false] at hl; cases hl), fun t _ ht => getD_in (by simpa using ht) (getD_replicate_false _ _)⟩
  have H := wpAnyK_lex (md := .any) (g := l.toArray.size - n) hsel hs hc hn (l.take n) 0 _ a (fun j hj => by
    have hj' : j < n := by rw [htl] at hj; exact hj
    simp [hj']) (by simpa using htl) inv0 (by rw [htl]; exact hlex) h
  refine wp_region_any hm ?_
  have hC : ∃ p : Regrown, ({ w with drawn := w.drawn + 1 } : World) = grow (redrawn w p.d) p.os := ⟨⟨w.drawn + 1, #[]⟩, by rw [grow_empty]; rfl⟩
  have := wpAny_of_headK (Q' := Q) (g := l.toArray.size - n) (fun listed a' w' hw' hL => by
    have := wpAny_of_seq (md := .any) (Q' := Q) (l.drop n) n listed a' w' (fun j => by simp [List.getElem?_drop]) (by rw [hdl]; exact hL.1) (hL.2 w' (Wider.below hw'))
    rwa [hdl] at this) _ _ _ _ hC H
  rw [htl, show n + (l.toArray.size - n) = l.toArray.size by omega] at this
  exact this

theorem grown_cell {w : World} {a : Addr} {v : Value} (h : w.cell? a = some v) : ∀ d os, (grow (redrawn w d) os).cell? a = some v := fun d os => cell_regrown h d os
theorem Keeps.grown (w : World) (d : Nat) (os : Array Obj) : Keeps w (grow (redrawn w d) os) := fun _ _ h => cell_regrown h d os
/-- A contract at any world that keeps w's cells, met in the region. -/
theorem call_q {P : Program} {f : FuncId} {args : Array Value} {w : World} {v : Value}
    (h : ∀ w', Keeps w w' → Calls P f args w' fun e w'' => e = .returned v ∧ Below w'.heap.size w' w'') :
    ∀ d os, Calls P f args (grow (redrawn w d) os) fun e w'' => e = .returned v ∧ ∃ p : Regrown, w'' = grow (redrawn w p.d) p.os :=
  fun d os => Calls.regrown_of (h _ (Keeps.grown w d os))
/-- A contract of a function that leaves the world alone. -/
theorem call_p {P : Program} {f : FuncId} {args : Array Value} {w : World} {v : Value}
    (h : ∀ w', Calls P f args w' fun e w'' => e = .returned v ∧ w' = w'') :
    ∀ d os, Calls P f args (grow (redrawn w d) os) fun e w'' => e = .returned v ∧ ∃ p : Regrown, w'' = grow (redrawn w p.d) p.os :=
  fun d os => Calls.regrown_of ((h _).mono fun e w'' hh => ⟨hh.1, by rw [← hh.2]; exact Below.refl _ _⟩)
end Go.Proofs.YtpdbekgkopglgaaGreat
namespace Go.Proofs.YtpdbekgkopglgaaGreat
set_option linter.unusedVariables false
set_option linter.unusedSimpArgs false
open Go.RowKit Go.Sort

set_option maxHeartbeats 400000 in
theorem has_any (n k : Int) (w : World) :
    Calls Tryz.prog 24 #[.int .i64 n, .int .i64 k] w fun e w' => e = .returned (.bool (hasB n k)) ∧ w = w' := by
  unfold hasB
  go_enter Tryz.func24, Tryz.ntmps24
  go_wp2
  all_goals go_ret
  all_goals simp
  all_goals omega

set_option maxHeartbeats 400000 in
theorem ccmp_any (a b : Int) (w : World) :
    Calls Tryz.prog 49 #[.int .i64 a, .int .i64 b] w fun e w' => e = .returned (.int .i64 (cmpI a b)) ∧ w = w' := by
  go_enter Tryz.func49, Tryz.ntmps49
  go_wp2
  all_goals go_ret
  all_goals refine ⟨ret_int ?_, rfl⟩
  all_goals (unfold cmpI; grind)

set_option maxHeartbeats 400000 in
theorem cor_any (b o : Nat) (x y : Int) (c : Nat) (w : World) (h0 : w.cell? ⟨b, o, none⟩ = some (.int .i64 x)) (h1 : w.cell? ⟨b, o + 1, none⟩ = some (.int .i64 y)) :
    Calls Tryz.prog 48 #[.slice (some ⟨b, o, none⟩) 2 c] w fun e w' => e = .returned (.int .i64 (orI x y)) ∧ w = w' := by
  by_cases ha : x = 0
  · subst ha
    by_cases hb : y = 0
    · subst hb
      go_enter Tryz.func48, Tryz.ntmps48
      go_wp2
      refine wp_loop_rounds 3 ?_
      rw [rounds_succ]
      go_wp2
      rw [rounds_succ]
      go_wp2
      rw [rounds_succ]
      go_wp2
      go_ret
      exact ⟨rfl, rfl⟩
    · have hb2 : (y != 0) = true := by simpa using hb
      go_enter Tryz.func48, Tryz.ntmps48
      go_wp2
      refine wp_loop_rounds 2 ?_
      rw [rounds_succ]
      go_wp2
      rw [rounds_succ]
      go_wp2
      go_ret
      exact ⟨by simp [orI], rfl⟩
  · have hb2 : (x != 0) = true := by simpa using ha
    go_enter Tryz.func48, Tryz.ntmps48
    go_wp2
    refine wp_loop_rounds 1 ?_
    rw [rounds_succ]
    go_wp2
    go_ret
    exact ⟨by simp [orI, ha], rfl⟩

set_option maxHeartbeats 400000 in
theorem gcompare_any (a b c d : Int) (w : World) :
    Calls Tryz.prog 27 #[.agg #[.int .i64 a, .int .i64 b], .agg #[.int .i64 c, .int .i64 d]] w fun e w' => e = .returned (.int .i64 (cmpE a b c d)) ∧ Below w.heap.size w w' := by
  have c0 := grown_cell (w := (w.alloc (.cells #[.int .i64 a, .int .i64 b] 41)).alloc (.cells #[.int .i64 c, .int .i64 d] 41)) (a := ⟨w.heap.size, 0, none⟩) (v := .int .i64 a) (by simp)
  have c1 := grown_cell (w := (w.alloc (.cells #[.int .i64 a, .int .i64 b] 41)).alloc (.cells #[.int .i64 c, .int .i64 d] 41)) (a := ⟨w.heap.size, 1, none⟩) (v := .int .i64 b) (by simp)
  have c2 := grown_cell (w := (w.alloc (.cells #[.int .i64 a, .int .i64 b] 41)).alloc (.cells #[.int .i64 c, .int .i64 d] 41)) (a := ⟨w.heap.size + 1, 0, none⟩) (v := .int .i64 c) (by simp)
  have c3 := grown_cell (w := (w.alloc (.cells #[.int .i64 a, .int .i64 b] 41)).alloc (.cells #[.int .i64 c, .int .i64 d] 41)) (a := ⟨w.heap.size + 1, 1, none⟩) (v := .int .i64 d) (by simp)
  have d1 := call_p (w := (w.alloc (.cells #[.int .i64 a, .int .i64 b] 41)).alloc (.cells #[.int .i64 c, .int .i64 d] 41)) (ccmp_any a c)
  have d2 := call_p (w := (w.alloc (.cells #[.int .i64 a, .int .i64 b] 41)).alloc (.cells #[.int .i64 c, .int .i64 d] 41)) (ccmp_any b d)
  unfold cmpE
  go_enter Tryz.func27, Tryz.ntmps27
  go_wp2
  refine wp_region_qt 10 (by kernel_rfl) (by kernel_rfl) ?_
  simp only [List.take_succ_cons, List.take_zero, List.drop_succ_cons, List.drop_zero]
  repeat (go_big_quiet_step (first | with_reducible exact d1 _ _ | with_reducible exact d2 _ _))
  refine wpQuiet_nil ?_
  intro wq hgq
  go_wp2_with (go_at_call 48; refine (cor_any _ _ (cmpI a c) (cmpI b d) _ _ (by simp) (by simp)).mono ?_; rintro e w' ⟨rfl, rfl⟩)
  go_ret
  have hs := hgq.size
  simp at hs
  exact ⟨rfl, ((((Below.refl _ _).alloc (Nat.le_refl _) _).alloc (by simp) _).trans (hgq.mono (by simp; omega))).alloc (by omega) _⟩

end Go.Proofs.YtpdbekgkopglgaaGreat
namespace Go.Proofs.YtpdbekgkopglgaaGreat
set_option linter.unusedVariables false
set_option linter.unusedSimpArgs false
open Go.RowKit Go.Sort

def idxI (l : List Int) (x : Int) : Int := match l.findIdx? (· == x) with | some k => (k : Int) | none => -1
theorem idxI_hit (l : List Int) (x : Int) (k : Nat) (h : k < l.length) (hk : l.getD k 0 = x) (hn : ∀ j, j < k → ¬ l.getD j 0 = x) : idxI l x = k := by
  have e : l.findIdx? (· == x) = some k := by
    rw [List.findIdx?_eq_some_iff_getElem]
    refine ⟨h, ?_, fun j hj => ?_⟩
    · rw [List.getD_eq_getElem?_getD, List.getElem?_eq_getElem h] at hk; simpa using hk
    · have := hn j hj
      rw [List.getD_eq_getElem?_getD, List.getElem?_eq_getElem (by omega : j < l.length)] at this
      simpa using this
  unfold idxI; rw [e]
theorem idxI_miss (l : List Int) (x : Int) (hn : ∀ j, j < l.length → ¬ l.getD j 0 = x) : idxI l x = -1 := by
  have e : l.findIdx? (· == x) = none := by
    rw [List.findIdx?_eq_none_iff]
    intro y hy
    obtain ⟨j, hj, rfl⟩ := getD_of_mem hy
    simpa using hn j hj
  unfold idxI; rw [e]
theorem idxI_ge (l : List Int) (x : Int) : decide (0 ≤ idxI l x) = decide (x ∈ l) := by
  by_cases h : ∃ j, j < l.length ∧ l.getD j 0 = x
  · have hx : x ∈ l := by obtain ⟨j, hj, rfl⟩ := h; exact mem_getD hj
    have : 0 ≤ idxI l x := by
      unfold idxI
      cases e : l.findIdx? (· == x) with
      | some k => simp
      | none => rw [List.findIdx?_eq_none_iff] at e; have := e x hx; simp at this
    simp [hx, this]
  · have hx : x ∉ l := fun hx => h (by obtain ⟨j, hj, e⟩ := getD_of_mem hx; exact ⟨j, hj, e⟩)
    rw [idxI_miss l x (fun j hj e => h ⟨j, hj, e⟩)]
    simp [hx]

end Go.Proofs.YtpdbekgkopglgaaGreat
