/-
  Reduce on lists: joined plain texts.
-/
import Derived.Test.YtcpkdnhpelkeoaaGreatKc
import Derived.Test.YtcpkdnhpelkeoaaGreatCr4
import Derived.Test.YtcpkdnhpelkeoaaGreatRa
namespace Go.Proofs.YtcpkdnhpelkeoaaGreat
set_option linter.unusedVariables false
set_option linter.unusedSimpArgs false

/-- Sorted by insertion. -/
def insL (x : List Int) : List (List Int) → List (List Int)
  | [] => [x]
  | y :: l => if lexL y x = true then y :: insL x l else x :: y :: l
def srtV : List (List Int) → List (List Int)
  | [] => []
  | x :: l => insL x (srtV l)
theorem insL_perm (x : List Int) : ∀ l : List (List Int), (insL x l).Perm (x :: l)
  | [] => List.Perm.refl _
  | y :: l => by
    unfold insL
    split
    · exact ((insL_perm x l).cons y).trans (List.Perm.swap _ _ _)
    · exact List.Perm.refl _
theorem srtV_perm : ∀ l : List (List Int), (srtV l).Perm l
  | [] => List.Perm.refl _
  | x :: l => (insL_perm x (srtV l)).trans ((srtV_perm l).cons x)
theorem insL_srt {x : List Int} : ∀ {l : List (List Int)}, SrtL l → SrtL (insL x l)
  | [], _ => by simp [insL, SrtL]
  | y :: l, h => by
    unfold SrtL at h ⊢
    unfold insL
    rw [List.pairwise_cons] at h
    split
    · rename_i hy
      rw [List.pairwise_cons]
      refine ⟨fun z hz => ?_, insL_srt h.2⟩
      rcases List.mem_cons.1 ((insL_perm x l).mem_iff.1 hz) with rfl | hz
      · exact lexL_asymm hy
      · exact h.1 z hz
    · rename_i hy
      have hy' : lexL y x = false := by simpa using hy
      rw [List.pairwise_cons, List.pairwise_cons]
      refine ⟨fun z hz => ?_, h⟩
      rcases List.mem_cons.1 hz with rfl | hz'
      · exact hy'
      · cases h5 : lexL z x
        · rfl
        · cases h6 : lexL x y
          · have := lexL_total h6 hy'
            subst this
            rw [h.1 z hz'] at h5; cases h5
          · have := lexL_trans h5 h6
            rw [h.1 z hz'] at this; cases this
theorem srtV_srt : ∀ l : List (List Int), SrtL (srtV l)
  | [] => List.Pairwise.nil
  | x :: l => insL_srt (srtV_srt l)
theorem srtL_uniq : ∀ {a b : List (List Int)}, SrtL a → SrtL b → a.Perm b → a = b
  | [], b, _, _, h => (List.nil_perm.1 h).symm
  | x :: a, [], _, _, h => absurd h.length_eq (by simp)
  | x :: a, y :: b, ha, hb, h => by
    unfold SrtL at ha hb
    rw [List.pairwise_cons] at ha hb
    have e : x = y := by
      have hx : x ∈ y :: b := h.mem_iff.1 (List.mem_cons_self ..)
      have hy : y ∈ x :: a := h.mem_iff.2 (List.mem_cons_self ..)
      rcases List.mem_cons.1 hx with e | hx
      · exact e
      · rcases List.mem_cons.1 hy with e | hy
        · exact e.symm
        · exact lexL_total (hb.1 x hx) (ha.1 y hy)
    subst e
    rw [srtL_uniq ha.2 hb.2 (List.perm_cons x |>.1 h)]
theorem srtV_eq {a b : List (List Int)} (h : a.Perm b) (hs : SrtL a) : a = srtV b := srtL_uniq hs (srtV_srt b) (h.trans (srtV_perm b).symm)
theorem srtV_len (l : List (List Int)) : (srtV l).length = l.length := (srtV_perm l).length_eq

/-- The lists but three. -/
def butL (ls : List (List Int)) (i j k : Nat) : List (List Int) := ((List.range ls.length).filter fun n => decide (n ≠ i) && (decide (n ≠ j) && decide (n ≠ k))).map fun n => ls.getD n []
def butTo (ls : List (List Int)) (i j k n : Nat) : List (List Int) := ((List.range n).filter fun n => decide (n ≠ i) && (decide (n ≠ j) && decide (n ≠ k))).map fun n => ls.getD n []
theorem butTo_zero (ls : List (List Int)) (i j k : Nat) : butTo ls i j k 0 = [] := rfl
theorem butTo_skip {ls : List (List Int)} {i j k n : Nat} (h : n = i ∨ n = j ∨ n = k) : butTo ls i j k (n + 1) = butTo ls i j k n := by
  unfold butTo
  rw [List.range_succ, List.filter_append, List.map_append]
  have : (decide (n ≠ i) && (decide (n ≠ j) && decide (n ≠ k))) = false := by
    rcases h with rfl | rfl | rfl <;> simp
  rw [List.filter_cons, this]; simp
theorem butTo_put {ls : List (List Int)} {i j k n : Nat} (h1 : n ≠ i) (h2 : n ≠ j) (h3 : n ≠ k) : butTo ls i j k (n + 1) = butTo ls i j k n ++ [ls.getD n []] := by
  unfold butTo
  rw [List.range_succ, List.filter_append, List.map_append]
  simp [h1, h2, h3]
def tri (ls : List (List Int)) (i j k : Nat) : Bool := (mgV (ls.getD i []) (ls.getD j []) (ls.getD k [])).2.2.2
def mrgL (ls : List (List Int)) (i j k : Nat) : List (List Int) := srtV (unI (ls.getD i [] ++ (ls.getD j [] ++ ls.getD k [])) :: butTo ls i j k ls.length)
/-- The first triple from a place on. -/
def isFirst (ls : List (List Int)) (i j k : Nat) : Prop :=
  i < j ∧ j < k ∧ k < ls.length ∧ tri ls i j k = true ∧ (∀ a b c, a < i → a < b → b < c → c < ls.length → tri ls a b c = false) ∧ (∀ b c, i < b → b < j → b < c → c < ls.length → tri ls i b c = false) ∧ ∀ c, j < c → c < k → tri ls i j c = false
def noTri (ls : List (List Int)) : Prop := ∀ a b c, a < b → b < c → c < ls.length → tri ls a b c = false
/-- One step. -/
def StepR (ls : List (List Int)) (r : List (List Int)) (ok : Bool) : Prop :=
  (ok = false ∧ r = ls ∧ noTri ls) ∨ (ok = true ∧ ∃ i j k, isFirst ls i j k ∧ r = mrgL ls i j k)
theorem first_uniq {ls : List (List Int)} {i j k a b c : Nat} (h : isFirst ls i j k) (g : isFirst ls a b c) : i = a ∧ j = b ∧ k = c := by
  obtain ⟨h1, h2, h3, h4, h5, h6, h7⟩ := h
  obtain ⟨g1, g2, g3, g4, g5, g6, g7⟩ := g
  have e1 : i = a := by
    rcases Nat.lt_trichotomy i a with h | h | h
    · rw [g5 i j k h h1 h2 h3] at h4; cases h4
    · exact h
    · rw [h5 a b c h g1 g2 g3] at g4; cases g4
  subst e1
  have e2 : j = b := by
    rcases Nat.lt_trichotomy j b with h | h | h
    · rw [g6 j k h1 h h2 h3] at h4; cases h4
    · exact h
    · rw [h6 b c g1 h g2 g3] at g4; cases g4
  subst e2
  refine ⟨rfl, rfl, ?_⟩
  rcases Nat.lt_trichotomy k c with h | h | h
  · rw [g7 k h2 h] at h4; cases h4
  · exact h
  · rw [h7 c g2 h] at g4; cases g4
theorem StepR.uniq {ls r s : List (List Int)} {o p : Bool} (h : StepR ls r o) (g : StepR ls s p) : r = s ∧ o = p := by
  rcases h with ⟨rfl, rfl, h⟩ | ⟨rfl, i, j, k, hf, rfl⟩
  · rcases g with ⟨rfl, rfl, g⟩ | ⟨rfl, a, b, c, gf, rfl⟩
    · exact ⟨rfl, rfl⟩
    · have := gf.2.2.2.1
      rw [h a b c gf.1 gf.2.1 gf.2.2.1] at this; cases this
  · rcases g with ⟨rfl, rfl, g⟩ | ⟨rfl, a, b, c, gf, rfl⟩
    · have := hf.2.2.2.1
      rw [g i j k hf.1 hf.2.1 hf.2.2.1] at this; cases this
    · obtain ⟨rfl, rfl, rfl⟩ := first_uniq hf gf
      exact ⟨rfl, rfl⟩
/-- The sum of the lengths. -/
def totL (ls : List (List Int)) : Nat := (ls.map List.length).sum
theorem totL_cons (x : List Int) (l : List (List Int)) : totL (x :: l) = x.length + totL l := by unfold totL; simp
theorem totL_perm {a b : List (List Int)} (h : a.Perm b) : totL a = totL b := by
  induction h with
  | nil => rfl
  | cons x _ ih => rw [totL_cons, totL_cons, ih]
  | swap x y l => rw [totL_cons, totL_cons, totL_cons, totL_cons]; omega
  | trans _ _ h1 h2 => rw [h1, h2]
theorem totL_mem : ∀ {ls : List (List Int)} {x : List Int}, x ∈ ls → x.length ≤ totL ls
  | y :: l, x, h => by
    rw [totL_cons]
    rcases List.mem_cons.1 h with rfl | h
    · omega
    · have := totL_mem h; omega
/-- The end of all steps. -/
inductive RedR : List (List Int) → List (List Int) → Prop
  | stop {ls : List (List Int)} : noTri ls → RedR ls ls
  | step {ls r s : List (List Int)} : StepR ls r true → RedR r s → RedR ls s
theorem RedR.uniq {ls r s : List (List Int)} (h : RedR ls r) : RedR ls s → r = s := by
  induction h with
  | stop h =>
    intro g
    cases g with
    | stop _ => rfl
    | step g _ => exact absurd (StepR.uniq (.inl ⟨rfl, rfl, h⟩) g).2 (by simp)
  | step h _ ih =>
    intro g
    cases g with
    | stop g => exact absurd (StepR.uniq (.inl ⟨rfl, rfl, g⟩) h).2 (by simp)
    | step g g2 =>
      obtain ⟨rfl, -⟩ := h.uniq g
      exact ih g2
end Go.Proofs.YtcpkdnhpelkeoaaGreat

namespace Go.Proofs.YtcpkdnhpelkeoaaGreat
set_option linter.unusedVariables false
set_option linter.unusedSimpArgs false

def NT1 (ls : List (List Int)) (q : Nat) : Prop := ∀ a b c, a < q → a < b → b < c → c < ls.length → tri ls a b c = false
def NT2 (ls : List (List Int)) (i q : Nat) : Prop := ∀ b c, i < b → b < q → b < c → c < ls.length → tri ls i b c = false
def NT3 (ls : List (List Int)) (i j q : Nat) : Prop := ∀ c, j < c → c < q → tri ls i j c = false
theorem NT1.zero (ls : List (List Int)) : NT1 ls 0 := fun a b c h => absurd h (by omega)
theorem NT2.start (ls : List (List Int)) (i : Nat) : NT2 ls i (i + 1) := fun b c h1 h2 => absurd h1 (by omega)
theorem NT3.start (ls : List (List Int)) (i j : Nat) : NT3 ls i j (j + 1) := fun c h1 h2 => absurd h1 (by omega)
theorem NT3.next {ls : List (List Int)} {i j k : Nat} (h : NT3 ls i j k) (ht : tri ls i j k = false) : NT3 ls i j (k + 1) := fun c h1 h2 => by
  rcases Nat.lt_or_ge c k with h3 | h3
  · exact h c h1 h3
  · obtain rfl : c = k := by omega
    exact ht
theorem NT2.next {ls : List (List Int)} {i j n : Nat} (h : NT2 ls i j) (h3 : NT3 ls i j n) (hl : ls.length = n) : NT2 ls i (j + 1) := fun b c h1 h2 h4 h5 => by
  rcases Nat.lt_or_ge b j with h6 | h6
  · exact h b c h1 h6 h4 h5
  · obtain rfl : b = j := by omega
    exact h3 c h4 (by omega)
theorem NT1.next {ls : List (List Int)} {i n : Nat} (h : NT1 ls i) (h2 : NT2 ls i n) (hl : ls.length = n) : NT1 ls (i + 1) := fun a b c h1 h3 h4 h5 => by
  rcases Nat.lt_or_ge a i with h6 | h6
  · exact h a b c h6 h3 h4 h5
  · obtain rfl : a = i := by omega
    exact h2 b c h3 (by omega) h4 h5
theorem first_of {ls : List (List Int)} {i j k n : Nat} (hl : ls.length = n) (hij : i < j) (hjk : j < k) (hk : k < n) (ht : tri ls i j k = true) (h1 : NT1 ls i) (h2 : NT2 ls i j) (h3 : NT3 ls i j k) : isFirst ls i j k :=
  ⟨hij, hjk, by omega, ht, h1, h2, h3⟩
theorem step_none {ls : List (List Int)} {n : Nat} (hl : ls.length = n) (h : NT1 ls n) : StepR ls ls false :=
  .inl ⟨rfl, rfl, fun a b c h1 h2 h3 => h a b c (by omega) h1 h2 h3⟩
theorem step_some {ls r : List (List Int)} {i j k : Nat} (h : isFirst ls i j k) (hr : r = mrgL ls i j k) : StepR ls r true := .inr ⟨rfl, i, j, k, h, hr⟩

theorem totL_append (a b : List (List Int)) : totL (a ++ b) = totL a + totL b := by unfold totL; simp
theorem totL_one (x : List Int) : totL [x] = x.length := by unfold totL; simp
theorem but_tot {ls : List (List Int)} {i j k : Nat} (hij : i < j) (hjk : j < k) : ∀ q, q ≤ ls.length →
    totL (butTo ls i j k q) + (if i < q then (ls.getD i []).length else 0) + (if j < q then (ls.getD j []).length else 0) + (if k < q then (ls.getD k []).length else 0) = totL (ls.take q) ∧
    (butTo ls i j k q).length + (if i < q then 1 else 0) + (if j < q then 1 else 0) + (if k < q then 1 else 0) = q
  | 0, _ => by simp [butTo, totL]
  | q + 1, hq => by
    obtain ⟨ih1, ih2⟩ := but_tot (ls := ls) hij hjk q (by omega)
    have ht : totL (ls.take (q + 1)) = totL (ls.take q) + (ls.getD q []).length := by
      rw [List.take_succ_eq_append_getElem (by omega), totL_append, totL_one, List.getD_eq_getElem?_getD, List.getElem?_eq_getElem (by omega)]
      rfl
    rw [ht]
    by_cases h1 : q = i
    · subst h1
      rw [butTo_skip (.inl rfl)]
      rw [if_neg (by omega), if_neg (by omega), if_neg (by omega)] at ih1 ih2
      rw [if_pos (by omega), if_neg (by omega), if_neg (by omega), if_pos (by omega), if_neg (by omega), if_neg (by omega)]
      omega
    · by_cases h2 : q = j
      · subst h2
        rw [butTo_skip (.inr (.inl rfl))]
        rw [if_pos (by omega), if_neg (by omega), if_neg (by omega)] at ih1 ih2
        rw [if_pos (by omega), if_pos (by omega), if_neg (by omega), if_pos (by omega), if_pos (by omega), if_neg (by omega)]
        omega
      · by_cases h3 : q = k
        · subst h3
          rw [butTo_skip (.inr (.inr rfl))]
          rw [if_pos (by omega), if_pos (by omega), if_neg (by omega)] at ih1 ih2
          rw [if_pos (by omega), if_pos (by omega), if_pos (by omega), if_pos (by omega), if_pos (by omega), if_pos (by omega)]
          omega
        · rw [butTo_put h1 h2 h3, totL_append, totL_one, List.length_append, List.length_singleton]
          have e1 : (i < q + 1) = (i < q) := by apply propext; omega
          have e2 : (j < q + 1) = (j < q) := by apply propext; omega
          have e3 : (k < q + 1) = (k < q) := by apply propext; omega
          simp only [e1, e2, e3]
          omega
theorem mrg_tot {ls : List (List Int)} {i j k : Nat} (h : isFirst ls i j k) : totL (mrgL ls i j k) ≤ totL ls ∧ (mrgL ls i j k).length + 2 = ls.length := by
  obtain ⟨h1, h2, h3, -⟩ := h
  obtain ⟨a, b⟩ := but_tot (ls := ls) h1 h2 ls.length (Nat.le_refl _)
  rw [List.take_of_length_le (Nat.le_refl _), if_pos (by omega), if_pos (by omega), if_pos h3] at a
  rw [if_pos (by omega), if_pos (by omega), if_pos h3] at b
  unfold mrgL
  rw [totL_perm (srtV_perm _), totL_cons, srtV_len, List.length_cons]
  have hu := unI_len (ls.getD i [] ++ (ls.getD j [] ++ ls.getD k []))
  rw [List.length_append, List.length_append] at hu
  omega
theorem StepR.tot {ls r : List (List Int)} (h : StepR ls r true) : totL r ≤ totL ls ∧ r.length + 2 = ls.length := by
  rcases h with ⟨h, -⟩ | ⟨-, i, j, k, hf, rfl⟩
  · cases h
  · exact mrg_tot hf
theorem getD_tot (ls : List (List Int)) (k : Nat) : (ls.getD k []).length ≤ totL ls := by
  rcases Nat.lt_or_ge k ls.length with h | h
  · rw [List.getD_eq_getElem?_getD, List.getElem?_eq_getElem h]
    exact totL_mem (List.getElem_mem h)
  · rw [List.getD_eq_getElem?_getD, List.getElem?_eq_none h]
    exact Nat.zero_le _
theorem join_tot (ls : List (List Int)) (k : Nat) : (joinI ls k).length ≤ totL ls := by
  unfold joinI totL
  rw [List.length_flatten]
  have h : (List.map List.length (List.take k ls)).sum + (List.map List.length (List.drop k ls)).sum = (List.map List.length ls).sum := by
    rw [← List.sum_append_nat, ← List.map_append, List.take_append_drop]
  omega
theorem tot3 (x y z : List Int) : totL [x, y, z] = x.length + (y.length + z.length) := by unfold totL; simp
theorem join3 (x y z : List Int) : joinI [x, y, z] 3 = x ++ (y ++ z) := by unfold joinI; simp
theorem three_tot {ls : List (List Int)} {i j k : Nat} (hij : i < j) (hjk : j < k) (hk : k < ls.length) : (ls.getD i []).length + ((ls.getD j []).length + (ls.getD k []).length) ≤ totL ls := by
  obtain ⟨a, b⟩ := but_tot (ls := ls) hij hjk ls.length (Nat.le_refl _)
  rw [List.take_of_length_le (Nat.le_refl _), if_pos (by omega), if_pos (by omega), if_pos hk] at a
  omega
/-- A list that grows by rows: its total, bounded. -/
theorem but_len {ls : List (List Int)} {i j k q : Nat} (hij : i < j) (hjk : j < k) (hq : q ≤ ls.length) : (butTo ls i j k q).length ≤ q := by
  obtain ⟨a, b⟩ := but_tot (ls := ls) hij hjk q hq
  omega
theorem but_mem {ls : List (List Int)} {i j k q : Nat} {y : List Int} (h : y ∈ butTo ls i j k q) : y.length ≤ totL ls := by
  unfold butTo at h
  obtain ⟨m, -, rfl⟩ := List.mem_map.1 h
  exact getD_tot ls m
theorem row_le {M : List (List Int)} {B : Nat} (h : ∀ y ∈ M, y.length ≤ B) (i : Nat) : (M.getD i []).length ≤ B := by
  rcases Nat.lt_or_ge i M.length with h1 | h1
  · rw [List.getD_eq_getElem?_getD, List.getElem?_eq_getElem h1]
    exact h _ (List.getElem_mem h1)
  · rw [List.getD_eq_getElem?_getD, List.getElem?_eq_none h1]
    exact Nat.zero_le _
end Go.Proofs.YtcpkdnhpelkeoaaGreat

namespace Go.Proofs.YtcpkdnhpelkeoaaGreat
set_option linter.unusedVariables false
set_option linter.unusedSimpArgs false

def RdcV (ls rs : List (List Int)) : Prop :=
  ((∃ k, k < ls.length ∧ upB (ls.getD k []) = false) ∧ rs = []) ∨ ((∀ k, k < ls.length → upB (ls.getD k []) = true) ∧ RedR (srtV ls) rs ∧ totL rs ≤ totL ls ∧ rs.length ≤ ls.length)
theorem RdcV.uniq {ls rs ss : List (List Int)} (h : RdcV ls rs) (g : RdcV ls ss) : rs = ss := by
  rcases h with ⟨⟨k, hk, h1⟩, rfl⟩ | ⟨h1, h2, -⟩
  · rcases g with ⟨-, rfl⟩ | ⟨g1, -⟩
    · rfl
    · rw [g1 k hk] at h1; cases h1
  · rcases g with ⟨⟨k, hk, g1⟩, rfl⟩ | ⟨-, g2, -⟩
    · rw [h1 k hk] at g1; cases g1
    · exact h2.uniq g2
theorem RdcV.tot {ls rs : List (List Int)} (h : RdcV ls rs) : totL rs ≤ totL ls := by
  rcases h with ⟨-, rfl⟩ | ⟨-, -, h, -⟩
  · unfold totL; simp
  · exact h
theorem RdcV.len {ls rs : List (List Int)} (h : RdcV ls rs) : rs.length ≤ ls.length := by
  rcases h with ⟨-, rfl⟩ | ⟨-, -, -, h⟩
  · simp
  · exact h
end Go.Proofs.YtcpkdnhpelkeoaaGreat

