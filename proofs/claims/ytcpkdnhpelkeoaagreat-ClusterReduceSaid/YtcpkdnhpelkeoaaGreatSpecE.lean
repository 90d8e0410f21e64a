/-
  Sets of points as numbers. No program stands in this text.
-/
import Derived.Test.YtcpkdnhpelkeoaaGreatSpecD
namespace Go.Proofs.YtcpkdnhpelkeoaaGreat
set_option linter.unusedVariables false
set_option linter.unusedSimpArgs false

theorem shr_bit (S X : Nat) : (((S : Int) / 2 ^ X).tmod 2 == 1) = S.testBit X := by
  have e : ((S : Int) / 2 ^ X) = ((S / 2 ^ X : Nat) : Int) := by rw [Int.natCast_ediv]; norm_cast
  rw [e, Nat.testBit_eq_decide_div_mod_eq]
  have h2 : (((S / 2 ^ X : Nat) : Int).tmod 2) = ((S / 2 ^ X % 2 : Nat) : Int) := by
    rw [Int.tmod_eq_emod_of_nonneg (Int.natCast_nonneg _)]; rfl
  rw [h2, Bool.eq_iff_iff]
  simp only [beq_iff_eq, decide_eq_true_eq]
  omega
def bothB (S : Nat) (e : Int × Int) : Bool := S.testBit e.1.toNat && S.testBit e.2.toNat
def spanS (es : List (Int × Int)) (S : Nat) : Int := (es.countP (bothB S) : Nat)
theorem spanS_step {es : List (Int × Int)} {S k : Nat} {x y : Int} (hk : k < es.length) (hx : (es.getD k (0, 0)).1 = x) (hy : (es.getD k (0, 0)).2 = y) :
    spanS (es.take (k + 1)) S = spanS (es.take k) S + if (S.testBit x.toNat && S.testBit y.toNat) = true then 1 else 0 := by
  unfold spanS
  rw [List.take_succ_eq_append_getElem hk, List.countP_append]
  have e : es.getD k (0, 0) = es[k] := by simp [List.getD_eq_getElem?_getD, List.getElem?_eq_getElem hk]
  rw [e] at hx hy
  have hb : bothB S es[k] = (S.testBit x.toNat && S.testBit y.toNat) := by unfold bothB; rw [hx, hy]
  simp only [List.countP_cons, List.countP_nil, hb]
  split <;> simp
theorem spanS_nonneg (es : List (Int × Int)) (S : Nat) : 0 ≤ spanS es S := by unfold spanS; omega
theorem spanS_le (es : List (Int × Int)) (S : Nat) : spanS es S ≤ es.length := by
  unfold spanS; have := List.countP_le_length (p := bothB S) (l := es); omega

def ascAt (N : Int) (ps : List Int) (j : Nat) : Bool := decide (0 ≤ ps.getD j 0) && (decide (ps.getD j 0 < N) && (decide (j = 0) || decide (ps.getD (j - 1) 0 < ps.getD j 0)))
def ascB (N : Int) (ps : List Int) : Bool := (List.range ps.length).all (ascAt N ps)
def setS (ps : List Int) : Nat := ps.foldl (fun s p => s ||| 2 ^ p.toNat) 0
theorem ascB_no {N : Int} {ps : List Int} {j : Nat} (hj : j < ps.length) (h : ascAt N ps j = false) : ascB N ps = false := by
  unfold ascB; rw [List.all_eq_false]; exact ⟨j, by simpa using hj, by simp [h]⟩
theorem ascB_yes {N : Int} {ps : List Int} (h : ∀ j, j < ps.length → ascAt N ps j = true) : ascB N ps = true := by
  unfold ascB; rw [List.all_eq_true]; intro j hj; exact h j (List.mem_range.1 hj)
theorem ascAt_no {N : Int} {ps : List Int} {j : Nat} {x : Int} (hx : ps.getD j 0 = x) (h : x < 0 ∨ N ≤ x) : ascAt N ps j = false := by
  unfold ascAt; rw [hx]
  rcases h with h | h
  · rw [decide_eq_false (by omega : ¬ 0 ≤ x)]; rfl
  · rw [decide_eq_false (by omega : ¬ x < N)]; simp
theorem ascAt_no2 {N : Int} {ps : List Int} {j : Nat} {x y : Int} (hx : ps.getD j 0 = x) (hy : ps.getD (j - 1) 0 = y) (h : x ≤ y) (hj : ¬ j = 0) : ascAt N ps j = false := by
  unfold ascAt; rw [hx, hy, decide_eq_false hj, decide_eq_false (by omega : ¬ y < x)]; simp
theorem ascAt_yes {N : Int} {ps : List Int} {j : Nat} {x : Int} (hx : ps.getD j 0 = x) (h0 : 0 ≤ x) (h1 : x < N) (h2 : j = 0 ∨ ps.getD (j - 1) 0 < x) : ascAt N ps j = true := by
  unfold ascAt; rw [hx, decide_eq_true h0, decide_eq_true h1]
  rcases h2 with h2 | h2
  · simp [h2]
  · rw [decide_eq_true h2]; simp
theorem asc_step {N : Int} {ps : List Int} {k : Nat} (h : ∀ j, j < k → ascAt N ps j = true) (hk : ascAt N ps k = true) : ∀ j, j < k + 1 → ascAt N ps j = true := fun j hj => by
  by_cases e : j = k
  · rw [e]; exact hk
  · exact h j (by omega)
theorem setS_step {ps : List Int} {k : Nat} {x : Int} (hk : k < ps.length) (hx : ps.getD k 0 = x) : setS (ps.take (k + 1)) = setS (ps.take k) ||| 2 ^ x.toNat := by
  unfold setS
  rw [List.take_succ_eq_append_getElem hk, List.foldl_append]
  rw [List.getD_eq_getElem?_getD, List.getElem?_eq_getElem hk] at hx
  simp at hx
  simp [hx]
theorem setS_lt {ps : List Int} {n : Nat} (h : ∀ p ∈ ps, p.toNat < n) : setS ps < 2 ^ n := by
  have : ∀ (l : List Int) (s : Nat), s < 2 ^ n → (∀ p ∈ l, p.toNat < n) → l.foldl (fun s p => s ||| 2 ^ p.toNat) s < 2 ^ n := by
    intro l
    induction l with
    | nil => intro s hs _; exact hs
    | cons p l ih =>
      intro s hs hp
      exact ih _ (Nat.or_lt_two_pow hs (Nat.pow_lt_pow_right (by omega) (hp p (by simp)))) (fun q hq => hp q (by simp [hq]))
  exact this ps 0 (Nat.two_pow_pos n) h
theorem setS_bit (ps : List Int) (i : Nat) : (setS ps).testBit i = ps.any (fun p => decide (p.toNat = i)) := by
  have : ∀ (l : List Int) (s : Nat), (l.foldl (fun s p => s ||| 2 ^ p.toNat) s).testBit i = (s.testBit i || l.any (fun p => decide (p.toNat = i))) := by
    intro l
    induction l with
    | nil => intro s; simp
    | cons p l ih =>
      intro s
      rw [List.foldl_cons, ih, Nat.testBit_or, Nat.testBit_two_pow, List.any_cons, Bool.or_assoc]
  have h := this ps 0
  simpa [setS] using h
def setVal (N : Int) (ps : List Int) : Int := if ascB N ps = true then (setS ps : Nat) else 0
def setOk (N : Int) (ps : List Int) : Bool := ascB N ps && decide (2 ≤ ps.length)
theorem setVal_no {N : Int} {ps : List Int} (h : ascB N ps = false) : setVal N ps = 0 := by simp [setVal, h]
theorem setOk_no {N : Int} {ps : List Int} (h : ascB N ps = false) : setOk N ps = false := by simp [setOk, h]
theorem setVal_yes {N : Int} {ps : List Int} (h : ascB N ps = true) : setVal N ps = (setS ps : Nat) := by simp [setVal, h]
theorem setOk_yes {N : Int} {ps : List Int} (h : ascB N ps = true) : setOk N ps = decide (2 ≤ ps.length) := by simp [setOk, h]
theorem ret_ib {a a' : Int} {b b' : Bool} (h : a = a') (k : b = b') : Ending.returned (.tuple #[.int .i64 a, .bool b]) = .returned (.tuple #[.int .i64 a', .bool b']) := by rw [h, k]
end Go.Proofs.YtcpkdnhpelkeoaaGreat
