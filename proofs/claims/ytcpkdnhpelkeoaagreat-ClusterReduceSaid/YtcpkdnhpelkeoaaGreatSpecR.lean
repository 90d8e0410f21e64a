/-
  Greedy choice of independent edges: its size does not depend on the order of the edges. No program stands in this text.
-/
import Derived.Test.YtcpkdnhpelkeoaaGreatSpecH
namespace Go.Proofs.YtcpkdnhpelkeoaaGreat
set_option linter.unusedVariables false
set_option linter.unusedSimpArgs false

theorem cntB_drop {S p : Nat} (hp : p < 60) (h : S.testBit p = true) : cntB 60 S = cntB 60 (S ^^^ 2 ^ p) + 1 := by
  have e : S = (S ^^^ 2 ^ p) ||| 2 ^ p := by
    apply Nat.eq_of_testBit_eq
    intro i
    rw [Nat.testBit_or, Nat.testBit_xor, Nat.testBit_two_pow]
    by_cases e : p = i
    · subst e; rw [h]; simp
    · simp [e]
  have e2 : (S ^^^ 2 ^ p).testBit p = false := by rw [Nat.testBit_xor, Nat.testBit_two_pow, h]; simp
  have h3 := cntB_add (S := S ^^^ 2 ^ p) hp e2
  rw [← e] at h3
  exact h3
theorem bit_drop {S p i : Nat} (h : i ≠ p) : (S ^^^ 2 ^ p).testBit i = S.testBit i := by
  rw [Nat.testBit_xor, Nat.testBit_two_pow]; simp [Ne.symm h]
theorem cntB_two {S p q : Nat} (hp : p < 60) (hq : q < 60) (hne : q ≠ p) (h1 : S.testBit p = true) (h2 : S.testBit q = true) : 2 ≤ cntB 60 S := by
  rw [cntB_drop hp h1, cntB_drop hq (by rw [bit_drop hne]; exact h2)]; omega

/-- Each set of at least two points holds at most 2 k - 3 edges. -/
def SpA (es : List (Int × Int)) : Prop := ∀ S : Nat, 2 ≤ cntB 60 S → spanS es S ≤ 2 * (cntB 60 S : Int) - 3
theorem SpA.all {es : List (Int × Int)} (h : SpA es) (n : Nat) : sparseAll n es = true := by
  rw [sparseAll_iff]
  intro S _
  unfold okSet
  by_cases h2 : cntB 60 S < 2
  · simp [h2]
  · have := h S (by omega)
    rw [decide_eq_true this]; simp
theorem spanS_app (l r : List (Int × Int)) (S : Nat) : spanS (l ++ r) S = spanS l S + spanS r S := by unfold spanS; rw [List.countP_append]; push_cast; rfl
theorem spanS_one (e : Int × Int) (S : Nat) : spanS [e] S = if bothB S e = true then 1 else 0 := by
  unfold spanS; rw [List.countP_cons]; split <;> simp
theorem spanS_perm {l r : List (Int × Int)} (h : l.Perm r) (S : Nat) : spanS l S = spanS r S := by unfold spanS; rw [h.countP_eq]
theorem spanS_filter (l : List (Int × Int)) (p : Int × Int → Bool) (S : Nat) : spanS (l.filter p) S ≤ spanS l S := by
  unfold spanS; rw [List.countP_filter]
  have : l.countP (fun a => bothB S a && p a) ≤ l.countP (bothB S) := List.countP_mono_left (fun x _ h => by simp at h; exact h.1)
  omega
theorem spanS_congr {l : List (Int × Int)} {S T : Nat} (h : ∀ e ∈ l, bothB S e = bothB T e) : spanS l S = spanS l T := by
  unfold spanS; rw [List.countP_congr (fun x hx => by rw [h x hx])]


theorem SpA.perm {l r : List (Int × Int)} (h : l.Perm r) (hs : SpA l) : SpA r := fun S h2 => by rw [← spanS_perm h]; exact hs S h2
theorem SpA.left {l r : List (Int × Int)} (h : SpA (l ++ r)) : SpA l := fun S h2 => by
  have h1 := h S h2
  have h3 := spanS_nonneg r S
  rw [spanS_app] at h1
  omega
theorem SpA.nil : SpA [] := fun S h => by have : spanS [] S = 0 := rfl
                                          omega
theorem not_spA {l : List (Int × Int)} (h : ¬ SpA l) : ∃ S, 2 ≤ cntB 60 S ∧ 2 * (cntB 60 S : Int) - 3 < spanS l S := by
  apply Classical.byContradiction
  intro h'
  apply h
  intro S h2
  apply Classical.byContradiction
  intro h3
  exact h' ⟨S, h2, by omega⟩

/-- An edge between two different ones of n points. -/
def OkE (n : Nat) (e : Int × Int) : Prop := 0 ≤ e.1 ∧ e.1 < n ∧ 0 ≤ e.2 ∧ e.2 < n ∧ e.1 ≠ e.2
theorem OkE.mono {n m : Nat} {e : Int × Int} (h : OkE n e) (hm : n ≤ m) : OkE m e := by
  obtain ⟨h1, h2, h3, h4, h5⟩ := h
  exact ⟨h1, by omega, h3, by omega, h5⟩
theorem OkE.two {e : Int × Int} (h : OkE 60 e) {S : Nat} (hb : bothB S e = true) : 2 ≤ cntB 60 S := by
  obtain ⟨h1, h2, h3, h4, h5⟩ := h
  unfold bothB at hb
  rw [Bool.and_eq_true] at hb
  exact cntB_two (p := e.1.toNat) (q := e.2.toNat) (by omega) (by omega) (by omega) hb.1 hb.2
theorem bothB_and {S T : Nat} {e : Int × Int} (h1 : bothB S e = true) (h2 : bothB T e = true) : bothB (S &&& T) e = true := by
  unfold bothB at *
  simp only [Nat.testBit_and, Bool.and_eq_true] at *
  exact ⟨⟨h1.1, h2.1⟩, h1.2, h2.2⟩
theorem bothB_or {S T : Nat} {e : Int × Int} (h : bothB S e = true ∨ bothB T e = true) : bothB (S ||| T) e = true := by
  unfold bothB at *
  simp only [Nat.testBit_or, Bool.and_eq_true, Bool.or_eq_true] at *
  rcases h with h | h
  · exact ⟨.inl h.1, .inl h.2⟩
  · exact ⟨.inr h.1, .inr h.2⟩

/-- If x and y cannot both be added, then what can be added to x can be added to y. -/
theorem exch {K : List (Int × Int)} {x y z : Int × Int} (oy : OkE 60 y) (hx1 : SpA (K ++ [x])) (hy1 : SpA (K ++ [y])) (hxy : ¬ SpA (K ++ [x] ++ [y])) (hz : SpA (K ++ [x] ++ [z])) : SpA (K ++ [y] ++ [z]) := by
  apply Classical.byContradiction
  intro hn
  obtain ⟨T', hc', hs'⟩ := not_spA hn
  obtain ⟨T, hc, hs⟩ := not_spA hxy
  have a1 := hx1 T hc
  have a2 := hy1 T hc
  have b1 := hy1 T' hc'
  have b2 := hz T' hc'
  simp only [spanS_app, spanS_one] at hs hs' a1 a2 b1 b2
  have k1 : bothB T x = true ∧ bothB T y = true := by
    cases h1 : bothB T x <;> cases h2 : bothB T y <;> simp [h1, h2] at hs a1 a2 ⊢ <;> omega
  have k2 : bothB T' y = true ∧ bothB T' z = true := by
    cases h1 : bothB T' x <;> cases h2 : bothB T' y <;> cases h3 : bothB T' z <;> simp [h1, h2, h3] at hs' b1 b2 ⊢ <;> omega
  have m := spanS_or_and K T T'
  have c := cntB_or_and 60 T T'
  have i1 := bothB_and k1.2 k2.1
  have i2 := hy1 _ (oy.two i1)
  have u1 : bothB (T ||| T') x = true := bothB_or (.inl k1.1)
  have u2 : bothB (T ||| T') z = true := bothB_or (.inr k2.2)
  have u3 := hz _ (oy.two (bothB_or (.inl k1.2) : bothB (T ||| T') y = true))
  simp only [spanS_app, spanS_one, i1, u1, u2, k1, k2, if_true] at i2 u3 hs hs' b2
  split at b2 <;> omega

/-- Sparse, as a test. -/
def indB (es : List (Int × Int)) : Bool := sparseAll 60 es
theorem cntB_mod (S : Nat) : cntB 60 (S % 2 ^ 60) = cntB 60 S := by
  unfold cntB
  refine List.countP_congr (fun i hi => ?_)
  have := List.mem_range.1 hi
  rw [Nat.testBit_mod_two_pow, decide_eq_true this, Bool.true_and]
theorem indB_iff {es : List (Int × Int)} (he : ∀ e ∈ es, OkE 60 e) : indB es = true ↔ SpA es := by
  constructor
  · intro h S h2
    have h1 := sparseAll_iff.1 h (S % 2 ^ 60) (Nat.mod_lt _ (Nat.two_pow_pos 60))
    have h3 := okSet_use h1 (by rw [cntB_mod]; exact h2)
    rw [cntB_mod] at h3
    have h4 : spanS es (S % 2 ^ 60) = spanS es S := spanS_congr (fun e hm => by
      obtain ⟨p1, p2, p3, p4, p5⟩ := he e hm
      unfold bothB
      rw [Nat.testBit_mod_two_pow, Nat.testBit_mod_two_pow, decide_eq_true (by omega : e.1.toNat < 60), decide_eq_true (by omega : e.2.toNat < 60), Bool.true_and, Bool.true_and])
    rw [h4] at h3
    exact h3
  · intro h; exact h.all 60
def Ok60 (es : List (Int × Int)) : Prop := ∀ e ∈ es, OkE 60 e
theorem Ok60.app {l r : List (Int × Int)} (hl : Ok60 l) (hr : Ok60 r) : Ok60 (l ++ r) := fun e he => (List.mem_append.1 he).elim (hl e) (hr e)
theorem Ok60.one {e : Int × Int} (h : OkE 60 e) : Ok60 [e] := fun x hx => by simp at hx; subst hx; exact h
theorem Ok60.nil : Ok60 [] := fun e he => by simp at he

def addE (I : List (Int × Int)) (e : Int × Int) : List (Int × Int) := if indB (I ++ [e]) = true then I ++ [e] else I
theorem addE_yes {I : List (Int × Int)} {e : Int × Int} (hI : Ok60 I) (he : OkE 60 e) (h : SpA (I ++ [e])) : addE I e = I ++ [e] := by
  unfold addE; rw [if_pos ((indB_iff (hI.app (Ok60.one he))).2 h)]
theorem addE_no {I : List (Int × Int)} {e : Int × Int} (hI : Ok60 I) (he : OkE 60 e) (h : ¬ SpA (I ++ [e])) : addE I e = I := by
  unfold addE; rw [if_neg (fun h' => h ((indB_iff (hI.app (Ok60.one he))).1 h'))]
/-- The greedy choice among l, on top of I. -/
def grd (I l : List (Int × Int)) : List (Int × Int) := l.foldl addE I
theorem grd_cons (I : List (Int × Int)) (e : Int × Int) (l : List (Int × Int)) : grd I (e :: l) = grd (addE I e) l := by unfold grd; rw [List.foldl_cons]
theorem addE_ok {I : List (Int × Int)} {e : Int × Int} (hI : Ok60 I) (he : OkE 60 e) : Ok60 (addE I e) := by
  unfold addE; split
  · exact hI.app (Ok60.one he)
  · exact hI
theorem addE_spA {I : List (Int × Int)} {e : Int × Int} (hI : Ok60 I) (he : OkE 60 e) (h : SpA I) : SpA (addE I e) := by
  unfold addE; split
  · rename_i h'; exact (indB_iff (hI.app (Ok60.one he))).1 h'
  · exact h
theorem grd_ok {l : List (Int × Int)} : ∀ {I : List (Int × Int)}, Ok60 I → Ok60 l → Ok60 (grd I l) := by
  induction l with
  | nil => intro I h _; exact h
  | cons e l ih => intro I h hl; rw [grd_cons]; exact ih (addE_ok h (hl e (by simp))) (fun x hx => hl x (by simp [hx]))
theorem grd_spA {l : List (Int × Int)} : ∀ {I : List (Int × Int)}, Ok60 I → Ok60 l → SpA I → SpA (grd I l) := by
  induction l with
  | nil => intro I _ _ h; exact h
  | cons e l ih => intro I h hl hs; rw [grd_cons]; exact ih (addE_ok h (hl e (by simp))) (fun x hx => hl x (by simp [hx])) (addE_spA h (hl e (by simp)) hs)
theorem Ok60.perm {l r : List (Int × Int)} (h : l.Perm r) (hl : Ok60 l) : Ok60 r := fun e he => hl e (h.mem_iff.2 he)
theorem grd_start {l : List (Int × Int)} : ∀ {A B : List (Int × Int)}, A.Perm B → Ok60 A → Ok60 l → (grd A l).Perm (grd B l) := by
  induction l with
  | nil => intro A B h _ _; exact h
  | cons z l ih =>
    intro A B h hA hl
    have hz := hl z (by simp)
    have hB := hA.perm h
    have hl' : Ok60 l := fun x hx => hl x (by simp [hx])
    have hp : (A ++ [z]).Perm (B ++ [z]) := h.append_right _
    by_cases hs : SpA (A ++ [z])
    · have e1 : grd A (z :: l) = grd (A ++ [z]) l := by unfold grd; rw [List.foldl_cons, addE_yes hA hz hs]
      have e2 : grd B (z :: l) = grd (B ++ [z]) l := by unfold grd; rw [List.foldl_cons, addE_yes hB hz (hs.perm hp)]
      rw [e1, e2]
      exact ih hp (hA.app (Ok60.one hz)) hl'
    · have e1 : grd A (z :: l) = grd A l := by unfold grd; rw [List.foldl_cons, addE_no hA hz hs]
      have e2 : grd B (z :: l) = grd B l := by unfold grd; rw [List.foldl_cons, addE_no hB hz (fun h' => hs (h'.perm hp.symm))]
      rw [e1, e2]
      exact ih h hA hl'
theorem perm_mid {K : List (Int × Int)} {x z : Int × Int} : (K ++ [x] ++ [z]).Perm (K ++ [z] ++ [x]) := by
  rw [List.append_assoc, List.append_assoc]
  exact List.Perm.append_left _ (List.Perm.swap z x [])
theorem grd_swap {l : List (Int × Int)} : ∀ {A B K : List (Int × Int)} {x y : Int × Int}, Ok60 l → Ok60 K → OkE 60 x → OkE 60 y → A.Perm (K ++ [x]) → B.Perm (K ++ [y]) → SpA (K ++ [x]) → SpA (K ++ [y]) → ¬ SpA (K ++ [x] ++ [y]) →
    (grd A l).length = (grd B l).length := by
  induction l with
  | nil =>
    intro A B K x y _ _ _ _ hA hB _ _ _
    unfold grd
    simp only [List.foldl_nil]
    rw [hA.length_eq, hB.length_eq]; simp
  | cons z l ih =>
    intro A B K x y hl hK hx hy hA hB sx sy sxy
    have hz := hl z (by simp)
    have hl' : Ok60 l := fun x hx => hl x (by simp [hx])
    have oA : Ok60 A := (hK.app (Ok60.one hx)).perm hA.symm
    have oB : Ok60 B := (hK.app (Ok60.one hy)).perm hB.symm
    have pA : (A ++ [z]).Perm (K ++ [x] ++ [z]) := hA.append_right _
    have pB : (B ++ [z]).Perm (K ++ [y] ++ [z]) := hB.append_right _
    by_cases hs : SpA (K ++ [x] ++ [z])
    · have hs2 := exch hy sx sy sxy hs
      have e1 : grd A (z :: l) = grd (A ++ [z]) l := by unfold grd; rw [List.foldl_cons, addE_yes oA hz (hs.perm pA.symm)]
      have e2 : grd B (z :: l) = grd (B ++ [z]) l := by unfold grd; rw [List.foldl_cons, addE_yes oB hz (hs2.perm pB.symm)]
      rw [e1, e2]
      refine ih (K := K ++ [z]) hl' (hK.app (Ok60.one hz)) hx hy (pA.trans perm_mid) (pB.trans perm_mid) (hs.perm perm_mid) (hs2.perm perm_mid) (fun h' => sxy ?_)
      have : (K ++ [z] ++ [x] ++ [y]).Perm (K ++ [x] ++ [y] ++ [z]) := (perm_mid.append_right _).trans perm_mid
      exact (h'.perm this).left
    · have hs2 : ¬ SpA (K ++ [y] ++ [z]) := fun h' => hs (exch hx sy sx (fun h2 => sxy (h2.perm perm_mid)) h')
      have e1 : grd A (z :: l) = grd A l := by unfold grd; rw [List.foldl_cons, addE_no oA hz (fun h' => hs (h'.perm pA))]
      have e2 : grd B (z :: l) = grd B l := by unfold grd; rw [List.foldl_cons, addE_no oB hz (fun h' => hs2 (h'.perm pB))]
      rw [e1, e2]
      exact ih hl' hK hx hy hA hB sx sy sxy
theorem grd_app (I l r : List (Int × Int)) : grd I (l ++ r) = grd (grd I l) r := by unfold grd; rw [List.foldl_append]
/-- The size of the greedy choice does not depend on the order. -/
theorem grd_perm {l r : List (Int × Int)} (h : l.Perm r) : ∀ {I : List (Int × Int)}, Ok60 I → Ok60 l → SpA I → (grd I l).length = (grd I r).length := by
  induction h with
  | nil => intro I _ _ _; rfl
  | cons x _ ih => intro I hI hl hs; rw [grd_cons, grd_cons]; exact ih (addE_ok hI (hl x (by simp))) (fun e he => hl e (by simp [he])) (addE_spA hI (hl x (by simp)) hs)
  | swap x y l =>
    intro I hI hl hs
    have hy := hl y (by simp)
    have hx := hl x (by simp)
    have hl' : Ok60 l := fun e he => hl e (by simp [he])
    rw [grd_cons, grd_cons, grd_cons, grd_cons]
    by_cases sx : SpA (I ++ [x])
    · by_cases sy : SpA (I ++ [y])
      · by_cases sxy : SpA (I ++ [x] ++ [y])
        · rw [addE_yes hI hx sx, addE_yes hI hy sy, addE_yes (hI.app (Ok60.one hx)) hy sxy, addE_yes (hI.app (Ok60.one hy)) hx (sxy.perm perm_mid)]
          exact (grd_start perm_mid ((hI.app (Ok60.one hy)).app (Ok60.one hx)) hl').length_eq
        · rw [addE_yes hI hx sx, addE_yes hI hy sy, addE_no (hI.app (Ok60.one hx)) hy sxy, addE_no (hI.app (Ok60.one hy)) hx (fun h => sxy (h.perm perm_mid))]
          exact grd_swap hl' hI hy hx (List.Perm.refl _) (List.Perm.refl _) sy sx (fun h => sxy (h.perm perm_mid))
      · rw [addE_yes hI hx sx, addE_no hI hy sy, addE_no (hI.app (Ok60.one hx)) hy (fun h => sy ((h.perm perm_mid).left)), addE_yes hI hx sx]
    · by_cases sy : SpA (I ++ [y])
      · rw [addE_no hI hx sx, addE_yes hI hy sy, addE_no (hI.app (Ok60.one hy)) hx (fun h => sx ((h.perm perm_mid).left))]
      · rw [addE_no hI hx sx, addE_no hI hy sy, addE_no hI hx sx]
  | trans h1 _ ih1 ih2 => intro I hI hl hs; rw [ih1 hI hl hs, ih2 hI (hl.perm h1) hs]
def rankE (es : List (Int × Int)) : Nat := (grd [] es).length
theorem rankE_perm {l r : List (Int × Int)} (h : l.Perm r) (hl : Ok60 l) : rankE l = rankE r := grd_perm h Ok60.nil hl SpA.nil
/-- An independent list is chosen whole. -/
theorem grd_whole {l : List (Int × Int)} : ∀ {I : List (Int × Int)}, Ok60 I → Ok60 l → SpA (I ++ l) → grd I l = I ++ l := by
  induction l with
  | nil => intro I _ _ _; simp [grd]
  | cons e l ih =>
    intro I hI hl hs
    have e1 : I ++ e :: l = I ++ [e] ++ l := by simp
    rw [e1] at hs ⊢
    rw [grd_cons, addE_yes hI (hl e (by simp)) hs.left]
    exact ih (hI.app (Ok60.one (hl e (by simp)))) (fun x hx => hl x (by simp [hx])) hs
theorem addE_len (I : List (Int × Int)) (e : Int × Int) : (addE I e).length ≤ I.length + 1 ∧ I.length ≤ (addE I e).length := by
  unfold addE; split <;> simp
theorem grd_len (l : List (Int × Int)) : ∀ I : List (Int × Int), (grd I l).length ≤ I.length + l.length ∧ I.length ≤ (grd I l).length := by
  induction l with
  | nil => intro I; simp [grd]
  | cons e l ih =>
    intro I
    have h1 := ih (addE I e)
    have h2 := addE_len I e
    rw [grd_cons, List.length_cons]
    omega
/-- If all are chosen, then they are independent. -/
theorem whole_spA {l : List (Int × Int)} (hl : Ok60 l) (h : rankE l = l.length) : SpA l := by
  have : ∀ (l I : List (Int × Int)), Ok60 I → Ok60 l → SpA I → (grd I l).length = I.length + l.length → SpA (I ++ l) := by
    intro l
    induction l with
    | nil => intro I _ _ hs _; simpa using hs
    | cons e l ih =>
      intro I hI hl hs hh
      have he := hl e (by simp)
      rw [grd_cons, List.length_cons] at hh
      have h1 := grd_len l (addE I e)
      by_cases hse : SpA (I ++ [e])
      · rw [addE_yes hI he hse] at hh
        have e1 : I ++ e :: l = I ++ [e] ++ l := by simp
        rw [e1]
        exact ih _ (hI.app (Ok60.one he)) (fun x hx => hl x (by simp [hx])) hse (by rw [hh]; simp; omega)
      · rw [addE_no hI he hse] at hh h1
        omega
  have h2 := this l [] Ok60.nil hl SpA.nil (by unfold rankE at h; simpa using h)
  simpa using h2
end Go.Proofs.YtcpkdnhpelkeoaaGreat
