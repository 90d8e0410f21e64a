/-
  Components: the marks of the reference and the roots of the program are one function; both lists of lists are made of it. Plain, no program in sight.
-/
import Derived.Test.YtfkpcmklpcnebaaSpecA
namespace Go.Proofs.Ytfkpcmklpcnebaa
set_option linter.unusedVariables false
set_option linter.unusedSimpArgs false

def NL (l : List Nat) : List Int := l.map fun (k : Nat) => (k : Int)
def NA (l : List Nat) (i : Nat) : Nat := l.getD i 0
theorem NL_len (l : List Nat) : (NL l).length = l.length := by simp [NL]
theorem NL_at {l : List Nat} {i : Nat} (h : i < l.length) : (NL l).getD i 0 = (NA l i : Nat) := by
  unfold NL NA
  rw [List.getD_eq_getElem?_getD, List.getElem?_map, List.getElem?_eq_getElem h, List.getD_eq_getElem?_getD, List.getElem?_eq_getElem h]; rfl
theorem NL_set (l : List Nat) (i v : Nat) : NL (l.set i v) = (NL l).set i (v : Int) := by unfold NL; rw [List.map_set]
theorem NL_app (a b : List Nat) : NL (a ++ b) = NL a ++ NL b := by simp [NL]
theorem NA_set_same {l : List Nat} {i v : Nat} (h : i < l.length) : NA (l.set i v) i = v := by
  unfold NA; rw [List.getD_eq_getElem?_getD, List.getElem?_set_self h]; rfl
theorem NA_set_ne {l : List Nat} {i j v : Nat} (h : i ≠ j) : NA (l.set i v) j = NA l j := by
  unfold NA; rw [List.getD_eq_getElem?_getD, List.getElem?_set_ne h, List.getD_eq_getElem?_getD]

def Adj (es : List (Int × Int)) (a b : Nat) : Prop := ((a : Int), (b : Int)) ∈ es ∨ ((b : Int), (a : Int)) ∈ es
theorem Adj.symm {es : List (Int × Int)} {a b : Nat} (h : Adj es a b) : Adj es b a := h.elim .inr .inl
inductive Conn (es : List (Int × Int)) (a : Nat) : Nat → Prop
  | refl : Conn es a a
  | step {b c : Nat} : Conn es a b → Adj es b c → Conn es a c
theorem Conn.trans {es : List (Int × Int)} {a b c : Nat} (h : Conn es a b) (k : Conn es b c) : Conn es a c := by
  induction k with
  | refl => exact h
  | step _ e ih => exact ih.step e
theorem Conn.symm {es : List (Int × Int)} {a b : Nat} (h : Conn es a b) : Conn es b a := by
  induction h with
  | refl => exact .refl
  | step _ e ih => exact (Conn.refl.step e.symm).trans ih
theorem Conn.adj {es : List (Int × Int)} {a b : Nat} (h : Adj es a b) : Conn es a b := Conn.refl.step h

def EndsOk (n : Nat) (es : List (Int × Int)) : Prop := ∀ e ∈ es, 0 ≤ e.1 ∧ e.1 < e.2 ∧ e.2 < n
theorem EndsOk.adj {n : Nat} {es : List (Int × Int)} (h : EndsOk n es) {a b : Nat} (k : Adj es a b) : a < n ∧ b < n := by
  rcases k with k | k <;> have := h _ k <;> simp at this <;> omega
theorem EndsOk.conn {n : Nat} {es : List (Int × Int)} (h : EndsOk n es) {a b : Nat} (k : Conn es a b) (ha : a < n) : b < n := by
  cases k with
  | refl => exact ha
  | step _ e => exact (h.adj e).2

structure GoodF (n : Nat) (es : List (Int × Int)) (f : Nat → Nat) : Prop where
  le : ∀ i, i < n → f i ≤ i
  conn : ∀ i, i < n → Conn es i (f i)
  edge : ∀ a b, Adj es a b → f a = f b
theorem GoodF.const {n : Nat} {es : List (Int × Int)} {f : Nat → Nat} (h : GoodF n es f) {a b : Nat} (k : Conn es a b) : f a = f b := by
  induction k with
  | refl => rfl
  | step _ e ih => rw [ih]; exact h.edge _ _ e
theorem GoodF.uniq {n : Nat} {es : List (Int × Int)} {f g : Nat → Nat} (hf : GoodF n es f) (hg : GoodF n es g) {i : Nat} (hi : i < n) : f i = g i := by
  have h1 : f i < n := Nat.lt_of_le_of_lt (hf.le i hi) hi
  have h2 : g i < n := Nat.lt_of_le_of_lt (hg.le i hi) hi
  have e1 : g i = g (f i) := hg.const (hf.conn i hi)
  have e2 : f i = f (g i) := hf.const (hg.conn i hi)
  have l1 := hg.le (f i) h1
  have l2 := hf.le (g i) h2
  omega
theorem GoodF.idem {n : Nat} {es : List (Int × Int)} {f : Nat → Nat} (hf : GoodF n es f) {i : Nat} (hi : i < n) : f (f i) = f i := (hf.const (hf.conn i hi)).symm

/-! ### The marks -/
structure MInv (n : Nat) (es : List (Int × Int)) (mk : List Nat) : Prop where
  len : mk.length = n
  le : ∀ i, i < n → NA mk i ≤ i
  conn : ∀ i, i < n → Conn es i (NA mk i)
def mstep (mk : List Nat) (a b : Nat) : List Nat := if NA mk b < NA mk a then mk.set a (NA mk b) else mk.set b (NA mk a)
theorem MInv.start {n : Nat} {es : List (Int × Int)} : MInv n es (List.range n) := by
  have e : ∀ i, i < n → NA (List.range n) i = i := fun i hi => by
    unfold NA; rw [List.getD_eq_getElem?_getD, List.getElem?_eq_getElem (by simpa using hi)]; simp
  exact ⟨by simp, fun i hi => by rw [e i hi]; exact Nat.le_refl _, fun i hi => by rw [e i hi]; exact .refl⟩
theorem mstep_at {mk : List Nat} {a b : Nat} (ha : a < mk.length) (hb : b < mk.length) (i : Nat) :
    NA (mstep mk a b) i = if i = a ∧ NA mk b < NA mk a then NA mk b else if i = b ∧ ¬ NA mk b < NA mk a then NA mk a else NA mk i := by
  unfold mstep
  by_cases h : NA mk b < NA mk a
  · rw [if_pos h]
    by_cases e : i = a
    · subst e; rw [NA_set_same ha, if_pos ⟨rfl, h⟩]
    · rw [NA_set_ne (Ne.symm e), if_neg (fun h' => e h'.1), if_neg (fun h' => h'.2 h)]
  · rw [if_neg h]
    by_cases e : i = b
    · subst e; rw [NA_set_same hb, if_neg (fun h' => h h'.2), if_pos ⟨rfl, h⟩]
    · rw [NA_set_ne (Ne.symm e), if_neg (fun h' => h h'.2), if_neg (fun h' => e h'.1)]
theorem mstep_len (mk : List Nat) (a b : Nat) : (mstep mk a b).length = mk.length := by unfold mstep; split <;> simp
theorem mstep_mono {mk : List Nat} {a b : Nat} (ha : a < mk.length) (hb : b < mk.length) (i : Nat) : NA (mstep mk a b) i ≤ NA mk i := by
  rw [mstep_at ha hb]
  split
  · rename_i h; rw [h.1]; omega
  · split
    · rename_i h; rw [h.1]; omega
    · exact Nat.le_refl _
theorem MInv.step {n : Nat} {es : List (Int × Int)} {mk : List Nat} (h : MInv n es mk) {a b : Nat} (hab : Adj es a b) (ha : a < n) (hb : b < n) : MInv n es (mstep mk a b) := by
  have hl := h.len
  refine ⟨by rw [mstep_len, hl], fun i hi => Nat.le_trans (mstep_mono (by omega) (by omega) i) (h.le i hi), fun i hi => ?_⟩
  rw [mstep_at (by omega) (by omega)]
  split
  · rename_i h'; rw [h'.1]; exact (Conn.adj hab).trans (h.conn b hb)
  · split
    · rename_i h'; rw [h'.1]; exact (Conn.adj hab.symm).trans (h.conn a ha)
    · exact h.conn i hi

theorem least {P : Nat → Prop} : ∀ (k : Nat), P k → ∃ j, P j ∧ ∀ i, P i → j ≤ i := by
  intro k
  induction k using Nat.strongRecOn with
  | _ k ih =>
    intro hk
    by_cases h : ∃ j, j < k ∧ P j
    · obtain ⟨j, hj, hp⟩ := h; exact ih j hj hp
    · exact ⟨k, hk, fun i hi => Nat.le_of_not_lt fun h' => h ⟨i, h', hi⟩⟩
theorem rep_ex (es : List (Int × Int)) (i : Nat) : ∃ j, Conn es i j ∧ ∀ k, Conn es i k → j ≤ k := least i .refl
noncomputable def rep (es : List (Int × Int)) (i : Nat) : Nat := (rep_ex es i).choose
theorem rep_conn (es : List (Int × Int)) (i : Nat) : Conn es i (rep es i) := (rep_ex es i).choose_spec.1
theorem rep_le {es : List (Int × Int)} {i k : Nat} (h : Conn es i k) : rep es i ≤ k := (rep_ex es i).choose_spec.2 k h
theorem rep_eq {es : List (Int × Int)} {i k : Nat} (h : Conn es i k) : rep es i = rep es k := by
  have h1 : rep es i ≤ rep es k := rep_le (h.trans (rep_conn es k))
  have h2 : rep es k ≤ rep es i := rep_le (h.symm.trans (rep_conn es i))
  omega
def Corr (es : List (Int × Int)) (mk : List Nat) (i : Nat) : Prop := NA mk i = rep es i
theorem MInv.ge {n : Nat} {es : List (Int × Int)} {mk : List Nat} (h : MInv n es mk) {i : Nat} (hi : i < n) : rep es i ≤ NA mk i := rep_le (h.conn i hi)
theorem MInv.keepCorr {n : Nat} {es : List (Int × Int)} {mk : List Nat} (h : MInv n es mk) {a b : Nat} (hab : Adj es a b) (ha : a < n) (hb : b < n) {i : Nat} (hi : i < n) (hc : Corr es mk i) : Corr es (mstep mk a b) i := by
  have hl := h.len
  have h1 := mstep_mono (mk := mk) (a := a) (b := b) (by omega) (by omega) i
  have h2 := (h.step hab ha hb).ge hi
  unfold Corr at *
  omega
theorem MInv.gainCorr {n : Nat} {es : List (Int × Int)} {mk : List Nat} (h : MInv n es mk) {a b : Nat} (hab : Adj es a b) (ha : a < n) (hb : b < n) (hc : Corr es mk a ∨ Corr es mk b) : Corr es (mstep mk a b) a ∧ Corr es (mstep mk a b) b := by
  have hl := h.len
  have e := rep_eq (Conn.adj hab)
  have g1 := h.ge ha
  have g2 := h.ge hb
  have s1 := mstep_at (mk := mk) (a := a) (b := b) (by omega) (by omega) a
  have s2 := mstep_at (mk := mk) (a := a) (b := b) (by omega) (by omega) b
  unfold Corr at *
  by_cases hlt : NA mk b < NA mk a
  · rw [if_pos ⟨rfl, hlt⟩] at s1
    by_cases hba : b = a
    · subst hba; omega
    · rw [if_neg (fun h' => hba h'.1), if_neg (fun h' => h'.2 hlt)] at s2
      omega
  · rw [if_neg (fun h' => hlt h'.2)] at s1
    rw [if_neg (fun h' => hlt h'.2), if_pos ⟨rfl, hlt⟩] at s2
    split at s1
    · rename_i h'; omega
    · omega

def eN (e : Int × Int) : Nat × Nat := (e.1.toNat, e.2.toNat)
def mrun (l : List (Int × Int)) (mk : List Nat) : List Nat := l.foldl (fun m e => mstep m e.1.toNat e.2.toNat) mk
theorem mrun_snoc (l : List (Int × Int)) (e : Int × Int) (mk : List Nat) : mrun (l ++ [e]) mk = mstep (mrun l mk) e.1.toNat e.2.toNat := by unfold mrun; rw [List.foldl_append]; rfl
theorem EndsOk.mem {n : Nat} {es : List (Int × Int)} (h : EndsOk n es) {e : Int × Int} (he : e ∈ es) : Adj es e.1.toNat e.2.toNat ∧ e.1.toNat < n ∧ e.2.toNat < n := by
  have := h e he
  refine ⟨.inl ?_, by omega, by omega⟩
  rw [Int.toNat_of_nonneg (by omega), Int.toNat_of_nonneg (by omega)]; exact he
theorem mrun_inv {n : Nat} {es : List (Int × Int)} (h : EndsOk n es) : ∀ (l : List (Int × Int)) (mk : List Nat), (∀ e ∈ l, e ∈ es) → MInv n es mk →
    MInv n es (mrun l mk) ∧ (∀ i, i < n → Corr es mk i → Corr es (mrun l mk) i) ∧ (∀ e ∈ l, Corr es mk e.1.toNat ∨ Corr es mk e.2.toNat → Corr es (mrun l mk) e.1.toNat ∧ Corr es (mrun l mk) e.2.toNat)
  | [], mk, _, hm => ⟨hm, fun _ _ h => h, fun e he => by simp at he⟩
  | e :: l, mk, hl, hm => by
    obtain ⟨ha, h1, h2⟩ := h.mem (hl e (by simp))
    have hs := hm.step ha h1 h2
    obtain ⟨i1, i2, i3⟩ := mrun_inv h l (mstep mk e.1.toNat e.2.toNat) (fun e' he' => hl e' (by simp [he'])) hs
    refine ⟨i1, fun i hi hc => i2 i hi (hm.keepCorr ha h1 h2 hi hc), fun e' he' hc => ?_⟩
    rcases List.mem_cons.1 he' with rfl | he''
    · have := hm.gainCorr ha h1 h2 hc
      exact ⟨i2 _ h1 this.1, i2 _ h2 this.2⟩
    · obtain ⟨-, h3, h4⟩ := h.mem (hl e' (by simp [he'']))
      exact i3 e' he'' (hc.imp (fun c => hm.keepCorr ha h1 h2 h3 c) (fun c => hm.keepCorr ha h1 h2 h4 c))
def mrounds (es : List (Int × Int)) : Nat → List Nat → List Nat
  | 0, mk => mk
  | r + 1, mk => mrun es (mrounds es r mk)
theorem countP_lt {α : Type} (p q : α → Bool) : ∀ (l : List α), (∀ x ∈ l, p x = true → q x = true) → (∃ x ∈ l, q x = true ∧ p x = false) → l.countP p < l.countP q
  | [], _, h => by obtain ⟨x, hx, _⟩ := h; simp at hx
  | a :: l, h1, h2 => by
    have hle : l.countP p ≤ l.countP q := List.countP_mono_left (fun x hx => h1 x (by simp [hx]))
    rw [List.countP_cons, List.countP_cons]
    obtain ⟨x, hx, hq, hp⟩ := h2
    rcases List.mem_cons.1 hx with rfl | hx'
    · rw [hq, hp]; simp; omega
    · have ih := countP_lt p q l (fun x hx => h1 x (by simp [hx])) ⟨x, hx', hq, hp⟩
      have := h1 a (by simp)
      cases hpa : p a
      · simp; split <;> omega
      · rw [this hpa]; simp; omega
theorem boundary {n : Nat} {es : List (Int × Int)} {mk : List Nat} (h : EndsOk n es) (hm : MInv n es mk) {i : Nat} (hi : i < n) (hc : ¬ Corr es mk i) : ∃ a b, Adj es a b ∧ ¬ Corr es mk a ∧ Corr es mk b := by
  have hr : Corr es mk (rep es i) := by
    have h1 := h.conn (rep_conn es i) hi
    have h2 := hm.le _ h1
    have h3 := hm.ge h1
    have h4 := rep_eq (rep_conn es i)
    unfold Corr; omega
  have : ∀ {j}, Conn es i j → Corr es mk j → ∃ a b, Adj es a b ∧ ¬ Corr es mk a ∧ Corr es mk b := by
    intro j hj
    induction hj with
    | refl => intro h'; exact absurd h' hc
    | @step b c hb e ih =>
      intro hcc
      by_cases hbc : Corr es mk b
      · exact ih hbc
      · exact ⟨b, c, e, hbc, hcc⟩
  exact this (rep_conn es i) hr
theorem mrounds_inv {n : Nat} {es : List (Int × Int)} (h : EndsOk n es) : ∀ r, MInv n es (mrounds es r (List.range n)) ∧ ((∀ i, i < n → Corr es (mrounds es r (List.range n)) i) ∨ ∃ q : Nat → Bool, (∀ i, q i = true → Corr es (mrounds es r (List.range n)) i) ∧ r ≤ (List.range n).countP q)
  | 0 => ⟨MInv.start, .inr ⟨fun _ => false, fun i h => by simp at h, Nat.zero_le _⟩⟩
  | r + 1 => by
    obtain ⟨h1, h2⟩ := mrounds_inv h r
    obtain ⟨i1, i2, i3⟩ := mrun_inv h es (mrounds es r (List.range n)) (fun e he => he) h1
    refine ⟨i1, ?_⟩
    by_cases hall : ∀ i, i < n → Corr es (mrounds es r (List.range n)) i
    · exact .inl fun i hi => i2 i hi (hall i hi)
    · rcases h2 with h2 | ⟨q, hq1, hq2⟩
      · exact absurd h2 hall
      · obtain ⟨i, hi, hc⟩ : ∃ i, i < n ∧ ¬ Corr es (mrounds es r (List.range n)) i := by
          by_cases h' : ∃ i, i < n ∧ ¬ Corr es (mrounds es r (List.range n)) i
          · exact h'
          · exact absurd (fun i hi => Classical.not_not.1 (fun hc => h' ⟨i, hi, hc⟩)) hall
        obtain ⟨a, b, hab, hna, hcb⟩ := boundary h h1 hi hc
        have hlt := h.adj hab
        have hgain : Corr es (mrounds es (r + 1) (List.range n)) a := by
          rcases hab with hab | hab
          · have := (i3 _ hab (by simp only [Int.toNat_natCast]; exact .inr hcb)).1
            simpa [mrounds] using this
          · have := (i3 _ hab (by simp only [Int.toNat_natCast]; exact .inl hcb)).2
            simpa [mrounds] using this
        refine .inr ⟨fun i => (q i && decide (i < n)) || decide (i = a), fun i hi' => ?_, ?_⟩
        · simp only [Bool.or_eq_true, Bool.and_eq_true, decide_eq_true_eq] at hi'
          rcases hi' with ⟨h3, h4⟩ | rfl
          · exact i2 i h4 (hq1 i h3)
          · exact hgain
        · refine Nat.lt_of_le_of_lt hq2 (countP_lt q _ _ (fun x hx hqx => ?_) ⟨a, List.mem_range.2 hlt.1, by simp, ?_⟩)
          · have := List.mem_range.1 hx; simp [hqx, this]
          · cases hqa : q a
            · rfl
            · exact absurd (hq1 a hqa) hna
theorem marks_good {n : Nat} {es : List (Int × Int)} (h : EndsOk n es) : GoodF n es (fun i => NA (mrounds es n (List.range n)) i) := by
  obtain ⟨h1, h2⟩ := mrounds_inv h n
  have hall : ∀ i, i < n → Corr es (mrounds es n (List.range n)) i := by
    rcases h2 with h2 | ⟨q, hq1, hq2⟩
    · exact h2
    · intro i hi
      have : (List.range n).countP q = (List.range n).length := by
        have := List.countP_le_length (p := q) (l := List.range n)
        simp at this ⊢; omega
      rw [List.countP_eq_length] at this
      exact hq1 i (this i (List.mem_range.2 hi))
  refine ⟨h1.le, h1.conn, fun a b hab => ?_⟩
  have hlt := h.adj hab
  show NA _ a = NA _ b
  have ha := hall a hlt.1
  have hb := hall b hlt.2
  unfold Corr at ha hb
  rw [ha, hb, rep_eq (Conn.adj hab)]
end Go.Proofs.Ytfkpcmklpcnebaa
