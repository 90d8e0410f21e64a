/-
  Contracts and lemmas for the statement, joined: SpecM, SpecN.
-/
import Derived.Test.YtpdbekgkopglgaaGreatJ1
namespace Go.Proofs.YtpdbekgkopglgaaGreat
set_option linter.unusedVariables false
set_option linter.unusedSimpArgs false

def NL (l : List Nat) : List Int := l.map fun (k : Nat) => (k : Int)
def NA (l : List Nat) (i : Nat) : Nat := l.getD i 0
theorem NL_len (l : List Nat) : (NL l).length = l.length := by simp [NL]
theorem NL_at {l : List Nat} {i : Nat} (h : i < l.length) : (NL l).getD i 0 = (NA l i : Nat) := by
  unfold NL NA
  rw [List.getD_eq_getElem?_getD, List.getElem?_map, List.getElem?_eq_getElem h, List.getD_eq_getElem?_getD, List.getElem?_eq_getElem h]; rfl
theorem NL_set (l : List Nat) (i v : Nat) : NL (l.set i v) = (NL l).set i (v : Int) := by unfold NL; rw [List.map_set]
theorem NL_app (a b : List Nat) : NL (a ++ b) = NL a ++ NL b := by simp [NL]
theorem NA_set_same {l : List Nat} {i v : Nat} (h : i < l.length) : NA (l.set i v) i = v := by
  unfold NA; rw [List.getD_eq_getElem?_getD, List.getElem?_set_self h]; rfl
theorem NA_set_ne {l : List Nat} {i j v : Nat} (h : i ≠ j) : NA (l.set i v) j = NA l j := by
  unfold NA; rw [List.getD_eq_getElem?_getD, List.getElem?_set_ne h, List.getD_eq_getElem?_getD]

def Adj (es : List (Int × Int)) (a b : Nat) : Prop := ((a : Int), (b : Int)) ∈ es ∨ ((b : Int), (a : Int)) ∈ es
theorem Adj.symm {es : List (Int × Int)} {a b : Nat} (h : Adj es a b) : Adj es b a := h.elim .inr .inl
inductive Conn (es : List (Int × Int)) (a : Nat) : Nat → Prop
  | refl : Conn es a a
  | step {b c : Nat} : Conn es a b → Adj es b c → Conn es a c
theorem Conn.trans {es : List (Int × Int)} {a b c : Nat} (h : Conn es a b) (k : Conn es b c) : Conn es a c := by
  induction k with
  | refl => exact h
  | step _ e ih => exact ih.step e
theorem Conn.symm {es : List (Int × Int)} {a b : Nat} (h : Conn es a b) : Conn es b a := by
  induction h with
  | refl => exact .refl
  | step _ e ih => exact (Conn.refl.step e.symm).trans ih
theorem Conn.adj {es : List (Int × Int)} {a b : Nat} (h : Adj es a b) : Conn es a b := Conn.refl.step h

def EndsOk (n : Nat) (es : List (Int × Int)) : Prop := ∀ e ∈ es, 0 ≤ e.1 ∧ e.1 < e.2 ∧ e.2 < n
theorem EndsOk.adj {n : Nat} {es : List (Int × Int)} (h : EndsOk n es) {a b : Nat} (k : Adj es a b) : a < n ∧ b < n := by
  rcases k with k | k <;> have := h _ k <;> simp at this <;> omega
theorem EndsOk.conn {n : Nat} {es : List (Int × Int)} (h : EndsOk n es) {a b : Nat} (k : Conn es a b) (ha : a < n) : b < n := by
  cases k with
  | refl => exact ha
  | step _ e => exact (h.adj e).2

structure GoodF (n : Nat) (es : List (Int × Int)) (f : Nat → Nat) : Prop where
  le : ∀ i, i < n → f i ≤ i
  conn : ∀ i, i < n → Conn es i (f i)
  edge : ∀ a b, Adj es a b → f a = f b
theorem GoodF.const {n : Nat} {es : List (Int × Int)} {f : Nat → Nat} (h : GoodF n es f) {a b : Nat} (k : Conn es a b) : f a = f b := by
  induction k with
  | refl => rfl
  | step _ e ih => rw [ih]; exact h.edge _ _ e
theorem GoodF.uniq {n : Nat} {es : List (Int × Int)} {f g : Nat → Nat} (hf : GoodF n es f) (hg : GoodF n es g) {i : Nat} (hi : i < n) : f i = g i := by
  have h1 : f i < n := Nat.lt_of_le_of_lt (hf.le i hi) hi
  have h2 : g i < n := Nat.lt_of_le_of_lt (hg.le i hi) hi
  have e1 : g i = g (f i) := hg.const (hf.conn i hi)
  have e2 : f i = f (g i) := hf.const (hg.conn i hi)
  have l1 := hg.le (f i) h1
  have l2 := hf.le (g i) h2
  omega
theorem GoodF.idem {n : Nat} {es : List (Int × Int)} {f : Nat → Nat} (hf : GoodF n es f) {i : Nat} (hi : i < n) : f (f i) = f i := (hf.const (hf.conn i hi)).symm

/-! ### The marks -/
structure MInv (n : Nat) (es : List (Int × Int)) (mk : List Nat) : Prop where
  len : mk.length = n
  le : ∀ i, i < n → NA mk i ≤ i
  conn : ∀ i, i < n → Conn es i (NA mk i)
def mstep (mk : List Nat) (a b : Nat) : List Nat := if NA mk b < NA mk a then mk.set a (NA mk b) else mk.set b (NA mk a)
theorem MInv.start {n : Nat} {es : List (Int × Int)} : MInv n es (List.range n) := by
  have e : ∀ i, i < n → NA (List.range n) i = i := fun i hi => by
    unfold NA; rw [List.getD_eq_getElem?_getD, List.getElem?_eq_getElem (by simpa using hi)]; simp
  exact ⟨by simp, fun i hi => by rw [e i hi]; exact Nat.le_refl _, fun i hi => by rw [e i hi]; exact .refl⟩
theorem mstep_at {mk : List Nat} {a b : Nat} (ha : a < mk.length) (hb : b < mk.length) (i : Nat) :
    NA (mstep mk a b) i = if i = a ∧ NA mk b < NA mk a then NA mk b else if i = b ∧ ¬ NA mk b < NA mk a then NA mk a else NA mk i := by
  unfold mstep
  by_cases h : NA mk b < NA mk a
  · rw [if_pos h]
    by_cases e : i = a
    · subst e; rw [NA_set_same ha, if_pos ⟨rfl, h⟩]
    · rw [NA_set_ne (Ne.symm e), if_neg (fun h' => e h'.1), if_neg (fun h' => h'.2 h)]
  · rw [if_neg h]
    by_cases e : i = b
    · subst e; rw [NA_set_same hb, if_neg (fun h' => h h'.2), if_pos ⟨rfl, h⟩]
    · rw [NA_set_ne (Ne.symm e), if_neg (fun h' => h h'.2), if_neg (fun h' => e h'.1)]
theorem mstep_len (mk : List Nat) (a b : Nat) : (mstep mk a b).length = mk.length := by unfold mstep; split <;> simp
theorem mstep_mono {mk : List Nat} {a b : Nat} (ha : a < mk.length) (hb : b < mk.length) (i : Nat) : NA (mstep mk a b) i ≤ NA mk i := by
  rw [mstep_at ha hb]
  split
  · rename_i h; rw [h.1]; omega
  · split
    · rename_i h; rw [h.1]; omega
    · exact Nat.le_refl _
theorem MInv.step {n : Nat} {es : List (Int × Int)} {mk : List Nat} (h : MInv n es mk) {a b : Nat} (hab : Adj es a b) (ha : a < n) (hb : b < n) : MInv n es (mstep mk a b) := by
  have hl := h.len
  refine ⟨by rw [mstep_len, hl], fun i hi => Nat.le_trans (mstep_mono (by omega) (by omega) i) (h.le i hi), fun i hi => ?_⟩
  rw [mstep_at (by omega) (by omega)]
  split
  · rename_i h'; rw [h'.1]; exact (Conn.adj hab).trans (h.conn b hb)
  · split
    · rename_i h'; rw [h'.1]; exact (Conn.adj hab.symm).trans (h.conn a ha)
    · exact h.conn i hi

theorem least {P : Nat → Prop} : ∀ (k : Nat), P k → ∃ j, P j ∧ ∀ i, P i → j ≤ i := by
  intro k
  induction k using Nat.strongRecOn with
  | _ k ih =>
    intro hk
    by_cases h : ∃ j, j < k ∧ P j
    · obtain ⟨j, hj, hp⟩ := h; exact ih j hj hp
    · exact ⟨k, hk, fun i hi => Nat.le_of_not_lt fun h' => h ⟨i, h', hi⟩⟩
theorem rep_ex (es : List (Int × Int)) (i : Nat) : ∃ j, Conn es i j ∧ ∀ k, Conn es i k → j ≤ k := least i .refl
noncomputable def rep (es : List (Int × Int)) (i : Nat) : Nat := (rep_ex es i).choose
theorem rep_conn (es : List (Int × Int)) (i : Nat) : Conn es i (rep es i) := (rep_ex es i).choose_spec.1
theorem rep_le {es : List (Int × Int)} {i k : Nat} (h : Conn es i k) : rep es i ≤ k := (rep_ex es i).choose_spec.2 k h
theorem rep_eq {es : List (Int × Int)} {i k : Nat} (h : Conn es i k) : rep es i = rep es k := by
  have h1 : rep es i ≤ rep es k := rep_le (h.trans (rep_conn es k))
  have h2 : rep es k ≤ rep es i := rep_le (h.symm.trans (rep_conn es i))
  omega
def Corr (es : List (Int × Int)) (mk : List Nat) (i : Nat) : Prop := NA mk i = rep es i
theorem MInv.ge {n : Nat} {es : List (Int × Int)} {mk : List Nat} (h : MInv n es mk) {i : Nat} (hi : i < n) : rep es i ≤ NA mk i := rep_le (h.conn i hi)
theorem MInv.keepCorr {n : Nat} {es : List (Int × Int)} {mk : List Nat} (h : MInv n es mk) {a b : Nat} (hab : Adj es a b) (ha : a < n) (hb : b < n) {i : Nat} (hi : i < n) (hc : Corr es mk i) : Corr es (mstep mk a b) i := by
  have hl := h.len
  have h1 := mstep_mono (mk := mk) (a := a) (b := b) (by omega) (by omega) i
  have h2 := (h.step hab ha hb).ge hi
  unfold Corr at *
  omega
theorem MInv.gainCorr {n : Nat} {es : List (Int × Int)} {mk : List Nat} (h : MInv n es mk) {a b : Nat} (hab : Adj es a b) (ha : a < n) (hb : b < n) (hc : Corr es mk a ∨ Corr es mk b) : Corr es (mstep mk a b) a ∧ Corr es (mstep mk a b) b := by
  have hl := h.len
  have e := rep_eq (Conn.adj hab)
  have g1 := h.ge ha
  have g2 := h.ge hb
  have s1 := mstep_at (mk := mk) (a := a) (b := b) (by omega) (by omega) a
  have s2 := mstep_at (mk := mk) (a := a) (b := b) (by omega) (by omega) b
  unfold Corr at *
  by_cases hlt : NA mk b < NA mk a
  · rw [if_pos ⟨rfl, hlt⟩] at s1
    by_cases hba : b = a
    · subst hba; omega
    · rw [if_neg (fun h' => hba h'.1), if_neg (fun h' => h'.2 hlt)] at s2
      omega
  · rw [if_neg (fun h' => hlt h'.2)] at s1
    rw [if_neg (fun h' => hlt h'.2), if_pos ⟨rfl, hlt⟩] at s2
    split at s1
    · rename_i h'; omega
    · omega

def eN (e : Int × Int) : Nat × Nat := (e.1.toNat, e.2.toNat)
def mrun (l : List (Int × Int)) (mk : List Nat) : List Nat := l.foldl (fun m e => mstep m e.1.toNat e.2.toNat) mk
theorem mrun_snoc (l : List (Int × Int)) (e : Int × Int) (mk : List Nat) : mrun (l ++ [e]) mk = mstep (mrun l mk) e.1.toNat e.2.toNat := by unfold mrun; rw [List.foldl_append]; rfl
theorem EndsOk.mem {n : Nat} {es : List (Int × Int)} (h : EndsOk n es) {e : Int × Int} (he : e ∈ es) : Adj es e.1.toNat e.2.toNat ∧ e.1.toNat < n ∧ e.2.toNat < n := by
  have := h e he
  refine ⟨.inl ?_, by omega, by omega⟩
  rw [Int.toNat_of_nonneg (by omega), Int.toNat_of_nonneg (by omega)]; exact he
theorem mrun_inv {n : Nat} {es : List (Int × Int)} (h : EndsOk n es) : ∀ (l : List (Int × Int)) (mk : List Nat), (∀ e ∈ l, e ∈ es) → MInv n es mk →
    MInv n es (mrun l mk) ∧ (∀ i, i < n → Corr es mk i → Corr es (mrun l mk) i) ∧ (∀ e ∈ l, Corr es mk e.1.toNat ∨ Corr es mk e.2.toNat → Corr es (mrun l mk) e.1.toNat ∧ Corr es (mrun l mk) e.2.toNat)
  | [], mk, _, hm => ⟨hm, fun _ _ h => h, fun e he => by simp at he⟩
  | e :: l, mk, hl, hm => by
    obtain ⟨ha, h1, h2⟩ := h.mem (hl e (by simp))
    have hs := hm.step ha h1 h2
    obtain ⟨i1, i2, i3⟩ := mrun_inv h l (mstep mk e.1.toNat e.2.toNat) (fun e' he' => hl e' (by simp [he'])) hs
    refine ⟨i1, fun i hi hc => i2 i hi (hm.keepCorr ha h1 h2 hi hc), fun e' he' hc => ?_⟩
    rcases List.mem_cons.1 he' with rfl | he''
    · have := hm.gainCorr ha h1 h2 hc
      exact ⟨i2 _ h1 this.1, i2 _ h2 this.2⟩
    · obtain ⟨-, h3, h4⟩ := h.mem (hl e' (by simp [he'']))
      exact i3 e' he'' (hc.imp (fun c => hm.keepCorr ha h1 h2 h3 c) (fun c => hm.keepCorr ha h1 h2 h4 c))
def mrounds (es : List (Int × Int)) : Nat → List Nat → List Nat
  | 0, mk => mk
  | r + 1, mk => mrun es (mrounds es r mk)
theorem countP_lt {α : Type} (p q : α → Bool) : ∀ (l : List α), (∀ x ∈ l, p x = true → q x = true) → (∃ x ∈ l, q x = true ∧ p x = false) → l.countP p < l.countP q
  | [], _, h => by obtain ⟨x, hx, _⟩ := h; simp at hx
  | a :: l, h1, h2 => by
    have hle : l.countP p ≤ l.countP q := List.countP_mono_left (fun x hx => h1 x (by simp [hx]))
    rw [List.countP_cons, List.countP_cons]
    obtain ⟨x, hx, hq, hp⟩ := h2
    rcases List.mem_cons.1 hx with rfl | hx'
    · rw [hq, hp]; simp; omega
    · have ih := countP_lt p q l (fun x hx => h1 x (by simp [hx])) ⟨x, hx', hq, hp⟩
      have := h1 a (by simp)
      cases hpa : p a
      · simp; split <;> omega
      · rw [this hpa]; simp; omega
theorem boundary {n : Nat} {es : List (Int × Int)} {mk : List Nat} (h : EndsOk n es) (hm : MInv n es mk) {i : Nat} (hi : i < n) (hc : ¬ Corr es mk i) : ∃ a b, Adj es a b ∧ ¬ Corr es mk a ∧ Corr es mk b := by
  have hr : Corr es mk (rep es i) := by
    have h1 := h.conn (rep_conn es i) hi
    have h2 := hm.le _ h1
    have h3 := hm.ge h1
    have h4 := rep_eq (rep_conn es i)
    unfold Corr; omega
  have : ∀ {j}, Conn es i j → Corr es mk j → ∃ a b, Adj es a b ∧ ¬ Corr es mk a ∧ Corr es mk b := by
    intro j hj
    induction hj with
    | refl => intro h'; exact absurd h' hc
    | @step b c hb e ih =>
      intro hcc
      by_cases hbc : Corr es mk b
      · exact ih hbc
      · exact ⟨b, c, e, hbc, hcc⟩
  exact this (rep_conn es i) hr
theorem mrounds_inv {n : Nat} {es : List (Int × Int)} (h : EndsOk n es) : ∀ r, MInv n es (mrounds es r (List.range n)) ∧ ((∀ i, i < n → Corr es (mrounds es r (List.range n)) i) ∨ ∃ q : Nat → Bool, (∀ i, q i = true → Corr es (mrounds es r (List.range n)) i) ∧ r ≤ (List.range n).countP q)
  | 0 => ⟨MInv.start, .inr ⟨fun _ => false, fun i h => by simp at h, Nat.zero_le _⟩⟩
  | r + 1 => by
    obtain ⟨h1, h2⟩ := mrounds_inv h r
    obtain ⟨i1, i2, i3⟩ := mrun_inv h es (mrounds es r (List.range n)) (fun e he => he) h1
    refine ⟨i1, ?_⟩
    by_cases hall : ∀ i, i < n → Corr es (mrounds es r (List.range n)) i
    · exact .inl fun i hi => i2 i hi (hall i hi)
    · rcases h2 with h2 | ⟨q, hq1, hq2⟩
      · exact absurd h2 hall
      · obtain ⟨i, hi, hc⟩ : ∃ i, i < n ∧ ¬ Corr es (mrounds es r (List.range n)) i := by
          by_cases h' : ∃ i, i < n ∧ ¬ Corr es (mrounds es r (List.range n)) i
          · exact h'
          · exact absurd (fun i hi => Classical.not_not.1 (fun hc => h' ⟨i, hi, hc⟩)) hall
        obtain ⟨a, b, hab, hna, hcb⟩ := boundary h h1 hi hc
        have hlt := h.adj hab
        have hgain : Corr es (mrounds es (r + 1) (List.range n)) a := by
          rcases hab with hab | hab
          · have := (i3 _ hab (by simp only [Int.toNat_natCast]; exact .inr hcb)).1
            simpa [mrounds] using this
          · have := (i3 _ hab (by simp only [Int.toNat_natCast]; exact .inl hcb)).2
            simpa [mrounds] using this
        refine .inr ⟨fun i => (q i && decide (i < n)) || decide (i = a), fun i hi' => ?_, ?_⟩
        · simp only [Bool.or_eq_true, Bool.and_eq_true, decide_eq_true_eq] at hi'
          rcases hi' with ⟨h3, h4⟩ | rfl
          · exact i2 i h4 (hq1 i h3)
          · exact hgain
        · refine Nat.lt_of_le_of_lt hq2 (countP_lt q _ _ (fun x hx hqx => ?_) ⟨a, List.mem_range.2 hlt.1, by simp, ?_⟩)
          · have := List.mem_range.1 hx; simp [hqx, this]
          · cases hqa : q a
            · rfl
            · exact absurd (hq1 a hqa) hna
theorem marks_good {n : Nat} {es : List (Int × Int)} (h : EndsOk n es) : GoodF n es (fun i => NA (mrounds es n (List.range n)) i) := by
  obtain ⟨h1, h2⟩ := mrounds_inv h n
  have hall : ∀ i, i < n → Corr es (mrounds es n (List.range n)) i := by
    rcases h2 with h2 | ⟨q, hq1, hq2⟩
    · exact h2
    · intro i hi
      have : (List.range n).countP q = (List.range n).length := by
        have := List.countP_le_length (p := q) (l := List.range n)
        simp at this ⊢; omega
      rw [List.countP_eq_length] at this
      exact hq1 i (this i (List.mem_range.2 hi))
  refine ⟨h1.le, h1.conn, fun a b hab => ?_⟩
  have hlt := h.adj hab
  show NA _ a = NA _ b
  have ha := hall a hlt.1
  have hb := hall b hlt.2
  unfold Corr at ha hb
  rw [ha, hb, rep_eq (Conn.adj hab)]
end Go.Proofs.YtpdbekgkopglgaaGreat
namespace Go.Proofs.YtpdbekgkopglgaaGreat
set_option linter.unusedVariables false
set_option linter.unusedSimpArgs false

/-- From i the parents lead to r. -/
inductive Root (p : List Nat) : Nat → Nat → Prop
  | here {r : Nat} : NA p r = r → Root p r r
  | up {i r : Nat} : NA p i ≠ i → Root p (NA p i) r → Root p i r
theorem Root.fix {p : List Nat} {i r : Nat} (h : Root p i r) : NA p r = r := by
  induction h with
  | here h => exact h
  | up _ _ ih => exact ih
theorem Root.uniq {p : List Nat} {i r : Nat} (h : Root p i r) : ∀ {s}, Root p i s → r = s := by
  induction h with
  | here h =>
    intro s hs
    cases hs with
    | here _ => rfl
    | up h' _ => exact absurd h h'
  | up h _ ih =>
    intro s hs
    cases hs with
    | here h' => exact absurd h' h
    | up _ h' => exact ih h'
theorem root_ex {n : Nat} {p : List Nat} (hp : ∀ i, i < n → NA p i ≤ i) : ∀ i, i < n → ∃ r, Root p i r ∧ r ≤ i := by
  intro i
  induction i using Nat.strongRecOn with
  | _ i ih =>
    intro hi
    by_cases h : NA p i = i
    · exact ⟨i, .here h, Nat.le_refl _⟩
    · have hlt : NA p i < i := by have := hp i hi; omega
      obtain ⟨r, hr, hle⟩ := ih _ hlt (by omega)
      exact ⟨r, .up h hr, by omega⟩
/-- What the parents say behind the edges es' (some of es). -/
structure UInv (n : Nat) (es : List (Int × Int)) (es' : List (Int × Int)) (p : List Nat) : Prop where
  len : p.length = n
  le : ∀ i, i < n → NA p i ≤ i
  conn : ∀ i r, i < n → Root p i r → Conn es i r
  edge : ∀ e ∈ es', ∀ r s, Root p e.1.toNat r → Root p e.2.toNat s → r = s
theorem range_NA {n i : Nat} (h : i < n) : NA (List.range n) i = i := by
  unfold NA; rw [List.getD_eq_getElem?_getD, List.getElem?_eq_getElem (by simpa using h)]; simp
theorem UInv.start (n : Nat) (es : List (Int × Int)) : UInv n es [] (List.range n) := by
  refine ⟨by simp, fun i hi => by rw [range_NA hi]; exact Nat.le_refl _, fun i r hi hr => ?_, fun e he => by simp at he⟩
  have := hr.uniq (.here (range_NA hi))
  rw [this]; exact .refl
theorem Root.union {n : Nat} {p : List Nat} (hl : p.length = n) {lo hi : Nat} (hlt : lo < hi) (hn : hi < n) (h1 : NA p lo = lo) (h2 : NA p hi = hi) {i r : Nat} (h : Root p i r) : Root (p.set hi lo) i (if r = hi then lo else r) := by
  have hlo : Root (p.set hi lo) lo lo := .here (by rw [NA_set_ne (by omega)]; exact h1)
  induction h with
  | @here r hr =>
    by_cases e : r = hi
    · rw [if_pos e]; subst e
      refine .up ?_ ?_
      · rw [NA_set_same (by omega)]; omega
      · rw [NA_set_same (by omega)]; exact hlo
    · rw [if_neg e]; exact .here (by rw [NA_set_ne (Ne.symm e)]; exact hr)
  | @up i r hi' hr ih =>
    have e : i ≠ hi := fun e => hi' (by rw [e]; exact h2)
    refine .up ?_ ?_
    · rw [NA_set_ne (Ne.symm e)]; exact hi'
    · rw [NA_set_ne (Ne.symm e)]; exact ih
theorem UInv.step {n : Nat} {es es' : List (Int × Int)} {p : List Nat} (hE : EndsOk n es) (h : UInv n es es' p) {e : Int × Int} (he : e ∈ es) (hsub : ∀ x ∈ es', x ∈ es) {a b : Nat} (ha : Root p e.1.toNat a) (hb : Root p e.2.toNat b) : UInv n es (es' ++ [e]) (p.set (max a b) (min a b)) := by
  obtain ⟨hadj, hn1, hn2⟩ := hE.mem he
  have hca := h.conn _ _ hn1 ha
  have hcb := h.conn _ _ hn2 hb
  have han := hE.conn hca hn1
  have hbn := hE.conn hcb hn2
  have hab : Conn es a b := (hca.symm.trans (Conn.adj hadj)).trans hcb
  have fa := ha.fix
  have fb := hb.fix
  have hl := h.len
  have hroot : ∀ i, i < n → ∃ r, Root p i r := fun i hi => by obtain ⟨r, hr, _⟩ := root_ex h.le i hi; exact ⟨r, hr⟩
  by_cases heq : a = b
  · have e1 : p.set (max a b) (min a b) = p := by
      subst heq
      rw [show max a a = a by omega, show min a a = a by omega]
      apply List.ext_getElem?
      intro j
      rw [List.getElem?_set]
      by_cases e : a = j
      · subst e
        rw [if_pos rfl, if_pos (by omega), List.getElem?_eq_getElem (by omega)]
        unfold NA at fa
        rw [List.getD_eq_getElem?_getD, List.getElem?_eq_getElem (by omega)] at fa
        simp at fa
        rw [fa]
      · rw [if_neg e]
    rw [e1]
    refine ⟨h.len, h.le, h.conn, fun x hx r s hr hs => ?_⟩
    rcases List.mem_append.1 hx with hx | hx
    · exact h.edge x hx r s hr hs
    · simp only [List.mem_singleton] at hx
      subst hx
      rw [hr.uniq ha, hs.uniq hb, heq]
  · have key : ∀ lo hi : Nat, lo < hi → hi < n → NA p lo = lo → NA p hi = hi → (a = hi ∧ b = lo ∨ a = lo ∧ b = hi) → Conn es hi lo → UInv n es (es' ++ [e]) (p.set hi lo) := by
      intro lo hi hlt hn h1 h2 hor hc
      have hun : ∀ {i r s : Nat}, Root p i r → Root (p.set hi lo) i s → s = if r = hi then lo else r := fun hr hs => hs.uniq (hr.union hl hlt hn h1 h2)
      refine ⟨by simp [hl], fun i hi' => ?_, fun i s hi' hs => ?_, fun x hx r s hr hs => ?_⟩
      · by_cases e : i = hi
        · subst e; rw [NA_set_same (by omega)]; omega
        · rw [NA_set_ne (Ne.symm e)]; exact h.le i hi'
      · obtain ⟨r, hr⟩ := hroot i hi'
        rw [hun hr hs]
        have := h.conn i r hi' hr
        split
        · rename_i e; subst e; exact this.trans hc
        · exact this
      · rcases List.mem_append.1 hx with hx | hx
        · obtain ⟨-, h3, h4⟩ := hE.mem (hsub x hx)
          obtain ⟨r', hr'⟩ := hroot _ h3
          obtain ⟨s', hs'⟩ := hroot _ h4
          rw [hun hr' hr, hun hs' hs, h.edge x hx r' s' hr' hs']
        · simp only [List.mem_singleton] at hx
          subst hx
          rw [hun ha hr, hun hb hs]
          rcases hor with ⟨h3, h4⟩ | ⟨h3, h4⟩
          · rw [if_pos h3, h4]; split <;> rfl
          · rw [if_pos h4, h3]; split <;> rfl
    rcases Nat.lt_or_ge a b with hlt | hge
    · rw [show max a b = b by omega, show min a b = a by omega]
      exact key a b hlt hbn fa fb (.inr ⟨rfl, rfl⟩) hab.symm
    · rw [show max a b = a by omega, show min a b = b by omega]
      exact key b a (by omega) han fb fa (.inl ⟨rfl, rfl⟩) hab
noncomputable def rootF (p : List Nat) (i : Nat) : Nat := by
  classical exact if h : ∃ r, Root p i r then h.choose else 0
theorem rootF_root {p : List Nat} {i r : Nat} (h : Root p i r) : rootF p i = r := by
  unfold rootF
  have hex : ∃ r, Root p i r := ⟨r, h⟩
  rw [dif_pos hex]
  exact hex.choose_spec.uniq h
theorem roots_good {n : Nat} {es : List (Int × Int)} {p : List Nat} (hE : EndsOk n es) (h : UInv n es es p) : GoodF n es (rootF p) := by
  refine ⟨fun i hi => ?_, fun i hi => ?_, fun a b hab => ?_⟩
  · obtain ⟨r, hr, hle⟩ := root_ex h.le i hi
    rw [rootF_root hr]; exact hle
  · obtain ⟨r, hr, hle⟩ := root_ex h.le i hi
    rw [rootF_root hr]; exact h.conn i r hi hr
  · have hlt := hE.adj hab
    obtain ⟨r, hr, _⟩ := root_ex h.le a hlt.1
    obtain ⟨s, hs, _⟩ := root_ex h.le b hlt.2
    rw [rootF_root hr, rootF_root hs]
    rcases hab with hab | hab
    · exact h.edge _ hab r s (by simpa using hr) (by simpa using hs)
    · exact (h.edge _ hab s r (by simpa using hs) (by simpa using hr)).symm

/-! ### The lists -/
def cls (f : Nat → Nat) (i m : Nat) : List Nat := (List.range i).filter fun j => decide (f j = m)
def reps (f : Nat → Nat) (k : Nat) : List Nat := (List.range k).filter fun m => decide (f m = m)
/-- The lists behind the points below i. -/
def compsK (f : Nat → Nat) (i : Nat) : List (List Nat) := (reps f i).map (cls f i)
theorem cls_succ (f : Nat → Nat) (i m : Nat) : cls f (i + 1) m = cls f i m ++ if f i = m then [i] else [] := by
  unfold cls
  rw [List.range_succ, List.filter_append]
  congr 1
  simp only [List.filter_cons, List.filter_nil, decide_eq_true_eq]
theorem reps_succ (f : Nat → Nat) (i : Nat) : reps f (i + 1) = reps f i ++ if f i = i then [i] else [] := by
  unfold reps
  rw [List.range_succ, List.filter_append]
  congr 1
  simp only [List.filter_cons, List.filter_nil, decide_eq_true_eq]
theorem mem_reps {f : Nat → Nat} {i m : Nat} : m ∈ reps f i ↔ m < i ∧ f m = m := by unfold reps; simp
theorem cls_nil {f : Nat → Nat} {n m : Nat} (hid : ∀ i, i < n → f (f i) = f i) (h : f m ≠ m) : cls f n m = [] := by
  unfold cls
  rw [List.filter_eq_nil_iff]
  intro j hj hjm
  have := hid j (List.mem_range.1 hj)
  simp at hjm
  rw [hjm] at this
  exact h this
theorem cls_ne {f : Nat → Nat} {n m : Nat} (hm : m < n) (h : f m = m) : cls f n m ≠ [] := by
  unfold cls
  rw [Ne, List.filter_eq_nil_iff]
  intro hh
  have := hh m (List.mem_range.2 hm)
  simp [h] at this
/-- The reference's out behind the marks below k. -/
def refK (f : Nat → Nat) (n k : Nat) : List (List Nat) := (reps f k).map (cls f n)
theorem refK_succ (f : Nat → Nat) (n k : Nat) : refK f n (k + 1) = refK f n k ++ if f k = k then [cls f n k] else [] := by
  unfold refK
  rw [reps_succ, List.map_append]
  congr 1
  split <;> rfl
theorem refK_end (f : Nat → Nat) (n : Nat) : refK f n n = compsK f n := rfl
/-- Where a root's list stands. -/
def placeF (f : Nat → Nat) (m : Nat) : Nat := (reps f m).length
theorem reps_len_mono (f : Nat → Nat) {a b : Nat} (h : a ≤ b) : (reps f a).length ≤ (reps f b).length := by
  induction b with
  | zero => have : a = 0 := by omega
            rw [this]; exact Nat.le_refl _
  | succ b ih =>
    by_cases e : a = b + 1
    · rw [e]; exact Nat.le_refl _
    · have := ih (by omega)
      rw [reps_succ, List.length_append]; omega
theorem reps_at {f : Nat → Nat} : ∀ {k m : Nat}, m < k → f m = m → (reps f k)[placeF f m]? = some m
  | 0, m, h, _ => by omega
  | k + 1, m, h, hf => by
    rw [reps_succ]
    by_cases e : m = k
    · subst e
      unfold placeF
      rw [List.getElem?_append_right (Nat.le_refl _), if_pos hf, Nat.sub_self]; rfl
    · have := reps_at (k := k) (m := m) (by omega) hf
      have hlt : placeF f m < (reps f k).length := by
        rcases Nat.lt_or_ge (placeF f m) (reps f k).length with h' | h'
        · exact h'
        · rw [List.getElem?_eq_none h'] at this; cases this
      rw [List.getElem?_append_left hlt]; exact this
theorem place_lt {f : Nat → Nat} {k m : Nat} (h : m < k) (hf : f m = m) : placeF f m < (compsK f k).length := by
  have := reps_at h hf
  unfold compsK
  rw [List.length_map]
  rcases Nat.lt_or_ge (placeF f m) (reps f k).length with h' | h'
  · exact h'
  · rw [List.getElem?_eq_none h'] at this; cases this
theorem nodup_place {f : Nat → Nat} {k j m : Nat} (h : m < k) (hf : f m = m) (hj : (reps f k)[j]? = some m) : j = placeF f m := by
  have h1 := reps_at h hf
  have hp : (reps f k).Pairwise (· < ·) := by unfold reps; exact List.Pairwise.filter _ List.pairwise_lt_range
  have hj' : j < (reps f k).length := by
    rcases Nat.lt_or_ge j (reps f k).length with h' | h'
    · exact h'
    · rw [List.getElem?_eq_none h'] at hj; cases hj
  have hp' : placeF f m < (reps f k).length := by
    rcases Nat.lt_or_ge (placeF f m) (reps f k).length with h' | h'
    · exact h'
    · rw [List.getElem?_eq_none h'] at h1; cases h1
  rw [List.getElem?_eq_getElem hj'] at hj
  rw [List.getElem?_eq_getElem hp'] at h1
  injection hj with hj
  injection h1 with h1
  rw [List.pairwise_iff_getElem] at hp
  rcases Nat.lt_trichotomy j (placeF f m) with h2 | h2 | h2
  · have := hp j _ hj' hp' h2; omega
  · exact h2
  · have := hp _ j hp' hj' h2; omega
/-- One point more: its class gets it, a new one if it is its own root. -/
theorem compsK_old {f : Nat → Nat} {n i : Nat} (hi : i < n) (hle : f i ≤ i) (hid : f (f i) = f i) (h : f i ≠ i) : compsK f (i + 1) = (compsK f i).set (placeF f (f i)) (cls f i (f i) ++ [i]) := by
  apply List.ext_getElem?
  intro j
  unfold compsK
  rw [reps_succ, if_neg h, List.append_nil, List.getElem?_set, List.getElem?_map, List.length_map]
  have hlt : f i < i := by omega
  by_cases e : placeF f (f i) = j
  · subst e
    rw [if_pos rfl, reps_at hlt hid]
    have := place_lt hlt hid
    unfold compsK at this
    rw [List.length_map] at this
    rw [if_pos this]
    simp [cls_succ]
  · rw [if_neg e, List.getElem?_map]
    cases hm : (reps f i)[j]? with
    | none => rfl
    | some m =>
      have hm2 := mem_reps.1 (List.mem_of_getElem? hm)
      have hne : f i ≠ m := fun h' => e (by rw [h']; exact (nodup_place hm2.1 hm2.2 hm).symm)
      simp [cls_succ, hne]
theorem compsK_new {f : Nat → Nat} {n i : Nat} (hi : i < n) (hid : ∀ j, j < n → f (f j) = f j ∧ f j ≤ j) (h : f i = i) : compsK f (i + 1) = compsK f i ++ [[i]] := by
  unfold compsK
  rw [reps_succ, if_pos h, List.map_append]
  congr 1
  · apply List.map_congr_left
    intro m hm
    have := mem_reps.1 hm
    rw [cls_succ, if_neg (by omega), List.append_nil]
  · simp only [List.map_cons, List.map_nil]
    rw [cls_succ, if_pos h]
    have : cls f i i = [] := by
      unfold cls
      rw [List.filter_eq_nil_iff]
      intro j hj
      have h1 := List.mem_range.1 hj
      have h2 := (hid j (by omega)).2
      simp; omega
    rw [this]; rfl
theorem compsK_get {f : Nat → Nat} {i m : Nat} (h : m < i) (hf : f m = m) : (compsK f i)[placeF f m]? = some (cls f i m) := by
  unfold compsK
  rw [List.getElem?_map, reps_at h hf]; rfl
theorem compsK_len (f : Nat → Nat) (i : Nat) : (compsK f i).length = (reps f i).length := by unfold compsK; rw [List.length_map]
theorem reps_le (f : Nat → Nat) (i : Nat) : (reps f i).length ≤ i := by unfold reps; exact Nat.le_trans (List.length_filter_le _ _) (by simp)
theorem cls_le (f : Nat → Nat) (i m : Nat) : (cls f i m).length ≤ i := by unfold cls; exact Nat.le_trans (List.length_filter_le _ _) (by simp)
def total (ls : List (List Nat)) : Nat := (ls.map List.length).sum
theorem total_set : ∀ (ls : List (List Nat)) (k : Nat) (l : List Nat) (x : Nat), ls[k]? = some l → total (ls.set k (l ++ [x])) = total ls + 1
  | [], k, l, x, h => by simp at h
  | a :: ls, 0, l, x, h => by
    simp at h; subst h
    simp [total]; omega
  | a :: ls, k + 1, l, x, h => by
    have := total_set ls k l x (by simpa using h)
    simp only [total, List.set_cons_succ, List.map_cons, List.sum_cons] at this ⊢
    omega
theorem total_comps {f : Nat → Nat} {n : Nat} (hid : ∀ j, j < n → f (f j) = f j ∧ f j ≤ j) : ∀ i, i ≤ n → total (compsK f i) = i
  | 0, _ => rfl
  | i + 1, hi => by
    have ih := total_comps hid i (by omega)
    have h1 := hid i (by omega)
    by_cases h : f i = i
    · rw [compsK_new (by omega : i < n) hid h]
      simp only [total, List.map_append, List.sum_append] at ih ⊢
      simp; omega
    · rw [compsK_old (by omega : i < n) h1.2 h1.1 h, total_set _ _ _ _ (compsK_get (by omega) h1.1), ih]
end Go.Proofs.YtpdbekgkopglgaaGreat
