/-
  Independence, the graph functions up to Henneberg: joined texts.
-/
import Derived.Test.YtcpkdnhpelkeoaaGreatMp
import Derived.Test.YtcpkdnhpelkeoaaGreatG9
import Derived.Deep.RegionHeld3
import Derived.Test.YtcpkdnhpelkeoaaGreatSpecA
import Derived.Deep.RegionHeld3
namespace Go.Proofs.YtcpkdnhpelkeoaaGreat
set_option linter.unusedVariables false
set_option linter.unusedSimpArgs false
open Go.RowKit Go.Sort

def IntsPost (w : World) (l : List Int) (e : Ending) (w' : World) : Prop := Below w.heap.size w w' ∧ ∃ B c, e = .returned (.slice B l.length c) ∧ Own w' w.heap.size 3 1 B l.length c (ints l)
def indE' (N : Int) (es : List (Int × Int)) : List Int := if validB N es = true then idxL es else []
def freeE (N : Int) (es : List (Int × Int)) : Int := if validB N es = true then 2 * N - ((rankE es : Nat) : Int) else 0
def rigidE (N : Int) (es : List (Int × Int)) : Bool := validB N es && (decide (N ≤ 1) || decide (freeE N es = 3))
theorem indE'_len {N : Int} {es : List (Int × Int)} (h : validB N es = true) : (indE' N es).length = rankE es := by unfold indE'; rw [if_pos h]; exact idxL_len es
theorem rank_le (es : List (Int × Int)) : rankE es ≤ es.length := by
  unfold rankE
  have := (grd_len es []).1
  simpa using this
theorem ok_of_valid {n : Nat} {es : List (Int × Int)} (h : validB n es = true) : ∀ e ∈ es, OkE n e := fun e he => by
  have := ends_mem h e he
  exact ⟨by omega, by omega, by omega, by omega, by omega⟩
theorem nat_of_valid {N : Int} {es : List (Int × Int)} (h : validB N es = true) : ∃ n : Nat, N = n ∧ n ≤ 60 := by
  have := (validB_iff N es).1 h
  exact ⟨N.toNat, by omega, by omega⟩
set_option maxHeartbeats 4000000 in
theorem pind_any (N : Int) (A : Option Addr) (m c : Nat) (es : List (Int × Int)) (w : World) (hm : m ≤ 100000) (he : Rd w 2 A m (prs es)) :
    Calls Tryz.prog 72 #[.agg #[.int .i64 N, .slice A m c]] w (IntsPost w (indE' N es)) := by
  have H1 := Lib.hid (he.keep (Keeps.alloc w (.cells #[.int .i64 N, .slice A m c] 31)))
  have S1 := Lib.hid ((Below.refl w.heap.size w).alloc (Nat.le_refl _) (.cells #[.int .i64 N, .slice A m c] 31))
  clear he
  cases hv : validB N es
  · have HV := Lib.hid hv
    have hi : indE' N es = [] := by unfold indE'; rw [hv]; rfl
    rw [hi]
    clear hv hi
    go_enter Tryz.func72, Tryz.ntmps72
    go_wp2_with (go_at_call 23; refine (gvalid_b (b := false) N _ m c es _ (by omega) H1.out HV.out).mono ?_; rintro e w1 ⟨rfl, hb1⟩)
    go_ret
    exact ⟨S1.out.trans (hb1.mono (by simp)), none, 0, rfl, Own.nil _ _ _ _⟩
  · have HV := Lib.hid hv
    have hi : indE' N es = idxL es := by unfold indE'; rw [hv]; rfl
    rw [hi]
    obtain ⟨n, rfl, hn⟩ := nat_of_valid hv
    have HOK := Lib.hid (ok_of_valid hv)
    clear hv hi
    go_enter Tryz.func72, Tryz.ntmps72
    go_wp2_with (first
      | (go_at_call 23; refine (gvalid_b (b := true) n _ m c es _ (by omega) H1.out HV.out).mono ?_; rintro e w1 ⟨rfl, hb1⟩; have S2 := Lib.hid (S1.out.trans (hb1.mono (by simp))); have R1 := Lib.hid (H1.out.keep (Keeps.of_below hb1 (Nat.le_refl _))); have p0 : w1.cell? ⟨w.heap.size, 0, none⟩ = some (.int .i64 n) := (by rw [hb1.cell (by simp)]; simp); have p1 : w1.cell? ⟨w.heap.size, 1, none⟩ = some (.slice A m c) := (by rw [hb1.cell (by simp)]; simp); clear hb1)
      | (go_at_call 90; refine (play_any n A m c es _ hn (by omega) R1.out HOK.out).mono ?_; rintro e w2 ⟨B, cB, pt, rfl, ho2, hb2⟩; have S3 := Lib.hid (S2.out.trans (hb2.mono S2.out.size)); have O2 := Lib.hid (ho2.base_le S2.out.size); clear ho2 hb2)
      | fail)
    go_ret
    exact ⟨S3.out, B, cB, rfl, O2.out⟩

end Go.Proofs.YtcpkdnhpelkeoaaGreat

namespace Go.Proofs.YtcpkdnhpelkeoaaGreat
set_option linter.unusedVariables false
set_option linter.unusedSimpArgs false

def NL (l : List Nat) : List Int := l.map fun (k : Nat) => (k : Int)
def NA (l : List Nat) (i : Nat) : Nat := l.getD i 0
theorem NL_len (l : List Nat) : (NL l).length = l.length := by simp [NL]
theorem NL_at {l : List Nat} {i : Nat} (h : i < l.length) : (NL l).getD i 0 = (NA l i : Nat) := by
  unfold NL NA
  rw [List.getD_eq_getElem?_getD, List.getElem?_map, List.getElem?_eq_getElem h, List.getD_eq_getElem?_getD, List.getElem?_eq_getElem h]; rfl
theorem NL_set (l : List Nat) (i v : Nat) : NL (l.set i v) = (NL l).set i (v : Int) := by unfold NL; rw [List.map_set]
theorem NL_app (a b : List Nat) : NL (a ++ b) = NL a ++ NL b := by simp [NL]
theorem NA_set_same {l : List Nat} {i v : Nat} (h : i < l.length) : NA (l.set i v) i = v := by
  unfold NA; rw [List.getD_eq_getElem?_getD, List.getElem?_set_self h]; rfl
theorem NA_set_ne {l : List Nat} {i j v : Nat} (h : i ≠ j) : NA (l.set i v) j = NA l j := by
  unfold NA; rw [List.getD_eq_getElem?_getD, List.getElem?_set_ne h, List.getD_eq_getElem?_getD]

def Adj (es : List (Int × Int)) (a b : Nat) : Prop := ((a : Int), (b : Int)) ∈ es ∨ ((b : Int), (a : Int)) ∈ es
theorem Adj.symm {es : List (Int × Int)} {a b : Nat} (h : Adj es a b) : Adj es b a := h.elim .inr .inl
inductive Conn (es : List (Int × Int)) (a : Nat) : Nat → Prop
  | refl : Conn es a a
  | step {b c : Nat} : Conn es a b → Adj es b c → Conn es a c
theorem Conn.trans {es : List (Int × Int)} {a b c : Nat} (h : Conn es a b) (k : Conn es b c) : Conn es a c := by
  induction k with
  | refl => exact h
  | step _ e ih => exact ih.step e
theorem Conn.symm {es : List (Int × Int)} {a b : Nat} (h : Conn es a b) : Conn es b a := by
  induction h with
  | refl => exact .refl
  | step _ e ih => exact (Conn.refl.step e.symm).trans ih
theorem Conn.adj {es : List (Int × Int)} {a b : Nat} (h : Adj es a b) : Conn es a b := Conn.refl.step h

def EndsOk (n : Nat) (es : List (Int × Int)) : Prop := ∀ e ∈ es, 0 ≤ e.1 ∧ e.1 < e.2 ∧ e.2 < n
theorem EndsOk.adj {n : Nat} {es : List (Int × Int)} (h : EndsOk n es) {a b : Nat} (k : Adj es a b) : a < n ∧ b < n := by
  rcases k with k | k <;> have := h _ k <;> simp at this <;> omega
theorem EndsOk.conn {n : Nat} {es : List (Int × Int)} (h : EndsOk n es) {a b : Nat} (k : Conn es a b) (ha : a < n) : b < n := by
  cases k with
  | refl => exact ha
  | step _ e => exact (h.adj e).2

structure GoodF (n : Nat) (es : List (Int × Int)) (f : Nat → Nat) : Prop where
  le : ∀ i, i < n → f i ≤ i
  conn : ∀ i, i < n → Conn es i (f i)
  edge : ∀ a b, Adj es a b → f a = f b
theorem GoodF.const {n : Nat} {es : List (Int × Int)} {f : Nat → Nat} (h : GoodF n es f) {a b : Nat} (k : Conn es a b) : f a = f b := by
  induction k with
  | refl => rfl
  | step _ e ih => rw [ih]; exact h.edge _ _ e
theorem GoodF.uniq {n : Nat} {es : List (Int × Int)} {f g : Nat → Nat} (hf : GoodF n es f) (hg : GoodF n es g) {i : Nat} (hi : i < n) : f i = g i := by
  have h1 : f i < n := Nat.lt_of_le_of_lt (hf.le i hi) hi
  have h2 : g i < n := Nat.lt_of_le_of_lt (hg.le i hi) hi
  have e1 : g i = g (f i) := hg.const (hf.conn i hi)
  have e2 : f i = f (g i) := hf.const (hg.conn i hi)
  have l1 := hg.le (f i) h1
  have l2 := hf.le (g i) h2
  omega
theorem GoodF.idem {n : Nat} {es : List (Int × Int)} {f : Nat → Nat} (hf : GoodF n es f) {i : Nat} (hi : i < n) : f (f i) = f i := (hf.const (hf.conn i hi)).symm

/-! ### The marks -/
structure MInv (n : Nat) (es : List (Int × Int)) (mk : List Nat) : Prop where
  len : mk.length = n
  le : ∀ i, i < n → NA mk i ≤ i
  conn : ∀ i, i < n → Conn es i (NA mk i)
def mstep (mk : List Nat) (a b : Nat) : List Nat := if NA mk b < NA mk a then mk.set a (NA mk b) else mk.set b (NA mk a)
theorem MInv.start {n : Nat} {es : List (Int × Int)} : MInv n es (List.range n) := by
  have e : ∀ i, i < n → NA (List.range n) i = i := fun i hi => by
    unfold NA; rw [List.getD_eq_getElem?_getD, List.getElem?_eq_getElem (by simpa using hi)]; simp
  exact ⟨by simp, fun i hi => by rw [e i hi]; exact Nat.le_refl _, fun i hi => by rw [e i hi]; exact .refl⟩
theorem mstep_at {mk : List Nat} {a b : Nat} (ha : a < mk.length) (hb : b < mk.length) (i : Nat) :
    NA (mstep mk a b) i = if i = a ∧ NA mk b < NA mk a then NA mk b else if i = b ∧ ¬ NA mk b < NA mk a then NA mk a else NA mk i := by
  unfold mstep
  by_cases h : NA mk b < NA mk a
  · rw [if_pos h]
    by_cases e : i = a
    · subst e; rw [NA_set_same ha, if_pos ⟨rfl, h⟩]
    · rw [NA_set_ne (Ne.symm e), if_neg (fun h' => e h'.1), if_neg (fun h' => h'.2 h)]
  · rw [if_neg h]
    by_cases e : i = b
    · subst e; rw [NA_set_same hb, if_neg (fun h' => h h'.2), if_pos ⟨rfl, h⟩]
    · rw [NA_set_ne (Ne.symm e), if_neg (fun h' => h h'.2), if_neg (fun h' => e h'.1)]
theorem mstep_len (mk : List Nat) (a b : Nat) : (mstep mk a b).length = mk.length := by unfold mstep; split <;> simp
theorem mstep_mono {mk : List Nat} {a b : Nat} (ha : a < mk.length) (hb : b < mk.length) (i : Nat) : NA (mstep mk a b) i ≤ NA mk i := by
  rw [mstep_at ha hb]
  split
  · rename_i h; rw [h.1]; omega
  · split
    · rename_i h; rw [h.1]; omega
    · exact Nat.le_refl _
theorem MInv.step {n : Nat} {es : List (Int × Int)} {mk : List Nat} (h : MInv n es mk) {a b : Nat} (hab : Adj es a b) (ha : a < n) (hb : b < n) : MInv n es (mstep mk a b) := by
  have hl := h.len
  refine ⟨by rw [mstep_len, hl], fun i hi => Nat.le_trans (mstep_mono (by omega) (by omega) i) (h.le i hi), fun i hi => ?_⟩
  rw [mstep_at (by omega) (by omega)]
  split
  · rename_i h'; rw [h'.1]; exact (Conn.adj hab).trans (h.conn b hb)
  · split
    · rename_i h'; rw [h'.1]; exact (Conn.adj hab.symm).trans (h.conn a ha)
    · exact h.conn i hi

theorem least {P : Nat → Prop} : ∀ (k : Nat), P k → ∃ j, P j ∧ ∀ i, P i → j ≤ i := by
  intro k
  induction k using Nat.strongRecOn with
  | _ k ih =>
    intro hk
    by_cases h : ∃ j, j < k ∧ P j
    · obtain ⟨j, hj, hp⟩ := h; exact ih j hj hp
    · exact ⟨k, hk, fun i hi => Nat.le_of_not_lt fun h' => h ⟨i, h', hi⟩⟩
theorem rep_ex (es : List (Int × Int)) (i : Nat) : ∃ j, Conn es i j ∧ ∀ k, Conn es i k → j ≤ k := least i .refl
noncomputable def rep (es : List (Int × Int)) (i : Nat) : Nat := (rep_ex es i).choose
theorem rep_conn (es : List (Int × Int)) (i : Nat) : Conn es i (rep es i) := (rep_ex es i).choose_spec.1
theorem rep_le {es : List (Int × Int)} {i k : Nat} (h : Conn es i k) : rep es i ≤ k := (rep_ex es i).choose_spec.2 k h
theorem rep_eq {es : List (Int × Int)} {i k : Nat} (h : Conn es i k) : rep es i = rep es k := by
  have h1 : rep es i ≤ rep es k := rep_le (h.trans (rep_conn es k))
  have h2 : rep es k ≤ rep es i := rep_le (h.symm.trans (rep_conn es i))
  omega
def Corr (es : List (Int × Int)) (mk : List Nat) (i : Nat) : Prop := NA mk i = rep es i
theorem MInv.ge {n : Nat} {es : List (Int × Int)} {mk : List Nat} (h : MInv n es mk) {i : Nat} (hi : i < n) : rep es i ≤ NA mk i := rep_le (h.conn i hi)
theorem MInv.keepCorr {n : Nat} {es : List (Int × Int)} {mk : List Nat} (h : MInv n es mk) {a b : Nat} (hab : Adj es a b) (ha : a < n) (hb : b < n) {i : Nat} (hi : i < n) (hc : Corr es mk i) : Corr es (mstep mk a b) i := by
  have hl := h.len
  have h1 := mstep_mono (mk := mk) (a := a) (b := b) (by omega) (by omega) i
  have h2 := (h.step hab ha hb).ge hi
  unfold Corr at *
  omega
theorem MInv.gainCorr {n : Nat} {es : List (Int × Int)} {mk : List Nat} (h : MInv n es mk) {a b : Nat} (hab : Adj es a b) (ha : a < n) (hb : b < n) (hc : Corr es mk a ∨ Corr es mk b) : Corr es (mstep mk a b) a ∧ Corr es (mstep mk a b) b := by
  have hl := h.len
  have e := rep_eq (Conn.adj hab)
  have g1 := h.ge ha
  have g2 := h.ge hb
  have s1 := mstep_at (mk := mk) (a := a) (b := b) (by omega) (by omega) a
  have s2 := mstep_at (mk := mk) (a := a) (b := b) (by omega) (by omega) b
  unfold Corr at *
  by_cases hlt : NA mk b < NA mk a
  · rw [if_pos ⟨rfl, hlt⟩] at s1
    by_cases hba : b = a
    · subst hba; omega
    · rw [if_neg (fun h' => hba h'.1), if_neg (fun h' => h'.2 hlt)] at s2
      omega
  · rw [if_neg (fun h' => hlt h'.2)] at s1
    rw [if_neg (fun h' => hlt h'.2), if_pos ⟨rfl, hlt⟩] at s2
    split at s1
    · rename_i h'; omega
    · omega

def eN (e : Int × Int) : Nat × Nat := (e.1.toNat, e.2.toNat)
def mrun (l : List (Int × Int)) (mk : List Nat) : List Nat := l.foldl (fun m e => mstep m e.1.toNat e.2.toNat) mk
theorem mrun_snoc (l : List (Int × Int)) (e : Int × Int) (mk : List Nat) : mrun (l ++ [e]) mk = mstep (mrun l mk) e.1.toNat e.2.toNat := by unfold mrun; rw [List.foldl_append]; rfl
theorem EndsOk.mem {n : Nat} {es : List (Int × Int)} (h : EndsOk n es) {e : Int × Int} (he : e ∈ es) : Adj es e.1.toNat e.2.toNat ∧ e.1.toNat < n ∧ e.2.toNat < n := by
  have := h e he
  refine ⟨.inl ?_, by omega, by omega⟩
  rw [Int.toNat_of_nonneg (by omega), Int.toNat_of_nonneg (by omega)]; exact he
theorem mrun_inv {n : Nat} {es : List (Int × Int)} (h : EndsOk n es) : ∀ (l : List (Int × Int)) (mk : List Nat), (∀ e ∈ l, e ∈ es) → MInv n es mk →
    MInv n es (mrun l mk) ∧ (∀ i, i < n → Corr es mk i → Corr es (mrun l mk) i) ∧ (∀ e ∈ l, Corr es mk e.1.toNat ∨ Corr es mk e.2.toNat → Corr es (mrun l mk) e.1.toNat ∧ Corr es (mrun l mk) e.2.toNat)
  | [], mk, _, hm => ⟨hm, fun _ _ h => h, fun e he => by simp at he⟩
  | e :: l, mk, hl, hm => by
    obtain ⟨ha, h1, h2⟩ := h.mem (hl e (by simp))
    have hs := hm.step ha h1 h2
    obtain ⟨i1, i2, i3⟩ := mrun_inv h l (mstep mk e.1.toNat e.2.toNat) (fun e' he' => hl e' (by simp [he'])) hs
    refine ⟨i1, fun i hi hc => i2 i hi (hm.keepCorr ha h1 h2 hi hc), fun e' he' hc => ?_⟩
    rcases List.mem_cons.1 he' with rfl | he''
    · have := hm.gainCorr ha h1 h2 hc
      exact ⟨i2 _ h1 this.1, i2 _ h2 this.2⟩
    · obtain ⟨-, h3, h4⟩ := h.mem (hl e' (by simp [he'']))
      exact i3 e' he'' (hc.imp (fun c => hm.keepCorr ha h1 h2 h3 c) (fun c => hm.keepCorr ha h1 h2 h4 c))
def mrounds (es : List (Int × Int)) : Nat → List Nat → List Nat
  | 0, mk => mk
  | r + 1, mk => mrun es (mrounds es r mk)
theorem countP_lt {α : Type} (p q : α → Bool) : ∀ (l : List α), (∀ x ∈ l, p x = true → q x = true) → (∃ x ∈ l, q x = true ∧ p x = false) → l.countP p < l.countP q
  | [], _, h => by obtain ⟨x, hx, _⟩ := h; simp at hx
  | a :: l, h1, h2 => by
    have hle : l.countP p ≤ l.countP q := List.countP_mono_left (fun x hx => h1 x (by simp [hx]))
    rw [List.countP_cons, List.countP_cons]
    obtain ⟨x, hx, hq, hp⟩ := h2
    rcases List.mem_cons.1 hx with rfl | hx'
    · rw [hq, hp]; simp; omega
    · have ih := countP_lt p q l (fun x hx => h1 x (by simp [hx])) ⟨x, hx', hq, hp⟩
      have := h1 a (by simp)
      cases hpa : p a
      · simp; split <;> omega
      · rw [this hpa]; simp; omega
theorem boundary {n : Nat} {es : List (Int × Int)} {mk : List Nat} (h : EndsOk n es) (hm : MInv n es mk) {i : Nat} (hi : i < n) (hc : ¬ Corr es mk i) : ∃ a b, Adj es a b ∧ ¬ Corr es mk a ∧ Corr es mk b := by
  have hr : Corr es mk (rep es i) := by
    have h1 := h.conn (rep_conn es i) hi
    have h2 := hm.le _ h1
    have h3 := hm.ge h1
    have h4 := rep_eq (rep_conn es i)
    unfold Corr; omega
  have : ∀ {j}, Conn es i j → Corr es mk j → ∃ a b, Adj es a b ∧ ¬ Corr es mk a ∧ Corr es mk b := by
    intro j hj
    induction hj with
    | refl => intro h'; exact absurd h' hc
    | @step b c hb e ih =>
      intro hcc
      by_cases hbc : Corr es mk b
      · exact ih hbc
      · exact ⟨b, c, e, hbc, hcc⟩
  exact this (rep_conn es i) hr
theorem mrounds_inv {n : Nat} {es : List (Int × Int)} (h : EndsOk n es) : ∀ r, MInv n es (mrounds es r (List.range n)) ∧ ((∀ i, i < n → Corr es (mrounds es r (List.range n)) i) ∨ ∃ q : Nat → Bool, (∀ i, q i = true → Corr es (mrounds es r (List.range n)) i) ∧ r ≤ (List.range n).countP q)
  | 0 => ⟨MInv.start, .inr ⟨fun _ => false, fun i h => by simp at h, Nat.zero_le _⟩⟩
  | r + 1 => by
    obtain ⟨h1, h2⟩ := mrounds_inv h r
    obtain ⟨i1, i2, i3⟩ := mrun_inv h es (mrounds es r (List.range n)) (fun e he => he) h1
    refine ⟨i1, ?_⟩
    by_cases hall : ∀ i, i < n → Corr es (mrounds es r (List.range n)) i
    · exact .inl fun i hi => i2 i hi (hall i hi)
    · rcases h2 with h2 | ⟨q, hq1, hq2⟩
      · exact absurd h2 hall
      · obtain ⟨i, hi, hc⟩ : ∃ i, i < n ∧ ¬ Corr es (mrounds es r (List.range n)) i := by
          by_cases h' : ∃ i, i < n ∧ ¬ Corr es (mrounds es r (List.range n)) i
          · exact h'
          · exact absurd (fun i hi => Classical.not_not.1 (fun hc => h' ⟨i, hi, hc⟩)) hall
        obtain ⟨a, b, hab, hna, hcb⟩ := boundary h h1 hi hc
        have hlt := h.adj hab
        have hgain : Corr es (mrounds es (r + 1) (List.range n)) a := by
          rcases hab with hab | hab
          · have := (i3 _ hab (by simp only [Int.toNat_natCast]; exact .inr hcb)).1
            simpa [mrounds] using this
          · have := (i3 _ hab (by simp only [Int.toNat_natCast]; exact .inl hcb)).2
            simpa [mrounds] using this
        refine .inr ⟨fun i => (q i && decide (i < n)) || decide (i = a), fun i hi' => ?_, ?_⟩
        · simp only [Bool.or_eq_true, Bool.and_eq_true, decide_eq_true_eq] at hi'
          rcases hi' with ⟨h3, h4⟩ | rfl
          · exact i2 i h4 (hq1 i h3)
          · exact hgain
        · refine Nat.lt_of_le_of_lt hq2 (countP_lt q _ _ (fun x hx hqx => ?_) ⟨a, List.mem_range.2 hlt.1, by simp, ?_⟩)
          · have := List.mem_range.1 hx; simp [hqx, this]
          · cases hqa : q a
            · rfl
            · exact absurd (hq1 a hqa) hna
theorem marks_good {n : Nat} {es : List (Int × Int)} (h : EndsOk n es) : GoodF n es (fun i => NA (mrounds es n (List.range n)) i) := by
  obtain ⟨h1, h2⟩ := mrounds_inv h n
  have hall : ∀ i, i < n → Corr es (mrounds es n (List.range n)) i := by
    rcases h2 with h2 | ⟨q, hq1, hq2⟩
    · exact h2
    · intro i hi
      have : (List.range n).countP q = (List.range n).length := by
        have := List.countP_le_length (p := q) (l := List.range n)
        simp at this ⊢; omega
      rw [List.countP_eq_length] at this
      exact hq1 i (this i (List.mem_range.2 hi))
  refine ⟨h1.le, h1.conn, fun a b hab => ?_⟩
  have hlt := h.adj hab
  show NA _ a = NA _ b
  have ha := hall a hlt.1
  have hb := hall b hlt.2
  unfold Corr at ha hb
  rw [ha, hb, rep_eq (Conn.adj hab)]
end Go.Proofs.YtcpkdnhpelkeoaaGreat

namespace Go.Proofs.YtcpkdnhpelkeoaaGreat
set_option linter.unusedVariables false
set_option linter.unusedSimpArgs false
open Go.RowKit Go.Sort

def isE (a b : Int) (e : Int × Int) : Bool := e.1 == (edgeI (a, b)).1 && e.2 == (edgeI (a, b)).2
def ClosAt (w : World) (base : Nat) (a b : Int) (p q : Addr) : Prop := p.block < base ∧ q.block < base ∧ w.cell? p = some (.int .i64 a) ∧ w.cell? q = some (.int .i64 b)
theorem ClosAt.later {w w' : World} {base : Nat} {a b : Int} {p q : Addr} (h : ClosAt w base a b p q) (hb : Below base w w') : ClosAt w' base a b p q :=
  ⟨h.1, h.2.1, by rw [hb.cell h.1]; exact h.2.2.1, by rw [hb.cell h.2.1]; exact h.2.2.2⟩
theorem getD_PAt (l : List (Int × Int)) (k : Nat) : l.getD k (0, 0) = PAt l k := rfl

def delL (a b : Int) (l : List (Int × Int)) : List (Int × Int) := l.filter fun e => !isE a b e
def DelInv (a b : Int) (l m : List (Int × Int)) (K i : Nat) : Prop := i = (delL a b (l.take K)).length ∧ i < K ∧ K ≤ l.length ∧ m.length = l.length ∧ m.take i = delL a b (l.take K) ∧ ∀ j, K ≤ j → PAt m j = PAt l j
theorem delL_step {a b : Int} {l : List (Int × Int)} {k : Nat} (hk : k < l.length) : delL a b (l.take (k + 1)) = delL a b (l.take k) ++ if isE a b (PAt l k) = true then [] else [PAt l k] := by
  unfold delL
  rw [take_at hk, List.filter_append]
  congr 1
  simp only [List.filter_cons, List.filter_nil]
  cases isE a b (PAt l k) <;> rfl
theorem delL_all {a b : Int} {l : List (Int × Int)} : ∀ k, k ≤ l.length → (∀ j, j < k → isE a b (PAt l j) = false) → delL a b (l.take k) = l.take k
  | 0, _, _ => by simp [delL]
  | k + 1, hk, h => by rw [delL_step (by omega), delL_all k (by omega) (fun j hj => h j (by omega)), h k (by omega), if_neg (by simp), take_at (by omega)]
theorem DelInv.start {a b : Int} {l : List (Int × Int)} {k : Nat} (hk : k < l.length) (h : ∀ j, j < k → isE a b (PAt l j) = false) (hp : isE a b (PAt l k) = true) : DelInv a b l l (k + 1) k := by
  have e1 : delL a b (l.take (k + 1)) = l.take k := by rw [delL_step hk, hp, if_pos rfl, List.append_nil, delL_all k (by omega) h]
  exact ⟨by rw [e1, List.length_take]; omega, by omega, by omega, rfl, e1.symm, fun _ _ => rfl⟩
theorem DelInv.skip {a b : Int} {l m : List (Int × Int)} {K i : Nat} (h : DelInv a b l m K i) (hK : K < l.length) (hp : isE a b (PAt l K) = true) : DelInv a b l m (K + 1) i := by
  obtain ⟨h1, h2, h3, h4, h5, h6⟩ := h
  have e1 : delL a b (l.take (K + 1)) = delL a b (l.take K) := by rw [delL_step hK, hp, if_pos rfl, List.append_nil]
  exact ⟨by rw [e1]; exact h1, by omega, by omega, h4, by rw [e1]; exact h5, fun j hj => h6 j (by omega)⟩
theorem DelInv.keep {a b : Int} {l m : List (Int × Int)} {K i : Nat} (h : DelInv a b l m K i) (hK : K < l.length) (hp : isE a b (PAt l K) = false) : DelInv a b l (m.set i (PAt l K)) (K + 1) (i + 1) := by
  obtain ⟨h1, h2, h3, h4, h5, h6⟩ := h
  have e1 : delL a b (l.take (K + 1)) = delL a b (l.take K) ++ [PAt l K] := by rw [delL_step hK, hp, if_neg (by simp)]
  refine ⟨by rw [e1, List.length_append, ← h1]; rfl, by omega, by omega, by simpa using h4, ?_, fun j hj => ?_⟩
  · rw [e1, List.take_succ_eq_append_getElem (by simp; omega), List.take_set_of_le (Nat.le_refl _), h5]
    simp
  · have := h6 j (by omega)
    unfold PAt at this ⊢
    rw [← this, List.getD_eq_getElem?_getD, List.getElem?_set_ne (by omega), List.getD_eq_getElem?_getD]

def DelPost (w : World) (base : Nat) (A : Option Addr) (c : Nat) (a b : Int) (l : List (Int × Int)) (e : Ending) (w' : World) : Prop :=
  e = .returned (.slice A (delL a b l).length c) ∧ Own w' base 28 2 A (delL a b l).length c (prs (delL a b l)) ∧ w.grownBy w' (blk A)
end Go.Proofs.YtcpkdnhpelkeoaaGreat

namespace Go.Proofs.YtcpkdnhpelkeoaaGreat
set_option linter.unusedVariables false
set_option linter.unusedSimpArgs false
open Go.RowKit Go.Sort
attribute [local go_sem ↓] Go.wp_at_zero Go.wp_at_succ

def keepH (a b s : Int) (e : Int × Int) : Bool := decide (s < 0) || !pairsB [(a, b)] e.1 e.2
/-- The edges of the graph with a further point. -/
def hennL (N : Int) (es : List (Int × Int)) (a b s : Int) : List (Int × Int) := ([(a, N), (b, N)] ++ if 0 ≤ s then [(s, N)] else []) ++ es.filter (keepH a b s)
def hennBad1 (N : Int) (es : List (Int × Int)) (a b : Int) : Bool := !validB N es || !hasB N a || !hasB N b || a == b
def hennBad2 (N : Int) (es : List (Int × Int)) (a b s : Int) : Bool := decide (0 ≤ s) && (!hasB N s || s == a || s == b || !hasE N es a b)
def hennE (N : Int) (es : List (Int × Int)) (a b s : Int) : Int × List (Int × Int) :=
  if hennBad1 N es a b = true then (1, []) else if hennBad2 N es a b s = true then (1, []) else if N = 60 then (3, []) else (0, mkL (N + 1).toNat (hennL N es a b s))
def HPost (w : World) (N : Int) (r : Int × List (Int × Int)) (e : Ending) (w' : World) : Prop :=
  Below w.heap.size w w' ∧ ((r.1 ≠ 0 ∧ r.2 = [] ∧ e = .returned (.tuple #[.agg #[.int .i64 0, .slice none 0 0], .int .i64 r.1])) ∨
    (r.1 = 0 ∧ ∃ B c, e = .returned (.tuple #[.agg #[.int .i64 (N + 1), .slice B r.2.length c], .int .i64 0]) ∧ Rd w' 2 B r.2.length (prs r.2)))
theorem henn_bad1 {N : Int} {es : List (Int × Int)} {a b s : Int} (h : hennBad1 N es a b = true) : hennE N es a b s = (1, []) := by unfold hennE; rw [if_pos h]
theorem henn_bad2 {N : Int} {es : List (Int × Int)} {a b s : Int} (h : hennBad2 N es a b s = true) : hennE N es a b s = (1, []) := by
  by_cases h1 : hennBad1 N es a b = true
  · exact henn_bad1 h1
  · unfold hennE; rw [if_neg h1, if_pos h]
theorem henn_60 {N : Int} {es : List (Int × Int)} {a b s : Int} (h1 : hennBad1 N es a b = false) (h2 : hennBad2 N es a b s = false) (h : N = 60) : hennE N es a b s = (3, []) := by
  unfold hennE; rw [if_neg (by rw [h1]; simp), if_neg (by rw [h2]; simp), if_pos h]
theorem henn_ok {N : Int} {es : List (Int × Int)} {a b s : Int} (h1 : hennBad1 N es a b = false) (h2 : hennBad2 N es a b s = false) (h : ¬ N = 60) : hennE N es a b s = (0, mkL (N + 1).toNat (hennL N es a b s)) := by
  unfold hennE; rw [if_neg (by rw [h1]; simp), if_neg (by rw [h2]; simp), if_neg h]
/-- What the two blocks at the head of Henneberg hold in any later world. -/
def HF (w : World) (N : Int) (A : Option Addr) (n c : Nat) (w1 : World) : Prop :=
  Below (w.heap.size + 2) ((w.alloc (.cells #[.int .i64 N, .slice A n c] 31)).alloc (.cells #[.int .i64 0, .slice none 0 0] 31)) w1
theorem HF.facts {w w1 : World} {N : Int} {A : Option Addr} {n c : Nat} (hb : HF w N A n c w1) :
    w.heap.size + 2 ≤ w1.heap.size ∧ w1.cell? ⟨w.heap.size, 0, none⟩ = some (.int .i64 N) ∧ w1.cell? ⟨w.heap.size, 1, none⟩ = some (.slice A n c) ∧ w1.cell? ⟨w.heap.size + 1, 0, none⟩ = some (.int .i64 0) ∧ w1.cell? ⟨w.heap.size + 1, 1, none⟩ = some (.slice none 0 0) ∧
      w1.frozen? ⟨w.heap.size + 1, 0, none⟩ = false ∧ w1.frozen? ⟨w.heap.size + 1, 1, none⟩ = false := by
  have hs := hb.size
  simp at hs
  refine ⟨by omega, ?_, ?_, ?_, ?_, ?_, ?_⟩
  · rw [hb.cell (by simp)]; simp
  · rw [hb.cell (by simp)]; simp
  · rw [hb.cell (by simp)]; simp
  · rw [hb.cell (by simp)]; simp
  · rw [hb.frozen (by simp)]; simp
  · rw [hb.frozen (by simp)]; simp
theorem HF.start (w : World) (N : Int) (A : Option Addr) (n c : Nat) : HF w N A n c ((w.alloc (.cells #[.int .i64 N, .slice A n c] 31)).alloc (.cells #[.int .i64 0, .slice none 0 0] 31)) := Below.refl _ _
theorem HF.next {w w1 w2 : World} {N : Int} {A : Option Addr} {n c : Nat} (hb : HF w N A n c w1) (h : Below w1.heap.size w1 w2) : HF w N A n c w2 := Below.trans hb (h.mono hb.facts.1)
theorem HF.next2 {w w1 w2 : World} {N : Int} {A : Option Addr} {n c : Nat} (hb : HF w N A n c w1) (h : Below (w.heap.size + 2) w1 w2) : HF w N A n c w2 := Below.trans hb h
theorem HF.below {w w1 : World} {N : Int} {A : Option Addr} {n c : Nat} (hb : HF w N A n c w1) : Below w.heap.size w w1 := (((Below.refl _ _).alloc (Nat.le_refl _) _).alloc (by simp) _).trans (Below.mono hb (by omega))

theorem henn_mk {N : Int} {es : List (Int × Int)} {a b s : Int} (h1 : hennBad1 N es a b = false) (h2 : hennBad2 N es a b s = false) (h : ¬ N = 60) : mkE (N + 1) (hennL N es a b s) = some (mkL (N + 1).toNat (hennL N es a b s)) := by
  unfold hennBad1 at h1
  simp only [Bool.or_eq_false_iff, Bool.not_eq_false'] at h1
  obtain ⟨⟨⟨hv, ha⟩, hb⟩, hab⟩ := h1
  have hN := (validB_iff N es).1 hv
  have hends := ends_of hv
  have ha' : 0 ≤ a ∧ a < N := by unfold hasB at ha; simpa using ha
  have hb' : 0 ≤ b ∧ b < N := by unfold hasB at hb; simpa using hb
  have ok : ∀ x y : Int, 0 ≤ x → 0 ≤ y → x < N + 1 → y < N + 1 → x ≠ y → okP (N + 1) x y = true := fun x y c1 c2 c3 c4 c5 => by unfold okP; simp; omega
  have hall : ∀ e ∈ hennL N es a b s, okP (N + 1) e.1 e.2 = true := by
    intro e he
    unfold hennL at he
    simp only [List.mem_append, List.mem_cons, List.not_mem_nil, or_false] at he
    rcases he with ((rfl | rfl) | he) | he
    · exact ok _ _ (by simp; omega) (by simp; omega) (by simp; omega) (by simp; omega) (by simp; omega)
    · exact ok _ _ (by simp; omega) (by simp; omega) (by simp; omega) (by simp; omega) (by simp; omega)
    · split at he
      · rename_i hs
        simp only [List.mem_singleton] at he
        subst he
        unfold hennBad2 at h2
        rw [decide_eq_true hs, Bool.true_and] at h2
        simp only [Bool.or_eq_false_iff, Bool.not_eq_false'] at h2
        have hs' : 0 ≤ s ∧ s < N := by have := h2.1.1.1; unfold hasB at this; simpa using this
        exact ok _ _ (by simp; omega) (by simp; omega) (by simp; omega) (by simp; omega) (by simp; omega)
      · simp at he
    · have := hends e (List.mem_filter.1 he).1
      exact ok _ _ (by omega) (by omega) (by omega) (by omega) (by omega)
  have : okE (N + 1) (hennL N es a b s) = true := by
    unfold okE
    rw [decide_eq_true (by omega : (0 : Int) ≤ N + 1), decide_eq_true (by omega : N + 1 ≤ 60)]
    simp only [Bool.true_and, List.all_eq_true]
    exact hall
  unfold mkE; rw [this]; rfl
theorem own_list {w : World} {base q c : Nat} {B : Option Addr} {l : List (Int × Int)} (h : Own w base 28 2 B q c (prs l)) : Rd w 2 B q (prs l) := h.rd
theorem keepH_step {es : List (Int × Int)} {a b s : Int} {k : Nat} (hk : k < es.length) {x y : Int} (hxy : es.getD k (0, 0) = (x, y)) : (es.take (k + 1)).filter (keepH a b s) = (es.take k).filter (keepH a b s) ++ if keepH a b s (x, y) = true then [(x, y)] else [] := by
  rw [List.take_succ_eq_append_getElem hk, List.filter_append]
  rw [List.getD_eq_getElem?_getD, List.getElem?_eq_getElem hk] at hxy
  simp only [Option.getD_some] at hxy
  rw [hxy]
  congr 1
  simp only [List.filter_cons, List.filter_nil]
theorem keepH_len (es : List (Int × Int)) (a b s : Int) (k : Nat) : ((es.take k).filter (keepH a b s)).length ≤ k := Nat.le_trans (List.length_filter_le _ _) (List.length_take_le _ _)
theorem not_bad1 {N : Int} {es : List (Int × Int)} {a b : Int} (h1 : hennBad1 N es a b = false) : validB N es = true ∧ hasB N a = true ∧ hasB N b = true ∧ (a == b) = false := by
  unfold hennBad1 at h1
  simp only [Bool.or_eq_false_iff, Bool.not_eq_false'] at h1
  exact ⟨h1.1.1.1, h1.1.1.2, h1.1.2, h1.2⟩
end Go.Proofs.YtcpkdnhpelkeoaaGreat

namespace Go.Proofs.YtcpkdnhpelkeoaaGreat
set_option linter.unusedVariables false
set_option linter.unusedSimpArgs false
open Go.RowKit Go.Sort
attribute [local go_sem ↓] Go.wp_at_zero Go.wp_at_succ

def hS (N a b s : Int) : List (Int × Int) := [(a, N), (b, N)] ++ if 0 ≤ s then [(s, N)] else []
def hK (N : Int) (es : List (Int × Int)) (a b s : Int) (k : Nat) : List (Int × Int) := hS N a b s ++ (es.take k).filter (keepH a b s)
theorem hK_end (N : Int) (es : List (Int × Int)) (a b s : Int) : hK N es a b s es.length = hennL N es a b s := by unfold hK hS hennL; rw [List.take_length]
theorem hK_len (N : Int) (es : List (Int × Int)) (a b s : Int) (k : Nat) : (hK N es a b s k).length ≤ k + 3 := by
  have := keepH_len es a b s k
  unfold hK hS
  rw [List.length_append, List.length_append]
  split <;> simp <;> omega
theorem hK_step {N : Int} {es : List (Int × Int)} {a b s : Int} {k : Nat} (hk : k < es.length) {x y : Int} (hxy : es.getD k (0, 0) = (x, y)) : hK N es a b s (k + 1) = hK N es a b s k ++ if keepH a b s (x, y) = true then [(x, y)] else [] := by
  unfold hK
  rw [keepH_step hk hxy, List.append_assoc]

end Go.Proofs.YtcpkdnhpelkeoaaGreat

namespace Go.Proofs.YtcpkdnhpelkeoaaGreat
set_option linter.unusedVariables false
set_option linter.unusedSimpArgs false
open Go.RowKit Go.Sort
attribute [local go_sem ↓] Go.wp_at_zero Go.wp_at_succ

/-- The blocks at the head of Henneberg: the graph, the two points, the result. -/
def W4 (w : World) (N : Int) (A : Option Addr) (n c : Nat) (a b : Int) : World :=
  (((w.alloc (.cells #[.int .i64 N, .slice A n c] 31)).alloc (.cells #[.int .i64 a] 3)).alloc (.cells #[.int .i64 b] 3)).alloc (.cells #[.int .i64 0, .slice none 0 0] 31)
def GF (w : World) (N : Int) (A : Option Addr) (n c : Nat) (a b : Int) (w1 : World) : Prop := Below (w.heap.size + 4) (W4 w N A n c a b) w1
section
variable {w w1 w2 : World} {N : Int} {A : Option Addr} {n c : Nat} {a b : Int}
theorem frozen_at {w : World} {b : Nat} (hb : w.heap.size = b) (cs : Array Value) (t : TypeId) (j : Nat) : (w.alloc (.cells cs t)).frozen? ⟨b, j, none⟩ = false := by subst hb; simp
theorem GF.facts (hb : GF w N A n c a b w1) :
    w.heap.size + 4 ≤ w1.heap.size ∧ w1.cell? ⟨w.heap.size, 0, none⟩ = some (.int .i64 N) ∧ w1.cell? ⟨w.heap.size, 1, none⟩ = some (.slice A n c) ∧ w1.cell? ⟨w.heap.size + 3, 0, none⟩ = some (.int .i64 0) ∧ w1.cell? ⟨w.heap.size + 3, 1, none⟩ = some (.slice none 0 0) ∧
      w1.frozen? ⟨w.heap.size + 3, 0, none⟩ = false ∧ w1.frozen? ⟨w.heap.size + 3, 1, none⟩ = false ∧ w1.cell? ⟨w.heap.size + 1, 0, none⟩ = some (.int .i64 a) ∧ w1.cell? ⟨w.heap.size + 2, 0, none⟩ = some (.int .i64 b) := by
  have hs := hb.size
  unfold GF at hb
  unfold W4 at hs
  simp at hs
  have kk : ∀ {p : Addr} {v : Value}, p.block < w.heap.size + 4 → (W4 w N A n c a b).cell? p = some v → w1.cell? p = some v := fun hp h => by rw [Below.cell hb hp]; exact h
  have kf : ∀ {p : Addr}, p.block < w.heap.size + 4 → (W4 w N A n c a b).frozen? p = false → w1.frozen? p = false := fun hp h => by rw [Below.frozen hb hp]; exact h
  refine ⟨by omega, kk (by simp) ?_, kk (by simp) ?_, kk (by simp) ?_, kk (by simp) ?_, kf (by simp) ?_, kf (by simp) ?_, kk (by simp) ?_, kk (by simp) ?_⟩
  · exact Keeps.alloc _ _ _ _ (Keeps.alloc _ _ _ _ (Keeps.alloc _ _ _ _ (cell_at rfl _ _ 0 rfl)))
  · exact Keeps.alloc _ _ _ _ (Keeps.alloc _ _ _ _ (Keeps.alloc _ _ _ _ (cell_at rfl _ _ 1 rfl)))
  · exact cell_at (by simp) _ _ 0 rfl
  · exact cell_at (by simp) _ _ 1 rfl
  · exact frozen_at (by simp) _ _ 0
  · exact frozen_at (by simp) _ _ 1
  · exact Keeps.alloc _ _ _ _ (Keeps.alloc _ _ _ _ (cell_at (by simp) _ _ 0 rfl))
  · exact Keeps.alloc _ _ _ _ (cell_at (by simp) _ _ 0 rfl)
theorem GF.start : GF w N A n c a b (W4 w N A n c a b) := Below.refl _ _
theorem GF.next (hb : GF w N A n c a b w1) (h : Below w1.heap.size w1 w2) : GF w N A n c a b w2 := Below.trans hb (h.mono hb.facts.1)
theorem GF.next2 (hb : GF w N A n c a b w1) (h : Below (w.heap.size + 4) w1 w2) : GF w N A n c a b w2 := Below.trans hb h
theorem GF.below (hb : GF w N A n c a b w1) : Below w.heap.size w w1 :=
  (((((Below.refl _ _).alloc (Nat.le_refl _) _).alloc (by simp) _).alloc (by simp; omega) _).alloc (by simp; omega) _).trans (Below.mono hb (by omega))
end

theorem clone_n (A : Option Addr) (n c : Nat) (l : List (Int × Int)) (w : World) (he : Rd w 2 A n (prs l)) (hn : n ≤ 1000000) :
    Calls Tryz.prog 73 #[.slice A n c] w fun e w' => Below w.heap.size w w' ∧ ∃ B d, e = .returned (.slice B n d) ∧ Own w' w.heap.size 28 2 B n d (prs l) := by
  have hl := he.prs_len
  refine (clone_any A n c l w he hn).mono ?_
  rintro e w' ⟨h1, B, d, h2, h3⟩
  rw [hl] at h2 h3
  exact ⟨h1, B, d, h2, h3⟩
theorem hl_eq {N : Int} {es : List (Int × Int)} {a b s : Int} {n : Nat} {L : List (Int × Int)} (h : ∀ x, x ∈ L ↔ x ∈ hennL N es a b s) : mkL n L = mkL n (hennL N es a b s) := by
  refine strict_eq (mkL_strict _ _) (mkL_strict _ _) (fun x => ?_)
  rw [mem_mkL, mem_mkL, pairsB_iff, pairsB_iff, h, h]
theorem mem_neg {N : Int} {es : List (Int × Int)} {a b s : Int} (hs : s < 0) (x : Int × Int) : x ∈ es ++ [(a, N), (b, N)] ↔ x ∈ hennL N es a b s := by
  unfold hennL
  rw [if_neg (by omega)]
  have : es.filter (keepH a b s) = es := by rw [List.filter_eq_self]; intro e _; unfold keepH; rw [decide_eq_true hs]; rfl
  rw [this]
  simp only [List.mem_append, List.mem_cons, List.not_mem_nil, or_false]
  exact or_comm
theorem keep_is {N : Int} {a b s : Int} (hs : 0 ≤ s) {e : Int × Int} (he : e.1 < e.2) : keepH a b s e = !isE a b e := by
  unfold keepH pairsB isE edgeI
  rw [decide_eq_false (by omega), Bool.false_or]
  congr 1
  simp only [List.any_cons, List.any_nil, Bool.or_false]
  rw [Bool.eq_iff_iff]
  simp only [Bool.or_eq_true, Bool.and_eq_true, beq_iff_eq]
  omega
theorem mem_pos {N : Int} {es : List (Int × Int)} {a b s : Int} (hs : 0 ≤ s) (hends : ∀ e ∈ es, 0 ≤ e.1 ∧ e.1 < e.2 ∧ e.2 < N) (haN : a < N) (hbN : b < N) (x : Int × Int) : x ∈ delL a b (es ++ [(a, N), (b, N)]) ++ [(s, N)] ↔ x ∈ hennL N es a b s := by
  have h1 : delL a b (es ++ [(a, N), (b, N)]) = es.filter (keepH a b s) ++ [(a, N), (b, N)] := by
    unfold delL
    rw [List.filter_append]
    congr 1
    · apply List.filter_congr
      intro e he
      rw [keep_is (N := N) hs (hends e he).2.1]
    · rw [List.filter_eq_self]
      intro e he
      simp only [List.mem_cons, List.not_mem_nil, or_false] at he
      rcases he with rfl | rfl <;> (unfold isE edgeI; simp; omega)
  rw [h1]
  unfold hennL
  rw [if_pos hs]
  simp only [List.mem_append, List.mem_cons, List.not_mem_nil, or_false]
  constructor
  · rintro ((h | h) | h)
    · exact .inr h
    · exact .inl (.inl h)
    · exact .inl (.inr h)
  · rintro ((h | h) | h)
    · exact .inl (.inr h)
    · exact .inr h
    · exact .inl (.inl h)
theorem okE_same {N : Int} {L M : List (Int × Int)} (h : ∀ x, x ∈ L ↔ x ∈ M) : okE N L = okE N M := by
  unfold okE
  congr 1
  rw [Bool.eq_iff_iff]
  simp only [List.all_eq_true]
  exact ⟨fun k x hx => k x ((h x).2 hx), fun k x hx => k x ((h x).1 hx)⟩
theorem mkE_same {N : Int} {es L : List (Int × Int)} {a b s : Int} {r : Option (List (Int × Int))} (h : ∀ x, x ∈ L ↔ x ∈ hennL N es a b s) (hr : mkE (N + 1) (hennL N es a b s) = r) : mkE (N + 1) L = r := by
  rw [← hr]; unfold mkE; rw [okE_same h, hl_eq h]

end Go.Proofs.YtcpkdnhpelkeoaaGreat
