/-
  A graph with a right certificate is sparse: no points span more than twice their number minus three edges. No program stands in this text.
-/
import Derived.Test.YtcpkdnhpelkeoaaGreatSpecF
namespace Go.Proofs.YtcpkdnhpelkeoaaGreat
set_option linter.unusedVariables false
set_option linter.unusedSimpArgs false

theorem countP_le_of_at {α β : Type} (p : α → Bool) (q : β → Bool) : ∀ (a : List α) (b : List β), a.length = b.length → (∀ (k : Nat) (x : α) (y : β), a[k]? = some x → b[k]? = some y → p x = true → q y = true) → a.countP p ≤ b.countP q
  | [], [], _, _ => Nat.le_refl _
  | x :: a, y :: b, hl, h => by
    have ih := countP_le_of_at p q a b (by simpa using hl) (fun k x y h1 h2 => h (k + 1) x y (by simpa using h1) (by simpa using h2))
    have h0 := h 0 x y rfl rfl
    rw [List.countP_cons, List.countP_cons]
    cases hp : p x
    · simp; omega
    · rw [h0 hp]; simp; omega
  | [], _ :: _, hl, _ => by simp at hl
  | _ :: _, [], hl, _ => by simp at hl

theorem countP_mem_le (l : List Int) (h : ∀ v, l.count v ≤ 2) : ∀ V : List Int, l.countP (fun x => decide (x ∈ V)) ≤ 2 * V.length
  | [] => by simp
  | v :: V => by
    have ih := countP_mem_le l h V
    have hv := h v
    have : l.countP (fun x => decide (x ∈ v :: V)) ≤ l.count v + l.countP (fun x => decide (x ∈ V)) := by
      clear ih hv h
      have e0 : (fun x => decide (x ∈ v :: V)) = fun x => (decide (x = v) || decide (x ∈ V)) := by funext x; simp
      rw [e0]
      induction l with
      | nil => simp
      | cons a l ih =>
        rw [List.countP_cons, List.countP_cons, List.count_cons]
        by_cases e : a = v
        · rw [decide_eq_true e, if_pos (by simp [e] : (a == v) = true)]
          simp only [Bool.true_or, if_true]
          omega
        · rw [decide_eq_false e, if_neg (by simpa using e : ¬ (a == v) = true)]
          simp only [Bool.false_or]
          omega
    simp only [List.length_cons]; omega

theorem rightB_iff {es : List (Int × Int)} {i : Nat} {l : List Int} : rightB es i l = true ↔ l.length = es.length + 3 ∧ ∀ k, k < l.length → rightAt es i l k = true := by
  unfold rightB
  simp only [Bool.and_eq_true, decide_eq_true_eq, List.all_eq_true, List.mem_range]
theorem right_counts {es : List (Int × Int)} {i : Nat} {l : List Int} (h : rightB es i l = true) (v : Int) : l.count v ≤ 2 := by
  have h1 := cnt_take_le l (fun j hj => by
    have := (rightB_iff.1 h).2 j hj
    unfold rightAt at this
    simp only [Bool.and_eq_true, decide_eq_true_eq] at this
    exact this.2) l.length (Nat.le_refl _) v
  rw [List.take_length] at h1
  unfold cnt at h1
  omega
theorem right_tail {es : List (Int × Int)} {i : Nat} {l : List Int} (h : rightB es i l = true) {k : Nat} (hk : k < l.length) : l.getD k 0 = (edgeOf es i k).1 ∨ l.getD k 0 = (edgeOf es i k).2 := by
  have := (rightB_iff.1 h).2 k hk
  unfold rightAt tailAt at this
  simp only [Bool.and_eq_true, Bool.or_eq_true, decide_eq_true_eq] at this
  exact this.1

theorem getD_of_some {α : Type} {l : List α} {k : Nat} {x d : α} (h : l[k]? = some x) : l.getD k d = x := by rw [List.getD_eq_getElem?_getD, h]; rfl

theorem right_sound {es : List (Int × Int)} {i : Nat} {l : List Int} (hi : i < es.length) (h : rightB es i l = true) (V : List Int) (he : inB V (es.getD i (0, 0)) = true) : spanI es V + 3 ≤ 2 * (V.length : Int) := by
  have hl := (rightB_iff.1 h).1
  have h1 := countP_mem_le l (right_counts h) V
  have h2 : es.countP (inB V) ≤ (l.take es.length).countP (fun x => decide (x ∈ V)) := by
    apply countP_le_of_at
    · simp; omega
    · intro k e x hk hx hp
      have hke : k < es.length := by
        rcases Nat.lt_or_ge k es.length with h' | h'
        · exact h'
        · rw [List.getElem?_eq_none h'] at hk; cases hk
      have hxl : l[k]? = some x := by rw [List.getElem?_take, if_pos hke] at hx; exact hx
      have ht := right_tail h (k := k) (by omega)
      rw [getD_of_some hxl, edgeOf_lt hke, getD_of_some hk] at ht
      unfold inB at hp
      simp only [Bool.and_eq_true, decide_eq_true_eq] at hp ⊢
      rcases ht with ht | ht <;> rw [ht]
      · exact hp.1
      · exact hp.2
  have h3 : (l.drop es.length).countP (fun x => decide (x ∈ V)) = 3 := by
    have : (l.drop es.length).countP (fun x => decide (x ∈ V)) = (l.drop es.length).length := by
      rw [List.countP_eq_length]
      intro x hx
      obtain ⟨k, hk, rfl⟩ := List.getElem_of_mem hx
      simp at hk
      have ht := right_tail h (k := es.length + k) (by omega)
      rw [edgeOf_ge (by omega)] at ht
      have e : l.getD (es.length + k) 0 = (l.drop es.length)[k]'(by simp; omega) := by
        rw [List.getElem_drop, List.getD_eq_getElem?_getD, List.getElem?_eq_getElem (by omega)]; rfl
      rw [e] at ht
      unfold inB at he
      simp only [Bool.and_eq_true, decide_eq_true_eq] at he ⊢
      rcases ht with ht | ht <;> rw [ht]
      · exact he.1
      · exact he.2
    rw [this]; simp; omega
  have h4 : l.countP (fun x => decide (x ∈ V)) = (l.take es.length).countP (fun x => decide (x ∈ V)) + (l.drop es.length).countP (fun x => decide (x ∈ V)) := by
    rw [← List.countP_append, List.take_append_drop]
  unfold spanI
  omega

theorem sparse_sound {N : Int} {es : List (Int × Int)} {ls : List (List Int)} (h : sparseB N es ls = true) (V : List Int) (hV : 2 ≤ V.length) : spanI es V ≤ 2 * (V.length : Int) - 3 := by
  unfold sparseB at h
  simp only [Bool.and_eq_true, decide_eq_true_eq, List.all_eq_true, List.mem_range] at h
  obtain ⟨-, hl, hr⟩ := h
  by_cases h0 : spanI es V = 0
  · omega
  · have : 0 < es.countP (inB V) := by unfold spanI at h0; omega
    rw [List.countP_pos_iff] at this
    obtain ⟨e, he, hin⟩ := this
    obtain ⟨i, hi, rfl⟩ := List.getElem_of_mem he
    have := right_sound hi (hr i (by omega)) V (by rw [List.getD_eq_getElem?_getD, List.getElem?_eq_getElem hi]; exact hin)
    omega
theorem viol_sound {N : Int} {es : List (Int × Int)} {ls : List (List Int)} (h : sparseB N es ls = true) (ps : List Int) : (exOk N es ps && decide (2 * (ps.length : Int) - 3 < spanI es ps)) = false := by
  unfold exOk
  cases hp : ptsB N ps
  · simp
  · have := sparse_sound h ps (ptsB_iff.1 hp).1
    rw [decide_eq_false (by omega)]; simp

/-! ### The points of a set, and how many -/
def cntB (K S : Nat) : Nat := (List.range K).countP fun i => S.testBit i
def ptsOf (S : Nat) : List Int := ((List.range 60).filter fun i => S.testBit i).map fun (i : Nat) => (i : Int)
theorem ptsOf_length (S : Nat) : (ptsOf S).length = cntB 60 S := by
  unfold ptsOf cntB; rw [List.length_map, List.countP_eq_length_filter]
theorem ptsOf_mem {S : Nat} {x : Int} (h0 : 0 ≤ x) (h1 : x < 60) : decide (x ∈ ptsOf S) = S.testBit x.toNat := by
  rw [Bool.eq_iff_iff, decide_eq_true_eq]
  unfold ptsOf
  rw [List.mem_map]
  constructor
  · rintro ⟨i, hi, rfl⟩
    rw [List.mem_filter] at hi
    simpa using hi.2
  · intro h
    refine ⟨x.toNat, ?_, by omega⟩
    rw [List.mem_filter, List.mem_range]
    exact ⟨by omega, h⟩
theorem spanS_pts {es : List (Int × Int)} {S : Nat} (he : ∀ e ∈ es, (0 ≤ e.1 ∧ e.1 < 60) ∧ 0 ≤ e.2 ∧ e.2 < 60) : spanS es S = spanI es (ptsOf S) := by
  unfold spanS spanI
  have : es.countP (bothB S) = es.countP (inB (ptsOf S)) := by
    apply List.countP_congr
    intro e hm
    unfold bothB inB
    rw [ptsOf_mem (he e hm).1.1 (he e hm).1.2, ptsOf_mem (he e hm).2.1 (he e hm).2.2]
  rw [this]
theorem cntB_half (K S : Nat) : cntB (K + 1) S = S % 2 + cntB K (S / 2) := by
  unfold cntB
  rw [List.range_succ_eq_map, List.countP_cons, List.countP_map]
  have e : ((fun i => S.testBit i) ∘ Nat.succ) = fun i => (S / 2).testBit i := by
    funext i; simp [Function.comp, Nat.testBit_succ]
  rw [e, Nat.testBit_zero]
  rcases Nat.mod_two_eq_zero_or_one S with h | h <;> simp [h] <;> omega
theorem cntB_more {K S : Nat} (h : S < 2 ^ K) : cntB (K + 1) S = cntB K S := by
  unfold cntB
  rw [List.range_succ, List.countP_append]
  have : S.testBit K = false := Nat.testBit_lt_two_pow h
  simp [this]
theorem cntB_step {T : Nat} (h : T < 2 ^ 60) : cntB 60 T = T % 2 + cntB 60 (T / 2) := by
  have h1 : cntB 60 T = T % 2 + cntB 59 (T / 2) := cntB_half 59 T
  have h2 : cntB 60 (T / 2) = cntB 59 (T / 2) := cntB_more (K := 59) (by omega)
  omega
theorem cntB_le (K S : Nat) : cntB K S ≤ K := by
  unfold cntB; have := List.countP_le_length (p := fun i => S.testBit i) (l := List.range K); simpa using this
theorem cntB_zero (K : Nat) : cntB K 0 = 0 := by
  unfold cntB; rw [List.countP_eq_zero]; intro i _; simp

def okSet (es : List (Int × Int)) (S : Nat) : Bool := decide (cntB 60 S < 2) || decide (spanS es S ≤ 2 * (cntB 60 S : Int) - 3)
def sparseAll (n : Nat) (es : List (Int × Int)) : Bool := (List.range (2 ^ n)).all (okSet es)
theorem sparseAll_no {n : Nat} {es : List (Int × Int)} {S : Nat} (h : S < 2 ^ n) (h2 : okSet es S = false) : sparseAll n es = false := by
  unfold sparseAll; rw [List.all_eq_false]; exact ⟨S, List.mem_range.2 h, by simp [h2]⟩
theorem sparseAll_iff {n : Nat} {es : List (Int × Int)} : sparseAll n es = true ↔ ∀ S, S < 2 ^ n → okSet es S = true := by
  unfold sparseAll; simp only [List.all_eq_true, List.mem_range]
theorem okSet_zero (es : List (Int × Int)) : okSet es 0 = true := by unfold okSet; rw [cntB_zero]; rfl
theorem sparse_all_sound {N : Int} {n : Nat} {es : List (Int × Int)} {ls : List (List Int)} (h : sparseB N es ls = true) : sparseAll n es = true := by
  have hv : validB N es = true := by unfold sparseB at h; simp only [Bool.and_eq_true] at h; exact h.1
  have hN := ((validB_iff N es).1 hv).2.1
  rw [sparseAll_iff]
  intro S _
  unfold okSet
  by_cases h2 : cntB 60 S < 2
  · simp [h2]
  · have := sparse_sound h (ptsOf S) (by rw [ptsOf_length]; omega)
    rw [ptsOf_length, ← spanS_pts (fun e he => by have := ends_mem hv e he; omega)] at this
    rw [decide_eq_true this]; simp
end Go.Proofs.YtcpkdnhpelkeoaaGreat
