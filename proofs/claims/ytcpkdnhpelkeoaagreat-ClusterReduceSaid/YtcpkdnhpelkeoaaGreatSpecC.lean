/-
  Sparse counts all and then takes the greatest count; right looks after each count: the two answer alike. No program stands in this text.
-/
import Derived.Test.YtcpkdnhpelkeoaaGreatSpecB
import Derived.Test.YtcpkdnhpelkeoaaGreatBase
import Derived.Deep.OwnRows
namespace Go.Proofs.YtcpkdnhpelkeoaaGreat
set_option linter.unusedVariables false
set_option linter.unusedSimpArgs false

theorem rd_of_rowIs {w : World} {b : Nat} {t : TypeId} {M : Nat} {f : Nat → Int} (h : w.rowIs b t M (fun v => .int .i64 (f v))) : Rd w 1 (some ⟨b, 0, none⟩) M (ints ((List.range M).map f)) := by
  refine ⟨by simp [ints], fun _ => ⟨_, rfl, fun j u hu => ?_⟩⟩
  have hj : j < M := by
    rcases Nat.lt_or_ge j M with h' | h'
    · exact h'
    · rw [List.getElem?_eq_none (by simp [ints]; exact h')] at hu; cases hu
  have e : (⟨b, 0, none⟩ : Addr).add j = ⟨b, j, none⟩ := by unfold Addr.add; split <;> simp_all
  rw [e, h.cell hj]
  rw [← hu]
  simp [ints, hj]

theorem cnt_take_le (l : List Int) (h : ∀ j, j < l.length → cnt (l.take (j + 1)) (l.getD j 0) ≤ 2) : ∀ k, k ≤ l.length → ∀ v, cnt (l.take k) v ≤ 2 := by
  intro k
  induction k with
  | zero => intro _ v; simp [cnt]
  | succ k ih =>
    intro hk v
    by_cases e : l.getD k 0 = v
    · subst e; exact h k (by omega)
    · rw [cnt_take l k (by omega), if_neg e]
      have := ih (by omega) v
      omega
theorem cnt_zero {l : List Int} {v : Int} (h : v ∉ l) : cnt l v = 0 := by
  unfold cnt
  rw [List.count_eq_zero_of_not_mem h]; rfl

theorem rightB_max {N : Int} {M : Nat} {es : List (Int × Int)} {i : Nat} {l : List Int} {mx : Int} (hN : N = M) (hv : validB N es = true) (hi : i < es.length) (hl : l.length = es.length + 3) (ht : ∀ j, j < l.length → tailAt es i l j = true)
    (hm : IsMax ((List.range M).map fun v : Nat => cnt l v) mx) : rightB es i l = decide (mx ≤ 2) := by
  have hin : ∀ x, x ∈ l → 0 ≤ x ∧ x < M := by
    intro x hx
    obtain ⟨j, hj, rfl⟩ := getD_of_mem hx
    have h1 := ht j hj
    have h2 := edgeOf_ends hv (i := i) (k := j) hi
    unfold tailAt at h1
    simp only [Bool.or_eq_true, decide_eq_true_eq] at h1
    omega
  by_cases hle : mx ≤ 2
  · rw [decide_eq_true hle]
    refine rightB_yes hl (fun j hj => ?_)
    rw [rightAt_of_yes hj (ht j hj) rfl rfl]
    rw [decide_eq_true_eq]
    have h1 := cnt_take l j hj (l.getD j 0)
    rw [if_pos rfl] at h1
    have h2 := cnt_mono l (j + 1) (l.getD j 0)
    have h3 : cnt l (l.getD j 0) ≤ mx := by
      have hj' := hin _ (mem_getD hj)
      refine hm.2 _ (List.mem_map.2 ⟨(l.getD j 0).toNat, List.mem_range.2 (by omega), ?_⟩)
      congr 1; omega
    omega
  · rw [decide_eq_false hle]
    cases hb : rightB es i l with
    | false => rfl
    | true =>
      exfalso
      unfold rightB at hb
      simp only [Bool.and_eq_true, List.all_eq_true, List.mem_range] at hb
      have h1 := cnt_take_le l (fun j hj => by
        have := hb.2 j hj
        unfold rightAt at this
        simp only [Bool.and_eq_true, decide_eq_true_eq] at this
        exact this.2) l.length (Nat.le_refl _)
      rw [List.take_length] at h1
      obtain ⟨v, _, hv⟩ := List.mem_map.1 hm.1
      have := h1 (v : Int)
      omega

def sparseB (N : Int) (es : List (Int × Int)) (ls : List (List Int)) : Bool := validB N es && (decide (ls.length = es.length) && (List.range ls.length).all fun i => rightB es i (ls.getD i []))
theorem sparseB_invalid {N : Int} {es : List (Int × Int)} {ls : List (List Int)} (h : validB N es = false) : sparseB N es ls = false := by simp [sparseB, h]
theorem sparseB_len {N : Int} {es : List (Int × Int)} {ls : List (List Int)} (h : ls.length ≠ es.length) : sparseB N es ls = false := by simp [sparseB, h]
theorem sparseB_no {N : Int} {es : List (Int × Int)} {ls : List (List Int)} {i : Nat} (hi : i < ls.length) (h : rightB es i (ls.getD i []) = false) : sparseB N es ls = false := by
  unfold sparseB
  have : ((List.range ls.length).all fun i => rightB es i (ls.getD i [])) = false := by
    rw [List.all_eq_false]; exact ⟨i, by simpa using hi, by simp only [h]; decide⟩
  rw [this, Bool.and_false, Bool.and_false]
theorem sparseB_yes {N : Int} {es : List (Int × Int)} {ls : List (List Int)} (hv : validB N es = true) (hl : ls.length = es.length) (h : ∀ j, j < ls.length → rightB es j (ls.getD j []) = true) : sparseB N es ls = true := by
  unfold sparseB
  simp only [hv, hl, decide_true, Bool.true_and, List.all_eq_true, List.mem_range]
  intro j hj; exact h j (by omega)
theorem rights_step {es : List (Int × Int)} {ls : List (List Int)} {k : Nat} (h : ∀ j, j < k → rightB es j (ls.getD j []) = true) (hk : rightB es k (ls.getD k []) = true) : ∀ j, j < k + 1 → rightB es j (ls.getD j []) = true := fun j hj => by
  by_cases e : j = k
  · rw [e]; exact hk
  · exact h j (by omega)
theorem tails_step {es : List (Int × Int)} {i : Nat} {l : List Int} {k : Nat} (h : ∀ j, j < k → tailAt es i l j = true) (hk : tailAt es i l k = true) : ∀ j, j < k + 1 → tailAt es i l j = true := fun j hj => by
  by_cases e : j = k
  · rw [e]; exact hk
  · exact h j (by omega)
end Go.Proofs.YtcpkdnhpelkeoaaGreat
