/-
  A list of edges in which consecutive equal ones are struck; what is sorted becomes strictly ordered, with the same members: the valid graph with given edges. Plain, no program in sight.
-/
import Derived.Test.YtcpkdnhpelkeoaaGreatSpecK
import Derived.Test.YtcpkdnhpelkeoaaGreatG5
namespace Go.Proofs.YtcpkdnhpelkeoaaGreat
set_option linter.unusedVariables false
set_option linter.unusedSimpArgs false

def PAt (l : List (Int × Int)) (k : Nat) : Int × Int := l.getD k (0, 0)
/-- The first k, consecutive equal ones struck. -/
def cptK (l : List (Int × Int)) : Nat → List (Int × Int)
  | 0 => []
  | k + 1 => if k = 0 ∨ PAt l k ≠ PAt l (k - 1) then cptK l k ++ [PAt l k] else cptK l k
theorem cptK_keep {l : List (Int × Int)} {k : Nat} (h : k = 0 ∨ PAt l k ≠ PAt l (k - 1)) : cptK l (k + 1) = cptK l k ++ [PAt l k] := by show (if _ then _ else _) = _; rw [if_pos h]
theorem cptK_skip {l : List (Int × Int)} {k : Nat} (h : ¬ (k = 0 ∨ PAt l k ≠ PAt l (k - 1))) : cptK l (k + 1) = cptK l k := by show (if _ then _ else _) = _; rw [if_neg h]
theorem cptK_len (l : List (Int × Int)) : ∀ k, (cptK l k).length ≤ k
  | 0 => Nat.le_refl _
  | k + 1 => by
    have := cptK_len l k
    show (if _ then _ else _ : List (Int × Int)).length ≤ _
    split
    · simp; omega
    · omega
theorem take_at {l : List (Int × Int)} {k : Nat} (h : k < l.length) : l.take (k + 1) = l.take k ++ [PAt l k] := by
  rw [List.take_succ_eq_append_getElem h]; unfold PAt; rw [List.getD_eq_getElem?_getD, List.getElem?_eq_getElem h]; rfl
theorem cptK_all {l : List (Int × Int)} : ∀ k, k ≤ l.length → (∀ j, j < k → j = 0 ∨ PAt l j ≠ PAt l (j - 1)) → cptK l k = l.take k
  | 0, _, _ => by simp [cptK]
  | k + 1, hk, h => by
    rw [cptK_keep (h k (by omega)), cptK_all k (by omega) (fun j hj => h j (by omega)), take_at (by omega)]
def cptL (l : List (Int × Int)) : List (Int × Int) := cptK l l.length

theorem PAt_mem {l : List (Int × Int)} {k : Nat} (h : k < l.length) : PAt l k ∈ l := by
  unfold PAt; rw [List.getD_eq_getElem?_getD, List.getElem?_eq_getElem h]; exact List.getElem_mem h
theorem cptK_sorted {l : List (Int × Int)} (hs : l.Pairwise fun x y => ¬ lt2 y x) : ∀ k, k ≤ l.length → (cptK l k).Pairwise lt2 ∧ (∀ x, x ∈ cptK l k ↔ x ∈ l.take k)
  | 0, _ => by simp [cptK]
  | k + 1, hk => by
    obtain ⟨h1, h2⟩ := cptK_sorted hs k (by omega)
    have hle : ∀ i j, i < j → j < l.length → ¬ lt2 (PAt l j) (PAt l i) := by
      intro i j hij hj
      have := List.pairwise_iff_getElem.1 hs i j (by omega) hj hij
      unfold PAt
      rw [List.getD_eq_getElem?_getD, List.getElem?_eq_getElem hj, List.getD_eq_getElem?_getD, List.getElem?_eq_getElem (by omega : i < l.length)]
      exact this
    by_cases h : k = 0 ∨ PAt l k ≠ PAt l (k - 1)
    · rw [cptK_keep h]
      refine ⟨?_, fun x => by rw [take_at (by omega), List.mem_append, List.mem_append, h2 x]⟩
      rw [List.pairwise_append]
      refine ⟨h1, List.pairwise_singleton _ _, fun x hx y hy => ?_⟩
      simp only [List.mem_singleton] at hy
      subst hy
      rw [h2] at hx
      obtain ⟨i, hi, rfl⟩ := List.getElem_of_mem hx
      simp at hi
      have e : (l.take k)[i] = PAt l i := by
        unfold PAt; rw [List.getD_eq_getElem?_getD, List.getElem?_eq_getElem (by omega : i < l.length)]; simp
      rw [e]
      rcases h with h | h
      · omega
      · have g1 := hle (k - 1) k (by omega) (by omega)
        have g3 : i < k - 1 → ¬ lt2 (PAt l (k - 1)) (PAt l i) := fun h' => hle i (k - 1) h' (by omega)
        have g4 : lt2 (PAt l (k - 1)) (PAt l k) := by
          unfold lt2 at *
          have : ¬ ((PAt l k).1 = (PAt l (k - 1)).1 ∧ (PAt l k).2 = (PAt l (k - 1)).2) := fun ⟨a, b⟩ => h (Prod.ext a b)
          omega
        by_cases hik : i = k - 1
        · subst hik; exact g4
        · have g5 := g3 (by omega)
          unfold lt2 at *; omega
    · rw [cptK_skip h]
      refine ⟨h1, fun x => ?_⟩
      rw [take_at (by omega), List.mem_append, h2 x]
      constructor
      · exact .inl
      · rintro (hx | hx)
        · exact hx
        · simp only [List.mem_singleton] at hx
          have h3 : PAt l k = PAt l (k - 1) ∧ k ≠ 0 := by
            refine ⟨?_, fun e => h (.inl e)⟩
            exact Decidable.not_not.1 fun e => h (.inr e)
          rw [hx, h3.1]
          have : PAt l (k - 1) = (l.take k)[k - 1]'(by simp; omega) := by
            unfold PAt; rw [List.getD_eq_getElem?_getD, List.getElem?_eq_getElem (by omega : k - 1 < l.length)]; simp
          rw [this]; exact List.getElem_mem _

def mkI (es : List (Int × Int)) : List (Int × Int) := es.map edgeI
theorem mk_sorted {n : Nat} {es l : List (Int × Int)} (hok : ∀ e ∈ es, okP n e.1 e.2 = true) (hp : l.Perm (mkI es)) (hs : l.Pairwise fun x y => ¬ lt2 y x) : cptL l = mkL n es := by
  obtain ⟨h1, h2⟩ := cptK_sorted hs l.length (Nat.le_refl _)
  refine strict_eq h1 (mkL_strict n es) (fun x => ?_)
  unfold cptL
  rw [h2, List.take_length, hp.mem_iff, mem_mkL, pairsB_iff]
  unfold mkI
  rw [List.mem_map]
  have hb : ∀ e ∈ es, 0 ≤ e.1 ∧ 0 ≤ e.2 ∧ e.1 < n ∧ e.2 < n ∧ e.1 ≠ e.2 := fun e he => by
    have := hok e he
    unfold okP at this
    simp at this
    omega
  constructor
  · rintro ⟨⟨a, b⟩, he, rfl⟩
    have := hb _ he
    simp only [edgeI] at this ⊢
    refine ⟨by omega, by omega, by omega, ?_⟩
    rcases Int.lt_or_le a b with h | h
    · left
      rw [show min a b = a by omega, show max a b = b by omega]; exact he
    · right
      rw [show min a b = b by omega, show max a b = a by omega]; exact he
  · rintro ⟨h0, h1, h2, h3 | h3⟩
    · refine ⟨_, h3, ?_⟩
      unfold edgeI
      exact Prod.ext (by simp; omega) (by simp; omega)
    · refine ⟨_, h3, ?_⟩
      unfold edgeI
      exact Prod.ext (by simp; omega) (by simp; omega)
end Go.Proofs.YtcpkdnhpelkeoaaGreat
