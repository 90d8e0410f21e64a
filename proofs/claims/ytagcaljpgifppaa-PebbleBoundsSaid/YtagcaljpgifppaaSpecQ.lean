/-
  What a sequence of Henneberg steps builds: plain law.
-/
import Derived.Test.YtagcaljpgifppaaSpecP
namespace Go.Proofs.Ytagcaljpgifppaa
set_option linter.unusedVariables false
set_option linter.unusedSimpArgs false
open Go.RowKit Go.Sort

/-- One step: a graph with a further point, or nothing. -/
def seqStep (g : Int × List (Int × Int)) (t : Int × Int × Int) : Option (Int × List (Int × Int)) :=
  if (hennE g.1 g.2 t.1 t.2.1 t.2.2).1 = 0 then some (g.1 + 1, (hennE g.1 g.2 t.1 t.2.1 t.2.2).2) else none
def seqK (st : List (Int × Int × Int)) : Nat → Option (Int × List (Int × Int))
  | 0 => some (2, [(0, 1)])
  | k + 1 => (seqK st k).bind fun g => seqStep g (st.getD k (0, 0, 0))
structure SeqInv (k : Nat) (g : Int × List (Int × Int)) : Prop where
  n : g.1 = 2 + (k : Int)
  v : validB g.1 g.2 = true
  len : (g.2.length : Int) = 2 * g.1 - 3
  sp : SpA g.2
theorem henn_zero {N : Int} {es : List (Int × Int)} {a b s : Int} (h : (hennE N es a b s).1 = 0) : HennOk N es a b s ∧ ¬ N = 60 ∧ hennE N es a b s = (0, mkL (N + 1).toNat (hennL N es a b s)) := by
  cases h1 : hennBad1 N es a b
  · cases h2 : hennBad2 N es a b s
    · by_cases h3 : N = 60
      · rw [henn_60 h1 h2 h3] at h; exact absurd h (by decide)
      · exact ⟨hennOk_of h1 h2, h3, henn_ok h1 h2 h3⟩
    · rw [henn_bad2 h2] at h; exact absurd h (by decide)
  · rw [henn_bad1 h1] at h; exact absurd h (by decide)
theorem mkL_valid' {n : Nat} {L : List (Int × Int)} (hn : n ≤ 60) : validB n (mkL n L) = true := by
  refine validB_yes n _ (by omega) (by omega) (fun k hk => ?_)
  have hm : ∀ j, j < (mkL n L).length → 0 ≤ (PAt (mkL n L) j).1 ∧ (PAt (mkL n L) j).1 < (PAt (mkL n L) j).2 ∧ (PAt (mkL n L) j).2 < n := fun j hj => by
    have := mem_mkL.1 (PAt_mem hj)
    exact ⟨this.1, this.2.1, this.2.2.1⟩
  have h1 := hm k hk
  unfold okAt
  change (decide (0 ≤ (PAt (mkL n L) k).1) && decide ((PAt (mkL n L) k).1 < (PAt (mkL n L) k).2) && decide ((PAt (mkL n L) k).2 < n) && (decide (k = 0) || befB (PAt (mkL n L) (k - 1)).1 (PAt (mkL n L) (k - 1)).2 (PAt (mkL n L) k).1 (PAt (mkL n L) k).2)) = true
  rw [decide_eq_true h1.1, decide_eq_true h1.2.1, decide_eq_true h1.2.2]
  by_cases h0 : k = 0
  · simp [h0]
  · rw [decide_eq_false h0]
    have hs := List.pairwise_iff_getElem.1 (mkL_strict n L) (k - 1) k (by omega) hk (by omega)
    have e1 : PAt (mkL n L) (k - 1) = (mkL n L)[k - 1]'(by omega) := by unfold PAt; rw [List.getD_eq_getElem?_getD, List.getElem?_eq_getElem (by omega)]; rfl
    have e2 : PAt (mkL n L) k = (mkL n L)[k] := by unfold PAt; rw [List.getD_eq_getElem?_getD, List.getElem?_eq_getElem hk]; rfl
    rw [e1, e2, befB_iff.2 hs]; rfl
theorem SeqInv.start : SeqInv 0 (2, [(0, 1)]) := ⟨rfl, by decide, rfl, SpA.start⟩
theorem SeqInv.step {k : Nat} {g g' : Int × List (Int × Int)} {t : Int × Int × Int} (h : SeqInv k g) (hs : seqStep g t = some g') : SeqInv (k + 1) g' := by
  unfold seqStep at hs
  split at hs
  · rename_i h0
    obtain ⟨ho, h60, he⟩ := henn_zero h0
    injection hs with hs
    subst hs
    have hN := (validB_iff g.1 g.2).1 h.v
    rw [he]
    refine ⟨by have := h.n; simp; omega, ?_, ?_, ho.spa (by omega) h.sp⟩
    · have := mkL_valid' (n := (g.1 + 1).toNat) (L := hennL g.1 g.2 t.1 t.2.1 t.2.2) (by omega)
      have e : (((g.1 + 1).toNat : Nat) : Int) = g.1 + 1 := by omega
      rw [e] at this
      exact this
    · have := ho.len
      have h2 := h.len
      simp only
      omega
  · cases hs
theorem seqK_inv (st : List (Int × Int × Int)) : ∀ (k : Nat) (g : Int × List (Int × Int)), seqK st k = some g → SeqInv k g
  | 0, g, h => by injection h with h; subst h; exact SeqInv.start
  | k + 1, g, h => by
    rw [seqK] at h
    cases hk : seqK st k with
    | none => rw [hk] at h; cases h
    | some g0 =>
      rw [hk] at h
      exact (seqK_inv st k g0 hk).step h
theorem seqK_none {st : List (Int × Int × Int)} {k j : Nat} (h : seqK st k = none) (hj : k ≤ j) : seqK st j = none := by
  induction j with
  | zero => obtain rfl : k = 0 := by omega
            exact h
  | succ j ih =>
    by_cases e : k = j + 1
    · subst e; exact h
    · rw [seqK, ih (by omega)]; rfl
/-- A built graph is minimally rigid. -/
theorem SeqInv.laman {k : Nat} {g : Int × List (Int × Int)} (h : SeqInv k g) (n : Nat) : 2 ≤ g.1 ∧ (g.2.length : Int) = 2 * g.1 - 3 ∧ sparseAll n g.2 = true :=
  ⟨by have := h.n; omega, h.len, h.sp.all n⟩
end Go.Proofs.Ytagcaljpgifppaa
