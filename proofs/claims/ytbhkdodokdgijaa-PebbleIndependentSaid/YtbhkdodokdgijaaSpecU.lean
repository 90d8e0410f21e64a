/-
  The greedy choice, edge by edge: what has been chosen, and under which numbers. No program stands in this text.
-/
import Derived.Test.YtbhkdodokdgijaaSpecT
namespace Go.Proofs.Ytbhkdodokdgijaa
set_option linter.unusedVariables false
set_option linter.unusedSimpArgs false

def edAt (es : List (Int × Int)) (k : Nat) : Int × Int := es.getD k (0, 0)
theorem edAt_mem {es : List (Int × Int)} {k : Nat} (h : k < es.length) : edAt es k ∈ es := by
  unfold edAt; rw [List.getD_eq_getElem?_getD, List.getElem?_eq_getElem h]; exact List.getElem_mem h
def choK (es : List (Int × Int)) (k : Nat) : List (Int × Int) := grd [] (es.take k)
def takB (es : List (Int × Int)) (i : Nat) : Bool := indB (choK es i ++ [edAt es i])
def idxK (es : List (Int × Int)) (k : Nat) : List Int := ((List.range k).filter (takB es)).map fun (i : Nat) => (i : Int)
def idxL (es : List (Int × Int)) : List Int := idxK es es.length
theorem choK_zero (es : List (Int × Int)) : choK es 0 = [] := by unfold choK grd; simp
theorem choK_step {es : List (Int × Int)} {k : Nat} (h : k < es.length) : choK es (k + 1) = if takB es k = true then choK es k ++ [edAt es k] else choK es k := by
  have e : es.take (k + 1) = es.take k ++ [edAt es k] := by
    rw [List.take_succ_eq_append_getElem h]
    unfold edAt
    rw [List.getD_eq_getElem?_getD, List.getElem?_eq_getElem h]; rfl
  unfold choK
  rw [e, grd_app]
  have : ∀ I, grd I [edAt es k] = addE I (edAt es k) := fun I => by unfold grd; rw [List.foldl_cons, List.foldl_nil]
  rw [this]
  unfold addE takB choK
  rfl
theorem idxK_zero (es : List (Int × Int)) : idxK es 0 = [] := rfl
theorem idxK_step (es : List (Int × Int)) (k : Nat) : idxK es (k + 1) = if takB es k = true then idxK es k ++ [(k : Int)] else idxK es k := by
  unfold idxK
  rw [List.range_succ, List.filter_append, List.map_append]
  by_cases h : takB es k = true
  · rw [if_pos h]; simp [h]
  · rw [if_neg h]; simp [h]
theorem idxK_len {es : List (Int × Int)} : ∀ {k : Nat}, k ≤ es.length → (idxK es k).length = (choK es k).length := by
  intro k
  induction k with
  | zero => intro _; rw [idxK_zero, choK_zero]; rfl
  | succ k ih =>
    intro hk
    rw [idxK_step, choK_step (by omega)]
    have := ih (by omega)
    split <;> simp [this]
theorem idxL_len (es : List (Int × Int)) : (idxL es).length = rankE es := by
  unfold idxL rankE
  rw [idxK_len (Nat.le_refl _)]
  unfold choK
  rw [List.take_length]
theorem idxK_le (es : List (Int × Int)) (k : Nat) : (idxK es k).length ≤ k := by
  unfold idxK
  rw [List.length_map]
  have := List.length_filter_le (takB es) (List.range k)
  simpa using this
theorem choK_ok {n : Nat} {es : List (Int × Int)} (h : ∀ e ∈ es, OkE n e) : ∀ {k : Nat}, k ≤ es.length → ∀ e ∈ choK es k, OkE n e := by
  intro k
  induction k with
  | zero => intro _ e he; rw [choK_zero] at he; cases he
  | succ k ih =>
    intro hk e he
    rw [choK_step (by omega)] at he
    split at he
    · rw [List.mem_append] at he
      rcases he with he | he
      · exact ih (by omega) e he
      · simp at he; subst he; exact h _ (edAt_mem (by omega))
    · exact ih (by omega) e he
theorem ok60_of {n : Nat} {es : List (Int × Int)} (hn : n ≤ 60) (h : ∀ e ∈ es, OkE n e) : Ok60 es := fun e he => (h e he).mono hn
/-- What accept does to the game. -/
def Acc (n : Nat) (out : List (List Int)) (p q : Nat) (r : Bool) (out' : List (List Int)) : Prop :=
  ∃ out1 out2, GLoop n out p q out1 ∧ GLoop n out1 q p out2 ∧ ((r = true ∧ rowOf out2 p = [] ∧ rowOf out2 q = [] ∧ out' = out2.set p [(q : Int)]) ∨ (r = false ∧ 1 ≤ (rowOf out2 p).length + (rowOf out2 q).length ∧ out' = out2))
theorem Acc.inv {n : Nat} {out out' : List (List Int)} {E : List (Int × Int)} {p q : Nat} {r : Bool} (h : Acc n out p q r out') (hi : GInv n out E) (hn : n ≤ 60) (hp : p < n) (hq : q < n) (hpq : p ≠ q) :
    r = indB (E ++ [((p : Int), (q : Int))]) ∧ GInv n out' (if r = true then E ++ [((p : Int), (q : Int))] else E) ∧ (r = false → ∃ V, Tight out' p q V ∧ 2 * (cntB n V : Int) - 3 ≤ spanS E V) := by
  obtain ⟨out1, out2, h1, h2, h3⟩ := h
  have hi2 := hi.gather hp hq hpq h1 h2
  have hok : Ok60 (E ++ [((p : Int), (q : Int))]) := (ok60_of hn hi.ok).app (Ok60.one ⟨by omega, by simp; omega, by omega, by simp; omega, by simp; omega⟩)
  rcases h3 with ⟨rfl, e1, e2, rfl⟩ | ⟨rfl, h4, rfl⟩
  · obtain ⟨k1, k2⟩ := hi2.yes hn hp hq hpq e1 e2
    exact ⟨((indB_iff hok).2 k1).symm, by rw [if_pos rfl]; exact k2, fun h => by cases h⟩
  · rcases gather_stop hi.gs hp hq hpq h1 h2 with ⟨e1, e2⟩ | ⟨V, hV⟩
    · rw [e1, e2] at h4; simp at h4
    · have hno := hi2.no hn hp hq hpq hV h4
      refine ⟨?_, by rw [if_neg (by simp)]; exact hi2, fun _ => ⟨V, hV, hi2.span hp hq hpq hV h4⟩⟩
      cases hb : indB (E ++ [((p : Int), (q : Int))])
      · rfl
      · exact absurd ((indB_iff hok).1 hb) hno
end Go.Proofs.Ytbhkdodokdgijaa
