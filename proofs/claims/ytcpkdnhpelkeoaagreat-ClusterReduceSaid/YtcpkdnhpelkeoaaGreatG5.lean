/-
  Induced of the reference; edge, Degree and Induced of the graph layer.
-/
import Derived.Test.YtcpkdnhpelkeoaaGreatG4
import Derived.Test.YtcpkdnhpelkeoaaGreatSpecD
namespace Go.Proofs.YtcpkdnhpelkeoaaGreat
set_option linter.unusedVariables false
set_option linter.unusedSimpArgs false
open Go.RowKit Go.Sort

def PrsPost (w : World) (l : List (Int × Int)) (e : Ending) (w' : World) : Prop :=
  Below w.heap.size w w' ∧ ∃ B c, e = .returned (.slice B l.length c) ∧ Own w' w.heap.size 28 2 B l.length c (prs l)
/-- The edges between points, of the first k. -/
def indK (v : Bool) (es : List (Int × Int)) (ps : List Int) (k : Nat) : List (Int × Int) := if v = true then (es.take k).filter (inB ps) else []
def indE (N : Int) (es : List (Int × Int)) (ps : List Int) : List (Int × Int) := indK (validB N es) es ps es.length
theorem indK_len (v : Bool) (es : List (Int × Int)) (ps : List Int) (k : Nat) : (indK v es ps k).length ≤ k := by
  unfold indK
  split
  · exact Nat.le_trans (List.length_filter_le _ _) (List.length_take_le _ _)
  · simp
theorem indK_step {es : List (Int × Int)} {ps : List Int} {k : Nat} (hk : k < es.length) {x y : Int} (hxy : es.getD k (0, 0) = (x, y)) : indK true es ps (k + 1) = indK true es ps k ++ if (decide (x ∈ ps) && decide (y ∈ ps)) = true then [(x, y)] else [] := by
  unfold indK
  rw [if_pos rfl, if_pos rfl, List.take_succ_eq_append_getElem hk, List.filter_append]
  rw [List.getD_eq_getElem?_getD, List.getElem?_eq_getElem hk] at hxy
  simp only [Option.getD_some] at hxy
  rw [hxy]
  congr 1
  unfold inB
  simp only [List.filter_cons, List.filter_nil]
theorem ret_slice {B : Option Addr} {n m c : Nat} (h : n = m) : Ending.returned (.slice B n c) = .returned (.slice B m c) := by rw [h]
theorem own_ap1 {w : World} {base n c : Nat} {A : Option Addr} {xs : List Value} (h : Own w base 28 2 A n c xs) (o : Obj) : Own (w.alloc o) base 28 2 A n c xs := h.alloc o

def edgeI (e : Int × Int) : Int × Int := (min e.1 e.2, max e.1 e.2)
set_option maxHeartbeats 400000 in
theorem edge_any (a b : Int) (w : World) :
    Calls Tryz.prog 49 #[.int .i64 a, .int .i64 b] w fun e w' => e = .returned (.agg #[.int .i64 (edgeI (a, b)).1, .int .i64 (edgeI (a, b)).2]) ∧ Below w.heap.size w w' := by
  have key : ∀ x y : Int, x = min a b → y = max a b → Ending.returned (.agg #[.int .i64 x, .int .i64 y]) = .returned (.agg #[.int .i64 (edgeI (a, b)).1, .int .i64 (edgeI (a, b)).2]) := fun x y h1 h2 => by rw [h1, h2]; rfl
  have KEY := Lib.hid key
  clear key
  by_cases h1 : a < b
  · have h2 : ¬ b < a := by omega
    go_enter Tryz.func49, Tryz.ntmps49
    go_wp2
    all_goals refine bodyPost_ret (v := .agg #[.int .i64 a, .int .i64 b]) (by simp [results, Tryz.results49, go_sem]) rfl ⟨KEY.out _ _ (by omega) (by omega), ?_⟩
    all_goals exact (Below.refl _ _).alloc (Nat.le_refl _) _
  by_cases h2 : b < a
  · go_enter Tryz.func49, Tryz.ntmps49
    go_wp2
    all_goals refine bodyPost_ret (v := .agg #[.int .i64 b, .int .i64 a]) (by simp [results, Tryz.results49, go_sem]) rfl ⟨KEY.out _ _ (by omega) (by omega), ?_⟩
    all_goals exact (Below.refl _ _).alloc (Nat.le_refl _) _
  · obtain rfl : a = b := by omega
    go_enter Tryz.func49, Tryz.ntmps49
    go_wp2
    all_goals refine bodyPost_ret (v := .agg #[.int .i64 a, .int .i64 a]) (by simp [results, Tryz.results49, go_sem]) rfl ⟨KEY.out _ _ (by omega) (by omega), ?_⟩
    all_goals exact (Below.refl _ _).alloc (Nat.le_refl _) _

end Go.Proofs.YtcpkdnhpelkeoaaGreat
