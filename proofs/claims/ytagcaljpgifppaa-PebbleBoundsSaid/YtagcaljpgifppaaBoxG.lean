/-
  A zero graph in a block of its own, laid at whatever time in a region that draws its order; a pair that was laid out as a list.
-/
import Derived.Test.YtagcaljpgifppaaMa
import Derived.Test.YtagcaljpgifppaaRdFar
namespace Go.Proofs.Ytagcaljpgifppaa
set_option linter.unusedVariables false
set_option linter.unusedSimpArgs false
open Go.RowKit Go.Sort

theorem rd_grow1 {w w' : World} {size n g : Nat} {xs : List Value} {row : Option Nat} (h : Rd w size (some ⟨g, 0, none⟩) n xs) (hg : w.grownBy w' row) (hne : row ≠ some g) : Rd w' size (some ⟨g, 0, none⟩) n xs := by
  refine ⟨h.1, fun hn => ?_⟩
  obtain ⟨ad, e, hc⟩ := h.2 hn
  injection e with e
  subst e
  refine ⟨_, rfl, fun j u hu => ?_⟩
  have := hc j u hu
  rw [add0] at this ⊢
  exact World.grownBy.cell hg this (fun e => hne e.symm)
theorem rd_new1 {w : World} {size n : Nat} {A : Option Addr} {xs : List Value} (h : Rd w size A n xs) (o : Obj) : Rd (w.alloc o) size A n xs := h.keep (Keeps.alloc w o)
theorem cell_drew (W : World) (p : Addr) : W.drew.cell? p = W.cell? p := rfl
theorem Own.drew' {w : World} {base size n c : Nat} {e : TypeId} {A : Option Addr} {xs : List Value} (h : Own w base e size A n c xs) : Own w.drew base e size A n c xs := h
theorem Rd.drew' {w : World} {size n : Nat} {A : Option Addr} {xs : List Value} (h : Rd w size A n xs) : Rd w.drew size A n xs := h
theorem rd2_cells {W : World} {b : Nat} {x y : Int} (h0 : W.cell? ⟨b, 0, none⟩ = some (.int .i64 x)) (h1 : W.cell? ⟨b, 1, none⟩ = some (.int .i64 y)) : Rd W 2 (some ⟨b, 0, none⟩) 1 (prs [(x, y)]) :=
  ⟨rfl, fun _ => ⟨_, rfl, fun j u hu => by
    rw [add0]
    match j, hu with
    | 0, hu => simp [prs] at hu; subst hu; exact h0
    | 1, hu => simp [prs] at hu; subst hu; exact h1
    | k + 2, hu => simp [prs] at hu⟩⟩
def BOXG (W : World) (b : Nat) : Prop := W.heap[b]? = some (.cells #[.int .i64 0, .slice none 0 0] 24 (0, 0))
theorem BOXG.c0 {W : World} {b : Nat} (h : BOXG W b) : W.cell? ⟨b, 0, none⟩ = some (.int .i64 0) := by unfold BOXG at h; simp [World.cell?, h]
theorem BOXG.c1 {W : World} {b : Nat} (h : BOXG W b) : W.cell? ⟨b, 1, none⟩ = some (.slice none 0 0) := by unfold BOXG at h; simp [World.cell?, h]
theorem BOXG.f0 {W : World} {b : Nat} (h : BOXG W b) : W.frozen? ⟨b, 0, none⟩ = false := by unfold BOXG at h; simp [World.frozen?, h]
theorem BOXG.f1 {W : World} {b : Nat} (h : BOXG W b) : W.frozen? ⟨b, 1, none⟩ = false := by unfold BOXG at h; simp [World.frozen?, h]
theorem BOXG.new (W : World) : BOXG (W.alloc (.cells #[.int .i64 0, .slice none 0 0] 24)) W.heap.size := by
  show (W.heap.push _)[W.heap.size]? = _
  simp
theorem BOXG.at {W : World} {b : Nat} (h : W.heap.size = b) : BOXG (W.alloc (.cells #[.int .i64 0, .slice none 0 0] 24)) b := by subst h; exact BOXG.new W
theorem BOXG.lt {W : World} {b : Nat} (h : BOXG W b) : b < W.heap.size := World.block_lt_of_cell? W ⟨b, 0, none⟩ h.c0
theorem BOXG.later {W W' : World} {b : Nat} (h : BOXG W b) (hb : Below W.heap.size W W') : BOXG W' b := by
  have e := hb.block b h.lt
  unfold BOXG at *; rw [e]; exact h
theorem BOXG.alloc {W : World} {b : Nat} (h : BOXG W b) (o : Obj) : BOXG (W.alloc o) b := h.later ((Below.refl _ _).alloc (Nat.le_refl _) o)
theorem BOXG.grown {W W' : World} {b : Nat} {row : Option Nat} (h : BOXG W b) (hg : W.grownBy W' row) (hne : row ≠ some b) : BOXG W' b := by
  have e := hg.block b h.lt (fun e => hne e.symm)
  unfold BOXG at *; rw [e]; exact h
theorem BOXG.row {W : World} {b base size n c : Nat} {A : Option Addr} {xs : List Value} (h : BOXG W b) (ho : Own W base 42 size A n c xs) : blk A ≠ some b := fun e => by
  obtain ⟨cur, hh⟩ := ho.block_type e
  unfold BOXG at h
  rw [h] at hh
  injection hh with hh
  injection hh with _ h2
  revert h2; decide
theorem BOXG.growR {W W' : World} {b base size n c : Nat} {A : Option Addr} {xs : List Value} (h : BOXG W b) (ho : Own W base 42 size A n c xs) (hg : W.grownBy W' (blk A)) : BOXG W' b := h.grown hg (h.row ho)
theorem BOXG.drew' {W : World} {b : Nat} (h : BOXG W b) : BOXG W.drew b := h
/-- Behind the store of a graph. -/
theorem BOXG.put {W : World} {b : Nat} (h : BOXG W b) (N : Int) {B : Option Addr} {q d : Nat} {l : List (Int × Int)} (hr : Rd W 2 B q (prs l)) :
    ((W.setCell ⟨b, 0, none⟩ (.int .i64 N)).setCell ⟨b, 1, none⟩ (.slice B q d)).cell? ⟨b, 0, none⟩ = some (.int .i64 N) ∧
    ((W.setCell ⟨b, 0, none⟩ (.int .i64 N)).setCell ⟨b, 1, none⟩ (.slice B q d)).cell? ⟨b, 1, none⟩ = some (.slice B q d) ∧
    Rd ((W.setCell ⟨b, 0, none⟩ (.int .i64 N)).setCell ⟨b, 1, none⟩ (.slice B q d)) 2 B q (prs l) := by
  refine ⟨?_, ?_, ?_⟩
  · rw [World.cell?_setCell_other _ _ _ _ (by simp)]
    exact World.cell?_setCell_same _ _ _ h.c0
  · exact World.cell?_setCell_same _ _ _ (u := .slice none 0 0) (by rw [World.cell?_setCell_other _ _ _ _ (by simp)]; exact h.c1)
  · refine Rd.far (Rd.far hr h.c1 (.inl rfl) _) (g := b) (A := none) (n' := 0) (c' := 0) ?_ (.inr rfl) _
    rw [World.cell?_setCell_other _ _ _ _ (by simp)]; exact h.c1
end Go.Proofs.Ytagcaljpgifppaa
