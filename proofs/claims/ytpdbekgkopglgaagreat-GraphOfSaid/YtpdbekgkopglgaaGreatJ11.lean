/-
  Contracts and lemmas for the statement, joined: Nu, Nv, Nw, Nx, Ny.
-/
import Derived.Test.YtpdbekgkopglgaaGreatJ10
import Derived.Deep.RegionHeld3
import Derived.Laws.IdiomStrings
namespace Go.Proofs.YtpdbekgkopglgaaGreat
set_option linter.unusedVariables false
set_option linter.unusedSimpArgs false
open Go.RowKit Go.Sort
attribute [local go_sem ↓] Go.wp_at_zero Go.wp_at_succ

set_option maxRecDepth 100000 in
set_option maxHeartbeats 4000000 in
theorem quo_any (na nb : Bool) (A B : Option Addr) (n c m d : Nat) (a b : List Nat) (w : World) (hn : n ≤ 20000) (hm : m ≤ 20000) (ha : MagAt w A n c a) (hb : MagAt w B m d b) :
    Calls Tryz.prog 96 #[.agg #[.bool na, .slice A n c], .agg #[.bool nb, .slice B m d]] w (IntPost w (n + 4)) := by
  obtain ⟨W, hW⟩ : ∃ W, W = ((w.alloc (.cells #[.bool na, .slice A n c] 50)).alloc (.cells #[.bool nb, .slice B m d] 50)).alloc (.cells #[.bool false, .slice none 0 0] 50) := ⟨_, rfl⟩
  obtain ⟨f0, kW⟩ := frl_three w _ _ _ _ _ _ hW
  have F0 := Lib.hid f0
  have cD := divmod_any na nb A B n c m d a b W hn hm (ha.keep kW) (hb.keep kW)
  have e0 := f0.c0 0 rfl (b := w.heap.size) rfl
  have e1 := f0.c1 0 rfl (b := w.heap.size) rfl
  have e2 := f0.c0 1 rfl (b := w.heap.size + 1) rfl
  have e3 := f0.c1 1 rfl (b := w.heap.size + 1) rfl
  clear ha hb kW f0
  go_enter Tryz.func96, Tryz.ntmps96
  go_upto_region 1 with fail
  rw [← hW]
  have HW := Lib.hid hW
  clear hW
  go_wp2_with fail
  refine Calls.mono cD ?_
  rintro _ w2 ⟨hb2, s, C, k, c1, q, s', C', k', c', q', r, rfl, hm1, hk1, hm2⟩
  have F2 := F0.out.next hb2
  obtain ⟨w3, hw3⟩ : ∃ W, W = w2.alloc (.cells #[.bool s, .slice C k c1] 50) := ⟨_, rfl⟩
  obtain ⟨w4, hw4⟩ : ∃ W, W = w3.alloc (.cells #[.bool s', .slice C' k' c'] 50) := ⟨_, rfl⟩
  have b3 : Below w2.heap.size w2 w3 := by rw [hw3]; exact (Below.refl _ _).alloc (Nat.le_refl _) _
  have b4 : Below w3.heap.size w3 w4 := by rw [hw4]; exact (Below.refl _ _).alloc (Nat.le_refl _) _
  have F4 := Lib.hid ((F2.next b3).next b4)
  have C3 : CellsAt w3 w2.heap.size #[.bool s, .slice C k c1] 50 := by rw [hw3]; exact CellsAt.new _ _ _
  have C4 := C3.below b4 C3.lt
  have e4 : w4.cell? ⟨w2.heap.size, 0, none⟩ = some (.bool s) := by rw [C4.cell]; rfl
  have e5 : w4.cell? ⟨w2.heap.size, 1, none⟩ = some (.slice C k c1) := by rw [C4.cell]; rfl
  have M4 := Lib.hid ((hm1.keep (Keeps.of_below b3 (Nat.le_refl _))).keep (Keeps.of_below b4 (Nat.le_refl _)))
  clear hb2 hm1 hm2 cD e0 e1 e2 e3 F0 C3 C4 b3 b4 F2
  have y0 := F4.out.c0 2 rfl (b := w.heap.size + 1 + 1) rfl
  have y1 := F4.out.c1 2 rfl (b := w.heap.size + 1 + 1) rfl
  have x0 := F4.out.fz 2 rfl 0 (b := w.heap.size + 1 + 1) rfl
  have x1 := F4.out.fz 2 rfl 1 (b := w.heap.size + 1 + 1) rfl
  have F5 := Lib.hid (F4.out.put 2 rfl (.bool s) (.slice C k c1) (b := w.heap.size + 1 + 1) rfl)
  have M5 := Lib.hid (F4.out.mag 2 rfl M4.out (.bool s) (.slice C k c1) (b := w.heap.size + 1 + 1) rfl)
  have r0 := F5.out.c0 2 rfl (b := w.heap.size + 1 + 1) rfl
  have r1 := F5.out.c1 2 rfl (b := w.heap.size + 1 + 1) rfl
  go_upto_region 2 with fail
  rw [← hw3]
  rw [← hw4]
  clear hw3 hw4
  go_wp2_with fail
  exact bodyPost_ret (v := .agg #[.bool s, .slice C k c1]) (by simp [results, Tryz.results96, go_sem, r0, r1]) rfl ⟨F5.out.below, s, C, k, c1, q, rfl, M5.out, hk1⟩

def RatPost (w : World) (K : Nat) (e : Ending) (w' : World) : Prop :=
  Below w.heap.size w w' ∧ ∃ s C k c q s' C' k' c' q', e = .returned (ratV s C k c s' C' k' c') ∧ RatAt w' C k c q C' k' c' q' ∧ k ≤ K ∧ k' ≤ K
end Go.Proofs.YtpdbekgkopglgaaGreat
namespace Go.Proofs.YtpdbekgkopglgaaGreat
set_option linter.unusedVariables false
set_option linter.unusedSimpArgs false
open Go.RowKit Go.Sort
attribute [local go_sem ↓] Go.wp_at_zero Go.wp_at_succ

theorem CellsAt.set4 {W : World} {b : Nat} {x0 x1 x2 x3 : Value} {t : TypeId} (h : CellsAt W b #[x0, x1, x2, x3] t) (u0 u1 u2 u3 : Value) : CellsAt ((((W.setCell ⟨b, 0, none⟩ u0).setCell ⟨b, 1, none⟩ u1).setCell ⟨b, 2, none⟩ u2).setCell ⟨b, 3, none⟩ u3) b #[u0, u1, u2, u3] t := by
  simpa using (((h.setSame (j := 0) u0).setSame (j := 1) u1).setSame (j := 2) u2).setSame (j := 3) u3
theorem CellsAt.k4 {W : World} {b : Nat} {x0 x1 x2 x3 : Value} {t : TypeId} (h : CellsAt W b #[x0, x1, x2, x3] t) : W.cell? ⟨b, 0, none⟩ = some x0 ∧ W.cell? ⟨b, 1, none⟩ = some x1 ∧ W.cell? ⟨b, 2, none⟩ = some x2 ∧ W.cell? ⟨b, 3, none⟩ = some x3 := by
  refine ⟨?_, ?_, ?_, ?_⟩ <;> (rw [h.cell]; rfl)
theorem below_set4 {B : Nat} {w W : World} {b : Nat} (h : Below B w W) (hb : B ≤ b) (u0 u1 u2 u3 : Value) : Below B w ((((W.setCell ⟨b, 0, none⟩ u0).setCell ⟨b, 1, none⟩ u1).setCell ⟨b, 2, none⟩ u2).setCell ⟨b, 3, none⟩ u3) :=
  (((h.setCell (by simpa using hb) _).setCell (by simpa using hb) _).setCell (by simpa using hb) _).setCell (by simpa using hb) _
/-- A list of words lies in another block than one that holds a rational number: kept by a write there. -/
theorem MagAt.set4 {W : World} {b : Nat} {s s' : Bool} {C C' : Option Addr} {k c k' c' : Nat} {t : TypeId} {A : Option Addr} {n d : Nat} {l : List Nat} (hm : MagAt W A n d l) (hB : CellsAt W b #[.bool s, .slice C k c, .bool s', .slice C' k' c'] t) (u0 u1 u2 u3 : Value) : MagAt ((((W.setCell ⟨b, 0, none⟩ u0).setCell ⟨b, 1, none⟩ u1).setCell ⟨b, 2, none⟩ u2).setCell ⟨b, 3, none⟩ u3) A n d l := by
  obtain ⟨k0, k1, k2, k3⟩ := hB.k4
  exact (((hm.setOff k0 (fun i e => by cases e) u0).setOff (v := .slice C k c) ((World.cell?_setCell_other _ _ _ _ (by simp)).trans k1) (fun i e => by cases e) u1).setOff (v := .bool s')
    ((World.cell?_setCell_other _ _ _ _ (by simp)).trans ((World.cell?_setCell_other _ _ _ _ (by simp)).trans k2)) (fun i e => by cases e) u2).setOff (v := .slice C' k' c')
    ((World.cell?_setCell_other _ _ _ _ (by simp)).trans ((World.cell?_setCell_other _ _ _ _ (by simp)).trans ((World.cell?_setCell_other _ _ _ _ (by simp)).trans k3))) (fun i e => by cases e) u3
set_option maxRecDepth 100000 in
set_option maxHeartbeats 4000000 in
theorem fromint02_any (x : Nat) (w : World) (hx : x < 1000000) :
    Calls Tryz.prog 89 #[.int .i64 (x : Int)] w (RatPost w 2) := by
  obtain ⟨W, hW⟩ : ∃ W, W = w.alloc (.cells #[.bool false, .slice none 0 0, .bool false, .slice none 0 0] 52) := ⟨_, rfl⟩
  have b0 : CellsAt W w.heap.size #[.bool false, .slice none 0 0, .bool false, .slice none 0 0] 52 := by rw [hW]; exact CellsAt.new _ _ _
  have BW : Hid (Below w.heap.size w W) := Lib.hid (by rw [hW]; exact (Below.refl _ _).alloc (Nat.le_refl _) _)
  have B0 := Lib.hid b0
  have hWs : w.heap.size < W.heap.size := b0.lt
  clear b0
  have FI : Hid (∀ (y : Nat) W, y < 1000000 → Calls Tryz.prog 90 #[.int .i64 (y : Int)] W (IntPost W 2)) := Lib.hid fun y W hy => fromint_any y W hy
  have FI1 : Hid (∀ W, Calls Tryz.prog 90 #[.int .i64 1] W (IntPost W 2)) := Lib.hid fun W => fromint_any 1 W (by omega)
  go_enter Tryz.func89, Tryz.ntmps89
  go_upto_region 1 with fail
  rw [← hW]
  have HW := Lib.hid hW
  clear hW
  go_wp2_with fail
  refine Calls.mono (FI.out x W hx) ?_
  rintro _ w1 ⟨hb1, s1, C1, k1, c1, q1, rfl, hm1, hk1⟩
  have B1 := Lib.hid (B0.out.below hb1 B0.out.lt)
  have BW1 := Lib.hid (BW.out.trans (hb1.mono (by omega)))
  have hz1 := hb1.size
  have M1 := Lib.hid hm1
  clear hb1 hm1
  go_wp2_with fail
  refine Calls.mono (FI1.out w1) ?_
  rintro _ w2 ⟨hb2, s2, C2, k2, c2, q2, rfl, hm2, hk2⟩
  have B2 := Lib.hid (B1.out.below hb2 B1.out.lt)
  have BW2 := Lib.hid (BW1.out.trans (hb2.mono (by omega)))
  have M2 := Lib.hid (M1.out.keep (Keeps.of_below hb2 (Nat.le_refl _)))
  have M3 := Lib.hid hm2
  obtain ⟨e0, e1, e2, e3⟩ := B2.out.k4
  have f0 := B2.out.frozen 0
  have f1 := B2.out.frozen 1
  have f2 := B2.out.frozen 2
  have f3 := B2.out.frozen 3
  have B3 := Lib.hid (B2.out.set4 (.bool s1) (.slice C1 k1 c1) (.bool s2) (.slice C2 k2 c2))
  obtain ⟨r0, r1, r2, r3⟩ := B3.out.k4
  clear hb2 hm2
  go_wp2_with fail
  exact bodyPost_ret (v := ratV s1 C1 k1 c1 s2 C2 k2 c2) (by simp [ratV, results, Tryz.results89, go_sem, r0, r1, r2, r3]) rfl ⟨below_set4 BW2.out (by omega) _ _ _ _, s1, C1, k1, c1, q1, s2, C2, k2, c2, q2, rfl, ⟨M2.out.set4 B2.out _ _ _ _, M3.out.set4 B2.out _ _ _ _⟩, hk1, hk2⟩
end Go.Proofs.YtpdbekgkopglgaaGreat
namespace Go.Proofs.YtpdbekgkopglgaaGreat
set_option linter.unusedVariables false
set_option linter.unusedSimpArgs false
open Go.RowKit Go.Sort
attribute [local go_sem ↓] Go.wp_at_zero Go.wp_at_succ

/-- What Mul's walk holds in every world behind W: both arguments' numbers, the cells of their boxes, the result's box. -/
def MulKeep (w W : World) (na : Bool) (A : Option Addr) (n c : Nat) (a : List Nat) (nb : Bool) (B : Option Addr) (m d : Nat) (b : List Nat) (ya : Bool) (Y : Option Addr) (p e : Nat) (a' : List Nat) (yb : Bool) (Z : Option Addr) (q f : Nat) (b' : List Nat) : Prop :=
  ∀ w', Below W.heap.size W w' → (RatAt w' A n c a B m d b ∧ RatAt w' Y p e a' Z q f b') ∧ CellsAt w' w.heap.size #[.bool na, .slice A n c, .bool nb, .slice B m d] 52 ∧ CellsAt w' (w.heap.size + 1) #[.bool ya, .slice Y p e, .bool yb, .slice Z q f] 52 ∧ CellsAt w' (w.heap.size + 2) #[.bool false, .slice none 0 0, .bool false, .slice none 0 0] 52 ∧ Below w.heap.size w w' ∧ w.heap.size + 3 ≤ W.heap.size ∧ W.heap.size ≤ w'.heap.size
theorem mulKeep (w W : World) (na nb ya yb : Bool) (A B Y Z : Option Addr) (n c m d p e q f : Nat) (a b a' b' : List Nat) (h : RatAt w A n c a B m d b) (h' : RatAt w Y p e a' Z q f b') (hW : W = ((w.alloc (.cells #[.bool na, .slice A n c, .bool nb, .slice B m d] 52)).alloc (.cells #[.bool ya, .slice Y p e, .bool yb, .slice Z q f] 52)).alloc (.cells #[.bool false, .slice none 0 0, .bool false, .slice none 0 0] 52)) :
    MulKeep w W na A n c a nb B m d b ya Y p e a' yb Z q f b' := by
  obtain ⟨b0, b1, b2, bW, kW, hWs⟩ := boxes3 w _ _ _ _ _ _ hW
  intro w' hb
  exact ⟨⟨(h.keep kW).keep (Keeps.of_below hb (Nat.le_refl _)), (h'.keep kW).keep (Keeps.of_below hb (Nat.le_refl _))⟩, b0.below hb b0.lt, b1.below hb b1.lt, b2.below hb b2.lt, bW.trans (hb.mono (by omega)), by omega, hb.size⟩
theorem mulRet (w w2 : World) (b : Nat) (hb : b = w.heap.size + 2) {K : Nat} {s s' : Bool} {C C' : Option Addr} {k c k' c' : Nat} {l l' : List Nat} (B0 : CellsAt w2 b #[.bool false, .slice none 0 0, .bool false, .slice none 0 0] 52) (hB : Below w.heap.size w w2) (h : RatAt w2 C k c l C' k' c' l') (h1 : k ≤ K) (h2 : k' ≤ K) :
    ∀ W2, W2 = (((w2.setCell ⟨b, 0, none⟩ (.bool s)).setCell ⟨b, 1, none⟩ (.slice C k c)).setCell ⟨b, 2, none⟩ (.bool s')).setCell ⟨b, 3, none⟩ (.slice C' k' c') → CellsAt W2 b #[.bool s, .slice C k c, .bool s', .slice C' k' c'] 52 ∧ RatPost w K (.returned (ratV s C k c s' C' k' c')) W2 := by
  rintro _ rfl
  exact ⟨B0.set4 _ _ _ _, below_set4 hB (by omega) _ _ _ _, s, C, k, c, l, s', C', k', c', l', rfl, ⟨h.num.set4 B0 _ _ _ _, h.den.set4 B0 _ _ _ _⟩, h1, h2⟩
theorem ne_two (n : Nat) : (n + 1 + 1 = n) ↔ False := ⟨fun h => by omega, False.elim⟩
theorem ne_two' (n : Nat) : (n = n + 1 + 1) ↔ False := ⟨fun h => by omega, False.elim⟩
attribute [local simp] ne_two ne_two'
theorem putF {T G : Prop} (h : T) (k : T → G) : G := k h
theorem keeps_al {w W : World} (h : Keeps w W) (o : Obj) : Keeps w (W.alloc o) := h.trans (Keeps.alloc _ _)
theorem keeps_dr {w W : World} (h : Keeps w W) : Keeps w W.drew := h.trans (Keeps.drew _)
theorem cellsAt_dr {W : World} {b : Nat} {cs : Array Value} {t : TypeId} (h : CellsAt W b cs t) : CellsAt W.drew b cs t := h
theorem CellsAt.two {W : World} {b : Nat} {x y : Value} {t : TypeId} (h : CellsAt W b #[x, y] t) (u v : Value) : CellsAt ((W.setCell ⟨b, 0, none⟩ u).setCell ⟨b, 1, none⟩ v) b #[u, v] t := by
  simpa using (h.setSame (j := 0) u).setSame (j := 1) v
theorem CellsAt.k2 {W : World} {b : Nat} {x y : Value} {t : TypeId} (h : CellsAt W b #[x, y] t) : W.cell? ⟨b, 0, none⟩ = some x ∧ W.cell? ⟨b, 1, none⟩ = some y := by
  refine ⟨?_, ?_⟩ <;> (rw [h.cell]; rfl)
theorem magTwo {W : World} {A : Option Addr} {n c b : Nat} {l : List Nat} {z : Bool} {C : Option Addr} {m d : Nat} {t : TypeId} (hC : CellsAt W b #[.bool z, .slice C m d] t) (h : MagAt W A n c l) (u v : Value) : MagAt ((W.setCell ⟨b, 0, none⟩ u).setCell ⟨b, 1, none⟩ v) A n c l :=
  h.setTwo hC.k2.1 hC.k2.2 u v
/-- The eight cells of both arguments' boxes. -/
def C8 (W : World) (b : Nat) (x0 x1 x2 x3 y0 y1 y2 y3 : Value) : Prop :=
  W.cell? ⟨b, 0, none⟩ = some x0 ∧ W.cell? ⟨b, 1, none⟩ = some x1 ∧ W.cell? ⟨b, 2, none⟩ = some x2 ∧ W.cell? ⟨b, 3, none⟩ = some x3 ∧ W.cell? ⟨b + 1, 0, none⟩ = some y0 ∧ W.cell? ⟨b + 1, 1, none⟩ = some y1 ∧ W.cell? ⟨b + 1, 2, none⟩ = some y2 ∧ W.cell? ⟨b + 1, 3, none⟩ = some y3
theorem cell_al {W : World} {p : Addr} {x : Value} (h : W.cell? p = some x) (o : Obj) : (W.alloc o).cell? p = some x := by
  rw [World.cell?_alloc_lt _ _ _ (World.block_lt_of_cell? _ _ h)]; exact h
theorem cell_st {W : World} {b j g i : Nat} {x : Value} (h : W.cell? ⟨b, j, none⟩ = some x) (hg : g ≠ b) (v : Value) : (W.setCell ⟨g, i, none⟩ v).cell? ⟨b, j, none⟩ = some x :=
  (World.cell?_setCell_other _ _ _ _ (fun e => hg (by cases e; rfl))).trans h
section
variable {W : World} {b : Nat} {x0 x1 x2 x3 y0 y1 y2 y3 : Value}
theorem C8.alloc (h : C8 W b x0 x1 x2 x3 y0 y1 y2 y3) (o : Obj) : C8 (W.alloc o) b x0 x1 x2 x3 y0 y1 y2 y3 := by
  obtain ⟨h0, h1, h2, h3, h4, h5, h6, h7⟩ := h
  exact ⟨cell_al h0 o, cell_al h1 o, cell_al h2 o, cell_al h3 o, cell_al h4 o, cell_al h5 o, cell_al h6 o, cell_al h7 o⟩
theorem C8.set (h : C8 W b x0 x1 x2 x3 y0 y1 y2 y3) {g i : Nat} (h1 : g ≠ b) (h2 : g ≠ b + 1) (v : Value) : C8 (W.setCell ⟨g, i, none⟩ v) b x0 x1 x2 x3 y0 y1 y2 y3 := by
  obtain ⟨k0, k1, k2, k3, k4, k5, k6, k7⟩ := h
  exact ⟨cell_st k0 h1 v, cell_st k1 h1 v, cell_st k2 h1 v, cell_st k3 h1 v, cell_st k4 h2 v, cell_st k5 h2 v, cell_st k6 h2 v, cell_st k7 h2 v⟩
theorem C8.drew (h : C8 W b x0 x1 x2 x3 y0 y1 y2 y3) : C8 W.drew b x0 x1 x2 x3 y0 y1 y2 y3 := h
end
theorem belowAl {W W' : World} (h : Below W.heap.size W W') (o : Obj) : Below W.heap.size W (W'.alloc o) := h.alloc h.size _
theorem belowSt {W W' : World} (h : Below W.heap.size W W') {g j : Nat} (hg : W.heap.size ≤ g) (v : Value) : Below W.heap.size W (W'.setCell ⟨g, j, none⟩ v) := h.setCell (by simpa using hg) v
theorem belowDr {W W' : World} (h : Below W.heap.size W W') : Below W.heap.size W W'.drew := Below.drew h
theorem magAl {W : World} {A : Option Addr} {n c : Nat} {l : List Nat} (h : MagAt W A n c l) (o : Obj) : MagAt (W.alloc o) A n c l := h.keep (Keeps.alloc _ _)
theorem cellsSt {W : World} {b g : Nat} {cs : Array Value} {t : TypeId} (h : CellsAt W b cs t) (hg : g ≠ b) (j : Nat) (v : Value) : CellsAt (W.setCell ⟨g, j, none⟩ v) b cs t := h.setOther (fun e => hg e.symm) v
theorem CellsAt.twoZ {W : World} {b : Nat} (h : CellsAt W b #[.bool false, .slice none 0 0] 50) (u v : Value) : CellsAt ((W.setCell ⟨b, 0, none⟩ u).setCell ⟨b, 1, none⟩ v) b #[u, v] 50 := h.two u v
theorem magTwoZ {W : World} {A : Option Addr} {n c b : Nat} {l : List Nat} (h : MagAt W A n c l) (hC : CellsAt W b #[.bool false, .slice none 0 0] 50) (u v : Value) : MagAt ((W.setCell ⟨b, 0, none⟩ u).setCell ⟨b, 1, none⟩ v) A n c l := magTwo hC h u v
theorem cellsSt' {W : World} {b g : Nat} {cs : Array Value} {t : TypeId} (hg : g ≠ b) (h : CellsAt W b cs t) (j : Nat) (v : Value) : CellsAt (W.setCell ⟨g, j, none⟩ v) b cs t := cellsSt h hg j v
theorem ne8 {b s g : Nat} (h0 : b + 3 ≤ s) (h : s ≤ g) : (g ≠ b ∧ b ≠ g) ∧ (g ≠ b + 1 ∧ b + 1 ≠ g) ∧ (g + 1 ≠ b ∧ b ≠ g + 1) ∧ (g + 1 ≠ b + 1 ∧ b + 1 ≠ g + 1) ∧ (g ≠ b + 1 + 1 ∧ b + 1 + 1 ≠ g) := by omega
theorem ne4 {x y : Nat} (h : x < y) : (x ≠ y ∧ y ≠ x) ∧ (x ≠ y + 1 ∧ y + 1 ≠ x) := by omega
/-- What a call of GCD within Mul gives. -/
def GP (w W : World) (K : Nat) (na nb ya yb : Bool) (A B Y Z : Option Addr) (n c m d p e q f : Nat) (Wc : World) (e' : Ending) (w' : World) : Prop :=
  ∃ C k c' l, e' = .returned (.agg #[.bool false, .slice C k c']) ∧ Hid (MagAt w' C k c' l) ∧ k ≤ K + 2 ∧ Hid (Below W.heap.size W w') ∧ Hid (Below Wc.heap.size Wc w') ∧ Hid (∀ b cs t, CellsAt Wc b cs t → CellsAt w' b cs t) ∧ Hid (Keeps Wc w') ∧ W.heap.size ≤ w'.heap.size ∧ C8 w' w.heap.size (.bool na) (.slice A n c) (.bool nb) (.slice B m d) (.bool ya) (.slice Y p e) (.bool yb) (.slice Z q f)
theorem gp_of {w W : World} {K : Nat} {na nb ya yb : Bool} {A B Y Z : Option Addr} {n c m d p e q f : Nat} {a b a' b' : List Nat} (hKP : MulKeep w W na A n c a nb B m d b ya Y p e a' yb Z q f b') {Wc : World} {x y : Value} (hc : Below W.heap.size W Wc) (h : Calls Tryz.prog 38 #[x, y] Wc (GcdPost Wc (K + 2))) : Calls Tryz.prog 38 #[x, y] Wc (GP w W K na nb ya yb A B Y Z n c m d p e q f Wc) := by
  refine h.mono ?_
  rintro e' w' ⟨hb, C, k, c', l, he, hm, ht, hk⟩
  have hb' : Below W.heap.size W w' := hc.trans (hb.mono hc.size)
  obtain ⟨-, k0, k1, -, -, -, hz⟩ := hKP w' hb'
  have i0 := k0.k4
  have i1 := k1.k4
  exact ⟨C, k, c', l, he, Lib.hid hm, hk, Lib.hid hb', Lib.hid hb, Lib.hid (fun b cs t h => h.below hb h.lt), Lib.hid (Keeps.of_below hb (Nat.le_refl _)), hz, ⟨i0.1, i0.2.1, i0.2.2.1, i0.2.2.2, i1.1, i1.2.1, i1.2.2.1, i1.2.2.2⟩⟩
theorem gcd_first {w W : World} {K : Nat} {na nb ya yb : Bool} {A B Y Z : Option Addr} {n c m d p e q f : Nat} {a b a' b' : List Nat} (hKP : MulKeep w W na A n c a nb B m d b ya Y p e a' yb Z q f b') (hK : K ≤ 10000) (hn : n ≤ K) (hq : q ≤ 2) (Wc : World) (hc : Below W.heap.size W Wc) : Calls Tryz.prog 38 #[.agg #[.bool na, .slice A n c], .agg #[.bool yb, .slice Z q f]] Wc (GP w W K na nb ya yb A B Y Z n c m d p e q f Wc) :=
  gp_of hKP hc (gcd_any na yb A Z n c q f (K + 2) a b' Wc (by omega) (by omega) (by omega) (hKP Wc hc).1.1.num (hKP Wc hc).1.2.den)
theorem gcd_second {w W : World} {K : Nat} {na nb ya yb : Bool} {A B Y Z : Option Addr} {n c m d p e q f : Nat} {a b a' b' : List Nat} (hKP : MulKeep w W na A n c a nb B m d b ya Y p e a' yb Z q f b') (hK : K ≤ 10000) (hm : m ≤ K) (hp : p ≤ 2) (Wc : World) (hc : Below W.heap.size W Wc) : Calls Tryz.prog 38 #[.agg #[.bool ya, .slice Y p e], .agg #[.bool nb, .slice B m d]] Wc (GP w W K na nb ya yb A B Y Z n c m d p e q f Wc) :=
  gp_of hKP hc (gcd_any ya nb Y B p e m d (K + 2) a' b Wc (by omega) (by omega) (by omega) (hKP Wc hc).1.2.num (hKP Wc hc).1.1.den)
end Go.Proofs.YtpdbekgkopglgaaGreat
namespace Go.Proofs.YtpdbekgkopglgaaGreat
set_option linter.unusedVariables false
set_option linter.unusedSimpArgs false
open Go.RowKit Go.Sort
attribute [local go_sem ↓] Go.wp_at_zero Go.wp_at_succ

/-- One byte in a block of its own, as text. -/
theorem conv_byte (P : Program) (src dst e t : TypeId) (hs : P.underlying src = some (.slice e)) (he : P.underlying e = some (.int .u8)) (hd : P.underlying dst = some .string) (w : World) (r : Nat) (hr : r < 10) :
    (convert src dst (.slice (some ⟨w.heap.size, 0, none⟩) 1 1)).run P (w.alloc (.cells #[.int .u8 (48 + (r : Int))] t)) = .ok (.string ⟨#[UInt8.ofNat (48 + r)]⟩) (w.alloc (.cells #[.int .u8 (48 + (r : Int))] t)) := by
  refine run_convert_bytes_back _ src dst e ⟨w.heap.size, 0, none⟩ 1 [UInt8.ofNat (48 + r)] hs he hd ?_
  intro j hj
  obtain rfl : j = 0 := by simp at hj; omega
  have : (48 + r) % 256 = 48 + r := Nat.mod_eq_of_lt (by omega)
  simp [Addr.add, this]
theorem pow_ten (n : Nat) : 4294967296 ^ n ≤ 10 ^ (10 * n) := by
  rw [Nat.pow_mul]
  exact Nat.pow_le_pow_left (by omega) n
theorem div_ten {x d : Nat} (h0 : 0 < x) (h : x < 10 ^ d) : ∃ e, d = e + 1 ∧ x / 10 < 10 ^ e := by
  cases d with
  | zero => simp at h; omega
  | succ e => exact ⟨e, rfl, by rw [Nat.pow_succ] at h; omega⟩
def StrPost (w : World) (K : Nat) (e : Ending) (w' : World) : Prop := Below w.heap.size w w' ∧ ∃ s : ByteArray, e = .returned (.string s) ∧ s.size ≤ K
set_option maxRecDepth 100000 in
set_option maxHeartbeats 4000000 in
theorem format_any (neg : Bool) (A : Option Addr) (n c : Nat) (l : List Nat) (w : World) (hn : n ≤ 20000) (h : MagAt w A n c l) :
    Calls Tryz.prog 92 #[.agg #[.bool neg, .slice A n c]] w (StrPost w (10 * n + 1)) := by
  obtain ⟨W, hW⟩ : ∃ W, W = w.alloc (.cells #[.bool neg, .slice A n c] 50) := ⟨_, rfl⟩
  have b0 : CellsAt W w.heap.size #[.bool neg, .slice A n c] 50 := by rw [hW]; exact CellsAt.new _ _ _
  have BW : Hid (Below w.heap.size w W) := Lib.hid (by rw [hW]; exact (Below.refl _ _).alloc (Nat.le_refl _) _)
  have MW : MagAt W A n c l := by rw [hW]; exact h.keep (Keeps.alloc _ _)
  have hWs : w.heap.size < W.heap.size := b0.lt
  have B0 := Lib.hid b0
  have M0 := Lib.hid MW
  have TL : tlen l ≤ n := by have := tlen_le l; rwa [h.len] at this
  have NV : Hid (nv (trimN l) < 10 ^ (10 * n)) := Lib.hid (by rw [nv_trim]; exact Nat.lt_of_lt_of_le (nv_lt h.2.2) (by rw [h.len]; exact pow_ten n))
  have cN := norm_any neg A n c l W (by omega) MW
  have e0 : W.cell? ⟨w.heap.size, 0, none⟩ = some (.bool neg) := by rw [b0.cell]; rfl
  have e1 : W.cell? ⟨w.heap.size, 1, none⟩ = some (.slice A n c) := by rw [b0.cell]; rfl
  clear b0 MW h
  go_enter Tryz.func92, Tryz.ntmps92
  go_upto_region 1 with fail
  rw [← hW]
  have HW := Lib.hid hW
  clear hW
  go_wp2_with fail
  refine Calls.mono cN ?_
  rintro _ w1 ⟨rfl, hb1⟩
  have h1 := B0.out.below hb1 hWs
  have HB1 := Lib.hid (BW.out.trans (hb1.mono (by omega)))
  have M1 := Lib.hid (M0.out.trim.keep (Keeps.of_below hb1 (Nat.le_refl _)))
  have hz1 := hb1.size
  have hz : w.heap.size < w1.heap.size := by omega
  clear cN e0 e1 hb1 BW B0 M0 HW
  generalize (neg && decide (0 < tlen l)) = sg at *
  have T1 : Hid (Trm (trimN l)) := Lib.hid (trimN_trm l)
  generalize tlen l = k at *
  generalize trimN l = la at *
  have e0 : w1.cell? ⟨w.heap.size, 0, none⟩ = some (.bool neg) := by rw [h1.cell]; rfl
  have e1 : w1.cell? ⟨w.heap.size, 1, none⟩ = some (.slice A n c) := by rw [h1.cell]; rfl
  have f0 := h1.frozen 0
  have f1 := h1.frozen 1
  have C2 := Lib.hid (h1.two (.bool sg) (.slice A k c))
  have M2 := Lib.hid (M1.out.setTwo e0 e1 (.bool sg) (.slice A k c))
  have HB2 := Lib.hid ((HB1.out.setCell (p := ⟨w.heap.size, 0, none⟩) (by simp) (.bool sg)).setCell (p := ⟨w.heap.size, 1, none⟩) (by simp) (.slice A k c))
  clear h1 M1 HB1
  go_wp2_with fail
  go_loopg [3, 4] (nv la) (fun g sv mv wr => ∃ (s : ByteArray) (C : Option Addr) (m d : Nat) (q : List Nat) (D : Nat), sv = .string s ∧ mv = .slice C m d ∧ MagAt wr C m d q ∧ Trm q ∧ m ≤ n ∧ nv q = g ∧ nv q < 10 ^ D ∧ s.size + D ≤ 10 * n ∧ CellsAt wr w.heap.size #[.bool sg, .slice A k c] 50 ∧ Below w.heap.size w wr)
  case atStart => exact ⟨_, A, k, c, la, 10 * n, rfl, rfl, M2.out, T1.out, TL, rfl, NV.out, (by show 0 + 10 * n ≤ 10 * n; omega), C2.out, HB2.out⟩
  case round =>
    clear M2 C2 HB2 T1 NV e0 e1 f0 f1
    obtain ⟨s, C, m, d, q, D, rfl, rfl, hq, tq, hm, rfl, hD, hs, hc, hb⟩ := hrel
    rename World => wr
    have MQ := Lib.hid hq
    have TQ := Lib.hid tq
    have HD := Lib.hid hD
    have CR := Lib.hid hc
    have HB := Lib.hid hb
    have e0 : wr.cell? ⟨w.heap.size, 0, none⟩ = some (.bool sg) := by rw [hc.cell]; rfl
    have hzr := hc.lt
    clear hq tq hD hc hb
    by_cases h0 : m = 0
    · subst h0
      cases he : s.toList.isEmpty
      · cases sg
        · go_wp2_with fail
          go_ret
          exact ⟨HB.out, _, rfl, by omega⟩
        · go_wp2_with fail
          go_ret
          exact ⟨HB.out, _, rfl, by rw [ByteArray.size_append]; show 1 + s.size ≤ _; omega⟩
      · go_wp2_with fail
        go_ret
        exact ⟨HB.out, _, rfl, by show 1 ≤ _; omega⟩
    · have hm0 : (0 : Int) < (m : Int) := by omega
      have cB := by_any C m d q 10 wr (by omega) MQ.out (by omega) (by omega)
      have hp : Hid (0 < nv q) := Lib.hid (TQ.out.pos (by rw [MQ.out.len]; omega))
      obtain ⟨D', rfl, hD'⟩ := div_ten hp.out HD.out
      have HD' := Lib.hid hD'
      obtain ⟨r, hr, hr10⟩ : ∃ r, r = nv q % 10 ∧ r < 10 := ⟨_, rfl, Nat.mod_lt _ (by omega)⟩
      unfold ByPost at cB
      rw [← hr] at cB
      have hcv := fun (W : World) (t : TypeId) => conv_byte Tryz.prog 154 9 5 t rfl rfl rfl W r hr10
      clear hr hD' HD
      go_wp2_with fail
      refine Calls.mono cB ?_
      rintro _ w5 ⟨hb5, C5, n5, c5, q5, rfl, hm5, ht5, hv5⟩
      have M5 := Lib.hid hm5
      have T5 := Lib.hid ht5
      have V5 := Lib.hid hv5
      have HB5 := Lib.hid (HB.out.trans (hb5.mono (by omega)))
      have CR5 := Lib.hid (CR.out.below hb5 hzr)
      have hl5 : n5 ≤ n := by
        have h1 := len_le_of MQ.out.2.2 ht5 (by rw [hv5]; exact Nat.div_le_self _ _)
        rw [hm5.len, MQ.out.len] at h1
        omega
      have hz5 := hb5.size
      clear cB hb5 hm5 ht5 hv5
      go_wp2_with fail
      go_roundg (nv q5)
      case measure => rw [V5.out]; exact Nat.div_lt_self hp.out (by omega)
      case rel => exact ⟨_, C5, n5, c5, q5, D', rfl, rfl, M5.out.keep (Keeps.alloc _ _), T5.out, hl5, rfl, by rw [V5.out]; exact HD'.out, by rw [ByteArray.size_append]; show 1 + s.size + D' ≤ _; omega, CR5.out.alloc _, HB5.out.alloc (by omega) _⟩
end Go.Proofs.YtpdbekgkopglgaaGreat
namespace Go.Proofs.YtpdbekgkopglgaaGreat
set_option linter.unusedVariables false
set_option linter.unusedSimpArgs false
open Go.RowKit Go.Sort
attribute [local go_sem ↓] Go.wp_at_zero Go.wp_at_succ

def MulOK : Prop := ∀ (K : Nat) (w : World) (na nb ya yb : Bool) (A B Y Z : Option Addr) (n c m d p e q f : Nat) (a b a' b' : List Nat), K ≤ 10000 → n ≤ K → m ≤ K → p ≤ 2 → q ≤ 2 → RatAt w A n c a B m d b → RatAt w Y p e a' Z q f b' →
    Calls Tryz.prog 93 #[ratV na A n c nb B m d, ratV ya Y p e yb Z q f] w (RatPost w (K + 10))
def DecPost (w : World) (e : Ending) (w' : World) : Prop := Below w.heap.size w w' ∧ ∃ (s : ByteArray) (ok : Bool), e = .returned (.tuple #[.string s, .bool ok])
theorem decPost_ret {w w' : World} (h : Below w.heap.size w w') (s : ByteArray) (ok : Bool) : DecPost w (.returned (.tuple #[.string s, .bool ok])) w' := ⟨h, s, ok, rfl⟩
/-- What lies in memory while Decimal multiplies by ten. -/
structure DecM (w wr : World) (g4 g5 g6 : Nat) (s1 : Bool) (C1 : Option Addr) (k1 c1 : Nat) (q1 : List Nat) (s2 : Bool) (C2 : Option Addr) (k2 c2 : Nat) (q2 : List Nat) (s3 : Bool) (C3 : Option Addr) (k3 c3 : Nat) (q3 : List Nat) : Prop where
  ten : CellsAt wr g4 #[.bool s1, .slice C1 k1 c1, .bool s2, .slice C2 k2 c2] 52
  tenR : RatAt wr C1 k1 c1 q1 C2 k2 c2 q2
  one : CellsAt wr g5 #[.bool s3, .slice C3 k3 c3] 50
  oneM : MagAt wr C3 k3 c3 q3
  low : w.heap.size ≤ g4 ∧ g4 < g5 ∧ g5 < g6
  blw : Below w.heap.size w wr
theorem DecM.later {w wr wr' : World} {g4 g5 g6 : Nat} {s1 : Bool} {C1 : Option Addr} {k1 c1 : Nat} {q1 : List Nat} {s2 : Bool} {C2 : Option Addr} {k2 c2 : Nat} {q2 : List Nat} {s3 : Bool} {C3 : Option Addr} {k3 c3 : Nat} {q3 : List Nat}
    (h : DecM w wr g4 g5 g6 s1 C1 k1 c1 q1 s2 C2 k2 c2 q2 s3 C3 k3 c3 q3) (hb : Below wr.heap.size wr wr') : DecM w wr' g4 g5 g6 s1 C1 k1 c1 q1 s2 C2 k2 c2 q2 s3 C3 k3 c3 q3 :=
  ⟨h.ten.below hb h.ten.lt, h.tenR.keep (Keeps.of_below hb (Nat.le_refl _)), h.one.below hb h.one.lt, h.oneM.keep (Keeps.of_below hb (Nat.le_refl _)), h.low, h.blw.trans (hb.mono h.blw.size)⟩
theorem DecM.put {w wr : World} {g4 g5 g6 : Nat} {s1 : Bool} {C1 : Option Addr} {k1 c1 : Nat} {q1 : List Nat} {s2 : Bool} {C2 : Option Addr} {k2 c2 : Nat} {q2 : List Nat} {s3 : Bool} {C3 : Option Addr} {k3 c3 : Nat} {q3 : List Nat} {z z' : Bool} {X Y : Option Addr} {nx cx ny cy : Nat}
    (h : DecM w wr g4 g5 g6 s1 C1 k1 c1 q1 s2 C2 k2 c2 q2 s3 C3 k3 c3 q3) (hx : CellsAt wr g6 #[.bool z, .slice X nx cx, .bool z', .slice Y ny cy] 52) (u0 u1 u2 u3 : Value) :
    DecM w ((((wr.setCell ⟨g6, 0, none⟩ u0).setCell ⟨g6, 1, none⟩ u1).setCell ⟨g6, 2, none⟩ u2).setCell ⟨g6, 3, none⟩ u3) g4 g5 g6 s1 C1 k1 c1 q1 s2 C2 k2 c2 q2 s3 C3 k3 c3 q3 := by
  have h4 : g6 ≠ g4 := by have := h.low; omega
  have h5 : g6 ≠ g5 := by have := h.low; omega
  exact ⟨cellsSt (cellsSt (cellsSt (cellsSt h.ten h4 _ _) h4 _ _) h4 _ _) h4 _ _, ⟨h.tenR.num.set4 hx _ _ _ _, h.tenR.den.set4 hx _ _ _ _⟩, cellsSt (cellsSt (cellsSt (cellsSt h.one h5 _ _) h5 _ _) h5 _ _) h5 _ _, h.oneM.set4 hx _ _ _ _, h.low, below_set4 h.blw (by have := h.low; omega) _ _ _ _⟩
set_option maxRecDepth 100000 in
set_option maxHeartbeats 8000000 in
theorem decimal_of (hM : MulOK) (na nb : Bool) (A B : Option Addr) (n c m d : Nat) (a b : List Nat) (w : World) (hn : n ≤ 1000) (hm : m ≤ 1000) (h : RatAt w A n c a B m d b) :
    Calls Tryz.prog 86 #[ratV na A n c nb B m d] w (DecPost w) := by
  obtain ⟨W, hW⟩ : ∃ W, W = w.alloc (.cells #[.bool na, .slice A n c, .bool nb, .slice B m d] 52) := ⟨_, rfl⟩
  have b0 : CellsAt W w.heap.size #[.bool na, .slice A n c, .bool nb, .slice B m d] 52 := by rw [hW]; exact CellsAt.new _ _ _
  have BW : Hid (Below w.heap.size w W) := Lib.hid (by rw [hW]; exact (Below.refl _ _).alloc (Nat.le_refl _) _)
  have R0 : Hid (RatAt W A n c a B m d b) := Lib.hid (by rw [hW]; exact h.keep (Keeps.alloc _ _))
  have B0 := Lib.hid b0
  have hWs : w.heap.size < W.heap.size := b0.lt
  obtain ⟨e0, e1, e2, e3⟩ := b0.k4
  have cV := valid02_any na nb A B n c m d a b W (by omega) (by omega) R0.out
  have HM := Lib.hid hM
  have FI : Hid (∀ W, Calls Tryz.prog 90 #[.int .i64 1] W (IntPost W 2)) := Lib.hid fun W => fromint_any 1 W (by omega)
  have FT : Hid (∀ W, Calls Tryz.prog 89 #[.int .i64 10] W (RatPost W 2)) := Lib.hid fun W => fromint02_any 10 W (by omega)
  clear b0 h hM
  unfold ratV at *
  go_enter Tryz.func86, Tryz.ntmps86
  go_upto_region 1 with fail
  rw [← hW]
  have HW := Lib.hid hW
  clear hW
  go_wp2_with fail
  refine Calls.mono cV ?_
  rintro _ w1 ⟨v, rfl, hb1⟩
  have B1 := Lib.hid (B0.out.below hb1 B0.out.lt)
  have R1 := Lib.hid (R0.out.keep (Keeps.of_below hb1 (Nat.le_refl _)))
  have BW1 := Lib.hid (BW.out.trans (hb1.mono (by omega)))
  clear cV hb1 B0 R0 BW HW e0 e1 e2 e3 hWs
  obtain ⟨e0, e1, e2, e3⟩ := B1.out.k4
  cases v
  · go_wp2_with fail
    exact bodyPost_ret (v := .tuple #[.string (ByteArray.mk #[]), .bool false]) (by simp [results, Tryz.results86, go_sem]) rfl (decPost_ret BW1.out _ _)
  have cS := sign02_any na nb A B n c m d a b w1 (by omega) (by omega) R1.out
  unfold ratV at cS
  go_wp2_with fail
  refine Calls.mono cS ?_
  rintro _ w2 ⟨rfl, hb2⟩
  have B2 := Lib.hid (B1.out.below hb2 B1.out.lt)
  have R2 := Lib.hid (R1.out.keep (Keeps.of_below hb2 (Nat.le_refl _)))
  have BW2 := Lib.hid (BW1.out.trans (hb2.mono (by have := BW1.out.size; omega)))
  have hz2 := B2.out.lt
  clear cS hb2 B1 R1 BW1 e0 e1 e2 e3
  obtain ⟨e0, e1, e2, e3⟩ := B2.out.k4
  generalize sgnI na (tlen a) = sg at *
  by_cases hsg : sg < 0
  · go_wp2_with fail
    exact bodyPost_ret (v := .tuple #[.string (ByteArray.mk #[]), .bool false]) (by simp [results, Tryz.results86, go_sem]) rfl (decPost_ret BW2.out _ _)
  have c3 := FT.out w2
  go_wp2_with fail
  refine Calls.mono c3 ?_
  clear c3 FT
  rintro _ w3 ⟨hb3, s1, C1, k1, c1, q1, s2, C2, k2, c2, q2, rfl, hr3, hk1, hk2⟩
  unfold ratV
  obtain ⟨V3, hV3⟩ : ∃ V, V = w3.alloc (.cells #[.bool s1, .slice C1 k1 c1, .bool s2, .slice C2 k2 c2] 52) := ⟨_, rfl⟩
  have hb3' : Below w2.heap.size w2 V3 := by rw [hV3]; exact hb3.alloc hb3.size _
  have T3 : Hid (CellsAt V3 w3.heap.size #[.bool s1, .slice C1 k1 c1, .bool s2, .slice C2 k2 c2] 52) := Lib.hid (by rw [hV3]; exact CellsAt.new _ _ _)
  have TR3 : Hid (RatAt V3 C1 k1 c1 q1 C2 k2 c2 q2) := Lib.hid (by rw [hV3]; exact hr3.keep (Keeps.alloc _ _))
  have B3 := Lib.hid (B2.out.below hb3' B2.out.lt)
  have R3 := Lib.hid (R2.out.keep (Keeps.of_below hb3' (Nat.le_refl _)))
  have BW3 := Lib.hid (BW2.out.trans (hb3'.mono (by have := BW2.out.size; omega)))
  have hz3 := hb3.size
  have hz3' := T3.out.lt
  clear hb3 hb3' hr3 B2 R2 BW2 e0 e1 e2 e3
  obtain ⟨e0, e1, e2, e3⟩ := B3.out.k4
  have c4 := FI.out V3
  go_upto_region 4 with fail
  rw [← hV3]
  have HV3 := Lib.hid hV3
  clear hV3
  go_wp2_with fail
  refine Calls.mono c4 ?_
  clear c4 FI
  rintro _ w4 ⟨hb4, s3, C3, k3, c3, q3, rfl, hm4, hk3⟩
  have B4 := Lib.hid (B3.out.below hb4 B3.out.lt)
  have R4 := Lib.hid (R3.out.keep (Keeps.of_below hb4 (Nat.le_refl _)))
  have hz4 := hb4.size
  obtain ⟨V5, hV5⟩ : ∃ V, V = (w4.alloc (.cells #[.bool s3, .slice C3 k3 c3] 50)).alloc (.cells #[.bool na, .slice A n c, .bool nb, .slice B m d] 52) := ⟨_, rfl⟩
  have k5 : Below w4.heap.size w4 V5 := by rw [hV5]; exact ((Below.refl _ _).alloc (Nat.le_refl _) _).alloc (by simp) _
  have DM : Hid (DecM w V5 w3.heap.size w4.heap.size (w4.heap.size + 1) s1 C1 k1 c1 q1 s2 C2 k2 c2 q2 s3 C3 k3 c3 q3) := Lib.hid
    ⟨(T3.out.below hb4 T3.out.lt).below k5 (by omega), (TR3.out.keep (Keeps.of_below hb4 (Nat.le_refl _))).keep (Keeps.of_below k5 (Nat.le_refl _)), by rw [hV5]; exact (CellsAt.new _ _ _).alloc _, hm4.keep (Keeps.of_below k5 (Nat.le_refl _)), by omega, (BW3.out.trans (hb4.mono (by have := BW3.out.size; omega))).trans (k5.mono (by have := BW3.out.size; omega))⟩
  have X5 : Hid (CellsAt V5 (w4.heap.size + 1) #[.bool na, .slice A n c, .bool nb, .slice B m d] 52) := Lib.hid (by rw [hV5]; exact CellsAt.new_at (by simp) _ _)
  have XR5 := Lib.hid (R4.out.keep (Keeps.of_below k5 (Nat.le_refl _)))
  clear hb4 hm4 k5 B3 R3 BW3 T3 TR3 e0 e1 e2 e3 HV3 R4
  obtain ⟨e0, e1, e2, e3⟩ := B4.out.k4
  have a0 := cell_al e0 (.cells #[.bool s3, .slice C3 k3 c3] 50)
  have a1 := cell_al e1 (.cells #[.bool s3, .slice C3 k3 c3] 50)
  have a2 := cell_al e2 (.cells #[.bool s3, .slice C3 k3 c3] 50)
  have a3 := cell_al e3 (.cells #[.bool s3, .slice C3 k3 c3] 50)
  go_upto_region 6 with fail
  rw [← hV5]
  have HV5 := Lib.hid hV5
  clear hV5 B4 e0 e1 e2 e3 a0 a1 a2 a3
  generalize w3.heap.size = g4 at *
  generalize w4.heap.size = g5 at *
  go_wp2_with fail
  go_loopg [7] 41 (fun g kv wr => ∃ (k : Nat) (sx : Bool) (X : Option Addr) (nx cx : Nat) (qx : List Nat) (sy : Bool) (Y : Option Addr) (ny cy : Nat) (qy : List Nat), kv = .int .i64 (k : Int) ∧ k + g = 41 ∧ nx ≤ 1000 + 10 * k ∧ ny ≤ 1000 + 10 * k ∧ CellsAt wr (g5 + 1) #[.bool sx, .slice X nx cx, .bool sy, .slice Y ny cy] 52 ∧ RatAt wr X nx cx qx Y ny cy qy ∧ DecM w wr g4 g5 (g5 + 1) s1 C1 k1 c1 q1 s2 C2 k2 c2 q2 s3 C3 k3 c3 q3)
  case atStart => exact ⟨0, na, A, n, c, a, nb, B, m, d, b, rfl, rfl, by omega, by omega, X5.out, XR5.out, DM.out⟩
  case round =>
    clear X5 XR5 DM HV5
    obtain ⟨k, sx, X, nx, cx, qx, sy, Y, ny, cy, qy, rfl, hkg, hnx, hny, hx, hxr, hdm⟩ := hrel
    rename World => wr
    have HX := Lib.hid hx
    have XR := Lib.hid hxr
    have DM := Lib.hid hdm
    obtain ⟨e0, e1, e2, e3⟩ := hx.k4
    obtain ⟨o0, o1⟩ := hdm.one.k2
    obtain ⟨t0, t1, t2, t3⟩ := hdm.ten.k4
    clear hx hxr hdm
    by_cases hk : k ≤ 40
    · have cE := same01_any sy s3 Y C3 ny cy k3 c3 qy q3 wr (by omega) (by omega) XR.out.den DM.out.oneM
      have hki : (k : Int) ≤ 40 := by omega
      go_wp2_with fail
      refine Calls.mono cE ?_
      rintro _ w6 ⟨o, rfl, hb6⟩
      have HX6 := Lib.hid (HX.out.below hb6 HX.out.lt)
      have XR6 := Lib.hid (XR.out.keep (Keeps.of_below hb6 (Nat.le_refl _)))
      have DM6 := Lib.hid (DM.out.later hb6)
      clear cE hb6 HX XR DM e0 e1 e2 e3 o0 o1 t0 t1 t2 t3
      obtain ⟨e0, e1, e2, e3⟩ := HX6.out.k4
      obtain ⟨t0, t1, t2, t3⟩ := DM6.out.ten.k4
      cases o
      · have cM := HM.out (1000 + 10 * k) w6 sx sy s1 s2 X Y C1 C2 nx cx ny cy k1 c1 k2 c2 qx qy q1 q2 (by omega) hnx hny hk1 hk2 XR6.out DM6.out.tenR
        unfold ratV at cM
        go_wp2_with fail
        refine Calls.mono cM ?_
        rintro _ w7 ⟨hb7, z1, Z1, l1, d1, r1, z2, Z2, l2, d2, r2, rfl, hr7, hl1, hl2⟩
        have HX7 := Lib.hid (HX6.out.below hb7 HX6.out.lt)
        have DM7 := Lib.hid (DM6.out.later hb7)
        have M7 := Lib.hid hr7
        clear cM hb7 HX6 XR6 DM6 e0 e1 e2 e3 t0 t1 t2 t3 hr7
        obtain ⟨e0, e1, e2, e3⟩ := HX7.out.k4
        have f0 := HX7.out.frozen 0
        have f1 := HX7.out.frozen 1
        have f2 := HX7.out.frozen 2
        have f3 := HX7.out.frozen 3
        have HX8 := Lib.hid (HX7.out.set4 (.bool z1) (.slice Z1 l1 d1) (.bool z2) (.slice Z2 l2 d2))
        have DM8 := Lib.hid (DM7.out.put HX7.out (.bool z1) (.slice Z1 l1 d1) (.bool z2) (.slice Z2 l2 d2))
        have M8 : Hid (RatAt _ Z1 l1 d1 r1 Z2 l2 d2 r2) := Lib.hid ⟨M7.out.num.set4 HX7.out (.bool z1) (.slice Z1 l1 d1) (.bool z2) (.slice Z2 l2 d2), M7.out.den.set4 HX7.out (.bool z1) (.slice Z1 l1 d1) (.bool z2) (.slice Z2 l2 d2)⟩
        clear HX7 DM7 M7
        unfold ratV
        go_wp2_with fail
        go_roundg (41 - (k + 1))
        case measure => omega
        case rel => exact ⟨k + 1, z1, Z1, l1, d1, r1, z2, Z2, l2, d2, r2, by go_num, by omega, by omega, by omega, HX8.out, M8.out, DM8.out⟩
      · have cF := format_any sx X nx cx qx w6 (by omega) XR6.out.num
        have BW6 := Lib.hid DM6.out.blw
        go_wp2_with fail
        refine Calls.mono cF ?_
        rintro _ w7 ⟨hb7, s, rfl, hs⟩
        have BW7 := Lib.hid (BW6.out.trans (hb7.mono BW6.out.size))
        clear cF hb7 HX6 XR6 DM6 e0 e1 e2 e3 t0 t1 t2 t3
        have hs' : s.size ≤ 100000 := by omega
        go_wp2_with fail
        go_loopg [8] (k + 1) (fun g sv wq => ∃ s : ByteArray, sv = .string s ∧ s.size ≤ 200000 ∧ k + 1 ≤ s.size + g ∧ wq = w7)
        case atStart => exact ⟨s, rfl, by omega, by omega, rfl⟩
        case round =>
          obtain ⟨s', rfl, hs1, hs2, rfl⟩ := hrel
          by_cases hsk : s'.size ≤ k
          · have hski : (s'.size : Int) ≤ (k : Int) := by omega
            go_wp2_with fail
            go_roundg (k - s'.size)
            case measure => omega
            case rel => exact ⟨_, rfl, by rw [ByteArray.size_append]; show 1 + s'.size ≤ _; omega, by rw [ByteArray.size_append]; show k + 1 ≤ 1 + s'.size + (k - s'.size); omega, rfl⟩
          · have hski : ¬ (s'.size : Int) ≤ (k : Int) := by omega
            by_cases hk0 : k = 0
            · have hk0i : ¬ (0 : Int) < (k : Int) := by omega
              clear hk0
              go_wp2_with fail
              exact bodyPost_ret (v := .tuple #[.string s', .bool (decide ((s'.size : Int) ≤ 40))]) (by simp [results, Tryz.results86, go_sem]) rfl (decPost_ret BW7.out _ _)
            · have hk0i : (0 : Int) < (k : Int) := by omega
              obtain ⟨j, hj⟩ : ∃ j, s'.size = j + k := ⟨s'.size - k, by omega⟩
              have hw2 : ((s'.size : Int) - (k : Int)) = (j : Int) := by omega
              have hj0 : (0 : Int) ≤ (j : Int) := by omega
              have hj1 : (j : Int) ≤ (s'.size : Int) := by omega
              have hj2 : j ≤ s'.size := by omega
              have Hj := Lib.hid hj
              clear hj
              go_upto_region 14 with fail
              go_region
              all_goals
                go_wp2_with fail
                exact bodyPost_ret (v := .tuple #[.string (s'.extract 0 j ++ { data := #[46] } ++ s'.extract j s'.size), .bool (decide ((j : Int) + 1 + ((s'.size - j : Nat) : Int) ≤ 40))]) (by simp [results, Tryz.results86, go_sem]) rfl (decPost_ret BW7.out.drew _ _)
    · obtain rfl : k = 41 := by omega
      have BW6 := Lib.hid DM.out.blw
      go_wp2_with fail
      exact bodyPost_ret (v := .tuple #[.string (ByteArray.mk #[]), .bool false]) (by simp [results, Tryz.results86, go_sem]) rfl (decPost_ret BW6.out _ _)
end Go.Proofs.YtpdbekgkopglgaaGreat
