/-
  Contracts and lemmas for the statement, joined: Vb, Vc, Vk, Vh.
-/
import Derived.Test.YtpdbekgkopglgaaGreatJ12
import Derived.Test.YtpdbekgkopglgaaGreatJ9
namespace Go.Proofs.YtpdbekgkopglgaaGreat
set_option linter.unusedVariables false
set_option linter.unusedSimpArgs false
open Go.RowKit Go.Sort
attribute [local go_sem ↓] Go.wp_at_zero Go.wp_at_succ

/-- How many points a constraint of kind k + 1 has. -/
def ptsK (k : Nat) : Int := ([1, 2, 3, 3, 4, 4, 4, 4, 3, 4, 2, 2, 1, 0, 0, 2, 0] : List Int).getD k 0
/-- The cells of the rows: what is told of them. -/
def RowsCs (cs : Array Value) : Prop := ∀ k : Nat, k < 17 → ∃ (s : ByteArray) (c v a q : Int) (b : Bool), cs[k * 7]? = some (.string s) ∧ cs[k * 7 + 1]? = some (.int .i64 (ptsK k)) ∧ cs[k * 7 + 2]? = some (.int .i64 c) ∧ cs[k * 7 + 3]? = some (.int .i64 v) ∧ cs[k * 7 + 4]? = some (.int .i64 a) ∧ cs[k * 7 + 5]? = some (.int .i64 q) ∧ cs[k * 7 + 6]? = some (.bool b)
set_option maxRecDepth 100000 in
set_option maxHeartbeats 4000000 in
theorem rows_any (w : World) : Calls Tryz.prog 56 #[] w fun e w' => ∃ cs, e = .returned (.slice (some ⟨w.heap.size, 0, none⟩) 17 17) ∧ w' = w.alloc (.cells cs 90) ∧ RowsCs cs := by
  go_enter Tryz.func56, Tryz.ntmps56
  go_wp2_with fail
  refine bodyPost_ret (v := .slice (some ⟨w.heap.size, 0, none⟩) 17 17) (by simp [results, Tryz.results56, go_sem]) rfl ⟨_, rfl, rfl, fun k hk => ?_⟩
  match k, hk with
  | 0, _ => exact ⟨_, _, _, _, _, _, rfl, rfl, rfl, rfl, rfl, rfl, rfl⟩
  | 1, _ => exact ⟨_, _, _, _, _, _, rfl, rfl, rfl, rfl, rfl, rfl, rfl⟩
  | 2, _ => exact ⟨_, _, _, _, _, _, rfl, rfl, rfl, rfl, rfl, rfl, rfl⟩
  | 3, _ => exact ⟨_, _, _, _, _, _, rfl, rfl, rfl, rfl, rfl, rfl, rfl⟩
  | 4, _ => exact ⟨_, _, _, _, _, _, rfl, rfl, rfl, rfl, rfl, rfl, rfl⟩
  | 5, _ => exact ⟨_, _, _, _, _, _, rfl, rfl, rfl, rfl, rfl, rfl, rfl⟩
  | 6, _ => exact ⟨_, _, _, _, _, _, rfl, rfl, rfl, rfl, rfl, rfl, rfl⟩
  | 7, _ => exact ⟨_, _, _, _, _, _, rfl, rfl, rfl, rfl, rfl, rfl, rfl⟩
  | 8, _ => exact ⟨_, _, _, _, _, _, rfl, rfl, rfl, rfl, rfl, rfl, rfl⟩
  | 9, _ => exact ⟨_, _, _, _, _, _, rfl, rfl, rfl, rfl, rfl, rfl, rfl⟩
  | 10, _ => exact ⟨_, _, _, _, _, _, rfl, rfl, rfl, rfl, rfl, rfl, rfl⟩
  | 11, _ => exact ⟨_, _, _, _, _, _, rfl, rfl, rfl, rfl, rfl, rfl, rfl⟩
  | 12, _ => exact ⟨_, _, _, _, _, _, rfl, rfl, rfl, rfl, rfl, rfl, rfl⟩
  | 13, _ => exact ⟨_, _, _, _, _, _, rfl, rfl, rfl, rfl, rfl, rfl, rfl⟩
  | 14, _ => exact ⟨_, _, _, _, _, _, rfl, rfl, rfl, rfl, rfl, rfl, rfl⟩
  | 15, _ => exact ⟨_, _, _, _, _, _, rfl, rfl, rfl, rfl, rfl, rfl, rfl⟩
  | 16, _ => exact ⟨_, _, _, _, _, _, rfl, rfl, rfl, rfl, rfl, rfl, rfl⟩
  | k + 17, hk => exact absurd hk (by omega)
end Go.Proofs.YtpdbekgkopglgaaGreat
namespace Go.Proofs.YtpdbekgkopglgaaGreat
set_option linter.unusedVariables false
set_option linter.unusedSimpArgs false
open Go.RowKit Go.Sort
attribute [local go_sem ↓] Go.wp_at_zero Go.wp_at_succ

/-- The row of a kind: false, or the kind is one of 17 and the number of points is known. -/
def OfPost (w : World) (kind : Int) (e : Ending) (w' : World) : Prop :=
  Below w.heap.size w w' ∧ ∃ (s : ByteArray) (p c v a q : Int) (b ok : Bool), e = .returned (.tuple #[.agg #[.string s, .int .i64 p, .int .i64 c, .int .i64 v, .int .i64 a, .int .i64 q, .bool b], .bool ok]) ∧ (ok = true → ∃ k : Nat, k < 17 ∧ kind = (k : Int) + 1 ∧ p = ptsK k)
def rowV (s : ByteArray) (p c v a q : Int) (b : Bool) : Array Value := #[.string s, .int .i64 p, .int .i64 c, .int .i64 v, .int .i64 a, .int .i64 q, .bool b]
def put7 (W : World) (b : Nat) (x0 x1 x2 x3 x4 x5 x6 : Value) : World := ((((((W.setCell ⟨b, 0, none⟩ x0).setCell ⟨b, 1, none⟩ x1).setCell ⟨b, 2, none⟩ x2).setCell ⟨b, 3, none⟩ x3).setCell ⟨b, 4, none⟩ x4).setCell ⟨b, 5, none⟩ x5).setCell ⟨b, 6, none⟩ x6
theorem put7_cells {W : World} {b : Nat} {y0 y1 y2 y3 y4 y5 y6 : Value} {t : TypeId} (h : CellsAt W b #[y0, y1, y2, y3, y4, y5, y6] t) (x0 x1 x2 x3 x4 x5 x6 : Value) : CellsAt (put7 W b x0 x1 x2 x3 x4 x5 x6) b #[x0, x1, x2, x3, x4, x5, x6] t := by
  have := ((((((h.setSame (j := 0) x0).setSame (j := 1) x1).setSame (j := 2) x2).setSame (j := 3) x3).setSame (j := 4) x4).setSame (j := 5) x5).setSame (j := 6) x6
  simpa [put7] using this
theorem put7_below {B : Nat} {w W : World} {b : Nat} (h : Below B w W) (hb : B ≤ b) (x0 x1 x2 x3 x4 x5 x6 : Value) : Below B w (put7 W b x0 x1 x2 x3 x4 x5 x6) :=
  ((((((h.setCell (by exact hb) _).setCell (by exact hb) _).setCell (by exact hb) _).setCell (by exact hb) _).setCell (by exact hb) _).setCell (by exact hb) _).setCell (by exact hb) _
set_option maxRecDepth 100000 in
set_option maxHeartbeats 8000000 in
theorem of_any (kind : Int) (w : World) : Calls Tryz.prog 40 #[.int .i64 kind] w (OfPost w kind) := by
  obtain ⟨W, hW⟩ : ∃ W, W = w.alloc (.cells #[.string (ByteArray.mk #[]), .int .i64 0, .int .i64 0, .int .i64 0, .int .i64 0, .int .i64 0, .bool false] 90) := ⟨_, rfl⟩
  have B0 : Hid (CellsAt W w.heap.size #[.string (ByteArray.mk #[]), .int .i64 0, .int .i64 0, .int .i64 0, .int .i64 0, .int .i64 0, .bool false] 90) := Lib.hid (by rw [hW]; exact CellsAt.new _ _ _)
  have BW : Hid (Below w.heap.size w W) := Lib.hid (by rw [hW]; exact (Below.refl _ _).alloc (Nat.le_refl _) _)
  have hWs : W.heap.size = w.heap.size + 1 := by rw [hW]; simp
  by_cases h1 : kind < 1
  · go_enter Tryz.func40, Tryz.ntmps40
    go_wp2_with fail
    exact bodyPost_ret (v := .tuple #[.agg #[.string (ByteArray.mk #[]), .int .i64 0, .int .i64 0, .int .i64 0, .int .i64 0, .int .i64 0, .bool false], .bool false]) (by simp [results, Tryz.results40, go_sem]) rfl ⟨(Below.refl _ _).alloc (Nat.le_refl _) _, _, _, _, _, _, _, _, _, rfl, fun h => by cases h⟩
  have cR := rows_any W
  go_enter Tryz.func40, Tryz.ntmps40
  go_upto_region 1 with fail
  rw [← hW]
  have HW := Lib.hid hW
  clear hW
  go_wp2_with fail
  refine Calls.mono cR ?_
  rintro _ w1 ⟨cs1, rfl, hw1, -⟩
  have hb1 : Below W.heap.size W w1 := by rw [hw1]; exact (Below.refl _ _).alloc (Nat.le_refl _) _
  have B1 := Lib.hid (B0.out.below hb1 (by omega))
  have BW1 := Lib.hid (BW.out.trans (hb1.mono (by omega)))
  have hz1 : w.heap.size + 1 ≤ w1.heap.size := by have := hb1.size; omega
  clear cR hw1 hb1 HW B0 BW hWs
  by_cases h17 : 17 < kind
  · have e : ∀ j x, (#[.string (ByteArray.mk #[]), .int .i64 0, .int .i64 0, .int .i64 0, .int .i64 0, .int .i64 0, .bool false] : Array Value)[j]? = some x → w1.cell? ⟨w.heap.size, j, none⟩ = some x := fun j x h => by rw [B1.out.cell]; exact h
    have e0 := e 0 (.string (ByteArray.mk #[])) rfl
    have e1 := e 1 (.int .i64 0) rfl
    have e2 := e 2 (.int .i64 0) rfl
    have e3 := e 3 (.int .i64 0) rfl
    have e4 := e 4 (.int .i64 0) rfl
    have e5 := e 5 (.int .i64 0) rfl
    have e6 := e 6 (.bool false) rfl
    have f := B1.out.frozen
    clear e
    have B2 := Lib.hid (put7_cells B1.out (.string (ByteArray.mk #[])) (.int .i64 0) (.int .i64 0) (.int .i64 0) (.int .i64 0) (.int .i64 0) (.bool false))
    have BB := Lib.hid (put7_below BW1.out (Nat.le_refl _) (b := w.heap.size) (.string (ByteArray.mk #[])) (.int .i64 0) (.int .i64 0) (.int .i64 0) (.int .i64 0) (.int .i64 0) (.bool false))
    go_wp2_with fail
    have b2 := B2.out
    have bb := BB.out
    unfold put7 at b2 bb
    have r0 := b2.cell 0
    have r1 := b2.cell 1
    have r2 := b2.cell 2
    have r3 := b2.cell 3
    have r4 := b2.cell 4
    have r5 := b2.cell 5
    have r6 := b2.cell 6
    simp at r0 r1 r2 r3 r4 r5 r6
    exact bodyPost_ret (v := .tuple #[.agg #[.string (ByteArray.mk #[]), .int .i64 0, .int .i64 0, .int .i64 0, .int .i64 0, .int .i64 0, .bool false], .bool false]) (by simp [results, Tryz.results40, go_sem, r0, r1, r2, r3, r4, r5, r6]) rfl ⟨bb, _, _, _, _, _, _, _, _, rfl, fun h => by cases h⟩
  · obtain ⟨k, rfl⟩ : ∃ k : Nat, kind = (k : Int) + 1 := ⟨(kind - 1).toNat, by omega⟩
    have hk : k < 17 := by omega
    have cR := rows_any w1
    go_wp2_with fail
    refine Calls.mono cR ?_
    rintro _ w2 ⟨cs2, rfl, hw2, hrc⟩
    obtain ⟨s, cc, vv, aa, qq, bq, t0, t1, t2, t3, t4, t5, t6⟩ := hrc k hk
    have hb2 : Below w1.heap.size w1 w2 := by rw [hw2]; exact (Below.refl _ _).alloc (Nat.le_refl _) _
    have CC : CellsAt w2 w1.heap.size cs2 90 := by rw [hw2]; exact CellsAt.new _ _ _
    have B2' := Lib.hid (B1.out.below hb2 (by omega))
    have BW2 := Lib.hid (BW1.out.trans (hb2.mono (by omega)))
    have u0 := (CC.cell (k * 7)).trans t0
    have u1 := (CC.cell (k * 7 + 1)).trans t1
    have u2 := (CC.cell (k * 7 + 2)).trans t2
    have u3 := (CC.cell (k * 7 + 3)).trans t3
    have u4 := (CC.cell (k * 7 + 4)).trans t4
    have u5 := (CC.cell (k * 7 + 5)).trans t5
    have u6 := (CC.cell (k * 7 + 6)).trans t6
    clear cR hw2 hrc t0 t1 t2 t3 t4 t5 t6 hb2 CC B1 BW1
    have B1 := B2'
    have BW1 := BW2
    clear B2' BW2
    have e : ∀ j x, (#[.string (ByteArray.mk #[]), .int .i64 0, .int .i64 0, .int .i64 0, .int .i64 0, .int .i64 0, .bool false] : Array Value)[j]? = some x → w2.cell? ⟨w.heap.size, j, none⟩ = some x := fun j x h => by rw [B1.out.cell]; exact h
    have e0 := e 0 (.string (ByteArray.mk #[])) rfl
    have e1 := e 1 (.int .i64 0) rfl
    have e2 := e 2 (.int .i64 0) rfl
    have e3 := e 3 (.int .i64 0) rfl
    have e4 := e 4 (.int .i64 0) rfl
    have e5 := e 5 (.int .i64 0) rfl
    have e6 := e 6 (.bool false) rfl
    have f := B1.out.frozen
    clear e
    have hk0 : (0 : Int) ≤ (k : Int) := by omega
    have hk1 : (k : Int) < 17 := by omega
    have B2 := Lib.hid (put7_cells B1.out (.string s) (.int .i64 (ptsK k)) (.int .i64 cc) (.int .i64 vv) (.int .i64 aa) (.int .i64 qq) (.bool bq))
    have BB := Lib.hid (put7_below BW1.out (Nat.le_refl _) (b := w.heap.size) (.string s) (.int .i64 (ptsK k)) (.int .i64 cc) (.int .i64 vv) (.int .i64 aa) (.int .i64 qq) (.bool bq))
    go_wp2_with fail
    have b2 := B2.out
    have bb := BB.out
    unfold put7 at b2 bb
    have r0 := b2.cell 0
    have r1 := b2.cell 1
    have r2 := b2.cell 2
    have r3 := b2.cell 3
    have r4 := b2.cell 4
    have r5 := b2.cell 5
    have r6 := b2.cell 6
    simp at r0 r1 r2 r3 r4 r5 r6
    exact bodyPost_ret (v := .tuple #[.agg #[.string s, .int .i64 (ptsK k), .int .i64 cc, .int .i64 vv, .int .i64 aa, .int .i64 qq, .bool bq], .bool true]) (by simp [results, Tryz.results40, go_sem, r0, r1, r2, r3, r4, r5, r6]) rfl ⟨bb, _, _, _, _, _, _, _, _, rfl, fun _ => ⟨k, hk, rfl, rfl⟩⟩
end Go.Proofs.YtpdbekgkopglgaaGreat
namespace Go.Proofs.YtpdbekgkopglgaaGreat
set_option linter.unusedVariables false
set_option linter.unusedSimpArgs false
open Go.RowKit Go.Sort
attribute [local go_sem ↓] Go.wp_at_zero Go.wp_at_succ

/-- The five cells of a constraint. -/
def conC (kind : Int) (P : Option Addr) (n c : Nat) (C : Option Addr) (m d : Nat) (V : Option Addr) (v e : Nat) (side : Int) : Array Value := #[.int .i64 kind, .slice P n c, .slice C m d, .slice V v e, .int .i64 side]
def ConAt (w : World) (cs : Array Value) : Prop := ∃ (kind : Int) (P : Option Addr) (n c : Nat) (ps : List Int) (C : Option Addr) (m d : Nat) (qs : List Int) (V : Option Addr) (v e : Nat) (side : Int), cs = conC kind P n c C m d V v e side ∧ Rd w 1 P n (ints ps) ∧ Rd w 1 C m (ints qs) ∧ (n ≤ maxLen ∧ m ≤ maxLen ∧ v ≤ maxLen) ∧ SlAt w 7 V v (ExprAt 62 w)
def OkC (w : World) (cs : Array Value) : Prop := ∃ (kind : Int) (P : Option Addr) (n c : Nat) (ps : List Int) (C : Option Addr) (m d : Nat) (qs : List Int) (V : Option Addr) (v e : Nat) (side : Int), cs = conC kind P n c C m d V v e side ∧ Rd w 1 P n (ints ps) ∧ Rd w 1 C m (ints qs) ∧ (n ≤ 10 ∧ m ≤ 10 ∧ v ≤ 10) ∧ SlAt w 7 V v (OkE 62 w)
theorem ConAt.keep {w w' : World} {cs : Array Value} (h : ConAt w cs) (k : Keeps w w') : ConAt w' cs := by
  obtain ⟨kind, P, n, c, ps, C, m, d, qs, V, v, e, side, h1, h2, h3, h4, h5⟩ := h
  exact ⟨kind, P, n, c, ps, C, m, d, qs, V, v, e, side, h1, h2.keep k, h3.keep k, h4, h5.keep k (fun cs h => ExprAt.keep k h)⟩
theorem OkC.keep {w w' : World} {cs : Array Value} (h : OkC w cs) (k : Keeps w w') : OkC w' cs := by
  obtain ⟨kind, P, n, c, ps, C, m, d, qs, V, v, e, side, h1, h2, h3, h4, h5⟩ := h
  exact ⟨kind, P, n, c, ps, C, m, d, qs, V, v, e, side, h1, h2.keep k, h3.keep k, h4, h5.keep k (fun cs h => OkE.keep k h)⟩
/-- What Valid gives: a distance that is valid has two points. -/
def ConPost (cs : Array Value) (w : World) (e : Ending) (w' : World) : Prop := Below w.heap.size w w' ∧ ∃ b : Bool, e = .returned (.bool b) ∧ (b = true → cs[0]? = some (.int .i64 2) → ∃ P c, cs[1]? = some (.slice P 2 c))
theorem conPost_no {cs : Array Value} {w w' : World} (h : Below w.heap.size w w') : ConPost cs w (.returned (.bool false)) w' := ⟨h, false, rfl, fun h => by cases h⟩
theorem conPost_ret {w w' : World} {kind : Int} {P : Option Addr} {n c : Nat} {C : Option Addr} {m d : Nat} {V : Option Addr} {v e : Nat} {side : Int} {r : Bool} (h : Below w.heap.size w w') (hk : ∃ k : Nat, k < 17 ∧ kind = (k : Int) + 1 ∧ (n : Int) = ptsK k) : ConPost (conC kind P n c C m d V v e side) w (.returned (.bool r)) w' := ⟨h, r, rfl, fun _ h2 => by
  obtain ⟨k, h3, h4, h5⟩ := hk
  have : kind = 2 := by simpa [conC] using h2
  obtain rfl : k = 1 := by omega
  obtain rfl : n = 2 := by have : ptsK 1 = 2 := rfl; omega
  exact ⟨P, c, rfl⟩⟩
theorem below_dN {B : Nat} {a w : World} (h : Below B a w) (n : Nat) : Below B a (w.drewN n) := h.trans ⟨rfl, rfl, rfl, Nat.le_refl _, fun _ _ => rfl⟩
theorem four_off {w : World} {P : Option Addr} {ps : List Int} (h : Rd w 1 P 4 (ints ps)) : ∃ ad x y z u, P = some ad ∧ w.cell? ad = some (.int .i64 x) ∧ w.cell? ⟨ad.block, ad.off + 1, none⟩ = some (.int .i64 y) ∧ w.cell? ⟨ad.block, ad.off + 2, none⟩ = some (.int .i64 z) ∧ w.cell? ⟨ad.block, ad.off + 3, none⟩ = some (.int .i64 u) := by
  obtain ⟨ad, rfl, -, h0⟩ := h.int_at (k := 0) (by omega)
  obtain ⟨ad1, e1, -, h1⟩ := h.int_at (k := 1) (by omega)
  obtain ⟨ad2, e2, -, h2⟩ := h.int_at (k := 2) (by omega)
  obtain ⟨ad3, e3, -, h3⟩ := h.int_at (k := 3) (by omega)
  cases e1; cases e2; cases e3
  rw [add_ne _ (by omega)] at h1 h2 h3
  exact ⟨ad, _, _, _, _, rfl, h0, h1, h2, h3⟩
theorem four_at {w : World} {P : Option Addr} {ps : List Int} (h : Rd w 1 P 4 (ints ps)) : ∃ ad x y z u, P = some ad ∧ w.cell? ad = some (.int .i64 x) ∧ w.cell? (ad.add 1) = some (.int .i64 y) ∧ w.cell? (ad.add 2) = some (.int .i64 z) ∧ w.cell? (ad.add 3) = some (.int .i64 u) := by
  obtain ⟨ad, rfl, -, h0⟩ := h.int_at (k := 0) (by omega)
  obtain ⟨ad1, e1, -, h1⟩ := h.int_at (k := 1) (by omega)
  obtain ⟨ad2, e2, -, h2⟩ := h.int_at (k := 2) (by omega)
  obtain ⟨ad3, e3, -, h3⟩ := h.int_at (k := 3) (by omega)
  cases e1; cases e2; cases e3
  exact ⟨ad, _, _, _, _, rfl, h0, h1, h2, h3⟩
end Go.Proofs.YtpdbekgkopglgaaGreat
namespace Go.Proofs.YtpdbekgkopglgaaGreat
set_option linter.unusedVariables false
set_option linter.unusedSimpArgs false
open Go.RowKit Go.Sort
attribute [local go_sem ↓] Go.wp_at_zero Go.wp_at_succ

def ratC (s : Bool) (A : Option Addr) (n c : Nat) (t : Bool) (B : Option Addr) (m d : Nat) : List Value := [.bool s, .slice A n c, .bool t, .slice B m d]
/-- A point with numbers of at most K words. -/
def PtAt (K : Nat) (w : World) (cs : Array Value) : Prop := ∃ (s1 : Bool) (A1 : Option Addr) (n1 c1 : Nat) (a1 : List Nat) (t1 : Bool) (B1 : Option Addr) (m1 d1 : Nat) (b1 : List Nat) (s2 : Bool) (A2 : Option Addr) (n2 c2 : Nat) (a2 : List Nat) (t2 : Bool) (B2 : Option Addr) (m2 d2 : Nat) (b2 : List Nat),
  cs = #[.bool s1, .slice A1 n1 c1, .bool t1, .slice B1 m1 d1, .bool s2, .slice A2 n2 c2, .bool t2, .slice B2 m2 d2] ∧ RatAt w A1 n1 c1 a1 B1 m1 d1 b1 ∧ RatAt w A2 n2 c2 a2 B2 m2 d2 b2 ∧ n1 ≤ K ∧ m1 ≤ K ∧ n2 ≤ K ∧ m2 ≤ K
def RdAt (K : Nat) (w : World) (cs : Array Value) : Prop := ∃ (x : Int) (s1 : Bool) (A1 : Option Addr) (n1 c1 : Nat) (a1 : List Nat) (t1 : Bool) (B1 : Option Addr) (m1 d1 : Nat) (b1 : List Nat),
  cs = #[.int .i64 x, .bool s1, .slice A1 n1 c1, .bool t1, .slice B1 m1 d1] ∧ RatAt w A1 n1 c1 a1 B1 m1 d1 b1 ∧ n1 ≤ K ∧ m1 ≤ K
def SgAt (cs : Array Value) : Prop := ∃ x y : Int, cs = #[.int .i64 x, .int .i64 y]
def ArAt (cs : Array Value) : Prop := ∃ (x y z : Int) (b : Bool), cs = #[.int .i64 x, .int .i64 y, .int .i64 z, .bool b]
def PcAt (cs : Array Value) : Prop := ∃ (b : Bool) (x : Int) (b' : Bool), cs = #[.bool b, .int .i64 x, .bool b']
def ChAt (K : Nat) (w : World) (cs : Array Value) : Prop := ∃ (Q : Option Addr) (q qc : Nat), cs = #[.slice Q q qc] ∧ q ≤ K ∧ SlAt w 3 Q q PcAt
theorem PtAt.keep {K : Nat} {w w' : World} {cs : Array Value} (h : PtAt K w cs) (kk : Keeps w w') : PtAt K w' cs := by
  obtain ⟨s1, A1, n1, c1, a1, t1, B1, m1, d1, b1, s2, A2, n2, c2, a2, t2, B2, m2, d2, b2, e, h1, h2, h3⟩ := h
  exact ⟨s1, A1, n1, c1, a1, t1, B1, m1, d1, b1, s2, A2, n2, c2, a2, t2, B2, m2, d2, b2, e, h1.keep kk, h2.keep kk, h3⟩
theorem RdAt.keep {K : Nat} {w w' : World} {cs : Array Value} (h : RdAt K w cs) (kk : Keeps w w') : RdAt K w' cs := by
  obtain ⟨x, s1, A1, n1, c1, a1, t1, B1, m1, d1, b1, e, h1, h3⟩ := h
  exact ⟨x, s1, A1, n1, c1, a1, t1, B1, m1, d1, b1, e, h1.keep kk, h3⟩
theorem ChAt.keep {K : Nat} {w w' : World} {cs : Array Value} (h : ChAt K w cs) (kk : Keeps w w') : ChAt K w' cs := by
  obtain ⟨Q, q, qc, e, h1, h2⟩ := h
  exact ⟨Q, q, qc, e, h1, h2.keep kk (fun _ h => h)⟩
def sketchC (P : Option Addr) (n c : Nat) (R : Option Addr) (m d : Nat) (G : Option Addr) (g gc : Nat) (A : Option Addr) (a ac : Nat) (H : Option Addr) (h hc : Nat) (C : Option Addr) (k kc : Nat) : Array Value := #[.slice P n c, .slice R m d, .slice G g gc, .slice A a ac, .slice H h hc, .slice C k kc]
def SketchAt (w : World) (P : Option Addr) (n c : Nat) (R : Option Addr) (m d : Nat) (G : Option Addr) (g gc : Nat) (A : Option Addr) (a ac : Nat) (H : Option Addr) (h hc : Nat) (C : Option Addr) (k kc : Nat) : Prop := (n ≤ maxLen ∧ m ≤ maxLen ∧ g ≤ maxLen ∧ a ≤ maxLen ∧ h ≤ maxLen ∧ k ≤ maxLen) ∧ SlAt w 8 P n (PtAt maxLen w) ∧ SlAt w 5 R m (RdAt maxLen w) ∧ SlAt w 2 G g SgAt ∧ SlAt w 4 A a ArAt ∧ SlAt w 1 H h (ChAt maxLen w) ∧ SlAt w 5 C k (ConAt w)
def OkS (w : World) (P : Option Addr) (n c : Nat) (R : Option Addr) (m d : Nat) (G : Option Addr) (g gc : Nat) (A : Option Addr) (a ac : Nat) (H : Option Addr) (h hc : Nat) (C : Option Addr) (k kc : Nat) : Prop := (n ≤ 10 ∧ m ≤ 10 ∧ g ≤ 10 ∧ a ≤ 10 ∧ h ≤ 10 ∧ k ≤ 20) ∧ SlAt w 8 P n (PtAt 3 w) ∧ SlAt w 5 R m (RdAt 3 w) ∧ SlAt w 2 G g SgAt ∧ SlAt w 4 A a ArAt ∧ SlAt w 1 H h (ChAt 20 w) ∧ SlAt w 5 C k (OkC w)
theorem SketchAt.keep {w w' : World} {P : Option Addr} {n c : Nat} {R : Option Addr} {m d : Nat} {G : Option Addr} {g gc : Nat} {A : Option Addr} {a ac : Nat} {H : Option Addr} {h hc : Nat} {C : Option Addr} {k kc : Nat} (x : SketchAt w P n c R m d G g gc A a ac H h hc C k kc) (kk : Keeps w w') : SketchAt w' P n c R m d G g gc A a ac H h hc C k kc := by
  obtain ⟨h0, h1, h2, h3, h4, h5, h6⟩ := x
  exact ⟨h0, h1.keep kk (fun _ h => h.keep kk), h2.keep kk (fun _ h => h.keep kk), h3.keep kk (fun _ h => h), h4.keep kk (fun _ h => h), h5.keep kk (fun _ h => h.keep kk), h6.keep kk (fun _ h => h.keep kk)⟩
theorem OkS.keep {w w' : World} {P : Option Addr} {n c : Nat} {R : Option Addr} {m d : Nat} {G : Option Addr} {g gc : Nat} {A : Option Addr} {a ac : Nat} {H : Option Addr} {h hc : Nat} {C : Option Addr} {k kc : Nat} (x : OkS w P n c R m d G g gc A a ac H h hc C k kc) (kk : Keeps w w') : OkS w' P n c R m d G g gc A a ac H h hc C k kc := by
  obtain ⟨h0, h1, h2, h3, h4, h5, h6⟩ := x
  exact ⟨h0, h1.keep kk (fun _ h => h.keep kk), h2.keep kk (fun _ h => h.keep kk), h3.keep kk (fun _ h => h), h4.keep kk (fun _ h => h), h5.keep kk (fun _ h => h.keep kk), h6.keep kk (fun _ h => h.keep kk)⟩
def SmallPost (P : Option Addr) (n c : Nat) (R : Option Addr) (m d : Nat) (G : Option Addr) (g gc : Nat) (A : Option Addr) (a ac : Nat) (H : Option Addr) (h hc : Nat) (C : Option Addr) (k kc : Nat) (w : World) (e : Ending) (w' : World) : Prop := Below w.heap.size w w' ∧ ∃ r : Bool, e = .returned (.bool r) ∧ (r = true → OkS w' P n c R m d G g gc A a ac H h hc C k kc)
set_option maxRecDepth 100000 in
set_option maxHeartbeats 16000000 in
theorem small_any (P : Option Addr) (n c : Nat) (R : Option Addr) (m d : Nat) (G : Option Addr) (g gc : Nat) (A : Option Addr) (a ac : Nat) (H : Option Addr) (h hc : Nat) (C : Option Addr) (k kc : Nat) (w : World) (hS : SketchAt w P n c R m d G g gc A a ac H h hc C k kc) : Calls Tryz.prog 5 #[.agg (sketchC P n c R m d G g gc A a ac H h hc C k kc)] w (SmallPost P n c R m d G g gc A a ac H h hc C k kc w) := by
  obtain ⟨Q, hQ⟩ : ∃ Q, Q = SmallPost P n c R m d G g gc A a ac H h hc C k kc w := ⟨_, rfl⟩
  have HN : Hid (∀ w', Below w.heap.size w w' → Q (.returned (.bool false)) w') := Lib.hid fun w' hb => by rw [hQ]; exact ⟨hb, false, rfl, fun h => by cases h⟩
  have HY : Hid (∀ w', Below w.heap.size w w' → OkS w' P n c R m d G g gc A a ac H h hc C k kc → Q (.returned (.bool true)) w') := Lib.hid fun w' hb ho => by rw [hQ]; exact ⟨hb, true, rfl, fun _ => ho⟩
  rw [← hQ]
  clear hQ
  unfold sketchC
  obtain ⟨W, hW⟩ : ∃ W, W = w.alloc (.cells #[.slice P n c, .slice R m d, .slice G g gc, .slice A a ac, .slice H h hc, .slice C k kc] 29) := ⟨_, rfl⟩
  have b0 : CellsAt W w.heap.size #[.slice P n c, .slice R m d, .slice G g gc, .slice A a ac, .slice H h hc, .slice C k kc] 29 := by rw [hW]; exact CellsAt.new _ _ _
  have BW : Hid (Below w.heap.size w W) := Lib.hid (by rw [hW]; exact (Below.refl _ _).alloc (Nat.le_refl _) _)
  have kW : Keeps w W := by rw [hW]; exact Keeps.alloc _ _
  have HS := Lib.hid (hS.keep kW)
  obtain ⟨hn, hm, hg, ha, hh, hk⟩ := hS.1
  unfold maxLen at hn hm hg ha hh hk
  have B0 := Lib.hid b0
  have e0 := b0.at (j := 0) rfl
  have e1 := b0.at (j := 1) rfl
  have e2 := b0.at (j := 2) rfl
  have e3 := b0.at (j := 3) rfl
  have e4 := b0.at (j := 4) rfl
  have e5 := b0.at (j := 5) rfl
  have hWz := b0.lt
  clear b0 kW hS
  by_cases ln : 10 < n
  · have lni : (10 : Int) < (n : Int) := by omega
    go_enter Tryz.func5, Tryz.ntmps5
    go_upto_region 1 with fail
    rw [← hW]
    have HW := Lib.hid hW
    clear hW
    go_wp2_with fail
    exact HN.out _ BW.out
  have lni : ¬ (10 : Int) < (n : Int) := by omega
  by_cases lm : 10 < m
  · have lmi : (10 : Int) < (m : Int) := by omega
    go_enter Tryz.func5, Tryz.ntmps5
    go_upto_region 1 with fail
    rw [← hW]
    have HW := Lib.hid hW
    clear hW
    go_wp2_with fail
    exact HN.out _ BW.out
  have lmi : ¬ (10 : Int) < (m : Int) := by omega
  by_cases lg : 10 < g
  · have lgi : (10 : Int) < (g : Int) := by omega
    go_enter Tryz.func5, Tryz.ntmps5
    go_upto_region 1 with fail
    rw [← hW]
    have HW := Lib.hid hW
    clear hW
    go_wp2_with fail
    exact HN.out _ BW.out
  have lgi : ¬ (10 : Int) < (g : Int) := by omega
  by_cases la : 10 < a
  · have lai : (10 : Int) < (a : Int) := by omega
    go_enter Tryz.func5, Tryz.ntmps5
    go_upto_region 1 with fail
    rw [← hW]
    have HW := Lib.hid hW
    clear hW
    go_wp2_with fail
    exact HN.out _ BW.out
  have lai : ¬ (10 : Int) < (a : Int) := by omega
  by_cases lh : 10 < h
  · have lhi : (10 : Int) < (h : Int) := by omega
    go_enter Tryz.func5, Tryz.ntmps5
    go_upto_region 1 with fail
    rw [← hW]
    have HW := Lib.hid hW
    clear hW
    go_wp2_with fail
    exact HN.out _ BW.out
  have lhi : ¬ (10 : Int) < (h : Int) := by omega
  by_cases lk : 20 < k
  · have lki : (20 : Int) < (k : Int) := by omega
    go_enter Tryz.func5, Tryz.ntmps5
    go_upto_region 1 with fail
    rw [← hW]
    have HW := Lib.hid hW
    clear hW
    go_wp2_with fail
    exact HN.out _ BW.out
  have lki : ¬ (20 : Int) < (k : Int) := by omega
  go_enter Tryz.func5, Tryz.ntmps5
  go_upto_region 1 with fail
  rw [← hW]
  have HW := Lib.hid hW
  clear hW
  go_wp2_with fail
  clear e0 e1 e2 e3 e4 e5
  go_loopg [3] n (fun gg iv wr => ∃ i : Nat, iv = .int .i64 (i : Int) ∧ i + gg = n ∧ SlAt wr 8 P i (PtAt 3 wr) ∧ Below W.heap.size W wr)
  case atStart => exact ⟨0, rfl, by omega, SlAt.none _ _ _ _, Below.refl _ _⟩
  case round =>
    obtain ⟨i, rfl, hig, hsl, hb⟩ := hrel
    rename World => wr
    have S1 := Lib.hid hsl
    have BR := Lib.hid hb
    have B1 := Lib.hid (B0.out.below hb hWz)
    have BWR := Lib.hid (BW.out.trans (hb.mono (by omega)))
    have KR := Lib.hid (Keeps.of_below hb (Nat.le_refl _))
    have e0 := B1.out.at (j := 0) rfl
    clear hb hsl
    by_cases h5 : i < n
    · have h5i : (i : Int) < (n : Int) := by omega
      obtain ⟨ad, cs1, rfl, hsz, hel, hex⟩ := HS.out.2.1 i h5
      obtain ⟨s1, A1, n1, c1, a1, t1, B1', m1, d1, b1, s2, A2, n2, c2, a2, t2, B2', m2, d2, b2, hc1, r1, r2, -⟩ := hex
      have hel' := hel.keep KR.out
      have HEL := Lib.hid hel'
      have HC1 := Lib.hid hc1
      have R2 := Lib.hid (r2.keep KR.out)
      have R1 := Lib.hid (r1.keep KR.out)
      have f0 := hel'.zero (x := .bool s1) (by rw [hc1]; rfl)
      have f1 := hel'.at (j := 1) (by omega) (x := .slice A1 n1 c1) (by rw [hc1]; rfl)
      have f2 := hel'.at (j := 2) (by omega) (x := .bool t1) (by rw [hc1]; rfl)
      have f3 := hel'.at (j := 3) (by omega) (x := .slice B1' m1 d1) (by rw [hc1]; rfl)
      have f4 := hel'.at (j := 4) (by omega) (x := .bool s2) (by rw [hc1]; rfl)
      have f5 := hel'.at (j := 5) (by omega) (x := .slice A2 n2 c2) (by rw [hc1]; rfl)
      have f6 := hel'.at (j := 6) (by omega) (x := .bool t2) (by rw [hc1]; rfl)
      have f7 := hel'.at (j := 7) (by omega) (x := .slice B2' m2 d2) (by rw [hc1]; rfl)
      have cF : Calls Tryz.prog 14 #[ratV s1 A1 n1 c1 t1 B1' m1 d1, .int .i64 3] wr _ := few_any s1 t1 A1 B1' n1 c1 m1 d1 3 a1 b1 wr (by omega) R1.out
      unfold ratV at cF
      clear hel hel' hc1 r1 r2
      go_wp2_with fail
      refine Calls.mono cF ?_
      rintro _ w5 ⟨⟨v1, rfl, hb5⟩, hv1⟩
      have BR5 := Lib.hid (BR.out.trans (hb5.mono BR.out.size))
      have BW5 := Lib.hid (BWR.out.trans (hb5.mono BWR.out.size))
      have K5 := Lib.hid (Keeps.of_below hb5 (Nat.le_refl _))
      have V1 := Lib.hid hv1
      have B5 := Lib.hid (B1.out.below hb5 B1.out.lt)
      clear cF hb5 hv1 e0 f0 f1 f2 f3
      cases v1
      · go_wp2_with fail
        exact HN.out _ BW5.out
      · have e0 := B5.out.at (j := 0) rfl
        have f4 := K5.out _ _ f4
        have f5 := K5.out _ _ f5
        have f6 := K5.out _ _ f6
        have f7 := K5.out _ _ f7
        have cG : Calls Tryz.prog 14 #[ratV s2 A2 n2 c2 t2 B2' m2 d2, .int .i64 3] w5 _ := few_any s2 t2 A2 B2' n2 c2 m2 d2 3 a2 b2 w5 (by omega) (R2.out.keep K5.out)
        unfold ratV at cG
        go_wp2_with fail
        refine Calls.mono cG ?_
        rintro _ w6 ⟨⟨v2, rfl, hb6⟩, hv2⟩
        have BR6 := Lib.hid (BR5.out.trans (hb6.mono BR5.out.size))
        have BW6 := Lib.hid (BW5.out.trans (hb6.mono BW5.out.size))
        have K6 := Lib.hid (Keeps.trans K5.out (Keeps.of_below hb6 (Nat.le_refl _)))
        have V2 := Lib.hid hv2
        clear cG hb6 hv2 e0 f4 f5 f6 f7
        cases v2
        · go_wp2_with fail
          exact HN.out _ BW6.out
        · go_wp2_with fail
          go_roundg (n - (i + 1))
          case measure => omega
          case rel =>
            refine ⟨i + 1, by go_num, by omega, ?_, BR6.out⟩
            refine (S1.out.keep K6.out (fun _ h => h.keep K6.out)).more rfl hsz (HEL.out.keep K6.out) ?_
            exact ⟨s1, A1, n1, c1, a1, t1, B1', m1, d1, b1, s2, A2, n2, c2, a2, t2, B2', m2, d2, b2, HC1.out, R1.out.keep K6.out, R2.out.keep K6.out, (V1.out (by first | rfl | trivial)).1, (V1.out (by first | rfl | trivial)).2, (V2.out (by first | rfl | trivial)).1, (V2.out (by first | rfl | trivial)).2⟩
    · obtain rfl : i = n := by omega
      go_wp2_with fail
      clear e0
      go_loopg [4] m (fun gg iv wq => ∃ i : Nat, iv = .int .i64 (i : Int) ∧ i + gg = m ∧ SlAt wq 5 R i (RdAt 3 wq) ∧ Below wr.heap.size wr wq)
      case atStart => exact ⟨0, rfl, by omega, SlAt.none _ _ _ _, Below.refl _ _⟩
      case round =>
        obtain ⟨i, rfl, hig, hsl, hbq⟩ := hrel
        rename World => wq
        have hb := BR.out.trans (hbq.mono BR.out.size)
        have S2 := Lib.hid hsl
        have BRQ := Lib.hid hbq
        have S1 := Lib.hid (S1.out.keep (Keeps.of_below hbq (Nat.le_refl _)) (fun _ h => h.keep (Keeps.of_below hbq (Nat.le_refl _))))
        have BR := Lib.hid hb
        have B1 := Lib.hid (B0.out.below hb hWz)
        have BWR := Lib.hid (BW.out.trans (hb.mono (by omega)))
        have KR := Lib.hid (Keeps.of_below hb (Nat.le_refl _))
        have e1 := B1.out.at (j := 1) rfl
        clear hb hsl hbq
        by_cases h5 : i < m
        · have h5i : (i : Int) < (m : Int) := by omega
          obtain ⟨ad, cs1, rfl, hsz, hel, hex⟩ := HS.out.2.2.1 i h5
          obtain ⟨x1, s1, A1, n1, c1, a1, t1, B1', m1, d1, b1, hc1, r1, -⟩ := hex
          have hel' := hel.keep KR.out
          have HEL := Lib.hid hel'
          have HC1 := Lib.hid hc1
          have R1 := Lib.hid (r1.keep KR.out)
          have f1 := hel'.at (j := 1) (by omega) (x := .bool s1) (by rw [hc1]; rfl)
          have f2 := hel'.at (j := 2) (by omega) (x := .slice A1 n1 c1) (by rw [hc1]; rfl)
          have f3 := hel'.at (j := 3) (by omega) (x := .bool t1) (by rw [hc1]; rfl)
          have f4 := hel'.at (j := 4) (by omega) (x := .slice B1' m1 d1) (by rw [hc1]; rfl)
          have cF : Calls Tryz.prog 14 #[ratV s1 A1 n1 c1 t1 B1' m1 d1, .int .i64 3] wq _ := few_any s1 t1 A1 B1' n1 c1 m1 d1 3 a1 b1 wq (by omega) R1.out
          unfold ratV at cF
          clear hel hel' hc1 r1
          go_wp2_with fail
          refine Calls.mono cF ?_
          rintro _ w5 ⟨⟨v1, rfl, hb5⟩, hv1⟩
          have BR5 := Lib.hid (BR.out.trans (hb5.mono BR.out.size))
          have BW5 := Lib.hid (BWR.out.trans (hb5.mono BWR.out.size))
          have K5 := Lib.hid (Keeps.of_below hb5 (Nat.le_refl _))
          have V1 := Lib.hid hv1
          clear cF hv1 e1 f1 f2 f3 f4
          cases v1
          · go_wp2_with fail
            exact HN.out _ BW5.out
          · go_wp2_with fail
            go_roundg (m - (i + 1))
            case measure => omega
            case rel =>
              refine ⟨i + 1, by go_num, by omega, ?_, ?_⟩
              · refine (S2.out.keep K5.out (fun _ h => h.keep K5.out)).more rfl hsz (HEL.out.keep K5.out) ?_
                exact ⟨x1, s1, A1, n1, c1, a1, t1, B1', m1, d1, b1, HC1.out, R1.out.keep K5.out, (V1.out (by first | rfl | trivial)).1, (V1.out (by first | rfl | trivial)).2⟩
              · exact BRQ.out.trans (hb5.mono BRQ.out.size)
        · obtain rfl : i = m := by omega
          go_wp2_with fail
          clear e1
          go_loopg [5] h (fun gg iv wz => ∃ i : Nat, iv = .int .i64 (i : Int) ∧ i + gg = h ∧ SlAt wq 1 H i (ChAt 20 wq) ∧ wz = wq)
          case atStart => exact ⟨0, rfl, by omega, SlAt.none _ _ _ _, rfl⟩
          case round =>
            obtain ⟨i, rfl, hig, hsl, rfl⟩ := hrel
            rename World => wq
            have S3 := Lib.hid hsl
            clear hsl
            have e4 := B1.out.at (j := 4) rfl
            by_cases h5 : i < h
            · have h5i : (i : Int) < (h : Int) := by omega
              obtain ⟨ad, cs1, rfl, hsz, hel, hex⟩ := HS.out.2.2.2.2.2.1 i h5
              obtain ⟨Q1, q1, qc1, hc1, hq1, hq2⟩ := hex
              have hel' := hel.keep KR.out
              have HEL := Lib.hid hel'
              have HC1 := Lib.hid hc1
              have HQ2 := Lib.hid (hq2.keep KR.out (fun _ h => h))
              have f0 := hel'.zero (x := .slice Q1 q1 qc1) (by rw [hc1]; rfl)
              rw [Nat.mul_one] at f0
              unfold maxLen at hq1
              clear hel hel' hc1 hq2
              by_cases hq20 : 20 < q1
              · have hq20i : (20 : Int) < (q1 : Int) := by omega
                go_wp2_with fail
                exact HN.out _ BWR.out
              · have hq20i : ¬ (20 : Int) < (q1 : Int) := by omega
                go_wp2_with fail
                go_roundg (h - (i + 1))
                case measure => omega
                case rel => exact ⟨i + 1, by go_num, by omega, S3.out.more rfl hsz HEL.out ⟨Q1, q1, qc1, HC1.out, by omega, HQ2.out⟩, rfl⟩
            · obtain rfl : i = h := by omega
              go_wp2_with fail
              clear e4
              have KQ0 := Lib.hid KR.out
              have BQ0 := Lib.hid BR.out
              go_loopg [6] k (fun gg iv wz => ∃ i : Nat, iv = .int .i64 (i : Int) ∧ i + gg = k ∧ SlAt wz 5 C i (OkC wz) ∧ Below wq.heap.size wq wz)
              case atStart => exact ⟨0, rfl, by omega, SlAt.none _ _ _ _, Below.refl _ _⟩
              case round =>
                obtain ⟨i, rfl, hig, hsl, hbz⟩ := hrel
                rename World => wz
                have hb := BQ0.out.trans (hbz.mono BQ0.out.size)
                have S4 := Lib.hid hsl
                have BZ := Lib.hid hbz
                have BR := Lib.hid hb
                have B1 := Lib.hid (B0.out.below hb hWz)
                have BWR := Lib.hid (BW.out.trans (hb.mono (by omega)))
                have KR := Lib.hid (Keeps.of_below hb (Nat.le_refl _))
                have e5 := B1.out.at (j := 5) rfl
                clear hb hsl hbz
                by_cases h5 : i < k
                · have h5i : (i : Int) < (k : Int) := by omega
                  obtain ⟨ad, cs1, rfl, hsz, hel, hex⟩ := HS.out.2.2.2.2.2.2 i h5
                  obtain ⟨kind, P1, n1, c1, ps, C1, m1, d1, qs, V1, v1, v1c, side, hc1, hp1, hp2, ⟨hn1, hm1, hv1⟩, hl1⟩ := hex
                  have hel' := hel.keep KR.out
                  have HEL := Lib.hid hel'
                  have HC1 := Lib.hid hc1
                  have RP := Lib.hid (hp1.keep KR.out)
                  have RQ := Lib.hid (hp2.keep KR.out)
                  have HL1 := Lib.hid (hl1.keep KR.out (fun _ h => ExprAt.keep KR.out h))
                  have f0 := hel'.zero (x := .int .i64 kind) (by rw [hc1]; rfl)
                  have f1 := hel'.at (j := 1) (by omega) (x := .slice P1 n1 c1) (by rw [hc1]; rfl)
                  have f2 := hel'.at (j := 2) (by omega) (x := .slice C1 m1 d1) (by rw [hc1]; rfl)
                  have f3 := hel'.at (j := 3) (by omega) (x := .slice V1 v1 v1c) (by rw [hc1]; rfl)
                  have f4 := hel'.at (j := 4) (by omega) (x := .int .i64 side) (by rw [hc1]; rfl)
                  unfold maxLen at hn1 hm1 hv1
                  clear hel hel' hc1 hp1 hp2 hl1
                  obtain ⟨w5, hw5⟩ : ∃ w5, w5 = wz.alloc (.cells #[.int .i64 kind, .slice P1 n1 c1, .slice C1 m1 d1, .slice V1 v1 v1c, .int .i64 side] 60) := ⟨_, rfl⟩
                  have x5 : CellsAt w5 wz.heap.size #[.int .i64 kind, .slice P1 n1 c1, .slice C1 m1 d1, .slice V1 v1 v1c, .int .i64 side] 60 := by rw [hw5]; exact CellsAt.new _ _ _
                  have bz5 : Below wz.heap.size wz w5 := by rw [hw5]; exact (Below.refl _ _).alloc (Nat.le_refl _) _
                  have X5 := Lib.hid x5
                  have BZ5 := Lib.hid (BZ.out.trans (bz5.mono BZ.out.size))
                  have BW5 := Lib.hid (BWR.out.trans (bz5.mono BWR.out.size))
                  have K5 := Lib.hid (Keeps.of_below bz5 (Nat.le_refl _))
                  have g1 := x5.at (j := 1) rfl
                  have g2 := x5.at (j := 2) rfl
                  have g3 := x5.at (j := 3) rfl
                  clear x5 bz5
                  go_upto_region 22 with fail
                  rw [← hw5]
                  have HW5 := Lib.hid hw5
                  clear hw5 f0 f1 f2 f3 f4 e5
                  have hzz := X5.out.lt
                  generalize wz.heap.size = bx at *
                  by_cases q1 : 10 < n1
                  · have q1i : (10 : Int) < (n1 : Int) := by omega
                    go_wp2_with fail
                    exact HN.out _ BW5.out
                  have q1i : ¬ (10 : Int) < (n1 : Int) := by omega
                  by_cases q2 : 10 < m1
                  · have q2i : (10 : Int) < (m1 : Int) := by omega
                    go_wp2_with fail
                    exact HN.out _ BW5.out
                  have q2i : ¬ (10 : Int) < (m1 : Int) := by omega
                  by_cases q3 : 10 < v1
                  · have q3i : (10 : Int) < (v1 : Int) := by omega
                    go_wp2_with fail
                    exact HN.out _ BW5.out
                  have q3i : ¬ (10 : Int) < (v1 : Int) := by omega
                  go_wp2_with fail
                  clear g1 g2 g3
                  go_loopg [8] v1 (fun gg jv wy => ∃ j : Nat, jv = .int .i64 (j : Int) ∧ j + gg = v1 ∧ SlAt wy 7 V1 j (OkE 62 wy) ∧ Below w5.heap.size w5 wy)
                  case atStart => exact ⟨0, rfl, by omega, SlAt.none _ _ _ _, Below.refl _ _⟩
                  case round =>
                    obtain ⟨j, rfl, hjg, hsj, hby⟩ := hrel
                    rename World => wy
                    have S5 := Lib.hid hsj
                    have BY := Lib.hid hby
                    have X6 := Lib.hid (X5.out.below hby hzz)
                    have BWY := Lib.hid (BW5.out.trans (hby.mono BW5.out.size))
                    have KY := Lib.hid (K5.out.trans (Keeps.of_below hby (Nat.le_refl _)))
                    have BZY := Lib.hid (BZ5.out.trans (hby.mono BZ5.out.size))
                    have g3 := X6.out.at (j := 3) rfl
                    clear hsj hby
                    by_cases h6 : j < v1
                    · have h6i : (j : Int) < (v1 : Int) := by omega
                      obtain ⟨ad2, cs2, rfl, hsz2, hel2, hex2⟩ := HL1.out j h6
                      have hel' := hel2.keep KY.out
                      have HEL2 := Lib.hid hel'
                      have hex' := ExprAt.keep KY.out hex2
                      have cZ : Calls Tryz.prog 15 #[.agg cs2, .int .i64 0] wy _ := size_any 61 0 cs2 wy (by omega) hex'
                      obtain ⟨op1, sn1, A1, n1', c1', a1, sd1, B1', m1', d1', b1, name1, P1', k1, cap1, hc1, -, -, -, -⟩ := hex'
                      have f0 := hel'.zero (x := .int .i64 op1) (by rw [hc1]; rfl)
                      have f1 := hel'.at (j := 1) (by omega) (x := .bool sn1) (by rw [hc1]; rfl)
                      have f2 := hel'.at (j := 2) (by omega) (x := .slice A1 n1' c1') (by rw [hc1]; rfl)
                      have f3 := hel'.at (j := 3) (by omega) (x := .bool sd1) (by rw [hc1]; rfl)
                      have f4 := hel'.at (j := 4) (by omega) (x := .slice B1' m1' d1') (by rw [hc1]; rfl)
                      have f5 := hel'.at (j := 5) (by omega) (x := .string name1) (by rw [hc1]; rfl)
                      have f6 := hel'.at (j := 6) (by omega) (x := .slice P1' k1 cap1) (by rw [hc1]; rfl)
                      rw [hc1] at cZ
                      unfold exprC at cZ
                      have HC2 := Lib.hid hc1
                      clear hel2 hel' hex2 hc1
                      go_wp2_with fail
                      refine Calls.mono cZ ?_
                      rintro _ w6 ⟨hb6, r, rfl, hr1, hr2, hr3⟩
                      have BW6 := Lib.hid (BWY.out.trans (hb6.mono BWY.out.size))
                      have BY6 := Lib.hid (BY.out.trans (hb6.mono BY.out.size))
                      have K6 := Lib.hid (Keeps.of_below hb6 (Nat.le_refl _))
                      have HR3 := Lib.hid hr3
                      clear cZ hb6 hr3
                      by_cases h60 : 60 < r
                      · have h60i : (60 : Int) < (r : Int) := by omega
                        go_wp2_with fail
                        exact HN.out _ BW6.out
                      · have h60i : ¬ (60 : Int) < (r : Int) := by omega
                        go_wp2_with fail
                        go_roundg (v1 - (j + 1))
                        case measure => omega
                        case rel => exact ⟨j + 1, by go_num, by omega, (S5.out.keep K6.out (fun _ h => OkE.keep K6.out h)).more rfl hsz2 (HEL2.out.keep K6.out) (by rw [HC2.out]; exact HR3.out (by omega)), BY6.out⟩
                    · obtain rfl : j = v1 := by omega
                      go_wp2_with fail
                      go_roundg (k - (i + 1))
                      case measure => omega
                      case rel =>
                        refine ⟨i + 1, by go_num, by omega, ?_, BZY.out⟩
                        refine (S4.out.keep KY.out (fun _ h => h.keep KY.out)).more rfl hsz (HEL.out.keep KY.out) ?_
                        exact ⟨kind, P1, n1, c1, ps, C1, m1, d1, qs, V1, j, v1c, side, HC1.out, RP.out.keep KY.out, RQ.out.keep KY.out, ⟨by omega, by omega, by omega⟩, S5.out⟩
                · obtain rfl : i = k := by omega
                  go_wp2_with fail
                  have kz := Keeps.of_below BZ.out (Nat.le_refl _)
                  exact HY.out _ BWR.out ⟨⟨by omega, by omega, by omega, by omega, by omega, by omega⟩, S1.out.keep kz (fun _ h => h.keep kz), S2.out.keep kz (fun _ h => h.keep kz), HS.out.2.2.2.1.keep KR.out (fun _ h => h), HS.out.2.2.2.2.1.keep KR.out (fun _ h => h), S3.out.keep kz (fun _ h => h.keep kz), S4.out⟩
end Go.Proofs.YtpdbekgkopglgaaGreat
