/-
  Contracts and lemmas for the statement, joined: Nn, No, Np, Nq.
-/
import Derived.Test.YtpdbekgkopglgaaGreatJ8
namespace Go.Proofs.YtpdbekgkopglgaaGreat
set_option linter.unusedVariables false
set_option linter.unusedSimpArgs false
open Go.RowKit Go.Sort
attribute [local go_sem ↓] Go.wp_at_zero Go.wp_at_succ

set_option maxRecDepth 100000 in
set_option maxHeartbeats 4000000 in
theorem few_any (na nb : Bool) (A B : Option Addr) (n c m d L : Nat) (a b : List Nat) (w : World) (hL : L ≤ 1000) (h : RatAt w A n c a B m d b) :
    Calls Tryz.prog 14 #[ratV na A n c nb B m d, .int .i64 (L : Int)] w fun e w' => BoolPost w e w' ∧ (e = .returned (.bool true) → n ≤ L ∧ m ≤ L) := by
  unfold ratV
  obtain ⟨W, hW⟩ : ∃ W, W = w.alloc (.cells #[.bool na, .slice A n c, .bool nb, .slice B m d] 52) := ⟨_, rfl⟩
  have b0 : CellsAt W w.heap.size #[.bool na, .slice A n c, .bool nb, .slice B m d] 52 := by rw [hW]; exact CellsAt.new _ _ _
  have BW : Hid (Below w.heap.size w W) := Lib.hid (by rw [hW]; exact (Below.refl _ _).alloc (Nat.le_refl _) _)
  have hWs : W.heap.size = w.heap.size + 1 := by rw [hW]; simp
  have H0 : Hid (RatAt W A n c a B m d b) := Lib.hid (by rw [hW]; exact h.keep (Keeps.alloc _ _))
  have d0 : W.cell? ⟨w.heap.size, 0, none⟩ = some (.bool na) := by rw [b0.cell]; rfl
  have d1 : W.cell? ⟨w.heap.size, 1, none⟩ = some (.slice A n c) := by rw [b0.cell]; rfl
  have d2 : W.cell? ⟨w.heap.size, 2, none⟩ = some (.bool nb) := by rw [b0.cell]; rfl
  have d3 : W.cell? ⟨w.heap.size, 3, none⟩ = some (.slice B m d) := by rw [b0.cell]; rfl
  clear h b0
  by_cases h1 : n ≤ L
  · by_cases h2 : m ≤ L
    · have cV := valid02_any na nb A B n c m d a b W (by omega) (by omega) H0.out
      unfold ratV at cV
      have h1i : (n : Int) ≤ (L : Int) := by omega
      have h2i : (m : Int) ≤ (L : Int) := by omega
      go_enter Tryz.func14, Tryz.ntmps14
      go_upto_region 1 with fail
      rw [← hW]
      clear hW
      go_wp2_with fail
      refine Calls.mono cV ?_
      rintro _ w2 ⟨b2, rfl, hb2⟩
      have HB := Lib.hid (BW.out.trans (hb2.mono (by omega)))
      clear cV hb2
      go_wp2_with fail
      go_ret
      exact ⟨boolPost_ret HB.out, fun _ => ⟨h1, h2⟩⟩
    · have h1i : (n : Int) ≤ (L : Int) := by omega
      have h2i : ¬ (m : Int) ≤ (L : Int) := by omega
      go_enter Tryz.func14, Tryz.ntmps14
      go_upto_region 1 with fail
      rw [← hW]
      clear hW
      go_wp2_with fail
      go_ret
      exact ⟨boolPost_ret BW.out, fun h => by simp at h⟩
  · have h1i : ¬ (n : Int) ≤ (L : Int) := by omega
    go_enter Tryz.func14, Tryz.ntmps14
    go_upto_region 1 with fail
    rw [← hW]
    clear hW
    go_wp2_with fail
    go_ret
    exact ⟨boolPost_ret BW.out, fun h => by simp at h⟩
/-- An integer that is answered. -/
def IntPost (w : World) (K : Nat) (e : Ending) (w' : World) : Prop :=
  Below w.heap.size w w' ∧ ∃ s C k c q, e = .returned (.agg #[.bool s, .slice C k c]) ∧ MagAt w' C k c q ∧ k ≤ K
set_option maxRecDepth 100000 in
set_option maxHeartbeats 4000000 in
theorem neg_any (neg : Bool) (A : Option Addr) (n c : Nat) (l : List Nat) (w : World) (hn : n ≤ 1000000) (h : MagAt w A n c l) :
    Calls Tryz.prog 102 #[.agg #[.bool neg, .slice A n c]] w (IntPost w n) := by
  have cS := signed_any (!neg) A n c l ((w.alloc (.cells #[.bool neg, .slice A n c] 50)).alloc (.cells #[.bool false, .slice none 0 0] 50)) hn ((h.keep (Keeps.alloc _ _)).keep (Keeps.alloc _ _))
  have MT := Lib.hid ((h.keep (Keeps.alloc w (.cells #[.bool neg, .slice A n c] 50))).keep (Keeps.alloc _ (.cells #[.bool false, .slice none 0 0] 50))).trim
  have TL : Hid (tlen l ≤ n) := Lib.hid (by have := tlen_le l; rwa [h.len] at this)
  generalize (!neg && decide (0 < tlen l)) = s at *
  generalize tlen l = k at *
  clear h
  go_enter Tryz.func102, Tryz.ntmps102
  go_wp2_with fail
  refine Calls.mono cS ?_
  rintro _ w2 ⟨rfl, hb⟩
  have h0 : CellsAt ((w.alloc (.cells #[.bool neg, .slice A n c] 50)).alloc (.cells #[.bool false, .slice none 0 0] 50)) (w.heap.size + 1) #[.bool false, .slice none 0 0] 50 := CellsAt.new_at (by simp) _ _
  have h2 := h0.below hb (by simp)
  have HB : Hid (Below w.heap.size w w2) := Lib.hid ((((Below.refl _ _).alloc (Nat.le_refl _) _).alloc (by simp) _).trans (hb.mono (by simp; omega)))
  have c0 : w2.cell? ⟨w.heap.size + 1, 0, none⟩ = some (.bool false) := by rw [h2.cell]; rfl
  have c1 : w2.cell? ⟨w.heap.size + 1, 1, none⟩ = some (.slice none 0 0) := by rw [h2.cell]; rfl
  have f0 := h2.frozen 0
  have f1 := h2.frozen 1
  have M2 := Lib.hid ((MT.out.keep (Keeps.of_below hb (Nat.le_refl _))).setTwo c0 c1 (.bool s) (.slice A k c))
  clear hb h0 h2 cS MT
  have z := two_cells (u := .bool s) (v := .slice A k c) c0 c1
  go_wp2_with fail
  exact bodyPost_ret (v := .agg #[.bool s, .slice A k c]) (by simp [results, Tryz.results102, go_sem, z.1, z.2]) rfl ⟨(HB.out.setCell (by simp) _).setCell (by simp) _, s, A, k, c, _, rfl, M2.out, TL.out⟩
end Go.Proofs.YtpdbekgkopglgaaGreat
namespace Go.Proofs.YtpdbekgkopglgaaGreat
set_option linter.unusedVariables false
set_option linter.unusedSimpArgs false
open Go.RowKit Go.Sort
attribute [local go_sem ↓] Go.wp_at_zero Go.wp_at_succ

theorem CellsAt.setSame {W : World} {b j : Nat} {cs : Array Value} {t : TypeId} (h : CellsAt W b cs t) (u : Value) : CellsAt (W.setCell ⟨b, j, none⟩ u) b (cs.setIfInBounds j u) t := by
  unfold CellsAt at h ⊢
  have hlt : b < W.heap.size := CellsAt.lt h
  simp [World.setCell, Array.getElem?_modify, h, onCells]
theorem CellsAt.setOther {W : World} {b : Nat} {cs : Array Value} {t : TypeId} (h : CellsAt W b cs t) {p : Addr} (hp : b ≠ p.block) (u : Value) : CellsAt (W.setCell p u) b cs t := by
  unfold CellsAt at h ⊢
  rw [Below.heap_setCell _ _ _ _ hp]; exact h
/-- Blocks of integers' two cells, laid one behind the other from w on. -/
def FRL (w W : World) (cs : List (Value × Value)) : Prop :=
  (∀ (i : Nat) (x y : Value), cs[i]? = some (x, y) → CellsAt W (w.heap.size + i) #[x, y] 50) ∧ Below w.heap.size w W ∧ w.heap.size + cs.length ≤ W.heap.size
section
variable {w W W' : World} {cs : List (Value × Value)}
theorem FRL.next (h : FRL w W cs) (hb : Below W.heap.size W W') : FRL w W' cs := by
  obtain ⟨h1, h2, h3⟩ := h
  have := hb.size
  exact ⟨fun i x y hi => (h1 i x y hi).below hb (h1 i x y hi).lt, h2.trans (hb.mono (by omega)), by omega⟩
theorem FRL.below (h : FRL w W cs) : Below w.heap.size w W := h.2.1
theorem FRL.size (h : FRL w W cs) : w.heap.size + cs.length ≤ W.heap.size := h.2.2
theorem FRL.c0 (h : FRL w W cs) (i : Nat) {x y : Value} (hi : cs[i]? = some (x, y)) {b : Nat} (hb : b = w.heap.size + i) : W.cell? ⟨b, 0, none⟩ = some x := by
  subst hb; rw [(h.1 i x y hi).cell]; rfl
theorem FRL.c1 (h : FRL w W cs) (i : Nat) {x y : Value} (hi : cs[i]? = some (x, y)) {b : Nat} (hb : b = w.heap.size + i) : W.cell? ⟨b, 1, none⟩ = some y := by
  subst hb; rw [(h.1 i x y hi).cell]; rfl
theorem FRL.fz (h : FRL w W cs) (i : Nat) {x y : Value} (hi : cs[i]? = some (x, y)) (j : Nat) {b : Nat} (hb : b = w.heap.size + i) : W.frozen? ⟨b, j, none⟩ = false := by
  subst hb; exact (h.1 i x y hi).frozen j
theorem FRL.put (h : FRL w W cs) (i : Nat) {x y : Value} (hi : cs[i]? = some (x, y)) (u v : Value) {b : Nat} (hb : b = w.heap.size + i) : FRL w ((W.setCell ⟨b, 0, none⟩ u).setCell ⟨b, 1, none⟩ v) (cs.set i (u, v)) := by
  subst hb
  obtain ⟨h1, h2, h3⟩ := h
  refine ⟨fun j x' y' hj => ?_, (h2.setCell (by simp) _).setCell (by simp) _, by rw [List.length_set]; simpa [World.setCell] using h3⟩
  rw [List.getElem?_set] at hj
  split at hj
  · rename_i e
    subst e
    split at hj
    · injection hj with hj
      injection hj with e1 e2
      subst e1 e2
      have := ((h1 _ x y hi).setSame (j := 0) u).setSame (j := 1) v
      simpa using this
    · cases hj
  · rename_i e
    exact ((h1 j x' y' hj).setOther (by simp; omega) u).setOther (by simp; omega) v
theorem FRL.mag (h : FRL w W cs) (i : Nat) {z : Bool} {C : Option Addr} {m d : Nat} (hi : cs[i]? = some (.bool z, .slice C m d)) {A : Option Addr} {n c : Nat} {l : List Nat} (hm : MagAt W A n c l) (u v : Value) {b : Nat} (hb : b = w.heap.size + i) :
    MagAt ((W.setCell ⟨b, 0, none⟩ u).setCell ⟨b, 1, none⟩ v) A n c l := hm.setTwo (h.c0 i hi hb) (h.c1 i hi hb) u v
end
theorem frl_three (w : World) (x0 x1 y0 y1 z0 z1 : Value) {W : World} (hW : W = ((w.alloc (.cells #[x0, x1] 50)).alloc (.cells #[y0, y1] 50)).alloc (.cells #[z0, z1] 50)) :
    FRL w W [(x0, x1), (y0, y1), (z0, z1)] ∧ Keeps w W := by
  obtain ⟨b0, b1, b2, bW, kW, hs⟩ := boxes3 w _ _ _ _ _ _ hW
  refine ⟨⟨fun i x y hi => ?_, bW, by simp; omega⟩, kW⟩
  match i, hi with
  | 0, hi => simp at hi; obtain ⟨rfl, rfl⟩ := hi; exact b0
  | 1, hi => simp at hi; obtain ⟨rfl, rfl⟩ := hi; exact b1
  | 2, hi => simp at hi; obtain ⟨rfl, rfl⟩ := hi; exact b2
  | i + 3, hi => simp at hi
theorem signed_t (neg : Bool) (A : Option Addr) (n c : Nat) (l : List Nat) (w : World) (hn : n ≤ 1000000) (h : MagAt w A n c l) (ht : Trm l) :
    Calls Tryz.prog 55 #[.bool neg, .slice A n c] w fun e w' => e = .returned (.agg #[.bool (neg && decide (0 < n)), .slice A n c]) ∧ Below w.heap.size w w' := by
  have := signed_any neg A n c l w hn h
  rwa [show tlen l = n from ht.trans h.len] at this
set_option maxRecDepth 100000 in
set_option maxHeartbeats 8000000 in
theorem mul01_any (na nb : Bool) (A B : Option Addr) (n c m d : Nat) (a b : List Nat) (w : World) (hn : n ≤ 100000) (hm : m ≤ 100000) (ha : MagAt w A n c a) (hb : MagAt w B m d b) :
    Calls Tryz.prog 95 #[.agg #[.bool na, .slice A n c], .agg #[.bool nb, .slice B m d]] w (IntPost w (n + m)) := by
  obtain ⟨W, hW⟩ : ∃ W, W = ((w.alloc (.cells #[.bool na, .slice A n c] 50)).alloc (.cells #[.bool nb, .slice B m d] 50)).alloc (.cells #[.bool false, .slice none 0 0] 50) := ⟨_, rfl⟩
  obtain ⟨f0, kW⟩ := frl_three w _ _ _ _ _ _ hW
  have F0 := Lib.hid f0
  have MA := Lib.hid (ha.keep kW)
  have MB := Lib.hid (hb.keep kW)
  have EGT : Hid (∀ args w, (callFunc 85 args).run Tryz.prog w = .ok (.enter 85 args) w) := Lib.hid (enters_of Tryz.func85 (by kernel_rfl) rfl)
  have EGS : Hid (∀ args w, (callFunc 55 args).run Tryz.prog w = .ok (.enter 55 args) w) := Lib.hid (enters_of Tryz.func55 (by kernel_rfl) rfl)
  have TLa : tlen a ≤ n := by have := tlen_le a; rwa [ha.len] at this
  have TLb : tlen b ≤ m := by have := tlen_le b; rwa [hb.len] at this
  have cA := call_q (w := W) (fun w' hk => norm_any na A n c a w' (by omega) (MA.out.keep hk))
  have cB := call_q (w := W) (fun w' hk => norm_any nb B m d b w' (by omega) (MB.out.keep hk))
  have g0 := grown_cell (f0.c0 0 rfl (b := w.heap.size) rfl)
  have g1 := grown_cell (f0.c1 0 rfl (b := w.heap.size) rfl)
  have g2 := grown_cell (f0.c0 1 rfl (b := w.heap.size + 1) rfl)
  have g3 := grown_cell (f0.c1 1 rfl (b := w.heap.size + 1) rfl)
  clear ha hb kW f0
  go_enter Tryz.func95, Tryz.ntmps95
  go_upto_region 1 with fail
  rw [← hW]
  have HW := Lib.hid hW
  clear hW
  refine wp_region_qt 4 (by kernel_rfl) (by kernel_rfl) ?_
  simp only [List.take_succ_cons, List.take_zero, List.drop_succ_cons, List.drop_zero]
  repeat (go_big_quiet_step (first | with_reducible exact cA _ _ | with_reducible exact cB _ _))
  refine wpQuiet_nil ?_
  intro wq hgq
  have F1 := Lib.hid (F0.out.next hgq)
  have MA1 := Lib.hid (MA.out.trim.keep (Keeps.of_below hgq (Nat.le_refl _)))
  have MB1 := Lib.hid (MB.out.trim.keep (Keeps.of_below hgq (Nat.le_refl _)))
  clear hgq cA cB g0 g1 g2 g3 HW F0 MA MB
  generalize (na && decide (0 < tlen a)) = s1 at *
  generalize (nb && decide (0 < tlen b)) = s2 at *
  generalize tlen a = ta at *
  generalize tlen b = tb at *
  generalize trimN a = la at *
  generalize trimN b = lb at *
  have e0 := F1.out.c0 0 rfl (b := w.heap.size) rfl
  have e1 := F1.out.c1 0 rfl (b := w.heap.size) rfl
  have e2 := F1.out.c0 1 rfl (b := w.heap.size + 1) rfl
  have e3 := F1.out.c1 1 rfl (b := w.heap.size + 1) rfl
  have z0 := F1.out.fz 0 rfl 0 (b := w.heap.size) rfl
  have z1 := F1.out.fz 0 rfl 1 (b := w.heap.size) rfl
  have z2 := F1.out.fz 1 rfl 0 (b := w.heap.size + 1) rfl
  have z3 := F1.out.fz 1 rfl 1 (b := w.heap.size + 1) rfl
  have F2 := Lib.hid (F1.out.put 0 rfl (.bool s1) (.slice A ta c) (b := w.heap.size) rfl)
  have MA2 := Lib.hid (F1.out.mag 0 rfl MA1.out (.bool s1) (.slice A ta c) (b := w.heap.size) rfl)
  have MB2 := Lib.hid (F1.out.mag 0 rfl MB1.out (.bool s1) (.slice A ta c) (b := w.heap.size) rfl)
  have F3 := Lib.hid (F2.out.put 1 rfl (.bool s2) (.slice B tb d) (b := w.heap.size + 1) rfl)
  have MA3 := Lib.hid (F2.out.mag 1 rfl MA2.out (.bool s2) (.slice B tb d) (b := w.heap.size + 1) rfl)
  have MB3 := Lib.hid (F2.out.mag 1 rfl MB2.out (.bool s2) (.slice B tb d) (b := w.heap.size + 1) rfl)
  clear F1 MA1 MB1 F2 MA2 MB2
  simp only [List.set_cons_zero, List.set_cons_succ] at F3
  go_upto_region 2 with fail
  generalize hw2 : (((wq.setCell ⟨w.heap.size, 0, none⟩ (.bool s1)).setCell ⟨w.heap.size, 1, none⟩ (.slice A ta c)).setCell ⟨w.heap.size + 1, 0, none⟩ (.bool s2)).setCell ⟨w.heap.size + 1, 1, none⟩ (.slice B tb d) = w2 at *
  clear hw2 e0 e1 e2 e3 z0 z1 z2 z3
  have e0 := F3.out.c0 0 rfl (b := w.heap.size) rfl
  have e1 := F3.out.c1 0 rfl (b := w.heap.size) rfl
  have e2 := F3.out.c0 1 rfl (b := w.heap.size + 1) rfl
  have e3 := F3.out.c1 1 rfl (b := w.heap.size + 1) rfl
  have TM : Hid (∀ W, Keeps w2 W → Calls Tryz.prog 85 #[.slice A ta c, .slice B tb d] W fun e w' => MagPost W (nv la * nv lb) e w' ∧ ∃ C k c', e = .returned (.slice C k c') ∧ k ≤ ta + tb) := Lib.hid fun W hk => times_any A B ta c tb d la lb W (by omega) (by omega) (MA3.out.keep hk) (MB3.out.keep hk)
  go_region_law ((first
    | (refine step_callN rfl 85 #[.tmp 15, .tmp 17] #[48, 48] rfl EGT.out #[.slice A ta c, .slice B tb d] (by first | (simp [Act.eval, Act.put]; done) | fail) (TM.out _ (by first | exact Keeps.refl _ | exact Keeps.drew _)) (fun e w' hp => by obtain ⟨-, C, k, c', he, -⟩ := hp; exact ⟨_, he⟩) ?_; rintro v5 w5 ⟨⟨hb5, C5, n5, c5, q5, he5, ho5, hu5, ht5, hv5⟩, C5', n5', c5', he5', hl5⟩; injection he5 with he5; subst he5; have hn5 : n5 ≤ ta + tb := (by injection he5' with he5'; injection he5' with h1 h2 h3; omega); have F5 := Lib.hid (F3.out.next (by first | exact hb5 | exact (Below.refl _ _).drew.trans hb5)); have e0 := F5.out.c0 0 rfl (b := w.heap.size) rfl; have e1 := F5.out.c1 0 rfl (b := w.heap.size) rfl; have e2 := F5.out.c0 1 rfl (b := w.heap.size + 1) rfl; have e3 := F5.out.c1 1 rfl (b := w.heap.size + 1) rfl; have M5 := Lib.hid (ho5.mag hu5); have T5 := Lib.hid ht5; clear hb5 ho5 hu5 ht5 hv5 he5')
    | (refine step_callN rfl 55 #[.tmp 13, .tmp 18] #[4, 48] rfl EGS.out #[.bool (!(s1 == s2)), .slice C5 n5 c5] (by first | (simp [Act.eval, Act.put]; done) | fail) (signed_t (!(s1 == s2)) C5 n5 c5 q5 _ (by omega) M5.out T5.out) (fun e w' hp => ⟨_, hp.1⟩) ?_; rintro v6 w6 ⟨he6, hb6⟩; injection he6 with he6; subst he6; have F6 := Lib.hid (F5.out.next hb6); have M6 := Lib.hid (M5.out.keep (Keeps.of_below hb6 (Nat.le_refl _))); have y0 := F6.out.c0 2 rfl (b := w.heap.size + 1 + 1) rfl; have y1 := F6.out.c1 2 rfl (b := w.heap.size + 1 + 1) rfl; have x0 := F6.out.fz 2 rfl 0 (b := w.heap.size + 1 + 1) rfl; have x1 := F6.out.fz 2 rfl 1 (b := w.heap.size + 1 + 1) rfl; clear hb6)
    | fail))
  all_goals
   generalize ((!(s1 == s2)) && decide (0 < n5)) = s4 at *
   have F7 := Lib.hid (F6.out.put 2 rfl (.bool s4) (.slice C5 n5 c5) (b := w.heap.size + 1 + 1) rfl)
   have M7 := Lib.hid (F6.out.mag 2 rfl M6.out (.bool s4) (.slice C5 n5 c5) (b := w.heap.size + 1 + 1) rfl)
   have z := two_cells (u := .bool s4) (v := .slice C5 n5 c5) y0 y1
   go_wp2_with fail
   exact bodyPost_ret (v := .agg #[.bool s4, .slice C5 n5 c5]) (by simp [results, Tryz.results95, go_sem, z.1, z.2]) rfl ⟨F7.out.below, s4, C5, n5, c5, q5, rfl, M7.out, by omega⟩
end Go.Proofs.YtpdbekgkopglgaaGreat
namespace Go.Proofs.YtpdbekgkopglgaaGreat
set_option linter.unusedVariables false
set_option linter.unusedSimpArgs false
open Go.RowKit Go.Sort
attribute [local go_sem ↓] Go.wp_at_zero Go.wp_at_succ

/-- An absolute value that is answered: no word on its value. -/
def AbsPost (w : World) (K : Nat) (e : Ending) (w' : World) : Prop :=
  Below w.heap.size w w' ∧ ∃ C k c q, e = .returned (.slice C k c) ∧ MagAt w' C k c q ∧ Trm q ∧ k ≤ K
set_option maxRecDepth 100000 in
set_option maxHeartbeats 8000000 in
/-- The first list is not the shorter one. -/
theorem plus_ge (A B : Option Addr) (n c m d : Nat) (a b : List Nat) (w : World) (hn : n ≤ 500000) (hmn : m ≤ n) (ha : MagAt w A n c a) (hb : MagAt w B m d b) (A0 B0 : Option Addr) (n0 c0 m0 d0 : Nat)
    (hsw : (A = A0 ∧ n = n0 ∧ c = c0 ∧ B = B0 ∧ m = m0 ∧ d = d0) ∨ (m < n ∧ B = A0 ∧ m = n0 ∧ d = c0 ∧ A = B0 ∧ n = m0 ∧ c = d0)) :
    Calls Tryz.prog 103 #[.slice A0 n0 c0, .slice B0 m0 d0] w (AbsPost w (n + 1)) := by
  have H1 := Lib.hid ha.1
  have H2 := Lib.hid hb.1
  have UA := Lib.hid ha.2.2
  have UB := Lib.hid hb.2.2
  clear ha hb
  have hmk := run_make_row' (P := Tryz.prog) 48 108 (.int .u32 0) 4 Tryz.underlying48 info_u32 rfl .i64 .i64 (n + 1) (by omega) (by omega)
  simp only [show ((n + 1 : Nat) : Int) = (n : Int) + 1 from rfl] at hmk
  have M0 : Hid (Own (w.alloc (.cells (madeCells #[.int .u32 0] (n + 1)) 108)) w.heap.size 108 1 (some ⟨w.heap.size, 0, none⟩) (n + 1) (n + 1) (us (List.replicate (n + 1) 0))) := Lib.hid (own_madeU rfl (n + 1) (by unfold maxLen; omega) (Nat.le_refl _))
  rcases hsw with ⟨rfl, rfl, rfl, rfl, rfl, rfl⟩ | ⟨hlt, rfl, rfl, rfl, rfl, rfl, rfl⟩
  · have hc : ¬ (n : Int) < (m : Int) := by omega
    go_enter Tryz.func103, Tryz.ntmps103
    go_wp2_with fail
    go_loopg [6, 7] n (fun g cv iv wr => ∃ (k cy : Nat) (q : List Nat), k ≤ n ∧ n - k ≤ g ∧ iv = .int .i64 (k : Int) ∧ cv = .int .u64 (cy : Int) ∧ cy ≤ 1 ∧ U32 q ∧ Own wr w.heap.size 108 1 (some ⟨w.heap.size, 0, none⟩) (n + 1) (n + 1) (us q) ∧ Below w.heap.size w wr)
    case atStart => exact ⟨0, 0, _, Nat.zero_le _, by omega, rfl, rfl, by omega, U32.zero _, M0.out, (Below.refl _ _).alloc (Nat.le_refl _) _⟩
    case round =>
      clear M0
      obtain ⟨k, cy, q, hk, hg, rfl, rfl, hcy, hq, ho, hb⟩ := hrel
      have HB := Lib.hid hb
      have HO := Lib.hid ho
      have HQ := Lib.hid hq
      have kr := Keeps.of_below hb (Nat.le_refl _)
      clear hb ho hq
      by_cases hkn : k < n
      · obtain ⟨ad, hA, -, ca⟩ := (H1.out.keep kr).us_at hkn
        subst hA
        have hx := UA.out.at k
        have hy := UB.out.at k
        have cq := HO.out.cellU (j := k) (by omega)
        have fq : wr.frozen? ⟨w.heap.size, k, none⟩ = false := HO.out.frozen k
        generalize a.getD k 0 = x at *
        by_cases hkm : k < m
        · obtain ⟨ae, hE, -, cb⟩ := (H2.out.keep kr).us_at hkm
          subst hE
          generalize b.getD k 0 = y at *
          have S2 := HO.out.storeU k ((cy + x + y) % 4294967296)
          have e3 : (((cy + x + y) % 4294967296 : Nat) : Int) = ((cy : Int) + (x : Int) + (y : Int)) % 4294967296 := by omega
          rw [e3] at S2
          have S2 := Lib.hid S2
          have S3 : Hid (U32 (q.set k ((cy + x + y) % 4294967296))) := Lib.hid (HQ.out.set _ (by omega))
          have E4 : Hid ((((cy + x + y) / 4294967296 : Nat) : Int) = ((cy : Int) + (x : Int) + (y : Int)) / 4294967296) := Lib.hid (by omega)
          clear e3 kr
          go_wp2_with fail
          go_roundg (n - (k + 1))
          case measure => omega
          case rel => exact ⟨k + 1, (cy + x + y) / 4294967296, _, by omega, Nat.le_refl _, by go_num, by rw [E4.out], by omega, S3.out, S2.out, HB.out.setCell (by simp) _⟩
        · have S2 := HO.out.storeU k ((cy + x) % 4294967296)
          have e3 : (((cy + x) % 4294967296 : Nat) : Int) = ((cy : Int) + (x : Int)) % 4294967296 := by omega
          rw [e3] at S2
          have S2 := Lib.hid S2
          have S3 : Hid (U32 (q.set k ((cy + x) % 4294967296))) := Lib.hid (HQ.out.set _ (by omega))
          have E4 : Hid ((((cy + x) / 4294967296 : Nat) : Int) = ((cy : Int) + (x : Int)) / 4294967296) := Lib.hid (by omega)
          clear e3 kr
          go_wp2_with fail
          go_roundg (n - (k + 1))
          case measure => omega
          case rel => exact ⟨k + 1, (cy + x) / 4294967296, _, by omega, Nat.le_refl _, by go_num, by rw [E4.out], by omega, S3.out, S2.out, HB.out.setCell (by simp) _⟩
      · obtain rfl : k = n := by omega
        have cq := HO.out.cellU (j := k) (by omega)
        have fq : wr.frozen? ⟨w.heap.size, k, none⟩ = false := HO.out.frozen k
        have S2 := Lib.hid (HO.out.storeU k cy)
        have S3 : Hid (U32 (q.set k cy)) := Lib.hid (HQ.out.set _ (by omega))
        have HB2 := Lib.hid (HB.out.setCell (p := ⟨w.heap.size, k, none⟩) (Nat.le_refl _) (.int .u32 (cy : Int)))
        have TL : Hid (tlen (q.set k cy) ≤ k + 1) := Lib.hid (by have := tlen_le (q.set k cy); rw [List.length_set, HO.out.ulen] at this; exact this)
        clear kr
        go_wp2_with fail
        generalize hw6 : wr.setCell ⟨w.heap.size, k, none⟩ (.int .u32 (cy : Int)) = w6 at *
        have cT := trim_mag _ (k + 1) (k + 1) _ w6 (by omega) (S2.out.mag S3.out)
        clear hw6
        refine Calls.mono cT ?_
        rintro _ _ ⟨rfl, rfl⟩
        go_wp2_with fail
        go_ret
        exact ⟨HB2.out, _, _, _, _, rfl, (S2.out.mag S3.out).trim, trimN_trm _, TL.out⟩
  · have hc : (m : Int) < (n : Int) := by omega
    go_enter Tryz.func103, Tryz.ntmps103
    go_wp2_with fail
    go_loopg [6, 7] n (fun g cv iv wr => ∃ (k cy : Nat) (q : List Nat), k ≤ n ∧ n - k ≤ g ∧ iv = .int .i64 (k : Int) ∧ cv = .int .u64 (cy : Int) ∧ cy ≤ 1 ∧ U32 q ∧ Own wr w.heap.size 108 1 (some ⟨w.heap.size, 0, none⟩) (n + 1) (n + 1) (us q) ∧ Below w.heap.size w wr)
    case atStart => exact ⟨0, 0, _, Nat.zero_le _, by omega, rfl, rfl, by omega, U32.zero _, M0.out, (Below.refl _ _).alloc (Nat.le_refl _) _⟩
    case round =>
      clear M0
      obtain ⟨k, cy, q, hk, hg, rfl, rfl, hcy, hq, ho, hb⟩ := hrel
      have HB := Lib.hid hb
      have HO := Lib.hid ho
      have HQ := Lib.hid hq
      have kr := Keeps.of_below hb (Nat.le_refl _)
      clear hb ho hq
      by_cases hkn : k < n
      · obtain ⟨ad, hA, -, ca⟩ := (H1.out.keep kr).us_at hkn
        subst hA
        have hx := UA.out.at k
        have hy := UB.out.at k
        have cq := HO.out.cellU (j := k) (by omega)
        have fq : wr.frozen? ⟨w.heap.size, k, none⟩ = false := HO.out.frozen k
        generalize a.getD k 0 = x at *
        by_cases hkm : k < m
        · obtain ⟨ae, hE, -, cb⟩ := (H2.out.keep kr).us_at hkm
          subst hE
          generalize b.getD k 0 = y at *
          have S2 := HO.out.storeU k ((cy + x + y) % 4294967296)
          have e3 : (((cy + x + y) % 4294967296 : Nat) : Int) = ((cy : Int) + (x : Int) + (y : Int)) % 4294967296 := by omega
          rw [e3] at S2
          have S2 := Lib.hid S2
          have S3 : Hid (U32 (q.set k ((cy + x + y) % 4294967296))) := Lib.hid (HQ.out.set _ (by omega))
          have E4 : Hid ((((cy + x + y) / 4294967296 : Nat) : Int) = ((cy : Int) + (x : Int) + (y : Int)) / 4294967296) := Lib.hid (by omega)
          clear e3 kr
          go_wp2_with fail
          go_roundg (n - (k + 1))
          case measure => omega
          case rel => exact ⟨k + 1, (cy + x + y) / 4294967296, _, by omega, Nat.le_refl _, by go_num, by rw [E4.out], by omega, S3.out, S2.out, HB.out.setCell (by simp) _⟩
        · have S2 := HO.out.storeU k ((cy + x) % 4294967296)
          have e3 : (((cy + x) % 4294967296 : Nat) : Int) = ((cy : Int) + (x : Int)) % 4294967296 := by omega
          rw [e3] at S2
          have S2 := Lib.hid S2
          have S3 : Hid (U32 (q.set k ((cy + x) % 4294967296))) := Lib.hid (HQ.out.set _ (by omega))
          have E4 : Hid ((((cy + x) / 4294967296 : Nat) : Int) = ((cy : Int) + (x : Int)) / 4294967296) := Lib.hid (by omega)
          clear e3 kr
          go_wp2_with fail
          go_roundg (n - (k + 1))
          case measure => omega
          case rel => exact ⟨k + 1, (cy + x) / 4294967296, _, by omega, Nat.le_refl _, by go_num, by rw [E4.out], by omega, S3.out, S2.out, HB.out.setCell (by simp) _⟩
      · obtain rfl : k = n := by omega
        have cq := HO.out.cellU (j := k) (by omega)
        have fq : wr.frozen? ⟨w.heap.size, k, none⟩ = false := HO.out.frozen k
        have S2 := Lib.hid (HO.out.storeU k cy)
        have S3 : Hid (U32 (q.set k cy)) := Lib.hid (HQ.out.set _ (by omega))
        have HB2 := Lib.hid (HB.out.setCell (p := ⟨w.heap.size, k, none⟩) (Nat.le_refl _) (.int .u32 (cy : Int)))
        have TL : Hid (tlen (q.set k cy) ≤ k + 1) := Lib.hid (by have := tlen_le (q.set k cy); rw [List.length_set, HO.out.ulen] at this; exact this)
        clear kr
        go_wp2_with fail
        generalize hw6 : wr.setCell ⟨w.heap.size, k, none⟩ (.int .u32 (cy : Int)) = w6 at *
        have cT := trim_mag _ (k + 1) (k + 1) _ w6 (by omega) (S2.out.mag S3.out)
        clear hw6
        refine Calls.mono cT ?_
        rintro _ _ ⟨rfl, rfl⟩
        go_wp2_with fail
        go_ret
        exact ⟨HB2.out, _, _, _, _, rfl, (S2.out.mag S3.out).trim, trimN_trm _, TL.out⟩
theorem plus_any (A B : Option Addr) (n c m d : Nat) (a b : List Nat) (w : World) (hn : n ≤ 400000) (hm : m ≤ 400000) (ha : MagAt w A n c a) (hb : MagAt w B m d b) :
    Calls Tryz.prog 103 #[.slice A n c, .slice B m d] w (AbsPost w (max n m + 1)) := by
  rcases Nat.lt_or_ge n m with h | h
  · refine (plus_ge B A m d n c b a w (by omega) (by omega) hb ha A B n c m d (.inr ⟨h, rfl, rfl, rfl, rfl, rfl, rfl⟩)).mono ?_
    rintro e w' ⟨h1, C, k, c', q, h2, h3, h4, h5⟩
    exact ⟨h1, C, k, c', q, h2, h3, h4, by omega⟩
  · refine (plus_ge A B n c m d a b w (by omega) h ha hb A B n c m d (.inl ⟨rfl, rfl, rfl, rfl, rfl, rfl⟩)).mono ?_
    rintro e w' ⟨h1, C, k, c', q, h2, h3, h4, h5⟩
    exact ⟨h1, C, k, c', q, h2, h3, h4, by omega⟩
end Go.Proofs.YtpdbekgkopglgaaGreat
namespace Go.Proofs.YtpdbekgkopglgaaGreat
set_option linter.unusedVariables false
set_option linter.unusedSimpArgs false
open Go.RowKit Go.Sort
attribute [local go_sem ↓] Go.wp_at_zero Go.wp_at_succ

theorem minus_abs (A B : Option Addr) (n c m d : Nat) (a b : List Nat) (w : World) (hn : n ≤ 1000000) (hm : m ≤ 1000000) (ha : MagAt w A n c a) (hb : MagAt w B m d b) (tb : Trm b) (hle : nv b ≤ nv a) :
    Calls Tryz.prog 77 #[.slice A n c, .slice B m d] w (AbsPost w n) := by
  refine (minus_any A B n c m d a b w hn hm ha hb tb hle).mono ?_
  rintro e w' ⟨⟨h1, C, k, c', q, h2, h3, h4, h5, h6⟩, C', k', c'', h7, h8⟩
  refine ⟨h1, C, k, c', q, h2, h3.mag h4, h5, ?_⟩
  rw [h2] at h7
  injection h7 with h7
  injection h7 with x1 x2 x3
  omega
set_option maxRecDepth 100000 in
set_option maxHeartbeats 16000000 in
theorem add_any (na nb : Bool) (A B : Option Addr) (n c m d : Nat) (a b : List Nat) (w : World) (hn : n ≤ 100000) (hm : m ≤ 100000) (ha : MagAt w A n c a) (hb : MagAt w B m d b) :
    Calls Tryz.prog 101 #[.agg #[.bool na, .slice A n c], .agg #[.bool nb, .slice B m d]] w (IntPost w (max n m + 1)) := by
  obtain ⟨W, hW⟩ : ∃ W, W = ((w.alloc (.cells #[.bool na, .slice A n c] 50)).alloc (.cells #[.bool nb, .slice B m d] 50)).alloc (.cells #[.bool false, .slice none 0 0] 50) := ⟨_, rfl⟩
  obtain ⟨f0, kW⟩ := frl_three w _ _ _ _ _ _ hW
  have F0 := Lib.hid f0
  have MA := Lib.hid (ha.keep kW)
  have MB := Lib.hid (hb.keep kW)
  have EGP : Hid (∀ args w, (callFunc 103 args).run Tryz.prog w = .ok (.enter 103 args) w) := Lib.hid (enters_of Tryz.func103 (by kernel_rfl) rfl)
  have EGM : Hid (∀ args w, (callFunc 77 args).run Tryz.prog w = .ok (.enter 77 args) w) := Lib.hid (enters_of Tryz.func77 (by kernel_rfl) rfl)
  have EGS : Hid (∀ args w, (callFunc 55 args).run Tryz.prog w = .ok (.enter 55 args) w) := Lib.hid (enters_of Tryz.func55 (by kernel_rfl) rfl)
  have TLa : tlen a ≤ n := by have := tlen_le a; rwa [ha.len] at this
  have TLb : tlen b ≤ m := by have := tlen_le b; rwa [hb.len] at this
  have cA := call_q (w := W) (fun w' hk => norm_any na A n c a w' (by omega) (MA.out.keep hk))
  have cB := call_q (w := W) (fun w' hk => norm_any nb B m d b w' (by omega) (MB.out.keep hk))
  have g0 := grown_cell (f0.c0 0 rfl (b := w.heap.size) rfl)
  have g1 := grown_cell (f0.c1 0 rfl (b := w.heap.size) rfl)
  have g2 := grown_cell (f0.c0 1 rfl (b := w.heap.size + 1) rfl)
  have g3 := grown_cell (f0.c1 1 rfl (b := w.heap.size + 1) rfl)
  have TA : Hid (Trm (trimN a)) := Lib.hid (trimN_trm a)
  have TB : Hid (Trm (trimN b)) := Lib.hid (trimN_trm b)
  clear ha hb kW f0
  go_enter Tryz.func101, Tryz.ntmps101
  go_upto_region 1 with fail
  rw [← hW]
  have HW := Lib.hid hW
  clear hW
  refine wp_region_qt 4 (by kernel_rfl) (by kernel_rfl) ?_
  simp only [List.take_succ_cons, List.take_zero, List.drop_succ_cons, List.drop_zero]
  repeat (go_big_quiet_step (first | with_reducible exact cA _ _ | with_reducible exact cB _ _))
  refine wpQuiet_nil ?_
  intro wq hgq
  have F1 := Lib.hid (F0.out.next hgq)
  have MA1 := Lib.hid (MA.out.trim.keep (Keeps.of_below hgq (Nat.le_refl _)))
  have MB1 := Lib.hid (MB.out.trim.keep (Keeps.of_below hgq (Nat.le_refl _)))
  clear hgq cA cB g0 g1 g2 g3 HW F0 MA MB
  generalize (na && decide (0 < tlen a)) = s1 at *
  generalize (nb && decide (0 < tlen b)) = s2 at *
  generalize tlen a = ta at *
  generalize tlen b = tb at *
  generalize trimN a = la at *
  generalize trimN b = lb at *
  have e0 := F1.out.c0 0 rfl (b := w.heap.size) rfl
  have e1 := F1.out.c1 0 rfl (b := w.heap.size) rfl
  have e2 := F1.out.c0 1 rfl (b := w.heap.size + 1) rfl
  have e3 := F1.out.c1 1 rfl (b := w.heap.size + 1) rfl
  have z0 := F1.out.fz 0 rfl 0 (b := w.heap.size) rfl
  have z1 := F1.out.fz 0 rfl 1 (b := w.heap.size) rfl
  have z2 := F1.out.fz 1 rfl 0 (b := w.heap.size + 1) rfl
  have z3 := F1.out.fz 1 rfl 1 (b := w.heap.size + 1) rfl
  have F2 := Lib.hid (F1.out.put 0 rfl (.bool s1) (.slice A ta c) (b := w.heap.size) rfl)
  have MA2 := Lib.hid (F1.out.mag 0 rfl MA1.out (.bool s1) (.slice A ta c) (b := w.heap.size) rfl)
  have MB2 := Lib.hid (F1.out.mag 0 rfl MB1.out (.bool s1) (.slice A ta c) (b := w.heap.size) rfl)
  have F3 := Lib.hid (F2.out.put 1 rfl (.bool s2) (.slice B tb d) (b := w.heap.size + 1) rfl)
  have MA3 := Lib.hid (F2.out.mag 1 rfl MA2.out (.bool s2) (.slice B tb d) (b := w.heap.size + 1) rfl)
  have MB3 := Lib.hid (F2.out.mag 1 rfl MB2.out (.bool s2) (.slice B tb d) (b := w.heap.size + 1) rfl)
  clear F1 MA1 MB1 F2 MA2 MB2
  simp only [List.set_cons_zero, List.set_cons_succ] at F3
  go_upto_region 2 with fail
  generalize hw2 : (((wq.setCell ⟨w.heap.size, 0, none⟩ (.bool s1)).setCell ⟨w.heap.size, 1, none⟩ (.slice A ta c)).setCell ⟨w.heap.size + 1, 0, none⟩ (.bool s2)).setCell ⟨w.heap.size + 1, 1, none⟩ (.slice B tb d) = w2 at *
  clear hw2 e0 e1 e2 e3 z0 z1 z2 z3
  have e0 := F3.out.c0 0 rfl (b := w.heap.size) rfl
  have e1 := F3.out.c1 0 rfl (b := w.heap.size) rfl
  have e2 := F3.out.c0 1 rfl (b := w.heap.size + 1) rfl
  have e3 := F3.out.c1 1 rfl (b := w.heap.size + 1) rfl
  by_cases hs : s1 = s2
  · subst hs
    have PL : Hid (∀ W, Keeps w2 W → Calls Tryz.prog 103 #[.slice A ta c, .slice B tb d] W (AbsPost W (max ta tb + 1))) := Lib.hid fun W hk => plus_any A B ta c tb d la lb W (by omega) (by omega) (MA3.out.keep hk) (MB3.out.keep hk)
    go_upto_region 3 with fail
    go_region_law ((first
      | (refine step_callN rfl 103 #[.tmp 17, .tmp 19] #[48, 48] rfl EGP.out #[.slice A ta c, .slice B tb d] (by first | (simp [Act.eval, Act.put]; done) | fail) (PL.out _ (by first | exact Keeps.refl _ | exact Keeps.drew _)) (fun e w' hp => by obtain ⟨-, C, k, c', q, he, -⟩ := hp; exact ⟨_, he⟩) ?_; rintro v5 w5 ⟨hb5, C5, n5, c5, q5, he5, hm5, ht5, hl5⟩; injection he5 with he5; subst he5; have F5 := Lib.hid (F3.out.next (by first | exact hb5 | exact (Below.refl _ _).drew.trans hb5)); have e0 := F5.out.c0 0 rfl (b := w.heap.size) rfl; have e1 := F5.out.c1 0 rfl (b := w.heap.size) rfl; have e2 := F5.out.c0 1 rfl (b := w.heap.size + 1) rfl; have e3 := F5.out.c1 1 rfl (b := w.heap.size + 1) rfl; have M5 := Lib.hid hm5; have T5 := Lib.hid ht5; clear hb5 hm5 ht5)
      | (refine step_callN rfl 55 #[.tmp 15, .tmp 20] #[4, 48] rfl EGS.out #[.bool s1, .slice C5 n5 c5] (by first | (simp [Act.eval, Act.put]; done) | fail) (signed_t s1 C5 n5 c5 q5 _ (by omega) M5.out T5.out) (fun e w' hp => ⟨_, hp.1⟩) ?_; rintro v6 w6 ⟨he6, hb6⟩; injection he6 with he6; subst he6; have F6 := Lib.hid (F5.out.next hb6); have M6 := Lib.hid (M5.out.keep (Keeps.of_below hb6 (Nat.le_refl _))); have y0 := F6.out.c0 2 rfl (b := w.heap.size + 1 + 1) rfl; have y1 := F6.out.c1 2 rfl (b := w.heap.size + 1 + 1) rfl; have x0 := F6.out.fz 2 rfl 0 (b := w.heap.size + 1 + 1) rfl; have x1 := F6.out.fz 2 rfl 1 (b := w.heap.size + 1 + 1) rfl; clear hb6)
      | fail))
    all_goals
     generalize (s1 && decide (0 < n5)) = s4 at *
     have F7 := Lib.hid (F6.out.put 2 rfl (.bool s4) (.slice C5 n5 c5) (b := w.heap.size + 1 + 1) rfl)
     have M7 := Lib.hid (F6.out.mag 2 rfl M6.out (.bool s4) (.slice C5 n5 c5) (b := w.heap.size + 1 + 1) rfl)
     have z := two_cells (u := .bool s4) (v := .slice C5 n5 c5) y0 y1
     go_wp2_with fail
     exact bodyPost_ret (v := .agg #[.bool s4, .slice C5 n5 c5]) (by simp [results, Tryz.results101, go_sem, z.1, z.2]) rfl ⟨F7.out.below, s4, C5, n5, c5, q5, rfl, M7.out, by omega⟩
  · have hsb : (s1 == s2) = false := by simp; exact hs
    have cC := compare_any A B ta c tb d la lb w2 (by omega) (by omega) MA3.out.1 MB3.out.1
    have CV : Hid (cmpN la lb < 0 ↔ nv la < nv lb) := Lib.hid (cmpN_nv MA3.out.2.2 MB3.out.2.2 TA.out TB.out)
    generalize cmpN la lb = cv at *
    go_wp2_with fail
    refine Calls.mono cC ?_
    rintro _ w4 ⟨rfl, hb4⟩
    have F4 := Lib.hid (F3.out.next hb4)
    have MA4 := Lib.hid (MA3.out.keep (Keeps.of_below hb4 (Nat.le_refl _)))
    have MB4 := Lib.hid (MB3.out.keep (Keeps.of_below hb4 (Nat.le_refl _)))
    clear cC hb4 e0 e1 e2 e3 F3 MA3 MB3
    have e0 := F4.out.c0 0 rfl (b := w.heap.size) rfl
    have e1 := F4.out.c1 0 rfl (b := w.heap.size) rfl
    have e2 := F4.out.c0 1 rfl (b := w.heap.size + 1) rfl
    have e3 := F4.out.c1 1 rfl (b := w.heap.size + 1) rfl
    by_cases hcv : cv < 0
    · have LT := Lib.hid (CV.out.1 hcv)
      have hcv2 : ¬ (0 : Int) ≤ cv := by omega
      have PM : Hid (∀ W, Keeps w4 W → Calls Tryz.prog 77 #[.slice B tb d, .slice A ta c] W (AbsPost W tb)) := Lib.hid fun W hk => minus_abs B A tb d ta c lb la W (by omega) (by omega) (MB4.out.keep hk) (MA4.out.keep hk) TA.out (Nat.le_of_lt LT.out)
      clear CV
      go_upto_region 6 with fail
      go_region_law ((first
        | (refine step_callN rfl 77 #[.tmp 39, .tmp 41] #[48, 48] rfl EGM.out #[.slice B tb d, .slice A ta c] (by first | (simp [Act.eval, Act.put]; done) | fail) (PM.out _ (by first | exact Keeps.refl _ | exact Keeps.drew _)) (fun e w' hp => by obtain ⟨-, C, k, c', q, he, -⟩ := hp; exact ⟨_, he⟩) ?_; rintro v5 w5 ⟨hb5, C5, n5, c5, q5, he5, hm5, ht5, hl5⟩; injection he5 with he5; subst he5; have F5 := Lib.hid (F4.out.next (by first | exact hb5 | exact (Below.refl _ _).drew.trans hb5)); have e0 := F5.out.c0 0 rfl (b := w.heap.size) rfl; have e1 := F5.out.c1 0 rfl (b := w.heap.size) rfl; have e2 := F5.out.c0 1 rfl (b := w.heap.size + 1) rfl; have e3 := F5.out.c1 1 rfl (b := w.heap.size + 1) rfl; have M5 := Lib.hid hm5; have T5 := Lib.hid ht5; clear hb5 hm5 ht5)
        | (refine step_callN rfl 55 #[.tmp 37, .tmp 42] #[4, 48] rfl EGS.out #[.bool s2, .slice C5 n5 c5] (by first | (simp [Act.eval, Act.put]; done) | fail) (signed_t s2 C5 n5 c5 q5 _ (by omega) M5.out T5.out) (fun e w' hp => ⟨_, hp.1⟩) ?_; rintro v6 w6 ⟨he6, hb6⟩; injection he6 with he6; subst he6; have F6 := Lib.hid (F5.out.next hb6); have M6 := Lib.hid (M5.out.keep (Keeps.of_below hb6 (Nat.le_refl _))); have y0 := F6.out.c0 2 rfl (b := w.heap.size + 1 + 1) rfl; have y1 := F6.out.c1 2 rfl (b := w.heap.size + 1 + 1) rfl; have x0 := F6.out.fz 2 rfl 0 (b := w.heap.size + 1 + 1) rfl; have x1 := F6.out.fz 2 rfl 1 (b := w.heap.size + 1 + 1) rfl; clear hb6)
        | fail))
      all_goals
       generalize (s2 && decide (0 < n5)) = s4 at *
       have F7 := Lib.hid (F6.out.put 2 rfl (.bool s4) (.slice C5 n5 c5) (b := w.heap.size + 1 + 1) rfl)
       have M7 := Lib.hid (F6.out.mag 2 rfl M6.out (.bool s4) (.slice C5 n5 c5) (b := w.heap.size + 1 + 1) rfl)
       have z := two_cells (u := .bool s4) (v := .slice C5 n5 c5) y0 y1
       go_wp2_with fail
       exact bodyPost_ret (v := .agg #[.bool s4, .slice C5 n5 c5]) (by simp [results, Tryz.results101, go_sem, z.1, z.2]) rfl ⟨F7.out.below, s4, C5, n5, c5, q5, rfl, M7.out, by omega⟩
    · have GE : Hid (nv lb ≤ nv la) := Lib.hid (by
        rcases Nat.lt_or_ge (nv la) (nv lb) with h | h
        · exact absurd (CV.out.2 h) hcv
        · exact h)
      have hcv2 : (0 : Int) ≤ cv := by omega
      have PM : Hid (∀ W, Keeps w4 W → Calls Tryz.prog 77 #[.slice A ta c, .slice B tb d] W (AbsPost W ta)) := Lib.hid fun W hk => minus_abs A B ta c tb d la lb W (by omega) (by omega) (MA4.out.keep hk) (MB4.out.keep hk) TB.out GE.out
      clear CV
      go_upto_region 5 with fail
      go_region_law ((first
        | (refine step_callN rfl 77 #[.tmp 31, .tmp 33] #[48, 48] rfl EGM.out #[.slice A ta c, .slice B tb d] (by first | (simp [Act.eval, Act.put]; done) | fail) (PM.out _ (by first | exact Keeps.refl _ | exact Keeps.drew _)) (fun e w' hp => by obtain ⟨-, C, k, c', q, he, -⟩ := hp; exact ⟨_, he⟩) ?_; rintro v5 w5 ⟨hb5, C5, n5, c5, q5, he5, hm5, ht5, hl5⟩; injection he5 with he5; subst he5; have F5 := Lib.hid (F4.out.next (by first | exact hb5 | exact (Below.refl _ _).drew.trans hb5)); have e0 := F5.out.c0 0 rfl (b := w.heap.size) rfl; have e1 := F5.out.c1 0 rfl (b := w.heap.size) rfl; have e2 := F5.out.c0 1 rfl (b := w.heap.size + 1) rfl; have e3 := F5.out.c1 1 rfl (b := w.heap.size + 1) rfl; have M5 := Lib.hid hm5; have T5 := Lib.hid ht5; clear hb5 hm5 ht5)
        | (refine step_callN rfl 55 #[.tmp 29, .tmp 34] #[4, 48] rfl EGS.out #[.bool s1, .slice C5 n5 c5] (by first | (simp [Act.eval, Act.put]; done) | fail) (signed_t s1 C5 n5 c5 q5 _ (by omega) M5.out T5.out) (fun e w' hp => ⟨_, hp.1⟩) ?_; rintro v6 w6 ⟨he6, hb6⟩; injection he6 with he6; subst he6; have F6 := Lib.hid (F5.out.next hb6); have M6 := Lib.hid (M5.out.keep (Keeps.of_below hb6 (Nat.le_refl _))); have y0 := F6.out.c0 2 rfl (b := w.heap.size + 1 + 1) rfl; have y1 := F6.out.c1 2 rfl (b := w.heap.size + 1 + 1) rfl; have x0 := F6.out.fz 2 rfl 0 (b := w.heap.size + 1 + 1) rfl; have x1 := F6.out.fz 2 rfl 1 (b := w.heap.size + 1 + 1) rfl; clear hb6)
        | fail))
      all_goals
       generalize (s1 && decide (0 < n5)) = s4 at *
       have F7 := Lib.hid (F6.out.put 2 rfl (.bool s4) (.slice C5 n5 c5) (b := w.heap.size + 1 + 1) rfl)
       have M7 := Lib.hid (F6.out.mag 2 rfl M6.out (.bool s4) (.slice C5 n5 c5) (b := w.heap.size + 1 + 1) rfl)
       have z := two_cells (u := .bool s4) (v := .slice C5 n5 c5) y0 y1
       go_wp2_with fail
       exact bodyPost_ret (v := .agg #[.bool s4, .slice C5 n5 c5]) (by simp [results, Tryz.results101, go_sem, z.1, z.2]) rfl ⟨F7.out.below, s4, C5, n5, c5, q5, rfl, M7.out, by omega⟩
end Go.Proofs.YtpdbekgkopglgaaGreat
