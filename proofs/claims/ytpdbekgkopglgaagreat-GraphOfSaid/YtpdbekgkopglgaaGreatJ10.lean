/-
  Contracts and lemmas for the statement, joined: Nr, Ns.
-/
import Derived.Test.YtpdbekgkopglgaaGreatJ9
import Derived.Deep.RegionHeld3
namespace Go.Proofs.YtpdbekgkopglgaaGreat
set_option linter.unusedVariables false
set_option linter.unusedSimpArgs false
open Go.RowKit Go.Sort
attribute [local go_sem ↓] Go.wp_at_zero Go.wp_at_succ

theorem intPost_ret {w : World} {K : Nat} {e : Ending} {w' : World} (h : IntPost w K e w') : ∃ v, e = .returned v := by
  obtain ⟨-, s, C, k, c, q, he, -⟩ := h; exact ⟨_, he⟩
set_option maxRecDepth 100000 in
set_option maxHeartbeats 8000000 in
theorem sub_any (na nb : Bool) (A B : Option Addr) (n c m d : Nat) (a b : List Nat) (w : World) (hn : n ≤ 100000) (hm : m ≤ 100000) (ha : MagAt w A n c a) (hb : MagAt w B m d b) :
    Calls Tryz.prog 100 #[.agg #[.bool na, .slice A n c], .agg #[.bool nb, .slice B m d]] w (IntPost w (max n m + 1)) := by
  obtain ⟨W, hW⟩ : ∃ W, W = ((w.alloc (.cells #[.bool na, .slice A n c] 50)).alloc (.cells #[.bool nb, .slice B m d] 50)).alloc (.cells #[.bool false, .slice none 0 0] 50) := ⟨_, rfl⟩
  obtain ⟨f0, kW⟩ := frl_three w _ _ _ _ _ _ hW
  have F0 := Lib.hid f0
  have MA := Lib.hid (ha.keep kW)
  have MB := Lib.hid (hb.keep kW)
  have EGN : Hid (∀ args w, (callFunc 102 args).run Tryz.prog w = .ok (.enter 102 args) w) := Lib.hid (enters_of Tryz.func102 (by kernel_rfl) rfl)
  have EGA : Hid (∀ args w, (callFunc 101 args).run Tryz.prog w = .ok (.enter 101 args) w) := Lib.hid (enters_of Tryz.func101 (by kernel_rfl) rfl)
  have NG : Hid (∀ W', Keeps W W' → Calls Tryz.prog 102 #[.agg #[.bool nb, .slice B m d]] W' (IntPost W' m)) := Lib.hid fun W' hk => neg_any nb B m d b W' (by omega) (MB.out.keep hk)
  have e0 := f0.c0 0 rfl (b := w.heap.size) rfl
  have e1 := f0.c1 0 rfl (b := w.heap.size) rfl
  have e2 := f0.c0 1 rfl (b := w.heap.size + 1) rfl
  have e3 := f0.c1 1 rfl (b := w.heap.size + 1) rfl
  clear ha hb kW f0
  go_enter Tryz.func100, Tryz.ntmps100
  go_upto_region 1 with fail
  rw [← hW]
  clear hW
  go_region_law ((first
    | (refine step_callN rfl 102 #[.tmp 6] #[50] rfl EGN.out #[.agg #[.bool nb, .slice B m d]] (by first | (simp [Act.eval, Act.put]; done) | fail) (NG.out _ (by first | exact Keeps.refl _ | exact Keeps.drew _)) (fun e w' hp => intPost_ret hp) ?_; rintro v5 w5 ⟨hb5, s5, C5, n5, c5, q5, he5, hm5, hl5⟩; injection he5 with he5; subst he5; have hbb := (show Below W.heap.size W w5 from by first | exact hb5 | exact (Below.refl _ _).drew.trans hb5); have F5 := Lib.hid (F0.out.next hbb); have e0 := F5.out.c0 0 rfl (b := w.heap.size) rfl; have e1 := F5.out.c1 0 rfl (b := w.heap.size) rfl; have M5 := Lib.hid hm5; have MA5 := Lib.hid (MA.out.keep (Keeps.of_below hbb (Nat.le_refl _))); clear hb5 hm5 hbb)
    | (refine step_callN rfl 101 #[.tmp 5, .tmp 7] #[50, 50] rfl EGA.out #[.agg #[.bool na, .slice A n c], .agg #[.bool s5, .slice C5 n5 c5]] (by first | (simp [Act.eval, Act.put]; done) | fail) (add_any na s5 A C5 n c n5 c5 a q5 _ (by omega) (by omega) MA5.out M5.out) (fun e w' hp => intPost_ret hp) ?_; rintro v6 w6 ⟨hb6, s6, C6, n6, c6, q6, he6, hm6, hl6⟩; injection he6 with he6; subst he6; have F6 := Lib.hid (F5.out.next hb6); have M6 := Lib.hid hm6; have y0 := F6.out.c0 2 rfl (b := w.heap.size + 1 + 1) rfl; have y1 := F6.out.c1 2 rfl (b := w.heap.size + 1 + 1) rfl; have x0 := F6.out.fz 2 rfl 0 (b := w.heap.size + 1 + 1) rfl; have x1 := F6.out.fz 2 rfl 1 (b := w.heap.size + 1 + 1) rfl; clear hb6 hm6)
    | fail))
  all_goals
   have F7 := Lib.hid (F6.out.put 2 rfl (.bool s6) (.slice C6 n6 c6) (b := w.heap.size + 1 + 1) rfl)
   have M7 := Lib.hid (F6.out.mag 2 rfl M6.out (.bool s6) (.slice C6 n6 c6) (b := w.heap.size + 1 + 1) rfl)
   have z := two_cells (u := .bool s6) (v := .slice C6 n6 c6) y0 y1
   go_wp2_with fail
   exact bodyPost_ret (v := .agg #[.bool s6, .slice C6 n6 c6]) (by simp [results, Tryz.results100, go_sem, z.1, z.2]) rfl ⟨F7.out.below, s6, C6, n6, c6, q6, rfl, M7.out, by omega⟩
set_option maxRecDepth 100000 in
set_option maxHeartbeats 8000000 in
theorem fromint_any (x : Nat) (w : World) (hx : x < 1000000) :
    Calls Tryz.prog 90 #[.int .i64 (x : Int)] w (IntPost w 2) := by
  have WD : Hid (∀ W, Calls Tryz.prog 72 #[.int .u64 (x : Int)] W (WordsPost W x)) := Lib.hid fun W => words_any x W (by omega)
  have C0 : Hid (CellsAt (w.alloc (.cells #[.bool false, .slice none 0 0] 50)) w.heap.size #[.bool false, .slice none 0 0] 50) := Lib.hid (CellsAt.new _ _ _)
  have hx0 : ¬ (x : Int) < 0 := by omega
  have cW := WD.out (w.alloc (.cells #[.bool false, .slice none 0 0] 50))
  go_enter Tryz.func90, Tryz.ntmps90
  go_wp2_with fail
  refine Calls.mono cW ?_
  rintro _ w5 ⟨hb5, C5, n5, c5, q5, rfl, hm5, ht5, hv5, hl5⟩
  have C1 := Lib.hid (C0.out.below hb5 (by simp))
  have HB5 : Hid (Below w.heap.size w w5) := Lib.hid (((Below.refl _ _).alloc (Nat.le_refl _) _).trans (hb5.mono (by simp)))
  have hz5 := hb5.size
  have cS := signed_t false C5 n5 c5 q5 w5 (by omega) hm5 ht5
  have M5 := Lib.hid hm5
  simp only [Bool.false_and] at cS
  clear cW hb5 hm5 ht5
  simp at hz5
  go_wp2_with fail
  refine Calls.mono cS ?_
  rintro _ w6 ⟨rfl, hb6⟩
  have C2 := C1.out.below hb6 (by omega)
  have y0 : w6.cell? ⟨w.heap.size, 0, none⟩ = some (.bool false) := by rw [C2.cell]; rfl
  have y1 : w6.cell? ⟨w.heap.size, 1, none⟩ = some (.slice none 0 0) := by rw [C2.cell]; rfl
  have x0 := C2.frozen 0
  have x1 := C2.frozen 1
  have M7 := Lib.hid ((M5.out.keep (Keeps.of_below hb6 (Nat.le_refl _))).setTwo y0 y1 (.bool false) (.slice C5 n5 c5))
  have HB7 := Lib.hid (((HB5.out.trans (hb6.mono (by omega))).setCell (p := ⟨w.heap.size, 0, none⟩) (Nat.le_refl _) (.bool false)).setCell (p := ⟨w.heap.size, 1, none⟩) (Nat.le_refl _) (.slice C5 n5 c5))
  have z := two_cells (u := .bool false) (v := .slice C5 n5 c5) y0 y1
  clear cS hb6 C2
  go_wp2_with fail
  exact bodyPost_ret (v := .agg #[.bool false, .slice C5 n5 c5]) (by simp [results, Tryz.results90, go_sem, z.1, z.2]) rfl ⟨HB7.out, false, C5, n5, c5, q5, rfl, M7.out, hl5⟩
set_option maxRecDepth 100000 in
set_option maxHeartbeats 8000000 in
theorem same01_any (na nb : Bool) (A B : Option Addr) (n c m d : Nat) (a b : List Nat) (w : World) (hn : n ≤ 100000) (hm : m ≤ 100000) (ha : MagAt w A n c a) (hb : MagAt w B m d b) :
    Calls Tryz.prog 91 #[.agg #[.bool na, .slice A n c], .agg #[.bool nb, .slice B m d]] w (BoolPost w) := by
  obtain ⟨W, hW⟩ : ∃ W, W = (w.alloc (.cells #[.bool na, .slice A n c] 50)).alloc (.cells #[.bool nb, .slice B m d] 50) := ⟨_, rfl⟩
  have b0 : CellsAt W w.heap.size #[.bool na, .slice A n c] 50 := by rw [hW]; exact (CellsAt.new _ _ _).alloc _
  have b1 : CellsAt W (w.heap.size + 1) #[.bool nb, .slice B m d] 50 := by rw [hW]; exact CellsAt.new_at (by simp) _ _
  have HB : Hid (Below w.heap.size w W) := Lib.hid (by rw [hW]; exact ((Below.refl _ _).alloc (Nat.le_refl _) _).alloc (by simp) _)
  have kW : Keeps w W := by rw [hW]; exact (Keeps.alloc _ _).trans (Keeps.alloc _ _)
  have hz : w.heap.size ≤ W.heap.size := HB.out.size
  have e0 : W.cell? ⟨w.heap.size, 0, none⟩ = some (.bool na) := by rw [b0.cell]; rfl
  have e1 : W.cell? ⟨w.heap.size, 1, none⟩ = some (.slice A n c) := by rw [b0.cell]; rfl
  have e2 : W.cell? ⟨w.heap.size + 1, 0, none⟩ = some (.bool nb) := by rw [b1.cell]; rfl
  have e3 : W.cell? ⟨w.heap.size + 1, 1, none⟩ = some (.slice B m d) := by rw [b1.cell]; rfl
  have cC := compare_any A B n c m d a b W (by omega) (by omega) (ha.keep kW).1 (hb.keep kW).1
  clear ha hb kW b0 b1
  generalize cmpN a b = cv at *
  by_cases hs : na = nb
  · subst hs
    go_enter Tryz.func91, Tryz.ntmps91
    go_upto_region 1 with fail
    rw [← hW]
    clear hW
    go_wp2_with fail
    refine Calls.mono cC ?_
    rintro _ w4 ⟨rfl, hb4⟩
    have HB4 := Lib.hid (HB.out.trans (hb4.mono hz))
    clear cC hb4
    go_wp2_with fail
    go_ret
    exact boolPost_ret HB4.out
  · have hsb : (na == nb) = false := by simp; exact hs
    go_enter Tryz.func91, Tryz.ntmps91
    go_upto_region 1 with fail
    rw [← hW]
    clear hW
    go_wp2_with fail
    go_ret
    exact boolPost_ret HB.out
end Go.Proofs.YtpdbekgkopglgaaGreat
namespace Go.Proofs.YtpdbekgkopglgaaGreat
set_option linter.unusedVariables false
set_option linter.unusedSimpArgs false
open Go.RowKit Go.Sort
attribute [local go_sem ↓] Go.wp_at_zero Go.wp_at_succ

theorem FRL.push {w W : World} {cs : List (Value × Value)} (h : FRL w W cs) (hs : W.heap.size = w.heap.size + cs.length) (x y : Value) : FRL w (W.alloc (.cells #[x, y] 50)) (cs ++ [(x, y)]) := by
  obtain ⟨h1, h2, h3⟩ := h
  refine ⟨fun i x' y' hi => ?_, h2.alloc (by omega) _, by simp; omega⟩
  rcases Nat.lt_or_ge i cs.length with hl | hl
  · rw [List.getElem?_append_left hl] at hi
    exact (h1 i x' y' hi).alloc _
  · rw [List.getElem?_append_right hl] at hi
    rcases Nat.eq_zero_or_pos (i - cs.length) with e | e
    · rw [e] at hi
      simp at hi
      obtain ⟨rfl, rfl⟩ := hi
      exact CellsAt.new_at (by omega) _ _
    · rw [List.getElem?_eq_none (by simp; omega)] at hi; cases hi
theorem FRL.nil (w : World) : FRL w w [] := ⟨fun i x y h => by simp at h, Below.refl _ _, by simp⟩
theorem FRL.setOther {w W : World} {cs : List (Value × Value)} (h : FRL w W cs) {p : Addr} (hp : w.heap.size + cs.length ≤ p.block) (u : Value) : FRL w (W.setCell p u) cs := by
  obtain ⟨h1, h2, h3⟩ := h
  refine ⟨fun i x y hi => (h1 i x y hi).setOther ?_ u, h2.setCell (by omega) _, by simpa [World.setCell] using h3⟩
  have : i < cs.length := by
    rcases Nat.lt_or_ge i cs.length with h | h
    · exact h
    · rw [List.getElem?_eq_none h] at hi; cases hi
  omega
theorem frl_four (w : World) (x0 x1 y0 y1 z0 z1 u0 u1 : Value) {W : World} (hW : W = (((w.alloc (.cells #[x0, x1] 50)).alloc (.cells #[y0, y1] 50)).alloc (.cells #[z0, z1] 50)).alloc (.cells #[u0, u1] 50)) :
    FRL w W [(x0, x1), (y0, y1), (z0, z1), (u0, u1)] ∧ Keeps w W := by
  subst hW
  refine ⟨((((FRL.nil w).push (by simp) x0 x1).push (by simp) y0 y1).push (by simp) z0 z1).push (by simp) u0 u1, (((Keeps.alloc _ _).trans (Keeps.alloc _ _)).trans (Keeps.alloc _ _)).trans (Keeps.alloc _ _)⟩
theorem sgnI_range (b : Bool) (k : Nat) : sgnI b k = -1 ∨ sgnI b k = 0 ∨ sgnI b k = 1 := by
  unfold sgnI; split
  · exact Or.inr (Or.inl rfl)
  · cases b
    · exact Or.inr (Or.inr rfl)
    · exact Or.inl rfl
def DvmPost (w : World) (K : Nat) (e : Ending) (w' : World) : Prop :=
  Below w.heap.size w w' ∧ ∃ s C k c q s' C' k' c' q' r, e = .returned (.tuple #[.agg #[.bool s, .slice C k c], .agg #[.bool s', .slice C' k' c'], .int .i64 r]) ∧ MagAt w' C k c q ∧ k ≤ K ∧ MagAt w' C' k' c' q'
set_option maxRecDepth 100000 in
set_option maxHeartbeats 16000000 in
theorem divmod_any (na nb : Bool) (A B : Option Addr) (n c m d : Nat) (a b : List Nat) (w : World) (hn : n ≤ 20000) (hm : m ≤ 20000) (ha : MagAt w A n c a) (hb : MagAt w B m d b) :
    Calls Tryz.prog 99 #[.agg #[.bool na, .slice A n c], .agg #[.bool nb, .slice B m d]] w (DvmPost w (n + 4)) := by
  obtain ⟨W, hW⟩ : ∃ W, W = (((w.alloc (.cells #[.bool na, .slice A n c] 50)).alloc (.cells #[.bool nb, .slice B m d] 50)).alloc (.cells #[.bool false, .slice none 0 0] 50)).alloc (.cells #[.bool false, .slice none 0 0] 50) := ⟨_, rfl⟩
  obtain ⟨f0, kW⟩ := frl_four w _ _ _ _ _ _ _ _ hW
  have F0 := Lib.hid f0
  have MA := Lib.hid (ha.keep kW)
  have MB := Lib.hid (hb.keep kW)
  have EGM : Hid (∀ args w, (callFunc 95 args).run Tryz.prog w = .ok (.enter 95 args) w) := Lib.hid (enters_of Tryz.func95 (by kernel_rfl) rfl)
  have EGU : Hid (∀ args w, (callFunc 100 args).run Tryz.prog w = .ok (.enter 100 args) w) := Lib.hid (enters_of Tryz.func100 (by kernel_rfl) rfl)
  have EGF : Hid (∀ args w, (callFunc 90 args).run Tryz.prog w = .ok (.enter 90 args) w) := Lib.hid (enters_of Tryz.func90 (by kernel_rfl) rfl)
  have TLa : tlen a ≤ n := by have := tlen_le a; rwa [ha.len] at this
  have TLb : tlen b ≤ m := by have := tlen_le b; rwa [hb.len] at this
  have cA := call_q (w := W) (fun w' hk => norm_any na A n c a w' (by omega) (MA.out.keep hk))
  have cB := call_q (w := W) (fun w' hk => norm_any nb B m d b w' (by omega) (MB.out.keep hk))
  have g0 := grown_cell (f0.c0 0 rfl (b := w.heap.size) rfl)
  have g1 := grown_cell (f0.c1 0 rfl (b := w.heap.size) rfl)
  have g2 := grown_cell (f0.c0 1 rfl (b := w.heap.size + 1) rfl)
  have g3 := grown_cell (f0.c1 1 rfl (b := w.heap.size + 1) rfl)
  have TA : Hid (Trm (trimN a)) := Lib.hid (trimN_trm a)
  have TB : Hid (Trm (trimN b)) := Lib.hid (trimN_trm b)
  clear ha hb kW f0
  go_enter Tryz.func99, Tryz.ntmps99
  go_upto_region 1 with fail
  rw [← hW]
  have HW := Lib.hid hW
  clear hW
  refine wp_region_qt 4 (by kernel_rfl) (by kernel_rfl) ?_
  simp only [List.take_succ_cons, List.take_zero, List.drop_succ_cons, List.drop_zero]
  repeat (go_big_quiet_step (first | with_reducible exact cA _ _ | with_reducible exact cB _ _))
  refine wpQuiet_nil ?_
  intro wq hgq
  have F1 := Lib.hid (F0.out.next hgq)
  have MA1 := Lib.hid (MA.out.trim.keep (Keeps.of_below hgq (Nat.le_refl _)))
  have MB1 := Lib.hid (MB.out.trim.keep (Keeps.of_below hgq (Nat.le_refl _)))
  clear hgq cA cB g0 g1 g2 g3 HW F0 MA MB
  generalize (na && decide (0 < tlen a)) = s1 at *
  generalize (nb && decide (0 < tlen b)) = s2 at *
  generalize tlen a = ta at *
  generalize tlen b = tb at *
  generalize trimN a = la at *
  generalize trimN b = lb at *
  have e0 := F1.out.c0 0 rfl (b := w.heap.size) rfl
  have e1 := F1.out.c1 0 rfl (b := w.heap.size) rfl
  have e2 := F1.out.c0 1 rfl (b := w.heap.size + 1) rfl
  have e3 := F1.out.c1 1 rfl (b := w.heap.size + 1) rfl
  have z0 := F1.out.fz 0 rfl 0 (b := w.heap.size) rfl
  have z1 := F1.out.fz 0 rfl 1 (b := w.heap.size) rfl
  have z2 := F1.out.fz 1 rfl 0 (b := w.heap.size + 1) rfl
  have z3 := F1.out.fz 1 rfl 1 (b := w.heap.size + 1) rfl
  have F2 := Lib.hid (F1.out.put 0 rfl (.bool s1) (.slice A ta c) (b := w.heap.size) rfl)
  have MA2 := Lib.hid (F1.out.mag 0 rfl MA1.out (.bool s1) (.slice A ta c) (b := w.heap.size) rfl)
  have MB2 := Lib.hid (F1.out.mag 0 rfl MB1.out (.bool s1) (.slice A ta c) (b := w.heap.size) rfl)
  have F3 := Lib.hid (F2.out.put 1 rfl (.bool s2) (.slice B tb d) (b := w.heap.size + 1) rfl)
  have MA3 := Lib.hid (F2.out.mag 1 rfl MA2.out (.bool s2) (.slice B tb d) (b := w.heap.size + 1) rfl)
  have MB3 := Lib.hid (F2.out.mag 1 rfl MB2.out (.bool s2) (.slice B tb d) (b := w.heap.size + 1) rfl)
  clear F1 MA1 MB1 F2 MA2 MB2
  simp only [List.set_cons_zero, List.set_cons_succ] at F3
  go_upto_region 2 with fail
  generalize hw2 : (((wq.setCell ⟨w.heap.size, 0, none⟩ (.bool s1)).setCell ⟨w.heap.size, 1, none⟩ (.slice A ta c)).setCell ⟨w.heap.size + 1, 0, none⟩ (.bool s2)).setCell ⟨w.heap.size + 1, 1, none⟩ (.slice B tb d) = w2 at *
  clear hw2 e0 e1 e2 e3 z0 z1 z2 z3
  have e0 := F3.out.c0 0 rfl (b := w.heap.size) rfl
  have e1 := F3.out.c1 0 rfl (b := w.heap.size) rfl
  have e2 := F3.out.c0 1 rfl (b := w.heap.size + 1) rfl
  have e3 := F3.out.c1 1 rfl (b := w.heap.size + 1) rfl
  by_cases htb : tb = 0
  · subst htb
    have y0 := F3.out.c0 2 rfl (b := w.heap.size + 1 + 1) rfl
    have y1 := F3.out.c1 2 rfl (b := w.heap.size + 1 + 1) rfl
    have y2 := F3.out.c0 3 rfl (b := w.heap.size + 1 + 1 + 1) rfl
    have y3 := F3.out.c1 3 rfl (b := w.heap.size + 1 + 1 + 1) rfl
    have x0 := F3.out.fz 2 rfl 0 (b := w.heap.size + 1 + 1) rfl
    have x1 := F3.out.fz 2 rfl 1 (b := w.heap.size + 1 + 1) rfl
    have x2 := F3.out.fz 3 rfl 0 (b := w.heap.size + 1 + 1 + 1) rfl
    have x3 := F3.out.fz 3 rfl 1 (b := w.heap.size + 1 + 1 + 1) rfl
    have F4 := Lib.hid ((F3.out.put 2 rfl (.bool false) (.slice none 0 0) (b := w.heap.size + 1 + 1) rfl).put 3 rfl (.bool false) (.slice none 0 0) (b := w.heap.size + 1 + 1 + 1) rfl)
    have r0 := F4.out.c0 2 rfl (b := w.heap.size + 1 + 1) rfl
    have r1 := F4.out.c1 2 rfl (b := w.heap.size + 1 + 1) rfl
    have r2 := F4.out.c0 3 rfl (b := w.heap.size + 1 + 1 + 1) rfl
    have r3 := F4.out.c1 3 rfl (b := w.heap.size + 1 + 1 + 1) rfl
    go_wp2_with fail
    exact bodyPost_ret (v := .tuple #[.agg #[.bool false, .slice none 0 0], .agg #[.bool false, .slice none 0 0], .int .i64 6]) (by simp [results, Tryz.results99, go_sem, r0, r1, r2, r3]) rfl ⟨F4.out.below, false, none, 0, 0, [], false, none, 0, 0, [], 6, rfl, magNil _, by omega, magNil _⟩
  have htb0 : ¬ (tb : Int) = 0 := by omega
  have cD := divide_any A B ta c tb d la lb w2 (by omega) (by omega) (by omega) MA3.out MB3.out TA.out TB.out
  go_wp2_with fail
  refine Calls.mono cD ?_
  rintro _ w5 ⟨hb5, C5, n5, c5, q5, C5', n5', c5', r5, rfl, hm5, hl5, -, -, -⟩
  have F5 := Lib.hid (F3.out.next hb5)
  have k5 := Keeps.of_below hb5 (Nat.le_refl _)
  have MA5 := Lib.hid (MA3.out.keep k5)
  have MB5 := Lib.hid (MB3.out.keep k5)
  have M5 := Lib.hid hm5
  clear cD hb5 k5 hm5 e0 e1 e2 e3 F3 MA3 MB3
  have e0 := F5.out.c0 0 rfl (b := w.heap.size) rfl
  have e1 := F5.out.c1 0 rfl (b := w.heap.size) rfl
  have e2 := F5.out.c0 1 rfl (b := w.heap.size + 1) rfl
  have e3 := F5.out.c1 1 rfl (b := w.heap.size + 1) rfl
  have cS := signed_any (!(s1 == s2)) C5 n5 c5 q5 w5 (by omega) M5.out
  have TL5 : tlen q5 ≤ n5 := by have := tlen_le q5; rwa [M5.out.len] at this
  have M5t := Lib.hid M5.out.trim
  generalize ((!(s1 == s2)) && decide (0 < tlen q5)) = s5 at *
  generalize tlen q5 = k5 at *
  generalize trimN q5 = p5 at *
  go_wp2_with fail
  refine Calls.mono cS ?_
  rintro _ w6 ⟨rfl, hb6⟩
  have F6 := F5.out.next hb6
  have k6 := Keeps.of_below hb6 (Nat.le_refl _)
  obtain ⟨g9, hg9⟩ : ∃ g, g = w6.heap.size := ⟨_, rfl⟩
  obtain ⟨w7, hw7⟩ : ∃ W, W = w6.alloc (.cells #[.bool s5, .slice C5 k5 c5] 50) := ⟨_, rfl⟩
  have ba : Below w6.heap.size w6 w7 := by rw [hw7]; exact (Below.refl _ _).alloc (Nat.le_refl _) _
  have ka := Keeps.of_below ba (Nat.le_refl _)
  have F7 := Lib.hid (F6.next ba)
  have C9 : Hid (CellsAt w7 g9 #[.bool s5, .slice C5 k5 c5] 50) := Lib.hid (by rw [hw7, hg9]; exact CellsAt.new _ _ _)
  have MA7 := Lib.hid (MA5.out.keep (k6.trans ka))
  have MB7 := Lib.hid (MB5.out.keep (k6.trans ka))
  have M7 := Lib.hid (M5t.out.keep (k6.trans ka))
  have hg9b : w.heap.size + 4 ≤ g9 := by have := F6.size; simp at this; omega
  have HG9 := Lib.hid hg9
  clear cS hb6 k6 ba ka F6 hg9 F5 MA5 MB5 M5 M5t e0 e1 e2 e3
  go_upto_region 6 with fail
  rw [← hw7, ← HG9.out]
  clear hw7 HG9
  have e0 := F7.out.c0 0 rfl (b := w.heap.size) rfl
  have e1 := F7.out.c1 0 rfl (b := w.heap.size) rfl
  have e2 := F7.out.c0 1 rfl (b := w.heap.size + 1) rfl
  have e3 := F7.out.c1 1 rfl (b := w.heap.size + 1) rfl
  have e4 : w7.cell? ⟨g9, 0, none⟩ = some (.bool s5) := by rw [C9.out.cell]; rfl
  have e5 : w7.cell? ⟨g9, 1, none⟩ = some (.slice C5 k5 c5) := by rw [C9.out.cell]; rfl
  have MU : Hid (∀ W, Keeps w7 W → Calls Tryz.prog 95 #[.agg #[.bool s5, .slice C5 k5 c5], .agg #[.bool s2, .slice B tb d]] W (IntPost W (k5 + tb))) := Lib.hid fun W hk => mul01_any s5 s2 C5 B k5 c5 tb d p5 lb W (by omega) (by omega) (M7.out.keep hk) (MB7.out.keep hk)
  have hz7 : w.heap.size + 4 ≤ w7.heap.size := by have := F7.out.size; simpa using this
  go_cut [10] (fun pv wx => ∃ g10 s6 C6 n6 c6 q6, pv = .pointer (some ⟨g10, 0, none⟩) ∧ g9 ≠ g10 ∧ w.heap.size + 4 ≤ g10 ∧ FRL w wx [(.bool s1, .slice A ta c), (.bool s2, .slice B tb d), (.bool false, .slice none 0 0), (.bool false, .slice none 0 0)] ∧ CellsAt wx g9 #[.bool s5, .slice C5 k5 c5] 50 ∧ CellsAt wx g10 #[.bool s6, .slice C6 n6 c6] 50 ∧ MagAt wx B tb d lb ∧ MagAt wx C5 k5 c5 p5 ∧ MagAt wx C6 n6 c6 q6 ∧ n6 ≤ 60000)
  case first =>
    have hg97 : g9 < w7.heap.size := C9.out.lt
    have n1 : w7.heap.size ≠ w.heap.size := (by omega)
    have n2 : w7.heap.size ≠ w.heap.size + 1 := (by omega)
    have n3 : w7.heap.size ≠ g9 := (by omega)
    have n4 : w.heap.size ≠ w7.heap.size := (by omega)
    have n5x : w.heap.size + 1 ≠ w7.heap.size := (by omega)
    have n6x : g9 ≠ w7.heap.size := (by omega)
    go_region_held3 (fun w' => w'.cell? ⟨w.heap.size, 0, none⟩ = some (.bool s1) ∧ w'.cell? ⟨w.heap.size, 1, none⟩ = some (.slice A ta c) ∧ w'.cell? ⟨g9, 0, none⟩ = some (.bool s5) ∧ w'.cell? ⟨g9, 1, none⟩ = some (.slice C5 k5 c5) ∧ w'.cell? ⟨w.heap.size + 1, 0, none⟩ = some (.bool s2) ∧ w'.cell? ⟨w.heap.size + 1, 1, none⟩ = some (.slice B tb d)) (first | exact ⟨e0, e1, e4, e5, e2, e3⟩ | go_keep)
      ((first
        | (go_at_call 95; refine (MU.out _ (by first | exact Keeps.refl _ | exact Keeps.drew _ | exact (Keeps.alloc _ _).trans (Keeps.drew _) | exact Keeps.alloc _ _ | exact (Keeps.drew _).trans (Keeps.alloc _ _) | fail)).mono ?_; rintro e w8 ⟨hb8, s8, C8, n8, c8, q8, rfl, hm8, hl8⟩; have hbb := (show Below w7.heap.size w7 w8 from (by first | exact hb8 | exact (Below.refl _ _).drew.trans hb8 | exact ((Below.refl _ _).alloc (Nat.le_refl _) _).drew.trans (hb8.mono (by simp)) | exact ((Below.refl _ _).alloc (Nat.le_refl _) _).trans (hb8.mono (by simp)) | exact ((Below.refl _ _).drew.alloc (Nat.le_refl _) _).trans (hb8.mono (by simp)) | fail)); have F8 := Lib.hid (F7.out.next hbb); have C98 := Lib.hid (C9.out.below hbb C9.out.lt); have e0 := F8.out.c0 0 rfl (b := w.heap.size) rfl; have e1 := F8.out.c1 0 rfl (b := w.heap.size) rfl; have e2 := F8.out.c0 1 rfl (b := w.heap.size + 1) rfl; have e3 := F8.out.c1 1 rfl (b := w.heap.size + 1) rfl; have e4 : w8.cell? ⟨g9, 0, none⟩ = some (.bool s5) := (by rw [C98.out.cell]; rfl); have e5 : w8.cell? ⟨g9, 1, none⟩ = some (.slice C5 k5 c5) := (by rw [C98.out.cell]; rfl); have k8 := Keeps.of_below hbb (Nat.le_refl _); have MA8 := Lib.hid (MA7.out.keep k8); have MB8 := Lib.hid (MB7.out.keep k8); have M58 := Lib.hid (M7.out.keep k8); have M8 := Lib.hid hm8; have hz8 := hbb.size; have n1 : w8.heap.size ≠ w.heap.size := (by omega); have n2 : w8.heap.size ≠ w.heap.size + 1 := (by omega); have n3 : w8.heap.size ≠ g9 := (by omega); have n4 : w.heap.size ≠ w8.heap.size := (by omega); have n5x : w.heap.size + 1 ≠ w8.heap.size := (by omega); have n6x : g9 ≠ w8.heap.size := (by omega); (first | (have CT : Hid (CellsAt w8 w7.heap.size #[.bool false, .slice none 0 0] 50) := Lib.hid ((CellsAt.new w7 _ _).below hb8 (by simp))) | (have CT : Hid (CellsAt w8 w7.heap.size #[.bool false, .slice none 0 0] 50) := Lib.hid ((CellsAt.new w7.drew _ _).below hb8 (by simp))) | skip); clear hb8 hm8 hbb k8)
        | (go_at_call 100; refine (sub_any s1 s8 A C8 ta c n8 c8 la q8 _ (by omega) (by omega) (MA8.out.keep (by first | exact Keeps.refl _ | exact Keeps.drew _ | exact (Keeps.alloc _ _).trans (Keeps.drew _) | exact Keeps.alloc _ _ | exact (Keeps.drew _).trans (Keeps.alloc _ _) | fail)) (M8.out.keep (by first | exact Keeps.refl _ | exact Keeps.drew _ | exact (Keeps.alloc _ _).trans (Keeps.drew _) | exact Keeps.alloc _ _ | exact (Keeps.drew _).trans (Keeps.alloc _ _) | fail))).mono ?_; rintro e w6 ⟨hb6, s6, C6, n6, c6, q6, rfl, hm6, hl6⟩; have hbb := (show Below w8.heap.size w8 w6 from (by first | exact hb6 | exact (Below.refl _ _).drew.trans hb6 | exact ((Below.refl _ _).alloc (Nat.le_refl _) _).drew.trans (hb6.mono (by simp)) | exact ((Below.refl _ _).alloc (Nat.le_refl _) _).trans (hb6.mono (by simp)) | exact ((Below.refl _ _).drew.alloc (Nat.le_refl _) _).trans (hb6.mono (by simp)) | fail)); have F6 := Lib.hid (F8.out.next hbb); have C96 := Lib.hid (C98.out.below hbb C98.out.lt); have e0 := F6.out.c0 0 rfl (b := w.heap.size) rfl; have e1 := F6.out.c1 0 rfl (b := w.heap.size) rfl; have e2 := F6.out.c0 1 rfl (b := w.heap.size + 1) rfl; have e3 := F6.out.c1 1 rfl (b := w.heap.size + 1) rfl; have e4 : w6.cell? ⟨g9, 0, none⟩ = some (.bool s5) := (by rw [C96.out.cell]; rfl); have e5 : w6.cell? ⟨g9, 1, none⟩ = some (.slice C5 k5 c5) := (by rw [C96.out.cell]; rfl); have k6 := Keeps.of_below hbb (Nat.le_refl _); have MB6 := Lib.hid (MB8.out.keep k6); have M56 := Lib.hid (M58.out.keep k6); have M6 := Lib.hid hm6; have hz6 := hbb.size; have n1 : w6.heap.size ≠ w.heap.size := (by omega); have n2 : w6.heap.size ≠ w.heap.size + 1 := (by omega); have n3 : w6.heap.size ≠ g9 := (by omega); have n4 : w.heap.size ≠ w6.heap.size := (by omega); have n5x : w.heap.size + 1 ≠ w6.heap.size := (by omega); have n6x : g9 ≠ w6.heap.size := (by omega); (first | (have CU := Lib.hid (CT.out.below hbb CT.out.lt); have t0 : w6.cell? ⟨w7.heap.size, 0, none⟩ = some (.bool false) := (by rw [CU.out.cell]; rfl); have t1 : w6.cell? ⟨w7.heap.size, 1, none⟩ = some (.slice none 0 0) := (by rw [CU.out.cell]; rfl); have t2 := CU.out.frozen 0; have t3 := CU.out.frozen 1) | (have CU : Hid (CellsAt w6 w8.heap.size #[.bool false, .slice none 0 0] 50) := Lib.hid ((CellsAt.new w8 _ _).below hb6 (by simp)); have t0 : w6.cell? ⟨w8.heap.size, 0, none⟩ = some (.bool false) := (by rw [CU.out.cell]; rfl); have t1 : w6.cell? ⟨w8.heap.size, 1, none⟩ = some (.slice none 0 0) := (by rw [CU.out.cell]; rfl); have t2 := CU.out.frozen 0; have t3 := CU.out.frozen 1) | (have CU : Hid (CellsAt w6 w8.heap.size #[.bool false, .slice none 0 0] 50) := Lib.hid ((CellsAt.new w8.drew _ _).below hb6 (by simp)); have t0 : w6.cell? ⟨w8.heap.size, 0, none⟩ = some (.bool false) := (by rw [CU.out.cell]; rfl); have t1 : w6.cell? ⟨w8.heap.size, 1, none⟩ = some (.slice none 0 0) := (by rw [CU.out.cell]; rfl); have t2 := CU.out.frozen 0; have t3 := CU.out.frozen 1) | skip); clear hb6 hm6 k6)
        | fail))
    all_goals
     go_wp2_with fail
     go_meet
     first
     | exact ⟨w7.heap.size, s6, C6, n6, c6, q6, rfl, (by have := C9.out.lt; omega), (by omega), (F6.out.setOther (p := ⟨w7.heap.size, 0, none⟩) (by simp; omega) _).setOther (p := ⟨w7.heap.size, 1, none⟩) (by simp; omega) _, (C96.out.setOther (p := ⟨w7.heap.size, 0, none⟩) (by have := C9.out.lt; omega) _).setOther (p := ⟨w7.heap.size, 1, none⟩) (by have := C9.out.lt; omega) _, (by simpa using (CU.out.setSame (j := 0) (.bool s6)).setSame (j := 1) (.slice C6 n6 c6)), MB6.out.setTwo t0 t1 _ _, M56.out.setTwo t0 t1 _ _, M6.out.setTwo t0 t1 _ _, (by omega)⟩
     | exact ⟨w8.heap.size, s6, C6, n6, c6, q6, rfl, (by have := C9.out.lt; omega), (by omega), (F6.out.setOther (p := ⟨w8.heap.size, 0, none⟩) (by simp; omega) _).setOther (p := ⟨w8.heap.size, 1, none⟩) (by simp; omega) _, (C96.out.setOther (p := ⟨w8.heap.size, 0, none⟩) (by have := C9.out.lt; omega) _).setOther (p := ⟨w8.heap.size, 1, none⟩) (by have := C9.out.lt; omega) _, (by simpa using (CU.out.setSame (j := 0) (.bool s6)).setSame (j := 1) (.slice C6 n6 c6)), MB6.out.setTwo t0 t1 _ _, M56.out.setTwo t0 t1 _ _, M6.out.setTwo t0 t1 _ _, (by omega)⟩
     | exact ⟨w6.heap.size, s6, C6, n6, c6, q6, rfl, (by have := C9.out.lt; omega), (by omega), F6.out.next ((Below.refl _ _).alloc (Nat.le_refl _) _), C96.out.alloc _, CellsAt.new _ _ _, MB6.out.keep (Keeps.alloc _ _), M56.out.keep (Keeps.alloc _ _), M6.out.keep (Keeps.alloc _ _), (by omega)⟩
     | exact ⟨w6.heap.size, s6, C6, n6, c6, q6, rfl, (by have := C9.out.lt; omega), (by omega), F6.out.next ((Below.refl _ _).drew.alloc (Nat.le_refl _) _), (C96.out.below ((Below.refl _ _).drew.alloc (Nat.le_refl _) _) C96.out.lt), CellsAt.new w6.drew _ _, MB6.out.keep ((Keeps.drew _).trans (Keeps.alloc _ _)), M56.out.keep ((Keeps.drew _).trans (Keeps.alloc _ _)), M6.out.keep ((Keeps.drew _).trans (Keeps.alloc _ _)), (by omega)⟩
  case rest =>
    obtain ⟨g10, s6, C6, n6, c6, q6, rfl, hgg, hg10, f8, c98, c10, mb8, m58, m68, hn6⟩ := hcut
    rename World => w8
    have F8 := Lib.hid f8
    have C98 := Lib.hid c98
    have C10 := Lib.hid c10
    have MB8 := Lib.hid mb8
    have M58 := Lib.hid m58
    have M68 := Lib.hid m68
    have hz8 : w.heap.size + 4 ≤ w8.heap.size := by have := f8.size; simpa using this
    clear f8 c98 c10 mb8 m58 m68 F7 C9 MA7 MB7 M7 e0 e1 e2 e3 e4 e5 MU hz7
    have SA := call_q (w := w8) (fun w' hk => sign_any s6 C6 n6 c6 q6 w' (by omega) (M68.out.keep hk))
    have SB := call_q (w := w8) (fun w' hk => sign_any s2 B tb d lb w' (by omega) (MB8.out.keep hk))
    obtain ⟨p, hp, hp1, hp2⟩ : ∃ p : Int, sgnI s6 (tlen q6) * sgnI s2 (tlen lb) = p ∧ -1 ≤ p ∧ p ≤ 1 := by
      refine ⟨_, rfl, ?_⟩
      rcases sgnI_range s6 (tlen q6) with e | e | e <;> rcases sgnI_range s2 (tlen lb) with e' | e' | e' <;> simp [e, e']
    have hx := sgnI_range s6 (tlen q6)
    generalize sgnI s6 (tlen q6) = x at *
    generalize sgnI s2 (tlen lb) = y at *
    have e0 : w8.cell? ⟨g10, 0, none⟩ = some (.bool s6) := by rw [C10.out.cell]; rfl
    have e1 : w8.cell? ⟨g10, 1, none⟩ = some (.slice C6 n6 c6) := by rw [C10.out.cell]; rfl
    have e2 := F8.out.c0 1 rfl (b := w.heap.size + 1) rfl
    have e3 := F8.out.c1 1 rfl (b := w.heap.size + 1) rfl
    clear hx
    go_upto_region 7 with fail
    have g0 := grown_cell e0
    have g1 := grown_cell e1
    have g2 := grown_cell e2
    have g3 := grown_cell e3
    refine wp_region_q (by kernel_rfl) (by kernel_rfl) ?_
    repeat (go_big_quiet_step (first | with_reducible exact SA _ _ | with_reducible exact SB _ _))
    refine wpQuiet_nil ?_
    intro wq hgq
    have kq := Keeps.of_below hgq (Nat.le_refl _)
    have Fq := Lib.hid (F8.out.next hgq)
    have C9q := Lib.hid (C98.out.below hgq C98.out.lt)
    have C10q := Lib.hid (C10.out.below hgq C10.out.lt)
    have MBq := Lib.hid (MB8.out.keep kq)
    have M5q := Lib.hid (M58.out.keep kq)
    have M6q := Lib.hid (M68.out.keep kq)
    clear kq hgq F8 C98 C10 MB8 M58 M68 e0 e1 e2 e3 SA SB hz8 g0 g1 g2 g3
    by_cases hp0 : p < 0
    · go_upto_region 8 with fail
      have e4 : wq.cell? ⟨g9, 0, none⟩ = some (.bool s5) := by rw [C9q.out.cell]; rfl
      have e5 : wq.cell? ⟨g9, 1, none⟩ = some (.slice C5 k5 c5) := by rw [C9q.out.cell]; rfl
      have z4 := C9q.out.frozen 0
      have z5 := C9q.out.frozen 1
      go_cut [] (fun wx => ∃ sq Cq nq cq lq, FRL w wx [(.bool s1, .slice A ta c), (.bool s2, .slice B tb d), (.bool false, .slice none 0 0), (.bool false, .slice none 0 0)] ∧ CellsAt wx g9 #[.bool sq, .slice Cq nq cq] 50 ∧ CellsAt wx g10 #[.bool s6, .slice C6 n6 c6] 50 ∧ MagAt wx B tb d lb ∧ MagAt wx Cq nq cq lq ∧ MagAt wx C6 n6 c6 q6 ∧ nq ≤ max k5 2 + 1)
      case first =>
        have FI : Hid (∀ W, Calls Tryz.prog 90 #[.int .i64 1] W (IntPost W 2)) := Lib.hid fun W => fromint_any 1 W (by omega)
        go_region_law ((first
          | (refine step_callN rfl 90 #[.const (.int .i64 1)] #[2] rfl EGF.out #[.int .i64 1] (by first | (simp [Act.eval, Act.put]; done) | fail) (FI.out _) (fun e w' hp => by obtain ⟨-, s, C, k, c', q, he, -⟩ := hp; exact ⟨_, he⟩) ?_; rintro v8 w8 ⟨hb8, s8, C8, n8, c8, q8, he8, hm8, hl8⟩; injection he8 with he8; subst he8; have hbb := (show Below wq.heap.size wq w8 from (by first | exact hb8 | exact (Below.refl _ _).drew.trans hb8 | fail)); have F8 := Lib.hid (Fq.out.next hbb); have C98 := Lib.hid (C9q.out.below hbb C9q.out.lt); have C108 := Lib.hid (C10q.out.below hbb C10q.out.lt); have e4 : w8.cell? ⟨g9, 0, none⟩ = some (.bool s5) := (by rw [C98.out.cell]; rfl); have e5 : w8.cell? ⟨g9, 1, none⟩ = some (.slice C5 k5 c5) := (by rw [C98.out.cell]; rfl); have k8 := Keeps.of_below hbb (Nat.le_refl _); have MB8 := Lib.hid (MBq.out.keep k8); have M58 := Lib.hid (M5q.out.keep k8); have M68 := Lib.hid (M6q.out.keep k8); have M8 := Lib.hid hm8; clear hb8 hm8 hbb k8)
          | (refine step_callN rfl 100 #[.tmp 47, .tmp 48] #[50, 50] rfl EGU.out #[.agg #[.bool s5, .slice C5 k5 c5], .agg #[.bool s8, .slice C8 n8 c8]] (by first | (simp [Act.eval, Act.put]; done) | fail) (sub_any s5 s8 C5 C8 k5 c5 n8 c8 p5 q8 _ (by omega) (by omega) (M58.out.keep (by first | exact Keeps.refl _ | exact Keeps.drew _ | fail)) (M8.out.keep (by first | exact Keeps.refl _ | exact Keeps.drew _ | fail))) (fun e w' hp => by obtain ⟨-, s, C, k, c', q, he, -⟩ := hp; exact ⟨_, he⟩) ?_; rintro va wa ⟨hba, sa, Ca, na', ca, qa, hea, hma, hla⟩; injection hea with hea; subst hea; have hbb := (show Below w8.heap.size w8 wa from (by first | exact hba | exact (Below.refl _ _).drew.trans hba | fail)); have Fa := Lib.hid (F8.out.next hbb); have C9a := Lib.hid (C98.out.below hbb C98.out.lt); have C10a := Lib.hid (C108.out.below hbb C108.out.lt); have ka := Keeps.of_below hbb (Nat.le_refl _); have MBa := Lib.hid (MB8.out.keep ka); have M5a := Lib.hid (M58.out.keep ka); have M6a := Lib.hid (M68.out.keep ka); have Ma := Lib.hid hma; have z4 := C9a.out.frozen 0; have z5 := C9a.out.frozen 1; have e4 : wa.cell? ⟨g9, 0, none⟩ = some (.bool s5) := (by rw [C9a.out.cell]; rfl); have e5 : wa.cell? ⟨g9, 1, none⟩ = some (.slice C5 k5 c5) := (by rw [C9a.out.cell]; rfl); clear hba hma hbb ka)
          | fail))
        all_goals
         go_wp2_with fail
         go_meet
         exact ⟨sa, Ca, na', ca, qa, (Fa.out.setOther (p := ⟨g9, 0, none⟩) (by simp; omega) _).setOther (p := ⟨g9, 1, none⟩) (by simp; omega) _, (by simpa using (C9a.out.setSame (j := 0) (.bool sa)).setSame (j := 1) (.slice Ca na' ca)), (C10a.out.setOther (p := ⟨g9, 0, none⟩) (by simp; omega) _).setOther (p := ⟨g9, 1, none⟩) (by simp; omega) _, MBa.out.setTwo e4 e5 _ _, Ma.out.setTwo e4 e5 _ _, M6a.out.setTwo e4 e5 _ _, (by omega)⟩
      case rest =>
        obtain ⟨sq, Cq, nq, cq, lq, f8, c98, c10, mb8, m58, m68, hnq⟩ := hcut
        rename World => w8
        have F8 := Lib.hid f8
        have C98 := Lib.hid c98
        have C10 := Lib.hid c10
        have MB8 := Lib.hid mb8
        have MQ8 := Lib.hid m58
        have M68 := Lib.hid m68
        clear f8 c98 c10 mb8 m58 m68 Fq C9q C10q MBq M5q M6q e4 e5 z4 z5
        have e0 : w8.cell? ⟨g10, 0, none⟩ = some (.bool s6) := by rw [C10.out.cell]; rfl
        have e1 : w8.cell? ⟨g10, 1, none⟩ = some (.slice C6 n6 c6) := by rw [C10.out.cell]; rfl
        have e2 := F8.out.c0 1 rfl (b := w.heap.size + 1) rfl
        have e3 := F8.out.c1 1 rfl (b := w.heap.size + 1) rfl
        have cA := add_any s6 s2 C6 B n6 c6 tb d q6 lb w8 (by omega) (by omega) M68.out MB8.out
        go_wp2_with fail
        refine Calls.mono cA ?_
        rintro _ wa ⟨hba, sr, Cr, nr, cr, lr, rfl, hma, hla⟩
        have Fa := F8.out.next hba
        have C9a := C98.out.below hba C98.out.lt
        have C10a := C10.out.below hba C10.out.lt
        have ka := Keeps.of_below hba (Nat.le_refl _)
        have z4 := C10a.frozen 0
        have z5 := C10a.frozen 1
        have e4 : wa.cell? ⟨g10, 0, none⟩ = some (.bool s6) := (by rw [C10a.cell]; rfl)
        have e5 : wa.cell? ⟨g10, 1, none⟩ = some (.slice C6 n6 c6) := (by rw [C10a.cell]; rfl)
        have F9 := Lib.hid ((Fa.setOther (p := ⟨g10, 0, none⟩) (by simp; omega) (.bool sr)).setOther (p := ⟨g10, 1, none⟩) (by simp; omega) (.slice Cr nr cr))
        have C9f := Lib.hid ((C9a.setOther (p := ⟨g10, 0, none⟩) (by simp; omega) (.bool sr)).setOther (p := ⟨g10, 1, none⟩) (by simp; omega) (.slice Cr nr cr))
        have C10f : Hid (CellsAt ((wa.setCell ⟨g10, 0, none⟩ (.bool sr)).setCell ⟨g10, 1, none⟩ (.slice Cr nr cr)) g10 #[.bool sr, .slice Cr nr cr] 50) := Lib.hid (by simpa using (C10a.setSame (j := 0) (.bool sr)).setSame (j := 1) (.slice Cr nr cr))
        have MQ := Lib.hid ((MQ8.out.keep ka).setTwo e4 e5 (.bool sr) (.slice Cr nr cr))
        have MR := Lib.hid (hma.setTwo e4 e5 (.bool sr) (.slice Cr nr cr))
        clear Fa C9a C10a ka F8 C98 C10 MB8 MQ8 M68 e0 e1 e2 e3 hba hma cA
        go_upto_region 10 with fail
        generalize (wa.setCell ⟨g10, 0, none⟩ (.bool sr)).setCell ⟨g10, 1, none⟩ (.slice Cr nr cr) = w9 at *
        clear e4 e5 z4 z5
        have y0 := F9.out.c0 2 rfl (b := w.heap.size + 1 + 1) rfl
        have y1 := F9.out.c1 2 rfl (b := w.heap.size + 1 + 1) rfl
        have y2 := F9.out.c0 3 rfl (b := w.heap.size + 1 + 1 + 1) rfl
        have y3 := F9.out.c1 3 rfl (b := w.heap.size + 1 + 1 + 1) rfl
        have x0 := F9.out.fz 2 rfl 0 (b := w.heap.size + 1 + 1) rfl
        have x1 := F9.out.fz 2 rfl 1 (b := w.heap.size + 1 + 1) rfl
        have x2 := F9.out.fz 3 rfl 0 (b := w.heap.size + 1 + 1 + 1) rfl
        have x3 := F9.out.fz 3 rfl 1 (b := w.heap.size + 1 + 1 + 1) rfl
        have d0 : w9.cell? ⟨g9, 0, none⟩ = some (.bool sq) := by rw [C9f.out.cell]; rfl
        have d1 : w9.cell? ⟨g9, 1, none⟩ = some (.slice Cq nq cq) := by rw [C9f.out.cell]; rfl
        have d2 : w9.cell? ⟨g10, 0, none⟩ = some (.bool sr) := by rw [C10f.out.cell]; rfl
        have d3 : w9.cell? ⟨g10, 1, none⟩ = some (.slice Cr nr cr) := by rw [C10f.out.cell]; rfl
        have m1 : w.heap.size + 1 + 1 ≠ g9 := (by omega)
        have m2 : w.heap.size + 1 + 1 + 1 ≠ g9 := (by omega)
        have m3 : w.heap.size + 1 + 1 ≠ g10 := (by omega)
        have m4 : w.heap.size + 1 + 1 + 1 ≠ g10 := (by omega)
        have m5 : g9 ≠ w.heap.size + 1 + 1 := (by omega)
        have m6 : g9 ≠ w.heap.size + 1 + 1 + 1 := (by omega)
        have m7 : g10 ≠ w.heap.size + 1 + 1 := (by omega)
        have m8 : g10 ≠ w.heap.size + 1 + 1 + 1 := (by omega)
        have F10 := F9.out.put 2 rfl (.bool sq) (.slice Cq nq cq) (b := w.heap.size + 1 + 1) rfl
        have F11 := Lib.hid (F10.put 3 rfl (.bool sr) (.slice Cr nr cr) (b := w.heap.size + 1 + 1 + 1) rfl)
        have MQ11 := Lib.hid (F10.mag 3 rfl (F9.out.mag 2 rfl MQ.out (.bool sq) (.slice Cq nq cq) (b := w.heap.size + 1 + 1) rfl) (.bool sr) (.slice Cr nr cr) (b := w.heap.size + 1 + 1 + 1) rfl)
        have MR11 := Lib.hid (F10.mag 3 rfl (F9.out.mag 2 rfl MR.out (.bool sq) (.slice Cq nq cq) (b := w.heap.size + 1 + 1) rfl) (.bool sr) (.slice Cr nr cr) (b := w.heap.size + 1 + 1 + 1) rfl)
        have F12 := F9.out.put 3 rfl (.bool sr) (.slice Cr nr cr) (b := w.heap.size + 1 + 1 + 1) rfl
        have F13 := Lib.hid (F12.put 2 rfl (.bool sq) (.slice Cq nq cq) (b := w.heap.size + 1 + 1) rfl)
        have MQ13 := Lib.hid (F12.mag 2 rfl (F9.out.mag 3 rfl MQ.out (.bool sr) (.slice Cr nr cr) (b := w.heap.size + 1 + 1 + 1) rfl) (.bool sq) (.slice Cq nq cq) (b := w.heap.size + 1 + 1) rfl)
        have MR13 := Lib.hid (F12.mag 2 rfl (F9.out.mag 3 rfl MR.out (.bool sr) (.slice Cr nr cr) (b := w.heap.size + 1 + 1 + 1) rfl) (.bool sq) (.slice Cq nq cq) (b := w.heap.size + 1 + 1) rfl)
        have r0 := F11.out.c0 2 rfl (b := w.heap.size + 1 + 1) rfl
        have r1 := F11.out.c1 2 rfl (b := w.heap.size + 1 + 1) rfl
        have r2 := F11.out.c0 3 rfl (b := w.heap.size + 1 + 1 + 1) rfl
        have r3 := F11.out.c1 3 rfl (b := w.heap.size + 1 + 1 + 1) rfl
        have q0 := F13.out.c0 2 rfl (b := w.heap.size + 1 + 1) rfl
        have q1 := F13.out.c1 2 rfl (b := w.heap.size + 1 + 1) rfl
        have q2 := F13.out.c0 3 rfl (b := w.heap.size + 1 + 1 + 1) rfl
        have q3 := F13.out.c1 3 rfl (b := w.heap.size + 1 + 1 + 1) rfl
        clear F10 F12 F9 MQ MR C9f C10f
        go_region
        all_goals
         go_wp2_with fail
         first
         | exact bodyPost_ret (v := .tuple #[.agg #[.bool sq, .slice Cq nq cq], .agg #[.bool sr, .slice Cr nr cr], .int .i64 0]) (by simp [results, Tryz.results99, go_sem, r0, r1, r2, r3, World.cell?_drew]) rfl ⟨(by first | exact F11.out.below | exact F11.out.below.drew), sq, Cq, nq, cq, lq, sr, Cr, nr, cr, lr, 0, rfl, (by first | exact MQ11.out | exact MQ11.out.keep (Keeps.drew _)), by omega, (by first | exact MR11.out | exact MR11.out.keep (Keeps.drew _))⟩
         | exact bodyPost_ret (v := .tuple #[.agg #[.bool sq, .slice Cq nq cq], .agg #[.bool sr, .slice Cr nr cr], .int .i64 0]) (by simp [results, Tryz.results99, go_sem, q0, q1, q2, q3, World.cell?_drew]) rfl ⟨(by first | exact F13.out.below | exact F13.out.below.drew), sq, Cq, nq, cq, lq, sr, Cr, nr, cr, lr, 0, rfl, (by first | exact MQ13.out | exact MQ13.out.keep (Keeps.drew _)), by omega, (by first | exact MR13.out | exact MR13.out.keep (Keeps.drew _))⟩
    · go_upto_region 10 with fail
      have y0 := Fq.out.c0 2 rfl (b := w.heap.size + 1 + 1) rfl
      have y1 := Fq.out.c1 2 rfl (b := w.heap.size + 1 + 1) rfl
      have y2 := Fq.out.c0 3 rfl (b := w.heap.size + 1 + 1 + 1) rfl
      have y3 := Fq.out.c1 3 rfl (b := w.heap.size + 1 + 1 + 1) rfl
      have x0 := Fq.out.fz 2 rfl 0 (b := w.heap.size + 1 + 1) rfl
      have x1 := Fq.out.fz 2 rfl 1 (b := w.heap.size + 1 + 1) rfl
      have x2 := Fq.out.fz 3 rfl 0 (b := w.heap.size + 1 + 1 + 1) rfl
      have x3 := Fq.out.fz 3 rfl 1 (b := w.heap.size + 1 + 1 + 1) rfl
      have d0 : wq.cell? ⟨g9, 0, none⟩ = some (.bool s5) := by rw [C9q.out.cell]; rfl
      have d1 : wq.cell? ⟨g9, 1, none⟩ = some (.slice C5 k5 c5) := by rw [C9q.out.cell]; rfl
      have d2 : wq.cell? ⟨g10, 0, none⟩ = some (.bool s6) := by rw [C10q.out.cell]; rfl
      have d3 : wq.cell? ⟨g10, 1, none⟩ = some (.slice C6 n6 c6) := by rw [C10q.out.cell]; rfl
      have m1 : w.heap.size + 1 + 1 ≠ g9 := (by omega)
      have m2 : w.heap.size + 1 + 1 + 1 ≠ g9 := (by omega)
      have m3 : w.heap.size + 1 + 1 ≠ g10 := (by omega)
      have m4 : w.heap.size + 1 + 1 + 1 ≠ g10 := (by omega)
      have m5 : g9 ≠ w.heap.size + 1 + 1 := (by omega)
      have m6 : g9 ≠ w.heap.size + 1 + 1 + 1 := (by omega)
      have m7 : g10 ≠ w.heap.size + 1 + 1 := (by omega)
      have m8 : g10 ≠ w.heap.size + 1 + 1 + 1 := (by omega)
      have F10 := Fq.out.put 2 rfl (.bool s5) (.slice C5 k5 c5) (b := w.heap.size + 1 + 1) rfl
      have F11 := Lib.hid (F10.put 3 rfl (.bool s6) (.slice C6 n6 c6) (b := w.heap.size + 1 + 1 + 1) rfl)
      have MQ11 := Lib.hid (F10.mag 3 rfl (Fq.out.mag 2 rfl M5q.out (.bool s5) (.slice C5 k5 c5) (b := w.heap.size + 1 + 1) rfl) (.bool s6) (.slice C6 n6 c6) (b := w.heap.size + 1 + 1 + 1) rfl)
      have MR11 := Lib.hid (F10.mag 3 rfl (Fq.out.mag 2 rfl M6q.out (.bool s5) (.slice C5 k5 c5) (b := w.heap.size + 1 + 1) rfl) (.bool s6) (.slice C6 n6 c6) (b := w.heap.size + 1 + 1 + 1) rfl)
      have F12 := Fq.out.put 3 rfl (.bool s6) (.slice C6 n6 c6) (b := w.heap.size + 1 + 1 + 1) rfl
      have F13 := Lib.hid (F12.put 2 rfl (.bool s5) (.slice C5 k5 c5) (b := w.heap.size + 1 + 1) rfl)
      have MQ13 := Lib.hid (F12.mag 2 rfl (Fq.out.mag 3 rfl M5q.out (.bool s6) (.slice C6 n6 c6) (b := w.heap.size + 1 + 1 + 1) rfl) (.bool s5) (.slice C5 k5 c5) (b := w.heap.size + 1 + 1) rfl)
      have MR13 := Lib.hid (F12.mag 2 rfl (Fq.out.mag 3 rfl M6q.out (.bool s6) (.slice C6 n6 c6) (b := w.heap.size + 1 + 1 + 1) rfl) (.bool s5) (.slice C5 k5 c5) (b := w.heap.size + 1 + 1) rfl)
      have r0 := F11.out.c0 2 rfl (b := w.heap.size + 1 + 1) rfl
      have r1 := F11.out.c1 2 rfl (b := w.heap.size + 1 + 1) rfl
      have r2 := F11.out.c0 3 rfl (b := w.heap.size + 1 + 1 + 1) rfl
      have r3 := F11.out.c1 3 rfl (b := w.heap.size + 1 + 1 + 1) rfl
      have q0 := F13.out.c0 2 rfl (b := w.heap.size + 1 + 1) rfl
      have q1 := F13.out.c1 2 rfl (b := w.heap.size + 1 + 1) rfl
      have q2 := F13.out.c0 3 rfl (b := w.heap.size + 1 + 1 + 1) rfl
      have q3 := F13.out.c1 3 rfl (b := w.heap.size + 1 + 1 + 1) rfl
      clear F10 F12 Fq M5q M6q C9q C10q
      go_region
      all_goals
       go_wp2_with fail
       first
       | exact bodyPost_ret (v := .tuple #[.agg #[.bool s5, .slice C5 k5 c5], .agg #[.bool s6, .slice C6 n6 c6], .int .i64 0]) (by simp [results, Tryz.results99, go_sem, r0, r1, r2, r3, World.cell?_drew]) rfl ⟨(by first | exact F11.out.below | exact F11.out.below.drew), s5, C5, k5, c5, p5, s6, C6, n6, c6, q6, 0, rfl, (by first | exact MQ11.out | exact MQ11.out.keep (Keeps.drew _)), by omega, (by first | exact MR11.out | exact MR11.out.keep (Keeps.drew _))⟩
       | exact bodyPost_ret (v := .tuple #[.agg #[.bool s5, .slice C5 k5 c5], .agg #[.bool s6, .slice C6 n6 c6], .int .i64 0]) (by simp [results, Tryz.results99, go_sem, q0, q1, q2, q3, World.cell?_drew]) rfl ⟨(by first | exact F13.out.below | exact F13.out.below.drew), s5, C5, k5, c5, p5, s6, C6, n6, c6, q6, 0, rfl, (by first | exact MQ13.out | exact MQ13.out.keep (Keeps.drew _)), by omega, (by first | exact MR13.out | exact MR13.out.keep (Keeps.drew _))⟩
end Go.Proofs.YtpdbekgkopglgaaGreat
