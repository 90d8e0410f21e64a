/-
  setsquareref33.Valid and graph.Valid answer whether a graph is valid: for every graph in memory.
-/
import Derived.Test.YtcpkdnhpelkeoaaGreatW1
namespace Go.Proofs.YtcpkdnhpelkeoaaGreat
set_option linter.unusedVariables false
set_option linter.unusedSimpArgs false
open Go.RowKit Go.Sort

set_option maxHeartbeats 1000000 in
theorem gvalid_any (N : Int) (A : Option Addr) (n c : Nat) (es : List (Int × Int)) (w : World) (hn : n ≤ 4611686018427387904) (he : Rd w 2 A n (prs es)) :
    Calls Tryz.prog 23 #[.agg #[.int .i64 N, .slice A n c]] w fun e w' => e = .returned (.bool (validB N es)) ∧ Below w.heap.size w w' := by
  by_cases hN0 : N < 0
  · rw [validB_out N es (.inl hN0)]
    go_enter Tryz.func23, Tryz.ntmps23
    go_wp2
    go_ret
    exact ⟨rfl, (Below.refl _ _).alloc (Nat.le_refl _) _⟩
  by_cases hN1 : 60 < N
  · rw [validB_out N es (.inr hN1)]
    go_enter Tryz.func23, Tryz.ntmps23
    go_wp2
    go_ret
    exact ⟨rfl, (Below.refl _ _).alloc (Nat.le_refl _) _⟩
  have HL := Lib.hid he.prs_len
  have H1 := Lib.hid (he.keep (Keeps.alloc w (.cells #[.int .i64 N, .slice A n c] 31)))
  clear he
  go_enter Tryz.func23, Tryz.ntmps23
  go_wp2
  go_loopw [3, 4, 16] (fun _ _ i wr => ∃ k : Nat, k ≤ n ∧ i = .int .i64 k ∧ (∀ j, j < k → okAt N es j = true) ∧ Below (w.heap.size + 1) (w.alloc (.cells #[.int .i64 N, .slice A n c] 31)) wr)
    (fun _ _ i _ => n - (intOf i).toNat)
  case atStart => exact ⟨0, Nat.zero_le _, rfl, by omega, Below.refl _ _⟩
  case round =>
    obtain ⟨k, hk, rfl, hok, hbw⟩ := hrel
    have HOK := Lib.hid hok
    clear hok
    have g0 : wr.cell? ⟨w.heap.size, 0, none⟩ = some (.int .i64 N) := by rw [hbw.cell (by simp)]; simp
    have g1 : wr.cell? ⟨w.heap.size, 1, none⟩ = some (.slice A n c) := by rw [hbw.cell (by simp)]; simp
    have gs : w.heap.size < wr.heap.size := by have := hbw.size; simp at this; omega
    have HB := Lib.hid hbw
    clear hbw
    by_cases hlt : k < n
    · obtain ⟨ad, rfl, c0, c1⟩ := (H1.out.keep (Keeps.of_below HB.out (by simp))).prs_at hlt
      generalize hx : (es.getD k (0, 0)).1 = x at c0
      generalize hy : (es.getD k (0, 0)).2 = y at c1
      have HX := Lib.hid hx
      have HY := Lib.hid hy
      clear hx hy
      have kx : ∀ d os, (grow (redrawn (wr.alloc (.cells #[.int .i64 x, .int .i64 y] 28)) d) os).cell? ⟨wr.heap.size, 0, none⟩ = some (.int .i64 x) := cell_regrown (by simp)
      have ky : ∀ d os, (grow (redrawn (wr.alloc (.cells #[.int .i64 x, .int .i64 y] 28)) d) os).cell? ⟨wr.heap.size, 1, none⟩ = some (.int .i64 y) := cell_regrown (by simp)
      have kN : ∀ d os, (grow (redrawn (wr.alloc (.cells #[.int .i64 x, .int .i64 y] 28)) d) os).cell? ⟨w.heap.size, 0, none⟩ = some (.int .i64 N) := cell_regrown (by rw [World.cell?_alloc_lt _ _ _ gs]; exact g0)
      have kE : ∀ d os, (grow (redrawn (wr.alloc (.cells #[.int .i64 x, .int .i64 y] 28)) d) os).cell? ⟨w.heap.size, 1, none⟩ = some (.slice (some ad) n c) := cell_regrown (by rw [World.cell?_alloc_lt _ _ _ gs]; exact g1)
      have hbel : ∀ wq, Below (wr.alloc (.cells #[.int .i64 x, .int .i64 y] 28)).heap.size (wr.alloc (.cells #[.int .i64 x, .int .i64 y] 28)) wq → Below (w.heap.size + 1) (w.alloc (.cells #[.int .i64 N, .slice (some ad) n c] 31)) wq := fun wq hq =>
        (HB.out.alloc (by omega) _).trans (hq.mono (by simp; omega))
      have hbel0 : ∀ wq, Below (wr.alloc (.cells #[.int .i64 x, .int .i64 y] 28)).heap.size (wr.alloc (.cells #[.int .i64 x, .int .i64 y] 28)) wq → Below w.heap.size w wq := fun wq hq =>
        ((Below.refl _ _).alloc (Nat.le_refl _) _).trans ((hbel wq hq).mono (by omega))
      have HBEL := Lib.hid hbel
      have HBEL0 := Lib.hid hbel0
      clear hbel hbel0
      go_wp2
      refine wp_region_q (by kernel_rfl) (by kernel_rfl) ?_
      by_cases q1 : x < 0 ∨ N ≤ x
      · have cH0 := call_p (w := (wr.alloc (.cells #[.int .i64 x, .int .i64 y] 28))) (has_any N x)
        rw [hasB_no q1] at cH0
        repeat (go_big_quiet_step (exact cH0 _ _))
        refine wpQuiet_nil ?_
        intro wq hgq
        go_wp2
        go_ret
        exact ⟨ret_bool (validB_no N es k (by rw [HL.out]; exact hlt) (okAt_no HX.out HY.out (by omega))).symm, HBEL0.out _ hgq⟩
      have cH0 := call_p (w := (wr.alloc (.cells #[.int .i64 x, .int .i64 y] 28))) (has_any N x)
      rw [hasB_yes (by omega) (by omega)] at cH0
      by_cases q2 : y < 0 ∨ N ≤ y
      · have cH1 := call_p (w := (wr.alloc (.cells #[.int .i64 x, .int .i64 y] 28))) (has_any N y)
        rw [hasB_no q2] at cH1
        repeat (go_big_quiet_step (first | with_reducible exact cH0 _ _ | with_reducible exact cH1 _ _))
        refine wpQuiet_nil ?_
        intro wq hgq
        go_wp2
        go_ret
        exact ⟨ret_bool (validB_no N es k (by rw [HL.out]; exact hlt) (okAt_no HX.out HY.out (by omega))).symm, HBEL0.out _ hgq⟩
      have cH1 := call_p (w := (wr.alloc (.cells #[.int .i64 x, .int .i64 y] 28))) (has_any N y)
      rw [hasB_yes (by omega) (by omega)] at cH1
      by_cases q3 : y ≤ x
      · repeat (go_big_quiet_step (first | with_reducible exact cH0 _ _ | with_reducible exact cH1 _ _))
        refine wpQuiet_nil ?_
        intro wq hgq
        go_wp2
        go_ret
        exact ⟨ret_bool (validB_no N es k (by rw [HL.out]; exact hlt) (okAt_no HX.out HY.out (by omega))).symm, HBEL0.out _ hgq⟩
      by_cases q4 : k = 0
      · have q5 : decide (0 < k) = false := by simp [q4]
        have Q4 := Lib.hid q4
        clear q4
        repeat (go_big_quiet_step (first | with_reducible exact cH0 _ _ | with_reducible exact cH1 _ _))
        refine wpQuiet_nil ?_
        intro wq hgq
        go_wp2
        go_roundw
        case rel => exact ⟨k + 1, by omega, by go_num, okAt_step HOK.out (okAt_zero HX.out HY.out (by omega) (by omega) (by omega) Q4.out), HBEL.out _ hgq⟩
        case measure => simp [intOf]; omega
      obtain ⟨ad', e', d0, d1⟩ := (H1.out.keep (Keeps.of_below HB.out (by simp))).prs_at (k := k - 1) (by omega)
      obtain rfl : ad = ad' := by injection e'
      clear e'
      generalize hp : (es.getD (k - 1) (0, 0)).1 = p at d0
      generalize hq : (es.getD (k - 1) (0, 0)).2 = q at d1
      have HP := Lib.hid hp
      have HQ := Lib.hid hq
      clear hp hq
      have kp : ∀ d os, (grow (redrawn (wr.alloc (.cells #[.int .i64 x, .int .i64 y] 28)) d) os).cell? (ad.add ((k - 1) * 2)) = some (.int .i64 p) := cell_regrown (Keeps.alloc _ _ _ _ d0)
      have kq : ∀ d os, (grow (redrawn (wr.alloc (.cells #[.int .i64 x, .int .i64 y] 28)) d) os).cell? ⟨(ad.add ((k - 1) * 2)).block, (ad.add ((k - 1) * 2)).off + 1, none⟩ = some (.int .i64 q) := cell_regrown (Keeps.alloc _ _ _ _ d1)
      have cB := call_q (w := (wr.alloc (.cells #[.int .i64 x, .int .i64 y] 28))) (fun w' _ => gcompare_any p q x y w')
      generalize hz : cmpE p q x y = z at cB
      have HZ := Lib.hid hz
      clear hz
      have q4' : 0 < k := by omega
      by_cases q6 : 0 ≤ z
      · repeat (go_big_quiet_step (first | with_reducible exact cH0 _ _ | with_reducible exact cH1 _ _ | with_reducible exact cB _ _))
        refine wpQuiet_nil ?_
        intro wq hgq
        go_wp2
        go_ret
        exact ⟨ret_bool (validB_no N es k (by rw [HL.out]; exact hlt) (okAt_pq HX.out HY.out HP.out HQ.out (by rw [befB_of HZ.out]; simp [q6]) (by omega) (by omega) (by omega) (by omega))).symm, HBEL0.out _ hgq⟩
      · repeat (go_big_quiet_step (first | with_reducible exact cH0 _ _ | with_reducible exact cH1 _ _ | with_reducible exact cB _ _))
        refine wpQuiet_nil ?_
        intro wq hgq
        go_wp2
        go_roundw
        case rel => exact ⟨k + 1, by omega, by go_num, okAt_step HOK.out (okAt_pq HX.out HY.out HP.out HQ.out (by rw [befB_of HZ.out, decide_eq_false (by omega)]; rfl) (by omega) (by omega) (by omega) (by omega)), HBEL.out _ hgq⟩
        case measure => simp [intOf]; omega
    · go_wp2
      go_ret
      exact ⟨ret_bool (validB_yes N es (by omega) (by omega) (fun j hj => HOK.out j (by have := HL.out; omega))).symm, ((Below.refl _ _).alloc (Nat.le_refl _) _).trans (HB.out.mono (by omega))⟩
end Go.Proofs.YtcpkdnhpelkeoaaGreat
