/-
  setsquareref36.Pairs.
-/
import Derived.Test.YtcpkdnhpelkeoaaGreatG4
namespace Go.Proofs.YtcpkdnhpelkeoaaGreat
set_option linter.unusedVariables false
set_option linter.unusedSimpArgs false
open Go.RowKit Go.Sort

set_option maxHeartbeats 2000000 in
theorem pairs36_any (A B : Option Addr) (n c m d : Nat) (es fs : List (Int × Int)) (w : World) (hn : n ≤ 4611686018427387904) (hm : m ≤ 4611686018427387904) (he : Rd w 2 A n (prs es)) (hf : Rd w 2 B m (prs fs)) :
    Calls Tryz.prog 11 #[.slice A n c, .slice B m d] w fun e w' => e = .returned (.bool (decide (es = fs))) ∧ Below w.heap.size w w' := by
  have HE := Lib.hid he.prs_len
  have HF := Lib.hid hf.prs_len
  have H1 := Lib.hid he
  have H2 := Lib.hid hf
  clear he hf
  have EQ := eqPair
  by_cases hnm : n = m
  · subst hnm
    go_enter Tryz.func11, Tryz.ntmps11
    go_wp2
    go_loopw [5] (fun i wr => Below w.heap.size w wr ∧ ∃ k : Nat, k ≤ n ∧ i = .int .i64 k ∧ ∀ j, j < k → es.getD j (0, 0) = fs.getD j (0, 0)) (fun i _ => n - (intOf i).toNat)
    case atStart => exact ⟨Below.refl _ _, 0, Nat.zero_le _, rfl, by omega⟩
    case round =>
      obtain ⟨hb, k, hk, rfl, hok⟩ := hrel
      have HOK := Lib.hid hok
      have HB := Lib.hid hb
      have K := Lib.hid (Keeps.of_below hb (Nat.le_refl _))
      clear hok hb
      by_cases hlt : k < n
      · obtain ⟨ad, rfl, c0, c1⟩ := (H1.out.keep K.out).prs_at hlt
        obtain ⟨ad', rfl, d0, d1⟩ := (H2.out.keep K.out).prs_at hlt
        generalize hxy : es.getD k (0, 0) = xy at c0 c1
        obtain ⟨x, y⟩ := xy
        generalize huv : fs.getD k (0, 0) = uv at d0 d1
        obtain ⟨u, v⟩ := uv
        simp only at c0 c1 d0 d1
        have k0 := grown_cell c0
        have k1 := grown_cell c1
        have l0 := grown_cell d0
        have l1 := grown_cell d1
        have HXY := Lib.hid hxy
        have HUV := Lib.hid huv
        clear hxy huv
        cases h1 : (x == u) <;> cases h2 : (y == v)
        all_goals
          go_wp2
          refine wp_region_q (by kernel_rfl) (by kernel_rfl) ?_
          repeat (go_big_quiet_step (fail))
          refine wpQuiet_nil ?_
          intro wq hgq
          go_wp2
        all_goals first
          | (go_ret
             refine ⟨ret_bool ?_, HB.out.trans (hgq.mono HB.out.size)⟩
             symm
             rw [decide_eq_false_iff_not]
             intro h
             rw [h] at HXY
             have := HXY.out.symm.trans HUV.out
             injection this with h3 h4
             simp [h3, h4] at h1 h2)
          | (go_roundw
             case rel => exact ⟨HB.out.trans (hgq.mono HB.out.size), k + 1, by omega, by go_num, fun j hj => by
               by_cases e : j = k
               · subst e; rw [HXY.out, HUV.out]; rw [beq_iff_eq] at h1 h2; rw [h1, h2]
               · exact HOK.out j (by omega)⟩
             case measure => simp [intOf]; omega)
      · go_wp2
        go_ret
        exact ⟨ret_bool (by symm; rw [decide_eq_true_iff]; exact eq_of_getD (0, 0) _ _ (by rw [HE.out, HF.out]) (fun j hj => HOK.out j (by have := HE.out; omega))), HB.out⟩
  · have hb : ((n : Int) == (m : Int)) = false := by simp; omega
    have HNM := Lib.hid hnm
    clear hnm
    go_enter Tryz.func11, Tryz.ntmps11
    go_wp2
    go_ret
    exact ⟨ret_bool (by symm; rw [decide_eq_false_iff_not]; intro h; exact HNM.out (by rw [← HE.out, ← HF.out, h])), Below.refl _ _⟩
theorem pairs36_b {b : Bool} (A B : Option Addr) (n c m d : Nat) (es fs : List (Int × Int)) (w : World) (hn : n ≤ 4611686018427387904) (hm : m ≤ 4611686018427387904) (he : Rd w 2 A n (prs es)) (hf : Rd w 2 B m (prs fs)) (hb : decide (es = fs) = b) :
    Calls Tryz.prog 11 #[.slice A n c, .slice B m d] w fun e w' => e = .returned (.bool b) ∧ Below w.heap.size w w' := by
  subst hb; exact pairs36_any A B n c m d es fs w hn hm he hf
end Go.Proofs.YtcpkdnhpelkeoaaGreat
