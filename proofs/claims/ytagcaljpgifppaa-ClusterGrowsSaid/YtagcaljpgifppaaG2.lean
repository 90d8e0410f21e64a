/-
  Comparisons of lists: setsquareref33.Edges, Same.
-/
import Derived.Test.YtagcaljpgifppaaG1
namespace Go.Proofs.Ytagcaljpgifppaa
set_option linter.unusedVariables false
set_option linter.unusedSimpArgs false
open Go.RowKit Go.Sort

theorem eq_of_getD {α : Type} (d : α) : ∀ (a b : List α), a.length = b.length → (∀ j, j < a.length → a.getD j d = b.getD j d) → a = b
  | [], [], _, _ => rfl
  | x :: a, y :: b, hl, h => by
    have h0 : x = y := by simpa using h 0 (by simp)
    have := eq_of_getD d a b (by simpa using hl) (fun j hj => by simpa using h (j + 1) (by simpa using hj))
    rw [h0, this]
  | [], _ :: _, hl, _ => by simp at hl
  | _ :: _, [], hl, _ => by simp at hl

set_option maxHeartbeats 2000000 in
theorem edges_any (A B : Option Addr) (n c m d : Nat) (es fs : List (Int × Int)) (w : World) (hn : n ≤ 4611686018427387904) (hm : m ≤ 4611686018427387904) (he : Rd w 2 A n (prs es)) (hf : Rd w 2 B m (prs fs)) :
    Calls Try.prog 75 #[.slice A n c, .slice B m d] w fun e w' => e = .returned (.bool (decide (es = fs))) ∧ Below w.heap.size w w' := by
  have HE := Lib.hid he.prs_len
  have HF := Lib.hid hf.prs_len
  have H1 := Lib.hid he
  have H2 := Lib.hid hf
  clear he hf
  have EQ := eqPair
  by_cases hnm : n = m
  · subst hnm
    go_enter Try.func75, Try.ntmps75
    go_wp2
    go_loopw [5] (fun i wr => Below w.heap.size w wr ∧ ∃ k : Nat, k ≤ n ∧ i = .int .i64 k ∧ ∀ j, j < k → es.getD j (0, 0) = fs.getD j (0, 0)) (fun i _ => n - (intOf i).toNat)
    case atStart => exact ⟨Below.refl _ _, 0, Nat.zero_le _, rfl, by omega⟩
    case round =>
      obtain ⟨hb, k, hk, rfl, hok⟩ := hrel
      have HOK := Lib.hid hok
      have HB := Lib.hid hb
      have K := Lib.hid (Keeps.of_below hb (Nat.le_refl _))
      clear hok hb
      by_cases hlt : k < n
      · obtain ⟨ad, rfl, c0, c1⟩ := (H1.out.keep K.out).prs_at hlt
        obtain ⟨ad', rfl, d0, d1⟩ := (H2.out.keep K.out).prs_at hlt
        generalize hxy : es.getD k (0, 0) = xy at c0 c1
        obtain ⟨x, y⟩ := xy
        generalize huv : fs.getD k (0, 0) = uv at d0 d1
        obtain ⟨u, v⟩ := uv
        simp only at c0 c1 d0 d1
        have k0 := grown_cell c0
        have k1 := grown_cell c1
        have l0 := grown_cell d0
        have l1 := grown_cell d1
        have HXY := Lib.hid hxy
        have HUV := Lib.hid huv
        clear hxy huv
        cases h1 : (x == u) <;> cases h2 : (y == v)
        all_goals
          go_wp2
          refine wp_region_q (by kernel_rfl) (by kernel_rfl) ?_
          repeat (go_big_quiet_step (fail))
          refine wpQuiet_nil ?_
          intro wq hgq
          go_wp2
        all_goals first
          | (go_ret
             refine ⟨ret_bool ?_, HB.out.trans (hgq.mono HB.out.size)⟩
             symm
             rw [decide_eq_false_iff_not]
             intro h
             rw [h] at HXY
             have := HXY.out.symm.trans HUV.out
             injection this with h3 h4
             simp [h3, h4] at h1 h2)
          | (go_roundw
             case rel => exact ⟨HB.out.trans (hgq.mono HB.out.size), k + 1, by omega, by go_num, fun j hj => by
               by_cases e : j = k
               · subst e; rw [HXY.out, HUV.out]; rw [beq_iff_eq] at h1 h2; rw [h1, h2]
               · exact HOK.out j (by omega)⟩
             case measure => simp [intOf]; omega)
      · go_wp2
        go_ret
        exact ⟨ret_bool (by symm; rw [decide_eq_true_iff]; exact eq_of_getD (0, 0) _ _ (by rw [HE.out, HF.out]) (fun j hj => HOK.out j (by have := HE.out; omega))), HB.out⟩
  · have hb : ((n : Int) == (m : Int)) = false := by simp; omega
    have HNM := Lib.hid hnm
    clear hnm
    go_enter Try.func75, Try.ntmps75
    go_wp2
    go_ret
    exact ⟨ret_bool (by symm; rw [decide_eq_false_iff_not]; intro h; exact HNM.out (by rw [← HE.out, ← HF.out, h])), Below.refl _ _⟩
theorem edges_b {b : Bool} (A B : Option Addr) (n c m d : Nat) (es fs : List (Int × Int)) (w : World) (hn : n ≤ 4611686018427387904) (hm : m ≤ 4611686018427387904) (he : Rd w 2 A n (prs es)) (hf : Rd w 2 B m (prs fs)) (hb : decide (es = fs) = b) :
    Calls Try.prog 75 #[.slice A n c, .slice B m d] w fun e w' => e = .returned (.bool b) ∧ Below w.heap.size w w' := by
  subst hb; exact edges_any A B n c m d es fs w hn hm he hf
set_option maxHeartbeats 2000000 in
theorem rsame_any (N M : Int) (A B : Option Addr) (n c m d : Nat) (es fs : List (Int × Int)) (w : World) (hn : n ≤ 4611686018427387904) (hm : m ≤ 4611686018427387904) (he : Rd w 2 A n (prs es)) (hf : Rd w 2 B m (prs fs)) :
    Calls Try.prog 28 #[.agg #[.int .i64 N, .slice A n c], .agg #[.int .i64 M, .slice B m d]] w fun e w' => e = .returned (.bool (decide (N = M) && decide (es = fs))) ∧ Below w.heap.size w w' := by
  have H1 : Hid (Rd ((w.alloc (.cells #[.int .i64 N, .slice A n c] 24)).alloc (.cells #[.int .i64 M, .slice B m d] 24)) 2 A n (prs es)) := he.keep ((Keeps.alloc w _).trans (Keeps.alloc _ _))
  have H2 : Hid (Rd ((w.alloc (.cells #[.int .i64 N, .slice A n c] 24)).alloc (.cells #[.int .i64 M, .slice B m d] 24)) 2 B m (prs fs)) := hf.keep ((Keeps.alloc w _).trans (Keeps.alloc _ _))
  clear he hf
  by_cases h : N = M
  · subst h
    generalize hz : decide (es = fs) = z
    have HZ := Lib.hid hz
    clear hz
    go_enter Try.func28, Try.ntmps28
    go_wp2_with (go_at_call 75; refine (edges_b (b := z) A B n c m d es fs _ hn hm H1.out H2.out HZ.out).mono ?_; rintro e w1 ⟨rfl, hb1⟩)
    go_ret
    exact ⟨ret_bool (by simp), (((Below.refl _ _).alloc (Nat.le_refl _) _).alloc (by simp) _).trans (hb1.mono (by simp; omega))⟩
  · have hb : (N == M) = false := by simpa using h
    rw [decide_eq_false h, Bool.false_and]
    clear h
    go_enter Try.func28, Try.ntmps28
    go_wp2
    go_ret
    exact ⟨rfl, ((Below.refl _ _).alloc (Nat.le_refl _) _).alloc (by simp) _⟩
theorem rsame_b {b : Bool} (N M : Int) (A B : Option Addr) (n c m d : Nat) (es fs : List (Int × Int)) (w : World) (hn : n ≤ 4611686018427387904) (hm : m ≤ 4611686018427387904) (he : Rd w 2 A n (prs es)) (hf : Rd w 2 B m (prs fs)) (hb : (decide (N = M) && decide (es = fs)) = b) :
    Calls Try.prog 28 #[.agg #[.int .i64 N, .slice A n c], .agg #[.int .i64 M, .slice B m d]] w fun e w' => e = .returned (.bool b) ∧ Below w.heap.size w w' := by
  subst hb; exact rsame_any N M A B n c m d es fs w hn hm he hf
end Go.Proofs.Ytagcaljpgifppaa
