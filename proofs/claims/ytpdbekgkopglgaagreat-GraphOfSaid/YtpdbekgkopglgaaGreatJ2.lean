/-
  Contracts and lemmas for the statement, joined: G1, SpecK, G2, Lit, App, OwnL.
-/
import Derived.Test.YtpdbekgkopglgaaGreatJ1
import Derived.Laws.StructEq
import Derived.Deep.DeepCutAuto
import Derived.Maps.AppendAt
import Derived.OwnWalk
import Derived.RegionTactic
import Derived.Test.YtpdbekgkopglgaaGreatRows
namespace Go.Proofs.YtpdbekgkopglgaaGreat
set_option linter.unusedVariables false
set_option linter.unusedSimpArgs false
open Go.RowKit Go.Sort

def pairsB (es : List (Int × Int)) (a b : Int) : Bool := es.any fun e => (e.1 == a && e.2 == b) || (e.1 == b && e.2 == a)
theorem pairsB_hit (es : List (Int × Int)) (a b : Int) (k : Nat) (hk : k < es.length) (x y : Int) (hxy : es.getD k (0, 0) = (x, y)) (h : (x == a && y == b || x == b && y == a) = true) : pairsB es a b = true := by
  unfold pairsB
  rw [List.any_eq_true]
  refine ⟨es.getD k (0, 0), ?_, by rw [hxy]; exact h⟩
  rw [List.getD_eq_getElem?_getD, List.getElem?_eq_getElem hk]; exact List.getElem_mem hk
theorem pairsB_miss (es : List (Int × Int)) (a b : Int) (h : ∀ j, j < es.length → ((es.getD j (0, 0)).1 == a && (es.getD j (0, 0)).2 == b || (es.getD j (0, 0)).1 == b && (es.getD j (0, 0)).2 == a) = false) : pairsB es a b = false := by
  unfold pairsB
  rw [List.any_eq_false]
  intro e he
  obtain ⟨j, hj, rfl⟩ := List.getElem_of_mem he
  have := h j hj
  rw [List.getD_eq_getElem?_getD, List.getElem?_eq_getElem hj] at this
  simpa using this

theorem eqPair (a b c d : Int) (w : World) : (Op.equalIn 10000 41 (.agg #[.int .i64 a, .int .i64 b]) (.agg #[.int .i64 c, .int .i64 d])).run Tryz.prog w = .ok (a == c && b == d) w := by
  have u3 := Tryz.underlying3
  have a3 := Tryz.isAgg3
  have z3 := Tryz.sizeOf3
  rw [show (10000 : Nat) = 9999 + 1 from rfl, Op.equalIn]
  simp only [Sem.run_bind, run_underlying Tryz.underlying41, Result.andThen_ok]
  simp only [Std.Legacy.Range.forIn_eq_forIn_range', Std.Legacy.Range.size, Nat.sub_zero, Nat.add_sub_cancel, Nat.div_one, List.range'_succ, List.range'_zero, List.forIn_cons, List.forIn_nil]
  go_simp
  by_cases h1 : a = c <;> by_cases h2 : b = d <;> simp [h1, h2]

set_option maxHeartbeats 2000000 in
theorem pairs_any (A : Option Addr) (n c : Nat) (es : List (Int × Int)) (a b : Int) (w : World) (hn : n ≤ 4611686018427387904) (he : Rd w 2 A n (prs es)) :
    Calls Tryz.prog 45 #[.slice A n c, .int .i64 a, .int .i64 b] w fun e w' => e = .returned (.bool (pairsB es a b)) ∧ w = w' := by
  have HE := Lib.hid he.prs_len
  have H1 := Lib.hid he
  clear he
  have EQ := eqPair
  go_enter Tryz.func45, Tryz.ntmps45
  go_wp2
  go_loop [7] (fun i => ∃ k : Nat, k ≤ n ∧ i = .int .i64 k ∧ ∀ j, j < k → ((es.getD j (0, 0)).1 == a && (es.getD j (0, 0)).2 == b || (es.getD j (0, 0)).1 == b && (es.getD j (0, 0)).2 == a) = false) (fun i => n - (intOf i).toNat)
  case atStart => exact ⟨0, Nat.zero_le _, rfl, by omega⟩
  case round =>
    obtain ⟨k, hk, rfl, hok⟩ := hrel
    have HOK := Lib.hid hok
    clear hok
    by_cases hlt : k < n
    · obtain ⟨ad, rfl, c0, c1⟩ := H1.out.prs_at hlt
      generalize hxy : es.getD k (0, 0) = xy at c0 c1
      obtain ⟨x, y⟩ := xy
      simp only at c0 c1
      have HXY := Lib.hid hxy
      clear hxy
      cases h1 : (x == a) <;> cases h2 : (y == b) <;> cases h3 : (x == b) <;> cases h4 : (y == a)
      all_goals go_wp2
      all_goals first
        | (go_ret; exact ⟨ret_bool (pairsB_hit es a b k (by rw [HE.out]; exact hlt) x y HXY.out (by rw [h1, h2, h3, h4]; rfl)).symm, rfl⟩)
        | (go_round
           case rel => exact ⟨k + 1, by omega, by go_num, fun j hj => by
             by_cases e : j = k
             · subst e; rw [HXY.out]; show (x == a && y == b || x == b && y == a) = false; rw [h1, h2, h3, h4]; rfl
             · exact HOK.out j (by omega)⟩
           case measure => simp [intOf]; omega)
    · go_wp2
      go_ret
      exact ⟨ret_bool (pairsB_miss es a b (fun j hj => HOK.out j (by have := HE.out; omega))).symm, rfl⟩
end Go.Proofs.YtpdbekgkopglgaaGreat
namespace Go.Proofs.YtpdbekgkopglgaaGreat
set_option linter.unusedVariables false
set_option linter.unusedSimpArgs false

def lt2 (x y : Int × Int) : Prop := x.1 < y.1 ∨ x.1 = y.1 ∧ x.2 < y.2
theorem lt2_irrefl (x : Int × Int) : ¬ lt2 x x := by unfold lt2; omega
theorem lt2_asymm {x y : Int × Int} (h : lt2 x y) : ¬ lt2 y x := by unfold lt2 at *; omega
theorem strict_eq : ∀ {a b : List (Int × Int)}, a.Pairwise lt2 → b.Pairwise lt2 → (∀ x, x ∈ a ↔ x ∈ b) → a = b
  | [], [], _, _, _ => rfl
  | [], y :: b, _, _, h => by have := (h y).2 (by simp); simp at this
  | x :: a, [], _, _, h => by have := (h x).1 (by simp); simp at this
  | x :: a, y :: b, ha, hb, h => by
    rw [List.pairwise_cons] at ha hb
    have hxy : x = y := by
      rcases List.mem_cons.1 ((h x).1 (by simp)) with e | e
      · exact e
      · rcases List.mem_cons.1 ((h y).2 (by simp)) with e' | e'
        · exact e'.symm
        · exact absurd (ha.1 _ e') (lt2_asymm (hb.1 _ e))
    subst hxy
    have := strict_eq ha.2 hb.2 (fun z => by
      have hz := h z
      simp only [List.mem_cons] at hz
      constructor
      · intro hm
        rcases hz.1 (.inr hm) with e | e
        · subst e; exact absurd (ha.1 _ hm) (lt2_irrefl _)
        · exact e
      · intro hm
        rcases hz.2 (.inr hm) with e | e
        · subst e; exact absurd (hb.1 _ hm) (lt2_irrefl _)
        · exact e)
    rw [this]

/-- The edges from a to the points below b (from a + 1 on), in order. -/
def rowK (es : List (Int × Int)) (a b : Nat) : List (Int × Int) := ((List.range b).filter fun (j : Nat) => decide (a < j) && pairsB es (a : Int) (j : Int)).map fun (j : Nat) => ((a : Int), (j : Int))
/-- The edges from the points below k, in order. -/
def uptoK (es : List (Int × Int)) (n : Nat) : Nat → List (Int × Int)
  | 0 => []
  | k + 1 => uptoK es n k ++ rowK es k n
def mkL (n : Nat) (es : List (Int × Int)) : List (Int × Int) := uptoK es n n
theorem rowK_succ (es : List (Int × Int)) (a b : Nat) : rowK es a (b + 1) = rowK es a b ++ if (decide (a < b) && pairsB es a b) = true then [((a : Int), (b : Int))] else [] := by
  unfold rowK
  rw [List.range_succ, List.filter_append, List.map_append]
  congr 1
  simp only [List.filter_cons, List.filter_nil]
  by_cases h : (decide (a < b) && pairsB es a b) = true
  · rw [if_pos h, if_pos h]; rfl
  · rw [if_neg h, if_neg h]; rfl
theorem rowK_start (es : List (Int × Int)) (a b : Nat) (h : b ≤ a + 1) : rowK es a b = [] := by
  unfold rowK
  rw [List.map_eq_nil_iff, List.filter_eq_nil_iff]
  intro j hj
  rw [List.mem_range] at hj
  rw [decide_eq_false (by omega : ¬ a < j)]; simp
theorem mem_rowK {es : List (Int × Int)} {a b : Nat} {x : Int × Int} : x ∈ rowK es a b ↔ x.1 = a ∧ (a : Int) < x.2 ∧ x.2 < b ∧ pairsB es x.1 x.2 = true := by
  unfold rowK
  simp only [List.mem_map, List.mem_filter, List.mem_range, Bool.and_eq_true, decide_eq_true_eq]
  constructor
  · rintro ⟨j, ⟨h1, h2, h3⟩, rfl⟩
    exact ⟨rfl, by simpa using h2, by simpa using h1, h3⟩
  · rintro ⟨h1, h2, h3, h4⟩
    refine ⟨x.2.toNat, ⟨by omega, by omega, ?_⟩, ?_⟩
    · rw [Int.toNat_of_nonneg (by omega), ← h1]; exact h4
    · rw [Int.toNat_of_nonneg (by omega), ← h1]
theorem rowK_strict (es : List (Int × Int)) (a b : Nat) : (rowK es a b).Pairwise lt2 := by
  unfold rowK
  rw [List.pairwise_map]
  refine List.Pairwise.filter _ ?_
  exact (List.pairwise_lt_range (n := b)).imp fun h => .inr ⟨rfl, by simpa using h⟩
theorem mem_uptoK {es : List (Int × Int)} {n : Nat} {x : Int × Int} : ∀ k, x ∈ uptoK es n k ↔ 0 ≤ x.1 ∧ x.1 < k ∧ x.1 < x.2 ∧ x.2 < n ∧ pairsB es x.1 x.2 = true
  | 0 => by unfold uptoK; simp; omega
  | k + 1 => by
    unfold uptoK
    rw [List.mem_append, mem_uptoK k, mem_rowK]
    constructor
    · rintro (⟨h1, h2, h3, h4, h5⟩ | ⟨h1, h2, h3, h4⟩)
      · exact ⟨h1, by omega, h3, h4, h5⟩
      · exact ⟨by omega, by omega, by omega, h3, h4⟩
    · rintro ⟨h1, h2, h3, h4, h5⟩
      by_cases h : x.1 = k
      · exact .inr ⟨h, by omega, h4, h5⟩
      · exact .inl ⟨h1, by omega, h3, h4, h5⟩
theorem uptoK_strict (es : List (Int × Int)) (n : Nat) : ∀ k, (uptoK es n k).Pairwise lt2
  | 0 => by unfold uptoK; exact List.Pairwise.nil
  | k + 1 => by
    unfold uptoK
    rw [List.pairwise_append]
    refine ⟨uptoK_strict es n k, rowK_strict es k n, fun x hx y hy => ?_⟩
    rw [mem_uptoK] at hx
    rw [mem_rowK] at hy
    left; omega
theorem mkL_strict (n : Nat) (es : List (Int × Int)) : (mkL n es).Pairwise lt2 := uptoK_strict es n n
theorem mem_mkL {n : Nat} {es : List (Int × Int)} {x : Int × Int} : x ∈ mkL n es ↔ 0 ≤ x.1 ∧ x.1 < x.2 ∧ x.2 < n ∧ pairsB es x.1 x.2 = true := by
  unfold mkL; rw [mem_uptoK]
  constructor
  · rintro ⟨h1, h2, h3, h4, h5⟩; exact ⟨h1, h3, h4, h5⟩
  · rintro ⟨h1, h2, h3, h4⟩; exact ⟨h1, by omega, h2, h3, h4⟩
theorem pairsB_iff {es : List (Int × Int)} {a b : Int} : pairsB es a b = true ↔ (a, b) ∈ es ∨ (b, a) ∈ es := by
  unfold pairsB
  rw [List.any_eq_true]
  constructor
  · rintro ⟨⟨x, y⟩, h1, h2⟩
    simp at h2
    rcases h2 with ⟨rfl, rfl⟩ | ⟨rfl, rfl⟩
    · exact .inl h1
    · exact .inr h1
  · rintro (h | h)
    · exact ⟨_, h, by simp⟩
    · exact ⟨_, h, by simp⟩
end Go.Proofs.YtpdbekgkopglgaaGreat
namespace Go.Proofs.YtpdbekgkopglgaaGreat
set_option linter.unusedVariables false
set_option linter.unusedSimpArgs false
open Go.RowKit Go.Sort

theorem eq_of_getD {α : Type} (d : α) : ∀ (a b : List α), a.length = b.length → (∀ j, j < a.length → a.getD j d = b.getD j d) → a = b
  | [], [], _, _ => rfl
  | x :: a, y :: b, hl, h => by
    have h0 : x = y := by simpa using h 0 (by simp)
    have := eq_of_getD d a b (by simpa using hl) (fun j hj => by simpa using h (j + 1) (by simpa using hj))
    rw [h0, this]
  | [], _ :: _, hl, _ => by simp at hl
  | _ :: _, [], hl, _ => by simp at hl

set_option maxHeartbeats 2000000 in
theorem edges_any (A B : Option Addr) (n c m d : Nat) (es fs : List (Int × Int)) (w : World) (hn : n ≤ 4611686018427387904) (hm : m ≤ 4611686018427387904) (he : Rd w 2 A n (prs es)) (hf : Rd w 2 B m (prs fs)) :
    Calls Tryz.prog 44 #[.slice A n c, .slice B m d] w fun e w' => e = .returned (.bool (decide (es = fs))) ∧ Below w.heap.size w w' := by
  have HE := Lib.hid he.prs_len
  have HF := Lib.hid hf.prs_len
  have H1 := Lib.hid he
  have H2 := Lib.hid hf
  clear he hf
  have EQ := eqPair
  by_cases hnm : n = m
  · subst hnm
    go_enter Tryz.func44, Tryz.ntmps44
    go_wp2
    go_loopw [5] (fun i wr => Below w.heap.size w wr ∧ ∃ k : Nat, k ≤ n ∧ i = .int .i64 k ∧ ∀ j, j < k → es.getD j (0, 0) = fs.getD j (0, 0)) (fun i _ => n - (intOf i).toNat)
    case atStart => exact ⟨Below.refl _ _, 0, Nat.zero_le _, rfl, by omega⟩
    case round =>
      obtain ⟨hb, k, hk, rfl, hok⟩ := hrel
      have HOK := Lib.hid hok
      have HB := Lib.hid hb
      have K := Lib.hid (Keeps.of_below hb (Nat.le_refl _))
      clear hok hb
      by_cases hlt : k < n
      · obtain ⟨ad, rfl, c0, c1⟩ := (H1.out.keep K.out).prs_at hlt
        obtain ⟨ad', rfl, d0, d1⟩ := (H2.out.keep K.out).prs_at hlt
        generalize hxy : es.getD k (0, 0) = xy at c0 c1
        obtain ⟨x, y⟩ := xy
        generalize huv : fs.getD k (0, 0) = uv at d0 d1
        obtain ⟨u, v⟩ := uv
        simp only at c0 c1 d0 d1
        have k0 := grown_cell c0
        have k1 := grown_cell c1
        have l0 := grown_cell d0
        have l1 := grown_cell d1
        have HXY := Lib.hid hxy
        have HUV := Lib.hid huv
        clear hxy huv
        cases h1 : (x == u) <;> cases h2 : (y == v)
        all_goals
          go_wp2
          refine wp_region_q (by kernel_rfl) (by kernel_rfl) ?_
          repeat (go_big_quiet_step (fail))
          refine wpQuiet_nil ?_
          intro wq hgq
          go_wp2
        all_goals first
          | (go_ret
             refine ⟨ret_bool ?_, HB.out.trans (hgq.mono HB.out.size)⟩
             symm
             rw [decide_eq_false_iff_not]
             intro h
             rw [h] at HXY
             have := HXY.out.symm.trans HUV.out
             injection this with h3 h4
             simp [h3, h4] at h1 h2)
          | (go_roundw
             case rel => exact ⟨HB.out.trans (hgq.mono HB.out.size), k + 1, by omega, by go_num, fun j hj => by
               by_cases e : j = k
               · subst e; rw [HXY.out, HUV.out]; rw [beq_iff_eq] at h1 h2; rw [h1, h2]
               · exact HOK.out j (by omega)⟩
             case measure => simp [intOf]; omega)
      · go_wp2
        go_ret
        exact ⟨ret_bool (by symm; rw [decide_eq_true_iff]; exact eq_of_getD (0, 0) _ _ (by rw [HE.out, HF.out]) (fun j hj => HOK.out j (by have := HE.out; omega))), HB.out⟩
  · have hb : ((n : Int) == (m : Int)) = false := by simp; omega
    have HNM := Lib.hid hnm
    clear hnm
    go_enter Tryz.func44, Tryz.ntmps44
    go_wp2
    go_ret
    exact ⟨ret_bool (by symm; rw [decide_eq_false_iff_not]; intro h; exact HNM.out (by rw [← HE.out, ← HF.out, h])), Below.refl _ _⟩
theorem edges_b {b : Bool} (A B : Option Addr) (n c m d : Nat) (es fs : List (Int × Int)) (w : World) (hn : n ≤ 4611686018427387904) (hm : m ≤ 4611686018427387904) (he : Rd w 2 A n (prs es)) (hf : Rd w 2 B m (prs fs)) (hb : decide (es = fs) = b) :
    Calls Tryz.prog 44 #[.slice A n c, .slice B m d] w fun e w' => e = .returned (.bool b) ∧ Below w.heap.size w w' := by
  subst hb; exact edges_any A B n c m d es fs w hn hm he hf
set_option maxHeartbeats 2000000 in
theorem rsame_any (N M : Int) (A B : Option Addr) (n c m d : Nat) (es fs : List (Int × Int)) (w : World) (hn : n ≤ 4611686018427387904) (hm : m ≤ 4611686018427387904) (he : Rd w 2 A n (prs es)) (hf : Rd w 2 B m (prs fs)) :
    Calls Tryz.prog 22 #[.agg #[.int .i64 N, .slice A n c], .agg #[.int .i64 M, .slice B m d]] w fun e w' => e = .returned (.bool (decide (N = M) && decide (es = fs))) ∧ Below w.heap.size w w' := by
  have H1 : Hid (Rd ((w.alloc (.cells #[.int .i64 N, .slice A n c] 37)).alloc (.cells #[.int .i64 M, .slice B m d] 37)) 2 A n (prs es)) := he.keep ((Keeps.alloc w _).trans (Keeps.alloc _ _))
  have H2 : Hid (Rd ((w.alloc (.cells #[.int .i64 N, .slice A n c] 37)).alloc (.cells #[.int .i64 M, .slice B m d] 37)) 2 B m (prs fs)) := hf.keep ((Keeps.alloc w _).trans (Keeps.alloc _ _))
  clear he hf
  by_cases h : N = M
  · subst h
    generalize hz : decide (es = fs) = z
    have HZ := Lib.hid hz
    clear hz
    go_enter Tryz.func22, Tryz.ntmps22
    go_wp2_with (go_at_call 44; refine (edges_b (b := z) A B n c m d es fs _ hn hm H1.out H2.out HZ.out).mono ?_; rintro e w1 ⟨rfl, hb1⟩)
    go_ret
    exact ⟨ret_bool (by simp), (((Below.refl _ _).alloc (Nat.le_refl _) _).alloc (by simp) _).trans (hb1.mono (by simp; omega))⟩
  · have hb : (N == M) = false := by simpa using h
    rw [decide_eq_false h, Bool.false_and]
    clear h
    go_enter Tryz.func22, Tryz.ntmps22
    go_wp2
    go_ret
    exact ⟨rfl, ((Below.refl _ _).alloc (Nat.le_refl _) _).alloc (by simp) _⟩
theorem rsame_b {b : Bool} (N M : Int) (A B : Option Addr) (n c m d : Nat) (es fs : List (Int × Int)) (w : World) (hn : n ≤ 4611686018427387904) (hm : m ≤ 4611686018427387904) (he : Rd w 2 A n (prs es)) (hf : Rd w 2 B m (prs fs)) (hb : (decide (N = M) && decide (es = fs)) = b) :
    Calls Tryz.prog 22 #[.agg #[.int .i64 N, .slice A n c], .agg #[.int .i64 M, .slice B m d]] w fun e w' => e = .returned (.bool b) ∧ Below w.heap.size w w' := by
  subst hb; exact rsame_any N M A B n c m d es fs w hn hm he hf
set_option maxHeartbeats 2000000 in
theorem same_any (N M : Int) (A B : Option Addr) (n c m d : Nat) (es fs : List (Int × Int)) (w : World) (hn : n ≤ 4611686018427387904) (hm : m ≤ 4611686018427387904) (he : Rd w 2 A n (prs es)) (hf : Rd w 2 B m (prs fs)) :
    Calls Tryz.prog 7 #[.agg #[.int .i64 N, .slice A n c], .agg #[.int .i64 M, .slice B m d]] w fun e w' => e = .returned (.bool (decide (N = M) && decide (es = fs))) ∧ Below w.heap.size w w' := by
  have H1 : Hid (Rd ((w.alloc (.cells #[.int .i64 N, .slice A n c] 37)).alloc (.cells #[.int .i64 M, .slice B m d] 37)) 2 A n (prs es)) := he.keep ((Keeps.alloc w _).trans (Keeps.alloc _ _))
  have H2 : Hid (Rd ((w.alloc (.cells #[.int .i64 N, .slice A n c] 37)).alloc (.cells #[.int .i64 M, .slice B m d] 37)) 2 B m (prs fs)) := hf.keep ((Keeps.alloc w _).trans (Keeps.alloc _ _))
  clear he hf
  generalize hz : (decide (N = M) && decide (es = fs)) = z
  have HZ := Lib.hid hz
  clear hz
  go_enter Tryz.func7, Tryz.ntmps7
  go_wp2_with (go_at_call 22; refine (rsame_b (b := z) N M A B n c m d es fs _ hn hm H1.out H2.out HZ.out).mono ?_; rintro e w1 ⟨rfl, hb1⟩)
  go_ret
  exact ⟨rfl, (((Below.refl _ _).alloc (Nat.le_refl _) _).alloc (by simp) _).trans (hb1.mono (by simp; omega))⟩
theorem same_b {b : Bool} (N M : Int) (A B : Option Addr) (n c m d : Nat) (es fs : List (Int × Int)) (w : World) (hn : n ≤ 4611686018427387904) (hm : m ≤ 4611686018427387904) (he : Rd w 2 A n (prs es)) (hf : Rd w 2 B m (prs fs)) (hb : (decide (N = M) && decide (es = fs)) = b) :
    Calls Tryz.prog 7 #[.agg #[.int .i64 N, .slice A n c], .agg #[.int .i64 M, .slice B m d]] w fun e w' => e = .returned (.bool b) ∧ Below w.heap.size w w' := by
  subst hb; exact same_any N M A B n c m d es fs w hn hm he hf
end Go.Proofs.YtpdbekgkopglgaaGreat
namespace Go.Proofs.YtpdbekgkopglgaaGreat
set_option linter.unusedVariables false
set_option linter.unusedSimpArgs false
open Go.RowKit

theorem cell_new (w : World) (cs : Array Value) (t : TypeId) (j : Nat) : (w.alloc (.cells cs t)).cell? ⟨w.heap.size, j, none⟩ = cs[j]? := by simp
theorem cell_at {w : World} {b : Nat} (hb : w.heap.size = b) (cs : Array Value) (t : TypeId) (j : Nat) {v : Value} (h : cs[j]? = some v) : (w.alloc (.cells cs t)).cell? ⟨b, j, none⟩ = some v := by
  subst hb; rw [cell_new]; exact h
theorem add0 (b j : Nat) : (⟨b, 0, none⟩ : Addr).add j = ⟨b, j, none⟩ := by unfold Addr.add; split <;> simp_all
theorem rd_new (w : World) (size n : Nat) (xs : List Value) (t : TypeId) (h : xs.length = n * size) : Rd (w.alloc (.cells xs.toArray t)) size (some ⟨w.heap.size, 0, none⟩) n xs :=
  ⟨h, fun _ => ⟨_, rfl, fun j u hu => by rw [add0, cell_new]; simpa using hu⟩⟩
theorem rd_lit (w : World) (l : List Int) (t : TypeId) : Rd (w.alloc (.cells (ints l).toArray t)) 1 (some ⟨w.heap.size, 0, none⟩) l.length (ints l) := rd_new w 1 _ _ t (by rw [ints_length]; omega)
theorem rd_lit2 (w : World) (l : List (Int × Int)) (t : TypeId) : Rd (w.alloc (.cells (prs l).toArray t)) 2 (some ⟨w.heap.size, 0, none⟩) l.length (prs l) := rd_new w 2 _ _ t (prs_length l)
def heads (hs : List (Option Addr × Nat)) (ls : List (List Int)) : List Value := List.zipWith (fun (h : Option Addr × Nat) (l : List Int) => Value.slice h.1 l.length h.2) hs ls
theorem rdL_lit (w : World) (hs : List (Option Addr × Nat)) (ls : List (List Int)) (t : TypeId) (hl : hs.length = ls.length) (h : ∀ (i : Nat) (hd : Option Addr × Nat) (l : List Int), hs[i]? = some hd → ls[i]? = some l → Rd w 1 hd.1 l.length (ints l)) :
    RdL (w.alloc (.cells (heads hs ls).toArray t)) (some ⟨w.heap.size, 0, none⟩) ls.length ls :=
  ⟨rfl, hs, hl, rd_new w 1 _ _ t (by simp [heads, List.length_zipWith, hl]), fun i hd l a b => (h i hd l a b).keep (Keeps.alloc w _)⟩
theorem rd_lit_at {w : World} {b : Nat} (hb : w.heap.size = b) (l : List Int) (t : TypeId) : Rd (w.alloc (.cells (ints l).toArray t)) 1 (some ⟨b, 0, none⟩) l.length (ints l) := by subst hb; exact rd_lit w l t
theorem rd_lit2_at {w : World} {b : Nat} (hb : w.heap.size = b) (l : List (Int × Int)) (t : TypeId) : Rd (w.alloc (.cells (prs l).toArray t)) 2 (some ⟨b, 0, none⟩) l.length (prs l) := by subst hb; exact rd_lit2 w l t
theorem rdL_lit_at {w : World} {b : Nat} (hb : w.heap.size = b) (hs : List (Option Addr × Nat)) (ls : List (List Int)) (t : TypeId) (hl : hs.length = ls.length) (h : ∀ (i : Nat) (hd : Option Addr × Nat) (l : List Int), hs[i]? = some hd → ls[i]? = some l → Rd w 1 hd.1 l.length (ints l)) :
    RdL (w.alloc (.cells (heads hs ls).toArray t)) (some ⟨b, 0, none⟩) ls.length ls := by subst hb; exact rdL_lit w hs ls t hl h
end Go.Proofs.YtpdbekgkopglgaaGreat
namespace Go.Proofs.YtpdbekgkopglgaaGreat
set_option linter.unusedVariables false
set_option linter.unusedSimpArgs false
open Go.RowKit

/-- The block of a slice's address. -/
def blk (A : Option Addr) : Option Nat := A.map (·.block)
theorem ownBlock_slice (A : Option Addr) (n c : Nat) : (Value.slice A n c).ownBlock = blk A := by cases A <;> rfl

/-- The slice value is the call's own (its block from 'base' on) and reads xs. -/
def Own (w : World) (base : Nat) (e : TypeId) (size : Nat) (A : Option Addr) (n c : Nat) (xs : List Value) : Prop := w.ownsRow base e size (.slice A n c) n xs

section
variable {w w' : World} {base size n c : Nat} {e : TypeId} {A : Option Addr} {xs : List Value}
theorem Own.nil (w : World) (base : Nat) (e : TypeId) (size : Nat) : Own w base e size none 0 0 [] := World.ownsRow_nil w base e size
theorem Own.rd (h : Own w base e size A n c xs) : Rd w size A n xs := by
  refine ⟨h.1, fun hn => ?_⟩
  rcases h.2 with ⟨h1, h2⟩ | ⟨g, cap, cur, hv, _⟩
  · omega
  · injection hv with hA
    subst hA
    exact ⟨_, rfl, World.ownsRow.cells h (g := g) rfl⟩
theorem Own.len (h : Own w base e size A n c xs) : xs.length = n * size := h.1
theorem Own.keptBy {row : Option Nat} (h : Own w base e size A n c xs) (hg : w.grownBy w' row) (hne : blk A = none ∨ blk A ≠ row) : Own w' base e size A n c xs :=
  World.ownsRow.kept h hg (by rw [ownBlock_slice]; exact hne)
theorem Own.alloc (h : Own w base e size A n c xs) (o : Obj) : Own (w.alloc o) base e size A n c xs := World.ownsRow.alloc h o
theorem Own.lt (h : Own w base e size A n c xs) {k : Nat} (hk : blk A = some k) : base ≤ k ∧ k < w.heap.size := World.ownsRow.lt h k (by rw [ownBlock_slice]; exact hk)
theorem Own.below {B : Nat} (h : Own w base e size A n c xs) (hb : Below B w w') (hB : ∀ k, blk A = some k → k < B) : Own w' base e size A n c xs := by
  refine ⟨h.1, ?_⟩
  rcases h.2 with h2 | ⟨g, cap, cur, hv, hg, hh, rest⟩
  · exact .inl h2
  · have hA : A = some ⟨g, 0, none⟩ := by injection hv
    exact .inr ⟨g, cap, cur, hv, hg, by rw [hb.block g (hB g (by rw [hA]; rfl))]; exact hh, rest⟩
theorem Own.later (h : Own w base e size A n c xs) (hb : Below w.heap.size w w') : Own w' base e size A n c xs := h.below hb fun k hk => (h.lt hk).2
theorem Own.base_le {base' : Nat} (h : Own w base e size A n c xs) (hb : base' ≤ base) : Own w base' e size A n c xs := by
  refine ⟨h.1, ?_⟩
  rcases h.2 with h2 | ⟨g, cap, cur, hv, hg, rest⟩
  · exact .inl h2
  · exact .inr ⟨g, cap, cur, hv, by omega, rest⟩
theorem Own.of_value {v : Value} (h : w.ownsRow base e size v n xs) : ∃ A c, v = .slice A n c ∧ Own w base e size A n c xs := by
  rcases h.2 with ⟨rfl, rfl⟩ | ⟨g, cap, cur, rfl, _⟩
  · exact ⟨none, 0, rfl, h⟩
  · exact ⟨_, cap, rfl, h⟩
end

section
variable {P : Program} (w : World)

theorem run_app_nil (base : Nat) (t ty e : TypeId) (i : TypeInfo) (size : Nat) (ht : P.underlying t = some (.slice e)) (hi : P.info? e = some i)
    (A : Option Addr) (n c : Nat) (xs : List Value) (hown : Own w base e size A n c xs) (d : Nat) : (Builtin.append_ #[t, t] ty #[.slice A n c, .slice none 0 d]).run P w = .ok (.slice A n c) w := by
  rcases hown.2 with ⟨h1, rfl⟩ | ⟨g, cap, cur, h1, _, _, hnc, _⟩
  · injection h1 with h1 _ h3
    subst h1 h3
    simp [Builtin.append_, run_underlying ht, sizeOf, typeInfo, hi, Builtin.lenOf, Builtin.firstCells]
  · injection h1 with h1 _ h3
    subst h1 h3
    simp [Builtin.append_, run_underlying ht, sizeOf, typeInfo, hi, Builtin.lenOf, Builtin.firstCells, hnc, storeCells]

theorem run_app (base : Nat) (t ty e : TypeId) (z : Value) (size bytes : Nat) (ht : P.underlying t = some (.slice e)) (hinfo : (P.info? e).map (fun i => (i.zero, i.size, i.bytes)) = some (some z, size, bytes))
    (hzs : z.cells.size = size) (hsz : 0 < size) (A : Option Addr) (n c : Nat) (xs : List Value) (hown : Own w base e size A n c xs)
    (B : Option Addr) (m d : Nat) (news : List Value) (hr : Rd w size B m news) (h1 : ∀ u ∈ news, u.oneCell' = true)
    (hbytes : (n + m) * bytes ≤ 140737488355328) (h63 : n + m ≤ maxLen) (hbase : base ≤ w.heap.size) :
    ∃ A' c' w', (Builtin.append_ #[t, t] ty #[.slice A n c, .slice B m d]).run P w = .ok (.slice A' (n + m) c') w' ∧ Own w' base e size A' (n + m) c' (xs ++ news) ∧ w.grownBy w' (blk A) ∧ (blk A' = blk A ∨ blk A' = some w.heap.size) := by
  obtain ⟨i, hi, hzz⟩ := Option.map_eq_some_iff.1 hinfo
  simp only [Prod.mk.injEq] at hzz
  obtain ⟨hz, hs, hb⟩ := hzz
  cases B with
  | none =>
    have hm : m = 0 := by
      rcases Nat.eq_zero_or_pos m with h | h
      · exact h
      · obtain ⟨ad, h', _⟩ := hr.2 h; cases h'
    subst hm
    have hn : news = [] := List.eq_nil_of_length_eq_zero (by simpa using hr.1)
    subst hn
    exact ⟨A, c, w, run_app_nil w base t ty e i size ht hi A n c xs hown d, by simpa using hown, World.grownBy.refl w _, .inl rfl⟩
  | some ad =>
    have hcells : ∀ j u, news[j]? = some u → w.cell? (ad.add j) = some u := by
      intro j u hu
      rcases Nat.eq_zero_or_pos m with h | h
      · subst h
        have hn : news = [] := List.eq_nil_of_length_eq_zero (by simpa using hr.1)
        subst hn
        simp at hu
      · obtain ⟨ad', h', hc⟩ := hr.2 h
        injection h' with h'
        subst h'
        exact hc j u hu
    obtain ⟨v', w', hrun, h2, h3, _, h5⟩ := run_append_own_at (P := P) w base t ty e i z size bytes ht hi hz hs hb hzs hsz (.slice A n c) n xs hown ad m d news hr.1 hcells h1 h63 hbytes hbase
    obtain ⟨A', c', rfl, ho⟩ := Own.of_value h2
    rw [ownBlock_slice] at h3 h5
    rw [ownBlock_slice] at h5
    exact ⟨A', c', w', hrun, ho, h3, h5⟩

theorem wp_app {o : Oper} {a : Act} {K : Act → World → Prop} {Q : Exit → Act → World → Prop} (s x : Operand) (t : TypeId)
    (ho : o.op = .call { callee := .builtin .append, args := #[s, x], argTypes := #[t, t] })
    (base : Nat) (e : TypeId) (z : Value) (size bytes : Nat) (ht : P.underlying t = some (.slice e)) (hinfo : (P.info? e).map (fun i => (i.zero, i.size, i.bytes)) = some (some z, size, bytes))
    (hzs : z.cells.size = size) (hsz : 0 < size) (A : Option Addr) (n c : Nat) (xs : List Value) (hs : a.eval s = .slice A n c) (hown : Own w base e size A n c xs)
    (B : Option Addr) (m d : Nat) (news : List Value) (hx : a.eval x = .slice B m d) (hr : Rd w size B m news) (h1 : ∀ u ∈ news, u.oneCell' = true)
    (hbytes : (n + m) * bytes ≤ 140737488355328) (h63 : n + m ≤ maxLen) (hbase : base ≤ w.heap.size)
    (h : ∀ A' c' w', Own w' base e size A' (n + m) c' (xs ++ news) → w.grownBy w' (blk A) → (blk A' = blk A ∨ blk A' = some w.heap.size) → K (a.put o.dst (.slice A' (n + m) c')) w') : o.wp P a w K Q := by
  obtain ⟨A', c', w', hrun, h2, h3, h4⟩ := run_app (P := P) w base t o.type e z size bytes ht hinfo hzs hsz A n c xs hown B m d news hr h1 hbytes h63 hbase
  unfold Oper.wp execOp
  simp only [ho, resolve, invoke, builtin, Sem.run_bind, Sem.run_pure, Result.andThen_ok, List.map_toArray, List.map_cons, List.map_nil, hs, hx, hrun]
  exact h A' c' w' h2 h3 h4

theorem wpList_app {ops : Array Oper} {rest : List Oper} {o : Oper} {a : Act} {Q : Exit → Act → World → Prop} (hgd : o.guard = none) (s x : Operand) (t : TypeId)
    (ho : o.op = .call { callee := .builtin .append, args := #[s, x], argTypes := #[t, t] })
    (base : Nat) (e : TypeId) (z : Value) (size bytes : Nat) (ht : P.underlying t = some (.slice e)) (hinfo : (P.info? e).map (fun i => (i.zero, i.size, i.bytes)) = some (some z, size, bytes))
    (hzs : z.cells.size = size) (hsz : 0 < size) (A : Option Addr) (n c : Nat) (xs : List Value) (hs : a.eval s = .slice A n c) (hown : Own w base e size A n c xs)
    (B : Option Addr) (m d : Nat) (news : List Value) (hx : a.eval x = .slice B m d) (hr : Rd w size B m news) (h1 : ∀ u ∈ news, u.oneCell' = true)
    (hbytes : (n + m) * bytes ≤ 140737488355328) (h63 : n + m ≤ maxLen) (hbase : base ≤ w.heap.size)
    (h : ∀ A' c' w', Own w' base e size A' (n + m) c' (xs ++ news) → w.grownBy w' (blk A) → (blk A' = blk A ∨ blk A' = some w.heap.size) → wpList P ops Q rest (a.put o.dst (.slice A' (n + m) c')) w') : wpList P ops Q (o :: rest) a w :=
  wpList_plain hgd fun _ hK => wp_app w s x t ho base e z size bytes ht hinfo hzs hsz A n c xs hs hown B m d news hx hr h1 hbytes h63 hbase fun A' c' w' h2 h3 h4 => hK _ _ (h A' c' w' h2 h3 h4)
end

theorem ints_one (l : List Int) : ∀ u ∈ ints l, u.oneCell' = true := by
  intro u hu
  obtain ⟨x, -, rfl⟩ := List.mem_map.1 hu
  rfl
theorem prs_one (l : List (Int × Int)) : ∀ u ∈ prs l, u.oneCell' = true := by
  intro u hu
  obtain ⟨x, -, hx⟩ := List.mem_flatMap.1 hu
  simp at hx
  rcases hx with rfl | rfl <;> rfl
theorem ints_app (a b : List Int) : ints (a ++ b) = ints a ++ ints b := by simp [ints]
theorem prs_app (a b : List (Int × Int)) : prs (a ++ b) = prs a ++ prs b := by simp [prs]
theorem Below.app {B : Nat} {a w w' : World} {A : Option Addr} (h : Below B a w) (hg : w.grownBy w' (blk A)) (hB : B ≤ w.heap.size) (hr : ∀ k, blk A = some k → B ≤ k) : Below B a w' := h.grown hg hB hr
theorem own_empty (w : World) (e : TypeId) (size : Nat) : Own (w.alloc (.cells #[] e)) w.heap.size e size (some ⟨w.heap.size, 0, none⟩) 0 0 [] :=
  World.ownsRow_made w #[] 0 (Nat.le_refl _) (by simp [maxLen]) (by simp)
theorem own_empty_at {w : World} {b : Nat} (hb : w.heap.size = b) (e : TypeId) (size : Nat) : Own (w.alloc (.cells #[] e)) b e size (some ⟨b, 0, none⟩) 0 0 [] := by subst hb; exact own_empty w e size
theorem Own.some_ {w : World} {base size n c : Nat} {e : TypeId} {A : Option Addr} {xs : List Value} (h : Own w base e size A n c xs) (hn : 0 < n) : ∃ g, A = some ⟨g, 0, none⟩ ∧ base ≤ g ∧ g < w.heap.size := by
  rcases h.2 with ⟨_, h2⟩ | ⟨g, cap, cur, hv, hg, hh, _⟩
  · omega
  · have hA : A = some ⟨g, 0, none⟩ := by injection hv
    exact ⟨g, hA, (h.lt (by rw [hA]; rfl)).1, (h.lt (by rw [hA]; rfl)).2⟩
theorem Own.cell {w : World} {base g n c : Nat} {e : TypeId} {l : List Int} (h : Own w base e 1 (some ⟨g, 0, none⟩) n c (ints l)) {j : Nat} (hj : j < n) : w.cell? ⟨g, j, none⟩ = some (.int .i64 (l.getD j 0)) := by
  have hl := h.len
  rw [ints_length] at hl
  rw [World.ownsRow.cellAt h j (by omega), ints_at l j (by omega)]
theorem Own.frozen {w : World} {base g n c : Nat} {e : TypeId} {xs : List Value} {size : Nat} (h : Own w base e size (some ⟨g, 0, none⟩) n c xs) (j : Nat) : w.frozen? ⟨g, j, none⟩ = false := World.ownsRow.frozenAt h j
theorem Own.store {w : World} {base g n c : Nat} {e : TypeId} {l : List Int} (h : Own w base e 1 (some ⟨g, 0, none⟩) n c (ints l)) (j : Nat) (x : Int) : Own (w.setCell ⟨g, j, none⟩ (.int .i64 x)) base e 1 (some ⟨g, 0, none⟩) n c (ints (l.set j x)) := by
  have := (World.ownsRow.stored h j (.int .i64 x)).1
  have e1 : ints (l.set j x) = (ints l).set j (.int .i64 x) := by unfold ints; rw [List.map_set]
  unfold Own
  rw [e1]; exact this
theorem Own.cap {w : World} {base size n c : Nat} {e : TypeId} {A : Option Addr} {xs : List Value} (h : Own w base e size A n c xs) : n ≤ c := by
  rcases h.2 with ⟨hv, h2⟩ | ⟨g, cap, cur, hv, _, _, hc, _⟩
  · omega
  · injection hv with _ _ h3
    omega

/-- Two slices of the call's own do not share a block. -/
def Apart (A B : Option Addr) : Prop := blk A = none ∨ blk A ≠ blk B
theorem Apart.symm {A B : Option Addr} (h : Apart A B) : Apart B A := by
  rcases h with h | h
  · cases hb : blk B with
    | none => exact .inl hb
    | some k => exact .inr (by rw [hb, h]; simp)
  · exact .inr (fun e => h e.symm)
theorem Apart.step {A B A' : Option Addr} {S : Nat} (h : Apart A B) (h2 : blk A' = blk A ∨ blk A' = some S) (hB : ∀ k, blk B = some k → k < S) : Apart A' B := by
  rcases h2 with e | e
  · unfold Apart at *; rw [e]; exact h
  · refine .inr (fun h' => ?_)
    rw [e] at h'
    have := hB S h'.symm
    omega
theorem Own.apart {w w' : World} {base size n c : Nat} {e : TypeId} {A B : Option Addr} {xs : List Value} (h : Own w base e size A n c xs) (hg : w.grownBy w' (blk B)) (ha : Apart A B) : Own w' base e size A n c xs := h.keptBy hg ha
end Go.Proofs.YtpdbekgkopglgaaGreat
namespace Go.Proofs.YtpdbekgkopglgaaGreat
set_option linter.unusedVariables false
set_option linter.unusedSimpArgs false
open Go.RowKit

theorem info_ints : (Tryz.prog.info? 46).map (fun i => (i.zero, i.size, i.bytes)) = some (some (.slice none 0 0), 1, 24) := by kernel_rfl
theorem info_pair : (Tryz.prog.info? 41).map (fun i => (i.zero, i.size, i.bytes)) = some (some (.agg #[.int .i64 0, .int .i64 0]), 2, 16) := by kernel_rfl
theorem info_int' : (Tryz.prog.info? 3).map (fun i => (i.zero, i.size, i.bytes)) = some (some (.int .i64 0), 1, 8) := by kernel_rfl

theorem step_app {P : Program} (w : World) {ops : Array Oper} {o : Oper} {a : Act} {K : Act → World → Prop} {Q : Exit → Act → World → Prop} {E : Prop} (hgd : o.guard = none) (s x : Operand) (t : TypeId)
    (ho : o.op = .call { callee := .builtin .append, args := #[s, x], argTypes := #[t, t] })
    (base : Nat) (e : TypeId) (z : Value) (size bytes : Nat) (ht : P.underlying t = some (.slice e)) (hinfo : (P.info? e).map (fun i => (i.zero, i.size, i.bytes)) = some (some z, size, bytes))
    (hzs : z.cells.size = size) (hsz : 0 < size) (A : Option Addr) (n c : Nat) (xs : List Value) (hs : a.eval s = .slice A n c) (hown : Own w base e size A n c xs)
    (B : Option Addr) (m d : Nat) (news : List Value) (hx : a.eval x = .slice B m d) (hr : Rd w size B m news) (h1 : ∀ u ∈ news, u.oneCell' = true)
    (hbytes : (n + m) * bytes ≤ 140737488355328) (h63 : n + m ≤ maxLen) (hbase : base ≤ w.heap.size)
    (h : ∀ A' c' w', Own w' base e size A' (n + m) c' (xs ++ news) → w.grownBy w' (blk A) → (blk A' = blk A ∨ blk A' = some w.heap.size) → K (a.put o.dst (.slice A' (n + m) c')) w') :
    if Region.wanted o (yielded ops a.tmps) = true then Oper.wp P o a w K Q else E := by
  have hw : Region.wanted o (yielded ops a.tmps) = true := by simp [Region.wanted, hgd]
  rw [if_pos hw]
  exact wp_app w s x t ho base e z size bytes ht hinfo hzs hsz A n c xs hs hown B m d news hx hr h1 hbytes h63 hbase h

theorem Own.apart_type {w : World} {b b' size size' n n' c c' : Nat} {e e' : TypeId} {A B : Option Addr} {xs ys : List Value} (h : Own w b e size A n c xs) (h' : Own w b' e' size' B n' c' ys) (hne : e ≠ e') : Apart A B := by
  rcases h.2 with ⟨hv, _⟩ | ⟨g, cap, cur, hv, _, hh, _⟩
  · have hA : A = none := by injection hv
    exact .inl (by rw [hA]; rfl)
  · have hA : A = some ⟨g, 0, none⟩ := by injection hv
    rcases h'.2 with ⟨hv', _⟩ | ⟨g', cap', cur', hv', _, hh', _⟩
    · have hB : B = none := by injection hv'
      exact .inr (by rw [hA, hB]; simp [blk])
    · have hB : B = some ⟨g', 0, none⟩ := by injection hv'
      refine .inr (fun h3 => ?_)
      rw [hA, hB] at h3
      simp [blk] at h3
      subst h3
      rw [hh] at hh'
      injection hh' with hh'
      injection hh' with _ h4
      exact hne h4

/-- The outer slice and all inner ones are the call's own. -/
def OwnL (w : World) (base : Nat) (A : Option Addr) (n c : Nat) (ls : List (List Int)) : Prop :=
  ls.length = n ∧ ∃ hs : List (Option Addr × Nat), hs.length = n ∧ Own w base 46 1 A n c (heads hs ls) ∧
    ∀ (i : Nat) (h : Option Addr × Nat) (l : List Int), hs[i]? = some h → ls[i]? = some l → Own w base 3 1 h.1 l.length h.2 (ints l)
theorem OwnL.nil (w : World) (base : Nat) : OwnL w base none 0 0 [] := ⟨rfl, [], rfl, Own.nil _ _ _ _, fun i h l h1 => by simp at h1⟩
theorem OwnL.rd {w : World} {base n c : Nat} {A : Option Addr} {ls : List (List Int)} (h : OwnL w base A n c ls) : RdL w A n ls := by
  obtain ⟨h1, hs, h2, h3, h4⟩ := h
  exact ⟨h1, hs, h2, h3.rd, fun i hd l a b => (h4 i hd l a b).rd⟩
theorem OwnL.outer {w : World} {base n c : Nat} {A : Option Addr} {ls : List (List Int)} (h : OwnL w base A n c ls) : ∃ xs, Own w base 46 1 A n c xs := by
  obtain ⟨h1, hs, h2, h3, h4⟩ := h; exact ⟨_, h3⟩
theorem OwnL.later {w w' : World} {base n c : Nat} {A : Option Addr} {ls : List (List Int)} (h : OwnL w base A n c ls) (hb : Below w.heap.size w w') : OwnL w' base A n c ls := by
  obtain ⟨h1, hs, h2, h3, h4⟩ := h
  exact ⟨h1, hs, h2, h3.later hb, fun i hd l a b => (h4 i hd l a b).later hb⟩
theorem OwnL.base_le {w : World} {base base' n c : Nat} {A : Option Addr} {ls : List (List Int)} (h : OwnL w base A n c ls) (hb : base' ≤ base) : OwnL w base' A n c ls := by
  obtain ⟨h1, hs, h2, h3, h4⟩ := h
  exact ⟨h1, hs, h2, h3.base_le hb, fun i hd l a b => (h4 i hd l a b).base_le hb⟩
theorem OwnL.cap {w : World} {base n c : Nat} {A : Option Addr} {ls : List (List Int)} (h : OwnL w base A n c ls) : n ≤ c := by
  obtain ⟨xs, h⟩ := h.outer; exact h.cap

theorem heads_snoc (hs : List (Option Addr × Nat)) (ls : List (List Int)) (h : Option Addr × Nat) (l : List Int) (hl : hs.length = ls.length) : heads (hs ++ [h]) (ls ++ [l]) = heads hs ls ++ [.slice h.1 l.length h.2] := by
  unfold heads
  rw [List.zipWith_append hl]; rfl
/-- Behind 'append(out, l)': w is the world before, w' behind; the list l is the call's own in w. -/
theorem OwnL.push {w w' : World} {base n c c' : Nat} {A A' : Option Addr} {ls : List (List Int)} {hs : List (Option Addr × Nat)} {B : Option Addr} {d : Nat} {l : List Int}
    (h1 : ls.length = n) (h2 : hs.length = n) (h4 : ∀ (i : Nat) (h : Option Addr × Nat) (l : List Int), hs[i]? = some h → ls[i]? = some l → Own w base 3 1 h.1 l.length h.2 (ints l))
    (hl : Own w base 3 1 B l.length d (ints l)) (ho0 : ∃ xs, Own w base 46 1 A n c xs)
    (ho : Own w' base 46 1 A' (n + 1) c' (heads hs ls ++ [.slice B l.length d])) (hg : w.grownBy w' (blk A)) : OwnL w' base A' (n + 1) c' (ls ++ [l]) := by
  obtain ⟨xs, ho0⟩ := ho0
  refine ⟨by simp [h1], hs ++ [(B, d)], by simp [h2], by rw [heads_snoc _ _ _ _ (by rw [h1, h2])]; exact ho, fun i hd l' a b => ?_⟩
  have key : ∀ {hd : Option Addr × Nat} {l' : List Int}, Own w base 3 1 hd.1 l'.length hd.2 (ints l') → Own w' base 3 1 hd.1 l'.length hd.2 (ints l') :=
    fun h => h.apart hg (h.apart_type ho0 (by decide))
  rw [List.getElem?_append] at a b
  by_cases hi : i < hs.length
  · rw [if_pos hi] at a
    rw [if_pos (by omega)] at b
    exact key (h4 i hd l' a b)
  · rw [if_neg hi] at a
    rw [if_neg (by omega)] at b
    have h0 : i - hs.length = 0 := by
      rcases Nat.eq_zero_or_pos (i - hs.length) with h | h
      · exact h
      · rw [List.getElem?_eq_none (by simp; omega)] at a; cases a
    rw [h0] at a
    rw [show i - ls.length = 0 by omega] at b
    simp at a b
    subst a b
    exact key (hd := (B, d)) hl
theorem own_lit_at {w : World} {b : Nat} (hb : w.heap.size = b) (e : TypeId) (size n : Nat) (xs : List Value) (hn : n ≤ maxLen) (h : xs.length = n * size) : Own (w.alloc (.cells xs.toArray e)) b e size (some ⟨b, 0, none⟩) n n xs := by
  subst hb
  have := World.ownsRow_lit (base := w.heap.size) (e := e) (size := size) w xs.toArray n (Nat.le_refl _) hn (by simpa using h)
  simpa [Own] using this
theorem head_one {B : Option Addr} {n d : Nat} : ∀ u ∈ [Value.slice B n d], u.oneCell' = true := by simp [Value.oneCell']
end Go.Proofs.YtpdbekgkopglgaaGreat
