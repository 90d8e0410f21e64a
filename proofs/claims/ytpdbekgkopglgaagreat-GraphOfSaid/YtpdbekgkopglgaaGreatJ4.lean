/-
  Contracts and lemmas for the statement, joined: SpecD, G5, StepC, Nb, SpecL, OwnP.
-/
import Derived.Test.YtpdbekgkopglgaaGreatJ3
import Derived.Shelf.Abstract
import Derived.Deep.RegionLaw
import Derived.Deep.DrawnRows
import Derived.Test.YtpdbekgkopglgaaGreatJ1
import Derived.Laws.BitsAllLaws
import Derived.Test.YtpdbekgkopglgaaGreatJ2
namespace Go.Proofs.YtpdbekgkopglgaaGreat
set_option linter.unusedVariables false
set_option linter.unusedSimpArgs false

def ptsB (N : Int) (ps : List Int) : Bool := decide (2 ≤ ps.length) && (decide (0 ≤ ps.getD 0 0) && (decide (ps.getD (ps.length - 1) 0 < N) && (List.range (ps.length - 1)).all fun j => decide (ps.getD j 0 < ps.getD (j + 1) 0)))
def inB (ps : List Int) (e : Int × Int) : Bool := decide (e.1 ∈ ps) && decide (e.2 ∈ ps)
def spanI (es : List (Int × Int)) (ps : List Int) : Int := (es.countP (inB ps) : Nat)

theorem ptsB_short {N : Int} {ps : List Int} (h : ps.length < 2) : ptsB N ps = false := by
  unfold ptsB; rw [decide_eq_false (by omega)]; rfl
theorem ptsB_low {N : Int} {ps : List Int} (h : ps.getD 0 0 < 0) : ptsB N ps = false := by
  unfold ptsB; rw [decide_eq_false (by omega : ¬ 0 ≤ ps.getD 0 0)]; simp
theorem ptsB_high {N : Int} {ps : List Int} (h : N ≤ ps.getD (ps.length - 1) 0) : ptsB N ps = false := by
  unfold ptsB; rw [decide_eq_false (by omega : ¬ ps.getD (ps.length - 1) 0 < N)]; simp
theorem ptsB_no {N : Int} {ps : List Int} {j : Nat} (hj : j + 1 < ps.length) (h : ps.getD (j + 1) 0 ≤ ps.getD j 0) : ptsB N ps = false := by
  unfold ptsB
  have : ((List.range (ps.length - 1)).all fun j => decide (ps.getD j 0 < ps.getD (j + 1) 0)) = false := by
    rw [List.all_eq_false]; exact ⟨j, by simp; omega, by simp only [decide_eq_true_eq]; omega⟩
  rw [this, Bool.and_false, Bool.and_false, Bool.and_false]
theorem ptsB_yes {N : Int} {ps : List Int} (h0 : 2 ≤ ps.length) (h1 : 0 ≤ ps.getD 0 0) (h2 : ps.getD (ps.length - 1) 0 < N) (h : ∀ j, j + 1 < ps.length → ps.getD j 0 < ps.getD (j + 1) 0) : ptsB N ps = true := by
  unfold ptsB
  rw [decide_eq_true h0, decide_eq_true h1, decide_eq_true h2, Bool.true_and, Bool.true_and, Bool.true_and, List.all_eq_true]
  intro j hj
  rw [List.mem_range] at hj
  exact decide_eq_true (h j (by omega))
theorem spanI_step {es : List (Int × Int)} {ps : List Int} {k : Nat} {x y : Int} (hk : k < es.length) (hx : (es.getD k (0, 0)).1 = x) (hy : (es.getD k (0, 0)).2 = y) :
    spanI (es.take (k + 1)) ps = spanI (es.take k) ps + if x ∈ ps ∧ y ∈ ps then 1 else 0 := by
  unfold spanI
  rw [List.take_succ_eq_append_getElem hk, List.countP_append]
  have e : es.getD k (0, 0) = es[k] := by simp [List.getD_eq_getElem?_getD, List.getElem?_eq_getElem hk]
  rw [e] at hx hy
  have hb : inB ps es[k] = decide (x ∈ ps ∧ y ∈ ps) := by unfold inB; rw [hx, hy]; simp
  simp only [List.countP_cons, List.countP_nil, hb, decide_eq_true_eq]
  split <;> simp
theorem spanI_nonneg (es : List (Int × Int)) (ps : List Int) : 0 ≤ spanI es ps := by unfold spanI; omega
theorem spanI_le (es : List (Int × Int)) (ps : List Int) : spanI es ps ≤ es.length := by
  unfold spanI; have := List.countP_le_length (p := inB ps) (l := es); omega
theorem ptsB_iff {N : Int} {ps : List Int} : ptsB N ps = true ↔ 2 ≤ ps.length ∧ 0 ≤ ps.getD 0 0 ∧ ps.getD (ps.length - 1) 0 < N ∧ ∀ j, j + 1 < ps.length → ps.getD j 0 < ps.getD (j + 1) 0 := by
  unfold ptsB
  simp only [Bool.and_eq_true, decide_eq_true_eq, List.all_eq_true, List.mem_range]
  constructor
  · rintro ⟨a, b, c, d⟩; exact ⟨a, b, c, fun j hj => d j (by omega)⟩
  · rintro ⟨a, b, c, d⟩; exact ⟨a, b, c, fun j hj => d j (by omega)⟩
def exOk (N : Int) (es : List (Int × Int)) (ps : List Int) : Bool := validB N es && ptsB N ps
end Go.Proofs.YtpdbekgkopglgaaGreat
namespace Go.Proofs.YtpdbekgkopglgaaGreat
set_option linter.unusedVariables false
set_option linter.unusedSimpArgs false
open Go.RowKit Go.Sort

def PrsPost (w : World) (l : List (Int × Int)) (e : Ending) (w' : World) : Prop :=
  Below w.heap.size w w' ∧ ∃ B c, e = .returned (.slice B l.length c) ∧ Own w' w.heap.size 41 2 B l.length c (prs l)
/-- The edges between points, of the first k. -/
def indK (v : Bool) (es : List (Int × Int)) (ps : List Int) (k : Nat) : List (Int × Int) := if v = true then (es.take k).filter (inB ps) else []
def indE (N : Int) (es : List (Int × Int)) (ps : List Int) : List (Int × Int) := indK (validB N es) es ps es.length
theorem indK_len (v : Bool) (es : List (Int × Int)) (ps : List Int) (k : Nat) : (indK v es ps k).length ≤ k := by
  unfold indK
  split
  · exact Nat.le_trans (List.length_filter_le _ _) (List.length_take_le _ _)
  · simp
theorem indK_step {es : List (Int × Int)} {ps : List Int} {k : Nat} (hk : k < es.length) {x y : Int} (hxy : es.getD k (0, 0) = (x, y)) : indK true es ps (k + 1) = indK true es ps k ++ if (decide (x ∈ ps) && decide (y ∈ ps)) = true then [(x, y)] else [] := by
  unfold indK
  rw [if_pos rfl, if_pos rfl, List.take_succ_eq_append_getElem hk, List.filter_append]
  rw [List.getD_eq_getElem?_getD, List.getElem?_eq_getElem hk] at hxy
  simp only [Option.getD_some] at hxy
  rw [hxy]
  congr 1
  unfold inB
  simp only [List.filter_cons, List.filter_nil]
theorem ret_slice {B : Option Addr} {n m c : Nat} (h : n = m) : Ending.returned (.slice B n c) = .returned (.slice B m c) := by rw [h]
theorem own_ap1 {w : World} {base n c : Nat} {A : Option Addr} {xs : List Value} (h : Own w base 41 2 A n c xs) (o : Obj) : Own (w.alloc o) base 41 2 A n c xs := h.alloc o

def edgeI (e : Int × Int) : Int × Int := (min e.1 e.2, max e.1 e.2)
set_option maxHeartbeats 400000 in
theorem edge_any (a b : Int) (w : World) :
    Calls Tryz.prog 25 #[.int .i64 a, .int .i64 b] w fun e w' => e = .returned (.agg #[.int .i64 (edgeI (a, b)).1, .int .i64 (edgeI (a, b)).2]) ∧ Below w.heap.size w w' := by
  have key : ∀ x y : Int, x = min a b → y = max a b → Ending.returned (.agg #[.int .i64 x, .int .i64 y]) = .returned (.agg #[.int .i64 (edgeI (a, b)).1, .int .i64 (edgeI (a, b)).2]) := fun x y h1 h2 => by rw [h1, h2]; rfl
  have KEY := Lib.hid key
  clear key
  by_cases h1 : a < b
  · have h2 : ¬ b < a := by omega
    go_enter Tryz.func25, Tryz.ntmps25
    go_wp2
    all_goals refine bodyPost_ret (v := .agg #[.int .i64 a, .int .i64 b]) (by simp [results, Tryz.results25, go_sem]) rfl ⟨KEY.out _ _ (by omega) (by omega), ?_⟩
    all_goals exact (Below.refl _ _).alloc (Nat.le_refl _) _
  by_cases h2 : b < a
  · go_enter Tryz.func25, Tryz.ntmps25
    go_wp2
    all_goals refine bodyPost_ret (v := .agg #[.int .i64 b, .int .i64 a]) (by simp [results, Tryz.results25, go_sem]) rfl ⟨KEY.out _ _ (by omega) (by omega), ?_⟩
    all_goals exact (Below.refl _ _).alloc (Nat.le_refl _) _
  · obtain rfl : a = b := by omega
    go_enter Tryz.func25, Tryz.ntmps25
    go_wp2
    all_goals refine bodyPost_ret (v := .agg #[.int .i64 a, .int .i64 a]) (by simp [results, Tryz.results25, go_sem]) rfl ⟨KEY.out _ _ (by omega) (by omega), ?_⟩
    all_goals exact (Below.refl _ _).alloc (Nat.le_refl _) _

end Go.Proofs.YtpdbekgkopglgaaGreat
namespace Go.Proofs.YtpdbekgkopglgaaGreat
set_option linter.unusedVariables false
set_option linter.unusedSimpArgs false
open Go.RowKit Go.Sort

/-- A call of a Go function as one step of a region that draws, by its contract. -/
theorem step_call {P : Program} {ops : Array Oper} {o : Oper} {a : Act} {w : World} {K : Act → World → Prop} {Q : Exit → Act → World → Prop} {E : Prop} (hgd : o.guard = none) (f : FuncId) (xs : Array Operand) (ts : Array TypeId)
    (ho : o.op = .call { callee := .value (.func f), args := xs, argTypes := ts }) (eg : ∀ args w, (callFunc f args).run P w = .ok (.enter f args) w) (args : Array Value) (hargs : xs.map a.eval = args) (v : Value) {R : World → Prop}
    (h : Calls P f args w fun e w' => e = .returned v ∧ R w') (hK : ∀ w', R w' → K (a.put o.dst v) w') :
    if Region.wanted o (yielded ops a.tmps) = true then Oper.wp P o a w K Q else E := by
  have hw : Region.wanted o (yielded ops a.tmps) = true := by simp [Region.wanted, hgd]
  rw [if_pos hw]
  subst hargs
  unfold Oper.wp
  simp [execOp, ho, resolve, Deferred.ofValue, invoke, eg, Act.eval]
  refine h.mono ?_
  rintro e w' ⟨rfl, hr⟩
  exact hK w' hr
end Go.Proofs.YtpdbekgkopglgaaGreat
namespace Go.Proofs.YtpdbekgkopglgaaGreat
set_option linter.unusedVariables false
set_option linter.unusedSimpArgs false
open Go.RowKit Go.Sort
attribute [local go_sem ↓] Go.wp_at_zero Go.wp_at_succ

set_option maxHeartbeats 2000000 in
theorem trim_any (A : Option Addr) (n c : Nat) (l : List Nat) (w : World) (hn : n ≤ 1000000) (hc : n ≤ c) (he : Rd w 1 A n (us l)) :
    Calls Tryz.prog 52 #[.slice A n c] w fun e w' => e = .returned (.slice A (tlen l) c) ∧ w = w' := by
  have HL := Lib.hid he.us_len
  have H1 := Lib.hid he
  clear he
  go_enter Tryz.func52, Tryz.ntmps52
  go_wp2_with fail
  go_loopg [0] n (fun g o wr => ∃ k : Nat, k ≤ n ∧ k = g ∧ o = .slice A k c ∧ (∀ j, k ≤ j → l.getD j 0 = 0) ∧ w = wr)
  case atStart => exact ⟨n, Nat.le_refl _, rfl, rfl, (fun j hj => by rw [List.getD_eq_getElem?_getD, List.getElem?_eq_none (by rw [HL.out]; exact hj)]; rfl), rfl⟩
  case round =>
    obtain ⟨k, hk, rfl, rfl, hz, rfl⟩ := hrel
    have HZ := Lib.hid hz
    clear hz
    by_cases hk0 : k = 0
    · subst hk0
      have T0 : Hid (tlen l = 0) := Lib.hid (tlen_of HZ.out (fun h => by omega))
      go_wp2_with fail
      go_ret
      exact ⟨by rw [T0.out]; rfl, rfl⟩
    · obtain ⟨ad, rfl, hkl, c0⟩ := H1.out.us_at (by omega : k - 1 < n)
      have hi1 : ((k : Int) - 1).toNat = k - 1 := by omega
      have hm0 : (0 : Int) ≤ (k : Int) - 1 := by omega
      have hm1 : (k : Int) - 1 < (k : Int) := by omega
      have hp : (0 : Int) < (k : Int) := by omega
      generalize hx : l.getD (k - 1) 0 = x at c0
      have HX := Lib.hid hx
      clear hx hkl
      by_cases hx0 : x = 0
      · subst hx0
        have HZ2 : Hid (∀ j, k - 1 ≤ j → l.getD j 0 = 0) := Lib.hid fun j hj => by
          rcases Nat.lt_or_ge j k with h | h
          · obtain rfl : j = k - 1 := by omega
            exact HX.out
          · exact HZ.out j h
        go_wp2_with fail
        go_roundg (k - 1)
        case measure => omega
        case rel => exact ⟨k - 1, by omega, rfl, by first | rfl | (congr 1; omega), HZ2.out, rfl⟩
      · have T0 : Hid (tlen l = k) := Lib.hid (tlen_of HZ.out (fun h => by rw [HX.out]; exact hx0))
        have hx1 : ((x : Int) = 0) = False := by simp; exact hx0
        go_wp2_with fail
        go_ret
        exact ⟨by rw [T0.out]; rfl, rfl⟩
set_option maxHeartbeats 4000000 in
theorem compare_any (A B : Option Addr) (n c m d : Nat) (a b : List Nat) (w : World) (hn : n ≤ 1000000) (hm : m ≤ 1000000) (ha : Rd w 1 A n (us a)) (hb : Rd w 1 B m (us b)) :
    Calls Tryz.prog 70 #[.slice A n c, .slice B m d] w fun e w' => e = .returned (.int .i64 (cmpN a b)) ∧ Below w.heap.size w w' := by
  have LA := Lib.hid ha.us_len
  have LB := Lib.hid hb.us_len
  have H1 := Lib.hid ha
  have H2 := Lib.hid hb
  clear ha hb
  by_cases hnm : n ≠ m
  · by_cases hlt : n < m
    · have R : Hid (cmpN a b = -1) := Lib.hid (by unfold cmpN; rw [LA.out, LB.out, if_neg hnm, if_pos hlt])
      have d1 : ((n : Int) != (m : Int)) = true := by rw [bne_iff_ne]; omega
      have d2 : (n : Int) < (m : Int) := by omega
      clear hnm hlt
      go_enter Tryz.func70, Tryz.ntmps70
      go_wp2_with fail
      go_ret
      exact ⟨by rw [R.out]; rfl, Below.refl _ _⟩
    · have R : Hid (cmpN a b = 1) := Lib.hid (by unfold cmpN; rw [LA.out, LB.out, if_neg hnm, if_neg hlt])
      have d1 : ((n : Int) != (m : Int)) = true := by rw [bne_iff_ne]; omega
      have d2 : ¬ (n : Int) < (m : Int) := by omega
      clear hnm hlt
      go_enter Tryz.func70, Tryz.ntmps70
      go_wp2_with fail
      go_ret
      exact ⟨by rw [R.out]; rfl, Below.refl _ _⟩
  obtain rfl : n = m := by omega
  clear hnm
  have EC : Hid (cmpN a b = cmpW a b) := Lib.hid (by unfold cmpN; rw [LA.out, LB.out, if_pos rfl])
  have EL : Hid (a.length = b.length) := Lib.hid (by rw [LA.out, LB.out])
  go_enter Tryz.func70, Tryz.ntmps70
  go_wp2_with fail
  go_loopg [5] n (fun g o wr => ∃ k : Nat, k ≤ n ∧ k = g ∧ o = .int .i64 ((k : Int) - 1) ∧ (∀ j, k ≤ j → a.getD j 0 = b.getD j 0) ∧ Below w.heap.size w wr)
  case atStart => exact ⟨n, Nat.le_refl _, rfl, rfl, (fun j hj => by rw [List.getD_eq_getElem?_getD, List.getElem?_eq_none (by rw [LA.out]; exact hj), List.getD_eq_getElem?_getD, List.getElem?_eq_none (by rw [LB.out]; exact hj)]), Below.refl _ _⟩
  case round =>
    obtain ⟨k, hk, rfl, rfl, hz, hb⟩ := hrel
    have HZ := Lib.hid hz
    have HB := Lib.hid hb
    have hzr := hb.size
    have kr := Keeps.of_below hb (Nat.le_refl _)
    clear hz hb
    by_cases hk0 : k = 0
    · subst hk0
      have T0 : Hid (cmpN a b = 0) := Lib.hid (by rw [EC.out]; exact cmpW_eq EL.out (fun j => HZ.out j (Nat.zero_le _)))
      go_wp2_with fail
      go_ret
      exact ⟨by rw [T0.out]; rfl, HB.out⟩
    · obtain ⟨ad, rfl, hkl, c0⟩ := (H1.out.keep kr).us_at (by omega : k - 1 < n)
      obtain ⟨ae, rfl, hkl', c1⟩ := (H2.out.keep kr).us_at (by omega : k - 1 < n)
      have hi1 : ((k : Int) - 1).toNat = k - 1 := by omega
      have hm0 : (0 : Int) ≤ (k : Int) - 1 := by omega
      have hm1 : (k : Int) - 1 < (n : Int) := by omega
      generalize hx : a.getD (k - 1) 0 = x at c0
      generalize hy : b.getD (k - 1) 0 = y at c1
      have HX := Lib.hid hx
      have HY := Lib.hid hy
      have AT : Hid (∀ r, x < y ∧ r = -1 ∨ y < x ∧ r = 1 → cmpN a b = r) := Lib.hid fun r h => by
        rw [EC.out]
        exact cmpW_at (i := k - 1) EL.out (by rw [LA.out]; omega) (fun j hj => HZ.out j (by omega)) (by rw [HX.out, HY.out]; exact h)
      clear hx hy hkl hkl' kr
      have k0 := grown_cell c0
      have k1 := grown_cell c1
      by_cases h1 : x < y
      · have T0 := Lib.hid (AT.out (-1) (.inl ⟨h1, rfl⟩))
        have d1 : (x : Int) < (y : Int) := by omega
        clear AT h1
        go_wp2_with fail
        refine wp_region_q (by kernel_rfl) (by kernel_rfl) ?_
        repeat (go_big_quiet_step (fail))
        refine wpQuiet_nil ?_
        intro wq hgq
        go_wp2_with fail
        go_ret
        exact ⟨by rw [T0.out]; rfl, HB.out.trans (hgq.mono hzr)⟩
      · have d1 : ¬ (x : Int) < (y : Int) := by omega
        by_cases h2 : y < x
        · have T0 := Lib.hid (AT.out 1 (.inr ⟨h2, rfl⟩))
          have d2 : (y : Int) < (x : Int) := by omega
          clear AT h1 h2
          go_wp2_with fail
          refine wp_region_q (by kernel_rfl) (by kernel_rfl) ?_
          repeat (go_big_quiet_step (fail))
          refine wpQuiet_nil ?_
          intro wq hgq
          have HB2 := Lib.hid (HB.out.trans (hgq.mono hzr))
          have c0' := Keeps.of_below hgq (Nat.le_refl _) _ _ c0
          have c1' := Keeps.of_below hgq (Nat.le_refl _) _ _ c1
          have hz2 := HB2.out.size
          clear hgq k0 k1 c0 c1 HB hzr
          generalize wq = w1 at *
          have k0 := grown_cell c0'
          have k1 := grown_cell c1'
          go_wp2_with fail
          refine wp_region_q (by kernel_rfl) (by kernel_rfl) ?_
          repeat (go_big_quiet_step (fail))
          refine wpQuiet_nil ?_
          intro wq hgq
          go_wp2_with fail
          go_ret
          exact ⟨by rw [T0.out]; rfl, HB2.out.trans (hgq.mono hz2)⟩
        · have d2 : ¬ (y : Int) < (x : Int) := by omega
          have NX : Hid (∀ j, k - 1 ≤ j → a.getD j 0 = b.getD j 0) := Lib.hid fun j hj => by
            rcases Nat.lt_or_ge j k with h | h
            · obtain rfl : j = k - 1 := by omega
              rw [HX.out, HY.out]; omega
            · exact HZ.out j h
          clear AT h1 h2
          go_wp2_with fail
          refine wp_region_q (by kernel_rfl) (by kernel_rfl) ?_
          repeat (go_big_quiet_step (fail))
          refine wpQuiet_nil ?_
          intro wq hgq
          have HB2 := Lib.hid (HB.out.trans (hgq.mono hzr))
          have c0' := Keeps.of_below hgq (Nat.le_refl _) _ _ c0
          have c1' := Keeps.of_below hgq (Nat.le_refl _) _ _ c1
          have hz2 := HB2.out.size
          clear hgq k0 k1 c0 c1 HB hzr
          generalize wq = w1 at *
          have k0 := grown_cell c0'
          have k1 := grown_cell c1'
          go_wp2_with fail
          refine wp_region_q (by kernel_rfl) (by kernel_rfl) ?_
          repeat (go_big_quiet_step (fail))
          refine wpQuiet_nil ?_
          intro wq hgq
          go_wp2_with fail
          go_roundg (k - 1)
          case measure => omega
          case rel => exact ⟨k - 1, by omega, rfl, by congr 1; omega, NX.out, HB2.out.trans (hgq.mono hz2)⟩
theorem or_hi {v x : Nat} (hx : x < 4294967296) (hv : v < 4294967296) : bits .or .u64 ((v : Int) * 4294967296) (x : Int) = ((x + 4294967296 * v : Nat) : Int) := by
  have h := u64_or_nat (v * 4294967296) x (by omega) (by omega)
  have e : v * 4294967296 ||| x = x + 4294967296 * v := by
    have := Nat.two_pow_add_eq_or_of_lt (b := x) (i := 32) (by omega) v
    rw [Nat.mul_comm v 4294967296, ← this]; omega
  have h2 : ((v * 4294967296 : Nat) : Int) = (v : Int) * 4294967296 := by omega
  rw [e, h2] at h
  exact h
set_option maxHeartbeats 2000000 in
/-- The value of at most two words. -/
theorem short_any (A : Option Addr) (n c : Nat) (l : List Nat) (w : World) (hn : n ≤ 2) (hu : U32 l) (he : Rd w 1 A n (us l)) :
    Calls Tryz.prog 71 #[.slice A n c] w fun e w' => e = .returned (.int .u64 (nv l : Int)) ∧ w = w' := by
  have HL := Lib.hid he.us_len
  have H1 := Lib.hid he
  have HU := Lib.hid hu
  clear he hu
  go_enter Tryz.func71, Tryz.ntmps71
  go_wp2_with fail
  go_loopg [3, 4] n (fun g s o wr => ∃ k : Nat, k ≤ n ∧ k = g ∧ o = .int .i64 ((k : Int) - 1) ∧ s = .int .u64 (nv (l.drop k) : Int) ∧ w = wr)
  case atStart => exact ⟨n, Nat.le_refl _, rfl, rfl, (by rw [List.drop_of_length_le (by rw [HL.out]; exact Nat.le_refl _)]; rfl), rfl⟩
  case round =>
    obtain ⟨k, hk, rfl, rfl, rfl, rfl⟩ := hrel
    by_cases hk0 : k = 0
    · subst hk0
      go_wp2_with fail
      go_ret
      exact ⟨by rw [List.drop_zero]; rfl, rfl⟩
    · obtain ⟨ad, rfl, hkl, c0⟩ := H1.out.us_at (by omega : k - 1 < n)
      have hi1 : ((k : Int) - 1).toNat = k - 1 := by omega
      have hm0 : (0 : Int) ≤ (k : Int) - 1 := by omega
      have hm1 : (k : Int) - 1 < (n : Int) := by omega
      have hv : nv (l.drop k) < 4294967296 := by
        have h1 := nv_lt (HU.out.drop k)
        have h2 : (l.drop k).length ≤ 1 := by rw [List.length_drop, HL.out]; omega
        have h3 : 4294967296 ^ (l.drop k).length ≤ 4294967296 ^ 1 := Nat.pow_le_pow_right (by omega) h2
        omega
      have hnx : nv (l.drop (k - 1)) = l.getD (k - 1) 0 + 4294967296 * nv (l.drop k) := by
        rw [List.drop_eq_getElem_cons hkl, nv, List.getD_eq_getElem?_getD, List.getElem?_eq_getElem hkl, show k - 1 + 1 = k by omega]; rfl
      have hx := HU.out.at (k - 1)
      generalize l.getD (k - 1) 0 = x at *
      generalize nv (l.drop k) = v at *
      have NX := Lib.hid hnx
      clear hnx hkl
      go_wp2_with fail
      go_roundg (k - 1)
      case measure => omega
      case rel => exact ⟨k - 1, by omega, rfl, by congr 1; omega, by rw [or_hi hx hv, NX.out], rfl⟩
/-- A block of cells as it was laid. -/
def CellsAt (W : World) (b : Nat) (cs : Array Value) (t : TypeId) : Prop := W.heap[b]? = some (.cells cs t (0, 0))
section
variable {W W' : World} {b B : Nat} {cs : Array Value} {t : TypeId}
theorem CellsAt.new (w : World) (cs : Array Value) (t : TypeId) : CellsAt (w.alloc (.cells cs t)) w.heap.size cs t := heap_alloc_new w _
theorem CellsAt.lt (h : CellsAt W b cs t) : b < W.heap.size := by
  rcases Nat.lt_or_ge b W.heap.size with h1 | h1
  · exact h1
  · unfold CellsAt at h; rw [Array.getElem?_eq_none h1] at h; cases h
theorem CellsAt.below (h : CellsAt W b cs t) (hb : Below B W W') (hlt : b < B) : CellsAt W' b cs t := by
  unfold CellsAt at h ⊢
  rw [hb.block b hlt]; exact h
theorem CellsAt.cell (h : CellsAt W b cs t) (j : Nat) : W.cell? ⟨b, j, none⟩ = cs[j]? := cell_of_row W b j cs t (0, 0) h
theorem CellsAt.frozen (h : CellsAt W b cs t) (j : Nat) : W.frozen? ⟨b, j, none⟩ = false := by unfold CellsAt at h; simp [World.frozen?, h]
end
/-- A magnitude: a slice of words. -/
def MagAt (w : World) (A : Option Addr) (n c : Nat) (l : List Nat) : Prop := Rd w 1 A n (us l) ∧ n ≤ c ∧ U32 l
theorem MagAt.trim {w : World} {A : Option Addr} {n c : Nat} {l : List Nat} (h : MagAt w A n c l) : MagAt w A (tlen l) c (trimN l) := by
  obtain ⟨h1, h2, h3⟩ := h
  have hl := h1.us_len
  have ht := tlen_le l
  refine ⟨⟨by rw [us_length, trimN_len]; omega, fun h0 => ?_⟩, by omega, trimN_u32 h3⟩
  obtain ⟨ad, e, hc⟩ := h1.2 (by omega)
  refine ⟨ad, e, fun j u hu => hc j u ?_⟩
  unfold trimN at hu
  rw [us_take, List.getElem?_take] at hu
  split at hu
  · exact hu
  · cases hu
theorem MagAt.keep {w w' : World} {A : Option Addr} {n c : Nat} {l : List Nat} (h : MagAt w A n c l) (k : Keeps w w') : MagAt w' A n c l := ⟨h.1.keep k, h.2.1, h.2.2⟩
theorem MagAt.len {w : World} {A : Option Addr} {n c : Nat} {l : List Nat} (h : MagAt w A n c l) : l.length = n := h.1.us_len
theorem trim_mag (A : Option Addr) (n c : Nat) (l : List Nat) (w : World) (hn : n ≤ 1000000) (h : MagAt w A n c l) :
    Calls Tryz.prog 52 #[.slice A n c] w fun e w' => e = .returned (.slice A (tlen l) c) ∧ w = w' := trim_any A n c l w hn h.2.1 h.1
theorem two_cells {W : World} {b : Nat} {x y u v : Value} (c0 : W.cell? ⟨b, 0, none⟩ = some x) (c1 : W.cell? ⟨b, 1, none⟩ = some y) :
    ((W.setCell ⟨b, 0, none⟩ u).setCell ⟨b, 1, none⟩ v).cell? ⟨b, 0, none⟩ = some u ∧ ((W.setCell ⟨b, 0, none⟩ u).setCell ⟨b, 1, none⟩ v).cell? ⟨b, 1, none⟩ = some v := by
  have d0 := World.cell?_setCell_same W ⟨b, 0, none⟩ u c0
  have d1 : (W.setCell ⟨b, 0, none⟩ u).cell? ⟨b, 1, none⟩ = some y := (World.cell?_setCell_other _ _ _ _ (by simp)).trans c1
  exact ⟨(World.cell?_setCell_other _ _ _ _ (by simp)).trans d0, World.cell?_setCell_same _ _ _ d1⟩
def WordsPost (w : World) (x : Nat) (e : Ending) (w' : World) : Prop :=
  Below w.heap.size w w' ∧ ∃ C n c ds, e = .returned (.slice C n c) ∧ MagAt w' C n c ds ∧ Trm ds ∧ nv ds = x ∧ n ≤ 2
set_option maxHeartbeats 2000000 in
theorem words_any (x : Nat) (w : World) (hx : x < 18446744073709551616) : Calls Tryz.prog 72 #[.int .u64 (x : Int)] w (WordsPost w x) := by
  have hm : MagAt (w.alloc (.cells #[.int .u32 ((x % 4294967296 : Nat) : Int), .int .u32 ((x / 4294967296 : Nat) : Int)] 108)) (some ⟨w.heap.size, 0, none⟩) 2 2 [x % 4294967296, x / 4294967296] :=
    ⟨rd_new w 1 2 _ _ rfl, Nat.le_refl _, fun y hy => by
      rcases List.mem_cons.1 hy with rfl | hy
      · omega
      · rw [List.mem_singleton.1 hy]; omega⟩
  have cT := trim_mag _ 2 2 _ _ (by omega) hm
  have HM := Lib.hid hm
  have HV : Hid (nv [x % 4294967296, x / 4294967296] = x) := Lib.hid (by simp [nv]; omega)
  clear hm
  have e1 : ((x % 4294967296 : Nat) : Int) = (x : Int) % 4294967296 := by omega
  have e2 : ((x / 4294967296 : Nat) : Int) = (x : Int) / 4294967296 := by omega
  rw [e1, e2] at cT HM
  clear e1 e2
  go_enter Tryz.func72, Tryz.ntmps72
  go_wp2_with fail
  refine Calls.mono cT ?_
  rintro _ _ ⟨rfl, rfl⟩
  go_wp2_with fail
  go_ret
  exact ⟨(Below.refl _ _).alloc (Nat.le_refl _) _, _, _, _, _, rfl, HM.out.trim, trimN_trm _, by rw [nv_trim, HV.out], tlen_le _⟩
set_option maxHeartbeats 2000000 in
/-- An integer's sign as it is stored: negative only if it is not 0. -/
theorem signed_any (neg : Bool) (A : Option Addr) (n c : Nat) (l : List Nat) (w : World) (hn : n ≤ 1000000) (h : MagAt w A n c l) :
    Calls Tryz.prog 55 #[.bool neg, .slice A n c] w fun e w' => e = .returned (.agg #[.bool (neg && decide (0 < tlen l)), .slice A (tlen l) c]) ∧ Below w.heap.size w w' := by
  have H0 := Lib.hid h
  have cT := trim_mag A n c l (w.alloc (.cells #[.bool false, .slice none 0 0] 50)) hn (h.keep (Keeps.alloc _ _))
  clear h
  generalize tlen l = k at *
  go_enter Tryz.func55, Tryz.ntmps55
  go_wp2_with fail
  refine Calls.mono cT ?_
  rintro _ _ ⟨rfl, rfl⟩
  cases neg
  · go_wp2_with fail
    exact bodyPost_ret (v := .agg #[.bool false, .slice A k c]) (by simp [results, Tryz.results55, go_sem]) rfl ⟨by simp, (Below.refl _ _).alloc (Nat.le_refl _) _⟩
  · by_cases hk : 0 < k
    · have d1 : (0 : Int) < (k : Int) := by omega
      have d2 : decide (0 < k) = true := decide_eq_true hk
      go_wp2_with fail
      exact bodyPost_ret (v := .agg #[.bool true, .slice A k c]) (by simp [results, Tryz.results55, go_sem]) rfl ⟨by rw [d2]; rfl, (Below.refl _ _).alloc (Nat.le_refl _) _⟩
    · have d1 : ¬ (0 : Int) < (k : Int) := by omega
      have d2 : decide (0 < k) = false := decide_eq_false hk
      go_wp2_with fail
      exact bodyPost_ret (v := .agg #[.bool false, .slice A k c]) (by simp [results, Tryz.results55, go_sem]) rfl ⟨by rw [d2]; rfl, (Below.refl _ _).alloc (Nat.le_refl _) _⟩
set_option maxHeartbeats 2000000 in
theorem norm_any (neg : Bool) (A : Option Addr) (n c : Nat) (l : List Nat) (w : World) (hn : n ≤ 1000000) (h : MagAt w A n c l) :
    Calls Tryz.prog 53 #[.agg #[.bool neg, .slice A n c]] w fun e w' => e = .returned (.agg #[.bool (neg && decide (0 < tlen l)), .slice A (tlen l) c]) ∧ Below w.heap.size w w' := by
  have cS := signed_any neg A n c l ((w.alloc (.cells #[.bool neg, .slice A n c] 50)).alloc (.cells #[.bool false, .slice none 0 0] 50)) hn ((h.keep (Keeps.alloc _ _)).keep (Keeps.alloc _ _))
  generalize (neg && decide (0 < tlen l)) = s at *
  generalize tlen l = k at *
  clear h
  go_enter Tryz.func53, Tryz.ntmps53
  go_wp2_with fail
  refine Calls.mono cS ?_
  rintro _ w2 ⟨rfl, hb⟩
  have h0 : CellsAt ((w.alloc (.cells #[.bool neg, .slice A n c] 50)).alloc (.cells #[.bool false, .slice none 0 0] 50)) (w.heap.size + 1) #[.bool false, .slice none 0 0] 50 := by
    have := CellsAt.new (w.alloc (.cells #[.bool neg, .slice A n c] 50)) #[.bool false, .slice none 0 0] 50
    simpa using this
  have h2 := h0.below hb (by simp)
  have HB : Hid (Below w.heap.size w w2) := Lib.hid ((((Below.refl _ _).alloc (Nat.le_refl _) _).alloc (by simp) _).trans (hb.mono (by simp; omega)))
  have c0 : w2.cell? ⟨w.heap.size + 1, 0, none⟩ = some (.bool false) := by rw [h2.cell]; rfl
  have c1 : w2.cell? ⟨w.heap.size + 1, 1, none⟩ = some (.slice none 0 0) := by rw [h2.cell]; rfl
  have f0 := h2.frozen 0
  have f1 := h2.frozen 1
  clear hb h0 h2 cS
  have z := two_cells (u := .bool s) (v := .slice A k c) c0 c1
  go_wp2_with fail
  exact bodyPost_ret (v := .agg #[.bool s, .slice A k c]) (by simp [results, Tryz.results53, go_sem, z.1, z.2]) rfl ⟨rfl, (HB.out.setCell (by simp) _).setCell (by simp) _⟩
def sgnI (neg : Bool) (k : Nat) : Int := if k = 0 then 0 else if neg then -1 else 1
set_option maxHeartbeats 2000000 in
theorem sign_any (neg : Bool) (A : Option Addr) (n c : Nat) (l : List Nat) (w : World) (hn : n ≤ 1000000) (h : MagAt w A n c l) :
    Calls Tryz.prog 36 #[.agg #[.bool neg, .slice A n c]] w fun e w' => e = .returned (.int .i64 (sgnI neg (tlen l))) ∧ Below w.heap.size w w' := by
  have cN := norm_any neg A n c l (w.alloc (.cells #[.bool neg, .slice A n c] 50)) hn (h.keep (Keeps.alloc _ _))
  generalize tlen l = k at *
  clear h
  have h0 : CellsAt (w.alloc (.cells #[.bool neg, .slice A n c] 50)) w.heap.size #[.bool neg, .slice A n c] 50 := CellsAt.new _ _ _
  have H0 := Lib.hid h0
  clear h0
  go_enter Tryz.func36, Tryz.ntmps36
  go_wp2_with fail
  refine Calls.mono cN ?_
  rintro _ w2 ⟨rfl, hb⟩
  have h2 := H0.out.below hb (by simp)
  have HB : Hid (Below w.heap.size w w2) := Lib.hid (((Below.refl _ _).alloc (Nat.le_refl _) _).trans (hb.mono (by simp)))
  have c0 : w2.cell? ⟨w.heap.size, 0, none⟩ = some (.bool neg) := by rw [h2.cell]; rfl
  have c1 : w2.cell? ⟨w.heap.size, 1, none⟩ = some (.slice A n c) := by rw [h2.cell]; rfl
  have f0 := h2.frozen 0
  have f1 := h2.frozen 1
  clear hb h2 cN
  by_cases hk : k = 0
  · subst hk
    go_wp2_with fail
    go_ret
    exact ⟨rfl, (HB.out.setCell (by simp) _).setCell (by simp) _⟩
  · have d1 : ¬ (k : Int) = 0 := by omega
    have d2 : 0 < k := by omega
    have z := two_cells (u := .bool (neg && decide (0 < k))) (v := .slice A k c) c0 c1
    have z0 := z.1
    have z1 := z.2
    have SG : Hid (sgnI neg k = if neg = true then -1 else 1) := Lib.hid (by unfold sgnI; rw [if_neg hk])
    cases neg
    · go_wp2_with fail
      go_ret
      exact ⟨by rw [SG.out]; rfl, (HB.out.setCell (by simp) _).setCell (by simp) _⟩
    · go_wp2_with fail
      go_ret
      exact ⟨by rw [SG.out]; rfl, (HB.out.setCell (by simp) _).setCell (by simp) _⟩
end Go.Proofs.YtpdbekgkopglgaaGreat
namespace Go.Proofs.YtpdbekgkopglgaaGreat
set_option linter.unusedVariables false
set_option linter.unusedSimpArgs false

def PAt (l : List (Int × Int)) (k : Nat) : Int × Int := l.getD k (0, 0)
/-- The first k, consecutive equal ones struck. -/
def cptK (l : List (Int × Int)) : Nat → List (Int × Int)
  | 0 => []
  | k + 1 => if k = 0 ∨ PAt l k ≠ PAt l (k - 1) then cptK l k ++ [PAt l k] else cptK l k
theorem cptK_keep {l : List (Int × Int)} {k : Nat} (h : k = 0 ∨ PAt l k ≠ PAt l (k - 1)) : cptK l (k + 1) = cptK l k ++ [PAt l k] := by show (if _ then _ else _) = _; rw [if_pos h]
theorem cptK_skip {l : List (Int × Int)} {k : Nat} (h : ¬ (k = 0 ∨ PAt l k ≠ PAt l (k - 1))) : cptK l (k + 1) = cptK l k := by show (if _ then _ else _) = _; rw [if_neg h]
theorem cptK_len (l : List (Int × Int)) : ∀ k, (cptK l k).length ≤ k
  | 0 => Nat.le_refl _
  | k + 1 => by
    have := cptK_len l k
    show (if _ then _ else _ : List (Int × Int)).length ≤ _
    split
    · simp; omega
    · omega
theorem take_at {l : List (Int × Int)} {k : Nat} (h : k < l.length) : l.take (k + 1) = l.take k ++ [PAt l k] := by
  rw [List.take_succ_eq_append_getElem h]; unfold PAt; rw [List.getD_eq_getElem?_getD, List.getElem?_eq_getElem h]; rfl
theorem cptK_all {l : List (Int × Int)} : ∀ k, k ≤ l.length → (∀ j, j < k → j = 0 ∨ PAt l j ≠ PAt l (j - 1)) → cptK l k = l.take k
  | 0, _, _ => by simp [cptK]
  | k + 1, hk, h => by
    rw [cptK_keep (h k (by omega)), cptK_all k (by omega) (fun j hj => h j (by omega)), take_at (by omega)]
def cptL (l : List (Int × Int)) : List (Int × Int) := cptK l l.length

theorem PAt_mem {l : List (Int × Int)} {k : Nat} (h : k < l.length) : PAt l k ∈ l := by
  unfold PAt; rw [List.getD_eq_getElem?_getD, List.getElem?_eq_getElem h]; exact List.getElem_mem h
theorem cptK_sorted {l : List (Int × Int)} (hs : l.Pairwise fun x y => ¬ lt2 y x) : ∀ k, k ≤ l.length → (cptK l k).Pairwise lt2 ∧ (∀ x, x ∈ cptK l k ↔ x ∈ l.take k)
  | 0, _ => by simp [cptK]
  | k + 1, hk => by
    obtain ⟨h1, h2⟩ := cptK_sorted hs k (by omega)
    have hle : ∀ i j, i < j → j < l.length → ¬ lt2 (PAt l j) (PAt l i) := by
      intro i j hij hj
      have := List.pairwise_iff_getElem.1 hs i j (by omega) hj hij
      unfold PAt
      rw [List.getD_eq_getElem?_getD, List.getElem?_eq_getElem hj, List.getD_eq_getElem?_getD, List.getElem?_eq_getElem (by omega : i < l.length)]
      exact this
    by_cases h : k = 0 ∨ PAt l k ≠ PAt l (k - 1)
    · rw [cptK_keep h]
      refine ⟨?_, fun x => by rw [take_at (by omega), List.mem_append, List.mem_append, h2 x]⟩
      rw [List.pairwise_append]
      refine ⟨h1, List.pairwise_singleton _ _, fun x hx y hy => ?_⟩
      simp only [List.mem_singleton] at hy
      subst hy
      rw [h2] at hx
      obtain ⟨i, hi, rfl⟩ := List.getElem_of_mem hx
      simp at hi
      have e : (l.take k)[i] = PAt l i := by
        unfold PAt; rw [List.getD_eq_getElem?_getD, List.getElem?_eq_getElem (by omega : i < l.length)]; simp
      rw [e]
      rcases h with h | h
      · omega
      · have g1 := hle (k - 1) k (by omega) (by omega)
        have g3 : i < k - 1 → ¬ lt2 (PAt l (k - 1)) (PAt l i) := fun h' => hle i (k - 1) h' (by omega)
        have g4 : lt2 (PAt l (k - 1)) (PAt l k) := by
          unfold lt2 at *
          have : ¬ ((PAt l k).1 = (PAt l (k - 1)).1 ∧ (PAt l k).2 = (PAt l (k - 1)).2) := fun ⟨a, b⟩ => h (Prod.ext a b)
          omega
        by_cases hik : i = k - 1
        · subst hik; exact g4
        · have g5 := g3 (by omega)
          unfold lt2 at *; omega
    · rw [cptK_skip h]
      refine ⟨h1, fun x => ?_⟩
      rw [take_at (by omega), List.mem_append, h2 x]
      constructor
      · exact .inl
      · rintro (hx | hx)
        · exact hx
        · simp only [List.mem_singleton] at hx
          have h3 : PAt l k = PAt l (k - 1) ∧ k ≠ 0 := by
            refine ⟨?_, fun e => h (.inl e)⟩
            exact Decidable.not_not.1 fun e => h (.inr e)
          rw [hx, h3.1]
          have : PAt l (k - 1) = (l.take k)[k - 1]'(by simp; omega) := by
            unfold PAt; rw [List.getD_eq_getElem?_getD, List.getElem?_eq_getElem (by omega : k - 1 < l.length)]; simp
          rw [this]; exact List.getElem_mem _

def mkI (es : List (Int × Int)) : List (Int × Int) := es.map edgeI
theorem mk_sorted {n : Nat} {es l : List (Int × Int)} (hok : ∀ e ∈ es, okP n e.1 e.2 = true) (hp : l.Perm (mkI es)) (hs : l.Pairwise fun x y => ¬ lt2 y x) : cptL l = mkL n es := by
  obtain ⟨h1, h2⟩ := cptK_sorted hs l.length (Nat.le_refl _)
  refine strict_eq h1 (mkL_strict n es) (fun x => ?_)
  unfold cptL
  rw [h2, List.take_length, hp.mem_iff, mem_mkL, pairsB_iff]
  unfold mkI
  rw [List.mem_map]
  have hb : ∀ e ∈ es, 0 ≤ e.1 ∧ 0 ≤ e.2 ∧ e.1 < n ∧ e.2 < n ∧ e.1 ≠ e.2 := fun e he => by
    have := hok e he
    unfold okP at this
    simp at this
    omega
  constructor
  · rintro ⟨⟨a, b⟩, he, rfl⟩
    have := hb _ he
    simp only [edgeI] at this ⊢
    refine ⟨by omega, by omega, by omega, ?_⟩
    rcases Int.lt_or_le a b with h | h
    · left
      rw [show min a b = a by omega, show max a b = b by omega]; exact he
    · right
      rw [show min a b = b by omega, show max a b = a by omega]; exact he
  · rintro ⟨h0, h1, h2, h3 | h3⟩
    · refine ⟨_, h3, ?_⟩
      unfold edgeI
      exact Prod.ext (by simp; omega) (by simp; omega)
    · refine ⟨_, h3, ?_⟩
      unfold edgeI
      exact Prod.ext (by simp; omega) (by simp; omega)
end Go.Proofs.YtpdbekgkopglgaaGreat
namespace Go.Proofs.YtpdbekgkopglgaaGreat
set_option linter.unusedVariables false
set_option linter.unusedSimpArgs false
open Go.RowKit Go.Sort

theorem grownBy_of_below {w w' : World} {row : Option Nat} (h : Below w.heap.size w w') : w.grownBy w' row := ⟨h.os, h.tape, h.output, h.size, fun k hk _ => h.block k hk⟩
theorem prs_set : ∀ (l : List (Int × Int)) (j : Nat) (x y : Int), ((prs l).set (j * 2) (.int .i64 x)).set (j * 2 + 1) (.int .i64 y) = prs (l.set j (x, y))
  | [], j, x, y => by simp [prs]
  | e :: l, 0, x, y => by simp [prs]
  | e :: l, j + 1, x, y => by
    have := prs_set l j x y
    simp only [prs, List.flatMap_cons, List.set_cons_succ] at this ⊢
    rw [show (j + 1) * 2 = j * 2 + 1 + 1 by omega]
    simp only [List.cons_append, List.nil_append, List.set_cons_succ]
    rw [this]
theorem prs_take (l : List (Int × Int)) (k : Nat) : (prs l).take (k * 2) = prs (l.take k) := by
  induction l generalizing k with
  | nil => simp [prs]
  | cons e l ih =>
    cases k with
    | zero => simp [prs]
    | succ k =>
      have := ih k
      simp only [prs, List.flatMap_cons, List.take_succ_cons] at this ⊢
      rw [show (k + 1) * 2 = k * 2 + 1 + 1 by omega]
      simp only [List.cons_append, List.nil_append, List.take_succ_cons]
      rw [this]
section
variable {w : World} {base g n c size : Nat} {e : TypeId} {l : List (Int × Int)} {xs : List Value} {A : Option Addr}
theorem Own.store2 (h : Own w base e 2 (some ⟨g, 0, none⟩) n c (prs l)) (j : Nat) (x y : Int) :
    Own ((w.setCell ⟨g, j * 2, none⟩ (.int .i64 x)).setCell ⟨g, j * 2 + 1, none⟩ (.int .i64 y)) base e 2 (some ⟨g, 0, none⟩) n c (prs (l.set j (x, y))) ∧
      w.grownBy ((w.setCell ⟨g, j * 2, none⟩ (.int .i64 x)).setCell ⟨g, j * 2 + 1, none⟩ (.int .i64 y)) (some g) := by
  obtain ⟨h1, g1⟩ := World.ownsRow.stored h (j * 2) (.int .i64 x)
  obtain ⟨h2, g2⟩ := World.ownsRow.stored h1 (j * 2 + 1) (.int .i64 y)
  refine ⟨?_, g1.trans g2⟩
  rw [prs_set] at h2
  exact h2
theorem Own.shrink (h : Own w base e size A n c xs) {k : Nat} (hk : k ≤ n) (hA : A ≠ none) : Own w base e size A k c (xs.take (k * size)) := by
  rcases h.2 with ⟨hv, h2⟩ | ⟨g, cap, cur, hv, hb, hh, hc, hm, hs, ht⟩
  · injection hv with h1 h3 h4
    exact absurd h1 hA
  · injection hv with h1 h3 h4
    subst h1 h4
    have hle : k * size ≤ n * size := Nat.mul_le_mul_right _ hk
    refine ⟨by rw [List.length_take, h.1]; omega, .inr ⟨g, c, cur, rfl, hb, hh, by omega, hm, hs, ?_⟩⟩
    rw [← ht, List.take_take, Nat.min_eq_left hle]
theorem Own.set_many : ∀ (vs : List Value) (o : Nat) {w : World} {xs : List Value}, Own w base e size (some ⟨g, 0, none⟩) n c xs →
    ∃ xs', Own (w.setCells g o vs) base e size (some ⟨g, 0, none⟩) n c xs' ∧ xs'.take o = xs.take o ∧ w.grownBy (w.setCells g o vs) (some g)
  | [], o, w, xs, h => ⟨xs, h, rfl, World.grownBy.refl _ _⟩
  | v :: vs, o, w, xs, h => by
    obtain ⟨h1, g1⟩ := World.ownsRow.stored h o v
    obtain ⟨xs', h2, h3, h4⟩ := Own.set_many vs (o + 1) h1
    refine ⟨xs', h2, ?_, g1.trans h4⟩
    have : (xs'.take (o + 1)).take o = ((xs.set o v).take (o + 1)).take o := by rw [h3]
    rw [List.take_take, List.take_take, Nat.min_eq_left (Nat.le_succ o)] at this
    rw [this, List.take_set_of_le (Nat.le_refl _)]
theorem Own.pr_at (h : Own w base e 2 (some ⟨g, 0, none⟩) n c (prs l)) {k : Nat} (hk : k < n) : w.cell? ⟨g, k * 2, none⟩ = some (.int .i64 (PAt l k).1) ∧ w.cell? ⟨g, k * 2 + 1, none⟩ = some (.int .i64 (PAt l k).2) := by
  have hl := h.len
  rw [prs_length] at hl
  refine ⟨?_, ?_⟩
  · rw [World.ownsRow.cellAt h (k * 2) (by omega), prs_at0 l k (by omega)]; rfl
  · rw [World.ownsRow.cellAt h (k * 2 + 1) (by omega), prs_at1 l k (by omega)]; rfl
theorem Own.plen (h : Own w base e 2 A n c (prs l)) : l.length = n := by have := h.len; rw [prs_length] at this; omega
end
theorem zeroPair : ∀ w, (zeroValue 41).run Tryz.prog w = .ok (.agg #[.int .i64 0, .int .i64 0]) w := fun w => by kernel_rfl
theorem clear_pairs {w : World} {base g n c : Nat} {l : List (Int × Int)} (h : Own w base 41 2 (some ⟨g, 0, none⟩) n c (prs l)) (k m d : Nat) (hm : 0 < m) (hkm : k + m = n) :
    ∃ w', (∀ ty, (Builtin.clear_ #[35] ty #[.slice (some ⟨g, k * 2, none⟩) m d]).run Tryz.prog w = .ok (.tuple #[]) w') ∧ Own w' base 41 2 (some ⟨g, 0, none⟩) k c (prs (l.take k)) ∧ w.grownBy w' (some g) := by
  have hl := h.plen
  have hzl : (Builtin.zeroCells (Value.agg #[.int .i64 0, .int .i64 0]).cells m).toList.length = m * 2 := by simp [Builtin.zeroCells, Value.cells]
  have hz1 : ∀ v ∈ (Builtin.zeroCells (Value.agg #[.int .i64 0, .int .i64 0]).cells m).toList, v.oneCell' = true := by
    intro v hv
    simp [Builtin.zeroCells, Value.cells] at hv
    obtain ⟨i, -, rfl⟩ := hv
    rcases Nat.mod_two_eq_zero_or_one i with e | e <;> rw [e] <;> rfl
  obtain ⟨xs', h1, h2, h3⟩ := Own.set_many (Builtin.zeroCells (Value.agg #[.int .i64 0, .int .i64 0]).cells m).toList (k * 2) h
  refine ⟨_, fun ty => ?_, ?_, h3⟩
  · have hst := run_storeCells_cells (P := Tryz.prog) g (k * 2) (Builtin.zeroCells (Value.agg #[.int .i64 0, .int .i64 0]).cells m).toList 0 w
      (fun j hj => by
        rw [hzl] at hj
        rw [World.ownsRow.cellAt h (k * 2 + 0 + j) (by omega), List.getElem?_eq_getElem (by rw [prs_length]; omega)]; rfl)
      (fun j _ => h.frozen _) hz1
    simp only [Nat.add_zero] at hst
    obtain ⟨q, rfl⟩ : ∃ q, m = q + 1 := ⟨m - 1, by omega⟩
    simp [Builtin.clear_, run_underlying Tryz.underlying35, zeroPair, hst]
  · have := h1.shrink (k := k) (by omega) (by simp)
    rw [h2, prs_take] at this
    exact this

end Go.Proofs.YtpdbekgkopglgaaGreat
