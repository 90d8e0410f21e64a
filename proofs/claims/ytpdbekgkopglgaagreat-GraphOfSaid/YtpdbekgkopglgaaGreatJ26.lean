/-
  Contracts and lemmas for the statement, joined: G10, G13, G14, H0, H1, H2.
-/
import Derived.Test.YtpdbekgkopglgaaGreatJ24
import Derived.Test.YtpdbekgkopglgaaGreatJ23
import Derived.Deep.RegionHeld3
namespace Go.Proofs.YtpdbekgkopglgaaGreat
set_option linter.unusedVariables false
set_option linter.unusedSimpArgs false
open Go.RowKit Go.Sort

def isE (a b : Int) (e : Int × Int) : Bool := e.1 == (edgeI (a, b)).1 && e.2 == (edgeI (a, b)).2
set_option maxHeartbeats 2000000 in
theorem clos_any (e : Int × Int) (a b : Int) (p q : Addr) (w : World) (hp : w.cell? p = some (.int .i64 a)) (hq : w.cell? q = some (.int .i64 b)) :
    Calls Tryz.prog 33 #[.agg #[.int .i64 e.1, .int .i64 e.2], .pointer (some p), .pointer (some q)] w fun r w' => r = .returned (.bool (isE a b e)) ∧ Below w.heap.size w w' := by
  obtain ⟨x, y⟩ := e
  unfold isE
  have hcE := fun w' => edge_any a b w'
  generalize edgeI (a, b) = ee at hcE ⊢
  obtain ⟨ex, ey⟩ := ee
  simp only at hcE ⊢
  have l0 := grown_cell (w := w.alloc (.cells #[.int .i64 x, .int .i64 y] 41)) (a := ⟨w.heap.size, 0, none⟩) (v := .int .i64 x) (by simp)
  have l1 := grown_cell (w := w.alloc (.cells #[.int .i64 x, .int .i64 y] 41)) (a := ⟨w.heap.size, 1, none⟩) (v := .int .i64 y) (by simp)
  have l2 := grown_cell (Keeps.alloc w (.cells #[.int .i64 x, .int .i64 y] 41) _ _ hp)
  have l3 := grown_cell (Keeps.alloc w (.cells #[.int .i64 x, .int .i64 y] 41) _ _ hq)
  have cE := call_q (w := w.alloc (.cells #[.int .i64 x, .int .i64 y] 41)) (fun w' _ => hcE w')
  have EQ := eqPair
  clear hp hq hcE
  go_enter Tryz.func33, Tryz.ntmps33
  go_wp2
  refine wp_region_q (by kernel_rfl) (by kernel_rfl) ?_
  repeat (go_big_quiet_step (exact cE _ _))
  refine wpQuiet_nil ?_
  intro wq hgq
  go_wp2
  go_ret
  exact ⟨rfl, ((Below.refl _ _).alloc (Nat.le_refl _) _).trans (hgq.mono (by simp))⟩

def ClosAt (w : World) (base : Nat) (a b : Int) (p q : Addr) : Prop := p.block < base ∧ q.block < base ∧ w.cell? p = some (.int .i64 a) ∧ w.cell? q = some (.int .i64 b)
theorem ClosAt.later {w w' : World} {base : Nat} {a b : Int} {p q : Addr} (h : ClosAt w base a b p q) (hb : Below base w w') : ClosAt w' base a b p q :=
  ⟨h.1, h.2.1, by rw [hb.cell h.1]; exact h.2.2.1, by rw [hb.cell h.2.1]; exact h.2.2.2⟩
theorem clos_b {r : Bool} {base : Nat} (x y : Int) (a b : Int) (p q : Addr) (w : World) (h : ClosAt w base a b p q) (hr : isE a b (x, y) = r) :
    Calls Tryz.prog 33 #[.agg #[.int .i64 x, .int .i64 y], .pointer (some p), .pointer (some q)] w fun e w' => e = .returned (.bool r) ∧ Below w.heap.size w w' := by
  subst hr; exact clos_any (x, y) a b p q w h.2.2.1 h.2.2.2
theorem getD_PAt (l : List (Int × Int)) (k : Nat) : l.getD k (0, 0) = PAt l k := rfl

set_option maxRecDepth 100000 in
set_option maxHeartbeats 4000000 in
theorem idxf_at (A : Option Addr) (n c : Nat) (l : List (Int × Int)) (w : World) (base : Nat) (a b : Int) (p q : Addr) (hn : n ≤ 1000000) (he : Rd w 2 A n (prs l)) (hc : ClosAt w base a b p q) (hbase : base ≤ w.heap.size) (r : Int)
    (hr : (r = -1 ∧ ∀ j, j < n → isE a b (PAt l j) = false) ∨ ∃ k : Nat, r = k ∧ k < n ∧ isE a b (PAt l k) = true ∧ ∀ j, j < k → isE a b (PAt l j) = false) :
    Calls Tryz.prog 51 #[.slice A n c, .func (.func 33) #[] #[.pointer (some p), .pointer (some q)]] w fun e w' => e = .returned (.int .i64 r) ∧ Below w.heap.size w w' := by
  have H1 := Lib.hid he
  have HC := Lib.hid hc
  have HR := Lib.hid hr
  clear he hc hr
  go_enter Tryz.func51, Tryz.ntmps51
  go_wp2
  go_loopw [5, 8] (fun _ i wr => Below w.heap.size w wr ∧ ∃ k : Nat, k ≤ n ∧ i = .int .i64 k ∧ ∀ j, j < k → isE a b (PAt l j) = false) (fun _ i _ => n - (intOf i).toNat)
  case atStart => exact ⟨Below.refl _ _, 0, Nat.zero_le _, rfl, by omega⟩
  case round =>
    obtain ⟨hb, k, hk, rfl, hok⟩ := hrel
    have HB := Lib.hid hb
    have HOK := Lib.hid hok
    clear hb hok
    by_cases hlt : k < n
    · obtain ⟨ad, rfl, c0, c1⟩ := (H1.out.keep (Keeps.of_below HB.out (Nat.le_refl _))).prs_at hlt
      rw [getD_PAt] at c0 c1
      generalize hxy : PAt l k = xy at c0 c1
      obtain ⟨x, y⟩ := xy
      simp only at c0 c1
      have HXY := Lib.hid hxy
      clear hxy
      cases hp : isE a b (x, y)
      · have HP := Lib.hid hp
        clear hp
        go_wp2_with (go_at_call 33; refine (clos_b (r := false) (base := base) x y a b p q _ (HC.out.later (HB.out.mono hbase)) HP.out).mono ?_; rintro e w1 ⟨rfl, hb1⟩)
        go_roundw
        case rel => exact ⟨HB.out.trans (hb1.mono HB.out.size), k + 1, by omega, by go_num, fun j hj => by
          by_cases e : j = k
          · subst e; rw [HXY.out]; exact HP.out
          · exact HOK.out j (by omega)⟩
        case measure => simp [intOf]; omega
      · have HP := Lib.hid hp
        clear hp
        go_wp2_with (go_at_call 33; refine (clos_b (r := true) (base := base) x y a b p q _ (HC.out.later (HB.out.mono hbase)) HP.out).mono ?_; rintro e w1 ⟨rfl, hb1⟩)
        go_ret
        refine ⟨ret_int ?_, HB.out.trans (hb1.mono HB.out.size)⟩
        rcases HR.out with ⟨rfl, h2⟩ | ⟨k', rfl, h3, h4, h5⟩
        · have := h2 k hlt
          rw [HXY.out, HP.out] at this; cases this
        · rcases Nat.lt_trichotomy k k' with h6 | h6 | h6
          · have := h5 k h6
            rw [HXY.out, HP.out] at this; cases this
          · rw [h6]
          · have := HOK.out k' h6
            rw [h4] at this; cases this
    · obtain rfl : k = n := by omega
      go_wp2
      go_ret
      refine ⟨ret_int ?_, HB.out⟩
      rcases HR.out with ⟨rfl, h2⟩ | ⟨k', rfl, h3, h4, h5⟩
      · rfl
      · have := HOK.out k' h3
        rw [h4] at this; cases this

def delL (a b : Int) (l : List (Int × Int)) : List (Int × Int) := l.filter fun e => !isE a b e
def DelInv (a b : Int) (l m : List (Int × Int)) (K i : Nat) : Prop := i = (delL a b (l.take K)).length ∧ i < K ∧ K ≤ l.length ∧ m.length = l.length ∧ m.take i = delL a b (l.take K) ∧ ∀ j, K ≤ j → PAt m j = PAt l j
theorem delL_step {a b : Int} {l : List (Int × Int)} {k : Nat} (hk : k < l.length) : delL a b (l.take (k + 1)) = delL a b (l.take k) ++ if isE a b (PAt l k) = true then [] else [PAt l k] := by
  unfold delL
  rw [take_at hk, List.filter_append]
  congr 1
  simp only [List.filter_cons, List.filter_nil]
  cases isE a b (PAt l k) <;> rfl
theorem delL_all {a b : Int} {l : List (Int × Int)} : ∀ k, k ≤ l.length → (∀ j, j < k → isE a b (PAt l j) = false) → delL a b (l.take k) = l.take k
  | 0, _, _ => by simp [delL]
  | k + 1, hk, h => by rw [delL_step (by omega), delL_all k (by omega) (fun j hj => h j (by omega)), h k (by omega), if_neg (by simp), take_at (by omega)]
theorem DelInv.start {a b : Int} {l : List (Int × Int)} {k : Nat} (hk : k < l.length) (h : ∀ j, j < k → isE a b (PAt l j) = false) (hp : isE a b (PAt l k) = true) : DelInv a b l l (k + 1) k := by
  have e1 : delL a b (l.take (k + 1)) = l.take k := by rw [delL_step hk, hp, if_pos rfl, List.append_nil, delL_all k (by omega) h]
  exact ⟨by rw [e1, List.length_take]; omega, by omega, by omega, rfl, e1.symm, fun _ _ => rfl⟩
theorem DelInv.skip {a b : Int} {l m : List (Int × Int)} {K i : Nat} (h : DelInv a b l m K i) (hK : K < l.length) (hp : isE a b (PAt l K) = true) : DelInv a b l m (K + 1) i := by
  obtain ⟨h1, h2, h3, h4, h5, h6⟩ := h
  have e1 : delL a b (l.take (K + 1)) = delL a b (l.take K) := by rw [delL_step hK, hp, if_pos rfl, List.append_nil]
  exact ⟨by rw [e1]; exact h1, by omega, by omega, h4, by rw [e1]; exact h5, fun j hj => h6 j (by omega)⟩
theorem DelInv.keep {a b : Int} {l m : List (Int × Int)} {K i : Nat} (h : DelInv a b l m K i) (hK : K < l.length) (hp : isE a b (PAt l K) = false) : DelInv a b l (m.set i (PAt l K)) (K + 1) (i + 1) := by
  obtain ⟨h1, h2, h3, h4, h5, h6⟩ := h
  have e1 : delL a b (l.take (K + 1)) = delL a b (l.take K) ++ [PAt l K] := by rw [delL_step hK, hp, if_neg (by simp)]
  refine ⟨by rw [e1, List.length_append, ← h1]; rfl, by omega, by omega, by simpa using h4, ?_, fun j hj => ?_⟩
  · rw [e1, List.take_succ_eq_append_getElem (by simp; omega), List.take_set_of_le (Nat.le_refl _), h5]
    simp
  · have := h6 j (by omega)
    unfold PAt at this ⊢
    rw [← this, List.getD_eq_getElem?_getD, List.getElem?_set_ne (by omega), List.getD_eq_getElem?_getD]

def DelPost (w : World) (base : Nat) (A : Option Addr) (c : Nat) (a b : Int) (l : List (Int × Int)) (e : Ending) (w' : World) : Prop :=
  e = .returned (.slice A (delL a b l).length c) ∧ Own w' base 41 2 A (delL a b l).length c (prs (delL a b l)) ∧ w.grownBy w' (blk A)
set_option maxRecDepth 100000 in
set_option maxHeartbeats 8000000 in
theorem delf_own (A : Option Addr) (n c : Nat) (l : List (Int × Int)) (w : World) (base : Nat) (a b : Int) (p q : Addr) (ho : Own w base 41 2 A n c (prs l)) (hn : n ≤ 1000000) (hc : ClosAt w base a b p q) (hbase : base ≤ w.heap.size) :
    Calls Tryz.prog 32 #[.slice A n c, .func (.func 33) #[] #[.pointer (some p), .pointer (some q)]] w (DelPost w base A c a b l) := by
  have hl := ho.plen
  have hcap := ho.cap
  have IDX := fun r hr => idxf_at A n c l w base a b p q hn ho.rd hc hbase r hr
  have HC := Lib.hid hc
  have OWN := Lib.hid ho
  have HL := Lib.hid hl
  clear hc ho hl
  by_cases hall : ∀ j, j < n → isE a b (PAt l j) = false
  · have hI := IDX (-1) (.inl ⟨rfl, hall⟩)
    have e1 : delL a b l = l := by
      have := delL_all (a := a) (b := b) (l := l) l.length (Nat.le_refl _) (fun j hj => hall j (by have := HL.out; omega))
      rwa [List.take_length] at this
    have E1 := Lib.hid e1
    have HI := Lib.hid hI
    clear IDX hall e1 hI
    go_enter Tryz.func32, Tryz.ntmps32
    go_wp2_with (go_at_call 51; refine HI.out.mono ?_; rintro e w1 ⟨rfl, hb1⟩)
    go_ret
    exact ⟨ret_slice (by rw [E1.out, HL.out]), by rw [E1.out, HL.out]; exact OWN.out.later hb1, grownBy_of_below hb1⟩
  · obtain ⟨k, hk, hpk, hbef⟩ : ∃ k, k < n ∧ isE a b (PAt l k) = true ∧ ∀ j, j < k → isE a b (PAt l j) = false := by
      have hex : ∃ j, j < n ∧ isE a b (PAt l j) = true := by
        apply Classical.byContradiction
        intro h
        exact hall fun j hj => by
          cases h' : isE a b (PAt l j)
          · rfl
          · exact absurd ⟨j, hj, h'⟩ h
      obtain ⟨j0, hj0⟩ := hex
      obtain ⟨k, ⟨h1, h2⟩, h3⟩ := least (P := fun j => j < n ∧ isE a b (PAt l j) = true) j0 hj0
      exact ⟨k, h1, h2, fun j hj => by
        cases h' : isE a b (PAt l j)
        · rfl
        · have := h3 j ⟨by omega, h'⟩; omega⟩
    have hI := IDX k (.inr ⟨k, rfl, hk, hpk, hbef⟩)
    have DS := Lib.hid (DelInv.start (a := a) (b := b) (l := l) (k := k) (by rw [HL.out]; exact hk) hbef hpk)
    have HI := Lib.hid hI
    obtain ⟨g, rfl, hg1, hg2⟩ := OWN.out.some_ (by omega)
    have hkm1 : ((k : Int) == -1) = false := by simp
    clear IDX hall hI hpk hbef
    go_enter Tryz.func32, Tryz.ntmps32
    go_wp2_with (go_at_call 51; refine HI.out.mono ?_; rintro e w1 ⟨rfl, hb1⟩; have O1 := Lib.hid (OWN.out.later hb1); have G1 : Hid (w.grownBy w1 (some g)) := Lib.hid (grownBy_of_below hb1); have B1 := Lib.hid (hb1.mono hbase); clear hb1)
    go_loopw [5, 6, 7] (fun s5 s6 _ w2 => ∃ (i K : Nat) (m : List (Int × Int)), s5 = .int .i64 i ∧ s6 = .int .i64 K ∧ Own w2 base 41 2 (some ⟨g, 0, none⟩) n c (prs m) ∧ w.grownBy w2 (some g) ∧ Below base w w2 ∧ DelInv a b l m K i) (fun _ s6 _ _ => n - (intOf s6).toNat)
    case atStart => exact ⟨k, k + 1, l, rfl, by go_num, O1.out, G1.out, B1.out, DS.out⟩
    case round =>
      obtain ⟨i, K, m, rfl, rfl, ho2, hg2', hb2, hI⟩ := hrel
      have hiK := hI.2.1
      have hKl := hI.2.2.1
      rw [HL.out] at hKl
      have O2 := Lib.hid ho2
      have G2 := Lib.hid hg2'
      have B2 := Lib.hid hb2
      have II := Lib.hid hI
      have hlt2 := (ho2.lt (k := g) rfl).2
      clear ho2 hg2' hb2 hI
      by_cases hlt : K < n
      · obtain ⟨c0, c1⟩ := O2.out.pr_at hlt
        obtain ⟨s0, s1⟩ := O2.out.pr_at (k := i) (by omega)
        rw [II.out.2.2.2.2.2 K (Nat.le_refl _)] at c0 c1
        generalize PAt m i = old at s0 s1
        generalize hxy : PAt l K = xy at c0 c1
        obtain ⟨x, y⟩ := xy
        simp only at c0 c1
        have HXY := Lib.hid hxy
        have hbz := B2.out.size
        have CL := Lib.hid ((HC.out.later B2.out).later ((Below.refl base wr).alloc (by omega) (.cells #[.int .i64 x, .int .i64 y] 41)))
        clear hxy
        cases hp : isE a b (x, y)
        · have HP := Lib.hid hp
          clear hp
          go_wp2_with (go_at_call 33; refine (clos_b (r := false) (base := base) x y a b p q _ CL.out HP.out).mono ?_; rintro e w3 ⟨rfl, hb3⟩; have hz3 := hb3.size; simp at hz3; have x0 : w3.cell? ⟨wr.heap.size, 0, none⟩ = some (.int .i64 x) := (by rw [hb3.cell (by simp)]; simp); have x1 : w3.cell? ⟨wr.heap.size, 1, none⟩ = some (.int .i64 y) := (by rw [hb3.cell (by simp)]; simp); have O3 := Lib.hid ((O2.out.alloc (.cells #[.int .i64 x, .int .i64 y] 41)).later hb3); have G3 : Hid (w.grownBy w3 (some g)) := Lib.hid ((G2.out.trans (World.grownBy_alloc _ _ _)).trans (grownBy_of_below hb3)); have B3 : Hid (Below base w w3) := Lib.hid ((B2.out.alloc (by omega) _).trans (hb3.mono (by simp; omega))); have s0' := Keeps.of_below hb3 (Nat.le_refl _) _ _ (Keeps.alloc wr _ _ _ s0); have s1' := Keeps.of_below hb3 (Nat.le_refl _) _ _ (Keeps.alloc wr _ _ _ s1); have f0 := O3.out.frozen (i * 2); have f1 := O3.out.frozen (i * 2 + 1); clear hb3)
          go_roundw
          case rel => exact ⟨i + 1, K + 1, m.set i (x, y), by go_num, by go_num, (O3.out.store2 i x y).1, G3.out.trans (O3.out.store2 i x y).2, (B3.out.setCell hg1 _).setCell hg1 _, by
            have := II.out.keep (by rw [HL.out]; exact hlt) (by rw [HXY.out]; exact HP.out)
            rw [HXY.out] at this
            exact this⟩
          case measure => simp [intOf]; omega
        · have HP := Lib.hid hp
          clear hp
          go_wp2_with (go_at_call 33; refine (clos_b (r := true) (base := base) x y a b p q _ CL.out HP.out).mono ?_; rintro e w3 ⟨rfl, hb3⟩; have O3 := Lib.hid ((O2.out.alloc (.cells #[.int .i64 x, .int .i64 y] 41)).later hb3); have G3 : Hid (w.grownBy w3 (some g)) := Lib.hid ((G2.out.trans (World.grownBy_alloc _ _ _)).trans (grownBy_of_below hb3)); have B3 : Hid (Below base w w3) := Lib.hid ((B2.out.alloc (by omega) _).trans (hb3.mono (by simp; omega))); clear hb3)
          go_roundw
          case rel => exact ⟨i, K + 1, m, rfl, by go_num, O3.out, G3.out, B3.out, II.out.skip (by rw [HL.out]; exact hlt) (by rw [HXY.out]; exact HP.out)⟩
          case measure => simp [intOf]; omega
      · obtain rfl : K = n := by omega
        have hfin : (delL a b l).length = i ∧ m.take i = delL a b l := by
          obtain ⟨h1, -, -, -, h5, -⟩ := II.out
          have et : l.take K = l := List.take_of_length_le (by rw [HL.out]; exact Nat.le_refl _)
          rw [et] at h1 h5
          exact ⟨h1.symm, h5⟩
        have HF := Lib.hid hfin
        obtain ⟨w5, hcl, ho5, hg5⟩ := clear_pairs O2.out i (K - i) (c - i) (by omega) (by omega)
        have O5 := Lib.hid ho5
        have G5 := Lib.hid hg5
        have hic : i < c := by omega
        clear hfin ho5 hg5
        go_wp2
        go_ret
        exact ⟨ret_slice HF.out.1.symm, by rw [HF.out.1, ← HF.out.2]; exact O5.out, G2.out.trans G5.out⟩
end Go.Proofs.YtpdbekgkopglgaaGreat
namespace Go.Proofs.YtpdbekgkopglgaaGreat
set_option linter.unusedVariables false
set_option linter.unusedSimpArgs false
open Go.RowKit Go.Sort
attribute [local go_sem ↓] Go.wp_at_zero Go.wp_at_succ

def keepH (a b s : Int) (e : Int × Int) : Bool := decide (s < 0) || !pairsB [(a, b)] e.1 e.2
/-- The edges of the graph with a further point. -/
def hennL (N : Int) (es : List (Int × Int)) (a b s : Int) : List (Int × Int) := ([(a, N), (b, N)] ++ if 0 ≤ s then [(s, N)] else []) ++ es.filter (keepH a b s)
def hennBad1 (N : Int) (es : List (Int × Int)) (a b : Int) : Bool := !validB N es || !hasB N a || !hasB N b || a == b
def hennBad2 (N : Int) (es : List (Int × Int)) (a b s : Int) : Bool := decide (0 ≤ s) && (!hasB N s || s == a || s == b || !hasE N es a b)
def hennE (N : Int) (es : List (Int × Int)) (a b s : Int) : Int × List (Int × Int) :=
  if hennBad1 N es a b = true then (1, []) else if hennBad2 N es a b s = true then (1, []) else if N = 60 then (3, []) else (0, mkL (N + 1).toNat (hennL N es a b s))
def HPost (w : World) (N : Int) (r : Int × List (Int × Int)) (e : Ending) (w' : World) : Prop :=
  Below w.heap.size w w' ∧ ((r.1 ≠ 0 ∧ r.2 = [] ∧ e = .returned (.tuple #[.agg #[.int .i64 0, .slice none 0 0], .int .i64 r.1])) ∨
    (r.1 = 0 ∧ ∃ B c, e = .returned (.tuple #[.agg #[.int .i64 (N + 1), .slice B r.2.length c], .int .i64 0]) ∧ Rd w' 2 B r.2.length (prs r.2)))
theorem henn_bad1 {N : Int} {es : List (Int × Int)} {a b s : Int} (h : hennBad1 N es a b = true) : hennE N es a b s = (1, []) := by unfold hennE; rw [if_pos h]
theorem henn_bad2 {N : Int} {es : List (Int × Int)} {a b s : Int} (h : hennBad2 N es a b s = true) : hennE N es a b s = (1, []) := by
  by_cases h1 : hennBad1 N es a b = true
  · exact henn_bad1 h1
  · unfold hennE; rw [if_neg h1, if_pos h]
theorem henn_60 {N : Int} {es : List (Int × Int)} {a b s : Int} (h1 : hennBad1 N es a b = false) (h2 : hennBad2 N es a b s = false) (h : N = 60) : hennE N es a b s = (3, []) := by
  unfold hennE; rw [if_neg (by rw [h1]; simp), if_neg (by rw [h2]; simp), if_pos h]
theorem henn_ok {N : Int} {es : List (Int × Int)} {a b s : Int} (h1 : hennBad1 N es a b = false) (h2 : hennBad2 N es a b s = false) (h : ¬ N = 60) : hennE N es a b s = (0, mkL (N + 1).toNat (hennL N es a b s)) := by
  unfold hennE; rw [if_neg (by rw [h1]; simp), if_neg (by rw [h2]; simp), if_neg h]
/-- What the two blocks at the head of Henneberg hold in any later world. -/
def HF (w : World) (N : Int) (A : Option Addr) (n c : Nat) (w1 : World) : Prop :=
  Below (w.heap.size + 2) ((w.alloc (.cells #[.int .i64 N, .slice A n c] 37)).alloc (.cells #[.int .i64 0, .slice none 0 0] 37)) w1
theorem HF.facts {w w1 : World} {N : Int} {A : Option Addr} {n c : Nat} (hb : HF w N A n c w1) :
    w.heap.size + 2 ≤ w1.heap.size ∧ w1.cell? ⟨w.heap.size, 0, none⟩ = some (.int .i64 N) ∧ w1.cell? ⟨w.heap.size, 1, none⟩ = some (.slice A n c) ∧ w1.cell? ⟨w.heap.size + 1, 0, none⟩ = some (.int .i64 0) ∧ w1.cell? ⟨w.heap.size + 1, 1, none⟩ = some (.slice none 0 0) ∧
      w1.frozen? ⟨w.heap.size + 1, 0, none⟩ = false ∧ w1.frozen? ⟨w.heap.size + 1, 1, none⟩ = false := by
  have hs := hb.size
  simp at hs
  refine ⟨by omega, ?_, ?_, ?_, ?_, ?_, ?_⟩
  · rw [hb.cell (by simp)]; simp
  · rw [hb.cell (by simp)]; simp
  · rw [hb.cell (by simp)]; simp
  · rw [hb.cell (by simp)]; simp
  · rw [hb.frozen (by simp)]; simp
  · rw [hb.frozen (by simp)]; simp
theorem HF.start (w : World) (N : Int) (A : Option Addr) (n c : Nat) : HF w N A n c ((w.alloc (.cells #[.int .i64 N, .slice A n c] 37)).alloc (.cells #[.int .i64 0, .slice none 0 0] 37)) := Below.refl _ _
theorem HF.next {w w1 w2 : World} {N : Int} {A : Option Addr} {n c : Nat} (hb : HF w N A n c w1) (h : Below w1.heap.size w1 w2) : HF w N A n c w2 := Below.trans hb (h.mono hb.facts.1)
theorem HF.next2 {w w1 w2 : World} {N : Int} {A : Option Addr} {n c : Nat} (hb : HF w N A n c w1) (h : Below (w.heap.size + 2) w1 w2) : HF w N A n c w2 := Below.trans hb h
theorem HF.below {w w1 : World} {N : Int} {A : Option Addr} {n c : Nat} (hb : HF w N A n c w1) : Below w.heap.size w w1 := (((Below.refl _ _).alloc (Nat.le_refl _) _).alloc (by simp) _).trans (Below.mono hb (by omega))

theorem henn_mk {N : Int} {es : List (Int × Int)} {a b s : Int} (h1 : hennBad1 N es a b = false) (h2 : hennBad2 N es a b s = false) (h : ¬ N = 60) : mkE (N + 1) (hennL N es a b s) = some (mkL (N + 1).toNat (hennL N es a b s)) := by
  unfold hennBad1 at h1
  simp only [Bool.or_eq_false_iff, Bool.not_eq_false'] at h1
  obtain ⟨⟨⟨hv, ha⟩, hb⟩, hab⟩ := h1
  have hN := (validB_iff N es).1 hv
  have hends := ends_of hv
  have ha' : 0 ≤ a ∧ a < N := by unfold hasB at ha; simpa using ha
  have hb' : 0 ≤ b ∧ b < N := by unfold hasB at hb; simpa using hb
  have ok : ∀ x y : Int, 0 ≤ x → 0 ≤ y → x < N + 1 → y < N + 1 → x ≠ y → okP (N + 1) x y = true := fun x y c1 c2 c3 c4 c5 => by unfold okP; simp; omega
  have hall : ∀ e ∈ hennL N es a b s, okP (N + 1) e.1 e.2 = true := by
    intro e he
    unfold hennL at he
    simp only [List.mem_append, List.mem_cons, List.not_mem_nil, or_false] at he
    rcases he with ((rfl | rfl) | he) | he
    · exact ok _ _ (by simp; omega) (by simp; omega) (by simp; omega) (by simp; omega) (by simp; omega)
    · exact ok _ _ (by simp; omega) (by simp; omega) (by simp; omega) (by simp; omega) (by simp; omega)
    · split at he
      · rename_i hs
        simp only [List.mem_singleton] at he
        subst he
        unfold hennBad2 at h2
        rw [decide_eq_true hs, Bool.true_and] at h2
        simp only [Bool.or_eq_false_iff, Bool.not_eq_false'] at h2
        have hs' : 0 ≤ s ∧ s < N := by have := h2.1.1.1; unfold hasB at this; simpa using this
        exact ok _ _ (by simp; omega) (by simp; omega) (by simp; omega) (by simp; omega) (by simp; omega)
      · simp at he
    · have := hends e (List.mem_filter.1 he).1
      exact ok _ _ (by omega) (by omega) (by omega) (by omega) (by omega)
  have : okE (N + 1) (hennL N es a b s) = true := by
    unfold okE
    rw [decide_eq_true (by omega : (0 : Int) ≤ N + 1), decide_eq_true (by omega : N + 1 ≤ 60)]
    simp only [Bool.true_and, List.all_eq_true]
    exact hall
  unfold mkE; rw [this]; rfl
theorem own_list {w : World} {base q c : Nat} {B : Option Addr} {l : List (Int × Int)} (h : Own w base 41 2 B q c (prs l)) : Rd w 2 B q (prs l) := h.rd
theorem keepH_step {es : List (Int × Int)} {a b s : Int} {k : Nat} (hk : k < es.length) {x y : Int} (hxy : es.getD k (0, 0) = (x, y)) : (es.take (k + 1)).filter (keepH a b s) = (es.take k).filter (keepH a b s) ++ if keepH a b s (x, y) = true then [(x, y)] else [] := by
  rw [List.take_succ_eq_append_getElem hk, List.filter_append]
  rw [List.getD_eq_getElem?_getD, List.getElem?_eq_getElem hk] at hxy
  simp only [Option.getD_some] at hxy
  rw [hxy]
  congr 1
  simp only [List.filter_cons, List.filter_nil]
theorem keepH_len (es : List (Int × Int)) (a b s : Int) (k : Nat) : ((es.take k).filter (keepH a b s)).length ≤ k := Nat.le_trans (List.length_filter_le _ _) (List.length_take_le _ _)
theorem not_bad1 {N : Int} {es : List (Int × Int)} {a b : Int} (h1 : hennBad1 N es a b = false) : validB N es = true ∧ hasB N a = true ∧ hasB N b = true ∧ (a == b) = false := by
  unfold hennBad1 at h1
  simp only [Bool.or_eq_false_iff, Bool.not_eq_false'] at h1
  exact ⟨h1.1.1.1, h1.1.1.2, h1.1.2, h1.2⟩
end Go.Proofs.YtpdbekgkopglgaaGreat
namespace Go.Proofs.YtpdbekgkopglgaaGreat
set_option linter.unusedVariables false
set_option linter.unusedSimpArgs false
open Go.RowKit Go.Sort
attribute [local go_sem ↓] Go.wp_at_zero Go.wp_at_succ

def hS (N a b s : Int) : List (Int × Int) := [(a, N), (b, N)] ++ if 0 ≤ s then [(s, N)] else []
def hK (N : Int) (es : List (Int × Int)) (a b s : Int) (k : Nat) : List (Int × Int) := hS N a b s ++ (es.take k).filter (keepH a b s)
theorem hK_end (N : Int) (es : List (Int × Int)) (a b s : Int) : hK N es a b s es.length = hennL N es a b s := by unfold hK hS hennL; rw [List.take_length]
theorem hK_len (N : Int) (es : List (Int × Int)) (a b s : Int) (k : Nat) : (hK N es a b s k).length ≤ k + 3 := by
  have := keepH_len es a b s k
  unfold hK hS
  rw [List.length_append, List.length_append]
  split <;> simp <;> omega
theorem hK_step {N : Int} {es : List (Int × Int)} {a b s : Int} {k : Nat} (hk : k < es.length) {x y : Int} (hxy : es.getD k (0, 0) = (x, y)) : hK N es a b s (k + 1) = hK N es a b s k ++ if keepH a b s (x, y) = true then [(x, y)] else [] := by
  unfold hK
  rw [keepH_step hk hxy, List.append_assoc]

end Go.Proofs.YtpdbekgkopglgaaGreat
namespace Go.Proofs.YtpdbekgkopglgaaGreat
set_option linter.unusedVariables false
set_option linter.unusedSimpArgs false
open Go.RowKit Go.Sort
attribute [local go_sem ↓] Go.wp_at_zero Go.wp_at_succ

/-- The blocks at the head of Henneberg: the graph, the two points, the result. -/
def W4 (w : World) (N : Int) (A : Option Addr) (n c : Nat) (a b : Int) : World :=
  (((w.alloc (.cells #[.int .i64 N, .slice A n c] 37)).alloc (.cells #[.int .i64 a] 3)).alloc (.cells #[.int .i64 b] 3)).alloc (.cells #[.int .i64 0, .slice none 0 0] 37)
def GF (w : World) (N : Int) (A : Option Addr) (n c : Nat) (a b : Int) (w1 : World) : Prop := Below (w.heap.size + 4) (W4 w N A n c a b) w1
section
variable {w w1 w2 : World} {N : Int} {A : Option Addr} {n c : Nat} {a b : Int}
theorem frozen_at {w : World} {b : Nat} (hb : w.heap.size = b) (cs : Array Value) (t : TypeId) (j : Nat) : (w.alloc (.cells cs t)).frozen? ⟨b, j, none⟩ = false := by subst hb; simp
theorem GF.facts (hb : GF w N A n c a b w1) :
    w.heap.size + 4 ≤ w1.heap.size ∧ w1.cell? ⟨w.heap.size, 0, none⟩ = some (.int .i64 N) ∧ w1.cell? ⟨w.heap.size, 1, none⟩ = some (.slice A n c) ∧ w1.cell? ⟨w.heap.size + 3, 0, none⟩ = some (.int .i64 0) ∧ w1.cell? ⟨w.heap.size + 3, 1, none⟩ = some (.slice none 0 0) ∧
      w1.frozen? ⟨w.heap.size + 3, 0, none⟩ = false ∧ w1.frozen? ⟨w.heap.size + 3, 1, none⟩ = false ∧ w1.cell? ⟨w.heap.size + 1, 0, none⟩ = some (.int .i64 a) ∧ w1.cell? ⟨w.heap.size + 2, 0, none⟩ = some (.int .i64 b) := by
  have hs := hb.size
  unfold GF at hb
  unfold W4 at hs
  simp at hs
  have kk : ∀ {p : Addr} {v : Value}, p.block < w.heap.size + 4 → (W4 w N A n c a b).cell? p = some v → w1.cell? p = some v := fun hp h => by rw [Below.cell hb hp]; exact h
  have kf : ∀ {p : Addr}, p.block < w.heap.size + 4 → (W4 w N A n c a b).frozen? p = false → w1.frozen? p = false := fun hp h => by rw [Below.frozen hb hp]; exact h
  refine ⟨by omega, kk (by simp) ?_, kk (by simp) ?_, kk (by simp) ?_, kk (by simp) ?_, kf (by simp) ?_, kf (by simp) ?_, kk (by simp) ?_, kk (by simp) ?_⟩
  · exact Keeps.alloc _ _ _ _ (Keeps.alloc _ _ _ _ (Keeps.alloc _ _ _ _ (cell_at rfl _ _ 0 rfl)))
  · exact Keeps.alloc _ _ _ _ (Keeps.alloc _ _ _ _ (Keeps.alloc _ _ _ _ (cell_at rfl _ _ 1 rfl)))
  · exact cell_at (by simp) _ _ 0 rfl
  · exact cell_at (by simp) _ _ 1 rfl
  · exact frozen_at (by simp) _ _ 0
  · exact frozen_at (by simp) _ _ 1
  · exact Keeps.alloc _ _ _ _ (Keeps.alloc _ _ _ _ (cell_at (by simp) _ _ 0 rfl))
  · exact Keeps.alloc _ _ _ _ (cell_at (by simp) _ _ 0 rfl)
theorem GF.start : GF w N A n c a b (W4 w N A n c a b) := Below.refl _ _
theorem GF.next (hb : GF w N A n c a b w1) (h : Below w1.heap.size w1 w2) : GF w N A n c a b w2 := Below.trans hb (h.mono hb.facts.1)
theorem GF.next2 (hb : GF w N A n c a b w1) (h : Below (w.heap.size + 4) w1 w2) : GF w N A n c a b w2 := Below.trans hb h
theorem GF.below (hb : GF w N A n c a b w1) : Below w.heap.size w w1 :=
  (((((Below.refl _ _).alloc (Nat.le_refl _) _).alloc (by simp) _).alloc (by simp; omega) _).alloc (by simp; omega) _).trans (Below.mono hb (by omega))
end

theorem clone_n (A : Option Addr) (n c : Nat) (l : List (Int × Int)) (w : World) (he : Rd w 2 A n (prs l)) (hn : n ≤ 1000000) :
    Calls Tryz.prog 30 #[.slice A n c] w fun e w' => Below w.heap.size w w' ∧ ∃ B d, e = .returned (.slice B n d) ∧ Own w' w.heap.size 41 2 B n d (prs l) := by
  have hl := he.prs_len
  refine (clone_any A n c l w he hn).mono ?_
  rintro e w' ⟨h1, B, d, h2, h3⟩
  rw [hl] at h2 h3
  exact ⟨h1, B, d, h2, h3⟩
theorem hl_eq {N : Int} {es : List (Int × Int)} {a b s : Int} {n : Nat} {L : List (Int × Int)} (h : ∀ x, x ∈ L ↔ x ∈ hennL N es a b s) : mkL n L = mkL n (hennL N es a b s) := by
  refine strict_eq (mkL_strict _ _) (mkL_strict _ _) (fun x => ?_)
  rw [mem_mkL, mem_mkL, pairsB_iff, pairsB_iff, h, h]
theorem mem_neg {N : Int} {es : List (Int × Int)} {a b s : Int} (hs : s < 0) (x : Int × Int) : x ∈ es ++ [(a, N), (b, N)] ↔ x ∈ hennL N es a b s := by
  unfold hennL
  rw [if_neg (by omega)]
  have : es.filter (keepH a b s) = es := by rw [List.filter_eq_self]; intro e _; unfold keepH; rw [decide_eq_true hs]; rfl
  rw [this]
  simp only [List.mem_append, List.mem_cons, List.not_mem_nil, or_false]
  exact or_comm
theorem keep_is {N : Int} {a b s : Int} (hs : 0 ≤ s) {e : Int × Int} (he : e.1 < e.2) : keepH a b s e = !isE a b e := by
  unfold keepH pairsB isE edgeI
  rw [decide_eq_false (by omega), Bool.false_or]
  congr 1
  simp only [List.any_cons, List.any_nil, Bool.or_false]
  rw [Bool.eq_iff_iff]
  simp only [Bool.or_eq_true, Bool.and_eq_true, beq_iff_eq]
  omega
theorem mem_pos {N : Int} {es : List (Int × Int)} {a b s : Int} (hs : 0 ≤ s) (hends : ∀ e ∈ es, 0 ≤ e.1 ∧ e.1 < e.2 ∧ e.2 < N) (haN : a < N) (hbN : b < N) (x : Int × Int) : x ∈ delL a b (es ++ [(a, N), (b, N)]) ++ [(s, N)] ↔ x ∈ hennL N es a b s := by
  have h1 : delL a b (es ++ [(a, N), (b, N)]) = es.filter (keepH a b s) ++ [(a, N), (b, N)] := by
    unfold delL
    rw [List.filter_append]
    congr 1
    · apply List.filter_congr
      intro e he
      rw [keep_is (N := N) hs (hends e he).2.1]
    · rw [List.filter_eq_self]
      intro e he
      simp only [List.mem_cons, List.not_mem_nil, or_false] at he
      rcases he with rfl | rfl <;> (unfold isE edgeI; simp; omega)
  rw [h1]
  unfold hennL
  rw [if_pos hs]
  simp only [List.mem_append, List.mem_cons, List.not_mem_nil, or_false]
  constructor
  · rintro ((h | h) | h)
    · exact .inr h
    · exact .inl (.inl h)
    · exact .inl (.inr h)
  · rintro ((h | h) | h)
    · exact .inl (.inr h)
    · exact .inr h
    · exact .inl (.inl h)
theorem okE_same {N : Int} {L M : List (Int × Int)} (h : ∀ x, x ∈ L ↔ x ∈ M) : okE N L = okE N M := by
  unfold okE
  congr 1
  rw [Bool.eq_iff_iff]
  simp only [List.all_eq_true]
  exact ⟨fun k x hx => k x ((h x).2 hx), fun k x hx => k x ((h x).1 hx)⟩
theorem mkE_same {N : Int} {es L : List (Int × Int)} {a b s : Int} {r : Option (List (Int × Int))} (h : ∀ x, x ∈ L ↔ x ∈ hennL N es a b s) (hr : mkE (N + 1) (hennL N es a b s) = r) : mkE (N + 1) L = r := by
  rw [← hr]; unfold mkE; rw [okE_same h, hl_eq h]

end Go.Proofs.YtpdbekgkopglgaaGreat
namespace Go.Proofs.YtpdbekgkopglgaaGreat
set_option linter.unusedVariables false
set_option linter.unusedSimpArgs false
open Go.RowKit Go.Sort
attribute [local go_sem ↓] Go.wp_at_zero Go.wp_at_succ

set_option maxRecDepth 100000 in
set_option maxHeartbeats 16000000 in
theorem ghenn_bad1 (N : Int) (A : Option Addr) (n c : Nat) (es : List (Int × Int)) (a b s : Int) (w : World) (hn : n ≤ 900) (he : Rd w 2 A n (prs es)) (hbad : hennBad1 N es a b = true) :
    Calls Tryz.prog 11 #[.agg #[.int .i64 N, .slice A n c], .int .i64 a, .int .i64 b, .int .i64 s] w (HPost w N (hennE N es a b s)) := by
  have HE := Lib.hid he.prs_len
  have H0 := Lib.hid he
  have G0 : Hid (GF w N A n c a b (W4 w N A n c a b)) := Lib.hid GF.start
  have H1 := Lib.hid (he.keep (Keeps.of_below G0.out.below (Nat.le_refl _)))
  unfold W4 at H1
  clear he
  have HB1 := Lib.hid hbad
  unfold hennBad1 at hbad
  cases hv : validB N es
  · have HV := Lib.hid hv
    clear hv
    clear hbad
    go_enter Tryz.func11, Tryz.ntmps11
    go_wp2_with (first
      | (go_at_call 29; refine (gvalid_b (b := false) N _ n c es _ (by omega) H1.out HV.out).mono ?_; rintro e w1 ⟨rfl, hb1⟩; have F1 : Hid (GF w N A n c a b w1) := Lib.hid (G0.out.next hb1); obtain ⟨hz1, p0, p1, r0, r1, f0, f1, pa, pb⟩ := F1.out.facts; clear hb1)
      | fail)
    refine bodyPost_ret (v := .tuple #[.agg #[.int .i64 0, .slice none 0 0], .int .i64 1]) (by simp [results, Tryz.results11, go_sem, r0, r1]) rfl ?_
    rw [henn_bad1 HB1.out]
    exact ⟨(F1.out.below.setCell (by simp; omega) _).setCell (by simp; omega) _, .inl ⟨by simp, rfl, rfl⟩⟩
  cases hA : hasB N a
  · have HV := Lib.hid hv
    have HA := Lib.hid hA
    clear hv hA
    clear hbad
    go_enter Tryz.func11, Tryz.ntmps11
    go_wp2_with (first
      | (go_at_call 29; refine (gvalid_b (b := true) N _ n c es _ (by omega) H1.out HV.out).mono ?_; rintro e w1 ⟨rfl, hb1⟩; have F1 : Hid (GF w N A n c a b w1) := Lib.hid (G0.out.next hb1); obtain ⟨hz1, p0, p1, r0, r1, f0, f1, pa, pb⟩ := F1.out.facts; clear hb1)
      | (go_at_call 24; (with_reducible refine (has_b (b := false) N a _ HA.out).mono ?_); rintro e w2 ⟨rfl, rfl⟩)
      | fail)
    refine bodyPost_ret (v := .tuple #[.agg #[.int .i64 0, .slice none 0 0], .int .i64 1]) (by simp [results, Tryz.results11, go_sem, r0, r1]) rfl ?_
    rw [henn_bad1 HB1.out]
    exact ⟨(F1.out.below.setCell (by simp; omega) _).setCell (by simp; omega) _, .inl ⟨by simp, rfl, rfl⟩⟩
  cases hB : hasB N b
  · have HV := Lib.hid hv
    have HA := Lib.hid hA
    have HBb := Lib.hid hB
    clear hv hA hB
    clear hbad
    go_enter Tryz.func11, Tryz.ntmps11
    go_wp2_with (first
      | (go_at_call 29; refine (gvalid_b (b := true) N _ n c es _ (by omega) H1.out HV.out).mono ?_; rintro e w1 ⟨rfl, hb1⟩; have F1 : Hid (GF w N A n c a b w1) := Lib.hid (G0.out.next hb1); obtain ⟨hz1, p0, p1, r0, r1, f0, f1, pa, pb⟩ := F1.out.facts; clear hb1)
      | (go_at_call 24; (with_reducible refine (has_b (b := true) N a _ HA.out).mono ?_); rintro e w2 ⟨rfl, rfl⟩)
      | (go_at_call 24; (with_reducible refine (has_b (b := false) N b _ HBb.out).mono ?_); rintro e w2 ⟨rfl, rfl⟩)
      | fail)
    refine bodyPost_ret (v := .tuple #[.agg #[.int .i64 0, .slice none 0 0], .int .i64 1]) (by simp [results, Tryz.results11, go_sem, r0, r1]) rfl ?_
    rw [henn_bad1 HB1.out]
    exact ⟨(F1.out.below.setCell (by simp; omega) _).setCell (by simp; omega) _, .inl ⟨by simp, rfl, rfl⟩⟩
  have hab : (a == b) = true := by rw [hv, hA, hB] at hbad; simpa using hbad
  have HV := Lib.hid hv
  have HA := Lib.hid hA
  have HBb := Lib.hid hB
  clear hv hA hB
  clear hbad
  obtain rfl : a = b := by simpa using hab
  clear hab
  go_enter Tryz.func11, Tryz.ntmps11
  go_wp2_with (first
    | (go_at_call 29; refine (gvalid_b (b := true) N _ n c es _ (by omega) H1.out HV.out).mono ?_; rintro e w1 ⟨rfl, hb1⟩; have F1 : Hid (GF w N A n c a a w1) := Lib.hid (G0.out.next hb1); obtain ⟨hz1, p0, p1, r0, r1, f0, f1, pa, pb⟩ := F1.out.facts; clear hb1)
    | (go_at_call 24; (with_reducible refine (has_b (b := true) N a _ HA.out).mono ?_); rintro e w2 ⟨rfl, rfl⟩)
    | fail)
  refine bodyPost_ret (v := .tuple #[.agg #[.int .i64 0, .slice none 0 0], .int .i64 1]) (by simp [results, Tryz.results11, go_sem, r0, r1]) rfl ?_
  rw [henn_bad1 HB1.out]
  exact ⟨(F1.out.below.setCell (by simp; omega) _).setCell (by simp; omega) _, .inl ⟨by simp, rfl, rfl⟩⟩
end Go.Proofs.YtpdbekgkopglgaaGreat
namespace Go.Proofs.YtpdbekgkopglgaaGreat
set_option linter.unusedVariables false
set_option linter.unusedSimpArgs false
open Go.RowKit Go.Sort
attribute [local go_sem ↓] Go.wp_at_zero Go.wp_at_succ

set_option maxRecDepth 100000 in
set_option maxHeartbeats 16000000 in
theorem ghenn_neg (N : Int) (A : Option Addr) (n c : Nat) (es : List (Int × Int)) (a b s : Int) (w : World) (hn : n ≤ 900) (he : Rd w 2 A n (prs es)) (hok : hennBad1 N es a b = false) (hok2 : hennBad2 N es a b s = false) (h60 : ¬ N = 60) (hs : s < 0) :
    Calls Tryz.prog 11 #[.agg #[.int .i64 N, .slice A n c], .int .i64 a, .int .i64 b, .int .i64 s] w (HPost w N (hennE N es a b s)) := by
  have HE := Lib.hid he.prs_len
  have H0 := Lib.hid he
  have G0 : Hid (GF w N A n c a b (W4 w N A n c a b)) := Lib.hid GF.start
  have H1 := Lib.hid (he.keep (Keeps.of_below G0.out.below (Nat.le_refl _)))
  unfold W4 at H1
  clear he
  have hN0 := (validB_iff N es).1 (not_bad1 hok).1
  obtain ⟨hNa, hNb, -⟩ := hN0
  have MKL : Hid (mkE (N + 1) (es ++ [(a, N), (b, N)]) = some (mkL (N + 1).toNat (hennL N es a b s))) := Lib.hid (mkE_same (mem_neg hs) (henn_mk hok hok2 h60))
  have HOK := Lib.hid (henn_ok hok hok2 h60)
  obtain ⟨hv, hA, hB, hab⟩ := not_bad1 hok
  have h60' : (N == 60) = false := by simpa using h60
  have HV := Lib.hid hv
  have HA := Lib.hid hA
  have HBb := Lib.hid hB
  clear hv hA hB
  clear hok hok2 h60
  go_enter Tryz.func11, Tryz.ntmps11
  go_wp2_with (first
    | (go_at_call 29; refine (gvalid_b (b := true) N _ n c es _ (by omega) H1.out HV.out).mono ?_; rintro e w1 ⟨rfl, hb1⟩; have F1 : Hid (GF w N A n c a b w1) := Lib.hid (G0.out.next hb1); obtain ⟨hz1, p0, p1, r0, r1, f0, f1, pa, pb⟩ := F1.out.facts; clear hb1)
    | (go_at_call 24; (with_reducible refine (has_b (b := true) N a _ HA.out).mono ?_); rintro e w2 ⟨rfl, rfl⟩)
    | (go_at_call 24; (with_reducible refine (has_b (b := true) N b _ HBb.out).mono ?_); rintro e w2 ⟨rfl, rfl⟩)
    | fail)
  have R1 := Lib.hid (H0.out.keep (Keeps.of_below F1.out.below (Nat.le_refl _)))
  have n0 := World.new_ne w1 _ p1
  have n1 := World.new_ne w1 _ pa
  have n2 := World.new_ne w1 _ pb
  go_region_held3 (fun w' => w'.cell? ⟨w.heap.size, 1, none⟩ = some (.slice A n c) ∧ w'.cell? ⟨w.heap.size + 1, 0, none⟩ = some (.int .i64 a) ∧ w'.cell? ⟨w.heap.size + 2, 0, none⟩ = some (.int .i64 b)) (go_keep)
    ((first
      | (go_at_call 30; refine (clone_n A n c es _ (R1.out.keep (Keeps.drew _)) (by omega)).mono ?_; rintro e w3 ⟨hb3, B3, c3, rfl, ho3⟩; have F3 : Hid (GF w N A n c a b w3) := Lib.hid (F1.out.next2 ((Below.refl _ _).drew.trans (hb3.mono (by simp; omega)))); obtain ⟨hz3, p0, p1, r0, r1, f0, f1, pa, pb⟩ := F3.out.facts; have n0 := World.new_ne w3 _ p1; have n1 := World.new_ne w3 _ pa; have n2 := World.new_ne w3 _ pb; have O3 : Hid (Own w3 (w.heap.size + 4) 41 2 B3 n c3 (prs es)) := Lib.hid (ho3.base_le (by simp; omega)); clear hb3 ho3)
      | (go_at_call 30; refine (clone_n A n c es _ (R1.out.keep ((Keeps.alloc w1 (.cells #[.int .i64 a, .int .i64 N, .int .i64 b, .int .i64 N] 41)).trans (Keeps.drew _))) (by omega)).mono ?_; rintro e w3 ⟨hb3, B3, c3, rfl, ho3⟩; have hz31 := hb3.size; simp at hz31; have F3 : Hid (GF w N A n c a b w3) := Lib.hid (F1.out.next2 ((((Below.refl _ _).alloc (by omega) _).drew).trans (hb3.mono (by simp; omega)))); obtain ⟨hz3, p0, p1, r0, r1, f0, f1, pa, pb⟩ := F3.out.facts; have n0 := World.new_ne w3 _ p1; have n1 := World.new_ne w3 _ pa; have n2 := World.new_ne w3 _ pb; have LIT : Hid (Rd w3 2 (some ⟨w1.heap.size, 0, none⟩) 2 (prs [(a, N), (b, N)])) := Lib.hid (((rd_lit2_at rfl [(a, N), (b, N)] _).keep (Keeps.drew _)).keep (Keeps.of_below hb3 (Nat.le_refl _))); have O3 : Hid (Own w3 (w.heap.size + 4) 41 2 B3 n c3 (prs es)) := Lib.hid (ho3.base_le (by simp; omega)); clear hb3 ho3)
      | (refine step_app _ rfl (.tmp 39) (.tmp 46) 35 rfl (w.heap.size + 4) 41 (.agg #[.int .i64 0, .int .i64 0]) 2 16 Tryz.underlying35 info_pair rfl (by decide) B3 n c3 (prs es) (by simp [Act.eval, Act.put]) O3.out (some ⟨w1.heap.size, 0, none⟩) 2 2 (prs [(a, N), (b, N)]) (by simp [Act.eval, Act.put]) LIT.out (prs_one _) (by omega) (by unfold maxLen; omega) (by omega) ?_; intro B4 c4 w4 ho4 hg4 hb4; have F4 : Hid (GF w N A n c a b w4) := Lib.hid (F3.out.next2 ((Below.refl _ _).grown hg4 (by omega) (fun b hb => (O3.out.lt hb).1))); obtain ⟨hz4, p0, p1, r0, r1, f0, f1, pa, pb⟩ := F4.out.facts; have n0 := World.new_ne w4 _ p1; have n1 := World.new_ne w4 _ pa; have n2 := World.new_ne w4 _ pb; have O4 : Hid (Own w4 (w.heap.size + 4) 41 2 B4 (n + 2) c4 (prs (es ++ [(a, N), (b, N)]))) := Lib.hid (by rw [prs_app]; exact ho4); clear ho4 hg4 hb4)
      | (refine step_app _ rfl (.tmp 39) (.tmp 46) 35 rfl (w.heap.size + 4) 41 (.agg #[.int .i64 0, .int .i64 0]) 2 16 Tryz.underlying35 info_pair rfl (by decide) B3 n c3 (prs es) (by simp [Act.eval, Act.put]) (O3.out.alloc _) (some ⟨w3.heap.size, 0, none⟩) 2 2 (prs [(a, N), (b, N)]) (by simp [Act.eval, Act.put]) (rd_lit2_at rfl [(a, N), (b, N)] _) (prs_one _) (by omega) (by unfold maxLen; omega) (by simp; omega) ?_; intro B4 c4 w4 ho4 hg4 hb4; have F4 : Hid (GF w N A n c a b w4) := Lib.hid (F3.out.next2 (((Below.refl _ _).alloc (by omega) _).grown hg4 (by simp; omega) (fun b hb => (O3.out.lt hb).1))); obtain ⟨hz4, p0, p1, r0, r1, f0, f1, pa, pb⟩ := F4.out.facts; have n0 := World.new_ne w4 _ p1; have n1 := World.new_ne w4 _ pa; have n2 := World.new_ne w4 _ pb; have O4 : Hid (Own w4 (w.heap.size + 4) 41 2 B4 (n + 2) c4 (prs (es ++ [(a, N), (b, N)]))) := Lib.hid (by rw [prs_app]; exact ho4); clear ho4 hg4 hb4)
      | fail))
  all_goals
   go_wp2_with (go_at_call 10; refine (gmake_any (N + 1) B4 (n + 2) c4 (es ++ [(a, N), (b, N)]) _ (by omega) O4.out.rd).mono ?_; rintro e w8 hpost; rw [MKL.out] at hpost; obtain ⟨hb8, B8, c8, rfl, ho8⟩ := hpost; have F8 : Hid (GF w N A n c a b w8) := Lib.hid (F4.out.next hb8); obtain ⟨hz8, p0, p1, r0, r1, f0, f1, pa, pb⟩ := F8.out.facts; have O8 := Lib.hid ho8; clear hb8 ho8)
   rw [HOK.out]
   refine bodyPost_ret (v := .tuple #[.agg #[.int .i64 (N + 1), .slice B8 (mkL (N + 1).toNat (hennL N es a b s)).length c8], .int .i64 0]) (by simp [results, Tryz.results11, go_sem, r0, r1]) rfl ⟨(F8.out.below.setCell (by simp; omega) _).setCell (by simp; omega) _, .inr ⟨rfl, B8, c8, rfl, ?_⟩⟩
   exact ((O8.out.setOther (by simp; omega) _).setOther (by simp; omega) _).rd
end Go.Proofs.YtpdbekgkopglgaaGreat
