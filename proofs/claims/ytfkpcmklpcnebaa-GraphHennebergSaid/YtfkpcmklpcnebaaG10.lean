/-
  slices.IndexFunc and slices.DeleteFunc at pairs, by the closure of graph.Henneberg.
-/
import Derived.Test.YtfkpcmklpcnebaaG9
import Derived.Test.YtfkpcmklpcnebaaSpecM
namespace Go.Proofs.Ytfkpcmklpcnebaa
set_option linter.unusedVariables false
set_option linter.unusedSimpArgs false
open Go.RowKit Go.Sort

def isE (a b : Int) (e : Int × Int) : Bool := e.1 == (edgeI (a, b)).1 && e.2 == (edgeI (a, b)).2
set_option maxHeartbeats 2000000 in
theorem clos_any (e : Int × Int) (a b : Int) (p q : Addr) (w : World) (hp : w.cell? p = some (.int .i64 a)) (hq : w.cell? q = some (.int .i64 b)) :
    Calls Try.prog 42 #[.agg #[.int .i64 e.1, .int .i64 e.2], .pointer (some p), .pointer (some q)] w fun r w' => r = .returned (.bool (isE a b e)) ∧ Below w.heap.size w w' := by
  obtain ⟨x, y⟩ := e
  unfold isE
  have hcE := fun w' => edge_any a b w'
  generalize edgeI (a, b) = ee at hcE ⊢
  obtain ⟨ex, ey⟩ := ee
  simp only at hcE ⊢
  have l0 := grown_cell (w := w.alloc (.cells #[.int .i64 x, .int .i64 y] 36)) (a := ⟨w.heap.size, 0, none⟩) (v := .int .i64 x) (by simp)
  have l1 := grown_cell (w := w.alloc (.cells #[.int .i64 x, .int .i64 y] 36)) (a := ⟨w.heap.size, 1, none⟩) (v := .int .i64 y) (by simp)
  have l2 := grown_cell (Keeps.alloc w (.cells #[.int .i64 x, .int .i64 y] 36) _ _ hp)
  have l3 := grown_cell (Keeps.alloc w (.cells #[.int .i64 x, .int .i64 y] 36) _ _ hq)
  have cE := call_q (w := w.alloc (.cells #[.int .i64 x, .int .i64 y] 36)) (fun w' _ => hcE w')
  have EQ := eqPair
  clear hp hq hcE
  go_enter Try.func42, Try.ntmps42
  go_wp2
  refine wp_region_q (by kernel_rfl) (by kernel_rfl) ?_
  repeat (go_big_quiet_step (exact cE _ _))
  refine wpQuiet_nil ?_
  intro wq hgq
  go_wp2
  go_ret
  exact ⟨rfl, ((Below.refl _ _).alloc (Nat.le_refl _) _).trans (hgq.mono (by simp))⟩

def ClosAt (w : World) (base : Nat) (a b : Int) (p q : Addr) : Prop := p.block < base ∧ q.block < base ∧ w.cell? p = some (.int .i64 a) ∧ w.cell? q = some (.int .i64 b)
theorem ClosAt.later {w w' : World} {base : Nat} {a b : Int} {p q : Addr} (h : ClosAt w base a b p q) (hb : Below base w w') : ClosAt w' base a b p q :=
  ⟨h.1, h.2.1, by rw [hb.cell h.1]; exact h.2.2.1, by rw [hb.cell h.2.1]; exact h.2.2.2⟩
theorem clos_b {r : Bool} {base : Nat} (x y : Int) (a b : Int) (p q : Addr) (w : World) (h : ClosAt w base a b p q) (hr : isE a b (x, y) = r) :
    Calls Try.prog 42 #[.agg #[.int .i64 x, .int .i64 y], .pointer (some p), .pointer (some q)] w fun e w' => e = .returned (.bool r) ∧ Below w.heap.size w w' := by
  subst hr; exact clos_any (x, y) a b p q w h.2.2.1 h.2.2.2
theorem getD_PAt (l : List (Int × Int)) (k : Nat) : l.getD k (0, 0) = PAt l k := rfl

set_option maxRecDepth 100000 in
set_option maxHeartbeats 4000000 in
theorem idxf_at (A : Option Addr) (n c : Nat) (l : List (Int × Int)) (w : World) (base : Nat) (a b : Int) (p q : Addr) (hn : n ≤ 1000000) (he : Rd w 2 A n (prs l)) (hc : ClosAt w base a b p q) (hbase : base ≤ w.heap.size) (r : Int)
    (hr : (r = -1 ∧ ∀ j, j < n → isE a b (PAt l j) = false) ∨ ∃ k : Nat, r = k ∧ k < n ∧ isE a b (PAt l k) = true ∧ ∀ j, j < k → isE a b (PAt l j) = false) :
    Calls Try.prog 52 #[.slice A n c, .func (.func 42) #[] #[.pointer (some p), .pointer (some q)]] w fun e w' => e = .returned (.int .i64 r) ∧ Below w.heap.size w w' := by
  have H1 := Lib.hid he
  have HC := Lib.hid hc
  have HR := Lib.hid hr
  clear he hc hr
  go_enter Try.func52, Try.ntmps52
  go_wp2
  go_loopw [5, 8] (fun _ i wr => Below w.heap.size w wr ∧ ∃ k : Nat, k ≤ n ∧ i = .int .i64 k ∧ ∀ j, j < k → isE a b (PAt l j) = false) (fun _ i _ => n - (intOf i).toNat)
  case atStart => exact ⟨Below.refl _ _, 0, Nat.zero_le _, rfl, by omega⟩
  case round =>
    obtain ⟨hb, k, hk, rfl, hok⟩ := hrel
    have HB := Lib.hid hb
    have HOK := Lib.hid hok
    clear hb hok
    by_cases hlt : k < n
    · obtain ⟨ad, rfl, c0, c1⟩ := (H1.out.keep (Keeps.of_below HB.out (Nat.le_refl _))).prs_at hlt
      rw [getD_PAt] at c0 c1
      generalize hxy : PAt l k = xy at c0 c1
      obtain ⟨x, y⟩ := xy
      simp only at c0 c1
      have HXY := Lib.hid hxy
      clear hxy
      cases hp : isE a b (x, y)
      · have HP := Lib.hid hp
        clear hp
        go_wp2_with (go_at_call 42; refine (clos_b (r := false) (base := base) x y a b p q _ (HC.out.later (HB.out.mono hbase)) HP.out).mono ?_; rintro e w1 ⟨rfl, hb1⟩)
        go_roundw
        case rel => exact ⟨HB.out.trans (hb1.mono HB.out.size), k + 1, by omega, by go_num, fun j hj => by
          by_cases e : j = k
          · subst e; rw [HXY.out]; exact HP.out
          · exact HOK.out j (by omega)⟩
        case measure => simp [intOf]; omega
      · have HP := Lib.hid hp
        clear hp
        go_wp2_with (go_at_call 42; refine (clos_b (r := true) (base := base) x y a b p q _ (HC.out.later (HB.out.mono hbase)) HP.out).mono ?_; rintro e w1 ⟨rfl, hb1⟩)
        go_ret
        refine ⟨ret_int ?_, HB.out.trans (hb1.mono HB.out.size)⟩
        rcases HR.out with ⟨rfl, h2⟩ | ⟨k', rfl, h3, h4, h5⟩
        · have := h2 k hlt
          rw [HXY.out, HP.out] at this; cases this
        · rcases Nat.lt_trichotomy k k' with h6 | h6 | h6
          · have := h5 k h6
            rw [HXY.out, HP.out] at this; cases this
          · rw [h6]
          · have := HOK.out k' h6
            rw [h4] at this; cases this
    · obtain rfl : k = n := by omega
      go_wp2
      go_ret
      refine ⟨ret_int ?_, HB.out⟩
      rcases HR.out with ⟨rfl, h2⟩ | ⟨k', rfl, h3, h4, h5⟩
      · rfl
      · have := HOK.out k' h3
        rw [h4] at this; cases this

def delL (a b : Int) (l : List (Int × Int)) : List (Int × Int) := l.filter fun e => !isE a b e
def DelInv (a b : Int) (l m : List (Int × Int)) (K i : Nat) : Prop := i = (delL a b (l.take K)).length ∧ i < K ∧ K ≤ l.length ∧ m.length = l.length ∧ m.take i = delL a b (l.take K) ∧ ∀ j, K ≤ j → PAt m j = PAt l j
theorem delL_step {a b : Int} {l : List (Int × Int)} {k : Nat} (hk : k < l.length) : delL a b (l.take (k + 1)) = delL a b (l.take k) ++ if isE a b (PAt l k) = true then [] else [PAt l k] := by
  unfold delL
  rw [take_at hk, List.filter_append]
  congr 1
  simp only [List.filter_cons, List.filter_nil]
  cases isE a b (PAt l k) <;> rfl
theorem delL_all {a b : Int} {l : List (Int × Int)} : ∀ k, k ≤ l.length → (∀ j, j < k → isE a b (PAt l j) = false) → delL a b (l.take k) = l.take k
  | 0, _, _ => by simp [delL]
  | k + 1, hk, h => by rw [delL_step (by omega), delL_all k (by omega) (fun j hj => h j (by omega)), h k (by omega), if_neg (by simp), take_at (by omega)]
theorem DelInv.start {a b : Int} {l : List (Int × Int)} {k : Nat} (hk : k < l.length) (h : ∀ j, j < k → isE a b (PAt l j) = false) (hp : isE a b (PAt l k) = true) : DelInv a b l l (k + 1) k := by
  have e1 : delL a b (l.take (k + 1)) = l.take k := by rw [delL_step hk, hp, if_pos rfl, List.append_nil, delL_all k (by omega) h]
  exact ⟨by rw [e1, List.length_take]; omega, by omega, by omega, rfl, e1.symm, fun _ _ => rfl⟩
theorem DelInv.skip {a b : Int} {l m : List (Int × Int)} {K i : Nat} (h : DelInv a b l m K i) (hK : K < l.length) (hp : isE a b (PAt l K) = true) : DelInv a b l m (K + 1) i := by
  obtain ⟨h1, h2, h3, h4, h5, h6⟩ := h
  have e1 : delL a b (l.take (K + 1)) = delL a b (l.take K) := by rw [delL_step hK, hp, if_pos rfl, List.append_nil]
  exact ⟨by rw [e1]; exact h1, by omega, by omega, h4, by rw [e1]; exact h5, fun j hj => h6 j (by omega)⟩
theorem DelInv.keep {a b : Int} {l m : List (Int × Int)} {K i : Nat} (h : DelInv a b l m K i) (hK : K < l.length) (hp : isE a b (PAt l K) = false) : DelInv a b l (m.set i (PAt l K)) (K + 1) (i + 1) := by
  obtain ⟨h1, h2, h3, h4, h5, h6⟩ := h
  have e1 : delL a b (l.take (K + 1)) = delL a b (l.take K) ++ [PAt l K] := by rw [delL_step hK, hp, if_neg (by simp)]
  refine ⟨by rw [e1, List.length_append, ← h1]; rfl, by omega, by omega, by simpa using h4, ?_, fun j hj => ?_⟩
  · rw [e1, List.take_succ_eq_append_getElem (by simp; omega), List.take_set_of_le (Nat.le_refl _), h5]
    simp
  · have := h6 j (by omega)
    unfold PAt at this ⊢
    rw [← this, List.getD_eq_getElem?_getD, List.getElem?_set_ne (by omega), List.getD_eq_getElem?_getD]

def DelPost (w : World) (base : Nat) (A : Option Addr) (c : Nat) (a b : Int) (l : List (Int × Int)) (e : Ending) (w' : World) : Prop :=
  e = .returned (.slice A (delL a b l).length c) ∧ Own w' base 36 2 A (delL a b l).length c (prs (delL a b l)) ∧ w.grownBy w' (blk A)
set_option maxRecDepth 100000 in
set_option maxHeartbeats 8000000 in
theorem delf_own (A : Option Addr) (n c : Nat) (l : List (Int × Int)) (w : World) (base : Nat) (a b : Int) (p q : Addr) (ho : Own w base 36 2 A n c (prs l)) (hn : n ≤ 1000000) (hc : ClosAt w base a b p q) (hbase : base ≤ w.heap.size) :
    Calls Try.prog 41 #[.slice A n c, .func (.func 42) #[] #[.pointer (some p), .pointer (some q)]] w (DelPost w base A c a b l) := by
  have hl := ho.plen
  have hcap := ho.cap
  have IDX := fun r hr => idxf_at A n c l w base a b p q hn ho.rd hc hbase r hr
  have HC := Lib.hid hc
  have OWN := Lib.hid ho
  have HL := Lib.hid hl
  clear hc ho hl
  by_cases hall : ∀ j, j < n → isE a b (PAt l j) = false
  · have hI := IDX (-1) (.inl ⟨rfl, hall⟩)
    have e1 : delL a b l = l := by
      have := delL_all (a := a) (b := b) (l := l) l.length (Nat.le_refl _) (fun j hj => hall j (by have := HL.out; omega))
      rwa [List.take_length] at this
    have E1 := Lib.hid e1
    have HI := Lib.hid hI
    clear IDX hall e1 hI
    go_enter Try.func41, Try.ntmps41
    go_wp2_with (go_at_call 52; refine HI.out.mono ?_; rintro e w1 ⟨rfl, hb1⟩)
    go_ret
    exact ⟨ret_slice (by rw [E1.out, HL.out]), by rw [E1.out, HL.out]; exact OWN.out.later hb1, grownBy_of_below hb1⟩
  · obtain ⟨k, hk, hpk, hbef⟩ : ∃ k, k < n ∧ isE a b (PAt l k) = true ∧ ∀ j, j < k → isE a b (PAt l j) = false := by
      have hex : ∃ j, j < n ∧ isE a b (PAt l j) = true := by
        apply Classical.byContradiction
        intro h
        exact hall fun j hj => by
          cases h' : isE a b (PAt l j)
          · rfl
          · exact absurd ⟨j, hj, h'⟩ h
      obtain ⟨j0, hj0⟩ := hex
      obtain ⟨k, ⟨h1, h2⟩, h3⟩ := least (P := fun j => j < n ∧ isE a b (PAt l j) = true) j0 hj0
      exact ⟨k, h1, h2, fun j hj => by
        cases h' : isE a b (PAt l j)
        · rfl
        · have := h3 j ⟨by omega, h'⟩; omega⟩
    have hI := IDX k (.inr ⟨k, rfl, hk, hpk, hbef⟩)
    have DS := Lib.hid (DelInv.start (a := a) (b := b) (l := l) (k := k) (by rw [HL.out]; exact hk) hbef hpk)
    have HI := Lib.hid hI
    obtain ⟨g, rfl, hg1, hg2⟩ := OWN.out.some_ (by omega)
    have hkm1 : ((k : Int) == -1) = false := by simp
    clear IDX hall hI hpk hbef
    go_enter Try.func41, Try.ntmps41
    go_wp2_with (go_at_call 52; refine HI.out.mono ?_; rintro e w1 ⟨rfl, hb1⟩; have O1 := Lib.hid (OWN.out.later hb1); have G1 : Hid (w.grownBy w1 (some g)) := Lib.hid (grownBy_of_below hb1); have B1 := Lib.hid (hb1.mono hbase); clear hb1)
    go_loopw [5, 6, 7] (fun s5 s6 _ w2 => ∃ (i K : Nat) (m : List (Int × Int)), s5 = .int .i64 i ∧ s6 = .int .i64 K ∧ Own w2 base 36 2 (some ⟨g, 0, none⟩) n c (prs m) ∧ w.grownBy w2 (some g) ∧ Below base w w2 ∧ DelInv a b l m K i) (fun _ s6 _ _ => n - (intOf s6).toNat)
    case atStart => exact ⟨k, k + 1, l, rfl, by go_num, O1.out, G1.out, B1.out, DS.out⟩
    case round =>
      obtain ⟨i, K, m, rfl, rfl, ho2, hg2', hb2, hI⟩ := hrel
      have hiK := hI.2.1
      have hKl := hI.2.2.1
      rw [HL.out] at hKl
      have O2 := Lib.hid ho2
      have G2 := Lib.hid hg2'
      have B2 := Lib.hid hb2
      have II := Lib.hid hI
      have hlt2 := (ho2.lt (k := g) rfl).2
      clear ho2 hg2' hb2 hI
      by_cases hlt : K < n
      · obtain ⟨c0, c1⟩ := O2.out.pr_at hlt
        obtain ⟨s0, s1⟩ := O2.out.pr_at (k := i) (by omega)
        rw [II.out.2.2.2.2.2 K (Nat.le_refl _)] at c0 c1
        generalize PAt m i = old at s0 s1
        generalize hxy : PAt l K = xy at c0 c1
        obtain ⟨x, y⟩ := xy
        simp only at c0 c1
        have HXY := Lib.hid hxy
        have hbz := B2.out.size
        have CL := Lib.hid ((HC.out.later B2.out).later ((Below.refl base wr).alloc (by omega) (.cells #[.int .i64 x, .int .i64 y] 36)))
        clear hxy
        cases hp : isE a b (x, y)
        · have HP := Lib.hid hp
          clear hp
          go_wp2_with (go_at_call 42; refine (clos_b (r := false) (base := base) x y a b p q _ CL.out HP.out).mono ?_; rintro e w3 ⟨rfl, hb3⟩; have hz3 := hb3.size; simp at hz3; have x0 : w3.cell? ⟨wr.heap.size, 0, none⟩ = some (.int .i64 x) := (by rw [hb3.cell (by simp)]; simp); have x1 : w3.cell? ⟨wr.heap.size, 1, none⟩ = some (.int .i64 y) := (by rw [hb3.cell (by simp)]; simp); have O3 := Lib.hid ((O2.out.alloc (.cells #[.int .i64 x, .int .i64 y] 36)).later hb3); have G3 : Hid (w.grownBy w3 (some g)) := Lib.hid ((G2.out.trans (World.grownBy_alloc _ _ _)).trans (grownBy_of_below hb3)); have B3 : Hid (Below base w w3) := Lib.hid ((B2.out.alloc (by omega) _).trans (hb3.mono (by simp; omega))); have s0' := Keeps.of_below hb3 (Nat.le_refl _) _ _ (Keeps.alloc wr _ _ _ s0); have s1' := Keeps.of_below hb3 (Nat.le_refl _) _ _ (Keeps.alloc wr _ _ _ s1); have f0 := O3.out.frozen (i * 2); have f1 := O3.out.frozen (i * 2 + 1); clear hb3)
          go_roundw
          case rel => exact ⟨i + 1, K + 1, m.set i (x, y), by go_num, by go_num, (O3.out.store2 i x y).1, G3.out.trans (O3.out.store2 i x y).2, (B3.out.setCell hg1 _).setCell hg1 _, by
            have := II.out.keep (by rw [HL.out]; exact hlt) (by rw [HXY.out]; exact HP.out)
            rw [HXY.out] at this
            exact this⟩
          case measure => simp [intOf]; omega
        · have HP := Lib.hid hp
          clear hp
          go_wp2_with (go_at_call 42; refine (clos_b (r := true) (base := base) x y a b p q _ CL.out HP.out).mono ?_; rintro e w3 ⟨rfl, hb3⟩; have O3 := Lib.hid ((O2.out.alloc (.cells #[.int .i64 x, .int .i64 y] 36)).later hb3); have G3 : Hid (w.grownBy w3 (some g)) := Lib.hid ((G2.out.trans (World.grownBy_alloc _ _ _)).trans (grownBy_of_below hb3)); have B3 : Hid (Below base w w3) := Lib.hid ((B2.out.alloc (by omega) _).trans (hb3.mono (by simp; omega))); clear hb3)
          go_roundw
          case rel => exact ⟨i, K + 1, m, rfl, by go_num, O3.out, G3.out, B3.out, II.out.skip (by rw [HL.out]; exact hlt) (by rw [HXY.out]; exact HP.out)⟩
          case measure => simp [intOf]; omega
      · obtain rfl : K = n := by omega
        have hfin : (delL a b l).length = i ∧ m.take i = delL a b l := by
          obtain ⟨h1, -, -, -, h5, -⟩ := II.out
          have et : l.take K = l := List.take_of_length_le (by rw [HL.out]; exact Nat.le_refl _)
          rw [et] at h1 h5
          exact ⟨h1.symm, h5⟩
        have HF := Lib.hid hfin
        obtain ⟨w5, hcl, ho5, hg5⟩ := clear_pairs O2.out i (K - i) (c - i) (by omega) (by omega)
        have O5 := Lib.hid ho5
        have G5 := Lib.hid hg5
        have hic : i < c := by omega
        clear hfin ho5 hg5
        go_wp2
        go_ret
        exact ⟨ret_slice HF.out.1.symm, by rw [HF.out.1, ← HF.out.2]; exact O5.out, G2.out.trans G5.out⟩
end Go.Proofs.Ytfkpcmklpcnebaa
