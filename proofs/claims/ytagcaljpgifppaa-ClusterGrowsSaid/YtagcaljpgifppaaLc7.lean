/-
  ClusterGrows: the walk of the statement.
-/
import Derived.Test.YtagcaljpgifppaaCa
import Derived.Test.YtagcaljpgifppaaCv
import Derived.Test.YtagcaljpgifppaaCr4
import Derived.Test.YtagcaljpgifppaaCg1
import Derived.Test.YtagcaljpgifppaaCr7
namespace Go.Proofs.Ytagcaljpgifppaa
set_option linter.unusedVariables false
set_option linter.unusedSimpArgs false
open Go.RowKit Go.Sort
attribute [local go_sem ↓] Go.wp_at_zero Go.wp_at_succ

theorem clu_shortG {n : Nat} {es : List (Int × Int)} {ls : List (List Int)} (hn : n ≤ 1000000) (h : CluL n es ls) : shortL ls := fun i => by
  by_cases hi : i < ls.length
  · obtain ⟨e, -, heq⟩ := (h.mem (ls.getD i [])).1 (by rw [List.getD_eq_getElem?_getD, List.getElem?_eq_getElem hi]; exact List.getElem_mem _)
    rw [heq]
    exact Nat.le_trans (clU_len (p := n)) hn
  · rw [List.getD_eq_getElem?_getD, List.getElem?_eq_none (by omega)]; simp
theorem clu_smallG {n : Nat} {es : List (Int × Int)} {ls : List (List Int)} {W : World} {C C' : Option Addr} {a b : Nat} (hn : n ≤ 20) (hv : validB n es = true) (h : CluL n es ls) (ha : RdL W C a ls) (hb : RdL W C' b ls) : lensL ls ∧ a ≤ 400 ∧ b ≤ 400 := by
  have h1 := valid_len hv
  have h2 : n * n ≤ 20 * 20 := Nat.mul_le_mul hn hn
  have h3 := clu_len' h
  have ea := ha.1
  have eb := hb.1
  refine ⟨short36 (clu_shortG (by omega) h), by omega, by omega⟩
/-- The frame of ClusterGrows: the graph's box and the two points'. -/
def GZ0 (w : World) (N : Int) (A : Option Addr) (m c : Nat) (a b : Int) : World := ((w.alloc (.cells #[.int .i64 N, .slice A m c] 24)).alloc (.cells #[.int .i64 a] 3)).alloc (.cells #[.int .i64 b] 3)
def GZ (w : World) (N : Int) (A : Option Addr) (m c : Nat) (a b : Int) (w1 : World) : Prop := Below (w.heap.size + 3) (GZ0 w N A m c a b) w1
section
variable {w w1 w2 : World} {N a b : Int} {A : Option Addr} {m c : Nat}
theorem GZ.start : GZ w N A m c a b (GZ0 w N A m c a b) := Below.refl _ _
theorem GZ.facts (h : GZ w N A m c a b w1) : w.heap.size + 1 + 1 < w1.heap.size ∧ w1.cell? ⟨w.heap.size, 0, none⟩ = some (.int .i64 N) ∧ w1.cell? ⟨w.heap.size, 1, none⟩ = some (.slice A m c) ∧ w1.cell? ⟨w.heap.size + 1, 0, none⟩ = some (.int .i64 a) ∧ w1.cell? ⟨w.heap.size + 1 + 1, 0, none⟩ = some (.int .i64 b) := by
  have hs := h.size
  unfold GZ0 at hs
  simp at hs
  refine ⟨by omega, ?_, ?_, ?_, ?_⟩
  · rw [Below.cell h (by simp)]; unfold GZ0; exact Keeps.alloc _ _ _ _ (Keeps.alloc _ _ _ _ (cell_at rfl _ _ 0 rfl))
  · rw [Below.cell h (by simp)]; unfold GZ0; exact Keeps.alloc _ _ _ _ (Keeps.alloc _ _ _ _ (cell_at rfl _ _ 1 rfl))
  · rw [Below.cell h (by simp)]; unfold GZ0; exact Keeps.alloc _ _ _ _ (cell_at (by simp) _ _ 0 rfl)
  · rw [Below.cell h (by simp)]; unfold GZ0; exact cell_at (by simp) _ _ 0 rfl
theorem GZ.next (h : GZ w N A m c a b w1) (hb : Below w1.heap.size w1 w2) : GZ w N A m c a b w2 := Below.trans h (hb.mono (by have := h.facts.1; omega))
theorem GZ.below (h : GZ w N A m c a b w1) : Below w.heap.size w w1 := ((((Below.refl _ _).alloc (Nat.le_refl _) _).alloc (by simp) _).alloc (by simp; omega) _).trans (Below.mono h (by omega))
theorem GZ.keeps (h : GZ w N A m c a b w1) : Keeps w w1 := Keeps.of_below h.below (Nat.le_refl _)
end
/-- The new graph's box, and behind it the box of its edges' list. -/
structure HBg (W : World) (hb n : Nat) (B : Option Addr) (m d : Nat) : Prop where
  c0 : W.cell? ⟨hb, 0, none⟩ = some (.int .i64 ((n : Int) + 1))
  c1 : W.cell? ⟨hb, 1, none⟩ = some (.slice B m d)
  f1 : W.frozen? ⟨hb, 1, none⟩ = false
theorem HBg.later {W W' : World} {hb n m d k : Nat} {B : Option Addr} (h : HBg W hb n B m d) (hk : hb < k) (h2 : Below k W W') : HBg W' hb n B m d :=
  ⟨by rw [h2.cell (by exact hk)]; exact h.c0, by rw [h2.cell (by exact hk)]; exact h.c1, by rw [h2.frozen (by exact hk)]; exact h.f1⟩
/-- The rows are lists of the calls' own. -/
def RowsO (w : World) (b : Nat) (zs : List Zr) : Prop := ∀ z ∈ zs, Own w b 3 1 z.1.1 z.2.length z.1.2 (ints z.2)
theorem RowsO.later {w w' : World} {b : Nat} {zs : List Zr} (h : RowsO w b zs) (hb : Below w.heap.size w w') : RowsO w' b zs := fun z hz => (h z hz).later hb
theorem RowsO.rows {w : World} {b : Nat} {zs : List Zr} (h : RowsO w b zs) : RowsZ w zs := fun z hz => (h z hz).rd
theorem RowsO.apart {w w' : World} {b b2 i cD : Nat} {D : Option Addr} {zs : List Zr} {xs : List Value} (h : RowsO w b zs) (hD : Own w b2 27 1 D i cD xs) (hg : w.grownBy w' (blk D)) : RowsO w' b zs := fun z hz => (h z hz).apart hg ((h z hz).apart_type hD (by decide))
/-- The list of rows, and a further row appended. -/
theorem push_row {w w' : World} {b W9 i cD lx e c' : Nat} {D D' A : Option Addr} {zs : List Zr} {x : List Int} {o : Obj} (hD : Own w W9 27 1 D i cD (hdz zs)) (hr : RowsO w b zs) (hx : Own w b 3 1 A lx e (ints x)) (hl : x.length = lx)
    (ho : Own w' W9 27 1 D' (i + 1) c' (hdz zs ++ [.slice A lx e])) (hg : (w.alloc o).grownBy w' (blk D)) : Own w' W9 27 1 D' (i + 1) c' (hdz (zs ++ [((A, e), x)])) ∧ RowsO w' b (zs ++ [((A, e), x)]) := by
  subst hl
  refine ⟨by unfold hdz at *; rw [List.map_append]; exact ho, fun z hz => ?_⟩
  rcases List.mem_append.1 hz with h | h
  · exact ((hr.later ((Below.refl _ _).alloc (Nat.le_refl _) o)).apart (hD.alloc o) hg) z h
  · rw [List.mem_singleton] at h
    subst h
    exact (hx.alloc o).apart hg ((hx.alloc o).apart_type (hD.alloc o) (by decide))
theorem lsz_app (zs : List Zr) (z : Zr) : lsz (zs ++ [z]) = lsz zs ++ [z.2] := by unfold lsz; rw [List.map_append]; rfl
theorem short_grow {n a b : Nat} {es : List (Int × Int)} {ls : List (List Int)} (hn : n + 1 ≤ 60) (han : a < n) (hbn : b < n) (hv : validB n es = true) (h : CluL n es ls) : shortL (growW n a b ls) := fun k => by
  by_cases hk : k < (growW n a b ls).length
  · obtain ⟨S, -, e⟩ := (grow_mem hn han hbn hv h ((growW n a b ls).getD k [])).1 (by rw [List.getD_eq_getElem?_getD, List.getElem?_eq_getElem hk]; exact List.getElem_mem _)
    rw [e]
    have := ptsK_length_le (n + 1) S
    omega
  · rw [List.getD_eq_getElem?_getD, List.getElem?_eq_none (by omega)]; simp
set_option maxRecDepth 100000 in
set_option maxHeartbeats 16000000 in
theorem law_cg (N : Int) (A : Option Addr) (m c : Nat) (es : List (Int × Int)) (av bv : Int) (w : World) (hm : m ≤ maxLen) (he : Rd w 2 A m (prs es)) :
    Calls Try.prog 11 #[.agg #[.int .i64 N, .slice A m c], .int .i64 av, .int .i64 bv] w fun e w' => e = .returned (.bool true) ∧ Below w.heap.size w w' := by
  have H0 := Lib.hid he
  have HE := Lib.hid he.prs_len
  have X0 : Hid (GZ w N A m c av bv (((w.alloc (.cells #[.int .i64 N, .slice A m c] 24)).alloc (.cells #[.int .i64 av] 3)).alloc (.cells #[.int .i64 bv] 3))) := Lib.hid GZ.start
  obtain ⟨hz0, p0, p1, pa, pb⟩ := X0.out.facts
  unfold maxLen at hm
  clear he
  cases hv : v36 N 19 es
  · have HV19 := Lib.hid hv
    clear hv
    go_enter Try.func11, Try.ntmps11
    go_wp2_with (first
      | (go_at_call 35; refine (awake36_any _).mono ?_; rintro e w1 ⟨rfl, hb⟩; have X1 := Lib.hid (X0.out.next hb); clear p0 p1 pa pb hz0; obtain ⟨hz0, p0, p1, pa, pb⟩ := X1.out.facts; clear hb)
      | (go_at_call 39; refine (valid36_b _ 19 A m c es _ (by omega) (by omega) (H0.out.keep X1.out.keeps) HV19.out).mono ?_; rintro e w2 ⟨rfl, hb⟩; have X2 := Lib.hid (X1.out.next hb); clear p0 p1 pa pb hz0; obtain ⟨hz0, p0, p1, pa, pb⟩ := X2.out.facts; clear hb)
      | fail)
    go_ret
    exact ⟨rfl, X2.out.below⟩
  have HV19 := Lib.hid hv
  have hvv := hv
  unfold v36 at hvv
  simp only [Bool.and_eq_true, decide_eq_true_eq] at hvv
  obtain ⟨hv, hN19⟩ := hvv
  obtain ⟨n, rfl, hn60⟩ := nat_of_valid hv
  have hn19 : n ≤ 19 := by omega
  have HV := Lib.hid hv
  have hm400 : m ≤ 400 := by have h1 := valid_len hv; have h2 : n * n ≤ 20 * 20 := Nat.mul_le_mul (by omega) (by omega); have := HE.out; omega
  clear hv hN19
  by_cases ha0 : av < 0
  · have da : decide (av < 0) = true := decide_eq_true ha0
    clear ha0
    go_enter Try.func11, Try.ntmps11
    go_wp2_with (first
      | (go_at_call 35; refine (awake36_any _).mono ?_; rintro e w1 ⟨rfl, hb⟩; have X1 := Lib.hid (X0.out.next hb); clear p0 p1 pa pb hz0; obtain ⟨hz0, p0, p1, pa, pb⟩ := X1.out.facts; clear hb)
      | (go_at_call 39; refine (valid36_b _ 19 A m c es _ (by omega) (by omega) (H0.out.keep X1.out.keeps) HV19.out).mono ?_; rintro e w2 ⟨rfl, hb⟩; have X2 := Lib.hid (X1.out.next hb); clear p0 p1 pa pb hz0; obtain ⟨hz0, p0, p1, pa, pb⟩ := X2.out.facts; clear hb)
      | fail)
    go_ret
    exact ⟨rfl, X2.out.below⟩
  have da : decide (av < 0) = false := decide_eq_false ha0
  by_cases hab : bv < av
  · have db : decide (bv < av) = true := decide_eq_true hab
    clear hab
    go_enter Try.func11, Try.ntmps11
    go_wp2_with (first
      | (go_at_call 35; refine (awake36_any _).mono ?_; rintro e w1 ⟨rfl, hb⟩; have X1 := Lib.hid (X0.out.next hb); clear p0 p1 pa pb hz0; obtain ⟨hz0, p0, p1, pa, pb⟩ := X1.out.facts; clear hb)
      | (go_at_call 39; refine (valid36_b _ 19 A m c es _ (by omega) (by omega) (H0.out.keep X1.out.keeps) HV19.out).mono ?_; rintro e w2 ⟨rfl, hb⟩; have X2 := Lib.hid (X1.out.next hb); clear p0 p1 pa pb hz0; obtain ⟨hz0, p0, p1, pa, pb⟩ := X2.out.facts; clear hb)
      | fail)
    go_ret
    exact ⟨rfl, X2.out.below⟩
  have db : decide (bv < av) = false := decide_eq_false hab
  by_cases hbn : (n : Int) ≤ bv
  · have dn : decide ((n : Int) ≤ bv) = true := decide_eq_true hbn
    clear hbn
    go_enter Try.func11, Try.ntmps11
    go_wp2_with (first
      | (go_at_call 35; refine (awake36_any _).mono ?_; rintro e w1 ⟨rfl, hb⟩; have X1 := Lib.hid (X0.out.next hb); clear p0 p1 pa pb hz0; obtain ⟨hz0, p0, p1, pa, pb⟩ := X1.out.facts; clear hb)
      | (go_at_call 39; refine (valid36_b _ 19 A m c es _ (by omega) (by omega) (H0.out.keep X1.out.keeps) HV19.out).mono ?_; rintro e w2 ⟨rfl, hb⟩; have X2 := Lib.hid (X1.out.next hb); clear p0 p1 pa pb hz0; obtain ⟨hz0, p0, p1, pa, pb⟩ := X2.out.facts; clear hb)
      | fail)
    go_ret
    exact ⟨rfl, X2.out.below⟩
  have dn : decide ((n : Int) ≤ bv) = false := decide_eq_false hbn
  obtain ⟨a, rfl⟩ : ∃ a : Nat, av = a := ⟨av.toNat, by omega⟩
  obtain ⟨b, rfl⟩ : ∃ b : Nat, bv = b := ⟨bv.toNat, by omega⟩
  have hab' : a ≤ b := by omega
  have hbn' : b < n := by omega
  clear ha0 hab hbn
  have GK := Lib.hid (fun k => grK_len (n := n) (a := a) (b := b) (es := es) k)
  have GE := Lib.hid (grE_ok (a := a) (b := b) (es := es) (by omega) hab' hbn' HV.out)
  go_enter Try.func11, Try.ntmps11
  go_upto_region 8 with (first
    | (go_at_call 35; refine (awake36_any _).mono ?_; rintro e w1 ⟨rfl, hb⟩; have X1 := Lib.hid (X0.out.next hb); clear p0 p1 pa pb hz0; obtain ⟨hz0, p0, p1, pa, pb⟩ := X1.out.facts; clear hb)
    | (go_at_call 39; refine (valid36_b _ 19 A m c es _ (by omega) (by omega) (H0.out.keep X1.out.keeps) HV19.out).mono ?_; rintro e w2 ⟨rfl, hb⟩; have X2 := Lib.hid (X1.out.next hb); clear p0 p1 pa pb hz0; obtain ⟨hz0, p0, p1, pa, pb⟩ := X2.out.facts; clear hb)
    | (go_at_call 38; refine (own36_any n A m c es _ (by omega) (H0.out.keep X2.out.keeps)).mono ?_; rintro e w3 ⟨hb, B3, d3, rfl, hr⟩; have X3 := Lib.hid (X2.out.next hb); have R3 := Lib.hid hr; clear p0 p1 pa pb hz0; obtain ⟨hz0, p0, p1, pa, pb⟩ := X3.out.facts; clear hb hr)
    | (go_at_call 37; refine (clusters_any n B3 m d3 es _ (by omega) R3.out HV.out).mono ?_; rintro e w4 ⟨hb, C4, n4, c4, ls, rfl, hl, ho⟩; have X4 := Lib.hid (X3.out.next hb); have hz34 := hb.size; have L4 := Lib.hid hl; have O4 := Lib.hid ho; clear p0 p1 pa pb hz0; obtain ⟨hz0, p0, p1, pa, pb⟩ := X4.out.facts; clear hb hl ho)
    | (go_at_call 38; refine (own36_any n A m c es _ (by omega) (H0.out.keep X4.out.keeps)).mono ?_; rintro e w6 ⟨hb, B6, d6, rfl, hr⟩; have X6 := Lib.hid (X4.out.next hb); have B46 := Lib.hid hb; clear p0 p1 pa pb hz0; obtain ⟨hz0, p0, p1, pa, pb⟩ := X6.out.facts; clear hb hr)
    | fail)
  go_cut [9] (fun t wx => t = .pointer (some ⟨w6.heap.size + 1, 0, none⟩) ∧ HBg wx w6.heap.size n B6 m d6 ∧ EBx wx (w6.heap.size + 1) [] none 0 0 ∧ Below w6.heap.size w6 wx)
  case first =>
    go_wp2_with fail
    go_meet
    refine ⟨rfl, ⟨by simp, by simp, by simp⟩, ⟨by simp, by simp, by simp, Own.nil _ _ _ _⟩, ?_⟩
    first
      | exact ((Below.refl _ _).alloc (Nat.le_refl _) _).alloc (by simp) _
      | exact (((Below.refl _ _).alloc (Nat.le_refl _) _).setCell (by simp) _).alloc (by simp) _
  case rest =>
    obtain ⟨rfl, hHB, hEB, hbx⟩ := hcut
    rename World => wx
    have K4x := Lib.hid (B46.out.trans (hbx.mono B46.out.size))
    have hz46 := B46.out.size
    have XX := Lib.hid (X6.out.next hbx)
    have HBx := Lib.hid hHB
    have hcap4 := O4.out.cap
    have hlx := hEB.lt
    have EB0 : Hid (EB wx (w6.heap.size + 1) (grK n a b es 0)) := Lib.hid ⟨none, 0, 0, hEB⟩
    clear hHB hEB hbx
    clear p0 p1 pa pb
    generalize hhb : w6.heap.size = hb at *
    have GZx : Hid (∀ wr, Below (hb + 1) wx wr → GZ w n A m c a b wr) := Lib.hid fun wr h => Below.trans XX.out (h.mono (by omega))
    clear hhb
    obtain ⟨-, p0, p1, pa, pb⟩ := XX.out.facts
    go_wp2_with fail
    go_loopg [50] m (fun gg t wr => ∃ k : Nat, k ≤ m ∧ gg = m - k ∧ t = .int .i64 k ∧ EB wr (hb + 1) (grK n a b es k) ∧ Below (hb + 1) wx wr)
    case atStart => exact ⟨0, Nat.zero_le _, rfl, rfl, EB0.out, Below.refl _ _⟩
    case round =>
      obtain ⟨k, hk, rfl, rfl, he, hb9⟩ := hrel
      have BR := Lib.hid hb9
      have hzr := hb9.size
      have XR := Lib.hid (GZx.out wr hb9)
      have HBr := Lib.hid (HBx.out.later (by omega : hb < hb + 1) hb9)
      clear hb9
      clear p0 p1 pa pb
      obtain ⟨hz9, p0, p1, pa, pb⟩ := XR.out.facts
      have LG := GK.out k
      have hgk := Lib.hid (show grK n a b es (k + 1) = dn2 n a b (es.getD k (0, 0)).1 (grK n a b es k) ++ [es.getD k (0, 0)] from rfl)
      have hge := Lib.hid (show grE n a b es = dn2 n a b (n : Int) (grK n a b es es.length) from rfl)
      obtain ⟨B, l, cB, hx9⟩ := he
      have hBlt : ∀ q, blk B = some q → q < wr.heap.size := fun q hq => (hx9.ow.lt hq).2
      by_cases hkm : k < m
      · obtain ⟨ad, rfl, c0, c1⟩ := (H0.out.keep XR.out.keeps).prs_at hkm
        generalize es.getD k (0, 0) = xy at *
        obtain ⟨x, y⟩ := xy
        simp only at c0 c1
        generalize grK n a b es k = M at *
        have hlen2 := dn2_len (n := n) (a := a) (b := b) (lim := x) (L := M)
        have EX := Lib.hid (hx9.later ((Below.refl _ _).alloc (Nat.le_refl _) (.cells #[.int .i64 x, .int .i64 y] 42)))
        have DN : Hid (Calls Try.prog 48 #[.int .i64 x, .pointer (some ⟨w.heap.size + 1, 0, none⟩), .pointer (some ⟨w.heap.size + 1 + 1, 0, none⟩), .pointer (some ⟨hb + 1, 0, none⟩), .pointer (some ⟨w.heap.size, 0, none⟩)] (wr.alloc (.cells #[.int .i64 x, .int .i64 y] 42)) (DonePost (wr.alloc (.cells #[.int .i64 x, .int .i64 y] 42)) B (hb + 1) n a b x M)) :=
          Lib.hid (done_any n a b (w.heap.size + 1) (w.heap.size + 1 + 1) w.heap.size (hb + 1) l cB B x M _ (by omega) (by omega) (by omega) (by omega) (Keeps.alloc _ _ _ _ pa) (Keeps.alloc _ _ _ _ pb) (Keeps.alloc _ _ _ _ p0) EX.out)
        have hnB : blk B ≠ some wr.heap.size := fun e => by have := hBlt _ e; omega
        have hne : wr.heap.size ≠ hb + 1 := by omega
        have BW1 : Hid (Below (hb + 1) wx (wr.alloc (.cells #[.int .i64 x, .int .i64 y] 42))) := Lib.hid (BR.out.alloc (by omega) _)
        clear hx9 hBlt
        go_wp2_with (first
          | (go_at_call 48; refine DN.out.mono ?_; rintro e w7 ⟨rfl, hb7, ⟨B7, l7, c7, h7⟩, hk7⟩; have ce7 := h7.c0; have fe7 := h7.fz; have hl7 := h7.lt; have O7 := Lib.hid h7.ow; have hpl7 := h7.ow.plen; have x7 := hk7 ⟨wr.heap.size, 0, none⟩ _ hne hnB (cell_at rfl _ _ 0 rfl); have y7 := hk7 ⟨wr.heap.size, 1, none⟩ _ hne hnB (cell_at rfl _ _ 1 rfl); have BW7 := Lib.hid (BW1.out.trans hb7); have hz7 := BW7.out.size; have n7 := World.new_ne w7 _ x7; clear hb7 h7 hk7)
          | (at_builtin; refine wpList_app _ rfl (.tmp 58) (.tmp 60) 22 rfl (hb + 1 + 1) 42 (.agg #[.int .i64 0, .int .i64 0]) 2 16 Try.underlying22 info_pair rfl (by decide) B7 l7 c7 (prs (dn2 n a b x M)) rfl (O7.out.alloc _) (some ⟨w7.heap.size, 0, none⟩) 1 1 (prs [(x, y)]) rfl (rd_lit2_at rfl [(x, y)] _) (prs_one _) (by omega) (by unfold maxLen; omega) (by simp; omega) ?_; intro D8 c8 w8 ho8 hg8 hb8; have O8 : Hid (Own w8 (hb + 1 + 1) 42 2 D8 (l7 + 1) c8 (prs (dn2 n a b x M ++ [(x, y)]))) := Lib.hid (by rw [prs_app]; exact ho8); have BW8 : Hid (Below (hb + 1 + 1) w7 w8) := Lib.hid (((Below.refl _ _).alloc (by omega) _).grown hg8 (by simp; omega) (fun k hk => (O7.out.lt hk).1)); have hz8 := BW8.out.size; have ce8 : w8.cell? ⟨hb + 1, 0, none⟩ = some (.slice B7 l7 c7) := (by rw [BW8.out.cell (by simp)]; exact ce7); have fe8 : w8.frozen? ⟨hb + 1, 0, none⟩ = false := (by rw [BW8.out.frozen (by simp)]; exact fe7); clear ho8 hg8 hb8)
          | fail)
        go_roundg (m - (k + 1))
        case measure => omega
        case rel => exact ⟨k + 1, by omega, rfl, by go_num, by rw [hgk.out]; exact ⟨D8, l7 + 1, c8, World.cell?_setCell_same _ _ _ ce8, by simp; exact fe8, by simp; omega, Own.setOther' O8.out (by simp) _⟩, (BW7.out.trans (BW8.out.mono (by omega))).setCell (by simp) _⟩
      · obtain rfl : k = m := by omega
        rw [HE.out] at hge
        generalize grK n a b es k = M at *
        have hlen2 := dn2_len (n := n) (a := a) (b := b) (lim := (n : Int)) (L := M)
        have DN : Hid (Calls Try.prog 48 #[.int .i64 (n : Int), .pointer (some ⟨w.heap.size + 1, 0, none⟩), .pointer (some ⟨w.heap.size + 1 + 1, 0, none⟩), .pointer (some ⟨hb + 1, 0, none⟩), .pointer (some ⟨w.heap.size, 0, none⟩)] wr (DonePost wr B (hb + 1) n a b n M)) :=
          Lib.hid (done_any n a b (w.heap.size + 1) (w.heap.size + 1 + 1) w.heap.size (hb + 1) l cB B n M _ (by omega) (by omega) (by omega) (by omega) pa pb p0 hx9)
        clear hx9 hBlt
        have GE2 := GE.out
        rw [hge.out] at GE2
        have GE3 := Lib.hid GE2
        clear GE2
        go_upto_region 20 with (first
          | (go_at_call 48; refine DN.out.mono ?_; rintro e w7 ⟨rfl, hb7, ⟨B7, l7, c7, h7⟩, hk7⟩; have ce7 := h7.c0; have BW7 := Lib.hid (BR.out.trans hb7); have HB7 := Lib.hid (HBx.out.later (by omega : hb < hb + 1) (BR.out.trans hb7)); have q1 := HB7.out.c1; have q2 := HB7.out.f1; have O7 := Lib.hid h7.ow; have hpl7 := h7.ow.plen; clear hb7 h7 hk7)
          | fail)
        have Q9 : Hid (HBg (w7.setCell ⟨hb, 1, none⟩ (.slice B7 l7 c7)) hb n B7 l7 c7 ∧ Rd (w7.setCell ⟨hb, 1, none⟩ (.slice B7 l7 c7)) 2 B7 l7 (prs (dn2 n a b (n : Int) M)) ∧ Below hb wx (w7.setCell ⟨hb, 1, none⟩ (.slice B7 l7 c7))) := Lib.hid
          ⟨⟨by rw [World.cell?_setCell_other _ _ _ _ (by simp)]; exact HB7.out.c0, World.cell?_setCell_same _ _ _ q1, by simp; exact q2⟩, (Own.setOther' O7.out (by simp; omega) _).rd, (BW7.out.mono (by omega)).setCell (by simp) _⟩
        generalize w7.setCell ⟨hb, 1, none⟩ (.slice B7 l7 c7) = W9 at *
        have HB9 := Lib.hid Q9.out.1
        have RE9 := Lib.hid Q9.out.2.1
        have BX9 := Lib.hid Q9.out.2.2
        have X9 : Hid (GZ w n A k c a b W9) := Lib.hid (Below.trans XX.out (BX9.out.mono (by omega)))
        have B49 : Hid (Below w4.heap.size w4 W9) := Lib.hid (K4x.out.trans (BX9.out.mono (by omega)))
        have O9 := Lib.hid (O4.out.later B49.out)
        have HN4 : Hid (ls.length = n4) := Lib.hid O4.out.rd.1
        have hn4 : n4 ≤ 400 := by have := clu_len' L4.out; rw [HN4.out, HE.out] at this; omega
        have LX : Hid (∀ i, i < n4 → (ls.getD i []).length ≤ 20) := Lib.hid fun i hi => by
          obtain ⟨e, -, heq⟩ := (L4.out.mem (ls.getD i [])).1 (by rw [List.getD_eq_getElem?_getD, List.getElem?_eq_getElem (by rw [HN4.out]; exact hi)]; exact List.getElem_mem _)
          rw [heq]
          have := clU_len (es := es) (u := e.1.toNat) (v := e.2.toNat) (p := n)
          show (clU es e.1.toNat e.2.toNat n).length ≤ 20
          omega
        have hl7 : l7 ≤ 2000 := by omega
        clear Q9 q1 q2 ce7 p0 p1 pa pb hz9 BW7 HB7 O7 hpl7 DN
        obtain ⟨hz9, p0, p1, pa, pb⟩ := X9.out.facts
        have hz99 := BX9.out.size
        generalize hge9 : dn2 n a b (n : Int) M = ge at *
        go_wp2_with fail
        go_loopg [13, 14, 71] n4 (fun gg o gr t wr => ∃ (i : Nat) (D : Option Addr) (cD : Nat) (zs : List Zr) (gb : Bool), i ≤ n4 ∧ gg = n4 - i ∧ t = .int .i64 i ∧ o = .slice D i cD ∧ gr = .bool gb ∧ (ls.take i).any (bothL a b) = gb ∧ Own wr W9.heap.size 27 1 D i cD (hdz zs) ∧ RowsO wr w3.heap.size zs ∧ lsz zs = (ls.take i).map (growC n a b) ∧ Below W9.heap.size W9 wr)
        case atStart => exact ⟨0, none, 0, [], false, Nat.zero_le _, rfl, rfl, rfl, rfl, rfl, Own.nil _ _ _ _, (fun z hz => nomatch hz), rfl, Below.refl _ _⟩
        case round =>
          obtain ⟨i, D, cD, zs, gb, hi, rfl, rfl, rfl, rfl, hgb, hod, hro, hls, hbr⟩ := hrel
          have GB := Lib.hid hgb
          have OD := Lib.hid hod
          have RO := Lib.hid hro
          have LS := Lib.hid hls
          have BR9 := Lib.hid hbr
          have hzr9 := hbr.size
          have XR9 := Lib.hid (X9.out.next hbr)
          have HR9 := Lib.hid (HB9.out.later (by omega : hb < W9.heap.size) hbr)
          have RE := Lib.hid (RE9.out.keep (Keeps.of_below hbr (Nat.le_refl _)))
          have OC := Lib.hid (O9.out.later hbr)
          clear hgb hod hro hls hbr p0 p1 pa pb hz9
          obtain ⟨hz9, p0, p1, pa, pb⟩ := XR9.out.facts
          by_cases hin : i < n4
          · obtain ⟨ad, A1, e1, hC4, d0, rr⟩ := OC.out.at_own hin
            have hx20 := LX.out i hin
            have T1 : Hid (ls.take (i + 1) = ls.take i ++ [ls.getD i []]) := Lib.hid (take_snoc HN4.out hin rfl)
            generalize hxx : ls.getD i [] = x at d0 rr hx20 T1
            generalize hlx : x.length = lx at *
            have HLX := Lib.hid hlx
            have OX := Lib.hid rr
            have RX := Lib.hid rr.rd
            clear hxx hlx rr
            subst hC4
            have LS2 : Hid ((ls.take (i + 1)).map (growC n a b) = lsz zs ++ [growC n a b x]) := Lib.hid (by rw [T1.out, List.map_append, LS.out]; rfl)
            have GB2 : Hid ((ls.take (i + 1)).any (bothL a b) = (gb || bothL a b x)) := Lib.hid (by rw [T1.out, List.any_append, GB.out]; simp)
            have HA : Hid (∀ (y : Int) (bb : Bool), decide (y ∈ x) = bb → ∀ W, Rd W 1 A1 lx (ints x) → Calls Try.prog 50 #[.slice A1 lx e1, .int .i64 y] W fun e w'' => e = .returned (.bool bb) ∧ W = w'') := Lib.hid fun y bb hbb W h => has36_b A1 lx e1 x y W (by omega) h hbb
            have BD : Hid (∀ b1 b2 b3, decide (a < b) = b1 → decide ((a : Int) ∈ x) = b2 → decide ((b : Int) ∈ x) = b3 → bothL a b x = (b1 && (b2 && b3))) := Lib.hid fun _ _ _ h1 h2 h3 => by unfold bothL; rw [h1, h2, h3]
            go_upto_region 23 with fail
            go_cut [87] (fun t wx => t = .bool (bothL a b x) ∧ wr = wx)
            case first =>
              cases h1 : decide (a < b)
              · have hlt : decide ((a : Int) < (b : Int)) = false := by simp at h1 ⊢; omega
                have hltN : decide (a < b) = false := h1
                have BV := Lib.hid (BD.out _ _ _ h1 rfl rfl)
                clear h1
                go_wp2_with fail
                go_meet
                exact ⟨by rw [BV.out]; rfl, rfl⟩
              · have hlt : decide ((a : Int) < (b : Int)) = true := by simp at h1 ⊢; omega
                have hltN : decide (a < b) = true := h1
                cases h2 : decide ((a : Int) ∈ x)
                · have H2 := Lib.hid h2
                  have BV := Lib.hid (BD.out _ _ _ h1 h2 rfl)
                  clear h1 h2
                  go_wp2_with (first
                    | (go_at_call 50; (with_reducible refine (HA.out (a : Int) _ H2.out _ RX.out).mono ?_); rintro e w9 ⟨rfl, rfl⟩)
                    | fail)
                  go_meet
                  exact ⟨by rw [BV.out]; rfl, rfl⟩
                · cases h3 : decide ((b : Int) ∈ x)
                  all_goals
                    have H2 := Lib.hid h2
                    have H3 := Lib.hid h3
                    have BV := Lib.hid (BD.out _ _ _ h1 h2 h3)
                    clear h1 h2 h3
                    go_wp2_with (first
                      | (go_at_call 50; (with_reducible refine (HA.out (a : Int) _ H2.out _ RX.out).mono ?_); rintro e w9 ⟨rfl, rfl⟩)
                      | (go_at_call 50; (with_reducible refine (HA.out (b : Int) _ H3.out _ RX.out).mono ?_); rintro e w9 ⟨rfl, rfl⟩)
                      | fail)
                    go_meet
                    exact ⟨by rw [BV.out]; rfl, rfl⟩
            case rest =>
              obtain ⟨rfl, rfl⟩ := hcut
              cases hbo : bothL a b x
              · have GC : Hid (growC n a b x = x) := Lib.hid (by unfold growC; rw [hbo]; rfl)
                have GB3 : Hid ((ls.take (i + 1)).any (bothL a b) = gb) := Lib.hid (by rw [GB2.out, hbo, Bool.or_false])
                clear hbo
                go_wp2_with (first
                  | (at_builtin; refine wpList_app _ rfl (.tmp 95) (.tmp 97) 47 rfl W9.heap.size 27 (.slice none 0 0) 1 24 Try.underlying47 info_ints rfl (by decide) D i cD (hdz zs) rfl (OD.out.alloc _) (some ⟨wr.heap.size, 0, none⟩) 1 1 [.slice A1 lx e1] rfl (rd_new _ 1 1 [.slice A1 lx e1] _ rfl) head_one (by omega) (by unfold maxLen; omega) (by simp; omega) ?_; intro D8 c8 w8 ho8 hg8 hb8; have PU := Lib.hid (push_row OD.out RO.out OX.out HLX.out ho8 hg8); have B8 : Hid (Below W9.heap.size W9 w8) := Lib.hid ((BR9.out.alloc hzr9 _).grown hg8 (by simp; omega) (fun k hk => (OD.out.lt hk).1)); clear ho8 hg8 hb8)
                  | fail)
                go_roundg (n4 - (i + 1))
                case measure => omega
                case rel => exact ⟨i + 1, D8, c8, zs ++ [((A1, e1), x)], gb, by omega, rfl, by go_num, rfl, rfl, GB3.out, PU.out.1, PU.out.2, by rw [lsz_app, LS2.out, GC.out], B8.out⟩
              · have GC : Hid (growC n a b x = x ++ [(n : Int)]) := Lib.hid (by unfold growC; rw [hbo]; rfl)
                have GB3 : Hid ((ls.take (i + 1)).any (bothL a b) = true) := Lib.hid (by rw [GB2.out, hbo, Bool.or_true])
                clear hbo
                have p0r := p0
                have p1r := p1
                have n1 := World.new_ne wr _ p0
                go_upto_region 24 with fail
                go_cut [16] (fun t wx => ∃ D7 c7', t = .slice D7 (lx + 1) c7' ∧ Own wx wr.heap.size 3 1 D7 (lx + 1) c7' (ints (x ++ [(n : Int)])) ∧ Below wr.heap.size wr wx)
                case first =>
                  go_region_held3 (fun w' => w'.cell? ⟨w.heap.size, 0, none⟩ = some (.int .i64 (n : Int)) ∧ w'.cell? ⟨w.heap.size, 1, none⟩ = some (.slice A k c)) (first | exact ⟨p0, p1⟩ | go_keep)
                    ((first
                      | (refine step_app _ rfl (.tmp 88) (.tmp 89) 27 rfl wr.heap.size 3 (.int .i64 0) 1 8 Try.underlying27 info_int' rfl (by decide) (some ⟨wr.heap.size, 0, none⟩) 0 0 [] (by simp [Act.eval, Act.put]) (own_empty_at (w := wr.drew) rfl 3 1) A1 lx e1 (ints x) (by simp [Act.eval, Act.put]) (by first | exact Rd.drew' (rd_new1 RX.out _) | exact rd_new1 (w := wr.drew) RX.out _ | fail) (ints_one _) (by omega) (by unfold maxLen; omega) (by first | omega | (simp; done) | (simp; omega)) ?_; intro A3 c3 w5 ho3 hg3 hb3; simp only [Nat.zero_add, List.nil_append] at ho3; have O3 := Lib.hid ho3; have BL3 : Hid (Below wr.heap.size wr w5) := Lib.hid (((Below.refl _ _).drew.alloc (by simp) (.cells #[] 3)).grown hg3 (by simp) (fun k hk => by simp [blk] at hk; omega)); have kk3 := Keeps.of_below BL3.out (Nat.le_refl _); have p0 := kk3 _ _ p0; have p1 := kk3 _ _ p1; have n1 := World.new_ne w5 _ p0; have hz3 := BL3.out.size; clear kk3; clear ho3 hg3 hb3)
                      | (refine step_app _ rfl (.tmp 88) (.tmp 89) 27 rfl wr.heap.size 3 (.int .i64 0) 1 8 Try.underlying27 info_int' rfl (by decide) (some ⟨wr.heap.size, 0, none⟩) 0 0 [] (by simp [Act.eval, Act.put]) (Own.alloc (own_empty_at (w := wr.drew) rfl 3 1) (.cells #[.int .i64 (n : Int)] 3)) A1 lx e1 (ints x) (by simp [Act.eval, Act.put]) (by first | exact Rd.drew' (rd_new1 (rd_new1 RX.out _) _) | exact rd_new1 (rd_new1 (w := wr.drew) RX.out _) _ | fail) (ints_one _) (by omega) (by unfold maxLen; omega) (by first | omega | (simp; done) | (simp; omega)) ?_; intro A3 c3 w5 ho3 hg3 hb3; simp only [Nat.zero_add, List.nil_append] at ho3; have O3 := Lib.hid ho3; have BL3 : Hid (Below wr.heap.size wr w5) := Lib.hid ((((Below.refl _ _).drew.alloc (by simp) (.cells #[] 3)).alloc (by simp) (.cells #[.int .i64 (n : Int)] 3)).grown hg3 (by first | omega | (simp; done) | (simp; omega)) (fun k hk => by simp [blk] at hk; omega)); have LIT : Hid (Rd w5 1 (some ⟨wr.heap.size + 1, 0, none⟩) 1 (ints [(n : Int)])) := Lib.hid (rd_grow1 (rd_lit_at (w := wr.drew.alloc (.cells #[] 3)) (by simp) [(n : Int)] _) hg3 (by first | (simp [blk]; done) | (simp [blk]; omega))); have kk3 := Keeps.of_below BL3.out (Nat.le_refl _); have p0 := kk3 _ _ p0; have p1 := kk3 _ _ p1; have n1 := World.new_ne w5 _ p0; have hz3 := BL3.out.size; clear kk3; clear ho3 hg3 hb3)
                      | (refine step_app _ rfl (.tmp 88) (.tmp 89) 27 rfl wr.heap.size 3 (.int .i64 0) 1 8 Try.underlying27 info_int' rfl (by decide) (some ⟨wr.heap.size + 1, 0, none⟩) 0 0 [] (by simp [Act.eval, Act.put]) (Own.base_le (own_empty_at (w := wr.drew.alloc (.cells #[.int .i64 (n : Int)] 3)) (b := wr.heap.size + 1) (by simp) 3 1) (by omega)) A1 lx e1 (ints x) (by simp [Act.eval, Act.put]) (by first | exact Rd.drew' (rd_new1 (rd_new1 RX.out _) _) | exact rd_new1 (rd_new1 (w := wr.drew) RX.out _) _ | fail) (ints_one _) (by omega) (by unfold maxLen; omega) (by first | omega | (simp; done) | (simp; omega)) ?_; intro A3 c3 w5 ho3 hg3 hb3; simp only [Nat.zero_add, List.nil_append] at ho3; have O3 := Lib.hid ho3; have BL3 : Hid (Below wr.heap.size wr w5) := Lib.hid ((((Below.refl _ _).drew.alloc (by simp) (.cells #[.int .i64 (n : Int)] 3)).alloc (by simp) (.cells #[] 3)).grown hg3 (by first | omega | (simp; done) | (simp; omega)) (fun k hk => by simp [blk] at hk; omega)); have LIT : Hid (Rd w5 1 (some ⟨wr.heap.size, 0, none⟩) 1 (ints [(n : Int)])) := Lib.hid (rd_grow1 (rd_new1 (rd_lit_at (w := wr.drew) rfl [(n : Int)] _) _) hg3 (by first | (simp [blk]; done) | (simp [blk]; omega))); have kk3 := Keeps.of_below BL3.out (Nat.le_refl _); have p0 := kk3 _ _ p0; have p1 := kk3 _ _ p1; have n1 := World.new_ne w5 _ p0; have hz3 := BL3.out.size; clear kk3; clear ho3 hg3 hb3)
                      | (refine step_app _ rfl (.tmp 90) (.tmp 93) 27 rfl wr.heap.size 3 (.int .i64 0) 1 8 Try.underlying27 info_int' rfl (by decide) A3 lx c3 (ints x) (by simp [Act.eval, Act.put]) (O3.out.alloc _) (some ⟨w5.heap.size, 0, none⟩) 1 1 (ints [(n : Int)]) (by simp [Act.eval, Act.put]) (rd_lit_at rfl [(n : Int)] _) (ints_one _) (by omega) (by unfold maxLen; omega) (by first | omega | (simp; done) | (simp; omega)) ?_; intro A4 c4' w6' ho4 hg4 hb4; have O4' : Hid (Own w6' wr.heap.size 3 1 A4 (lx + 1) c4' (ints (x ++ [(n : Int)]))) := Lib.hid (by rw [ints_app]; exact ho4); have BL4 : Hid (Below wr.heap.size wr w6') := Lib.hid ((BL3.out.alloc BL3.out.size _).grown hg4 (by first | omega | (simp; done) | (simp; omega)) (fun k hk => (O3.out.lt hk).1)); have kk4 := Keeps.of_below BL4.out (Nat.le_refl _); have p0 := kk4 _ _ p0r; have p1 := kk4 _ _ p1r; clear ho4 hg4 hb4 kk4)
                      | (refine step_app _ rfl (.tmp 90) (.tmp 93) 27 rfl wr.heap.size 3 (.int .i64 0) 1 8 Try.underlying27 info_int' rfl (by decide) A3 lx c3 (ints x) (by simp [Act.eval, Act.put]) O3.out (some ⟨wr.heap.size + 1, 0, none⟩) 1 1 (ints [(n : Int)]) (by simp [Act.eval, Act.put]) LIT.out (ints_one _) (by omega) (by unfold maxLen; omega) (by first | omega | (simp; done) | (simp; omega)) ?_; intro A4 c4' w6' ho4 hg4 hb4; have O4' : Hid (Own w6' wr.heap.size 3 1 A4 (lx + 1) c4' (ints (x ++ [(n : Int)]))) := Lib.hid (by rw [ints_app]; exact ho4); have BL4 : Hid (Below wr.heap.size wr w6') := Lib.hid (BL3.out.grown hg4 (by first | omega | (simp; done) | (simp; omega)) (fun k hk => (O3.out.lt hk).1)); have kk4 := Keeps.of_below BL4.out (Nat.le_refl _); have p0 := kk4 _ _ p0r; have p1 := kk4 _ _ p1r; clear ho4 hg4 hb4 kk4)
                      | (refine step_app _ rfl (.tmp 90) (.tmp 93) 27 rfl wr.heap.size 3 (.int .i64 0) 1 8 Try.underlying27 info_int' rfl (by decide) A3 lx c3 (ints x) (by simp [Act.eval, Act.put]) O3.out (some ⟨wr.heap.size, 0, none⟩) 1 1 (ints [(n : Int)]) (by simp [Act.eval, Act.put]) LIT.out (ints_one _) (by omega) (by unfold maxLen; omega) (by first | omega | (simp; done) | (simp; omega)) ?_; intro A4 c4' w6' ho4 hg4 hb4; have O4' : Hid (Own w6' wr.heap.size 3 1 A4 (lx + 1) c4' (ints (x ++ [(n : Int)]))) := Lib.hid (by rw [ints_app]; exact ho4); have BL4 : Hid (Below wr.heap.size wr w6') := Lib.hid (BL3.out.grown hg4 (by first | omega | (simp; done) | (simp; omega)) (fun k hk => (O3.out.lt hk).1)); have kk4 := Keeps.of_below BL4.out (Nat.le_refl _); have p0 := kk4 _ _ p0r; have p1 := kk4 _ _ p1r; clear ho4 hg4 hb4 kk4)
                      | fail))
                  all_goals
                   go_wp2_with fail
                   go_meet
                   exact ⟨A4, c4', rfl, O4'.out, BL4.out⟩
                case rest =>
                  obtain ⟨D7, c7', rfl, ho7, hb7⟩ := hcut
                  rename World => wz
                  have OX7 := Lib.hid (ho7.base_le (show w3.heap.size ≤ wr.heap.size by have := B49.out.size; omega))
                  have OD7 := Lib.hid (OD.out.later hb7)
                  have RO7 := Lib.hid (RO.out.later hb7)
                  have BR7 := Lib.hid (BR9.out.trans (hb7.mono hzr9))
                  have hz7 := hb7.size
                  have HL7 : Hid ((x ++ [(n : Int)]).length = lx + 1) := Lib.hid (by rw [List.length_append, HLX.out]; rfl)
                  clear ho7 hb7
                  go_wp2_with (first
                    | (at_builtin; refine wpList_app _ rfl (.tmp 95) (.tmp 97) 47 rfl W9.heap.size 27 (.slice none 0 0) 1 24 Try.underlying47 info_ints rfl (by decide) D i cD (hdz zs) rfl (OD7.out.alloc _) (some ⟨wz.heap.size, 0, none⟩) 1 1 [.slice D7 (lx + 1) c7'] rfl (rd_new _ 1 1 [.slice D7 (lx + 1) c7'] _ rfl) head_one (by omega) (by unfold maxLen; omega) (by simp; omega) ?_; intro D8 c8 w8 ho8 hg8 hb8; have PU := Lib.hid (push_row OD7.out RO7.out OX7.out HL7.out ho8 hg8); have B8 : Hid (Below W9.heap.size W9 w8) := Lib.hid ((BR7.out.alloc (by omega) _).grown hg8 (by simp; omega) (fun k hk => (OD7.out.lt hk).1)); clear ho8 hg8 hb8)
                    | fail)
                  go_roundg (n4 - (i + 1))
                  case measure => omega
                  case rel => exact ⟨i + 1, D8, c8, zs ++ [((D7, c7'), x ++ [(n : Int)])], true, by omega, rfl, by go_num, rfl, rfl, GB3.out, PU.out.1, PU.out.2, by rw [lsz_app, LS2.out, GC.out], B8.out⟩
          · obtain rfl : i = n4 := by omega
            have e0 : ls.take i = ls := List.take_of_length_le (by rw [HN4.out]; exact Nat.le_refl _)
            rw [e0] at GB LS
            clear e0
            have han : a < n := by omega
            have SG := Lib.hid (short_grow (a := a) (b := b) (by omega) han hbn' HV.out L4.out)
            have GRW : Hid (growW n a b ls = lsz zs ++ growX n a b gb) := Lib.hid (by unfold growW; rw [LS.out, GB.out])
            have VN : Hid (validB (((n + 1 : Nat)) : Int) ge = true) := Lib.hid GE3.out.1
            have CLH : Hid (∀ W, Rd W 2 B7 l7 (prs ge) → Calls Try.prog 37 #[.agg #[.int .i64 ((n : Int) + 1), .slice B7 l7 c7]] W (CluPost W (n + 1) ge)) := Lib.hid fun W h => by
              have := clusters_any (n + 1) B7 l7 c7 ge W (by omega) h VN.out
              have e9 : (((n + 1 : Nat)) : Int) = (n : Int) + 1 := by omega
              rw [e9] at this
              exact this
            have FINE : Hid (∀ ws ls2, CluL (n + 1) ge ls2 → ws.Perm (growW n a b ls) → SrtL ws → ws = ls2) := Lib.hid fun ws ls2 h2 hw hs => grow_eq (by omega) han hbn' HV.out L4.out VN.out GE3.out.2 h2 hw hs
            have SOR : Hid (∀ (D : Option Addr) (q cD : Nat) (zf : List Zr) W, q ≤ 1000 → Own W W9.heap.size 27 1 D q cD (hdz zf) → RowsO W w3.heap.size zf → lsz zf = growW n a b ls → Calls Try.prog 51 #[.slice D q cD] W (SortPost36 W q (growW n a b ls))) := Lib.hid fun D q cD zf W hq ho hro hls => by
              have := sorted36_any D q cD (lsz zf) W (by omega) (by rw [hls]; exact SG.out) (rdL_z ho.rd hro.rows)
              rw [hls] at this
              exact this
            have SMS : Hid (∀ ls2 (C C' : Option Addr) (x y cx cy : Nat) W, CluL (n + 1) ge ls2 → RdL W C x ls2 → RdL W C' y ls2 → Calls Try.prog 40 #[.slice C x cx, .slice C' y cy] W fun e w' => e = .returned (.bool true) ∧ Below W.heap.size W w') := Lib.hid fun ls2 C C' x y cx cy W h2 hx hy => by
              have SL := clu_smallG (by omega : n + 1 ≤ 20) VN.out h2 hx hy
              exact same36_b (b := true) C C' x cx y cy ls2 ls2 W (by omega) (by omega) SL.1 SL.1 hx hy (by simp)
            have q0 := HR9.out.c0
            have q1 := HR9.out.c1
            clear GE3 SG
            cases gb
            · have GX := Lib.hid (show growX n a b false = [(a : Int), (n : Int)] :: (if a < b then [[(b : Int), (n : Int)]] else []) from rfl)
              by_cases hltab : a < b
              · have hlt : decide ((a : Int) < (b : Int)) = true := decide_eq_true (by omega)
                have hltN : decide (a < b) = true := decide_eq_true hltab
                have GX2 : Hid (growW n a b ls = (lsz zs ++ [[(a : Int), (n : Int)]]) ++ [[(b : Int), (n : Int)]]) := Lib.hid (by rw [GRW.out, GX.out, if_pos hltab, List.append_assoc]; rfl)
                clear hltab
                go_wp2_with (first
                  | (at_builtin; refine wpList_app _ rfl (.tmp 102) (.tmp 107) 47 rfl W9.heap.size 27 (.slice none 0 0) 1 24 Try.underlying47 info_ints rfl (by decide) D i cD (hdz zs) rfl (((OD.out).alloc (.cells #[.int .i64 (a : Int), .int .i64 (n : Int)] 3)).alloc _) (some ⟨wr.heap.size + 1, 0, none⟩) 1 1 [.slice (some ⟨wr.heap.size, 0, none⟩) 2 2] rfl (by first | exact rd_new _ 1 1 [.slice (some ⟨wr.heap.size, 0, none⟩) 2 2] _ rfl | (have h9 := rd_new (wr.alloc (.cells #[.int .i64 (a : Int), .int .i64 (n : Int)] 3)) 1 1 [.slice (some ⟨wr.heap.size, 0, none⟩) 2 2] 27 rfl; simp only [World.heap_alloc, Array.size_push] at h9; exact h9) | (have h9 := rd_new (wr.alloc (.cells #[.int .i64 (a : Int), .int .i64 (n : Int)] 3)) 1 1 [.slice (some ⟨wr.heap.size, 0, none⟩) 2 2] 27 rfl; simpa using h9)) head_one (by omega) (by unfold maxLen; omega) (by simp; omega) ?_; intro DA cA wA ho hg hb9; have PUA := Lib.hid (push_row (b := w3.heap.size) ((OD.out).alloc (.cells #[.int .i64 (a : Int), .int .i64 (n : Int)] 3)) ((RO.out).later ((Below.refl _ _).alloc (Nat.le_refl _) (.cells #[.int .i64 (a : Int), .int .i64 (n : Int)] 3))) ((own_lit_at rfl 3 1 2 (ints [(a : Int), (n : Int)]) (by unfold maxLen; omega) rfl).base_le (show w3.heap.size ≤ wr.heap.size by have := B49.out.size; omega)) rfl ho hg); have BA : Hid (Below W9.heap.size W9 wA) := Lib.hid (((BR9.out.alloc hzr9 _).alloc (by simp; omega) _).grown hg (by simp; omega) (fun k hk => ((OD.out).lt hk).1)); have hzA := BA.out.size; have ODxA := Lib.hid PUA.out.1; have ROxA := Lib.hid PUA.out.2; have XA := Lib.hid (X9.out.next BA.out); have HA := Lib.hid (HB9.out.later (by omega : hb < W9.heap.size) BA.out); have q0 := HA.out.c0; have q1 := HA.out.c1; have pa := XA.out.facts.2.2.2.1; have pb := XA.out.facts.2.2.2.2; have p0 := XA.out.facts.2.1; have p1 := XA.out.facts.2.2.1; have REA := Lib.hid (RE9.out.keep (Keeps.of_below BA.out (Nat.le_refl _))); clear ho hg hb9)
                  | (at_builtin; refine wpList_app _ rfl (.tmp 112) (.tmp 117) 47 rfl W9.heap.size 27 (.slice none 0 0) 1 24 Try.underlying47 info_ints rfl (by decide) DA (i + 1) cA (hdz (zs ++ [((some ⟨wr.heap.size, 0, none⟩, 2), [(a : Int), (n : Int)])])) rfl (((ODxA.out).alloc (.cells #[.int .i64 (b : Int), .int .i64 (n : Int)] 3)).alloc _) (some ⟨wA.heap.size + 1, 0, none⟩) 1 1 [.slice (some ⟨wA.heap.size, 0, none⟩) 2 2] rfl (by first | exact rd_new _ 1 1 [.slice (some ⟨wA.heap.size, 0, none⟩) 2 2] _ rfl | (have h9 := rd_new (wA.alloc (.cells #[.int .i64 (b : Int), .int .i64 (n : Int)] 3)) 1 1 [.slice (some ⟨wA.heap.size, 0, none⟩) 2 2] 27 rfl; simp only [World.heap_alloc, Array.size_push] at h9; exact h9) | (have h9 := rd_new (wA.alloc (.cells #[.int .i64 (b : Int), .int .i64 (n : Int)] 3)) 1 1 [.slice (some ⟨wA.heap.size, 0, none⟩) 2 2] 27 rfl; simpa using h9)) head_one (by omega) (by unfold maxLen; omega) (by simp; omega) ?_; intro DB cB wB ho hg hb9; have PUB := Lib.hid (push_row (b := w3.heap.size) ((ODxA.out).alloc (.cells #[.int .i64 (b : Int), .int .i64 (n : Int)] 3)) ((ROxA.out).later ((Below.refl _ _).alloc (Nat.le_refl _) (.cells #[.int .i64 (b : Int), .int .i64 (n : Int)] 3))) ((own_lit_at rfl 3 1 2 (ints [(b : Int), (n : Int)]) (by unfold maxLen; omega) rfl).base_le (show w3.heap.size ≤ wA.heap.size by have := B49.out.size; omega)) rfl ho hg); have BB : Hid (Below W9.heap.size W9 wB) := Lib.hid (((BA.out.alloc hzA _).alloc (by simp; omega) _).grown hg (by simp; omega) (fun k hk => ((ODxA.out).lt hk).1)); have hzB := BB.out.size; have ODxB := Lib.hid PUB.out.1; have ROxB := Lib.hid PUB.out.2; have XB := Lib.hid (X9.out.next BB.out); have HB := Lib.hid (HB9.out.later (by omega : hb < W9.heap.size) BB.out); have q0 := HB.out.c0; have q1 := HB.out.c1; have pa := XB.out.facts.2.2.2.1; have pb := XB.out.facts.2.2.2.2; have p0 := XB.out.facts.2.1; have p1 := XB.out.facts.2.2.1; have REB := Lib.hid (RE9.out.keep (Keeps.of_below BB.out (Nat.le_refl _))); clear ho hg hb9)
                  | (go_at_call 37; refine (CLH.out _ REB.out).mono ?_; rintro e wC ⟨hb9, C9, n9, d9, ls9, rfl, hl9, ho9⟩; have L9 := Lib.hid hl9; have R9 := Lib.hid ho9.rd; have BC := Lib.hid (BB.out.trans (hb9.mono BB.out.size)); have ODC := Lib.hid (ODxB.out.later hb9); have ROC := Lib.hid (ROxB.out.later hb9); clear hb9 hl9 ho9)
                  | (go_at_call 51; refine (SOR.out DB (i + 1 + 1) cB ((zs ++ [((some ⟨wr.heap.size, 0, none⟩, 2), [(a : Int), (n : Int)])]) ++ [((some ⟨wA.heap.size, 0, none⟩, 2), [(b : Int), (n : Int)])]) _ (by omega) ODC.out ROC.out (by rw [lsz_app, lsz_app, GX2.out])).mono ?_; rintro e wD ⟨hb9, C10, d10, ms, rfl, hp9, hs9, hr9⟩; have EQ := Lib.hid (FINE.out ms ls9 L9.out hp9 hs9); have R10 := Lib.hid hr9; have R9D := Lib.hid (R9.out.keep (Keeps.of_below hb9 (Nat.le_refl _))); have BD9 := Lib.hid (BC.out.trans (hb9.mono BC.out.size)); clear hb9 hp9 hs9 hr9)
                  | (go_at_call 40; refine (SMS.out ls9 _ _ _ _ _ _ _ L9.out R9D.out (by rw [← EQ.out]; exact R10.out)).mono ?_; rintro e wE ⟨rfl, hb9⟩; have BE9 := Lib.hid (BD9.out.trans (hb9.mono BD9.out.size)); clear hb9)
                  | fail)
                go_ret
                exact ⟨rfl, (X9.out.next BE9.out).below⟩
              · have hlt : decide ((a : Int) < (b : Int)) = false := decide_eq_false (by omega)
                have hltN : decide (a < b) = false := decide_eq_false hltab
                have GX2 : Hid (growW n a b ls = lsz zs ++ [[(a : Int), (n : Int)]]) := Lib.hid (by rw [GRW.out, GX.out, if_neg hltab])
                clear hltab
                go_wp2_with (first
                  | (at_builtin; refine wpList_app _ rfl (.tmp 102) (.tmp 107) 47 rfl W9.heap.size 27 (.slice none 0 0) 1 24 Try.underlying47 info_ints rfl (by decide) D i cD (hdz zs) rfl (((OD.out).alloc (.cells #[.int .i64 (a : Int), .int .i64 (n : Int)] 3)).alloc _) (some ⟨wr.heap.size + 1, 0, none⟩) 1 1 [.slice (some ⟨wr.heap.size, 0, none⟩) 2 2] rfl (by first | exact rd_new _ 1 1 [.slice (some ⟨wr.heap.size, 0, none⟩) 2 2] _ rfl | (have h9 := rd_new (wr.alloc (.cells #[.int .i64 (a : Int), .int .i64 (n : Int)] 3)) 1 1 [.slice (some ⟨wr.heap.size, 0, none⟩) 2 2] 27 rfl; simp only [World.heap_alloc, Array.size_push] at h9; exact h9) | (have h9 := rd_new (wr.alloc (.cells #[.int .i64 (a : Int), .int .i64 (n : Int)] 3)) 1 1 [.slice (some ⟨wr.heap.size, 0, none⟩) 2 2] 27 rfl; simpa using h9)) head_one (by omega) (by unfold maxLen; omega) (by simp; omega) ?_; intro DA cA wA ho hg hb9; have PUA := Lib.hid (push_row (b := w3.heap.size) ((OD.out).alloc (.cells #[.int .i64 (a : Int), .int .i64 (n : Int)] 3)) ((RO.out).later ((Below.refl _ _).alloc (Nat.le_refl _) (.cells #[.int .i64 (a : Int), .int .i64 (n : Int)] 3))) ((own_lit_at rfl 3 1 2 (ints [(a : Int), (n : Int)]) (by unfold maxLen; omega) rfl).base_le (show w3.heap.size ≤ wr.heap.size by have := B49.out.size; omega)) rfl ho hg); have BA : Hid (Below W9.heap.size W9 wA) := Lib.hid (((BR9.out.alloc hzr9 _).alloc (by simp; omega) _).grown hg (by simp; omega) (fun k hk => ((OD.out).lt hk).1)); have hzA := BA.out.size; have ODxA := Lib.hid PUA.out.1; have ROxA := Lib.hid PUA.out.2; have XA := Lib.hid (X9.out.next BA.out); have HA := Lib.hid (HB9.out.later (by omega : hb < W9.heap.size) BA.out); have q0 := HA.out.c0; have q1 := HA.out.c1; have pa := XA.out.facts.2.2.2.1; have pb := XA.out.facts.2.2.2.2; have p0 := XA.out.facts.2.1; have p1 := XA.out.facts.2.2.1; have REA := Lib.hid (RE9.out.keep (Keeps.of_below BA.out (Nat.le_refl _))); clear ho hg hb9)
                  | (go_at_call 37; refine (CLH.out _ REA.out).mono ?_; rintro e wC ⟨hb9, C9, n9, d9, ls9, rfl, hl9, ho9⟩; have L9 := Lib.hid hl9; have R9 := Lib.hid ho9.rd; have BC := Lib.hid (BA.out.trans (hb9.mono BA.out.size)); have ODC := Lib.hid (ODxA.out.later hb9); have ROC := Lib.hid (ROxA.out.later hb9); clear hb9 hl9 ho9)
                  | (go_at_call 51; refine (SOR.out DA (i + 1) cA (zs ++ [((some ⟨wr.heap.size, 0, none⟩, 2), [(a : Int), (n : Int)])]) _ (by omega) ODC.out ROC.out (by rw [lsz_app, GX2.out])).mono ?_; rintro e wD ⟨hb9, C10, d10, ms, rfl, hp9, hs9, hr9⟩; have EQ := Lib.hid (FINE.out ms ls9 L9.out hp9 hs9); have R10 := Lib.hid hr9; have R9D := Lib.hid (R9.out.keep (Keeps.of_below hb9 (Nat.le_refl _))); have BD9 := Lib.hid (BC.out.trans (hb9.mono BC.out.size)); clear hb9 hp9 hs9 hr9)
                  | (go_at_call 40; refine (SMS.out ls9 _ _ _ _ _ _ _ L9.out R9D.out (by rw [← EQ.out]; exact R10.out)).mono ?_; rintro e wE ⟨rfl, hb9⟩; have BE9 := Lib.hid (BD9.out.trans (hb9.mono BD9.out.size)); clear hb9)
                  | fail)
                go_ret
                exact ⟨rfl, (X9.out.next BE9.out).below⟩
            · have GX2 : Hid (growW n a b ls = lsz zs) := Lib.hid (by rw [GRW.out]; unfold growX; simp)
              go_wp2_with (first
                | (go_at_call 37; refine (CLH.out _ RE.out).mono ?_; rintro e wC ⟨hb9, C9, n9, d9, ls9, rfl, hl9, ho9⟩; have L9 := Lib.hid hl9; have R9 := Lib.hid ho9.rd; have BC := Lib.hid (BR9.out.trans (hb9.mono BR9.out.size)); have ODC := Lib.hid (OD.out.later hb9); have ROC := Lib.hid (RO.out.later hb9); clear hb9 hl9 ho9)
                | (go_at_call 51; refine (SOR.out D i cD zs _ (by omega) ODC.out ROC.out (by rw [GX2.out])).mono ?_; rintro e wD ⟨hb9, C10, d10, ms, rfl, hp9, hs9, hr9⟩; have EQ := Lib.hid (FINE.out ms ls9 L9.out hp9 hs9); have R10 := Lib.hid hr9; have R9D := Lib.hid (R9.out.keep (Keeps.of_below hb9 (Nat.le_refl _))); have BD9 := Lib.hid (BC.out.trans (hb9.mono BC.out.size)); clear hb9 hp9 hs9 hr9)
                | (go_at_call 40; refine (SMS.out ls9 _ _ _ _ _ _ _ L9.out R9D.out (by rw [← EQ.out]; exact R10.out)).mono ?_; rintro e wE ⟨rfl, hb9⟩; have BE9 := Lib.hid (BD9.out.trans (hb9.mono BD9.out.size)); clear hb9)
                | fail)
              go_ret
              exact ⟨rfl, (X9.out.next BE9.out).below⟩
end Go.Proofs.Ytagcaljpgifppaa
