/-
  Contracts and lemmas for the statement, joined: G3, W2, G4, SpecB, SpecC.
-/
import Derived.Test.YtpdbekgkopglgaaGreatJ2
import Derived.Deep.DeepCutAuto
import Derived.Test.YtpdbekgkopglgaaGreatJ1
import Derived.Deep.OwnRows
namespace Go.Proofs.YtpdbekgkopglgaaGreat
set_option linter.unusedVariables false
set_option linter.unusedSimpArgs false
open Go.RowKit Go.Sort

def okP (N x y : Int) : Bool := decide (0 ≤ x) && decide (0 ≤ y) && decide (x < N) && decide (y < N) && !(x == y)
def okE (N : Int) (es : List (Int × Int)) : Bool := decide (0 ≤ N) && decide (N ≤ 60) && es.all fun e => okP N e.1 e.2
def mkE (N : Int) (es : List (Int × Int)) : Option (List (Int × Int)) := if okE N es then some (mkL N.toNat es) else none
theorem mkE_range {N : Int} {es : List (Int × Int)} (h : N < 0 ∨ 60 < N) : mkE N es = none := by
  have : okE N es = false := by
    unfold okE
    rcases h with h | h
    · rw [decide_eq_false (by omega : ¬ 0 ≤ N)]; rfl
    · rw [decide_eq_false (by omega : ¬ N ≤ 60)]; simp
  unfold mkE; rw [this]; rfl
theorem mkE_no {N : Int} {es : List (Int × Int)} {k : Nat} (hk : k < es.length) (x y : Int) (hxy : es.getD k (0, 0) = (x, y)) (h : okP N x y = false) : mkE N es = none := by
  have : okE N es = false := by
    unfold okE
    rw [Bool.and_eq_false_iff]
    right
    rw [List.all_eq_false]
    refine ⟨es.getD k (0, 0), ?_, by rw [hxy]; simp [h]⟩
    rw [List.getD_eq_getElem?_getD, List.getElem?_eq_getElem hk]; exact List.getElem_mem hk
  unfold mkE; rw [this]; rfl
theorem mkE_yes {n : Nat} {es : List (Int × Int)} (hn : n ≤ 60) (h : ∀ j, j < es.length → okP n (es.getD j (0, 0)).1 (es.getD j (0, 0)).2 = true) : mkE n es = some (mkL n es) := by
  have : okE n es = true := by
    unfold okE
    rw [decide_eq_true (by omega : (0 : Int) ≤ n), decide_eq_true (by omega : (n : Int) ≤ 60)]
    simp only [Bool.true_and, List.all_eq_true]
    intro e he
    obtain ⟨j, hj, rfl⟩ := List.getElem_of_mem he
    have := h j hj
    rwa [List.getD_eq_getElem?_getD, List.getElem?_eq_getElem hj] at this
  unfold mkE; rw [this]; rfl

def MakePost (w : World) (N : Int) (r : Option (List (Int × Int))) (e : Ending) (w' : World) : Prop :=
  Below w.heap.size w w' ∧ match r with
  | none => e = .returned (.tuple #[.agg #[.int .i64 0, .slice none 0 0], .int .i64 1])
  | some l => ∃ B c, e = .returned (.tuple #[.agg #[.int .i64 N, .slice B l.length c], .int .i64 0]) ∧ Own w' w.heap.size 41 2 B l.length c (prs l)

/-- The graph under way lies in the block behind wr, its edges in a block of the call's own behind that. -/
def MkInv (wr w2 : World) (n : Nat) (l : List (Int × Int)) : Prop :=
  Below wr.heap.size wr w2 ∧ wr.heap.size < w2.heap.size ∧ w2.frozen? ⟨wr.heap.size, 1, none⟩ = false ∧ w2.cell? ⟨wr.heap.size, 0, none⟩ = some (.int .i64 n) ∧
    ∃ B c, w2.cell? ⟨wr.heap.size, 1, none⟩ = some (.slice B l.length c) ∧ Own w2 (wr.heap.size + 1) 41 2 B l.length c (prs l)
theorem MkInv.start (wr : World) (n : Nat) : MkInv wr (wr.alloc (.cells #[.int .i64 n, .slice none 0 0] 37)) n [] :=
  ⟨(Below.refl _ _).alloc (Nat.le_refl _) _, by simp, by simp, by simp, none, 0, by simp, Own.nil _ _ _ _⟩
theorem Own.setOther {w : World} {base size n c : Nat} {e : TypeId} {A : Option Addr} {xs : List Value} (h : Own w base e size A n c xs) {p : Addr} (hp : p.block < base) (u : Value) : Own (w.setCell p u) base e size A n c xs := by
  refine ⟨h.1, ?_⟩
  rcases h.2 with h2 | ⟨g, cap, cur, hv, hg, hh, rest⟩
  · exact .inl h2
  · exact .inr ⟨g, cap, cur, hv, hg, by rw [Below.heap_setCell _ _ _ _ (by omega)]; exact hh, rest⟩
theorem rowK_len (es : List (Int × Int)) (a b : Nat) : (rowK es a b).length ≤ b := by
  unfold rowK
  rw [List.length_map]
  exact Nat.le_trans (List.length_filter_le _ _) (by simp)
theorem uptoK_len (es : List (Int × Int)) (n : Nat) : ∀ k, (uptoK es n k).length ≤ k * n
  | 0 => by simp [uptoK]
  | k + 1 => by
    have h1 := uptoK_len es n k
    have h2 := rowK_len es k n
    unfold uptoK
    rw [List.length_append, Nat.succ_mul]
    omega
theorem pairs_b {b : Bool} (A : Option Addr) (n c : Nat) (es : List (Int × Int)) (x y : Int) (w : World) (hn : n ≤ 4611686018427387904) (he : Rd w 2 A n (prs es)) (hb : pairsB es x y = b) :
    Calls Tryz.prog 45 #[.slice A n c, .int .i64 x, .int .i64 y] w fun e w' => e = .returned (.bool b) ∧ w = w' := by
  subst hb; exact pairs_any A n c es x y w hn he

set_option maxRecDepth 100000 in
set_option maxHeartbeats 4000000 in
theorem rmake_any (N : Int) (A : Option Addr) (m c : Nat) (es : List (Int × Int)) (w : World) (hm : m ≤ 1000) (he : Rd w 2 A m (prs es)) :
    Calls Tryz.prog 23 #[.int .i64 N, .slice A m c] w (MakePost w N (mkE N es)) := by
  have HE := Lib.hid he.prs_len
  have H1 := Lib.hid he
  clear he
  by_cases hN0 : N < 0
  · rw [mkE_range (.inl hN0)]
    go_enter Tryz.func23, Tryz.ntmps23
    go_wp2
    refine bodyPost_ret (v := .tuple #[.agg #[.int .i64 0, .slice none 0 0], .int .i64 1]) (by simp [results, Tryz.results23, go_sem]) rfl ⟨?_, rfl⟩
    exact (Below.refl _ _).alloc (Nat.le_refl _) _
  by_cases hN6 : 60 < N
  · rw [mkE_range (.inr hN6)]
    go_enter Tryz.func23, Tryz.ntmps23
    go_wp2
    refine bodyPost_ret (v := .tuple #[.agg #[.int .i64 0, .slice none 0 0], .int .i64 1]) (by simp [results, Tryz.results23, go_sem]) rfl ⟨?_, rfl⟩
    exact (Below.refl _ _).alloc (Nat.le_refl _) _
  obtain ⟨n, rfl⟩ : ∃ n : Nat, N = n := ⟨N.toNat, by omega⟩
  go_enter Tryz.func23, Tryz.ntmps23
  go_wp2
  go_loopw [6, 7, 8] (fun i _ _ wr => Below (w.heap.size + 1) (w.alloc (.cells #[.int .i64 0, .slice none 0 0] 37)) wr ∧ ∃ k : Nat, k ≤ m ∧ i = .int .i64 k ∧ ∀ j, j < k → okP n (es.getD j (0, 0)).1 (es.getD j (0, 0)).2 = true) (fun i _ _ _ => m - (intOf i).toNat)
  case atStart => exact ⟨Below.refl _ _, 0, Nat.zero_le _, rfl, by omega⟩
  case round =>
    obtain ⟨hb, k, hk, rfl, hok⟩ := hrel
    have HOK := Lib.hid hok
    have HB := Lib.hid hb
    have K := Lib.hid ((Keeps.alloc w _).trans (Keeps.of_below hb (by simp)))
    have r0 : wr.cell? ⟨w.heap.size, 0, none⟩ = some (.int .i64 0) := by rw [hb.cell (by simp)]; simp
    have r1 : wr.cell? ⟨w.heap.size, 1, none⟩ = some (.slice none 0 0) := by rw [hb.cell (by simp)]; simp
    have f0 : wr.frozen? ⟨w.heap.size, 0, none⟩ = false := by rw [hb.frozen (by simp)]; simp
    have f1 : wr.frozen? ⟨w.heap.size, 1, none⟩ = false := by rw [hb.frozen (by simp)]; simp
    have hwr := hb.size
    simp at hwr
    clear hok hb
    by_cases hlt : k < m
    · obtain ⟨ad, rfl, c0, c1⟩ := (H1.out.keep K.out).prs_at hlt
      generalize hxy : es.getD k (0, 0) = xy at c0 c1
      obtain ⟨x, y⟩ := xy
      simp only at c0 c1
      have HXY := Lib.hid hxy
      have k0 := grown_cell c0
      have k1 := grown_cell c1
      clear hxy
      by_cases hx0 : x < 0
      · skip
        go_wp2
        refine wp_region_q (by kernel_rfl) (by kernel_rfl) ?_
        repeat (go_big_quiet_step (fail))
        refine wpQuiet_nil ?_
        intro wq hgq
        have r0 : wq.cell? ⟨w.heap.size, 0, none⟩ = some (.int .i64 0) := by rw [hgq.cell (by simp; omega)]; exact r0
        have r1 : wq.cell? ⟨w.heap.size, 1, none⟩ = some (.slice none 0 0) := by rw [hgq.cell (by simp; omega)]; exact r1
        have f0 : wq.frozen? ⟨w.heap.size, 0, none⟩ = false := by rw [hgq.frozen (by simp; omega)]; exact f0
        have f1 : wq.frozen? ⟨w.heap.size, 1, none⟩ = false := by rw [hgq.frozen (by simp; omega)]; exact f1
        go_wp2
        refine bodyPost_ret (v := .tuple #[.agg #[.int .i64 0, .slice none 0 0], .int .i64 1]) (by simp [results, Tryz.results23, go_sem, r0, r1]) rfl ?_
        rw [mkE_no (by rw [HE.out]; exact hlt) x y HXY.out (by unfold okP; simp; omega)]
        refine ⟨?_, rfl⟩
        have hfin : Below w.heap.size w wq := ((Below.refl w.heap.size w).alloc (Nat.le_refl _) (.cells #[.int .i64 0, .slice none 0 0] 37)).trans ((HB.out.trans (hgq.mono (by omega))).mono (Nat.le_succ _))
        first
          | exact hfin
          | exact hfin.setCell (Nat.le_refl _) _
          | exact (hfin.setCell (Nat.le_refl _) _).setCell (Nat.le_refl _) _
      by_cases hy0 : y < 0
      · skip
        go_wp2
        refine wp_region_q (by kernel_rfl) (by kernel_rfl) ?_
        repeat (go_big_quiet_step (fail))
        refine wpQuiet_nil ?_
        intro wq hgq
        have r0 : wq.cell? ⟨w.heap.size, 0, none⟩ = some (.int .i64 0) := by rw [hgq.cell (by simp; omega)]; exact r0
        have r1 : wq.cell? ⟨w.heap.size, 1, none⟩ = some (.slice none 0 0) := by rw [hgq.cell (by simp; omega)]; exact r1
        have f0 : wq.frozen? ⟨w.heap.size, 0, none⟩ = false := by rw [hgq.frozen (by simp; omega)]; exact f0
        have f1 : wq.frozen? ⟨w.heap.size, 1, none⟩ = false := by rw [hgq.frozen (by simp; omega)]; exact f1
        go_wp2
        refine bodyPost_ret (v := .tuple #[.agg #[.int .i64 0, .slice none 0 0], .int .i64 1]) (by simp [results, Tryz.results23, go_sem, r0, r1]) rfl ?_
        rw [mkE_no (by rw [HE.out]; exact hlt) x y HXY.out (by unfold okP; simp; omega)]
        refine ⟨?_, rfl⟩
        have hfin : Below w.heap.size w wq := ((Below.refl w.heap.size w).alloc (Nat.le_refl _) (.cells #[.int .i64 0, .slice none 0 0] 37)).trans ((HB.out.trans (hgq.mono (by omega))).mono (Nat.le_succ _))
        first
          | exact hfin
          | exact hfin.setCell (Nat.le_refl _) _
          | exact (hfin.setCell (Nat.le_refl _) _).setCell (Nat.le_refl _) _
      by_cases hxn : (n : Int) ≤ x
      · skip
        go_wp2
        refine wp_region_q (by kernel_rfl) (by kernel_rfl) ?_
        repeat (go_big_quiet_step (fail))
        refine wpQuiet_nil ?_
        intro wq hgq
        have r0 : wq.cell? ⟨w.heap.size, 0, none⟩ = some (.int .i64 0) := by rw [hgq.cell (by simp; omega)]; exact r0
        have r1 : wq.cell? ⟨w.heap.size, 1, none⟩ = some (.slice none 0 0) := by rw [hgq.cell (by simp; omega)]; exact r1
        have f0 : wq.frozen? ⟨w.heap.size, 0, none⟩ = false := by rw [hgq.frozen (by simp; omega)]; exact f0
        have f1 : wq.frozen? ⟨w.heap.size, 1, none⟩ = false := by rw [hgq.frozen (by simp; omega)]; exact f1
        go_wp2
        refine bodyPost_ret (v := .tuple #[.agg #[.int .i64 0, .slice none 0 0], .int .i64 1]) (by simp [results, Tryz.results23, go_sem, r0, r1]) rfl ?_
        rw [mkE_no (by rw [HE.out]; exact hlt) x y HXY.out (by unfold okP; simp; omega)]
        refine ⟨?_, rfl⟩
        have hfin : Below w.heap.size w wq := ((Below.refl w.heap.size w).alloc (Nat.le_refl _) (.cells #[.int .i64 0, .slice none 0 0] 37)).trans ((HB.out.trans (hgq.mono (by omega))).mono (Nat.le_succ _))
        first
          | exact hfin
          | exact hfin.setCell (Nat.le_refl _) _
          | exact (hfin.setCell (Nat.le_refl _) _).setCell (Nat.le_refl _) _
      by_cases hyn : (n : Int) ≤ y
      · skip
        go_wp2
        refine wp_region_q (by kernel_rfl) (by kernel_rfl) ?_
        repeat (go_big_quiet_step (fail))
        refine wpQuiet_nil ?_
        intro wq hgq
        have r0 : wq.cell? ⟨w.heap.size, 0, none⟩ = some (.int .i64 0) := by rw [hgq.cell (by simp; omega)]; exact r0
        have r1 : wq.cell? ⟨w.heap.size, 1, none⟩ = some (.slice none 0 0) := by rw [hgq.cell (by simp; omega)]; exact r1
        have f0 : wq.frozen? ⟨w.heap.size, 0, none⟩ = false := by rw [hgq.frozen (by simp; omega)]; exact f0
        have f1 : wq.frozen? ⟨w.heap.size, 1, none⟩ = false := by rw [hgq.frozen (by simp; omega)]; exact f1
        go_wp2
        refine bodyPost_ret (v := .tuple #[.agg #[.int .i64 0, .slice none 0 0], .int .i64 1]) (by simp [results, Tryz.results23, go_sem, r0, r1]) rfl ?_
        rw [mkE_no (by rw [HE.out]; exact hlt) x y HXY.out (by unfold okP; simp; omega)]
        refine ⟨?_, rfl⟩
        have hfin : Below w.heap.size w wq := ((Below.refl w.heap.size w).alloc (Nat.le_refl _) (.cells #[.int .i64 0, .slice none 0 0] 37)).trans ((HB.out.trans (hgq.mono (by omega))).mono (Nat.le_succ _))
        first
          | exact hfin
          | exact hfin.setCell (Nat.le_refl _) _
          | exact (hfin.setCell (Nat.le_refl _) _).setCell (Nat.le_refl _) _
      by_cases hxy : x = y
      · have hxyb : (x == y) = true := by simpa using hxy
        go_wp2
        refine wp_region_q (by kernel_rfl) (by kernel_rfl) ?_
        repeat (go_big_quiet_step (fail))
        refine wpQuiet_nil ?_
        intro wq hgq
        have r0 : wq.cell? ⟨w.heap.size, 0, none⟩ = some (.int .i64 0) := by rw [hgq.cell (by simp; omega)]; exact r0
        have r1 : wq.cell? ⟨w.heap.size, 1, none⟩ = some (.slice none 0 0) := by rw [hgq.cell (by simp; omega)]; exact r1
        have f0 : wq.frozen? ⟨w.heap.size, 0, none⟩ = false := by rw [hgq.frozen (by simp; omega)]; exact f0
        have f1 : wq.frozen? ⟨w.heap.size, 1, none⟩ = false := by rw [hgq.frozen (by simp; omega)]; exact f1
        go_wp2
        refine bodyPost_ret (v := .tuple #[.agg #[.int .i64 0, .slice none 0 0], .int .i64 1]) (by simp [results, Tryz.results23, go_sem, r0, r1]) rfl ?_
        rw [mkE_no (by rw [HE.out]; exact hlt) x y HXY.out (by unfold okP; simp; omega)]
        refine ⟨?_, rfl⟩
        have hfin : Below w.heap.size w wq := ((Below.refl w.heap.size w).alloc (Nat.le_refl _) (.cells #[.int .i64 0, .slice none 0 0] 37)).trans ((HB.out.trans (hgq.mono (by omega))).mono (Nat.le_succ _))
        first
          | exact hfin
          | exact hfin.setCell (Nat.le_refl _) _
          | exact (hfin.setCell (Nat.le_refl _) _).setCell (Nat.le_refl _) _
      have hxyb : (x == y) = false := by simpa using hxy
      · skip
        go_wp2
        refine wp_region_q (by kernel_rfl) (by kernel_rfl) ?_
        repeat (go_big_quiet_step (fail))
        refine wpQuiet_nil ?_
        intro wq hgq
        have r0 : wq.cell? ⟨w.heap.size, 0, none⟩ = some (.int .i64 0) := by rw [hgq.cell (by simp; omega)]; exact r0
        have r1 : wq.cell? ⟨w.heap.size, 1, none⟩ = some (.slice none 0 0) := by rw [hgq.cell (by simp; omega)]; exact r1
        have f0 : wq.frozen? ⟨w.heap.size, 0, none⟩ = false := by rw [hgq.frozen (by simp; omega)]; exact f0
        have f1 : wq.frozen? ⟨w.heap.size, 1, none⟩ = false := by rw [hgq.frozen (by simp; omega)]; exact f1
        go_wp2
        go_roundw
        case rel => exact ⟨HB.out.trans (hgq.mono (by omega)), k + 1, by omega, by go_num, fun j hj => by
          by_cases e : j = k
          · subst e; rw [HXY.out]; unfold okP; simp; omega
          · exact HOK.out j (by omega)⟩
        case measure => simp [intOf]; omega
    · have hmk : mkE n es = some (mkL n es) := mkE_yes (by omega) (fun j hj => HOK.out j (by have := HE.out; omega))
      have HMK := Lib.hid hmk
      clear hmk HOK
      rename World => w1
      go_wp2
      go_loopw [10] (fun a w2 => ∃ k : Nat, k ≤ n ∧ a = .int .i64 k ∧ MkInv w1 w2 n (uptoK es n k)) (fun a _ => n - (intOf a).toNat)
      case atStart => exact ⟨0, Nat.zero_le _, rfl, MkInv.start w1 n⟩
      case round =>
        obtain ⟨k1, hk1, rfl, hinv⟩ := hrel
        have INV := Lib.hid hinv
        clear hinv
        by_cases hlt1 : k1 < n
        · go_wp2
          go_loopw [11] (fun b w3 => ∃ j : Nat, k1 + 1 ≤ j ∧ j ≤ n ∧ b = .int .i64 j ∧ MkInv w1 w3 n (uptoK es n k1 ++ rowK es k1 j)) (fun b _ => n - (intOf b).toNat)
          case atStart => exact ⟨k1 + 1, Nat.le_refl _, by omega, by go_num, by rw [rowK_start _ _ _ (Nat.le_refl _), List.append_nil]; exact INV.out⟩
          case round =>
            rename World => w3
            obtain ⟨j, hj1, hj2, rfl, hinv3⟩ := hrel
            have INV3 := Lib.hid hinv3
            clear hinv3
            by_cases hlt2 : j < n
            · obtain ⟨hb3, hs3, fz3, cg0, B, cB, cg1, own⟩ := INV3.out
              have OWN := Lib.hid own
              have HB3 := Lib.hid hb3
              have RD := Lib.hid (H1.out.keep ((Keeps.alloc w _).trans (Keeps.of_below (HB.out.trans (hb3.mono hwr)) (by simp))))
              have hlen1 := uptoK_len es n k1
              have hlen2 := rowK_len es k1 j
              have hlen3 : k1 * n ≤ 60 * 60 := Nat.mul_le_mul (by omega) (by omega)
              generalize hL : (uptoK es n k1 ++ rowK es k1 j).length = q at cg1 OWN
              have hq : q ≤ 3700 := by rw [← hL, List.length_append]; omega
              have HL := Lib.hid hL
              clear own hb3 hlen1 hlen2 hlen3 hL
              cases hp : pairsB es k1 j with
              | false =>
                have HP := Lib.hid hp
                clear hp
                go_wp2_with (go_at_call 45; refine (pairs_b (b := false) A m c es k1 j _ (by omega) RD.out HP.out).mono ?_; rintro e w4 ⟨rfl, rfl⟩)
                go_roundw
                case rel => exact ⟨j + 1, by omega, by omega, by go_num, by rw [rowK_succ, HP.out, Bool.and_false, if_neg (by simp), List.append_nil]; exact INV3.out⟩
                case measure => simp [intOf]; omega
              | true =>
                have HP := Lib.hid hp
                clear hp
                go_wp2_with (first
                  | (go_at_call 45; refine (pairs_b (b := true) A m c es k1 j _ (by omega) RD.out HP.out).mono ?_; rintro e w4 ⟨rfl, rfl⟩)
                  | (at_builtin; refine wpList_app _ rfl (.tmp 76) (.tmp 80) 35 rfl (w1.heap.size + 1) 41 (.agg #[.int .i64 0, .int .i64 0]) 2 16 Tryz.underlying35 info_pair rfl (by decide) B q cB (prs (uptoK es n k1 ++ rowK es k1 j)) rfl (OWN.out.alloc _) (some ⟨w3.heap.size, 0, none⟩) 1 1 (prs [((k1 : Int), (j : Int))]) rfl (rd_lit2_at rfl [((k1 : Int), (j : Int))] _) (prs_one _) (by omega) (by unfold maxLen; omega) (by simp; omega) ?_; intro B4 c4 w4 ho4 hg4 hb4; have OWN4 := Lib.hid ho4; have S3 : Hid (Below (w1.heap.size + 1) w3 w4) := (((Below.refl _ _).alloc (by omega) _).grown hg4 (by simp; omega) (fun b hb => (OWN.out.lt hb).1)); have hs4 := S3.out.size; have fz4 : w4.frozen? ⟨w1.heap.size, 1, none⟩ = false := (by rw [S3.out.frozen (by simp)]; exact fz3); have cg04 : w4.cell? ⟨w1.heap.size, 0, none⟩ = some (.int .i64 n) := (by rw [S3.out.cell (by simp)]; exact cg0); have cg14 : w4.cell? ⟨w1.heap.size, 1, none⟩ = some (.slice B q cB) := (by rw [S3.out.cell (by simp)]; exact cg1); clear ho4 hg4 hb4))
                have hsz4 : w4.heap.size = (w4.setCell ⟨w1.heap.size, 1, none⟩ (.slice B4 (q + 1) c4)).heap.size := by simp
                refine ⟨⟨j + 1, by omega, by omega, by go_num, ?_⟩, by simp [intOf]; omega⟩
                have e1 : uptoK es n k1 ++ rowK es k1 (j + 1) = (uptoK es n k1 ++ rowK es k1 j) ++ [((k1 : Int), (j : Int))] := by
                  rw [rowK_succ, HP.out, decide_eq_true (by omega : k1 < j), Bool.and_self, if_pos rfl, List.append_assoc]
                rw [e1]
                refine ⟨(HB3.out.trans (S3.out.mono (by omega))).setCell (by simp) _, by simp; omega, by simp; exact fz4, by rw [World.cell?_setCell_other _ _ _ _ (by simp)]; exact cg04, B4, c4, ?_, ?_⟩
                · rw [List.length_append, HL.out]; exact World.cell?_setCell_same _ _ _ cg14
                · rw [List.length_append, HL.out, prs_app]; exact OWN4.out.setOther (by simp) _
            · obtain rfl : j = n := by omega
              go_wp2
              go_roundw
              case rel => exact ⟨k1 + 1, by omega, by go_num, INV3.out⟩
              case measure => simp [intOf]; omega
        · obtain rfl : k1 = n := by omega
          obtain ⟨hb2, hs2, fz2, cg0, B, cB, cg1, own⟩ := INV.out
          have OWN := Lib.hid own
          have HB2 := Lib.hid hb2
          have r0 : wr.cell? ⟨w.heap.size, 0, none⟩ = some (.int .i64 0) := by rw [hb2.cell (by simp; omega)]; exact r0
          have r1 : wr.cell? ⟨w.heap.size, 1, none⟩ = some (.slice none 0 0) := by rw [hb2.cell (by simp; omega)]; exact r1
          have f0 : wr.frozen? ⟨w.heap.size, 0, none⟩ = false := by rw [hb2.frozen (by simp; omega)]; exact f0
          have f1 : wr.frozen? ⟨w.heap.size, 1, none⟩ = false := by rw [hb2.frozen (by simp; omega)]; exact f1
          clear own hb2
          go_wp2
          rw [HMK.out]
          refine bodyPost_ret (v := .tuple #[.agg #[.int .i64 k1, .slice B (uptoK es k1 k1).length cB], .int .i64 0]) (by simp [results, Tryz.results23, go_sem, r0, r1]) rfl ?_
          have hfin : Below w.heap.size w wr := ((Below.refl w.heap.size w).alloc (Nat.le_refl _) (.cells #[.int .i64 0, .slice none 0 0] 37)).trans ((HB.out.trans (HB2.out.mono (by omega))).mono (Nat.le_succ _))
          refine ⟨(hfin.setCell (Nat.le_refl _) _).setCell (Nat.le_refl _) _, B, cB, rfl, ?_⟩
          exact ((OWN.out.setOther (by simp; omega) _).setOther (by simp; omega) _).base_le (by omega)
end Go.Proofs.YtpdbekgkopglgaaGreat
namespace Go.Proofs.YtpdbekgkopglgaaGreat
set_option linter.unusedVariables false
set_option linter.unusedSimpArgs false
open Go.RowKit Go.Sort

set_option maxHeartbeats 1000000 in
theorem gvalid_any (N : Int) (A : Option Addr) (n c : Nat) (es : List (Int × Int)) (w : World) (hn : n ≤ 4611686018427387904) (he : Rd w 2 A n (prs es)) :
    Calls Tryz.prog 29 #[.agg #[.int .i64 N, .slice A n c]] w fun e w' => e = .returned (.bool (validB N es)) ∧ Below w.heap.size w w' := by
  by_cases hN0 : N < 0
  · rw [validB_out N es (.inl hN0)]
    go_enter Tryz.func29, Tryz.ntmps29
    go_wp2
    go_ret
    exact ⟨rfl, (Below.refl _ _).alloc (Nat.le_refl _) _⟩
  by_cases hN1 : 60 < N
  · rw [validB_out N es (.inr hN1)]
    go_enter Tryz.func29, Tryz.ntmps29
    go_wp2
    go_ret
    exact ⟨rfl, (Below.refl _ _).alloc (Nat.le_refl _) _⟩
  have HL := Lib.hid he.prs_len
  have H1 := Lib.hid (he.keep (Keeps.alloc w (.cells #[.int .i64 N, .slice A n c] 37)))
  clear he
  go_enter Tryz.func29, Tryz.ntmps29
  go_wp2
  go_loopw [3, 4, 16] (fun _ _ i wr => ∃ k : Nat, k ≤ n ∧ i = .int .i64 k ∧ (∀ j, j < k → okAt N es j = true) ∧ Below (w.heap.size + 1) (w.alloc (.cells #[.int .i64 N, .slice A n c] 37)) wr)
    (fun _ _ i _ => n - (intOf i).toNat)
  case atStart => exact ⟨0, Nat.zero_le _, rfl, by omega, Below.refl _ _⟩
  case round =>
    obtain ⟨k, hk, rfl, hok, hbw⟩ := hrel
    have HOK := Lib.hid hok
    clear hok
    have g0 : wr.cell? ⟨w.heap.size, 0, none⟩ = some (.int .i64 N) := by rw [hbw.cell (by simp)]; simp
    have g1 : wr.cell? ⟨w.heap.size, 1, none⟩ = some (.slice A n c) := by rw [hbw.cell (by simp)]; simp
    have gs : w.heap.size < wr.heap.size := by have := hbw.size; simp at this; omega
    have HB := Lib.hid hbw
    clear hbw
    by_cases hlt : k < n
    · obtain ⟨ad, rfl, c0, c1⟩ := (H1.out.keep (Keeps.of_below HB.out (by simp))).prs_at hlt
      generalize hx : (es.getD k (0, 0)).1 = x at c0
      generalize hy : (es.getD k (0, 0)).2 = y at c1
      have HX := Lib.hid hx
      have HY := Lib.hid hy
      clear hx hy
      have kx : ∀ d os, (grow (redrawn (wr.alloc (.cells #[.int .i64 x, .int .i64 y] 41)) d) os).cell? ⟨wr.heap.size, 0, none⟩ = some (.int .i64 x) := cell_regrown (by simp)
      have ky : ∀ d os, (grow (redrawn (wr.alloc (.cells #[.int .i64 x, .int .i64 y] 41)) d) os).cell? ⟨wr.heap.size, 1, none⟩ = some (.int .i64 y) := cell_regrown (by simp)
      have kN : ∀ d os, (grow (redrawn (wr.alloc (.cells #[.int .i64 x, .int .i64 y] 41)) d) os).cell? ⟨w.heap.size, 0, none⟩ = some (.int .i64 N) := cell_regrown (by rw [World.cell?_alloc_lt _ _ _ gs]; exact g0)
      have kE : ∀ d os, (grow (redrawn (wr.alloc (.cells #[.int .i64 x, .int .i64 y] 41)) d) os).cell? ⟨w.heap.size, 1, none⟩ = some (.slice (some ad) n c) := cell_regrown (by rw [World.cell?_alloc_lt _ _ _ gs]; exact g1)
      have hbel : ∀ wq, Below (wr.alloc (.cells #[.int .i64 x, .int .i64 y] 41)).heap.size (wr.alloc (.cells #[.int .i64 x, .int .i64 y] 41)) wq → Below (w.heap.size + 1) (w.alloc (.cells #[.int .i64 N, .slice (some ad) n c] 37)) wq := fun wq hq =>
        (HB.out.alloc (by omega) _).trans (hq.mono (by simp; omega))
      have hbel0 : ∀ wq, Below (wr.alloc (.cells #[.int .i64 x, .int .i64 y] 41)).heap.size (wr.alloc (.cells #[.int .i64 x, .int .i64 y] 41)) wq → Below w.heap.size w wq := fun wq hq =>
        ((Below.refl _ _).alloc (Nat.le_refl _) _).trans ((hbel wq hq).mono (by omega))
      have HBEL := Lib.hid hbel
      have HBEL0 := Lib.hid hbel0
      clear hbel hbel0
      go_wp2
      refine wp_region_q (by kernel_rfl) (by kernel_rfl) ?_
      by_cases q1 : x < 0 ∨ N ≤ x
      · have cH0 := call_p (w := (wr.alloc (.cells #[.int .i64 x, .int .i64 y] 41))) (has_any N x)
        rw [hasB_no q1] at cH0
        repeat (go_big_quiet_step (exact cH0 _ _))
        refine wpQuiet_nil ?_
        intro wq hgq
        go_wp2
        go_ret
        exact ⟨ret_bool (validB_no N es k (by rw [HL.out]; exact hlt) (okAt_no HX.out HY.out (by omega))).symm, HBEL0.out _ hgq⟩
      have cH0 := call_p (w := (wr.alloc (.cells #[.int .i64 x, .int .i64 y] 41))) (has_any N x)
      rw [hasB_yes (by omega) (by omega)] at cH0
      by_cases q2 : y < 0 ∨ N ≤ y
      · have cH1 := call_p (w := (wr.alloc (.cells #[.int .i64 x, .int .i64 y] 41))) (has_any N y)
        rw [hasB_no q2] at cH1
        repeat (go_big_quiet_step (first | with_reducible exact cH0 _ _ | with_reducible exact cH1 _ _))
        refine wpQuiet_nil ?_
        intro wq hgq
        go_wp2
        go_ret
        exact ⟨ret_bool (validB_no N es k (by rw [HL.out]; exact hlt) (okAt_no HX.out HY.out (by omega))).symm, HBEL0.out _ hgq⟩
      have cH1 := call_p (w := (wr.alloc (.cells #[.int .i64 x, .int .i64 y] 41))) (has_any N y)
      rw [hasB_yes (by omega) (by omega)] at cH1
      by_cases q3 : y ≤ x
      · repeat (go_big_quiet_step (first | with_reducible exact cH0 _ _ | with_reducible exact cH1 _ _))
        refine wpQuiet_nil ?_
        intro wq hgq
        go_wp2
        go_ret
        exact ⟨ret_bool (validB_no N es k (by rw [HL.out]; exact hlt) (okAt_no HX.out HY.out (by omega))).symm, HBEL0.out _ hgq⟩
      by_cases q4 : k = 0
      · have q5 : decide (0 < k) = false := by simp [q4]
        have Q4 := Lib.hid q4
        clear q4
        repeat (go_big_quiet_step (first | with_reducible exact cH0 _ _ | with_reducible exact cH1 _ _))
        refine wpQuiet_nil ?_
        intro wq hgq
        go_wp2
        go_roundw
        case rel => exact ⟨k + 1, by omega, by go_num, okAt_step HOK.out (okAt_zero HX.out HY.out (by omega) (by omega) (by omega) Q4.out), HBEL.out _ hgq⟩
        case measure => simp [intOf]; omega
      obtain ⟨ad', e', d0, d1⟩ := (H1.out.keep (Keeps.of_below HB.out (by simp))).prs_at (k := k - 1) (by omega)
      obtain rfl : ad = ad' := by injection e'
      clear e'
      generalize hp : (es.getD (k - 1) (0, 0)).1 = p at d0
      generalize hq : (es.getD (k - 1) (0, 0)).2 = q at d1
      have HP := Lib.hid hp
      have HQ := Lib.hid hq
      clear hp hq
      have kp : ∀ d os, (grow (redrawn (wr.alloc (.cells #[.int .i64 x, .int .i64 y] 41)) d) os).cell? (ad.add ((k - 1) * 2)) = some (.int .i64 p) := cell_regrown (Keeps.alloc _ _ _ _ d0)
      have kq : ∀ d os, (grow (redrawn (wr.alloc (.cells #[.int .i64 x, .int .i64 y] 41)) d) os).cell? ⟨(ad.add ((k - 1) * 2)).block, (ad.add ((k - 1) * 2)).off + 1, none⟩ = some (.int .i64 q) := cell_regrown (Keeps.alloc _ _ _ _ d1)
      have cB := call_q (w := (wr.alloc (.cells #[.int .i64 x, .int .i64 y] 41))) (fun w' _ => gcompare_any p q x y w')
      generalize hz : cmpE p q x y = z at cB
      have HZ := Lib.hid hz
      clear hz
      have q4' : 0 < k := by omega
      by_cases q6 : 0 ≤ z
      · repeat (go_big_quiet_step (first | with_reducible exact cH0 _ _ | with_reducible exact cH1 _ _ | with_reducible exact cB _ _))
        refine wpQuiet_nil ?_
        intro wq hgq
        go_wp2
        go_ret
        exact ⟨ret_bool (validB_no N es k (by rw [HL.out]; exact hlt) (okAt_pq HX.out HY.out HP.out HQ.out (by rw [befB_of HZ.out]; simp [q6]) (by omega) (by omega) (by omega) (by omega))).symm, HBEL0.out _ hgq⟩
      · repeat (go_big_quiet_step (first | with_reducible exact cH0 _ _ | with_reducible exact cH1 _ _ | with_reducible exact cB _ _))
        refine wpQuiet_nil ?_
        intro wq hgq
        go_wp2
        go_roundw
        case rel => exact ⟨k + 1, by omega, by go_num, okAt_step HOK.out (okAt_pq HX.out HY.out HP.out HQ.out (by rw [befB_of HZ.out, decide_eq_false (by omega)]; rfl) (by omega) (by omega) (by omega) (by omega)), HBEL.out _ hgq⟩
        case measure => simp [intOf]; omega
    · go_wp2
      go_ret
      exact ⟨ret_bool (validB_yes N es (by omega) (by omega) (fun j hj => HOK.out j (by have := HL.out; omega))).symm, ((Below.refl _ _).alloc (Nat.le_refl _) _).trans (HB.out.mono (by omega))⟩
end Go.Proofs.YtpdbekgkopglgaaGreat
namespace Go.Proofs.YtpdbekgkopglgaaGreat
set_option linter.unusedVariables false
set_option linter.unusedSimpArgs false
open Go.RowKit Go.Sort

/-- A contract of a function that leaves the world alone, at any world that keeps w's cells. -/
theorem call_r {P : Program} {f : FuncId} {args : Array Value} {w : World} {v : Value}
    (h : ∀ w', Keeps w w' → Calls P f args w' fun e w'' => e = .returned v ∧ w' = w'') :
    ∀ d os, Calls P f args (grow (redrawn w d) os) fun e w'' => e = .returned v ∧ ∃ p : Regrown, w'' = grow (redrawn w p.d) p.os :=
  fun d os => Calls.regrown_of ((h _ (Keeps.grown w d os)).mono fun e w'' hh => ⟨hh.1, by rw [← hh.2]; exact Below.refl _ _⟩)

theorem gvalid_b {b : Bool} (N : Int) (A : Option Addr) (n c : Nat) (es : List (Int × Int)) (w : World) (hn : n ≤ 4611686018427387904) (he : Rd w 2 A n (prs es)) (hb : validB N es = b) :
    Calls Tryz.prog 29 #[.agg #[.int .i64 N, .slice A n c]] w fun e w' => e = .returned (.bool b) ∧ Below w.heap.size w w' := by
  subst hb; exact gvalid_any N A n c es w hn he

def lessI (n a : Int) : Int := if a < n then n - 1 else n
def hasE (N : Int) (es : List (Int × Int)) (a b : Int) : Bool := validB N es && pairsB es a b
/-- How many of the first k edges meet a point. -/
def degK (es : List (Int × Int)) (a : Int) (k : Nat) : Int := ((es.take k).countP fun e => e.1 == a || e.2 == a : Nat)
def degE (N : Int) (es : List (Int × Int)) (a : Int) : Int := if validB N es = true then degK es a es.length else 0
theorem degK_step {es : List (Int × Int)} {a : Int} {k : Nat} (hk : k < es.length) {x y : Int} (hxy : es.getD k (0, 0) = (x, y)) : degK es a (k + 1) = degK es a k + if (x == a || y == a) = true then 1 else 0 := by
  unfold degK
  rw [List.take_succ_eq_append_getElem hk, List.countP_append]
  rw [List.getD_eq_getElem?_getD, List.getElem?_eq_getElem hk] at hxy
  simp only [Option.getD_some] at hxy
  rw [hxy]
  simp only [List.countP_cons, List.countP_nil]
  split <;> simp
theorem degK_bd (es : List (Int × Int)) (a : Int) (k : Nat) : 0 ≤ degK es a k ∧ degK es a k ≤ k := by
  unfold degK
  have h1 := List.countP_le_length (p := fun e : Int × Int => e.1 == a || e.2 == a) (l := es.take k)
  have h2 : (es.take k).length ≤ k := List.length_take_le _ _
  omega
end Go.Proofs.YtpdbekgkopglgaaGreat
namespace Go.Proofs.YtpdbekgkopglgaaGreat
set_option linter.unusedVariables false
set_option linter.unusedSimpArgs false

/-- The edge whose tail is number k of a list for edge i: the edges themselves, then copies of edge i. -/
def edgeOf (es : List (Int × Int)) (i k : Nat) : Int × Int := if k < es.length then es.getD k (0, 0) else es.getD i (0, 0)
def tailAt (es : List (Int × Int)) (i : Nat) (l : List Int) (k : Nat) : Bool := decide (l.getD k 0 = (edgeOf es i k).1) || decide (l.getD k 0 = (edgeOf es i k).2)
def cnt (l : List Int) (v : Int) : Int := (l.count v : Nat)
def rightAt (es : List (Int × Int)) (i : Nat) (l : List Int) (k : Nat) : Bool := tailAt es i l k && decide (cnt (l.take (k + 1)) (l.getD k 0) ≤ 2)
def rightB (es : List (Int × Int)) (i : Nat) (l : List Int) : Bool := decide (l.length = es.length + 3) && (List.range l.length).all (rightAt es i l)

theorem cnt_nonneg (l : List Int) (v : Int) : 0 ≤ cnt l v := by unfold cnt; omega
theorem cnt_le (l : List Int) (v : Int) : cnt l v ≤ l.length := by
  unfold cnt; have := List.count_le_length (a := v) (l := l); omega
theorem cnt_nil (v : Int) : cnt [] v = 0 := rfl
theorem cnt_take (l : List Int) (k : Nat) (h : k < l.length) (v : Int) : cnt (l.take (k + 1)) v = cnt (l.take k) v + if l.getD k 0 = v then 1 else 0 := by
  unfold cnt
  rw [List.take_succ_eq_append_getElem h, List.count_append]
  simp only [List.getD_eq_getElem?_getD, List.getElem?_eq_getElem h, Option.getD_some, List.count_cons, List.count_nil, beq_iff_eq]
  split <;> simp
theorem cnt_mono (l : List Int) (k : Nat) (v : Int) : cnt (l.take k) v ≤ cnt l v := by
  unfold cnt
  have := (List.take_sublist k l).count_le v
  omega

theorem rightB_len {es : List (Int × Int)} {i : Nat} {l : List Int} (h : l.length ≠ es.length + 3) : rightB es i l = false := by simp [rightB, h]
theorem rightB_no {es : List (Int × Int)} {i : Nat} {l : List Int} {k : Nat} (hk : k < l.length) (h : rightAt es i l k = false) : rightB es i l = false := by
  unfold rightB
  have : (List.range l.length).all (rightAt es i l) = false := by
    rw [List.all_eq_false]; exact ⟨k, by simpa using hk, by simp [h]⟩
  simp [this]
theorem rightB_yes {es : List (Int × Int)} {i : Nat} {l : List Int} (hl : l.length = es.length + 3) (h : ∀ j, j < l.length → rightAt es i l j = true) : rightB es i l = true := by
  unfold rightB
  simp only [hl, decide_true, Bool.true_and, List.all_eq_true, List.mem_range]
  intro j hj; exact h j (by omega)
theorem rightAt_step {es : List (Int × Int)} {i : Nat} {l : List Int} {k : Nat} (h : ∀ j, j < k → rightAt es i l j = true) (hk : rightAt es i l k = true) : ∀ j, j < k + 1 → rightAt es i l j = true := fun j hj => by
  by_cases e : j = k
  · rw [e]; exact hk
  · exact h j (by omega)

theorem tailAt_no {es : List (Int × Int)} {i : Nat} {l : List Int} {k : Nat} {x y t : Int} (hx : (edgeOf es i k).1 = x) (hy : (edgeOf es i k).2 = y) (ht : l.getD k 0 = t) (h1 : ¬ t = x) (h2 : ¬ t = y) : tailAt es i l k = false := by
  unfold tailAt; rw [hx, hy, ht]; simp [h1, h2]
theorem tailAt_yes {es : List (Int × Int)} {i : Nat} {l : List Int} {k : Nat} {x y t : Int} (hx : (edgeOf es i k).1 = x) (hy : (edgeOf es i k).2 = y) (ht : l.getD k 0 = t) (h : t = x ∨ t = y) : tailAt es i l k = true := by
  unfold tailAt; rw [hx, hy, ht]; rcases h with h | h <;> simp [h]
theorem rightAt_of_no {es : List (Int × Int)} {i : Nat} {l : List Int} {k : Nat} (h : tailAt es i l k = false) : rightAt es i l k = false := by simp [rightAt, h]
theorem rightAt_of_yes {es : List (Int × Int)} {i : Nat} {l : List Int} {k : Nat} {t q : Int} (hk : k < l.length) (h : tailAt es i l k = true) (ht : l.getD k 0 = t) (hq : cnt (l.take k) t = q) : rightAt es i l k = decide (q + 1 ≤ 2) := by
  unfold rightAt
  rw [h, cnt_take l k hk, ht, if_pos rfl, hq]; simp

/-- In a valid graph the ends of each edge are points. -/
theorem validB_ends {N : Int} {es : List (Int × Int)} (h : validB N es = true) {k : Nat} (hk : k < es.length) :
    0 ≤ (es.getD k (0, 0)).1 ∧ (es.getD k (0, 0)).1 < (es.getD k (0, 0)).2 ∧ (es.getD k (0, 0)).2 < N := by
  have := ((validB_iff N es).1 h).2.2 k hk
  unfold okAt EAt at this
  simp only [Bool.and_eq_true, decide_eq_true_eq] at this
  exact ⟨this.1.1.1, this.1.1.2, this.1.2⟩
theorem edgeOf_ends {N : Int} {es : List (Int × Int)} (h : validB N es = true) {i k : Nat} (hi : i < es.length) : 0 ≤ (edgeOf es i k).1 ∧ (edgeOf es i k).1 < (edgeOf es i k).2 ∧ (edgeOf es i k).2 < N := by
  unfold edgeOf
  split
  · exact validB_ends h (by assumption)
  · exact validB_ends h hi
theorem edgeOf_lt {es : List (Int × Int)} {i k : Nat} (h : k < es.length) : edgeOf es i k = es.getD k (0, 0) := if_pos h
theorem edgeOf_ge {es : List (Int × Int)} {i k : Nat} (h : ¬ k < es.length) : edgeOf es i k = es.getD i (0, 0) := if_neg h
end Go.Proofs.YtpdbekgkopglgaaGreat
namespace Go.Proofs.YtpdbekgkopglgaaGreat
set_option linter.unusedVariables false
set_option linter.unusedSimpArgs false

theorem rd_of_rowIs {w : World} {b : Nat} {t : TypeId} {M : Nat} {f : Nat → Int} (h : w.rowIs b t M (fun v => .int .i64 (f v))) : Rd w 1 (some ⟨b, 0, none⟩) M (ints ((List.range M).map f)) := by
  refine ⟨by simp [ints], fun _ => ⟨_, rfl, fun j u hu => ?_⟩⟩
  have hj : j < M := by
    rcases Nat.lt_or_ge j M with h' | h'
    · exact h'
    · rw [List.getElem?_eq_none (by simp [ints]; exact h')] at hu; cases hu
  have e : (⟨b, 0, none⟩ : Addr).add j = ⟨b, j, none⟩ := by unfold Addr.add; split <;> simp_all
  rw [e, h.cell hj]
  rw [← hu]
  simp [ints, hj]

theorem cnt_take_le (l : List Int) (h : ∀ j, j < l.length → cnt (l.take (j + 1)) (l.getD j 0) ≤ 2) : ∀ k, k ≤ l.length → ∀ v, cnt (l.take k) v ≤ 2 := by
  intro k
  induction k with
  | zero => intro _ v; simp [cnt]
  | succ k ih =>
    intro hk v
    by_cases e : l.getD k 0 = v
    · subst e; exact h k (by omega)
    · rw [cnt_take l k (by omega), if_neg e]
      have := ih (by omega) v
      omega
theorem cnt_zero {l : List Int} {v : Int} (h : v ∉ l) : cnt l v = 0 := by
  unfold cnt
  rw [List.count_eq_zero_of_not_mem h]; rfl

theorem rightB_max {N : Int} {M : Nat} {es : List (Int × Int)} {i : Nat} {l : List Int} {mx : Int} (hN : N = M) (hv : validB N es = true) (hi : i < es.length) (hl : l.length = es.length + 3) (ht : ∀ j, j < l.length → tailAt es i l j = true)
    (hm : IsMax ((List.range M).map fun v : Nat => cnt l v) mx) : rightB es i l = decide (mx ≤ 2) := by
  have hin : ∀ x, x ∈ l → 0 ≤ x ∧ x < M := by
    intro x hx
    obtain ⟨j, hj, rfl⟩ := getD_of_mem hx
    have h1 := ht j hj
    have h2 := edgeOf_ends hv (i := i) (k := j) hi
    unfold tailAt at h1
    simp only [Bool.or_eq_true, decide_eq_true_eq] at h1
    omega
  by_cases hle : mx ≤ 2
  · rw [decide_eq_true hle]
    refine rightB_yes hl (fun j hj => ?_)
    rw [rightAt_of_yes hj (ht j hj) rfl rfl]
    rw [decide_eq_true_eq]
    have h1 := cnt_take l j hj (l.getD j 0)
    rw [if_pos rfl] at h1
    have h2 := cnt_mono l (j + 1) (l.getD j 0)
    have h3 : cnt l (l.getD j 0) ≤ mx := by
      have hj' := hin _ (mem_getD hj)
      refine hm.2 _ (List.mem_map.2 ⟨(l.getD j 0).toNat, List.mem_range.2 (by omega), ?_⟩)
      congr 1; omega
    omega
  · rw [decide_eq_false hle]
    cases hb : rightB es i l with
    | false => rfl
    | true =>
      exfalso
      unfold rightB at hb
      simp only [Bool.and_eq_true, List.all_eq_true, List.mem_range] at hb
      have h1 := cnt_take_le l (fun j hj => by
        have := hb.2 j hj
        unfold rightAt at this
        simp only [Bool.and_eq_true, decide_eq_true_eq] at this
        exact this.2) l.length (Nat.le_refl _)
      rw [List.take_length] at h1
      obtain ⟨v, _, hv⟩ := List.mem_map.1 hm.1
      have := h1 (v : Int)
      omega

def sparseB (N : Int) (es : List (Int × Int)) (ls : List (List Int)) : Bool := validB N es && (decide (ls.length = es.length) && (List.range ls.length).all fun i => rightB es i (ls.getD i []))
theorem sparseB_invalid {N : Int} {es : List (Int × Int)} {ls : List (List Int)} (h : validB N es = false) : sparseB N es ls = false := by simp [sparseB, h]
theorem sparseB_len {N : Int} {es : List (Int × Int)} {ls : List (List Int)} (h : ls.length ≠ es.length) : sparseB N es ls = false := by simp [sparseB, h]
theorem sparseB_no {N : Int} {es : List (Int × Int)} {ls : List (List Int)} {i : Nat} (hi : i < ls.length) (h : rightB es i (ls.getD i []) = false) : sparseB N es ls = false := by
  unfold sparseB
  have : ((List.range ls.length).all fun i => rightB es i (ls.getD i [])) = false := by
    rw [List.all_eq_false]; exact ⟨i, by simpa using hi, by simp only [h]; decide⟩
  rw [this, Bool.and_false, Bool.and_false]
theorem sparseB_yes {N : Int} {es : List (Int × Int)} {ls : List (List Int)} (hv : validB N es = true) (hl : ls.length = es.length) (h : ∀ j, j < ls.length → rightB es j (ls.getD j []) = true) : sparseB N es ls = true := by
  unfold sparseB
  simp only [hv, hl, decide_true, Bool.true_and, List.all_eq_true, List.mem_range]
  intro j hj; exact h j (by omega)
theorem rights_step {es : List (Int × Int)} {ls : List (List Int)} {k : Nat} (h : ∀ j, j < k → rightB es j (ls.getD j []) = true) (hk : rightB es k (ls.getD k []) = true) : ∀ j, j < k + 1 → rightB es j (ls.getD j []) = true := fun j hj => by
  by_cases e : j = k
  · rw [e]; exact hk
  · exact h j (by omega)
theorem tails_step {es : List (Int × Int)} {i : Nat} {l : List Int} {k : Nat} (h : ∀ j, j < k → tailAt es i l j = true) (hk : tailAt es i l k = true) : ∀ j, j < k + 1 → tailAt es i l j = true := fun j hj => by
  by_cases e : j = k
  · rw [e]; exact hk
  · exact h j (by omega)
end Go.Proofs.YtpdbekgkopglgaaGreat
