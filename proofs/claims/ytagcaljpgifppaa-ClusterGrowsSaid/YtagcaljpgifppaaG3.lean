/-
  setsquareref33.Make: for every list of edges in memory.
-/
import Derived.Test.YtagcaljpgifppaaSpecK
import Derived.Test.YtagcaljpgifppaaG2
import Derived.Test.YtagcaljpgifppaaApp
import Derived.Test.YtagcaljpgifppaaOwnL
import Derived.Deep.DeepCutAuto
namespace Go.Proofs.Ytagcaljpgifppaa
set_option linter.unusedVariables false
set_option linter.unusedSimpArgs false
open Go.RowKit Go.Sort

def okP (N x y : Int) : Bool := decide (0 ≤ x) && decide (0 ≤ y) && decide (x < N) && decide (y < N) && !(x == y)
def okE (N : Int) (es : List (Int × Int)) : Bool := decide (0 ≤ N) && decide (N ≤ 60) && es.all fun e => okP N e.1 e.2
def mkE (N : Int) (es : List (Int × Int)) : Option (List (Int × Int)) := if okE N es then some (mkL N.toNat es) else none
theorem mkE_range {N : Int} {es : List (Int × Int)} (h : N < 0 ∨ 60 < N) : mkE N es = none := by
  have : okE N es = false := by
    unfold okE
    rcases h with h | h
    · rw [decide_eq_false (by omega : ¬ 0 ≤ N)]; rfl
    · rw [decide_eq_false (by omega : ¬ N ≤ 60)]; simp
  unfold mkE; rw [this]; rfl
theorem mkE_no {N : Int} {es : List (Int × Int)} {k : Nat} (hk : k < es.length) (x y : Int) (hxy : es.getD k (0, 0) = (x, y)) (h : okP N x y = false) : mkE N es = none := by
  have : okE N es = false := by
    unfold okE
    rw [Bool.and_eq_false_iff]
    right
    rw [List.all_eq_false]
    refine ⟨es.getD k (0, 0), ?_, by rw [hxy]; simp [h]⟩
    rw [List.getD_eq_getElem?_getD, List.getElem?_eq_getElem hk]; exact List.getElem_mem hk
  unfold mkE; rw [this]; rfl
theorem mkE_yes {n : Nat} {es : List (Int × Int)} (hn : n ≤ 60) (h : ∀ j, j < es.length → okP n (es.getD j (0, 0)).1 (es.getD j (0, 0)).2 = true) : mkE n es = some (mkL n es) := by
  have : okE n es = true := by
    unfold okE
    rw [decide_eq_true (by omega : (0 : Int) ≤ n), decide_eq_true (by omega : (n : Int) ≤ 60)]
    simp only [Bool.true_and, List.all_eq_true]
    intro e he
    obtain ⟨j, hj, rfl⟩ := List.getElem_of_mem he
    have := h j hj
    rwa [List.getD_eq_getElem?_getD, List.getElem?_eq_getElem hj] at this
  unfold mkE; rw [this]; rfl

def MakePost (w : World) (N : Int) (r : Option (List (Int × Int))) (e : Ending) (w' : World) : Prop :=
  Below w.heap.size w w' ∧ match r with
  | none => e = .returned (.tuple #[.agg #[.int .i64 0, .slice none 0 0], .int .i64 1])
  | some l => ∃ B c, e = .returned (.tuple #[.agg #[.int .i64 N, .slice B l.length c], .int .i64 0]) ∧ Own w' w.heap.size 42 2 B l.length c (prs l)

/-- The graph under way lies in the block behind wr, its edges in a block of the call's own behind that. -/
def MkInv (wr w2 : World) (n : Nat) (l : List (Int × Int)) : Prop :=
  Below wr.heap.size wr w2 ∧ wr.heap.size < w2.heap.size ∧ w2.frozen? ⟨wr.heap.size, 1, none⟩ = false ∧ w2.cell? ⟨wr.heap.size, 0, none⟩ = some (.int .i64 n) ∧
    ∃ B c, w2.cell? ⟨wr.heap.size, 1, none⟩ = some (.slice B l.length c) ∧ Own w2 (wr.heap.size + 1) 42 2 B l.length c (prs l)
theorem MkInv.start (wr : World) (n : Nat) : MkInv wr (wr.alloc (.cells #[.int .i64 n, .slice none 0 0] 24)) n [] :=
  ⟨(Below.refl _ _).alloc (Nat.le_refl _) _, by simp, by simp, by simp, none, 0, by simp, Own.nil _ _ _ _⟩
theorem Own.setOther {w : World} {base size n c : Nat} {e : TypeId} {A : Option Addr} {xs : List Value} (h : Own w base e size A n c xs) {p : Addr} (hp : p.block < base) (u : Value) : Own (w.setCell p u) base e size A n c xs := by
  refine ⟨h.1, ?_⟩
  rcases h.2 with h2 | ⟨g, cap, cur, hv, hg, hh, rest⟩
  · exact .inl h2
  · exact .inr ⟨g, cap, cur, hv, hg, by rw [Below.heap_setCell _ _ _ _ (by omega)]; exact hh, rest⟩
theorem rowK_len (es : List (Int × Int)) (a b : Nat) : (rowK es a b).length ≤ b := by
  unfold rowK
  rw [List.length_map]
  exact Nat.le_trans (List.length_filter_le _ _) (by simp)
theorem uptoK_len (es : List (Int × Int)) (n : Nat) : ∀ k, (uptoK es n k).length ≤ k * n
  | 0 => by simp [uptoK]
  | k + 1 => by
    have h1 := uptoK_len es n k
    have h2 := rowK_len es k n
    unfold uptoK
    rw [List.length_append, Nat.succ_mul]
    omega
theorem pairs_b {b : Bool} (A : Option Addr) (n c : Nat) (es : List (Int × Int)) (x y : Int) (w : World) (hn : n ≤ 4611686018427387904) (he : Rd w 2 A n (prs es)) (hb : pairsB es x y = b) :
    Calls Try.prog 108 #[.slice A n c, .int .i64 x, .int .i64 y] w fun e w' => e = .returned (.bool b) ∧ w = w' := by
  subst hb; exact pairs_any A n c es x y w hn he

set_option maxRecDepth 100000 in
set_option maxHeartbeats 4000000 in
theorem rmake_any (N : Int) (A : Option Addr) (m c : Nat) (es : List (Int × Int)) (w : World) (hm : m ≤ 1000) (he : Rd w 2 A m (prs es)) :
    Calls Try.prog 68 #[.int .i64 N, .slice A m c] w (MakePost w N (mkE N es)) := by
  have HE := Lib.hid he.prs_len
  have H1 := Lib.hid he
  clear he
  by_cases hN0 : N < 0
  · rw [mkE_range (.inl hN0)]
    go_enter Try.func68, Try.ntmps68
    go_wp2
    refine bodyPost_ret (v := .tuple #[.agg #[.int .i64 0, .slice none 0 0], .int .i64 1]) (by simp [results, Try.results68, go_sem]) rfl ⟨?_, rfl⟩
    exact (Below.refl _ _).alloc (Nat.le_refl _) _
  by_cases hN6 : 60 < N
  · rw [mkE_range (.inr hN6)]
    go_enter Try.func68, Try.ntmps68
    go_wp2
    refine bodyPost_ret (v := .tuple #[.agg #[.int .i64 0, .slice none 0 0], .int .i64 1]) (by simp [results, Try.results68, go_sem]) rfl ⟨?_, rfl⟩
    exact (Below.refl _ _).alloc (Nat.le_refl _) _
  obtain ⟨n, rfl⟩ : ∃ n : Nat, N = n := ⟨N.toNat, by omega⟩
  go_enter Try.func68, Try.ntmps68
  go_wp2
  go_loopw [6, 7, 8] (fun i _ _ wr => Below (w.heap.size + 1) (w.alloc (.cells #[.int .i64 0, .slice none 0 0] 24)) wr ∧ ∃ k : Nat, k ≤ m ∧ i = .int .i64 k ∧ ∀ j, j < k → okP n (es.getD j (0, 0)).1 (es.getD j (0, 0)).2 = true) (fun i _ _ _ => m - (intOf i).toNat)
  case atStart => exact ⟨Below.refl _ _, 0, Nat.zero_le _, rfl, by omega⟩
  case round =>
    obtain ⟨hb, k, hk, rfl, hok⟩ := hrel
    have HOK := Lib.hid hok
    have HB := Lib.hid hb
    have K := Lib.hid ((Keeps.alloc w _).trans (Keeps.of_below hb (by simp)))
    have r0 : wr.cell? ⟨w.heap.size, 0, none⟩ = some (.int .i64 0) := by rw [hb.cell (by simp)]; simp
    have r1 : wr.cell? ⟨w.heap.size, 1, none⟩ = some (.slice none 0 0) := by rw [hb.cell (by simp)]; simp
    have f0 : wr.frozen? ⟨w.heap.size, 0, none⟩ = false := by rw [hb.frozen (by simp)]; simp
    have f1 : wr.frozen? ⟨w.heap.size, 1, none⟩ = false := by rw [hb.frozen (by simp)]; simp
    have hwr := hb.size
    simp at hwr
    clear hok hb
    by_cases hlt : k < m
    · obtain ⟨ad, rfl, c0, c1⟩ := (H1.out.keep K.out).prs_at hlt
      generalize hxy : es.getD k (0, 0) = xy at c0 c1
      obtain ⟨x, y⟩ := xy
      simp only at c0 c1
      have HXY := Lib.hid hxy
      have k0 := grown_cell c0
      have k1 := grown_cell c1
      clear hxy
      by_cases hx0 : x < 0
      · skip
        go_wp2
        refine wp_region_q (by kernel_rfl) (by kernel_rfl) ?_
        repeat (go_big_quiet_step (fail))
        refine wpQuiet_nil ?_
        intro wq hgq
        have r0 : wq.cell? ⟨w.heap.size, 0, none⟩ = some (.int .i64 0) := by rw [hgq.cell (by simp; omega)]; exact r0
        have r1 : wq.cell? ⟨w.heap.size, 1, none⟩ = some (.slice none 0 0) := by rw [hgq.cell (by simp; omega)]; exact r1
        have f0 : wq.frozen? ⟨w.heap.size, 0, none⟩ = false := by rw [hgq.frozen (by simp; omega)]; exact f0
        have f1 : wq.frozen? ⟨w.heap.size, 1, none⟩ = false := by rw [hgq.frozen (by simp; omega)]; exact f1
        go_wp2
        refine bodyPost_ret (v := .tuple #[.agg #[.int .i64 0, .slice none 0 0], .int .i64 1]) (by simp [results, Try.results68, go_sem, r0, r1]) rfl ?_
        rw [mkE_no (by rw [HE.out]; exact hlt) x y HXY.out (by unfold okP; simp; omega)]
        refine ⟨?_, rfl⟩
        have hfin : Below w.heap.size w wq := ((Below.refl w.heap.size w).alloc (Nat.le_refl _) (.cells #[.int .i64 0, .slice none 0 0] 24)).trans ((HB.out.trans (hgq.mono (by omega))).mono (Nat.le_succ _))
        first
          | exact hfin
          | exact hfin.setCell (Nat.le_refl _) _
          | exact (hfin.setCell (Nat.le_refl _) _).setCell (Nat.le_refl _) _
      by_cases hy0 : y < 0
      · skip
        go_wp2
        refine wp_region_q (by kernel_rfl) (by kernel_rfl) ?_
        repeat (go_big_quiet_step (fail))
        refine wpQuiet_nil ?_
        intro wq hgq
        have r0 : wq.cell? ⟨w.heap.size, 0, none⟩ = some (.int .i64 0) := by rw [hgq.cell (by simp; omega)]; exact r0
        have r1 : wq.cell? ⟨w.heap.size, 1, none⟩ = some (.slice none 0 0) := by rw [hgq.cell (by simp; omega)]; exact r1
        have f0 : wq.frozen? ⟨w.heap.size, 0, none⟩ = false := by rw [hgq.frozen (by simp; omega)]; exact f0
        have f1 : wq.frozen? ⟨w.heap.size, 1, none⟩ = false := by rw [hgq.frozen (by simp; omega)]; exact f1
        go_wp2
        refine bodyPost_ret (v := .tuple #[.agg #[.int .i64 0, .slice none 0 0], .int .i64 1]) (by simp [results, Try.results68, go_sem, r0, r1]) rfl ?_
        rw [mkE_no (by rw [HE.out]; exact hlt) x y HXY.out (by unfold okP; simp; omega)]
        refine ⟨?_, rfl⟩
        have hfin : Below w.heap.size w wq := ((Below.refl w.heap.size w).alloc (Nat.le_refl _) (.cells #[.int .i64 0, .slice none 0 0] 24)).trans ((HB.out.trans (hgq.mono (by omega))).mono (Nat.le_succ _))
        first
          | exact hfin
          | exact hfin.setCell (Nat.le_refl _) _
          | exact (hfin.setCell (Nat.le_refl _) _).setCell (Nat.le_refl _) _
      by_cases hxn : (n : Int) ≤ x
      · skip
        go_wp2
        refine wp_region_q (by kernel_rfl) (by kernel_rfl) ?_
        repeat (go_big_quiet_step (fail))
        refine wpQuiet_nil ?_
        intro wq hgq
        have r0 : wq.cell? ⟨w.heap.size, 0, none⟩ = some (.int .i64 0) := by rw [hgq.cell (by simp; omega)]; exact r0
        have r1 : wq.cell? ⟨w.heap.size, 1, none⟩ = some (.slice none 0 0) := by rw [hgq.cell (by simp; omega)]; exact r1
        have f0 : wq.frozen? ⟨w.heap.size, 0, none⟩ = false := by rw [hgq.frozen (by simp; omega)]; exact f0
        have f1 : wq.frozen? ⟨w.heap.size, 1, none⟩ = false := by rw [hgq.frozen (by simp; omega)]; exact f1
        go_wp2
        refine bodyPost_ret (v := .tuple #[.agg #[.int .i64 0, .slice none 0 0], .int .i64 1]) (by simp [results, Try.results68, go_sem, r0, r1]) rfl ?_
        rw [mkE_no (by rw [HE.out]; exact hlt) x y HXY.out (by unfold okP; simp; omega)]
        refine ⟨?_, rfl⟩
        have hfin : Below w.heap.size w wq := ((Below.refl w.heap.size w).alloc (Nat.le_refl _) (.cells #[.int .i64 0, .slice none 0 0] 24)).trans ((HB.out.trans (hgq.mono (by omega))).mono (Nat.le_succ _))
        first
          | exact hfin
          | exact hfin.setCell (Nat.le_refl _) _
          | exact (hfin.setCell (Nat.le_refl _) _).setCell (Nat.le_refl _) _
      by_cases hyn : (n : Int) ≤ y
      · skip
        go_wp2
        refine wp_region_q (by kernel_rfl) (by kernel_rfl) ?_
        repeat (go_big_quiet_step (fail))
        refine wpQuiet_nil ?_
        intro wq hgq
        have r0 : wq.cell? ⟨w.heap.size, 0, none⟩ = some (.int .i64 0) := by rw [hgq.cell (by simp; omega)]; exact r0
        have r1 : wq.cell? ⟨w.heap.size, 1, none⟩ = some (.slice none 0 0) := by rw [hgq.cell (by simp; omega)]; exact r1
        have f0 : wq.frozen? ⟨w.heap.size, 0, none⟩ = false := by rw [hgq.frozen (by simp; omega)]; exact f0
        have f1 : wq.frozen? ⟨w.heap.size, 1, none⟩ = false := by rw [hgq.frozen (by simp; omega)]; exact f1
        go_wp2
        refine bodyPost_ret (v := .tuple #[.agg #[.int .i64 0, .slice none 0 0], .int .i64 1]) (by simp [results, Try.results68, go_sem, r0, r1]) rfl ?_
        rw [mkE_no (by rw [HE.out]; exact hlt) x y HXY.out (by unfold okP; simp; omega)]
        refine ⟨?_, rfl⟩
        have hfin : Below w.heap.size w wq := ((Below.refl w.heap.size w).alloc (Nat.le_refl _) (.cells #[.int .i64 0, .slice none 0 0] 24)).trans ((HB.out.trans (hgq.mono (by omega))).mono (Nat.le_succ _))
        first
          | exact hfin
          | exact hfin.setCell (Nat.le_refl _) _
          | exact (hfin.setCell (Nat.le_refl _) _).setCell (Nat.le_refl _) _
      by_cases hxy : x = y
      · have hxyb : (x == y) = true := by simpa using hxy
        go_wp2
        refine wp_region_q (by kernel_rfl) (by kernel_rfl) ?_
        repeat (go_big_quiet_step (fail))
        refine wpQuiet_nil ?_
        intro wq hgq
        have r0 : wq.cell? ⟨w.heap.size, 0, none⟩ = some (.int .i64 0) := by rw [hgq.cell (by simp; omega)]; exact r0
        have r1 : wq.cell? ⟨w.heap.size, 1, none⟩ = some (.slice none 0 0) := by rw [hgq.cell (by simp; omega)]; exact r1
        have f0 : wq.frozen? ⟨w.heap.size, 0, none⟩ = false := by rw [hgq.frozen (by simp; omega)]; exact f0
        have f1 : wq.frozen? ⟨w.heap.size, 1, none⟩ = false := by rw [hgq.frozen (by simp; omega)]; exact f1
        go_wp2
        refine bodyPost_ret (v := .tuple #[.agg #[.int .i64 0, .slice none 0 0], .int .i64 1]) (by simp [results, Try.results68, go_sem, r0, r1]) rfl ?_
        rw [mkE_no (by rw [HE.out]; exact hlt) x y HXY.out (by unfold okP; simp; omega)]
        refine ⟨?_, rfl⟩
        have hfin : Below w.heap.size w wq := ((Below.refl w.heap.size w).alloc (Nat.le_refl _) (.cells #[.int .i64 0, .slice none 0 0] 24)).trans ((HB.out.trans (hgq.mono (by omega))).mono (Nat.le_succ _))
        first
          | exact hfin
          | exact hfin.setCell (Nat.le_refl _) _
          | exact (hfin.setCell (Nat.le_refl _) _).setCell (Nat.le_refl _) _
      have hxyb : (x == y) = false := by simpa using hxy
      · skip
        go_wp2
        refine wp_region_q (by kernel_rfl) (by kernel_rfl) ?_
        repeat (go_big_quiet_step (fail))
        refine wpQuiet_nil ?_
        intro wq hgq
        have r0 : wq.cell? ⟨w.heap.size, 0, none⟩ = some (.int .i64 0) := by rw [hgq.cell (by simp; omega)]; exact r0
        have r1 : wq.cell? ⟨w.heap.size, 1, none⟩ = some (.slice none 0 0) := by rw [hgq.cell (by simp; omega)]; exact r1
        have f0 : wq.frozen? ⟨w.heap.size, 0, none⟩ = false := by rw [hgq.frozen (by simp; omega)]; exact f0
        have f1 : wq.frozen? ⟨w.heap.size, 1, none⟩ = false := by rw [hgq.frozen (by simp; omega)]; exact f1
        go_wp2
        go_roundw
        case rel => exact ⟨HB.out.trans (hgq.mono (by omega)), k + 1, by omega, by go_num, fun j hj => by
          by_cases e : j = k
          · subst e; rw [HXY.out]; unfold okP; simp; omega
          · exact HOK.out j (by omega)⟩
        case measure => simp [intOf]; omega
    · have hmk : mkE n es = some (mkL n es) := mkE_yes (by omega) (fun j hj => HOK.out j (by have := HE.out; omega))
      have HMK := Lib.hid hmk
      clear hmk HOK
      rename World => w1
      go_wp2
      go_loopw [10] (fun a w2 => ∃ k : Nat, k ≤ n ∧ a = .int .i64 k ∧ MkInv w1 w2 n (uptoK es n k)) (fun a _ => n - (intOf a).toNat)
      case atStart => exact ⟨0, Nat.zero_le _, rfl, MkInv.start w1 n⟩
      case round =>
        obtain ⟨k1, hk1, rfl, hinv⟩ := hrel
        have INV := Lib.hid hinv
        clear hinv
        by_cases hlt1 : k1 < n
        · go_wp2
          go_loopw [11] (fun b w3 => ∃ j : Nat, k1 + 1 ≤ j ∧ j ≤ n ∧ b = .int .i64 j ∧ MkInv w1 w3 n (uptoK es n k1 ++ rowK es k1 j)) (fun b _ => n - (intOf b).toNat)
          case atStart => exact ⟨k1 + 1, Nat.le_refl _, by omega, by go_num, by rw [rowK_start _ _ _ (Nat.le_refl _), List.append_nil]; exact INV.out⟩
          case round =>
            rename World => w3
            obtain ⟨j, hj1, hj2, rfl, hinv3⟩ := hrel
            have INV3 := Lib.hid hinv3
            clear hinv3
            by_cases hlt2 : j < n
            · obtain ⟨hb3, hs3, fz3, cg0, B, cB, cg1, own⟩ := INV3.out
              have OWN := Lib.hid own
              have HB3 := Lib.hid hb3
              have RD := Lib.hid (H1.out.keep ((Keeps.alloc w _).trans (Keeps.of_below (HB.out.trans (hb3.mono hwr)) (by simp))))
              have hlen1 := uptoK_len es n k1
              have hlen2 := rowK_len es k1 j
              have hlen3 : k1 * n ≤ 60 * 60 := Nat.mul_le_mul (by omega) (by omega)
              generalize hL : (uptoK es n k1 ++ rowK es k1 j).length = q at cg1 OWN
              have hq : q ≤ 3700 := by rw [← hL, List.length_append]; omega
              have HL := Lib.hid hL
              clear own hb3 hlen1 hlen2 hlen3 hL
              cases hp : pairsB es k1 j with
              | false =>
                have HP := Lib.hid hp
                clear hp
                go_wp2_with (go_at_call 108; refine (pairs_b (b := false) A m c es k1 j _ (by omega) RD.out HP.out).mono ?_; rintro e w4 ⟨rfl, rfl⟩)
                go_roundw
                case rel => exact ⟨j + 1, by omega, by omega, by go_num, by rw [rowK_succ, HP.out, Bool.and_false, if_neg (by simp), List.append_nil]; exact INV3.out⟩
                case measure => simp [intOf]; omega
              | true =>
                have HP := Lib.hid hp
                clear hp
                go_wp2_with (first
                  | (go_at_call 108; refine (pairs_b (b := true) A m c es k1 j _ (by omega) RD.out HP.out).mono ?_; rintro e w4 ⟨rfl, rfl⟩)
                  | (at_builtin; refine wpList_app _ rfl (.tmp 76) (.tmp 80) 22 rfl (w1.heap.size + 1) 42 (.agg #[.int .i64 0, .int .i64 0]) 2 16 Try.underlying22 info_pair rfl (by decide) B q cB (prs (uptoK es n k1 ++ rowK es k1 j)) rfl (OWN.out.alloc _) (some ⟨w3.heap.size, 0, none⟩) 1 1 (prs [((k1 : Int), (j : Int))]) rfl (rd_lit2_at rfl [((k1 : Int), (j : Int))] _) (prs_one _) (by omega) (by unfold maxLen; omega) (by simp; omega) ?_; intro B4 c4 w4 ho4 hg4 hb4; have OWN4 := Lib.hid ho4; have S3 : Hid (Below (w1.heap.size + 1) w3 w4) := (((Below.refl _ _).alloc (by omega) _).grown hg4 (by simp; omega) (fun b hb => (OWN.out.lt hb).1)); have hs4 := S3.out.size; have fz4 : w4.frozen? ⟨w1.heap.size, 1, none⟩ = false := (by rw [S3.out.frozen (by simp)]; exact fz3); have cg04 : w4.cell? ⟨w1.heap.size, 0, none⟩ = some (.int .i64 n) := (by rw [S3.out.cell (by simp)]; exact cg0); have cg14 : w4.cell? ⟨w1.heap.size, 1, none⟩ = some (.slice B q cB) := (by rw [S3.out.cell (by simp)]; exact cg1); clear ho4 hg4 hb4))
                have hsz4 : w4.heap.size = (w4.setCell ⟨w1.heap.size, 1, none⟩ (.slice B4 (q + 1) c4)).heap.size := by simp
                refine ⟨⟨j + 1, by omega, by omega, by go_num, ?_⟩, by simp [intOf]; omega⟩
                have e1 : uptoK es n k1 ++ rowK es k1 (j + 1) = (uptoK es n k1 ++ rowK es k1 j) ++ [((k1 : Int), (j : Int))] := by
                  rw [rowK_succ, HP.out, decide_eq_true (by omega : k1 < j), Bool.and_self, if_pos rfl, List.append_assoc]
                rw [e1]
                refine ⟨(HB3.out.trans (S3.out.mono (by omega))).setCell (by simp) _, by simp; omega, by simp; exact fz4, by rw [World.cell?_setCell_other _ _ _ _ (by simp)]; exact cg04, B4, c4, ?_, ?_⟩
                · rw [List.length_append, HL.out]; exact World.cell?_setCell_same _ _ _ cg14
                · rw [List.length_append, HL.out, prs_app]; exact OWN4.out.setOther (by simp) _
            · obtain rfl : j = n := by omega
              go_wp2
              go_roundw
              case rel => exact ⟨k1 + 1, by omega, by go_num, INV3.out⟩
              case measure => simp [intOf]; omega
        · obtain rfl : k1 = n := by omega
          obtain ⟨hb2, hs2, fz2, cg0, B, cB, cg1, own⟩ := INV.out
          have OWN := Lib.hid own
          have HB2 := Lib.hid hb2
          have r0 : wr.cell? ⟨w.heap.size, 0, none⟩ = some (.int .i64 0) := by rw [hb2.cell (by simp; omega)]; exact r0
          have r1 : wr.cell? ⟨w.heap.size, 1, none⟩ = some (.slice none 0 0) := by rw [hb2.cell (by simp; omega)]; exact r1
          have f0 : wr.frozen? ⟨w.heap.size, 0, none⟩ = false := by rw [hb2.frozen (by simp; omega)]; exact f0
          have f1 : wr.frozen? ⟨w.heap.size, 1, none⟩ = false := by rw [hb2.frozen (by simp; omega)]; exact f1
          clear own hb2
          go_wp2
          rw [HMK.out]
          refine bodyPost_ret (v := .tuple #[.agg #[.int .i64 k1, .slice B (uptoK es k1 k1).length cB], .int .i64 0]) (by simp [results, Try.results68, go_sem, r0, r1]) rfl ?_
          have hfin : Below w.heap.size w wr := ((Below.refl w.heap.size w).alloc (Nat.le_refl _) (.cells #[.int .i64 0, .slice none 0 0] 24)).trans ((HB.out.trans (HB2.out.mono (by omega))).mono (Nat.le_succ _))
          refine ⟨(hfin.setCell (Nat.le_refl _) _).setCell (Nat.le_refl _) _, B, cB, rfl, ?_⟩
          exact ((OWN.out.setOther (by simp; omega) _).setOther (by simp; omega) _).base_le (by omega)
end Go.Proofs.Ytagcaljpgifppaa
