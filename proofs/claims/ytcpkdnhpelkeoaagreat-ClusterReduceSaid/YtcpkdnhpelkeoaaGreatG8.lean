/-
  graph.Make: for every list of edges in memory.
-/
import Derived.Test.YtcpkdnhpelkeoaaGreatG7
import Derived.Deep.RegionLaw
import Derived.Deep.DrawnRows
namespace Go.Proofs.YtcpkdnhpelkeoaaGreat
set_option linter.unusedVariables false
set_option linter.unusedSimpArgs false
open Go.RowKit Go.Sort

attribute [local go_sem ↓] Go.wp_at_zero Go.wp_at_succ
/-- A call of a Go function as one step of a region that draws, by its contract. -/
theorem step_call {P : Program} {ops : Array Oper} {o : Oper} {a : Act} {w : World} {K : Act → World → Prop} {Q : Exit → Act → World → Prop} {E : Prop} (hgd : o.guard = none) (f : FuncId) (xs : Array Operand) (ts : Array TypeId)
    (ho : o.op = .call { callee := .value (.func f), args := xs, argTypes := ts }) (eg : ∀ args w, (callFunc f args).run P w = .ok (.enter f args) w) (args : Array Value) (hargs : xs.map a.eval = args) (v : Value) {R : World → Prop}
    (h : Calls P f args w fun e w' => e = .returned v ∧ R w') (hK : ∀ w', R w' → K (a.put o.dst v) w') :
    if Region.wanted o (yielded ops a.tmps) = true then Oper.wp P o a w K Q else E := by
  have hw : Region.wanted o (yielded ops a.tmps) = true := by simp [Region.wanted, hgd]
  rw [if_pos hw]
  subst hargs
  unfold Oper.wp
  simp [execOp, ho, resolve, Deferred.ofValue, invoke, eg, Act.eval]
  refine h.mono ?_
  rintro e w' ⟨rfl, hr⟩
  exact hK w' hr
theorem has_b {b : Bool} (n k : Int) (w : World) (hb : hasB n k = b) : Calls Tryz.prog 44 #[.int .i64 n, .int .i64 k] w fun e w' => e = .returned (.bool b) ∧ w = w' := by
  subst hb; exact has_any n k w
theorem mkI_len (es : List (Int × Int)) : (mkI es).length = es.length := by simp [mkI]
theorem mkI_step {es : List (Int × Int)} {k : Nat} (hk : k < es.length) {x y : Int} (hxy : es.getD k (0, 0) = (x, y)) : mkI (es.take (k + 1)) = mkI (es.take k) ++ [edgeI (x, y)] := by
  unfold mkI
  rw [List.take_succ_eq_append_getElem hk, List.map_append]
  rw [List.getD_eq_getElem?_getD, List.getElem?_eq_getElem hk] at hxy
  simp only [Option.getD_some] at hxy
  rw [hxy]; rfl
theorem okP_of {N x y : Int} (h1 : hasB N x = true) (h2 : hasB N y = true) (h3 : (x == y) = false) : okP N x y = true := by
  unfold okP hasB at *
  simp only [Bool.and_eq_true, decide_eq_true_eq] at *
  rw [h3]; simp; omega
theorem okP_no {N x y : Int} (h : hasB N x = false ∨ hasB N y = false ∨ (x == y) = true) : okP N x y = false := by
  unfold okP hasB at *
  rcases h with h | h | h
  · simp only [Bool.and_eq_false_iff, decide_eq_false_iff_not] at h ⊢; omega
  · simp only [Bool.and_eq_false_iff, decide_eq_false_iff_not] at h ⊢; omega
  · rw [h]; simp

set_option maxRecDepth 100000 in
set_option maxHeartbeats 8000000 in
theorem gmake_any (N : Int) (A : Option Addr) (m c : Nat) (es : List (Int × Int)) (w : World) (hm : m ≤ 1000) (he : Rd w 2 A m (prs es)) :
    Calls Tryz.prog 54 #[.int .i64 N, .slice A m c] w (MakePost w N (mkE N es)) := by
  have HE := Lib.hid he.prs_len
  have H1 := Lib.hid he
  clear he
  by_cases hN0 : N < 0
  · rw [mkE_range (.inl hN0)]
    go_enter Tryz.func54, Tryz.ntmps54
    go_wp2
    refine bodyPost_ret (v := .tuple #[.agg #[.int .i64 0, .slice none 0 0], .int .i64 1]) (by simp [results, Tryz.results54, go_sem]) rfl ⟨?_, rfl⟩
    exact (Below.refl _ _).alloc (Nat.le_refl _) _
  by_cases hN6 : 60 < N
  · rw [mkE_range (.inr hN6)]
    go_enter Tryz.func54, Tryz.ntmps54
    go_wp2
    refine bodyPost_ret (v := .tuple #[.agg #[.int .i64 0, .slice none 0 0], .int .i64 1]) (by simp [results, Tryz.results54, go_sem]) rfl ⟨?_, rfl⟩
    exact (Below.refl _ _).alloc (Nat.le_refl _) _
  obtain ⟨n, rfl⟩ : ∃ n : Nat, N = n := ⟨N.toNat, by omega⟩
  go_enter Tryz.func54, Tryz.ntmps54
  go_wp2
  go_loopw [8, 20] (fun _ i wr => MkInv (w.alloc (.cells #[.int .i64 0, .slice none 0 0] 31)) wr n (mkI (es.take (intOf i).toNat)) ∧ ∃ k : Nat, k ≤ m ∧ i = .int .i64 k ∧ ∀ j, j < k → okP n (es.getD j (0, 0)).1 (es.getD j (0, 0)).2 = true) (fun _ i _ => m - (intOf i).toNat)
  case atStart => exact ⟨MkInv.start _ n, 0, Nat.zero_le _, rfl, by omega⟩
  case round =>
    obtain ⟨hinv, k, hk, rfl, hok⟩ := hrel
    have HOK := Lib.hid hok
    have e0 : (intOf (.int .i64 (k : Int))).toNat = k := by simp [intOf]
    rw [e0] at hinv
    clear e0 hok
    obtain ⟨hb, hs, fz, cg0, B, cB, cg1, own⟩ := hinv
    have hsz : (w.alloc (.cells #[.int .i64 0, .slice none 0 0] 31)).heap.size = w.heap.size + 1 := by simp
    rw [hsz] at hb hs fz cg0 cg1 own
    clear hsz
    have OWN := Lib.hid own
    have HB := Lib.hid hb
    have K := Lib.hid ((Keeps.alloc w _).trans (Keeps.of_below hb (by simp)))
    have r0 : wr.cell? ⟨w.heap.size, 0, none⟩ = some (.int .i64 0) := by rw [hb.cell (by simp)]; simp
    have r1 : wr.cell? ⟨w.heap.size, 1, none⟩ = some (.slice none 0 0) := by rw [hb.cell (by simp)]; simp
    have f0 : wr.frozen? ⟨w.heap.size, 0, none⟩ = false := by rw [hb.frozen (by simp)]; simp
    have f1 : wr.frozen? ⟨w.heap.size, 1, none⟩ = false := by rw [hb.frozen (by simp)]; simp
    clear hb own
    have hfin : Hid (Below w.heap.size w wr) := ((Below.refl w.heap.size w).alloc (Nat.le_refl _) _).trans (HB.out.mono (by omega))
    by_cases hlt : k < m
    · obtain ⟨ad, rfl, c0, c1⟩ := (H1.out.keep K.out).prs_at hlt
      generalize hxy : es.getD k (0, 0) = xy at c0 c1
      obtain ⟨x, y⟩ := xy
      simp only at c0 c1
      have HXY := Lib.hid hxy
      have hlw : w.heap.size < wr.heap.size := by omega
      have hlw1 : w.heap.size + 1 < wr.heap.size := by omega
      have ra0 : (((wr.setCell ⟨w.heap.size, 0, none⟩ (.int .i64 0)).setCell ⟨w.heap.size, 1, none⟩ (.slice none 0 0)).alloc (.cells #[.int .i64 x, .int .i64 y] 28)).cell? ⟨w.heap.size, 0, none⟩ = some (.int .i64 0) := by
        rw [World.cell?_alloc_lt _ _ _ (by simp; exact hlw), World.cell?_setCell_other _ _ _ _ (by simp), World.cell?_setCell_same _ _ _ r0]
      have ra1 : (((wr.setCell ⟨w.heap.size, 0, none⟩ (.int .i64 0)).setCell ⟨w.heap.size, 1, none⟩ (.slice none 0 0)).alloc (.cells #[.int .i64 x, .int .i64 y] 28)).cell? ⟨w.heap.size, 1, none⟩ = some (.slice none 0 0) := by
        rw [World.cell?_alloc_lt _ _ _ (by simp; exact hlw), World.cell?_setCell_same (u := .slice none 0 0) _ _ _ (by rw [World.cell?_setCell_other _ _ _ _ (by simp)]; exact r1)]
      have fa0 : (wr.alloc (.cells #[.int .i64 x, .int .i64 y] 28)).frozen? ⟨w.heap.size, 0, none⟩ = false := by rw [((Below.refl (w.heap.size + 1) wr).alloc (by omega) _).frozen (by simp)]; exact f0
      have fa1 : (wr.alloc (.cells #[.int .i64 x, .int .i64 y] 28)).frozen? ⟨w.heap.size, 1, none⟩ = false := by rw [((Below.refl (w.heap.size + 1) wr).alloc (by omega) _).frozen (by simp)]; exact f1
      clear hxy
      cases hx : hasB n x
      · have HX := Lib.hid hx
        clear hx
        go_wp2_with (go_at_call 44; refine (has_b (b := false) n x _ HX.out).mono ?_; rintro e w1 ⟨rfl, rfl⟩)
        refine bodyPost_ret (v := .tuple #[.agg #[.int .i64 0, .slice none 0 0], .int .i64 1]) (by simp [results, Tryz.results54, go_sem, ra0, ra1]) rfl ?_
        rw [mkE_no (by rw [HE.out]; exact hlt) x y HXY.out (okP_no (.inl HX.out))]
        refine ⟨?_, rfl⟩
        exact ((hfin.out.setCell (Nat.le_refl _) _).setCell (Nat.le_refl _) _).alloc (by simp; omega) _
      have HX := Lib.hid hx
      clear hx
      cases hy : hasB n y
      · have HY := Lib.hid hy
        clear hy
        go_wp2_with (first
          | (go_at_call 44; (with_reducible refine (has_b (b := true) n x _ HX.out).mono ?_); rintro e w1 ⟨rfl, rfl⟩)
          | (go_at_call 44; (with_reducible refine (has_b (b := false) n y _ HY.out).mono ?_); rintro e w1 ⟨rfl, rfl⟩))
        refine bodyPost_ret (v := .tuple #[.agg #[.int .i64 0, .slice none 0 0], .int .i64 1]) (by simp [results, Tryz.results54, go_sem, ra0, ra1]) rfl ?_
        rw [mkE_no (by rw [HE.out]; exact hlt) x y HXY.out (okP_no (.inr (.inl HY.out)))]
        refine ⟨?_, rfl⟩
        exact ((hfin.out.setCell (Nat.le_refl _) _).setCell (Nat.le_refl _) _).alloc (by simp; omega) _
      have HY := Lib.hid hy
      clear hy
      cases hq : (x == y)
      · have hlen : (mkI (es.take k)).length = k := by rw [mkI_len, List.length_take, HE.out]; omega
        have HMK : Hid (mkI (es.take (k + 1)) = mkI (es.take k) ++ [edgeI (x, y)]) := mkI_step (by rw [HE.out]; exact hlt) HXY.out
        generalize hMM : mkI (es.take k) = MM at *
        rw [hlen] at cg1 OWN
        generalize hee : edgeI (x, y) = ee at *
        obtain ⟨ex, ey⟩ := ee
        have HEE := Lib.hid hee
        have HMM := Lib.hid hMM
        have HLEN := Lib.hid hlen
        clear hee hMM hlen
        have OKXY : Hid (okP n x y = true) := okP_of HX.out HY.out hq
        go_wp2_with (first
          | (go_at_call 44; (with_reducible refine (has_b (b := true) n x _ HX.out).mono ?_); rintro e w1 ⟨rfl, rfl⟩)
          | (go_at_call 44; (with_reducible refine (has_b (b := true) n y _ HY.out).mono ?_); rintro e w1 ⟨rfl, rfl⟩))
        have l0 : (wr.alloc (.cells #[.int .i64 x, .int .i64 y] 28)).cell? ⟨w.heap.size + 1, 1, none⟩ = some (.slice B k cB) := by rw [World.cell?_alloc_lt _ _ _ hlw1]; exact cg1
        have l1 : (wr.alloc (.cells #[.int .i64 x, .int .i64 y] 28)).cell? ⟨wr.heap.size, 0, none⟩ = some (.int .i64 x) := by simp
        have l2 : (wr.alloc (.cells #[.int .i64 x, .int .i64 y] 28)).cell? ⟨wr.heap.size, 1, none⟩ = some (.int .i64 y) := by simp
        have cE := fun w' => edge_any x y w'
        rw [HEE.out] at cE
        have CE := Lib.hid cE
        clear cE
        have EG : ∀ args w, (callFunc 49 args).run Tryz.prog w = .ok (.enter 49 args) w := enters_of Tryz.func49 (by kernel_rfl) rfl
        have EGH := Lib.hid EG
        clear EG
        go_region_law ((first
            | (refine step_call rfl 49 #[.tmp 47, .tmp 49] #[3, 3] rfl EGH.out #[.int .i64 x, .int .i64 y] (by simp [Act.eval, Act.put]) _ (CE.out _) ?_; intro wq hgq; have hqz := hgq.size; simp at hqz; have t0 : wq.cell? ⟨w.heap.size + 1, 1, none⟩ = some (.slice B k cB) := (by rw [hgq.cell (by simp; omega)]; exact l0); have t1 : wq.cell? ⟨wr.heap.size, 0, none⟩ = some (.int .i64 x) := (by rw [hgq.cell (by simp)]; exact l1); have t2 : wq.cell? ⟨wr.heap.size, 1, none⟩ = some (.int .i64 y) := (by rw [hgq.cell (by simp)]; exact l2); have t0a : (wq.alloc (.cells #[.int .i64 ex, .int .i64 ey] 28)).cell? ⟨w.heap.size + 1, 1, none⟩ = some (.slice B k cB) := (by rw [World.cell?_alloc_lt _ _ _ (by simp; omega)]; exact t0); have bq : Hid (Below (w.heap.size + 2) wr wq) := (((Below.refl _ _).alloc (by omega) _).drew).trans (hgq.mono (by simp; omega)); have OQ : Hid (Own wq (w.heap.size + 2) 28 2 B k cB (prs MM)) := Own.later (w := (wr.alloc (.cells #[.int .i64 x, .int .i64 y] 28)).drew) (OWN.out.alloc (.cells #[.int .i64 x, .int .i64 y] 28)) hgq; clear hgq)
            | (refine step_app _ rfl (.tmp 45) (.tmp 51) 29 rfl (w.heap.size + 2) 28 (.agg #[.int .i64 0, .int .i64 0]) 2 16 Tryz.underlying29 info_pair rfl (by decide) B k cB (prs MM) (by simp [Act.eval, Act.put]) (OQ.out.alloc _) (some ⟨wq.heap.size, 0, none⟩) 1 1 (prs [(ex, ey)]) (by simp [Act.eval, Act.put]) (rd_lit2_at rfl [(ex, ey)] _) (prs_one _) (by omega) (by unfold maxLen; omega) (by simp; omega) ?_; intro B4 c4 w4 ho4 hg4 hb4; have OWN4 := Lib.hid ho4; have z1 : w4.cell? ⟨wr.heap.size, 0, none⟩ = some (.int .i64 x) := World.grownBy.cell hg4 (by rw [World.cell?_alloc_lt _ _ _ (by simp; omega)]; exact t1) (fun e => absurd (OWN.out.lt e.symm).2 (by simp)); have z2 : w4.cell? ⟨wr.heap.size, 1, none⟩ = some (.int .i64 y) := World.grownBy.cell hg4 (by rw [World.cell?_alloc_lt _ _ _ (by simp; omega)]; exact t2) (fun e => absurd (OWN.out.lt e.symm).2 (by simp)); have S3 : Hid (Below (w.heap.size + 2) wr w4) := bq.out.trans ((((Below.refl _ _).alloc (by omega) _).grown hg4 (by simp; omega) (fun b hb => (OQ.out.lt hb).1))); have hs4 := S3.out.size; have fz4 : w4.frozen? ⟨w.heap.size + 1, 1, none⟩ = false := (by rw [S3.out.frozen (by simp)]; exact fz); have cg04 : w4.cell? ⟨w.heap.size + 1, 0, none⟩ = some (.int .i64 n) := (by rw [S3.out.cell (by simp)]; exact cg0); have cg14 : w4.cell? ⟨w.heap.size + 1, 1, none⟩ = some (.slice B k cB) := (by rw [S3.out.cell (by simp)]; exact cg1); clear ho4 hg4 hb4)
            | fail))
        all_goals
         go_wp2
         go_roundw
         case rel =>
          refine ⟨?_, k + 1, by omega, by go_num, fun j hj => ?_⟩
          · have e0 : (intOf (.int .i64 ((k : Int) + 1))).toNat = k + 1 := by simp [intOf]
            rw [e0, HMK.out]
            have hsz : (w.alloc (.cells #[.int .i64 0, .slice none 0 0] 31)).heap.size = w.heap.size + 1 := by simp
            unfold MkInv
            rw [hsz]
            refine ⟨(HB.out.trans (S3.out.mono (by omega))).setCell (by simp) _, by simp; omega, by simp; exact fz4, by rw [World.cell?_setCell_other _ _ _ _ (by simp)]; exact cg04, B4, c4, ?_, ?_⟩
            · rw [List.length_append, HLEN.out]; exact World.cell?_setCell_same _ _ _ cg14
            · rw [List.length_append, HLEN.out, prs_app]; exact OWN4.out.setOther (by simp) _
          · by_cases e : j = k
            · subst e; rw [HXY.out]; exact OKXY.out
            · exact HOK.out j (by omega)
         case measure => simp [intOf]; omega
      · go_wp2_with (first
          | (go_at_call 44; (with_reducible refine (has_b (b := true) n x _ HX.out).mono ?_); rintro e w1 ⟨rfl, rfl⟩)
          | (go_at_call 44; (with_reducible refine (has_b (b := true) n y _ HY.out).mono ?_); rintro e w1 ⟨rfl, rfl⟩))
        refine bodyPost_ret (v := .tuple #[.agg #[.int .i64 0, .slice none 0 0], .int .i64 1]) (by simp [results, Tryz.results54, go_sem, ra0, ra1]) rfl ?_
        rw [mkE_no (by rw [HE.out]; exact hlt) x y HXY.out (okP_no (.inr (.inr hq)))]
        refine ⟨?_, rfl⟩
        exact ((hfin.out.setCell (Nat.le_refl _) _).setCell (Nat.le_refl _) _).alloc (by simp; omega) _
    · obtain rfl : k = m := by omega
      have hmk : mkE n es = some (mkL n es) := mkE_yes (by omega) (fun j hj => HOK.out j (by have := HE.out; omega))
      have HMK := Lib.hid hmk
      have hall : ∀ e ∈ es, okP n e.1 e.2 = true := fun e he => by
        obtain ⟨j, hj, rfl⟩ := List.getElem_of_mem he
        have := HOK.out j (by have := HE.out; omega)
        rw [List.getD_eq_getElem?_getD, List.getElem?_eq_getElem hj] at this
        exact this
      have HALL := Lib.hid hall
      clear hmk HOK hall
      rw [List.take_of_length_le (by rw [HE.out]; exact Nat.le_refl _)] at OWN cg1
      rw [mkI_len, HE.out] at OWN cg1
      go_wp2_with (first
        | (go_at_call 74; refine (sort_own B k cB (mkI es) _ (w.heap.size + 2) OWN.out (by omega)).mono ?_; rintro e w2 ⟨rfl, l2, hp2, hs2, ho2, hg2⟩; have b2 : Below (w.heap.size + 2) wr w2 := (Below.refl _ _).grown hg2 (by omega) (fun b hb => (OWN.out.lt hb).1); have q0 : w2.cell? ⟨w.heap.size + 1, 0, none⟩ = some (.int .i64 n) := (by rw [b2.cell (by simp)]; exact cg0); have q1 : w2.cell? ⟨w.heap.size + 1, 1, none⟩ = some (.slice B k cB) := (by rw [b2.cell (by simp)]; exact cg1); have hs2z := b2.size; have B2 := Lib.hid b2; have OW2 := Lib.hid ho2; have HP2 := Lib.hid hp2; have HS2 := Lib.hid hs2; clear hg2 b2 ho2 hp2 hs2)
        | (go_at_call 75; refine (compact_own B k cB l2 _ (w.heap.size + 2) OW2.out (by omega)).mono ?_; rintro e w3 ⟨rfl, ho3, hg3⟩; have b3 : Below (w.heap.size + 2) w2 w3 := (Below.refl _ _).grown hg3 (by omega) (fun b hb => (OW2.out.lt hb).1); have q03 : w3.cell? ⟨w.heap.size + 1, 0, none⟩ = some (.int .i64 n) := (by rw [b3.cell (by simp)]; exact q0); have q13 : w3.cell? ⟨w.heap.size + 1, 1, none⟩ = some (.slice B k cB) := (by rw [b3.cell (by simp)]; exact q1); have fz3 : w3.frozen? ⟨w.heap.size + 1, 1, none⟩ = false := (by rw [b3.frozen (by simp), B2.out.frozen (by simp)]; exact fz); have r03 : w3.cell? ⟨w.heap.size, 0, none⟩ = some (.int .i64 0) := (by rw [b3.cell (by simp), B2.out.cell (by simp)]; exact r0); have r13 : w3.cell? ⟨w.heap.size, 1, none⟩ = some (.slice none 0 0) := (by rw [b3.cell (by simp), B2.out.cell (by simp)]; exact r1); have f03 : w3.frozen? ⟨w.heap.size, 0, none⟩ = false := (by rw [b3.frozen (by simp), B2.out.frozen (by simp)]; exact f0); have f13 : w3.frozen? ⟨w.heap.size, 1, none⟩ = false := (by rw [b3.frozen (by simp), B2.out.frozen (by simp)]; exact f1); have hs3z := b3.size; have B3 := Lib.hid b3; have OW3 := Lib.hid ho3; clear hg3 b3 ho3))
      rw [HMK.out]
      refine bodyPost_ret (v := .tuple #[.agg #[.int .i64 n, .slice B (cptL l2).length cB], .int .i64 0]) (by simp [results, Tryz.results54, go_sem, r03, r13]) rfl ?_
      have hcl : cptL l2 = mkL n es := mk_sorted HALL.out HP2.out HS2.out
      have hb9 : Below w.heap.size w w3 := hfin.out.trans ((B2.out.trans B3.out).mono (by omega))
      rw [hcl]
      refine ⟨((hb9.setCell (by simp) _).setCell (Nat.le_refl _) _).setCell (Nat.le_refl _) _, B, cB, rfl, ?_⟩
      have := OW3.out
      rw [hcl] at this
      exact (((this.setOther (by simp) _).setOther (by simp) _).setOther (by simp) _).base_le (by omega)
end Go.Proofs.YtcpkdnhpelkeoaaGreat
