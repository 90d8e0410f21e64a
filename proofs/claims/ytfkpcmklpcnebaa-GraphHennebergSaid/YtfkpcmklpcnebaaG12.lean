/-
  Remove of the program.
-/
import Derived.Test.YtfkpcmklpcnebaaG11
namespace Go.Proofs.Ytfkpcmklpcnebaa
set_option linter.unusedVariables false
set_option linter.unusedSimpArgs false
open Go.RowKit Go.Sort
attribute [local go_sem ↓] Go.wp_at_zero Go.wp_at_succ

set_option maxRecDepth 100000 in
set_option maxHeartbeats 16000000 in
theorem grem_out (N : Int) (A : Option Addr) (n c : Nat) (es : List (Int × Int)) (a : Int) (w : World) (hn : n ≤ 1000) (he : Rd w 2 A n (prs es)) (hout : ¬ (validB N es = true ∧ hasB N a = true)) :
    Calls Try.prog 27 #[.agg #[.int .i64 N, .slice A n c], .int .i64 a] w (GPost w (remE N es a)) := by
  have HE := Lib.hid he.prs_len
  have H0 := Lib.hid he
  have H1 := Lib.hid (he.keep ((Keeps.alloc w (.cells #[.int .i64 N, .slice A n c] 24)).trans (Keeps.alloc _ (.cells #[.int .i64 0, .slice none 0 0] 24))))
  clear he
  have S1 : Hid (Below w.heap.size w ((w.alloc (.cells #[.int .i64 N, .slice A n c] 24)).alloc (.cells #[.int .i64 0, .slice none 0 0] 24))) := ((Below.refl _ _).alloc (Nat.le_refl _) _).alloc (by simp) _
  have FACTS : Hid (∀ w1 : World, Below ((w.alloc (.cells #[.int .i64 N, .slice A n c] 24)).alloc (.cells #[.int .i64 0, .slice none 0 0] 24)).heap.size ((w.alloc (.cells #[.int .i64 N, .slice A n c] 24)).alloc (.cells #[.int .i64 0, .slice none 0 0] 24)) w1 →
      w.heap.size + 2 ≤ w1.heap.size ∧ w1.cell? ⟨w.heap.size, 0, none⟩ = some (.int .i64 N) ∧ w1.cell? ⟨w.heap.size, 1, none⟩ = some (.slice A n c) ∧ w1.cell? ⟨w.heap.size + 1, 0, none⟩ = some (.int .i64 0) ∧ w1.cell? ⟨w.heap.size + 1, 1, none⟩ = some (.slice none 0 0) ∧
      w1.frozen? ⟨w.heap.size + 1, 0, none⟩ = false ∧ w1.frozen? ⟨w.heap.size + 1, 1, none⟩ = false) := fun w1 hb => by
    have hs := hb.size
    simp at hs
    refine ⟨by omega, ?_, ?_, ?_, ?_, ?_, ?_⟩
    · rw [hb.cell (by simp; omega)]; simp
    · rw [hb.cell (by simp; omega)]; simp
    · rw [hb.cell (by simp)]; simp
    · rw [hb.cell (by simp)]; simp
    · rw [hb.frozen (by simp)]; simp
    · rw [hb.frozen (by simp)]; simp
  cases hv : validB N es
  · have HV := Lib.hid hv
    have e0 : remE N es a = (0, []) := by unfold remE; rw [hv]; rfl
    rw [e0]
    clear hv e0
    go_enter Try.func27, Try.ntmps27
    go_wp2_with (go_at_call 12; refine (gvalid_b (b := false) N _ n c es _ (by omega) H1.out HV.out).mono ?_; rintro e w1 ⟨rfl, hb1⟩; obtain ⟨hz1, p0, p1, r0, r1, f0, f1⟩ := FACTS.out _ hb1; have S2 := Lib.hid (S1.out.trans (hb1.mono (by simp; omega))); clear hb1)
    refine bodyPost_ret (v := .agg #[.int .i64 0, .slice none 0 0]) (by simp [results, Try.results27, go_sem, r0, r1]) rfl ⟨?_, none, 0, rfl, Rd.nil _ _ _⟩
    exact (S2.out.setCell (by simp) _).setCell (by simp) _
  have HV := Lib.hid hv
  have hN := (validB_iff N es).1 hv
  obtain ⟨hN0, hN1, -⟩ := hN
  have HEN := Lib.hid (ends_of hv)
  cases hh : hasB N a
  · have HH := Lib.hid hh
    have e0 : remE N es a = (N, es) := by unfold remE; rw [hv, hh]; rfl
    rw [e0]
    clear hv hh e0
    go_enter Try.func27, Try.ntmps27
    go_wp2_with (first
      | (go_at_call 12; refine (gvalid_b (b := true) N _ n c es _ (by omega) H1.out HV.out).mono ?_; rintro e w1 ⟨rfl, hb1⟩; obtain ⟨hz1, p0, p1, r0, r1, f0, f1⟩ := FACTS.out _ hb1; have S2 := Lib.hid (S1.out.trans (hb1.mono (by simp; omega))); have R2 := Lib.hid (H1.out.keep (Keeps.of_below hb1 (Nat.le_refl _))); clear hb1)
      | (go_at_call 31; (with_reducible refine (has_b (b := false) N a _ HH.out).mono ?_); rintro e w2 ⟨rfl, rfl⟩))
    go_region_held3 (fun w' => w'.cell? ⟨w.heap.size, 0, none⟩ = some (.int .i64 N) ∧ w'.cell? ⟨w.heap.size, 1, none⟩ = some (.slice A n c)) (first | go_keep | (refine ⟨?_, ?_⟩ <;> (rw [World.cell?_setCell_other _ _ _ _ (by simp)]; first | assumption | (rw [World.cell?_setCell_other _ _ _ _ (by simp)]; assumption))))
      ((first
        | (go_at_call 40; refine (clone_any A n c es _ (R2.out.keep (Keeps.drew _)) (by omega)).mono ?_; rintro e w3 ⟨hb3, B3, c3, rfl, ho3⟩; have q0 : w3.cell? ⟨w.heap.size, 0, none⟩ = some (.int .i64 N) := (by rw [hb3.cell (by simp; omega)]; exact p0); have q1 : w3.cell? ⟨w.heap.size, 1, none⟩ = some (.slice A n c) := (by rw [hb3.cell (by simp; omega)]; exact p1); have q2 : w3.cell? ⟨w.heap.size + 1, 0, none⟩ = some (.int .i64 0) := (by rw [hb3.cell (by simp; omega)]; exact r0); have q3 : w3.cell? ⟨w.heap.size + 1, 1, none⟩ = some (.slice none 0 0) := (by rw [hb3.cell (by simp; omega)]; exact r1); have z0 : w3.frozen? ⟨w.heap.size + 1, 0, none⟩ = false := (by rw [hb3.frozen (by simp; omega)]; exact f0); have z1 : w3.frozen? ⟨w.heap.size + 1, 1, none⟩ = false := (by rw [hb3.frozen (by simp; omega)]; exact f1); have S3 : Hid (Below w.heap.size w w3) := Lib.hid (S2.out.drew.trans (hb3.mono (by simp; omega))); have O3 := Lib.hid ho3; clear hb3 ho3)
        | fail))
    go_wp2
    rw [HE.out]
    refine bodyPost_ret (v := .agg #[.int .i64 N, .slice B3 n c3]) (by simp [results, Try.results27, go_sem, q2, q3]) rfl ⟨(S3.out.setCell (by simp) _).setCell (by simp) _, B3, c3, by rw [HE.out], ?_⟩
    show Rd _ 2 B3 es.length (prs es)
    exact ((O3.out.setOther (by simp; omega) _).setOther (by simp; omega) _).rd
  exact absurd ⟨hv, hh⟩ hout

set_option maxRecDepth 100000 in
set_option maxHeartbeats 16000000 in
theorem grem_in (N : Int) (A : Option Addr) (n c : Nat) (es : List (Int × Int)) (a : Int) (w : World) (hn : n ≤ 1000) (he : Rd w 2 A n (prs es)) (hv : validB N es = true) (hh : hasB N a = true) :
    Calls Try.prog 27 #[.agg #[.int .i64 N, .slice A n c], .int .i64 a] w (GPost w (remE N es a)) := by
  have HE := Lib.hid he.prs_len
  have H0 := Lib.hid he
  have H1 := Lib.hid (he.keep ((Keeps.alloc w (.cells #[.int .i64 N, .slice A n c] 24)).trans (Keeps.alloc _ (.cells #[.int .i64 0, .slice none 0 0] 24))))
  clear he
  have S1 : Hid (Below w.heap.size w ((w.alloc (.cells #[.int .i64 N, .slice A n c] 24)).alloc (.cells #[.int .i64 0, .slice none 0 0] 24))) := ((Below.refl _ _).alloc (Nat.le_refl _) _).alloc (by simp) _
  have FACTS : Hid (∀ w1 : World, Below ((w.alloc (.cells #[.int .i64 N, .slice A n c] 24)).alloc (.cells #[.int .i64 0, .slice none 0 0] 24)).heap.size ((w.alloc (.cells #[.int .i64 N, .slice A n c] 24)).alloc (.cells #[.int .i64 0, .slice none 0 0] 24)) w1 →
      w.heap.size + 2 ≤ w1.heap.size ∧ w1.cell? ⟨w.heap.size, 0, none⟩ = some (.int .i64 N) ∧ w1.cell? ⟨w.heap.size, 1, none⟩ = some (.slice A n c) ∧ w1.cell? ⟨w.heap.size + 1, 0, none⟩ = some (.int .i64 0) ∧ w1.cell? ⟨w.heap.size + 1, 1, none⟩ = some (.slice none 0 0) ∧
      w1.frozen? ⟨w.heap.size + 1, 0, none⟩ = false ∧ w1.frozen? ⟨w.heap.size + 1, 1, none⟩ = false) := fun w1 hb => by
    have hs := hb.size
    simp at hs
    refine ⟨by omega, ?_, ?_, ?_, ?_, ?_, ?_⟩
    · rw [hb.cell (by simp; omega)]; simp
    · rw [hb.cell (by simp; omega)]; simp
    · rw [hb.cell (by simp)]; simp
    · rw [hb.cell (by simp)]; simp
    · rw [hb.frozen (by simp)]; simp
    · rw [hb.frozen (by simp)]; simp
  have HV := Lib.hid hv
  have hN := (validB_iff N es).1 hv
  obtain ⟨hN0, hN1, -⟩ := hN
  have HEN := Lib.hid (ends_of hv)
  have HH := Lib.hid hh
  have e0 : remE N es a = (N - 1, remL es a) := by unfold remE; rw [hv, hh]; rfl
  rw [e0]
  clear hv e0 hh
  go_enter Try.func27, Try.ntmps27
  go_wp2_with (first
    | (go_at_call 12; refine (gvalid_b (b := true) N _ n c es _ (by omega) H1.out HV.out).mono ?_; rintro e w1 ⟨rfl, hb1⟩; obtain ⟨hz1, p0, p1, r0, r1, f0, f1⟩ := FACTS.out _ hb1; have S2 := Lib.hid (S1.out.trans (hb1.mono (by simp; omega))); have R2 := Lib.hid (H1.out.keep (Keeps.of_below hb1 (Nat.le_refl _))); have p1a : (w1.alloc (.cells #[.int .i64 (N - 1), .slice none 0 0] 24)).cell? ⟨w.heap.size, 1, none⟩ = some (.slice A n c) := (by rw [World.cell?_alloc_lt _ _ _ (by simp; omega)]; exact p1); clear hb1)
    | (go_at_call 31; (with_reducible refine (has_b (b := true) N a _ HH.out).mono ?_); rintro e w2 ⟨rfl, rfl⟩))
  go_loopw [7, 8, 31, 45] (fun _ _ i _ wr => MkI w1 wr (N - 1) (remL (es.take (intOf i).toNat) a) ∧ ∃ k : Nat, k ≤ n ∧ i = .int .i64 k) (fun _ _ i _ _ => n - (intOf i).toNat)
  case atStart => exact ⟨MkI.start w1 (N - 1), 0, Nat.zero_le _, rfl⟩
  case round =>
    obtain ⟨hinv, k, hk, rfl⟩ := hrel
    have e0 : (intOf (.int .i64 (k : Int))).toNat = k := by simp [intOf]
    rw [e0] at hinv
    clear e0
    obtain ⟨hb, hs, fz, cg0, B, cB, cg1, own⟩ := hinv
    have hlen := remL_len (es.take k) a
    have hlen2 : (es.take k).length ≤ k := List.length_take_le _ _
    generalize hL : remL (es.take k) a = L at *
    generalize hq : L.length = q at *
    have HQ := Lib.hid hq
    have HL := Lib.hid hL
    have OWN := Lib.hid own
    have HB := Lib.hid hb
    have r0 : wr.cell? ⟨w.heap.size + 1, 0, none⟩ = some (.int .i64 0) := by rw [hb.cell (by simp; omega)]; exact r0
    have r1 : wr.cell? ⟨w.heap.size + 1, 1, none⟩ = some (.slice none 0 0) := by rw [hb.cell (by simp; omega)]; exact r1
    have f0 : wr.frozen? ⟨w.heap.size + 1, 0, none⟩ = false := by rw [hb.frozen (by simp; omega)]; exact f0
    have f1 : wr.frozen? ⟨w.heap.size + 1, 1, none⟩ = false := by rw [hb.frozen (by simp; omega)]; exact f1
    have RD := Lib.hid (R2.out.keep (Keeps.of_below hb (Nat.le_refl _)))
    have hfin : Hid (Below w.heap.size w wr) := S2.out.trans (hb.mono (by omega))
    clear hb own hL hq
    by_cases hlt : k < n
    · have HST : Hid (∀ x y : Int, es.getD k (0, 0) = (x, y) → remL (es.take (k + 1)) a = L ++ if (x == a || y == a) = true then [] else [(lessI x a, lessI y a)]) := fun x y h => by rw [← HL.out]; exact remL_step (by rw [HE.out]; exact hlt) h
      have HEK : Hid (0 ≤ (es.getD k (0, 0)).1 ∧ (es.getD k (0, 0)).1 < (es.getD k (0, 0)).2 ∧ (es.getD k (0, 0)).2 < N) := by
        rw [List.getD_eq_getElem?_getD, List.getElem?_eq_getElem (by rw [HE.out]; exact hlt)]
        exact HEN.out _ (List.getElem_mem _)
      obtain ⟨ad, rfl, c0, c1⟩ := RD.out.prs_at hlt
      generalize hxy : es.getD k (0, 0) = xy at c0 c1 HEK
      obtain ⟨x, y⟩ := xy
      simp only at c0 c1
      have HXY := Lib.hid hxy
      obtain ⟨hx0, hxy0, hyN⟩ := HEK.out
      simp only at hx0 hxy0 hyN
      clear hxy
      have HSTEP : Hid (∀ (i : Value), i = .int .i64 ((k : Int) + 1) → (intOf i).toNat = k + 1) := fun i hi => by rw [hi]; simp [intOf]
      have hlw1 : w1.heap.size < wr.heap.size := hs
      by_cases hxa : (x == a || y == a) = true
      · have HXA := Lib.hid hxa
        have hskip : Hid (∀ o : Obj, MkI w1 (wr.alloc o) (N - 1) (remL (es.take (k + 1)) a)) := fun o => by
          rw [HST.out x y HXY.out, HXA.out, if_pos rfl, List.append_nil]
          have ba : Below (w1.heap.size + 1) wr (wr.alloc o) := (Below.refl _ _).alloc (by omega) _
          exact ⟨HB.out.trans (ba.mono (by omega)), by simp; omega, by rw [ba.frozen (by simp)]; exact fz, by rw [ba.cell (by simp)]; exact cg0, B, cB, by rw [HQ.out, ba.cell (by simp)]; exact cg1, by rw [HQ.out]; exact OWN.out.alloc _⟩
        cases h1 : (x == a)
        · rw [h1, Bool.false_or] at hxa
          go_wp2
          go_roundw
          case rel => exact ⟨by rw [HSTEP.out _ rfl]; exact hskip.out _, k + 1, by omega, by go_num⟩
          case measure => simp [intOf]; omega
        · clear hxa
          go_wp2
          go_roundw
          case rel => exact ⟨by rw [HSTEP.out _ rfl]; exact hskip.out _, k + 1, by omega, by go_num⟩
          case measure => simp [intOf]; omega
      · rw [Bool.not_eq_true] at hxa
        have HXA := Lib.hid hxa
        rw [Bool.or_eq_false_iff] at hxa
        obtain ⟨h1, h2⟩ := hxa
        go_wp2
        refine wp_loop_rounds 3 ?_
        rw [rounds_succ]
        by_cases g1 : a < x
        · by_cases g2 : a < y
          · have HLX : Hid (lessI x a = (x - 1)) := by unfold Hid lessI; rw [if_pos g1]
            have HLY : Hid (lessI y a = (y - 1)) := by unfold Hid lessI; rw [if_pos g2]
            have L0 : Hid ((wr.alloc (.cells #[.int .i64 (x - 1), .int .i64 (y - 1)] 36)).cell? ⟨w1.heap.size, 1, none⟩ = some (.slice B q cB)) := by unfold Hid; rw [World.cell?_alloc_lt _ _ _ hlw1]; exact cg1
            go_wp2
            rw [rounds_succ]
            go_wp2
            rw [rounds_succ]
            have l0 := L0.out
            go_wp2_with (at_builtin; refine wpList_app _ rfl (.tmp 60) (.tmp 62) 22 rfl (w1.heap.size + 1) 36 (.agg #[.int .i64 0, .int .i64 0]) 2 16 Try.underlying22 info_pair rfl (by decide) B q cB (prs L) rfl ((OWN.out.alloc (.cells #[.int .i64 (x - 1), .int .i64 (y - 1)] 36)).alloc _) (some ⟨wr.heap.size + 1, 0, none⟩) 1 1 (prs [((x - 1), (y - 1))]) rfl (rd_lit2_at (by simp) [((x - 1), (y - 1))] _) (prs_one _) (by omega) (by unfold maxLen; omega) (by simp; omega) ?_; intro B4 c4 w4 ho4 hg4 hb4; have OWN4 := Lib.hid ho4; have S3 : Hid (Below (w1.heap.size + 1) wr w4) := Lib.hid ((((Below.refl _ _).alloc (by omega) _).alloc (by simp; omega) _).grown hg4 (by simp; omega) (fun b hb => (OWN.out.lt hb).1)); have hs4 := S3.out.size; have fz4 : w4.frozen? ⟨w1.heap.size, 1, none⟩ = false := (by rw [S3.out.frozen (by simp)]; exact fz); have cg04 : w4.cell? ⟨w1.heap.size, 0, none⟩ = some (.int .i64 (N - 1)) := (by rw [S3.out.cell (by simp)]; exact cg0); have cg14 : w4.cell? ⟨w1.heap.size, 1, none⟩ = some (.slice B q cB) := (by rw [S3.out.cell (by simp)]; exact cg1); clear ho4 hg4 hb4)
            go_roundw
            case rel => exact ⟨by rw [HSTEP.out _ rfl, HST.out x y HXY.out, HXA.out, if_neg (by simp), HLX.out, HLY.out]; exact MkI.push HB.out hs fz cg0 cg1 HQ.out S3.out OWN4.out, k + 1, by omega, by go_num⟩
            case measure => simp [intOf]; omega
          · exfalso; omega
        · by_cases g2 : a < y
          · have HLX : Hid (lessI x a = x) := by unfold Hid lessI; rw [if_neg g1]
            have HLY : Hid (lessI y a = (y - 1)) := by unfold Hid lessI; rw [if_pos g2]
            have L0 : Hid ((wr.alloc (.cells #[.int .i64 x, .int .i64 (y - 1)] 36)).cell? ⟨w1.heap.size, 1, none⟩ = some (.slice B q cB)) := by unfold Hid; rw [World.cell?_alloc_lt _ _ _ hlw1]; exact cg1
            go_wp2
            rw [rounds_succ]
            go_wp2
            rw [rounds_succ]
            have l0 := L0.out
            go_wp2_with (at_builtin; refine wpList_app _ rfl (.tmp 60) (.tmp 62) 22 rfl (w1.heap.size + 1) 36 (.agg #[.int .i64 0, .int .i64 0]) 2 16 Try.underlying22 info_pair rfl (by decide) B q cB (prs L) rfl ((OWN.out.alloc (.cells #[.int .i64 x, .int .i64 (y - 1)] 36)).alloc _) (some ⟨wr.heap.size + 1, 0, none⟩) 1 1 (prs [(x, (y - 1))]) rfl (rd_lit2_at (by simp) [(x, (y - 1))] _) (prs_one _) (by omega) (by unfold maxLen; omega) (by simp; omega) ?_; intro B4 c4 w4 ho4 hg4 hb4; have OWN4 := Lib.hid ho4; have S3 : Hid (Below (w1.heap.size + 1) wr w4) := Lib.hid ((((Below.refl _ _).alloc (by omega) _).alloc (by simp; omega) _).grown hg4 (by simp; omega) (fun b hb => (OWN.out.lt hb).1)); have hs4 := S3.out.size; have fz4 : w4.frozen? ⟨w1.heap.size, 1, none⟩ = false := (by rw [S3.out.frozen (by simp)]; exact fz); have cg04 : w4.cell? ⟨w1.heap.size, 0, none⟩ = some (.int .i64 (N - 1)) := (by rw [S3.out.cell (by simp)]; exact cg0); have cg14 : w4.cell? ⟨w1.heap.size, 1, none⟩ = some (.slice B q cB) := (by rw [S3.out.cell (by simp)]; exact cg1); clear ho4 hg4 hb4)
            go_roundw
            case rel => exact ⟨by rw [HSTEP.out _ rfl, HST.out x y HXY.out, HXA.out, if_neg (by simp), HLX.out, HLY.out]; exact MkI.push HB.out hs fz cg0 cg1 HQ.out S3.out OWN4.out, k + 1, by omega, by go_num⟩
            case measure => simp [intOf]; omega
          · have HLX : Hid (lessI x a = x) := by unfold Hid lessI; rw [if_neg g1]
            have HLY : Hid (lessI y a = y) := by unfold Hid lessI; rw [if_neg g2]
            have L0 : Hid ((wr.alloc (.cells #[.int .i64 x, .int .i64 y] 36)).cell? ⟨w1.heap.size, 1, none⟩ = some (.slice B q cB)) := by unfold Hid; rw [World.cell?_alloc_lt _ _ _ hlw1]; exact cg1
            go_wp2
            rw [rounds_succ]
            go_wp2
            rw [rounds_succ]
            have l0 := L0.out
            go_wp2_with (at_builtin; refine wpList_app _ rfl (.tmp 60) (.tmp 62) 22 rfl (w1.heap.size + 1) 36 (.agg #[.int .i64 0, .int .i64 0]) 2 16 Try.underlying22 info_pair rfl (by decide) B q cB (prs L) rfl ((OWN.out.alloc (.cells #[.int .i64 x, .int .i64 y] 36)).alloc _) (some ⟨wr.heap.size + 1, 0, none⟩) 1 1 (prs [(x, y)]) rfl (rd_lit2_at (by simp) [(x, y)] _) (prs_one _) (by omega) (by unfold maxLen; omega) (by simp; omega) ?_; intro B4 c4 w4 ho4 hg4 hb4; have OWN4 := Lib.hid ho4; have S3 : Hid (Below (w1.heap.size + 1) wr w4) := Lib.hid ((((Below.refl _ _).alloc (by omega) _).alloc (by simp; omega) _).grown hg4 (by simp; omega) (fun b hb => (OWN.out.lt hb).1)); have hs4 := S3.out.size; have fz4 : w4.frozen? ⟨w1.heap.size, 1, none⟩ = false := (by rw [S3.out.frozen (by simp)]; exact fz); have cg04 : w4.cell? ⟨w1.heap.size, 0, none⟩ = some (.int .i64 (N - 1)) := (by rw [S3.out.cell (by simp)]; exact cg0); have cg14 : w4.cell? ⟨w1.heap.size, 1, none⟩ = some (.slice B q cB) := (by rw [S3.out.cell (by simp)]; exact cg1); clear ho4 hg4 hb4)
            go_roundw
            case rel => exact ⟨by rw [HSTEP.out _ rfl, HST.out x y HXY.out, HXA.out, if_neg (by simp), HLX.out, HLY.out]; exact MkI.push HB.out hs fz cg0 cg1 HQ.out S3.out OWN4.out, k + 1, by omega, by go_num⟩
            case measure => simp [intOf]; omega
    · obtain rfl : k = n := by omega
      have e1 : L = remL es a := by rw [← HL.out, List.take_of_length_le (by rw [HE.out]; exact Nat.le_refl _)]
      have E1 := Lib.hid e1
      clear e1
      go_wp2
      refine bodyPost_ret (v := .agg #[.int .i64 (N - 1), .slice B q cB]) (by simp [results, Try.results27, go_sem, r0, r1]) rfl ⟨(hfin.out.setCell (by simp) _).setCell (by simp) _, B, cB, by rw [← E1.out, HQ.out], ?_⟩
      show Rd _ 2 B (remL es a).length (prs (remL es a))
      rw [← E1.out, HQ.out]
      exact ((OWN.out.setOther (by simp; omega) _).setOther (by simp; omega) _).rd
theorem grem_any (N : Int) (A : Option Addr) (n c : Nat) (es : List (Int × Int)) (a : Int) (w : World) (hn : n ≤ 1000) (he : Rd w 2 A n (prs es)) :
    Calls Try.prog 27 #[.agg #[.int .i64 N, .slice A n c], .int .i64 a] w (GPost w (remE N es a)) := by
  by_cases h : validB N es = true ∧ hasB N a = true
  · exact grem_in N A n c es a w hn he h.1 h.2
  · exact grem_out N A n c es a w hn he h
end Go.Proofs.Ytfkpcmklpcnebaa
