/-
  (*pebble.game).fetch: the walk.
-/
import Derived.Test.YtbhkdodokdgijaaP2
import Derived.Outline
namespace Go.Proofs.Ytbhkdodokdgijaa
set_option linter.unusedVariables false
set_option linter.unusedSimpArgs false
open Go.RowKit Go.Sort

attribute [local go_sem ↓] Go.wp_at_zero Go.wp_at_succ
set_option maxRecDepth 100000 in
set_option maxHeartbeats 8000000 in
theorem fetch_step (n u : Nat) (hn : n ≤ 60) (IH : ∀ u', u' < u → FetchAt n u') : FetchAt n u := by
  intro w base b go c hs out gv vis a hu hg hgs hov ha hbase
  have HU := Lib.hid hu
  have HG := Lib.hid hg
  have HGS := Lib.hid hgs
  have HV := Lib.hid hov
  have HIH := Lib.hid IH
  have a0 : (0 : Int) ≤ (a : Int) := by omega
  have a1 : (a : Int) < (n : Int) := by omega
  have cb := hg.cell
  have cv := hov.cellB ha
  have fv := hov.frozen a
  generalize visB vis a = va at cv
  obtain ⟨⟨Ah, ch⟩, hh, -, cr, orow⟩ := hg.row_at ha
  have HH := Lib.hid hh
  have ROW := Lib.hid orow
  have n1 : gv ≠ b := hg.ne hov (by decide) rfl
  have n2 : gv ≠ go := fun e => by
    obtain ⟨cur, h1⟩ := hov.block_type (g := gv) rfl
    obtain ⟨cur', h2⟩ := hg.om.outer.block_type (g := go) rfl
    rw [e, h2] at h1; injection h1 with h1; injection h1 with _ h1; revert h1; decide
  have n1' := Ne.symm n1
  have n2' := Ne.symm n2
  have hlen2 := hgs.two a
  generalize hln : (rowOf out a).length = ln at cr hlen2
  have HLN := Lib.hid hln
  have cb1 : (w.setCell ⟨gv, a, none⟩ (.bool true)).cell? ⟨b, 0, none⟩ = some (.slice (some ⟨go, 0, none⟩) n c) := by rw [World.cell?_setCell_other _ _ _ _ (by simp [n1])]; exact cb
  have cr1 : (w.setCell ⟨gv, a, none⟩ (.bool true)).cell? ⟨go, a, none⟩ = some (.slice Ah ln ch) := by rw [World.cell?_setCell_other _ _ _ _ (by simp [n2])]; exact cr
  clear hu hg hgs hov hh orow hln IH
  have HGV0 : Hid (GM (w.setCell ⟨gv, a, none⟩ (.bool true)) base b go n c hs out ∧ GStep (fun k => k = gv) w (w.setCell ⟨gv, a, none⟩ (.bool true)) go hs hs) := Lib.hid (by
    have hfr : Fr (fun k => k = gv) w (w.setCell ⟨gv, a, none⟩ (.bool true)) := (Fr.refl (fun k => k = gv) w).setCell (p := ⟨gv, a, none⟩) (.inl rfl) _
    refine ⟨HG.out.fr hfr (fun k hk e => ?_) n1', ⟨hfr.mono (fun i _ h => .inr h), fun _ _ h => h⟩⟩
    subst e
    obtain ⟨-, -, cur, e, h1, h2⟩ := HG.out.om.ft (A := none) hk
    obtain ⟨cur', h3⟩ := HV.out.block_type (g := k) rfl
    rw [h1] at h3; injection h3 with h3; injection h3 with _ h3
    subst h3
    rcases h2 with h2 | h2 <;> revert h2 <;> decide)
  go_enter Try.func62, Try.ntmps62
  go_wp2_with fail
  go_loopg [7, 8, 20] ln (fun k _ _ t wr => ∃ (q : Nat) (vis1 : List Bool), t = .int .i64 q ∧ q ≤ ln ∧ k = ln - q ∧ GM wr base b go n c hs out ∧ Own wr base 4 1 (some ⟨gv, 0, none⟩) n n (bools vis1) ∧ visB vis1 a = true ∧ Cont out (vis.set a true) a q vis1 ∧ cV n (vis.set a true) ≤ cV n vis1 ∧ GStep (fun k => k = gv) w wr go hs hs)
  case atStart => exact ⟨0, vis.set a true, rfl, Nat.zero_le _, rfl, HGV0.out.1, HV.out.storeB a true, by rw [visB_set _ _ _ (by rw [HV.out.blen]; exact ha)]; simp, fun _ _ _ h => h, Nat.le_refl _, HGV0.out.2⟩
  case round =>
    obtain ⟨q, vis1, rfl, hq, rfl, hg1, hv1, hva, hct, hcv, hst⟩ := hrel
    have HG1 := Lib.hid hg1
    have HV1 := Lib.hid hv1
    have HVA := Lib.hid hva
    have HCT := Lib.hid hct
    have HCV := Lib.hid hcv
    have HST := Lib.hid hst
    have cb5 := hg1.cell
    clear hg1 hv1 hva hct hcv hst
    by_cases hlt : q < ln
    · obtain ⟨hd', hh', -, -, orow⟩ := HG1.out.row_at ha
      rw [HH.out] at hh'
      injection hh' with hh'
      subst hh'
      simp only at orow
      rw [HLN.out] at orow
      obtain ⟨ad, rfl, hql, c0⟩ := orow.rd.int_at hlt
      have hgx : (rowOf out a)[q]? = some ((rowOf out a).getD q 0) := by rw [List.getD_eq_getElem?_getD, List.getElem?_eq_getElem hql]; rfl
      have hmem := HGS.out.mem a _ (getI_mem hgx)
      obtain ⟨y, hy⟩ : ∃ y : Nat, (rowOf out a).getD q 0 = (y : Int) := ⟨((rowOf out a).getD q 0).toNat, by omega⟩
      rw [hy] at c0 hmem hgx
      have HGX := Lib.hid hgx
      have hyn : y < n := by omega
      have y0 : (0 : Int) ≤ (y : Int) := by omega
      have y1 : (y : Int) < (n : Int) := by omega
      have cvy := HV1.out.cellB hyn
      clear orow hql hgx hmem hy
      cases hvy : visB vis1 y
      · rw [hvy] at cvy
        have HVY := Lib.hid hvy
        clear hvy
        obtain ⟨hdy, hhy, -, cry, orowy⟩ := HG1.out.row_at hyn
        have hm2 := HGS.out.two y
        generalize hlm : (rowOf out y).length = m at cry hm2
        have HLM := Lib.hid hlm
        clear hhy orowy hlm
        go_upto_region 6 with fail
        go_cut [38] (CutR w base b go n c hs out gv (vis.set a true) a q y)
        case first =>
          by_cases hfree : m < 2
          · obtain ⟨f, hf, hf0⟩ : ∃ f : Int, 2 - (m : Int) = f ∧ 0 < f := ⟨_, rfl, by omega⟩
            have HF := Lib.hid hf
            clear hf
            go_wp2_with (first
              | (go_at_call 61; refine (free_any b go n c y _ m _ f _ cb5 cry hyn hm2 HF.out).mono ?_; rintro e w5 ⟨rfl, rfl⟩)
              | fail)
            go_meet
            exact ⟨true, out, vis1, hs, rfl, HG1.out, HV1.out, HST.out, fun _ => ⟨HCT.out.free HGX.out HVY.out (by rw [HLM.out]; exact hfree), rfl, by rw [HLM.out]; omega⟩, fun h => by cases h⟩
          · obtain rfl : m = 2 := by omega
            have hcs := cV_set hyn HV1.out.blen HVY.out
            have hcl := cV_le n (vis1.set y true)
            have hih := HIH.out (n - cV n (vis1.set y true)) (by have := HU.out; have := HCV.out; omega) wr base b go c hs out gv vis1 y (by omega) HG1.out HGS.out HV1.out hyn (by have := HST.out.fr.size; omega)
            have HI := Lib.hid hih
            clear hcs hcl hih
            go_wp2_with (first
              | (go_at_call 61; refine (free_any b go n c y _ 2 _ 0 _ cb5 cry hyn hm2 rfl).mono ?_; rintro e w5 ⟨rfl, rfl⟩)
              | (go_at_call 62; refine HI.out.mono ?_; rintro e w5 ⟨r, out5, vis5, hs5, hfl, rfl, hg5, hv5, hst5, hsame⟩; have R5 := Lib.hid (And.intro hfl (And.intro hg5 (And.intro hv5 (And.intro hst5 hsame)))); clear hfl hg5 hv5 hst5 hsame)
              | fail)
            go_meet
            obtain ⟨hfl, hg5, hv5, hst5, hsame⟩ := R5.out
            refine ⟨r, out5, vis5, hs5, rfl, hg5, hv5, HST.out.trans hst5, fun hr => ?_, fun hr => ?_⟩
            · subst hr
              obtain ⟨q1, q2⟩ := hit_facts HGS.out HV1.out.blen HVA.out HGX.out HVY.out hfl
              exact ⟨HCT.out.hit HGX.out HVY.out (by rw [HLM.out]; omega) hfl, q1, by have := HLM.out; omega⟩
            · subst hr
              obtain ⟨q1, q2⟩ := HCT.out.miss HGX.out HVY.out (by rw [HLM.out]; omega) HGS.out HV1.out.blen hfl
              have hvm : ∀ x, visB vis1 x = true → visB vis5 x = true := fun x hx => hfl.vmono x (visB_mono (by rw [HV1.out.blen]; exact hyn) hx)
              exact ⟨hsame rfl, q1, hvm a HVA.out, q2, Nat.le_trans HCV.out (cV_mono hvm)⟩
        case rest =>
          obtain ⟨r, out5, vis5, hs5, rfl, hg5, hv5, hst5, hyes, hno⟩ := hcut
          cases r
          · obtain ⟨rfl, rfl, h3, h4, h5⟩ := hno rfl
            go_wp2_with fail
            go_roundg (ln - (q + 1))
            case measure => omega
            case rel => exact ⟨q + 1, vis5, by go_num, by omega, rfl, hg5, hv5, h3, h4, h5, hst5⟩
          · obtain ⟨hfl, hrow, hly⟩ := hyes rfl
            obtain ⟨⟨A5, d5⟩, hh5, ho5, cr5, or5⟩ := hg5.row_at ha
            simp only at cr5 or5
            rw [hrow, HLN.out] at cr5 or5
            rw [hrow] at ho5
            obtain ⟨ga, rfl, -, -⟩ := or5.some_ (by omega)
            have HFL := Lib.hid hfl
            have HROW := Lib.hid hrow
            have HLY := Lib.hid hly
            have HG5 := Lib.hid (GM.later hg5 ((Below.refl _ _).drew))
            have HH5 := Lib.hid hh5
            have HO5 := Lib.hid ho5
            have OR5 : Hid (Own wc.drew base 3 1 (some ⟨ga, 0, none⟩) ln d5 (ints (rowOf out a))) := Lib.hid or5
            have HV5 : Hid (Own wc.drew base 4 1 (some ⟨gv, 0, none⟩) n n (bools vis5)) := Lib.hid hv5
            have HST5 := Lib.hid hst5
            have cb5 := hg5.cell
            have fz5 : wc.frozen? ⟨go, a, none⟩ = false := hg5.om.outer.frozen a
            have HLE : Hid (((rowOf out a).eraseIdx q).length = ln - 1) := Lib.hid (by have := len_eraseIdx (l := rowOf out a) (i := q) (by rw [HLN.out]; exact hlt); rw [HLN.out] at this; omega)
            have EGH : Hid (∀ args w, (callFunc 74 args).run Try.prog w = .ok (.enter 74 args) w) := Lib.hid (enters_of Try.func74 (by kernel_rfl) rfl)
            have CD := Lib.hid (del_own ga ln d5 (rowOf out a) q wc.drew base OR5.out hlt (by omega))
            have qs : IntKind.i64.wrap ((q : Int) + 1) = (q : Int) + 1 := IntWalk.i64_in _ (by omega)
            clear hyes hno hg5 hv5 hst5 hfl hrow hly hh5 ho5 or5
            go_upto_region 7 with fail
            go_cut [54] (fun _ wx => CutS wc base b go n c hs5 gv (out5.set a ((rowOf out a).eraseIdx q)) vis5 wx)
            case first =>
              go_region_law ((first
                | (refine step_calls rfl 74 #[.tmp 50, .tmp 51, .tmp 53] #[27, 3, 3] rfl EGH.out #[.slice (some ⟨ga, 0, none⟩) ln d5, .int .i64 q, .int .i64 (q + 1)] (by simp [Act.eval, Act.put, qs]) (.slice (some ⟨ga, 0, none⟩) (ln - 1) d5) CD.out ?_; intro w6 ⟨ho6, hg6⟩; obtain ⟨cb6, cr6, fz6⟩ := HG5.out.push_facts OR5.out hg6 cr5; have HO6 := Lib.hid ho6; have HG6 := Lib.hid hg6; clear ho6 hg6)
                | fail))
              all_goals
               go_wp2_with fail
               go_meet
               have hs6 := HG5.out.setRow HH5.out HO5.out (B := some ⟨ga, 0, none⟩) (d := d5) (l' := (rowOf out a).eraseIdx q) HG6.out (by rw [HLE.out]; exact HO6.out) (.inl rfl)
               rw [HLE.out] at hs6
               exact ⟨_, hs6.1, Fr.own HV5.out (hs6.2 (fun _ => False)).fr (fun k hk h => by simp [blk] at hk; subst hk; exact h.elim (vis_not_ft HG5.out HV5.out) id), (GStep.of_below ((Below.refl _ _).drew)).trans (hs6.2 _)⟩
            case rest =>
              obtain ⟨hs6, hg6, hv6, hst6⟩ := hcut
              have HST6 := Lib.hid (HST5.out.trans hst6)
              clear hst6 HG5 HH5 HO5 OR5 HV5 CD EGH cb5 cr5 fz5 HST5
              rename World => w6
              have hay : a ≠ y := fun e => by have := HVY.out; rw [← e, HVA.out] at this; cases this
              obtain ⟨⟨A6, d6⟩, hh6, ho6, cr6, or6⟩ := hg6.row_at hyn
              have hr6 : rowOf (out5.set a ((rowOf out a).eraseIdx q)) y = rowOf out5 y := by
                rw [rowOf_set _ _ _ _ (by have := hg6.om.len; rw [List.length_set] at this; omega), if_neg (Ne.symm hay)]
              simp only at cr6 or6
              rw [hr6] at cr6 or6 ho6
              have hEQ : Hid (moveE out5 a q y = (out5.set a ((rowOf out a).eraseIdx q)).set y (rowOf out5 y ++ [(a : Int)])) := Lib.hid (by unfold moveE; rw [HROW.out, hr6])
              have hly := HLY.out
              generalize hlr : rowOf out5 y = lr at cr6 or6 ho6 hEQ hly
              generalize hlm6 : lr.length = m6 at cr6 or6 hly
              have HLM6 := Lib.hid hlm6
              have HG6 := Lib.hid hg6
              have HV6 := Lib.hid hv6
              have HH6 := Lib.hid hh6
              have HO6 := Lib.hid ho6
              have OR6 := Lib.hid or6
              have cb6 := hg6.cell
              have fz6 : w6.frozen? ⟨go, y, none⟩ = false := hg6.om.outer.frozen y
              have cba : (w6.drew.alloc (.cells #[.int .i64 (a : Int)] 3)).cell? ⟨b, 0, none⟩ = some (.slice (some ⟨go, 0, none⟩) n c) := Keeps.alloc w6.drew _ _ _ cb6
              have cra : (w6.drew.alloc (.cells #[.int .i64 (a : Int)] 3)).cell? ⟨go, y, none⟩ = some (.slice A6 m6 d6) := Keeps.alloc w6.drew _ _ _ cr6
              have cbb : (w6.alloc (.cells #[.int .i64 (a : Int)] 3)).cell? ⟨b, 0, none⟩ = some (.slice (some ⟨go, 0, none⟩) n c) := Keeps.alloc w6 _ _ _ cb6
              have crb : (w6.alloc (.cells #[.int .i64 (a : Int)] 3)).cell? ⟨go, y, none⟩ = some (.slice A6 m6 d6) := Keeps.alloc w6 _ _ _ cr6
              have HGA : Hid (GM (w6.drew.alloc (.cells #[.int .i64 (a : Int)] 3)) base b go n c hs6 (out5.set a ((rowOf out a).eraseIdx q))) := Lib.hid (hg6.later (((Below.refl _ _).drew).alloc (by simp) _))
              have ORA : Hid (Own (w6.drew.alloc (.cells #[.int .i64 (a : Int)] 3)) base 3 1 A6 m6 d6 (ints lr)) := Lib.hid (Own.alloc (w := w6.drew) or6 _)
              have HB6 : base ≤ w6.heap.size := by have := hg6.lt; have := hg6.lo; omega
              clear hg6 hv6 hh6 ho6 or6 hr6 hlr hlm6 hay
              go_upto_region 8 with fail
              go_region_law ((first
                | (refine step_app _ rfl (.tmp 67) (.tmp 69) 27 rfl base 3 (.int .i64 0) 1 8 Try.underlying27 info_int' rfl (by decide) A6 m6 d6 (ints lr) (by simp [Act.eval, Act.put]) ORA.out (some ⟨w6.heap.size, 0, none⟩) 1 1 (ints [(a : Int)]) (by simp [Act.eval, Act.put]) (rd_lit_at rfl [(a : Int)] _) (ints_one _) (by omega) (by unfold maxLen; omega) (by simp; omega) ?_; intro B7 c7 w7 ho7 hg7 hb7; obtain ⟨cb7, cr7, fz7⟩ := HGA.out.push_facts ORA.out hg7 cra; have P7 := Lib.hid (HGA.out.push HH6.out HO6.out HLM6.out hg7 ho7 hb7); clear ho7 hg7 hb7)
                | fail))
              all_goals
               go_wp2_with fail
               go_ret
               refine ⟨true, moveE out5 a q y, vis5, _, HFL.out, rfl, by rw [hEQ.out]; exact P7.out.1, ?_, ?_, fun h => by cases h⟩
               · exact Fr.own (HV6.out.later (((Below.refl _ _).drew).alloc (by simp) _)) (P7.out.2 (fun _ => False)).fr (fun k hk h => by simp [blk] at hk; subst hk; exact h.elim (vis_not_ft HG6.out HV6.out) id)
               · exact HST6.out.trans ((GStep.of_below (((Below.refl _ _).drew).alloc (by simp) _)).trans (P7.out.2 _))
      · rw [hvy] at cvy
        have HVY := Lib.hid hvy
        clear hvy
        go_wp2_with fail
        go_roundg (ln - (q + 1))
        case measure => omega
        case rel => exact ⟨q + 1, vis1, by go_num, by omega, rfl, HG1.out, HV1.out, HVA.out, HCT.out.skip HGX.out HVY.out, HCV.out, HST.out⟩
    · obtain rfl : q = ln := by omega
      go_wp2_with fail
      go_ret
      exact ⟨false, out, vis1, hs, HCT.out _ _ _ (.done (by rw [HLN.out]; exact Nat.le_refl _)), rfl, HG1.out, HV1.out, HST.out, fun _ => rfl⟩
end Go.Proofs.Ytbhkdodokdgijaa
