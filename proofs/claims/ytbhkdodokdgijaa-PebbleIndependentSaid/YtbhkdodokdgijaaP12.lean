/-
  (*pebble.assignment).assign: the walk.
-/
import Derived.Test.YtbhkdodokdgijaaP11
import Derived.Outline
namespace Go.Proofs.Ytbhkdodokdgijaa
set_option linter.unusedVariables false
set_option linter.unusedSimpArgs false
open Go.RowKit Go.Sort

attribute [local go_sem ↓] Go.wp_at_zero Go.wp_at_succ
theorem own_le {w : World} {base size n c : Nat} {e : TypeId} {A : Option Addr} {xs : List Value} (h : Own w base e size A n c xs) : n ≤ 9223372036854775807 := by
  rcases h.2 with ⟨-, h2⟩ | ⟨g, cap, cur, -, -, -, h1, h2, -⟩
  · omega
  · unfold maxLen at h2; omega
theorem call_ok {n M v : Nat} {es : List (Int × Int)} {ld : List (List Int)} {tl : List Int} {vis1 vis2 : List Bool} {j : Int} (h : AInv n M es ld tl vis1) (hv : v < n) (h0 : visB vis1 v = false) (hn : vis1.length = n) (hm : ∀ y, visB (vis1.set v true) y = true → visB vis2 y = true) (hj : j ∈ rowOf ld v) :
    AInv n M es ld tl vis2 ∧ (∀ u, u < n → visB vis2 u = false → ¬ j ∈ rowOf ld u) ∧ visB vis2 v = true := by
  have hm1 : ∀ y, visB vis1 y = true → visB vis2 y = true := fun y hy => hm y (vset_mono' _ _ _ hy)
  have hvv : visB vis2 v = true := hm v (by rw [visB_set _ _ _ (by omega)]; simp)
  refine ⟨h.more hm1, fun u hu hu2 hju => ?_, hvv⟩
  have hu1 : visB vis1 u = false := by
    cases e : visB vis1 u
    · rfl
    · rw [hm1 u e] at hu2; cases hu2
  obtain ⟨k, rfl, -, e2, -⟩ := h.at_ v hv h0 j hj
  obtain ⟨k', e3, -, e4, -⟩ := h.at_ u hu hu1 _ hju
  have : k = k' := by omega
  subst this
  rw [e2] at e4
  have : v = u := by omega
  subst this
  rw [hvv] at hu2; cases hu2
theorem call_row {n M v j : Nat} {es : List (Int × Int)} {ld ld5 : List (List Int)} {tl tl5 : List Int} {vis2 vis5 : List Bool} {r : Bool} (hok : ∀ e ∈ es, OkE n e) (hl : es.length = M) (hr : RowsNat M ld) (hn : vis2.length = n) (hj : j < M) (k1 : AInv n M es ld tl vis2) (k2 : ∀ u, u < n → visB vis2 u = false → ¬ (j : Int) ∈ rowOf ld u) (k3 : visB vis2 v = true)
    (h : AL es false ld tl vis2 j 0 (if r = true then some 0 else none) ld5 tl5 vis5) : rowOf ld5 v = rowOf ld v := by
  subst hl
  cases r
  · obtain ⟨rfl, -, -⟩ := h.no hok hr hn (fun _ => hj) (by simp)
    rfl
  · exact ((h.yes hok hr hn k1).1 rfl ⟨hj, k2⟩ 0 (by simp)).same v k3
def XPost (w : World) (base bv b go gt n M : Nat) (hs : List (Option Addr × Nat)) (ld : List (List Int)) (tl : List Int) (E : Option Addr) (cE : Nat) (es : List (Int × Int)) (gv : Nat) (vis : List Bool) (i : Nat) (e : Ending) (w' : World) : Prop :=
  ∃ r ld' tl' vis' hs', AL es false ld tl vis i 0 (if r = true then some 0 else none) ld' tl' vis' ∧ e = .returned (.bool r) ∧ AM w' base b go gt n M hs' ld' tl' E cE es ∧ Own w' bv 4 1 (some ⟨gv, 0, none⟩) n n (bools vis') ∧ GStep (fun k => k = gt ∨ k = gv) w w' go hs hs' ∧ (r = false → hs' = hs)
structure XIn (n M : Nat) (es : List (Int × Int)) (ld : List (List Int)) (tl : List Int) (vis : List Bool) (i : Nat) : Prop where
  len : es.length = M
  ok : ∀ e ∈ es, OkE n e
  rows : RowsNat M ld
  inv : AInv n M es ld tl vis
  lt : i < M
  no : ∀ u, u < n → visB vis u = false → ¬ (i : Int) ∈ rowOf ld u
def AssignAt (n u : Nat) : Prop := ∀ (M : Nat) (w : World) (base bv b go gt : Nat) (hs : List (Option Addr × Nat)) (ld : List (List Int)) (tl : List Int) (E : Option Addr) (cE : Nat) (es : List (Int × Int)) (gv : Nat) (vis : List Bool) (i : Nat),
    n ≤ cV n vis + u → XIn n M es ld tl vis i → AM w base b go gt n M hs ld tl E cE es → Own w bv 4 1 (some ⟨gv, 0, none⟩) n n (bools vis) → M ≤ 100000 →
    Calls Try.prog 51 #[.pointer (some ⟨b, 0, none⟩), .int .i64 i, .slice (some ⟨gv, 0, none⟩) n n] w (XPost w base bv b go gt n M hs ld tl E cE es gv vis i)
/-- The search has come to end number q of edge i, with vis1 visited. -/
def OCont (es : List (Int × Int)) (ld : List (List Int)) (tl : List Int) (vis : List Bool) (i q : Nat) (vis1 : List Bool) : Prop := ∀ r l' t' v', AL es false ld tl vis1 i q r l' t' v' → AL es false ld tl vis i 0 r l' t' v'
def ICont (es : List (Int × Int)) (ld : List (List Int)) (tl : List Int) (vis : List Bool) (v p : Nat) (vis1 : List Bool) : Prop := ∀ r l' t' v', AL es true ld tl vis1 v p r l' t' v' → AL es true ld tl vis v 0 r l' t' v'

set_option maxRecDepth 100000 in
set_option maxHeartbeats 16000000 in
theorem assign_step (n u : Nat) (hn : n ≤ 60) (IH : ∀ u', u' < u → AssignAt n u') : AssignAt n u := by
  intro M w base bv b go gt hs ld tl E cE es gv vis i hu hin hg hov hM
  have HU := Lib.hid hu
  have HIN := Lib.hid hin
  have HG := Lib.hid hg
  have HV := Lib.hid hov
  have HIH := Lib.hid IH
  have hi : i < M := hin.lt
  have i0 : (0 : Int) ≤ (i : Int) := by omega
  have i1 : (i : Int) < (M : Int) := by omega
  have c0 := hg.c0
  obtain ⟨base', hed⟩ := hg.eds
  obtain ⟨ad, e1, d0, d1⟩ := hed.rd.prs_at hi
  have hx0 := hin.ok _ (edAt_mem (k := i) (by rw [hin.len]; exact hi))
  obtain ⟨x0, x1, hxy, hx0n, hx1n, hx01⟩ : ∃ x0 x1 : Nat, edAt es i = ((x0 : Int), (x1 : Int)) ∧ x0 < n ∧ x1 < n ∧ x0 ≠ x1 := by
    obtain ⟨h1, h2, h3, h4, h5⟩ := hx0
    exact ⟨(edAt es i).1.toNat, (edAt es i).2.toNat, Prod.ext (by simp; omega) (by simp; omega), by omega, by omega, by omega⟩
  have ge : es.getD i (0, 0) = edAt es i := rfl
  rw [ge, hxy] at d0 d1
  simp only at d0 d1
  have HXY := Lib.hid hxy
  subst e1
  clear hu hin hg hov hed hx0 ge hxy IH
  go_enter Try.func51, Try.ntmps51
  go_wp2_with fail
  go_loopg [8, 9, 10, 18] 2 (fun k _ _ _ t wr => ∃ (q : Nat) (vis1 : List Bool), t = .int .i64 q ∧ q ≤ 2 ∧ k = 2 - q ∧ AM wr base b go gt n M hs ld tl (some ad) cE es ∧ Own wr bv 4 1 (some ⟨gv, 0, none⟩) n n (bools vis1) ∧ OCont es ld tl vis i q vis1 ∧ (∀ y, visB vis y = true → visB vis1 y = true) ∧ GStep (fun k => k = gt ∨ k = gv) w wr go hs hs)
  case atStart => exact ⟨0, vis, rfl, by omega, rfl, HG.out, HV.out, fun _ _ _ _ h => h, fun _ h => h, GStep.refl _ _ _ _⟩
  case round =>
    obtain ⟨q, vis1, rfl, hq, rfl, hg1, hv1, hct, hmo, hst⟩ := hrel
    have HG1 := Lib.hid hg1
    have HV1 := Lib.hid hv1
    have HCT := Lib.hid hct
    have HMO := Lib.hid hmo
    have HST := Lib.hid hst
    clear hg1 hv1 hct hmo hst
    by_cases hlt : q < 2
    · obtain ⟨v, hev, hvn, hidx⟩ : ∃ v : Nat, endOf es i q = v ∧ v < n ∧ ∀ W : World, (Instr.index 45 (.agg #[.int .i64 (x0 : Int), .int .i64 (x1 : Int)]) (.int .i64 (q : Int))).run Try.prog W = .ok (.int .i64 (v : Int)) W := by
        rcases (show q = 0 ∨ q = 1 by omega) with rfl | rfl
        · exact ⟨x0, by unfold endOf; rw [HXY.out]; simp, hx0n, fun W => by kernel_rfl⟩
        · exact ⟨x1, by unfold endOf; rw [HXY.out]; simp, hx1n, fun W => by kernel_rfl⟩
      have HEV := Lib.hid hev
      have v0 : (0 : Int) ≤ (v : Int) := by omega
      have v1 : (v : Int) < (n : Int) := by omega
      have cv := HV1.out.cellB hvn
      have fv := HV1.out.frozen v
      have q2 : (q : Int) < 2 := by omega
      clear hev
      cases hvv : visB vis1 v
      · rw [hvv] at cv
        have HVV := Lib.hid hvv
        have hg2 := HG1.out.visited (a := v) HV1.out (.bool true)
        have HG2 := Lib.hid hg2
        have c22 := hg2.c2
        obtain ⟨⟨Av, cvv⟩, hhv, hov, crv, orv⟩ := hg2.row_at hvn
        simp only at crv orv
        have hlv := own_le orv
        generalize hln : (rowOf ld v).length = ln at crv orv hlv
        have HLN := Lib.hid hln
        have HHV := Lib.hid hhv
        have HOV := Lib.hid hov
        have ORV := Lib.hid orv
        clear hvv hg2 hhv hov orv hln
        by_cases hfree : ln < 2
        · have hfi : (ln : Int) < 2 := by omega
          go_upto_region 7 with fail
          have HVs : Hid (Own (wr.setCell ⟨gv, v, none⟩ (.bool true)) bv 4 1 (some ⟨gv, 0, none⟩) n n (bools (vis1.set v true))) := Lib.hid (HV1.out.storeB v true)
          have HSs : Hid (GStep (fun k => k = gt ∨ k = gv) w (wr.setCell ⟨gv, v, none⟩ (.bool true)) go hs hs) := Lib.hid (HST.out.trans ⟨(Fr.refl _ _).setCell (p := ⟨gv, v, none⟩) (.inl (.inr (.inr rfl))) _, fun _ _ h => h⟩)
          generalize wr.setCell ⟨gv, v, none⟩ (.bool true) = w6 at *
          have cb6 := c22
          have cr6 := crv
          have fz6 : w6.frozen? ⟨go, v, none⟩ = false := HG2.out.om.outer.frozen v
          have cba : (w6.drew.alloc (.cells #[.int .i64 (i : Int)] 3)).cell? ⟨b, 2, none⟩ = some (.slice (some ⟨go, 0, none⟩) n n) := Keeps.alloc w6.drew _ _ _ cb6
          have cra : (w6.drew.alloc (.cells #[.int .i64 (i : Int)] 3)).cell? ⟨go, v, none⟩ = some (.slice Av ln cvv) := Keeps.alloc w6.drew _ _ _ cr6
          have cbb : (w6.alloc (.cells #[.int .i64 (i : Int)] 3)).cell? ⟨b, 2, none⟩ = some (.slice (some ⟨go, 0, none⟩) n n) := Keeps.alloc w6 _ _ _ cb6
          have crb : (w6.alloc (.cells #[.int .i64 (i : Int)] 3)).cell? ⟨go, v, none⟩ = some (.slice Av ln cvv) := Keeps.alloc w6 _ _ _ cr6
          have HGA : Hid (AM (w6.drew.alloc (.cells #[.int .i64 (i : Int)] 3)) base b go gt n M hs ld tl (some ad) cE es) := Lib.hid (HG2.out.later (((Below.refl _ _).drew).alloc (by simp) _))
          have ORA : Hid (Own (w6.drew.alloc (.cells #[.int .i64 (i : Int)] 3)) base 3 1 Av ln cvv (ints (rowOf ld v))) := Lib.hid (Own.alloc (w := w6.drew) ORV.out _)
          have HB6 : base ≤ w6.heap.size := by have := HG2.out.lt; have := HG2.out.lo; omega
          go_cut [51] (fun _ wx => ∃ hs8, AM wx base b go gt n M hs8 (ld.set v (rowOf ld v ++ [(i : Int)])) tl (some ad) cE es ∧ Own wx bv 4 1 (some ⟨gv, 0, none⟩) n n (bools (vis1.set v true)) ∧ GStep (fun k => k = gt ∨ k = gv) w wx go hs hs8)
          case first =>
            go_region_law ((first
              | (refine step_app _ rfl (.tmp 48) (.tmp 50) 27 rfl base 3 (.int .i64 0) 1 8 Try.underlying27 info_int' rfl (by decide) Av ln cvv (ints (rowOf ld v)) (by simp [Act.eval, Act.put]) ORA.out (some ⟨w6.heap.size, 0, none⟩) 1 1 (ints [(i : Int)]) (by simp [Act.eval, Act.put]) (rd_lit_at rfl [(i : Int)] _) (ints_one _) (by omega) (by unfold maxLen; omega) (by simp; omega) ?_; intro B7 c7 w7 ho7 hg7 hb7; obtain ⟨cb7, cr7, fz7⟩ := HGA.out.push_facts HHV.out ORA.out hg7 cra; have P7 := Lib.hid (HGA.out.push HHV.out HOV.out HLN.out hg7 ho7 hb7); clear ho7 hg7 hb7)
              | fail))
            all_goals
             go_wp2_with fail
             go_meet
             exact ⟨_, P7.out.1, Fr.own (HVs.out.later (((Below.refl _ _).drew).alloc (by simp) _)) (P7.out.2 (fun _ => False)).fr (fun k hk h => by simp [blk] at hk; subst hk; exact h.elim (HG2.out.vis HVs.out).1 id), HSs.out.trans ((GStep.of_below (((Below.refl _ _).drew).alloc (by simp) _)).trans (P7.out.2 _))⟩
          case rest =>
            obtain ⟨hs8, hg8, hv8, hst8⟩ := hcut
            have HG8 := Lib.hid hg8
            have HV8 := Lib.hid hv8
            have HS8 := Lib.hid hst8
            have c18 := hg8.c1
            have ct8 := hg8.ta.cell hi
            have ft8 := hg8.ta.frozen i
            clear hg8 hv8 hst8
            go_wp2_with fail
            go_ret
            have T8 := HG8.out.setTail i (v : Int)
            obtain ⟨z1, z2, z3, z4⟩ := HG8.out.vis HV8.out
            exact ⟨true, _, _, _, hs8, HCT.out _ _ _ _ (.outFree hlt HEV.out HVV.out (by rw [HLN.out]; exact hfree)), rfl, T8.1, Fr.own HV8.out ((Fr.refl (fun k => k = gt) _).setCell (p := ⟨gt, i, none⟩) (.inl rfl) _) (fun k hk h => by simp [blk] at hk; subst hk; exact z2 h), HS8.out.trans (T8.2 _ (.inl rfl)), fun h => by cases h⟩
        · have hfi : ¬ (ln : Int) < 2 := by omega
          go_wp2_with fail
          have HVs : Hid (Own (wr.setCell ⟨gv, v, none⟩ (.bool true)) bv 4 1 (some ⟨gv, 0, none⟩) n n (bools (vis1.set v true))) := Lib.hid (HV1.out.storeB v true)
          have HSs : Hid (GStep (fun k => k = gt ∨ k = gv) w (wr.setCell ⟨gv, v, none⟩ (.bool true)) go hs hs) := Lib.hid (HST.out.trans ⟨(Fr.refl _ _).setCell (p := ⟨gv, v, none⟩) (.inl (.inr (.inr rfl))) _, fun _ _ h => h⟩)
          go_loopg [9, 10, 68] ln (fun k _ _ t wi => ∃ (p : Nat) (vis2 : List Bool), t = .int .i64 p ∧ p ≤ ln ∧ k = ln - p ∧ AM wi base b go gt n M hs ld tl (some ad) cE es ∧ Own wi bv 4 1 (some ⟨gv, 0, none⟩) n n (bools vis2) ∧ ICont es ld tl (vis1.set v true) v p vis2 ∧ (∀ y, visB (vis1.set v true) y = true → visB vis2 y = true) ∧ GStep (fun k => k = gt ∨ k = gv) w wi go hs hs)
          case atStart => exact ⟨0, _, rfl, by omega, rfl, HG2.out, HVs.out, fun _ _ _ _ h => h, fun _ h => h, HSs.out⟩
          case round =>
            obtain ⟨p, vis2, rfl, hp, rfl, hg3, hv3, hic, hmo3, hst3⟩ := hrel
            have HG3 := Lib.hid hg3
            have HV3 := Lib.hid hv3
            have HIC := Lib.hid hic
            have HM3 := Lib.hid hmo3
            have HS3 := Lib.hid hst3
            rename World => wi
            clear hg3 hv3 hic hmo3 hst3
            by_cases hpl : p < ln
            · obtain ⟨hd', hh', -, -, orow⟩ := HG3.out.row_at hvn
              rw [HHV.out] at hh'
              injection hh' with hh'
              subst hh'
              simp only at orow
              rw [HLN.out] at orow
              obtain ⟨ar, rfl, hql, cj⟩ := orow.rd.int_at hpl
              have hgx : (rowOf ld v)[p]? = some ((rowOf ld v).getD p 0) := by rw [List.getD_eq_getElem?_getD, List.getElem?_eq_getElem hql]; rfl
              have hmem := HIN.out.rows v _ (getI_mem hgx)
              obtain ⟨j, hj⟩ : ∃ j : Nat, (rowOf ld v).getD p 0 = (j : Int) := ⟨((rowOf ld v).getD p 0).toNat, by omega⟩
              rw [hj] at cj hmem hgx
              have HGX := Lib.hid hgx
              have hjM : j < M := by omega
              have inv1 : AInv n M es ld tl vis1 := HIN.out.inv.more HMO.out
              obtain ⟨k1, k2, k3⟩ := call_ok inv1 hvn HVV.out HV1.out.blen HM3.out (getI_mem hgx)
              have K3 := Lib.hid (And.intro k1 (And.intro k2 k3))
              have hcs := cV_set hvn HV1.out.blen HVV.out
              have hc1 : cV n vis ≤ cV n vis1 := cV_mono HMO.out
              have hc2 : cV n (vis1.set v true) ≤ cV n vis2 := cV_mono HM3.out
              have hcl := cV_le n vis2
              have HI := Lib.hid (HIH.out (n - cV n vis2) (by have := HU.out; omega) M wi base bv b go gt hs ld tl (some ad) cE es gv vis2 j (by omega) ⟨HIN.out.len, HIN.out.ok, HIN.out.rows, k1, hjM, k2⟩ HG3.out HV3.out hM)
              clear orow hql hgx hmem hj inv1 k1 k2 k3 hcs hc1 hc2 hcl
              have p0 : (0 : Int) ≤ (p : Int) := by omega
              go_wp2_with (first
                | (go_at_call 51; refine HI.out.mono ?_; rintro e w5 ⟨r, ld5, tl5, vis5, hs5, hal, rfl, hg5, hv5, hst5, hsame⟩; have HA5 := Lib.hid hal; have HG5 := Lib.hid hg5; have HV5 := Lib.hid hv5; have HS5 := Lib.hid hst5; have HSA := Lib.hid hsame; have hrow5 := call_row (v := v) HIN.out.ok HIN.out.len HIN.out.rows HV3.out.blen hjM K3.out.1 K3.out.2.1 K3.out.2.2 hal; obtain ⟨⟨A5, d5⟩, hh5, ho5, cr5, or5⟩ := hg5.row_at hvn; simp only at cr5 or5; rw [hrow5, HLN.out] at cr5 or5; rw [hrow5] at ho5; obtain ⟨gr, rfl, -, -⟩ := or5.some_ (by omega); have c25 := hg5.c2; have el5 := or5.cell hpl; have fz5 := or5.frozen p; have E5 := Lib.hid (AM.setElem (k := p) (x := (i : Int)) hg5 hh5 ho5); have c15 := E5.out.1.c1; have ct5 := E5.out.1.ta.cell hi; have ft5 := E5.out.1.ta.frozen i; have HH5 := Lib.hid hh5; have HR5 := Lib.hid hrow5; clear hal hg5 hv5 hst5 hsame hrow5 hh5 ho5 or5; cases r)
                | fail)
              · obtain rfl := HSA.out (by simp)
                have hal := HA5.out
                rw [if_neg (by simp)] at hal
                obtain ⟨rfl, rfl, -⟩ := hal.no HIN.out.ok (by rw [HIN.out.len]; exact HIN.out.rows) HV3.out.blen (fun _ => by rw [HIN.out.len]; exact hjM) rfl
                go_roundg (ln - (p + 1))
                case measure => omega
                case rel => exact ⟨p + 1, vis5, by go_num, by omega, rfl, HG5.out, HV5.out, fun r l' t' v' h => HIC.out r l' t' v' (.inMiss HGX.out hal h), fun y hy => hal.vmono y (HM3.out y hy), HS3.out.trans HS5.out⟩
              · have hal := HA5.out
                rw [if_pos (by simp)] at hal
                go_ret
                have T8 := E5.out.1.setTail i (v : Int)
                obtain ⟨z1, z2, z3, z4⟩ := HG5.out.vis HV5.out
                have hvis : Own (w5.setCell ⟨gr, p, none⟩ (.int .i64 (i : Int))) bv 4 1 (some ⟨gv, 0, none⟩) n n (bools vis5) := Fr.own HV5.out ((Fr.refl (fun k => k = gr) _).setCell (p := ⟨gr, p, none⟩) (.inl rfl) _) (fun k hk h => by simp [blk] at hk; subst hk; subst h; exact z1 (.inr ⟨_, List.mem_of_getElem? HH5.out, rfl⟩))
                have hfin := HCT.out _ _ _ _ (.outHit hlt HEV.out HVV.out (by rw [HLN.out]; omega) (HIC.out _ _ _ _ (.inHit HGX.out hal)))
                rw [HR5.out] at hfin
                exact ⟨true, _, _, _, hs5, hfin, rfl, T8.1, Fr.own hvis ((Fr.refl (fun k => k = gt) _).setCell (p := ⟨gt, i, none⟩) (.inl rfl) _) (fun k hk h => by simp [blk] at hk; subst hk; exact z2 h), HS3.out.trans (HS5.out.trans ((E5.out.2 _).trans (T8.2 _ (.inl rfl)))), fun h => by cases h⟩
            · obtain rfl : p = ln := by omega
              go_wp2_with fail
              have hd3 := HIC.out _ _ _ _ (.inDone (by rw [HLN.out]; exact Nat.le_refl _))
              go_roundg (2 - (q + 1))
              case measure => omega
              case rel => exact ⟨q + 1, vis2, by go_num, by omega, rfl, HG3.out, HV3.out, fun r l' t' v' h => HCT.out r l' t' v' (.outMiss hlt HEV.out HVV.out (by rw [HLN.out]; omega) hd3 h), fun y hy => HM3.out y (vset_mono' _ _ _ (HMO.out y hy)), HS3.out⟩
      · rw [hvv] at cv
        have HVV := Lib.hid hvv
        clear hvv
        go_wp2_with fail
        go_roundg (2 - (q + 1))
        case measure => omega
        case rel => exact ⟨q + 1, vis1, by go_num, by omega, rfl, HG1.out, HV1.out, fun r l' t' v' h => HCT.out r l' t' v' (.outSkip hlt (by rw [HEV.out]; exact HVV.out) h), HMO.out, HST.out⟩
    · obtain rfl : q = 2 := by omega
      go_wp2_with fail
      go_ret
      exact ⟨false, ld, tl, vis1, hs, HCT.out _ _ _ _ (.outDone (Nat.le_refl _)), rfl, HG1.out, HV1.out, HST.out, fun _ => rfl⟩
end Go.Proofs.Ytbhkdodokdgijaa
