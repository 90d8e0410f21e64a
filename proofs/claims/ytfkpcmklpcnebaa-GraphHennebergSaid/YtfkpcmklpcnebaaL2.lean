/-
  Components of the reference.
-/
import Derived.Test.YtfkpcmklpcnebaaL1
import Derived.Test.YtfkpcmklpcnebaaSpecN
import Derived.Test.YtfkpcmklpcnebaaG9
import Derived.Test.YtfkpcmklpcnebaaOwnL
namespace Go.Proofs.Ytfkpcmklpcnebaa
set_option linter.unusedVariables false
set_option linter.unusedSimpArgs false
open Go.RowKit Go.Sort

def ListsPost (w : World) (ls : List (List Int)) (e : Ending) (w' : World) : Prop :=
  Below w.heap.size w w' ∧ ∃ A c, e = .returned (.slice A ls.length c) ∧ OwnL w' w.heap.size A ls.length c ls
def marksF (n : Nat) (es : List (Int × Int)) (i : Nat) : Nat := NA (mrounds es n (List.range n)) i
def compE (N : Int) (es : List (Int × Int)) : List (List Int) := if validB N es = true then (compsK (marksF N.toNat es) N.toNat).map NL else []
theorem NL_one (k : Nat) : NL [k] = [(k : Int)] := rfl
theorem ints_NL_len (l : List Nat) : (ints (NL l)).length = l.length := by rw [ints_length, NL_len]
theorem own_NL_cell {w : World} {base g n c : Nat} {l : List Nat} (h : Own w base 3 1 (some ⟨g, 0, none⟩) n c (ints (NL l))) {j : Nat} (hj : j < n) : w.cell? ⟨g, j, none⟩ = some (.int .i64 (NA l j : Nat)) := by
  have hl := h.len
  rw [ints_NL_len] at hl
  rw [h.cell hj, NL_at (by omega)]
theorem own_NL_store {w : World} {base g n c : Nat} {l : List Nat} (h : Own w base 3 1 (some ⟨g, 0, none⟩) n c (ints (NL l))) (j x : Nat) : Own (w.setCell ⟨g, j, none⟩ (.int .i64 (x : Int))) base 3 1 (some ⟨g, 0, none⟩) n c (ints (NL (l.set j x))) := by
  rw [NL_set]; exact h.store j x
theorem range_snoc (k : Nat) : NL (List.range (k + 1)) = NL (List.range k) ++ [(k : Int)] := by rw [List.range_succ, NL_app]; rfl
theorem mrounds_bd {n : Nat} {es : List (Int × Int)} (h : EndsOk n es) (r k : Nat) (hk : k ≤ es.length) : MInv n es (mrun (es.take k) (mrounds es r (List.range n))) :=
  (mrun_inv h (es.take k) _ (fun e he => List.mem_of_mem_take he) (mrounds_inv h r).1).1
theorem mrun_take {es : List (Int × Int)} {k : Nat} (hk : k < es.length) {x y : Int} (hxy : es.getD k (0, 0) = (x, y)) (mk : List Nat) : mrun (es.take (k + 1)) mk = mstep (mrun (es.take k) mk) x.toNat y.toNat := by
  rw [List.take_succ_eq_append_getElem hk, mrun_snoc]
  rw [List.getD_eq_getElem?_getD, List.getElem?_eq_getElem hk] at hxy
  simp only [Option.getD_some] at hxy
  rw [hxy]

set_option maxRecDepth 100000 in
set_option maxHeartbeats 16000000 in
theorem rcomp_any (N : Int) (A : Option Addr) (m c : Nat) (es : List (Int × Int)) (w : World) (hm : m ≤ 1000) (he : Rd w 2 A m (prs es)) :
    Calls Try.prog 19 #[.agg #[.int .i64 N, .slice A m c]] w (ListsPost w (compE N es)) := by
  have HE := Lib.hid he.prs_len
  have H0 := Lib.hid he
  have H1 := Lib.hid (he.keep (Keeps.alloc w (.cells #[.int .i64 N, .slice A m c] 24)))
  clear he
  have S1 : Hid (Below w.heap.size w (w.alloc (.cells #[.int .i64 N, .slice A m c] 24))) := (Below.refl _ _).alloc (Nat.le_refl _) _
  cases hv : validB N es
  · have HV := Lib.hid hv
    have e0 : compE N es = [] := by unfold compE; rw [hv]; rfl
    rw [e0]
    clear hv e0
    go_enter Try.func19, Try.ntmps19
    go_wp2_with (go_at_call 13; refine (rvalid_b (b := false) N _ m c es _ (by omega) H1.out HV.out).mono ?_; rintro e w1 ⟨rfl, hb1⟩)
    go_ret
    exact ⟨S1.out.trans (hb1.mono (by simp)), none, 0, rfl, OwnL.nil _ _⟩
  obtain ⟨hN0, hN1, -⟩ := (validB_iff N es).1 hv
  obtain ⟨n, rfl⟩ : ∃ n : Nat, N = n := ⟨N.toNat, by omega⟩
  have hends : EndsOk n es := ends_of hv
  have HEN := Lib.hid hends
  have HV := Lib.hid hv
  have e0 : compE n es = (compsK (marksF n es) n).map NL := by unfold compE; rw [hv, if_pos rfl, Int.toNat_natCast]
  rw [e0]
  clear hv e0 hends
  go_enter Try.func19, Try.ntmps19
  go_wp2_with (go_at_call 13; refine (rvalid_b (b := true) n _ m c es _ (by omega) H1.out HV.out).mono ?_; rintro e w1 ⟨rfl, hb1⟩; have S2 := Lib.hid (S1.out.trans (hb1.mono (by simp))); have R1 := Lib.hid (H1.out.keep (Keeps.of_below hb1 (Nat.le_refl _))); have hz1 := hb1.size; have q0 : w1.cell? ⟨w.heap.size, 0, none⟩ = some (.int .i64 n) := (by rw [hb1.cell (by simp)]; simp); have q1 : w1.cell? ⟨w.heap.size, 1, none⟩ = some (.slice A m c) := (by rw [hb1.cell (by simp)]; simp); clear hb1)
  simp at hz1
  go_loopw [3, 4] (fun s3 i wr => Below w1.heap.size w1 wr ∧ ∃ k : Nat, k ≤ n ∧ i = .int .i64 k ∧ ∃ B cB, s3 = .slice B k cB ∧ Own wr w1.heap.size 3 1 B k cB (ints (NL (List.range k)))) (fun _ i _ => n - (intOf i).toNat)
  case atStart => exact ⟨Below.refl _ _, 0, Nat.zero_le _, rfl, none, 0, rfl, Own.nil _ _ _ _⟩
  case round =>
    obtain ⟨hb, k, hk, rfl, B, cB, rfl, ho⟩ := hrel
    have p0 : wr.cell? ⟨w.heap.size, 0, none⟩ = some (.int .i64 n) := by rw [hb.cell (by simp; omega)]; exact q0
    have p1 : wr.cell? ⟨w.heap.size, 1, none⟩ = some (.slice A m c) := by rw [hb.cell (by simp; omega)]; exact q1
    have hzr := hb.size
    have HB := Lib.hid hb
    have OWN := Lib.hid ho
    clear hb ho
    by_cases hlt : k < n
    · go_wp2_with (at_builtin; refine wpList_app _ rfl (.tmp 22) (.tmp 24) 35 rfl w1.heap.size 3 (.int .i64 0) 1 8 Try.underlying35 info_int' rfl (by decide) B k cB (ints (NL (List.range k))) rfl (OWN.out.alloc _) (some ⟨wr.heap.size, 0, none⟩) 1 1 (ints [(k : Int)]) rfl (rd_lit_at rfl [(k : Int)] _) (ints_one _) (by omega) (by unfold maxLen; omega) (by simp; omega) ?_; intro B4 c4 w4 ho4 hg4 hb4; have O4 := Lib.hid ho4; have S4 : Hid (Below w1.heap.size w1 w4) := Lib.hid (HB.out.trans (((Below.refl _ _).alloc (by omega) _).grown hg4 (by simp; omega) (fun b hb => (OWN.out.lt hb).1))); clear ho4 hg4 hb4)
      go_roundw
      case rel => exact ⟨S4.out, k + 1, by omega, by go_num, B4, c4, rfl, by rw [range_snoc, ints_app]; exact O4.out⟩
      case measure => simp [intOf]; omega
    · obtain rfl : k = n := by omega
      clear HV
      go_wp2
      go_loopw [5, 6, 7, 8] (fun i _ _ _ wr => Below w1.heap.size w1 wr ∧ ∃ r : Nat, r ≤ k ∧ i = .int .i64 r ∧ Own wr w1.heap.size 3 1 B k cB (ints (NL (mrounds es r (List.range k))))) (fun i _ _ _ _ => k - (intOf i).toNat)
      case atStart => exact ⟨HB.out, 0, Nat.zero_le _, rfl, OWN.out⟩
      case round =>
        obtain ⟨hb, r, hr, rfl, ho⟩ := hrel
        have p0 : wr.cell? ⟨w.heap.size, 0, none⟩ = some (.int .i64 k) := by rw [hb.cell (by simp; omega)]; exact q0
        have p1 : wr.cell? ⟨w.heap.size, 1, none⟩ = some (.slice A m c) := by rw [hb.cell (by simp; omega)]; exact q1
        have hzr := hb.size
        have HB := Lib.hid hb
        have OWN := Lib.hid ho
        clear hb ho
        by_cases hltr : r < k
        · go_wp2
          go_loopw [6, 7, 8] (fun i _ _ wr => Below w1.heap.size w1 wr ∧ ∃ t : Nat, t ≤ m ∧ i = .int .i64 t ∧ Own wr w1.heap.size 3 1 B k cB (ints (NL (mrun (es.take t) (mrounds es r (List.range k)))))) (fun i _ _ _ => m - (intOf i).toNat)
          case atStart => exact ⟨HB.out, 0, Nat.zero_le _, rfl, OWN.out⟩
          case round =>
            obtain ⟨hb, t, ht, rfl, ho⟩ := hrel
            have p0 : wr.cell? ⟨w.heap.size, 0, none⟩ = some (.int .i64 k) := by rw [hb.cell (by simp; omega)]; exact q0
            have p1 : wr.cell? ⟨w.heap.size, 1, none⟩ = some (.slice A m c) := by rw [hb.cell (by simp; omega)]; exact q1
            have hzr := hb.size
            have HB := Lib.hid hb
            have OWN := Lib.hid ho
            have RD := Lib.hid (R1.out.keep (Keeps.of_below hb (Nat.le_refl _)))
            clear hb ho
            by_cases hltt : t < m
            · have HST : Hid (∀ x y : Int, es.getD t (0, 0) = (x, y) → mrun (es.take (t + 1)) (mrounds es r (List.range k)) = mstep (mrun (es.take t) (mrounds es r (List.range k))) x.toNat y.toNat) := fun x y h => mrun_take (by rw [HE.out]; exact hltt) h _
              have HEK : Hid (0 ≤ (es.getD t (0, 0)).1 ∧ (es.getD t (0, 0)).1 < (es.getD t (0, 0)).2 ∧ (es.getD t (0, 0)).2 < k) := by
                rw [List.getD_eq_getElem?_getD, List.getElem?_eq_getElem (by rw [HE.out]; exact hltt)]
                exact HEN.out _ (List.getElem_mem _)
              obtain ⟨ad, rfl, c0, c1⟩ := RD.out.prs_at hltt
              generalize hxy : es.getD t (0, 0) = xy at c0 c1 HEK
              obtain ⟨x, y⟩ := xy
              simp only at c0 c1
              have HXY := Lib.hid hxy
              obtain ⟨hx0, hxy0, hyN⟩ := HEK.out
              simp only at hx0 hxy0 hyN
              obtain ⟨a, rfl⟩ : ∃ a : Nat, x = a := ⟨x.toNat, by omega⟩
              obtain ⟨b, rfl⟩ : ∃ b : Nat, y = b := ⟨y.toNat, by omega⟩
              have hstp := HST.out _ _ HXY.out
              simp only [Int.toNat_natCast] at hstp
              have HSTP := Lib.hid hstp
              clear hxy hstp HST
              obtain ⟨g, rfl, -, -⟩ := OWN.out.some_ (by omega)
              generalize hmk : mrun (es.take t) (mrounds es r (List.range k)) = mk at OWN HSTP
              have HMK := Lib.hid hmk
              have d0 := own_NL_cell OWN.out (j := a) (by omega)
              have d1 := own_NL_cell OWN.out (j := b) (by omega)
              generalize hu : NA mk a = u at d0
              generalize hvv : NA mk b = v at d1
              have HU := Lib.hid hu
              have HV' := Lib.hid hvv
              have k0 := grown_cell c0
              have k1 := grown_cell c1
              have k2 := grown_cell p1
              have ha0 : (0 : Int) ≤ (a : Int) := by omega
              have hb0 : (0 : Int) ≤ (b : Int) := by omega
              have ht0 : (0 : Int) ≤ (t : Int) := by omega
              have ht1 : (t : Int) < (m : Int) := by omega
              have hak : (a : Int) < (k : Int) := by omega
              clear hmk hu hvv
              by_cases hvu : v < u
              all_goals
                go_wp2
                refine wp_region_q (by kernel_rfl) (by kernel_rfl) ?_
                repeat (go_big_quiet_step (fail))
                refine wpQuiet_nil ?_
                intro wq hgq
                have d0 := Keeps.of_below hgq (Nat.le_refl _) _ _ d0
                have d1 := Keeps.of_below hgq (Nat.le_refl _) _ _ d1
                have OQ := Lib.hid (OWN.out.later hgq)
                have BQ : Hid (Below w1.heap.size w1 wq) := Lib.hid (HB.out.trans (hgq.mono (by omega)))
                clear hgq k0 k1 k2
                have k3 := grown_cell d0
                have k4 := grown_cell d1
                go_wp2
                refine wp_region_q (by kernel_rfl) (by kernel_rfl) ?_
                repeat (go_big_quiet_step (fail))
                refine wpQuiet_nil ?_
                intro wz hgz
                have d0 := Keeps.of_below hgz (Nat.le_refl _) _ _ d0
                have d1 := Keeps.of_below hgz (Nat.le_refl _) _ _ d1
                have OZ := Lib.hid (OQ.out.later hgz)
                have hzq := BQ.out.size
                have BZ : Hid (Below w1.heap.size w1 wz) := Lib.hid (BQ.out.trans (hgz.mono hzq))
                have fa := OZ.out.frozen a
                have fb := OZ.out.frozen b
                have hgl : w1.heap.size ≤ g := (OZ.out.lt (k := g) rfl).1
                clear hgz k3 k4
                go_wp2
                go_roundw
                case rel => first
                  | exact ⟨BZ.out.setCell hgl _, t + 1, by omega, by go_num, by rw [HSTP.out]; unfold mstep; rw [HU.out, HV'.out, if_pos hvu]; exact own_NL_store OZ.out a v⟩
                  | exact ⟨BZ.out.setCell hgl _, t + 1, by omega, by go_num, by rw [HSTP.out]; unfold mstep; rw [HU.out, HV'.out, if_neg hvu]; exact own_NL_store OZ.out b u⟩
                case measure => simp [intOf]; omega
            · obtain rfl : t = m := by omega
              go_wp2
              go_roundw
              case rel => exact ⟨HB.out, r + 1, by omega, by go_num, by have := OWN.out; rw [List.take_of_length_le (by rw [HE.out]; exact Nat.le_refl _)] at this; exact this⟩
              case measure => simp [intOf]; omega
        · obtain rfl : r = k := by omega
          have GD := Lib.hid (marks_good HEN.out)
          generalize hmk : mrounds es r (List.range r) = mk at OWN
          have HMK : Hid (∀ i, marksF r es i = NA mk i) := fun i => by unfold marksF; rw [hmk]
          have hbig : ∀ i, marksF r es i = NA mk i := HMK.out
          clear hmk
          have MRD := Lib.hid OWN.out.rd
          have RDL := Lib.hid OWN.out.len
          rename World => w5
          generalize hS5 : w5.heap.size = S5
          have HS5 := Lib.hid hS5
          have q05 := p0
          clear hbig hS5
          go_wp2
          go_loopw [9, 10, 11, 12] (fun o i _ _ w6 => Below w5.heap.size w5 w6 ∧ ∃ q : Nat, q ≤ r ∧ i = .int .i64 q ∧ ∃ C cC, o = .slice C (refK (marksF r es) r q).length cC ∧ OwnL w6 w5.heap.size C (refK (marksF r es) r q).length cC ((refK (marksF r es) r q).map NL)) (fun _ i _ _ _ => r - (intOf i).toNat)
          case atStart => exact ⟨Below.refl _ _, 0, Nat.zero_le _, rfl, none, 0, rfl, OwnL.nil _ _⟩
          case round =>
            obtain ⟨hb, q, hq, rfl, C, cC, rfl, ho⟩ := hrel
            have p0 : wr.cell? ⟨w.heap.size, 0, none⟩ = some (.int .i64 r) := by rw [hb.cell (by simp; omega)]; exact q05
            have hz6 := hb.size
            have HB6 := Lib.hid hb
            have OL6 := Lib.hid ho
            have hql : (refK (marksF r es) r q).length ≤ q := by unfold refK; rw [List.length_map]; exact reps_le _ _
            generalize hQ : (refK (marksF r es) r q).length = ql at OL6 hql ⊢
            have HQL := Lib.hid hQ
            clear hb ho hQ
            by_cases hlt3 : q < r
            · rename World => w6
              go_wp2
              go_loopw [11, 12] (fun l i w7 => Below w6.heap.size w6 w7 ∧ ∃ j : Nat, j ≤ r ∧ i = .int .i64 j ∧ ∃ D cD, l = .slice D (cls (marksF r es) j q).length cD ∧ Own w7 w6.heap.size 3 1 D (cls (marksF r es) j q).length cD (ints (NL (cls (marksF r es) j q)))) (fun _ i _ => r - (intOf i).toNat)
              case atStart => exact ⟨Below.refl _ _, 0, Nat.zero_le _, rfl, none, 0, rfl, Own.nil _ _ _ _⟩
              case round =>
                obtain ⟨hb, j, hj, rfl, D, cD, rfl, ho⟩ := hrel
                have p0 : wr.cell? ⟨w.heap.size, 0, none⟩ = some (.int .i64 r) := by rw [hb.cell (by simp; omega)]; exact p0
                have hz7 := hb.size
                have HB7 := Lib.hid hb
                have O7 := Lib.hid ho
                have M7 := Lib.hid ((MRD.out.keep (Keeps.of_below HB6.out (by omega))).keep (Keeps.of_below hb (Nat.le_refl _)))
                have hpl : (cls (marksF r es) j q).length ≤ j := cls_le _ _ _
                generalize hP : (cls (marksF r es) j q).length = p at O7 hpl ⊢
                have HPL := Lib.hid hP
                clear hb ho hP
                by_cases hltj : j < r
                · obtain ⟨ad, rfl, hjl, c0⟩ := M7.out.int_at hltj
                  rw [NL_at (by rw [← NL_len]; exact hjl)] at c0
                  generalize hvv : NA mk j = v at c0
                  have HVV : Hid (marksF r es j = v) := by unfold Hid; rw [HMK.out, hvv]
                  clear hvv
                  by_cases hvq : v = q
                  · have HS : Hid (cls (marksF r es) (j + 1) q = cls (marksF r es) j q ++ [j]) := by unfold Hid; rw [cls_succ, if_pos (by rw [HVV.out]; exact hvq)]
                    have hvb : ((v : Int) == (q : Int)) = true := by simp [hvq]
                    clear hvq
                    go_wp2_with (at_builtin; refine wpList_app _ rfl (.tmp 92) (.tmp 94) 35 rfl w6.heap.size 3 (.int .i64 0) 1 8 Try.underlying35 info_int' rfl (by decide) D p cD (ints (NL (cls (marksF r es) j q))) rfl (O7.out.alloc _) (some ⟨wr.heap.size, 0, none⟩) 1 1 (ints [(j : Int)]) rfl (rd_lit_at rfl [(j : Int)] _) (ints_one _) (by omega) (by unfold maxLen; omega) (by simp; omega) ?_; intro B4 c4 w4 ho4 hg4 hb4; have O4 := Lib.hid ho4; have S4 : Hid (Below w6.heap.size w6 w4) := Lib.hid (HB7.out.trans (((Below.refl _ _).alloc (by omega) _).grown hg4 (by simp; omega) (fun b hb => (O7.out.lt hb).1))); clear ho4 hg4 hb4)
                    go_roundw
                    case rel => exact ⟨S4.out, j + 1, by omega, by go_num, B4, c4, by rw [HS.out, List.length_append, HPL.out]; rfl, by rw [HS.out, List.length_append, HPL.out, NL_app, ints_app]; exact O4.out⟩
                    case measure => simp [intOf]; omega
                  · have HS : Hid (cls (marksF r es) (j + 1) q = cls (marksF r es) j q) := by unfold Hid; rw [cls_succ, if_neg (by rw [HVV.out]; exact hvq), List.append_nil]
                    have hvb : ((v : Int) == (q : Int)) = false := by simp; omega
                    clear hvq
                    go_wp2
                    go_roundw
                    case rel => exact ⟨HB7.out, j + 1, by omega, by go_num, D, cD, by rw [HS.out, HPL.out], by rw [HS.out, HPL.out]; exact O7.out⟩
                    case measure => simp [intOf]; omega
                · obtain rfl : j = r := by omega
                  by_cases hf : marksF j es q = q
                  · have hne := cls_ne hlt3 hf
                    have hp0 : 0 < p := by
                      rw [← HPL.out]; exact List.length_pos_iff.2 hne
                    have HS : Hid (refK (marksF j es) j (q + 1) = refK (marksF j es) j q ++ [cls (marksF j es) j q]) := by unfold Hid; rw [refK_succ, if_pos hf]
                    have hpb : decide ((0 : Int) < (p : Int)) = true := by simp; omega
                    clear hf hne
                    have OLr := Lib.hid (OL6.out.later HB7.out)
                    obtain ⟨h1, hs, h2, h3, h4⟩ := OLr.out
                    have H3 := Lib.hid h3
                    have H4 := Lib.hid h4
                    have HH1 := Lib.hid h1
                    have HH2 := Lib.hid h2
                    clear h1 h2 h3 h4
                    go_wp2_with (at_builtin; refine wpList_app _ rfl (.tmp 99) (.tmp 101) 32 rfl w5.heap.size 35 (.slice none 0 0) 1 24 Try.underlying32 info_ints rfl (by decide) C ql cC (heads hs ((refK (marksF j es) j q).map NL)) rfl (H3.out.alloc _) (some ⟨wr.heap.size, 0, none⟩) 1 1 [.slice D p cD] rfl (rd_new _ 1 1 [.slice D p cD] _ rfl) head_one (by omega) (by unfold maxLen; omega) (by simp; omega) ?_; intro B4 c4 w4 ho4 hg4 hb4; have OW4 : Hid (OwnL w4 w5.heap.size B4 (ql + 1) c4 ((refK (marksF j es) j q).map NL ++ [NL (cls (marksF j es) j q)])) := Lib.hid (OwnL.push (w := wr.alloc (.cells #[.slice D p cD] 35)) HH1.out HH2.out (fun i hd l a b => (H4.out i hd l a b).alloc _) (by rw [NL_len, HPL.out]; exact (O7.out.base_le (by omega)).alloc _) ⟨_, H3.out.alloc _⟩ (by rw [NL_len, HPL.out]; exact ho4) hg4); have S4 : Hid (Below w5.heap.size w5 w4) := Lib.hid ((HB6.out.trans (HB7.out.mono (by omega))).trans (((Below.refl _ _).alloc (by omega) _).grown hg4 (by simp; omega) (fun b hb => (H3.out.lt hb).1))); clear ho4 hg4 hb4)
                    go_roundw
                    case rel => exact ⟨S4.out, q + 1, by omega, by go_num, B4, c4, by rw [HS.out, List.length_append, HQL.out]; rfl, by rw [HS.out, List.length_append, HQL.out, List.map_append]; exact OW4.out⟩
                    case measure => simp [intOf]; omega
                  · have hnil := cls_nil (fun i hi => GD.out.idem hi) hf
                    have hp0 : p = 0 := by rw [← HPL.out]; exact (congrArg List.length hnil).trans rfl
                    have HS : Hid (refK (marksF j es) j (q + 1) = refK (marksF j es) j q) := by unfold Hid; rw [refK_succ, if_neg hf, List.append_nil]
                    clear hf hnil
                    have OLr := Lib.hid (OL6.out.later HB7.out)
                    subst hp0
                    go_wp2
                    go_roundw
                    case rel => exact ⟨HB6.out.trans (HB7.out.mono (by omega)), q + 1, by omega, by go_num, C, cC, by rw [HS.out, HQL.out], by rw [HS.out, HQL.out]; exact OLr.out⟩
                    case measure => simp [intOf]; omega
            · obtain rfl : q = r := by omega
              go_wp2
              go_ret
              have e2 : ((compsK (marksF q es) q).map NL).length = ql := by rw [List.length_map, ← refK_end]; exact HQL.out
              refine ⟨S2.out.trans ((HB.out.mono (by omega)).trans (HB6.out.mono (by omega))), C, cC, ret_slice e2.symm, ?_⟩
              rw [e2, ← refK_end]
              exact OL6.out.base_le (by omega)
end Go.Proofs.Ytfkpcmklpcnebaa
