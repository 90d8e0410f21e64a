/-
  setsquareref35.find: the search for tails, for every list of edges in memory.
-/
import Derived.Test.YtohmafmdpajmlaaW3
import Derived.Test.YtohmafmdpajmlaaApp
import Derived.Test.YtohmafmdpajmlaaSpecJ
namespace Go.Proofs.Ytohmafmdpajmlaa
set_option linter.unusedVariables false
set_option linter.unusedSimpArgs false
open Go.RowKit Go.Sort

def FindPost (w : World) (r : Option (List Int)) (e : Ending) (w' : World) : Prop :=
  Below w.heap.size w w' ∧ match r with
  | none => e = .returned (.tuple #[.slice none 0 0, .bool false])
  | some l => ∃ A c, e = .returned (.tuple #[.slice A l.length c, .bool true]) ∧ Rd w' 1 A l.length (ints l) ∧ l.length ≤ c

set_option maxHeartbeats 4000000 in
theorem find_any (n m : Nat) (L : List (Int × Int)) (E : Option Addr) (ce : Nat) (hm : m ≤ 1000) (hn : n ≤ 60) (hin : ∀ e ∈ L, InN n e) : ∀ (d k : Nat) (out tails : List Int) (O T : Option Addr) (co tn tc : Nat) (w : World),
    d = m - k → k ≤ m → Rd w 2 E m (prs L) → Rd w 1 O n (ints out) → OutOk n out → Rd w 1 T tn (ints tails) → tn ≤ tc → tn + (m - k) ≤ 2000 →
    Calls Try.prog 36 #[.slice E m ce, .int .i64 k, .slice O n co, .slice T tn tc] w (FindPost w (findR (L.drop k) out tails)) := by
  intro d
  induction d with
  | zero =>
    intro k out tails O T co tn tc w hd hk he ho hok ht htc hb
    have hkm : k = m := by omega
    subst hkm
    have hdrop : L.drop k = [] := List.drop_eq_nil_of_le (by have := he.prs_len; omega)
    rw [hdrop]
    have hl := ht.int_len
    have HT := Lib.hid ht
    have HL := Lib.hid hl
    clear he ho ht hl hdrop hd hb hin
    go_enter Try.func36, Try.ntmps36
    go_wp2
    go_ret2
    exact ⟨Below.refl _ _, T, tc, by rw [HL.out]; rfl, by rw [HL.out]; exact HT.out, by rw [HL.out]; exact htc⟩
  | succ d ih =>
    intro k out tails O T co tn tc w hd hk he ho hok ht htc hb
    have hkm : k < m := by omega
    have IH := Lib.hid ih
    have HE := Lib.hid he.prs_len
    have H1 := Lib.hid he
    have H2 := Lib.hid ho
    have H3 := Lib.hid ht
    have HOK := Lib.hid hok
    have HTL := Lib.hid ht.int_len
    have hkl : k < L.length := by rw [HE.out]; exact hkm
    have hdrop : L.drop k = L.getD k (0, 0) :: L.drop (k + 1) := by
      rw [List.getD_eq_getElem?_getD, List.getElem?_eq_getElem hkl]; exact List.drop_eq_getElem_cons hkl
    have hen := hin (L.getD k (0, 0)) (by rw [List.getD_eq_getElem?_getD, List.getElem?_eq_getElem hkl]; exact List.getElem_mem hkl)
    rw [hdrop]
    obtain ⟨ad, rfl, c0, c1⟩ := he.prs_at hkm
    generalize hed : L.getD k (0, 0) = ed at c0 c1 hen
    obtain ⟨x, y⟩ := ed
    obtain ⟨h0, h1, h2, h3⟩ := hen
    simp only at h0 h1 h2 h3 c0 c1
    obtain ⟨X, rfl⟩ : ∃ X : Nat, x = X := ⟨x.toNat, by omega⟩
    obtain ⟨Y, rfl⟩ : ∃ Y : Nat, y = Y := ⟨y.toNat, by omega⟩
    obtain ⟨adO, rfl, -, -⟩ := ho.int_at (k := X) (by omega)
    have C0 := Lib.hid c0
    have C1 := Lib.hid c1
    have hkme : ((k : Int) == (m : Int)) = false := by simp; omega
    clear ih he ho ht hok hin hed hdrop c0 c1
    have info := info_int
    have INFO := Lib.hid info
    clear info
    go_enter Try.func36, Try.ntmps36
    go_wp2
    go_loopw [10] (fun sv wr => Below w.heap.size w wr ∧ ∃ s : Nat, s ≤ 2 ∧ sv = .int .i64 s ∧
        (1 ≤ s → (if out.getD X 0 < 2 then findR (L.drop (k + 1)) (bump out X) (tails ++ [(X : Int)]) else none) = none) ∧
        (2 ≤ s → (if out.getD Y 0 < 2 then findR (L.drop (k + 1)) (bump out Y) (tails ++ [(Y : Int)]) else none) = none))
      (fun sv _ => 2 - (intOf sv).toNat)
    case atStart => exact ⟨Below.refl _ _, 0, by omega, rfl, by omega, by omega⟩
    case round =>
      obtain ⟨hbw, s, hs, rfl, hf1, hf2⟩ := hrel
      have HB := Lib.hid hbw
      have HF1 := Lib.hid hf1
      have HF2 := Lib.hid hf2
      have K := Lib.hid (Keeps.of_below hbw (Nat.le_refl _))
      clear hbw hf1 hf2
      match s, hs with
      | 2, _ =>
        go_wp2
        go_ret2
        refine ⟨HB.out, ?_⟩
        have e1 := HF1.out (by omega)
        have e2 := HF2.out (by omega)
        have e3 : findR (((X : Int), (Y : Int)) :: L.drop (k + 1)) out tails = none := by
          unfold findR
          simp only [Int.toNat_natCast]
          rw [e1, e2]
        rw [e3]
        trivial
      | 0, _ =>
        have ck := K.out _ _ C0.out
        clear HF1 HF2
        have hq := HOK.out.2 X (by omega)
        obtain ⟨adO', e', -, co0⟩ := (H2.out.keep K.out).int_at (k := X) (by omega)
        obtain rfl : adO = adO' := by injection e'
        clear e'
        generalize hqq : out.getD X 0 = q at hq co0
        have HQ := Lib.hid hqq
        clear hqq
        by_cases hq2 : q < 2
        · go_wp2_with (first
            | (at_builtin; refine wpList_app _ rfl (.tmp 35) (.tmp 36) 30 rfl wr.heap.size 3 (.int .i64 0) 1 8 Try.underlying30 INFO.out rfl (by decide) (some ⟨wr.heap.size, 0, none⟩) 0 0 [] rfl (own_empty wr _ 1) (some adO) n co (ints out) rfl (H2.out.keep (K.out.trans (Keeps.alloc _ _))) (ints_one _) (by omega) (by unfold maxLen; omega) (by simp) ?_; intro A1 c1 w1 ho1 hg1 hb1; simp only [Nat.zero_add, List.nil_append] at ho1; obtain ⟨g, rfl, hg0, hg1'⟩ := ho1.some_ (by omega); have HO1 := Lib.hid ho1; have B1 : Hid (Below wr.heap.size wr w1) := ((Below.refl _ _).alloc (Nat.le_refl _) _).grown hg1 (by simp) (fun b hb => (by simp [blk] at hb; omega)); have cq := ho1.cell (j := X) (by omega); rw [show out.getD X 0 = q by first | rfl | exact HQ.out] at cq; have fq : w1.frozen? ⟨g, X, none⟩ = false := ho1.frozen _; clear ho1 hg1 hb1)
            | (at_builtin; refine wpList_app _ rfl (.tmp 49) (.tmp 50) 30 rfl w1.heap.size 3 (.int .i64 0) 1 8 Try.underlying30 INFO.out rfl (by decide) (some ⟨w1.heap.size, 0, none⟩) 0 0 [] rfl (own_empty_at (w := (w1.setCell ⟨g, X, none⟩ (.int .i64 (q + 1)))) (by simp) _ 1) T tn tc (ints tails) rfl (H3.out.keep ((K.out.trans (Keeps.of_below (B1.out.setCell (p := ⟨g, X, none⟩) hg0 _) (Nat.le_refl _))).trans (Keeps.alloc _ _))) (ints_one _) (by omega) (by unfold maxLen; omega) (by simp) ?_; intro A2 c2 w2 ho2 hg2 hb2; simp only [Nat.zero_add, List.nil_append] at ho2; have HO2 := Lib.hid ho2; have B2 : Hid (Below w1.heap.size (w1.setCell ⟨g, X, none⟩ (.int .i64 (q + 1))) w2) := ((Below.refl _ _).alloc (by simp) _).grown hg2 (by simp) (fun b hb => (by simp [blk] at hb; omega)); clear ho2 hg2 hb2)
            | (at_builtin; refine wpList_app _ rfl (.tmp 51) (.tmp 53) 30 rfl w1.heap.size 3 (.int .i64 0) 1 8 Try.underlying30 INFO.out rfl (by decide) A2 tn c2 (ints tails) rfl (HO2.out.alloc _) (some ⟨w2.heap.size, 0, none⟩) 1 1 (ints [(X : Int)]) rfl (rd_lit_at rfl [(X : Int)] _) (ints_one _) (by omega) (by unfold maxLen; omega) (by have := B2.out.size; simp at this; simp; omega) ?_; intro A3 c3 w3 ho3 hg3 hb3; have HO3 := Lib.hid ho3; have B3 : Hid (Below w1.heap.size (w1.setCell ⟨g, X, none⟩ (.int .i64 (q + 1))) w3) := (B2.out.alloc (by have := B2.out.size; simp at this; omega) _).grown hg3 (by have := B2.out.size; simp at this; simp; omega) (fun b hb => (HO2.out.lt hb).1); clear ho3 hg3 hb3))
          have hbump : bump out (X : Int) = out.set X (q + 1) := by unfold bump; rw [Int.toNat_natCast]; first | rw [HQ.out] | rfl
          have KW : Keeps wr w3 := (Keeps.of_below (B1.out.setCell (p := ⟨g, X, none⟩) hg0 (.int .i64 (q + 1))) (Nat.le_refl _)).trans (Keeps.of_below B3.out (by simp))
          have hr2 : Rd w3 1 (some ⟨g, 0, none⟩) n (ints (bump out (X : Int))) := by rw [hbump]; exact (HO1.out.store _ _).rd.keep (Keeps.of_below B3.out (by simp))
          have hr3 : Rd w3 1 A3 (tn + 1) (ints (tails ++ [(X : Int)])) := by rw [ints_app]; exact HO3.out.rd
          have hok3 : OutOk n (bump out (X : Int)) := bump_ok HOK.out (by omega) (by omega) (by rw [Int.toNat_natCast]; first | exact hq2 | (rw [HQ.out]; exact hq2))
          have hcall := IH.out (k + 1) (bump out (X : Int)) (tails ++ [(X : Int)]) (some ⟨g, 0, none⟩) A3 c1 (tn + 1) c3 w3 (by omega) (by omega) (H1.out.keep (K.out.trans KW)) hr2 hok3 hr3 HO3.out.cap (by omega)
          have BF : Hid (∀ w', Below w3.heap.size w3 w' → Below w.heap.size w w') := Lib.hid (fun w' hh => HB.out.trans (((B1.out.setCell (p := ⟨g, X, none⟩) hg0 (.int .i64 (q + 1))).trans ((B3.out.mono (by have := B1.out.size; simpa using this)).trans (hh.mono (by have := B3.out.size; have := B1.out.size; simp at *; omega)))).mono HB.out.size))
          have HCALL := Lib.hid hcall
          clear hcall hbump KW hr2 hr3 hok3
          cases hfr : findR (L.drop (k + 1)) (bump out (X : Int)) (tails ++ [(X : Int)]) with
          | none =>
            rw [hfr] at HCALL
            have HFR := Lib.hid hfr
            clear hfr
            refine HCALL.out.mono ?_
            rintro e w' ⟨hbel, he⟩
            have he' : e = .returned (.tuple #[.slice none 0 0, .bool false]) := he
            subst he'
            have HBEL := Lib.hid hbel
            clear hbel he
            go_wp2
            go_roundw
            case rel => exact ⟨BF.out _ HBEL.out, 1, by omega, rfl, fun _ => by first | (rw [if_pos (by first | exact hq2 | (rw [HQ.out]; exact hq2))]; exact HFR.out), by omega⟩
            case measure => simp [intOf]
          | some lr =>
            rw [hfr] at HCALL
            have HFR := Lib.hid hfr
            clear hfr
            refine HCALL.out.mono ?_
            rintro e w' ⟨hbel, A', c', he, hrd, hcap⟩
            subst he
            have HBEL := Lib.hid hbel
            have HRD := Lib.hid hrd
            have HCAP := Lib.hid hcap
            clear hbel hrd hcap
            generalize hlen : lr.length = ln at HRD HCAP
            go_wp2
            go_ret2
            have e3 : findR (((X : Int), (Y : Int)) :: L.drop (k + 1)) out tails = some lr := by
              unfold findR
              simp only [Int.toNat_natCast]
              rw [if_pos (by first | exact hq2 | (rw [HQ.out]; exact hq2)), HFR.out]
            rw [e3]
            exact ⟨BF.out _ HBEL.out, A', c', by rw [hlen]; rfl, by rw [hlen]; exact HRD.out, by rw [hlen]; exact HCAP.out⟩
        · go_wp2
          go_roundw
          case rel => exact ⟨HB.out, 1, by omega, rfl, fun _ => if_neg (by first | exact hq2 | (rw [HQ.out]; exact hq2)), by omega⟩
          case measure => simp [intOf]
      | 1, _ =>
        have ck := K.out _ _ C1.out
        have hq := HOK.out.2 Y (by omega)
        obtain ⟨adO', e', -, co0⟩ := (H2.out.keep K.out).int_at (k := Y) (by omega)
        obtain rfl : adO = adO' := by injection e'
        clear e'
        generalize hqq : out.getD Y 0 = q at hq co0
        have HQ := Lib.hid hqq
        clear hqq
        by_cases hq2 : q < 2
        · go_wp2_with (first
            | (at_builtin; refine wpList_app _ rfl (.tmp 35) (.tmp 36) 30 rfl wr.heap.size 3 (.int .i64 0) 1 8 Try.underlying30 INFO.out rfl (by decide) (some ⟨wr.heap.size, 0, none⟩) 0 0 [] rfl (own_empty wr _ 1) (some adO) n co (ints out) rfl (H2.out.keep (K.out.trans (Keeps.alloc _ _))) (ints_one _) (by omega) (by unfold maxLen; omega) (by simp) ?_; intro A1 c1 w1 ho1 hg1 hb1; simp only [Nat.zero_add, List.nil_append] at ho1; obtain ⟨g, rfl, hg0, hg1'⟩ := ho1.some_ (by omega); have HO1 := Lib.hid ho1; have B1 : Hid (Below wr.heap.size wr w1) := ((Below.refl _ _).alloc (Nat.le_refl _) _).grown hg1 (by simp) (fun b hb => (by simp [blk] at hb; omega)); have cq := ho1.cell (j := Y) (by omega); rw [show out.getD Y 0 = q by first | rfl | exact HQ.out] at cq; have fq : w1.frozen? ⟨g, Y, none⟩ = false := ho1.frozen _; clear ho1 hg1 hb1)
            | (at_builtin; refine wpList_app _ rfl (.tmp 49) (.tmp 50) 30 rfl w1.heap.size 3 (.int .i64 0) 1 8 Try.underlying30 INFO.out rfl (by decide) (some ⟨w1.heap.size, 0, none⟩) 0 0 [] rfl (own_empty_at (w := (w1.setCell ⟨g, Y, none⟩ (.int .i64 (q + 1)))) (by simp) _ 1) T tn tc (ints tails) rfl (H3.out.keep ((K.out.trans (Keeps.of_below (B1.out.setCell (p := ⟨g, Y, none⟩) hg0 _) (Nat.le_refl _))).trans (Keeps.alloc _ _))) (ints_one _) (by omega) (by unfold maxLen; omega) (by simp) ?_; intro A2 c2 w2 ho2 hg2 hb2; simp only [Nat.zero_add, List.nil_append] at ho2; have HO2 := Lib.hid ho2; have B2 : Hid (Below w1.heap.size (w1.setCell ⟨g, Y, none⟩ (.int .i64 (q + 1))) w2) := ((Below.refl _ _).alloc (by simp) _).grown hg2 (by simp) (fun b hb => (by simp [blk] at hb; omega)); clear ho2 hg2 hb2)
            | (at_builtin; refine wpList_app _ rfl (.tmp 51) (.tmp 53) 30 rfl w1.heap.size 3 (.int .i64 0) 1 8 Try.underlying30 INFO.out rfl (by decide) A2 tn c2 (ints tails) rfl (HO2.out.alloc _) (some ⟨w2.heap.size, 0, none⟩) 1 1 (ints [(Y : Int)]) rfl (rd_lit_at rfl [(Y : Int)] _) (ints_one _) (by omega) (by unfold maxLen; omega) (by have := B2.out.size; simp at this; simp; omega) ?_; intro A3 c3 w3 ho3 hg3 hb3; have HO3 := Lib.hid ho3; have B3 : Hid (Below w1.heap.size (w1.setCell ⟨g, Y, none⟩ (.int .i64 (q + 1))) w3) := (B2.out.alloc (by have := B2.out.size; simp at this; omega) _).grown hg3 (by have := B2.out.size; simp at this; simp; omega) (fun b hb => (HO2.out.lt hb).1); clear ho3 hg3 hb3))
          have hbump : bump out (Y : Int) = out.set Y (q + 1) := by unfold bump; rw [Int.toNat_natCast]; first | rw [HQ.out] | rfl
          have KW : Keeps wr w3 := (Keeps.of_below (B1.out.setCell (p := ⟨g, Y, none⟩) hg0 (.int .i64 (q + 1))) (Nat.le_refl _)).trans (Keeps.of_below B3.out (by simp))
          have hr2 : Rd w3 1 (some ⟨g, 0, none⟩) n (ints (bump out (Y : Int))) := by rw [hbump]; exact (HO1.out.store _ _).rd.keep (Keeps.of_below B3.out (by simp))
          have hr3 : Rd w3 1 A3 (tn + 1) (ints (tails ++ [(Y : Int)])) := by rw [ints_app]; exact HO3.out.rd
          have hok3 : OutOk n (bump out (Y : Int)) := bump_ok HOK.out (by omega) (by omega) (by rw [Int.toNat_natCast]; first | exact hq2 | (rw [HQ.out]; exact hq2))
          have hcall := IH.out (k + 1) (bump out (Y : Int)) (tails ++ [(Y : Int)]) (some ⟨g, 0, none⟩) A3 c1 (tn + 1) c3 w3 (by omega) (by omega) (H1.out.keep (K.out.trans KW)) hr2 hok3 hr3 HO3.out.cap (by omega)
          have BF : Hid (∀ w', Below w3.heap.size w3 w' → Below w.heap.size w w') := Lib.hid (fun w' hh => HB.out.trans (((B1.out.setCell (p := ⟨g, Y, none⟩) hg0 (.int .i64 (q + 1))).trans ((B3.out.mono (by have := B1.out.size; simpa using this)).trans (hh.mono (by have := B3.out.size; have := B1.out.size; simp at *; omega)))).mono HB.out.size))
          have HCALL := Lib.hid hcall
          clear hcall hbump KW hr2 hr3 hok3
          cases hfr : findR (L.drop (k + 1)) (bump out (Y : Int)) (tails ++ [(Y : Int)]) with
          | none =>
            rw [hfr] at HCALL
            have HFR := Lib.hid hfr
            clear hfr
            refine HCALL.out.mono ?_
            rintro e w' ⟨hbel, he⟩
            have he' : e = .returned (.tuple #[.slice none 0 0, .bool false]) := he
            subst he'
            have HBEL := Lib.hid hbel
            clear hbel he
            go_wp2
            go_roundw
            case rel => exact ⟨BF.out _ HBEL.out, 2, by omega, rfl, fun _ => HF1.out (by omega), fun _ => by (rw [if_pos (by first | exact hq2 | (rw [HQ.out]; exact hq2))]; exact HFR.out)⟩
            case measure => simp [intOf]
          | some lr =>
            rw [hfr] at HCALL
            have HFR := Lib.hid hfr
            clear hfr
            refine HCALL.out.mono ?_
            rintro e w' ⟨hbel, A', c', he, hrd, hcap⟩
            subst he
            have HBEL := Lib.hid hbel
            have HRD := Lib.hid hrd
            have HCAP := Lib.hid hcap
            clear hbel hrd hcap
            generalize hlen : lr.length = ln at HRD HCAP
            go_wp2
            go_ret2
            have e3 : findR (((X : Int), (Y : Int)) :: L.drop (k + 1)) out tails = some lr := by
              unfold findR
              simp only [Int.toNat_natCast]
              rw [HF1.out (by omega)]
              simp only
              rw [if_pos (by first | exact hq2 | (rw [HQ.out]; exact hq2)), HFR.out]
            rw [e3]
            exact ⟨BF.out _ HBEL.out, A', c', by rw [hlen]; rfl, by rw [hlen]; exact HRD.out, by rw [hlen]; exact HCAP.out⟩
        · go_wp2
          go_roundw
          case rel => exact ⟨HB.out, 2, by omega, rfl, fun _ => HF1.out (by omega), fun _ => if_neg (by first | exact hq2 | (rw [HQ.out]; exact hq2))⟩
          case measure => simp [intOf]
end Go.Proofs.Ytohmafmdpajmlaa
