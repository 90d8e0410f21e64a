/-
  SparsityLattice: for every graph and every two lists of points, the call returns true and the arguments read as they did. No condition.
-/
import Derived.Test.YtohmafmdpajmlaaLawSound
import Derived.Test.YtohmafmdpajmlaaW12
import Derived.Test.YtohmafmdpajmlaaApp
import Derived.Test.YtohmafmdpajmlaaSpecH
namespace Go.Proofs.Ytohmafmdpajmlaa
set_option linter.unusedVariables false
set_option linter.unusedSimpArgs false
open Go.ChangeShapes Go.WideShapes Go.ChangeAt Go.RowKit Go.Sort

theorem and_bit (S i : Nat) (hS : S < 9223372036854775808) : (bits .and .i64 ((S : Int) / 2 ^ i) 1 == 1) = S.testBit i := by
  have e : ((S : Int) / 2 ^ i) = ((S / 2 ^ i : Nat) : Int) := by rw [Int.natCast_ediv]; norm_cast
  have hd : S / 2 ^ i ≤ S := Nat.div_le_self _ _
  have h1 := i64_and_nat (S / 2 ^ i) 1 (by omega) (by omega)
  rw [e, show (1 : Int) = ((1 : Nat) : Int) from rfl, h1, Nat.testBit_eq_decide_div_mod_eq, Bool.eq_iff_iff]
  rw [Nat.and_one_is_mod]
  simp only [beq_iff_eq, decide_eq_true_eq]
  omega

def LatRel (w : World) (n : Nat) (A : Option Addr) (m cm U I : Nat) (k : Nat) (uv cv : Value) (wr : World) : Prop :=
  Below (w.heap.size + 1) (w.alloc (.cells #[.int .i64 n, .slice A m cm] 24)) wr ∧
  ∃ A1 c1 A2 c2, uv = .slice A1 (ptsK k U).length c1 ∧ Own wr (w.heap.size + 1) 3 1 A1 (ptsK k U).length c1 (ints (ptsK k U)) ∧
    cv = .slice A2 (ptsK k I).length c2 ∧ Own wr (w.heap.size + 1) 3 1 A2 (ptsK k I).length c2 (ints (ptsK k I)) ∧ Apart A1 A2

set_option maxHeartbeats 4000000 in
/-- The loop: both lists hold the points of the two sets. -/
theorem lat_main (n : Nat) (A L Q : Option Addr) (m cm p cl q cq : Nat) (es : List (Int × Int)) (a b : List Int) (w : World) (hn9 : n ≤ 9) (hm : m ≤ 100) (hp9 : p ≤ 9) (hq9 : q ≤ 9)
    (he : Rd w 2 A m (prs es)) (hl : Rd w 1 L p (ints a)) (hq : Rd w 1 Q q (ints b)) (hv : validB n es = true) (hfew : fewB n es = true) (hs : sparseAll n es = true) (ta : tightB n es a = true) (tb : tightB n es b = true) :
    Calls Try.prog 8 #[.agg #[.int .i64 n, .slice A m cm], .slice L p cl, .slice Q q cq] w fun e w' => e = .returned (.bool true) ∧ Below w.heap.size w w' := by
  have hok : setOk n a = true ∧ setOk n b = true := by
    unfold tightB exOk at ta tb
    simp only [Bool.and_eq_true] at ta tb
    rw [setOk_eq, setOk_eq]; exact ⟨ta.1.2, tb.1.2⟩
  have hspan : spanI es a = 2 * (a.length : Int) - 3 ∧ spanI es b = 2 * (b.length : Int) - 3 := by
    unfold tightB at ta tb
    simp only [Bool.and_eq_true, decide_eq_true_eq] at ta tb
    exact ⟨ta.2, tb.2⟩
  have hlat := Lib.hid (fun h => lattice (by omega) hv hs (by rw [← setOk_eq]; exact hok.1) (by rw [← setOk_eq]; exact hok.2) hspan.1 hspan.2 h)
  have oka : ascB n a = true := by have := hok.1; unfold setOk at this; simp only [Bool.and_eq_true] at this; exact this.1
  have okb : ascB n b = true := by have := hok.2; unfold setOk at this; simp only [Bool.and_eq_true] at this; exact this.1
  have la : setS a < 2 ^ 9 := setS_lt (fun p hp => by have := ascB_mem oka hp; omega)
  have lb : setS b < 2 ^ 9 := setS_lt (fun p hp => by have := ascB_mem okb hp; omega)
  have lu : (setS a ||| setS b) < 2 ^ 9 := Nat.or_lt_two_pow la lb
  have li : (setS a &&& setS b) < 2 ^ 9 := Nat.and_lt_two_pow _ lb
  have hU := i64_or_nat (setS a) (setS b) (by omega) (by omega)
  have hI := i64_and_nat (setS a) (setS b) (by omega) (by omega)
  have hsub : ∀ i, (setS a &&& setS b).testBit i = true → (setS a ||| setS b).testBit i = true := fun i h => by
    rw [Nat.testBit_and, Bool.and_eq_true] at h; rw [Nat.testBit_or, h.1]; rfl
  have HSUB := Lib.hid hsub
  have HSA := Lib.hid (fun w' (hk : Keeps w w') => set_yes n A L m cm p cl a w' (by omega) (by omega) (hl.keep hk) hok.1)
  have HSB := Lib.hid (fun w' (hk : Keeps w w') => set_yes n A Q m cm q cq b w' (by omega) (by omega) (hq.keep hk) hok.2)
  have HTA := Lib.hid ta
  have HTB := Lib.hid tb
  have HS := Lib.hid hs
  have HFW := Lib.hid hfew
  have HV := Lib.hid hv
  have H1 := Lib.hid he
  have H2 := Lib.hid hl
  have H3 := Lib.hid hq
  have HHU := Lib.hid hU
  have HHI := Lib.hid hI
  clear hok hspan oka okb la lb hsub he hl hq hv hs ta tb hfew
  clear hU hI
  generalize setS a ||| setS b = U at hlat lu HSUB HHU
  generalize setS a &&& setS b = I at hlat li HSUB HHI
  generalize setS a = X at HSA HHU HHI
  generalize setS b = Y at HSB HHU HHI
  have hK : ∀ w', Below (w.heap.size + 1) (w.alloc (.cells #[.int .i64 n, .slice A m cm] 24)) w' → Keeps w w' := fun w' h => (Keeps.alloc w _).trans (Keeps.of_below h (by simp))
  have hF : ∀ w', Below (w.heap.size + 1) (w.alloc (.cells #[.int .i64 n, .slice A m cm] 24)) w' → Below w.heap.size w w' := fun w' h => ((Below.refl _ _).alloc (Nat.le_refl _) _).trans (h.mono (by omega))
  have HK := Lib.hid hK
  have HF := Lib.hid hF
  clear hK hF
  go_enter Try.func8, Try.ntmps8
  go_wp2_with fail
  refine (awake_any _).mono ?_
  rintro e w1 ⟨rfl, hb⟩
  have B1 : Hid (Below (w.heap.size + 1) (w.alloc (.cells #[.int .i64 n, .slice A m cm] 24)) w1) := nextB (Below.refl _ _) (by simp) hb
  clear hb
  have g0 : w1.cell? ⟨w.heap.size, 0, none⟩ = some (.int .i64 n) := by rw [B1.out.cell (by simp)]; simp
  have g1 : w1.cell? ⟨w.heap.size, 1, none⟩ = some (.slice A m cm) := by rw [B1.out.cell (by simp)]; simp
  go_wp2_with fail
  refine (few_b (b := true) n A m cm es _ (by omega) (H1.out.keep (HK.out _ B1.out)) HFW.out).mono ?_
  rintro e w2 ⟨rfl, hb⟩
  have B2 : Hid (Below (w.heap.size + 1) (w.alloc (.cells #[.int .i64 n, .slice A m cm] 24)) w2) := nextB B1.out (by simp) hb
  clear hb
  have g0 : w2.cell? ⟨w.heap.size, 0, none⟩ = some (.int .i64 n) := by rw [B2.out.cell (by simp)]; simp
  have g1 : w2.cell? ⟨w.heap.size, 1, none⟩ = some (.slice A m cm) := by rw [B2.out.cell (by simp)]; simp
  go_wp2_with fail
  refine (rsparse_b (b := true) n n rfl A m cm es _ hn9 hm (H1.out.keep (HK.out _ B2.out)) HV.out HS.out).mono ?_
  rintro e w3 ⟨rfl, hb⟩
  have B3 : Hid (Below (w.heap.size + 1) (w.alloc (.cells #[.int .i64 n, .slice A m cm] 24)) w3) := nextB B2.out (by simp) hb
  clear hb
  have g0 : w3.cell? ⟨w.heap.size, 0, none⟩ = some (.int .i64 n) := by rw [B3.out.cell (by simp)]; simp
  have g1 : w3.cell? ⟨w.heap.size, 1, none⟩ = some (.slice A m cm) := by rw [B3.out.cell (by simp)]; simp
  go_wp2_with fail
  refine (tight_b (b := true) n A L m cm p cl es a _ hm (by omega) (H1.out.keep (HK.out _ B3.out)) (H2.out.keep (HK.out _ B3.out)) HTA.out).mono ?_
  rintro e w4 ⟨rfl, hb⟩
  have B4 : Hid (Below (w.heap.size + 1) (w.alloc (.cells #[.int .i64 n, .slice A m cm] 24)) w4) := nextB B3.out (by simp) hb
  clear hb
  have g0 : w4.cell? ⟨w.heap.size, 0, none⟩ = some (.int .i64 n) := by rw [B4.out.cell (by simp)]; simp
  have g1 : w4.cell? ⟨w.heap.size, 1, none⟩ = some (.slice A m cm) := by rw [B4.out.cell (by simp)]; simp
  go_wp2_with fail
  refine (tight_b (b := true) n A Q m cm q cq es b _ hm (by omega) (H1.out.keep (HK.out _ B4.out)) (H3.out.keep (HK.out _ B4.out)) HTB.out).mono ?_
  rintro e w5 ⟨rfl, hb⟩
  have B5 : Hid (Below (w.heap.size + 1) (w.alloc (.cells #[.int .i64 n, .slice A m cm] 24)) w5) := nextB B4.out (by simp) hb
  clear hb
  have g0 : w5.cell? ⟨w.heap.size, 0, none⟩ = some (.int .i64 n) := by rw [B5.out.cell (by simp)]; simp
  have g1 : w5.cell? ⟨w.heap.size, 1, none⟩ = some (.slice A m cm) := by rw [B5.out.cell (by simp)]; simp
  go_wp2_with fail
  refine (HSA.out _ (HK.out _ B5.out)).mono ?_
  rintro e w6 ⟨rfl, hb⟩
  have B6 : Hid (Below (w.heap.size + 1) (w.alloc (.cells #[.int .i64 n, .slice A m cm] 24)) w6) := nextB B5.out (by simp) hb
  clear hb
  have g0 : w6.cell? ⟨w.heap.size, 0, none⟩ = some (.int .i64 n) := by rw [B6.out.cell (by simp)]; simp
  have g1 : w6.cell? ⟨w.heap.size, 1, none⟩ = some (.slice A m cm) := by rw [B6.out.cell (by simp)]; simp
  go_wp2_with fail
  refine (HSB.out _ (HK.out _ B6.out)).mono ?_
  rintro e w7 ⟨rfl, hb⟩
  have B7 : Hid (Below (w.heap.size + 1) (w.alloc (.cells #[.int .i64 n, .slice A m cm] 24)) w7) := nextB B6.out (by simp) hb
  clear hb
  have g0 : w7.cell? ⟨w.heap.size, 0, none⟩ = some (.int .i64 n) := by rw [B7.out.cell (by simp)]; simp
  have g1 : w7.cell? ⟨w.heap.size, 1, none⟩ = some (.slice A m cm) := by rw [B7.out.cell (by simp)]; simp
  have hU := HHU.out
  have hI := HHI.out
  go_wp2
  clear g0 g1
  have info := info_int
  have INFO := Lib.hid info
  clear info
  go_loopw [11, 12, 63] (fun uv cv iv wr => ∃ k : Nat, k ≤ n ∧ iv = .int .i64 k ∧ LatRel w n A m cm U I k uv cv wr) (fun _ _ iv _ => n - (intOf iv).toNat)
  case atStart => exact ⟨0, Nat.zero_le _, rfl, B7.out, none, 0, none, 0, rfl, Own.nil _ _ _ _, rfl, Own.nil _ _ _ _, .inl rfl⟩
  case round =>
    obtain ⟨k, hk, rfl, hb, A1, c1, A2, c2, rfl, ho1, rfl, ho2, hne⟩ := hrel
    have HB := Lib.hid hb
    have HO1 := Lib.hid ho1
    have HO2 := Lib.hid ho2
    have HNE := Lib.hid hne
    have hsz : w.heap.size + 1 ≤ wr.heap.size := by have := hb.size; simpa using this
    have l1 := ptsK_length_le k U
    have l2 := ptsK_length_le k I
    clear hb ho1 ho2 hne
    by_cases hlt : k < n
    · have hbu := and_bit U k (by omega)
      have hbi := and_bit I k (by omega)
      cases hu : U.testBit k
      · have hi : I.testBit k = false := by
          cases h : I.testBit k
          · rfl
          · rw [HSUB.out k h] at hu; cases hu
        have e1 := Lib.hid (ptsK_miss hu)
        have e2 := Lib.hid (ptsK_miss hi)
        rw [hu] at hbu
        rw [hi] at hbi
        clear hu hi
        go_wp2
        go_roundw
        case rel => exact ⟨k + 1, by omega, by go_num, HB.out, A1, c1, A2, c2, by rw [e1.out], by rw [e1.out]; exact HO1.out, by rw [e2.out], by rw [e2.out]; exact HO2.out, HNE.out⟩
        case measure => simp [intOf]; omega
      · have e1 := Lib.hid (ptsK_hit hu)
        rw [hu] at hbu
        clear hu
        cases hi : I.testBit k
        · have e2 := Lib.hid (ptsK_miss hi)
          rw [hi] at hbi
          clear hi
          go_wp2_with (at_builtin; refine wpList_app _ rfl (.tmp 73) (.tmp 75) 30 rfl (w.heap.size + 1) 3 (.int .i64 0) 1 8 Try.underlying30 INFO.out rfl (by decide) A1 _ c1 _ rfl (HO1.out.alloc _) (some ⟨wr.heap.size, 0, none⟩) 1 1 (ints [(k : Int)]) rfl (rd_lit_at rfl [(k : Int)] _) (ints_one _) (by omega) (by unfold maxLen; omega) (by simp; omega) ?_; intro A1' c1' w1 ho1' hg1 hb1; have HO1' := Lib.hid ho1'; have HG1 := Lib.hid hg1; have HBL1 := Lib.hid hb1; have hsz1 : wr.heap.size + 1 ≤ w1.heap.size := (by have := hg1.size; simpa using this); clear ho1' hg1 hb1)
          go_roundw
          case rel =>
            refine ⟨k + 1, by omega, by go_num, (HB.out.alloc hsz _).grown HG1.out (by simp; omega) (fun b hb => (HO1.out.lt hb).1), A1', c1', A2, c2, by rw [e1.out]; simp, ?_, by rw [e2.out], ?_, ?_⟩
            · rw [e1.out, ints_app]; simpa using HO1'.out
            · rw [e2.out]; exact (HO2.out.alloc _).apart HG1.out HNE.out.symm
            · exact HNE.out.step HBL1.out (fun b hb => by have := (HO2.out.lt hb).2; simp; omega)
          case measure => simp [intOf]; omega
        · have e2 := Lib.hid (ptsK_hit hi)
          rw [hi] at hbi
          clear hi
          go_wp2_with (first
            | (at_builtin; refine wpList_app _ rfl (.tmp 73) (.tmp 75) 30 rfl (w.heap.size + 1) 3 (.int .i64 0) 1 8 Try.underlying30 INFO.out rfl (by decide) A1 _ c1 _ rfl (HO1.out.alloc _) (some ⟨wr.heap.size, 0, none⟩) 1 1 (ints [(k : Int)]) rfl (rd_lit_at rfl [(k : Int)] _) (ints_one _) (by omega) (by unfold maxLen; omega) (by simp; omega) ?_; intro A1' c1' w1 ho1' hg1 hb1; have HO1' := Lib.hid ho1'; have HG1 := Lib.hid hg1; have HBL1 := Lib.hid hb1; have hsz1 : wr.heap.size + 1 ≤ w1.heap.size := (by have := hg1.size; simpa using this); clear ho1' hg1 hb1; have HO2b : Hid (Own w1 (w.heap.size + 1) 3 1 A2 (ptsK k I).length c2 (ints (ptsK k I))) := (HO2.out.alloc _).apart HG1.out HNE.out.symm; have HNE1 : Hid (Apart A1' A2) := HNE.out.step HBL1.out (fun b hb => (by have := (HO2.out.lt hb).2; simp; omega)))
            | (at_builtin; refine wpList_app _ rfl (.tmp 84) (.tmp 86) 30 rfl (w.heap.size + 1) 3 (.int .i64 0) 1 8 Try.underlying30 INFO.out rfl (by decide) A2 _ c2 _ rfl (HO2b.out.alloc _) (some ⟨w1.heap.size, 0, none⟩) 1 1 (ints [(k : Int)]) rfl (rd_lit_at rfl [(k : Int)] _) (ints_one _) (by omega) (by unfold maxLen; omega) (by simp; omega) ?_; intro A2' c2' w2 ho2' hg2 hb2; have HO2' := Lib.hid ho2'; have HG2 := Lib.hid hg2; have HBL2 := Lib.hid hb2; have hsz2 : w1.heap.size + 1 ≤ w2.heap.size := (by have := hg2.size; simpa using this); clear ho2' hg2 hb2))
          go_roundw
          case rel =>
            refine ⟨k + 1, by omega, by go_num, (((HB.out.alloc hsz _).grown HG1.out (by simp; omega) (fun b hb => (HO1.out.lt hb).1)).alloc (by omega) _).grown HG2.out (by simp; omega) (fun b hb => (HO2.out.lt hb).1), A1', c1', A2', c2', by rw [e1.out]; simp, ?_, by rw [e2.out]; simp, ?_, ?_⟩
            · rw [e1.out, ints_app]
              have h1 := (HO1'.out.alloc (.cells #[.int .i64 k] 3)).apart HG2.out HNE1.out
              simpa using h1
            · rw [e2.out, ints_app]; simpa using HO2'.out
            · exact (HNE1.out.symm.step HBL2.out (fun b hb => by have := (HO1'.out.lt hb).2; simp; omega)).symm
          case measure => simp [intOf]; omega
    · obtain rfl : k = n := by omega
      have HRU := Lib.hid HO1.out.rd
      have HRI := Lib.hid HO2.out.rd
      have g0 : wr.cell? ⟨w.heap.size, 0, none⟩ = some (.int .i64 k) := by rw [HB.out.cell (by simp)]; simp
      have g1 : wr.cell? ⟨w.heap.size, 1, none⟩ = some (.slice A m cm) := by rw [HB.out.cell (by simp)]; simp
      by_cases h2 : (ptsK k I).length < 2
      · have h2b : decide (((ptsK k I).length : Int) < 2) = true := by simp; omega
        generalize (ptsK k I).length = li' at h2 h2b l2
        generalize (ptsK k U).length = lu' at l1
        go_wp2
        go_ret
        exact ⟨rfl, HF.out _ HB.out⟩
      · have h2b : decide (((ptsK k I).length : Int) < 2) = false := by simp; omega
        obtain ⟨t1, t2⟩ := hlat.out (by omega)
        have HT1 : Hid (tightB k es (ptsK k U) = true) := Lib.hid (by unfold tightB exOk; rw [HV.out, Bool.true_and]; exact t1)
        have HT2 : Hid (tightB k es (ptsK k I) = true) := Lib.hid (by unfold tightB exOk; rw [HV.out, Bool.true_and]; exact t2)
        clear t1 t2
        have CU := Lib.hid (fun w' (hk : Keeps w w') (hr : Rd w' 1 A1 (ptsK k U).length (ints (ptsK k U))) => tight_b (b := true) k A A1 m cm (ptsK k U).length c1 es (ptsK k U) w' hm (by omega) (H1.out.keep hk) hr HT1.out)
        have CI := Lib.hid (fun w' (hk : Keeps w w') (hr : Rd w' 1 A2 (ptsK k I).length (ints (ptsK k I))) => tight_b (b := true) k A A2 m cm (ptsK k I).length c2 es (ptsK k I) w' hm (by omega) (H1.out.keep hk) hr HT2.out)
        clear HO1 HO2
        generalize ints (ptsK k U) = xu at HRU CU
        generalize ints (ptsK k I) = xi at HRI CI
        generalize (ptsK k I).length = li' at h2 h2b l2 HRI CI
        generalize (ptsK k U).length = lu' at l1 HRU CU
        go_wp2_with fail
        refine (CU.out _ (HK.out _ HB.out) HRU.out).mono ?_
        rintro e w8 ⟨rfl, hb⟩
        have B8 : Hid (Below (w.heap.size + 1) (w.alloc (.cells #[.int .i64 k, .slice A m cm] 24)) w8) := nextB HB.out (by simp) hb
        have K8 : Hid (Keeps wr w8) := Keeps.of_below hb (Nat.le_refl _)
        clear hb g0 g1
        have g0 : w8.cell? ⟨w.heap.size, 0, none⟩ = some (.int .i64 k) := by rw [B8.out.cell (by simp)]; simp
        have g1 : w8.cell? ⟨w.heap.size, 1, none⟩ = some (.slice A m cm) := by rw [B8.out.cell (by simp)]; simp
        go_wp2_with fail
        refine (CI.out _ (HK.out _ B8.out) (HRI.out.keep K8.out)).mono ?_
        rintro e w9 ⟨rfl, hb⟩
        have B9 : Hid (Below (w.heap.size + 1) (w.alloc (.cells #[.int .i64 k, .slice A m cm] 24)) w9) := nextB B8.out (by simp) hb
        clear hb
        go_wp2
        go_ret
        exact ⟨rfl, HF.out _ B9.out⟩

set_option maxHeartbeats 2000000 in
theorem law_lattice (N : Int) (A L Q : Option Addr) (m cm p cl q cq : Nat) (es : List (Int × Int)) (a b : List Int) (w : World) (hm : m ≤ maxLen) (hn : p ≤ maxLen) (hq : q ≤ maxLen) (he : Rd w 2 A m (prs es)) (hl : Rd w 1 L p (ints a)) (hp : Rd w 1 Q q (ints b)) :
    Calls Try.prog 8 #[.agg #[.int .i64 N, .slice A m cm], .slice L p cl, .slice Q q cq] w fun e w' => e = .returned (.bool true) ∧ Below w.heap.size w w' := by
  unfold maxLen at hm hn hq
  have HE := Lib.hid he.prs_len
  have H1 := Lib.hid he
  have H2 := Lib.hid hl
  have H3 := Lib.hid hp
  clear he hl hp
  by_cases h1 : fewB N es = false
  · have HFW := Lib.hid h1
    clear h1
    have hK : ∀ w', Below (w.heap.size + 1) (w.alloc (.cells #[.int .i64 N, .slice A m cm] 24)) w' → Keeps w w' := fun w' h => (Keeps.alloc w _).trans (Keeps.of_below h (by simp))
    have hF : ∀ w', Below (w.heap.size + 1) (w.alloc (.cells #[.int .i64 N, .slice A m cm] 24)) w' → Below w.heap.size w w' := fun w' h => ((Below.refl _ _).alloc (Nat.le_refl _) _).trans (h.mono (by omega))
    have HK := Lib.hid hK
    have HF := Lib.hid hF
    clear hK hF
    go_enter Try.func8, Try.ntmps8
    go_wp2_with fail
    refine (awake_any _).mono ?_
    rintro e w1 ⟨rfl, hb⟩
    have B1 : Hid (Below (w.heap.size + 1) (w.alloc (.cells #[.int .i64 N, .slice A m cm] 24)) w1) := nextB (Below.refl _ _) (by simp) hb
    clear hb
    have g0 : w1.cell? ⟨w.heap.size, 0, none⟩ = some (.int .i64 N) := by rw [B1.out.cell (by simp)]; simp
    have g1 : w1.cell? ⟨w.heap.size, 1, none⟩ = some (.slice A m cm) := by rw [B1.out.cell (by simp)]; simp
    go_wp2_with fail
    refine (few_b (b := false) N A m cm es _ hm (H1.out.keep (HK.out _ B1.out)) HFW.out).mono ?_
    rintro e w2 ⟨rfl, hb⟩
    have B2 : Hid (Below (w.heap.size + 1) (w.alloc (.cells #[.int .i64 N, .slice A m cm] 24)) w2) := nextB B1.out (by simp) hb
    clear hb
    have g0 : w2.cell? ⟨w.heap.size, 0, none⟩ = some (.int .i64 N) := by rw [B2.out.cell (by simp)]; simp
    have g1 : w2.cell? ⟨w.heap.size, 1, none⟩ = some (.slice A m cm) := by rw [B2.out.cell (by simp)]; simp
    go_wp2_with fail
    refine (awake_any _).mono ?_
    rintro e w3 ⟨rfl, hb⟩
    have B3 : Hid (Below (w.heap.size + 1) (w.alloc (.cells #[.int .i64 N, .slice A m cm] 24)) w3) := nextB B2.out (by simp) hb
    clear hb
    go_wp2
    go_ret
    exact ⟨rfl, HF.out _ B3.out⟩
  have h1' : fewB N es = true := by simpa using h1
  have HFW := Lib.hid h1'
  have hN9 : N ≤ 9 ∧ (es.length : Int) ≤ 100 ∧ validB N es = true := by
    unfold fewB at h1'; simp only [Bool.and_eq_true, decide_eq_true_eq] at h1'; exact h1'
  have hm100 : m ≤ 100 := by have := HE.out; omega
  have HV := Lib.hid hN9.2.2
  have hN9' := hN9.1
  have hN0 := ((validB_iff N es).1 HV.out).1
  clear h1 h1' hN9
  by_cases h2 : (9 : Int) < p
  · have hK : ∀ w', Below (w.heap.size + 1) (w.alloc (.cells #[.int .i64 N, .slice A m cm] 24)) w' → Keeps w w' := fun w' h => (Keeps.alloc w _).trans (Keeps.of_below h (by simp))
    have hF : ∀ w', Below (w.heap.size + 1) (w.alloc (.cells #[.int .i64 N, .slice A m cm] 24)) w' → Below w.heap.size w w' := fun w' h => ((Below.refl _ _).alloc (Nat.le_refl _) _).trans (h.mono (by omega))
    have HK := Lib.hid hK
    have HF := Lib.hid hF
    clear hK hF
    go_enter Try.func8, Try.ntmps8
    go_wp2_with fail
    refine (awake_any _).mono ?_
    rintro e w1 ⟨rfl, hb⟩
    have B1 : Hid (Below (w.heap.size + 1) (w.alloc (.cells #[.int .i64 N, .slice A m cm] 24)) w1) := nextB (Below.refl _ _) (by simp) hb
    clear hb
    have g0 : w1.cell? ⟨w.heap.size, 0, none⟩ = some (.int .i64 N) := by rw [B1.out.cell (by simp)]; simp
    have g1 : w1.cell? ⟨w.heap.size, 1, none⟩ = some (.slice A m cm) := by rw [B1.out.cell (by simp)]; simp
    go_wp2_with fail
    refine (few_b (b := true) N A m cm es _ hm (H1.out.keep (HK.out _ B1.out)) HFW.out).mono ?_
    rintro e w2 ⟨rfl, hb⟩
    have B2 : Hid (Below (w.heap.size + 1) (w.alloc (.cells #[.int .i64 N, .slice A m cm] 24)) w2) := nextB B1.out (by simp) hb
    clear hb
    have g0 : w2.cell? ⟨w.heap.size, 0, none⟩ = some (.int .i64 N) := by rw [B2.out.cell (by simp)]; simp
    have g1 : w2.cell? ⟨w.heap.size, 1, none⟩ = some (.slice A m cm) := by rw [B2.out.cell (by simp)]; simp
    go_wp2_with fail
    refine (awake_any _).mono ?_
    rintro e w3 ⟨rfl, hb⟩
    have B3 : Hid (Below (w.heap.size + 1) (w.alloc (.cells #[.int .i64 N, .slice A m cm] 24)) w3) := nextB B2.out (by simp) hb
    clear hb
    go_wp2
    go_ret
    exact ⟨rfl, HF.out _ B3.out⟩
  have h2b : decide ((9 : Int) < p) = false := by simp; omega
  by_cases h3 : (9 : Int) < q
  · have hK : ∀ w', Below (w.heap.size + 1) (w.alloc (.cells #[.int .i64 N, .slice A m cm] 24)) w' → Keeps w w' := fun w' h => (Keeps.alloc w _).trans (Keeps.of_below h (by simp))
    have hF : ∀ w', Below (w.heap.size + 1) (w.alloc (.cells #[.int .i64 N, .slice A m cm] 24)) w' → Below w.heap.size w w' := fun w' h => ((Below.refl _ _).alloc (Nat.le_refl _) _).trans (h.mono (by omega))
    have HK := Lib.hid hK
    have HF := Lib.hid hF
    clear hK hF
    go_enter Try.func8, Try.ntmps8
    go_wp2_with fail
    refine (awake_any _).mono ?_
    rintro e w1 ⟨rfl, hb⟩
    have B1 : Hid (Below (w.heap.size + 1) (w.alloc (.cells #[.int .i64 N, .slice A m cm] 24)) w1) := nextB (Below.refl _ _) (by simp) hb
    clear hb
    have g0 : w1.cell? ⟨w.heap.size, 0, none⟩ = some (.int .i64 N) := by rw [B1.out.cell (by simp)]; simp
    have g1 : w1.cell? ⟨w.heap.size, 1, none⟩ = some (.slice A m cm) := by rw [B1.out.cell (by simp)]; simp
    go_wp2_with fail
    refine (few_b (b := true) N A m cm es _ hm (H1.out.keep (HK.out _ B1.out)) HFW.out).mono ?_
    rintro e w2 ⟨rfl, hb⟩
    have B2 : Hid (Below (w.heap.size + 1) (w.alloc (.cells #[.int .i64 N, .slice A m cm] 24)) w2) := nextB B1.out (by simp) hb
    clear hb
    have g0 : w2.cell? ⟨w.heap.size, 0, none⟩ = some (.int .i64 N) := by rw [B2.out.cell (by simp)]; simp
    have g1 : w2.cell? ⟨w.heap.size, 1, none⟩ = some (.slice A m cm) := by rw [B2.out.cell (by simp)]; simp
    go_wp2_with fail
    refine (awake_any _).mono ?_
    rintro e w3 ⟨rfl, hb⟩
    have B3 : Hid (Below (w.heap.size + 1) (w.alloc (.cells #[.int .i64 N, .slice A m cm] 24)) w3) := nextB B2.out (by simp) hb
    clear hb
    go_wp2
    go_ret
    exact ⟨rfl, HF.out _ B3.out⟩
  have h3b : decide ((9 : Int) < q) = false := by simp; omega
  by_cases h4 : sparseAll N.toNat es = false
  · have HS := Lib.hid h4
    clear h4
    have hK : ∀ w', Below (w.heap.size + 1) (w.alloc (.cells #[.int .i64 N, .slice A m cm] 24)) w' → Keeps w w' := fun w' h => (Keeps.alloc w _).trans (Keeps.of_below h (by simp))
    have hF : ∀ w', Below (w.heap.size + 1) (w.alloc (.cells #[.int .i64 N, .slice A m cm] 24)) w' → Below w.heap.size w w' := fun w' h => ((Below.refl _ _).alloc (Nat.le_refl _) _).trans (h.mono (by omega))
    have HK := Lib.hid hK
    have HF := Lib.hid hF
    clear hK hF
    go_enter Try.func8, Try.ntmps8
    go_wp2_with fail
    refine (awake_any _).mono ?_
    rintro e w1 ⟨rfl, hb⟩
    have B1 : Hid (Below (w.heap.size + 1) (w.alloc (.cells #[.int .i64 N, .slice A m cm] 24)) w1) := nextB (Below.refl _ _) (by simp) hb
    clear hb
    have g0 : w1.cell? ⟨w.heap.size, 0, none⟩ = some (.int .i64 N) := by rw [B1.out.cell (by simp)]; simp
    have g1 : w1.cell? ⟨w.heap.size, 1, none⟩ = some (.slice A m cm) := by rw [B1.out.cell (by simp)]; simp
    go_wp2_with fail
    refine (few_b (b := true) N A m cm es _ hm (H1.out.keep (HK.out _ B1.out)) HFW.out).mono ?_
    rintro e w2 ⟨rfl, hb⟩
    have B2 : Hid (Below (w.heap.size + 1) (w.alloc (.cells #[.int .i64 N, .slice A m cm] 24)) w2) := nextB B1.out (by simp) hb
    clear hb
    have g0 : w2.cell? ⟨w.heap.size, 0, none⟩ = some (.int .i64 N) := by rw [B2.out.cell (by simp)]; simp
    have g1 : w2.cell? ⟨w.heap.size, 1, none⟩ = some (.slice A m cm) := by rw [B2.out.cell (by simp)]; simp
    go_wp2_with fail
    refine (rsparse_b (b := false) N N.toNat (by omega) A m cm es _ (by omega) hm100 (H1.out.keep (HK.out _ B2.out)) HV.out HS.out).mono ?_
    rintro e w3 ⟨rfl, hb⟩
    have B3 : Hid (Below (w.heap.size + 1) (w.alloc (.cells #[.int .i64 N, .slice A m cm] 24)) w3) := nextB B2.out (by simp) hb
    clear hb
    have g0 : w3.cell? ⟨w.heap.size, 0, none⟩ = some (.int .i64 N) := by rw [B3.out.cell (by simp)]; simp
    have g1 : w3.cell? ⟨w.heap.size, 1, none⟩ = some (.slice A m cm) := by rw [B3.out.cell (by simp)]; simp
    go_wp2_with fail
    refine (awake_any _).mono ?_
    rintro e w4 ⟨rfl, hb⟩
    have B4 : Hid (Below (w.heap.size + 1) (w.alloc (.cells #[.int .i64 N, .slice A m cm] 24)) w4) := nextB B3.out (by simp) hb
    clear hb
    go_wp2
    go_ret
    exact ⟨rfl, HF.out _ B4.out⟩
  have HS : Hid (sparseAll N.toNat es = true) := Lib.hid (by simpa using h4)
  clear h4
  by_cases h5 : tightB N es a = false
  · have HTA := Lib.hid h5
    clear h5
    have hK : ∀ w', Below (w.heap.size + 1) (w.alloc (.cells #[.int .i64 N, .slice A m cm] 24)) w' → Keeps w w' := fun w' h => (Keeps.alloc w _).trans (Keeps.of_below h (by simp))
    have hF : ∀ w', Below (w.heap.size + 1) (w.alloc (.cells #[.int .i64 N, .slice A m cm] 24)) w' → Below w.heap.size w w' := fun w' h => ((Below.refl _ _).alloc (Nat.le_refl _) _).trans (h.mono (by omega))
    have HK := Lib.hid hK
    have HF := Lib.hid hF
    clear hK hF
    go_enter Try.func8, Try.ntmps8
    go_wp2_with fail
    refine (awake_any _).mono ?_
    rintro e w1 ⟨rfl, hb⟩
    have B1 : Hid (Below (w.heap.size + 1) (w.alloc (.cells #[.int .i64 N, .slice A m cm] 24)) w1) := nextB (Below.refl _ _) (by simp) hb
    clear hb
    have g0 : w1.cell? ⟨w.heap.size, 0, none⟩ = some (.int .i64 N) := by rw [B1.out.cell (by simp)]; simp
    have g1 : w1.cell? ⟨w.heap.size, 1, none⟩ = some (.slice A m cm) := by rw [B1.out.cell (by simp)]; simp
    go_wp2_with fail
    refine (few_b (b := true) N A m cm es _ hm (H1.out.keep (HK.out _ B1.out)) HFW.out).mono ?_
    rintro e w2 ⟨rfl, hb⟩
    have B2 : Hid (Below (w.heap.size + 1) (w.alloc (.cells #[.int .i64 N, .slice A m cm] 24)) w2) := nextB B1.out (by simp) hb
    clear hb
    have g0 : w2.cell? ⟨w.heap.size, 0, none⟩ = some (.int .i64 N) := by rw [B2.out.cell (by simp)]; simp
    have g1 : w2.cell? ⟨w.heap.size, 1, none⟩ = some (.slice A m cm) := by rw [B2.out.cell (by simp)]; simp
    go_wp2_with fail
    refine (rsparse_b (b := true) N N.toNat (by omega) A m cm es _ (by omega) hm100 (H1.out.keep (HK.out _ B2.out)) HV.out HS.out).mono ?_
    rintro e w3 ⟨rfl, hb⟩
    have B3 : Hid (Below (w.heap.size + 1) (w.alloc (.cells #[.int .i64 N, .slice A m cm] 24)) w3) := nextB B2.out (by simp) hb
    clear hb
    have g0 : w3.cell? ⟨w.heap.size, 0, none⟩ = some (.int .i64 N) := by rw [B3.out.cell (by simp)]; simp
    have g1 : w3.cell? ⟨w.heap.size, 1, none⟩ = some (.slice A m cm) := by rw [B3.out.cell (by simp)]; simp
    go_wp2_with fail
    refine (tight_b (b := false) N A L m cm p cl es a _ hm100 (by omega) (H1.out.keep (HK.out _ B3.out)) (H2.out.keep (HK.out _ B3.out)) HTA.out).mono ?_
    rintro e w4 ⟨rfl, hb⟩
    have B4 : Hid (Below (w.heap.size + 1) (w.alloc (.cells #[.int .i64 N, .slice A m cm] 24)) w4) := nextB B3.out (by simp) hb
    clear hb
    have g0 : w4.cell? ⟨w.heap.size, 0, none⟩ = some (.int .i64 N) := by rw [B4.out.cell (by simp)]; simp
    have g1 : w4.cell? ⟨w.heap.size, 1, none⟩ = some (.slice A m cm) := by rw [B4.out.cell (by simp)]; simp
    go_wp2_with fail
    refine (awake_any _).mono ?_
    rintro e w5 ⟨rfl, hb⟩
    have B5 : Hid (Below (w.heap.size + 1) (w.alloc (.cells #[.int .i64 N, .slice A m cm] 24)) w5) := nextB B4.out (by simp) hb
    clear hb
    go_wp2
    go_ret
    exact ⟨rfl, HF.out _ B5.out⟩
  have HTA : Hid (tightB N es a = true) := Lib.hid (by simpa using h5)
  clear h5
  by_cases h6 : tightB N es b = false
  · have HTB := Lib.hid h6
    clear h6
    have hK : ∀ w', Below (w.heap.size + 1) (w.alloc (.cells #[.int .i64 N, .slice A m cm] 24)) w' → Keeps w w' := fun w' h => (Keeps.alloc w _).trans (Keeps.of_below h (by simp))
    have hF : ∀ w', Below (w.heap.size + 1) (w.alloc (.cells #[.int .i64 N, .slice A m cm] 24)) w' → Below w.heap.size w w' := fun w' h => ((Below.refl _ _).alloc (Nat.le_refl _) _).trans (h.mono (by omega))
    have HK := Lib.hid hK
    have HF := Lib.hid hF
    clear hK hF
    go_enter Try.func8, Try.ntmps8
    go_wp2_with fail
    refine (awake_any _).mono ?_
    rintro e w1 ⟨rfl, hb⟩
    have B1 : Hid (Below (w.heap.size + 1) (w.alloc (.cells #[.int .i64 N, .slice A m cm] 24)) w1) := nextB (Below.refl _ _) (by simp) hb
    clear hb
    have g0 : w1.cell? ⟨w.heap.size, 0, none⟩ = some (.int .i64 N) := by rw [B1.out.cell (by simp)]; simp
    have g1 : w1.cell? ⟨w.heap.size, 1, none⟩ = some (.slice A m cm) := by rw [B1.out.cell (by simp)]; simp
    go_wp2_with fail
    refine (few_b (b := true) N A m cm es _ hm (H1.out.keep (HK.out _ B1.out)) HFW.out).mono ?_
    rintro e w2 ⟨rfl, hb⟩
    have B2 : Hid (Below (w.heap.size + 1) (w.alloc (.cells #[.int .i64 N, .slice A m cm] 24)) w2) := nextB B1.out (by simp) hb
    clear hb
    have g0 : w2.cell? ⟨w.heap.size, 0, none⟩ = some (.int .i64 N) := by rw [B2.out.cell (by simp)]; simp
    have g1 : w2.cell? ⟨w.heap.size, 1, none⟩ = some (.slice A m cm) := by rw [B2.out.cell (by simp)]; simp
    go_wp2_with fail
    refine (rsparse_b (b := true) N N.toNat (by omega) A m cm es _ (by omega) hm100 (H1.out.keep (HK.out _ B2.out)) HV.out HS.out).mono ?_
    rintro e w3 ⟨rfl, hb⟩
    have B3 : Hid (Below (w.heap.size + 1) (w.alloc (.cells #[.int .i64 N, .slice A m cm] 24)) w3) := nextB B2.out (by simp) hb
    clear hb
    have g0 : w3.cell? ⟨w.heap.size, 0, none⟩ = some (.int .i64 N) := by rw [B3.out.cell (by simp)]; simp
    have g1 : w3.cell? ⟨w.heap.size, 1, none⟩ = some (.slice A m cm) := by rw [B3.out.cell (by simp)]; simp
    go_wp2_with fail
    refine (tight_b (b := true) N A L m cm p cl es a _ hm100 (by omega) (H1.out.keep (HK.out _ B3.out)) (H2.out.keep (HK.out _ B3.out)) HTA.out).mono ?_
    rintro e w4 ⟨rfl, hb⟩
    have B4 : Hid (Below (w.heap.size + 1) (w.alloc (.cells #[.int .i64 N, .slice A m cm] 24)) w4) := nextB B3.out (by simp) hb
    clear hb
    have g0 : w4.cell? ⟨w.heap.size, 0, none⟩ = some (.int .i64 N) := by rw [B4.out.cell (by simp)]; simp
    have g1 : w4.cell? ⟨w.heap.size, 1, none⟩ = some (.slice A m cm) := by rw [B4.out.cell (by simp)]; simp
    go_wp2_with fail
    refine (tight_b (b := false) N A Q m cm q cq es b _ hm100 (by omega) (H1.out.keep (HK.out _ B4.out)) (H3.out.keep (HK.out _ B4.out)) HTB.out).mono ?_
    rintro e w5 ⟨rfl, hb⟩
    have B5 : Hid (Below (w.heap.size + 1) (w.alloc (.cells #[.int .i64 N, .slice A m cm] 24)) w5) := nextB B4.out (by simp) hb
    clear hb
    have g0 : w5.cell? ⟨w.heap.size, 0, none⟩ = some (.int .i64 N) := by rw [B5.out.cell (by simp)]; simp
    have g1 : w5.cell? ⟨w.heap.size, 1, none⟩ = some (.slice A m cm) := by rw [B5.out.cell (by simp)]; simp
    go_wp2_with fail
    refine (awake_any _).mono ?_
    rintro e w6 ⟨rfl, hb⟩
    have B6 : Hid (Below (w.heap.size + 1) (w.alloc (.cells #[.int .i64 N, .slice A m cm] 24)) w6) := nextB B5.out (by simp) hb
    clear hb
    go_wp2
    go_ret
    exact ⟨rfl, HF.out _ B6.out⟩
  have HTB : Hid (tightB N es b = true) := Lib.hid (by simpa using h6)
  clear h6
  obtain ⟨n, rfl⟩ : ∃ n : Nat, N = n := ⟨N.toNat, by omega⟩
  exact lat_main n A L Q m cm p cl q cq es a b w (by omega) hm100 (by omega) (by omega) H1.out H2.out H3.out HV.out HFW.out (by simpa using HS.out) HTA.out HTB.out

set_option maxRecDepth 100000 in
theorem sparsityLattice_lifted (os : Os) (started : os.Started) (H : Type) (enc : TypeId × Value → H) :
    ReturnsInHanded {} Try.checked os 8 .any (Rows.sparsityLatticeSpec.pre6 enc Try.prog Try.f8 Rows.sparsityLatticeRow.domain false) (Rows.sparsityLatticeSpec.post enc Try.prog Try.f8 false true false false) := by
  refine returnsInHanded_of_change (C := Try.checked) Tp.own started (by kernel_rfl) Try.func8
    (ChangeSpec.witness6 (enc := enc) (C := Try.checked) false ⟨#[], #[.agg #[.int .i64 0, .slice none 0 0], .slice none 0 0, .slice none 0 0], []⟩ 8 (by kernel_rfl) (by kernel_rfl) (by kernel_rfl) (by kernel_rfl)) ?_
  intro W base args ds gs before hval0 hW hcnd _
  have hval : ∀ (j : Nat) t v, Try.f8.params[j]? = some t → args[j]? = some v → Value.okWide Try.prog W .any base t v := hval0
  have hW' := hW
  obtain ⟨p, q, hA0, hV, rfl, hfz, hnd⟩ := hW
  have hA : DataW.TrodAll enc Try.prog W 0 (fun _ => true) true Try.f8.params.toList args.toList ds p := hA0
  rw [Try.params8] at hA hval
  obtain ⟨v0, vs0, d0, ds0, p0, q0, hargs, rfl, rfl, h0, r0⟩ := trodAll_cons hA
  obtain ⟨v1, vs1, d1, ds1, p1, q1, rfl, rfl, rfl, h1, r1⟩ := trodAll_cons r0
  obtain ⟨v2, vs2, d2, ds2, p2, q2, rfl, rfl, rfl, h2, r2⟩ := trodAll_cons r1
  obtain ⟨rfl, rfl, rfl⟩ := trodAll_nil r2
  obtain rfl : args = #[v0, v1, v2] := by cases args; simp_all
  obtain ⟨rfl, rfl⟩ := trodVars_none hV
  have lt0 : ∀ x ∈ p0, x.block < W.heap.size := by obtain ⟨m, hm⟩ := h0; exact DataW.trod_lt m _ _ _ hm
  obtain ⟨N0, A0, m0, c0, es0, rfl, wN0, hm0, he0, wE0⟩ := open_graph (hval 0 24 v0 rfl rfl) h0
  have lt1 : ∀ x ∈ p1, x.block < W.heap.size := by obtain ⟨m, hm⟩ := h1; exact DataW.trod_lt m _ _ _ hm
  obtain ⟨A1, m1, c1, l1, rfl, hm1, he1, wE1⟩ := open_intl (hval 1 30 v1 rfl rfl) h1
  have lt2 : ∀ x ∈ p2, x.block < W.heap.size := by obtain ⟨m, hm⟩ := h2; exact DataW.trod_lt m _ _ _ hm
  obtain ⟨A2, m2, c2, l2, rfl, hm2, he2, wE2⟩ := open_intl (hval 2 30 v2 rfl rfl) h2
  clear hA0 hval0
  refine (law_lattice N0 A0 A1 A2 m0 c0 m1 c1 m2 c2 es0 l1 l2 W hm0 hm1 hm2 he0 he1 he2).mono fun e W' ⟨he, bel⟩ => ?_
  subst he
  exact ⟨_, rfl, _, _, _, [], _, [], hW', trodAll_mk1 (shut_bool Try.underlying4 _), (trodAll_cons_mk (Below.trod Tp.laidOut (by kernel_rfl) (of_decide_eq_true (by kernel_rfl)) h0 bel lt0) (trodAll_cons_mk (Below.trod Tp.laidOut (by kernel_rfl) (of_decide_eq_true (by kernel_rfl)) h1 bel lt1) (trodAll_cons_mk (Below.trod Tp.laidOut (by kernel_rfl) (of_decide_eq_true (by kernel_rfl)) h2 bel lt2) trodAll_mk0))), rfl, bel.frame _, fun h => by cases h⟩

theorem sparsityLattice_holds : Rows.SparsityLatticeSaid :=
  OpenClaim.holds_of_wide 8 Try.f8 rfl rfl rfl rfl rfl rfl rfl ⟨rfl, rfl, rfl, rfl, rfl⟩ rfl rfl rfl rfl rfl (by kernel_rfl) Try.func8 (by kernel_rfl)
    (of_decide_eq_true (by kernel_rfl)) (by unfold Func.isWrapper; first | (rw [if_pos (by decide +kernel)]; kernel_rfl) | (rw [if_neg (by decide +kernel)]; exact ⟨rfl, rfl⟩))
    (fun os started H enc _ => sparsityLattice_lifted os started H enc)
end Go.Proofs.Ytohmafmdpajmlaa
