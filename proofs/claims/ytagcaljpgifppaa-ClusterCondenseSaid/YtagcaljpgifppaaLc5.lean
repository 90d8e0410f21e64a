/-
  ClusterCondense: the walk of the statement.
-/
import Derived.Test.YtagcaljpgifppaaLc2
import Derived.Test.YtagcaljpgifppaaCr8
namespace Go.Proofs.Ytagcaljpgifppaa
set_option linter.unusedVariables false
set_option linter.unusedSimpArgs false
open Go.RowKit Go.Sort
attribute [local go_sem ↓] Go.wp_at_zero Go.wp_at_succ

set_option maxRecDepth 100000 in
set_option maxHeartbeats 16000000 in
theorem law_cd (N : Int) (A : Option Addr) (m c : Nat) (es : List (Int × Int)) (w : World) (hm : m ≤ maxLen) (he : Rd w 2 A m (prs es)) :
    Calls Try.prog 14 #[.agg #[.int .i64 N, .slice A m c]] w fun e w' => e = .returned (.bool true) ∧ Below w.heap.size w w' := by
  have H0 := Lib.hid he
  have X0 : Hid (BC w N A m c (w.alloc (.cells #[.int .i64 N, .slice A m c] 24))) := Lib.hid BC.start
  unfold maxLen at hm
  clear he
  cases hs : sm36 N m
  · have HS := Lib.hid hs
    clear hs
    go_enter Try.func14, Try.ntmps14
    go_wp2_with (first
      | (go_at_call 35; refine (awake36_any _).mono ?_; rintro e w1 ⟨rfl, hb⟩; have X1 := Lib.hid (X0.out.next hb); obtain ⟨hz1, p0, p1⟩ := X1.out.facts; clear hb)
      | (go_at_call 36; refine (small36_b _ A m c _ HS.out).mono ?_; rintro e w2 ⟨rfl, hb⟩; have X2 := Lib.hid (X1.out.next hb); obtain ⟨hz2, p0, p1⟩ := X2.out.facts; clear hb)
      | fail)
    go_ret
    exact ⟨rfl, X2.out.below⟩
  have hsm := hs
  unfold sm36 at hsm
  simp only [Bool.and_eq_true, Bool.or_eq_true, decide_eq_true_eq] at hsm
  obtain ⟨hs7, hm25⟩ := hsm
  have HS := Lib.hid hs
  clear hs
  cases hv : validB N es
  · have HV := Lib.hid hv
    have HV7 : Hid (v36 N 7 es = false) := Lib.hid (by unfold v36; rw [hv]; rfl)
    clear hv hs7
    go_enter Try.func14, Try.ntmps14
    go_wp2_with (first
      | (go_at_call 35; refine (awake36_any _).mono ?_; rintro e w1 ⟨rfl, hb⟩; have X1 := Lib.hid (X0.out.next hb); obtain ⟨hz1, p0, p1⟩ := X1.out.facts; clear hb)
      | (go_at_call 36; refine (small36_b _ A m c _ HS.out).mono ?_; rintro e w2 ⟨rfl, hb⟩; have X2 := Lib.hid (X1.out.next hb); obtain ⟨hz2, p0, p1⟩ := X2.out.facts; clear hb)
      | (go_at_call 38; refine (own36_any _ A m c es _ (by omega) (H0.out.keep X2.out.keeps)).mono ?_; rintro e w3 ⟨hb, B3, d3, rfl, hr⟩; have X3 := Lib.hid (X2.out.next hb); obtain ⟨hz3, p0, p1⟩ := X3.out.facts; have R3 := Lib.hid hr; clear hb hr)
      | (go_at_call 55; refine (cond_no N B3 m d3 es _ (by omega) R3.out HV.out).mono ?_; rintro e w5 ⟨rfl, hb⟩; have X5 := Lib.hid (X3.out.next hb); have X5a := Lib.hid (X5.out.next ((Below.refl _ _).alloc (Nat.le_refl _) (.cells #[.int .i64 0, .slice none 0 0] 24))); obtain ⟨hz5, p0, p1⟩ := X5a.out.facts; clear hb)
      | (go_at_call 39; refine (valid36_b N 7 A m c es _ (by omega) (by omega) (H0.out.keep X5a.out.keeps) HV7.out).mono ?_; rintro e w6 ⟨rfl, hb⟩; have X6 := Lib.hid (X5a.out.next hb); have kk := Keeps.of_below hb (Nat.le_refl _); have a0 := kk _ _ (cell_at (w := w5) rfl #[.int .i64 0, .slice none 0 0] 24 0 rfl); have a1 := kk _ _ (cell_at (w := w5) rfl #[.int .i64 0, .slice none 0 0] 24 1 rfl); clear hb kk)
      | fail)
    go_ret
    exact ⟨rfl, X6.out.below⟩
  · obtain ⟨n, rfl, hn60⟩ := nat_of_valid hv
    have hn7 : n ≤ 7 := by omega
    have HV := Lib.hid hv
    have HV7 : Hid (v36 n 7 es = true) := Lib.hid (by unfold v36; rw [hv, decide_eq_true (by omega)]; rfl)
    clear hv hs7 hn60
    go_enter Try.func14, Try.ntmps14
    go_upto_region 9 with (first
      | (go_at_call 35; refine (awake36_any _).mono ?_; rintro e w1 ⟨rfl, hb⟩; have X1 := Lib.hid (X0.out.next hb); obtain ⟨hz1, p0, p1⟩ := X1.out.facts; clear hb)
      | (go_at_call 36; refine (small36_b _ A m c _ HS.out).mono ?_; rintro e w2 ⟨rfl, hb⟩; have X2 := Lib.hid (X1.out.next hb); obtain ⟨hz2, p0, p1⟩ := X2.out.facts; clear hb)
      | (go_at_call 38; refine (own36_any _ A m c es _ (by omega) (H0.out.keep X2.out.keeps)).mono ?_; rintro e w3 ⟨hb, B3, d3, rfl, hr⟩; have X3 := Lib.hid (X2.out.next hb); obtain ⟨hz3, p0, p1⟩ := X3.out.facts; have R3 := Lib.hid hr; clear hb hr)
      | (go_at_call 55; refine (cond_any n B3 m d3 es _ hn7 hm25 R3.out HV.out).mono ?_; rintro e w5 ⟨ls, q, hl, hq, hb, B5, d5, rfl, hr⟩; have X5 := Lib.hid (X3.out.next hb); have X5a := Lib.hid (X5.out.next ((Below.refl _ _).alloc (Nat.le_refl _) (.cells #[.int .i64 (n : Int), .slice B5 q d5] 24))); have L5 := Lib.hid hl; have Q5 := Lib.hid hq; have R5 := Lib.hid hr; obtain ⟨hz5, p0, p1⟩ := X5a.out.facts; clear hb hl hq hr)
      | (go_at_call 39; refine (valid36_b n 7 A m c es _ (by omega) (by omega) (H0.out.keep X5a.out.keeps) HV7.out).mono ?_; rintro e w6 ⟨rfl, hb⟩; have X6 := Lib.hid (X5a.out.next hb); have B56 := Lib.hid hb; obtain ⟨hz6, p0, p1⟩ := X6.out.facts; clear hb)
      | (go_at_call 56; refine (rcond_any n A m c es _ hn7 hm25 (H0.out.keep X6.out.keeps) HV.out).mono ?_; rintro e w7 ⟨ls', q', hl, hq, hb, B7, d7, rfl, hr⟩; have X7 := Lib.hid (X6.out.next hb); have B67 := Lib.hid hb; have L7 := Lib.hid hl; have Q7 := Lib.hid hq; have R7 := Lib.hid hr; clear hb hl hq hr)
      | fail)
    have hle := L7.out.unique L5.out
    subst hle
    have hcr := conL_ref (by omega) HV.out L5.out
    have hqq : q' = q := by rw [← Q7.out, ← Q5.out, hcr]
    subst hqq
    have CC := Lib.hid (clu_con (by omega) HV.out L5.out)
    have hr7 := R7.out
    rw [← hcr] at hr7
    have VH0 : validB n (mkL n (conL es ls' ls'.length)) = true := mkL_valid' (by omega)
    have hql := valid_len VH0
    rw [Q5.out] at hql
    have hnn : n * n ≤ 7 * 7 := Nat.mul_le_mul hn7 hn7
    have EQL : Hid (∀ l1 l2, CluL n (mkL n (conL es ls' ls'.length)) l1 → CluL n es l2 → l1 = l2) := Lib.hid fun l1 l2 h1 h2 => (h1.unique CC.out).trans (L5.out.unique h2)
    have VH := Lib.hid VH0
    have hr5 := R5.out
    clear hcr VH0
    generalize mkL n (conL es ls' ls'.length) = el at *
    have k57 : Keeps (w5.alloc (.cells #[.int .i64 (n : Int), .slice B5 q' d5] 24)) w7 := (Keeps.of_below B56.out (Nat.le_refl _)).trans (Keeps.of_below B67.out (Nat.le_refl _))
    have a0 : (w7.alloc (.cells #[.int .i64 (n : Int), .slice B7 q' d7] 24)).cell? ⟨w5.heap.size, 0, none⟩ = some (.int .i64 (n : Int)) := Keeps.alloc _ _ _ _ (k57 _ _ (cell_at rfl _ _ 0 rfl))
    have a1 : (w7.alloc (.cells #[.int .i64 (n : Int), .slice B7 q' d7] 24)).cell? ⟨w5.heap.size, 1, none⟩ = some (.slice B5 q' d5) := Keeps.alloc _ _ _ _ (k57 _ _ (cell_at rfl _ _ 1 rfl))
    have b0 : (w7.alloc (.cells #[.int .i64 (n : Int), .slice B7 q' d7] 24)).cell? ⟨w7.heap.size, 0, none⟩ = some (.int .i64 (n : Int)) := cell_at rfl _ _ 0 rfl
    have b1 : (w7.alloc (.cells #[.int .i64 (n : Int), .slice B7 q' d7] 24)).cell? ⟨w7.heap.size, 1, none⟩ = some (.slice B7 q' d7) := cell_at rfl _ _ 1 rfl
    have X8 := Lib.hid (X7.out.next ((Below.refl _ _).alloc (Nat.le_refl _) (.cells #[.int .i64 (n : Int), .slice B7 q' d7] 24)))
    have RH := Lib.hid ((hr5.keep ((Keeps.alloc w5 (.cells #[.int .i64 (n : Int), .slice B5 q' d5] 24)).trans k57)).keep (Keeps.alloc w7 (.cells #[.int .i64 (n : Int), .slice B7 q' d7] 24)))
    have RW := Lib.hid (hr7.keep (Keeps.alloc w7 (.cells #[.int .i64 (n : Int), .slice B7 q' d7] 24)))
    have RG := Lib.hid (H0.out.keep X8.out.keeps)
    clear hr5 hr7 k57
    have p0 := X8.out.facts.2.1
    have p1 := X8.out.facts.2.2
    generalize w7.alloc (.cells #[.int .i64 (n : Int), .slice B7 q' d7] 24) = w8 at *
    generalize hhb : w5.heap.size = hb1 at *
    generalize hwb : w7.heap.size = wb1 at *
    have PQ : Hid (∀ W, Rd W 2 B5 q' (prs el) → Rd W 2 B7 q' (prs el) → Calls Try.prog 46 #[.slice B5 q' d5, .slice B7 q' d7] W fun e w' => e = .returned (.bool true) ∧ Below W.heap.size W w') := Lib.hid fun W h1 h2 => pairs36_b (b := true) B5 B7 q' d5 q' d7 el el W (by omega) (by omega) h1 h2 (by simp)
    have a0r := a0
    have a1r := a1
    have b0r := b0
    have b1r := b1
    have p0r := p0
    have p1r := p1
    go_region_held3 (fun w' => w'.cell? ⟨hb1, 0, none⟩ = some (.int .i64 (n : Int)) ∧ w'.cell? ⟨hb1, 1, none⟩ = some (.slice B5 q' d5) ∧ w'.cell? ⟨wb1, 0, none⟩ = some (.int .i64 (n : Int)) ∧ w'.cell? ⟨wb1, 1, none⟩ = some (.slice B7 q' d7) ∧ w'.cell? ⟨w.heap.size, 0, none⟩ = some (.int .i64 (n : Int)) ∧ w'.cell? ⟨w.heap.size, 1, none⟩ = some (.slice A m c)) (first | exact ⟨a0, a1, b0, b1, p0, p1⟩ | go_keep)
      ((first
        | (go_at_call 46; (with_reducible refine (PQ.out _ (by first | exact RH.out | exact Rd.drew' RH.out | fail) (by first | exact RW.out | exact Rd.drew' RW.out | fail)).mono ?_); rintro e w9 ⟨rfl, hb⟩; have X9 : Hid (Below w8.heap.size w8 w9) := Lib.hid (by first | exact hb | exact (Below.refl _ _).drew.trans hb | fail); have kk := Keeps.of_below X9.out (Nat.le_refl _); have a0 := kk _ _ a0r; have a1 := kk _ _ a1r; have b0 := kk _ _ b0r; have b1 := kk _ _ b1r; have p0 := kk _ _ p0r; have p1 := kk _ _ p1r; have RH9 := Lib.hid (RH.out.keep kk); clear hb kk)
        | (go_at_call 38; (with_reducible refine (own36_any n B5 q' d5 el _ (by omega) RH9.out).mono ?_); rintro e w10 ⟨hb, B10, d10, rfl, hr⟩; have X10 : Hid (Below w8.heap.size w8 w10) := Lib.hid (X9.out.trans (hb.mono X9.out.size)); have R10 := Lib.hid hr; have kk := Keeps.of_below X10.out (Nat.le_refl _); have a0 := kk _ _ a0r; have a1 := kk _ _ a1r; have b0 := kk _ _ b0r; have b1 := kk _ _ b1r; have p0 := kk _ _ p0r; have p1 := kk _ _ p1r; clear hb kk hr)
        | (go_at_call 37; (with_reducible refine (clusters_any n B10 q' d10 el _ (by omega) R10.out VH.out).mono ?_); rintro e w11 ⟨hb, C11, n11, c11, ls11, rfl, hl, ho⟩; have X11 : Hid (Below w8.heap.size w8 w11) := Lib.hid (X10.out.trans (hb.mono X10.out.size)); have L11 := Lib.hid hl; have R11 := Lib.hid ho.rd; have kk := Keeps.of_below X11.out (Nat.le_refl _); have a0 := kk _ _ a0r; have a1 := kk _ _ a1r; have b0 := kk _ _ b0r; have b1 := kk _ _ b1r; have p0 := kk _ _ p0r; have p1 := kk _ _ p1r; have RG11 := Lib.hid (RG.out.keep kk); clear hb kk hl ho)
        | (go_at_call 38; (with_reducible refine (own36_any n A m c es _ (by omega) RG11.out).mono ?_); rintro e w12 ⟨hb, B12, d12, rfl, hr⟩; have X12 : Hid (Below w8.heap.size w8 w12) := Lib.hid (X11.out.trans (hb.mono X11.out.size)); have R12 := Lib.hid hr; have R112 := Lib.hid (R11.out.keep (Keeps.of_below hb (Nat.le_refl _))); have kk := Keeps.of_below X12.out (Nat.le_refl _); have a0 := kk _ _ a0r; have a1 := kk _ _ a1r; have b0 := kk _ _ b0r; have b1 := kk _ _ b1r; have p0 := kk _ _ p0r; have p1 := kk _ _ p1r; clear hb kk hr)
        | (go_at_call 37; (with_reducible refine (clusters_any n B12 m d12 es _ (by omega) R12.out HV.out).mono ?_); rintro e w13 ⟨hb, C13, n13, c13, ls13, rfl, hl, ho⟩; have X13 : Hid (Below w8.heap.size w8 w13) := Lib.hid (X12.out.trans (hb.mono X12.out.size)); have EQ := Lib.hid (EQL.out ls11 ls13 L11.out hl); have R13 := Lib.hid ho.rd; have R113 := Lib.hid (R112.out.keep (Keeps.of_below hb (Nat.le_refl _))); have SL := Lib.hid (clu_small (by omega) HV.out hl (by rw [← EQ.out]; exact R113.out) R13.out); have kk := Keeps.of_below X13.out (Nat.le_refl _); have a0 := kk _ _ a0r; have a1 := kk _ _ a1r; have b0 := kk _ _ b0r; have b1 := kk _ _ b1r; have p0 := kk _ _ p0r; have p1 := kk _ _ p1r; clear hb kk hl ho)
        | (go_at_call 40; (with_reducible refine (same36_b (b := true) C11 C13 n11 c11 n13 c13 ls11 ls13 _ (by have := SL.out; omega) (by have := SL.out; omega) (by rw [EQ.out]; exact SL.out.1) SL.out.1 R113.out R13.out (by rw [EQ.out]; simp)).mono ?_); rintro e w14 ⟨rfl, hb⟩; have X14 : Hid (Below w8.heap.size w8 w14) := Lib.hid (X13.out.trans (hb.mono X13.out.size)); have kk := Keeps.of_below X14.out (Nat.le_refl _); have a0 := kk _ _ a0r; have a1 := kk _ _ a1r; have b0 := kk _ _ b0r; have b1 := kk _ _ b1r; have p0 := kk _ _ p0r; have p1 := kk _ _ p1r; clear hb kk)
        | fail))
    all_goals
     go_wp2_with fail
     go_ret
     exact ⟨rfl, (X8.out.next X14.out).below⟩
end Go.Proofs.Ytagcaljpgifppaa
