/-
  ClusterClusters: the walk of the statement.
-/
import Derived.Test.YtagcaljpgifppaaCa
import Derived.Test.YtagcaljpgifppaaCv
import Derived.Test.YtagcaljpgifppaaCr5
namespace Go.Proofs.Ytagcaljpgifppaa
set_option linter.unusedVariables false
set_option linter.unusedSimpArgs false
open Go.RowKit Go.Sort
attribute [local go_sem ↓] Go.wp_at_zero Go.wp_at_succ

theorem clu_short {n : Nat} {es : List (Int × Int)} {ls : List (List Int)} (hn : n ≤ 1000000) (h : CluL n es ls) : shortL ls := fun i => by
  by_cases hi : i < ls.length
  · obtain ⟨e, -, heq⟩ := (h.mem (ls.getD i [])).1 (by rw [List.getD_eq_getElem?_getD, List.getElem?_eq_getElem hi]; exact List.getElem_mem _)
    rw [heq]
    exact Nat.le_trans (clU_len (p := n)) hn
  · rw [List.getD_eq_getElem?_getD, List.getElem?_eq_none (by omega)]; simp
theorem clu_len {n : Nat} {es : List (Int × Int)} {ls : List (List Int)} (h : CluL n es ls) : ls.length ≤ es.length := by
  have hnd : ls.Nodup := h.lt.imp (fun {x y} h e => by
    subst e
    unfold LtL at h
    rw [lexL_irrefl] at h
    cases h)
  have := nodup_len_le ls (es.map fun e => clP n es e.1.toNat e.2.toNat) hnd (fun x hx => by
    obtain ⟨e, he, rfl⟩ := (h.mem x).1 hx
    exact List.mem_map.2 ⟨e, he, rfl⟩)
  simpa using this
theorem clu_small {n : Nat} {es : List (Int × Int)} {ls : List (List Int)} {W : World} {C C' : Option Addr} {a b : Nat} (hn : n ≤ 20) (hv : validB n es = true) (h : CluL n es ls) (ha : RdL W C a ls) (hb : RdL W C' b ls) : lensL ls ∧ a ≤ 400 ∧ b ≤ 400 := by
  have h1 := valid_len hv
  have h2 : n * n ≤ 20 * 20 := Nat.mul_le_mul hn hn
  have h3 := clu_len h
  have ea := ha.1
  have eb := hb.1
  refine ⟨short36 (clu_short (by omega) h), by omega, by omega⟩

set_option maxRecDepth 100000 in
set_option maxHeartbeats 8000000 in
theorem law_cc (N : Int) (A : Option Addr) (m c : Nat) (es : List (Int × Int)) (w : World) (hm : m ≤ maxLen) (he : Rd w 2 A m (prs es)) :
    Calls Try.prog 8 #[.agg #[.int .i64 N, .slice A m c]] w fun e w' => e = .returned (.bool true) ∧ Below w.heap.size w w' := by
  have H0 := Lib.hid he
  have X0 : Hid (BC w N A m c (w.alloc (.cells #[.int .i64 N, .slice A m c] 24))) := Lib.hid BC.start
  unfold maxLen at hm
  clear he
  cases hs : sm36 N m
  · have HS := Lib.hid hs
    clear hs
    go_enter Try.func8, Try.ntmps8
    go_wp2_with (first
      | (go_at_call 35; refine (awake36_any _).mono ?_; rintro e w1 ⟨rfl, hb⟩; have X1 := Lib.hid (X0.out.next hb); obtain ⟨hz1, p0, p1⟩ := X1.out.facts; clear hb)
      | (go_at_call 36; refine (small36_b N A m c _ HS.out).mono ?_; rintro e w2 ⟨rfl, hb⟩; have X2 := Lib.hid (X1.out.next hb); clear hb)
      | fail)
    go_ret
    exact ⟨rfl, X2.out.below⟩
  have hsm := hs
  unfold sm36 at hsm
  simp only [Bool.and_eq_true, Bool.or_eq_true, decide_eq_true_eq] at hsm
  obtain ⟨hs7, hm25⟩ := hsm
  have HS := Lib.hid hs
  clear hs
  cases hv : validB N es
  · have HV := Lib.hid hv
    have HV7 : Hid (v36 N 7 es = false) := Lib.hid (by unfold v36; rw [hv]; rfl)
    clear hv hs7
    go_enter Try.func8, Try.ntmps8
    go_wp2_with (first
      | (go_at_call 35; refine (awake36_any _).mono ?_; rintro e w1 ⟨rfl, hb⟩; have X1 := Lib.hid (X0.out.next hb); obtain ⟨hz1, p0, p1⟩ := X1.out.facts; clear hb)
      | (go_at_call 36; refine (small36_b _ A m c _ HS.out).mono ?_; rintro e w2 ⟨rfl, hb⟩; have X2 := Lib.hid (X1.out.next hb); obtain ⟨hz2, p0, p1⟩ := X2.out.facts; clear hb)
      | (go_at_call 38; refine (own36_any _ A m c es _ (by omega) (H0.out.keep X2.out.keeps)).mono ?_; rintro e w3 ⟨hb, B3, d3, rfl, hr⟩; have X3 := Lib.hid (X2.out.next hb); obtain ⟨hz3, p0, p1⟩ := X3.out.facts; have R3 := Lib.hid hr; clear hb hr)
      | (go_at_call 37; refine (clusters_no N B3 m d3 es _ (by omega) R3.out HV.out).mono ?_; rintro e w4 ⟨rfl, hb⟩; have X4 := Lib.hid (X3.out.next hb); obtain ⟨hz4, p0, p1⟩ := X4.out.facts; clear hb)
      | (go_at_call 39; refine (valid36_b N 7 A m c es _ (by omega) (by omega) (H0.out.keep X4.out.keeps) HV7.out).mono ?_; rintro e w5 ⟨rfl, hb⟩; have X5 := Lib.hid (X4.out.next hb); clear hb)
      | fail)
    go_ret
    exact ⟨rfl, X5.out.below⟩
  · obtain ⟨n, rfl, hn60⟩ := nat_of_valid hv
    have hn7 : n ≤ 7 := by omega
    have HV := Lib.hid hv
    have HV7 : Hid (v36 n 7 es = true) := Lib.hid (by unfold v36; rw [hv, decide_eq_true (by omega)]; rfl)
    have HOK := Lib.hid (ok_of_valid hv)
    clear hv hs7 hn60
    go_enter Try.func8, Try.ntmps8
    go_wp2_with (first
      | (go_at_call 35; refine (awake36_any _).mono ?_; rintro e w1 ⟨rfl, hb⟩; have X1 := Lib.hid (X0.out.next hb); obtain ⟨hz1, p0, p1⟩ := X1.out.facts; clear hb)
      | (go_at_call 36; refine (small36_b _ A m c _ HS.out).mono ?_; rintro e w2 ⟨rfl, hb⟩; have X2 := Lib.hid (X1.out.next hb); obtain ⟨hz2, p0, p1⟩ := X2.out.facts; clear hb)
      | (go_at_call 38; refine (own36_any _ A m c es _ (by omega) (H0.out.keep X2.out.keeps)).mono ?_; rintro e w3 ⟨hb, B3, d3, rfl, hr⟩; have X3 := Lib.hid (X2.out.next hb); obtain ⟨hz3, p0, p1⟩ := X3.out.facts; have R3 := Lib.hid hr; clear hb hr)
      | (go_at_call 37; refine (clusters_any n B3 m d3 es _ (by omega) R3.out HV.out).mono ?_; rintro e w4 ⟨hb, C4, n4, c4, ls, rfl, hl, ho⟩; have X4 := Lib.hid (X3.out.next hb); obtain ⟨hz4, p0, p1⟩ := X4.out.facts; have L4 := Lib.hid hl; have R4 := Lib.hid ho.rd; clear hb hl ho)
      | (go_at_call 39; refine (valid36_b n 7 A m c es _ (by omega) (by omega) (H0.out.keep X4.out.keeps) HV7.out).mono ?_; rintro e w5 ⟨rfl, hb⟩; have X5 := Lib.hid (X4.out.next hb); obtain ⟨hz5, p0, p1⟩ := X5.out.facts; have R5 := Lib.hid (R4.out.keep (Keeps.of_below hb (Nat.le_refl _))); clear hb)
      | (go_at_call 41; refine (rclusters_any n A m c es _ hn7 (by omega) (H0.out.keep X5.out.keeps) HOK.out).mono ?_; rintro e w6 ⟨hb, C6, n6, c6, ls6, rfl, hl, hr⟩; have X6 := Lib.hid (X5.out.next hb); have EQ : Hid (ls = ls6) := Lib.hid (L4.out.unique hl); have SL : Hid (lensL ls ∧ n4 ≤ 400 ∧ n6 ≤ 400) := Lib.hid (clu_small (by omega) HV.out L4.out (R5.out.keep (Keeps.of_below hb (Nat.le_refl _))) (by rw [EQ.out]; exact hr)); have R6 := Lib.hid hr; have R56 := Lib.hid (R5.out.keep (Keeps.of_below hb (Nat.le_refl _))); clear hb hl hr)
      | (go_at_call 40; refine (same36_b (b := true) C4 C6 n4 c4 n6 c6 ls ls6 _ (by have := SL.out; omega) (by have := SL.out; omega) SL.out.1 (by rw [← EQ.out]; exact SL.out.1) R56.out R6.out (by rw [EQ.out]; simp)).mono ?_; rintro e w7 ⟨rfl, hb⟩; have X7 := Lib.hid (X6.out.next hb); clear hb)
      | fail)
    go_ret
    exact ⟨rfl, X7.out.below⟩
end Go.Proofs.Ytagcaljpgifppaa
