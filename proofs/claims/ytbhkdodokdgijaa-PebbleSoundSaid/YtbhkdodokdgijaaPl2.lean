/-
  PebbleCertificates: the walk of the statement.
-/
import Derived.Test.YtbhkdodokdgijaaPl1
import Derived.Test.YtbhkdodokdgijaaQ7
namespace Go.Proofs.Ytbhkdodokdgijaa
set_option linter.unusedVariables false
set_option linter.unusedSimpArgs false
open Go.RowKit Go.Sort
attribute [local go_sem ↓] Go.wp_at_zero Go.wp_at_succ

theorem viol_vio {n S : Nat} {es : List (Int × Int)} {l : List Int} (hv : validB n es = true) (h : l = ptsK n S) (h2 : 2 ≤ l.length) (h3 : 2 * (l.length : Int) - 3 < spanS es S) : violB n es l = true := by
  have hE : ∀ e ∈ es, 0 ≤ e.1 ∧ e.1 < e.2 ∧ e.2 < n := fun e he => by
    have := ends_mem hv e he
    omega
  have hI : ((indE n es l).length : Int) = spanS es S := by
    unfold indE indK
    rw [hv, if_pos rfl, List.take_length, ← List.countP_eq_length_filter, ← spanI_ptsK hE, ← h]
    rfl
  rw [violB_all (fun j hj => ?_), decide_eq_true h2, hI, decide_eq_true h3]
  · rfl
  have hpw := ptsK_pairwise n S
  have hm : ∀ x ∈ l, 0 ≤ x ∧ x < (n : Int) := fun x hx => by
    rw [h, ptsK_mem] at hx
    omega
  rw [← h] at hpw
  have g : ∀ i (hi : i < l.length), l.getD i 0 = l[i] := fun i hi => by rw [List.getD_eq_getElem?_getD, List.getElem?_eq_getElem hi]; rfl
  have hj2 := hm l[j] (List.getElem_mem hj)
  unfold ascP
  rw [g j hj, decide_eq_true hj2.1, decide_eq_true hj2.2]
  by_cases hj0 : j = 0
  · rw [decide_eq_true hj0]; rfl
  · rw [g (j - 1) (by omega), decide_eq_true (List.pairwise_iff_getElem.1 hpw (j - 1) j (by omega) hj (by omega))]
    simp
theorem viol_b {b : Bool} (N : Int) (A P : Option Addr) (m c k d : Nat) (es : List (Int × Int)) (ps : List Int) (w : World) (hm : m ≤ 1000) (hk : k ≤ 1152921504606846976) (he : Rd w 2 A m (prs es)) (hp : Rd w 1 P k (ints ps)) (hb : violB N es ps = b) :
    Calls Try.prog 25 #[.agg #[.int .i64 N, .slice A m c], .slice P k d] w fun e w' => e = .returned (.bool b) ∧ Below w.heap.size w w' := by
  subst hb; exact viol_any N A P m c k d es ps w hm hk he hp
/-- Orientation and Violation of an invalid graph. -/
theorem ori_bad (N : Int) (A : Option Addr) (m c : Nat) (es : List (Int × Int)) (w : World) (hm : m ≤ 50000) (he : Rd w 2 A m (prs es)) (hv : validB N es = false) :
    Calls Try.prog 22 #[.agg #[.int .i64 N, .slice A m c]] w fun e w' => Below w.heap.size w w' ∧ ∃ B c, e = .returned (.tuple #[.slice B 0 c, .bool false]) := by
  refine (pori_any N A m c es w hm he).mono ?_
  rintro e w' ⟨hb, B, c, ls, r, rfl, ho, hr⟩
  unfold OriR at hr
  rw [if_neg (by rw [hv]; simp)] at hr
  obtain ⟨rfl, rfl⟩ := hr
  exact ⟨hb, B, c, rfl⟩
theorem vio_none (N : Int) (A : Option Addr) (m c : Nat) (es : List (Int × Int)) (w : World) (hm : m ≤ 50000) (he : Rd w 2 A m (prs es)) (hv : validB N es = false ∨ rankE es = es.length) :
    Calls Try.prog 23 #[.agg #[.int .i64 N, .slice A m c]] w fun e w' => Below w.heap.size w w' ∧ ∃ B c, e = .returned (.tuple #[.slice B 0 c, .bool false]) := by
  refine (pvio_any N A m c es w (by omega) he).mono ?_
  rintro e w' ⟨hb, B, c, l, r, rfl, ho, hr⟩
  cases h : validB N es
  · obtain ⟨rfl, rfl⟩ := hr.1 h
    exact ⟨hb, B, c, rfl⟩
  · rcases hr.2 h with ⟨rfl, rfl, -⟩ | ⟨-, h9, -⟩
    · exact ⟨hb, B, c, rfl⟩
    · rcases hv with hv | hv
      · rw [h] at hv; cases hv
      · omega
theorem vio_some (n : Nat) (A : Option Addr) (m c : Nat) (es : List (Int × Int)) (w : World) (hm : m ≤ 50000) (he : Rd w 2 A m (prs es)) (hv : validB n es = true) (hk : rankE es ≠ es.length) :
    Calls Try.prog 23 #[.agg #[.int .i64 (n : Int), .slice A m c]] w fun e w' => Below w.heap.size w w' ∧ ∃ B c l q, e = .returned (.tuple #[.slice B q c, .bool true]) ∧ Rd w' 1 B q (ints l) ∧ q ≤ n ∧ violB n es l = true := by
  refine (pvio_any n A m c es w (by omega) he).mono ?_
  rintro e w' ⟨hb, B, c, l, r, rfl, ho, hr⟩
  rcases hr.2 hv with ⟨-, -, h9⟩ | ⟨rfl, -, S, h1, h2, h3⟩
  · exact absurd h9 hk
  · rw [show ((n : Int)).toNat = n from Int.toNat_natCast n] at h1
    exact ⟨hb, B, c, l, l.length, rfl, ho.rd, by rw [h1]; exact ptsK_length_le n S, viol_vio hv h1 h2 h3⟩
set_option maxHeartbeats 8000000 in
theorem law_pcert (N : Int) (A : Option Addr) (m c : Nat) (es : List (Int × Int)) (w : World) (hm : m ≤ maxLen) (he : Rd w 2 A m (prs es)) :
    Calls Try.prog 5 #[.agg #[.int .i64 N, .slice A m c]] w fun e w' => e = .returned (.bool true) ∧ Below w.heap.size w w' := by
  have H0 := Lib.hid he
  have HE := Lib.hid he.prs_len
  have X0 : Hid (BX w N A m c (w.alloc (.cells #[.int .i64 N, .slice A m c] 24))) := Lib.hid BX.start
  unfold maxLen at hm
  clear he
  by_cases h1 : (decide (N ≤ 8) && decide ((m : Int) ≤ 20)) = true
  · have D1 := Lib.hid h1
    have hm20 : m ≤ 20 := by simp at h1; omega
    have hN8 : N ≤ 8 := by simp at h1; omega
    clear h1
    cases hv : validB N es
    · have HV := Lib.hid hv
      clear hv
      go_enter Try.func5, Try.ntmps5
      go_wp2_with fail
      refine (awake_any _).mono ?_
      rintro e w1 ⟨rfl, hb⟩
      have X1 := Lib.hid (X0.out.next hb)
      obtain ⟨hz1, p0, p1⟩ := X1.out.facts
      clear hb
      go_wp2_with fail
      refine (few_b (b := true) N A m c _ D1.out).mono ?_
      rintro e w2 ⟨rfl, hb⟩
      have X2 := Lib.hid (X1.out.next hb)
      obtain ⟨hz2, p0, p1⟩ := X2.out.facts
      clear hb
      go_wp2_with fail
      refine (ori_bad N A m c es _ (by omega) (H0.out.keep X2.out.keeps) HV.out).mono ?_
      rintro e w3 ⟨hb, B3, c3, rfl⟩
      have X3 := Lib.hid (X2.out.next hb)
      obtain ⟨hz3, p0, p1⟩ := X3.out.facts
      clear hb
      go_wp2_with fail
      refine (vio_none N A m c es _ (by omega) (H0.out.keep X3.out.keeps) (.inl HV.out)).mono ?_
      rintro e w4 ⟨hb, B4, c4, rfl⟩
      have X4 := Lib.hid (X3.out.next hb)
      obtain ⟨hz4, p0, p1⟩ := X4.out.facts
      clear hb
      go_wp2_with fail
      refine (rvalid_b (b := false) N A m c es _ (by omega) (H0.out.keep X4.out.keeps) HV.out).mono ?_
      rintro e w5 ⟨rfl, hb⟩
      have X5 := Lib.hid (X4.out.next hb)
      obtain ⟨hz5, p0, p1⟩ := X5.out.facts
      clear hb
      go_wp2_with fail
      go_ret
      exact ⟨rfl, X5.out.below⟩
    · obtain ⟨n, rfl, hn60⟩ := nat_of_valid hv
      have hn8 : n ≤ 8 := by omega
      have HK9 : Hid (∀ e ∈ es, OkE n e) := Lib.hid (ok_of_valid hv)
      have HV := Lib.hid hv
      have hrk : rankE es ≤ m := by have := rank_le es; have := HE.out; omega
      have RI : Hid (∀ w', Rd w' 2 A m (prs es) → Calls Try.prog 17 #[.agg #[.int .i64 (n : Int), .slice A m c]] w' fun e w'' => Below w'.heap.size w' w'' ∧ ∃ B d, e = .returned (.slice B (rankE es) d)) := Lib.hid fun w' h => (rind34_l n _ A m c es w' hn8 (by omega) h (ok_of_valid hv) rfl).mono (by rintro e w'' ⟨hb, B, d, rfl, ho⟩; exact ⟨hb, B, d, rfl⟩)
      by_cases hk : rankE es = m
      · have HK := Lib.hid hk
        rw [hk] at RI
        clear hv hk hrk
        go_enter Try.func5, Try.ntmps5
        go_wp2_with fail
        refine (awake_any _).mono ?_
        rintro e w1 ⟨rfl, hb⟩
        have X1 := Lib.hid (X0.out.next hb)
        obtain ⟨hz1, p0, p1⟩ := X1.out.facts
        clear hb
        go_wp2_with fail
        refine (few_b (b := true) n A m c _ D1.out).mono ?_
        rintro e w2 ⟨rfl, hb⟩
        have X2 := Lib.hid (X1.out.next hb)
        obtain ⟨hz2, p0, p1⟩ := X2.out.facts
        clear hb
        go_wp2_with fail
        refine (ori_yes n A m c es _ (by omega) (H0.out.keep X2.out.keeps) HV.out (by rw [HK.out, HE.out]) HE.out).mono ?_
        rintro e w3 ⟨hb, B3, c3, ls, rfl, hr, hc⟩
        have X3 := Lib.hid (X2.out.next hb)
        have L3 := Lib.hid hr
        have CB := Lib.hid hc
        obtain ⟨hz3, p0, p1⟩ := X3.out.facts
        clear hb hr hc
        go_wp2_with fail
        refine (vio_none n A m c es _ (by omega) (H0.out.keep X3.out.keeps) (.inr (by rw [HK.out, HE.out]))).mono ?_
        rintro e w4 ⟨hb, B4, c4, rfl⟩
        have X4 := Lib.hid (X3.out.next hb)
        have L4 := Lib.hid (L3.out.keep (Keeps.of_below hb (Nat.le_refl _)))
        obtain ⟨hz4, p0, p1⟩ := X4.out.facts
        clear hb
        go_wp2_with fail
        refine (rvalid_b (b := true) n A m c es _ (by omega) (H0.out.keep X4.out.keeps) HV.out).mono ?_
        rintro e w5 ⟨rfl, hb⟩
        have X5 := Lib.hid (X4.out.next hb)
        have L5 := Lib.hid (L4.out.keep (Keeps.of_below hb (Nat.le_refl _)))
        obtain ⟨hz5, p0, p1⟩ := X5.out.facts
        have n0 := World.new_ne w5 _ p1
        clear hb
        go_wp2_with fail
        go_region_held3 (fun w' => w'.cell? ⟨w.heap.size, 0, none⟩ = some (.int .i64 (n : Int)) ∧ w'.cell? ⟨w.heap.size, 1, none⟩ = some (.slice A m c)) (go_keep)
          ((first
            | (go_at_call 17; refine (RI.out _ (H0.out.keep X5.out.drew.keeps)).mono ?_; rintro e w6 ⟨hb, B6, d6, rfl⟩; have X6 : Hid (BX w n A m c w6) := Lib.hid (X5.out.drew.next hb); have L6 := Lib.hid (L5.out.keep ((Keeps.drew _).trans (Keeps.of_below hb (Nat.le_refl _)))); obtain ⟨hz6, p0, p1⟩ := X6.out.facts; have n0 := World.new_ne w6 _ p1; clear hb)
            | fail))
        all_goals
         go_wp2_with fail
         refine (cert_b (b := true) n A B3 m c m c3 es ls _ (by omega) (by omega) (by omega) (H0.out.keep X6.out.keeps) L6.out HK9.out CB.out).mono ?_
         rintro e w7 ⟨rfl, hb⟩
         have X7 := Lib.hid (X6.out.next hb)
         clear hb
         go_wp2_with fail
         go_ret
         exact ⟨rfl, X7.out.below⟩
      · have HK := Lib.hid hk
        generalize hq : rankE es = rk at RI hk hrk
        have HQ := Lib.hid hq
        have hne : ((rk : Int) == (m : Int)) = false := by simp; omega
        clear hv hk hq
        go_enter Try.func5, Try.ntmps5
        go_wp2_with fail
        refine (awake_any _).mono ?_
        rintro e w1 ⟨rfl, hb⟩
        have X1 := Lib.hid (X0.out.next hb)
        obtain ⟨hz1, p0, p1⟩ := X1.out.facts
        clear hb
        go_wp2_with fail
        refine (few_b (b := true) n A m c _ D1.out).mono ?_
        rintro e w2 ⟨rfl, hb⟩
        have X2 := Lib.hid (X1.out.next hb)
        obtain ⟨hz2, p0, p1⟩ := X2.out.facts
        clear hb
        go_wp2_with fail
        refine (ori_no n A m c es _ (by omega) (H0.out.keep X2.out.keeps) (by rw [HE.out]; exact HK.out)).mono ?_
        rintro e w3 ⟨hb, B3, c3, rfl⟩
        have X3 := Lib.hid (X2.out.next hb)
        obtain ⟨hz3, p0, p1⟩ := X3.out.facts
        clear hb
        go_wp2_with fail
        refine (vio_some n A m c es _ (by omega) (H0.out.keep X3.out.keeps) HV.out (by rw [HE.out]; exact HK.out)).mono ?_
        rintro e w4 ⟨hb, B4, c4, l, q, rfl, hr, hq8, hvi⟩
        have X4 := Lib.hid (X3.out.next hb)
        have L4 := Lib.hid hr
        have VI := Lib.hid hvi
        obtain ⟨hz4, p0, p1⟩ := X4.out.facts
        clear hb hr hvi
        go_wp2_with fail
        refine (rvalid_b (b := true) n A m c es _ (by omega) (H0.out.keep X4.out.keeps) HV.out).mono ?_
        rintro e w5 ⟨rfl, hb⟩
        have X5 := Lib.hid (X4.out.next hb)
        have L5 := Lib.hid (L4.out.keep (Keeps.of_below hb (Nat.le_refl _)))
        obtain ⟨hz5, p0, p1⟩ := X5.out.facts
        have n0 := World.new_ne w5 _ p1
        clear hb
        go_wp2_with fail
        go_region_held3 (fun w' => w'.cell? ⟨w.heap.size, 0, none⟩ = some (.int .i64 (n : Int)) ∧ w'.cell? ⟨w.heap.size, 1, none⟩ = some (.slice A m c)) (go_keep)
          ((first
            | (go_at_call 17; refine (RI.out _ (H0.out.keep X5.out.drew.keeps)).mono ?_; rintro e w6 ⟨hb, B6, d6, rfl⟩; have X6 : Hid (BX w n A m c w6) := Lib.hid (X5.out.drew.next hb); have L6 := Lib.hid (L5.out.keep ((Keeps.drew _).trans (Keeps.of_below hb (Nat.le_refl _)))); obtain ⟨hz6, p0, p1⟩ := X6.out.facts; have n0 := World.new_ne w6 _ p1; clear hb)
            | fail))
        all_goals
         go_wp2_with fail
         refine (viol_b (b := true) n A B4 m c q c4 es l _ (by omega) (by omega) (H0.out.keep X6.out.keeps) L6.out VI.out).mono ?_
         rintro e w7 ⟨rfl, hb⟩
         have X7 := Lib.hid (X6.out.next hb)
         clear hb
         go_wp2_with fail
         go_ret
         exact ⟨rfl, X7.out.below⟩
  · have D1 : Hid ((decide (N ≤ 8) && decide ((m : Int) ≤ 20)) = false) := Lib.hid (by simpa using h1)
    clear h1
    go_enter Try.func5, Try.ntmps5
    go_wp2_with fail
    refine (awake_any _).mono ?_
    rintro e w1 ⟨rfl, hb⟩
    have X1 := Lib.hid (X0.out.next hb)
    obtain ⟨hz1, p0, p1⟩ := X1.out.facts
    clear hb
    go_wp2_with fail
    refine (few_b (b := false) N A m c _ D1.out).mono ?_
    rintro e w2 ⟨rfl, hb⟩
    have X2 := Lib.hid (X1.out.next hb)
    clear hb
    go_wp2_with fail
    refine (awake_any _).mono ?_
    rintro e w3 ⟨rfl, hb⟩
    have X3 := Lib.hid (X2.out.next hb)
    clear hb
    go_wp2_with fail
    go_ret
    exact ⟨rfl, X3.out.below⟩
end Go.Proofs.Ytbhkdodokdgijaa
