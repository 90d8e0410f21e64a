/-
  GraphRemove: the walk of the statement, and that the graph without a point is valid.
-/
import Derived.Test.YtfkpcmklpcnebaaLg1
import Derived.Test.YtfkpcmklpcnebaaG12
namespace Go.Proofs.Ytfkpcmklpcnebaa
set_option linter.unusedVariables false
set_option linter.unusedSimpArgs false
open Go.RowKit Go.Sort

theorem valid_of_strict {N : Int} {es : List (Int × Int)} (h0 : 0 ≤ N) (h1 : N ≤ 60) (he : ∀ e ∈ es, 0 ≤ e.1 ∧ e.1 < e.2 ∧ e.2 < N) (hs : es.Pairwise lt2) : validB N es = true := by
  refine validB_yes N _ h0 h1 (fun k hk => ?_)
  have hm := he _ (PAt_mem hk)
  unfold okAt
  change (decide (0 ≤ (PAt es k).1) && decide ((PAt es k).1 < (PAt es k).2) && decide ((PAt es k).2 < N) && (decide (k = 0) || befB (PAt es (k - 1)).1 (PAt es (k - 1)).2 (PAt es k).1 (PAt es k).2)) = true
  rw [decide_eq_true hm.1, decide_eq_true hm.2.1, decide_eq_true hm.2.2]
  by_cases h0 : k = 0
  · simp [h0]
  · rw [decide_eq_false h0]
    have hs := List.pairwise_iff_getElem.1 hs (k - 1) k (by omega) hk (by omega)
    have e1 : PAt es (k - 1) = es[k - 1]'(by omega) := by unfold PAt; rw [List.getD_eq_getElem?_getD, List.getElem?_eq_getElem (by omega)]; rfl
    have e2 : PAt es k = es[k] := by unfold PAt; rw [List.getD_eq_getElem?_getD, List.getElem?_eq_getElem hk]; rfl
    rw [e1, e2, befB_iff.2 hs]; rfl
theorem remL_valid {N : Int} {es : List (Int × Int)} {a : Int} (hv : validB N es = true) (ha : hasB N a = true) : validB (N - 1) (remL es a) = true := by
  have hab : 0 ≤ a ∧ a < N := by
    unfold hasB at ha
    simpa using ha
  have hends := ends_of hv
  have hst := valid_strict hv
  have hN := (validB_iff N es).1 hv
  have hf : ∀ e ∈ es.filter (fun e => !(e.1 == a || e.2 == a)), e ∈ es ∧ e.1 ≠ a ∧ e.2 ≠ a := by
    intro e he
    rw [List.mem_filter] at he
    refine ⟨he.1, ?_⟩
    have := he.2
    simp at this
    exact this
  refine valid_of_strict (by omega) (by omega) ?_ ?_
  · intro e he
    unfold remL at he
    obtain ⟨x, hx, rfl⟩ := List.mem_map.1 he
    obtain ⟨h1, h2, h3⟩ := hf x hx
    have := hends x h1
    simp only [lessI]
    split <;> split <;> omega
  · unfold remL
    rw [List.pairwise_map]
    refine List.Pairwise.imp_of_mem ?_ (hst.filter _)
    intro x y hx hy hxy
    obtain ⟨-, h2, h3⟩ := hf x hx
    obtain ⟨-, h4, h5⟩ := hf y hy
    unfold lt2 at hxy ⊢
    simp only [lessI]
    split <;> split <;> split <;> split <;> omega
theorem remE_valid {N : Int} {es : List (Int × Int)} {a : Int} (hv : validB N es = true) : validB (remE N es a).1 (remE N es a).2 = true := by
  unfold remE
  rw [if_pos hv]
  by_cases ha : hasB N a = true
  · rw [if_pos ha]; exact remL_valid hv ha
  · rw [if_neg ha]; exact hv
theorem remE_len (N : Int) (es : List (Int × Int)) (a : Int) : (remE N es a).2.length ≤ es.length := by
  unfold remE
  split
  · split
    · exact remL_len es a
    · exact Nat.le_refl _
  · simp

set_option maxHeartbeats 8000000 in
theorem law_gremove (HA : AwContract) (N : Int) (A : Option Addr) (m c : Nat) (es : List (Int × Int)) (a : Int) (w : World) (hm : m ≤ maxLen) (he : Rd w 2 A m (prs es)) :
    Calls Try.prog 8 #[.agg #[.int .i64 N, .slice A m c], .int .i64 a] w fun e w' => e = .returned (.bool true) ∧ Below w.heap.size w w' := by
  have H0 := Lib.hid he
  have HE := Lib.hid he.prs_len
  have HAW := Lib.hid HA
  have X0 : Hid (BX w N A m c (w.alloc (.cells #[.int .i64 N, .slice A m c] 24))) := Lib.hid BX.start
  clear he HA
  by_cases h1 : (m : Int) ≤ 100
  · have D1 : Hid (decide ((m : Int) ≤ 100) = true) := by unfold Hid; simpa using h1
    have RR : Hid (∀ w, Rd w 2 A m (prs es) → Calls Try.prog 22 #[.agg #[.int .i64 N, .slice A m c], .int .i64 a] w (GPost w (remE N es a))) := Lib.hid fun w h => rrem_any N A m c es a w (by omega) h
    have GR : Hid (∀ w, Rd w 2 A m (prs es) → Calls Try.prog 27 #[.agg #[.int .i64 N, .slice A m c], .int .i64 a] w (GPost w (remE N es a))) := Lib.hid fun w h => grem_any N A m c es a w (by omega) h
    have RL := remE_len N es a
    rw [HE.out] at RL
    have RV : Hid (validB N es = true → validB (remE N es a).1 (remE N es a).2 = true) := Lib.hid remE_valid
    unfold GPost at RR GR
    generalize remE N es a = r at RL RV RR GR
    obtain ⟨M, l⟩ := r
    simp only at RL RV RR GR
    generalize hq : l.length = q at RL RR GR
    have HQ := Lib.hid hq
    clear hq
    go_enter Try.func8, Try.ntmps8
    go_wp2_with fail
    refine (HAW.out _).mono ?_
    rintro e w1 ⟨rfl, hb⟩
    have X1 := Lib.hid (X0.out.next hb)
    obtain ⟨hz1, p0, p1⟩ := X1.out.facts
    clear hb
    go_wp2_with fail
    refine (small_b (b := true) N A m c _ D1.out).mono ?_
    rintro e w2 ⟨rfl, hb⟩
    have X2 := Lib.hid (X1.out.next hb)
    obtain ⟨hz2, p0, p1⟩ := X2.out.facts
    clear hb
    go_wp2_with fail
    refine (GR.out _ (H0.out.keep X2.out.keeps)).mono ?_
    rintro e w3 ⟨hb, B, d, rfl, hr⟩
    have X3 := Lib.hid (X2.out.next hb)
    obtain ⟨hz3, p0, p1⟩ := X3.out.facts
    have R3 := Lib.hid hr
    clear hb hr
    go_wp2
    have X4 : Hid (BX w N A m c (w3.alloc (.cells #[.int .i64 M, .slice B q d] 24))) := Lib.hid (X3.out.next ((Below.refl _ _).alloc (Nat.le_refl _) _))
    have R4 := Lib.hid (R3.out.keep (Keeps.alloc w3 (.cells #[.int .i64 M, .slice B q d] 24)))
    have q0 : (w3.alloc (.cells #[.int .i64 M, .slice B q d] 24)).cell? ⟨w3.heap.size, 0, none⟩ = some (.int .i64 M) := by simp
    have q1 : (w3.alloc (.cells #[.int .i64 M, .slice B q d] 24)).cell? ⟨w3.heap.size, 1, none⟩ = some (.slice B q d) := by simp
    have hq4 : w3.heap.size < (w3.alloc (.cells #[.int .i64 M, .slice B q d] 24)).heap.size := by simp
    generalize w3.alloc (.cells #[.int .i64 M, .slice B q d] 24) = w4 at X4 R4 q0 q1 hq4 ⊢
    obtain ⟨hz4, p0, p1⟩ := X4.out.facts
    cases hv : validB N es
    · have HV := Lib.hid hv
      clear hv
      go_region_law ((first
          | (go_simp; go_at_call 22; (with_reducible refine (RR.out _ (H0.out.keep (by first | exact X4.out.keeps | exact X4.out.keeps.trans (Keeps.drew _)))).mono ?_); rintro e w5 ⟨hb, C, d5, rfl, hr⟩; have hbb : Below w4.heap.size w4 w5 := (by first | exact hb | exact ((Below.refl _ _).drew).trans hb); have X5 := Lib.hid (X4.out.next hbb); obtain ⟨hz5, p0, p1⟩ := X5.out.facts; have q0 := Keeps.of_below hbb (Nat.le_refl _) _ _ q0; have q1 := Keeps.of_below hbb (Nat.le_refl _) _ _ q1; have R5 := Lib.hid hr; have R4 := Lib.hid (R4.out.keep (Keeps.of_below hbb (Nat.le_refl _))); clear hb hr hbb)
          | (go_simp; go_at_call 16; (with_reducible refine (same_b (b := true) M M B C q d q d5 l l _ (by omega) (by omega) R4.out R5.out (by simp)).mono ?_); rintro e w6 ⟨rfl, hb⟩; have X6 := Lib.hid (X5.out.next hb); obtain ⟨hz6, p0, p1⟩ := X6.out.facts; have q0 := Keeps.of_below hb (Nat.le_refl _) _ _ q0; have q1 := Keeps.of_below hb (Nat.le_refl _) _ _ q1; have R4 := Lib.hid (R4.out.keep (Keeps.of_below hb (Nat.le_refl _))); clear hb)
          | (go_simp; go_at_call 13; (with_reducible refine (rvalid_b (b := false) N A m c es _ (by omega) (H0.out.keep X6.out.keeps) HV.out).mono ?_); rintro e w7 ⟨rfl, hb⟩; have X7 := Lib.hid (X6.out.next hb); obtain ⟨hz7, p0, p1⟩ := X7.out.facts; have q0 := Keeps.of_below hb (Nat.le_refl _) _ _ q0; have q1 := Keeps.of_below hb (Nat.le_refl _) _ _ q1; clear hb)
          | fail))
      all_goals
       go_wp2
       go_ret
       exact ⟨rfl, X7.out.below⟩
    · have HV := Lib.hid hv
      have HW := Lib.hid (RV.out hv)
      clear hv
      go_region_held3 (fun w' => w'.cell? ⟨w.heap.size, 0, none⟩ = some (.int .i64 N) ∧ w'.cell? ⟨w.heap.size, 1, none⟩ = some (.slice A m c) ∧ w'.cell? ⟨w3.heap.size, 0, none⟩ = some (.int .i64 M) ∧ w'.cell? ⟨w3.heap.size, 1, none⟩ = some (.slice B q d)) (go_keep)
        ((first
          | (go_at_call 22; refine (RR.out _ (H0.out.keep (X4.out.keeps.trans (Keeps.drew _)))).mono ?_; rintro e w5 ⟨hb, C, d5, rfl, hr⟩; have hbb : Below w4.heap.size w4 w5 := ((Below.refl _ _).drew).trans hb; have X5 := Lib.hid (X4.out.next hbb); obtain ⟨hz5, p0, p1⟩ := X5.out.facts; have q0 := Keeps.of_below hbb (Nat.le_refl _) _ _ q0; have q1 := Keeps.of_below hbb (Nat.le_refl _) _ _ q1; have R5 := Lib.hid hr; have R4 := Lib.hid (R4.out.keep (Keeps.of_below hbb (Nat.le_refl _))); clear hb hr hbb)
          | (go_at_call 16; refine (same_b (b := true) M M B C q d q d5 l l _ (by omega) (by omega) R4.out R5.out (by simp)).mono ?_; rintro e w6 ⟨rfl, hb⟩; have X6 := Lib.hid (X5.out.next hb); obtain ⟨hz6, p0, p1⟩ := X6.out.facts; have q0 := Keeps.of_below hb (Nat.le_refl _) _ _ q0; have q1 := Keeps.of_below hb (Nat.le_refl _) _ _ q1; have R4 := Lib.hid (R4.out.keep (Keeps.of_below hb (Nat.le_refl _))); clear hb)
          | (go_at_call 13; (with_reducible refine (rvalid_b (b := true) M B q d l _ (by omega) R4.out HW.out).mono ?_); rintro e w8 ⟨rfl, hb⟩; have X8 := Lib.hid (X7.out.next hb); obtain ⟨hz8, p0, p1⟩ := X8.out.facts; have q0 := Keeps.of_below hb (Nat.le_refl _) _ _ q0; have q1 := Keeps.of_below hb (Nat.le_refl _) _ _ q1; clear hb)
          | (go_at_call 13; (with_reducible refine (rvalid_b (b := true) N A m c es _ (by omega) (H0.out.keep X6.out.keeps) HV.out).mono ?_); rintro e w7 ⟨rfl, hb⟩; have X7 := Lib.hid (X6.out.next hb); obtain ⟨hz7, p0, p1⟩ := X7.out.facts; have q0 := Keeps.of_below hb (Nat.le_refl _) _ _ q0; have q1 := Keeps.of_below hb (Nat.le_refl _) _ _ q1; have R4 := Lib.hid (R4.out.keep (Keeps.of_below hb (Nat.le_refl _))); clear hb)
          | fail))
      go_wp2
      go_ret
      exact ⟨rfl, X8.out.below⟩
  · have D1 : Hid (decide ((m : Int) ≤ 100) = false) := by unfold Hid; simpa using h1
    go_enter Try.func8, Try.ntmps8
    go_wp2_with fail
    refine (HAW.out _).mono ?_
    rintro e w1 ⟨rfl, hb⟩
    have X1 := Lib.hid (X0.out.next hb)
    obtain ⟨hz1, p0, p1⟩ := X1.out.facts
    clear hb
    go_wp2_with fail
    refine (small_b (b := false) N A m c _ D1.out).mono ?_
    rintro e w2 ⟨rfl, hb⟩
    have X2 := Lib.hid (X1.out.next hb)
    clear hb
    go_wp2_with fail
    refine (HAW.out _).mono ?_
    rintro e w3 ⟨rfl, hb⟩
    go_wp2
    go_ret
    exact ⟨rfl, (X2.out.next hb).below⟩
end Go.Proofs.Ytfkpcmklpcnebaa
