/-
  GraphComponents: the walk of the statement, from the contracts of awake and of Components.
-/
import Derived.Test.YtfkpcmklpcnebaaLg1
import Derived.Test.YtfkpcmklpcnebaaL1
namespace Go.Proofs.Ytfkpcmklpcnebaa
set_option linter.unusedVariables false
set_option linter.unusedSimpArgs false
open Go.RowKit Go.Sort

/-- How many numbers the first k lists hold. -/
def sumK (ls : List (List Int)) : Nat → Nat
  | 0 => 0
  | k + 1 => sumK ls k + (LAt ls k).length
theorem sumK_total (L : List (List Nat)) : ∀ k, k ≤ L.length → sumK (L.map NL) k = total (L.take k)
  | 0, _ => rfl
  | k + 1, h => by
    have e : LAt (L.map NL) k = NL L[k] := by
      unfold LAt
      rw [List.getD_eq_getElem?_getD, List.getElem?_map, List.getElem?_eq_getElem (by omega)]
      rfl
    rw [sumK, sumK_total L k (by omega), List.take_add_one, List.getElem?_eq_getElem (by omega), e, NL_len]
    unfold total
    rw [List.map_append, List.sum_append]
    simp
theorem sumK_le {ls : List (List Int)} (h : ∀ i, (LAt ls i).length ≤ 60) : ∀ k, sumK ls k ≤ 60 * k
  | 0 => Nat.le_refl _
  | k + 1 => by have := sumK_le h k; have := h k; rw [sumK]; omega
theorem LAt_cases (ls : List (List Int)) (i : Nat) : LAt ls i = [] ∨ LAt ls i ∈ ls := by
  unfold LAt
  rw [List.getD_eq_getElem?_getD]
  rcases Nat.lt_or_ge i ls.length with h | h
  · right; rw [List.getElem?_eq_getElem h]; exact List.getElem_mem h
  · left; rw [List.getElem?_eq_none h]; rfl
theorem compE_bd (N : Int) (es : List (Int × Int)) : (compE N es).length ≤ 60 ∧ ∀ i, (LAt (compE N es) i).length ≤ 60 := by
  unfold compE
  by_cases hv : validB N es = true
  · obtain ⟨h0, h1, -⟩ := (validB_iff N es).1 hv
    rw [if_pos hv]
    refine ⟨?_, fun i => ?_⟩
    · rw [List.length_map, compsK_len]
      have := reps_le (marksF N.toNat es) N.toNat
      omega
    · rcases LAt_cases ((compsK (marksF N.toNat es) N.toNat).map NL) i with h | h
      · rw [h]; simp
      · obtain ⟨l, hl, e⟩ := List.mem_map.1 h
        rw [← e, NL_len]
        unfold compsK at hl
        obtain ⟨m, -, rfl⟩ := List.mem_map.1 hl
        have := cls_le (marksF N.toNat es) N.toNat m
        omega
  · rw [if_neg hv]
    refine ⟨by simp, fun i => by simp [LAt]⟩
theorem ends_ok {N : Int} {es : List (Int × Int)} (hv : validB N es = true) : EndsOk N.toNat es := by
  intro e he
  obtain ⟨h1, h2, h3⟩ := ends_of hv e he
  omega
theorem compE_sum {N : Int} {es : List (Int × Int)} (hv : validB N es = true) : ((sumK (compE N es) (compE N es).length : Nat) : Int) = N := by
  obtain ⟨h0, h1, -⟩ := (validB_iff N es).1 hv
  have g := marks_good (ends_ok hv)
  have t := total_comps (f := marksF N.toNat es) (n := N.toNat) (fun j hj => ⟨g.idem hj, g.le j hj⟩) N.toNat (Nat.le_refl _)
  unfold compE
  rw [if_pos hv, List.length_map, sumK_total _ _ (Nat.le_refl _), List.take_length, t]
  omega

set_option maxHeartbeats 4000000 in
theorem law_gcomp (HA : AwContract) (HC : CompContract) (N : Int) (A : Option Addr) (m c : Nat) (es : List (Int × Int)) (w : World) (hm : m ≤ maxLen) (he : Rd w 2 A m (prs es)) :
    Calls Try.prog 5 #[.agg #[.int .i64 N, .slice A m c]] w fun e w' => e = .returned (.bool true) ∧ Below w.heap.size w w' := by
  have H0 := Lib.hid he
  have HAW := Lib.hid HA
  have HCC := Lib.hid HC
  have X0 : Hid (BX w N A m c (w.alloc (.cells #[.int .i64 N, .slice A m c] 24))) := Lib.hid BX.start
  clear he HA HC
  by_cases h1 : (m : Int) ≤ 100
  · have D1 : Hid (decide ((m : Int) ≤ 100) = true) := by unfold Hid; simpa using h1
    obtain ⟨bq, bi⟩ := compE_bd N es
    have SUM : Hid (validB N es = true → ((sumK (compE N es) (compE N es).length : Nat) : Int) = N) := Lib.hid compE_sum
    have RC : Hid (∀ w, Rd w 2 A m (prs es) → Calls Try.prog 19 #[.agg #[.int .i64 N, .slice A m c]] w (ListsPost w (compE N es))) := Lib.hid fun w h => rcomp_any N A m c es w (by omega) h
    have GC : Hid (∀ w, Rd w 2 A m (prs es) → Calls Try.prog 17 #[.agg #[.int .i64 N, .slice A m c]] w (ListsPost w (compE N es))) := Lib.hid fun w h => HCC.out N A m c es w (by omega) h
    unfold ListsPost at RC GC
    generalize compE N es = ls at bq bi SUM RC GC
    generalize hq : ls.length = q at bq SUM RC GC
    have HQ := Lib.hid hq
    have BI := Lib.hid bi
    have BS := Lib.hid (sumK_le bi)
    clear hq bi HCC
    go_enter Try.func5, Try.ntmps5
    go_wp2_with fail
    refine (HAW.out _).mono ?_
    rintro e w1 ⟨rfl, hb⟩
    have X1 := Lib.hid (X0.out.next hb)
    obtain ⟨hz1, p0, p1⟩ := X1.out.facts
    clear hb
    go_wp2_with fail
    refine (small_b (b := true) N A m c _ D1.out).mono ?_
    rintro e w2 ⟨rfl, hb⟩
    have X2 := Lib.hid (X1.out.next hb)
    obtain ⟨hz2, p0, p1⟩ := X2.out.facts
    clear hb
    go_wp2_with fail
    refine (GC.out _ (H0.out.keep X2.out.keeps)).mono ?_
    rintro e w3 ⟨hb, B, d, rfl, ho⟩
    have X3 := Lib.hid (X2.out.next hb)
    obtain ⟨hz3, p0, p1⟩ := X3.out.facts
    have L3 := Lib.hid ho.rd
    clear hb ho
    go_wp2_with fail
    refine (RC.out _ (H0.out.keep X3.out.keeps)).mono ?_
    rintro e w4 ⟨hb, C, d4, rfl, ho⟩
    have X4 := Lib.hid (X3.out.next hb)
    obtain ⟨hz4, p0, p1⟩ := X4.out.facts
    have L4 := Lib.hid (L3.out.keep (Keeps.of_below hb (Nat.le_refl _)))
    have M4 := Lib.hid ho.rd
    clear hb ho
    go_wp2_with fail
    refine (lists_any B C q d q d4 ls ls _ (by omega) (by omega) (fun i => Nat.le_trans (BI.out i) (by omega)) (fun i => Nat.le_trans (BI.out i) (by omega)) L4.out M4.out).mono ?_
    rintro e w5 ⟨he5, hb⟩
    have et : decide (ls = ls) = true := by simp
    rw [et] at he5
    subst he5
    have X5 := Lib.hid (X4.out.next hb)
    obtain ⟨hz5, p0, p1⟩ := X5.out.facts
    have L5 := Lib.hid (L4.out.keep (Keeps.of_below hb (Nat.le_refl _)))
    clear hb et
    go_wp2
    go_loop [4, 6, 24] (fun t _ i => ∃ k : Nat, k ≤ q ∧ i = .int .i64 k ∧ t = .int .i64 (sumK ls k : Nat)) (fun _ _ i => q - (intOf i).toNat)
    case atStart => exact ⟨0, Nat.zero_le _, rfl, rfl⟩
    case round =>
      obtain ⟨k, hk, rfl, rfl⟩ := hrel
      by_cases hlt : k < q
      · obtain ⟨ad, A', c', rfl, c0, -⟩ := L5.out.at hlt
        have hl := BI.out k
        have hs := BS.out k
        have es1 : sumK ls (k + 1) = sumK ls k + (LAt ls k).length := rfl
        change _ = some (Value.slice A' (LAt ls k).length c') at c0
        generalize (LAt ls k).length = y at c0 hl es1
        generalize hx : sumK ls k = x at hs es1
        have HX := Lib.hid hx
        clear hx
        go_wp2
        go_round
        · exact ⟨k + 1, by omega, rfl, by rw [es1]; simp⟩
        · change q - (Int.toNat ((k : Int) + 1)) < q - (Int.toNat (k : Int))
          omega
      · have : k = q := by omega
        subst this
        go_wp2_with fail
        have hsum := SUM.out
        cases hv : validB N es
        · refine (rvalid_b (b := false) N A m c es _ (by omega) (H0.out.keep X5.out.keeps) hv).mono ?_
          rintro e w6 ⟨rfl, hb⟩
          have X6 := Lib.hid (X5.out.next hb)
          go_wp2
          go_ret
          exact ⟨rfl, X6.out.below⟩
        · refine (rvalid_b (b := true) N A m c es _ (by omega) (H0.out.keep X5.out.keeps) hv).mono ?_
          rintro e w6 ⟨rfl, hb⟩
          have X6 := Lib.hid (X5.out.next hb)
          obtain ⟨hz6, p0, p1⟩ := X6.out.facts
          have eN := hsum hv
          have hcmp : ((sumK ls k : Nat) == N : Bool) = true := by simpa using eN
          go_wp2
          go_ret
          exact ⟨ret_bool (by simp [eN]), X6.out.below⟩
  · have D1 : Hid (decide ((m : Int) ≤ 100) = false) := by unfold Hid; simpa using h1
    go_enter Try.func5, Try.ntmps5
    go_wp2_with fail
    refine (HAW.out _).mono ?_
    rintro e w1 ⟨rfl, hb⟩
    have X1 := Lib.hid (X0.out.next hb)
    obtain ⟨hz1, p0, p1⟩ := X1.out.facts
    clear hb
    go_wp2_with fail
    refine (small_b (b := false) N A m c _ D1.out).mono ?_
    rintro e w2 ⟨rfl, hb⟩
    have X2 := Lib.hid (X1.out.next hb)
    clear hb
    go_wp2_with fail
    refine (HAW.out _).mono ?_
    rintro e w3 ⟨rfl, hb⟩
    go_wp2
    go_ret
    exact ⟨rfl, (X2.out.next hb).below⟩
end Go.Proofs.Ytfkpcmklpcnebaa
