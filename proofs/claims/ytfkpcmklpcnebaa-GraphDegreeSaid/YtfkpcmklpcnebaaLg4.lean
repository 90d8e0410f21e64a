/-
  GraphDegree: the walk of the statement, and that the sum of the degrees is twice the number of edges.
-/
import Derived.Test.YtfkpcmklpcnebaaLg1
import Derived.Test.YtfkpcmklpcnebaaG9
namespace Go.Proofs.Ytfkpcmklpcnebaa
set_option linter.unusedVariables false
set_option linter.unusedSimpArgs false
open Go.RowKit Go.Sort

theorem pairsB_symm (es : List (Int × Int)) (a b : Int) : pairsB es b a = pairsB es a b := by
  unfold pairsB
  rw [Bool.eq_iff_iff]
  simp only [List.any_eq_true, Bool.or_eq_true, Bool.and_eq_true, beq_iff_eq, decide_eq_true_eq]
  constructor
  · rintro ⟨e, h, h1⟩; exact ⟨e, h, h1.symm⟩
  · rintro ⟨e, h, h1⟩; exact ⟨e, h, h1.symm⟩
theorem hasE_symm (N : Int) (es : List (Int × Int)) (a b : Int) : hasE N es b a = hasE N es a b := by unfold hasE; rw [pairsB_symm]

def dC (es : List (Int × Int)) (a : Int) : Int := (es.countP fun e => e.1 == a || e.2 == a : Nat)
theorem degE_eq {N : Int} {es : List (Int × Int)} (hv : validB N es = true) (a : Int) : degE N es a = dC es a := by
  unfold degE degK dC; rw [if_pos hv, List.take_length]
theorem dC_cons (e : Int × Int) (es : List (Int × Int)) (a : Int) : dC (e :: es) a = dC es a + if (e.1 == a || e.2 == a) = true then 1 else 0 := by
  unfold dC; rw [List.countP_cons]; split <;> simp
theorem dC_bd (es : List (Int × Int)) (a : Int) : 0 ≤ dC es a ∧ dC es a ≤ es.length := by
  unfold dC
  have h1 := List.countP_le_length (p := fun e : Int × Int => e.1 == a || e.2 == a) (l := es)
  omega
/-- The degrees' sum below k. -/
def dS (es : List (Int × Int)) : Nat → Int
  | 0 => 0
  | k + 1 => dS es k + dC es k
theorem dS_nil : ∀ k, dS [] k = 0
  | 0 => rfl
  | k + 1 => by rw [dS, dS_nil k]; rfl
theorem dS_cons {e : Int × Int} (es : List (Int × Int)) (h0 : 0 ≤ e.1) (h1 : e.1 < e.2) : ∀ k : Nat, dS (e :: es) k = dS es k + (if e.1 < k then 1 else 0) + (if e.2 < k then 1 else 0)
  | 0 => by
    rw [if_neg (by simp; omega), if_neg (by simp; omega)]; rfl
  | k + 1 => by
    rw [dS, dS, dS_cons es h0 h1 k, dC_cons]
    have e1 : (e.1 == (k : Int)) = decide (e.1 = k) := rfl
    have e2 : (e.2 == (k : Int)) = decide (e.2 = k) := rfl
    simp only [Bool.or_eq_true, beq_iff_eq]
    push_cast
    split <;> split <;> split <;> split <;> split <;> omega
theorem dS_sum {n : Nat} : ∀ (es : List (Int × Int)), (∀ e ∈ es, 0 ≤ e.1 ∧ e.1 < e.2 ∧ e.2 < (n : Int)) → dS es n = 2 * (es.length : Int)
  | [], _ => by rw [dS_nil]; rfl
  | e :: es, h => by
    obtain ⟨h0, h1, h2⟩ := h e (by simp)
    rw [dS_cons es h0 h1, dS_sum es (fun x hx => h x (by simp [hx])), if_pos (by omega), if_pos h2, List.length_cons]
    push_cast; omega
theorem dS_bd {es : List (Int × Int)} (hl : es.length ≤ 100) : ∀ k : Nat, 0 ≤ dS es k ∧ dS es k ≤ 100 * (k : Int)
  | 0 => by simp [dS]
  | k + 1 => by
    have h1 := dS_bd hl k
    have h2 := dC_bd es k
    rw [dS]; push_cast; omega

set_option maxHeartbeats 8000000 in
theorem law_gdegree (HA : AwContract) (N : Int) (A : Option Addr) (m c : Nat) (es : List (Int × Int)) (a b : Int) (w : World) (hm : m ≤ maxLen) (he : Rd w 2 A m (prs es)) :
    Calls Try.prog 7 #[.agg #[.int .i64 N, .slice A m c], .int .i64 a, .int .i64 b] w fun e w' => e = .returned (.bool true) ∧ Below w.heap.size w w' := by
  have H0 := Lib.hid he
  have HE := Lib.hid he.prs_len
  have HAW := Lib.hid HA
  have X0 : Hid (BX w N A m c (w.alloc (.cells #[.int .i64 N, .slice A m c] 24))) := Lib.hid BX.start
  clear he HA
  by_cases h1 : (m : Int) ≤ 100
  · have D1 : Hid (decide ((m : Int) ≤ 100) = true) := by unfold Hid; simpa using h1
    go_enter Try.func7, Try.ntmps7
    go_wp2_with fail
    refine (HAW.out _).mono ?_
    rintro e w1 ⟨rfl, hb⟩
    have X1 := Lib.hid (X0.out.next hb)
    obtain ⟨hz1, p0, p1⟩ := X1.out.facts
    clear hb
    go_wp2_with fail
    refine (small_b (b := true) N A m c _ D1.out).mono ?_
    rintro e w2 ⟨rfl, hb⟩
    have X2 := Lib.hid (X1.out.next hb)
    obtain ⟨hz2, p0, p1⟩ := X2.out.facts
    clear hb
    have k0 := grown_cell p0
    have k1 := grown_cell p1
    have c1 := call_q (w := w2) (fun w' hk => ghas_any N A m c es a b w' (by omega) ((H0.out.keep X2.out.keeps).keep hk))
    have c2 := call_q (w := w2) (fun w' hk => rhas_any N A m c es a b w' (by omega) ((H0.out.keep X2.out.keeps).keep hk))
    have c3 := call_q (w := w2) (fun w' hk => ghas_any N A m c es b a w' (by omega) ((H0.out.keep X2.out.keeps).keep hk))
    have c4 := call_q (w := w2) (fun w' hk => gdeg_any N A m c es a w' (by omega) ((H0.out.keep X2.out.keeps).keep hk))
    have c5 := call_q (w := w2) (fun w' hk => rdeg_any N A m c es a w' (by omega) ((H0.out.keep X2.out.keeps).keep hk))
    simp only [hasE_symm N es a b] at c3
    generalize hasE N es a b = v at c1 c2 c3
    generalize degE N es a = dg at c4 c5
    have hvv : (v != v) = false := by simp
    have hdd : (dg != dg) = false := by simp
    cases v
    all_goals
     go_wp2
     refine wp_region_q (by kernel_rfl) (by kernel_rfl) ?_
     repeat (go_big_quiet_step (first | with_reducible exact c1 _ _ | with_reducible exact c2 _ _ | with_reducible exact c3 _ _ | with_reducible exact c4 _ _ | with_reducible exact c5 _ _))
     refine wpQuiet_nil ?_
     intro wq hgq
     have X3 := Lib.hid (X2.out.next hgq)
     obtain ⟨hz3, p0, p1⟩ := X3.out.facts
     clear hgq k0 k1 c1 c2 c3 c4 c5
     go_wp2_with fail
     cases hv : validB N es
     · refine (rvalid_b (b := false) N A m c es _ (by omega) (H0.out.keep X3.out.keeps) hv).mono ?_
       rintro e w4 ⟨rfl, hb⟩
       have X4 := Lib.hid (X3.out.next hb)
       go_wp2
       go_ret
       exact ⟨rfl, X4.out.below⟩
     · have HV := Lib.hid hv
       refine (rvalid_b (b := true) N A m c es _ (by omega) (H0.out.keep X3.out.keeps) hv).mono ?_
       rintro e w4 ⟨rfl, hb⟩
       have X4 := Lib.hid (X3.out.next hb)
       obtain ⟨hz4, p0, p1⟩ := X4.out.facts
       clear hb hv
       obtain ⟨hN0, hN1, -⟩ := (validB_iff N es).1 HV.out
       obtain ⟨n, rfl⟩ : ∃ n : Nat, N = n := ⟨N.toNat, by omega⟩
       have SUM : Hid (dS es n = 2 * (m : Int)) := Lib.hid (by rw [dS_sum es (ends_of HV.out), HE.out])
       have SB := Lib.hid (dS_bd (es := es) (by rw [HE.out]; omega))
       have DB := Lib.hid (dC_bd es)
       go_wp2
       go_loopw [7, 8, 51] (fun t _ i wr => BX w n A m c wr ∧ ∃ k : Nat, k ≤ n ∧ i = .int .i64 k ∧ t = .int .i64 (dS es k)) (fun _ _ i _ => n - (intOf i).toNat)
       case atStart => exact ⟨X4.out, 0, Nat.zero_le _, rfl, rfl⟩
       case round =>
         obtain ⟨hx, k, hk, rfl, rfl⟩ := hrel
         have XR := Lib.hid hx
         obtain ⟨hzr, p0, p1⟩ := hx.facts
         clear hx
         have hs := SB.out k
         by_cases hlt : k < n
         · have hd := DB.out k
           rw [HE.out] at hd
           have est : dS es (k + 1) = dS es k + dC es k := rfl
           have EST := Lib.hid est
           clear est
           go_wp2_with fail
           refine (gdeg_any n A m c es k _ (by omega) (H0.out.keep XR.out.keeps)).mono ?_
           rintro e w5 ⟨he5, hb⟩
           rw [degE_eq HV.out] at he5
           subst he5
           have X5 := Lib.hid (XR.out.next hb)
           obtain ⟨hz5, p0, p1⟩ := X5.out.facts
           clear hb
           generalize dC es k = dk at hd EST
           generalize dS es k = sk at hs EST
           go_wp2
           go_roundw
           case rel => exact ⟨X5.out, k + 1, by omega, by go_num, by rw [EST.out]⟩
           case measure => simp [intOf]; omega
         · obtain rfl : k = n := by omega
           have hsum := SUM.out
           generalize dS es k = sk at hs hsum
           subst hsum
           have hee : (2 * (m : Int) == 2 * (m : Int)) = true := by simp
           go_wp2
           go_ret
           exact ⟨ret_bool (by simp), XR.out.below⟩
  · have D1 : Hid (decide ((m : Int) ≤ 100) = false) := by unfold Hid; simpa using h1
    go_enter Try.func7, Try.ntmps7
    go_wp2_with fail
    refine (HAW.out _).mono ?_
    rintro e w1 ⟨rfl, hb⟩
    have X1 := Lib.hid (X0.out.next hb)
    obtain ⟨hz1, p0, p1⟩ := X1.out.facts
    clear hb
    go_wp2_with fail
    refine (small_b (b := false) N A m c _ D1.out).mono ?_
    rintro e w2 ⟨rfl, hb⟩
    have X2 := Lib.hid (X1.out.next hb)
    clear hb
    go_wp2_with fail
    refine (HAW.out _).mono ?_
    rintro e w3 ⟨rfl, hb⟩
    go_wp2
    go_ret
    exact ⟨rfl, (X2.out.next hb).below⟩
end Go.Proofs.Ytfkpcmklpcnebaa
