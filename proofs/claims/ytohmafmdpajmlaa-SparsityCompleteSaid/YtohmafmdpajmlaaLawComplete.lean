/-
  SparsityComplete: for every graph in memory: with at most seven points and 100 edges the reference's certificate exists exactly for the sparse graphs, and is accepted.
-/
import Derived.Test.YtohmafmdpajmlaaW15
import Derived.Test.YtohmafmdpajmlaaLawSound
namespace Go.Proofs.Ytohmafmdpajmlaa
set_option linter.unusedVariables false
set_option linter.unusedSimpArgs false
open Go.ChangeShapes Go.WideShapes Go.ChangeAt Go.RowKit Go.Sort

def rlamanB (n : Nat) (es : List (Int × Int)) : Bool := decide ((2 : Int) ≤ n) && decide ((es.length : Int) = 2 * (n : Int) - 3) && sparseAll n es

set_option maxHeartbeats 1000000 in
theorem rlaman_any (n : Nat) (A : Option Addr) (m cm : Nat) (es : List (Int × Int)) (w : World) (hn9 : n ≤ 9) (hm : m ≤ 100) (he : Rd w 2 A m (prs es)) (hv : validB n es = true) :
    Calls Try.prog 21 #[.agg #[.int .i64 n, .slice A m cm]] w fun e w' => e = .returned (.bool (rlamanB n es)) ∧ Below w.heap.size w w' := by
  have HE := Lib.hid he.prs_len
  have H1 : Hid (Rd (w.alloc (.cells #[.int .i64 n, .slice A m cm] 24)) 2 A m (prs es)) := he.keep (Keeps.alloc w _)
  have HV := Lib.hid hv
  clear he hv
  unfold rlamanB
  rw [HE.out]
  by_cases hN : (2 : Int) ≤ n
  · rw [decide_eq_true hN]
    have hNb : (2 : Int) ≤ (n : Int) := hN
    by_cases hl : (m : Int) = 2 * (n : Int) - 3
    · rw [decide_eq_true hl]
      have hlb : ((m : Int) == 2 * (n : Int) - 3) = true := by simpa using hl
      generalize hz : sparseAll n es = z
      have HZ := Lib.hid hz
      clear hz hl
      go_enter Try.func21, Try.ntmps21
      go_wp2_with (go_at_call 17; refine (rsparse_b (b := z) n n rfl A m cm es _ hn9 hm H1.out HV.out HZ.out).mono ?_; rintro e w1 ⟨rfl, hb1⟩)
      go_ret
      exact ⟨rfl, ((Below.refl _ _).alloc (Nat.le_refl _) _).trans (hb1.mono (by simp))⟩
    · rw [decide_eq_false hl]
      have hlb : ((m : Int) == 2 * (n : Int) - 3) = false := by simpa using hl
      clear hl
      go_enter Try.func21, Try.ntmps21
      go_wp2
      go_ret
      exact ⟨rfl, (Below.refl _ _).alloc (Nat.le_refl _) _⟩
  · rw [decide_eq_false hN]
    go_enter Try.func21, Try.ntmps21
    go_wp2
    go_ret
    exact ⟨rfl, (Below.refl _ _).alloc (Nat.le_refl _) _⟩

theorem laman_same {n : Nat} {es : List (Int × Int)} {ls : List (List Int)} (h1 : sparseB n es ls = true) (h2 : sparseAll n es = true) : lamanB n es ls = rlamanB n es := by
  unfold lamanB rlamanB; rw [h1, h2, Bool.and_assoc]

set_option maxRecDepth 100000 in
set_option maxHeartbeats 2000000 in
theorem complete_main (n : Nat) (A : Option Addr) (m cm : Nat) (es : List (Int × Int)) (w : World) (hn : n ≤ 7) (hm : m ≤ 100) (he : Rd w 2 A m (prs es)) (hv : validB n es = true) (hfew : fewB n es = true) :
    Calls Try.prog 5 #[.agg #[.int .i64 n, .slice A m cm]] w fun e w' => e = .returned (.bool true) ∧ Below w.heap.size w w' := by
  have HE := Lib.hid he.prs_len
  have H1 := Lib.hid he
  have HV := Lib.hid hv
  have HFW := Lib.hid hfew
  have hiff := cert_iff (n := n) (es := es) (by omega) hv
  rw [HE.out] at hiff
  clear he hv hfew
  cases hc : certTo n es m with
  | none =>
    rw [hc] at hiff
    have HALL : Hid (sparseAll n es = false) := Lib.hid hiff.symm
    have HC := Lib.hid hc
    clear hc hiff
    have hK : ∀ w', Below (w.heap.size + 1) (w.alloc (.cells #[.int .i64 n, .slice A m cm] 24)) w' → Keeps w w' := fun w' h => (Keeps.alloc w _).trans (Keeps.of_below h (by simp))
    have hF : ∀ w', Below (w.heap.size + 1) (w.alloc (.cells #[.int .i64 n, .slice A m cm] 24)) w' → Below w.heap.size w w' := fun w' h => ((Below.refl _ _).alloc (Nat.le_refl _) _).trans (h.mono (by omega))
    have HK := Lib.hid hK
    have HF := Lib.hid hF
    clear hK hF
    go_enter Try.func5, Try.ntmps5
    go_wp2_with fail
    refine (awake_any _).mono ?_
    rintro e w1 ⟨rfl, hb⟩
    have B1 : Hid (Below (w.heap.size + 1) (w.alloc (.cells #[.int .i64 n, .slice A m cm] 24)) w1) := nextB (Below.refl _ _) (by simp) hb
    clear hb
    have g0 : w1.cell? ⟨w.heap.size, 0, none⟩ = some (.int .i64 n) := by rw [B1.out.cell (by simp)]; simp
    have g1 : w1.cell? ⟨w.heap.size, 1, none⟩ = some (.slice A m cm) := by rw [B1.out.cell (by simp)]; simp
    go_wp2_with fail
    refine (few_b (b := true) n A m cm es _ (by omega) (H1.out.keep (HK.out _ B1.out)) HFW.out).mono ?_
    rintro e w2 ⟨rfl, hb⟩
    have B2 : Hid (Below (w.heap.size + 1) (w.alloc (.cells #[.int .i64 n, .slice A m cm] 24)) w2) := nextB B1.out (by simp) hb
    clear hb
    have g0 : w2.cell? ⟨w.heap.size, 0, none⟩ = some (.int .i64 n) := by rw [B2.out.cell (by simp)]; simp
    have g1 : w2.cell? ⟨w.heap.size, 1, none⟩ = some (.slice A m cm) := by rw [B2.out.cell (by simp)]; simp
    go_wp2_with fail
    refine (cert_any n A m cm es _ (by omega) hm (H1.out.keep (HK.out _ B2.out)) HV.out).mono ?_
    rw [HC.out]
    rintro e w3 ⟨hb, rfl⟩
    have B3 : Hid (Below (w.heap.size + 1) (w.alloc (.cells #[.int .i64 n, .slice A m cm] 24)) w3) := nextB B2.out (by simp) hb
    clear hb
    have g0 : w3.cell? ⟨w.heap.size, 0, none⟩ = some (.int .i64 n) := by rw [B3.out.cell (by simp)]; simp
    have g1 : w3.cell? ⟨w.heap.size, 1, none⟩ = some (.slice A m cm) := by rw [B3.out.cell (by simp)]; simp
    go_wp2_with fail
    refine (rsparse_b (b := false) n n rfl A m cm es _ (by omega) hm (H1.out.keep (HK.out _ B3.out)) HV.out HALL.out).mono ?_
    rintro e w4 ⟨rfl, hb⟩
    have B4 : Hid (Below (w.heap.size + 1) (w.alloc (.cells #[.int .i64 n, .slice A m cm] 24)) w4) := nextB B3.out (by simp) hb
    clear hb
    have g0 : w4.cell? ⟨w.heap.size, 0, none⟩ = some (.int .i64 n) := by rw [B4.out.cell (by simp)]; simp
    have g1 : w4.cell? ⟨w.heap.size, 1, none⟩ = some (.slice A m cm) := by rw [B4.out.cell (by simp)]; simp
    have k0 := grown_cell g0
    have k1 := grown_cell g1
    go_wp2
    refine wp_region_q (by kernel_rfl) (by kernel_rfl) ?_
    repeat (go_big_quiet_step (fail))
    refine wpQuiet_nil ?_
    intro wq hgq
    go_wp2
    go_ret
    exact ⟨rfl, HF.out _ (nextB B4.out (by simp) hgq)⟩
  | some ls =>
    rw [hc] at hiff
    have HALL : Hid (sparseAll n es = true) := Lib.hid hiff.symm
    have hc' : certTo n es es.length = some ls := by rw [HE.out]; exact hc
    have HSP : Hid (sparseB n es ls = true) := Lib.hid (cert_sparse HV.out hc')
    have hr := certTo_right HV.out _ _ (Nat.le_refl _) hc'
    have hl : ls.length = m := by rw [hr.1, HE.out]
    have HSH : Hid (∀ j, j < m → (ls.getD j []).length ≤ 4611686018427387904) := Lib.hid (fun j hj => by
      have := (rightB_iff.1 (hr.2 j (by rw [HE.out]; exact hj))).1
      have := HE.out
      omega)
    have HC := Lib.hid hc
    have HL := Lib.hid hl
    clear hc hc' hiff hr hl
    have hK : ∀ w', Below (w.heap.size + 1) (w.alloc (.cells #[.int .i64 n, .slice A m cm] 24)) w' → Keeps w w' := fun w' h => (Keeps.alloc w _).trans (Keeps.of_below h (by simp))
    have hF : ∀ w', Below (w.heap.size + 1) (w.alloc (.cells #[.int .i64 n, .slice A m cm] 24)) w' → Below w.heap.size w w' := fun w' h => ((Below.refl _ _).alloc (Nat.le_refl _) _).trans (h.mono (by omega))
    have HK := Lib.hid hK
    have HF := Lib.hid hF
    clear hK hF
    go_enter Try.func5, Try.ntmps5
    go_wp2_with fail
    refine (awake_any _).mono ?_
    rintro e w1 ⟨rfl, hb⟩
    have B1 : Hid (Below (w.heap.size + 1) (w.alloc (.cells #[.int .i64 n, .slice A m cm] 24)) w1) := nextB (Below.refl _ _) (by simp) hb
    clear hb
    have g0 : w1.cell? ⟨w.heap.size, 0, none⟩ = some (.int .i64 n) := by rw [B1.out.cell (by simp)]; simp
    have g1 : w1.cell? ⟨w.heap.size, 1, none⟩ = some (.slice A m cm) := by rw [B1.out.cell (by simp)]; simp
    go_wp2_with fail
    refine (few_b (b := true) n A m cm es _ (by omega) (H1.out.keep (HK.out _ B1.out)) HFW.out).mono ?_
    rintro e w2 ⟨rfl, hb⟩
    have B2 : Hid (Below (w.heap.size + 1) (w.alloc (.cells #[.int .i64 n, .slice A m cm] 24)) w2) := nextB B1.out (by simp) hb
    clear hb
    have g0 : w2.cell? ⟨w.heap.size, 0, none⟩ = some (.int .i64 n) := by rw [B2.out.cell (by simp)]; simp
    have g1 : w2.cell? ⟨w.heap.size, 1, none⟩ = some (.slice A m cm) := by rw [B2.out.cell (by simp)]; simp
    go_wp2_with fail
    refine (cert_any n A m cm es _ (by omega) hm (H1.out.keep (HK.out _ B2.out)) HV.out).mono ?_
    rw [HC.out]
    rintro e w3 ⟨hb, L, cl, rfl, hrd⟩
    rw [HL.out] at hrd ⊢
    have H2 := Lib.hid hrd
    have B3 : Hid (Below (w.heap.size + 1) (w.alloc (.cells #[.int .i64 n, .slice A m cm] 24)) w3) := nextB B2.out (by simp) hb
    clear hb hrd
    have g0 : w3.cell? ⟨w.heap.size, 0, none⟩ = some (.int .i64 n) := by rw [B3.out.cell (by simp)]; simp
    have g1 : w3.cell? ⟨w.heap.size, 1, none⟩ = some (.slice A m cm) := by rw [B3.out.cell (by simp)]; simp
    go_wp2_with fail
    refine (rsparse_b (b := true) n n rfl A m cm es _ (by omega) hm (H1.out.keep (HK.out _ B3.out)) HV.out HALL.out).mono ?_
    rintro e w4 ⟨rfl, hb0⟩
    have B4 : Hid (Below (w.heap.size + 1) (w.alloc (.cells #[.int .i64 n, .slice A m cm] 24)) w4) := nextB B3.out (by simp) hb0
    have K34 : Hid (Keeps w3 w4) := Lib.hid (Keeps.of_below hb0 (Nat.le_refl _))
    clear hb0
    have g0 : w4.cell? ⟨w.heap.size, 0, none⟩ = some (.int .i64 n) := by rw [B4.out.cell (by simp)]; simp
    have g1 : w4.cell? ⟨w.heap.size, 1, none⟩ = some (.slice A m cm) := by rw [B4.out.cell (by simp)]; simp
    have k0 := grown_cell g0
    have k1 := grown_cell g1
    have cS := call_q (w := w4) (fun w' hk => sparse_b (b := true) n A L m cm m cl es ls w' (by omega) (by omega) HSH.out (H1.out.keep ((HK.out _ B4.out).trans hk)) (H2.out.keep (K34.out.trans hk)) HSP.out)
    have cL := call_q (w := w4) (fun w' hk => laman_any n A L m cm m cl es ls w' (by omega) (by omega) HSH.out (H1.out.keep ((HK.out _ B4.out).trans hk)) (H2.out.keep (K34.out.trans hk)))
    have cR := call_q (w := w4) (fun w' hk => rlaman_any n A m cm es w' (by omega) hm (H1.out.keep ((HK.out _ B4.out).trans hk)) HV.out)
    rw [laman_same HSP.out HALL.out] at cL
    generalize rlamanB n es = z at cL cR
    go_wp2
    refine wp_region_q (by kernel_rfl) (by kernel_rfl) ?_
    repeat (go_big_quiet_step (first | with_reducible exact cS _ _ | with_reducible exact cL _ _ | with_reducible exact cR _ _))
    refine wpQuiet_nil ?_
    intro wq hgq
    go_wp2
    go_ret
    exact ⟨rfl, HF.out _ (nextB B4.out (by simp) hgq)⟩

set_option maxHeartbeats 2000000 in
theorem law_complete (N : Int) (A : Option Addr) (m cm : Nat) (es : List (Int × Int)) (w : World) (hm : m ≤ maxLen) (he : Rd w 2 A m (prs es)) :
    Calls Try.prog 5 #[.agg #[.int .i64 N, .slice A m cm]] w fun e w' => e = .returned (.bool true) ∧ Below w.heap.size w w' := by
  unfold maxLen at hm
  have HE := Lib.hid he.prs_len
  have H1 := Lib.hid he
  clear he
  by_cases h1 : fewB N es = false
  · have HFW := Lib.hid h1
    clear h1
    have hK : ∀ w', Below (w.heap.size + 1) (w.alloc (.cells #[.int .i64 N, .slice A m cm] 24)) w' → Keeps w w' := fun w' h => (Keeps.alloc w _).trans (Keeps.of_below h (by simp))
    have hF : ∀ w', Below (w.heap.size + 1) (w.alloc (.cells #[.int .i64 N, .slice A m cm] 24)) w' → Below w.heap.size w w' := fun w' h => ((Below.refl _ _).alloc (Nat.le_refl _) _).trans (h.mono (by omega))
    have HK := Lib.hid hK
    have HF := Lib.hid hF
    clear hK hF
    go_enter Try.func5, Try.ntmps5
    go_wp2_with fail
    refine (awake_any _).mono ?_
    rintro e w1 ⟨rfl, hb⟩
    have B1 : Hid (Below (w.heap.size + 1) (w.alloc (.cells #[.int .i64 N, .slice A m cm] 24)) w1) := nextB (Below.refl _ _) (by simp) hb
    clear hb
    have g0 : w1.cell? ⟨w.heap.size, 0, none⟩ = some (.int .i64 N) := by rw [B1.out.cell (by simp)]; simp
    have g1 : w1.cell? ⟨w.heap.size, 1, none⟩ = some (.slice A m cm) := by rw [B1.out.cell (by simp)]; simp
    go_wp2_with fail
    refine (few_b (b := false) N A m cm es _ hm (H1.out.keep (HK.out _ B1.out)) HFW.out).mono ?_
    rintro e w2 ⟨rfl, hb⟩
    have B2 : Hid (Below (w.heap.size + 1) (w.alloc (.cells #[.int .i64 N, .slice A m cm] 24)) w2) := nextB B1.out (by simp) hb
    clear hb
    have g0 : w2.cell? ⟨w.heap.size, 0, none⟩ = some (.int .i64 N) := by rw [B2.out.cell (by simp)]; simp
    have g1 : w2.cell? ⟨w.heap.size, 1, none⟩ = some (.slice A m cm) := by rw [B2.out.cell (by simp)]; simp
    go_wp2_with fail
    refine (awake_any _).mono ?_
    rintro e w3 ⟨rfl, hb⟩
    have B3 : Hid (Below (w.heap.size + 1) (w.alloc (.cells #[.int .i64 N, .slice A m cm] 24)) w3) := nextB B2.out (by simp) hb
    clear hb
    go_wp2
    go_ret
    exact ⟨rfl, HF.out _ B3.out⟩
  have h1' : fewB N es = true := by simpa using h1
  have HFW := Lib.hid h1'
  have hN9 : N ≤ 9 ∧ (es.length : Int) ≤ 100 ∧ validB N es = true := by
    unfold fewB at h1'; simp only [Bool.and_eq_true, decide_eq_true_eq] at h1'; exact h1'
  have hm100 : m ≤ 100 := by have := HE.out; omega
  have HV := Lib.hid hN9.2.2
  clear h1 h1' hN9
  by_cases h7 : (7 : Int) < N
  · skip
    have hK : ∀ w', Below (w.heap.size + 1) (w.alloc (.cells #[.int .i64 N, .slice A m cm] 24)) w' → Keeps w w' := fun w' h => (Keeps.alloc w _).trans (Keeps.of_below h (by simp))
    have hF : ∀ w', Below (w.heap.size + 1) (w.alloc (.cells #[.int .i64 N, .slice A m cm] 24)) w' → Below w.heap.size w w' := fun w' h => ((Below.refl _ _).alloc (Nat.le_refl _) _).trans (h.mono (by omega))
    have HK := Lib.hid hK
    have HF := Lib.hid hF
    clear hK hF
    go_enter Try.func5, Try.ntmps5
    go_wp2_with fail
    refine (awake_any _).mono ?_
    rintro e w1 ⟨rfl, hb⟩
    have B1 : Hid (Below (w.heap.size + 1) (w.alloc (.cells #[.int .i64 N, .slice A m cm] 24)) w1) := nextB (Below.refl _ _) (by simp) hb
    clear hb
    have g0 : w1.cell? ⟨w.heap.size, 0, none⟩ = some (.int .i64 N) := by rw [B1.out.cell (by simp)]; simp
    have g1 : w1.cell? ⟨w.heap.size, 1, none⟩ = some (.slice A m cm) := by rw [B1.out.cell (by simp)]; simp
    go_wp2_with fail
    refine (few_b (b := true) N A m cm es _ hm (H1.out.keep (HK.out _ B1.out)) HFW.out).mono ?_
    rintro e w2 ⟨rfl, hb⟩
    have B2 : Hid (Below (w.heap.size + 1) (w.alloc (.cells #[.int .i64 N, .slice A m cm] 24)) w2) := nextB B1.out (by simp) hb
    clear hb
    have g0 : w2.cell? ⟨w.heap.size, 0, none⟩ = some (.int .i64 N) := by rw [B2.out.cell (by simp)]; simp
    have g1 : w2.cell? ⟨w.heap.size, 1, none⟩ = some (.slice A m cm) := by rw [B2.out.cell (by simp)]; simp
    go_wp2_with fail
    refine (awake_any _).mono ?_
    rintro e w3 ⟨rfl, hb⟩
    have B3 : Hid (Below (w.heap.size + 1) (w.alloc (.cells #[.int .i64 N, .slice A m cm] 24)) w3) := nextB B2.out (by simp) hb
    clear hb
    go_wp2
    go_ret
    exact ⟨rfl, HF.out _ B3.out⟩
  have hN0 := ((validB_iff N es).1 HV.out).1
  obtain ⟨n, rfl⟩ : ∃ n : Nat, N = n := ⟨N.toNat, by omega⟩
  exact complete_main n A m cm es w (by omega) hm100 H1.out HV.out HFW.out

set_option maxRecDepth 100000 in
theorem sparsityComplete_lifted (os : Os) (started : os.Started) (H : Type) (enc : TypeId × Value → H) :
    ReturnsInHanded {} Try.checked os 5 .any (Rows.sparsityCompleteSpec.pre6 enc Try.prog Try.f5 Rows.sparsityCompleteRow.domain false) (Rows.sparsityCompleteSpec.post enc Try.prog Try.f5 false true false false) := by
  refine returnsInHanded_of_change (C := Try.checked) Tp.own started (by kernel_rfl) Try.func5
    (ChangeSpec.witness6 (enc := enc) (C := Try.checked) false ⟨#[], #[.agg #[.int .i64 0, .slice none 0 0]], []⟩ 8 (by kernel_rfl) (by kernel_rfl) (by kernel_rfl) (by kernel_rfl)) ?_
  intro W base args ds gs before hval0 hW hcnd _
  have hval : ∀ (j : Nat) t v, Try.f5.params[j]? = some t → args[j]? = some v → Value.okWide Try.prog W .any base t v := hval0
  have hW' := hW
  obtain ⟨p, q, hA0, hV, rfl, hfz, hnd⟩ := hW
  have hA : DataW.TrodAll enc Try.prog W 0 (fun _ => true) true Try.f5.params.toList args.toList ds p := hA0
  rw [Try.params5] at hA hval
  obtain ⟨v0, vs0, d0, ds0, p0, q0, hargs, rfl, rfl, h0, r0⟩ := trodAll_cons hA
  obtain ⟨rfl, rfl, rfl⟩ := trodAll_nil r0
  obtain rfl : args = #[v0] := by cases args; simp_all
  obtain ⟨rfl, rfl⟩ := trodVars_none hV
  have lt0 : ∀ x ∈ p0, x.block < W.heap.size := by obtain ⟨m, hm⟩ := h0; exact DataW.trod_lt m _ _ _ hm
  obtain ⟨N0, A0, m0, c0, es0, rfl, wN0, hm0, he0, wE0⟩ := open_graph (hval 0 24 v0 rfl rfl) h0
  clear hA0 hval0
  refine (law_complete N0 A0 m0 c0 es0 W hm0 he0).mono fun e W' ⟨he, bel⟩ => ?_
  subst he
  exact ⟨_, rfl, _, _, _, [], _, [], hW', trodAll_mk1 (shut_bool Try.underlying4 _), (trodAll_cons_mk (Below.trod Tp.laidOut (by kernel_rfl) (of_decide_eq_true (by kernel_rfl)) h0 bel lt0) trodAll_mk0), rfl, bel.frame _, fun h => by cases h⟩

theorem sparsityComplete_holds : Rows.SparsityCompleteSaid :=
  OpenClaim.holds_of_wide 5 Try.f5 rfl rfl rfl rfl rfl rfl rfl ⟨rfl, rfl, rfl, rfl, rfl⟩ rfl rfl rfl rfl rfl (by kernel_rfl) Try.func5 (by kernel_rfl)
    (of_decide_eq_true (by kernel_rfl)) (by unfold Func.isWrapper; first | (rw [if_pos (by decide +kernel)]; kernel_rfl) | (rw [if_neg (by decide +kernel)]; exact ⟨rfl, rfl⟩))
    (fun os started H enc _ => sparsityComplete_lifted os started H enc)
end Go.Proofs.Ytohmafmdpajmlaa
