/-
  SparsityLaman: for every graph and every lists, the call returns true and the arguments read as they did. No condition.
-/
import Derived.Test.YtohmafmdpajmlaaLawBase
namespace Go.Proofs.Ytohmafmdpajmlaa
set_option linter.unusedVariables false
set_option linter.unusedSimpArgs false
open Go.ChangeShapes Go.WideShapes Go.ChangeAt Go.RowKit Go.Sort

set_option maxHeartbeats 2000000 in
theorem law_laman (N : Int) (A L : Option Addr) (m cm n cl : Nat) (es : List (Int × Int)) (ls : List (List Int)) (w : World) (hm : m ≤ maxLen) (hn : n ≤ maxLen) (he : Rd w 2 A m (prs es)) (hl : RdL w L n ls) :
    Calls Try.prog 7 #[.agg #[.int .i64 N, .slice A m cm], .slice L n cl] w fun e w' => e = .returned (.bool true) ∧ Below w.heap.size w w' := by
  unfold maxLen at hm hn
  have HE := Lib.hid he.prs_len
  have HL := Lib.hid hl.1
  have H1 := Lib.hid he
  have H2 := Lib.hid hl
  clear he hl
  by_cases h1 : (m : Int) ≤ 100
  · by_cases h2 : shortB ls = true
    · have hs := shortB_lens h2
      have HSB := Lib.hid h2
      have HS := Lib.hid hs
      clear h2 hs
      have hK : ∀ w', Below (w.heap.size + 1) (w.alloc (.cells #[.int .i64 N, .slice A m cm] 24)) w' → Keeps w w' := fun w' h => (Keeps.alloc w _).trans (Keeps.of_below h (by simp))
      have hF : ∀ w', Below (w.heap.size + 1) (w.alloc (.cells #[.int .i64 N, .slice A m cm] 24)) w' → Below w.heap.size w w' := fun w' h => ((Below.refl _ _).alloc (Nat.le_refl _) _).trans (h.mono (by omega))
      have HK := Lib.hid hK
      have HF := Lib.hid hF
      clear hK hF
      go_enter Try.func7, Try.ntmps7
      go_wp2_with fail
      refine (awake_any _).mono ?_
      rintro e w1 ⟨rfl, hb⟩
      have B1 : Hid (Below (w.heap.size + 1) (w.alloc (.cells #[.int .i64 N, .slice A m cm] 24)) w1) := nextB (Below.refl _ _) (by simp) hb
      clear hb
      have g0 : w1.cell? ⟨w.heap.size, 0, none⟩ = some (.int .i64 N) := by rw [B1.out.cell (by simp)]; simp
      have g1 : w1.cell? ⟨w.heap.size, 1, none⟩ = some (.slice A m cm) := by rw [B1.out.cell (by simp)]; simp
      go_wp2_with fail
      refine (small_b (b := true) N A m cm _ (by simp; omega)).mono ?_
      rintro e w2 ⟨rfl, hb⟩
      have B2 : Hid (Below (w.heap.size + 1) (w.alloc (.cells #[.int .i64 N, .slice A m cm] 24)) w2) := nextB B1.out (by simp) hb
      clear hb
      have g0 : w2.cell? ⟨w.heap.size, 0, none⟩ = some (.int .i64 N) := by rw [B2.out.cell (by simp)]; simp
      have g1 : w2.cell? ⟨w.heap.size, 1, none⟩ = some (.slice A m cm) := by rw [B2.out.cell (by simp)]; simp
      go_wp2_with fail
      refine (short_b (b := true) L n cl ls _ (by omega) (H2.out.keep (HK.out _ B2.out)) HSB.out).mono ?_
      rintro e w3 ⟨rfl, rfl⟩
      have k0 := grown_cell g0
      have k1 := grown_cell g1
      have hsh : ∀ j, j < n → (ls.getD j []).length ≤ 4611686018427387904 := fun j hj => Nat.le_trans (HS.out.2 j (by have := HL.out; omega)) (by omega)
      have HSH := Lib.hid hsh
      have hn100 : n ≤ 100 := by have := HS.out.1; have := HL.out; omega
      clear hsh
      have cS := call_q (w := w2) (fun w' hk => laman_any N A L m cm n cl es ls w' (by omega) (by omega) HSH.out (H1.out.keep ((HK.out _ B2.out).trans hk)) (H2.out.keep ((HK.out _ B2.out).trans hk)))
      have cV := call_q (w := w2) (fun w' hk => valid_any N A m cm es w' (by omega) (H1.out.keep ((HK.out _ B2.out).trans hk)))
      by_cases hv : validB N es = false
      · have hz : lamanB N es ls = false := by unfold lamanB; rw [sparseB_invalid hv]; simp
        rw [hz] at cS
        rw [hv] at cV
        clear hz hv
        go_wp2
        refine wp_region_q (by kernel_rfl) (by kernel_rfl) ?_
        repeat (go_big_quiet_step (first | with_reducible exact cS _ _ | with_reducible exact cV _ _))
        refine wpQuiet_nil ?_
        intro wq hgq
        go_wp2
        go_ret
        exact ⟨rfl, HF.out _ (nextB B2.out (by simp) hgq)⟩
      have hv' : validB N es = true := by simpa using hv
      obtain ⟨M, rfl⟩ : ∃ M : Nat, N = M := ⟨N.toNat, by have := ((validB_iff N es).1 hv').1; omega⟩
      have hM := ((validB_iff (M : Int) es).1 hv').2.1
      have HV := Lib.hid hv'
      rw [hv'] at cV
      clear hv hv'
      unfold lamanB at cS
      rw [HE.out] at cS
      by_cases h2 : (2 : Int) ≤ M
      · have h2b : decide ((2 : Int) ≤ M) = true := by simpa using h2
        rw [h2b] at cS
        by_cases h3 : (m : Int) = 2 * (M : Int) - 3
        · have h3b : decide ((m : Int) = 2 * (M : Int) - 3) = true := by simpa using h3
          have h3c : ((m : Int) == 2 * (M : Int) - 3) = true := by simpa using h3
          rw [h3b] at cS
          clear h3
          have cR := call_q (w := w2) (fun w' hk => rights_any M A L m cm n cl es ls w' (by omega) (by omega) HSH.out (H1.out.keep ((HK.out _ B2.out).trans hk)) (H2.out.keep ((HK.out _ B2.out).trans hk)) HV.out)
          generalize sparseB (M : Int) es ls = z at cS cR
          go_wp2
          refine wp_region_q (by kernel_rfl) (by kernel_rfl) ?_
          repeat (go_big_quiet_step (first | with_reducible exact cS _ _ | with_reducible exact cV _ _ | with_reducible exact cR _ _))
          refine wpQuiet_nil ?_
          intro wq hgq
          go_wp2
          go_ret
          exact ⟨rfl, HF.out _ (nextB B2.out (by simp) hgq)⟩
        · have h3b : decide ((m : Int) = 2 * (M : Int) - 3) = false := by simpa using h3
          have h3c : ((m : Int) == 2 * (M : Int) - 3) = false := by simpa using h3
          rw [h3b] at cS
          clear h3
          go_wp2
          refine wp_region_q (by kernel_rfl) (by kernel_rfl) ?_
          repeat (go_big_quiet_step (first | with_reducible exact cS _ _ | with_reducible exact cV _ _))
          refine wpQuiet_nil ?_
          intro wq hgq
          go_wp2
          go_ret
          exact ⟨rfl, HF.out _ (nextB B2.out (by simp) hgq)⟩
      · have h2b : decide ((2 : Int) ≤ M) = false := by simpa using h2
        have h2c : decide (2 ≤ M) = false := by simp; omega
        rw [h2b] at cS
        go_wp2
        refine wp_region_q (by kernel_rfl) (by kernel_rfl) ?_
        repeat (go_big_quiet_step (first | with_reducible exact cS _ _ | with_reducible exact cV _ _))
        refine wpQuiet_nil ?_
        intro wq hgq
        go_wp2
        go_ret
        exact ⟨rfl, HF.out _ (nextB B2.out (by simp) hgq)⟩
    · have HSB : Hid (shortB ls = false) := Lib.hid (by simpa using h2)
      clear h2
      have hK : ∀ w', Below (w.heap.size + 1) (w.alloc (.cells #[.int .i64 N, .slice A m cm] 24)) w' → Keeps w w' := fun w' h => (Keeps.alloc w _).trans (Keeps.of_below h (by simp))
      have hF : ∀ w', Below (w.heap.size + 1) (w.alloc (.cells #[.int .i64 N, .slice A m cm] 24)) w' → Below w.heap.size w w' := fun w' h => ((Below.refl _ _).alloc (Nat.le_refl _) _).trans (h.mono (by omega))
      have HK := Lib.hid hK
      have HF := Lib.hid hF
      clear hK hF
      go_enter Try.func7, Try.ntmps7
      go_wp2_with fail
      refine (awake_any _).mono ?_
      rintro e w1 ⟨rfl, hb⟩
      have B1 : Hid (Below (w.heap.size + 1) (w.alloc (.cells #[.int .i64 N, .slice A m cm] 24)) w1) := nextB (Below.refl _ _) (by simp) hb
      clear hb
      have g0 : w1.cell? ⟨w.heap.size, 0, none⟩ = some (.int .i64 N) := by rw [B1.out.cell (by simp)]; simp
      have g1 : w1.cell? ⟨w.heap.size, 1, none⟩ = some (.slice A m cm) := by rw [B1.out.cell (by simp)]; simp
      go_wp2_with fail
      refine (small_b (b := true) N A m cm _ (by simp; omega)).mono ?_
      rintro e w2 ⟨rfl, hb⟩
      have B2 : Hid (Below (w.heap.size + 1) (w.alloc (.cells #[.int .i64 N, .slice A m cm] 24)) w2) := nextB B1.out (by simp) hb
      clear hb
      have g0 : w2.cell? ⟨w.heap.size, 0, none⟩ = some (.int .i64 N) := by rw [B2.out.cell (by simp)]; simp
      have g1 : w2.cell? ⟨w.heap.size, 1, none⟩ = some (.slice A m cm) := by rw [B2.out.cell (by simp)]; simp
      go_wp2_with fail
      refine (short_b (b := false) L n cl ls _ (by omega) (H2.out.keep (HK.out _ B2.out)) HSB.out).mono ?_
      rintro e w3 ⟨rfl, rfl⟩
      go_wp2_with fail
      refine (awake_any _).mono ?_
      rintro e w4 ⟨rfl, hb⟩
      have B4 : Hid (Below (w.heap.size + 1) (w.alloc (.cells #[.int .i64 N, .slice A m cm] 24)) w4) := nextB B2.out (by simp) hb
      clear hb
      go_wp2
      go_ret
      exact ⟨rfl, HF.out _ B4.out⟩
  · have hK : ∀ w', Below (w.heap.size + 1) (w.alloc (.cells #[.int .i64 N, .slice A m cm] 24)) w' → Keeps w w' := fun w' h => (Keeps.alloc w _).trans (Keeps.of_below h (by simp))
    have hF : ∀ w', Below (w.heap.size + 1) (w.alloc (.cells #[.int .i64 N, .slice A m cm] 24)) w' → Below w.heap.size w w' := fun w' h => ((Below.refl _ _).alloc (Nat.le_refl _) _).trans (h.mono (by omega))
    have HK := Lib.hid hK
    have HF := Lib.hid hF
    clear hK hF
    go_enter Try.func7, Try.ntmps7
    go_wp2_with fail
    refine (awake_any _).mono ?_
    rintro e w1 ⟨rfl, hb⟩
    have B1 : Hid (Below (w.heap.size + 1) (w.alloc (.cells #[.int .i64 N, .slice A m cm] 24)) w1) := nextB (Below.refl _ _) (by simp) hb
    clear hb
    have g0 : w1.cell? ⟨w.heap.size, 0, none⟩ = some (.int .i64 N) := by rw [B1.out.cell (by simp)]; simp
    have g1 : w1.cell? ⟨w.heap.size, 1, none⟩ = some (.slice A m cm) := by rw [B1.out.cell (by simp)]; simp
    go_wp2_with fail
    refine (small_b (b := false) N A m cm _ (by simp; omega)).mono ?_
    rintro e w2 ⟨rfl, hb⟩
    have B2 : Hid (Below (w.heap.size + 1) (w.alloc (.cells #[.int .i64 N, .slice A m cm] 24)) w2) := nextB B1.out (by simp) hb
    clear hb
    have g0 : w2.cell? ⟨w.heap.size, 0, none⟩ = some (.int .i64 N) := by rw [B2.out.cell (by simp)]; simp
    have g1 : w2.cell? ⟨w.heap.size, 1, none⟩ = some (.slice A m cm) := by rw [B2.out.cell (by simp)]; simp
    go_wp2_with fail
    refine (awake_any _).mono ?_
    rintro e w3 ⟨rfl, hb⟩
    have B3 : Hid (Below (w.heap.size + 1) (w.alloc (.cells #[.int .i64 N, .slice A m cm] 24)) w3) := nextB B2.out (by simp) hb
    clear hb
    go_wp2
    go_ret
    exact ⟨rfl, HF.out _ B3.out⟩

set_option maxRecDepth 100000 in
theorem sparsityLaman_lifted (os : Os) (started : os.Started) (H : Type) (enc : TypeId × Value → H) :
    ReturnsInHanded {} Try.checked os 7 .any (Rows.sparsityLamanSpec.pre6 enc Try.prog Try.f7 Rows.sparsityLamanRow.domain false) (Rows.sparsityLamanSpec.post enc Try.prog Try.f7 false true false false) := by
  refine returnsInHanded_of_change (C := Try.checked) Tp.own started (by kernel_rfl) Try.func7
    (ChangeSpec.witness6 (enc := enc) (C := Try.checked) false ⟨#[], #[.agg #[.int .i64 0, .slice none 0 0], .slice none 0 0], []⟩ 8 (by kernel_rfl) (by kernel_rfl) (by kernel_rfl) (by kernel_rfl)) ?_
  intro W base args ds gs before hval0 hW hcnd _
  have hval : ∀ (j : Nat) t v, Try.f7.params[j]? = some t → args[j]? = some v → Value.okWide Try.prog W .any base t v := hval0
  have hW' := hW
  obtain ⟨p, q, hA0, hV, rfl, hfz, hnd⟩ := hW
  have hA : DataW.TrodAll enc Try.prog W 0 (fun _ => true) true Try.f7.params.toList args.toList ds p := hA0
  rw [Try.params7] at hA hval
  obtain ⟨v0, vs0, d0, ds0, p0, q0, hargs, rfl, rfl, h0, r0⟩ := trodAll_cons hA
  obtain ⟨v1, vs1, d1, ds1, p1, q1, rfl, rfl, rfl, h1, r1⟩ := trodAll_cons r0
  obtain ⟨rfl, rfl, rfl⟩ := trodAll_nil r1
  obtain rfl : args = #[v0, v1] := by cases args; simp_all
  obtain ⟨rfl, rfl⟩ := trodVars_none hV
  have lt0 : ∀ x ∈ p0, x.block < W.heap.size := by obtain ⟨m, hm⟩ := h0; exact DataW.trod_lt m _ _ _ hm
  obtain ⟨N0, A0, m0, c0, es0, rfl, wN0, hm0, he0, wE0⟩ := open_graph (hval 0 24 v0 rfl rfl) h0
  have lt1 : ∀ x ∈ p1, x.block < W.heap.size := by obtain ⟨m, hm⟩ := h1; exact DataW.trod_lt m _ _ _ hm
  obtain ⟨A1, m1, c1, l1, rfl, hm1, he1, wE1⟩ := open_intll (hval 1 25 v1 rfl rfl) h1
  clear hA0 hval0
  refine (law_laman N0 A0 A1 m0 c0 m1 c1 es0 l1 W hm0 hm1 he0 he1).mono fun e W' ⟨he, bel⟩ => ?_
  subst he
  exact ⟨_, rfl, _, _, _, [], _, [], hW', trodAll_mk1 (shut_bool Try.underlying4 _), (trodAll_cons_mk (Below.trod Tp.laidOut (by kernel_rfl) (of_decide_eq_true (by kernel_rfl)) h0 bel lt0) (trodAll_cons_mk (Below.trod Tp.laidOut (by kernel_rfl) (of_decide_eq_true (by kernel_rfl)) h1 bel lt1) trodAll_mk0)), rfl, bel.frame _, fun h => by cases h⟩

theorem sparsityLaman_holds : Rows.SparsityLamanSaid :=
  OpenClaim.holds_of_wide 7 Try.f7 rfl rfl rfl rfl rfl rfl rfl ⟨rfl, rfl, rfl, rfl, rfl⟩ rfl rfl rfl rfl rfl (by kernel_rfl) Try.func7 (by kernel_rfl)
    (of_decide_eq_true (by kernel_rfl)) (by unfold Func.isWrapper; first | (rw [if_pos (by decide +kernel)]; kernel_rfl) | (rw [if_neg (by decide +kernel)]; exact ⟨rfl, rfl⟩))
    (fun os started H enc _ => sparsityLaman_lifted os started H enc)
end Go.Proofs.Ytohmafmdpajmlaa
