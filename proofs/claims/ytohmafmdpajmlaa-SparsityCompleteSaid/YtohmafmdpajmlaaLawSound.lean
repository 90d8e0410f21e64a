/-
  SparsitySound: for every graph, every lists and every points, the call returns true and the arguments read as they did. No condition.
-/
import Derived.Test.YtohmafmdpajmlaaLawBase
import Derived.Test.YtohmafmdpajmlaaW13
namespace Go.Proofs.Ytohmafmdpajmlaa
set_option linter.unusedVariables false
set_option linter.unusedSimpArgs false
open Go.ChangeShapes Go.WideShapes Go.ChangeAt Go.RowKit Go.Sort

theorem few_b {b : Bool} (N : Int) (A : Option Addr) (m c : Nat) (es : List (Int × Int)) (w : World) (hm : m ≤ 9223372036854775807) (he : Rd w 2 A m (prs es)) (hb : fewB N es = b) :
    Calls Try.prog 16 #[.agg #[.int .i64 N, .slice A m c]] w fun e w' => e = .returned (.bool b) ∧ Below w.heap.size w w' := by
  subst hb; exact few_any N A m c es w hm he
theorem rsparse_b {b : Bool} (N : Int) (n : Nat) (hN : N = n) (A : Option Addr) (m cm : Nat) (es : List (Int × Int)) (w : World) (hn9 : n ≤ 9) (hm : m ≤ 100) (he : Rd w 2 A m (prs es)) (hv : validB N es = true) (hb : sparseAll n es = b) :
    Calls Try.prog 17 #[.agg #[.int .i64 N, .slice A m cm]] w fun e w' => e = .returned (.bool b) ∧ Below w.heap.size w w' := by
  subst hb hN; exact rsparse_any n A m cm es w hn9 hm he hv

set_option maxHeartbeats 2000000 in
theorem law_sound (N : Int) (A L Q : Option Addr) (m cm n cl q cq : Nat) (es : List (Int × Int)) (ls : List (List Int)) (ps : List Int) (w : World) (hm : m ≤ maxLen) (hn : n ≤ maxLen) (hq : q ≤ maxLen) (he : Rd w 2 A m (prs es)) (hl : RdL w L n ls) (hp : Rd w 1 Q q (ints ps)) :
    Calls Try.prog 4 #[.agg #[.int .i64 N, .slice A m cm], .slice L n cl, .slice Q q cq] w fun e w' => e = .returned (.bool true) ∧ Below w.heap.size w w' := by
  unfold maxLen at hm hn hq
  have HE := Lib.hid he.prs_len
  have HL := Lib.hid hl.1
  have H1 := Lib.hid he
  have H2 := Lib.hid hl
  have H3 := Lib.hid hp
  clear he hl hp
  by_cases h1 : fewB N es = false
  · have HFW := Lib.hid h1
    clear h1
    have hK : ∀ w', Below (w.heap.size + 1) (w.alloc (.cells #[.int .i64 N, .slice A m cm] 24)) w' → Keeps w w' := fun w' h => (Keeps.alloc w _).trans (Keeps.of_below h (by simp))
    have hF : ∀ w', Below (w.heap.size + 1) (w.alloc (.cells #[.int .i64 N, .slice A m cm] 24)) w' → Below w.heap.size w w' := fun w' h => ((Below.refl _ _).alloc (Nat.le_refl _) _).trans (h.mono (by omega))
    have HK := Lib.hid hK
    have HF := Lib.hid hF
    clear hK hF
    go_enter Try.func4, Try.ntmps4
    go_wp2_with fail
    refine (awake_any _).mono ?_
    rintro e w1 ⟨rfl, hb⟩
    have B1 : Hid (Below (w.heap.size + 1) (w.alloc (.cells #[.int .i64 N, .slice A m cm] 24)) w1) := nextB (Below.refl _ _) (by simp) hb
    clear hb
    have g0 : w1.cell? ⟨w.heap.size, 0, none⟩ = some (.int .i64 N) := by rw [B1.out.cell (by simp)]; simp
    have g1 : w1.cell? ⟨w.heap.size, 1, none⟩ = some (.slice A m cm) := by rw [B1.out.cell (by simp)]; simp
    go_wp2_with fail
    refine (few_b (b := false) N A m cm es _ hm (H1.out.keep (HK.out _ B1.out)) HFW.out).mono ?_
    rintro e w2 ⟨rfl, hb⟩
    have B2 : Hid (Below (w.heap.size + 1) (w.alloc (.cells #[.int .i64 N, .slice A m cm] 24)) w2) := nextB B1.out (by simp) hb
    clear hb
    have g0 : w2.cell? ⟨w.heap.size, 0, none⟩ = some (.int .i64 N) := by rw [B2.out.cell (by simp)]; simp
    have g1 : w2.cell? ⟨w.heap.size, 1, none⟩ = some (.slice A m cm) := by rw [B2.out.cell (by simp)]; simp
    go_wp2_with fail
    refine (awake_any _).mono ?_
    rintro e w3 ⟨rfl, hb⟩
    have B3 : Hid (Below (w.heap.size + 1) (w.alloc (.cells #[.int .i64 N, .slice A m cm] 24)) w3) := nextB B2.out (by simp) hb
    clear hb
    go_wp2
    go_ret
    exact ⟨rfl, HF.out _ B3.out⟩
  have h1' : fewB N es = true := by simpa using h1
  have HFW := Lib.hid h1'
  have hN9 : N ≤ 9 ∧ (es.length : Int) ≤ 100 ∧ validB N es = true := by
    unfold fewB at h1'; simp only [Bool.and_eq_true, decide_eq_true_eq] at h1'; exact h1'
  have hm100 : m ≤ 100 := by have := HE.out; omega
  have HV := Lib.hid hN9.2.2
  have hN9' := hN9.1
  clear h1 h1' hN9
  by_cases h2 : shortB ls = false
  · have HSB := Lib.hid h2
    clear h2
    have hK : ∀ w', Below (w.heap.size + 1) (w.alloc (.cells #[.int .i64 N, .slice A m cm] 24)) w' → Keeps w w' := fun w' h => (Keeps.alloc w _).trans (Keeps.of_below h (by simp))
    have hF : ∀ w', Below (w.heap.size + 1) (w.alloc (.cells #[.int .i64 N, .slice A m cm] 24)) w' → Below w.heap.size w w' := fun w' h => ((Below.refl _ _).alloc (Nat.le_refl _) _).trans (h.mono (by omega))
    have HK := Lib.hid hK
    have HF := Lib.hid hF
    clear hK hF
    go_enter Try.func4, Try.ntmps4
    go_wp2_with fail
    refine (awake_any _).mono ?_
    rintro e w1 ⟨rfl, hb⟩
    have B1 : Hid (Below (w.heap.size + 1) (w.alloc (.cells #[.int .i64 N, .slice A m cm] 24)) w1) := nextB (Below.refl _ _) (by simp) hb
    clear hb
    have g0 : w1.cell? ⟨w.heap.size, 0, none⟩ = some (.int .i64 N) := by rw [B1.out.cell (by simp)]; simp
    have g1 : w1.cell? ⟨w.heap.size, 1, none⟩ = some (.slice A m cm) := by rw [B1.out.cell (by simp)]; simp
    go_wp2_with fail
    refine (few_b (b := true) N A m cm es _ hm (H1.out.keep (HK.out _ B1.out)) HFW.out).mono ?_
    rintro e w2 ⟨rfl, hb⟩
    have B2 : Hid (Below (w.heap.size + 1) (w.alloc (.cells #[.int .i64 N, .slice A m cm] 24)) w2) := nextB B1.out (by simp) hb
    clear hb
    have g0 : w2.cell? ⟨w.heap.size, 0, none⟩ = some (.int .i64 N) := by rw [B2.out.cell (by simp)]; simp
    have g1 : w2.cell? ⟨w.heap.size, 1, none⟩ = some (.slice A m cm) := by rw [B2.out.cell (by simp)]; simp
    go_wp2_with fail
    refine (short_b (b := false) L n cl ls _ (by omega) (H2.out.keep (HK.out _ B2.out)) HSB.out).mono ?_
    rintro e w3 ⟨rfl, rfl⟩
    go_wp2_with fail
    refine (awake_any _).mono ?_
    rintro e w4 ⟨rfl, hb⟩
    have B4 : Hid (Below (w.heap.size + 1) (w.alloc (.cells #[.int .i64 N, .slice A m cm] 24)) w4) := nextB B2.out (by simp) hb
    clear hb
    go_wp2
    go_ret
    exact ⟨rfl, HF.out _ B4.out⟩
  have h2' : shortB ls = true := by simpa using h2
  have HS := Lib.hid (shortB_lens h2')
  have HSB := Lib.hid h2'
  have hn100 : n ≤ 100 := by have := HS.out.1; have := HL.out; omega
  have HSH : Hid (∀ j, j < n → (ls.getD j []).length ≤ 4611686018427387904) := Lib.hid (fun j hj => Nat.le_trans (HS.out.2 j (by have := HL.out; omega)) (by omega))
  clear h2 h2'
  by_cases h3 : (20 : Int) < q
  · have hK : ∀ w', Below (w.heap.size + 1) (w.alloc (.cells #[.int .i64 N, .slice A m cm] 24)) w' → Keeps w w' := fun w' h => (Keeps.alloc w _).trans (Keeps.of_below h (by simp))
    have hF : ∀ w', Below (w.heap.size + 1) (w.alloc (.cells #[.int .i64 N, .slice A m cm] 24)) w' → Below w.heap.size w w' := fun w' h => ((Below.refl _ _).alloc (Nat.le_refl _) _).trans (h.mono (by omega))
    have HK := Lib.hid hK
    have HF := Lib.hid hF
    clear hK hF
    go_enter Try.func4, Try.ntmps4
    go_wp2_with fail
    refine (awake_any _).mono ?_
    rintro e w1 ⟨rfl, hb⟩
    have B1 : Hid (Below (w.heap.size + 1) (w.alloc (.cells #[.int .i64 N, .slice A m cm] 24)) w1) := nextB (Below.refl _ _) (by simp) hb
    clear hb
    have g0 : w1.cell? ⟨w.heap.size, 0, none⟩ = some (.int .i64 N) := by rw [B1.out.cell (by simp)]; simp
    have g1 : w1.cell? ⟨w.heap.size, 1, none⟩ = some (.slice A m cm) := by rw [B1.out.cell (by simp)]; simp
    go_wp2_with fail
    refine (few_b (b := true) N A m cm es _ hm (H1.out.keep (HK.out _ B1.out)) HFW.out).mono ?_
    rintro e w2 ⟨rfl, hb⟩
    have B2 : Hid (Below (w.heap.size + 1) (w.alloc (.cells #[.int .i64 N, .slice A m cm] 24)) w2) := nextB B1.out (by simp) hb
    clear hb
    have g0 : w2.cell? ⟨w.heap.size, 0, none⟩ = some (.int .i64 N) := by rw [B2.out.cell (by simp)]; simp
    have g1 : w2.cell? ⟨w.heap.size, 1, none⟩ = some (.slice A m cm) := by rw [B2.out.cell (by simp)]; simp
    go_wp2_with fail
    refine (short_b (b := true) L n cl ls _ (by omega) (H2.out.keep (HK.out _ B2.out)) HSB.out).mono ?_
    rintro e w3 ⟨rfl, rfl⟩
    go_wp2_with fail
    refine (awake_any _).mono ?_
    rintro e w4 ⟨rfl, hb⟩
    have B4 : Hid (Below (w.heap.size + 1) (w.alloc (.cells #[.int .i64 N, .slice A m cm] 24)) w4) := nextB B2.out (by simp) hb
    clear hb
    go_wp2
    go_ret
    exact ⟨rfl, HF.out _ B4.out⟩
  by_cases h4 : sparseB N es ls = false
  · have HSP := Lib.hid h4
    clear h4
    have hK : ∀ w', Below (w.heap.size + 1) (w.alloc (.cells #[.int .i64 N, .slice A m cm] 24)) w' → Keeps w w' := fun w' h => (Keeps.alloc w _).trans (Keeps.of_below h (by simp))
    have hF : ∀ w', Below (w.heap.size + 1) (w.alloc (.cells #[.int .i64 N, .slice A m cm] 24)) w' → Below w.heap.size w w' := fun w' h => ((Below.refl _ _).alloc (Nat.le_refl _) _).trans (h.mono (by omega))
    have HK := Lib.hid hK
    have HF := Lib.hid hF
    clear hK hF
    go_enter Try.func4, Try.ntmps4
    go_wp2_with fail
    refine (awake_any _).mono ?_
    rintro e w1 ⟨rfl, hb⟩
    have B1 : Hid (Below (w.heap.size + 1) (w.alloc (.cells #[.int .i64 N, .slice A m cm] 24)) w1) := nextB (Below.refl _ _) (by simp) hb
    clear hb
    have g0 : w1.cell? ⟨w.heap.size, 0, none⟩ = some (.int .i64 N) := by rw [B1.out.cell (by simp)]; simp
    have g1 : w1.cell? ⟨w.heap.size, 1, none⟩ = some (.slice A m cm) := by rw [B1.out.cell (by simp)]; simp
    go_wp2_with fail
    refine (few_b (b := true) N A m cm es _ hm (H1.out.keep (HK.out _ B1.out)) HFW.out).mono ?_
    rintro e w2 ⟨rfl, hb⟩
    have B2 : Hid (Below (w.heap.size + 1) (w.alloc (.cells #[.int .i64 N, .slice A m cm] 24)) w2) := nextB B1.out (by simp) hb
    clear hb
    have g0 : w2.cell? ⟨w.heap.size, 0, none⟩ = some (.int .i64 N) := by rw [B2.out.cell (by simp)]; simp
    have g1 : w2.cell? ⟨w.heap.size, 1, none⟩ = some (.slice A m cm) := by rw [B2.out.cell (by simp)]; simp
    go_wp2_with fail
    refine (short_b (b := true) L n cl ls _ (by omega) (H2.out.keep (HK.out _ B2.out)) HSB.out).mono ?_
    rintro e w3 ⟨rfl, rfl⟩
    go_wp2_with fail
    refine (sparse_b (b := false) N A L m cm n cl es ls _ hm100 (by omega) HSH.out (H1.out.keep (HK.out _ B2.out)) (H2.out.keep (HK.out _ B2.out)) HSP.out).mono ?_
    rintro e w4 ⟨rfl, hb⟩
    have B4 : Hid (Below (w.heap.size + 1) (w.alloc (.cells #[.int .i64 N, .slice A m cm] 24)) w4) := nextB B2.out (by simp) hb
    clear hb
    have g0 : w4.cell? ⟨w.heap.size, 0, none⟩ = some (.int .i64 N) := by rw [B4.out.cell (by simp)]; simp
    have g1 : w4.cell? ⟨w.heap.size, 1, none⟩ = some (.slice A m cm) := by rw [B4.out.cell (by simp)]; simp
    go_wp2_with fail
    refine (awake_any _).mono ?_
    rintro e w5 ⟨rfl, hb⟩
    have B5 : Hid (Below (w.heap.size + 1) (w.alloc (.cells #[.int .i64 N, .slice A m cm] 24)) w5) := nextB B4.out (by simp) hb
    clear hb
    go_wp2
    go_ret
    exact ⟨rfl, HF.out _ B5.out⟩
  have h4' : sparseB N es ls = true := by simpa using h4
  have hN0 := ((validB_iff N es).1 HV.out).1
  have HALL : Hid (sparseAll N.toNat es = true) := Lib.hid (sparse_all_sound h4')
  have HVI : Hid (violB N es ps = false) := Lib.hid (by unfold violB; exact viol_sound h4' ps)
  have HSP := Lib.hid h4'
  clear h4 h4'
  have hK : ∀ w', Below (w.heap.size + 1) (w.alloc (.cells #[.int .i64 N, .slice A m cm] 24)) w' → Keeps w w' := fun w' h => (Keeps.alloc w _).trans (Keeps.of_below h (by simp))
  have hF : ∀ w', Below (w.heap.size + 1) (w.alloc (.cells #[.int .i64 N, .slice A m cm] 24)) w' → Below w.heap.size w w' := fun w' h => ((Below.refl _ _).alloc (Nat.le_refl _) _).trans (h.mono (by omega))
  have HK := Lib.hid hK
  have HF := Lib.hid hF
  clear hK hF
  go_enter Try.func4, Try.ntmps4
  go_wp2_with fail
  refine (awake_any _).mono ?_
  rintro e w1 ⟨rfl, hb⟩
  have B1 : Hid (Below (w.heap.size + 1) (w.alloc (.cells #[.int .i64 N, .slice A m cm] 24)) w1) := nextB (Below.refl _ _) (by simp) hb
  clear hb
  have g0 : w1.cell? ⟨w.heap.size, 0, none⟩ = some (.int .i64 N) := by rw [B1.out.cell (by simp)]; simp
  have g1 : w1.cell? ⟨w.heap.size, 1, none⟩ = some (.slice A m cm) := by rw [B1.out.cell (by simp)]; simp
  go_wp2_with fail
  refine (few_b (b := true) N A m cm es _ hm (H1.out.keep (HK.out _ B1.out)) HFW.out).mono ?_
  rintro e w2 ⟨rfl, hb⟩
  have B2 : Hid (Below (w.heap.size + 1) (w.alloc (.cells #[.int .i64 N, .slice A m cm] 24)) w2) := nextB B1.out (by simp) hb
  clear hb
  have g0 : w2.cell? ⟨w.heap.size, 0, none⟩ = some (.int .i64 N) := by rw [B2.out.cell (by simp)]; simp
  have g1 : w2.cell? ⟨w.heap.size, 1, none⟩ = some (.slice A m cm) := by rw [B2.out.cell (by simp)]; simp
  go_wp2_with fail
  refine (short_b (b := true) L n cl ls _ (by omega) (H2.out.keep (HK.out _ B2.out)) HSB.out).mono ?_
  rintro e w3 ⟨rfl, rfl⟩
  go_wp2_with fail
  refine (sparse_b (b := true) N A L m cm n cl es ls _ hm100 (by omega) HSH.out (H1.out.keep (HK.out _ B2.out)) (H2.out.keep (HK.out _ B2.out)) HSP.out).mono ?_
  rintro e w4 ⟨rfl, hb⟩
  have B4 : Hid (Below (w.heap.size + 1) (w.alloc (.cells #[.int .i64 N, .slice A m cm] 24)) w4) := nextB B2.out (by simp) hb
  clear hb
  have g0 : w4.cell? ⟨w.heap.size, 0, none⟩ = some (.int .i64 N) := by rw [B4.out.cell (by simp)]; simp
  have g1 : w4.cell? ⟨w.heap.size, 1, none⟩ = some (.slice A m cm) := by rw [B4.out.cell (by simp)]; simp
  go_wp2_with fail
  refine (rsparse_b (b := true) N N.toNat (by omega) A m cm es _ (by omega) hm100 (H1.out.keep (HK.out _ B4.out)) HV.out HALL.out).mono ?_
  rintro e w5 ⟨rfl, hb⟩
  have B5 : Hid (Below (w.heap.size + 1) (w.alloc (.cells #[.int .i64 N, .slice A m cm] 24)) w5) := nextB B4.out (by simp) hb
  clear hb
  have g0 : w5.cell? ⟨w.heap.size, 0, none⟩ = some (.int .i64 N) := by rw [B5.out.cell (by simp)]; simp
  have g1 : w5.cell? ⟨w.heap.size, 1, none⟩ = some (.slice A m cm) := by rw [B5.out.cell (by simp)]; simp
  go_wp2_with fail
  refine (violates_b (b := false) N A Q m cm q cq es ps _ hm100 (by omega) (H1.out.keep (HK.out _ B5.out)) (H3.out.keep (HK.out _ B5.out)) HVI.out).mono ?_
  rintro e w6 ⟨rfl, hb⟩
  have B6 : Hid (Below (w.heap.size + 1) (w.alloc (.cells #[.int .i64 N, .slice A m cm] 24)) w6) := nextB B5.out (by simp) hb
  clear hb
  have g0 : w6.cell? ⟨w.heap.size, 0, none⟩ = some (.int .i64 N) := by rw [B6.out.cell (by simp)]; simp
  have g1 : w6.cell? ⟨w.heap.size, 1, none⟩ = some (.slice A m cm) := by rw [B6.out.cell (by simp)]; simp
  go_wp2
  go_ret
  exact ⟨rfl, HF.out _ B6.out⟩

set_option maxRecDepth 100000 in
theorem sparsitySound_lifted (os : Os) (started : os.Started) (H : Type) (enc : TypeId × Value → H) :
    ReturnsInHanded {} Try.checked os 4 .any (Rows.sparsitySoundSpec.pre6 enc Try.prog Try.f4 Rows.sparsitySoundRow.domain false) (Rows.sparsitySoundSpec.post enc Try.prog Try.f4 false true false false) := by
  refine returnsInHanded_of_change (C := Try.checked) Tp.own started (by kernel_rfl) Try.func4
    (ChangeSpec.witness6 (enc := enc) (C := Try.checked) false ⟨#[], #[.agg #[.int .i64 0, .slice none 0 0], .slice none 0 0, .slice none 0 0], []⟩ 8 (by kernel_rfl) (by kernel_rfl) (by kernel_rfl) (by kernel_rfl)) ?_
  intro W base args ds gs before hval0 hW hcnd _
  have hval : ∀ (j : Nat) t v, Try.f4.params[j]? = some t → args[j]? = some v → Value.okWide Try.prog W .any base t v := hval0
  have hW' := hW
  obtain ⟨p, q, hA0, hV, rfl, hfz, hnd⟩ := hW
  have hA : DataW.TrodAll enc Try.prog W 0 (fun _ => true) true Try.f4.params.toList args.toList ds p := hA0
  rw [Try.params4] at hA hval
  obtain ⟨v0, vs0, d0, ds0, p0, q0, hargs, rfl, rfl, h0, r0⟩ := trodAll_cons hA
  obtain ⟨v1, vs1, d1, ds1, p1, q1, rfl, rfl, rfl, h1, r1⟩ := trodAll_cons r0
  obtain ⟨v2, vs2, d2, ds2, p2, q2, rfl, rfl, rfl, h2, r2⟩ := trodAll_cons r1
  obtain ⟨rfl, rfl, rfl⟩ := trodAll_nil r2
  obtain rfl : args = #[v0, v1, v2] := by cases args; simp_all
  obtain ⟨rfl, rfl⟩ := trodVars_none hV
  have lt0 : ∀ x ∈ p0, x.block < W.heap.size := by obtain ⟨m, hm⟩ := h0; exact DataW.trod_lt m _ _ _ hm
  obtain ⟨N0, A0, m0, c0, es0, rfl, wN0, hm0, he0, wE0⟩ := open_graph (hval 0 24 v0 rfl rfl) h0
  have lt1 : ∀ x ∈ p1, x.block < W.heap.size := by obtain ⟨m, hm⟩ := h1; exact DataW.trod_lt m _ _ _ hm
  obtain ⟨A1, m1, c1, l1, rfl, hm1, he1, wE1⟩ := open_intll (hval 1 25 v1 rfl rfl) h1
  have lt2 : ∀ x ∈ p2, x.block < W.heap.size := by obtain ⟨m, hm⟩ := h2; exact DataW.trod_lt m _ _ _ hm
  obtain ⟨A2, m2, c2, l2, rfl, hm2, he2, wE2⟩ := open_intl (hval 2 30 v2 rfl rfl) h2
  clear hA0 hval0
  refine (law_sound N0 A0 A1 A2 m0 c0 m1 c1 m2 c2 es0 l1 l2 W hm0 hm1 hm2 he0 he1 he2).mono fun e W' ⟨he, bel⟩ => ?_
  subst he
  exact ⟨_, rfl, _, _, _, [], _, [], hW', trodAll_mk1 (shut_bool Try.underlying4 _), (trodAll_cons_mk (Below.trod Tp.laidOut (by kernel_rfl) (of_decide_eq_true (by kernel_rfl)) h0 bel lt0) (trodAll_cons_mk (Below.trod Tp.laidOut (by kernel_rfl) (of_decide_eq_true (by kernel_rfl)) h1 bel lt1) (trodAll_cons_mk (Below.trod Tp.laidOut (by kernel_rfl) (of_decide_eq_true (by kernel_rfl)) h2 bel lt2) trodAll_mk0))), rfl, bel.frame _, fun h => by cases h⟩

theorem sparsitySound_holds : Rows.SparsitySoundSaid :=
  OpenClaim.holds_of_wide 4 Try.f4 rfl rfl rfl rfl rfl rfl rfl ⟨rfl, rfl, rfl, rfl, rfl⟩ rfl rfl rfl rfl rfl (by kernel_rfl) Try.func4 (by kernel_rfl)
    (of_decide_eq_true (by kernel_rfl)) (by unfold Func.isWrapper; first | (rw [if_pos (by decide +kernel)]; kernel_rfl) | (rw [if_neg (by decide +kernel)]; exact ⟨rfl, rfl⟩))
    (fun os started H enc _ => sparsitySound_lifted os started H enc)
end Go.Proofs.Ytohmafmdpajmlaa
