/-
  ClusterMerge: the walk of the statement.
-/
import Derived.Test.YtagcaljpgifppaaCa
import Derived.Test.YtagcaljpgifppaaKc
namespace Go.Proofs.Ytagcaljpgifppaa
set_option linter.unusedVariables false
set_option linter.unusedSimpArgs false
open Go.RowKit Go.Sort
attribute [local go_sem ↓] Go.wp_at_zero Go.wp_at_succ

theorem lit3 {W : World} {A B C : Option Addr} {n m k cA cB cC : Nat} {a b c : List Int} (h1 : Rd W 1 A n (ints a)) (h2 : Rd W 1 B m (ints b)) (h3 : Rd W 1 C k (ints c)) :
    RdL (W.alloc (.cells #[.slice A n cA, .slice B m cB, .slice C k cC] 27)) (some ⟨W.heap.size, 0, none⟩) 3 [a, b, c] := by
  have e1 := h1.int_len
  have e2 := h2.int_len
  have e3 := h3.int_len
  subst e1 e2 e3
  refine rdL_lit_at rfl [(A, cA), (B, cB), (C, cC)] [a, b, c] 27 rfl (fun i hd l x1 x2 => ?_)
  rcases i with _ | _ | _ | i
  · simp at x1 x2; subst x1 x2; exact h1
  · simp at x1 x2; subst x1 x2; exact h2
  · simp at x1 x2; subst x1 x2; exact h3
  · simp at x1
set_option maxRecDepth 100000 in
set_option maxHeartbeats 8000000 in
theorem law_cm (A B C : Option Addr) (n cA m cB k cC : Nat) (a b c : List Int) (w : World) (hn : n ≤ maxLen) (hm : m ≤ maxLen) (hk : k ≤ maxLen) (ha : Rd w 1 A n (ints a)) (hb : Rd w 1 B m (ints b)) (hc : Rd w 1 C k (ints c)) :
    Calls Try.prog 9 #[.slice A n cA, .slice B m cB, .slice C k cC] w fun e w' => e = .returned (.bool true) ∧ Below w.heap.size w w' := by
  have H1 := Lib.hid ha
  have H2 := Lib.hid hb
  have H3 := Lib.hid hc
  unfold maxLen at hn hm hk
  clear ha hb hc
  by_cases hn : 20 < n
  · have dn : decide ((20 : Int) < (n : Int)) = true := decide_eq_true (by omega)
    clear hn
    go_enter Try.func9, Try.ntmps9
    go_wp2_with (first
      | (go_at_call 35; refine (awake36_any _).mono ?_; rintro e w1 ⟨rfl, hb⟩; have B1 := Lib.hid hb; have hz1 := hb.size; clear hb)
      | fail)
    go_ret
    exact ⟨rfl, B1.out⟩
  have dn : decide ((20 : Int) < (n : Int)) = false := decide_eq_false (by omega)
  have qn : n ≤ 20 := by omega
  clear hn
  by_cases hm : 20 < m
  · have dm : decide ((20 : Int) < (m : Int)) = true := decide_eq_true (by omega)
    clear hm
    go_enter Try.func9, Try.ntmps9
    go_wp2_with (first
      | (go_at_call 35; refine (awake36_any _).mono ?_; rintro e w1 ⟨rfl, hb⟩; have B1 := Lib.hid hb; have hz1 := hb.size; clear hb)
      | fail)
    go_ret
    exact ⟨rfl, B1.out⟩
  have dm : decide ((20 : Int) < (m : Int)) = false := decide_eq_false (by omega)
  have qm : m ≤ 20 := by omega
  clear hm
  by_cases hk : 20 < k
  · have dk : decide ((20 : Int) < (k : Int)) = true := decide_eq_true (by omega)
    clear hk
    go_enter Try.func9, Try.ntmps9
    go_wp2_with (first
      | (go_at_call 35; refine (awake36_any _).mono ?_; rintro e w1 ⟨rfl, hb⟩; have B1 := Lib.hid hb; have hz1 := hb.size; clear hb)
      | fail)
    go_ret
    exact ⟨rfl, B1.out⟩
  have dk : decide ((20 : Int) < (k : Int)) = false := decide_eq_false (by omega)
  have qk : k ≤ 20 := by omega
  clear hk
  have MV : Hid (∀ v, mgV a b c = v → ∀ (P Q R : Option Addr) (x y z : Nat) W, Rd W 1 P n (ints a) → Rd W 1 Q m (ints b) → Rd W 1 R k (ints c) → Calls Try.prog 43 #[.slice P n x, .slice Q m y, .slice R k z] W fun e w' => e = .returned (mgR v) ∧ Below W.heap.size W w') := Lib.hid fun v hv P Q R x y z W h1 h2 h3 => by
    subst hv; exact merge_any P Q R n x m y k z a b c W (by omega) (by omega) (by omega) h1 h2 h3
  have RV : Hid (∀ v, mgV a b c = v → ∀ W, Rd W 1 A n (ints a) → Rd W 1 B m (ints b) → Rd W 1 C k (ints c) → Calls Try.prog 44 #[.slice A n cA, .slice B m cB, .slice C k cC] W fun e w' => e = .returned (mgR v) ∧ Below W.heap.size W w') := Lib.hid fun v hv W h1 h2 h3 => by
    subst hv; exact rmerge_any A B C n cA m cB k cC a b c W (by omega) (by omega) (by omega) h1 h2 h3
  obtain ⟨⟨x, y, z, o⟩, hv⟩ : ∃ v, mgV a b c = v := ⟨_, rfl⟩
  have MV2 := Lib.hid (MV.out _ hv)
  have RV2 := Lib.hid (RV.out _ hv)
  have LA : Hid (a.length = n) := Lib.hid H1.out.int_len
  have LB : Hid (b.length = m) := Lib.hid H2.out.int_len
  have LC : Hid (c.length = k) := Lib.hid H3.out.int_len
  have CP : Hid (∀ D d W, RdL W D 3 [a, b, c] → Calls Try.prog 42 #[.slice D 3 d] W (CopPost W 3 [a, b, c])) := Lib.hid fun D d W h => copied36_any D 3 d [a, b, c] W (by omega) (fun i => by
    match i with
    | 0 => show a.length ≤ _; rw [LA.out]; omega
    | 1 => show b.length ≤ _; rw [LB.out]; omega
    | 2 => show c.length ≤ _; rw [LC.out]; omega
    | i + 3 => simp) h
  clear MV RV hv hn hm hk
  go_enter Try.func9, Try.ntmps9
  go_upto_region 6 with (first
    | (go_at_call 35; refine (awake36_any _).mono ?_; rintro e w1 ⟨rfl, hb⟩; have B1 := Lib.hid hb; have hz1 := hb.size; clear hb)
    | (go_at_call 42; refine (CP.out _ _ _ (lit3 (H1.out.keep (Keeps.of_below B1.out (Nat.le_refl _))) (H2.out.keep (Keeps.of_below B1.out (Nat.le_refl _))) (H3.out.keep (Keeps.of_below B1.out (Nat.le_refl _))))).mono ?_; rintro e w2 ⟨hb, D2, d2, rfl, ho⟩; have B2 : Hid (Below w.heap.size w w2) := Lib.hid ((B1.out.alloc hz1 _).trans (hb.mono (by simp; omega))); have R2 := Lib.hid ho.rd; have hz2 := B2.out.size; clear hb ho)
    | fail)
  obtain ⟨ad, A1, e1, rfl, c0, r0⟩ := R2.out.at (k := 0) (by omega)
  obtain ⟨ad', A2, e2, h', c1, r1⟩ := R2.out.at (k := 1) (by omega)
  injection h' with h'
  subst h'
  obtain ⟨ad', A3, e3, h', c2, r2⟩ := R2.out.at (k := 2) (by omega)
  injection h' with h'
  subst h'
  simp only [List.getD_cons_zero, List.getD_cons_succ] at c0 c1 c2 r0 r1 r2
  rw [LA.out] at c0 r0
  rw [LB.out] at c1 r1
  rw [LC.out] at c2 r2
  have c00 : w2.cell? ad = some (.slice A1 n e1) := by have h9 : ad.add 0 = ad := (by unfold Addr.add; simp); rw [h9] at c0; exact c0
  have k0 := grown_cell c00
  have c11 : w2.cell? ⟨ad.block, ad.off + 1, none⟩ = some (.slice A2 m e2) := by have h9 : ad.add 1 = ⟨ad.block, ad.off + 1, none⟩ := (by unfold Addr.add; simp); rw [h9] at c1; exact c1
  have c22 : w2.cell? ⟨ad.block, ad.off + 2, none⟩ = some (.slice A3 k e3) := by have h9 : ad.add 2 = ⟨ad.block, ad.off + 2, none⟩ := (by unfold Addr.add; simp); rw [h9] at c2; exact c2
  have k1 := grown_cell c11
  have k2 := grown_cell c22
  have cM := call_q (w := w2) (fun w' hw => MV2.out A1 A2 A3 e1 e2 e3 w' (r0.keep hw) (r1.keep hw) (r2.keep hw))
  simp only [mgR] at cM
  refine wp_region_q (by kernel_rfl) (by kernel_rfl) ?_
  repeat (go_big_quiet_step (first | with_reducible exact cM _ _))
  refine wpQuiet_nil ?_
  intro wq hgq
  have BQ := Lib.hid (B2.out.trans (hgq.mono hz2))
  have RQ := Lib.hid (RV2.out wq (H1.out.keep (Keeps.of_below BQ.out (Nat.le_refl _))) (H2.out.keep (Keeps.of_below BQ.out (Nat.le_refl _))) (H3.out.keep (Keeps.of_below BQ.out (Nat.le_refl _))))
  clear hgq
  go_wp2_with (first
    | (go_at_call 44; refine RQ.out.mono ?_; rintro e w3 ⟨rfl, hb⟩; have B3 := Lib.hid (BQ.out.trans (hb.mono BQ.out.size)); clear hb; simp only [mgR])
    | fail)
  go_ret
  exact ⟨rfl, B3.out⟩
end Go.Proofs.Ytagcaljpgifppaa
