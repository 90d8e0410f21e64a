/-
  setsquareref35.Right and sparsity.Sparse: for every graph and every lists in memory.
-/
import Derived.Test.YtohmafmdpajmlaaW3
import Derived.Test.YtohmafmdpajmlaaW4
import Derived.Test.YtohmafmdpajmlaaSpecC
namespace Go.Proofs.Ytohmafmdpajmlaa
set_option linter.unusedVariables false
set_option linter.unusedSimpArgs false
open Go.RowKit Go.Sort

set_option maxHeartbeats 1000000 in
theorem rights_any (M : Nat) (A L : Option Addr) (m cm n cl : Nat) (es : List (Int × Int)) (ls : List (List Int)) (w : World) (hm : m ≤ 100) (hn : n ≤ 4611686018427387904) (hsh : ∀ j, j < n → (ls.getD j []).length ≤ 4611686018427387904)
    (he : Rd w 2 A m (prs es)) (hl : RdL w L n ls) (hv : validB M es = true) :
    Calls Try.prog 15 #[.agg #[.int .i64 M, .slice A m cm], .slice L n cl] w fun e w' => e = .returned (.bool (sparseB M es ls)) ∧ Below w.heap.size w w' := by
  have HE := Lib.hid he.prs_len
  have HL := Lib.hid hl.1
  have HV := Lib.hid hv
  have H1 := Lib.hid he
  have H2 := Lib.hid hl
  have HS := Lib.hid hsh
  clear he hl hv hsh
  by_cases hlen : n = m
  · subst hlen
    go_enter Try.func15, Try.ntmps15
    go_wp2
    go_loopw [5] (fun iv wr => ∃ k : Nat, k ≤ n ∧ iv = .int .i64 k ∧ (∀ j, j < k → rightB es j (ls.getD j []) = true) ∧ Below (w.heap.size + 1) (w.alloc (.cells #[.int .i64 M, .slice A n cm] 24)) wr)
      (fun iv _ => n - (intOf iv).toNat)
    case atStart => exact ⟨0, Nat.zero_le _, rfl, by omega, Below.refl _ _⟩
    case round =>
      obtain ⟨k, hk, rfl, hok, hbw⟩ := hrel
      have HOK := Lib.hid hok
      have g0 : wr.cell? ⟨w.heap.size, 0, none⟩ = some (.int .i64 M) := by rw [hbw.cell (by simp)]; simp
      have g1 : wr.cell? ⟨w.heap.size, 1, none⟩ = some (.slice A n cm) := by rw [hbw.cell (by simp)]; simp
      have HB := Lib.hid hbw
      clear hok hbw
      have KR : Keeps w wr := (Keeps.alloc w _).trans (Keeps.of_below HB.out (by simp))
      have HK := Lib.hid KR
      clear KR
      by_cases hlt : k < n
      · obtain ⟨ad, A', c', rfl, c0, hr⟩ := (H2.out.keep HK.out).at hlt
        have HR := Lib.hid hr
        clear hr
        generalize hml : (ls.getD k []).length = ml at c0
        have HML := Lib.hid hml
        clear hml
        have k0 := grown_cell g0
        have k1 := grown_cell g1
        have kc := grown_cell c0
        have cR := call_q (w := wr) (fun w' hk' => right_any M A A' n cm ml c' k es (ls.getD k []) w' hm (by rw [← HML.out]; exact HS.out k hlt) (H1.out.keep (HK.out.trans hk')) (by rw [← HML.out]; exact HR.out.keep hk') HV.out hlt)
        generalize hb : rightB es k (ls.getD k []) = b at cR
        have HBB := Lib.hid hb
        clear hb
        go_wp2
        refine wp_region_q (by kernel_rfl) (by kernel_rfl) ?_
        repeat (go_big_quiet_step (exact cR _ _))
        refine wpQuiet_nil ?_
        intro wq hgq
        have hb1 : Below (w.heap.size + 1) (w.alloc (.cells #[.int .i64 M, .slice A n cm] 24)) wq := HB.out.trans (hgq.mono (by have := HB.out.size; simp at this; omega))
        have HB1 := Lib.hid hb1
        clear hb1 hgq
        cases b
        · go_wp2
          go_ret
          exact ⟨ret_bool (sparseB_no (by rw [HL.out]; exact hlt) HBB.out).symm, ((Below.refl _ _).alloc (Nat.le_refl _) _).trans (HB1.out.mono (by omega))⟩
        · go_wp2
          go_roundw
          case rel => exact ⟨k + 1, by omega, by go_num, rights_step HOK.out HBB.out, HB1.out⟩
          case measure => simp [intOf]; omega
      · go_wp2
        go_ret
        exact ⟨ret_bool (sparseB_yes HV.out (by rw [HL.out, HE.out]) (fun j hj => HOK.out j (by have := HL.out; omega))).symm, ((Below.refl _ _).alloc (Nat.le_refl _) _).trans (HB.out.mono (by omega))⟩
  · rw [sparseB_len (by rw [HL.out, HE.out]; exact hlen)]
    have hne : ((n : Int) != (m : Int)) = true := by rw [bne_iff_ne]; omega
    go_enter Try.func15, Try.ntmps15
    go_wp2
    go_ret
    exact ⟨rfl, (Below.refl _ _).alloc (Nat.le_refl _) _⟩
end Go.Proofs.Ytohmafmdpajmlaa
