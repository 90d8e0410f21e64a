/-
  slices.Max at []int: for every slice in memory that is not empty.
-/
import Derived.Test.YtohmafmdpajmlaaW2
namespace Go.Proofs.Ytohmafmdpajmlaa
set_option linter.unusedVariables false
set_option linter.unusedSimpArgs false
open Go.RowKit Go.Sort

set_option maxHeartbeats 400000 in
theorem max_any (A : Option Addr) (n c : Nat) (l : List Int) (w : World) (hn : n ≤ 4611686018427387904) (h0 : 0 < n) (hr : Rd w 1 A n (ints l)) :
    Calls Try.prog 30 #[.slice A n c] w fun e w' => (∃ m : Int, e = .returned (.int .i64 m) ∧ IsMax l m) ∧ w = w' := by
  obtain ⟨ad, rfl, -, c0⟩ := hr.int_at h0
  have HL := Lib.hid hr.int_len
  have H := Lib.hid hr
  clear hr
  have c0' : w.cell? ad = some (.int .i64 (l.getD 0 0)) := c0
  generalize hz : l.getD 0 0 = z at c0'
  have HZ := Lib.hid hz
  clear hz c0
  go_enter Try.func30, Try.ntmps30
  go_wp2
  go_loop [3, 4] (fun mv iv => ∃ (k : Nat) (m : Int), 1 ≤ k ∧ k ≤ n ∧ iv = .int .i64 k ∧ mv = .int .i64 m ∧ m ∈ l ∧ ∀ j, j < k → l.getD j 0 ≤ m) (fun _ iv => n - (intOf iv).toNat)
  case atStart => exact ⟨1, _, Nat.le_refl _, h0, rfl, rfl, by rw [← HZ.out]; exact mem_getD (by rw [HL.out]; exact h0), fun j hj => by rw [show j = 0 by omega, HZ.out]; exact Int.le_refl _⟩
  case round =>
    obtain ⟨k, m, hk1, hk, rfl, rfl, hm, hok⟩ := hrel
    have HM := Lib.hid hm
    have HOK := Lib.hid hok
    clear hm hok
    by_cases hlt : k < n
    · obtain ⟨ad', e', -, c1⟩ := H.out.int_at hlt
      obtain rfl : ad = ad' := by injection e'
      clear e'
      generalize hx : l.getD k 0 = x at c1
      have HX := Lib.hid hx
      clear hx
      go_wp2
      go_round
      case rel => exact ⟨k + 1, if m < x then x else m, by omega, by omega, by go_num, rfl, by
          split
          · rw [← HX.out]; exact mem_getD (by rw [HL.out]; exact hlt)
          · exact HM.out, fun j hj => by
          by_cases e : j = k
          · subst e; rw [HX.out]; split <;> omega
          · have := HOK.out j (by omega); split <;> omega⟩
      case measure => simp [intOf]; omega
    · go_wp2
      go_ret
      exact ⟨⟨m, rfl, HM.out, fun x hx => by obtain ⟨j, hj, rfl⟩ := getD_of_mem hx; exact HOK.out j (by have := HL.out; omega)⟩, rfl⟩
end Go.Proofs.Ytohmafmdpajmlaa
