/-
  slices.Index and slices.Contains at []int: for every slice in memory.
-/
import Derived.Test.YtcpkdnhpelkeoaaGreatW1
namespace Go.Proofs.YtcpkdnhpelkeoaaGreat
set_option linter.unusedVariables false
set_option linter.unusedSimpArgs false
open Go.RowKit Go.Sort

def idxI (l : List Int) (x : Int) : Int := match l.findIdx? (· == x) with | some k => (k : Int) | none => -1
theorem idxI_hit (l : List Int) (x : Int) (k : Nat) (h : k < l.length) (hk : l.getD k 0 = x) (hn : ∀ j, j < k → ¬ l.getD j 0 = x) : idxI l x = k := by
  have e : l.findIdx? (· == x) = some k := by
    rw [List.findIdx?_eq_some_iff_getElem]
    refine ⟨h, ?_, fun j hj => ?_⟩
    · rw [List.getD_eq_getElem?_getD, List.getElem?_eq_getElem h] at hk; simpa using hk
    · have := hn j hj
      rw [List.getD_eq_getElem?_getD, List.getElem?_eq_getElem (by omega : j < l.length)] at this
      simpa using this
  unfold idxI; rw [e]
theorem idxI_miss (l : List Int) (x : Int) (hn : ∀ j, j < l.length → ¬ l.getD j 0 = x) : idxI l x = -1 := by
  have e : l.findIdx? (· == x) = none := by
    rw [List.findIdx?_eq_none_iff]
    intro y hy
    obtain ⟨j, hj, rfl⟩ := getD_of_mem hy
    simpa using hn j hj
  unfold idxI; rw [e]
theorem idxI_ge (l : List Int) (x : Int) : decide (0 ≤ idxI l x) = decide (x ∈ l) := by
  by_cases h : ∃ j, j < l.length ∧ l.getD j 0 = x
  · have hx : x ∈ l := by obtain ⟨j, hj, rfl⟩ := h; exact mem_getD hj
    have : 0 ≤ idxI l x := by
      unfold idxI
      cases e : l.findIdx? (· == x) with
      | some k => simp
      | none => rw [List.findIdx?_eq_none_iff] at e; have := e x hx; simp at this
    simp [hx, this]
  · have hx : x ∉ l := fun hx => h (by obtain ⟨j, hj, e⟩ := getD_of_mem hx; exact ⟨j, hj, e⟩)
    rw [idxI_miss l x (fun j hj e => h ⟨j, hj, e⟩)]
    simp [hx]

set_option maxHeartbeats 400000 in
theorem index_any (A : Option Addr) (n c : Nat) (l : List Int) (x : Int) (w : World) (hn : n ≤ 4611686018427387904) (hr : Rd w 1 A n (ints l)) :
    Calls Tryz.prog 53 #[.slice A n c, .int .i64 x] w fun e w' => e = .returned (.int .i64 (idxI l x)) ∧ w = w' := by
  have HL := Lib.hid hr.int_len
  have H := Lib.hid hr
  clear hr
  go_enter Tryz.func53, Tryz.ntmps53
  go_wp2
  go_loop [5, 8] (fun _ iv => ∃ k : Nat, k ≤ n ∧ iv = .int .i64 k ∧ ∀ j, j < k → ¬ l.getD j 0 = x) (fun _ iv => n - (intOf iv).toNat)
  case atStart => exact ⟨0, Nat.zero_le _, rfl, by omega⟩
  case round =>
    obtain ⟨k, hk, rfl, hok⟩ := hrel
    have HOK := Lib.hid hok
    clear hok
    by_cases hlt : k < n
    · obtain ⟨ad, rfl, -, c1⟩ := H.out.int_at hlt
      generalize hy : l.getD k 0 = y at c1
      have HY := Lib.hid hy
      clear hy
      by_cases hxy : x = y
      · have hb : (x == y) = true := by simpa using hxy
        have HXY := Lib.hid hxy
        clear hxy
        go_wp2
        go_ret
        exact ⟨ret_int (idxI_hit l x k (by rw [HL.out]; exact hlt) (by rw [HY.out, HXY.out]) HOK.out).symm, rfl⟩
      · have hb : (x == y) = false := by simpa using hxy
        go_wp2
        go_round
        case rel => exact ⟨k + 1, by omega, by go_num, fun j hj => by
            by_cases e : j = k
            · subst e; rw [HY.out]; exact fun h => hxy h.symm
            · exact HOK.out j (by omega)⟩
        case measure => simp [intOf]; omega
    · go_wp2
      go_ret
      exact ⟨ret_int (idxI_miss l x (fun j hj => HOK.out j (by have := HL.out; omega))).symm, rfl⟩

set_option maxHeartbeats 400000 in
theorem contains_any (A : Option Addr) (n c : Nat) (l : List Int) (x : Int) (w : World) (hn : n ≤ 4611686018427387904) (hr : Rd w 1 A n (ints l)) :
    Calls Tryz.prog 43 #[.slice A n c, .int .i64 x] w fun e w' => e = .returned (.bool (decide (x ∈ l))) ∧ w = w' := by
  have HR := Lib.hid hr
  clear hr
  rw [← idxI_ge]
  go_enter Tryz.func43, Tryz.ntmps43
  go_wp2_with (go_at_call 53; refine (index_any _ _ _ l _ _ hn HR.out).mono ?_; rintro e w' ⟨rfl, rfl⟩)
  go_ret
  exact ⟨rfl, rfl⟩
end Go.Proofs.YtcpkdnhpelkeoaaGreat
