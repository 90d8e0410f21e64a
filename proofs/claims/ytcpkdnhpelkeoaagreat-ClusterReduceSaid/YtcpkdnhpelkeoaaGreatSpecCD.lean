/-
  The figures that awake of the cluster laws asks for.
-/
import Derived.Test.YtcpkdnhpelkeoaaGreatKc
import Derived.Test.YtcpkdnhpelkeoaaGreatMc
namespace Go.Proofs.YtcpkdnhpelkeoaaGreat
set_option linter.unusedVariables false
set_option linter.unusedSimpArgs false

def aw1 : List (Int × Int) := [(0, 1), (0, 2), (1, 2), (2, 3)]
def aw2 : List (Int × Int) := [(0, 1), (0, 2), (1, 2), (1, 3), (2, 3)]
theorem aw_v1 : validB 4 aw1 = true := by decide +kernel
theorem aw_m1 : mgV [0, 1] [1, 2] [0, 2] = (1, 2, 0, true) := by decide +kernel
theorem aw_m2 : (mgV [0, 1] [1, 2] [2, 3]).2.2.2 = false := by decide +kernel
theorem ok60_4 {es : List (Int × Int)} (h : ∀ e ∈ es, OkE 4 e) : Ok60 es := fun e he => (h e he).mono (by omega)
theorem rank4 {es : List (Int × Int)} (h : ∀ e ∈ es, OkE 4 e) (hd : ∀ T, T < 2 ^ 4 → okN 4 es T) : rankE es = es.length := rank_spa (ok60_4 h) (spa_dec (by omega) h hd)
theorem aw_ok1 : ∀ e ∈ aw1, OkE 4 e := ok_of_valid (n := 4) aw_v1
theorem aw_r1 : rankE aw1 = 4 := rank4 aw_ok1 (by decide +kernel)
theorem aw_no {a b : Int} (h : ∀ e ∈ aw1 ++ [(a, b)], OkE 4 e) (hd : ∀ T, T < 2 ^ 4 → okN 4 (aw1 ++ [(a, b)]) T) : ¬ impE aw1 (a, b) := fun hi => by
  unfold impE at hi
  rw [rank4 h hd, aw_r1] at hi
  simp [aw1] at hi
theorem aw_n30 : ¬ impE aw1 (3, 0) := aw_no (by decide) (by decide +kernel)
theorem aw_n31 : ¬ impE aw1 (3, 1) := aw_no (by decide) (by decide +kernel)
theorem aw_n03 : ¬ impE aw1 (0, 3) := aw_no (by decide) (by decide +kernel)
theorem aw_n13 : ¬ impE aw1 (1, 3) := aw_no (by decide) (by decide +kernel)
theorem aw_y {a b : Int} (h : (a, b) ∈ aw1) : impE aw1 (a, b) := impE_mem (ok60_4 aw_ok1) h
theorem aw_y01 : impE aw1 (0, 1) := aw_y (by decide)
theorem aw_y02 : impE aw1 (0, 2) := aw_y (by decide)
theorem aw_y12 : impE aw1 (1, 2) := aw_y (by decide)
theorem aw_y10 : impE aw1 (1, 0) := impE_symm (a := 0) (b := 1) (ok60_4 aw_ok1) (by omega) (by omega) (by omega) aw_y01
theorem aw_y20 : impE aw1 (2, 0) := impE_symm (a := 0) (b := 2) (ok60_4 aw_ok1) (by omega) (by omega) (by omega) aw_y02
theorem aw_y21 : impE aw1 (2, 1) := impE_symm (a := 1) (b := 2) (ok60_4 aw_ok1) (by omega) (by omega) (by omega) aw_y12
theorem aw_clp : clP 4 aw1 0 1 = [0, 1, 2] ∧ clP 4 aw1 0 2 = [0, 1, 2] ∧ clP 4 aw1 1 2 = [0, 1, 2] ∧ clP 4 aw1 2 3 = [2, 3] := by
  have e : List.range 4 = [0, 1, 2, 3] := rfl
  unfold clP inCb
  rw [e]
  refine ⟨?_, ?_, ?_, ?_⟩ <;> simp [aw_n30, aw_n31, aw_n03, aw_n13, aw_y01, aw_y02, aw_y12, aw_y10, aw_y20, aw_y21]
theorem aw_clu {ls : List (List Int)} (h : CluL 4 aw1 ls) : ls = [[0, 1, 2], [2, 3]] := by
  refine strictL_eq h.lt (by unfold LtL; simp [lexL]) (fun x => ?_)
  rw [h.mem]
  obtain ⟨h1, h2, h3, h4⟩ := aw_clp
  unfold aw1 at *
  simp [h1, h2, h3, h4]
theorem aw_ok2 : ∀ e ∈ aw2, OkE 4 e := ok_of_valid (n := 4) (by decide +kernel)
theorem aw_r2 : rankE aw2 = 5 := rank4 aw_ok2 (by decide +kernel)
theorem aw_v2 : validB 4 aw2 = true := by decide +kernel
theorem aw_mk2 : mkE 4 (ownE 4 aw2 [0, 1, 2, 3]) = some aw2 := by decide +kernel
theorem aw_rig : rigE 4 aw2 [0, 1, 2, 3] = true := by
  unfold rigE
  have e : mkE (([0, 1, 2, 3] : List Int).length : Nat) (ownE 4 aw2 [0, 1, 2, 3]) = some aw2 := aw_mk2
  rw [e]
  have h1 : (indE' (([0, 1, 2, 3] : List Int).length : Nat) aw2).length = 5 := by
    rw [indE'_len (by exact aw_v2), aw_r2]
  simp only [h1]
  decide
theorem aw_vir : virL 4 aw2 [0, 1, 2, 3] = [(0, 3)] := by
  have e1 : upB [0, 1, 2, 3] = true := by decide +kernel
  have e2 : ovB 4 [0, 1, 2, 3] = false := by decide +kernel
  rw [virL_yes (by unfold virOk; rw [aw_v2, e1, e2, aw_rig]; rfl)]
  decide +kernel
end Go.Proofs.YtcpkdnhpelkeoaaGreat
