/-
  Cover: each edge belongs to exactly one cluster, two clusters share at most one point, each is rigid by itself. No program stands in this text.
-/
import Derived.Test.YtagcaljpgifppaaKd
import Derived.Test.YtagcaljpgifppaaKc
namespace Go.Proofs.Ytagcaljpgifppaa
set_option linter.unusedVariables false
set_option linter.unusedSimpArgs false
open Go.RowKit Go.Sort

theorem ascB_of_pairwise' {n : Nat} {ps : List Int} (h : ∀ j, j < ps.length → 0 ≤ ps.getD j 0 ∧ ps.getD j 0 < n) (h2 : ∀ i j, i < j → j < ps.length → ps.getD i 0 < ps.getD j 0) : ascB n ps = true := ascB_iff.2 fun j hj => by
  have h1 := h j hj
  refine ⟨h1.1, h1.2, ?_⟩
  by_cases e : j = 0
  · exact .inl e
  · exact .inr (h2 (j - 1) j (by omega) hj)
def has2 (x y : Int) (l : List Int) : Bool := decide (x ∈ l) && decide (y ∈ l)
section
variable {n : Nat} {es : List (Int × Int)} {ls : List (List Int)}
theorem CluL.nodup (h : CluL n es ls) : ls.Nodup := h.lt.imp (fun {x y} h e => by
  subst e
  unfold LtL at h
  rw [lexL_irrefl] at h
  cases h)
theorem cover_one (hn : n ≤ 60) (hv : validB n es = true) (h : CluL n es ls) {e : Int × Int} (he : e ∈ es) : ls.countP (has2 e.1 e.2) = 1 := by
  have hok := ok_of_valid hv
  have ho : Ok60 es := fun e he => (hok e he).mono hn
  obtain ⟨u, v, rfl, hu, hv', huv⟩ := nat_edge (hok e he)
  obtain ⟨T, t1, t2, t3, t4⟩ := clP_set hn hok hu hv' huv (impE_mem ho he)
  have hl0 : clP n es u v ∈ ls := (h.mem _).2 ⟨_, he, by simp⟩
  obtain ⟨T', hT', e9⟩ := (cluL_max hn hok h _).1 hl0
  rw [t3] at e9
  obtain rfl := ptsK_inj t1 hT'.1 e9
  have key : ∀ l ∈ ls, (has2 (u : Int) (v : Int) l = true ↔ (l == clP n es u v) = true) := fun l hl => by
    rw [beq_iff_eq]
    unfold has2
    simp only [Bool.and_eq_true, decide_eq_true_eq]
    constructor
    · rintro ⟨h1, h2⟩
      obtain ⟨S, hS, rfl⟩ := (cluL_max hn hok h l).1 hl
      rw [t3]
      have b1 := (ptsK_mem.1 h1).2.2
      have b2 := (ptsK_mem.1 h2).2.2
      rw [Int.toNat_natCast] at b1 b2
      rw [MaxS.one hn hok hS hT' (cntB_pq (by omega : u < 60) (by omega : v < 60) huv (by rw [bit_and, b1, (t4 u hu).2 (.inl rfl)]; rfl) (by rw [bit_and, b2, (t4 v hv').2 (.inr (.inl rfl))]; rfl))]
    · rintro rfl
      rw [t3, ptsK_mem, ptsK_mem]
      simp only [Int.toNat_natCast]
      exact ⟨⟨by omega, by omega, (t4 u hu).2 (.inl rfl)⟩, by omega, by omega, (t4 v hv').2 (.inr (.inl rfl))⟩
  have e1 : ls.countP (has2 (u : Int) (v : Int)) = ls.count (clP n es u v) := by
    unfold List.count
    exact List.countP_congr key
  show ls.countP (has2 (u : Int) (v : Int)) = 1
  rw [e1, h.nodup.count, if_pos hl0]
theorem pts_common {S T : Nat} (hS : S < 2 ^ n) (hn : n ≤ 60) : (ptsK n S).countP (fun x => decide (x ∈ ptsK n T)) = cntB 60 (S &&& T) := by
  rw [cntB_wide hn (Nat.lt_of_le_of_lt Nat.and_le_left hS)]
  unfold cntB
  have e : (ptsK n S).countP (fun x => decide (x ∈ ptsK n T)) = (List.range n).countP (fun i => decide (((i : Nat) : Int) ∈ ptsK n T) && S.testBit i) := by
    conv => lhs; arg 2; unfold ptsK
    rw [List.countP_map, List.countP_filter]; rfl
  rw [e]
  refine List.countP_congr (fun i hi => ?_)
  have := List.mem_range.1 hi
  rw [bit_and]
  simp only [Bool.and_eq_true, decide_eq_true_eq, ptsK_mem, Int.toNat_natCast]
  constructor
  · rintro ⟨⟨-, -, h2⟩, h3⟩; exact ⟨h3, h2⟩
  · rintro ⟨h2, h3⟩; exact ⟨⟨by omega, by omega, h3⟩, h2⟩
theorem cover_two (hn : n ≤ 60) (hv : validB n es = true) (h : CluL n es ls) {i j : Nat} (hj : j < ls.length) (hi : i < ls.length) (hij : j ≠ i) : (ls.getD j []).countP (fun x => decide (x ∈ ls.getD i [])) ≤ 1 := by
  have hok := ok_of_valid hv
  have gi : ls.getD i [] = ls[i] := by rw [List.getD_eq_getElem?_getD, List.getElem?_eq_getElem hi]; rfl
  have gj : ls.getD j [] = ls[j] := by rw [List.getD_eq_getElem?_getD, List.getElem?_eq_getElem hj]; rfl
  rw [gi, gj]
  obtain ⟨S, hS, eS⟩ := (cluL_max hn hok h _).1 (List.getElem_mem hj)
  obtain ⟨T, hT, eT⟩ := (cluL_max hn hok h _).1 (List.getElem_mem hi)
  rw [eS, eT, pts_common hS.1 hn]
  apply Classical.byContradiction
  intro hc
  have e := MaxS.one hn hok hS hT (by omega)
  subst e
  have e3 : ls[j] = ls[i] := eS.trans eT.symm
  rcases Nat.lt_or_gt_of_ne hij with h1 | h1
  · exact List.pairwise_iff_getElem.1 h.nodup j i hj hi h1 e3
  · exact List.pairwise_iff_getElem.1 h.nodup i j hi hj h1 e3.symm
theorem pts_up (n S : Nat) : upB (ptsK n S) = true := upB_all fun j hj => by
  unfold upAt
  have h1 := ptsK_mem.1 (mem_getD hj)
  rw [decide_eq_true h1.1, Bool.true_and, Bool.or_eq_true, decide_eq_true_eq, decide_eq_true_eq]
  by_cases e : j = 0
  · exact .inl e
  · exact .inr (pts_lt (by omega) hj)
theorem pts_asc (n S : Nat) : ascB n (ptsK n S) = true := ascB_of_pairwise' (fun j hj => by
  have h1 := ptsK_mem.1 (mem_getD hj)
  exact ⟨h1.1, h1.2.1⟩) (fun i j hij hj => pts_lt hij hj)
theorem pts_setS {S : Nat} (hS : S < 2 ^ n) : setS (ptsK n S) = S := by
  apply Nat.eq_of_testBit_eq
  intro i
  have h := setS_mem (pts_asc n S) (x := (i : Int)) (by omega)
  rw [Int.toNat_natCast] at h
  rw [h, Bool.eq_iff_iff, decide_eq_true_eq, ptsK_mem, Int.toNat_natCast]
  constructor
  · rintro ⟨-, -, h2⟩; exact h2
  · intro h2; have := lt_bit hS h2; exact ⟨by omega, by omega, h2⟩
/-- Each list is one of points, rigid by itself. -/
structure CovL (n : Nat) (es : List (Int × Int)) (l : List Int) : Prop where
  up : upB l = true
  two : 2 ≤ l.length
  le : l.length ≤ n
  last : l.getD (l.length - 1) 0 < n
  asc : ascB n l = true
  rig : RigS es (setS l)
theorem cover_list (hn : n ≤ 60) (hv : validB n es = true) (h : CluL n es ls) {i : Nat} (hi : i < ls.length) : CovL n es (ls.getD i []) := by
  have hok := ok_of_valid hv
  have gi : ls.getD i [] = ls[i] := by rw [List.getD_eq_getElem?_getD, List.getElem?_eq_getElem hi]; rfl
  rw [gi]
  obtain ⟨S, hS, eS⟩ := (cluL_max hn hok h _).1 (List.getElem_mem hi)
  rw [eS]
  have hr : RigS es (setS (ptsK n S)) := by rw [pts_setS hS.1]; exact hS.2.1
  have hl := cntB_setS (pts_asc n S) (by omega)
  have h2 : 2 ≤ (ptsK n S).length := by rw [← hl]; exact hr.1
  exact ⟨pts_up n S, h2, ptsK_length_le n S, (ptsK_mem.1 (mem_getD (by omega : (ptsK n S).length - 1 < (ptsK n S).length))).2.1, pts_asc n S, hr⟩
theorem cover_lt (h : CluL n es ls) {i : Nat} (hi : i + 1 < ls.length) : lexL (ls.getD i []) (ls.getD (i + 1) []) = true := by
  have gi : ls.getD i [] = ls[i] := by rw [List.getD_eq_getElem?_getD, List.getElem?_eq_getElem (by omega)]; rfl
  have gj : ls.getD (i + 1) [] = ls[i + 1] := by rw [List.getD_eq_getElem?_getD, List.getElem?_eq_getElem hi]; rfl
  rw [gi, gj]
  exact List.pairwise_iff_getElem.1 h.lt i (i + 1) (by omega) hi (by omega)
def atP (ps : List Int) (i : Nat) : Int := ps.getD i 0
def jn (es : List (Int × Int)) (ps : List Int) (i k : Nat) : Bool := decide ((atP ps i, atP ps k) ∈ es)
theorem ind_eq {ps : List Int} (hv : validB n es = true) (h : ascB n ps = true) : pfU (jn es ps) castN ps.length ps.length = mkL ps.length (ownE n es ps) := by
  refine strict_eq (pfU_strict _) (mkL_strict _ _) (fun x => ?_)
  rw [mem_mkL_of (ownE_ends hv h), mem_pfU]
  constructor
  · rintro ⟨a, b, h1, h2, h3, h4, rfl⟩
    unfold jn at h4
    simp only [decide_eq_true_eq] at h4
    exact (mem_ownE hv h h1 h3).2 h4
  · intro hx
    have he := ownE_ends hv h x hx
    refine ⟨x.1.toNat, x.2.toNat, by omega, by omega, by omega, ?_, Prod.ext (by unfold castN; simp only; omega) (by unfold castN; simp only; omega)⟩
    unfold jn
    rw [decide_eq_true_eq]
    refine (mem_ownE hv h (by omega : x.1.toNat < ps.length) (by omega : x.2.toNat < ps.length)).1 ?_
    have e : (((x.1.toNat : Nat) : Int), ((x.2.toNat : Nat) : Int)) = x := Prod.ext (by simp only; omega) (by simp only; omega)
    rw [e]; exact hx
theorem ind_rigid {ps : List Int} (hn : n ≤ 60) (hv : validB n es = true) (h : CovL n es ps) : rigidE (ps.length : Nat) (pfU (jn es ps) castN ps.length ps.length) = true := by
  have hl : ps.length ≤ 60 := by have := h.le; omega
  rw [ind_eq hv h.asc]
  have h1 := rank_ownE hn hv h.asc
  have h2 := cntB_setS h.asc (by omega)
  have h3 := h.rig.2
  rw [← h1, h2] at h3
  unfold rigidE freeE
  rw [mkL_valid' hl, if_pos rfl, Bool.true_and, Bool.or_eq_true, decide_eq_true_eq, decide_eq_true_eq]
  right; omega
end
end Go.Proofs.Ytagcaljpgifppaa
