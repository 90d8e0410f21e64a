/-
  How the number of independent edges changes with a further edge, a further point, and how it is bounded. No program stands in this text.
-/
import Derived.Test.YtagcaljpgifppaaSpecP
import Derived.Test.YtagcaljpgifppaaSpecCA
import Derived.Test.YtagcaljpgifppaaSpecQ
namespace Go.Proofs.Ytagcaljpgifppaa
set_option linter.unusedVariables false
set_option linter.unusedSimpArgs false
open Go.RowKit Go.Sort

theorem cntB_fullN {n : Nat} (hn : n ≤ 60) : cntB 60 (2 ^ n - 1) = n := by
  have hp := Nat.two_pow_pos n
  rw [cntB_wide hn (by omega)]
  unfold cntB
  have : (List.range n).countP (fun i => (2 ^ n - 1).testBit i) = (List.range n).length := by
    rw [List.countP_eq_length]
    intro i hi
    rw [Nat.testBit_two_pow_sub_one]
    exact decide_eq_true (List.mem_range.1 hi)
  rw [this, List.length_range]
theorem rank_le_2n {n : Nat} {es : List (Int × Int)} (hn : n ≤ 60) (h2 : 2 ≤ n) (hok : ∀ e ∈ es, OkE n e) : (rankE es : Int) ≤ 2 * (n : Int) - 3 := by
  have ho : Ok60 es := fun e he => (hok e he).mono hn
  have h := basE_spA ho (2 ^ n - 1) (by rw [cntB_fullN hn]; exact h2)
  rw [cntB_fullN hn, span_all (fun e he => ?_)] at h
  · exact h
  · obtain ⟨p1, p2, p3, p4, p5⟩ := hok e ((basE_sub es).subset he)
    unfold bothB
    rw [Nat.testBit_two_pow_sub_one, Nat.testBit_two_pow_sub_one, decide_eq_true (by omega : e.1.toNat < n), decide_eq_true (by omega : e.2.toNat < n)]; rfl
theorem rank_one {es : List (Int × Int)} (e : Int × Int) : rankE (es ++ [e]) = rankE es ∨ rankE (es ++ [e]) = rankE es + 1 := by
  rw [rankE_one]
  have := addE_len (basE es) e
  rw [basE_len] at this
  omega
theorem valid_ends {n : Nat} {es : List (Int × Int)} (hv : validB n es = true) : ∀ e ∈ es, 0 ≤ e.1 ∧ e.1 < e.2 ∧ e.2 < (n : Int) := ends_mem hv
theorem mkL_perm {n : Nat} {L : List (Int × Int)} (he : ∀ e ∈ L, 0 ≤ e.1 ∧ e.1 < e.2 ∧ e.2 < (n : Int)) (hd : L.Nodup) : (mkL n L).Perm L :=
  (List.perm_ext_iff_of_nodup (nodup_lt2 (mkL_strict _ _)) hd).2 (mem_mkL_of he)
theorem mkL_ok {n : Nat} {L : List (Int × Int)} : ∀ e ∈ mkL n L, OkE n e := fun e he => by
  have := mem_mkL.1 he
  exact ⟨by omega, by omega, by omega, by omega, by omega⟩
theorem valid_nodup {n : Nat} {es : List (Int × Int)} (hv : validB n es = true) : es.Nodup := nodup_lt2 (valid_strict hv)
theorem mkL_id {n : Nat} {es : List (Int × Int)} (hv : validB n es = true) : mkL n es = es :=
  strict_eq (mkL_strict n es) (valid_strict hv) (mem_mkL_of (valid_ends hv))
theorem mkL_same {n : Nat} {L M : List (Int × Int)} (h : ∀ a b, pairsB L a b = pairsB M a b) : mkL n L = mkL n M :=
  strict_eq (mkL_strict n L) (mkL_strict n M) (fun x => by rw [mem_mkL, mem_mkL, h])
/-- A graph with a further pair. -/
theorem mk_one {n : Nat} {es : List (Int × Int)} {x y : Nat} (hn : n ≤ 60) (hv : validB n es = true) (hok : ∀ e ∈ es, OkE n e) (hx : x < n) (hy : y < n) (hxy : x ≠ y) :
    rankE (mkL n (es ++ [((x : Int), (y : Int))])) = rankE (es ++ [edgeI ((x : Int), (y : Int))]) := by
  have ho : Ok60 es := fun e he => (hok e he).mono hn
  have hE := valid_ends hv
  have he : 0 ≤ (edgeI ((x : Int), (y : Int))).1 ∧ (edgeI ((x : Int), (y : Int))).1 < (edgeI ((x : Int), (y : Int))).2 ∧ (edgeI ((x : Int), (y : Int))).2 < (n : Int) := by
    unfold edgeI; simp only; omega
  have hsame : mkL n (es ++ [((x : Int), (y : Int))]) = mkL n (es ++ [edgeI ((x : Int), (y : Int))]) := by
    refine mkL_same (fun a b => ?_)
    rw [Bool.eq_iff_iff, mem_pairsB, mem_pairsB]
    simp only [List.mem_append, List.mem_singleton]
    unfold edgeI
    simp only [Prod.mk.injEq]
    rcases Nat.lt_or_ge x y with h | h
    · rw [show min (x : Int) y = x by omega, show max (x : Int) y = y by omega]
    · rw [show min (x : Int) y = y by omega, show max (x : Int) y = x by omega]
      constructor <;> (intro h'; rcases h' with (h' | h') | (h' | h') <;> simp [h'])
  rw [hsame]
  by_cases hm : edgeI ((x : Int), (y : Int)) ∈ es
  · have h1 : mkL n (es ++ [edgeI ((x : Int), (y : Int))]) = es := by
      refine Eq.trans ?_ (mkL_id hv)
      refine mkL_same (fun a b => ?_)
      rw [Bool.eq_iff_iff, mem_pairsB, mem_pairsB]
      simp only [List.mem_append, List.mem_singleton]
      constructor
      · rintro ((h | h) | (h | h))
        · exact .inl h
        · exact .inl (h ▸ hm)
        · exact .inr h
        · exact .inr (h ▸ hm)
      · rintro (h | h)
        · exact .inl (.inl h)
        · exact .inr (.inl h)
    rw [h1]
    exact (impE_mem ho hm).symm
  · have hp : (mkL n (es ++ [edgeI ((x : Int), (y : Int))])).Perm (es ++ [edgeI ((x : Int), (y : Int))]) := mkL_perm
      (fun e h => by
        rcases List.mem_append.1 h with h | h
        · exact hE e h
        · rw [List.mem_singleton] at h; subst h; exact he)
      (by
        rw [List.nodup_append]
        refine ⟨valid_nodup hv, by simp, fun a ha b hb => ?_⟩
        rw [List.mem_singleton] at hb
        subst hb
        exact fun e => hm (e ▸ ha))
    exact rankE_perm hp (fun e h => (mkL_ok e h).mono hn)

/-- A further point with two edges: two more independent edges. -/
theorem henn_rank {n : Nat} {es : List (Int × Int)} {a b : Int} (hn : n < 60) (h : HennOk n es a b (-1)) (hok : ∀ e ∈ es, OkE n e) : rankE (mkL (n + 1) (hennL n es a b (-1))) = rankE es + 2 := by
  have ho : Ok60 es := fun e he => (hok e he).mono (by omega)
  have hp := h.perm
  rw [show ((n : Int) + 1).toNat = n + 1 by omega] at hp
  have o60 : ∀ x, (0 ≤ x ∧ x < (n : Int)) → OkE 60 (x, (n : Int)) := fun x hx => ⟨by simp; omega, by simp; omega, by simp, by simp; omega, by simp; omega⟩
  have e1 : hennL n es a b (-1) = [(a, (n : Int)), (b, (n : Int))] ++ es := by
    unfold hennL
    rw [if_neg (by omega)]
    have : es.filter (keepH a b (-1)) = es := by
      rw [List.filter_eq_self]; intro x _; unfold keepH; simp
    rw [this]; simp
  rw [rankE_perm hp (fun e he => (mkL_ok e he).mono (by omega)), e1]
  have hop : Ok60 ([(a, (n : Int)), (b, (n : Int))] ++ es) := Ok60.app (fun x hx => by
    simp at hx
    rcases hx with rfl | rfl
    · exact o60 _ ⟨h.a0, h.a1⟩
    · exact o60 _ ⟨h.b0, h.b1⟩) ho
  rw [rankE_perm List.perm_append_comm hop]
  -- the basis with the two new edges is independent
  have hs : SpA (basE es ++ [(a, (n : Int)), (b, (n : Int))]) := by
    intro S h2
    have h1 := basE_spA ho
    rw [spanS_app]
    have e2 : spanS [(a, (n : Int)), (b, (n : Int))] S = (if S.testBit a.toNat && S.testBit n then 1 else 0) + (if S.testBit b.toNat && S.testBit n then 1 else 0) := by
      unfold spanS bothB
      simp only [List.countP_cons, List.countP_nil, Int.toNat_natCast]
      split <;> split <;> simp_all
    rw [e2]
    by_cases hS : S.testBit n = true
    · have c := cntB_drop (S := S) hn hS
      have hsp : spanS (basE es) S = spanS (basE es) (S ^^^ 2 ^ n) := spanS_congr (fun e hm => by
        obtain ⟨p1, p2, p3, p4, p5⟩ := hok e ((basE_sub es).subset hm)
        unfold bothB
        rw [bit_drop (by omega), bit_drop (by omega)])
      rw [hsp]
      have ha1 := h.a1
      have ha0 := h.a0
      have hb1 := h.b1
      have hb0 := h.b0
      have hab := h.ab
      by_cases h3 : 2 ≤ cntB 60 (S ^^^ 2 ^ n)
      · have := h1 _ h3
        split <;> split <;> omega
      · have h0 : spanS (basE es) (S ^^^ 2 ^ n) = 0 := by
          unfold spanS
          have : (basE es).countP (bothB (S ^^^ 2 ^ n)) = 0 := by
            rw [List.countP_eq_zero]
            intro e he hb
            exact h3 ((basE_ok ho e he).two hb)
          rw [this]; rfl
        rw [h0]
        have hone : ¬ (S.testBit a.toNat = true ∧ S.testBit b.toNat = true) := fun ⟨x, y⟩ => h3 (cntB_two (p := a.toNat) (q := b.toNat) (by omega) (by omega) (by omega) (by rw [bit_drop (by omega)]; exact x) (by rw [bit_drop (by omega)]; exact y))
        rw [hS]
        simp only [Bool.and_true]
        by_cases hx : S.testBit a.toNat = true
        · have hy : ¬ S.testBit b.toNat = true := fun h => hone ⟨hx, h⟩
          rw [if_pos hx, if_neg hy]; omega
        · rw [if_neg hx]
          split <;> omega
    · have := h1 S h2
      simp only [Bool.not_eq_true] at hS
      rw [hS]
      simp
      omega
  have hbo : Ok60 (basE es ++ [(a, (n : Int)), (b, (n : Int))]) := (basE_ok ho).app (fun x hx => hop x (by simp only [List.mem_append]; exact .inl hx))
  unfold rankE
  rw [grd_app]
  have := grd_whole (I := basE es) (l := [(a, (n : Int)), (b, (n : Int))]) (basE_ok ho) (fun x hx => hop x (by simp only [List.mem_append]; exact .inl hx)) hs
  unfold basE at this
  rw [this]; simp
end Go.Proofs.Ytagcaljpgifppaa
