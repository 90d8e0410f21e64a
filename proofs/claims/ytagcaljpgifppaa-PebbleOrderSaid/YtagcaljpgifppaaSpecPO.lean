/-
  The number of independent edges, and of redundant edges, does not depend on the numbers of the points. No program stands in this text.
-/
import Derived.Test.YtagcaljpgifppaaSpecPB
import Derived.Test.YtagcaljpgifppaaMb
namespace Go.Proofs.Ytagcaljpgifppaa
set_option linter.unusedVariables false
set_option linter.unusedSimpArgs false
open Go.RowKit Go.Sort

/-- s and t are inverse to each other below 60. -/
def Bij (s t : Nat → Nat) : Prop := ∀ i, i < 60 → s i < 60 ∧ t i < 60 ∧ s (t i) = i ∧ t (s i) = i
theorem Bij.symm {s t : Nat → Nat} (h : Bij s t) : Bij t s := fun i hi => ⟨(h i hi).2.1, (h i hi).1, (h i hi).2.2.2, (h i hi).2.2.1⟩
theorem set_of (f : Nat → Bool) : ∃ T : Nat, ∀ i, i < 60 → T.testBit i = f i := by
  refine ⟨setS (((List.range 60).filter f).map fun (i : Nat) => (i : Int)), fun i hi => ?_⟩
  rw [setS_bit, List.any_map]
  cases h : f i
  · rw [List.any_eq_false]
    intro x hx
    have := List.mem_filter.1 hx
    simp only [Function.comp, Int.toNat_natCast, decide_eq_true_eq]
    intro e
    rw [e, h] at this
    cases this.2
  · rw [List.any_eq_true]
    exact ⟨i, List.mem_filter.2 ⟨List.mem_range.2 hi, h⟩, by simp⟩
theorem Bij.perm {s t : Nat → Nat} (h : Bij s t) : ((List.range 60).map s).Perm (List.range 60) := by
  refine (List.perm_ext_iff_of_nodup ?_ List.nodup_range).2 (fun x => ?_)
  · unfold List.Nodup
    rw [List.pairwise_map]
    refine (List.pairwise_iff_getElem.2 fun i j hi hj hij => ?_)
    simp only [List.getElem_range]
    simp at hi hj
    intro e
    have h1 := (h i hi).2.2.2
    have h2 := (h j hj).2.2.2
    rw [e, h2] at h1
    omega
  · rw [List.mem_map, List.mem_range]
    constructor
    · rintro ⟨i, hi, rfl⟩
      exact (h i (List.mem_range.1 hi)).1
    · intro hx
      exact ⟨t x, List.mem_range.2 (h x hx).2.1, (h x hx).2.2.1⟩
/-- The edge between the new numbers. -/
def relE (s : Nat → Nat) (e : Int × Int) : Int × Int := edgeI ((s e.1.toNat : Int), (s e.2.toNat : Int))
theorem edgeI_bothB (S : Nat) (e : Int × Int) : bothB S (edgeI e) = bothB S e := by
  obtain ⟨a, b⟩ := e
  unfold edgeI bothB
  simp only
  rcases Int.lt_or_le a b with h | h
  · rw [show min a b = a by omega, show max a b = b by omega]
  · rw [show min a b = b by omega, show max a b = a by omega, Bool.and_comm]
theorem relE_bothB (s : Nat → Nat) (S : Nat) (e : Int × Int) : bothB S (relE s e) = (S.testBit (s e.1.toNat) && S.testBit (s e.2.toNat)) := by
  unfold relE; rw [edgeI_bothB]; unfold bothB; simp
theorem relE_ok {s t : Nat → Nat} (h : Bij s t) {e : Int × Int} (he : OkE 60 e) : OkE 60 (relE s e) := by
  obtain ⟨p1, p2, p3, p4, p5⟩ := he
  have a := h e.1.toNat (by omega)
  have b := h e.2.toNat (by omega)
  have : s e.1.toNat ≠ s e.2.toNat := fun e' => by
    have h1 := a.2.2.2
    have h2 := b.2.2.2
    rw [e', h2] at h1
    omega
  unfold relE edgeI OkE
  simp only
  omega
theorem SpA.rel {s t : Nat → Nat} {J : List (Int × Int)} (h : Bij s t) (hJ : Ok60 J) (hs : SpA J) : SpA (J.map (relE s)) := by
  intro S h2
  obtain ⟨T, hT⟩ := set_of (fun i => S.testBit (s i))
  have e1 : spanS (J.map (relE s)) S = spanS J T := by
    unfold spanS
    rw [List.countP_map]
    rw [List.countP_congr (fun x hx => ?_)]
    obtain ⟨p1, p2, p3, p4, p5⟩ := hJ x hx
    simp only [Function.comp, relE_bothB]
    unfold bothB
    rw [hT _ (by omega), hT _ (by omega)]
  have e2 : cntB 60 T = cntB 60 S := by
    have h1 : cntB 60 T = (List.range 60).countP (fun i => S.testBit (s i)) := by
      unfold cntB
      exact List.countP_congr (fun i hi => by rw [hT i (List.mem_range.1 hi)])
    have h3 : cntB 60 S = ((List.range 60).map s).countP (fun i => S.testBit i) := by
      unfold cntB; exact (h.perm.countP_eq _).symm
    rw [h1, h3, List.countP_map]; rfl
  rw [e1, ← e2]
  exact hs T (by rw [e2]; exact h2)
theorem rank_rel_le {s t : Nat → Nat} {L : List (Int × Int)} (h : Bij s t) (hL : Ok60 L) : rankE L ≤ rankE (L.map (relE s)) := by
  have h1 := rank_ge (J := (basE L).map (relE s)) (L := L.map (relE s)) (fun e he => by
    obtain ⟨x, hx, rfl⟩ := List.mem_map.1 he
    exact relE_ok h (hL x hx)) (SpA.rel h (basE_ok hL) (basE_spA hL)) ((basE_sub L).map _)
  rw [List.length_map, basE_len] at h1
  exact h1
/-- Each edge goes from the lower number to the higher one. -/
def UpE (L : List (Int × Int)) : Prop := ∀ e ∈ L, 0 ≤ e.1 ∧ e.1 < e.2 ∧ e.2 < 60
theorem relE_back {s t : Nat → Nat} (h : Bij s t) {e : Int × Int} (he : 0 ≤ e.1 ∧ e.1 < e.2 ∧ e.2 < 60) : relE t (relE s e) = e := by
  obtain ⟨a, b⟩ := e
  simp only at he
  have ha := h a.toNat (by omega)
  have hb := h b.toNat (by omega)
  unfold relE edgeI
  simp only
  rcases Nat.lt_or_ge (s a.toNat) (s b.toNat) with h1 | h1
  · rw [show min (s a.toNat : Int) (s b.toNat) = (s a.toNat : Int) by omega, show max (s a.toNat : Int) (s b.toNat) = (s b.toNat : Int) by omega]
    simp only [Int.toNat_natCast]
    rw [ha.2.2.2, hb.2.2.2]
    exact Prod.ext (by simp; omega) (by simp; omega)
  · rw [show min (s a.toNat : Int) (s b.toNat) = (s b.toNat : Int) by omega, show max (s a.toNat : Int) (s b.toNat) = (s a.toNat : Int) by omega]
    simp only [Int.toNat_natCast]
    rw [ha.2.2.2, hb.2.2.2]
    exact Prod.ext (by simp; omega) (by simp; omega)
theorem UpE.ok {L : List (Int × Int)} (h : UpE L) : Ok60 L := fun e he => by
  have := h e he; exact ⟨by omega, by omega, by omega, by omega, by omega⟩
theorem rank_rel {s t : Nat → Nat} {L : List (Int × Int)} (h : Bij s t) (hL : UpE L) : rankE (L.map (relE s)) = rankE L := by
  have h1 := rank_rel_le h hL.ok
  have h2 := rank_rel_le (L := L.map (relE s)) h.symm (fun e he => by
    obtain ⟨x, hx, rfl⟩ := List.mem_map.1 he
    exact relE_ok h (hL.ok x hx))
  have e : (L.map (relE s)).map (relE t) = L := by
    rw [List.map_map]
    refine (List.map_congr_left (fun x hx => ?_)).trans (List.map_id L)
    exact relE_back h (hL x hx)
  rw [e] at h2
  omega

/-- How many edges are redundant. -/
def redC (L : List (Int × Int)) : Nat := L.countP fun e => decide (rankE (L.filter fun x => !decide (x = e)) = rankE L)
theorem redC_perm {L M : List (Int × Int)} (h : L.Perm M) (hL : Ok60 L) : redC L = redC M := by
  unfold redC
  rw [h.countP_eq]
  refine List.countP_congr (fun e he => ?_)
  rw [rankE_perm h hL, rankE_perm (h.filter _) (ok60_filter hL _)]
theorem redC_rel {s t : Nat → Nat} {L : List (Int × Int)} (h : Bij s t) (hL : UpE L) : redC (L.map (relE s)) = redC L := by
  unfold redC
  rw [List.countP_map]
  refine List.countP_congr (fun e he => ?_)
  simp only [Function.comp]
  have e1 : (L.map (relE s)).filter (fun x => !decide (x = relE s e)) = (L.filter fun x => !decide (x = e)).map (relE s) := by
    rw [List.filter_map]
    congr 1
    refine List.filter_congr (fun x hx => ?_)
    simp only [Function.comp]
    have : (relE s x = relE s e) ↔ x = e := ⟨fun h' => by
      have h2 := relE_back h (hL x hx)
      rw [h', relE_back h (hL e he)] at h2
      exact h2.symm, fun h' => by rw [h']⟩
    rw [decide_eq_decide.2 this]
  rw [e1, rank_rel h hL, rank_rel h (fun x hx => hL x (List.mem_filter.1 hx).1)]
theorem redK_count {es : List (Int × Int)} (hd : es.Nodup) : (redK es es.length).length = redC es := by
  unfold redK redC
  rw [List.length_map, ← List.countP_eq_length_filter]
  have key : es = (List.range es.length).map (fun i => es.getD i (0, 0)) := by
    apply List.ext_getElem
    · simp
    · intro i h1 h2
      simp [List.getD_eq_getElem?_getD, List.getElem?_eq_getElem h1]
  conv => rhs; arg 2; rw [key]
  rw [List.countP_map]
  refine List.countP_congr (fun i hi => ?_)
  have hi' := List.mem_range.1 hi
  simp only [Function.comp]
  unfold redB
  have e1 : es.eraseIdx i = es.filter (fun x => !decide (x = es.getD i (0, 0))) := by
    rw [List.getD_eq_getElem?_getD, List.getElem?_eq_getElem hi', Option.getD_some, ← List.erase_eq_eraseIdx_of_idxOf (hd.idxOf_getElem i hi'), hd.erase_eq_filter]
    refine List.filter_congr (fun x _ => ?_)
    rw [Bool.eq_iff_iff]; simp
  rw [e1]

/-- A list of numbers that holds each number below n once. -/
def PermL (n : Nat) (p : List Int) : Prop := p.Perm ((List.range n).map fun (i : Nat) => (i : Int))
theorem PermL.len {n : Nat} {p : List Int} (h : PermL n p) : p.length = n := by rw [h.length_eq]; simp
theorem PermL.nodup {n : Nat} {p : List Int} (h : PermL n p) : p.Nodup := by
  refine h.symm.nodup ?_
  unfold List.Nodup
  rw [List.pairwise_map]
  exact (List.pairwise_lt_range (n := n)).imp fun h => by omega
theorem PermL.mem {n : Nat} {p : List Int} (h : PermL n p) (x : Int) : x ∈ p ↔ 0 ≤ x ∧ x < n := by
  rw [h.mem_iff, List.mem_map]
  constructor
  · rintro ⟨i, hi, rfl⟩
    have := List.mem_range.1 hi
    omega
  · intro hx
    exact ⟨x.toNat, List.mem_range.2 (by omega), by omega⟩
def sgm (n : Nat) (p : List Int) (i : Nat) : Nat := if i < n then (p.getD i 0).toNat else i
def tau (n : Nat) (p : List Int) (i : Nat) : Nat := if i < n then p.idxOf (i : Int) else i
theorem PermL.at {n : Nat} {p : List Int} (h : PermL n p) {i : Nat} (hi : i < n) : 0 ≤ p.getD i 0 ∧ p.getD i 0 < n := (h.mem _).1 (mem_getD (by rw [h.len]; exact hi))
theorem PermL.bij {n : Nat} {p : List Int} (h : PermL n p) (hn : n ≤ 60) : Bij (sgm n p) (tau n p) := by
  intro i hi
  by_cases hin : i < n
  · have hm : (i : Int) ∈ p := (h.mem _).2 (by omega)
    have hix := List.idxOf_lt_length_iff.2 hm
    have hl := h.len
    have ha := h.at hin
    have e1 : p.getD (p.idxOf (i : Int)) 0 = (i : Int) := by
      rw [List.getD_eq_getElem?_getD, List.getElem?_eq_getElem hix, Option.getD_some, List.getElem_idxOf hix]
    have e2 : p.idxOf (p.getD i 0) = i := by
      rw [List.getD_eq_getElem?_getD, List.getElem?_eq_getElem (by omega), Option.getD_some]
      exact h.nodup.idxOf_getElem i (by omega)
    refine ⟨?_, ?_, ?_, ?_⟩
    · unfold sgm; rw [if_pos hin]; omega
    · unfold tau; rw [if_pos hin]; omega
    · unfold sgm tau; rw [if_pos hin, if_pos (by omega), e1]; omega
    · unfold sgm tau
      rw [if_pos hin, if_pos (by omega), Int.toNat_of_nonneg ha.1, e2]
  · unfold sgm tau
    simp only [if_neg hin, and_self, and_true]; exact hi
/-- The edges with new numbers, as they stand. -/
def prmL (p : List Int) (es : List (Int × Int)) : List (Int × Int) := es.map fun e => (p.getD e.1.toNat 0, p.getD e.2.toNat 0)
theorem prm_edge {n : Nat} {p : List Int} (h : PermL n p) {e : Int × Int} (he : 0 ≤ e.1 ∧ e.1 < e.2 ∧ e.2 < (n : Int)) : edgeI (p.getD e.1.toNat 0, p.getD e.2.toNat 0) = relE (sgm n p) e := by
  have h1 := h.at (i := e.1.toNat) (by omega)
  have h2 := h.at (i := e.2.toNat) (by omega)
  unfold relE sgm
  rw [if_pos (by omega), if_pos (by omega), Int.toNat_of_nonneg h1.1, Int.toNat_of_nonneg h2.1]
theorem mkL_prm {n : Nat} {p : List Int} {es : List (Int × Int)} (hn : n ≤ 60) (hv : validB n es = true) (h : PermL n p) : (mkL n (prmL p es)).Perm (es.map (relE (sgm n p))) := by
  have hE := valid_ends hv
  have hb := h.bij hn
  have hup : UpE es := fun e he => by have := hE e he; omega
  have e1 : mkL n (prmL p es) = mkL n (es.map (relE (sgm n p))) := by
    have e2 : es.map (relE (sgm n p)) = (prmL p es).map edgeI := by
      unfold prmL
      rw [List.map_map]
      exact List.map_congr_left (fun e he => (prm_edge h (hE e he)).symm)
    rw [e2]
    refine mkL_same (fun a b => ?_)
    rw [Bool.eq_iff_iff, mem_pairsB, mem_pairsB]
    have sw : ∀ (L : List (Int × Int)), ((a, b) ∈ L.map edgeI ∨ (b, a) ∈ L.map edgeI) ↔ ((a, b) ∈ L ∨ (b, a) ∈ L) := by
      intro L
      simp only [List.mem_map]
      constructor
      · rintro (⟨⟨x, y⟩, hx, he⟩ | ⟨⟨x, y⟩, hx, he⟩)
        all_goals
          unfold edgeI at he
          simp only [Prod.mk.injEq] at he
          rcases Int.lt_or_le x y with hxy | hxy
          · rw [show min x y = x by omega, show max x y = y by omega] at he
            obtain ⟨rfl, rfl⟩ := he
            first | exact .inl hx | exact .inr hx
          · rw [show min x y = y by omega, show max x y = x by omega] at he
            obtain ⟨rfl, rfl⟩ := he
            first | exact .inr hx | exact .inl hx
      · intro hx
        rcases Int.lt_or_le a b with hab | hab
        · have e1 : edgeI (a, b) = (a, b) := by unfold edgeI; rw [show min a b = a by omega, show max a b = b by omega]
          have e2 : edgeI (b, a) = (a, b) := by unfold edgeI; rw [show min b a = a by omega, show max b a = b by omega]
          rcases hx with hx | hx
          · exact .inl ⟨_, hx, e1⟩
          · exact .inl ⟨_, hx, e2⟩
        · have e1 : edgeI (a, b) = (b, a) := by unfold edgeI; rw [show min a b = b by omega, show max a b = a by omega]
          have e2 : edgeI (b, a) = (b, a) := by unfold edgeI; rw [show min b a = b by omega, show max b a = a by omega]
          rcases hx with hx | hx
          · exact .inr ⟨_, hx, e1⟩
          · exact .inr ⟨_, hx, e2⟩
    exact (sw _).symm
  rw [e1]
  refine mkL_perm (fun e he => ?_) ?_
  · obtain ⟨x, hx, rfl⟩ := List.mem_map.1 he
    have hx' := hE x hx
    rw [← prm_edge h hx']
    have h1 := h.at (i := x.1.toNat) (by omega)
    have h2 := h.at (i := x.2.toNat) (by omega)
    have h3 : p.getD x.1.toNat 0 ≠ p.getD x.2.toNat 0 := fun e => by
      have a := (hb x.1.toNat (by omega)).2.2.2
      have b := (hb x.2.toNat (by omega)).2.2.2
      have es : sgm n p x.1.toNat = sgm n p x.2.toNat := by unfold sgm; rw [if_pos (by omega), if_pos (by omega), e]
      rw [es, b] at a
      omega
    unfold edgeI
    simp only
    omega
  · unfold List.Nodup
    rw [List.pairwise_map]
    refine (valid_nodup hv).imp_of_mem (fun {x y} hx hy hne e => hne ?_)
    have h2 := relE_back hb (hup x hx)
    rw [e, relE_back hb (hup y hy)] at h2
    exact h2.symm
theorem order_rank {n : Nat} {p : List Int} {es : List (Int × Int)} (hn : n ≤ 60) (hv : validB n es = true) (h : PermL n p) : rankE (mkL n (prmL p es)) = rankE es := by
  have hE := valid_ends hv
  rw [rankE_perm (mkL_prm hn hv h) (fun e he => (mkL_ok e he).mono hn), rank_rel (h.bij hn) (fun e he => by have := hE e he; omega)]
theorem order_red {n : Nat} {p : List Int} {es : List (Int × Int)} (hn : n ≤ 60) (hv : validB n es = true) (h : PermL n p) : (redE n (mkL n (prmL p es))).length = (redE n es).length := by
  have hE := valid_ends hv
  unfold redE
  rw [if_pos hv, if_pos (mkL_valid' hn), redK_count (valid_nodup hv), redK_count (nodup_lt2 (mkL_strict n _)), redC_perm (mkL_prm hn hv h) (fun e he => (mkL_ok e he).mono hn), redC_rel (h.bij hn) (fun e he => by have := hE e he; omega)]
/-- Two entries change places. -/
theorem PermL.swap {n : Nat} {p : List Int} (h : PermL n p) {a b : Nat} (ha : a < n) (hb : b < n) : PermL n ((p.set a (p.getD b 0)).set b (p.getD a 0)) := by
  have hl := h.len
  have e1 : p.getD b 0 = p[b]'(by omega) := by rw [List.getD_eq_getElem?_getD, List.getElem?_eq_getElem (by omega)]; rfl
  have e2 : p.getD a 0 = p[a]'(by omega) := by rw [List.getD_eq_getElem?_getD, List.getElem?_eq_getElem (by omega)]; rfl
  rw [e1, e2]
  exact (List.set_set_perm (by omega) (by omega)).trans h
theorem PermL.start (n : Nat) : PermL n ((List.range n).map fun (i : Nat) => (i : Int)) := List.Perm.refl _
end Go.Proofs.Ytagcaljpgifppaa
