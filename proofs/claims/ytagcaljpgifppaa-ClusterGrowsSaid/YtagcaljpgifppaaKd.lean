/-
  The plain laws of the clusters: joined texts.
-/
import Derived.Test.YtagcaljpgifppaaKc
namespace Go.Proofs.Ytagcaljpgifppaa
set_option linter.unusedVariables false
set_option linter.unusedSimpArgs false
open Go.RowKit Go.Sort

/-- The edge between the new numbers. -/
def mN (s : Nat → Nat) (e : Int × Int) : Int × Int := ((s e.1.toNat : Int), (s e.2.toNat : Int))
/-- t undoes s on the points of P. -/
def InjP (P : Nat → Bool) (s t : Nat → Nat) : Prop := ∀ i, P i = true → i < 60 ∧ s i < 60 ∧ t (s i) = i
def OnP (P : Nat → Bool) (L : List (Int × Int)) : Prop := ∀ e ∈ L, OkE 60 e ∧ P e.1.toNat = true ∧ P e.2.toNat = true
theorem mN_bothB (s : Nat → Nat) (S : Nat) (e : Int × Int) : bothB S (mN s e) = (S.testBit (s e.1.toNat) && S.testBit (s e.2.toNat)) := by unfold mN bothB; simp
theorem setOf60 (f : Nat → Bool) : ∃ T : Nat, ∀ i, i < 60 → T.testBit i = f i := by
  refine ⟨setS (((List.range 60).filter f).map fun (i : Nat) => (i : Int)), fun i hi => ?_⟩
  rw [setS_bit, List.any_map]
  cases h : f i
  · rw [List.any_eq_false]
    intro x hx
    have := List.mem_filter.1 hx
    simp only [Function.comp, Int.toNat_natCast, decide_eq_true_eq]
    intro e
    rw [e, h] at this
    cases this.2
  · rw [List.any_eq_true]
    exact ⟨i, List.mem_filter.2 ⟨List.mem_range.2 hi, h⟩, by simp⟩
theorem OnP.ok {P : Nat → Bool} {L : List (Int × Int)} (h : OnP P L) : Ok60 L := fun e he => (h e he).1
theorem OnP.mN_ok {P : Nat → Bool} {s t : Nat → Nat} {L : List (Int × Int)} (hi : InjP P s t) (h : OnP P L) : Ok60 (L.map (mN s)) := fun e he => by
  obtain ⟨x, hx, rfl⟩ := List.mem_map.1 he
  obtain ⟨⟨p1, p2, p3, p4, p5⟩, q1, q2⟩ := h x hx
  have a := hi _ q1
  have b := hi _ q2
  have hne : s x.1.toNat ≠ s x.2.toNat := fun e => by
    have h1 := a.2.2
    rw [e, b.2.2] at h1
    omega
  unfold mN OkE
  simp only
  omega
theorem SpA.inj {P : Nat → Bool} {s t : Nat → Nat} {J : List (Int × Int)} (h : InjP P s t) (hJ : OnP P J) (hs : SpA J) : SpA (J.map (mN s)) := by
  intro S h2
  obtain ⟨T, hT⟩ := setOf60 (fun i => P i && S.testBit (s i))
  have e1 : spanS (J.map (mN s)) S = spanS J T := by
    unfold spanS
    rw [List.countP_map]
    rw [List.countP_congr (fun x hx => ?_)]
    obtain ⟨⟨p1, p2, p3, p4, p5⟩, q1, q2⟩ := hJ x hx
    simp only [Function.comp, mN_bothB]
    unfold bothB
    rw [hT _ (by omega), hT _ (by omega), q1, q2, Bool.true_and, Bool.true_and]
  have e2 : cntB 60 T ≤ cntB 60 S := by
    unfold cntB
    rw [List.countP_eq_length_filter, List.countP_eq_length_filter]
    have h1 := nodup_len_le (((List.range 60).filter fun i => T.testBit i).map s) ((List.range 60).filter fun i => S.testBit i) (by
      unfold List.Nodup
      rw [List.pairwise_map]
      refine List.Pairwise.imp_of_mem (fun {a b} ha hb hne e => ?_) (List.nodup_range.filter _)
      have ha' := List.mem_filter.1 ha
      have hb' := List.mem_filter.1 hb
      have ia := List.mem_range.1 ha'.1
      have ib := List.mem_range.1 hb'.1
      have ta := ha'.2
      have tb := hb'.2
      rw [hT _ ia, Bool.and_eq_true] at ta
      rw [hT _ ib, Bool.and_eq_true] at tb
      have h1 := (h _ ta.1).2.2
      rw [e, (h _ tb.1).2.2] at h1
      exact hne h1.symm) (fun x hx => by
      obtain ⟨a, ha, rfl⟩ := List.mem_map.1 hx
      have ha' := List.mem_filter.1 ha
      have ia := List.mem_range.1 ha'.1
      have ta := ha'.2
      rw [hT _ ia, Bool.and_eq_true] at ta
      exact List.mem_filter.2 ⟨List.mem_range.2 (h _ ta.1).2.1, ta.2⟩)
    simpa using h1
  rw [e1]
  by_cases h3 : 2 ≤ cntB 60 T
  · have := hs T h3; omega
  · have : spanS J T = 0 := by
      unfold spanS
      have : J.countP (bothB T) = 0 := by
        rw [List.countP_eq_zero]
        intro e he hb
        have := (hJ e he).1.two hb
        omega
      rw [this]; rfl
    omega
theorem rank_inj_le {P : Nat → Bool} {s t : Nat → Nat} {L : List (Int × Int)} (h : InjP P s t) (hL : OnP P L) : rankE L ≤ rankE (L.map (mN s)) := by
  have h1 := rank_ge (J := (basE L).map (mN s)) (L := L.map (mN s)) (hL.mN_ok h) (SpA.inj h (fun e he => hL e ((basE_sub L).subset he)) (basE_spA hL.ok)) ((basE_sub L).map _)
  rw [List.length_map, basE_len] at h1
  exact h1
theorem mN_back {P : Nat → Bool} {s t : Nat → Nat} {L : List (Int × Int)} (h : InjP P s t) (hL : OnP P L) : (L.map (mN s)).map (mN t) = L := by
  rw [List.map_map]
  refine (List.map_congr_left (fun x hx => ?_)).trans (List.map_id L)
  obtain ⟨⟨p1, p2, p3, p4, p5⟩, q1, q2⟩ := hL x hx
  have a := h _ q1
  have b := h _ q2
  simp only [Function.comp, mN, Int.toNat_natCast, a.2.2, b.2.2, id]
  exact Prod.ext (by simp; omega) (by simp; omega)
theorem rank_inj {P : Nat → Bool} {s t : Nat → Nat} {L : List (Int × Int)} (h : InjP P s t) (hL : OnP P L) : rankE (L.map (mN s)) = rankE L := by
  have h1 := rank_inj_le h hL
  have h2 := rank_inj_le (P := fun j => decide (j < 60) && (P (t j) && decide (s (t j) = j))) (s := t) (t := s) (L := L.map (mN s)) (fun j hj => by
    simp only [Bool.and_eq_true, decide_eq_true_eq] at hj
    exact ⟨hj.1, (h _ hj.2.1).1, hj.2.2⟩) (fun e he => by
    refine ⟨hL.mN_ok h e he, ?_⟩
    obtain ⟨x, hx, rfl⟩ := List.mem_map.1 he
    obtain ⟨-, q1, q2⟩ := hL x hx
    have a := h _ q1
    have b := h _ q2
    have e1 : (mN s x).1.toNat = s x.1.toNat := by simp [mN]
    have e2 : (mN s x).2.toNat = s x.2.toNat := by simp [mN]
    simp only [e1, e2, a.2.2, b.2.2, q1, q2, decide_eq_true a.2.1, decide_eq_true b.2.1, Bool.true_and, decide_true, and_self])
  rw [mN_back h hL] at h2
  omega

theorem idxI_at {l : List Int} {x : Int} (h : x ∈ l) : ∃ k, k < l.length ∧ l.getD k 0 = x ∧ idxI l x = (k : Int) := by
  unfold idxI
  cases hf : l.findIdx? (· == x) with
  | none =>
    rw [List.findIdx?_eq_none_iff] at hf
    have := hf x h
    simp at this
  | some k =>
    rw [List.findIdx?_eq_some_iff_getElem] at hf
    obtain ⟨hk, h1, -⟩ := hf
    refine ⟨k, hk, ?_, rfl⟩
    rw [List.getD_eq_getElem?_getD, List.getElem?_eq_getElem hk]
    simpa using h1
theorem ascB_len {n : Nat} {ps : List Int} (h : ascB n ps = true) (hn : n ≤ 60) : ps.length ≤ 60 := by
  have h1 := cntB_setS h (by omega)
  have h2 := cntB_le 60 (setS ps)
  omega
theorem ascB_lt {n : Nat} {ps : List Int} (h : ascB n ps = true) {i j : Nat} (hij : i < j) (hj : j < ps.length) : ps.getD i 0 < ps.getD j 0 := by
  have h0 := ascB_iff.1 h
  exact asc_lt (fun j hj => by
    have := (h0 (j + 1) hj).2.2
    simp at this
    exact this) i j hij hj
theorem ascB_inj {n : Nat} {ps : List Int} (h : ascB n ps = true) {i j : Nat} (hi : i < ps.length) (hj : j < ps.length) (e : ps.getD i 0 = ps.getD j 0) : i = j := by
  rcases Nat.lt_trichotomy i j with h1 | h1 | h1
  · have := ascB_lt h h1 hj; omega
  · exact h1
  · have := ascB_lt h h1 hi; omega
theorem inB_bothB {n : Nat} {ps : List Int} (h : ascB n ps = true) {e : Int × Int} (he : OkE n e) : inB ps e = bothB (setS ps) e := by
  obtain ⟨p1, p2, p3, p4, p5⟩ := he
  unfold inB bothB
  rw [setS_mem h p1, setS_mem h p3]
theorem indE_filter {n : Nat} {es : List (Int × Int)} {ps : List Int} (hv : validB n es = true) (h : ascB n ps = true) : indE n es ps = es.filter (bothB (setS ps)) := by
  unfold indE indK
  rw [hv, if_pos rfl, List.take_length]
  exact List.filter_congr (fun e he => inB_bothB h (ok_of_valid hv e he))
/-- The points' own graph: an edge from place i to place k. -/
theorem mem_ownE {n : Nat} {es : List (Int × Int)} {ps : List Int} (hv : validB n es = true) (h : ascB n ps = true) {i k : Nat} (hi : i < ps.length) (hk : k < ps.length) : ((i : Int), (k : Int)) ∈ ownE n es ps ↔ (ps.getD i 0, ps.getD k 0) ∈ es := by
  unfold ownE
  have hf : indE n es ps = es.filter (inB ps) := by unfold indE indK; rw [hv, if_pos rfl, List.take_length]
  rw [hf, List.mem_map]
  constructor
  · rintro ⟨e, he, heq⟩
    obtain ⟨h1, h2⟩ := List.mem_filter.1 he
    unfold inB at h2
    simp only [Bool.and_eq_true, decide_eq_true_eq] at h2
    obtain ⟨a, a1, a2, a3⟩ := idxI_at h2.1
    obtain ⟨b, b1, b2, b3⟩ := idxI_at h2.2
    unfold mpE at heq
    rw [a3, b3] at heq
    injection heq with e1 e2
    have e1' : a = i := by omega
    have e2' : b = k := by omega
    subst e1' e2'
    rw [a2, b2]; exact h1
  · intro hm
    refine ⟨_, List.mem_filter.2 ⟨hm, ?_⟩, ?_⟩
    · unfold inB
      simp only [Bool.and_eq_true, decide_eq_true_eq]
      exact ⟨mem_getD hi, mem_getD hk⟩
    · unfold mpE
      obtain ⟨a, a1, a2, a3⟩ := idxI_at (mem_getD hi)
      obtain ⟨b, b1, b2, b3⟩ := idxI_at (mem_getD hk)
      simp only
      rw [a3, b3, ascB_inj h a1 hi a2, ascB_inj h b1 hk b2]
theorem ownE_ends {n : Nat} {es : List (Int × Int)} {ps : List Int} (hv : validB n es = true) (h : ascB n ps = true) : ∀ e ∈ ownE n es ps, 0 ≤ e.1 ∧ e.1 < e.2 ∧ e.2 < (ps.length : Int) := fun e he => by
  have hf : indE n es ps = es.filter (inB ps) := by unfold indE indK; rw [hv, if_pos rfl, List.take_length]
  unfold ownE at he
  rw [hf] at he
  obtain ⟨x, hx, rfl⟩ := List.mem_map.1 he
  obtain ⟨h1, h2⟩ := List.mem_filter.1 hx
  unfold inB at h2
  simp only [Bool.and_eq_true, decide_eq_true_eq] at h2
  obtain ⟨a, a1, a2, a3⟩ := idxI_at h2.1
  obtain ⟨b, b1, b2, b3⟩ := idxI_at h2.2
  have hlt := (valid_ends hv x h1).2.1
  have hab : a < b := by
    rcases Nat.lt_trichotomy a b with h3 | h3 | h3
    · exact h3
    · subst h3; omega
    · have := ascB_lt h h3 a1; omega
  unfold mpE
  simp only
  rw [a3, b3]
  omega
theorem ownE_nodup {n : Nat} {es : List (Int × Int)} {ps : List Int} (hv : validB n es = true) : (ownE n es ps).Nodup := by
  have hf : indE n es ps = es.filter (inB ps) := by unfold indE indK; rw [hv, if_pos rfl, List.take_length]
  unfold ownE List.Nodup
  rw [hf, List.pairwise_map]
  refine List.Pairwise.imp_of_mem (fun {x y} hx hy hne e => ?_) ((valid_nodup hv).filter _)
  have h2 := (List.mem_filter.1 hx).2
  have k2 := (List.mem_filter.1 hy).2
  unfold inB at h2 k2
  simp only [Bool.and_eq_true, decide_eq_true_eq] at h2 k2
  obtain ⟨a, a1, a2, a3⟩ := idxI_at h2.1
  obtain ⟨b, b1, b2, b3⟩ := idxI_at h2.2
  obtain ⟨a', a1', a2', a3'⟩ := idxI_at k2.1
  obtain ⟨b', b1', b2', b3'⟩ := idxI_at k2.2
  unfold mpE at e
  rw [a3, b3, a3', b3'] at e
  injection e with e1 e2
  have e1' : a = a' := by omega
  have e2' : b = b' := by omega
  subst e1' e2'
  exact hne (Prod.ext (a2.symm.trans a2') (b2.symm.trans b2'))
/-- The points' own graph has the rank of the edges between the points. -/
theorem rank_ownE {n : Nat} {es : List (Int × Int)} {ps : List Int} (hn : n ≤ 60) (hv : validB n es = true) (h : ascB n ps = true) : rankE (mkL ps.length (ownE n es ps)) = rkS es (setS ps) := by
  have hl := ascB_len h hn
  have hok := ok_of_valid hv
  have hends := ownE_ends hv h
  have hOk : Ok60 (mkL ps.length (ownE n es ps)) := fun e he => (mkL_ok e he).mono hl
  rw [rankE_perm (mkL_perm hends (ownE_nodup hv)) hOk]
  have e1 : ownE n es ps = (es.filter (bothB (setS ps))).map (mN (fun i => (idxI ps (i : Int)).toNat)) := by
    unfold ownE
    rw [indE_filter hv h]
    refine List.map_congr_left (fun e he => ?_)
    obtain ⟨h1, h2⟩ := List.mem_filter.1 he
    obtain ⟨p1, p2, p3, p4, p5⟩ := hok e h1
    rw [← inB_bothB h (hok e h1)] at h2
    unfold inB at h2
    simp only [Bool.and_eq_true, decide_eq_true_eq] at h2
    obtain ⟨a, a1, a2, a3⟩ := idxI_at h2.1
    obtain ⟨b, b1, b2, b3⟩ := idxI_at h2.2
    have q1 : ((e.1.toNat : Nat) : Int) = e.1 := by omega
    have q2 : ((e.2.toNat : Nat) : Int) = e.2 := by omega
    unfold mpE mN
    simp only [q1, q2, a3, b3, Int.toNat_natCast]
  rw [e1]
  refine rank_inj (P := fun i => decide ((i : Int) ∈ ps)) (t := fun j => (ps.getD j 0).toNat) (fun i hi => ?_) (fun e he => ?_)
  · simp only [decide_eq_true_eq] at hi
    have hb := ascB_mem h hi
    obtain ⟨a, a1, a2, a3⟩ := idxI_at hi
    simp only
    rw [a3, Int.toNat_natCast, a2]
    omega
  · obtain ⟨h1, h2⟩ := List.mem_filter.1 he
    have ho := hok e h1
    obtain ⟨p1, p2, p3, p4, p5⟩ := ho
    rw [← inB_bothB h (hok e h1)] at h2
    unfold inB at h2
    simp only [Bool.and_eq_true, decide_eq_true_eq] at h2
    refine ⟨(hok e h1).mono hn, ?_, ?_⟩
    · simp only [decide_eq_true_eq]; rw [show ((e.1.toNat : Nat) : Int) = e.1 by omega]; exact h2.1
    · simp only [decide_eq_true_eq]; rw [show ((e.2.toNat : Nat) : Int) = e.2 by omega]; exact h2.2
instance rigS_dec (es : List (Int × Int)) (S : Nat) : Decidable (RigS es S) := by unfold RigS; infer_instance
theorem own_mk {n : Nat} {es : List (Int × Int)} {ps : List Int} (hn : n ≤ 60) (hv : validB n es = true) (h : ascB n ps = true) : mkE ps.length (ownE n es ps) = some (mkL ps.length (ownE n es ps)) := by
  refine mkE_yes (ascB_len h hn) (fun j hj => ?_)
  have hm : (ownE n es ps).getD j (0, 0) ∈ ownE n es ps := by rw [List.getD_eq_getElem?_getD, List.getElem?_eq_getElem hj]; exact List.getElem_mem _
  obtain ⟨h1, h2, h3⟩ := ownE_ends hv h _ hm
  generalize (ownE n es ps).getD j (0, 0) = e at h1 h2 h3 ⊢
  unfold okP
  simp
  omega
/-- A list of points is rigid exactly if its set is. -/
theorem rigE_iff {n : Nat} {es : List (Int × Int)} {ps : List Int} (hn : n ≤ 60) (hv : validB n es = true) (h : ascB n ps = true) : rigE n es ps = decide (RigS es (setS ps)) := by
  unfold rigE
  rw [own_mk hn hv h]
  simp only
  have e1 : (indE' (ps.length : Nat) (mkL ps.length (ownE n es ps))).length = rkS es (setS ps) := by
    rw [indE'_len (mkL_valid' (ascB_len h hn)), rank_ownE hn hv h]
  have e2 := cntB_setS h (by omega)
  rw [e1, Bool.eq_iff_iff]
  simp only [Bool.and_eq_true, decide_eq_true_eq]
  unfold RigS
  rw [e2]

/-- A maximal rigid set is tight. -/
theorem MaxS.tg {n : Nat} {es : List (Int × Int)} {S : Nat} (hn : n ≤ 60) (hok : ∀ e ∈ es, OkE n e) (h : MaxS n es S) : Tg es S := by
  have ho : Ok60 es := fun e he => (hok e he).mono hn
  obtain ⟨s1, s2, s3⟩ := h
  obtain ⟨e, he, hb⟩ := rig_edge s2
  obtain ⟨u, v, rfl, hu, hv, huv⟩ := nat_edge (hok e he)
  rw [bothB_nat, Bool.and_eq_true] at hb
  obtain ⟨T, t1, t2, t3, t4⟩ := clP_set hn hok hu hv huv (impE_mem ho he)
  have := s3 T t1 (t2.rig ho) (and_sub.2 fun i hi => (t4 i (lt_bit s1 hi)).2 (rig_in hn hok s2 hu hv hb.1 hb.2 (lt_bit s1 hi) hi))
  rw [← this]; exact t2
/-- Two maximal rigid sets with two common points are one. -/
theorem MaxS.one {n : Nat} {es : List (Int × Int)} {S T : Nat} (hn : n ≤ 60) (hok : ∀ e ∈ es, OkE n e) (hS : MaxS n es S) (hT : MaxS n es T) (h : 2 ≤ cntB 60 (S &&& T)) : S = T := by
  have ho : Ok60 es := fun e he => (hok e he).mono hn
  have hU := ((hS.tg hn hok).or ho (hT.tg hn hok) h).rig ho
  have hlt : S ||| T < 2 ^ n := Nat.or_lt_two_pow hS.1 hT.1
  have e1 := hS.2.2 _ hlt hU (and_sub.2 fun i hi => by rw [bit_or, hi]; rfl)
  have e2 := hT.2.2 _ hlt hU (and_sub.2 fun i hi => by rw [bit_or, hi]; simp)
  rw [← e1, e2]
theorem cluL_max {n : Nat} {es : List (Int × Int)} {ls : List (List Int)} (hn : n ≤ 60) (hok : ∀ e ∈ es, OkE n e) (h : CluL n es ls) (l : List Int) : l ∈ ls ↔ ∃ S, MaxS n es S ∧ l = ptsK n S := by
  rw [h.mem, clusters_iff hn hok]
theorem full_bit (n i : Nat) : (2 ^ n - 1).testBit i = decide (i < n) := Nat.testBit_two_pow_sub_one n i
theorem cntB60_full {n : Nat} (hn : n ≤ 60) : cntB 60 (2 ^ n - 1) = n := by
  have hlt : 2 ^ n - 1 < 2 ^ n := by have := Nat.two_pow_pos n; omega
  rw [cntB_wide hn hlt]
  unfold cntB
  rw [List.countP_eq_length.2 (fun i hi => by rw [full_bit]; simpa using hi)]
  simp
theorem rk_full {n : Nat} {es : List (Int × Int)} (hok : ∀ e ∈ es, OkE n e) : rkS es (2 ^ n - 1) = rankE es := by
  unfold rkS
  rw [List.filter_eq_self.2 (fun e he => ?_)]
  obtain ⟨p1, p2, p3, p4, p5⟩ := hok e he
  unfold bothB
  rw [full_bit, full_bit, decide_eq_true (by omega), decide_eq_true (by omega)]; rfl
/-- A graph is rigid exactly if all its points are one cluster. -/
theorem rigid_clu {n : Nat} {es : List (Int × Int)} {ls : List (List Int)} (h2 : 2 ≤ n) (hn : n ≤ 60) (hv : validB n es = true) (h : CluL n es ls) :
    rigidE n es = (decide (ls.length = 1) && decide ((ls.getD 0 []).length = n)) := by
  have hok := ok_of_valid hv
  have ho : Ok60 es := fun e he => (hok e he).mono hn
  have hlt : 2 ^ n - 1 < 2 ^ n := by have := Nat.two_pow_pos n; omega
  have hm := cluL_max hn hok h
  have key : RigS es (2 ^ n - 1) ↔ ((rankE es : Nat) : Int) = 2 * (n : Int) - 3 := by
    unfold RigS
    rw [cntB60_full hn, rk_full hok]
    exact ⟨fun h => h.2, fun h => ⟨h2, h⟩⟩
  have e1 : rigidE n es = decide (RigS es (2 ^ n - 1)) := by
    unfold rigidE freeE
    rw [hv, if_pos rfl, Bool.true_and, decide_eq_false (by omega : ¬ (n : Int) ≤ 1), Bool.false_or, Bool.eq_iff_iff, decide_eq_true_eq, decide_eq_true_eq, key]
    omega
  rw [e1, Bool.eq_iff_iff, decide_eq_true_eq, Bool.and_eq_true, decide_eq_true_eq, decide_eq_true_eq]
  constructor
  · intro hr
    have hmax : MaxS n es (2 ^ n - 1) := ⟨hlt, hr, fun K hK _ hsub => by
      apply Nat.eq_of_testBit_eq
      intro i
      rw [full_bit, Bool.eq_iff_iff, decide_eq_true_eq]
      exact ⟨fun hi => lt_bit hK hi, fun hi => (and_sub.1 hsub) i (by rw [full_bit]; simpa using hi)⟩⟩
    have hall : ∀ x ∈ ls, x = ptsK n (2 ^ n - 1) := fun x hx => by
      obtain ⟨S, hS, rfl⟩ := (hm x).1 hx
      have := hS.2.2 _ hlt hr (and_sub.2 fun i hi => by rw [full_bit]; simpa using lt_bit hS.1 hi)
      rw [this]
    have hin : ptsK n (2 ^ n - 1) ∈ ls := (hm _).2 ⟨_, hmax, rfl⟩
    have e2 : ls = [ptsK n (2 ^ n - 1)] := strictL_eq h.lt (by simp) (fun x => by
      rw [List.mem_singleton]
      exact ⟨hall x, fun e => by rw [e]; exact hin⟩)
    rw [e2]
    refine ⟨rfl, ?_⟩
    show (ptsK n (2 ^ n - 1)).length = n
    rw [ptsK_length, ← cntB_wide hn hlt, cntB60_full hn]
  · rintro ⟨h3, h4⟩
    obtain ⟨x, rfl⟩ := List.length_eq_one_iff.1 h3
    obtain ⟨S, hS, rfl⟩ := (hm x).1 (by simp)
    have h5 : cntB n S = n := by
      have : (ptsK n S).length = n := h4
      rwa [ptsK_length] at this
    have e3 : S = 2 ^ n - 1 := by
      apply Nat.eq_of_testBit_eq
      intro i
      rw [full_bit, Bool.eq_iff_iff, decide_eq_true_eq]
      refine ⟨fun hi => lt_bit hS.1 hi, fun hi => ?_⟩
      have h6 : (List.range n).countP (fun i => S.testBit i) = (List.range n).length := by
        have : cntB n S = (List.range n).countP (fun i => S.testBit i) := rfl
        rw [← this, h5]; simp
      exact List.countP_eq_length.1 h6 i (List.mem_range.2 hi)
    rw [← e3]; exact hS.2.1
end Go.Proofs.Ytagcaljpgifppaa

namespace Go.Proofs.Ytagcaljpgifppaa
set_option linter.unusedVariables false
set_option linter.unusedSimpArgs false
open Go.RowKit Go.Sort

theorem grd_none {I : List (Int × Int)} (hI : Ok60 I) : ∀ {F : List (Int × Int)}, (∀ f ∈ F, OkE 60 f ∧ ¬ SpA (I ++ [f])) → grd I F = I
  | [], _ => rfl
  | f :: F, h => by
    have h1 := h f (by simp)
    rw [grd_cons, addE_no hI h1.1 h1.2]
    exact grd_none hI (fun x hx => h x (by simp [hx]))
theorem basE_span {es F : List (Int × Int)} (ho : Ok60 es) (hF : Ok60 F) (h : ∀ f ∈ F, impE es f) : basE (es ++ F) = basE es := by
  rw [basE_app]
  exact grd_none (basE_ok ho) (fun f hf => ⟨hF f hf, (impE_iff ho (hF f hf)).1 (h f hf)⟩)
theorem impE_add {es F : List (Int × Int)} {x : Int × Int} (ho : Ok60 es) (hF : Ok60 F) (h : ∀ f ∈ F, impE es f) (hx : OkE 60 x) : impE (es ++ F) x ↔ impE es x := by
  rw [impE_iff (ho.app hF) hx, impE_iff ho hx, basE_span ho hF h]
theorem impE_perm {L M : List (Int × Int)} {x : Int × Int} (h : L.Perm M) (hL : Ok60 L) (hx : OkE 60 x) : impE L x ↔ impE M x := by
  unfold impE
  rw [rankE_perm (h.append_right [x]) (hL.app (Ok60.one hx)), rankE_perm h hL]
/-- Two lists of edges that determine the same pairs have the same clusters of pairs. -/
theorem clP_congr {n u v : Nat} {es fs : List (Int × Int)} (hu : u < n) (hv : v < n) (h : ∀ a b : Nat, a < n → b < n → a ≠ b → (impE es ((a : Int), (b : Int)) ↔ impE fs ((a : Int), (b : Int)))) : clP n es u v = clP n fs u v := by
  unfold clP
  congr 1
  refine List.filter_congr (fun p hp => ?_)
  have hp := List.mem_range.1 hp
  rw [Bool.eq_iff_iff, inCb_iff, inCb_iff]
  unfold inC
  by_cases e1 : p = u
  · simp [e1]
  by_cases e2 : p = v
  · simp [e2]
  rw [h p u hp hu e1, h p v hp hv e2]
/-- The cluster of a pair that is determined is the cluster of an edge. -/
theorem clP_imp {n u v : Nat} {es : List (Int × Int)} (hn : n ≤ 60) (hok : ∀ e ∈ es, OkE n e) (hu : u < n) (hv : v < n) (huv : u ≠ v) (hi : impE es ((u : Int), (v : Int))) : ∃ e ∈ es, clP n es u v = clP n es e.1.toNat e.2.toNat := by
  have ho : Ok60 es := fun e he => (hok e he).mono hn
  obtain ⟨T, t1, t2, t3, t4⟩ := clP_set hn hok hu hv huv hi
  refine (clusters_iff hn hok _).2 ⟨T, ⟨t1, t2.rig ho, fun K hK hR hsub => ?_⟩, t3⟩
  have hs := and_sub.1 hsub
  have hTu := (t4 u hu).2 (.inl rfl)
  have hTv := (t4 v hv).2 (.inr (.inl rfl))
  apply Nat.eq_of_testBit_eq
  intro i
  rw [Bool.eq_iff_iff]
  constructor
  · intro hi
    have hin := lt_bit hK hi
    exact (t4 i hin).2 (rig_in hn hok hR hu hv (hs u hTu) (hs v hTv) hin hi)
  · intro hi; exact hs i hi
theorem clu_more {n : Nat} {es F E : List (Int × Int)} {ls : List (List Int)} (hn : n ≤ 60) (hok : ∀ e ∈ es, OkE n e) (hF : ∀ f ∈ F, OkE n f ∧ impE es f) (hp : E.Perm (es ++ F)) (h : CluL n es ls) : CluL n E ls := by
  have ho : Ok60 es := fun e he => (hok e he).mono hn
  have hoF : Ok60 F := fun e he => (hF e he).1.mono hn
  have hoE : Ok60 E := (ho.app hoF).perm hp.symm
  have himp : ∀ a b : Nat, a < n → b < n → a ≠ b → (impE E ((a : Int), (b : Int)) ↔ impE es ((a : Int), (b : Int))) := fun a b ha hb hab => by
    have hx : OkE 60 ((a : Int), (b : Int)) := (okE_nat ha hb hab).mono hn
    rw [impE_perm hp hoE hx, impE_add ho hoF (fun f hf => (hF f hf).2) hx]
  refine ⟨h.lt, fun l => ?_⟩
  rw [h.mem]
  constructor
  · rintro ⟨e, he, rfl⟩
    obtain ⟨u, v, rfl, hu, hv, huv⟩ := nat_edge (hok e he)
    exact ⟨_, hp.mem_iff.2 (List.mem_append.2 (.inl he)), by simp only [Int.toNat_natCast]; exact (clP_congr hu hv himp).symm⟩
  · rintro ⟨e, he, rfl⟩
    rcases List.mem_append.1 (hp.mem_iff.1 he) with h1 | h1
    · obtain ⟨u, v, rfl, hu, hv, huv⟩ := nat_edge (hok e h1)
      exact ⟨_, h1, by simp only [Int.toNat_natCast]; exact clP_congr hu hv himp⟩
    · obtain ⟨u, v, rfl, hu, hv, huv⟩ := nat_edge (hF e h1).1
      simp only [Int.toNat_natCast]
      rw [clP_congr hu hv himp]
      exact clP_imp hn hok hu hv huv (hF _ h1).2
/-- Both points of a pair lie in one of the lists. -/
def inOne (ls : List (List Int)) (a b : Int) : Bool := ls.any fun l => decide (a ∈ l) && decide (b ∈ l)
theorem clu_imp {n u v a b : Nat} {es : List (Int × Int)} (hn : n ≤ 60) (hok : ∀ e ∈ es, OkE n e) (hu : u < n) (hv : v < n) (huv : u ≠ v) (hi : impE es ((u : Int), (v : Int))) (ha : (a : Int) ∈ clP n es u v) (hb : (b : Int) ∈ clP n es u v) (hab : a ≠ b) : a < n ∧ b < n ∧ impE es ((a : Int), (b : Int)) := by
  have ho : Ok60 es := fun e he => (hok e he).mono hn
  obtain ⟨T, t1, t2, t3, t4⟩ := clP_set hn hok hu hv huv hi
  rw [t3, ptsK_mem] at ha hb
  have han : a < n := by omega
  have hbn : b < n := by omega
  refine ⟨han, hbn, (impE_tight ho ((okE_nat han hbn hab).mono hn)).2 ⟨T, t2, ?_⟩⟩
  rw [bothB_nat]
  simp only [Int.toNat_natCast] at ha hb
  rw [ha.2.2, hb.2.2]; rfl
theorem inOne_iff {n a b : Nat} {es : List (Int × Int)} {ls : List (List Int)} (hn : n ≤ 60) (hok : ∀ e ∈ es, OkE n e) (h : CluL n es ls) (ha : a < n) (hb : b < n) (hab : a ≠ b) : inOne ls a b = true ↔ impE es ((a : Int), (b : Int)) := by
  have ho : Ok60 es := fun e he => (hok e he).mono hn
  unfold inOne
  rw [List.any_eq_true]
  constructor
  · rintro ⟨l, hl, hm⟩
    simp only [Bool.and_eq_true, decide_eq_true_eq] at hm
    obtain ⟨e, he, rfl⟩ := (h.mem l).1 hl
    obtain ⟨u, v, rfl, hu, hv, huv⟩ := nat_edge (hok e he)
    simp only [Int.toNat_natCast] at hm
    exact (clu_imp hn hok hu hv huv (impE_mem ho he) hm.1 hm.2 hab).2.2
  · intro hi
    obtain ⟨e, he, heq⟩ := clP_imp hn hok ha hb hab hi
    refine ⟨_, (h.mem _).2 ⟨e, he, rfl⟩, ?_⟩
    rw [← heq]
    simp only [Bool.and_eq_true, decide_eq_true_eq]
    unfold clP
    simp only [List.mem_map, List.mem_filter, List.mem_range]
    exact ⟨⟨a, ⟨ha, inCb_iff.2 (.inl rfl)⟩, rfl⟩, ⟨b, ⟨hb, inCb_iff.2 (.inr (.inl rfl))⟩, rfl⟩⟩

/-- The pairs (v a, v b) with a < b < k of row a that f picks. -/
def pfR (f : Nat → Nat → Bool) (v : Nat → Int) (a : Nat) : Nat → List (Int × Int)
  | 0 => []
  | k + 1 => pfR f v a k ++ if (decide (a < k) && f a k) = true then [(v a, v k)] else []
/-- The pairs of the rows before i. -/
def pfU (f : Nat → Nat → Bool) (v : Nat → Int) (n : Nat) : Nat → List (Int × Int)
  | 0 => []
  | i + 1 => pfU f v n i ++ pfR f v i n
theorem pfR_low {f : Nat → Nat → Bool} {v : Nat → Int} {a : Nat} : ∀ {k : Nat}, k ≤ a + 1 → pfR f v a k = []
  | 0, _ => rfl
  | k + 1, h => by
    unfold pfR
    rw [pfR_low (by omega), decide_eq_false (by omega : ¬ a < k)]; rfl
theorem pfR_yes {f : Nat → Nat → Bool} {v : Nat → Int} {a k : Nat} (h : a < k) (hf : f a k = true) : pfR f v a (k + 1) = pfR f v a k ++ [(v a, v k)] := by
  show pfR f v a k ++ (if (decide (a < k) && f a k) = true then [(v a, v k)] else []) = _
  rw [decide_eq_true h, hf]; rfl
theorem pfR_no {f : Nat → Nat → Bool} {v : Nat → Int} {a k : Nat} (hf : f a k = false) : pfR f v a (k + 1) = pfR f v a k := by
  show pfR f v a k ++ (if (decide (a < k) && f a k) = true then [(v a, v k)] else []) = _
  rw [hf]; simp
theorem mem_pfR {f : Nat → Nat → Bool} {v : Nat → Int} {a : Nat} {x : Int × Int} : ∀ {k : Nat}, x ∈ pfR f v a k ↔ ∃ b, a < b ∧ b < k ∧ f a b = true ∧ x = (v a, v b)
  | 0 => by simp [pfR]
  | k + 1 => by
    show x ∈ pfR f v a k ++ (if (decide (a < k) && f a k) = true then [(v a, v k)] else []) ↔ _
    rw [List.mem_append, mem_pfR]
    constructor
    · rintro (⟨b, h1, h2, h3, h4⟩ | h)
      · exact ⟨b, h1, by omega, h3, h4⟩
      · split at h
        · rename_i hc
          simp only [Bool.and_eq_true, decide_eq_true_eq] at hc
          exact ⟨k, hc.1, by omega, hc.2, by simpa using h⟩
        · cases h
    · rintro ⟨b, h1, h2, h3, h4⟩
      by_cases e : b = k
      · subst e
        right
        rw [decide_eq_true h1, h3]
        simpa using h4
      · exact .inl ⟨b, h1, by omega, h3, h4⟩
theorem mem_pfU {f : Nat → Nat → Bool} {v : Nat → Int} {n : Nat} {x : Int × Int} : ∀ {i : Nat}, x ∈ pfU f v n i ↔ ∃ a b, a < i ∧ a < b ∧ b < n ∧ f a b = true ∧ x = (v a, v b)
  | 0 => by simp [pfU]
  | i + 1 => by
    show x ∈ pfU f v n i ++ pfR f v i n ↔ _
    rw [List.mem_append, mem_pfU, mem_pfR]
    constructor
    · rintro (⟨a, b, h1, h2, h3, h4, h5⟩ | ⟨b, h2, h3, h4, h5⟩)
      · exact ⟨a, b, by omega, h2, h3, h4, h5⟩
      · exact ⟨i, b, by omega, h2, h3, h4, h5⟩
    · rintro ⟨a, b, h1, h2, h3, h4, h5⟩
      by_cases e : a = i
      · subst e; exact .inr ⟨b, h2, h3, h4, h5⟩
      · exact .inl ⟨a, b, by omega, h2, h3, h4, h5⟩
theorem pfR_len {f : Nat → Nat → Bool} {v : Nat → Int} {a : Nat} : ∀ k, (pfR f v a k).length ≤ k
  | 0 => by simp [pfR]
  | k + 1 => by
    have := pfR_len (f := f) (v := v) (a := a) k
    show (pfR f v a k ++ (if (decide (a < k) && f a k) = true then [(v a, v k)] else [])).length ≤ _
    split <;> simp <;> omega
theorem pfU_len {f : Nat → Nat → Bool} {v : Nat → Int} {n : Nat} : ∀ i, (pfU f v n i).length ≤ i * n
  | 0 => by simp [pfU]
  | i + 1 => by
    have h1 := pfU_len (f := f) (v := v) (n := n) i
    have h2 := pfR_len (f := f) (v := v) (a := i) n
    rw [Nat.add_mul]
    show (pfU f v n i ++ pfR f v i n).length ≤ _
    rw [List.length_append]
    omega
def castN (i : Nat) : Int := (i : Int)
theorem pfR_strict {f : Nat → Nat → Bool} {a : Nat} : ∀ k, (pfR f castN a k).Pairwise lt2
  | 0 => List.Pairwise.nil
  | k + 1 => by
    show (pfR f castN a k ++ (if (decide (a < k) && f a k) = true then [(castN a, castN k)] else [])).Pairwise lt2
    rw [List.pairwise_append]
    refine ⟨pfR_strict k, by split <;> simp, fun x hx y hy => ?_⟩
    obtain ⟨b, h1, h2, h3, rfl⟩ := mem_pfR.1 hx
    split at hy
    · simp at hy; subst hy
      exact .inr ⟨rfl, by unfold castN; simp only; omega⟩
    · cases hy
theorem pfU_strict {f : Nat → Nat → Bool} {n : Nat} : ∀ i, (pfU f castN n i).Pairwise lt2
  | 0 => List.Pairwise.nil
  | i + 1 => by
    show (pfU f castN n i ++ pfR f castN i n).Pairwise lt2
    rw [List.pairwise_append]
    refine ⟨pfU_strict i, pfR_strict n, fun x hx y hy => ?_⟩
    obtain ⟨a, b, h1, h2, h3, h4, rfl⟩ := mem_pfU.1 hx
    obtain ⟨d, k1, k2, k3, rfl⟩ := mem_pfR.1 hy
    exact .inl (by unfold castN; simp only; omega)

/-- The list of the program's Condense: the edges, then the pairs of each cluster. -/
def conL (es : List (Int × Int)) (ls : List (List Int)) (k : Nat) : List (Int × Int) := es ++ (ls.take k).flatMap fun l => prU l l.length
theorem mem_prU {ps : List Int} {x : Int × Int} : ∀ {i : Nat}, i ≤ ps.length → (x ∈ prU ps i ↔ ∃ a b, a < i ∧ a < b ∧ b < ps.length ∧ x = (ps.getD a 0, ps.getD b 0))
  | 0, _ => by simp [prU]
  | i + 1, h => by
    show x ∈ prU ps i ++ (ps.drop (i + 1)).map (fun y => (ps.getD i 0, y)) ↔ _
    rw [List.mem_append, mem_prU (by omega), List.mem_map]
    constructor
    · rintro (⟨a, b, h1, h2, h3, h4⟩ | ⟨y, hy, rfl⟩)
      · exact ⟨a, b, by omega, h2, h3, h4⟩
      · obtain ⟨j, hj, rfl⟩ := List.getElem_of_mem hy
        simp at hj
        refine ⟨i, i + 1 + j, by omega, by omega, by omega, ?_⟩
        rw [List.getElem_drop, List.getD_eq_getElem?_getD (i := i + 1 + j), List.getElem?_eq_getElem (by omega)]; rfl
    · rintro ⟨a, b, h1, h2, h3, h4⟩
      by_cases e : a = i
      · subst e
        refine .inr ⟨ps.getD b 0, ?_, h4.symm⟩
        rw [List.mem_iff_getElem]
        refine ⟨b - (a + 1), by simp; omega, ?_⟩
        rw [List.getElem_drop, List.getD_eq_getElem?_getD, List.getElem?_eq_getElem h3]
        simp only [Option.getD_some]
        congr 1; omega
      · exact .inl ⟨a, b, by omega, h2, h3, h4⟩
theorem pts_lt {n S i j : Nat} (hij : i < j) (hj : j < (ptsK n S).length) : (ptsK n S).getD i 0 < (ptsK n S).getD j 0 := by
  have h := List.pairwise_iff_getElem.1 (ptsK_pairwise n S) i j (by omega) hj hij
  rw [List.getD_eq_getElem?_getD, List.getD_eq_getElem?_getD, List.getElem?_eq_getElem (by omega), List.getElem?_eq_getElem hj]
  exact h
theorem mem_prU_pts {n S : Nat} {x : Int × Int} : x ∈ prU (ptsK n S) (ptsK n S).length ↔ x.1 ∈ ptsK n S ∧ x.2 ∈ ptsK n S ∧ x.1 < x.2 := by
  rw [mem_prU (Nat.le_refl _)]
  constructor
  · rintro ⟨a, b, h1, h2, h3, rfl⟩
    exact ⟨mem_getD (by omega), mem_getD h3, pts_lt h2 h3⟩
  · rintro ⟨h1, h2, h3⟩
    obtain ⟨a, ha, e1⟩ := getD_of_mem h1
    obtain ⟨b, hb, e2⟩ := getD_of_mem h2
    refine ⟨a, b, ha, ?_, hb, Prod.ext e1.symm e2.symm⟩
    rcases Nat.lt_trichotomy a b with h | h | h
    · exact h
    · subst h; omega
    · have := pts_lt h ha; omega
section
variable {n : Nat} {es : List (Int × Int)} {ls : List (List Int)}
theorem conL_mem (hn : n ≤ 60) (hv : validB n es = true) (h : CluL n es ls) (x : Int × Int) : x ∈ conL es ls ls.length ↔ 0 ≤ x.1 ∧ x.1 < x.2 ∧ x.2 < (n : Int) ∧ inOne ls x.1 x.2 = true := by
  have hok := ok_of_valid hv
  have ho : Ok60 es := fun e he => (hok e he).mono hn
  unfold conL
  rw [List.take_length, List.mem_append, List.mem_flatMap]
  constructor
  · rintro (hx | ⟨l, hl, hx⟩)
    · have he := valid_ends hv x hx
      refine ⟨he.1, he.2.1, he.2.2, ?_⟩
      have := (inOne_iff (a := x.1.toNat) (b := x.2.toNat) hn hok h (by omega) (by omega) (by omega)).2 (by
        rw [show ((x.1.toNat : Nat) : Int) = x.1 by omega, show ((x.2.toNat : Nat) : Int) = x.2 by omega]
        exact impE_mem ho hx)
      rw [show ((x.1.toNat : Nat) : Int) = x.1 by omega, show ((x.2.toNat : Nat) : Int) = x.2 by omega] at this
      exact this
    · obtain ⟨S, hS, rfl⟩ := (cluL_max hn hok h l).1 hl
      rw [mem_prU_pts] at hx
      have h1 := ptsK_mem.1 hx.1
      have h2 := ptsK_mem.1 hx.2.1
      refine ⟨h1.1, hx.2.2, h2.2.1, ?_⟩
      unfold inOne
      rw [List.any_eq_true]
      exact ⟨_, hl, by simp [hx.1, hx.2.1]⟩
  · rintro ⟨h1, h2, h3, h4⟩
    unfold inOne at h4
    rw [List.any_eq_true] at h4
    obtain ⟨l, hl, hm⟩ := h4
    simp only [Bool.and_eq_true, decide_eq_true_eq] at hm
    refine .inr ⟨l, hl, ?_⟩
    obtain ⟨S, hS, rfl⟩ := (cluL_max hn hok h l).1 hl
    exact mem_prU_pts.2 ⟨hm.1, hm.2, h2⟩
theorem conL_mk (hn : n ≤ 60) (hv : validB n es = true) (h : CluL n es ls) : mkE n (conL es ls ls.length) = some (mkL n (conL es ls ls.length)) := by
  refine mkE_yes hn (fun j hj => ?_)
  have hm : (conL es ls ls.length).getD j (0, 0) ∈ conL es ls ls.length := by rw [List.getD_eq_getElem?_getD, List.getElem?_eq_getElem hj]; exact List.getElem_mem _
  obtain ⟨h1, h2, h3, -⟩ := (conL_mem hn hv h _).1 hm
  generalize (conL es ls ls.length).getD j (0, 0) = e at h1 h2 h3 ⊢
  unfold okP
  simp
  omega
/-- What the reference's Condense joins. -/
theorem conL_ref (hn : n ≤ 60) (hv : validB n es = true) (h : CluL n es ls) : mkL n (conL es ls ls.length) = pfU (fun a b => inOne ls a b) castN n n := by
  refine strict_eq (mkL_strict _ _) (pfU_strict n) (fun x => ?_)
  rw [mem_mkL_of (fun e he => by have := (conL_mem hn hv h e).1 he; exact ⟨this.1, this.2.1, this.2.2.1⟩), conL_mem hn hv h, mem_pfU]
  constructor
  · rintro ⟨h1, h2, h3, h4⟩
    refine ⟨x.1.toNat, x.2.toNat, by omega, by omega, by omega, ?_, Prod.ext (by unfold castN; simp only; omega) (by unfold castN; simp only; omega)⟩
    rw [show ((x.1.toNat : Nat) : Int) = x.1 by omega, show ((x.2.toNat : Nat) : Int) = x.2 by omega]
    exact h4
  · rintro ⟨a, b, h1, h2, h3, h4, rfl⟩
    unfold castN
    simp only
    exact ⟨by omega, by omega, by omega, h4⟩
/-- The condensed graph has the same clusters. -/
theorem clu_con (hn : n ≤ 60) (hv : validB n es = true) (h : CluL n es ls) : CluL n (mkL n (conL es ls ls.length)) ls := by
  have hok := ok_of_valid hv
  have ho : Ok60 es := fun e he => (hok e he).mono hn
  have hmem : ∀ x, x ∈ mkL n (conL es ls ls.length) ↔ x ∈ conL es ls ls.length := mem_mkL_of (fun e he => by have := (conL_mem hn hv h e).1 he; exact ⟨this.1, this.2.1, this.2.2.1⟩)
  have hnd : (mkL n (conL es ls ls.length)).Nodup := nodup_lt2 (mkL_strict _ _)
  refine clu_more (F := (mkL n (conL es ls ls.length)).filter fun x => !decide (x ∈ es)) hn hok (fun f hf => ?_) ?_ h
  · obtain ⟨h1, -⟩ := List.mem_filter.1 hf
    refine ⟨mkL_ok f h1, ?_⟩
    obtain ⟨k1, k2, k3, k4⟩ := (conL_mem hn hv h f).1 ((hmem f).1 h1)
    have := (inOne_iff (a := f.1.toNat) (b := f.2.toNat) hn hok h (by omega) (by omega) (by omega)).1 (by
      rw [show ((f.1.toNat : Nat) : Int) = f.1 by omega, show ((f.2.toNat : Nat) : Int) = f.2 by omega]; exact k4)
    rw [show ((f.1.toNat : Nat) : Int) = f.1 by omega, show ((f.2.toNat : Nat) : Int) = f.2 by omega] at this
    exact this
  · refine (List.perm_ext_iff_of_nodup hnd ?_).2 (fun x => ?_)
    · rw [List.nodup_append]
      exact ⟨valid_nodup hv, hnd.filter _, fun a ha b hb e => by
        subst e
        have := (List.mem_filter.1 hb).2
        simp [ha] at this⟩
    · rw [List.mem_append, List.mem_filter]
      constructor
      · intro hx
        by_cases hxe : x ∈ es
        · exact .inl hxe
        · exact .inr ⟨hx, by simp [hxe]⟩
      · rintro (hx | ⟨hx, -⟩)
        · rw [hmem]; unfold conL; exact List.mem_append.2 (.inl hx)
        · exact hx
end
end Go.Proofs.Ytagcaljpgifppaa

namespace Go.Proofs.Ytagcaljpgifppaa
set_option linter.unusedVariables false
set_option linter.unusedSimpArgs false
open Go.RowKit Go.Sort

/-- The edges of the new point. -/
def newE (n a b : Nat) : List (Int × Int) := ((a : Int), (n : Int)) :: if a < b then [((b : Int), (n : Int))] else []
/-- Both a and b lie in S, and they are two. -/
def Both (a b S : Nat) : Prop := a < b ∧ S.testBit a = true ∧ S.testBit b = true
def dX (a b S : Nat) : Nat := (if S.testBit a = true then 1 else 0) + if a < b ∧ S.testBit b = true then 1 else 0
theorem dX_two {a b S : Nat} : dX a b S = 2 ↔ Both a b S := by
  unfold dX Both
  by_cases h1 : S.testBit a = true <;> by_cases h2 : a < b <;> by_cases h3 : S.testBit b = true <;> simp [h1, h2, h3]
theorem dX_le {a b S : Nat} : dX a b S ≤ 2 := by unfold dX; split <;> split <;> omega
theorem span_new (n a b S : Nat) : spanS (newE n a b) S = if S.testBit n = true then (dX a b S : Int) else 0 := by
  unfold newE spanS dX
  by_cases h : S.testBit n = true <;> by_cases h1 : S.testBit a = true <;> by_cases h2 : a < b <;> by_cases h3 : S.testBit b = true <;> simp [h, h1, h2, h3, bothB_nat, List.countP_cons]
section
variable {n a b : Nat} {es : List (Int × Int)}
theorem newE_ok (han : a < n) (hbn : b < n) : ∀ e ∈ newE n a b, OkE (n + 1) e := fun e he => by
  unfold newE at he
  rcases List.mem_cons.1 he with rfl | h
  · exact okE_nat (by omega) (by omega) (by omega)
  · split at h
    · rw [List.mem_singleton] at h
      subst h
      exact okE_nat (by omega) (by omega) (by omega)
    · cases h
/-- The set without the new point. -/
theorem drop_bit {S n i : Nat} (h : S.testBit n = true) : (S ^^^ 2 ^ n).testBit i = (S.testBit i && !decide (i = n)) := by
  by_cases e : i = n
  · subst e
    rw [Nat.testBit_xor, Nat.testBit_two_pow]
    simp [h]
  · rw [bit_drop e]; simp [e]
theorem span_drop {K : List (Int × Int)} {S : Nat} (hK : ∀ e ∈ K, OkE n e) (h : S.testBit n = true) : spanS K (S ^^^ 2 ^ n) = spanS K S := spanS_congr (fun e he => by
  obtain ⟨p1, p2, p3, p4, p5⟩ := hK e he
  unfold bothB
  rw [drop_bit h, drop_bit h, decide_eq_false (by omega : ¬ e.1.toNat = n), decide_eq_false (by omega : ¬ e.2.toNat = n)]
  simp)
theorem dX_drop {S : Nat} (han : a < n) (hbn : b < n) (h : S.testBit n = true) : dX a b (S ^^^ 2 ^ n) = dX a b S := by
  unfold dX
  rw [drop_bit h, drop_bit h, decide_eq_false (by omega : ¬ a = n), decide_eq_false (by omega : ¬ b = n)]
  simp
theorem span_small {K : List (Int × Int)} {S : Nat} (hK : Ok60 K) (h : cntB 60 S < 2) : spanS K S = 0 := by
  unfold spanS
  have : K.countP (bothB S) = 0 := by
    rw [List.countP_eq_zero]
    intro e he hb
    have := (hK e he).two hb
    omega
  rw [this]; rfl
theorem dX_small {S : Nat} (han : a < 60) (hbn : b < 60) (h : cntB 60 S < 2) : dX a b S ≤ 1 := by
  by_cases hb : Both a b S
  · obtain ⟨h1, h2, h3⟩ := hb
    have := cntB_pq han hbn (by omega) h2 h3
    omega
  · have h1 := dX_le (a := a) (b := b) (S := S)
    have h2 : ¬ dX a b S = 2 := fun e => hb (dX_two.1 e)
    omega
theorem spa_grow {K : List (Int × Int)} (hn : n + 1 ≤ 60) (han : a < n) (hbn : b < n) (hK : ∀ e ∈ K, OkE n e) (h : SpA K) : SpA (K ++ newE n a b) := by
  have hK60 : Ok60 K := fun e he => (hK e he).mono (by omega)
  intro S h2
  rw [spanS_app, span_new]
  by_cases hb : S.testBit n = true
  · rw [if_pos hb]
    have h3 := cntB_drop (p := n) (by omega) hb
    rw [← span_drop hK hb, ← dX_drop han hbn hb]
    have h5 := dX_le (a := a) (b := b) (S := S ^^^ 2 ^ n)
    by_cases h4 : 2 ≤ cntB 60 (S ^^^ 2 ^ n)
    · have := h _ h4
      omega
    · have h6 := span_small hK60 (by omega : cntB 60 (S ^^^ 2 ^ n) < 2)
      have h7 := dX_small (a := a) (b := b) (by omega) (by omega) (by omega : cntB 60 (S ^^^ 2 ^ n) < 2)
      omega
  · rw [if_neg hb]
    have := h S h2
    omega
theorem base_grow (hn : n + 1 ≤ 60) (han : a < n) (hbn : b < n) (hok : ∀ e ∈ es, OkE n e) : basE (es ++ newE n a b) = basE es ++ newE n a b := by
  have ho : Ok60 es := fun e he => (hok e he).mono (by omega)
  have h1 : ∀ e ∈ basE es, OkE n e := fun e he => hok e ((basE_sub es).subset he)
  rw [basE_app]
  exact grd_whole (basE_ok ho) (fun e he => (newE_ok han hbn e he).mono hn) (spa_grow hn han hbn h1 (basE_spA ho))
theorem tg_span (hn : n + 1 ≤ 60) (han : a < n) (hbn : b < n) (hok : ∀ e ∈ es, OkE n e) (S : Nat) : spanS (basE (es ++ newE n a b)) S = spanS (basE es) S + if S.testBit n = true then (dX a b S : Int) else 0 := by
  rw [base_grow hn han hbn hok, spanS_app, span_new]
theorem tg_out (hn : n + 1 ≤ 60) (han : a < n) (hbn : b < n) (hok : ∀ e ∈ es, OkE n e) {S : Nat} (h : S.testBit n = false) : Tg (es ++ newE n a b) S ↔ Tg es S := by
  unfold Tg
  rw [tg_span hn han hbn hok, if_neg (by rw [h]; simp), Int.add_zero]
theorem tg_in (hn : n + 1 ≤ 60) (han : a < n) (hbn : b < n) (hok : ∀ e ∈ es, OkE n e) {S : Nat} (h : S.testBit n = true) : Tg (es ++ newE n a b) S ↔ (Tg es (S ^^^ 2 ^ n) ∧ Both a b S) ∨ (cntB 60 (S ^^^ 2 ^ n) = 1 ∧ dX a b S = 1) := by
  have ho : Ok60 es := fun e he => (hok e he).mono (by omega)
  have h1 : ∀ e ∈ basE es, OkE n e := fun e he => hok e ((basE_sub es).subset he)
  have h3 := cntB_drop (p := n) (by omega) h
  have h5 := dX_le (a := a) (b := b) (S := S)
  have hd := dX_drop (a := a) (b := b) han hbn h
  unfold Tg
  rw [tg_span hn han hbn hok, if_pos h, ← span_drop h1 h, ← dX_two]
  by_cases h4 : 2 ≤ cntB 60 (S ^^^ 2 ^ n)
  · have h6 := basE_spA ho _ h4
    omega
  · have h6 := span_small (basE_ok ho) (by omega : cntB 60 (S ^^^ 2 ^ n) < 2)
    have h7 := dX_small (a := a) (b := b) (by omega) (by omega) (by omega : cntB 60 (S ^^^ 2 ^ n) < 2)
    rw [hd] at h7
    omega
end
/-- A tight set that no other one holds. -/
def MaxT (n : Nat) (es : List (Int × Int)) (S : Nat) : Prop := S < 2 ^ n ∧ Tg es S ∧ ∀ K, K < 2 ^ n → Tg es K → S &&& K = S → K = S
/-- A rigid set lies within a maximal one. -/
theorem rig_sub {n K : Nat} {es : List (Int × Int)} (hn : n ≤ 60) (hok : ∀ e ∈ es, OkE n e) (hK : K < 2 ^ n) (hR : RigS es K) : ∃ T, MaxS n es T ∧ K &&& T = K := by
  have ho : Ok60 es := fun e he => (hok e he).mono hn
  obtain ⟨e, he, hb⟩ := rig_edge hR
  obtain ⟨u, v, rfl, hu, hv, huv⟩ := nat_edge (hok e he)
  rw [bothB_nat, Bool.and_eq_true] at hb
  obtain ⟨T, hT, heq⟩ := (clusters_iff hn hok (clP n es u v)).1 ⟨_, he, by simp⟩
  obtain ⟨T', t1, t2, t3, t4⟩ := clP_set hn hok hu hv huv (impE_mem ho he)
  rw [t3] at heq
  obtain rfl := ptsK_inj t1 hT.1 heq
  exact ⟨T', hT, and_sub.2 fun i hi => (t4 i (lt_bit hK hi)).2 (rig_in hn hok hR hu hv hb.1 hb.2 (lt_bit hK hi) hi)⟩
theorem maxT_iff {n S : Nat} {es : List (Int × Int)} (hn : n ≤ 60) (hok : ∀ e ∈ es, OkE n e) : MaxT n es S ↔ MaxS n es S := by
  have ho : Ok60 es := fun e he => (hok e he).mono hn
  constructor
  · rintro ⟨h1, h2, h3⟩
    obtain ⟨T, hT, hsub⟩ := rig_sub hn hok h1 (h2.rig ho)
    have := h3 T hT.1 (hT.tg hn hok) hsub
    rw [← this]; exact hT
  · intro h
    exact ⟨h.1, h.tg hn hok, fun K hK hT hs => h.2.2 K hK (hT.rig ho) hs⟩
section
variable {n a b : Nat} {es : List (Int × Int)}
theorem or_bit {T n i : Nat} : (T ||| 2 ^ n).testBit i = (T.testBit i || decide (n = i)) := by rw [Nat.testBit_or, Nat.testBit_two_pow]
theorem or_drop {T n : Nat} (h : T < 2 ^ n) : (T ||| 2 ^ n) ^^^ 2 ^ n = T := by
  apply Nat.eq_of_testBit_eq
  intro i
  rw [drop_bit (by rw [or_bit]; simp), or_bit]
  by_cases e : n = i
  · subst e
    simp [Nat.testBit_lt_two_pow h]
  · simp [e, Ne.symm e]
theorem drop_or {S n : Nat} (h : S.testBit n = true) : (S ^^^ 2 ^ n) ||| 2 ^ n = S := by
  apply Nat.eq_of_testBit_eq
  intro i
  rw [or_bit, drop_bit h]
  by_cases e : n = i
  · subst e; simp [h]
  · simp [e, Ne.symm e]
theorem drop_lt {S n : Nat} (hS : S < 2 ^ (n + 1)) (h : S.testBit n = true) : S ^^^ 2 ^ n < 2 ^ n := by
  apply Nat.lt_pow_two_of_testBit
  intro i hi
  rw [drop_bit h]
  by_cases e : i = n
  · simp [e]
  · rw [Nat.testBit_lt_two_pow (Nat.lt_of_lt_of_le hS (Nat.pow_le_pow_right (by omega) (by omega : n + 1 ≤ i)))]; rfl
theorem low_lt {S n : Nat} (hS : S < 2 ^ (n + 1)) (h : S.testBit n = false) : S < 2 ^ n := by
  apply Nat.lt_pow_two_of_testBit
  intro i hi
  by_cases e : i = n
  · rw [e]; exact h
  · exact Nat.testBit_lt_two_pow (Nat.lt_of_lt_of_le hS (Nat.pow_le_pow_right (by omega) (by omega : n + 1 ≤ i)))
theorem or_lt {T n : Nat} (h : T < 2 ^ n) : T ||| 2 ^ n < 2 ^ (n + 1) := Nat.or_lt_two_pow (Nat.lt_trans h (Nat.pow_lt_pow_right (by omega) (by omega))) (Nat.pow_lt_pow_right (by omega) (by omega))
theorem both_sub {S T : Nat} (h : S &&& T = S) (hb : Both a b S) : Both a b T := ⟨hb.1, and_sub.1 h a hb.2.1, and_sub.1 h b hb.2.2⟩
theorem both_drop {S : Nat} (han : a < n) (hbn : b < n) (h : S.testBit n = true) : Both a b (S ^^^ 2 ^ n) ↔ Both a b S := by rw [← dX_two, ← dX_two, dX_drop han hbn h]
theorem both_or {T : Nat} (han : a < n) (hbn : b < n) : Both a b (T ||| 2 ^ n) ↔ Both a b T := by
  unfold Both
  rw [or_bit, or_bit, decide_eq_false (by omega : ¬ n = a), decide_eq_false (by omega : ¬ n = b), Bool.or_false, Bool.or_false]
theorem one_bit {S i j : Nat} (hi : i < 60) (hj : j < 60) (h : cntB 60 S = 1) (h1 : S.testBit i = true) (h2 : S.testBit j = true) : i = j := cntB_single hi hj (by omega) h1 h2
theorem single_eq {S n c : Nat} (hn : n ≤ 60) (hS : S < 2 ^ n) (h : cntB 60 S = 1) (hc : S.testBit c = true) : S = 2 ^ c := by
  apply Nat.eq_of_testBit_eq
  intro i
  rw [Nat.testBit_two_pow, Bool.eq_iff_iff, decide_eq_true_eq]
  have hcn := lt_bit hS hc
  constructor
  · intro hi
    exact one_bit (by omega) (by have := lt_bit hS hi; omega) h hc hi
  · rintro rfl; exact hc
theorem cntB_pow {c : Nat} (hc : c < 60) : cntB 60 (2 ^ c) = 1 := by
  have h := cntB_add (K := 60) (S := 0) (p := c) hc (by simp)
  rw [Nat.zero_or, cntB_zero] at h
  exact h
theorem dX_one {S c : Nat} (h : dX a b S = 1) : (S.testBit a = true ∨ (a < b ∧ S.testBit b = true)) := by
  unfold dX at h
  by_cases h1 : S.testBit a = true
  · exact .inl h1
  · rw [if_neg h1] at h
    by_cases h2 : a < b ∧ S.testBit b = true
    · exact .inr h2
    · rw [if_neg h2] at h; omega
/-- The maximal rigid sets of the greater graph. -/
theorem max_grow (hn : n + 1 ≤ 60) (han : a < n) (hbn : b < n) (hok : ∀ e ∈ es, OkE n e) (S : Nat) : MaxS (n + 1) (es ++ newE n a b) S ↔
    (MaxS n es S ∧ ¬ Both a b S) ∨ (∃ T, MaxS n es T ∧ Both a b T ∧ S = T ||| 2 ^ n) ∨
      ((∀ T, MaxS n es T → ¬ Both a b T) ∧ (S = 2 ^ a ||| 2 ^ n ∨ (a < b ∧ S = 2 ^ b ||| 2 ^ n))) := by
  have ho : Ok60 es := fun e he => (hok e he).mono (by omega)
  have hok2 : ∀ e ∈ es ++ newE n a b, OkE (n + 1) e := fun e he => by
    rcases List.mem_append.1 he with h | h
    · exact (hok e h).mono (by omega)
    · exact newE_ok han hbn e h
  rw [← maxT_iff hn hok2]
  have outT : ∀ {S : Nat}, S.testBit n = false → (Tg (es ++ newE n a b) S ↔ Tg es S) := fun h => tg_out hn han hbn hok h
  have inT : ∀ {S : Nat}, S.testBit n = true → (Tg (es ++ newE n a b) S ↔ (Tg es (S ^^^ 2 ^ n) ∧ Both a b S) ∨ (cntB 60 (S ^^^ 2 ^ n) = 1 ∧ dX a b S = 1)) := fun h => tg_in hn han hbn hok h
  have bitlt : ∀ {S : Nat}, S < 2 ^ n → S.testBit n = false := fun h => Nat.testBit_lt_two_pow h
  have mx := fun S => maxT_iff (n := n) (S := S) (es := es) (by omega) hok
  have oneT : ∀ c, c < n → (c = a ∨ (a < b ∧ c = b)) → Tg (es ++ newE n a b) (2 ^ c ||| 2 ^ n) := fun c hc hcc => by
    have hcl : 2 ^ c < 2 ^ n := Nat.pow_lt_pow_right (by omega) hc
    refine (inT (by rw [or_bit]; simp)).2 (.inr ?_)
    rw [or_drop hcl, cntB_pow (by omega)]
    refine ⟨rfl, ?_⟩
    unfold dX
    rw [or_bit, or_bit, Nat.testBit_two_pow, Nat.testBit_two_pow, decide_eq_false (by omega : ¬ n = a), decide_eq_false (by omega : ¬ n = b), Bool.or_false, Bool.or_false]
    rcases hcc with rfl | ⟨h1, rfl⟩
    · by_cases h2 : c < b
      · simp [h2]; omega
      · simp [h2]
    · simp [h1]; omega
  constructor
  · rintro ⟨s1, s2, s3⟩
    cases hb : S.testBit n
    · have hS := low_lt s1 hb
      have hT := (outT hb).1 s2
      left
      refine ⟨(mx S).1 ⟨hS, hT, fun K hK hKT hs => s3 K (Nat.lt_trans hK (Nat.pow_lt_pow_right (by omega) (by omega))) ((outT (bitlt hK)).2 hKT) hs⟩, fun hB => ?_⟩
      have h1 := s3 (S ||| 2 ^ n) (or_lt hS) ((inT (by rw [or_bit]; simp)).2 (.inl ⟨by rw [or_drop hS]; exact hT, (both_or han hbn).2 hB⟩)) (and_sub.2 fun i hi => by rw [or_bit, hi]; rfl)
      have h2 : (S ||| 2 ^ n).testBit n = true := by rw [or_bit]; simp
      rw [h1, hb] at h2
      cases h2
    · right
      have hd := drop_lt s1 hb
      rcases (inT hb).1 s2 with ⟨t1, t2⟩ | ⟨t1, t2⟩
      · left
        refine ⟨S ^^^ 2 ^ n, (mx _).1 ⟨hd, t1, fun K hK hKT hs => ?_⟩, (both_drop han hbn hb).2 t2, (drop_or hb).symm⟩
        have hB := both_sub hs ((both_drop han hbn hb).2 t2)
        have h1 := s3 (K ||| 2 ^ n) (or_lt hK) ((inT (by rw [or_bit]; simp)).2 (.inl ⟨by rw [or_drop hK]; exact hKT, (both_or han hbn).2 hB⟩)) (and_sub.2 fun i hi => by
          rw [or_bit]
          by_cases e : n = i
          · simp [e]
          · have := and_sub.1 hs i (by rw [drop_bit hb, hi]; simp [Ne.symm e])
            rw [this]; rfl)
        rw [← h1, or_drop hK]
      · right
        have hc : ∃ c, c < n ∧ (c = a ∨ (a < b ∧ c = b)) ∧ S.testBit c = true := by
          rcases dX_one (c := 0) t2 with h1 | ⟨h1, h2⟩
          · exact ⟨a, han, .inl rfl, h1⟩
          · exact ⟨b, hbn, .inr ⟨h1, rfl⟩, h2⟩
        obtain ⟨c, hcn, hcc, hcS⟩ := hc
        have e1 : S ^^^ 2 ^ n = 2 ^ c := single_eq (by omega) hd t1 (by rw [drop_bit hb, hcS]; simp; omega)
        have e2 : S = 2 ^ c ||| 2 ^ n := by rw [← e1, drop_or hb]
        refine ⟨fun T hT hB => ?_, ?_⟩
        · have h1 := s3 (T ||| 2 ^ n) (or_lt hT.1) ((inT (by rw [or_bit]; simp)).2 (.inl ⟨by rw [or_drop hT.1]; exact hT.tg (by omega) hok, (both_or han hbn).2 hB⟩)) (and_sub.2 fun i hi => by
            rw [e2, or_bit, Nat.testBit_two_pow] at hi
            rw [or_bit]
            simp only [Bool.or_eq_true, decide_eq_true_eq] at hi ⊢
            rcases hi with rfl | hi
            · rcases hcc with rfl | ⟨-, rfl⟩
              · exact .inl hB.2.1
              · exact .inl hB.2.2
            · exact .inr hi)
          have h2 : T = 2 ^ c := by rw [← e1, ← h1, or_drop hT.1]
          have h3 := cntB_pq (by omega : a < 60) (by omega : b < 60) (by have := hB.1; omega) hB.2.1 hB.2.2
          rw [h2, cntB_pow (by omega)] at h3
          omega
        · rcases hcc with rfl | ⟨h1, rfl⟩
          · exact .inl e2
          · exact .inr ⟨h1, e2⟩
  · rintro (⟨h1, h2⟩ | ⟨T, h1, h2, rfl⟩ | ⟨h1, h2⟩)
    · have hS := h1.1
      refine ⟨Nat.lt_trans hS (Nat.pow_lt_pow_right (by omega) (by omega)), (outT (bitlt hS)).2 (h1.tg (by omega) hok), fun K hK hKT hs => ?_⟩
      cases hb : K.testBit n
      · exact ((mx S).2 h1).2.2 K (low_lt hK hb) ((outT hb).1 hKT) hs
      · exfalso
        have hs' : S &&& (K ^^^ 2 ^ n) = S := and_sub.2 fun i hi => by
          rw [drop_bit hb, and_sub.1 hs i hi]
          have := lt_bit hS hi
          simp; omega
        rcases (inT hb).1 hKT with ⟨t1, t2⟩ | ⟨t1, t2⟩
        · have e := ((mx S).2 h1).2.2 _ (drop_lt hK hb) t1 hs'
          exact h2 (by rw [← e]; exact (both_drop han hbn hb).2 t2)
        · have h3 := h1.2.1.1
          have h4 : cntB 60 S ≤ cntB 60 (K ^^^ 2 ^ n) := by
            unfold cntB
            exact List.countP_mono_left (fun i _ hi => and_sub.1 hs' i hi)
          omega
    · have hT := h1.1
      refine ⟨or_lt hT, (inT (by rw [or_bit]; simp)).2 (.inl ⟨by rw [or_drop hT]; exact h1.tg (by omega) hok, (both_or han hbn).2 h2⟩), fun K hK hKT hs => ?_⟩
      have hb : K.testBit n = true := and_sub.1 hs n (by rw [or_bit]; simp)
      have hs' : T &&& (K ^^^ 2 ^ n) = T := and_sub.2 fun i hi => by
        rw [drop_bit hb, and_sub.1 hs i (by rw [or_bit, hi]; rfl)]
        have := lt_bit hT hi
        simp; omega
      have h4 : cntB 60 T ≤ cntB 60 (K ^^^ 2 ^ n) := by
        unfold cntB
        exact List.countP_mono_left (fun i _ hi => and_sub.1 hs' i hi)
      rcases (inT hb).1 hKT with ⟨t1, t2⟩ | ⟨t1, t2⟩
      · have e := ((mx T).2 h1).2.2 _ (drop_lt hK hb) t1 hs'
        rw [← e, drop_or hb]
      · have h3 := h1.2.1.1
        omega
    · have key : ∀ c, c < n → (c = a ∨ (a < b ∧ c = b)) → MaxT (n + 1) (es ++ newE n a b) (2 ^ c ||| 2 ^ n) := fun c hc hcc => by
        have hcl : 2 ^ c < 2 ^ n := Nat.pow_lt_pow_right (by omega) hc
        refine ⟨or_lt hcl, oneT c hc hcc, fun K hK hKT hs => ?_⟩
        have hb : K.testBit n = true := and_sub.1 hs n (by rw [or_bit]; simp)
        have hcK : K.testBit c = true := and_sub.1 hs c (by rw [or_bit, Nat.testBit_two_pow]; simp)
        rcases (inT hb).1 hKT with ⟨t1, t2⟩ | ⟨t1, t2⟩
        · exfalso
          obtain ⟨T, hT, hsub⟩ := rig_sub (by omega) hok (drop_lt hK hb) (t1.rig ho)
          exact h1 T hT (both_sub hsub ((both_drop han hbn hb).2 t2))
        · have e1 : K ^^^ 2 ^ n = 2 ^ c := single_eq (by omega) (drop_lt hK hb) t1 (by rw [drop_bit hb, hcK]; simp; omega)
          rw [← e1, drop_or hb]
      rcases h2 with rfl | ⟨h2, rfl⟩
      · exact key a han (.inl rfl)
      · exact key b hbn (.inr ⟨h2, rfl⟩)
end
end Go.Proofs.Ytagcaljpgifppaa

namespace Go.Proofs.Ytagcaljpgifppaa
set_option linter.unusedVariables false
set_option linter.unusedSimpArgs false
open Go.RowKit Go.Sort

def bothL (a b : Nat) (l : List Int) : Bool := decide (a < b) && (decide ((a : Int) ∈ l) && decide ((b : Int) ∈ l))
def growC (n a b : Nat) (l : List Int) : List Int := if bothL a b l = true then l ++ [(n : Int)] else l
def growX (n a b : Nat) (g : Bool) : List (List Int) := if g = true then [] else [(a : Int), (n : Int)] :: if a < b then [[(b : Int), (n : Int)]] else []
/-- The lists that are expected, in no order. -/
def growW (n a b : Nat) (ls : List (List Int)) : List (List Int) := ls.map (growC n a b) ++ growX n a b (ls.any (bothL a b))
section
variable {n a b : Nat} {es : List (Int × Int)} {ls : List (List Int)}
theorem ptsK_low {S : Nat} (h : S < 2 ^ n) : ptsK (n + 1) S = ptsK n S := ptsK_miss (Nat.testBit_lt_two_pow h)
theorem ptsK_or {T : Nat} (h : T < 2 ^ n) : ptsK (n + 1) (T ||| 2 ^ n) = ptsK n T ++ [(n : Int)] := by
  rw [ptsK_hit (by rw [or_bit]; simp)]
  congr 1
  unfold ptsK
  congr 1
  refine List.filter_congr (fun i hi => ?_)
  have := List.mem_range.1 hi
  rw [or_bit, decide_eq_false (by omega), Bool.or_false]
theorem ptsK_pow {c : Nat} : ∀ {n : Nat}, c < n → ptsK n (2 ^ c) = [(c : Int)]
  | n + 1, h => by
    by_cases e : c = n
    · subst e
      rw [ptsK_hit (by rw [Nat.testBit_two_pow]; simp)]
      have : ptsK c (2 ^ c) = [] := by
        unfold ptsK
        rw [List.map_eq_nil_iff, List.filter_eq_nil_iff]
        intro i hi
        have := List.mem_range.1 hi
        rw [Nat.testBit_two_pow, decide_eq_false (by omega)]; simp
      rw [this]; rfl
    · rw [ptsK_miss (by rw [Nat.testBit_two_pow, decide_eq_false e]), ptsK_pow (by omega)]
theorem bothL_iff {S : Nat} (han : a < n) (hbn : b < n) : bothL a b (ptsK n S) = true ↔ Both a b S := by
  unfold bothL Both
  simp only [Bool.and_eq_true, decide_eq_true_eq, ptsK_mem, Int.toNat_natCast]
  constructor
  · rintro ⟨h1, h2, h3⟩; exact ⟨h1, h2.2.2, h3.2.2⟩
  · rintro ⟨h1, h2, h3⟩; exact ⟨h1, ⟨by omega, by omega, h2⟩, by omega, by omega, h3⟩
theorem grow_mem (hn : n + 1 ≤ 60) (han : a < n) (hbn : b < n) (hv : validB n es = true) (h : CluL n es ls) (x : List Int) : x ∈ growW n a b ls ↔ ∃ S, MaxS (n + 1) (es ++ newE n a b) S ∧ x = ptsK (n + 1) S := by
  have hok := ok_of_valid hv
  have hm := cluL_max (by omega) hok h
  have hmx := max_grow hn han hbn hok
  have hany : ls.any (bothL a b) = true ↔ ∃ T, MaxS n es T ∧ Both a b T := by
    rw [List.any_eq_true]
    constructor
    · rintro ⟨l, hl, hb⟩
      obtain ⟨T, hT, rfl⟩ := (hm l).1 hl
      exact ⟨T, hT, (bothL_iff han hbn).1 hb⟩
    · rintro ⟨T, hT, hb⟩
      exact ⟨_, (hm _).2 ⟨T, hT, rfl⟩, (bothL_iff han hbn).2 hb⟩
  have hpow : ∀ c, c < n → ptsK (n + 1) (2 ^ c ||| 2 ^ n) = [(c : Int), (n : Int)] := fun c hc => by
    rw [ptsK_or (Nat.pow_lt_pow_right (by omega) hc), ptsK_pow hc]; rfl
  unfold growW
  rw [List.mem_append, List.mem_map]
  constructor
  · rintro (⟨l, hl, rfl⟩ | hx)
    · obtain ⟨T, hT, rfl⟩ := (hm l).1 hl
      unfold growC
      by_cases hb : Both a b T
      · rw [if_pos ((bothL_iff han hbn).2 hb)]
        exact ⟨T ||| 2 ^ n, (hmx _).2 (.inr (.inl ⟨T, hT, hb, rfl⟩)), (ptsK_or hT.1).symm⟩
      · rw [if_neg (fun e => hb ((bothL_iff han hbn).1 e))]
        exact ⟨T, (hmx _).2 (.inl ⟨hT, hb⟩), (ptsK_low hT.1).symm⟩
    · unfold growX at hx
      by_cases hg : ls.any (bothL a b) = true
      · rw [if_pos hg] at hx; cases hx
      · rw [if_neg hg] at hx
        have hno : ∀ T, MaxS n es T → ¬ Both a b T := fun T hT hB => hg (hany.2 ⟨T, hT, hB⟩)
        rcases List.mem_cons.1 hx with rfl | hx
        · exact ⟨_, (hmx _).2 (.inr (.inr ⟨hno, .inl rfl⟩)), (hpow a han).symm⟩
        · by_cases hab : a < b
          · rw [if_pos hab, List.mem_singleton] at hx
            subst hx
            exact ⟨_, (hmx _).2 (.inr (.inr ⟨hno, .inr ⟨hab, rfl⟩⟩)), (hpow b hbn).symm⟩
          · rw [if_neg hab] at hx; cases hx
  · rintro ⟨S, hS, rfl⟩
    rcases (hmx S).1 hS with ⟨h1, h2⟩ | ⟨T, h1, h2, rfl⟩ | ⟨h1, h2⟩
    · refine .inl ⟨_, (hm _).2 ⟨S, h1, rfl⟩, ?_⟩
      unfold growC
      rw [if_neg (fun e => h2 ((bothL_iff han hbn).1 e)), ptsK_low h1.1]
    · refine .inl ⟨_, (hm _).2 ⟨T, h1, rfl⟩, ?_⟩
      unfold growC
      rw [if_pos ((bothL_iff han hbn).2 h2), ptsK_or h1.1]
    · right
      have hg : ¬ ls.any (bothL a b) = true := fun e => by
        obtain ⟨T, hT, hB⟩ := hany.1 e
        exact h1 T hT hB
      unfold growX
      rw [if_neg hg]
      rcases h2 with rfl | ⟨h2, rfl⟩
      · rw [hpow a han]; exact List.mem_cons.2 (.inl rfl)
      · rw [hpow b hbn, if_pos h2]; simp
theorem grow_nodup (hn : n + 1 ≤ 60) (han : a < n) (hbn : b < n) (hv : validB n es = true) (h : CluL n es ls) : (growW n a b ls).Nodup := by
  have hok := ok_of_valid hv
  have hm := cluL_max (by omega) hok h
  have hnot : ∀ l ∈ ls, ¬ (n : Int) ∈ l := fun l hl hx => by
    obtain ⟨T, hT, rfl⟩ := (hm l).1 hl
    have := ptsK_mem.1 hx
    omega
  have hnd : ls.Nodup := h.lt.imp (fun {x y} h e => by
    subst e
    unfold LtL at h
    rw [lexL_irrefl] at h
    cases h)
  unfold growW
  rw [List.nodup_append]
  refine ⟨?_, ?_, ?_⟩
  · unfold List.Nodup
    rw [List.pairwise_map]
    refine List.Pairwise.imp_of_mem (fun {x y} hx hy hne e => ?_) hnd
    unfold growC at e
    by_cases h1 : bothL a b x = true <;> by_cases h2 : bothL a b y = true
    · rw [if_pos h1, if_pos h2] at e
      exact hne (List.append_cancel_right e)
    · rw [if_pos h1, if_neg h2] at e
      exact hnot y hy (by rw [← e]; simp)
    · rw [if_neg h1, if_pos h2] at e
      exact hnot x hx (by rw [e]; simp)
    · rw [if_neg h1, if_neg h2] at e
      exact hne e
  · unfold growX
    split
    · exact List.Pairwise.nil
    · by_cases hab : a < b
      · simp [hab]; omega
      · simp [hab]
  · intro x hx y hy e
    subst e
    obtain ⟨l, hl, rfl⟩ := List.mem_map.1 hx
    unfold growX at hy
    by_cases hg : ls.any (bothL a b) = true
    · rw [if_pos hg] at hy; cases hy
    · rw [if_neg hg] at hy
      have h1 : ¬ bothL a b l = true := fun e => hg (List.any_eq_true.2 ⟨l, hl, e⟩)
      unfold growC at hy
      rw [if_neg h1] at hy
      refine hnot l hl ?_
      rcases List.mem_cons.1 hy with rfl | hy
      · simp
      · split at hy
        · rw [List.mem_singleton] at hy; subst hy; simp
        · cases hy
/-- Sorted, they are the clusters of the greater graph. -/
theorem grow_eq {E : List (Int × Int)} {ls2 ws : List (List Int)} (hn : n + 1 ≤ 60) (han : a < n) (hbn : b < n) (hv : validB n es = true) (h : CluL n es ls) (hE : validB ((n + 1 : Nat) : Int) E = true) (hp : E.Perm (es ++ newE n a b)) (h2 : CluL (n + 1) E ls2)
    (hw : ws.Perm (growW n a b ls)) (hs : ws.Pairwise fun x y => lexL y x = false) : ws = ls2 := by
  have hok2 : ∀ e ∈ es ++ newE n a b, OkE (n + 1) e := fun e he => by
    rcases List.mem_append.1 he with h' | h'
    · exact (ok_of_valid hv e h').mono (by omega)
    · exact newE_ok han hbn e h'
  have h3 : CluL (n + 1) (es ++ newE n a b) ls2 := clu_more (F := []) hn (ok_of_valid hE) (fun f hf => by cases hf) (by rw [List.append_nil]; exact hp.symm) h2
  refine strictL_eq (strictL_of (hw.nodup_iff.2 (grow_nodup hn han hbn hv h)) hs) h2.lt (fun x => ?_)
  rw [hw.mem_iff, grow_mem hn han hbn hv h, cluL_max hn hok2 h3]

/-- What 'done' adds, for one point. -/
def dn1 (n : Nat) (lim : Int) (x : Nat) (L : List (Int × Int)) : List (Int × Int) := if (decide ((x : Int) < lim) && !decide (((x : Int), (n : Int)) ∈ L)) = true then L ++ [((x : Int), (n : Int))] else L
def dn2 (n a b : Nat) (lim : Int) (L : List (Int × Int)) : List (Int × Int) := dn1 n lim b (dn1 n lim a L)
/-- The edges when the first k of the graph's have been gone through. -/
def grK (n a b : Nat) (es : List (Int × Int)) : Nat → List (Int × Int)
  | 0 => []
  | k + 1 => dn2 n a b (es.getD k (0, 0)).1 (grK n a b es k) ++ [es.getD k (0, 0)]
def grE (n a b : Nat) (es : List (Int × Int)) : List (Int × Int) := dn2 n a b (n : Int) (grK n a b es es.length)
/-- L holds the first k edges, and (x, n) for each x of the two that lies before the limit. -/
structure GrI (n a b : Nat) (es : List (Int × Int)) (k : Nat) (lim : Int) (L : List (Int × Int)) : Prop where
  st : L.Pairwise lt2
  mem : ∀ x, x ∈ L ↔ x ∈ es.take k ∨ ∃ c : Nat, (c = a ∨ c = b) ∧ (c : Int) < lim ∧ x = ((c : Int), (n : Int))
theorem dn1_iff {lim : Int} {c : Nat} {L : List (Int × Int)} (x : Int × Int) : x ∈ dn1 n lim c L ↔ x ∈ L ∨ ((c : Int) < lim ∧ x = ((c : Int), (n : Int))) := by
  unfold dn1
  by_cases h1 : (c : Int) < lim <;> by_cases h2 : ((c : Int), (n : Int)) ∈ L
  · simp [h1, h2]
    intro e; rw [e]; exact h2
  · simp [h1, h2]
  · simp [h1]
  · simp [h1]
theorem dn1_len {lim : Int} {c : Nat} {L : List (Int × Int)} : (dn1 n lim c L).length ≤ L.length + 1 := by
  unfold dn1; split <;> simp
theorem dn2_len {lim : Int} {L : List (Int × Int)} : (dn2 n a b lim L).length ≤ L.length + 2 := by
  have h1 := dn1_len (n := n) (lim := lim) (c := a) (L := L)
  have h2 := dn1_len (n := n) (lim := lim) (c := b) (L := dn1 n lim a L)
  unfold dn2; omega
theorem GrI.done {k : Nat} {lim lim' : Int} {L : List (Int × Int)} (hab : a ≤ b) (hbn : b < n) (hv : validB n es = true) (h : GrI n a b es k lim L) (hl : lim ≤ lim')
    (hlo : ∀ x ∈ es.take k, x.1 ≤ lim) : GrI n a b es k lim' (dn2 n a b lim' L) := by
  have hends : ∀ x ∈ es.take k, x.2 < (n : Int) := fun x hx => (valid_ends hv x (List.mem_of_mem_take hx)).2.2
  have one : ∀ (c : Nat) (M : List (Int × Int)), (∀ y ∈ M, (y.1 < (c : Int) ∨ (y.1 = (c : Int) ∧ y.2 < (n : Int))) ∨ ((c : Int), (n : Int)) ∈ M) → M.Pairwise lt2 → (dn1 n lim' c M).Pairwise lt2 := fun c M h1 h2 => by
    unfold dn1
    split
    · rename_i hc
      simp only [Bool.and_eq_true, decide_eq_true_eq, Bool.not_eq_true', decide_eq_false_iff_not] at hc
      rw [List.pairwise_append]
      refine ⟨h2, by simp, fun y hy z hz => ?_⟩
      rw [List.mem_singleton] at hz
      subst hz
      rcases h1 y hy with h3 | h3
      · exact h3
      · exact absurd h3 hc.2
    · exact h2
  have hst1 : (dn1 n lim' a L).Pairwise lt2 := one a L (fun y hy => by
    rcases (h.mem y).1 hy with h1 | ⟨c, h1, h2, rfl⟩
    · by_cases h3 : (a : Int) < lim
      · exact .inr ((h.mem _).2 (.inr ⟨a, .inl rfl, h3, rfl⟩))
      · have := hlo y h1
        have := hends y h1
        omega
    · have h3 : (a : Int) < lim := by omega
      exact .inr ((h.mem _).2 (.inr ⟨a, .inl rfl, h3, rfl⟩))) h.st
  refine ⟨one b _ (fun y hy => ?_) hst1, fun x => ?_⟩
  · rcases (dn1_iff y).1 hy with h0 | ⟨h0, rfl⟩
    · rcases (h.mem y).1 h0 with h1 | ⟨c, h1, h2, rfl⟩
      · by_cases h3 : (b : Int) < lim
        · exact .inr ((dn1_iff _).2 (.inl ((h.mem _).2 (.inr ⟨b, .inr rfl, h3, rfl⟩))))
        · have := hlo y h1
          have := hends y h1
          left; omega
      · rcases h1 with rfl | rfl
        · by_cases e : c = b
          · subst e; exact .inr hy
          · left; left; simp only; omega
        · exact .inr ((dn1_iff _).2 (.inl ((h.mem _).2 (.inr ⟨c, .inr rfl, h2, rfl⟩))))
    · by_cases e : a = b
      · subst e; exact .inr hy
      · left; left; simp only; omega
  · unfold dn2
    rw [dn1_iff, dn1_iff, h.mem]
    constructor
    · rintro ((((h1 | ⟨c, h1, h2, rfl⟩)) | ⟨h1, rfl⟩) | ⟨h1, rfl⟩)
      · exact .inl h1
      · exact .inr ⟨c, h1, by omega, rfl⟩
      · exact .inr ⟨a, .inl rfl, h1, rfl⟩
      · exact .inr ⟨b, .inr rfl, h1, rfl⟩
    · rintro (h1 | ⟨c, h1, h2, rfl⟩)
      · exact .inl (.inl (.inl h1))
      · rcases h1 with rfl | rfl
        · exact .inl (.inr ⟨h2, rfl⟩)
        · exact .inr ⟨h2, rfl⟩
theorem grK_inv (hab : a ≤ b) (hbn : b < n) (hv : validB n es = true) : ∀ k, k ≤ es.length → ∃ lim : Int, (∀ x ∈ es.take k, x.1 ≤ lim) ∧ (∀ j, k ≤ j → j < es.length → lim ≤ (es.getD j (0, 0)).1) ∧ lim ≤ n ∧ GrI n a b es k lim (grK n a b es k)
  | 0, _ => ⟨0, by simp, fun j _ hj => (validB_ends hv hj).1, by omega, ⟨List.Pairwise.nil, fun x => by
      constructor
      · intro h; cases h
      · rintro (h | ⟨c, h1, h2, h3⟩)
        · simp at h
        · omega⟩⟩
  | k + 1, hk => by
    obtain ⟨lim, h1, h2, h3, h4⟩ := grK_inv hab hbn hv k (by omega)
    have hstr := valid_strict hv
    have he : es.getD k (0, 0) = es[k] := by rw [List.getD_eq_getElem?_getD, List.getElem?_eq_getElem (by omega)]; rfl
    have hends := validB_ends hv (k := k) (by omega)
    have hlow : ∀ x ∈ es.take k, lt2 x (es.getD k (0, 0)) := fun x hx => by
      obtain ⟨j, hj, rfl⟩ := List.getElem_of_mem hx
      rw [List.length_take] at hj
      rw [he, List.getElem_take]
      exact List.pairwise_iff_getElem.1 hstr j k (by omega) (by omega) (by omega)
    have hge : ∀ j, k + 1 ≤ j → j < es.length → (es.getD k (0, 0)).1 ≤ (es.getD j (0, 0)).1 := fun j hj hjl => by
      have := List.pairwise_iff_getElem.1 hstr k j (by omega) hjl (by omega)
      rw [he, List.getD_eq_getElem?_getD, List.getElem?_eq_getElem hjl]
      unfold lt2 at this
      simp only [Option.getD_some]
      omega
    have hd := GrI.done hab hbn hv h4 (lim' := (es.getD k (0, 0)).1) (h2 k (Nat.le_refl _) (by omega)) h1
    have htk : es.take (k + 1) = es.take k ++ [es.getD k (0, 0)] := by rw [List.take_succ_eq_append_getElem (by omega), he]
    refine ⟨(es.getD k (0, 0)).1, fun x hx => ?_, hge, by omega, ⟨?_, fun x => ?_⟩⟩
    · rw [htk, List.mem_append, List.mem_singleton] at hx
      rcases hx with hx | rfl
      · have := hlow x hx
        unfold lt2 at this
        omega
      · omega
    · show (dn2 n a b (es.getD k (0, 0)).1 (grK n a b es k) ++ [es.getD k (0, 0)]).Pairwise lt2
      rw [List.pairwise_append]
      refine ⟨hd.st, by simp, fun x hx y hy => ?_⟩
      rw [List.mem_singleton] at hy
      subst hy
      rcases (hd.mem x).1 hx with h5 | ⟨c, h5, h6, rfl⟩
      · exact hlow x h5
      · exact .inl h6
    · show x ∈ dn2 n a b (es.getD k (0, 0)).1 (grK n a b es k) ++ [es.getD k (0, 0)] ↔ _
      rw [List.mem_append, hd.mem, htk, List.mem_append]
      constructor
      · rintro ((h5 | h5) | h5)
        · exact .inl (.inl h5)
        · exact .inr h5
        · exact .inl (.inr h5)
      · rintro ((h5 | h5) | h5)
        · exact .inl (.inl h5)
        · exact .inr h5
        · exact .inl (.inr h5)
theorem grK_len : ∀ k, (grK n a b es k).length ≤ 3 * k
  | 0 => by simp [grK]
  | k + 1 => by
    have h1 := grK_len k
    have h2 := dn2_len (n := n) (a := a) (b := b) (lim := (es.getD k (0, 0)).1) (L := grK n a b es k)
    show (dn2 n a b (es.getD k (0, 0)).1 (grK n a b es k) ++ [es.getD k (0, 0)]).length ≤ _
    rw [List.length_append, List.length_singleton]; omega
/-- The greater graph's edges: in order, and these. -/
theorem grE_ok (hn : n + 1 ≤ 60) (hab : a ≤ b) (hbn : b < n) (hv : validB n es = true) : validB ((n + 1 : Nat) : Int) (grE n a b es) = true ∧ (grE n a b es).Perm (es ++ newE n a b) := by
  obtain ⟨lim, h1, h2, h3, h4⟩ := grK_inv hab hbn hv es.length (Nat.le_refl _)
  have hd := GrI.done hab hbn hv h4 (lim' := (n : Int)) h3 h1
  have hmem : ∀ x, x ∈ grE n a b es ↔ x ∈ es ++ newE n a b := fun x => by
    unfold grE
    rw [hd.mem, List.take_length, List.mem_append]
    unfold newE
    constructor
    · rintro (h5 | ⟨c, h5, h6, rfl⟩)
      · exact .inl h5
      · right
        rcases h5 with rfl | rfl
        · simp
        · by_cases e : a < c
          · simp [e]
          · have : a = c := by omega
            subst this; simp
    · rintro (h5 | h5)
      · exact .inl h5
      · right
        rcases List.mem_cons.1 h5 with rfl | h5
        · exact ⟨a, .inl rfl, by omega, rfl⟩
        · split at h5
          · rw [List.mem_singleton] at h5; subst h5
            exact ⟨b, .inr rfl, by omega, rfl⟩
          · cases h5
  have hend : ∀ e ∈ grE n a b es, 0 ≤ e.1 ∧ e.1 < e.2 ∧ e.2 < (((n + 1 : Nat)) : Int) := fun e he => by
    rcases List.mem_append.1 ((hmem e).1 he) with h5 | h5
    · have := valid_ends hv e h5; omega
    · unfold newE at h5
      rcases List.mem_cons.1 h5 with rfl | h5
      · simp only; omega
      · split at h5
        · rw [List.mem_singleton] at h5; subst h5; simp only; omega
        · cases h5
  have hst : (grE n a b es).Pairwise lt2 := hd.st
  have hid : mkL (n + 1) (grE n a b es) = grE n a b es := strict_eq (mkL_strict _ _) hst (mem_mkL_of hend)
  refine ⟨by rw [← hid]; exact mkL_valid' hn, (List.perm_ext_iff_of_nodup (nodup_lt2 hst) ?_).2 hmem⟩
  rw [List.nodup_append]
  refine ⟨valid_nodup hv, ?_, fun x hx y hy e => ?_⟩
  · unfold newE
    by_cases hlt : a < b
    · simp [hlt]; omega
    · simp [hlt]
  · subst e
    have h5 := valid_ends hv x hx
    unfold newE at hy
    rcases List.mem_cons.1 hy with rfl | hy
    · simp only at h5; omega
    · split at hy
      · rw [List.mem_singleton] at hy; subst hy; simp only at h5; omega
      · cases hy
end
end Go.Proofs.Ytagcaljpgifppaa

