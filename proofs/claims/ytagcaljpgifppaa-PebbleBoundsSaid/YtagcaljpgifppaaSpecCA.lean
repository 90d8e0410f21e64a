/-
  Tight sets of a basis, and which pairs the edges determine: for each edge the points that it is rigidly joined with form one tight set. No program stands in this text.
-/
import Derived.Test.YtagcaljpgifppaaSpecR
namespace Go.Proofs.Ytagcaljpgifppaa
set_option linter.unusedVariables false
set_option linter.unusedSimpArgs false

def basE (es : List (Int × Int)) : List (Int × Int) := grd [] es
theorem basE_len (es : List (Int × Int)) : (basE es).length = rankE es := rfl
theorem basE_eq (es : List (Int × Int)) : grd [] es = basE es := rfl
theorem basE_ok {es : List (Int × Int)} (h : Ok60 es) : Ok60 (basE es) := grd_ok Ok60.nil h
theorem basE_spA {es : List (Int × Int)} (h : Ok60 es) : SpA (basE es) := grd_spA Ok60.nil h SpA.nil
theorem grd_sub : ∀ (l I : List (Int × Int)), ∃ t, grd I l = I ++ t ∧ t.Sublist l
  | [], I => ⟨[], by unfold grd; simp, List.Sublist.refl _⟩
  | e :: l, I => by
    rw [grd_cons]
    unfold addE
    split
    · obtain ⟨t, h1, h2⟩ := grd_sub l (I ++ [e])
      exact ⟨e :: t, by rw [h1]; simp, h2.cons_cons e⟩
    · obtain ⟨t, h1, h2⟩ := grd_sub l I
      exact ⟨t, h1, h2.cons e⟩
theorem basE_sub (es : List (Int × Int)) : (basE es).Sublist es := by
  obtain ⟨t, h1, h2⟩ := grd_sub es []
  unfold basE
  rw [h1]; simpa using h2
theorem basE_app (l r : List (Int × Int)) : basE (l ++ r) = grd (basE l) r := grd_app [] l r

/-- The edges determine the pair e: it adds nothing to the rank. -/
def impE (es : List (Int × Int)) (e : Int × Int) : Prop := rankE (es ++ [e]) = rankE es
theorem rankE_one {es : List (Int × Int)} {e : Int × Int} : rankE (es ++ [e]) = (addE (basE es) e).length := by
  unfold rankE; rw [grd_app, basE_eq, grd_cons]; unfold grd; rw [List.foldl_nil]
theorem impE_iff {es : List (Int × Int)} {e : Int × Int} (ho : Ok60 es) (he : OkE 60 e) : impE es e ↔ ¬ SpA (basE es ++ [e]) := by
  unfold impE
  rw [rankE_one]
  constructor
  · intro h hs
    rw [addE_yes (basE_ok ho) he hs] at h
    simp [basE_len] at h
  · intro h
    rw [addE_no (basE_ok ho) he h]; exact basE_len es
/-- A set whose span in the basis is as great as may be. -/
def Tg (es : List (Int × Int)) (S : Nat) : Prop := 2 ≤ cntB 60 S ∧ spanS (basE es) S = 2 * (cntB 60 S : Int) - 3
theorem impE_tight {es : List (Int × Int)} {e : Int × Int} (ho : Ok60 es) (he : OkE 60 e) : impE es e ↔ ∃ S, Tg es S ∧ bothB S e = true := by
  rw [impE_iff ho he]
  constructor
  · intro h
    obtain ⟨S, h2, h3⟩ := not_spA h
    have h4 := basE_spA ho S h2
    rw [spanS_app, spanS_one] at h3
    refine ⟨S, ⟨h2, ?_⟩, ?_⟩
    · split at h3 <;> omega
    · split at h3
      · assumption
      · omega
  · rintro ⟨S, ⟨h2, h3⟩, hb⟩ hs
    have := hs S h2
    rw [spanS_app, spanS_one, if_pos hb] at this
    omega
theorem impE_mem {es : List (Int × Int)} {e : Int × Int} (ho : Ok60 es) (hm : e ∈ es) : impE es e := by
  have he := ho e hm
  rw [impE_iff ho he]
  intro hs
  obtain ⟨l, r, rfl⟩ := List.append_of_mem hm
  have hl : Ok60 l := fun x hx => ho x (by simp [hx])
  have h1 : basE (l ++ e :: r) = grd (addE (basE l) e) r := by rw [basE_app, grd_cons]
  obtain ⟨t, h2, -⟩ := grd_sub r (addE (basE l) e)
  by_cases hq : SpA (basE l ++ [e])
  · rw [h1, h2, addE_yes (basE_ok hl) he hq] at hs
    -- e stands twice
    have hc : 2 ≤ cntB 60 (2 ^ e.1.toNat ||| 2 ^ e.2.toNat) := by
      refine he.two ?_
      unfold bothB
      simp [Nat.testBit_or, Nat.testBit_two_pow]
    have hcc : cntB 60 (2 ^ e.1.toNat ||| 2 ^ e.2.toNat) ≤ 2 := by
      have h := cntB_or_and 60 (2 ^ e.1.toNat) (2 ^ e.2.toNat)
      have h1 : ∀ p, cntB 60 (2 ^ p) ≤ 1 := fun p => by
        unfold cntB
        simp only [Nat.testBit_two_pow]
        by_cases hp : p < 60
        · rw [countP_eq_range 60 p hp]; omega
        · have : (List.range 60).countP (fun i => decide (p = i)) = 0 := by
            rw [List.countP_eq_zero]; intro i hi; have := List.mem_range.1 hi; simp; omega
          rw [this]; omega
      have := h1 e.1.toNat
      have := h1 e.2.toNat
      omega
    have hb : bothB (2 ^ e.1.toNat ||| 2 ^ e.2.toNat) e = true := by
      unfold bothB; simp [Nat.testBit_or, Nat.testBit_two_pow]
    have := hs _ hc
    simp only [spanS_app, spanS_one, if_pos hb] at this
    have a1 := spanS_nonneg (basE l) (2 ^ e.1.toNat ||| 2 ^ e.2.toNat)
    have a2 := spanS_nonneg t (2 ^ e.1.toNat ||| 2 ^ e.2.toNat)
    omega
  · rw [h1, h2, addE_no (basE_ok hl) he hq] at hs
    refine hq (SpA.left (r := t) (hs.perm ?_))
    rw [List.append_assoc, List.append_assoc]
    exact List.Perm.append_left _ List.perm_append_comm
theorem Tg.or {es : List (Int × Int)} {S T : Nat} (ho : Ok60 es) (hS : Tg es S) (hT : Tg es T) (h : 2 ≤ cntB 60 (S &&& T)) : Tg es (S ||| T) := by
  have h1 := cntB_or_and 60 S T
  have h2 := spanS_or_and (basE es) S T
  have h3 := basE_spA ho _ h
  have h5 : cntB 60 (S &&& T) ≤ cntB 60 S := by
    unfold cntB
    apply List.countP_mono_left
    intro i _ hi
    rw [Nat.testBit_and, Bool.and_eq_true] at hi
    exact hi.1
  have hT1 := hT.1
  have h4 := basE_spA ho (S ||| T) (by omega)
  exact ⟨by omega, by have := hS.2; have := hT.2; omega⟩
theorem cntB_pq {S p q : Nat} (hp : p < 60) (hq : q < 60) (h : p ≠ q) (h1 : S.testBit p = true) (h2 : S.testBit q = true) : 2 ≤ cntB 60 S := cntB_two hp hq (Ne.symm h) h1 h2
/-- If a set has at most one point, then it is that point. -/
theorem cntB_single {S p q : Nat} (hp : p < 60) (hq : q < 60) (h : cntB 60 S < 2) (h1 : S.testBit p = true) (h2 : S.testBit q = true) : p = q := by
  apply Classical.byContradiction
  intro hne
  have := cntB_pq hp hq hne h1 h2
  omega
theorem bit_or (S T p : Nat) : (S ||| T).testBit p = (S.testBit p || T.testBit p) := Nat.testBit_or ..
theorem bit_and (S T p : Nat) : (S &&& T).testBit p = (S.testBit p && T.testBit p) := Nat.testBit_and ..
/-- Three tight sets that share two points each in a ring of three points. -/
theorem Tg.three {es : List (Int × Int)} {A B C u v p : Nat} (ho : Ok60 es) (hA : Tg es A) (hB : Tg es B) (hC : Tg es C) (hu : u < 60) (hv : v < 60) (hp : p < 60) (huv : u ≠ v)
    (a1 : A.testBit u = true) (a2 : A.testBit v = true) (b1 : B.testBit p = true) (b2 : B.testBit u = true) (c1 : C.testBit p = true) (c2 : C.testBit v = true) :
    ∃ T, Tg es T ∧ T.testBit u = true ∧ T.testBit v = true ∧ T.testBit p = true ∧ ∀ i, A.testBit i = true → T.testBit i = true := by
  by_cases hAp : A.testBit p = true
  · exact ⟨A, hA, a1, a2, hAp, fun i h => h⟩
  have hpu : p ≠ u := fun e => hAp (by rw [e]; exact a1)
  have hpv : p ≠ v := fun e => hAp (by rw [e]; exact a2)
  by_cases hAB : 2 ≤ cntB 60 (A &&& B)
  · exact ⟨A ||| B, hA.or ho hB hAB, by simp [bit_or, a1], by simp [bit_or, a2], by simp [bit_or, b1], fun i h => by simp [bit_or, h]⟩
  by_cases hAC : 2 ≤ cntB 60 (A &&& C)
  · exact ⟨A ||| C, hA.or ho hC hAC, by simp [bit_or, a1], by simp [bit_or, a2], by simp [bit_or, c1], fun i h => by simp [bit_or, h]⟩
  by_cases hBC : 2 ≤ cntB 60 (B &&& C)
  · have h1 := hB.or ho hC hBC
    have h2 : 2 ≤ cntB 60 (A &&& (B ||| C)) := cntB_pq hu hv huv (by simp [bit_and, bit_or, a1, b2]) (by simp [bit_and, bit_or, a2, c2])
    exact ⟨A ||| (B ||| C), hA.or ho h1 h2, by simp [bit_or, a1], by simp [bit_or, a2], by simp [bit_or, b1], fun i h => by simp [bit_or, h]⟩
  have hB0 : (B &&& C).testBit p = true := by simp [bit_and, b1, c1]
  have hAB1 : 1 ≤ cntB 60 (A &&& B) := List.countP_pos_iff.2 ⟨u, List.mem_range.2 hu, by simp [bit_and, a1, b2]⟩
  have hAC1 : 1 ≤ cntB 60 (A &&& C) := List.countP_pos_iff.2 ⟨v, List.mem_range.2 hv, by simp [bit_and, a2, c2]⟩
  have hBC1 : 1 ≤ cntB 60 (B &&& C) := List.countP_pos_iff.2 ⟨p, List.mem_range.2 hp, hB0⟩
  have k1 := cntB_or_and 60 A B
  have k2 := cntB_or_and 60 (A ||| B) C
  have m1 := spanS_or_and (basE es) A B
  have m2 := spanS_or_and (basE es) (A ||| B) C
  -- an edge of the basis lies in at most one of the three
  have sp0 : ∀ X, cntB 60 X < 2 → spanS (basE es) X = 0 := by
    intro X hX
    unfold spanS
    have : (basE es).countP (bothB X) = 0 := by
      rw [List.countP_eq_zero]
      intro e he hb
      have := (basE_ok ho e he).two hb
      omega
    rw [this]; rfl
  have z1 := sp0 _ (by omega : cntB 60 (A &&& B) < 2)
  -- (A or B) and C holds v and p; the count is 2, and its span is that of edges within
  have k3 : cntB 60 ((A ||| B) &&& C) ≤ cntB 60 (A &&& C) + cntB 60 (B &&& C) := by
    have h := cntB_or_and 60 (A &&& C) (B &&& C)
    have e : (A ||| B) &&& C = (A &&& C) ||| (B &&& C) := Nat.and_or_distrib_right ..
    rw [e]; omega
  have k4 : 2 ≤ cntB 60 ((A ||| B) &&& C) := cntB_pq hv hp (Ne.symm hpv) (by simp [bit_and, bit_or, a2, c2]) (by simp [bit_and, bit_or, b1, c1])
  have hU : 2 ≤ cntB 60 ((A ||| B) ||| C) := cntB_pq hu hv huv (by simp [bit_or, a1]) (by simp [bit_or, a2])
  have top := basE_spA ho _ hU
  have key : spanS (basE es) A + spanS (basE es) B + spanS (basE es) C ≤ spanS (basE es) ((A ||| B) ||| C) := by
    have one : ∀ e ∈ basE es, (if bothB A e = true then 1 else 0) + (if bothB B e = true then 1 else 0) + (if bothB C e = true then 1 else 0) ≤ (if bothB ((A ||| B) ||| C) e = true then 1 else 0 : Nat) := by
      intro e he
      have hok := basE_ok ho e he
      have n1 : ¬ (bothB A e = true ∧ bothB B e = true) := fun ⟨x, y⟩ => by have := hok.two (bothB_and x y); omega
      have n2 : ¬ (bothB A e = true ∧ bothB C e = true) := fun ⟨x, y⟩ => by have := hok.two (bothB_and x y); omega
      have n3 : ¬ (bothB B e = true ∧ bothB C e = true) := fun ⟨x, y⟩ => by have := hok.two (bothB_and x y); omega
      have i1 : bothB A e = true → bothB ((A ||| B) ||| C) e = true := fun h => bothB_or (.inl (bothB_or (.inl h)))
      have i2 : bothB B e = true → bothB ((A ||| B) ||| C) e = true := fun h => bothB_or (.inl (bothB_or (.inr h)))
      have i3 : bothB C e = true → bothB ((A ||| B) ||| C) e = true := fun h => bothB_or (.inr h)
      cases hx : bothB A e <;> cases hy : bothB B e <;> cases hz : bothB C e <;> simp_all
    have all : ∀ l : List (Int × Int), (∀ e ∈ l, (if bothB A e = true then 1 else 0) + (if bothB B e = true then 1 else 0) + (if bothB C e = true then 1 else 0) ≤ (if bothB ((A ||| B) ||| C) e = true then 1 else 0 : Nat)) → l.countP (bothB A) + l.countP (bothB B) + l.countP (bothB C) ≤ l.countP (bothB ((A ||| B) ||| C)) := by
      intro l
      induction l with
      | nil => intro _; simp
      | cons e l ih =>
        intro h
        have h1 := h e (by simp)
        have h2 := ih (fun x hx => h x (by simp [hx]))
        simp only [List.countP_cons]
        omega
    have := all _ one
    unfold spanS
    omega
  have hA2 := hA.2
  have hB2 := hB.2
  have hC2 := hC.2
  refine ⟨(A ||| B) ||| C, ⟨hU, by omega⟩, by simp [bit_or, a1], by simp [bit_or, a2], by simp [bit_or, b1], fun i h => by simp [bit_or, h]⟩
theorem Tg.cut {n : Nat} {es : List (Int × Int)} {T : Nat} (hn : n ≤ 60) (hok : ∀ e ∈ es, OkE n e) (h : Tg es T) : Tg es (T % 2 ^ n) := by
  have ho : Ok60 es := fun e he => (hok e he).mono hn
  have hs : spanS (basE es) (T % 2 ^ n) = spanS (basE es) T := spanS_congr (fun e hm => by
    obtain ⟨p1, p2, p3, p4, p5⟩ := hok e ((basE_sub es).subset hm)
    unfold bothB
    rw [Nat.testBit_mod_two_pow, Nat.testBit_mod_two_pow, decide_eq_true (by omega : e.1.toNat < n), decide_eq_true (by omega : e.2.toNat < n), Bool.true_and, Bool.true_and])
  have hle : cntB 60 (T % 2 ^ n) ≤ cntB 60 T := by
    unfold cntB
    apply List.countP_mono_left
    intro i _ hi
    rw [Nat.testBit_mod_two_pow, Bool.and_eq_true] at hi
    exact hi.2
  have h2 : 2 ≤ cntB 60 (T % 2 ^ n) := by
    have hpos : 0 < (basE es).countP (bothB (T % 2 ^ n)) := by
      have h1 := h.1
      have h3 := h.2
      rw [← hs] at h3
      unfold spanS at h3
      omega
    obtain ⟨e, he, hb⟩ := List.countP_pos_iff.1 hpos
    exact (basE_ok ho e he).two hb
  have h4 := basE_spA ho _ h2
  have h5 := h.2
  exact ⟨h2, by omega⟩

/-- The point p belongs to the cluster of the pair u, v. -/
def inC (es : List (Int × Int)) (u v p : Nat) : Prop := p = u ∨ p = v ∨ (impE es ((p : Int), (u : Int)) ∧ impE es ((p : Int), (v : Int)))
theorem bothB_nat {T a b : Nat} : bothB T ((a : Int), (b : Int)) = (T.testBit a && T.testBit b) := by unfold bothB; simp
theorem okE_nat {n a b : Nat} (ha : a < n) (hb : b < n) (h : a ≠ b) : OkE n ((a : Int), (b : Int)) := ⟨by simp, by simp; omega, by simp, by simp; omega, by simp; omega⟩
/-- The points of a cluster form a tight set. -/
theorem cluster_set {n : Nat} {es : List (Int × Int)} {u v : Nat} (hn : n ≤ 60) (hok : ∀ e ∈ es, OkE n e) (hu : u < n) (hv : v < n) (huv : u ≠ v) (hi : impE es ((u : Int), (v : Int))) :
    ∃ T, T < 2 ^ n ∧ Tg es T ∧ ∀ p, p < n → (T.testBit p = true ↔ inC es u v p) := by
  have ho : Ok60 es := fun e he => (hok e he).mono hn
  have o60 : ∀ {a b : Nat}, a < n → b < n → a ≠ b → OkE 60 ((a : Int), (b : Int)) := fun ha hb h => (okE_nat ha hb h).mono hn
  obtain ⟨T0, t0, b0⟩ := (impE_tight ho (o60 hu hv huv)).1 hi
  rw [bothB_nat, Bool.and_eq_true] at b0
  have step : ∀ k, k ≤ n → ∃ T, Tg es T ∧ T.testBit u = true ∧ T.testBit v = true ∧ ∀ p, p < k → inC es u v p → T.testBit p = true := by
    intro k
    induction k with
    | zero => intro _; exact ⟨T0, t0, b0.1, b0.2, fun p hp => by omega⟩
    | succ k ih =>
      intro hk
      obtain ⟨T, t1, t2, t3, t4⟩ := ih (by omega)
      by_cases hT : T.testBit k = true
      · exact ⟨T, t1, t2, t3, fun p hp hc => by
          by_cases e : p = k
          · rw [e]; exact hT
          · exact t4 p (by omega) hc⟩
      · by_cases hc : inC es u v k
        · rcases hc with e | e | ⟨h1, h2⟩
          · exact absurd (by rw [e]; exact t2) hT
          · exact absurd (by rw [e]; exact t3) hT
          · have hku : k ≠ u := fun e => hT (by rw [e]; exact t2)
            have hkv : k ≠ v := fun e => hT (by rw [e]; exact t3)
            obtain ⟨B, hB, bB⟩ := (impE_tight ho (o60 (by omega) hu hku)).1 h1
            obtain ⟨C, hC, bC⟩ := (impE_tight ho (o60 (by omega) hv hkv)).1 h2
            rw [bothB_nat, Bool.and_eq_true] at bB bC
            obtain ⟨X, x1, x2, x3, x4, x5⟩ := Tg.three (u := u) (v := v) (p := k) ho t1 hB hC (by omega) (by omega) (by omega) huv t2 t3 bB.1 bB.2 bC.1 bC.2
            exact ⟨X, x1, x2, x3, fun p hp hc => by
              by_cases e : p = k
              · rw [e]; exact x4
              · exact x5 p (t4 p (by omega) hc)⟩
        · exact ⟨T, t1, t2, t3, fun p hp hc' => by
            by_cases e : p = k
            · rw [e] at hc'; exact absurd hc' hc
            · exact t4 p (by omega) hc'⟩
  obtain ⟨T, t1, t2, t3, t4⟩ := step n (Nat.le_refl _)
  refine ⟨T % 2 ^ n, Nat.mod_lt _ (Nat.two_pow_pos n), t1.cut hn hok, fun p hp => ?_⟩
  rw [Nat.testBit_mod_two_pow, decide_eq_true hp, Bool.true_and]
  refine ⟨fun h => ?_, t4 p hp⟩
  by_cases e1 : p = u
  · exact .inl e1
  by_cases e2 : p = v
  · exact .inr (.inl e2)
  refine .inr (.inr ⟨(impE_tight ho (o60 hp hu e1)).2 ⟨T, t1, ?_⟩, (impE_tight ho (o60 hp hv e2)).2 ⟨T, t1, ?_⟩⟩)
  · rw [bothB_nat, h, t2]; rfl
  · rw [bothB_nat, h, t3]; rfl

/-- The rank of the edges within a set. -/
def rkS (es : List (Int × Int)) (S : Nat) : Nat := rankE (es.filter (bothB S))
/-- A rigid set. -/
def RigS (es : List (Int × Int)) (S : Nat) : Prop := 2 ≤ cntB 60 S ∧ (rkS es S : Int) = 2 * (cntB 60 S : Int) - 3
theorem ok60_filter {es : List (Int × Int)} (h : Ok60 es) (p : Int × Int → Bool) : Ok60 (es.filter p) := fun e he => h e (List.mem_filter.1 he).1
theorem span_all {l : List (Int × Int)} {S : Nat} (h : ∀ e ∈ l, bothB S e = true) : spanS l S = l.length := by
  unfold spanS; rw [List.countP_eq_length.2 h]
theorem rkS_le {es : List (Int × Int)} {S : Nat} (ho : Ok60 es) (h : 2 ≤ cntB 60 S) : (rkS es S : Int) ≤ 2 * (cntB 60 S : Int) - 3 := by
  have h1 := basE_spA (ok60_filter ho (bothB S)) S h
  rw [span_all (fun e he => (List.mem_filter.1 ((basE_sub _).subset he)).2)] at h1
  exact h1
theorem rank_ge {J L : List (Int × Int)} (hL : Ok60 L) (hJ : SpA J) (h : J.Sublist L) : J.length ≤ rankE L := by
  obtain ⟨K, hK⟩ := h.exists_perm_append
  rw [rankE_perm hK hL]
  have hJo : Ok60 J := fun e he => hL e (h.subset he)
  unfold rankE
  rw [grd_app, grd_whole Ok60.nil hJo (by simpa using hJ)]
  have := (grd_len K ([] ++ J)).2
  simpa using this
theorem Tg.rig {es : List (Int × Int)} {S : Nat} (ho : Ok60 es) (h : Tg es S) : RigS es S := by
  refine ⟨h.1, ?_⟩
  have h1 := rkS_le ho h.1
  have h2 : ((basE es).filter (bothB S)).length ≤ rkS es S := by
    refine rank_ge (ok60_filter ho _) ?_ ((basE_sub es).filter _)
    intro X hX
    exact Int.le_trans (spanS_filter _ _ _) (basE_spA ho X hX)
  have h3 := h.2
  unfold spanS at h3
  rw [List.countP_eq_length_filter] at h3
  omega
theorem rig_imp {n : Nat} {es : List (Int × Int)} {S a b : Nat} (hn : n ≤ 60) (hok : ∀ e ∈ es, OkE n e) (h : RigS es S) (ha : a < n) (hb : b < n) (hab : a ≠ b) (h1 : S.testBit a = true) (h2 : S.testBit b = true) : impE es ((a : Int), (b : Int)) := by
  have ho : Ok60 es := fun e he => (hok e he).mono hn
  have he : OkE 60 ((a : Int), (b : Int)) := (okE_nat ha hb hab).mono hn
  have hperm : es.Perm (es.filter (bothB S) ++ es.filter (fun e => !bothB S e)) := (List.filter_append_perm (bothB S) es).symm
  have oF := ok60_filter ho (bothB S)
  have hno : ¬ SpA (basE (es.filter (bothB S)) ++ [((a : Int), (b : Int))]) := fun hs => by
    have := hs S h.1
    rw [spanS_app, spanS_one, if_pos (by rw [bothB_nat, h1, h2]; rfl), span_all (fun e he => (List.mem_filter.1 ((basE_sub _).subset he)).2)] at this
    have h3 := h.2
    unfold rkS at h3
    rw [← basE_len] at h3
    omega
  unfold impE
  have p1 : (es ++ [((a : Int), (b : Int))]).Perm (es.filter (bothB S) ++ [((a : Int), (b : Int))] ++ es.filter (fun e => !bothB S e)) := by
    refine (hperm.append_right _).trans ?_
    rw [List.append_assoc, List.append_assoc]
    exact List.Perm.append_left _ List.perm_append_comm
  rw [rankE_perm p1 (ho.app (Ok60.one he)), rankE_perm hperm ho]
  unfold rankE
  rw [grd_app, grd_app, grd_app]
  have : grd (grd [] (es.filter (bothB S))) [((a : Int), (b : Int))] = grd [] (es.filter (bothB S)) := by
    rw [basE_eq]
    unfold grd
    rw [List.foldl_cons, List.foldl_nil, addE_no (basE_ok oF) he hno]
  rw [this]
theorem rig_edge {es : List (Int × Int)} {S : Nat} (h : RigS es S) : ∃ e ∈ es, bothB S e = true := by
  have h1 : 0 < (basE (es.filter (bothB S))).length := by
    rw [basE_len]
    have h2 := h.2
    have h3 := h.1
    unfold rkS at h2
    omega
  obtain ⟨e, he⟩ := List.exists_mem_of_length_pos h1
  have := List.mem_filter.1 ((basE_sub _).subset he)
  exact ⟨e, this.1, this.2⟩
end Go.Proofs.Ytagcaljpgifppaa
