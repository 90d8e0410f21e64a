/-
  The pebble game: an edge is accepted exactly if it is independent of those before it. No program stands in this text.
-/
import Derived.Test.YtbhkdodokdgijaaSpecS
namespace Go.Proofs.Ytbhkdodokdgijaa
set_option linter.unusedVariables false
set_option linter.unusedSimpArgs false

/-- The points that are visited, as a number. -/
def visS : List Bool → Nat
  | [] => 0
  | b :: l => (if b then 1 else 0) + 2 * visS l
theorem visS_bit (vis : List Bool) (x : Nat) : (visS vis).testBit x = visB vis x := by
  induction vis generalizing x with
  | nil => simp [visS, visB]
  | cons b l ih =>
    cases x with
    | zero => unfold visS visB; cases b <;> simp [Nat.testBit_zero]
    | succ x =>
      have h : (visS (b :: l)) / 2 = visS l := by rw [show visS (b :: l) = (if b then 1 else 0) + 2 * visS l from rfl]; cases b <;> simp <;> omega
      rw [Nat.testBit_succ, h, ih]; rfl
def vis0 (n q p : Nat) : List Bool := ((List.replicate n false).set q true).set p true
theorem vis0_len (n q p : Nat) : (vis0 n q p).length = n := by unfold vis0; simp
theorem visB_none (n x : Nat) : visB (List.replicate n false) x = false := by
  unfold visB
  rw [List.getD_eq_getElem?_getD, List.getElem?_replicate]; split <;> rfl
theorem vis0_bit {n q p : Nat} (hq : q < n) (hp : p < n) (x : Nat) : visB (vis0 n q p) x = (decide (x = p) || decide (x = q)) := by
  unfold vis0
  rw [visB_set _ _ _ (by simpa using hp), visB_set _ _ _ (by simpa using hq), visB_none, Bool.or_false]

/-- Pebbles are fetched to p, past q. -/
inductive GLoop (n : Nat) : List (List Int) → Nat → Nat → List (List Int) → Prop
  | full {out : List (List Int)} {p q : Nat} : rowOf out p = [] → GLoop n out p q out
  | fail {out : List (List Int)} {p q : Nat} {out' : List (List Int)} {vis' : List Bool} : rowOf out p ≠ [] → FLoop out (vis0 n q p) p 0 false out' vis' → GLoop n out p q out'
  | step {out : List (List Int)} {p q : Nat} {out1 : List (List Int)} {vis' : List Bool} {out' : List (List Int)} : rowOf out p ≠ [] → FLoop out (vis0 n q p) p 0 true out1 vis' → GLoop n out1 p q out' → GLoop n out p q out'

theorem GS.of_yes {n : Nat} {out out' : List (List Int)} {a : Nat} (hs : GS n out) (h1 : GW n out') (h3 : ∀ x, x ≠ a → (rowOf out' x).length ≤ 2) (h4 : (rowOf out' a).length + 1 = (rowOf out a).length) : GS n out' :=
  ⟨h1.len, h1.mem, fun x => by
    by_cases e : x = a
    · subst e; have := hs.two x; omega
    · exact h3 x e⟩
theorem GLoop.keep {n : Nat} {out : List (List Int)} {p q : Nat} {out' : List (List Int)} (h : GLoop n out p q out') : GS n out → p < n → q < n → p ≠ q → GS n out' ∧ (∀ S, arcS out' S = arcS out S) ∧ rowOf out' q = rowOf out q := by
  induction h with
  | full _ => intro hs _ _ _; exact ⟨hs, fun _ => rfl, rfl⟩
  | fail _ hl =>
    intro hs hp hq hpq
    obtain ⟨rfl, -, -⟩ := hl.no hs.w (vis0_len _ _ _) rfl
    exact ⟨hs, fun _ => rfl, rfl⟩
  | step _ hl _ ih =>
    intro hs hp hq hpq
    obtain ⟨h1, h2, h3, h4, h5⟩ := hl.yes hs (vis0_len _ _ _) hp (by rw [vis0_bit hq hp]; simp) rfl
    obtain ⟨k1, k2, k3⟩ := ih (hs.of_yes h1 h3 h4) hp hq hpq
    exact ⟨k1, fun S => by rw [k2, h2], by rw [k3, h5 _ (by rw [vis0_bit hq hp]; simp) (Ne.symm hpq)]⟩
/-- A set of points that no covered edge leaves, but for those of q; only p and q have free pebbles. -/
structure Shut (out : List (List Int)) (p q : Nat) (V : Nat) : Prop where
  hp : V.testBit p = true
  hq : V.testBit q = true
  go : ∀ x, V.testBit x = true → x ≠ q → ∀ y ∈ rowOf out x, V.testBit y.toNat = true
  two : ∀ x, V.testBit x = true → x ≠ p → x ≠ q → 2 ≤ (rowOf out x).length
theorem GLoop.stop {n : Nat} {out : List (List Int)} {p q : Nat} {out' : List (List Int)} (h : GLoop n out p q out') : GS n out → p < n → q < n → p ≠ q → rowOf out' p = [] ∨ ∃ V, Shut out' p q V := by
  induction h with
  | full h => intro _ _ _ _; exact .inl h
  | @fail out p q out' vis' _ hl =>
    intro hs hp hq hpq
    obtain ⟨rfl, h2, h3⟩ := hl.no hs.w (vis0_len _ _ _) rfl
    have hm := hl.vmono
    refine .inr ⟨visS vis', ?_, ?_, fun x hx hxq y hy => ?_, fun x hx hxp hxq => ?_⟩
    · rw [visS_bit]; exact hm _ (by rw [vis0_bit hq hp]; simp)
    · rw [visS_bit]; exact hm _ (by rw [vis0_bit hq hp]; simp)
    · rw [visS_bit] at hx ⊢
      by_cases e : x = p
      · subst e
        obtain ⟨j, hj, rfl⟩ := List.getElem_of_mem hy
        exact h2 j _ (Nat.zero_le _) (List.getElem?_eq_getElem hj)
      · exact (h3 x hx (by rw [vis0_bit hq hp]; simp [e, hxq])).2 y hy
    · rw [visS_bit] at hx
      exact (h3 x hx (by rw [vis0_bit hq hp]; simp [hxp, hxq])).1
  | step _ hl _ ih =>
    intro hs hp hq hpq
    obtain ⟨h1, h2, h3, h4, h5⟩ := hl.yes hs (vis0_len _ _ _) hp (by rw [vis0_bit hq hp]; simp) rfl
    exact ih (hs.of_yes h1 h3 h4) hp hq hpq
/-- What is shut for a, b stays as it was while pebbles are fetched to b. -/
theorem GLoop.apart {n : Nat} {out : List (List Int)} {p q : Nat} {out' : List (List Int)} (h : GLoop n out p q out') : ∀ {V : Nat}, GS n out → p < n → q < n → p ≠ q → Shut out q p V → ∀ x, V.testBit x = true → x ≠ p → x ≠ q → rowOf out' x = rowOf out x := by
  induction h with
  | full _ => intro V _ _ _ _ _ x _ _ _; rfl
  | fail _ hl =>
    intro V hs hp hq hpq _ x _ _ _
    obtain ⟨rfl, -, -⟩ := hl.no hs.w (vis0_len _ _ _) rfl
    rfl
  | @step out p q out1 vis' out' _ hl hg ih =>
    intro V hs hp hq hpq hV x hx hxp hxq
    obtain ⟨h1, h2, h3, h4, h5⟩ := hl.yes hs (vis0_len _ _ _) hp (by rw [vis0_bit hq hp]; simp) rfl
    have hc : Cl out (vis0 n q p) (fun x => V.testBit x = true ∧ x ≠ p ∧ x ≠ q) := by
      intro z hz _
      refine ⟨hV.two z hz.1 hz.2.2 hz.2.1, fun y hy => ?_⟩
      have hyV := hV.go z hz.1 hz.2.1 y hy
      by_cases e1 : y.toNat = p
      · right; rw [vis0_bit hq hp, e1]; simp
      · by_cases e2 : y.toNat = q
        · right; rw [vis0_bit hq hp, e2]; simp
        · exact .inl ⟨hyV, e1, e2⟩
    obtain ⟨-, ha⟩ := hl.apart hs (vis0_len _ _ _) hp (by rw [vis0_bit hq hp]; simp) hc
    have heq := ha (fun h => h.2.1 rfl) rfl
    have hq1 : rowOf out1 q = rowOf out q := h5 q (by rw [vis0_bit hq hp]; simp) (Ne.symm hpq)
    have hV1 : Shut out1 q p V := by
      refine ⟨hV.hp, hV.hq, fun z hz hzp y hy => ?_, fun z hz hzq hzp => ?_⟩
      · by_cases e : z = q
        · subst e; rw [hq1] at hy; exact hV.go z hz hzp y hy
        · rw [heq z ⟨hz, hzp, e⟩] at hy; exact hV.go z hz hzp y hy
      · rw [heq z ⟨hz, hzp, hzq⟩]; exact hV.two z hz hzq hzp
    rw [ih (hs.of_yes h1 h3 h4) hp hq hpq hV1 x hx hxp hxq, heq x ⟨hx, hxp, hxq⟩]

/-- A set of points that no covered edge leaves; only a and b have free pebbles. -/
structure Tight (out : List (List Int)) (a b : Nat) (V : Nat) : Prop where
  hp : V.testBit a = true
  hq : V.testBit b = true
  go : ∀ x, V.testBit x = true → ∀ y ∈ rowOf out x, V.testBit y.toNat = true
  two : ∀ x, V.testBit x = true → x ≠ a → x ≠ b → 2 ≤ (rowOf out x).length
theorem gather_stop {n : Nat} {out out1 out2 : List (List Int)} {a b : Nat} (hs : GS n out) (ha : a < n) (hb : b < n) (hab : a ≠ b) (h1 : GLoop n out a b out1) (h2 : GLoop n out1 b a out2) :
    (rowOf out2 a = [] ∧ rowOf out2 b = []) ∨ ∃ V, Tight out2 a b V := by
  obtain ⟨k1, -, k3⟩ := h1.keep hs ha hb hab
  obtain ⟨m1, -, m3⟩ := h2.keep k1 hb ha (Ne.symm hab)
  rcases h1.stop hs ha hb hab with e1 | ⟨V1, s1⟩
  · rcases h2.stop k1 hb ha (Ne.symm hab) with e2 | ⟨V2, s2⟩
    · exact .inl ⟨by rw [m3, e1], e2⟩
    · refine .inr ⟨V2, s2.hq, s2.hp, fun x hx y hy => ?_, fun x hx h3 h4 => s2.two x hx h4 h3⟩
      by_cases e : x = a
      · subst e; rw [m3, e1] at hy; cases hy
      · exact s2.go x hx e y hy
  · have hap := h2.apart k1 hb ha (Ne.symm hab) s1
    rcases h2.stop k1 hb ha (Ne.symm hab) with e2 | ⟨V2, s2⟩
    · refine .inr ⟨V1, s1.hp, s1.hq, fun x hx y hy => ?_, fun x hx h3 h4 => ?_⟩
      · by_cases e : x = b
        · subst e; rw [e2] at hy; cases hy
        · by_cases e' : x = a
          · subst e'; rw [m3] at hy; exact s1.go x hx e y hy
          · rw [hap x hx e e'] at hy; exact s1.go x hx e y hy
      · rw [hap x hx h4 h3]; exact s1.two x hx h3 h4
    · refine .inr ⟨V1 ||| V2, ?_, ?_, fun x hx y hy => ?_, fun x hx h3 h4 => ?_⟩
      · rw [Nat.testBit_or, s1.hp]; rfl
      · rw [Nat.testBit_or, s1.hq]; rfl
      · rw [Nat.testBit_or, Bool.or_eq_true] at hx ⊢
        by_cases ea : x = a
        · subst ea; rw [m3] at hy; exact .inl (s1.go x s1.hp hab y hy)
        · by_cases eb : x = b
          · subst eb; exact .inr (s2.go x s2.hp ea y hy)
          · rcases hx with hx | hx
            · rw [hap x hx eb ea] at hy; exact .inl (s1.go x hx eb y hy)
            · exact .inr (s2.go x hx ea y hy)
      · rw [Nat.testBit_or, Bool.or_eq_true] at hx
        rcases hx with hx | hx
        · rw [hap x hx h4 h3]; exact s1.two x hx h3 h4
        · exact s2.two x hx h4 h3

/-- The game covers the edges E, which are independent. -/
structure GInv (n : Nat) (out : List (List Int)) (E : List (Int × Int)) : Prop where
  gs : GS n out
  arc : ∀ S, (arcS out S : Int) = spanS E S
  sp : SpA E
  ok : ∀ e ∈ E, OkE n e
theorem GInv.gather {n : Nat} {out out1 out2 : List (List Int)} {E : List (Int × Int)} {a b : Nat} (h : GInv n out E) (ha : a < n) (hb : b < n) (hab : a ≠ b) (h1 : GLoop n out a b out1) (h2 : GLoop n out1 b a out2) : GInv n out2 E := by
  obtain ⟨k1, k2, -⟩ := h1.keep h.gs ha hb hab
  obtain ⟨m1, m2, -⟩ := h2.keep k1 hb ha (Ne.symm hab)
  exact ⟨m1, fun S => by rw [m2, k2]; exact h.arc S, h.sp, h.ok⟩
theorem cntB_mono {n m S : Nat} (h : n ≤ m) : cntB n S ≤ cntB m S := by
  obtain ⟨d, rfl⟩ := Nat.exists_eq_add_of_le h
  unfold cntB
  rw [List.range_add, List.countP_append]
  omega
theorem arcS_nil (n S : Nat) : arcS (List.replicate n []) S = 0 := by
  unfold arcS
  have : sumF (List.replicate n ([] : List Int)).length (arcAt (List.replicate n []) S) = sumF (List.replicate n ([] : List Int)).length (fun _ => 0) := sumF_congr (fun j hj => by
    unfold arcAt
    have : rowOf (List.replicate n []) j = [] := by
      unfold rowOf
      rw [List.getD_eq_getElem?_getD, List.getElem?_replicate]; split <;> rfl
    rw [this]; simp)
  rw [this]
  have h0 : ∀ m, sumF m (fun _ => 0) = 0 := fun m => by
    induction m with
    | zero => rfl
    | succ n ih => rw [sumF_succ, ih]
  exact h0 _
theorem rowOf_nil (n j : Nat) : rowOf (List.replicate n []) j = [] := by
  unfold rowOf
  rw [List.getD_eq_getElem?_getD, List.getElem?_replicate]; split <;> rfl
theorem GInv.start (n : Nat) : GInv n (List.replicate n []) [] :=
  ⟨⟨by simp, fun a x hx => (by rw [rowOf_nil] at hx; cases hx), fun a => by rw [rowOf_nil]; simp⟩, fun S => by rw [arcS_nil]; rfl, SpA.nil, fun e he => by cases he⟩
/-- Both ends have all their pebbles: the edge is independent. -/
theorem GInv.yes {n : Nat} {out : List (List Int)} {E : List (Int × Int)} {a b : Nat} (h : GInv n out E) (hn : n ≤ 60) (ha : a < n) (hb : b < n) (hab : a ≠ b) (ea : rowOf out a = []) (eb : rowOf out b = []) :
    SpA (E ++ [((a : Int), (b : Int))]) ∧ GInv n (out.set a [(b : Int)]) (E ++ [((a : Int), (b : Int))]) := by
  have key : ∀ S : Nat, S.testBit a = true → S.testBit b = true → arcS out S + 4 ≤ 2 * cntB n S := by
    intro S hA hB
    have h1 : sumF n (fun j => (arcAt out S j + if j = a then 2 else 0) + if j = b then 2 else 0) ≤ sumF n (fun i => if S.testBit i = true then 2 else 0) := sumF_le (fun j hj => by
      have h2 := h.gs.two j
      have h3 := List.countP_le_length (p := fun b : Int => S.testBit b.toNat) (l := rowOf out j)
      unfold arcAt
      by_cases e1 : j = a
      · subst e1; rw [ea]; simp [hA, hab]
      · by_cases e2 : j = b
        · subst e2; rw [eb]; simp [hB, e1]
        · simp only [e1, e2, if_false]
          split <;> omega)
    rw [sumF_add, sumF_add, sumF_one ha, sumF_one hb, sumF_bits] at h1
    have h2 : arcS out S = sumF n (arcAt out S) := by unfold arcS; rw [h.gs.len]
    rw [h2]
    have h3 : sumF n (fun x => arcAt out S x) = sumF n (arcAt out S) := rfl
    rw [h3] at h1
    omega
  have hsp : SpA (E ++ [((a : Int), (b : Int))]) := by
    intro S h2
    rw [spanS_app, spanS_one]
    by_cases hAB : bothB S ((a : Int), (b : Int)) = true
    · rw [if_pos hAB]
      unfold bothB at hAB
      simp only [Int.toNat_natCast, Bool.and_eq_true] at hAB
      have h3 := key S hAB.1 hAB.2
      have h4 := h.arc S
      have h5 := cntB_mono (S := S) hn
      omega
    · rw [if_neg hAB]
      have := h.sp S h2
      omega
  refine ⟨hsp, ⟨⟨by rw [List.length_set]; exact h.gs.len, fun x y hy => ?_, fun x => ?_⟩, fun S => ?_, hsp, fun e he => ?_⟩⟩
  · rw [rowOf_set _ _ _ _ (by rw [h.gs.len]; exact ha)] at hy
    split at hy
    · simp at hy; omega
    · exact h.gs.mem x y hy
  · rw [rowOf_set _ _ _ _ (by rw [h.gs.len]; exact ha)]
    split
    · simp
    · exact h.gs.two x
  · have h1 := arcS_set out a [(b : Int)] S (by rw [h.gs.len]; exact ha)
    have h2 : arcAt out S a = 0 := by unfold arcAt; rw [ea]; simp
    rw [h2, Nat.add_zero] at h1
    rw [h1, spanS_app, spanS_one]
    have h3 := h.arc S
    unfold bothB
    simp only [Int.toNat_natCast]
    simp only [List.countP_cons, List.countP_nil, Int.toNat_natCast]
    by_cases hA : S.testBit a = true <;> by_cases hB : S.testBit b = true <;> simp [hA, hB] <;> omega
  · rw [List.mem_append] at he
    rcases he with he | he
    · exact h.ok e he
    · simp at he; subst he
      exact ⟨by omega, by simp; omega, by omega, by simp; omega, by simp; omega⟩
/-- The points that the ends lead to hold too many edges. -/
theorem GInv.span {n : Nat} {out : List (List Int)} {E : List (Int × Int)} {a b V : Nat} (h : GInv n out E) (ha : a < n) (hb : b < n) (hab : a ≠ b) (hV : Tight out a b V) (hne : 1 ≤ (rowOf out a).length + (rowOf out b).length) :
    2 * (cntB n V : Int) - 3 ≤ spanS E V := by
  have h1 : sumF n (fun i => if V.testBit i = true then 2 else 0) ≤ sumF n (fun j => (arcAt out V j + if j = a then 2 - (rowOf out a).length else 0) + if j = b then 2 - (rowOf out b).length else 0) := sumF_le (fun j hj => by
    have h3 : V.testBit j = true → (rowOf out j).countP (fun b : Int => V.testBit b.toNat) = (rowOf out j).length := fun hj => by
      rw [List.countP_eq_length]; exact fun y hy => hV.go j hj y hy
    unfold arcAt
    cases e : V.testBit j
    · simp
    · rw [h3 e]
      by_cases e1 : j = a
      · subst e1
        simp only [if_true, if_neg hab]
        omega
      · by_cases e2 : j = b
        · subst e2
          simp only [if_true, if_neg e1]
          omega
        · have := hV.two j e e1 e2
          simp only [if_true, if_neg e1, if_neg e2]
          omega)
  rw [sumF_bits, sumF_add, sumF_add, sumF_one ha, sumF_one hb] at h1
  have h2 : arcS out V = sumF n (arcAt out V) := by unfold arcS; rw [h.gs.len]
  have h3 : sumF n (fun x => arcAt out V x) = sumF n (arcAt out V) := rfl
  rw [h3, ← h2] at h1
  have h4 := h.arc V
  have h5 := h.gs.two a
  have h6 := h.gs.two b
  omega
theorem cntB_full {n S : Nat} (hn : n ≤ 60) (h : ∀ x, n ≤ x → S.testBit x = false) : cntB 60 S = cntB n S := by
  obtain ⟨d, hd⟩ := Nat.exists_eq_add_of_le hn
  rw [hd]
  unfold cntB
  rw [List.range_add, List.countP_append]
  have : ((List.range d).map (n + ·)).countP (fun i => S.testBit i) = 0 := by
    rw [List.countP_eq_zero]
    intro x hx
    obtain ⟨y, hy, rfl⟩ := List.mem_map.1 hx
    rw [h _ (by omega)]; simp
  rw [this]; omega
/-- A tight set within the n points. -/
theorem Tight.within {n : Nat} {out : List (List Int)} {a b V : Nat} (h : GS n out) (ha : a < n) (hb : b < n) (hV : Tight out a b V) : Tight out a b (V % 2 ^ n) := by
  refine ⟨?_, ?_, fun x hx y hy => ?_, fun x hx => ?_⟩
  · rw [Nat.testBit_mod_two_pow, hV.hp]; simp [ha]
  · rw [Nat.testBit_mod_two_pow, hV.hq]; simp [hb]
  · rw [Nat.testBit_mod_two_pow, Bool.and_eq_true] at hx ⊢
    have := h.mem x y hy
    exact ⟨by simp; omega, hV.go x hx.2 y hy⟩
  · rw [Nat.testBit_mod_two_pow, Bool.and_eq_true] at hx
    exact hV.two x hx.2
theorem GInv.no {n : Nat} {out : List (List Int)} {E : List (Int × Int)} {a b V : Nat} (h : GInv n out E) (hn : n ≤ 60) (ha : a < n) (hb : b < n) (hab : a ≠ b) (hV : Tight out a b V) (hne : 1 ≤ (rowOf out a).length + (rowOf out b).length) :
    ¬ SpA (E ++ [((a : Int), (b : Int))]) := by
  intro hs
  have hV' := hV.within h.gs ha hb
  have h1 := h.span ha hb hab hV' hne
  have h2 := cntB_full (S := V % 2 ^ n) hn (fun x hx => by rw [Nat.testBit_mod_two_pow, decide_eq_false (by omega), Bool.false_and])
  have h3 : 2 ≤ cntB 60 (V % 2 ^ n) := cntB_two (p := a) (q := b) (by omega) (by omega) (Ne.symm hab) hV'.hp hV'.hq
  have h4 := hs _ h3
  rw [spanS_app, spanS_one, if_pos (by unfold bothB; simp only [Int.toNat_natCast]; rw [hV'.hp, hV'.hq]; rfl)] at h4
  omega
end Go.Proofs.Ytbhkdodokdgijaa
