/-
  The pebble game: joined texts.
-/
import Derived.Test.YtcpkdnhpelkeoaaGreatSpecS
import Derived.Test.YtcpkdnhpelkeoaaGreatOwnM
import Derived.Test.YtcpkdnhpelkeoaaGreatOwnP
import Derived.Deep.RegionLaw
import Derived.Deep.DrawnRows
import Derived.Outline
import Derived.Deep.LoopGhost
import Derived.Deep.DeepCutAuto
import Derived.IntWalk
import Derived.Shelf.Abstract
import Derived.Deep.OwnRows
namespace Go.Proofs.YtcpkdnhpelkeoaaGreat
set_option linter.unusedVariables false
set_option linter.unusedSimpArgs false

/-- The points that are visited, as a number. -/
def visS : List Bool → Nat
  | [] => 0
  | b :: l => (if b then 1 else 0) + 2 * visS l
theorem visS_bit (vis : List Bool) (x : Nat) : (visS vis).testBit x = visB vis x := by
  induction vis generalizing x with
  | nil => simp [visS, visB]
  | cons b l ih =>
    cases x with
    | zero => unfold visS visB; cases b <;> simp [Nat.testBit_zero]
    | succ x =>
      have h : (visS (b :: l)) / 2 = visS l := by rw [show visS (b :: l) = (if b then 1 else 0) + 2 * visS l from rfl]; cases b <;> simp <;> omega
      rw [Nat.testBit_succ, h, ih]; rfl
def vis0 (n q p : Nat) : List Bool := ((List.replicate n false).set q true).set p true
theorem vis0_len (n q p : Nat) : (vis0 n q p).length = n := by unfold vis0; simp
theorem visB_none (n x : Nat) : visB (List.replicate n false) x = false := by
  unfold visB
  rw [List.getD_eq_getElem?_getD, List.getElem?_replicate]; split <;> rfl
theorem vis0_bit {n q p : Nat} (hq : q < n) (hp : p < n) (x : Nat) : visB (vis0 n q p) x = (decide (x = p) || decide (x = q)) := by
  unfold vis0
  rw [visB_set _ _ _ (by simpa using hp), visB_set _ _ _ (by simpa using hq), visB_none, Bool.or_false]

/-- Pebbles are fetched to p, past q. -/
inductive GLoop (n : Nat) : List (List Int) → Nat → Nat → List (List Int) → Prop
  | full {out : List (List Int)} {p q : Nat} : rowOf out p = [] → GLoop n out p q out
  | fail {out : List (List Int)} {p q : Nat} {out' : List (List Int)} {vis' : List Bool} : rowOf out p ≠ [] → FLoop out (vis0 n q p) p 0 false out' vis' → GLoop n out p q out'
  | step {out : List (List Int)} {p q : Nat} {out1 : List (List Int)} {vis' : List Bool} {out' : List (List Int)} : rowOf out p ≠ [] → FLoop out (vis0 n q p) p 0 true out1 vis' → GLoop n out1 p q out' → GLoop n out p q out'

theorem GS.of_yes {n : Nat} {out out' : List (List Int)} {a : Nat} (hs : GS n out) (h1 : GW n out') (h3 : ∀ x, x ≠ a → (rowOf out' x).length ≤ 2) (h4 : (rowOf out' a).length + 1 = (rowOf out a).length) : GS n out' :=
  ⟨h1.len, h1.mem, fun x => by
    by_cases e : x = a
    · subst e; have := hs.two x; omega
    · exact h3 x e⟩
theorem GLoop.keep {n : Nat} {out : List (List Int)} {p q : Nat} {out' : List (List Int)} (h : GLoop n out p q out') : GS n out → p < n → q < n → p ≠ q → GS n out' ∧ (∀ S, arcS out' S = arcS out S) ∧ rowOf out' q = rowOf out q := by
  induction h with
  | full _ => intro hs _ _ _; exact ⟨hs, fun _ => rfl, rfl⟩
  | fail _ hl =>
    intro hs hp hq hpq
    obtain ⟨rfl, -, -⟩ := hl.no hs.w (vis0_len _ _ _) rfl
    exact ⟨hs, fun _ => rfl, rfl⟩
  | step _ hl _ ih =>
    intro hs hp hq hpq
    obtain ⟨h1, h2, h3, h4, h5⟩ := hl.yes hs (vis0_len _ _ _) hp (by rw [vis0_bit hq hp]; simp) rfl
    obtain ⟨k1, k2, k3⟩ := ih (hs.of_yes h1 h3 h4) hp hq hpq
    exact ⟨k1, fun S => by rw [k2, h2], by rw [k3, h5 _ (by rw [vis0_bit hq hp]; simp) (Ne.symm hpq)]⟩
/-- A set of points that no covered edge leaves, but for those of q; only p and q have free pebbles. -/
structure Shut (out : List (List Int)) (p q : Nat) (V : Nat) : Prop where
  hp : V.testBit p = true
  hq : V.testBit q = true
  go : ∀ x, V.testBit x = true → x ≠ q → ∀ y ∈ rowOf out x, V.testBit y.toNat = true
  two : ∀ x, V.testBit x = true → x ≠ p → x ≠ q → 2 ≤ (rowOf out x).length
theorem GLoop.stop {n : Nat} {out : List (List Int)} {p q : Nat} {out' : List (List Int)} (h : GLoop n out p q out') : GS n out → p < n → q < n → p ≠ q → rowOf out' p = [] ∨ ∃ V, Shut out' p q V := by
  induction h with
  | full h => intro _ _ _ _; exact .inl h
  | @fail out p q out' vis' _ hl =>
    intro hs hp hq hpq
    obtain ⟨rfl, h2, h3⟩ := hl.no hs.w (vis0_len _ _ _) rfl
    have hm := hl.vmono
    refine .inr ⟨visS vis', ?_, ?_, fun x hx hxq y hy => ?_, fun x hx hxp hxq => ?_⟩
    · rw [visS_bit]; exact hm _ (by rw [vis0_bit hq hp]; simp)
    · rw [visS_bit]; exact hm _ (by rw [vis0_bit hq hp]; simp)
    · rw [visS_bit] at hx ⊢
      by_cases e : x = p
      · subst e
        obtain ⟨j, hj, rfl⟩ := List.getElem_of_mem hy
        exact h2 j _ (Nat.zero_le _) (List.getElem?_eq_getElem hj)
      · exact (h3 x hx (by rw [vis0_bit hq hp]; simp [e, hxq])).2 y hy
    · rw [visS_bit] at hx
      exact (h3 x hx (by rw [vis0_bit hq hp]; simp [hxp, hxq])).1
  | step _ hl _ ih =>
    intro hs hp hq hpq
    obtain ⟨h1, h2, h3, h4, h5⟩ := hl.yes hs (vis0_len _ _ _) hp (by rw [vis0_bit hq hp]; simp) rfl
    exact ih (hs.of_yes h1 h3 h4) hp hq hpq
/-- What is shut for a, b stays as it was while pebbles are fetched to b. -/
theorem GLoop.apart {n : Nat} {out : List (List Int)} {p q : Nat} {out' : List (List Int)} (h : GLoop n out p q out') : ∀ {V : Nat}, GS n out → p < n → q < n → p ≠ q → Shut out q p V → ∀ x, V.testBit x = true → x ≠ p → x ≠ q → rowOf out' x = rowOf out x := by
  induction h with
  | full _ => intro V _ _ _ _ _ x _ _ _; rfl
  | fail _ hl =>
    intro V hs hp hq hpq _ x _ _ _
    obtain ⟨rfl, -, -⟩ := hl.no hs.w (vis0_len _ _ _) rfl
    rfl
  | @step out p q out1 vis' out' _ hl hg ih =>
    intro V hs hp hq hpq hV x hx hxp hxq
    obtain ⟨h1, h2, h3, h4, h5⟩ := hl.yes hs (vis0_len _ _ _) hp (by rw [vis0_bit hq hp]; simp) rfl
    have hc : Cl out (vis0 n q p) (fun x => V.testBit x = true ∧ x ≠ p ∧ x ≠ q) := by
      intro z hz _
      refine ⟨hV.two z hz.1 hz.2.2 hz.2.1, fun y hy => ?_⟩
      have hyV := hV.go z hz.1 hz.2.1 y hy
      by_cases e1 : y.toNat = p
      · right; rw [vis0_bit hq hp, e1]; simp
      · by_cases e2 : y.toNat = q
        · right; rw [vis0_bit hq hp, e2]; simp
        · exact .inl ⟨hyV, e1, e2⟩
    obtain ⟨-, ha⟩ := hl.apart hs (vis0_len _ _ _) hp (by rw [vis0_bit hq hp]; simp) hc
    have heq := ha (fun h => h.2.1 rfl) rfl
    have hq1 : rowOf out1 q = rowOf out q := h5 q (by rw [vis0_bit hq hp]; simp) (Ne.symm hpq)
    have hV1 : Shut out1 q p V := by
      refine ⟨hV.hp, hV.hq, fun z hz hzp y hy => ?_, fun z hz hzq hzp => ?_⟩
      · by_cases e : z = q
        · subst e; rw [hq1] at hy; exact hV.go z hz hzp y hy
        · rw [heq z ⟨hz, hzp, e⟩] at hy; exact hV.go z hz hzp y hy
      · rw [heq z ⟨hz, hzp, hzq⟩]; exact hV.two z hz hzq hzp
    rw [ih (hs.of_yes h1 h3 h4) hp hq hpq hV1 x hx hxp hxq, heq x ⟨hx, hxp, hxq⟩]

/-- A set of points that no covered edge leaves; only a and b have free pebbles. -/
structure Tight (out : List (List Int)) (a b : Nat) (V : Nat) : Prop where
  hp : V.testBit a = true
  hq : V.testBit b = true
  go : ∀ x, V.testBit x = true → ∀ y ∈ rowOf out x, V.testBit y.toNat = true
  two : ∀ x, V.testBit x = true → x ≠ a → x ≠ b → 2 ≤ (rowOf out x).length
theorem gather_stop {n : Nat} {out out1 out2 : List (List Int)} {a b : Nat} (hs : GS n out) (ha : a < n) (hb : b < n) (hab : a ≠ b) (h1 : GLoop n out a b out1) (h2 : GLoop n out1 b a out2) :
    (rowOf out2 a = [] ∧ rowOf out2 b = []) ∨ ∃ V, Tight out2 a b V := by
  obtain ⟨k1, -, k3⟩ := h1.keep hs ha hb hab
  obtain ⟨m1, -, m3⟩ := h2.keep k1 hb ha (Ne.symm hab)
  rcases h1.stop hs ha hb hab with e1 | ⟨V1, s1⟩
  · rcases h2.stop k1 hb ha (Ne.symm hab) with e2 | ⟨V2, s2⟩
    · exact .inl ⟨by rw [m3, e1], e2⟩
    · refine .inr ⟨V2, s2.hq, s2.hp, fun x hx y hy => ?_, fun x hx h3 h4 => s2.two x hx h4 h3⟩
      by_cases e : x = a
      · subst e; rw [m3, e1] at hy; cases hy
      · exact s2.go x hx e y hy
  · have hap := h2.apart k1 hb ha (Ne.symm hab) s1
    rcases h2.stop k1 hb ha (Ne.symm hab) with e2 | ⟨V2, s2⟩
    · refine .inr ⟨V1, s1.hp, s1.hq, fun x hx y hy => ?_, fun x hx h3 h4 => ?_⟩
      · by_cases e : x = b
        · subst e; rw [e2] at hy; cases hy
        · by_cases e' : x = a
          · subst e'; rw [m3] at hy; exact s1.go x hx e y hy
          · rw [hap x hx e e'] at hy; exact s1.go x hx e y hy
      · rw [hap x hx h4 h3]; exact s1.two x hx h3 h4
    · refine .inr ⟨V1 ||| V2, ?_, ?_, fun x hx y hy => ?_, fun x hx h3 h4 => ?_⟩
      · rw [Nat.testBit_or, s1.hp]; rfl
      · rw [Nat.testBit_or, s1.hq]; rfl
      · rw [Nat.testBit_or, Bool.or_eq_true] at hx ⊢
        by_cases ea : x = a
        · subst ea; rw [m3] at hy; exact .inl (s1.go x s1.hp hab y hy)
        · by_cases eb : x = b
          · subst eb; exact .inr (s2.go x s2.hp ea y hy)
          · rcases hx with hx | hx
            · rw [hap x hx eb ea] at hy; exact .inl (s1.go x hx eb y hy)
            · exact .inr (s2.go x hx ea y hy)
      · rw [Nat.testBit_or, Bool.or_eq_true] at hx
        rcases hx with hx | hx
        · rw [hap x hx h4 h3]; exact s1.two x hx h3 h4
        · exact s2.two x hx h4 h3

/-- The game covers the edges E, which are independent. -/
structure GInv (n : Nat) (out : List (List Int)) (E : List (Int × Int)) : Prop where
  gs : GS n out
  arc : ∀ S, (arcS out S : Int) = spanS E S
  sp : SpA E
  ok : ∀ e ∈ E, OkE n e
theorem GInv.gather {n : Nat} {out out1 out2 : List (List Int)} {E : List (Int × Int)} {a b : Nat} (h : GInv n out E) (ha : a < n) (hb : b < n) (hab : a ≠ b) (h1 : GLoop n out a b out1) (h2 : GLoop n out1 b a out2) : GInv n out2 E := by
  obtain ⟨k1, k2, -⟩ := h1.keep h.gs ha hb hab
  obtain ⟨m1, m2, -⟩ := h2.keep k1 hb ha (Ne.symm hab)
  exact ⟨m1, fun S => by rw [m2, k2]; exact h.arc S, h.sp, h.ok⟩
theorem cntB_mono {n m S : Nat} (h : n ≤ m) : cntB n S ≤ cntB m S := by
  obtain ⟨d, rfl⟩ := Nat.exists_eq_add_of_le h
  unfold cntB
  rw [List.range_add, List.countP_append]
  omega
theorem arcS_nil (n S : Nat) : arcS (List.replicate n []) S = 0 := by
  unfold arcS
  have : sumF (List.replicate n ([] : List Int)).length (arcAt (List.replicate n []) S) = sumF (List.replicate n ([] : List Int)).length (fun _ => 0) := sumF_congr (fun j hj => by
    unfold arcAt
    have : rowOf (List.replicate n []) j = [] := by
      unfold rowOf
      rw [List.getD_eq_getElem?_getD, List.getElem?_replicate]; split <;> rfl
    rw [this]; simp)
  rw [this]
  have h0 : ∀ m, sumF m (fun _ => 0) = 0 := fun m => by
    induction m with
    | zero => rfl
    | succ n ih => rw [sumF_succ, ih]
  exact h0 _
theorem rowOf_nil (n j : Nat) : rowOf (List.replicate n []) j = [] := by
  unfold rowOf
  rw [List.getD_eq_getElem?_getD, List.getElem?_replicate]; split <;> rfl
theorem GInv.start (n : Nat) : GInv n (List.replicate n []) [] :=
  ⟨⟨by simp, fun a x hx => (by rw [rowOf_nil] at hx; cases hx), fun a => by rw [rowOf_nil]; simp⟩, fun S => by rw [arcS_nil]; rfl, SpA.nil, fun e he => by cases he⟩
/-- Both ends have all their pebbles: the edge is independent. -/
theorem GInv.yes {n : Nat} {out : List (List Int)} {E : List (Int × Int)} {a b : Nat} (h : GInv n out E) (hn : n ≤ 60) (ha : a < n) (hb : b < n) (hab : a ≠ b) (ea : rowOf out a = []) (eb : rowOf out b = []) :
    SpA (E ++ [((a : Int), (b : Int))]) ∧ GInv n (out.set a [(b : Int)]) (E ++ [((a : Int), (b : Int))]) := by
  have key : ∀ S : Nat, S.testBit a = true → S.testBit b = true → arcS out S + 4 ≤ 2 * cntB n S := by
    intro S hA hB
    have h1 : sumF n (fun j => (arcAt out S j + if j = a then 2 else 0) + if j = b then 2 else 0) ≤ sumF n (fun i => if S.testBit i = true then 2 else 0) := sumF_le (fun j hj => by
      have h2 := h.gs.two j
      have h3 := List.countP_le_length (p := fun b : Int => S.testBit b.toNat) (l := rowOf out j)
      unfold arcAt
      by_cases e1 : j = a
      · subst e1; rw [ea]; simp [hA, hab]
      · by_cases e2 : j = b
        · subst e2; rw [eb]; simp [hB, e1]
        · simp only [e1, e2, if_false]
          split <;> omega)
    rw [sumF_add, sumF_add, sumF_one ha, sumF_one hb, sumF_bits] at h1
    have h2 : arcS out S = sumF n (arcAt out S) := by unfold arcS; rw [h.gs.len]
    rw [h2]
    have h3 : sumF n (fun x => arcAt out S x) = sumF n (arcAt out S) := rfl
    rw [h3] at h1
    omega
  have hsp : SpA (E ++ [((a : Int), (b : Int))]) := by
    intro S h2
    rw [spanS_app, spanS_one]
    by_cases hAB : bothB S ((a : Int), (b : Int)) = true
    · rw [if_pos hAB]
      unfold bothB at hAB
      simp only [Int.toNat_natCast, Bool.and_eq_true] at hAB
      have h3 := key S hAB.1 hAB.2
      have h4 := h.arc S
      have h5 := cntB_mono (S := S) hn
      omega
    · rw [if_neg hAB]
      have := h.sp S h2
      omega
  refine ⟨hsp, ⟨⟨by rw [List.length_set]; exact h.gs.len, fun x y hy => ?_, fun x => ?_⟩, fun S => ?_, hsp, fun e he => ?_⟩⟩
  · rw [rowOf_set _ _ _ _ (by rw [h.gs.len]; exact ha)] at hy
    split at hy
    · simp at hy; omega
    · exact h.gs.mem x y hy
  · rw [rowOf_set _ _ _ _ (by rw [h.gs.len]; exact ha)]
    split
    · simp
    · exact h.gs.two x
  · have h1 := arcS_set out a [(b : Int)] S (by rw [h.gs.len]; exact ha)
    have h2 : arcAt out S a = 0 := by unfold arcAt; rw [ea]; simp
    rw [h2, Nat.add_zero] at h1
    rw [h1, spanS_app, spanS_one]
    have h3 := h.arc S
    unfold bothB
    simp only [Int.toNat_natCast]
    simp only [List.countP_cons, List.countP_nil, Int.toNat_natCast]
    by_cases hA : S.testBit a = true <;> by_cases hB : S.testBit b = true <;> simp [hA, hB] <;> omega
  · rw [List.mem_append] at he
    rcases he with he | he
    · exact h.ok e he
    · simp at he; subst he
      exact ⟨by omega, by simp; omega, by omega, by simp; omega, by simp; omega⟩
/-- The points that the ends lead to hold too many edges. -/
theorem GInv.span {n : Nat} {out : List (List Int)} {E : List (Int × Int)} {a b V : Nat} (h : GInv n out E) (ha : a < n) (hb : b < n) (hab : a ≠ b) (hV : Tight out a b V) (hne : 1 ≤ (rowOf out a).length + (rowOf out b).length) :
    2 * (cntB n V : Int) - 3 ≤ spanS E V := by
  have h1 : sumF n (fun i => if V.testBit i = true then 2 else 0) ≤ sumF n (fun j => (arcAt out V j + if j = a then 2 - (rowOf out a).length else 0) + if j = b then 2 - (rowOf out b).length else 0) := sumF_le (fun j hj => by
    have h3 : V.testBit j = true → (rowOf out j).countP (fun b : Int => V.testBit b.toNat) = (rowOf out j).length := fun hj => by
      rw [List.countP_eq_length]; exact fun y hy => hV.go j hj y hy
    unfold arcAt
    cases e : V.testBit j
    · simp
    · rw [h3 e]
      by_cases e1 : j = a
      · subst e1
        simp only [if_true, if_neg hab]
        omega
      · by_cases e2 : j = b
        · subst e2
          simp only [if_true, if_neg e1]
          omega
        · have := hV.two j e e1 e2
          simp only [if_true, if_neg e1, if_neg e2]
          omega)
  rw [sumF_bits, sumF_add, sumF_add, sumF_one ha, sumF_one hb] at h1
  have h2 : arcS out V = sumF n (arcAt out V) := by unfold arcS; rw [h.gs.len]
  have h3 : sumF n (fun x => arcAt out V x) = sumF n (arcAt out V) := rfl
  rw [h3, ← h2] at h1
  have h4 := h.arc V
  have h5 := h.gs.two a
  have h6 := h.gs.two b
  omega
theorem cntB_full {n S : Nat} (hn : n ≤ 60) (h : ∀ x, n ≤ x → S.testBit x = false) : cntB 60 S = cntB n S := by
  obtain ⟨d, hd⟩ := Nat.exists_eq_add_of_le hn
  rw [hd]
  unfold cntB
  rw [List.range_add, List.countP_append]
  have : ((List.range d).map (n + ·)).countP (fun i => S.testBit i) = 0 := by
    rw [List.countP_eq_zero]
    intro x hx
    obtain ⟨y, hy, rfl⟩ := List.mem_map.1 hx
    rw [h _ (by omega)]; simp
  rw [this]; omega
/-- A tight set within the n points. -/
theorem Tight.within {n : Nat} {out : List (List Int)} {a b V : Nat} (h : GS n out) (ha : a < n) (hb : b < n) (hV : Tight out a b V) : Tight out a b (V % 2 ^ n) := by
  refine ⟨?_, ?_, fun x hx y hy => ?_, fun x hx => ?_⟩
  · rw [Nat.testBit_mod_two_pow, hV.hp]; simp [ha]
  · rw [Nat.testBit_mod_two_pow, hV.hq]; simp [hb]
  · rw [Nat.testBit_mod_two_pow, Bool.and_eq_true] at hx ⊢
    have := h.mem x y hy
    exact ⟨by simp; omega, hV.go x hx.2 y hy⟩
  · rw [Nat.testBit_mod_two_pow, Bool.and_eq_true] at hx
    exact hV.two x hx.2
theorem GInv.no {n : Nat} {out : List (List Int)} {E : List (Int × Int)} {a b V : Nat} (h : GInv n out E) (hn : n ≤ 60) (ha : a < n) (hb : b < n) (hab : a ≠ b) (hV : Tight out a b V) (hne : 1 ≤ (rowOf out a).length + (rowOf out b).length) :
    ¬ SpA (E ++ [((a : Int), (b : Int))]) := by
  intro hs
  have hV' := hV.within h.gs ha hb
  have h1 := h.span ha hb hab hV' hne
  have h2 := cntB_full (S := V % 2 ^ n) hn (fun x hx => by rw [Nat.testBit_mod_two_pow, decide_eq_false (by omega), Bool.false_and])
  have h3 : 2 ≤ cntB 60 (V % 2 ^ n) := cntB_two (p := a) (q := b) (by omega) (by omega) (Ne.symm hab) hV'.hp hV'.hq
  have h4 := hs _ h3
  rw [spanS_app, spanS_one, if_pos (by unfold bothB; simp only [Int.toNat_natCast]; rw [hV'.hp, hV'.hq]; rfl)] at h4
  omega
end Go.Proofs.YtcpkdnhpelkeoaaGreat

namespace Go.Proofs.YtcpkdnhpelkeoaaGreat
set_option linter.unusedVariables false
set_option linter.unusedSimpArgs false
open Go.RowKit Go.Sort

def bools (l : List Bool) : List Value := l.map Value.bool
theorem bools_length (l : List Bool) : (bools l).length = l.length := by simp [bools]
theorem bools_at (l : List Bool) (k : Nat) (h : k < l.length) : (bools l)[k]? = some (.bool (visB l k)) := by
  simp [bools, visB, List.getD_eq_getElem?_getD, List.getElem?_eq_getElem h]
theorem Own.storeB {w : World} {base g n c : Nat} {l : List Bool} (h : Own w base 4 1 (some ⟨g, 0, none⟩) n c (bools l)) (j : Nat) (x : Bool) : Own (w.setCell ⟨g, j, none⟩ (.bool x)) base 4 1 (some ⟨g, 0, none⟩) n c (bools (l.set j x)) := by
  have := (World.ownsRow.stored h j (.bool x)).1
  have e1 : bools (l.set j x) = (bools l).set j (.bool x) := by unfold bools; rw [List.map_set]
  unfold Own
  rw [e1]; exact this
theorem Own.blen {w : World} {base n c : Nat} {A : Option Addr} {l : List Bool} (h : Own w base 4 1 A n c (bools l)) : l.length = n := by have := h.len; rw [bools_length] at this; omega
theorem Own.cellB {w : World} {base g n c : Nat} {l : List Bool} (h : Own w base 4 1 (some ⟨g, 0, none⟩) n c (bools l)) {j : Nat} (hj : j < n) : w.cell? ⟨g, j, none⟩ = some (.bool (visB l j)) := by
  rw [World.ownsRow.cellAt h j (by omega), bools_at l j (by rw [h.blen]; exact hj)]

/-- Outside the blocks F (and the new ones) w' is as w. -/
structure Fr (F : Nat → Prop) (w w' : World) : Prop where
  os : w'.os = w.os
  tape : w'.tape = w.tape
  output : w'.output = w.output
  size : w.heap.size ≤ w'.heap.size
  block : ∀ k, k < w.heap.size → ¬ F k → w'.heap[k]? = w.heap[k]?
section
variable {F G : Nat → Prop} {a b w w' : World}
theorem Fr.refl (F : Nat → Prop) (w : World) : Fr F w w := ⟨rfl, rfl, rfl, Nat.le_refl _, fun _ _ _ => rfl⟩
theorem Fr.trans {c : World} (h : Fr F a b) (k : Fr G b c) (hG : ∀ i, i < a.heap.size → G i → F i) : Fr F a c :=
  ⟨k.os.trans h.os, k.tape.trans h.tape, k.output.trans h.output, Nat.le_trans h.size k.size, fun i hi hF => (k.block i (Nat.lt_of_lt_of_le hi h.size) (fun hg => hF (hG i hi hg))).trans (h.block i hi hF)⟩
theorem Fr.mono (h : Fr F a b) (hG : ∀ i, i < a.heap.size → F i → G i) : Fr G a b := ⟨h.os, h.tape, h.output, h.size, fun i hi hg => h.block i hi (fun hf => hg (hG i hi hf))⟩
theorem Fr.of_grown {row : Option Nat} (hg : w.grownBy w' row) (hF : ∀ k, row = some k → k < w.heap.size → F k) : Fr F w w' :=
  ⟨hg.os, hg.tape, hg.output, hg.size, fun k hk hf => hg.block k hk (fun e => hf (hF k e.symm hk))⟩
theorem Fr.of_below (h : Below w.heap.size w w') : Fr F w w' := ⟨h.os, h.tape, h.output, h.size, fun k hk _ => h.block k hk⟩
theorem Fr.alloc (w : World) (o : Obj) : Fr F w (w.alloc o) := Fr.of_below ((Below.refl _ _).alloc (Nat.le_refl _) o)
theorem Fr.drew (w : World) : Fr F w w.drew := Fr.of_below (Below.refl _ _).drew
theorem Fr.setCell (h : Fr F a w) {p : Addr} (hp : F p.block ∨ a.heap.size ≤ p.block) (v : Value) : Fr F a (w.setCell p v) :=
  have hb := (Below.refl 0 w).setCell (Nat.zero_le p.block) v
  ⟨hb.os.trans h.os, hb.tape.trans h.tape, hb.output.trans h.output, Nat.le_trans h.size hb.size, fun k hk hf => by
    rw [Below.heap_setCell _ _ _ _ (fun e => by
      subst e
      rcases hp with hp | hp
      · exact hf hp
      · omega)]
    exact h.block k hk hf⟩
theorem Fr.below {B : Nat} (h : Fr F w w') (hB : B ≤ w.heap.size) (hF : ∀ k, k < w.heap.size → F k → B ≤ k) : Below B w w' :=
  ⟨h.os, h.tape, h.output, h.size, fun k hk => h.block k (by omega) (fun hf => by have := hF k (by omega) hf; omega)⟩
theorem Fr.own {base size n c : Nat} {e : TypeId} {A : Option Addr} {xs : List Value} (ho : Own w base e size A n c xs) (h : Fr F w w') (hA : ∀ k, blk A = some k → ¬ F k) : Own w' base e size A n c xs := by
  refine ⟨ho.1, ?_⟩
  rcases ho.2 with h2 | ⟨g, cap, cur, hv, hg, hh, rest⟩
  · exact .inl h2
  · have e : A = some ⟨g, 0, none⟩ := by injection hv
    have hk : blk A = some g := by rw [e]; rfl
    exact .inr ⟨g, cap, cur, hv, hg, by rw [h.block g (ho.lt hk).2 (hA g hk)]; exact hh, rest⟩
theorem Fr.keep {p : Addr} {v : Value} (h : Fr F w w') (hc : w.cell? p = some v) (hp : ¬ F p.block) : w'.cell? p = some v := by
  rw [World.cell?_of_block (w := w) (h.block p.block (World.block_lt_of_cell? w p hc) hp)]; exact hc
end
theorem Own.block_type {w : World} {base size n c g : Nat} {e : TypeId} {xs : List Value} {A : Option Addr} (h : Own w base e size A n c xs) (hA : blk A = some g) : ∃ cur, w.heap[g]? = some (.cells cur e (0, 0)) := by
  rcases h.2 with ⟨hv, -⟩ | ⟨g', cap, cur, hv, -, hh, -⟩
  · have e : A = none := by injection hv
    rw [e] at hA; cases hA
  · have e : A = some ⟨g', 0, none⟩ := by injection hv
    rw [e] at hA
    simp [blk] at hA
    subst hA
    exact ⟨cur, hh⟩

/-- The blocks that a game writes. -/
def Ft (go : Nat) (hs : List (Option Addr × Nat)) (k : Nat) : Prop := k = go ∨ ∃ h ∈ hs, blk h.1 = some k
/-- The game of pointer b holds the rows out. -/
structure GM (w : World) (base b go n c : Nat) (hs : List (Option Addr × Nat)) (out : List (List Int)) : Prop where
  st : w.heap[b]? = some (.cells #[.slice (some ⟨go, 0, none⟩) n c] 123 (0, 0))
  lo : base ≤ b
  om : OwnM w base (some ⟨go, 0, none⟩) n c hs out
/-- From w to w' only the game (and V) is written; the game's blocks are old ones of it, or new. -/
structure GStep (V : Nat → Prop) (w w' : World) (go : Nat) (hs hs' : List (Option Addr × Nat)) : Prop where
  fr : Fr (fun k => Ft go hs k ∨ V k) w w'
  ft : ∀ k, k < w.heap.size → Ft go hs' k → Ft go hs k
section
variable {V V' : Nat → Prop} {w w' w'' : World} {base b go n c : Nat} {hs hs' hs'' : List (Option Addr × Nat)} {out : List (List Int)}
theorem GM.lt (h : GM w base b go n c hs out) : b < w.heap.size := by
  rcases Nat.lt_or_ge b w.heap.size with h' | h'
  · exact h'
  · have := h.st; rw [Array.getElem?_eq_none h'] at this; cases this
theorem GM.cell (h : GM w base b go n c hs out) : w.cell? ⟨b, 0, none⟩ = some (.slice (some ⟨go, 0, none⟩) n c) := by simp [World.cell?, h.st]
theorem GM.ne {size m d g : Nat} {e : TypeId} {A : Option Addr} {xs : List Value} (h : GM w base b go n c hs out) (ho : Own w base e size A m d xs) (he : e ≠ 123) (hA : blk A = some g) : g ≠ b := by
  intro e1
  subst e1
  obtain ⟨cur, hh⟩ := ho.block_type hA
  rw [h.st] at hh
  injection hh with hh
  injection hh with _ h2
  exact he h2.symm
theorem OwnM.ft {A : Option Addr} (h : OwnM w base (some ⟨go, 0, none⟩) n c hs out) {k : Nat} (hk : Ft go hs k) : base ≤ k ∧ k < w.heap.size ∧ ∃ cur e, w.heap[k]? = some (.cells cur e (0, 0)) ∧ (e = 3 ∨ e = 24) := by
  rcases hk with rfl | ⟨hd, hm, hb⟩
  · have h1 := h.outer.lt (k := k) rfl
    obtain ⟨cur, hh⟩ := h.outer.block_type (g := k) rfl
    exact ⟨h1.1, h1.2, cur, _, hh, .inr rfl⟩
  · obtain ⟨i, hi, rfl⟩ := List.getElem_of_mem hm
    have hl : i < out.length := by rw [h.len, ← h.hlen]; exact hi
    have hr := h.row i _ _ (List.getElem?_eq_getElem hi) (List.getElem?_eq_getElem hl)
    have h1 := hr.lt hb
    obtain ⟨cur, hh⟩ := hr.block_type hb
    exact ⟨h1.1, h1.2, cur, _, hh, .inl rfl⟩
theorem GM.not_ft (h : GM w base b go n c hs out) : ¬ Ft go hs b := fun hk => by
  obtain ⟨-, -, cur, e, hh, he⟩ := h.om.ft (A := none) hk
  rw [h.st] at hh
  injection hh with hh
  injection hh with _ h2
  subst h2
  rcases he with he | he <;> revert he <;> decide
theorem OwnM.fr {F : Nat → Prop} {A : Option Addr} {go : Nat} (hA : A = some ⟨go, 0, none⟩) (h : OwnM w base A n c hs out) (hf : Fr F w w') (hF : ∀ k, Ft go hs k → ¬ F k) : OwnM w' base A n c hs out := by
  subst hA
  refine ⟨h.len, h.hlen, Fr.own h.outer hf (fun k hk => hF k (.inl (by simp [blk] at hk; exact hk.symm))), fun i hd l p q => Fr.own (h.row i hd l p q) hf (fun k hk => hF k (.inr ⟨hd, List.mem_of_getElem? p, hk⟩)), h.far⟩
/-- Nothing of the game is written. -/
theorem GM.fr {F : Nat → Prop} (h : GM w base b go n c hs out) (hf : Fr F w w') (hF : ∀ k, Ft go hs k → ¬ F k) (hb : ¬ F b) : GM w' base b go n c hs out :=
  ⟨by rw [hf.block b h.lt hb]; exact h.st, h.lo, h.om.fr rfl hf hF⟩
theorem GM.later (h : GM w base b go n c hs out) (hb : Below w.heap.size w w') : GM w' base b go n c hs out := h.fr (F := fun _ => False) (Fr.of_below hb) (fun _ _ h => h) (fun h => h)
theorem GM.row_at (h : GM w base b go n c hs out) {a : Nat} (ha : a < n) : ∃ hd, hs[a]? = some hd ∧ out[a]? = some (rowOf out a) ∧ w.cell? ⟨go, a, none⟩ = some (.slice hd.1 (rowOf out a).length hd.2) ∧ Own w base 3 1 hd.1 (rowOf out a).length hd.2 (ints (rowOf out a)) := by
  have hl : a < out.length := by rw [h.om.len]; exact ha
  have e := rowOf_some hl
  obtain ⟨hd, hh⟩ := h.om.get e
  exact ⟨hd, hh, e, h.om.head_at hh e, h.om.row a hd _ hh e⟩
theorem GStep.refl (V : Nat → Prop) (w : World) (go : Nat) (hs : List (Option Addr × Nat)) : GStep V w w go hs hs := ⟨Fr.refl _ _, fun _ _ h => h⟩
theorem GStep.trans (h : GStep V w w' go hs hs') (k : GStep V w' w'' go hs' hs'') : GStep V w w'' go hs hs'' :=
  ⟨h.fr.trans k.fr (fun i hi hi' => hi'.imp (h.ft i hi) id), fun i hi hi' => h.ft i hi (k.ft i (Nat.lt_of_lt_of_le hi h.fr.size) hi')⟩
theorem GStep.mono (h : GStep V w w' go hs hs') (hV : ∀ k, k < w.heap.size → V k → V' k) : GStep V' w w' go hs hs' := ⟨h.fr.mono (fun i hi hi' => hi'.imp id (hV i hi)), h.ft⟩
theorem GStep.of_below (h : Below w.heap.size w w') : GStep V w w' go hs hs := ⟨Fr.of_below h, fun _ _ h => h⟩
theorem GStep.below (h : GStep V w w' go hs hs') (hm : OwnM w base (some ⟨go, 0, none⟩) n c hs out) {B : Nat} (hB : B ≤ w.heap.size) (hb : B ≤ base) (hV : ∀ k, k < w.heap.size → V k → B ≤ k) : Below B w w' :=
  h.fr.below hB (fun k hk hf => hf.elim (fun h1 => Nat.le_trans hb (hm.ft (A := none) h1).1) (hV k hk))
end
/-- A row is given a new list, in its own block or in a new one. -/
theorem GM.setRow {w w1 : World} {base b go n c d : Nat} {B : Option Addr} {hs : List (Option Addr × Nat)} {out : List (List Int)} {a : Nat} {hd : Option Addr × Nat} {l l' : List Int}
    (h : GM w base b go n c hs out) (p : hs[a]? = some hd) (q : out[a]? = some l) (hg : w.grownBy w1 (blk hd.1)) (ho : Own w1 base 3 1 B l'.length d (ints l'))
    (hB : blk B = blk hd.1 ∨ ∃ s, blk B = some s ∧ w.heap.size ≤ s) :
    GM (w1.setCell ⟨go, a, none⟩ (.slice B l'.length d)) base b go n c (hs.set a (B, d)) (out.set a l') ∧ ∀ V, GStep V w (w1.setCell ⟨go, a, none⟩ (.slice B l'.length d)) go hs (hs.set a (B, d)) := by
  have hrow : ∀ k, blk hd.1 = some k → Ft go hs k := fun k hk => .inr ⟨hd, List.mem_of_getElem? p, hk⟩
  have hbg : b ≠ go := fun e => h.not_ft (.inl e)
  have hbl := h.lt
  refine ⟨⟨?_, h.lo, OwnM.setRow h.om p q hg ho (hB.imp id .inr)⟩, fun V => ⟨?_, fun k hk hf => ?_⟩⟩
  · rw [Below.heap_setCell _ _ _ _ hbg, hg.block b hbl (fun e => h.not_ft (hrow b e.symm))]; exact h.st
  · exact (Fr.of_grown hg (fun k hk _ => .inl (hrow k hk))).setCell (.inl (.inl (.inl rfl))) _
  · rcases hf with e | ⟨x, hx, hxk⟩
    · exact .inl e
    · rcases List.mem_or_eq_of_mem_set hx with hx | rfl
      · exact .inr ⟨x, hx, hxk⟩
      · rcases hB with e | ⟨s, e, hs'⟩
        · exact hrow k (by rw [← e]; exact hxk)
        · rw [hxk] at e; injection e with e; omega
end Go.Proofs.YtcpkdnhpelkeoaaGreat

namespace Go.Proofs.YtcpkdnhpelkeoaaGreat
set_option linter.unusedVariables false
set_option linter.unusedSimpArgs false
open Go.RowKit Go.Sort

attribute [local go_sem ↓] Go.wp_at_zero Go.wp_at_succ
theorem Own.set_cells {base g n c size : Nat} {e : TypeId} : ∀ (vs : List Value) (o : Nat) {w : World} {xs : List Value}, Own w base e size (some ⟨g, 0, none⟩) n c xs → o + vs.length ≤ xs.length →
    Own (w.setCells g o vs) base e size (some ⟨g, 0, none⟩) n c (xs.take o ++ vs ++ xs.drop (o + vs.length)) ∧ w.grownBy (w.setCells g o vs) (some g)
  | [], o, w, xs, h, _ => by
    refine ⟨?_, World.grownBy.refl _ _⟩
    have : xs.take o ++ [] ++ xs.drop (o + ([] : List Value).length) = xs := by simp
    rw [this]; exact h
  | v :: vs, o, w, xs, h, hl => by
    obtain ⟨h1, g1⟩ := World.ownsRow.stored h o v
    simp only [List.length_cons] at hl
    obtain ⟨h2, g2⟩ := Own.set_cells vs (o + 1) h1 (by rw [List.length_set]; omega)
    refine ⟨?_, g1.trans g2⟩
    have e1 : (xs.set o v).take (o + 1) ++ vs ++ (xs.set o v).drop (o + 1 + vs.length) = xs.take o ++ (v :: vs) ++ xs.drop (o + (v :: vs).length) := by
      have ho : o < xs.length := by omega
      rw [List.take_succ_eq_append_getElem (by rw [List.length_set]; exact ho), List.take_set_of_le (Nat.le_refl _), List.getElem_set_self, List.drop_set, if_pos (by omega), List.length_cons, show o + 1 + vs.length = o + (vs.length + 1) by omega]
      simp
    rw [e1] at h2
    exact h2
theorem erase_take (xs : List Value) (o k : Nat) (h : o + k ≤ xs.length) : (xs.take o ++ xs.drop (o + k) ++ xs.drop (o + (xs.drop (o + k)).length)).take (xs.length - k) = xs.take o ++ xs.drop (o + k) := by
  rw [List.take_append_of_le_length (by simp; omega)]
  exact List.take_of_length_le (by simp; omega)
theorem ints_erase (l : List Int) (i : Nat) : ints (l.eraseIdx i) = (ints l).take i ++ (ints l).drop (i + 1) := by
  rw [List.eraseIdx_eq_take_drop_succ, ints_app]; simp [ints, List.map_take, List.map_drop]
theorem prs_drop (l : List (Int × Int)) (k : Nat) : (prs l).drop (k * 2) = prs (l.drop k) := by
  induction l generalizing k with
  | nil => simp [prs]
  | cons e l ih =>
    cases k with
    | zero => simp [prs]
    | succ k =>
      have := ih k
      simp only [prs, List.flatMap_cons, List.drop_succ_cons] at this ⊢
      rw [show (k + 1) * 2 = k * 2 + 1 + 1 by omega]
      simp only [List.cons_append, List.nil_append, List.drop_succ_cons]
      rw [this]
theorem prs_erase (l : List (Int × Int)) (i : Nat) : prs (l.eraseIdx i) = (prs l).take (i * 2) ++ (prs l).drop (i * 2 + 2) := by
  rw [List.eraseIdx_eq_take_drop_succ, prs_app, prs_take, show i * 2 + 2 = (i + 1) * 2 by omega, prs_drop]
theorem clear_ints {w : World} {base g n c : Nat} {xs : List Value} (h : Own w base 3 1 (some ⟨g, 0, none⟩) n c xs) (k m d : Nat) (hm : 0 < m) (hkm : k + m = n) :
    ∃ w', (∀ ty, (Builtin.clear_ #[24] ty #[.slice (some ⟨g, k, none⟩) m d]).run Tryz.prog w = .ok (.tuple #[]) w') ∧ Own w' base 3 1 (some ⟨g, 0, none⟩) k c (xs.take k) ∧ w.grownBy w' (some g) := by
  have hl := h.len
  have hz : ∀ w, (zeroValue 3).run Tryz.prog w = .ok (.int .i64 0) w := fun w => by kernel_rfl
  have hzl : (Builtin.zeroCells (Value.int .i64 0).cells m).toList.length = m := by simp [Builtin.zeroCells, Value.cells]
  have hz1 : ∀ v ∈ (Builtin.zeroCells (Value.int .i64 0).cells m).toList, v.oneCell' = true := by
    intro v hv
    simp [Builtin.zeroCells, Value.cells] at hv
    obtain ⟨i, -, rfl⟩ := hv
    rw [Nat.mod_one]; rfl
  obtain ⟨xs', h1, h2, h3⟩ := Own.set_many (Builtin.zeroCells (Value.int .i64 0).cells m).toList k h
  refine ⟨_, fun ty => ?_, ?_, h3⟩
  · have hst := run_storeCells_cells (P := Tryz.prog) g k (Builtin.zeroCells (Value.int .i64 0).cells m).toList 0 w
      (fun j hj => by
        rw [hzl] at hj
        rw [World.ownsRow.cellAt h (k + 0 + j) (by omega), List.getElem?_eq_getElem (by omega)]; rfl)
      (fun j _ => h.frozen _) hz1
    simp only [Nat.add_zero] at hst
    obtain ⟨q, rfl⟩ : ∃ q, m = q + 1 := ⟨m - 1, by omega⟩
    simp [Builtin.clear_, run_underlying Tryz.underlying24, hz, hst]
  · have := h1.shrink (k := k) (by omega) (by simp)
    rw [Nat.mul_one, h2] at this
    exact this


/-- 'append(s[:i], s[i+1:]...)' as one step of a region that draws, s the call's own. -/
theorem step_erase {P : Program} {ops : Array Oper} {o : Oper} {a : Act} {w : World} {K : Act → World → Prop} {Q : Exit → Act → World → Prop} {E : Prop}
    (hgd : o.guard = none) (s x : Operand) (t : TypeId) (hop : o.op = Op.call { callee := Callee.builtin Builtin.append, args := #[s, x], argTypes := #[t, t] })
    (e : TypeId) (z : Value) (size bytes : Nat) (h1 : P.underlying t = some (.slice e)) (hinfo : (P.info? e).map (fun i => (i.zero, i.size, i.bytes)) = some (some z, size, bytes))
    (g n c i base : Nat) (xs : List Value) (ho : Own w base e size (some ⟨g, 0, none⟩) n c xs) (hi : i < n) (h1c : ∀ u ∈ xs, u.oneCell' = true)
    (hs : a.eval s = .slice (some ⟨g, 0, none⟩) i c) (hx : a.eval x = .slice (if c = i + 1 then some ⟨g, 0, none⟩ else some ⟨g, (i + 1) * size, none⟩) (n - (i + 1)) (c - (i + 1)))
    (hK : ∀ w', Own w' base e size (some ⟨g, 0, none⟩) n c (xs.take (i * size) ++ xs.drop ((i + 1) * size) ++ xs.drop (i * size + (xs.drop ((i + 1) * size)).length)) → w.grownBy w' (some g) → K (a.put o.dst (.slice (some ⟨g, 0, none⟩) (i + (n - (i + 1))) c)) w') :
    if Region.wanted o (yielded ops a.tmps) = true then Oper.wp P o a w K Q else E := by
  obtain ⟨ti, hti, -, htz, -⟩ := info_parts hinfo
  have hl := ho.len
  have hcap := ho.cap
  have hlen : (xs.drop ((i + 1) * size)).length = (n - (i + 1)) * size := by rw [List.length_drop, hl, Nat.sub_mul]
  have hle : i * size + (n - (i + 1)) * size ≤ n * size := by rw [← Nat.add_mul]; exact Nat.mul_le_mul_right _ (by omega)
  obtain ⟨k1, k2⟩ := Own.set_cells (xs.drop ((i + 1) * size)) (i * size) ho (by rw [hlen, hl]; exact hle)
  have hle2 : (i + 1) * size ≤ n * size := Nat.mul_le_mul_right _ (by omega)
  refine step_append_room hgd s x t hop e ti size h1 hti htz g 0 i c hs (if c = i + 1 then ⟨g, 0, none⟩ else ⟨g, (i + 1) * size, none⟩) (n - (i + 1)) (c - (i + 1)) (xs.drop ((i + 1) * size)) ?_ hlen ?_ (fun u hu => h1c u (List.mem_of_mem_drop hu)) (by omega) (fun j hj => ⟨?_, ?_⟩) ?_
  · rw [hx]; split <;> rfl
  · intro j u hu
    have hj : j < (xs.drop ((i + 1) * size)).length := by
      rcases Nat.lt_or_ge j (xs.drop ((i + 1) * size)).length with h' | h'
      · exact h'
      · rw [List.getElem?_eq_none h'] at hu; cases hu
    rw [hlen] at hj
    have hne : ¬ c = i + 1 := by
      intro e
      have : n - (i + 1) = 0 := by omega
      rw [this, Nat.zero_mul] at hj
      omega
    rw [if_neg hne]
    rw [List.getElem?_drop] at hu
    have hb : (i + 1) * size + j < n * size := by
      have : (i + 1) * size + (n - (i + 1)) * size = n * size := by rw [← Nat.add_mul]; congr 1; omega
      omega
    have := World.ownsRow.cellAt ho ((i + 1) * size + j) (by rw [hl] at *; omega)
    rw [hu] at this
    rw [← this]
    unfold Addr.add
    by_cases h0 : j = 0
    · subst h0; simp
    · simp [h0]
  · rw [hlen] at hj
    have hb : 0 + i * size + j < n * size := by omega
    rw [World.ownsRow.cellAt ho (0 + i * size + j) (by omega), List.getElem?_eq_getElem (by omega)]; rfl
  · exact ho.frozen _
  · rw [Nat.zero_add]
    exact hK _ k1 k2

set_option maxRecDepth 100000 in
set_option maxHeartbeats 4000000 in
theorem del_own (g n c : Nat) (l : List Int) (i : Nat) (w : World) (base : Nat) (ho : Own w base 3 1 (some ⟨g, 0, none⟩) n c (ints l)) (hi : i < n) (hn : n ≤ 1000000) :
    Calls Tryz.prog 114 #[.slice (some ⟨g, 0, none⟩) n c, .int .i64 i, .int .i64 (i + 1)] w fun e w' => e = .returned (.slice (some ⟨g, 0, none⟩) (n - 1) c) ∧ Own w' base 3 1 (some ⟨g, 0, none⟩) (n - 1) c (ints (l.eraseIdx i)) ∧ w.grownBy w' (some g) := by
  have OWN := Lib.hid ho
  have hl := ho.len
  have hcap := ho.cap
  clear ho
  have hi0 : (0 : Int) ≤ (i : Int) := by omega
  have hi1 : (0 : Int) ≤ (i : Int) + 1 := by omega
  have hi2 : ((i : Int) + 1).toNat = i + 1 := by omega
  have hne : ((i : Int) == (i : Int) + 1) = false := by simp; omega
  have a1 : i ≤ c := by omega
  have a2 : i + 1 ≤ n := by omega
  have a3 : n ≤ c := hcap
  have a4 : (i : Int) + 1 ≤ (n : Int) := by omega
  have a5 : i + (n - (i + 1)) = n - 1 := by omega
  have a6 : n - 1 ≤ n := by omega
  go_enter Tryz.func114, Tryz.ntmps114
  go_wp2
  go_region_law ((first
    | (refine step_erase rfl (.tmp 22) (.tmp 25) 24 rfl 3 (.int .i64 0) 1 8 Tryz.underlying24 info_int' g n c i base (ints l) (w := w.drew) OWN.out hi (ints_one _) (by simp [Act.eval, Act.put]) (by simp [Act.eval, Act.put]) ?_; intro w1 ho1 hg1; have O1 := Lib.hid ho1; have G1 : Hid (w.grownBy w1 (some g)) := Lib.hid ((grownBy_of_below (Below.refl w.heap.size w).drew).trans hg1); clear ho1 hg1)
    | fail))
  obtain ⟨w5, hcl, ho5, hg5⟩ := clear_ints O1.out (n - 1) (n - (n - 1)) (c - (n - 1)) (by omega) (by omega)
  have he : ((ints l).take (i * 1) ++ (ints l).drop ((i + 1) * 1) ++ (ints l).drop (i * 1 + ((ints l).drop ((i + 1) * 1)).length)).take (n - 1) = ints (l.eraseIdx i) := by
    have := erase_take (ints l) i 1 (by rw [hl]; omega)
    rw [ints_erase, Nat.mul_one, Nat.mul_one]
    rw [hl, Nat.mul_one] at this
    exact this
  rw [he] at ho5
  have O5 := Lib.hid ho5
  have G5 := Lib.hid hg5
  clear he ho5 hg5
  have a7 : n - 1 < c := by omega
  have a8 : ¬ c = n - 1 := by omega
  have a9 : ((n - 1 : Nat) : Int) ≤ (n : Int) := by omega
  go_wp2
  all_goals go_ret
  all_goals first
    | exact ⟨rfl, O5.out, G1.out.trans G5.out⟩
    | (have hc : c = i + 1 := (by assumption); have O6 : Own w5 base 3 1 (some ⟨g, 0, none⟩) (n - 1) (i + 1) (ints (l.eraseIdx i)) := (by rw [← hc]; exact O5.out); exact ⟨rfl, O6, G1.out.trans G5.out⟩)
theorem clear_pairs' {w : World} {base g n c : Nat} {xs : List Value} (h : Own w base 28 2 (some ⟨g, 0, none⟩) n c xs) (k m d : Nat) (hm : 0 < m) (hkm : k + m = n) :
    ∃ w', (∀ ty, (Builtin.clear_ #[29] ty #[.slice (some ⟨g, k * 2, none⟩) m d]).run Tryz.prog w = .ok (.tuple #[]) w') ∧ Own w' base 28 2 (some ⟨g, 0, none⟩) k c (xs.take (k * 2)) ∧ w.grownBy w' (some g) := by
  have hl := h.len
  have hzl : (Builtin.zeroCells (Value.agg #[.int .i64 0, .int .i64 0]).cells m).toList.length = m * 2 := by simp [Builtin.zeroCells, Value.cells]
  have hz1 : ∀ v ∈ (Builtin.zeroCells (Value.agg #[.int .i64 0, .int .i64 0]).cells m).toList, v.oneCell' = true := by
    intro v hv
    simp [Builtin.zeroCells, Value.cells] at hv
    obtain ⟨i, -, rfl⟩ := hv
    rcases Nat.mod_two_eq_zero_or_one i with e | e <;> rw [e] <;> rfl
  obtain ⟨xs', h1, h2, h3⟩ := Own.set_many (Builtin.zeroCells (Value.agg #[.int .i64 0, .int .i64 0]).cells m).toList (k * 2) h
  refine ⟨_, fun ty => ?_, ?_, h3⟩
  · have hst := run_storeCells_cells (P := Tryz.prog) g (k * 2) (Builtin.zeroCells (Value.agg #[.int .i64 0, .int .i64 0]).cells m).toList 0 w
      (fun j hj => by
        rw [hzl] at hj
        rw [World.ownsRow.cellAt h (k * 2 + 0 + j) (by omega), List.getElem?_eq_getElem (by omega)]; rfl)
      (fun j _ => h.frozen _) hz1
    simp only [Nat.add_zero] at hst
    obtain ⟨q, rfl⟩ : ∃ q, m = q + 1 := ⟨m - 1, by omega⟩
    simp [Builtin.clear_, run_underlying Tryz.underlying29, zeroPair, hst]
  · have := h1.shrink (k := k) (by omega) (by simp)
    rw [h2] at this
    exact this

end Go.Proofs.YtcpkdnhpelkeoaaGreat

namespace Go.Proofs.YtcpkdnhpelkeoaaGreat
set_option linter.unusedVariables false
set_option linter.unusedSimpArgs false
open Go.RowKit Go.Sort

attribute [local go_sem ↓] Go.wp_at_zero Go.wp_at_succ
set_option maxHeartbeats 1000000 in
theorem free_any (b go n c a : Nat) (B : Option Addr) (m d : Nat) (f : Int) (w : World) (h0 : w.cell? ⟨b, 0, none⟩ = some (.slice (some ⟨go, 0, none⟩) n c)) (h1 : w.cell? ⟨go, a, none⟩ = some (.slice B m d)) (ha : a < n) (hm : m ≤ 2) (hf : 2 - (m : Int) = f) :
    Calls Tryz.prog 111 #[.pointer (some ⟨b, 0, none⟩), .int .i64 a] w fun e w' => e = .returned (.int .i64 f) ∧ w = w' := by
  have HF := Lib.hid hf
  clear hf
  have a0 : (0 : Int) ≤ (a : Int) := by omega
  have a1 : (a : Int) < (n : Int) := by omega
  go_enter Tryz.func111, Tryz.ntmps111
  go_wp2
  go_ret
  exact ⟨ret_int HF.out, rfl⟩

/-- How many of the first n points are visited. -/
def cV (n : Nat) (vis : List Bool) : Nat := cntB n (visS vis)
theorem cV_le (n : Nat) (vis : List Bool) : cV n vis ≤ n := cntB_le n _
theorem cV_set {n b : Nat} {vis : List Bool} (hb : b < n) (hn : vis.length = n) (hv : visB vis b = false) : cV n (vis.set b true) = cV n vis + 1 := by
  unfold cV
  have e : visS (vis.set b true) = visS vis ||| 2 ^ b := by
    apply Nat.eq_of_testBit_eq
    intro i
    rw [visS_bit, visB_set _ _ _ (by omega), Nat.testBit_or, Nat.testBit_two_pow, visS_bit, Bool.or_comm]
    congr 1
    by_cases e : i = b
    · subst e; simp
    · simp [e, Ne.symm e]
  rw [e, cntB_add hb (by rw [visS_bit]; exact hv)]
theorem cV_mono {n : Nat} {vis vis' : List Bool} (h : ∀ x, visB vis x = true → visB vis' x = true) : cV n vis ≤ cV n vis' := by
  unfold cV cntB
  refine List.countP_mono_left (fun i _ hi => ?_)
  rw [visS_bit] at hi ⊢
  exact h i hi

def FPost (w : World) (base b go n c : Nat) (hs : List (Option Addr × Nat)) (out : List (List Int)) (gv : Nat) (vis : List Bool) (a : Nat) (e : Ending) (w' : World) : Prop :=
  ∃ r out' vis' hs', FLoop out (vis.set a true) a 0 r out' vis' ∧ e = .returned (.bool r) ∧ GM w' base b go n c hs' out' ∧ Own w' base 4 1 (some ⟨gv, 0, none⟩) n n (bools vis') ∧
    GStep (fun k => k = gv) w w' go hs hs' ∧ (r = false → hs' = hs)
/-- fetch, if at most u points more can be visited. -/
def FetchAt (n u : Nat) : Prop := ∀ (w : World) (base b go c : Nat) (hs : List (Option Addr × Nat)) (out : List (List Int)) (gv : Nat) (vis : List Bool) (a : Nat), n ≤ cV n (vis.set a true) + u → GM w base b go n c hs out → GS n out →
    Own w base 4 1 (some ⟨gv, 0, none⟩) n n (bools vis) → a < n → base ≤ w.heap.size →
    Calls Tryz.prog 112 #[.pointer (some ⟨b, 0, none⟩), .int .i64 a, .slice (some ⟨gv, 0, none⟩) n n] w (FPost w base b go n c hs out gv vis a)

theorem vis_not_ft {w : World} {base base' b go gv n c m d : Nat} {hs : List (Option Addr × Nat)} {out : List (List Int)} {xs : List Value} (h : GM w base b go n c hs out) (hv : Own w base' 4 1 (some ⟨gv, 0, none⟩) m d xs) : ¬ Ft go hs gv := fun hk => by
  obtain ⟨-, -, cur, e, h1, h2⟩ := h.om.ft (A := none) hk
  obtain ⟨cur', h3⟩ := hv.block_type (g := gv) rfl
  rw [h1] at h3; injection h3 with h3; injection h3 with _ h3
  subst h3
  rcases h2 with h2 | h2 <;> revert h2 <;> decide
theorem row_ne_go {w : World} {base b go g n c m d : Nat} {hs : List (Option Addr × Nat)} {out : List (List Int)} {A : Option Addr} {xs : List Value} (h : GM w base b go n c hs out) (hr : Own w base 3 1 A m d xs) (hA : blk A = some g) : g ≠ go := fun e => by
  obtain ⟨cur, h1⟩ := hr.block_type hA
  obtain ⟨cur', h2⟩ := h.om.outer.block_type (g := go) rfl
  rw [e, h2] at h1; injection h1 with h1; injection h1 with _ h1; revert h1; decide
/-- Behind 'g.out[y] = append(g.out[y], x)'. -/
theorem GM.push {wa w7 : World} {base b go n c d y : Nat} {B : Option Addr} {hs : List (Option Addr × Nat)} {out : List (List Int)} {hd : Option Addr × Nat} {l : List Int} {x : Int} {m : Nat}
    (h : GM wa base b go n c hs out) (p : hs[y]? = some hd) (q : out[y]? = some l) (hm : l.length = m) (hg : wa.grownBy w7 (blk hd.1)) (ho : Own w7 base 3 1 B (m + 1) d (ints l ++ ints [x])) (hB : blk B = blk hd.1 ∨ blk B = some wa.heap.size) :
    GM (w7.setCell ⟨go, y, none⟩ (.slice B (m + 1) d)) base b go n c (hs.set y (B, d)) (out.set y (l ++ [x])) ∧ ∀ V, GStep V wa (w7.setCell ⟨go, y, none⟩ (.slice B (m + 1) d)) go hs (hs.set y (B, d)) := by
  subst hm
  rw [← ints_app] at ho
  have e : l.length + 1 = (l ++ [x]).length := by simp
  rw [e] at ho ⊢
  exact h.setRow p q hg ho (hB.imp id (fun e => ⟨_, e, Nat.le_refl _⟩))
/-- What the walk reads behind an append to a row. -/
theorem GM.push_facts {wa w7 : World} {base b go n c y : Nat} {hs : List (Option Addr × Nat)} {out : List (List Int)} {A : Option Addr} {m d : Nat} {xs : List Value} {v : Value}
    (h : GM wa base b go n c hs out) (hr : Own wa base 3 1 A m d xs) (hg : wa.grownBy w7 (blk A)) (hc : wa.cell? ⟨go, y, none⟩ = some v) :
    w7.cell? ⟨b, 0, none⟩ = some (.slice (some ⟨go, 0, none⟩) n c) ∧ w7.cell? ⟨go, y, none⟩ = some v ∧ w7.frozen? ⟨go, y, none⟩ = false := by
  have hA1 : ∀ k, blk A = some k → k ≠ b := fun k hk => h.ne hr (by decide) hk
  have hA2 : ∀ k, blk A = some k → k ≠ go := fun k hk => row_ne_go h hr hk
  refine ⟨World.grownBy.cell hg h.cell (fun e => hA1 _ e.symm rfl), World.grownBy.cell hg hc (fun e => hA2 _ e.symm rfl), ?_⟩
  exact (h.om.outer.keptBy hg (.inr (fun e => hA2 go e.symm rfl))).frozen y

/-- A call of a Go function as one step of a region that draws, by its contract. -/
theorem step_calls {P : Program} {ops : Array Oper} {o : Oper} {a : Act} {w : World} {K : Act → World → Prop} {Q : Exit → Act → World → Prop} {E : Prop} (hgd : o.guard = none) (f : FuncId) (xs : Array Operand) (ts : Array TypeId)
    (ho : o.op = .call { callee := .value (.func f), args := xs, argTypes := ts }) (eg : ∀ args w, (callFunc f args).run P w = .ok (.enter f args) w) (args : Array Value) (hargs : xs.map a.eval = args) (v : Value) {R : World → Prop}
    (h : Calls P f args w fun e w' => e = .returned v ∧ R w') (hK : ∀ w', R w' → K (a.put o.dst v) w') :
    if Region.wanted o (yielded ops a.tmps) = true then Oper.wp P o a w K Q else E := by
  have hw : Region.wanted o (yielded ops a.tmps) = true := by simp [Region.wanted, hgd]
  rw [if_pos hw]
  subst hargs
  unfold Oper.wp
  simp [execOp, ho, resolve, Deferred.ofValue, invoke, eg, Act.eval]
  refine h.mono ?_
  rintro e w' ⟨rfl, hr⟩
  exact hK w' hr

/-- The loop has come to number q with vis1 visited. -/
def Cont (out : List (List Int)) (vis : List Bool) (a : Nat) (q : Nat) (vis1 : List Bool) : Prop := ∀ r o v, FLoop out vis1 a q r o v → FLoop out vis a 0 r o v
section
variable {n : Nat} {out : List (List Int)} {vis0 vis1 : List Bool} {a q y : Nat}
theorem Cont.skip (h : Cont out vis0 a q vis1) (hb : (rowOf out a)[q]? = some (y : Int)) (hv : visB vis1 y = true) : Cont out vis0 a (q + 1) vis1 := fun r o v hl => h r o v (.skip hb hv hl)
theorem Cont.free (h : Cont out vis0 a q vis1) (hb : (rowOf out a)[q]? = some (y : Int)) (hv : visB vis1 y = false) (hf : (rowOf out y).length < 2) : FLoop out vis0 a 0 true (moveE out a q y) vis1 := h _ _ _ (.free hb hv hf)
theorem Cont.hit {out5 : List (List Int)} {vis5 : List Bool} (h : Cont out vis0 a q vis1) (hb : (rowOf out a)[q]? = some (y : Int)) (hv : visB vis1 y = false) (hf : ¬ (rowOf out y).length < 2) (hl : FLoop out (vis1.set y true) y 0 true out5 vis5) : FLoop out vis0 a 0 true (moveE out5 a q y) vis5 := h _ _ _ (.hit hb hv (by omega) hl)
theorem Cont.miss {out5 : List (List Int)} {vis5 : List Bool} (h : Cont out vis0 a q vis1) (hb : (rowOf out a)[q]? = some (y : Int)) (hv : visB vis1 y = false) (hf : ¬ (rowOf out y).length < 2) (hs : GS n out) (hn : vis1.length = n) (hl : FLoop out (vis1.set y true) y 0 false out5 vis5) : out5 = out ∧ Cont out vis0 a (q + 1) vis5 := by
  obtain ⟨rfl, -, -⟩ := hl.no hs.w (by rw [List.length_set]; exact hn) rfl
  exact ⟨rfl, fun r o v h2 => h r o v (.miss hb hv (by omega) hl h2)⟩
theorem hit_facts {out5 : List (List Int)} {vis5 : List Bool} (hs : GS n out) (hn : vis1.length = n) (hva : visB vis1 a = true) (hb : (rowOf out a)[q]? = some (y : Int)) (hv : visB vis1 y = false) (hl : FLoop out (vis1.set y true) y 0 true out5 vis5) :
    rowOf out5 a = rowOf out a ∧ (rowOf out5 y).length + 1 = (rowOf out y).length := by
  have hy := hs.w.at hb
  obtain ⟨h1, h2, h3, h4, h5⟩ := hl.yes hs (by rw [List.length_set]; exact hn) hy (by rw [visB_set _ _ _ (by omega)]; simp) rfl
  exact ⟨h5 a (by rw [visB_set _ _ _ (by omega), hva]; simp) (fun e => by subst e; rw [hva] at hv; cases hv), h4⟩
end
/-- Where the round stands when it is known whether a pebble came. -/
def CutR (w : World) (base b go n c : Nat) (hs : List (Option Addr × Nat)) (out : List (List Int)) (gv : Nat) (vis0 : List Bool) (a q y : Nat) (t : Value) (wx : World) : Prop :=
  ∃ (r : Bool) (out1 : List (List Int)) (vis1 : List Bool) (hs1 : List (Option Addr × Nat)), t = .bool r ∧ GM wx base b go n c hs1 out1 ∧ Own wx base 4 1 (some ⟨gv, 0, none⟩) n n (bools vis1) ∧ GStep (fun k => k = gv) w wx go hs hs1 ∧
    (r = true → FLoop out vis0 a 0 true (moveE out1 a q y) vis1 ∧ rowOf out1 a = rowOf out a ∧ (rowOf out1 y).length ≤ 1) ∧
    (r = false → hs1 = hs ∧ out1 = out ∧ visB vis1 a = true ∧ Cont out vis0 a (q + 1) vis1 ∧ cV n vis0 ≤ cV n vis1)
def CutS (w : World) (base b go n c : Nat) (hs : List (Option Addr × Nat)) (gv : Nat) (out2 : List (List Int)) (vis1 : List Bool) (wx : World) : Prop :=
  ∃ (hs2 : List (Option Addr × Nat)), GM wx base b go n c hs2 out2 ∧ Own wx base 4 1 (some ⟨gv, 0, none⟩) n n (bools vis1) ∧ GStep (fun k => k = gv) w wx go hs hs2
end Go.Proofs.YtcpkdnhpelkeoaaGreat

namespace Go.Proofs.YtcpkdnhpelkeoaaGreat
set_option linter.unusedVariables false
set_option linter.unusedSimpArgs false
open Go.RowKit Go.Sort

attribute [local go_sem ↓] Go.wp_at_zero Go.wp_at_succ
set_option maxRecDepth 100000 in
set_option maxHeartbeats 8000000 in
theorem fetch_step (n u : Nat) (hn : n ≤ 60) (IH : ∀ u', u' < u → FetchAt n u') : FetchAt n u := by
  intro w base b go c hs out gv vis a hu hg hgs hov ha hbase
  have HU := Lib.hid hu
  have HG := Lib.hid hg
  have HGS := Lib.hid hgs
  have HV := Lib.hid hov
  have HIH := Lib.hid IH
  have a0 : (0 : Int) ≤ (a : Int) := by omega
  have a1 : (a : Int) < (n : Int) := by omega
  have cb := hg.cell
  have cv := hov.cellB ha
  have fv := hov.frozen a
  generalize visB vis a = va at cv
  obtain ⟨⟨Ah, ch⟩, hh, -, cr, orow⟩ := hg.row_at ha
  have HH := Lib.hid hh
  have ROW := Lib.hid orow
  have n1 : gv ≠ b := hg.ne hov (by decide) rfl
  have n2 : gv ≠ go := fun e => by
    obtain ⟨cur, h1⟩ := hov.block_type (g := gv) rfl
    obtain ⟨cur', h2⟩ := hg.om.outer.block_type (g := go) rfl
    rw [e, h2] at h1; injection h1 with h1; injection h1 with _ h1; revert h1; decide
  have n1' := Ne.symm n1
  have n2' := Ne.symm n2
  have hlen2 := hgs.two a
  generalize hln : (rowOf out a).length = ln at cr hlen2
  have HLN := Lib.hid hln
  have cb1 : (w.setCell ⟨gv, a, none⟩ (.bool true)).cell? ⟨b, 0, none⟩ = some (.slice (some ⟨go, 0, none⟩) n c) := by rw [World.cell?_setCell_other _ _ _ _ (by simp [n1])]; exact cb
  have cr1 : (w.setCell ⟨gv, a, none⟩ (.bool true)).cell? ⟨go, a, none⟩ = some (.slice Ah ln ch) := by rw [World.cell?_setCell_other _ _ _ _ (by simp [n2])]; exact cr
  clear hu hg hgs hov hh orow hln IH
  have HGV0 : Hid (GM (w.setCell ⟨gv, a, none⟩ (.bool true)) base b go n c hs out ∧ GStep (fun k => k = gv) w (w.setCell ⟨gv, a, none⟩ (.bool true)) go hs hs) := Lib.hid (by
    have hfr : Fr (fun k => k = gv) w (w.setCell ⟨gv, a, none⟩ (.bool true)) := (Fr.refl (fun k => k = gv) w).setCell (p := ⟨gv, a, none⟩) (.inl rfl) _
    refine ⟨HG.out.fr hfr (fun k hk e => ?_) n1', ⟨hfr.mono (fun i _ h => .inr h), fun _ _ h => h⟩⟩
    subst e
    obtain ⟨-, -, cur, e, h1, h2⟩ := HG.out.om.ft (A := none) hk
    obtain ⟨cur', h3⟩ := HV.out.block_type (g := k) rfl
    rw [h1] at h3; injection h3 with h3; injection h3 with _ h3
    subst h3
    rcases h2 with h2 | h2 <;> revert h2 <;> decide)
  go_enter Tryz.func112, Tryz.ntmps112
  go_wp2_with fail
  go_loopg [7, 8, 20] ln (fun k _ _ t wr => ∃ (q : Nat) (vis1 : List Bool), t = .int .i64 q ∧ q ≤ ln ∧ k = ln - q ∧ GM wr base b go n c hs out ∧ Own wr base 4 1 (some ⟨gv, 0, none⟩) n n (bools vis1) ∧ visB vis1 a = true ∧ Cont out (vis.set a true) a q vis1 ∧ cV n (vis.set a true) ≤ cV n vis1 ∧ GStep (fun k => k = gv) w wr go hs hs)
  case atStart => exact ⟨0, vis.set a true, rfl, Nat.zero_le _, rfl, HGV0.out.1, HV.out.storeB a true, by rw [visB_set _ _ _ (by rw [HV.out.blen]; exact ha)]; simp, fun _ _ _ h => h, Nat.le_refl _, HGV0.out.2⟩
  case round =>
    obtain ⟨q, vis1, rfl, hq, rfl, hg1, hv1, hva, hct, hcv, hst⟩ := hrel
    have HG1 := Lib.hid hg1
    have HV1 := Lib.hid hv1
    have HVA := Lib.hid hva
    have HCT := Lib.hid hct
    have HCV := Lib.hid hcv
    have HST := Lib.hid hst
    have cb5 := hg1.cell
    clear hg1 hv1 hva hct hcv hst
    by_cases hlt : q < ln
    · obtain ⟨hd', hh', -, -, orow⟩ := HG1.out.row_at ha
      rw [HH.out] at hh'
      injection hh' with hh'
      subst hh'
      simp only at orow
      rw [HLN.out] at orow
      obtain ⟨ad, rfl, hql, c0⟩ := orow.rd.int_at hlt
      have hgx : (rowOf out a)[q]? = some ((rowOf out a).getD q 0) := by rw [List.getD_eq_getElem?_getD, List.getElem?_eq_getElem hql]; rfl
      have hmem := HGS.out.mem a _ (getI_mem hgx)
      obtain ⟨y, hy⟩ : ∃ y : Nat, (rowOf out a).getD q 0 = (y : Int) := ⟨((rowOf out a).getD q 0).toNat, by omega⟩
      rw [hy] at c0 hmem hgx
      have HGX := Lib.hid hgx
      have hyn : y < n := by omega
      have y0 : (0 : Int) ≤ (y : Int) := by omega
      have y1 : (y : Int) < (n : Int) := by omega
      have cvy := HV1.out.cellB hyn
      clear orow hql hgx hmem hy
      cases hvy : visB vis1 y
      · rw [hvy] at cvy
        have HVY := Lib.hid hvy
        clear hvy
        obtain ⟨hdy, hhy, -, cry, orowy⟩ := HG1.out.row_at hyn
        have hm2 := HGS.out.two y
        generalize hlm : (rowOf out y).length = m at cry hm2
        have HLM := Lib.hid hlm
        clear hhy orowy hlm
        go_upto_region 6 with fail
        go_cut [38] (CutR w base b go n c hs out gv (vis.set a true) a q y)
        case first =>
          by_cases hfree : m < 2
          · obtain ⟨f, hf, hf0⟩ : ∃ f : Int, 2 - (m : Int) = f ∧ 0 < f := ⟨_, rfl, by omega⟩
            have HF := Lib.hid hf
            clear hf
            go_wp2_with (first
              | (go_at_call 111; refine (free_any b go n c y _ m _ f _ cb5 cry hyn hm2 HF.out).mono ?_; rintro e w5 ⟨rfl, rfl⟩)
              | fail)
            go_meet
            exact ⟨true, out, vis1, hs, rfl, HG1.out, HV1.out, HST.out, fun _ => ⟨HCT.out.free HGX.out HVY.out (by rw [HLM.out]; exact hfree), rfl, by rw [HLM.out]; omega⟩, fun h => by cases h⟩
          · obtain rfl : m = 2 := by omega
            have hcs := cV_set hyn HV1.out.blen HVY.out
            have hcl := cV_le n (vis1.set y true)
            have hih := HIH.out (n - cV n (vis1.set y true)) (by have := HU.out; have := HCV.out; omega) wr base b go c hs out gv vis1 y (by omega) HG1.out HGS.out HV1.out hyn (by have := HST.out.fr.size; omega)
            have HI := Lib.hid hih
            clear hcs hcl hih
            go_wp2_with (first
              | (go_at_call 111; refine (free_any b go n c y _ 2 _ 0 _ cb5 cry hyn hm2 rfl).mono ?_; rintro e w5 ⟨rfl, rfl⟩)
              | (go_at_call 112; refine HI.out.mono ?_; rintro e w5 ⟨r, out5, vis5, hs5, hfl, rfl, hg5, hv5, hst5, hsame⟩; have R5 := Lib.hid (And.intro hfl (And.intro hg5 (And.intro hv5 (And.intro hst5 hsame)))); clear hfl hg5 hv5 hst5 hsame)
              | fail)
            go_meet
            obtain ⟨hfl, hg5, hv5, hst5, hsame⟩ := R5.out
            refine ⟨r, out5, vis5, hs5, rfl, hg5, hv5, HST.out.trans hst5, fun hr => ?_, fun hr => ?_⟩
            · subst hr
              obtain ⟨q1, q2⟩ := hit_facts HGS.out HV1.out.blen HVA.out HGX.out HVY.out hfl
              exact ⟨HCT.out.hit HGX.out HVY.out (by rw [HLM.out]; omega) hfl, q1, by have := HLM.out; omega⟩
            · subst hr
              obtain ⟨q1, q2⟩ := HCT.out.miss HGX.out HVY.out (by rw [HLM.out]; omega) HGS.out HV1.out.blen hfl
              have hvm : ∀ x, visB vis1 x = true → visB vis5 x = true := fun x hx => hfl.vmono x (visB_mono (by rw [HV1.out.blen]; exact hyn) hx)
              exact ⟨hsame rfl, q1, hvm a HVA.out, q2, Nat.le_trans HCV.out (cV_mono hvm)⟩
        case rest =>
          obtain ⟨r, out5, vis5, hs5, rfl, hg5, hv5, hst5, hyes, hno⟩ := hcut
          cases r
          · obtain ⟨rfl, rfl, h3, h4, h5⟩ := hno rfl
            go_wp2_with fail
            go_roundg (ln - (q + 1))
            case measure => omega
            case rel => exact ⟨q + 1, vis5, by go_num, by omega, rfl, hg5, hv5, h3, h4, h5, hst5⟩
          · obtain ⟨hfl, hrow, hly⟩ := hyes rfl
            obtain ⟨⟨A5, d5⟩, hh5, ho5, cr5, or5⟩ := hg5.row_at ha
            simp only at cr5 or5
            rw [hrow, HLN.out] at cr5 or5
            rw [hrow] at ho5
            obtain ⟨ga, rfl, -, -⟩ := or5.some_ (by omega)
            have HFL := Lib.hid hfl
            have HROW := Lib.hid hrow
            have HLY := Lib.hid hly
            have HG5 := Lib.hid (GM.later hg5 ((Below.refl _ _).drew))
            have HH5 := Lib.hid hh5
            have HO5 := Lib.hid ho5
            have OR5 : Hid (Own wc.drew base 3 1 (some ⟨ga, 0, none⟩) ln d5 (ints (rowOf out a))) := Lib.hid or5
            have HV5 : Hid (Own wc.drew base 4 1 (some ⟨gv, 0, none⟩) n n (bools vis5)) := Lib.hid hv5
            have HST5 := Lib.hid hst5
            have cb5 := hg5.cell
            have fz5 : wc.frozen? ⟨go, a, none⟩ = false := hg5.om.outer.frozen a
            have HLE : Hid (((rowOf out a).eraseIdx q).length = ln - 1) := Lib.hid (by have := len_eraseIdx (l := rowOf out a) (i := q) (by rw [HLN.out]; exact hlt); rw [HLN.out] at this; omega)
            have EGH : Hid (∀ args w, (callFunc 114 args).run Tryz.prog w = .ok (.enter 114 args) w) := Lib.hid (enters_of Tryz.func114 (by kernel_rfl) rfl)
            have CD := Lib.hid (del_own ga ln d5 (rowOf out a) q wc.drew base OR5.out hlt (by omega))
            have qs : IntKind.i64.wrap ((q : Int) + 1) = (q : Int) + 1 := IntWalk.i64_in _ (by omega)
            clear hyes hno hg5 hv5 hst5 hfl hrow hly hh5 ho5 or5
            go_upto_region 7 with fail
            go_cut [54] (fun _ wx => CutS wc base b go n c hs5 gv (out5.set a ((rowOf out a).eraseIdx q)) vis5 wx)
            case first =>
              go_region_law ((first
                | (refine step_calls rfl 114 #[.tmp 50, .tmp 51, .tmp 53] #[24, 3, 3] rfl EGH.out #[.slice (some ⟨ga, 0, none⟩) ln d5, .int .i64 q, .int .i64 (q + 1)] (by simp [Act.eval, Act.put, qs]) (.slice (some ⟨ga, 0, none⟩) (ln - 1) d5) CD.out ?_; intro w6 ⟨ho6, hg6⟩; obtain ⟨cb6, cr6, fz6⟩ := HG5.out.push_facts OR5.out hg6 cr5; have HO6 := Lib.hid ho6; have HG6 := Lib.hid hg6; clear ho6 hg6)
                | fail))
              all_goals
               go_wp2_with fail
               go_meet
               have hs6 := HG5.out.setRow HH5.out HO5.out (B := some ⟨ga, 0, none⟩) (d := d5) (l' := (rowOf out a).eraseIdx q) HG6.out (by rw [HLE.out]; exact HO6.out) (.inl rfl)
               rw [HLE.out] at hs6
               exact ⟨_, hs6.1, Fr.own HV5.out (hs6.2 (fun _ => False)).fr (fun k hk h => by simp [blk] at hk; subst hk; exact h.elim (vis_not_ft HG5.out HV5.out) id), (GStep.of_below ((Below.refl _ _).drew)).trans (hs6.2 _)⟩
            case rest =>
              obtain ⟨hs6, hg6, hv6, hst6⟩ := hcut
              have HST6 := Lib.hid (HST5.out.trans hst6)
              clear hst6 HG5 HH5 HO5 OR5 HV5 CD EGH cb5 cr5 fz5 HST5
              rename World => w6
              have hay : a ≠ y := fun e => by have := HVY.out; rw [← e, HVA.out] at this; cases this
              obtain ⟨⟨A6, d6⟩, hh6, ho6, cr6, or6⟩ := hg6.row_at hyn
              have hr6 : rowOf (out5.set a ((rowOf out a).eraseIdx q)) y = rowOf out5 y := by
                rw [rowOf_set _ _ _ _ (by have := hg6.om.len; rw [List.length_set] at this; omega), if_neg (Ne.symm hay)]
              simp only at cr6 or6
              rw [hr6] at cr6 or6 ho6
              have hEQ : Hid (moveE out5 a q y = (out5.set a ((rowOf out a).eraseIdx q)).set y (rowOf out5 y ++ [(a : Int)])) := Lib.hid (by unfold moveE; rw [HROW.out, hr6])
              have hly := HLY.out
              generalize hlr : rowOf out5 y = lr at cr6 or6 ho6 hEQ hly
              generalize hlm6 : lr.length = m6 at cr6 or6 hly
              have HLM6 := Lib.hid hlm6
              have HG6 := Lib.hid hg6
              have HV6 := Lib.hid hv6
              have HH6 := Lib.hid hh6
              have HO6 := Lib.hid ho6
              have OR6 := Lib.hid or6
              have cb6 := hg6.cell
              have fz6 : w6.frozen? ⟨go, y, none⟩ = false := hg6.om.outer.frozen y
              have cba : (w6.drew.alloc (.cells #[.int .i64 (a : Int)] 3)).cell? ⟨b, 0, none⟩ = some (.slice (some ⟨go, 0, none⟩) n c) := Keeps.alloc w6.drew _ _ _ cb6
              have cra : (w6.drew.alloc (.cells #[.int .i64 (a : Int)] 3)).cell? ⟨go, y, none⟩ = some (.slice A6 m6 d6) := Keeps.alloc w6.drew _ _ _ cr6
              have cbb : (w6.alloc (.cells #[.int .i64 (a : Int)] 3)).cell? ⟨b, 0, none⟩ = some (.slice (some ⟨go, 0, none⟩) n c) := Keeps.alloc w6 _ _ _ cb6
              have crb : (w6.alloc (.cells #[.int .i64 (a : Int)] 3)).cell? ⟨go, y, none⟩ = some (.slice A6 m6 d6) := Keeps.alloc w6 _ _ _ cr6
              have HGA : Hid (GM (w6.drew.alloc (.cells #[.int .i64 (a : Int)] 3)) base b go n c hs6 (out5.set a ((rowOf out a).eraseIdx q))) := Lib.hid (hg6.later (((Below.refl _ _).drew).alloc (by simp) _))
              have ORA : Hid (Own (w6.drew.alloc (.cells #[.int .i64 (a : Int)] 3)) base 3 1 A6 m6 d6 (ints lr)) := Lib.hid (Own.alloc (w := w6.drew) or6 _)
              have HB6 : base ≤ w6.heap.size := by have := hg6.lt; have := hg6.lo; omega
              clear hg6 hv6 hh6 ho6 or6 hr6 hlr hlm6 hay
              go_upto_region 8 with fail
              go_region_law ((first
                | (refine step_app _ rfl (.tmp 67) (.tmp 69) 24 rfl base 3 (.int .i64 0) 1 8 Tryz.underlying24 info_int' rfl (by decide) A6 m6 d6 (ints lr) (by simp [Act.eval, Act.put]) ORA.out (some ⟨w6.heap.size, 0, none⟩) 1 1 (ints [(a : Int)]) (by simp [Act.eval, Act.put]) (rd_lit_at rfl [(a : Int)] _) (ints_one _) (by omega) (by unfold maxLen; omega) (by simp; omega) ?_; intro B7 c7 w7 ho7 hg7 hb7; obtain ⟨cb7, cr7, fz7⟩ := HGA.out.push_facts ORA.out hg7 cra; have P7 := Lib.hid (HGA.out.push HH6.out HO6.out HLM6.out hg7 ho7 hb7); clear ho7 hg7 hb7)
                | fail))
              all_goals
               go_wp2_with fail
               go_ret
               refine ⟨true, moveE out5 a q y, vis5, _, HFL.out, rfl, by rw [hEQ.out]; exact P7.out.1, ?_, ?_, fun h => by cases h⟩
               · exact Fr.own (HV6.out.later (((Below.refl _ _).drew).alloc (by simp) _)) (P7.out.2 (fun _ => False)).fr (fun k hk h => by simp [blk] at hk; subst hk; exact h.elim (vis_not_ft HG6.out HV6.out) id)
               · exact HST6.out.trans ((GStep.of_below (((Below.refl _ _).drew).alloc (by simp) _)).trans (P7.out.2 _))
      · rw [hvy] at cvy
        have HVY := Lib.hid hvy
        clear hvy
        go_wp2_with fail
        go_roundg (ln - (q + 1))
        case measure => omega
        case rel => exact ⟨q + 1, vis1, by go_num, by omega, rfl, HG1.out, HV1.out, HVA.out, HCT.out.skip HGX.out HVY.out, HCV.out, HST.out⟩
    · obtain rfl : q = ln := by omega
      go_wp2_with fail
      go_ret
      exact ⟨false, out, vis1, hs, HCT.out _ _ _ (.done (by rw [HLN.out]; exact Nat.le_refl _)), rfl, HG1.out, HV1.out, HST.out, fun _ => rfl⟩
end Go.Proofs.YtcpkdnhpelkeoaaGreat

namespace Go.Proofs.YtcpkdnhpelkeoaaGreat
set_option linter.unusedVariables false
set_option linter.unusedSimpArgs false
open Go.RowKit Go.Sort

theorem fetch_any {n : Nat} (hn : n ≤ 60) (u : Nat) : FetchAt n u := by
  induction u using Nat.strongRecOn with
  | _ u ih => exact fetch_step n u hn ih

theorem info_bool : (Tryz.prog.info? 4).map (fun i => (i.zero, i.size, i.bytes)) = some (some (.bool false), 1, 1) := by kernel_rfl
theorem own_madeB {w : World} {b base : Nat} (hb : w.heap.size = b) (n : Nat) (hn : n ≤ maxLen) (hbase : base ≤ b) : Own (w.alloc (.cells (madeCells #[.bool false] n) 4)) base 4 1 (some ⟨b, 0, none⟩) n n (bools (List.replicate n false)) := by
  subst hb
  have h := World.ownsRow_lit (base := base) (e := 4) (size := 1) w (madeCells #[.bool false] n) n hbase hn (by simp [madeCells])
  have e : (madeCells #[.bool false] n).toList = bools (List.replicate n false) := by
    apply List.ext_getElem
    · simp [madeCells, bools]
    · intro i h1 h2; simp [madeCells, bools, Nat.mod_one]
  rw [e] at h
  exact h
theorem own_madeB1 {w : World} {b base : Nat} (hb : w.heap.size = b) (n y : Nat) (hn : n ≤ maxLen) (hbase : base ≤ b) : Own (w.alloc (.cells ((madeCells #[.bool false] n).setIfInBounds y (.bool true)) 4)) base 4 1 (some ⟨b, 0, none⟩) n n (bools ((List.replicate n false).set y true)) := by
  subst hb
  have h := World.ownsRow_lit (base := base) (e := 4) (size := 1) w ((madeCells #[.bool false] n).setIfInBounds y (.bool true)) n hbase hn (by simp [madeCells])
  have e : ((madeCells #[.bool false] n).setIfInBounds y (.bool true)).toList = bools ((List.replicate n false).set y true) := by
    have e0 : (madeCells #[.bool false] n).toList = bools (List.replicate n false) := by
      apply List.ext_getElem
      · simp [madeCells, bools]
      · intro i h1 h2; simp [madeCells, bools, Nat.mod_one]
    rw [Array.toList_setIfInBounds, e0]
    simp [bools, List.map_set]
  rw [e] at h
  exact h
/-- A step that begins by a new block, which alone is written besides the game. -/
theorem step_new {w w' : World} {o : Obj} {go : Nat} {hs hs' : List (Option Addr × Nat)} (h : GStep (fun k => k = w.heap.size) (w.alloc o) w' go hs hs') : GStep (fun _ => False) w w' go hs hs' := by
  have h0 : w.heap.size < (w.alloc o).heap.size := by simp
  exact ⟨(Fr.alloc w o).trans h.fr (fun i hi hi' => hi'.imp id (fun e => by omega)), fun k hk hf => h.ft k (by omega) hf⟩
def Prog (n : Nat) (out : List (List Int)) (a b : Nat) : Nat → List (List Int) → Prop
  | 0, o => o = out
  | 1, o => GLoop n out a b o
  | _ + 2, o => ∃ m, GLoop n out a b m ∧ GLoop n m b a o
def GPost (w : World) (base b go n c : Nat) (hs : List (Option Addr × Nat)) (out : List (List Int)) (p q : Nat) (e : Ending) (w' : World) : Prop :=
  ∃ out1 out2 hs2, GLoop n out p q out1 ∧ GLoop n out1 q p out2 ∧ e = .returned (.int .i64 (4 - ((rowOf out2 p).length : Int) - ((rowOf out2 q).length : Int))) ∧ GM w' base b go n c hs2 out2 ∧ GStep (fun _ => False) w w' go hs hs2

set_option maxRecDepth 100000 in
set_option maxHeartbeats 8000000 in
theorem gather_any (w : World) (base b go n c : Nat) (hs : List (Option Addr × Nat)) (out : List (List Int)) (p q : Nat) (hn : n ≤ 60) (hg : GM w base b go n c hs out) (hgs : GS n out) (hp : p < n) (hq : q < n) (hpq : p ≠ q) :
    Calls Tryz.prog 107 #[.pointer (some ⟨b, 0, none⟩), .int .i64 p, .int .i64 q] w (GPost w base b go n c hs out p q) := by
  have HG := Lib.hid hg
  have HGS := Lib.hid hgs
  have hbw : b < w.heap.size := hg.lt
  have hbb := hg.lo
  have hmk := run_make_row' (P := Tryz.prog) 127 4 (.bool false) 1 Tryz.underlying127 info_bool rfl .i64 .i64 n (by omega) (by omega)
  clear hg hgs
  go_enter Tryz.func107, Tryz.ntmps107
  go_wp2_with fail
  go_loopg [8, 9, 18] 2 (fun k _ _ t wr => ∃ (i : Nat) (hs1 : List (Option Addr × Nat)) (out1 : List (List Int)), t = .int .i64 i ∧ i ≤ 2 ∧ k = 2 - i ∧ Prog n out p q i out1 ∧ GS n out1 ∧ GM wr base b go n c hs1 out1 ∧ GStep (fun _ => False) (w.alloc (.cells #[.int .i64 (p : Int), .int .i64 (q : Int), .int .i64 (q : Int), .int .i64 (p : Int)] 28)) wr go hs hs1)
  case atStart => exact ⟨0, hs, out, rfl, by omega, rfl, rfl, HGS.out, HG.out.later ((Below.refl _ _).alloc (Nat.le_refl _) _), GStep.refl _ _ _ _⟩
  case round =>
    obtain ⟨i, hs1, out1, rfl, hi, rfl, hpr, hgs1, hg1, hst⟩ := hrel
    have HPR := Lib.hid hpr
    have HGS1 := Lib.hid hgs1
    have HG1 := Lib.hid hg1
    have HST := Lib.hid hst
    have hbw1 := hg1.lt
    have nlit : ¬ Ft go hs w.heap.size := fun h => by have := (HG.out.om.ft (A := none) h).2.1; omega
    have hsz := hst.fr.size
    simp at hsz
    have lits : ∀ j : Nat, wr.cell? ⟨w.heap.size, j, none⟩ = (#[.int .i64 (p : Int), .int .i64 (q : Int), .int .i64 (q : Int), .int .i64 (p : Int)] : Array Value)[j]? := fun j => by
      rw [World.cell?_of_block (hst.fr.block w.heap.size (by simp) (fun h => h.elim nlit id))]; simp
    clear hpr hgs1 hg1 hst nlit
    by_cases hi2 : i < 2
    · obtain ⟨x, y, hx, hy, hxy, c0, c1, hnext⟩ : ∃ x y : Nat, x < n ∧ y < n ∧ x ≠ y ∧ wr.cell? ⟨w.heap.size, i * 2, none⟩ = some (.int .i64 (x : Int)) ∧ wr.cell? ⟨w.heap.size, i * 2 + 1, none⟩ = some (.int .i64 (y : Int)) ∧ ∀ o, GLoop n out1 x y o → Prog n out p q (i + 1) o := by
        rcases (show i = 0 ∨ i = 1 by omega) with rfl | rfl
        · refine ⟨p, q, hp, hq, hpq, by rw [lits]; rfl, by rw [lits]; rfl, fun o ho => ?_⟩
          have : out1 = out := HPR.out
          rw [this] at ho; exact ho
        · exact ⟨q, p, hq, hp, Ne.symm hpq, by rw [lits]; rfl, by rw [lits]; rfl, fun o ho => ⟨out1, HPR.out, ho⟩⟩
      have HN := Lib.hid hnext
      have i0 : (0 : Int) ≤ (i : Int) := by omega
      have i1 : (i : Int) < 2 := by omega
      have x0 : (0 : Int) ≤ (x : Int) := by omega
      have x1 : (x : Int) < (n : Int) := by omega
      have y0 : (0 : Int) ≤ (y : Int) := by omega
      have y1 : (y : Int) < (n : Int) := by omega
      have HB1 : Hid (base ≤ wr.heap.size) := Lib.hid (by omega)
      clear lits hnext
      go_wp2_with fail
      go_loopg [9] (rowOf out1 x).length (fun k _ wi => ∃ (hs2 : List (Option Addr × Nat)) (out2 : List (List Int)), k = (rowOf out2 x).length ∧ GS n out2 ∧ GM wi base b go n c hs2 out2 ∧ GStep (fun _ => False) (wr.alloc (.cells #[.int .i64 (x : Int), .int .i64 (y : Int)] 28)) wi go hs1 hs2 ∧ ∀ o, GLoop n out2 x y o → GLoop n out1 x y o)
      case atStart => exact ⟨hs1, out1, rfl, HGS1.out, HG1.out.later ((Below.refl _ _).alloc (Nat.le_refl _) _), GStep.refl _ _ _ _, fun _ h => h⟩
      case round =>
        obtain ⟨hs2, out2, rfl, hgs2, hg2, hst2, hct⟩ := hrel
        have HGS2 := Lib.hid hgs2
        have HG2 := Lib.hid hg2
        have HST2 := Lib.hid hst2
        have HCT := Lib.hid hct
        rename World => wi
        have hsz2 := hst2.fr.size
        simp at hsz2
        have nvar : ¬ Ft go hs1 wr.heap.size := fun h => by have := (HG1.out.om.ft (A := none) h).2.1; omega
        have vars : ∀ j : Nat, wi.cell? ⟨wr.heap.size, j, none⟩ = (#[.int .i64 (x : Int), .int .i64 (y : Int)] : Array Value)[j]? := fun j => by
          rw [World.cell?_of_block (hst2.fr.block wr.heap.size (by simp) (fun h => h.elim nvar id))]; simp
        have v0 : wi.cell? ⟨wr.heap.size, 0, none⟩ = some (.int .i64 (x : Int)) := by rw [vars]; rfl
        have v1 : wi.cell? ⟨wr.heap.size, 1, none⟩ = some (.int .i64 (y : Int)) := by rw [vars]; rfl
        have cb2 := hg2.cell
        have hm2 := hgs2.two x
        obtain ⟨hdx, hhx, -, crx, orx⟩ := hg2.row_at hx
        generalize hlm : (rowOf out2 x).length = m at crx hm2
        have HLM := Lib.hid hlm
        clear hgs2 hg2 hst2 hct nvar vars hhx orx hlm
        by_cases hz : m = 0
        · subst hz
          go_wp2_with (first
            | (go_at_call 111; refine (free_any b go n c x _ 0 _ 2 _ cb2 crx hx hm2 rfl).mono ?_; rintro e w5 ⟨rfl, rfl⟩)
            | fail)
          go_roundg (2 - (i + 1))
          case measure => omega
          case rel => exact ⟨i + 1, hs2, out2, by go_num, by omega, rfl, HN.out _ (HCT.out _ (.full (List.eq_nil_of_length_eq_zero HLM.out))), HGS2.out, HG2.out, HST.out.trans ((GStep.of_below ((Below.refl _ _).alloc (Nat.le_refl _) _)).trans HST2.out)⟩
        · obtain ⟨f, hf, hf0⟩ : ∃ f : Int, 2 - (m : Int) = f ∧ f < 2 := ⟨_, rfl, by omega⟩
          have HF := Lib.hid hf
          clear hf
          have ccb : (wi.alloc (.cells (madeCells #[.bool false] n) 4)).cell? ⟨wr.heap.size, 1, none⟩ = some (.int .i64 (y : Int)) := Keeps.alloc wi _ _ _ v1
          have cca : (wi.alloc (.cells ((madeCells #[.bool false] n).setIfInBounds y (.bool true)) 4)).cell? ⟨wr.heap.size, 0, none⟩ = some (.int .i64 (x : Int)) := Keeps.alloc wi _ _ _ v0
          have cvm : (wi.alloc (.cells (madeCells #[.bool false] n) 4)).cell? ⟨wi.heap.size, y, none⟩ = some (.bool false) := by
            rw [(own_madeB (w := wi) (base := 0) rfl n (by unfold maxLen; omega) (Nat.zero_le _)).cellB hy, visB_none]
          have fvm : (wi.alloc (.cells (madeCells #[.bool false] n) 4)).frozen? ⟨wi.heap.size, y, none⟩ = false := (own_madeB (w := wi) (base := 0) rfl n (by unfold maxLen; omega) (Nat.zero_le _)).frozen y
          have hbi : base ≤ wi.heap.size := by have := HB1.out; omega
          have HFE := Lib.hid (fetch_any hn n (wi.alloc (.cells ((madeCells #[.bool false] n).setIfInBounds y (.bool true)) 4)) base b go c hs2 out2 wi.heap.size ((List.replicate n false).set y true) x (by omega) (HG2.out.later ((Below.refl _ _).alloc (Nat.le_refl _) _)) HGS2.out (own_madeB1 rfl n y (by unfold maxLen; omega) hbi) hx (by simp; omega))
          go_wp2_with (first
            | (go_at_call 111; refine (free_any b go n c x _ m _ f _ cb2 crx hx hm2 HF.out).mono ?_; rintro e w5 ⟨rfl, rfl⟩)
            | (go_at_call 112; refine HFE.out.mono ?_; rintro e w6 ⟨r, out6, vis6, hs6, hfl, rfl, hg6, hv6, hst6, hsame⟩; have R6 := Lib.hid (And.intro hfl (And.intro hg6 (And.intro hst6 hsame))); clear hfl hg6 hv6 hst6 hsame; cases r)
            | fail)
          · obtain ⟨hfl, hg6, hst6, hsame⟩ := R6.out
            obtain ⟨rfl, -, -⟩ := hfl.no HGS2.out.w (by simp) rfl
            obtain rfl := hsame (by simp)
            have hne : rowOf out6 x ≠ [] := fun e => by have := HLM.out; rw [e] at this; simp at this; omega
            go_roundg (2 - (i + 1))
            case measure => omega
            case rel => exact ⟨i + 1, hs6, out6, by go_num, by omega, rfl, HN.out _ (HCT.out _ (.fail hne hfl)), HGS2.out, hg6, HST.out.trans ((GStep.of_below ((Below.refl _ _).alloc (Nat.le_refl _) _)).trans (HST2.out.trans (step_new hst6)))⟩
          · obtain ⟨hfl, hg6, hst6, hsame⟩ := R6.out
            have hne : rowOf out2 x ≠ [] := fun e => by have := HLM.out; rw [e] at this; simp at this; omega
            obtain ⟨k1, k2, k3, k4, k5⟩ := hfl.yes HGS2.out (by simp) hx (by rw [visB_set _ _ _ (by simp; exact hx)]; simp) rfl
            go_roundg (rowOf out6 x).length
            case measure => have := HLM.out; omega
            case rel => exact ⟨hs6, out6, rfl, HGS2.out.of_yes k1 k3 k4, hg6, HST2.out.trans (step_new hst6), fun o ho => HCT.out o (.step hne hfl ho)⟩
    · obtain rfl : i = 2 := by omega
      obtain ⟨out0, l1, l2⟩ := HPR.out
      have cb1 := HG1.out.cell
      obtain ⟨hdp, -, -, crp, -⟩ := HG1.out.row_at hp
      obtain ⟨hdq, -, -, crq, -⟩ := HG1.out.row_at hq
      have hp2 := HGS1.out.two p
      have hq2 := HGS1.out.two q
      generalize hlp : (rowOf out1 p).length = mp at crp hp2
      generalize hlq : (rowOf out1 q).length = mq at crq hq2
      have HLP := Lib.hid hlp
      have HLQ := Lib.hid hlq
      obtain ⟨fp, hfp, hfp0, hfp1⟩ : ∃ f : Int, 2 - (mp : Int) = f ∧ 0 ≤ f ∧ f ≤ 2 := ⟨_, rfl, by omega, by omega⟩
      obtain ⟨fq, hfq, hfq0, hfq1⟩ : ∃ f : Int, 2 - (mq : Int) = f ∧ 0 ≤ f ∧ f ≤ 2 := ⟨_, rfl, by omega, by omega⟩
      have HFP := Lib.hid hfp
      have HFQ := Lib.hid hfq
      clear lits hlp hlq hfp hfq
      go_wp2_with (first
        | (go_at_call 111; (with_reducible refine (free_any b go n c p _ mp _ fp _ cb1 crp hp hp2 HFP.out).mono ?_); rintro e w5 ⟨rfl, rfl⟩)
        | (go_at_call 111; (with_reducible refine (free_any b go n c q _ mq _ fq _ cb1 crq hq hq2 HFQ.out).mono ?_); rintro e w6 ⟨rfl, rfl⟩)
        | fail)
      go_ret
      refine ⟨out0, out1, hs1, l1, l2, ret_int ?_, HG1.out, (GStep.of_below ((Below.refl _ _).alloc (Nat.le_refl _) _)).trans HST.out⟩
      rw [HLP.out, HLQ.out, ← HFP.out, ← HFQ.out]; omega
end Go.Proofs.YtcpkdnhpelkeoaaGreat

namespace Go.Proofs.YtcpkdnhpelkeoaaGreat
set_option linter.unusedVariables false
set_option linter.unusedSimpArgs false

def edAt (es : List (Int × Int)) (k : Nat) : Int × Int := es.getD k (0, 0)
theorem edAt_mem {es : List (Int × Int)} {k : Nat} (h : k < es.length) : edAt es k ∈ es := by
  unfold edAt; rw [List.getD_eq_getElem?_getD, List.getElem?_eq_getElem h]; exact List.getElem_mem h
def choK (es : List (Int × Int)) (k : Nat) : List (Int × Int) := grd [] (es.take k)
def takB (es : List (Int × Int)) (i : Nat) : Bool := indB (choK es i ++ [edAt es i])
def idxK (es : List (Int × Int)) (k : Nat) : List Int := ((List.range k).filter (takB es)).map fun (i : Nat) => (i : Int)
def idxL (es : List (Int × Int)) : List Int := idxK es es.length
theorem choK_zero (es : List (Int × Int)) : choK es 0 = [] := by unfold choK grd; simp
theorem choK_step {es : List (Int × Int)} {k : Nat} (h : k < es.length) : choK es (k + 1) = if takB es k = true then choK es k ++ [edAt es k] else choK es k := by
  have e : es.take (k + 1) = es.take k ++ [edAt es k] := by
    rw [List.take_succ_eq_append_getElem h]
    unfold edAt
    rw [List.getD_eq_getElem?_getD, List.getElem?_eq_getElem h]; rfl
  unfold choK
  rw [e, grd_app]
  have : ∀ I, grd I [edAt es k] = addE I (edAt es k) := fun I => by unfold grd; rw [List.foldl_cons, List.foldl_nil]
  rw [this]
  unfold addE takB choK
  rfl
theorem idxK_zero (es : List (Int × Int)) : idxK es 0 = [] := rfl
theorem idxK_step (es : List (Int × Int)) (k : Nat) : idxK es (k + 1) = if takB es k = true then idxK es k ++ [(k : Int)] else idxK es k := by
  unfold idxK
  rw [List.range_succ, List.filter_append, List.map_append]
  by_cases h : takB es k = true
  · rw [if_pos h]; simp [h]
  · rw [if_neg h]; simp [h]
theorem idxK_len {es : List (Int × Int)} : ∀ {k : Nat}, k ≤ es.length → (idxK es k).length = (choK es k).length := by
  intro k
  induction k with
  | zero => intro _; rw [idxK_zero, choK_zero]; rfl
  | succ k ih =>
    intro hk
    rw [idxK_step, choK_step (by omega)]
    have := ih (by omega)
    split <;> simp [this]
theorem idxL_len (es : List (Int × Int)) : (idxL es).length = rankE es := by
  unfold idxL rankE
  rw [idxK_len (Nat.le_refl _)]
  unfold choK
  rw [List.take_length]
theorem idxK_le (es : List (Int × Int)) (k : Nat) : (idxK es k).length ≤ k := by
  unfold idxK
  rw [List.length_map]
  have := List.length_filter_le (takB es) (List.range k)
  simpa using this
theorem choK_ok {n : Nat} {es : List (Int × Int)} (h : ∀ e ∈ es, OkE n e) : ∀ {k : Nat}, k ≤ es.length → ∀ e ∈ choK es k, OkE n e := by
  intro k
  induction k with
  | zero => intro _ e he; rw [choK_zero] at he; cases he
  | succ k ih =>
    intro hk e he
    rw [choK_step (by omega)] at he
    split at he
    · rw [List.mem_append] at he
      rcases he with he | he
      · exact ih (by omega) e he
      · simp at he; subst he; exact h _ (edAt_mem (by omega))
    · exact ih (by omega) e he
theorem ok60_of {n : Nat} {es : List (Int × Int)} (hn : n ≤ 60) (h : ∀ e ∈ es, OkE n e) : Ok60 es := fun e he => (h e he).mono hn
/-- What accept does to the game. -/
def Acc (n : Nat) (out : List (List Int)) (p q : Nat) (r : Bool) (out' : List (List Int)) : Prop :=
  ∃ out1 out2, GLoop n out p q out1 ∧ GLoop n out1 q p out2 ∧ ((r = true ∧ rowOf out2 p = [] ∧ rowOf out2 q = [] ∧ out' = out2.set p [(q : Int)]) ∨ (r = false ∧ 1 ≤ (rowOf out2 p).length + (rowOf out2 q).length ∧ out' = out2))
theorem Acc.inv {n : Nat} {out out' : List (List Int)} {E : List (Int × Int)} {p q : Nat} {r : Bool} (h : Acc n out p q r out') (hi : GInv n out E) (hn : n ≤ 60) (hp : p < n) (hq : q < n) (hpq : p ≠ q) :
    r = indB (E ++ [((p : Int), (q : Int))]) ∧ GInv n out' (if r = true then E ++ [((p : Int), (q : Int))] else E) ∧ (r = false → ∃ V, Tight out' p q V ∧ 2 * (cntB n V : Int) - 3 ≤ spanS E V) := by
  obtain ⟨out1, out2, h1, h2, h3⟩ := h
  have hi2 := hi.gather hp hq hpq h1 h2
  have hok : Ok60 (E ++ [((p : Int), (q : Int))]) := (ok60_of hn hi.ok).app (Ok60.one ⟨by omega, by simp; omega, by omega, by simp; omega, by simp; omega⟩)
  rcases h3 with ⟨rfl, e1, e2, rfl⟩ | ⟨rfl, h4, rfl⟩
  · obtain ⟨k1, k2⟩ := hi2.yes hn hp hq hpq e1 e2
    exact ⟨((indB_iff hok).2 k1).symm, by rw [if_pos rfl]; exact k2, fun h => by cases h⟩
  · rcases gather_stop hi.gs hp hq hpq h1 h2 with ⟨e1, e2⟩ | ⟨V, hV⟩
    · rw [e1, e2] at h4; simp at h4
    · have hno := hi2.no hn hp hq hpq hV h4
      refine ⟨?_, by rw [if_neg (by simp)]; exact hi2, fun _ => ⟨V, hV, hi2.span hp hq hpq hV h4⟩⟩
      cases hb : indB (E ++ [((p : Int), (q : Int))])
      · rfl
      · exact absurd ((indB_iff hok).1 hb) hno
end Go.Proofs.YtcpkdnhpelkeoaaGreat

namespace Go.Proofs.YtcpkdnhpelkeoaaGreat
set_option linter.unusedVariables false
set_option linter.unusedSimpArgs false

def endOf (es : List (Int × Int)) (i t : Nat) : Nat := if t = 0 then (edAt es i).1.toNat else (edAt es i).2.toNat
/-- mode false: a place for edge x, from its end number t on; mode true: a new place for one of the edges at x, from number t on. -/
inductive AL (es : List (Int × Int)) : Bool → List (List Int) → List Int → List Bool → Nat → Nat → Option Nat → List (List Int) → List Int → List Bool → Prop
  | outDone {ld : List (List Int)} {tl : List Int} {vis : List Bool} {i t : Nat} : 2 ≤ t → AL es false ld tl vis i t none ld tl vis
  | outSkip {ld : List (List Int)} {tl : List Int} {vis : List Bool} {i t : Nat} {r : Option Nat} {ld' : List (List Int)} {tl' : List Int} {vis' : List Bool} : t < 2 → visB vis (endOf es i t) = true → AL es false ld tl vis i (t + 1) r ld' tl' vis' → AL es false ld tl vis i t r ld' tl' vis'
  | outFree {ld : List (List Int)} {tl : List Int} {vis : List Bool} {i t v : Nat} : t < 2 → endOf es i t = v → visB vis v = false → (rowOf ld v).length < 2 → AL es false ld tl vis i t (some 0) (ld.set v (rowOf ld v ++ [(i : Int)])) (tl.set i (v : Int)) (vis.set v true)
  | outHit {ld : List (List Int)} {tl : List Int} {vis : List Bool} {i t v k : Nat} {ld1 : List (List Int)} {tl1 : List Int} {vis1 : List Bool} : t < 2 → endOf es i t = v → visB vis v = false → 2 ≤ (rowOf ld v).length → AL es true ld tl (vis.set v true) v 0 (some k) ld1 tl1 vis1 → AL es false ld tl vis i t (some 0) (ld1.set v ((rowOf ld1 v).set k (i : Int))) (tl1.set i (v : Int)) vis1
  | outMiss {ld : List (List Int)} {tl : List Int} {vis : List Bool} {i t v : Nat} {ld1 : List (List Int)} {tl1 : List Int} {vis1 : List Bool} {r : Option Nat} {ld' : List (List Int)} {tl' : List Int} {vis' : List Bool} : t < 2 → endOf es i t = v → visB vis v = false → 2 ≤ (rowOf ld v).length → AL es true ld tl (vis.set v true) v 0 none ld1 tl1 vis1 → AL es false ld1 tl1 vis1 i (t + 1) r ld' tl' vis' → AL es false ld tl vis i t r ld' tl' vis'
  | inDone {ld : List (List Int)} {tl : List Int} {vis : List Bool} {v k : Nat} : (rowOf ld v).length ≤ k → AL es true ld tl vis v k none ld tl vis
  | inHit {ld : List (List Int)} {tl : List Int} {vis : List Bool} {v k j : Nat} {ld1 : List (List Int)} {tl1 : List Int} {vis1 : List Bool} : (rowOf ld v)[k]? = some (j : Int) → AL es false ld tl vis j 0 (some 0) ld1 tl1 vis1 → AL es true ld tl vis v k (some k) ld1 tl1 vis1
  | inMiss {ld : List (List Int)} {tl : List Int} {vis : List Bool} {v k j : Nat} {ld1 : List (List Int)} {tl1 : List Int} {vis1 : List Bool} {r : Option Nat} {ld' : List (List Int)} {tl' : List Int} {vis' : List Bool} : (rowOf ld v)[k]? = some (j : Int) → AL es false ld tl vis j 0 none ld1 tl1 vis1 → AL es true ld1 tl1 vis1 v (k + 1) r ld' tl' vis' → AL es true ld tl vis v k r ld' tl' vis'

theorem vset_mono' (vis : List Bool) (b x : Nat) (h : visB vis x = true) : visB (vis.set b true) x = true := by
  unfold visB at h ⊢
  rw [List.getD_eq_getElem?_getD, List.getElem?_set]
  rw [List.getD_eq_getElem?_getD] at h
  split
  · split
    · rfl
    · rename_i h1 h2; rw [← h1, List.getElem?_eq_none (by omega)] at h; simp at h
  · exact h
section
variable {es : List (Int × Int)} {md : Bool} {ld : List (List Int)} {tl : List Int} {vis : List Bool} {x t : Nat} {r : Option Nat} {ld' : List (List Int)} {tl' : List Int} {vis' : List Bool}
theorem AL.vlen (h : AL es md ld tl vis x t r ld' tl' vis') : vis'.length = vis.length := by
  induction h with
  | outDone => rfl
  | outSkip _ _ _ ih => exact ih
  | outFree => simp
  | outHit _ _ _ _ _ ih => rw [ih]; simp
  | outMiss _ _ _ _ _ _ ih1 ih2 => rw [ih2, ih1]; simp
  | inDone => rfl
  | inHit _ _ ih => exact ih
  | inMiss _ _ _ ih1 ih2 => rw [ih2, ih1]
theorem AL.vmono (h : AL es md ld tl vis x t r ld' tl' vis') : ∀ y, visB vis y = true → visB vis' y = true := by
  induction h with
  | outDone => exact fun _ h => h
  | outSkip _ _ _ ih => exact ih
  | outFree => exact fun y hy => vset_mono' _ _ _ hy
  | outHit _ _ _ _ _ ih => exact fun y hy => ih y (vset_mono' _ _ _ hy)
  | outMiss _ _ _ _ _ _ ih1 ih2 => exact fun y hy => ih2 y (ih1 y (vset_mono' _ _ _ hy))
  | inDone => exact fun _ h => h
  | inHit _ _ ih => exact ih
  | inMiss _ _ _ ih1 ih2 => exact fun y hy => ih2 y (ih1 y hy)
/-- Both ends of edge j are visited. -/
def EV (es : List (Int × Int)) (vis : List Bool) (j : Nat) : Prop := visB vis (endOf es j 0) = true ∧ visB vis (endOf es j 1) = true
theorem EV.mono {vis vis' : List Bool} {j : Nat} (h : EV es vis j) (hm : ∀ y, visB vis y = true → visB vis' y = true) : EV es vis' j := ⟨hm _ h.1, hm _ h.2⟩
end
/-- The lists are in order at the points that are not visited. -/
structure AInv (n M : Nat) (es : List (Int × Int)) (ld : List (List Int)) (tl : List Int) (vis : List Bool) : Prop where
  llen : ld.length = n
  tlen : tl.length = M
  two : ∀ v, v < n → visB vis v = false → (rowOf ld v).length ≤ 2
  nod : ∀ v, v < n → visB vis v = false → (rowOf ld v).Nodup
  at_ : ∀ v, v < n → visB vis v = false → ∀ j ∈ rowOf ld v, ∃ k : Nat, j = (k : Int) ∧ k < M ∧ tl.getD k 0 = (v : Int) ∧ (endOf es k 0 = v ∨ endOf es k 1 = v)
/-- The rows hold numbers of edges. -/
def RowsNat (M : Nat) (ld : List (List Int)) : Prop := ∀ v, ∀ j ∈ rowOf ld v, 0 ≤ j ∧ j < M
theorem endOf_lt {n : Nat} {es : List (Int × Int)} (h : ∀ e ∈ es, OkE n e) {i t : Nat} (hi : i < es.length) : endOf es i t < n := by
  obtain ⟨h1, h2, h3, h4, h5⟩ := h _ (edAt_mem hi)
  unfold endOf; split <;> omega
theorem AL.no {es : List (Int × Int)} {md : Bool} {ld : List (List Int)} {tl : List Int} {vis : List Bool} {x t : Nat} {r : Option Nat} {ld' : List (List Int)} {tl' : List Int} {vis' : List Bool} {n : Nat} (hok : ∀ e ∈ es, OkE n e) (h : AL es md ld tl vis x t r ld' tl' vis') : RowsNat es.length ld → vis.length = n → (md = false → x < es.length) → r = none →
    ld' = ld ∧ tl' = tl ∧ (md = false → ∀ s, t ≤ s → s < 2 → visB vis' (endOf es x s) = true) ∧ (md = true → ∀ (k : Nat) (j : Nat), t ≤ k → (rowOf ld x)[k]? = some (j : Int) → EV es vis' j) ∧
      ∀ y, visB vis' y = true → visB vis y = false → 2 ≤ (rowOf ld y).length ∧ ∀ j : Nat, (j : Int) ∈ rowOf ld y → EV es vis' j := by
  induction h with
  | outDone h => exact fun _ _ _ _ => ⟨rfl, rfl, fun _ s h1 h2 => by omega, fun h => (by cases h), fun y h1 h2 => (by rw [h1] at h2; cases h2)⟩
  | @outSkip ld tl vis i t r ld' tl' vis' h1 h2 h3 ih =>
    intro hr hv hx hn
    obtain ⟨k1, k2, k3, -, k5⟩ := ih hr hv hx hn
    refine ⟨k1, k2, fun _ s hs hs2 => ?_, fun h => (by cases h), k5⟩
    by_cases e : s = t
    · subst e; exact h3.vmono _ h2
    · exact k3 rfl s (by omega) hs2
  | outFree => intro _ _ _ hn; cases hn
  | outHit => intro _ _ _ hn; cases hn
  | @outMiss ld tl vis i t v ld1 tl1 vis1 r ld' tl' vis' h1 h2 h3 h4 h5 h6 ih1 ih2 =>
    intro hr hv hx hn
    have hvn : v < n := by rw [← h2]; exact endOf_lt hok (hx rfl)
    obtain ⟨rfl, rfl, -, k4, k5⟩ := ih1 hr (by simpa using hv) (fun h => by cases h) rfl
    obtain ⟨m1, m2, m3, -, m5⟩ := ih2 hr (by rw [h5.vlen]; simpa using hv) hx hn
    have hvv : visB vis1 v = true := h5.vmono v (by rw [visB_set _ _ _ (by omega)]; simp)
    refine ⟨m1, m2, fun _ s hs hs2 => ?_, fun h => (by cases h), fun y hy hy0 => ?_⟩
    · by_cases e : s = t
      · subst e; rw [h2]; exact h6.vmono _ hvv
      · exact m3 rfl s (by omega) hs2
    · cases hy1 : visB vis1 y
      · exact m5 y hy hy1
      · by_cases e : y = v
        · subst e
          refine ⟨h4, fun j hj => ?_⟩
          obtain ⟨k, hk, he⟩ := List.getElem_of_mem hj
          exact (k4 rfl k j (Nat.zero_le _) (by rw [List.getElem?_eq_getElem hk, he])).mono h6.vmono
        · obtain ⟨q1, q2⟩ := k5 y hy1 (by rw [visB_set _ _ _ (by omega), hy0]; simp [e])
          exact ⟨q1, fun j hj => (q2 j hj).mono h6.vmono⟩
  | inDone h => exact fun _ _ _ _ => ⟨rfl, rfl, fun h => (by cases h), fun _ k j h1 h2 => (by have := getI_lt h2; omega), fun y h1 h2 => (by rw [h1] at h2; cases h2)⟩
  | inHit => intro _ _ _ hn; cases hn
  | @inMiss ld tl vis v k j ld1 tl1 vis1 r ld' tl' vis' h1 h2 h3 ih1 ih2 =>
    intro hr hv hx hn
    have hj := hr v _ (getI_mem h1)
    obtain ⟨rfl, rfl, k3, -, k5⟩ := ih1 hr hv (fun _ => by omega) rfl
    obtain ⟨m1, m2, -, m4, m5⟩ := ih2 hr (by rw [h2.vlen]; exact hv) (fun h => by cases h) hn
    refine ⟨m1, m2, fun h => (by cases h), fun _ k' j' hk' hj' => ?_, fun y hy hy0 => ?_⟩
    · by_cases e : k' = k
      · subst e
        rw [h1] at hj'
        have e2 : j = j' := by injection hj' with hj'; omega
        subst e2
        exact EV.mono ⟨k3 rfl 0 (by omega) (by omega), k3 rfl 1 (by omega) (by omega)⟩ h3.vmono
      · exact m4 rfl k' j' (by omega) hj'
    · cases hy1 : visB vis1 y
      · exact m5 y hy hy1
      · obtain ⟨q1, q2⟩ := k5 y hy1 hy0
        exact ⟨q1, fun j hj => (q2 j hj).mono h3.vmono⟩

/-- A place for edge i has been found at a point that was not visited. -/
structure AYes (n M : Nat) (es : List (Int × Int)) (ld : List (List Int)) (tl : List Int) (vis : List Bool) (i : Nat) (ld' : List (List Int)) (tl' : List Int) : Prop where
  inv : AInv n M es ld' tl' vis
  same : ∀ v, visB vis v = true → rowOf ld' v = rowOf ld v
  tsame : ∀ j : Nat, j ≠ i → (∀ v, v < n → visB vis v = false → ¬ (j : Int) ∈ rowOf ld v) → tl'.getD j 0 = tl.getD j 0
  put : ∃ v, v < n ∧ visB vis v = false ∧ (i : Int) ∈ rowOf ld' v
  old : ∀ v, v < n → visB vis v = false → ∀ j ∈ rowOf ld v, ∃ u, u < n ∧ visB vis u = false ∧ j ∈ rowOf ld' u
  new : ∀ v, v < n → visB vis v = false → ∀ j ∈ rowOf ld' v, j = (i : Int) ∨ ∃ u, u < n ∧ visB vis u = false ∧ j ∈ rowOf ld u
theorem AInv.more {n M : Nat} {es : List (Int × Int)} {ld : List (List Int)} {tl : List Int} {vis vis' : List Bool} (h : AInv n M es ld tl vis) (hm : ∀ y, visB vis y = true → visB vis' y = true) : AInv n M es ld tl vis' := by
  have key : ∀ v, visB vis' v = false → visB vis v = false := fun v hv => by
    cases e : visB vis v
    · rfl
    · rw [hm v e] at hv; cases hv
  exact ⟨h.llen, h.tlen, fun v h1 h2 => h.two v h1 (key v h2), fun v h1 h2 => h.nod v h1 (key v h2), fun v h1 h2 => h.at_ v h1 (key v h2)⟩
/-- What was found among fewer points serves for more. -/
theorem AYes.wider {n M : Nat} {es : List (Int × Int)} {ld : List (List Int)} {tl : List Int} {vis vis1 : List Bool} {i : Nat} {ld' : List (List Int)} {tl' : List Int} (hi : AInv n M es ld tl vis) (hno : ∀ v, v < n → visB vis v = false → ¬ (i : Int) ∈ rowOf ld v)
    (hm : ∀ y, visB vis y = true → visB vis1 y = true) (h : AYes n M es ld tl vis1 i ld' tl') : AYes n M es ld tl vis i ld' tl' := by
  have key : ∀ v, visB vis1 v = false → visB vis v = false := fun v hv => by
    cases e : visB vis v
    · rfl
    · rw [hm v e] at hv; cases hv
  have tk : ∀ v, v < n → visB vis v = false → visB vis1 v = true → ∀ j : Nat, (j : Int) ∈ rowOf ld v → tl'.getD j 0 = tl.getD j 0 := fun v hv h0 h1 j hj => by
    refine h.tsame j (fun e => hno v hv h0 (e ▸ hj)) (fun u hu hu1 hju => ?_)
    obtain ⟨k, e1, -, e2, -⟩ := hi.at_ v hv h0 _ hj
    obtain ⟨k', e3, -, e4, -⟩ := hi.at_ u hu (key u hu1) _ hju
    have : k = k' := by omega
    subst this
    rw [e2] at e4
    have : v = u := by omega
    subst this
    rw [h1] at hu1; cases hu1
  refine ⟨⟨h.inv.llen, h.inv.tlen, fun v hv h0 => ?_, fun v hv h0 => ?_, fun v hv h0 j hj => ?_⟩, fun v hv => h.same v (hm v hv), fun j hj hn => h.tsame j hj (fun u hu hu1 => hn u hu (key u hu1)), ?_, fun v hv h0 j hj => ?_, fun v hv h0 j hj => ?_⟩
  · cases e : visB vis1 v
    · exact h.inv.two v hv e
    · rw [h.same v e]; exact hi.two v hv h0
  · cases e : visB vis1 v
    · exact h.inv.nod v hv e
    · rw [h.same v e]; exact hi.nod v hv h0
  · cases e : visB vis1 v
    · exact h.inv.at_ v hv e j hj
    · rw [h.same v e] at hj
      obtain ⟨k, rfl, e1, e2, e3⟩ := hi.at_ v hv h0 j hj
      exact ⟨k, rfl, e1, by rw [tk v hv h0 e k hj]; exact e2, e3⟩
  · obtain ⟨v, h1, h2, h3⟩ := h.put
    exact ⟨v, h1, key v h2, h3⟩
  · cases e : visB vis1 v
    · obtain ⟨u, h1, h2, h3⟩ := h.old v hv e j hj
      exact ⟨u, h1, key u h2, h3⟩
    · exact ⟨v, hv, h0, by rw [h.same v e]; exact hj⟩
  · cases e : visB vis1 v
    · rcases h.new v hv e j hj with h1 | ⟨u, h1, h2, h3⟩
      · exact .inl h1
      · exact .inr ⟨u, h1, key u h2, h3⟩
    · rw [h.same v e] at hj
      exact .inr ⟨v, hv, h0, hj⟩
theorem getD_set_nat {tl : List Int} {i j : Nat} {x : Int} (hi : i < tl.length) : (tl.set i x).getD j 0 = if j = i then x else tl.getD j 0 := by
  rw [List.getD_eq_getElem?_getD, List.getElem?_set, List.getD_eq_getElem?_getD]
  by_cases e : j = i
  · subst e; simp [hi]
  · rw [if_neg (Ne.symm e), if_neg e]
theorem nodup_set {l : List Int} {k : Nat} {x : Int} (h : l.Nodup) (hx : ¬ x ∈ l) : (l.set k x).Nodup := by
  induction l generalizing k with
  | nil => simp
  | cons y l ih =>
    rw [List.nodup_cons] at h
    simp only [List.mem_cons, not_or] at hx
    cases k with
    | zero => rw [List.set_cons_zero, List.nodup_cons]; exact ⟨hx.2, h.2⟩
    | succ k =>
      rw [List.set_cons_succ, List.nodup_cons]
      refine ⟨fun hm => ?_, ih h.2 hx.2⟩
      rcases List.mem_or_eq_of_mem_set hm with h1 | h1
      · exact h.1 h1
      · exact hx.1 h1.symm
theorem mem_set_ne {l : List Int} {k : Nat} {x y z : Int} (h : l.Nodup) (hk : l[k]? = some z) (hy : y ∈ l.set k x) : y = x ∨ (y ∈ l ∧ y ≠ z) := by
  induction l generalizing k with
  | nil => simp at hk
  | cons a l ih =>
    rw [List.nodup_cons] at h
    cases k with
    | zero =>
      simp at hk; subst hk
      rw [List.set_cons_zero, List.mem_cons] at hy
      rcases hy with hy | hy
      · exact .inl hy
      · exact .inr ⟨by simp [hy], fun e => h.1 (e ▸ hy)⟩
    | succ k =>
      rw [List.set_cons_succ, List.mem_cons] at hy
      have hz : l[k]? = some z := by simpa using hk
      rcases hy with hy | hy
      · exact .inr ⟨by simp [hy], fun e => h.1 (by rw [← hy, e]; exact List.mem_of_getElem? hz)⟩
      · rcases ih h.2 hz hy with h1 | ⟨h1, h2⟩
        · exact .inl h1
        · exact .inr ⟨by simp [h1], h2⟩
theorem mem_set_of {l : List Int} {k : Nat} {x y z : Int} (hk : l[k]? = some z) (hy : y ∈ l) (hne : y ≠ z) : y ∈ l.set k x := by
  induction l generalizing k with
  | nil => simp at hy
  | cons a l ih =>
    cases k with
    | zero =>
      simp at hk; subst hk
      rw [List.mem_cons] at hy
      rcases hy with hy | hy
      · exact absurd hy hne
      · rw [List.set_cons_zero]; simp [hy]
    | succ k =>
      rw [List.mem_cons] at hy
      rw [List.set_cons_succ, List.mem_cons]
      rcases hy with hy | hy
      · exact .inl hy
      · exact .inr (ih (by simpa using hk) hy)
end Go.Proofs.YtcpkdnhpelkeoaaGreat

namespace Go.Proofs.YtcpkdnhpelkeoaaGreat
set_option linter.unusedVariables false
set_option linter.unusedSimpArgs false

theorem rowOf_set' (ld : List (List Int)) (a x : Nat) (r : List Int) (ha : a < ld.length) : rowOf (ld.set a r) x = if x = a then r else rowOf ld x := rowOf_set ld a x r ha
theorem AL.yes {es : List (Int × Int)} {md : Bool} {ld : List (List Int)} {tl : List Int} {vis : List Bool} {x t : Nat} {r : Option Nat} {ld' : List (List Int)} {tl' : List Int} {vis' : List Bool} {n : Nat} (hok : ∀ e ∈ es, OkE n e) (h : AL es md ld tl vis x t r ld' tl' vis') : RowsNat es.length ld → vis.length = n → AInv n es.length es ld tl vis →
    (md = false → x < es.length ∧ (∀ v, v < n → visB vis v = false → ¬ (x : Int) ∈ rowOf ld v) → ∀ k, r = some k → AYes n es.length es ld tl vis x ld' tl') ∧
    (md = true → visB vis x = true ∧ (∀ j ∈ rowOf ld x, ∀ v, v < n → visB vis v = false → ¬ j ∈ rowOf ld v) → ∀ k, r = some k → ∃ j : Nat, (rowOf ld x)[k]? = some (j : Int) ∧ AYes n es.length es ld tl vis j ld' tl') := by
  induction h with
  | outDone => exact fun _ _ _ => ⟨fun _ _ k hk => (by cases hk), fun h => (by cases h)⟩
  | outSkip h1 h2 h3 ih =>
    intro hr hv hi
    exact ⟨(ih hr hv hi).1, fun h => (by cases h)⟩
  | @outFree ld tl vis i t v h1 h2 h3 h4 =>
    intro hr hv hi
    refine ⟨fun _ ⟨hx, hno⟩ k _ => ?_, fun h => (by cases h)⟩
    have hvn : v < n := by rw [← h2]; exact endOf_lt hok hx
    have hvl : v < ld.length := by rw [hi.llen]; exact hvn
    have hil : i < tl.length := by rw [hi.tlen]; exact hx
    have hnv := hno v hvn h3
    have hne : ∀ u, u < n → visB vis u = false → ∀ j : Nat, (j : Int) ∈ rowOf ld u → j ≠ i := fun u hu h0 j hj e => hno u hu h0 (e ▸ hj)
    refine ⟨⟨by rw [List.length_set]; exact hi.llen, by rw [List.length_set]; exact hi.tlen, fun u hu h0 => ?_, fun u hu h0 => ?_, fun u hu h0 j hj => ?_⟩, fun u hu => ?_, fun j hj hn => ?_, ⟨v, hvn, h3, ?_⟩, fun u hu h0 j hj => ⟨u, hu, h0, ?_⟩, fun u hu h0 j hj => ?_⟩
    · rw [rowOf_set _ _ _ _ hvl]; split
      · simp; omega
      · exact hi.two u hu h0
    · rw [rowOf_set _ _ _ _ hvl]; split
      · rw [List.nodup_append]
        exact ⟨hi.nod v hvn h3, by simp, fun a ha b hb e => by simp at hb; subst hb; subst e; exact hnv ha⟩
      · exact hi.nod u hu h0
    · rw [rowOf_set _ _ _ _ hvl] at hj
      have keep : ∀ u, u < n → visB vis u = false → ∀ j ∈ rowOf ld u, ∃ k : Nat, j = (k : Int) ∧ k < es.length ∧ (tl.set i (v : Int)).getD k 0 = (u : Int) ∧ (endOf es k 0 = u ∨ endOf es k 1 = u) := fun u hu h0 j hj => by
        obtain ⟨k, rfl, e1, e2, e3⟩ := hi.at_ u hu h0 j hj
        exact ⟨k, rfl, e1, by rw [getD_set_nat hil, if_neg (hne u hu h0 k hj : ¬ k = i)]; exact e2, e3⟩
      split at hj
      · rename_i e
        subst e
        rw [List.mem_append] at hj
        rcases hj with hj | hj
        · exact keep u hu h0 j hj
        · simp at hj
          subst hj
          refine ⟨i, rfl, hx, by rw [getD_set_nat hil, if_pos rfl], ?_⟩
          rw [← h2]
          rcases (show t = 0 ∨ t = 1 by omega) with rfl | rfl
          · exact .inl rfl
          · exact .inr rfl
      · exact keep u hu h0 j hj
    · rw [rowOf_set _ _ _ _ hvl, if_neg (fun e => by rw [e, h3] at hu; cases hu)]
    · rw [getD_set_nat hil, if_neg hj]
    · rw [rowOf_set _ _ _ _ hvl, if_pos rfl]; simp
    · rw [rowOf_set _ _ _ _ hvl]; split
      · rename_i e; subst e; simp [hj]
      · exact hj
    · rw [rowOf_set _ _ _ _ hvl] at hj
      split at hj
      · rename_i e
        subst e
        rw [List.mem_append] at hj
        rcases hj with hj | hj
        · exact .inr ⟨u, hu, h0, hj⟩
        · simp at hj; exact .inl hj
      · exact .inr ⟨u, hu, h0, hj⟩
  | @outHit ld tl vis i t v k0 ld1 tl1 vis1 h1 h2 h3 h4 h5 ih =>
    intro hr hv hi
    refine ⟨fun _ ⟨hx, hno⟩ k _ => ?_, fun h => (by cases h)⟩
    have hvn : v < n := by rw [← h2]; exact endOf_lt hok hx
    have hm : ∀ y, visB vis y = true → visB (vis.set v true) y = true := fun y hy => vset_mono' _ _ _ hy
    have hvv : visB (vis.set v true) v = true := by rw [visB_set _ _ _ (by omega)]; simp
    have hun : ∀ u, visB (vis.set v true) u = false → visB vis u = false ∧ u ≠ v := fun u hu => by
      rw [visB_set _ _ _ (by omega), Bool.or_eq_false_iff] at hu
      exact ⟨hu.2, by simpa using hu.1⟩
    have hun' : ∀ u, visB vis u = false → u ≠ v → visB (vis.set v true) u = false := fun u hu hne => by
      rw [visB_set _ _ _ (by omega), hu]; simp [hne]
    have hown : ∀ j ∈ rowOf ld v, ∀ u, u < n → visB (vis.set v true) u = false → ¬ j ∈ rowOf ld u := fun j hj u hu hu1 hju => by
      obtain ⟨a1, a2⟩ := hun u hu1
      obtain ⟨k, rfl, -, e2, -⟩ := hi.at_ v hvn h3 j hj
      obtain ⟨k', e3, -, e4, -⟩ := hi.at_ u hu a1 _ hju
      have : k = k' := by omega
      subst this
      rw [e2] at e4
      exact a2 (by omega)
    obtain ⟨j0, hj0, hy⟩ := (ih hr (by simpa using hv) (hi.more hm)).2 rfl ⟨hvv, hown⟩ k0 rfl
    have hrow : rowOf ld1 v = rowOf ld v := hy.same v hvv
    have hvl : v < ld1.length := by rw [hy.inv.llen]; exact hvn
    have hil : i < tl1.length := by rw [hy.inv.tlen]; exact hx
    have hnv := hno v hvn h3
    have hj0m := getI_mem hj0
    have hj0i : j0 ≠ i := fun e => hnv (e ▸ hj0m)
    have hnd := hi.nod v hvn h3
    have hnew_i : ∀ u, u < n → visB (vis.set v true) u = false → ∀ j : Nat, (j : Int) ∈ rowOf ld1 u → j ≠ i := fun u hu h0 j hj e => by
      subst e
      rcases hy.new u hu h0 _ hj with e | ⟨u', hu', h0', hj'⟩
      · exact hj0i (by omega)
      · exact hno u' hu' (hun u' h0').1 hj'
    have htl : ∀ j : Nat, (j : Int) ∈ rowOf ld v → j ≠ j0 → tl1.getD j 0 = tl.getD j 0 := fun j hj hne => hy.tsame j hne (fun u hu h0 => hown _ hj u hu h0)
    rw [hrow]
    refine ⟨⟨by rw [List.length_set]; exact hy.inv.llen, by rw [List.length_set]; exact hy.inv.tlen, fun u hu h0 => ?_, fun u hu h0 => ?_, fun u hu h0 j hj => ?_⟩, fun u hu => ?_, fun j hj hn => ?_, ⟨v, hvn, h3, ?_⟩, fun u hu h0 j hj => ?_, fun u hu h0 j hj => ?_⟩
    · rw [rowOf_set _ _ _ _ hvl]; split
      · rw [List.length_set]; exact hi.two v hvn h3
      · rename_i e; exact hy.inv.two u hu (hun' u h0 e)
    · rw [rowOf_set _ _ _ _ hvl]; split
      · exact nodup_set hnd hnv
      · rename_i e; exact hy.inv.nod u hu (hun' u h0 e)
    · rw [rowOf_set _ _ _ _ hvl] at hj
      split at hj
      · rename_i e
        subst e
        rcases mem_set_ne hnd hj0 hj with rfl | ⟨hm2, hne⟩
        · refine ⟨i, rfl, hx, by rw [getD_set_nat hil, if_pos rfl], ?_⟩
          rw [← h2]
          rcases (show t = 0 ∨ t = 1 by omega) with rfl | rfl
          · exact .inl rfl
          · exact .inr rfl
        · obtain ⟨q, rfl, e1, e2, e3⟩ := hi.at_ u hu h0 j hm2
          exact ⟨q, rfl, e1, by rw [getD_set_nat hil, if_neg (fun (e : q = i) => hnv (e ▸ hm2)), htl q hm2 (fun (e : q = j0) => hne (by rw [e]))]; exact e2, e3⟩
      · rename_i e
        obtain ⟨q, rfl, e1, e2, e3⟩ := hy.inv.at_ u hu (hun' u h0 e) j hj
        exact ⟨q, rfl, e1, by rw [getD_set_nat hil, if_neg (hnew_i u hu (hun' u h0 e) q hj : ¬ q = i)]; exact e2, e3⟩
    · rw [rowOf_set _ _ _ _ hvl, if_neg (fun e => by rw [e, h3] at hu; cases hu)]
      exact hy.same u (hm u hu)
    · rw [getD_set_nat hil, if_neg hj]
      exact hy.tsame j (fun e => hn v hvn h3 (e ▸ hj0m)) (fun u hu h0 => hn u hu (hun u h0).1)
    · rw [rowOf_set _ _ _ _ hvl, if_pos rfl]
      exact List.mem_of_getElem? (by rw [List.getElem?_set, if_pos rfl, if_pos (getI_lt hj0)])
    · by_cases e : u = v
      · subst e
        by_cases e2 : j = (j0 : Int)
        · obtain ⟨u', b1, b2, b3⟩ := hy.put
          refine ⟨u', b1, (hun u' b2).1, ?_⟩
          rw [rowOf_set _ _ _ _ hvl, if_neg (hun u' b2).2, e2]; exact b3
        · refine ⟨u, hu, h0, ?_⟩
          rw [rowOf_set _ _ _ _ hvl, if_pos rfl]
          exact mem_set_of hj0 hj e2
      · obtain ⟨u', b1, b2, b3⟩ := hy.old u hu (hun' u h0 e) j hj
        refine ⟨u', b1, (hun u' b2).1, ?_⟩
        rw [rowOf_set _ _ _ _ hvl, if_neg (hun u' b2).2]; exact b3
    · rw [rowOf_set _ _ _ _ hvl] at hj
      split at hj
      · rename_i e
        subst e
        rcases mem_set_ne hnd hj0 hj with h' | ⟨hm2, -⟩
        · exact .inl h'
        · exact .inr ⟨u, hu, h0, hm2⟩
      · rename_i e
        rcases hy.new u hu (hun' u h0 e) j hj with h' | ⟨u', b1, b2, b3⟩
        · exact .inr ⟨v, hvn, h3, by rw [h']; exact hj0m⟩
        · exact .inr ⟨u', b1, (hun u' b2).1, b3⟩
  | @outMiss ld tl vis i t v ld1 tl1 vis1 r ld' tl' vis' h1 h2 h3 h4 h5 h6 ih1 ih2 =>
    intro hr hv hi
    refine ⟨fun _ ⟨hx, hno⟩ k hk => ?_, fun h => (by cases h)⟩
    obtain ⟨rfl, rfl, -, -, -⟩ := h5.no hok hr (by simpa using hv) (fun h => by cases h) rfl
    have hm : ∀ y, visB vis y = true → visB vis1 y = true := fun y hy => h5.vmono y (vset_mono' _ _ _ hy)
    have key : ∀ u, visB vis1 u = false → visB vis u = false := fun u hu => by
      cases e : visB vis u
      · rfl
      · rw [hm u e] at hu; cases hu
    have := (ih2 hr (by rw [h5.vlen]; simpa using hv) (hi.more hm)).1 rfl ⟨hx, fun u hu h0 => hno u hu (key u h0)⟩ k hk
    exact this.wider hi hno hm
  | inDone => exact fun _ _ _ => ⟨fun h => (by cases h), fun _ _ k hk => (by cases hk)⟩
  | @inHit ld tl vis v k j ld1 tl1 vis1 h1 h2 ih =>
    intro hr hv hi
    refine ⟨fun h => (by cases h), fun _ ⟨hvv, hown⟩ k' hk' => ?_⟩
    obtain rfl := Option.some.inj hk'
    have hj := hr v _ (getI_mem h1)
    exact ⟨j, h1, (ih hr hv hi).1 rfl ⟨by omega, hown _ (getI_mem h1)⟩ 0 rfl⟩
  | @inMiss ld tl vis v k j ld1 tl1 vis1 r ld' tl' vis' h1 h2 h3 ih1 ih2 =>
    intro hr hv hi
    refine ⟨fun h => (by cases h), fun _ ⟨hvv, hown⟩ k' hk' => ?_⟩
    have hj := hr v _ (getI_mem h1)
    obtain ⟨rfl, rfl, -, -, -⟩ := h2.no hok hr hv (fun _ => by omega) rfl
    have hm := h2.vmono
    have key : ∀ u, visB vis1 u = false → visB vis u = false := fun u hu => by
      cases e : visB vis u
      · rfl
      · rw [hm u e] at hu; cases hu
    obtain ⟨j', hj', hy⟩ := (ih2 hr (by rw [h2.vlen]; exact hv) (hi.more hm)).2 rfl ⟨hm v hvv, fun q hq u hu h0 => hown q hq u hu (key u h0)⟩ k' hk'
    exact ⟨j', hj', hy.wider hi (hown _ (getI_mem hj')) hm⟩
end Go.Proofs.YtcpkdnhpelkeoaaGreat

namespace Go.Proofs.YtcpkdnhpelkeoaaGreat
set_option linter.unusedVariables false
set_option linter.unusedSimpArgs false

theorem cntB_pair {n p q S : Nat} (hp : p < n) (hq : q < n) (hpq : p ≠ q) (h1 : S.testBit p = true) (h2 : S.testBit q = true) : 2 ≤ cntB n S := by
  unfold cntB
  have h3 : (List.range n).countP (fun i => decide (p = i)) + (List.range n).countP (fun i => decide (q = i)) ≤ (List.range n).countP (fun i => S.testBit i) := by
    have := countP_or_and (fun i => decide (p = i)) (fun i => decide (q = i)) (List.range n)
    have h0 : (List.range n).countP (fun i => decide (p = i) && decide (q = i)) = 0 := by
      rw [List.countP_eq_zero]; intro i _; simp; intro e; omega
    rw [h0, Nat.add_zero] at this
    rw [← this]
    refine List.countP_mono_left (fun i _ hi => ?_)
    simp at hi
    rcases hi with rfl | rfl <;> assumption
  rw [countP_eq_range n p hp, countP_eq_range n q hq] at h3
  exact h3
theorem nodup_len_le {α : Type} [DecidableEq α] : ∀ (l r : List α), l.Nodup → (∀ x ∈ l, x ∈ r) → l.length ≤ r.length
  | [], r, _, _ => Nat.zero_le _
  | a :: l, r, h, hm => by
    rw [List.nodup_cons] at h
    have ha := hm a (by simp)
    have ih := nodup_len_le l (r.erase a) h.2 (fun x hx => by
      have hne : x ≠ a := fun e => h.1 (e ▸ hx)
      exact (List.mem_erase_of_ne hne).2 (hm x (by simp [hx])))
    rw [List.length_erase_of_mem ha] at ih
    have := List.length_pos_of_mem ha
    simp only [List.length_cons]
    omega
structure TInv (n : Nat) (es : List (Int × Int)) (ld : List (List Int)) (tl : List Int) (k : Nat) : Prop where
  inv : AInv n es.length es ld tl (List.replicate n false)
  low : ∀ v, ∀ j ∈ rowOf ld v, ∃ q : Nat, j = (q : Int) ∧ q < k
  all : ∀ j : Nat, j < k → ∃ v, v < n ∧ (j : Int) ∈ rowOf ld v
theorem TInv.start (n : Nat) (es : List (Int × Int)) : TInv n es (List.replicate n []) (List.replicate es.length 0) 0 :=
  ⟨⟨by simp, by simp, fun v _ _ => (by rw [rowOf_nil]; simp), fun v _ _ => (by rw [rowOf_nil]; simp), fun v _ _ j hj => (by rw [rowOf_nil] at hj; cases hj)⟩, fun v j hj => (by rw [rowOf_nil] at hj; cases hj), fun j hj => (by omega)⟩
section
variable {n : Nat} {es : List (Int × Int)} {ld : List (List Int)} {tl : List Int} {k : Nat} {ld' : List (List Int)} {tl' : List Int} {vis' : List Bool}
theorem TInv.rows (h : TInv n es ld tl k) (hk : k ≤ es.length) : RowsNat es.length ld := fun v j hj => by
  obtain ⟨q, rfl, hq⟩ := h.low v j hj
  omega
theorem TInv.fresh (h : TInv n es ld tl k) : ∀ v, v < n → visB (List.replicate n false) v = false → ¬ (k : Int) ∈ rowOf ld v := fun v _ _ hm => by
  obtain ⟨q, e, hq⟩ := h.low v _ hm
  omega
theorem TInv.step (h : TInv n es ld tl k) (hok : ∀ e ∈ es, OkE n e) (hk : k < es.length) (ha : AL es false ld tl (List.replicate n false) k 0 (some 0) ld' tl' vis') : TInv n es ld' tl' (k + 1) := by
  have hy := (ha.yes hok (h.rows (by omega)) (by simp) h.inv).1 rfl ⟨hk, h.fresh⟩ 0 rfl
  have hn : ∀ v, visB (List.replicate n false) v = false := fun v => visB_none n v
  refine ⟨hy.inv, fun v j hj => ?_, fun j hj => ?_⟩
  · by_cases hv : v < n
    · rcases hy.new v hv (hn v) j hj with e | ⟨u, -, -, hu⟩
      · exact ⟨k, e, by omega⟩
      · obtain ⟨q, e, hq⟩ := h.low u j hu
        exact ⟨q, e, by omega⟩
    · rw [rowOf_out (by rw [hy.inv.llen]; omega)] at hj; cases hj
  · by_cases e : j = k
    · subst e
      obtain ⟨v, h1, -, h2⟩ := hy.put
      exact ⟨v, h1, h2⟩
    · obtain ⟨v, h1, h2⟩ := h.all j (by omega)
      obtain ⟨u, h3, -, h4⟩ := hy.old v h1 (hn v) _ h2
      exact ⟨u, h3, h4⟩
theorem TInv.tail (h : TInv n es ld tl k) {j v : Nat} (hv : v < n) (hj : (j : Int) ∈ rowOf ld v) : tl.getD j 0 = (v : Int) ∧ (endOf es j 0 = v ∨ endOf es j 1 = v) := by
  obtain ⟨q, e, -, e2, e3⟩ := h.inv.at_ v hv (visB_none n v) _ hj
  have : j = q := by omega
  subst this
  exact ⟨e2, e3⟩
theorem sumF_one_le (n i c : Nat) : sumF n (fun j => if j = i then c else 0) ≤ c := by
  by_cases h : i < n
  · rw [sumF_one h]; exact Nat.le_refl _
  · have : sumF n (fun j => if j = i then c else 0) = sumF n (fun _ => 0) := sumF_congr (fun j hj => by rw [if_neg (by omega)])
    have h0 : ∀ m, sumF m (fun _ => 0) = 0 := fun m => by
      induction m with
      | zero => rfl
      | succ n ih => rw [sumF_succ, ih]
    rw [this, h0]; exact Nat.zero_le _
theorem cnt_sum (n V : Nat) (tl : List Int) : ∀ k, sumF n (fun x => if V.testBit x = true then (List.range k).countP (fun j => decide (tl.getD j 0 = (x : Int))) else 0) ≤ (List.range k).countP (fun j => V.testBit (tl.getD j 0).toNat) := by
  intro k
  induction k with
  | zero =>
    have : ∀ m, sumF m (fun x => if V.testBit x = true then (List.range 0).countP (fun j => decide (tl.getD j 0 = (x : Int))) else 0) = 0 := fun m => by
      induction m with
      | zero => rfl
      | succ n ih => rw [sumF_succ, ih]; simp
    rw [this]; exact Nat.zero_le _
  | succ k ih =>
    have e : ∀ x : Nat, (if V.testBit x = true then (List.range (k + 1)).countP (fun j => decide (tl.getD j 0 = (x : Int))) else 0) ≤ (if V.testBit x = true then (List.range k).countP (fun j => decide (tl.getD j 0 = (x : Int))) else 0) + (if x = (tl.getD k 0).toNat then (if V.testBit (tl.getD k 0).toNat = true then 1 else 0) else 0) := fun x => by
      rw [List.range_succ, List.countP_append, List.countP_cons, List.countP_nil]
      generalize tl.getD k 0 = y
      by_cases hV : V.testBit x = true
      · rw [if_pos hV, if_pos hV]
        by_cases hx : y = (x : Int)
        · have hx2 : x = y.toNat := by omega
          rw [if_pos hx2, ← hx2, if_pos hV, if_pos (decide_eq_true hx)]
          omega
        · rw [if_neg (by simpa using hx)]
          omega
      · rw [if_neg hV, if_neg hV]; omega
    have h1 := sumF_le (n := n) (fun x _ => e x)
    rw [sumF_add] at h1
    have h2 := sumF_one_le n (tl.getD k 0).toNat (if V.testBit (tl.getD k 0).toNat = true then 1 else 0)
    have h3 : (List.range (k + 1)).countP (fun j => V.testBit (tl.getD j 0).toNat) = (List.range k).countP (fun j => V.testBit (tl.getD j 0).toNat) + (if V.testBit (tl.getD k 0).toNat = true then 1 else 0) := by
      rw [List.range_succ, List.countP_append, List.countP_cons, List.countP_nil, Nat.zero_add]
    rw [h3]
    generalize (if V.testBit (tl.getD k 0).toNat = true then 1 else 0) = cc at h1 h2 ⊢
    omega
theorem cnt_edges (V : Nat) : ∀ k, k ≤ es.length → (((List.range k).countP (fun j => bothB V (edAt es j)) : Nat) : Int) = spanS (es.take k) V := by
  intro k
  induction k with
  | zero => intro _; simp [spanS]
  | succ k ih =>
    intro hk
    have e : es.take (k + 1) = es.take k ++ [edAt es k] := by
      rw [List.take_succ_eq_append_getElem (by omega)]
      unfold edAt
      rw [List.getD_eq_getElem?_getD, List.getElem?_eq_getElem (by omega)]; rfl
    rw [List.range_succ, List.countP_append, e, spanS_app, spanS_one, ← ih (by omega)]
    simp only [List.countP_cons, List.countP_nil]
    split <;> simp
theorem TInv.row_le (h : TInv n es ld tl k) {x : Nat} (hx : x < n) : (rowOf ld x).length ≤ (List.range k).countP (fun j => decide (tl.getD j 0 = (x : Int))) := by
  have hn := h.inv.nod x hx (visB_none n x)
  have := nodup_len_le (rowOf ld x) (((List.range k).filter (fun j => decide (tl.getD j 0 = (x : Int)))).map fun (j : Nat) => (j : Int)) hn (fun j hj => by
    obtain ⟨q, rfl, hq⟩ := h.low x j hj
    rw [List.mem_map]
    exact ⟨q, List.mem_filter.2 ⟨List.mem_range.2 hq, decide_eq_true (h.tail hx hj).1⟩, rfl⟩)
  rwa [List.length_map, ← List.countP_eq_length_filter] at this
/-- Where no points span too many edges a place is found. -/
theorem TInv.found (h : TInv n es ld tl k) (hok : ∀ e ∈ es, OkE n e) (hk : k < es.length) (hsp : ∀ V, 2 ≤ cntB n V → spanS es V ≤ 2 * (cntB n V : Int)) (ha : AL es false ld tl (List.replicate n false) k 0 none ld' tl' vis') : False := by
  obtain ⟨rfl, rfl, h3, -, h5⟩ := ha.no hok (h.rows (by omega)) (by simp) (fun _ => hk) rfl
  have hlen : vis'.length = n := by rw [ha.vlen]; simp
  have hend := h3 rfl
  have e0 := hend 0 (by omega) (by omega)
  have e1 := hend 1 (by omega) (by omega)
  have hk2 := hok _ (edAt_mem hk)
  obtain ⟨q1, q2, q3, q4, q5⟩ := hk2
  have hb : bothB (visS vis') (edAt es k) = true := by
    unfold bothB
    rw [visS_bit, visS_bit]
    unfold endOf at e0 e1
    simp only [if_true] at e0
    rw [if_neg (by omega)] at e1
    rw [e0, e1]; rfl
  have hb' := hb
  unfold bothB at hb'
  rw [Bool.and_eq_true] at hb'
  have h2 : 2 ≤ cntB n (visS vis') := cntB_pair (p := (edAt es k).1.toNat) (q := (edAt es k).2.toNat) (by omega) (by omega) (by omega) hb'.1 hb'.2
  have s1 : sumF n (fun i => if (visS vis').testBit i = true then 2 else 0) ≤ sumF n (fun x => if (visS vis').testBit x = true then (List.range k).countP (fun j => decide (tl'.getD j 0 = (x : Int))) else 0) := sumF_le (fun x hx => by
    by_cases hV : (visS vis').testBit x = true
    · rw [if_pos hV, if_pos hV]
      rw [visS_bit] at hV
      have := (h5 x hV (visB_none n x)).1
      have := h.row_le hx
      omega
    · rw [if_neg hV, if_neg hV]; exact Nat.le_refl _)
  rw [sumF_bits] at s1
  have s2 := cnt_sum n (visS vis') tl' k
  have s3 : (List.range k).countP (fun j => (visS vis').testBit (tl'.getD j 0).toNat) ≤ (List.range k).countP (fun j => bothB (visS vis') (edAt es j)) := List.countP_mono_left (fun j hj hV => by
    obtain ⟨v, hv, hm⟩ := h.all j (List.mem_range.1 hj)
    have ht := (h.tail hv hm).1
    rw [ht, Int.toNat_natCast, visS_bit] at hV
    have := (h5 v hV (visB_none n v)).2 j hm
    unfold EV endOf at this
    simp only [if_true] at this
    rw [if_neg (by omega)] at this
    unfold bothB
    rw [visS_bit, visS_bit, this.1, this.2]; rfl)
  have s4 := cnt_edges (es := es) (visS vis') k (by omega)
  have s5 : spanS es (visS vis') = spanS (es.take (k + 1)) (visS vis') + spanS (es.drop (k + 1)) (visS vis') := by rw [← spanS_app, List.take_append_drop]
  have e : es.take (k + 1) = es.take k ++ [edAt es k] := by
    rw [List.take_succ_eq_append_getElem hk]
    unfold edAt
    rw [List.getD_eq_getElem?_getD, List.getElem?_eq_getElem hk]; rfl
  rw [e, spanS_app, spanS_one, if_pos hb] at s5
  have s6 := spanS_nonneg (es.drop (k + 1)) (visS vis')
  have s7 := hsp _ h2
  omega
theorem count_range (l : List Int) (v : Int) : l.count v = (List.range l.length).countP (fun j => decide (l.getD j 0 = v)) := by
  induction l with
  | nil => rfl
  | cons a l ih =>
    rw [List.count_cons, ih, List.length_cons, List.range_succ_eq_map, List.countP_cons, List.countP_map]
    by_cases h : a = v
    · simp [h]; rfl
    · simp [h]; rfl
/-- What has been assigned: each tail is an end, and no point is more than two tails. -/
theorem TInv.fin (h : TInv n es ld tl es.length) : tl.length = es.length ∧ (∀ j, j < es.length → tl.getD j 0 = (((endOf es j 0 : Nat)) : Int) ∨ tl.getD j 0 = (((endOf es j 1 : Nat)) : Int)) ∧ ∀ v, tl.count v ≤ 2 := by
  refine ⟨h.inv.tlen, fun j hj => ?_, fun v => ?_⟩
  · obtain ⟨v, hv, hm⟩ := h.all j hj
    obtain ⟨e1, e2⟩ := h.tail hv hm
    rcases e2 with e2 | e2
    · left; rw [e1, e2]
    · right; rw [e1, e2]
  · rw [count_range, h.inv.tlen]
    by_cases hv : ∃ x : Nat, x < n ∧ v = (x : Int)
    · obtain ⟨x, hx, rfl⟩ := hv
      have hle := nodup_len_le (((List.range es.length).filter (fun j => decide (tl.getD j 0 = (x : Int)))).map fun (j : Nat) => (j : Int)) (rowOf ld x) (by
        unfold List.Nodup
        rw [List.pairwise_map]
        exact (List.nodup_range.filter _).imp (fun {a b} hab e => hab (by omega))) (fun y hy => by
        obtain ⟨j, hj, rfl⟩ := List.mem_map.1 hy
        rw [List.mem_filter, List.mem_range] at hj
        obtain ⟨u, hu, hm⟩ := h.all j hj.1
        have e1 := (h.tail hu hm).1
        have e2 : tl.getD j 0 = (x : Int) := of_decide_eq_true hj.2
        have : u = x := by omega
        subst this
        exact hm)
      rw [List.length_map, ← List.countP_eq_length_filter] at hle
      have := h.inv.two x hx (visB_none n x)
      omega
    · have : (List.range es.length).countP (fun j => decide (tl.getD j 0 = v)) = 0 := by
        rw [List.countP_eq_zero]
        intro j hj hd
        obtain ⟨u, hu, hm⟩ := h.all j (List.mem_range.1 hj)
        have e1 := (h.tail hu hm).1
        have e2 : tl.getD j 0 = v := of_decide_eq_true hd
        exact hv ⟨u, hu, by omega⟩
      omega
end
end Go.Proofs.YtcpkdnhpelkeoaaGreat

namespace Go.Proofs.YtcpkdnhpelkeoaaGreat
set_option linter.unusedVariables false
set_option linter.unusedSimpArgs false
open Go.RowKit Go.Sort

theorem OwnM.setElem {w : World} {base n c go gr d k v : Nat} {hs : List (Option Addr × Nat)} {ls : List (List Int)} {l : List Int} {x : Int}
    (h : OwnM w base (some ⟨go, 0, none⟩) n c hs ls) (p : hs[v]? = some (some ⟨gr, 0, none⟩, d)) (q : ls[v]? = some l) : OwnM (w.setCell ⟨gr, k, none⟩ (.int .i64 x)) base (some ⟨go, 0, none⟩) n c hs (ls.set v (l.set k x)) := by
  have hrow := h.row v _ _ p q
  have hvl : v < ls.length := by
    rcases Nat.lt_or_ge v ls.length with h' | h'
    · exact h'
    · rw [List.getElem?_eq_none h'] at q; cases q
  have hne : blk (some ⟨go, 0, none⟩) ≠ some gr := by
    have := hrow.apart_type h.outer (by decide)
    rcases this with h' | h'
    · simp [blk] at h'
    · exact fun e => h' (by rw [e]; rfl)
  refine ⟨by rw [List.length_set]; exact h.len, h.hlen, ?_, fun i hd l' a b => ?_, h.far⟩
  · have e : heads hs (ls.set v (l.set k x)) = heads hs ls := by
      have e1 := heads_set (some ⟨gr, 0, none⟩, d) (l.set k x) hs ls v
      have e2 := heads_set (some ⟨gr, 0, none⟩, d) l hs ls v
      have hh : hs.set v (some ⟨gr, 0, none⟩, d) = hs := by
        apply List.ext_getElem?
        intro j
        rw [List.getElem?_set]
        split
        · rename_i e; subst e
          split
          · exact p.symm
          · rename_i h'; rw [List.getElem?_eq_none (by omega)] at p; cases p
        · rfl
      have hl : ls.set v l = ls := by
        apply List.ext_getElem?
        intro j
        rw [List.getElem?_set]
        split
        · rename_i e; subst e; first | (rw [if_pos hvl]; exact q.symm) | exact q.symm
        · rfl
      rw [hh] at e1 e2
      rw [hl] at e2
      rw [e1, List.length_set, ← e2]
    rw [e]
    exact h.outer.setFar (.inr hne) _
  · rw [List.getElem?_set] at b
    by_cases e : v = i
    · subst e
      rw [if_pos rfl, if_pos hvl] at b
      obtain rfl := Option.some.inj b
      rw [p] at a
      obtain rfl := Option.some.inj a
      rw [List.length_set]
      exact hrow.store k x
    · rw [if_neg e] at b
      refine (h.row i hd l' a b).setFar ?_ _
      rcases h.far i v hd _ (Ne.symm e) a p with h' | h'
      · exact .inl h'
      · exact .inr h'

section
variable {w w' : World} {base b go gt n M cE : Nat} {hs : List (Option Addr × Nat)} {ld : List (List Int)} {tl : List Int} {E : Option Addr} {es : List (Int × Int)}
end
end Go.Proofs.YtcpkdnhpelkeoaaGreat

namespace Go.Proofs.YtcpkdnhpelkeoaaGreat
set_option linter.unusedVariables false
set_option linter.unusedSimpArgs false
open Go.RowKit Go.Sort

attribute [local go_sem ↓] Go.wp_at_zero Go.wp_at_succ
theorem own_le {w : World} {base size n c : Nat} {e : TypeId} {A : Option Addr} {xs : List Value} (h : Own w base e size A n c xs) : n ≤ 9223372036854775807 := by
  rcases h.2 with ⟨-, h2⟩ | ⟨g, cap, cur, -, -, -, h1, h2, -⟩
  · omega
  · unfold maxLen at h2; omega
theorem call_ok {n M v : Nat} {es : List (Int × Int)} {ld : List (List Int)} {tl : List Int} {vis1 vis2 : List Bool} {j : Int} (h : AInv n M es ld tl vis1) (hv : v < n) (h0 : visB vis1 v = false) (hn : vis1.length = n) (hm : ∀ y, visB (vis1.set v true) y = true → visB vis2 y = true) (hj : j ∈ rowOf ld v) :
    AInv n M es ld tl vis2 ∧ (∀ u, u < n → visB vis2 u = false → ¬ j ∈ rowOf ld u) ∧ visB vis2 v = true := by
  have hm1 : ∀ y, visB vis1 y = true → visB vis2 y = true := fun y hy => hm y (vset_mono' _ _ _ hy)
  have hvv : visB vis2 v = true := hm v (by rw [visB_set _ _ _ (by omega)]; simp)
  refine ⟨h.more hm1, fun u hu hu2 hju => ?_, hvv⟩
  have hu1 : visB vis1 u = false := by
    cases e : visB vis1 u
    · rfl
    · rw [hm1 u e] at hu2; cases hu2
  obtain ⟨k, rfl, -, e2, -⟩ := h.at_ v hv h0 j hj
  obtain ⟨k', e3, -, e4, -⟩ := h.at_ u hu hu1 _ hju
  have : k = k' := by omega
  subst this
  rw [e2] at e4
  have : v = u := by omega
  subst this
  rw [hvv] at hu2; cases hu2
theorem call_row {n M v j : Nat} {es : List (Int × Int)} {ld ld5 : List (List Int)} {tl tl5 : List Int} {vis2 vis5 : List Bool} {r : Bool} (hok : ∀ e ∈ es, OkE n e) (hl : es.length = M) (hr : RowsNat M ld) (hn : vis2.length = n) (hj : j < M) (k1 : AInv n M es ld tl vis2) (k2 : ∀ u, u < n → visB vis2 u = false → ¬ (j : Int) ∈ rowOf ld u) (k3 : visB vis2 v = true)
    (h : AL es false ld tl vis2 j 0 (if r = true then some 0 else none) ld5 tl5 vis5) : rowOf ld5 v = rowOf ld v := by
  subst hl
  cases r
  · obtain ⟨rfl, -, -⟩ := h.no hok hr hn (fun _ => hj) (by simp)
    rfl
  · exact ((h.yes hok hr hn k1).1 rfl ⟨hj, k2⟩ 0 (by simp)).same v k3
structure XIn (n M : Nat) (es : List (Int × Int)) (ld : List (List Int)) (tl : List Int) (vis : List Bool) (i : Nat) : Prop where
  len : es.length = M
  ok : ∀ e ∈ es, OkE n e
  rows : RowsNat M ld
  inv : AInv n M es ld tl vis
  lt : i < M
  no : ∀ u, u < n → visB vis u = false → ¬ (i : Int) ∈ rowOf ld u
/-- The search has come to end number q of edge i, with vis1 visited. -/
def OCont (es : List (Int × Int)) (ld : List (List Int)) (tl : List Int) (vis : List Bool) (i q : Nat) (vis1 : List Bool) : Prop := ∀ r l' t' v', AL es false ld tl vis1 i q r l' t' v' → AL es false ld tl vis i 0 r l' t' v'
def ICont (es : List (Int × Int)) (ld : List (List Int)) (tl : List Int) (vis : List Bool) (v p : Nat) (vis1 : List Bool) : Prop := ∀ r l' t' v', AL es true ld tl vis1 v p r l' t' v' → AL es true ld tl vis v 0 r l' t' v'

end Go.Proofs.YtcpkdnhpelkeoaaGreat

namespace Go.Proofs.YtcpkdnhpelkeoaaGreat
set_option linter.unusedVariables false
set_option linter.unusedSimpArgs false
open Go.RowKit Go.Sort

attribute [local go_sem ↓] Go.wp_at_zero Go.wp_at_succ
theorem ownM_made {w : World} {base : Nat} (n : Nat) (hn : n ≤ maxLen) (hbase : base ≤ w.heap.size) : OwnM (w.alloc (.cells (madeCells #[.slice none 0 0] n) 24)) base (some ⟨w.heap.size, 0, none⟩) n n (List.replicate n (none, 0)) (List.replicate n []) := by
  have h := World.ownsRow_lit (base := base) (e := 24) (size := 1) w (madeCells #[.slice none 0 0] n) n hbase hn (by simp [madeCells])
  have e : (madeCells #[.slice none 0 0] n).toList = heads (List.replicate n (none, 0)) (List.replicate n []) := by
    apply List.ext_getElem
    · simp [madeCells, heads]
    · intro i h1 h2; simp [madeCells, heads, Nat.mod_one]
  rw [e] at h
  refine ⟨by simp, by simp, h, fun i hd l a b => ?_, fun i j hi hj _ a b => ?_⟩
  · have hi : i < n := by
      rcases Nat.lt_or_ge i n with h' | h'
      · exact h'
      · rw [List.getElem?_eq_none (by simpa using h')] at a; cases a
    rw [List.getElem?_replicate, if_pos hi] at a b
    obtain rfl := Option.some.inj a
    obtain rfl := Option.some.inj b
    exact Own.nil _ _ _ _
  · rw [List.getElem?_replicate] at a
    split at a
    · obtain rfl := Option.some.inj a
      exact .inl rfl
    · cases a
theorem gm_start {w : World} {base : Nat} (n : Nat) (hn : n ≤ maxLen) (hbase : base ≤ w.heap.size) :
    GM ((w.alloc (.cells (madeCells #[.slice none 0 0] n) 24)).alloc (.cells #[.slice (some ⟨w.heap.size, 0, none⟩) n n] 123)) base (w.heap.size + 1) w.heap.size n n (List.replicate n (none, 0)) (List.replicate n []) := by
  refine ⟨?_, by omega, (ownM_made n hn hbase).alloc _⟩
  have h := heap_alloc_new (w.alloc (.cells (madeCells #[.slice none 0 0] n) 24)) (.cells #[.slice (some ⟨w.heap.size, 0, none⟩) n n] 123)
  have e : (w.alloc (.cells (madeCells #[.slice none 0 0] n) 24)).heap.size = w.heap.size + 1 := by simp
  rw [e] at h
  exact h
set_option maxHeartbeats 1000000 in
theorem start_any (n : Nat) (w : World) (hn : n ≤ 60) :
    Calls Tryz.prog 96 #[.int .i64 n] w fun e w' => e = .returned (.pointer (some ⟨w.heap.size + 1, 0, none⟩)) ∧ w' = (w.alloc (.cells (madeCells #[.slice none 0 0] n) 24)).alloc (.cells #[.slice (some ⟨w.heap.size, 0, none⟩) n n] 123) := by
  have hmk := run_make_row' (P := Tryz.prog) 22 24 (.slice none 0 0) 24 Tryz.underlying22 info_ints rfl .i64 .i64 n (by omega) (by omega)
  go_enter Tryz.func96, Tryz.ntmps96
  go_wp2
  go_ret
  exact ⟨by simp, rfl⟩

def APost (w : World) (base b go n c : Nat) (hs : List (Option Addr × Nat)) (out : List (List Int)) (p q : Nat) (e : Ending) (w' : World) : Prop :=
  ∃ r out' hs', e = .returned (.bool r) ∧ GM w' base b go n c hs' out' ∧ GStep (fun _ => False) w w' go hs hs' ∧ Acc n out p q r out'
set_option maxRecDepth 100000 in
set_option maxHeartbeats 8000000 in
theorem accept_any (w : World) (base b go n c : Nat) (hs : List (Option Addr × Nat)) (out : List (List Int)) (p q : Nat) (hn : n ≤ 60) (hg : GM w base b go n c hs out) (hgs : GS n out) (hp : p < n) (hq : q < n) (hpq : p ≠ q) :
    Calls Tryz.prog 97 #[.pointer (some ⟨b, 0, none⟩), .int .i64 p, .int .i64 q] w (APost w base b go n c hs out p q) := by
  have HGA := Lib.hid (gather_any w base b go n c hs out p q hn hg hgs hp hq hpq)
  have HGS := Lib.hid hgs
  have p0 : (0 : Int) ≤ (p : Int) := by omega
  have p1 : (p : Int) < (n : Int) := by omega
  clear hg hgs
  go_enter Tryz.func97, Tryz.ntmps97
  go_upto_region 1 with fail
  go_cut [11] (fun t wx => ∃ (r : Bool) (out1 out2 : List (List Int)) (hs2 : List (Option Addr × Nat)), t = .bool (!r) ∧ GLoop n out p q out1 ∧ GLoop n out1 q p out2 ∧ GM wx base b go n c hs2 out2 ∧ GStep (fun _ => False) w wx go hs hs2 ∧ (r = true → rowOf out2 p = [] ∧ rowOf out2 q = []) ∧ (r = false → 1 ≤ (rowOf out2 p).length + (rowOf out2 q).length))
  case first =>
    go_wp2_with (first
      | (go_at_call 107; refine HGA.out.mono ?_; rintro e w5 ⟨out1, out2, hs2, l1, l2, rfl, hg2, hst2⟩; have R5 := Lib.hid (And.intro l1 (And.intro l2 (And.intro hg2 hst2))); clear l1 l2 hg2 hst2; generalize hlp : (rowOf out2 p).length = mp; generalize hlq : (rowOf out2 q).length = mq; have HLP := Lib.hid hlp; have HLQ := Lib.hid hlq; clear hlp hlq)
      | fail)
    go_meet
    obtain ⟨l1, l2, hg2, hst2⟩ := R5.out
    have hp2 := HLP.out
    have hq2 := HLQ.out
    refine ⟨decide (mp + mq = 0), out1, out2, hs2, ?_, l1, l2, hg2, hst2, fun h => ?_, fun h => ?_⟩
    · congr 1
      by_cases h : mp + mq = 0
      · rw [decide_eq_true h, decide_eq_false (by omega)]; rfl
      · rw [decide_eq_false h, decide_eq_true (by omega)]; rfl
    · have : mp + mq = 0 := by simpa using h
      exact ⟨List.eq_nil_of_length_eq_zero (by omega), List.eq_nil_of_length_eq_zero (by omega)⟩
    · have : ¬ mp + mq = 0 := by simpa using h
      omega
  case rest =>
    obtain ⟨r, out1, out2, hs2, rfl, l1, l2, hg2, hst2, hyes, hno⟩ := hcut
    cases r
    · go_wp2_with fail
      go_ret
      exact ⟨false, out2, hs2, rfl, hg2, hst2, out1, out2, l1, l2, .inr ⟨rfl, hno (by simp), rfl⟩⟩
    · obtain ⟨e1, e2⟩ := hyes rfl
      rename World => w6
      obtain ⟨⟨A6, d6⟩, hh6, ho6, cr6, or6⟩ := hg2.row_at hp
      simp only at cr6 or6
      have HL := Lib.hid (And.intro l1 (And.intro l2 (And.intro e1 e2)))
      rw [e1] at cr6 or6 ho6
      simp only [List.length_nil] at cr6 or6
      have HG6 := Lib.hid hg2
      have HST6 := Lib.hid hst2
      have HH6 := Lib.hid hh6
      have HO6 := Lib.hid ho6
      have cb6 := hg2.cell
      have fz6 : w6.frozen? ⟨go, p, none⟩ = false := hg2.om.outer.frozen p
      have cba : (w6.drew.alloc (.cells #[.int .i64 (q : Int)] 3)).cell? ⟨b, 0, none⟩ = some (.slice (some ⟨go, 0, none⟩) n c) := Keeps.alloc w6.drew _ _ _ cb6
      have cra : (w6.drew.alloc (.cells #[.int .i64 (q : Int)] 3)).cell? ⟨go, p, none⟩ = some (.slice A6 0 d6) := Keeps.alloc w6.drew _ _ _ cr6
      have cbb : (w6.alloc (.cells #[.int .i64 (q : Int)] 3)).cell? ⟨b, 0, none⟩ = some (.slice (some ⟨go, 0, none⟩) n c) := Keeps.alloc w6 _ _ _ cb6
      have crb : (w6.alloc (.cells #[.int .i64 (q : Int)] 3)).cell? ⟨go, p, none⟩ = some (.slice A6 0 d6) := Keeps.alloc w6 _ _ _ cr6
      have HGA6 : Hid (GM (w6.drew.alloc (.cells #[.int .i64 (q : Int)] 3)) base b go n c hs2 out2) := Lib.hid (hg2.later (((Below.refl _ _).drew).alloc (by simp) _))
      have ORA : Hid (Own (w6.drew.alloc (.cells #[.int .i64 (q : Int)] 3)) base 3 1 A6 0 d6 (ints [])) := Lib.hid (Own.alloc (w := w6.drew) or6 _)
      have HB6 : base ≤ w6.heap.size := by have := hg2.lt; have := hg2.lo; omega
      clear hg2 hst2 hyes hno l1 l2 e1 e2 hh6 ho6 or6
      go_upto_region 3 with fail
      go_region_law ((first
        | (refine step_app _ rfl (.tmp 23) (.tmp 25) 24 rfl base 3 (.int .i64 0) 1 8 Tryz.underlying24 info_int' rfl (by decide) A6 0 d6 (ints []) (by simp [Act.eval, Act.put]) ORA.out (some ⟨w6.heap.size, 0, none⟩) 1 1 (ints [(q : Int)]) (by simp [Act.eval, Act.put]) (rd_lit_at rfl [(q : Int)] _) (ints_one _) (by omega) (by unfold maxLen; omega) (by simp; omega) ?_; intro B7 c7 w7 ho7 hg7 hb7; obtain ⟨cb7, cr7, fz7⟩ := HGA6.out.push_facts ORA.out hg7 cra; have P7 := Lib.hid (HGA6.out.push HH6.out HO6.out rfl hg7 ho7 hb7); clear ho7 hg7 hb7)
        | fail))
      all_goals
       go_wp2_with fail
       go_ret
       obtain ⟨l1, l2, e1, e2⟩ := HL.out
       exact ⟨true, _, _, rfl, P7.out.1, HST6.out.trans ((GStep.of_below (((Below.refl _ _).drew).alloc (by simp) _)).trans (P7.out.2 _)), out1, out2, l1, l2, .inl ⟨rfl, e1, e2, rfl⟩⟩
end Go.Proofs.YtcpkdnhpelkeoaaGreat

namespace Go.Proofs.YtcpkdnhpelkeoaaGreat
set_option linter.unusedVariables false
set_option linter.unusedSimpArgs false
open Go.RowKit Go.Sort

attribute [local go_sem ↓] Go.wp_at_zero Go.wp_at_succ
theorem own_madeI {w : World} {b base : Nat} (hb : w.heap.size = b) (n : Nat) (hn : n ≤ maxLen) (hbase : base ≤ b) : Own (w.alloc (.cells (madeCells #[.int .i64 0] n) 3)) base 3 1 (some ⟨b, 0, none⟩) n n (ints (List.replicate n 0)) := by
  subst hb
  have h := World.ownsRow_lit (base := base) (e := 3) (size := 1) w (madeCells #[.int .i64 0] n) n hbase hn (by simp [madeCells])
  have e : (madeCells #[.int .i64 0] n).toList = ints (List.replicate n 0) := by
    apply List.ext_getElem
    · simp [madeCells, ints]
    · intro i h1 h2; simp [madeCells, ints, Nat.mod_one]
  rw [e] at h
  exact h
theorem ownM_made_at {w : World} {b base : Nat} (hb : w.heap.size = b) (n : Nat) (hn : n ≤ maxLen) (hbase : base ≤ b) : OwnM (w.alloc (.cells (madeCells #[.slice none 0 0] n) 24)) base (some ⟨b, 0, none⟩) n n (List.replicate n (none, 0)) (List.replicate n []) := by
  subst hb; exact ownM_made n hn hbase
theorem ft_none {go n k : Nat} (h : Ft go (List.replicate n (none, 0)) k) : k = go := by
  rcases h with h | ⟨x, hx, hk⟩
  · exact h
  · obtain rfl := (List.mem_replicate.1 hx).2
    cases hk
def TPost (w : World) (M : Nat) (es : List (Int × Int)) (e : Ending) (w' : World) : Prop :=
  ∃ T cT tl, e = .returned (.tuple #[.slice T M cT, .bool true]) ∧ Own w' w.heap.size 3 1 T M cT (ints tl) ∧ Below w.heap.size w w' ∧ tl.length = M ∧ (∀ j, j < M → tl.getD j 0 = (((endOf es j 0 : Nat)) : Int) ∨ tl.getD j 0 = (((endOf es j 1 : Nat)) : Int)) ∧ ∀ v, tl.count v ≤ 2
end Go.Proofs.YtcpkdnhpelkeoaaGreat

namespace Go.Proofs.YtcpkdnhpelkeoaaGreat
set_option linter.unusedVariables false
set_option linter.unusedSimpArgs false
open Go.RowKit Go.Sort

section
variable {w wa w5 w7 : World} {base b go n c m d d' : Nat} {hs hs' : List (Option Addr × Nat)} {out : List (List Int)} {B B' : Option Addr} {xs : List Value}
theorem out_later {e : TypeId} {size : Nat} (ho : Own wa base e size B m d xs) (hst : GStep (fun _ => False) wa w5 go hs hs') (hB : ∀ j, blk B = some j → ¬ Ft go hs j) : Own w5 base e size B m d xs ∧ ∀ j, blk B = some j → ¬ Ft go hs' j :=
  ⟨Fr.own ho hst.fr (fun k hk h => h.elim (hB k hk) id), fun j hj h => hB j hj (hst.ft j (ho.lt hj).2 h)⟩
theorem out_push {o : Obj} {e : TypeId} {size : Nat} (hg : GM w5 base b go n c hs out) (ho : Own w5 base e size B m d xs) (he : e ≠ 123) (hB : ∀ j, blk B = some j → ¬ Ft go hs j) (hgr : (w5.alloc o).grownBy w7 (blk B)) (hB' : blk B' = blk B ∨ blk B' = some (w5.alloc o).heap.size) :
    GM w7 base b go n c hs out ∧ ∀ j, blk B' = some j → ¬ Ft go hs j := by
  have hga := hg.later ((Below.refl _ _).alloc (Nat.le_refl _) o)
  refine ⟨hga.fr (F := fun k => blk B = some k) (Fr.of_grown hgr (fun k hk _ => hk)) (fun k hk e => hB k e hk) (fun e => hg.ne ho he e rfl), fun j hj h => ?_⟩
  rcases hB' with e | e
  · exact hB j (by rw [← e]; exact hj) h
  · rw [hj] at e
    injection e with e
    have := (hg.om.ft (A := none) h).2.1
    simp at e
    omega
end
theorem edge_nat {n : Nat} {es : List (Int × Int)} (h : ∀ e ∈ es, OkE n e) {k : Nat} (hk : k < es.length) : ∃ p q : Nat, edAt es k = ((p : Int), (q : Int)) ∧ p < n ∧ q < n ∧ p ≠ q := by
  obtain ⟨h1, h2, h3, h4, h5⟩ := h _ (edAt_mem hk)
  refine ⟨(edAt es k).1.toNat, (edAt es k).2.toNat, Prod.ext (by simp; omega) (by simp; omega), by omega, by omega, by omega⟩
theorem getD_edAt (l : List (Int × Int)) (k : Nat) : l.getD k (0, 0) = edAt l k := rfl
def PlayPost (w : World) (es : List (Int × Int)) (e : Ending) (w' : World) : Prop :=
  ∃ B cB pt, e = .returned (.tuple #[.slice B (idxL es).length cB, pt]) ∧ Own w' w.heap.size 3 1 B (idxL es).length cB (ints (idxL es)) ∧ Below w.heap.size w w'
set_option maxRecDepth 100000 in
set_option maxHeartbeats 8000000 in
theorem play_any (n : Nat) (A : Option Addr) (m c : Nat) (es : List (Int × Int)) (w : World) (hn : n ≤ 60) (hm : m ≤ 100000) (he : Rd w 2 A m (prs es)) (hok : ∀ e ∈ es, OkE n e) :
    Calls Tryz.prog 90 #[.int .i64 n, .slice A m c] w (PlayPost w es) := by
  have HE := Lib.hid he.prs_len
  have H1 := Lib.hid he
  have HOK := Lib.hid hok
  have HS := Lib.hid (start_any n w hn)
  have hgs := gm_start (w := w) (base := w.heap.size) n (by unfold maxLen; omega) (Nat.le_refl _)
  have HGS := Lib.hid hgs
  have HB0 : Hid (Below w.heap.size w ((w.alloc (.cells (madeCells #[.slice none 0 0] n) 24)).alloc (.cells #[.slice (some ⟨w.heap.size, 0, none⟩) n n] 123))) := Lib.hid (((Below.refl _ _).alloc (Nat.le_refl _) _).alloc (by simp) _)
  clear he hok hgs
  go_enter Tryz.func90, Tryz.ntmps90
  go_wp2_with (first
    | (go_at_call 96; refine HS.out.mono ?_; rintro e w1 ⟨rfl, hw1⟩; rw [← hw1] at HGS HB0; clear hw1)
    | fail)
  go_loopg [7, 8, 9, 14] m (fun k o _ _ t wr => ∃ (q : Nat) (hs : List (Option Addr × Nat)) (out1 : List (List Int)) (B : Option Addr) (cB : Nat), t = .int .i64 q ∧ q ≤ m ∧ k = m - q ∧ o = .slice B (idxK es q).length cB ∧ GM wr w.heap.size (w.heap.size + 1) w.heap.size n n hs out1 ∧ GInv n out1 (choK es q) ∧ Own wr w.heap.size 3 1 B (idxK es q).length cB (ints (idxK es q)) ∧ (∀ j, blk B = some j → ¬ Ft w.heap.size hs j) ∧ Below w.heap.size w wr)
  case atStart => exact ⟨0, _, _, none, 0, rfl, by omega, rfl, rfl, HGS.out, by rw [choK_zero]; exact GInv.start n, Own.nil _ _ _ _, fun j hj => by simp [blk] at hj, HB0.out⟩
  case round =>
    obtain ⟨q, hs, out1, B, cB, rfl, hq, rfl, rfl, hg, hi, ho, hB, hb⟩ := hrel
    have HG := Lib.hid hg
    have HI := Lib.hid hi
    have HO := Lib.hid ho
    have HB := Lib.hid hB
    have HBL := Lib.hid hb
    have hsz := hb.size
    clear hg hi ho hB hb
    by_cases hlt : q < m
    · obtain ⟨ad, rfl, c0, c1⟩ := (H1.out.keep (Keeps.of_below HBL.out (Nat.le_refl _))).prs_at hlt
      obtain ⟨x, y, hxy, hx, hy, hne⟩ := edge_nat HOK.out (k := q) (by rw [HE.out]; exact hlt)
      rw [getD_edAt, hxy] at c0 c1
      simp only at c0 c1
      have HXY := Lib.hid hxy
      have HAC := Lib.hid (accept_any (wr.alloc (.cells #[.int .i64 (x : Int), .int .i64 (y : Int)] 28)) w.heap.size (w.heap.size + 1) w.heap.size n n hs out1 x y hn (HG.out.later ((Below.refl _ _).alloc (Nat.le_refl _) _)) HI.out.gs hx hy hne)
      have hql : (idxK es q).length ≤ q := idxK_le es q
      have HST := Lib.hid (idxK_step es q)
      have HCT := Lib.hid (choK_step (es := es) (k := q) (by rw [HE.out]; exact hlt))
      generalize hL : idxK es q = L at HO hql HST ⊢
      generalize hLl : L.length = l at HO hql ⊢
      have HLL := Lib.hid hLl
      clear hxy hL hLl
      go_wp2_with (first
        | (go_at_call 97; refine HAC.out.mono ?_; rintro e w5 ⟨r, out5, hs5, rfl, hg5, hst5, hacc⟩; have HG5 := Lib.hid hg5; have HST5 := Lib.hid hst5; have HA5 := Lib.hid hacc; have hb5 := hst5.below (HG.out.later ((Below.refl _ _).alloc (Nat.le_refl _) _)).om (B := w.heap.size) (by simp; omega) (Nat.le_refl _) (fun _ _ h => h.elim); have HB5 := Lib.hid ((HBL.out.alloc hsz (.cells #[.int .i64 (x : Int), .int .i64 (y : Int)] 28)).trans hb5); have HO5 := Lib.hid (out_later (HO.out.alloc (.cells #[.int .i64 (x : Int), .int .i64 (y : Int)] 28)) hst5 HB.out); have hz5 := hst5.fr.size; clear hg5 hst5 hacc hb5; cases r)
        | (at_builtin; refine wpList_app _ rfl (.tmp 25) (.tmp 27) 24 rfl w.heap.size 3 (.int .i64 0) 1 8 Tryz.underlying24 info_int' rfl (by decide) B l cB (ints L) rfl (HO5.out.1.alloc _) (some ⟨w5.heap.size, 0, none⟩) 1 1 (ints [(q : Int)]) rfl (rd_lit_at rfl [(q : Int)] _) (ints_one _) (by omega) (by unfold maxLen; omega) (by simp at hz5 ⊢; omega) ?_; intro B7 c7 w7 ho7 hg7 hb7; have P7 := Lib.hid (out_push HG5.out HO5.out.1 (by decide) HO5.out.2 hg7 hb7); have O7 := Lib.hid ho7; have BL7 := Lib.hid ((HB5.out.alloc (by simp at hz5; omega) (.cells #[.int .i64 (q : Int)] 3)).grown hg7 (by simp at hz5 ⊢; omega) (fun k hk => (HO5.out.1.lt hk).1)); clear ho7 hg7 hb7)
        | fail)
      · obtain ⟨h1, h2, -⟩ := HA5.out.inv HI.out hn hx hy hne
        have ht : takB es q = false := by unfold takB; rw [HXY.out]; exact h1.symm
        have e1 : idxK es (q + 1) = L := by rw [HST.out, ht]; rfl
        have e2 : choK es (q + 1) = choK es q := by rw [HCT.out, ht]; rfl
        go_roundg (m - (q + 1))
        case measure => omega
        case rel => exact ⟨q + 1, hs5, out5, B, cB, by go_num, by omega, rfl, by rw [e1, HLL.out], HG5.out, by rw [e2]; exact h2, by rw [e1, HLL.out]; exact HO5.out.1, HO5.out.2, HB5.out⟩
      · obtain ⟨h1, h2, -⟩ := HA5.out.inv HI.out hn hx hy hne
        have ht : takB es q = true := by unfold takB; rw [HXY.out]; exact h1.symm
        have e1 : idxK es (q + 1) = L ++ [(q : Int)] := by rw [HST.out, ht]; rfl
        have e2 : choK es (q + 1) = choK es q ++ [((x : Int), (y : Int))] := by rw [HCT.out, ht, HXY.out]; rfl
        have e3 : (L ++ [(q : Int)]).length = l + 1 := by rw [List.length_append, HLL.out]; rfl
        go_roundg (m - (q + 1))
        case measure => omega
        case rel => exact ⟨q + 1, hs5, out5, B7, c7, by go_num, by omega, rfl, by rw [e1, e3], P7.out.1, by rw [e2]; exact h2, by rw [e1, e3, ints_app]; exact O7.out, P7.out.2, BL7.out⟩
    · obtain rfl : q = m := by omega
      have hE : idxL es = idxK es q := by unfold idxL; rw [HE.out]
      have HEE := Lib.hid hE
      clear hE
      go_wp2_with fail
      go_ret2
      refine ⟨B, cB, .pointer (some ⟨w.heap.size + 1, 0, none⟩), ?_, ?_, HBL.out⟩
      · rw [HEE.out]; rfl
      · rw [HEE.out]; exact HO.out
end Go.Proofs.YtcpkdnhpelkeoaaGreat
