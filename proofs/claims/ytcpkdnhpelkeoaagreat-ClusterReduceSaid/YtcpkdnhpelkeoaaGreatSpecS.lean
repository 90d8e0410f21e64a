/-
  The pebble game: how a pebble is fetched, and what this keeps. No program stands in this text.
-/
import Derived.Test.YtcpkdnhpelkeoaaGreatSpecR
namespace Go.Proofs.YtcpkdnhpelkeoaaGreat
set_option linter.unusedVariables false
set_option linter.unusedSimpArgs false

/-- Sums over the first n numbers. -/
def sumF (n : Nat) (f : Nat → Nat) : Nat := ((List.range n).map f).sum
theorem sumF_succ (n : Nat) (f : Nat → Nat) : sumF (n + 1) f = sumF n f + f n := by unfold sumF; rw [List.range_succ]; simp
theorem sumF_congr {n : Nat} {f g : Nat → Nat} (h : ∀ j, j < n → f j = g j) : sumF n f = sumF n g := by
  induction n with
  | zero => rfl
  | succ n ih => rw [sumF_succ, sumF_succ, ih (fun j hj => h j (by omega)), h n (by omega)]
theorem sumF_le {n : Nat} {f g : Nat → Nat} (h : ∀ j, j < n → f j ≤ g j) : sumF n f ≤ sumF n g := by
  induction n with
  | zero => exact Nat.le_refl _
  | succ n ih => rw [sumF_succ, sumF_succ]; have := ih (fun j hj => h j (by omega)); have := h n (by omega); omega
theorem sumF_add (n : Nat) (f g : Nat → Nat) : sumF n (fun j => f j + g j) = sumF n f + sumF n g := by
  induction n with
  | zero => rfl
  | succ n ih => rw [sumF_succ, sumF_succ, sumF_succ, ih]; omega
theorem sumF_one {n i : Nat} (hi : i < n) (c : Nat) : sumF n (fun j => if j = i then c else 0) = c := by
  induction n with
  | zero => omega
  | succ n ih =>
    rw [sumF_succ]
    by_cases e : n = i
    · subst e
      have : sumF n (fun j => if j = n then c else 0) = sumF n (fun _ => 0) := sumF_congr (fun j hj => by rw [if_neg (by omega)])
      have h0 : sumF n (fun _ => 0) = 0 := by
        clear this ih hi
        induction n with
        | zero => rfl
        | succ n ih => rw [sumF_succ, ih]
      rw [this, h0]; simp
    · rw [ih (by omega), if_neg e]; rfl
theorem sumF_upd {n i : Nat} {f g : Nat → Nat} (hi : i < n) (h : ∀ j, j < n → j ≠ i → f j = g j) : sumF n f + g i = sumF n g + f i := by
  have h1 := sumF_add n f (fun j => if j = i then g i else 0)
  have h2 := sumF_add n g (fun j => if j = i then f i else 0)
  have h3 : sumF n (fun j => f j + if j = i then g i else 0) = sumF n (fun j => g j + if j = i then f i else 0) := sumF_congr (fun j hj => by
    by_cases e : j = i
    · subst e; simp; omega
    · simp [e, h j hj e])
  rw [h1, h2, sumF_one hi, sumF_one hi] at h3
  exact h3
theorem sumF_bits (n S c : Nat) : sumF n (fun i => if S.testBit i = true then c else 0) = c * cntB n S := by
  induction n with
  | zero => rfl
  | succ n ih =>
    rw [sumF_succ, ih]
    unfold cntB
    rw [List.range_succ, List.countP_append]
    by_cases h : S.testBit n = true
    · simp [h, Nat.mul_add]
    · simp [h]

/-- The points that point a's pebbles cover edges to. -/
def rowOf (out : List (List Int)) (a : Nat) : List Int := out.getD a []
theorem rowOf_set (out : List (List Int)) (a x : Nat) (r : List Int) (ha : a < out.length) : rowOf (out.set a r) x = if x = a then r else rowOf out x := by
  unfold rowOf
  rw [List.getD_eq_getElem?_getD, List.getElem?_set]
  by_cases e : x = a
  · subst e; simp [ha]
  · rw [if_neg (Ne.symm e), if_neg e, List.getD_eq_getElem?_getD]
theorem rowOf_get {out : List (List Int)} {a : Nat} {r : List Int} (h : out[a]? = some r) : rowOf out a = r := by
  unfold rowOf; rw [List.getD_eq_getElem?_getD, h]; rfl
theorem rowOf_some {out : List (List Int)} {a : Nat} (h : a < out.length) : out[a]? = some (rowOf out a) := by
  unfold rowOf; rw [List.getD_eq_getElem?_getD, List.getElem?_eq_getElem h]; rfl
theorem rowOf_out {out : List (List Int)} {a : Nat} (h : out.length ≤ a) : rowOf out a = [] := by
  unfold rowOf; rw [List.getD_eq_getElem?_getD, List.getElem?_eq_none h]; rfl
def arcAt (out : List (List Int)) (S i : Nat) : Nat := if S.testBit i = true then (rowOf out i).countP (fun b => S.testBit b.toNat) else 0
/-- The number of covered edges between points of S. -/
def arcS (out : List (List Int)) (S : Nat) : Nat := sumF out.length (arcAt out S)
theorem arcS_set (out : List (List Int)) (a : Nat) (r : List Int) (S : Nat) (ha : a < out.length) :
    arcS (out.set a r) S + arcAt out S a = arcS out S + (if S.testBit a = true then r.countP (fun b => S.testBit b.toNat) else 0) := by
  unfold arcS
  rw [List.length_set]
  have h := sumF_upd (f := arcAt (out.set a r) S) (g := arcAt out S) ha (fun j hj hja => by unfold arcAt; rw [rowOf_set _ _ _ _ ha, if_neg hja])
  have h2 : arcAt (out.set a r) S a = if S.testBit a = true then r.countP (fun b => S.testBit b.toNat) else 0 := by unfold arcAt; rw [rowOf_set _ _ _ _ ha, if_pos rfl]
  rw [h2] at h
  exact h

/-- A game of n points: each entry is a point, and no point has more than two. -/
structure GS (n : Nat) (out : List (List Int)) : Prop where
  len : out.length = n
  mem : ∀ a, ∀ x ∈ rowOf out a, 0 ≤ x ∧ x < n
  two : ∀ a, (rowOf out a).length ≤ 2
/-- The same, but point a may be one of those that are being changed. -/
structure GW (n : Nat) (out : List (List Int)) : Prop where
  len : out.length = n
  mem : ∀ a, ∀ x ∈ rowOf out a, 0 ≤ x ∧ x < n
theorem GS.w {n : Nat} {out : List (List Int)} (h : GS n out) : GW n out := ⟨h.len, h.mem⟩
theorem GW.set {n : Nat} {out : List (List Int)} (h : GW n out) {a : Nat} {r : List Int} (ha : a < n) (hr : ∀ x ∈ r, 0 ≤ x ∧ x < n) : GW n (out.set a r) := by
  refine ⟨by rw [List.length_set]; exact h.len, fun b x hx => ?_⟩
  rw [rowOf_set _ _ _ _ (by rw [h.len]; exact ha)] at hx
  split at hx
  · exact hr x hx
  · exact h.mem b x hx

/-- The edge from a to b (its i-th) is covered by a pebble of b from now on. -/
def moveE (out : List (List Int)) (a i b : Nat) : List (List Int) :=
  (out.set a ((rowOf out a).eraseIdx i)).set b (rowOf (out.set a ((rowOf out a).eraseIdx i)) b ++ [(a : Int)])
theorem countP_eraseIdx {l : List Int} {i : Nat} {x : Int} (p : Int → Bool) (h : l[i]? = some x) : (l.eraseIdx i).countP p + (if p x = true then 1 else 0) = l.countP p := by
  induction l generalizing i with
  | nil => simp at h
  | cons y l ih =>
    cases i with
    | zero => simp at h; subst h; simp [List.countP_cons]
    | succ i =>
      have := ih (i := i) (by simpa using h)
      simp only [List.eraseIdx_cons_succ, List.countP_cons]
      omega
theorem len_eraseIdx {l : List Int} {i : Nat} (h : i < l.length) : (l.eraseIdx i).length + 1 = l.length := by
  rw [List.length_eraseIdx]; rw [if_pos h]; omega
section
variable {n : Nat} {out : List (List Int)} {a i b : Nat}
theorem move_row (h : GW n out) (ha : a < n) (hb : b < n) (hab : a ≠ b) (x : Nat) :
    rowOf (moveE out a i b) x = if x = b then rowOf out b ++ [(a : Int)] else if x = a then (rowOf out a).eraseIdx i else rowOf out x := by
  unfold moveE
  have h1 : a < out.length := by rw [h.len]; exact ha
  rw [rowOf_set _ _ _ _ (by rw [List.length_set, h.len]; exact hb), rowOf_set _ _ _ _ h1, rowOf_set _ _ _ _ h1, if_neg (Ne.symm hab)]
theorem move_len : (moveE out a i b).length = out.length := by unfold moveE; rw [List.length_set, List.length_set]
theorem move_w (h : GW n out) (ha : a < n) (hb : b < n) : GW n (moveE out a i b) := by
  unfold moveE
  have h1 : GW n (out.set a ((rowOf out a).eraseIdx i)) := h.set ha (fun x hx => h.mem a x (List.mem_of_mem_eraseIdx hx))
  refine h1.set hb (fun x hx => ?_)
  rw [List.mem_append] at hx
  rcases hx with hx | hx
  · exact h1.mem b x hx
  · simp at hx; omega
theorem move_arc (h : GW n out) (ha : a < n) (hb : b < n) (hab : a ≠ b) (hi : (rowOf out a)[i]? = some (b : Int)) (S : Nat) : arcS (moveE out a i b) S = arcS out S := by
  have h1 : a < out.length := by rw [h.len]; exact ha
  have s1 := arcS_set out a ((rowOf out a).eraseIdx i) S h1
  have s2 := arcS_set (out.set a ((rowOf out a).eraseIdx i)) b (rowOf (out.set a ((rowOf out a).eraseIdx i)) b ++ [(a : Int)]) S (by rw [List.length_set, h.len]; exact hb)
  have e1 : rowOf (out.set a ((rowOf out a).eraseIdx i)) b = rowOf out b := by rw [rowOf_set _ _ _ _ h1, if_neg (Ne.symm hab)]
  have e2 : arcAt (out.set a ((rowOf out a).eraseIdx i)) S b = arcAt out S b := by unfold arcAt; rw [e1]
  have c := countP_eraseIdx (fun b => S.testBit b.toNat) hi
  simp only [Int.toNat_natCast] at c
  unfold moveE
  rw [e2, e1] at s2
  rw [e1]
  rw [List.countP_append] at s2
  unfold arcAt at s1 s2
  cases hA : S.testBit a <;> cases hB : S.testBit b <;> simp [hA, hB] at s1 s2 c ⊢ <;> omega
end

def visB (vis : List Bool) (x : Nat) : Bool := vis.getD x false
theorem visB_set (vis : List Bool) (b x : Nat) (hb : b < vis.length) : visB (vis.set b true) x = (decide (x = b) || visB vis x) := by
  unfold visB
  rw [List.getD_eq_getElem?_getD, List.getElem?_set]
  by_cases e : x = b
  · subst e; simp [hb]
  · rw [if_neg (Ne.symm e), List.getD_eq_getElem?_getD]; simp [e]
theorem visB_mono {vis : List Bool} {b x : Nat} (hb : b < vis.length) (h : visB vis x = true) : visB (vis.set b true) x = true := by rw [visB_set _ _ _ hb, h]; simp

/-- The loop over a's edges from number i on: whether a pebble came, and what is left. -/
inductive FLoop : List (List Int) → List Bool → Nat → Nat → Bool → List (List Int) → List Bool → Prop
  | done {out : List (List Int)} {vis : List Bool} {a i : Nat} : (rowOf out a).length ≤ i → FLoop out vis a i false out vis
  | skip {out : List (List Int)} {vis : List Bool} {a i b : Nat} {r : Bool} {out' : List (List Int)} {vis' : List Bool} : (rowOf out a)[i]? = some (b : Int) → visB vis b = true → FLoop out vis a (i + 1) r out' vis' → FLoop out vis a i r out' vis'
  | free {out : List (List Int)} {vis : List Bool} {a i b : Nat} : (rowOf out a)[i]? = some (b : Int) → visB vis b = false → (rowOf out b).length < 2 → FLoop out vis a i true (moveE out a i b) vis
  | hit {out : List (List Int)} {vis : List Bool} {a i b : Nat} {out' : List (List Int)} {vis' : List Bool} : (rowOf out a)[i]? = some (b : Int) → visB vis b = false → 2 ≤ (rowOf out b).length → FLoop out (vis.set b true) b 0 true out' vis' → FLoop out vis a i true (moveE out' a i b) vis'
  | miss {out : List (List Int)} {vis : List Bool} {a i b : Nat} {r : Bool} {out' : List (List Int)} {vis' : List Bool} {out'' : List (List Int)} {vis'' : List Bool} : (rowOf out a)[i]? = some (b : Int) → visB vis b = false → 2 ≤ (rowOf out b).length → FLoop out (vis.set b true) b 0 false out' vis' → FLoop out' vis' a (i + 1) r out'' vis'' → FLoop out vis a i r out'' vis''

theorem FLoop.vlen {out : List (List Int)} {vis : List Bool} {a i : Nat} {r : Bool} {out' : List (List Int)} {vis' : List Bool} (h : FLoop out vis a i r out' vis') : vis'.length = vis.length := by
  induction h with
  | done => rfl
  | skip _ _ _ ih => exact ih
  | free => rfl
  | hit _ _ _ _ ih => rw [ih, List.length_set]
  | miss _ _ _ _ _ ih1 ih2 => rw [ih2, ih1, List.length_set]
theorem FLoop.vmono {out : List (List Int)} {vis : List Bool} {a i : Nat} {r : Bool} {out' : List (List Int)} {vis' : List Bool} (h : FLoop out vis a i r out' vis') : ∀ x, visB vis x = true → visB vis' x = true := by
  induction h with
  | done => exact fun x hx => hx
  | skip _ _ _ ih => exact ih
  | free => exact fun x hx => hx
  | @hit out vis a i b out' vis' hb hv hf hl ih =>
    intro x hx
    apply ih
    unfold visB at hx ⊢
    rw [List.getD_eq_getElem?_getD, List.getElem?_set]
    rw [List.getD_eq_getElem?_getD] at hx
    split
    · split
      · rfl
      · rename_i h1 h2; rw [← h1, List.getElem?_eq_none (by omega)] at hx; simp at hx
    · exact hx
  | @miss out vis a i b r out' vis' out'' vis'' hb hv hf hl hr ih1 ih2 =>
    intro x hx
    apply ih2
    apply ih1
    unfold visB at hx ⊢
    rw [List.getD_eq_getElem?_getD, List.getElem?_set]
    rw [List.getD_eq_getElem?_getD] at hx
    split
    · split
      · rfl
      · rename_i h1 h2; rw [← h1, List.getElem?_eq_none (by omega)] at hx; simp at hx
    · exact hx
theorem getI_lt {l : List Int} {i : Nat} {x : Int} (h : l[i]? = some x) : i < l.length := by
  rcases Nat.lt_or_ge i l.length with h' | h'
  · exact h'
  · rw [List.getElem?_eq_none h'] at h; cases h
theorem getI_mem {l : List Int} {i : Nat} {x : Int} (h : l[i]? = some x) : x ∈ l := List.mem_of_getElem? h
theorem GW.at {n : Nat} {out : List (List Int)} (h : GW n out) {a i b : Nat} (hb : (rowOf out a)[i]? = some (b : Int)) : b < n := by
  have := h.mem a _ (getI_mem hb); omega

/-- Without a pebble the game is as it was, and the points that were visited on the way have no free pebbles and lead to points that were visited. -/
theorem FLoop.no {n : Nat} {out : List (List Int)} {vis : List Bool} {a i : Nat} {r : Bool} {out' : List (List Int)} {vis' : List Bool} (h : FLoop out vis a i r out' vis') : GW n out → vis.length = n → r = false →
    out' = out ∧ (∀ (j : Nat) (b : Int), i ≤ j → (rowOf out a)[j]? = some b → visB vis' b.toNat = true) ∧
      ∀ x, visB vis' x = true → visB vis x = false → 2 ≤ (rowOf out x).length ∧ ∀ y ∈ rowOf out x, visB vis' y.toNat = true := by
  induction h with
  | done h => exact fun _ _ _ => ⟨rfl, fun j b hj hb => by have := getI_lt hb; omega, fun x h1 h2 => by rw [h1] at h2; cases h2⟩
  | @skip out vis a i b r out' vis' hb hv hl ih =>
    intro hw hn hr
    obtain ⟨h1, h2, h3⟩ := ih hw hn hr
    refine ⟨h1, fun j c hj hc => ?_, h3⟩
    by_cases e : j = i
    · subst e
      rw [hb] at hc; injection hc with hc; subst hc
      exact hl.vmono _ (by simpa using hv)
    · exact h2 j c (by omega) hc
  | free => intro _ _ hr; cases hr
  | hit => intro _ _ hr; cases hr
  | @miss out vis a i b r out' vis' out'' vis'' hb hv hf hl hrest ih1 ih2 =>
    intro hw hn hr
    have hbn := hw.at hb
    obtain ⟨h1, h2, h3⟩ := ih1 hw (by rw [List.length_set]; exact hn) rfl
    subst h1
    obtain ⟨k1, k2, k3⟩ := ih2 hw (by rw [hl.vlen, List.length_set]; exact hn) hr
    have hbv : visB vis' b = true := hl.vmono b (by rw [visB_set _ _ _ (by omega)]; simp)
    refine ⟨k1, fun j c hj hc => ?_, fun x hx hx0 => ?_⟩
    · by_cases e : j = i
      · subst e
        rw [hb] at hc; injection hc with hc; subst hc
        exact hrest.vmono _ (by simpa using hbv)
      · exact k2 j c (by omega) hc
    · cases hx1 : visB vis' x
      · exact k3 x hx hx1
      · by_cases e : x = b
        · subst e
          refine ⟨hf, fun y hy => ?_⟩
          obtain ⟨j, hj, rfl⟩ := List.getElem_of_mem hy
          exact hrest.vmono _ (h2 j _ (Nat.zero_le _) (List.getElem?_eq_getElem hj))
        · obtain ⟨q1, q2⟩ := h3 x hx1 (by rw [visB_set _ _ _ (by omega), hx0]; simp [e])
          exact ⟨q1, fun y hy => hrest.vmono _ (q2 y hy)⟩

/-- With a pebble: no set holds another number of covered edges, a has one less, the points that were visited before are as they were. -/
theorem FLoop.yes {n : Nat} {out : List (List Int)} {vis : List Bool} {a i : Nat} {r : Bool} {out' : List (List Int)} {vis' : List Bool} (h : FLoop out vis a i r out' vis') : GS n out → vis.length = n → a < n → visB vis a = true → r = true →
    GW n out' ∧ (∀ S, arcS out' S = arcS out S) ∧ (∀ x, x ≠ a → (rowOf out' x).length ≤ 2) ∧ (rowOf out' a).length + 1 = (rowOf out a).length ∧ ∀ x, visB vis x = true → x ≠ a → rowOf out' x = rowOf out x := by
  induction h with
  | done => intro _ _ _ _ hr; cases hr
  | skip _ _ _ ih => exact ih
  | @free out vis a i b hb hv hf =>
    intro hs hn ha hva _
    have hbn := hs.w.at hb
    have hab : a ≠ b := fun e => by subst e; rw [hva] at hv; cases hv
    refine ⟨move_w hs.w ha hbn, fun S => move_arc hs.w ha hbn hab hb S, fun x hx => ?_, ?_, fun x hx hxa => ?_⟩
    · rw [move_row hs.w ha hbn hab, if_neg hx]
      split
      · rw [List.length_append]; simp; omega
      · exact hs.two x
    · rw [move_row hs.w ha hbn hab, if_neg hab, if_pos rfl, len_eraseIdx (getI_lt hb)]
    · rw [move_row hs.w ha hbn hab, if_neg (fun e => by subst e; rw [hx] at hv; cases hv), if_neg hxa]
  | @hit out vis a i b out' vis' hb hv hf hl ih =>
    intro hs hn ha hva _
    have hbn := hs.w.at hb
    have hab : a ≠ b := fun e => by subst e; rw [hva] at hv; cases hv
    obtain ⟨h1, h2, h3, h4, h5⟩ := ih hs (by rw [List.length_set]; exact hn) hbn (by rw [visB_set _ _ _ (by omega)]; simp) rfl
    have hra : rowOf out' a = rowOf out a := h5 a (by rw [visB_set _ _ _ (by omega), hva]; simp) hab
    refine ⟨move_w h1 ha hbn, fun S => by rw [move_arc h1 ha hbn hab (by rw [hra]; exact hb), h2], fun x hx => ?_, ?_, fun x hx hxa => ?_⟩
    · rw [move_row h1 ha hbn hab, if_neg hx]
      split
      · rw [List.length_append]; have := hs.two b; simp; omega
      · rename_i e; exact h3 x e
    · rw [move_row h1 ha hbn hab, if_neg hab, if_pos rfl, hra, len_eraseIdx (getI_lt hb)]
    · have hxb : x ≠ b := fun e => by subst e; rw [hx] at hv; cases hv
      rw [move_row h1 ha hbn hab, if_neg hxb, if_neg hxa]
      exact h5 x (by rw [visB_set _ _ _ (by omega), hx]; simp) hxb
  | @miss out vis a i b r out' vis' out'' vis'' hb hv hf hl hrest ih1 ih2 =>
    intro hs hn ha hva hr
    have hbn := hs.w.at hb
    obtain ⟨rfl, -, -⟩ := hl.no hs.w (by rw [List.length_set]; exact hn) rfl
    have hm := hl.vmono
    obtain ⟨h1, h2, h3, h4, h5⟩ := ih2 hs (by rw [hl.vlen, List.length_set]; exact hn) ha (hm a (visB_mono (by omega) hva)) hr
    exact ⟨h1, h2, h3, h4, fun x hx hxa => h5 x (hm x (visB_mono (by omega) hx)) hxa⟩

/-- Points without free pebbles, whose edges lead to each other or to points that were visited. -/
def Cl (out : List (List Int)) (vis : List Bool) (C : Nat → Prop) : Prop := ∀ x, C x → visB vis x = false → 2 ≤ (rowOf out x).length ∧ ∀ y ∈ rowOf out x, C y.toNat ∨ visB vis y.toNat = true
theorem Cl.more {out : List (List Int)} {vis vis' : List Bool} {C : Nat → Prop} (h : Cl out vis C) (hm : ∀ x, visB vis x = true → visB vis' x = true) : Cl out vis' C := fun x hx hv => by
  have h0 : visB vis x = false := by
    cases e : visB vis x
    · rfl
    · rw [hm x e] at hv; cases hv
  obtain ⟨h1, h2⟩ := h x hx h0
  exact ⟨h1, fun y hy => (h2 y hy).imp id (hm _)⟩
theorem vset_mono {vis : List Bool} {b : Nat} (hb : b < vis.length) : ∀ x, visB vis x = true → visB (vis.set b true) x = true := fun x h => visB_mono hb h
theorem FLoop.apart {n : Nat} {C : Nat → Prop} {out : List (List Int)} {vis : List Bool} {a i : Nat} {r : Bool} {out' : List (List Int)} {vis' : List Bool} (h : FLoop out vis a i r out' vis') : GS n out → vis.length = n → a < n → visB vis a = true → Cl out vis C →
    ((∀ (j : Nat) (b : Int), i ≤ j → (rowOf out a)[j]? = some b → C b.toNat ∨ visB vis b.toNat = true) → r = false) ∧ (¬ C a → r = true → ∀ x, C x → rowOf out' x = rowOf out x) := by
  induction h with
  | done => intro _ _ _ _ _; exact ⟨fun _ => rfl, fun _ h => by cases h⟩
  | @skip out vis a i b r out' vis' hb hv hl ih =>
    intro hs hn ha hva hc
    obtain ⟨h1, h2⟩ := ih hs hn ha hva hc
    exact ⟨fun h => h1 (fun j c hj hc => h j c (by omega) hc), h2⟩
  | @free out vis a i b hb hv hf =>
    intro hs hn ha hva hc
    have hbn := hs.w.at hb
    have hab : a ≠ b := fun e => by subst e; rw [hva] at hv; cases hv
    have hnb : ¬ C b := fun h => by have := (hc b h hv).1; omega
    refine ⟨fun h => ?_, fun hna _ x hx => ?_⟩
    · rcases h i b (Nat.le_refl _) hb with h' | h'
      · exact absurd (by simpa using h') hnb
      · rw [show ((b : Int).toNat) = b by simp, hv] at h'; cases h'
    · rw [move_row hs.w ha hbn hab, if_neg (fun (e : x = b) => hnb (e ▸ hx)), if_neg (fun (e : x = a) => hna (e ▸ hx))]
  | @hit out vis a i b out' vis' hb hv hf hl ih =>
    intro hs hn ha hva hc
    have hbn := hs.w.at hb
    have hab : a ≠ b := fun e => by subst e; rw [hva] at hv; cases hv
    obtain ⟨h1, h2⟩ := ih hs (by rw [List.length_set]; exact hn) hbn (by rw [visB_set _ _ _ (by omega)]; simp) (hc.more (vset_mono (by omega)))
    have hnb : ¬ C b := fun h => by
      have := h1 (fun j c _ hcc => ((hc b h hv).2 c (getI_mem hcc)).imp id (vset_mono (by omega) _))
      cases this
    refine ⟨fun h => ?_, fun hna _ x hx => ?_⟩
    · rcases h i b (Nat.le_refl _) hb with h' | h'
      · exact absurd (by simpa using h') hnb
      · rw [show ((b : Int).toNat) = b by simp, hv] at h'; cases h'
    · obtain ⟨g1, -, -, -, -⟩ := hl.yes hs (by rw [List.length_set]; exact hn) hbn (by rw [visB_set _ _ _ (by omega)]; simp) rfl
      rw [move_row g1 ha hbn hab, if_neg (fun (e : x = b) => hnb (e ▸ hx)), if_neg (fun (e : x = a) => hna (e ▸ hx))]
      exact h2 hnb rfl x hx
  | @miss out vis a i b r out' vis' out'' vis'' hb hv hf hl hrest ih1 ih2 =>
    intro hs hn ha hva hc
    have hbn := hs.w.at hb
    obtain ⟨rfl, -, -⟩ := hl.no hs.w (by rw [List.length_set]; exact hn) rfl
    have hm : ∀ x, visB vis x = true → visB vis' x = true := fun x hx => hl.vmono x (visB_mono (by omega) hx)
    obtain ⟨h1, h2⟩ := ih2 hs (by rw [hl.vlen, List.length_set]; exact hn) ha (hm a hva) (hc.more hm)
    exact ⟨fun h => h1 (fun j c hj hcc => (h j c (by omega) hcc).imp id (hm _)), h2⟩
end Go.Proofs.YtcpkdnhpelkeoaaGreat
