/-
  The search for tails finds them if they exist; a sparse graph has a right certificate. No program stands in this text.
-/
import Derived.Test.YtohmafmdpajmlaaSpecI
namespace Go.Proofs.Ytohmafmdpajmlaa
set_option linter.unusedVariables false
set_option linter.unusedSimpArgs false

def bump (out : List Int) (v : Int) : List Int := out.set v.toNat (out.getD v.toNat 0 + 1)
/-- The search: the edges that are still to come, how often each point is a tail, the tails so far. -/
def findR : List (Int × Int) → List Int → List Int → Option (List Int)
  | [], _, tails => some tails
  | e :: rest, out, tails =>
    match (if out.getD e.1.toNat 0 < 2 then findR rest (bump out e.1) (tails ++ [e.1]) else none) with
    | some l => some l
    | none => if out.getD e.2.toNat 0 < 2 then findR rest (bump out e.2) (tails ++ [e.2]) else none

def InN (n : Nat) (e : Int × Int) : Prop := 0 ≤ e.1 ∧ e.1 < n ∧ 0 ≤ e.2 ∧ e.2 < n
def OutOk (n : Nat) (out : List Int) : Prop := out.length = n ∧ ∀ v : Nat, v < n → 0 ≤ out.getD v 0 ∧ out.getD v 0 ≤ 2

theorem bump_getD {n : Nat} {out : List Int} {v : Int} (hl : out.length = n) (h0 : 0 ≤ v) (h1 : v < n) (u : Nat) : (bump out v).getD u 0 = out.getD u 0 + if (u : Int) = v then 1 else 0 := by
  unfold bump
  rw [List.getD_eq_getElem?_getD, List.getElem?_set]
  by_cases e : v.toNat = u
  · subst e
    rw [if_pos rfl, if_pos (by omega), if_pos (by omega)]
    rfl
  · rw [if_neg e, if_neg (by omega), List.getD_eq_getElem?_getD]; omega
theorem bump_ok {n : Nat} {out : List Int} {v : Int} (h : OutOk n out) (h0 : 0 ≤ v) (h1 : v < n) (h2 : out.getD v.toNat 0 < 2) : OutOk n (bump out v) := by
  refine ⟨by unfold bump; rw [List.length_set]; exact h.1, fun u hu => ?_⟩
  rw [bump_getD h.1 h0 h1]
  have := h.2 u hu
  by_cases e : (u : Int) = v
  · rw [if_pos e]; subst e; rw [Int.toNat_natCast] at h2; omega
  · rw [if_neg e]; omega

/-- What the search finds is right. -/
theorem findR_sound {n : Nat} : ∀ (L : List (Int × Int)) (out tails l : List Int), OutOk n out → (∀ e ∈ L, InN n e) → findR L out tails = some l →
    ∃ t, l = tails ++ t ∧ Fits L t ∧ ∀ v : Nat, v < n → out.getD v 0 + (t.count (v : Int) : Int) ≤ 2 := by
  intro L
  induction L with
  | nil =>
    intro out tails l ho _ h
    simp only [findR, Option.some.injEq] at h
    exact ⟨[], by simp [h], ⟨rfl, fun k e x h => by simp at h⟩, fun v hv => by have := (ho.2 v hv).2; simpa using this⟩
  | cons e rest ih =>
    intro out tails l ho hL h
    have he := hL e (by simp)
    have hrest : ∀ e' ∈ rest, InN n e' := fun e' h' => hL e' (by simp [h'])
    have key : ∀ v : Int, (v = e.1 ∨ v = e.2) → out.getD v.toNat 0 < 2 → findR rest (bump out v) (tails ++ [v]) = some l → ∃ t, l = tails ++ t ∧ Fits (e :: rest) t ∧ ∀ v : Nat, v < n → out.getD v 0 + (t.count (v : Int) : Int) ≤ 2 := by
      intro v hv h2 hf
      have hv0 : 0 ≤ v ∧ v < n := by unfold InN at he; rcases hv with h | h <;> subst h <;> omega
      obtain ⟨t, e1, hft, hc⟩ := ih _ _ _ (bump_ok ho hv0.1 hv0.2 h2) hrest hf
      refine ⟨v :: t, by rw [e1]; simp, ⟨by simp [hft.1], ?_⟩, ?_⟩
      · intro k e' x h3 h4
        cases k with
        | zero => simp at h3 h4; subst h3 h4; exact hv
        | succ k => exact hft.2 k e' x (by simpa using h3) (by simpa using h4)
      · intro u hu
        have := hc u hu
        rw [bump_getD ho.1 hv0.1 hv0.2] at this
        rw [List.count_cons]
        by_cases e2 : (u : Int) = v
        · rw [if_pos e2] at this
          rw [if_pos (by simpa using e2.symm : (v == (u : Int)) = true)]
          omega
        · rw [if_neg e2] at this
          rw [if_neg (by simpa using fun h => e2 h.symm : ¬ (v == (u : Int)) = true)]
          omega
    unfold findR at h
    split at h
    · rename_i l' hl'
      simp only [Option.some.injEq] at h
      subst h
      split at hl'
      · rename_i h2; exact key e.1 (.inl rfl) h2 hl'
      · cases hl'
    · split at h
      · rename_i h2; exact key e.2 (.inr rfl) h2 h
      · cases h

/-- If there are tails, the search finds some. -/
theorem findR_complete {n : Nat} : ∀ (L : List (Int × Int)) (out tails t : List Int), OutOk n out → (∀ e ∈ L, InN n e) → Fits L t → (∀ v : Nat, v < n → out.getD v 0 + (t.count (v : Int) : Int) ≤ 2) → ∃ l, findR L out tails = some l := by
  intro L
  induction L with
  | nil => intro out tails t _ _ _ _; exact ⟨tails, rfl⟩
  | cons e rest ih =>
    intro out tails t ho hL hf hc
    have he := hL e (by simp)
    have hrest : ∀ e' ∈ rest, InN n e' := fun e' h' => hL e' (by simp [h'])
    cases t with
    | nil => have := hf.1; simp at this
    | cons x t =>
      have hx := hf.2 0 e x rfl rfl
      have hft : Fits rest t := ⟨by have := hf.1; simpa using this, fun k e' y h1 h2 => hf.2 (k + 1) e' y (by simpa using h1) (by simpa using h2)⟩
      have hx0 : 0 ≤ x ∧ x < n := by unfold InN at he; rcases hx with h | h <;> subst h <;> omega
      have h2 : out.getD x.toNat 0 < 2 := by
        have := hc x.toNat (by omega)
        rw [show ((x.toNat : Nat) : Int) = x by omega, List.count_cons, if_pos (by simp : (x == x) = true)] at this
        omega
      have hcb : ∀ v : Nat, v < n → (bump out x).getD v 0 + (t.count (v : Int) : Int) ≤ 2 := by
        intro u hu
        have := hc u hu
        rw [bump_getD ho.1 hx0.1 hx0.2]
        rw [List.count_cons] at this
        by_cases e2 : (u : Int) = x
        · rw [if_pos e2]
          rw [if_pos (by simpa using e2.symm : (x == (u : Int)) = true)] at this
          omega
        · rw [if_neg e2]
          rw [if_neg (by simpa using fun h => e2 h.symm : ¬ (x == (u : Int)) = true)] at this
          omega
      obtain ⟨l, hl⟩ := ih (bump out x) (tails ++ [x]) t (bump_ok ho hx0.1 hx0.2 h2) hrest hft hcb
      unfold findR
      rcases hx with h | h
      · subst h
        rw [if_pos h2, hl]
        exact ⟨l, rfl⟩
      · subst h
        split
        · rename_i l' _; exact ⟨l', rfl⟩
        · rw [if_pos h2]; exact ⟨l, hl⟩

/-! ### The certificate -/
def zeros (n : Nat) : List Int := List.replicate n 0
theorem zeros_ok (n : Nat) : OutOk n (zeros n) := by
  refine ⟨by simp [zeros], fun v hv => ?_⟩
  have : (zeros n).getD v 0 = 0 := by simp [zeros, List.getD_eq_getElem?_getD, List.getElem?_replicate, hv]
  rw [this]; omega
def copies3 (es : List (Int × Int)) (i : Nat) : List (Int × Int) := es.getD i (0, 0) :: es.getD i (0, 0) :: es.getD i (0, 0) :: es
/-- The list for edge i, if there is one. -/
def certI (n : Nat) (es : List (Int × Int)) (i : Nat) : Option (List Int) := (findR (copies3 es i) (zeros n) []).map fun l => l.drop 3 ++ l.take 3
def certTo (n : Nat) (es : List (Int × Int)) : Nat → Option (List (List Int))
  | 0 => some []
  | k + 1 => match certTo n es k with
    | none => none
    | some out => match certI n es k with
      | none => none
      | some l => some (out ++ [l])

theorem inN_of {n : Nat} {es : List (Int × Int)} (hv : validB n es = true) : ∀ e ∈ es, InN n e := fun e he => by
  have := ends_mem hv e he; unfold InN; omega
theorem copies3_in {n : Nat} {es : List (Int × Int)} {i : Nat} (hv : validB n es = true) (hi : i < es.length) : ∀ e ∈ copies3 es i, InN n e := by
  intro e he
  have h0 : es.getD i (0, 0) ∈ es := by rw [List.getD_eq_getElem?_getD, List.getElem?_eq_getElem hi]; exact List.getElem_mem hi
  unfold copies3 at he
  simp only [List.mem_cons] at he
  rcases he with rfl | rfl | rfl | he
  · exact inN_of hv _ h0
  · exact inN_of hv _ h0
  · exact inN_of hv _ h0
  · exact inN_of hv _ he

theorem certI_right {n : Nat} {es : List (Int × Int)} {i : Nat} {l : List Int} (hv : validB n es = true) (hi : i < es.length) (h : certI n es i = some l) : rightB es i l = true := by
  unfold certI at h
  rw [Option.map_eq_some_iff] at h
  obtain ⟨l0, hl0, rfl⟩ := h
  obtain ⟨t, e1, hf, hc⟩ := findR_sound _ _ _ _ (zeros_ok n) (copies3_in hv hi) hl0
  rw [List.nil_append] at e1
  have e2 := e1.symm
  subst e2
  have hlen : t.length = es.length + 3 := by rw [hf.1]; simp [copies3]
  match t, hlen with
  | a :: b :: c :: t, hlen =>
    have htl : t.length = es.length := by simpa using hlen
    have hend : ∀ k, k < es.length + 3 → tailAt es i (t ++ [a, b, c]) k = true := by
      intro k hk
      by_cases hke : k < es.length
      · refine tailAt_yes (x := (es.getD k (0, 0)).1) (y := (es.getD k (0, 0)).2) (t := t.getD k 0) (by rw [edgeOf_lt hke]) (by rw [edgeOf_lt hke]) ?_ ?_
        · rw [List.getD_eq_getElem?_getD, List.getElem?_append_left (by omega), ← List.getD_eq_getElem?_getD]
        · have := hf.2 (k + 3) (es.getD k (0, 0)) (t.getD k 0) (by simp [copies3, List.getD_eq_getElem?_getD, List.getElem?_eq_getElem hke]) (by simp [List.getD_eq_getElem?_getD, List.getElem?_eq_getElem (by omega : k < t.length)])
          exact this
      · have hx : ∀ j, j < 3 → k = es.length + j → tailAt es i (t ++ [a, b, c]) k = true := by
          intro j hj hkj
          have := hf.2 j (es.getD i (0, 0)) ([a, b, c].getD j 0)
          refine tailAt_yes (x := (es.getD i (0, 0)).1) (y := (es.getD i (0, 0)).2) (t := [a, b, c].getD j 0) (by rw [edgeOf_ge hke]) (by rw [edgeOf_ge hke]) ?_ ?_
          · rw [List.getD_eq_getElem?_getD, List.getElem?_append_right (by omega), List.getD_eq_getElem?_getD, show k - t.length = j by omega]
          · match j, hj with
            | 0, _ => exact this rfl rfl
            | 1, _ => exact this rfl rfl
            | 2, _ => exact this rfl rfl
        exact hx (k - es.length) (by omega) (by omega)
    have hcnt : ∀ v : Int, cnt (t ++ [a, b, c]) v ≤ 2 := by
      intro v
      by_cases hv0 : 0 ≤ v ∧ v < n
      · have := hc v.toNat (by omega)
        rw [show ((v.toNat : Nat) : Int) = v by omega] at this
        have hz : 0 ≤ (zeros n).getD v.toNat 0 := ((zeros_ok n).2 v.toNat (by omega)).1
        have e2 : (t ++ [a, b, c]).count v = (a :: b :: c :: t).count v := by
          rw [List.count_append]; simp only [List.count_cons, List.count_nil]; omega
        unfold cnt
        rw [e2]; omega
      · have : v ∉ t ++ [a, b, c] := by
          intro hm
          obtain ⟨k, hk, rfl⟩ := getD_of_mem hm
          have h1 := hend k (by simp at hk; omega)
          unfold tailAt at h1
          simp only [Bool.or_eq_true, decide_eq_true_eq] at h1
          have h2 := edgeOf_ends hv (i := i) (k := k) hi
          omega
        rw [cnt_zero this]; omega
    show rightB es i (List.drop 3 (a :: b :: c :: t) ++ List.take 3 (a :: b :: c :: t)) = true
    have e3 : List.drop 3 (a :: b :: c :: t) ++ List.take 3 (a :: b :: c :: t) = t ++ [a, b, c] := by simp
    rw [e3]
    refine rightB_yes (by simp; omega) (fun j hj => ?_)
    have hj' : j < es.length + 3 := by simp at hj; omega
    rw [rightAt_of_yes hj (hend j hj') rfl rfl, decide_eq_true_eq]
    have h1 := cnt_take (t ++ [a, b, c]) j hj ((t ++ [a, b, c]).getD j 0)
    rw [if_pos rfl] at h1
    have h2 := cnt_mono (t ++ [a, b, c]) (j + 1) ((t ++ [a, b, c]).getD j 0)
    have h3 := hcnt ((t ++ [a, b, c]).getD j 0)
    omega

theorem certTo_right {n : Nat} {es : List (Int × Int)} (hv : validB n es = true) : ∀ (k : Nat) (ls : List (List Int)), k ≤ es.length → certTo n es k = some ls → ls.length = k ∧ ∀ j, j < k → rightB es j (ls.getD j []) = true := by
  intro k
  induction k with
  | zero =>
    intro ls _ h
    unfold certTo at h
    simp at h
    subst h
    exact ⟨rfl, by omega⟩
  | succ k ih =>
    intro ls hk h
    unfold certTo at h
    split at h
    · cases h
    · rename_i out hout
      split at h
      · cases h
      · rename_i l hl
        simp only [Option.some.injEq] at h
        subst h
        obtain ⟨h1, h2⟩ := ih out (by omega) hout
        refine ⟨by simp [h1], fun j hj => ?_⟩
        rw [List.getD_eq_getElem?_getD, List.getElem?_append]
        by_cases e : j < k
        · rw [if_pos (by omega), ← List.getD_eq_getElem?_getD]; exact h2 j e
        · have : j = k := by omega
          subst this
          rw [if_neg (by omega), h1]
          simp
          exact certI_right hv (by omega) hl
theorem cert_sparse {n : Nat} {es : List (Int × Int)} {ls : List (List Int)} (hv : validB n es = true) (h : certTo n es es.length = some ls) : sparseB n es ls = true := by
  obtain ⟨h1, h2⟩ := certTo_right hv _ _ (Nat.le_refl _) h
  exact sparseB_yes hv h1 (fun j hj => h2 j (by omega))

theorem ascB_of_pairwise {n : Nat} {V : List Int} (hp : V.Pairwise (· < ·)) (hv : ∀ v ∈ V, 0 ≤ v ∧ v < n) : ascB n V = true := by
  rw [ascB_iff]
  intro j hj
  have := hv _ (mem_getD hj)
  refine ⟨this.1, this.2, ?_⟩
  rcases Nat.eq_zero_or_pos j with h | h
  · exact .inl h
  · right
    have h1 := List.pairwise_iff_getElem.1 hp (j - 1) j (by omega) hj (by omega)
    rw [List.getD_eq_getElem?_getD, List.getElem?_eq_getElem (by omega), List.getD_eq_getElem?_getD, List.getElem?_eq_getElem hj]
    exact h1

/-- A sparse graph: the search finds a list for each edge. -/
theorem certI_some {n : Nat} {es : List (Int × Int)} {i : Nat} (hn : n ≤ 60) (hv : validB n es = true) (hs : sparseAll n es = true) (hi : i < es.length) : ∃ l, certI n es i = some l := by
  have hin := copies3_in hv hi
  have hends := ends_mem hv
  have hei : es.getD i (0, 0) ∈ es := by rw [List.getD_eq_getElem?_getD, List.getElem?_eq_getElem hi]; exact List.getElem_mem hi
  obtain ⟨t, hf, hc⟩ := orient n (copies3 es i) (fun e he => hin e he) (fun V hp hvV => by
    have hasc := ascB_of_pairwise hp hvV
    have hl : setS V < 2 ^ n := setS_lt (fun p hp' => by have := hvV p hp'; omega)
    have hok := sparseAll_iff.1 hs _ hl
    have hcnt := cntB_setS hasc (by omega)
    have hsp := spanS_eq hasc (es := es) (fun e he => by have := hends e he; omega)
    unfold copies3
    simp only [List.countP_cons]
    by_cases h2 : 2 ≤ V.length
    · have := okSet_use hok (by omega)
      rw [hsp, hcnt] at this
      unfold spanI at this
      split <;> omega
    · have h0 : ∀ e ∈ es, inB V e = false := by
        intro e he
        cases hb : inB V e with
        | false => rfl
        | true =>
          exfalso
          unfold inB at hb
          simp only [Bool.and_eq_true, decide_eq_true_eq] at hb
          have := hends e he
          match V, h2 with
          | [], _ => simp at hb
          | [v], _ => simp at hb; omega
          | _ :: _ :: _, h2 => simp at h2
      rw [h0 _ hei]
      have : es.countP (inB V) = 0 := by rw [List.countP_eq_zero]; intro e he; rw [h0 e he]; decide
      rw [this]; simp)
  obtain ⟨l, hl⟩ := findR_complete (copies3 es i) (zeros n) [] t (zeros_ok n) hin hf (fun v hv' => by
    have hz : (zeros n).getD v 0 = 0 := by simp [zeros, List.getD_eq_getElem?_getD, List.getElem?_replicate, hv']
    rw [hz]
    have := hc (v : Int)
    omega)
  exact ⟨l.drop 3 ++ l.take 3, by unfold certI; rw [hl]; rfl⟩
theorem certTo_some {n : Nat} {es : List (Int × Int)} (hn : n ≤ 60) (hv : validB n es = true) (hs : sparseAll n es = true) : ∀ k, k ≤ es.length → ∃ ls, certTo n es k = some ls := by
  intro k
  induction k with
  | zero => intro _; exact ⟨[], rfl⟩
  | succ k ih =>
    intro hk
    obtain ⟨ls, hls⟩ := ih (by omega)
    obtain ⟨l, hl⟩ := certI_some hn hv hs (i := k) (by omega)
    exact ⟨ls ++ [l], by unfold certTo; rw [hls, hl]⟩
theorem certTo_none_mono {n : Nat} {es : List (Int × Int)} {k : Nat} (h : certTo n es k = none) : ∀ d, certTo n es (k + d) = none := by
  intro d
  induction d with
  | zero => exact h
  | succ d ih => show certTo n es (k + d + 1) = none; unfold certTo; rw [ih]
/-- The search fails exactly at graphs that are not sparse. -/
theorem cert_iff {n : Nat} {es : List (Int × Int)} (hn : n ≤ 60) (hv : validB n es = true) : (certTo n es es.length).isSome = sparseAll n es := by
  rw [Bool.eq_iff_iff]
  constructor
  · intro h
    obtain ⟨ls, hls⟩ := Option.isSome_iff_exists.1 h
    exact sparse_all_sound (cert_sparse hv hls)
  · intro h
    obtain ⟨ls, hls⟩ := certTo_some hn hv h es.length (Nat.le_refl _)
    rw [hls]; rfl
end Go.Proofs.Ytohmafmdpajmlaa
