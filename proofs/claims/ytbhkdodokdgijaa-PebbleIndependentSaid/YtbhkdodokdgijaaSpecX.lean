/-
  Assigning edges to their ends: it succeeds where no points span too many edges, and what it gives. No program stands in this text.
-/
import Derived.Test.YtbhkdodokdgijaaSpecW
namespace Go.Proofs.Ytbhkdodokdgijaa
set_option linter.unusedVariables false
set_option linter.unusedSimpArgs false

theorem cntB_pair {n p q S : Nat} (hp : p < n) (hq : q < n) (hpq : p ≠ q) (h1 : S.testBit p = true) (h2 : S.testBit q = true) : 2 ≤ cntB n S := by
  unfold cntB
  have h3 : (List.range n).countP (fun i => decide (p = i)) + (List.range n).countP (fun i => decide (q = i)) ≤ (List.range n).countP (fun i => S.testBit i) := by
    have := countP_or_and (fun i => decide (p = i)) (fun i => decide (q = i)) (List.range n)
    have h0 : (List.range n).countP (fun i => decide (p = i) && decide (q = i)) = 0 := by
      rw [List.countP_eq_zero]; intro i _; simp; intro e; omega
    rw [h0, Nat.add_zero] at this
    rw [← this]
    refine List.countP_mono_left (fun i _ hi => ?_)
    simp at hi
    rcases hi with rfl | rfl <;> assumption
  rw [countP_eq_range n p hp, countP_eq_range n q hq] at h3
  exact h3
theorem nodup_len_le {α : Type} [DecidableEq α] : ∀ (l r : List α), l.Nodup → (∀ x ∈ l, x ∈ r) → l.length ≤ r.length
  | [], r, _, _ => Nat.zero_le _
  | a :: l, r, h, hm => by
    rw [List.nodup_cons] at h
    have ha := hm a (by simp)
    have ih := nodup_len_le l (r.erase a) h.2 (fun x hx => by
      have hne : x ≠ a := fun e => h.1 (e ▸ hx)
      exact (List.mem_erase_of_ne hne).2 (hm x (by simp [hx])))
    rw [List.length_erase_of_mem ha] at ih
    have := List.length_pos_of_mem ha
    simp only [List.length_cons]
    omega
structure TInv (n : Nat) (es : List (Int × Int)) (ld : List (List Int)) (tl : List Int) (k : Nat) : Prop where
  inv : AInv n es.length es ld tl (List.replicate n false)
  low : ∀ v, ∀ j ∈ rowOf ld v, ∃ q : Nat, j = (q : Int) ∧ q < k
  all : ∀ j : Nat, j < k → ∃ v, v < n ∧ (j : Int) ∈ rowOf ld v
theorem TInv.start (n : Nat) (es : List (Int × Int)) : TInv n es (List.replicate n []) (List.replicate es.length 0) 0 :=
  ⟨⟨by simp, by simp, fun v _ _ => (by rw [rowOf_nil]; simp), fun v _ _ => (by rw [rowOf_nil]; simp), fun v _ _ j hj => (by rw [rowOf_nil] at hj; cases hj)⟩, fun v j hj => (by rw [rowOf_nil] at hj; cases hj), fun j hj => (by omega)⟩
section
variable {n : Nat} {es : List (Int × Int)} {ld : List (List Int)} {tl : List Int} {k : Nat} {ld' : List (List Int)} {tl' : List Int} {vis' : List Bool}
theorem TInv.rows (h : TInv n es ld tl k) (hk : k ≤ es.length) : RowsNat es.length ld := fun v j hj => by
  obtain ⟨q, rfl, hq⟩ := h.low v j hj
  omega
theorem TInv.fresh (h : TInv n es ld tl k) : ∀ v, v < n → visB (List.replicate n false) v = false → ¬ (k : Int) ∈ rowOf ld v := fun v _ _ hm => by
  obtain ⟨q, e, hq⟩ := h.low v _ hm
  omega
theorem TInv.step (h : TInv n es ld tl k) (hok : ∀ e ∈ es, OkE n e) (hk : k < es.length) (ha : AL es false ld tl (List.replicate n false) k 0 (some 0) ld' tl' vis') : TInv n es ld' tl' (k + 1) := by
  have hy := (ha.yes hok (h.rows (by omega)) (by simp) h.inv).1 rfl ⟨hk, h.fresh⟩ 0 rfl
  have hn : ∀ v, visB (List.replicate n false) v = false := fun v => visB_none n v
  refine ⟨hy.inv, fun v j hj => ?_, fun j hj => ?_⟩
  · by_cases hv : v < n
    · rcases hy.new v hv (hn v) j hj with e | ⟨u, -, -, hu⟩
      · exact ⟨k, e, by omega⟩
      · obtain ⟨q, e, hq⟩ := h.low u j hu
        exact ⟨q, e, by omega⟩
    · rw [rowOf_out (by rw [hy.inv.llen]; omega)] at hj; cases hj
  · by_cases e : j = k
    · subst e
      obtain ⟨v, h1, -, h2⟩ := hy.put
      exact ⟨v, h1, h2⟩
    · obtain ⟨v, h1, h2⟩ := h.all j (by omega)
      obtain ⟨u, h3, -, h4⟩ := hy.old v h1 (hn v) _ h2
      exact ⟨u, h3, h4⟩
theorem TInv.tail (h : TInv n es ld tl k) {j v : Nat} (hv : v < n) (hj : (j : Int) ∈ rowOf ld v) : tl.getD j 0 = (v : Int) ∧ (endOf es j 0 = v ∨ endOf es j 1 = v) := by
  obtain ⟨q, e, -, e2, e3⟩ := h.inv.at_ v hv (visB_none n v) _ hj
  have : j = q := by omega
  subst this
  exact ⟨e2, e3⟩
theorem sumF_one_le (n i c : Nat) : sumF n (fun j => if j = i then c else 0) ≤ c := by
  by_cases h : i < n
  · rw [sumF_one h]; exact Nat.le_refl _
  · have : sumF n (fun j => if j = i then c else 0) = sumF n (fun _ => 0) := sumF_congr (fun j hj => by rw [if_neg (by omega)])
    have h0 : ∀ m, sumF m (fun _ => 0) = 0 := fun m => by
      induction m with
      | zero => rfl
      | succ n ih => rw [sumF_succ, ih]
    rw [this, h0]; exact Nat.zero_le _
theorem cnt_sum (n V : Nat) (tl : List Int) : ∀ k, sumF n (fun x => if V.testBit x = true then (List.range k).countP (fun j => decide (tl.getD j 0 = (x : Int))) else 0) ≤ (List.range k).countP (fun j => V.testBit (tl.getD j 0).toNat) := by
  intro k
  induction k with
  | zero =>
    have : ∀ m, sumF m (fun x => if V.testBit x = true then (List.range 0).countP (fun j => decide (tl.getD j 0 = (x : Int))) else 0) = 0 := fun m => by
      induction m with
      | zero => rfl
      | succ n ih => rw [sumF_succ, ih]; simp
    rw [this]; exact Nat.zero_le _
  | succ k ih =>
    have e : ∀ x : Nat, (if V.testBit x = true then (List.range (k + 1)).countP (fun j => decide (tl.getD j 0 = (x : Int))) else 0) ≤ (if V.testBit x = true then (List.range k).countP (fun j => decide (tl.getD j 0 = (x : Int))) else 0) + (if x = (tl.getD k 0).toNat then (if V.testBit (tl.getD k 0).toNat = true then 1 else 0) else 0) := fun x => by
      rw [List.range_succ, List.countP_append, List.countP_cons, List.countP_nil]
      generalize tl.getD k 0 = y
      by_cases hV : V.testBit x = true
      · rw [if_pos hV, if_pos hV]
        by_cases hx : y = (x : Int)
        · have hx2 : x = y.toNat := by omega
          rw [if_pos hx2, ← hx2, if_pos hV, if_pos (decide_eq_true hx)]
          omega
        · rw [if_neg (by simpa using hx)]
          omega
      · rw [if_neg hV, if_neg hV]; omega
    have h1 := sumF_le (n := n) (fun x _ => e x)
    rw [sumF_add] at h1
    have h2 := sumF_one_le n (tl.getD k 0).toNat (if V.testBit (tl.getD k 0).toNat = true then 1 else 0)
    have h3 : (List.range (k + 1)).countP (fun j => V.testBit (tl.getD j 0).toNat) = (List.range k).countP (fun j => V.testBit (tl.getD j 0).toNat) + (if V.testBit (tl.getD k 0).toNat = true then 1 else 0) := by
      rw [List.range_succ, List.countP_append, List.countP_cons, List.countP_nil, Nat.zero_add]
    rw [h3]
    generalize (if V.testBit (tl.getD k 0).toNat = true then 1 else 0) = cc at h1 h2 ⊢
    omega
theorem cnt_edges (V : Nat) : ∀ k, k ≤ es.length → (((List.range k).countP (fun j => bothB V (edAt es j)) : Nat) : Int) = spanS (es.take k) V := by
  intro k
  induction k with
  | zero => intro _; simp [spanS]
  | succ k ih =>
    intro hk
    have e : es.take (k + 1) = es.take k ++ [edAt es k] := by
      rw [List.take_succ_eq_append_getElem (by omega)]
      unfold edAt
      rw [List.getD_eq_getElem?_getD, List.getElem?_eq_getElem (by omega)]; rfl
    rw [List.range_succ, List.countP_append, e, spanS_app, spanS_one, ← ih (by omega)]
    simp only [List.countP_cons, List.countP_nil]
    split <;> simp
theorem TInv.row_le (h : TInv n es ld tl k) {x : Nat} (hx : x < n) : (rowOf ld x).length ≤ (List.range k).countP (fun j => decide (tl.getD j 0 = (x : Int))) := by
  have hn := h.inv.nod x hx (visB_none n x)
  have := nodup_len_le (rowOf ld x) (((List.range k).filter (fun j => decide (tl.getD j 0 = (x : Int)))).map fun (j : Nat) => (j : Int)) hn (fun j hj => by
    obtain ⟨q, rfl, hq⟩ := h.low x j hj
    rw [List.mem_map]
    exact ⟨q, List.mem_filter.2 ⟨List.mem_range.2 hq, decide_eq_true (h.tail hx hj).1⟩, rfl⟩)
  rwa [List.length_map, ← List.countP_eq_length_filter] at this
/-- Where no points span too many edges a place is found. -/
theorem TInv.found (h : TInv n es ld tl k) (hok : ∀ e ∈ es, OkE n e) (hk : k < es.length) (hsp : ∀ V, 2 ≤ cntB n V → spanS es V ≤ 2 * (cntB n V : Int)) (ha : AL es false ld tl (List.replicate n false) k 0 none ld' tl' vis') : False := by
  obtain ⟨rfl, rfl, h3, -, h5⟩ := ha.no hok (h.rows (by omega)) (by simp) (fun _ => hk) rfl
  have hlen : vis'.length = n := by rw [ha.vlen]; simp
  have hend := h3 rfl
  have e0 := hend 0 (by omega) (by omega)
  have e1 := hend 1 (by omega) (by omega)
  have hk2 := hok _ (edAt_mem hk)
  obtain ⟨q1, q2, q3, q4, q5⟩ := hk2
  have hb : bothB (visS vis') (edAt es k) = true := by
    unfold bothB
    rw [visS_bit, visS_bit]
    unfold endOf at e0 e1
    simp only [if_true] at e0
    rw [if_neg (by omega)] at e1
    rw [e0, e1]; rfl
  have hb' := hb
  unfold bothB at hb'
  rw [Bool.and_eq_true] at hb'
  have h2 : 2 ≤ cntB n (visS vis') := cntB_pair (p := (edAt es k).1.toNat) (q := (edAt es k).2.toNat) (by omega) (by omega) (by omega) hb'.1 hb'.2
  have s1 : sumF n (fun i => if (visS vis').testBit i = true then 2 else 0) ≤ sumF n (fun x => if (visS vis').testBit x = true then (List.range k).countP (fun j => decide (tl'.getD j 0 = (x : Int))) else 0) := sumF_le (fun x hx => by
    by_cases hV : (visS vis').testBit x = true
    · rw [if_pos hV, if_pos hV]
      rw [visS_bit] at hV
      have := (h5 x hV (visB_none n x)).1
      have := h.row_le hx
      omega
    · rw [if_neg hV, if_neg hV]; exact Nat.le_refl _)
  rw [sumF_bits] at s1
  have s2 := cnt_sum n (visS vis') tl' k
  have s3 : (List.range k).countP (fun j => (visS vis').testBit (tl'.getD j 0).toNat) ≤ (List.range k).countP (fun j => bothB (visS vis') (edAt es j)) := List.countP_mono_left (fun j hj hV => by
    obtain ⟨v, hv, hm⟩ := h.all j (List.mem_range.1 hj)
    have ht := (h.tail hv hm).1
    rw [ht, Int.toNat_natCast, visS_bit] at hV
    have := (h5 v hV (visB_none n v)).2 j hm
    unfold EV endOf at this
    simp only [if_true] at this
    rw [if_neg (by omega)] at this
    unfold bothB
    rw [visS_bit, visS_bit, this.1, this.2]; rfl)
  have s4 := cnt_edges (es := es) (visS vis') k (by omega)
  have s5 : spanS es (visS vis') = spanS (es.take (k + 1)) (visS vis') + spanS (es.drop (k + 1)) (visS vis') := by rw [← spanS_app, List.take_append_drop]
  have e : es.take (k + 1) = es.take k ++ [edAt es k] := by
    rw [List.take_succ_eq_append_getElem hk]
    unfold edAt
    rw [List.getD_eq_getElem?_getD, List.getElem?_eq_getElem hk]; rfl
  rw [e, spanS_app, spanS_one, if_pos hb] at s5
  have s6 := spanS_nonneg (es.drop (k + 1)) (visS vis')
  have s7 := hsp _ h2
  omega
theorem count_range (l : List Int) (v : Int) : l.count v = (List.range l.length).countP (fun j => decide (l.getD j 0 = v)) := by
  induction l with
  | nil => rfl
  | cons a l ih =>
    rw [List.count_cons, ih, List.length_cons, List.range_succ_eq_map, List.countP_cons, List.countP_map]
    by_cases h : a = v
    · simp [h]; rfl
    · simp [h]; rfl
/-- What has been assigned: each tail is an end, and no point is more than two tails. -/
theorem TInv.fin (h : TInv n es ld tl es.length) : tl.length = es.length ∧ (∀ j, j < es.length → tl.getD j 0 = (((endOf es j 0 : Nat)) : Int) ∨ tl.getD j 0 = (((endOf es j 1 : Nat)) : Int)) ∧ ∀ v, tl.count v ≤ 2 := by
  refine ⟨h.inv.tlen, fun j hj => ?_, fun v => ?_⟩
  · obtain ⟨v, hv, hm⟩ := h.all j hj
    obtain ⟨e1, e2⟩ := h.tail hv hm
    rcases e2 with e2 | e2
    · left; rw [e1, e2]
    · right; rw [e1, e2]
  · rw [count_range, h.inv.tlen]
    by_cases hv : ∃ x : Nat, x < n ∧ v = (x : Int)
    · obtain ⟨x, hx, rfl⟩ := hv
      have hle := nodup_len_le (((List.range es.length).filter (fun j => decide (tl.getD j 0 = (x : Int)))).map fun (j : Nat) => (j : Int)) (rowOf ld x) (by
        unfold List.Nodup
        rw [List.pairwise_map]
        exact (List.nodup_range.filter _).imp (fun {a b} hab e => hab (by omega))) (fun y hy => by
        obtain ⟨j, hj, rfl⟩ := List.mem_map.1 hy
        rw [List.mem_filter, List.mem_range] at hj
        obtain ⟨u, hu, hm⟩ := h.all j hj.1
        have e1 := (h.tail hu hm).1
        have e2 : tl.getD j 0 = (x : Int) := of_decide_eq_true hj.2
        have : u = x := by omega
        subst this
        exact hm)
      rw [List.length_map, ← List.countP_eq_length_filter] at hle
      have := h.inv.two x hx (visB_none n x)
      omega
    · have : (List.range es.length).countP (fun j => decide (tl.getD j 0 = v)) = 0 := by
        rw [List.countP_eq_zero]
        intro j hj hd
        obtain ⟨u, hu, hm⟩ := h.all j (List.mem_range.1 hj)
        have e1 := (h.tail hu hm).1
        have e2 : tl.getD j 0 = v := of_decide_eq_true hd
        exact hv ⟨u, hu, by omega⟩
      omega
end
end Go.Proofs.Ytbhkdodokdgijaa
