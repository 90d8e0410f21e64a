/-
  Redundant, Violation, Orientation of the pebble layer: joined texts.
-/
import Derived.Test.YtcpkdnhpelkeoaaGreatMp
import Derived.Test.YtcpkdnhpelkeoaaGreatMa
namespace Go.Proofs.YtcpkdnhpelkeoaaGreat
set_option linter.unusedVariables false
set_option linter.unusedSimpArgs false
open Go.RowKit Go.Sort

theorem spa_n {n : Nat} {es : List (Int × Int)} (hn : n ≤ 60) (hok : ∀ e ∈ es, OkE n e) (h : SpA es) (V : Nat) (h2 : 2 ≤ cntB n V) : spanS es V ≤ 2 * (cntB n V : Int) - 3 := by
  have e0 : cntB n (V % 2 ^ n) = cntB n V := by
    unfold cntB
    refine List.countP_congr (fun i hi => ?_)
    have := List.mem_range.1 hi
    rw [Nat.testBit_mod_two_pow, decide_eq_true this, Bool.true_and]
  have e1 := cntB_full (S := V % 2 ^ n) hn (fun x hx => by rw [Nat.testBit_mod_two_pow, decide_eq_false (by omega), Bool.false_and])
  rw [e0] at e1
  have e2 : spanS es (V % 2 ^ n) = spanS es V := spanS_congr (fun e hm => by
    obtain ⟨p1, p2, p3, p4, p5⟩ := hok e hm
    unfold bothB
    rw [Nat.testBit_mod_two_pow, Nat.testBit_mod_two_pow, decide_eq_true (by omega : e.1.toNat < n), decide_eq_true (by omega : e.2.toNat < n), Bool.true_and, Bool.true_and])
  have := h (V % 2 ^ n) (by rw [e1]; exact h2)
  rw [e1, e2] at this
  exact this
theorem spa_three {n : Nat} {es : List (Int × Int)} (hn : n ≤ 60) (hok : ∀ e ∈ es, OkE n e) (h : SpA es) (e : Int × Int) (V : Nat) (h2 : 2 ≤ cntB n V) : spanS (es ++ [e, e, e]) V ≤ 2 * (cntB n V : Int) := by
  have h1 := spa_n hn hok h V h2
  rw [spanS_app]
  have h3 := spanS_le [e, e, e] V
  simp at h3
  omega
theorem right_of_tails {n : Nat} {es : List (Int × Int)} {i : Nat} {l : List Int} (hok : ∀ e ∈ es, OkE n e) (hi : i < es.length) (hl : l.length = es.length + 3)
    (ht : ∀ j, j < es.length + 3 → l.getD j 0 = (((endOf (es ++ [edAt es i, edAt es i, edAt es i]) j 0 : Nat)) : Int) ∨ l.getD j 0 = (((endOf (es ++ [edAt es i, edAt es i, edAt es i]) j 1 : Nat)) : Int)) (hc : ∀ v, l.count v ≤ 2) : rightB es i l = true := by
  refine rightB_yes hl (fun j hj => ?_)
  have hoki := hok _ (edAt_mem hi)
  have hE : edAt (es ++ [edAt es i, edAt es i, edAt es i]) j = edgeOf es i j := by
    unfold edAt edgeOf
    by_cases h : j < es.length
    · rw [if_pos h, List.getD_eq_getElem?_getD, List.getElem?_append_left h, List.getD_eq_getElem?_getD]
    · rw [if_neg h, List.getD_eq_getElem?_getD, List.getElem?_append_right (by omega)]
      have : j - es.length = 0 ∨ j - es.length = 1 ∨ j - es.length = 2 := by omega
      rcases this with e | e | e <;> rw [e] <;> rfl
  have hokE : OkE n (edgeOf es i j) := by
    rw [← hE]
    unfold edAt
    by_cases h : j < es.length
    · rw [List.getD_eq_getElem?_getD, List.getElem?_append_left h, ← List.getD_eq_getElem?_getD]; exact hok _ (edAt_mem h)
    · rw [List.getD_eq_getElem?_getD, List.getElem?_append_right (by omega)]
      have : j - es.length = 0 ∨ j - es.length = 1 ∨ j - es.length = 2 := by omega
      rcases this with e | e | e <;> rw [e] <;> exact hoki
  obtain ⟨h1, h2, h3, h4, h5⟩ := hokE
  have htj := ht j (by omega)
  unfold endOf at htj
  rw [if_pos rfl, if_neg (by omega), hE] at htj
  have ht2 : tailAt es i l j = true := by
    unfold tailAt
    simp only [Bool.or_eq_true, decide_eq_true_eq]
    omega
  rw [rightAt_of_yes hj ht2 rfl rfl, decide_eq_true_eq]
  have h6 := cnt_take l j hj (l.getD j 0)
  rw [if_pos rfl] at h6
  have h7 := cnt_mono l (j + 1) (l.getD j 0)
  have h8 := hc (l.getD j 0)
  unfold cnt at h6 h7 ⊢
  omega
def OriR (N : Int) (es : List (Int × Int)) (ls : List (List Int)) (r : Bool) : Prop :=
  if validB N es = true ∧ rankE es = es.length then r = true ∧ ls.length = es.length ∧ ∀ j, j < es.length → rightB es j (ls.getD j []) = true else r = false ∧ ls = []
def OriPost (w : World) (N : Int) (es : List (Int × Int)) (e : Ending) (w' : World) : Prop :=
  Below w.heap.size w w' ∧ ∃ B c ls r, e = .returned (.tuple #[.slice B ls.length c, .bool r]) ∧ OwnL w' w.heap.size B ls.length c ls ∧ OriR N es ls r
/-- What lies in memory while one list of tails is made. -/
structure OF (w : World) (v : Nat) (n : Nat) (A : Option Addr) (m c x y : Nat) (wi : World) : Prop where
  p0 : wi.cell? ⟨w.heap.size, 0, none⟩ = some (.int .i64 (n : Int))
  p1 : wi.cell? ⟨w.heap.size, 1, none⟩ = some (.slice A m c)
  v0 : wi.cell? ⟨v, 0, none⟩ = some (.int .i64 (x : Int))
  v1 : wi.cell? ⟨v, 1, none⟩ = some (.int .i64 (y : Int))
  lt : w.heap.size < v
  size : v < wi.heap.size
theorem OF.next {w wi wj : World} {v n m c x y : Nat} {A : Option Addr} (h : OF w v n A m c x y wi) (hb : Below (v + 1) wi wj) : OF w v n A m c x y wj := by
  have h1 := h.lt
  exact ⟨by rw [hb.cell (by simp; omega)]; exact h.p0, by rw [hb.cell (by simp; omega)]; exact h.p1, by rw [hb.cell (by simp)]; exact h.v0, by rw [hb.cell (by simp)]; exact h.v1, h.lt, by have := hb.size; have := h.size; omega⟩
theorem oriR_yes {N : Int} {es : List (Int × Int)} {ls : List (List Int)} (h : validB N es = true) (hr : rankE es = es.length) (hl : ls.length = es.length) (ha : ∀ j, j < es.length → rightB es j (ls.getD j []) = true) : OriR N es ls true := by
  unfold OriR; rw [if_pos ⟨h, hr⟩]; exact ⟨rfl, hl, ha⟩
theorem oriR_no {N : Int} {es : List (Int × Int)} (h : ¬ (validB N es = true ∧ rankE es = es.length)) : OriR N es [] false := by
  unfold OriR; rw [if_neg h]; exact ⟨rfl, rfl⟩
end Go.Proofs.YtcpkdnhpelkeoaaGreat

namespace Go.Proofs.YtcpkdnhpelkeoaaGreat
set_option linter.unusedVariables false
set_option linter.unusedSimpArgs false
open Go.RowKit Go.Sort

def redB (es : List (Int × Int)) (i : Nat) : Bool := decide (rankE (es.eraseIdx i) = rankE es)
def redK (es : List (Int × Int)) (k : Nat) : List Int := ((List.range k).filter (redB es)).map fun (i : Nat) => (i : Int)
def redE (N : Int) (es : List (Int × Int)) : List Int := if validB N es = true then redK es es.length else []
theorem redK_step (es : List (Int × Int)) (k : Nat) : redK es (k + 1) = if redB es k = true then redK es k ++ [(k : Int)] else redK es k := by
  unfold redK
  rw [List.range_succ, List.filter_append, List.map_append]
  by_cases h : redB es k = true
  · rw [if_pos h]; simp [h]
  · rw [if_neg h]; simp [h]
theorem redK_le (es : List (Int × Int)) (k : Nat) : (redK es k).length ≤ k := by
  unfold redK
  rw [List.length_map]
  have := List.length_filter_le (redB es) (List.range k)
  simpa using this
end Go.Proofs.YtcpkdnhpelkeoaaGreat

namespace Go.Proofs.YtcpkdnhpelkeoaaGreat
set_option linter.unusedVariables false
set_option linter.unusedSimpArgs false
open Go.RowKit Go.Sort

/-- vis' is vis and what a leads to. -/
structure Rch (out : List (List Int)) (vis : List Bool) (a : Nat) (vis' : List Bool) : Prop where
  len : vis'.length = vis.length
  mono : ∀ x, visB vis x = true → visB vis' x = true
  self : visB vis' a = true
  shut : ∀ x, visB vis' x = true → visB vis x = false → ∀ y ∈ rowOf out x, visB vis' y.toNat = true
  least : ∀ V : Nat, V.testBit a = true → (∀ x, V.testBit x = true → ∀ y ∈ rowOf out x, V.testBit y.toNat = true) → ∀ x, visB vis' x = true → visB vis x = true ∨ V.testBit x = true
/-- The loop over a's edges has come to number q. -/
structure RInv (out : List (List Int)) (vis : List Bool) (a q : Nat) (vis1 : List Bool) : Prop where
  len : vis1.length = vis.length
  mono : ∀ x, visB (vis.set a true) x = true → visB vis1 x = true
  done : ∀ (j : Nat) (b : Int), j < q → (rowOf out a)[j]? = some b → visB vis1 b.toNat = true
  shut : ∀ x, visB vis1 x = true → visB (vis.set a true) x = false → ∀ y ∈ rowOf out x, visB vis1 y.toNat = true
  least : ∀ V : Nat, V.testBit a = true → (∀ x, V.testBit x = true → ∀ y ∈ rowOf out x, V.testBit y.toNat = true) → ∀ x, visB vis1 x = true → visB vis x = true ∨ V.testBit x = true
theorem RInv.start {out : List (List Int)} {vis : List Bool} {a : Nat} (ha : a < vis.length) : RInv out vis a 0 (vis.set a true) :=
  ⟨by simp, fun _ h => h, fun j b hj => by omega, fun x h1 h2 => (by rw [h1] at h2; cases h2), fun V hV _ x hx => by
    rw [visB_set _ _ _ ha, Bool.or_eq_true] at hx
    rcases hx with hx | hx
    · simp at hx; subst hx; exact .inr hV
    · exact .inl hx⟩
theorem RInv.step {out : List (List Int)} {vis vis1 vis2 : List Bool} {a q y : Nat} (h : RInv out vis a q vis1) (hy : (rowOf out a)[q]? = some (y : Int)) (hr : Rch out vis1 y vis2) : RInv out vis a (q + 1) vis2 := by
  refine ⟨by rw [hr.len, h.len], fun x hx => hr.mono x (h.mono x hx), fun j b hj hb => ?_, fun x h1 h2 z hz => ?_, fun V hV hc x hx => ?_⟩
  · by_cases e : j = q
    · subst e; rw [hy] at hb; injection hb with hb; subst hb; simpa using hr.self
    · exact hr.mono _ (h.done j b (by omega) hb)
  · cases h3 : visB vis1 x
    · exact hr.shut x h1 h3 z hz
    · exact hr.mono _ (h.shut x h3 h2 z hz)
  · have hVy : V.testBit y = true := by have := hc a hV y (getI_mem hy); simpa using this
    rcases hr.least V hVy hc x hx with h1 | h1
    · exact h.least V hV hc x h1
    · exact .inr h1
theorem RInv.fin {out : List (List Int)} {vis vis1 : List Bool} {a q : Nat} (ha : a < vis.length) (h : RInv out vis a q vis1) (hq : (rowOf out a).length ≤ q) : Rch out vis a vis1 := by
  refine ⟨h.len, fun x hx => h.mono x (visB_mono ha hx), h.mono a (by rw [visB_set _ _ _ ha]; simp), fun x h1 h2 y hy => ?_, h.least⟩
  by_cases e : x = a
  · subst e
    obtain ⟨j, hj, rfl⟩ := List.getElem_of_mem hy
    exact h.done j _ (by omega) (List.getElem?_eq_getElem hj)
  · exact h.shut x h1 (by rw [visB_set _ _ _ ha, h2]; simp [e]) y hy
theorem Rch.same {out : List (List Int)} {vis : List Bool} {a : Nat} (h : visB vis a = true) : Rch out vis a vis :=
  ⟨rfl, fun _ h => h, h, fun x h1 h2 => (by rw [h1] at h2; cases h2), fun _ _ _ x hx => .inl hx⟩

end Go.Proofs.YtcpkdnhpelkeoaaGreat

namespace Go.Proofs.YtcpkdnhpelkeoaaGreat
set_option linter.unusedVariables false
set_option linter.unusedSimpArgs false
open Go.RowKit Go.Sort

theorem spanS_cho (es : List (Int × Int)) (S : Nat) : ∀ k, k ≤ es.length → spanS (choK es k) S ≤ spanS (es.take k) S := by
  intro k
  induction k with
  | zero => intro _; rw [choK_zero]; simp
  | succ k ih =>
    intro hk
    have h1 := ih (by omega)
    have e : es.take (k + 1) = es.take k ++ [edAt es k] := by
      rw [List.take_succ_eq_append_getElem (by omega)]
      unfold edAt
      rw [List.getD_eq_getElem?_getD, List.getElem?_eq_getElem (by omega)]; rfl
    rw [choK_step (by omega), e, spanS_app]
    have h2 := spanS_nonneg [edAt es k] S
    split
    · rw [spanS_app]; omega
    · omega
theorem span_more {es : List (Int × Int)} {S k : Nat} (hk : k < es.length) (hb : bothB S (edAt es k) = true) : spanS (choK es k) S + 1 ≤ spanS es S := by
  have e : es.take (k + 1) = es.take k ++ [edAt es k] := by
    rw [List.take_succ_eq_append_getElem hk]
    unfold edAt
    rw [List.getD_eq_getElem?_getD, List.getElem?_eq_getElem hk]; rfl
  have h1 := spanS_cho es S k (by omega)
  have h2 : spanS es S = spanS (es.take (k + 1)) S + spanS (es.drop (k + 1)) S := by rw [← spanS_app, List.take_append_drop]
  rw [e, spanS_app, spanS_one, if_pos hb] at h2
  have h3 := spanS_nonneg (es.drop (k + 1)) S
  omega
theorem vio_set {n k p q : Nat} {es : List (Int × Int)} {out out' : List (List Int)} {vis1 vis2 : List Bool} (hn : n ≤ 60) (hk : k < es.length) (hxy : edAt es k = ((p : Int), (q : Int))) (hacc : Acc n out p q false out') (hi : GInv n out (choK es k))
    (hp : p < n) (hq : q < n) (hpq : p ≠ q) (r1 : Rch out' (List.replicate n false) p vis1) (r2 : Rch out' vis1 q vis2) :
    2 ≤ cntB n (visS vis2) ∧ 2 * (cntB n (visS vis2) : Int) - 3 < spanS es (visS vis2) := by
  obtain ⟨-, hi2, hv⟩ := hacc.inv hi hn hp hq hpq
  obtain ⟨V, hV, -⟩ := hv rfl
  rw [if_neg (by simp)] at hi2
  have hlens : 1 ≤ (rowOf out' p).length + (rowOf out' q).length := by
    obtain ⟨o1, o2, -, -, h⟩ := hacc
    rcases h with ⟨h, -⟩ | ⟨-, h, rfl⟩
    · cases h
    · exact h
  have hin : ∀ x, visB vis2 x = true → V.testBit x = true := fun x hx => by
    rcases r2.least V hV.hq hV.go x hx with h | h
    · rcases r1.least V hV.hp hV.go x h with h | h
      · rw [visB_none] at h; cases h
      · exact h
    · exact h
  have hT : Tight out' p q (visS vis2) := by
    refine ⟨by rw [visS_bit]; exact r2.mono _ r1.self, by rw [visS_bit]; exact r2.self, fun x hx y hy => ?_, fun x hx h1 h2 => hV.two x (hin x (by rw [← visS_bit]; exact hx)) h1 h2⟩
    rw [visS_bit] at hx ⊢
    cases h1 : visB vis1 x
    · exact r2.shut x hx h1 y hy
    · exact r2.mono _ (r1.shut x h1 (visB_none _ _) y hy)
  have hsp := hi2.span hp hq hpq hT hlens
  have hb : bothB (visS vis2) (edAt es k) = true := by rw [hxy]; unfold bothB; simp only [Int.toNat_natCast]; rw [hT.hp, hT.hq]; rfl
  have h1 := span_more hk hb
  have h2 : 2 ≤ cntB n (visS vis2) := by
    unfold cntB
    have hne : p ≠ q := hpq
    have key : ∀ (S : Nat), S.testBit p = true → S.testBit q = true → 2 ≤ (List.range n).countP (fun i => S.testBit i) := by
      intro S h1 h2
      have h3 : (List.range n).countP (fun i => decide (p = i)) + (List.range n).countP (fun i => decide (q = i)) ≤ (List.range n).countP (fun i => S.testBit i) := by
        have := countP_or_and (fun i => decide (p = i)) (fun i => decide (q = i)) (List.range n)
        have h0 : (List.range n).countP (fun i => decide (p = i) && decide (q = i)) = 0 := by
          rw [List.countP_eq_zero]; intro i _; simp; intro e; omega
        rw [h0, Nat.add_zero] at this
        rw [← this]
        refine List.countP_mono_left (fun i _ hi => ?_)
        simp at hi
        rcases hi with rfl | rfl <;> assumption
      rw [countP_eq_range n p hp, countP_eq_range n q hq] at h3
      exact h3
    exact key _ hT.hp hT.hq
  exact ⟨h2, by omega⟩
theorem idxK_grow (es : List (Int × Int)) (k : Nat) : ∀ j, (idxK es (k + j)).length ≤ (idxK es k).length + j := by
  intro j
  induction j with
  | zero => exact Nat.le_refl _
  | succ j ih =>
    rw [← Nat.add_assoc, idxK_step]
    split
    · simp; omega
    · omega
theorem rank_lt {es : List (Int × Int)} {k : Nat} (hk : k < es.length) (h : takB es k = false) : rankE es < es.length := by
  rw [← idxL_len]
  unfold idxL
  have h1 := idxK_grow es (k + 1) (es.length - (k + 1))
  rw [show k + 1 + (es.length - (k + 1)) = es.length by omega, idxK_step, if_neg (by rw [h]; simp)] at h1
  have := idxK_le es k
  omega
def VioR (N : Int) (es : List (Int × Int)) (l : List Int) (r : Bool) : Prop :=
  (validB N es = false → l = [] ∧ r = false) ∧ (validB N es = true → (r = false ∧ l = [] ∧ rankE es = es.length) ∨ (r = true ∧ rankE es < es.length ∧ ∃ S, l = ptsK N.toNat S ∧ 2 ≤ l.length ∧ 2 * (l.length : Int) - 3 < spanS es S))
def VioPost (w : World) (N : Int) (es : List (Int × Int)) (e : Ending) (w' : World) : Prop :=
  Below w.heap.size w w' ∧ ∃ B c l r, e = .returned (.tuple #[.slice B l.length c, .bool r]) ∧ Own w' w.heap.size 3 1 B l.length c (ints l) ∧ VioR N es l r

end Go.Proofs.YtcpkdnhpelkeoaaGreat

namespace Go.Proofs.YtcpkdnhpelkeoaaGreat
set_option linter.unusedVariables false
set_option linter.unusedSimpArgs false
open Go.RowKit Go.Sort

attribute [local go_sem ↓] Go.wp_at_zero Go.wp_at_succ
theorem getD_snoc {α : Type} (l : List α) (x d : α) (j : Nat) : (l ++ [x]).getD j d = if j = l.length then x else l.getD j d := by
  rw [List.getD_eq_getElem?_getD, List.getD_eq_getElem?_getD]
  by_cases h : j < l.length
  · rw [List.getElem?_append_left h, if_neg (by omega)]
  · rw [List.getElem?_append_right (by omega)]
    by_cases e : j = l.length
    · subst e; simp
    · rw [if_neg e, List.getElem?_eq_none (by simp; omega), List.getElem?_eq_none (by omega)]
end Go.Proofs.YtcpkdnhpelkeoaaGreat
