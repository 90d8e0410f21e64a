/-
  A graph with a further edge: joined texts.
-/
import Derived.Test.YtcpkdnhpelkeoaaGreatBase
import Derived.Test.YtcpkdnhpelkeoaaGreatMa
import Derived.Test.YtcpkdnhpelkeoaaGreatSpecR
import Derived.Test.YtcpkdnhpelkeoaaGreatKa
import Derived.Deep.RegionHeld3
namespace Go.Proofs.YtcpkdnhpelkeoaaGreat
set_option linter.unusedVariables false
set_option linter.unusedSimpArgs false
open Go.RowKit

theorem prs_int {l : List (Int × Int)} {j : Nat} {u : Value} (h : (prs l)[j]? = some u) : ∃ x, u = .int .i64 x := by
  have hm := List.mem_of_getElem? h
  unfold prs at hm
  rw [List.mem_flatMap] at hm
  obtain ⟨e, -, he⟩ := hm
  simp at he
  rcases he with rfl | rfl
  · exact ⟨_, rfl⟩
  · exact ⟨_, rfl⟩
theorem Rd.far {w : World} {B : Option Addr} {n : Nat} {es : List (Int × Int)} (h : Rd w 2 B n (prs es)) {g : Nat} {A : Option Addr} {n' c' : Nat} (h1 : w.cell? ⟨g, 1, none⟩ = some (.slice A n' c')) {p : Addr} (hp : p = ⟨g, 0, none⟩ ∨ p = ⟨g, 1, none⟩) (v : Value) : Rd (w.setCell p v) 2 B n (prs es) := by
  refine ⟨h.1, fun hn => ?_⟩
  obtain ⟨ad, e, hc⟩ := h.2 hn
  refine ⟨ad, e, fun j u hu => ?_⟩
  have no1 : ∀ i x, (prs es)[i]? = some x → ad.add i ≠ ⟨g, 1, none⟩ := fun i x hx he => by
    obtain ⟨y, rfl⟩ := prs_int hx
    have := hc i _ hx
    rw [he, h1] at this
    cases this
  have hne : p ≠ ad.add j := by
    rcases hp with rfl | rfl
    · intro he
      have hl := h.1
      have hj : j < (prs es).length := by
        rcases Nat.lt_or_ge j (prs es).length with h' | h'
        · exact h'
        · rw [List.getElem?_eq_none h'] at hu; cases hu
      by_cases hj1 : j + 1 < (prs es).length
      · exact no1 (j + 1) _ (List.getElem?_eq_getElem hj1) (by rw [add_next, ← he])
      · have hj0 : j ≠ 0 := by omega
        unfold Addr.add at he
        rw [if_neg hj0] at he
        have := congrArg Addr.off he
        simp at this
        omega
    · exact fun he => no1 j u hu he.symm
  rw [World.cell?_setCell_other _ _ _ _ hne]
  exact hc j u hu
end Go.Proofs.YtcpkdnhpelkeoaaGreat

namespace Go.Proofs.YtcpkdnhpelkeoaaGreat
set_option linter.unusedVariables false
set_option linter.unusedSimpArgs false
open Go.RowKit Go.Sort

theorem rd_grow1 {w w' : World} {size n g : Nat} {xs : List Value} {row : Option Nat} (h : Rd w size (some ⟨g, 0, none⟩) n xs) (hg : w.grownBy w' row) (hne : row ≠ some g) : Rd w' size (some ⟨g, 0, none⟩) n xs := by
  refine ⟨h.1, fun hn => ?_⟩
  obtain ⟨ad, e, hc⟩ := h.2 hn
  injection e with e
  subst e
  refine ⟨_, rfl, fun j u hu => ?_⟩
  have := hc j u hu
  rw [add0] at this ⊢
  exact World.grownBy.cell hg this (fun e => hne e.symm)
theorem rd_new1 {w : World} {size n : Nat} {A : Option Addr} {xs : List Value} (h : Rd w size A n xs) (o : Obj) : Rd (w.alloc o) size A n xs := h.keep (Keeps.alloc w o)
theorem cell_drew (W : World) (p : Addr) : W.drew.cell? p = W.cell? p := rfl
theorem Own.drew' {w : World} {base size n c : Nat} {e : TypeId} {A : Option Addr} {xs : List Value} (h : Own w base e size A n c xs) : Own w.drew base e size A n c xs := h
theorem Rd.drew' {w : World} {size n : Nat} {A : Option Addr} {xs : List Value} (h : Rd w size A n xs) : Rd w.drew size A n xs := h
theorem rd2_cells {W : World} {b : Nat} {x y : Int} (h0 : W.cell? ⟨b, 0, none⟩ = some (.int .i64 x)) (h1 : W.cell? ⟨b, 1, none⟩ = some (.int .i64 y)) : Rd W 2 (some ⟨b, 0, none⟩) 1 (prs [(x, y)]) :=
  ⟨rfl, fun _ => ⟨_, rfl, fun j u hu => by
    rw [add0]
    match j, hu with
    | 0, hu => simp [prs] at hu; subst hu; exact h0
    | 1, hu => simp [prs] at hu; subst hu; exact h1
    | k + 2, hu => simp [prs] at hu⟩⟩
def BOXG (W : World) (b : Nat) : Prop := W.heap[b]? = some (.cells #[.int .i64 0, .slice none 0 0] 31 (0, 0))
theorem BOXG.c0 {W : World} {b : Nat} (h : BOXG W b) : W.cell? ⟨b, 0, none⟩ = some (.int .i64 0) := by unfold BOXG at h; simp [World.cell?, h]
theorem BOXG.c1 {W : World} {b : Nat} (h : BOXG W b) : W.cell? ⟨b, 1, none⟩ = some (.slice none 0 0) := by unfold BOXG at h; simp [World.cell?, h]
theorem BOXG.f0 {W : World} {b : Nat} (h : BOXG W b) : W.frozen? ⟨b, 0, none⟩ = false := by unfold BOXG at h; simp [World.frozen?, h]
theorem BOXG.f1 {W : World} {b : Nat} (h : BOXG W b) : W.frozen? ⟨b, 1, none⟩ = false := by unfold BOXG at h; simp [World.frozen?, h]
theorem BOXG.new (W : World) : BOXG (W.alloc (.cells #[.int .i64 0, .slice none 0 0] 31)) W.heap.size := by
  show (W.heap.push _)[W.heap.size]? = _
  simp
theorem BOXG.at {W : World} {b : Nat} (h : W.heap.size = b) : BOXG (W.alloc (.cells #[.int .i64 0, .slice none 0 0] 31)) b := by subst h; exact BOXG.new W
theorem BOXG.lt {W : World} {b : Nat} (h : BOXG W b) : b < W.heap.size := World.block_lt_of_cell? W ⟨b, 0, none⟩ h.c0
theorem BOXG.later {W W' : World} {b : Nat} (h : BOXG W b) (hb : Below W.heap.size W W') : BOXG W' b := by
  have e := hb.block b h.lt
  unfold BOXG at *; rw [e]; exact h
theorem BOXG.alloc {W : World} {b : Nat} (h : BOXG W b) (o : Obj) : BOXG (W.alloc o) b := h.later ((Below.refl _ _).alloc (Nat.le_refl _) o)
theorem BOXG.grown {W W' : World} {b : Nat} {row : Option Nat} (h : BOXG W b) (hg : W.grownBy W' row) (hne : row ≠ some b) : BOXG W' b := by
  have e := hg.block b h.lt (fun e => hne e.symm)
  unfold BOXG at *; rw [e]; exact h
theorem BOXG.row {W : World} {b base size n c : Nat} {A : Option Addr} {xs : List Value} (h : BOXG W b) (ho : Own W base 28 size A n c xs) : blk A ≠ some b := fun e => by
  obtain ⟨cur, hh⟩ := ho.block_type e
  unfold BOXG at h
  rw [h] at hh
  injection hh with hh
  injection hh with _ h2
  revert h2; decide
theorem BOXG.growR {W W' : World} {b base size n c : Nat} {A : Option Addr} {xs : List Value} (h : BOXG W b) (ho : Own W base 28 size A n c xs) (hg : W.grownBy W' (blk A)) : BOXG W' b := h.grown hg (h.row ho)
theorem BOXG.drew' {W : World} {b : Nat} (h : BOXG W b) : BOXG W.drew b := h
/-- Behind the store of a graph. -/
theorem BOXG.put {W : World} {b : Nat} (h : BOXG W b) (N : Int) {B : Option Addr} {q d : Nat} {l : List (Int × Int)} (hr : Rd W 2 B q (prs l)) :
    ((W.setCell ⟨b, 0, none⟩ (.int .i64 N)).setCell ⟨b, 1, none⟩ (.slice B q d)).cell? ⟨b, 0, none⟩ = some (.int .i64 N) ∧
    ((W.setCell ⟨b, 0, none⟩ (.int .i64 N)).setCell ⟨b, 1, none⟩ (.slice B q d)).cell? ⟨b, 1, none⟩ = some (.slice B q d) ∧
    Rd ((W.setCell ⟨b, 0, none⟩ (.int .i64 N)).setCell ⟨b, 1, none⟩ (.slice B q d)) 2 B q (prs l) := by
  refine ⟨?_, ?_, ?_⟩
  · rw [World.cell?_setCell_other _ _ _ _ (by simp)]
    exact World.cell?_setCell_same _ _ _ h.c0
  · exact World.cell?_setCell_same _ _ _ (u := .slice none 0 0) (by rw [World.cell?_setCell_other _ _ _ _ (by simp)]; exact h.c1)
  · refine Rd.far (Rd.far hr h.c1 (.inl rfl) _) (g := b) (A := none) (n' := 0) (c' := 0) ?_ (.inr rfl) _
    rw [World.cell?_setCell_other _ _ _ _ (by simp)]; exact h.c1
end Go.Proofs.YtcpkdnhpelkeoaaGreat

namespace Go.Proofs.YtcpkdnhpelkeoaaGreat
set_option linter.unusedVariables false
set_option linter.unusedSimpArgs false
open Go.RowKit Go.Sort

theorem nodup_lt2 {l : List (Int × Int)} (h : l.Pairwise lt2) : l.Nodup := h.imp (fun {x y} h e => by subst e; exact lt2_irrefl _ h)
theorem mem_pairsB {l : List (Int × Int)} {a b : Int} : pairsB l a b = true ↔ (a, b) ∈ l ∨ (b, a) ∈ l := by
  unfold pairsB
  simp only [List.any_eq_true, Bool.or_eq_true, Bool.and_eq_true, beq_iff_eq]
  constructor
  · rintro ⟨⟨x, y⟩, h, h1 | h1⟩
    · obtain ⟨rfl, rfl⟩ := h1; exact .inl h
    · obtain ⟨rfl, rfl⟩ := h1; exact .inr h
  · rintro (h | h)
    · exact ⟨_, h, .inl ⟨rfl, rfl⟩⟩
    · exact ⟨_, h, .inr ⟨rfl, rfl⟩⟩
theorem mem_mkL_of {n : Nat} {L : List (Int × Int)} (h : ∀ e ∈ L, 0 ≤ e.1 ∧ e.1 < e.2 ∧ e.2 < (n : Int)) (x : Int × Int) : x ∈ mkL n L ↔ x ∈ L := by
  obtain ⟨p, q⟩ := x
  rw [mem_mkL, mem_pairsB]
  constructor
  · rintro ⟨h1, h2, h3, h4 | h4⟩
    · exact h4
    · have := h _ h4; simp only at this h2; omega
  · intro hx
    have := h _ hx
    exact ⟨this.1, this.2.1, this.2.2, .inl hx⟩

structure HennOk (N : Int) (es : List (Int × Int)) (a b s : Int) : Prop where
  v : validB N es = true
  a0 : 0 ≤ a
  a1 : a < N
  b0 : 0 ≤ b
  b1 : b < N
  ab : a ≠ b
  sp : 0 ≤ s → s < N ∧ s ≠ a ∧ s ≠ b ∧ hasE N es a b = true
theorem hennOk_of {N : Int} {es : List (Int × Int)} {a b s : Int} (h1 : hennBad1 N es a b = false) (h2 : hennBad2 N es a b s = false) : HennOk N es a b s := by
  obtain ⟨hv, ha, hb, hab⟩ := not_bad1 h1
  unfold hasB at ha hb
  simp at ha hb hab
  refine ⟨hv, ha.1, ha.2, hb.1, hb.2, hab, fun hs => ?_⟩
  unfold hennBad2 at h2
  rw [decide_eq_true hs] at h2
  simp only [Bool.true_and, Bool.or_eq_false_iff, Bool.not_eq_false', beq_eq_false_iff_ne] at h2
  obtain ⟨⟨⟨h3, h4⟩, h5⟩, h6⟩ := h2
  unfold hasB at h3
  simp at h3
  exact ⟨h3.2, h4, h5, h6⟩

theorem SpA.start : SpA [(0, 1)] := fun S h => by
  have := spanS_le [(0, 1)] S
  simp at this; omega
section
variable {N : Int} {es : List (Int × Int)} {a b s : Int}
theorem HennOk.ends (h : HennOk N es a b s) : ∀ e ∈ hennL N es a b s, 0 ≤ e.1 ∧ e.1 < e.2 ∧ e.2 < N + 1 := by
  intro e he
  unfold hennL at he
  rw [List.mem_append, List.mem_append] at he
  have := h.a0; have := h.a1; have := h.b0; have := h.b1
  rcases he with (he | he) | he
  · simp at he
    rcases he with rfl | rfl <;> simp <;> omega
  · by_cases hs : 0 ≤ s
    · rw [if_pos hs] at he
      simp at he
      subst he
      have := (h.sp hs).1
      simp; omega
    · rw [if_neg hs] at he; simp at he
  · have := ends_of h.v e (List.mem_filter.1 he).1
    omega
theorem HennOk.nodup (h : HennOk N es a b s) : (hennL N es a b s).Nodup := by
  unfold hennL
  rw [List.nodup_append]
  refine ⟨?_, (nodup_lt2 (valid_strict h.v)).filter _, ?_⟩
  · by_cases hs : 0 ≤ s
    · rw [if_pos hs]
      obtain ⟨-, h1, h2, -⟩ := h.sp hs
      simp [h.ab, h1.symm, h2.symm, Ne.symm h1, Ne.symm h2]
    · rw [if_neg hs]
      simp [h.ab]
  · intro x hx y hy e
    subst e
    have h1 := ends_of h.v x (List.mem_filter.1 hy).1
    have h2 : x.2 = N := by
      rw [List.mem_append] at hx
      rcases hx with hx | hx
      · simp at hx; rcases hx with rfl | rfl <;> rfl
      · by_cases hs : 0 ≤ s
        · rw [if_pos hs] at hx; simp at hx; subst hx; rfl
        · rw [if_neg hs] at hx; simp at hx
    omega
theorem HennOk.the_edge (h : HennOk N es a b s) (hs : 0 ≤ s) : ∃ x, x ∈ es ∧ (x = (a, b) ∨ x = (b, a)) ∧ ∀ e ∈ es, (keepH a b s e = false ↔ e = x) := by
  obtain ⟨-, -, -, he⟩ := h.sp hs
  have hen := ends_of h.v
  unfold hasE at he
  rw [h.v, Bool.true_and, mem_pairsB] at he
  obtain ⟨x, hx, hxe⟩ : ∃ x, x ∈ es ∧ (x = (a, b) ∨ x = (b, a)) := he.elim (fun h => ⟨_, h, .inl rfl⟩) (fun h => ⟨_, h, .inr rfl⟩)
  refine ⟨x, hx, hxe, fun e hee => ?_⟩
  have e1 := hen e hee
  have e2 := hen x hx
  obtain ⟨p, q⟩ := e
  unfold keepH
  rw [decide_eq_false (by omega : ¬ s < 0), Bool.false_or, Bool.not_eq_false', mem_pairsB]
  simp only [List.mem_singleton, Prod.mk.injEq]
  rcases hxe with rfl | rfl <;> simp only [Prod.mk.injEq] at * <;> constructor <;> intro h' <;> omega
/-- The removed edge counts once in each set that holds it. -/
theorem HennOk.filter_span (h : HennOk N es a b s) (hs : 0 ≤ s) (S : Nat) : spanS (es.filter (keepH a b s)) S + (if S.testBit a.toNat && S.testBit b.toNat then 1 else 0) = spanS es S := by
  obtain ⟨x, hx, hxe, hk⟩ := h.the_edge hs
  have hd := nodup_lt2 (valid_strict h.v)
  have h1 := List.countP_eq_countP_filter_add es (bothB S) (keepH a b s)
  have h2 : (es.filter fun e => !keepH a b s e).countP (bothB S) = if bothB S x = true then 1 else 0 := by
    rw [List.countP_filter]
    have e1 : es.countP (fun e => bothB S e && !keepH a b s e) = es.countP (fun e => e == x && bothB S x) := by
      refine List.countP_congr (fun e he => ?_)
      have := hk e he
      cases hke : keepH a b s e
      · have e2 := this.1 hke
        subst e2; simp
      · have e2 : e ≠ x := fun h' => by rw [this.2 h'] at hke; cases hke
        simp [e2]
    rw [e1]
    by_cases hb : bothB S x = true
    · rw [if_pos hb]
      simp only [hb, Bool.and_true]
      have := hd.count (a := x)
      rw [if_pos hx] at this
      exact this
    · rw [if_neg hb]
      simp [hb]
  have h3 : bothB S x = (S.testBit a.toNat && S.testBit b.toNat) := by
    unfold bothB
    rcases hxe with rfl | rfl
    · rfl
    · exact Bool.and_comm _ _
  rw [h3] at h2
  unfold spanS
  rw [h1, h2]
  split <;> simp
theorem HennOk.perm (h : HennOk N es a b s) : (mkL (N + 1).toNat (hennL N es a b s)).Perm (hennL N es a b s) := by
  have hN := (validB_iff N es).1 h.v
  have he : ∀ e ∈ hennL N es a b s, 0 ≤ e.1 ∧ e.1 < e.2 ∧ e.2 < (((N + 1).toNat : Nat) : Int) := fun e he => by
    have := h.ends e he; omega
  exact (List.perm_ext_iff_of_nodup (nodup_lt2 (mkL_strict _ _)) h.nodup).2 (mem_mkL_of he)
theorem HennOk.len (h : HennOk N es a b s) : (mkL (N + 1).toNat (hennL N es a b s)).length = es.length + 2 := by
  rw [h.perm.length_eq]
  unfold hennL
  rw [List.length_append, List.length_append]
  by_cases hs : 0 ≤ s
  · obtain ⟨x, hx, hxe, hk⟩ := h.the_edge hs
    have h1 := List.length_eq_countP_add_countP (keepH a b s) (l := es)
    rw [List.countP_eq_length_filter] at h1
    have h2 : es.countP (fun e => decide ¬keepH a b s e = true) = es.count x := by
      unfold List.count
      refine List.countP_congr (fun e he => ?_)
      have := hk e he
      simp only [decide_eq_true_eq, beq_iff_eq, Bool.not_eq_true]
      exact this
    rw [h2, (nodup_lt2 (valid_strict h.v)).count, if_pos hx] at h1
    rw [if_pos hs]; simp; omega
  · rw [if_neg hs]
    have : es.filter (keepH a b s) = es := by rw [List.filter_eq_self]; intro e _; unfold keepH; rw [decide_eq_true (by omega)]; rfl
    rw [this]; simp; omega
theorem HennOk.spa (h : HennOk N es a b s) (h60 : N < 60) (hs : SpA es) : SpA (mkL (N + 1).toNat (hennL N es a b s)) := by
  intro S hc
  have ha0 := h.a0; have ha1 := h.a1; have hb0 := h.b0; have hb1 := h.b1; have hab := h.ab
  have hen := ends_of h.v
  rw [spanS_perm h.perm]
  have e0 : spanS (hennL N es a b s) S = (if S.testBit a.toNat && S.testBit N.toNat then 1 else 0) + (if S.testBit b.toNat && S.testBit N.toNat then 1 else 0) + (if 0 ≤ s then (if S.testBit s.toNat && S.testBit N.toNat then 1 else 0) else 0) + spanS (es.filter (keepH a b s)) S := by
    unfold hennL
    have e1 : [(a, N), (b, N)] = [(a, N)] ++ [(b, N)] := rfl
    rw [spanS_app, spanS_app, e1, spanS_app, spanS_one, spanS_one]
    congr 2
    by_cases h0 : 0 ≤ s
    · rw [if_pos h0, if_pos h0, spanS_one]; rfl
    · rw [if_neg h0, if_neg h0]; rfl
  rw [e0]
  have hf := spanS_filter es (keepH a b s) S
  cases hN : S.testBit N.toNat
  · have := hs S hc
    simp only [Bool.and_false, if_false, Bool.false_eq_true]
    split <;> omega
  · simp only [Bool.and_true]
    have hNn : N.toNat < 60 := by omega
    have hcnt := cntB_drop hNn hN
    have hT : ∀ i, i ≠ N.toNat → (S ^^^ 2 ^ N.toNat).testBit i = S.testBit i := fun i hi => bit_drop hi
    have hsp : spanS es S = spanS es (S ^^^ 2 ^ N.toNat) := spanS_congr (fun e he => by
      have := hen e he
      unfold bothB
      rw [hT _ (by omega), hT _ (by omega)])
    have two : ∀ p q : Int, 0 ≤ p → p < N → 0 ≤ q → q < N → p ≠ q → S.testBit p.toNat = true → S.testBit q.toNat = true → 2 ≤ cntB 60 (S ^^^ 2 ^ N.toNat) := fun p q h1 h2 h3 h4 h5 h6 h7 =>
      cntB_two (p := p.toNat) (q := q.toNat) (by omega) (by omega) (by omega) (by rw [hT _ (by omega)]; exact h6) (by rw [hT _ (by omega)]; exact h7)
    have tab := two a b ha0 ha1 hb0 hb1 hab
    by_cases c2 : 2 ≤ cntB 60 (S ^^^ 2 ^ N.toNat)
    · have hb := hs _ c2
      rw [← hsp] at hb
      by_cases h0 : 0 ≤ s
      · have hfs := h.filter_span h0 S
        rw [if_pos h0]
        cases hA : S.testBit a.toNat <;> cases hB : S.testBit b.toNat <;> cases hS : S.testBit s.toNat <;> simp [hA, hB] at hfs ⊢ <;> omega
      · rw [if_neg h0]
        cases hA : S.testBit a.toNat <;> cases hB : S.testBit b.toNat <;> simp <;> omega
    · have hz : spanS es S = 0 := by
        rw [hsp]
        unfold spanS
        have : es.countP (bothB (S ^^^ 2 ^ N.toNat)) = 0 := by
          rw [List.countP_eq_zero]
          intro e he hbb
          have := hen e he
          unfold bothB at hbb
          rw [Bool.and_eq_true] at hbb
          exact c2 (cntB_two (p := e.1.toNat) (q := e.2.toNat) (by omega) (by omega) (by omega) hbb.1 hbb.2)
        rw [this]; rfl
      by_cases h0 : 0 ≤ s
      · obtain ⟨hs1, hsa, hsb, -⟩ := h.sp h0
        have tas := two a s ha0 ha1 h0 hs1 (Ne.symm hsa)
        have tbs := two b s hb0 hb1 h0 hs1 (Ne.symm hsb)
        rw [if_pos h0]
        cases hA : S.testBit a.toNat <;> cases hB : S.testBit b.toNat <;> cases hS : S.testBit s.toNat <;> simp [hA, hB, hS] at tab tas tbs ⊢ <;> omega
      · rw [if_neg h0]
        cases hA : S.testBit a.toNat <;> cases hB : S.testBit b.toNat <;> simp [hA, hB] at tab ⊢ <;> omega
end
end Go.Proofs.YtcpkdnhpelkeoaaGreat

namespace Go.Proofs.YtcpkdnhpelkeoaaGreat
set_option linter.unusedVariables false
set_option linter.unusedSimpArgs false
open Go.RowKit Go.Sort

/-- One step: a graph with a further point, or nothing. -/
def seqStep (g : Int × List (Int × Int)) (t : Int × Int × Int) : Option (Int × List (Int × Int)) :=
  if (hennE g.1 g.2 t.1 t.2.1 t.2.2).1 = 0 then some (g.1 + 1, (hennE g.1 g.2 t.1 t.2.1 t.2.2).2) else none
def seqK (st : List (Int × Int × Int)) : Nat → Option (Int × List (Int × Int))
  | 0 => some (2, [(0, 1)])
  | k + 1 => (seqK st k).bind fun g => seqStep g (st.getD k (0, 0, 0))
structure SeqInv (k : Nat) (g : Int × List (Int × Int)) : Prop where
  n : g.1 = 2 + (k : Int)
  v : validB g.1 g.2 = true
  len : (g.2.length : Int) = 2 * g.1 - 3
  sp : SpA g.2
theorem henn_zero {N : Int} {es : List (Int × Int)} {a b s : Int} (h : (hennE N es a b s).1 = 0) : HennOk N es a b s ∧ ¬ N = 60 ∧ hennE N es a b s = (0, mkL (N + 1).toNat (hennL N es a b s)) := by
  cases h1 : hennBad1 N es a b
  · cases h2 : hennBad2 N es a b s
    · by_cases h3 : N = 60
      · rw [henn_60 h1 h2 h3] at h; exact absurd h (by decide)
      · exact ⟨hennOk_of h1 h2, h3, henn_ok h1 h2 h3⟩
    · rw [henn_bad2 h2] at h; exact absurd h (by decide)
  · rw [henn_bad1 h1] at h; exact absurd h (by decide)
theorem mkL_valid' {n : Nat} {L : List (Int × Int)} (hn : n ≤ 60) : validB n (mkL n L) = true := by
  refine validB_yes n _ (by omega) (by omega) (fun k hk => ?_)
  have hm : ∀ j, j < (mkL n L).length → 0 ≤ (PAt (mkL n L) j).1 ∧ (PAt (mkL n L) j).1 < (PAt (mkL n L) j).2 ∧ (PAt (mkL n L) j).2 < n := fun j hj => by
    have := mem_mkL.1 (PAt_mem hj)
    exact ⟨this.1, this.2.1, this.2.2.1⟩
  have h1 := hm k hk
  unfold okAt
  change (decide (0 ≤ (PAt (mkL n L) k).1) && decide ((PAt (mkL n L) k).1 < (PAt (mkL n L) k).2) && decide ((PAt (mkL n L) k).2 < n) && (decide (k = 0) || befB (PAt (mkL n L) (k - 1)).1 (PAt (mkL n L) (k - 1)).2 (PAt (mkL n L) k).1 (PAt (mkL n L) k).2)) = true
  rw [decide_eq_true h1.1, decide_eq_true h1.2.1, decide_eq_true h1.2.2]
  by_cases h0 : k = 0
  · simp [h0]
  · rw [decide_eq_false h0]
    have hs := List.pairwise_iff_getElem.1 (mkL_strict n L) (k - 1) k (by omega) hk (by omega)
    have e1 : PAt (mkL n L) (k - 1) = (mkL n L)[k - 1]'(by omega) := by unfold PAt; rw [List.getD_eq_getElem?_getD, List.getElem?_eq_getElem (by omega)]; rfl
    have e2 : PAt (mkL n L) k = (mkL n L)[k] := by unfold PAt; rw [List.getD_eq_getElem?_getD, List.getElem?_eq_getElem hk]; rfl
    rw [e1, e2, befB_iff.2 hs]; rfl
theorem SeqInv.start : SeqInv 0 (2, [(0, 1)]) := ⟨rfl, by decide, rfl, SpA.start⟩
theorem SeqInv.step {k : Nat} {g g' : Int × List (Int × Int)} {t : Int × Int × Int} (h : SeqInv k g) (hs : seqStep g t = some g') : SeqInv (k + 1) g' := by
  unfold seqStep at hs
  split at hs
  · rename_i h0
    obtain ⟨ho, h60, he⟩ := henn_zero h0
    injection hs with hs
    subst hs
    have hN := (validB_iff g.1 g.2).1 h.v
    rw [he]
    refine ⟨by have := h.n; simp; omega, ?_, ?_, ho.spa (by omega) h.sp⟩
    · have := mkL_valid' (n := (g.1 + 1).toNat) (L := hennL g.1 g.2 t.1 t.2.1 t.2.2) (by omega)
      have e : (((g.1 + 1).toNat : Nat) : Int) = g.1 + 1 := by omega
      rw [e] at this
      exact this
    · have := ho.len
      have h2 := h.len
      simp only
      omega
  · cases hs
theorem seqK_inv (st : List (Int × Int × Int)) : ∀ (k : Nat) (g : Int × List (Int × Int)), seqK st k = some g → SeqInv k g
  | 0, g, h => by injection h with h; subst h; exact SeqInv.start
  | k + 1, g, h => by
    rw [seqK] at h
    cases hk : seqK st k with
    | none => rw [hk] at h; cases h
    | some g0 =>
      rw [hk] at h
      exact (seqK_inv st k g0 hk).step h
theorem seqK_none {st : List (Int × Int × Int)} {k j : Nat} (h : seqK st k = none) (hj : k ≤ j) : seqK st j = none := by
  induction j with
  | zero => obtain rfl : k = 0 := by omega
            exact h
  | succ j ih =>
    by_cases e : k = j + 1
    · subst e; exact h
    · rw [seqK, ih (by omega)]; rfl
/-- A built graph is minimally rigid. -/
theorem SeqInv.laman {k : Nat} {g : Int × List (Int × Int)} (h : SeqInv k g) (n : Nat) : 2 ≤ g.1 ∧ (g.2.length : Int) = 2 * g.1 - 3 ∧ sparseAll n g.2 = true :=
  ⟨by have := h.n; omega, h.len, h.sp.all n⟩
end Go.Proofs.YtcpkdnhpelkeoaaGreat

namespace Go.Proofs.YtcpkdnhpelkeoaaGreat
set_option linter.unusedVariables false
set_option linter.unusedSimpArgs false
open Go.RowKit Go.Sort

theorem cntB_fullN {n : Nat} (hn : n ≤ 60) : cntB 60 (2 ^ n - 1) = n := by
  have hp := Nat.two_pow_pos n
  rw [cntB_wide hn (by omega)]
  unfold cntB
  have : (List.range n).countP (fun i => (2 ^ n - 1).testBit i) = (List.range n).length := by
    rw [List.countP_eq_length]
    intro i hi
    rw [Nat.testBit_two_pow_sub_one]
    exact decide_eq_true (List.mem_range.1 hi)
  rw [this, List.length_range]
theorem rank_le_2n {n : Nat} {es : List (Int × Int)} (hn : n ≤ 60) (h2 : 2 ≤ n) (hok : ∀ e ∈ es, OkE n e) : (rankE es : Int) ≤ 2 * (n : Int) - 3 := by
  have ho : Ok60 es := fun e he => (hok e he).mono hn
  have h := basE_spA ho (2 ^ n - 1) (by rw [cntB_fullN hn]; exact h2)
  rw [cntB_fullN hn, span_all (fun e he => ?_)] at h
  · exact h
  · obtain ⟨p1, p2, p3, p4, p5⟩ := hok e ((basE_sub es).subset he)
    unfold bothB
    rw [Nat.testBit_two_pow_sub_one, Nat.testBit_two_pow_sub_one, decide_eq_true (by omega : e.1.toNat < n), decide_eq_true (by omega : e.2.toNat < n)]; rfl
theorem rank_one {es : List (Int × Int)} (e : Int × Int) : rankE (es ++ [e]) = rankE es ∨ rankE (es ++ [e]) = rankE es + 1 := by
  rw [rankE_one]
  have := addE_len (basE es) e
  rw [basE_len] at this
  omega
theorem valid_ends {n : Nat} {es : List (Int × Int)} (hv : validB n es = true) : ∀ e ∈ es, 0 ≤ e.1 ∧ e.1 < e.2 ∧ e.2 < (n : Int) := ends_mem hv
theorem mkL_perm {n : Nat} {L : List (Int × Int)} (he : ∀ e ∈ L, 0 ≤ e.1 ∧ e.1 < e.2 ∧ e.2 < (n : Int)) (hd : L.Nodup) : (mkL n L).Perm L :=
  (List.perm_ext_iff_of_nodup (nodup_lt2 (mkL_strict _ _)) hd).2 (mem_mkL_of he)
theorem mkL_ok {n : Nat} {L : List (Int × Int)} : ∀ e ∈ mkL n L, OkE n e := fun e he => by
  have := mem_mkL.1 he
  exact ⟨by omega, by omega, by omega, by omega, by omega⟩
theorem valid_nodup {n : Nat} {es : List (Int × Int)} (hv : validB n es = true) : es.Nodup := nodup_lt2 (valid_strict hv)
theorem mkL_id {n : Nat} {es : List (Int × Int)} (hv : validB n es = true) : mkL n es = es :=
  strict_eq (mkL_strict n es) (valid_strict hv) (mem_mkL_of (valid_ends hv))
theorem mkL_same {n : Nat} {L M : List (Int × Int)} (h : ∀ a b, pairsB L a b = pairsB M a b) : mkL n L = mkL n M :=
  strict_eq (mkL_strict n L) (mkL_strict n M) (fun x => by rw [mem_mkL, mem_mkL, h])
/-- A graph with a further pair. -/
theorem mk_one {n : Nat} {es : List (Int × Int)} {x y : Nat} (hn : n ≤ 60) (hv : validB n es = true) (hok : ∀ e ∈ es, OkE n e) (hx : x < n) (hy : y < n) (hxy : x ≠ y) :
    rankE (mkL n (es ++ [((x : Int), (y : Int))])) = rankE (es ++ [edgeI ((x : Int), (y : Int))]) := by
  have ho : Ok60 es := fun e he => (hok e he).mono hn
  have hE := valid_ends hv
  have he : 0 ≤ (edgeI ((x : Int), (y : Int))).1 ∧ (edgeI ((x : Int), (y : Int))).1 < (edgeI ((x : Int), (y : Int))).2 ∧ (edgeI ((x : Int), (y : Int))).2 < (n : Int) := by
    unfold edgeI; simp only; omega
  have hsame : mkL n (es ++ [((x : Int), (y : Int))]) = mkL n (es ++ [edgeI ((x : Int), (y : Int))]) := by
    refine mkL_same (fun a b => ?_)
    rw [Bool.eq_iff_iff, mem_pairsB, mem_pairsB]
    simp only [List.mem_append, List.mem_singleton]
    unfold edgeI
    simp only [Prod.mk.injEq]
    rcases Nat.lt_or_ge x y with h | h
    · rw [show min (x : Int) y = x by omega, show max (x : Int) y = y by omega]
    · rw [show min (x : Int) y = y by omega, show max (x : Int) y = x by omega]
      constructor <;> (intro h'; rcases h' with (h' | h') | (h' | h') <;> simp [h'])
  rw [hsame]
  by_cases hm : edgeI ((x : Int), (y : Int)) ∈ es
  · have h1 : mkL n (es ++ [edgeI ((x : Int), (y : Int))]) = es := by
      refine Eq.trans ?_ (mkL_id hv)
      refine mkL_same (fun a b => ?_)
      rw [Bool.eq_iff_iff, mem_pairsB, mem_pairsB]
      simp only [List.mem_append, List.mem_singleton]
      constructor
      · rintro ((h | h) | (h | h))
        · exact .inl h
        · exact .inl (h ▸ hm)
        · exact .inr h
        · exact .inr (h ▸ hm)
      · rintro (h | h)
        · exact .inl (.inl h)
        · exact .inr (.inl h)
    rw [h1]
    exact (impE_mem ho hm).symm
  · have hp : (mkL n (es ++ [edgeI ((x : Int), (y : Int))])).Perm (es ++ [edgeI ((x : Int), (y : Int))]) := mkL_perm
      (fun e h => by
        rcases List.mem_append.1 h with h | h
        · exact hE e h
        · rw [List.mem_singleton] at h; subst h; exact he)
      (by
        rw [List.nodup_append]
        refine ⟨valid_nodup hv, by simp, fun a ha b hb => ?_⟩
        rw [List.mem_singleton] at hb
        subst hb
        exact fun e => hm (e ▸ ha))
    exact rankE_perm hp (fun e h => (mkL_ok e h).mono hn)

/-- A further point with two edges: two more independent edges. -/
theorem henn_rank {n : Nat} {es : List (Int × Int)} {a b : Int} (hn : n < 60) (h : HennOk n es a b (-1)) (hok : ∀ e ∈ es, OkE n e) : rankE (mkL (n + 1) (hennL n es a b (-1))) = rankE es + 2 := by
  have ho : Ok60 es := fun e he => (hok e he).mono (by omega)
  have hp := h.perm
  rw [show ((n : Int) + 1).toNat = n + 1 by omega] at hp
  have o60 : ∀ x, (0 ≤ x ∧ x < (n : Int)) → OkE 60 (x, (n : Int)) := fun x hx => ⟨by simp; omega, by simp; omega, by simp, by simp; omega, by simp; omega⟩
  have e1 : hennL n es a b (-1) = [(a, (n : Int)), (b, (n : Int))] ++ es := by
    unfold hennL
    rw [if_neg (by omega)]
    have : es.filter (keepH a b (-1)) = es := by
      rw [List.filter_eq_self]; intro x _; unfold keepH; simp
    rw [this]; simp
  rw [rankE_perm hp (fun e he => (mkL_ok e he).mono (by omega)), e1]
  have hop : Ok60 ([(a, (n : Int)), (b, (n : Int))] ++ es) := Ok60.app (fun x hx => by
    simp at hx
    rcases hx with rfl | rfl
    · exact o60 _ ⟨h.a0, h.a1⟩
    · exact o60 _ ⟨h.b0, h.b1⟩) ho
  rw [rankE_perm List.perm_append_comm hop]
  -- the basis with the two new edges is independent
  have hs : SpA (basE es ++ [(a, (n : Int)), (b, (n : Int))]) := by
    intro S h2
    have h1 := basE_spA ho
    rw [spanS_app]
    have e2 : spanS [(a, (n : Int)), (b, (n : Int))] S = (if S.testBit a.toNat && S.testBit n then 1 else 0) + (if S.testBit b.toNat && S.testBit n then 1 else 0) := by
      unfold spanS bothB
      simp only [List.countP_cons, List.countP_nil, Int.toNat_natCast]
      split <;> split <;> simp_all
    rw [e2]
    by_cases hS : S.testBit n = true
    · have c := cntB_drop (S := S) hn hS
      have hsp : spanS (basE es) S = spanS (basE es) (S ^^^ 2 ^ n) := spanS_congr (fun e hm => by
        obtain ⟨p1, p2, p3, p4, p5⟩ := hok e ((basE_sub es).subset hm)
        unfold bothB
        rw [bit_drop (by omega), bit_drop (by omega)])
      rw [hsp]
      have ha1 := h.a1
      have ha0 := h.a0
      have hb1 := h.b1
      have hb0 := h.b0
      have hab := h.ab
      by_cases h3 : 2 ≤ cntB 60 (S ^^^ 2 ^ n)
      · have := h1 _ h3
        split <;> split <;> omega
      · have h0 : spanS (basE es) (S ^^^ 2 ^ n) = 0 := by
          unfold spanS
          have : (basE es).countP (bothB (S ^^^ 2 ^ n)) = 0 := by
            rw [List.countP_eq_zero]
            intro e he hb
            exact h3 ((basE_ok ho e he).two hb)
          rw [this]; rfl
        rw [h0]
        have hone : ¬ (S.testBit a.toNat = true ∧ S.testBit b.toNat = true) := fun ⟨x, y⟩ => h3 (cntB_two (p := a.toNat) (q := b.toNat) (by omega) (by omega) (by omega) (by rw [bit_drop (by omega)]; exact x) (by rw [bit_drop (by omega)]; exact y))
        rw [hS]
        simp only [Bool.and_true]
        by_cases hx : S.testBit a.toNat = true
        · have hy : ¬ S.testBit b.toNat = true := fun h => hone ⟨hx, h⟩
          rw [if_pos hx, if_neg hy]; omega
        · rw [if_neg hx]
          split <;> omega
    · have := h1 S h2
      simp only [Bool.not_eq_true] at hS
      rw [hS]
      simp
      omega
  have hbo : Ok60 (basE es ++ [(a, (n : Int)), (b, (n : Int))]) := (basE_ok ho).app (fun x hx => hop x (by simp only [List.mem_append]; exact .inl hx))
  unfold rankE
  rw [grd_app]
  have := grd_whole (I := basE es) (l := [(a, (n : Int)), (b, (n : Int))]) (basE_ok ho) (fun x hx => hop x (by simp only [List.mem_append]; exact .inl hx)) hs
  unfold basE at this
  rw [this]; simp
end Go.Proofs.YtcpkdnhpelkeoaaGreat

namespace Go.Proofs.YtcpkdnhpelkeoaaGreat
set_option linter.unusedVariables false
set_option linter.unusedSimpArgs false
open Go.RowKit Go.Sort
attribute [local go_sem ↓] Go.wp_at_zero Go.wp_at_succ

set_option maxHeartbeats 2000000 in
theorem rank_any (N : Int) (A : Option Addr) (m c : Nat) (es : List (Int × Int)) (r : Nat) (w : World) (hm : m ≤ 100000) (he : Rd w 2 A m (prs es)) (hr : (indE' N es).length = r) :
    Calls Tryz.prog 46 #[.agg #[.int .i64 N, .slice A m c]] w fun e w' => e = .returned (.int .i64 r) ∧ Below w.heap.size w w' := by
  have H1 := Lib.hid (he.keep (Keeps.alloc w (.cells #[.int .i64 N, .slice A m c] 31)))
  have S1 := Lib.hid ((Below.refl w.heap.size w).alloc (Nat.le_refl _) (.cells #[.int .i64 N, .slice A m c] 31))
  have PI : Hid (∀ w', Rd w' 2 A m (prs es) → Calls Tryz.prog 72 #[.agg #[.int .i64 N, .slice A m c]] w' fun e w'' => Below w'.heap.size w' w'' ∧ ∃ B d, e = .returned (.slice B r d)) := Lib.hid fun w' h => (pind_any N A m c es w' hm h).mono (fun e w'' hh => ⟨hh.1, by obtain ⟨-, B, d, h1, -⟩ := hh; rw [hr] at h1; exact ⟨B, d, h1⟩⟩)
  clear he hr
  go_enter Tryz.func46, Tryz.ntmps46
  go_wp2_with (first
    | (go_at_call 72; refine (PI.out _ H1.out).mono ?_; rintro e w1 ⟨hb, B, d, rfl⟩; have S2 := Lib.hid (S1.out.trans (hb.mono (by simp))); clear hb)
    | fail)
  go_ret
  exact ⟨rfl, S2.out⟩

theorem keep1 {W : World} {o1 : Obj} {p : Addr} {v : Value} (h : W.cell? p = some v) : (W.alloc o1).drew.cell? p = some v := Keeps.alloc _ _ _ _ h
theorem keep2 {W : World} {o1 o2 : Obj} {p : Addr} {v : Value} (h : W.cell? p = some v) : ((W.alloc o1).alloc o2).drew.cell? p = some v := Keeps.alloc _ _ _ _ (Keeps.alloc _ _ _ _ h)
theorem keep3 {W : World} {o1 o2 o3 : Obj} {p : Addr} {v : Value} (h : W.cell? p = some v) : (((W.alloc o1).alloc o2).alloc o3).drew.cell? p = some v := Keeps.alloc _ _ _ _ (Keeps.alloc _ _ _ _ (Keeps.alloc _ _ _ _ h))
/-- The frame of a function of a graph whose result is a graph. -/
def GR (w : World) (N : Int) (A : Option Addr) (m c : Nat) : World := (w.alloc (.cells #[.int .i64 N, .slice A m c] 31)).alloc (.cells #[.int .i64 0, .slice none 0 0] 31)
def BG (w : World) (N : Int) (A : Option Addr) (m c : Nat) (w1 : World) : Prop := Below (w.heap.size + 2) (GR w N A m c) w1
section
variable {w w1 w2 : World} {N : Int} {A : Option Addr} {m c : Nat}
theorem BG.start : BG w N A m c (GR w N A m c) := Below.refl _ _
theorem BG.facts (h : BG w N A m c w1) : w.heap.size + 1 < w1.heap.size ∧ w1.cell? ⟨w.heap.size, 0, none⟩ = some (.int .i64 N) ∧ w1.cell? ⟨w.heap.size, 1, none⟩ = some (.slice A m c) ∧ BOXG w1 (w.heap.size + 1) := by
  have hs := h.size
  unfold GR at hs
  simp at hs
  refine ⟨by omega, ?_, ?_, ?_⟩
  · rw [Below.cell h (by simp)]; unfold GR; rw [World.cell?_alloc_lt _ _ _ (by simp)]; simp
  · rw [Below.cell h (by simp)]; unfold GR; rw [World.cell?_alloc_lt _ _ _ (by simp)]; simp
  · unfold BOXG
    rw [h.block _ (by omega)]
    have := BOXG.at (W := w.alloc (.cells #[.int .i64 N, .slice A m c] 31)) (b := w.heap.size + 1) (by simp)
    exact this
theorem BG.next (h : BG w N A m c w1) (hb : Below w1.heap.size w1 w2) : BG w N A m c w2 := Below.trans h (hb.mono (by have := h.facts.1; omega))
theorem BG.below (h : BG w N A m c w1) : Below w.heap.size w w1 := (((Below.refl _ _).alloc (Nat.le_refl _) _).alloc (by simp) _).trans (Below.mono h (by omega))
theorem BG.keeps (h : BG w N A m c w1) : Keeps w w1 := Keeps.of_below h.below (Nat.le_refl _)
end
def GrPost (w : World) (N : Int) (q : Nat) (l : List (Int × Int)) (e : Ending) (w' : World) : Prop := Below w.heap.size w w' ∧ ∃ B d, e = .returned (.agg #[.int .i64 N, .slice B q d]) ∧ Rd w' 2 B q (prs l)
set_option maxRecDepth 100000 in
set_option maxHeartbeats 16000000 in
theorem with_any (N : Int) (A : Option Addr) (m c : Nat) (es : List (Int × Int)) (xa xb : Int) (l : List (Int × Int)) (q : Nat) (w : World) (hm : m ≤ 900) (he : Rd w 2 A m (prs es)) (hmk : mkE N (es ++ [(xa, xb)]) = some l) (hq : l.length = q) :
    Calls Tryz.prog 47 #[.agg #[.int .i64 N, .slice A m c], .int .i64 xa, .int .i64 xb] w (GrPost w N q l) := by
  have H0 := Lib.hid he
  have GMK : Hid (∀ B d w', Rd w' 2 B (m + 1) (prs (es ++ [(xa, xb)])) → Calls Tryz.prog 54 #[.int .i64 N, .slice B (m + 1) d] w' fun e w'' => Below w'.heap.size w' w'' ∧ ∃ B5 d5, e = .returned (.tuple #[.agg #[.int .i64 N, .slice B5 q d5], .int .i64 0]) ∧ Rd w'' 2 B5 q (prs l)) := Lib.hid fun B d w' h => (gmake_any N B (m + 1) d _ w' (by omega) h).mono (fun e w'' hp => by
    rw [hmk] at hp
    obtain ⟨hb, B5, d5, he, ho⟩ := hp
    rw [hq] at he ho
    exact ⟨hb, B5, d5, he, ho.rd⟩)
  clear he hmk hq
  have X0 : Hid (BG w N A m c (GR w N A m c)) := Lib.hid BG.start
  have hwt : GR w N A m c = (w.alloc (.cells #[.int .i64 N, .slice A m c] 31)).alloc (.cells #[.int .i64 0, .slice none 0 0] 31) := rfl
  go_enter Tryz.func47, Tryz.ntmps47
  go_wp2_with fail
  rw [← hwt]
  clear hwt
  generalize GR w N A m c = W5 at *
  obtain ⟨hz1, p0, p1, bx⟩ := X0.out.facts
  have BXR := Lib.hid bx
  clear bx
  have RR := Lib.hid (H0.out.keep X0.out.keeps)
  have n0 := World.new_ne W5 _ p1
  have p0r := p0
  have p1r := p1
  have mf0 : W5.heap.size ≠ w.heap.size := by omega
  have mg0 : w.heap.size ≠ W5.heap.size := by omega
  have mf1 : W5.heap.size + 1 ≠ w.heap.size := by omega
  have mg1 : w.heap.size ≠ W5.heap.size + 1 := by omega
  have mf2 : W5.heap.size + 1 + 1 ≠ w.heap.size := by omega
  have mg2 : w.heap.size ≠ W5.heap.size + 1 + 1 := by omega
  go_upto_region 1 with fail
  go_cut [7, 8] (fun h e wx => e = .int .i64 0 ∧ ∃ (g : Nat) (B : Option Addr) (d : Nat), h = .pointer (some ⟨g, 0, none⟩) ∧ wx.cell? ⟨g, 0, none⟩ = some (.int .i64 N) ∧ wx.cell? ⟨g, 1, none⟩ = some (.slice B q d) ∧ Rd wx 2 B q (prs l) ∧ Below W5.heap.size W5 wx)
  case first =>
    go_region_held3 (fun w' => w'.cell? ⟨w.heap.size, 0, none⟩ = some (.int .i64 N) ∧ w'.cell? ⟨w.heap.size, 1, none⟩ = some (.slice A m c)) (first | exact ⟨p0, p1⟩ | exact ⟨keep1 p0, keep1 p1⟩ | exact ⟨keep2 p0, keep2 p1⟩ | exact ⟨keep3 p0, keep3 p1⟩ | go_keep)
      ((first
        | (go_at_call 73; refine (clone_n A m c es _ (by first | exact Rd.drew' RR.out | exact Rd.drew' (rd_new1 RR.out _) | exact Rd.drew' (rd_new1 (rd_new1 RR.out _) _) | exact rd_new1 (w := W5.drew) RR.out _ | exact rd_new1 (rd_new1 (w := W5.drew) RR.out _) _ | fail) (by omega)).mono ?_; rintro e w3 ⟨hb3, A3, c3, rfl, ho3⟩; have O3 : Hid (Own w3 W5.heap.size 28 2 A3 m c3 (prs es)) := Lib.hid (ho3.base_le (by first | omega | (simp; done) | (simp; omega))); have BL3 : Hid (Below W5.heap.size W5 w3) := Lib.hid (by first | exact ((Below.refl _ _).drew).trans (hb3.mono (by first | omega | (simp; done) | (simp; omega))) | exact (((Below.refl _ _).alloc (by first | omega | (simp; done) | (simp; omega)) _).drew).trans (hb3.mono (by first | omega | (simp; done) | (simp; omega))) | exact ((((Below.refl _ _).alloc (by first | omega | (simp; done) | (simp; omega)) _).alloc (by first | omega | (simp; done) | (simp; omega)) _).drew).trans (hb3.mono (by first | omega | (simp; done) | (simp; omega))) | exact (((((Below.refl _ _).alloc (by first | omega | (simp; done) | (simp; omega)) _).alloc (by first | omega | (simp; done) | (simp; omega)) _).alloc (by first | omega | (simp; done) | (simp; omega)) _).drew).trans (hb3.mono (by first | omega | (simp; done) | (simp; omega))) | exact ((Below.refl _ _).drew).trans (hb3.mono (by first | omega | (simp; done) | (simp; omega))) | exact (((Below.refl _ _).drew.alloc (by first | omega | (simp; done) | (simp; omega)) _)).trans (hb3.mono (by first | omega | (simp; done) | (simp; omega))) | exact ((((Below.refl _ _).drew.alloc (by first | omega | (simp; done) | (simp; omega)) _).alloc (by first | omega | (simp; done) | (simp; omega)) _)).trans (hb3.mono (by first | omega | (simp; done) | (simp; omega))) | exact (((((Below.refl _ _).drew.alloc (by first | omega | (simp; done) | (simp; omega)) _).alloc (by first | omega | (simp; done) | (simp; omega)) _).alloc (by first | omega | (simp; done) | (simp; omega)) _)).trans (hb3.mono (by first | omega | (simp; done) | (simp; omega))) | fail); (try have LIT0 : Hid (Rd w3 2 (some ⟨W5.heap.size, 0, none⟩) 1 (prs [(xa, xb)])) := Lib.hid (Rd.keep (rd2_cells (by first | (rw [cell_drew]; exact cell_at (by first | (simp; done) | fail) _ _ _ rfl) | (rw [cell_drew, World.cell?_alloc_lt _ _ _ (by first | (simp; done) | fail)]; exact cell_at (by first | (simp; done) | fail) _ _ _ rfl) | (rw [cell_drew, World.cell?_alloc_lt _ _ _ (by first | (simp; done) | fail), World.cell?_alloc_lt _ _ _ (by first | (simp; done) | fail)]; exact cell_at (by first | (simp; done) | fail) _ _ _ rfl) | exact cell_at (by first | (simp; done) | fail) _ _ _ rfl | (rw [World.cell?_alloc_lt _ _ _ (by first | (simp; done) | fail)]; exact cell_at (by first | (simp; done) | fail) _ _ _ rfl) | (rw [World.cell?_alloc_lt _ _ _ (by first | (simp; done) | fail), World.cell?_alloc_lt _ _ _ (by first | (simp; done) | fail)]; exact cell_at (by first | (simp; done) | fail) _ _ _ rfl) | fail) (by first | (rw [cell_drew]; exact cell_at (by first | (simp; done) | fail) _ _ _ rfl) | (rw [cell_drew, World.cell?_alloc_lt _ _ _ (by first | (simp; done) | fail)]; exact cell_at (by first | (simp; done) | fail) _ _ _ rfl) | (rw [cell_drew, World.cell?_alloc_lt _ _ _ (by first | (simp; done) | fail), World.cell?_alloc_lt _ _ _ (by first | (simp; done) | fail)]; exact cell_at (by first | (simp; done) | fail) _ _ _ rfl) | exact cell_at (by first | (simp; done) | fail) _ _ _ rfl | (rw [World.cell?_alloc_lt _ _ _ (by first | (simp; done) | fail)]; exact cell_at (by first | (simp; done) | fail) _ _ _ rfl) | (rw [World.cell?_alloc_lt _ _ _ (by first | (simp; done) | fail), World.cell?_alloc_lt _ _ _ (by first | (simp; done) | fail)]; exact cell_at (by first | (simp; done) | fail) _ _ _ rfl) | fail)) (Keeps.of_below hb3 (Nat.le_refl _)))); (try have LIT1 : Hid (Rd w3 2 (some ⟨W5.heap.size + 1, 0, none⟩) 1 (prs [(xa, xb)])) := Lib.hid (Rd.keep (rd2_cells (by first | (rw [cell_drew]; exact cell_at (by first | (simp; done) | fail) _ _ _ rfl) | (rw [cell_drew, World.cell?_alloc_lt _ _ _ (by first | (simp; done) | fail)]; exact cell_at (by first | (simp; done) | fail) _ _ _ rfl) | (rw [cell_drew, World.cell?_alloc_lt _ _ _ (by first | (simp; done) | fail), World.cell?_alloc_lt _ _ _ (by first | (simp; done) | fail)]; exact cell_at (by first | (simp; done) | fail) _ _ _ rfl) | exact cell_at (by first | (simp; done) | fail) _ _ _ rfl | (rw [World.cell?_alloc_lt _ _ _ (by first | (simp; done) | fail)]; exact cell_at (by first | (simp; done) | fail) _ _ _ rfl) | (rw [World.cell?_alloc_lt _ _ _ (by first | (simp; done) | fail), World.cell?_alloc_lt _ _ _ (by first | (simp; done) | fail)]; exact cell_at (by first | (simp; done) | fail) _ _ _ rfl) | fail) (by first | (rw [cell_drew]; exact cell_at (by first | (simp; done) | fail) _ _ _ rfl) | (rw [cell_drew, World.cell?_alloc_lt _ _ _ (by first | (simp; done) | fail)]; exact cell_at (by first | (simp; done) | fail) _ _ _ rfl) | (rw [cell_drew, World.cell?_alloc_lt _ _ _ (by first | (simp; done) | fail), World.cell?_alloc_lt _ _ _ (by first | (simp; done) | fail)]; exact cell_at (by first | (simp; done) | fail) _ _ _ rfl) | exact cell_at (by first | (simp; done) | fail) _ _ _ rfl | (rw [World.cell?_alloc_lt _ _ _ (by first | (simp; done) | fail)]; exact cell_at (by first | (simp; done) | fail) _ _ _ rfl) | (rw [World.cell?_alloc_lt _ _ _ (by first | (simp; done) | fail), World.cell?_alloc_lt _ _ _ (by first | (simp; done) | fail)]; exact cell_at (by first | (simp; done) | fail) _ _ _ rfl) | fail)) (Keeps.of_below hb3 (Nat.le_refl _)))); (try have QX0 : Hid (BOXG w3 (W5.heap.size)) := Lib.hid (BOXG.later (by first | exact BOXG.drew' (BOXG.at (by first | (simp; done) | fail)) | exact BOXG.drew' (BOXG.alloc (BOXG.at (by first | (simp; done) | fail)) _) | exact BOXG.drew' (BOXG.alloc (BOXG.alloc (BOXG.at (by first | (simp; done) | fail)) _) _) | exact BOXG.at (by first | (simp; done) | fail) | exact BOXG.alloc (BOXG.at (by first | (simp; done) | fail)) _ | exact BOXG.alloc (BOXG.alloc (BOXG.at (by first | (simp; done) | fail)) _) _ | fail) hb3)); (try have QX1 : Hid (BOXG w3 (W5.heap.size + 1)) := Lib.hid (BOXG.later (by first | exact BOXG.drew' (BOXG.at (by first | (simp; done) | fail)) | exact BOXG.drew' (BOXG.alloc (BOXG.at (by first | (simp; done) | fail)) _) | exact BOXG.drew' (BOXG.alloc (BOXG.alloc (BOXG.at (by first | (simp; done) | fail)) _) _) | exact BOXG.at (by first | (simp; done) | fail) | exact BOXG.alloc (BOXG.at (by first | (simp; done) | fail)) _ | exact BOXG.alloc (BOXG.alloc (BOXG.at (by first | (simp; done) | fail)) _) _ | fail) hb3)); have hzb3 := BL3.out.size; have kk := Keeps.of_below BL3.out (Nat.le_refl _); have nf0 : W5.heap.size ≠ w.heap.size := (by omega); have ng0 : w.heap.size ≠ W5.heap.size := (by omega); have nf1 : W5.heap.size + 1 ≠ w.heap.size := (by omega); have ng1 : w.heap.size ≠ W5.heap.size + 1 := (by omega); have nf2 : W5.heap.size + 1 + 1 ≠ w.heap.size := (by omega); have ng2 : w.heap.size ≠ W5.heap.size + 1 + 1 := (by omega); have nf3 : w3.heap.size ≠ w.heap.size := (by omega); have ng3 : w.heap.size ≠ w3.heap.size := (by omega); have nf4 : w3.heap.size + 1 ≠ w.heap.size := (by omega); have ng4 : w.heap.size ≠ w3.heap.size + 1 := (by omega); have p0 := kk _ _ p0r; have p1 := kk _ _ p1r; have n0 := World.new_ne w3 _ p1; clear kk; clear ho3 hb3)
        | (refine step_app _ rfl (.tmp 14) (.tmp 18) 29 rfl W5.heap.size 28 (.agg #[.int .i64 0, .int .i64 0]) 2 16 Tryz.underlying29 info_pair rfl (by decide) A3 m c3 (prs es) (by first | (simp [Act.eval, Act.put]; done) | fail) (by first | exact O3.out | exact O3.out.alloc _ | exact (O3.out.alloc _).alloc _ | fail) (some ⟨W5.heap.size, 0, none⟩) 1 1 (prs [(xa, xb)]) (by first | (simp [Act.eval, Act.put]; done) | fail) (by first | exact LIT0.out | exact rd_new1 LIT0.out _ | exact rd_new1 (rd_new1 LIT0.out _) _ | fail) (prs_one _) (by omega) (by unfold maxLen; omega) (by first | omega | (simp; done) | (simp; omega)) ?_; intro A4 c4 w4 ho4 hg4 hb4; have O4 : Hid (Own w4 W5.heap.size 28 2 A4 (m + 1) c4 (prs (es ++ [(xa, xb)]))) := Lib.hid (by rw [prs_app]; exact ho4); have BL4 : Hid (Below W5.heap.size W5 w4) := Lib.hid (by first | exact BL3.out.grown hg4 (by first | omega | (simp; done) | (simp; omega)) (fun k hk => (O3.out.lt hk).1) | exact (BL3.out.alloc (by first | omega | (simp; done) | (simp; omega)) _).grown hg4 (by first | omega | (simp; done) | (simp; omega)) (fun k hk => (O3.out.lt hk).1) | exact ((BL3.out.alloc (by first | omega | (simp; done) | (simp; omega)) _).alloc (by first | omega | (simp; done) | (simp; omega)) _).grown hg4 (by first | omega | (simp; done) | (simp; omega)) (fun k hk => (O3.out.lt hk).1) | exact (((BL3.out.alloc (by first | omega | (simp; done) | (simp; omega)) _).alloc (by first | omega | (simp; done) | (simp; omega)) _).alloc (by first | omega | (simp; done) | (simp; omega)) _).grown hg4 (by first | omega | (simp; done) | (simp; omega)) (fun k hk => (O3.out.lt hk).1) | fail); (try have QX0 : Hid (BOXG w4 (W5.heap.size)) := Lib.hid (BOXG.growR (by first | exact QX0.out | exact QX0.out.alloc _ | exact (QX0.out.alloc _).alloc _ | exact ((QX0.out.alloc _).alloc _).alloc _ | fail) (by first | exact O3.out | exact O3.out.alloc _ | exact (O3.out.alloc _).alloc _ | fail) hg4)); (try have QX1 : Hid (BOXG w4 (W5.heap.size + 1)) := Lib.hid (BOXG.growR (by first | exact QX1.out | exact QX1.out.alloc _ | exact (QX1.out.alloc _).alloc _ | exact ((QX1.out.alloc _).alloc _).alloc _ | fail) (by first | exact O3.out | exact O3.out.alloc _ | exact (O3.out.alloc _).alloc _ | fail) hg4)); (try have QX2 : Hid (BOXG w4 (W5.heap.size + 1 + 1)) := Lib.hid (BOXG.growR (by first | exact QX2.out | exact QX2.out.alloc _ | exact (QX2.out.alloc _).alloc _ | exact ((QX2.out.alloc _).alloc _).alloc _ | fail) (by first | exact O3.out | exact O3.out.alloc _ | exact (O3.out.alloc _).alloc _ | fail) hg4)); (try have QX3 : Hid (BOXG w4 (w3.heap.size)) := Lib.hid (BOXG.growR (by first | exact BOXG.drew' (BOXG.at (by first | (simp; done) | fail)) | exact BOXG.drew' (BOXG.alloc (BOXG.at (by first | (simp; done) | fail)) _) | exact BOXG.drew' (BOXG.alloc (BOXG.alloc (BOXG.at (by first | (simp; done) | fail)) _) _) | exact BOXG.at (by first | (simp; done) | fail) | exact BOXG.alloc (BOXG.at (by first | (simp; done) | fail)) _ | exact BOXG.alloc (BOXG.alloc (BOXG.at (by first | (simp; done) | fail)) _) _ | fail) (by first | exact O3.out | exact O3.out.alloc _ | exact (O3.out.alloc _).alloc _ | fail) hg4)); (try have QX4 : Hid (BOXG w4 (w3.heap.size + 1)) := Lib.hid (BOXG.growR (by first | exact BOXG.drew' (BOXG.at (by first | (simp; done) | fail)) | exact BOXG.drew' (BOXG.alloc (BOXG.at (by first | (simp; done) | fail)) _) | exact BOXG.drew' (BOXG.alloc (BOXG.alloc (BOXG.at (by first | (simp; done) | fail)) _) _) | exact BOXG.at (by first | (simp; done) | fail) | exact BOXG.alloc (BOXG.at (by first | (simp; done) | fail)) _ | exact BOXG.alloc (BOXG.alloc (BOXG.at (by first | (simp; done) | fail)) _) _ | fail) (by first | exact O3.out | exact O3.out.alloc _ | exact (O3.out.alloc _).alloc _ | fail) hg4)); have hzb4 := BL4.out.size; have kk := Keeps.of_below BL4.out (Nat.le_refl _); have nf5 : w4.heap.size ≠ w.heap.size := (by omega); have ng5 : w.heap.size ≠ w4.heap.size := (by omega); have p0 := kk _ _ p0r; have p1 := kk _ _ p1r; have n0 := World.new_ne w4 _ p1; clear kk; clear ho4 hg4 hb4)
        | (refine step_app _ rfl (.tmp 14) (.tmp 18) 29 rfl W5.heap.size 28 (.agg #[.int .i64 0, .int .i64 0]) 2 16 Tryz.underlying29 info_pair rfl (by decide) A3 m c3 (prs es) (by first | (simp [Act.eval, Act.put]; done) | fail) (by first | exact O3.out | exact O3.out.alloc _ | exact (O3.out.alloc _).alloc _ | fail) (some ⟨W5.heap.size + 1, 0, none⟩) 1 1 (prs [(xa, xb)]) (by first | (simp [Act.eval, Act.put]; done) | fail) (by first | exact LIT1.out | exact rd_new1 LIT1.out _ | exact rd_new1 (rd_new1 LIT1.out _) _ | fail) (prs_one _) (by omega) (by unfold maxLen; omega) (by first | omega | (simp; done) | (simp; omega)) ?_; intro A4 c4 w4 ho4 hg4 hb4; have O4 : Hid (Own w4 W5.heap.size 28 2 A4 (m + 1) c4 (prs (es ++ [(xa, xb)]))) := Lib.hid (by rw [prs_app]; exact ho4); have BL4 : Hid (Below W5.heap.size W5 w4) := Lib.hid (by first | exact BL3.out.grown hg4 (by first | omega | (simp; done) | (simp; omega)) (fun k hk => (O3.out.lt hk).1) | exact (BL3.out.alloc (by first | omega | (simp; done) | (simp; omega)) _).grown hg4 (by first | omega | (simp; done) | (simp; omega)) (fun k hk => (O3.out.lt hk).1) | exact ((BL3.out.alloc (by first | omega | (simp; done) | (simp; omega)) _).alloc (by first | omega | (simp; done) | (simp; omega)) _).grown hg4 (by first | omega | (simp; done) | (simp; omega)) (fun k hk => (O3.out.lt hk).1) | exact (((BL3.out.alloc (by first | omega | (simp; done) | (simp; omega)) _).alloc (by first | omega | (simp; done) | (simp; omega)) _).alloc (by first | omega | (simp; done) | (simp; omega)) _).grown hg4 (by first | omega | (simp; done) | (simp; omega)) (fun k hk => (O3.out.lt hk).1) | fail); (try have QX0 : Hid (BOXG w4 (W5.heap.size)) := Lib.hid (BOXG.growR (by first | exact QX0.out | exact QX0.out.alloc _ | exact (QX0.out.alloc _).alloc _ | exact ((QX0.out.alloc _).alloc _).alloc _ | fail) (by first | exact O3.out | exact O3.out.alloc _ | exact (O3.out.alloc _).alloc _ | fail) hg4)); (try have QX1 : Hid (BOXG w4 (W5.heap.size + 1)) := Lib.hid (BOXG.growR (by first | exact QX1.out | exact QX1.out.alloc _ | exact (QX1.out.alloc _).alloc _ | exact ((QX1.out.alloc _).alloc _).alloc _ | fail) (by first | exact O3.out | exact O3.out.alloc _ | exact (O3.out.alloc _).alloc _ | fail) hg4)); (try have QX2 : Hid (BOXG w4 (W5.heap.size + 1 + 1)) := Lib.hid (BOXG.growR (by first | exact QX2.out | exact QX2.out.alloc _ | exact (QX2.out.alloc _).alloc _ | exact ((QX2.out.alloc _).alloc _).alloc _ | fail) (by first | exact O3.out | exact O3.out.alloc _ | exact (O3.out.alloc _).alloc _ | fail) hg4)); (try have QX3 : Hid (BOXG w4 (w3.heap.size)) := Lib.hid (BOXG.growR (by first | exact BOXG.drew' (BOXG.at (by first | (simp; done) | fail)) | exact BOXG.drew' (BOXG.alloc (BOXG.at (by first | (simp; done) | fail)) _) | exact BOXG.drew' (BOXG.alloc (BOXG.alloc (BOXG.at (by first | (simp; done) | fail)) _) _) | exact BOXG.at (by first | (simp; done) | fail) | exact BOXG.alloc (BOXG.at (by first | (simp; done) | fail)) _ | exact BOXG.alloc (BOXG.alloc (BOXG.at (by first | (simp; done) | fail)) _) _ | fail) (by first | exact O3.out | exact O3.out.alloc _ | exact (O3.out.alloc _).alloc _ | fail) hg4)); (try have QX4 : Hid (BOXG w4 (w3.heap.size + 1)) := Lib.hid (BOXG.growR (by first | exact BOXG.drew' (BOXG.at (by first | (simp; done) | fail)) | exact BOXG.drew' (BOXG.alloc (BOXG.at (by first | (simp; done) | fail)) _) | exact BOXG.drew' (BOXG.alloc (BOXG.alloc (BOXG.at (by first | (simp; done) | fail)) _) _) | exact BOXG.at (by first | (simp; done) | fail) | exact BOXG.alloc (BOXG.at (by first | (simp; done) | fail)) _ | exact BOXG.alloc (BOXG.alloc (BOXG.at (by first | (simp; done) | fail)) _) _ | fail) (by first | exact O3.out | exact O3.out.alloc _ | exact (O3.out.alloc _).alloc _ | fail) hg4)); have hzb4 := BL4.out.size; have kk := Keeps.of_below BL4.out (Nat.le_refl _); have nf5 : w4.heap.size ≠ w.heap.size := (by omega); have ng5 : w.heap.size ≠ w4.heap.size := (by omega); have p0 := kk _ _ p0r; have p1 := kk _ _ p1r; have n0 := World.new_ne w4 _ p1; clear kk; clear ho4 hg4 hb4)
        | (refine step_app _ rfl (.tmp 14) (.tmp 18) 29 rfl W5.heap.size 28 (.agg #[.int .i64 0, .int .i64 0]) 2 16 Tryz.underlying29 info_pair rfl (by decide) A3 m c3 (prs es) (by first | (simp [Act.eval, Act.put]; done) | fail) (by first | exact O3.out | exact O3.out.alloc _ | exact (O3.out.alloc _).alloc _ | fail) (some ⟨W5.heap.size + 1 + 1, 0, none⟩) 1 1 (prs [(xa, xb)]) (by first | (simp [Act.eval, Act.put]; done) | fail) (by first | exact LIT2.out | exact rd_new1 LIT2.out _ | exact rd_new1 (rd_new1 LIT2.out _) _ | fail) (prs_one _) (by omega) (by unfold maxLen; omega) (by first | omega | (simp; done) | (simp; omega)) ?_; intro A4 c4 w4 ho4 hg4 hb4; have O4 : Hid (Own w4 W5.heap.size 28 2 A4 (m + 1) c4 (prs (es ++ [(xa, xb)]))) := Lib.hid (by rw [prs_app]; exact ho4); have BL4 : Hid (Below W5.heap.size W5 w4) := Lib.hid (by first | exact BL3.out.grown hg4 (by first | omega | (simp; done) | (simp; omega)) (fun k hk => (O3.out.lt hk).1) | exact (BL3.out.alloc (by first | omega | (simp; done) | (simp; omega)) _).grown hg4 (by first | omega | (simp; done) | (simp; omega)) (fun k hk => (O3.out.lt hk).1) | exact ((BL3.out.alloc (by first | omega | (simp; done) | (simp; omega)) _).alloc (by first | omega | (simp; done) | (simp; omega)) _).grown hg4 (by first | omega | (simp; done) | (simp; omega)) (fun k hk => (O3.out.lt hk).1) | exact (((BL3.out.alloc (by first | omega | (simp; done) | (simp; omega)) _).alloc (by first | omega | (simp; done) | (simp; omega)) _).alloc (by first | omega | (simp; done) | (simp; omega)) _).grown hg4 (by first | omega | (simp; done) | (simp; omega)) (fun k hk => (O3.out.lt hk).1) | fail); (try have QX0 : Hid (BOXG w4 (W5.heap.size)) := Lib.hid (BOXG.growR (by first | exact QX0.out | exact QX0.out.alloc _ | exact (QX0.out.alloc _).alloc _ | exact ((QX0.out.alloc _).alloc _).alloc _ | fail) (by first | exact O3.out | exact O3.out.alloc _ | exact (O3.out.alloc _).alloc _ | fail) hg4)); (try have QX1 : Hid (BOXG w4 (W5.heap.size + 1)) := Lib.hid (BOXG.growR (by first | exact QX1.out | exact QX1.out.alloc _ | exact (QX1.out.alloc _).alloc _ | exact ((QX1.out.alloc _).alloc _).alloc _ | fail) (by first | exact O3.out | exact O3.out.alloc _ | exact (O3.out.alloc _).alloc _ | fail) hg4)); (try have QX2 : Hid (BOXG w4 (W5.heap.size + 1 + 1)) := Lib.hid (BOXG.growR (by first | exact QX2.out | exact QX2.out.alloc _ | exact (QX2.out.alloc _).alloc _ | exact ((QX2.out.alloc _).alloc _).alloc _ | fail) (by first | exact O3.out | exact O3.out.alloc _ | exact (O3.out.alloc _).alloc _ | fail) hg4)); (try have QX3 : Hid (BOXG w4 (w3.heap.size)) := Lib.hid (BOXG.growR (by first | exact BOXG.drew' (BOXG.at (by first | (simp; done) | fail)) | exact BOXG.drew' (BOXG.alloc (BOXG.at (by first | (simp; done) | fail)) _) | exact BOXG.drew' (BOXG.alloc (BOXG.alloc (BOXG.at (by first | (simp; done) | fail)) _) _) | exact BOXG.at (by first | (simp; done) | fail) | exact BOXG.alloc (BOXG.at (by first | (simp; done) | fail)) _ | exact BOXG.alloc (BOXG.alloc (BOXG.at (by first | (simp; done) | fail)) _) _ | fail) (by first | exact O3.out | exact O3.out.alloc _ | exact (O3.out.alloc _).alloc _ | fail) hg4)); (try have QX4 : Hid (BOXG w4 (w3.heap.size + 1)) := Lib.hid (BOXG.growR (by first | exact BOXG.drew' (BOXG.at (by first | (simp; done) | fail)) | exact BOXG.drew' (BOXG.alloc (BOXG.at (by first | (simp; done) | fail)) _) | exact BOXG.drew' (BOXG.alloc (BOXG.alloc (BOXG.at (by first | (simp; done) | fail)) _) _) | exact BOXG.at (by first | (simp; done) | fail) | exact BOXG.alloc (BOXG.at (by first | (simp; done) | fail)) _ | exact BOXG.alloc (BOXG.alloc (BOXG.at (by first | (simp; done) | fail)) _) _ | fail) (by first | exact O3.out | exact O3.out.alloc _ | exact (O3.out.alloc _).alloc _ | fail) hg4)); have hzb4 := BL4.out.size; have kk := Keeps.of_below BL4.out (Nat.le_refl _); have nf5 : w4.heap.size ≠ w.heap.size := (by omega); have ng5 : w.heap.size ≠ w4.heap.size := (by omega); have p0 := kk _ _ p0r; have p1 := kk _ _ p1r; have n0 := World.new_ne w4 _ p1; clear kk; clear ho4 hg4 hb4)
        | (refine step_app _ rfl (.tmp 14) (.tmp 18) 29 rfl W5.heap.size 28 (.agg #[.int .i64 0, .int .i64 0]) 2 16 Tryz.underlying29 info_pair rfl (by decide) A3 m c3 (prs es) (by first | (simp [Act.eval, Act.put]; done) | fail) (by first | exact O3.out | exact O3.out.alloc _ | exact (O3.out.alloc _).alloc _ | fail) (some ⟨w3.heap.size, 0, none⟩) 1 1 (prs [(xa, xb)]) (by first | (simp [Act.eval, Act.put]; done) | fail) (rd2_cells (by first | (rw [cell_drew]; exact cell_at (by first | (simp; done) | fail) _ _ _ rfl) | (rw [cell_drew, World.cell?_alloc_lt _ _ _ (by first | (simp; done) | fail)]; exact cell_at (by first | (simp; done) | fail) _ _ _ rfl) | (rw [cell_drew, World.cell?_alloc_lt _ _ _ (by first | (simp; done) | fail), World.cell?_alloc_lt _ _ _ (by first | (simp; done) | fail)]; exact cell_at (by first | (simp; done) | fail) _ _ _ rfl) | exact cell_at (by first | (simp; done) | fail) _ _ _ rfl | (rw [World.cell?_alloc_lt _ _ _ (by first | (simp; done) | fail)]; exact cell_at (by first | (simp; done) | fail) _ _ _ rfl) | (rw [World.cell?_alloc_lt _ _ _ (by first | (simp; done) | fail), World.cell?_alloc_lt _ _ _ (by first | (simp; done) | fail)]; exact cell_at (by first | (simp; done) | fail) _ _ _ rfl) | fail) (by first | (rw [cell_drew]; exact cell_at (by first | (simp; done) | fail) _ _ _ rfl) | (rw [cell_drew, World.cell?_alloc_lt _ _ _ (by first | (simp; done) | fail)]; exact cell_at (by first | (simp; done) | fail) _ _ _ rfl) | (rw [cell_drew, World.cell?_alloc_lt _ _ _ (by first | (simp; done) | fail), World.cell?_alloc_lt _ _ _ (by first | (simp; done) | fail)]; exact cell_at (by first | (simp; done) | fail) _ _ _ rfl) | exact cell_at (by first | (simp; done) | fail) _ _ _ rfl | (rw [World.cell?_alloc_lt _ _ _ (by first | (simp; done) | fail)]; exact cell_at (by first | (simp; done) | fail) _ _ _ rfl) | (rw [World.cell?_alloc_lt _ _ _ (by first | (simp; done) | fail), World.cell?_alloc_lt _ _ _ (by first | (simp; done) | fail)]; exact cell_at (by first | (simp; done) | fail) _ _ _ rfl) | fail)) (prs_one _) (by omega) (by unfold maxLen; omega) (by first | omega | (simp; done) | (simp; omega)) ?_; intro A4 c4 w4 ho4 hg4 hb4; have O4 : Hid (Own w4 W5.heap.size 28 2 A4 (m + 1) c4 (prs (es ++ [(xa, xb)]))) := Lib.hid (by rw [prs_app]; exact ho4); have BL4 : Hid (Below W5.heap.size W5 w4) := Lib.hid (by first | exact BL3.out.grown hg4 (by first | omega | (simp; done) | (simp; omega)) (fun k hk => (O3.out.lt hk).1) | exact (BL3.out.alloc (by first | omega | (simp; done) | (simp; omega)) _).grown hg4 (by first | omega | (simp; done) | (simp; omega)) (fun k hk => (O3.out.lt hk).1) | exact ((BL3.out.alloc (by first | omega | (simp; done) | (simp; omega)) _).alloc (by first | omega | (simp; done) | (simp; omega)) _).grown hg4 (by first | omega | (simp; done) | (simp; omega)) (fun k hk => (O3.out.lt hk).1) | exact (((BL3.out.alloc (by first | omega | (simp; done) | (simp; omega)) _).alloc (by first | omega | (simp; done) | (simp; omega)) _).alloc (by first | omega | (simp; done) | (simp; omega)) _).grown hg4 (by first | omega | (simp; done) | (simp; omega)) (fun k hk => (O3.out.lt hk).1) | fail); (try have QX0 : Hid (BOXG w4 (W5.heap.size)) := Lib.hid (BOXG.growR (by first | exact QX0.out | exact QX0.out.alloc _ | exact (QX0.out.alloc _).alloc _ | exact ((QX0.out.alloc _).alloc _).alloc _ | fail) (by first | exact O3.out | exact O3.out.alloc _ | exact (O3.out.alloc _).alloc _ | fail) hg4)); (try have QX1 : Hid (BOXG w4 (W5.heap.size + 1)) := Lib.hid (BOXG.growR (by first | exact QX1.out | exact QX1.out.alloc _ | exact (QX1.out.alloc _).alloc _ | exact ((QX1.out.alloc _).alloc _).alloc _ | fail) (by first | exact O3.out | exact O3.out.alloc _ | exact (O3.out.alloc _).alloc _ | fail) hg4)); (try have QX2 : Hid (BOXG w4 (W5.heap.size + 1 + 1)) := Lib.hid (BOXG.growR (by first | exact QX2.out | exact QX2.out.alloc _ | exact (QX2.out.alloc _).alloc _ | exact ((QX2.out.alloc _).alloc _).alloc _ | fail) (by first | exact O3.out | exact O3.out.alloc _ | exact (O3.out.alloc _).alloc _ | fail) hg4)); (try have QX3 : Hid (BOXG w4 (w3.heap.size)) := Lib.hid (BOXG.growR (by first | exact BOXG.drew' (BOXG.at (by first | (simp; done) | fail)) | exact BOXG.drew' (BOXG.alloc (BOXG.at (by first | (simp; done) | fail)) _) | exact BOXG.drew' (BOXG.alloc (BOXG.alloc (BOXG.at (by first | (simp; done) | fail)) _) _) | exact BOXG.at (by first | (simp; done) | fail) | exact BOXG.alloc (BOXG.at (by first | (simp; done) | fail)) _ | exact BOXG.alloc (BOXG.alloc (BOXG.at (by first | (simp; done) | fail)) _) _ | fail) (by first | exact O3.out | exact O3.out.alloc _ | exact (O3.out.alloc _).alloc _ | fail) hg4)); (try have QX4 : Hid (BOXG w4 (w3.heap.size + 1)) := Lib.hid (BOXG.growR (by first | exact BOXG.drew' (BOXG.at (by first | (simp; done) | fail)) | exact BOXG.drew' (BOXG.alloc (BOXG.at (by first | (simp; done) | fail)) _) | exact BOXG.drew' (BOXG.alloc (BOXG.alloc (BOXG.at (by first | (simp; done) | fail)) _) _) | exact BOXG.at (by first | (simp; done) | fail) | exact BOXG.alloc (BOXG.at (by first | (simp; done) | fail)) _ | exact BOXG.alloc (BOXG.alloc (BOXG.at (by first | (simp; done) | fail)) _) _ | fail) (by first | exact O3.out | exact O3.out.alloc _ | exact (O3.out.alloc _).alloc _ | fail) hg4)); have hzb4 := BL4.out.size; have kk := Keeps.of_below BL4.out (Nat.le_refl _); have nf5 : w4.heap.size ≠ w.heap.size := (by omega); have ng5 : w.heap.size ≠ w4.heap.size := (by omega); have p0 := kk _ _ p0r; have p1 := kk _ _ p1r; have n0 := World.new_ne w4 _ p1; clear kk; clear ho4 hg4 hb4)
        | (refine step_app _ rfl (.tmp 14) (.tmp 18) 29 rfl W5.heap.size 28 (.agg #[.int .i64 0, .int .i64 0]) 2 16 Tryz.underlying29 info_pair rfl (by decide) A3 m c3 (prs es) (by first | (simp [Act.eval, Act.put]; done) | fail) (by first | exact O3.out | exact O3.out.alloc _ | exact (O3.out.alloc _).alloc _ | fail) (some ⟨w3.heap.size + 1, 0, none⟩) 1 1 (prs [(xa, xb)]) (by first | (simp [Act.eval, Act.put]; done) | fail) (rd2_cells (by first | (rw [cell_drew]; exact cell_at (by first | (simp; done) | fail) _ _ _ rfl) | (rw [cell_drew, World.cell?_alloc_lt _ _ _ (by first | (simp; done) | fail)]; exact cell_at (by first | (simp; done) | fail) _ _ _ rfl) | (rw [cell_drew, World.cell?_alloc_lt _ _ _ (by first | (simp; done) | fail), World.cell?_alloc_lt _ _ _ (by first | (simp; done) | fail)]; exact cell_at (by first | (simp; done) | fail) _ _ _ rfl) | exact cell_at (by first | (simp; done) | fail) _ _ _ rfl | (rw [World.cell?_alloc_lt _ _ _ (by first | (simp; done) | fail)]; exact cell_at (by first | (simp; done) | fail) _ _ _ rfl) | (rw [World.cell?_alloc_lt _ _ _ (by first | (simp; done) | fail), World.cell?_alloc_lt _ _ _ (by first | (simp; done) | fail)]; exact cell_at (by first | (simp; done) | fail) _ _ _ rfl) | fail) (by first | (rw [cell_drew]; exact cell_at (by first | (simp; done) | fail) _ _ _ rfl) | (rw [cell_drew, World.cell?_alloc_lt _ _ _ (by first | (simp; done) | fail)]; exact cell_at (by first | (simp; done) | fail) _ _ _ rfl) | (rw [cell_drew, World.cell?_alloc_lt _ _ _ (by first | (simp; done) | fail), World.cell?_alloc_lt _ _ _ (by first | (simp; done) | fail)]; exact cell_at (by first | (simp; done) | fail) _ _ _ rfl) | exact cell_at (by first | (simp; done) | fail) _ _ _ rfl | (rw [World.cell?_alloc_lt _ _ _ (by first | (simp; done) | fail)]; exact cell_at (by first | (simp; done) | fail) _ _ _ rfl) | (rw [World.cell?_alloc_lt _ _ _ (by first | (simp; done) | fail), World.cell?_alloc_lt _ _ _ (by first | (simp; done) | fail)]; exact cell_at (by first | (simp; done) | fail) _ _ _ rfl) | fail)) (prs_one _) (by omega) (by unfold maxLen; omega) (by first | omega | (simp; done) | (simp; omega)) ?_; intro A4 c4 w4 ho4 hg4 hb4; have O4 : Hid (Own w4 W5.heap.size 28 2 A4 (m + 1) c4 (prs (es ++ [(xa, xb)]))) := Lib.hid (by rw [prs_app]; exact ho4); have BL4 : Hid (Below W5.heap.size W5 w4) := Lib.hid (by first | exact BL3.out.grown hg4 (by first | omega | (simp; done) | (simp; omega)) (fun k hk => (O3.out.lt hk).1) | exact (BL3.out.alloc (by first | omega | (simp; done) | (simp; omega)) _).grown hg4 (by first | omega | (simp; done) | (simp; omega)) (fun k hk => (O3.out.lt hk).1) | exact ((BL3.out.alloc (by first | omega | (simp; done) | (simp; omega)) _).alloc (by first | omega | (simp; done) | (simp; omega)) _).grown hg4 (by first | omega | (simp; done) | (simp; omega)) (fun k hk => (O3.out.lt hk).1) | exact (((BL3.out.alloc (by first | omega | (simp; done) | (simp; omega)) _).alloc (by first | omega | (simp; done) | (simp; omega)) _).alloc (by first | omega | (simp; done) | (simp; omega)) _).grown hg4 (by first | omega | (simp; done) | (simp; omega)) (fun k hk => (O3.out.lt hk).1) | fail); (try have QX0 : Hid (BOXG w4 (W5.heap.size)) := Lib.hid (BOXG.growR (by first | exact QX0.out | exact QX0.out.alloc _ | exact (QX0.out.alloc _).alloc _ | exact ((QX0.out.alloc _).alloc _).alloc _ | fail) (by first | exact O3.out | exact O3.out.alloc _ | exact (O3.out.alloc _).alloc _ | fail) hg4)); (try have QX1 : Hid (BOXG w4 (W5.heap.size + 1)) := Lib.hid (BOXG.growR (by first | exact QX1.out | exact QX1.out.alloc _ | exact (QX1.out.alloc _).alloc _ | exact ((QX1.out.alloc _).alloc _).alloc _ | fail) (by first | exact O3.out | exact O3.out.alloc _ | exact (O3.out.alloc _).alloc _ | fail) hg4)); (try have QX2 : Hid (BOXG w4 (W5.heap.size + 1 + 1)) := Lib.hid (BOXG.growR (by first | exact QX2.out | exact QX2.out.alloc _ | exact (QX2.out.alloc _).alloc _ | exact ((QX2.out.alloc _).alloc _).alloc _ | fail) (by first | exact O3.out | exact O3.out.alloc _ | exact (O3.out.alloc _).alloc _ | fail) hg4)); (try have QX3 : Hid (BOXG w4 (w3.heap.size)) := Lib.hid (BOXG.growR (by first | exact BOXG.drew' (BOXG.at (by first | (simp; done) | fail)) | exact BOXG.drew' (BOXG.alloc (BOXG.at (by first | (simp; done) | fail)) _) | exact BOXG.drew' (BOXG.alloc (BOXG.alloc (BOXG.at (by first | (simp; done) | fail)) _) _) | exact BOXG.at (by first | (simp; done) | fail) | exact BOXG.alloc (BOXG.at (by first | (simp; done) | fail)) _ | exact BOXG.alloc (BOXG.alloc (BOXG.at (by first | (simp; done) | fail)) _) _ | fail) (by first | exact O3.out | exact O3.out.alloc _ | exact (O3.out.alloc _).alloc _ | fail) hg4)); (try have QX4 : Hid (BOXG w4 (w3.heap.size + 1)) := Lib.hid (BOXG.growR (by first | exact BOXG.drew' (BOXG.at (by first | (simp; done) | fail)) | exact BOXG.drew' (BOXG.alloc (BOXG.at (by first | (simp; done) | fail)) _) | exact BOXG.drew' (BOXG.alloc (BOXG.alloc (BOXG.at (by first | (simp; done) | fail)) _) _) | exact BOXG.at (by first | (simp; done) | fail) | exact BOXG.alloc (BOXG.at (by first | (simp; done) | fail)) _ | exact BOXG.alloc (BOXG.alloc (BOXG.at (by first | (simp; done) | fail)) _) _ | fail) (by first | exact O3.out | exact O3.out.alloc _ | exact (O3.out.alloc _).alloc _ | fail) hg4)); have hzb4 := BL4.out.size; have kk := Keeps.of_below BL4.out (Nat.le_refl _); have nf5 : w4.heap.size ≠ w.heap.size := (by omega); have ng5 : w.heap.size ≠ w4.heap.size := (by omega); have p0 := kk _ _ p0r; have p1 := kk _ _ p1r; have n0 := World.new_ne w4 _ p1; clear kk; clear ho4 hg4 hb4)
        | (go_at_call 54; refine (GMK.out A4 c4 _ (by first | exact O4.out.rd | exact rd_new1 O4.out.rd _)).mono ?_; rintro e w5 ⟨hb5, B5, d5, rfl, hr5⟩; have R5 := Lib.hid hr5; have BL5 : Hid (Below W5.heap.size W5 w5) := Lib.hid (by first | exact BL4.out.trans (hb5.mono BL4.out.size) | exact (BL4.out.alloc BL4.out.size _).trans (hb5.mono (by have := BL4.out.size; first | omega | (simp; done) | (simp; omega))) | fail); (try have QX0 : Hid (BOXG w5 (W5.heap.size)) := Lib.hid (BOXG.later (by first | exact QX0.out | exact QX0.out.alloc _ | exact (QX0.out.alloc _).alloc _ | exact ((QX0.out.alloc _).alloc _).alloc _ | fail) hb5)); (try have QX1 : Hid (BOXG w5 (W5.heap.size + 1)) := Lib.hid (BOXG.later (by first | exact QX1.out | exact QX1.out.alloc _ | exact (QX1.out.alloc _).alloc _ | exact ((QX1.out.alloc _).alloc _).alloc _ | fail) hb5)); (try have QX2 : Hid (BOXG w5 (W5.heap.size + 1 + 1)) := Lib.hid (BOXG.later (by first | exact QX2.out | exact QX2.out.alloc _ | exact (QX2.out.alloc _).alloc _ | exact ((QX2.out.alloc _).alloc _).alloc _ | fail) hb5)); (try have QX3 : Hid (BOXG w5 (w3.heap.size)) := Lib.hid (BOXG.later (by first | exact QX3.out | exact QX3.out.alloc _ | exact (QX3.out.alloc _).alloc _ | exact ((QX3.out.alloc _).alloc _).alloc _ | fail) hb5)); (try have QX4 : Hid (BOXG w5 (w3.heap.size + 1)) := Lib.hid (BOXG.later (by first | exact QX4.out | exact QX4.out.alloc _ | exact (QX4.out.alloc _).alloc _ | exact ((QX4.out.alloc _).alloc _).alloc _ | fail) hb5)); (try have QX5 : Hid (BOXG w5 w4.heap.size) := Lib.hid (BOXG.later (by first | exact BOXG.drew' (BOXG.at (by first | (simp; done) | fail)) | exact BOXG.drew' (BOXG.alloc (BOXG.at (by first | (simp; done) | fail)) _) | exact BOXG.drew' (BOXG.alloc (BOXG.alloc (BOXG.at (by first | (simp; done) | fail)) _) _) | exact BOXG.at (by first | (simp; done) | fail) | exact BOXG.alloc (BOXG.at (by first | (simp; done) | fail)) _ | exact BOXG.alloc (BOXG.alloc (BOXG.at (by first | (simp; done) | fail)) _) _ | fail) hb5)); (try (have za0 := QX0.out.c0; have zb0 := QX0.out.c1; have zc0 := QX0.out.f0; have zd0 := QX0.out.f1)); (try (have za1 := QX1.out.c0; have zb1 := QX1.out.c1; have zc1 := QX1.out.f0; have zd1 := QX1.out.f1)); (try (have za2 := QX2.out.c0; have zb2 := QX2.out.c1; have zc2 := QX2.out.f0; have zd2 := QX2.out.f1)); (try (have za3 := QX3.out.c0; have zb3 := QX3.out.c1; have zc3 := QX3.out.f0; have zd3 := QX3.out.f1)); (try (have za4 := QX4.out.c0; have zb4 := QX4.out.c1; have zc4 := QX4.out.f0; have zd4 := QX4.out.f1)); (try (have za5 := QX5.out.c0; have zb5 := QX5.out.c1; have zc5 := QX5.out.f0; have zd5 := QX5.out.f1)); have hzb5 := BL5.out.size; have kk := Keeps.of_below BL5.out (Nat.le_refl _); have p0 := kk _ _ p0r; have p1 := kk _ _ p1r; have n0 := World.new_ne w5 _ p1; clear kk; clear hb5 hr5)
        | fail))
    all_goals
     go_wp2_with fail
     go_meet
     first
       | exact ⟨rfl, w5.heap.size, B5, d5, rfl, by simp, by simp, R5.out.keep (Keeps.alloc _ _), BL5.out.alloc BL5.out.size _⟩
       | exact ⟨rfl, _, B5, d5, rfl, (QX0.out.put N R5.out).1, (QX0.out.put N R5.out).2.1, (QX0.out.put N R5.out).2.2, (BL5.out.setCell (by first | (simp; done) | (simp; omega) | omega) _).setCell (by first | (simp; done) | (simp; omega) | omega) _⟩
       | exact ⟨rfl, _, B5, d5, rfl, (QX1.out.put N R5.out).1, (QX1.out.put N R5.out).2.1, (QX1.out.put N R5.out).2.2, (BL5.out.setCell (by first | (simp; done) | (simp; omega) | omega) _).setCell (by first | (simp; done) | (simp; omega) | omega) _⟩
       | exact ⟨rfl, _, B5, d5, rfl, (QX2.out.put N R5.out).1, (QX2.out.put N R5.out).2.1, (QX2.out.put N R5.out).2.2, (BL5.out.setCell (by first | (simp; done) | (simp; omega) | omega) _).setCell (by first | (simp; done) | (simp; omega) | omega) _⟩
       | exact ⟨rfl, _, B5, d5, rfl, (QX3.out.put N R5.out).1, (QX3.out.put N R5.out).2.1, (QX3.out.put N R5.out).2.2, (BL5.out.setCell (by first | (simp; done) | (simp; omega) | omega) _).setCell (by first | (simp; done) | (simp; omega) | omega) _⟩
       | exact ⟨rfl, _, B5, d5, rfl, (QX4.out.put N R5.out).1, (QX4.out.put N R5.out).2.1, (QX4.out.put N R5.out).2.2, (BL5.out.setCell (by first | (simp; done) | (simp; omega) | omega) _).setCell (by first | (simp; done) | (simp; omega) | omega) _⟩
       | exact ⟨rfl, _, B5, d5, rfl, (QX5.out.put N R5.out).1, (QX5.out.put N R5.out).2.1, (QX5.out.put N R5.out).2.2, (BL5.out.setCell (by first | (simp; done) | (simp; omega) | omega) _).setCell (by first | (simp; done) | (simp; omega) | omega) _⟩
  case rest =>
    obtain ⟨rfl, g, B, d, rfl, h0, h1, hr, hb⟩ := hcut
    rename World => w6
    have X6 := Lib.hid (X0.out.next hb)
    obtain ⟨hz6, p0, p1, bx6⟩ := X6.out.facts
    have b0 := bx6.c0
    have b1 := bx6.c1
    have f0 := bx6.f0
    have f1 := bx6.f1
    have R6 := Lib.hid hr
    have BX6 := Lib.hid bx6
    clear hr hb bx6
    go_wp2_with fail
    have z := BX6.out.put N (d := d) R6.out
    have HB6 := X6.out.below
    refine bodyPost_ret (v := .agg #[.int .i64 N, .slice B q d]) (by simp [results, Tryz.results47, go_sem, z.1, z.2.1]) rfl ⟨?_, B, d, rfl, z.2.2⟩
    exact (HB6.setCell (by simp) _).setCell (by simp) _
end Go.Proofs.YtcpkdnhpelkeoaaGreat

