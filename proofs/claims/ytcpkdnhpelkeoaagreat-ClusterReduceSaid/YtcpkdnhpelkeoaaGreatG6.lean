/-
  slices.SortFunc at pairs, by graph.compare: the call's own list of pairs becomes a sorted permutation of itself.
-/
import Derived.Test.YtcpkdnhpelkeoaaGreatG5
import Derived.Test.YtcpkdnhpelkeoaaGreatShelf
import Derived.Shelf.SlSortCmp.QuietGrown
import Derived.Shelf.SlSortCmp.NoneTotal

namespace Go.Proofs.YtcpkdnhpelkeoaaGreat
set_option linter.unusedVariables false
set_option linter.unusedSimpArgs false
open Go.RowKit Go.Sort Go.Shelf Go.Lib

/-- The first n operations read, or call what lays blocks; the others in one forced order: the world is w after some draws, with some blocks laid behind it. -/
theorem wp_region_qg {P : Program} {id : Nat} {Q : Exit → Act → World → Prop} {a : Act} {w : World} {l : List Oper} (n : Nat) (hm : P.follows .mixedOrders = true) (hB : Region.lexTailB .any l.toArray n = true)
    (h : wpQuiet P l.toArray (fun w' => ∃ p : GrownBy, w' = grow (w.drewN p.n) p.os) (fun a' => ∀ w', (∃ p : GrownBy, w' = grow (w.drewN p.n) p.os) → wpList P l.toArray Q (l.drop n) a' w') (l.take n) a) : (Code.region id l.toArray true).wp P Q a w := by
  simp only [Region.lexTailB, Bool.and_eq_true, decide_eq_true_eq] at hB
  obtain ⟨⟨⟨⟨hsel, hn⟩, hs⟩, hc⟩, hlex⟩ := hB
  have hn' : n < l.length := by simpa using hn
  have htl : (l.take n).length = n := by simp; omega
  have hdl : (l.drop n).length = l.toArray.size - n := by simp
  have inv0 : HeadInv .any l.toArray n (Array.replicate l.toArray.size false) :=
    ⟨by simp, fun j oj _ hl => (by rw [getD_replicate_false] at hl; cases hl), fun t _ ht => getD_in (by simpa using ht) (getD_replicate_false _ _)⟩
  have H := wpAnyK_lex (md := .any) (g := l.toArray.size - n) hsel hs hc hn (l.take n) 0 _ a (fun j hj => by
    have hj' : j < n := by rw [htl] at hj; exact hj
    simp [hj']) (by simpa using htl) inv0 (by rw [htl]; exact hlex) h
  refine wp_region_any hm ?_
  have hC : ∃ p : GrownBy, ({ w with drawn := w.drawn + 1 } : World) = grow (w.drewN p.n) p.os := ⟨⟨1, #[]⟩, by rw [grow_empty]; rfl⟩
  have := wpAny_of_headK (Q' := Q) (g := l.toArray.size - n) (fun listed a' w' hw' hL => by
    have := wpAny_of_seq (md := .any) (Q' := Q) (l.drop n) n listed a' w' (fun j => by simp [List.getElem?_drop]) (by rw [hdl]; exact hL.1) (hL.2 w' hw')
    rwa [hdl] at this) _ _ _ _ hC H
  rw [htl, show n + (l.toArray.size - n) = l.toArray.size by omega] at this
  exact this
theorem call_pg {P : Program} {f : FuncId} {args : Array Value} {w : World} {v : Value}
    (h : ∀ w', Calls P f args w' fun e w'' => e = .returned v ∧ w' = w'') :
    ∀ n os, Calls P f args (grow (w.drewN n) os) fun e w'' => e = .returned v ∧ ∃ p : GrownBy, w'' = grow (w.drewN p.n) p.os :=
  fun n os => Calls.grown_of ((h _).mono fun e w'' hh => ⟨hh.1, 0, #[], by rw [← hh.2, grow_empty]; rfl⟩)

def encP (x : Int × Int) : List Value := [.int .i64 x.1, .int .i64 x.2]
def cfP (x y : Int × Int) : Int := cmpE x.1 x.2 y.1 y.2
set_option maxHeartbeats 1000000 in
theorem gcompare_grown (x y : Int × Int) (w : World) :
    Calls Tryz.prog 45 #[.agg #[.int .i64 x.1, .int .i64 x.2], .agg #[.int .i64 y.1, .int .i64 y.2]] w fun e w' => e = .returned (.int .i64 (cfP x y)) ∧ ∃ q os', w' = grow (w.drewN q) os' := by
  obtain ⟨a, b⟩ := x
  obtain ⟨c, d⟩ := y
  have d1 := call_pg (w := (w.alloc (.cells #[.int .i64 a, .int .i64 b] 28)).alloc (.cells #[.int .i64 c, .int .i64 d] 28)) (ccmp_any a c)
  have d2 := call_pg (w := (w.alloc (.cells #[.int .i64 a, .int .i64 b] 28)).alloc (.cells #[.int .i64 c, .int .i64 d] 28)) (ccmp_any b d)
  have c0 := cell_grown (w := (w.alloc (.cells #[.int .i64 a, .int .i64 b] 28)).alloc (.cells #[.int .i64 c, .int .i64 d] 28)) (a := ⟨w.heap.size, 0, none⟩) (v := .int .i64 a) (by simp; omega) (by simp)
  have c1 := cell_grown (w := (w.alloc (.cells #[.int .i64 a, .int .i64 b] 28)).alloc (.cells #[.int .i64 c, .int .i64 d] 28)) (a := ⟨w.heap.size, 1, none⟩) (v := .int .i64 b) (by simp; omega) (by simp)
  have c2 := cell_grown (w := (w.alloc (.cells #[.int .i64 a, .int .i64 b] 28)).alloc (.cells #[.int .i64 c, .int .i64 d] 28)) (a := ⟨w.heap.size + 1, 0, none⟩) (v := .int .i64 c) (by simp) (by simp)
  have c3 := cell_grown (w := (w.alloc (.cells #[.int .i64 a, .int .i64 b] 28)).alloc (.cells #[.int .i64 c, .int .i64 d] 28)) (a := ⟨w.heap.size + 1, 1, none⟩) (v := .int .i64 d) (by simp) (by simp)
  show Calls Tryz.prog 45 #[.agg #[.int .i64 a, .int .i64 b], .agg #[.int .i64 c, .int .i64 d]] w fun e w' => e = .returned (.int .i64 (cmpE a b c d)) ∧ ∃ q os', w' = grow (w.drewN q) os'
  unfold cmpE
  go_enter Tryz.func45, Tryz.ntmps45
  go_wp2
  refine wp_region_qg 10 (by kernel_rfl) (by kernel_rfl) ?_
  simp only [List.take_succ_cons, List.take_zero, List.drop_succ_cons, List.drop_zero]
  repeat (go_big_quiet_step (first | with_reducible exact d1 _ _ | with_reducible exact d2 _ _))
  refine wpQuiet_nil ?_
  intro wq hwq
  obtain ⟨⟨nq, osq⟩, hwq⟩ := hwq
  have hfin : ∀ o, ∃ q os', wq.alloc o = grow (w.drewN q) os' := fun o => by
    rw [hwq, alloc_eq_grow, alloc_eq_grow, alloc_eq_grow, grow_grow]
    refine ⟨nq, #[.cells #[.int .i64 a, .int .i64 b] 28] ++ #[.cells #[.int .i64 c, .int .i64 d] 28] ++ osq ++ #[o], ?_⟩
    show grow (grow (grow (w.drewN nq) _) _) (osq ++ #[o]) = _
    rw [grow_grow, grow_grow]
    simp [Array.append_assoc]
  have HF := Lib.hid hfin
  clear hwq hfin
  go_wp2_with (go_at_call 71; refine (cor_any _ _ (cmpI a c) (cmpI b d) _ _ (by simp) (by simp)).mono ?_; rintro e w' ⟨rfl, rfl⟩)
  go_ret
  exact ⟨rfl, HF.out _⟩

theorem ltP (x y : Int × Int) : ltOf cfP x y = befB x.1 x.2 y.1 y.2 := by
  unfold ltOf cfP
  have := befB_of (z := cmpE x.1 x.2 y.1 y.2) (p := x.1) (q := x.2) (x := y.1) (y := y.2) rfl
  rw [this]
  by_cases h : 0 ≤ cmpE x.1 x.2 y.1 y.2
  · rw [decide_eq_true h, decide_eq_false (by omega)]; rfl
  · rw [decide_eq_false h, decide_eq_true (by omega)]; rfl
theorem befB_iff {a b c d : Int} : befB a b c d = true ↔ a < c ∨ a = c ∧ b < d := by unfold befB; simp
theorem befB_not {a b c d : Int} : befB a b c d = false ↔ ¬ (a < c ∨ a = c ∧ b < d) := by rw [← befB_iff]; simp
theorem swoP : SWO (ltOf cfP) where
  irrefl x := by rw [ltP, befB_not]; omega
  trans x y z h1 h2 := by rw [ltP, befB_iff] at *; omega
  ntrans x y z h1 h2 := by rw [ltP, befB_not] at *; omega

theorem cmpLaysP (blk off size : Nat) (w : World) : CmpLays Tryz.prog 45 #[] encP 2 cfP blk off size w :=
  fun _ _ _ _ x y => gcompare_grown x y _
theorem getBang {α : Type} [Inhabited α] (l : List α) (i : Nat) (d : α) (h : i < l.length) : l.toArray[i]! = l.getD i d := by
  simp [getElem!_pos, h, List.getD_eq_getElem?_getD]
theorem flat_get (l : List (Int × Int)) (j : Nat) (h : j < l.length * 2) : some (flatK encP 2 l.toArray)[j]! = (prs l)[j]? := by
  rw [get_flatK _ _ _ _ (by simpa using h), getBang l (j / 2) (0, 0) (by omega)]
  rcases Nat.mod_two_eq_zero_or_one j with e | e
  · have := prs_at0 l (j / 2) (by omega)
    rw [show j / 2 * 2 = j by omega] at this
    rw [this, e]; rfl
  · have := prs_at1 l (j / 2) (by omega)
    rw [show j / 2 * 2 + 1 = j by omega] at this
    rw [this, e]; rfl
theorem flat_list (l : List (Int × Int)) : (flatK encP 2 l.toArray).toList = prs l := by
  apply List.ext_getElem?
  intro j
  by_cases h : j < l.length * 2
  · rw [← flat_get l j h, getElem!_pos _ _ (by simpa using h)]
    simp [h]
  · rw [List.getElem?_eq_none (by simpa using h), List.getElem?_eq_none (by rw [prs_length]; omega)]
theorem put_take (F cur : Array Value) (h : F.size ≤ cur.size) : (putCells id 0 F cur).toList.take F.size = F.toList := by
  apply List.ext_getElem?
  intro j
  rw [List.getElem?_take]
  by_cases hj : j < F.size
  · have hb : F[j]! = F[j] := getElem!_pos F j hj
    have hc : j < cur.size := by omega
    simp [putCells, hj, hc, hb]
  · simp [hj]
/-- Behind the sort: the block holds the sorted list. -/
theorem Own.sorted {w : World} {base g n c : Nat} {l l' : List (Int × Int)} (h : Own w base 28 2 (some ⟨g, 0, none⟩) n c (prs l)) (hl : l'.length = n) (m : Nat) (os : Array Obj) :
    Own (sortWorldK encP 2 w g 0 m l'.toArray os) base 28 2 (some ⟨g, 0, none⟩) n c (prs l') ∧ w.grownBy (sortWorldK encP 2 w g 0 m l'.toArray os) (some g) := by
  have hlt := (h.lt (k := g) rfl).2
  have hold : ∀ k, k < w.heap.size → k ≠ g → (sortWorldK encP 2 w g 0 m l'.toArray os).heap[k]? = w.heap[k]? := by
    intro k hk hne
    unfold sortWorldK
    rw [heap_grow_old _ _ (by simp [putRowK, putRow, mapBlock, ahead]; exact hk)]
    simp [putRowK, putRow, mapBlock, ahead, Array.getElem?_modify, Ne.symm hne]
  refine ⟨⟨by rw [prs_length, hl], ?_⟩, ⟨rfl, rfl, rfl, by simp [sortWorldK, putRowK, putRow, mapBlock, ahead], fun k hk hne => hold k hk (fun e => hne (by rw [e]))⟩⟩
  rcases h.2 with ⟨h1, h2⟩ | ⟨g', cap, cur, hv, hb, hh, hnc, hcm, hcs, htake⟩
  · cases h1
  · have hg : g = g' := by injection hv with hv; injection hv with hv; injection hv
    subst hg
    refine .inr ⟨g, cap, putCells id 0 (flatK encP 2 l'.toArray) cur, hv, hb, ?_, hnc, hcm, ?_, ?_⟩
    · unfold sortWorldK
      rw [heap_grow_old _ _ (by simp [putRowK, putRow, mapBlock, ahead]; exact hlt)]
      simp [putRowK, putRow, mapBlock, ahead, Array.getElem?_modify, hh, onCells]
    · simp [putCells, hcs]
    · have := put_take (flatK encP 2 l'.toArray) cur (by simp [hl, hcs]; omega)
      rw [size_flatK] at this
      simp only [List.size_toArray, hl] at this
      rw [this, flat_list]
theorem own_holds {w : World} {base g n c : Nat} {l : List (Int × Int)} (h : Own w base 28 2 (some ⟨g, 0, none⟩) n c (prs l)) : HoldsK encP 2 w g 0 l.toArray := by
  intro j hj
  have hl := h.len
  rw [prs_length] at hl
  rw [size_flatK] at hj
  have hj' : j < l.length * 2 := by simpa using hj
  refine ⟨?_, by rw [Nat.zero_add]; exact h.frozen j⟩
  rw [Nat.zero_add, World.ownsRow.cellAt h j (by omega), ← flat_get l j hj']
  rfl
theorem isAggP : ∀ w, (isAgg 28).run Tryz.prog w = .ok true w := Tryz.isAgg28
theorem sizeOfP : ∀ w, (Go.sizeOf 28).run Tryz.prog w = .ok 2 w := Tryz.sizeOf28
def SortPost (w : World) (base : Nat) (A : Option Addr) (n c : Nat) (l : List (Int × Int)) (e : Ending) (w' : World) : Prop :=
  e = .returned (.tuple #[]) ∧ ∃ l', l'.Perm l ∧ l'.Pairwise (fun x y => ¬ lt2 y x) ∧ Own w' base 28 2 A n c (prs l') ∧ w.grownBy w' (blk A)
set_option maxHeartbeats 1000000 in
theorem sort_own (A : Option Addr) (n c : Nat) (l : List (Int × Int)) (w : World) (base : Nat) (ho : Own w base 28 2 A n c (prs l)) (hn : n ≤ 1000000) :
    Calls Tryz.prog 74 #[.slice A n c, .func (.func 45) #[] #[]] w (SortPost w base A n c l) := by
  have hl : l.length = n := by have := ho.len; rw [prs_length] at this; omega
  rcases ho.2 with ⟨h1, h2⟩ | ⟨g, cap, cur, hv, hb, hh, _⟩
  · injection h1 with h1 _ h3
    subst h1 h2 h3
    have hl0 : l = [] := List.eq_nil_of_length_eq_zero hl
    subst hl0
    have := AnyF.slices_SortFunc_none Tryz.laysSlF06_f74 none 0 (.func (.func 45) #[] #[]) w
    refine Calls.mono this ?_
    rintro e w' ⟨rfl, rfl⟩
    exact ⟨rfl, [], List.Perm.refl _, List.Pairwise.nil, ho, World.grownBy.refl _ _⟩
  · have hA : A = some ⟨g, 0, none⟩ := by injection hv
    subst hA
    have eg : ∀ args w, (callFunc 45 args).run Tryz.prog w = .ok (.enter 45 args) w := enters_of Tryz.func45 (by kernel_rfl) rfl
    have hlt := (ho.lt (k := g) rfl).2
    have hcon := Tryz.slices_SortFunc 2 isAggP sizeOfP encP (fun _ => rfl) (fun x v hv => by simp [encP] at hv; rcases hv with rfl | rfl <;> rfl) cfP swoP 45 #[] g 0 c l.toArray w eg (cmpLaysP g 0 l.toArray.size w) (own_holds ho) hlt (by simp [hl]; omega)
    rw [show l.toArray.size = n by simpa using hl] at hcon
    refine hcon.mono ?_
    rintro e w' ⟨rfl, d', m, os, hp, hs, rfl⟩
    have hsz : d'.size = n := by rw [hp.1]; simpa using hl
    obtain ⟨o1, o2⟩ := Own.sorted (l' := d'.toList) ho (by simpa using hsz) m os
    refine ⟨rfl, d'.toList, ?_, ?_, o1, o2⟩
    · have h3 := hp.2.2
      rw [show d'.extract 0 n = d' by rw [← hsz]; simp, show l.toArray.extract 0 n = l.toArray by rw [← hl]; simp] at h3
      simpa using h3
    · rw [List.pairwise_iff_getElem]
      intro i j hi hj hij
      simp at hi hj
      have := hs i j (Nat.zero_le _) hij (by omega)
      rw [ltP, befB_not, getElem!_pos d' j hj, getElem!_pos d' i hi] at this
      simpa [lt2] using this
end Go.Proofs.YtcpkdnhpelkeoaaGreat
