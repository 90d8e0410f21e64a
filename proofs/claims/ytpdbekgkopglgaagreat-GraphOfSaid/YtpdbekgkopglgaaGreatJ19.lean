/-
  Contracts and lemmas for the statement, joined: G6, G7, G8.
-/
import Derived.Test.YtpdbekgkopglgaaGreatJ4
import Derived.Test.YtpdbekgkopglgaaGreatJ18
import Derived.Shelf.SlSortCmp.QuietGrown
import Derived.Shelf.SlSortCmp.NoneTotal
import Derived.Deep.RegionLaw
import Derived.Deep.DrawnRows

namespace Go.Proofs.YtpdbekgkopglgaaGreat
set_option linter.unusedVariables false
set_option linter.unusedSimpArgs false
open Go.RowKit Go.Sort Go.Shelf Go.Lib

/-- The first n operations read, or call what lays blocks; the others in one forced order: the world is w after some draws, with some blocks laid behind it. -/
theorem wp_region_qg {P : Program} {id : Nat} {Q : Exit → Act → World → Prop} {a : Act} {w : World} {l : List Oper} (n : Nat) (hm : P.follows .mixedOrders = true) (hB : Region.lexTailB .any l.toArray n = true)
    (h : wpQuiet P l.toArray (fun w' => ∃ p : GrownBy, w' = grow (w.drewN p.n) p.os) (fun a' => ∀ w', (∃ p : GrownBy, w' = grow (w.drewN p.n) p.os) → wpList P l.toArray Q (l.drop n) a' w') (l.take n) a) : (Code.region id l.toArray true).wp P Q a w := by
  simp only [Region.lexTailB, Bool.and_eq_true, decide_eq_true_eq] at hB
  obtain ⟨⟨⟨⟨hsel, hn⟩, hs⟩, hc⟩, hlex⟩ := hB
  have hn' : n < l.length := by simpa using hn
  have htl : (l.take n).length = n := by simp; omega
  have hdl : (l.drop n).length = l.toArray.size - n := by simp
  have inv0 : HeadInv .any l.toArray n (Array.replicate l.toArray.size false) :=
    ⟨by simp, fun j oj _ hl => (by rw [getD_replicate_false] at hl; cases hl), fun t _ ht => getD_in (by simpa using ht) (getD_replicate_false _ _)⟩
  have H := wpAnyK_lex (md := .any) (g := l.toArray.size - n) hsel hs hc hn (l.take n) 0 _ a (fun j hj => by
    have hj' : j < n := by rw [htl] at hj; exact hj
    simp [hj']) (by simpa using htl) inv0 (by rw [htl]; exact hlex) h
  refine wp_region_any hm ?_
  have hC : ∃ p : GrownBy, ({ w with drawn := w.drawn + 1 } : World) = grow (w.drewN p.n) p.os := ⟨⟨1, #[]⟩, by rw [grow_empty]; rfl⟩
  have := wpAny_of_headK (Q' := Q) (g := l.toArray.size - n) (fun listed a' w' hw' hL => by
    have := wpAny_of_seq (md := .any) (Q' := Q) (l.drop n) n listed a' w' (fun j => by simp [List.getElem?_drop]) (by rw [hdl]; exact hL.1) (hL.2 w' hw')
    rwa [hdl] at this) _ _ _ _ hC H
  rw [htl, show n + (l.toArray.size - n) = l.toArray.size by omega] at this
  exact this
theorem call_pg {P : Program} {f : FuncId} {args : Array Value} {w : World} {v : Value}
    (h : ∀ w', Calls P f args w' fun e w'' => e = .returned v ∧ w' = w'') :
    ∀ n os, Calls P f args (grow (w.drewN n) os) fun e w'' => e = .returned v ∧ ∃ p : GrownBy, w'' = grow (w.drewN p.n) p.os :=
  fun n os => Calls.grown_of ((h _).mono fun e w'' hh => ⟨hh.1, 0, #[], by rw [← hh.2, grow_empty]; rfl⟩)

def encP (x : Int × Int) : List Value := [.int .i64 x.1, .int .i64 x.2]
def cfP (x y : Int × Int) : Int := cmpE x.1 x.2 y.1 y.2
set_option maxHeartbeats 1000000 in
theorem gcompare_grown (x y : Int × Int) (w : World) :
    Calls Tryz.prog 27 #[.agg #[.int .i64 x.1, .int .i64 x.2], .agg #[.int .i64 y.1, .int .i64 y.2]] w fun e w' => e = .returned (.int .i64 (cfP x y)) ∧ ∃ q os', w' = grow (w.drewN q) os' := by
  obtain ⟨a, b⟩ := x
  obtain ⟨c, d⟩ := y
  have d1 := call_pg (w := (w.alloc (.cells #[.int .i64 a, .int .i64 b] 41)).alloc (.cells #[.int .i64 c, .int .i64 d] 41)) (ccmp_any a c)
  have d2 := call_pg (w := (w.alloc (.cells #[.int .i64 a, .int .i64 b] 41)).alloc (.cells #[.int .i64 c, .int .i64 d] 41)) (ccmp_any b d)
  have c0 := cell_grown (w := (w.alloc (.cells #[.int .i64 a, .int .i64 b] 41)).alloc (.cells #[.int .i64 c, .int .i64 d] 41)) (a := ⟨w.heap.size, 0, none⟩) (v := .int .i64 a) (by simp; omega) (by simp)
  have c1 := cell_grown (w := (w.alloc (.cells #[.int .i64 a, .int .i64 b] 41)).alloc (.cells #[.int .i64 c, .int .i64 d] 41)) (a := ⟨w.heap.size, 1, none⟩) (v := .int .i64 b) (by simp; omega) (by simp)
  have c2 := cell_grown (w := (w.alloc (.cells #[.int .i64 a, .int .i64 b] 41)).alloc (.cells #[.int .i64 c, .int .i64 d] 41)) (a := ⟨w.heap.size + 1, 0, none⟩) (v := .int .i64 c) (by simp) (by simp)
  have c3 := cell_grown (w := (w.alloc (.cells #[.int .i64 a, .int .i64 b] 41)).alloc (.cells #[.int .i64 c, .int .i64 d] 41)) (a := ⟨w.heap.size + 1, 1, none⟩) (v := .int .i64 d) (by simp) (by simp)
  show Calls Tryz.prog 27 #[.agg #[.int .i64 a, .int .i64 b], .agg #[.int .i64 c, .int .i64 d]] w fun e w' => e = .returned (.int .i64 (cmpE a b c d)) ∧ ∃ q os', w' = grow (w.drewN q) os'
  unfold cmpE
  go_enter Tryz.func27, Tryz.ntmps27
  go_wp2
  refine wp_region_qg 10 (by kernel_rfl) (by kernel_rfl) ?_
  simp only [List.take_succ_cons, List.take_zero, List.drop_succ_cons, List.drop_zero]
  repeat (go_big_quiet_step (first | with_reducible exact d1 _ _ | with_reducible exact d2 _ _))
  refine wpQuiet_nil ?_
  intro wq hwq
  obtain ⟨⟨nq, osq⟩, hwq⟩ := hwq
  have hfin : ∀ o, ∃ q os', wq.alloc o = grow (w.drewN q) os' := fun o => by
    rw [hwq, alloc_eq_grow, alloc_eq_grow, alloc_eq_grow, grow_grow]
    refine ⟨nq, #[.cells #[.int .i64 a, .int .i64 b] 41] ++ #[.cells #[.int .i64 c, .int .i64 d] 41] ++ osq ++ #[o], ?_⟩
    show grow (grow (grow (w.drewN nq) _) _) (osq ++ #[o]) = _
    rw [grow_grow, grow_grow]
    simp [Array.append_assoc]
  have HF := Lib.hid hfin
  clear hwq hfin
  go_wp2_with (go_at_call 48; refine (cor_any _ _ (cmpI a c) (cmpI b d) _ _ (by simp) (by simp)).mono ?_; rintro e w' ⟨rfl, rfl⟩)
  go_ret
  exact ⟨rfl, HF.out _⟩

theorem ltP (x y : Int × Int) : ltOf cfP x y = befB x.1 x.2 y.1 y.2 := by
  unfold ltOf cfP
  have := befB_of (z := cmpE x.1 x.2 y.1 y.2) (p := x.1) (q := x.2) (x := y.1) (y := y.2) rfl
  rw [this]
  by_cases h : 0 ≤ cmpE x.1 x.2 y.1 y.2
  · rw [decide_eq_true h, decide_eq_false (by omega)]; rfl
  · rw [decide_eq_false h, decide_eq_true (by omega)]; rfl
theorem befB_iff {a b c d : Int} : befB a b c d = true ↔ a < c ∨ a = c ∧ b < d := by unfold befB; simp
theorem befB_not {a b c d : Int} : befB a b c d = false ↔ ¬ (a < c ∨ a = c ∧ b < d) := by rw [← befB_iff]; simp
theorem swoP : SWO (ltOf cfP) where
  irrefl x := by rw [ltP, befB_not]; omega
  trans x y z h1 h2 := by rw [ltP, befB_iff] at *; omega
  ntrans x y z h1 h2 := by rw [ltP, befB_not] at *; omega

theorem cmpLaysP (blk off size : Nat) (w : World) : CmpLays Tryz.prog 27 #[] encP 2 cfP blk off size w :=
  fun _ _ _ _ x y => gcompare_grown x y _
theorem getBang {α : Type} [Inhabited α] (l : List α) (i : Nat) (d : α) (h : i < l.length) : l.toArray[i]! = l.getD i d := by
  simp [getElem!_pos, h, List.getD_eq_getElem?_getD]
theorem flat_get (l : List (Int × Int)) (j : Nat) (h : j < l.length * 2) : some (flatK encP 2 l.toArray)[j]! = (prs l)[j]? := by
  rw [get_flatK _ _ _ _ (by simpa using h), getBang l (j / 2) (0, 0) (by omega)]
  rcases Nat.mod_two_eq_zero_or_one j with e | e
  · have := prs_at0 l (j / 2) (by omega)
    rw [show j / 2 * 2 = j by omega] at this
    rw [this, e]; rfl
  · have := prs_at1 l (j / 2) (by omega)
    rw [show j / 2 * 2 + 1 = j by omega] at this
    rw [this, e]; rfl
theorem flat_list (l : List (Int × Int)) : (flatK encP 2 l.toArray).toList = prs l := by
  apply List.ext_getElem?
  intro j
  by_cases h : j < l.length * 2
  · rw [← flat_get l j h, getElem!_pos _ _ (by simpa using h)]
    simp [h]
  · rw [List.getElem?_eq_none (by simpa using h), List.getElem?_eq_none (by rw [prs_length]; omega)]
theorem put_take (F cur : Array Value) (h : F.size ≤ cur.size) : (putCells id 0 F cur).toList.take F.size = F.toList := by
  apply List.ext_getElem?
  intro j
  rw [List.getElem?_take]
  by_cases hj : j < F.size
  · have hb : F[j]! = F[j] := getElem!_pos F j hj
    have hc : j < cur.size := by omega
    simp [putCells, hj, hc, hb]
  · simp [hj]
/-- Behind the sort: the block holds the sorted list. -/
theorem Own.sorted {w : World} {base g n c : Nat} {l l' : List (Int × Int)} (h : Own w base 41 2 (some ⟨g, 0, none⟩) n c (prs l)) (hl : l'.length = n) (m : Nat) (os : Array Obj) :
    Own (sortWorldK encP 2 w g 0 m l'.toArray os) base 41 2 (some ⟨g, 0, none⟩) n c (prs l') ∧ w.grownBy (sortWorldK encP 2 w g 0 m l'.toArray os) (some g) := by
  have hlt := (h.lt (k := g) rfl).2
  have hold : ∀ k, k < w.heap.size → k ≠ g → (sortWorldK encP 2 w g 0 m l'.toArray os).heap[k]? = w.heap[k]? := by
    intro k hk hne
    unfold sortWorldK
    rw [heap_grow_old _ _ (by simp [putRowK, putRow, mapBlock, ahead]; exact hk)]
    simp [putRowK, putRow, mapBlock, ahead, Array.getElem?_modify, Ne.symm hne]
  refine ⟨⟨by rw [prs_length, hl], ?_⟩, ⟨rfl, rfl, rfl, by simp [sortWorldK, putRowK, putRow, mapBlock, ahead], fun k hk hne => hold k hk (fun e => hne (by rw [e]))⟩⟩
  rcases h.2 with ⟨h1, h2⟩ | ⟨g', cap, cur, hv, hb, hh, hnc, hcm, hcs, htake⟩
  · cases h1
  · have hg : g = g' := by injection hv with hv; injection hv with hv; injection hv
    subst hg
    refine .inr ⟨g, cap, putCells id 0 (flatK encP 2 l'.toArray) cur, hv, hb, ?_, hnc, hcm, ?_, ?_⟩
    · unfold sortWorldK
      rw [heap_grow_old _ _ (by simp [putRowK, putRow, mapBlock, ahead]; exact hlt)]
      simp [putRowK, putRow, mapBlock, ahead, Array.getElem?_modify, hh, onCells]
    · simp [putCells, hcs]
    · have := put_take (flatK encP 2 l'.toArray) cur (by simp [hl, hcs]; omega)
      rw [size_flatK] at this
      simp only [List.size_toArray, hl] at this
      rw [this, flat_list]
theorem own_holds {w : World} {base g n c : Nat} {l : List (Int × Int)} (h : Own w base 41 2 (some ⟨g, 0, none⟩) n c (prs l)) : HoldsK encP 2 w g 0 l.toArray := by
  intro j hj
  have hl := h.len
  rw [prs_length] at hl
  rw [size_flatK] at hj
  have hj' : j < l.length * 2 := by simpa using hj
  refine ⟨?_, by rw [Nat.zero_add]; exact h.frozen j⟩
  rw [Nat.zero_add, World.ownsRow.cellAt h j (by omega), ← flat_get l j hj']
  rfl
theorem isAggP : ∀ w, (isAgg 41).run Tryz.prog w = .ok true w := Tryz.isAgg41
theorem sizeOfP : ∀ w, (Go.sizeOf 41).run Tryz.prog w = .ok 2 w := Tryz.sizeOf41
def SortPost (w : World) (base : Nat) (A : Option Addr) (n c : Nat) (l : List (Int × Int)) (e : Ending) (w' : World) : Prop :=
  e = .returned (.tuple #[]) ∧ ∃ l', l'.Perm l ∧ l'.Pairwise (fun x y => ¬ lt2 y x) ∧ Own w' base 41 2 A n c (prs l') ∧ w.grownBy w' (blk A)
set_option maxHeartbeats 1000000 in
theorem sort_own (A : Option Addr) (n c : Nat) (l : List (Int × Int)) (w : World) (base : Nat) (ho : Own w base 41 2 A n c (prs l)) (hn : n ≤ 1000000) :
    Calls Tryz.prog 26 #[.slice A n c, .func (.func 27) #[] #[]] w (SortPost w base A n c l) := by
  have hl : l.length = n := by have := ho.len; rw [prs_length] at this; omega
  rcases ho.2 with ⟨h1, h2⟩ | ⟨g, cap, cur, hv, hb, hh, _⟩
  · injection h1 with h1 _ h3
    subst h1 h2 h3
    have hl0 : l = [] := List.eq_nil_of_length_eq_zero hl
    subst hl0
    have := AnyF.slices_SortFunc_none Tryz.laysSlF06_f26 none 0 (.func (.func 27) #[] #[]) w
    refine Calls.mono this ?_
    rintro e w' ⟨rfl, rfl⟩
    exact ⟨rfl, [], List.Perm.refl _, List.Pairwise.nil, ho, World.grownBy.refl _ _⟩
  · have hA : A = some ⟨g, 0, none⟩ := by injection hv
    subst hA
    have eg : ∀ args w, (callFunc 27 args).run Tryz.prog w = .ok (.enter 27 args) w := enters_of Tryz.func27 (by kernel_rfl) rfl
    have hlt := (ho.lt (k := g) rfl).2
    have hcon := Tryz.slices_SortFunc 2 isAggP sizeOfP encP (fun _ => rfl) (fun x v hv => by simp [encP] at hv; rcases hv with rfl | rfl <;> rfl) cfP swoP 27 #[] g 0 c l.toArray w eg (cmpLaysP g 0 l.toArray.size w) (own_holds ho) hlt (by simp [hl]; omega)
    rw [show l.toArray.size = n by simpa using hl] at hcon
    refine hcon.mono ?_
    rintro e w' ⟨rfl, d', m, os, hp, hs, rfl⟩
    have hsz : d'.size = n := by rw [hp.1]; simpa using hl
    obtain ⟨o1, o2⟩ := Own.sorted (l' := d'.toList) ho (by simpa using hsz) m os
    refine ⟨rfl, d'.toList, ?_, ?_, o1, o2⟩
    · have h3 := hp.2.2
      rw [show d'.extract 0 n = d' by rw [← hsz]; simp, show l.toArray.extract 0 n = l.toArray by rw [← hl]; simp] at h3
      simpa using h3
    · rw [List.pairwise_iff_getElem]
      intro i j hi hj hij
      simp at hi hj
      have := hs i j (Nat.zero_le _) hij (by omega)
      rw [ltP, befB_not, getElem!_pos d' j hj, getElem!_pos d' i hi] at this
      simpa [lt2] using this
end Go.Proofs.YtpdbekgkopglgaaGreat
namespace Go.Proofs.YtpdbekgkopglgaaGreat
set_option linter.unusedVariables false
set_option linter.unusedSimpArgs false
open Go.RowKit Go.Sort

def CompInv (l m : List (Int × Int)) (K kk : Nat) : Prop := kk = (cptK l K).length ∧ kk < K ∧ K ≤ l.length ∧ m.length = l.length ∧ m.take kk = cptK l K ∧ ∀ j, K - 1 ≤ j → PAt m j = PAt l j
theorem CompInv.start {l : List (Int × Int)} {k : Nat} (h : ∀ j, j < k → j = 0 ∨ PAt l j ≠ PAt l (j - 1)) (hk : k < l.length) (h0 : 1 ≤ k) (he : PAt l k = PAt l (k - 1)) : CompInv l l (k + 1) k := by
  have e1 : cptK l (k + 1) = l.take k := by rw [cptK_skip (fun h' => h'.elim (fun h'' => by omega) (fun h'' => h'' he)), cptK_all k (by omega) h]
  refine ⟨by rw [e1, List.length_take]; omega, by omega, by omega, rfl, e1.symm, fun _ _ => rfl⟩
theorem CompInv.skip {l m : List (Int × Int)} {K kk : Nat} (h : CompInv l m K kk) (hK : K < l.length) (he : PAt l K = PAt l (K - 1)) : CompInv l m (K + 1) kk := by
  obtain ⟨h1, h2, h3, h4, h5, h6⟩ := h
  have e1 : cptK l (K + 1) = cptK l K := cptK_skip (fun h' => h'.elim (fun h'' => by omega) (fun h'' => h'' he))
  exact ⟨by rw [e1]; exact h1, by omega, by omega, h4, by rw [e1]; exact h5, fun j hj => h6 j (by omega)⟩
theorem CompInv.keep {l m : List (Int × Int)} {K kk : Nat} (h : CompInv l m K kk) (hK : K < l.length) (he : PAt l K ≠ PAt l (K - 1)) : CompInv l (m.set kk (PAt l K)) (K + 1) (kk + 1) := by
  obtain ⟨h1, h2, h3, h4, h5, h6⟩ := h
  have e1 : cptK l (K + 1) = cptK l K ++ [PAt l K] := cptK_keep (.inr he)
  refine ⟨by rw [e1, List.length_append, ← h1]; rfl, by omega, by omega, by simpa using h4, ?_, fun j hj => ?_⟩
  · rw [e1, List.take_succ_eq_append_getElem (by simp; omega), List.take_set_of_le (Nat.le_refl _), h5]
    simp
  · have := h6 j (by omega)
    unfold PAt at this ⊢
    rw [← this, List.getD_eq_getElem?_getD, List.getElem?_set_ne (by omega), List.getD_eq_getElem?_getD]

def CptPost (w : World) (base : Nat) (A : Option Addr) (c : Nat) (l : List (Int × Int)) (e : Ending) (w' : World) : Prop :=
  e = .returned (.slice A (cptL l).length c) ∧ Own w' base 41 2 A (cptL l).length c (prs (cptL l)) ∧ w.grownBy w' (blk A)
set_option maxRecDepth 100000 in
set_option maxHeartbeats 8000000 in
theorem compact_own (A : Option Addr) (n c : Nat) (l : List (Int × Int)) (w : World) (base : Nat) (ho : Own w base 41 2 A n c (prs l)) (hn : n ≤ 1000000) :
    Calls Tryz.prog 28 #[.slice A n c] w (CptPost w base A c l) := by
  have hl := ho.plen
  have hcap := ho.cap
  have EQ := eqPair
  by_cases h2 : n < 2
  · have e1 : cptL l = l := by
      unfold cptL; rw [cptK_all _ (Nat.le_refl _) (fun j hj => .inl (by omega)), List.take_length]
    have OWN := Lib.hid ho
    have E1 := Lib.hid e1
    have HL := Lib.hid hl
    clear ho e1 hl
    go_enter Tryz.func28, Tryz.ntmps28
    go_wp2
    go_ret
    exact ⟨ret_slice (by rw [E1.out, HL.out]), by rw [E1.out, HL.out]; exact OWN.out, World.grownBy.refl _ _⟩
  · obtain ⟨g, rfl, hg1, hg2⟩ := ho.some_ (by omega)
    have OWN := Lib.hid ho
    have HL := Lib.hid hl
    clear ho hl
    go_enter Tryz.func28, Tryz.ntmps28
    go_wp2
    go_loopw [3] (fun i wr => ∃ k : Nat, 1 ≤ k ∧ k ≤ n ∧ i = .int .i64 k ∧ Own wr base 41 2 (some ⟨g, 0, none⟩) n c (prs l) ∧ w.grownBy wr (some g) ∧ ∀ j, j < k → j = 0 ∨ PAt l j ≠ PAt l (j - 1)) (fun i _ => n - (intOf i).toNat)
    case atStart => exact ⟨1, Nat.le_refl _, by omega, rfl, OWN.out, World.grownBy.refl _ _, fun j hj => .inl (by omega)⟩
    case round =>
      obtain ⟨k, hk1, hk, rfl, ho, hgr, hok⟩ := hrel
      have OW := Lib.hid ho
      have HG := Lib.hid hgr
      have HOK := Lib.hid hok
      clear ho hgr hok
      by_cases hlt : k < n
      · obtain ⟨c0, c1⟩ := OW.out.pr_at hlt
        obtain ⟨d0, d1⟩ := OW.out.pr_at (k := k - 1) (by omega)
        generalize hxy : PAt l k = xy at c0 c1
        obtain ⟨x, y⟩ := xy
        generalize hpq : PAt l (k - 1) = pq at d0 d1
        obtain ⟨p, q⟩ := pq
        simp only at c0 c1 d0 d1
        have HXY := Lib.hid hxy
        have HPQ := Lib.hid hpq
        have k0 := grown_cell c0
        have k1 := grown_cell c1
        have l0 := grown_cell d0
        have l1 := grown_cell d1
        clear hxy hpq
        by_cases hdup : (x == p && y == q) = true
        · simp only [Bool.and_eq_true] at hdup
          obtain ⟨h1, h3⟩ := hdup
          have HD : Hid (PAt l k = PAt l (k - 1)) := by
            unfold Hid; rw [HXY.out, HPQ.out]; rw [beq_iff_eq] at h1 h3; rw [h1, h3]
          have hkc : k < c := by omega
          go_wp2
          refine wp_region_q (by kernel_rfl) (by kernel_rfl) ?_
          repeat (go_big_quiet_step (fail))
          refine wpQuiet_nil ?_
          intro wq hgq
          clear k0 k1 l0 l1 c0 c1 d0 d1
          go_wp2
          go_loopw [3, 5] (fun s3 s5 w2 => ∃ (kk k2 : Nat) (m : List (Int × Int)), s3 = .int .i64 kk ∧ s5 = .int .i64 k2 ∧ 1 ≤ k2 ∧ k + k2 ≤ n ∧ Own w2 base 41 2 (some ⟨g, 0, none⟩) n c (prs m) ∧ w.grownBy w2 (some g) ∧ CompInv l m (k + k2) kk) (fun _ s5 _ => n - (intOf s5).toNat)
          case atStart => exact ⟨k, 1, l, rfl, rfl, Nat.le_refl _, by omega, OW.out.later hgq, HG.out.trans (grownBy_of_below hgq), CompInv.start HOK.out (by rw [HL.out]; exact hlt) hk1 HD.out⟩
          case round =>
            obtain ⟨kk, k2, m, rfl, rfl, hk21, hk2, ho2, hg2, hI⟩ := hrel
            have hkk := hI.2.1
            have O2 := Lib.hid ho2
            have G2 := Lib.hid hg2
            have II := Lib.hid hI
            clear ho2 hg2 hI
            by_cases hlt2 : k + k2 < n
            · obtain ⟨c0, c1⟩ := O2.out.pr_at hlt2
              obtain ⟨d0, d1⟩ := O2.out.pr_at (k := k + k2 - 1) (by omega)
              obtain ⟨s0, s1⟩ := O2.out.pr_at (k := kk) (by omega)
              rw [II.out.2.2.2.2.2 (k + k2) (by omega), show (k + k2) * 2 = k * 2 + k2 * 2 by omega] at c0 c1
              rw [II.out.2.2.2.2.2 (k + k2 - 1) (by omega), show (k + k2 - 1) * 2 = k * 2 + (k2 - 1) * 2 by omega] at d0 d1
              generalize PAt m kk = old at s0 s1
              generalize hxy2 : PAt l (k + k2) = xy2 at c0 c1
              obtain ⟨u, v⟩ := xy2
              generalize hpq2 : PAt l (k + k2 - 1) = pq2 at d0 d1
              obtain ⟨u', v'⟩ := pq2
              simp only at c0 c1 d0 d1
              have HUV := Lib.hid hxy2
              have HUV' := Lib.hid hpq2
              have k0 := grown_cell c0
              have k1 := grown_cell c1
              have l0 := grown_cell d0
              have l1 := grown_cell d1
              clear hxy2 hpq2
              have f0 := O2.out.frozen (kk * 2)
              have f1 := O2.out.frozen (kk * 2 + 1)
              cases e1 : (u == u') <;> cases e2 : (v == v')
              all_goals
                go_wp2
                refine wp_region_q (by kernel_rfl) (by kernel_rfl) ?_
                repeat (go_big_quiet_step (fail))
                refine wpQuiet_nil ?_
                intro wq hgq
              all_goals
                have c0 := Keeps.of_below hgq (Nat.le_refl _) _ _ c0
                have c1 := Keeps.of_below hgq (Nat.le_refl _) _ _ c1
                have s0 := Keeps.of_below hgq (Nat.le_refl _) _ _ s0
                have s1 := Keeps.of_below hgq (Nat.le_refl _) _ _ s1
                have O3 := Lib.hid (O2.out.later hgq)
                have f0 := O3.out.frozen (kk * 2)
                have f1 := O3.out.frozen (kk * 2 + 1)
                go_wp2
              all_goals first
                | (go_roundw
                   case rel => exact ⟨kk, k2 + 1, m, rfl, by go_num, by omega, by omega, O3.out, G2.out.trans (grownBy_of_below hgq), II.out.skip (by rw [HL.out]; exact hlt2) (by rw [HUV.out, HUV'.out]; rw [beq_iff_eq] at e1 e2; rw [e1, e2])⟩
                   case measure => simp [intOf]; omega)
                | (go_roundw
                   case rel => exact ⟨kk + 1, k2 + 1, m.set kk (u, v), by go_num, by go_num, by omega, by omega, (O3.out.store2 kk u v).1, (G2.out.trans (grownBy_of_below hgq)).trans (O3.out.store2 kk u v).2, by
                     have := II.out.keep (by rw [HL.out]; exact hlt2) (by rw [HUV.out, HUV'.out]; intro h; injection h with h3 h4; simp [h3, h4] at e1 e2)
                     rw [HUV.out] at this
                     exact this⟩
                   case measure => simp [intOf]; omega)
            · have hend : k + k2 = n := by omega
              have hfin : (cptL l).length = kk ∧ m.take kk = cptL l := by
                have := II.out
                rw [hend] at this
                unfold cptL; rw [HL.out]
                exact ⟨this.1.symm, this.2.2.2.2.1⟩
              have HF := Lib.hid hfin
              obtain ⟨w5, hcl, ho5, hg5⟩ := clear_pairs O2.out kk (n - kk) (c - kk) (by omega) (by omega)
              have O5 := Lib.hid ho5
              have G5 := Lib.hid hg5
              clear hfin ho5 hg5
              have hkc2 : kk < c := by omega
              go_wp2
              go_ret
              exact ⟨ret_slice HF.out.1.symm, by rw [HF.out.1, ← HF.out.2]; exact O5.out, G2.out.trans G5.out⟩
        · have HD : Hid (PAt l k ≠ PAt l (k - 1)) := by
            unfold Hid; rw [HXY.out, HPQ.out]; intro h; injection h with h3 h4; exact hdup (by simp [h3, h4])
          have hdup : (x == p && y == q) = false := by simpa using hdup
          go_wp2
          refine wp_region_q (by kernel_rfl) (by kernel_rfl) ?_
          repeat (go_big_quiet_step (fail))
          refine wpQuiet_nil ?_
          intro wq hgq
          go_wp2
          go_roundw
          case rel => exact ⟨k + 1, by omega, by omega, by go_num, OW.out.later hgq, HG.out.trans (grownBy_of_below hgq), fun j hj => by
            by_cases e : j = k
            · subst e; exact .inr HD.out
            · exact HOK.out j (by omega)⟩
          case measure => simp [intOf]; omega
      · obtain rfl : k = n := by omega
        have e1 : cptL l = l := by
          unfold cptL; rw [HL.out, cptK_all _ (by rw [HL.out]; exact Nat.le_refl _) HOK.out, List.take_of_length_le (by rw [HL.out]; exact Nat.le_refl _)]
        have E1 := Lib.hid e1
        clear e1
        go_wp2
        go_ret
        exact ⟨ret_slice (by rw [E1.out, HL.out]), by rw [E1.out, HL.out]; exact OW.out, HG.out⟩

set_option maxHeartbeats 1000000 in
theorem clone_any (A : Option Addr) (n c : Nat) (l : List (Int × Int)) (w : World) (he : Rd w 2 A n (prs l)) (hn : n ≤ 1000000) :
    Calls Tryz.prog 30 #[.slice A n c] w (PrsPost w l) := by
  have HL := Lib.hid he.prs_len
  have H1 := Lib.hid he
  clear he
  have hnil := fun (a : Option Addr) (W : World) => Lib.run_eql_slice_nil (P := Tryz.prog) W 35 41 a n c 0 0 Tryz.underlying35
  cases A with
  | none =>
    have hn0 : n = 0 := by
      rcases Nat.eq_zero_or_pos n with h | h
      · exact h
      · obtain ⟨ad, h', _⟩ := H1.out.2 h; cases h'
    have hl0 : l = [] := List.eq_nil_of_length_eq_zero (by rw [HL.out, hn0])
    have HL0 := Lib.hid hl0
    clear hl0 hn0
    go_enter Tryz.func30, Tryz.ntmps30
    go_wp2
    go_ret
    exact ⟨Below.refl _ _, none, 0, by rw [HL0.out]; rfl, by rw [HL0.out]; exact Own.nil _ _ _ _⟩
  | some ad =>
    go_enter Tryz.func30, Tryz.ntmps30
    go_wp2_with (at_builtin; refine wpList_app _ rfl (.tmp 5) (.tmp 6) 35 rfl w.heap.size 41 (.agg #[.int .i64 0, .int .i64 0]) 2 16 Tryz.underlying35 info_pair rfl (by decide) (some ⟨w.heap.size, 0, none⟩) 0 0 [] rfl (own_empty _ _ _) (some ad) n c (prs l) rfl (H1.out.keep (Keeps.alloc _ _)) (prs_one _) (by omega) (by unfold maxLen; omega) (by simp) ?_; intro B4 c4 w4 ho4 hg4 hb4; have OWN4 := Lib.hid ho4; have S3 : Hid (Below w.heap.size w w4) := (((Below.refl _ _).alloc (Nat.le_refl _) _).grown hg4 (by simp) (fun b hb => Nat.le_of_eq (by injection hb))); clear ho4 hg4 hb4)
    go_ret
    refine ⟨S3.out, B4, c4, ret_slice (by rw [HL.out]), ?_⟩
    have := OWN4.out
    rw [Nat.zero_add, List.nil_append] at this
    rw [HL.out]; exact this
end Go.Proofs.YtpdbekgkopglgaaGreat
namespace Go.Proofs.YtpdbekgkopglgaaGreat
set_option linter.unusedVariables false
set_option linter.unusedSimpArgs false
open Go.RowKit Go.Sort

attribute [local go_sem ↓] Go.wp_at_zero Go.wp_at_succ
theorem has_b {b : Bool} (n k : Int) (w : World) (hb : hasB n k = b) : Calls Tryz.prog 24 #[.int .i64 n, .int .i64 k] w fun e w' => e = .returned (.bool b) ∧ w = w' := by
  subst hb; exact has_any n k w
theorem mkI_len (es : List (Int × Int)) : (mkI es).length = es.length := by simp [mkI]
theorem mkI_step {es : List (Int × Int)} {k : Nat} (hk : k < es.length) {x y : Int} (hxy : es.getD k (0, 0) = (x, y)) : mkI (es.take (k + 1)) = mkI (es.take k) ++ [edgeI (x, y)] := by
  unfold mkI
  rw [List.take_succ_eq_append_getElem hk, List.map_append]
  rw [List.getD_eq_getElem?_getD, List.getElem?_eq_getElem hk] at hxy
  simp only [Option.getD_some] at hxy
  rw [hxy]; rfl
theorem okP_of {N x y : Int} (h1 : hasB N x = true) (h2 : hasB N y = true) (h3 : (x == y) = false) : okP N x y = true := by
  unfold okP hasB at *
  simp only [Bool.and_eq_true, decide_eq_true_eq] at *
  rw [h3]; simp; omega
theorem okP_no {N x y : Int} (h : hasB N x = false ∨ hasB N y = false ∨ (x == y) = true) : okP N x y = false := by
  unfold okP hasB at *
  rcases h with h | h | h
  · simp only [Bool.and_eq_false_iff, decide_eq_false_iff_not] at h ⊢; omega
  · simp only [Bool.and_eq_false_iff, decide_eq_false_iff_not] at h ⊢; omega
  · rw [h]; simp

set_option maxRecDepth 100000 in
set_option maxHeartbeats 8000000 in
theorem gmake_any (N : Int) (A : Option Addr) (m c : Nat) (es : List (Int × Int)) (w : World) (hm : m ≤ 1000) (he : Rd w 2 A m (prs es)) :
    Calls Tryz.prog 10 #[.int .i64 N, .slice A m c] w (MakePost w N (mkE N es)) := by
  have HE := Lib.hid he.prs_len
  have H1 := Lib.hid he
  clear he
  by_cases hN0 : N < 0
  · rw [mkE_range (.inl hN0)]
    go_enter Tryz.func10, Tryz.ntmps10
    go_wp2
    refine bodyPost_ret (v := .tuple #[.agg #[.int .i64 0, .slice none 0 0], .int .i64 1]) (by simp [results, Tryz.results10, go_sem]) rfl ⟨?_, rfl⟩
    exact (Below.refl _ _).alloc (Nat.le_refl _) _
  by_cases hN6 : 60 < N
  · rw [mkE_range (.inr hN6)]
    go_enter Tryz.func10, Tryz.ntmps10
    go_wp2
    refine bodyPost_ret (v := .tuple #[.agg #[.int .i64 0, .slice none 0 0], .int .i64 1]) (by simp [results, Tryz.results10, go_sem]) rfl ⟨?_, rfl⟩
    exact (Below.refl _ _).alloc (Nat.le_refl _) _
  obtain ⟨n, rfl⟩ : ∃ n : Nat, N = n := ⟨N.toNat, by omega⟩
  go_enter Tryz.func10, Tryz.ntmps10
  go_wp2
  go_loopw [8, 20] (fun _ i wr => MkInv (w.alloc (.cells #[.int .i64 0, .slice none 0 0] 37)) wr n (mkI (es.take (intOf i).toNat)) ∧ ∃ k : Nat, k ≤ m ∧ i = .int .i64 k ∧ ∀ j, j < k → okP n (es.getD j (0, 0)).1 (es.getD j (0, 0)).2 = true) (fun _ i _ => m - (intOf i).toNat)
  case atStart => exact ⟨MkInv.start _ n, 0, Nat.zero_le _, rfl, by omega⟩
  case round =>
    obtain ⟨hinv, k, hk, rfl, hok⟩ := hrel
    have HOK := Lib.hid hok
    have e0 : (intOf (.int .i64 (k : Int))).toNat = k := by simp [intOf]
    rw [e0] at hinv
    clear e0 hok
    obtain ⟨hb, hs, fz, cg0, B, cB, cg1, own⟩ := hinv
    have hsz : (w.alloc (.cells #[.int .i64 0, .slice none 0 0] 37)).heap.size = w.heap.size + 1 := by simp
    rw [hsz] at hb hs fz cg0 cg1 own
    clear hsz
    have OWN := Lib.hid own
    have HB := Lib.hid hb
    have K := Lib.hid ((Keeps.alloc w _).trans (Keeps.of_below hb (by simp)))
    have r0 : wr.cell? ⟨w.heap.size, 0, none⟩ = some (.int .i64 0) := by rw [hb.cell (by simp)]; simp
    have r1 : wr.cell? ⟨w.heap.size, 1, none⟩ = some (.slice none 0 0) := by rw [hb.cell (by simp)]; simp
    have f0 : wr.frozen? ⟨w.heap.size, 0, none⟩ = false := by rw [hb.frozen (by simp)]; simp
    have f1 : wr.frozen? ⟨w.heap.size, 1, none⟩ = false := by rw [hb.frozen (by simp)]; simp
    clear hb own
    have hfin : Hid (Below w.heap.size w wr) := ((Below.refl w.heap.size w).alloc (Nat.le_refl _) _).trans (HB.out.mono (by omega))
    by_cases hlt : k < m
    · obtain ⟨ad, rfl, c0, c1⟩ := (H1.out.keep K.out).prs_at hlt
      generalize hxy : es.getD k (0, 0) = xy at c0 c1
      obtain ⟨x, y⟩ := xy
      simp only at c0 c1
      have HXY := Lib.hid hxy
      have hlw : w.heap.size < wr.heap.size := by omega
      have hlw1 : w.heap.size + 1 < wr.heap.size := by omega
      have ra0 : (((wr.setCell ⟨w.heap.size, 0, none⟩ (.int .i64 0)).setCell ⟨w.heap.size, 1, none⟩ (.slice none 0 0)).alloc (.cells #[.int .i64 x, .int .i64 y] 41)).cell? ⟨w.heap.size, 0, none⟩ = some (.int .i64 0) := by
        rw [World.cell?_alloc_lt _ _ _ (by simp; exact hlw), World.cell?_setCell_other _ _ _ _ (by simp), World.cell?_setCell_same _ _ _ r0]
      have ra1 : (((wr.setCell ⟨w.heap.size, 0, none⟩ (.int .i64 0)).setCell ⟨w.heap.size, 1, none⟩ (.slice none 0 0)).alloc (.cells #[.int .i64 x, .int .i64 y] 41)).cell? ⟨w.heap.size, 1, none⟩ = some (.slice none 0 0) := by
        rw [World.cell?_alloc_lt _ _ _ (by simp; exact hlw), World.cell?_setCell_same (u := .slice none 0 0) _ _ _ (by rw [World.cell?_setCell_other _ _ _ _ (by simp)]; exact r1)]
      have fa0 : (wr.alloc (.cells #[.int .i64 x, .int .i64 y] 41)).frozen? ⟨w.heap.size, 0, none⟩ = false := by rw [((Below.refl (w.heap.size + 1) wr).alloc (by omega) _).frozen (by simp)]; exact f0
      have fa1 : (wr.alloc (.cells #[.int .i64 x, .int .i64 y] 41)).frozen? ⟨w.heap.size, 1, none⟩ = false := by rw [((Below.refl (w.heap.size + 1) wr).alloc (by omega) _).frozen (by simp)]; exact f1
      clear hxy
      cases hx : hasB n x
      · have HX := Lib.hid hx
        clear hx
        go_wp2_with (go_at_call 24; refine (has_b (b := false) n x _ HX.out).mono ?_; rintro e w1 ⟨rfl, rfl⟩)
        refine bodyPost_ret (v := .tuple #[.agg #[.int .i64 0, .slice none 0 0], .int .i64 1]) (by simp [results, Tryz.results10, go_sem, ra0, ra1]) rfl ?_
        rw [mkE_no (by rw [HE.out]; exact hlt) x y HXY.out (okP_no (.inl HX.out))]
        refine ⟨?_, rfl⟩
        exact ((hfin.out.setCell (Nat.le_refl _) _).setCell (Nat.le_refl _) _).alloc (by simp; omega) _
      have HX := Lib.hid hx
      clear hx
      cases hy : hasB n y
      · have HY := Lib.hid hy
        clear hy
        go_wp2_with (first
          | (go_at_call 24; (with_reducible refine (has_b (b := true) n x _ HX.out).mono ?_); rintro e w1 ⟨rfl, rfl⟩)
          | (go_at_call 24; (with_reducible refine (has_b (b := false) n y _ HY.out).mono ?_); rintro e w1 ⟨rfl, rfl⟩))
        refine bodyPost_ret (v := .tuple #[.agg #[.int .i64 0, .slice none 0 0], .int .i64 1]) (by simp [results, Tryz.results10, go_sem, ra0, ra1]) rfl ?_
        rw [mkE_no (by rw [HE.out]; exact hlt) x y HXY.out (okP_no (.inr (.inl HY.out)))]
        refine ⟨?_, rfl⟩
        exact ((hfin.out.setCell (Nat.le_refl _) _).setCell (Nat.le_refl _) _).alloc (by simp; omega) _
      have HY := Lib.hid hy
      clear hy
      cases hq : (x == y)
      · have hlen : (mkI (es.take k)).length = k := by rw [mkI_len, List.length_take, HE.out]; omega
        have HMK : Hid (mkI (es.take (k + 1)) = mkI (es.take k) ++ [edgeI (x, y)]) := mkI_step (by rw [HE.out]; exact hlt) HXY.out
        generalize hMM : mkI (es.take k) = MM at *
        rw [hlen] at cg1 OWN
        generalize hee : edgeI (x, y) = ee at *
        obtain ⟨ex, ey⟩ := ee
        have HEE := Lib.hid hee
        have HMM := Lib.hid hMM
        have HLEN := Lib.hid hlen
        clear hee hMM hlen
        have OKXY : Hid (okP n x y = true) := okP_of HX.out HY.out hq
        go_wp2_with (first
          | (go_at_call 24; (with_reducible refine (has_b (b := true) n x _ HX.out).mono ?_); rintro e w1 ⟨rfl, rfl⟩)
          | (go_at_call 24; (with_reducible refine (has_b (b := true) n y _ HY.out).mono ?_); rintro e w1 ⟨rfl, rfl⟩))
        have l0 : (wr.alloc (.cells #[.int .i64 x, .int .i64 y] 41)).cell? ⟨w.heap.size + 1, 1, none⟩ = some (.slice B k cB) := by rw [World.cell?_alloc_lt _ _ _ hlw1]; exact cg1
        have l1 : (wr.alloc (.cells #[.int .i64 x, .int .i64 y] 41)).cell? ⟨wr.heap.size, 0, none⟩ = some (.int .i64 x) := by simp
        have l2 : (wr.alloc (.cells #[.int .i64 x, .int .i64 y] 41)).cell? ⟨wr.heap.size, 1, none⟩ = some (.int .i64 y) := by simp
        have cE := fun w' => edge_any x y w'
        rw [HEE.out] at cE
        have CE := Lib.hid cE
        clear cE
        have EG : ∀ args w, (callFunc 25 args).run Tryz.prog w = .ok (.enter 25 args) w := enters_of Tryz.func25 (by kernel_rfl) rfl
        have EGH := Lib.hid EG
        clear EG
        go_region_law ((first
            | (refine step_call rfl 25 #[.tmp 47, .tmp 49] #[3, 3] rfl EGH.out #[.int .i64 x, .int .i64 y] (by simp [Act.eval, Act.put]) _ (CE.out _) ?_; intro wq hgq; have hqz := hgq.size; simp at hqz; have t0 : wq.cell? ⟨w.heap.size + 1, 1, none⟩ = some (.slice B k cB) := (by rw [hgq.cell (by simp; omega)]; exact l0); have t1 : wq.cell? ⟨wr.heap.size, 0, none⟩ = some (.int .i64 x) := (by rw [hgq.cell (by simp)]; exact l1); have t2 : wq.cell? ⟨wr.heap.size, 1, none⟩ = some (.int .i64 y) := (by rw [hgq.cell (by simp)]; exact l2); have t0a : (wq.alloc (.cells #[.int .i64 ex, .int .i64 ey] 41)).cell? ⟨w.heap.size + 1, 1, none⟩ = some (.slice B k cB) := (by rw [World.cell?_alloc_lt _ _ _ (by simp; omega)]; exact t0); have bq : Hid (Below (w.heap.size + 2) wr wq) := (((Below.refl _ _).alloc (by omega) _).drew).trans (hgq.mono (by simp; omega)); have OQ : Hid (Own wq (w.heap.size + 2) 41 2 B k cB (prs MM)) := Own.later (w := (wr.alloc (.cells #[.int .i64 x, .int .i64 y] 41)).drew) (OWN.out.alloc (.cells #[.int .i64 x, .int .i64 y] 41)) hgq; clear hgq)
            | (refine step_app _ rfl (.tmp 45) (.tmp 51) 35 rfl (w.heap.size + 2) 41 (.agg #[.int .i64 0, .int .i64 0]) 2 16 Tryz.underlying35 info_pair rfl (by decide) B k cB (prs MM) (by simp [Act.eval, Act.put]) (OQ.out.alloc _) (some ⟨wq.heap.size, 0, none⟩) 1 1 (prs [(ex, ey)]) (by simp [Act.eval, Act.put]) (rd_lit2_at rfl [(ex, ey)] _) (prs_one _) (by omega) (by unfold maxLen; omega) (by simp; omega) ?_; intro B4 c4 w4 ho4 hg4 hb4; have OWN4 := Lib.hid ho4; have z1 : w4.cell? ⟨wr.heap.size, 0, none⟩ = some (.int .i64 x) := World.grownBy.cell hg4 (by rw [World.cell?_alloc_lt _ _ _ (by simp; omega)]; exact t1) (fun e => absurd (OWN.out.lt e.symm).2 (by simp)); have z2 : w4.cell? ⟨wr.heap.size, 1, none⟩ = some (.int .i64 y) := World.grownBy.cell hg4 (by rw [World.cell?_alloc_lt _ _ _ (by simp; omega)]; exact t2) (fun e => absurd (OWN.out.lt e.symm).2 (by simp)); have S3 : Hid (Below (w.heap.size + 2) wr w4) := bq.out.trans ((((Below.refl _ _).alloc (by omega) _).grown hg4 (by simp; omega) (fun b hb => (OQ.out.lt hb).1))); have hs4 := S3.out.size; have fz4 : w4.frozen? ⟨w.heap.size + 1, 1, none⟩ = false := (by rw [S3.out.frozen (by simp)]; exact fz); have cg04 : w4.cell? ⟨w.heap.size + 1, 0, none⟩ = some (.int .i64 n) := (by rw [S3.out.cell (by simp)]; exact cg0); have cg14 : w4.cell? ⟨w.heap.size + 1, 1, none⟩ = some (.slice B k cB) := (by rw [S3.out.cell (by simp)]; exact cg1); clear ho4 hg4 hb4)
            | fail))
        all_goals
         go_wp2
         go_roundw
         case rel =>
          refine ⟨?_, k + 1, by omega, by go_num, fun j hj => ?_⟩
          · have e0 : (intOf (.int .i64 ((k : Int) + 1))).toNat = k + 1 := by simp [intOf]
            rw [e0, HMK.out]
            have hsz : (w.alloc (.cells #[.int .i64 0, .slice none 0 0] 37)).heap.size = w.heap.size + 1 := by simp
            unfold MkInv
            rw [hsz]
            refine ⟨(HB.out.trans (S3.out.mono (by omega))).setCell (by simp) _, by simp; omega, by simp; exact fz4, by rw [World.cell?_setCell_other _ _ _ _ (by simp)]; exact cg04, B4, c4, ?_, ?_⟩
            · rw [List.length_append, HLEN.out]; exact World.cell?_setCell_same _ _ _ cg14
            · rw [List.length_append, HLEN.out, prs_app]; exact OWN4.out.setOther (by simp) _
          · by_cases e : j = k
            · subst e; rw [HXY.out]; exact OKXY.out
            · exact HOK.out j (by omega)
         case measure => simp [intOf]; omega
      · go_wp2_with (first
          | (go_at_call 24; (with_reducible refine (has_b (b := true) n x _ HX.out).mono ?_); rintro e w1 ⟨rfl, rfl⟩)
          | (go_at_call 24; (with_reducible refine (has_b (b := true) n y _ HY.out).mono ?_); rintro e w1 ⟨rfl, rfl⟩))
        refine bodyPost_ret (v := .tuple #[.agg #[.int .i64 0, .slice none 0 0], .int .i64 1]) (by simp [results, Tryz.results10, go_sem, ra0, ra1]) rfl ?_
        rw [mkE_no (by rw [HE.out]; exact hlt) x y HXY.out (okP_no (.inr (.inr hq)))]
        refine ⟨?_, rfl⟩
        exact ((hfin.out.setCell (Nat.le_refl _) _).setCell (Nat.le_refl _) _).alloc (by simp; omega) _
    · obtain rfl : k = m := by omega
      have hmk : mkE n es = some (mkL n es) := mkE_yes (by omega) (fun j hj => HOK.out j (by have := HE.out; omega))
      have HMK := Lib.hid hmk
      have hall : ∀ e ∈ es, okP n e.1 e.2 = true := fun e he => by
        obtain ⟨j, hj, rfl⟩ := List.getElem_of_mem he
        have := HOK.out j (by have := HE.out; omega)
        rw [List.getD_eq_getElem?_getD, List.getElem?_eq_getElem hj] at this
        exact this
      have HALL := Lib.hid hall
      clear hmk HOK hall
      rw [List.take_of_length_le (by rw [HE.out]; exact Nat.le_refl _)] at OWN cg1
      rw [mkI_len, HE.out] at OWN cg1
      go_wp2_with (first
        | (go_at_call 26; refine (sort_own B k cB (mkI es) _ (w.heap.size + 2) OWN.out (by omega)).mono ?_; rintro e w2 ⟨rfl, l2, hp2, hs2, ho2, hg2⟩; have b2 : Below (w.heap.size + 2) wr w2 := (Below.refl _ _).grown hg2 (by omega) (fun b hb => (OWN.out.lt hb).1); have q0 : w2.cell? ⟨w.heap.size + 1, 0, none⟩ = some (.int .i64 n) := (by rw [b2.cell (by simp)]; exact cg0); have q1 : w2.cell? ⟨w.heap.size + 1, 1, none⟩ = some (.slice B k cB) := (by rw [b2.cell (by simp)]; exact cg1); have hs2z := b2.size; have B2 := Lib.hid b2; have OW2 := Lib.hid ho2; have HP2 := Lib.hid hp2; have HS2 := Lib.hid hs2; clear hg2 b2 ho2 hp2 hs2)
        | (go_at_call 28; refine (compact_own B k cB l2 _ (w.heap.size + 2) OW2.out (by omega)).mono ?_; rintro e w3 ⟨rfl, ho3, hg3⟩; have b3 : Below (w.heap.size + 2) w2 w3 := (Below.refl _ _).grown hg3 (by omega) (fun b hb => (OW2.out.lt hb).1); have q03 : w3.cell? ⟨w.heap.size + 1, 0, none⟩ = some (.int .i64 n) := (by rw [b3.cell (by simp)]; exact q0); have q13 : w3.cell? ⟨w.heap.size + 1, 1, none⟩ = some (.slice B k cB) := (by rw [b3.cell (by simp)]; exact q1); have fz3 : w3.frozen? ⟨w.heap.size + 1, 1, none⟩ = false := (by rw [b3.frozen (by simp), B2.out.frozen (by simp)]; exact fz); have r03 : w3.cell? ⟨w.heap.size, 0, none⟩ = some (.int .i64 0) := (by rw [b3.cell (by simp), B2.out.cell (by simp)]; exact r0); have r13 : w3.cell? ⟨w.heap.size, 1, none⟩ = some (.slice none 0 0) := (by rw [b3.cell (by simp), B2.out.cell (by simp)]; exact r1); have f03 : w3.frozen? ⟨w.heap.size, 0, none⟩ = false := (by rw [b3.frozen (by simp), B2.out.frozen (by simp)]; exact f0); have f13 : w3.frozen? ⟨w.heap.size, 1, none⟩ = false := (by rw [b3.frozen (by simp), B2.out.frozen (by simp)]; exact f1); have hs3z := b3.size; have B3 := Lib.hid b3; have OW3 := Lib.hid ho3; clear hg3 b3 ho3))
      rw [HMK.out]
      refine bodyPost_ret (v := .tuple #[.agg #[.int .i64 n, .slice B (cptL l2).length cB], .int .i64 0]) (by simp [results, Tryz.results10, go_sem, r03, r13]) rfl ?_
      have hcl : cptL l2 = mkL n es := mk_sorted HALL.out HP2.out HS2.out
      have hb9 : Below w.heap.size w w3 := hfin.out.trans ((B2.out.trans B3.out).mono (by omega))
      rw [hcl]
      refine ⟨((hb9.setCell (by simp) _).setCell (Nat.le_refl _) _).setCell (Nat.le_refl _) _, B, cB, rfl, ?_⟩
      have := OW3.out
      rw [hcl] at this
      exact (((this.setOther (by simp) _).setOther (by simp) _).setOther (by simp) _).base_le (by omega)
end Go.Proofs.YtpdbekgkopglgaaGreat
