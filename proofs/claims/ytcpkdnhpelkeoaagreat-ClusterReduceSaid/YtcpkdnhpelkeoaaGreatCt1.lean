/-
  slices.Sort, slices.Compact, slices.Clone, slices.Grow and slices.Concat at lists of integers, in the words of Own.
-/
import Derived.Test.YtcpkdnhpelkeoaaGreatShelf
import Derived.Test.YtcpkdnhpelkeoaaGreatRa
import Derived.Test.YtcpkdnhpelkeoaaGreatOwnP
import Derived.Test.YtcpkdnhpelkeoaaGreatOwnL
import Derived.Test.YtcpkdnhpelkeoaaGreatMp
namespace Go.Proofs.YtcpkdnhpelkeoaaGreat
set_option linter.unusedVariables false
set_option linter.unusedSimpArgs false
open Go.RowKit Go.Sort Go.Shelf
attribute [local go_sem ↓] Go.wp_at_zero Go.wp_at_succ

theorem own_holdsI {w : World} {base g n c : Nat} {l : List Int} (h : Own w base 3 1 (some ⟨g, 0, none⟩) n c (ints l)) : Holds (Value.int .i64) w g 0 l.toArray := by
  intro j hj
  have hl := h.len
  rw [ints_length] at hl
  have hj' : j < l.length := by simpa using hj
  refine ⟨?_, by rw [Nat.zero_add]; exact h.frozen j⟩
  rw [Nat.zero_add, World.ownsRow.cellAt h j (by omega), ints_at l j hj', getElem!_pos _ j hj, List.getD_eq_getElem?_getD, List.getElem?_eq_getElem hj']
  rfl
theorem putCellsI_take (d : Array Int) (cur : Array Value) (h : d.size ≤ cur.size) : (putCells (Value.int .i64) 0 d cur).toList.take d.size = d.toList.map (Value.int .i64) := by
  apply List.ext_getElem?
  intro j
  rw [List.getElem?_take]
  by_cases hj : j < d.size
  · have hb : d[j]! = d[j] := getElem!_pos d j hj
    have hc : j < cur.size := by omega
    simp [putCells, hj, hc, hb]
  · simp [hj]
/-- The row behind a store of the whole list. -/
theorem Own.putI {w : World} {base g n c : Nat} {l l' : List Int} (h : Own w base 3 1 (some ⟨g, 0, none⟩) n c (ints l)) (hl : l'.length = n) (m : Nat) (os : Array Obj) :
    Own (grow (putRow (Value.int .i64) (Sort.ahead w m) g 0 l'.toArray) os) base 3 1 (some ⟨g, 0, none⟩) n c (ints l') ∧ w.grownBy (grow (putRow (Value.int .i64) (Sort.ahead w m) g 0 l'.toArray) os) (some g) := by
  have hlt := (h.lt (k := g) rfl).2
  have hold : ∀ k, k < w.heap.size → k ≠ g → (grow (putRow (Value.int .i64) (Sort.ahead w m) g 0 l'.toArray) os).heap[k]? = w.heap[k]? := by
    intro k hk hne
    rw [heap_grow_old _ _ (by simp [putRow, mapBlock, ahead]; exact hk)]
    simp [putRow, mapBlock, ahead, Array.getElem?_modify, Ne.symm hne]
  refine ⟨⟨by rw [ints_length]; omega, ?_⟩, ⟨rfl, rfl, rfl, by simp [putRow, mapBlock, ahead], fun k hk hne => hold k hk (fun e => hne (by rw [e]))⟩⟩
  rcases h.2 with ⟨h1, h2⟩ | ⟨g', cap, cur, hv, hb, hh, hnc, hcm, hcs, htake⟩
  · cases h1
  · have hg : g = g' := by injection hv with hv; injection hv with hv; injection hv
    subst hg
    refine .inr ⟨g, cap, putCells (Value.int .i64) 0 l'.toArray cur, hv, hb, ?_, hnc, hcm, ?_, ?_⟩
    · rw [heap_grow_old _ _ (by simp [putRow, mapBlock, ahead]; exact hlt)]
      simp [putRow, mapBlock, ahead, Array.getElem?_modify, hh, onCells]
    · simp [putCells, hcs]
    · have := putCellsI_take l'.toArray cur (by simp; omega)
      rw [show l'.toArray.size = n by simpa using hl] at this
      rw [Nat.mul_one, this]
      simp [ints]
def SrtIPost (w : World) (base : Nat) (A : Option Addr) (n c : Nat) (l : List Int) (e : Ending) (w' : World) : Prop :=
  e = .returned (.tuple #[]) ∧ Own w' base 3 1 A n c (ints (sortI l)) ∧ w.grownBy w' (blk A)
theorem sortI_own (A : Option Addr) (n c : Nat) (l : List Int) (w : World) (base : Nat) (ho : Own w base 3 1 A n c (ints l)) (hn : n ≤ 100000000) :
    Calls Tryz.prog 39 #[.slice A n c] w (SrtIPost w base A n c l) := by
  have hl := ho.len
  rw [ints_length, Nat.mul_one] at hl
  rcases ho.2 with ⟨h1, h2⟩ | ⟨g, cap, cur, hv, hb, hh, _⟩
  · injection h1 with h1 _ h3
    subst h1 h2 h3
    have hl0 : l = [] := List.eq_nil_of_length_eq_zero hl
    subst hl0
    refine (Tryz.slices_Sort_int_none none 0 w).mono ?_
    rintro e w' ⟨rfl, rfl⟩
    exact ⟨rfl, by simpa [sortI] using ho, World.grownBy.refl _ _⟩
  · have hA : A = some ⟨g, 0, none⟩ := by injection hv
    subst hA
    have hcon := Tryz.slices_Sort_int g 0 c l w (own_holdsI ho) (ho.lt (k := g) rfl).2 (by omega)
    rw [hl] at hcon
    refine hcon.mono ?_
    rintro e w' ⟨rfl, m, os, rfl⟩
    obtain ⟨h1, h2⟩ := ho.putI (l' := sortI l) (by rw [sortI_len, hl]) m os
    exact ⟨rfl, h1, h2⟩
def CptIPost (w : World) (base : Nat) (A : Option Addr) (c : Nat) (l : List Int) (e : Ending) (w' : World) : Prop :=
  e = .returned (.slice A l.length c) ∧ Own w' base 3 1 A l.length c (ints l) ∧ w.grownBy w' (blk A)
theorem cptI_len (l : List Int) : (Lib.compact l).length ≤ l.length := by
  unfold Lib.compact Lib.compactUpTo
  rw [List.length_map]
  exact Nat.le_trans (List.length_filter_le _ _) (by simp)
theorem compactI_own (A : Option Addr) (n c : Nat) (l : List Int) (w : World) (base : Nat) (ho : Own w base 3 1 A n c (ints l)) (hn : n ≤ 100000000) :
    Calls Tryz.prog 40 #[.slice A n c] w (CptIPost w base A c (Lib.compact l)) := by
  have hl := ho.len
  rw [ints_length, Nat.mul_one] at hl
  rcases ho.2 with ⟨h1, h2⟩ | ⟨g, cap, cur, hv, hb, hh, _⟩
  · injection h1 with h1 _ h3
    subst h1 h2 h3
    have hl0 : l = [] := List.eq_nil_of_length_eq_zero hl
    subst hl0
    refine (Tryz.slices_Compact_int_empty none 0 w).mono ?_
    rintro e w' ⟨rfl, rfl⟩
    exact ⟨rfl, ho, World.grownBy.refl _ _⟩
  · have hA : A = some ⟨g, 0, none⟩ := by injection hv
    subst hA
    have hcap := ho.cap
    have hcon := Tryz.slices_Compact_int g 0 c l w (own_holdsI ho) (by omega) (by omega)
    rw [hl] at hcon
    refine hcon.mono ?_
    have hle := cptI_len l
    rintro e w' ⟨rfl, m, rfl⟩
    obtain ⟨h1, h2⟩ := ho.putI (l' := Lib.compact l ++ List.replicate (n - (Lib.compact l).length) 0) (by simp; omega) m #[]
    rw [grow_empty] at h1 h2
    refine ⟨rfl, ?_, h2⟩
    have h3 := h1.shrink (k := (Lib.compact l).length) (by omega) (by simp)
    rw [ints_app, Nat.mul_one, List.take_left' (ints_length _)] at h3
    exact h3
/-- slices.Clone. -/
def ClnIPost (w : World) (l : List Int) (e : Ending) (w' : World) : Prop :=
  Below w.heap.size w w' ∧ ∃ C c, e = .returned (.slice C l.length c) ∧ Own w' w.heap.size 3 1 C l.length c (ints l)
theorem cloneI_any (A : Option Addr) (n c : Nat) (l : List Int) (w : World) (he : Rd w 1 A n (ints l)) (hn : n ≤ 100000000) :
    Calls Tryz.prog 15 #[.slice A n c] w (ClnIPost w l) := by
  have HL := Lib.hid he.int_len
  have H1 := Lib.hid he
  clear he
  have hnil := fun (a : Option Addr) (W : World) => Lib.run_eql_slice_nil (P := Tryz.prog) W 24 3 a n c 0 0 Tryz.underlying24
  cases A with
  | none =>
    have hn0 : n = 0 := by
      rcases Nat.eq_zero_or_pos n with h | h
      · exact h
      · obtain ⟨ad, h', _⟩ := H1.out.2 h; cases h'
    have hl0 : l = [] := List.eq_nil_of_length_eq_zero (by rw [HL.out, hn0])
    have HL0 := Lib.hid hl0
    clear hl0 hn0
    go_enter Tryz.func15, Tryz.ntmps15
    go_wp2
    go_ret
    exact ⟨Below.refl _ _, none, 0, by rw [HL0.out]; rfl, by rw [HL0.out]; exact Own.nil _ _ _ _⟩
  | some ad =>
    go_enter Tryz.func15, Tryz.ntmps15
    go_wp2_with (at_builtin; refine wpList_app _ rfl (.tmp 5) (.tmp 6) 24 rfl w.heap.size 3 (.int .i64 0) 1 8 Tryz.underlying24 info_int' rfl (by decide) (some ⟨w.heap.size, 0, none⟩) 0 0 [] rfl (own_empty _ _ _) (some ad) n c (ints l) rfl (H1.out.keep (Keeps.alloc _ _)) (ints_one _) (by omega) (by unfold maxLen; omega) (by simp) ?_; intro B4 c4 w4 ho4 hg4 hb4; have OWN4 := Lib.hid ho4; have S3 : Hid (Below w.heap.size w w4) := (((Below.refl _ _).alloc (Nat.le_refl _) _).grown hg4 (by simp) (fun b hb => Nat.le_of_eq (by injection hb))); clear ho4 hg4 hb4)
    go_ret
    refine ⟨S3.out, B4, c4, ret_slice (by rw [HL.out]), ?_⟩
    have := OWN4.out
    rw [Nat.zero_add, List.nil_append] at this
    rw [HL.out]; exact this
/-- slices.Grow of the nil list. -/
def GrwPost (w : World) (e : Ending) (w' : World) : Prop :=
  Below w.heap.size w w' ∧ ∃ C c, e = .returned (.slice C 0 c) ∧ Own w' w.heap.size 3 1 C 0 c []
theorem growI_any (n : Nat) (w : World) (hn : n ≤ 100000000) : Calls Tryz.prog 67 #[.slice none 0 0, .int .i64 n] w (GrwPost w) := by
  by_cases h0 : n = 0
  · subst h0
    refine (Any8.slices_Grow_room Tryz.laysNm84_f67 none 0 0 0 w (Nat.le_refl _) (by omega) (by omega) (Nat.le_refl _)).mono ?_
    rintro e w' ⟨rfl, rfl⟩
    exact ⟨Below.refl _ _, none, 0, rfl, Own.nil _ _ _ _⟩
  · obtain ⟨i0, hi0, hm⟩ := Option.map_eq_some_iff.1 info_int'
    injection hm with e1 hm
    injection hm with e2 e3
    refine (Any8.slices_Grow_grow Tryz.laysNm84_f67 i0 (.int .i64 0) hi0 e1 (by omega) none 0 0 n [] w (Nat.le_refl _) (by omega) (by rw [e3]; omega) (by omega) (by simp) (fun _ => rfl) (fun a h => nomatch h)).mono ?_
    rintro e w' ⟨rfl, rfl⟩
    refine ⟨(Below.refl _ _).drew.alloc (by simp) _, _, _, rfl, rfl, .inr ⟨w.heap.size, _, _, rfl, Nat.le_refl _, heap_alloc_new w.drew _, Nat.zero_le _, grownCap_le_maxLen _ _ _ _ (by unfold maxLen; omega), ?_, by simp⟩⟩
    have := grownCap_ge w (0 + n) 0 (Tryz.laysNm84_f67_ren.t 25)
    simp only [Array.size_append, size_zeroCells]
    have hz : (Value.int IntKind.i64 0).cells.size = 1 := rfl
    rw [hz]
    simp at this ⊢
    omega
def CatPost (w : World) (l : List Int) (e : Ending) (w' : World) : Prop :=
  Below w.heap.size w w' ∧ ∃ C c, e = .returned (.slice C l.length c) ∧ Own w' w.heap.size 3 1 C l.length c (ints l)
set_option maxRecDepth 100000 in
set_option maxHeartbeats 4000000 in
theorem concatI_any (A : Option Addr) (n c : Nat) (ls : List (List Int)) (w : World) (hn : n ≤ 100000) (hs : ∀ k, (joinI ls k).length ≤ 1000000) (he : RdL w A n ls) :
    Calls Tryz.prog 38 #[.slice A n c] w (CatPost w (joinI ls n)) := by
  have H1 := Lib.hid he
  have HLN : Hid (ls.length = n) := Lib.hid he.1
  have HS := Lib.hid hs
  clear he hs
  go_enter Tryz.func38, Tryz.ntmps38
  go_wp2_with fail
  go_loopg [3, 11] n (fun g s i wr => ∃ q : Nat, q ≤ n ∧ g = n - q ∧ i = .int .i64 q ∧ s = .int .i64 (joinI ls q).length ∧ w = wr)
  case atStart => exact ⟨0, Nat.zero_le _, rfl, rfl, rfl, rfl⟩
  case round =>
    obtain ⟨q, hq, rfl, rfl, rfl, rfl⟩ := hrel
    by_cases hlt : q < n
    · obtain ⟨ad, A1, e1, rfl, c0, r1⟩ := H1.out.at hlt
      have b2 := HS.out q
      have b3 := HS.out (q + 1)
      have JL : (joinI ls (q + 1)).length = (joinI ls q).length + (ls.getD q []).length := by rw [joinI_next (by rw [HLN.out]; exact hlt), List.length_append]
      rw [JL] at b3
      generalize (ls.getD q []).length = lx at *
      have JH : Hid ((joinI ls (q + 1)).length = (joinI ls q).length + lx) := Lib.hid JL
      clear JL
      generalize (joinI ls q).length = s at *
      clear r1
      go_wp2_with fail
      go_roundg (n - (q + 1))
      case measure => omega
      case rel => exact ⟨q + 1, by omega, rfl, by go_num, by rw [JH.out]; go_num, rfl⟩
    · obtain rfl : q = n := by omega
      have b2 := HS.out q
      generalize hsz : (joinI ls q).length = s at *
      have cA := growI_any s w (by omega)
      have HSZ := Lib.hid hsz
      clear hsz
      go_wp2_with fail
      refine Calls.mono cA ?_
      rintro _ w1 ⟨hb1, C1, c1, rfl, ho1⟩
      have HB1 := Lib.hid hb1
      have HO1 := Lib.hid ho1
      clear hb1 ho1 cA
      go_wp2_with fail
      go_loopg [6, 27] q (fun g o i wr => ∃ (r : Nat) (C : Option Addr) (p cC : Nat), r ≤ q ∧ g = q - r ∧ i = .int .i64 r ∧ o = .slice C p cC ∧ p = (joinI ls r).length ∧ Own wr w.heap.size 3 1 C p cC (ints (joinI ls r)) ∧ Below w.heap.size w wr)
      case atStart => exact ⟨0, C1, 0, c1, Nat.zero_le _, rfl, rfl, rfl, rfl, HO1.out, HB1.out⟩
      case round =>
        clear HB1 HO1
        obtain ⟨r, C, p, cC, hr, rfl, rfl, rfl, hpl, ho, hb⟩ := hrel
        have HB := Lib.hid hb
        have HO := Lib.hid ho
        have hzr := hb.size
        have kr := Keeps.of_below hb (Nat.le_refl _)
        have HP := Lib.hid hpl
        clear hb ho
        by_cases hlt2 : r < q
        · obtain ⟨ad, A1, e1, rfl, c0, r1⟩ := (H1.out.keep kr).at hlt2
          have b2 := HS.out r
          have b3 := HS.out (r + 1)
          have JN : Hid (joinI ls (r + 1) = joinI ls r ++ ls.getD r []) := Lib.hid (joinI_next (by rw [HLN.out]; exact hlt2))
          have JL : (joinI ls (r + 1)).length = p + (ls.getD r []).length := by rw [JN.out, List.length_append, hpl]
          rw [JL] at b3
          rw [← hpl] at b2
          have JH := Lib.hid JL
          clear JL hpl kr
          generalize hx : ls.getD r [] = x at *
          have R1 := Lib.hid r1
          clear hx r1
          generalize hlx : x.length = lx at *
          have HLX := Lib.hid hlx
          clear hlx
          go_wp2_with (first
            | (at_builtin; refine wpList_app _ rfl (.tmp 31) (.tmp 32) 24 rfl w.heap.size 3 (.int .i64 0) 1 8 Tryz.underlying24 info_int' rfl (by decide) C p cC (ints (joinI ls r)) rfl HO.out A1 lx e1 (ints x) rfl R1.out (ints_one _) (by omega) (by unfold maxLen; omega) (by omega) ?_; intro D2 c2 w3 ho3 hg3 hb3; have O3 : Hid (Own w3 w.heap.size 3 1 D2 (p + lx) c2 (ints (joinI ls (r + 1)))) := Lib.hid (by rw [JN.out, ints_app]; exact ho3); have B3 : Hid (Below w.heap.size w w3) := Lib.hid (HB.out.grown hg3 (by omega) (fun k hk => (HO.out.lt hk).1)); clear ho3 hg3 hb3)
            | fail)
          go_roundg (q - (r + 1))
          case measure => omega
          case rel => exact ⟨r + 1, D2, p + lx, c2, by omega, rfl, by go_num, rfl, JH.out.symm, O3.out, B3.out⟩
        · obtain rfl : r = q := by omega
          go_wp2_with fail
          go_ret
          refine ⟨HB.out, C, cC, ?_, ?_⟩
          · show Ending.returned (Value.slice C p cC) = _
            rw [HP.out]
          · rw [← HP.out]; exact HO.out
end Go.Proofs.YtcpkdnhpelkeoaaGreat
