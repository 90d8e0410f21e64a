/-
  setsquareref33.Lists: whether two lists of lists are equal.
-/
import Derived.Test.YtfkpcmklpcnebaaG4
namespace Go.Proofs.Ytfkpcmklpcnebaa
set_option linter.unusedVariables false
set_option linter.unusedSimpArgs false
open Go.RowKit Go.Sort

def LAt (ls : List (List Int)) (i : Nat) : List Int := ls.getD i []
theorem lists_eq {a b : List (List Int)} (hl : a.length = b.length) (h : ∀ i, i < a.length → LAt a i = LAt b i) : a = b := by
  apply List.ext_getElem hl
  intro i h1 h2
  have := h i h1
  unfold LAt at this
  rw [List.getD_eq_getElem?_getD, List.getElem?_eq_getElem h1, List.getD_eq_getElem?_getD, List.getElem?_eq_getElem h2] at this
  exact this
theorem lists_ne {a b : List (List Int)} {i : Nat} (h : LAt a i ≠ LAt b i) : a ≠ b := fun e => h (by rw [e])
theorem ints_eq {a b : List Int} (hl : a.length = b.length) (h : ∀ i, i < a.length → a.getD i 0 = b.getD i 0) : a = b := by
  apply List.ext_getElem hl
  intro i h1 h2
  have := h i h1
  rw [List.getD_eq_getElem?_getD, List.getElem?_eq_getElem h1, List.getD_eq_getElem?_getD, List.getElem?_eq_getElem h2] at this
  exact this

set_option maxRecDepth 100000 in
set_option maxHeartbeats 8000000 in
theorem lists_any (A B : Option Addr) (n c m d : Nat) (la lb : List (List Int)) (w : World) (hn : n ≤ 1000000) (hm : m ≤ 1000000) (hsa : ∀ i, (LAt la i).length ≤ 1000000) (hsb : ∀ i, (LAt lb i).length ≤ 1000000) (ha : RdL w A n la) (hb : RdL w B m lb) :
    Calls Try.prog 18 #[.slice A n c, .slice B m d] w fun e w' => e = .returned (.bool (decide (la = lb))) ∧ Below w.heap.size w w' := by
  have HLA := Lib.hid ha.1
  have HLB := Lib.hid hb.1
  have H1 := Lib.hid ha
  have H2 := Lib.hid hb
  have SA := Lib.hid hsa
  have SB := Lib.hid hsb
  clear ha hb hsa hsb
  by_cases hnm : n = m
  · subst hnm
    go_enter Try.func18, Try.ntmps18
    go_wp2
    go_loopw [5, 6] (fun i _ wr => Below w.heap.size w wr ∧ ∃ k : Nat, k ≤ n ∧ i = .int .i64 k ∧ ∀ j, j < k → LAt la j = LAt lb j) (fun i _ _ => n - (intOf i).toNat)
    case atStart => exact ⟨Below.refl _ _, 0, Nat.zero_le _, rfl, by omega⟩
    case round =>
      obtain ⟨hb, k, hk, rfl, hok⟩ := hrel
      have HB := Lib.hid hb
      have HOK := Lib.hid hok
      have K := Lib.hid (Keeps.of_below hb (Nat.le_refl _))
      clear hb hok
      by_cases hlt : k < n
      · obtain ⟨ad, A', c', rfl, c0, ra⟩ := (H1.out.keep K.out).at hlt
        obtain ⟨ad2, B', d', rfl, c1, rb⟩ := (H2.out.keep K.out).at hlt
        have hla := SA.out k
        have hlb := SB.out k
        change _ = some (Value.slice A' (LAt la k).length c') at c0
        change _ = some (Value.slice B' (LAt lb k).length d') at c1
        change Rd wr 1 A' (LAt la k).length (ints (LAt la k)) at ra
        change Rd wr 1 B' (LAt lb k).length (ints (LAt lb k)) at rb
        generalize hxa : LAt la k = xa at *
        generalize hxb : LAt lb k = xb at *
        have XA := Lib.hid hxa
        have XB := Lib.hid hxb
        have RA := Lib.hid ra
        have RB := Lib.hid rb
        generalize hp : xa.length = p at *
        generalize hq : xb.length = q at *
        have HP := Lib.hid hp
        have HQ := Lib.hid hq
        have k0 := grown_cell c0
        have k1 := grown_cell c1
        clear hxa hxb ra rb hp hq
        by_cases hpq : p = q
        · subst hpq
          go_wp2
          refine wp_region_q (by kernel_rfl) (by kernel_rfl) ?_
          repeat (go_big_quiet_step (fail))
          refine wpQuiet_nil ?_
          intro wq hgq
          have c0 := Keeps.of_below hgq (Nat.le_refl _) _ _ c0
          have c1 := Keeps.of_below hgq (Nat.le_refl _) _ _ c1
          have RA2 := Lib.hid (RA.out.keep (Keeps.of_below hgq (Nat.le_refl _)))
          have RB2 := Lib.hid (RB.out.keep (Keeps.of_below hgq (Nat.le_refl _)))
          have HB2 := Lib.hid (HB.out.trans (hgq.mono HB.out.size))
          clear hgq k0 k1
          go_wp2
          go_loopw [6] (fun j w2 => Below wq.heap.size wq w2 ∧ ∃ t : Nat, t ≤ p ∧ j = .int .i64 t ∧ ∀ i, i < t → xa.getD i 0 = xb.getD i 0) (fun j _ => p - (intOf j).toNat)
          case atStart => exact ⟨Below.refl _ _, 0, Nat.zero_le _, rfl, by omega⟩
          case round =>
            obtain ⟨hb3, t, ht, rfl, hok2⟩ := hrel
            have HB3 := Lib.hid hb3
            have HOK2 := Lib.hid hok2
            have e0 := Keeps.of_below hb3 (Nat.le_refl _) _ _ c0
            have e1 := Keeps.of_below hb3 (Nat.le_refl _) _ _ c1
            clear hb3 hok2
            by_cases htl : t < p
            · obtain ⟨ad3, rfl, -, g0⟩ := (RA2.out.keep (Keeps.of_below HB3.out (Nat.le_refl _))).int_at htl
              obtain ⟨ad4, rfl, -, g1⟩ := (RB2.out.keep (Keeps.of_below HB3.out (Nat.le_refl _))).int_at htl
              generalize hx : xa.getD t 0 = x at g0
              generalize hy : xb.getD t 0 = y at g1
              have HX := Lib.hid hx
              have HY := Lib.hid hy
              have k0 := grown_cell g0
              have k1 := grown_cell g1
              have k2 := grown_cell e0
              have k3 := grown_cell e1
              clear hx hy
              cases hxy : (x != y)
              · have HXY : Hid (x = y) := by unfold Hid; simpa using hxy
                go_wp2
                refine wp_region_q (by kernel_rfl) (by kernel_rfl) ?_
                repeat (go_big_quiet_step (fail))
                refine wpQuiet_nil ?_
                intro wq hgq
                go_wp2
                go_roundw
                case rel => exact ⟨HB3.out.trans (hgq.mono HB3.out.size), t + 1, by omega, by go_num, fun i hi => by
                  by_cases e : i = t
                  · subst e; rw [HX.out, HY.out]; exact HXY.out
                  · exact HOK2.out i (by omega)⟩
                case measure => simp [intOf]; omega
              · have HXY : Hid (x ≠ y) := by unfold Hid; simpa using hxy
                go_wp2
                refine wp_region_q (by kernel_rfl) (by kernel_rfl) ?_
                repeat (go_big_quiet_step (fail))
                refine wpQuiet_nil ?_
                intro wq hgq
                go_wp2
                go_ret
                refine ⟨ret_bool ?_, (HB2.out.trans (HB3.out.mono HB2.out.size)).trans (hgq.mono (Nat.le_trans HB2.out.size HB3.out.size))⟩
                symm
                rw [decide_eq_false_iff_not]
                refine lists_ne (i := k) ?_
                rw [XA.out, XB.out]
                intro h
                exact HXY.out (by rw [← HX.out, ← HY.out, h])
            · go_wp2
              go_roundw
              case rel => exact ⟨HB2.out.trans (HB3.out.mono HB2.out.size), k + 1, by omega, by go_num, fun j hj => by
                by_cases e : j = k
                · subst e; rw [XA.out, XB.out]
                  exact ints_eq (by rw [HP.out, HQ.out]) (fun i hi => HOK2.out i (by rw [HP.out] at hi; omega))
                · exact HOK.out j (by omega)⟩
              case measure => simp [intOf]; omega
        · have hpb : ((p : Int) != (q : Int)) = true := by simp; omega
          have HPQ := Lib.hid hpq
          clear hpq
          go_wp2
          refine wp_region_q (by kernel_rfl) (by kernel_rfl) ?_
          repeat (go_big_quiet_step (fail))
          refine wpQuiet_nil ?_
          intro wq hgq
          go_wp2
          go_ret
          refine ⟨ret_bool ?_, HB.out.trans (hgq.mono HB.out.size)⟩
          symm
          rw [decide_eq_false_iff_not]
          refine lists_ne (i := k) ?_
          rw [XA.out, XB.out]
          intro h
          exact HPQ.out (by rw [← HP.out, ← HQ.out, h])
      · go_wp2
        go_ret
        exact ⟨ret_bool (by symm; rw [decide_eq_true_iff]; exact lists_eq (by rw [HLA.out, HLB.out]) (fun i hi => HOK.out i (by rw [HLA.out] at hi; omega))), HB.out⟩
  · have hb : ((n : Int) != (m : Int)) = true := by simp; omega
    have HNM := Lib.hid hnm
    clear hnm
    go_enter Try.func18, Try.ntmps18
    go_wp2
    go_ret
    exact ⟨ret_bool (by symm; rw [decide_eq_false_iff_not]; intro h; exact HNM.out (by rw [← HLA.out, ← HLB.out, h])), Below.refl _ _⟩
end Go.Proofs.Ytfkpcmklpcnebaa
