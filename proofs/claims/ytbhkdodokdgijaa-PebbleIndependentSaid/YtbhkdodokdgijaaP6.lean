/-
  pebble.play: which edges are independent of those before them.
-/
import Derived.Test.YtbhkdodokdgijaaP5
namespace Go.Proofs.Ytbhkdodokdgijaa
set_option linter.unusedVariables false
set_option linter.unusedSimpArgs false
open Go.RowKit Go.Sort

section
variable {w wa w5 w7 : World} {base b go n c m d d' : Nat} {hs hs' : List (Option Addr × Nat)} {out : List (List Int)} {B B' : Option Addr} {xs : List Value}
theorem out_later {e : TypeId} {size : Nat} (ho : Own wa base e size B m d xs) (hst : GStep (fun _ => False) wa w5 go hs hs') (hB : ∀ j, blk B = some j → ¬ Ft go hs j) : Own w5 base e size B m d xs ∧ ∀ j, blk B = some j → ¬ Ft go hs' j :=
  ⟨Fr.own ho hst.fr (fun k hk h => h.elim (hB k hk) id), fun j hj h => hB j hj (hst.ft j (ho.lt hj).2 h)⟩
theorem out_push {o : Obj} {e : TypeId} {size : Nat} (hg : GM w5 base b go n c hs out) (ho : Own w5 base e size B m d xs) (he : e ≠ 76) (hB : ∀ j, blk B = some j → ¬ Ft go hs j) (hgr : (w5.alloc o).grownBy w7 (blk B)) (hB' : blk B' = blk B ∨ blk B' = some (w5.alloc o).heap.size) :
    GM w7 base b go n c hs out ∧ ∀ j, blk B' = some j → ¬ Ft go hs j := by
  have hga := hg.later ((Below.refl _ _).alloc (Nat.le_refl _) o)
  refine ⟨hga.fr (F := fun k => blk B = some k) (Fr.of_grown hgr (fun k hk _ => hk)) (fun k hk e => hB k e hk) (fun e => hg.ne ho he e rfl), fun j hj h => ?_⟩
  rcases hB' with e | e
  · exact hB j (by rw [← e]; exact hj) h
  · rw [hj] at e
    injection e with e
    have := (hg.om.ft (A := none) h).2.1
    simp at e
    omega
end
theorem edge_nat {n : Nat} {es : List (Int × Int)} (h : ∀ e ∈ es, OkE n e) {k : Nat} (hk : k < es.length) : ∃ p q : Nat, edAt es k = ((p : Int), (q : Int)) ∧ p < n ∧ q < n ∧ p ≠ q := by
  obtain ⟨h1, h2, h3, h4, h5⟩ := h _ (edAt_mem hk)
  refine ⟨(edAt es k).1.toNat, (edAt es k).2.toNat, Prod.ext (by simp; omega) (by simp; omega), by omega, by omega, by omega⟩
theorem getD_edAt (l : List (Int × Int)) (k : Nat) : l.getD k (0, 0) = edAt l k := rfl
def PlayPost (w : World) (es : List (Int × Int)) (e : Ending) (w' : World) : Prop :=
  ∃ B cB pt, e = .returned (.tuple #[.slice B (idxL es).length cB, pt]) ∧ Own w' w.heap.size 3 1 B (idxL es).length cB (ints (idxL es)) ∧ Below w.heap.size w w'
set_option maxRecDepth 100000 in
set_option maxHeartbeats 8000000 in
theorem play_any (n : Nat) (A : Option Addr) (m c : Nat) (es : List (Int × Int)) (w : World) (hn : n ≤ 60) (hm : m ≤ 100000) (he : Rd w 2 A m (prs es)) (hok : ∀ e ∈ es, OkE n e) :
    Calls Try.prog 32 #[.int .i64 n, .slice A m c] w (PlayPost w es) := by
  have HE := Lib.hid he.prs_len
  have H1 := Lib.hid he
  have HOK := Lib.hid hok
  have HS := Lib.hid (start_any n w hn)
  have hgs := gm_start (w := w) (base := w.heap.size) n (by unfold maxLen; omega) (Nat.le_refl _)
  have HGS := Lib.hid hgs
  have HB0 : Hid (Below w.heap.size w ((w.alloc (.cells (madeCells #[.slice none 0 0] n) 27)).alloc (.cells #[.slice (some ⟨w.heap.size, 0, none⟩) n n] 76))) := Lib.hid (((Below.refl _ _).alloc (Nat.le_refl _) _).alloc (by simp) _)
  clear he hok hgs
  go_enter Try.func32, Try.ntmps32
  go_wp2_with (first
    | (go_at_call 38; refine HS.out.mono ?_; rintro e w1 ⟨rfl, hw1⟩; rw [← hw1] at HGS HB0; clear hw1)
    | fail)
  go_loopg [7, 8, 9, 14] m (fun k o _ _ t wr => ∃ (q : Nat) (hs : List (Option Addr × Nat)) (out1 : List (List Int)) (B : Option Addr) (cB : Nat), t = .int .i64 q ∧ q ≤ m ∧ k = m - q ∧ o = .slice B (idxK es q).length cB ∧ GM wr w.heap.size (w.heap.size + 1) w.heap.size n n hs out1 ∧ GInv n out1 (choK es q) ∧ Own wr w.heap.size 3 1 B (idxK es q).length cB (ints (idxK es q)) ∧ (∀ j, blk B = some j → ¬ Ft w.heap.size hs j) ∧ Below w.heap.size w wr)
  case atStart => exact ⟨0, _, _, none, 0, rfl, by omega, rfl, rfl, HGS.out, by rw [choK_zero]; exact GInv.start n, Own.nil _ _ _ _, fun j hj => by simp [blk] at hj, HB0.out⟩
  case round =>
    obtain ⟨q, hs, out1, B, cB, rfl, hq, rfl, rfl, hg, hi, ho, hB, hb⟩ := hrel
    have HG := Lib.hid hg
    have HI := Lib.hid hi
    have HO := Lib.hid ho
    have HB := Lib.hid hB
    have HBL := Lib.hid hb
    have hsz := hb.size
    clear hg hi ho hB hb
    by_cases hlt : q < m
    · obtain ⟨ad, rfl, c0, c1⟩ := (H1.out.keep (Keeps.of_below HBL.out (Nat.le_refl _))).prs_at hlt
      obtain ⟨x, y, hxy, hx, hy, hne⟩ := edge_nat HOK.out (k := q) (by rw [HE.out]; exact hlt)
      rw [getD_edAt, hxy] at c0 c1
      simp only at c0 c1
      have HXY := Lib.hid hxy
      have HAC := Lib.hid (accept_any (wr.alloc (.cells #[.int .i64 (x : Int), .int .i64 (y : Int)] 45)) w.heap.size (w.heap.size + 1) w.heap.size n n hs out1 x y hn (HG.out.later ((Below.refl _ _).alloc (Nat.le_refl _) _)) HI.out.gs hx hy hne)
      have hql : (idxK es q).length ≤ q := idxK_le es q
      have HST := Lib.hid (idxK_step es q)
      have HCT := Lib.hid (choK_step (es := es) (k := q) (by rw [HE.out]; exact hlt))
      generalize hL : idxK es q = L at HO hql HST ⊢
      generalize hLl : L.length = l at HO hql ⊢
      have HLL := Lib.hid hLl
      clear hxy hL hLl
      go_wp2_with (first
        | (go_at_call 39; refine HAC.out.mono ?_; rintro e w5 ⟨r, out5, hs5, rfl, hg5, hst5, hacc⟩; have HG5 := Lib.hid hg5; have HST5 := Lib.hid hst5; have HA5 := Lib.hid hacc; have hb5 := hst5.below (HG.out.later ((Below.refl _ _).alloc (Nat.le_refl _) _)).om (B := w.heap.size) (by simp; omega) (Nat.le_refl _) (fun _ _ h => h.elim); have HB5 := Lib.hid ((HBL.out.alloc hsz (.cells #[.int .i64 (x : Int), .int .i64 (y : Int)] 45)).trans hb5); have HO5 := Lib.hid (out_later (HO.out.alloc (.cells #[.int .i64 (x : Int), .int .i64 (y : Int)] 45)) hst5 HB.out); have hz5 := hst5.fr.size; clear hg5 hst5 hacc hb5; cases r)
        | (at_builtin; refine wpList_app _ rfl (.tmp 25) (.tmp 27) 27 rfl w.heap.size 3 (.int .i64 0) 1 8 Try.underlying27 info_int' rfl (by decide) B l cB (ints L) rfl (HO5.out.1.alloc _) (some ⟨w5.heap.size, 0, none⟩) 1 1 (ints [(q : Int)]) rfl (rd_lit_at rfl [(q : Int)] _) (ints_one _) (by omega) (by unfold maxLen; omega) (by simp at hz5 ⊢; omega) ?_; intro B7 c7 w7 ho7 hg7 hb7; have P7 := Lib.hid (out_push HG5.out HO5.out.1 (by decide) HO5.out.2 hg7 hb7); have O7 := Lib.hid ho7; have BL7 := Lib.hid ((HB5.out.alloc (by simp at hz5; omega) (.cells #[.int .i64 (q : Int)] 3)).grown hg7 (by simp at hz5 ⊢; omega) (fun k hk => (HO5.out.1.lt hk).1)); clear ho7 hg7 hb7)
        | fail)
      · obtain ⟨h1, h2, -⟩ := HA5.out.inv HI.out hn hx hy hne
        have ht : takB es q = false := by unfold takB; rw [HXY.out]; exact h1.symm
        have e1 : idxK es (q + 1) = L := by rw [HST.out, ht]; rfl
        have e2 : choK es (q + 1) = choK es q := by rw [HCT.out, ht]; rfl
        go_roundg (m - (q + 1))
        case measure => omega
        case rel => exact ⟨q + 1, hs5, out5, B, cB, by go_num, by omega, rfl, by rw [e1, HLL.out], HG5.out, by rw [e2]; exact h2, by rw [e1, HLL.out]; exact HO5.out.1, HO5.out.2, HB5.out⟩
      · obtain ⟨h1, h2, -⟩ := HA5.out.inv HI.out hn hx hy hne
        have ht : takB es q = true := by unfold takB; rw [HXY.out]; exact h1.symm
        have e1 : idxK es (q + 1) = L ++ [(q : Int)] := by rw [HST.out, ht]; rfl
        have e2 : choK es (q + 1) = choK es q ++ [((x : Int), (y : Int))] := by rw [HCT.out, ht, HXY.out]; rfl
        have e3 : (L ++ [(q : Int)]).length = l + 1 := by rw [List.length_append, HLL.out]; rfl
        go_roundg (m - (q + 1))
        case measure => omega
        case rel => exact ⟨q + 1, hs5, out5, B7, c7, by go_num, by omega, rfl, by rw [e1, e3], P7.out.1, by rw [e2]; exact h2, by rw [e1, e3, ints_app]; exact O7.out, P7.out.2, BL7.out⟩
    · obtain rfl : q = m := by omega
      have hE : idxL es = idxK es q := by unfold idxL; rw [HE.out]
      have HEE := Lib.hid hE
      clear hE
      go_wp2_with fail
      go_ret2
      refine ⟨B, cB, .pointer (some ⟨w.heap.size + 1, 0, none⟩), ?_, ?_, HBL.out⟩
      · rw [HEE.out]; rfl
      · rw [HEE.out]; exact HO.out
end Go.Proofs.Ytbhkdodokdgijaa
