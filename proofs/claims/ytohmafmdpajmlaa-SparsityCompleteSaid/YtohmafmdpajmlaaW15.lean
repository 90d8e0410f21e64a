/-
  setsquareref35.Certificate and Laman: for every valid graph of at most 60 points in memory.
-/
import Derived.Test.YtohmafmdpajmlaaW13
import Derived.Test.YtohmafmdpajmlaaW14
import Derived.Test.YtohmafmdpajmlaaOwnL
import Derived.Deep.RegionLaw
namespace Go.Proofs.Ytohmafmdpajmlaa
set_option linter.unusedVariables false
set_option linter.unusedSimpArgs false
open Go.RowKit Go.Sort

theorem find_no (n m : Nat) (L : List (Int × Int)) (E : Option Addr) (ce : Nat) (hm : m ≤ 1000) (hn : n ≤ 60) (hin : ∀ e ∈ L, InN n e) (O : Option Addr) (co : Nat) (w : World)
    (he : Rd w 2 E m (prs L)) (ho : Rd w 1 O n (ints (zeros n))) (hr : findR L (zeros n) [] = none) :
    Calls Try.prog 36 #[.slice E m ce, .int .i64 0, .slice O n co, .slice none 0 0] w fun e w' => e = .returned (.tuple #[.slice none 0 0, .bool false]) ∧ Below w.heap.size w w' := by
  have := find_any n m L E ce hm hn hin m 0 (zeros n) [] O none co 0 0 w (by omega) (by omega) he ho (zeros_ok n) (Rd.nil _ _ _) (Nat.le_refl _) (by omega)
  rw [List.drop_zero, hr] at this
  exact this.mono fun e w' h => ⟨h.2, h.1⟩
theorem find_yes (n m : Nat) (L : List (Int × Int)) (E : Option Addr) (ce : Nat) (hm : m ≤ 1000) (hn : n ≤ 60) (hin : ∀ e ∈ L, InN n e) (O : Option Addr) (co : Nat) (w : World) (l : List Int)
    (he : Rd w 2 E m (prs L)) (ho : Rd w 1 O n (ints (zeros n))) (hr : findR L (zeros n) [] = some l) (h0 : 0 < m) :
    Calls Try.prog 36 #[.slice E m ce, .int .i64 0, .slice O n co, .slice none 0 0] w fun e w' => (∃ A c, e = .returned (.tuple #[.slice (some A) m c, .bool true]) ∧ Rd w' 1 (some A) m (ints l) ∧ m ≤ c) ∧ Below w.heap.size w w' := by
  have := find_any n m L E ce hm hn hin m 0 (zeros n) [] O none co 0 0 w (by omega) (by omega) he ho (zeros_ok n) (Rd.nil _ _ _) (Nat.le_refl _) (by omega)
  rw [List.drop_zero, hr] at this
  refine this.mono fun e w' h => ?_
  obtain ⟨hb, A, c, he', hrd, hc⟩ := h
  obtain ⟨t, e1, hf, -⟩ := findR_sound L (zeros n) [] l (zeros_ok n) hin hr
  have hlen : l.length = m := by rw [e1, List.nil_append, hf.1, he.prs_len]
  rw [hlen] at he' hrd hc
  obtain ⟨ad, rfl, -, -⟩ := hrd.int_at h0
  exact ⟨⟨ad, c, he', hrd, hc⟩, hb⟩

def CertPost (w : World) (r : Option (List (List Int))) (e : Ending) (w' : World) : Prop :=
  Below w.heap.size w w' ∧ match r with
  | none => e = .returned (.tuple #[.slice none 0 0, .bool false])
  | some ls => ∃ A c, e = .returned (.tuple #[.slice A ls.length c, .bool true]) ∧ RdL w' A ls.length ls

theorem copies3_prs (es : List (Int × Int)) (i : Nat) (x y : Int) (h : es.getD i (0, 0) = (x, y)) : prs [(x, y), (x, y), (x, y)] ++ prs es = prs (copies3 es i) := by
  unfold copies3; rw [h, ← prs_app]; rfl
theorem zeros_row {w : World} {b : Nat} {t : TypeId} {n : Nat} (h : w.rowIs b t n (fun _ => .int .i64 0)) : Rd w 1 (some ⟨b, 0, none⟩) n (ints (zeros n)) := by
  have := rd_of_rowIs (f := fun _ => 0) h
  have e : (List.range n).map (fun _ => (0 : Int)) = zeros n := by
    apply List.ext_getElem <;> simp [zeros]
  rwa [e] at this

theorem rd_from {w : World} {ad : Addr} {n : Nat} {l : List Int} (h : Rd w 1 (some ad) (3 + n) (ints l)) (i : Nat) : Rd w 1 (some ⟨ad.block, ad.off + 3, none⟩) n (ints (l.drop 3)) := by
  have hl := h.int_len
  refine ⟨by simp [ints]; omega, fun hn => ⟨_, rfl, fun j u hu => ?_⟩⟩
  obtain ⟨ad', he, hc⟩ := h.2 (by omega)
  injection he with he
  subst he
  have := hc (3 + j) u (by rw [← hu]; simp [ints])
  rw [← this]
  congr 1
  unfold Addr.add
  by_cases hj : j = 0
  · subst hj; simp
  · simp [hj]; omega
theorem rd_upto {w : World} {ad : Addr} {n : Nat} {l : List Int} (h : Rd w 1 (some ad) (3 + n) (ints l)) (i : Nat) : Rd w 1 (some ad) 3 (ints (l.take 3)) := by
  have hl := h.int_len
  refine ⟨by simp [ints]; omega, fun hn => ⟨_, rfl, fun j u hu => ?_⟩⟩
  obtain ⟨ad', he, hc⟩ := h.2 (by omega)
  injection he with he
  subst he
  refine hc j u ?_
  simp [ints, List.getElem?_take] at hu ⊢
  exact hu.2

theorem certL {lt : List Int} {m : Nat} (h : lt.length = 3 + m) : (lt.drop 3 ++ lt.take 3).length = m + 3 := by simp; omega
theorem pushed {w w' : World} {base n c c' : Nat} {A A' : Option Addr} {ls : List (List Int)} {hs : List (Option Addr × Nat)} {B : Option Addr} {d q : Nat} {l1 l2 : List Int} (hq : (l1 ++ l2).length = q)
    (h1 : ls.length = n) (h2 : hs.length = n) (h4 : ∀ (i : Nat) (h : Option Addr × Nat) (l : List Int), hs[i]? = some h → ls[i]? = some l → Own w base 3 1 h.1 l.length h.2 (ints l))
    (hl : Own w base 3 1 B q d (ints l1 ++ ints l2)) (ho0 : ∃ xs, Own w base 30 1 A n c xs)
    (ho : Own w' base 30 1 A' (n + 1) c' (heads hs ls ++ [.slice B q d])) (hg : w.grownBy w' (blk A)) : OwnL w' base A' (n + 1) c' (ls ++ [l1 ++ l2]) := by
  subst hq
  rw [← ints_app] at hl
  exact OwnL.push h1 h2 h4 hl ho0 ho hg

set_option maxRecDepth 100000 in
set_option maxHeartbeats 4000000 in
theorem cert_any (n : Nat) (A : Option Addr) (m cm : Nat) (es : List (Int × Int)) (w : World) (hn : n ≤ 60) (hm : m ≤ 100) (he : Rd w 2 A m (prs es)) (hv : validB n es = true) :
    Calls Try.prog 19 #[.agg #[.int .i64 n, .slice A m cm]] w (CertPost w (certTo n es m)) := by
  have HE := Lib.hid he.prs_len
  have H1 := Lib.hid he
  have HV := Lib.hid hv
  clear he hv
  have hmk := run_make_row' (P := Try.prog) 30 3 (.int .i64 0) 8 Try.underlying30 info_int rfl .i64 .i64 n (by omega) (by omega)
  have INFO2 := Lib.hid info_pair
  have INFO1 := Lib.hid info_int'
  have INFO3 := Lib.hid info_ints
  go_enter Try.func19, Try.ntmps19
  go_wp2
  go_loopw [4, 5] (fun ov iv wr => Below (w.heap.size + 1) (w.alloc (.cells #[.int .i64 n, .slice A m cm] 24)) wr ∧ ∃ (k : Nat) (B : Option Addr) (c : Nat) (ls : List (List Int)), k ≤ m ∧ iv = .int .i64 k ∧ ov = .slice B k c ∧ certTo n es k = some ls ∧ OwnL wr (w.heap.size + 1) B k c ls)
    (fun _ iv _ => m - (intOf iv).toNat)
  case atStart => exact ⟨Below.refl _ _, 0, none, 0, [], by omega, rfl, rfl, rfl, OwnL.nil _ _⟩
  case round =>
    obtain ⟨hb, k, B, c, ls, hk, rfl, rfl, hct, hol⟩ := hrel
    have HB := Lib.hid hb
    have HCT := Lib.hid hct
    have HOL := Lib.hid hol
    have hsz : w.heap.size < wr.heap.size := by have := hb.size; simp at this; omega
    have g0 : wr.cell? ⟨w.heap.size, 0, none⟩ = some (.int .i64 n) := by rw [hb.cell (by simp)]; simp
    have g1 : wr.cell? ⟨w.heap.size, 1, none⟩ = some (.slice A m cm) := by rw [hb.cell (by simp)]; simp
    have K := Lib.hid ((Keeps.alloc w _).trans (Keeps.of_below hb (by simp)))
    clear hb hct hol
    by_cases hlt : k < m
    · obtain ⟨ad, rfl, c0, c1⟩ := (H1.out.keep K.out).prs_at hlt
      generalize hxy : es.getD k (0, 0) = xy at c0 c1
      obtain ⟨x, y⟩ := xy
      simp only at c0 c1
      have HXY := Lib.hid hxy
      clear hxy
      have hlts : m + 3 ≤ 1000 := by omega
      cases hfr : findR (copies3 es k) (zeros n) [] with
      | none =>
        have HFR := Lib.hid hfr
        clear hfr
        go_wp2_with (first
          | (at_builtin; refine wpList_app _ rfl (.tmp 26) (.tmp 28) 22 rfl (wr.heap.size + 1) 43 (.agg #[.int .i64 0, .int .i64 0]) 2 16 Try.underlying22 INFO2.out rfl (by decide) (some ⟨wr.heap.size + 1, 0, none⟩) 3 3 (prs [(x, y), (x, y), (x, y)]) rfl (own_lit_at (w := wr.alloc (.cells #[.int .i64 x, .int .i64 y] 43)) (by simp) _ 2 3 (prs [(x, y), (x, y), (x, y)]) (by simp [maxLen]) (by simp [prs_length])) (some ad) m cm (prs es) rfl (H1.out.keep ((K.out.trans (Keeps.alloc _ _)).trans (Keeps.alloc _ _))) (prs_one _) (by omega) (by unfold maxLen; omega) (by simp) ?_; intro A1 c1' w1 ho1 hg1 hb1; have HO1 := Lib.hid ho1; have B1 : Hid (Below wr.heap.size wr w1) := (((Below.refl _ _).alloc (Nat.le_refl _) _).alloc (by simp) _).grown hg1 (by simp; omega) (fun b hb => (by simp [blk] at hb; omega)); have g0w : w1.cell? ⟨w.heap.size, 0, none⟩ = some (.int .i64 n) := Keeps.of_below B1.out (Nat.le_refl _) _ _ g0; clear ho1 hg1 hb1)
          | (go_at_call 36; have hrd : Rd (w1.alloc (.cells (madeCells #[.int .i64 0] n) 3)) 2 A1 (3 + m) (prs (copies3 es k)) := (by rw [← copies3_prs es k x y HXY.out]; exact HO1.out.rd.keep (Keeps.alloc _ _)); refine (find_no n (3 + m) (copies3 es k) A1 c1' (by omega) hn (copies3_in HV.out (by rw [HE.out]; exact hlt)) (some ⟨w1.heap.size, 0, none⟩) n _ hrd (zeros_row (World.rowIs_made _ _ _ _)) HFR.out).mono ?_; rintro e w2 ⟨rfl, hb2⟩; have B2 : Hid (Below wr.heap.size wr w2) := (B1.out.alloc B1.out.size _).trans (hb2.mono (by have := B1.out.size; simp; omega)); clear hb2 hrd))
        go_ret2
        have e1 : certTo n es m = none := by
          have e2 : certTo n es (k + 1) = none := by unfold certTo certI; rw [HCT.out, HFR.out]; rfl
          have := certTo_none_mono e2 (m - (k + 1))
          rwa [show k + 1 + (m - (k + 1)) = m by omega] at this
        rw [e1]
        exact ⟨((Below.refl _ _).alloc (Nat.le_refl _) _).trans ((HB.out.trans (B2.out.mono (by have := HB.out.size; simp at this; omega))).mono (by omega)), rfl⟩
      | some lt =>
        have HFR := Lib.hid hfr
        clear hfr
        go_wp2_with (first
          | (at_builtin; refine wpList_app _ rfl (.tmp 26) (.tmp 28) 22 rfl (wr.heap.size + 1) 43 (.agg #[.int .i64 0, .int .i64 0]) 2 16 Try.underlying22 INFO2.out rfl (by decide) (some ⟨wr.heap.size + 1, 0, none⟩) 3 3 (prs [(x, y), (x, y), (x, y)]) rfl (own_lit_at (w := wr.alloc (.cells #[.int .i64 x, .int .i64 y] 43)) (by simp) _ 2 3 (prs [(x, y), (x, y), (x, y)]) (by simp [maxLen]) (by simp [prs_length])) (some ad) m cm (prs es) rfl (H1.out.keep ((K.out.trans (Keeps.alloc _ _)).trans (Keeps.alloc _ _))) (prs_one _) (by omega) (by unfold maxLen; omega) (by simp) ?_; intro A1 c1' w1 ho1 hg1 hb1; have HO1 := Lib.hid ho1; have B1 : Hid (Below wr.heap.size wr w1) := (((Below.refl _ _).alloc (Nat.le_refl _) _).alloc (by simp) _).grown hg1 (by simp; omega) (fun b hb => (by simp [blk] at hb; omega)); have g0w : w1.cell? ⟨w.heap.size, 0, none⟩ = some (.int .i64 n) := Keeps.of_below B1.out (Nat.le_refl _) _ _ g0; clear ho1 hg1 hb1)
          | (go_at_call 36; have hrd : Rd (w1.alloc (.cells (madeCells #[.int .i64 0] n) 3)) 2 A1 (3 + m) (prs (copies3 es k)) := (by rw [← copies3_prs es k x y HXY.out]; exact HO1.out.rd.keep (Keeps.alloc _ _)); refine (find_yes n (3 + m) (copies3 es k) A1 c1' (by omega) hn (copies3_in HV.out (by rw [HE.out]; exact hlt)) (some ⟨w1.heap.size, 0, none⟩) n _ lt hrd (zeros_row (World.rowIs_made _ _ _ _)) HFR.out (by omega)).mono ?_; rintro e w2 ⟨⟨AT, cT, rfl, hrt, hct⟩, hb2⟩; have HRT := Lib.hid hrt; have HCTT := Lib.hid hct; have B2 : Hid (Below wr.heap.size wr w2) := (B1.out.alloc B1.out.size _).trans (hb2.mono (by have := B1.out.size; simp; omega)); clear hb2 hrd hrt hct))
        have hcT := HCTT.out
        have hc3 : ¬ cT = 3 := by omega
        have h3c : (3:Int) ≤ (cT:Int) := by omega
        have h3m : (3:Int) ≤ 3 + (m:Int) := by omega
        have HCUT := Lib.hid (rd_from HRT.out 3)
        have HFST := Lib.hid (rd_upto HRT.out 3)
        obtain ⟨q1, hs, q2, q3, q4⟩ := HOL.out
        have Q3 := Lib.hid q3
        have Q4 := Lib.hid q4
        clear q3 q4
        have hlen := HRT.out.int_len
        have h24 : ∀ k, some w2.heap.size = some k → w2.heap.size ≤ k := fun k hk => by injection hk with hk; omega
        have hwr2 := B2.out.size
        have hc' := HB.out.size
        simp at hc'
        have LL := Lib.hid (certL hlen)
        clear hlen
        go_region_law (first
          | (refine step_app _ rfl (.tmp 40) (.tmp 48) 25 rfl (w.heap.size + 1) 30 (.slice none 0 0) 1 24 Try.underlying25 INFO3.out rfl (by decide) B k c (heads hs ls) (by simp [Act.eval, Act.put]) ((Q3.out.later B4.out).alloc _) (some ⟨w4.heap.size, 0, none⟩) 1 1 [.slice A4 (m + 3) c4] (by simp [Act.eval, Act.put]) (rd_new _ 1 1 [.slice A4 (m + 3) c4] _ (by simp)) head_one (by omega) (by unfold maxLen; omega) (by simp; omega) ?_; intro A5 c5 w5 ho5 hg5 hb5; have HO5 : Hid (OwnL w5 (w.heap.size + 1) A5 (k + 1) c5 (ls ++ [lt.drop 3 ++ lt.take 3])) := pushed LL.out q1 q2 (fun i h l a b => ((Q4.out i h l a b).later B4.out).alloc _) ((HO4.out.base_le (by omega)).alloc _) ⟨_, (Q3.out.later B4.out).alloc _⟩ ho5 hg5; have B5 : Hid (Below (w.heap.size + 1) (w.alloc (.cells #[.int .i64 n, .slice (some ad) m cm] 24)) w5) := HB.out.trans (((B4.out.mono hc').alloc (by omega) _).grown hg5 (by simp; omega) (fun k hk => (Q3.out.lt hk).1)); clear ho5 hg5 hb5)
          | (refine step_app _ rfl (.tmp 44) (.tmp 46) 30 rfl w2.heap.size 3 (.int .i64 0) 1 8 Try.underlying30 INFO1.out rfl (by decide) A3 m c3 (ints (lt.drop 3)) (by simp [Act.eval, Act.put]) HO3.out (some AT) 3 cT (ints (lt.take 3)) (by simp [Act.eval, Act.put]) (HFST.out.keep (Keeps.of_below B3.out (Nat.le_refl _))) (ints_one _) (by omega) (by unfold maxLen; omega) B3.out.size ?_; intro A4 c4 w4 ho4 hg4 hb4; have HO4 := Lib.hid ho4; have B4 : Hid (Below wr.heap.size wr w4) := B2.out.trans ((B3.out.grown hg4 B3.out.size (fun k hk => (HO3.out.lt hk).1)).mono hwr2); have hwr4 := B4.out.size; clear ho4 hg4 hb4)
          | (refine step_app _ rfl (.tmp 41) (.tmp 43) 30 rfl w2.heap.size 3 (.int .i64 0) 1 8 Try.underlying30 INFO1.out rfl (by decide) (some ⟨w2.heap.size, 0, none⟩) 0 0 [] (by simp [Act.eval, Act.put]) (own_empty_at (by simp) _ _) (some ⟨AT.block, AT.off + 3, none⟩) m (cT - 3) (ints (lt.drop 3)) (by simp [Act.eval, Act.put]) (HCUT.out.keep (Keeps.alloc _ _)) (ints_one _) (by omega) (by unfold maxLen; omega) (by simp) ?_; intro A3 c3 w3 ho3 hg3 hb3; simp only [Nat.zero_add, List.nil_append] at ho3; have HO3 := Lib.hid ho3; have B3 : Hid (Below w2.heap.size w2 w3) := (by first | exact ((Below.refl _ w2).alloc (Nat.le_refl _) _).grown hg3 (by simp) h24 | exact ((Below.refl _ w2).alloc (Nat.le_refl _) _).drew.grown hg3 (by simp) h24 | exact ((Below.refl _ w2).drew.alloc (Nat.le_refl _) _).grown hg3 (by simp) h24); clear ho3 hg3 hb3))
        go_wp2
        go_roundw
        case rel =>
          refine ⟨B5.out, k + 1, A5, c5, _, by omega, rfl, rfl, ?_, HO5.out⟩
          unfold certTo certI
          rw [HCT.out, HFR.out]
          rfl
        case measure => simp [intOf]; omega
    · obtain rfl : k = m := by omega
      go_wp2
      go_ret2
      rw [HCT.out]
      exact ⟨((Below.refl _ _).alloc (Nat.le_refl _) _).trans (HB.out.mono (by omega)), B, c, by rw [HOL.out.1]; rfl, by rw [HOL.out.1]; exact HOL.out.rd⟩
end Go.Proofs.Ytohmafmdpajmlaa
