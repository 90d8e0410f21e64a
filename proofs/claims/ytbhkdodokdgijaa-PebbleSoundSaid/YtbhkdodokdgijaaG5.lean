/-
  Induced of the reference; edge, Degree and Induced of the graph layer.
-/
import Derived.Test.YtbhkdodokdgijaaG4
import Derived.Test.YtbhkdodokdgijaaSpecD
namespace Go.Proofs.Ytbhkdodokdgijaa
set_option linter.unusedVariables false
set_option linter.unusedSimpArgs false
open Go.RowKit Go.Sort

def PrsPost (w : World) (l : List (Int × Int)) (e : Ending) (w' : World) : Prop :=
  Below w.heap.size w w' ∧ ∃ B c, e = .returned (.slice B l.length c) ∧ Own w' w.heap.size 45 2 B l.length c (prs l)
/-- The edges between points, of the first k. -/
def indK (v : Bool) (es : List (Int × Int)) (ps : List Int) (k : Nat) : List (Int × Int) := if v = true then (es.take k).filter (inB ps) else []
def indE (N : Int) (es : List (Int × Int)) (ps : List Int) : List (Int × Int) := indK (validB N es) es ps es.length
theorem indK_len (v : Bool) (es : List (Int × Int)) (ps : List Int) (k : Nat) : (indK v es ps k).length ≤ k := by
  unfold indK
  split
  · exact Nat.le_trans (List.length_filter_le _ _) (List.length_take_le _ _)
  · simp
theorem indK_step {es : List (Int × Int)} {ps : List Int} {k : Nat} (hk : k < es.length) {x y : Int} (hxy : es.getD k (0, 0) = (x, y)) : indK true es ps (k + 1) = indK true es ps k ++ if (decide (x ∈ ps) && decide (y ∈ ps)) = true then [(x, y)] else [] := by
  unfold indK
  rw [if_pos rfl, if_pos rfl, List.take_succ_eq_append_getElem hk, List.filter_append]
  rw [List.getD_eq_getElem?_getD, List.getElem?_eq_getElem hk] at hxy
  simp only [Option.getD_some] at hxy
  rw [hxy]
  congr 1
  unfold inB
  simp only [List.filter_cons, List.filter_nil]
theorem ret_slice {B : Option Addr} {n m c : Nat} (h : n = m) : Ending.returned (.slice B n c) = .returned (.slice B m c) := by rw [h]
theorem own_ap1 {w : World} {base n c : Nat} {A : Option Addr} {xs : List Value} (h : Own w base 45 2 A n c xs) (o : Obj) : Own (w.alloc o) base 45 2 A n c xs := h.alloc o

set_option maxRecDepth 100000 in
set_option maxHeartbeats 4000000 in
theorem rind_any (N : Int) (A P : Option Addr) (n c m d : Nat) (es : List (Int × Int)) (ps : List Int) (w : World) (hn : n ≤ 1000) (hm : m ≤ 4611686018427387904) (he : Rd w 2 A n (prs es)) (hp : Rd w 1 P m (ints ps)) :
    Calls Try.prog 41 #[.agg #[.int .i64 N, .slice A n c], .slice P m d] w (PrsPost w (indE N es ps)) := by
  have HE := Lib.hid he.prs_len
  have H1 := Lib.hid (he.keep (Keeps.alloc w (.cells #[.int .i64 N, .slice A n c] 24)))
  have H2 := Lib.hid (hp.keep (Keeps.alloc w (.cells #[.int .i64 N, .slice A n c] 24)))
  clear he hp
  generalize hv : validB N es = v
  have HV := Lib.hid hv
  clear hv
  go_enter Try.func41, Try.ntmps41
  go_wp2
  go_loopw [5, 6] (fun o i wr => Below (w.heap.size + 1) (w.alloc (.cells #[.int .i64 N, .slice A n c] 24)) wr ∧ ∃ k : Nat, k ≤ n ∧ i = .int .i64 k ∧ ∃ B cB, o = .slice B (indK v es ps k).length cB ∧ Own wr (w.heap.size + 1) 45 2 B (indK v es ps k).length cB (prs (indK v es ps k))) (fun _ i _ => n - (intOf i).toNat)
  case atStart => exact ⟨Below.refl _ _, 0, Nat.zero_le _, rfl, none, 0, by cases v <;> rfl, by cases v <;> exact Own.nil _ _ _ _⟩
  case round =>
    obtain ⟨hb, k, hk, rfl, B, cB, rfl, ho⟩ := hrel
    have g0 : wr.cell? ⟨w.heap.size, 0, none⟩ = some (.int .i64 N) := by rw [hb.cell (by simp)]; simp
    have g1 : wr.cell? ⟨w.heap.size, 1, none⟩ = some (.slice A n c) := by rw [hb.cell (by simp)]; simp
    have gs : w.heap.size < wr.heap.size := by have := hb.size; simp at this; omega
    have HB := Lib.hid hb
    have RD := Lib.hid (H1.out.keep (Keeps.of_below hb (by simp)))
    have RP := Lib.hid (H2.out.keep (Keeps.of_below hb (by simp)))
    have OWN := Lib.hid ho
    clear hb ho
    have hfin : Hid (Below w.heap.size w wr) := ((Below.refl _ _).alloc (Nat.le_refl _) _).trans (HB.out.mono (by omega))
    have hq := indK_len v es ps k
    generalize hL : (indK v es ps k).length = q at OWN hq ⊢
    have HL := Lib.hid hL
    clear hL
    by_cases hlt : k < n
    · have HST : Hid (∀ x y : Int, es.getD k (0, 0) = (x, y) → indK true es ps (k + 1) = indK true es ps k ++ if (decide (x ∈ ps) && decide (y ∈ ps)) = true then [(x, y)] else []) := fun x y h => indK_step (by rw [HE.out]; exact hlt) h
      obtain ⟨ad, rfl, c0, c1⟩ := RD.out.prs_at hlt
      generalize hxy : es.getD k (0, 0) = xy at c0 c1
      obtain ⟨x, y⟩ := xy
      simp only at c0 c1
      have HXY := Lib.hid hxy
      clear hxy
      cases v
      · go_wp2_with (go_at_call 12; refine (rvalid_b (b := false) N _ n c es _ (by omega) RD.out HV.out).mono ?_; rintro e w1 ⟨rfl, hb1⟩)
        go_roundw
        case rel => exact ⟨HB.out.trans (hb1.mono (by omega)), k + 1, by omega, by go_num, B, cB, by rw [← HL.out]; rfl, by have := OWN.out.later hb1; rw [← HL.out] at this; exact this⟩
        case measure => simp [intOf]; omega
      · cases h1 : decide (x ∈ ps)
        · have D1 := Lib.hid h1
          clear h1
          go_wp2_with (first
            | (go_at_call 12; refine (rvalid_b (b := true) N _ n c es _ (by omega) RD.out HV.out).mono ?_; rintro e w1 ⟨rfl, hb1⟩; have c0' := Keeps.of_below hb1 (Nat.le_refl _) _ _ c0; have c1' := Keeps.of_below hb1 (Nat.le_refl _) _ _ c1; have g0' := Keeps.of_below hb1 (Nat.le_refl _) _ _ g0; have g1' := Keeps.of_below hb1 (Nat.le_refl _) _ _ g1; have RP1 := Lib.hid (RP.out.keep (Keeps.of_below hb1 (Nat.le_refl _))); have HB1 := Lib.hid hb1; clear hb1)
            | (go_at_call 53; refine (in_b (b := false) P m d ps x _ hm RP1.out D1.out).mono ?_; rintro e w2 ⟨rfl, rfl⟩))
          go_roundw
          case rel => exact ⟨HB.out.trans (HB1.out.mono (by omega)), k + 1, by omega, by go_num, B, cB, by rw [HST.out x y HXY.out, D1.out, ← HL.out, Bool.false_and, if_neg (by simp), List.append_nil], by have := OWN.out.later HB1.out; rw [← HL.out] at this; rw [HST.out x y HXY.out, D1.out, Bool.false_and, if_neg (by simp), List.append_nil]; exact this⟩
          case measure => simp [intOf]; omega
        · have D1 := Lib.hid h1
          clear h1
          cases h2 : decide (y ∈ ps)
          · have D2 := Lib.hid h2
            clear h2
            go_wp2_with (first
              | (go_at_call 12; refine (rvalid_b (b := true) N _ n c es _ (by omega) RD.out HV.out).mono ?_; rintro e w1 ⟨rfl, hb1⟩; have c0' := Keeps.of_below hb1 (Nat.le_refl _) _ _ c0; have c1' := Keeps.of_below hb1 (Nat.le_refl _) _ _ c1; have g0' := Keeps.of_below hb1 (Nat.le_refl _) _ _ g0; have g1' := Keeps.of_below hb1 (Nat.le_refl _) _ _ g1; have RP1 := Lib.hid (RP.out.keep (Keeps.of_below hb1 (Nat.le_refl _))); have HB1 := Lib.hid hb1; clear hb1)
              | (go_at_call 53; (with_reducible refine (in_b (b := true) P m d ps x _ hm RP1.out D1.out).mono ?_); rintro e w2 ⟨rfl, rfl⟩)
              | (go_at_call 53; (with_reducible refine (in_b (b := false) P m d ps y _ hm RP1.out D2.out).mono ?_); rintro e w2 ⟨rfl, rfl⟩))
            go_roundw
            case rel => exact ⟨HB.out.trans (HB1.out.mono (by omega)), k + 1, by omega, by go_num, B, cB, by rw [HST.out x y HXY.out, D2.out, ← HL.out, Bool.and_false, if_neg (by simp), List.append_nil], by have := OWN.out.later HB1.out; rw [← HL.out] at this; rw [HST.out x y HXY.out, D2.out, Bool.and_false, if_neg (by simp), List.append_nil]; exact this⟩
            case measure => simp [intOf]; omega
          · have D2 := Lib.hid h2
            clear h2
            go_wp2_with (first
              | (go_at_call 12; refine (rvalid_b (b := true) N _ n c es _ (by omega) RD.out HV.out).mono ?_; rintro e w1 ⟨rfl, hb1⟩; have c0' := Keeps.of_below hb1 (Nat.le_refl _) _ _ c0; have c1' := Keeps.of_below hb1 (Nat.le_refl _) _ _ c1; have g0' := Keeps.of_below hb1 (Nat.le_refl _) _ _ g0; have g1' := Keeps.of_below hb1 (Nat.le_refl _) _ _ g1; have hs1 := hb1.size; have RP1 := Lib.hid (RP.out.keep (Keeps.of_below hb1 (Nat.le_refl _))); have OWN1 := Lib.hid (OWN.out.later hb1); have HB1 := Lib.hid hb1; clear hb1)
              | (go_at_call 53; (with_reducible refine (in_b (b := true) P m d ps x _ hm RP1.out D1.out).mono ?_); rintro e w2 ⟨rfl, rfl⟩)
              | (go_at_call 53; (with_reducible refine (in_b (b := true) P m d ps y _ hm RP1.out D2.out).mono ?_); rintro e w2 ⟨rfl, rfl⟩)
              | (at_builtin; refine wpList_app _ rfl (.tmp 36) (.tmp 42) 22 rfl (w.heap.size + 1) 45 (.agg #[.int .i64 0, .int .i64 0]) 2 16 Try.underlying22 info_pair rfl (by decide) B q cB (prs (indK true es ps k)) rfl (OWN1.out.alloc _) (some ⟨w1.heap.size, 0, none⟩) 1 1 (prs [(x, y)]) rfl (rd_lit2_at rfl [(x, y)] _) (prs_one _) (by omega) (by unfold maxLen; omega) (by simp; omega) ?_; intro B4 c4 w4 ho4 hg4 hb4; have OWN4 := Lib.hid ho4; have S3 : Hid (Below (w.heap.size + 1) w1 w4) := (((Below.refl _ _).alloc (by omega) _).grown hg4 (by simp; omega) (fun b hb => (OWN1.out.lt hb).1)); clear ho4 hg4 hb4))
            go_roundw
            case rel => exact ⟨(HB.out.trans (HB1.out.mono (by omega))).trans S3.out, k + 1, by omega, by go_num, B4, c4, by rw [HST.out x y HXY.out, D1.out, D2.out, Bool.and_self, if_pos rfl, List.length_append, HL.out]; rfl, by rw [HST.out x y HXY.out, D1.out, D2.out, Bool.and_self, if_pos rfl, List.length_append, HL.out, prs_app]; exact OWN4.out⟩
            case measure => simp [intOf]; omega
    · obtain rfl : k = n := by omega
      go_wp2
      go_ret
      have e1 : indE N es ps = indK v es ps k := by unfold indE; rw [HV.out, HE.out]
      refine ⟨hfin.out, B, cB, ret_slice (by rw [e1, HL.out]), ?_⟩
      rw [e1, HL.out]; exact OWN.out.base_le (by omega)

def edgeI (e : Int × Int) : Int × Int := (min e.1 e.2, max e.1 e.2)
set_option maxHeartbeats 400000 in
theorem edge_any (a b : Int) (w : World) :
    Calls Try.prog 44 #[.int .i64 a, .int .i64 b] w fun e w' => e = .returned (.agg #[.int .i64 (edgeI (a, b)).1, .int .i64 (edgeI (a, b)).2]) ∧ Below w.heap.size w w' := by
  have key : ∀ x y : Int, x = min a b → y = max a b → Ending.returned (.agg #[.int .i64 x, .int .i64 y]) = .returned (.agg #[.int .i64 (edgeI (a, b)).1, .int .i64 (edgeI (a, b)).2]) := fun x y h1 h2 => by rw [h1, h2]; rfl
  have KEY := Lib.hid key
  clear key
  by_cases h1 : a < b
  · have h2 : ¬ b < a := by omega
    go_enter Try.func44, Try.ntmps44
    go_wp2
    all_goals refine bodyPost_ret (v := .agg #[.int .i64 a, .int .i64 b]) (by simp [results, Try.results44, go_sem]) rfl ⟨KEY.out _ _ (by omega) (by omega), ?_⟩
    all_goals exact (Below.refl _ _).alloc (Nat.le_refl _) _
  by_cases h2 : b < a
  · go_enter Try.func44, Try.ntmps44
    go_wp2
    all_goals refine bodyPost_ret (v := .agg #[.int .i64 b, .int .i64 a]) (by simp [results, Try.results44, go_sem]) rfl ⟨KEY.out _ _ (by omega) (by omega), ?_⟩
    all_goals exact (Below.refl _ _).alloc (Nat.le_refl _) _
  · obtain rfl : a = b := by omega
    go_enter Try.func44, Try.ntmps44
    go_wp2
    all_goals refine bodyPost_ret (v := .agg #[.int .i64 a, .int .i64 a]) (by simp [results, Try.results44, go_sem]) rfl ⟨KEY.out _ _ (by omega) (by omega), ?_⟩
    all_goals exact (Below.refl _ _).alloc (Nat.le_refl _) _

end Go.Proofs.Ytbhkdodokdgijaa
