/-
  Henneberg of the reference: where it makes a graph.
-/
import Derived.Test.YtfkpcmklpcnebaaG13
namespace Go.Proofs.Ytfkpcmklpcnebaa
set_option linter.unusedVariables false
set_option linter.unusedSimpArgs false
open Go.RowKit Go.Sort
attribute [local go_sem ↓] Go.wp_at_zero Go.wp_at_succ

def hS (N a b s : Int) : List (Int × Int) := [(a, N), (b, N)] ++ if 0 ≤ s then [(s, N)] else []
def hK (N : Int) (es : List (Int × Int)) (a b s : Int) (k : Nat) : List (Int × Int) := hS N a b s ++ (es.take k).filter (keepH a b s)
theorem hK_end (N : Int) (es : List (Int × Int)) (a b s : Int) : hK N es a b s es.length = hennL N es a b s := by unfold hK hS hennL; rw [List.take_length]
theorem hK_len (N : Int) (es : List (Int × Int)) (a b s : Int) (k : Nat) : (hK N es a b s k).length ≤ k + 3 := by
  have := keepH_len es a b s k
  unfold hK hS
  rw [List.length_append, List.length_append]
  split <;> simp <;> omega
theorem hK_step {N : Int} {es : List (Int × Int)} {a b s : Int} {k : Nat} (hk : k < es.length) {x y : Int} (hxy : es.getD k (0, 0) = (x, y)) : hK N es a b s (k + 1) = hK N es a b s k ++ if keepH a b s (x, y) = true then [(x, y)] else [] := by
  unfold hK
  rw [keepH_step hk hxy, List.append_assoc]

set_option maxRecDepth 100000 in
set_option maxHeartbeats 16000000 in
theorem rhenn_neg (N : Int) (A : Option Addr) (n c : Nat) (es : List (Int × Int)) (a b s : Int) (w : World) (hn : n ≤ 900) (he : Rd w 2 A n (prs es)) (hok : hennBad1 N es a b = false) (hok2 : hennBad2 N es a b s = false) (h60 : ¬ N = 60) (hs : s < 0) :
    Calls Try.prog 21 #[.agg #[.int .i64 N, .slice A n c], .int .i64 a, .int .i64 b, .int .i64 s] w (HPost w N (hennE N es a b s)) := by
  have HE := Lib.hid he.prs_len
  have H0 := Lib.hid he
  have H1 := Lib.hid (he.keep ((Keeps.alloc w (.cells #[.int .i64 N, .slice A n c] 24)).trans (Keeps.alloc _ (.cells #[.int .i64 0, .slice none 0 0] 24))))
  clear he
  have hN0 := (validB_iff N es).1 (not_bad1 hok).1
  obtain ⟨hNa, hNb, -⟩ := hN0
  have MK := Lib.hid (henn_mk hok hok2 h60)
  have HOK := Lib.hid (henn_ok hok hok2 h60)
  obtain ⟨hv, hA, hB, hab⟩ := not_bad1 hok
  have h60' : (N == 60) = false := by simpa using h60
  have HV := Lib.hid hv
  have HA := Lib.hid hA
  have HBb := Lib.hid hB
  clear hv hA hB
  clear hok hok2 h60
  go_enter Try.func21, Try.ntmps21
  go_wp2_with (first
    | (go_at_call 13; refine (rvalid_b (b := true) N _ n c es _ (by omega) H1.out HV.out).mono ?_; rintro e w1 ⟨rfl, hb1⟩; have F1 : Hid (HF w N A n c w1) := Lib.hid ((HF.start w N A n c).next hb1); obtain ⟨hz1, p0, p1, r0, r1, f0, f1⟩ := F1.out.facts; have R1 := Lib.hid (H0.out.keep (Keeps.of_below F1.out.below (Nat.le_refl _))); clear hb1)
    | (go_at_call 43; (with_reducible refine (point_b (r := true) N A n c a _ HA.out).mono ?_); rintro e w2 ⟨rfl, hb2⟩; have F2 : Hid (HF w N A n c w2) := Lib.hid (F1.out.next hb2); obtain ⟨hz2, p0, p1, r0, r1, f0, f1⟩ := F2.out.facts; clear hb2)
    | (go_at_call 43; (with_reducible refine (point_b (r := true) N A n c b _ HBb.out).mono ?_); rintro e w3 ⟨rfl, hb3⟩; have F3 : Hid (HF w N A n c w3) := Lib.hid (F2.out.next hb3); obtain ⟨hz3, p0, p1, r0, r1, f0, f1⟩ := F3.out.facts; clear hb3; have p0L : (w3.alloc (.cells #[.int .i64 a, .int .i64 N, .int .i64 b, .int .i64 N] 36)).cell? ⟨w.heap.size, 0, none⟩ = some (.int .i64 N) := (by rw [World.cell?_alloc_lt _ _ _ (by simp; omega)]; exact p0); have p1L : (w3.alloc (.cells #[.int .i64 a, .int .i64 N, .int .i64 b, .int .i64 N] 36)).cell? ⟨w.heap.size, 1, none⟩ = some (.slice A n c) := (by rw [World.cell?_alloc_lt _ _ _ (by simp; omega)]; exact p1); have OL : Hid (Own (w3.alloc (.cells #[.int .i64 a, .int .i64 N, .int .i64 b, .int .i64 N] 36)) (w.heap.size + 2) 36 2 (some ⟨w3.heap.size, 0, none⟩) 2 2 (prs [(a, N), (b, N)])) := Lib.hid ((own_lit_at rfl 36 2 2 (prs [(a, N), (b, N)]) (by unfold maxLen; omega) (by rw [prs_length]; rfl)).base_le (by omega)))
    | fail)
  go_loopw [10, 11] (fun o i wr => HF w N A n c wr ∧ ∃ k : Nat, k ≤ n ∧ i = .int .i64 k ∧ ∃ B cB, o = .slice B (hK N es a b s k).length cB ∧ Own wr (w.heap.size + 2) 36 2 B (hK N es a b s k).length cB (prs (hK N es a b s k))) (fun _ i _ => n - (intOf i).toNat)
  case atStart =>
    have e1 : hK N es a b s 0 = [(a, N), (b, N)] := by unfold hK hS; rw [if_neg (by omega)]; simp
    refine ⟨F3.out.next2 ((Below.refl _ _).alloc (by omega) _), 0, Nat.zero_le _, rfl, _, _, by rw [e1]; rfl, ?_⟩
    rw [e1]; exact OL.out
  case round =>
    obtain ⟨hf, k, hk, rfl, B, cB, rfl, ho⟩ := hrel
    obtain ⟨hzr, p0, p1, r0, r1, f0, f1⟩ := hf.facts
    have FR := Lib.hid hf
    have OWN := Lib.hid ho
    have RD := Lib.hid (H0.out.keep (Keeps.of_below hf.below (Nat.le_refl _)))
    have hqq := hK_len N es a b s k
    generalize hQ : (hK N es a b s k).length = q at OWN hqq ⊢
    generalize hL : hK N es a b s k = L at OWN hQ
    have HL := Lib.hid hL
    have HQ := Lib.hid hQ
    clear hf ho hL hQ
    by_cases hlt : k < n
    · have HST : Hid (∀ x y : Int, es.getD k (0, 0) = (x, y) → hK N es a b s (k + 1) = L ++ if keepH a b s (x, y) = true then [(x, y)] else []) := fun x y h => by rw [← HL.out]; exact hK_step (by rw [HE.out]; exact hlt) h
      obtain ⟨ad, rfl, c0, c1⟩ := RD.out.prs_at hlt
      generalize hxy : es.getD k (0, 0) = xy at c0 c1
      obtain ⟨x, y⟩ := xy
      simp only at c0 c1
      have HXY := Lib.hid hxy
      clear hxy
      have hki0 : (0 : Int) ≤ (k : Int) := by omega
      have hki1 : (k : Int) < (n : Int) := by omega
      have KEEP : Hid (keepH a b s (x, y) = true) := by unfold Hid keepH; rw [decide_eq_true hs]; rfl
      go_wp2
      refine wp_region_q (by kernel_rfl) (by kernel_rfl) ?_
      repeat (go_big_quiet_step (fail))
      refine wpQuiet_nil ?_
      intro wq hgq
      have FQ := Lib.hid (FR.out.next hgq)
      have OQ := Lib.hid (OWN.out.later hgq)
      have hzq := hgq.size
      obtain ⟨hzr', p0, p1, r0, r1, f0, f1⟩ := FQ.out.facts
      have c0 := Keeps.of_below hgq (Nat.le_refl _) _ _ c0
      have c1 := Keeps.of_below hgq (Nat.le_refl _) _ _ c1
      clear hgq
      go_wp2_with (at_builtin; refine wpList_app _ rfl (.tmp 110) (.tmp 116) 22 rfl (w.heap.size + 2) 36 (.agg #[.int .i64 0, .int .i64 0]) 2 16 Try.underlying22 info_pair rfl (by decide) B q cB (prs L) rfl (OQ.out.alloc _) (some ⟨wq.heap.size, 0, none⟩) 1 1 (prs [(x, y)]) rfl (rd_lit2_at rfl [(x, y)] _) (prs_one _) (by omega) (by unfold maxLen; omega) (by simp; omega) ?_; intro B4 c4 w6 ho4 hg4 hb4; have O6 := Lib.hid ho4; have F6 : Hid (HF w N _ n c w6) := Lib.hid (FQ.out.next2 ((((Below.refl _ _).alloc (by omega) _)).grown hg4 (by simp; omega) (fun b hb => (OQ.out.lt hb).1))); clear ho4 hg4 hb4)
      go_roundw
      case rel => exact ⟨F6.out, k + 1, by omega, by go_num, B4, c4, by rw [HST.out x y HXY.out, KEEP.out, if_pos rfl, List.length_append, HQ.out]; rfl, by rw [HST.out x y HXY.out, KEEP.out, if_pos rfl, List.length_append, HQ.out, prs_app]; exact O6.out⟩
      case measure => simp [intOf]; omega
    · obtain rfl : k = n := by omega
      have hLE : L = hennL N es a b s := by rw [← HL.out, ← HE.out]; exact hK_end N es a b s
      have HLE := Lib.hid hLE
      clear hLE
      go_wp2_with (go_at_call 15; refine (rmake_any (N + 1) B q cB L _ (by omega) OWN.out.rd).mono ?_; rintro e w8 hpost; rw [HLE.out, MK.out] at hpost; obtain ⟨hb8, B8, c8, rfl, ho8⟩ := hpost; have F8 : Hid (HF w N A k c w8) := Lib.hid (FR.out.next hb8); obtain ⟨hz8, p0, p1, r0, r1, f0, f1⟩ := F8.out.facts; have O8 := Lib.hid ho8; clear hb8 ho8)
      rw [HOK.out]
      refine bodyPost_ret (v := .tuple #[.agg #[.int .i64 (N + 1), .slice B8 (mkL (N + 1).toNat (hennL N es a b s)).length c8], .int .i64 0]) (by simp [results, Try.results21, go_sem, r0, r1]) rfl ⟨(F8.out.below.setCell (by simp) _).setCell (by simp) _, .inr ⟨rfl, B8, c8, rfl, ?_⟩⟩
      exact ((O8.out.setOther (by simp; omega) _).setOther (by simp; omega) _).rd
set_option maxRecDepth 100000 in
set_option maxHeartbeats 16000000 in
theorem rhenn_pos (N : Int) (A : Option Addr) (n c : Nat) (es : List (Int × Int)) (a b s : Int) (w : World) (hn : n ≤ 900) (he : Rd w 2 A n (prs es)) (hok : hennBad1 N es a b = false) (hok2 : hennBad2 N es a b s = false) (h60 : ¬ N = 60) (hs : 0 ≤ s) :
    Calls Try.prog 21 #[.agg #[.int .i64 N, .slice A n c], .int .i64 a, .int .i64 b, .int .i64 s] w (HPost w N (hennE N es a b s)) := by
  have HE := Lib.hid he.prs_len
  have H0 := Lib.hid he
  have H1 := Lib.hid (he.keep ((Keeps.alloc w (.cells #[.int .i64 N, .slice A n c] 24)).trans (Keeps.alloc _ (.cells #[.int .i64 0, .slice none 0 0] 24))))
  clear he
  have hN0 := (validB_iff N es).1 (not_bad1 hok).1
  obtain ⟨hNa, hNb, -⟩ := hN0
  have MK := Lib.hid (henn_mk hok hok2 h60)
  have HOK := Lib.hid (henn_ok hok hok2 h60)
  obtain ⟨hv, hA, hB, hab⟩ := not_bad1 hok
  have h60' : (N == 60) = false := by simpa using h60
  unfold hennBad2 at hok2
  rw [decide_eq_true hs, Bool.true_and] at hok2
  simp only [Bool.or_eq_false_iff, Bool.not_eq_false'] at hok2
  obtain ⟨⟨⟨hS', hsa⟩, hsb⟩, hH⟩ := hok2
  have HV := Lib.hid hv
  have HA := Lib.hid hA
  have HBb := Lib.hid hB
  have HS := Lib.hid hS'
  have HH := Lib.hid hH
  clear hv hA hB hS' hH
  clear hok h60
  go_enter Try.func21, Try.ntmps21
  go_wp2_with (first
    | (go_at_call 13; refine (rvalid_b (b := true) N _ n c es _ (by omega) H1.out HV.out).mono ?_; rintro e w1 ⟨rfl, hb1⟩; have F1 : Hid (HF w N A n c w1) := Lib.hid ((HF.start w N A n c).next hb1); obtain ⟨hz1, p0, p1, r0, r1, f0, f1⟩ := F1.out.facts; have R1 := Lib.hid (H0.out.keep (Keeps.of_below F1.out.below (Nat.le_refl _))); clear hb1)
    | (go_at_call 43; (with_reducible refine (point_b (r := true) N A n c a _ HA.out).mono ?_); rintro e w2 ⟨rfl, hb2⟩; have F2 : Hid (HF w N A n c w2) := Lib.hid (F1.out.next hb2); obtain ⟨hz2, p0, p1, r0, r1, f0, f1⟩ := F2.out.facts; clear hb2)
    | (go_at_call 43; (with_reducible refine (point_b (r := true) N A n c b _ HBb.out).mono ?_); rintro e w3 ⟨rfl, hb3⟩; have F3 : Hid (HF w N A n c w3) := Lib.hid (F2.out.next hb3); obtain ⟨hz3, p0, p1, r0, r1, f0, f1⟩ := F3.out.facts; clear hb3; have p0L : (w3.alloc (.cells #[.int .i64 a, .int .i64 N, .int .i64 b, .int .i64 N] 36)).cell? ⟨w.heap.size, 0, none⟩ = some (.int .i64 N) := (by rw [World.cell?_alloc_lt _ _ _ (by simp; omega)]; exact p0); have p1L : (w3.alloc (.cells #[.int .i64 a, .int .i64 N, .int .i64 b, .int .i64 N] 36)).cell? ⟨w.heap.size, 1, none⟩ = some (.slice A n c) := (by rw [World.cell?_alloc_lt _ _ _ (by simp; omega)]; exact p1); have OL : Hid (Own (w3.alloc (.cells #[.int .i64 a, .int .i64 N, .int .i64 b, .int .i64 N] 36)) (w.heap.size + 2) 36 2 (some ⟨w3.heap.size, 0, none⟩) 2 2 (prs [(a, N), (b, N)])) := Lib.hid ((own_lit_at rfl 36 2 2 (prs [(a, N), (b, N)]) (by unfold maxLen; omega) (by rw [prs_length]; rfl)).base_le (by omega)))
    | (go_at_call 43; (with_reducible refine (point_b (r := true) N A n c s _ HS.out).mono ?_); rintro e w4 ⟨rfl, hb4⟩; have F4 : Hid (HF w N A n c w4) := Lib.hid (F3.out.next hb4); obtain ⟨hz4, p0, p1, r0, r1, f0, f1⟩ := F4.out.facts; clear hb4)
    | (go_at_call 24; (with_reducible refine (rhas_b (r := true) N A n c es a b _ (by omega) (H0.out.keep (Keeps.of_below F4.out.below (Nat.le_refl _))) HH.out).mono ?_); rintro e w5 ⟨rfl, hb5⟩; have F5 : Hid (HF w N A n c w5) := Lib.hid (F4.out.next hb5); obtain ⟨hz5, p0, p1, r0, r1, f0, f1⟩ := F5.out.facts; clear hb5; have p0L : (w5.alloc (.cells #[.int .i64 a, .int .i64 N, .int .i64 b, .int .i64 N] 36)).cell? ⟨w.heap.size, 0, none⟩ = some (.int .i64 N) := (by rw [World.cell?_alloc_lt _ _ _ (by simp; omega)]; exact p0); have p1L : (w5.alloc (.cells #[.int .i64 a, .int .i64 N, .int .i64 b, .int .i64 N] 36)).cell? ⟨w.heap.size, 1, none⟩ = some (.slice A n c) := (by rw [World.cell?_alloc_lt _ _ _ (by simp; omega)]; exact p1); have OL : Hid (Own (w5.alloc (.cells #[.int .i64 a, .int .i64 N, .int .i64 b, .int .i64 N] 36)) (w.heap.size + 2) 36 2 (some ⟨w5.heap.size, 0, none⟩) 2 2 (prs [(a, N), (b, N)])) := Lib.hid ((own_lit_at rfl 36 2 2 (prs [(a, N), (b, N)]) (by unfold maxLen; omega) (by rw [prs_length]; rfl)).base_le (by omega)))
    | (at_builtin; refine wpList_app _ rfl (.tmp 74) (.tmp 79) 22 rfl (w.heap.size + 2) 36 (.agg #[.int .i64 0, .int .i64 0]) 2 16 Try.underlying22 info_pair rfl (by decide) (some ⟨w5.heap.size, 0, none⟩) 2 2 (prs [(a, N), (b, N)]) rfl (OL.out.alloc _) (some ⟨w5.heap.size + 1, 0, none⟩) 1 1 (prs [(s, N)]) rfl (rd_lit2_at (by simp) [(s, N)] _) (prs_one _) (by omega) (by unfold maxLen; omega) (by simp; omega) ?_; intro B4 c4 w6 ho4 hg4 hb4; have O6 := Lib.hid ho4; have F6 : Hid (HF w N A n c w6) := Lib.hid (F5.out.next2 ((((Below.refl _ _).alloc (by omega) _).alloc (by simp; omega) _).grown hg4 (by simp; omega) (fun b hb => (OL.out.lt hb).1))); clear ho4 hg4 hb4)
    | fail)
  go_loopw [10, 11] (fun o i wr => HF w N A n c wr ∧ ∃ k : Nat, k ≤ n ∧ i = .int .i64 k ∧ ∃ B cB, o = .slice B (hK N es a b s k).length cB ∧ Own wr (w.heap.size + 2) 36 2 B (hK N es a b s k).length cB (prs (hK N es a b s k))) (fun _ i _ => n - (intOf i).toNat)
  case atStart =>
    have e1 : hK N es a b s 0 = [(a, N), (b, N)] ++ [(s, N)] := by unfold hK hS; rw [if_pos hs]; simp
    refine ⟨F6.out, 0, Nat.zero_le _, rfl, B4, c4, by rw [e1]; rfl, ?_⟩
    rw [e1, prs_app]; exact O6.out
  case round =>
    obtain ⟨hf, k, hk, rfl, B, cB, rfl, ho⟩ := hrel
    obtain ⟨hzr, p0, p1, r0, r1, f0, f1⟩ := hf.facts
    have FR := Lib.hid hf
    have OWN := Lib.hid ho
    have RD := Lib.hid (H0.out.keep (Keeps.of_below hf.below (Nat.le_refl _)))
    have hqq := hK_len N es a b s k
    generalize hQ : (hK N es a b s k).length = q at OWN hqq ⊢
    generalize hL : hK N es a b s k = L at OWN hQ
    have HL := Lib.hid hL
    have HQ := Lib.hid hQ
    clear hf ho hL hQ
    by_cases hlt : k < n
    · have HST : Hid (∀ x y : Int, es.getD k (0, 0) = (x, y) → hK N es a b s (k + 1) = L ++ if keepH a b s (x, y) = true then [(x, y)] else []) := fun x y h => by rw [← HL.out]; exact hK_step (by rw [HE.out]; exact hlt) h
      obtain ⟨ad, rfl, c0, c1⟩ := RD.out.prs_at hlt
      generalize hxy : es.getD k (0, 0) = xy at c0 c1
      obtain ⟨x, y⟩ := xy
      simp only at c0 c1
      have HXY := Lib.hid hxy
      clear hxy
      have hki0 : (0 : Int) ≤ (k : Int) := by omega
      have hki1 : (k : Int) < (n : Int) := by omega
      have n0 := World.new_ne wr _ p1
      have n1 := World.new_ne wr _ c0
      have n2 := World.new_ne wr _ c1
      cases hp : pairsB [(a, b)] x y
      · have HP := Lib.hid hp
        have KEEP : Hid (keepH a b s (x, y) = true) := by unfold Hid keepH; rw [hp]; simp
        clear hp
        have hd : decide (s < 0) = false := by simpa using hs
        go_wp2
        go_region_held3 (fun w' => w'.cell? ⟨w.heap.size, 1, none⟩ = some (.slice (some ad) n c) ∧ w'.cell? (ad.add (k * 2)) = some (.int .i64 x) ∧ w'.cell? ⟨(ad.add (k * 2)).block, (ad.add (k * 2)).off + 1, none⟩ = some (.int .i64 y)) (go_keep)
          ((first | (go_at_call 37; refine (pairs_b (b := false) (some ⟨wr.heap.size, 0, none⟩) 1 1 [(a, b)] x y _ (by omega) (rd_lit2_at (w := wr.drew) (b := wr.heap.size) rfl [(a, b)] _) HP.out).mono ?_; rintro e w7 ⟨rfl, rfl⟩) | fail))
        have FQ : Hid (HF w N _ n c (wr.drew.alloc (.cells #[.int .i64 a, .int .i64 b] 36))) := Lib.hid (FR.out.next2 ((Below.refl _ _).drew.alloc (by simp; omega) _))
        obtain ⟨hzr', p0, p1, r0, r1, f0, f1⟩ := FQ.out.facts
        have OQ : Hid (Own (wr.drew.alloc (.cells #[.int .i64 a, .int .i64 b] 36)) (w.heap.size + 2) 36 2 B q cB (prs L)) := Lib.hid (Own.alloc (w := wr.drew) OWN.out _)
        have c0' := Keeps.alloc wr.drew (.cells #[.int .i64 a, .int .i64 b] 36) _ _ c0
        have c1' := Keeps.alloc wr.drew (.cells #[.int .i64 a, .int .i64 b] 36) _ _ c1
        go_wp2_with (at_builtin; refine wpList_app _ rfl (.tmp 110) (.tmp 116) 22 rfl (w.heap.size + 2) 36 (.agg #[.int .i64 0, .int .i64 0]) 2 16 Try.underlying22 info_pair rfl (by decide) B q cB (prs L) rfl (OQ.out.alloc _) (some ⟨wr.heap.size + 1, 0, none⟩) 1 1 (prs [(x, y)]) rfl (rd_lit2_at (by simp) [(x, y)] _) (prs_one _) (by omega) (by unfold maxLen; omega) (by simp; omega) ?_; intro B4 c4 w6 ho4 hg4 hb4; have O6 := Lib.hid ho4; have F6 : Hid (HF w N _ n c w6) := Lib.hid (FQ.out.next2 ((((Below.refl _ _).alloc (by omega) _)).grown hg4 (by simp; omega) (fun b hb => (OQ.out.lt hb).1))); clear ho4 hg4 hb4)
        go_roundw
        case rel => exact ⟨F6.out, k + 1, by omega, by go_num, B4, c4, by rw [HST.out x y HXY.out, KEEP.out, if_pos rfl, List.length_append, HQ.out]; rfl, by rw [HST.out x y HXY.out, KEEP.out, if_pos rfl, List.length_append, HQ.out, prs_app]; exact O6.out⟩
        case measure => simp [intOf]; omega
      · have HP := Lib.hid hp
        have KEEP : Hid (keepH a b s (x, y) = false) := by unfold Hid keepH; rw [hp, decide_eq_false (by omega)]; rfl
        clear hp
        have hd : decide (s < 0) = false := by simpa using hs
        go_wp2
        go_region_held3 (fun w' => w'.cell? ⟨w.heap.size, 1, none⟩ = some (.slice (some ad) n c) ∧ w'.cell? (ad.add (k * 2)) = some (.int .i64 x) ∧ w'.cell? ⟨(ad.add (k * 2)).block, (ad.add (k * 2)).off + 1, none⟩ = some (.int .i64 y)) (go_keep)
          ((first | (go_at_call 37; refine (pairs_b (b := true) (some ⟨wr.heap.size, 0, none⟩) 1 1 [(a, b)] x y _ (by omega) (rd_lit2_at (w := wr.drew) (b := wr.heap.size) rfl [(a, b)] _) HP.out).mono ?_; rintro e w7 ⟨rfl, rfl⟩) | fail))
        have FQ : Hid (HF w N _ n c (wr.drew.alloc (.cells #[.int .i64 a, .int .i64 b] 36))) := Lib.hid (FR.out.next2 ((Below.refl _ _).drew.alloc (by simp; omega) _))
        obtain ⟨hzr', p0, p1, r0, r1, f0, f1⟩ := FQ.out.facts
        go_wp2
        go_roundw
        case rel => exact ⟨FQ.out, k + 1, by omega, by go_num, B, cB, by rw [HST.out x y HXY.out, KEEP.out, if_neg (by simp), List.append_nil, HQ.out], by rw [HST.out x y HXY.out, KEEP.out, if_neg (by simp), List.append_nil, HQ.out]; exact Own.alloc (w := wr.drew) OWN.out _⟩
        case measure => simp [intOf]; omega
    · obtain rfl : k = n := by omega
      have hLE : L = hennL N es a b s := by rw [← HL.out, ← HE.out]; exact hK_end N es a b s
      have HLE := Lib.hid hLE
      clear hLE
      go_wp2_with (go_at_call 15; refine (rmake_any (N + 1) B q cB L _ (by omega) OWN.out.rd).mono ?_; rintro e w8 hpost; rw [HLE.out, MK.out] at hpost; obtain ⟨hb8, B8, c8, rfl, ho8⟩ := hpost; have F8 : Hid (HF w N A k c w8) := Lib.hid (FR.out.next hb8); obtain ⟨hz8, p0, p1, r0, r1, f0, f1⟩ := F8.out.facts; have O8 := Lib.hid ho8; clear hb8 ho8)
      rw [HOK.out]
      refine bodyPost_ret (v := .tuple #[.agg #[.int .i64 (N + 1), .slice B8 (mkL (N + 1).toNat (hennL N es a b s)).length c8], .int .i64 0]) (by simp [results, Try.results21, go_sem, r0, r1]) rfl ⟨(F8.out.below.setCell (by simp) _).setCell (by simp) _, .inr ⟨rfl, B8, c8, rfl, ?_⟩⟩
      exact ((O8.out.setOther (by simp; omega) _).setOther (by simp; omega) _).rd
theorem rhenn_any (N : Int) (A : Option Addr) (n c : Nat) (es : List (Int × Int)) (a b s : Int) (w : World) (hn : n ≤ 900) (he : Rd w 2 A n (prs es)) :
    Calls Try.prog 21 #[.agg #[.int .i64 N, .slice A n c], .int .i64 a, .int .i64 b, .int .i64 s] w (HPost w N (hennE N es a b s)) := by
  cases h1 : hennBad1 N es a b
  · cases h2 : hennBad2 N es a b s
    · by_cases h : N = 60
      · exact rhenn_60 N A n c es a b s w hn he h1 h2 h
      · by_cases hs : s < 0
        · exact rhenn_neg N A n c es a b s w hn he h1 h2 h hs
        · exact rhenn_pos N A n c es a b s w hn he h1 h2 h (by omega)
    · exact rhenn_bad2 N A n c es a b s w hn he h1 h2
  · exact rhenn_bad1 N A n c es a b s w hn he h1
end Go.Proofs.Ytfkpcmklpcnebaa
