/-
  setsquareref34.Without and Redundant.
-/
import Derived.Test.YtagcaljpgifppaaMc
import Derived.Deep.Slices
namespace Go.Proofs.Ytagcaljpgifppaa
set_option linter.unusedVariables false
set_option linter.unusedSimpArgs false
open Go.RowKit Go.Sort

attribute [local go_sem ↓] Go.wp_at_zero Go.wp_at_succ
theorem prs_split (es : List (Int × Int)) (i : Nat) : prs es = prs (es.take i) ++ prs (es.drop i) := by rw [← prs_app, List.take_append_drop]
theorem rd_take {w : World} {A : Option Addr} {m i : Nat} {es : List (Int × Int)} (h : Rd w 2 A m (prs es)) (hi : i ≤ m) : Rd w 2 A i (prs (es.take i)) := by
  have hl := h.prs_len
  have hti : (es.take i).length = i := by rw [List.length_take]; omega
  refine ⟨by rw [prs_length, hti], fun hn => ?_⟩
  obtain ⟨ad, e, hc⟩ := h.2 (by omega)
  refine ⟨ad, e, fun j u hu => hc j u ?_⟩
  rw [prs_split es i]
  obtain ⟨hj, -⟩ := List.getElem?_eq_some_iff.1 hu
  rw [List.getElem?_append_left hj]; exact hu
theorem rd_drop {w : World} {ad : Addr} {m i c : Nat} {es : List (Int × Int)} (h : Rd w 2 (some ad) m (prs es)) (hi : i < m) (hc : m ≤ c) : Rd w 2 (if c = i + 1 then some ad else some (ad.add ((i + 1) * 2))) (m - (i + 1)) (prs (es.drop (i + 1))) := by
  have hl := h.prs_len
  have htd : (es.drop (i + 1)).length = m - (i + 1) := by rw [List.length_drop, hl]
  refine ⟨by rw [prs_length, htd], fun hn => ?_⟩
  obtain ⟨ad', e, hcl⟩ := h.2 (by omega)
  obtain rfl : ad = ad' := by injection e
  rw [if_neg (by omega)]
  refine ⟨_, rfl, fun j u hu => ?_⟩
  rw [Go.Deep.add_add]
  refine hcl _ u ?_
  have hti : (prs (es.take (i + 1))).length = (i + 1) * 2 := by rw [prs_length, List.length_take, hl, Nat.min_eq_left (by omega)]
  rw [prs_split es (i + 1), List.getElem?_append_right (by omega), hti, Nat.add_sub_cancel_left]
  exact hu
def WoPost (w : World) (N : Int) (q : Nat) (l : List (Int × Int)) (e : Ending) (w' : World) : Prop :=
  Below w.heap.size w w' ∧ ∃ B d, e = .returned (.agg #[.int .i64 N, .slice B q d]) ∧ Rd w' 2 B q (prs l)
set_option maxRecDepth 100000 in
set_option maxHeartbeats 8000000 in
theorem without_any (N : Int) (ad : Addr) (m c i : Nat) (es : List (Int × Int)) (w : World) (hm : m ≤ 40) (hi : i < m) (hmc : m ≤ c) (he : Rd w 2 (some ad) m (prs es)) :
    Calls Try.prog 67 #[.agg #[.int .i64 N, .slice (some ad) m c], .int .i64 i] w (WoPost w N (m - 1) (es.eraseIdx i)) := by
  have HE := Lib.hid he.prs_len
  have HT := Lib.hid (rd_take he (by omega : i ≤ m))
  have HD := Lib.hid (rd_drop he hi hmc)
  have hti : (prs (es.take i) ++ prs (es.drop (i + 1))) = prs (es.eraseIdx i) := by rw [← prs_app, List.eraseIdx_eq_take_drop_succ]
  have HTI := Lib.hid hti
  clear he hti
  go_enter Try.func67, Try.ntmps67
  go_wp2_with fail
  have b0 : ((w.alloc (.cells #[.int .i64 N, .slice (some ad) m c] 24)).alloc (.cells #[.int .i64 0, .slice none 0 0] 24)).cell? ⟨w.heap.size, 0, none⟩ = some (.int .i64 N) := Keeps.alloc _ _ _ _ (cell_at rfl _ _ 0 rfl)
  have b1 : ((w.alloc (.cells #[.int .i64 N, .slice (some ad) m c] 24)).alloc (.cells #[.int .i64 0, .slice none 0 0] 24)).cell? ⟨w.heap.size, 1, none⟩ = some (.slice (some ad) m c) := Keeps.alloc _ _ _ _ (cell_at rfl _ _ 1 rfl)
  have r0 : ((w.alloc (.cells #[.int .i64 N, .slice (some ad) m c] 24)).alloc (.cells #[.int .i64 0, .slice none 0 0] 24)).cell? ⟨w.heap.size + 1, 0, none⟩ = some (.int .i64 0) := cell_at (by simp) _ _ 0 rfl
  have r1 : ((w.alloc (.cells #[.int .i64 N, .slice (some ad) m c] 24)).alloc (.cells #[.int .i64 0, .slice none 0 0] 24)).cell? ⟨w.heap.size + 1, 1, none⟩ = some (.slice none 0 0) := cell_at (by simp) _ _ 1 rfl
  have f0 : ((w.alloc (.cells #[.int .i64 N, .slice (some ad) m c] 24)).alloc (.cells #[.int .i64 0, .slice none 0 0] 24)).frozen? ⟨w.heap.size + 1, 0, none⟩ = false := by simp
  have f1 : ((w.alloc (.cells #[.int .i64 N, .slice (some ad) m c] 24)).alloc (.cells #[.int .i64 0, .slice none 0 0] 24)).frozen? ⟨w.heap.size + 1, 1, none⟩ = false := by simp
  have BW : Hid (Below w.heap.size w ((w.alloc (.cells #[.int .i64 N, .slice (some ad) m c] 24)).alloc (.cells #[.int .i64 0, .slice none 0 0] 24))) := Lib.hid (((Below.refl _ _).alloc (Nat.le_refl _) _).alloc (by simp) _)
  have HTw := Lib.hid ((HT.out.keep (Keeps.alloc w (.cells #[.int .i64 N, .slice (some ad) m c] 24))).keep (Keeps.alloc _ (.cells #[.int .i64 0, .slice none 0 0] 24)))
  have HDw := Lib.hid ((HD.out.keep (Keeps.alloc w (.cells #[.int .i64 N, .slice (some ad) m c] 24))).keep (Keeps.alloc _ (.cells #[.int .i64 0, .slice none 0 0] 24)))
  have hz : ((w.alloc (.cells #[.int .i64 N, .slice (some ad) m c] 24)).alloc (.cells #[.int .i64 0, .slice none 0 0] 24)).heap.size = w.heap.size + 2 := by simp
  generalize (w.alloc (.cells #[.int .i64 N, .slice (some ad) m c] 24)).alloc (.cells #[.int .i64 0, .slice none 0 0] 24) = wr at *
  clear HT HD
  have n1 := World.new_ne wr _ b1
  have b0r := b0
  have b1r := b1
  have r0r := r0
  have r1r := r1
  have i0 : (0 : Int) ≤ (i : Int) := by omega
  have i1 : (i : Int) ≤ (c : Int) := by omega
  have i2 : (i : Int) + 1 ≤ (m : Int) := by omega
  have i3 : (0 : Int) ≤ (i : Int) + 1 := by omega
  have i4 : (m : Int) ≤ (c : Int) := by omega
  have j0 : ((i : Int) + 1).toNat = i + 1 := by omega
  have j1 : i ≤ c := by omega
  have j2 : i + 1 ≤ m := by omega
  have i5 : IntKind.i64.wrap ((i : Int) + 1) = (i : Int) + 1 := IntWalk.i64_in _ (by omega)
  go_region_held3 (fun w' => w'.cell? ⟨w.heap.size, 0, none⟩ = some (.int .i64 N) ∧ w'.cell? ⟨w.heap.size, 1, none⟩ = some (.slice (some ad) m c)) (go_keep)
    ((first
      | (refine step_app _ rfl (.tmp 7) (.tmp 11) 22 rfl wr.heap.size 42 (.agg #[.int .i64 0, .int .i64 0]) 2 16 Try.underlying22 info_pair rfl (by decide) (some ⟨wr.heap.size, 0, none⟩) 0 0 [] (by simp [Act.eval, Act.put]) (own_empty_at (w := wr.drew) rfl 42 2) (some ad) i c (prs (es.take i)) (by simp [Act.eval, Act.put]) (rd_alloc (w := wr.drew) HTw.out _) (prs_one _) (by omega) (by unfold maxLen; omega) (by first | omega | (simp; done) | (simp; omega)) ?_; intro A3 c3 w3 ho3 hg3 hb3; simp only [Nat.zero_add, List.nil_append] at ho3; have O3 := Lib.hid ho3; have BL3 : Hid (Below wr.heap.size wr w3) := Lib.hid ((((Below.refl _ _).drew).alloc (by simp) (.cells #[] 42)).grown hg3 (by simp) (fun k hk => by simp [blk] at hk; omega)); have kk3 := Keeps.of_below BL3.out (Nat.le_refl _); have b0 := kk3 _ _ b0; have b1 := kk3 _ _ b1; have r0 := kk3 _ _ r0; have r1 := kk3 _ _ r1; have n1 := World.new_ne w3 _ b1; have hz3 := BL3.out.size; clear kk3; clear ho3 hg3 hb3)
      | (refine step_app _ rfl (.tmp 12) (.tmp 17) 22 rfl wr.heap.size 42 (.agg #[.int .i64 0, .int .i64 0]) 2 16 Try.underlying22 info_pair rfl (by decide) A3 i c3 (prs (es.take i)) (by simp [Act.eval, Act.put]) O3.out (if c = i + 1 then some ad else some (ad.add ((i + 1) * 2))) (m - (i + 1)) (c - (i + 1)) (prs (es.drop (i + 1))) (by simp [Act.eval, Act.put]) (HDw.out.keep (Keeps.of_below BL3.out (Nat.le_refl _))) (prs_one _) (by omega) (by unfold maxLen; omega) (by first | omega | (simp; done) | (simp; omega)) ?_; intro A4 c4 w4 ho4 hg4 hb4; have O4 : Hid (Own w4 wr.heap.size 42 2 A4 (i + (m - (i + 1))) c4 (prs (es.eraseIdx i))) := Lib.hid (by rw [← HTI.out]; exact ho4); have BL4 : Hid (Below wr.heap.size wr w4) := Lib.hid (BL3.out.grown hg4 (by first | omega | (simp; done) | (simp; omega)) (fun k hk => (O3.out.lt hk).1)); have kk4 := Keeps.of_below BL4.out (Nat.le_refl _); have b0 := kk4 _ _ b0r; have b1 := kk4 _ _ b1r; have r0 := kk4 _ _ r0r; have r1 := kk4 _ _ r1r; have f0 : w4.frozen? ⟨w.heap.size + 1, 0, none⟩ = false := (by rw [BL4.out.frozen (by simp; omega)]; exact f0); have f1 : w4.frozen? ⟨w.heap.size + 1, 1, none⟩ = false := (by rw [BL4.out.frozen (by simp; omega)]; exact f1); have hz4 := BL4.out.size; clear ho4 hg4 hb4 kk4)
      | fail))
  all_goals
   go_wp2_with fail
   all_goals
    refine bodyPost_ret (v := .agg #[.int .i64 N, .slice A4 (i + (m - (i + 1))) c4]) (by simp [results, Try.results67, go_sem, r0, r1]) rfl ⟨((BW.out.trans (BL4.out.mono (by omega))).setCell (by simp) _).setCell (by simp) _, A4, c4, by rw [show i + (m - (i + 1)) = m - 1 by omega], ?_⟩
    rw [← show i + (m - (i + 1)) = m - 1 by omega]
    exact (Own.setOther (Own.setOther O4.out (by show w.heap.size + 1 < wr.heap.size; omega) _) (by show w.heap.size + 1 < wr.heap.size; omega) _).rd
end Go.Proofs.Ytagcaljpgifppaa
