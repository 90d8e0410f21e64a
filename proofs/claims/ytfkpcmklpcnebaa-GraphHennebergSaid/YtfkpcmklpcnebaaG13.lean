/-
  Henneberg of the reference.
-/
import Derived.Test.YtfkpcmklpcnebaaG12
namespace Go.Proofs.Ytfkpcmklpcnebaa
set_option linter.unusedVariables false
set_option linter.unusedSimpArgs false
open Go.RowKit Go.Sort
attribute [local go_sem ↓] Go.wp_at_zero Go.wp_at_succ

def keepH (a b s : Int) (e : Int × Int) : Bool := decide (s < 0) || !pairsB [(a, b)] e.1 e.2
/-- The edges of the graph with a further point. -/
def hennL (N : Int) (es : List (Int × Int)) (a b s : Int) : List (Int × Int) := ([(a, N), (b, N)] ++ if 0 ≤ s then [(s, N)] else []) ++ es.filter (keepH a b s)
def hennBad1 (N : Int) (es : List (Int × Int)) (a b : Int) : Bool := !validB N es || !hasB N a || !hasB N b || a == b
def hennBad2 (N : Int) (es : List (Int × Int)) (a b s : Int) : Bool := decide (0 ≤ s) && (!hasB N s || s == a || s == b || !hasE N es a b)
def hennE (N : Int) (es : List (Int × Int)) (a b s : Int) : Int × List (Int × Int) :=
  if hennBad1 N es a b = true then (1, []) else if hennBad2 N es a b s = true then (1, []) else if N = 60 then (3, []) else (0, mkL (N + 1).toNat (hennL N es a b s))
def HPost (w : World) (N : Int) (r : Int × List (Int × Int)) (e : Ending) (w' : World) : Prop :=
  Below w.heap.size w w' ∧ ((r.1 ≠ 0 ∧ r.2 = [] ∧ e = .returned (.tuple #[.agg #[.int .i64 0, .slice none 0 0], .int .i64 r.1])) ∨
    (r.1 = 0 ∧ ∃ B c, e = .returned (.tuple #[.agg #[.int .i64 (N + 1), .slice B r.2.length c], .int .i64 0]) ∧ Rd w' 2 B r.2.length (prs r.2)))
theorem henn_bad1 {N : Int} {es : List (Int × Int)} {a b s : Int} (h : hennBad1 N es a b = true) : hennE N es a b s = (1, []) := by unfold hennE; rw [if_pos h]
theorem henn_bad2 {N : Int} {es : List (Int × Int)} {a b s : Int} (h : hennBad2 N es a b s = true) : hennE N es a b s = (1, []) := by
  by_cases h1 : hennBad1 N es a b = true
  · exact henn_bad1 h1
  · unfold hennE; rw [if_neg h1, if_pos h]
theorem henn_60 {N : Int} {es : List (Int × Int)} {a b s : Int} (h1 : hennBad1 N es a b = false) (h2 : hennBad2 N es a b s = false) (h : N = 60) : hennE N es a b s = (3, []) := by
  unfold hennE; rw [if_neg (by rw [h1]; simp), if_neg (by rw [h2]; simp), if_pos h]
theorem henn_ok {N : Int} {es : List (Int × Int)} {a b s : Int} (h1 : hennBad1 N es a b = false) (h2 : hennBad2 N es a b s = false) (h : ¬ N = 60) : hennE N es a b s = (0, mkL (N + 1).toNat (hennL N es a b s)) := by
  unfold hennE; rw [if_neg (by rw [h1]; simp), if_neg (by rw [h2]; simp), if_neg h]
theorem point_b {r : Bool} (N : Int) (A : Option Addr) (n c : Nat) (k : Int) (w : World) (h : hasB N k = r) :
    Calls Try.prog 43 #[.agg #[.int .i64 N, .slice A n c], .int .i64 k] w fun e w' => e = .returned (.bool r) ∧ Below w.heap.size w w' := by
  subst h; exact point_any N A n c k w
/-- What the two blocks at the head of Henneberg hold in any later world. -/
def HF (w : World) (N : Int) (A : Option Addr) (n c : Nat) (w1 : World) : Prop :=
  Below (w.heap.size + 2) ((w.alloc (.cells #[.int .i64 N, .slice A n c] 24)).alloc (.cells #[.int .i64 0, .slice none 0 0] 24)) w1
theorem HF.facts {w w1 : World} {N : Int} {A : Option Addr} {n c : Nat} (hb : HF w N A n c w1) :
    w.heap.size + 2 ≤ w1.heap.size ∧ w1.cell? ⟨w.heap.size, 0, none⟩ = some (.int .i64 N) ∧ w1.cell? ⟨w.heap.size, 1, none⟩ = some (.slice A n c) ∧ w1.cell? ⟨w.heap.size + 1, 0, none⟩ = some (.int .i64 0) ∧ w1.cell? ⟨w.heap.size + 1, 1, none⟩ = some (.slice none 0 0) ∧
      w1.frozen? ⟨w.heap.size + 1, 0, none⟩ = false ∧ w1.frozen? ⟨w.heap.size + 1, 1, none⟩ = false := by
  have hs := hb.size
  simp at hs
  refine ⟨by omega, ?_, ?_, ?_, ?_, ?_, ?_⟩
  · rw [hb.cell (by simp)]; simp
  · rw [hb.cell (by simp)]; simp
  · rw [hb.cell (by simp)]; simp
  · rw [hb.cell (by simp)]; simp
  · rw [hb.frozen (by simp)]; simp
  · rw [hb.frozen (by simp)]; simp
theorem HF.start (w : World) (N : Int) (A : Option Addr) (n c : Nat) : HF w N A n c ((w.alloc (.cells #[.int .i64 N, .slice A n c] 24)).alloc (.cells #[.int .i64 0, .slice none 0 0] 24)) := Below.refl _ _
theorem HF.next {w w1 w2 : World} {N : Int} {A : Option Addr} {n c : Nat} (hb : HF w N A n c w1) (h : Below w1.heap.size w1 w2) : HF w N A n c w2 := Below.trans hb (h.mono hb.facts.1)
theorem HF.next2 {w w1 w2 : World} {N : Int} {A : Option Addr} {n c : Nat} (hb : HF w N A n c w1) (h : Below (w.heap.size + 2) w1 w2) : HF w N A n c w2 := Below.trans hb h
theorem HF.below {w w1 : World} {N : Int} {A : Option Addr} {n c : Nat} (hb : HF w N A n c w1) : Below w.heap.size w w1 := (((Below.refl _ _).alloc (Nat.le_refl _) _).alloc (by simp) _).trans (Below.mono hb (by omega))

theorem henn_mk {N : Int} {es : List (Int × Int)} {a b s : Int} (h1 : hennBad1 N es a b = false) (h2 : hennBad2 N es a b s = false) (h : ¬ N = 60) : mkE (N + 1) (hennL N es a b s) = some (mkL (N + 1).toNat (hennL N es a b s)) := by
  unfold hennBad1 at h1
  simp only [Bool.or_eq_false_iff, Bool.not_eq_false'] at h1
  obtain ⟨⟨⟨hv, ha⟩, hb⟩, hab⟩ := h1
  have hN := (validB_iff N es).1 hv
  have hends := ends_of hv
  have ha' : 0 ≤ a ∧ a < N := by unfold hasB at ha; simpa using ha
  have hb' : 0 ≤ b ∧ b < N := by unfold hasB at hb; simpa using hb
  have ok : ∀ x y : Int, 0 ≤ x → 0 ≤ y → x < N + 1 → y < N + 1 → x ≠ y → okP (N + 1) x y = true := fun x y c1 c2 c3 c4 c5 => by unfold okP; simp; omega
  have hall : ∀ e ∈ hennL N es a b s, okP (N + 1) e.1 e.2 = true := by
    intro e he
    unfold hennL at he
    simp only [List.mem_append, List.mem_cons, List.not_mem_nil, or_false] at he
    rcases he with ((rfl | rfl) | he) | he
    · exact ok _ _ (by simp; omega) (by simp; omega) (by simp; omega) (by simp; omega) (by simp; omega)
    · exact ok _ _ (by simp; omega) (by simp; omega) (by simp; omega) (by simp; omega) (by simp; omega)
    · split at he
      · rename_i hs
        simp only [List.mem_singleton] at he
        subst he
        unfold hennBad2 at h2
        rw [decide_eq_true hs, Bool.true_and] at h2
        simp only [Bool.or_eq_false_iff, Bool.not_eq_false'] at h2
        have hs' : 0 ≤ s ∧ s < N := by have := h2.1.1.1; unfold hasB at this; simpa using this
        exact ok _ _ (by simp; omega) (by simp; omega) (by simp; omega) (by simp; omega) (by simp; omega)
      · simp at he
    · have := hends e (List.mem_filter.1 he).1
      exact ok _ _ (by omega) (by omega) (by omega) (by omega) (by omega)
  have : okE (N + 1) (hennL N es a b s) = true := by
    unfold okE
    rw [decide_eq_true (by omega : (0 : Int) ≤ N + 1), decide_eq_true (by omega : N + 1 ≤ 60)]
    simp only [Bool.true_and, List.all_eq_true]
    exact hall
  unfold mkE; rw [this]; rfl
theorem own_list {w : World} {base q c : Nat} {B : Option Addr} {l : List (Int × Int)} (h : Own w base 36 2 B q c (prs l)) : Rd w 2 B q (prs l) := h.rd
theorem keepH_step {es : List (Int × Int)} {a b s : Int} {k : Nat} (hk : k < es.length) {x y : Int} (hxy : es.getD k (0, 0) = (x, y)) : (es.take (k + 1)).filter (keepH a b s) = (es.take k).filter (keepH a b s) ++ if keepH a b s (x, y) = true then [(x, y)] else [] := by
  rw [List.take_succ_eq_append_getElem hk, List.filter_append]
  rw [List.getD_eq_getElem?_getD, List.getElem?_eq_getElem hk] at hxy
  simp only [Option.getD_some] at hxy
  rw [hxy]
  congr 1
  simp only [List.filter_cons, List.filter_nil]
theorem keepH_len (es : List (Int × Int)) (a b s : Int) (k : Nat) : ((es.take k).filter (keepH a b s)).length ≤ k := Nat.le_trans (List.length_filter_le _ _) (List.length_take_le _ _)
theorem not_bad1 {N : Int} {es : List (Int × Int)} {a b : Int} (h1 : hennBad1 N es a b = false) : validB N es = true ∧ hasB N a = true ∧ hasB N b = true ∧ (a == b) = false := by
  unfold hennBad1 at h1
  simp only [Bool.or_eq_false_iff, Bool.not_eq_false'] at h1
  exact ⟨h1.1.1.1, h1.1.1.2, h1.1.2, h1.2⟩
set_option maxRecDepth 100000 in
set_option maxHeartbeats 16000000 in
theorem rhenn_bad1 (N : Int) (A : Option Addr) (n c : Nat) (es : List (Int × Int)) (a b s : Int) (w : World) (hn : n ≤ 900) (he : Rd w 2 A n (prs es)) (hbad : hennBad1 N es a b = true) :
    Calls Try.prog 21 #[.agg #[.int .i64 N, .slice A n c], .int .i64 a, .int .i64 b, .int .i64 s] w (HPost w N (hennE N es a b s)) := by
  have HE := Lib.hid he.prs_len
  have H0 := Lib.hid he
  have H1 := Lib.hid (he.keep ((Keeps.alloc w (.cells #[.int .i64 N, .slice A n c] 24)).trans (Keeps.alloc _ (.cells #[.int .i64 0, .slice none 0 0] 24))))
  clear he
  have HB1 := Lib.hid hbad
  unfold hennBad1 at hbad
  cases hv : validB N es
  · have HV := Lib.hid hv
    clear hv
    clear hbad
    go_enter Try.func21, Try.ntmps21
    go_wp2_with (first
      | (go_at_call 13; refine (rvalid_b (b := false) N _ n c es _ (by omega) H1.out HV.out).mono ?_; rintro e w1 ⟨rfl, hb1⟩; have F1 : Hid (HF w N A n c w1) := Lib.hid ((HF.start w N A n c).next hb1); obtain ⟨hz1, p0, p1, r0, r1, f0, f1⟩ := F1.out.facts; have R1 := Lib.hid (H0.out.keep (Keeps.of_below F1.out.below (Nat.le_refl _))); clear hb1)
      | fail)
    refine bodyPost_ret (v := .tuple #[.agg #[.int .i64 0, .slice none 0 0], .int .i64 1]) (by simp [results, Try.results21, go_sem, r0, r1]) rfl ?_
    rw [henn_bad1 HB1.out]
    exact ⟨(F1.out.below.setCell (by simp) _).setCell (by simp) _, .inl ⟨by simp, rfl, rfl⟩⟩
  cases hA : hasB N a
  · have HV := Lib.hid hv
    have HA := Lib.hid hA
    clear hv hA
    clear hbad
    go_enter Try.func21, Try.ntmps21
    go_wp2_with (first
      | (go_at_call 13; refine (rvalid_b (b := true) N _ n c es _ (by omega) H1.out HV.out).mono ?_; rintro e w1 ⟨rfl, hb1⟩; have F1 : Hid (HF w N A n c w1) := Lib.hid ((HF.start w N A n c).next hb1); obtain ⟨hz1, p0, p1, r0, r1, f0, f1⟩ := F1.out.facts; have R1 := Lib.hid (H0.out.keep (Keeps.of_below F1.out.below (Nat.le_refl _))); clear hb1)
      | (go_at_call 43; (with_reducible refine (point_b (r := false) N A n c a _ HA.out).mono ?_); rintro e w2 ⟨rfl, hb2⟩; have F2 : Hid (HF w N A n c w2) := Lib.hid (F1.out.next hb2); obtain ⟨hz2, p0, p1, r0, r1, f0, f1⟩ := F2.out.facts; clear hb2)
      | fail)
    refine bodyPost_ret (v := .tuple #[.agg #[.int .i64 0, .slice none 0 0], .int .i64 1]) (by simp [results, Try.results21, go_sem, r0, r1]) rfl ?_
    rw [henn_bad1 HB1.out]
    exact ⟨(F2.out.below.setCell (by simp) _).setCell (by simp) _, .inl ⟨by simp, rfl, rfl⟩⟩
  cases hB : hasB N b
  · have HV := Lib.hid hv
    have HA := Lib.hid hA
    have HBb := Lib.hid hB
    clear hv hA hB
    clear hbad
    go_enter Try.func21, Try.ntmps21
    go_wp2_with (first
      | (go_at_call 13; refine (rvalid_b (b := true) N _ n c es _ (by omega) H1.out HV.out).mono ?_; rintro e w1 ⟨rfl, hb1⟩; have F1 : Hid (HF w N A n c w1) := Lib.hid ((HF.start w N A n c).next hb1); obtain ⟨hz1, p0, p1, r0, r1, f0, f1⟩ := F1.out.facts; have R1 := Lib.hid (H0.out.keep (Keeps.of_below F1.out.below (Nat.le_refl _))); clear hb1)
      | (go_at_call 43; (with_reducible refine (point_b (r := true) N A n c a _ HA.out).mono ?_); rintro e w2 ⟨rfl, hb2⟩; have F2 : Hid (HF w N A n c w2) := Lib.hid (F1.out.next hb2); obtain ⟨hz2, p0, p1, r0, r1, f0, f1⟩ := F2.out.facts; clear hb2)
      | (go_at_call 43; (with_reducible refine (point_b (r := false) N A n c b _ HBb.out).mono ?_); rintro e w3 ⟨rfl, hb3⟩; have F3 : Hid (HF w N A n c w3) := Lib.hid (F2.out.next hb3); obtain ⟨hz3, p0, p1, r0, r1, f0, f1⟩ := F3.out.facts; clear hb3)
      | fail)
    refine bodyPost_ret (v := .tuple #[.agg #[.int .i64 0, .slice none 0 0], .int .i64 1]) (by simp [results, Try.results21, go_sem, r0, r1]) rfl ?_
    rw [henn_bad1 HB1.out]
    exact ⟨(F3.out.below.setCell (by simp) _).setCell (by simp) _, .inl ⟨by simp, rfl, rfl⟩⟩
  have hab : (a == b) = true := by rw [hv, hA, hB] at hbad; simpa using hbad
  have HV := Lib.hid hv
  have HA := Lib.hid hA
  have HBb := Lib.hid hB
  clear hv hA hB
  clear hbad
  obtain rfl : a = b := by simpa using hab
  clear hab
  go_enter Try.func21, Try.ntmps21
  go_wp2_with (first
    | (go_at_call 13; refine (rvalid_b (b := true) N _ n c es _ (by omega) H1.out HV.out).mono ?_; rintro e w1 ⟨rfl, hb1⟩; have F1 : Hid (HF w N A n c w1) := Lib.hid ((HF.start w N A n c).next hb1); obtain ⟨hz1, p0, p1, r0, r1, f0, f1⟩ := F1.out.facts; have R1 := Lib.hid (H0.out.keep (Keeps.of_below F1.out.below (Nat.le_refl _))); clear hb1)
    | (go_at_call 43; (with_reducible refine (point_b (r := true) N A n c a _ HA.out).mono ?_); rintro e w2 ⟨rfl, hb2⟩; have F2 : Hid (HF w N A n c w2) := Lib.hid (F1.out.next hb2); obtain ⟨hz2, p0, p1, r0, r1, f0, f1⟩ := F2.out.facts; clear hb2)
    | (go_at_call 43; (with_reducible refine (point_b (r := true) N A n c a _ HA.out).mono ?_); rintro e w3 ⟨rfl, hb3⟩; have F3 : Hid (HF w N A n c w3) := Lib.hid (F2.out.next hb3); obtain ⟨hz3, p0, p1, r0, r1, f0, f1⟩ := F3.out.facts; clear hb3)
    | fail)
  refine bodyPost_ret (v := .tuple #[.agg #[.int .i64 0, .slice none 0 0], .int .i64 1]) (by simp [results, Try.results21, go_sem, r0, r1]) rfl ?_
  rw [henn_bad1 HB1.out]
  exact ⟨(F3.out.below.setCell (by simp) _).setCell (by simp) _, .inl ⟨by simp, rfl, rfl⟩⟩
set_option maxRecDepth 100000 in
set_option maxHeartbeats 16000000 in
theorem rhenn_bad2 (N : Int) (A : Option Addr) (n c : Nat) (es : List (Int × Int)) (a b s : Int) (w : World) (hn : n ≤ 900) (he : Rd w 2 A n (prs es)) (hok : hennBad1 N es a b = false) (hbad : hennBad2 N es a b s = true) :
    Calls Try.prog 21 #[.agg #[.int .i64 N, .slice A n c], .int .i64 a, .int .i64 b, .int .i64 s] w (HPost w N (hennE N es a b s)) := by
  have HE := Lib.hid he.prs_len
  have H0 := Lib.hid he
  have H1 := Lib.hid (he.keep ((Keeps.alloc w (.cells #[.int .i64 N, .slice A n c] 24)).trans (Keeps.alloc _ (.cells #[.int .i64 0, .slice none 0 0] 24))))
  clear he
  have HB2 := Lib.hid hbad
  obtain ⟨hv, hA, hB, hab⟩ := not_bad1 hok
  unfold hennBad2 at hbad
  rw [Bool.and_eq_true, decide_eq_true_eq] at hbad
  obtain ⟨hs0, hbad⟩ := hbad
  cases hS : hasB N s
  · have HV := Lib.hid hv
    have HA := Lib.hid hA
    have HBb := Lib.hid hB
    have HS := Lib.hid hS
    clear hv hA hB hS
    clear hbad hok
    go_enter Try.func21, Try.ntmps21
    go_wp2_with (first
      | (go_at_call 13; refine (rvalid_b (b := true) N _ n c es _ (by omega) H1.out HV.out).mono ?_; rintro e w1 ⟨rfl, hb1⟩; have F1 : Hid (HF w N A n c w1) := Lib.hid ((HF.start w N A n c).next hb1); obtain ⟨hz1, p0, p1, r0, r1, f0, f1⟩ := F1.out.facts; have R1 := Lib.hid (H0.out.keep (Keeps.of_below F1.out.below (Nat.le_refl _))); clear hb1)
      | (go_at_call 43; (with_reducible refine (point_b (r := true) N A n c a _ HA.out).mono ?_); rintro e w2 ⟨rfl, hb2⟩; have F2 : Hid (HF w N A n c w2) := Lib.hid (F1.out.next hb2); obtain ⟨hz2, p0, p1, r0, r1, f0, f1⟩ := F2.out.facts; clear hb2)
      | (go_at_call 43; (with_reducible refine (point_b (r := true) N A n c b _ HBb.out).mono ?_); rintro e w3 ⟨rfl, hb3⟩; have F3 : Hid (HF w N A n c w3) := Lib.hid (F2.out.next hb3); obtain ⟨hz3, p0, p1, r0, r1, f0, f1⟩ := F3.out.facts; clear hb3)
      | (go_at_call 43; (with_reducible refine (point_b (r := false) N A n c s _ HS.out).mono ?_); rintro e w4 ⟨rfl, hb4⟩; have F4 : Hid (HF w N A n c w4) := Lib.hid (F3.out.next hb4); obtain ⟨hz4, p0, p1, r0, r1, f0, f1⟩ := F4.out.facts; clear hb4)
      | fail)
    refine bodyPost_ret (v := .tuple #[.agg #[.int .i64 0, .slice none 0 0], .int .i64 1]) (by simp [results, Try.results21, go_sem, r0, r1]) rfl ?_
    rw [henn_bad2 HB2.out]
    exact ⟨(F4.out.below.setCell (by simp) _).setCell (by simp) _, .inl ⟨by simp, rfl, rfl⟩⟩
  by_cases hsa : a = s
  · subst hsa
    have HV := Lib.hid hv
    have HA := Lib.hid hA
    have HBb := Lib.hid hB
    have HS := Lib.hid hS
    clear hv hA hB hS
    clear hbad hok
    go_enter Try.func21, Try.ntmps21
    go_wp2_with (first
      | (go_at_call 13; refine (rvalid_b (b := true) N _ n c es _ (by omega) H1.out HV.out).mono ?_; rintro e w1 ⟨rfl, hb1⟩; have F1 : Hid (HF w N A n c w1) := Lib.hid ((HF.start w N A n c).next hb1); obtain ⟨hz1, p0, p1, r0, r1, f0, f1⟩ := F1.out.facts; have R1 := Lib.hid (H0.out.keep (Keeps.of_below F1.out.below (Nat.le_refl _))); clear hb1)
      | (go_at_call 43; (with_reducible refine (point_b (r := true) N A n c a _ HA.out).mono ?_); rintro e w2 ⟨rfl, hb2⟩; have F2 : Hid (HF w N A n c w2) := Lib.hid (F1.out.next hb2); obtain ⟨hz2, p0, p1, r0, r1, f0, f1⟩ := F2.out.facts; clear hb2)
      | (go_at_call 43; (with_reducible refine (point_b (r := true) N A n c b _ HBb.out).mono ?_); rintro e w3 ⟨rfl, hb3⟩; have F3 : Hid (HF w N A n c w3) := Lib.hid (F2.out.next hb3); obtain ⟨hz3, p0, p1, r0, r1, f0, f1⟩ := F3.out.facts; clear hb3)
      | (go_at_call 43; (with_reducible refine (point_b (r := true) N A n c a _ HA.out).mono ?_); rintro e w4 ⟨rfl, hb4⟩; have F4 : Hid (HF w N A n c w4) := Lib.hid (F3.out.next hb4); obtain ⟨hz4, p0, p1, r0, r1, f0, f1⟩ := F4.out.facts; clear hb4)
      | fail)
    refine bodyPost_ret (v := .tuple #[.agg #[.int .i64 0, .slice none 0 0], .int .i64 1]) (by simp [results, Try.results21, go_sem, r0, r1]) rfl ?_
    rw [henn_bad2 HB2.out]
    exact ⟨(F4.out.below.setCell (by simp) _).setCell (by simp) _, .inl ⟨by simp, rfl, rfl⟩⟩
  by_cases hsb : b = s
  · subst hsb
    have hba : (b == a) = false := by simpa using fun h => hsa h.symm
    have HV := Lib.hid hv
    have HA := Lib.hid hA
    have HBb := Lib.hid hB
    have HS := Lib.hid hS
    clear hv hA hB hS
    clear hbad hok hsa
    go_enter Try.func21, Try.ntmps21
    go_wp2_with (first
      | (go_at_call 13; refine (rvalid_b (b := true) N _ n c es _ (by omega) H1.out HV.out).mono ?_; rintro e w1 ⟨rfl, hb1⟩; have F1 : Hid (HF w N A n c w1) := Lib.hid ((HF.start w N A n c).next hb1); obtain ⟨hz1, p0, p1, r0, r1, f0, f1⟩ := F1.out.facts; have R1 := Lib.hid (H0.out.keep (Keeps.of_below F1.out.below (Nat.le_refl _))); clear hb1)
      | (go_at_call 43; (with_reducible refine (point_b (r := true) N A n c a _ HA.out).mono ?_); rintro e w2 ⟨rfl, hb2⟩; have F2 : Hid (HF w N A n c w2) := Lib.hid (F1.out.next hb2); obtain ⟨hz2, p0, p1, r0, r1, f0, f1⟩ := F2.out.facts; clear hb2)
      | (go_at_call 43; (with_reducible refine (point_b (r := true) N A n c b _ HBb.out).mono ?_); rintro e w3 ⟨rfl, hb3⟩; have F3 : Hid (HF w N A n c w3) := Lib.hid (F2.out.next hb3); obtain ⟨hz3, p0, p1, r0, r1, f0, f1⟩ := F3.out.facts; clear hb3)
      | (go_at_call 43; (with_reducible refine (point_b (r := true) N A n c b _ HBb.out).mono ?_); rintro e w4 ⟨rfl, hb4⟩; have F4 : Hid (HF w N A n c w4) := Lib.hid (F3.out.next hb4); obtain ⟨hz4, p0, p1, r0, r1, f0, f1⟩ := F4.out.facts; clear hb4)
      | fail)
    refine bodyPost_ret (v := .tuple #[.agg #[.int .i64 0, .slice none 0 0], .int .i64 1]) (by simp [results, Try.results21, go_sem, r0, r1]) rfl ?_
    rw [henn_bad2 HB2.out]
    exact ⟨(F4.out.below.setCell (by simp) _).setCell (by simp) _, .inl ⟨by simp, rfl, rfl⟩⟩
  have hsa' : (s == a) = false := by simpa using fun h : s = a => hsa h.symm
  have hsb' : (s == b) = false := by simpa using fun h : s = b => hsb h.symm
  have hH : hasE N es a b = false := by rw [hS, hsa', hsb'] at hbad; simpa using hbad
  have HV := Lib.hid hv
  have HA := Lib.hid hA
  have HBb := Lib.hid hB
  have HS := Lib.hid hS
  have HH := Lib.hid hH
  clear hv hA hB hS hH
  clear hbad hok hsa hsb
  go_enter Try.func21, Try.ntmps21
  go_wp2_with (first
    | (go_at_call 13; refine (rvalid_b (b := true) N _ n c es _ (by omega) H1.out HV.out).mono ?_; rintro e w1 ⟨rfl, hb1⟩; have F1 : Hid (HF w N A n c w1) := Lib.hid ((HF.start w N A n c).next hb1); obtain ⟨hz1, p0, p1, r0, r1, f0, f1⟩ := F1.out.facts; have R1 := Lib.hid (H0.out.keep (Keeps.of_below F1.out.below (Nat.le_refl _))); clear hb1)
    | (go_at_call 43; (with_reducible refine (point_b (r := true) N A n c a _ HA.out).mono ?_); rintro e w2 ⟨rfl, hb2⟩; have F2 : Hid (HF w N A n c w2) := Lib.hid (F1.out.next hb2); obtain ⟨hz2, p0, p1, r0, r1, f0, f1⟩ := F2.out.facts; clear hb2)
    | (go_at_call 43; (with_reducible refine (point_b (r := true) N A n c b _ HBb.out).mono ?_); rintro e w3 ⟨rfl, hb3⟩; have F3 : Hid (HF w N A n c w3) := Lib.hid (F2.out.next hb3); obtain ⟨hz3, p0, p1, r0, r1, f0, f1⟩ := F3.out.facts; clear hb3)
    | (go_at_call 43; (with_reducible refine (point_b (r := true) N A n c s _ HS.out).mono ?_); rintro e w4 ⟨rfl, hb4⟩; have F4 : Hid (HF w N A n c w4) := Lib.hid (F3.out.next hb4); obtain ⟨hz4, p0, p1, r0, r1, f0, f1⟩ := F4.out.facts; clear hb4)
    | (go_at_call 24; (with_reducible refine (rhas_b (r := false) N A n c es a b _ (by omega) (H0.out.keep (Keeps.of_below F4.out.below (Nat.le_refl _))) HH.out).mono ?_); rintro e w5 ⟨rfl, hb5⟩; have F5 : Hid (HF w N A n c w5) := Lib.hid (F4.out.next hb5); obtain ⟨hz5, p0, p1, r0, r1, f0, f1⟩ := F5.out.facts; clear hb5)
    | fail)
  refine bodyPost_ret (v := .tuple #[.agg #[.int .i64 0, .slice none 0 0], .int .i64 1]) (by simp [results, Try.results21, go_sem, r0, r1]) rfl ?_
  rw [henn_bad2 HB2.out]
  exact ⟨(F5.out.below.setCell (by simp) _).setCell (by simp) _, .inl ⟨by simp, rfl, rfl⟩⟩
set_option maxRecDepth 100000 in
set_option maxHeartbeats 16000000 in
theorem rhenn_60 (N : Int) (A : Option Addr) (n c : Nat) (es : List (Int × Int)) (a b s : Int) (w : World) (hn : n ≤ 900) (he : Rd w 2 A n (prs es)) (hok : hennBad1 N es a b = false) (hok2 : hennBad2 N es a b s = false) (hN6 : N = 60) :
    Calls Try.prog 21 #[.agg #[.int .i64 N, .slice A n c], .int .i64 a, .int .i64 b, .int .i64 s] w (HPost w N (hennE N es a b s)) := by
  have HE := Lib.hid he.prs_len
  have H0 := Lib.hid he
  have H1 := Lib.hid (he.keep ((Keeps.alloc w (.cells #[.int .i64 N, .slice A n c] 24)).trans (Keeps.alloc _ (.cells #[.int .i64 0, .slice none 0 0] 24))))
  clear he
  have HB := Lib.hid (henn_60 hok hok2 hN6)
  obtain ⟨hv, hA, hB, hab⟩ := not_bad1 hok
  clear hok
  subst hN6
  by_cases hs0 : s < 0
  · have HV := Lib.hid hv
    have HA := Lib.hid hA
    have HBb := Lib.hid hB
    clear hv hA hB
    clear hok2
    go_enter Try.func21, Try.ntmps21
    go_wp2_with (first
      | (go_at_call 13; refine (rvalid_b (b := true) 60 _ n c es _ (by omega) H1.out HV.out).mono ?_; rintro e w1 ⟨rfl, hb1⟩; have F1 : Hid (HF w 60 A n c w1) := Lib.hid ((HF.start w 60 A n c).next hb1); obtain ⟨hz1, p0, p1, r0, r1, f0, f1⟩ := F1.out.facts; have R1 := Lib.hid (H0.out.keep (Keeps.of_below F1.out.below (Nat.le_refl _))); clear hb1)
      | (go_at_call 43; (with_reducible refine (point_b (r := true) 60 A n c a _ HA.out).mono ?_); rintro e w2 ⟨rfl, hb2⟩; have F2 : Hid (HF w 60 A n c w2) := Lib.hid (F1.out.next hb2); obtain ⟨hz2, p0, p1, r0, r1, f0, f1⟩ := F2.out.facts; clear hb2)
      | (go_at_call 43; (with_reducible refine (point_b (r := true) 60 A n c b _ HBb.out).mono ?_); rintro e w3 ⟨rfl, hb3⟩; have F3 : Hid (HF w 60 A n c w3) := Lib.hid (F2.out.next hb3); obtain ⟨hz3, p0, p1, r0, r1, f0, f1⟩ := F3.out.facts; clear hb3)
      | fail)
    refine bodyPost_ret (v := .tuple #[.agg #[.int .i64 0, .slice none 0 0], .int .i64 3]) (by simp [results, Try.results21, go_sem, r0, r1]) rfl ?_
    rw [HB.out]
    exact ⟨(F3.out.below.setCell (by simp) _).setCell (by simp) _, .inl ⟨by simp, rfl, rfl⟩⟩
  unfold hennBad2 at hok2
  rw [decide_eq_true (by omega : 0 ≤ s), Bool.true_and] at hok2
  simp only [Bool.or_eq_false_iff, Bool.not_eq_false'] at hok2
  obtain ⟨⟨⟨hS, hsa⟩, hsb⟩, hH⟩ := hok2
  have HV := Lib.hid hv
  have HA := Lib.hid hA
  have HBb := Lib.hid hB
  have HS := Lib.hid hS
  have HH := Lib.hid hH
  clear hv hA hB hS hH
  go_enter Try.func21, Try.ntmps21
  go_wp2_with (first
    | (go_at_call 13; refine (rvalid_b (b := true) 60 _ n c es _ (by omega) H1.out HV.out).mono ?_; rintro e w1 ⟨rfl, hb1⟩; have F1 : Hid (HF w 60 A n c w1) := Lib.hid ((HF.start w 60 A n c).next hb1); obtain ⟨hz1, p0, p1, r0, r1, f0, f1⟩ := F1.out.facts; have R1 := Lib.hid (H0.out.keep (Keeps.of_below F1.out.below (Nat.le_refl _))); clear hb1)
    | (go_at_call 43; (with_reducible refine (point_b (r := true) 60 A n c a _ HA.out).mono ?_); rintro e w2 ⟨rfl, hb2⟩; have F2 : Hid (HF w 60 A n c w2) := Lib.hid (F1.out.next hb2); obtain ⟨hz2, p0, p1, r0, r1, f0, f1⟩ := F2.out.facts; clear hb2)
    | (go_at_call 43; (with_reducible refine (point_b (r := true) 60 A n c b _ HBb.out).mono ?_); rintro e w3 ⟨rfl, hb3⟩; have F3 : Hid (HF w 60 A n c w3) := Lib.hid (F2.out.next hb3); obtain ⟨hz3, p0, p1, r0, r1, f0, f1⟩ := F3.out.facts; clear hb3)
    | (go_at_call 43; (with_reducible refine (point_b (r := true) 60 A n c s _ HS.out).mono ?_); rintro e w4 ⟨rfl, hb4⟩; have F4 : Hid (HF w 60 A n c w4) := Lib.hid (F3.out.next hb4); obtain ⟨hz4, p0, p1, r0, r1, f0, f1⟩ := F4.out.facts; clear hb4)
    | (go_at_call 24; (with_reducible refine (rhas_b (r := true) 60 A n c es a b _ (by omega) (H0.out.keep (Keeps.of_below F4.out.below (Nat.le_refl _))) HH.out).mono ?_); rintro e w5 ⟨rfl, hb5⟩; have F5 : Hid (HF w 60 A n c w5) := Lib.hid (F4.out.next hb5); obtain ⟨hz5, p0, p1, r0, r1, f0, f1⟩ := F5.out.facts; clear hb5)
    | fail)
  refine bodyPost_ret (v := .tuple #[.agg #[.int .i64 0, .slice none 0 0], .int .i64 3]) (by simp [results, Try.results21, go_sem, r0, r1]) rfl ?_
  rw [HB.out]
  exact ⟨(F5.out.below.setCell (by simp) _).setCell (by simp) _, .inl ⟨by simp, rfl, rfl⟩⟩
end Go.Proofs.Ytfkpcmklpcnebaa
