/-
  Redundant, Violation, Orientation of the pebble layer: joined texts.
-/
import Derived.Test.YtagcaljpgifppaaMp
import Derived.Test.YtagcaljpgifppaaMa
namespace Go.Proofs.Ytagcaljpgifppaa
set_option linter.unusedVariables false
set_option linter.unusedSimpArgs false
open Go.RowKit Go.Sort

theorem spa_n {n : Nat} {es : List (Int × Int)} (hn : n ≤ 60) (hok : ∀ e ∈ es, OkE n e) (h : SpA es) (V : Nat) (h2 : 2 ≤ cntB n V) : spanS es V ≤ 2 * (cntB n V : Int) - 3 := by
  have e0 : cntB n (V % 2 ^ n) = cntB n V := by
    unfold cntB
    refine List.countP_congr (fun i hi => ?_)
    have := List.mem_range.1 hi
    rw [Nat.testBit_mod_two_pow, decide_eq_true this, Bool.true_and]
  have e1 := cntB_full (S := V % 2 ^ n) hn (fun x hx => by rw [Nat.testBit_mod_two_pow, decide_eq_false (by omega), Bool.false_and])
  rw [e0] at e1
  have e2 : spanS es (V % 2 ^ n) = spanS es V := spanS_congr (fun e hm => by
    obtain ⟨p1, p2, p3, p4, p5⟩ := hok e hm
    unfold bothB
    rw [Nat.testBit_mod_two_pow, Nat.testBit_mod_two_pow, decide_eq_true (by omega : e.1.toNat < n), decide_eq_true (by omega : e.2.toNat < n), Bool.true_and, Bool.true_and])
  have := h (V % 2 ^ n) (by rw [e1]; exact h2)
  rw [e1, e2] at this
  exact this
theorem spa_three {n : Nat} {es : List (Int × Int)} (hn : n ≤ 60) (hok : ∀ e ∈ es, OkE n e) (h : SpA es) (e : Int × Int) (V : Nat) (h2 : 2 ≤ cntB n V) : spanS (es ++ [e, e, e]) V ≤ 2 * (cntB n V : Int) := by
  have h1 := spa_n hn hok h V h2
  rw [spanS_app]
  have h3 := spanS_le [e, e, e] V
  simp at h3
  omega
theorem right_of_tails {n : Nat} {es : List (Int × Int)} {i : Nat} {l : List Int} (hok : ∀ e ∈ es, OkE n e) (hi : i < es.length) (hl : l.length = es.length + 3)
    (ht : ∀ j, j < es.length + 3 → l.getD j 0 = (((endOf (es ++ [edAt es i, edAt es i, edAt es i]) j 0 : Nat)) : Int) ∨ l.getD j 0 = (((endOf (es ++ [edAt es i, edAt es i, edAt es i]) j 1 : Nat)) : Int)) (hc : ∀ v, l.count v ≤ 2) : rightB es i l = true := by
  refine rightB_yes hl (fun j hj => ?_)
  have hoki := hok _ (edAt_mem hi)
  have hE : edAt (es ++ [edAt es i, edAt es i, edAt es i]) j = edgeOf es i j := by
    unfold edAt edgeOf
    by_cases h : j < es.length
    · rw [if_pos h, List.getD_eq_getElem?_getD, List.getElem?_append_left h, List.getD_eq_getElem?_getD]
    · rw [if_neg h, List.getD_eq_getElem?_getD, List.getElem?_append_right (by omega)]
      have : j - es.length = 0 ∨ j - es.length = 1 ∨ j - es.length = 2 := by omega
      rcases this with e | e | e <;> rw [e] <;> rfl
  have hokE : OkE n (edgeOf es i j) := by
    rw [← hE]
    unfold edAt
    by_cases h : j < es.length
    · rw [List.getD_eq_getElem?_getD, List.getElem?_append_left h, ← List.getD_eq_getElem?_getD]; exact hok _ (edAt_mem h)
    · rw [List.getD_eq_getElem?_getD, List.getElem?_append_right (by omega)]
      have : j - es.length = 0 ∨ j - es.length = 1 ∨ j - es.length = 2 := by omega
      rcases this with e | e | e <;> rw [e] <;> exact hoki
  obtain ⟨h1, h2, h3, h4, h5⟩ := hokE
  have htj := ht j (by omega)
  unfold endOf at htj
  rw [if_pos rfl, if_neg (by omega), hE] at htj
  have ht2 : tailAt es i l j = true := by
    unfold tailAt
    simp only [Bool.or_eq_true, decide_eq_true_eq]
    omega
  rw [rightAt_of_yes hj ht2 rfl rfl, decide_eq_true_eq]
  have h6 := cnt_take l j hj (l.getD j 0)
  rw [if_pos rfl] at h6
  have h7 := cnt_mono l (j + 1) (l.getD j 0)
  have h8 := hc (l.getD j 0)
  unfold cnt at h6 h7 ⊢
  omega
def OriR (N : Int) (es : List (Int × Int)) (ls : List (List Int)) (r : Bool) : Prop :=
  if validB N es = true ∧ rankE es = es.length then r = true ∧ ls.length = es.length ∧ ∀ j, j < es.length → rightB es j (ls.getD j []) = true else r = false ∧ ls = []
def OriPost (w : World) (N : Int) (es : List (Int × Int)) (e : Ending) (w' : World) : Prop :=
  Below w.heap.size w w' ∧ ∃ B c ls r, e = .returned (.tuple #[.slice B ls.length c, .bool r]) ∧ OwnL w' w.heap.size B ls.length c ls ∧ OriR N es ls r
/-- What lies in memory while one list of tails is made. -/
structure OF (w : World) (v : Nat) (n : Nat) (A : Option Addr) (m c x y : Nat) (wi : World) : Prop where
  p0 : wi.cell? ⟨w.heap.size, 0, none⟩ = some (.int .i64 (n : Int))
  p1 : wi.cell? ⟨w.heap.size, 1, none⟩ = some (.slice A m c)
  v0 : wi.cell? ⟨v, 0, none⟩ = some (.int .i64 (x : Int))
  v1 : wi.cell? ⟨v, 1, none⟩ = some (.int .i64 (y : Int))
  lt : w.heap.size < v
  size : v < wi.heap.size
theorem OF.next {w wi wj : World} {v n m c x y : Nat} {A : Option Addr} (h : OF w v n A m c x y wi) (hb : Below (v + 1) wi wj) : OF w v n A m c x y wj := by
  have h1 := h.lt
  exact ⟨by rw [hb.cell (by simp; omega)]; exact h.p0, by rw [hb.cell (by simp; omega)]; exact h.p1, by rw [hb.cell (by simp)]; exact h.v0, by rw [hb.cell (by simp)]; exact h.v1, h.lt, by have := hb.size; have := h.size; omega⟩
theorem oriR_yes {N : Int} {es : List (Int × Int)} {ls : List (List Int)} (h : validB N es = true) (hr : rankE es = es.length) (hl : ls.length = es.length) (ha : ∀ j, j < es.length → rightB es j (ls.getD j []) = true) : OriR N es ls true := by
  unfold OriR; rw [if_pos ⟨h, hr⟩]; exact ⟨rfl, hl, ha⟩
theorem oriR_no {N : Int} {es : List (Int × Int)} (h : ¬ (validB N es = true ∧ rankE es = es.length)) : OriR N es [] false := by
  unfold OriR; rw [if_neg h]; exact ⟨rfl, rfl⟩
end Go.Proofs.Ytagcaljpgifppaa

namespace Go.Proofs.Ytagcaljpgifppaa
set_option linter.unusedVariables false
set_option linter.unusedSimpArgs false
open Go.RowKit Go.Sort

def redB (es : List (Int × Int)) (i : Nat) : Bool := decide (rankE (es.eraseIdx i) = rankE es)
def redK (es : List (Int × Int)) (k : Nat) : List Int := ((List.range k).filter (redB es)).map fun (i : Nat) => (i : Int)
def redE (N : Int) (es : List (Int × Int)) : List Int := if validB N es = true then redK es es.length else []
theorem redK_step (es : List (Int × Int)) (k : Nat) : redK es (k + 1) = if redB es k = true then redK es k ++ [(k : Int)] else redK es k := by
  unfold redK
  rw [List.range_succ, List.filter_append, List.map_append]
  by_cases h : redB es k = true
  · rw [if_pos h]; simp [h]
  · rw [if_neg h]; simp [h]
theorem redK_le (es : List (Int × Int)) (k : Nat) : (redK es k).length ≤ k := by
  unfold redK
  rw [List.length_map]
  have := List.length_filter_le (redB es) (List.range k)
  simpa using this
set_option maxRecDepth 100000 in
set_option maxHeartbeats 8000000 in
theorem pred_any (N : Int) (A : Option Addr) (m c : Nat) (es : List (Int × Int)) (w : World) (hm : m ≤ 100000) (he : Rd w 2 A m (prs es)) :
    Calls Try.prog 18 #[.agg #[.int .i64 N, .slice A m c]] w (IntsPost w (redE N es)) := by
  have HE := Lib.hid he.prs_len
  have H1 := Lib.hid (he.keep (Keeps.alloc w (.cells #[.int .i64 N, .slice A m c] 24)))
  have S1 := Lib.hid ((Below.refl w.heap.size w).alloc (Nat.le_refl _) (.cells #[.int .i64 N, .slice A m c] 24))
  clear he
  cases hv : validB N es
  · have HV := Lib.hid hv
    have hi : redE N es = [] := by unfold redE; rw [hv]; rfl
    rw [hi]
    clear hv hi
    go_enter Try.func18, Try.ntmps18
    go_wp2_with (go_at_call 60; refine (gvalid_b (b := false) N _ m c es _ (by omega) H1.out HV.out).mono ?_; rintro e w1 ⟨rfl, hb1⟩)
    go_ret
    exact ⟨S1.out.trans (hb1.mono (by simp)), none, 0, rfl, Own.nil _ _ _ _⟩
  · have HV := Lib.hid hv
    have hi : redE N es = redK es es.length := by unfold redE; rw [hv]; rfl
    rw [hi, HE.out]
    have hlen := indE'_len hv
    obtain ⟨n, rfl, hn⟩ := nat_of_valid hv
    have HOK := Lib.hid (ok_of_valid hv)
    have hrk : rankE es ≤ m := by have := rank_le es; rw [HE.out] at this; exact this
    have HRB : Hid (∀ i : Nat, redB es i = decide (rankE (es.eraseIdx i) = rankE es)) := Lib.hid (fun i => rfl)
    generalize rankE es = rk at hlen hrk HRB
    have HLEN := Lib.hid hlen
    clear hv hi hlen
    go_enter Try.func18, Try.ntmps18
    go_wp2_with (first
      | (go_at_call 60; refine (gvalid_b (b := true) n _ m c es _ (by omega) H1.out HV.out).mono ?_; rintro e w1 ⟨rfl, hb1⟩; have S2 := Lib.hid (S1.out.trans (hb1.mono (by simp))); have R1 := Lib.hid (H1.out.keep (Keeps.of_below hb1 (Nat.le_refl _))); have p0 : w1.cell? ⟨w.heap.size, 0, none⟩ = some (.int .i64 n) := (by rw [hb1.cell (by simp)]; simp); have p1 : w1.cell? ⟨w.heap.size, 1, none⟩ = some (.slice A m c) := (by rw [hb1.cell (by simp)]; simp); have hz1 : w.heap.size < w1.heap.size := (by have := hb1.size; simp at this; omega); clear hb1)
      | (go_at_call 34; refine (pind_any n A m c es _ (by omega) R1.out).mono ?_; rintro e w2 ⟨hb2, B, cB, rfl, ho2⟩; have kk := Keeps.of_below hb2 (Nat.le_refl _); have p0 := kk _ _ p0; have p1 := kk _ _ p1; have S3 := Lib.hid (S2.out.trans (hb2.mono S2.out.size)); have R2 := Lib.hid (R1.out.keep kk); have hz2 := hb2.size; rw [HLEN.out]; clear hb2 ho2 kk)
      | fail)
    go_loopg [4, 5, 6, 7, 8, 18] m (fun k o _ _ _ _ t wr => ∃ (q : Nat) (D : Option Addr) (cD : Nat), t = .int .i64 q ∧ q ≤ m ∧ k = m - q ∧ o = .slice D (redK es q).length cD ∧ Own wr w2.heap.size 3 1 D (redK es q).length cD (ints (redK es q)) ∧ Below w2.heap.size w2 wr)
    case atStart => exact ⟨0, none, 0, rfl, by omega, rfl, rfl, Own.nil _ _ _ _, Below.refl _ _⟩
    case round =>
      obtain ⟨q, D, cD, rfl, hq, rfl, rfl, ho, hb⟩ := hrel
      have HO := Lib.hid ho
      have HB := Lib.hid hb
      have hsz := hb.size
      have kr := Keeps.of_below hb (Nat.le_refl _)
      have p0r := kr _ _ p0
      have p1r := kr _ _ p1
      have RR := Lib.hid (R2.out.keep kr)
      clear ho hb kr
      by_cases hlt : q < m
      · have hql := redK_le es q
        have HST := Lib.hid (redK_step es q)
        have HOKE : Hid (∀ e ∈ es.eraseIdx q, OkE n e) := Lib.hid (fun e he => HOK.out e (List.mem_of_mem_eraseIdx he))
        have HEL : Hid ((idxL (es.eraseIdx q)).length = rankE (es.eraseIdx q)) := Lib.hid (idxL_len _)
        have hre : rankE (es.eraseIdx q) ≤ m := by have := rank_le (es.eraseIdx q); have h2 := List.length_eraseIdx_le es q; rw [HE.out] at h2; omega
        have HRQ : Hid (redB es q = decide (rankE (es.eraseIdx q) = rk)) := Lib.hid (HRB.out q)
        generalize rankE (es.eraseIdx q) = re at HEL hre HRQ
        generalize hL : redK es q = L at HO hql HST ⊢
        generalize hLl : L.length = l at HO hql ⊢
        have HLL := Lib.hid hLl
        have hw : IntKind.i64.wrap ((q : Int) + 1) = (q : Int) + 1 := IntWalk.i64_in _ (by omega)
        clear hL hLl
        by_cases hred : re = rk
        · have hb1 : ((re : Int) == (rk : Int)) = true := by simp [hred]
          have HRED := Lib.hid hred
          clear hred
          go_wp2_with (first
            | (go_at_call 64; refine (clone_n A m c es _ RR.out (by omega)).mono ?_; rintro e w3 ⟨hb3, B3, c3, rfl, ho3⟩; obtain ⟨g3, rfl, -, -⟩ := ho3.some_ (by omega); have O3 := Lib.hid ho3; have B3b := Lib.hid hb3; clear ho3 hb3)
            | (go_at_call 63; refine (delp_own g3 m c3 es q _ _ O3.out hlt (by omega)).mono ?_; rintro e w4 ⟨rfl, ho4, hg4⟩; have O4 := Lib.hid ho4; have B4 : Hid (Below wr.heap.size wr w4) := Lib.hid (B3b.out.grown hg4 B3b.out.size (fun k hk => (O3.out.lt (by simpa [blk] using hk)).1)); have k4 := Keeps.of_below B4.out (Nat.le_refl _); have p04 := k4 _ _ p0r; clear ho4 hg4 k4)
            | (go_at_call 65; refine (play_any n _ _ _ (es.eraseIdx q) _ hn (by omega) O4.out.rd HOKE.out).mono ?_; rintro e w5 ⟨B5, c5, pt, rfl, ho5, hb5⟩; have B5b : Hid (Below wr.heap.size wr w5) := Lib.hid (B4.out.trans (hb5.mono B4.out.size)); rw [HEL.out]; have O5 := Lib.hid (HO.out.later B5b.out); have hz5 := B5b.out.size; clear ho5 hb5)
            | (at_builtin; refine wpList_app _ rfl (.tmp 39) (.tmp 41) 27 rfl w2.heap.size 3 (.int .i64 0) 1 8 Try.underlying27 info_int' rfl (by decide) D l cD (ints L) rfl (O5.out.alloc _) (some ⟨w5.heap.size, 0, none⟩) 1 1 (ints [(q : Int)]) rfl (rd_lit_at rfl [(q : Int)] _) (ints_one _) (by omega) (by unfold maxLen; omega) (by simp; omega) ?_; intro D7 c7 w7 ho7 hg7 hb7; have O7 := Lib.hid ho7; have BL7 := Lib.hid (((HB.out.trans (B5b.out.mono hsz)).alloc (by omega) (.cells #[.int .i64 (q : Int)] 3)).grown hg7 (by simp; omega) (fun k hk => (O5.out.lt hk).1)); clear ho7 hg7 hb7)
            | fail)
          have e0 : redB es q = true := by rw [HRQ.out]; exact decide_eq_true HRED.out
          have e1 : redK es (q + 1) = L ++ [(q : Int)] := by rw [HST.out, e0]; rfl
          have e3 : (L ++ [(q : Int)]).length = l + 1 := by rw [List.length_append, HLL.out]; rfl
          go_roundg (m - (q + 1))
          case measure => omega
          case rel => exact ⟨q + 1, D7, c7, by go_num, by omega, rfl, by rw [e1, e3], by rw [e1, e3, ints_app]; exact O7.out, BL7.out⟩
        · have hb1 : ((re : Int) == (rk : Int)) = false := by simp; omega
          have HRED := Lib.hid hred
          clear hred
          go_wp2_with (first
            | (go_at_call 64; refine (clone_n A m c es _ RR.out (by omega)).mono ?_; rintro e w3 ⟨hb3, B3, c3, rfl, ho3⟩; obtain ⟨g3, rfl, -, -⟩ := ho3.some_ (by omega); have O3 := Lib.hid ho3; have B3b := Lib.hid hb3; clear ho3 hb3)
            | (go_at_call 63; refine (delp_own g3 m c3 es q _ _ O3.out hlt (by omega)).mono ?_; rintro e w4 ⟨rfl, ho4, hg4⟩; have O4 := Lib.hid ho4; have B4 : Hid (Below wr.heap.size wr w4) := Lib.hid (B3b.out.grown hg4 B3b.out.size (fun k hk => (O3.out.lt (by simpa [blk] using hk)).1)); have k4 := Keeps.of_below B4.out (Nat.le_refl _); have p04 := k4 _ _ p0r; clear ho4 hg4 k4)
            | (go_at_call 65; refine (play_any n _ _ _ (es.eraseIdx q) _ hn (by omega) O4.out.rd HOKE.out).mono ?_; rintro e w5 ⟨B5, c5, pt, rfl, ho5, hb5⟩; have B5b : Hid (Below wr.heap.size wr w5) := Lib.hid (B4.out.trans (hb5.mono B4.out.size)); rw [HEL.out]; have O5 := Lib.hid (HO.out.later B5b.out); have hz5 := B5b.out.size; clear ho5 hb5)
            | fail)
          have e0 : redB es q = false := by rw [HRQ.out]; exact decide_eq_false HRED.out
          have e1 : redK es (q + 1) = L := by rw [HST.out, e0]; rfl
          go_roundg (m - (q + 1))
          case measure => omega
          case rel => exact ⟨q + 1, D, cD, by go_num, by omega, rfl, by rw [e1, HLL.out], by rw [e1, HLL.out]; exact O5.out, HB.out.trans (B5b.out.mono hsz)⟩
      · obtain rfl : q = m := by omega
        go_wp2_with fail
        go_ret
        exact ⟨S3.out.trans (HB.out.mono S3.out.size), D, cD, rfl, HO.out.base_le S3.out.size⟩
end Go.Proofs.Ytagcaljpgifppaa

namespace Go.Proofs.Ytagcaljpgifppaa
set_option linter.unusedVariables false
set_option linter.unusedSimpArgs false
open Go.RowKit Go.Sort

/-- vis' is vis and what a leads to. -/
structure Rch (out : List (List Int)) (vis : List Bool) (a : Nat) (vis' : List Bool) : Prop where
  len : vis'.length = vis.length
  mono : ∀ x, visB vis x = true → visB vis' x = true
  self : visB vis' a = true
  shut : ∀ x, visB vis' x = true → visB vis x = false → ∀ y ∈ rowOf out x, visB vis' y.toNat = true
  least : ∀ V : Nat, V.testBit a = true → (∀ x, V.testBit x = true → ∀ y ∈ rowOf out x, V.testBit y.toNat = true) → ∀ x, visB vis' x = true → visB vis x = true ∨ V.testBit x = true
/-- The loop over a's edges has come to number q. -/
structure RInv (out : List (List Int)) (vis : List Bool) (a q : Nat) (vis1 : List Bool) : Prop where
  len : vis1.length = vis.length
  mono : ∀ x, visB (vis.set a true) x = true → visB vis1 x = true
  done : ∀ (j : Nat) (b : Int), j < q → (rowOf out a)[j]? = some b → visB vis1 b.toNat = true
  shut : ∀ x, visB vis1 x = true → visB (vis.set a true) x = false → ∀ y ∈ rowOf out x, visB vis1 y.toNat = true
  least : ∀ V : Nat, V.testBit a = true → (∀ x, V.testBit x = true → ∀ y ∈ rowOf out x, V.testBit y.toNat = true) → ∀ x, visB vis1 x = true → visB vis x = true ∨ V.testBit x = true
theorem RInv.start {out : List (List Int)} {vis : List Bool} {a : Nat} (ha : a < vis.length) : RInv out vis a 0 (vis.set a true) :=
  ⟨by simp, fun _ h => h, fun j b hj => by omega, fun x h1 h2 => (by rw [h1] at h2; cases h2), fun V hV _ x hx => by
    rw [visB_set _ _ _ ha, Bool.or_eq_true] at hx
    rcases hx with hx | hx
    · simp at hx; subst hx; exact .inr hV
    · exact .inl hx⟩
theorem RInv.step {out : List (List Int)} {vis vis1 vis2 : List Bool} {a q y : Nat} (h : RInv out vis a q vis1) (hy : (rowOf out a)[q]? = some (y : Int)) (hr : Rch out vis1 y vis2) : RInv out vis a (q + 1) vis2 := by
  refine ⟨by rw [hr.len, h.len], fun x hx => hr.mono x (h.mono x hx), fun j b hj hb => ?_, fun x h1 h2 z hz => ?_, fun V hV hc x hx => ?_⟩
  · by_cases e : j = q
    · subst e; rw [hy] at hb; injection hb with hb; subst hb; simpa using hr.self
    · exact hr.mono _ (h.done j b (by omega) hb)
  · cases h3 : visB vis1 x
    · exact hr.shut x h1 h3 z hz
    · exact hr.mono _ (h.shut x h3 h2 z hz)
  · have hVy : V.testBit y = true := by have := hc a hV y (getI_mem hy); simpa using this
    rcases hr.least V hVy hc x hx with h1 | h1
    · exact h.least V hV hc x h1
    · exact .inr h1
theorem RInv.fin {out : List (List Int)} {vis vis1 : List Bool} {a q : Nat} (ha : a < vis.length) (h : RInv out vis a q vis1) (hq : (rowOf out a).length ≤ q) : Rch out vis a vis1 := by
  refine ⟨h.len, fun x hx => h.mono x (visB_mono ha hx), h.mono a (by rw [visB_set _ _ _ ha]; simp), fun x h1 h2 y hy => ?_, h.least⟩
  by_cases e : x = a
  · subst e
    obtain ⟨j, hj, rfl⟩ := List.getElem_of_mem hy
    exact h.done j _ (by omega) (List.getElem?_eq_getElem hj)
  · exact h.shut x h1 (by rw [visB_set _ _ _ ha, h2]; simp [e]) y hy
theorem Rch.same {out : List (List Int)} {vis : List Bool} {a : Nat} (h : visB vis a = true) : Rch out vis a vis :=
  ⟨rfl, fun _ h => h, h, fun x h1 h2 => (by rw [h1] at h2; cases h2), fun _ _ _ x hx => .inl hx⟩

def ReachAt (n u : Nat) : Prop := ∀ (w : World) (base bv b go c : Nat) (hs : List (Option Addr × Nat)) (out : List (List Int)) (gv : Nat) (vis : List Bool) (a : Nat), n ≤ cV n vis + u → GM w base b go n c hs out → GS n out →
    Own w bv 4 1 (some ⟨gv, 0, none⟩) n n (bools vis) → a < n →
    Calls Try.prog 107 #[.pointer (some ⟨b, 0, none⟩), .int .i64 a, .slice (some ⟨gv, 0, none⟩) n n] w fun e w' => ∃ vis', e = .returned (.tuple #[]) ∧ Rch out vis a vis' ∧ Own w' bv 4 1 (some ⟨gv, 0, none⟩) n n (bools vis') ∧ Fr (fun k => k = gv) w w'
set_option maxRecDepth 100000 in
set_option maxHeartbeats 8000000 in
theorem reach_step (n u : Nat) (hn : n ≤ 60) (IH : ∀ u', u' < u → ReachAt n u') : ReachAt n u := by
  intro w base bv b go c hs out gv vis a hu hg hgs hov ha
  have HU := Lib.hid hu
  have HG := Lib.hid hg
  have HGS := Lib.hid hgs
  have HV := Lib.hid hov
  have HIH := Lib.hid IH
  have a0 : (0 : Int) ≤ (a : Int) := by omega
  have a1 : (a : Int) < (n : Int) := by omega
  have cv := hov.cellB ha
  have fv := hov.frozen a
  have nft := vis_not_ft hg hov
  have n1 : gv ≠ b := fun e => by
    obtain ⟨cur, h1⟩ := hov.block_type (g := gv) rfl
    rw [e, hg.st] at h1; injection h1 with h1; injection h1 with _ h1; revert h1; decide
  cases hva : visB vis a
  · rw [hva] at cv
    have HVA := Lib.hid hva
    have hfr : Fr (fun k => k = gv) w (w.setCell ⟨gv, a, none⟩ (.bool true)) := (Fr.refl (fun k => k = gv) w).setCell (p := ⟨gv, a, none⟩) (.inl rfl) _
    have HFR := Lib.hid hfr
    have HN := Lib.hid nft
    have hg1 := hg.fr hfr (fun k hk e => nft (e ▸ hk)) (Ne.symm n1)
    obtain ⟨⟨Ah, ch⟩, hh, -, cr1, orow⟩ := hg1.row_at ha
    have cb1 := hg1.cell
    have HH := Lib.hid hh
    have HG1 := Lib.hid hg1
    have hlen2 := hgs.two a
    generalize hln : (rowOf out a).length = ln at cr1 hlen2
    have HLN := Lib.hid hln
    have n1' := Ne.symm n1
    clear hu hg hgs hov hh orow hln IH hva hfr nft hg1
    go_enter Try.func107, Try.ntmps107
    go_wp2_with fail
    go_loopg [7, 23] ln (fun k _ t wr => ∃ (q : Nat) (vis1 : List Bool), t = .int .i64 q ∧ q ≤ ln ∧ k = ln - q ∧ RInv out vis a q vis1 ∧ Own wr bv 4 1 (some ⟨gv, 0, none⟩) n n (bools vis1) ∧ Fr (fun k => k = gv) w wr)
    case atStart => exact ⟨0, vis.set a true, rfl, Nat.zero_le _, rfl, RInv.start (by rw [HV.out.blen]; exact ha), HV.out.storeB a true, HFR.out⟩
    case round =>
      obtain ⟨q, vis1, rfl, hq, rfl, hri, hv1, hf1⟩ := hrel
      have HRI := Lib.hid hri
      have HV1 := Lib.hid hv1
      have HF1 := Lib.hid hf1
      have hg2 := HG.out.fr hf1 (fun k hk e => HN.out (e ▸ hk)) n1'
      have HG2 := Lib.hid hg2
      clear hri hv1 hf1 hg2
      by_cases hlt : q < ln
      · obtain ⟨hd', hh', -, -, orow⟩ := HG2.out.row_at ha
        rw [HH.out] at hh'
        injection hh' with hh'
        subst hh'
        simp only at orow
        rw [HLN.out] at orow
        obtain ⟨ad, rfl, hql, c0⟩ := orow.rd.int_at hlt
        have hgx : (rowOf out a)[q]? = some ((rowOf out a).getD q 0) := by rw [List.getD_eq_getElem?_getD, List.getElem?_eq_getElem hql]; rfl
        have hmem := HGS.out.mem a _ (getI_mem hgx)
        obtain ⟨y, hy⟩ : ∃ y : Nat, (rowOf out a).getD q 0 = (y : Int) := ⟨((rowOf out a).getD q 0).toNat, by omega⟩
        rw [hy] at c0 hmem hgx
        have HGX := Lib.hid hgx
        have hyn : y < n := by omega
        have hcs := cV_set ha HV.out.blen HVA.out
        have hcm : cV n (vis.set a true) ≤ cV n vis1 := cV_mono HRI.out.mono
        have hcl := cV_le n vis1
        have HI := Lib.hid (HIH.out (n - cV n vis1) (by have := HU.out; omega) wr base bv b go c hs out gv vis1 y (by omega) HG2.out HGS.out HV1.out hyn)
        clear orow hql hgx hmem hy hcs hcm hcl
        go_wp2_with (first
          | (go_at_call 107; refine HI.out.mono ?_; rintro e w5 ⟨vis5, rfl, hr5, hv5, hf5⟩; have R5 := Lib.hid (And.intro hr5 (And.intro hv5 hf5)); clear hr5 hv5 hf5)
          | fail)
        go_roundg (ln - (q + 1))
        case measure => omega
        case rel => exact ⟨q + 1, vis5, by go_num, by omega, rfl, HRI.out.step HGX.out R5.out.1, R5.out.2.1, HF1.out.trans R5.out.2.2 (fun _ _ h => h)⟩
      · obtain rfl : q = ln := by omega
        go_wp2_with fail
        go_end0
        exact ⟨vis1, rfl, HRI.out.fin (by rw [HV.out.blen]; exact ha) (by rw [HLN.out]; exact Nat.le_refl _), HV1.out, HF1.out⟩
  · rw [hva] at cv
    have HVA := Lib.hid hva
    clear hu hg hgs hov IH hva nft
    go_enter Try.func107, Try.ntmps107
    go_wp2_with fail
    refine bodyPost_ret (results_none rfl _ _ _) rfl ?_
    exact ⟨vis, rfl, Rch.same HVA.out, HV.out, Fr.refl _ _⟩
theorem reach_any {n : Nat} (hn : n ≤ 60) (u : Nat) : ReachAt n u := by
  induction u using Nat.strongRecOn with
  | _ u ih => exact reach_step n u hn ih
end Go.Proofs.Ytagcaljpgifppaa

namespace Go.Proofs.Ytagcaljpgifppaa
set_option linter.unusedVariables false
set_option linter.unusedSimpArgs false
open Go.RowKit Go.Sort

theorem spanS_cho (es : List (Int × Int)) (S : Nat) : ∀ k, k ≤ es.length → spanS (choK es k) S ≤ spanS (es.take k) S := by
  intro k
  induction k with
  | zero => intro _; rw [choK_zero]; simp
  | succ k ih =>
    intro hk
    have h1 := ih (by omega)
    have e : es.take (k + 1) = es.take k ++ [edAt es k] := by
      rw [List.take_succ_eq_append_getElem (by omega)]
      unfold edAt
      rw [List.getD_eq_getElem?_getD, List.getElem?_eq_getElem (by omega)]; rfl
    rw [choK_step (by omega), e, spanS_app]
    have h2 := spanS_nonneg [edAt es k] S
    split
    · rw [spanS_app]; omega
    · omega
theorem span_more {es : List (Int × Int)} {S k : Nat} (hk : k < es.length) (hb : bothB S (edAt es k) = true) : spanS (choK es k) S + 1 ≤ spanS es S := by
  have e : es.take (k + 1) = es.take k ++ [edAt es k] := by
    rw [List.take_succ_eq_append_getElem hk]
    unfold edAt
    rw [List.getD_eq_getElem?_getD, List.getElem?_eq_getElem hk]; rfl
  have h1 := spanS_cho es S k (by omega)
  have h2 : spanS es S = spanS (es.take (k + 1)) S + spanS (es.drop (k + 1)) S := by rw [← spanS_app, List.take_append_drop]
  rw [e, spanS_app, spanS_one, if_pos hb] at h2
  have h3 := spanS_nonneg (es.drop (k + 1)) S
  omega
theorem vio_set {n k p q : Nat} {es : List (Int × Int)} {out out' : List (List Int)} {vis1 vis2 : List Bool} (hn : n ≤ 60) (hk : k < es.length) (hxy : edAt es k = ((p : Int), (q : Int))) (hacc : Acc n out p q false out') (hi : GInv n out (choK es k))
    (hp : p < n) (hq : q < n) (hpq : p ≠ q) (r1 : Rch out' (List.replicate n false) p vis1) (r2 : Rch out' vis1 q vis2) :
    2 ≤ cntB n (visS vis2) ∧ 2 * (cntB n (visS vis2) : Int) - 3 < spanS es (visS vis2) := by
  obtain ⟨-, hi2, hv⟩ := hacc.inv hi hn hp hq hpq
  obtain ⟨V, hV, -⟩ := hv rfl
  rw [if_neg (by simp)] at hi2
  have hlens : 1 ≤ (rowOf out' p).length + (rowOf out' q).length := by
    obtain ⟨o1, o2, -, -, h⟩ := hacc
    rcases h with ⟨h, -⟩ | ⟨-, h, rfl⟩
    · cases h
    · exact h
  have hin : ∀ x, visB vis2 x = true → V.testBit x = true := fun x hx => by
    rcases r2.least V hV.hq hV.go x hx with h | h
    · rcases r1.least V hV.hp hV.go x h with h | h
      · rw [visB_none] at h; cases h
      · exact h
    · exact h
  have hT : Tight out' p q (visS vis2) := by
    refine ⟨by rw [visS_bit]; exact r2.mono _ r1.self, by rw [visS_bit]; exact r2.self, fun x hx y hy => ?_, fun x hx h1 h2 => hV.two x (hin x (by rw [← visS_bit]; exact hx)) h1 h2⟩
    rw [visS_bit] at hx ⊢
    cases h1 : visB vis1 x
    · exact r2.shut x hx h1 y hy
    · exact r2.mono _ (r1.shut x h1 (visB_none _ _) y hy)
  have hsp := hi2.span hp hq hpq hT hlens
  have hb : bothB (visS vis2) (edAt es k) = true := by rw [hxy]; unfold bothB; simp only [Int.toNat_natCast]; rw [hT.hp, hT.hq]; rfl
  have h1 := span_more hk hb
  have h2 : 2 ≤ cntB n (visS vis2) := by
    unfold cntB
    have hne : p ≠ q := hpq
    have key : ∀ (S : Nat), S.testBit p = true → S.testBit q = true → 2 ≤ (List.range n).countP (fun i => S.testBit i) := by
      intro S h1 h2
      have h3 : (List.range n).countP (fun i => decide (p = i)) + (List.range n).countP (fun i => decide (q = i)) ≤ (List.range n).countP (fun i => S.testBit i) := by
        have := countP_or_and (fun i => decide (p = i)) (fun i => decide (q = i)) (List.range n)
        have h0 : (List.range n).countP (fun i => decide (p = i) && decide (q = i)) = 0 := by
          rw [List.countP_eq_zero]; intro i _; simp; intro e; omega
        rw [h0, Nat.add_zero] at this
        rw [← this]
        refine List.countP_mono_left (fun i _ hi => ?_)
        simp at hi
        rcases hi with rfl | rfl <;> assumption
      rw [countP_eq_range n p hp, countP_eq_range n q hq] at h3
      exact h3
    exact key _ hT.hp hT.hq
  exact ⟨h2, by omega⟩
theorem idxK_grow (es : List (Int × Int)) (k : Nat) : ∀ j, (idxK es (k + j)).length ≤ (idxK es k).length + j := by
  intro j
  induction j with
  | zero => exact Nat.le_refl _
  | succ j ih =>
    rw [← Nat.add_assoc, idxK_step]
    split
    · simp; omega
    · omega
theorem rank_lt {es : List (Int × Int)} {k : Nat} (hk : k < es.length) (h : takB es k = false) : rankE es < es.length := by
  rw [← idxL_len]
  unfold idxL
  have h1 := idxK_grow es (k + 1) (es.length - (k + 1))
  rw [show k + 1 + (es.length - (k + 1)) = es.length by omega, idxK_step, if_neg (by rw [h]; simp)] at h1
  have := idxK_le es k
  omega
def VioR (N : Int) (es : List (Int × Int)) (l : List Int) (r : Bool) : Prop :=
  (validB N es = false → l = [] ∧ r = false) ∧ (validB N es = true → (r = false ∧ l = [] ∧ rankE es = es.length) ∨ (r = true ∧ rankE es < es.length ∧ ∃ S, l = ptsK N.toNat S ∧ 2 ≤ l.length ∧ 2 * (l.length : Int) - 3 < spanS es S))
def VioPost (w : World) (N : Int) (es : List (Int × Int)) (e : Ending) (w' : World) : Prop :=
  Below w.heap.size w w' ∧ ∃ B c l r, e = .returned (.tuple #[.slice B l.length c, .bool r]) ∧ Own w' w.heap.size 3 1 B l.length c (ints l) ∧ VioR N es l r

set_option maxRecDepth 100000 in
set_option maxHeartbeats 8000000 in
theorem pvio_any (N : Int) (A : Option Addr) (m c : Nat) (es : List (Int × Int)) (w : World) (hm : m ≤ 100000) (he : Rd w 2 A m (prs es)) :
    Calls Try.prog 59 #[.agg #[.int .i64 N, .slice A m c]] w (VioPost w N es) := by
  have HE := Lib.hid he.prs_len
  have H1 := Lib.hid (he.keep (Keeps.alloc w (.cells #[.int .i64 N, .slice A m c] 24)))
  have S1 := Lib.hid ((Below.refl w.heap.size w).alloc (Nat.le_refl _) (.cells #[.int .i64 N, .slice A m c] 24))
  clear he
  cases hv : validB N es
  · have HV := Lib.hid hv
    clear hv
    go_enter Try.func59, Try.ntmps59
    go_wp2_with (go_at_call 60; refine (gvalid_b (b := false) N _ m c es _ (by omega) H1.out HV.out).mono ?_; rintro e w1 ⟨rfl, hb1⟩)
    go_ret2
    exact ⟨S1.out.trans (hb1.mono (by simp)), none, 0, [], false, rfl, Own.nil _ _ _ _, fun _ => ⟨rfl, rfl⟩, fun h => by rw [HV.out] at h; cases h⟩
  · have HV := Lib.hid hv
    obtain ⟨n, rfl, hn⟩ := nat_of_valid hv
    have HOK := Lib.hid (ok_of_valid hv)
    have hmk := run_make_row' (P := Try.prog) 98 4 (.bool false) 1 Try.underlying98 info_bool rfl .i64 .i64 n (by omega) (by omega)
    clear hv
    go_enter Try.func59, Try.ntmps59
    go_wp2_with (first
      | (go_at_call 60; refine (gvalid_b (b := true) n _ m c es _ (by omega) H1.out HV.out).mono ?_; rintro e w1 ⟨rfl, hb1⟩; have S2 := Lib.hid (S1.out.trans (hb1.mono (by simp))); have R1 := Lib.hid (H1.out.keep (Keeps.of_below hb1 (Nat.le_refl _))); have p0 : w1.cell? ⟨w.heap.size, 0, none⟩ = some (.int .i64 n) := (by rw [hb1.cell (by simp)]; simp); have p1 : w1.cell? ⟨w.heap.size, 1, none⟩ = some (.slice A m c) := (by rw [hb1.cell (by simp)]; simp); have hz1 : w.heap.size < w1.heap.size := (by have := hb1.size; simp at this; omega); clear hb1)
      | (go_at_call 105; refine (start_any n w1 hn).mono ?_; rintro e w2 ⟨rfl, hw2⟩; have B2 : Hid (Below w1.heap.size w1 w2) := Lib.hid (by rw [hw2]; exact ((Below.refl _ _).alloc (Nat.le_refl _) _).alloc (by simp) _); have G2 : Hid (GM w2 w1.heap.size (w1.heap.size + 1) w1.heap.size n n (List.replicate n (none, 0)) (List.replicate n [])) := Lib.hid (by rw [hw2]; exact gm_start n (by unfold maxLen; omega) (Nat.le_refl _)); have p02 := Keeps.of_below B2.out (Nat.le_refl _) _ _ p0; have p12 := Keeps.of_below B2.out (Nat.le_refl _) _ _ p1; clear hw2)
      | fail)
    go_loopg [6, 7, 8, 9, 10, 20] m (fun k _ _ _ _ _ t wr => ∃ (q : Nat) (hs : List (Option Addr × Nat)) (out1 : List (List Int)), t = .int .i64 q ∧ q ≤ m ∧ k = m - q ∧ GM wr w1.heap.size (w1.heap.size + 1) w1.heap.size n n hs out1 ∧ GInv n out1 (choK es q) ∧ (idxK es q).length = q ∧ Below w1.heap.size w1 wr)
    case atStart => exact ⟨0, _, _, rfl, by omega, rfl, G2.out, by rw [choK_zero]; exact GInv.start n, rfl, B2.out⟩
    case round =>
      obtain ⟨q, hs, out1, rfl, hq, rfl, hg, hi, hix, hb⟩ := hrel
      have HG := Lib.hid hg
      have HI := Lib.hid hi
      have HIX := Lib.hid hix
      have HBL := Lib.hid hb
      have hsz := hb.size
      have p0r := Keeps.of_below hb (Nat.le_refl _) _ _ p0
      clear hg hi hix hb
      by_cases hlt : q < m
      · obtain ⟨ad, rfl, c0, c1⟩ := (R1.out.keep (Keeps.of_below HBL.out (Nat.le_refl _))).prs_at hlt
        obtain ⟨x, y, hxy, hx, hy, hne⟩ := edge_nat HOK.out (k := q) (by rw [HE.out]; exact hlt)
        rw [getD_edAt, hxy] at c0 c1
        simp only at c0 c1
        have HXY := Lib.hid hxy
        have HAC := Lib.hid (accept_any (wr.alloc (.cells #[.int .i64 (x : Int), .int .i64 (y : Int)] 42)) w1.heap.size (w1.heap.size + 1) w1.heap.size n n hs out1 x y hn (HG.out.later ((Below.refl _ _).alloc (Nat.le_refl _) _)) HI.out.gs hx hy hne)
        have HST := Lib.hid (idxK_step es q)
        have HCT := Lib.hid (choK_step (es := es) (k := q) (by rw [HE.out]; exact hlt))
        have nvar : ¬ Ft w1.heap.size hs wr.heap.size := fun h => by have := (HG.out.om.ft (A := none) h).2.1; omega
        have NV := Lib.hid nvar
        clear hxy nvar
        go_wp2_with (first
          | (go_at_call 106; refine HAC.out.mono ?_; rintro e w5 ⟨r, out5, hs5, rfl, hg5, hst5, hacc⟩; have HG5 := Lib.hid hg5; have HA5 := Lib.hid hacc; have hb5 := hst5.below (HG.out.later ((Below.refl _ _).alloc (Nat.le_refl _) _)).om (B := w1.heap.size) (by simp; omega) (Nat.le_refl _) (fun _ _ h => h.elim); have HB5 := Lib.hid ((HBL.out.alloc hsz (.cells #[.int .i64 (x : Int), .int .i64 (y : Int)] 42)).trans hb5); have hz5 := HB5.out.size; have p05 := Keeps.of_below HB5.out (Nat.le_refl _) _ _ p0; have v05 : w5.cell? ⟨wr.heap.size, 0, none⟩ = some (.int .i64 (x : Int)) := (hst5.fr.keep (p := ⟨wr.heap.size, 0, none⟩) (by simp) (fun h => h.elim NV.out id)); have v15 : w5.cell? ⟨wr.heap.size, 1, none⟩ = some (.int .i64 (y : Int)) := (hst5.fr.keep (p := ⟨wr.heap.size, 1, none⟩) (by simp) (fun h => h.elim NV.out id)); have hzr : wr.heap.size < w5.heap.size := (by have := hst5.fr.size; simp at this; omega); have v05a : (w5.alloc (.cells (madeCells #[.bool false] n) 4)).cell? ⟨wr.heap.size, 0, none⟩ = some (.int .i64 (x : Int)) := (Keeps.alloc w5 _ _ _ v05); have v15a : (w5.alloc (.cells (madeCells #[.bool false] n) 4)).cell? ⟨wr.heap.size, 1, none⟩ = some (.int .i64 (y : Int)) := (Keeps.alloc w5 _ _ _ v15); clear hg5 hst5 hacc hb5; cases r)
          | (go_at_call_of 107 (Value.int .i64 (x : Int)); refine (reach_any hn n (w5.alloc (.cells (madeCells #[.bool false] n) 4)) w1.heap.size w5.heap.size (w1.heap.size + 1) w1.heap.size n hs5 out5 w5.heap.size (List.replicate n false) x (by omega) (HG5.out.later ((Below.refl _ _).alloc (Nat.le_refl _) _)) (HA5.out.inv HI.out hn hx hy hne).2.1.gs (own_madeB rfl n (by unfold maxLen; omega) (Nat.le_refl _)) hx).mono ?_; rintro e w6 ⟨vis6, rfl, hr6, hv6, hf6⟩; have HR6 := Lib.hid hr6; have HV6 := Lib.hid hv6; have HF6 := Lib.hid hf6; have v16 : w6.cell? ⟨wr.heap.size, 1, none⟩ = some (.int .i64 (y : Int)) := (hf6.keep v15a (by simp; omega)); have hz6 : w5.heap.size < w6.heap.size := (by have := hf6.size; simp at this; omega); have GM6 := Lib.hid (GM.fr (HG5.out.later ((Below.refl _ _).alloc (Nat.le_refl _) (.cells (madeCells #[.bool false] n) 4))) hf6 (fun k hk e => by have := (HG5.out.om.ft (A := none) hk).2.1; omega) (by have := HG5.out.lt; omega)); clear hr6 hv6 hf6)
          | (go_at_call_of 107 (Value.int .i64 (y : Int)); refine (reach_any hn n w6 w1.heap.size w5.heap.size (w1.heap.size + 1) w1.heap.size n hs5 out5 w5.heap.size vis6 y (by omega) GM6.out (HA5.out.inv HI.out hn hx hy hne).2.1.gs HV6.out hy).mono ?_; rintro e w7 ⟨vis7, rfl, hr7, hv7, hf7⟩; have HR7 := Lib.hid hr7; have HV7 := Lib.hid hv7; have HF7 := Lib.hid hf7; have hz7 : w5.heap.size < w7.heap.size := (by have := hf7.size; omega); clear hr7 hv7 hf7)
          | fail)
        · have HB7 : Hid (Below w1.heap.size w1 w7) := Lib.hid (((HB5.out.alloc hz5 _).trans (HF6.out.below (B := w1.heap.size) (by simp; omega) (fun k _ hk => by omega))).trans (HF7.out.below (B := w1.heap.size) (by omega) (fun k _ hk => by omega)))
          have HVS := Lib.hid (vio_set hn (by rw [HE.out]; exact hlt) HXY.out HA5.out HI.out hx hy hne HR6.out HR7.out)
          have HTK : Hid (takB es q = false) := Lib.hid (by unfold takB; rw [HXY.out]; exact (HA5.out.inv HI.out hn hx hy hne).1.symm)
          clear v05 v15 v05a v15a p05 v16 c0 c1 p0r
          go_loopg [8, 9, 10, 45] n (fun k o _ _ t wi => ∃ (j : Nat) (D : Option Addr) (cD : Nat), t = .int .i64 j ∧ j ≤ n ∧ k = n - j ∧ o = .slice D (ptsK j (visS vis7)).length cD ∧ Own wi w7.heap.size 3 1 D (ptsK j (visS vis7)).length cD (ints (ptsK j (visS vis7))) ∧ Below w7.heap.size w7 wi)
          case atStart => exact ⟨0, none, 0, rfl, by omega, rfl, rfl, Own.nil _ _ _ _, Below.refl _ _⟩
          case round =>
            obtain ⟨j, D, cD, rfl, hj, rfl, rfl, ho, hb⟩ := hrel
            have HO := Lib.hid ho
            have HB := Lib.hid hb
            have hszi := hb.size
            rename World => wi
            have HVi := Lib.hid (HV7.out.later hb)
            clear ho hb
            by_cases hltj : j < n
            · have cj := HVi.out.cellB hltj
              have hql := ptsK_length_le j (visS vis7)
              have hbit := visS_bit vis7 j
              cases hvj : visB vis7 j
              · rw [hvj] at cj hbit
                have e1 := ptsK_miss hbit
                have HE1 := Lib.hid e1
                clear hbit e1 hvj
                go_wp2_with fail
                go_roundg (n - (j + 1))
                case measure => omega
                case rel => exact ⟨j + 1, D, cD, by go_num, by omega, rfl, by rw [HE1.out], by rw [HE1.out]; exact HO.out, HB.out⟩
              · rw [hvj] at cj hbit
                have e1 := ptsK_hit hbit
                generalize hL : ptsK j (visS vis7) = L at HO hql e1 ⊢
                generalize hLl : L.length = l at HO hql ⊢
                have HLL := Lib.hid hLl
                have HE1 := Lib.hid e1
                clear hbit e1 hvj hL hLl
                go_wp2_with (first
                  | (at_builtin; refine wpList_app _ rfl (.tmp 51) (.tmp 53) 27 rfl w7.heap.size 3 (.int .i64 0) 1 8 Try.underlying27 info_int' rfl (by decide) D l cD (ints L) rfl (HO.out.alloc _) (some ⟨wi.heap.size, 0, none⟩) 1 1 (ints [(j : Int)]) rfl (rd_lit_at rfl [(j : Int)] _) (ints_one _) (by omega) (by unfold maxLen; omega) (by simp; omega) ?_; intro D8 c8 w8 ho8 hg8 hb8; have O8 := Lib.hid ho8; have BL8 := Lib.hid ((HB.out.alloc (by omega) (.cells #[.int .i64 (j : Int)] 3)).grown hg8 (by simp; omega) (fun k hk => (HO.out.lt hk).1)); clear ho8 hg8 hb8)
                  | fail)
                have e3 : (L ++ [(j : Int)]).length = l + 1 := by rw [List.length_append, HLL.out]; rfl
                go_roundg (n - (j + 1))
                case measure => omega
                case rel => exact ⟨j + 1, D8, c8, by go_num, by omega, rfl, by rw [HE1.out, e3], by rw [HE1.out, e3, ints_app]; exact O8.out, BL8.out⟩
            · obtain rfl : j = n := by omega
              go_wp2_with fail
              go_ret2
              refine ⟨S2.out.trans ((HB7.out.mono S2.out.size).trans (HB.out.mono (by have := HB7.out.size; have := S2.out.size; omega))), D, cD, ptsK j (visS vis7), true, rfl, HO.out.base_le (by have := HB7.out.size; have := S2.out.size; omega), fun h => ?_, fun _ => .inr ⟨rfl, rank_lt (by rw [HE.out]; exact hlt) HTK.out, visS vis7, by simp, ?_⟩⟩
              · rw [HV.out] at h; cases h
              · rw [ptsK_length]; exact HVS.out
        · obtain ⟨h1, h2, -⟩ := HA5.out.inv HI.out hn hx hy hne
          have ht : takB es q = true := by unfold takB; rw [HXY.out]; exact h1.symm
          have e1 : idxK es (q + 1) = idxK es q ++ [(q : Int)] := by rw [HST.out, ht]; rfl
          have e2 : choK es (q + 1) = choK es q ++ [((x : Int), (y : Int))] := by rw [HCT.out, ht, HXY.out]; rfl
          go_roundg (m - (q + 1))
          case measure => omega
          case rel => exact ⟨q + 1, hs5, out5, by go_num, by omega, rfl, HG5.out, by rw [e2]; exact h2, by rw [e1, List.length_append, HIX.out]; rfl, HB5.out⟩
      · obtain rfl : q = m := by omega
        go_wp2_with fail
        go_ret2
        refine ⟨S2.out.trans (HBL.out.mono S2.out.size), none, 0, [], false, rfl, Own.nil _ _ _ _, fun h => ?_, fun _ => .inl ⟨rfl, rfl, ?_⟩⟩
        · rw [HV.out] at h; cases h
        · rw [← idxL_len]; unfold idxL; rw [HE.out]; exact HIX.out
end Go.Proofs.Ytagcaljpgifppaa

namespace Go.Proofs.Ytagcaljpgifppaa
set_option linter.unusedVariables false
set_option linter.unusedSimpArgs false
open Go.RowKit Go.Sort

attribute [local go_sem ↓] Go.wp_at_zero Go.wp_at_succ
theorem getD_snoc {α : Type} (l : List α) (x d : α) (j : Nat) : (l ++ [x]).getD j d = if j = l.length then x else l.getD j d := by
  rw [List.getD_eq_getElem?_getD, List.getD_eq_getElem?_getD]
  by_cases h : j < l.length
  · rw [List.getElem?_append_left h, if_neg (by omega)]
  · rw [List.getElem?_append_right (by omega)]
    by_cases e : j = l.length
    · subst e; simp
    · rw [if_neg e, List.getElem?_eq_none (by simp; omega), List.getElem?_eq_none (by omega)]
set_option maxRecDepth 100000 in
set_option maxHeartbeats 16000000 in
theorem pori_any (N : Int) (A : Option Addr) (m c : Nat) (es : List (Int × Int)) (w : World) (hm : m ≤ 50000) (he : Rd w 2 A m (prs es)) :
    Calls Try.prog 57 #[.agg #[.int .i64 N, .slice A m c]] w (OriPost w N es) := by
  have HE := Lib.hid he.prs_len
  have H1 := Lib.hid (he.keep (Keeps.alloc w (.cells #[.int .i64 N, .slice A m c] 24)))
  have S1 := Lib.hid ((Below.refl w.heap.size w).alloc (Nat.le_refl _) (.cells #[.int .i64 N, .slice A m c] 24))
  have p00 : (w.alloc (.cells #[.int .i64 N, .slice A m c] 24)).cell? ⟨w.heap.size, 0, none⟩ = some (.int .i64 N) := by simp
  have p01 : (w.alloc (.cells #[.int .i64 N, .slice A m c] 24)).cell? ⟨w.heap.size, 1, none⟩ = some (.slice A m c) := by simp
  clear he
  cases hv : validB N es
  · have HV := Lib.hid hv
    clear hv
    go_enter Try.func57, Try.ntmps57
    go_upto_region 1 with fail
    have g0 := grown_cell p00
    have g1 := grown_cell p01
    have d1 := call_q (w := w.alloc (.cells #[.int .i64 N, .slice A m c] 24)) (fun w' k => gvalid_b (b := false) N A m c es w' (by omega) (H1.out.keep k) HV.out)
    refine wp_region_q (by kernel_rfl) (by kernel_rfl) ?_
    repeat (go_big_quiet_step (first | with_reducible exact d1 _ _))
    refine wpQuiet_nil ?_
    intro wq hgq
    go_wp2_with fail
    go_ret2
    exact ⟨S1.out.trans (hgq.mono (by simp)), none, 0, [], false, rfl, OwnL.nil _ _, oriR_no (fun h => by have := h.1; rw [HV.out] at this; cases this)⟩
  · have HV := Lib.hid hv
    obtain ⟨n, rfl, hn⟩ := nat_of_valid hv
    have HOK := Lib.hid (ok_of_valid hv)
    have hlen := indE'_len hv
    have HLEN := Lib.hid hlen
    have hrk : rankE es ≤ m := by have := rank_le es; rw [HE.out] at this; exact this
    clear hv hlen
    go_enter Try.func57, Try.ntmps57
    go_upto_region 1 with fail
    have S0 : Hid (Below (w.heap.size + 1) (w.alloc (.cells #[.int .i64 (n : Int), .slice A m c] 24)) (w.alloc (.cells #[.int .i64 (n : Int), .slice A m c] 24))) := Lib.hid (Below.refl _ _)
    generalize hw0 : w.alloc (.cells #[.int .i64 (n : Int), .slice A m c] 24) = w0 at *
    have hz0 : w0.heap.size = w.heap.size + 1 := by rw [← hw0]; simp
    have HZ0 := Lib.hid hz0
    have nn := World.new_ne w0 _ p01
    clear hw0 hz0
    go_cut [20] (fun t wx => t = .bool (decide (rankE es < m)) ∧ Below w0.heap.size w0 wx)
    case first =>
      go_region_held3 (fun w' => w'.cell? ⟨w.heap.size, 0, none⟩ = some (.int .i64 n) ∧ w'.cell? ⟨w.heap.size, 1, none⟩ = some (.slice A m c)) (go_keep)
        ((first
          | (go_at_call 60; refine (gvalid_b (b := true) n A m c es _ (by omega) (H1.out.keep (Keeps.drew _)) HV.out).mono ?_; rintro e w1 ⟨rfl, hb1⟩; have hb1' : Below w0.heap.size w0 w1 := ((Below.refl _ _).drew).trans hb1; have kk := Keeps.of_below hb1' (Nat.le_refl _); have p0 := kk _ _ p00; have p1 := kk _ _ p01; have R1 := Lib.hid (H1.out.keep kk); have B1 := Lib.hid hb1'; clear hb1 hb1' kk)
          | (go_at_call 34; refine (pind_any n A m c es _ (by omega) R1.out).mono ?_; rintro e w2 ⟨hb2, B, cB, rfl, ho2⟩; have kk := Keeps.of_below hb2 (Nat.le_refl _); have p0 := kk _ _ p0; have p1 := kk _ _ p1; have B2 := Lib.hid (B1.out.trans (hb2.mono B1.out.size)); rw [HLEN.out]; clear hb2 ho2 kk)
          | fail))
      all_goals
       go_wp2_with fail
       go_meet
       exact ⟨by first | rfl | (congr 1; rw [Bool.eq_iff_iff]; simp), B2.out⟩
    case rest =>
      obtain ⟨rfl, hb2⟩ := hcut
      rename World => w2
      have kk2 := Keeps.of_below hb2 (Nat.le_refl _)
      have p02 := kk2 _ _ p00
      have p12 := kk2 _ _ p01
      have R2 := Lib.hid (H1.out.keep kk2)
      have hz2 := hb2.size
      have HB2 := Lib.hid hb2
      clear kk2
      by_cases hlt : rankE es < m
      · rw [decide_eq_true hlt]
        go_wp2_with fail
        go_ret2
        exact ⟨S1.out.trans (hb2.mono (by rw [HZ0.out]; omega)), none, 0, [], false, rfl, OwnL.nil _ _, oriR_no (fun h => by have := h.2; rw [HE.out] at this; omega)⟩
      · rw [decide_eq_false hlt]
        have hall : rankE es = es.length := by have := HE.out; omega
        have HSP := Lib.hid (whole_spA (ok60_of hn HOK.out) hall)
        have HALL := Lib.hid hall
        clear hall hlt hb2
        go_wp2_with fail
        go_loopg [4, 6, 7, 8, 24] m (fun k o _ _ _ t wr => ∃ (q : Nat) (D : Option Addr) (cD : Nat) (ls : List (List Int)), t = .int .i64 q ∧ q ≤ m ∧ k = m - q ∧ o = .slice D q cD ∧ OwnL wr w2.heap.size D q cD ls ∧ (∀ j, j < q → rightB es j (ls.getD j []) = true) ∧ Below w2.heap.size w2 wr)
        case atStart => exact ⟨0, none, 0, [], rfl, by omega, rfl, rfl, OwnL.nil _ _, fun j hj => by omega, Below.refl _ _⟩
        case round =>
          obtain ⟨q, D, cD, ls, rfl, hq, rfl, rfl, ho, hrt, hb⟩ := hrel
          have HO := Lib.hid ho
          have HRT := Lib.hid hrt
          have HB := Lib.hid hb
          have hsz := hb.size
          have kr := Keeps.of_below hb (Nat.le_refl _)
          have p0r := kr _ _ p02
          have p1r := kr _ _ p12
          have RR := Lib.hid (R2.out.keep kr)
          clear ho hrt hb kr
          by_cases hltq : q < m
          · obtain ⟨ad, rfl, c0, c1⟩ := RR.out.prs_at hltq
            obtain ⟨x, y, hxy, hx, hy, hne⟩ := edge_nat HOK.out (k := q) (by rw [HE.out]; exact hltq)
            rw [getD_edAt, hxy] at c0 c1
            simp only at c0 c1
            have HXY := Lib.hid hxy
            clear hxy
            go_upto_region 7 with fail
            have OF0 : Hid (OF w wr.heap.size n (some ad) m c x y (wr.alloc (.cells #[.int .i64 (x : Int), .int .i64 (y : Int)] 42))) := Lib.hid ⟨Keeps.alloc wr _ _ _ p0r, Keeps.alloc wr _ _ _ p1r, by simp, by simp, by have := HZ0.out; omega, by simp⟩
            have RA : Hid (Rd (wr.alloc (.cells #[.int .i64 (x : Int), .int .i64 (y : Int)] 42)) 2 (some ad) m (prs es)) := Lib.hid (RR.out.keep (Keeps.alloc wr _))
            have BA : Hid (Below wr.heap.size wr (wr.alloc (.cells #[.int .i64 (x : Int), .int .i64 (y : Int)] 42))) := Lib.hid ((Below.refl _ _).alloc (Nat.le_refl _) _)
            generalize wr.alloc (.cells #[.int .i64 (x : Int), .int .i64 (y : Int)] 42) = wa at *
            obtain ⟨p0a, p1a, v0a, v1a, -, hza⟩ := OF0.out
            have n0 := World.new_ne wa _ p0a
            have n1 := World.new_ne wa _ p1a
            have n2 := World.new_ne wa _ v0a
            have n3 := World.new_ne wa _ v1a
            have hxyok : OkE n ((x : Int), (y : Int)) := ⟨by omega, by simp; omega, by omega, by simp; omega, by simp; omega⟩
            have HLOK : Hid (∀ e ∈ es ++ [((x : Int), (y : Int)), ((x : Int), (y : Int)), ((x : Int), (y : Int))], OkE n e) := Lib.hid (fun e he => by
              rw [List.mem_append] at he
              rcases he with he | he
              · exact HOK.out e he
              · simp at he; subst he; exact hxyok)
            have HLSP : Hid (∀ V, 2 ≤ cntB n V → spanS (es ++ [((x : Int), (y : Int)), ((x : Int), (y : Int)), ((x : Int), (y : Int))]) V ≤ 2 * (cntB n V : Int)) := Lib.hid (fun V hV => spa_three hn HOK.out HSP.out _ V hV)
            clear hxyok
            go_cut [7, 8] (fun t7 t8 wx => ∃ T cT tl, t7 = .slice T (m + 3) cT ∧ t8 = .bool true ∧ Own wx wr.heap.size 3 1 T (m + 3) cT (ints tl) ∧ rightB es q tl = true ∧ tl.length = m + 3 ∧ Below wr.heap.size wr wx)
            case first =>
              go_region_held3 (fun w' => w'.cell? ⟨w.heap.size, 0, none⟩ = some (.int .i64 n) ∧ w'.cell? ⟨w.heap.size, 1, none⟩ = some (.slice (some ad) m c) ∧ w'.cell? ⟨wr.heap.size, 0, none⟩ = some (.int .i64 x) ∧ w'.cell? ⟨wr.heap.size, 1, none⟩ = some (.int .i64 y)) (go_keep)
                ((first
                | (go_at_call 64; refine (clone_n (some ad) m c es _ (RA.out.keep (Keeps.drew _)) (by omega)).mono ?_; rintro e w3 ⟨hb3, B3, c3, rfl, ho3⟩; have hbb : Below wa.heap.size wa w3 := ((Below.refl _ _).drew).trans hb3; have F3 := Lib.hid (OF0.out.next (hbb.mono (by omega))); have O3 : Hid (Own w3 wa.heap.size 42 2 B3 m c3 (prs es)) := Lib.hid (ho3.base_le (by simp)); have B3w := Lib.hid hbb; obtain ⟨p0, p1, v0, v1, -, hz3⟩ := F3.out; have n0 := World.new_ne w3 _ p0; have n1 := World.new_ne w3 _ p1; have n2 := World.new_ne w3 _ v0; have n3 := World.new_ne w3 _ v1; have H3z : wa.heap.size ≤ w3.heap.size := hbb.size; clear hb3 ho3 hbb)
                | (go_at_call 64; refine (clone_n (some ad) m c es _ (RA.out.keep ((Keeps.alloc wa (.cells #[.int .i64 (x : Int), .int .i64 (y : Int), .int .i64 (x : Int), .int .i64 (y : Int), .int .i64 (x : Int), .int .i64 (y : Int)] 42)).trans (Keeps.drew _))) (by omega)).mono ?_; rintro e w3 ⟨hb3, B3, c3, rfl, ho3⟩; have hbb : Below wa.heap.size wa w3 := (((Below.refl _ _).alloc (Nat.le_refl _) _).drew).trans (hb3.mono (by simp)); have F3 := Lib.hid (OF0.out.next (hbb.mono (by omega))); have O3 : Hid (Own w3 wa.heap.size 42 2 B3 m c3 (prs es)) := Lib.hid (ho3.base_le (by simp)); have B3w := Lib.hid hbb; have LITR : Hid (Rd w3 2 (some ⟨wa.heap.size, 0, none⟩) 3 (prs [((x : Int), (y : Int)), ((x : Int), (y : Int)), ((x : Int), (y : Int))])) := Lib.hid (((rd_lit2_at rfl [((x : Int), (y : Int)), ((x : Int), (y : Int)), ((x : Int), (y : Int))] _).keep (Keeps.drew _)).keep (Keeps.of_below hb3 (Nat.le_refl _))); obtain ⟨p0, p1, v0, v1, -, hz3⟩ := F3.out; have n0 := World.new_ne w3 _ p0; have n1 := World.new_ne w3 _ p1; have n2 := World.new_ne w3 _ v0; have n3 := World.new_ne w3 _ v1; have H3z : wa.heap.size ≤ w3.heap.size := hbb.size; clear hb3 ho3 hbb)
                | (refine step_app _ rfl (.tmp 33) (.tmp 37) 22 rfl wa.heap.size 42 (.agg #[.int .i64 0, .int .i64 0]) 2 16 Try.underlying22 info_pair rfl (by decide) B3 m c3 (prs es) (by simp [Act.eval, Act.put]) O3.out (some ⟨wa.heap.size, 0, none⟩) 3 3 (prs [((x : Int), (y : Int)), ((x : Int), (y : Int)), ((x : Int), (y : Int))]) (by simp [Act.eval, Act.put]) LITR.out (prs_one _) (by omega) (by unfold maxLen; omega) (by omega) ?_; intro B4 c4 w4 ho4 hg4 hb4; have hbb4 : Below wa.heap.size wa w4 := B3w.out.grown hg4 H3z (fun k hk => (O3.out.lt hk).1); have F4 := Lib.hid (OF0.out.next (hbb4.mono (by omega))); have B4w := Lib.hid hbb4; obtain ⟨p0, p1, v0, v1, -, hz4⟩ := F4.out; have n0 := World.new_ne w4 _ p0; have n1 := World.new_ne w4 _ p1; have n2 := World.new_ne w4 _ v0; have n3 := World.new_ne w4 _ v1; have O4 : Hid (Own w4 wa.heap.size 42 2 B4 (m + 3) c4 (prs (es ++ [((x : Int), (y : Int)), ((x : Int), (y : Int)), ((x : Int), (y : Int))]))) := Lib.hid (by rw [prs_app]; exact ho4); clear ho4 hg4 hb4 hbb4)
                | (refine step_app _ rfl (.tmp 33) (.tmp 37) 22 rfl wa.heap.size 42 (.agg #[.int .i64 0, .int .i64 0]) 2 16 Try.underlying22 info_pair rfl (by decide) B3 m c3 (prs es) (by simp [Act.eval, Act.put]) (O3.out.alloc _) (some ⟨w3.heap.size, 0, none⟩) 3 3 (prs [((x : Int), (y : Int)), ((x : Int), (y : Int)), ((x : Int), (y : Int))]) (by simp [Act.eval, Act.put]) (rd_lit2_at rfl [((x : Int), (y : Int)), ((x : Int), (y : Int)), ((x : Int), (y : Int))] _) (prs_one _) (by omega) (by unfold maxLen; omega) (by simp; omega) ?_; intro B4 c4 w4 ho4 hg4 hb4; have hbb4 : Below wa.heap.size wa w4 := (B3w.out.alloc H3z _).grown hg4 (by simp; omega) (fun k hk => (O3.out.lt hk).1); have F4 := Lib.hid (OF0.out.next (hbb4.mono (by omega))); have B4w := Lib.hid hbb4; obtain ⟨p0, p1, v0, v1, -, hz4⟩ := F4.out; have n0 := World.new_ne w4 _ p0; have n1 := World.new_ne w4 _ p1; have n2 := World.new_ne w4 _ v0; have n3 := World.new_ne w4 _ v1; have O4 : Hid (Own w4 wa.heap.size 42 2 B4 (m + 3) c4 (prs (es ++ [((x : Int), (y : Int)), ((x : Int), (y : Int)), ((x : Int), (y : Int))]))) := Lib.hid (by rw [prs_app]; exact ho4); clear ho4 hg4 hb4 hbb4)
                | (go_at_call 104; refine (tails_any n (m + 3) B4 c4 wa.heap.size (es ++ [((x : Int), (y : Int)), ((x : Int), (y : Int)), ((x : Int), (y : Int))]) _ hn (by omega) (by rw [List.length_append, HE.out]; rfl) O4.out HLOK.out HLSP.out).mono ?_; rintro e w5 ⟨T, cT, tl, rfl, hoT, hbT, ht1, ht2, ht3⟩; have hbb5 : Below wa.heap.size wa w5 := B4w.out.trans (hbT.mono B4w.out.size); have F5 := Lib.hid (OF0.out.next (hbb5.mono (by omega))); obtain ⟨p0, p1, v0, v1, -, hz5⟩ := F5.out; have O5 := Lib.hid (hoT.base_le (base' := wr.heap.size) (by have := B4w.out.size; omega)); have B5w := Lib.hid hbb5; have TT := Lib.hid (And.intro ht1 (And.intro ht2 ht3)); clear hoT hbT ht1 ht2 ht3 hbb5)
                | fail))
              all_goals
               go_wp2_with fail
               go_meet
               obtain ⟨ht1, ht2, ht3⟩ := TT.out
               exact ⟨T, cT, tl, rfl, rfl, O5.out, right_of_tails HOK.out (by rw [HE.out]; exact hltq) (by rw [ht1, HE.out]) (by rw [HXY.out, HE.out]; exact ht2) ht3, ht1, BA.out.trans (B5w.out.mono BA.out.size)⟩
            case rest =>
              obtain ⟨T, cT, tl, rfl, rfl, hoT, hrt, htl, hbT⟩ := hcut
              rename World => w5
              have OT := Lib.hid hoT
              have HTL := Lib.hid htl
              have HR5 := Lib.hid hrt
              have HBT := Lib.hid hbT
              have hz5 := hbT.size
              have HO5 := HO.out.later hbT
              obtain ⟨l1, hs, l2, l3, l4⟩ := HO5
              have L1 := Lib.hid l1
              have L2 := Lib.hid l2
              have L3 := Lib.hid l3
              have L4 := Lib.hid l4
              clear hoT hrt htl hbT l1 l2 l3 l4
              go_wp2_with (first
                | (at_builtin; refine wpList_app _ rfl (.tmp 44) (.tmp 46) 47 rfl w2.heap.size 27 (.slice none 0 0) 1 24 Try.underlying47 info_ints rfl (by decide) D q cD (heads hs ls) rfl (L3.out.alloc _) (some ⟨w5.heap.size, 0, none⟩) 1 1 [.slice T (m + 3) cT] rfl (rd_new _ 1 1 [.slice T (m + 3) cT] _ rfl) head_one (by omega) (by unfold maxLen; omega) (by simp; omega) ?_; intro B6 c6 w6 ho6 hg6 hb6; have OW6 : Hid (OwnL w6 w2.heap.size B6 (q + 1) c6 (ls ++ [tl])) := Lib.hid (OwnL.push (w := w5.alloc (.cells #[.slice T (m + 3) cT] 27)) L1.out L2.out (fun i hd l a b => (L4.out i hd l a b).alloc _) (by rw [HTL.out]; exact (OT.out.base_le (by omega)).alloc _) ⟨_, L3.out.alloc _⟩ (by rw [HTL.out]; exact ho6) hg6); have S6 : Hid (Below w2.heap.size w2 w6) := Lib.hid ((HB.out.trans (HBT.out.mono hsz)).trans (((Below.refl _ _).alloc (by omega) _).grown hg6 (by simp; omega) (fun b hb => (L3.out.lt hb).1))); clear ho6 hg6 hb6)
                | fail)
              go_roundg (m - (q + 1))
              case measure => omega
              case rel => exact ⟨q + 1, B6, c6, ls ++ [tl], by go_num, by omega, rfl, rfl, OW6.out, fun j hj => by
                rw [getD_snoc, L1.out]
                by_cases e : j = q
                · rw [if_pos e, e]; exact HR5.out
                · rw [if_neg e]; exact HRT.out j (by omega), S6.out⟩
          · obtain rfl : q = m := by omega
            go_wp2_with fail
            go_ret2
            have hlen : ls.length = q := HO.out.1
            refine ⟨S1.out.trans ((HB2.out.mono (by rw [HZ0.out]; omega)).trans (HB.out.mono (by have := HZ0.out; omega))), D, cD, ls, true, by rw [hlen]; rfl, by rw [hlen]; exact HO.out.base_le (by have := HZ0.out; omega), oriR_yes HV.out HALL.out (by rw [hlen, HE.out]) (fun j hj => HRT.out j (by rw [HE.out] at hj; exact hj))⟩
end Go.Proofs.Ytagcaljpgifppaa
