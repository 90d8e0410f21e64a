/-
  The reference of the pebble layer, complete and awake: joined texts.
-/
import Derived.Test.YtcpkdnhpelkeoaaGreatW2
import Derived.Test.YtcpkdnhpelkeoaaGreatMb
import Derived.Laws.BitsAllLaws
import Derived.Test.YtcpkdnhpelkeoaaGreatG2
import Derived.Test.YtcpkdnhpelkeoaaGreatMp
import Derived.Test.YtcpkdnhpelkeoaaGreatLit
namespace Go.Proofs.YtcpkdnhpelkeoaaGreat
set_option linter.unusedVariables false
set_option linter.unusedSimpArgs false
open Go.RowKit Go.Sort

theorem shr_val (S X : Nat) : (((S : Int) / 2 ^ X).tmod 2) = if S.testBit X = true then 1 else 0 := by
  have e : ((S : Int) / 2 ^ X) = ((S / 2 ^ X : Nat) : Int) := by rw [Int.natCast_ediv]; norm_cast
  rw [e, Nat.testBit_eq_decide_div_mod_eq]
  have h2 : (((S / 2 ^ X : Nat) : Int).tmod 2) = ((S / 2 ^ X % 2 : Nat) : Int) := by
    rw [Int.tmod_eq_emod_of_nonneg (Int.natCast_nonneg _)]; rfl
  rw [h2]
  have := Nat.mod_two_eq_zero_or_one (S / 2 ^ X)
  rcases this with h | h <;> rw [h] <;> simp
theorem cntB_succ (j S : Nat) : cntB (j + 1) S = cntB j S + if S.testBit j = true then 1 else 0 := by
  unfold cntB
  rw [List.range_succ, List.countP_append]
  simp [List.countP_cons]
theorem wrap_pow8 {X : Nat} (h : X < 60) : wrap64 ((2 : Int) ^ X) = ((2 ^ X : Nat) : Int) := by
  have h2 : 2 ^ X < 2 ^ 60 := Nat.pow_lt_pow_right (by omega) h
  have h3 : (2 : Nat) ^ 60 = 1152921504606846976 := by decide
  have e : ((2 : Int) ^ X) = ((2 ^ X : Nat) : Int) := by norm_cast
  rw [e]
  rw [h3] at h2
  generalize 2 ^ X = P at h2
  unfold wrap64; omega
def okN (n : Nat) (es : List (Int × Int)) (T : Nat) : Prop := 2 ≤ cntB n T → spanS es T ≤ 2 * (cntB n T : Int) - 3
theorem indB_sets {n : Nat} {es : List (Int × Int)} (hn : n ≤ 60) (hok : ∀ e ∈ es, OkE n e) : indB es = true ↔ ∀ T, T < 2 ^ n → okN n es T := by
  rw [indB_iff (ok60_of hn hok)]
  constructor
  · intro h T _ h2; exact spa_n hn hok h T h2
  · intro h V h2
    have e0 : cntB n (V % 2 ^ n) = cntB n V := by
      unfold cntB
      refine List.countP_congr (fun i hi => ?_)
      have := List.mem_range.1 hi
      rw [Nat.testBit_mod_two_pow, decide_eq_true this, Bool.true_and]
    have e2 : spanS es (V % 2 ^ n) = spanS es V := spanS_congr (fun e hm => by
      obtain ⟨p1, p2, p3, p4, p5⟩ := hok e hm
      unfold bothB
      rw [Nat.testBit_mod_two_pow, Nat.testBit_mod_two_pow, decide_eq_true (by omega : e.1.toNat < n), decide_eq_true (by omega : e.2.toNat < n), Bool.true_and, Bool.true_and])
    have h3 := h (V % 2 ^ n) (Nat.mod_lt _ (Nat.two_pow_pos n))
    unfold okN at h3
    rw [e0, e2] at h3
    have h4 := cntB_mono (S := V) hn
    by_cases h5 : 2 ≤ cntB n V
    · have := h3 h5; omega
    · have : spanS es V = 0 := by
        unfold spanS
        have : es.countP (bothB V) = 0 := by
          rw [List.countP_eq_zero]
          intro e he hb
          obtain ⟨p1, p2, p3, p4, p5⟩ := hok e he
          unfold bothB at hb
          rw [Bool.and_eq_true] at hb
          exact h5 (cntB_pair (p := e.1.toNat) (q := e.2.toNat) (by omega) (by omega) (by omega) hb.1 hb.2)
        rw [this]; rfl
      omega
end Go.Proofs.YtcpkdnhpelkeoaaGreat

namespace Go.Proofs.YtcpkdnhpelkeoaaGreat
set_option linter.unusedVariables false
set_option linter.unusedSimpArgs false
open Go.RowKit Go.Sort

attribute [local go_sem ↓] Go.wp_at_zero Go.wp_at_succ
theorem rd_grown {w w' : World} {size n g : Nat} {xs : List Value} {row : Option Nat} (h : Rd w size (some ⟨g, 0, none⟩) n xs) (hg : w.grownBy w' row) (hne : row ≠ some g) : Rd w' size (some ⟨g, 0, none⟩) n xs := by
  refine ⟨h.1, fun hn => ?_⟩
  obtain ⟨ad, e, hc⟩ := h.2 hn
  injection e with e
  subst e
  refine ⟨_, rfl, fun j u hu => ?_⟩
  have := hc j u hu
  rw [add0] at this ⊢
  exact World.grownBy.cell hg this (fun e => hne e.symm)
theorem rd_alloc {w : World} {size n : Nat} {A : Option Addr} {xs : List Value} (h : Rd w size A n xs) (o : Obj) : Rd (w.alloc o) size A n xs := h.keep (Keeps.alloc w o)
theorem choK_len {es : List (Int × Int)} {k : Nat} (hk : k ≤ es.length) : (choK es k).length = (idxK es k).length := (idxK_len hk).symm
end Go.Proofs.YtcpkdnhpelkeoaaGreat

namespace Go.Proofs.YtcpkdnhpelkeoaaGreat
set_option linter.unusedVariables false
set_option linter.unusedSimpArgs false
open Go.RowKit Go.Sort

def rigid34 (n rk : Nat) : Bool := decide ((n : Int) ≤ 1) || decide (2 * (n : Int) - (rk : Int) = 3)
end Go.Proofs.YtcpkdnhpelkeoaaGreat

namespace Go.Proofs.YtcpkdnhpelkeoaaGreat
set_option linter.unusedVariables false
set_option linter.unusedSimpArgs false
open Go.RowKit Go.Sort

def certB (es : List (Int × Int)) (ls : List (List Int)) : Bool := decide (ls.length = es.length) && (List.range ls.length).all fun i => rightB es i (ls.getD i [])
theorem certB_len {es : List (Int × Int)} {ls : List (List Int)} (h : ls.length ≠ es.length) : certB es ls = false := by simp [certB, h]
theorem certB_no {es : List (Int × Int)} {ls : List (List Int)} {i : Nat} (hi : i < ls.length) (h : rightB es i (ls.getD i []) = false) : certB es ls = false := by
  unfold certB
  have : ((List.range ls.length).all fun i => rightB es i (ls.getD i [])) = false := by
    rw [List.all_eq_false]; exact ⟨i, by simpa using hi, by simp only [h]; decide⟩
  rw [this, Bool.and_false]
theorem certB_yes {es : List (Int × Int)} {ls : List (List Int)} (hl : ls.length = es.length) (h : ∀ j, j < ls.length → rightB es j (ls.getD j []) = true) : certB es ls = true := by
  unfold certB
  simp only [hl, decide_true, Bool.true_and, List.all_eq_true, List.mem_range]
  intro j hj; exact h j (by omega)
theorem certB_iff {es : List (Int × Int)} {ls : List (List Int)} : certB es ls = true ↔ ls.length = es.length ∧ ∀ j, j < ls.length → rightB es j (ls.getD j []) = true := by
  constructor
  · intro h
    unfold certB at h
    simp only [Bool.and_eq_true, decide_eq_true_eq, List.all_eq_true, List.mem_range] at h
    exact h
  · rintro ⟨h1, h2⟩; exact certB_yes h1 h2
theorem rightB_noLen {es : List (Int × Int)} {i : Nat} {l : List Int} (h : l.length ≠ es.length + 3) : rightB es i l = false := by simp [rightB, h]
theorem rightB_noAt {es : List (Int × Int)} {i k : Nat} {l : List Int} (hk : k < l.length) (h : rightAt es i l k = false) : rightB es i l = false := by
  unfold rightB
  have : (List.range l.length).all (rightAt es i l) = false := by rw [List.all_eq_false]; exact ⟨k, by simpa using hk, by simp [h]⟩
  rw [this, Bool.and_false]
theorem edgeOf_nat {n : Nat} {es : List (Int × Int)} (h : ∀ e ∈ es, OkE n e) {i k : Nat} (hi : i < es.length) : ∃ p q : Nat, edgeOf es i k = ((p : Int), (q : Int)) ∧ p < n ∧ q < n ∧ p ≠ q := by
  unfold edgeOf
  by_cases hk : k < es.length
  · rw [if_pos hk]; exact edge_nat h hk
  · rw [if_neg hk]; exact edge_nat h hi
theorem getD_set_int {cs : List Int} {i j : Nat} {x : Int} (hi : i < cs.length) : (cs.set i x).getD j 0 = if j = i then x else cs.getD j 0 := getD_set_nat hi
end Go.Proofs.YtcpkdnhpelkeoaaGreat

namespace Go.Proofs.YtcpkdnhpelkeoaaGreat
set_option linter.unusedVariables false
set_option linter.unusedSimpArgs false

def inR (rest : List (Int × Int)) (i k : Nat) : Bool := rest.any fun e => decide (e = ((i : Int), (k : Int)))
def cplR (rest : List (Int × Int)) (i : Nat) : Nat → List (Int × Int)
  | 0 => []
  | k + 1 => cplR rest i k ++ if (decide (i < k) && !inR rest i k) = true then [((i : Int), (k : Int))] else []
def cplI (rest : List (Int × Int)) (n : Nat) : Nat → List (Int × Int)
  | 0 => []
  | i + 1 => cplI rest n i ++ cplR rest i n
def cplE (rest : List (Int × Int)) (n : Nat) : List (Int × Int) := cplI rest n n
theorem inR_take {rest : List (Int × Int)} {i k q : Nat} (hq : q < rest.length) : inR (rest.take (q + 1)) i k = (inR (rest.take q) i k || decide (rest.getD q (0, 0) = ((i : Int), (k : Int)))) := by
  unfold inR
  rw [List.take_succ_eq_append_getElem hq, List.any_append, List.getD_eq_getElem?_getD, List.getElem?_eq_getElem hq]
  simp
theorem inR_whole {rest : List (Int × Int)} {i k q : Nat} (hq : q = rest.length) : inR (rest.take q) i k = inR rest i k := by rw [hq, List.take_length]
theorem cplR_low {rest : List (Int × Int)} {i : Nat} : ∀ {k : Nat}, k ≤ i + 1 → cplR rest i k = []
  | 0, _ => rfl
  | k + 1, h => by
    unfold cplR
    rw [cplR_low (by omega : k ≤ i + 1), if_neg (by simp; omega)]
    rfl
theorem cplR_yes {rest : List (Int × Int)} {i k : Nat} (h : i < k) (hr : inR rest i k = true) : cplR rest i (k + 1) = cplR rest i k := by
  rw [cplR, hr]; simp
theorem cplR_no {rest : List (Int × Int)} {i k : Nat} (h : i < k) (hr : inR rest i k = false) : cplR rest i (k + 1) = cplR rest i k ++ [((i : Int), (k : Int))] := by
  rw [cplR, hr]; simp [h]
theorem cplR_len (rest : List (Int × Int)) (i : Nat) : ∀ k, (cplR rest i k).length ≤ k
  | 0 => by simp [cplR]
  | k + 1 => by
    have := cplR_len rest i k
    rw [cplR, List.length_append]
    split <;> simp <;> omega
theorem cplI_len (rest : List (Int × Int)) (n : Nat) : ∀ i, (cplI rest n i).length ≤ i * n
  | 0 => by simp [cplI]
  | i + 1 => by
    have := cplI_len rest n i
    have := cplR_len rest i n
    rw [cplI, List.length_append, Nat.succ_mul]
    omega
end Go.Proofs.YtcpkdnhpelkeoaaGreat

namespace Go.Proofs.YtcpkdnhpelkeoaaGreat
set_option linter.unusedVariables false
set_option linter.unusedSimpArgs false
open Go.RowKit Go.Sort

attribute [local go_sem ↓] Go.wp_at_zero Go.wp_at_succ
theorem pair_dec (x y a b : Int) : decide ((x, y) = (a, b)) = (x == a && y == b) := by
  by_cases h1 : x = a <;> by_cases h2 : y = b <;> simp [h1, h2]
structure CX (w wr : World) (n : Nat) (B : Option Addr) (l c : Nat) (L : List (Int × Int)) : Prop where
  bel : Below w.heap.size w wr
  size : w.heap.size + 1 < wr.heap.size
  r0 : wr.cell? ⟨w.heap.size, 0, none⟩ = some (.int .i64 0)
  r1 : wr.cell? ⟨w.heap.size, 1, none⟩ = some (.slice none 0 0)
  f0 : wr.frozen? ⟨w.heap.size, 0, none⟩ = false
  f1 : wr.frozen? ⟨w.heap.size, 1, none⟩ = false
  g0 : wr.cell? ⟨w.heap.size + 1, 0, none⟩ = some (.int .i64 n)
  g1 : wr.cell? ⟨w.heap.size + 1, 1, none⟩ = some (.slice B l c)
  h1 : wr.frozen? ⟨w.heap.size + 1, 1, none⟩ = false
  len : L.length = l
  own : Own wr (w.heap.size + 2) 28 2 B l c (prs L)
theorem CX.later {w wr w' : World} {n l c : Nat} {B : Option Addr} {L : List (Int × Int)} (h : CX w wr n B l c L) (hb : Below wr.heap.size wr w') : CX w w' n B l c L := by
  have hz := h.size
  have k := Keeps.of_below hb (Nat.le_refl _)
  exact ⟨h.bel.trans (hb.mono (by omega)), Nat.lt_of_lt_of_le hz hb.size, k _ _ h.r0, k _ _ h.r1, by rw [hb.frozen (by simp; omega)]; exact h.f0, by rw [hb.frozen (by simp; omega)]; exact h.f1, k _ _ h.g0, k _ _ h.g1, by rw [hb.frozen (by simp; omega)]; exact h.h1, h.len, h.own.later hb⟩
theorem CX.push {w wr w4 : World} {n l c d : Nat} {B D : Option Addr} {L : List (Int × Int)} {x y : Int} (h : CX w wr n B l c L) (hb : Below (w.heap.size + 2) wr w4) (ho : Own w4 (w.heap.size + 2) 28 2 D (l + 1) d (prs (L ++ [(x, y)]))) :
    CX w (w4.setCell ⟨w.heap.size + 1, 1, none⟩ (.slice D (l + 1) d)) n D (l + 1) d (L ++ [(x, y)]) := by
  have hz := h.size
  have c0 := h.g1
  have e : ∀ a : Addr, a.block < w.heap.size + 2 → w4.cell? a = wr.cell? a := fun a ha => hb.cell ha
  refine ⟨(h.bel.trans (hb.mono (by omega))).setCell (by simp) _, ?_, ?_, ?_, ?_, ?_, ?_, ?_, ?_, ?_, ?_⟩
  · simp; exact Nat.lt_of_lt_of_le hz hb.size
  · rw [World.cell?_setCell_other _ _ _ _ (by simp), e _ (by simp)]; exact h.r0
  · rw [World.cell?_setCell_other _ _ _ _ (by simp), e _ (by simp)]; exact h.r1
  · simp; rw [hb.frozen (by simp)]; exact h.f0
  · simp; rw [hb.frozen (by simp)]; exact h.f1
  · rw [World.cell?_setCell_other _ _ _ _ (by simp), e _ (by simp)]; exact h.g0
  · exact World.cell?_setCell_same _ _ _ (by rw [e _ (by simp)]; exact c0)
  · simp; rw [hb.frozen (by simp)]; exact h.h1
  · rw [List.length_append, h.len]; rfl
  · exact ho.setOther (by simp) _

def CplPost (w : World) (n : Nat) (l : List (Int × Int)) (e : Ending) (w' : World) : Prop :=
  Below w.heap.size w w' ∧ ∃ B c, e = .returned (.agg #[.int .i64 n, .slice B l.length c]) ∧ Rd w' 2 B l.length (prs l)
theorem CX.start (w : World) (n : Nat) : CX w ((w.alloc (.cells #[.int .i64 0, .slice none 0 0] 31)).alloc (.cells #[.int .i64 n, .slice none 0 0] 31)) n none 0 0 [] := by
  refine ⟨((Below.refl _ _).alloc (Nat.le_refl _) _).alloc (by simp) _, by simp, ?_, ?_, ?_, ?_, ?_, ?_, ?_, rfl, Own.nil _ _ _ _⟩
  · exact Keeps.alloc _ _ _ _ (cell_at rfl _ _ 0 rfl)
  · exact Keeps.alloc _ _ _ _ (cell_at rfl _ _ 1 rfl)
  · simp
  · simp
  · exact cell_at (by simp) _ _ 0 rfl
  · exact cell_at (by simp) _ _ 1 rfl
  · simp
end Go.Proofs.YtcpkdnhpelkeoaaGreat

namespace Go.Proofs.YtcpkdnhpelkeoaaGreat
set_option linter.unusedVariables false
set_option linter.unusedSimpArgs false

instance okN_dec (n : Nat) (es : List (Int × Int)) (T : Nat) : Decidable (okN n es T) := by unfold okN; infer_instance
instance okE_dec (n : Nat) (e : Int × Int) : Decidable (OkE n e) := by unfold OkE; infer_instance
theorem spa_dec {n : Nat} {es : List (Int × Int)} (hn : n ≤ 60) (hok : ∀ e ∈ es, OkE n e) (h : ∀ T, T < 2 ^ n → okN n es T) : SpA es :=
  (indB_iff (ok60_of hn hok)).1 ((indB_sets hn hok).2 h)
theorem rank_spa {es : List (Int × Int)} (ho : Ok60 es) (h : SpA es) : rankE es = es.length := by
  unfold rankE
  rw [grd_whole Ok60.nil ho (by simpa using h)]
  simp
theorem rank_dec {n : Nat} {es : List (Int × Int)} (hn : n ≤ 60) (hok : ∀ e ∈ es, OkE n e) (h : ∀ T, T < 2 ^ n → okN n es T) : rankE es = es.length :=
  rank_spa (ok60_of hn hok) (spa_dec hn hok h)
/-- One edge too many. -/
theorem rank_over {n S : Nat} {es : List (Int × Int)} {e : Int × Int} (hn : n ≤ 60) (hok : ∀ x ∈ es, OkE n x) (he : OkE n e) (h : ∀ T, T < 2 ^ n → okN n es T) (h2 : 2 ≤ cntB 60 S) (h3 : 2 * (cntB 60 S : Int) - 3 < spanS (es ++ [e]) S) : rankE (es ++ [e]) = es.length := by
  have ho := ok60_of hn hok
  have hs := spa_dec hn hok h
  unfold rankE
  rw [grd_app, grd_whole Ok60.nil ho (by simpa using hs), List.nil_append, grd_cons, addE_no ho (he.mono hn) (fun hs => by have := hs S h2; omega)]
  rfl
def K3 : List (Int × Int) := [(0, 1), (0, 2), (1, 2)]
def K4 : List (Int × Int) := [(0, 1), (0, 2), (0, 3), (1, 2), (1, 3), (2, 3)]
def C4 : List (Int × Int) := [(0, 1), (0, 3), (1, 2), (2, 3)]
def D4 : List (Int × Int) := [(0, 1), (0, 3), (1, 2), (1, 3), (2, 3)]
theorem cpl_K3 : cplE [] 3 = K3 := by decide
theorem cpl_K4 : cplE [] 4 = K4 := by decide
theorem cpl_C4 : cplE [(0, 2), (1, 3)] 4 = C4 := by decide
theorem cpl_D4 : cplE [(0, 2)] 4 = D4 := by decide
theorem rank_K3 : rankE K3 = 3 := rank_dec (n := 3) (by decide) (by decide) (by decide)
theorem rank_C4 : rankE C4 = 4 := rank_dec (n := 4) (by decide) (by decide) (by decide)
theorem rank_D4 : rankE D4 = 5 := rank_dec (n := 4) (by decide) (by decide) (by decide)
theorem rank_K4 : rankE K4 = 5 := rank_over (n := 4) (S := 15) (es := [(0, 1), (0, 2), (0, 3), (1, 2), (1, 3)]) (e := (2, 3)) (by decide) (by decide) (by decide) (by decide) (by decide) (by decide)
theorem red_K4 : redE 4 K4 = [0, 1, 2, 3, 4, 5] := by
  have hv : validB 4 K4 = true := by decide
  have r0 : redB K4 0 = true := by unfold redB; rw [rank_K4]; exact decide_eq_true (rank_dec (n := 4) (by decide) (by decide) (by decide))
  have r1 : redB K4 1 = true := by unfold redB; rw [rank_K4]; exact decide_eq_true (rank_dec (n := 4) (by decide) (by decide) (by decide))
  have r2 : redB K4 2 = true := by unfold redB; rw [rank_K4]; exact decide_eq_true (rank_dec (n := 4) (by decide) (by decide) (by decide))
  have r3 : redB K4 3 = true := by unfold redB; rw [rank_K4]; exact decide_eq_true (rank_dec (n := 4) (by decide) (by decide) (by decide))
  have r4 : redB K4 4 = true := by unfold redB; rw [rank_K4]; exact decide_eq_true (rank_dec (n := 4) (by decide) (by decide) (by decide))
  have r5 : redB K4 5 = true := by unfold redB; rw [rank_K4]; exact decide_eq_true (rank_dec (n := 4) (by decide) (by decide) (by decide))
  unfold redE
  rw [if_pos hv]
  show redK K4 6 = _
  rw [redK_step, if_pos r5, redK_step, if_pos r4, redK_step, if_pos r3, redK_step, if_pos r2, redK_step, if_pos r1, redK_step, if_pos r0]
  rfl
theorem vio_K4 {S : Nat} {l : List Int} (h : l = ptsK 4 S) (h2 : 2 ≤ l.length) (h3 : 2 * (l.length : Int) - 3 < spanS K4 S) : l = [0, 1, 2, 3] := by
  subst h
  cases b0 : S.testBit 0 <;> cases b1 : S.testBit 1 <;> cases b2 : S.testBit 2 <;> cases b3 : S.testBit 3 <;>
    simp [ptsK, List.range_succ, spanS, K4, bothB, b0, b1, b2, b3] at h2 h3 ⊢
end Go.Proofs.YtcpkdnhpelkeoaaGreat

namespace Go.Proofs.YtcpkdnhpelkeoaaGreat
set_option linter.unusedVariables false
set_option linter.unusedSimpArgs false
open Go.RowKit Go.Sort

theorem OriR.yes {N : Int} {es : List (Int × Int)} {ls : List (List Int)} {r : Bool} (h : OriR N es ls r) (hv : validB N es = true) (hk : rankE es = es.length) : r = true ∧ ls.length = es.length ∧ ∀ j, j < es.length → rightB es j (ls.getD j []) = true := by
  unfold OriR at h; rwa [if_pos ⟨hv, hk⟩] at h
theorem OriR.no {N : Int} {es : List (Int × Int)} {ls : List (List Int)} {r : Bool} (h : OriR N es ls r) (hk : rankE es ≠ es.length) : r = false ∧ ls = [] := by
  unfold OriR at h; rwa [if_neg (fun h2 => hk h2.2)] at h
theorem free_C4 : freeE 4 C4 = 4 := by unfold freeE; rw [if_pos (by decide), rank_C4]; rfl
theorem free_D4 : freeE 4 D4 = 3 := by unfold freeE; rw [if_pos (by decide), rank_D4]; rfl
theorem rigid_K3 : rigidE 3 K3 = true := by unfold rigidE freeE; rw [if_pos (by decide), rank_K3]; decide
end Go.Proofs.YtcpkdnhpelkeoaaGreat
