/-
  The cluster layer: joined texts.
-/
import Derived.Test.YtcpkdnhpelkeoaaGreatKa
import Derived.Test.YtcpkdnhpelkeoaaGreatKb
import Derived.Test.YtcpkdnhpelkeoaaGreatG5
import Derived.Deep.RegionHeld3
namespace Go.Proofs.YtcpkdnhpelkeoaaGreat
set_option linter.unusedVariables false
set_option linter.unusedSimpArgs false
open Go.RowKit Go.Sort

theorem mkE_one {n : Nat} {es : List (Int × Int)} {x y : Int} (hn : n ≤ 60) (hok : ∀ e ∈ es, OkE n e) (hx0 : 0 ≤ x) (hx1 : x < n) (hy0 : 0 ≤ y) (hy1 : y < n) (hxy : x ≠ y) : mkE n (es ++ [(x, y)]) = some (mkL n (es ++ [(x, y)])) := by
  refine mkE_yes hn (fun j hj => ?_)
  have hm : (es ++ [(x, y)]).getD j (0, 0) ∈ es ++ [(x, y)] := by rw [List.getD_eq_getElem?_getD, List.getElem?_eq_getElem hj]; exact List.getElem_mem _
  have : ∀ e ∈ es ++ [(x, y)], okP n e.1 e.2 = true := fun e he => by
    rw [List.mem_append] at he
    unfold okP
    rcases he with he | he
    · obtain ⟨h1, h2, h3, h4, h5⟩ := hok e he
      simp
      omega
    · simp only [List.mem_singleton] at he
      subst he
      simp
      omega
  exact this _ hm
theorem mkL_len2 (n : Nat) (L : List (Int × Int)) : (mkL n L).length ≤ n * n := uptoK_len L n n
theorem valid_len {n : Nat} {es : List (Int × Int)} (hv : validB n es = true) : es.length ≤ n * n := by
  have := mkL_len2 n es
  rwa [mkL_id hv] at this
/-- What is joined when all pairs before (a, b) have been looked at. -/
structure Clo (n : Nat) (es : List (Int × Int)) (a b : Nat) (O : List (Int × Int)) : Prop where
  v : validB n O = true
  mem : ∀ i k : Nat, i < k → k < n → (((i : Int), (k : Int)) ∈ O ↔ (((i : Int), (k : Int)) ∈ es ∨ ((i < a ∨ (i = a ∧ k < b)) ∧ impE es ((i : Int), (k : Int)))))
section
variable {n : Nat} {es O : List (Int × Int)} {a b : Nat}
theorem Clo.start (hv : validB n es = true) : Clo n es 0 0 es := ⟨hv, fun i k _ _ => ⟨.inl, fun h => h.elim id (fun h => by omega)⟩⟩
theorem Clo.row (h : Clo n es a b O) (hb : n ≤ b) : Clo n es (a + 1) 0 O := ⟨h.v, fun i k hik hk => by
  rw [h.mem i k hik hk]
  constructor
  · rintro (h1 | ⟨h1, h2⟩)
    · exact .inl h1
    · exact .inr ⟨by omega, h2⟩
  · rintro (h1 | ⟨h1, h2⟩)
    · exact .inl h1
    · exact .inr ⟨by omega, h2⟩⟩
theorem Clo.low (h : Clo n es a 0 O) : Clo n es a (a + 1) O := ⟨h.v, fun i k hik hk => by
  rw [h.mem i k hik hk]
  constructor
  · rintro (h1 | ⟨h1, h2⟩)
    · exact .inl h1
    · exact .inr ⟨by omega, h2⟩
  · rintro (h1 | ⟨h1, h2⟩)
    · exact .inl h1
    · exact .inr ⟨by omega, h2⟩⟩
/-- The pair (a, b) is not joined: it is an edge, or not determined. -/
theorem Clo.skip (h : Clo n es a b O) (hs : ((a : Int), (b : Int)) ∈ es ∨ ¬ impE es ((a : Int), (b : Int))) : Clo n es a (b + 1) O := ⟨h.v, fun i k hik hk => by
  rw [h.mem i k hik hk]
  constructor
  · rintro (h1 | ⟨h1, h2⟩)
    · exact .inl h1
    · exact .inr ⟨by omega, h2⟩
  · rintro (h1 | ⟨h1, h2⟩)
    · exact .inl h1
    · by_cases e : i = a ∧ k = b
      · obtain ⟨rfl, rfl⟩ := e
        rcases hs with hs | hs
        · exact .inl hs
        · exact absurd h2 hs
      · exact .inr ⟨by omega, h2⟩⟩
theorem Clo.put (h : Clo n es a b O) (hn : n ≤ 60) (hab : a < b) (hb : b < n) (hi : impE es ((a : Int), (b : Int))) : Clo n es a (b + 1) (mkL n (O ++ [((a : Int), (b : Int))])) := by
  have hO := valid_ends h.v
  refine ⟨mkL_valid' hn, fun i k hik hk => ?_⟩
  rw [mem_mkL_of (fun e he => ?_), List.mem_append, h.mem i k hik hk, List.mem_singleton]
  · constructor
    · rintro ((h1 | ⟨h1, h2⟩) | h1)
      · exact .inl h1
      · exact .inr ⟨by omega, h2⟩
      · simp only [Prod.mk.injEq] at h1
        have e1 : i = a := by omega
        have e2 : k = b := by omega
        subst e1 e2
        exact .inr ⟨by omega, hi⟩
    · rintro (h1 | ⟨h1, h2⟩)
      · exact .inl (.inl h1)
      · by_cases e : i = a ∧ k = b
        · obtain ⟨rfl, rfl⟩ := e
          exact .inr rfl
        · exact .inl (.inr ⟨by omega, h2⟩)
  · rw [List.mem_append, List.mem_singleton] at he
    rcases he with he | he
    · exact hO e he
    · subst he
      simp only
      omega
/-- In the end: what is joined is what is determined. -/
theorem Clo.fin (h : Clo n es n 0 O) (hok : ∀ e ∈ es, OkE n e) (hn : n ≤ 60) {i k : Nat} (hi : i < n) (hk : k < n) (hik : i ≠ k) : hasE n O i k = decide (impE es ((i : Int), (k : Int))) := by
  have ho : Ok60 es := fun e he => (hok e he).mono hn
  have hO := valid_ends h.v
  have key : ∀ p q : Nat, p < q → q < n → (((p : Int), (q : Int)) ∈ O ↔ impE es ((p : Int), (q : Int))) := fun p q hpq hq => by
    rw [h.mem p q hpq hq]
    constructor
    · rintro (h1 | ⟨h1, h2⟩)
      · exact impE_mem ho h1
      · exact h2
    · intro h2; exact .inr ⟨by omega, h2⟩
  have no : ∀ p q : Nat, p < q → ¬ ((q : Int), (p : Int)) ∈ O := fun p q hpq hm => by have := hO _ hm; simp only at this; omega
  unfold hasE
  rw [h.v, Bool.true_and, Bool.eq_iff_iff, mem_pairsB, decide_eq_true_eq]
  rcases Nat.lt_or_ge i k with h1 | h1
  · rw [key i k h1 hk]
    constructor
    · rintro (h2 | h2)
      · exact h2
      · exact absurd h2 (no i k h1)
    · exact .inl
  · have h1' : k < i := by omega
    rw [key k i h1' hi]
    constructor
    · rintro (h2 | h2)
      · exact absurd h2 (no k i h1')
      · exact impE_symm ho (by omega) (by omega) (by omega) h2
    · intro h2; exact .inr (impE_symm ho (by omega) (by omega) (by omega) h2)
end
end Go.Proofs.YtcpkdnhpelkeoaaGreat

namespace Go.Proofs.YtcpkdnhpelkeoaaGreat
set_option linter.unusedVariables false
set_option linter.unusedSimpArgs false
open Go.RowKit Go.Sort
attribute [local go_sem ↓] Go.wp_at_zero Go.wp_at_succ

/-- What lies in memory while pairs are joined. -/
structure CQ (w wr : World) (N : Int) (A : Option Addr) (m c hb : Nat) (O : List (Int × Int)) (B : Option Addr) (q d : Nat) : Prop where
  bg : BG w N A m c wr
  lo : w.heap.size + 1 < hb
  hi : hb < wr.heap.size
  h0 : wr.cell? ⟨hb, 0, none⟩ = some (.int .i64 N)
  h1 : wr.cell? ⟨hb, 1, none⟩ = some (.slice B q d)
  f0 : wr.frozen? ⟨hb, 0, none⟩ = false
  f1 : wr.frozen? ⟨hb, 1, none⟩ = false
  rd : Rd wr 2 B q (prs O)
section
variable {w wr w' : World} {N : Int} {A B B2 : Option Addr} {m c hb q d q2 d2 : Nat} {O O2 : List (Int × Int)}
theorem CQ.later (h : CQ w wr N A m c hb O B q d) (hb' : Below wr.heap.size wr w') : CQ w w' N A m c hb O B q d := by
  have kk := Keeps.of_below hb' (Nat.le_refl _)
  have hs := hb'.size
  have hi := h.hi
  exact ⟨h.bg.next hb', h.lo, by omega, kk _ _ h.h0, kk _ _ h.h1, by rw [hb'.frozen (by exact hi)]; exact h.f0, by rw [hb'.frozen (by exact hi)]; exact h.f1, h.rd.keep kk⟩
theorem CQ.put (h : CQ w wr N A m c hb O B q d) (hr : Rd wr 2 B2 q2 (prs O2)) :
    CQ w ((wr.setCell ⟨hb, 0, none⟩ (.int .i64 N)).setCell ⟨hb, 1, none⟩ (.slice B2 q2 d2)) N A m c hb O2 B2 q2 d2 := by
  have hlo := h.lo
  refine ⟨?_, h.lo, by simp; exact h.hi, ?_, ?_, by simp; exact h.f0, by simp; exact h.f1, ?_⟩
  · have e1 : Below (w.heap.size + 2) (GR w N A m c) (wr.setCell ⟨hb, 0, none⟩ (.int .i64 N)) := Below.setCell h.bg (by simp; omega) _
    have e2 : Below (w.heap.size + 2) (GR w N A m c) ((wr.setCell ⟨hb, 0, none⟩ (.int .i64 N)).setCell ⟨hb, 1, none⟩ (.slice B2 q2 d2)) := Below.setCell e1 (by simp; omega) _
    exact e2
  · rw [World.cell?_setCell_other _ _ _ _ (by simp)]
    exact World.cell?_setCell_same _ _ _ h.h0
  · exact World.cell?_setCell_same _ _ _ (u := .slice B q d) (by rw [World.cell?_setCell_other _ _ _ _ (by simp)]; exact h.h1)
  · refine Rd.far (Rd.far hr h.h1 (.inl rfl) _) (g := hb) (A := B) (n' := q) (c' := d) ?_ (.inr rfl) _
    rw [World.cell?_setCell_other _ _ _ _ (by simp)]; exact h.h1
end
theorem CQ.new {w w6 : World} {N : Int} {A B : Option Addr} {m c q d : Nat} {O : List (Int × Int)} (h : BG w N A m c w6) (hr : Rd w6 2 B q (prs O)) : CQ w (w6.alloc (.cells #[.int .i64 N, .slice B q d] 31)) N A m c w6.heap.size O B q d :=
  ⟨h.next ((Below.refl _ _).alloc (Nat.le_refl _) _), h.facts.1, by simp, by simp, by simp, by simp, by simp, hr.keep (Keeps.alloc _ _)⟩
theorem CQ.of_box {w w6 : World} {N : Int} {A B : Option Addr} {m c q d hb : Nat} {O : List (Int × Int)} (h : BG w N A m c w6) (hlo : w.heap.size + 1 < hb) (hx : BOXG w6 hb) (hr : Rd w6 2 B q (prs O)) :
    CQ w ((w6.setCell ⟨hb, 0, none⟩ (.int .i64 N)).setCell ⟨hb, 1, none⟩ (.slice B q d)) N A m c hb O B q d := by
  obtain ⟨z0, z1, z2⟩ := hx.put N (d := d) hr
  have e1 : Below (w.heap.size + 2) (GR w N A m c) (w6.setCell ⟨hb, 0, none⟩ (.int .i64 N)) := Below.setCell h (by simp; omega) _
  have e2 : Below (w.heap.size + 2) (GR w N A m c) ((w6.setCell ⟨hb, 0, none⟩ (.int .i64 N)).setCell ⟨hb, 1, none⟩ (.slice B q d)) := Below.setCell e1 (by simp; omega) _
  exact ⟨e2, hlo, by simp; exact hx.lt, z0, z1, by simp; exact hx.f0, by simp; exact hx.f1, z2⟩
def CloPost (w : World) (n : Nat) (es : List (Int × Int)) (e : Ending) (w' : World) : Prop :=
  Below w.heap.size w w' ∧ ∃ O B q d, Clo n es n 0 O ∧ O.length = q ∧ e = .returned (.agg #[.int .i64 n, .slice B q d]) ∧ Rd w' 2 B q (prs O)
set_option maxRecDepth 100000 in
set_option maxHeartbeats 16000000 in
theorem closure_any (n : Nat) (A : Option Addr) (m c : Nat) (es : List (Int × Int)) (w : World) (hn : n ≤ 20) (he : Rd w 2 A m (prs es)) (hv : validB n es = true) :
    Calls Tryz.prog 24 #[.agg #[.int .i64 (n : Int), .slice A m c]] w (CloPost w n es) := by
  have H0 := Lib.hid he
  have HE := Lib.hid he.prs_len
  have hok := ok_of_valid hv
  have HOK := Lib.hid hok
  have ho60 : Ok60 es := fun e he => (hok e he).mono (by omega)
  have hml := valid_len hv
  have hnn : n * n ≤ 20 * 20 := Nat.mul_le_mul hn hn
  have hm400 : m ≤ 400 := by have := HE.out; omega
  have hrk := rank_le es
  have HV := Lib.hid hv
  have RK0 : Hid (∀ w', Rd w' 2 A m (prs es) → Calls Tryz.prog 46 #[.agg #[.int .i64 (n : Int), .slice A m c]] w' fun e w'' => e = .returned (.int .i64 (rankE es : Nat)) ∧ Below w'.heap.size w' w'') := Lib.hid fun w' h => rank_any n A m c es _ w' (by omega) h (by exact indE'_len hv)
  have HS : Hid (∀ a b : Nat, a < b → b < n → ∀ w', Rd w' 2 A m (prs es) → Calls Tryz.prog 25 #[.agg #[.int .i64 (n : Int), .slice A m c], .int .i64 a, .int .i64 b] w' fun e w'' => e = .returned (.bool (decide (((a : Int), (b : Int)) ∈ es))) ∧ Below w'.heap.size w' w'') := Lib.hid fun a b hab hb w' h => ghas_b n A m c es a b w' (by omega) h (by
    unfold hasE
    rw [hv, Bool.true_and, Bool.eq_iff_iff, mem_pairsB, decide_eq_true_eq]
    constructor
    · rintro (h1 | h1)
      · exact h1
      · have := valid_ends hv _ h1; simp only at this; omega
    · exact .inl)
  have WI : Hid (∀ (O : List (Int × Int)) (B : Option Addr) (q d : Nat) (a b : Nat), validB n O = true → O.length = q → a < b → b < n → ∃ q2, (mkL n (O ++ [((a : Int), (b : Int))])).length = q2 ∧ q2 ≤ 400 ∧ ∀ w', Rd w' 2 B q (prs O) → Calls Tryz.prog 47 #[.agg #[.int .i64 (n : Int), .slice B q d], .int .i64 a, .int .i64 b] w' (GrPost w' n q2 (mkL n (O ++ [((a : Int), (b : Int))])))) := Lib.hid fun O B q d a b hvO hq hab hb => by
    refine ⟨_, rfl, Nat.le_trans (mkL_len2 n _) (by omega), fun w' h => ?_⟩
    have hq4 : q ≤ 400 := by have := valid_len hvO; omega
    refine with_any n B q d O a b _ _ w' (by omega) h ?_ rfl
    exact mkE_one (by omega) (ok_of_valid hvO) (by omega) (by omega) (by omega) (by omega) (by omega)
  have RW : Hid (∀ (a b : Nat), a < b → b < n → ∀ B q d w', (mkL n (es ++ [((a : Int), (b : Int))])).length = q → q ≤ 400 → Rd w' 2 B q (prs (mkL n (es ++ [((a : Int), (b : Int))]))) → Calls Tryz.prog 46 #[.agg #[.int .i64 (n : Int), .slice B q d]] w' fun e w'' => e = .returned (.int .i64 (rankE (es ++ [((a : Int), (b : Int))]) : Nat)) ∧ Below w'.heap.size w' w'') := Lib.hid fun a b hab hb B q d w' hq hq4 h => rank_any n B q d _ _ w' (by omega) h (by
    rw [indE'_len (mkL_valid' (by omega)), mk_one (by omega) hv hok (by omega) (by omega) (by omega)]
    have e1 : edgeI ((a : Int), (b : Int)) = ((a : Int), (b : Int)) := by unfold edgeI; simp only; rw [show min (a : Int) b = a by omega, show max (a : Int) b = b by omega]
    rw [e1])
  have hr1 : ∀ e : Int × Int, rankE (es ++ [e]) ≤ 401 := fun e => by
    have := rank_one (es := es) e
    omega
  have HR1 := Lib.hid hr1
  have IMP : Hid (∀ (a b : Nat), decide (impE es ((a : Int), (b : Int))) = decide (rankE (es ++ [((a : Int), (b : Int))]) = rankE es)) := Lib.hid fun a b => rfl
  have hrk4 : rankE es ≤ 400 := by omega
  generalize hR : rankE es = rk at RK0 hrk4 IMP
  have X0 : Hid (BG w n A m c (GR w n A m c)) := Lib.hid BG.start
  have hwt : GR w n A m c = (w.alloc (.cells #[.int .i64 (n : Int), .slice A m c] 31)).alloc (.cells #[.int .i64 0, .slice none 0 0] 31) := rfl
  clear he hv hok ho60 hml hnn hrk hr1 hR
  go_enter Tryz.func24, Tryz.ntmps24
  go_wp2_with fail
  rw [← hwt]
  clear hwt
  generalize GR w n A m c = W5 at *
  obtain ⟨hz1, p0, p1, bx⟩ := X0.out.facts
  have BXR := Lib.hid bx
  clear bx
  have RR := Lib.hid (H0.out.keep X0.out.keeps)
  have n0 := World.new_ne W5 _ p1
  have p0r := p0
  have p1r := p1
  have mf0 : W5.heap.size ≠ w.heap.size := by omega
  have mg0 : w.heap.size ≠ W5.heap.size := by omega
  go_upto_region 1 with fail
  go_cut [3, 4] (fun h r wx => r = .int .i64 rk ∧ ∃ (g : Nat), h = .pointer (some ⟨g, 0, none⟩) ∧ CQ w wx n A m c g es A m c)
  case first =>
    go_region_held3 (fun w' => w'.cell? ⟨w.heap.size, 0, none⟩ = some (.int .i64 (n : Int)) ∧ w'.cell? ⟨w.heap.size, 1, none⟩ = some (.slice A m c)) (first | exact ⟨p0, p1⟩ | exact ⟨keep1 p0, keep1 p1⟩ | go_keep)
      ((first
        | (go_at_call 46; refine (RK0.out _ (Rd.drew' RR.out)).mono ?_; rintro e w6 ⟨rfl, hb⟩; have BL : Hid (Below W5.heap.size W5 w6) := Lib.hid ((Below.refl _ _).drew.trans hb); have X6 := Lib.hid (X0.out.next BL.out); have p0 := X6.out.facts.2.1; have p1 := X6.out.facts.2.2.1; have hz6 := BL.out.size; have n0 := World.new_ne w6 _ p1; clear hb)
        | (go_at_call 46; refine (RK0.out _ (Rd.drew' (rd_new1 RR.out _))).mono ?_; rintro e w6 ⟨rfl, hb⟩; have BL : Hid (Below W5.heap.size W5 w6) := Lib.hid ((((Below.refl _ _).alloc (Nat.le_refl _) _).drew).trans (hb.mono (by simp))); have X6 := Lib.hid (X0.out.next BL.out); have p0 := X6.out.facts.2.1; have p1 := X6.out.facts.2.2.1; have hz6 := BL.out.size; have n0 := World.new_ne w6 _ p1; have QX0 : Hid (BOXG w6 W5.heap.size) := Lib.hid (BOXG.later (BOXG.drew' (BOXG.new W5)) hb); have y0 := QX0.out.c0; have y1 := QX0.out.c1; have y2 := QX0.out.f0; have y3 := QX0.out.f1; clear hb)
        | fail))
    all_goals
     go_wp2_with fail
     go_meet
     first
       | exact ⟨rfl, _, rfl, CQ.new X6.out (H0.out.keep X6.out.keeps)⟩
       | exact ⟨rfl, _, rfl, CQ.of_box X6.out (by omega) QX0.out (H0.out.keep X6.out.keeps)⟩
  case rest =>
    obtain ⟨rfl, g, rfl, hcq⟩ := hcut
    rename World => w6
    have C6 := Lib.hid hcq
    obtain ⟨hz6, p0, p1, -⟩ := hcq.bg.facts
    clear hcq
    go_wp2_with fail
    go_loopg [12] n (fun gm t wr => ∃ (a : Nat) (O : List (Int × Int)) (B : Option Addr) (q d : Nat), a ≤ n ∧ gm = n - a ∧ t = .int .i64 a ∧ Clo n es a 0 O ∧ O.length = q ∧ CQ w wr n A m c g O B q d)
    case atStart => exact ⟨0, es, A, m, c, Nat.zero_le _, rfl, rfl, Clo.start HV.out, HE.out, C6.out⟩
    case round =>
      obtain ⟨a, O, B, q, d, ha, rfl, rfl, hclo, hq, hcq⟩ := hrel
      have CA := Lib.hid hclo
      have HQ := Lib.hid hq
      have C7 := Lib.hid hcq
      obtain ⟨hz7, p0, p1, bx7⟩ := hcq.bg.facts
      have BX7 := Lib.hid bx7
      have g0 := hcq.h0
      have g1 := hcq.h1
      clear hclo hq hcq bx7
      by_cases hlt : a < n
      · have CL := Lib.hid CA.out.low
        clear BX7 g0 g1
        go_wp2_with fail
        go_loopg [6] (n - (a + 1)) (fun gm t wi => ∃ (b : Nat) (O : List (Int × Int)) (B : Option Addr) (q d : Nat), a < b ∧ (b ≤ n ∨ b = a + 1) ∧ gm = n - b ∧ t = .int .i64 b ∧ Clo n es a b O ∧ O.length = q ∧ CQ w wi n A m c g O B q d)
        case atStart => exact ⟨a + 1, O, B, q, d, by omega, .inr rfl, rfl, by go_num, CL.out, HQ.out, C7.out⟩
        case round =>
          obtain ⟨b, O, B, q, d, hab, hb, rfl, rfl, hclo, hq, hcq⟩ := hrel
          rename World => wi
          have CB := Lib.hid hclo
          have HQ := Lib.hid hq
          have C8 := Lib.hid hcq
          obtain ⟨hz8, p0, p1, -⟩ := hcq.bg.facts
          have R8 := Lib.hid (H0.out.keep hcq.bg.keeps)
          have g0 := hcq.h0
          have g1 := hcq.h1
          have f0 := hcq.f0
          have f1 := hcq.f1
          clear hclo hq hcq
          by_cases hbn : b < n
          · have HSA := Lib.hid (HS.out a b hab hbn)
            cases hm : decide (((a : Int), (b : Int)) ∈ es)
            · obtain ⟨q2, hl2, hq2, WC2⟩ := WI.out es A m c a b HV.out HE.out hab hbn
              have WC2' := Lib.hid WC2
              obtain ⟨q3, hl3, hq3, WC3⟩ := WI.out O B q d a b CB.out.v HQ.out hab hbn
              have WC3' := Lib.hid WC3
              unfold GrPost at WC2' WC3'
              rw [hm] at HSA
              have RWC := Lib.hid (fun B d w' h => RW.out a b hab hbn B q2 d w' hl2 hq2 h)
              have hrr := HR1.out ((a : Int), (b : Int))
              have HIM := Lib.hid (IMP.out a b)
              generalize rankE (es ++ [((a : Int), (b : Int))]) = r2 at RWC HIM hrr
              clear WC2 WC3 hm
              by_cases hrk : r2 = rk
              · have dr : ((r2 : Int) == (rk : Int)) = true := by simp [hrk]
                have PUT := Lib.hid (CB.out.put (by omega) hab hbn (by have := HIM.out; rw [decide_eq_true hrk] at this; simpa using this))
                generalize mkL n (O ++ [((a : Int), (b : Int))]) = O2 at hl3 WC3' PUT
                have HL3 := Lib.hid hl3
                clear hrk hl2 hl3
                go_wp2_with (first
                  | (go_at_call 25; (with_reducible refine (HSA.out _ R8.out).mono ?_); rintro e w9 ⟨rfl, hb9⟩; have C9 := Lib.hid (C8.out.later hb9); obtain ⟨hz9, p0, p1, -⟩ := C9.out.bg.facts; have R9 := Lib.hid (H0.out.keep C9.out.bg.keeps); clear hb9)
                  | (go_at_call 47; (with_reducible refine (WC2'.out _ R9.out).mono ?_); rintro e w10 ⟨hb10, B10, d10, rfl, hr10⟩; have C10 := Lib.hid (C9.out.later hb10); have R10 := Lib.hid hr10; clear hb10 hr10)
                  | (go_at_call 46; (with_reducible refine (RWC.out _ _ _ R10.out).mono ?_); rintro e w11 ⟨rfl, hb11⟩; have C11 := Lib.hid (C10.out.later hb11); have g0 := C11.out.h0; have g1 := C11.out.h1; clear hb11)
                  | (go_at_call 47; (with_reducible refine (WC3'.out _ C11.out.rd).mono ?_); rintro e w12 ⟨hb12, B12, d12, rfl, hr12⟩; have C12 := Lib.hid (C11.out.later hb12); have R12 := Lib.hid hr12; have g0 := C12.out.h0; have g1 := C12.out.h1; have f0 := C12.out.f0; have f1 := C12.out.f1; clear hb12 hr12)
                  | fail)
                go_roundg (n - (b + 1))
                case measure => omega
                case rel => exact ⟨b + 1, O2, B12, q3, d12, by omega, .inl (by omega), rfl, by go_num, PUT.out, HL3.out, C12.out.put R12.out⟩
              · have dr : ((r2 : Int) == (rk : Int)) = false := by simp; omega
                have SKP := Lib.hid (CB.out.skip (.inr (by have := HIM.out; rw [decide_eq_false hrk] at this; simpa using this)))
                clear hrk hl2 hl3
                go_wp2_with (first
                  | (go_at_call 25; (with_reducible refine (HSA.out _ R8.out).mono ?_); rintro e w9 ⟨rfl, hb9⟩; have C9 := Lib.hid (C8.out.later hb9); obtain ⟨hz9, p0, p1, -⟩ := C9.out.bg.facts; have R9 := Lib.hid (H0.out.keep C9.out.bg.keeps); clear hb9)
                  | (go_at_call 47; (with_reducible refine (WC2'.out _ R9.out).mono ?_); rintro e w10 ⟨hb10, B10, d10, rfl, hr10⟩; have C10 := Lib.hid (C9.out.later hb10); have R10 := Lib.hid hr10; clear hb10 hr10)
                  | (go_at_call 46; (with_reducible refine (RWC.out _ _ _ R10.out).mono ?_); rintro e w11 ⟨rfl, hb11⟩; have C11 := Lib.hid (C10.out.later hb11); have g0 := C11.out.h0; have g1 := C11.out.h1; clear hb11)
                  | fail)
                go_roundg (n - (b + 1))
                case measure => omega
                case rel => exact ⟨b + 1, O, B, q, d, by omega, .inl (by omega), rfl, by go_num, SKP.out, HQ.out, C11.out⟩
            · rw [hm] at HSA
              have SKP := Lib.hid (CB.out.skip (.inl (by simpa using hm)))
              clear hm
              go_wp2_with (first
                | (go_at_call 25; (with_reducible refine (HSA.out _ R8.out).mono ?_); rintro e w9 ⟨rfl, hb9⟩; have C9 := Lib.hid (C8.out.later hb9); clear hb9)
                | fail)
              go_roundg (n - (b + 1))
              case measure => omega
              case rel => exact ⟨b + 1, O, B, q, d, by omega, .inl (by omega), rfl, by go_num, SKP.out, HQ.out, C9.out⟩
          · have ROW := Lib.hid (CB.out.row (by omega))
            go_wp2_with fail
            go_roundg (n - (a + 1))
            case measure => omega
            case rel => exact ⟨a + 1, O, B, q, d, by omega, rfl, by go_num, ROW.out, HQ.out, C8.out⟩
      · obtain rfl : a = n := by omega
        have b0 := BX7.out.c0
        have b1 := BX7.out.c1
        have f0 := BX7.out.f0
        have f1 := BX7.out.f1
        have R7 := Lib.hid C7.out.rd
        go_wp2_with fail
        have z := BX7.out.put (a : Int) (d := d) R7.out
        have HB7 := C7.out.bg.below
        refine bodyPost_ret (v := .agg #[.int .i64 (a : Int), .slice B q d]) (by simp [results, Tryz.results24, go_sem, z.1, z.2.1]) rfl ⟨?_, O, B, q, d, CA.out, HQ.out, rfl, z.2.2⟩
        exact (HB7.setCell (by simp) _).setCell (by simp) _
end Go.Proofs.YtcpkdnhpelkeoaaGreat

namespace Go.Proofs.YtcpkdnhpelkeoaaGreat
set_option linter.unusedVariables false
set_option linter.unusedSimpArgs false
open Go.RowKit Go.Sort
attribute [local go_sem ↓] Go.wp_at_zero Go.wp_at_succ

set_option maxHeartbeats 2000000 in
theorem cl1_any (X L : Option Addr) (n d k e : Nat) (x l : List Int) (pb : Addr) (w : World) (hn : n ≤ 1000000) (hk : k ≤ 1000000) (hx : Rd w 1 X n (ints x)) (hc : w.cell? pb = some (.slice L k e)) (hl : Rd w 1 L k (ints l)) :
    Calls Tryz.prog 27 #[.slice X n d, .pointer (some pb)] w fun r w' => r = .returned (.bool (decide (x = l))) ∧ Below w.heap.size w w' := by
  have HX := Lib.hid hx
  have HL := Lib.hid hl
  clear hx hl
  go_enter Tryz.func27, Tryz.ntmps27
  go_wp2_with (first
    | (go_at_call 28; refine (equalI_any X L n d k e x l _ (by omega) (by omega) HX.out HL.out).mono ?_; rintro r w1 ⟨rfl, hb⟩; have B1 := Lib.hid hb; clear hb)
    | fail)
  go_ret
  exact ⟨rfl, B1.out⟩
theorem cl1_b {b : Bool} (X L : Option Addr) (n d k e : Nat) (x l : List Int) (pb : Addr) (w : World) (hn : n ≤ 1000000) (hk : k ≤ 1000000) (hx : Rd w 1 X n (ints x)) (hc : w.cell? pb = some (.slice L k e)) (hl : Rd w 1 L k (ints l)) (hb : decide (x = l) = b) :
    Calls Tryz.prog 27 #[.slice X n d, .pointer (some pb)] w fun r w' => r = .returned (.bool b) ∧ Below w.heap.size w w' := by
  subst hb; exact cl1_any X L n d k e x l pb w hn hk hx hc hl
def shortL (ls : List (List Int)) : Prop := ∀ k, (ls.getD k []).length ≤ 1000000
def IxPost (w : World) (b : Bool) (e : Ending) (w' : World) : Prop := Below w.heap.size w w' ∧ ∃ r : Int, e = .returned (.int .i64 r) ∧ decide (0 ≤ r) = b
set_option maxHeartbeats 4000000 in
theorem idxLs_any (A L : Option Addr) (n c k e : Nat) (ls : List (List Int)) (l : List Int) (pb : Addr) (w : World) (hn : n ≤ 1000000) (hk : k ≤ 1000000) (hs : shortL ls) (he : RdL w A n ls) (hc : w.cell? pb = some (.slice L k e)) (hl : Rd w 1 L k (ints l)) :
    Calls Tryz.prog 50 #[.slice A n c, .func (.func 27) #[] #[.pointer (some pb)]] w (IxPost w (decide (l ∈ ls))) := by
  have H1 := Lib.hid he
  have HLN : Hid (ls.length = n) := Lib.hid he.1
  have HC := Lib.hid hc
  have HL := Lib.hid hl
  have HS := Lib.hid hs
  clear he hc hl hs
  go_enter Tryz.func50, Tryz.ntmps50
  go_wp2_with fail
  go_loopg [8] n (fun g i wr => ∃ q : Nat, q ≤ n ∧ g = n - q ∧ i = .int .i64 q ∧ (∀ j, j < q → ls.getD j [] ≠ l) ∧ Below w.heap.size w wr)
  case atStart => exact ⟨0, Nat.zero_le _, rfl, rfl, by omega, Below.refl _ _⟩
  case round =>
    obtain ⟨q, hq, rfl, rfl, hok, hb⟩ := hrel
    have HB := Lib.hid hb
    have HOK := Lib.hid hok
    have kr := Keeps.of_below hb (Nat.le_refl _)
    have c1 := kr _ _ HC.out
    have RL := Lib.hid (HL.out.keep kr)
    clear hb hok
    by_cases hlt : q < n
    · obtain ⟨ad, A1, e1, rfl, c0, r1⟩ := (H1.out.keep kr).at hlt
      have b1 := HS.out q
      generalize hx : ls.getD q [] = x at c0 r1 b1
      have HX := Lib.hid hx
      have R1 := Lib.hid r1
      clear hx r1 kr
      generalize x.length = lx at *
      cases hp : decide (x = l)
      · have HP := Lib.hid hp
        clear hp
        go_wp2_with (first
          | (go_at_call 27; refine (cl1_b (b := false) A1 L lx e1 k e x l pb _ b1 hk R1.out c1 RL.out HP.out).mono ?_; rintro r w1 ⟨rfl, hb1⟩; have B1 := Lib.hid hb1; clear hb1)
          | fail)
        go_roundg (n - (q + 1))
        case measure => omega
        case rel => exact ⟨q + 1, by omega, rfl, by go_num, fun j hj => by
          by_cases e : j = q
          · subst e; rw [HX.out]; simpa using HP.out
          · exact HOK.out j (by omega), HB.out.trans (B1.out.mono HB.out.size)⟩
      · have HP := Lib.hid hp
        clear hp
        go_wp2_with (first
          | (go_at_call 27; refine (cl1_b (b := true) A1 L lx e1 k e x l pb _ b1 hk R1.out c1 RL.out HP.out).mono ?_; rintro r w1 ⟨rfl, hb1⟩; have B1 := Lib.hid hb1; clear hb1)
          | fail)
        go_ret
        refine ⟨HB.out.trans (B1.out.mono HB.out.size), q, rfl, ?_⟩
        rw [decide_eq_true (by omega : (0 : Int) ≤ (q : Int))]
        symm
        rw [decide_eq_true_iff]
        have h1 : x = l := by simpa using HP.out
        rw [← h1, ← HX.out, List.getD_eq_getElem?_getD, List.getElem?_eq_getElem (by rw [HLN.out]; exact hlt)]
        exact List.getElem_mem _
    · obtain rfl : q = n := by omega
      go_wp2_with fail
      go_ret
      refine ⟨HB.out, -1, rfl, ?_⟩
      rw [decide_eq_false (by omega)]
      symm
      rw [decide_eq_false_iff_not]
      intro hm
      obtain ⟨j, hj, hx⟩ := List.getElem_of_mem hm
      have := HOK.out j (by have := HLN.out; omega)
      rw [List.getD_eq_getElem?_getD, List.getElem?_eq_getElem hj] at this
      exact this hx
set_option maxHeartbeats 2000000 in
theorem cfLs_any (A L : Option Addr) (n c k e : Nat) (ls : List (List Int)) (l : List Int) (pb : Addr) (w : World) (hn : n ≤ 1000000) (hk : k ≤ 1000000) (hs : shortL ls) (he : RdL w A n ls) (hc : w.cell? pb = some (.slice L k e)) (hl : Rd w 1 L k (ints l)) :
    Calls Tryz.prog 26 #[.slice A n c, .func (.func 27) #[] #[.pointer (some pb)]] w fun e w' => e = .returned (.bool (decide (l ∈ ls))) ∧ Below w.heap.size w w' := by
  have CI : Hid (Calls Tryz.prog 50 #[.slice A n c, .func (.func 27) #[] #[.pointer (some pb)]] w (IxPost w (decide (l ∈ ls)))) := Lib.hid (idxLs_any A L n c k e ls l pb w hn hk hs he hc hl)
  generalize decide (l ∈ ls) = b at CI ⊢
  clear hs he hc hl
  go_enter Tryz.func26, Tryz.ntmps26
  go_wp2_with (first
    | (go_at_call 50; refine CI.out.mono ?_; rintro r w1 ⟨hb1, z, rfl, hz⟩; have B1 := Lib.hid hb1; have HZ := Lib.hid hz; clear hb1 hz)
    | fail)
  go_ret
  exact ⟨ret_bool HZ.out, B1.out⟩
end Go.Proofs.YtcpkdnhpelkeoaaGreat

namespace Go.Proofs.YtcpkdnhpelkeoaaGreat
set_option linter.unusedVariables false
set_option linter.unusedSimpArgs false
open Go.RowKit Go.Sort
attribute [local go_sem ↓] Go.wp_at_zero Go.wp_at_succ

/-- The frame of a function of a graph. -/
def BC (w : World) (N : Int) (A : Option Addr) (m c : Nat) (w1 : World) : Prop := Below (w.heap.size + 1) (w.alloc (.cells #[.int .i64 N, .slice A m c] 31)) w1
section
variable {w w1 w2 : World} {N : Int} {A : Option Addr} {m c : Nat}
theorem BC.start : BC w N A m c (w.alloc (.cells #[.int .i64 N, .slice A m c] 31)) := Below.refl _ _
theorem BC.facts (h : BC w N A m c w1) : w.heap.size < w1.heap.size ∧ w1.cell? ⟨w.heap.size, 0, none⟩ = some (.int .i64 N) ∧ w1.cell? ⟨w.heap.size, 1, none⟩ = some (.slice A m c) := by
  have hs := h.size
  simp at hs
  refine ⟨by omega, ?_, ?_⟩
  · rw [Below.cell h (by simp)]; simp
  · rw [Below.cell h (by simp)]; simp
theorem BC.next (h : BC w N A m c w1) (hb : Below w1.heap.size w1 w2) : BC w N A m c w2 := Below.trans h (hb.mono h.facts.1)
theorem BC.below (h : BC w N A m c w1) : Below w.heap.size w w1 := ((Below.refl _ _).alloc (Nat.le_refl _) _).trans (Below.mono h (by omega))
theorem BC.keeps (h : BC w N A m c w1) : Keeps w w1 := Keeps.of_below h.below (Nat.le_refl _)
end
/-- What lies in memory behind the closure. -/
structure CK (w wr : World) (N : Int) (A : Option Addr) (m c hb : Nat) (O : List (Int × Int)) (B : Option Addr) (q d : Nat) : Prop where
  bg : BC w N A m c wr
  lo : w.heap.size < hb
  hi : hb < wr.heap.size
  h0 : wr.cell? ⟨hb, 0, none⟩ = some (.int .i64 N)
  h1 : wr.cell? ⟨hb, 1, none⟩ = some (.slice B q d)
  rd : Rd wr 2 B q (prs O)
section
variable {w wr w' : World} {N : Int} {A B : Option Addr} {m c hb q d : Nat} {O : List (Int × Int)}
theorem CK.later (h : CK w wr N A m c hb O B q d) (hb' : Below wr.heap.size wr w') : CK w w' N A m c hb O B q d := by
  have kk := Keeps.of_below hb' (Nat.le_refl _)
  have hs := hb'.size
  have hi := h.hi
  exact ⟨h.bg.next hb', h.lo, by omega, kk _ _ h.h0, kk _ _ h.h1, h.rd.keep kk⟩
end
theorem CK.new {w w6 : World} {N : Int} {A B : Option Addr} {m c q d : Nat} {O : List (Int × Int)} (h : BC w N A m c w6) (hr : Rd w6 2 B q (prs O)) : CK w (w6.alloc (.cells #[.int .i64 N, .slice B q d] 31)) N A m c w6.heap.size O B q d :=
  ⟨h.next ((Below.refl _ _).alloc (Nat.le_refl _) _), h.facts.1, by simp, by simp, by simp, hr.keep (Keeps.alloc _ _)⟩
theorem CK.of_box {w w6 : World} {N : Int} {A B : Option Addr} {m c q d hb : Nat} {O : List (Int × Int)} (h : BC w N A m c w6) (hlo : w.heap.size < hb) (hx : BOXG w6 hb) (hr : Rd w6 2 B q (prs O)) :
    CK w ((w6.setCell ⟨hb, 0, none⟩ (.int .i64 N)).setCell ⟨hb, 1, none⟩ (.slice B q d)) N A m c hb O B q d := by
  obtain ⟨z0, z1, z2⟩ := hx.put N (d := d) hr
  have e1 : Below (w.heap.size + 1) (w.alloc (.cells #[.int .i64 N, .slice A m c] 31)) (w6.setCell ⟨hb, 0, none⟩ (.int .i64 N)) := Below.setCell h (by simp; omega) _
  have e2 : Below (w.heap.size + 1) (w.alloc (.cells #[.int .i64 N, .slice A m c] 31)) ((w6.setCell ⟨hb, 0, none⟩ (.int .i64 N)).setCell ⟨hb, 1, none⟩ (.slice B q d)) := Below.setCell e1 (by simp; omega) _
  exact ⟨e2, hlo, by simp; exact hx.lt, z0, z1, z2⟩
/-- The points before p that lie in the cluster of u and v. -/
def clU (es : List (Int × Int)) (u v p : Nat) : List Int := ((List.range p).filter (inCb es u v)).map fun (i : Nat) => (i : Int)
section
variable {n : Nat} {es : List (Int × Int)} {u v p : Nat}
theorem clU_yes (h : inCb es u v p = true) : clU es u v (p + 1) = clU es u v p ++ [(p : Int)] := by
  unfold clU; rw [List.range_succ, List.filter_append, List.map_append]; simp [h]
theorem clU_no (h : inCb es u v p = false) : clU es u v (p + 1) = clU es u v p := by
  unfold clU; rw [List.range_succ, List.filter_append, List.map_append]; simp [h]
theorem clU_len : (clU es u v p).length ≤ p := by
  unfold clU
  rw [List.length_map]
  exact Nat.le_trans (List.length_filter_le _ _) (by simp)
end
/-- What is gathered when the first k edges have been looked at. -/
structure Gat (n : Nat) (es : List (Int × Int)) (k : Nat) (ls : List (List Int)) : Prop where
  nd : ls.Nodup
  mem : ∀ l, l ∈ ls ↔ ∃ j, j < k ∧ l = clP n es (es.getD j (0, 0)).1.toNat (es.getD j (0, 0)).2.toNat
section
variable {n k : Nat} {es : List (Int × Int)} {ls ls' : List (List Int)} {l : List Int}
theorem Gat.start : Gat n es 0 [] := ⟨List.Pairwise.nil, fun l => by simp⟩
theorem Gat.skip (h : Gat n es k ls) (hl : clP n es (es.getD k (0, 0)).1.toNat (es.getD k (0, 0)).2.toNat = l) (hm : l ∈ ls) : Gat n es (k + 1) ls := ⟨h.nd, fun x => by
  rw [h.mem]
  constructor
  · rintro ⟨j, hj, e⟩; exact ⟨j, by omega, e⟩
  · rintro ⟨j, hj, e⟩
    by_cases hjk : j = k
    · subst hjk
      rw [hl] at e
      subst e
      exact (h.mem _).1 hm
    · exact ⟨j, by omega, e⟩⟩
theorem Gat.push (h : Gat n es k ls) (hl : clP n es (es.getD k (0, 0)).1.toNat (es.getD k (0, 0)).2.toNat = l) (hm : ¬ l ∈ ls) : Gat n es (k + 1) (ls ++ [l]) := ⟨by
  rw [List.nodup_append]
  exact ⟨h.nd, by simp, fun a ha b hb e => by simp at hb; subst hb; subst e; exact hm ha⟩, fun x => by
  rw [List.mem_append, h.mem, List.mem_singleton]
  constructor
  · rintro (⟨j, hj, e⟩ | e)
    · exact ⟨j, by omega, e⟩
    · exact ⟨k, by omega, by rw [hl]; exact e⟩
  · rintro ⟨j, hj, e⟩
    by_cases hjk : j = k
    · subst hjk
      rw [hl] at e
      exact .inr e
    · exact .inl ⟨j, by omega, e⟩⟩
theorem Gat.short (h : Gat n es k ls) (hn : n ≤ 1000000) : shortL ls := fun i => by
  by_cases hi : i < ls.length
  · obtain ⟨j, -, e⟩ := (h.mem (ls.getD i [])).1 (by rw [List.getD_eq_getElem?_getD, List.getElem?_eq_getElem hi]; exact List.getElem_mem _)
    rw [e]
    exact Nat.le_trans (clU_len (p := n)) hn
  · rw [List.getD_eq_getElem?_getD, List.getElem?_eq_none (by omega)]; simp
theorem Gat.fin (h : Gat n es es.length ls) (hp : ls'.Perm ls) (hs : ls'.Pairwise fun x y => lexL y x = false) : CluL n es ls' :=
  ⟨strictL_of (hp.nodup_iff.2 h.nd) hs, fun l => by
    rw [hp.mem_iff, h.mem]
    constructor
    · rintro ⟨j, hj, e⟩
      exact ⟨es.getD j (0, 0), by rw [List.getD_eq_getElem?_getD, List.getElem?_eq_getElem hj]; exact List.getElem_mem _, e⟩
    · rintro ⟨e, he, rfl⟩
      obtain ⟨j, hj, rfl⟩ := List.getElem_of_mem he
      exact ⟨j, hj, by rw [List.getD_eq_getElem?_getD, List.getElem?_eq_getElem hj]; rfl⟩⟩
end
def CluPost (w : World) (n : Nat) (es : List (Int × Int)) (e : Ending) (w' : World) : Prop :=
  Below w.heap.size w w' ∧ ∃ C nC c ls, e = .returned (.slice C nC c) ∧ CluL n es ls ∧ OwnL w' w.heap.size C nC c ls
end Go.Proofs.YtcpkdnhpelkeoaaGreat

namespace Go.Proofs.YtcpkdnhpelkeoaaGreat
set_option linter.unusedVariables false
set_option linter.unusedSimpArgs false
open Go.RowKit Go.Sort
attribute [local go_sem ↓] Go.wp_at_zero Go.wp_at_succ

set_option maxHeartbeats 2000000 in
theorem clusters_no (N : Int) (A : Option Addr) (m c : Nat) (es : List (Int × Int)) (w : World) (hm : m ≤ 1000000) (he : Rd w 2 A m (prs es)) (hv : validB N es = false) :
    Calls Tryz.prog 10 #[.agg #[.int .i64 N, .slice A m c]] w fun e w' => e = .returned (.slice none 0 0) ∧ Below w.heap.size w w' := by
  have H0 := Lib.hid (he.keep (BC.start (N := N) (A := A) (m := m) (c := c)).keeps)
  have S0 : Hid (Below w.heap.size w (w.alloc (.cells #[.int .i64 N, .slice A m c] 31))) := Lib.hid BC.start.below
  have HV := Lib.hid hv
  clear he hv
  go_enter Tryz.func10, Tryz.ntmps10
  go_wp2_with (first
    | (go_at_call 23; refine (gvalid_b (b := false) N A m c es _ (by omega) H0.out HV.out).mono ?_; rintro e w1 ⟨rfl, hb⟩; have B1 := Lib.hid hb; clear hb)
    | fail)
  go_ret
  exact ⟨rfl, S0.out.trans (B1.out.mono (by simp))⟩
/-- The world in which a cluster's points are gathered: the edge and the empty list. -/
def XI (wr : World) (u v : Nat) : World := (wr.alloc (.cells #[.int .i64 (u : Int), .int .i64 (v : Int)] 28)).alloc (.cells #[.slice none 0 0] 24)
theorem keep2' {W : World} {u v : Nat} {p : Addr} {x : Value} (h : W.cell? p = some x) : (XI W u v).cell? p = some x := Keeps.alloc _ _ _ _ (Keeps.alloc _ _ _ _ h)
structure IN (X wi : World) (b : Nat) (D : Option Addr) (nD cD : Nat) (l : List Int) : Prop where
  bl : Below (b + 1) X wi
  sz : b + 1 < wi.heap.size
  cd : wi.cell? ⟨b + 1, 0, none⟩ = some (.slice D nD cD)
  fz : wi.frozen? ⟨b + 1, 0, none⟩ = false
  ow : Own wi (b + 2) 3 1 D nD cD (ints l)
section
variable {wr X wi w' : World} {b u v nD cD : Nat} {D : Option Addr} {l : List Int}
theorem IN.start : IN (XI wr u v) (XI wr u v) wr.heap.size none 0 0 [] := ⟨Below.refl _ _, by unfold XI; simp, by unfold XI; simp, by unfold XI; simp, Own.nil _ _ _ _⟩
theorem IN.later (h : IN X wi b D nD cD l) (hb : Below wi.heap.size wi w') : IN X w' b D nD cD l := by
  have hs := hb.size
  have hz := h.sz
  have kk := Keeps.of_below hb (Nat.le_refl _)
  exact ⟨h.bl.trans (hb.mono (by omega)), by omega, kk _ _ h.cd, by rw [hb.frozen (by exact hz)]; exact h.fz, h.ow.later hb⟩
theorem IN.below (h : IN (XI wr u v) wi wr.heap.size D nD cD l) : Below wr.heap.size wr wi := by
  have h1 : Below wr.heap.size wr (XI wr u v) := ((Below.refl _ _).alloc (Nat.le_refl _) _).alloc (by simp) _
  exact h1.trans (h.bl.mono (by omega))
theorem IN.c0 (h : IN (XI wr u v) wi wr.heap.size D nD cD l) : wi.cell? ⟨wr.heap.size, 0, none⟩ = some (.int .i64 (u : Int)) := by
  rw [h.bl.cell (by simp)]; unfold XI; rw [World.cell?_alloc_lt _ _ _ (by simp)]; simp
theorem IN.c1 (h : IN (XI wr u v) wi wr.heap.size D nD cD l) : wi.cell? ⟨wr.heap.size, 1, none⟩ = some (.int .i64 (v : Int)) := by
  rw [h.bl.cell (by simp)]; unfold XI; rw [World.cell?_alloc_lt _ _ _ (by simp)]; simp
theorem IN.len (h : IN X wi b D nD cD l) : l.length = nD := h.ow.rd.int_len
theorem IN.push (h : IN X wi b D nD cD l) {D2 : Option Addr} {c2 : Nat} {o : Obj} {x : Int} (ho : Own w' (b + 2) 3 1 D2 (nD + 1) c2 (ints l ++ ints [x])) (hg : (wi.alloc o).grownBy w' (blk D)) :
    w'.cell? ⟨b + 1, 0, none⟩ = some (.slice D nD cD) ∧ w'.frozen? ⟨b + 1, 0, none⟩ = false ∧ IN X (w'.setCell ⟨b + 1, 0, none⟩ (.slice D2 (nD + 1) c2)) b D2 (nD + 1) c2 (l ++ [x]) := by
  have hz := h.sz
  have b1 : Below (b + 2) wi w' := (((Below.refl _ _).alloc (by omega) _).grown hg (by simp; omega) (fun k hk => (h.ow.lt hk).1))
  have hs := b1.size
  have e1 : w'.cell? ⟨b + 1, 0, none⟩ = some (.slice D nD cD) := by rw [b1.cell (by simp)]; exact h.cd
  have e2 : w'.frozen? ⟨b + 1, 0, none⟩ = false := by rw [b1.frozen (by simp)]; exact h.fz
  refine ⟨e1, e2, (h.bl.trans (b1.mono (by omega))).setCell (by simp) _, by simp; omega, World.cell?_setCell_same _ _ _ e1, by simp; exact e2, ?_⟩
  rw [ints_app]
  exact Own.setOther' ho (by simp) _
end
theorem pushL {w w' : World} {base n c c' : Nat} {A A' : Option Addr} {ls : List (List Int)} {hs : List (Option Addr × Nat)} {B : Option Addr} {d q : Nat} {l : List Int} (hq : l.length = q)
    (h1 : ls.length = n) (h2 : hs.length = n) (h4 : ∀ (i : Nat) (h : Option Addr × Nat) (l : List Int), hs[i]? = some h → ls[i]? = some l → Own w base 3 1 h.1 l.length h.2 (ints l))
    (hl : Own w base 3 1 B q d (ints l)) (ho0 : ∃ xs, Own w base 24 1 A n c xs)
    (ho : Own w' base 24 1 A' (n + 1) c' (heads hs ls ++ [.slice B q d])) (hg : w.grownBy w' (blk A)) : OwnL w' base A' (n + 1) c' (ls ++ [l]) := by
  subst hq
  exact OwnL.push h1 h2 h4 hl ho0 ho hg

set_option maxRecDepth 100000 in
set_option maxHeartbeats 16000000 in
theorem clusters_any (n : Nat) (A : Option Addr) (m c : Nat) (es : List (Int × Int)) (w : World) (hn : n ≤ 20) (he : Rd w 2 A m (prs es)) (hv : validB n es = true) :
    Calls Tryz.prog 10 #[.agg #[.int .i64 (n : Int), .slice A m c]] w (CluPost w n es) := by
  have H0 := Lib.hid he
  have HE := Lib.hid he.prs_len
  have hok := ok_of_valid hv
  have HOK := Lib.hid hok
  have hml := valid_len hv
  have hnn : n * n ≤ 20 * 20 := Nat.mul_le_mul hn hn
  have hm400 : m ≤ 400 := by have := HE.out; omega
  have HV := Lib.hid hv
  have ED : Hid (∀ k, k < m → ∃ u v : Nat, es.getD k (0, 0) = ((u : Int), (v : Int)) ∧ u < n ∧ v < n ∧ u ≠ v) := Lib.hid fun k hk => nat_edge (hok _ (by rw [List.getD_eq_getElem?_getD, List.getElem?_eq_getElem (by rw [HE.out]; exact hk)]; exact List.getElem_mem _))
  have VA : Hid (∀ w', Rd w' 2 A m (prs es) → Calls Tryz.prog 23 #[.agg #[.int .i64 (n : Int), .slice A m c]] w' fun e w'' => e = .returned (.bool true) ∧ Below w'.heap.size w' w'') := Lib.hid fun w' h => gvalid_b n A m c es w' (by omega) h HV.out
  have CLO : Hid (∀ w', Rd w' 2 A m (prs es) → Calls Tryz.prog 24 #[.agg #[.int .i64 (n : Int), .slice A m c]] w' (CloPost w' n es)) := Lib.hid fun w' h => closure_any n A m c es w' hn h HV.out
  have X0 : Hid (BC w n A m c (w.alloc (.cells #[.int .i64 (n : Int), .slice A m c] 31))) := Lib.hid BC.start
  clear he hv hok hml hnn
  go_enter Tryz.func10, Tryz.ntmps10
  obtain ⟨hz0, p0, p1⟩ := X0.out.facts
  have R0 := Lib.hid (H0.out.keep X0.out.keeps)
  go_upto_region 3 with (first
    | (go_at_call 23; refine (VA.out _ R0.out).mono ?_; rintro e W5 ⟨rfl, hb⟩; have X5 := Lib.hid (X0.out.next hb); clear p0 p1; obtain ⟨hz5, p0, p1⟩ := X5.out.facts; have RR := Lib.hid (H0.out.keep X5.out.keeps); have n0 := World.new_ne W5 _ p1; clear hb)
    | fail)
  go_cut [3] (fun h wx => ∃ (g : Nat) (O : List (Int × Int)) (B : Option Addr) (q d : Nat), h = .pointer (some ⟨g, 0, none⟩) ∧ Clo n es n 0 O ∧ O.length = q ∧ CK w wx n A m c g O B q d)
  case first =>
    go_wp2_with (first
      | (go_at_call 24; refine (CLO.out _ RR.out).mono ?_; rintro e w6 ⟨hb, O, B, q, d, hclo, hq, rfl, hr6⟩; have X6 := Lib.hid (X5.out.next hb); have CC := Lib.hid hclo; have HQ := Lib.hid hq; have R6 := Lib.hid hr6; clear hb hclo hq hr6)
      | fail)
    go_meet
    exact ⟨_, O, B, q, d, rfl, CC.out, HQ.out, CK.new X6.out R6.out⟩
  case rest =>
    obtain ⟨g, O, B, q, d, rfl, hclo, hq, hck⟩ := hcut
    rename World => W7
    have C7 := Lib.hid hck
    have CC := Lib.hid hclo
    have HQ := Lib.hid hq
    have hq400 : q ≤ 400 := by have := valid_len hclo.v; have : n * n ≤ 20 * 20 := Nat.mul_le_mul hn hn; omega
    clear p0 p1
    obtain ⟨hz7, p0, p1⟩ := hck.bg.facts
    have HS : Hid (∀ (a b : Nat) (r : Bool), hasE n O a b = r → ∀ w', Rd w' 2 B q (prs O) → Calls Tryz.prog 25 #[.agg #[.int .i64 (n : Int), .slice B q d], .int .i64 a, .int .i64 b] w' fun e w'' => e = .returned (.bool r) ∧ Below w'.heap.size w' w'') := Lib.hid fun a b r hr w' h => ghas_b n B q d O a b w' (by omega) h hr
    clear hck hclo hq
    go_wp2_with fail
    go_loopg [4, 17] m (fun gm o t wr => ∃ (k : Nat) (C : Option Addr) (nC cC : Nat) (ls : List (List Int)), k ≤ m ∧ gm = m - k ∧ t = .int .i64 k ∧ o = .slice C nC cC ∧ nC ≤ k ∧ Gat n es k ls ∧ OwnL wr W7.heap.size C nC cC ls ∧ Below W7.heap.size W7 wr)
    case atStart => exact ⟨0, none, 0, 0, [], Nat.zero_le _, rfl, rfl, rfl, Nat.le_refl _, Gat.start, OwnL.nil _ _, Below.refl _ _⟩
    case round =>
      obtain ⟨k, C, nC, cC, ls, hk, rfl, rfl, rfl, hnk, hgat, hol, hbr⟩ := hrel
      have GA := Lib.hid hgat
      have OL := Lib.hid hol
      have BR := Lib.hid hbr
      have C8 := Lib.hid (C7.out.later hbr)
      clear p0 p1
      obtain ⟨hz8, p0, p1⟩ := C8.out.bg.facts
      have hzr := hbr.size
      clear hgat hol hbr
      by_cases hlt : k < m
      · obtain ⟨u, v, huv, hu, hv, hne⟩ := ED.out k hlt
        have HUV := Lib.hid huv
        obtain ⟨ad, rfl, c0, c1⟩ := (H0.out.keep C8.out.bg.keeps).prs_at hlt
        rw [huv] at c0 c1
        simp only at c0 c1
        clear huv
        have HG : Hid (∀ l, clP n es u v = l → clP n es (es.getD k (0, 0)).1.toNat (es.getD k (0, 0)).2.toNat = l) := Lib.hid fun l h => by rw [HUV.out]; simpa using h
        obtain ⟨q1, hs, q2, q3, q4⟩ := OL.out
        have Q1 := Lib.hid q1
        have Q2 := Lib.hid q2
        have Q3 := Lib.hid q3
        have Q4 := Lib.hid q4
        clear q1 q2 q3 q4
        have p0x : (XI wr u v).cell? ⟨w.heap.size, 0, none⟩ = some (.int .i64 (n : Int)) := keep2' p0
        go_wp2_with fail
        go_loopg [23] n (fun gm t wi => ∃ (p : Nat) (D : Option Addr) (nD cD : Nat), p ≤ n ∧ gm = n - p ∧ t = .int .i64 p ∧ nD ≤ p ∧ IN (XI wr u v) wi wr.heap.size D nD cD (clU es u v p))
        case atStart => exact ⟨0, none, 0, 0, Nat.zero_le _, rfl, rfl, Nat.le_refl _, IN.start⟩
        case round =>
          obtain ⟨p, D, nD, cD, hp, rfl, rfl, hnD, hin⟩ := hrel
          rename World => wi
          have I1 := Lib.hid hin
          have C9 := Lib.hid (C8.out.later hin.below)
          have hzi := hin.sz
          have x0 := hin.c0
          have x1 := hin.c1
          have g0 := C9.out.h0
          have g1 := C9.out.h1
          have cd := hin.cd
          clear hin p0 p1
          obtain ⟨hz9, p0, p1⟩ := C9.out.bg.facts
          by_cases hpn : p < n
          · go_upto_region 12 with fail
            go_cut [49] (fun b wx => ∃ bb, b = .bool bb ∧ inCb es u v p = bb ∧ Below wi.heap.size wi wx)
            case first =>
              by_cases e1 : p = u
              · have BB : Hid (inCb es u v p = true) := Lib.hid (by unfold inCb; simp [e1])
                have dr1 : ((p : Int) == (u : Int)) = true := by simp [e1]
                clear e1
                go_wp2_with fail
                go_meet
                exact ⟨true, rfl, BB.out, Below.refl _ _⟩
              · have dr1 : ((p : Int) == (u : Int)) = false := by simp; omega
                by_cases e2 : p = v
                · have BB : Hid (inCb es u v p = true) := Lib.hid (by unfold inCb; simp [e2])
                  have dr2 : ((p : Int) == (v : Int)) = true := by simp [e2]
                  clear e1 e2
                  go_wp2_with fail
                  go_meet
                  exact ⟨true, rfl, BB.out, Below.refl _ _⟩
                · have dr2 : ((p : Int) == (v : Int)) = false := by simp; omega
                  have f1 := CC.out.fin HOK.out (by omega) hpn hu e1
                  have f2 := CC.out.fin HOK.out (by omega) hpn hv e2
                  have BB : Hid (inCb es u v p = (hasE n O p u && hasE n O p v)) := Lib.hid (by rw [f1, f2]; unfold inCb; simp [e1, e2])
                  clear f1 f2 e1 e2
                  cases h1 : hasE n O p u
                  · have HS1 := Lib.hid (HS.out p u false h1)
                    rw [h1] at BB
                    clear h1
                    go_wp2_with (first
                      | (go_at_call 25; (with_reducible refine (HS1.out _ C9.out.rd).mono ?_); rintro e w1 ⟨rfl, hb⟩; have B1 := Lib.hid hb; clear hb)
                      | fail)
                    go_meet
                    exact ⟨false, rfl, BB.out, B1.out⟩
                  · have HS1 := Lib.hid (HS.out p u true h1)
                    rw [h1] at BB
                    clear h1
                    cases h2 : hasE n O p v
                    · have HS2 := Lib.hid (HS.out p v false h2)
                      rw [h2] at BB
                      clear h2
                      go_wp2_with (first
                        | (go_at_call 25; (with_reducible refine (HS1.out _ C9.out.rd).mono ?_); rintro e w1 ⟨rfl, hb⟩; have B1 := Lib.hid hb; have I2 := Lib.hid (I1.out.later hb); have C10 := Lib.hid (C9.out.later hb); have x0 := I2.out.c0; have x1 := I2.out.c1; have g0 := C10.out.h0; have g1 := C10.out.h1; clear hb)
                        | (go_at_call 25; (with_reducible refine (HS2.out _ C10.out.rd).mono ?_); rintro e w2 ⟨rfl, hb⟩; have B2 := Lib.hid (B1.out.trans (hb.mono B1.out.size)); clear hb)
                        | fail)
                      go_meet
                      exact ⟨false, rfl, BB.out, B2.out⟩
                    · have HS2 := Lib.hid (HS.out p v true h2)
                      rw [h2] at BB
                      clear h2
                      go_wp2_with (first
                        | (go_at_call 25; (with_reducible refine (HS1.out _ C9.out.rd).mono ?_); rintro e w1 ⟨rfl, hb⟩; have B1 := Lib.hid hb; have I2 := Lib.hid (I1.out.later hb); have C10 := Lib.hid (C9.out.later hb); have x0 := I2.out.c0; have x1 := I2.out.c1; have g0 := C10.out.h0; have g1 := C10.out.h1; clear hb)
                        | (go_at_call 25; (with_reducible refine (HS2.out _ C10.out.rd).mono ?_); rintro e w2 ⟨rfl, hb⟩; have B2 := Lib.hid (B1.out.trans (hb.mono B1.out.size)); clear hb)
                        | fail)
                      go_meet
                      exact ⟨true, rfl, BB.out, B2.out⟩
            case rest =>
              obtain ⟨bb, rfl, hbb, hbx⟩ := hcut
              rename World => wx
              have I2 := Lib.hid (I1.out.later hbx)
              have BB := Lib.hid hbb
              have hzx := I2.out.sz
              have cd := I2.out.cd
              clear hbb hbx x0 x1 g0 g1 p0 p1
              cases bb
              · go_wp2_with fail
                go_roundg (n - (p + 1))
                case measure => omega
                case rel => exact ⟨p + 1, D, nD, cD, by omega, rfl, by go_num, by omega, by rw [clU_no BB.out]; exact I2.out⟩
              · have cdx : ∀ o, (wx.alloc o).cell? ⟨wr.heap.size + 1, 0, none⟩ = some (.slice D nD cD) := fun o => Keeps.alloc _ _ _ _ cd
                go_wp2_with (first
                  | (at_builtin; refine wpList_app _ rfl (.tmp 50) (.tmp 52) 24 rfl (wr.heap.size + 2) 3 (.int .i64 0) 1 8 Tryz.underlying24 info_int' rfl (by decide) D nD cD (ints (clU es u v p)) rfl (I2.out.ow.alloc _) (some ⟨wx.heap.size, 0, none⟩) 1 1 (ints [(p : Int)]) rfl (rd_lit_at rfl [(p : Int)] _) (ints_one _) (by omega) (by unfold maxLen; omega) (by simp; omega) ?_; intro D2 c2 w13 ho13 hg13 hb13; obtain ⟨cd13, fz13, pu⟩ := I2.out.push ho13 hg13; have PU := Lib.hid pu; clear ho13 hg13 hb13 pu)
                  | fail)
                go_roundg (n - (p + 1))
                case measure => omega
                case rel => exact ⟨p + 1, D2, nD + 1, c2, by omega, rfl, by go_num, by omega, by rw [clU_yes BB.out]; exact PU.out⟩
          · obtain rfl : p = n := by omega
            have SH := Lib.hid (GA.out.short (by omega))
            have BZ0 := Lib.hid I1.out.below
            have CF := cfLs_any C D nC cC nD cD ls (clU es u v p) ⟨wr.heap.size + 1, 0, none⟩ wi (by omega) (by omega) SH.out ((OL.out.later BZ0.out).rd) cd I1.out.ow.rd
            have HG1 := Lib.hid (HG.out (clU es u v p) rfl)
            clear x0 x1 g0 g1 p0 p1
            cases hm : decide (clU es u v p ∈ ls)
            · rw [hm] at CF
              have HM : Hid (¬ clU es u v p ∈ ls) := Lib.hid (by simpa using hm)
              have CFH := Lib.hid CF
              clear CF hm
              go_wp2_with (first
                | (go_at_call 26; refine CFH.out.mono ?_; rintro e wz ⟨rfl, hb⟩; have I3 := Lib.hid (I1.out.later hb); have BZ := Lib.hid I3.out.below; have hzz := I3.out.sz; have cd := I3.out.cd; clear hb)
                | (at_builtin; refine wpList_app _ rfl (.tmp 59) (.tmp 61) 22 rfl W7.heap.size 24 (.slice none 0 0) 1 24 Tryz.underlying22 info_ints rfl (by decide) C nC cC (heads hs ls) rfl ((Q3.out.later BZ.out).alloc _) (some ⟨wz.heap.size, 0, none⟩) 1 1 [.slice D nD cD] rfl (rd_new _ 1 1 [.slice D nD cD] _ rfl) head_one (by omega) (by unfold maxLen; omega) (by simp; omega) ?_; intro C2 c2 w16 ho16 hg16 hb16; have OL2 : Hid (OwnL w16 W7.heap.size C2 (nC + 1) c2 (ls ++ [clU es u v p])) := Lib.hid (pushL I3.out.len Q1.out Q2.out (fun i h l a b => ((Q4.out i h l a b).later BZ.out).alloc _) ((I3.out.ow.base_le (by omega)).alloc _) ⟨_, (Q3.out.later BZ.out).alloc _⟩ ho16 hg16); have B16 : Hid (Below W7.heap.size W7 w16) := Lib.hid (((BR.out.trans (BZ.out.mono hzr)).alloc (by omega) _).grown hg16 (by simp; omega) (fun k hk => (Q3.out.lt hk).1)); clear ho16 hg16 hb16)
                | fail)
              go_roundg (m - (k + 1))
              case measure => omega
              case rel => exact ⟨k + 1, C2, nC + 1, c2, _, by omega, rfl, by go_num, rfl, by omega, GA.out.push HG1.out HM.out, OL2.out, B16.out⟩
            · rw [hm] at CF
              have HM : Hid (clU es u v p ∈ ls) := Lib.hid (by simpa using hm)
              have CFH := Lib.hid CF
              clear CF hm
              go_wp2_with (first
                | (go_at_call 26; refine CFH.out.mono ?_; rintro e wz ⟨rfl, hb⟩; have I3 := Lib.hid (I1.out.later hb); have BZ := Lib.hid I3.out.below; clear hb)
                | fail)
              go_roundg (m - (k + 1))
              case measure => omega
              case rel => exact ⟨k + 1, C, nC, cC, ls, by omega, rfl, by go_num, rfl, by omega, GA.out.skip HG1.out HM.out, OL.out.later BZ.out, BR.out.trans (BZ.out.mono hzr)⟩
      · obtain rfl : k = m := by omega
        have SH := Lib.hid (GA.out.short (by omega))
        have GF : Hid (Gat n es es.length ls) := Lib.hid (by rw [HE.out]; exact GA.out)
        go_wp2_with (first
          | (go_at_call 16; refine (sortL_own C nC cC ls _ W7.heap.size OL.out (by omega) (fun i => Nat.le_trans (SH.out i) (by omega))).mono ?_; rintro e w9 ⟨rfl, ls', hp, hs, ho, hg⟩; have HP := Lib.hid hp; have HSS := Lib.hid hs; have HO := Lib.hid ho; have B9 : Hid (Below W7.heap.size W7 w9) := Lib.hid (BR.out.grown hg hzr (fun k hk => by obtain ⟨xs, ho⟩ := OL.out.outer; exact (ho.lt hk).1)); clear hp hs ho hg)
          | fail)
        go_ret
        exact ⟨C7.out.bg.below.trans (B9.out.mono (by omega)), C, nC, cC, ls', rfl, GF.out.fin HP.out HSS.out, HO.out.base_le (by omega)⟩
end Go.Proofs.YtcpkdnhpelkeoaaGreat

namespace Go.Proofs.YtcpkdnhpelkeoaaGreat
set_option linter.unusedVariables false
set_option linter.unusedSimpArgs false
open Go.RowKit Go.Sort
attribute [local go_sem ↓] Go.wp_at_zero Go.wp_at_succ

end Go.Proofs.YtcpkdnhpelkeoaaGreat

namespace Go.Proofs.YtcpkdnhpelkeoaaGreat
set_option linter.unusedVariables false
set_option linter.unusedSimpArgs false
open Go.RowKit Go.Sort
attribute [local go_sem ↓] Go.wp_at_zero Go.wp_at_succ

theorem take_snoc {ls : List (List Int)} {q n : Nat} {x : List Int} (hl : ls.length = n) (hq : q < n) (hx : ls.getD q [] = x) : ls.take (q + 1) = ls.take q ++ [x] := by
  rw [List.getD_eq_getElem?_getD, List.getElem?_eq_getElem (by omega)] at hx
  rw [List.take_succ_eq_append_getElem (by omega)]
  simp at hx
  rw [hx]
def CopPost (w : World) (n : Nat) (ls : List (List Int)) (e : Ending) (w' : World) : Prop := Below w.heap.size w w' ∧ ∃ C c, e = .returned (.slice C n c) ∧ OwnL w' w.heap.size C n c ls
set_option maxRecDepth 100000 in
set_option maxHeartbeats 4000000 in
theorem copied36_any (A : Option Addr) (n c : Nat) (ls : List (List Int)) (w : World) (hn : n ≤ 1000000) (hs : shortL ls) (he : RdL w A n ls) :
    Calls Tryz.prog 7 #[.slice A n c] w (CopPost w n ls) := by
  have H1 := Lib.hid he
  have HLN : Hid (ls.length = n) := Lib.hid he.1
  have HS := Lib.hid hs
  clear he hs
  go_enter Tryz.func7, Tryz.ntmps7
  go_wp2_with fail
  go_loopg [3, 8] n (fun g o i wr => ∃ (q : Nat) (C : Option Addr) (cC : Nat), q ≤ n ∧ g = n - q ∧ i = .int .i64 q ∧ o = .slice C q cC ∧ OwnL wr w.heap.size C q cC (ls.take q) ∧ Below w.heap.size w wr)
  case atStart => exact ⟨0, none, 0, Nat.zero_le _, rfl, rfl, rfl, OwnL.nil _ _, Below.refl _ _⟩
  case round =>
    obtain ⟨q, C, cC, hq, rfl, rfl, rfl, hol, hb⟩ := hrel
    have HB := Lib.hid hb
    have hzr := hb.size
    have kr := Keeps.of_below hb (Nat.le_refl _)
    have OL := Lib.hid hol
    obtain ⟨q1, hs, q2, q3, q4⟩ := hol
    have Q1 := Lib.hid q1
    have Q2 := Lib.hid q2
    have Q3 := Lib.hid q3
    have Q4 := Lib.hid q4
    clear q1 q2 q3 q4 hb
    by_cases hlt : q < n
    · obtain ⟨ad, A1, e1, rfl, c0, r1⟩ := (H1.out.keep kr).at hlt
      have b1 := HS.out q
      have TS : Hid (ls.take (q + 1) = ls.take q ++ [ls.getD q []]) := Lib.hid (take_snoc HLN.out hlt rfl)
      generalize hx : ls.getD q [] = x at c0 r1 b1 TS
      have R1 := Lib.hid r1
      clear hx r1 kr
      generalize hlx : x.length = lx at *
      have HLX := Lib.hid hlx
      clear hlx
      generalize ls.take q = lt at *
      go_wp2_with (first
        | (at_builtin; refine wpList_app _ rfl (.tmp 13) (.tmp 14) 24 rfl wr.heap.size 3 (.int .i64 0) 1 8 Tryz.underlying24 info_int' rfl (by decide) (some ⟨wr.heap.size, 0, none⟩) 0 0 [] rfl (own_empty_at rfl _ _) A1 lx e1 (ints x) rfl (R1.out.keep (Keeps.alloc _ _)) (ints_one _) (by omega) (by unfold maxLen; omega) (by simp) ?_; intro D2 c2 w3 ho3 hg3 hb3; simp only [Nat.zero_add, List.nil_append] at ho3; have HO3 := Lib.hid ho3; have B3 : Hid (Below wr.heap.size wr w3) := Lib.hid (((Below.refl _ _).alloc (Nat.le_refl _) _).grown hg3 (by simp) (fun k hk => by simp [blk] at hk; omega)); have hz3 := B3.out.size; clear ho3 hg3 hb3)
        | (at_builtin; refine wpList_app _ rfl (.tmp 12) (.tmp 16) 22 rfl w.heap.size 24 (.slice none 0 0) 1 24 Tryz.underlying22 info_ints rfl (by decide) C q cC (heads hs lt) rfl ((Q3.out.later B3.out).alloc _) (some ⟨w3.heap.size, 0, none⟩) 1 1 [.slice D2 lx c2] rfl (rd_new _ 1 1 [.slice D2 lx c2] _ rfl) head_one (by omega) (by unfold maxLen; omega) (by simp; omega) ?_; intro C2 c2' w4 ho4 hg4 hb4; have OL2 : Hid (OwnL w4 w.heap.size C2 (q + 1) c2' (lt ++ [x])) := Lib.hid (pushL (q := lx) HLX.out Q1.out Q2.out (fun i h l a b => ((Q4.out i h l a b).later B3.out).alloc _) ((HO3.out.base_le hzr).alloc _) ⟨_, (Q3.out.later B3.out).alloc _⟩ ho4 hg4); have B4 : Hid (Below w.heap.size w w4) := Lib.hid (((HB.out.trans (B3.out.mono hzr)).alloc (by omega) _).grown hg4 (by simp; omega) (fun k hk => (Q3.out.lt hk).1)); clear ho4 hg4 hb4)
        | fail)
      go_roundg (n - (q + 1))
      case measure => omega
      case rel => exact ⟨q + 1, C2, c2', by omega, rfl, by go_num, rfl, by rw [TS.out]; exact OL2.out, B4.out⟩
    · obtain rfl : q = n := by omega
      go_wp2_with fail
      go_ret
      refine ⟨HB.out, C, cC, rfl, ?_⟩
      have := OL.out
      rwa [List.take_of_length_le (by rw [HLN.out]; exact Nat.le_refl _)] at this
end Go.Proofs.YtcpkdnhpelkeoaaGreat

namespace Go.Proofs.YtcpkdnhpelkeoaaGreat
set_option linter.unusedVariables false
set_option linter.unusedSimpArgs false
open Go.RowKit Go.Sort
attribute [local go_sem ↓] Go.wp_at_zero Go.wp_at_succ

/-- The pairs whose first point is one of the first i. -/
def prU (ps : List Int) : Nat → List (Int × Int)
  | 0 => []
  | i + 1 => prU ps i ++ (ps.drop (i + 1)).map (fun y => (ps.getD i 0, y))
/-- The pairs of row i up to its j-th. -/
def prR (ps : List Int) (i j : Nat) : List (Int × Int) := prU ps i ++ ((ps.drop (i + 1)).take j).map (fun y => (ps.getD i 0, y))
theorem prR_zero (ps : List Int) (i : Nat) : prR ps i 0 = prU ps i := by unfold prR; simp
theorem prR_step {ps : List Int} {i j : Nat} {x y : Int} (hj : j < (ps.drop (i + 1)).length) (hx : ps.getD i 0 = x) (hy : (ps.drop (i + 1)).getD j 0 = y) : prR ps i (j + 1) = prR ps i j ++ [(x, y)] := by
  unfold prR
  rw [hx, List.append_assoc, List.take_succ_eq_append_getElem hj, List.map_append]
  rw [List.getD_eq_getElem?_getD, List.getElem?_eq_getElem hj] at hy
  simp at hy ⊢
  exact hy
theorem prR_row {ps : List Int} {i j : Nat} (hj : (ps.drop (i + 1)).length ≤ j) : prR ps i j = prU ps (i + 1) := by
  unfold prR
  rw [List.take_of_length_le hj]; rfl
theorem prU_len (ps : List Int) : ∀ i, (prU ps i).length ≤ i * ps.length
  | 0 => by simp [prU]
  | i + 1 => by
    have := prU_len ps i
    rw [Nat.add_mul]
    simp [prU]
    omega
theorem prR_len {ps : List Int} {i j : Nat} : (prR ps i j).length ≤ (i + 1) * ps.length := by
  have := prU_len ps i
  rw [Nat.add_mul]
  unfold prR
  simp
  omega
theorem rd_drop {w : World} {ad : Addr} {n r s : Nat} {l : List Int} (h : Rd w 1 (some ad) n (ints l)) (hs : s + r = n) (h0 : 0 < s) : Rd w 1 (some ⟨ad.block, ad.off + s, none⟩) r (ints (l.drop s)) := by
  have hl := h.int_len
  refine ⟨by simp [ints]; omega, fun hn => ⟨_, rfl, fun j u hu => ?_⟩⟩
  obtain ⟨ad', he, hc⟩ := h.2 (by omega)
  injection he with he
  subst he
  have := hc (s + j) u (by simpa [ints, List.getElem?_drop] using hu)
  have e0 : ¬ s = 0 := by omega
  by_cases hj : j = 0
  · subst hj; simpa [Addr.add, e0] using this
  · simpa [Addr.add, Nat.add_assoc, e0, hj] using this
def PrPost (w : World) (l : List (Int × Int)) (e : Ending) (w' : World) : Prop := Below w.heap.size w w' ∧ ∃ C n c, e = .returned (.slice C n c) ∧ Own w' w.heap.size 28 2 C n c (prs l)
set_option maxRecDepth 100000 in
set_option maxHeartbeats 8000000 in
theorem cpairs_any (P : Option Addr) (k d : Nat) (ps : List Int) (w : World) (hk : k ≤ 1000) (hkd : k ≤ d) (hp : Rd w 1 P k (ints ps)) :
    Calls Tryz.prog 33 #[.slice P k d] w (PrPost w (prU ps k)) := by
  have HP := Lib.hid hp.int_len
  have H1 := Lib.hid hp
  clear hp
  go_enter Tryz.func33, Tryz.ntmps33
  go_wp2_with fail
  go_loopg [3, 10] k (fun g o t wr => ∃ (i : Nat) (C : Option Addr) (q c : Nat), i ≤ k ∧ g = k - i ∧ t = .int .i64 i ∧ o = .slice C q c ∧ Own wr w.heap.size 28 2 C q c (prs (prU ps i)) ∧ Below w.heap.size w wr)
  case atStart => exact ⟨0, none, 0, 0, Nat.zero_le _, rfl, rfl, rfl, Own.nil _ _ _ _, Below.refl _ _⟩
  case round =>
    obtain ⟨i, C, q, c, hik, rfl, rfl, rfl, ho, hb⟩ := hrel
    have HB := Lib.hid hb
    have HO := Lib.hid ho
    have R1 := Lib.hid (H1.out.keep (Keeps.of_below hb (Nat.le_refl _)))
    clear hb ho
    by_cases hlt : i < k
    · obtain ⟨ap, rfl, -, c0⟩ := R1.out.int_at hlt
      generalize hx : ps.getD i 0 = x at c0
      have HX := Lib.hid hx
      clear hx
      have e1 : (i : Int) + 1 ≤ (k : Int) := by omega
      have e2 : (k : Int) ≤ (d : Int) := by omega
      have e3 : (0 : Int) ≤ (i : Int) + 1 := by omega
      have e4 : ((i : Int) + 1).toNat = i + 1 := by omega
      have e5 : i + 1 ≤ k := by omega
      have e6 : IntKind.i64.wrap ((i : Int) + 1) = (i : Int) + 1 := IntWalk.i64_in _ (by omega)
      go_upto_region 5 with fail
      go_cut [18, 19, 20] (fun s l z wx => wx = wr ∧ z = .int .i64 0 ∧ l = .int .i64 ((k - (i + 1) : Nat) : Int) ∧ ∃ B e, s = .slice B (k - (i + 1)) e ∧ Rd w 1 B (k - (i + 1)) (ints (ps.drop (i + 1))))
      case first =>
        by_cases hd : d = i + 1
        · have hk1 : k = i + 1 := by omega
          have hde : ps.drop (i + 1) = [] := List.drop_eq_nil_of_le (by rw [HP.out]; omega)
          have KK := Lib.hid hk1
          have HDE := Lib.hid hde
          clear hde hk1
          subst hd
          go_wp2_with fail
          go_meet
          rw [HDE.out, show k - (i + 1) = 0 by have := KK.out; omega]
          exact ⟨rfl, rfl, rfl, _, _, rfl, Rd.nil _ _ _⟩
        · have RD := Lib.hid (rd_drop (r := k - (i + 1)) (s := i + 1) H1.out (by omega) (by omega))
          go_wp2_with fail
          go_meet
          exact ⟨rfl, rfl, rfl, _, _, rfl, RD.out⟩
      case rest =>
        obtain ⟨rfl, rfl, rfl, B, e, rfl, hrd⟩ := hcut
        have RB := Lib.hid hrd
        have HL : Hid ((ps.drop (i + 1)).length = k - (i + 1)) := Lib.hid hrd.int_len
        clear hrd
        generalize hr : k - (i + 1) = r at *
        have hrk : r ≤ k := by omega
        go_wp2_with fail
        go_loopg [3, 20] r (fun g o t wi => ∃ (j : Nat) (C : Option Addr) (q c : Nat), j ≤ r ∧ g = r - j ∧ t = .int .i64 j ∧ o = .slice C q c ∧ Own wi w.heap.size 28 2 C q c (prs (prR ps i j)) ∧ Below w.heap.size w wi)
        case atStart => exact ⟨0, C, q, c, Nat.zero_le _, rfl, rfl, rfl, by rw [prR_zero]; exact HO.out, HB.out⟩
        case round =>
          obtain ⟨j, C, q, c, hjr, rfl, rfl, rfl, ho, hb⟩ := hrel
          rename World => wi
          have HBi := Lib.hid hb
          have HOi := Lib.hid ho
          have hzi := hb.size
          have hql := ho.plen
          have hlen : (prR ps i j).length ≤ (i + 1) * k := by have := prR_len (ps := ps) (i := i) (j := j); rw [HP.out] at this; exact this
          have hkk : (i + 1) * k ≤ 1000 * 1000 := Nat.mul_le_mul (by omega) hk
          have hq6 : q ≤ 1000000 := by omega
          have Rk : Hid (Keeps w wi) := Lib.hid (Keeps.of_below hb (Nat.le_refl _))
          clear hb ho hql hlen hkk
          by_cases hjl : j < r
          · obtain ⟨ab, rfl, -, c1⟩ := (RB.out.keep Rk.out).int_at hjl
            generalize hy : (ps.drop (i + 1)).getD j 0 = y at c1
            have ST := Lib.hid (prR_step (by rw [HL.out]; exact hjl) HX.out hy)
            clear hy
            go_wp2_with (first
              | (at_builtin; refine wpList_app _ rfl (.tmp 24) (.tmp 28) 29 rfl w.heap.size 28 (.agg #[.int .i64 0, .int .i64 0]) 2 16 Tryz.underlying29 info_pair rfl (by decide) C q c (prs (prR ps i j)) rfl (HOi.out.alloc _) (some ⟨wi.heap.size, 0, none⟩) 1 1 (prs [(x, y)]) rfl (rd_lit2_at rfl [(x, y)] _) (prs_one _) (by omega) (by unfold maxLen; omega) (by simp; omega) ?_; intro C2 c2 w3 ho3 hg3 hb3; have HO3 : Hid (Own w3 w.heap.size 28 2 C2 (q + 1) c2 (prs (prR ps i (j + 1)))) := Lib.hid (by rw [ST.out, prs_app]; exact ho3); have B3 : Hid (Below w.heap.size w w3) := Lib.hid ((HBi.out.alloc (by omega) _).grown hg3 (by simp; omega) (fun k hk => (HOi.out.lt hk).1)); clear ho3 hg3 hb3)
              | fail)
            go_roundg (r - (j + 1))
            case measure => omega
            case rel => exact ⟨j + 1, C2, q + 1, c2, by omega, rfl, by go_num, rfl, HO3.out, B3.out⟩
          · obtain rfl : j = r := by omega
            have RW := Lib.hid (prR_row (i := i) (Nat.le_of_eq HL.out))
            go_wp2_with fail
            go_roundg (k - (i + 1))
            case measure => omega
            case rel => exact ⟨i + 1, C, q, c, by omega, rfl, by go_num, rfl, by rw [← RW.out]; exact HOi.out, HBi.out⟩
    · obtain rfl : i = k := by omega
      go_wp2_with fail
      go_ret
      exact ⟨HB.out, C, q, c, rfl, HO.out⟩
end Go.Proofs.YtcpkdnhpelkeoaaGreat

namespace Go.Proofs.YtcpkdnhpelkeoaaGreat
set_option linter.unusedVariables false
set_option linter.unusedSimpArgs false
open Go.RowKit Go.Sort
attribute [local go_sem ↓] Go.wp_at_zero Go.wp_at_succ

set_option maxHeartbeats 2000000 in
theorem vir1_b {b : Bool} (x N : Int) (g : Nat) (w : World) (hc : w.cell? ⟨g, 0, none⟩ = some (.int .i64 N)) (hb : decide (N ≤ x) = b) :
    Calls Tryz.prog 29 #[.int .i64 x, .pointer (some ⟨g, 0, none⟩)] w fun r w' => r = .returned (.bool b) ∧ Below w.heap.size w w' := by
  subst hb
  go_enter Tryz.func29, Tryz.ntmps29
  go_wp2_with fail
  go_ret
  exact ⟨rfl, Below.refl _ _⟩
def ovB (N : Int) (ps : List Int) : Bool := ps.any fun y => decide (N ≤ y)
set_option maxHeartbeats 4000000 in
theorem idxV_any (A : Option Addr) (n c : Nat) (ps : List Int) (N : Int) (g : Nat) (w : World) (hn : n ≤ 1000000) (he : Rd w 1 A n (ints ps)) (hc : w.cell? ⟨g, 0, none⟩ = some (.int .i64 N)) :
    Calls Tryz.prog 51 #[.slice A n c, .func (.func 29) #[] #[.pointer (some ⟨g, 0, none⟩)]] w (IxPost w (ovB N ps)) := by
  have H1 := Lib.hid he
  have HLN : Hid (ps.length = n) := Lib.hid he.int_len
  have HC := Lib.hid hc
  clear he hc
  go_enter Tryz.func51, Tryz.ntmps51
  go_wp2_with fail
  go_loopg [8] n (fun k i wr => ∃ q : Nat, q ≤ n ∧ k = n - q ∧ i = .int .i64 q ∧ (∀ j, j < q → ¬ N ≤ ps.getD j 0) ∧ Below w.heap.size w wr)
  case atStart => exact ⟨0, Nat.zero_le _, rfl, rfl, by omega, Below.refl _ _⟩
  case round =>
    obtain ⟨q, hq, rfl, rfl, hok, hb⟩ := hrel
    have HB := Lib.hid hb
    have HOK := Lib.hid hok
    have kr := Keeps.of_below hb (Nat.le_refl _)
    have c1 := kr _ _ HC.out
    clear hb hok
    by_cases hlt : q < n
    · obtain ⟨ad, rfl, -, c0⟩ := (H1.out.keep kr).int_at hlt
      generalize hx : ps.getD q 0 = x at c0
      have HX := Lib.hid hx
      clear hx kr
      cases hp : decide (N ≤ x)
      · have HP := Lib.hid hp
        clear hp
        go_wp2_with (first
          | (go_at_call 29; refine (vir1_b (b := false) x N g _ c1 HP.out).mono ?_; rintro r w1 ⟨rfl, hb1⟩; have B1 := Lib.hid hb1; clear hb1)
          | fail)
        go_roundg (n - (q + 1))
        case measure => omega
        case rel => exact ⟨q + 1, by omega, rfl, by go_num, fun j hj => by
          by_cases e : j = q
          · subst e; rw [HX.out]; simpa using HP.out
          · exact HOK.out j (by omega), HB.out.trans (B1.out.mono HB.out.size)⟩
      · have HP := Lib.hid hp
        clear hp
        go_wp2_with (first
          | (go_at_call 29; refine (vir1_b (b := true) x N g _ c1 HP.out).mono ?_; rintro r w1 ⟨rfl, hb1⟩; have B1 := Lib.hid hb1; clear hb1)
          | fail)
        go_ret
        refine ⟨HB.out.trans (B1.out.mono HB.out.size), q, rfl, ?_⟩
        rw [decide_eq_true (by omega : (0 : Int) ≤ (q : Int))]
        symm
        unfold ovB
        rw [List.any_eq_true]
        exact ⟨ps.getD q 0, by rw [List.getD_eq_getElem?_getD, List.getElem?_eq_getElem (by rw [HLN.out]; exact hlt)]; exact List.getElem_mem _, by rw [HX.out]; exact HP.out⟩
    · obtain rfl : q = n := by omega
      go_wp2_with fail
      go_ret
      refine ⟨HB.out, -1, rfl, ?_⟩
      rw [decide_eq_false (by omega)]
      symm
      unfold ovB
      rw [List.any_eq_false]
      intro y hm
      obtain ⟨j, hj, hx⟩ := List.getElem_of_mem hm
      have := HOK.out j (by have := HLN.out; omega)
      rw [List.getD_eq_getElem?_getD, List.getElem?_eq_getElem hj] at this
      simp at this ⊢
      omega
set_option maxHeartbeats 2000000 in
theorem cfV_any (A : Option Addr) (n c : Nat) (ps : List Int) (N : Int) (g : Nat) (w : World) (hn : n ≤ 1000000) (he : Rd w 1 A n (ints ps)) (hc : w.cell? ⟨g, 0, none⟩ = some (.int .i64 N)) :
    Calls Tryz.prog 30 #[.slice A n c, .func (.func 29) #[] #[.pointer (some ⟨g, 0, none⟩)]] w fun e w' => e = .returned (.bool (ovB N ps)) ∧ Below w.heap.size w w' := by
  have CI : Hid (Calls Tryz.prog 51 #[.slice A n c, .func (.func 29) #[] #[.pointer (some ⟨g, 0, none⟩)]] w (IxPost w (ovB N ps))) := Lib.hid (idxV_any A n c ps N g w hn he hc)
  generalize ovB N ps = b at CI ⊢
  clear he hc
  go_enter Tryz.func30, Tryz.ntmps30
  go_wp2_with (first
    | (go_at_call 51; refine CI.out.mono ?_; rintro r w1 ⟨hb1, z, rfl, hz⟩; have B1 := Lib.hid hb1; have HZ := Lib.hid hz; clear hb1 hz)
    | fail)
  go_ret
  exact ⟨ret_bool HZ.out, B1.out⟩
end Go.Proofs.YtcpkdnhpelkeoaaGreat

namespace Go.Proofs.YtcpkdnhpelkeoaaGreat
set_option linter.unusedVariables false
set_option linter.unusedSimpArgs false
open Go.RowKit Go.Sort
attribute [local go_sem ↓] Go.wp_at_zero Go.wp_at_succ

def ClosF (w : World) (base : Nat) (f : Int × Int → Bool) (pb : Addr) : Prop := ∀ w', Below base w w' → ∀ x y : Int, Calls Tryz.prog 34 #[.agg #[.int .i64 x, .int .i64 y], .pointer (some pb)] w' fun e w'' => e = .returned (.bool (f (x, y))) ∧ Below w'.heap.size w' w''
theorem ClosF.later {w w' : World} {base : Nat} {f : Int × Int → Bool} {pb : Addr} (h : ClosF w base f pb) (hb : Below base w w') : ClosF w' base f pb := fun w2 h2 => h w2 (hb.trans h2)
theorem closF_b {r : Bool} {base : Nat} (x y : Int) (f : Int × Int → Bool) (pb : Addr) (w : World) (h : ClosF w base f pb) (hr : f (x, y) = r) :
    Calls Tryz.prog 34 #[.agg #[.int .i64 x, .int .i64 y], .pointer (some pb)] w fun e w' => e = .returned (.bool r) ∧ Below w.heap.size w w' := by
  subst hr; exact h w (Below.refl _ _) x y
set_option maxHeartbeats 2000000 in
theorem vir2_any (N : Int) (A : Option Addr) (m c g : Nat) (es : List (Int × Int)) (x y : Int) (w : World) (hm : m ≤ 1000000) (he : Rd w 2 A m (prs es)) (h0 : w.cell? ⟨g, 0, none⟩ = some (.int .i64 N)) (h1 : w.cell? ⟨g, 1, none⟩ = some (.slice A m c)) :
    Calls Tryz.prog 34 #[.agg #[.int .i64 x, .int .i64 y], .pointer (some ⟨g, 0, none⟩)] w fun e w' => e = .returned (.bool (hasE N es x y)) ∧ Below w.heap.size w w' := by
  have RR := Lib.hid (he.keep (Keeps.alloc w (.cells #[.int .i64 x, .int .i64 y] 28)))
  have q0 : (w.alloc (.cells #[.int .i64 x, .int .i64 y] 28)).cell? ⟨g, 0, none⟩ = some (.int .i64 N) := Keeps.alloc _ _ _ _ h0
  have q1 : (w.alloc (.cells #[.int .i64 x, .int .i64 y] 28)).cell? ⟨g, 1, none⟩ = some (.slice A m c) := Keeps.alloc _ _ _ _ h1
  have HA : Hid (∀ w', Rd w' 2 A m (prs es) → Calls Tryz.prog 25 #[.agg #[.int .i64 N, .slice A m c], .int .i64 x, .int .i64 y] w' fun e w'' => e = .returned (.bool (hasE N es x y)) ∧ Below w'.heap.size w' w'') := Lib.hid fun w' h => ghas_b N A m c es x y w' hm h rfl
  generalize hasE N es x y = b at HA
  clear he h0 h1
  go_enter Tryz.func34, Tryz.ntmps34
  go_wp2_with (first
    | (go_at_call 25; (with_reducible refine (HA.out _ RR.out).mono ?_); rintro e w1 ⟨rfl, hb⟩; have B1 := Lib.hid hb; clear hb)
    | fail)
  go_ret
  exact ⟨rfl, ((Below.refl _ _).alloc (Nat.le_refl _) _).trans (B1.out.mono (by simp))⟩
set_option maxRecDepth 100000 in
set_option maxHeartbeats 4000000 in
theorem idxF_at (A : Option Addr) (n c : Nat) (l : List (Int × Int)) (w : World) (base : Nat) (f : Int × Int → Bool) (pb : Addr) (hn : n ≤ 1000000) (he : Rd w 2 A n (prs l)) (hc : ClosF w base f pb) (hbase : base ≤ w.heap.size) (r : Int)
    (hr : (r = -1 ∧ ∀ j, j < n → f (PAt l j) = false) ∨ ∃ k : Nat, r = k ∧ k < n ∧ f (PAt l k) = true ∧ ∀ j, j < k → f (PAt l j) = false) :
    Calls Tryz.prog 55 #[.slice A n c, .func (.func 34) #[] #[.pointer (some pb)]] w fun e w' => e = .returned (.int .i64 r) ∧ Below w.heap.size w w' := by
  have H1 := Lib.hid he
  have HC := Lib.hid hc
  have HR := Lib.hid hr
  clear he hc hr
  go_enter Tryz.func55, Tryz.ntmps55
  go_wp2
  go_loopw [5, 8] (fun _ i wr => Below w.heap.size w wr ∧ ∃ k : Nat, k ≤ n ∧ i = .int .i64 k ∧ ∀ j, j < k → f (PAt l j) = false) (fun _ i _ => n - (intOf i).toNat)
  case atStart => exact ⟨Below.refl _ _, 0, Nat.zero_le _, rfl, by omega⟩
  case round =>
    obtain ⟨hb, k, hk, rfl, hok⟩ := hrel
    have HB := Lib.hid hb
    have HOK := Lib.hid hok
    clear hb hok
    by_cases hlt : k < n
    · obtain ⟨ad, rfl, c0, c1⟩ := (H1.out.keep (Keeps.of_below HB.out (Nat.le_refl _))).prs_at hlt
      rw [getD_PAt] at c0 c1
      generalize hxy : PAt l k = xy at c0 c1
      obtain ⟨x, y⟩ := xy
      simp only at c0 c1
      have HXY := Lib.hid hxy
      clear hxy
      cases hp : f (x, y)
      · have HP := Lib.hid hp
        clear hp
        go_wp2_with (go_at_call 34; refine (closF_b (r := false) (base := base) x y f pb _ (HC.out.later (HB.out.mono hbase)) HP.out).mono ?_; rintro e w1 ⟨rfl, hb1⟩)
        go_roundw
        case rel => exact ⟨HB.out.trans (hb1.mono HB.out.size), k + 1, by omega, by go_num, fun j hj => by
          by_cases e : j = k
          · subst e; rw [HXY.out]; exact HP.out
          · exact HOK.out j (by omega)⟩
        case measure => simp [intOf]; omega
      · have HP := Lib.hid hp
        clear hp
        go_wp2_with (go_at_call 34; refine (closF_b (r := true) (base := base) x y f pb _ (HC.out.later (HB.out.mono hbase)) HP.out).mono ?_; rintro e w1 ⟨rfl, hb1⟩)
        go_ret
        refine ⟨ret_int ?_, HB.out.trans (hb1.mono HB.out.size)⟩
        rcases HR.out with ⟨rfl, h2⟩ | ⟨k', rfl, h3, h4, h5⟩
        · have := h2 k hlt
          rw [HXY.out, HP.out] at this; cases this
        · rcases Nat.lt_trichotomy k k' with h6 | h6 | h6
          · have := h5 k h6
            rw [HXY.out, HP.out] at this; cases this
          · rw [h6]
          · have := HOK.out k' h6
            rw [h4] at this; cases this
    · obtain rfl : k = n := by omega
      go_wp2
      go_ret
      refine ⟨ret_int ?_, HB.out⟩
      rcases HR.out with ⟨rfl, h2⟩ | ⟨k', rfl, h3, h4, h5⟩
      · rfl
      · have := HOK.out k' h3
        rw [h4] at this; cases this

def delF (f : Int × Int → Bool) (l : List (Int × Int)) : List (Int × Int) := l.filter fun e => !f e
def DelF (f : Int × Int → Bool) (l m : List (Int × Int)) (K i : Nat) : Prop := i = (delF f (l.take K)).length ∧ i < K ∧ K ≤ l.length ∧ m.length = l.length ∧ m.take i = delF f (l.take K) ∧ ∀ j, K ≤ j → PAt m j = PAt l j
theorem delF_step {f : Int × Int → Bool} {l : List (Int × Int)} {k : Nat} (hk : k < l.length) : delF f (l.take (k + 1)) = delF f (l.take k) ++ if f (PAt l k) = true then [] else [PAt l k] := by
  unfold delF
  rw [take_at hk, List.filter_append]
  congr 1
  simp only [List.filter_cons, List.filter_nil]
  cases f (PAt l k) <;> rfl
theorem delF_all {f : Int × Int → Bool} {l : List (Int × Int)} : ∀ k, k ≤ l.length → (∀ j, j < k → f (PAt l j) = false) → delF f (l.take k) = l.take k
  | 0, _, _ => by simp [delF]
  | k + 1, hk, h => by rw [delF_step (by omega), delF_all k (by omega) (fun j hj => h j (by omega)), h k (by omega), if_neg (by simp), take_at (by omega)]
theorem DelF.start {f : Int × Int → Bool} {l : List (Int × Int)} {k : Nat} (hk : k < l.length) (h : ∀ j, j < k → f (PAt l j) = false) (hp : f (PAt l k) = true) : DelF f l l (k + 1) k := by
  have e1 : delF f (l.take (k + 1)) = l.take k := by rw [delF_step hk, hp, if_pos rfl, List.append_nil, delF_all k (by omega) h]
  exact ⟨by rw [e1, List.length_take]; omega, by omega, by omega, rfl, e1.symm, fun _ _ => rfl⟩
theorem DelF.skip {f : Int × Int → Bool} {l m : List (Int × Int)} {K i : Nat} (h : DelF f l m K i) (hK : K < l.length) (hp : f (PAt l K) = true) : DelF f l m (K + 1) i := by
  obtain ⟨h1, h2, h3, h4, h5, h6⟩ := h
  have e1 : delF f (l.take (K + 1)) = delF f (l.take K) := by rw [delF_step hK, hp, if_pos rfl, List.append_nil]
  exact ⟨by rw [e1]; exact h1, by omega, by omega, h4, by rw [e1]; exact h5, fun j hj => h6 j (by omega)⟩
theorem DelF.keep {f : Int × Int → Bool} {l m : List (Int × Int)} {K i : Nat} (h : DelF f l m K i) (hK : K < l.length) (hp : f (PAt l K) = false) : DelF f l (m.set i (PAt l K)) (K + 1) (i + 1) := by
  obtain ⟨h1, h2, h3, h4, h5, h6⟩ := h
  have e1 : delF f (l.take (K + 1)) = delF f (l.take K) ++ [PAt l K] := by rw [delF_step hK, hp, if_neg (by simp)]
  refine ⟨by rw [e1, List.length_append, ← h1]; rfl, by omega, by omega, by simpa using h4, ?_, fun j hj => ?_⟩
  · rw [e1, List.take_succ_eq_append_getElem (by simp; omega), List.take_set_of_le (Nat.le_refl _), h5]
    simp
  · have := h6 j (by omega)
    unfold PAt at this ⊢
    rw [← this, List.getD_eq_getElem?_getD, List.getElem?_set_ne (by omega), List.getD_eq_getElem?_getD]

def DelFPost (w : World) (base : Nat) (A : Option Addr) (c : Nat) (f : Int × Int → Bool) (l : List (Int × Int)) (e : Ending) (w' : World) : Prop :=
  e = .returned (.slice A (delF f l).length c) ∧ Own w' base 28 2 A (delF f l).length c (prs (delF f l)) ∧ w.grownBy w' (blk A)
set_option maxRecDepth 100000 in
set_option maxHeartbeats 8000000 in
theorem delF_own (A : Option Addr) (n c : Nat) (l : List (Int × Int)) (w : World) (base : Nat) (f : Int × Int → Bool) (pb : Addr) (ho : Own w base 28 2 A n c (prs l)) (hn : n ≤ 1000000) (hc : ClosF w base f pb) (hbase : base ≤ w.heap.size) :
    Calls Tryz.prog 32 #[.slice A n c, .func (.func 34) #[] #[.pointer (some pb)]] w (DelFPost w base A c f l) := by
  have hl := ho.plen
  have hcap := ho.cap
  have IDX := fun r hr => idxF_at A n c l w base f pb hn ho.rd hc hbase r hr
  have HC := Lib.hid hc
  have OWN := Lib.hid ho
  have HL := Lib.hid hl
  clear hc ho hl
  by_cases hall : ∀ j, j < n → f (PAt l j) = false
  · have hI := IDX (-1) (.inl ⟨rfl, hall⟩)
    have e1 : delF f l = l := by
      have := delF_all (f := f) (l := l) l.length (Nat.le_refl _) (fun j hj => hall j (by have := HL.out; omega))
      rwa [List.take_length] at this
    have E1 := Lib.hid e1
    have HI := Lib.hid hI
    clear IDX hall e1 hI
    go_enter Tryz.func32, Tryz.ntmps32
    go_wp2_with (go_at_call 55; refine HI.out.mono ?_; rintro e w1 ⟨rfl, hb1⟩)
    go_ret
    exact ⟨ret_slice (by rw [E1.out, HL.out]), by rw [E1.out, HL.out]; exact OWN.out.later hb1, grownBy_of_below hb1⟩
  · obtain ⟨k, hk, hpk, hbef⟩ : ∃ k, k < n ∧ f (PAt l k) = true ∧ ∀ j, j < k → f (PAt l j) = false := by
      have hex : ∃ j, j < n ∧ f (PAt l j) = true := by
        apply Classical.byContradiction
        intro h
        exact hall fun j hj => by
          cases h' : f (PAt l j)
          · rfl
          · exact absurd ⟨j, hj, h'⟩ h
      obtain ⟨j0, hj0⟩ := hex
      obtain ⟨k, ⟨h1, h2⟩, h3⟩ := least (P := fun j => j < n ∧ f (PAt l j) = true) j0 hj0
      exact ⟨k, h1, h2, fun j hj => by
        cases h' : f (PAt l j)
        · rfl
        · have := h3 j ⟨by omega, h'⟩; omega⟩
    have hI := IDX k (.inr ⟨k, rfl, hk, hpk, hbef⟩)
    have DS := Lib.hid (DelF.start (f := f) (l := l) (k := k) (by rw [HL.out]; exact hk) hbef hpk)
    have HI := Lib.hid hI
    obtain ⟨g, rfl, hg1, hg2⟩ := OWN.out.some_ (by omega)
    have hkm1 : ((k : Int) == -1) = false := by simp
    clear IDX hall hI hpk hbef
    go_enter Tryz.func32, Tryz.ntmps32
    go_wp2_with (go_at_call 55; refine HI.out.mono ?_; rintro e w1 ⟨rfl, hb1⟩; have O1 := Lib.hid (OWN.out.later hb1); have G1 : Hid (w.grownBy w1 (some g)) := Lib.hid (grownBy_of_below hb1); have B1 := Lib.hid (hb1.mono hbase); clear hb1)
    go_loopw [5, 6, 7] (fun s5 s6 _ w2 => ∃ (i K : Nat) (m : List (Int × Int)), s5 = .int .i64 i ∧ s6 = .int .i64 K ∧ Own w2 base 28 2 (some ⟨g, 0, none⟩) n c (prs m) ∧ w.grownBy w2 (some g) ∧ Below base w w2 ∧ DelF f l m K i) (fun _ s6 _ _ => n - (intOf s6).toNat)
    case atStart => exact ⟨k, k + 1, l, rfl, by go_num, O1.out, G1.out, B1.out, DS.out⟩
    case round =>
      obtain ⟨i, K, m, rfl, rfl, ho2, hg2', hb2, hI⟩ := hrel
      have hiK := hI.2.1
      have hKl := hI.2.2.1
      rw [HL.out] at hKl
      have O2 := Lib.hid ho2
      have G2 := Lib.hid hg2'
      have B2 := Lib.hid hb2
      have II := Lib.hid hI
      have hlt2 := (ho2.lt (k := g) rfl).2
      clear ho2 hg2' hb2 hI
      by_cases hlt : K < n
      · obtain ⟨c0, c1⟩ := O2.out.pr_at hlt
        obtain ⟨s0, s1⟩ := O2.out.pr_at (k := i) (by omega)
        rw [II.out.2.2.2.2.2 K (Nat.le_refl _)] at c0 c1
        generalize PAt m i = old at s0 s1
        generalize hxy : PAt l K = xy at c0 c1
        obtain ⟨x, y⟩ := xy
        simp only at c0 c1
        have HXY := Lib.hid hxy
        have hbz := B2.out.size
        have CL := Lib.hid ((HC.out.later B2.out).later ((Below.refl base wr).alloc (by omega) (.cells #[.int .i64 x, .int .i64 y] 28)))
        clear hxy
        cases hp : f (x, y)
        · have HP := Lib.hid hp
          clear hp
          go_wp2_with (go_at_call 34; refine (closF_b (r := false) (base := base) x y f pb _ CL.out HP.out).mono ?_; rintro e w3 ⟨rfl, hb3⟩; have hz3 := hb3.size; simp at hz3; have x0 : w3.cell? ⟨wr.heap.size, 0, none⟩ = some (.int .i64 x) := (by rw [hb3.cell (by simp)]; simp); have x1 : w3.cell? ⟨wr.heap.size, 1, none⟩ = some (.int .i64 y) := (by rw [hb3.cell (by simp)]; simp); have O3 := Lib.hid ((O2.out.alloc (.cells #[.int .i64 x, .int .i64 y] 28)).later hb3); have G3 : Hid (w.grownBy w3 (some g)) := Lib.hid ((G2.out.trans (World.grownBy_alloc _ _ _)).trans (grownBy_of_below hb3)); have B3 : Hid (Below base w w3) := Lib.hid ((B2.out.alloc (by omega) _).trans (hb3.mono (by simp; omega))); have s0' := Keeps.of_below hb3 (Nat.le_refl _) _ _ (Keeps.alloc wr _ _ _ s0); have s1' := Keeps.of_below hb3 (Nat.le_refl _) _ _ (Keeps.alloc wr _ _ _ s1); have f0 := O3.out.frozen (i * 2); have f1 := O3.out.frozen (i * 2 + 1); clear hb3)
          go_roundw
          case rel => exact ⟨i + 1, K + 1, m.set i (x, y), by go_num, by go_num, (O3.out.store2 i x y).1, G3.out.trans (O3.out.store2 i x y).2, (B3.out.setCell hg1 _).setCell hg1 _, by
            have := II.out.keep (by rw [HL.out]; exact hlt) (by rw [HXY.out]; exact HP.out)
            rw [HXY.out] at this
            exact this⟩
          case measure => simp [intOf]; omega
        · have HP := Lib.hid hp
          clear hp
          go_wp2_with (go_at_call 34; refine (closF_b (r := true) (base := base) x y f pb _ CL.out HP.out).mono ?_; rintro e w3 ⟨rfl, hb3⟩; have O3 := Lib.hid ((O2.out.alloc (.cells #[.int .i64 x, .int .i64 y] 28)).later hb3); have G3 : Hid (w.grownBy w3 (some g)) := Lib.hid ((G2.out.trans (World.grownBy_alloc _ _ _)).trans (grownBy_of_below hb3)); have B3 : Hid (Below base w w3) := Lib.hid ((B2.out.alloc (by omega) _).trans (hb3.mono (by simp; omega))); clear hb3)
          go_roundw
          case rel => exact ⟨i, K + 1, m, rfl, by go_num, O3.out, G3.out, B3.out, II.out.skip (by rw [HL.out]; exact hlt) (by rw [HXY.out]; exact HP.out)⟩
          case measure => simp [intOf]; omega
      · obtain rfl : K = n := by omega
        have hfin : (delF f l).length = i ∧ m.take i = delF f l := by
          obtain ⟨h1, -, -, -, h5, -⟩ := II.out
          have et : l.take K = l := List.take_of_length_le (by rw [HL.out]; exact Nat.le_refl _)
          rw [et] at h1 h5
          exact ⟨h1.symm, h5⟩
        have HF := Lib.hid hfin
        obtain ⟨w5, hcl, ho5, hg5⟩ := clear_pairs O2.out i (K - i) (c - i) (by omega) (by omega)
        have O5 := Lib.hid ho5
        have G5 := Lib.hid hg5
        have hic : i < c := by omega
        clear hfin ho5 hg5
        go_wp2
        go_ret
        exact ⟨ret_slice HF.out.1.symm, by rw [HF.out.1, ← HF.out.2]; exact O5.out, G2.out.trans G5.out⟩
end Go.Proofs.YtcpkdnhpelkeoaaGreat

namespace Go.Proofs.YtcpkdnhpelkeoaaGreat
set_option linter.unusedVariables false
set_option linter.unusedSimpArgs false
open Go.RowKit Go.Sort

set_option maxRecDepth 100000 in
set_option maxHeartbeats 4000000 in
theorem gind_any (N : Int) (A P : Option Addr) (n c m d : Nat) (es : List (Int × Int)) (ps : List Int) (w : World) (hn : n ≤ 1000) (hm : m ≤ 4611686018427387904) (he : Rd w 2 A n (prs es)) (hp : Rd w 1 P m (ints ps)) :
    Calls Tryz.prog 52 #[.agg #[.int .i64 N, .slice A n c], .slice P m d] w (PrsPost w (indE N es ps)) := by
  have HE := Lib.hid he.prs_len
  have H1 := Lib.hid (he.keep (Keeps.alloc w (.cells #[.int .i64 N, .slice A n c] 31)))
  have H2 := Lib.hid (hp.keep (Keeps.alloc w (.cells #[.int .i64 N, .slice A n c] 31)))
  clear he hp
  have s0 := Below.refl w.heap.size w
  have s1 := s0.alloc (Nat.le_refl _) (.cells #[.int .i64 N, .slice A n c] 31)
  have S1 := Lib.hid s1
  clear s0 s1
  cases hv : validB N es
  · have HV := Lib.hid hv
    clear hv
    have hi : indE N es ps = [] := by unfold indE indK; rw [HV.out]; rfl
    rw [hi]
    clear hi
    go_enter Tryz.func52, Tryz.ntmps52
    go_wp2_with (go_at_call 23; refine (gvalid_b (b := false) N _ n c es _ (by omega) H1.out HV.out).mono ?_; rintro e w1 ⟨rfl, hb1⟩)
    go_ret
    exact ⟨S1.out.trans (hb1.mono (by simp)), none, 0, rfl, Own.nil _ _ _ _⟩
  · have HV := Lib.hid hv
    clear hv
    go_enter Tryz.func52, Tryz.ntmps52
    go_wp2_with (go_at_call 23; refine (gvalid_b (b := true) N _ n c es _ (by omega) H1.out HV.out).mono ?_; rintro e w1 ⟨rfl, hb1⟩; have S2 := Lib.hid (S1.out.trans (hb1.mono (by simp))); have R1 := Lib.hid (H1.out.keep (Keeps.of_below hb1 (Nat.le_refl _))); have R2 := Lib.hid (H2.out.keep (Keeps.of_below hb1 (Nat.le_refl _))); have hz1 := hb1.size; have p0 : w1.cell? ⟨w.heap.size, 0, none⟩ = some (.int .i64 N) := (by rw [hb1.cell (by simp)]; simp); have p1 : w1.cell? ⟨w.heap.size, 1, none⟩ = some (.slice A n c) := (by rw [hb1.cell (by simp)]; simp); clear hb1)
    simp at hz1
    go_loopw [5, 14] (fun o i wr => Below w1.heap.size w1 wr ∧ ∃ k : Nat, k ≤ n ∧ i = .int .i64 k ∧ ∃ B cB, o = .slice B (indK true es ps k).length cB ∧ Own wr w1.heap.size 28 2 B (indK true es ps k).length cB (prs (indK true es ps k))) (fun _ i _ => n - (intOf i).toNat)
    case atStart => exact ⟨Below.refl _ _, 0, Nat.zero_le _, rfl, none, 0, rfl, Own.nil _ _ _ _⟩
    case round =>
      obtain ⟨hb, k, hk, rfl, B, cB, rfl, ho⟩ := hrel
      have HB := Lib.hid hb
      have hwz := hb.size
      have RD := Lib.hid (R1.out.keep (Keeps.of_below hb (Nat.le_refl _)))
      have RP := Lib.hid (R2.out.keep (Keeps.of_below hb (Nat.le_refl _)))
      have OWN := Lib.hid ho
      clear hb ho
      have hq := indK_len true es ps k
      generalize hL : (indK true es ps k).length = q at OWN hq ⊢
      have HL := Lib.hid hL
      clear hL
      by_cases hlt : k < n
      · have HST : Hid (∀ x y : Int, es.getD k (0, 0) = (x, y) → indK true es ps (k + 1) = indK true es ps k ++ if (decide (x ∈ ps) && decide (y ∈ ps)) = true then [(x, y)] else []) := fun x y h => indK_step (by rw [HE.out]; exact hlt) h
        obtain ⟨ad, rfl, c0, c1⟩ := RD.out.prs_at hlt
        generalize hxy : es.getD k (0, 0) = xy at c0 c1
        obtain ⟨x, y⟩ := xy
        simp only at c0 c1
        have HXY := Lib.hid hxy
        have RP1 := Lib.hid (RP.out.keep (Keeps.alloc wr (.cells #[.int .i64 x, .int .i64 y] 28)))
        have OWN1 := Lib.hid (OWN.out.alloc (.cells #[.int .i64 x, .int .i64 y] 28))
        clear hxy
        cases h1 : decide (x ∈ ps)
        · have D1 := Lib.hid h1
          clear h1
          go_wp2_with (go_at_call 43; refine (contains_b (b := false) P m d ps x _ hm RP1.out D1.out).mono ?_; rintro e w2 ⟨rfl, rfl⟩)
          go_roundw
          case rel => exact ⟨HB.out.alloc hwz _, k + 1, by omega, by go_num, B, cB, by rw [HST.out x y HXY.out, D1.out, ← HL.out, Bool.false_and, if_neg (by simp), List.append_nil], by have := OWN1.out; rw [← HL.out] at this; rw [HST.out x y HXY.out, D1.out, Bool.false_and, if_neg (by simp), List.append_nil]; exact this⟩
          case measure => simp [intOf]; omega
        · have D1 := Lib.hid h1
          clear h1
          cases h2 : decide (y ∈ ps)
          · have D2 := Lib.hid h2
            clear h2
            go_wp2_with (first
              | (go_at_call 43; (with_reducible refine (contains_b (b := true) P m d ps x _ hm RP1.out D1.out).mono ?_); rintro e w2 ⟨rfl, rfl⟩)
              | (go_at_call 43; (with_reducible refine (contains_b (b := false) P m d ps y _ hm RP1.out D2.out).mono ?_); rintro e w2 ⟨rfl, rfl⟩))
            go_roundw
            case rel => exact ⟨HB.out.alloc hwz _, k + 1, by omega, by go_num, B, cB, by rw [HST.out x y HXY.out, D2.out, ← HL.out, Bool.and_false, if_neg (by simp), List.append_nil], by have := OWN1.out; rw [← HL.out] at this; rw [HST.out x y HXY.out, D2.out, Bool.and_false, if_neg (by simp), List.append_nil]; exact this⟩
            case measure => simp [intOf]; omega
          · have D2 := Lib.hid h2
            clear h2
            go_wp2_with (first
              | (go_at_call 43; (with_reducible refine (contains_b (b := true) P m d ps x _ hm RP1.out D1.out).mono ?_); rintro e w2 ⟨rfl, rfl⟩)
              | (go_at_call 43; (with_reducible refine (contains_b (b := true) P m d ps y _ hm RP1.out D2.out).mono ?_); rintro e w2 ⟨rfl, rfl⟩)
              | (at_builtin; refine wpList_app _ rfl (.tmp 28) (.tmp 30) 29 rfl w1.heap.size 28 (.agg #[.int .i64 0, .int .i64 0]) 2 16 Tryz.underlying29 info_pair rfl (by decide) B q cB (prs (indK true es ps k)) rfl (OWN1.out.alloc _) (some ⟨wr.heap.size + 1, 0, none⟩) 1 1 (prs [(x, y)]) rfl (rd_lit2_at (by simp) [(x, y)] _) (prs_one _) (by omega) (by unfold maxLen; omega) (by simp; omega) ?_; intro B4 c4 w4 ho4 hg4 hb4; have OWN4 := Lib.hid ho4; have S3 : Hid (Below w1.heap.size wr w4) := ((((Below.refl _ _).alloc hwz _).alloc (by simp; omega) _).grown hg4 (by simp; omega) (fun b hb => (OWN1.out.lt hb).1)); clear ho4 hg4 hb4))
            go_roundw
            case rel => exact ⟨HB.out.trans S3.out, k + 1, by omega, by go_num, B4, c4, by rw [HST.out x y HXY.out, D1.out, D2.out, Bool.and_self, if_pos rfl, List.length_append, HL.out]; rfl, by rw [HST.out x y HXY.out, D1.out, D2.out, Bool.and_self, if_pos rfl, List.length_append, HL.out, prs_app]; exact OWN4.out⟩
            case measure => simp [intOf]; omega
      · obtain rfl : k = n := by omega
        go_wp2
        go_ret
        have e1 : indE N es ps = indK true es ps k := by unfold indE; rw [HV.out, HE.out]
        refine ⟨S2.out.trans (HB.out.mono (by omega)), B, cB, ret_slice (by rw [e1, HL.out]), ?_⟩
        rw [e1, HL.out]; exact OWN.out.base_le (by omega)
end Go.Proofs.YtcpkdnhpelkeoaaGreat

namespace Go.Proofs.YtcpkdnhpelkeoaaGreat
set_option linter.unusedVariables false
set_option linter.unusedSimpArgs false
open Go.RowKit Go.Sort
attribute [local go_sem ↓] Go.wp_at_zero Go.wp_at_succ

def mpE (ps : List Int) (e : Int × Int) : Int × Int := (idxI ps e.1, idxI ps e.2)
/-- The points' own graph, its points numbered by their places in the list. -/
def ownE (N : Int) (es : List (Int × Int)) (ps : List Int) : List (Int × Int) := (indE N es ps).map (mpE ps)
def rigE (N : Int) (es : List (Int × Int)) (ps : List Int) : Bool :=
  match mkE ps.length (ownE N es ps) with
  | none => false
  | some l => decide (2 ≤ ps.length) && decide (((indE' ps.length l).length : Int) = 2 * (ps.length : Int) - 3)
theorem map_snoc {L : List (Int × Int)} {ps : List Int} {i n : Nat} {x y : Int} (hl : L.length = n) (hi : i < n) (hx : L.getD i (0, 0) = (x, y)) : (L.take (i + 1)).map (mpE ps) = (L.take i).map (mpE ps) ++ [(idxI ps x, idxI ps y)] := by
  rw [List.getD_eq_getElem?_getD, List.getElem?_eq_getElem (by omega)] at hx
  rw [List.take_succ_eq_append_getElem (by omega), List.map_append]
  simp at hx
  simp [hx, mpE]
theorem mkE_len {N : Int} {es l : List (Int × Int)} (h : mkE N es = some l) : l.length ≤ 100000 := by
  unfold mkE at h
  split at h
  · rename_i ho
    unfold okE at ho
    simp only [Bool.and_eq_true, decide_eq_true_eq] at ho
    obtain ⟨n, rfl⟩ : ∃ n : Nat, N = n := ⟨N.toNat, by omega⟩
    rw [Int.toNat_natCast] at h
    injection h with h
    subst h
    have h1 := mkL_len2 n es
    have h2 : n * n ≤ 60 * 60 := Nat.mul_le_mul (by omega) (by omega)
    omega
  · cases h
set_option maxRecDepth 100000 in
set_option maxHeartbeats 16000000 in
theorem rigid_any (N : Int) (A P : Option Addr) (m c k d : Nat) (es : List (Int × Int)) (ps : List Int) (w : World) (hm : m ≤ 900) (hk : k ≤ 1000) (he : Rd w 2 A m (prs es)) (hp : Rd w 1 P k (ints ps)) :
    Calls Tryz.prog 31 #[.agg #[.int .i64 N, .slice A m c], .slice P k d] w fun e w' => e = .returned (.bool (rigE N es ps)) ∧ Below w.heap.size w w' := by
  have X0 : Hid (BC w N A m c (w.alloc (.cells #[.int .i64 N, .slice A m c] 31))) := Lib.hid BC.start
  have H0 := Lib.hid (he.keep X0.out.keeps)
  have H1 := Lib.hid (hp.keep X0.out.keeps)
  have HP := Lib.hid hp
  have HKL : Hid (ps.length = k) := Lib.hid hp.int_len
  have hil : (indE N es ps).length ≤ m := by
    have := indK_len (validB N es) es ps es.length
    have := he.prs_len
    unfold indE
    omega
  have RG : Hid (∀ b, rigE N es ps = b → rigE N es ps = b) := Lib.hid fun b h => h
  have GI : Hid (∀ w', Rd w' 2 A m (prs es) → Rd w' 1 P k (ints ps) → Calls Tryz.prog 52 #[.agg #[.int .i64 N, .slice A m c], .slice P k d] w' (PrsPost w' (indE N es ps))) := Lib.hid fun w' h1 h2 => gind_any N A P m c k d es ps w' (by omega) (by omega) h1 h2
  have RE : Hid (∀ l, mkE (k : Int) ((indE N es ps).map (mpE ps)) = some l → rigE N es ps = (decide (2 ≤ k) && decide (((indE' (k : Int) l).length : Int) = 2 * (k : Int) - 3))) := Lib.hid fun l h => by
    unfold rigE ownE; rw [HKL.out, h]
  have RN : Hid (mkE (k : Int) ((indE N es ps).map (mpE ps)) = none → rigE N es ps = false) := Lib.hid fun h => by
    unfold rigE ownE; rw [HKL.out, h]
  generalize rigE N es ps = rb at *
  generalize indE N es ps = L at *
  generalize hq : L.length = n at *
  have HQ := Lib.hid hq
  clear hq
  have EGX : Hid (∀ args w, (callFunc 53 args).run Tryz.prog w = .ok (.enter 53 args) w) := Lib.hid (enters_of Tryz.func53 (by kernel_rfl) rfl)
  have IX : Hid (∀ x w', Rd w' 1 P k (ints ps) → Calls Tryz.prog 53 #[.slice P k d, .int .i64 x] w' fun e w'' => e = .returned (.int .i64 (idxI ps x)) ∧ w' = w'') := Lib.hid fun x w' h => index_any P k d ps x w' (by omega) h
  clear he hp
  go_enter Tryz.func31, Tryz.ntmps31
  go_wp2_with (first
    | (go_at_call 52; refine (GI.out _ H0.out H1.out).mono ?_; rintro e w1 ⟨hb, B, cB, rfl, ho⟩; rw [HQ.out] at ho ⊢; have X1 := Lib.hid (X0.out.next hb); have O1 := Lib.hid ho; have hz1 := hb.size; clear hb ho)
    | fail)
  go_loopg [5, 14] n (fun g o t wr => ∃ (i : Nat) (C : Option Addr) (cC : Nat), i ≤ n ∧ g = n - i ∧ t = .int .i64 i ∧ o = .slice C i cC ∧ Own wr w1.heap.size 28 2 C i cC (prs ((L.take i).map (mpE ps))) ∧ Below w1.heap.size w1 wr)
  case atStart => exact ⟨0, none, 0, Nat.zero_le _, rfl, rfl, rfl, Own.nil _ _ _ _, Below.refl _ _⟩
  case round =>
    obtain ⟨i, C, cC, hi, rfl, rfl, rfl, ho, hb⟩ := hrel
    have HO := Lib.hid ho
    have HB := Lib.hid hb
    have X2 := Lib.hid (X1.out.next hb)
    obtain ⟨hz2, p0, p1⟩ := X2.out.facts
    have RP := Lib.hid (HP.out.keep X2.out.keeps)
    have RI := Lib.hid (O1.out.rd.keep (Keeps.of_below hb (Nat.le_refl _)))
    have hzb := hb.size
    clear ho hb
    by_cases hlt : i < n
    · obtain ⟨ad, rfl, c0, c1⟩ := RI.out.prs_at hlt
      generalize hxy : L.getD i (0, 0) = xy at c0 c1
      obtain ⟨x, y⟩ := xy
      simp only at c0 c1
      have ST := Lib.hid (map_snoc (ps := ps) HQ.out hlt hxy)
      clear hxy
      have IA : Hid (∀ w', Rd w' 1 P k (ints ps) → Calls Tryz.prog 53 #[.slice P k d, .int .i64 x] w' fun e w'' => e = .returned (.int .i64 (idxI ps x)) ∧ w' = w'') := Lib.hid fun w' h => IX.out x w' h
      have IB : Hid (∀ w', Rd w' 1 P k (ints ps) → Calls Tryz.prog 53 #[.slice P k d, .int .i64 y] w' fun e w'' => e = .returned (.int .i64 (idxI ps y)) ∧ w' = w'') := Lib.hid fun w' h => IX.out y w' h
      generalize hix : idxI ps x = ix at *
      generalize hiy : idxI ps y = iy at *
      generalize hml : (L.take i).map (mpE ps) = ml at *
      clear hix hiy hml
      go_upto_region 5 with fail
      generalize hWW : wr.alloc (.cells #[.int .i64 x, .int .i64 y] 28) = W4
      have q0 : W4.cell? ⟨wr.heap.size, 0, none⟩ = some (.int .i64 x) := by rw [← hWW]; simp
      have q1 : W4.cell? ⟨wr.heap.size, 1, none⟩ = some (.int .i64 y) := by rw [← hWW]; simp
      have R4 : Hid (Rd W4.drew 1 P k (ints ps)) := Lib.hid (by rw [← hWW]; exact rd_new1 RP.out _)
      have O4 : Hid (Own W4 w1.heap.size 28 2 C i cC (prs ml)) := Lib.hid (by rw [← hWW]; exact HO.out.alloc _)
      have B4 : Hid (Below w1.heap.size w1 W4) := Lib.hid (by rw [← hWW]; exact HB.out.alloc hzb _)
      have hz4 := B4.out.size
      clear hWW
      go_region_law ((first
        | (refine step_calls rfl 53 #[.tmp 19, .tmp 21] #[24, 3] rfl EGX.out #[.slice P k d, .int .i64 x] (by simp [Act.eval, Act.put]) _ (IA.out _ R4.out) ?_; rintro w8 rfl)
        | (refine step_calls rfl 53 #[.tmp 23, .tmp 25] #[24, 3] rfl EGX.out #[.slice P k d, .int .i64 y] (by simp [Act.eval, Act.put]) _ (IB.out _ R4.out) ?_; rintro w8 rfl)
        | (refine step_app _ rfl (.tmp 18) (.tmp 28) 29 rfl w1.heap.size 28 (.agg #[.int .i64 0, .int .i64 0]) 2 16 Tryz.underlying29 info_pair rfl (by decide) C i cC (prs ml) (by simp [Act.eval, Act.put]) (Own.alloc (w := W4.drew) O4.out _) (some ⟨W4.heap.size, 0, none⟩) 1 1 (prs [(ix, iy)]) (by simp [Act.eval, Act.put]) (rd_lit2_at rfl [(ix, iy)] _) (prs_one _) (by omega) (by unfold maxLen; omega) (by simp; omega) ?_; intro C5 c5 w5 ho5 hg5 hb5; have O5 : Hid (Own w5 w1.heap.size 28 2 C5 (i + 1) c5 (prs (ml ++ [(ix, iy)]))) := Lib.hid (by rw [prs_app]; exact ho5); have B5 : Hid (Below w1.heap.size w1 w5) := Lib.hid ((B4.out.drew.alloc (by simp; omega) _).grown hg5 (by simp; omega) (fun k hk => (O4.out.lt hk).1)); clear ho5 hg5 hb5)
        | fail))
      all_goals
       go_wp2_with fail
       go_roundg (n - (i + 1))
       case measure => omega
       case rel => exact ⟨i + 1, C5, c5, by omega, rfl, by go_num, rfl, by rw [ST.out]; exact O5.out, B5.out⟩
    · obtain rfl : i = n := by omega
      have eL : L.take i = L := List.take_of_length_le (by rw [HQ.out]; exact Nat.le_refl _)
      rw [eL] at HO
      generalize L.map (mpE ps) = ml at *
      clear eL
      have GM : Hid (Calls Tryz.prog 54 #[.int .i64 (k : Int), .slice C i cC] wr (MakePost wr k (mkE k ml))) := Lib.hid (gmake_any k C i cC ml wr (by omega) HO.out.rd)
      unfold MakePost at GM
      cases hmk : mkE (k : Int) ml with
      | none =>
        have ER := RN.out hmk
        rw [hmk] at GM
        subst ER
        clear hmk
        go_wp2_with (first
          | (go_at_call 54; refine GM.out.mono ?_; rintro e w8 ⟨hb, rfl⟩; have B8 := Lib.hid hb; clear hb)
          | fail)
        go_ret
        exact ⟨rfl, ((X2.out.below).trans (B8.out.mono (by omega))).alloc (by have := B8.out.size; omega) _⟩
      | some l =>
        have ER := RE.out l hmk
        have hlq : l.length ≤ 100000 := mkE_len hmk
        rw [hmk] at GM
        dsimp only at GM
        clear hmk
        have RK : Hid (∀ B d w', Rd w' 2 B l.length (prs l) → Calls Tryz.prog 46 #[.agg #[.int .i64 (k : Int), .slice B l.length d]] w' fun e w'' => e = .returned (.int .i64 ((indE' (k : Int) l).length : Nat)) ∧ Below w'.heap.size w' w'') := Lib.hid fun B d w' h => rank_any k B l.length d l _ w' hlq h rfl
        generalize (indE' (k : Int) l).length = r at *
        have e6 : IntKind.i64.wrap (2 * (k : Int)) = 2 * (k : Int) := IntWalk.i64_in _ (by omega)
        have e7 : IntKind.i64.wrap (2 * (k : Int) - 3) = 2 * (k : Int) - 3 := IntWalk.i64_in _ (by omega)
        generalize hlq2 : l.length = q at *
        by_cases h2 : 2 ≤ k
        · by_cases h3 : (r : Int) = 2 * (k : Int) - 3
          · have dr : ((r : Int) == 2 * (k : Int) - 3) = true := by simp [h3]
            rw [decide_eq_true h2, decide_eq_true h3] at ER
            subst ER
            clear h3
            go_wp2_with (first
              | (go_at_call 54; refine GM.out.mono ?_; rintro e w8 ⟨hb, B8, d8, rfl, ho8⟩; have HB8 := Lib.hid hb; have hz8 := hb.size; have R8 := Lib.hid (ho8.rd.keep (Keeps.alloc w8 (.cells #[.int .i64 (k : Int), .slice B8 q d8] 31))); clear hb ho8)
              | (go_at_call 46; refine (RK.out _ _ _ R8.out).mono ?_; rintro e w9 ⟨rfl, hb⟩; have HB9 := Lib.hid hb; clear hb)
              | fail)
            go_ret
            exact ⟨rfl, (((X2.out.below).trans (HB8.out.mono (by omega))).alloc (by omega) _).trans (HB9.out.mono (by simp; omega))⟩
          · have dr : ((r : Int) == 2 * (k : Int) - 3) = false := by simp; omega
            rw [decide_eq_true h2, decide_eq_false h3] at ER
            subst ER
            clear h3
            go_wp2_with (first
              | (go_at_call 54; refine GM.out.mono ?_; rintro e w8 ⟨hb, B8, d8, rfl, ho8⟩; have HB8 := Lib.hid hb; have hz8 := hb.size; have R8 := Lib.hid (ho8.rd.keep (Keeps.alloc w8 (.cells #[.int .i64 (k : Int), .slice B8 q d8] 31))); clear hb ho8)
              | (go_at_call 46; refine (RK.out _ _ _ R8.out).mono ?_; rintro e w9 ⟨rfl, hb⟩; have HB9 := Lib.hid hb; clear hb)
              | fail)
            go_ret
            exact ⟨rfl, (((X2.out.below).trans (HB8.out.mono (by omega))).alloc (by omega) _).trans (HB9.out.mono (by simp; omega))⟩
        · rw [decide_eq_false h2, Bool.false_and] at ER
          subst ER
          go_wp2_with (first
            | (go_at_call 54; refine GM.out.mono ?_; rintro e w8 ⟨hb, B8, d8, rfl, ho8⟩; have HB8 := Lib.hid hb; have hz8 := hb.size; clear hb ho8)
            | fail)
          go_ret
          exact ⟨rfl, ((X2.out.below).trans (HB8.out.mono (by omega))).alloc (by omega) _⟩
end Go.Proofs.YtcpkdnhpelkeoaaGreat

namespace Go.Proofs.YtcpkdnhpelkeoaaGreat
set_option linter.unusedVariables false
set_option linter.unusedSimpArgs false
open Go.RowKit Go.Sort

attribute [local go_sem ↓] Go.wp_at_zero Go.wp_at_succ
/-- The three common points, if the lists can be merged. -/
def mgB (a b c : List Int) : Bool :=
  ((comV a b).2 && (comV b c).2 && (comV a c).2) && (!((comV a b).1 == (comV b c).1) && !((comV b c).1 == (comV a c).1) && !((comV a b).1 == (comV a c).1)) && (upB a && upB b && upB c)
def mgV (a b c : List Int) : Int × Int × Int × Bool := if mgB a b c = true then ((comV a b).1, (comV b c).1, (comV a c).1, true) else (0, 0, 0, false)
def mgR (v : Int × Int × Int × Bool) : Value := .tuple #[.int .i64 v.1, .int .i64 v.2.1, .int .i64 v.2.2.1, .bool v.2.2.2]
theorem common_b {x : Int} {o : Bool} (A B : Option Addr) (n c m d : Nat) (a b : List Int) (w : World) (hn : n ≤ 1000000) (hm : m ≤ 1000000) (ha : Rd w 1 A n (ints a)) (hb : Rd w 1 B m (ints b)) (hv : comV a b = (x, o)) :
    Calls Tryz.prog 22 #[.slice A n c, .slice B m d] w fun e w' => e = .returned (.tuple #[.int .i64 x, .bool o]) ∧ Below w.heap.size w w' := by
  have := common_any A B n c m d a b w hn hm ha hb
  rw [hv] at this
  exact this
theorem list_b {o : Bool} (P : Option Addr) (k d : Nat) (ps : List Int) (w : World) (hk : k ≤ 1152921504606846976) (hp : Rd w 1 P k (ints ps)) (h : upB ps = o) :
    Calls Tryz.prog 14 #[.slice P k d] w fun e w' => e = .returned (.bool o) ∧ w = w' := by
  subst h; exact list_any P k d ps w hk hp

set_option maxHeartbeats 8000000 in
theorem merge_any (A B C : Option Addr) (n cA m cB k cC : Nat) (a b c : List Int) (w : World) (hn : n ≤ 1000000) (hm : m ≤ 1000000) (hk : k ≤ 1000000) (ha : Rd w 1 A n (ints a)) (hb : Rd w 1 B m (ints b)) (hc : Rd w 1 C k (ints c)) :
    Calls Tryz.prog 9 #[.slice A n cA, .slice B m cB, .slice C k cC] w fun e w' => e = .returned (mgR (mgV a b c)) ∧ Below w.heap.size w w' := by
  have H1 := Lib.hid ha
  have H2 := Lib.hid hb
  have H3 := Lib.hid hc
  clear ha hb hc
  have EV : Hid (∀ v, mgV a b c = v → Ending.returned (mgR v) = .returned (mgR (mgV a b c))) := Lib.hid (fun v h => by rw [h])
  obtain ⟨x, o1, h1⟩ : ∃ x o, comV a b = (x, o) := ⟨_, _, rfl⟩
  obtain ⟨y, o2, h2⟩ : ∃ x o, comV b c = (x, o) := ⟨_, _, rfl⟩
  obtain ⟨z, o3, h3⟩ : ∃ x o, comV a c = (x, o) := ⟨_, _, rfl⟩
  have V1 := Lib.hid h1
  have V2 := Lib.hid h2
  have V3 := Lib.hid h3
  have MG : Hid (∀ u1 u2 u3, upB a = u1 → upB b = u2 → upB c = u3 → mgV a b c = if ((o1 && o2 && o3) && (!(x == y) && !(y == z) && !(x == z)) && (u1 && u2 && u3)) = true then (x, y, z, true) else (0, 0, 0, false)) := Lib.hid (fun u1 u2 u3 e1 e2 e3 => by unfold mgV mgB; rw [h1, h2, h3, e1, e2, e3])
  clear h1 h2 h3
  generalize hu1 : upB a = u1 at MG
  generalize hu2 : upB b = u2 at MG
  generalize hu3 : upB c = u3 at MG
  have MV := Lib.hid (MG.out u1 u2 u3 rfl rfl rfl)
  have U1 := Lib.hid hu1
  have U2 := Lib.hid hu2
  have U3 := Lib.hid hu3
  clear hu1 hu2 hu3 MG
  cases o1
  · go_enter Tryz.func9, Tryz.ntmps9
    go_wp2_with (first
      | (go_at_call 22; (with_reducible refine (common_b A B n cA m cB a b _ hn hm H1.out H2.out V1.out).mono ?_); rintro e w1 ⟨rfl, hb⟩; have B1 := Lib.hid hb; have K1 := Lib.hid (Keeps.of_below hb (Nat.le_refl _)); clear hb)
      | (go_at_call 22; (with_reducible refine (common_b B C m cB k cC b c _ hm hk (H2.out.keep K1.out) (H3.out.keep K1.out) V2.out).mono ?_); rintro e w2 ⟨rfl, hb⟩; have B2 := Lib.hid (B1.out.trans (hb.mono B1.out.size)); have K2 := Lib.hid (Keeps.of_below B2.out (Nat.le_refl _)); clear hb)
      | (go_at_call 22; (with_reducible refine (common_b A C n cA k cC a c _ hn hk (H1.out.keep K2.out) (H3.out.keep K2.out) V3.out).mono ?_); rintro e w3 ⟨rfl, hb⟩; have B3 := Lib.hid (B2.out.trans (hb.mono B2.out.size)); have K3 := Lib.hid (Keeps.of_below B3.out (Nat.le_refl _)); clear hb)
      | (go_at_call 14; (with_reducible refine (list_b A n cA a _ (by omega) (H1.out.keep K3.out) U1.out).mono ?_); rintro e w4 ⟨rfl, rfl⟩)
      | (go_at_call 14; (with_reducible refine (list_b B m cB b _ (by omega) (H2.out.keep K3.out) U2.out).mono ?_); rintro e w4 ⟨rfl, rfl⟩)
      | (go_at_call 14; (with_reducible refine (list_b C k cC c _ (by omega) (H3.out.keep K3.out) U3.out).mono ?_); rintro e w4 ⟨rfl, rfl⟩)
      | fail)
    refine bodyPost_ret (v := mgR (0, 0, 0, false)) (by simp [mgR, results, Tryz.results9, go_sem]) rfl ⟨?_, B3.out⟩
    exact EV.out _ (by rw [MV.out]; simp)
  · cases o2
    · go_enter Tryz.func9, Tryz.ntmps9
      go_wp2_with (first
        | (go_at_call 22; (with_reducible refine (common_b A B n cA m cB a b _ hn hm H1.out H2.out V1.out).mono ?_); rintro e w1 ⟨rfl, hb⟩; have B1 := Lib.hid hb; have K1 := Lib.hid (Keeps.of_below hb (Nat.le_refl _)); clear hb)
        | (go_at_call 22; (with_reducible refine (common_b B C m cB k cC b c _ hm hk (H2.out.keep K1.out) (H3.out.keep K1.out) V2.out).mono ?_); rintro e w2 ⟨rfl, hb⟩; have B2 := Lib.hid (B1.out.trans (hb.mono B1.out.size)); have K2 := Lib.hid (Keeps.of_below B2.out (Nat.le_refl _)); clear hb)
        | (go_at_call 22; (with_reducible refine (common_b A C n cA k cC a c _ hn hk (H1.out.keep K2.out) (H3.out.keep K2.out) V3.out).mono ?_); rintro e w3 ⟨rfl, hb⟩; have B3 := Lib.hid (B2.out.trans (hb.mono B2.out.size)); have K3 := Lib.hid (Keeps.of_below B3.out (Nat.le_refl _)); clear hb)
        | (go_at_call 14; (with_reducible refine (list_b A n cA a _ (by omega) (H1.out.keep K3.out) U1.out).mono ?_); rintro e w4 ⟨rfl, rfl⟩)
        | (go_at_call 14; (with_reducible refine (list_b B m cB b _ (by omega) (H2.out.keep K3.out) U2.out).mono ?_); rintro e w4 ⟨rfl, rfl⟩)
        | (go_at_call 14; (with_reducible refine (list_b C k cC c _ (by omega) (H3.out.keep K3.out) U3.out).mono ?_); rintro e w4 ⟨rfl, rfl⟩)
        | fail)
      refine bodyPost_ret (v := mgR (0, 0, 0, false)) (by simp [mgR, results, Tryz.results9, go_sem]) rfl ⟨?_, B3.out⟩
      exact EV.out _ (by rw [MV.out]; simp)
    · cases o3
      · go_enter Tryz.func9, Tryz.ntmps9
        go_wp2_with (first
          | (go_at_call 22; (with_reducible refine (common_b A B n cA m cB a b _ hn hm H1.out H2.out V1.out).mono ?_); rintro e w1 ⟨rfl, hb⟩; have B1 := Lib.hid hb; have K1 := Lib.hid (Keeps.of_below hb (Nat.le_refl _)); clear hb)
          | (go_at_call 22; (with_reducible refine (common_b B C m cB k cC b c _ hm hk (H2.out.keep K1.out) (H3.out.keep K1.out) V2.out).mono ?_); rintro e w2 ⟨rfl, hb⟩; have B2 := Lib.hid (B1.out.trans (hb.mono B1.out.size)); have K2 := Lib.hid (Keeps.of_below B2.out (Nat.le_refl _)); clear hb)
          | (go_at_call 22; (with_reducible refine (common_b A C n cA k cC a c _ hn hk (H1.out.keep K2.out) (H3.out.keep K2.out) V3.out).mono ?_); rintro e w3 ⟨rfl, hb⟩; have B3 := Lib.hid (B2.out.trans (hb.mono B2.out.size)); have K3 := Lib.hid (Keeps.of_below B3.out (Nat.le_refl _)); clear hb)
          | (go_at_call 14; (with_reducible refine (list_b A n cA a _ (by omega) (H1.out.keep K3.out) U1.out).mono ?_); rintro e w4 ⟨rfl, rfl⟩)
          | (go_at_call 14; (with_reducible refine (list_b B m cB b _ (by omega) (H2.out.keep K3.out) U2.out).mono ?_); rintro e w4 ⟨rfl, rfl⟩)
          | (go_at_call 14; (with_reducible refine (list_b C k cC c _ (by omega) (H3.out.keep K3.out) U3.out).mono ?_); rintro e w4 ⟨rfl, rfl⟩)
          | fail)
        refine bodyPost_ret (v := mgR (0, 0, 0, false)) (by simp [mgR, results, Tryz.results9, go_sem]) rfl ⟨?_, B3.out⟩
        exact EV.out _ (by rw [MV.out]; simp)
      · cases hxy : (x == y)
        · cases hyz : (y == z)
          · cases hxz : (x == z)
            · cases u1
              · go_enter Tryz.func9, Tryz.ntmps9
                go_wp2_with (first
                  | (go_at_call 22; (with_reducible refine (common_b A B n cA m cB a b _ hn hm H1.out H2.out V1.out).mono ?_); rintro e w1 ⟨rfl, hb⟩; have B1 := Lib.hid hb; have K1 := Lib.hid (Keeps.of_below hb (Nat.le_refl _)); clear hb)
                  | (go_at_call 22; (with_reducible refine (common_b B C m cB k cC b c _ hm hk (H2.out.keep K1.out) (H3.out.keep K1.out) V2.out).mono ?_); rintro e w2 ⟨rfl, hb⟩; have B2 := Lib.hid (B1.out.trans (hb.mono B1.out.size)); have K2 := Lib.hid (Keeps.of_below B2.out (Nat.le_refl _)); clear hb)
                  | (go_at_call 22; (with_reducible refine (common_b A C n cA k cC a c _ hn hk (H1.out.keep K2.out) (H3.out.keep K2.out) V3.out).mono ?_); rintro e w3 ⟨rfl, hb⟩; have B3 := Lib.hid (B2.out.trans (hb.mono B2.out.size)); have K3 := Lib.hid (Keeps.of_below B3.out (Nat.le_refl _)); clear hb)
                  | (go_at_call 14; (with_reducible refine (list_b A n cA a _ (by omega) (H1.out.keep K3.out) U1.out).mono ?_); rintro e w4 ⟨rfl, rfl⟩)
                  | (go_at_call 14; (with_reducible refine (list_b B m cB b _ (by omega) (H2.out.keep K3.out) U2.out).mono ?_); rintro e w4 ⟨rfl, rfl⟩)
                  | (go_at_call 14; (with_reducible refine (list_b C k cC c _ (by omega) (H3.out.keep K3.out) U3.out).mono ?_); rintro e w4 ⟨rfl, rfl⟩)
                  | fail)
                refine bodyPost_ret (v := mgR (0, 0, 0, false)) (by simp [mgR, results, Tryz.results9, go_sem]) rfl ⟨?_, B3.out⟩
                exact EV.out _ (by rw [MV.out]; simp [hxy, hyz, hxz])
              · cases u2
                · go_enter Tryz.func9, Tryz.ntmps9
                  go_wp2_with (first
                    | (go_at_call 22; (with_reducible refine (common_b A B n cA m cB a b _ hn hm H1.out H2.out V1.out).mono ?_); rintro e w1 ⟨rfl, hb⟩; have B1 := Lib.hid hb; have K1 := Lib.hid (Keeps.of_below hb (Nat.le_refl _)); clear hb)
                    | (go_at_call 22; (with_reducible refine (common_b B C m cB k cC b c _ hm hk (H2.out.keep K1.out) (H3.out.keep K1.out) V2.out).mono ?_); rintro e w2 ⟨rfl, hb⟩; have B2 := Lib.hid (B1.out.trans (hb.mono B1.out.size)); have K2 := Lib.hid (Keeps.of_below B2.out (Nat.le_refl _)); clear hb)
                    | (go_at_call 22; (with_reducible refine (common_b A C n cA k cC a c _ hn hk (H1.out.keep K2.out) (H3.out.keep K2.out) V3.out).mono ?_); rintro e w3 ⟨rfl, hb⟩; have B3 := Lib.hid (B2.out.trans (hb.mono B2.out.size)); have K3 := Lib.hid (Keeps.of_below B3.out (Nat.le_refl _)); clear hb)
                    | (go_at_call 14; (with_reducible refine (list_b A n cA a _ (by omega) (H1.out.keep K3.out) U1.out).mono ?_); rintro e w4 ⟨rfl, rfl⟩)
                    | (go_at_call 14; (with_reducible refine (list_b B m cB b _ (by omega) (H2.out.keep K3.out) U2.out).mono ?_); rintro e w4 ⟨rfl, rfl⟩)
                    | (go_at_call 14; (with_reducible refine (list_b C k cC c _ (by omega) (H3.out.keep K3.out) U3.out).mono ?_); rintro e w4 ⟨rfl, rfl⟩)
                    | fail)
                  refine bodyPost_ret (v := mgR (0, 0, 0, false)) (by simp [mgR, results, Tryz.results9, go_sem]) rfl ⟨?_, B3.out⟩
                  exact EV.out _ (by rw [MV.out]; simp [hxy, hyz, hxz])
                · cases u3
                  · go_enter Tryz.func9, Tryz.ntmps9
                    go_wp2_with (first
                      | (go_at_call 22; (with_reducible refine (common_b A B n cA m cB a b _ hn hm H1.out H2.out V1.out).mono ?_); rintro e w1 ⟨rfl, hb⟩; have B1 := Lib.hid hb; have K1 := Lib.hid (Keeps.of_below hb (Nat.le_refl _)); clear hb)
                      | (go_at_call 22; (with_reducible refine (common_b B C m cB k cC b c _ hm hk (H2.out.keep K1.out) (H3.out.keep K1.out) V2.out).mono ?_); rintro e w2 ⟨rfl, hb⟩; have B2 := Lib.hid (B1.out.trans (hb.mono B1.out.size)); have K2 := Lib.hid (Keeps.of_below B2.out (Nat.le_refl _)); clear hb)
                      | (go_at_call 22; (with_reducible refine (common_b A C n cA k cC a c _ hn hk (H1.out.keep K2.out) (H3.out.keep K2.out) V3.out).mono ?_); rintro e w3 ⟨rfl, hb⟩; have B3 := Lib.hid (B2.out.trans (hb.mono B2.out.size)); have K3 := Lib.hid (Keeps.of_below B3.out (Nat.le_refl _)); clear hb)
                      | (go_at_call 14; (with_reducible refine (list_b A n cA a _ (by omega) (H1.out.keep K3.out) U1.out).mono ?_); rintro e w4 ⟨rfl, rfl⟩)
                      | (go_at_call 14; (with_reducible refine (list_b B m cB b _ (by omega) (H2.out.keep K3.out) U2.out).mono ?_); rintro e w4 ⟨rfl, rfl⟩)
                      | (go_at_call 14; (with_reducible refine (list_b C k cC c _ (by omega) (H3.out.keep K3.out) U3.out).mono ?_); rintro e w4 ⟨rfl, rfl⟩)
                      | fail)
                    refine bodyPost_ret (v := mgR (0, 0, 0, false)) (by simp [mgR, results, Tryz.results9, go_sem]) rfl ⟨?_, B3.out⟩
                    exact EV.out _ (by rw [MV.out]; simp [hxy, hyz, hxz])
                  · go_enter Tryz.func9, Tryz.ntmps9
                    go_wp2_with (first
                      | (go_at_call 22; (with_reducible refine (common_b A B n cA m cB a b _ hn hm H1.out H2.out V1.out).mono ?_); rintro e w1 ⟨rfl, hb⟩; have B1 := Lib.hid hb; have K1 := Lib.hid (Keeps.of_below hb (Nat.le_refl _)); clear hb)
                      | (go_at_call 22; (with_reducible refine (common_b B C m cB k cC b c _ hm hk (H2.out.keep K1.out) (H3.out.keep K1.out) V2.out).mono ?_); rintro e w2 ⟨rfl, hb⟩; have B2 := Lib.hid (B1.out.trans (hb.mono B1.out.size)); have K2 := Lib.hid (Keeps.of_below B2.out (Nat.le_refl _)); clear hb)
                      | (go_at_call 22; (with_reducible refine (common_b A C n cA k cC a c _ hn hk (H1.out.keep K2.out) (H3.out.keep K2.out) V3.out).mono ?_); rintro e w3 ⟨rfl, hb⟩; have B3 := Lib.hid (B2.out.trans (hb.mono B2.out.size)); have K3 := Lib.hid (Keeps.of_below B3.out (Nat.le_refl _)); clear hb)
                      | (go_at_call 14; (with_reducible refine (list_b A n cA a _ (by omega) (H1.out.keep K3.out) U1.out).mono ?_); rintro e w4 ⟨rfl, rfl⟩)
                      | (go_at_call 14; (with_reducible refine (list_b B m cB b _ (by omega) (H2.out.keep K3.out) U2.out).mono ?_); rintro e w4 ⟨rfl, rfl⟩)
                      | (go_at_call 14; (with_reducible refine (list_b C k cC c _ (by omega) (H3.out.keep K3.out) U3.out).mono ?_); rintro e w4 ⟨rfl, rfl⟩)
                      | fail)
                    refine bodyPost_ret (v := mgR (x, y, z, true)) (by simp [mgR, results, Tryz.results9, go_sem]) rfl ⟨?_, B3.out⟩
                    exact EV.out _ (by rw [MV.out]; simp [hxy, hyz, hxz])
            · go_enter Tryz.func9, Tryz.ntmps9
              go_wp2_with (first
                | (go_at_call 22; (with_reducible refine (common_b A B n cA m cB a b _ hn hm H1.out H2.out V1.out).mono ?_); rintro e w1 ⟨rfl, hb⟩; have B1 := Lib.hid hb; have K1 := Lib.hid (Keeps.of_below hb (Nat.le_refl _)); clear hb)
                | (go_at_call 22; (with_reducible refine (common_b B C m cB k cC b c _ hm hk (H2.out.keep K1.out) (H3.out.keep K1.out) V2.out).mono ?_); rintro e w2 ⟨rfl, hb⟩; have B2 := Lib.hid (B1.out.trans (hb.mono B1.out.size)); have K2 := Lib.hid (Keeps.of_below B2.out (Nat.le_refl _)); clear hb)
                | (go_at_call 22; (with_reducible refine (common_b A C n cA k cC a c _ hn hk (H1.out.keep K2.out) (H3.out.keep K2.out) V3.out).mono ?_); rintro e w3 ⟨rfl, hb⟩; have B3 := Lib.hid (B2.out.trans (hb.mono B2.out.size)); have K3 := Lib.hid (Keeps.of_below B3.out (Nat.le_refl _)); clear hb)
                | (go_at_call 14; (with_reducible refine (list_b A n cA a _ (by omega) (H1.out.keep K3.out) U1.out).mono ?_); rintro e w4 ⟨rfl, rfl⟩)
                | (go_at_call 14; (with_reducible refine (list_b B m cB b _ (by omega) (H2.out.keep K3.out) U2.out).mono ?_); rintro e w4 ⟨rfl, rfl⟩)
                | (go_at_call 14; (with_reducible refine (list_b C k cC c _ (by omega) (H3.out.keep K3.out) U3.out).mono ?_); rintro e w4 ⟨rfl, rfl⟩)
                | fail)
              refine bodyPost_ret (v := mgR (0, 0, 0, false)) (by simp [mgR, results, Tryz.results9, go_sem]) rfl ⟨?_, B3.out⟩
              exact EV.out _ (by rw [MV.out]; simp [hxy, hyz, hxz])
          · go_enter Tryz.func9, Tryz.ntmps9
            go_wp2_with (first
              | (go_at_call 22; (with_reducible refine (common_b A B n cA m cB a b _ hn hm H1.out H2.out V1.out).mono ?_); rintro e w1 ⟨rfl, hb⟩; have B1 := Lib.hid hb; have K1 := Lib.hid (Keeps.of_below hb (Nat.le_refl _)); clear hb)
              | (go_at_call 22; (with_reducible refine (common_b B C m cB k cC b c _ hm hk (H2.out.keep K1.out) (H3.out.keep K1.out) V2.out).mono ?_); rintro e w2 ⟨rfl, hb⟩; have B2 := Lib.hid (B1.out.trans (hb.mono B1.out.size)); have K2 := Lib.hid (Keeps.of_below B2.out (Nat.le_refl _)); clear hb)
              | (go_at_call 22; (with_reducible refine (common_b A C n cA k cC a c _ hn hk (H1.out.keep K2.out) (H3.out.keep K2.out) V3.out).mono ?_); rintro e w3 ⟨rfl, hb⟩; have B3 := Lib.hid (B2.out.trans (hb.mono B2.out.size)); have K3 := Lib.hid (Keeps.of_below B3.out (Nat.le_refl _)); clear hb)
              | (go_at_call 14; (with_reducible refine (list_b A n cA a _ (by omega) (H1.out.keep K3.out) U1.out).mono ?_); rintro e w4 ⟨rfl, rfl⟩)
              | (go_at_call 14; (with_reducible refine (list_b B m cB b _ (by omega) (H2.out.keep K3.out) U2.out).mono ?_); rintro e w4 ⟨rfl, rfl⟩)
              | (go_at_call 14; (with_reducible refine (list_b C k cC c _ (by omega) (H3.out.keep K3.out) U3.out).mono ?_); rintro e w4 ⟨rfl, rfl⟩)
              | fail)
            refine bodyPost_ret (v := mgR (0, 0, 0, false)) (by simp [mgR, results, Tryz.results9, go_sem]) rfl ⟨?_, B3.out⟩
            exact EV.out _ (by rw [MV.out]; simp [hxy, hyz])
        · go_enter Tryz.func9, Tryz.ntmps9
          go_wp2_with (first
            | (go_at_call 22; (with_reducible refine (common_b A B n cA m cB a b _ hn hm H1.out H2.out V1.out).mono ?_); rintro e w1 ⟨rfl, hb⟩; have B1 := Lib.hid hb; have K1 := Lib.hid (Keeps.of_below hb (Nat.le_refl _)); clear hb)
            | (go_at_call 22; (with_reducible refine (common_b B C m cB k cC b c _ hm hk (H2.out.keep K1.out) (H3.out.keep K1.out) V2.out).mono ?_); rintro e w2 ⟨rfl, hb⟩; have B2 := Lib.hid (B1.out.trans (hb.mono B1.out.size)); have K2 := Lib.hid (Keeps.of_below B2.out (Nat.le_refl _)); clear hb)
            | (go_at_call 22; (with_reducible refine (common_b A C n cA k cC a c _ hn hk (H1.out.keep K2.out) (H3.out.keep K2.out) V3.out).mono ?_); rintro e w3 ⟨rfl, hb⟩; have B3 := Lib.hid (B2.out.trans (hb.mono B2.out.size)); have K3 := Lib.hid (Keeps.of_below B3.out (Nat.le_refl _)); clear hb)
            | (go_at_call 14; (with_reducible refine (list_b A n cA a _ (by omega) (H1.out.keep K3.out) U1.out).mono ?_); rintro e w4 ⟨rfl, rfl⟩)
            | (go_at_call 14; (with_reducible refine (list_b B m cB b _ (by omega) (H2.out.keep K3.out) U2.out).mono ?_); rintro e w4 ⟨rfl, rfl⟩)
            | (go_at_call 14; (with_reducible refine (list_b C k cC c _ (by omega) (H3.out.keep K3.out) U3.out).mono ?_); rintro e w4 ⟨rfl, rfl⟩)
            | fail)
          refine bodyPost_ret (v := mgR (0, 0, 0, false)) (by simp [mgR, results, Tryz.results9, go_sem]) rfl ⟨?_, B3.out⟩
          exact EV.out _ (by rw [MV.out]; simp [hxy])
end Go.Proofs.YtcpkdnhpelkeoaaGreat

namespace Go.Proofs.YtcpkdnhpelkeoaaGreat
set_option linter.unusedVariables false
set_option linter.unusedSimpArgs false
open Go.RowKit Go.Sort
attribute [local go_sem ↓] Go.wp_at_zero Go.wp_at_succ

def virOk (N : Int) (es : List (Int × Int)) (ps : List Int) : Bool := validB N es && upB ps && !ovB N ps && rigE N es ps
/-- The pairs of a rigid list's points that are not joined. -/
def virL (N : Int) (es : List (Int × Int)) (ps : List Int) : List (Int × Int) := if virOk N es ps = true then delF (fun e => hasE N es e.1 e.2) (prU ps ps.length) else []
theorem virL_no {N : Int} {es : List (Int × Int)} {ps : List Int} (h : virOk N es ps = false) : virL N es ps = [] := by unfold virL; rw [h]; rfl
theorem virL_yes {N : Int} {es : List (Int × Int)} {ps : List Int} (h : virOk N es ps = true) : virL N es ps = delF (fun e => hasE N es e.1 e.2) (prU ps ps.length) := by unfold virL; rw [h]; rfl
set_option maxRecDepth 100000 in
set_option maxHeartbeats 16000000 in
theorem virtual_any (N : Int) (A P : Option Addr) (m c k d : Nat) (es : List (Int × Int)) (ps : List Int) (w : World) (hm : m ≤ 900) (hk : k ≤ 1000) (hkd : k ≤ d) (he : Rd w 2 A m (prs es)) (hp : Rd w 1 P k (ints ps)) :
    Calls Tryz.prog 12 #[.agg #[.int .i64 N, .slice A m c], .slice P k d] w (PrPost w (virL N es ps)) := by
  have X0 : Hid (BC w N A m c (w.alloc (.cells #[.int .i64 N, .slice A m c] 31))) := Lib.hid BC.start
  have H0 := Lib.hid he
  have H1 := Lib.hid hp
  have HKL : Hid (ps.length = k) := Lib.hid hp.int_len
  have VA : Hid (∀ w', Rd w' 2 A m (prs es) → Calls Tryz.prog 23 #[.agg #[.int .i64 N, .slice A m c]] w' fun e w'' => e = .returned (.bool (validB N es)) ∧ Below w'.heap.size w' w'') := Lib.hid fun w' h => gvalid_b N A m c es w' (by omega) h rfl
  have LI : Hid (∀ w', Rd w' 1 P k (ints ps) → Calls Tryz.prog 14 #[.slice P k d] w' fun e w'' => e = .returned (.bool (upB ps)) ∧ Below w'.heap.size w' w'') := Lib.hid fun w' h => (list_b P k d ps w' (by omega) h rfl).mono (by rintro e w2 ⟨rfl, rfl⟩; exact ⟨rfl, Below.refl _ _⟩)
  have CF : Hid (∀ w', Rd w' 1 P k (ints ps) → w'.cell? ⟨w.heap.size, 0, none⟩ = some (.int .i64 N) → Calls Tryz.prog 30 #[.slice P k d, .func (.func 29) #[] #[.pointer (some ⟨w.heap.size, 0, none⟩)]] w' fun e w'' => e = .returned (.bool (ovB N ps)) ∧ Below w'.heap.size w' w'') := Lib.hid fun w' h hc => cfV_any P k d ps N w.heap.size w' (by omega) h hc
  have RI : Hid (∀ w', Rd w' 2 A m (prs es) → Rd w' 1 P k (ints ps) → Calls Tryz.prog 31 #[.agg #[.int .i64 N, .slice A m c], .slice P k d] w' fun e w'' => e = .returned (.bool (rigE N es ps)) ∧ Below w'.heap.size w' w'') := Lib.hid fun w' h1 h2 => rigid_any N A P m c k d es ps w' hm hk h1 h2
  have VK : Hid (∀ b1 b2 b3 b4, validB N es = b1 → upB ps = b2 → ovB N ps = b3 → rigE N es ps = b4 → virOk N es ps = (b1 && b2 && !b3 && b4)) := Lib.hid fun _ _ _ _ h1 h2 h3 h4 => by unfold virOk; rw [h1, h2, h3, h4]
  clear he hp
  cases hv : validB N es
  · have NO := Lib.hid (virL_no (VK.out _ _ _ _ hv rfl rfl rfl))
    rw [hv] at VA
    clear hv
    go_enter Tryz.func12, Tryz.ntmps12
    go_wp2_with (first
      | (go_at_call 23; refine (VA.out _ (H0.out.keep X0.out.keeps)).mono ?_; rintro e w1 ⟨rfl, hb⟩; have X1 := Lib.hid (X0.out.next hb); obtain ⟨hz1, p0, p1⟩ := X1.out.facts; clear hb)
      | fail)
    go_ret
    exact ⟨X1.out.below, none, 0, 0, rfl, by rw [NO.out]; exact Own.nil _ _ _ _⟩
  rw [hv] at VA
  cases hu : upB ps
  · have NO := Lib.hid (virL_no (by rw [VK.out _ _ _ _ hv hu rfl rfl]; simp))
    rw [hu] at LI
    clear hu hv
    go_enter Tryz.func12, Tryz.ntmps12
    go_wp2_with (first
      | (go_at_call 23; refine (VA.out _ (H0.out.keep X0.out.keeps)).mono ?_; rintro e w1 ⟨rfl, hb⟩; have X1 := Lib.hid (X0.out.next hb); obtain ⟨hz1, p0, p1⟩ := X1.out.facts; clear hb)
      | (go_at_call 14; refine (LI.out _ (H1.out.keep X1.out.keeps)).mono ?_; rintro e w2 ⟨rfl, hb⟩; have X2 := Lib.hid (X1.out.next hb); obtain ⟨hz2, p0, p1⟩ := X2.out.facts; clear hb)
      | fail)
    go_ret
    exact ⟨X2.out.below, none, 0, 0, rfl, by rw [NO.out]; exact Own.nil _ _ _ _⟩
  rw [hu] at LI
  cases ho : ovB N ps
  case true =>
    have NO := Lib.hid (virL_no (by rw [VK.out _ _ _ _ hv hu ho rfl]; simp))
    rw [ho] at CF
    clear hu hv ho
    go_enter Tryz.func12, Tryz.ntmps12
    go_wp2_with (first
      | (go_at_call 23; refine (VA.out _ (H0.out.keep X0.out.keeps)).mono ?_; rintro e w1 ⟨rfl, hb⟩; have X1 := Lib.hid (X0.out.next hb); obtain ⟨hz1, p0, p1⟩ := X1.out.facts; clear hb)
      | (go_at_call 14; refine (LI.out _ (H1.out.keep X1.out.keeps)).mono ?_; rintro e w2 ⟨rfl, hb⟩; have X2 := Lib.hid (X1.out.next hb); obtain ⟨hz2, p0, p1⟩ := X2.out.facts; clear hb)
      | (go_at_call 30; refine (CF.out _ (H1.out.keep X2.out.keeps) X2.out.facts.2.1).mono ?_; rintro e w3 ⟨rfl, hb⟩; have X3 := Lib.hid (X2.out.next hb); obtain ⟨hz3, p0, p1⟩ := X3.out.facts; clear hb)
      | fail)
    go_ret
    exact ⟨X3.out.below, none, 0, 0, rfl, by rw [NO.out]; exact Own.nil _ _ _ _⟩
  rw [ho] at CF
  cases hr : rigE N es ps
  · have NO := Lib.hid (virL_no (by rw [VK.out _ _ _ _ hv hu ho hr]; simp))
    rw [hr] at RI
    clear hu hv ho hr
    go_enter Tryz.func12, Tryz.ntmps12
    go_wp2_with (first
      | (go_at_call 23; refine (VA.out _ (H0.out.keep X0.out.keeps)).mono ?_; rintro e w1 ⟨rfl, hb⟩; have X1 := Lib.hid (X0.out.next hb); obtain ⟨hz1, p0, p1⟩ := X1.out.facts; clear hb)
      | (go_at_call 14; refine (LI.out _ (H1.out.keep X1.out.keeps)).mono ?_; rintro e w2 ⟨rfl, hb⟩; have X2 := Lib.hid (X1.out.next hb); obtain ⟨hz2, p0, p1⟩ := X2.out.facts; clear hb)
      | (go_at_call 30; refine (CF.out _ (H1.out.keep X2.out.keeps) X2.out.facts.2.1).mono ?_; rintro e w3 ⟨rfl, hb⟩; have X3 := Lib.hid (X2.out.next hb); obtain ⟨hz3, p0, p1⟩ := X3.out.facts; clear hb)
      | (go_at_call 31; refine (RI.out _ (H0.out.keep X3.out.keeps) (H1.out.keep X3.out.keeps)).mono ?_; rintro e w4 ⟨rfl, hb⟩; have X4 := Lib.hid (X3.out.next hb); obtain ⟨hz4, p0, p1⟩ := X4.out.facts; clear hb)
      | fail)
    go_ret
    exact ⟨X4.out.below, none, 0, 0, rfl, by rw [NO.out]; exact Own.nil _ _ _ _⟩
  have YES := Lib.hid (virL_yes (by rw [VK.out _ _ _ _ hv hu ho hr]; simp))
  rw [hr] at RI
  clear hu hv ho hr
  go_enter Tryz.func12, Tryz.ntmps12
  go_wp2_with (first
    | (go_at_call 23; refine (VA.out _ (H0.out.keep X0.out.keeps)).mono ?_; rintro e w1 ⟨rfl, hb⟩; have X1 := Lib.hid (X0.out.next hb); obtain ⟨hz1, p0, p1⟩ := X1.out.facts; clear hb)
    | (go_at_call 14; refine (LI.out _ (H1.out.keep X1.out.keeps)).mono ?_; rintro e w2 ⟨rfl, hb⟩; have X2 := Lib.hid (X1.out.next hb); obtain ⟨hz2, p0, p1⟩ := X2.out.facts; clear hb)
    | (go_at_call 30; refine (CF.out _ (H1.out.keep X2.out.keeps) X2.out.facts.2.1).mono ?_; rintro e w3 ⟨rfl, hb⟩; have X3 := Lib.hid (X2.out.next hb); obtain ⟨hz3, p0, p1⟩ := X3.out.facts; clear hb)
    | (go_at_call 31; refine (RI.out _ (H0.out.keep X3.out.keeps) (H1.out.keep X3.out.keeps)).mono ?_; rintro e w4 ⟨rfl, hb⟩; have X4 := Lib.hid (X3.out.next hb); obtain ⟨hz4, p0, p1⟩ := X4.out.facts; clear hb)
    | (go_at_call 33; refine (cpairs_any P k d ps _ hk hkd (H1.out.keep X4.out.keeps)).mono ?_; rintro e w5 ⟨hb, C, n, c5, rfl, ho⟩; have X5 := Lib.hid (X4.out.next hb); obtain ⟨hz5, p0, p1⟩ := X5.out.facts; have O5 := Lib.hid ho; have hz45 := hb.size; have CV : Hid (ClosF w5 w4.heap.size (fun e => hasE N es e.1 e.2) ⟨w.heap.size, 0, none⟩) := Lib.hid (fun w' hw' x y => vir2_any N A m c w.heap.size es x y w' (by omega) (H0.out.keep (X4.out.keeps.trans (Keeps.of_below (hb.trans hw') (Nat.le_refl _)))) ((Keeps.of_below (hb.trans hw') (Nat.le_refl _)) _ _ X4.out.facts.2.1) ((Keeps.of_below (hb.trans hw') (Nat.le_refl _)) _ _ X4.out.facts.2.2)); have HN : n ≤ 1000000 := (by have h1 := ho.plen; have h2 := prU_len ps k; rw [HKL.out] at h2; have h3 : k * k ≤ 1000 * 1000 := Nat.mul_le_mul hk hk; omega); have BB5 := hb; clear hb ho)
    | (go_at_call 32; refine (delF_own C n c5 (prU ps k) _ w4.heap.size (fun e => hasE N es e.1 e.2) ⟨w.heap.size, 0, none⟩ O5.out HN CV.out hz45).mono ?_; rintro e w6 ⟨rfl, ho, hg⟩; have O6 := Lib.hid ho; have B6 : Hid (Below w4.heap.size w4 w6) := Lib.hid ((BB5).grown hg hz45 (fun k hk => (O5.out.lt hk).1)); clear ho hg)
    | fail)
  go_ret
  exact ⟨X4.out.below.trans (B6.out.mono (by omega)), C, _, c5, rfl, by rw [YES.out, HKL.out]; exact O6.out.base_le (by omega)⟩
end Go.Proofs.YtcpkdnhpelkeoaaGreat

namespace Go.Proofs.YtcpkdnhpelkeoaaGreat
set_option linter.unusedVariables false
set_option linter.unusedSimpArgs false
open Go.RowKit Go.Sort

attribute [local go_sem ↓] Go.wp_at_zero Go.wp_at_succ
theorem rcommon_l {L : List Int} {l : Nat} (A B : Option Addr) (n c m d : Nat) (a b : List Int) (w : World) (hn : n ≤ 1000000) (hm : m ≤ 1000000) (ha : Rd w 1 A n (ints a)) (hb : Rd w 1 B m (ints b)) (hL : comL a b = L) (hl : L.length = l) :
    Calls Tryz.prog 69 #[.slice A n c, .slice B m d] w fun e w' => Below w.heap.size w w' ∧ ∃ D q, e = .returned (.slice D l q) ∧ Rd w' 1 D l (ints L) := by
  subst hL hl
  refine (rcommon_any A B n c m d a b w hn hm ha hb).mono ?_
  rintro e w' ⟨h1, D, q, h2, h3⟩
  exact ⟨h1, D, q, h2, h3.rd⟩
set_option maxHeartbeats 16000000 in
theorem rmerge_any (A B C : Option Addr) (n cA m cB k cC : Nat) (a b c : List Int) (w : World) (hn : n ≤ 1000000) (hm : m ≤ 1000000) (hk : k ≤ 1000000) (ha : Rd w 1 A n (ints a)) (hb : Rd w 1 B m (ints b)) (hc : Rd w 1 C k (ints c)) :
    Calls Tryz.prog 41 #[.slice A n cA, .slice B m cB, .slice C k cC] w fun e w' => e = .returned (mgR (mgV a b c)) ∧ Below w.heap.size w w' := by
  have H1 := Lib.hid ha
  have H2 := Lib.hid hb
  have H3 := Lib.hid hc
  clear ha hb hc
  have EV : Hid (∀ v, mgV a b c = v → Ending.returned (mgR v) = .returned (mgR (mgV a b c))) := Lib.hid (fun v h => by rw [h])
  generalize hX : comL a b = X
  generalize hY : comL b c = Y
  generalize hZ : comL a c = Z
  generalize hlx : X.length = lx
  generalize hly : Y.length = ly
  generalize hlz : Z.length = lz
  generalize hx : X.getD 0 0 = x
  generalize hy : Y.getD 0 0 = y
  generalize hz : Z.getD 0 0 = z
  generalize hu1 : upB a = u1
  generalize hu2 : upB b = u2
  generalize hu3 : upB c = u3
  have VX := Lib.hid hX
  have VY := Lib.hid hY
  have VZ := Lib.hid hZ
  have LX := Lib.hid hlx
  have LY := Lib.hid hly
  have LZ := Lib.hid hlz
  have GX := Lib.hid hx
  have GY := Lib.hid hy
  have GZ := Lib.hid hz
  have U1 := Lib.hid hu1
  have U2 := Lib.hid hu2
  have U3 := Lib.hid hu3
  have MV : Hid (mgV a b c = if (((if lx = 1 then (x, true) else (0, false) : Int × Bool).2 && (if ly = 1 then (y, true) else (0, false) : Int × Bool).2 && (if lz = 1 then (z, true) else (0, false) : Int × Bool).2) && (!((if lx = 1 then (x, true) else (0, false) : Int × Bool).1 == (if ly = 1 then (y, true) else (0, false) : Int × Bool).1) && !((if ly = 1 then (y, true) else (0, false) : Int × Bool).1 == (if lz = 1 then (z, true) else (0, false) : Int × Bool).1) && !((if lx = 1 then (x, true) else (0, false) : Int × Bool).1 == (if lz = 1 then (z, true) else (0, false) : Int × Bool).1)) && (u1 && u2 && u3)) = true then ((if lx = 1 then (x, true) else (0, false) : Int × Bool).1, (if ly = 1 then (y, true) else (0, false) : Int × Bool).1, (if lz = 1 then (z, true) else (0, false) : Int × Bool).1, true) else (0, 0, 0, false)) := Lib.hid (by unfold mgV mgB comV; rw [hX, hY, hZ, hlx, hly, hlz, hx, hy, hz, hu1, hu2, hu3])
  clear hX hY hZ hlx hly hlz hx hy hz hu1 hu2 hu3
  cases u1
  · go_enter Tryz.func41, Tryz.ntmps41
    go_wp2_with (first
      | (go_at_call 69; (with_reducible refine (rcommon_l (l := lx) A B n cA m cB a b _ hn hm H1.out H2.out VX.out LX.out).mono ?_); rintro e w1 ⟨hb, DX, dx, rfl, rx⟩; have B1 := Lib.hid hb; have K1 := Lib.hid (Keeps.of_below hb (Nat.le_refl _)); have RX := Lib.hid rx; clear hb rx)
      | (go_at_call 69; (with_reducible refine (rcommon_l (l := ly) B C m cB k cC b c _ hm hk (H2.out.keep K1.out) (H3.out.keep K1.out) VY.out LY.out).mono ?_); rintro e w2 ⟨hb, DY, dy, rfl, ry⟩; have B2 := Lib.hid (B1.out.trans (hb.mono B1.out.size)); have K2 := Lib.hid (Keeps.of_below B2.out (Nat.le_refl _)); have RX2 := Lib.hid (RX.out.keep (Keeps.of_below hb (Nat.le_refl _))); have RY := Lib.hid ry; clear hb ry)
      | (go_at_call 69; (with_reducible refine (rcommon_l (l := lz) A C n cA k cC a c _ hn hk (H1.out.keep K2.out) (H3.out.keep K2.out) VZ.out LZ.out).mono ?_); rintro e w3 ⟨hb, DZ, dz, rfl, rz⟩; have B3 := Lib.hid (B2.out.trans (hb.mono B2.out.size)); have K3 := Lib.hid (Keeps.of_below B3.out (Nat.le_refl _)); have RX3 := Lib.hid (RX2.out.keep (Keeps.of_below hb (Nat.le_refl _))); have RY3 := Lib.hid (RY.out.keep (Keeps.of_below hb (Nat.le_refl _))); have RZ3 := Lib.hid rz; clear hb rz)
      | fail)
    have cA1 := call_q (w := w3) (fun w' hw => points36_any A n cA a w' (by omega) (H1.out.keep (K3.out.trans hw)))
    have cB1 := call_q (w := w3) (fun w' hw => points36_any B m cB b w' (by omega) (H2.out.keep (K3.out.trans hw)))
    have cC1 := call_q (w := w3) (fun w' hw => points36_any C k cC c w' (by omega) (H3.out.keep (K3.out.trans hw)))
    rw [U1.out] at cA1
    rw [U2.out] at cB1
    rw [U3.out] at cC1
    refine wp_region_q (by kernel_rfl) (by kernel_rfl) ?_
    repeat (go_big_quiet_step (first | with_reducible exact cA1 _ _ | with_reducible exact cB1 _ _ | with_reducible exact cC1 _ _))
    refine wpQuiet_nil ?_
    intro wq hgq
    go_wp2_with fail
    refine bodyPost_ret (v := mgR (0, 0, 0, false)) (by simp [mgR, results, Tryz.results41, go_sem]) rfl ⟨?_, (B3.out.trans (hgq.mono B3.out.size))⟩
    exact EV.out _ (by rw [MV.out]; simp)
  · cases u2
    · go_enter Tryz.func41, Tryz.ntmps41
      go_wp2_with (first
        | (go_at_call 69; (with_reducible refine (rcommon_l (l := lx) A B n cA m cB a b _ hn hm H1.out H2.out VX.out LX.out).mono ?_); rintro e w1 ⟨hb, DX, dx, rfl, rx⟩; have B1 := Lib.hid hb; have K1 := Lib.hid (Keeps.of_below hb (Nat.le_refl _)); have RX := Lib.hid rx; clear hb rx)
        | (go_at_call 69; (with_reducible refine (rcommon_l (l := ly) B C m cB k cC b c _ hm hk (H2.out.keep K1.out) (H3.out.keep K1.out) VY.out LY.out).mono ?_); rintro e w2 ⟨hb, DY, dy, rfl, ry⟩; have B2 := Lib.hid (B1.out.trans (hb.mono B1.out.size)); have K2 := Lib.hid (Keeps.of_below B2.out (Nat.le_refl _)); have RX2 := Lib.hid (RX.out.keep (Keeps.of_below hb (Nat.le_refl _))); have RY := Lib.hid ry; clear hb ry)
        | (go_at_call 69; (with_reducible refine (rcommon_l (l := lz) A C n cA k cC a c _ hn hk (H1.out.keep K2.out) (H3.out.keep K2.out) VZ.out LZ.out).mono ?_); rintro e w3 ⟨hb, DZ, dz, rfl, rz⟩; have B3 := Lib.hid (B2.out.trans (hb.mono B2.out.size)); have K3 := Lib.hid (Keeps.of_below B3.out (Nat.le_refl _)); have RX3 := Lib.hid (RX2.out.keep (Keeps.of_below hb (Nat.le_refl _))); have RY3 := Lib.hid (RY.out.keep (Keeps.of_below hb (Nat.le_refl _))); have RZ3 := Lib.hid rz; clear hb rz)
        | fail)
      have cA1 := call_q (w := w3) (fun w' hw => points36_any A n cA a w' (by omega) (H1.out.keep (K3.out.trans hw)))
      have cB1 := call_q (w := w3) (fun w' hw => points36_any B m cB b w' (by omega) (H2.out.keep (K3.out.trans hw)))
      have cC1 := call_q (w := w3) (fun w' hw => points36_any C k cC c w' (by omega) (H3.out.keep (K3.out.trans hw)))
      rw [U1.out] at cA1
      rw [U2.out] at cB1
      rw [U3.out] at cC1
      refine wp_region_q (by kernel_rfl) (by kernel_rfl) ?_
      repeat (go_big_quiet_step (first | with_reducible exact cA1 _ _ | with_reducible exact cB1 _ _ | with_reducible exact cC1 _ _))
      refine wpQuiet_nil ?_
      intro wq hgq
      go_wp2_with fail
      refine bodyPost_ret (v := mgR (0, 0, 0, false)) (by simp [mgR, results, Tryz.results41, go_sem]) rfl ⟨?_, (B3.out.trans (hgq.mono B3.out.size))⟩
      exact EV.out _ (by rw [MV.out]; simp)
    · cases u3
      · go_enter Tryz.func41, Tryz.ntmps41
        go_wp2_with (first
          | (go_at_call 69; (with_reducible refine (rcommon_l (l := lx) A B n cA m cB a b _ hn hm H1.out H2.out VX.out LX.out).mono ?_); rintro e w1 ⟨hb, DX, dx, rfl, rx⟩; have B1 := Lib.hid hb; have K1 := Lib.hid (Keeps.of_below hb (Nat.le_refl _)); have RX := Lib.hid rx; clear hb rx)
          | (go_at_call 69; (with_reducible refine (rcommon_l (l := ly) B C m cB k cC b c _ hm hk (H2.out.keep K1.out) (H3.out.keep K1.out) VY.out LY.out).mono ?_); rintro e w2 ⟨hb, DY, dy, rfl, ry⟩; have B2 := Lib.hid (B1.out.trans (hb.mono B1.out.size)); have K2 := Lib.hid (Keeps.of_below B2.out (Nat.le_refl _)); have RX2 := Lib.hid (RX.out.keep (Keeps.of_below hb (Nat.le_refl _))); have RY := Lib.hid ry; clear hb ry)
          | (go_at_call 69; (with_reducible refine (rcommon_l (l := lz) A C n cA k cC a c _ hn hk (H1.out.keep K2.out) (H3.out.keep K2.out) VZ.out LZ.out).mono ?_); rintro e w3 ⟨hb, DZ, dz, rfl, rz⟩; have B3 := Lib.hid (B2.out.trans (hb.mono B2.out.size)); have K3 := Lib.hid (Keeps.of_below B3.out (Nat.le_refl _)); have RX3 := Lib.hid (RX2.out.keep (Keeps.of_below hb (Nat.le_refl _))); have RY3 := Lib.hid (RY.out.keep (Keeps.of_below hb (Nat.le_refl _))); have RZ3 := Lib.hid rz; clear hb rz)
          | fail)
        have cA1 := call_q (w := w3) (fun w' hw => points36_any A n cA a w' (by omega) (H1.out.keep (K3.out.trans hw)))
        have cB1 := call_q (w := w3) (fun w' hw => points36_any B m cB b w' (by omega) (H2.out.keep (K3.out.trans hw)))
        have cC1 := call_q (w := w3) (fun w' hw => points36_any C k cC c w' (by omega) (H3.out.keep (K3.out.trans hw)))
        rw [U1.out] at cA1
        rw [U2.out] at cB1
        rw [U3.out] at cC1
        refine wp_region_q (by kernel_rfl) (by kernel_rfl) ?_
        repeat (go_big_quiet_step (first | with_reducible exact cA1 _ _ | with_reducible exact cB1 _ _ | with_reducible exact cC1 _ _))
        refine wpQuiet_nil ?_
        intro wq hgq
        go_wp2_with fail
        refine bodyPost_ret (v := mgR (0, 0, 0, false)) (by simp [mgR, results, Tryz.results41, go_sem]) rfl ⟨?_, (B3.out.trans (hgq.mono B3.out.size))⟩
        exact EV.out _ (by rw [MV.out]; simp)
      · by_cases n_lx : lx = 1
        · subst n_lx
          have d1 : (((1 : Nat) : Int) != 1) = false := by decide
          by_cases n_ly : ly = 1
          · subst n_ly
            by_cases n_lz : lz = 1
            · subst n_lz
              cases hxy : (x == y)
              · cases hyz : (y == z)
                · cases hxz : (x == z)
                  · go_enter Tryz.func41, Tryz.ntmps41
                    go_wp2_with (first
                      | (go_at_call 69; (with_reducible refine (rcommon_l (l := 1) A B n cA m cB a b _ hn hm H1.out H2.out VX.out LX.out).mono ?_); rintro e w1 ⟨hb, DX, dx, rfl, rx⟩; have B1 := Lib.hid hb; have K1 := Lib.hid (Keeps.of_below hb (Nat.le_refl _)); have RX := Lib.hid rx; clear hb rx)
                      | (go_at_call 69; (with_reducible refine (rcommon_l (l := 1) B C m cB k cC b c _ hm hk (H2.out.keep K1.out) (H3.out.keep K1.out) VY.out LY.out).mono ?_); rintro e w2 ⟨hb, DY, dy, rfl, ry⟩; have B2 := Lib.hid (B1.out.trans (hb.mono B1.out.size)); have K2 := Lib.hid (Keeps.of_below B2.out (Nat.le_refl _)); have RX2 := Lib.hid (RX.out.keep (Keeps.of_below hb (Nat.le_refl _))); have RY := Lib.hid ry; clear hb ry)
                      | (go_at_call 69; (with_reducible refine (rcommon_l (l := 1) A C n cA k cC a c _ hn hk (H1.out.keep K2.out) (H3.out.keep K2.out) VZ.out LZ.out).mono ?_); rintro e w3 ⟨hb, DZ, dz, rfl, rz⟩; have B3 := Lib.hid (B2.out.trans (hb.mono B2.out.size)); have K3 := Lib.hid (Keeps.of_below B3.out (Nat.le_refl _)); have RX3 := Lib.hid (RX2.out.keep (Keeps.of_below hb (Nat.le_refl _))); have RY3 := Lib.hid (RY.out.keep (Keeps.of_below hb (Nat.le_refl _))); have RZ3 := Lib.hid rz; clear hb rz; obtain ⟨ax, rfl, -, cx⟩ := RX3.out.int_at (k := 0) (by omega); rw [GX.out] at cx; have cx1 : w3.cell? ax = some (.int .i64 x) := cx; have kx := grown_cell cx1; clear cx; obtain ⟨ay, rfl, -, cy⟩ := RY3.out.int_at (k := 0) (by omega); rw [GY.out] at cy; have cy1 : w3.cell? ay = some (.int .i64 y) := cy; have ky := grown_cell cy1; clear cy; obtain ⟨az, rfl, -, cz⟩ := RZ3.out.int_at (k := 0) (by omega); rw [GZ.out] at cz; have cz1 : w3.cell? az = some (.int .i64 z) := cz; have kz := grown_cell cz1; clear cz)
                      | fail)
                    have cA1 := call_q (w := w3) (fun w' hw => points36_any A n cA a w' (by omega) (H1.out.keep (K3.out.trans hw)))
                    have cB1 := call_q (w := w3) (fun w' hw => points36_any B m cB b w' (by omega) (H2.out.keep (K3.out.trans hw)))
                    have cC1 := call_q (w := w3) (fun w' hw => points36_any C k cC c w' (by omega) (H3.out.keep (K3.out.trans hw)))
                    rw [U1.out] at cA1
                    rw [U2.out] at cB1
                    rw [U3.out] at cC1
                    refine wp_region_q (by kernel_rfl) (by kernel_rfl) ?_
                    repeat (go_big_quiet_step (first | with_reducible exact cA1 _ _ | with_reducible exact cB1 _ _ | with_reducible exact cC1 _ _))
                    refine wpQuiet_nil ?_
                    intro wq hgq
                    go_wp2_with fail
                    have B4 := Lib.hid (B3.out.trans (hgq.mono B3.out.size))
                    have K4 := Keeps.of_below hgq (Nat.le_refl _)
                    have cx2 := K4 _ _ cx1
                    have cy2 := K4 _ _ cy1
                    have cz2 := K4 _ _ cz1
                    have kx2 := grown_cell cx2
                    have ky2 := grown_cell cy2
                    have kz2 := grown_cell cz2
                    clear hgq K4
                    refine wp_region_q (by kernel_rfl) (by kernel_rfl) ?_
                    repeat (go_big_quiet_step (fail))
                    refine wpQuiet_nil ?_
                    intro wq2 hgq2
                    have B5 := Lib.hid (B4.out.trans (hgq2.mono B4.out.size))
                    go_wp2_with fail
                    refine bodyPost_ret (v := mgR (x, y, z, true)) (by simp [mgR, results, Tryz.results41, go_sem]) rfl ⟨?_, B5.out⟩
                    exact EV.out _ (by rw [MV.out]; simp [hxy, hyz, hxz])
                  · go_enter Tryz.func41, Tryz.ntmps41
                    go_wp2_with (first
                      | (go_at_call 69; (with_reducible refine (rcommon_l (l := 1) A B n cA m cB a b _ hn hm H1.out H2.out VX.out LX.out).mono ?_); rintro e w1 ⟨hb, DX, dx, rfl, rx⟩; have B1 := Lib.hid hb; have K1 := Lib.hid (Keeps.of_below hb (Nat.le_refl _)); have RX := Lib.hid rx; clear hb rx)
                      | (go_at_call 69; (with_reducible refine (rcommon_l (l := 1) B C m cB k cC b c _ hm hk (H2.out.keep K1.out) (H3.out.keep K1.out) VY.out LY.out).mono ?_); rintro e w2 ⟨hb, DY, dy, rfl, ry⟩; have B2 := Lib.hid (B1.out.trans (hb.mono B1.out.size)); have K2 := Lib.hid (Keeps.of_below B2.out (Nat.le_refl _)); have RX2 := Lib.hid (RX.out.keep (Keeps.of_below hb (Nat.le_refl _))); have RY := Lib.hid ry; clear hb ry)
                      | (go_at_call 69; (with_reducible refine (rcommon_l (l := 1) A C n cA k cC a c _ hn hk (H1.out.keep K2.out) (H3.out.keep K2.out) VZ.out LZ.out).mono ?_); rintro e w3 ⟨hb, DZ, dz, rfl, rz⟩; have B3 := Lib.hid (B2.out.trans (hb.mono B2.out.size)); have K3 := Lib.hid (Keeps.of_below B3.out (Nat.le_refl _)); have RX3 := Lib.hid (RX2.out.keep (Keeps.of_below hb (Nat.le_refl _))); have RY3 := Lib.hid (RY.out.keep (Keeps.of_below hb (Nat.le_refl _))); have RZ3 := Lib.hid rz; clear hb rz; obtain ⟨ax, rfl, -, cx⟩ := RX3.out.int_at (k := 0) (by omega); rw [GX.out] at cx; have cx1 : w3.cell? ax = some (.int .i64 x) := cx; have kx := grown_cell cx1; clear cx; obtain ⟨ay, rfl, -, cy⟩ := RY3.out.int_at (k := 0) (by omega); rw [GY.out] at cy; have cy1 : w3.cell? ay = some (.int .i64 y) := cy; have ky := grown_cell cy1; clear cy; obtain ⟨az, rfl, -, cz⟩ := RZ3.out.int_at (k := 0) (by omega); rw [GZ.out] at cz; have cz1 : w3.cell? az = some (.int .i64 z) := cz; have kz := grown_cell cz1; clear cz)
                      | fail)
                    have cA1 := call_q (w := w3) (fun w' hw => points36_any A n cA a w' (by omega) (H1.out.keep (K3.out.trans hw)))
                    have cB1 := call_q (w := w3) (fun w' hw => points36_any B m cB b w' (by omega) (H2.out.keep (K3.out.trans hw)))
                    have cC1 := call_q (w := w3) (fun w' hw => points36_any C k cC c w' (by omega) (H3.out.keep (K3.out.trans hw)))
                    rw [U1.out] at cA1
                    rw [U2.out] at cB1
                    rw [U3.out] at cC1
                    refine wp_region_q (by kernel_rfl) (by kernel_rfl) ?_
                    repeat (go_big_quiet_step (first | with_reducible exact cA1 _ _ | with_reducible exact cB1 _ _ | with_reducible exact cC1 _ _))
                    refine wpQuiet_nil ?_
                    intro wq hgq
                    go_wp2_with fail
                    refine bodyPost_ret (v := mgR (0, 0, 0, false)) (by simp [mgR, results, Tryz.results41, go_sem]) rfl ⟨?_, (B3.out.trans (hgq.mono B3.out.size))⟩
                    exact EV.out _ (by rw [MV.out]; simp [hxy, hyz, hxz])
                · go_enter Tryz.func41, Tryz.ntmps41
                  go_wp2_with (first
                    | (go_at_call 69; (with_reducible refine (rcommon_l (l := 1) A B n cA m cB a b _ hn hm H1.out H2.out VX.out LX.out).mono ?_); rintro e w1 ⟨hb, DX, dx, rfl, rx⟩; have B1 := Lib.hid hb; have K1 := Lib.hid (Keeps.of_below hb (Nat.le_refl _)); have RX := Lib.hid rx; clear hb rx)
                    | (go_at_call 69; (with_reducible refine (rcommon_l (l := 1) B C m cB k cC b c _ hm hk (H2.out.keep K1.out) (H3.out.keep K1.out) VY.out LY.out).mono ?_); rintro e w2 ⟨hb, DY, dy, rfl, ry⟩; have B2 := Lib.hid (B1.out.trans (hb.mono B1.out.size)); have K2 := Lib.hid (Keeps.of_below B2.out (Nat.le_refl _)); have RX2 := Lib.hid (RX.out.keep (Keeps.of_below hb (Nat.le_refl _))); have RY := Lib.hid ry; clear hb ry)
                    | (go_at_call 69; (with_reducible refine (rcommon_l (l := 1) A C n cA k cC a c _ hn hk (H1.out.keep K2.out) (H3.out.keep K2.out) VZ.out LZ.out).mono ?_); rintro e w3 ⟨hb, DZ, dz, rfl, rz⟩; have B3 := Lib.hid (B2.out.trans (hb.mono B2.out.size)); have K3 := Lib.hid (Keeps.of_below B3.out (Nat.le_refl _)); have RX3 := Lib.hid (RX2.out.keep (Keeps.of_below hb (Nat.le_refl _))); have RY3 := Lib.hid (RY.out.keep (Keeps.of_below hb (Nat.le_refl _))); have RZ3 := Lib.hid rz; clear hb rz; obtain ⟨ax, rfl, -, cx⟩ := RX3.out.int_at (k := 0) (by omega); rw [GX.out] at cx; have cx1 : w3.cell? ax = some (.int .i64 x) := cx; have kx := grown_cell cx1; clear cx; obtain ⟨ay, rfl, -, cy⟩ := RY3.out.int_at (k := 0) (by omega); rw [GY.out] at cy; have cy1 : w3.cell? ay = some (.int .i64 y) := cy; have ky := grown_cell cy1; clear cy; obtain ⟨az, rfl, -, cz⟩ := RZ3.out.int_at (k := 0) (by omega); rw [GZ.out] at cz; have cz1 : w3.cell? az = some (.int .i64 z) := cz; have kz := grown_cell cz1; clear cz)
                    | fail)
                  have cA1 := call_q (w := w3) (fun w' hw => points36_any A n cA a w' (by omega) (H1.out.keep (K3.out.trans hw)))
                  have cB1 := call_q (w := w3) (fun w' hw => points36_any B m cB b w' (by omega) (H2.out.keep (K3.out.trans hw)))
                  have cC1 := call_q (w := w3) (fun w' hw => points36_any C k cC c w' (by omega) (H3.out.keep (K3.out.trans hw)))
                  rw [U1.out] at cA1
                  rw [U2.out] at cB1
                  rw [U3.out] at cC1
                  refine wp_region_q (by kernel_rfl) (by kernel_rfl) ?_
                  repeat (go_big_quiet_step (first | with_reducible exact cA1 _ _ | with_reducible exact cB1 _ _ | with_reducible exact cC1 _ _))
                  refine wpQuiet_nil ?_
                  intro wq hgq
                  go_wp2_with fail
                  refine bodyPost_ret (v := mgR (0, 0, 0, false)) (by simp [mgR, results, Tryz.results41, go_sem]) rfl ⟨?_, (B3.out.trans (hgq.mono B3.out.size))⟩
                  exact EV.out _ (by rw [MV.out]; simp [hxy, hyz])
              · go_enter Tryz.func41, Tryz.ntmps41
                go_wp2_with (first
                  | (go_at_call 69; (with_reducible refine (rcommon_l (l := 1) A B n cA m cB a b _ hn hm H1.out H2.out VX.out LX.out).mono ?_); rintro e w1 ⟨hb, DX, dx, rfl, rx⟩; have B1 := Lib.hid hb; have K1 := Lib.hid (Keeps.of_below hb (Nat.le_refl _)); have RX := Lib.hid rx; clear hb rx)
                  | (go_at_call 69; (with_reducible refine (rcommon_l (l := 1) B C m cB k cC b c _ hm hk (H2.out.keep K1.out) (H3.out.keep K1.out) VY.out LY.out).mono ?_); rintro e w2 ⟨hb, DY, dy, rfl, ry⟩; have B2 := Lib.hid (B1.out.trans (hb.mono B1.out.size)); have K2 := Lib.hid (Keeps.of_below B2.out (Nat.le_refl _)); have RX2 := Lib.hid (RX.out.keep (Keeps.of_below hb (Nat.le_refl _))); have RY := Lib.hid ry; clear hb ry)
                  | (go_at_call 69; (with_reducible refine (rcommon_l (l := 1) A C n cA k cC a c _ hn hk (H1.out.keep K2.out) (H3.out.keep K2.out) VZ.out LZ.out).mono ?_); rintro e w3 ⟨hb, DZ, dz, rfl, rz⟩; have B3 := Lib.hid (B2.out.trans (hb.mono B2.out.size)); have K3 := Lib.hid (Keeps.of_below B3.out (Nat.le_refl _)); have RX3 := Lib.hid (RX2.out.keep (Keeps.of_below hb (Nat.le_refl _))); have RY3 := Lib.hid (RY.out.keep (Keeps.of_below hb (Nat.le_refl _))); have RZ3 := Lib.hid rz; clear hb rz; obtain ⟨ax, rfl, -, cx⟩ := RX3.out.int_at (k := 0) (by omega); rw [GX.out] at cx; have cx1 : w3.cell? ax = some (.int .i64 x) := cx; have kx := grown_cell cx1; clear cx; obtain ⟨ay, rfl, -, cy⟩ := RY3.out.int_at (k := 0) (by omega); rw [GY.out] at cy; have cy1 : w3.cell? ay = some (.int .i64 y) := cy; have ky := grown_cell cy1; clear cy; obtain ⟨az, rfl, -, cz⟩ := RZ3.out.int_at (k := 0) (by omega); rw [GZ.out] at cz; have cz1 : w3.cell? az = some (.int .i64 z) := cz; have kz := grown_cell cz1; clear cz)
                  | fail)
                have cA1 := call_q (w := w3) (fun w' hw => points36_any A n cA a w' (by omega) (H1.out.keep (K3.out.trans hw)))
                have cB1 := call_q (w := w3) (fun w' hw => points36_any B m cB b w' (by omega) (H2.out.keep (K3.out.trans hw)))
                have cC1 := call_q (w := w3) (fun w' hw => points36_any C k cC c w' (by omega) (H3.out.keep (K3.out.trans hw)))
                rw [U1.out] at cA1
                rw [U2.out] at cB1
                rw [U3.out] at cC1
                refine wp_region_q (by kernel_rfl) (by kernel_rfl) ?_
                repeat (go_big_quiet_step (first | with_reducible exact cA1 _ _ | with_reducible exact cB1 _ _ | with_reducible exact cC1 _ _))
                refine wpQuiet_nil ?_
                intro wq hgq
                go_wp2_with fail
                refine bodyPost_ret (v := mgR (0, 0, 0, false)) (by simp [mgR, results, Tryz.results41, go_sem]) rfl ⟨?_, (B3.out.trans (hgq.mono B3.out.size))⟩
                exact EV.out _ (by rw [MV.out]; simp [hxy])
            · have d_lz : ((lz : Int) != 1) = true := by simp; omega
              go_enter Tryz.func41, Tryz.ntmps41
              go_wp2_with (first
                | (go_at_call 69; (with_reducible refine (rcommon_l (l := 1) A B n cA m cB a b _ hn hm H1.out H2.out VX.out LX.out).mono ?_); rintro e w1 ⟨hb, DX, dx, rfl, rx⟩; have B1 := Lib.hid hb; have K1 := Lib.hid (Keeps.of_below hb (Nat.le_refl _)); have RX := Lib.hid rx; clear hb rx)
                | (go_at_call 69; (with_reducible refine (rcommon_l (l := 1) B C m cB k cC b c _ hm hk (H2.out.keep K1.out) (H3.out.keep K1.out) VY.out LY.out).mono ?_); rintro e w2 ⟨hb, DY, dy, rfl, ry⟩; have B2 := Lib.hid (B1.out.trans (hb.mono B1.out.size)); have K2 := Lib.hid (Keeps.of_below B2.out (Nat.le_refl _)); have RX2 := Lib.hid (RX.out.keep (Keeps.of_below hb (Nat.le_refl _))); have RY := Lib.hid ry; clear hb ry)
                | (go_at_call 69; (with_reducible refine (rcommon_l (l := lz) A C n cA k cC a c _ hn hk (H1.out.keep K2.out) (H3.out.keep K2.out) VZ.out LZ.out).mono ?_); rintro e w3 ⟨hb, DZ, dz, rfl, rz⟩; have B3 := Lib.hid (B2.out.trans (hb.mono B2.out.size)); have K3 := Lib.hid (Keeps.of_below B3.out (Nat.le_refl _)); have RX3 := Lib.hid (RX2.out.keep (Keeps.of_below hb (Nat.le_refl _))); have RY3 := Lib.hid (RY.out.keep (Keeps.of_below hb (Nat.le_refl _))); have RZ3 := Lib.hid rz; clear hb rz; obtain ⟨ax, rfl, -, cx⟩ := RX3.out.int_at (k := 0) (by omega); rw [GX.out] at cx; have cx1 : w3.cell? ax = some (.int .i64 x) := cx; have kx := grown_cell cx1; clear cx; obtain ⟨ay, rfl, -, cy⟩ := RY3.out.int_at (k := 0) (by omega); rw [GY.out] at cy; have cy1 : w3.cell? ay = some (.int .i64 y) := cy; have ky := grown_cell cy1; clear cy)
                | fail)
              have cA1 := call_q (w := w3) (fun w' hw => points36_any A n cA a w' (by omega) (H1.out.keep (K3.out.trans hw)))
              have cB1 := call_q (w := w3) (fun w' hw => points36_any B m cB b w' (by omega) (H2.out.keep (K3.out.trans hw)))
              have cC1 := call_q (w := w3) (fun w' hw => points36_any C k cC c w' (by omega) (H3.out.keep (K3.out.trans hw)))
              rw [U1.out] at cA1
              rw [U2.out] at cB1
              rw [U3.out] at cC1
              refine wp_region_q (by kernel_rfl) (by kernel_rfl) ?_
              repeat (go_big_quiet_step (first | with_reducible exact cA1 _ _ | with_reducible exact cB1 _ _ | with_reducible exact cC1 _ _))
              refine wpQuiet_nil ?_
              intro wq hgq
              go_wp2_with fail
              refine bodyPost_ret (v := mgR (0, 0, 0, false)) (by simp [mgR, results, Tryz.results41, go_sem]) rfl ⟨?_, (B3.out.trans (hgq.mono B3.out.size))⟩
              exact EV.out _ (by rw [MV.out]; simp [n_lz])
          · have d_ly : ((ly : Int) != 1) = true := by simp; omega
            go_enter Tryz.func41, Tryz.ntmps41
            go_wp2_with (first
              | (go_at_call 69; (with_reducible refine (rcommon_l (l := 1) A B n cA m cB a b _ hn hm H1.out H2.out VX.out LX.out).mono ?_); rintro e w1 ⟨hb, DX, dx, rfl, rx⟩; have B1 := Lib.hid hb; have K1 := Lib.hid (Keeps.of_below hb (Nat.le_refl _)); have RX := Lib.hid rx; clear hb rx)
              | (go_at_call 69; (with_reducible refine (rcommon_l (l := ly) B C m cB k cC b c _ hm hk (H2.out.keep K1.out) (H3.out.keep K1.out) VY.out LY.out).mono ?_); rintro e w2 ⟨hb, DY, dy, rfl, ry⟩; have B2 := Lib.hid (B1.out.trans (hb.mono B1.out.size)); have K2 := Lib.hid (Keeps.of_below B2.out (Nat.le_refl _)); have RX2 := Lib.hid (RX.out.keep (Keeps.of_below hb (Nat.le_refl _))); have RY := Lib.hid ry; clear hb ry)
              | (go_at_call 69; (with_reducible refine (rcommon_l (l := lz) A C n cA k cC a c _ hn hk (H1.out.keep K2.out) (H3.out.keep K2.out) VZ.out LZ.out).mono ?_); rintro e w3 ⟨hb, DZ, dz, rfl, rz⟩; have B3 := Lib.hid (B2.out.trans (hb.mono B2.out.size)); have K3 := Lib.hid (Keeps.of_below B3.out (Nat.le_refl _)); have RX3 := Lib.hid (RX2.out.keep (Keeps.of_below hb (Nat.le_refl _))); have RY3 := Lib.hid (RY.out.keep (Keeps.of_below hb (Nat.le_refl _))); have RZ3 := Lib.hid rz; clear hb rz; obtain ⟨ax, rfl, -, cx⟩ := RX3.out.int_at (k := 0) (by omega); rw [GX.out] at cx; have cx1 : w3.cell? ax = some (.int .i64 x) := cx; have kx := grown_cell cx1; clear cx)
              | fail)
            have cA1 := call_q (w := w3) (fun w' hw => points36_any A n cA a w' (by omega) (H1.out.keep (K3.out.trans hw)))
            have cB1 := call_q (w := w3) (fun w' hw => points36_any B m cB b w' (by omega) (H2.out.keep (K3.out.trans hw)))
            have cC1 := call_q (w := w3) (fun w' hw => points36_any C k cC c w' (by omega) (H3.out.keep (K3.out.trans hw)))
            rw [U1.out] at cA1
            rw [U2.out] at cB1
            rw [U3.out] at cC1
            refine wp_region_q (by kernel_rfl) (by kernel_rfl) ?_
            repeat (go_big_quiet_step (first | with_reducible exact cA1 _ _ | with_reducible exact cB1 _ _ | with_reducible exact cC1 _ _))
            refine wpQuiet_nil ?_
            intro wq hgq
            go_wp2_with fail
            refine bodyPost_ret (v := mgR (0, 0, 0, false)) (by simp [mgR, results, Tryz.results41, go_sem]) rfl ⟨?_, (B3.out.trans (hgq.mono B3.out.size))⟩
            exact EV.out _ (by rw [MV.out]; simp [n_ly])
        · have d_lx : ((lx : Int) != 1) = true := by simp; omega
          go_enter Tryz.func41, Tryz.ntmps41
          go_wp2_with (first
            | (go_at_call 69; (with_reducible refine (rcommon_l (l := lx) A B n cA m cB a b _ hn hm H1.out H2.out VX.out LX.out).mono ?_); rintro e w1 ⟨hb, DX, dx, rfl, rx⟩; have B1 := Lib.hid hb; have K1 := Lib.hid (Keeps.of_below hb (Nat.le_refl _)); have RX := Lib.hid rx; clear hb rx)
            | (go_at_call 69; (with_reducible refine (rcommon_l (l := ly) B C m cB k cC b c _ hm hk (H2.out.keep K1.out) (H3.out.keep K1.out) VY.out LY.out).mono ?_); rintro e w2 ⟨hb, DY, dy, rfl, ry⟩; have B2 := Lib.hid (B1.out.trans (hb.mono B1.out.size)); have K2 := Lib.hid (Keeps.of_below B2.out (Nat.le_refl _)); have RX2 := Lib.hid (RX.out.keep (Keeps.of_below hb (Nat.le_refl _))); have RY := Lib.hid ry; clear hb ry)
            | (go_at_call 69; (with_reducible refine (rcommon_l (l := lz) A C n cA k cC a c _ hn hk (H1.out.keep K2.out) (H3.out.keep K2.out) VZ.out LZ.out).mono ?_); rintro e w3 ⟨hb, DZ, dz, rfl, rz⟩; have B3 := Lib.hid (B2.out.trans (hb.mono B2.out.size)); have K3 := Lib.hid (Keeps.of_below B3.out (Nat.le_refl _)); have RX3 := Lib.hid (RX2.out.keep (Keeps.of_below hb (Nat.le_refl _))); have RY3 := Lib.hid (RY.out.keep (Keeps.of_below hb (Nat.le_refl _))); have RZ3 := Lib.hid rz; clear hb rz)
            | fail)
          have cA1 := call_q (w := w3) (fun w' hw => points36_any A n cA a w' (by omega) (H1.out.keep (K3.out.trans hw)))
          have cB1 := call_q (w := w3) (fun w' hw => points36_any B m cB b w' (by omega) (H2.out.keep (K3.out.trans hw)))
          have cC1 := call_q (w := w3) (fun w' hw => points36_any C k cC c w' (by omega) (H3.out.keep (K3.out.trans hw)))
          rw [U1.out] at cA1
          rw [U2.out] at cB1
          rw [U3.out] at cC1
          refine wp_region_q (by kernel_rfl) (by kernel_rfl) ?_
          repeat (go_big_quiet_step (first | with_reducible exact cA1 _ _ | with_reducible exact cB1 _ _ | with_reducible exact cC1 _ _))
          refine wpQuiet_nil ?_
          intro wq hgq
          go_wp2_with fail
          refine bodyPost_ret (v := mgR (0, 0, 0, false)) (by simp [mgR, results, Tryz.results41, go_sem]) rfl ⟨?_, (B3.out.trans (hgq.mono B3.out.size))⟩
          exact EV.out _ (by rw [MV.out]; simp [n_lx])
end Go.Proofs.YtcpkdnhpelkeoaaGreat

