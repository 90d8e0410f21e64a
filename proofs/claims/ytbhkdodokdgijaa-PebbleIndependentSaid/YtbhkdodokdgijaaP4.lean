/-
  (*pebble.game).gather: pebbles are fetched to both ends of an edge.
-/
import Derived.Test.YtbhkdodokdgijaaP3
import Derived.Deep.OwnRows
namespace Go.Proofs.Ytbhkdodokdgijaa
set_option linter.unusedVariables false
set_option linter.unusedSimpArgs false
open Go.RowKit Go.Sort

theorem fetch_any {n : Nat} (hn : n ≤ 60) (u : Nat) : FetchAt n u := by
  induction u using Nat.strongRecOn with
  | _ u ih => exact fetch_step n u hn ih

theorem info_bool : (Try.prog.info? 4).map (fun i => (i.zero, i.size, i.bytes)) = some (some (.bool false), 1, 1) := by kernel_rfl
theorem own_madeB {w : World} {b base : Nat} (hb : w.heap.size = b) (n : Nat) (hn : n ≤ maxLen) (hbase : base ≤ b) : Own (w.alloc (.cells (madeCells #[.bool false] n) 4)) base 4 1 (some ⟨b, 0, none⟩) n n (bools (List.replicate n false)) := by
  subst hb
  have h := World.ownsRow_lit (base := base) (e := 4) (size := 1) w (madeCells #[.bool false] n) n hbase hn (by simp [madeCells])
  have e : (madeCells #[.bool false] n).toList = bools (List.replicate n false) := by
    apply List.ext_getElem
    · simp [madeCells, bools]
    · intro i h1 h2; simp [madeCells, bools, Nat.mod_one]
  rw [e] at h
  exact h
theorem own_madeB1 {w : World} {b base : Nat} (hb : w.heap.size = b) (n y : Nat) (hn : n ≤ maxLen) (hbase : base ≤ b) : Own (w.alloc (.cells ((madeCells #[.bool false] n).setIfInBounds y (.bool true)) 4)) base 4 1 (some ⟨b, 0, none⟩) n n (bools ((List.replicate n false).set y true)) := by
  subst hb
  have h := World.ownsRow_lit (base := base) (e := 4) (size := 1) w ((madeCells #[.bool false] n).setIfInBounds y (.bool true)) n hbase hn (by simp [madeCells])
  have e : ((madeCells #[.bool false] n).setIfInBounds y (.bool true)).toList = bools ((List.replicate n false).set y true) := by
    have e0 : (madeCells #[.bool false] n).toList = bools (List.replicate n false) := by
      apply List.ext_getElem
      · simp [madeCells, bools]
      · intro i h1 h2; simp [madeCells, bools, Nat.mod_one]
    rw [Array.toList_setIfInBounds, e0]
    simp [bools, List.map_set]
  rw [e] at h
  exact h
/-- A step that begins by a new block, which alone is written besides the game. -/
theorem step_new {w w' : World} {o : Obj} {go : Nat} {hs hs' : List (Option Addr × Nat)} (h : GStep (fun k => k = w.heap.size) (w.alloc o) w' go hs hs') : GStep (fun _ => False) w w' go hs hs' := by
  have h0 : w.heap.size < (w.alloc o).heap.size := by simp
  exact ⟨(Fr.alloc w o).trans h.fr (fun i hi hi' => hi'.imp id (fun e => by omega)), fun k hk hf => h.ft k (by omega) hf⟩
def Prog (n : Nat) (out : List (List Int)) (a b : Nat) : Nat → List (List Int) → Prop
  | 0, o => o = out
  | 1, o => GLoop n out a b o
  | _ + 2, o => ∃ m, GLoop n out a b m ∧ GLoop n m b a o
def GPost (w : World) (base b go n c : Nat) (hs : List (Option Addr × Nat)) (out : List (List Int)) (p q : Nat) (e : Ending) (w' : World) : Prop :=
  ∃ out1 out2 hs2, GLoop n out p q out1 ∧ GLoop n out1 q p out2 ∧ e = .returned (.int .i64 (4 - ((rowOf out2 p).length : Int) - ((rowOf out2 q).length : Int))) ∧ GM w' base b go n c hs2 out2 ∧ GStep (fun _ => False) w w' go hs hs2

set_option maxRecDepth 100000 in
set_option maxHeartbeats 8000000 in
theorem gather_any (w : World) (base b go n c : Nat) (hs : List (Option Addr × Nat)) (out : List (List Int)) (p q : Nat) (hn : n ≤ 60) (hg : GM w base b go n c hs out) (hgs : GS n out) (hp : p < n) (hq : q < n) (hpq : p ≠ q) :
    Calls Try.prog 52 #[.pointer (some ⟨b, 0, none⟩), .int .i64 p, .int .i64 q] w (GPost w base b go n c hs out p q) := by
  have HG := Lib.hid hg
  have HGS := Lib.hid hgs
  have hbw : b < w.heap.size := hg.lt
  have hbb := hg.lo
  have hmk := run_make_row' (P := Try.prog) 62 4 (.bool false) 1 Try.underlying62 info_bool rfl .i64 .i64 n (by omega) (by omega)
  clear hg hgs
  go_enter Try.func52, Try.ntmps52
  go_wp2_with fail
  go_loopg [8, 9, 18] 2 (fun k _ _ t wr => ∃ (i : Nat) (hs1 : List (Option Addr × Nat)) (out1 : List (List Int)), t = .int .i64 i ∧ i ≤ 2 ∧ k = 2 - i ∧ Prog n out p q i out1 ∧ GS n out1 ∧ GM wr base b go n c hs1 out1 ∧ GStep (fun _ => False) (w.alloc (.cells #[.int .i64 (p : Int), .int .i64 (q : Int), .int .i64 (q : Int), .int .i64 (p : Int)] 45)) wr go hs hs1)
  case atStart => exact ⟨0, hs, out, rfl, by omega, rfl, rfl, HGS.out, HG.out.later ((Below.refl _ _).alloc (Nat.le_refl _) _), GStep.refl _ _ _ _⟩
  case round =>
    obtain ⟨i, hs1, out1, rfl, hi, rfl, hpr, hgs1, hg1, hst⟩ := hrel
    have HPR := Lib.hid hpr
    have HGS1 := Lib.hid hgs1
    have HG1 := Lib.hid hg1
    have HST := Lib.hid hst
    have hbw1 := hg1.lt
    have nlit : ¬ Ft go hs w.heap.size := fun h => by have := (HG.out.om.ft (A := none) h).2.1; omega
    have hsz := hst.fr.size
    simp at hsz
    have lits : ∀ j : Nat, wr.cell? ⟨w.heap.size, j, none⟩ = (#[.int .i64 (p : Int), .int .i64 (q : Int), .int .i64 (q : Int), .int .i64 (p : Int)] : Array Value)[j]? := fun j => by
      rw [World.cell?_of_block (hst.fr.block w.heap.size (by simp) (fun h => h.elim nlit id))]; simp
    clear hpr hgs1 hg1 hst nlit
    by_cases hi2 : i < 2
    · obtain ⟨x, y, hx, hy, hxy, c0, c1, hnext⟩ : ∃ x y : Nat, x < n ∧ y < n ∧ x ≠ y ∧ wr.cell? ⟨w.heap.size, i * 2, none⟩ = some (.int .i64 (x : Int)) ∧ wr.cell? ⟨w.heap.size, i * 2 + 1, none⟩ = some (.int .i64 (y : Int)) ∧ ∀ o, GLoop n out1 x y o → Prog n out p q (i + 1) o := by
        rcases (show i = 0 ∨ i = 1 by omega) with rfl | rfl
        · refine ⟨p, q, hp, hq, hpq, by rw [lits]; rfl, by rw [lits]; rfl, fun o ho => ?_⟩
          have : out1 = out := HPR.out
          rw [this] at ho; exact ho
        · exact ⟨q, p, hq, hp, Ne.symm hpq, by rw [lits]; rfl, by rw [lits]; rfl, fun o ho => ⟨out1, HPR.out, ho⟩⟩
      have HN := Lib.hid hnext
      have i0 : (0 : Int) ≤ (i : Int) := by omega
      have i1 : (i : Int) < 2 := by omega
      have x0 : (0 : Int) ≤ (x : Int) := by omega
      have x1 : (x : Int) < (n : Int) := by omega
      have y0 : (0 : Int) ≤ (y : Int) := by omega
      have y1 : (y : Int) < (n : Int) := by omega
      have HB1 : Hid (base ≤ wr.heap.size) := Lib.hid (by omega)
      clear lits hnext
      go_wp2_with fail
      go_loopg [9] (rowOf out1 x).length (fun k _ wi => ∃ (hs2 : List (Option Addr × Nat)) (out2 : List (List Int)), k = (rowOf out2 x).length ∧ GS n out2 ∧ GM wi base b go n c hs2 out2 ∧ GStep (fun _ => False) (wr.alloc (.cells #[.int .i64 (x : Int), .int .i64 (y : Int)] 45)) wi go hs1 hs2 ∧ ∀ o, GLoop n out2 x y o → GLoop n out1 x y o)
      case atStart => exact ⟨hs1, out1, rfl, HGS1.out, HG1.out.later ((Below.refl _ _).alloc (Nat.le_refl _) _), GStep.refl _ _ _ _, fun _ h => h⟩
      case round =>
        obtain ⟨hs2, out2, rfl, hgs2, hg2, hst2, hct⟩ := hrel
        have HGS2 := Lib.hid hgs2
        have HG2 := Lib.hid hg2
        have HST2 := Lib.hid hst2
        have HCT := Lib.hid hct
        rename World => wi
        have hsz2 := hst2.fr.size
        simp at hsz2
        have nvar : ¬ Ft go hs1 wr.heap.size := fun h => by have := (HG1.out.om.ft (A := none) h).2.1; omega
        have vars : ∀ j : Nat, wi.cell? ⟨wr.heap.size, j, none⟩ = (#[.int .i64 (x : Int), .int .i64 (y : Int)] : Array Value)[j]? := fun j => by
          rw [World.cell?_of_block (hst2.fr.block wr.heap.size (by simp) (fun h => h.elim nvar id))]; simp
        have v0 : wi.cell? ⟨wr.heap.size, 0, none⟩ = some (.int .i64 (x : Int)) := by rw [vars]; rfl
        have v1 : wi.cell? ⟨wr.heap.size, 1, none⟩ = some (.int .i64 (y : Int)) := by rw [vars]; rfl
        have cb2 := hg2.cell
        have hm2 := hgs2.two x
        obtain ⟨hdx, hhx, -, crx, orx⟩ := hg2.row_at hx
        generalize hlm : (rowOf out2 x).length = m at crx hm2
        have HLM := Lib.hid hlm
        clear hgs2 hg2 hst2 hct nvar vars hhx orx hlm
        by_cases hz : m = 0
        · subst hz
          go_wp2_with (first
            | (go_at_call 61; refine (free_any b go n c x _ 0 _ 2 _ cb2 crx hx hm2 rfl).mono ?_; rintro e w5 ⟨rfl, rfl⟩)
            | fail)
          go_roundg (2 - (i + 1))
          case measure => omega
          case rel => exact ⟨i + 1, hs2, out2, by go_num, by omega, rfl, HN.out _ (HCT.out _ (.full (List.eq_nil_of_length_eq_zero HLM.out))), HGS2.out, HG2.out, HST.out.trans ((GStep.of_below ((Below.refl _ _).alloc (Nat.le_refl _) _)).trans HST2.out)⟩
        · obtain ⟨f, hf, hf0⟩ : ∃ f : Int, 2 - (m : Int) = f ∧ f < 2 := ⟨_, rfl, by omega⟩
          have HF := Lib.hid hf
          clear hf
          have ccb : (wi.alloc (.cells (madeCells #[.bool false] n) 4)).cell? ⟨wr.heap.size, 1, none⟩ = some (.int .i64 (y : Int)) := Keeps.alloc wi _ _ _ v1
          have cca : (wi.alloc (.cells ((madeCells #[.bool false] n).setIfInBounds y (.bool true)) 4)).cell? ⟨wr.heap.size, 0, none⟩ = some (.int .i64 (x : Int)) := Keeps.alloc wi _ _ _ v0
          have cvm : (wi.alloc (.cells (madeCells #[.bool false] n) 4)).cell? ⟨wi.heap.size, y, none⟩ = some (.bool false) := by
            rw [(own_madeB (w := wi) (base := 0) rfl n (by unfold maxLen; omega) (Nat.zero_le _)).cellB hy, visB_none]
          have fvm : (wi.alloc (.cells (madeCells #[.bool false] n) 4)).frozen? ⟨wi.heap.size, y, none⟩ = false := (own_madeB (w := wi) (base := 0) rfl n (by unfold maxLen; omega) (Nat.zero_le _)).frozen y
          have hbi : base ≤ wi.heap.size := by have := HB1.out; omega
          have HFE := Lib.hid (fetch_any hn n (wi.alloc (.cells ((madeCells #[.bool false] n).setIfInBounds y (.bool true)) 4)) base b go c hs2 out2 wi.heap.size ((List.replicate n false).set y true) x (by omega) (HG2.out.later ((Below.refl _ _).alloc (Nat.le_refl _) _)) HGS2.out (own_madeB1 rfl n y (by unfold maxLen; omega) hbi) hx (by simp; omega))
          go_wp2_with (first
            | (go_at_call 61; refine (free_any b go n c x _ m _ f _ cb2 crx hx hm2 HF.out).mono ?_; rintro e w5 ⟨rfl, rfl⟩)
            | (go_at_call 62; refine HFE.out.mono ?_; rintro e w6 ⟨r, out6, vis6, hs6, hfl, rfl, hg6, hv6, hst6, hsame⟩; have R6 := Lib.hid (And.intro hfl (And.intro hg6 (And.intro hst6 hsame))); clear hfl hg6 hv6 hst6 hsame; cases r)
            | fail)
          · obtain ⟨hfl, hg6, hst6, hsame⟩ := R6.out
            obtain ⟨rfl, -, -⟩ := hfl.no HGS2.out.w (by simp) rfl
            obtain rfl := hsame (by simp)
            have hne : rowOf out6 x ≠ [] := fun e => by have := HLM.out; rw [e] at this; simp at this; omega
            go_roundg (2 - (i + 1))
            case measure => omega
            case rel => exact ⟨i + 1, hs6, out6, by go_num, by omega, rfl, HN.out _ (HCT.out _ (.fail hne hfl)), HGS2.out, hg6, HST.out.trans ((GStep.of_below ((Below.refl _ _).alloc (Nat.le_refl _) _)).trans (HST2.out.trans (step_new hst6)))⟩
          · obtain ⟨hfl, hg6, hst6, hsame⟩ := R6.out
            have hne : rowOf out2 x ≠ [] := fun e => by have := HLM.out; rw [e] at this; simp at this; omega
            obtain ⟨k1, k2, k3, k4, k5⟩ := hfl.yes HGS2.out (by simp) hx (by rw [visB_set _ _ _ (by simp; exact hx)]; simp) rfl
            go_roundg (rowOf out6 x).length
            case measure => have := HLM.out; omega
            case rel => exact ⟨hs6, out6, rfl, HGS2.out.of_yes k1 k3 k4, hg6, HST2.out.trans (step_new hst6), fun o ho => HCT.out o (.step hne hfl ho)⟩
    · obtain rfl : i = 2 := by omega
      obtain ⟨out0, l1, l2⟩ := HPR.out
      have cb1 := HG1.out.cell
      obtain ⟨hdp, -, -, crp, -⟩ := HG1.out.row_at hp
      obtain ⟨hdq, -, -, crq, -⟩ := HG1.out.row_at hq
      have hp2 := HGS1.out.two p
      have hq2 := HGS1.out.two q
      generalize hlp : (rowOf out1 p).length = mp at crp hp2
      generalize hlq : (rowOf out1 q).length = mq at crq hq2
      have HLP := Lib.hid hlp
      have HLQ := Lib.hid hlq
      obtain ⟨fp, hfp, hfp0, hfp1⟩ : ∃ f : Int, 2 - (mp : Int) = f ∧ 0 ≤ f ∧ f ≤ 2 := ⟨_, rfl, by omega, by omega⟩
      obtain ⟨fq, hfq, hfq0, hfq1⟩ : ∃ f : Int, 2 - (mq : Int) = f ∧ 0 ≤ f ∧ f ≤ 2 := ⟨_, rfl, by omega, by omega⟩
      have HFP := Lib.hid hfp
      have HFQ := Lib.hid hfq
      clear lits hlp hlq hfp hfq
      go_wp2_with (first
        | (go_at_call 61; (with_reducible refine (free_any b go n c p _ mp _ fp _ cb1 crp hp hp2 HFP.out).mono ?_); rintro e w5 ⟨rfl, rfl⟩)
        | (go_at_call 61; (with_reducible refine (free_any b go n c q _ mq _ fq _ cb1 crq hq hq2 HFQ.out).mono ?_); rintro e w6 ⟨rfl, rfl⟩)
        | fail)
      go_ret
      refine ⟨out0, out1, hs1, l1, l2, ret_int ?_, HG1.out, (GStep.of_below ((Below.refl _ _).alloc (Nat.le_refl _) _)).trans HST.out⟩
      rw [HLP.out, HLQ.out, ← HFP.out, ← HFQ.out]; omega
end Go.Proofs.Ytbhkdodokdgijaa
