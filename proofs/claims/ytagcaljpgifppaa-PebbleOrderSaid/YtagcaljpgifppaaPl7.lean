/-
  PebbleOrder: the walk of the statement.
-/
import Derived.Test.YtagcaljpgifppaaPl4
import Derived.Test.YtagcaljpgifppaaPm
import Derived.Test.YtagcaljpgifppaaOpenC
namespace Go.Proofs.Ytagcaljpgifppaa
set_option linter.unusedVariables false
set_option linter.unusedSimpArgs false
open Go.RowKit Go.Sort
attribute [local go_sem ↓] Go.wp_at_zero Go.wp_at_succ

theorem perm_of_id {n : Nat} {ps : List Int} (hl : ps.length = n) (h : ∀ j, j < n → ps.getD j 0 = j) : PermL n ps := by
  have : ps = (List.range n).map fun (i : Nat) => (i : Int) := by
    apply List.ext_getElem
    · simp [hl]
    · intro i h1 h2
      have := h i (by omega)
      rw [List.getD_eq_getElem?_getD, List.getElem?_eq_getElem h1] at this
      simpa using this
  rw [this]; exact PermL.start n
theorem getD_set_eq {l : List Int} {i j : Nat} {x : Int} (hi : i < l.length) : (l.set i x).getD j 0 = if j = i then x else l.getD j 0 := by
  rw [List.getD_eq_getElem?_getD, List.getElem?_set]
  by_cases e : j = i
  · subst e; simp [hi]
  · rw [if_neg (Ne.symm e), if_neg e, List.getD_eq_getElem?_getD]
theorem mkE_prm {n : Nat} {p : List Int} {es : List (Int × Int)} (hn : n ≤ 60) (hv : validB n es = true) (h : PermL n p) : mkE n (prmL p es) = some (mkL n (prmL p es)) := by
  have hE := valid_ends hv
  have hb := h.bij hn
  refine mkE_yes hn (fun j hj => ?_)
  have hm : (prmL p es).getD j (0, 0) ∈ prmL p es := by rw [List.getD_eq_getElem?_getD, List.getElem?_eq_getElem hj]; exact List.getElem_mem _
  have : ∀ e ∈ prmL p es, okP n e.1 e.2 = true := fun e he => by
    unfold prmL at he
    obtain ⟨x, hx, rfl⟩ := List.mem_map.1 he
    have hx' := hE x hx
    have h1 := h.at (i := x.1.toNat) (by omega)
    have h2 := h.at (i := x.2.toNat) (by omega)
    have h3 : p.getD x.1.toNat 0 ≠ p.getD x.2.toNat 0 := fun e => by
      have a := (hb x.1.toNat (by omega)).2.2.2
      have b := (hb x.2.toNat (by omega)).2.2.2
      have es : sgm n p x.1.toNat = sgm n p x.2.toNat := by unfold sgm; rw [if_pos (by omega), if_pos (by omega), e]
      rw [es, b] at a
      omega
    unfold okP
    simp only
    rw [decide_eq_true h1.1, decide_eq_true h2.1, decide_eq_true h1.2, decide_eq_true h2.2]
    simpa using h3
  exact this _ hm
set_option maxRecDepth 100000 in
set_option maxHeartbeats 8000000 in
theorem law_po_try (n : Nat) (N : Int) (hN : N = n) (A S : Option Addr) (m c k d : Nat) (es : List (Int × Int)) (sw : List Int) (w : World) (D1 : Hid ((decide (N ≤ 8) && decide ((m : Int) ≤ 20)) = true)) (hm : m ≤ 20) (hk : k ≤ 20) (H0 : Hid (Rd w 2 A m (prs es))) (HS : Hid (Rd w 1 S k (u8s sw))) (HU : Hid (∀ x ∈ sw, 0 ≤ x ∧ x ≤ 255)) (HV : Hid (validB N es = true)) (h8 : N ≤ 8) :
    Calls Try.prog 4 #[.agg #[.int .i64 N, .slice A m c], .slice S k d] w fun e w' => e = .returned (.bool true) ∧ Below w.heap.size w w' := by
  have X0 : Hid (BX w N A m c (w.alloc (.cells #[.int .i64 N, .slice A m c] 24))) := Lib.hid BX.start
  have d20 : decide ((20 : Int) < (k : Int)) = false := decide_eq_false (by omega)
  have hn8 : n ≤ 8 := by omega
  subst hN
  have hmkI := run_make_row' (P := Try.prog) 27 3 (.int .i64 0) 8 Try.underlying27 info_int' rfl .i64 .i64 n (by omega) (by omega)
  go_enter Try.func4, Try.ntmps4
  go_wp2_with fail
  refine (awake_any _).mono ?_
  rintro e w1 ⟨rfl, hb⟩
  have X1 := Lib.hid (X0.out.next hb)
  obtain ⟨hz1, p0, p1⟩ := X1.out.facts
  clear hb
  go_wp2_with fail
  refine (few_b (b := true) n A m c _ D1.out).mono ?_
  rintro e w2 ⟨rfl, hb⟩
  have X2 := Lib.hid (X1.out.next hb)
  obtain ⟨hz1, p0, p1⟩ := X2.out.facts
  clear hb
  go_wp2_with fail
  refine (rvalid_b (b := true) n A m c es _ (by omega) (H0.out.keep X2.out.keeps) HV.out).mono ?_
  rintro e w3 ⟨rfl, hb⟩
  have X3 := Lib.hid (X2.out.next hb)
  obtain ⟨hz1, p0, p1⟩ := X3.out.facts
  clear hb
  go_wp2_with fail
  go_loopg [35] n (fun g t wr => ∃ (i : Nat) (ps : List Int), i ≤ n ∧ g = n - i ∧ t = .int .i64 i ∧ Own wr w3.heap.size 3 1 (some ⟨w3.heap.size, 0, none⟩) n n (ints ps) ∧ (∀ j, j < i → ps.getD j 0 = (j : Int)) ∧ Below w3.heap.size w3 wr ∧ w3.heap.size < wr.heap.size)
  case atStart => exact ⟨0, List.replicate n 0, by omega, rfl, rfl, own_madeI rfl n (by unfold maxLen; omega) (Nat.le_refl _), by omega, (Below.refl _ _).alloc (Nat.le_refl _) _, by simp⟩
  case round =>
    obtain ⟨i, ps, hi, rfl, rfl, ho, hid, hb, hzr⟩ := hrel
    have HO := Lib.hid ho
    have HID := Lib.hid hid
    have HB := Lib.hid hb
    have X4 := Lib.hid (X3.out.next hb)
    obtain ⟨hz4, p0, p1⟩ := X4.out.facts
    have hpl := ho.len
    rw [ints_length] at hpl
    clear ho hid hb
    by_cases hlt : i < n
    · have cc := HO.out.cell hlt
      have fc := HO.out.frozen i
      have NX : Hid (∀ j, j < i + 1 → (ps.set i (i : Int)).getD j 0 = (j : Int)) := Lib.hid (fun j hj => by
        rw [getD_set_eq (by omega)]
        by_cases e : j = i
        · rw [if_pos e, e]
        · rw [if_neg e]; exact HID.out j (by omega))
      go_wp2_with fail
      go_roundg (n - (i + 1))
      case measure => omega
      case rel => exact ⟨i + 1, ps.set i (i : Int), by omega, rfl, by go_num, HO.out.store i _, NX.out, HB.out.setCell (by simp) _, by simp; exact hzr⟩
    · obtain rfl : i = n := by omega
      have PM : Hid (PermL i ps) := Lib.hid (perm_of_id (by omega) HID.out)
      clear HID
      go_wp2_with fail
      go_loopg [45] k (fun g t wt => ∃ (j : Nat) (qs : List Int), j ≤ k ∧ g = k - j ∧ t = .int .i64 j ∧ Own wt w3.heap.size 3 1 (some ⟨w3.heap.size, 0, none⟩) i i (ints qs) ∧ PermL i qs ∧ Below w3.heap.size w3 wt ∧ w3.heap.size < wt.heap.size)
      case atStart => exact ⟨0, ps, by omega, rfl, rfl, HO.out, PM.out, HB.out, hzr⟩
      case round =>
        obtain ⟨j, qs, hj, rfl, rfl, ho, hpm, hb, hzt⟩ := hrel
        rename World => wt
        have HO2 := Lib.hid ho
        have PM2 := Lib.hid hpm
        have HB2 := Lib.hid hb
        have X5 := Lib.hid (X3.out.next hb)
        obtain ⟨hz5, p0, p1⟩ := X5.out.facts
        clear ho hpm hb
        by_cases hjt : j < k
        · obtain ⟨aw, rfl, -, cs⟩ := (HS.out.keep X5.out.keeps).u8_at hjt
          have hub : 0 ≤ sw.getD j 0 ∧ sw.getD j 0 ≤ 255 := by
            have hl := HS.out.1
            rw [u8s_length] at hl
            exact HU.out _ (mem_getD (by omega))
          generalize sw.getD j 0 = u at cs hub
          obtain ⟨hu0, hu1⟩ := hub
          by_cases hi0 : i = 0
          · have d0 : decide ((0 : Int) < (i : Int)) = false := decide_eq_false (by omega)
            have d0' : decide (0 < i) = false := decide_eq_false (by omega)
            go_wp2_with fail
            go_roundg (k - (j + 1))
            case measure => omega
            case rel => exact ⟨j + 1, qs, by omega, rfl, by go_num, HO2.out, PM2.out, HB2.out, hzt⟩
          · have d0' : decide (0 < i) = true := decide_eq_true (by omega)
            have g0 := grown_cell p0
            obtain ⟨xa, hxa⟩ : ∃ xa : Nat, (j : Int) % (i : Int) = xa := ⟨j % i, by omega⟩
            have hxal : xa < i := by have := Nat.mod_lt j (show 0 < i by omega); omega
            obtain ⟨xb, hxb⟩ : ∃ xb : Nat, u % (i : Int) = xb := ⟨(u % (i : Int)).toNat, by have := Int.emod_nonneg u (show (i : Int) ≠ 0 by omega); omega⟩
            have hxbl : xb < i := by have := Int.emod_lt_of_pos u (show (0 : Int) < (i : Int) by omega); omega
            go_wp2_with fail
            refine wp_region_q (by kernel_rfl) (by kernel_rfl) ?_
            repeat (go_big_quiet_step (fail))
            refine wpQuiet_nil ?_
            intro wq hgq
            have HO3 := Lib.hid (HO2.out.later hgq)
            have HB3 := Lib.hid (HB2.out.trans (hgq.mono HB2.out.size))
            have hz6 := hgq.size
            clear hgq
            have SWP := Lib.hid (PM2.out.swap hxal hxbl)
            have qa := HO3.out.cell hxal
            have qb := HO3.out.cell hxbl
            generalize hva : qs.getD xa 0 = va at qa SWP
            generalize hvb : qs.getD xb 0 = vb at qb SWP
            have VA := Lib.hid hva
            have VB := Lib.hid hvb
            clear hva hvb
            have fa := HO3.out.frozen xa
            have fb := HO3.out.frozen xb
            have HO5 := Lib.hid (HO3.out.store xa vb)
            have rc := HO5.out.cell hxbl
            have fc := HO5.out.frozen xb
            have i0 : (0 : Int) ≤ (xa : Int) := by omega
            have i1 : (xa : Int) < (i : Int) := by omega
            have i2 : (0 : Int) ≤ (xb : Int) := by omega
            have i3 : (xb : Int) < (i : Int) := by omega
            go_wp2_with fail
            go_region_law (fail)
            all_goals
             go_wp2_with fail
             go_roundg (k - (j + 1))
             case measure => omega
             case rel => exact ⟨j + 1, _, by omega, rfl, by go_num, (HO5.out.store xb va).drew', SWP.out, ((HB3.out.setCell (by simp) _).setCell (by simp) _).drew, by show w3.heap.size < ((wq.setCell _ _).setCell _ _).heap.size; simp; omega⟩
        · obtain rfl : j = k := by omega
          have HPS := Lib.hid HO2.out.rd
          have hv : validB (i : Int) es = true := HV.out
          have hmk := mkE_prm (n := i) (by omega) hv PM2.out
          have hv2 : validB (i : Int) (mkL i (prmL qs es)) = true := mkL_valid' (by omega)
          have hrk := order_rank (n := i) (by omega) hv PM2.out
          have hrd := order_red (n := i) (by omega) hv PM2.out
          have hF0 := free_eq hv rfl
          have hF1 := free_eq hv2 hrk
          have hR0 := rigid_eq hv rfl
          have hR1 := rigid_eq hv2 hrk
          have hlen := uptoK_len (prmL qs es) i i
          have h64 : i * i ≤ 8 * 8 := Nat.mul_le_mul hn8 hn8
          change (mkL i (prmL qs es)).length ≤ i * i at hlen
          have hok := ok_of_valid hv
          generalize mkL i (prmL qs es) = l at hmk hv2 hrk hrd hF1 hR1 hlen
          generalize hq : l.length = q at hlen
          generalize rankE es = rk at hF0 hF1 hR0 hR1
          generalize rigid34 i rk = rg at hR0 hR1
          generalize hr0 : (redE i es).length = r at hrd
          have hq100 : q ≤ 100 := by omega
          have PMC : Hid (∀ w', Rd w' 2 A m (prs es) → Rd w' 1 (some ⟨w3.heap.size, 0, none⟩) i (ints qs) → Calls Try.prog 21 #[.agg #[.int .i64 (i : Int), .slice A m c], .slice (some ⟨w3.heap.size, 0, none⟩) i i] w' (PmPost w' i q l)) := Lib.hid fun w' h h' => rperm34_any i q i A _ m c i es l qs w' (by omega) (by omega) h h' hok hmk hq
          unfold PmPost at PMC
          have PF0 : Hid (∀ w', Rd w' 2 A m (prs es) → Calls Try.prog 22 #[.agg #[.int .i64 (i : Int), .slice A m c]] w' fun e w'' => e = .returned (.int .i64 (2 * (i : Int) - (rk : Int))) ∧ Below w'.heap.size w' w'') := Lib.hid fun w' h => pfree_b _ i A m c es w' (by omega) h hF0
          have PF1 : Hid (∀ B d w', Rd w' 2 B q (prs l) → Calls Try.prog 22 #[.agg #[.int .i64 (i : Int), .slice B q d]] w' fun e w'' => e = .returned (.int .i64 (2 * (i : Int) - (rk : Int))) ∧ Below w'.heap.size w' w'') := Lib.hid fun B d w' h => pfree_b _ i B q d l w' (by omega) h hF1
          have PR0 : Hid (∀ w', Rd w' 2 A m (prs es) → Calls Try.prog 23 #[.agg #[.int .i64 (i : Int), .slice A m c]] w' fun e w'' => e = .returned (.bool rg) ∧ Below w'.heap.size w' w'') := Lib.hid fun w' h => prigid_b i A m c es w' (by omega) h hR0
          have PR1 : Hid (∀ B d w', Rd w' 2 B q (prs l) → Calls Try.prog 23 #[.agg #[.int .i64 (i : Int), .slice B q d]] w' fun e w'' => e = .returned (.bool rg) ∧ Below w'.heap.size w' w'') := Lib.hid fun B d w' h => prigid_b i B q d l w' (by omega) h hR1
          have PD0 : Hid (∀ w', Rd w' 2 A m (prs es) → Calls Try.prog 18 #[.agg #[.int .i64 (i : Int), .slice A m c]] w' fun e w'' => Below w'.heap.size w' w'' ∧ ∃ B d, e = .returned (.slice B r d)) := Lib.hid fun w' h => (pred_l _ r A m c es w' (by omega) h rfl hr0).mono (fun e w'' hh => ⟨hh.1, by obtain ⟨-, B, d, h1, -⟩ := hh; exact ⟨B, d, h1⟩⟩)
          have PD1 : Hid (∀ B d w', Rd w' 2 B q (prs l) → Calls Try.prog 18 #[.agg #[.int .i64 (i : Int), .slice B q d]] w' fun e w'' => Below w'.heap.size w' w'' ∧ ∃ B d, e = .returned (.slice B r d)) := Lib.hid fun B d w' h => (pred_l _ r B q d l w' (by omega) h rfl hrd).mono (fun e w'' hh => ⟨hh.1, by obtain ⟨-, B, d, h1, -⟩ := hh; exact ⟨B, d, h1⟩⟩)
          clear hv hmk hv2 hrk hrd hF0 hF1 hR0 hR1 hok hq hr0 hlen h64
          go_wp2_with fail
          refine (PMC.out _ (H0.out.keep X5.out.keeps) HPS.out).mono ?_
          rintro e w6 ⟨hb, B6, d6, rfl, hr⟩
          have X6 := Lib.hid (X5.out.next hb)
          have R6 := Lib.hid hr
          obtain ⟨hz6, p0, p1⟩ := X6.out.facts
          clear hb hr
          go_wp2_with fail
          have X7 : Hid (BX w i A m c (w6.alloc (.cells #[.int .i64 (i : Int), .slice B6 q d6] 24))) := Lib.hid (X6.out.next ((Below.refl _ _).alloc (Nat.le_refl _) _))
          have R7 := Lib.hid (R6.out.keep (Keeps.alloc w6 (.cells #[.int .i64 (i : Int), .slice B6 q d6] 24)))
          have g0 : (w6.alloc (.cells #[.int .i64 (i : Int), .slice B6 q d6] 24)).cell? ⟨w6.heap.size, 0, none⟩ = some (.int .i64 (i : Int)) := by simp
          have g1 : (w6.alloc (.cells #[.int .i64 (i : Int), .slice B6 q d6] 24)).cell? ⟨w6.heap.size, 1, none⟩ = some (.slice B6 q d6) := by simp
          obtain ⟨hz7, p0, p1⟩ := X7.out.facts
          generalize w6.alloc (.cells #[.int .i64 (i : Int), .slice B6 q d6] 24) = w7 at *
          have p0r := p0
          have p1r := p1
          have g0r := g0
          have g1r := g1
          have n0 := World.new_ne w7 _ p1
          have n1 := World.new_ne w7 _ g1
          have BC : Hid (Below w7.heap.size w7 w7.drew) := Lib.hid (Below.refl _ _).drew
          have KC : Hid (Keeps w7 w7.drew) := Lib.hid (Keeps.drew _)
          go_region_held3 (fun w' => w'.cell? ⟨w.heap.size, 0, none⟩ = some (.int .i64 (i : Int)) ∧ w'.cell? ⟨w.heap.size, 1, none⟩ = some (.slice A m c) ∧ w'.cell? ⟨w6.heap.size, 0, none⟩ = some (.int .i64 (i : Int)) ∧ w'.cell? ⟨w6.heap.size, 1, none⟩ = some (.slice B6 q d6)) (first | exact ⟨p0, p1, g0, g1⟩ | go_keep)
            ((first
              | (go_at_call 22; (with_reducible refine (PF1.out B6 d6 _ (R7.out.keep KC.out)).mono ?_); rintro e wx ⟨rfl, hb⟩; have BC : Hid (Below w7.heap.size w7 wx) := Lib.hid (BC.out.trans (hb.mono BC.out.size)); have KC := Lib.hid (Keeps.of_below BC.out (Nat.le_refl _)); have p0 := KC.out _ _ p0r; have p1 := KC.out _ _ p1r; have g0 := KC.out _ _ g0r; have g1 := KC.out _ _ g1r; have n0 := World.new_ne wx _ p1; have n1 := World.new_ne wx _ g1; clear hb)
              | (go_at_call 22; (with_reducible refine (PF0.out _ (H0.out.keep (X7.out.keeps.trans KC.out))).mono ?_); rintro e wx ⟨rfl, hb⟩; have BC : Hid (Below w7.heap.size w7 wx) := Lib.hid (BC.out.trans (hb.mono BC.out.size)); have KC := Lib.hid (Keeps.of_below BC.out (Nat.le_refl _)); have p0 := KC.out _ _ p0r; have p1 := KC.out _ _ p1r; have g0 := KC.out _ _ g0r; have g1 := KC.out _ _ g1r; have n0 := World.new_ne wx _ p1; have n1 := World.new_ne wx _ g1; clear hb)
              | (go_at_call 23; (with_reducible refine (PR1.out B6 d6 _ (R7.out.keep KC.out)).mono ?_); rintro e wx ⟨rfl, hb⟩; have BC : Hid (Below w7.heap.size w7 wx) := Lib.hid (BC.out.trans (hb.mono BC.out.size)); have KC := Lib.hid (Keeps.of_below BC.out (Nat.le_refl _)); have p0 := KC.out _ _ p0r; have p1 := KC.out _ _ p1r; have g0 := KC.out _ _ g0r; have g1 := KC.out _ _ g1r; have n0 := World.new_ne wx _ p1; have n1 := World.new_ne wx _ g1; clear hb)
              | (go_at_call 23; (with_reducible refine (PR0.out _ (H0.out.keep (X7.out.keeps.trans KC.out))).mono ?_); rintro e wx ⟨rfl, hb⟩; have BC : Hid (Below w7.heap.size w7 wx) := Lib.hid (BC.out.trans (hb.mono BC.out.size)); have KC := Lib.hid (Keeps.of_below BC.out (Nat.le_refl _)); have p0 := KC.out _ _ p0r; have p1 := KC.out _ _ p1r; have g0 := KC.out _ _ g0r; have g1 := KC.out _ _ g1r; have n0 := World.new_ne wx _ p1; have n1 := World.new_ne wx _ g1; clear hb)
              | (go_at_call 18; (with_reducible refine (PD1.out B6 d6 _ (R7.out.keep KC.out)).mono ?_); rintro e wx ⟨hb, DB, DC, rfl⟩; have BC : Hid (Below w7.heap.size w7 wx) := Lib.hid (BC.out.trans (hb.mono BC.out.size)); have KC := Lib.hid (Keeps.of_below BC.out (Nat.le_refl _)); have p0 := KC.out _ _ p0r; have p1 := KC.out _ _ p1r; have g0 := KC.out _ _ g0r; have g1 := KC.out _ _ g1r; have n0 := World.new_ne wx _ p1; have n1 := World.new_ne wx _ g1; clear hb)
              | (go_at_call 18; (with_reducible refine (PD0.out _ (H0.out.keep (X7.out.keeps.trans KC.out))).mono ?_); rintro e wx ⟨hb, DB, DC, rfl⟩; have BC : Hid (Below w7.heap.size w7 wx) := Lib.hid (BC.out.trans (hb.mono BC.out.size)); have KC := Lib.hid (Keeps.of_below BC.out (Nat.le_refl _)); have p0 := KC.out _ _ p0r; have p1 := KC.out _ _ p1r; have g0 := KC.out _ _ g0r; have g1 := KC.out _ _ g1r; have n0 := World.new_ne wx _ p1; have n1 := World.new_ne wx _ g1; clear hb)
              | fail))
          all_goals
           go_wp2_with fail
           go_ret
           exact ⟨rfl, (X7.out.next BC.out).below⟩
end Go.Proofs.Ytagcaljpgifppaa
