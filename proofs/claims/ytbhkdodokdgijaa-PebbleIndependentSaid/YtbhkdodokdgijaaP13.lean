/-
  pebble.tails: tails for edges, where no points span too many of them.
-/
import Derived.Test.YtbhkdodokdgijaaP12
import Derived.Test.YtbhkdodokdgijaaP5
namespace Go.Proofs.Ytbhkdodokdgijaa
set_option linter.unusedVariables false
set_option linter.unusedSimpArgs false
open Go.RowKit Go.Sort

attribute [local go_sem ↓] Go.wp_at_zero Go.wp_at_succ
theorem assign_any {n : Nat} (hn : n ≤ 60) (u : Nat) : AssignAt n u := by
  induction u using Nat.strongRecOn with
  | _ u ih => exact assign_step n u hn ih
theorem own_madeI {w : World} {b base : Nat} (hb : w.heap.size = b) (n : Nat) (hn : n ≤ maxLen) (hbase : base ≤ b) : Own (w.alloc (.cells (madeCells #[.int .i64 0] n) 3)) base 3 1 (some ⟨b, 0, none⟩) n n (ints (List.replicate n 0)) := by
  subst hb
  have h := World.ownsRow_lit (base := base) (e := 3) (size := 1) w (madeCells #[.int .i64 0] n) n hbase hn (by simp [madeCells])
  have e : (madeCells #[.int .i64 0] n).toList = ints (List.replicate n 0) := by
    apply List.ext_getElem
    · simp [madeCells, ints]
    · intro i h1 h2; simp [madeCells, ints, Nat.mod_one]
  rw [e] at h
  exact h
theorem ownM_made_at {w : World} {b base : Nat} (hb : w.heap.size = b) (n : Nat) (hn : n ≤ maxLen) (hbase : base ≤ b) : OwnM (w.alloc (.cells (madeCells #[.slice none 0 0] n) 27)) base (some ⟨b, 0, none⟩) n n (List.replicate n (none, 0)) (List.replicate n []) := by
  subst hb; exact ownM_made n hn hbase
theorem ft_none {go n k : Nat} (h : Ft go (List.replicate n (none, 0)) k) : k = go := by
  rcases h with h | ⟨x, hx, hk⟩
  · exact h
  · obtain rfl := (List.mem_replicate.1 hx).2
    cases hk
theorem am_start {w : World} {base b go gt n M cE : Nat} {E : Option Addr} {es : List (Int × Int)} (hb : w.heap.size = b) (hbase : base ≤ b) (ho : OwnM w base (some ⟨go, 0, none⟩) n n (List.replicate n (none, 0)) (List.replicate n [])) (ht : Own w base 3 1 (some ⟨gt, 0, none⟩) M M (ints (List.replicate M 0))) (hne : gt ≠ go) (he : ∃ base', Own w base' 45 2 E M cE (prs es)) :
    AM (w.alloc (.cells #[.slice E M cE, .slice (some ⟨gt, 0, none⟩) M M, .slice (some ⟨go, 0, none⟩) n n] 73)) base b go gt n M (List.replicate n (none, 0)) (List.replicate n []) (List.replicate M 0) E cE es := by
  subst hb
  exact ⟨heap_alloc_new _ _, hbase, ho.alloc _, ht.alloc _, fun h => hne (ft_none h), he.elim fun base' h => ⟨base', h.alloc _⟩⟩
def TPost (w : World) (M : Nat) (es : List (Int × Int)) (e : Ending) (w' : World) : Prop :=
  ∃ T cT tl, e = .returned (.tuple #[.slice T M cT, .bool true]) ∧ Own w' w.heap.size 3 1 T M cT (ints tl) ∧ Below w.heap.size w w' ∧ tl.length = M ∧ (∀ j, j < M → tl.getD j 0 = (((endOf es j 0 : Nat)) : Int) ∨ tl.getD j 0 = (((endOf es j 1 : Nat)) : Int)) ∧ ∀ v, tl.count v ≤ 2
set_option maxRecDepth 100000 in
set_option maxHeartbeats 8000000 in
theorem tails_any (n M : Nat) (E : Option Addr) (cE base' : Nat) (es : List (Int × Int)) (w : World) (hn : n ≤ 60) (hM : M ≤ 100000) (hl : es.length = M) (he : Own w base' 45 2 E M cE (prs es)) (hok : ∀ e ∈ es, OkE n e) (hsp : ∀ V, 2 ≤ cntB n V → spanS es V ≤ 2 * (cntB n V : Int)) :
    Calls Try.prog 37 #[.int .i64 n, .slice E M cE] w (TPost w M es) := by
  have HL := Lib.hid hl
  have HE := Lib.hid he
  have HOK := Lib.hid hok
  have HSP := Lib.hid hsp
  have hmkI := run_make_row' (P := Try.prog) 27 3 (.int .i64 0) 8 Try.underlying27 info_int' rfl .i64 .i64 M (by omega) (by omega)
  have hmkL := run_make_row' (P := Try.prog) 31 27 (.slice none 0 0) 24 Try.underlying31 info_ints rfl .i64 .i64 n (by omega) (by omega)
  have hmkB := run_make_row' (P := Try.prog) 62 4 (.bool false) 1 Try.underlying62 info_bool rfl .i64 .i64 n (by omega) (by omega)
  clear hl he hok hsp
  go_enter Try.func37, Try.ntmps37
  go_upto_region 1 with fail
  go_cut [6] (fun t wx => ∃ b go gt, t = .pointer (some ⟨b, 0, none⟩) ∧ AM wx w.heap.size b go gt n M (List.replicate n (none, 0)) (List.replicate n []) (List.replicate M 0) E cE es ∧ Below w.heap.size w wx)
  case first =>
    go_region_law ((fail))
    all_goals
     go_wp2_with fail
     go_meet
     first
      | exact ⟨w.heap.size + 1 + 1, w.heap.size + 1, w.heap.size, by simp, am_start (w := (w.drew.alloc (.cells (madeCells #[.int .i64 0] M) 3)).alloc (.cells (madeCells #[.slice none 0 0] n) 27)) (by simp) (by omega) (ownM_made_at (by simp) n (by unfold maxLen; omega) (by omega)) ((own_madeI rfl M (by unfold maxLen; omega) (Nat.le_refl _)).alloc _) (by omega) ⟨base', (HE.out.alloc _).alloc _⟩, ((((Below.refl _ _).drew).alloc (by simp) _).alloc (by simp) _).alloc (by simp; omega) _⟩
      | exact ⟨w.heap.size + 1 + 1, w.heap.size, w.heap.size + 1, by simp, am_start (w := (w.drew.alloc (.cells (madeCells #[.slice none 0 0] n) 27)).alloc (.cells (madeCells #[.int .i64 0] M) 3)) (by simp) (by omega) ((ownM_made_at rfl n (by unfold maxLen; omega) (Nat.le_refl _)).alloc _) (own_madeI (by simp) M (by unfold maxLen; omega) (by omega)) (by omega) ⟨base', (HE.out.alloc _).alloc _⟩, ((((Below.refl _ _).drew).alloc (by simp) _).alloc (by simp) _).alloc (by simp; omega) _⟩
  case rest =>
    obtain ⟨b, go, gt, rfl, hg0, hb0⟩ := hcut
    have HG0 := Lib.hid hg0
    have HB0 := Lib.hid hb0
    rename World => w1
    clear hg0 hb0
    go_wp2_with fail
    go_loopg [7, 18] M (fun k _ t wr => ∃ (q : Nat) (hs : List (Option Addr × Nat)) (ld : List (List Int)) (tl : List Int), t = .int .i64 q ∧ q ≤ M ∧ k = M - q ∧ AM wr w.heap.size b go gt n M hs ld tl E cE es ∧ TInv n es ld tl q ∧ Below w.heap.size w wr)
    case atStart => exact ⟨0, _, _, _, rfl, by omega, rfl, HG0.out, by have := TInv.start n es; rw [HL.out] at this; exact this, HB0.out⟩
    case round =>
      obtain ⟨q, hs, ld, tl, rfl, hq, rfl, hg, hi, hb⟩ := hrel
      have HG := Lib.hid hg
      have HI := Lib.hid hi
      have HB := Lib.hid hb
      have hsz := hb.size
      have c1 := hg.c1
      clear hg hi hb
      by_cases hlt : q < M
      · have hin : XIn n M es ld tl (List.replicate n false) q := ⟨HL.out, HOK.out, by rw [← HL.out]; exact HI.out.rows (by rw [HL.out]; omega), by rw [← HL.out]; exact HI.out.inv, hlt, HI.out.fresh⟩
        have HA := Lib.hid (assign_any hn n M (wr.alloc (.cells (madeCells #[.bool false] n) 4)) w.heap.size wr.heap.size b go gt hs ld tl E cE es wr.heap.size (List.replicate n false) q (by omega) hin (HG.out.later ((Below.refl _ _).alloc (Nat.le_refl _) _)) (own_madeB rfl n (by unfold maxLen; omega) (Nat.le_refl _)) hM)
        clear hin
        go_wp2_with (first
          | (go_at_call 51; refine HA.out.mono ?_; rintro e w5 ⟨r, ld5, tl5, vis5, hs5, hal, rfl, hg5, hv5, hst5, -⟩; have hr : r = true := (by cases r with | false => exact (HI.out.found HOK.out (by rw [HL.out]; exact hlt) HSP.out hal).elim | true => rfl); subst hr; have HG5 := Lib.hid hg5; have HI5 := Lib.hid (HI.out.step HOK.out (by rw [HL.out]; exact hlt) hal); have HB5 : Hid (Below w.heap.size w w5) := Lib.hid ((HB.out.alloc hsz (.cells (madeCells #[.bool false] n) 4)).trans (hst5.below (HG.out.later ((Below.refl _ _).alloc (Nat.le_refl _) _)).om (B := w.heap.size) (by simp; omega) (Nat.le_refl _) (fun k hk hV => hV.elim (fun e => by rw [e]; exact (HG.out.ta.lt (k := gt) rfl).1) (fun e => by rw [e]; exact hsz)))); clear hal hg5 hv5 hst5)
          | fail)
        go_roundg (M - (q + 1))
        case measure => omega
        case rel => exact ⟨q + 1, hs5, ld5, tl5, by go_num, by omega, rfl, HG5.out, HI5.out, HB5.out⟩
      · obtain rfl : q = M := by omega
        go_wp2_with fail
        go_ret2
        have hf := HI.out
        rw [← HL.out] at hf
        obtain ⟨f1, f2, f3⟩ := hf.fin
        rw [HL.out] at f1 f2
        exact ⟨some ⟨gt, 0, none⟩, q, tl, rfl, HG.out.ta, HB.out, f1, f2, f3⟩
end Go.Proofs.Ytbhkdodokdgijaa
