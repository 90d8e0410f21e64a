/-
  setsquareref34.Redundant.
-/
import Derived.Test.YtagcaljpgifppaaQ8
namespace Go.Proofs.Ytagcaljpgifppaa
set_option linter.unusedVariables false
set_option linter.unusedSimpArgs false
open Go.RowKit Go.Sort

attribute [local go_sem ↓] Go.wp_at_zero Go.wp_at_succ
theorem redK_lek (es : List (Int × Int)) : ∀ k, (redK es k).length ≤ k
  | 0 => by simp [redK]
  | k + 1 => by
    have := redK_lek es k
    rw [redK_step]
    split
    · rw [List.length_append]; simp; omega
    · omega
set_option maxRecDepth 100000 in
set_option maxHeartbeats 8000000 in
theorem rred34_any (n : Nat) (A : Option Addr) (m c : Nat) (es : List (Int × Int)) (w : World) (hn : n ≤ 8) (hm : m ≤ 40) (hmc : m ≤ c) (he : Rd w 2 A m (prs es)) (hok : ∀ e ∈ es, OkE n e) :
    Calls Try.prog 20 #[.agg #[.int .i64 n, .slice A m c]] w (IntsPost w (redK es m)) := by
  have HE := Lib.hid he.prs_len
  have H1 := Lib.hid (he.keep (Keeps.alloc w (.cells #[.int .i64 n, .slice A m c] 24)))
  have S1 := Lib.hid ((Below.refl w.heap.size w).alloc (Nat.le_refl _) (.cells #[.int .i64 n, .slice A m c] 24))
  have HOK := Lib.hid hok
  have p00 : (w.alloc (.cells #[.int .i64 n, .slice A m c] 24)).cell? ⟨w.heap.size, 0, none⟩ = some (.int .i64 n) := by simp
  have p01 : (w.alloc (.cells #[.int .i64 n, .slice A m c] 24)).cell? ⟨w.heap.size, 1, none⟩ = some (.slice A m c) := by simp
  have hz1 : w.heap.size < (w.alloc (.cells #[.int .i64 n, .slice A m c] 24)).heap.size := by simp
  clear he hok
  go_enter Try.func20, Try.ntmps20
  go_wp2_with fail
  generalize w.alloc (.cells #[.int .i64 n, .slice A m c] 24) = w1 at *
  go_loopg [3, 4] m (fun k o t wr => ∃ (q : Nat) (B : Option Addr) (l cB : Nat), t = .int .i64 q ∧ q ≤ m ∧ k = m - q ∧ o = .slice B l cB ∧ (redK es q).length = l ∧ Own wr w1.heap.size 3 1 B l cB (ints (redK es q)) ∧ Below w1.heap.size w1 wr)
  case atStart => exact ⟨0, none, 0, 0, rfl, by omega, rfl, rfl, rfl, Own.nil _ _ _ _, Below.refl _ _⟩
  case round =>
    obtain ⟨q, B, l, cB, rfl, hq, rfl, rfl, hl, ho, hb⟩ := hrel
    have HL := Lib.hid hl
    have HO := Lib.hid ho
    have HB := Lib.hid hb
    have hsz := hb.size
    have kr := Keeps.of_below hb (Nat.le_refl _)
    have p0 := kr _ _ p00
    have p1 := kr _ _ p01
    have RR := Lib.hid (H1.out.keep kr)
    have hql : l ≤ q := by have := redK_lek es q; omega
    clear hl ho hb kr
    by_cases hlt : q < m
    · obtain ⟨ad, rfl, -, -⟩ := RR.out.prs_at hlt
      have HST := Lib.hid (redK_step es q)
      have n1 := World.new_ne wr _ p1
      have n0 := World.new_ne wr _ p0
      have HRB : Hid (redB es q = decide (rankE (es.eraseIdx q) = rankE es)) := Lib.hid rfl
      generalize redB es q = rb at HST HRB
      generalize redK es q = L at HO HST HL
      have hk1 := rank_le es
      have hk2 := rank_le (es.eraseIdx q)
      have hel : (es.eraseIdx q).length ≤ m := by have := List.length_eraseIdx_le es q; have := HE.out; omega
      have hee := HE.out
      have OKE : Hid (∀ e ∈ es.eraseIdx q, OkE n e) := Lib.hid (fun e he => HOK.out e (List.mem_of_mem_eraseIdx he))
      have WC : Hid (∀ w', Rd w' 2 (some ad) m (prs es) → Calls Try.prog 67 #[.agg #[.int .i64 (n : Int), .slice (some ad) m c], .int .i64 (q : Int)] w' (WoPost w' n (m - 1) (es.eraseIdx q))) := Lib.hid fun w' h => without_any n ad m c q es w' hm hlt hmc h
      have FW : Hid (∀ B d w', Rd w' 2 B (m - 1) (prs (es.eraseIdx q)) → Calls Try.prog 66 #[.agg #[.int .i64 (n : Int), .slice B (m - 1) d]] w' fun e w'' => e = .returned (.int .i64 (2 * (n : Int) - (rankE (es.eraseIdx q) : Nat))) ∧ Below w'.heap.size w' w'') := Lib.hid fun B d w' h => rfree34_any n _ B (m - 1) d (es.eraseIdx q) w' hn (by omega) h OKE.out rfl
      have FG : Hid (∀ w', Rd w' 2 (some ad) m (prs es) → Calls Try.prog 66 #[.agg #[.int .i64 (n : Int), .slice (some ad) m c]] w' fun e w'' => e = .returned (.int .i64 (2 * (n : Int) - (rankE es : Nat))) ∧ Below w'.heap.size w' w'') := Lib.hid fun w' h => rfree34_any n _ (some ad) m c es w' hn (by omega) h HOK.out rfl
      generalize rankE (es.eraseIdx q) = r2 at FW HRB hk2
      generalize rankE es = r1 at FG HRB hk1
      unfold WoPost at WC
      have hcmp : ((2 * (n : Int) - (r2 : Int)) == (2 * (n : Int) - (r1 : Int))) = rb := by
        rw [HRB.out, Bool.eq_iff_iff]
        simp
        omega
      have p0r := p0
      have p1r := p1
      go_upto_region 5 with fail
      go_cut [18] (fun t wx => t = .bool rb ∧ Below wr.heap.size wr wx)
      case first =>
        go_region_held3 (fun w' => w'.cell? ⟨w.heap.size, 0, none⟩ = some (.int .i64 (n : Int)) ∧ w'.cell? ⟨w.heap.size, 1, none⟩ = some (.slice (some ad) m c)) (go_keep)
          ((first
            | (go_at_call 67; refine (WC.out _ (RR.out.keep (by first | exact K7.out | exact Keeps.drew _))).mono ?_; rintro e w5 ⟨hb5, B5, d5, rfl, hr5⟩; have B5b : Hid (Below wr.heap.size wr w5) := Lib.hid (by first | exact B7.out.trans (hb5.mono B7.out.size) | exact ((Below.refl _ _).drew).trans (hb5.mono (by simp))); have K5 := Lib.hid (Keeps.of_below B5b.out (Nat.le_refl _)); have R5 := Lib.hid hr5; have p0 := K5.out _ _ p0r; have p1 := K5.out _ _ p1r; have n0 := World.new_ne w5 _ p0; have n1 := World.new_ne w5 _ p1; clear hb5 hr5)
            | (go_at_call 66; refine (FW.out B5 d5 _ (by first | exact R5.out | exact R5.out.keep K57.out)).mono ?_; rintro e w6 ⟨rfl, hb6⟩; have B6 : Hid (Below wr.heap.size wr w6) := Lib.hid (by first | exact B7.out.trans (hb6.mono B7.out.size) | exact B5b.out.trans (hb6.mono B5b.out.size)); have K6 := Lib.hid (Keeps.of_below B6.out (Nat.le_refl _)); have p0 := K6.out _ _ p0r; have p1 := K6.out _ _ p1r; have n0 := World.new_ne w6 _ p0; have n1 := World.new_ne w6 _ p1; clear hb6)
            | (go_at_call 66; refine (FG.out _ (RR.out.keep (by first | exact K6.out | exact K5.out | exact Keeps.drew _))).mono ?_; rintro e w7 ⟨rfl, hb7⟩; have B7 : Hid (Below wr.heap.size wr w7) := Lib.hid (by first | exact B6.out.trans (hb7.mono B6.out.size) | exact B5b.out.trans (hb7.mono B5b.out.size) | exact ((Below.refl _ _).drew).trans (hb7.mono (by simp))); have K7 := Lib.hid (Keeps.of_below B7.out (Nat.le_refl _)); have K57 := Lib.hid (Keeps.of_below hb7 (Nat.le_refl _)); have p0 := K7.out _ _ p0r; have p1 := K7.out _ _ p1r; have n0 := World.new_ne w7 _ p0; have n1 := World.new_ne w7 _ p1; clear hb7)
            | fail))
        all_goals
         go_wp2_with fail
         go_meet
         first
           | exact ⟨rfl, B6.out⟩
           | exact ⟨rfl, B7.out⟩
      case rest =>
        obtain ⟨rfl, hbd⟩ := hcut
        rename World => w5
        have HBD := Lib.hid hbd
        have hz5 := hbd.size
        have O5 := Lib.hid (HO.out.later hbd)
        clear hbd
        cases rb
        · go_wp2_with fail
          have e1 : redK es (q + 1) = L := by rw [HST.out]; rfl
          go_roundg (m - (q + 1))
          case measure => omega
          case rel => exact ⟨q + 1, B, l, cB, by go_num, by omega, rfl, rfl, by rw [e1]; exact HL.out, by rw [e1]; exact O5.out, HB.out.trans (HBD.out.mono hsz)⟩
        · go_wp2_with (first
            | (at_builtin; refine wpList_app _ rfl (.tmp 19) (.tmp 21) 27 rfl w1.heap.size 3 (.int .i64 0) 1 8 Try.underlying27 info_int' rfl (by decide) B l cB (ints L) rfl (O5.out.alloc _) (some ⟨w5.heap.size, 0, none⟩) 1 1 (ints [(q : Int)]) rfl (rd_lit_at rfl [(q : Int)] _) (ints_one _) (by omega) (by unfold maxLen; omega) (by simp; omega) ?_; intro B7 c7 w7 ho7 hg7 hb7; have O7 := Lib.hid ho7; have BL7 := Lib.hid (((HB.out.trans (HBD.out.mono hsz)).alloc (by omega) (.cells #[.int .i64 (q : Int)] 3)).grown hg7 (by simp; omega) (fun k hk => (O5.out.lt hk).1)); clear ho7 hg7 hb7)
            | fail)
          have e1 : redK es (q + 1) = L ++ [(q : Int)] := by rw [HST.out]; rfl
          go_roundg (m - (q + 1))
          case measure => omega
          case rel => exact ⟨q + 1, B7, l + 1, c7, by go_num, by omega, rfl, rfl, by rw [e1, List.length_append, HL.out]; rfl, by rw [e1, ints_app]; exact O7.out, BL7.out⟩
    · obtain rfl : q = m := by omega
      go_wp2_with fail
      go_ret
      exact ⟨S1.out.trans (HB.out.mono (by omega)), B, cB, by rw [HL.out]; rfl, by rw [HL.out]; exact HO.out.base_le (by omega)⟩
end Go.Proofs.Ytagcaljpgifppaa
