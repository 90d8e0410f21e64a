/-
  The reference of the pebble layer, complete and awake: joined texts.
-/
import Derived.Test.YtagcaljpgifppaaW2
import Derived.Test.YtagcaljpgifppaaMb
import Derived.Laws.BitsAllLaws
import Derived.Test.YtagcaljpgifppaaG2
import Derived.Test.YtagcaljpgifppaaMp
import Derived.Test.YtagcaljpgifppaaLit
namespace Go.Proofs.Ytagcaljpgifppaa
set_option linter.unusedVariables false
set_option linter.unusedSimpArgs false
open Go.RowKit Go.Sort

theorem shr_val (S X : Nat) : (((S : Int) / 2 ^ X).tmod 2) = if S.testBit X = true then 1 else 0 := by
  have e : ((S : Int) / 2 ^ X) = ((S / 2 ^ X : Nat) : Int) := by rw [Int.natCast_ediv]; norm_cast
  rw [e, Nat.testBit_eq_decide_div_mod_eq]
  have h2 : (((S / 2 ^ X : Nat) : Int).tmod 2) = ((S / 2 ^ X % 2 : Nat) : Int) := by
    rw [Int.tmod_eq_emod_of_nonneg (Int.natCast_nonneg _)]; rfl
  rw [h2]
  have := Nat.mod_two_eq_zero_or_one (S / 2 ^ X)
  rcases this with h | h <;> rw [h] <;> simp
theorem cntB_succ (j S : Nat) : cntB (j + 1) S = cntB j S + if S.testBit j = true then 1 else 0 := by
  unfold cntB
  rw [List.range_succ, List.countP_append]
  simp [List.countP_cons]
theorem wrap_pow8 {X : Nat} (h : X < 60) : wrap64 ((2 : Int) ^ X) = ((2 ^ X : Nat) : Int) := by
  have h2 : 2 ^ X < 2 ^ 60 := Nat.pow_lt_pow_right (by omega) h
  have h3 : (2 : Nat) ^ 60 = 1152921504606846976 := by decide
  have e : ((2 : Int) ^ X) = ((2 ^ X : Nat) : Int) := by norm_cast
  rw [e]
  rw [h3] at h2
  generalize 2 ^ X = P at h2
  unfold wrap64; omega
def okN (n : Nat) (es : List (Int × Int)) (T : Nat) : Prop := 2 ≤ cntB n T → spanS es T ≤ 2 * (cntB n T : Int) - 3
theorem indB_sets {n : Nat} {es : List (Int × Int)} (hn : n ≤ 60) (hok : ∀ e ∈ es, OkE n e) : indB es = true ↔ ∀ T, T < 2 ^ n → okN n es T := by
  rw [indB_iff (ok60_of hn hok)]
  constructor
  · intro h T _ h2; exact spa_n hn hok h T h2
  · intro h V h2
    have e0 : cntB n (V % 2 ^ n) = cntB n V := by
      unfold cntB
      refine List.countP_congr (fun i hi => ?_)
      have := List.mem_range.1 hi
      rw [Nat.testBit_mod_two_pow, decide_eq_true this, Bool.true_and]
    have e2 : spanS es (V % 2 ^ n) = spanS es V := spanS_congr (fun e hm => by
      obtain ⟨p1, p2, p3, p4, p5⟩ := hok e hm
      unfold bothB
      rw [Nat.testBit_mod_two_pow, Nat.testBit_mod_two_pow, decide_eq_true (by omega : e.1.toNat < n), decide_eq_true (by omega : e.2.toNat < n), Bool.true_and, Bool.true_and])
    have h3 := h (V % 2 ^ n) (Nat.mod_lt _ (Nat.two_pow_pos n))
    unfold okN at h3
    rw [e0, e2] at h3
    have h4 := cntB_mono (S := V) hn
    by_cases h5 : 2 ≤ cntB n V
    · have := h3 h5; omega
    · have : spanS es V = 0 := by
        unfold spanS
        have : es.countP (bothB V) = 0 := by
          rw [List.countP_eq_zero]
          intro e he hb
          obtain ⟨p1, p2, p3, p4, p5⟩ := hok e he
          unfold bothB at hb
          rw [Bool.and_eq_true] at hb
          exact h5 (cntB_pair (p := e.1.toNat) (q := e.2.toNat) (by omega) (by omega) (by omega) hb.1 hb.2)
        rw [this]; rfl
      omega
set_option maxRecDepth 100000 in
set_option maxHeartbeats 4000000 in
theorem rindep_any (n : Nat) (A : Option Addr) (m c : Nat) (es : List (Int × Int)) (w : World) (hn : n ≤ 8) (hm : m ≤ 100) (he : Rd w 2 A m (prs es)) (hok : ∀ e ∈ es, OkE n e) :
    Calls Try.prog 86 #[.int .i64 n, .slice A m c] w fun e w' => e = .returned (.bool (indB es)) ∧ Below w.heap.size w w' := by
  have HE := Lib.hid he.prs_len
  have H1 := Lib.hid he
  have HOK := Lib.hid hok
  have hQ : 2 ^ n ≤ 256 := by
    have : (2 : Nat) ^ n ≤ 2 ^ 8 := Nat.pow_le_pow_right (by omega) hn
    simpa using this
  have hw := wrap_pow8 (X := n) (by omega)
  have hall := Lib.hid (indB_sets (n := n) (es := es) (by omega) hok)
  generalize indB es = b at hall
  generalize 2 ^ n = Q at hQ hw hall
  clear he hok
  go_enter Try.func86, Try.ntmps86
  go_wp2_with fail
  go_loopg [5, 6, 7, 8, 9] Q (fun g s _ _ _ _ wr => ∃ S : Nat, S ≤ Q ∧ g = Q - S ∧ s = .int .i64 S ∧ (∀ T, T < S → okN n es T) ∧ Below w.heap.size w wr)
  case atStart => exact ⟨0, by omega, rfl, rfl, fun T hT => by omega, Below.refl _ _⟩
  case round =>
    obtain ⟨S, hS, rfl, rfl, hT, hb⟩ := hrel
    have HT := Lib.hid hT
    have HB := Lib.hid hb
    clear hT hb
    by_cases hlt : S < Q
    · go_wp2_with fail
      go_loopg [6, 8] n (fun g k i wi => ∃ j : Nat, j ≤ n ∧ g = n - j ∧ k = .int .i64 (cntB j S : Nat) ∧ i = .int .i64 j ∧ wi = wr)
      case atStart => exact ⟨0, by omega, rfl, rfl, rfl, rfl⟩
      case round =>
        obtain ⟨j, hj, rfl, rfl, rfl, rfl⟩ := hrel
        have hc60 := cntB_le j S
        have hsv := shr_val S j
        have hst := cntB_succ j S
        by_cases hjn : j < n
        · generalize cntB j S = cj at hc60 hst ⊢
          have HST := Lib.hid hst
          clear hst
          cases hbit : S.testBit j
          · rw [hbit, if_neg (by simp)] at hsv
            go_wp2_with fail
            go_roundg (n - (j + 1))
            case measure => omega
            case rel => exact ⟨j + 1, by omega, rfl, by rw [HST.out, hbit]; go_num, by go_num, rfl⟩
          · rw [hbit, if_pos rfl] at hsv
            go_wp2_with fail
            go_roundg (n - (j + 1))
            case measure => omega
            case rel => exact ⟨j + 1, by omega, rfl, by rw [HST.out, hbit]; go_num, by go_num, rfl⟩
        · obtain rfl : j = n := by omega
          clear hst hsv
          go_wp2_with fail
          go_loopg [7, 9] m (fun g ev i wi => ∃ k : Nat, k ≤ m ∧ g = m - k ∧ ev = .int .i64 (spanS (es.take k) S) ∧ i = .int .i64 k ∧ Below wr.heap.size wr wi)
          case atStart => exact ⟨0, by omega, rfl, rfl, rfl, Below.refl _ _⟩
          case round =>
            obtain ⟨k, hk, rfl, rfl, rfl, hb3⟩ := hrel
            have HB3 := Lib.hid hb3
            have hs0 := spanS_nonneg (es.take k) S
            have hs1 := Int.le_trans (spanS_le (es.take k) S) (Int.ofNat_le.2 (List.length_take_le k es))
            rename World => wi
            clear hb3
            by_cases hkm : k < m
            · obtain ⟨ad, rfl, c0, c1⟩ := (H1.out.keep (Keeps.of_below (HB.out.trans (HB3.out.mono HB.out.size)) (Nat.le_refl _))).prs_at hkm
              obtain ⟨x, y, hxy, hx, hy, hne⟩ := edge_nat HOK.out (k := k) (by rw [HE.out]; exact hkm)
              rw [getD_edAt, hxy] at c0 c1
              simp only at c0 c1
              have hx1 : (es.getD k (0, 0)).1 = (x : Int) := by rw [getD_edAt, hxy]
              have hy1 : (es.getD k (0, 0)).2 = (y : Int) := by rw [getD_edAt, hxy]
              have hst := spanS_step (S := S) (by rw [HE.out]; exact hkm) hx1 hy1
              generalize spanS (es.take k) S = s at hs0 hs1 hst
              have HST := Lib.hid hst
              have hb1 := shr_val S x
              have hb2 := shr_val S y
              have kx := grown_cell c0
              have ky := grown_cell c1
              have w0 : IntKind.i64.wrap (s + 0) = s := by rw [Int.add_zero]; exact IntWalk.i64_in _ (by omega)
              have w1 : IntKind.i64.wrap (s + 1) = s + 1 := IntWalk.i64_in _ (by omega)
              have w2 : IntKind.i64.wrap s = s := IntWalk.i64_in _ (by omega)
              clear hst hx1 hy1 hxy
              cases hX : S.testBit x <;> cases hY : S.testBit y
              all_goals
               rw [hX] at hb1
               rw [hY] at hb2
               simp only [if_true, Bool.false_eq_true, if_false] at hb1 hb2
               go_wp2_with fail
               refine wp_region_q (by kernel_rfl) (by kernel_rfl) ?_
               repeat (go_big_quiet_step (fail))
               refine wpQuiet_nil ?_
               intro wq hgq
               go_wp2_with fail
               go_roundg (m - (k + 1))
               case measure => omega
               case rel => exact ⟨k + 1, by omega, rfl, by rw [HST.out, Int.toNat_natCast, Int.toNat_natCast, hX, hY]; first | rfl | simp, by go_num, HB3.out.trans (hgq.mono HB3.out.size)⟩
            · obtain rfl : k = m := by omega
              have hfull : spanS (es.take k) S = spanS es S := by rw [List.take_of_length_le (by rw [HE.out]; exact Nat.le_refl _)]
              rw [hfull] at hs0 hs1 ⊢
              have hdef : okN j es S ↔ (2 ≤ cntB j S → spanS es S ≤ 2 * (cntB j S : Int) - 3) := Iff.rfl
              generalize cntB j S = cc at hc60 hdef ⊢
              generalize spanS es S = sp at hs0 hs1 hdef ⊢
              have HD := Lib.hid hdef
              clear hdef hfull
              by_cases h2 : 2 ≤ cc
              · have h2i : (2 : Int) ≤ (cc : Int) := by omega
                by_cases h3 : 2 * (cc : Int) - 3 < sp
                · have hbf : b = false := by
                    cases hb : b
                    · rfl
                    · have := HD.out.1 (hall.out.1 hb S hlt) h2; omega
                  have HBF := Lib.hid hbf
                  clear hbf
                  go_wp2_with fail
                  go_ret
                  exact ⟨ret_bool HBF.out.symm, HB.out.trans (HB3.out.mono HB.out.size)⟩
                · go_wp2_with fail
                  go_roundg (Q - (S + 1))
                  case measure => omega
                  case rel => exact ⟨S + 1, by omega, rfl, by go_num, fun T hT => by
                    by_cases e : T = S
                    · rw [e]; exact HD.out.2 (fun _ => by omega)
                    · exact HT.out T (by omega), HB.out.trans (HB3.out.mono HB.out.size)⟩
              · have h2i : ¬ (2 : Int) ≤ (cc : Int) := by omega
                go_wp2_with fail
                go_roundg (Q - (S + 1))
                case measure => omega
                case rel => exact ⟨S + 1, by omega, rfl, by go_num, fun T hT => by
                  by_cases e : T = S
                  · rw [e]; exact HD.out.2 (fun h => by omega)
                  · exact HT.out T (by omega), HB.out.trans (HB3.out.mono HB.out.size)⟩
    · obtain rfl : S = Q := by omega
      have hbt : b = true := hall.out.2 HT.out
      have HBT := Lib.hid hbt
      clear hbt
      go_wp2_with fail
      go_ret
      exact ⟨ret_bool HBT.out.symm, HB.out⟩
end Go.Proofs.Ytagcaljpgifppaa

namespace Go.Proofs.Ytagcaljpgifppaa
set_option linter.unusedVariables false
set_option linter.unusedSimpArgs false
open Go.RowKit Go.Sort

attribute [local go_sem ↓] Go.wp_at_zero Go.wp_at_succ
theorem rd_grown {w w' : World} {size n g : Nat} {xs : List Value} {row : Option Nat} (h : Rd w size (some ⟨g, 0, none⟩) n xs) (hg : w.grownBy w' row) (hne : row ≠ some g) : Rd w' size (some ⟨g, 0, none⟩) n xs := by
  refine ⟨h.1, fun hn => ?_⟩
  obtain ⟨ad, e, hc⟩ := h.2 hn
  injection e with e
  subst e
  refine ⟨_, rfl, fun j u hu => ?_⟩
  have := hc j u hu
  rw [add0] at this ⊢
  exact World.grownBy.cell hg this (fun e => hne e.symm)
theorem rd_alloc {w : World} {size n : Nat} {A : Option Addr} {xs : List Value} (h : Rd w size A n xs) (o : Obj) : Rd (w.alloc o) size A n xs := h.keep (Keeps.alloc w o)
theorem choK_len {es : List (Int × Int)} {k : Nat} (hk : k ≤ es.length) : (choK es k).length = (idxK es k).length := (idxK_len hk).symm
set_option maxRecDepth 100000 in
set_option maxHeartbeats 8000000 in
theorem rind34_any (n : Nat) (A : Option Addr) (m c : Nat) (es : List (Int × Int)) (w : World) (hn : n ≤ 8) (hm : m ≤ 40) (he : Rd w 2 A m (prs es)) (hok : ∀ e ∈ es, OkE n e) :
    Calls Try.prog 33 #[.agg #[.int .i64 n, .slice A m c]] w (IntsPost w (idxL es)) := by
  have HE := Lib.hid he.prs_len
  have H1 := Lib.hid (he.keep (Keeps.alloc w (.cells #[.int .i64 n, .slice A m c] 24)))
  have S1 := Lib.hid ((Below.refl w.heap.size w).alloc (Nat.le_refl _) (.cells #[.int .i64 n, .slice A m c] 24))
  have HOK := Lib.hid hok
  have p00 : (w.alloc (.cells #[.int .i64 n, .slice A m c] 24)).cell? ⟨w.heap.size, 0, none⟩ = some (.int .i64 n) := by simp
  have p01 : (w.alloc (.cells #[.int .i64 n, .slice A m c] 24)).cell? ⟨w.heap.size, 1, none⟩ = some (.slice A m c) := by simp
  have hz1 : w.heap.size < (w.alloc (.cells #[.int .i64 n, .slice A m c] 24)).heap.size := by simp
  clear he hok
  go_enter Try.func33, Try.ntmps33
  go_wp2_with fail
  generalize w.alloc (.cells #[.int .i64 n, .slice A m c] 24) = w1 at *
  go_loopg [3, 4, 5, 6] m (fun k o ch t _ wr => ∃ (q : Nat) (B C : Option Addr) (l cB cC : Nat), t = .int .i64 q ∧ q ≤ m ∧ k = m - q ∧ o = .slice B l cB ∧ ch = .slice C l cC ∧ (idxK es q).length = l ∧ Own wr w1.heap.size 3 1 B l cB (ints (idxK es q)) ∧ Own wr w1.heap.size 42 2 C l cC (prs (choK es q)) ∧ Below w1.heap.size w1 wr)
  case atStart => exact ⟨0, none, none, 0, 0, 0, rfl, by omega, rfl, rfl, rfl, rfl, Own.nil _ _ _ _, by rw [choK_zero]; exact Own.nil _ _ _ _, Below.refl _ _⟩
  case round =>
    obtain ⟨q, B, C, l, cB, cC, rfl, hq, rfl, rfl, rfl, hl, ho, hc, hb⟩ := hrel
    have HL := Lib.hid hl
    have HO := Lib.hid ho
    have HC := Lib.hid hc
    have HB := Lib.hid hb
    have hsz := hb.size
    have kr := Keeps.of_below hb (Nat.le_refl _)
    have p0 := kr _ _ p00
    have p1 := kr _ _ p01
    have RR := Lib.hid (H1.out.keep kr)
    have hql : l ≤ q := by have := idxK_le es q; omega
    clear hl ho hc hb kr
    by_cases hlt : q < m
    · obtain ⟨ad, rfl, c0, c1⟩ := RR.out.prs_at hlt
      obtain ⟨x, y, hxy, hx, hy, hne⟩ := edge_nat HOK.out (k := q) (by rw [HE.out]; exact hlt)
      rw [getD_edAt, hxy] at c0 c1
      simp only at c0 c1
      have HXY := Lib.hid hxy
      have HTK : Hid (takB es q = indB (choK es q ++ [((x : Int), (y : Int))])) := Lib.hid (by unfold takB; rw [hxy])
      have HCK : Hid (∀ e ∈ choK es q ++ [((x : Int), (y : Int))], OkE n e) := Lib.hid (fun e he => by
        rw [List.mem_append] at he
        rcases he with he | he
        · exact choK_ok HOK.out (by rw [HE.out]; omega) e he
        · simp at he; subst he; exact ⟨by omega, by simp; omega, by omega, by simp; omega, by simp; omega⟩)
      have HST := Lib.hid (idxK_step es q)
      have HCT := Lib.hid (choK_step (es := es) (k := q) (by rw [HE.out]; exact hlt))
      have HCL : Hid ((choK es q).length = l) := Lib.hid (by rw [choK_len (by rw [HE.out]; omega), HL.out])
      generalize takB es q = tb at HTK HST HCT
      generalize idxK es q = L at HO HST HL
      generalize hK : choK es q = K at HC HTK HCK HCT HCL
      have n0 := World.new_ne wr _ p0
      have n1 := World.new_ne wr _ p1
      have n2 := World.new_ne wr _ c0
      clear hxy hK
      have q1r := p1
      have c0r := c0
      have c1r := c1
      go_upto_region 6 with fail
      go_cut [6] (fun t wx => ∃ D cD, t = .slice D (l + 1) cD ∧ Own wx wr.heap.size 42 2 D (l + 1) cD (prs (K ++ [((x : Int), (y : Int))])) ∧ Below wr.heap.size wr wx)
      case first =>
        go_region_held3 (fun w' => w'.cell? ⟨w.heap.size, 1, none⟩ = some (.slice (some ad) m c) ∧ w'.cell? (ad.add (q * 2)) = some (.int .i64 x) ∧ w'.cell? ⟨(ad.add (q * 2)).block, (ad.add (q * 2)).off + 1, none⟩ = some (.int .i64 y)) (go_keep)
          ((first
            | (refine step_app _ rfl (.tmp 14) (.tmp 15) 22 rfl wr.heap.size 42 (.agg #[.int .i64 0, .int .i64 0]) 2 16 Try.underlying22 info_pair rfl (by decide) (some ⟨wr.heap.size, 0, none⟩) 0 0 [] (by simp [Act.eval, Act.put]) (own_empty_at (w := wr.drew) rfl 42 2) C l cC (prs K) (by simp [Act.eval, Act.put]) (rd_alloc (w := wr.drew) HC.out.rd _) (prs_one _) (by omega) (by unfold maxLen; omega) (by first | omega | (simp; done) | (simp; omega)) ?_; intro A3 c3 w3 ho3 hg3 hb3; simp only [Nat.zero_add, List.nil_append] at ho3; have O3 := Lib.hid ho3; have BL3 : Hid (Below wr.heap.size wr w3) := Lib.hid ((((Below.refl _ _).drew).alloc (by simp) (.cells #[] 42)).grown hg3 (by simp) (fun k hk => by simp [blk] at hk; omega)); have kk3 := Keeps.of_below BL3.out (Nat.le_refl _); have p1 := kk3 _ _ p1; have c0 := kk3 _ _ c0; have c1 := kk3 _ _ c1; have n1 := World.new_ne w3 _ p1; have n2 := World.new_ne w3 _ c0; have hz3 := BL3.out.size; clear kk3; clear ho3 hg3 hb3)
            | (refine step_app _ rfl (.tmp 14) (.tmp 15) 22 rfl wr.heap.size 42 (.agg #[.int .i64 0, .int .i64 0]) 2 16 Try.underlying22 info_pair rfl (by decide) (some ⟨wr.heap.size, 0, none⟩) 0 0 [] (by simp [Act.eval, Act.put]) (Own.alloc (own_empty_at (w := wr.drew) rfl 42 2) (.cells #[.int .i64 (x : Int), .int .i64 (y : Int)] 42)) C l cC (prs K) (by simp [Act.eval, Act.put]) (rd_alloc (rd_alloc (w := wr.drew) HC.out.rd _) _) (prs_one _) (by omega) (by unfold maxLen; omega) (by first | omega | (simp; done) | (simp; omega)) ?_; intro A3 c3 w3 ho3 hg3 hb3; simp only [Nat.zero_add, List.nil_append] at ho3; have O3 := Lib.hid ho3; have BL3 : Hid (Below wr.heap.size wr w3) := Lib.hid (((((Below.refl _ _).drew).alloc (by simp) (.cells #[] 42)).alloc (by simp) (.cells #[.int .i64 (x : Int), .int .i64 (y : Int)] 42)).grown hg3 (by first | omega | (simp; done) | (simp; omega)) (fun k hk => by simp [blk] at hk; omega)); have LIT : Hid (Rd w3 2 (some ⟨wr.heap.size + 1, 0, none⟩) 1 (prs [((x : Int), (y : Int))])) := Lib.hid (rd_grown (rd_lit2_at (w := wr.drew.alloc (.cells #[] 42)) (by simp) [((x : Int), (y : Int))] _) hg3 (by first | (simp [blk]; done) | (simp [blk]; omega))); have kk3 := Keeps.of_below BL3.out (Nat.le_refl _); have p1 := kk3 _ _ p1; have c0 := kk3 _ _ c0; have c1 := kk3 _ _ c1; have n1 := World.new_ne w3 _ p1; have n2 := World.new_ne w3 _ c0; have hz3 := BL3.out.size; clear kk3; clear ho3 hg3 hb3)
            | (refine step_app _ rfl (.tmp 14) (.tmp 15) 22 rfl wr.heap.size 42 (.agg #[.int .i64 0, .int .i64 0]) 2 16 Try.underlying22 info_pair rfl (by decide) (some ⟨wr.heap.size + 1, 0, none⟩) 0 0 [] (by simp [Act.eval, Act.put]) (Own.base_le (own_empty_at (w := wr.drew.alloc (.cells #[.int .i64 (x : Int), .int .i64 (y : Int)] 42)) (b := wr.heap.size + 1) (by simp) 42 2) (by omega)) C l cC (prs K) (by simp [Act.eval, Act.put]) (rd_alloc (rd_alloc (w := wr.drew) HC.out.rd _) _) (prs_one _) (by omega) (by unfold maxLen; omega) (by first | omega | (simp; done) | (simp; omega)) ?_; intro A3 c3 w3 ho3 hg3 hb3; simp only [Nat.zero_add, List.nil_append] at ho3; have O3 := Lib.hid ho3; have BL3 : Hid (Below wr.heap.size wr w3) := Lib.hid (((((Below.refl _ _).drew).alloc (by simp) (.cells #[.int .i64 (x : Int), .int .i64 (y : Int)] 42)).alloc (by simp) (.cells #[] 42)).grown hg3 (by first | omega | (simp; done) | (simp; omega)) (fun k hk => by simp [blk] at hk; omega)); have LIT : Hid (Rd w3 2 (some ⟨wr.heap.size, 0, none⟩) 1 (prs [((x : Int), (y : Int))])) := Lib.hid (rd_grown (rd_alloc (rd_lit2_at (w := wr.drew) rfl [((x : Int), (y : Int))] _) _) hg3 (by first | (simp [blk]; done) | (simp [blk]; omega))); have kk3 := Keeps.of_below BL3.out (Nat.le_refl _); have p1 := kk3 _ _ p1; have c0 := kk3 _ _ c0; have c1 := kk3 _ _ c1; have n1 := World.new_ne w3 _ p1; have n2 := World.new_ne w3 _ c0; have hz3 := BL3.out.size; clear kk3; clear ho3 hg3 hb3)
            | (refine step_app _ rfl (.tmp 16) (.tmp 22) 22 rfl wr.heap.size 42 (.agg #[.int .i64 0, .int .i64 0]) 2 16 Try.underlying22 info_pair rfl (by decide) A3 l c3 (prs K) (by simp [Act.eval, Act.put]) (O3.out.alloc _) (some ⟨w3.heap.size, 0, none⟩) 1 1 (prs [((x : Int), (y : Int))]) (by simp [Act.eval, Act.put]) (rd_lit2_at rfl [((x : Int), (y : Int))] _) (prs_one _) (by omega) (by unfold maxLen; omega) (by first | omega | (simp; done) | (simp; omega)) ?_; intro A4 c4 w4 ho4 hg4 hb4; have O4 : Hid (Own w4 wr.heap.size 42 2 A4 (l + 1) c4 (prs (K ++ [((x : Int), (y : Int))]))) := Lib.hid (by rw [prs_app]; exact ho4); have BL4 : Hid (Below wr.heap.size wr w4) := Lib.hid ((BL3.out.alloc BL3.out.size _).grown hg4 (by first | omega | (simp; done) | (simp; omega)) (fun k hk => (O3.out.lt hk).1)); have kk4 := Keeps.of_below BL4.out (Nat.le_refl _); have p1 := kk4 _ _ q1r; have c0 := kk4 _ _ c0r; have c1 := kk4 _ _ c1r; clear ho4 hg4 hb4 kk4)
            | (refine step_app _ rfl (.tmp 16) (.tmp 22) 22 rfl wr.heap.size 42 (.agg #[.int .i64 0, .int .i64 0]) 2 16 Try.underlying22 info_pair rfl (by decide) A3 l c3 (prs K) (by simp [Act.eval, Act.put]) O3.out (some ⟨wr.heap.size + 1, 0, none⟩) 1 1 (prs [((x : Int), (y : Int))]) (by simp [Act.eval, Act.put]) LIT.out (prs_one _) (by omega) (by unfold maxLen; omega) (by first | omega | (simp; done) | (simp; omega)) ?_; intro A4 c4 w4 ho4 hg4 hb4; have O4 : Hid (Own w4 wr.heap.size 42 2 A4 (l + 1) c4 (prs (K ++ [((x : Int), (y : Int))]))) := Lib.hid (by rw [prs_app]; exact ho4); have BL4 : Hid (Below wr.heap.size wr w4) := Lib.hid (BL3.out.grown hg4 (by first | omega | (simp; done) | (simp; omega)) (fun k hk => (O3.out.lt hk).1)); have kk4 := Keeps.of_below BL4.out (Nat.le_refl _); have p1 := kk4 _ _ q1r; have c0 := kk4 _ _ c0r; have c1 := kk4 _ _ c1r; clear ho4 hg4 hb4 kk4)
            | (refine step_app _ rfl (.tmp 16) (.tmp 22) 22 rfl wr.heap.size 42 (.agg #[.int .i64 0, .int .i64 0]) 2 16 Try.underlying22 info_pair rfl (by decide) A3 l c3 (prs K) (by simp [Act.eval, Act.put]) O3.out (some ⟨wr.heap.size, 0, none⟩) 1 1 (prs [((x : Int), (y : Int))]) (by simp [Act.eval, Act.put]) LIT.out (prs_one _) (by omega) (by unfold maxLen; omega) (by first | omega | (simp; done) | (simp; omega)) ?_; intro A4 c4 w4 ho4 hg4 hb4; have O4 : Hid (Own w4 wr.heap.size 42 2 A4 (l + 1) c4 (prs (K ++ [((x : Int), (y : Int))]))) := Lib.hid (by rw [prs_app]; exact ho4); have BL4 : Hid (Below wr.heap.size wr w4) := Lib.hid (BL3.out.grown hg4 (by first | omega | (simp; done) | (simp; omega)) (fun k hk => (O3.out.lt hk).1)); have kk4 := Keeps.of_below BL4.out (Nat.le_refl _); have p1 := kk4 _ _ q1r; have c0 := kk4 _ _ c0r; have c1 := kk4 _ _ c1r; clear ho4 hg4 hb4 kk4)
            | fail))
        all_goals
         go_wp2_with fail
         go_meet
         exact ⟨A4, c4, rfl, O4.out, BL4.out⟩
      case rest =>
        obtain ⟨D, cD, rfl, hd, hbd⟩ := hcut
        rename World => w5
        have HD := Lib.hid hd
        have HBD := Lib.hid hbd
        have hz5 := hbd.size
        have kd := Keeps.of_below hbd (Nat.le_refl _)
        have p05 := kd _ _ p0
        have HO5 := Lib.hid (HO.out.later hbd)
        clear hd hbd kd
        cases tb
        · have HI : Hid (∀ W, Rd W 2 D (l + 1) (prs (K ++ [((x : Int), (y : Int))])) → Calls Try.prog 86 #[.int .i64 n, .slice D (l + 1) cD] W fun e W' => e = .returned (.bool false) ∧ Below W.heap.size W W') := Lib.hid (fun W hW => by
            have := rindep_any n D (l + 1) cD _ W hn (by omega) hW HCK.out
            rw [← HTK.out] at this
            exact this)
          go_wp2_with (first
            | (go_at_call 86; refine (HI.out _ HD.out.rd).mono ?_; rintro e w6 ⟨rfl, hb6⟩; have B6 := Lib.hid (HBD.out.trans (hb6.mono HBD.out.size)); clear hb6)
            | fail)
          have e1 : idxK es (q + 1) = L := by rw [HST.out]; rfl
          have e2 : choK es (q + 1) = K := by rw [HCT.out]; rfl
          go_roundg (m - (q + 1))
          case measure => omega
          case rel => exact ⟨q + 1, B, C, l, cB, cC, by go_num, by omega, rfl, rfl, rfl, by rw [e1]; exact HL.out, by rw [e1]; exact HO.out.later B6.out, by rw [e2]; exact HC.out.later B6.out, HB.out.trans (B6.out.mono hsz)⟩
        · have HI : Hid (∀ W, Rd W 2 D (l + 1) (prs (K ++ [((x : Int), (y : Int))])) → Calls Try.prog 86 #[.int .i64 n, .slice D (l + 1) cD] W fun e W' => e = .returned (.bool true) ∧ Below W.heap.size W W') := Lib.hid (fun W hW => by
            have := rindep_any n D (l + 1) cD _ W hn (by omega) hW HCK.out
            rw [← HTK.out] at this
            exact this)
          go_wp2_with (first
            | (go_at_call 86; refine (HI.out _ HD.out.rd).mono ?_; rintro e w6 ⟨rfl, hb6⟩; have B6 := Lib.hid (HBD.out.trans (hb6.mono HBD.out.size)); have O6 := Lib.hid (HO.out.later B6.out); have D6 := Lib.hid (HD.out.later hb6); have hz6 := B6.out.size; clear hb6)
            | (at_builtin; refine wpList_app _ rfl (.tmp 28) (.tmp 30) 27 rfl w1.heap.size 3 (.int .i64 0) 1 8 Try.underlying27 info_int' rfl (by decide) B l cB (ints L) rfl (O6.out.alloc _) (some ⟨w6.heap.size, 0, none⟩) 1 1 (ints [(q : Int)]) rfl (rd_lit_at rfl [(q : Int)] _) (ints_one _) (by omega) (by unfold maxLen; omega) (by simp; omega) ?_; intro B7 c7 w7 ho7 hg7 hb7; have O7 := Lib.hid ho7; have D7 := Lib.hid (Own.apart (D6.out.alloc (.cells #[.int .i64 (q : Int)] 3)) hg7 ((D6.out.alloc (.cells #[.int .i64 (q : Int)] 3)).apart_type (O6.out.alloc (.cells #[.int .i64 (q : Int)] 3)) (by decide))); have BL7 := Lib.hid (((HB.out.trans (B6.out.mono hsz)).alloc (by omega) (.cells #[.int .i64 (q : Int)] 3)).grown hg7 (by simp; omega) (fun k hk => (O6.out.lt hk).1)); clear ho7 hg7 hb7)
            | fail)
          have e1 : idxK es (q + 1) = L ++ [(q : Int)] := by rw [HST.out]; rfl
          have e2 : choK es (q + 1) = K ++ [((x : Int), (y : Int))] := by rw [HCT.out, HXY.out]; rfl
          go_roundg (m - (q + 1))
          case measure => omega
          case rel => exact ⟨q + 1, B7, D, l + 1, c7, cD, by go_num, by omega, rfl, rfl, rfl, by rw [e1, List.length_append, HL.out]; rfl, by rw [e1, ints_app]; exact O7.out, by rw [e2]; exact D7.out.base_le (by omega), BL7.out⟩
    · obtain rfl : q = m := by omega
      go_wp2_with fail
      go_ret
      have hfin : idxL es = idxK es q := by unfold idxL; rw [HE.out]
      rw [hfin]
      exact ⟨S1.out.trans (HB.out.mono (by omega)), B, cB, by rw [HL.out]; rfl, by rw [HL.out]; exact HO.out.base_le (by omega)⟩
end Go.Proofs.Ytagcaljpgifppaa

namespace Go.Proofs.Ytagcaljpgifppaa
set_option linter.unusedVariables false
set_option linter.unusedSimpArgs false
open Go.RowKit Go.Sort

set_option maxHeartbeats 2000000 in
theorem sameI_any (A B : Option Addr) (n c m d : Nat) (es fs : List Int) (w : World) (hn : n ≤ 4611686018427387904) (hm : m ≤ 4611686018427387904) (he : Rd w 1 A n (ints es)) (hf : Rd w 1 B m (ints fs)) :
    Calls Try.prog 19 #[.slice A n c, .slice B m d] w fun e w' => e = .returned (.bool (decide (es = fs))) ∧ Below w.heap.size w w' := by
  have HE := Lib.hid he.int_len
  have HF := Lib.hid hf.int_len
  have H1 := Lib.hid he
  have H2 := Lib.hid hf
  clear he hf
  by_cases hnm : n = m
  · subst hnm
    have hbn : ((n : Int) != (n : Int)) = false := by simp
    go_enter Try.func19, Try.ntmps19
    go_wp2_with fail
    go_loopg [5] n (fun g i wr => Below w.heap.size w wr ∧ ∃ k : Nat, k ≤ n ∧ g = n - k ∧ i = .int .i64 k ∧ ∀ j, j < k → es.getD j 0 = fs.getD j 0)
    case atStart => exact ⟨Below.refl _ _, 0, Nat.zero_le _, rfl, rfl, by omega⟩
    case round =>
      obtain ⟨hb, k, hk, rfl, rfl, hok⟩ := hrel
      have HOK := Lib.hid hok
      have HB := Lib.hid hb
      have K := Lib.hid (Keeps.of_below hb (Nat.le_refl _))
      clear hok hb
      by_cases hlt : k < n
      · obtain ⟨ad, rfl, -, c0⟩ := (H1.out.keep K.out).int_at hlt
        obtain ⟨ad', rfl, -, d0⟩ := (H2.out.keep K.out).int_at hlt
        generalize hx : es.getD k 0 = x at c0
        generalize hu : fs.getD k 0 = u at d0
        have k0 := grown_cell c0
        have l0 := grown_cell d0
        have HX := Lib.hid hx
        have HU := Lib.hid hu
        clear hx hu
        cases h1 : (x != u)
        · go_wp2_with fail
          refine wp_region_q (by kernel_rfl) (by kernel_rfl) ?_
          repeat (go_big_quiet_step (fail))
          refine wpQuiet_nil ?_
          intro wq hgq
          go_wp2_with fail
          go_roundg (n - (k + 1))
          case measure => omega
          case rel => exact ⟨HB.out.trans (hgq.mono HB.out.size), k + 1, by omega, rfl, by go_num, fun j hj => by
             by_cases e : j = k
             · subst e; rw [HX.out, HU.out]; simpa using h1
             · exact HOK.out j (by omega)⟩
        · go_wp2_with fail
          refine wp_region_q (by kernel_rfl) (by kernel_rfl) ?_
          repeat (go_big_quiet_step (fail))
          refine wpQuiet_nil ?_
          intro wq hgq
          go_wp2_with fail
          go_ret
          refine ⟨ret_bool ?_, HB.out.trans (hgq.mono HB.out.size)⟩
          symm
          rw [decide_eq_false_iff_not]
          intro h
          rw [h] at HX
          have := HX.out.symm.trans HU.out
          simp [this] at h1
      · go_wp2_with fail
        go_ret
        exact ⟨ret_bool (by symm; rw [decide_eq_true_iff]; exact eq_of_getD 0 _ _ (by rw [HE.out, HF.out]) (fun j hj => HOK.out j (by have := HE.out; omega))), HB.out⟩
  · have hb : ((n : Int) != (m : Int)) = true := by simp; omega
    have HNM := Lib.hid hnm
    clear hnm
    go_enter Try.func19, Try.ntmps19
    go_wp2_with fail
    go_ret
    exact ⟨ret_bool (by symm; rw [decide_eq_false_iff_not]; intro h; exact HNM.out (by rw [← HE.out, ← HF.out, h])), Below.refl _ _⟩
theorem sameI_b {b : Bool} (A B : Option Addr) (n c m d : Nat) (es fs : List Int) (w : World) (hn : n ≤ 4611686018427387904) (hm : m ≤ 4611686018427387904) (he : Rd w 1 A n (ints es)) (hf : Rd w 1 B m (ints fs)) (hb : decide (es = fs) = b) :
    Calls Try.prog 19 #[.slice A n c, .slice B m d] w fun e w' => e = .returned (.bool b) ∧ Below w.heap.size w w' := by
  subst hb; exact sameI_any A B n c m d es fs w hn hm he hf
set_option maxHeartbeats 400000 in
theorem few_any (N : Int) (A : Option Addr) (n c : Nat) (w : World) :
    Calls Try.prog 16 #[.agg #[.int .i64 N, .slice A n c]] w fun e w' => e = .returned (.bool (decide (N ≤ 8) && decide ((n : Int) ≤ 20))) ∧ Below w.heap.size w w' := by
  by_cases h : N ≤ 8
  · go_enter Try.func16, Try.ntmps16
    go_wp2
    go_ret
    exact ⟨ret_bool (by rw [decide_eq_true h]; rfl), (Below.refl _ _).alloc (Nat.le_refl _) _⟩
  · go_enter Try.func16, Try.ntmps16
    go_wp2
    go_ret
    exact ⟨ret_bool (by rw [decide_eq_false (by omega : ¬ N ≤ 8)]; rfl), (Below.refl _ _).alloc (Nat.le_refl _) _⟩
theorem rind34_l (n : Nat) (l : Nat) (A : Option Addr) (m c : Nat) (es : List (Int × Int)) (w : World) (hn : n ≤ 8) (hm : m ≤ 40) (he : Rd w 2 A m (prs es)) (hok : ∀ e ∈ es, OkE n e) (hl : rankE es = l) :
    Calls Try.prog 33 #[.agg #[.int .i64 n, .slice A m c]] w fun e w' => Below w.heap.size w w' ∧ ∃ B d, e = .returned (.slice B l d) ∧ Own w' w.heap.size 3 1 B l d (ints (idxL es)) := by
  have := rind34_any n A m c es w hn hm he hok
  unfold IntsPost at this
  rw [idxL_len, hl] at this
  exact this
set_option maxHeartbeats 2000000 in
theorem rfree34_any (n rk : Nat) (A : Option Addr) (m c : Nat) (es : List (Int × Int)) (w : World) (hn : n ≤ 8) (hm : m ≤ 40) (he : Rd w 2 A m (prs es)) (hok : ∀ e ∈ es, OkE n e) (hrk : rankE es = rk) :
    Calls Try.prog 66 #[.agg #[.int .i64 n, .slice A m c]] w fun e w' => e = .returned (.int .i64 (2 * (n : Int) - (rk : Int))) ∧ Below w.heap.size w w' := by
  have hrm : rk ≤ m := by have := rank_le es; have := he.prs_len; omega
  have H1 := Lib.hid (he.keep (Keeps.alloc w (.cells #[.int .i64 n, .slice A m c] 24)))
  have S1 := Lib.hid ((Below.refl w.heap.size w).alloc (Nat.le_refl _) (.cells #[.int .i64 n, .slice A m c] 24))
  have p00 : (w.alloc (.cells #[.int .i64 n, .slice A m c] 24)).cell? ⟨w.heap.size, 0, none⟩ = some (.int .i64 n) := by simp
  have p01 : (w.alloc (.cells #[.int .i64 n, .slice A m c] 24)).cell? ⟨w.heap.size, 1, none⟩ = some (.slice A m c) := by simp
  have HOK := Lib.hid hok
  have HRK := Lib.hid hrk
  clear he hok hrk
  go_enter Try.func66, Try.ntmps66
  go_wp2_with fail
  have e1 : IntKind.i64.wrap (2 * (n : Int)) = 2 * (n : Int) := IntWalk.i64_in _ (by omega)
  have e2 : IntKind.i64.wrap (2 * (n : Int) - (rk : Int)) = 2 * (n : Int) - (rk : Int) := IntWalk.i64_in _ (by omega)
  have hz1 : w.heap.size < (w.alloc (.cells #[.int .i64 n, .slice A m c] 24)).heap.size := by simp
  generalize w.alloc (.cells #[.int .i64 n, .slice A m c] 24) = w1 at *
  go_region_held3 (fun w' => w'.cell? ⟨w.heap.size, 0, none⟩ = some (.int .i64 n) ∧ w'.cell? ⟨w.heap.size, 1, none⟩ = some (.slice A m c)) (go_keep)
    ((first
      | (go_at_call 33; refine (rind34_l n rk A m c es _ hn hm (H1.out.keep (Keeps.drew _)) HOK.out HRK.out).mono ?_; rintro e w2 ⟨hb2, B, cB, rfl, ho2⟩; have hb2' : Below w1.heap.size w1 w2 := ((Below.refl _ _).drew).trans hb2; have kk := Keeps.of_below hb2' (Nat.le_refl _); have p0 := kk _ _ p00; have p1 := kk _ _ p01; have S3 := Lib.hid (S1.out.trans (hb2'.mono (by omega))); clear hb2 hb2' ho2 kk)
      | fail))
  go_wp2_with fail
  go_ret
  exact ⟨ret_int rfl, S3.out⟩
def rigid34 (n rk : Nat) : Bool := decide ((n : Int) ≤ 1) || decide (2 * (n : Int) - (rk : Int) = 3)
end Go.Proofs.Ytagcaljpgifppaa

namespace Go.Proofs.Ytagcaljpgifppaa
set_option linter.unusedVariables false
set_option linter.unusedSimpArgs false
open Go.RowKit Go.Sort

def certB (es : List (Int × Int)) (ls : List (List Int)) : Bool := decide (ls.length = es.length) && (List.range ls.length).all fun i => rightB es i (ls.getD i [])
theorem certB_len {es : List (Int × Int)} {ls : List (List Int)} (h : ls.length ≠ es.length) : certB es ls = false := by simp [certB, h]
theorem certB_no {es : List (Int × Int)} {ls : List (List Int)} {i : Nat} (hi : i < ls.length) (h : rightB es i (ls.getD i []) = false) : certB es ls = false := by
  unfold certB
  have : ((List.range ls.length).all fun i => rightB es i (ls.getD i [])) = false := by
    rw [List.all_eq_false]; exact ⟨i, by simpa using hi, by simp only [h]; decide⟩
  rw [this, Bool.and_false]
theorem certB_yes {es : List (Int × Int)} {ls : List (List Int)} (hl : ls.length = es.length) (h : ∀ j, j < ls.length → rightB es j (ls.getD j []) = true) : certB es ls = true := by
  unfold certB
  simp only [hl, decide_true, Bool.true_and, List.all_eq_true, List.mem_range]
  intro j hj; exact h j (by omega)
theorem certB_iff {es : List (Int × Int)} {ls : List (List Int)} : certB es ls = true ↔ ls.length = es.length ∧ ∀ j, j < ls.length → rightB es j (ls.getD j []) = true := by
  constructor
  · intro h
    unfold certB at h
    simp only [Bool.and_eq_true, decide_eq_true_eq, List.all_eq_true, List.mem_range] at h
    exact h
  · rintro ⟨h1, h2⟩; exact certB_yes h1 h2
theorem rightB_noLen {es : List (Int × Int)} {i : Nat} {l : List Int} (h : l.length ≠ es.length + 3) : rightB es i l = false := by simp [rightB, h]
theorem rightB_noAt {es : List (Int × Int)} {i k : Nat} {l : List Int} (hk : k < l.length) (h : rightAt es i l k = false) : rightB es i l = false := by
  unfold rightB
  have : (List.range l.length).all (rightAt es i l) = false := by rw [List.all_eq_false]; exact ⟨k, by simpa using hk, by simp [h]⟩
  rw [this, Bool.and_false]
theorem edgeOf_nat {n : Nat} {es : List (Int × Int)} (h : ∀ e ∈ es, OkE n e) {i k : Nat} (hi : i < es.length) : ∃ p q : Nat, edgeOf es i k = ((p : Int), (q : Int)) ∧ p < n ∧ q < n ∧ p ≠ q := by
  unfold edgeOf
  by_cases hk : k < es.length
  · rw [if_pos hk]; exact edge_nat h hk
  · rw [if_neg hk]; exact edge_nat h hi
theorem getD_set_int {cs : List Int} {i j : Nat} {x : Int} (hi : i < cs.length) : (cs.set i x).getD j 0 = if j = i then x else cs.getD j 0 := getD_set_nat hi
set_option maxRecDepth 100000 in
set_option maxHeartbeats 16000000 in
theorem cert_any (n : Nat) (A L : Option Addr) (m c nl cl : Nat) (es : List (Int × Int)) (ls : List (List Int)) (w : World) (hn : n ≤ 60) (hm : m ≤ 1000) (hnl : nl ≤ 100000) (he : Rd w 2 A m (prs es)) (hl : RdL w L nl ls) (hok : ∀ e ∈ es, OkE n e) :
    Calls Try.prog 61 #[.agg #[.int .i64 n, .slice A m c], .slice L nl cl] w fun e w' => e = .returned (.bool (certB es ls)) ∧ Below w.heap.size w w' := by
  have HE := Lib.hid he.prs_len
  have HLL := Lib.hid hl.1
  have H1 := Lib.hid (he.keep (Keeps.alloc w (.cells #[.int .i64 n, .slice A m c] 24)))
  have H2 := Lib.hid (hl.keep (Keeps.alloc w (.cells #[.int .i64 n, .slice A m c] 24)))
  have S1 := Lib.hid ((Below.refl w.heap.size w).alloc (Nat.le_refl _) (.cells #[.int .i64 n, .slice A m c] 24))
  have p00 : (w.alloc (.cells #[.int .i64 n, .slice A m c] 24)).cell? ⟨w.heap.size, 0, none⟩ = some (.int .i64 n) := by simp
  have p01 : (w.alloc (.cells #[.int .i64 n, .slice A m c] 24)).cell? ⟨w.heap.size, 1, none⟩ = some (.slice A m c) := by simp
  have hz1 : w.heap.size < (w.alloc (.cells #[.int .i64 n, .slice A m c] 24)).heap.size := by simp
  have HOK := Lib.hid hok
  have hmkI := run_make_row' (P := Try.prog) 27 3 (.int .i64 0) 8 Try.underlying27 info_int' rfl .i64 .i64 n (by omega) (by omega)
  clear he hl hok
  by_cases hlen : nl = m
  · have hbl : ((nl : Int) != (m : Int)) = false := by simp [hlen]
    subst hlen
    go_enter Try.func61, Try.ntmps61
    go_wp2_with fail
    generalize w.alloc (.cells #[.int .i64 n, .slice A nl c] 24) = w1 at *
    go_loopg [5, 6, 7, 8] nl (fun g t _ _ _ wr => ∃ e : Nat, e ≤ nl ∧ g = nl - e ∧ t = .int .i64 e ∧ (∀ j, j < e → rightB es j (ls.getD j []) = true) ∧ Below w1.heap.size w1 wr)
    case atStart => exact ⟨0, by omega, rfl, rfl, by omega, Below.refl _ _⟩
    case round =>
      obtain ⟨e, hel, rfl, rfl, hrt, hb⟩ := hrel
      have HRT := Lib.hid hrt
      have HB := Lib.hid hb
      have hsz := hb.size
      have kr := Keeps.of_below hb (Nat.le_refl _)
      have p0 := kr _ _ p00
      have p1 := kr _ _ p01
      have R1 := Lib.hid (H1.out.keep kr)
      have R2 := Lib.hid (H2.out.keep kr)
      clear hrt hb kr
      by_cases hlt : e < nl
      · obtain ⟨ad, B, cB, rfl, ch, hrd⟩ := R2.out.at hlt
        generalize hl : ls.getD e [] = l at ch hrd
        have HL := Lib.hid hl
        have RL := Lib.hid hrd
        generalize hq : l.length = q at ch hrd
        have HQ := Lib.hid hq
        rw [hq] at RL
        have g0 := grown_cell p0
        have g1 := grown_cell p1
        have gh := grown_cell ch
        have ws : IntKind.i64.wrap ((nl : Int) + 3) = (nl : Int) + 3 := IntWalk.i64_in _ (by omega)
        clear hl hrd hq
        by_cases hq3 : q = nl + 3
        · have hbq : ((q : Int) != (nl : Int) + 3) = false := by simp; omega
          go_wp2_with fail
          refine wp_region_q (by kernel_rfl) (by kernel_rfl) ?_
          repeat (go_big_quiet_step (fail))
          refine wpQuiet_nil ?_
          intro wq hgq
          have kq := Keeps.of_below hgq (Nat.le_refl _)
          have q0 := kq _ _ p0
          have q1 := kq _ _ p1
          have qh := kq _ _ ch
          have RLq := Lib.hid (RL.out.keep kq)
          have R1q := Lib.hid (R1.out.keep kq)
          have HBq := Lib.hid (HB.out.trans (hgq.mono hsz))
          have hzq := hgq.size
          have HQ3 := Lib.hid hq3
          have hq9 : q ≤ 2000 := by omega
          clear kq hgq g0 g1 gh p0 p1 ch hbq ws hq3
          go_wp2_with fail
          go_loopg [7, 8] q (fun g t _ wi => ∃ (k : Nat) (cs : List Int), k ≤ q ∧ g = q - k ∧ t = .int .i64 k ∧ Own wi wq.heap.size 3 1 (some ⟨wq.heap.size, 0, none⟩) n n (ints cs) ∧ (∀ v : Nat, v < n → cs.getD v 0 = cnt (l.take k) (v : Int)) ∧ (∀ j, j < k → rightAt es e l j = true) ∧ Below wq.heap.size wq wi ∧ wq.heap.size < wi.heap.size)
          case atStart => exact ⟨0, List.replicate n 0, by omega, rfl, rfl, own_madeI rfl n (by unfold maxLen; omega) (Nat.le_refl _), fun v hv => by rw [List.getD_eq_getElem?_getD, List.getElem?_replicate, if_pos hv]; simp [cnt], by omega, (Below.refl _ _).alloc (Nat.le_refl _) _, by simp⟩
          case round =>
            obtain ⟨k, cs, hkq, rfl, rfl, hoc, hcs, hra, hbi, hzi⟩ := hrel
            have HOC := Lib.hid hoc
            have HCS := Lib.hid hcs
            have HRA := Lib.hid hra
            have HBi := Lib.hid hbi
            rename World => wi
            have hz2 := hbi.size
            clear hoc hcs hra hbi
            have ki := Keeps.of_below HBi.out (Nat.le_refl _)
            have i0 := ki _ _ q0
            have i1 := ki _ _ q1
            have ih := ki _ _ qh
            by_cases hkl : k < q
            · obtain ⟨x0, y0, hxy0, hx0, hy0, hne0⟩ := edge_nat HOK.out (k := e) (by rw [HE.out]; exact hlt)
              obtain ⟨x, y, hxy, hx, hy, hne⟩ := edgeOf_nat HOK.out (i := e) (k := k) (by rw [HE.out]; exact hlt)
              obtain ⟨ae, rfl, d0, d1⟩ := R1q.out.prs_at hlt
              rw [getD_edAt, hxy0] at d0 d1
              simp only at d0 d1
              have e0 := ki _ _ d0
              have e1 := ki _ _ d1
              obtain ⟨br, rfl, hkl2, ct⟩ := RLq.out.int_at hkl
              have ti := ki _ _ ct
              generalize htt : l.getD k 0 = t at ct ti
              have HT := Lib.hid htt
              have HXY := Lib.hid hxy
              have i1a : (wi.alloc (.cells #[.int .i64 (x0 : Int), .int .i64 (y0 : Int)] 42)).cell? ⟨w.heap.size, 1, none⟩ = some (.slice (some ae) nl c) := Keeps.alloc wi _ _ _ i1
              have KI := Lib.hid ki
              have HXY0 := Lib.hid hxy0
              clear htt ki hxy0 hxy
              go_upto_if 52 with fail
              go_cut [8] (fun t8 wx => t8 = .pointer (some ⟨wi.heap.size, 0, none⟩) ∧ wx.cell? ⟨wi.heap.size, 0, none⟩ = some (.int .i64 (x : Int)) ∧ wx.cell? ⟨wi.heap.size, 1, none⟩ = some (.int .i64 (y : Int)) ∧ Below wi.heap.size wi wx ∧ wi.heap.size < wx.heap.size)
              case first =>
                by_cases hkn : k < nl
                · obtain ⟨ae', ee, f0, f1⟩ := R1q.out.prs_at hkn
                  obtain rfl : ae = ae' := by injection ee
                  have hek : es.getD k (0, 0) = ((x : Int), (y : Int)) := by have h9 := HXY.out; unfold edgeOf at h9; rw [if_pos (by rw [HE.out]; exact hkn)] at h9; exact h9
                  rw [hek] at f0 f1
                  simp only at f0 f1
                  have f0a : (wi.alloc (.cells #[.int .i64 (x0 : Int), .int .i64 (y0 : Int)] 42)).cell? (ae.add (k * 2)) = some (.int .i64 (x : Int)) := Keeps.alloc wi _ _ _ (KI.out _ _ f0)
                  have f1a : (wi.alloc (.cells #[.int .i64 (x0 : Int), .int .i64 (y0 : Int)] 42)).cell? ⟨(ae.add (k * 2)).block, (ae.add (k * 2)).off + 1, none⟩ = some (.int .i64 (y : Int)) := Keeps.alloc wi _ _ _ (KI.out _ _ f1)
                  clear ee hek f0 f1
                  go_wp2_with fail
                  go_meet
                  exact ⟨rfl, by simp, by simp, by first | exact (Below.refl _ _).alloc (Nat.le_refl _) _ | exact (((Below.refl _ _).alloc (Nat.le_refl _) _).setCell (by simp) _).setCell (by simp) _, by simp⟩
                · have hek : ((x0 : Int), (y0 : Int)) = ((x : Int), (y : Int)) := by have h9 := HXY.out; unfold edgeOf at h9; rw [if_neg (by rw [HE.out]; exact hkn), getD_edAt, HXY0.out] at h9; exact h9
                  have hek1 : x0 = x := by injection hek with h1 h2; omega
                  have hek2 : y0 = y := by injection hek with h1 h2; omega
                  subst hek1 hek2
                  clear hek
                  go_wp2_with fail
                  go_meet
                  exact ⟨rfl, by simp, by simp, (Below.refl _ _).alloc (Nat.le_refl _) _, by simp⟩
              case rest =>
                obtain ⟨rfl, v0, v1, hbc, hzc⟩ := hcut
                rename World => wc
                have HBc := Lib.hid (HBi.out.trans (hbc.mono hz2))
                have hzc2 := hbc.size
                have HOCc := Lib.hid (HOC.out.later hbc)
                have hc := Keeps.of_below hbc (Nat.le_refl _) _ _ ih
                have tc := Keeps.of_below hbc (Nat.le_refl _) _ _ ti
                have k1 := grown_cell hc
                have k2 := grown_cell tc
                have k3 := grown_cell v0
                have k4 := grown_cell v1
                have hcn := cnt_nonneg (l.take k)
                have hcl := fun v => cnt_le (l.take k) v
                have hlk : (l.take k).length ≤ k := by rw [List.length_take]; omega
                clear hbc i0 i1 i1a ih ti d0 d1 e0 e1
                have cont : ∀ tv : Nat, t = (tv : Int) → tv < n → tailAt es e l k = true → ∀ wd : World, Below wc.heap.size wc wd → Hid (Below wq.heap.size wq wd ∧ Own wd wq.heap.size 3 1 (some ⟨wq.heap.size, 0, none⟩) n n (ints cs) ∧ tailAt es e l k = true) := fun tv _ _ hta wd hbd => Lib.hid ⟨HBc.out.trans (hbd.mono (by omega)), HOCc.out.later hbd, hta⟩
                have CONT := Lib.hid cont
                clear cont
                cases h1 : (t != (x : Int))
                case' true =>
                  cases h2 : (t != (y : Int))
                  case' true =>
                    go_wp2_with fail
                    refine wp_region_q (by kernel_rfl) (by kernel_rfl) ?_
                    repeat (go_big_quiet_step (fail))
                    refine wpQuiet_nil ?_
                    intro wd hgd
                    go_wp2_with fail
                    go_ret
                    have hta : tailAt es e l k = false := by
                      unfold tailAt
                      rw [HT.out, HXY.out]
                      simp only [Bool.or_eq_false_iff, decide_eq_false_iff_not]
                      simp at h1 h2
                      exact ⟨h1, h2⟩
                    exact ⟨ret_bool (certB_no (i := e) (by rw [HLL.out]; exact hlt) (by rw [HL.out]; exact rightB_noAt (k := k) (by rw [HQ.out]; exact hkl) (by unfold rightAt; rw [hta]; rfl))).symm, S1.out.trans ((HBq.out.trans (HBc.out.trans (hgd.mono (by omega)) |>.mono (by omega))).mono (by omega))⟩
                  obtain rfl : t = (y : Int) := by simpa using h2
                  have hta : tailAt es e l k = true := by unfold tailAt; rw [HT.out, HXY.out]; simp
                  have htn := hy
                  obtain ⟨tv, htv⟩ : ∃ tv : Nat, tv = y := ⟨_, rfl⟩
                  subst htv
                case' false =>
                  obtain rfl : t = (x : Int) := by simpa using h1
                  have hta : tailAt es e l k = true := by unfold tailAt; rw [HT.out, HXY.out]; simp
                  have htn := hx
                  obtain ⟨tv, htv⟩ : ∃ tv : Nat, tv = x := ⟨_, rfl⟩
                  subst htv
                all_goals
                 go_wp2_with fail
                 refine wp_region_q (by kernel_rfl) (by kernel_rfl) ?_
                 repeat (go_big_quiet_step (fail))
                 refine wpQuiet_nil ?_
                 intro wd hgd
                 have FD := CONT.out tv rfl htn hta wd hgd
                 have kd := Keeps.of_below hgd (Nat.le_refl _)
                 have hd := kd _ _ hc
                 have td := kd _ _ tc
                 have hcv := HCS.out tv htn
                 have hcn1 := hcn (tv : Int)
                 have hcl1 := hcl (tv : Int)
                 have cd := FD.out.2.1.cell htn
                 have fd := FD.out.2.1.frozen tv
                 rw [hcv] at cd
                 have hstep := cnt_take l k (by rw [HQ.out]; exact hkl) (tv : Int)
                 rw [HT.out, if_pos rfl] at hstep
                 generalize hct : cnt (l.take k) (tv : Int) = ctv at cd hcn1 hcl1 hstep
                 have HCT := Lib.hid (hcv.trans hct)
                 have HSTEP := Lib.hid hstep
                 have hzd := hgd.size
                 have hc9 : ctv ≤ 2000 := by have := HQ3.out; omega
                 have HKL := Lib.hid hkl
                 have HLC : Hid (tv < cs.length) := Lib.hid (by have := HOC.out.len; rw [ints_length] at this; omega)
                 have t0 : (0 : Int) ≤ (tv : Int) := by omega
                 have t1 : (tv : Int) < (n : Int) := by omega
                 have B2 : Hid (Below wq.heap.size wq (wd.setCell ⟨wq.heap.size, tv, none⟩ (.int .i64 (ctv + 1)))) := Lib.hid (FD.out.1.setCell (Nat.le_refl _) _)
                 have hd2 : (wd.setCell ⟨wq.heap.size, tv, none⟩ (.int .i64 (ctv + 1))).cell? (ad.add e) = some (.slice (some br) q cB) := Keeps.of_below B2.out (Nat.le_refl _) _ _ qh
                 have td2 : (wd.setCell ⟨wq.heap.size, tv, none⟩ (.int .i64 (ctv + 1))).cell? (br.add k) = some (.int .i64 (tv : Int)) := Keeps.of_below B2.out (Nat.le_refl _) _ _ ct
                 have cd2 : (wd.setCell ⟨wq.heap.size, tv, none⟩ (.int .i64 (ctv + 1))).cell? ⟨wq.heap.size, tv, none⟩ = some (.int .i64 (ctv + 1)) := World.cell?_setCell_same _ _ _ cd
                 have O2 : Hid (Own (wd.setCell ⟨wq.heap.size, tv, none⟩ (.int .i64 (ctv + 1))) wq.heap.size 3 1 (some ⟨wq.heap.size, 0, none⟩) n n (ints (cs.set tv (ctv + 1)))) := Lib.hid (FD.out.2.1.store tv (ctv + 1))
                 have hrAt : Hid (rightAt es e l k = decide (ctv + 1 ≤ 2)) := Lib.hid (rightAt_of_yes (by rw [HQ.out]; exact hkl) hta HT.out hct)
                 clear hcv hct hcn hcl hstep hgd kd
                 by_cases hle : ctv + 1 ≤ 2
                 · have hle2 : decide (2 < ctv + 1) = false := by simp; omega
                   go_wp2_with fail
                   go_roundg (q - (k + 1))
                   case measure => omega
                   case rel => exact ⟨k + 1, cs.set tv (ctv + 1), by have h7 := HKL.out; have h8 := HQ3.out; omega, rfl, by go_num, O2.out, fun v hv => by
                     rw [getD_set_int HLC.out]
                     by_cases ev : v = tv
                     · subst ev; rw [if_pos rfl, HSTEP.out]
                     · rw [if_neg ev, HCS.out v hv, cnt_take l k (by rw [HQ.out]; exact hkl) (v : Int), HT.out, if_neg (fun (h : (tv : Int) = (v : Int)) => ev (by omega)), Int.add_zero], fun j hj => by
                     by_cases ej : j = k
                     · rw [ej, hrAt.out, decide_eq_true hle]
                     · exact HRA.out j (by omega), B2.out, by simp; omega⟩
                 · have hle3 : 2 < ctv + 1 := by omega
                   have HLE := Lib.hid hle
                   clear hle
                   go_wp2_with fail
                   go_ret
                   exact ⟨ret_bool (certB_no (i := e) (by rw [HLL.out]; exact hlt) (by rw [HL.out]; exact rightB_noAt (k := k) (by rw [HQ.out]; exact hkl) (by rw [hrAt.out, decide_eq_false (by have := HLE.out; omega : ¬ ctv + 1 ≤ 2)]))).symm, S1.out.trans ((HBq.out.trans (B2.out.mono (by omega))).mono (by omega))⟩
            · obtain rfl : k = q := by omega
              go_wp2_with fail
              go_roundg (nl - (e + 1))
              case measure => omega
              case rel => exact ⟨e + 1, by omega, rfl, by go_num, fun j hj => by
                by_cases ej : j = e
                · subst ej; rw [HL.out]; exact rightB_yes (by rw [HQ.out, HE.out]; exact HQ3.out) (fun i hi => HRA.out i (by rw [HQ.out] at hi; exact hi))
                · exact HRT.out j (by omega), HBq.out.trans (HBi.out.mono (by omega))⟩
        · have hbq : ((q : Int) != (nl : Int) + 3) = true := by simp; omega
          have HQ3 := Lib.hid hq3
          clear hq3
          go_wp2_with fail
          refine wp_region_q (by kernel_rfl) (by kernel_rfl) ?_
          repeat (go_big_quiet_step (fail))
          refine wpQuiet_nil ?_
          intro wq hgq
          go_wp2_with fail
          go_ret
          exact ⟨ret_bool (certB_no (i := e) (by rw [HLL.out]; exact hlt) (by rw [HL.out]; exact rightB_noLen (by rw [HQ.out, HE.out]; exact HQ3.out))).symm, S1.out.trans ((HB.out.trans (hgq.mono hsz)).mono (by omega))⟩
      · obtain rfl : e = nl := by omega
        go_wp2_with fail
        go_ret
        exact ⟨ret_bool (certB_yes (by rw [HLL.out, HE.out]) (fun j hj => HRT.out j (by rw [HLL.out] at hj; exact hj))).symm, S1.out.trans (HB.out.mono (by omega))⟩
  · have hbl : ((nl : Int) != (m : Int)) = true := by simp; omega
    have HLEN := Lib.hid hlen
    clear hlen
    go_enter Try.func61, Try.ntmps61
    go_wp2_with fail
    go_ret
    exact ⟨ret_bool (certB_len (by rw [HLL.out, HE.out]; exact HLEN.out)).symm, S1.out⟩
end Go.Proofs.Ytagcaljpgifppaa

namespace Go.Proofs.Ytagcaljpgifppaa
set_option linter.unusedVariables false
set_option linter.unusedSimpArgs false

def inR (rest : List (Int × Int)) (i k : Nat) : Bool := rest.any fun e => decide (e = ((i : Int), (k : Int)))
def cplR (rest : List (Int × Int)) (i : Nat) : Nat → List (Int × Int)
  | 0 => []
  | k + 1 => cplR rest i k ++ if (decide (i < k) && !inR rest i k) = true then [((i : Int), (k : Int))] else []
def cplI (rest : List (Int × Int)) (n : Nat) : Nat → List (Int × Int)
  | 0 => []
  | i + 1 => cplI rest n i ++ cplR rest i n
def cplE (rest : List (Int × Int)) (n : Nat) : List (Int × Int) := cplI rest n n
theorem inR_take {rest : List (Int × Int)} {i k q : Nat} (hq : q < rest.length) : inR (rest.take (q + 1)) i k = (inR (rest.take q) i k || decide (rest.getD q (0, 0) = ((i : Int), (k : Int)))) := by
  unfold inR
  rw [List.take_succ_eq_append_getElem hq, List.any_append, List.getD_eq_getElem?_getD, List.getElem?_eq_getElem hq]
  simp
theorem inR_whole {rest : List (Int × Int)} {i k q : Nat} (hq : q = rest.length) : inR (rest.take q) i k = inR rest i k := by rw [hq, List.take_length]
theorem cplR_low {rest : List (Int × Int)} {i : Nat} : ∀ {k : Nat}, k ≤ i + 1 → cplR rest i k = []
  | 0, _ => rfl
  | k + 1, h => by
    unfold cplR
    rw [cplR_low (by omega : k ≤ i + 1), if_neg (by simp; omega)]
    rfl
theorem cplR_yes {rest : List (Int × Int)} {i k : Nat} (h : i < k) (hr : inR rest i k = true) : cplR rest i (k + 1) = cplR rest i k := by
  rw [cplR, hr]; simp
theorem cplR_no {rest : List (Int × Int)} {i k : Nat} (h : i < k) (hr : inR rest i k = false) : cplR rest i (k + 1) = cplR rest i k ++ [((i : Int), (k : Int))] := by
  rw [cplR, hr]; simp [h]
theorem cplR_len (rest : List (Int × Int)) (i : Nat) : ∀ k, (cplR rest i k).length ≤ k
  | 0 => by simp [cplR]
  | k + 1 => by
    have := cplR_len rest i k
    rw [cplR, List.length_append]
    split <;> simp <;> omega
theorem cplI_len (rest : List (Int × Int)) (n : Nat) : ∀ i, (cplI rest n i).length ≤ i * n
  | 0 => by simp [cplI]
  | i + 1 => by
    have := cplI_len rest n i
    have := cplR_len rest i n
    rw [cplI, List.length_append, Nat.succ_mul]
    omega
end Go.Proofs.Ytagcaljpgifppaa

namespace Go.Proofs.Ytagcaljpgifppaa
set_option linter.unusedVariables false
set_option linter.unusedSimpArgs false
open Go.RowKit Go.Sort

attribute [local go_sem ↓] Go.wp_at_zero Go.wp_at_succ
theorem pair_dec (x y a b : Int) : decide ((x, y) = (a, b)) = (x == a && y == b) := by
  by_cases h1 : x = a <;> by_cases h2 : y = b <;> simp [h1, h2]
structure CX (w wr : World) (n : Nat) (B : Option Addr) (l c : Nat) (L : List (Int × Int)) : Prop where
  bel : Below w.heap.size w wr
  size : w.heap.size + 1 < wr.heap.size
  r0 : wr.cell? ⟨w.heap.size, 0, none⟩ = some (.int .i64 0)
  r1 : wr.cell? ⟨w.heap.size, 1, none⟩ = some (.slice none 0 0)
  f0 : wr.frozen? ⟨w.heap.size, 0, none⟩ = false
  f1 : wr.frozen? ⟨w.heap.size, 1, none⟩ = false
  g0 : wr.cell? ⟨w.heap.size + 1, 0, none⟩ = some (.int .i64 n)
  g1 : wr.cell? ⟨w.heap.size + 1, 1, none⟩ = some (.slice B l c)
  h1 : wr.frozen? ⟨w.heap.size + 1, 1, none⟩ = false
  len : L.length = l
  own : Own wr (w.heap.size + 2) 42 2 B l c (prs L)
theorem CX.later {w wr w' : World} {n l c : Nat} {B : Option Addr} {L : List (Int × Int)} (h : CX w wr n B l c L) (hb : Below wr.heap.size wr w') : CX w w' n B l c L := by
  have hz := h.size
  have k := Keeps.of_below hb (Nat.le_refl _)
  exact ⟨h.bel.trans (hb.mono (by omega)), Nat.lt_of_lt_of_le hz hb.size, k _ _ h.r0, k _ _ h.r1, by rw [hb.frozen (by simp; omega)]; exact h.f0, by rw [hb.frozen (by simp; omega)]; exact h.f1, k _ _ h.g0, k _ _ h.g1, by rw [hb.frozen (by simp; omega)]; exact h.h1, h.len, h.own.later hb⟩
theorem CX.push {w wr w4 : World} {n l c d : Nat} {B D : Option Addr} {L : List (Int × Int)} {x y : Int} (h : CX w wr n B l c L) (hb : Below (w.heap.size + 2) wr w4) (ho : Own w4 (w.heap.size + 2) 42 2 D (l + 1) d (prs (L ++ [(x, y)]))) :
    CX w (w4.setCell ⟨w.heap.size + 1, 1, none⟩ (.slice D (l + 1) d)) n D (l + 1) d (L ++ [(x, y)]) := by
  have hz := h.size
  have c0 := h.g1
  have e : ∀ a : Addr, a.block < w.heap.size + 2 → w4.cell? a = wr.cell? a := fun a ha => hb.cell ha
  refine ⟨(h.bel.trans (hb.mono (by omega))).setCell (by simp) _, ?_, ?_, ?_, ?_, ?_, ?_, ?_, ?_, ?_, ?_⟩
  · simp; exact Nat.lt_of_lt_of_le hz hb.size
  · rw [World.cell?_setCell_other _ _ _ _ (by simp), e _ (by simp)]; exact h.r0
  · rw [World.cell?_setCell_other _ _ _ _ (by simp), e _ (by simp)]; exact h.r1
  · simp; rw [hb.frozen (by simp)]; exact h.f0
  · simp; rw [hb.frozen (by simp)]; exact h.f1
  · rw [World.cell?_setCell_other _ _ _ _ (by simp), e _ (by simp)]; exact h.g0
  · exact World.cell?_setCell_same _ _ _ (by rw [e _ (by simp)]; exact c0)
  · simp; rw [hb.frozen (by simp)]; exact h.h1
  · rw [List.length_append, h.len]; rfl
  · exact ho.setOther (by simp) _

def CplPost (w : World) (n : Nat) (l : List (Int × Int)) (e : Ending) (w' : World) : Prop :=
  Below w.heap.size w w' ∧ ∃ B c, e = .returned (.agg #[.int .i64 n, .slice B l.length c]) ∧ Rd w' 2 B l.length (prs l)
theorem CX.start (w : World) (n : Nat) : CX w ((w.alloc (.cells #[.int .i64 0, .slice none 0 0] 24)).alloc (.cells #[.int .i64 n, .slice none 0 0] 24)) n none 0 0 [] := by
  refine ⟨((Below.refl _ _).alloc (Nat.le_refl _) _).alloc (by simp) _, by simp, ?_, ?_, ?_, ?_, ?_, ?_, ?_, rfl, Own.nil _ _ _ _⟩
  · exact Keeps.alloc _ _ _ _ (cell_at rfl _ _ 0 rfl)
  · exact Keeps.alloc _ _ _ _ (cell_at rfl _ _ 1 rfl)
  · simp
  · simp
  · exact cell_at (by simp) _ _ 0 rfl
  · exact cell_at (by simp) _ _ 1 rfl
  · simp
set_option maxRecDepth 100000 in
set_option maxHeartbeats 8000000 in
theorem cpl_any (n : Nat) (A : Option Addr) (m c : Nat) (rest : List (Int × Int)) (w : World) (hn : n ≤ 20) (hm : m ≤ 20) (hr : Rd w 2 A m (prs rest)) :
    Calls Try.prog 58 #[.int .i64 n, .slice A m c] w (CplPost w n (cplE rest n)) := by
  have HR := Lib.hid hr
  have HM := Lib.hid hr.prs_len
  clear hr
  go_enter Try.func58, Try.ntmps58
  go_wp2_with fail
  go_loopg [6, 7, 8, 10, 14] n (fun g _ _ _ _ t wr => ∃ (i : Nat) (B : Option Addr) (l cB : Nat), i ≤ n ∧ g = n - i ∧ t = .int .i64 i ∧ CX w wr n B l cB (cplI rest n i))
  case atStart => exact ⟨0, none, 0, 0, by omega, rfl, rfl, CX.start w n⟩
  case round =>
    obtain ⟨i, B, l, cB, hi, rfl, rfl, hcx⟩ := hrel
    have hll := hcx.len
    have hlb := cplI_len rest n i
    have hib : i * n ≤ 400 := Nat.mul_le_mul (by omega : i ≤ 20) hn
    have HCX := Lib.hid hcx
    rw [hll] at hlb
    have hl9 : l ≤ 400 := by omega
    have g0 := hcx.g0
    have g1 := hcx.g1
    have r0 := hcx.r0
    have r1 := hcx.r1
    have f0 := hcx.f0
    have f1 := hcx.f1
    have hz := hcx.size
    clear hcx hll hlb hib
    by_cases hlt : i < n
    · go_wp2_with fail
      go_loopg [7, 8, 10] (n - (i + 1)) (fun g kk _ _ wi => ∃ (k : Nat) (B2 : Option Addr) (l2 cB2 : Nat), i + 1 ≤ k ∧ k ≤ n ∧ g = n - k ∧ kk = .int .i64 k ∧ CX w wi n B2 l2 cB2 (cplI rest n i ++ cplR rest i k))
      case atStart => exact ⟨i + 1, B, l, cB, by omega, by omega, rfl, by go_num, by rw [cplR_low (Nat.le_refl _), List.append_nil]; exact HCX.out⟩
      case round =>
        obtain ⟨k, B2, l2, cB2, hik, hkn, rfl, rfl, hc2⟩ := hrel
        rename World => wi
        have hl2 := hc2.len
        have hlb2 := cplR_len rest i k
        rw [List.length_append, HCX.out.len] at hl2
        have hl29 : l2 ≤ 420 := by omega
        have HC2 := Lib.hid hc2
        have g0 := hc2.g0
        have g1 := hc2.g1
        have h1 := hc2.h1
        have hz2 := hc2.size
        have RW := Lib.hid (HR.out.keep (Keeps.of_below hc2.bel (Nat.le_refl _)))
        clear hc2 hl2 hlb2
        by_cases hk : k < n
        · go_wp2_with fail
          go_loopg [8, 10, 26] m (fun g o _ t wq => ∃ (q : Nat), q ≤ m ∧ g = m - q ∧ t = .int .i64 q ∧ o = .bool (inR (rest.take q) i k) ∧ Below wi.heap.size wi wq)
          case atStart => exact ⟨0, by omega, rfl, rfl, by rw [List.take_zero]; rfl, Below.refl _ _⟩
          case round =>
            obtain ⟨q, hq, rfl, rfl, rfl, hb⟩ := hrel
            rename World => wq
            have HB := Lib.hid hb
            have hszq := hb.size
            have RQ := Lib.hid (RW.out.keep (Keeps.of_below hb (Nat.le_refl _)))
            clear hb
            by_cases hqm : q < m
            · have ST : Hid (inR (rest.take (q + 1)) i k = (inR (rest.take q) i k || decide (rest.getD q (0, 0) = ((i : Int), (k : Int))))) := Lib.hid (inR_take (by rw [HM.out]; exact hqm))
              obtain ⟨ad, rfl, c0, c1⟩ := RQ.out.prs_at hqm
              generalize hxy : rest.getD q (0, 0) = xy at c0 c1 ST
              obtain ⟨x, y⟩ := xy
              simp only at c0 c1
              clear hxy
              generalize inR (rest.take q) i k = ob at ST ⊢
              cases ob
              · have EQ := eqPair
                rw [pair_dec, Bool.false_or] at ST
                have HST := Lib.hid ST.out
                go_wp2_with fail
                go_roundg (m - (q + 1))
                case measure => omega
                case rel => exact ⟨q + 1, by omega, rfl, by go_num, by rw [HST.out], HB.out.alloc (by omega) _⟩
              · go_wp2_with fail
                go_roundg (m - (q + 1))
                case measure => omega
                case rel => exact ⟨q + 1, by omega, rfl, by go_num, by rw [ST.out, Bool.true_or], HB.out.alloc (by omega) _⟩
            · obtain rfl : q = m := by omega
              have HIW := inR_whole (rest := rest) (i := i) (k := k) HM.out.symm
              rw [HIW]
              clear HIW
              generalize hib : inR rest i k = ib
              cases ib
              · have EN := Lib.hid (cplR_no (by omega : i < k) hib)
                clear hib
                have HCQ := Lib.hid (HC2.out.later HB.out)
                have g1 := HCQ.out.g1
                have h1 := HCQ.out.h1
                have hzq := HCQ.out.size
                go_wp2_with (first
                  | (at_builtin; refine wpList_app _ rfl (.tmp 42) (.tmp 46) 22 rfl (w.heap.size + 2) 42 (.agg #[.int .i64 0, .int .i64 0]) 2 16 Try.underlying22 info_pair rfl (by decide) B2 l2 cB2 (prs (cplI rest n i ++ cplR rest i k)) rfl (HCQ.out.own.alloc _) (some ⟨wq.heap.size, 0, none⟩) 1 1 (prs [((i : Int), (k : Int))]) rfl (rd_lit2_at rfl [((i : Int), (k : Int))] _) (prs_one _) (by omega) (by unfold maxLen; omega) (by simp; omega) ?_; intro B4 c4 w4 ho4 hg4 hb4; rw [← prs_app] at ho4; have OWN4 := Lib.hid ho4; have S3 : Hid (Below (w.heap.size + 2) wq w4) := Lib.hid (((Below.refl _ _).alloc (by omega) _).grown hg4 (by simp; omega) (fun b hb => (HCQ.out.own.lt hb).1)); have hz4 := S3.out.size; have g1 : w4.cell? ⟨w.heap.size + 1, 1, none⟩ = some (.slice B2 l2 cB2) := (by rw [S3.out.cell (by simp)]; exact g1); have h1 : w4.frozen? ⟨w.heap.size + 1, 1, none⟩ = false := (by rw [S3.out.frozen (by simp)]; exact h1); clear ho4 hg4 hb4)
                  | fail)
                go_roundg (n - (k + 1))
                case measure => omega
                case rel => exact ⟨k + 1, B4, l2 + 1, c4, by omega, by omega, rfl, by go_num, by rw [EN.out, ← List.append_assoc]; exact HCQ.out.push S3.out OWN4.out⟩
              · have EN := Lib.hid (cplR_yes (by omega : i < k) hib)
                clear hib
                go_wp2_with fail
                go_roundg (n - (k + 1))
                case measure => omega
                case rel => exact ⟨k + 1, B2, l2, cB2, by omega, by omega, rfl, by go_num, by rw [EN.out]; exact HC2.out.later HB.out⟩
        · obtain rfl : k = n := by omega
          go_wp2_with fail
          go_roundg (k - (i + 1))
          case measure => omega
          case rel => exact ⟨i + 1, B2, l2, cB2, by omega, rfl, by go_num, by rw [cplI]; exact HC2.out⟩
    · obtain rfl : i = n := by omega
      go_wp2_with fail
      refine bodyPost_ret (v := .agg #[.int .i64 i, .slice B l cB]) (by simp [results, Try.results58, go_sem, r0, r1]) rfl ⟨(HCX.out.bel.setCell (by simp) _).setCell (by simp) _, B, cB, by unfold cplE; rw [HCX.out.len], ?_⟩
      unfold cplE
      rw [HCX.out.len]
      have hB : ∀ j, blk B = some j → w.heap.size + 2 ≤ j := fun j hj => (HCX.out.own.lt hj).1
      exact (Own.setOther (Own.setOther HCX.out.own (by simp) _) (by simp) _).rd
end Go.Proofs.Ytagcaljpgifppaa

namespace Go.Proofs.Ytagcaljpgifppaa
set_option linter.unusedVariables false
set_option linter.unusedSimpArgs false

instance okN_dec (n : Nat) (es : List (Int × Int)) (T : Nat) : Decidable (okN n es T) := by unfold okN; infer_instance
instance okE_dec (n : Nat) (e : Int × Int) : Decidable (OkE n e) := by unfold OkE; infer_instance
theorem spa_dec {n : Nat} {es : List (Int × Int)} (hn : n ≤ 60) (hok : ∀ e ∈ es, OkE n e) (h : ∀ T, T < 2 ^ n → okN n es T) : SpA es :=
  (indB_iff (ok60_of hn hok)).1 ((indB_sets hn hok).2 h)
theorem rank_spa {es : List (Int × Int)} (ho : Ok60 es) (h : SpA es) : rankE es = es.length := by
  unfold rankE
  rw [grd_whole Ok60.nil ho (by simpa using h)]
  simp
theorem rank_dec {n : Nat} {es : List (Int × Int)} (hn : n ≤ 60) (hok : ∀ e ∈ es, OkE n e) (h : ∀ T, T < 2 ^ n → okN n es T) : rankE es = es.length :=
  rank_spa (ok60_of hn hok) (spa_dec hn hok h)
/-- One edge too many. -/
theorem rank_over {n S : Nat} {es : List (Int × Int)} {e : Int × Int} (hn : n ≤ 60) (hok : ∀ x ∈ es, OkE n x) (he : OkE n e) (h : ∀ T, T < 2 ^ n → okN n es T) (h2 : 2 ≤ cntB 60 S) (h3 : 2 * (cntB 60 S : Int) - 3 < spanS (es ++ [e]) S) : rankE (es ++ [e]) = es.length := by
  have ho := ok60_of hn hok
  have hs := spa_dec hn hok h
  unfold rankE
  rw [grd_app, grd_whole Ok60.nil ho (by simpa using hs), List.nil_append, grd_cons, addE_no ho (he.mono hn) (fun hs => by have := hs S h2; omega)]
  rfl
def K3 : List (Int × Int) := [(0, 1), (0, 2), (1, 2)]
def K4 : List (Int × Int) := [(0, 1), (0, 2), (0, 3), (1, 2), (1, 3), (2, 3)]
def C4 : List (Int × Int) := [(0, 1), (0, 3), (1, 2), (2, 3)]
def D4 : List (Int × Int) := [(0, 1), (0, 3), (1, 2), (1, 3), (2, 3)]
theorem cpl_K3 : cplE [] 3 = K3 := by decide
theorem cpl_K4 : cplE [] 4 = K4 := by decide
theorem cpl_C4 : cplE [(0, 2), (1, 3)] 4 = C4 := by decide
theorem cpl_D4 : cplE [(0, 2)] 4 = D4 := by decide
theorem rank_K3 : rankE K3 = 3 := rank_dec (n := 3) (by decide) (by decide) (by decide)
theorem rank_C4 : rankE C4 = 4 := rank_dec (n := 4) (by decide) (by decide) (by decide)
theorem rank_D4 : rankE D4 = 5 := rank_dec (n := 4) (by decide) (by decide) (by decide)
theorem rank_K4 : rankE K4 = 5 := rank_over (n := 4) (S := 15) (es := [(0, 1), (0, 2), (0, 3), (1, 2), (1, 3)]) (e := (2, 3)) (by decide) (by decide) (by decide) (by decide) (by decide) (by decide)
theorem red_K4 : redE 4 K4 = [0, 1, 2, 3, 4, 5] := by
  have hv : validB 4 K4 = true := by decide
  have r0 : redB K4 0 = true := by unfold redB; rw [rank_K4]; exact decide_eq_true (rank_dec (n := 4) (by decide) (by decide) (by decide))
  have r1 : redB K4 1 = true := by unfold redB; rw [rank_K4]; exact decide_eq_true (rank_dec (n := 4) (by decide) (by decide) (by decide))
  have r2 : redB K4 2 = true := by unfold redB; rw [rank_K4]; exact decide_eq_true (rank_dec (n := 4) (by decide) (by decide) (by decide))
  have r3 : redB K4 3 = true := by unfold redB; rw [rank_K4]; exact decide_eq_true (rank_dec (n := 4) (by decide) (by decide) (by decide))
  have r4 : redB K4 4 = true := by unfold redB; rw [rank_K4]; exact decide_eq_true (rank_dec (n := 4) (by decide) (by decide) (by decide))
  have r5 : redB K4 5 = true := by unfold redB; rw [rank_K4]; exact decide_eq_true (rank_dec (n := 4) (by decide) (by decide) (by decide))
  unfold redE
  rw [if_pos hv]
  show redK K4 6 = _
  rw [redK_step, if_pos r5, redK_step, if_pos r4, redK_step, if_pos r3, redK_step, if_pos r2, redK_step, if_pos r1, redK_step, if_pos r0]
  rfl
theorem vio_K4 {S : Nat} {l : List Int} (h : l = ptsK 4 S) (h2 : 2 ≤ l.length) (h3 : 2 * (l.length : Int) - 3 < spanS K4 S) : l = [0, 1, 2, 3] := by
  subst h
  cases b0 : S.testBit 0 <;> cases b1 : S.testBit 1 <;> cases b2 : S.testBit 2 <;> cases b3 : S.testBit 3 <;>
    simp [ptsK, List.range_succ, spanS, K4, bothB, b0, b1, b2, b3] at h2 h3 ⊢
end Go.Proofs.Ytagcaljpgifppaa

namespace Go.Proofs.Ytagcaljpgifppaa
set_option linter.unusedVariables false
set_option linter.unusedSimpArgs false
open Go.RowKit Go.Sort

theorem OriR.yes {N : Int} {es : List (Int × Int)} {ls : List (List Int)} {r : Bool} (h : OriR N es ls r) (hv : validB N es = true) (hk : rankE es = es.length) : r = true ∧ ls.length = es.length ∧ ∀ j, j < es.length → rightB es j (ls.getD j []) = true := by
  unfold OriR at h; rwa [if_pos ⟨hv, hk⟩] at h
theorem OriR.no {N : Int} {es : List (Int × Int)} {ls : List (List Int)} {r : Bool} (h : OriR N es ls r) (hk : rankE es ≠ es.length) : r = false ∧ ls = [] := by
  unfold OriR at h; rwa [if_neg (fun h2 => hk h2.2)] at h
theorem k3_any (w : World) : Calls Try.prog 58 #[.int .i64 3, .slice none 0 0] w fun e w' => Below w.heap.size w w' ∧ ∃ B c, e = .returned (.agg #[.int .i64 3, .slice B 3 c]) ∧ Rd w' 2 B 3 (prs K3) := by
  have := cpl_any 3 none 0 0 [] w (by omega) (by omega) (Rd.nil _ _ _)
  rw [cpl_K3] at this
  exact this
theorem k4_any (w : World) : Calls Try.prog 58 #[.int .i64 4, .slice none 0 0] w fun e w' => Below w.heap.size w w' ∧ ∃ B c, e = .returned (.agg #[.int .i64 4, .slice B 6 c]) ∧ Rd w' 2 B 6 (prs K4) := by
  have := cpl_any 4 none 0 0 [] w (by omega) (by omega) (Rd.nil _ _ _)
  rw [cpl_K4] at this
  exact this
theorem c4_any (A : Option Addr) (w : World) (h : Rd w 2 A 2 (prs [(0, 2), (1, 3)])) : Calls Try.prog 58 #[.int .i64 4, .slice A 2 2] w fun e w' => Below w.heap.size w w' ∧ ∃ B c, e = .returned (.agg #[.int .i64 4, .slice B 4 c]) ∧ Rd w' 2 B 4 (prs C4) := by
  have := cpl_any 4 A 2 2 _ w (by omega) (by omega) h
  rw [cpl_C4] at this
  exact this
theorem d4_any (A : Option Addr) (w : World) (h : Rd w 2 A 1 (prs [(0, 2)])) : Calls Try.prog 58 #[.int .i64 4, .slice A 1 1] w fun e w' => Below w.heap.size w w' ∧ ∃ B c, e = .returned (.agg #[.int .i64 4, .slice B 5 c]) ∧ Rd w' 2 B 5 (prs D4) := by
  have := cpl_any 4 A 1 1 _ w (by omega) (by omega) h
  rw [cpl_D4] at this
  exact this
theorem ori_yes (N : Int) (A : Option Addr) (m c : Nat) (es : List (Int × Int)) (w : World) (hm : m ≤ 50000) (he : Rd w 2 A m (prs es)) (hv : validB N es = true) (hk : rankE es = es.length) (hl : es.length = m) :
    Calls Try.prog 57 #[.agg #[.int .i64 N, .slice A m c]] w fun e w' => Below w.heap.size w w' ∧ ∃ B c ls, e = .returned (.tuple #[.slice B m c, .bool true]) ∧ RdL w' B m ls ∧ certB es ls = true := by
  subst hl
  refine (pori_any N A es.length c es w hm he).mono ?_
  rintro e w' ⟨hb, B, c, ls, r, rfl, ho, hr⟩
  obtain ⟨rfl, hl, hR⟩ := hr.yes hv hk
  rw [hl] at ho
  exact ⟨hb, B, c, ls, by rw [hl], ho.rd, certB_yes hl (fun j hj => hR j (by omega))⟩
theorem ori_no (N : Int) (A : Option Addr) (m c : Nat) (es : List (Int × Int)) (w : World) (hm : m ≤ 50000) (he : Rd w 2 A m (prs es)) (hk : rankE es ≠ es.length) :
    Calls Try.prog 57 #[.agg #[.int .i64 N, .slice A m c]] w fun e w' => Below w.heap.size w w' ∧ ∃ B c, e = .returned (.tuple #[.slice B 0 c, .bool false]) := by
  refine (pori_any N A m c es w hm he).mono ?_
  rintro e w' ⟨hb, B, c, ls, r, rfl, ho, hr⟩
  obtain ⟨rfl, rfl⟩ := hr.no hk
  exact ⟨hb, B, c, rfl⟩
theorem ori_K3 (A : Option Addr) (c : Nat) (w : World) (h : Rd w 2 A 3 (prs K3)) : Calls Try.prog 57 #[.agg #[.int .i64 3, .slice A 3 c]] w fun e w' => Below w.heap.size w w' ∧ ∃ B c ls, e = .returned (.tuple #[.slice B 3 c, .bool true]) ∧ RdL w' B 3 ls ∧ certB K3 ls = true :=
  ori_yes 3 A 3 c K3 w (by omega) h (by decide) rank_K3 rfl
theorem ori_K4 (A : Option Addr) (c : Nat) (w : World) (h : Rd w 2 A 6 (prs K4)) : Calls Try.prog 57 #[.agg #[.int .i64 4, .slice A 6 c]] w fun e w' => Below w.heap.size w w' ∧ ∃ B c, e = .returned (.tuple #[.slice B 0 c, .bool false]) :=
  ori_no 4 A 6 c K4 w (by omega) h (by rw [rank_K4]; decide)
set_option maxRecDepth 100000 in
theorem vio_K4w (A : Option Addr) (c : Nat) (w : World) (h : Rd w 2 A 6 (prs K4)) : Calls Try.prog 59 #[.agg #[.int .i64 4, .slice A 6 c]] w fun e w' => Below w.heap.size w w' ∧ ∃ B c, e = .returned (.tuple #[.slice B 4 c, .bool true]) ∧ Rd w' 1 B 4 (ints [0, 1, 2, 3]) := by
  refine (pvio_any 4 A 6 c K4 w (by omega) h).mono ?_
  rintro e w' ⟨hb, B, c, l, r, rfl, ho, hr⟩
  rcases hr.2 (by decide) with ⟨-, -, h9⟩ | ⟨rfl, -, S, h1, h2, h3⟩
  · rw [rank_K4] at h9; exact absurd h9 (by decide)
  · obtain rfl := vio_K4 h1 h2 h3
    exact ⟨hb, B, c, rfl, ho.rd⟩
set_option maxRecDepth 100000 in
theorem red_K4w (A : Option Addr) (c : Nat) (w : World) (h : Rd w 2 A 6 (prs K4)) : Calls Try.prog 18 #[.agg #[.int .i64 4, .slice A 6 c]] w fun e w' => Below w.heap.size w w' ∧ ∃ B c, e = .returned (.slice B 6 c) ∧ Rd w' 1 B 6 (ints [0, 1, 2, 3, 4, 5]) := by
  refine (pred_any 4 A 6 c K4 w (by omega) h).mono ?_
  rw [red_K4]
  rintro e w' ⟨hb, B, c, rfl, ho⟩
  exact ⟨hb, B, c, rfl, ho.rd⟩
theorem free_C4 : freeE 4 C4 = 4 := by unfold freeE; rw [if_pos (by decide), rank_C4]; rfl
theorem free_D4 : freeE 4 D4 = 3 := by unfold freeE; rw [if_pos (by decide), rank_D4]; rfl
theorem rigid_K3 : rigidE 3 K3 = true := by unfold rigidE freeE; rw [if_pos (by decide), rank_K3]; decide
theorem rigid_K3w (A : Option Addr) (c : Nat) (w : World) (h : Rd w 2 A 3 (prs K3)) : Calls Try.prog 23 #[.agg #[.int .i64 3, .slice A 3 c]] w fun e w' => e = .returned (.bool true) ∧ Below w.heap.size w w' := by
  have := prigid_any 3 A 3 c K3 w (by omega) h
  rw [rigid_K3] at this
  exact this
theorem cert_b {b : Bool} (n : Nat) (A L : Option Addr) (m c nl cl : Nat) (es : List (Int × Int)) (ls : List (List Int)) (w : World) (hn : n ≤ 60) (hm : m ≤ 1000) (hnl : nl ≤ 100000) (he : Rd w 2 A m (prs es)) (hl : RdL w L nl ls) (hok : ∀ e ∈ es, OkE n e) (hb : certB es ls = b) :
    Calls Try.prog 61 #[.agg #[.int .i64 n, .slice A m c], .slice L nl cl] w fun e w' => e = .returned (.bool b) ∧ Below w.heap.size w w' := by
  subst hb; exact cert_any n A L m c nl cl es ls w hn hm hnl he hl hok
set_option maxRecDepth 100000 in
set_option maxHeartbeats 8000000 in
theorem awake_any (w : World) : Calls Try.prog 15 #[] w fun e w' => e = .returned (.bool true) ∧ Below w.heap.size w w' := by
  go_enter Try.func15, Try.ntmps15
  go_wp2_with fail
  refine (k3_any _).mono ?_
  rintro e w1 ⟨hb1, B1, c1, rfl, hr1⟩
  have X1 : Hid (Below w.heap.size w w1) := Lib.hid ((Below.refl _ _).trans (hb1.mono (Nat.le_refl _)))
  have hz1 : w.heap.size ≤ w1.heap.size := X1.out.size
  clear hb1
  have R1 := Lib.hid hr1
  clear hr1
  go_wp2_with fail
  refine (ori_K3 B1 c1 _ R1.out).mono ?_
  rintro e w2 ⟨hb2, B2, c2, ls, rfl, hr2, hc2⟩
  have X2 : Hid (Below w.heap.size w w2) := Lib.hid ((X1.out).trans (hb2.mono (hz1)))
  have hz2 : w.heap.size ≤ w2.heap.size := X2.out.size
  clear hb2
  have L := Lib.hid hr2
  have CB := Lib.hid hc2
  clear hr2 hc2
  go_wp2_with fail
  refine (k4_any _).mono ?_
  rintro e w3 ⟨hb3, B3, c3, rfl, hr3⟩
  have X3 : Hid (Below w.heap.size w w3) := Lib.hid ((X2.out).trans (hb3.mono (hz2)))
  have hz3 : w.heap.size ≤ w3.heap.size := X3.out.size
  have La := Lib.hid ((L.out).keep (Keeps.of_below hb3 (Nat.le_refl _)))
  clear hb3
  have R3 := Lib.hid hr3
  clear hr3
  go_wp2_with fail
  refine (vio_K4w B3 c3 _ R3.out).mono ?_
  rintro e w4 ⟨hb4, B4, c4, rfl, hr4⟩
  have X4 : Hid (Below w.heap.size w w4) := Lib.hid ((X3.out).trans (hb4.mono (hz3)))
  have hz4 : w.heap.size ≤ w4.heap.size := X4.out.size
  have Lb := Lib.hid ((La.out).keep (Keeps.of_below hb4 (Nat.le_refl _)))
  clear hb4
  have V := Lib.hid hr4
  clear hr4
  go_wp2_with fail
  refine (k4_any _).mono ?_
  rintro e w5 ⟨hb5, B5, c5, rfl, hr5⟩
  have X5 : Hid (Below w.heap.size w w5) := Lib.hid ((X4.out).trans (hb5.mono (hz4)))
  have hz5 : w.heap.size ≤ w5.heap.size := X5.out.size
  have Lc := Lib.hid ((Lb.out).keep (Keeps.of_below hb5 (Nat.le_refl _)))
  have Vc := Lib.hid ((V.out).keep (Keeps.of_below hb5 (Nat.le_refl _)))
  clear hb5
  have R5 := Lib.hid hr5
  clear hr5
  go_wp2_with fail
  refine (ori_K4 B5 c5 _ R5.out).mono ?_
  rintro e w6 ⟨hb6, B6, c6, rfl⟩
  have X6 : Hid (Below w.heap.size w w6) := Lib.hid ((X5.out).trans (hb6.mono (hz5)))
  have hz6 : w.heap.size ≤ w6.heap.size := X6.out.size
  have Ld := Lib.hid ((Lc.out).keep (Keeps.of_below hb6 (Nat.le_refl _)))
  have Vd := Lib.hid ((Vc.out).keep (Keeps.of_below hb6 (Nat.le_refl _)))
  clear hb6
  go_wp2_with fail
  refine (k4_any _).mono ?_
  rintro e w7 ⟨hb7, B7, c7, rfl, hr7⟩
  have X7 : Hid (Below w.heap.size w w7) := Lib.hid ((X6.out).trans (hb7.mono (hz6)))
  have hz7 : w.heap.size ≤ w7.heap.size := X7.out.size
  have Le := Lib.hid ((Ld.out).keep (Keeps.of_below hb7 (Nat.le_refl _)))
  have Ve := Lib.hid ((Vd.out).keep (Keeps.of_below hb7 (Nat.le_refl _)))
  clear hb7
  have R7 := Lib.hid hr7
  clear hr7
  go_wp2_with fail
  refine (gvalid_b (b := true) 4 B7 6 c7 K4 _ (by omega) R7.out (by decide)).mono ?_
  rintro e w8 ⟨rfl, hb8⟩
  have X8 : Hid (Below w.heap.size w w8) := Lib.hid ((X7.out).trans (hb8.mono (hz7)))
  have hz8 : w.heap.size ≤ w8.heap.size := X8.out.size
  have Lf := Lib.hid ((Le.out).keep (Keeps.of_below hb8 (Nat.le_refl _)))
  have Vf := Lib.hid ((Ve.out).keep (Keeps.of_below hb8 (Nat.le_refl _)))
  clear hb8
  go_wp2_with fail
  refine (k3_any _).mono ?_
  rintro e w9 ⟨hb9, B9, c9, rfl, hr9⟩
  have X9 : Hid (Below w.heap.size w w9) := Lib.hid ((X8.out).trans (hb9.mono (hz8)))
  have hz9 : w.heap.size ≤ w9.heap.size := X9.out.size
  have Lg := Lib.hid ((Lf.out).keep (Keeps.of_below hb9 (Nat.le_refl _)))
  have Vg := Lib.hid ((Vf.out).keep (Keeps.of_below hb9 (Nat.le_refl _)))
  clear hb9
  have R9 := Lib.hid hr9
  clear hr9
  go_wp2_with fail
  refine (rigid_K3w B9 c9 _ R9.out).mono ?_
  rintro e w10 ⟨rfl, hb10⟩
  have X10 : Hid (Below w.heap.size w w10) := Lib.hid ((X9.out).trans (hb10.mono (hz9)))
  have hz10 : w.heap.size ≤ w10.heap.size := X10.out.size
  have Lh := Lib.hid ((Lg.out).keep (Keeps.of_below hb10 (Nat.le_refl _)))
  have Vh := Lib.hid ((Vg.out).keep (Keeps.of_below hb10 (Nat.le_refl _)))
  clear hb10
  go_wp2_with fail
  refine (c4_any (some ⟨w10.heap.size, 0, none⟩) _ (rd_lit2_at rfl [(0, 2), (1, 3)] _)).mono ?_
  rintro e w11 ⟨hb11, B11, c11, rfl, hr11⟩
  have X11 : Hid (Below w.heap.size w w11) := Lib.hid (((X10.out).alloc (by omega) _).trans (hb11.mono (by simp; omega)))
  have hz11 : w.heap.size ≤ w11.heap.size := X11.out.size
  have Li := Lib.hid (((Lh.out).keep (Keeps.alloc _ _)).keep (Keeps.of_below hb11 (Nat.le_refl _)))
  have Vi := Lib.hid (((Vh.out).keep (Keeps.alloc _ _)).keep (Keeps.of_below hb11 (Nat.le_refl _)))
  clear hb11
  have R11 := Lib.hid hr11
  clear hr11
  go_wp2_with fail
  refine (pfree_b 4 4 B11 4 c11 C4 _ (by omega) R11.out free_C4).mono ?_
  rintro e w12 ⟨rfl, hb12⟩
  have X12 : Hid (Below w.heap.size w w12) := Lib.hid ((X11.out).trans (hb12.mono (hz11)))
  have hz12 : w.heap.size ≤ w12.heap.size := X12.out.size
  have Lj := Lib.hid ((Li.out).keep (Keeps.of_below hb12 (Nat.le_refl _)))
  have Vj := Lib.hid ((Vi.out).keep (Keeps.of_below hb12 (Nat.le_refl _)))
  clear hb12
  go_wp2_with fail
  refine (d4_any (some ⟨w12.heap.size, 0, none⟩) _ (rd_lit2_at rfl [(0, 2)] _)).mono ?_
  rintro e w13 ⟨hb13, B13, c13, rfl, hr13⟩
  have X13 : Hid (Below w.heap.size w w13) := Lib.hid (((X12.out).alloc (by omega) _).trans (hb13.mono (by simp; omega)))
  have hz13 : w.heap.size ≤ w13.heap.size := X13.out.size
  have Lk := Lib.hid (((Lj.out).keep (Keeps.alloc _ _)).keep (Keeps.of_below hb13 (Nat.le_refl _)))
  have Vk := Lib.hid (((Vj.out).keep (Keeps.alloc _ _)).keep (Keeps.of_below hb13 (Nat.le_refl _)))
  clear hb13
  have R13 := Lib.hid hr13
  clear hr13
  go_wp2_with fail
  refine (pfree_b 3 4 B13 5 c13 D4 _ (by omega) R13.out free_D4).mono ?_
  rintro e w14 ⟨rfl, hb14⟩
  have X14 : Hid (Below w.heap.size w w14) := Lib.hid ((X13.out).trans (hb14.mono (hz13)))
  have hz14 : w.heap.size ≤ w14.heap.size := X14.out.size
  have Ll := Lib.hid ((Lk.out).keep (Keeps.of_below hb14 (Nat.le_refl _)))
  have Vl := Lib.hid ((Vk.out).keep (Keeps.of_below hb14 (Nat.le_refl _)))
  clear hb14
  go_wp2_with fail
  refine (k4_any _).mono ?_
  rintro e w15 ⟨hb15, B15, c15, rfl, hr15⟩
  have X15 : Hid (Below w.heap.size w w15) := Lib.hid ((X14.out).trans (hb15.mono (hz14)))
  have hz15 : w.heap.size ≤ w15.heap.size := X15.out.size
  have Lm := Lib.hid ((Ll.out).keep (Keeps.of_below hb15 (Nat.le_refl _)))
  have Vm := Lib.hid ((Vl.out).keep (Keeps.of_below hb15 (Nat.le_refl _)))
  clear hb15
  have R15 := Lib.hid hr15
  clear hr15
  go_wp2_with fail
  refine (red_K4w B15 c15 _ R15.out).mono ?_
  rintro e w16 ⟨hb16, B16, c16, rfl, hr16⟩
  have X16 : Hid (Below w.heap.size w w16) := Lib.hid ((X15.out).trans (hb16.mono (hz15)))
  have hz16 : w.heap.size ≤ w16.heap.size := X16.out.size
  have Ln := Lib.hid ((Lm.out).keep (Keeps.of_below hb16 (Nat.le_refl _)))
  have Vn := Lib.hid ((Vm.out).keep (Keeps.of_below hb16 (Nat.le_refl _)))
  clear hb16
  have R16 := Lib.hid hr16
  clear hr16
  go_wp2_with fail
  refine (sameI_b (b := true) B16 (some ⟨w16.heap.size, 0, none⟩) 6 c16 6 6 [0, 1, 2, 3, 4, 5] [0, 1, 2, 3, 4, 5] _ (by omega) (by omega) (R16.out.keep (Keeps.alloc _ _)) (rd_lit_at rfl [0, 1, 2, 3, 4, 5] _) (by decide)).mono ?_
  rintro e w17 ⟨rfl, hb17⟩
  have X17 : Hid (Below w.heap.size w w17) := Lib.hid (((X16.out).alloc (by omega) _).trans (hb17.mono (by simp; omega)))
  have hz17 : w.heap.size ≤ w17.heap.size := X17.out.size
  have Lo := Lib.hid (((Ln.out).keep (Keeps.alloc _ _)).keep (Keeps.of_below hb17 (Nat.le_refl _)))
  have Vo := Lib.hid (((Vn.out).keep (Keeps.alloc _ _)).keep (Keeps.of_below hb17 (Nat.le_refl _)))
  clear hb17
  go_wp2_with fail
  refine (k3_any _).mono ?_
  rintro e w18 ⟨hb18, B18, c18, rfl, hr18⟩
  have X18 : Hid (Below w.heap.size w w18) := Lib.hid ((X17.out).trans (hb18.mono (hz17)))
  have hz18 : w.heap.size ≤ w18.heap.size := X18.out.size
  have Lp := Lib.hid ((Lo.out).keep (Keeps.of_below hb18 (Nat.le_refl _)))
  have Vp := Lib.hid ((Vo.out).keep (Keeps.of_below hb18 (Nat.le_refl _)))
  clear hb18
  have R18 := Lib.hid hr18
  clear hr18
  go_wp2_with fail
  refine (cert_b (b := true) 3 B18 B2 3 c18 3 c2 K3 ls _ (by omega) (by omega) (by omega) R18.out Lp.out (by decide) CB.out).mono ?_
  rintro e w19 ⟨rfl, hb19⟩
  have X19 : Hid (Below w.heap.size w w19) := Lib.hid ((X18.out).trans (hb19.mono (hz18)))
  have hz19 : w.heap.size ≤ w19.heap.size := X19.out.size
  have Vq := Lib.hid ((Vp.out).keep (Keeps.of_below hb19 (Nat.le_refl _)))
  clear hb19
  go_wp2_with fail
  refine (sameI_b (b := true) B4 (some ⟨w19.heap.size, 0, none⟩) 4 c4 4 4 [0, 1, 2, 3] [0, 1, 2, 3] _ (by omega) (by omega) (Vq.out.keep (Keeps.alloc _ _)) (rd_lit_at rfl [0, 1, 2, 3] _) (by decide)).mono ?_
  rintro e w20 ⟨rfl, hb20⟩
  have X20 : Hid (Below w.heap.size w w20) := Lib.hid (((X19.out).alloc (by omega) _).trans (hb20.mono (by simp; omega)))
  have hz20 : w.heap.size ≤ w20.heap.size := X20.out.size
  clear hb20
  go_wp2_with fail
  go_ret
  exact ⟨rfl, X20.out⟩
end Go.Proofs.Ytagcaljpgifppaa
