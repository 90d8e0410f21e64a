/-
  ClusterCover: the walk of the statement.
-/
import Derived.Test.YtagcaljpgifppaaCa
import Derived.Test.YtagcaljpgifppaaCv
import Derived.Test.YtagcaljpgifppaaCr9
namespace Go.Proofs.Ytagcaljpgifppaa
set_option linter.unusedVariables false
set_option linter.unusedSimpArgs false
open Go.RowKit Go.Sort
attribute [local go_sem ↓] Go.wp_at_zero Go.wp_at_succ

theorem clu_lenC {n : Nat} {es : List (Int × Int)} {ls : List (List Int)} (h : CluL n es ls) : ls.length ≤ es.length := by
  have := nodup_len_le ls (es.map fun e => clP n es e.1.toNat e.2.toNat) h.nodup (fun x hx => by
    obtain ⟨e, he, rfl⟩ := (h.mem x).1 hx
    exact List.mem_map.2 ⟨e, he, rfl⟩)
  simpa using this
theorem points36_c {b : Bool} (P : Option Addr) (k d : Nat) (ps : List Int) (w : World) (hk : k ≤ 1152921504606846976) (hp : Rd w 1 P k (ints ps)) (hb : upB ps = b) :
    Calls Try.prog 52 #[.slice P k d] w fun e w' => e = .returned (.bool b) ∧ Below w.heap.size w w' := by subst hb; exact points36_any P k d ps w hk hp
theorem countP_take {ls : List (List Int)} {f : List Int → Bool} {i : Nat} (h : i < ls.length) : (ls.take (i + 1)).countP f = (ls.take i).countP f + if f (ls.getD i []) = true then 1 else 0 := by
  rw [List.take_succ_eq_append_getElem h, List.countP_append, List.getD_eq_getElem?_getD, List.getElem?_eq_getElem h]
  simp [List.countP_cons]
theorem countP_takeI {l : List Int} {f : Int → Bool} {i : Nat} (h : i < l.length) : (l.take (i + 1)).countP f = (l.take i).countP f + if f (l.getD i 0) = true then 1 else 0 := by
  rw [List.take_succ_eq_append_getElem h, List.countP_append, List.getD_eq_getElem?_getD, List.getElem?_eq_getElem h]
  simp [List.countP_cons]
set_option maxRecDepth 100000 in
set_option maxHeartbeats 16000000 in
theorem law_cov (N : Int) (A : Option Addr) (m c : Nat) (es : List (Int × Int)) (w : World) (hm : m ≤ maxLen) (he : Rd w 2 A m (prs es)) :
    Calls Try.prog 12 #[.agg #[.int .i64 N, .slice A m c]] w fun e w' => e = .returned (.bool true) ∧ Below w.heap.size w w' := by
  have H0 := Lib.hid he
  have HE := Lib.hid he.prs_len
  have X0 : Hid (BC w N A m c (w.alloc (.cells #[.int .i64 N, .slice A m c] 24))) := Lib.hid BC.start
  unfold maxLen at hm
  clear he
  cases hv : v36 N 20 es
  · have HV20 := Lib.hid hv
    clear hv
    go_enter Try.func12, Try.ntmps12
    go_wp2_with (first
      | (go_at_call 35; refine (awake36_any _).mono ?_; rintro e w1 ⟨rfl, hb⟩; have X1 := Lib.hid (X0.out.next hb); obtain ⟨hz1, p0, p1⟩ := X1.out.facts; clear hb)
      | (go_at_call 39; refine (valid36_b N 20 A m c es _ (by omega) (by omega) (H0.out.keep X1.out.keeps) HV20.out).mono ?_; rintro e w2 ⟨rfl, hb⟩; have X2 := Lib.hid (X1.out.next hb); obtain ⟨hz2, p0, p1⟩ := X2.out.facts; clear hb)
      | fail)
    go_ret
    exact ⟨rfl, X2.out.below⟩
  have HV20 := Lib.hid hv
  have hvv := hv
  unfold v36 at hvv
  simp only [Bool.and_eq_true, decide_eq_true_eq] at hvv
  obtain ⟨hv, hN20⟩ := hvv
  obtain ⟨n, rfl, hn60⟩ := nat_of_valid hv
  have hn20 : n ≤ 20 := by omega
  have HV := Lib.hid hv
  have hm400 : m ≤ 400 := by have h1 := valid_len hv; have h2 : n * n ≤ 20 * 20 := Nat.mul_le_mul hn20 hn20; have := HE.out; omega
  clear hv
  go_enter Try.func12, Try.ntmps12
  go_wp2_with (first
    | (go_at_call 35; refine (awake36_any _).mono ?_; rintro e w1 ⟨rfl, hb⟩; have X1 := Lib.hid (X0.out.next hb); obtain ⟨hz1, p0, p1⟩ := X1.out.facts; clear hb)
    | (go_at_call 39; refine (valid36_b n 20 A m c es _ (by omega) (by omega) (H0.out.keep X1.out.keeps) HV20.out).mono ?_; rintro e w2 ⟨rfl, hb⟩; have X2 := Lib.hid (X1.out.next hb); obtain ⟨hz2, p0, p1⟩ := X2.out.facts; clear hb)
    | (go_at_call 38; refine (own36_any _ A m c es _ (by omega) (H0.out.keep X2.out.keeps)).mono ?_; rintro e w3 ⟨hb, B3, d3, rfl, hr⟩; have X3 := Lib.hid (X2.out.next hb); obtain ⟨hz3, p0, p1⟩ := X3.out.facts; have R3 := Lib.hid hr; clear hb hr)
    | (go_at_call 37; refine (clusters_any n B3 m d3 es _ (by omega) R3.out HV.out).mono ?_; rintro e w4 ⟨hb, C4, n4, c4, ls, rfl, hl, ho⟩; have X4 := Lib.hid (X3.out.next hb); obtain ⟨hz4, p0, p1⟩ := X4.out.facts; have L4 := Lib.hid hl; have R4 := Lib.hid ho.rd; have hcap4 := ho.cap; clear hb hl ho)
    | fail)
  have HN4 : Hid (ls.length = n4) := Lib.hid R4.out.1
  have hn4 : n4 ≤ 400 := by have := clu_lenC L4.out; rw [HN4.out, HE.out] at this; omega
  have CV := Lib.hid (fun i hi => cover_list hn60 HV.out L4.out (i := i) (by rw [HN4.out]; exact hi))
  have HA : Hid (∀ (A1 : Option Addr) (lx e1 : Nat) (x : List Int) (y : Int) (bb : Bool), lx ≤ 1000 → decide (y ∈ x) = bb → ∀ W, Rd W 1 A1 lx (ints x) → Calls Try.prog 50 #[.slice A1 lx e1, .int .i64 y] W fun e w'' => e = .returned (.bool bb) ∧ W = w'') := Lib.hid fun A1 lx e1 x y bb hlx hb W h => has36_b A1 lx e1 x y W (by omega) h hb
  go_loopg [27] m (fun gg t wr => ∃ k : Nat, k ≤ m ∧ gg = m - k ∧ t = .int .i64 k ∧ Below w4.heap.size w4 wr)
  case atStart => exact ⟨0, Nat.zero_le _, rfl, rfl, Below.refl _ _⟩
  case round =>
    obtain ⟨k, hk, rfl, rfl, hb⟩ := hrel
    have HB := Lib.hid hb
    have hzr := hb.size
    have XR := Lib.hid (X4.out.next hb)
    have KR := Lib.hid (Keeps.of_below hb (Nat.le_refl _))
    clear hb p0 p1
    obtain ⟨hz5, p0, p1⟩ := XR.out.facts
    by_cases hkm : k < m
    · obtain ⟨ad, rfl, c0, c1⟩ := (H0.out.keep XR.out.keeps).prs_at hkm
      have hem : es.getD k (0, 0) ∈ es := by rw [List.getD_eq_getElem?_getD, List.getElem?_eq_getElem (by rw [HE.out]; exact hkm)]; exact List.getElem_mem _
      have CO := Lib.hid (cover_one hn60 HV.out L4.out hem)
      generalize hxy : es.getD k (0, 0) = xy at *
      obtain ⟨x, y⟩ := xy
      simp only at c0 c1 CO
      clear hxy hem
      have XB : Hid (Below w4.heap.size w4 (wr.alloc (.cells #[.int .i64 x, .int .i64 y] 42))) := Lib.hid (HB.out.alloc hzr _)
      have RL := Lib.hid (R4.out.keep (Keeps.of_below XB.out (Nat.le_refl _)))
      go_wp2_with fail
      go_loopg [6, 33] n4 (fun gg cnt t wi => ∃ i : Nat, i ≤ n4 ∧ gg = n4 - i ∧ t = .int .i64 i ∧ cnt = .int .i64 (((ls.take i).countP (has2 x y) : Nat) : Int) ∧ wr.alloc (.cells #[.int .i64 x, .int .i64 y] 42) = wi)
      case atStart => exact ⟨0, Nat.zero_le _, rfl, rfl, rfl, rfl⟩
      case round =>
        obtain ⟨i, hi, rfl, rfl, rfl, rfl⟩ := hrel
        have hcl : (ls.take i).countP (has2 x y) ≤ i := Nat.le_trans (List.countP_le_length) (List.length_take_le _ _)
        by_cases hin : i < n4
        · have CT := Lib.hid (countP_take (f := has2 x y) (by rw [HN4.out]; exact hin : i < ls.length))
          have hl20 := (CV.out i hin).le
          obtain ⟨ad4, A1, e1, rfl, d0, rr⟩ := RL.out.at hin
          generalize hx : ls.getD i [] = cc at *
          have RX := Lib.hid rr
          clear hx rr
          generalize (ls.take i).countP (has2 x y) = cn at *
          have H2D : Hid (has2 x y cc = (decide (x ∈ cc) && decide (y ∈ cc))) := Lib.hid rfl
          generalize hlen : cc.length = lc at *
          cases hxc : decide (x ∈ cc)
          · have CN : Hid ((ls.take (i + 1)).countP (has2 x y) = cn) := Lib.hid (by rw [CT.out, H2D.out, hxc]; simp)
            have HXC := Lib.hid hxc
            clear hxc
            go_wp2_with (first
              | (go_at_call 50; (with_reducible refine (HA.out A1 lc e1 cc x _ (by omega) HXC.out _ RX.out).mono ?_); rintro e w9 ⟨rfl, rfl⟩)
              | fail)
            go_roundg (n4 - (i + 1))
            case measure => omega
            case rel => exact ⟨i + 1, by omega, rfl, by go_num, by rw [CN.out], rfl⟩
          · have HXC := Lib.hid hxc
            cases hyc : decide (y ∈ cc)
            · have CN : Hid ((ls.take (i + 1)).countP (has2 x y) = cn) := Lib.hid (by rw [CT.out, H2D.out, hyc]; simp)
              have HYC := Lib.hid hyc
              clear hxc hyc
              go_wp2_with (first
                | (go_at_call 50; (with_reducible refine (HA.out A1 lc e1 cc x _ (by omega) HXC.out _ RX.out).mono ?_); rintro e w9 ⟨rfl, rfl⟩)
                | (go_at_call 50; (with_reducible refine (HA.out A1 lc e1 cc y _ (by omega) HYC.out _ RX.out).mono ?_); rintro e w9 ⟨rfl, rfl⟩)
                | fail)
              go_roundg (n4 - (i + 1))
              case measure => omega
              case rel => exact ⟨i + 1, by omega, rfl, by go_num, by rw [CN.out], rfl⟩
            · have CN : Hid ((ls.take (i + 1)).countP (has2 x y) = cn + 1) := Lib.hid (by rw [CT.out, H2D.out, hxc, hyc]; simp)
              have HYC := Lib.hid hyc
              clear hxc hyc
              go_wp2_with (first
                | (go_at_call 50; (with_reducible refine (HA.out A1 lc e1 cc x _ (by omega) HXC.out _ RX.out).mono ?_); rintro e w9 ⟨rfl, rfl⟩)
                | (go_at_call 50; (with_reducible refine (HA.out A1 lc e1 cc y _ (by omega) HYC.out _ RX.out).mono ?_); rintro e w9 ⟨rfl, rfl⟩)
                | fail)
              go_roundg (n4 - (i + 1))
              case measure => omega
              case rel => exact ⟨i + 1, by omega, rfl, by go_num, by rw [CN.out]; go_num, rfl⟩
        · obtain rfl : i = n4 := by omega
          have e1 : (ls.take i).countP (has2 x y) = 1 := by rw [List.take_of_length_le (by rw [HN4.out]; exact Nat.le_refl _)]; exact CO.out
          rw [e1]
          clear e1 hcl
          go_wp2_with fail
          go_roundg (m - (k + 1))
          case measure => omega
          case rel => exact ⟨k + 1, by omega, rfl, by go_num, XB.out⟩
    · obtain rfl : k = m := by omega
      go_wp2_with fail
      go_loopg [55] n4 (fun gg t wx => ∃ i : Nat, i ≤ n4 ∧ gg = n4 - i ∧ t = .int .i64 i ∧ Below w4.heap.size w4 wx)
      case atStart => exact ⟨0, Nat.zero_le _, rfl, rfl, HB.out⟩
      case round =>
        obtain ⟨i, hi, rfl, rfl, hbx⟩ := hrel
        rename World => wx
        have HBX := Lib.hid hbx
        have hzx := hbx.size
        have XX := Lib.hid (X4.out.next hbx)
        have RLx := Lib.hid (R4.out.keep (Keeps.of_below hbx (Nat.le_refl _)))
        clear hbx p0 p1
        obtain ⟨hz6, p0, p1⟩ := XX.out.facts
        by_cases hin : i < n4
        · obtain ⟨ad, A1, e1, hC4, d0, rr⟩ := RLx.out.at hin
          have CC := Lib.hid (CV.out i hin)
          have hl20 := CC.out.le
          have hl2 := CC.out.two
          have hlast := CC.out.last
          have IR := Lib.hid (ind_rigid hn60 HV.out CC.out)
          have C2 : Hid (∀ j, j < i → (ls.getD j []).countP (fun x => decide (x ∈ ls.getD i [])) ≤ 1) := Lib.hid fun j hj => cover_two hn60 HV.out L4.out (by rw [HN4.out]; omega) (by rw [HN4.out]; exact hin) (by omega)
          have LP : Hid (∀ j, j + 1 = i → lexL (ls.getD j []) (ls.getD i []) = true) := Lib.hid fun j hj => by rw [← hj]; exact cover_lt L4.out (by rw [HN4.out]; omega)
          have UPc := Lib.hid CC.out.up
          generalize hcc : ls.getD i [] = cc at d0 rr hl20 hl2 hlast IR C2 LP UPc
          have RX := Lib.hid rr
          clear rr CC
          generalize hlen : cc.length = lc at *
          have LC := Lib.hid hlen
          clear hlen
          obtain ⟨ap, hA1, -, dl⟩ := RX.out.int_at (by omega : lc - 1 < lc)
          subst hA1
          generalize hxl : cc.getD (lc - 1) 0 = xl at dl hlast
          clear hxl
          have PT : Hid (∀ w', Keeps wx w' → Calls Try.prog 52 #[.slice (some ap) lc e1] w' fun e w'' => e = .returned (.bool true) ∧ Below w'.heap.size w' w'') := Lib.hid fun w' hw => points36_c (some ap) lc e1 cc w' (by omega) (RX.out.keep hw) UPc.out
          have cP := call_q (w := wx) PT.out
          have hm0 : (0 : Int) ≤ (lc : Int) - 1 := by omega
          have hm1 : (lc : Int) - 1 < (lc : Int) := by omega
          have hi1 : ((lc : Int) - 1).toNat = lc - 1 := by omega
          have hge : decide ((n : Int) ≤ xl) = false := decide_eq_false (by omega)
          have hlt2 : decide ((lc : Int) < 2) = false := decide_eq_false (by omega)
          have k0 := grown_cell dl
          have k1 := grown_cell p0
          have k2 := grown_cell p1
          go_upto_region 22 with fail
          go_cut [92] (fun t wy => t = .bool false ∧ Below wx.heap.size wx wy)
          case first =>
            by_cases hi0 : i = 0
            · have hid : decide (0 < i) = false := decide_eq_false (by omega)
              have hid2 : decide ((0 : Int) < (i : Int)) = false := decide_eq_false (by omega)
              clear hi0
              refine wp_region_q (by kernel_rfl) (by kernel_rfl) ?_
              repeat (go_big_quiet_step (first | with_reducible exact cP _ _))
              refine wpQuiet_nil ?_
              intro wq hgq
              go_wp2_with fail
              go_meet
              exact ⟨rfl, hgq⟩
            · have hid : decide (0 < i) = true := decide_eq_true (by omega)
              have hid2 : decide ((0 : Int) < (i : Int)) = true := decide_eq_true (by omega)
              have hj0 : (0 : Int) ≤ (i : Int) - 1 := by omega
              have hj1 : (i : Int) - 1 < (n4 : Int) := by omega
              have hj2 : ((i : Int) - 1).toNat = i - 1 := by omega
              obtain ⟨ad', A2, e2, hC4', dp, rp⟩ := RLx.out.at (by omega : i - 1 < n4)
              rw [hC4] at hC4'
              injection hC4' with hC4'
              subst hC4'
              have hlp := (CV.out (i - 1) (by omega)).le
              have hlex := LP.out (i - 1) (by omega)
              generalize ls.getD (i - 1) [] = pp at dp rp hlp hlex
              have RPp := Lib.hid rp
              clear rp
              generalize hlpp : pp.length = lp at *
              have LE : Hid (∀ w', Keeps wx w' → Calls Try.prog 53 #[.slice A2 lp e2, .slice (some ap) lc e1] w' fun e w'' => e = .returned (.bool true) ∧ Below w'.heap.size w' w'') := Lib.hid fun w' hw => less36_b A2 (some ap) lp e2 lc e1 pp cc w' (by omega) (by omega) (RPp.out.keep hw) (RX.out.keep hw) hlex
              have cL := call_q (w := wx) LE.out
              have k3 := grown_cell dp
              clear hi0 hlex
              subst hC4
              refine wp_region_q (by kernel_rfl) (by kernel_rfl) ?_
              repeat (go_big_quiet_step (first | with_reducible exact cP _ _ | with_reducible exact cL _ _))
              refine wpQuiet_nil ?_
              intro wq hgq
              go_wp2_with fail
              go_meet
              exact ⟨rfl, hgq⟩
          case rest =>
            obtain ⟨rfl, hby⟩ := hcut
            rename World => wy
            have HBY := Lib.hid (HBX.out.trans (hby.mono hzx))
            have XY := Lib.hid (XX.out.next hby)
            have KY := Lib.hid (Keeps.of_below hby (Nat.le_refl _))
            have RXy := Lib.hid (RX.out.keep KY.out)
            have RLy := Lib.hid (RLx.out.keep KY.out)
            have hzy := HBY.out.size
            clear hby p0 p1 k0 k1 k2 cP dl d0
            obtain ⟨hz7, p0, p1⟩ := XY.out.facts
            subst hC4
            have hcz : ¬ c4 = 0 := by omega
            have hs1 : (i : Int) ≤ (c4 : Int) := by omega
            go_wp2_with fail
            go_loopg [97] i (fun gg t wj => ∃ j : Nat, j ≤ i ∧ gg = i - j ∧ t = .int .i64 j ∧ wy = wj)
            case atStart => exact ⟨0, Nat.zero_le _, rfl, rfl, rfl⟩
            case round =>
              obtain ⟨j, hj, rfl, rfl, rfl⟩ := hrel
              by_cases hji : j < i
              · obtain ⟨ad', A2, e2, hC4', dp, rp⟩ := RLy.out.at (by omega : j < n4)
                injection hC4' with hC4'
                subst hC4'
                have hlp := (CV.out j (by omega)).le
                have CJ := C2.out j hji
                generalize ls.getD j [] = pp at dp rp hlp CJ
                have RPp := Lib.hid rp
                clear rp
                generalize hlpp : pp.length = lp at *
                have LPP := Lib.hid hlpp
                clear hlpp
                go_wp2_with fail
                go_loopg [13, 103] lp (fun gg cnt t wk => ∃ r : Nat, r ≤ lp ∧ gg = lp - r ∧ t = .int .i64 r ∧ cnt = .int .i64 (((pp.take r).countP (fun x => decide (x ∈ cc)) : Nat) : Int) ∧ wy = wk)
                case atStart => exact ⟨0, Nat.zero_le _, rfl, rfl, rfl, rfl⟩
                case round =>
                  obtain ⟨r, hr, rfl, rfl, rfl, rfl⟩ := hrel
                  have hcl : (pp.take r).countP (fun x => decide (x ∈ cc)) ≤ r := Nat.le_trans (List.countP_le_length) (List.length_take_le _ _)
                  by_cases hrl : r < lp
                  · obtain ⟨aq, rfl, hrp, dr⟩ := RPp.out.int_at hrl
                    have CT := Lib.hid (countP_takeI (f := fun x => decide (x ∈ cc)) hrp)
                    generalize pp.getD r 0 = y at dr CT
                    generalize (pp.take r).countP (fun x => decide (x ∈ cc)) = cn at *
                    cases hyc : decide (y ∈ cc)
                    · have CN : Hid ((pp.take (r + 1)).countP (fun x => decide (x ∈ cc)) = cn) := Lib.hid (by rw [CT.out, if_neg (by rw [hyc]; simp)]; rfl)
                      have HYC := Lib.hid hyc
                      clear hyc
                      go_wp2_with (first
                        | (go_at_call 50; (with_reducible refine (HA.out (some ap) lc e1 cc y _ (by omega) HYC.out _ RXy.out).mono ?_); rintro e w9 ⟨rfl, rfl⟩)
                        | fail)
                      go_roundg (lp - (r + 1))
                      case measure => omega
                      case rel => exact ⟨r + 1, by omega, rfl, by go_num, by rw [CN.out], rfl⟩
                    · have CN : Hid ((pp.take (r + 1)).countP (fun x => decide (x ∈ cc)) = cn + 1) := Lib.hid (by rw [CT.out, if_pos hyc])
                      have HYC := Lib.hid hyc
                      clear hyc
                      go_wp2_with (first
                        | (go_at_call 50; (with_reducible refine (HA.out (some ap) lc e1 cc y _ (by omega) HYC.out _ RXy.out).mono ?_); rintro e w9 ⟨rfl, rfl⟩)
                        | fail)
                      go_roundg (lp - (r + 1))
                      case measure => omega
                      case rel => exact ⟨r + 1, by omega, rfl, by go_num, by rw [CN.out]; go_num, rfl⟩
                  · obtain rfl : r = lp := by omega
                    have e1' : (pp.take r).countP (fun x => decide (x ∈ cc)) = pp.countP (fun x => decide (x ∈ cc)) := by rw [List.take_of_length_le (by rw [LPP.out]; exact Nat.le_refl _)]
                    rw [e1']
                    clear e1' hcl
                    generalize pp.countP (fun x => decide (x ∈ cc)) = cn at CJ ⊢
                    have hc1 : decide ((1 : Int) < (cn : Int)) = false := decide_eq_false (by omega)
                    have hc2 : decide (1 < cn) = false := decide_eq_false (by omega)
                    go_wp2_with fail
                    go_roundg (i - (j + 1))
                    case measure => omega
                    case rel => exact ⟨j + 1, by omega, rfl, by go_num, rfl⟩
              · obtain rfl : j = i := by omega
                have IND : Hid (∀ q, (pfU (jn es cc) castN lc lc).length = q → Calls Try.prog 54 #[.agg #[.int .i64 (n : Int), .slice A k c], .slice (some ap) lc e1] wy (GrPost wy lc q (pfU (jn es cc) castN lc lc))) := Lib.hid fun q hq => ind36_any n A (some ap) k c lc e1 q es cc wy (by omega) (by omega) (H0.out.keep XY.out.keeps) RXy.out hq
                have hql : (pfU (jn es cc) castN lc lc).length ≤ 400 := by have h1 := pfU_len (f := jn es cc) (v := castN) (n := lc) lc; have h2 : lc * lc ≤ 20 * 20 := Nat.mul_le_mul (by omega) (by omega); omega
                generalize hq9 : (pfU (jn es cc) castN lc lc).length = q9 at hql
                have INQ := Lib.hid (IND.out q9 hq9)
                have IR2 := IR.out
                try rw [LC.out] at IR2
                have RGC : Hid (∀ B dd W, Rd W 2 B q9 (prs (pfU (jn es cc) castN lc lc)) → Calls Try.prog 23 #[.agg #[.int .i64 (lc : Int), .slice B q9 dd]] W fun e w' => e = .returned (.bool true) ∧ Below W.heap.size W w') := Lib.hid fun B dd W h => by
                  have := prigid_any lc B q9 dd _ W (by omega) h
                  rw [IR2] at this
                  exact this
                clear IND IR2 hq9
                generalize pfU (jn es cc) castN lc lc = pl at *
                go_wp2_with (first
                  | (go_at_call 54; refine INQ.out.mono ?_; rintro e w9 ⟨hb, B9, d9, rfl, hr⟩; have B9' := Lib.hid hb; have R9 := Lib.hid hr; clear hb hr)
                  | (go_at_call 23; refine (RGC.out _ _ _ R9.out).mono ?_; rintro e w10 ⟨rfl, hb⟩; have B10' := Lib.hid (HBY.out.trans ((B9'.out.trans (hb.mono B9'.out.size)).mono hzy)); clear hb)
                  | fail)
                go_roundg (n4 - (j + 1))
                case measure => omega
                case rel => exact ⟨j + 1, by omega, rfl, by go_num, B10'.out⟩
        · obtain rfl : i = n4 := by omega
          go_wp2_with fail
          go_ret
          exact ⟨rfl, XX.out.below⟩
end Go.Proofs.Ytagcaljpgifppaa
