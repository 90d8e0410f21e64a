/-
  setsquareref36: Rank, Rigid.
-/
import Derived.Test.YtagcaljpgifppaaCr1
import Derived.Test.YtagcaljpgifppaaKc
import Derived.Test.YtagcaljpgifppaaStepG
namespace Go.Proofs.Ytagcaljpgifppaa
set_option linter.unusedVariables false
set_option linter.unusedSimpArgs false
open Go.RowKit Go.Sort
attribute [local go_sem ↓] Go.wp_at_zero Go.wp_at_succ

/-- What is chosen of the first k edges. -/
def rkK (es : List (Int × Int)) (S k : Nat) : List (Int × Int) := grd [] ((es.take k).filter (bothB S))
theorem rkK_zero (es : List (Int × Int)) (S : Nat) : rkK es S 0 = [] := rfl
theorem grd_nil (I : List (Int × Int)) : grd I [] = I := rfl
theorem rkK_step {es : List (Int × Int)} {S k : Nat} (hk : k < es.length) {e : Int × Int} (he : es.getD k (0, 0) = e) : rkK es S (k + 1) = if bothB S e = true then addE (rkK es S k) e else rkK es S k := by
  unfold rkK
  rw [List.getD_eq_getElem?_getD, List.getElem?_eq_getElem hk] at he
  simp only [Option.getD_some] at he
  rw [List.take_succ_eq_append_getElem hk, List.filter_append, he, grd_app]
  by_cases h : bothB S e = true
  · rw [if_pos h, List.filter_cons_of_pos h, List.filter_nil, grd_cons, grd_nil]
  · rw [if_neg h, List.filter_cons_of_neg h, List.filter_nil]; rfl
theorem rkK_sub (es : List (Int × Int)) (S k : Nat) : ∀ e ∈ rkK es S k, e ∈ es := fun e he => by
  have h1 := (basE_sub ((es.take k).filter (bothB S))).subset he
  exact List.mem_of_mem_take (List.mem_filter.1 h1).1
theorem rkK_len (es : List (Int × Int)) (S k : Nat) : (rkK es S k).length ≤ k := by
  have h1 := (basE_sub ((es.take k).filter (bothB S))).length_le
  have h2 := List.length_filter_le (bothB S) (es.take k)
  have h3 := List.length_take_le k es
  unfold rkK
  rw [basE_eq]
  omega
theorem rkK_end (es : List (Int × Int)) (S : Nat) : (rkK es S es.length).length = rkS es S := by unfold rkK rkS rankE; rw [List.take_length]
set_option maxRecDepth 100000 in
set_option maxHeartbeats 8000000 in
theorem rank36_any (n : Nat) (A : Option Addr) (m c : Nat) (es : List (Int × Int)) (S : Nat) (w : World) (hn : n ≤ 7) (hm : m ≤ 90) (hS : S < 2 ^ n) (he : Rd w 2 A m (prs es)) (hok : ∀ e ∈ es, OkE n e) :
    Calls Try.prog 126 #[.agg #[.int .i64 n, .slice A m c], .int .i64 S] w fun e w' => e = .returned (.int .i64 (rkS es S : Nat)) ∧ Below w.heap.size w w' := by
  have HE := Lib.hid he.prs_len
  have X0 : Hid (BC w n A m c (w.alloc (.cells #[.int .i64 (n : Int), .slice A m c] 24))) := Lib.hid BC.start
  have H1 := Lib.hid (he.keep X0.out.keeps)
  obtain ⟨hz1, p00, p01⟩ := X0.out.facts
  have HOK := Lib.hid hok
  have RE := Lib.hid (rkK_end es S)
  have hS60 : S < 1152921504606846976 := by have : 2 ^ n ≤ 2 ^ 7 := Nat.pow_le_pow_right (by omega) hn; omega
  have hrk : rkS es S ≤ m := by rw [← RE.out, HE.out]; exact rkK_len es S m
  generalize rkS es S = rk at RE hrk ⊢
  clear he hok hS
  go_enter Try.func126, Try.ntmps126
  go_wp2_with fail
  generalize w.alloc (.cells #[.int .i64 (n : Int), .slice A m c] 24) = w1 at *
  go_loopg [5, 6] m (fun g ch t wr => ∃ (q : Nat) (C : Option Addr) (l cC : Nat), t = .int .i64 q ∧ q ≤ m ∧ g = m - q ∧ ch = .slice C l cC ∧ (rkK es S q).length = l ∧ Own wr w1.heap.size 42 2 C l cC (prs (rkK es S q)) ∧ Below w1.heap.size w1 wr)
  case atStart => exact ⟨0, none, 0, 0, rfl, by omega, rfl, rfl, rfl, Own.nil _ _ _ _, Below.refl _ _⟩
  case round =>
    obtain ⟨q, C, l, cC, rfl, hq, rfl, rfl, hl, hc, hb⟩ := hrel
    have HL := Lib.hid hl
    have HC := Lib.hid hc
    have HB := Lib.hid hb
    have hsz := hb.size
    have kr := Keeps.of_below hb (Nat.le_refl _)
    have p0 := kr _ _ p00
    have p1 := kr _ _ p01
    have RR := Lib.hid (H1.out.keep kr)
    have hql : l ≤ q := by rw [← hl]; exact rkK_len es S q
    clear hl hc hb kr
    by_cases hlt : q < m
    · obtain ⟨ad, rfl, c0, c1⟩ := RR.out.prs_at hlt
      obtain ⟨x, y, hxy, hx, hy, hne⟩ := edge_nat HOK.out (k := q) (by rw [HE.out]; exact hlt)
      have hst := rkK_step (S := S) (by rw [HE.out]; exact hlt) (show es.getD q (0, 0) = ((x : Int), (y : Int)) by rw [getD_edAt, hxy])
      rw [getD_edAt, hxy] at c0 c1
      simp only at c0 c1
      rw [bothB_nat] at hst
      have HCK : Hid (∀ e ∈ rkK es S q ++ [((x : Int), (y : Int))], OkE n e) := Lib.hid (fun e he => by
        rw [List.mem_append] at he
        rcases he with he | he
        · exact HOK.out e (rkK_sub es S q e he)
        · simp at he; subst he; exact okE_nat hx hy hne)
      have HAD : Hid (addE (rkK es S q) ((x : Int), (y : Int)) = if indB (rkK es S q ++ [((x : Int), (y : Int))]) = true then rkK es S q ++ [((x : Int), (y : Int))] else rkK es S q) := Lib.hid rfl
      have WI : Hid (∀ b W, (S.testBit x && S.testBit y) = b → Calls Try.prog 152 #[.agg #[.int .i64 (x : Int), .int .i64 (y : Int)], .int .i64 (S : Int)] W fun e w' => e = .returned (.bool b) ∧ Below W.heap.size W w') := Lib.hid fun b W h => within36_b x y S W (by omega) (by omega) hS60 h
      generalize rkK es S q = K at HL HC hst HCK HAD
      have HST := Lib.hid hst
      have SI : Hid (∀ b D cD W, Rd W 2 D (l + 1) (prs (K ++ [((x : Int), (y : Int))])) → indB (K ++ [((x : Int), (y : Int))]) = b → Calls Try.prog 153 #[.int .i64 n, .slice D (l + 1) cD] W fun e W' => e = .returned (.bool b) ∧ Below W.heap.size W W') := Lib.hid (fun b D cD W hW hb => sparse36_b n D (l + 1) cD _ W (by omega) (by omega) hW HCK.out hb)
      generalize htb : indB (K ++ [((x : Int), (y : Int))]) = tb at HAD
      have HTK := Lib.hid htb
      have p0r := p0
      have p1r := p1
      have c0r := c0
      have c1r := c1
      have n0 := World.new_ne wr _ p0
      have n1 := World.new_ne wr _ p1
      have n2 := World.new_ne wr _ c0
      clear hxy hst htb
      cases hX : (S.testBit x && S.testBit y)
      · have e1 : Hid (rkK es S (q + 1) = K) := Lib.hid (by rw [HST.out, hX]; rfl)
        have k0 := grown_cell p0
        have k1 := grown_cell p1
        have k2 := grown_cell c0
        have k3 := grown_cell c1
        have cW := call_q (w := wr) (fun w' hw => WI.out false w' hX)
        go_wp2_with fail
        refine wp_region_q (by kernel_rfl) (by kernel_rfl) ?_
        repeat (go_big_quiet_step (first | with_reducible exact cW _ _))
        refine wpQuiet_nil ?_
        intro wq hgq
        go_wp2_with fail
        go_roundg (m - (q + 1))
        case measure => omega
        case rel => exact ⟨q + 1, C, l, cC, by go_num, by omega, rfl, rfl, by rw [e1.out]; exact HL.out, by rw [e1.out]; exact HC.out.later hgq, HB.out.trans (hgq.mono hsz)⟩
      · go_upto_region 5 with fail
        go_cut [35] (fun t wx => t = .bool tb ∧ Below wr.heap.size wr wx)
        case first =>
          go_region_held3 (fun w' => w'.cell? ⟨w.heap.size, 0, none⟩ = some (.int .i64 (n : Int)) ∧ w'.cell? ⟨w.heap.size, 1, none⟩ = some (.slice (some ad) m c) ∧ w'.cell? (ad.add (q * 2)) = some (.int .i64 x) ∧ w'.cell? ⟨(ad.add (q * 2)).block, (ad.add (q * 2)).off + 1, none⟩ = some (.int .i64 y)) (first | exact ⟨p0, p1, c0, c1⟩ | go_keep)
            ((first
            | (go_at_call 152; refine (WI.out true _ hX).mono ?_; rintro e w2 ⟨rfl, hb2⟩; have BW2 : Hid (Below wr.heap.size wr w2) := Lib.hid (by first | exact (Below.refl _ _).drew.trans hb2 | exact hb2 | fail); have hz2 := BW2.out.size; have kk2 := Keeps.of_below BW2.out (Nat.le_refl _); have RC2 := Lib.hid (HC.out.rd.keep kk2); have p0 := kk2 _ _ p0; have p1 := kk2 _ _ p1; have c0 := kk2 _ _ c0; have c1 := kk2 _ _ c1; have p02 := p0; have p12 := p1; have c02 := c0; have c12 := c1; have n1 := World.new_ne w2 _ p1; have n2 := World.new_ne w2 _ c0; clear hb2 kk2)
            | (refine step_appG _ (by first | rfl | (simp [Region.wanted, yielded]; done) | fail) (.tmp 24) (.tmp 25) 22 rfl w2.heap.size 42 (.agg #[.int .i64 0, .int .i64 0]) 2 16 Try.underlying22 info_pair rfl (by decide) (some ⟨w2.heap.size, 0, none⟩) 0 0 [] (by simp [Act.eval, Act.put]) (own_empty_at (w := w2) rfl 42 2) C l cC (prs K) (by simp [Act.eval, Act.put]) (rd_alloc (w := w2) RC2.out _) (prs_one _) (by omega) (by unfold maxLen; omega) (by first | omega | (simp; done) | (simp; omega)) ?_; intro A3 c3 w3 ho3 hg3 hb3; simp only [Nat.zero_add, List.nil_append] at ho3; have O3 := Lib.hid ho3; have BL3 : Hid (Below w2.heap.size w2 w3) := Lib.hid (((Below.refl _ _).alloc (by simp) (.cells #[] 42)).grown hg3 (by simp) (fun k hk => by simp [blk] at hk; omega)); have kk3 := Keeps.of_below BL3.out (Nat.le_refl _); have p0 := kk3 _ _ p0; have p1 := kk3 _ _ p1; have c0 := kk3 _ _ c0; have c1 := kk3 _ _ c1; have n1 := World.new_ne w3 _ p1; have n2 := World.new_ne w3 _ c0; have hz3 := BL3.out.size; clear kk3; clear ho3 hg3 hb3)
            | (refine step_appG _ (by first | rfl | (simp [Region.wanted, yielded]; done) | fail) (.tmp 24) (.tmp 25) 22 rfl w2.heap.size 42 (.agg #[.int .i64 0, .int .i64 0]) 2 16 Try.underlying22 info_pair rfl (by decide) (some ⟨w2.heap.size, 0, none⟩) 0 0 [] (by simp [Act.eval, Act.put]) (Own.alloc (own_empty_at (w := w2) rfl 42 2) (.cells #[.int .i64 (x : Int), .int .i64 (y : Int)] 42)) C l cC (prs K) (by simp [Act.eval, Act.put]) (rd_alloc (rd_alloc (w := w2) RC2.out _) _) (prs_one _) (by omega) (by unfold maxLen; omega) (by first | omega | (simp; done) | (simp; omega)) ?_; intro A3 c3 w3 ho3 hg3 hb3; simp only [Nat.zero_add, List.nil_append] at ho3; have O3 := Lib.hid ho3; have BL3 : Hid (Below w2.heap.size w2 w3) := Lib.hid ((((Below.refl _ _).alloc (by simp) (.cells #[] 42)).alloc (by simp) (.cells #[.int .i64 (x : Int), .int .i64 (y : Int)] 42)).grown hg3 (by first | omega | (simp; done) | (simp; omega)) (fun k hk => by simp [blk] at hk; omega)); have LIT : Hid (Rd w3 2 (some ⟨w2.heap.size + 1, 0, none⟩) 1 (prs [((x : Int), (y : Int))])) := Lib.hid (rd_grown (rd_lit2_at (w := w2.alloc (.cells #[] 42)) (by simp) [((x : Int), (y : Int))] _) hg3 (by first | (simp [blk]; done) | (simp [blk]; omega))); have kk3 := Keeps.of_below BL3.out (Nat.le_refl _); have p0 := kk3 _ _ p0; have p1 := kk3 _ _ p1; have c0 := kk3 _ _ c0; have c1 := kk3 _ _ c1; have n1 := World.new_ne w3 _ p1; have n2 := World.new_ne w3 _ c0; have hz3 := BL3.out.size; clear kk3; clear ho3 hg3 hb3)
            | (refine step_appG _ (by first | rfl | (simp [Region.wanted, yielded]; done) | fail) (.tmp 24) (.tmp 25) 22 rfl w2.heap.size 42 (.agg #[.int .i64 0, .int .i64 0]) 2 16 Try.underlying22 info_pair rfl (by decide) (some ⟨w2.heap.size + 1, 0, none⟩) 0 0 [] (by simp [Act.eval, Act.put]) (Own.base_le (own_empty_at (w := w2.alloc (.cells #[.int .i64 (x : Int), .int .i64 (y : Int)] 42)) (b := w2.heap.size + 1) (by simp) 42 2) (by omega)) C l cC (prs K) (by simp [Act.eval, Act.put]) (rd_alloc (rd_alloc (w := w2) RC2.out _) _) (prs_one _) (by omega) (by unfold maxLen; omega) (by first | omega | (simp; done) | (simp; omega)) ?_; intro A3 c3 w3 ho3 hg3 hb3; simp only [Nat.zero_add, List.nil_append] at ho3; have O3 := Lib.hid ho3; have BL3 : Hid (Below w2.heap.size w2 w3) := Lib.hid ((((Below.refl _ _).alloc (by simp) (.cells #[.int .i64 (x : Int), .int .i64 (y : Int)] 42)).alloc (by simp) (.cells #[] 42)).grown hg3 (by first | omega | (simp; done) | (simp; omega)) (fun k hk => by simp [blk] at hk; omega)); have LIT : Hid (Rd w3 2 (some ⟨w2.heap.size, 0, none⟩) 1 (prs [((x : Int), (y : Int))])) := Lib.hid (rd_grown (rd_alloc (rd_lit2_at (w := w2) rfl [((x : Int), (y : Int))] _) _) hg3 (by first | (simp [blk]; done) | (simp [blk]; omega))); have kk3 := Keeps.of_below BL3.out (Nat.le_refl _); have p0 := kk3 _ _ p0; have p1 := kk3 _ _ p1; have c0 := kk3 _ _ c0; have c1 := kk3 _ _ c1; have n1 := World.new_ne w3 _ p1; have n2 := World.new_ne w3 _ c0; have hz3 := BL3.out.size; clear kk3; clear ho3 hg3 hb3)
            | (refine step_appG _ (by first | rfl | (simp [Region.wanted, yielded]; done) | fail) (.tmp 26) (.tmp 32) 22 rfl w2.heap.size 42 (.agg #[.int .i64 0, .int .i64 0]) 2 16 Try.underlying22 info_pair rfl (by decide) A3 l c3 (prs K) (by simp [Act.eval, Act.put]) (O3.out.alloc _) (some ⟨w3.heap.size, 0, none⟩) 1 1 (prs [((x : Int), (y : Int))]) (by simp [Act.eval, Act.put]) (rd_lit2_at rfl [((x : Int), (y : Int))] _) (prs_one _) (by omega) (by unfold maxLen; omega) (by first | omega | (simp; done) | (simp; omega)) ?_; intro A4 c4 w4 ho4 hg4 hb4; have O4 : Hid (Own w4 w2.heap.size 42 2 A4 (l + 1) c4 (prs (K ++ [((x : Int), (y : Int))]))) := Lib.hid (by rw [prs_app]; exact ho4); have BL4 : Hid (Below w2.heap.size w2 w4) := Lib.hid ((BL3.out.alloc BL3.out.size _).grown hg4 (by first | omega | (simp; done) | (simp; omega)) (fun k hk => (O3.out.lt hk).1)); have hz4 := BL4.out.size; have kk4 := Keeps.of_below BL4.out (Nat.le_refl _); have p0 := kk4 _ _ p02; have p1 := kk4 _ _ p12; have c0 := kk4 _ _ c02; have c1 := kk4 _ _ c12; clear ho4 hg4 hb4 kk4)
            | (refine step_appG _ (by first | rfl | (simp [Region.wanted, yielded]; done) | fail) (.tmp 26) (.tmp 32) 22 rfl w2.heap.size 42 (.agg #[.int .i64 0, .int .i64 0]) 2 16 Try.underlying22 info_pair rfl (by decide) A3 l c3 (prs K) (by simp [Act.eval, Act.put]) O3.out (some ⟨w2.heap.size + 1, 0, none⟩) 1 1 (prs [((x : Int), (y : Int))]) (by simp [Act.eval, Act.put]) LIT.out (prs_one _) (by omega) (by unfold maxLen; omega) (by first | omega | (simp; done) | (simp; omega)) ?_; intro A4 c4 w4 ho4 hg4 hb4; have O4 : Hid (Own w4 w2.heap.size 42 2 A4 (l + 1) c4 (prs (K ++ [((x : Int), (y : Int))]))) := Lib.hid (by rw [prs_app]; exact ho4); have BL4 : Hid (Below w2.heap.size w2 w4) := Lib.hid (BL3.out.grown hg4 (by first | omega | (simp; done) | (simp; omega)) (fun k hk => (O3.out.lt hk).1)); have hz4 := BL4.out.size; have kk4 := Keeps.of_below BL4.out (Nat.le_refl _); have p0 := kk4 _ _ p02; have p1 := kk4 _ _ p12; have c0 := kk4 _ _ c02; have c1 := kk4 _ _ c12; clear ho4 hg4 hb4 kk4)
            | (refine step_appG _ (by first | rfl | (simp [Region.wanted, yielded]; done) | fail) (.tmp 26) (.tmp 32) 22 rfl w2.heap.size 42 (.agg #[.int .i64 0, .int .i64 0]) 2 16 Try.underlying22 info_pair rfl (by decide) A3 l c3 (prs K) (by simp [Act.eval, Act.put]) O3.out (some ⟨w2.heap.size, 0, none⟩) 1 1 (prs [((x : Int), (y : Int))]) (by simp [Act.eval, Act.put]) LIT.out (prs_one _) (by omega) (by unfold maxLen; omega) (by first | omega | (simp; done) | (simp; omega)) ?_; intro A4 c4 w4 ho4 hg4 hb4; have O4 : Hid (Own w4 w2.heap.size 42 2 A4 (l + 1) c4 (prs (K ++ [((x : Int), (y : Int))]))) := Lib.hid (by rw [prs_app]; exact ho4); have BL4 : Hid (Below w2.heap.size w2 w4) := Lib.hid (BL3.out.grown hg4 (by first | omega | (simp; done) | (simp; omega)) (fun k hk => (O3.out.lt hk).1)); have hz4 := BL4.out.size; have kk4 := Keeps.of_below BL4.out (Nat.le_refl _); have p0 := kk4 _ _ p02; have p1 := kk4 _ _ p12; have c0 := kk4 _ _ c02; have c1 := kk4 _ _ c12; clear ho4 hg4 hb4 kk4)
            | (go_at_call 153; refine (SI.out tb A4 c4 _ O4.out.rd HTK.out).mono ?_; rintro e w6 ⟨rfl, hb6⟩; have B6 : Hid (Below wr.heap.size wr w6) := Lib.hid ((BW2.out.trans (BL4.out.mono BW2.out.size)).trans (hb6.mono (BW2.out.trans (BL4.out.mono BW2.out.size)).size)); have kk6 := Keeps.of_below B6.out (Nat.le_refl _); have p0 := kk6 _ _ p0r; have p1 := kk6 _ _ p1r; have c0 := kk6 _ _ c0r; have c1 := kk6 _ _ c1r; clear hb6 kk6)
            | fail))
          all_goals
           go_wp2_with fail
           go_meet
           exact ⟨rfl, B6.out⟩
        case rest =>
          obtain ⟨rfl, hbd⟩ := hcut
          rename World => w5
          have HBD := Lib.hid hbd
          have hz5 := hbd.size
          have kd := Keeps.of_below hbd (Nat.le_refl _)
          have HC5 := Lib.hid (HC.out.later hbd)
          have p0 := kd _ _ p0
          have p1 := kd _ _ p1
          have c0 := kd _ _ c0
          have c1 := kd _ _ c1
          clear hbd kd
          cases tb
          · have e1 : Hid (rkK es S (q + 1) = K) := Lib.hid (by rw [HST.out, hX, if_pos rfl, HAD.out]; rfl)
            go_wp2_with fail
            go_roundg (m - (q + 1))
            case measure => omega
            case rel => exact ⟨q + 1, C, l, cC, by go_num, by omega, rfl, rfl, by rw [e1.out]; exact HL.out, by rw [e1.out]; exact HC5.out, HB.out.trans (HBD.out.mono hsz)⟩
          · have e1 : Hid (rkK es S (q + 1) = K ++ [((x : Int), (y : Int))]) := Lib.hid (by rw [HST.out, hX, if_pos rfl, HAD.out]; rfl)
            go_wp2_with (first
              | (at_builtin; refine wpList_app _ rfl (.tmp 36) (.tmp 42) 22 rfl w1.heap.size 42 (.agg #[.int .i64 0, .int .i64 0]) 2 16 Try.underlying22 info_pair rfl (by decide) C l cC (prs K) rfl (HC5.out.alloc _) (some ⟨w5.heap.size, 0, none⟩) 1 1 (prs [((x : Int), (y : Int))]) rfl (rd_lit2_at rfl [((x : Int), (y : Int))] _) (prs_one _) (by omega) (by unfold maxLen; omega) (by simp; omega) ?_; intro B7 c7 w7 ho7 hg7 hb7; have O7 := Lib.hid ho7; have BL7 := Lib.hid (((HB.out.trans (HBD.out.mono hsz)).alloc (by omega) (.cells #[.int .i64 (x : Int), .int .i64 (y : Int)] 42)).grown hg7 (by simp; omega) (fun k hk => (HC5.out.lt hk).1)); clear ho7 hg7 hb7)
              | fail)
            go_roundg (m - (q + 1))
            case measure => omega
            case rel => exact ⟨q + 1, B7, l + 1, c7, by go_num, by omega, rfl, rfl, by rw [e1.out, List.length_append, HL.out]; rfl, by rw [e1.out, prs_app]; exact O7.out, BL7.out⟩
    · obtain rfl : q = m := by omega
      obtain rfl : l = rk := by rw [← HL.out, ← RE.out, HE.out]
      go_wp2_with fail
      go_ret
      exact ⟨rfl, X0.out.below.trans (HB.out.mono (by omega))⟩
theorem rank36_n {r : Nat} (n : Nat) (A : Option Addr) (m c : Nat) (es : List (Int × Int)) (S : Nat) (w : World) (hn : n ≤ 7) (hm : m ≤ 90) (hS : S < 2 ^ n) (he : Rd w 2 A m (prs es)) (hok : ∀ e ∈ es, OkE n e) (hr : rkS es S = r) :
    Calls Try.prog 126 #[.agg #[.int .i64 n, .slice A m c], .int .i64 S] w fun e w' => e = .returned (.int .i64 (r : Nat)) ∧ Below w.heap.size w w' := by subst hr; exact rank36_any n A m c es S w hn hm hS he hok
end Go.Proofs.Ytagcaljpgifppaa
