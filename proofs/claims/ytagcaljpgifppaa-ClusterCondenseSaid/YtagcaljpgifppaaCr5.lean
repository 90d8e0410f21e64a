/-
  setsquareref36.Clusters.
-/
import Derived.Test.YtagcaljpgifppaaCr3
import Derived.Test.YtagcaljpgifppaaCr4
namespace Go.Proofs.Ytagcaljpgifppaa
set_option linter.unusedVariables false
set_option linter.unusedSimpArgs false
open Go.RowKit Go.Sort
attribute [local go_sem ↓] Go.wp_at_zero Go.wp_at_succ

/-- The rigid sets below k. -/
def rgK (es : List (Int × Int)) (k : Nat) : List Nat := (List.range k).filter fun S => decide (RigS es S)
theorem rgK_step (es : List (Int × Int)) (k : Nat) : rgK es (k + 1) = rgK es k ++ if decide (RigS es k) = true then [k] else [] := by
  unfold rgK
  rw [List.range_succ, List.filter_append]
  congr 1
  by_cases h : RigS es k <;> simp [h]
theorem rgK_len (es : List (Int × Int)) (k : Nat) : (rgK es k).length ≤ k := Nat.le_trans (List.length_filter_le _ _) (by simp)
theorem rgK_mem {es : List (Int × Int)} {k S : Nat} : S ∈ rgK es k ↔ S < k ∧ RigS es S := by unfold rgK; simp
theorem rgK_nodup (es : List (Int × Int)) (k : Nat) : (rgK es k).Nodup := List.nodup_range.filter _
/-- No other set of the list holds S. -/
def maxB (R : List Nat) (S : Nat) : Bool := R.all fun K => decide (K = S) || !decide (S &&& K = S)
def mxL (n : Nat) (R : List Nat) (i : Nat) : List (List Int) := ((R.take i).filter (maxB R)).map (ptsK n)
theorem NA_mem {R : List Nat} {i : Nat} (h : i < R.length) : NA R i ∈ R := by
  unfold NA
  rw [List.getD_eq_getElem?_getD, List.getElem?_eq_getElem h]; exact List.getElem_mem h
theorem maxB_at {R : List Nat} {i : Nat} (hd : R.Nodup) (hi : i < R.length) : maxB R (NA R i) = true ↔ ∀ j, j < R.length → j ≠ i → ¬ (NA R i &&& NA R j = NA R i) := by
  unfold maxB
  rw [List.all_eq_true]
  have hne : ∀ j, j < R.length → j ≠ i → NA R j ≠ NA R i := fun j hj hji e => by
    unfold NA at e
    rw [List.getD_eq_getElem?_getD, List.getElem?_eq_getElem hj, List.getD_eq_getElem?_getD, List.getElem?_eq_getElem hi] at e
    simp only [Option.getD_some] at e
    rcases Nat.lt_or_gt_of_ne hji with h | h
    · exact List.pairwise_iff_getElem.1 hd j i hj hi h e
    · exact List.pairwise_iff_getElem.1 hd i j hi hj h e.symm
  constructor
  · intro h j hj hji
    have := h _ (NA_mem hj)
    simp only [Bool.or_eq_true, decide_eq_true_eq, Bool.not_eq_true', decide_eq_false_iff_not] at this
    rcases this with h1 | h1
    · exact absurd h1 (hne j hj hji)
    · exact h1
  · intro h K hK
    obtain ⟨j, hj, e⟩ := List.getElem_of_mem hK
    have eK : NA R j = K := by unfold NA; rw [List.getD_eq_getElem?_getD, List.getElem?_eq_getElem hj]; exact e
    simp only [Bool.or_eq_true, decide_eq_true_eq, Bool.not_eq_true', decide_eq_false_iff_not]
    by_cases hji : j = i
    · subst hji; exact .inl eK.symm
    · right; rw [← eK]; exact h j hj hji
theorem mxL_step {n : Nat} {R : List Nat} {i : Nat} (h : i < R.length) : mxL n R (i + 1) = mxL n R i ++ if maxB R (NA R i) = true then [ptsK n (NA R i)] else [] := by
  unfold mxL
  have e : R[i] = NA R i := by unfold NA; rw [List.getD_eq_getElem?_getD, List.getElem?_eq_getElem h]; rfl
  rw [List.take_succ_eq_append_getElem h, List.filter_append, List.map_append, e]
  congr 1
  by_cases h2 : maxB R (NA R i) = true <;> simp [h2]
theorem mxL_len (n : Nat) (R : List Nat) (i : Nat) : (mxL n R i).length ≤ i := by
  unfold mxL
  rw [List.length_map]
  exact Nat.le_trans (List.length_filter_le _ _) (List.length_take_le _ _)
theorem mxL_short (n : Nat) (R : List Nat) (i : Nat) (hn : n ≤ 1000000) : shortL (mxL n R i) := fun k => by
  by_cases hk : k < (mxL n R i).length
  · have hm : (mxL n R i).getD k [] ∈ mxL n R i := by rw [List.getD_eq_getElem?_getD, List.getElem?_eq_getElem hk]; exact List.getElem_mem _
    unfold mxL at hm
    obtain ⟨S, -, e⟩ := List.mem_map.1 hm
    unfold mxL
    rw [← e]
    exact Nat.le_trans (ptsK_length_le n S) hn
  · rw [List.getD_eq_getElem?_getD, List.getElem?_eq_none (by omega)]; simp
theorem mx_mem {n : Nat} {es : List (Int × Int)} (l : List Int) : l ∈ mxL n (rgK es (2 ^ n)) (rgK es (2 ^ n)).length ↔ ∃ S, MaxS n es S ∧ l = ptsK n S := by
  unfold mxL
  rw [List.take_length, List.mem_map]
  constructor
  · rintro ⟨S, hS, rfl⟩
    obtain ⟨h1, h2⟩ := List.mem_filter.1 hS
    obtain ⟨h3, h4⟩ := rgK_mem.1 h1
    refine ⟨S, ⟨h3, h4, fun K hK hR hs => ?_⟩, rfl⟩
    have := List.all_eq_true.1 h2 K (rgK_mem.2 ⟨hK, hR⟩)
    simp only [Bool.or_eq_true, decide_eq_true_eq, Bool.not_eq_true', decide_eq_false_iff_not] at this
    rcases this with h5 | h5
    · exact h5
    · exact absurd hs h5
  · rintro ⟨S, hS, rfl⟩
    refine ⟨S, List.mem_filter.2 ⟨rgK_mem.2 ⟨hS.1, hS.2.1⟩, List.all_eq_true.2 fun K hK => ?_⟩, rfl⟩
    simp only [Bool.or_eq_true, decide_eq_true_eq, Bool.not_eq_true', decide_eq_false_iff_not]
    obtain ⟨h3, h4⟩ := rgK_mem.1 hK
    by_cases hs : S &&& K = S
    · exact .inl (hS.2.2 K h3 h4 hs)
    · exact .inr hs
theorem mx_nodup {n : Nat} {es : List (Int × Int)} : (mxL n (rgK es (2 ^ n)) (rgK es (2 ^ n)).length).Nodup := by
  unfold mxL List.Nodup
  rw [List.take_length, List.pairwise_map]
  refine List.Pairwise.imp_of_mem (fun {a b} ha hb hne e => ?_) ((rgK_nodup es (2 ^ n)).filter _)
  exact hne (ptsK_inj (rgK_mem.1 (List.mem_filter.1 ha).1).1 (rgK_mem.1 (List.mem_filter.1 hb).1).1 e)
theorem mx_clu {n : Nat} {es : List (Int × Int)} {ms : List (List Int)} (hn : n ≤ 60) (hok : ∀ e ∈ es, OkE n e) (hp : ms.Perm (mxL n (rgK es (2 ^ n)) (rgK es (2 ^ n)).length)) (hs : SrtL ms) : CluL n es ms :=
  ⟨strictL_of (hp.nodup_iff.2 mx_nodup) hs, fun l => by rw [hp.mem_iff, mx_mem, clusters_iff hn hok]⟩
def RCluPost (w : World) (n : Nat) (es : List (Int × Int)) (e : Ending) (w' : World) : Prop :=
  Below w.heap.size w w' ∧ ∃ C nC c ls, e = .returned (.slice C nC c) ∧ CluL n es ls ∧ RdL w' C nC ls
set_option maxRecDepth 100000 in
set_option maxHeartbeats 16000000 in
theorem rclusters_any (n : Nat) (A : Option Addr) (m c : Nat) (es : List (Int × Int)) (w : World) (hn : n ≤ 7) (hm : m ≤ 90) (he : Rd w 2 A m (prs es)) (hok : ∀ e ∈ es, OkE n e) :
    Calls Try.prog 41 #[.agg #[.int .i64 n, .slice A m c]] w (RCluPost w n es) := by
  have X0 : Hid (BC w n A m c (w.alloc (.cells #[.int .i64 (n : Int), .slice A m c] 24))) := Lib.hid BC.start
  have H1 := Lib.hid (he.keep X0.out.keeps)
  obtain ⟨hz1, p00, p01⟩ := X0.out.facts
  have HOK := Lib.hid hok
  have hn50 : n ≤ 50 := by omega
  have hn60 : n ≤ 60 := by omega
  have hQ : 2 ^ n ≤ 128 := by
    have : (2 : Nat) ^ n ≤ 2 ^ 7 := Nat.pow_le_pow_right (by omega) hn
    simpa using this
  have hw := wrap_pow8 (X := n) (by omega)
  have RI : Hid (∀ (b : Bool) (S : Nat) (W : World), S < 2 ^ n → Rd W 2 A m (prs es) → decide (RigS es S) = b → Calls Try.prog 93 #[.agg #[.int .i64 n, .slice A m c], .int .i64 S] W fun e w' => e = .returned (.bool b) ∧ Below W.heap.size W w') := Lib.hid fun b S W hS h hb => rigid36_b n A m c es S W hn hm hS h hok hb
  have LI : Hid (∀ (S : Nat) (W : World), S < 2 ^ n → Calls Try.prog 94 #[.int .i64 S] W (IntsPost W (ptsK n S))) := Lib.hid fun S W hS => list36_any n S W hn50 hS
  have FIN : Hid (∀ ms : List (List Int), ms.Perm (mxL n (rgK es (2 ^ n)) (rgK es (2 ^ n)).length) → SrtL ms → CluL n es ms) := Lib.hid fun ms hp hs => mx_clu hn60 hok hp hs
  clear he hok
  generalize 2 ^ n = Q at hQ hw RI LI FIN
  go_enter Try.func41, Try.ntmps41
  go_wp2_with fail
  generalize w.alloc (.cells #[.int .i64 (n : Int), .slice A m c] 24) = w1 at *
  go_loopg [3, 4] Q (fun g r s wr => ∃ (S : Nat) (C : Option Addr) (l cC : Nat), S ≤ Q ∧ g = Q - S ∧ s = .int .i64 S ∧ r = .slice C l cC ∧ (rgK es S).length = l ∧ Own wr w1.heap.size 3 1 C l cC (ints (NL (rgK es S))) ∧ Below w1.heap.size w1 wr)
  case atStart => exact ⟨0, none, 0, 0, Nat.zero_le _, rfl, rfl, rfl, rfl, Own.nil _ _ _ _, Below.refl _ _⟩
  case round =>
    obtain ⟨S, C, l, cC, hS, rfl, rfl, rfl, hl, ho, hb⟩ := hrel
    have HL := Lib.hid hl
    have HO := Lib.hid ho
    have HB := Lib.hid hb
    have hsz := hb.size
    have kr := Keeps.of_below hb (Nat.le_refl _)
    have p0 := kr _ _ p00
    have p1 := kr _ _ p01
    have RR := Lib.hid (H1.out.keep kr)
    have hlS : l ≤ S := by rw [← hl]; exact rgK_len es S
    clear hl ho hb kr
    by_cases hlt : S < Q
    · have hst := rgK_step es S
      cases hX : decide (RigS es S)
      · rw [hX] at hst
        have e1 : Hid (rgK es (S + 1) = rgK es S) := Lib.hid (by rw [hst]; simp)
        have HX := Lib.hid hX
        clear hst hX
        go_wp2_with (first
          | (go_at_call 93; refine (RI.out false S _ hlt RR.out HX.out).mono ?_; rintro e w5 ⟨rfl, hb5⟩; have B5 := Lib.hid hb5; clear hb5)
          | fail)
        go_roundg (Q - (S + 1))
        case measure => omega
        case rel => exact ⟨S + 1, C, l, cC, by omega, rfl, by go_num, rfl, by rw [e1.out]; exact HL.out, by rw [e1.out]; exact HO.out.later B5.out, HB.out.trans (B5.out.mono hsz)⟩
      · rw [hX] at hst
        have e1 : Hid (rgK es (S + 1) = rgK es S ++ [S]) := Lib.hid (by rw [hst]; simp)
        have HX := Lib.hid hX
        clear hst hX
        go_wp2_with (first
          | (go_at_call 93; refine (RI.out true S _ hlt RR.out HX.out).mono ?_; rintro e w5 ⟨rfl, hb5⟩; have B5 := Lib.hid hb5; have O5 := Lib.hid (HO.out.later hb5); have hz5 := hb5.size; clear hb5)
          | (at_builtin; refine wpList_app _ rfl (.tmp 19) (.tmp 21) 27 rfl w1.heap.size 3 (.int .i64 0) 1 8 Try.underlying27 info_int' rfl (by decide) C l cC (ints (NL (rgK es S))) rfl (O5.out.alloc _) (some ⟨w5.heap.size, 0, none⟩) 1 1 (ints [(S : Int)]) rfl (rd_lit_at rfl [(S : Int)] _) (ints_one _) (by omega) (by unfold maxLen; omega) (by simp; omega) ?_; intro B7 c7 w7 ho7 hg7 hb7; have O7 := Lib.hid ho7; have BL7 := Lib.hid (((HB.out.trans (B5.out.mono hsz)).alloc (by omega) (.cells #[.int .i64 (S : Int)] 3)).grown hg7 (by simp; omega) (fun k hk => (O5.out.lt hk).1)); clear ho7 hg7 hb7)
          | fail)
        go_roundg (Q - (S + 1))
        case measure => omega
        case rel => exact ⟨S + 1, B7, l + 1, c7, by omega, rfl, by go_num, rfl, by rw [e1.out, List.length_append, HL.out]; rfl, by rw [e1.out, NL_app, ints_app]; exact O7.out, BL7.out⟩
    · obtain rfl : S = Q := by omega
      have RN := Lib.hid (rgK_nodup es S)
      have RB : Hid (∀ i, i < l → NA (rgK es S) i < S) := Lib.hid fun i hi => (rgK_mem.1 (NA_mem (by rw [HL.out]; exact hi))).1
      generalize rgK es S = R at *
      go_wp2_with fail
      clear hw
      go_loopg [5, 6, 7, 8] l (fun g o t _ _ wx => ∃ (i : Nat) (D : Option Addr) (nD cD : Nat), i ≤ l ∧ g = l - i ∧ t = .int .i64 i ∧ o = .slice D nD cD ∧ nD ≤ i ∧ OwnL wx wr.heap.size D nD cD (mxL n R i) ∧ Below wr.heap.size wr wx)
      case atStart => exact ⟨0, none, 0, 0, Nat.zero_le _, rfl, rfl, rfl, Nat.le_refl _, OwnL.nil _ _, Below.refl _ _⟩
      case round =>
        obtain ⟨i, D, nD, cD, hi, rfl, rfl, rfl, hnD, hol, hbx⟩ := hrel
        rename World => wx
        have HBX := Lib.hid hbx
        have hzx := hbx.size
        have kx := Keeps.of_below hbx (Nat.le_refl _)
        have OL := Lib.hid hol
        have RX := Lib.hid (HO.out.rd.keep kx)
        clear hol hbx kx
        by_cases hil : i < l
        · obtain ⟨ad, rfl, hiR, ci⟩ := RX.out.int_at hil
          rw [NL_len] at hiR
          rw [NL_at hiR] at ci
          have ms := mxL_step (n := n) hiR
          have mb := maxB_at RN.out hiR
          have hri := RB.out i hil
          have RK : Hid (∀ k, k < l → ∃ r : Nat, r = NA R k ∧ r < S ∧ ∀ W, Keeps wx W → W.cell? (ad.add k) = some (.int .i64 (r : Int))) := Lib.hid fun k hk => by
            obtain ⟨ad', e, hkR, ck⟩ := RX.out.int_at hk
            injection e with e
            subst e
            rw [NL_len] at hkR
            rw [NL_at hkR] at ck
            exact ⟨_, rfl, RB.out k hk, fun W hW => hW _ _ ck⟩
          generalize hai : NA R i = a at *
          have HAI := Lib.hid hai
          have MS := Lib.hid ms
          have MB := Lib.hid mb
          have CI := Lib.hid ci
          clear hai ms mb ci
          go_wp2_with fail
          go_loopg [7, 8] l (fun g b t wi => ∃ (k : Nat) (bb : Bool), k ≤ l ∧ g = l - k ∧ t = .int .i64 k ∧ b = .bool bb ∧ (bb = true ↔ ∀ j, j < k → j ≠ i → ¬ (a &&& NA R j = a)) ∧ Below wx.heap.size wx wi)
          case atStart => exact ⟨0, true, Nat.zero_le _, rfl, rfl, rfl, ⟨fun _ j hj => by omega, fun _ => rfl⟩, Below.refl _ _⟩
          case round =>
            obtain ⟨k, bb, hk, rfl, rfl, rfl, hbb, hbi⟩ := hrel
            rename World => wi
            have HBB := Lib.hid hbb
            have HBI := Lib.hid hbi
            have ki := Keeps.of_below hbi (Nat.le_refl _)
            have hzi := hbi.size
            have cI := ki _ _ CI.out
            clear hbb hbi
            by_cases hkl : k < l
            · obtain ⟨r, hr, hrS, hrc⟩ := RK.out k hkl
              have cK := hrc wi ki
              have HR := Lib.hid hr
              have k0 := grown_cell cI
              have k1 := grown_cell cK
              have hand := and36 a r (by omega) (by omega)
              clear hrc ki hr
              by_cases hki : k = i
              · have hneq : ((k : Int) != (i : Int)) = false := by simp [hki]
                have NB : Hid (bb = true ↔ ∀ j, j < k + 1 → j ≠ i → ¬ (a &&& NA R j = a)) := Lib.hid (by
                  rw [HBB.out]
                  exact ⟨fun h j hj hji => h j (by omega) hji, fun h j hj hji => h j (by omega) hji⟩)
                clear hki
                go_wp2_with fail
                refine wp_region_q (by kernel_rfl) (by kernel_rfl) ?_
                repeat (go_big_quiet_step (fail))
                refine wpQuiet_nil ?_
                intro wq hgq
                go_wp2_with fail
                go_roundg (l - (k + 1))
                case measure => omega
                case rel => exact ⟨k + 1, bb, by omega, rfl, by go_num, rfl, NB.out, HBI.out.trans (hgq.mono hzi)⟩
              · have hneq : ((k : Int) != (i : Int)) = true := by simp; omega
                cases hq : (((a &&& r : Nat) : Int) == (a : Int))
                · have NB : Hid (bb = true ↔ ∀ j, j < k + 1 → j ≠ i → ¬ (a &&& NA R j = a)) := Lib.hid (by
                    rw [HBB.out]
                    refine ⟨fun h j hj hji => ?_, fun h j hj hji => h j (by omega) hji⟩
                    by_cases e : j = k
                    · subst e
                      rw [← HR.out]
                      intro e2
                      rw [e2] at hq
                      simp at hq
                    · exact h j (by omega) hji)
                  clear hki
                  go_wp2_with fail
                  refine wp_region_q (by kernel_rfl) (by kernel_rfl) ?_
                  repeat (go_big_quiet_step (fail))
                  refine wpQuiet_nil ?_
                  intro wq hgq
                  go_wp2_with fail
                  go_roundg (l - (k + 1))
                  case measure => omega
                  case rel => exact ⟨k + 1, bb, by omega, rfl, by go_num, rfl, NB.out, HBI.out.trans (hgq.mono hzi)⟩
                · have NB : Hid (false = true ↔ ∀ j, j < k + 1 → j ≠ i → ¬ (a &&& NA R j = a)) := Lib.hid (by
                    refine ⟨fun h => (by cases h), fun h => absurd ?_ (h k (by omega) hki)⟩
                    rw [← HR.out]
                    rw [beq_iff_eq] at hq
                    exact Int.ofNat_inj.1 hq)
                  clear hki
                  go_wp2_with fail
                  refine wp_region_q (by kernel_rfl) (by kernel_rfl) ?_
                  repeat (go_big_quiet_step (fail))
                  refine wpQuiet_nil ?_
                  intro wq hgq
                  go_wp2_with fail
                  go_roundg (l - (k + 1))
                  case measure => omega
                  case rel => exact ⟨k + 1, false, by omega, rfl, by go_num, rfl, NB.out, HBI.out.trans (hgq.mono hzi)⟩
            · obtain rfl : k = l := by omega
              have hmb : maxB R a = bb := by
                rw [Bool.eq_iff_iff, MB.out, HBB.out, HL.out]
              have MS2 := MS.out
              rw [hmb] at MS2
              have OLi := Lib.hid (OL.out.later HBI.out)
              clear hmb ki
              cases bb
              · have e1 : Hid (mxL n R (i + 1) = mxL n R i) := Lib.hid (by rw [MS2]; simp)
                clear MS2
                go_wp2_with fail
                go_roundg (k - (i + 1))
                case measure => omega
                case rel => exact ⟨i + 1, D, nD, cD, by omega, rfl, by go_num, rfl, by omega, by rw [e1.out]; exact OLi.out, HBX.out.trans (HBI.out.mono hzx)⟩
              · have e1 : Hid (mxL n R (i + 1) = mxL n R i ++ [ptsK n a]) := Lib.hid (by rw [MS2]; simp)
                have LIa := Lib.hid (fun W => LI.out a W hri)
                have PL : Hid ((ptsK n a).length ≤ n) := Lib.hid (ptsK_length_le n a)
                clear MS2
                obtain ⟨q1, hs, q2, q3, q4⟩ := OLi.out
                have Q1 := Lib.hid q1
                have Q2 := Lib.hid q2
                have Q3 := Lib.hid q3
                have Q4 := Lib.hid q4
                clear q1 q2 q3 q4
                generalize mxL n R i = lt at *
                generalize ptsK n a = x at *
                go_wp2_with (first
                  | (go_at_call 94; refine (LIa.out _).mono ?_; rintro e w5 ⟨hb5, B5, c5, rfl, ho5⟩; have BB5 := Lib.hid hb5; have O5 := Lib.hid ho5; have hz5 := hb5.size; clear hb5 ho5)
                  | (at_builtin; refine wpList_app _ rfl (.tmp 55) (.tmp 61) 47 rfl wr.heap.size 27 (.slice none 0 0) 1 24 Try.underlying47 info_ints rfl (by decide) D nD cD (heads hs lt) rfl ((Q3.out.later BB5.out).alloc _) (some ⟨w5.heap.size, 0, none⟩) 1 1 [.slice B5 x.length c5] rfl (rd_new _ 1 1 [.slice B5 x.length c5] _ rfl) head_one (by omega) (by unfold maxLen; omega) (by simp; omega) ?_; intro C2 c2' w4 ho4 hg4 hb4; have OL2 : Hid (OwnL w4 wr.heap.size C2 (nD + 1) c2' (lt ++ [x])) := Lib.hid (pushL (q := x.length) rfl Q1.out Q2.out (fun i h l a b => ((Q4.out i h l a b).later BB5.out).alloc _) ((O5.out.base_le (by omega)).alloc _) ⟨_, (Q3.out.later BB5.out).alloc _⟩ ho4 hg4); have B4 : Hid (Below wr.heap.size wr w4) := Lib.hid ((((HBX.out.trans (HBI.out.mono hzx)).trans (BB5.out.mono (by omega))).alloc (by omega) _).grown hg4 (by simp; omega) (fun k hk => (Q3.out.lt hk).1)); clear ho4 hg4 hb4)
                  | fail)
                go_roundg (k - (i + 1))
                case measure => omega
                case rel => exact ⟨i + 1, C2, nD + 1, c2', by omega, rfl, by go_num, rfl, by omega, by rw [e1.out]; exact OL2.out, B4.out⟩
        · obtain rfl : i = l := by omega
          have SP : Hid (∀ W, RdL W D nD (mxL n R i) → Calls Try.prog 51 #[.slice D nD cD] W (SortPost36 W nD (mxL n R i))) := Lib.hid fun W h => sorted36_any D nD cD (mxL n R i) W (by omega) (mxL_short n R i (by omega)) h
          go_wp2_with (first
            | (go_at_call 51; refine (SP.out _ OL.out.rd).mono ?_; rintro e w5 ⟨hb5, C5, c5, ms, rfl, hp5, hs5, hr5⟩; have B5 := Lib.hid hb5; have P5 := Lib.hid hp5; have S5 := Lib.hid hs5; have R5 := Lib.hid hr5; clear hb5 hp5 hs5 hr5)
            | fail)
          go_ret
          refine ⟨X0.out.below.trans ((HB.out.trans ((HBX.out.trans (B5.out.mono hzx)).mono hsz)).mono (by omega)), C5, nD, c5, ms, rfl, ?_, R5.out⟩
          exact FIN.out ms (by rw [HL.out]; exact P5.out) S5.out
end Go.Proofs.Ytagcaljpgifppaa
