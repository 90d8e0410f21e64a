/-
  cluster.Condense.
-/
import Derived.Test.YtagcaljpgifppaaKc
import Derived.Test.YtagcaljpgifppaaKd
namespace Go.Proofs.Ytagcaljpgifppaa
set_option linter.unusedVariables false
set_option linter.unusedSimpArgs false
open Go.RowKit Go.Sort
attribute [local go_sem ↓] Go.wp_at_zero Go.wp_at_succ

theorem OwnL.at_own {w : World} {base n c : Nat} {A : Option Addr} {ls : List (List Int)} (h : OwnL w base A n c ls) {k : Nat} (hk : k < n) :
    ∃ ad A' c', A = some ad ∧ w.cell? (ad.add k) = some (.slice A' (ls.getD k []).length c') ∧ Own w base 3 1 A' (ls.getD k []).length c' (ints (ls.getD k [])) := by
  obtain ⟨h1, hs, h2, h3, h4⟩ := h
  obtain ⟨ad, e, hc⟩ := h3.rd.2 (by omega)
  have hk1 : k < hs.length := by omega
  have hk2 : k < ls.length := by omega
  have e1 : ls.getD k [] = ls[k] := by simp [List.getD_eq_getElem?_getD, List.getElem?_eq_getElem hk2]
  refine ⟨ad, hs[k].1, hs[k].2, e, ?_, ?_⟩
  · rw [e1]; refine hc k _ ?_
    simp [heads, List.getElem?_zipWith, List.getElem?_eq_getElem hk1, List.getElem?_eq_getElem hk2]
  · rw [e1]; exact h4 k _ _ (List.getElem?_eq_getElem hk1) (List.getElem?_eq_getElem hk2)
theorem OwnL.apart' {w w' : World} {base b2 n c l cD : Nat} {A D : Option Addr} {ls : List (List Int)} {xs : List Value} (h : OwnL w base A n c ls) (hD : Own w b2 42 2 D l cD xs) (hg : w.grownBy w' (blk D)) : OwnL w' base A n c ls := by
  obtain ⟨h1, hs, h2, h3, h4⟩ := h
  exact ⟨h1, hs, h2, h3.apart hg (h3.apart_type hD (by decide)), fun i hd l a b => (h4 i hd l a b).apart hg ((h4 i hd l a b).apart_type hD (by decide))⟩
theorem prU_seven {ps : List Int} (h : ps.length ≤ 7) : (prU ps ps.length).length ≤ 21 := by
  have hh : ps.length = 0 ∨ ps.length = 1 ∨ ps.length = 2 ∨ ps.length = 3 ∨ ps.length = 4 ∨ ps.length = 5 ∨ ps.length = 6 ∨ ps.length = 7 := by omega
  rcases hh with h | h | h | h | h | h | h | h <;> (rw [h]; simp [prU, h])
theorem conL_zero (es : List (Int × Int)) (ls : List (List Int)) : conL es ls 0 = es := by unfold conL; simp
theorem conL_step {es : List (Int × Int)} {ls : List (List Int)} {i : Nat} (h : i < ls.length) : conL es ls (i + 1) = conL es ls i ++ prU (ls.getD i []) (ls.getD i []).length := by
  unfold conL
  rw [List.take_succ_eq_append_getElem h, List.flatMap_append, ← List.append_assoc, List.getD_eq_getElem?_getD, List.getElem?_eq_getElem h]
  simp
theorem conL_len {es : List (Int × Int)} {ls : List (List Int)} (h : ∀ l ∈ ls, l.length ≤ 7) : ∀ i, i ≤ ls.length → (conL es ls i).length ≤ es.length + 21 * i
  | 0, _ => by rw [conL_zero]; omega
  | i + 1, hi => by
    have h1 := conL_len (es := es) h i (by omega)
    have h2 : (ls.getD i []).length ≤ 7 := h _ (by rw [List.getD_eq_getElem?_getD, List.getElem?_eq_getElem (by omega)]; exact List.getElem_mem _)
    have h3 := prU_seven h2
    rw [conL_step (by omega), List.length_append]
    omega
theorem clu_seven {n : Nat} {es : List (Int × Int)} {ls : List (List Int)} (hn : n ≤ 7) (h : CluL n es ls) : ∀ l ∈ ls, l.length ≤ 7 := fun l hl => by
  obtain ⟨e, -, rfl⟩ := (h.mem l).1 hl
  exact Nat.le_trans (clU_len (p := n)) hn
theorem clu_len' {n : Nat} {es : List (Int × Int)} {ls : List (List Int)} (h : CluL n es ls) : ls.length ≤ es.length := by
  have hnd : ls.Nodup := h.lt.imp (fun {x y} h e => by
    subst e
    unfold LtL at h
    rw [lexL_irrefl] at h
    cases h)
  have := nodup_len_le ls (es.map fun e => clP n es e.1.toNat e.2.toNat) hnd (fun x hx => by
    obtain ⟨e, he, rfl⟩ := (h.mem x).1 hx
    exact List.mem_map.2 ⟨e, he, rfl⟩)
  simpa using this
theorem cond_no (N : Int) (A : Option Addr) (m c : Nat) (es : List (Int × Int)) (w : World) (hm : m ≤ 1000) (he : Rd w 2 A m (prs es)) (hv : validB N es = false) :
    Calls Try.prog 55 #[.agg #[.int .i64 N, .slice A m c]] w fun e w' => e = .returned (.agg #[.int .i64 0, .slice none 0 0]) ∧ Below w.heap.size w w' := by
  have H0 := Lib.hid he
  have HV := Lib.hid hv
  clear he hv
  have X0 : Hid (BG w N A m c (GR w N A m c)) := Lib.hid BG.start
  have hwt : GR w N A m c = (w.alloc (.cells #[.int .i64 N, .slice A m c] 24)).alloc (.cells #[.int .i64 0, .slice none 0 0] 24) := rfl
  go_enter Try.func55, Try.ntmps55
  go_wp2_with fail
  rw [← hwt]
  clear hwt
  generalize GR w N A m c = W5 at *
  obtain ⟨hz1, p0, p1, bx⟩ := X0.out.facts
  go_upto_region 8 with (first
    | (go_at_call 64; refine (clone_n A m c es _ (H0.out.keep X0.out.keeps) (by omega)).mono ?_; rintro e w3 ⟨hb, B3, d3, rfl, ho⟩; have X3 := Lib.hid (X0.out.next hb); obtain ⟨hz3, p0, p1, bx3⟩ := X3.out.facts; clear hb ho)
    | (go_at_call 37; refine (clusters_no N A m c es _ (by omega) (H0.out.keep X3.out.keeps) HV.out).mono ?_; rintro e w4 ⟨rfl, hb⟩; have X4 := Lib.hid (X3.out.next hb); obtain ⟨hz4, p0, p1, bx4⟩ := X4.out.facts; clear hb)
    | fail)
  go_loopg [3, 14] 0 (fun g o t wr => g = 0 ∧ t = .int .i64 0 ∧ (∃ B d, o = .slice B m d) ∧ wr = w4)
  case atStart => exact ⟨rfl, rfl, ⟨_, _, rfl⟩, rfl⟩
  case round =>
    obtain ⟨rfl, rfl, ⟨B, d, rfl⟩, rfl⟩ := hrel
    go_upto_region 8 with (first
      | (go_at_call 60; refine (gvalid_b (b := false) N A m c es _ (by omega) (H0.out.keep X4.out.keeps) HV.out).mono ?_; rintro e w5 ⟨rfl, hb⟩; have X5 := Lib.hid (X4.out.next hb); obtain ⟨hz5, p0, p1, bx5⟩ := X5.out.facts; clear hb)
      | fail)
    have BX := Lib.hid bx5
    have b0 := bx5.c0
    have b1 := bx5.c1
    have f0 := bx5.f0
    have f1 := bx5.f1
    clear bx5 bx4 bx3 bx
    go_wp2_with fail
    have z := BX.out.put 0 (B := none) (q := 0) (d := 0) (l := []) (Rd.nil _ _ _)
    refine bodyPost_ret (v := .agg #[.int .i64 0, .slice none 0 0]) (by simp [results, Try.results55, go_sem, z.1, z.2.1]) rfl ⟨rfl, ?_⟩
    exact (X5.out.below.setCell (by simp) _).setCell (by simp) _
def CondPost (w : World) (n : Nat) (es : List (Int × Int)) (e : Ending) (w' : World) : Prop :=
  ∃ ls q, CluL n es ls ∧ (mkL n (conL es ls ls.length)).length = q ∧ GrPost w n q (mkL n (conL es ls ls.length)) e w'
set_option maxRecDepth 100000 in
set_option maxHeartbeats 8000000 in
theorem cond_any (n : Nat) (A : Option Addr) (m c : Nat) (es : List (Int × Int)) (w : World) (hn : n ≤ 7) (hm : m ≤ 25) (he : Rd w 2 A m (prs es)) (hv : validB n es = true) :
    Calls Try.prog 55 #[.agg #[.int .i64 (n : Int), .slice A m c]] w (CondPost w n es) := by
  have H0 := Lib.hid he
  have HE := Lib.hid he.prs_len
  have HV := Lib.hid hv
  clear he hv
  have X0 : Hid (BG w n A m c (GR w n A m c)) := Lib.hid BG.start
  have hwt : GR w n A m c = (w.alloc (.cells #[.int .i64 (n : Int), .slice A m c] 24)).alloc (.cells #[.int .i64 0, .slice none 0 0] 24) := rfl
  go_enter Try.func55, Try.ntmps55
  go_wp2_with fail
  rw [← hwt]
  clear hwt
  generalize GR w n A m c = W5 at *
  obtain ⟨hz1, p0, p1, bx⟩ := X0.out.facts
  go_upto_region 9 with (first
    | (go_at_call 64; refine (clone_n A m c es _ (H0.out.keep X0.out.keeps) (by omega)).mono ?_; rintro e w3 ⟨hb, B3, d3, rfl, ho⟩; have X3 := Lib.hid (X0.out.next hb); have BW3 := Lib.hid hb; have O3 := Lib.hid ho; obtain ⟨hz3, p0, p1, bx3⟩ := X3.out.facts; clear hb ho)
    | (go_at_call 37; refine (clusters_any n A m c es _ (by omega) (H0.out.keep X3.out.keeps) HV.out).mono ?_; rintro e w4 ⟨hb, C4, n4, c4, ls, rfl, hl, ho⟩; have X4 := Lib.hid (X3.out.next hb); have O34 := Lib.hid (O3.out.later hb); have BW4 : Hid (Below W5.heap.size W5 w4) := Lib.hid (BW3.out.trans (hb.mono BW3.out.size)); obtain ⟨hz4, p0, p1, bx4⟩ := X4.out.facts; have L4 := Lib.hid hl; have O4 := Lib.hid (ho.base_le BW3.out.size); clear hb hl ho)
    | fail)
  have hn4 := O4.out.rd.1
  have HN4 := Lib.hid hn4
  have hll := clu_len' L4.out
  rw [hn4, HE.out] at hll
  have S7 := Lib.hid (clu_seven hn L4.out)
  have CLN := Lib.hid (conL_len (es := es) S7.out)
  clear hn4
  have hz04 : W5.heap.size ≤ w4.heap.size := by have := BW4.out.size; omega
  go_loopg [3, 14] n4 (fun g o t wr => ∃ (i : Nat) (D : Option Addr) (l cD : Nat), i ≤ n4 ∧ g = n4 - i ∧ t = .int .i64 i ∧ o = .slice D l cD ∧ Own wr W5.heap.size 42 2 D l cD (prs (conL es ls i)) ∧ OwnL wr W5.heap.size C4 n4 c4 ls ∧ Below W5.heap.size W5 wr)
  case atStart => exact ⟨0, B3, m, d3, Nat.zero_le _, rfl, rfl, rfl, by rw [conL_zero]; exact O34.out, O4.out, BW4.out⟩
  case round =>
    obtain ⟨i, D, l, cD, hi, rfl, rfl, rfl, ho, hol, hb⟩ := hrel
    have HB := Lib.hid hb
    have HO := Lib.hid ho
    have OL := Lib.hid hol
    have hzr := hb.size
    have XR := Lib.hid (X0.out.next hb)
    have HL := Lib.hid ho.plen
    have hl600 : l ≤ 25 + 21 * i := by have := CLN.out i (by rw [HN4.out]; exact hi); rw [ho.plen, HE.out] at this; omega
    clear hb ho
    clear p0 p1 bx4
    obtain ⟨hzz, p0, p1, bxr⟩ := XR.out.facts
    by_cases hlt : i < n4
    · obtain ⟨ad, A1, e1, hC, c0, r1⟩ := hol.at_own hlt
      have OLH := OL
      clear hol
      have CS := Lib.hid (conL_step (es := es) (by rw [HN4.out]; exact hlt))
      have b7 : (ls.getD i []).length ≤ 7 := S7.out _ (by rw [List.getD_eq_getElem?_getD, List.getElem?_eq_getElem (by rw [HN4.out]; exact hlt)]; exact List.getElem_mem _)
      generalize hx : ls.getD i [] = x at c0 r1 CS b7
      have P21 := prU_seven b7
      have R1 := Lib.hid r1
      have hcap := r1.cap
      clear hx r1
      subst hC
      have PR : Hid (Calls Try.prog 101 #[.slice A1 x.length e1] wr (PrPost wr (prU x x.length))) := Lib.hid (cpairs_any A1 x.length e1 x wr (by omega) hcap R1.out.rd)
      generalize prU x x.length = px at PR CS P21
      generalize x.length = lx at *
      generalize hcl : conL es ls i = cl at *
      go_wp2_with (first
        | (go_at_call 101; refine PR.out.mono ?_; rintro e w5 ⟨hb, C5, n5, c5, rfl, ho⟩; have B5 := Lib.hid hb; have hz5 := hb.size; have R5 := Lib.hid ho.rd; have N5 := ho.plen; have HO5 := Lib.hid (HO.out.later hb); have OL5 := Lib.hid (OL.out.later hb); clear hb ho)
        | (at_builtin; refine wpList_app _ rfl (.tmp 18) (.tmp 20) 22 rfl W5.heap.size 42 (.agg #[.int .i64 0, .int .i64 0]) 2 16 Try.underlying22 info_pair rfl (by decide) D l cD (prs cl) rfl HO5.out C5 n5 c5 (prs px) rfl R5.out (prs_one _) (by omega) (by unfold maxLen; omega) (by omega) ?_; intro D6 c6 w6 ho6 hg6 hb6; have O6 : Hid (Own w6 W5.heap.size 42 2 D6 (l + n5) c6 (prs (cl ++ px))) := Lib.hid (by rw [prs_app]; exact ho6); have OL6 := Lib.hid (OL5.out.apart' HO5.out hg6); have B6 := Lib.hid ((HB.out.trans (B5.out.mono hzr)).grown hg6 (by omega) (fun k hk => (HO5.out.lt hk).1)); clear ho6 hg6 hb6)
        | fail)
      go_roundg (n4 - (i + 1))
      case measure => omega
      case rel => exact ⟨i + 1, D6, l + n5, c6, by omega, rfl, by go_num, rfl, by rw [CS.out]; exact O6.out, OL6.out, B6.out⟩
    · obtain rfl : i = n4 := by omega
      clear hol
      have MKC := Lib.hid (conL_mk (by omega) HV.out L4.out)
      have MK : Hid (∀ (q : Nat) (W : World), (mkL n (conL es ls ls.length)).length = q → Below wr.heap.size wr W → Calls Try.prog 31 #[.int .i64 (n : Int), .slice D l cD] W fun e w'' => Below W.heap.size W w'' ∧ ∃ B5 d5, e = .returned (.tuple #[.agg #[.int .i64 n, .slice B5 q d5], .int .i64 0]) ∧ Rd w'' 2 B5 q (prs (mkL n (conL es ls ls.length))))           := Lib.hid fun q W hq hW => by
        have e9 : conL es ls ls.length = conL es ls i := by rw [HN4.out]
        refine (gmake_any n D l cD _ W (by omega) (HO.out.later hW).rd).mono (fun e w'' hp => ?_)
        rw [← e9, MKC.out] at hp
        obtain ⟨hb, B5, d5, he, ho⟩ := hp
        rw [hq] at he ho
        exact ⟨hb, B5, d5, he, ho.rd⟩
      generalize hq : (mkL n (conL es ls ls.length)).length = q at MK
      have FIN : Hid (∀ e w', GrPost w n q (mkL n (conL es ls ls.length)) e w' → CondPost w n es e w') := Lib.hid fun e w' h => ⟨ls, q, L4.out, hq, h⟩
      have MK2 := Lib.hid (fun W => MK.out q W rfl)
      clear MK
      generalize mkL n (conL es ls ls.length) = ml at *
      go_upto_region 9 with (first
        | (go_at_call 60; refine (gvalid_b (b := true) n A m c es _ (by omega) (H0.out.keep XR.out.keeps) HV.out).mono ?_; rintro e w5 ⟨rfl, hb⟩; have X5 := Lib.hid (XR.out.next hb); have B05 := Lib.hid hb; clear hb)
        | fail)
      go_cut [6, 7] (fun h e wx => e = .int .i64 0 ∧ ∃ (g : Nat) (B : Option Addr) (d : Nat), h = .pointer (some ⟨g, 0, none⟩) ∧ wx.cell? ⟨g, 0, none⟩ = some (.int .i64 (n : Int)) ∧ wx.cell? ⟨g, 1, none⟩ = some (.slice B q d) ∧ Rd wx 2 B q (prs ml) ∧ BG w n A m c wx)
      case first =>
        clear p0 p1
        obtain ⟨hz5, p0, p1, bx5⟩ := X5.out.facts
        go_wp2_with (first
          | (go_at_call 31; refine (MK2.out _ B05.out).mono ?_; rintro e w6 ⟨hb, B6, d6, rfl, hr⟩; have X6 := Lib.hid (X5.out.next hb); have R6 := Lib.hid hr; clear hb hr)
          | fail)
        go_meet
        exact ⟨rfl, w6.heap.size, B6, d6, rfl, by simp, by simp, R6.out.keep (Keeps.alloc _ _), X6.out.next ((Below.refl _ _).alloc (Nat.le_refl _) _)⟩
      case rest =>
        obtain ⟨rfl, g, B, d, rfl, h0, h1, hr, hx6⟩ := hcut
        rename World => w6
        have X6 := Lib.hid hx6
        clear p0 p1 bxr
        obtain ⟨hz6, p0, p1, bx6⟩ := hx6.facts
        have b0 := bx6.c0
        have b1 := bx6.c1
        have f0 := bx6.f0
        have f1 := bx6.f1
        have R6 := Lib.hid hr
        have BX6 := Lib.hid bx6
        clear hr bx6 hx6
        go_wp2_with fail
        have z := BX6.out.put n (d := d) R6.out
        have HB6 := X6.out.below
        refine bodyPost_ret (v := .agg #[.int .i64 n, .slice B q d]) (by simp [results, Try.results55, go_sem, z.1, z.2.1]) rfl (FIN.out _ _ ⟨?_, B, d, rfl, z.2.2⟩)
        exact (HB6.setCell (by simp) _).setCell (by simp) _
end Go.Proofs.Ytagcaljpgifppaa
