/-
  setsquareref36.once: the first triple of lists is merged.
-/
import Derived.Test.YtcpkdnhpelkeoaaGreatRb
import Derived.Test.YtcpkdnhpelkeoaaGreatRa
import Derived.Test.YtcpkdnhpelkeoaaGreatUn1
import Derived.Test.YtcpkdnhpelkeoaaGreatStepG
namespace Go.Proofs.YtcpkdnhpelkeoaaGreat
set_option linter.unusedVariables false
set_option linter.unusedSimpArgs false
open Go.RowKit Go.Sort
attribute [local go_sem ↓] Go.wp_at_zero Go.wp_at_succ

theorem rmerge_b {p q r : Int} {o : Bool} (A B C : Option Addr) (n cA m cB k cC : Nat) (a b c : List Int) (w : World) (hn : n ≤ 1000000) (hm : m ≤ 1000000) (hk : k ≤ 1000000) (ha : Rd w 1 A n (ints a)) (hb : Rd w 1 B m (ints b)) (hc : Rd w 1 C k (ints c)) (hv : mgV a b c = (p, q, r, o)) :
    Calls Tryz.prog 41 #[.slice A n cA, .slice B m cB, .slice C k cC] w fun e w' => e = .returned (.tuple #[.int .i64 p, .int .i64 q, .int .i64 r, .bool o]) ∧ Below w.heap.size w w' := by
  have := rmerge_any A B C n cA m cB k cC a b c w hn hm hk ha hb hc
  rw [hv] at this
  exact this
theorem union3 {B : Addr} {x y z L : List Int} {p : Nat} {W : World} (h : RdL W (some B) 3 [x, y, z]) (hL : x ++ (y ++ z) = L) (hp : (unI L).length = p) (hs : L.length ≤ 100000) :
    Calls Tryz.prog 42 #[.slice (some B) 3 3] W fun e w' => Below W.heap.size W w' ∧ ∃ C c, e = .returned (.slice C p c) ∧ Rd w' 1 C p (ints (unI L)) := by
  subst hp hL
  have hj : ∀ k, (joinI [x, y, z] k).length ≤ 100000 := fun k => by
    have := join_tot [x, y, z] k
    rw [tot3] at this
    rw [List.length_append, List.length_append] at hs
    omega
  have h1 := union_any (some B) 3 3 [x, y, z] W (by omega) (fun k => Nat.le_trans (hj k) (by omega)) (fun k => by
    have := getD_tot [x, y, z] k
    rw [tot3] at this
    rw [List.length_append, List.length_append] at hs
    omega) h
  rw [join3] at h1
  exact h1
theorem RdL.cell {w : World} {ad : Addr} {n : Nat} {ls : List (List Int)} (h : RdL w (some ad) n ls) {k : Nat} (hk : k < n) :
    ∃ A' c, w.cell? (ad.add k) = some (.slice A' (ls.getD k []).length c) ∧ Rd w 1 A' (ls.getD k []).length (ints (ls.getD k [])) := by
  obtain ⟨ad', A', c, e, h1, h2⟩ := h.at hk
  injection e with e
  subst e
  exact ⟨A', c, h1, h2⟩
theorem hdz_snoc (zs : List Zr) (z : Zr) : hdz (zs ++ [z]) = hdz zs ++ [Value.slice z.1.1 z.2.length z.1.2] := by unfold hdz; simp
theorem lsz_snoc (zs : List Zr) (z : Zr) : lsz (zs ++ [z]) = lsz zs ++ [z.2] := by unfold lsz; simp
theorem rowsZ_snoc {w : World} {zs : List Zr} {z : Zr} (h : RowsZ w zs) (hz : Rd w 1 z.1.1 z.2.length (ints z.2)) : RowsZ w (zs ++ [z]) := fun y hy => by
  rcases List.mem_append.1 hy with hy | hy
  · exact h y hy
  · rw [List.mem_singleton.1 hy]; exact hz
theorem rdT_drew' {w : World} {size n : Nat} {A : Option Addr} {xs : List Value} (h : Rd w size A n xs) : Rd w.drew size A n xs := h
def OncPost (w : World) (ls : List (List Int)) (e : Ending) (w' : World) : Prop :=
  Below w.heap.size w w' ∧ ∃ C m d rs ok, e = .returned (.tuple #[.slice C m d, .bool ok]) ∧ RdL w' C m rs ∧ StepR ls rs ok
set_option maxRecDepth 100000 in
set_option maxHeartbeats 16000000 in
theorem once_any (A : Option Addr) (n c : Nat) (ls : List (List Int)) (w : World) (hn : n ≤ 1000) (ht : totL ls ≤ 100000) (ho : RdL w A n ls) :
    Calls Tryz.prog 21 #[.slice A n c] w (OncPost w ls) := by
  have H1 := Lib.hid ho
  have HLN : Hid (ls.length = n) := Lib.hid ho.1
  have HS : Hid (∀ k, (ls.getD k []).length ≤ 100000) := Lib.hid fun k => Nat.le_trans (getD_tot ls k) ht
  have HT := Lib.hid ht
  clear ho ht
  have EGC : Hid (∀ args w, (callFunc 42 args).run Tryz.prog w = .ok (.enter 42 args) w) := Lib.hid (enters_of Tryz.func42 (by kernel_rfl) rfl)
  go_enter Tryz.func21, Tryz.ntmps21
  go_wp2_with fail
  go_loopg [4] n (fun g i wr => ∃ q : Nat, q ≤ n ∧ g = n - q ∧ i = .int .i64 q ∧ NT1 ls q ∧ Below w.heap.size w wr)
  case atStart => exact ⟨0, Nat.zero_le _, rfl, rfl, NT1.zero _, Below.refl _ _⟩
  case round =>
    obtain ⟨i, hi, rfl, rfl, h1, hb⟩ := hrel
    have HB := Lib.hid hb
    have N1 := Lib.hid h1
    have kr := Keeps.of_below hb (Nat.le_refl _)
    clear hb h1
    by_cases hlt : i < n
    · obtain ⟨ad, A1, e1, hA, c1, o1⟩ := H1.out.at hlt
      subst hA
      have b1 := HS.out i
      have TRI : Hid (∀ j k, tri ls i j k = (mgV (ls.getD i []) (ls.getD j []) (ls.getD k [])).2.2.2) := Lib.hid fun j k => rfl
      have MRG : Hid (∀ j k, mrgL ls i j k = srtV (unI (ls.getD i [] ++ (ls.getD j [] ++ ls.getD k [])) :: butTo ls i j k ls.length)) := Lib.hid fun j k => rfl
      have T3 : Hid (∀ j k, i < j → j < k → k < n → (ls.getD i []).length + ((ls.getD j []).length + (ls.getD k []).length) ≤ 100000) := Lib.hid fun j k h1 h2 h3 => Nat.le_trans (three_tot h1 h2 (by rw [HLN.out]; exact h3)) HT.out
      have c1r := kr _ _ c1
      generalize hx : ls.getD i [] = x at c1 c1r o1 b1 TRI MRG T3
      have HX := Lib.hid hx
      have O1 := Lib.hid o1
      clear hx o1 kr
      generalize hl1 : x.length = n1 at *
      have HL1 := Lib.hid hl1
      clear hl1
      go_wp2_with fail
      go_loopg [5] n (fun g j wr => ∃ q : Nat, i < q ∧ q ≤ n ∧ n - q ≤ g ∧ j = .int .i64 q ∧ NT2 ls i q ∧ Below w.heap.size w wr)
      case atStart => exact ⟨i + 1, by omega, by omega, by omega, by go_num, NT2.start _ _, HB.out⟩
      case round =>
        clear HB c1r
        obtain ⟨j, hij, hj, hgj, rfl, h2, hb⟩ := hrel
        have HB := Lib.hid hb
        have N2 := Lib.hid h2
        clear hb h2
        by_cases hjl : j < n
        · go_wp2_with fail
          go_loopg [6] n (fun g k wr => ∃ q : Nat, j < q ∧ q ≤ n ∧ n - q ≤ g ∧ k = .int .i64 q ∧ NT3 ls i j q ∧ Below w.heap.size w wr)
          case atStart => exact ⟨j + 1, by omega, by omega, by omega, by go_num, NT3.start _ _ _, HB.out⟩
          case round =>
            clear HB
            obtain ⟨k, hjk, hk, hgk, rfl, h3, hb⟩ := hrel
            rename World => wr
            have HB := Lib.hid hb
            have N3 := Lib.hid h3
            have kr := Keeps.of_below hb (Nat.le_refl _)
            have KR := Lib.hid kr
            clear hb h3
            by_cases hkl : k < n
            · obtain ⟨A2, e2, c2, o2⟩ := H1.out.cell hjl
              obtain ⟨A3, e3, c3, o3⟩ := H1.out.cell hkl
              have b2 := HS.out j
              have b3 := HS.out k
              have b4 := T3.out j k hij hjk hkl
              have TR : Hid (tri ls i j k = (mgV x (ls.getD j []) (ls.getD k [])).2.2.2) := Lib.hid (TRI.out j k)
              have MG : Hid (mrgL ls i j k = srtV (unI (x ++ (ls.getD j [] ++ ls.getD k [])) :: butTo ls i j k ls.length)) := Lib.hid (MRG.out j k)
              have c2r := kr _ _ c2
              have c3r := kr _ _ c3
              generalize hy : ls.getD j [] = y at c2 c2r o2 b2 b4 TR MG
              generalize hz : ls.getD k [] = z at c3 c3r o3 b3 b4 TR MG
              have O2 := Lib.hid o2
              have O3 := Lib.hid o3
              have kr1 := kr
              clear hy hz o2 o3 kr
              generalize hl2 : y.length = n2 at *
              have HL2 := Lib.hid hl2
              generalize hl3 : z.length = n3 at *
              have HL3 := Lib.hid hl3
              clear hl2 hl3
              have c1r := kr1 _ _ c1
              have k1 := grown_cell c1r
              have k2 := grown_cell c2r
              have k3 := grown_cell c3r
              have TV : Hid (∀ v, mgV x y z = v → tri ls i j k = v.2.2.2) := Lib.hid (fun v h => by rw [TR.out, h])
              rcases hv : mgV x y z with ⟨p1, p2, p3, o⟩
              have CM : Hid (∀ W, Keeps wr W → Calls Tryz.prog 41 #[.slice A1 n1 e1, .slice A2 n2 e2, .slice A3 n3 e3] W fun e w' => e = .returned (.tuple #[.int .i64 p1, .int .i64 p2, .int .i64 p3, .bool o]) ∧ Below W.heap.size W w') := Lib.hid fun W hw => rmerge_b A1 A2 A3 n1 e1 n2 e2 n3 e3 x y z W (by omega) (by omega) (by omega) ((O1.out.keep KR.out).keep hw) ((O2.out.keep KR.out).keep hw) ((O3.out.keep KR.out).keep hw) hv
              have TF : Hid (tri ls i j k = o) := Lib.hid (TV.out _ hv)
              clear hv TR TV
              cases o
              · have cA := call_q (w := wr) CM.out
                have TG := Lib.hid (N3.out.next TF.out)
                clear MG c1 c2 c3 CM TF TRI MRG T3 b4
                go_wp2_with fail
                refine wp_region_q (by kernel_rfl) (by kernel_rfl) ?_
                repeat (go_big_quiet_step (first | with_reducible exact cA _ _))
                refine wpQuiet_nil ?_
                intro wq hgq
                go_wp2_with fail
                go_roundg (n - (k + 1))
                case measure => omega
                case rel => exact ⟨k + 1, by omega, by omega, Nat.le_refl _, by go_num, TG.out, HB.out.trans (hgq.mono HB.out.size)⟩
              · have cA := call_q (w := wr) CM.out
                have FI := Lib.hid (first_of HLN.out hij hjk hkl TF.out N1.out N2.out N3.out)
                clear CM TF TRI MRG T3 N1 N2 N3
                go_wp2_with fail
                refine wp_region_q (by kernel_rfl) (by kernel_rfl) ?_
                repeat (go_big_quiet_step (first | with_reducible exact cA _ _))
                refine wpQuiet_nil ?_
                intro wq hgq
                have HBQ := Lib.hid (HB.out.trans (hgq.mono HB.out.size))
                have kq := Keeps.of_below HBQ.out (Nat.le_refl _)
                have c1q := kq _ _ c1
                have c2q := kq _ _ c2
                have c3q := kq _ _ c3
                have hzq := HBQ.out.size
                clear hgq cA k1 k2 k3 c2r c3r c1r KR HB kr1
                have RL1 : Hid (RdL (wq.alloc (.cells #[.slice A1 n1 e1, .slice A2 n2 e2, .slice A3 n3 e3] 24)) (some ⟨wq.heap.size, 0, none⟩) 3 [x, y, z]) := Lib.hid (rdL_three rfl HL1.out HL2.out HL3.out _ (O1.out.keep kq) (O2.out.keep kq) (O3.out.keep kq))
                have RL2 : Hid (RdL (wq.drew.alloc (.cells #[.slice A1 n1 e1, .slice A2 n2 e2, .slice A3 n3 e3] 24)) (some ⟨wq.heap.size, 0, none⟩) 3 [x, y, z]) := Lib.hid (rdL_three (w := wq.drew) rfl HL1.out HL2.out HL3.out _ (rdT_drew' (O1.out.keep kq)) (rdT_drew' (O2.out.keep kq)) (rdT_drew' (O3.out.keep kq)))
                obtain ⟨L, hL⟩ : ∃ L, L = x ++ (y ++ z) := ⟨_, rfl⟩
                obtain ⟨p5, hp5⟩ : ∃ p, L.length = p := ⟨_, rfl⟩
                have hp6 : p5 ≤ 100000 := by rw [← hp5, hL, List.length_append, List.length_append, HL1.out, HL2.out, HL3.out]; exact b4
                have LL := Lib.hid hL.symm
                have LP : Hid (L.length ≤ 100000) := Lib.hid (by rw [hp5]; exact hp6)
                clear hL hp5 kq hp6
                obtain ⟨p7, hp7⟩ : ∃ p, (unI L).length = p := ⟨_, rfl⟩
                have HPU := Lib.hid hp7
                have hul : p7 ≤ 100000 := by rw [← hp7]; exact Nat.le_trans (unI_len L) LP.out
                clear hp7
                go_upto_region 12 with fail
                go_region_law ((first
                  | (refine step_callN rfl 42 #[.tmp 67] #[22] rfl EGC.out #[.slice (some ⟨wq.heap.size, 0, none⟩) 3 3] (by first | (simp [Act.eval, Act.put]; done) | (simp [Act.eval, Act.put, add0]; done) | fail) (union3 (by first | exact RL1.out | exact RL2.out | fail) LL.out HPU.out LP.out) (fun e w' hp => by obtain ⟨-, C, c, he, -⟩ := hp; exact ⟨_, he⟩) ?_; rintro v5 w5 ⟨hb5, C5, c5, he5, ho5⟩; injection he5 with he5; subst he5; have O5 := Lib.hid ho5; have B5 : Hid (Below w.heap.size w w5) := Lib.hid (by first | exact (HBQ.out.drew.alloc (by simp; omega) _).trans (hb5.mono (by simp; omega)) | exact (HBQ.out.alloc (by omega) _).trans (hb5.mono (by simp; omega)) | fail); clear hb5 ho5)
                  | fail))
                all_goals
                 have hz5 := B5.out.size
                 clear RL1 RL2 c1q c2q c3q hzq HBQ
                 generalize hU : unI L = U at O5 HPU
                 have HU := Lib.hid hU
                 clear hU
                 go_wp2_with fail
                 go_loopg [11, 12] n (fun g o ix wr => ∃ (r : Nat) (C : Option Addr) (p cC : Nat) (zs : List Zr), r ≤ n ∧ g = n - r ∧ o = .slice C p cC ∧ ix = .int .i64 r ∧ p ≤ r + 1 ∧ Own wr w5.heap.size 24 1 C p cC (hdz zs) ∧ RowsZ w5 zs ∧ lsz zs = U :: butTo ls i j k r ∧ Below w5.heap.size w5 wr)
                 case atStart => exact ⟨0, _, 1, 1, [((C5, c5), U)], Nat.zero_le _, rfl, rfl, rfl, by omega, by have h9 := own_lit_at (w := w5) rfl 24 1 1 [.slice C5 p7 c5] (by unfold maxLen; omega) rfl; have e9 : hdz [((C5, c5), U)] = [.slice C5 p7 c5] := (by show [Value.slice C5 U.length c5] = _; rw [HPU.out]); rw [e9]; exact h9, (fun y hy => by rw [List.mem_singleton.1 hy]; simp only; rw [HPU.out]; exact O5.out), rfl, (Below.refl _ _).alloc (Nat.le_refl _) _⟩
                 case round =>
                  obtain ⟨r, C, p, cC, zs, hr, rfl, rfl, rfl, hp, ho, hrw, hls, hb⟩ := hrel
                  have HB := Lib.hid hb
                  have HO := Lib.hid ho
                  have HR := Lib.hid hrw
                  have HL := Lib.hid hls
                  have hzr := hb.size
                  have k5 := Keeps.of_below B5.out (Nat.le_refl _)
                  have kr := Keeps.of_below hb (Nat.le_refl _)
                  clear ho hb hrw hls
                  by_cases hrl : r < n
                  · obtain ⟨A4, e4, c4, o4⟩ := H1.out.cell hrl
                    have b4' := HS.out r
                    have PUT : Hid (r ≠ i → r ≠ j → r ≠ k → U :: butTo ls i j k (r + 1) = (U :: butTo ls i j k r) ++ [ls.getD r []]) := Lib.hid fun h1 h2 h3 => by rw [butTo_put h1 h2 h3, List.cons_append]
                    have SKIP : Hid (r = i ∨ r = j ∨ r = k → U :: butTo ls i j k (r + 1) = U :: butTo ls i j k r) := Lib.hid fun h => by rw [butTo_skip h]
                    have c4r := kr _ _ (k5 _ _ c4)
                    generalize hv : ls.getD r [] = v at c4 c4r o4 b4' PUT
                    have O4 := Lib.hid (o4.keep k5)
                    clear hv o4 kr k5 c4
                    generalize hl4 : v.length = n4 at *
                    have HL4 := Lib.hid hl4
                    clear hl4
                    by_cases e1 : r = i
                    · have SK := Lib.hid (SKIP.out (.inl e1))
                      clear PUT SKIP
                      subst e1
                      go_wp2_with fail
                      go_roundg (n - (r + 1))
                      case measure => omega
                      case rel => exact ⟨r + 1, C, p, cC, zs, by omega, rfl, rfl, by go_num, by omega, HO.out, HR.out, by rw [SK.out]; exact HL.out, HB.out⟩
                    · by_cases e2 : r = j
                      · have SK := Lib.hid (SKIP.out (.inr (.inl e2)))
                        have f1 : ((r : Int) != (i : Int)) = true := by rw [bne_iff_ne]; omega
                        clear PUT SKIP e1
                        subst e2
                        go_wp2_with fail
                        go_roundg (n - (r + 1))
                        case measure => omega
                        case rel => exact ⟨r + 1, C, p, cC, zs, by omega, rfl, rfl, by go_num, by omega, HO.out, HR.out, by rw [SK.out]; exact HL.out, HB.out⟩
                      · by_cases e3 : r = k
                        · have SK := Lib.hid (SKIP.out (.inr (.inr e3)))
                          have f1 : ((r : Int) != (i : Int)) = true := by rw [bne_iff_ne]; omega
                          have f2 : ((r : Int) != (j : Int)) = true := by rw [bne_iff_ne]; omega
                          clear PUT SKIP e1 e2
                          subst e3
                          go_wp2_with fail
                          go_roundg (n - (r + 1))
                          case measure => omega
                          case rel => exact ⟨r + 1, C, p, cC, zs, by omega, rfl, rfl, by go_num, by omega, HO.out, HR.out, by rw [SK.out]; exact HL.out, HB.out⟩
                        · have PT := Lib.hid (PUT.out e1 e2 e3)
                          have f1 : ((r : Int) != (i : Int)) = true := by rw [bne_iff_ne]; omega
                          have f2 : ((r : Int) != (j : Int)) = true := by rw [bne_iff_ne]; omega
                          have f3 : ((r : Int) != (k : Int)) = true := by rw [bne_iff_ne]; omega
                          have HS4 : Hid (hdz (zs ++ [((A4, e4), v)]) = hdz zs ++ [Value.slice A4 n4 e4]) := Lib.hid (by rw [hdz_snoc, HL4.out])
                          have HL2 : Hid (lsz (zs ++ [((A4, e4), v)]) = U :: butTo ls i j k (r + 1)) := Lib.hid (by rw [lsz_snoc, HL.out, PT.out])
                          have HR2 : Hid (RowsZ w5 (zs ++ [((A4, e4), v)])) := Lib.hid (rowsZ_snoc HR.out (by simp only; rw [HL4.out]; exact O4.out))
                          clear PUT SKIP e1 e2 e3
                          go_wp2_with (first
                            | (at_builtin; refine wpList_app _ rfl (.tmp 89) (.tmp 94) 22 rfl w5.heap.size 24 (.slice none 0 0) 1 24 Tryz.underlying22 info_ints rfl (by decide) C p cC (hdz zs) rfl (HO.out.alloc _) (some ⟨wr.heap.size, 0, none⟩) 1 1 [.slice A4 n4 e4] rfl (rd_new _ 1 1 [.slice A4 n4 e4] _ rfl) head_one (by omega) (by unfold maxLen; omega) (by simp; omega) ?_; intro C2 c2' w4 ho4 hg4 hb4; have OL2 : Hid (Own w4 w5.heap.size 24 1 C2 (p + 1) c2' (hdz (zs ++ [((A4, e4), v)]))) := Lib.hid (by rw [HS4.out]; exact ho4); have B4 : Hid (Below w5.heap.size w5 w4) := Lib.hid ((HB.out.alloc hzr _).grown hg4 (by simp; omega) (fun k hk => (HO.out.lt hk).1)); clear ho4 hg4 hb4)
                            | fail)
                          go_roundg (n - (r + 1))
                          case measure => omega
                          case rel => exact ⟨r + 1, C2, p + 1, c2', zs ++ [((A4, e4), v)], by omega, rfl, rfl, by go_num, by omega, OL2.out, HR2.out, HL2.out, B4.out⟩
                  · obtain rfl : r = n := by omega
                    have hM : ∀ y' ∈ lsz zs, y'.length ≤ 100000 := fun y' hy => by
                      rw [HL.out] at hy
                      rcases List.mem_cons.1 hy with rfl | hy
                      · rw [HPU.out]; exact hul
                      · exact Nat.le_trans (but_mem hy) HT.out
                    have cF := sorted36_any C p cC (lsz zs) wr (by omega) (fun m => Nat.le_trans (row_le hM m) (by omega)) (rdL_z HO.out.rd (HR.out.keep kr))
                    clear hM kr k5
                    go_wp2_with fail
                    refine Calls.mono cF ?_
                    rintro _ w8 ⟨hb8, D8, d8, ms, rfl, hpm, hsr, ho8⟩
                    have B8 : Hid (Below w.heap.size w w8) := Lib.hid ((B5.out.trans (HB.out.mono hz5)).trans (hb8.mono (by omega)))
                    have O8 := Lib.hid ho8
                    have ST : Hid (StepR ls ms true) := Lib.hid (step_some FI.out (by rw [MG.out, LL.out, HU.out, HLN.out]; rw [HL.out] at hpm; exact srtV_eq hpm hsr))
                    clear cF hpm hsr ho8 hb8
                    go_wp2_with fail
                    exact bodyPost_ret (v := .tuple #[.slice D8 p d8, .bool true]) (by simp [results, Tryz.results21, go_sem]) rfl ⟨B8.out, D8, p, d8, ms, true, rfl, O8.out, ST.out⟩
            · obtain rfl : k = n := by omega
              have N4 := Lib.hid (N2.out.next N3.out HLN.out)
              go_wp2_with fail
              go_roundg (k - (j + 1))
              case measure => omega
              case rel => exact ⟨j + 1, by omega, by omega, Nat.le_refl _, by go_num, N4.out, HB.out⟩
        · obtain rfl : j = n := by omega
          have N4 := Lib.hid (N1.out.next N2.out HLN.out)
          go_wp2_with fail
          go_roundg (j - (i + 1))
          case measure => omega
          case rel => exact ⟨i + 1, by omega, rfl, by go_num, N4.out, HB.out⟩
    · obtain rfl : i = n := by omega
      have SN := Lib.hid (step_none HLN.out N1.out)
      go_wp2_with fail
      exact bodyPost_ret (v := .tuple #[.slice A i c, .bool false]) (by simp [results, Tryz.results21, go_sem]) rfl ⟨HB.out, A, i, c, ls, false, rfl, H1.out.keep (Keeps.of_below HB.out (Nat.le_refl _)), SN.out⟩
end Go.Proofs.YtcpkdnhpelkeoaaGreat
