/-
  setsquareref36.Sorted.
-/
import Derived.Test.YtcpkdnhpelkeoaaGreatKb
import Derived.Test.YtcpkdnhpelkeoaaGreatKa
import Derived.Test.YtcpkdnhpelkeoaaGreatKc
namespace Go.Proofs.YtcpkdnhpelkeoaaGreat
set_option linter.unusedVariables false
set_option linter.unusedSimpArgs false
open Go.RowKit Go.Sort
attribute [local go_sem ↓] Go.wp_at_zero Go.wp_at_succ

/-- A row: its header, and what it reads. -/
abbrev Zr := (Option Addr × Nat) × List Int
def z0 : Zr := ((none, 0), [])
def hdz (zs : List Zr) : List Value := zs.map fun z => Value.slice z.1.1 z.2.length z.1.2
def RowsZ (w : World) (zs : List Zr) : Prop := ∀ z ∈ zs, Rd w 1 z.1.1 z.2.length (ints z.2)
def lsz (zs : List Zr) : List (List Int) := zs.map fun z => z.2
def insZ (k : Nat) (z : Zr) (zs : List Zr) : List Zr := zs.take k ++ z :: zs.drop k
theorem hdz_len (zs : List Zr) : (hdz zs).length = zs.length := by simp [hdz]
theorem hdz_one (zs : List Zr) : ∀ u ∈ hdz zs, u.oneCell' = true := by
  intro u hu
  obtain ⟨z, -, rfl⟩ := List.mem_map.1 hu
  rfl
theorem hdz_at {zs : List Zr} {k : Nat} (h : k < zs.length) : (hdz zs)[k]? = some (.slice (zs.getD k z0).1.1 (zs.getD k z0).2.length (zs.getD k z0).1.2) := by
  unfold hdz
  rw [List.getElem?_map, List.getElem?_eq_getElem h, List.getD_eq_getElem?_getD, List.getElem?_eq_getElem h]; rfl
theorem zs_mem {zs : List Zr} {k : Nat} (h : k < zs.length) : zs.getD k z0 ∈ zs := by
  rw [List.getD_eq_getElem?_getD, List.getElem?_eq_getElem h]; exact List.getElem_mem h
theorem own_hd {w : World} {base n c : Nat} {A : Option Addr} {zs : List Zr} (h : Own w base 24 1 A n c (hdz zs)) {k : Nat} (hk : k < n) :
    ∃ g, A = some ⟨g, 0, none⟩ ∧ w.cell? ⟨g, k, none⟩ = some (.slice (zs.getD k z0).1.1 (zs.getD k z0).2.length (zs.getD k z0).1.2) := by
  obtain ⟨g, rfl, -, -⟩ := h.some_ (by omega)
  have hl := h.len
  rw [hdz_len] at hl
  obtain ⟨ad, e, hc⟩ := h.rd.2 (by omega)
  injection e with e
  subst e
  refine ⟨g, rfl, ?_⟩
  have := hc k _ (hdz_at (by omega))
  rwa [add0] at this
theorem own_zl {w : World} {base n c : Nat} {A : Option Addr} {zs : List Zr} (h : Own w base 24 1 A n c (hdz zs)) : zs.length = n := by
  have hl := h.len
  rw [hdz_len] at hl
  omega
theorem rdL_z {w : World} {n : Nat} {A : Option Addr} {zs : List Zr} (h : Rd w 1 A n (hdz zs)) (hr : RowsZ w zs) : RdL w A n (lsz zs) := by
  have hl := h.1
  rw [hdz_len] at hl
  refine ⟨by simp [lsz]; omega, zs.map (·.1), by simp; omega, ?_, ?_⟩
  · have e : (List.zipWith (fun (h : Option Addr × Nat) (l : List Int) => Value.slice h.1 l.length h.2) (zs.map (·.1)) (lsz zs)) = hdz zs := by
      unfold lsz hdz
      rw [List.zipWith_map]
      simp
    rw [e]; exact h
  · intro i hd l h1 h2
    simp only [lsz, List.getElem?_map, Option.map_eq_some_iff] at h1 h2
    obtain ⟨z, hz, rfl⟩ := h1
    obtain ⟨z', hz', rfl⟩ := h2
    rw [hz] at hz'
    injection hz' with hz'
    subst hz'
    exact hr z (List.mem_of_getElem? hz)
theorem RowsZ.keep {w w' : World} {zs : List Zr} (h : RowsZ w zs) (k : Keeps w w') : RowsZ w' zs := fun z hz => (h z hz).keep k
theorem insZ_perm (k : Nat) (z : Zr) (zs : List Zr) : (insZ k z zs).Perm (z :: zs) := by
  unfold insZ
  have h : (zs.take k ++ z :: zs.drop k).Perm (z :: (zs.take k ++ zs.drop k)) := List.perm_middle
  rwa [List.take_append_drop] at h
theorem hdz_ins (k : Nat) (z : Zr) (zs : List Zr) : hdz (insZ k z zs) = (hdz zs).take k ++ ([Value.slice z.1.1 z.2.length z.1.2] ++ (hdz zs).drop k) := by
  unfold insZ hdz
  rw [List.map_append, List.map_cons, List.map_take, List.map_drop]; rfl
def SrtL (l : List (List Int)) : Prop := l.Pairwise fun x y => lexL y x = false
theorem ins_srt {k : Nat} {z : Zr} {zs : List Zr} (h : SrtL (lsz zs)) (h1 : ∀ j, j < k → j < zs.length → lexL z.2 (zs.getD j z0).2 = false) (h2 : k < zs.length → lexL z.2 (zs.getD k z0).2 = true) : SrtL (lsz (insZ k z zs)) := by
  unfold SrtL lsz insZ at *
  rw [List.map_append, List.map_cons, List.pairwise_append]
  have hs := h
  rw [← List.take_append_drop k zs, List.map_append, List.pairwise_append] at hs
  obtain ⟨s1, s2, s3⟩ := hs
  have hrow : ∀ y ∈ (zs.drop k).map (·.2), lexL y z.2 = false := by
    intro y hy
    obtain ⟨u, hu, rfl⟩ := List.mem_map.1 hy
    have hlt : k < zs.length := by
      rcases Nat.lt_or_ge k zs.length with h' | h'
      · exact h'
      · rw [List.drop_eq_nil_of_le h'] at hu; cases hu
    have h3 := h2 hlt
    rw [List.drop_eq_getElem_cons hlt] at hu s2
    have e : zs.getD k z0 = zs[k] := by rw [List.getD_eq_getElem?_getD, List.getElem?_eq_getElem hlt]; rfl
    rw [e] at h3
    rcases List.mem_cons.1 hu with rfl | hu
    · exact lexL_asymm h3
    · rw [List.map_cons, List.pairwise_cons] at s2
      have h4 := s2.1 u.2 (List.mem_map.2 ⟨u, hu, rfl⟩)
      cases h5 : lexL u.2 z.2
      · rfl
      · rw [lexL_trans h5 h3] at h4; cases h4
  refine ⟨s1, ?_, ?_⟩
  · rw [List.pairwise_cons]
    exact ⟨hrow, s2⟩
  · intro x hx y hy
    rcases List.mem_cons.1 hy with rfl | hy
    · obtain ⟨u, hu, rfl⟩ := List.mem_map.1 hx
      obtain ⟨j, hj, rfl⟩ := List.getElem_of_mem hu
      rw [List.length_take] at hj
      have hj1 : j < k := by omega
      have hj2 : j < zs.length := by omega
      have := h1 j hj1 hj2
      rw [List.getD_eq_getElem?_getD, List.getElem?_eq_getElem hj2] at this
      rw [List.getElem_take]
      exact this
    · exact s3 x hx y hy
theorem rd_dropz {w : World} {g n k : Nat} {zs : List Zr} (h : Rd w 1 (some ⟨g, 0, none⟩) n (hdz zs)) (hk : k ≤ n) : Rd w 1 (some ⟨g, k, none⟩) (n - k) ((hdz zs).drop k) := by
  refine ⟨by rw [List.length_drop]; have := h.1; omega, fun hn => ⟨_, rfl, fun j u hu => ?_⟩⟩
  obtain ⟨ad, e, hc⟩ := h.2 (by omega)
  injection e with e
  subst e
  rw [List.getElem?_drop] at hu
  have := hc (k + j) u hu
  rw [add0] at this
  have e2 : (⟨g, k, none⟩ : Addr).add j = ⟨g, k + j, none⟩ := by unfold Addr.add; split <;> simp_all
  rw [e2]; exact this
def SortPost36 (w : World) (n : Nat) (ls : List (List Int)) (e : Ending) (w' : World) : Prop :=
  Below w.heap.size w w' ∧ ∃ C c ms, e = .returned (.slice C n c) ∧ ms.Perm ls ∧ SrtL ms ∧ RdL w' C n ms
set_option maxRecDepth 100000 in
set_option maxHeartbeats 16000000 in
theorem sorted36_any (A : Option Addr) (n c : Nat) (ls : List (List Int)) (w : World) (hn : n ≤ 100000) (hs : shortL ls) (he : RdL w A n ls) :
    Calls Tryz.prog 20 #[.slice A n c] w (SortPost36 w n ls) := by
  have H1 := Lib.hid he
  have HLN : Hid (ls.length = n) := Lib.hid he.1
  have HS := Lib.hid hs
  clear he hs
  go_enter Tryz.func20, Tryz.ntmps20
  go_wp2_with fail
  go_loopg [3, 4, 5] n (fun g o t _ wr => ∃ (q : Nat) (C : Option Addr) (cC : Nat) (zs : List Zr), q ≤ n ∧ g = n - q ∧ t = .int .i64 q ∧ o = .slice C q cC ∧ Own wr w.heap.size 24 1 C q cC (hdz zs) ∧ RowsZ w zs ∧ (lsz zs).Perm (ls.take q) ∧ SrtL (lsz zs) ∧ (q = 0 → C = none ∧ cC = 0) ∧ Below w.heap.size w wr)
  case atStart => exact ⟨0, none, 0, [], Nat.zero_le _, rfl, rfl, rfl, Own.nil _ _ _ _, (fun z hz => nomatch hz), List.Perm.nil, List.Pairwise.nil, fun _ => ⟨rfl, rfl⟩, Below.refl _ _⟩
  case round =>
    obtain ⟨q, C, cC, zs, hq, rfl, rfl, rfl, ho, hrw, hp, hst, hze, hb⟩ := hrel
    have HB := Lib.hid hb
    have HO := Lib.hid ho
    have HR := Lib.hid hrw
    have HP := Lib.hid hp
    have HST := Lib.hid hst
    have ZE := Lib.hid hze
    have hzr := hb.size
    have kr := Keeps.of_below hb (Nat.le_refl _)
    have KR := Lib.hid kr
    have ZL := Lib.hid (own_zl ho)
    have SZ : Hid (∀ z ∈ zs, z.2.length ≤ 1000000) := Lib.hid fun z hz => by
      have h1 : z.2 ∈ ls.take q := hp.mem_iff.1 (List.mem_map.2 ⟨z, hz, rfl⟩)
      obtain ⟨j, hj, e⟩ := List.getElem_of_mem (List.mem_of_mem_take h1)
      have := HS.out j
      rw [List.getD_eq_getElem?_getD, List.getElem?_eq_getElem hj] at this
      rw [← e]; exact this
    have hcap := ho.cap
    clear hb ho hrw hp hst hze
    by_cases hlt : q < n
    · obtain ⟨ad, A1, e1, rfl, c0, r1⟩ := H1.out.at hlt
      have b1 := HS.out q
      have TS : Hid (ls.take (q + 1) = ls.take q ++ [ls.getD q []]) := Lib.hid (take_snoc HLN.out hlt rfl)
      generalize hx : ls.getD q [] = x at c0 r1 b1 TS
      have R1 := Lib.hid r1
      have c0r := kr _ _ c0
      have c0w := c0
      clear hx r1 kr
      generalize hlx : x.length = lx at *
      have HLX := Lib.hid hlx
      clear hlx
      go_wp2_with fail
      go_loopg [5] q (fun g t wi => ∃ k : Nat, k ≤ q ∧ g = q - k ∧ t = .int .i64 k ∧ (∀ j, j < k → j < zs.length → lexL x (zs.getD j z0).2 = false) ∧ Below wr.heap.size wr wi)
      case atStart => exact ⟨0, Nat.zero_le _, rfl, rfl, fun j hj => by omega, Below.refl _ _⟩
      case round =>
        obtain ⟨k, hk, rfl, rfl, hal, hbi⟩ := hrel
        rename World => wi
        have HAL := Lib.hid hal
        have HBI := Lib.hid hbi
        have ki := Keeps.of_below hbi (Nat.le_refl _)
        have KI := Lib.hid ki
        have c0i := ki _ _ c0r
        clear hal hbi
        by_cases hkq : k < q
        · obtain ⟨g, hCg, d0⟩ := own_hd HO.out hkq
          subst hCg
          have ym : zs.getD k z0 ∈ zs := zs_mem (by rw [ZL.out]; exact hkq)
          have R2 := Lib.hid (HR.out _ ym)
          have b2 := SZ.out _ ym
          have d0i := ki _ _ d0
          clear d0 ym ki
          generalize hz : zs.getD k z0 = z at *
          obtain ⟨⟨A2, e2⟩, y⟩ := z
          have HZ := Lib.hid hz
          have ST : Hid (∀ b, lexL x y = b → lexL x (zs.getD k z0).2 = b) := Lib.hid fun b h => by rw [HZ.out]; exact h
          simp only at d0i R2 b2
          clear hz
          have k0 := grown_cell c0i
          have k1 := grown_cell d0i
          have LE : Hid (∀ b, lexL x y = b → ∀ w', Keeps wi w' → Calls Tryz.prog 13 #[.slice A1 lx e1, .slice A2 y.length e2] w' fun e w'' => e = .returned (.bool b) ∧ Below w'.heap.size w' w'') := Lib.hid fun b hb w' hw => less36_b A1 A2 lx e1 y.length e2 x y w' (by omega) (by omega) (R1.out.keep ((KR.out.trans KI.out).trans hw)) (R2.out.keep ((KR.out.trans KI.out).trans hw)) hb
          generalize y.length = ly at *
          have hlt1 : (k : Int) < (q : Int) := by omega
          cases hX : lexL x y
          · have cA := call_q (w := wi) (LE.out false hX)
            have HX := Lib.hid (ST.out false hX)
            go_wp2_with fail
            refine wp_region_q (by kernel_rfl) (by kernel_rfl) ?_
            repeat (go_big_quiet_step (first | with_reducible exact cA _ _))
            refine wpQuiet_nil ?_
            intro wq hgq
            go_wp2_with fail
            go_roundg (q - (k + 1))
            case measure => omega
            case rel => exact ⟨k + 1, by omega, rfl, by go_num, fun j hj hjl => by
              by_cases e : j = k
              · subst e; exact HX.out
              · exact HAL.out j (by omega) hjl, HBI.out.trans (hgq.mono HBI.out.size)⟩
          · have cA := call_q (w := wi) (LE.out true hX)
            have HX := Lib.hid (ST.out true hX)
            go_wp2_with fail
            refine wp_region_q (by kernel_rfl) (by kernel_rfl) ?_
            repeat (go_big_quiet_step (first | with_reducible exact cA _ _))
            refine wpQuiet_nil ?_
            intro wq hgq
            have HBQ := Lib.hid (HBI.out.trans (hgq.mono HBI.out.size))
            have LST : k < zs.length → lexL x (zs.getD k z0).2 = true := fun _ => HX.out
            clear hgq k0 k1 cA hX hlt1 LE ST d0i HBI KI c0i HX HZ
            have N1 : Hid (RowsZ w (insZ k ((A1, e1), x) zs)) := Lib.hid fun z hz => by
                rcases List.mem_cons.1 ((insZ_perm k _ zs).mem_iff.1 hz) with rfl | hz
                · simp only; rw [HLX.out]; exact R1.out
                · exact HR.out z hz
            have N2 : Hid ((lsz (insZ k ((A1, e1), x) zs)).Perm (ls.take (q + 1))) := Lib.hid (by
                rw [TS.out]
                have e1 : (lsz (insZ k ((A1, e1), x) zs)).Perm (x :: lsz zs) := (insZ_perm k ((A1, e1), x) zs).map _
                exact e1.trans ((List.Perm.cons x HP.out).trans (by
                  have : (x :: ls.take q).Perm (ls.take q ++ [x]) := (List.perm_append_comm (l₁ := [x]) (l₂ := ls.take q))
                  exact this)))
            have N3 : Hid (SrtL (lsz (insZ k ((A1, e1), x) zs))) := Lib.hid (ins_srt HST.out HAL.out LST)
            have HDZ : Hid (hdz (insZ k ((A1, e1), x) zs) = (hdz zs).take k ++ ([Value.slice A1 lx e1] ++ (hdz zs).drop k)) := Lib.hid (by rw [hdz_ins, HLX.out])
            have HBI := Lib.hid (HB.out.trans (HBQ.out.mono hzr))
            have HO2 := Lib.hid (HO.out.later HBQ.out)
            have hzi := HBQ.out.size
            have hzi : w.heap.size ≤ wq.heap.size := by omega
            have c0i := Keeps.of_below HBQ.out (Nat.le_refl _) _ _ c0r
            have HAL2 := HAL
            clear HAL
            clear LST
            go_upto_region 8 with fail
            have HT : Hid (Own wq w.heap.size 24 1 (some ⟨g, 0, none⟩) k cC ((hdz zs).take k)) := Lib.hid (by have := HO2.out.shrink hk (by simp); simpa using this)
            have XE : Hid ((hdz zs).drop k = (hdz zs).drop k) := Lib.hid rfl
            have RDK := Lib.hid (rd_dropz HO2.out.rd hk)
            have hkc : k ≤ cC := by omega
            by_cases hcap : cC = k
            · have hkq : q - k = 0 := by omega
              have RD0 : Hid (Rd wq 1 (some ⟨g, 0, none⟩) 0 ((hdz zs).drop k)) := Lib.hid (by
                have h1 := RDK.out.1
                rw [hkq] at h1
                have h0 : (hdz zs).drop k = [] := List.eq_nil_of_length_eq_zero (by omega)
                rw [h0]
                exact Rd.nil _ _ _)
              have DZ : Hid ((hdz zs).drop k = []) := Lib.hid (List.eq_nil_of_length_eq_zero (by have h1 := RDK.out.1; rw [hkq] at h1; omega))
              have KQ := Lib.hid (show q = k by omega)
              clear hkq
              subst hcap
              go_region_law ((first
                | (refine step_app _ rfl (.tmp 32) (.tmp 41) 22 rfl w.heap.size 24 (.slice none 0 0) 1 24 Tryz.underlying22 info_ints rfl (by decide) (some ⟨g, 0, none⟩) cC cC ((hdz zs).take cC) (by first | (simp [Act.eval, Act.put]; done) | (simp [Act.eval, Act.put, add0]; done) | fail) (by first | exact Own.drew' (HT.out.alloc _) | exact HT.out.alloc _ | fail) (some ⟨wq.heap.size, 0, none⟩) 1 1 [.slice A1 lx e1] (by first | (simp [Act.eval, Act.put]; done) | (simp [Act.eval, Act.put, add0]; done) | fail) (by first | exact Rd.drew' (rd_new _ 1 1 [.slice A1 lx e1] _ rfl) | exact rd_new _ 1 1 [.slice A1 lx e1] _ rfl | fail) head_one (by omega) (by unfold maxLen; omega) (by first | omega | (simp; done) | (simp; omega)) ?_; intro A4 c4 w4 ho4 hg4 hb4; have O4 : Hid (Own w4 w.heap.size 24 1 A4 (q + 1) c4 (hdz (insZ cC ((A1, e1), x) zs))) := Lib.hid (by rw [HDZ.out, DZ.out, List.append_nil, KQ.out]; exact ho4); have B4 : Hid (Below w.heap.size w w4) := Lib.hid (by first | exact ((HBI.out.alloc (by omega) _).drew).grown hg4 (by first | omega | (simp; done) | (simp; omega)) (fun k hk => (HT.out.lt hk).1) | exact (HBI.out.alloc (by omega) _).grown hg4 (by first | omega | (simp; done) | (simp; omega)) (fun k hk => (HT.out.lt hk).1) | fail); have c0i := Keeps.of_below (B4.out) (Nat.le_refl _) _ _ c0w; clear ho4 hg4 hb4)
                | fail))
              all_goals
               have KQ2 := KQ.out
               go_wp2_with fail
               go_roundg (n - (q + 1))
               case measure => omega
               case rel => exact ⟨q + 1, A4, c4, insZ cC ((A1, e1), x) zs, by omega, rfl, by go_num, by first | rfl | (congr 1; omega) | fail, O4.out, N1.out, N2.out, N3.out, fun h => absurd h (by omega), B4.out⟩
            by_cases hk0 : k = 0
            · subst hk0
              have LE : Hid (0 + (1 + (q - 0)) = q + 1) := Lib.hid (by omega)
              go_region_law ((first
                | (refine step_app _ rfl (.tmp 37) (.tmp 40) 22 rfl wq.heap.size 24 (.slice none 0 0) 1 24 Tryz.underlying22 info_ints rfl (by decide) (some ⟨wq.heap.size, 0, none⟩) 1 1 [.slice A1 lx e1] (by first | (simp [Act.eval, Act.put]; done) | (simp [Act.eval, Act.put, add0]; done) | fail) (by first | exact own_lit_at (w := wq.drew) rfl 24 1 1 [.slice A1 lx e1] (by unfold maxLen; omega) rfl | exact own_lit_at (w := wq) rfl 24 1 1 [.slice A1 lx e1] (by unfold maxLen; omega) rfl | fail) (some ⟨g, 0, none⟩) (q - 0) cC ((hdz zs).drop 0) (by first | (simp [Act.eval, Act.put]; done) | (simp [Act.eval, Act.put, add0]; done) | fail) (by first | exact Rd.drew' (rd_new1 RDK.out _) | exact rd_new1 (w := wq.drew) RDK.out _ | exact rd_new1 (w := wq) RDK.out _ | fail) (by first | exact fun u hu => hdz_one _ u (List.mem_of_mem_drop hu) | (simp; done)) (by omega) (by unfold maxLen; omega) (by first | omega | (simp; done) | (simp; omega)) ?_; intro A3 c3 w3 ho3 hg3 hb3; have O3 := Lib.hid ho3; have B3 : Hid (Below wq.heap.size wq w3) := Lib.hid (by first | exact (((Below.refl _ _).drew.alloc (by simp) _).grown hg3 (by simp) (fun k hk => by simp [blk] at hk; omega)) | exact (((Below.refl _ _).alloc (by simp) _).grown hg3 (by simp) (fun k hk => by simp [blk] at hk; omega)) | fail); have hz3 := B3.out.size; have c0i := Keeps.of_below B3.out (Nat.le_refl _) _ _ c0i; clear ho3 hg3 hb3)
                | (refine step_app _ rfl (.tmp 32) (.tmp 41) 22 rfl w.heap.size 24 (.slice none 0 0) 1 24 Tryz.underlying22 info_ints rfl (by decide) (some ⟨g, 0, none⟩) 0 cC ((hdz zs).take 0) (by first | (simp [Act.eval, Act.put]; done) | (simp [Act.eval, Act.put, add0]; done) | fail) (HT.out.later B3.out) A3 (1 + (q - 0)) c3 ([.slice A1 lx e1] ++ ((hdz zs).drop 0)) (by first | (simp [Act.eval, Act.put]; done) | (simp [Act.eval, Act.put, add0]; done) | fail) O3.out.rd (by intro u hu; rcases List.mem_append.1 hu with h | h; exact head_one u h; first | exact hdz_one _ u (List.mem_of_mem_drop h) | (simp at h)) (by omega) (by unfold maxLen; omega) (by first | omega | (simp; done) | (simp; omega)) ?_; intro A4 c4 w4 ho4 hg4 hb4; have O4 : Hid (Own w4 w.heap.size 24 1 A4 (q + 1) c4 (hdz (insZ 0 ((A1, e1), x) zs))) := Lib.hid (by rw [HDZ.out, ← XE.out, ← LE.out]; exact ho4); have B4 : Hid (Below w.heap.size w w4) := Lib.hid ((HBI.out.trans (B3.out.mono hzi)).grown hg4 (by omega) (fun k hk => (HT.out.lt hk).1)); have c0i := Keeps.of_below (B4.out) (Nat.le_refl _) _ _ c0w; clear ho4 hg4 hb4)
                | fail))
              all_goals
               go_wp2_with fail
               go_roundg (n - (q + 1))
               case measure => omega
               case rel => exact ⟨q + 1, A4, c4, insZ 0 ((A1, e1), x) zs, by omega, rfl, by go_num, by first | rfl | (rw [LE.out]; done) | (congr 1; omega) | fail, O4.out, N1.out, N2.out, N3.out, fun h => absurd h (by omega), B4.out⟩
            have LE : Hid (k + (1 + (q - k)) = q + 1) := Lib.hid (by omega)
            go_region_law ((first
              | (refine step_app _ rfl (.tmp 37) (.tmp 40) 22 rfl wq.heap.size 24 (.slice none 0 0) 1 24 Tryz.underlying22 info_ints rfl (by decide) (some ⟨wq.heap.size, 0, none⟩) 1 1 [.slice A1 lx e1] (by first | (simp [Act.eval, Act.put]; done) | (simp [Act.eval, Act.put, add0]; done) | fail) (by first | exact own_lit_at (w := wq.drew) rfl 24 1 1 [.slice A1 lx e1] (by unfold maxLen; omega) rfl | exact own_lit_at (w := wq) rfl 24 1 1 [.slice A1 lx e1] (by unfold maxLen; omega) rfl | fail) (some ⟨g, k, none⟩) (q - k) (cC - k) ((hdz zs).drop k) (by first | (simp [Act.eval, Act.put]; done) | (simp [Act.eval, Act.put, add0]; done) | fail) (by first | exact Rd.drew' (rd_new1 RDK.out _) | exact rd_new1 (w := wq.drew) RDK.out _ | exact rd_new1 (w := wq) RDK.out _ | fail) (by first | exact fun u hu => hdz_one _ u (List.mem_of_mem_drop hu) | (simp; done)) (by omega) (by unfold maxLen; omega) (by first | omega | (simp; done) | (simp; omega)) ?_; intro A3 c3 w3 ho3 hg3 hb3; have O3 := Lib.hid ho3; have B3 : Hid (Below wq.heap.size wq w3) := Lib.hid (by first | exact (((Below.refl _ _).drew.alloc (by simp) _).grown hg3 (by simp) (fun k hk => by simp [blk] at hk; omega)) | exact (((Below.refl _ _).alloc (by simp) _).grown hg3 (by simp) (fun k hk => by simp [blk] at hk; omega)) | fail); have hz3 := B3.out.size; have c0i := Keeps.of_below B3.out (Nat.le_refl _) _ _ c0i; clear ho3 hg3 hb3)
              | (refine step_app _ rfl (.tmp 32) (.tmp 41) 22 rfl w.heap.size 24 (.slice none 0 0) 1 24 Tryz.underlying22 info_ints rfl (by decide) (some ⟨g, 0, none⟩) k cC ((hdz zs).take k) (by first | (simp [Act.eval, Act.put]; done) | (simp [Act.eval, Act.put, add0]; done) | fail) (HT.out.later B3.out) A3 (1 + (q - k)) c3 ([.slice A1 lx e1] ++ ((hdz zs).drop k)) (by first | (simp [Act.eval, Act.put]; done) | (simp [Act.eval, Act.put, add0]; done) | fail) O3.out.rd (by intro u hu; rcases List.mem_append.1 hu with h | h; exact head_one u h; first | exact hdz_one _ u (List.mem_of_mem_drop h) | (simp at h)) (by omega) (by unfold maxLen; omega) (by first | omega | (simp; done) | (simp; omega)) ?_; intro A4 c4 w4 ho4 hg4 hb4; have O4 : Hid (Own w4 w.heap.size 24 1 A4 (q + 1) c4 (hdz (insZ k ((A1, e1), x) zs))) := Lib.hid (by rw [HDZ.out, ← XE.out, ← LE.out]; exact ho4); have B4 : Hid (Below w.heap.size w w4) := Lib.hid ((HBI.out.trans (B3.out.mono hzi)).grown hg4 (by omega) (fun k hk => (HT.out.lt hk).1)); have c0i := Keeps.of_below (B4.out) (Nat.le_refl _) _ _ c0w; clear ho4 hg4 hb4)
              | fail))
            all_goals
             go_wp2_with fail
             go_roundg (n - (q + 1))
             case measure => omega
             case rel => exact ⟨q + 1, A4, c4, insZ k ((A1, e1), x) zs, by omega, rfl, by go_num, by first | rfl | (rw [LE.out]; done) | (congr 1; omega) | fail, O4.out, N1.out, N2.out, N3.out, fun h => absurd h (by omega), B4.out⟩
        · have hlt1 : ¬ (k : Int) < (q : Int) := by omega
          have c0i2 := c0i
          go_wp2_with fail
          refine wp_region_q (by kernel_rfl) (by kernel_rfl) ?_
          repeat (go_big_quiet_step (fail))
          refine wpQuiet_nil ?_
          intro wq hgq
          have HBQ := Lib.hid (HBI.out.trans (hgq.mono HBI.out.size))
          have LST : k < zs.length → lexL x (zs.getD k z0).2 = true := fun h => by have := ZL.out; omega
          clear hgq HBI KI c0i c0i2 ki
          have N1 : Hid (RowsZ w (insZ k ((A1, e1), x) zs)) := Lib.hid fun z hz => by
              rcases List.mem_cons.1 ((insZ_perm k _ zs).mem_iff.1 hz) with rfl | hz
              · simp only; rw [HLX.out]; exact R1.out
              · exact HR.out z hz
          have N2 : Hid ((lsz (insZ k ((A1, e1), x) zs)).Perm (ls.take (q + 1))) := Lib.hid (by
              rw [TS.out]
              have e1 : (lsz (insZ k ((A1, e1), x) zs)).Perm (x :: lsz zs) := (insZ_perm k ((A1, e1), x) zs).map _
              exact e1.trans ((List.Perm.cons x HP.out).trans (by
                have : (x :: ls.take q).Perm (ls.take q ++ [x]) := (List.perm_append_comm (l₁ := [x]) (l₂ := ls.take q))
                exact this)))
          have N3 : Hid (SrtL (lsz (insZ k ((A1, e1), x) zs))) := Lib.hid (ins_srt HST.out HAL.out LST)
          have HDZ : Hid (hdz (insZ k ((A1, e1), x) zs) = (hdz zs).take k ++ ([Value.slice A1 lx e1] ++ (hdz zs).drop k)) := Lib.hid (by rw [hdz_ins, HLX.out])
          have HBI := Lib.hid (HB.out.trans (HBQ.out.mono hzr))
          have HO2 := Lib.hid (HO.out.later HBQ.out)
          have hzi := HBQ.out.size
          have hzi : w.heap.size ≤ wq.heap.size := by omega
          have c0i := Keeps.of_below HBQ.out (Nat.le_refl _) _ _ c0r
          have HAL2 := HAL
          clear HAL
          clear LST
          go_upto_region 8 with fail
          by_cases hq0 : q = 0
          · obtain ⟨rfl, rfl⟩ := ZE.out hq0
            have hzs : zs = [] := List.eq_nil_of_length_eq_zero (by rw [ZL.out, hq0])
            obtain rfl : k = 0 := by omega
            subst hzs
            subst hq0
            have HT : Hid (Own wq w.heap.size 24 1 none 0 0 ((hdz []).take 0)) := Lib.hid (Own.nil _ _ _ _)
            have XE : Hid (([] : List Value) = (hdz []).drop 0) := Lib.hid rfl
            have c0i : wq.cell? ad = some (.slice A1 lx e1) := by have h9 : ad.add 0 = ad := (by unfold Addr.add; simp); rw [h9] at c0i; exact c0i
            have LE : Hid (0 + (1 + 0) = 0 + 1) := Lib.hid (by omega)
            go_region_law ((first
              | (refine step_app _ rfl (.tmp 37) (.tmp 40) 22 rfl wq.heap.size 24 (.slice none 0 0) 1 24 Tryz.underlying22 info_ints rfl (by decide) (some ⟨wq.heap.size, 0, none⟩) 1 1 [.slice A1 lx e1] (by first | (simp [Act.eval, Act.put]; done) | (simp [Act.eval, Act.put, add0]; done) | fail) (by first | exact own_lit_at (w := wq.drew) rfl 24 1 1 [.slice A1 lx e1] (by unfold maxLen; omega) rfl | exact own_lit_at (w := wq) rfl 24 1 1 [.slice A1 lx e1] (by unfold maxLen; omega) rfl | fail) none 0 0 [] (by first | (simp [Act.eval, Act.put]; done) | (simp [Act.eval, Act.put, add0]; done) | fail) (by first | exact Rd.drew' (rd_new1 (Rd.nil _ _ _) _) | exact rd_new1 (w := wq.drew) (Rd.nil _ _ _) _ | exact rd_new1 (w := wq) (Rd.nil _ _ _) _ | fail) (by first | exact fun u hu => hdz_one _ u (List.mem_of_mem_drop hu) | (simp; done)) (by omega) (by unfold maxLen; omega) (by first | omega | (simp; done) | (simp; omega)) ?_; intro A3 c3 w3 ho3 hg3 hb3; have O3 := Lib.hid ho3; have B3 : Hid (Below wq.heap.size wq w3) := Lib.hid (by first | exact (((Below.refl _ _).drew.alloc (by simp) _).grown hg3 (by simp) (fun k hk => by simp [blk] at hk; omega)) | exact (((Below.refl _ _).alloc (by simp) _).grown hg3 (by simp) (fun k hk => by simp [blk] at hk; omega)) | fail); have hz3 := B3.out.size; have c0i := Keeps.of_below B3.out (Nat.le_refl _) _ _ c0i; clear ho3 hg3 hb3)
              | (refine step_app _ rfl (.tmp 32) (.tmp 41) 22 rfl w.heap.size 24 (.slice none 0 0) 1 24 Tryz.underlying22 info_ints rfl (by decide) none 0 0 ((hdz []).take 0) (by first | (simp [Act.eval, Act.put]; done) | (simp [Act.eval, Act.put, add0]; done) | fail) (HT.out.later B3.out) A3 (1 + 0) c3 ([.slice A1 lx e1] ++ []) (by first | (simp [Act.eval, Act.put]; done) | (simp [Act.eval, Act.put, add0]; done) | fail) O3.out.rd (by intro u hu; rcases List.mem_append.1 hu with h | h; exact head_one u h; first | exact hdz_one _ u (List.mem_of_mem_drop h) | (simp at h)) (by omega) (by unfold maxLen; omega) (by first | omega | (simp; done) | (simp; omega)) ?_; intro A4 c4 w4 ho4 hg4 hb4; have O4 : Hid (Own w4 w.heap.size 24 1 A4 (0 + 1) c4 (hdz (insZ 0 ((A1, e1), x) []))) := Lib.hid (by rw [HDZ.out, ← XE.out, ← LE.out]; exact ho4); have B4 : Hid (Below w.heap.size w w4) := Lib.hid ((HBI.out.trans (B3.out.mono hzi)).grown hg4 (by omega) (fun k hk => (HT.out.lt hk).1)); have c0i := Keeps.of_below (B4.out) (Nat.le_refl _) _ _ c0w; clear ho4 hg4 hb4)
              | fail))
            all_goals
             go_wp2_with fail
             go_roundg (n - (0 + 1))
             case measure => omega
             case rel => exact ⟨0 + 1, A4, c4, insZ 0 ((A1, e1), x) [], by omega, rfl, by go_num, by first | rfl | (rw [LE.out]; done) | (congr 1; omega) | fail, O4.out, N1.out, N2.out, N3.out, fun h => absurd h (by omega), B4.out⟩
          obtain ⟨g, rfl, hg1, hg2⟩ := HO2.out.some_ (by omega)
          have HT : Hid (Own wq w.heap.size 24 1 (some ⟨g, 0, none⟩) k cC ((hdz zs).take k)) := Lib.hid (by have := HO2.out.shrink hk (by simp); simpa using this)
          have XE : Hid ((hdz zs).drop k = (hdz zs).drop k) := Lib.hid rfl
          have RDK := Lib.hid (rd_dropz HO2.out.rd hk)
          have hkc : k ≤ cC := by omega
          by_cases hcap : cC = k
          · have hkq : q - k = 0 := by omega
            have RD0 : Hid (Rd wq 1 (some ⟨g, 0, none⟩) 0 ((hdz zs).drop k)) := Lib.hid (by
              have h1 := RDK.out.1
              rw [hkq] at h1
              have h0 : (hdz zs).drop k = [] := List.eq_nil_of_length_eq_zero (by omega)
              rw [h0]
              exact Rd.nil _ _ _)
            have DZ : Hid ((hdz zs).drop k = []) := Lib.hid (List.eq_nil_of_length_eq_zero (by have h1 := RDK.out.1; rw [hkq] at h1; omega))
            have KQ := Lib.hid (show q = k by omega)
            clear hkq
            subst hcap
            go_region_law ((first
              | (refine step_app _ rfl (.tmp 32) (.tmp 41) 22 rfl w.heap.size 24 (.slice none 0 0) 1 24 Tryz.underlying22 info_ints rfl (by decide) (some ⟨g, 0, none⟩) cC cC ((hdz zs).take cC) (by first | (simp [Act.eval, Act.put]; done) | (simp [Act.eval, Act.put, add0]; done) | fail) (by first | exact Own.drew' (HT.out.alloc _) | exact HT.out.alloc _ | fail) (some ⟨wq.heap.size, 0, none⟩) 1 1 [.slice A1 lx e1] (by first | (simp [Act.eval, Act.put]; done) | (simp [Act.eval, Act.put, add0]; done) | fail) (by first | exact Rd.drew' (rd_new _ 1 1 [.slice A1 lx e1] _ rfl) | exact rd_new _ 1 1 [.slice A1 lx e1] _ rfl | fail) head_one (by omega) (by unfold maxLen; omega) (by first | omega | (simp; done) | (simp; omega)) ?_; intro A4 c4 w4 ho4 hg4 hb4; have O4 : Hid (Own w4 w.heap.size 24 1 A4 (q + 1) c4 (hdz (insZ cC ((A1, e1), x) zs))) := Lib.hid (by rw [HDZ.out, DZ.out, List.append_nil, KQ.out]; exact ho4); have B4 : Hid (Below w.heap.size w w4) := Lib.hid (by first | exact ((HBI.out.alloc (by omega) _).drew).grown hg4 (by first | omega | (simp; done) | (simp; omega)) (fun k hk => (HT.out.lt hk).1) | exact (HBI.out.alloc (by omega) _).grown hg4 (by first | omega | (simp; done) | (simp; omega)) (fun k hk => (HT.out.lt hk).1) | fail); have c0i := Keeps.of_below (B4.out) (Nat.le_refl _) _ _ c0w; clear ho4 hg4 hb4)
              | fail))
            all_goals
             have KQ2 := KQ.out
             go_wp2_with fail
             go_roundg (n - (q + 1))
             case measure => omega
             case rel => exact ⟨q + 1, A4, c4, insZ cC ((A1, e1), x) zs, by omega, rfl, by go_num, by first | rfl | (congr 1; omega) | fail, O4.out, N1.out, N2.out, N3.out, fun h => absurd h (by omega), B4.out⟩
          by_cases hk0 : k = 0
          · subst hk0
            have LE : Hid (0 + (1 + (q - 0)) = q + 1) := Lib.hid (by omega)
            go_region_law ((first
              | (refine step_app _ rfl (.tmp 37) (.tmp 40) 22 rfl wq.heap.size 24 (.slice none 0 0) 1 24 Tryz.underlying22 info_ints rfl (by decide) (some ⟨wq.heap.size, 0, none⟩) 1 1 [.slice A1 lx e1] (by first | (simp [Act.eval, Act.put]; done) | (simp [Act.eval, Act.put, add0]; done) | fail) (by first | exact own_lit_at (w := wq.drew) rfl 24 1 1 [.slice A1 lx e1] (by unfold maxLen; omega) rfl | exact own_lit_at (w := wq) rfl 24 1 1 [.slice A1 lx e1] (by unfold maxLen; omega) rfl | fail) (some ⟨g, 0, none⟩) (q - 0) cC ((hdz zs).drop 0) (by first | (simp [Act.eval, Act.put]; done) | (simp [Act.eval, Act.put, add0]; done) | fail) (by first | exact Rd.drew' (rd_new1 RDK.out _) | exact rd_new1 (w := wq.drew) RDK.out _ | exact rd_new1 (w := wq) RDK.out _ | fail) (by first | exact fun u hu => hdz_one _ u (List.mem_of_mem_drop hu) | (simp; done)) (by omega) (by unfold maxLen; omega) (by first | omega | (simp; done) | (simp; omega)) ?_; intro A3 c3 w3 ho3 hg3 hb3; have O3 := Lib.hid ho3; have B3 : Hid (Below wq.heap.size wq w3) := Lib.hid (by first | exact (((Below.refl _ _).drew.alloc (by simp) _).grown hg3 (by simp) (fun k hk => by simp [blk] at hk; omega)) | exact (((Below.refl _ _).alloc (by simp) _).grown hg3 (by simp) (fun k hk => by simp [blk] at hk; omega)) | fail); have hz3 := B3.out.size; have c0i := Keeps.of_below B3.out (Nat.le_refl _) _ _ c0i; clear ho3 hg3 hb3)
              | (refine step_app _ rfl (.tmp 32) (.tmp 41) 22 rfl w.heap.size 24 (.slice none 0 0) 1 24 Tryz.underlying22 info_ints rfl (by decide) (some ⟨g, 0, none⟩) 0 cC ((hdz zs).take 0) (by first | (simp [Act.eval, Act.put]; done) | (simp [Act.eval, Act.put, add0]; done) | fail) (HT.out.later B3.out) A3 (1 + (q - 0)) c3 ([.slice A1 lx e1] ++ ((hdz zs).drop 0)) (by first | (simp [Act.eval, Act.put]; done) | (simp [Act.eval, Act.put, add0]; done) | fail) O3.out.rd (by intro u hu; rcases List.mem_append.1 hu with h | h; exact head_one u h; first | exact hdz_one _ u (List.mem_of_mem_drop h) | (simp at h)) (by omega) (by unfold maxLen; omega) (by first | omega | (simp; done) | (simp; omega)) ?_; intro A4 c4 w4 ho4 hg4 hb4; have O4 : Hid (Own w4 w.heap.size 24 1 A4 (q + 1) c4 (hdz (insZ 0 ((A1, e1), x) zs))) := Lib.hid (by rw [HDZ.out, ← XE.out, ← LE.out]; exact ho4); have B4 : Hid (Below w.heap.size w w4) := Lib.hid ((HBI.out.trans (B3.out.mono hzi)).grown hg4 (by omega) (fun k hk => (HT.out.lt hk).1)); have c0i := Keeps.of_below (B4.out) (Nat.le_refl _) _ _ c0w; clear ho4 hg4 hb4)
              | fail))
            all_goals
             go_wp2_with fail
             go_roundg (n - (q + 1))
             case measure => omega
             case rel => exact ⟨q + 1, A4, c4, insZ 0 ((A1, e1), x) zs, by omega, rfl, by go_num, by first | rfl | (rw [LE.out]; done) | (congr 1; omega) | fail, O4.out, N1.out, N2.out, N3.out, fun h => absurd h (by omega), B4.out⟩
          have LE : Hid (k + (1 + (q - k)) = q + 1) := Lib.hid (by omega)
          go_region_law ((first
            | (refine step_app _ rfl (.tmp 37) (.tmp 40) 22 rfl wq.heap.size 24 (.slice none 0 0) 1 24 Tryz.underlying22 info_ints rfl (by decide) (some ⟨wq.heap.size, 0, none⟩) 1 1 [.slice A1 lx e1] (by first | (simp [Act.eval, Act.put]; done) | (simp [Act.eval, Act.put, add0]; done) | fail) (by first | exact own_lit_at (w := wq.drew) rfl 24 1 1 [.slice A1 lx e1] (by unfold maxLen; omega) rfl | exact own_lit_at (w := wq) rfl 24 1 1 [.slice A1 lx e1] (by unfold maxLen; omega) rfl | fail) (some ⟨g, k, none⟩) (q - k) (cC - k) ((hdz zs).drop k) (by first | (simp [Act.eval, Act.put]; done) | (simp [Act.eval, Act.put, add0]; done) | fail) (by first | exact Rd.drew' (rd_new1 RDK.out _) | exact rd_new1 (w := wq.drew) RDK.out _ | exact rd_new1 (w := wq) RDK.out _ | fail) (by first | exact fun u hu => hdz_one _ u (List.mem_of_mem_drop hu) | (simp; done)) (by omega) (by unfold maxLen; omega) (by first | omega | (simp; done) | (simp; omega)) ?_; intro A3 c3 w3 ho3 hg3 hb3; have O3 := Lib.hid ho3; have B3 : Hid (Below wq.heap.size wq w3) := Lib.hid (by first | exact (((Below.refl _ _).drew.alloc (by simp) _).grown hg3 (by simp) (fun k hk => by simp [blk] at hk; omega)) | exact (((Below.refl _ _).alloc (by simp) _).grown hg3 (by simp) (fun k hk => by simp [blk] at hk; omega)) | fail); have hz3 := B3.out.size; have c0i := Keeps.of_below B3.out (Nat.le_refl _) _ _ c0i; clear ho3 hg3 hb3)
            | (refine step_app _ rfl (.tmp 32) (.tmp 41) 22 rfl w.heap.size 24 (.slice none 0 0) 1 24 Tryz.underlying22 info_ints rfl (by decide) (some ⟨g, 0, none⟩) k cC ((hdz zs).take k) (by first | (simp [Act.eval, Act.put]; done) | (simp [Act.eval, Act.put, add0]; done) | fail) (HT.out.later B3.out) A3 (1 + (q - k)) c3 ([.slice A1 lx e1] ++ ((hdz zs).drop k)) (by first | (simp [Act.eval, Act.put]; done) | (simp [Act.eval, Act.put, add0]; done) | fail) O3.out.rd (by intro u hu; rcases List.mem_append.1 hu with h | h; exact head_one u h; first | exact hdz_one _ u (List.mem_of_mem_drop h) | (simp at h)) (by omega) (by unfold maxLen; omega) (by first | omega | (simp; done) | (simp; omega)) ?_; intro A4 c4 w4 ho4 hg4 hb4; have O4 : Hid (Own w4 w.heap.size 24 1 A4 (q + 1) c4 (hdz (insZ k ((A1, e1), x) zs))) := Lib.hid (by rw [HDZ.out, ← XE.out, ← LE.out]; exact ho4); have B4 : Hid (Below w.heap.size w w4) := Lib.hid ((HBI.out.trans (B3.out.mono hzi)).grown hg4 (by omega) (fun k hk => (HT.out.lt hk).1)); have c0i := Keeps.of_below (B4.out) (Nat.le_refl _) _ _ c0w; clear ho4 hg4 hb4)
            | fail))
          all_goals
           go_wp2_with fail
           go_roundg (n - (q + 1))
           case measure => omega
           case rel => exact ⟨q + 1, A4, c4, insZ k ((A1, e1), x) zs, by omega, rfl, by go_num, by first | rfl | (rw [LE.out]; done) | (congr 1; omega) | fail, O4.out, N1.out, N2.out, N3.out, fun h => absurd h (by omega), B4.out⟩
    · obtain rfl : q = n := by omega
      go_wp2_with fail
      go_ret
      refine ⟨HB.out, C, cC, lsz zs, rfl, ?_, HST.out, rdL_z HO.out.rd (HR.out.keep KR.out)⟩
      have := HP.out
      rwa [List.take_of_length_le (by rw [HLN.out]; exact Nat.le_refl _)] at this
end Go.Proofs.YtcpkdnhpelkeoaaGreat
