/-
  Reduce, and the walk of ClusterReduce: joined texts.
-/
import Derived.Test.YtcpkdnhpelkeoaaGreatSt1
import Derived.Test.YtcpkdnhpelkeoaaGreatRb
import Derived.Test.YtcpkdnhpelkeoaaGreatOn1
import Derived.Test.YtcpkdnhpelkeoaaGreatCa
namespace Go.Proofs.YtcpkdnhpelkeoaaGreat
set_option linter.unusedVariables false
set_option linter.unusedSimpArgs false
open Go.RowKit Go.Sort
attribute [local go_sem ↓] Go.wp_at_zero Go.wp_at_succ

/-- The rows of a list that is made and then filled. -/
def OwnR (w : World) (base : Nat) (zs : List Zr) : Prop := ∀ z ∈ zs, Own w base 3 1 z.1.1 z.2.length z.1.2 (ints z.2)
def filZ (n : Nat) (zs : List Zr) : List Value := hdz zs ++ List.replicate (n - zs.length) (.slice none 0 0)
theorem filZ_set {n : Nat} {zs : List Zr} {z : Zr} (h : zs.length < n) : (filZ n zs).set zs.length (.slice z.1.1 z.2.length z.1.2) = filZ n (zs ++ [z]) := by
  unfold filZ
  obtain ⟨m, hm⟩ : ∃ m, n - zs.length = m + 1 := ⟨n - zs.length - 1, by omega⟩
  have hm2 : n - (zs ++ [z]).length = m := by simp; omega
  rw [hm, hm2, List.set_append_right _ _ (by rw [hdz_len]; exact Nat.le_refl _), hdz_len, Nat.sub_self, List.replicate_succ, List.set_cons_zero]
  unfold hdz
  simp
theorem filZ_full {n : Nat} {zs : List Zr} (h : zs.length = n) : filZ n zs = hdz zs := by unfold filZ; rw [h, Nat.sub_self]; simp
theorem made_filZ {w : World} (n : Nat) (hn : n ≤ maxLen) : Own (w.alloc (.cells (madeCells #[.slice none 0 0] n) 24)) w.heap.size 24 1 (some ⟨w.heap.size, 0, none⟩) n n (filZ n []) := by
  have h := World.ownsRow_lit (base := w.heap.size) (e := 24) (size := 1) w (madeCells #[.slice none 0 0] n) n (Nat.le_refl _) hn (by simp [madeCells])
  have e : (madeCells #[.slice none 0 0] n).toList = filZ n [] := by
    apply List.ext_getElem
    · simp [madeCells, filZ, hdz]
    · intro i h1 h2; simp [madeCells, filZ, hdz, Nat.mod_one]
  rw [e] at h
  exact h
theorem heads_zs (zs : List Zr) : heads (zs.map (·.1)) (lsz zs) = hdz zs := by
  unfold heads lsz hdz
  rw [List.zipWith_map]
  simp
theorem ownL_zs {w : World} {base n c : Nat} {A : Option Addr} {zs : List Zr} (h : Own w base 24 1 A n c (hdz zs)) (hr : OwnR w base zs) : OwnL w base A n c (lsz zs) := by
  have hl := h.len
  rw [hdz_len] at hl
  refine ⟨by simp [lsz]; omega, zs.map (·.1), by simp; omega, by rw [heads_zs]; exact h, fun i hd l h1 h2 => ?_⟩
  simp only [lsz, List.getElem?_map, Option.map_eq_some_iff] at h1 h2
  obtain ⟨z, hz, rfl⟩ := h1
  obtain ⟨z', hz', rfl⟩ := h2
  rw [hz] at hz'
  injection hz' with hz'
  subst hz'
  exact hr z (List.mem_of_getElem? hz)
/-- Behind the store of the header of z. -/
theorem fill_put {w : World} {base g n : Nat} {zs : List Zr} {z : Zr} (h : Own w base 24 1 (some ⟨g, 0, none⟩) n n (filZ n zs)) (hr : OwnR w base zs) (hz : Own w base 3 1 z.1.1 z.2.length z.1.2 (ints z.2)) (hl : zs.length < n) :
    Own (w.setCell ⟨g, zs.length, none⟩ (.slice z.1.1 z.2.length z.1.2)) base 24 1 (some ⟨g, 0, none⟩) n n (filZ n (zs ++ [z])) ∧ OwnR (w.setCell ⟨g, zs.length, none⟩ (.slice z.1.1 z.2.length z.1.2)) base (zs ++ [z]) := by
  obtain ⟨h1, h2⟩ := World.ownsRow.stored h zs.length (.slice z.1.1 z.2.length z.1.2)
  rw [filZ_set hl] at h1
  refine ⟨h1, fun y hy => ?_⟩
  have key : ∀ {y : Zr}, Own w base 3 1 y.1.1 y.2.length y.1.2 (ints y.2) → Own (w.setCell ⟨g, zs.length, none⟩ (.slice z.1.1 z.2.length z.1.2)) base 3 1 y.1.1 y.2.length y.1.2 (ints y.2) :=
    fun h3 => h3.apart (B := some ⟨g, 0, none⟩) h2 (h3.apart_type h (by decide))
  rcases List.mem_append.1 hy with hy | hy
  · exact key (hr y hy)
  · rw [List.mem_singleton.1 hy]; exact key hz
theorem filZ_cell {w : World} {base g n : Nat} {zs : List Zr} (h : Own w base 24 1 (some ⟨g, 0, none⟩) n n (filZ n zs)) (hl : zs.length < n) :
    w.cell? ⟨g, zs.length, none⟩ = some (.slice none 0 0) := by
  have := World.ownsRow.cellAt h zs.length (by omega)
  rw [this]
  unfold filZ
  obtain ⟨m, hm⟩ : ∃ m, n - zs.length = m + 1 := ⟨n - zs.length - 1, by omega⟩
  rw [hm, List.getElem?_append_right (by rw [hdz_len]; exact Nat.le_refl _), hdz_len, Nat.sub_self]
  simp
def RdcPost (w : World) (ls : List (List Int)) (e : Ending) (w' : World) : Prop :=
  Below w.heap.size w w' ∧ ∃ C m d rs, e = .returned (.slice C m d) ∧ RdL w' C m rs ∧ RdcV ls rs
set_option maxRecDepth 100000 in
set_option maxHeartbeats 16000000 in
theorem reduce_any (A : Option Addr) (n c : Nat) (ls : List (List Int)) (w : World) (hn : n ≤ 1000) (ht : totL ls ≤ 100000) (ho : RdL w A n ls) :
    Calls Tryz.prog 6 #[.slice A n c] w (RdcPost w ls) := by
  have H1 := Lib.hid ho
  have HLN : Hid (ls.length = n) := Lib.hid ho.1
  have HS : Hid (∀ k, (ls.getD k []).length ≤ 100000) := Lib.hid fun k => Nat.le_trans (getD_tot ls k) ht
  have HT := Lib.hid ht
  clear ho ht
  have hmk := run_make_row' (P := Tryz.prog) 22 24 (.slice none 0 0) 24 Tryz.underlying22 info_ints rfl .i64 .i64 n (by omega) (by omega)
  have M0 : Hid (Own (w.alloc (.cells (madeCells #[.slice none 0 0] n) 24)) w.heap.size 24 1 (some ⟨w.heap.size, 0, none⟩) n n (filZ n [])) := Lib.hid (made_filZ n (by unfold maxLen; omega))
  have MB : Hid (Below w.heap.size w (w.alloc (.cells (madeCells #[.slice none 0 0] n) 24))) := Lib.hid ((Below.refl _ _).alloc (Nat.le_refl _) _)
  go_enter Tryz.func6, Tryz.ntmps6
  go_wp2_with fail
  go_loopg [12] n (fun g i wr => ∃ (q : Nat) (zs : List Zr), q ≤ n ∧ g = n - q ∧ i = .int .i64 q ∧ zs.length = q ∧ lsz zs = ls.take q ∧ (∀ k, k < q → upB (ls.getD k []) = true) ∧ Own wr w.heap.size 24 1 (some ⟨w.heap.size, 0, none⟩) n n (filZ n zs) ∧ OwnR wr w.heap.size zs ∧ Below w.heap.size w wr)
  case atStart => exact ⟨0, [], Nat.zero_le _, rfl, rfl, rfl, rfl, fun k h => by omega, M0.out, (fun z hz => nomatch hz), MB.out⟩
  case round =>
    clear M0 MB
    obtain ⟨q, zs, hq, rfl, rfl, hzl, hlz, hup, hof, hor, hb⟩ := hrel
    have HB := Lib.hid hb
    have OF := Lib.hid hof
    have OR := Lib.hid hor
    have LZ := Lib.hid hlz
    have UP := Lib.hid hup
    have ZL := Lib.hid hzl
    have hzr := hb.size
    have kr := Keeps.of_below hb (Nat.le_refl _)
    clear hb hof hor hlz hup hzl
    by_cases hlt : q < n
    · obtain ⟨ad, A1, e1, rfl, c0, r1⟩ := H1.out.at hlt
      have b1 := HS.out q
      have TS : Hid (ls.take (q + 1) = ls.take q ++ [ls.getD q []]) := Lib.hid (take_snoc HLN.out hlt rfl)
      have UN : Hid (∀ b, upB (ls.getD q []) = b → (b = true → ∀ k, k < q + 1 → upB (ls.getD k []) = true) ∧ (b = false → RdcV ls [])) := Lib.hid fun b hb => ⟨fun h k hk => by
        rcases Nat.lt_or_ge k q with h1 | h1
        · exact UP.out k h1
        · obtain rfl : k = q := by omega
          rw [hb, h], fun h => .inl ⟨⟨q, by rw [HLN.out]; exact hlt, by rw [hb, h]⟩, rfl⟩⟩
      generalize hx : ls.getD q [] = x at c0 r1 b1 TS UN
      have R1 := Lib.hid (r1.keep kr)
      have c0r := kr _ _ c0
      clear hx r1 kr
      generalize hlx : x.length = lx at *
      have HLX := Lib.hid hlx
      clear hlx
      cases hux : upB x
      · have cL := list_any A1 lx e1 x wr (by omega) R1.out
        rw [hux] at cL
        have NV := Lib.hid ((UN.out false hux).2 rfl)
        clear hux
        go_wp2_with fail
        refine Calls.mono cL ?_
        rintro _ _ ⟨rfl, rfl⟩
        go_wp2_with fail
        go_ret
        exact ⟨HB.out, none, 0, 0, [], rfl, ⟨rfl, [], rfl, Rd.nil _ _ _, fun i h l h1 => by simp at h1⟩, NV.out⟩
      · have cL := list_any A1 lx e1 x wr (by omega) R1.out
        rw [hux] at cL
        have UQ := Lib.hid ((UN.out true hux).1 rfl)
        clear hux
        go_wp2_with fail
        refine Calls.mono cL ?_
        rintro _ _ ⟨rfl, rfl⟩
        have cC := cloneI_any A1 lx e1 x wr R1.out (by omega)
        go_wp2_with fail
        refine Calls.mono cC ?_
        rintro _ w2 ⟨hb2, C2, c2, rfl, ho2⟩
        rw [HLX.out] at ho2
        have O2 := Lib.hid (ho2.base_le hzr)
        have OF2 := Lib.hid (OF.out.later hb2)
        have OR2 : Hid (OwnR w2 w.heap.size zs) := Lib.hid fun z hz => (OR.out z hz).later hb2
        have HB2 := Lib.hid (HB.out.trans (hb2.mono hzr))
        have cz : w2.cell? ⟨w.heap.size, q, none⟩ = some (.slice none 0 0) := by have := filZ_cell OF2.out (by rw [ZL.out]; exact hlt); rwa [ZL.out] at this
        have fz : w2.frozen? ⟨w.heap.size, q, none⟩ = false := OF2.out.frozen q
        have FP : Hid (Own (w2.setCell ⟨w.heap.size, q, none⟩ (.slice C2 lx c2)) w.heap.size 24 1 (some ⟨w.heap.size, 0, none⟩) n n (filZ n (zs ++ [((C2, c2), x)])) ∧ OwnR (w2.setCell ⟨w.heap.size, q, none⟩ (.slice C2 lx c2)) w.heap.size (zs ++ [((C2, c2), x)])) := Lib.hid (by
          have := fill_put (z := ((C2, c2), x)) OF2.out OR2.out (by simp only; rw [HLX.out]; exact O2.out) (by rw [ZL.out]; exact hlt)
          simp only at this
          rw [HLX.out, ZL.out] at this
          exact this)
        have LZ2 : Hid (lsz (zs ++ [((C2, c2), x)]) = ls.take (q + 1)) := Lib.hid (by rw [TS.out, ← LZ.out]; unfold lsz; simp)
        have ZL2 : Hid ((zs ++ [((C2, c2), x)]).length = q + 1) := Lib.hid (by rw [List.length_append, ZL.out]; rfl)
        clear hb2 ho2 cC cL
        rw [HLX.out]
        go_wp2_with fail
        go_roundg (n - (q + 1))
        case measure => omega
        case rel => exact ⟨q + 1, zs ++ [((C2, c2), x)], by omega, rfl, by go_num, ZL2.out, LZ2.out, UQ.out, FP.out.1, FP.out.2, HB2.out.setCell (Nat.le_refl _) _⟩
    · obtain rfl : q = n := by omega
      have LZ2 : Hid (lsz zs = ls) := Lib.hid (by rw [LZ.out]; exact List.take_of_length_le (by rw [HLN.out]; exact Nat.le_refl _))
      have OL : Hid (OwnL wr w.heap.size (some ⟨w.heap.size, 0, none⟩) q q ls) := Lib.hid (by
        have h1 := OF.out
        rw [filZ_full ZL.out] at h1
        have := ownL_zs h1 OR.out
        rwa [LZ2.out] at this)
      have cF := sortL_own (some ⟨w.heap.size, 0, none⟩) q q ls wr w.heap.size OL.out (by omega) (fun m => Nat.le_trans (HS.out m) (by omega))
      clear OF OR LZ LZ2 kr
      go_wp2_with fail
      refine Calls.mono cF ?_
      rintro _ w3 ⟨rfl, ms, hpm, hsr, ho3, hg3⟩
      have B3 : Hid (Below w.heap.size w w3) := Lib.hid (HB.out.grown hg3 hzr (fun k hk => by simp [blk] at hk; omega))
      have O3 := Lib.hid ho3
      have MS := Lib.hid (srtV_eq hpm hsr)
      have ML : Hid (ms.length = q) := Lib.hid ho3.1
      have MT : Hid (totL ms ≤ totL ls) := Lib.hid (by rw [totL_perm hpm]; exact Nat.le_refl _)
      clear cF hpm hsr ho3 hg3 HB hzr OL
      go_wp2_with fail
      go_loopg [3, 6] (q + 1) (fun g o mo wr => ∃ (C : Option Addr) (m d : Nat) (cs : List (List Int)) (b : Bool), g = (if b = true then m + 1 else 0) ∧ o = .slice C m d ∧ mo = .bool b ∧ OwnL wr w.heap.size C m d cs ∧ m ≤ q ∧ totL cs ≤ totL ls ∧ (b = false → noTri cs) ∧ (∀ rs, RedR cs rs → RedR (srtV ls) rs) ∧ Below w.heap.size w wr)
      case atStart => exact ⟨some ⟨w.heap.size, 0, none⟩, q, q, ms, true, by simp, rfl, rfl, O3.out, Nat.le_refl _, MT.out, (fun h => by cases h), (fun rs h => by rw [← MS.out]; exact h), B3.out⟩
      case round =>
        clear O3 MS ML MT B3
        obtain ⟨C, m, d, cs, b, rfl, rfl, rfl, hol, hmq, htc, hnt, hre, hb⟩ := hrel
        have HB := Lib.hid hb
        have OL := Lib.hid hol
        have TC := Lib.hid htc
        have RE := Lib.hid hre
        have NT := Lib.hid hnt
        have hzr := hb.size
        clear hb hol htc hnt hre
        cases b
        · have FIN : Hid (RdcV ls cs) := Lib.hid (.inr ⟨fun k hk => UP.out k (by rw [HLN.out] at hk; exact hk), RE.out cs (.stop (NT.out rfl)), TC.out, by rw [OL.out.1, HLN.out]; exact hmq⟩)
          go_wp2_with fail
          go_ret
          exact ⟨HB.out, C, m, d, cs, rfl, OL.out.rd, FIN.out⟩
        · have cP := step_any C m d cs wr w.heap.size (by omega) (Nat.le_trans TC.out HT.out) hzr OL.out
          have ML : Hid (cs.length = m) := Lib.hid OL.out.1
          go_wp2_with fail
          refine Calls.mono cP ?_
          rintro _ w4 ⟨hb4, C4, m4, d4, rs, ok, rfl, ho4, hst⟩
          have B4 := Lib.hid (HB.out.trans (hb4.mono hzr))
          have O4 := Lib.hid ho4
          have ST := Lib.hid hst
          have M4 : Hid (rs.length = m4) := Lib.hid ho4.1
          clear cP hb4 ho4 hst
          cases ok
          · have E0 : Hid (rs = cs ∧ noTri cs) := Lib.hid (by
              rcases ST.out with ⟨-, h1, h2⟩ | ⟨h, -⟩
              · exact ⟨h1, h2⟩
              · cases h)
            have hm4 : m4 = m := by rw [← M4.out, E0.out.1, ML.out]
            subst hm4
            go_wp2_with fail
            go_roundg 0
            case measure => simp
            case rel => exact ⟨C4, m4, d4, rs, false, by simp, rfl, rfl, O4.out, by omega, by rw [E0.out.1]; exact TC.out, (fun _ => by rw [E0.out.1]; exact E0.out.2), by rw [E0.out.1]; exact RE.out, B4.out⟩
          · have E1 := Lib.hid ST.out.tot
            have hm4 : m4 + 2 = m := by rw [← M4.out, E1.out.2, ML.out]
            have RE2 : Hid (∀ xs, RedR rs xs → RedR (srtV ls) xs) := Lib.hid fun xs h => RE.out xs (.step ST.out h)
            go_wp2_with fail
            go_roundg (m4 + 1)
            case measure => simp; omega
            case rel => exact ⟨C4, m4, d4, rs, true, by simp, rfl, rfl, O4.out, by omega, Nat.le_trans E1.out.1 TC.out, (fun h => by cases h), RE2.out, B4.out⟩
end Go.Proofs.YtcpkdnhpelkeoaaGreat

namespace Go.Proofs.YtcpkdnhpelkeoaaGreat
set_option linter.unusedVariables false
set_option linter.unusedSimpArgs false
open Go.RowKit Go.Sort
attribute [local go_sem ↓] Go.wp_at_zero Go.wp_at_succ

def RdrPost (w : World) (ls : List (List Int)) (e : Ending) (w' : World) : Prop :=
  Below w.heap.size w w' ∧ ∃ C m d rs, e = .returned (.slice C m d) ∧ RdL w' C m rs ∧ RdcV ls rs
set_option maxRecDepth 100000 in
set_option maxHeartbeats 16000000 in
theorem rreduce_any (A : Option Addr) (n c : Nat) (ls : List (List Int)) (w : World) (hn : n ≤ 1000) (ht : totL ls ≤ 100000) (ho : RdL w A n ls) :
    Calls Tryz.prog 8 #[.slice A n c] w (RdrPost w ls) := by
  have H1 := Lib.hid ho
  have HLN : Hid (ls.length = n) := Lib.hid ho.1
  have HS : Hid (∀ k, (ls.getD k []).length ≤ 100000) := Lib.hid fun k => Nat.le_trans (getD_tot ls k) ht
  have HT := Lib.hid ht
  clear ho ht
  go_enter Tryz.func8, Tryz.ntmps8
  go_wp2_with fail
  go_loopg [3] n (fun g i wr => ∃ q : Nat, q ≤ n ∧ g = n - q ∧ i = .int .i64 q ∧ (∀ k, k < q → upB (ls.getD k []) = true) ∧ Below w.heap.size w wr)
  case atStart => exact ⟨0, Nat.zero_le _, rfl, rfl, fun k h => by omega, Below.refl _ _⟩
  case round =>
    obtain ⟨q, hq, rfl, rfl, hup, hb⟩ := hrel
    have HB := Lib.hid hb
    have UP := Lib.hid hup
    have hzr := hb.size
    have kr := Keeps.of_below hb (Nat.le_refl _)
    clear hb hup
    by_cases hlt : q < n
    · obtain ⟨ad, A1, e1, rfl, c0, r1⟩ := H1.out.at hlt
      have b1 := HS.out q
      have UN : Hid (∀ b, upB (ls.getD q []) = b → (b = true → ∀ k, k < q + 1 → upB (ls.getD k []) = true) ∧ (b = false → RdcV ls [])) := Lib.hid fun b hb => ⟨fun h k hk => by
        rcases Nat.lt_or_ge k q with h1 | h1
        · exact UP.out k h1
        · obtain rfl : k = q := by omega
          rw [hb, h], fun h => .inl ⟨⟨q, by rw [HLN.out]; exact hlt, by rw [hb, h]⟩, rfl⟩⟩
      generalize hx : ls.getD q [] = x at c0 r1 b1 UN
      have R1 := Lib.hid (r1.keep kr)
      have c0r := kr _ _ c0
      clear hx r1 kr
      generalize hlx : x.length = lx at *
      have HLX := Lib.hid hlx
      clear hlx
      cases hux : upB x
      · have cL := points36_any A1 lx e1 x wr (by omega) R1.out
        rw [hux] at cL
        have NV := Lib.hid ((UN.out false hux).2 rfl)
        clear hux
        go_wp2_with fail
        refine Calls.mono cL ?_
        rintro _ w2 ⟨rfl, hb2⟩
        have HB2 := Lib.hid (HB.out.trans (hb2.mono hzr))
        clear hb2 cL
        go_wp2_with fail
        go_ret
        exact ⟨HB2.out, none, 0, 0, [], rfl, ⟨rfl, [], rfl, Rd.nil _ _ _, fun i h l h1 => by simp at h1⟩, NV.out⟩
      · have cL := points36_any A1 lx e1 x wr (by omega) R1.out
        rw [hux] at cL
        have UQ := Lib.hid ((UN.out true hux).1 rfl)
        clear hux
        go_wp2_with fail
        refine Calls.mono cL ?_
        rintro _ w2 ⟨rfl, hb2⟩
        have HB2 := Lib.hid (HB.out.trans (hb2.mono hzr))
        clear hb2 cL
        go_wp2_with fail
        go_roundg (n - (q + 1))
        case measure => omega
        case rel => exact ⟨q + 1, by omega, rfl, by go_num, UQ.out, HB2.out⟩
    · obtain rfl : q = n := by omega
      have cF := sorted36_any A q c ls wr (by omega) (fun m => Nat.le_trans (HS.out m) (by omega)) (H1.out.keep kr)
      clear kr
      go_wp2_with fail
      refine Calls.mono cF ?_
      rintro _ w3 ⟨hb3, D3, d3, ms, rfl, hpm, hsr, ho3⟩
      have B3 : Hid (Below w.heap.size w w3) := Lib.hid (HB.out.trans (hb3.mono hzr))
      have O3 := Lib.hid ho3
      have MS := Lib.hid (srtV_eq hpm hsr)
      have ML : Hid (ms.length = q) := Lib.hid ho3.1
      have MT : Hid (totL ms ≤ totL ls) := Lib.hid (by rw [totL_perm hpm]; exact Nat.le_refl _)
      clear cF hpm hsr ho3 hb3 HB hzr
      go_wp2_with fail
      go_loopg [0, 4] (q + 1) (fun g o mo wr => ∃ (C : Option Addr) (m d : Nat) (cs : List (List Int)) (b : Bool), g = (if b = true then m + 1 else 0) ∧ o = .slice C m d ∧ mo = .bool b ∧ RdL wr C m cs ∧ m ≤ q ∧ totL cs ≤ totL ls ∧ (b = false → noTri cs) ∧ (∀ rs, RedR cs rs → RedR (srtV ls) rs) ∧ Below w.heap.size w wr)
      case atStart => exact ⟨D3, q, d3, ms, true, by simp, rfl, rfl, O3.out, Nat.le_refl _, MT.out, (fun h => by cases h), (fun rs h => by rw [← MS.out]; exact h), B3.out⟩
      case round =>
        clear O3 MS ML MT B3
        obtain ⟨C, m, d, cs, b, rfl, rfl, rfl, hol, hmq, htc, hnt, hre, hb⟩ := hrel
        have HB := Lib.hid hb
        have OL := Lib.hid hol
        have TC := Lib.hid htc
        have RE := Lib.hid hre
        have NT := Lib.hid hnt
        have hzr := hb.size
        clear hb hol htc hnt hre
        cases b
        · have FIN : Hid (RdcV ls cs) := Lib.hid (.inr ⟨fun k hk => UP.out k (by rw [HLN.out] at hk; exact hk), RE.out cs (.stop (NT.out rfl)), TC.out, by rw [OL.out.1, HLN.out]; exact hmq⟩)
          go_wp2_with fail
          go_ret
          exact ⟨HB.out, C, m, d, cs, rfl, OL.out, FIN.out⟩
        · have cP := once_any C m d cs wr (by omega) (Nat.le_trans TC.out HT.out) OL.out
          have ML : Hid (cs.length = m) := Lib.hid OL.out.1
          go_wp2_with fail
          refine Calls.mono cP ?_
          rintro _ w4 ⟨hb4, C4, m4, d4, rs, ok, rfl, ho4, hst⟩
          have B4 := Lib.hid (HB.out.trans (hb4.mono hzr))
          have O4 := Lib.hid ho4
          have ST := Lib.hid hst
          have M4 : Hid (rs.length = m4) := Lib.hid ho4.1
          clear cP hb4 ho4 hst
          cases ok
          · have E0 : Hid (rs = cs ∧ noTri cs) := Lib.hid (by
              rcases ST.out with ⟨-, h1, h2⟩ | ⟨h, -⟩
              · exact ⟨h1, h2⟩
              · cases h)
            have hm4 : m4 = m := by rw [← M4.out, E0.out.1, ML.out]
            subst hm4
            go_wp2_with fail
            go_roundg 0
            case measure => simp
            case rel => exact ⟨C4, m4, d4, rs, false, by simp, rfl, rfl, O4.out, by omega, by rw [E0.out.1]; exact TC.out, (fun _ => by rw [E0.out.1]; exact E0.out.2), by rw [E0.out.1]; exact RE.out, B4.out⟩
          · have E1 := Lib.hid ST.out.tot
            have hm4 : m4 + 2 = m := by rw [← M4.out, E1.out.2, ML.out]
            have RE2 : Hid (∀ xs, RedR rs xs → RedR (srtV ls) xs) := Lib.hid fun xs h => RE.out xs (.step ST.out h)
            go_wp2_with fail
            go_roundg (m4 + 1)
            case measure => simp; omega
            case rel => exact ⟨C4, m4, d4, rs, true, by simp, rfl, rfl, O4.out, by omega, Nat.le_trans E1.out.1 TC.out, (fun h => by cases h), RE2.out, B4.out⟩
end Go.Proofs.YtcpkdnhpelkeoaaGreat

namespace Go.Proofs.YtcpkdnhpelkeoaaGreat
set_option linter.unusedVariables false
set_option linter.unusedSimpArgs false
open Go.RowKit Go.Sort
attribute [local go_sem ↓] Go.wp_at_zero Go.wp_at_succ

theorem tot_le : ∀ {ls : List (List Int)} {B : Nat}, (∀ k, k < ls.length → (ls.getD k []).length ≤ B) → totL ls ≤ ls.length * B
  | [], B, _ => by simp [totL]
  | x :: l, B, h => by
    have h0 := h 0 (by simp)
    have h1 := tot_le (ls := l) (B := B) (fun k hk => by
      have := h (k + 1) (by simp; omega)
      simpa using this)
    rw [totL_cons, List.length_cons, Nat.add_mul]
    simp only [List.getD_cons_zero] at h0
    omega
set_option maxRecDepth 100000 in
set_option maxHeartbeats 8000000 in
theorem law_cr (A : Option Addr) (n c : Nat) (ls : List (List Int)) (w : World) (hn : n ≤ maxLen) (he : RdL w A n ls) :
    Calls Tryz.prog 3 #[.slice A n c] w fun e w' => e = .returned (.bool true) ∧ Below w.heap.size w w' := by
  have H1 := Lib.hid he
  have HLN : Hid (ls.length = n) := Lib.hid he.1
  unfold maxLen at hn
  clear he
  by_cases h8 : 8 < n
  · have d8 : decide ((8 : Int) < (n : Int)) = true := decide_eq_true (by omega)
    clear h8
    go_enter Tryz.func3, Tryz.ntmps3
    go_wp2_with fail
    refine (awake36_any _).mono ?_
    rintro e w1 ⟨rfl, hb⟩
    have B1 := Lib.hid hb
    clear hb
    go_wp2_with fail
    go_ret
    exact ⟨rfl, B1.out⟩
  have d8 : decide ((8 : Int) < (n : Int)) = false := decide_eq_false (by omega)
  have q8 : n ≤ 8 := by omega
  clear h8 hn
  go_enter Tryz.func3, Tryz.ntmps3
  go_wp2_with fail
  refine (awake36_any _).mono ?_
  rintro e w1 ⟨rfl, hb⟩
  have B1 := Lib.hid hb
  clear hb
  go_wp2_with fail
  go_loopg [12] n (fun g i wr => ∃ q : Nat, q ≤ n ∧ g = n - q ∧ i = .int .i64 q ∧ (∀ k, k < q → (ls.getD k []).length ≤ 12) ∧ Below w.heap.size w wr)
  case atStart => exact ⟨0, Nat.zero_le _, rfl, rfl, (fun k h => by omega), B1.out⟩
  case round =>
    clear B1
    obtain ⟨q, hq, rfl, rfl, hsm, hb⟩ := hrel
    rename World => wr
    have HB := Lib.hid hb
    have SM := Lib.hid hsm
    have hzr := hb.size
    have kr := Keeps.of_below hb (Nat.le_refl _)
    clear hb hsm
    by_cases hlt : q < n
    · obtain ⟨ad, A1, e1, rfl, c0, r1⟩ := H1.out.at hlt
      have c0r := kr _ _ c0
      have NX : Hid ((ls.getD q []).length ≤ 12 → ∀ k, k < q + 1 → (ls.getD k []).length ≤ 12) := Lib.hid fun h k hk => by
        rcases Nat.lt_or_ge k q with h1 | h1
        · exact SM.out k h1
        · obtain rfl : k = q := by omega
          exact h
      clear r1 kr
      generalize (ls.getD q []).length = lx at *
      by_cases hx : 12 < lx
      · have dx : decide ((12 : Int) < (lx : Int)) = true := decide_eq_true (by omega)
        clear hx
        go_wp2_with fail
        go_ret
        exact ⟨rfl, HB.out⟩
      · have dx : decide ((12 : Int) < (lx : Int)) = false := decide_eq_false (by omega)
        have NQ := Lib.hid (NX.out (by omega))
        clear hx NX
        go_wp2_with fail
        go_roundg (n - (q + 1))
        case measure => omega
        case rel => exact ⟨q + 1, by omega, rfl, by go_num, NQ.out, HB.out⟩
    · obtain rfl : q = n := by omega
      have TL : Hid (totL ls ≤ 96) := Lib.hid (by
        have := tot_le (ls := ls) (B := 12) (fun k hk => SM.out k (by rw [HLN.out] at hk; exact hk))
        rw [HLN.out] at this
        omega)
      have SH : Hid (shortL ls) := Lib.hid fun k => Nat.le_trans (Nat.le_trans (getD_tot ls k) TL.out) (by omega)
      have cC := copied36_any A q c ls wr (by omega) SH.out (H1.out.keep kr)
      clear SM kr
      go_wp2_with fail
      refine cC.mono ?_
      rintro e w2 ⟨hb2, C2, d2, rfl, ho2⟩
      have B2 := Lib.hid (HB.out.trans (hb2.mono hzr))
      have R2 := Lib.hid ho2.rd
      have hz2 := B2.out.size
      clear cC hb2 ho2
      have cD := reduce_any C2 q d2 ls w2 (by omega) (Nat.le_trans TL.out (by omega)) R2.out
      go_wp2_with fail
      refine cD.mono ?_
      rintro e w3 ⟨hb3, C3, m3, d3, rs, rfl, hr3, hv3⟩
      have B3 := Lib.hid (B2.out.trans (hb3.mono hz2))
      have R3 := Lib.hid hr3
      have V3 := Lib.hid hv3
      have hz3 := B3.out.size
      clear cD hb3 hr3 hv3
      have cE := rreduce_any A q c ls w3 (by omega) (Nat.le_trans TL.out (by omega)) (H1.out.keep (Keeps.of_below B3.out (Nat.le_refl _)))
      go_wp2_with fail
      refine cE.mono ?_
      rintro e w4 ⟨hb4, C4, m4, d4, ss, rfl, hr4, hv4⟩
      have B4 := Lib.hid (B3.out.trans (hb4.mono hz3))
      have R4 := Lib.hid hr4
      have R34 := Lib.hid (R3.out.keep (Keeps.of_below hb4 (Nat.le_refl _)))
      have hz4 := B4.out.size
      have EQ : Hid (rs = ss) := Lib.hid (V3.out.uniq hv4)
      have LR : Hid (∀ k, (rs.getD k []).length ≤ 96) := Lib.hid fun k => Nat.le_trans (Nat.le_trans (getD_tot rs k) V3.out.tot) TL.out
      have hm3 : m3 ≤ q := by rw [← R3.out.1, ← HLN.out]; exact V3.out.len
      have hm4 : m4 ≤ q := by rw [← R4.out.1, ← EQ.out, ← HLN.out]; exact V3.out.len
      clear cE hb4 hr4 hv4
      have cS := same36_b (b := true) C3 C4 m3 d3 m4 d4 rs ss w4 (by omega) (by omega) (fun k => Nat.le_trans (LR.out k) (by omega)) (fun k => by rw [← EQ.out]; exact Nat.le_trans (LR.out k) (by omega)) R34.out R4.out (decide_eq_true EQ.out)
      go_wp2_with fail
      refine cS.mono ?_
      rintro e w5 ⟨rfl, hb5⟩
      have B5 := Lib.hid (B4.out.trans (hb5.mono hz4))
      clear cS hb5
      go_wp2_with fail
      go_ret
      exact ⟨rfl, B5.out⟩
end Go.Proofs.YtcpkdnhpelkeoaaGreat

