/-
  setsquarelaw36.induced.
-/
import Derived.Test.YtagcaljpgifppaaSpecCI
import Derived.Test.YtagcaljpgifppaaCv
import Derived.Test.YtagcaljpgifppaaMc
namespace Go.Proofs.Ytagcaljpgifppaa
set_option linter.unusedVariables false
set_option linter.unusedSimpArgs false
open Go.RowKit Go.Sort
attribute [local go_sem ↓] Go.wp_at_zero Go.wp_at_succ

def G1z (w : World) (n : Nat) (A : Option Addr) (m c : Nat) : World := w.alloc (.cells #[.int .i64 (n : Int), .slice A m c] 24)
/-- What lies in memory: the graph's box, the result's, the graph under way. -/
structure CZ (w wr : World) (n : Nat) (A : Option Addr) (m c k : Nat) (B : Option Addr) (l cB : Nat) (L : List (Int × Int)) : Prop where
  cx : CX (G1z w n A m c) wr k B l cB L
section
variable {w wr w' : World} {n m c k l cB : Nat} {A B : Option Addr} {L : List (Int × Int)}
theorem G1z.size : (G1z w n A m c).heap.size = w.heap.size + 1 := by unfold G1z; simp
theorem CZ.bc (h : CZ w wr n A m c k B l cB L) : BC w n A m c wr := by
  have h1 := h.cx.bel
  rw [G1z.size] at h1
  exact h1
theorem CZ.later (h : CZ w wr n A m c k B l cB L) (hb : Below wr.heap.size wr w') : CZ w w' n A m c k B l cB L := ⟨h.cx.later hb⟩
theorem CZ.own (h : CZ w wr n A m c k B l cB L) : Own wr (w.heap.size + 1 + 2) 42 2 B l cB (prs L) := by
  have := h.cx.own
  rw [G1z.size] at this
  exact this
theorem CZ.facts (h : CZ w wr n A m c k B l cB L) :
    w.heap.size + 1 + 1 < wr.heap.size ∧ wr.cell? ⟨w.heap.size, 0, none⟩ = some (.int .i64 (n : Int)) ∧ wr.cell? ⟨w.heap.size, 1, none⟩ = some (.slice A m c) ∧
    wr.cell? ⟨w.heap.size + 1, 0, none⟩ = some (.int .i64 0) ∧ wr.cell? ⟨w.heap.size + 1, 1, none⟩ = some (.slice none 0 0) ∧ wr.frozen? ⟨w.heap.size + 1, 0, none⟩ = false ∧ wr.frozen? ⟨w.heap.size + 1, 1, none⟩ = false ∧
    wr.cell? ⟨w.heap.size + 1 + 1, 0, none⟩ = some (.int .i64 (k : Int)) ∧ wr.cell? ⟨w.heap.size + 1 + 1, 1, none⟩ = some (.slice B l cB) ∧ wr.frozen? ⟨w.heap.size + 1 + 1, 1, none⟩ = false := by
  have hb := h.bc.facts
  obtain ⟨h1, h2, h3, h4, h5, h6, h7, h8, h9, h10, h11⟩ := h.cx
  rw [G1z.size] at h2 h3 h4 h5 h6 h7 h8 h9
  exact ⟨h2, hb.2.1, hb.2.2, h3, h4, h5, h6, h7, h8, h9⟩
theorem CZ.push (h : CZ w wr n A m c k B l cB L) {D : Option Addr} {d : Nat} {x y : Int} (hb : Below (w.heap.size + 1 + 2) wr w') (ho : Own w' (w.heap.size + 1 + 2) 42 2 D (l + 1) d (prs (L ++ [(x, y)]))) :
    CZ w (w'.setCell ⟨w.heap.size + 1 + 1, 1, none⟩ (.slice D (l + 1) d)) n A m c k D (l + 1) d (L ++ [(x, y)]) := ⟨by
  have := CX.push h.cx (by rw [G1z.size]; exact hb) (by rw [G1z.size]; exact ho)
  rw [G1z.size] at this
  exact this⟩
end
theorem CZ.start (w : World) (n : Nat) (A : Option Addr) (m c k : Nat) : CZ w (((G1z w n A m c).alloc (.cells #[.int .i64 0, .slice none 0 0] 24)).alloc (.cells #[.int .i64 (k : Int), .slice none 0 0] 24)) n A m c k none 0 0 [] := ⟨CX.start _ k⟩
set_option maxRecDepth 100000 in
set_option maxHeartbeats 16000000 in
theorem ind36_any (n : Nat) (A P : Option Addr) (m c k d q : Nat) (es : List (Int × Int)) (ps : List Int) (w : World) (hm : m ≤ 1000) (hk : k ≤ 20) (he : Rd w 2 A m (prs es)) (hp : Rd w 1 P k (ints ps)) (hq : (pfU (jn es ps) castN k k).length = q) :
    Calls Try.prog 54 #[.agg #[.int .i64 (n : Int), .slice A m c], .slice P k d] w (GrPost w k q (pfU (jn es ps) castN k k)) := by
  have H1 := Lib.hid he
  have HP := Lib.hid hp
  have HPL : Hid (ps.length = k) := Lib.hid hp.int_len
  have HQ := Lib.hid hq
  have C0 := Lib.hid (CZ.start w n A m c k)
  have hwt : ((G1z w n A m c).alloc (.cells #[.int .i64 0, .slice none 0 0] 24)).alloc (.cells #[.int .i64 (k : Int), .slice none 0 0] 24) = ((w.alloc (.cells #[.int .i64 (n : Int), .slice A m c] 24)).alloc (.cells #[.int .i64 0, .slice none 0 0] 24)).alloc (.cells #[.int .i64 (k : Int), .slice none 0 0] 24) := rfl
  have JN : Hid (∀ (x y : Int) (b : Bool), decide ((x, y) ∈ es) = b → ∀ W, Rd W 2 A m (prs es) → Calls Try.prog 49 #[.agg #[.int .i64 n, .slice A m c], .int .i64 x, .int .i64 y] W fun e w' => e = .returned (.bool b) ∧ Below W.heap.size W w') := Lib.hid fun x y b hb W h => joined36_b n A m c es x y W (by omega) h hb
  clear he hp hq
  go_enter Try.func54, Try.ntmps54
  go_upto_region 2 with fail
  rw [← hwt]
  clear hwt
  generalize ((G1z w n A m c).alloc (.cells #[.int .i64 0, .slice none 0 0] 24)).alloc (.cells #[.int .i64 (k : Int), .slice none 0 0] 24) = W5 at *
  obtain ⟨hz, p0, p1, r0, r1, f0, f1, g0, g1, h1⟩ := C0.out.facts
  go_wp2_with fail
  go_loopg [14] k (fun gg t wr => ∃ (i : Nat) (B : Option Addr) (l cB : Nat), i ≤ k ∧ gg = k - i ∧ t = .int .i64 i ∧ l ≤ i * k ∧ CZ w wr n A m c k B l cB (pfU (jn es ps) castN k i))
  case atStart => exact ⟨0, none, 0, 0, Nat.zero_le _, rfl, rfl, by omega, C0.out⟩
  case round =>
    obtain ⟨i, B, l, cB, hi, rfl, rfl, hli, hcz⟩ := hrel
    have CZr := Lib.hid hcz
    clear p0 p1 r0 r1 f0 f1 g0 g1 h1 hz
    obtain ⟨hz, p0, p1, r0, r1, f0, f1, g0, g1, h1⟩ := hcz.facts
    clear hcz
    by_cases hik : i < k
    · obtain ⟨ap, rfl, -, ca⟩ := (HP.out.keep CZr.out.bc.keeps).int_at hik
      have hx : atP ps i = ps.getD i 0 := rfl
      have hxH := Lib.hid hx
      rw [← hx] at ca
      clear hx
      go_wp2_with fail
      go_loopg [8] (k - (i + 1)) (fun gg t wi => ∃ (q : Nat) (B : Option Addr) (l cB : Nat), i < q ∧ q ≤ k ∧ gg = k - q ∧ t = .int .i64 q ∧ l ≤ i * k + q ∧ CZ w wi n A m c k B l cB (pfU (jn es ps) castN k i ++ pfR (jn es ps) castN i q))
      case atStart => exact ⟨i + 1, B, l, cB, by omega, by omega, rfl, by go_num, by omega, by rw [pfR_low (Nat.le_refl _), List.append_nil]; exact CZr.out⟩
      case round =>
        obtain ⟨q9, B, l, cB, hiq, hqk, rfl, rfl, hlq, hcz⟩ := hrel
        rename World => wi
        have CZi := Lib.hid hcz
        clear p0 p1 r0 r1 f0 f1 g0 g1 h1 hz
        obtain ⟨hz, p0, p1, r0, r1, f0, f1, g0, g1, h1⟩ := hcz.facts
        clear hcz
        by_cases hqlt : q9 < k
        · obtain ⟨ap', e9, -, cq⟩ := (HP.out.keep CZi.out.bc.keeps).int_at hqlt
          injection e9 with e9
          subst e9
          have hy : atP ps q9 = ps.getD q9 0 := rfl
          rw [← hy] at cq
          clear hy
          have PY := Lib.hid (fun h => pfR_yes (f := jn es ps) (v := castN) (a := i) (k := q9) hiq h)
          have PN := Lib.hid (fun h => pfR_no (f := jn es ps) (v := castN) (a := i) (k := q9) h)
          have NJ : Hid (jn es ps i q9 = decide ((atP ps i, atP ps q9) ∈ es)) := Lib.hid rfl
          have RI := Lib.hid (H1.out.keep CZi.out.bc.keeps)
          generalize jn es ps i q9 = nb at *
          generalize atP ps q9 = y at *
          generalize hxx : atP ps i = x at *
          have k0 := grown_cell p0
          have k1 := grown_cell p1
          have k2 := grown_cell cq
          have hnn : i * k ≤ 20 * 20 := Nat.mul_le_mul (by omega) hk
          cases hj : decide ((x, y) ∈ es)
          · have cJ := call_q (w := wi) (fun w' hw => JN.out x y false hj w' (RI.out.keep hw))
            have hnb : nb = false := by rw [NJ.out, hj]
            have PE := Lib.hid (PN.out hnb)
            clear hnb hj PY PN NJ
            go_wp2_with fail
            refine wp_region_q (by kernel_rfl) (by kernel_rfl) ?_
            repeat (go_big_quiet_step (first | with_reducible exact cJ _ _))
            refine wpQuiet_nil ?_
            intro wq hgq
            go_wp2_with fail
            go_roundg (k - (q9 + 1))
            case measure => omega
            case rel => exact ⟨q9 + 1, B, l, cB, by omega, by omega, rfl, by go_num, by omega, by rw [PE.out]; exact CZi.out.later hgq⟩
          · have cJ := call_q (w := wi) (fun w' hw => JN.out x y true hj w' (RI.out.keep hw))
            have hnb : nb = true := by rw [NJ.out, hj]
            have PE := Lib.hid (PY.out hnb)
            clear hnb hj PY PN NJ
            go_wp2_with fail
            refine wp_region_q (by kernel_rfl) (by kernel_rfl) ?_
            repeat (go_big_quiet_step (first | with_reducible exact cJ _ _))
            refine wpQuiet_nil ?_
            intro wq hgq
            have CZq := Lib.hid (CZi.out.later hgq)
            clear hgq k0 k1 k2 cJ cq p0 p1 r0 r1 f0 f1 g0 g1 h1 hz RI
            obtain ⟨hz, p0, p1, r0, r1, f0, f1, g0, g1, h1⟩ := CZq.out.facts
            generalize hL : pfU (jn es ps) castN k i ++ pfR (jn es ps) castN i q9 = L at *
            go_wp2_with (first
              | (at_builtin; refine wpList_app _ rfl (.tmp 35) (.tmp 39) 22 rfl (w.heap.size + 1 + 2) 42 (.agg #[.int .i64 0, .int .i64 0]) 2 16 Try.underlying22 info_pair rfl (by decide) B l cB (prs L) rfl (CZq.out.own.alloc _) (some ⟨wq.heap.size, 0, none⟩) 1 1 (prs [((i : Int), (q9 : Int))]) rfl (rd_lit2_at rfl [((i : Int), (q9 : Int))] _) (prs_one _) (by omega) (by unfold maxLen; omega) (by simp; omega) ?_; intro D6 c6 w6 ho6 hg6 hb6; have O6 : Hid (Own w6 (w.heap.size + 1 + 2) 42 2 D6 (l + 1) c6 (prs (L ++ [((i : Int), (q9 : Int))]))) := Lib.hid (by rw [prs_app]; exact ho6); have B6 : Hid (Below (w.heap.size + 1 + 2) wq w6) := Lib.hid (((Below.refl _ _).alloc (by omega) _).grown hg6 (by simp; omega) (fun k hk => (CZq.out.own.lt hk).1)); have g1' : w6.cell? ⟨w.heap.size + 1 + 1, 1, none⟩ = some (.slice B l cB) := (by rw [B6.out.cell (by simp)]; exact g1); have h1' : w6.frozen? ⟨w.heap.size + 1 + 1, 1, none⟩ = false := (by rw [B6.out.frozen (by simp)]; exact h1); clear ho6 hg6 hb6)
              | fail)
            go_roundg (k - (q9 + 1))
            case measure => omega
            case rel => exact ⟨q9 + 1, D6, l + 1, c6, by omega, by omega, rfl, by go_num, by omega, by rw [PE.out, ← List.append_assoc, hL]; exact CZq.out.push B6.out O6.out⟩
        · obtain rfl : q9 = k := by omega
          have hl3 : l ≤ (i + 1) * q9 := by rw [Nat.add_mul]; omega
          go_wp2_with fail
          go_roundg (q9 - (i + 1))
          case measure => omega
          case rel => exact ⟨i + 1, B, l, cB, by omega, rfl, by go_num, hl3, CZi.out⟩
    · obtain rfl : i = k := by omega
      have hlq : l = q := by rw [← CZr.out.own.plen, HQ.out]
      subst hlq
      go_wp2_with fail
      refine bodyPost_ret (v := .agg #[.int .i64 (i : Int), .slice B l cB]) (by simp [results, Try.results54, go_sem, r0, r1]) rfl ⟨?_, B, cB, rfl, ?_⟩
      · exact ((CZr.out.bc.below).setCell (by simp) _).setCell (by simp) _
      · exact (Own.setOther' (Own.setOther' CZr.out.own (by simp) _) (by simp) _).rd
end Go.Proofs.Ytagcaljpgifppaa
