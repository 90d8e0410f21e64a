/-
  setsquareref36.Condense.
-/
import Derived.Test.YtagcaljpgifppaaCr5
import Derived.Test.YtagcaljpgifppaaCr7
import Derived.Test.YtagcaljpgifppaaMc
namespace Go.Proofs.Ytagcaljpgifppaa
set_option linter.unusedVariables false
set_option linter.unusedSimpArgs false
open Go.RowKit Go.Sort
attribute [local go_sem ↓] Go.wp_at_zero Go.wp_at_succ

theorem inOne_take {ls : List (List Int)} {k : Nat} {a b : Int} (h : k < ls.length) : inOne (ls.take (k + 1)) a b = (inOne (ls.take k) a b || (decide (a ∈ ls.getD k []) && decide (b ∈ ls.getD k []))) := by
  unfold inOne
  rw [List.take_succ_eq_append_getElem h, List.any_append, List.getD_eq_getElem?_getD, List.getElem?_eq_getElem h]
  simp
/-- The cells of w4 but one stand in w'. -/
def KeepX (p : Addr) (w4 w' : World) : Prop := ∀ q v, q ≠ p → w4.cell? q = some v → w'.cell? q = some v
theorem KeepX.refl (p : Addr) (w : World) : KeepX p w w := fun _ _ _ h => h
theorem KeepX.keep {p : Addr} {w4 w w' : World} (h : KeepX p w4 w) (k : Keeps w w') : KeepX p w4 w' := fun q v hq hv => k q v (h q v hq hv)
theorem KeepX.set {p : Addr} {w4 w : World} (h : KeepX p w4 w) (u : Value) : KeepX p w4 (w.setCell p u) := fun q v hq hv => by
  rw [World.cell?_setCell_other _ _ _ _ (Ne.symm hq)]; exact h q v hq hv
theorem Rd.keepX {w4 w' : World} {p : Addr} {size n : Nat} {A : Option Addr} {xs : List Value} (h : Rd w4 size A n xs) (hp : w4.cell? p = some (.slice none 0 0)) (hx : ∀ x ∈ xs, x ≠ .slice none 0 0) (k : KeepX p w4 w') : Rd w' size A n xs :=
  ⟨h.1, fun hn => by
    obtain ⟨ad, e, hc⟩ := h.2 hn
    refine ⟨ad, e, fun j u hu => k _ _ (fun e2 => ?_) (hc j u hu)⟩
    have h1 := hc j u hu
    rw [e2, hp] at h1
    injection h1 with h1
    exact hx u (List.mem_of_getElem? hu) h1.symm⟩
theorem RdL.keepX {w4 w' : World} {p : Addr} {n : Nat} {A : Option Addr} {ls : List (List Int)} (h : RdL w4 A n ls) (hp : w4.cell? p = some (.slice none 0 0)) (hne : ∀ l ∈ ls, l ≠ []) (k : KeepX p w4 w') : RdL w' A n ls := by
  obtain ⟨h1, hs, h2, h3, h4⟩ := h
  refine ⟨h1, hs, h2, h3.keepX hp (fun x hx e => ?_) k, fun i hd l a b => (h4 i hd l a b).keepX hp (fun x hx e => ?_) k⟩
  · obtain ⟨j, hj, e2⟩ := List.getElem_of_mem hx
    rw [List.getElem_zipWith, e] at e2
    injection e2 with e3 e4 e5
    simp at hj
    exact hne _ (List.getElem_mem (by omega : j < ls.length)) (List.eq_nil_of_length_eq_zero e4)
  · obtain ⟨y, -, rfl⟩ := List.mem_map.1 hx
    cases e
theorem clu_ne {n : Nat} {es : List (Int × Int)} {ls : List (List Int)} (hok : ∀ e ∈ es, OkE n e) (h : CluL n es ls) : ∀ l ∈ ls, l ≠ [] := fun l hl e => by
  obtain ⟨x, hx, rfl⟩ := (h.mem l).1 hl
  obtain ⟨u, v, rfl, hu, hv, huv⟩ := nat_edge (hok x hx)
  have : (u : Int) ∈ clP n es u v := by
    unfold clP
    simp only [List.mem_map, List.mem_filter, List.mem_range]
    exact ⟨u, ⟨hu, inCb_iff.2 (.inl rfl)⟩, rfl⟩
  simp only [Int.toNat_natCast] at e
  rw [e] at this
  cases this
def G1 (w : World) (n : Nat) (A : Option Addr) (m c : Nat) : World := w.alloc (.cells #[.int .i64 (n : Int), .slice A m c] 24)
/-- What lies in memory: the graph's box, the result's, the graph under way. -/
structure CY (w wr : World) (n : Nat) (A : Option Addr) (m c : Nat) (B : Option Addr) (l cB : Nat) (L : List (Int × Int)) : Prop where
  cx : CX (G1 w n A m c) wr n B l cB L
section
variable {w wr w' : World} {n m c l cB : Nat} {A B : Option Addr} {L : List (Int × Int)}
theorem G1.size : (G1 w n A m c).heap.size = w.heap.size + 1 := by unfold G1; simp
theorem CY.bc (h : CY w wr n A m c B l cB L) : BC w n A m c wr := by
  have h1 := h.cx.bel
  rw [G1.size] at h1
  exact h1
theorem CY.later (h : CY w wr n A m c B l cB L) (hb : Below wr.heap.size wr w') : CY w w' n A m c B l cB L := ⟨h.cx.later hb⟩
theorem CY.facts (h : CY w wr n A m c B l cB L) :
    w.heap.size + 1 + 1 < wr.heap.size ∧ wr.cell? ⟨w.heap.size, 0, none⟩ = some (.int .i64 (n : Int)) ∧ wr.cell? ⟨w.heap.size, 1, none⟩ = some (.slice A m c) ∧
    wr.cell? ⟨w.heap.size + 1, 0, none⟩ = some (.int .i64 0) ∧ wr.cell? ⟨w.heap.size + 1, 1, none⟩ = some (.slice none 0 0) ∧ wr.frozen? ⟨w.heap.size + 1, 0, none⟩ = false ∧ wr.frozen? ⟨w.heap.size + 1, 1, none⟩ = false ∧
    wr.cell? ⟨w.heap.size + 1 + 1, 0, none⟩ = some (.int .i64 (n : Int)) ∧ wr.cell? ⟨w.heap.size + 1 + 1, 1, none⟩ = some (.slice B l cB) ∧ wr.frozen? ⟨w.heap.size + 1 + 1, 1, none⟩ = false := by
  have hb := h.bc.facts
  obtain ⟨h1, h2, h3, h4, h5, h6, h7, h8, h9, h10, h11⟩ := h.cx
  rw [G1.size] at h2 h3 h4 h5 h6 h7 h8 h9
  exact ⟨h2, hb.2.1, hb.2.2, h3, h4, h5, h6, h7, h8, h9⟩
end
theorem CY.start (w : World) (n : Nat) (A : Option Addr) (m c : Nat) : CY w (((G1 w n A m c).alloc (.cells #[.int .i64 0, .slice none 0 0] 24)).alloc (.cells #[.int .i64 (n : Int), .slice none 0 0] 24)) n A m c none 0 0 [] := ⟨CX.start _ n⟩
def RCondPost (w : World) (n : Nat) (es : List (Int × Int)) (e : Ending) (w' : World) : Prop :=
  ∃ ls q, CluL n es ls ∧ (pfU (fun a b => inOne ls a b) castN n n).length = q ∧ GrPost w n q (pfU (fun a b => inOne ls a b) castN n n) e w'
set_option maxRecDepth 100000 in
set_option maxHeartbeats 16000000 in
theorem rcond_any (n : Nat) (A : Option Addr) (m c : Nat) (es : List (Int × Int)) (w : World) (hn : n ≤ 7) (hm : m ≤ 25) (he : Rd w 2 A m (prs es)) (hv : validB n es = true) :
    Calls Try.prog 56 #[.agg #[.int .i64 (n : Int), .slice A m c]] w (RCondPost w n es) := by
  have HEL := Lib.hid he.prs_len
  have HOK := Lib.hid (ok_of_valid hv)
  have H1 := Lib.hid he
  have C0 := Lib.hid (CY.start w n A m c)
  have hwt : ((G1 w n A m c).alloc (.cells #[.int .i64 0, .slice none 0 0] 24)).alloc (.cells #[.int .i64 (n : Int), .slice none 0 0] 24) = ((w.alloc (.cells #[.int .i64 (n : Int), .slice A m c] 24)).alloc (.cells #[.int .i64 0, .slice none 0 0] 24)).alloc (.cells #[.int .i64 (n : Int), .slice none 0 0] 24) := rfl
  clear he hv
  go_enter Try.func56, Try.ntmps56
  go_upto_region 2 with fail
  rw [← hwt]
  clear hwt
  generalize ((G1 w n A m c).alloc (.cells #[.int .i64 0, .slice none 0 0] 24)).alloc (.cells #[.int .i64 (n : Int), .slice none 0 0] 24) = W5 at *
  obtain ⟨hz, p0, p1, r0, r1, f0, f1, g0, g1, h1⟩ := C0.out.facts
  go_wp2_with (first
    | (go_at_call 41; refine (rclusters_any n A m c es _ hn (by omega) (H1.out.keep C0.out.bc.keeps) HOK.out).mono ?_; rintro e w4 ⟨hb, C4, n4, c4, ls, rfl, hl, hr⟩; have C4' := Lib.hid (C0.out.later hb); have L4 := Lib.hid hl; have R4 := Lib.hid hr; clear p0 p1 r0 r1 f0 f1 g0 g1 h1 hz; obtain ⟨hz, p0, p1, r0, r1, f0, f1, g0, g1, h1⟩ := C4'.out.facts; clear hb hl hr)
    | fail)
  have HN4 : Hid (ls.length = n4) := Lib.hid R4.out.1
  have hn4 : n4 ≤ 25 := by have := clu_len' L4.out; rw [HN4.out, HEL.out] at this; omega
  have S7 := Lib.hid (clu_seven hn L4.out)
  have RK : Hid (∀ W, KeepX ⟨w.heap.size + 1 + 1, 1, none⟩ w4 W → RdL W C4 n4 ls) := Lib.hid fun W hW => R4.out.keepX g1 (clu_ne HOK.out L4.out) hW
  go_loopg [5, 6, 7, 8] n (fun gg t _ _ _ wr => ∃ (a : Nat) (B : Option Addr) (l cB : Nat), a ≤ n ∧ gg = n - a ∧ t = .int .i64 a ∧ l ≤ a * n ∧ CY w wr n A m c B l cB (pfU (fun a b => inOne ls a b) castN n a) ∧ Own wr w4.heap.size 42 2 B l cB (prs (pfU (fun a b => inOne ls a b) castN n a)) ∧ KeepX ⟨w.heap.size + 1 + 1, 1, none⟩ w4 wr ∧ w4.heap.size ≤ wr.heap.size)
  case atStart => exact ⟨0, none, 0, 0, Nat.zero_le _, rfl, rfl, by omega, C4'.out, Own.nil _ _ _ _, KeepX.refl _ _, Nat.le_refl _⟩
  case round =>
    obtain ⟨a, B, l, cB, ha, rfl, rfl, hla, hcy, ho, hk, hzk⟩ := hrel
    have CYr := Lib.hid hcy
    have OR := Lib.hid ho
    have KR := Lib.hid hk
    clear p0 p1 r0 r1 f0 f1 g0 g1 h1 hz
    obtain ⟨hz, p0, p1, r0, r1, f0, f1, g0, g1, h1⟩ := hcy.facts
    clear hcy ho hk
    by_cases han : a < n
    · go_wp2_with fail
      go_loopg [6, 7, 8] (n - (a + 1)) (fun gg t _ _ wi => ∃ (b : Nat) (B : Option Addr) (l cB : Nat), a < b ∧ b ≤ n ∧ gg = n - b ∧ t = .int .i64 b ∧ l ≤ a * n + b ∧ CY w wi n A m c B l cB (pfU (fun a b => inOne ls a b) castN n a ++ pfR (fun a b => inOne ls a b) castN a b) ∧ Own wi w4.heap.size 42 2 B l cB (prs (pfU (fun a b => inOne ls a b) castN n a ++ pfR (fun a b => inOne ls a b) castN a b)) ∧ KeepX ⟨w.heap.size + 1 + 1, 1, none⟩ w4 wi ∧ w4.heap.size ≤ wi.heap.size)
      case atStart => exact ⟨a + 1, B, l, cB, by omega, by omega, rfl, by go_num, by omega, by rw [pfR_low (Nat.le_refl _), List.append_nil]; exact CYr.out, by rw [pfR_low (Nat.le_refl _), List.append_nil]; exact OR.out, KR.out, hzk⟩
      case round =>
        obtain ⟨b, B, l, cB, hab, hbn, rfl, rfl, hlb, hcy, ho, hk, hzk2⟩ := hrel
        rename World => wi
        have CYi := Lib.hid hcy
        have OI := Lib.hid ho
        have KI := Lib.hid hk
        clear p0 p1 r0 r1 f0 f1 g0 g1 h1 hz
        obtain ⟨hz, p0, p1, r0, r1, f0, f1, g0, g1, h1⟩ := hcy.facts
        clear hcy ho hk
        by_cases hb' : b < n
        · go_wp2_with fail
          go_loopg [7, 8] n4 (fun gg j t wj => ∃ (i : Nat) (jb : Bool), i ≤ n4 ∧ gg = n4 - i ∧ t = .int .i64 i ∧ j = .bool jb ∧ inOne (ls.take i) a b = jb ∧ wi = wj)
          case atStart => exact ⟨0, false, Nat.zero_le _, rfl, rfl, rfl, rfl, rfl⟩
          case round =>
            obtain ⟨i, jb, hi, rfl, rfl, rfl, hj, rfl⟩ := hrel
            have HJ := Lib.hid hj
            clear hj
            by_cases hin : i < n4
            · obtain ⟨ad, A1, e1, rfl, c0, rr⟩ := (RK.out _ KI.out).at hin
              have IT := Lib.hid (inOne_take (ls := ls) (k := i) (a := (a : Int)) (b := (b : Int)) (by rw [HN4.out]; exact hin))
              have hx7 : (ls.getD i []).length ≤ 7 := S7.out _ (by rw [List.getD_eq_getElem?_getD, List.getElem?_eq_getElem (by rw [HN4.out]; exact hin)]; exact List.getElem_mem _)
              generalize hx : ls.getD i [] = x at c0 rr IT hx7
              have RX := Lib.hid rr
              clear hx rr
              have HA : Hid (∀ (y : Int) (bb : Bool), decide (y ∈ x) = bb → ∀ W, Rd W 1 A1 x.length (ints x) → Calls Try.prog 50 #[.slice A1 x.length e1, .int .i64 y] W fun e w'' => e = .returned (.bool bb) ∧ W = w'') := Lib.hid fun y bb hb W h => has36_b A1 x.length e1 x y W (by omega) h hb
              generalize x.length = lx at *
              cases jb
              · cases h1' : decide ((a : Int) ∈ x) <;> cases h2' : decide ((b : Int) ∈ x)
                all_goals
                  have H1' := Lib.hid h1'
                  have H2' := Lib.hid h2'
                  have NX := IT.out
                  rw [HJ.out, h1', h2'] at NX
                  have NX' := Lib.hid NX
                  clear h1' h2' NX
                  go_wp2_with (first
                    | (go_at_call 50; (with_reducible refine (HA.out (a : Int) _ H1'.out _ RX.out).mono ?_); rintro e w' ⟨rfl, rfl⟩)
                    | (go_at_call 50; (with_reducible refine (HA.out (b : Int) _ H2'.out _ RX.out).mono ?_); rintro e w' ⟨rfl, rfl⟩)
                    | fail)
                  go_roundg (n4 - (i + 1))
                  case measure => omega
                  case rel => exact ⟨i + 1, _, by omega, rfl, by go_num, rfl, NX'.out, rfl⟩
              · have NX : Hid (inOne (ls.take (i + 1)) (a : Int) (b : Int) = true) := Lib.hid (by rw [IT.out, HJ.out]; rfl)
                go_wp2_with fail
                go_roundg (n4 - (i + 1))
                case measure => omega
                case rel => exact ⟨i + 1, true, by omega, rfl, by go_num, rfl, NX.out, rfl⟩
            · obtain rfl : i = n4 := by omega
              have e0 : ls.take i = ls := List.take_of_length_le (by rw [HN4.out]; exact Nat.le_refl _)
              have HJ2 := HJ.out
              rw [e0] at HJ2
              have PY := Lib.hid (fun h => pfR_yes (f := fun a b => inOne ls a b) (v := castN) (a := a) (k := b) hab h)
              have PN := Lib.hid (fun h => pfR_no (f := fun a b => inOne ls a b) (v := castN) (a := a) (k := b) h)
              clear e0
              cases jb
              · have PE := Lib.hid (PN.out HJ2)
                clear HJ2
                go_wp2_with fail
                go_roundg (n - (b + 1))
                case measure => omega
                case rel => exact ⟨b + 1, B, l, cB, by omega, by omega, rfl, by go_num, by omega, by rw [PE.out]; exact CYi.out, by rw [PE.out]; exact OI.out, KI.out, hzk2⟩
              · have PE := Lib.hid (PY.out HJ2)
                clear HJ2
                have hnn : a * n ≤ 7 * 7 := Nat.mul_le_mul (by omega) hn
                generalize hL : pfU (fun a b => inOne ls a b) castN n a ++ pfR (fun a b => inOne ls a b) castN a b = L at *
                have CYp : Hid (∀ D d w4', Below (w.heap.size + 1 + 2) wi w4' → Own w4' (w.heap.size + 1 + 2) 42 2 D (l + 1) d (prs (L ++ [((a : Int), (b : Int))])) → CY w (w4'.setCell ⟨w.heap.size + 1 + 1, 1, none⟩ (.slice D (l + 1) d)) n A m c D (l + 1) d (L ++ [((a : Int), (b : Int))])) := Lib.hid fun D d w4' hb ho => ⟨by
                  have := CX.push CYi.out.cx (by rw [G1.size]; exact hb) (by rw [G1.size]; exact ho)
                  rw [G1.size] at this
                  exact this⟩
                have hw43 : w.heap.size + 1 + 2 ≤ w4.heap.size := by have := C4'.out.facts.1; omega
                go_wp2_with (first
                  | (at_builtin; refine wpList_app _ rfl (.tmp 53) (.tmp 57) 22 rfl w4.heap.size 42 (.agg #[.int .i64 0, .int .i64 0]) 2 16 Try.underlying22 info_pair rfl (by decide) B l cB (prs L) rfl (OI.out.alloc _) (some ⟨wi.heap.size, 0, none⟩) 1 1 (prs [((a : Int), (b : Int))]) rfl (rd_lit2_at rfl [((a : Int), (b : Int))] _) (prs_one _) (by omega) (by unfold maxLen; omega) (by simp; omega) ?_; intro D6 c6 w6 ho6 hg6 hb6; have O6 : Hid (Own w6 w4.heap.size 42 2 D6 (l + 1) c6 (prs (L ++ [((a : Int), (b : Int))]))) := Lib.hid (by rw [prs_app]; exact ho6); have B6 : Hid (Below w4.heap.size wi w6) := Lib.hid (((Below.refl _ _).alloc hzk2 _).grown hg6 (by simp; omega) (fun k hk => (OI.out.lt hk).1)); have B6' : Hid (Below (w.heap.size + 1 + 2) wi w6) := Lib.hid (B6.out.mono hw43); have hz6 := B6.out.size; have g1' : w6.cell? ⟨w.heap.size + 1 + 1, 1, none⟩ = some (.slice B l cB) := (by rw [B6'.out.cell (by simp)]; exact g1); have h1' : w6.frozen? ⟨w.heap.size + 1 + 1, 1, none⟩ = false := (by rw [B6'.out.frozen (by simp)]; exact h1); clear ho6 hg6 hb6)
                  | fail)
                go_roundg (n - (b + 1))
                case measure => omega
                case rel => exact ⟨b + 1, D6, l + 1, c6, by omega, by omega, rfl, by go_num, by omega, by rw [PE.out, ← List.append_assoc, hL]; exact CYp.out D6 c6 w6 B6'.out (O6.out.base_le hw43), by rw [PE.out, ← List.append_assoc, hL]; exact Own.setOther' O6.out (by simp; omega) _, KeepX.set (fun q v hq hv => by
                    have h9 := KI.out q v hq hv
                    have h8 := World.block_lt_of_cell? w4 q hv
                    rw [B6.out.cell h8]; exact h9) _, by simp; omega⟩
        · obtain rfl : b = n := by omega
          have hl3 : l ≤ (a + 1) * b := by rw [Nat.add_mul]; omega
          go_wp2_with fail
          go_roundg (b - (a + 1))
          case measure => omega
          case rel => exact ⟨a + 1, B, l, cB, by omega, rfl, by go_num, hl3, CYi.out, OI.out, KI.out, hzk2⟩
    · obtain rfl : a = n := by omega
      have hw43 : w.heap.size + 1 + 1 < w4.heap.size := C4'.out.facts.1
      go_wp2_with fail
      refine bodyPost_ret (v := .agg #[.int .i64 (a : Int), .slice B l cB]) (by simp [results, Try.results56, go_sem, r0, r1]) rfl ⟨ls, l, L4.out, OR.out.plen, ?_, B, cB, rfl, ?_⟩
      · exact ((CYr.out.bc.below).setCell (by simp) _).setCell (by simp) _
      · exact (Own.setOther' (Own.setOther' OR.out (by simp; omega) _) (by simp; omega) _).rd
end Go.Proofs.Ytagcaljpgifppaa
