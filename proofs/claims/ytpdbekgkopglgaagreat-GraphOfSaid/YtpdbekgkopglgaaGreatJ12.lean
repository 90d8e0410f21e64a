/-
  Contracts and lemmas for the statement, joined: Va, Vd, Vf, Ve, Vg.
-/
import Derived.Test.YtpdbekgkopglgaaGreatJ4
import Derived.Test.YtpdbekgkopglgaaGreatJ11
namespace Go.Proofs.YtpdbekgkopglgaaGreat
set_option linter.unusedVariables false
set_option linter.unusedSimpArgs false
open Go.RowKit Go.Sort
attribute [local go_sem ↓] Go.wp_at_zero Go.wp_at_succ

def BlPost (w : World) (e : Ending) (w' : World) : Prop := ∃ b, e = .returned (.bool b) ∧ Below w.heap.size w w'
theorem blPost_ret {w w' : World} {b : Bool} (h : Below w.heap.size w w') : BlPost w (.returned (.bool b)) w' := ⟨b, rfl, h⟩
theorem has26_any (n i : Int) (w : World) : Calls Tryz.prog 18 #[.int .i64 n, .int .i64 i] w fun e w' => e = .returned (.bool (decide (0 ≤ i) && decide (i < n))) ∧ w = w' := by
  by_cases h1 : 0 ≤ i
  · by_cases h2 : i < n
    · have E : Hid ((decide (0 ≤ i) && decide (i < n)) = true) := Lib.hid (by rw [decide_eq_true h1, decide_eq_true h2]; rfl)
      rw [E.out]
      go_enter Tryz.func18, Tryz.ntmps18
      go_wp2_with fail
      go_ret
      exact ⟨rfl, rfl⟩
    · have E : Hid ((decide (0 ≤ i) && decide (i < n)) = false) := Lib.hid (by rw [decide_eq_true h1, decide_eq_false h2]; rfl)
      rw [E.out]
      go_enter Tryz.func18, Tryz.ntmps18
      go_wp2_with fail
      go_ret
      exact ⟨rfl, rfl⟩
  · have E : Hid ((decide (0 ≤ i) && decide (i < n)) = false) := Lib.hid (by rw [decide_eq_false h1]; rfl)
    rw [E.out]
    go_enter Tryz.func18, Tryz.ntmps18
    go_wp2_with fail
    go_ret
    exact ⟨rfl, rfl⟩
set_option maxHeartbeats 2000000 in
theorem within_any (A : Option Addr) (n c : Nat) (l : List Int) (N : Int) (w : World) (hn : n ≤ 1000000) (h : Rd w 1 A n (ints l)) :
    Calls Tryz.prog 41 #[.slice A n c, .int .i64 N] w (BlPost w) := by
  have H1 := Lib.hid h
  clear h
  go_enter Tryz.func41, Tryz.ntmps41
  go_wp2_with fail
  go_loopg [5] n (fun g iv wr => ∃ k : Nat, k ≤ n ∧ n - k ≤ g ∧ iv = .int .i64 (k : Int) ∧ w = wr)
  case atStart => exact ⟨0, Nat.zero_le _, by omega, rfl, rfl⟩
  case round =>
    obtain ⟨k, hk, hg, rfl, rfl⟩ := hrel
    by_cases hkn : k < n
    · obtain ⟨ad, rfl, -, c0⟩ := H1.out.int_at hkn
      generalize l.getD k 0 = x at c0
      by_cases h1 : x < 0
      · go_wp2_with fail
        go_ret
        exact blPost_ret (Below.refl _ _)
      · by_cases h2 : N ≤ x
        · go_wp2_with fail
          go_ret
          exact blPost_ret (Below.refl _ _)
        · go_wp2_with fail
          go_roundg (n - (k + 1))
          case measure => omega
          case rel => exact ⟨k + 1, by omega, Nat.le_refl _, by go_num, rfl⟩
    · obtain rfl : k = n := by omega
      go_wp2_with fail
      go_ret
      exact blPost_ret (Below.refl _ _)
set_option maxHeartbeats 2000000 in
theorem different_any (A : Option Addr) (n c : Nat) (l : List Int) (w : World) (hn : n ≤ 1000000) (h : Rd w 1 A n (ints l)) :
    Calls Tryz.prog 43 #[.slice A n c] w (BlPost w) := by
  have H1 := Lib.hid h
  clear h
  go_enter Tryz.func43, Tryz.ntmps43
  go_wp2_with fail
  go_loopg [3] n (fun g iv wr => ∃ k : Nat, k ≤ n ∧ n - k ≤ g ∧ iv = .int .i64 (k : Int) ∧ Below w.heap.size w wr)
  case atStart => exact ⟨0, Nat.zero_le _, by omega, rfl, Below.refl _ _⟩
  case round =>
    obtain ⟨k, hk, hg, rfl, hb⟩ := hrel
    have HB := Lib.hid hb
    clear hb
    by_cases hkn : k < n
    · go_wp2_with fail
      go_loopg [4] k (fun g iv wr => ∃ j : Nat, j ≤ k ∧ k - j ≤ g ∧ iv = .int .i64 (j : Int) ∧ Below w.heap.size w wr)
      case atStart => exact ⟨0, Nat.zero_le _, by omega, rfl, HB.out⟩
      case round =>
        clear HB
        obtain ⟨j, hj, hg2, rfl, hb⟩ := hrel
        rename World => wr
        have HB := Lib.hid hb
        have hzr := hb.size
        have kr := Keeps.of_below hb (Nat.le_refl _)
        clear hb
        by_cases hjk : j < k
        · obtain ⟨ad, hA, -, c0⟩ := (H1.out.keep kr).int_at hkn
          subst hA
          obtain ⟨ad', hA', -, c1⟩ := (H1.out.keep kr).int_at (by omega : j < n)
          injection hA' with hA'
          subst hA'
          generalize l.getD k 0 = x at c0
          generalize l.getD j 0 = y at c1
          have k0 := grown_cell c0
          have k1 := grown_cell c1
          have hjn : (j : Int) < (n : Int) := by omega
          clear kr
          by_cases hxy : x = y
          · subst hxy
            go_wp2_with fail
            refine wp_region_q (by kernel_rfl) (by kernel_rfl) ?_
            repeat (go_big_quiet_step (fail))
            refine wpQuiet_nil ?_
            intro wq hgq
            go_wp2_with fail
            go_ret
            exact blPost_ret (HB.out.trans (hgq.mono hzr))
          · have hxd : decide (x = y) = false := decide_eq_false hxy
            have hxb : (x == y) = false := by rw [beq_eq_false_iff_ne]; exact hxy
            go_wp2_with fail
            refine wp_region_q (by kernel_rfl) (by kernel_rfl) ?_
            repeat (go_big_quiet_step (fail))
            refine wpQuiet_nil ?_
            intro wq hgq
            go_wp2_with fail
            go_roundg (k - (j + 1))
            case measure => omega
            case rel => exact ⟨j + 1, by omega, Nat.le_refl _, by go_num, HB.out.trans (hgq.mono hzr)⟩
        · obtain rfl : j = k := by omega
          go_wp2_with fail
          go_roundg (n - (j + 1))
          case measure => omega
          case rel => exact ⟨j + 1, by omega, Nat.le_refl _, by go_num, HB.out⟩
    · obtain rfl : k = n := by omega
      go_wp2_with fail
      go_ret
      exact blPost_ret HB.out
end Go.Proofs.YtpdbekgkopglgaaGreat
namespace Go.Proofs.YtpdbekgkopglgaaGreat
set_option linter.unusedVariables false
set_option linter.unusedSimpArgs false
open Go.RowKit Go.Sort
attribute [local go_sem ↓] Go.wp_at_zero Go.wp_at_succ

def YesNo (w : World) (e : Ending) (w' : World) : Prop := ∃ b, e = .returned (.bool b) ∧ w = w'
theorem letter_any (c : Int) (w : World) : Calls Tryz.prog 97 #[.int .u8 c] w (YesNo w) := by
  by_cases h1 : 97 ≤ c
  · by_cases h2 : c ≤ 122
    · go_enter Tryz.func97, Tryz.ntmps97
      go_wp2_with fail
      go_ret
      exact ⟨_, rfl, rfl⟩
    · by_cases h3 : 65 ≤ c
      · by_cases h4 : c ≤ 90
        · omega
        · go_enter Tryz.func97, Tryz.ntmps97
          go_wp2_with fail
          go_ret
          exact ⟨_, rfl, rfl⟩
      · omega
  · by_cases h3 : 65 ≤ c
    · by_cases h4 : c ≤ 90
      · go_enter Tryz.func97, Tryz.ntmps97
        go_wp2_with fail
        go_ret
        exact ⟨_, rfl, rfl⟩
      · go_enter Tryz.func97, Tryz.ntmps97
        go_wp2_with fail
        go_ret
        exact ⟨_, rfl, rfl⟩
    · go_enter Tryz.func97, Tryz.ntmps97
      go_wp2_with fail
      go_ret
      exact ⟨_, rfl, rfl⟩
theorem digit21_any (c : Int) (w : World) : Calls Tryz.prog 98 #[.int .u8 c] w (YesNo w) := by
  by_cases h1 : 48 ≤ c
  · by_cases h2 : c ≤ 57
    · go_enter Tryz.func98, Tryz.ntmps98
      go_wp2_with fail
      go_ret
      exact ⟨_, rfl, rfl⟩
    · go_enter Tryz.func98, Tryz.ntmps98
      go_wp2_with fail
      go_ret
      exact ⟨_, rfl, rfl⟩
  · go_enter Tryz.func98, Tryz.ntmps98
    go_wp2_with fail
    go_ret
    exact ⟨_, rfl, rfl⟩
set_option maxHeartbeats 2000000 in
theorem word_any (s : ByteArray) (w : World) (hs : s.size ≤ 1000000) :
    Calls Tryz.prog 94 #[.string s, .int .i64 0] w fun e w' => ∃ x : Int, e = .returned (.int .i64 x) ∧ w = w' := by
  obtain ⟨n, hn⟩ : ∃ n, n = s.size := ⟨_, rfl⟩
  by_cases h0 : n = 0
  · have h0' : s.size = 0 := by omega
    go_enter Tryz.func94, Tryz.ntmps94
    go_wp2_with fail
    go_ret
    exact ⟨_, rfl, rfl⟩
  · have h0' : ¬ (s.size : Int) = 0 := by omega
    have h0b : ((0 : Int) == (s.size : Int)) = false := by rw [beq_eq_false_iff_ne]; omega
    have h0p : 0 < s.size := by omega
    go_enter Tryz.func94, Tryz.ntmps94
    go_wp2_with fail
    refine Calls.mono (letter_any _ _) ?_
    rintro _ _ ⟨b, rfl, rfl⟩
    cases b
    · go_wp2_with fail
      go_ret
      exact ⟨_, rfl, rfl⟩
    · go_wp2_with fail
      go_loopg [1] n (fun g av wr => ∃ k : Nat, k ≤ n ∧ n - k ≤ g ∧ av = .int .i64 (k : Int) ∧ w = wr)
      case atStart => exact ⟨0, Nat.zero_le _, by omega, rfl, rfl⟩
      case round =>
        obtain ⟨k, hk, hg, rfl, rfl⟩ := hrel
        by_cases hkn : k < n
        · have hks : k < s.size := by omega
          go_wp2_with fail
          refine Calls.mono (letter_any _ _) ?_
          rintro _ _ ⟨b, rfl, rfl⟩
          cases b
          · go_wp2_with fail
            refine Calls.mono (digit21_any _ _) ?_
            rintro _ _ ⟨b, rfl, rfl⟩
            cases b
            · by_cases h95 : (((s[k]'hks).toNat : Nat) : Int) = 95
              · have h95b : ((((s[k]'hks).toNat : Nat) : Int) == 95) = true := by rw [beq_iff_eq]; exact h95
                go_wp2_with fail
                go_roundg (n - (k + 1))
                case measure => omega
                case rel => exact ⟨k + 1, by omega, Nat.le_refl _, by go_num, rfl⟩
              · have h95b : ((((s[k]'hks).toNat : Nat) : Int) == 95) = false := by rw [beq_eq_false_iff_ne]; exact h95
                go_wp2_with fail
                go_ret
                exact ⟨_, rfl, rfl⟩
            · go_wp2_with fail
              go_roundg (n - (k + 1))
              case measure => omega
              case rel => exact ⟨k + 1, by omega, Nat.le_refl _, by go_num, rfl⟩
          · go_wp2_with fail
            go_roundg (n - (k + 1))
            case measure => omega
            case rel => exact ⟨k + 1, by omega, Nat.le_refl _, by go_num, rfl⟩
        · obtain rfl : k = n := by omega
          have hks : ¬ k < s.size := by omega
          go_wp2_with fail
          go_ret
          exact ⟨_, rfl, rfl⟩
set_option maxHeartbeats 2000000 in
theorem isname_any (s : ByteArray) (w : World) (hs : s.size ≤ 1000000) : Calls Tryz.prog 87 #[.string s] w (YesNo w) := by
  cases he : s.toList.isEmpty
  · by_cases h24 : s.size ≤ 24
    · go_enter Tryz.func87, Tryz.ntmps87
      go_wp2_with fail
      refine Calls.mono (word_any s w hs) ?_
      rintro _ _ ⟨x, rfl, rfl⟩
      go_wp2_with fail
      go_ret
      exact ⟨_, rfl, rfl⟩
    · go_enter Tryz.func87, Tryz.ntmps87
      go_wp2_with fail
      go_ret
      exact ⟨_, rfl, rfl⟩
  · go_enter Tryz.func87, Tryz.ntmps87
    go_wp2_with fail
    go_ret
    exact ⟨_, rfl, rfl⟩
end Go.Proofs.YtpdbekgkopglgaaGreat
namespace Go.Proofs.YtpdbekgkopglgaaGreat
set_option linter.unusedVariables false
set_option linter.unusedSimpArgs false
open Go.RowKit Go.Sort
attribute [local go_sem ↓] Go.wp_at_zero Go.wp_at_succ

/-- The cells of an element at p. -/
def ElAt (w : World) (p : Addr) (cs : Array Value) : Prop := ∀ j x, cs[j]? = some x → w.cell? (p.add j) = some x
theorem add_ne (a : Addr) {j : Nat} (hj : j ≠ 0) : a.add j = ⟨a.block, a.off + j, none⟩ := by unfold Addr.add; simp [hj]
theorem ElAt.zero {w : World} {p : Addr} {cs : Array Value} (h : ElAt w p cs) {x : Value} (hx : cs[0]? = some x) : w.cell? p = some x := h 0 x hx
theorem ElAt.at {w : World} {p : Addr} {cs : Array Value} (h : ElAt w p cs) {j : Nat} (hj : j ≠ 0) {x : Value} (hx : cs[j]? = some x) : w.cell? ⟨p.block, p.off + j, none⟩ = some x := by
  rw [← add_ne p hj]; exact h j x hx
theorem ElAt.keep {w w' : World} {p : Addr} {cs : Array Value} (h : ElAt w p cs) (k : Keeps w w') : ElAt w' p cs := fun j x hx => k _ _ (h j x hx)
/-- A slice of n elements of sz cells, each of which satisfies Pe. -/
def SlAt (w : World) (sz : Nat) (A : Option Addr) (n : Nat) (Pe : Array Value → Prop) : Prop := ∀ k, k < n → ∃ ad cs, A = some ad ∧ cs.size = sz ∧ ElAt w (ad.add (k * sz)) cs ∧ Pe cs
theorem SlAt.keep {w w' : World} {sz : Nat} {A : Option Addr} {n : Nat} {Pe Pe' : Array Value → Prop} (h : SlAt w sz A n Pe) (k : Keeps w w') (hp : ∀ cs, Pe cs → Pe' cs) : SlAt w' sz A n Pe' := fun i hi => by
  obtain ⟨ad, cs, h1, h2, h3, h4⟩ := h i hi
  exact ⟨ad, cs, h1, h2, h3.keep k, hp _ h4⟩
theorem SlAt.none (w : World) (sz : Nat) (A : Option Addr) (Pe : Array Value → Prop) : SlAt w sz A 0 Pe := fun k hk => absurd hk (by omega)
theorem SlAt.more {w : World} {sz : Nat} {A : Option Addr} {i : Nat} {Pe : Array Value → Prop} (h : SlAt w sz A i Pe) {ad : Addr} {cs : Array Value} (h1 : A = some ad) (h2 : cs.size = sz) (h3 : ElAt w (ad.add (i * sz)) cs) (h4 : Pe cs) : SlAt w sz A (i + 1) Pe := fun k hk => by
  rcases Nat.lt_or_ge k i with h5 | h5
  · exact h k h5
  · obtain rfl : k = i := by omega
    exact ⟨ad, cs, h1, h2, h3, h4⟩
/-- The seven cells of an expression. -/
def exprC (op : Int) (sn : Bool) (A : Option Addr) (n c : Nat) (sd : Bool) (B : Option Addr) (m d : Nat) (name : ByteArray) (P : Option Addr) (k cap : Nat) : Array Value := #[.int .i64 op, .bool sn, .slice A n c, .bool sd, .slice B m d, .string name, .slice P k cap]
def ExprAt : Nat → World → Array Value → Prop
  | 0, _, _ => True
  | D + 1, w, cs => ∃ (op : Int) (sn : Bool) (A : Option Addr) (n c : Nat) (a : List Nat) (sd : Bool) (B : Option Addr) (m d : Nat) (b : List Nat) (name : ByteArray) (P : Option Addr) (k cap : Nat), cs = exprC op sn A n c sd B m d name P k cap ∧ MagAt w A n c a ∧ MagAt w B m d b ∧ (name.size ≤ maxLen ∧ n ≤ maxLen ∧ m ≤ maxLen ∧ k ≤ maxLen) ∧ SlAt w 7 P k (ExprAt D w)
/-- An expression of depth below D with short numbers and names. -/
def OkE : Nat → World → Array Value → Prop
  | 0, _, _ => False
  | D + 1, w, cs => ∃ (op : Int) (sn : Bool) (A : Option Addr) (n c : Nat) (a : List Nat) (sd : Bool) (B : Option Addr) (m d : Nat) (b : List Nat) (name : ByteArray) (P : Option Addr) (k cap : Nat), cs = exprC op sn A n c sd B m d name P k cap ∧ MagAt w A n c a ∧ MagAt w B m d b ∧ (name.size ≤ 40 ∧ n ≤ 4 ∧ m ≤ 4 ∧ k ≤ 4) ∧ SlAt w 7 P k (OkE D w)
theorem ExprAt.keep {w w' : World} (k : Keeps w w') : ∀ {D : Nat} {cs : Array Value}, ExprAt D w cs → ExprAt D w' cs
  | 0, _, _ => trivial
  | D + 1, cs, h => by
    obtain ⟨op, sn, A, n, c, a, sd, B, m, d, b, name, P, kk, cap, h1, h2, h3, h4, h5⟩ := h
    exact ⟨op, sn, A, n, c, a, sd, B, m, d, b, name, P, kk, cap, h1, h2.keep k, h3.keep k, h4, h5.keep k (fun cs h => ExprAt.keep k h)⟩
theorem OkE.keep {w w' : World} (k : Keeps w w') : ∀ {D : Nat} {cs : Array Value}, OkE D w cs → OkE D w' cs
  | 0, _, h => h.elim
  | D + 1, cs, h => by
    obtain ⟨op, sn, A, n, c, a, sd, B, m, d, b, name, P, kk, cap, h1, h2, h3, h4, h5⟩ := h
    exact ⟨op, sn, A, n, c, a, sd, B, m, d, b, name, P, kk, cap, h1, h2.keep k, h3.keep k, h4, h5.keep k (fun cs h => OkE.keep k h)⟩
theorem CellsAt.at {W : World} {b : Nat} {cs : Array Value} {t : TypeId} (h : CellsAt W b cs t) {j : Nat} {x : Value} (hx : cs[j]? = some x) : W.cell? ⟨b, j, none⟩ = some x := by rw [h.cell]; exact hx
/-- What size gives. -/
def SizePost (D : Nat) (cs : Array Value) (w : World) (e : Ending) (w' : World) : Prop := Below w.heap.size w w' ∧ ∃ r : Nat, e = .returned (.int .i64 (r : Int)) ∧ 1 ≤ r ∧ r ≤ 1000 * (D + 1) ∧ (r < 1000 → OkE (D + 1) w' cs)
set_option maxRecDepth 100000 in
set_option maxHeartbeats 8000000 in
theorem size_any : ∀ (D dep : Nat) (cs : Array Value) (w : World), dep + D = 61 → ExprAt (D + 1) w cs → Calls Tryz.prog 15 #[.agg cs, .int .i64 (dep : Int)] w (SizePost D cs w) := by
  intro D
  induction D with
  | zero =>
    intro dep cs w hd h
    obtain rfl : dep = 61 := by omega
    obtain ⟨op, sn, A, n, c, a, sd, B, m, d, b, name, P, k, cap, rfl, -, -, -, -⟩ := h
    unfold exprC
    go_enter Tryz.func15, Tryz.ntmps15
    go_wp2_with fail
    go_ret
    exact ⟨(Below.refl _ _).alloc (Nat.le_refl _) _, 1000, rfl, by omega, by omega, fun h => absurd h (by omega)⟩
  | succ D ih =>
    intro dep cs w hd h
    obtain ⟨op, sn, A, n, c, a, sd, B, m, d, b, name, P, k, cap, rfl, hA, hB, ⟨hs, hn, hm, hk⟩, hl⟩ := h
    obtain ⟨cs, hcs⟩ : ∃ cs, cs = exprC op sn A n c sd B m d name P k cap := ⟨_, rfl⟩
    have HC := Lib.hid hcs
    have IH := Lib.hid ih
    unfold exprC
    obtain ⟨W, hW⟩ : ∃ W, W = w.alloc (.cells #[.int .i64 op, .bool sn, .slice A n c, .bool sd, .slice B m d, .string name, .slice P k cap] 63) := ⟨_, rfl⟩
    have b0 : CellsAt W w.heap.size #[.int .i64 op, .bool sn, .slice A n c, .bool sd, .slice B m d, .string name, .slice P k cap] 63 := by rw [hW]; exact CellsAt.new _ _ _
    have BW : Hid (Below w.heap.size w W) := Lib.hid (by rw [hW]; exact (Below.refl _ _).alloc (Nat.le_refl _) _)
    have kW : Keeps w W := by rw [hW]; exact Keeps.alloc _ _
    have MA := Lib.hid (hA.keep kW)
    have MB := Lib.hid (hB.keep kW)
    have HL := Lib.hid (hl.keep kW (fun cs h => ExprAt.keep kW h))
    have B0 := Lib.hid b0
    have e0 := b0.at (j := 0) rfl
    have e1 := b0.at (j := 1) rfl
    have e2 := b0.at (j := 2) rfl
    have e3 := b0.at (j := 3) rfl
    have e4 := b0.at (j := 4) rfl
    have e5 := b0.at (j := 5) rfl
    have e6 := b0.at (j := 6) rfl
    have hWz := b0.lt
    have d60 : ¬ (60 : Int) < (dep : Int) := by omega
    have hz : (0 : Nat) < 1 := by omega
    unfold maxLen at hs hn hm hk
    clear b0 hA hB hl kW ih hcs
    by_cases h1 : 4 < k
    · go_enter Tryz.func15, Tryz.ntmps15
      go_upto_region 1 with fail
      rw [← hW]
      have HW := Lib.hid hW
      clear hW
      go_wp2_with fail
      go_ret
      exact ⟨BW.out, 1000, rfl, by omega, by omega, fun h => absurd h (by omega)⟩
    have h1i : ¬ (4 : Int) < (k : Int) := by omega
    by_cases h2 : 40 < name.size
    · go_enter Tryz.func15, Tryz.ntmps15
      go_upto_region 1 with fail
      rw [← hW]
      have HW := Lib.hid hW
      clear hW
      go_wp2_with fail
      go_ret
      exact ⟨BW.out, 1000, rfl, by omega, by omega, fun h => absurd h (by omega)⟩
    have h2i : ¬ (40 : Int) < (name.size : Int) := by omega
    by_cases h3 : 4 < n
    · go_enter Tryz.func15, Tryz.ntmps15
      go_upto_region 1 with fail
      rw [← hW]
      have HW := Lib.hid hW
      clear hW
      go_wp2_with fail
      go_ret
      exact ⟨BW.out, 1000, rfl, by omega, by omega, fun h => absurd h (by omega)⟩
    have h3i : ¬ (4 : Int) < (n : Int) := by omega
    by_cases h4 : 4 < m
    · go_enter Tryz.func15, Tryz.ntmps15
      go_upto_region 1 with fail
      rw [← hW]
      have HW := Lib.hid hW
      clear hW
      go_wp2_with fail
      go_ret
      exact ⟨BW.out, 1000, rfl, by omega, by omega, fun h => absurd h (by omega)⟩
    have h4i : ¬ (4 : Int) < (m : Int) := by omega
    go_enter Tryz.func15, Tryz.ntmps15
    go_upto_region 1 with fail
    rw [← hW]
    have HW := Lib.hid hW
    clear hW
    go_wp2_with fail
    go_loopg [5, 6] k (fun g nv iv wr => ∃ i r : Nat, nv = .int .i64 (r : Int) ∧ iv = .int .i64 (i : Int) ∧ i + g = k ∧ 1 ≤ r ∧ r ≤ 999 + 1000 * (D + 1) ∧ (r < 1000 → SlAt wr 7 P i (OkE (D + 1) wr)) ∧ Below W.heap.size W wr)
    case atStart => exact ⟨0, 1, rfl, rfl, by omega, by omega, by omega, fun _ => SlAt.none _ _ _ _, Below.refl _ _⟩
    case round =>
      clear e0 e1 e2 e3 e4 e5 e6
      obtain ⟨i, r, rfl, rfl, hig, hr1, hr2, hok, hb⟩ := hrel
      rename World => wr
      have BR := Lib.hid hb
      have HO := Lib.hid hok
      have B1 := Lib.hid (B0.out.below hb hWz)
      have e0 := B1.out.at (j := 0) rfl
      have e6 := B1.out.at (j := 6) rfl
      have BWR := Lib.hid (BW.out.trans (hb.mono (by omega)))
      have KR := Lib.hid (Keeps.of_below hb (Nat.le_refl _))
      clear hb hok
      by_cases h5 : i < k
      · by_cases h6 : r < 1000
        · have h5i : (i : Int) < (k : Int) := by omega
          have h6i : (r : Int) < 1000 := by omega
          obtain ⟨ad, cs1, rfl, hsz, hel, hex⟩ := HL.out i h5
          have hel' := hel.keep KR.out
          have hex' := ExprAt.keep KR.out hex
          have HEL := Lib.hid hel'
          have hex2 := hex'
          obtain ⟨op1, sn1, A1, n1, c1, a1, sd1, B1', m1, d1, b1, name1, P1, k1, cap1, hc1, -, -, -, -⟩ := hex2
          have f0 := hel'.zero (x := .int .i64 op1) (by rw [hc1]; rfl)
          have f1 := hel'.at (j := 1) (by omega) (x := .bool sn1) (by rw [hc1]; rfl)
          have f2 := hel'.at (j := 2) (by omega) (x := .slice A1 n1 c1) (by rw [hc1]; rfl)
          have f3 := hel'.at (j := 3) (by omega) (x := .bool sd1) (by rw [hc1]; rfl)
          have f4 := hel'.at (j := 4) (by omega) (x := .slice B1' m1 d1) (by rw [hc1]; rfl)
          have f5 := hel'.at (j := 5) (by omega) (x := .string name1) (by rw [hc1]; rfl)
          have f6 := hel'.at (j := 6) (by omega) (x := .slice P1 k1 cap1) (by rw [hc1]; rfl)
          have hw : (dep : Int) + 1 = ((dep + 1 : Nat) : Int) := by omega
          have cI := IH.out (dep + 1) cs1 wr (by omega) hex'
          rw [hc1] at cI
          unfold exprC at cI
          rw [← hw] at cI
          have HC1 := Lib.hid hc1
          have hdep : (dep : Int) ≤ 60 := by omega
          clear hel hel' hex hex' hc1 hw
          go_wp2_with fail
          refine Calls.mono cI ?_
          rintro _ w5 ⟨hb5, q, rfl, hq1, hq2, hq3⟩
          have K5 := Lib.hid (Keeps.of_below hb5 (Nat.le_refl _))
          have BR5 := Lib.hid (BR.out.trans (hb5.mono BR.out.size))
          have HQ := Lib.hid hq3
          clear cI hb5 hq3
          have hrb : (r : Int) ≤ 999 + 1000 * ((D : Int) + 1) := by omega
          have hqb : (q : Int) ≤ 1000 * ((D : Int) + 1) := by omega
          have hDb : (D : Int) ≤ 60 := by omega
          go_wp2_with fail
          go_roundg (k - (i + 1))
          case measure => omega
          case rel =>
            refine ⟨i + 1, r + q, by go_num, by go_num, by omega, by omega, by omega, fun hlt => ?_, BR5.out⟩
            exact ((HO.out h6).keep K5.out (fun cs h => OkE.keep K5.out h)).more rfl hsz (HEL.out.keep K5.out) (by rw [HC1.out]; exact HQ.out (by omega))
        · have h6i : ¬ (r : Int) < 1000 := by omega
          have h5i : (i : Int) < (k : Int) := by omega
          go_wp2_with fail
          go_ret
          exact ⟨BWR.out, r, rfl, hr1, by omega, fun h => absurd h h6⟩
      · obtain rfl : i = k := by omega
        go_wp2_with fail
        go_ret
        exact ⟨BWR.out, r, rfl, hr1, by omega, fun h => ⟨op, sn, A, n, c, a, sd, B, m, d, b, name, P, i, cap, rfl, MA.out.keep KR.out, MB.out.keep KR.out, ⟨by omega, by omega, by omega, by omega⟩, HO.out h⟩⟩
end Go.Proofs.YtpdbekgkopglgaaGreat
namespace Go.Proofs.YtpdbekgkopglgaaGreat
set_option linter.unusedVariables false
set_option linter.unusedSimpArgs false
open Go.RowKit Go.Sort
attribute [local go_sem ↓] Go.wp_at_zero Go.wp_at_succ

set_option maxRecDepth 100000 in
set_option maxHeartbeats 8000000 in
theorem shape_of (hM : MulOK) (op : Int) (sn sd : Bool) (A B P : Option Addr) (n c m d k cap : Nat) (a b : List Nat) (name : ByteArray) (w : World) (hn : n ≤ 1000) (hm : m ≤ 1000) (hs : name.size ≤ 1000000) (hk : k ≤ maxLen) (h : RatAt w A n c a B m d b) :
    Calls Tryz.prog 79 #[.agg (exprC op sn A n c sd B m d name P k cap)] w (BoolPost w) := by
  unfold exprC
  obtain ⟨W, hW⟩ : ∃ W, W = w.alloc (.cells #[.int .i64 op, .bool sn, .slice A n c, .bool sd, .slice B m d, .string name, .slice P k cap] 63) := ⟨_, rfl⟩
  have b0 : CellsAt W w.heap.size #[.int .i64 op, .bool sn, .slice A n c, .bool sd, .slice B m d, .string name, .slice P k cap] 63 := by rw [hW]; exact CellsAt.new _ _ _
  have BW : Hid (Below w.heap.size w W) := Lib.hid (by rw [hW]; exact (Below.refl _ _).alloc (Nat.le_refl _) _)
  have R0 : RatAt W A n c a B m d b := by rw [hW]; exact h.keep (Keeps.alloc _ _)
  have B0 := Lib.hid b0
  have e0 := b0.at (j := 0) rfl
  have e1 := b0.at (j := 1) rfl
  have e2 := b0.at (j := 2) rfl
  have e3 := b0.at (j := 3) rfl
  have e4 := b0.at (j := 4) rfl
  have e5 := b0.at (j := 5) rfl
  have e6 := b0.at (j := 6) rfl
  have cD := decimal_of hM sn sd A B n c m d a b W hn hm R0
  have hWz := b0.lt
  unfold ratV at cD
  have hk' : (k : Int) ≤ 9223372036854775807 := by unfold maxLen at hk; omega
  have hn' : (n : Int) ≤ 1000 := by omega
  have hm' : (m : Int) ≤ 1000 := by omega
  clear b0 h R0 hM hk hn hm
  go_enter Tryz.func79, Tryz.ntmps79
  go_upto_region 1 with fail
  rw [← hW]
  have HW := Lib.hid hW
  clear hW
  go_cut [3] (fun zv wx => ∃ z, zv = .bool z ∧ wx = W)
  case first =>
    clear cD
    cases sn
    · cases sd
      · cases h1 : ((n : Int) == 0)
        · go_wp2_with fail
          go_meet
          exact ⟨_, rfl, rfl⟩
        · cases h2 : ((m : Int) == 0)
          · go_wp2_with fail
            go_meet
            exact ⟨_, rfl, rfl⟩
          · go_wp2_with fail
            go_meet
            exact ⟨_, rfl, rfl⟩
      · go_wp2_with fail
        go_meet
        exact ⟨_, rfl, rfl⟩
    · go_wp2_with fail
      go_meet
      exact ⟨_, rfl, rfl⟩
  case rest =>
    obtain ⟨z, rfl, rfl⟩ := hcut
    have CN : Hid (∀ W : World, Calls Tryz.prog 87 #[.string name] W (YesNo W)) := Lib.hid fun W => isname_any name W hs
    by_cases o1 : op = 1
    · subst o1
      go_wp2_with fail
      refine Calls.mono cD ?_
      rintro _ w1 ⟨hb1, s, ok, rfl⟩
      have B1 := Lib.hid (B0.out.below hb1 hWz)
      have BW1 := Lib.hid (BW.out.trans (hb1.mono (by omega)))
      clear cD hb1 e0 e1 e2 e3 e4 e5 e6
      have e5 := B1.out.at (j := 5) rfl
      have e6 := B1.out.at (j := 6) rfl
      cases ok
      · go_wp2_with fail
        go_ret
        exact boolPost_ret BW1.out
      · cases he : name.toList.isEmpty
        · skip
          go_wp2_with fail
          refine Calls.mono (CN.out w1) ?_
          rintro _ _ ⟨v, rfl, rfl⟩
          cases v
          · go_wp2_with fail
            go_ret
            exact boolPost_ret BW1.out
          · cases hk0 : ((k : Int) == 0)
            · go_wp2_with fail
              go_ret
              exact boolPost_ret BW1.out
            · go_wp2_with fail
              go_ret
              exact boolPost_ret BW1.out
        · skip
          cases hk0 : ((k : Int) == 0)
          · go_wp2_with fail
            go_ret
            exact boolPost_ret BW1.out
          · go_wp2_with fail
            go_ret
            exact boolPost_ret BW1.out
    have o1b : (op == 1) = false := by rw [beq_eq_false_iff_ne]; exact o1
    clear cD
    by_cases o2 : op = 2
    · subst o2
      cases z
      · go_wp2_with fail
        go_ret
        exact boolPost_ret BW.out
      · skip
        go_wp2_with fail
        refine Calls.mono (CN.out _) ?_
        rintro _ _ ⟨v, rfl, rfl⟩
        cases v
        · go_wp2_with fail
          go_ret
          exact boolPost_ret BW.out
        · cases hk0 : ((k : Int) == 0)
          · go_wp2_with fail
            go_ret
            exact boolPost_ret BW.out
          · go_wp2_with fail
            go_ret
            exact boolPost_ret BW.out
    have o2b : (op == 2) = false := by rw [beq_eq_false_iff_ne]; exact o2
    by_cases o3 : op = 3
    · subst o3
      cases z
      · go_wp2_with fail
        go_ret
        exact boolPost_ret BW.out
      · cases he : name.toList.isEmpty
        · go_wp2_with fail
          go_ret
          exact boolPost_ret BW.out
        · skip
          cases hk0 : ((k : Int) == 1)
          · go_wp2_with fail
            go_ret
            exact boolPost_ret BW.out
          · go_wp2_with fail
            go_ret
            exact boolPost_ret BW.out
    have o3b : (op == 3) = false := by rw [beq_eq_false_iff_ne]; exact o3
    by_cases o4 : op = 4
    · subst o4
      cases z
      · go_wp2_with fail
        go_ret
        exact boolPost_ret BW.out
      · cases he : name.toList.isEmpty
        · go_wp2_with fail
          go_ret
          exact boolPost_ret BW.out
        · skip
          cases hk0 : ((k : Int) == 2)
          · go_wp2_with fail
            go_ret
            exact boolPost_ret BW.out
          · go_wp2_with fail
            go_ret
            exact boolPost_ret BW.out
    have o4b : (op == 4) = false := by rw [beq_eq_false_iff_ne]; exact o4
    by_cases o5 : op = 5
    · subst o5
      cases z
      · go_wp2_with fail
        go_ret
        exact boolPost_ret BW.out
      · cases he : name.toList.isEmpty
        · go_wp2_with fail
          go_ret
          exact boolPost_ret BW.out
        · skip
          cases hk0 : ((k : Int) == 2)
          · go_wp2_with fail
            go_ret
            exact boolPost_ret BW.out
          · go_wp2_with fail
            go_ret
            exact boolPost_ret BW.out
    have o5b : (op == 5) = false := by rw [beq_eq_false_iff_ne]; exact o5
    by_cases o6 : op = 6
    · subst o6
      cases z
      · go_wp2_with fail
        go_ret
        exact boolPost_ret BW.out
      · cases he : name.toList.isEmpty
        · go_wp2_with fail
          go_ret
          exact boolPost_ret BW.out
        · skip
          cases hk0 : ((k : Int) == 2)
          · go_wp2_with fail
            go_ret
            exact boolPost_ret BW.out
          · go_wp2_with fail
            go_ret
            exact boolPost_ret BW.out
    have o6b : (op == 6) = false := by rw [beq_eq_false_iff_ne]; exact o6
    by_cases o7 : op = 7
    · subst o7
      cases z
      · go_wp2_with fail
        go_ret
        exact boolPost_ret BW.out
      · cases he : name.toList.isEmpty
        · go_wp2_with fail
          go_ret
          exact boolPost_ret BW.out
        · skip
          cases hk0 : ((k : Int) == 2)
          · go_wp2_with fail
            go_ret
            exact boolPost_ret BW.out
          · go_wp2_with fail
            go_ret
            exact boolPost_ret BW.out
    have o7b : (op == 7) = false := by rw [beq_eq_false_iff_ne]; exact o7
    go_wp2_with fail
    go_ret
    exact boolPost_ret BW.out
end Go.Proofs.YtpdbekgkopglgaaGreat
namespace Go.Proofs.YtpdbekgkopglgaaGreat
set_option linter.unusedVariables false
set_option linter.unusedSimpArgs false
open Go.RowKit Go.Sort
attribute [local go_sem ↓] Go.wp_at_zero Go.wp_at_succ

set_option maxRecDepth 100000 in
set_option maxHeartbeats 8000000 in
theorem formed_of (hM : MulOK) : ∀ (D : Nat) (cs : Array Value) (w : World), OkE D w cs → Calls Tryz.prog 57 #[.agg cs] w (BoolPost w) := by
  intro D
  induction D with
  | zero => intro cs w h; exact h.elim
  | succ D ih =>
    intro cs w h
    have IH := Lib.hid ih
    obtain ⟨op, sn, A, n, c, a, sd, B, m, d, b, name, P, k, cap, rfl, hA, hB, ⟨hs, hn, hm, hk⟩, hl⟩ := h
    unfold exprC
    obtain ⟨W, hW⟩ : ∃ W, W = w.alloc (.cells #[.int .i64 op, .bool sn, .slice A n c, .bool sd, .slice B m d, .string name, .slice P k cap] 63) := ⟨_, rfl⟩
    have b0 : CellsAt W w.heap.size #[.int .i64 op, .bool sn, .slice A n c, .bool sd, .slice B m d, .string name, .slice P k cap] 63 := by rw [hW]; exact CellsAt.new _ _ _
    have BW : Hid (Below w.heap.size w W) := Lib.hid (by rw [hW]; exact (Below.refl _ _).alloc (Nat.le_refl _) _)
    have kW : Keeps w W := by rw [hW]; exact Keeps.alloc _ _
    have MA := Lib.hid (hA.keep kW)
    have MB := Lib.hid (hB.keep kW)
    have HL := Lib.hid (hl.keep kW (fun cs h => OkE.keep kW h))
    have B0 := Lib.hid b0
    have e0 := b0.at (j := 0) rfl
    have e1 := b0.at (j := 1) rfl
    have e2 := b0.at (j := 2) rfl
    have e3 := b0.at (j := 3) rfl
    have e4 := b0.at (j := 4) rfl
    have e5 := b0.at (j := 5) rfl
    have e6 := b0.at (j := 6) rfl
    have hWz := b0.lt
    have cS := shape_of hM op sn sd A B P n c m d k cap a b name W (by omega) (by omega) (by omega) (by unfold maxLen; omega) ⟨MA.out, MB.out⟩
    unfold exprC at cS
    clear b0 hA hB hl kW ih hM
    go_enter Tryz.func57, Tryz.ntmps57
    go_upto_region 1 with fail
    rw [← hW]
    have HW := Lib.hid hW
    clear hW
    go_wp2_with fail
    refine Calls.mono cS ?_
    rintro _ w1 ⟨v, rfl, hb1⟩
    have X1 := Lib.hid hb1
    have BW1 := Lib.hid (BW.out.trans (hb1.mono (by omega)))
    clear cS hb1
    cases v
    · go_wp2_with fail
      go_ret
      exact boolPost_ret BW1.out
    · go_wp2_with fail
      go_loopg [3] k (fun g iv wr => ∃ i : Nat, iv = .int .i64 (i : Int) ∧ i + g = k ∧ Below W.heap.size W wr)
      case atStart => exact ⟨0, rfl, by omega, X1.out⟩
      case round =>
        clear e0 e1 e2 e3 e4 e5 e6 X1 BW1
        obtain ⟨i, rfl, hig, hb⟩ := hrel
        rename World => wr
        have BR := Lib.hid hb
        have B1 := Lib.hid (B0.out.below hb hWz)
        have e6 := B1.out.at (j := 6) rfl
        have BWR := Lib.hid (BW.out.trans (hb.mono (by omega)))
        have KR := Lib.hid (Keeps.of_below hb (Nat.le_refl _))
        clear hb
        by_cases h5 : i < k
        · have h5i : (i : Int) < (k : Int) := by omega
          obtain ⟨ad, cs1, rfl, hsz, hel, hex⟩ := HL.out i h5
          have hel' := hel.keep KR.out
          have hex' := OkE.keep KR.out hex
          have hex2 := hex'
          obtain ⟨D', rfl⟩ : ∃ D', D = D' + 1 := by cases D with
            | zero => exact hex2.elim
            | succ D' => exact ⟨D', rfl⟩
          obtain ⟨op1, sn1, A1, n1, c1, a1, sd1, B1', m1, d1, b1, name1, P1, k1, cap1, hc1, -, -, -, -⟩ := hex2
          have f0 := hel'.zero (x := .int .i64 op1) (by rw [hc1]; rfl)
          have f1 := hel'.at (j := 1) (by omega) (x := .bool sn1) (by rw [hc1]; rfl)
          have f2 := hel'.at (j := 2) (by omega) (x := .slice A1 n1 c1) (by rw [hc1]; rfl)
          have f3 := hel'.at (j := 3) (by omega) (x := .bool sd1) (by rw [hc1]; rfl)
          have f4 := hel'.at (j := 4) (by omega) (x := .slice B1' m1 d1) (by rw [hc1]; rfl)
          have f5 := hel'.at (j := 5) (by omega) (x := .string name1) (by rw [hc1]; rfl)
          have f6 := hel'.at (j := 6) (by omega) (x := .slice P1 k1 cap1) (by rw [hc1]; rfl)
          have cI := IH.out cs1 wr hex'
          rw [hc1] at cI
          unfold exprC at cI
          clear hel hel' hex hex' hc1
          go_wp2_with fail
          refine Calls.mono cI ?_
          rintro _ w5 ⟨v, rfl, hb5⟩
          have BR5 := Lib.hid (BR.out.trans (hb5.mono BR.out.size))
          have BWR5 := Lib.hid (BWR.out.trans (hb5.mono BWR.out.size))
          clear cI hb5
          cases v
          · go_wp2_with fail
            go_ret
            exact boolPost_ret BWR5.out
          · go_wp2_with fail
            go_roundg (k - (i + 1))
            case measure => omega
            case rel => exact ⟨i + 1, by go_num, by omega, BR5.out⟩
        · obtain rfl : i = k := by omega
          go_wp2_with fail
          go_ret
          exact boolPost_ret BWR.out
def DepthPost (D : Nat) (w : World) (e : Ending) (w' : World) : Prop := Below w.heap.size w w' ∧ ∃ r : Nat, e = .returned (.int .i64 (r : Int)) ∧ r ≤ D
set_option maxRecDepth 100000 in
set_option maxHeartbeats 8000000 in
theorem depth_any : ∀ (D : Nat) (cs : Array Value) (w : World), D ≤ 1000 → OkE D w cs → Calls Tryz.prog 58 #[.agg cs] w (DepthPost D w) := by
  intro D
  induction D with
  | zero => intro cs w _ h; exact h.elim
  | succ D ih =>
    intro cs w hD h
    have IH : Hid (∀ (cs : Array Value) (w : World), OkE D w cs → Calls Tryz.prog 58 #[.agg cs] w (DepthPost D w)) := Lib.hid fun cs w h => ih cs w (by omega) h
    obtain ⟨op, sn, A, n, c, a, sd, B, m, d, b, name, P, k, cap, rfl, hA, hB, ⟨hs, hn, hm, hk⟩, hl⟩ := h
    unfold exprC
    obtain ⟨W, hW⟩ : ∃ W, W = w.alloc (.cells #[.int .i64 op, .bool sn, .slice A n c, .bool sd, .slice B m d, .string name, .slice P k cap] 63) := ⟨_, rfl⟩
    have b0 : CellsAt W w.heap.size #[.int .i64 op, .bool sn, .slice A n c, .bool sd, .slice B m d, .string name, .slice P k cap] 63 := by rw [hW]; exact CellsAt.new _ _ _
    have BW : Hid (Below w.heap.size w W) := Lib.hid (by rw [hW]; exact (Below.refl _ _).alloc (Nat.le_refl _) _)
    have kW : Keeps w W := by rw [hW]; exact Keeps.alloc _ _
    have MA := Lib.hid (hA.keep kW)
    have MB := Lib.hid (hB.keep kW)
    have HL := Lib.hid (hl.keep kW (fun cs h => OkE.keep kW h))
    have B0 := Lib.hid b0
    have e0 := b0.at (j := 0) rfl
    have e1 := b0.at (j := 1) rfl
    have e2 := b0.at (j := 2) rfl
    have e3 := b0.at (j := 3) rfl
    have e4 := b0.at (j := 4) rfl
    have e5 := b0.at (j := 5) rfl
    have e6 := b0.at (j := 6) rfl
    have hWz := b0.lt
    clear b0 hA hB hl kW ih
    go_enter Tryz.func58, Tryz.ntmps58
    go_upto_region 1 with fail
    rw [← hW]
    have HW := Lib.hid hW
    clear hW
    go_wp2_with fail
    go_loopg [3, 4] k (fun g nv iv wr => ∃ i r : Nat, nv = .int .i64 (r : Int) ∧ iv = .int .i64 (i : Int) ∧ i + g = k ∧ r ≤ D ∧ Below W.heap.size W wr)
    case atStart => exact ⟨0, 0, rfl, rfl, by omega, by omega, Below.refl _ _⟩
    case round =>
      clear e0 e1 e2 e3 e4 e5 e6
      obtain ⟨i, r, rfl, rfl, hig, hr, hb⟩ := hrel
      rename World => wr
      have BR := Lib.hid hb
      have B1 := Lib.hid (B0.out.below hb hWz)
      have e6 := B1.out.at (j := 6) rfl
      have BWR := Lib.hid (BW.out.trans (hb.mono (by omega)))
      have KR := Lib.hid (Keeps.of_below hb (Nat.le_refl _))
      clear hb
      by_cases h5 : i < k
      · have h5i : (i : Int) < (k : Int) := by omega
        obtain ⟨ad, cs1, rfl, hsz, hel, hex⟩ := HL.out i h5
        have hel' := hel.keep KR.out
        have hex' := OkE.keep KR.out hex
        have hex2 := hex'
        obtain ⟨D', rfl⟩ : ∃ D', D = D' + 1 := by cases D with
          | zero => exact hex2.elim
          | succ D' => exact ⟨D', rfl⟩
        obtain ⟨op1, sn1, A1, n1, c1, a1, sd1, B1', m1, d1, b1, name1, P1, k1, cap1, hc1, -, -, -, -⟩ := hex2
        have f0 := hel'.zero (x := .int .i64 op1) (by rw [hc1]; rfl)
        have f1 := hel'.at (j := 1) (by omega) (x := .bool sn1) (by rw [hc1]; rfl)
        have f2 := hel'.at (j := 2) (by omega) (x := .slice A1 n1 c1) (by rw [hc1]; rfl)
        have f3 := hel'.at (j := 3) (by omega) (x := .bool sd1) (by rw [hc1]; rfl)
        have f4 := hel'.at (j := 4) (by omega) (x := .slice B1' m1 d1) (by rw [hc1]; rfl)
        have f5 := hel'.at (j := 5) (by omega) (x := .string name1) (by rw [hc1]; rfl)
        have f6 := hel'.at (j := 6) (by omega) (x := .slice P1 k1 cap1) (by rw [hc1]; rfl)
        have cI := IH.out cs1 wr hex'
        rw [hc1] at cI
        unfold exprC at cI
        clear hel hel' hex hex' hc1
        go_wp2_with fail
        refine Calls.mono cI ?_
        rintro _ w5 ⟨hb5, q, rfl, hq⟩
        have BR5 := Lib.hid (BR.out.trans (hb5.mono BR.out.size))
        clear cI hb5
        rcases Nat.lt_trichotomy r q with h8 | h8 | h8
        · have hmx : max (r : Int) (q : Int) = (q : Int) := by omega
          go_wp2_with fail
          go_roundg (k - (i + 1))
          case measure => omega
          case rel => exact ⟨i + 1, q, rfl, by go_num, by omega, hq, BR5.out⟩
        · subst h8
          have hmx : max (r : Int) (r : Int) = (r : Int) := by omega
          go_wp2_with fail
          go_roundg (k - (i + 1))
          case measure => omega
          case rel => exact ⟨i + 1, r, rfl, by go_num, by omega, hq, BR5.out⟩
        · have hmx : max (r : Int) (q : Int) = (r : Int) := by omega
          have h8i : (q : Int) < (r : Int) := by omega
          go_wp2_with fail
          all_goals
            go_roundg (k - (i + 1))
            case measure => omega
            case rel => exact ⟨i + 1, r, rfl, by go_num, by omega, hr, BR5.out⟩
      · obtain rfl : i = k := by omega
        have hrb : (r : Int) ≤ 1000 := by omega
        go_wp2_with fail
        go_ret
        exact ⟨BWR.out, r + 1, by go_num, by omega⟩
def ErrnoPost (w : World) (e : Ending) (w' : World) : Prop := Below w.heap.size w w' ∧ ∃ r : Int, e = .returned (.int .i64 r)
set_option maxRecDepth 100000 in
set_option maxHeartbeats 8000000 in
theorem valid22_of (hM : MulOK) (D : Nat) (cs : Array Value) (w : World) (hD : D ≤ 1000) (h : OkE D w cs) : Calls Tryz.prog 42 #[.agg cs] w (ErrnoPost w) := by
  obtain ⟨D', rfl⟩ : ∃ D', D = D' + 1 := by cases D with
    | zero => exact h.elim
    | succ D' => exact ⟨D', rfl⟩
  have hk0 := h
  obtain ⟨op, sn, A, n, c, a, sd, B, m, d, b, name, P, k, cap, rfl, hA, hB, ⟨hs, hn, hm, hk⟩, hl⟩ := h
  unfold exprC
  obtain ⟨W, hW⟩ : ∃ W, W = w.alloc (.cells #[.int .i64 op, .bool sn, .slice A n c, .bool sd, .slice B m d, .string name, .slice P k cap] 63) := ⟨_, rfl⟩
  have b0 : CellsAt W w.heap.size #[.int .i64 op, .bool sn, .slice A n c, .bool sd, .slice B m d, .string name, .slice P k cap] 63 := by rw [hW]; exact CellsAt.new _ _ _
  have BW : Hid (Below w.heap.size w W) := Lib.hid (by rw [hW]; exact (Below.refl _ _).alloc (Nat.le_refl _) _)
  have kW : Keeps w W := by rw [hW]; exact Keeps.alloc _ _
  have MA := Lib.hid (hA.keep kW)
  have MB := Lib.hid (hB.keep kW)
  have HL := Lib.hid (hl.keep kW (fun cs h => OkE.keep kW h))
  have B0 := Lib.hid b0
  have e0 := b0.at (j := 0) rfl
  have e1 := b0.at (j := 1) rfl
  have e2 := b0.at (j := 2) rfl
  have e3 := b0.at (j := 3) rfl
  have e4 := b0.at (j := 4) rfl
  have e5 := b0.at (j := 5) rfl
  have e6 := b0.at (j := 6) rfl
  have hWz := b0.lt
  have hok := OkE.keep kW hk0
  have cF := formed_of hM (D' + 1) _ W hok
  have CD : Hid (∀ W', Below W.heap.size W W' → Calls Tryz.prog 58 #[.agg (exprC op sn A n c sd B m d name P k cap)] W' (DepthPost (D' + 1) W')) := Lib.hid fun W' hb => depth_any (D' + 1) _ W' hD (OkE.keep (Keeps.of_below hb (Nat.le_refl _)) hok)
  unfold exprC at cF CD
  clear b0 hA hB hl kW hM hk0 hok
  go_enter Tryz.func42, Tryz.ntmps42
  go_upto_region 1 with fail
  rw [← hW]
  have HW := Lib.hid hW
  clear hW
  go_wp2_with fail
  refine Calls.mono cF ?_
  rintro _ w1 ⟨v, rfl, hb1⟩
  have BW1 := Lib.hid (BW.out.trans (hb1.mono (by omega)))
  have B1 := Lib.hid (B0.out.below hb1 hWz)
  have cD := CD.out w1 hb1
  clear cF hb1 CD e0 e1 e2 e3 e4 e5 e6
  have e0 := B1.out.at (j := 0) rfl
  have e1 := B1.out.at (j := 1) rfl
  have e2 := B1.out.at (j := 2) rfl
  have e3 := B1.out.at (j := 3) rfl
  have e4 := B1.out.at (j := 4) rfl
  have e5 := B1.out.at (j := 5) rfl
  have e6 := B1.out.at (j := 6) rfl
  cases v
  · go_wp2_with fail
    go_ret
    exact ⟨BW1.out, _, rfl⟩
  · go_wp2_with fail
    refine Calls.mono cD ?_
    rintro _ w2 ⟨hb2, r, rfl, hr⟩
    have BW2 := Lib.hid (BW1.out.trans (hb2.mono BW1.out.size))
    clear cD hb2 e0 e1 e2 e3 e4 e5 e6
    by_cases h40 : 40 < r
    · have h40i : (40 : Int) < (r : Int) := by omega
      go_wp2_with fail
      go_ret
      exact ⟨BW2.out, _, rfl⟩
    · have h40i : ¬ (40 : Int) < (r : Int) := by omega
      go_wp2_with fail
      go_ret
      exact ⟨BW2.out, _, rfl⟩
end Go.Proofs.YtpdbekgkopglgaaGreat
