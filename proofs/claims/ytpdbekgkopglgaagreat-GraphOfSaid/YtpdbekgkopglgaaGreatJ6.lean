/-
  Contracts and lemmas for the statement, joined: Nf, Ng, Nh.
-/
import Derived.Test.YtpdbekgkopglgaaGreatJ5
namespace Go.Proofs.YtpdbekgkopglgaaGreat
set_option linter.unusedVariables false
set_option linter.unusedSimpArgs false
open Go.RowKit Go.Sort
attribute [local go_sem ↓] Go.wp_at_zero Go.wp_at_succ

set_option maxHeartbeats 4000000 in
theorem length_any (A : Option Addr) (n c : Nat) (l : List Nat) (w : World) (hn : n ≤ 1000000) (h : MagAt w A n c l) (ht : Trm l) (h0 : 0 < n) :
    Calls Tryz.prog 74 #[.slice A n c] w fun e w' => ∃ t : Nat, e = .returned (.int .i64 ((32 * (n - 1) + t : Nat) : Int)) ∧ 0 < t ∧ t ≤ 32 ∧ 2 ^ (t - 1) ≤ l.getD (n - 1) 0 ∧ l.getD (n - 1) 0 < 2 ^ t ∧ w = w' := by
  have HL := Lib.hid h.len
  obtain ⟨ad, rfl, hkl, c0⟩ := h.1.us_at (by omega : n - 1 < n)
  have hx0 := ht.top (by rw [HL.out]; exact h0)
  rw [HL.out] at hx0
  have hx := h.2.2.at (n - 1)
  clear h ht hkl
  generalize l.getD (n - 1) 0 = x at *
  have hi1 : ((n : Int) - 1).toNat = n - 1 := by omega
  have hm0 : (0 : Int) ≤ (n : Int) - 1 := by omega
  have hm1 : (n : Int) - 1 < (n : Int) := by omega
  have hn0 : ¬ (n : Int) = 0 := by omega
  go_enter Tryz.func74, Tryz.ntmps74
  go_wp2_with fail
  go_loopg [3, 4] 33 (fun g o xs wr => ∃ t y : Nat, o = .int .i64 (t : Int) ∧ xs = .int .u32 (y : Int) ∧ y = x / 2 ^ t ∧ y < 4294967296 ∧ (0 < t → 0 < x / 2 ^ (t - 1)) ∧ t + g = 33 ∧ t ≤ 32 ∧ w = wr)
  case atStart => exact ⟨0, x, rfl, rfl, by simp, hx, fun h => by omega, rfl, by omega, rfl⟩
  case round =>
    obtain ⟨t, y, rfl, rfl, hy, hyb, hlow, hg, ht, rfl⟩ := hrel
    by_cases hy0 : y = 0
    · subst hy0
      have P : Hid (0 < t ∧ 2 ^ (t - 1) ≤ x ∧ x < 2 ^ t) := Lib.hid (by
        have h2 : x < 2 ^ t := by
          have := (Nat.div_eq_zero_iff_lt (Nat.pow_pos (by omega : 0 < 2))).1 hy.symm
          exact this
        have ht0 : 0 < t := by
          rcases Nat.eq_zero_or_pos t with h | h
          · subst h; simp at h2; omega
          · exact h
        refine ⟨ht0, ?_, h2⟩
        have h3 := hlow ht0
        rcases Nat.lt_or_ge x (2 ^ (t - 1)) with h | h
        · rw [Nat.div_eq_of_lt h] at h3; omega
        · exact h)
      clear hy hlow
      have E : Hid ((32 * ((n : Int) - 1) + (t : Int)) = ((32 * (n - 1) + t : Nat) : Int)) := Lib.hid (by omega)
      go_wp2_with fail
      go_ret
      exact ⟨t, by rw [← E.out]; rfl, P.out.1, ht, P.out.2.1, P.out.2.2, rfl⟩
    · have hyp : (0 : Int) < (y : Int) := by omega
      have N1 : Hid (y / 2 = x / 2 ^ (t + 1)) := Lib.hid (by rw [hy, Nat.div_div_eq_div_mul, Nat.pow_succ])
      have N2 : Hid (0 < x / 2 ^ (t + 1 - 1)) := Lib.hid (by rw [Nat.add_sub_cancel, ← hy]; omega)
      have N3 : t + 1 ≤ 32 := by
        rcases Nat.lt_or_ge t 32 with h | h
        · omega
        · obtain rfl : t = 32 := by omega
          rw [Nat.div_eq_of_lt (by omega)] at hy
          omega
      clear hy hlow
      have e2 : (((y / 2 : Nat)) : Int) = (y : Int) / 2 := by omega
      have E2 := Lib.hid e2
      clear e2
      go_wp2_with fail
      go_roundg (33 - (t + 1))
      case measure => omega
      case rel => exact ⟨t + 1, y / 2, by go_num, by rw [E2.out], N1.out, by omega, fun _ => N2.out, by omega, N3, rfl⟩
theorem pow_split {s : Nat} (hs : s < 32) : 2 ^ s * 2 ^ (32 - s) = 4294967296 := by
  rw [← Nat.pow_add, show s + (32 - s) = 32 by omega]
theorem shl_lt {a s : Nat} (ha : a < 4294967296) (hs : s < 32) : a * 2 ^ s < 18446744073709551616 ∧ a * 2 ^ s / 4294967296 < 2 ^ s := by
  have h1 : a * 2 ^ s < 4294967296 * 2 ^ s := Nat.mul_lt_mul_of_pos_right ha (Nat.pow_pos (by omega))
  have h2 : 2 ^ s ≤ 2 ^ 31 := Nat.pow_le_pow_right (by omega) (by omega)
  refine ⟨by omega, ?_⟩
  rw [Nat.div_lt_iff_lt_mul (by omega)]
  exact Nat.lt_of_lt_of_eq h1 (Nat.mul_comm _ _)
theorem or_shl {o a s : Nat} (ho : o < 2 ^ s) (hs : s < 32) : o ||| (a * 2 ^ s % 4294967296) = o + a * 2 ^ s % 4294967296 ∧ o + a * 2 ^ s % 4294967296 < 4294967296 := by
  have hp := pow_split hs
  have e : a * 2 ^ s % 4294967296 = 2 ^ s * (a % 2 ^ (32 - s)) := by
    rw [← hp, Nat.mul_comm a, Nat.mul_mod_mul_left]
  have hlt : a % 2 ^ (32 - s) < 2 ^ (32 - s) := Nat.mod_lt _ (Nat.pow_pos (by omega))
  have h2 : 2 ^ s * (a % 2 ^ (32 - s) + 1) ≤ 2 ^ s * 2 ^ (32 - s) := Nat.mul_le_mul_left _ hlt
  rw [hp, Nat.mul_add, Nat.mul_one] at h2
  rw [e]
  have h3 := Nat.two_pow_add_eq_or_of_lt ho (a % 2 ^ (32 - s))
  rw [Nat.or_comm, ← h3]
  omega
theorem shift_step {N N1 N2 va P a o s lo hi X : Nat} (hI : N = va * 2 ^ s) (h1 : N1 + P * o = N + P * (o + lo)) (h2 : N2 + P * 4294967296 * 0 = N1 + P * 4294967296 * hi) (hX : lo + 4294967296 * hi = a * 2 ^ s) :
    N2 = (va + P * a) * 2 ^ s := by
  have h : P * (lo + 4294967296 * hi) = P * (a * 2 ^ s) := by rw [hX]
  rw [Nat.mul_add, ← Nat.mul_assoc, ← Nat.mul_assoc] at h
  rw [Nat.add_mul]
  rw [Nat.mul_add] at h1
  rw [← hI]
  omega
def ShPost (w : World) (n N : Nat) (e : Ending) (w' : World) : Prop :=
  Below w.heap.size w w' ∧ ∃ q, e = .returned (.slice (some ⟨w.heap.size, 0, none⟩) (n + 1) (n + 1)) ∧ Own w' w.heap.size 108 1 (some ⟨w.heap.size, 0, none⟩) (n + 1) (n + 1) (us q) ∧ U32 q ∧ q.length = n + 1 ∧ nv q = N
set_option maxRecDepth 100000 in
set_option maxHeartbeats 8000000 in
theorem shifted_any (A : Option Addr) (n c : Nat) (l : List Nat) (s : Nat) (w : World) (hn : n ≤ 500000) (hs : s < 32) (h : MagAt w A n c l) :
    Calls Tryz.prog 75 #[.slice A n c, .int .i64 (s : Int)] w (ShPost w n (nv l * 2 ^ s)) := by
  have HL := Lib.hid h.len
  have H1 := Lib.hid h.1
  have UL := Lib.hid h.2.2
  clear h
  have hmk := run_make_row' (P := Tryz.prog) 48 108 (.int .u32 0) 4 Tryz.underlying48 info_u32 rfl .i64 .i64 (n + 1) (by omega) (by omega)
  simp only [show ((n + 1 : Nat) : Int) = (n : Int) + 1 from rfl] at hmk
  have M0 : Hid (Own (w.alloc (.cells (madeCells #[.int .u32 0] (n + 1)) 108)) w.heap.size 108 1 (some ⟨w.heap.size, 0, none⟩) (n + 1) (n + 1) (us (List.replicate (n + 1) 0))) := Lib.hid (own_madeU rfl (n + 1) (by unfold maxLen; omega) (Nat.le_refl _))
  go_enter Tryz.func75, Tryz.ntmps75
  go_wp2_with fail
  go_loopg [6] n (fun g i wr => ∃ (k : Nat) (q : List Nat), k ≤ n ∧ n - k ≤ g ∧ i = .int .i64 (k : Int) ∧ U32 q ∧ q.length = n + 1 ∧ nv q = nv (l.take k) * 2 ^ s ∧ (∀ j, k < j → q.getD j 0 = 0) ∧ q.getD k 0 < 2 ^ s ∧ Own wr w.heap.size 108 1 (some ⟨w.heap.size, 0, none⟩) (n + 1) (n + 1) (us q) ∧ Below w.heap.size w wr)
  case atStart => exact ⟨0, List.replicate (n + 1) 0, Nat.zero_le _, by omega, rfl, U32.zero _, by simp, by rw [nv_replicate]; simp [nv], (fun j hj => by rw [List.getD_eq_getElem?_getD, List.getElem?_replicate]; split <;> rfl), (by rw [List.getD_eq_getElem?_getD, List.getElem?_replicate]; split <;> exact Nat.pow_pos (by omega)), M0.out, (Below.refl _ _).alloc (Nat.le_refl _) _⟩
  case round =>
    clear M0
    obtain ⟨k, q, hk, hg, rfl, hq, hql, hqv, hqz, hqt, ho, hb⟩ := hrel
    have HB := Lib.hid hb
    have HO := Lib.hid ho
    have HQ := Lib.hid hq
    have QL := Lib.hid hql
    have QV := Lib.hid hqv
    have QZ := Lib.hid hqz
    have hzr := hb.size
    have kr := Keeps.of_below hb (Nat.le_refl _)
    clear hb ho hq hql hqv hqz
    by_cases hkn : k < n
    · obtain ⟨ad, rfl, hkl, ca⟩ := (H1.out.keep kr).us_at hkn
      have hx := UL.out.at k
      have co := HO.out.cellU (j := k) (by omega)
      have fo : wr.frozen? ⟨w.heap.size, k, none⟩ = false := HO.out.frozen k
      have fo1 : wr.frozen? ⟨w.heap.size, k + 1, none⟩ = false := HO.out.frozen (k + 1)
      have co1 := HO.out.cellU (j := k + 1) (by omega)
      rw [QZ.out (k + 1) (by omega)] at co1
      have ho1 := HQ.out.at k
      have EV : Hid (nv (l.take (k + 1)) = nv (l.take k) + 4294967296 ^ k * l.getD k 0) := Lib.hid (nv_take_succ l k)
      have NS : Hid (∀ v, nv (q.set k v) + 4294967296 ^ k * q.getD k 0 = nv q + 4294967296 ^ k * v) := Lib.hid fun v => nv_set (by rw [QL.out]; omega)
      have NT : Hid (∀ v u, nv ((q.set k v).set (k + 1) u) + 4294967296 ^ k * 4294967296 * 0 = nv (q.set k v) + 4294967296 ^ k * 4294967296 * u) := Lib.hid fun v u => by
        have := nv_set (l := q.set k v) (p := k + 1) (v := u) (by rw [List.length_set, QL.out]; omega)
        rw [getD_set_other (by omega), QZ.out (k + 1) (by omega), Nat.pow_succ] at this
        exact this
      generalize l.getD k 0 = x at *
      generalize hog : q.getD k 0 = o at *
      obtain ⟨hX1, hX2⟩ := shl_lt hx hs
      obtain ⟨hO1, hO2⟩ := or_shl (a := x) hqt hs
      obtain ⟨X, hX⟩ : ∃ X : Nat, X = x * 2 ^ s := ⟨_, rfl⟩
      have eX : (x : Int) * 2 ^ s = (X : Int) := by rw [hX, Int.natCast_mul, Int.natCast_pow]; rfl
      have SS : Hid (∀ N1 N2 lo hi, N1 + 4294967296 ^ k * o = nv q + 4294967296 ^ k * (o + lo) → N2 + 4294967296 ^ k * 4294967296 * 0 = N1 + 4294967296 ^ k * 4294967296 * hi → lo + 4294967296 * hi = X → N2 = nv (l.take (k + 1)) * 2 ^ s) := Lib.hid fun N1 N2 lo hi h1 h2 h3 => by
        rw [EV.out]
        exact shift_step (X := X) QV.out h1 h2 (by rw [h3, hX])
      rw [← hX] at hX1 hX2 hO1 hO2
      have eO : bits .or .u32 (o : Int) ((X : Int) % 4294967296) = ((o + X % 4294967296 : Nat) : Int) := by
        have h := u32_or_nat o (X % 4294967296) ho1 (by omega)
        rw [hO1] at h
        rw [← h]; congr 1
      have VV := Lib.hid (SS.out _ _ (X % 4294967296) (X / 4294967296) (NS.out _) (NT.out (o + X % 4294967296) (X / 4294967296)) (by omega))
      have UQ : Hid (U32 ((q.set k (o + X % 4294967296)).set (k + 1) (X / 4294967296))) := Lib.hid ((HQ.out.set _ hO2).set _ (by omega))
      have LQ : Hid (((q.set k (o + X % 4294967296)).set (k + 1) (X / 4294967296)).length = n + 1) := Lib.hid (by rw [List.length_set, List.length_set]; exact QL.out)
      have ZQ : Hid (∀ j, k + 1 < j → ((q.set k (o + X % 4294967296)).set (k + 1) (X / 4294967296)).getD j 0 = 0) := Lib.hid fun j hj => by
        rw [getD_set_other (by omega), getD_set_other (by omega)]; exact QZ.out j (by omega)
      have TQ : Hid (((q.set k (o + X % 4294967296)).set (k + 1) (X / 4294967296)).getD (k + 1) 0 < 2 ^ s) := Lib.hid (by
        rw [getD_set_same (by rw [List.length_set, QL.out]; omega)]; exact hX2)
      have e7 : ((X / 4294967296 : Nat) : Int) = (X : Int) / 4294967296 := by omega
      have OQ := (HO.out.storeU k (o + X % 4294967296)).storeU (k + 1) (X / 4294967296)
      rw [e7] at OQ
      have OQ := Lib.hid OQ
      have hXi : (X : Int) < 18446744073709551616 := by omega
      have hOi : ((o + X % 4294967296 : Nat) : Int) < 4294967296 := by omega
      clear hkl kr hX NS NT SS EV hO1 hqt hX2 e7 hog
      generalize hW : o + X % 4294967296 = W at *
      clear hW
      go_wp2_with fail
      go_roundg (n - (k + 1))
      case measure => omega
      case rel => exact ⟨k + 1, _, by omega, Nat.le_refl _, by go_num, UQ.out, LQ.out, VV.out, ZQ.out, TQ.out, OQ.out, (HB.out.setCell (by simp) _).setCell (by simp) _⟩
    · obtain rfl : k = n := by omega
      have V : Hid (nv q = nv l * 2 ^ s) := Lib.hid (by have := QV.out; rwa [List.take_of_length_le (by rw [HL.out]; exact Nat.le_refl _)] at this)
      clear kr
      go_wp2_with fail
      go_ret
      exact ⟨HB.out, q, rfl, HO.out, HQ.out, QL.out, V.out⟩
/-- A word of the quotient by 2^s. -/
def bkW (l : List Nat) (s i : Nat) : Nat := (l.getD i 0 + 4294967296 * l.getD (i + 1) 0) / 2 ^ s % 4294967296
def bkL (l : List Nat) (s : Nat) : List Nat := (List.range l.length).map (bkW l s)
theorem bk_step {x y M s : Nat} (hs : s < 32) (hx : x < 4294967296) : (x + 4294967296 * y) / 2 ^ s % 4294967296 + 4294967296 * ((y + 4294967296 * M) / 2 ^ s) = (x + 4294967296 * (y + 4294967296 * M)) / 2 ^ s := by
  have hp := pow_split hs
  have hpos : 0 < 2 ^ s := Nat.pow_pos (by omega)
  generalize h1 : 2 ^ s = p at *
  generalize h2 : 2 ^ (32 - s) = r at *
  clear h1 h2
  -- y = p t + u
  have hy := Nat.div_add_mod y p
  have hu := Nat.mod_lt y hpos
  generalize y / p = t at *
  generalize y % p = u at *
  subst hy
  have e1 : (p * t + u + 4294967296 * M) / p = t + r * M := by
    have : p * t + u + 4294967296 * M = u + p * (t + r * M) := by rw [← hp, Nat.mul_add, Nat.mul_assoc]; omega
    rw [this, Nat.add_mul_div_left _ _ hpos, Nat.div_eq_of_lt hu, Nat.zero_add]
  have e2 : (x + 4294967296 * (p * t + u)) / p = (x + 4294967296 * u) / p + 4294967296 * t := by
    have : x + 4294967296 * (p * t + u) = (x + 4294967296 * u) + p * (4294967296 * t) := by rw [Nat.mul_add, Nat.mul_left_comm]; omega
    rw [this, Nat.add_mul_div_left _ _ hpos]
  have e3 : (x + 4294967296 * (p * t + u + 4294967296 * M)) / p = (x + 4294967296 * u) / p + 4294967296 * (t + r * M) := by
    have h3 : 4294967296 * (4294967296 * M) = p * (4294967296 * (r * M)) := by
      rw [Nat.mul_left_comm p, ← Nat.mul_assoc p, hp]
    have : x + 4294967296 * (p * t + u + 4294967296 * M) = (x + 4294967296 * u) + p * (4294967296 * (t + r * M)) := by
      rw [Nat.mul_add, Nat.mul_add, h3, Nat.mul_add 4294967296 t, Nat.mul_add p, Nat.mul_left_comm 4294967296 p t]; omega
    rw [this, Nat.add_mul_div_left _ _ hpos]
  have hlt : (x + 4294967296 * u) / p < 4294967296 := by
    rw [Nat.div_lt_iff_lt_mul hpos]
    have : 4294967296 * (u + 1) ≤ 4294967296 * p := Nat.mul_le_mul_left _ hu
    omega
  rw [e1, e2, e3, Nat.add_mul_mod_self_left, Nat.mod_eq_of_lt hlt]
theorem bkL_cons (x : Nat) (l : List Nat) (s : Nat) : bkL (x :: l) s = (x + 4294967296 * l.getD 0 0) / 2 ^ s % 4294967296 :: bkL l s := by
  unfold bkL
  rw [List.length_cons, List.range_succ_eq_map, List.map_cons, List.map_map]
  congr 1
theorem bkL_nv {s : Nat} (hs : s < 32) : ∀ {l : List Nat}, U32 l → nv (bkL l s) = nv l / 2 ^ s
  | [], _ => by simp [bkL, nv]
  | x :: l, h => by
    have hx := h x (List.mem_cons_self ..)
    have ih := bkL_nv hs (l := l) (fun y hy => h y (List.mem_cons_of_mem _ hy))
    rw [bkL_cons, nv, ih, nv]
    cases l with
    | nil =>
      have := bk_step (x := x) (y := 0) (M := 0) hs hx
      simpa [nv] using this
    | cons y l =>
      rw [nv, List.getD_cons_zero]
      exact bk_step hs hx
theorem bkL_len (l : List Nat) (s : Nat) : (bkL l s).length = l.length := by simp [bkL]
theorem bkL_of {q l : List Nat} {s : Nat} (hl : q.length = l.length) (h : ∀ j, j < l.length → q.getD j 0 = bkW l s j) : q = bkL l s := by
  apply List.ext_getElem
  · rw [hl, bkL_len]
  · intro i h1 h2
    have := h i (by omega)
    rw [List.getD_eq_getElem?_getD, List.getElem?_eq_getElem h1] at this
    simp [bkL]
    exact this
theorem or_lo {v x : Nat} (hx : x < 4294967296) (hv : v < 4294967296) : bits .or .u64 (x : Int) ((v : Int) * 4294967296) = ((x + 4294967296 * v : Nat) : Int) := by
  have h := u64_or_nat x (v * 4294967296) (by omega) (by omega)
  have e : x ||| v * 4294967296 = x + 4294967296 * v := by
    have := Nat.two_pow_add_eq_or_of_lt (b := x) (i := 32) (by omega) v
    rw [Nat.or_comm, Nat.mul_comm v 4294967296, ← this]; omega
  have h2 : ((v * 4294967296 : Nat) : Int) = (v : Int) * 4294967296 := by omega
  rw [e, h2] at h
  exact h
set_option maxHeartbeats 8000000 in
theorem back_any (A : Option Addr) (n c : Nat) (l : List Nat) (s : Nat) (w : World) (hn : n ≤ 1000000) (hs : s < 32) (h : MagAt w A n c l) :
    Calls Tryz.prog 78 #[.slice A n c, .int .i64 (s : Int)] w fun e w' => MagPost w (nv l / 2 ^ s) e w' ∧ ∃ C k c', e = .returned (.slice C k c') ∧ k ≤ n := by
  have HL := Lib.hid h.len
  have H1 := Lib.hid h.1
  have UL := Lib.hid h.2.2
  clear h
  have hmk := run_make_row' (P := Tryz.prog) 48 108 (.int .u32 0) 4 Tryz.underlying48 info_u32 rfl .i64 .i64 n (by omega) (by omega)
  have M0 : Hid (Own (w.alloc (.cells (madeCells #[.int .u32 0] n) 108)) w.heap.size 108 1 (some ⟨w.heap.size, 0, none⟩) n n (us (List.replicate n 0))) := Lib.hid (own_madeU rfl n (by unfold maxLen; omega) (Nat.le_refl _))
  go_enter Tryz.func78, Tryz.ntmps78
  go_wp2_with fail
  go_loopg [6] n (fun g i wr => ∃ (k : Nat) (q : List Nat), k ≤ n ∧ n - k ≤ g ∧ i = .int .i64 (k : Int) ∧ U32 q ∧ q.length = n ∧ (∀ j, j < k → q.getD j 0 = bkW l s j) ∧ Own wr w.heap.size 108 1 (some ⟨w.heap.size, 0, none⟩) n n (us q) ∧ Below w.heap.size w wr)
  case atStart => exact ⟨0, List.replicate n 0, Nat.zero_le _, by omega, rfl, U32.zero n, by simp, (fun j hj => by omega), M0.out, (Below.refl _ _).alloc (Nat.le_refl _) _⟩
  case round =>
    clear M0
    obtain ⟨k, q, hk, hg, rfl, hq, hql, hqv, ho, hb⟩ := hrel
    have HB := Lib.hid hb
    have HO := Lib.hid ho
    have HQ := Lib.hid hq
    have QL := Lib.hid hql
    have QV := Lib.hid hqv
    have hzr := hb.size
    have kr := Keeps.of_below hb (Nat.le_refl _)
    clear hb ho hq hql hqv
    by_cases hkn : k < n
    · obtain ⟨ad, rfl, hkl, ca⟩ := (H1.out.keep kr).us_at hkn
      have hx := UL.out.at k
      have cq := HO.out.cellU (j := k) hkn
      have fq : wr.frozen? ⟨w.heap.size, k, none⟩ = false := HO.out.frozen k
      have NS : Hid (∀ X, (l.getD k 0 + 4294967296 * l.getD (k + 1) 0) = X → ∀ j, j < k + 1 → (q.set k (X / 2 ^ s % 4294967296)).getD j 0 = bkW l s j) := Lib.hid fun X hX j hj => by
        by_cases e : j = k
        · subst e
          rw [getD_set_same (by rw [QL.out]; exact hkn)]
          unfold bkW; rw [hX]
        · rw [getD_set_other e]; exact QV.out j (by omega)
      by_cases hk1 : k + 1 < n
      · obtain ⟨ad', e', hkl', cb⟩ := (H1.out.keep kr).us_at hk1
        injection e' with e'
        subst e'
        have cb' : wr.cell? ⟨ad.block, ad.off + (k + 1), none⟩ = some (.int .u32 ((l.getD (k + 1) 0 : Nat) : Int)) := by have h9 : ad.add (k + 1) = ⟨ad.block, ad.off + (k + 1), none⟩ := (by unfold Addr.add; simp); rw [h9] at cb; exact cb
        have hy := UL.out.at (k + 1)
        generalize l.getD k 0 = x at *
        generalize l.getD (k + 1) 0 = y at *
        have ho := or_lo hx hy
        obtain ⟨X, hX⟩ : ∃ X : Nat, X = x + 4294967296 * y := ⟨_, rfl⟩
        have N1 := Lib.hid (NS.out X hX.symm)
        have hXb : X < 18446744073709551616 := by omega
        rw [← hX] at ho
        have hk1i : (k : Int) + 1 < (n : Int) := by omega
        clear hX NS hkl hkl' kr
        obtain ⟨Y, hY⟩ : ∃ Y : Nat, Y = X / 2 ^ s := ⟨_, rfl⟩
        have eY : (X : Int) / 2 ^ s = (Y : Int) := by rw [hY, Int.natCast_ediv, Int.natCast_pow]; rfl
        have hYb : Y < 18446744073709551616 := by rw [hY]; exact Nat.lt_of_le_of_lt (Nat.div_le_self _ _) hXb
        have N1 := Lib.hid (by have h9 := N1.out; rw [← hY] at h9; exact h9)
        have S2 := HO.out.storeU k (Y % 4294967296)
        have e3 : ((Y % 4294967296 : Nat) : Int) = (Y : Int) % 4294967296 := by omega
        rw [e3] at S2
        have S2 := Lib.hid S2
        have S3 : Hid (U32 (q.set k (Y % 4294967296))) := Lib.hid (HQ.out.set _ (by omega))
        have S4 : Hid ((q.set k (Y % 4294967296)).length = n) := Lib.hid (by rw [List.length_set]; exact QL.out)
        clear hY e3
        go_wp2_with fail
        go_roundg (n - (k + 1))
        case measure => omega
        case rel => exact ⟨k + 1, q.set k (Y % 4294967296), by omega, Nat.le_refl _, by go_num, S3.out, S4.out, N1.out, S2.out, HB.out.setCell (by simp) _⟩
      · have hy0 : l.getD (k + 1) 0 = 0 := by rw [List.getD_eq_getElem?_getD, List.getElem?_eq_none (by rw [HL.out]; omega)]; rfl
        rw [hy0] at NS
        generalize l.getD k 0 = x at *
        have N1 := Lib.hid (NS.out x (by omega))
        have hk1i : ¬ (k : Int) + 1 < (n : Int) := by omega
        clear NS hkl kr hy0
        have hXb : x < 18446744073709551616 := by omega
        obtain ⟨Y, hY⟩ : ∃ Y : Nat, Y = x / 2 ^ s := ⟨_, rfl⟩
        have eY : (x : Int) / 2 ^ s = (Y : Int) := by rw [hY, Int.natCast_ediv, Int.natCast_pow]; rfl
        have hYb : Y < 18446744073709551616 := by rw [hY]; exact Nat.lt_of_le_of_lt (Nat.div_le_self _ _) hXb
        have N1 := Lib.hid (by have h9 := N1.out; rw [← hY] at h9; exact h9)
        have S2 := HO.out.storeU k (Y % 4294967296)
        have e3 : ((Y % 4294967296 : Nat) : Int) = (Y : Int) % 4294967296 := by omega
        rw [e3] at S2
        have S2 := Lib.hid S2
        have S3 : Hid (U32 (q.set k (Y % 4294967296))) := Lib.hid (HQ.out.set _ (by omega))
        have S4 : Hid ((q.set k (Y % 4294967296)).length = n) := Lib.hid (by rw [List.length_set]; exact QL.out)
        clear hY e3
        go_wp2_with fail
        go_roundg (n - (k + 1))
        case measure => omega
        case rel => exact ⟨k + 1, q.set k (Y % 4294967296), by omega, Nat.le_refl _, by go_num, S3.out, S4.out, N1.out, S2.out, HB.out.setCell (by simp) _⟩
    · obtain rfl : k = n := by omega
      have E : Hid (q = bkL l s) := Lib.hid (bkL_of (by rw [QL.out, HL.out]) (fun j hj => QV.out j (by rw [HL.out] at hj; exact hj)))
      have V : Hid (nv q = nv l / 2 ^ s) := Lib.hid (by rw [E.out]; exact bkL_nv hs UL.out)
      have TL : Hid (tlen q ≤ k) := Lib.hid (by rw [← QL.out]; exact tlen_le q)
      have cT := trim_mag _ k k q wr (by omega) (HO.out.mag HQ.out)
      clear kr
      go_wp2_with fail
      refine Calls.mono cT ?_
      rintro _ _ ⟨rfl, rfl⟩
      go_wp2_with fail
      go_ret
      exact ⟨⟨HB.out, _, _, _, trimN q, rfl, HO.out.trimU rfl, trimN_u32 HQ.out, trimN_trm _, by rw [nv_trim, V.out]⟩, _, _, _, rfl, TL.out⟩
end Go.Proofs.YtpdbekgkopglgaaGreat
namespace Go.Proofs.YtpdbekgkopglgaaGreat
set_option linter.unusedVariables false
set_option linter.unusedSimpArgs false
open Go.RowKit Go.Sort
attribute [local go_sem ↓] Go.wp_at_zero Go.wp_at_succ

theorem nv_two {l : List Nat} {k : Nat} (h : l.length = k + 2) : nv l = nv (l.take k) + 4294967296 ^ k * (l.getD k 0 + 4294967296 * l.getD (k + 1) 0) := by
  have h1 := nv_take_succ l (k + 1)
  have h2 := nv_take_succ l k
  rw [List.take_of_length_le (by omega)] at h1
  rw [h1, h2, Nat.pow_succ, Nat.mul_add, Nat.mul_assoc]; omega
theorem nv_one {l : List Nat} {k : Nat} (h : l.length = k + 1) : nv l = nv (l.take k) + 4294967296 ^ k * l.getD k 0 := by
  have h1 := nv_take_succ l k
  rw [List.take_of_length_le (by omega)] at h1
  exact h1
/-- The estimate of a digit is not too small. -/
theorem est_ge {x y : List Nat} {k T : Nat} (hx : x.length = k + 2) (hy : y.length = k + 1) (ux : U32 x) (uy : U32 y) (ty : Trm y) (hT : T = x.getD k 0 + 4294967296 * x.getD (k + 1) 0) : nv x / nv y ≤ T / y.getD k 0 := by
  have hy0 : 0 < y.getD k 0 := by have := ty.top (by omega); rw [hy, Nat.add_sub_cancel] at this; omega
  have h1 := nv_two hx
  have h2 := nv_one hy
  have h3 := nv_lt (ux.take k)
  rw [List.length_take, hx, Nat.min_eq_left (by omega)] at h3
  rw [← hT] at h1
  have hp : 0 < 4294967296 ^ k := Nat.pow_pos (by omega)
  rw [Nat.le_div_iff_mul_le hy0]
  have hQ : nv x / nv y * nv y ≤ nv x := Nat.div_mul_le_self _ _
  generalize nv x / nv y = Q at *
  have h4 : Q * (4294967296 ^ k * y.getD k 0) ≤ Q * nv y := Nat.mul_le_mul_left _ (by omega)
  have h5 : 4294967296 ^ k * (Q * y.getD k 0) < 4294967296 ^ k * (T + 1) := by
    rw [Nat.mul_left_comm, Nat.mul_add]; omega
  have := Nat.lt_of_mul_lt_mul_left h5
  omega
def DigPost (w : World) (n : Nat) (N Y : Nat) (e : Ending) (w' : World) : Prop :=
  Below w.heap.size w w' ∧ ∃ q : Nat, ∃ C k c p, e = .returned (.tuple #[.int .u32 (q : Int), .slice C k c]) ∧ q < 4294967296 ∧ Own w' w.heap.size 108 1 C k c (us p) ∧ U32 p ∧ Trm p ∧ nv p = q * Y ∧ q = N / Y ∧ k ≤ n + 1
set_option maxRecDepth 100000 in
set_option maxHeartbeats 8000000 in
theorem digit_any (A B : Option Addr) (k c d : Nat) (x y : List Nat) (w : World) (hn : k ≤ 100000) (hx : MagAt w A (k + 2) c x) (hy : MagAt w B (k + 1) d y) (ty : Trm y) (hlt : nv x < 4294967296 * nv y) :
    Calls Tryz.prog 76 #[.slice A (k + 2) c, .slice B (k + 1) d] w (DigPost w (k + 1) (nv x) (nv y)) := by
  have LX := Lib.hid hx.len
  have LY := Lib.hid hy.len
  have H1 := Lib.hid hx
  have H2 := Lib.hid hy
  have TY := Lib.hid ty
  have UX := Lib.hid hx.2.2
  have UY := Lib.hid hy.2.2
  have YP : Hid (0 < nv y) := Lib.hid (ty.pos (by rw [LY.out]; omega))
  have QB : Hid (nv x / nv y < 4294967296) := Lib.hid (by rw [Nat.div_lt_iff_lt_mul YP.out]; exact hlt)
  have EG := Lib.hid (est_ge (k := k) LX.out LY.out UX.out UY.out TY.out rfl)
  have TX := Lib.hid (nv_trim x)
  obtain ⟨ad, rfl, hl1, c1⟩ := hx.1.us_at (by omega : k + 1 < k + 2)
  obtain ⟨ad', e', hl0, c0⟩ := hx.1.us_at (by omega : k < k + 2)
  injection e' with e'
  subst e'
  obtain ⟨ae, rfl, hl2, c2⟩ := hy.1.us_at (by omega : k < k + 1)
  have c1' : w.cell? ⟨ad.block, ad.off + (k + 1), none⟩ = some (.int .u32 ((x.getD (k + 1) 0 : Nat) : Int)) := by have h9 : ad.add (k + 1) = ⟨ad.block, ad.off + (k + 1), none⟩ := (by unfold Addr.add; simp); rw [h9] at c1; exact c1
  have hy0 : 0 < y.getD k 0 := by have := ty.top (by rw [LY.out]; omega); rw [LY.out, Nat.add_sub_cancel] at this; omega
  have b0 := UX.out.at k
  have b1 := UX.out.at (k + 1)
  have b2 := UY.out.at k
  clear hx hy ty hlt hl0 hl1 hl2 c1
  generalize x.getD k 0 = x0 at *
  generalize x.getD (k + 1) 0 = x1 at *
  generalize y.getD k 0 = y0 at *
  have ho := or_hi b0 b1
  obtain ⟨T, hT⟩ : ∃ T : Nat, T = x0 + 4294967296 * x1 := ⟨_, rfl⟩
  rw [← hT] at ho EG
  have hTb : T < 18446744073709551616 := by omega
  obtain ⟨q0, hq0⟩ : ∃ q : Nat, q = T / y0 := ⟨_, rfl⟩
  have eq0 : (T : Int) / (y0 : Int) = (q0 : Int) := by rw [hq0, Int.natCast_ediv]
  rw [← hq0] at EG
  have hq0b : q0 < 18446744073709551616 := by rw [hq0]; exact Nat.lt_of_le_of_lt (Nat.div_le_self _ _) hTb
  have hk1 : ((k : Int) + 1 - 1) = (k : Int) := by omega
  have g0 := grown_cell c0
  have g1 := grown_cell c1'
  have g2 := grown_cell c2
  clear hT hq0
  go_enter Tryz.func76, Tryz.ntmps76
  go_wp2_with fail
  refine wp_region_q (by kernel_rfl) (by kernel_rfl) ?_
  repeat (go_big_quiet_step (fail))
  refine wpQuiet_nil ?_
  intro wq hgq
  have HB := Lib.hid hgq
  have hzq := hgq.size
  have kq := Keeps.of_below hgq (Nat.le_refl _)
  clear hgq g0 g1 g2 c0 c1' c2
  by_cases hcap : q0 < 4294967296
  · have hd1 : ¬ (4294967295 : Int) < (q0 : Int) := by omega
    have MQ : Hid (MagAt (wq.alloc (.cells #[.int .u32 (q0 : Int)] 108)) (some ⟨wq.heap.size, 0, none⟩) 1 1 [q0]) := Lib.hid ⟨rd_new wq 1 1 _ _ rfl, Nat.le_refl _, fun z hz => by rw [List.mem_singleton.1 hz]; omega⟩
    have EG2 : Hid (nv x / nv y ≤ q0) := Lib.hid (by exact EG.out)
    have cT := times_any (some ae) (some ⟨wq.heap.size, 0, none⟩) (k + 1) d 1 1 y [q0] (wq.alloc (.cells #[.int .u32 (q0 : Int)] 108)) (by omega) (by omega) ((H2.out.keep kq).keep (Keeps.alloc _ _)) MQ.out
    have V1 : Hid (nv y * nv [q0] = q0 * nv y) := Lib.hid (by simp [nv]; exact Nat.mul_comm _ _)
    go_wp2_with fail
    refine Calls.mono cT ?_
    rintro _ w2 ⟨⟨hb2, C2, m2, c2, p2, rfl, hm2, hu2, ht2, hv2⟩, C2', m2', c2', he2, hl2⟩
    have hm2l : m2 ≤ k + 2 := by injection he2 with he2; injection he2 with h1 h2 h3; omega
    clear he2 hl2
    rw [V1.out] at hv2
    have HB2 : Hid (Below w.heap.size w w2) := Lib.hid ((HB.out.alloc hzq _).trans (hb2.mono (by simp; omega)))
    have M2 := Lib.hid (hm2.base_le (base' := w.heap.size) (by simp; omega))
    have U2 := Lib.hid hu2
    have T2 := Lib.hid ht2
    have V2 := Lib.hid hv2
    clear cT hb2 hm2 hu2 ht2 hv2
    go_wp2_with fail
    go_loopg [7, 8] q0 (fun g qv pv wr => ∃ (q : Nat) (C : Option Addr) (m c : Nat) (p : List Nat), q = g ∧ qv = .int .u64 (q : Int) ∧ pv = .slice C m c ∧ q < 4294967296 ∧ m ≤ k + 2 ∧ Own wr w.heap.size 108 1 C m c (us p) ∧ U32 p ∧ Trm p ∧ nv p = q * nv y ∧ nv x / nv y ≤ q ∧ Below w.heap.size w wr)
    case atStart => exact ⟨q0, C2, m2, c2, p2, rfl, rfl, rfl, by omega, hm2l, M2.out, U2.out, T2.out, V2.out, EG2.out, HB2.out⟩
    case round =>
      clear M2 U2 T2 V2 HB2 MQ
      obtain ⟨q, C, m, c9, p, rfl, rfl, rfl, hq, hmk, hmp, hup, htp, hvp, hge, hb⟩ := hrel
      have HBr := Lib.hid hb
      have MO := Lib.hid hmp
      have MP := Lib.hid (hmp.mag hup)
      have TP := Lib.hid htp
      have VP := Lib.hid hvp
      have GE := Lib.hid hge
      have hzr := hb.size
      have kr := Keeps.of_below hb (Nat.le_refl _)
      have X1 := H1.out.keep kr
      have Y1 := Lib.hid (H2.out.keep kr)
      clear hb hmp hup htp hvp hge kr
      have cT := trim_mag (some ad) (k + 2) c x wr (by omega) X1
      have cC := compare_any (some ad) C (tlen x) c m c9 (trimN x) p wr (by have := tlen_le x; have := LX.out; omega) (by omega) X1.trim.1 MP.out.1
      have CV : Hid (cmpN (trimN x) p < 0 ↔ nv x < q * nv y) := Lib.hid (by rw [← VP.out, ← nv_trim x]; exact cmpN_nv X1.trim.2.2 MP.out.2.2 (trimN_trm x) TP.out)
      clear X1
      generalize hcv : cmpN (trimN x) p = cv at cC CV
      clear hcv
      by_cases hlt : cv < 0
      · have LT := Lib.hid (CV.out.1 hlt)
        have Q1 : Hid (nv x / nv y + 1 ≤ q) := Lib.hid (by
          have h1 := (Nat.div_lt_iff_lt_mul YP.out).2 LT.out
          exact h1)
        have hq1 : 1 ≤ q := Nat.le_trans (Nat.le_add_left 1 _) Q1.out
        clear CV
        go_wp2_with fail
        refine Calls.mono cT ?_
        rintro _ _ ⟨rfl, rfl⟩
        go_wp2_with fail
        refine Calls.mono cC ?_
        rintro _ w3 ⟨rfl, hb3⟩
        have k3 := Keeps.of_below hb3 (Nat.le_refl _)
        have HB3 := Lib.hid (HBr.out.trans (hb3.mono hzr))
        have hz3 := HB3.out.size
        have cM := minus_any C (some ae) m c9 (k + 1) d p y w3 (by omega) (by omega) (MP.out.keep k3) (Y1.out.keep k3) TY.out (by rw [VP.out]; exact Nat.le_mul_of_pos_left _ hq1)
        clear cT cC hb3 k3
        go_wp2_with fail
        refine Calls.mono cM ?_
        rintro _ w4 ⟨⟨hb4, C4, m4, c4, p4, rfl, hm4, hu4, ht4, hv4⟩, C4', m4', c4', he4, hl4⟩
        have hm4l : m4 ≤ k + 2 := by injection he4 with he4; injection he4 with h1 h2 h3; omega
        clear he4 hl4
        have V4 : Hid (nv p4 = (q - 1) * nv y) := Lib.hid (by rw [hv4, VP.out, Nat.sub_mul, Nat.one_mul])
        have M4 := Lib.hid (hm4.base_le (base' := w.heap.size) hz3)
        have U4 := Lib.hid hu4
        have T4 := Lib.hid ht4
        have HB4 := Lib.hid (HB3.out.trans (hb4.mono hz3))
        have G4 : Hid (nv x / nv y ≤ q - 1) := Lib.hid (Nat.le_sub_of_add_le Q1.out)
        clear cM hb4 hm4 hu4 ht4 hv4
        go_wp2_with fail
        go_roundg (q - 1)
        case measure => omega
        case rel => exact ⟨q - 1, C4, m4, c4, p4, rfl, by congr 1; omega, rfl, by omega, hm4l, M4.out, U4.out, T4.out, V4.out, G4.out, HB4.out⟩
      · have GT : Hid (q * nv y ≤ nv x) := Lib.hid (by
          rcases Nat.lt_or_ge (nv x) (q * nv y) with h | h
          · exact absurd (CV.out.2 h) hlt
          · exact h)
        have QE : Hid (q = nv x / nv y) := Lib.hid (by
          have h1 : q ≤ nv x / nv y := (Nat.le_div_iff_mul_le YP.out).2 GT.out
          exact Nat.le_antisymm h1 GE.out)
        have ML : Hid (m ≤ k + 1 + 1) := Lib.hid hmk
        clear CV
        go_wp2_with fail
        refine Calls.mono cT ?_
        rintro _ _ ⟨rfl, rfl⟩
        go_wp2_with fail
        refine Calls.mono cC ?_
        rintro _ w3 ⟨rfl, hb3⟩
        have k3 := Keeps.of_below hb3 (Nat.le_refl _)
        have HB3 := Lib.hid (HBr.out.trans (hb3.mono hzr))
        have MP3 := Lib.hid (MO.out.later hb3)
        clear cT cC hb3 k3
        go_wp2_with fail
        exact bodyPost_ret (v := .tuple #[.int .u32 (q : Int), .slice C m c9]) (by simp [results, Tryz.results76, go_sem]) rfl ⟨HB3.out, q, C, m, c9, p, rfl, hq, MP3.out, MP.out.2.2, TP.out, VP.out, QE.out, ML.out⟩
  · have hd1 : (4294967295 : Int) < (q0 : Int) := by omega
    have MQ : Hid (MagAt (wq.alloc (.cells #[.int .u32 (4294967295 : Int)] 108)) (some ⟨wq.heap.size, 0, none⟩) 1 1 [4294967295]) := Lib.hid ⟨rd_new wq 1 1 _ _ rfl, Nat.le_refl _, fun z hz => by rw [List.mem_singleton.1 hz]; omega⟩
    have EG2 : Hid (nv x / nv y ≤ 4294967295) := Lib.hid (by exact Nat.le_of_lt_succ QB.out)
    have cT := times_any (some ae) (some ⟨wq.heap.size, 0, none⟩) (k + 1) d 1 1 y [4294967295] (wq.alloc (.cells #[.int .u32 (4294967295 : Int)] 108)) (by omega) (by omega) ((H2.out.keep kq).keep (Keeps.alloc _ _)) MQ.out
    have V1 : Hid (nv y * nv [4294967295] = 4294967295 * nv y) := Lib.hid (by simp [nv]; exact Nat.mul_comm _ _)
    go_wp2_with fail
    refine Calls.mono cT ?_
    rintro _ w2 ⟨⟨hb2, C2, m2, c2, p2, rfl, hm2, hu2, ht2, hv2⟩, C2', m2', c2', he2, hl2⟩
    have hm2l : m2 ≤ k + 2 := by injection he2 with he2; injection he2 with h1 h2 h3; omega
    clear he2 hl2
    rw [V1.out] at hv2
    have HB2 : Hid (Below w.heap.size w w2) := Lib.hid ((HB.out.alloc hzq _).trans (hb2.mono (by simp; omega)))
    have M2 := Lib.hid (hm2.base_le (base' := w.heap.size) (by simp; omega))
    have U2 := Lib.hid hu2
    have T2 := Lib.hid ht2
    have V2 := Lib.hid hv2
    clear cT hb2 hm2 hu2 ht2 hv2
    go_wp2_with fail
    go_loopg [7, 8] 4294967295 (fun g qv pv wr => ∃ (q : Nat) (C : Option Addr) (m c : Nat) (p : List Nat), q = g ∧ qv = .int .u64 (q : Int) ∧ pv = .slice C m c ∧ q < 4294967296 ∧ m ≤ k + 2 ∧ Own wr w.heap.size 108 1 C m c (us p) ∧ U32 p ∧ Trm p ∧ nv p = q * nv y ∧ nv x / nv y ≤ q ∧ Below w.heap.size w wr)
    case atStart => exact ⟨4294967295, C2, m2, c2, p2, rfl, rfl, rfl, by omega, hm2l, M2.out, U2.out, T2.out, V2.out, EG2.out, HB2.out⟩
    case round =>
      clear M2 U2 T2 V2 HB2 MQ
      obtain ⟨q, C, m, c9, p, rfl, rfl, rfl, hq, hmk, hmp, hup, htp, hvp, hge, hb⟩ := hrel
      have HBr := Lib.hid hb
      have MO := Lib.hid hmp
      have MP := Lib.hid (hmp.mag hup)
      have TP := Lib.hid htp
      have VP := Lib.hid hvp
      have GE := Lib.hid hge
      have hzr := hb.size
      have kr := Keeps.of_below hb (Nat.le_refl _)
      have X1 := H1.out.keep kr
      have Y1 := Lib.hid (H2.out.keep kr)
      clear hb hmp hup htp hvp hge kr
      have cT := trim_mag (some ad) (k + 2) c x wr (by omega) X1
      have cC := compare_any (some ad) C (tlen x) c m c9 (trimN x) p wr (by have := tlen_le x; have := LX.out; omega) (by omega) X1.trim.1 MP.out.1
      have CV : Hid (cmpN (trimN x) p < 0 ↔ nv x < q * nv y) := Lib.hid (by rw [← VP.out, ← nv_trim x]; exact cmpN_nv X1.trim.2.2 MP.out.2.2 (trimN_trm x) TP.out)
      clear X1
      generalize hcv : cmpN (trimN x) p = cv at cC CV
      clear hcv
      by_cases hlt : cv < 0
      · have LT := Lib.hid (CV.out.1 hlt)
        have Q1 : Hid (nv x / nv y + 1 ≤ q) := Lib.hid (by
          have h1 := (Nat.div_lt_iff_lt_mul YP.out).2 LT.out
          exact h1)
        have hq1 : 1 ≤ q := Nat.le_trans (Nat.le_add_left 1 _) Q1.out
        clear CV
        go_wp2_with fail
        refine Calls.mono cT ?_
        rintro _ _ ⟨rfl, rfl⟩
        go_wp2_with fail
        refine Calls.mono cC ?_
        rintro _ w3 ⟨rfl, hb3⟩
        have k3 := Keeps.of_below hb3 (Nat.le_refl _)
        have HB3 := Lib.hid (HBr.out.trans (hb3.mono hzr))
        have hz3 := HB3.out.size
        have cM := minus_any C (some ae) m c9 (k + 1) d p y w3 (by omega) (by omega) (MP.out.keep k3) (Y1.out.keep k3) TY.out (by rw [VP.out]; exact Nat.le_mul_of_pos_left _ hq1)
        clear cT cC hb3 k3
        go_wp2_with fail
        refine Calls.mono cM ?_
        rintro _ w4 ⟨⟨hb4, C4, m4, c4, p4, rfl, hm4, hu4, ht4, hv4⟩, C4', m4', c4', he4, hl4⟩
        have hm4l : m4 ≤ k + 2 := by injection he4 with he4; injection he4 with h1 h2 h3; omega
        clear he4 hl4
        have V4 : Hid (nv p4 = (q - 1) * nv y) := Lib.hid (by rw [hv4, VP.out, Nat.sub_mul, Nat.one_mul])
        have M4 := Lib.hid (hm4.base_le (base' := w.heap.size) hz3)
        have U4 := Lib.hid hu4
        have T4 := Lib.hid ht4
        have HB4 := Lib.hid (HB3.out.trans (hb4.mono hz3))
        have G4 : Hid (nv x / nv y ≤ q - 1) := Lib.hid (Nat.le_sub_of_add_le Q1.out)
        clear cM hb4 hm4 hu4 ht4 hv4
        go_wp2_with fail
        go_roundg (q - 1)
        case measure => omega
        case rel => exact ⟨q - 1, C4, m4, c4, p4, rfl, by congr 1; omega, rfl, by omega, hm4l, M4.out, U4.out, T4.out, V4.out, G4.out, HB4.out⟩
      · have GT : Hid (q * nv y ≤ nv x) := Lib.hid (by
          rcases Nat.lt_or_ge (nv x) (q * nv y) with h | h
          · exact absurd (CV.out.2 h) hlt
          · exact h)
        have QE : Hid (q = nv x / nv y) := Lib.hid (by
          have h1 : q ≤ nv x / nv y := (Nat.le_div_iff_mul_le YP.out).2 GT.out
          exact Nat.le_antisymm h1 GE.out)
        have ML : Hid (m ≤ k + 1 + 1) := Lib.hid hmk
        clear CV
        go_wp2_with fail
        refine Calls.mono cT ?_
        rintro _ _ ⟨rfl, rfl⟩
        go_wp2_with fail
        refine Calls.mono cC ?_
        rintro _ w3 ⟨rfl, hb3⟩
        have k3 := Keeps.of_below hb3 (Nat.le_refl _)
        have HB3 := Lib.hid (HBr.out.trans (hb3.mono hzr))
        have MP3 := Lib.hid (MO.out.later hb3)
        clear cT cC hb3 k3
        go_wp2_with fail
        exact bodyPost_ret (v := .tuple #[.int .u32 (q : Int), .slice C m c9]) (by simp [results, Tryz.results76, go_sem]) rfl ⟨HB3.out, q, C, m, c9, p, rfl, hq, MP3.out, MP.out.2.2, TP.out, VP.out, QE.out, ML.out⟩
end Go.Proofs.YtpdbekgkopglgaaGreat
namespace Go.Proofs.YtpdbekgkopglgaaGreat
set_option linter.unusedVariables false
set_option linter.unusedSimpArgs false

theorem nv_ext : ∀ {a b : List Nat}, (∀ j, a.getD j 0 = b.getD j 0) → nv a = nv b
  | [], b, h => by rw [nv_zero (l := b) (fun j => by rw [← h j]; simp)]; rfl
  | x :: a, [], h => by rw [nv_zero (l := x :: a) (fun j => by rw [h j]; simp)]; rfl
  | x :: a, y :: b, h => by
    have h0 := h 0
    simp only [List.getD_cons_zero] at h0
    rw [nv, nv, h0, nv_ext (a := a) (b := b) (fun j => by have := h (j + 1); simpa using this)]
theorem len_le_of {a b : List Nat} (ub : U32 b) (ta : Trm a) (h : nv a ≤ nv b) : a.length ≤ b.length := by
  rcases Nat.lt_or_ge b.length a.length with h1 | h1
  · have := nv_lt_len ub ta h1; omega
  · exact h1
theorem len_lt_pow {a : List Nat} {m : Nat} (ta : Trm a) (h : nv a < 4294967296 ^ m) : a.length ≤ m := by
  rcases Nat.lt_or_ge m a.length with h1 | h1
  · have h2 := ta.low (by omega)
    have h3 : 4294967296 ^ m ≤ 4294967296 ^ (a.length - 1) := Nat.pow_le_pow_right (by omega) (by omega)
    omega
  · exact h1
/-- The divisor, shifted: its length stays, its first bit is 1. -/
theorem norm_len {b Y : List Nat} {m t s : Nat} (hb : b.length = m + 1) (ub : U32 b) (h1 : 2 ^ (t - 1) ≤ b.getD m 0) (h2 : b.getD m 0 < 2 ^ t) (ht : 0 < t) (ht2 : t ≤ 32) (hs : s = 32 - t) (hv : nv Y = nv b * 2 ^ s) (uY : U32 Y) :
    tlen Y = m + 1 ∧ 2147483648 * 4294967296 ^ m ≤ nv Y := by
  have e1 := nv_one hb
  have e2 := nv_lt (ub.take m)
  rw [List.length_take, hb, Nat.min_eq_left (by omega)] at e2
  have p1 : 2 ^ t * 2 ^ s = 4294967296 := by rw [← Nat.pow_add, show t + s = 32 by omega]
  have p2 : 2 ^ (t - 1) * 2 ^ s = 2147483648 := by rw [← Nat.pow_add, show t - 1 + s = 31 by omega]
  have hi : nv b < 4294967296 ^ m * 2 ^ t := by
    have : 4294967296 ^ m * (b.getD m 0 + 1) ≤ 4294967296 ^ m * 2 ^ t := Nat.mul_le_mul_left _ h2
    rw [Nat.mul_add] at this; omega
  have lo : 4294967296 ^ m * 2 ^ (t - 1) ≤ nv b := by
    have : 4294967296 ^ m * 2 ^ (t - 1) ≤ 4294967296 ^ m * b.getD m 0 := Nat.mul_le_mul_left _ h1
    omega
  have hi2 : nv Y < 4294967296 ^ (m + 1) := by
    have h9 := Nat.mul_lt_mul_of_pos_right hi (Nat.pow_pos (by omega : 0 < 2) : 0 < 2 ^ s)
    rw [Nat.mul_assoc, p1] at h9
    rw [hv, Nat.pow_succ]
    exact h9
  have lo2 : 2147483648 * 4294967296 ^ m ≤ nv Y := by
    rw [hv, ← p2, Nat.mul_comm _ (4294967296 ^ m), ← Nat.mul_assoc]
    exact Nat.mul_le_mul_right _ lo
  refine ⟨?_, lo2⟩
  have l1 := len_lt_pow (a := trimN Y) (m := m + 1) (trimN_trm Y) (by rw [nv_trim]; exact hi2)
  rw [trimN_len] at l1
  rcases Nat.lt_or_ge (tlen Y) (m + 1) with h | h
  · have h3 := nv_lt (trimN_u32 uY)
    rw [nv_trim, trimN_len] at h3
    have h4 : 4294967296 ^ tlen Y ≤ 4294967296 ^ m := Nat.pow_le_pow_right (by omega) (by omega)
    have h5 : 0 < 4294967296 ^ m := Nat.pow_pos (by omega)
    omega
  · omega
/-- At the start: the first part is less than B times the divisor. -/
theorem start_lt {a X y : List Nat} {n m s : Nat} (hX : nv X = nv a * 2 ^ s) (ua : U32 a) (hl : a.length = n) (hXl : X.length = n + 1) (hs : s < 32) (hm : m + 1 ≤ n) (hy : 2147483648 * 4294967296 ^ m ≤ nv y) :
    nv (X.drop (n - (m + 1))) < 4294967296 * nv y := by
  have h1 := nv_take_drop X (n - (m + 1)) (by omega)
  have h2 := nv_lt ua
  rw [hl] at h2
  have h3 : nv X < 4294967296 ^ n * 2 ^ s := by rw [hX]; exact Nat.mul_lt_mul_of_pos_right h2 (Nat.pow_pos (by omega))
  have h4 : 2 ^ s ≤ 2147483648 := Nat.le_trans (Nat.pow_le_pow_right (by omega) (by omega : s ≤ 31)) (by omega)
  have h5 : 4294967296 ^ n = 4294967296 ^ (n - (m + 1)) * 4294967296 ^ (m + 1) := by rw [← Nat.pow_add]; congr 1; omega
  have h6 : 4294967296 ^ (n - (m + 1)) * nv (X.drop (n - (m + 1))) < 4294967296 ^ (n - (m + 1)) * (4294967296 ^ (m + 1) * 2 ^ s) := by
    rw [← Nat.mul_assoc, ← h5]; omega
  have h7 := Nat.lt_of_mul_lt_mul_left h6
  have h8 : 4294967296 ^ (m + 1) * 2 ^ s ≤ 4294967296 ^ (m + 1) * 2147483648 := Nat.mul_le_mul_left _ h4
  have h9 : 4294967296 ^ (m + 1) * 2147483648 = 4294967296 * (2147483648 * 4294967296 ^ m) := by rw [Nat.pow_succ]; omega
  have h10 : 4294967296 * (2147483648 * 4294967296 ^ m) ≤ 4294967296 * nv y := Nat.mul_le_mul_left _ hy
  omega
/-- The words above the part are 0. -/
theorem part_all {X y : List Nat} {i m : Nat} (hy : y.length = m + 1) (uy : U32 y) (hlt : nv (X.drop i) < 4294967296 * nv y) (hi : i + (m + 2) ≤ X.length) :
    nv ((X.drop i).take (m + 2)) = nv (X.drop i) ∧ ∀ j, i + (m + 2) ≤ j → X.getD j 0 = 0 := by
  have h1 := nv_take_drop (X.drop i) (m + 2) (by rw [List.length_drop]; omega)
  have h2 := nv_lt uy
  rw [hy] at h2
  have h3 : 4294967296 * nv y < 4294967296 ^ (m + 2) := by rw [show m + 2 = (m + 1) + 1 by omega, Nat.pow_succ]; omega
  have h4 : nv ((X.drop i).drop (m + 2)) = 0 := by
    rcases Nat.eq_zero_or_pos (nv ((X.drop i).drop (m + 2))) with h | h
    · exact h
    · have : 4294967296 ^ (m + 2) * 1 ≤ 4294967296 ^ (m + 2) * nv ((X.drop i).drop (m + 2)) := Nat.mul_le_mul_left _ h
      omega
  rw [h4, Nat.mul_zero, Nat.add_zero] at h1
  refine ⟨h1.symm, fun j hj => ?_⟩
  have h5 : tlen ((X.drop i).drop (m + 2)) = 0 := by
    have := (trimN_trm ((X.drop i).drop (m + 2))).zero (by rw [nv_trim]; exact h4)
    have h6 := trimN_len ((X.drop i).drop (m + 2))
    rw [this] at h6
    exact h6.symm
  have h6 := tlen_out (l := (X.drop i).drop (m + 2)) (j := j - (i + (m + 2))) (by omega)
  rw [getD_dropN, getD_dropN] at h6
  rw [show i + (m + 2 + (j - (i + (m + 2)))) = j by omega] at h6
  exact h6
/-- Behind the store of the rest d into the part. -/
theorem part_put {X X' d y : List Nat} {i m : Nat} (h1 : ∀ j, j < m + 2 → X'.getD (i + j) 0 = d.getD j 0) (h2 : ∀ j, i + (m + 2) ≤ j → X'.getD j 0 = 0) (hd : d.length ≤ m + 2) : nv (X'.drop i) = nv d :=
  nv_ext fun j => by
    rw [getD_dropN]
    rcases Nat.lt_or_ge j (m + 2) with h | h
    · exact h1 j h
    · rw [h2 _ (by omega), List.getD_eq_getElem?_getD, List.getElem?_eq_none (by omega)]; rfl
theorem next_lt {X y : List Nat} {i : Nat} (uX : U32 X) (hi : i < X.length) (h : nv (X.drop (i + 1)) < nv y) : nv (X.drop i) < 4294967296 * nv y := by
  have hx := uX.at i
  have h3 : X.drop i = X.getD i 0 :: X.drop (i + 1) := by
    rw [List.drop_eq_getElem_cons hi, List.getD_eq_getElem?_getD, List.getElem?_eq_getElem hi]; rfl
  rw [h3, nv]
  have : 4294967296 * (nv (X.drop (i + 1)) + 1) ≤ 4294967296 * nv y := Nat.mul_le_mul_left _ h
  omega
theorem back_lt {X b : List Nat} {s Y : Nat} (h : nv X < Y) (hY : Y = nv b * 2 ^ s) : nv X / 2 ^ s < nv b := by
  rw [Nat.div_lt_iff_lt_mul (Nat.pow_pos (by omega)), ← hY]; exact h
theorem mod_lt_of {N Y q P : Nat} (hY : 0 < Y) (hP : P = q * Y) (hq : q = N / Y) : P ≤ N ∧ N - P < Y := by
  subst hP hq
  have h1 := Nat.div_mul_le_self N Y
  have h2 := Nat.lt_div_mul_add hY (a := N)
  omega
end Go.Proofs.YtpdbekgkopglgaaGreat
