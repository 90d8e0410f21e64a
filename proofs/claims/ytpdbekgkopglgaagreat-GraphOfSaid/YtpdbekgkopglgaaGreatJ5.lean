/-
  Contracts and lemmas for the statement, joined: Nc, Nd, Ne.
-/
import Derived.Test.YtpdbekgkopglgaaGreatJ4
import Derived.Deep.OwnRows
namespace Go.Proofs.YtpdbekgkopglgaaGreat
set_option linter.unusedVariables false
set_option linter.unusedSimpArgs false
open Go.RowKit Go.Sort
attribute [local go_sem ↓] Go.wp_at_zero Go.wp_at_succ

theorem info_u32 : (Tryz.prog.info? 108).map (fun i => (i.zero, i.size, i.bytes)) = some (some (.int .u32 0), 1, 4) := by kernel_rfl
theorem own_madeU {w : World} {b base : Nat} (hb : w.heap.size = b) (n : Nat) (hn : n ≤ maxLen) (hbase : base ≤ b) : Own (w.alloc (.cells (madeCells #[.int .u32 0] n) 108)) base 108 1 (some ⟨b, 0, none⟩) n n (us (List.replicate n 0)) := by
  subst hb
  have h := World.ownsRow_lit (base := base) (e := 108) (size := 1) w (madeCells #[.int .u32 0] n) n hbase hn (by simp [madeCells])
  have e : (madeCells #[.int .u32 0] n).toList = us (List.replicate n 0) := by
    apply List.ext_getElem
    · simp [madeCells, us]
    · intro i h1 h2; simp [madeCells, us, Nat.mod_one]
  rw [e] at h
  exact h
theorem Own.storeU {w : World} {base g n c : Nat} {l : List Nat} (h : Own w base 108 1 (some ⟨g, 0, none⟩) n c (us l)) (j x : Nat) :
    Own (w.setCell ⟨g, j, none⟩ (.int .u32 (x : Int))) base 108 1 (some ⟨g, 0, none⟩) n c (us (l.set j x)) := by
  have := (World.ownsRow.stored h j (.int .u32 (x : Int))).1
  unfold Own
  rw [us_set]; exact this
theorem Own.ulen {w : World} {base n c : Nat} {A : Option Addr} {l : List Nat} (h : Own w base 108 1 A n c (us l)) : l.length = n := by have := h.len; rw [us_length] at this; omega
theorem Own.cellU {w : World} {base g n c : Nat} {l : List Nat} (h : Own w base 108 1 (some ⟨g, 0, none⟩) n c (us l)) {j : Nat} (hj : j < n) : w.cell? ⟨g, j, none⟩ = some (.int .u32 ((l.getD j 0 : Nat) : Int)) := by
  have hl := h.ulen
  have := World.ownsRow.cellAt h j (by omega)
  rw [this, us_at l j (by omega)]
theorem Own.mag {w : World} {base n c : Nat} {A : Option Addr} {l : List Nat} (h : Own w base 108 1 A n c (us l)) (hu : U32 l) : MagAt w A n c l := ⟨h.rd, h.cap, hu⟩
theorem Own.trimU {w : World} {base n c g k : Nat} {l : List Nat} (h : Own w base 108 1 (some ⟨g, 0, none⟩) n c (us l)) (hk : tlen l = k) : Own w base 108 1 (some ⟨g, 0, none⟩) k c (us (trimN l)) := by
  have hl := h.ulen
  have := tlen_le l
  have h1 := h.shrink (k := k) (by omega) (by simp)
  rw [Nat.mul_one, ← us_take] at h1
  unfold trimN
  rw [hk]; exact h1
theorem drop_set_same {l : List Nat} {k x : Nat} (h : k < l.length) : (l.set k x).drop k = x :: l.drop (k + 1) := by
  rw [List.drop_eq_getElem_cons (by simpa using h)]
  simp [List.drop_set]
/-- One word more of a division by n. -/
theorem div_step {a D n : Nat} (hn : 0 < n) : (a + 4294967296 * D) / n = (a + 4294967296 * (D % n)) / n + 4294967296 * (D / n) ∧ (a + 4294967296 * D) % n = (a + 4294967296 * (D % n)) % n := by
  have e : a + 4294967296 * D = (a + 4294967296 * (D % n)) + n * (4294967296 * (D / n)) := by
    have := Nat.div_add_mod D n
    calc a + 4294967296 * D = a + 4294967296 * (n * (D / n) + D % n) := by rw [this]
      _ = _ := by rw [Nat.mul_add, Nat.mul_left_comm]; omega
  rw [e, Nat.add_mul_div_left _ _ hn, Nat.add_mul_mod_self_left]
  exact ⟨rfl, rfl⟩
theorem word_lt {a r n : Nat} (hn : 0 < n) (ha : a < 4294967296) (hr : r < n) : (a + 4294967296 * r) / n < 4294967296 := by
  rw [Nat.div_lt_iff_lt_mul hn]
  have : 4294967296 * (r + 1) ≤ 4294967296 * n := Nat.mul_le_mul_left _ hr
  omega
def ByPost (w : World) (N d : Nat) (e : Ending) (w' : World) : Prop :=
  Below w.heap.size w w' ∧ ∃ C n c q, e = .returned (.tuple #[.slice C n c, .int .u32 ((N % d : Nat) : Int)]) ∧ MagAt w' C n c q ∧ Trm q ∧ nv q = N / d
set_option maxHeartbeats 4000000 in
theorem by_any (A : Option Addr) (n c : Nat) (l : List Nat) (d : Nat) (w : World) (hn : n ≤ 1000000) (h : MagAt w A n c l) (hd0 : 0 < d) (hd : d < 4294967296) :
    Calls Tryz.prog 73 #[.slice A n c, .int .u32 (d : Int)] w (ByPost w (nv l) d) := by
  have HL := Lib.hid h.len
  have H1 := Lib.hid h.1
  have HU := Lib.hid h.2.2
  clear h
  have hmk := run_make_row' (P := Tryz.prog) 48 108 (.int .u32 0) 4 Tryz.underlying48 info_u32 rfl .i64 .i64 n (by omega) (by omega)
  have M0 : Hid (Own (w.alloc (.cells (madeCells #[.int .u32 0] n) 108)) w.heap.size 108 1 (some ⟨w.heap.size, 0, none⟩) n n (us (List.replicate n 0))) := Lib.hid (own_madeU rfl n (by unfold maxLen; omega) (Nat.le_refl _))
  go_enter Tryz.func73, Tryz.ntmps73
  go_wp2_with fail
  go_loopg [7, 8] n (fun g r i wr => ∃ (k R : Nat) (q : List Nat), k ≤ n ∧ k = g ∧ i = .int .i64 ((k : Int) - 1) ∧ r = .int .u64 (R : Int) ∧ R = nv (l.drop k) % d ∧ U32 q ∧ q.length = n ∧ nv (q.drop k) = nv (l.drop k) / d ∧ Own wr w.heap.size 108 1 (some ⟨w.heap.size, 0, none⟩) n n (us q) ∧ Below w.heap.size w wr)
  case atStart => exact ⟨n, 0, List.replicate n 0, Nat.le_refl _, rfl, rfl, rfl, (by rw [List.drop_of_length_le (by rw [HL.out]; exact Nat.le_refl _)]; simp [nv]), U32.zero n, by simp, (by rw [List.drop_of_length_le (l := l) (by rw [HL.out]; exact Nat.le_refl _), List.drop_of_length_le (by simp)]; simp [nv]), M0.out, (Below.refl _ _).alloc (Nat.le_refl _) _⟩
  case round =>
    clear M0
    obtain ⟨k, R, q, hk, rfl, rfl, rfl, hR, hq, hql, hqv, ho, hb⟩ := hrel
    have HB := Lib.hid hb
    have HO := Lib.hid ho
    have HQ := Lib.hid hq
    have QL := Lib.hid hql
    have QV := Lib.hid hqv
    have hzr := hb.size
    have kr := Keeps.of_below hb (Nat.le_refl _)
    have hRd : R < d := by rw [hR]; exact Nat.mod_lt _ hd0
    have HR := Lib.hid hR
    clear hb ho hq hql hqv hR
    by_cases hk0 : k = 0
    · subst hk0
      have V : Hid (nv q = nv l / d) := Lib.hid (by have := QV.out; rwa [List.drop_zero, List.drop_zero] at this)
      have RV : Hid (R = nv l % d) := Lib.hid (by have := HR.out; rwa [List.drop_zero] at this)
      have cT := trim_mag _ n n q wr (by omega) (HO.out.mag HQ.out)
      go_wp2_with fail
      refine Calls.mono cT ?_
      rintro _ _ ⟨rfl, rfl⟩
      go_wp2_with fail
      exact bodyPost_ret (v := .tuple #[.slice (some ⟨w.heap.size, 0, none⟩) (tlen q) n, .int .u32 (R : Int)]) (by simp [results, Tryz.results73, go_sem]) rfl ⟨HB.out, _, _, _, trimN q, by rw [RV.out], (HO.out.mag HQ.out).trim, trimN_trm _, by rw [nv_trim, V.out]⟩
    · obtain ⟨ad, rfl, hkl, c0⟩ := (H1.out.keep kr).us_at (by omega : k - 1 < n)
      have hi1 : ((k : Int) - 1).toNat = k - 1 := by omega
      have hm0 : (0 : Int) ≤ (k : Int) - 1 := by omega
      have hm1 : (k : Int) - 1 < (n : Int) := by omega
      have hx := HU.out.at (k - 1)
      have NX : Hid (nv (l.drop (k - 1)) = l.getD (k - 1) 0 + 4294967296 * nv (l.drop k)) := Lib.hid (by
        rw [List.drop_eq_getElem_cons hkl, nv, List.getD_eq_getElem?_getD, List.getElem?_eq_getElem hkl, show k - 1 + 1 = k by omega]; rfl)
      generalize l.getD (k - 1) 0 = x at *
      have ho := or_hi hx (Nat.lt_trans hRd hd)
      have hD : x + 4294967296 * R < 18446744073709551616 := by omega
      have QS : Hid (nv ((q.set (k - 1) ((x + 4294967296 * R) / d)).drop (k - 1)) = nv (l.drop (k - 1)) / d ∧ (x + 4294967296 * R) % d = nv (l.drop (k - 1)) % d ∧ (x + 4294967296 * R) / d < 4294967296) := Lib.hid (by
        have h1 := div_step (a := x) (D := nv (l.drop k)) hd0
        rw [← HR.out, ← NX.out] at h1
        refine ⟨?_, h1.2.symm, word_lt hd0 hx hRd⟩
        rw [drop_set_same (by rw [QL.out]; omega), nv, show k - 1 + 1 = k by omega, QV.out, h1.1])
      have cq := HO.out.cellU (j := k - 1) (by omega)
      have fq : wr.frozen? ⟨w.heap.size, k - 1, none⟩ = false := HO.out.frozen (k - 1)
      have O2 := Lib.hid (HO.out.storeU (k - 1) ((x + 4294967296 * R) / d))
      clear hkl kr
      generalize hDD : x + 4294967296 * R = D at *
      have hqd : D / d < 4294967296 := QS.out.2.2
      have hmd : D % d < 4294967296 := Nat.lt_trans (Nat.mod_lt _ hd0) hd
      clear hDD
      have eQ : (D : Int) / (d : Int) = ((D / d : Nat) : Int) := (Int.natCast_ediv D d).symm
      have eM : (D : Int) % (d : Int) = ((D % d : Nat) : Int) := (Int.natCast_emod D d).symm
      generalize D / d = Q at *
      generalize D % d = M at *
      have UQ : Hid (U32 (q.set (k - 1) Q)) := Lib.hid (HQ.out.set _ hqd)
      go_wp2_with fail
      go_roundg (k - 1)
      case measure => omega
      case rel => exact ⟨k - 1, M, q.set (k - 1) Q, by omega, rfl, by congr 1; omega, by rw [eM], QS.out.2.1, UQ.out, by rw [List.length_set]; exact QL.out, QS.out.1, O2.out, HB.out.setCell (by simp) _⟩
end Go.Proofs.YtpdbekgkopglgaaGreat
namespace Go.Proofs.YtpdbekgkopglgaaGreat
set_option linter.unusedVariables false
set_option linter.unusedSimpArgs false
open Go.RowKit Go.Sort
attribute [local go_sem ↓] Go.wp_at_zero Go.wp_at_succ

theorem nv_take_succ (l : List Nat) (k : Nat) : nv (l.take (k + 1)) = nv (l.take k) + 4294967296 ^ k * l.getD k 0 := by
  rcases Nat.lt_or_ge k l.length with h | h
  · rw [List.take_succ_eq_append_getElem h, nv_app, List.length_take, Nat.min_eq_left (by omega), List.getD_eq_getElem?_getD, List.getElem?_eq_getElem h]
    simp [nv]
  · rw [List.take_of_length_le h, List.take_of_length_le (by omega), List.getD_eq_getElem?_getD, List.getElem?_eq_none h]
    simp
theorem take_set_old {l : List Nat} {k j x : Nat} (h : k ≤ j) : (l.set j x).take k = l.take k := by
  apply List.ext_getElem?
  intro i
  rw [List.getElem?_take, List.getElem?_take]
  split
  · rw [List.getElem?_set_ne (by omega)]
  · rfl
theorem getD_set_same {l : List Nat} {k x : Nat} (h : k < l.length) : (l.set k x).getD k 0 = x := by
  rw [List.getD_eq_getElem?_getD, List.getElem?_set_self h]; rfl
theorem nv_set_take {l : List Nat} {k x : Nat} (h : k < l.length) : nv ((l.set k x).take (k + 1)) = nv (l.take k) + 4294967296 ^ k * x := by
  rw [nv_take_succ, take_set_old (Nat.le_refl _), getD_set_same h]
theorem minus_step {va vb vo P a x o b b' : Nat} (hI : va + b * P = vb + vo) (hs : a + 4294967296 * b' = o + x + b) :
    va + P * a + b' * (P * 4294967296) = (vb + P * x) + (vo + P * o) := by
  have h : P * (a + 4294967296 * b') = P * (o + x + b) := by rw [hs]
  rw [Nat.mul_add, Nat.mul_add, Nat.mul_add] at h
  have e1 : P * (4294967296 * b') = b' * (P * 4294967296) := by rw [← Nat.mul_assoc, Nat.mul_comm]
  have e2 : P * b = b * P := Nat.mul_comm _ _
  omega
theorem minus_end {va vb vo P b : Nat} (hI : va + b * P = vb + vo) (hle : vb ≤ va) (ho : vo < P) (hb : b ≤ 1) : vo = va - vb := by
  rcases Nat.eq_zero_or_pos b with h | h
  · subst h; omega
  · obtain rfl : b = 1 := by omega
    omega
def MagPost (w : World) (N : Nat) (e : Ending) (w' : World) : Prop :=
  Below w.heap.size w w' ∧ ∃ C n c q, e = .returned (.slice C n c) ∧ Own w' w.heap.size 108 1 C n c (us q) ∧ U32 q ∧ Trm q ∧ nv q = N
set_option maxHeartbeats 4000000 in
theorem minus_any (A B : Option Addr) (n c m d : Nat) (a b : List Nat) (w : World) (hn : n ≤ 1000000) (hm : m ≤ 1000000) (ha : MagAt w A n c a) (hb : MagAt w B m d b) (tb : Trm b) (hle : nv b ≤ nv a) :
    Calls Tryz.prog 77 #[.slice A n c, .slice B m d] w fun e w' => MagPost w (nv a - nv b) e w' ∧ ∃ C k c', e = .returned (.slice C k c') ∧ k ≤ n := by
  have LA := Lib.hid ha.len
  have LB := Lib.hid hb.len
  have hmn : m ≤ n := by
    rcases Nat.lt_or_ge n m with h | h
    · have := nv_lt_len ha.2.2 tb (by rw [LA.out, LB.out]; exact h)
      omega
    · exact h
  have H1 := Lib.hid ha.1
  have H2 := Lib.hid hb.1
  have UA := Lib.hid ha.2.2
  have UB := Lib.hid hb.2.2
  have HLE := Lib.hid hle
  clear ha hb tb hle
  have hmk := run_make_row' (P := Tryz.prog) 48 108 (.int .u32 0) 4 Tryz.underlying48 info_u32 rfl .i64 .i64 n (by omega) (by omega)
  have M0 : Hid (Own (w.alloc (.cells (madeCells #[.int .u32 0] n) 108)) w.heap.size 108 1 (some ⟨w.heap.size, 0, none⟩) n n (us (List.replicate n 0))) := Lib.hid (own_madeU rfl n (by unfold maxLen; omega) (Nat.le_refl _))
  go_enter Tryz.func77, Tryz.ntmps77
  go_wp2_with fail
  go_loopg [6, 7] n (fun g bo i wr => ∃ (k b1 : Nat) (q : List Nat), k ≤ n ∧ n - k ≤ g ∧ i = .int .i64 (k : Int) ∧ bo = .int .u64 (b1 : Int) ∧ b1 ≤ 1 ∧ U32 q ∧ q.length = n ∧ nv (a.take k) + b1 * 4294967296 ^ k = nv (b.take k) + nv (q.take k) ∧ Own wr w.heap.size 108 1 (some ⟨w.heap.size, 0, none⟩) n n (us q) ∧ Below w.heap.size w wr)
  case atStart => exact ⟨0, 0, List.replicate n 0, Nat.zero_le _, by omega, rfl, rfl, by omega, U32.zero n, by simp, by simp [nv], M0.out, (Below.refl _ _).alloc (Nat.le_refl _) _⟩
  case round =>
    clear M0
    obtain ⟨k, b1, q, hk, hg, rfl, rfl, hb1, hq, hql, hqv, ho, hb⟩ := hrel
    have HB := Lib.hid hb
    have HO := Lib.hid ho
    have HQ := Lib.hid hq
    have QL := Lib.hid hql
    have QV := Lib.hid hqv
    have hzr := hb.size
    have kr := Keeps.of_below hb (Nat.le_refl _)
    clear hb ho hq hql hqv
    by_cases hkn : k < n
    · obtain ⟨ad, rfl, hkl, c0⟩ := (H1.out.keep kr).us_at hkn
      have hx := UA.out.at k
      have hy := UB.out.at k
      have cq := HO.out.cellU (j := k) hkn
      have fq : wr.frozen? ⟨w.heap.size, k, none⟩ = false := HO.out.frozen k
      have NS : Hid (∀ o b', a.getD k 0 + 4294967296 * b' = o + b.getD k 0 + b1 → nv (a.take (k + 1)) + b' * 4294967296 ^ (k + 1) = nv (b.take (k + 1)) + nv ((q.set k o).take (k + 1))) := Lib.hid fun o b' h => by
        rw [nv_take_succ a, nv_take_succ b, nv_set_take (by rw [QL.out]; exact hkn), Nat.pow_succ]
        exact minus_step QV.out h
      have OS : Hid (∀ o : Nat, Own (wr.setCell ⟨w.heap.size, k, none⟩ (.int .u32 (o : Int))) w.heap.size 108 1 (some ⟨w.heap.size, 0, none⟩) n n (us (q.set k o))) := Lib.hid fun o => HO.out.storeU k o
      have US : Hid (∀ o, o < 4294967296 → U32 (q.set k o)) := Lib.hid fun o h => HQ.out.set _ h
      have QL2 : Hid (∀ o, (q.set k o).length = n) := Lib.hid fun o => by rw [List.length_set]; exact QL.out
      by_cases hkm : k < m
      · obtain ⟨ae, rfl, hkl', c1⟩ := (H2.out.keep kr).us_at hkm
        generalize a.getD k 0 = x at *
        generalize b.getD k 0 = y at *
        obtain ⟨D, hD⟩ : ∃ D : Nat, D = x + 4294967296 - y - b1 := ⟨_, rfl⟩
        have eD : (x : Int) + 4294967296 - (y : Int) - (b1 : Int) = (D : Int) := by omega
        have hD2 : D < 8589934592 := by omega
        have S1 := Lib.hid (NS.out (D % 4294967296) (1 - D / 4294967296) (by omega))
        have S2 := Lib.hid (OS.out (D % 4294967296))
        have S3 := Lib.hid (US.out (D % 4294967296) (by omega))
        have S4 := Lib.hid (QL2.out (D % 4294967296))
        clear hkl hkl' kr NS OS US hD
        have e3 : ((D % 4294967296 : Nat) : Int) = (D : Int) % 4294967296 := by omega
        have e4 : ((1 - D / 4294967296 : Nat) : Int) = 1 - (D : Int) / 4294967296 := by omega
        rw [e3] at S2
        have E4 := Lib.hid e4
        clear e3 e4
        go_wp2_with fail
        go_roundg (n - (k + 1))
        case measure => omega
        case rel => exact ⟨k + 1, 1 - D / 4294967296, q.set k (D % 4294967296), by omega, Nat.le_refl _, by go_num, by rw [E4.out], by omega, S3.out, S4.out, S1.out, S2.out, HB.out.setCell (by simp) _⟩
      · have hy0 : b.getD k 0 = 0 := by rw [List.getD_eq_getElem?_getD, List.getElem?_eq_none (by rw [LB.out]; omega)]; rfl
        rw [hy0] at NS
        generalize a.getD k 0 = x at *
        obtain ⟨D, hD⟩ : ∃ D : Nat, D = x + 4294967296 - b1 := ⟨_, rfl⟩
        have eD : (x : Int) + 4294967296 - (b1 : Int) = (D : Int) := by omega
        have hD2 : D < 8589934592 := by omega
        have S1 := Lib.hid (NS.out (D % 4294967296) (1 - D / 4294967296) (by omega))
        have S2 := Lib.hid (OS.out (D % 4294967296))
        have S3 := Lib.hid (US.out (D % 4294967296) (by omega))
        have S4 := Lib.hid (QL2.out (D % 4294967296))
        clear hkl kr NS OS US hD hy hy0
        have e3 : ((D % 4294967296 : Nat) : Int) = (D : Int) % 4294967296 := by omega
        have e4 : ((1 - D / 4294967296 : Nat) : Int) = 1 - (D : Int) / 4294967296 := by omega
        rw [e3] at S2
        have E4 := Lib.hid e4
        clear e3 e4
        go_wp2_with fail
        go_roundg (n - (k + 1))
        case measure => omega
        case rel => exact ⟨k + 1, 1 - D / 4294967296, q.set k (D % 4294967296), by omega, Nat.le_refl _, by go_num, by rw [E4.out], by omega, S3.out, S4.out, S1.out, S2.out, HB.out.setCell (by simp) _⟩
    · obtain rfl : k = n := by omega
      have V : Hid (nv q = nv a - nv b) := Lib.hid (by
        have h := QV.out
        rw [List.take_of_length_le (by rw [LA.out]; exact Nat.le_refl _), List.take_of_length_le (by rw [LB.out]; exact hmn), List.take_of_length_le (by rw [QL.out]; exact Nat.le_refl _)] at h
        have h2 := nv_lt HQ.out
        rw [QL.out] at h2
        exact minus_end h HLE.out h2 hb1)
      have TL : Hid (tlen q ≤ k) := Lib.hid (by rw [← QL.out]; exact tlen_le q)
      have cT := trim_mag _ k k q wr (by omega) (HO.out.mag HQ.out)
      go_wp2_with fail
      refine Calls.mono cT ?_
      rintro _ _ ⟨rfl, rfl⟩
      go_wp2_with fail
      go_ret
      exact ⟨⟨HB.out, _, _, _, trimN q, rfl, HO.out.trimU rfl, trimN_u32 HQ.out, trimN_trm _, by rw [nv_trim, V.out]⟩, _, _, _, rfl, TL.out⟩
end Go.Proofs.YtpdbekgkopglgaaGreat
namespace Go.Proofs.YtpdbekgkopglgaaGreat
set_option linter.unusedVariables false
set_option linter.unusedSimpArgs false
open Go.RowKit Go.Sort
attribute [local go_sem ↓] Go.wp_at_zero Go.wp_at_succ

theorem nv_set {l : List Nat} {p v : Nat} (h : p < l.length) : nv (l.set p v) + 4294967296 ^ p * l.getD p 0 = nv l + 4294967296 ^ p * v := by
  have h1 := nv_take_drop (l.set p v) p (by simp; omega)
  have h2 := nv_take_drop l p (by omega)
  have h3 : l.drop p = l.getD p 0 :: l.drop (p + 1) := by
    rw [List.drop_eq_getElem_cons h, List.getD_eq_getElem?_getD, List.getElem?_eq_getElem h]; rfl
  rw [take_set_old (Nat.le_refl _), drop_set_same h, nv, Nat.mul_add] at h1
  rw [h3, nv, Nat.mul_add] at h2
  omega
theorem getD_set_other {l : List Nat} {k j x : Nat} (h : j ≠ k) : (l.set k x).getD j 0 = l.getD j 0 := by
  rw [List.getD_eq_getElem?_getD, List.getElem?_set_ne (by omega), List.getD_eq_getElem?_getD]
theorem mul_step {N N' N0 c c' o v x y s i P Q : Nat} (hI : N + c * (P * Q) = N0 + x * s * P) (hs : N' + P * Q * o = N + P * Q * v) (hv : o + c + x * y = v + 4294967296 * c') :
    N' + c' * (P * (Q * 4294967296)) = N0 + x * (s + Q * y) * P := by
  have h : P * Q * (o + c + x * y) = P * Q * (v + 4294967296 * c') := by rw [hv]
  rw [Nat.mul_add, Nat.mul_add, Nat.mul_add] at h
  have e1 : P * Q * (4294967296 * c') = c' * (P * (Q * 4294967296)) := by
    rw [← Nat.mul_assoc, Nat.mul_comm _ c', Nat.mul_assoc P Q]
  have e2 : P * Q * c = c * (P * Q) := Nat.mul_comm _ _
  have e3 : x * (s + Q * y) * P = x * s * P + P * Q * (x * y) := by
    rw [Nat.mul_add, Nat.add_mul]
    congr 1
    rw [Nat.mul_comm _ P, Nat.mul_left_comm x Q y, Nat.mul_assoc]
  omega
theorem carry_lt {o c x y : Nat} (ho : o < 4294967296) (hc : c < 4294967296) (hx : x < 4294967296) (hy : y < 4294967296) : x * y ≤ 18446744065119617025 ∧ (o + c + x * y) / 4294967296 < 4294967296 := by
  have h : x * y ≤ 4294967295 * 4294967295 := Nat.mul_le_mul (by omega) (by omega)
  omega
set_option maxHeartbeats 8000000 in
theorem times_any (A B : Option Addr) (n c m d : Nat) (a b : List Nat) (w : World) (hn : n ≤ 500000) (hm : m ≤ 500000) (ha : MagAt w A n c a) (hb : MagAt w B m d b) :
    Calls Tryz.prog 85 #[.slice A n c, .slice B m d] w fun e w' => MagPost w (nv a * nv b) e w' ∧ ∃ C k c', e = .returned (.slice C k c') ∧ k ≤ n + m := by
  have LA := Lib.hid ha.len
  have LB := Lib.hid hb.len
  have H1 := Lib.hid ha.1
  have H2 := Lib.hid hb.1
  have UA := Lib.hid ha.2.2
  have UB := Lib.hid hb.2.2
  clear ha hb
  have hmk := run_make_row' (P := Tryz.prog) 48 108 (.int .u32 0) 4 Tryz.underlying48 info_u32 rfl .i64 .i64 (n + m) (by omega) (by omega)
  simp only [Int.natCast_add] at hmk
  have M0 : Hid (Own (w.alloc (.cells (madeCells #[.int .u32 0] (n + m)) 108)) w.heap.size 108 1 (some ⟨w.heap.size, 0, none⟩) (n + m) (n + m) (us (List.replicate (n + m) 0))) := Lib.hid (own_madeU rfl (n + m) (by unfold maxLen; omega) (Nat.le_refl _))
  go_enter Tryz.func85, Tryz.ntmps85
  go_wp2_with fail
  go_loopg [6, 7, 8] n (fun g i _ _ wr => ∃ (k : Nat) (q : List Nat), k ≤ n ∧ n - k ≤ g ∧ i = .int .i64 (k : Int) ∧ U32 q ∧ q.length = n + m ∧ nv q = nv (a.take k) * nv b ∧ (∀ j, k + m ≤ j → q.getD j 0 = 0) ∧ Own wr w.heap.size 108 1 (some ⟨w.heap.size, 0, none⟩) (n + m) (n + m) (us q) ∧ Below w.heap.size w wr)
  case atStart => exact ⟨0, List.replicate (n + m) 0, Nat.zero_le _, by omega, rfl, U32.zero _, by simp, by rw [nv_replicate]; simp [nv], (fun j hj => by rw [List.getD_eq_getElem?_getD, List.getElem?_replicate]; split <;> rfl), M0.out, (Below.refl _ _).alloc (Nat.le_refl _) _⟩
  case round =>
    clear M0
    obtain ⟨i, q, hi, hg, rfl, hq, hql, hqv, hqz, ho, hb⟩ := hrel
    have HB := Lib.hid hb
    have HO := Lib.hid ho
    have HQ := Lib.hid hq
    have QL := Lib.hid hql
    have QV := Lib.hid hqv
    have QZ := Lib.hid hqz
    clear hb ho hq hql hqv hqz
    by_cases hin : i < n
    · obtain ⟨ad, hA, hil, ca⟩ := H1.out.us_at hin
      subst hA
      have hx := UA.out.at i
      have OUT : Hid (∀ (q1 : List Nat) (c1 : Nat), q1.length = n + m → nv q1 + c1 * (4294967296 ^ i * 4294967296 ^ m) = nv q + a.getD i 0 * nv b * 4294967296 ^ i → (∀ j, i + m ≤ j → q1.getD j 0 = 0) → nv (q1.set (i + m) c1) = nv (a.take (i + 1)) * nv b ∧ ∀ j, i + 1 + m ≤ j → (q1.set (i + m) c1).getD j 0 = 0) := Lib.hid fun q1 c1 hl hv hz => by
        have h1 := nv_set (l := q1) (p := i + m) (v := c1) (by omega)
        rw [hz (i + m) (by omega), Nat.mul_zero, Nat.add_zero, Nat.pow_add, Nat.mul_comm _ c1, hv, QV.out] at h1
        refine ⟨?_, fun j hj => by rw [getD_set_other (by omega)]; exact hz j (by omega)⟩
        rw [h1, nv_take_succ, Nat.add_mul, Nat.mul_comm (4294967296 ^ i) (a.getD i 0), Nat.mul_assoc, Nat.mul_assoc, Nat.mul_comm (nv b)]
      generalize a.getD i 0 = x at *
      go_wp2_with fail
      go_loopg [7, 8] m (fun g cr ki wr => ∃ (k c1 : Nat) (q1 : List Nat), k ≤ m ∧ m - k ≤ g ∧ ki = .int .i64 (k : Int) ∧ cr = .int .u64 (c1 : Int) ∧ c1 < 4294967296 ∧ U32 q1 ∧ q1.length = n + m ∧ nv q1 + c1 * (4294967296 ^ i * 4294967296 ^ k) = nv q + x * nv (b.take k) * 4294967296 ^ i ∧ (∀ j, i + m ≤ j → q1.getD j 0 = 0) ∧ Own wr w.heap.size 108 1 (some ⟨w.heap.size, 0, none⟩) (n + m) (n + m) (us q1) ∧ Below w.heap.size w wr)
      case atStart => exact ⟨0, 0, q, Nat.zero_le _, by omega, rfl, rfl, by omega, HQ.out, QL.out, by simp [nv], QZ.out, HO.out, HB.out⟩
      case round =>
        clear HB HO HQ QL QZ
        obtain ⟨k, c1, q1, hk, hgk, rfl, rfl, hc1, hq, hql, hqv, hqz, ho, hb⟩ := hrel
        rename World => wr
        have HB := Lib.hid hb
        have HO := Lib.hid ho
        have HQ := Lib.hid hq
        have QL := Lib.hid hql
        have QV1 := Lib.hid hqv
        have QZ := Lib.hid hqz
        have hzr := hb.size
        have kr := Keeps.of_below hb (Nat.le_refl _)
        clear hb ho hq hql hqv hqz
        by_cases hkm : k < m
        · obtain ⟨ae, hE, hkl, cb⟩ := H2.out.us_at hkm
          subst hE
          have hy := UB.out.at k
          have ho1 := HQ.out.at (i + k)
          have co := HO.out.cellU (j := i + k) (by omega)
          have fo : wr.frozen? ⟨w.heap.size, i + k, none⟩ = false := HO.out.frozen (i + k)
          have car := kr _ _ ca
          have cbr := kr _ _ cb
          have hik : ((i : Int) + (k : Int)).toNat = i + k := by omega
          have ST : Hid (∀ v c', q1.getD (i + k) 0 + c1 + x * b.getD k 0 = v + 4294967296 * c' → nv (q1.set (i + k) v) + c' * (4294967296 ^ i * 4294967296 ^ (k + 1)) = nv q + x * nv (b.take (k + 1)) * 4294967296 ^ i) := Lib.hid fun v c' h => by
            have h1 := nv_set (l := q1) (p := i + k) (v := v) (by rw [QL.out]; omega)
            rw [Nat.pow_add] at h1
            rw [nv_take_succ, Nat.pow_succ]
            exact mul_step (i := 0) QV1.out h1 h
          generalize q1.getD (i + k) 0 = o at *
          generalize b.getD k 0 = y at *
          obtain ⟨hM1, hM2⟩ := carry_lt ho1 hc1 hx hy
          obtain ⟨M, hM⟩ : ∃ M : Nat, M = x * y := ⟨_, rfl⟩
          have eM : (x : Int) * (y : Int) = (M : Int) := by rw [hM, Int.natCast_mul]
          rw [← hM] at hM1 hM2 ST
          have S1 := Lib.hid (ST.out ((o + c1 + M) % 4294967296) ((o + c1 + M) / 4294967296) (by omega))
          have S3 : Hid (U32 (q1.set (i + k) ((o + c1 + M) % 4294967296))) := Lib.hid (HQ.out.set _ (by omega))
          have S4 : Hid ((q1.set (i + k) ((o + c1 + M) % 4294967296)).length = n + m) := Lib.hid (by rw [List.length_set]; exact QL.out)
          have S5 : Hid (∀ j, i + m ≤ j → (q1.set (i + k) ((o + c1 + M) % 4294967296)).getD j 0 = 0) := Lib.hid fun j hj => by rw [getD_set_other (by omega)]; exact QZ.out j hj
          have g0 := grown_cell car
          have g1 := grown_cell cbr
          have g2 := grown_cell co
          clear hkl kr hM ST hil
          go_wp2_with fail
          refine wp_region_q (by kernel_rfl) (by kernel_rfl) ?_
          repeat (go_big_quiet_step (fail))
          refine wpQuiet_nil ?_
          intro wq hgq
          have HOq := HO.out.later hgq
          have coq := Keeps.of_below hgq (Nat.le_refl _) _ _ co
          have foq : wq.frozen? ⟨w.heap.size, i + k, none⟩ = false := HOq.frozen (i + k)
          have S2 := HOq.storeU (i + k) ((o + c1 + M) % 4294967296)
          have e5 : (((o + c1 + M) % 4294967296 : Nat) : Int) = ((c1 : Int) + (o : Int) + (M : Int)) % 4294967296 := by omega
          rw [e5] at S2
          have E6 : Hid ((((o + c1 + M) / 4294967296 : Nat) : Int) = ((c1 : Int) + (o : Int) + (M : Int)) / 4294967296) := Lib.hid (by omega)
          have S2 := Lib.hid S2
          have HBq := Lib.hid (HB.out.trans (hgq.mono hzr))
          clear HOq hgq e5 g0 g1 g2
          go_wp2_with fail
          go_roundg (m - (k + 1))
          case measure => omega
          case rel => exact ⟨k + 1, (o + c1 + M) / 4294967296, q1.set (i + k) ((o + c1 + M) % 4294967296), by omega, Nat.le_refl _, by go_num, by rw [E6.out], hM2, S3.out, S4.out, S1.out, S5.out, S2.out, HBq.out.setCell (by simp) _⟩
        · obtain rfl : k = m := by omega
          have him : ((i : Int) + (k : Int)).toNat = i + k := by omega
          have cz := HO.out.cellU (j := i + k) (by omega)
          have fz : wr.frozen? ⟨w.heap.size, i + k, none⟩ = false := HO.out.frozen (i + k)
          have T1 := Lib.hid (OUT.out q1 c1 QL.out (by have := QV1.out; rwa [List.take_of_length_le (by rw [LB.out]; exact Nat.le_refl _)] at this) QZ.out)
          have T2 := Lib.hid (HO.out.storeU (i + k) c1)
          have T3 : Hid (U32 (q1.set (i + k) c1)) := Lib.hid (HQ.out.set _ hc1)
          have T4 : Hid ((q1.set (i + k) c1).length = n + k) := Lib.hid (by rw [List.length_set]; exact QL.out)
          clear kr
          go_wp2_with fail
          go_roundg (n - (i + 1))
          case measure => omega
          case rel => exact ⟨i + 1, q1.set (i + k) c1, by omega, Nat.le_refl _, by go_num, T3.out, T4.out, T1.out.1, T1.out.2, T2.out, HB.out.setCell (by simp) _⟩
    · obtain rfl : i = n := by omega
      have V : Hid (nv q = nv a * nv b) := Lib.hid (by have := QV.out; rwa [List.take_of_length_le (by rw [LA.out]; exact Nat.le_refl _)] at this)
      have TL : Hid (tlen q ≤ i + m) := Lib.hid (by rw [← QL.out]; exact tlen_le q)
      have cT := trim_mag _ (i + m) (i + m) q wr (by omega) (HO.out.mag HQ.out)
      go_wp2_with fail
      refine Calls.mono cT ?_
      rintro _ _ ⟨rfl, rfl⟩
      go_wp2_with fail
      go_ret
      exact ⟨⟨HB.out, _, _, _, trimN q, rfl, HO.out.trimU rfl, trimN_u32 HQ.out, trimN_trm _, by rw [nv_trim, V.out]⟩, _, _, _, rfl, TL.out⟩
end Go.Proofs.YtpdbekgkopglgaaGreat
