/-
  setsquareref36.union: all numbers of the rows, ascending.
-/
import Derived.Test.YtcpkdnhpelkeoaaGreatRa
import Derived.Test.YtcpkdnhpelkeoaaGreatKa
import Derived.Test.YtcpkdnhpelkeoaaGreatOwnP
import Derived.Test.YtcpkdnhpelkeoaaGreatOwnL
namespace Go.Proofs.YtcpkdnhpelkeoaaGreat
set_option linter.unusedVariables false
set_option linter.unusedSimpArgs false
open Go.RowKit Go.Sort
attribute [local go_sem ↓] Go.wp_at_zero Go.wp_at_succ

theorem rd_dropi {w : World} {g n k : Nat} {zs : List Int} (h : Rd w 1 (some ⟨g, 0, none⟩) n (ints zs)) (hk : k ≤ n) : Rd w 1 (some ⟨g, k, none⟩) (n - k) ((ints zs).drop k) := by
  refine ⟨by rw [List.length_drop]; have := h.1; omega, fun hn => ⟨_, rfl, fun j u hu => ?_⟩⟩
  obtain ⟨ad, e, hc⟩ := h.2 (by omega)
  injection e with e
  subst e
  rw [List.getElem?_drop] at hu
  have := hc (k + j) u hu
  rw [add0] at this
  have e2 : (⟨g, k, none⟩ : Addr).add j = ⟨g, k + j, none⟩ := by unfold Addr.add; split <;> simp_all
  rw [e2]; exact this
theorem rdU_new1 {w : World} {size n : Nat} {A : Option Addr} {xs : List Value} (h : Rd w size A n xs) (o : Obj) : Rd (w.alloc o) size A n xs := h.keep (Keeps.alloc w o)
theorem rdU_drew {w : World} {size n : Nat} {A : Option Addr} {xs : List Value} (h : Rd w size A n xs) : Rd w.drew size A n xs := h
theorem ownU_drew {w : World} {base size n c : Nat} {e : TypeId} {A : Option Addr} {xs : List Value} (h : Own w base e size A n c xs) : Own w.drew base e size A n c xs := h
theorem one_int {v : Int} : ∀ u ∈ [Value.int .i64 v], u.oneCell' = true := by simp [Value.oneCell']
theorem own_int {w : World} {base n c : Nat} {A : Option Addr} {zs : List Int} (h : Own w base 3 1 A n c (ints zs)) {k : Nat} (hk : k < n) :
    ∃ g, A = some ⟨g, 0, none⟩ ∧ w.cell? ⟨g, k, none⟩ = some (.int .i64 (zs.getD k 0)) := by
  obtain ⟨g, rfl, -, -⟩ := h.some_ (by omega)
  have hl := h.len
  rw [ints_length] at hl
  obtain ⟨ad, e, hc⟩ := h.rd.2 (by omega)
  injection e with e
  subst e
  refine ⟨g, rfl, ?_⟩
  have := hc k _ (ints_at zs k (by omega))
  rwa [add0] at this
theorem call_pk {P : Program} {f : FuncId} {args : Array Value} {w : World} {v : Value}
    (h : ∀ w', Keeps w w' → Calls P f args w' fun e w'' => e = .returned v ∧ w' = w'') :
    ∀ d os, Calls P f args (grow (redrawn w d) os) fun e w'' => e = .returned v ∧ ∃ p : Regrown, w'' = grow (redrawn w p.d) p.os :=
  fun d os => Calls.regrown_of ((h _ (Keeps.grown w d os)).mono fun e w'' hh => ⟨hh.1, by rw [← hh.2]; exact Below.refl _ _⟩)
def UniPost (w : World) (l : List Int) (e : Ending) (w' : World) : Prop :=
  Below w.heap.size w w' ∧ ∃ C c, e = .returned (.slice C (unI l).length c) ∧ Rd w' 1 C (unI l).length (ints (unI l))
theorem unAt_fix {pre x : List Int} {r : Nat} {v : Int} {os : List Int} (hr : r < x.length) (hv : x.getD r 0 = v) (ho : os = unAt pre x r) (h : v ∈ os) : os = unAt pre x (r + 1) := by
  rw [unAt_next hr, hv, ← ho, insI_self (by rw [ho]; exact unAt_asc _ _ _) h]
theorem unAt_put {pre x : List Int} {r : Nat} {v : Int} {os : List Int} (hr : r < x.length) (hv : x.getD r 0 = v) (ho : os = unAt pre x r) : insI v os = unAt pre x (r + 1) := by
  rw [unAt_next hr, hv, ← ho]
set_option maxRecDepth 100000 in
set_option maxHeartbeats 16000000 in
theorem union_any (A : Option Addr) (n c : Nat) (ls : List (List Int)) (w : World) (hn : n ≤ 100000) (hs : ∀ k, (joinI ls k).length ≤ 1000000) (hx : ∀ k, (ls.getD k []).length ≤ 1000000) (he : RdL w A n ls) :
    Calls Tryz.prog 42 #[.slice A n c] w (UniPost w (joinI ls n)) := by
  have H1 := Lib.hid he
  have HLN : Hid (ls.length = n) := Lib.hid he.1
  have HS := Lib.hid hs
  have HX := Lib.hid hx
  clear he hs hx
  go_enter Tryz.func42, Tryz.ntmps42
  go_wp2_with fail
  go_loopg [3, 4, 5, 6] n (fun g o t _ _ wr => ∃ (q : Nat) (C : Option Addr) (p cC : Nat) (os : List Int), q ≤ n ∧ g = n - q ∧ t = .int .i64 q ∧ o = .slice C p cC ∧ os.length = p ∧ Own wr w.heap.size 3 1 C p cC (ints os) ∧ os = unI (joinI ls q) ∧ (p = 0 → C = none ∧ cC = 0) ∧ Below w.heap.size w wr)
  case atStart => exact ⟨0, none, 0, 0, [], Nat.zero_le _, rfl, rfl, rfl, rfl, Own.nil _ _ _ _, rfl, fun _ => ⟨rfl, rfl⟩, Below.refl _ _⟩
  case round =>
    obtain ⟨q, C, p, cC, os, hq, rfl, rfl, rfl, hol, ho, hv, hze, hb⟩ := hrel
    have HB := Lib.hid hb
    have HO := Lib.hid ho
    have HV := Lib.hid hv
    have ZE := Lib.hid hze
    have OL := Lib.hid hol
    clear hol
    have hzr := hb.size
    have kr := Keeps.of_below hb (Nat.le_refl _)
    clear hb ho hv hze
    by_cases hlt : q < n
    · obtain ⟨ad, A1, e1, rfl, c0, r1⟩ := H1.out.at hlt
      have b1 := HX.out q
      have b2 := HS.out q
      have JN : Hid (joinI ls (q + 1) = joinI ls q ++ ls.getD q []) := Lib.hid (joinI_next (by rw [HLN.out]; exact hlt))
      generalize hx : ls.getD q [] = x at c0 r1 b1 JN
      generalize hpre : joinI ls q = pre at HV b2 JN
      have R1 := Lib.hid r1
      have c0r := kr _ _ c0
      have c0w := c0
      clear hx r1 kr hpre
      generalize hlx : x.length = lx at *
      have HLX := Lib.hid hlx
      clear hlx
      go_wp2_with fail
      go_loopg [3, 5, 6] lx (fun g o t _ wr => ∃ (r : Nat) (C : Option Addr) (p cC : Nat) (os : List Int), r ≤ lx ∧ g = lx - r ∧ o = .slice C p cC ∧ t = .int .i64 r ∧ os.length = p ∧ Own wr w.heap.size 3 1 C p cC (ints os) ∧ os = unAt pre x r ∧ (p = 0 → C = none ∧ cC = 0) ∧ Below w.heap.size w wr)
      case atStart => exact ⟨0, C, p, cC, os, Nat.zero_le _, rfl, rfl, rfl, OL.out, HO.out, by rw [unAt_zero]; exact HV.out, ZE.out, HB.out⟩
      case round =>
        clear HB HO HV ZE OL c0r hzr
        obtain ⟨r, C, p, cC, os, hr, rfl, rfl, rfl, hol, ho, hv, hze, hb⟩ := hrel
        have HB := Lib.hid hb
        have HO := Lib.hid ho
        have HV := Lib.hid hv
        have ZE := Lib.hid hze
        have OL := Lib.hid hol
        have hzr := hb.size
        have hcap := ho.cap
        have kr := Keeps.of_below hb (Nat.le_refl _)
        have c0r := kr _ _ c0w
        have hpl : p ≤ pre.length + r := by rw [← hol, hv]; exact unAt_len _ _ _
        have hpl : p ≤ 3000000 := by omega
        clear hb ho hv hze hol
        rename World => wr
        by_cases hrl : r < lx
        · obtain ⟨a1, rfl, hrx, c1⟩ := R1.out.int_at hrl
          generalize hv : x.getD r 0 = v at c1
          have c1r := kr _ _ c1
          have c1w := c1
          have NX : Hid (insI v os = unAt pre x (r + 1)) := Lib.hid (unAt_put hrx hv HV.out)
          have FX : Hid (v ∈ os → os = unAt pre x (r + 1)) := Lib.hid (unAt_fix hrx hv HV.out)
          clear kr hv c1 hrx
          have k0 := grown_cell c0r
          have k1 := grown_cell c1r
          have CH : Hid (∀ w', Keeps wr w' → Rd w' 1 C p (ints os)) := Lib.hid fun w' kk => HO.out.rd.keep kk
          by_cases hm : v ∈ os
          · have FX2 := Lib.hid (FX.out hm)
            have cA := has36_b C p cC os v wr (by omega) (CH.out wr (Keeps.refl wr)) (decide_eq_true hm)
            clear hm FX NX CH
            go_wp2_with fail
            refine Calls.mono cA ?_
            rintro _ _ ⟨rfl, rfl⟩
            go_wp2_with fail
            go_roundg (lx - (r + 1))
            case measure => omega
            case rel => exact ⟨r + 1, C, p, cC, os, by omega, rfl, rfl, by go_num, OL.out, HO.out, FX2.out, ZE.out, HB.out⟩
          · have cA := has36_b C p cC os v wr (by omega) (CH.out wr (Keeps.refl wr)) (decide_eq_false hm)
            have NI := Lib.hid hm
            clear hm FX CH
            go_wp2_with fail
            refine Calls.mono cA ?_
            rintro _ _ ⟨rfl, rfl⟩
            have HB1 := HB
            have HO1 := HO
            have hz1 := hzr
            have c0q := c0r
            have c1q := c1r
            clear HB HO hzr c0r c1r k0 k1 cA
            generalize wr = wr0 at *
            go_wp2_with fail
            go_loopg [6] p (fun g t wi => ∃ k : Nat, k ≤ p ∧ g = p - k ∧ t = .int .i64 k ∧ (∀ j, j < k → j < os.length → os.getD j 0 < v) ∧ Below wr0.heap.size wr0 wi)
            case atStart => exact ⟨0, Nat.zero_le _, rfl, rfl, fun j hj => by omega, Below.refl _ _⟩
            case round =>
              obtain ⟨k, hk, rfl, rfl, hal, hbi⟩ := hrel
              rename World => wi
              have HAL := Lib.hid hal
              have HBI := Lib.hid hbi
              have ki := Keeps.of_below hbi (Nat.le_refl _)
              have c0i := ki _ _ c0q
              have c1i := ki _ _ c1q
              clear hal hbi
              by_cases hkp : k < p
              · obtain ⟨g, rfl, d0⟩ := own_int HO1.out hkp
                have d0i := ki _ _ d0
                generalize hu : os.getD k 0 = u at d0i
                have HU := Lib.hid hu
                clear hu d0
                have j0 := grown_cell c0i
                have j1 := grown_cell c1i
                have j2 := grown_cell d0i
                have hlt1 : (k : Int) < (p : Int) := by omega
                by_cases huv : u < v
                · have UV := Lib.hid huv
                  go_wp2_with fail
                  refine wp_region_q (by kernel_rfl) (by kernel_rfl) ?_
                  repeat (go_big_quiet_step (fail))
                  refine wpQuiet_nil ?_
                  intro wq hgq
                  go_wp2_with fail
                  go_roundg (p - (k + 1))
                  case measure => omega
                  case rel => exact ⟨k + 1, by omega, rfl, by go_num, fun j hj hjl => by
                    by_cases e : j = k
                    · subst e; rw [HU.out]; exact UV.out
                    · exact HAL.out j (by omega) hjl, HBI.out.trans (hgq.mono HBI.out.size)⟩
                · have LST : Hid (k < os.length → ¬ os.getD k 0 < v) := Lib.hid fun _ => by rw [HU.out]; exact huv
                  go_wp2_with fail
                  refine wp_region_q (by kernel_rfl) (by kernel_rfl) ?_
                  repeat (go_big_quiet_step (fail))
                  refine wpQuiet_nil ?_
                  intro wq hgq
                  have HBQ := Lib.hid (HBI.out.trans (hgq.mono HBI.out.size))
                  clear hgq j0 j1 j2 hlt1 d0i HBI c0i c1i ki HU
                  have HI := Lib.hid (insI_at HAL.out (fun h => by have := LST.out h; omega) (by rw [OL.out]; exact hk) (NI.out))
                  have HDZ : Hid (ints (insI v os) = (ints os).take k ++ ([Value.int .i64 v] ++ (ints os).drop k)) := Lib.hid (by rw [HI.out]; simp [ints])
                  have NL : Hid ((insI v os).length = p + 1) := Lib.hid (by rw [HI.out]; have := OL.out; simp; omega)
                  have NV : Hid (insI v os = unAt pre x (r + 1)) := Lib.hid (NX.out)
                  have HBI := Lib.hid (HB1.out.trans (HBQ.out.mono hz1))
                  have HO2 := Lib.hid (HO1.out.later HBQ.out)
                  have hzi := HBQ.out.size
                  have hzi : w.heap.size ≤ wq.heap.size := by omega
                  have c0i := Keeps.of_below HBQ.out (Nat.le_refl _) _ _ c0q
                  have c1i := Keeps.of_below HBQ.out (Nat.le_refl _) _ _ c1q
                  clear HAL LST
                  go_upto_region 12 with fail
                  have HT : Hid (Own wq w.heap.size 3 1 (some ⟨g, 0, none⟩) k cC ((ints os).take k)) := Lib.hid (by have := HO2.out.shrink hk (by simp); simpa using this)
                  have XE : Hid ((ints os).drop k = (ints os).drop k) := Lib.hid rfl
                  have RDK := Lib.hid (rd_dropi HO2.out.rd hk)
                  have hkc : k ≤ cC := by omega
                  by_cases hcap2 : cC = k
                  · have hkq : p - k = 0 := by omega
                    have RD0 : Hid (Rd wq 1 (some ⟨g, 0, none⟩) 0 ((ints os).drop k)) := Lib.hid (by
                      have h1 := RDK.out.1
                      rw [hkq] at h1
                      have h0 : (ints os).drop k = [] := List.eq_nil_of_length_eq_zero (by omega)
                      rw [h0]
                      exact Rd.nil _ _ _)
                    have DZ : Hid ((ints os).drop k = []) := Lib.hid (List.eq_nil_of_length_eq_zero (by have h1 := RDK.out.1; rw [hkq] at h1; omega))
                    have KQ := Lib.hid (show p = k by omega)
                    clear hkq
                    subst hcap2
                    go_region_law ((first
                      | (refine step_app _ rfl (.tmp 53) (.tmp 65) 24 rfl w.heap.size 3 (.int .i64 0) 1 8 Tryz.underlying24 info_int' rfl (by decide) (some ⟨g, 0, none⟩) cC cC ((ints os).take cC) (by first | (simp [Act.eval, Act.put]; done) | (simp [Act.eval, Act.put, add0]; done) | fail) (by first | exact ownU_drew (HT.out.alloc _) | exact HT.out.alloc _ | fail) (some ⟨wq.heap.size, 0, none⟩) 1 1 [.int .i64 v] (by first | (simp [Act.eval, Act.put]; done) | (simp [Act.eval, Act.put, add0]; done) | fail) (by first | exact rdU_drew (rd_new _ 1 1 [.int .i64 v] _ rfl) | exact rd_new _ 1 1 [.int .i64 v] _ rfl | fail) one_int (by omega) (by unfold maxLen; omega) (by first | omega | (simp; done) | (simp; omega)) ?_; intro A4 c4 w4 ho4 hg4 hb4; have O4 : Hid (Own w4 w.heap.size 3 1 A4 (p + 1) c4 (ints (insI v os))) := Lib.hid (by rw [HDZ.out, DZ.out, List.append_nil, KQ.out]; exact ho4); have B4 : Hid (Below w.heap.size w w4) := Lib.hid (by first | exact ((HBI.out.alloc (by omega) _).drew).grown hg4 (by first | omega | (simp; done) | (simp; omega)) (fun k hk => (HT.out.lt hk).1) | exact (HBI.out.alloc (by omega) _).grown hg4 (by first | omega | (simp; done) | (simp; omega)) (fun k hk => (HT.out.lt hk).1) | fail); have c0i := Keeps.of_below B4.out (Nat.le_refl _) _ _ c0w; have c1i := Keeps.of_below B4.out (Nat.le_refl _) _ _ c1w; clear ho4 hg4 hb4)
                      | fail))
                    all_goals
                     have KQ2 := KQ.out
                     go_wp2_with fail
                     go_roundg (lx - (r + 1))
                     case measure => omega
                     case rel => exact ⟨r + 1, A4, p + 1, c4, insI v os, by omega, rfl, by first | rfl | (congr 1; omega) | fail, by go_num, NL.out, O4.out, NV.out, fun h => absurd h (by omega), B4.out⟩
                  by_cases hk0 : k = 0
                  · subst hk0
                    have LE : Hid (0 + (1 + (p - 0)) = p + 1) := Lib.hid (by omega)
                    go_region_law ((first
                      | (refine step_app _ rfl (.tmp 61) (.tmp 64) 24 rfl wq.heap.size 3 (.int .i64 0) 1 8 Tryz.underlying24 info_int' rfl (by decide) (some ⟨wq.heap.size, 0, none⟩) 1 1 [.int .i64 v] (by first | (simp [Act.eval, Act.put]; done) | (simp [Act.eval, Act.put, add0]; done) | fail) (by first | exact own_lit_at (w := wq.drew) rfl 3 1 1 [.int .i64 v] (by unfold maxLen; omega) rfl | exact own_lit_at (w := wq) rfl 3 1 1 [.int .i64 v] (by unfold maxLen; omega) rfl | fail) (some ⟨g, 0, none⟩) (p - 0) cC ((ints os).drop 0) (by first | (simp [Act.eval, Act.put]; done) | (simp [Act.eval, Act.put, add0]; done) | fail) (by first | exact rdU_drew (rdU_new1 RDK.out _) | exact rdU_new1 (w := wq.drew) RDK.out _ | exact rdU_new1 (w := wq) RDK.out _ | fail) (by first | exact fun u hu => ints_one _ u (List.mem_of_mem_drop hu) | (simp; done)) (by omega) (by unfold maxLen; omega) (by first | omega | (simp; done) | (simp; omega)) ?_; intro A3 c3 w3 ho3 hg3 hb3; have O3 := Lib.hid ho3; have B3 : Hid (Below wq.heap.size wq w3) := Lib.hid (by first | exact (((Below.refl _ _).drew.alloc (by simp) _).grown hg3 (by simp) (fun k hk => by simp [blk] at hk; omega)) | exact (((Below.refl _ _).alloc (by simp) _).grown hg3 (by simp) (fun k hk => by simp [blk] at hk; omega)) | fail); have hz3 := B3.out.size; have c0i := Keeps.of_below B3.out (Nat.le_refl _) _ _ c0i; have c1i := Keeps.of_below B3.out (Nat.le_refl _) _ _ c1i; clear ho3 hg3 hb3)
                      | (refine step_app _ rfl (.tmp 53) (.tmp 65) 24 rfl w.heap.size 3 (.int .i64 0) 1 8 Tryz.underlying24 info_int' rfl (by decide) (some ⟨g, 0, none⟩) 0 cC ((ints os).take 0) (by first | (simp [Act.eval, Act.put]; done) | (simp [Act.eval, Act.put, add0]; done) | fail) (HT.out.later B3.out) A3 (1 + (p - 0)) c3 ([.int .i64 v] ++ ((ints os).drop 0)) (by first | (simp [Act.eval, Act.put]; done) | (simp [Act.eval, Act.put, add0]; done) | fail) O3.out.rd (by intro u hu; rcases List.mem_append.1 hu with h | h; exact one_int u h; first | exact ints_one _ u (List.mem_of_mem_drop h) | (simp at h)) (by omega) (by unfold maxLen; omega) (by first | omega | (simp; done) | (simp; omega)) ?_; intro A4 c4 w4 ho4 hg4 hb4; have O4 : Hid (Own w4 w.heap.size 3 1 A4 (p + 1) c4 (ints (insI v os))) := Lib.hid (by rw [HDZ.out, ← XE.out, ← LE.out]; exact ho4); have B4 : Hid (Below w.heap.size w w4) := Lib.hid ((HBI.out.trans (B3.out.mono hzi)).grown hg4 (by omega) (fun k hk => (HT.out.lt hk).1)); have c0i := Keeps.of_below B4.out (Nat.le_refl _) _ _ c0w; have c1i := Keeps.of_below B4.out (Nat.le_refl _) _ _ c1w; clear ho4 hg4 hb4)
                      | fail))
                    all_goals
                     go_wp2_with fail
                     go_roundg (lx - (r + 1))
                     case measure => omega
                     case rel => exact ⟨r + 1, A4, p + 1, c4, insI v os, by omega, rfl, by first | rfl | (rw [LE.out]; done) | (congr 1; omega) | fail, by go_num, NL.out, O4.out, NV.out, fun h => absurd h (by omega), B4.out⟩
                  have LE : Hid (k + (1 + (p - k)) = p + 1) := Lib.hid (by omega)
                  go_region_law ((first
                    | (refine step_app _ rfl (.tmp 61) (.tmp 64) 24 rfl wq.heap.size 3 (.int .i64 0) 1 8 Tryz.underlying24 info_int' rfl (by decide) (some ⟨wq.heap.size, 0, none⟩) 1 1 [.int .i64 v] (by first | (simp [Act.eval, Act.put]; done) | (simp [Act.eval, Act.put, add0]; done) | fail) (by first | exact own_lit_at (w := wq.drew) rfl 3 1 1 [.int .i64 v] (by unfold maxLen; omega) rfl | exact own_lit_at (w := wq) rfl 3 1 1 [.int .i64 v] (by unfold maxLen; omega) rfl | fail) (some ⟨g, k, none⟩) (p - k) (cC - k) ((ints os).drop k) (by first | (simp [Act.eval, Act.put]; done) | (simp [Act.eval, Act.put, add0]; done) | fail) (by first | exact rdU_drew (rdU_new1 RDK.out _) | exact rdU_new1 (w := wq.drew) RDK.out _ | exact rdU_new1 (w := wq) RDK.out _ | fail) (by first | exact fun u hu => ints_one _ u (List.mem_of_mem_drop hu) | (simp; done)) (by omega) (by unfold maxLen; omega) (by first | omega | (simp; done) | (simp; omega)) ?_; intro A3 c3 w3 ho3 hg3 hb3; have O3 := Lib.hid ho3; have B3 : Hid (Below wq.heap.size wq w3) := Lib.hid (by first | exact (((Below.refl _ _).drew.alloc (by simp) _).grown hg3 (by simp) (fun k hk => by simp [blk] at hk; omega)) | exact (((Below.refl _ _).alloc (by simp) _).grown hg3 (by simp) (fun k hk => by simp [blk] at hk; omega)) | fail); have hz3 := B3.out.size; have c0i := Keeps.of_below B3.out (Nat.le_refl _) _ _ c0i; have c1i := Keeps.of_below B3.out (Nat.le_refl _) _ _ c1i; clear ho3 hg3 hb3)
                    | (refine step_app _ rfl (.tmp 53) (.tmp 65) 24 rfl w.heap.size 3 (.int .i64 0) 1 8 Tryz.underlying24 info_int' rfl (by decide) (some ⟨g, 0, none⟩) k cC ((ints os).take k) (by first | (simp [Act.eval, Act.put]; done) | (simp [Act.eval, Act.put, add0]; done) | fail) (HT.out.later B3.out) A3 (1 + (p - k)) c3 ([.int .i64 v] ++ ((ints os).drop k)) (by first | (simp [Act.eval, Act.put]; done) | (simp [Act.eval, Act.put, add0]; done) | fail) O3.out.rd (by intro u hu; rcases List.mem_append.1 hu with h | h; exact one_int u h; first | exact ints_one _ u (List.mem_of_mem_drop h) | (simp at h)) (by omega) (by unfold maxLen; omega) (by first | omega | (simp; done) | (simp; omega)) ?_; intro A4 c4 w4 ho4 hg4 hb4; have O4 : Hid (Own w4 w.heap.size 3 1 A4 (p + 1) c4 (ints (insI v os))) := Lib.hid (by rw [HDZ.out, ← XE.out, ← LE.out]; exact ho4); have B4 : Hid (Below w.heap.size w w4) := Lib.hid ((HBI.out.trans (B3.out.mono hzi)).grown hg4 (by omega) (fun k hk => (HT.out.lt hk).1)); have c0i := Keeps.of_below B4.out (Nat.le_refl _) _ _ c0w; have c1i := Keeps.of_below B4.out (Nat.le_refl _) _ _ c1w; clear ho4 hg4 hb4)
                    | fail))
                  all_goals
                   go_wp2_with fail
                   go_roundg (lx - (r + 1))
                   case measure => omega
                   case rel => exact ⟨r + 1, A4, p + 1, c4, insI v os, by omega, rfl, by first | rfl | (rw [LE.out]; done) | (congr 1; omega) | fail, by go_num, NL.out, O4.out, NV.out, fun h => absurd h (by omega), B4.out⟩
              · have hlt1 : ¬ (k : Int) < (p : Int) := by omega
                have j0 := grown_cell c0i
                have j1 := grown_cell c1i
                have LST : Hid (k < os.length → ¬ os.getD k 0 < v) := Lib.hid fun h => by have := OL.out; omega
                go_wp2_with fail
                refine wp_region_q (by kernel_rfl) (by kernel_rfl) ?_
                repeat (go_big_quiet_step (fail))
                refine wpQuiet_nil ?_
                intro wq hgq
                have HBQ := Lib.hid (HBI.out.trans (hgq.mono HBI.out.size))
                clear hgq HBI c0i c1i ki j0 j1
                have HI := Lib.hid (insI_at HAL.out (fun h => by have := LST.out h; omega) (by rw [OL.out]; exact hk) (NI.out))
                have HDZ : Hid (ints (insI v os) = (ints os).take k ++ ([Value.int .i64 v] ++ (ints os).drop k)) := Lib.hid (by rw [HI.out]; simp [ints])
                have NL : Hid ((insI v os).length = p + 1) := Lib.hid (by rw [HI.out]; have := OL.out; simp; omega)
                have NV : Hid (insI v os = unAt pre x (r + 1)) := Lib.hid (NX.out)
                have HBI := Lib.hid (HB1.out.trans (HBQ.out.mono hz1))
                have HO2 := Lib.hid (HO1.out.later HBQ.out)
                have hzi := HBQ.out.size
                have hzi : w.heap.size ≤ wq.heap.size := by omega
                have c0i := Keeps.of_below HBQ.out (Nat.le_refl _) _ _ c0q
                have c1i := Keeps.of_below HBQ.out (Nat.le_refl _) _ _ c1q
                clear HAL LST
                go_upto_region 12 with fail
                by_cases hp0 : p = 0
                · obtain ⟨rfl, rfl⟩ := ZE.out hp0
                  have hos : os = [] := List.eq_nil_of_length_eq_zero (by rw [OL.out, hp0])
                  obtain rfl : k = 0 := by omega
                  subst hos
                  subst hp0
                  have HT : Hid (Own wq w.heap.size 3 1 none 0 0 ((ints []).take 0)) := Lib.hid (Own.nil _ _ _ _)
                  have XE : Hid (([] : List Value) = (ints []).drop 0) := Lib.hid rfl
                  have LE : Hid (0 + (1 + 0) = 0 + 1) := Lib.hid (by omega)
                  go_region_law ((first
                    | (refine step_app _ rfl (.tmp 61) (.tmp 64) 24 rfl wq.heap.size 3 (.int .i64 0) 1 8 Tryz.underlying24 info_int' rfl (by decide) (some ⟨wq.heap.size, 0, none⟩) 1 1 [.int .i64 v] (by first | (simp [Act.eval, Act.put]; done) | (simp [Act.eval, Act.put, add0]; done) | fail) (by first | exact own_lit_at (w := wq.drew) rfl 3 1 1 [.int .i64 v] (by unfold maxLen; omega) rfl | exact own_lit_at (w := wq) rfl 3 1 1 [.int .i64 v] (by unfold maxLen; omega) rfl | fail) none 0 0 [] (by first | (simp [Act.eval, Act.put]; done) | (simp [Act.eval, Act.put, add0]; done) | fail) (by first | exact rdU_drew (rdU_new1 (Rd.nil _ _ _) _) | exact rdU_new1 (w := wq.drew) (Rd.nil _ _ _) _ | exact rdU_new1 (w := wq) (Rd.nil _ _ _) _ | fail) (by first | exact fun u hu => ints_one _ u (List.mem_of_mem_drop hu) | (simp; done)) (by omega) (by unfold maxLen; omega) (by first | omega | (simp; done) | (simp; omega)) ?_; intro A3 c3 w3 ho3 hg3 hb3; have O3 := Lib.hid ho3; have B3 : Hid (Below wq.heap.size wq w3) := Lib.hid (by first | exact (((Below.refl _ _).drew.alloc (by simp) _).grown hg3 (by simp) (fun k hk => by simp [blk] at hk; omega)) | exact (((Below.refl _ _).alloc (by simp) _).grown hg3 (by simp) (fun k hk => by simp [blk] at hk; omega)) | fail); have hz3 := B3.out.size; have c0i := Keeps.of_below B3.out (Nat.le_refl _) _ _ c0i; have c1i := Keeps.of_below B3.out (Nat.le_refl _) _ _ c1i; clear ho3 hg3 hb3)
                    | (refine step_app _ rfl (.tmp 53) (.tmp 65) 24 rfl w.heap.size 3 (.int .i64 0) 1 8 Tryz.underlying24 info_int' rfl (by decide) none 0 0 ((ints []).take 0) (by first | (simp [Act.eval, Act.put]; done) | (simp [Act.eval, Act.put, add0]; done) | fail) (HT.out.later B3.out) A3 (1 + 0) c3 ([.int .i64 v] ++ []) (by first | (simp [Act.eval, Act.put]; done) | (simp [Act.eval, Act.put, add0]; done) | fail) O3.out.rd (by intro u hu; rcases List.mem_append.1 hu with h | h; exact one_int u h; first | exact ints_one _ u (List.mem_of_mem_drop h) | (simp at h)) (by omega) (by unfold maxLen; omega) (by first | omega | (simp; done) | (simp; omega)) ?_; intro A4 c4 w4 ho4 hg4 hb4; have O4 : Hid (Own w4 w.heap.size 3 1 A4 (0 + 1) c4 (ints (insI v []))) := Lib.hid (by rw [HDZ.out, ← XE.out, ← LE.out]; exact ho4); have B4 : Hid (Below w.heap.size w w4) := Lib.hid ((HBI.out.trans (B3.out.mono hzi)).grown hg4 (by omega) (fun k hk => (HT.out.lt hk).1)); have c0i := Keeps.of_below B4.out (Nat.le_refl _) _ _ c0w; have c1i := Keeps.of_below B4.out (Nat.le_refl _) _ _ c1w; clear ho4 hg4 hb4)
                    | fail))
                  all_goals
                   go_wp2_with fail
                   go_roundg (lx - (r + 1))
                   case measure => omega
                   case rel => exact ⟨r + 1, A4, 0 + 1, c4, insI v [], by omega, rfl, by first | rfl | (rw [LE.out]; done) | (congr 1; omega) | fail, by go_num, NL.out, O4.out, NV.out, fun h => absurd h (by omega), B4.out⟩
                obtain ⟨g, rfl, hg1, hg2⟩ := HO2.out.some_ (by omega)
                have HT : Hid (Own wq w.heap.size 3 1 (some ⟨g, 0, none⟩) k cC ((ints os).take k)) := Lib.hid (by have := HO2.out.shrink hk (by simp); simpa using this)
                have XE : Hid ((ints os).drop k = (ints os).drop k) := Lib.hid rfl
                have RDK := Lib.hid (rd_dropi HO2.out.rd hk)
                have hkc : k ≤ cC := by omega
                by_cases hcap2 : cC = k
                · have hkq : p - k = 0 := by omega
                  have RD0 : Hid (Rd wq 1 (some ⟨g, 0, none⟩) 0 ((ints os).drop k)) := Lib.hid (by
                    have h1 := RDK.out.1
                    rw [hkq] at h1
                    have h0 : (ints os).drop k = [] := List.eq_nil_of_length_eq_zero (by omega)
                    rw [h0]
                    exact Rd.nil _ _ _)
                  have DZ : Hid ((ints os).drop k = []) := Lib.hid (List.eq_nil_of_length_eq_zero (by have h1 := RDK.out.1; rw [hkq] at h1; omega))
                  have KQ := Lib.hid (show p = k by omega)
                  clear hkq
                  subst hcap2
                  go_region_law ((first
                    | (refine step_app _ rfl (.tmp 53) (.tmp 65) 24 rfl w.heap.size 3 (.int .i64 0) 1 8 Tryz.underlying24 info_int' rfl (by decide) (some ⟨g, 0, none⟩) cC cC ((ints os).take cC) (by first | (simp [Act.eval, Act.put]; done) | (simp [Act.eval, Act.put, add0]; done) | fail) (by first | exact ownU_drew (HT.out.alloc _) | exact HT.out.alloc _ | fail) (some ⟨wq.heap.size, 0, none⟩) 1 1 [.int .i64 v] (by first | (simp [Act.eval, Act.put]; done) | (simp [Act.eval, Act.put, add0]; done) | fail) (by first | exact rdU_drew (rd_new _ 1 1 [.int .i64 v] _ rfl) | exact rd_new _ 1 1 [.int .i64 v] _ rfl | fail) one_int (by omega) (by unfold maxLen; omega) (by first | omega | (simp; done) | (simp; omega)) ?_; intro A4 c4 w4 ho4 hg4 hb4; have O4 : Hid (Own w4 w.heap.size 3 1 A4 (p + 1) c4 (ints (insI v os))) := Lib.hid (by rw [HDZ.out, DZ.out, List.append_nil, KQ.out]; exact ho4); have B4 : Hid (Below w.heap.size w w4) := Lib.hid (by first | exact ((HBI.out.alloc (by omega) _).drew).grown hg4 (by first | omega | (simp; done) | (simp; omega)) (fun k hk => (HT.out.lt hk).1) | exact (HBI.out.alloc (by omega) _).grown hg4 (by first | omega | (simp; done) | (simp; omega)) (fun k hk => (HT.out.lt hk).1) | fail); have c0i := Keeps.of_below B4.out (Nat.le_refl _) _ _ c0w; have c1i := Keeps.of_below B4.out (Nat.le_refl _) _ _ c1w; clear ho4 hg4 hb4)
                    | fail))
                  all_goals
                   have KQ2 := KQ.out
                   go_wp2_with fail
                   go_roundg (lx - (r + 1))
                   case measure => omega
                   case rel => exact ⟨r + 1, A4, p + 1, c4, insI v os, by omega, rfl, by first | rfl | (congr 1; omega) | fail, by go_num, NL.out, O4.out, NV.out, fun h => absurd h (by omega), B4.out⟩
                by_cases hk0 : k = 0
                · subst hk0
                  have LE : Hid (0 + (1 + (p - 0)) = p + 1) := Lib.hid (by omega)
                  go_region_law ((first
                    | (refine step_app _ rfl (.tmp 61) (.tmp 64) 24 rfl wq.heap.size 3 (.int .i64 0) 1 8 Tryz.underlying24 info_int' rfl (by decide) (some ⟨wq.heap.size, 0, none⟩) 1 1 [.int .i64 v] (by first | (simp [Act.eval, Act.put]; done) | (simp [Act.eval, Act.put, add0]; done) | fail) (by first | exact own_lit_at (w := wq.drew) rfl 3 1 1 [.int .i64 v] (by unfold maxLen; omega) rfl | exact own_lit_at (w := wq) rfl 3 1 1 [.int .i64 v] (by unfold maxLen; omega) rfl | fail) (some ⟨g, 0, none⟩) (p - 0) cC ((ints os).drop 0) (by first | (simp [Act.eval, Act.put]; done) | (simp [Act.eval, Act.put, add0]; done) | fail) (by first | exact rdU_drew (rdU_new1 RDK.out _) | exact rdU_new1 (w := wq.drew) RDK.out _ | exact rdU_new1 (w := wq) RDK.out _ | fail) (by first | exact fun u hu => ints_one _ u (List.mem_of_mem_drop hu) | (simp; done)) (by omega) (by unfold maxLen; omega) (by first | omega | (simp; done) | (simp; omega)) ?_; intro A3 c3 w3 ho3 hg3 hb3; have O3 := Lib.hid ho3; have B3 : Hid (Below wq.heap.size wq w3) := Lib.hid (by first | exact (((Below.refl _ _).drew.alloc (by simp) _).grown hg3 (by simp) (fun k hk => by simp [blk] at hk; omega)) | exact (((Below.refl _ _).alloc (by simp) _).grown hg3 (by simp) (fun k hk => by simp [blk] at hk; omega)) | fail); have hz3 := B3.out.size; have c0i := Keeps.of_below B3.out (Nat.le_refl _) _ _ c0i; have c1i := Keeps.of_below B3.out (Nat.le_refl _) _ _ c1i; clear ho3 hg3 hb3)
                    | (refine step_app _ rfl (.tmp 53) (.tmp 65) 24 rfl w.heap.size 3 (.int .i64 0) 1 8 Tryz.underlying24 info_int' rfl (by decide) (some ⟨g, 0, none⟩) 0 cC ((ints os).take 0) (by first | (simp [Act.eval, Act.put]; done) | (simp [Act.eval, Act.put, add0]; done) | fail) (HT.out.later B3.out) A3 (1 + (p - 0)) c3 ([.int .i64 v] ++ ((ints os).drop 0)) (by first | (simp [Act.eval, Act.put]; done) | (simp [Act.eval, Act.put, add0]; done) | fail) O3.out.rd (by intro u hu; rcases List.mem_append.1 hu with h | h; exact one_int u h; first | exact ints_one _ u (List.mem_of_mem_drop h) | (simp at h)) (by omega) (by unfold maxLen; omega) (by first | omega | (simp; done) | (simp; omega)) ?_; intro A4 c4 w4 ho4 hg4 hb4; have O4 : Hid (Own w4 w.heap.size 3 1 A4 (p + 1) c4 (ints (insI v os))) := Lib.hid (by rw [HDZ.out, ← XE.out, ← LE.out]; exact ho4); have B4 : Hid (Below w.heap.size w w4) := Lib.hid ((HBI.out.trans (B3.out.mono hzi)).grown hg4 (by omega) (fun k hk => (HT.out.lt hk).1)); have c0i := Keeps.of_below B4.out (Nat.le_refl _) _ _ c0w; have c1i := Keeps.of_below B4.out (Nat.le_refl _) _ _ c1w; clear ho4 hg4 hb4)
                    | fail))
                  all_goals
                   go_wp2_with fail
                   go_roundg (lx - (r + 1))
                   case measure => omega
                   case rel => exact ⟨r + 1, A4, p + 1, c4, insI v os, by omega, rfl, by first | rfl | (rw [LE.out]; done) | (congr 1; omega) | fail, by go_num, NL.out, O4.out, NV.out, fun h => absurd h (by omega), B4.out⟩
                have LE : Hid (k + (1 + (p - k)) = p + 1) := Lib.hid (by omega)
                go_region_law ((first
                  | (refine step_app _ rfl (.tmp 61) (.tmp 64) 24 rfl wq.heap.size 3 (.int .i64 0) 1 8 Tryz.underlying24 info_int' rfl (by decide) (some ⟨wq.heap.size, 0, none⟩) 1 1 [.int .i64 v] (by first | (simp [Act.eval, Act.put]; done) | (simp [Act.eval, Act.put, add0]; done) | fail) (by first | exact own_lit_at (w := wq.drew) rfl 3 1 1 [.int .i64 v] (by unfold maxLen; omega) rfl | exact own_lit_at (w := wq) rfl 3 1 1 [.int .i64 v] (by unfold maxLen; omega) rfl | fail) (some ⟨g, k, none⟩) (p - k) (cC - k) ((ints os).drop k) (by first | (simp [Act.eval, Act.put]; done) | (simp [Act.eval, Act.put, add0]; done) | fail) (by first | exact rdU_drew (rdU_new1 RDK.out _) | exact rdU_new1 (w := wq.drew) RDK.out _ | exact rdU_new1 (w := wq) RDK.out _ | fail) (by first | exact fun u hu => ints_one _ u (List.mem_of_mem_drop hu) | (simp; done)) (by omega) (by unfold maxLen; omega) (by first | omega | (simp; done) | (simp; omega)) ?_; intro A3 c3 w3 ho3 hg3 hb3; have O3 := Lib.hid ho3; have B3 : Hid (Below wq.heap.size wq w3) := Lib.hid (by first | exact (((Below.refl _ _).drew.alloc (by simp) _).grown hg3 (by simp) (fun k hk => by simp [blk] at hk; omega)) | exact (((Below.refl _ _).alloc (by simp) _).grown hg3 (by simp) (fun k hk => by simp [blk] at hk; omega)) | fail); have hz3 := B3.out.size; have c0i := Keeps.of_below B3.out (Nat.le_refl _) _ _ c0i; have c1i := Keeps.of_below B3.out (Nat.le_refl _) _ _ c1i; clear ho3 hg3 hb3)
                  | (refine step_app _ rfl (.tmp 53) (.tmp 65) 24 rfl w.heap.size 3 (.int .i64 0) 1 8 Tryz.underlying24 info_int' rfl (by decide) (some ⟨g, 0, none⟩) k cC ((ints os).take k) (by first | (simp [Act.eval, Act.put]; done) | (simp [Act.eval, Act.put, add0]; done) | fail) (HT.out.later B3.out) A3 (1 + (p - k)) c3 ([.int .i64 v] ++ ((ints os).drop k)) (by first | (simp [Act.eval, Act.put]; done) | (simp [Act.eval, Act.put, add0]; done) | fail) O3.out.rd (by intro u hu; rcases List.mem_append.1 hu with h | h; exact one_int u h; first | exact ints_one _ u (List.mem_of_mem_drop h) | (simp at h)) (by omega) (by unfold maxLen; omega) (by first | omega | (simp; done) | (simp; omega)) ?_; intro A4 c4 w4 ho4 hg4 hb4; have O4 : Hid (Own w4 w.heap.size 3 1 A4 (p + 1) c4 (ints (insI v os))) := Lib.hid (by rw [HDZ.out, ← XE.out, ← LE.out]; exact ho4); have B4 : Hid (Below w.heap.size w w4) := Lib.hid ((HBI.out.trans (B3.out.mono hzi)).grown hg4 (by omega) (fun k hk => (HT.out.lt hk).1)); have c0i := Keeps.of_below B4.out (Nat.le_refl _) _ _ c0w; have c1i := Keeps.of_below B4.out (Nat.le_refl _) _ _ c1w; clear ho4 hg4 hb4)
                  | fail))
                all_goals
                 go_wp2_with fail
                 go_roundg (lx - (r + 1))
                 case measure => omega
                 case rel => exact ⟨r + 1, A4, p + 1, c4, insI v os, by omega, rfl, by first | rfl | (rw [LE.out]; done) | (congr 1; omega) | fail, by go_num, NL.out, O4.out, NV.out, fun h => absurd h (by omega), B4.out⟩
        · obtain rfl : r = lx := by omega
          have HE : Hid (os = unI (joinI ls (q + 1))) := Lib.hid (by rw [JN.out, ← unAt_end (k := r) (by rw [HLX.out]; exact Nat.le_refl _)]; exact HV.out)
          go_wp2_with fail
          go_roundg (n - (q + 1))
          case measure => omega
          case rel => exact ⟨q + 1, C, p, cC, os, by omega, rfl, by go_num, rfl, OL.out, HO.out, HE.out, ZE.out, HB.out⟩
    · obtain rfl : q = n := by omega
      go_wp2_with fail
      go_ret
      refine ⟨HB.out, C, cC, ?_, ?_⟩
      · show Ending.returned (Value.slice C p cC) = _
        rw [← HV.out, OL.out]
      · rw [← HV.out, OL.out]; exact HO.out.rd
end Go.Proofs.YtcpkdnhpelkeoaaGreat
