/-
  Contracts and lemmas for the statement, joined: Vl, Vm.
-/
import Derived.Test.YtpdbekgkopglgaaGreatJ13
import Derived.BigQuiet
namespace Go.Proofs.YtpdbekgkopglgaaGreat
set_option linter.unusedVariables false
set_option linter.unusedSimpArgs false
open Go.RowKit Go.Sort
attribute [local go_sem ↓] Go.wp_at_zero Go.wp_at_succ

set_option maxRecDepth 100000 in
set_option maxHeartbeats 8000000 in
theorem many_any (P : Option Addr) (n c : Nat) (R : Option Addr) (m d : Nat) (G : Option Addr) (g gc : Nat) (A : Option Addr) (a ac : Nat) (H : Option Addr) (h hc : Nat) (C : Option Addr) (k kc : Nat) (w : World) (hS : OkS w P n c R m d G g gc A a ac H h hc C k kc) : Calls Tryz.prog 16 #[.agg (sketchC P n c R m d G g gc A a ac H h hc C k kc)] w (BoolPost w) := by
  unfold sketchC
  obtain ⟨W, hW⟩ : ∃ W, W = w.alloc (.cells #[.slice P n c, .slice R m d, .slice G g gc, .slice A a ac, .slice H h hc, .slice C k kc] 29) := ⟨_, rfl⟩
  have b0 : CellsAt W w.heap.size #[.slice P n c, .slice R m d, .slice G g gc, .slice A a ac, .slice H h hc, .slice C k kc] 29 := by rw [hW]; exact CellsAt.new _ _ _
  have BW : Hid (Below w.heap.size w W) := Lib.hid (by rw [hW]; exact (Below.refl _ _).alloc (Nat.le_refl _) _)
  have kW : Keeps w W := by rw [hW]; exact Keeps.alloc _ _
  have HS := Lib.hid (hS.keep kW)
  obtain ⟨hn, hm, hg, ha, hh, hk⟩ := hS.1
  have B0 := Lib.hid b0
  have e0 := b0.at (j := 0) rfl
  have e1 := b0.at (j := 1) rfl
  have e2 := b0.at (j := 2) rfl
  have e3 := b0.at (j := 3) rfl
  have e4 := b0.at (j := 4) rfl
  have e5 := b0.at (j := 5) rfl
  have hWz := b0.lt
  clear b0 kW hS
  have ln : ¬ (200 : Int) < (n : Int) := by omega
  have lm : ¬ (200 : Int) < (m : Int) := by omega
  have lg : ¬ (200 : Int) < (g : Int) := by omega
  have la : ¬ (200 : Int) < (a : Int) := by omega
  have lh : ¬ (200 : Int) < (h : Int) := by omega
  have lk : ¬ (200 : Int) < (k : Int) := by omega
  go_enter Tryz.func16, Tryz.ntmps16
  go_upto_region 1 with fail
  rw [← hW]
  have HW := Lib.hid hW
  clear hW
  go_wp2_with fail
  go_loopg [3] h (fun gg iv wz => ∃ i : Nat, iv = .int .i64 (i : Int) ∧ i + gg = h ∧ wz = W)
  case atStart => exact ⟨0, rfl, by omega, rfl⟩
  case round =>
    obtain ⟨i, rfl, hig, hwz⟩ := hrel
    rename World => wz
    have hwy := hwz.symm
    clear hwz
    subst hwy
    by_cases h5 : i < h
    · have h5i : (i : Int) < (h : Int) := by omega
      obtain ⟨ad, cs1, rfl, hsz, hel, hex⟩ := HS.out.2.2.2.2.2.1 i h5
      obtain ⟨Q1, q1, qc1, hc1, hq1, hq2⟩ := hex
      have f0 := hel.zero (x := .slice Q1 q1 qc1) (by rw [hc1]; rfl)
      rw [Nat.mul_one] at f0
      have hq20i : ¬ (200 : Int) < (q1 : Int) := by omega
      clear hel hc1 hq2
      go_wp2_with fail
      go_roundg (h - (i + 1))
      case measure => omega
      case rel => exact ⟨i + 1, by go_num, by omega, rfl⟩
    · obtain rfl : i = h := by omega
      go_wp2_with fail
      go_ret
      exact boolPost_ret BW.out
/-- The two ends of a piece, off the memory. -/
def EndsAt (w : World) (G : Option Addr) (g : Nat) (A : Option Addr) (a : Nat) (b : Bool) (xi : Int) (x y : Int) : Prop :=
  (b = true ∧ ∃ (ad : Addr) (i : Nat), A = some ad ∧ xi = (i : Int) ∧ i < a ∧ w.cell? ⟨(ad.add (i * 4)).block, (ad.add (i * 4)).off + 1, none⟩ = some (.int .i64 x) ∧ w.cell? ⟨(ad.add (i * 4)).block, (ad.add (i * 4)).off + 2, none⟩ = some (.int .i64 y)) ∨
  (b = false ∧ ∃ (ad : Addr) (i : Nat), G = some ad ∧ xi = (i : Int) ∧ i < g ∧ w.cell? (ad.add (i * 2)) = some (.int .i64 x) ∧ w.cell? ⟨(ad.add (i * 2)).block, (ad.add (i * 2)).off + 1, none⟩ = some (.int .i64 y))
theorem EndsAt.keep {w w' : World} {G : Option Addr} {g : Nat} {A : Option Addr} {a : Nat} {b : Bool} {xi x y : Int} (hE : EndsAt w G g A a b xi x y) (kk : Keeps w w') : EndsAt w' G g A a b xi x y := by
  rcases hE with ⟨h0, ad, i, h1, h2, h3, h4, h5⟩ | ⟨h0, ad, i, h1, h2, h3, h4, h5⟩
  · exact .inl ⟨h0, ad, i, h1, h2, h3, kk _ _ h4, kk _ _ h5⟩
  · exact .inr ⟨h0, ad, i, h1, h2, h3, kk _ _ h4, kk _ _ h5⟩
def endsV (bk : Bool) (x y : Int) : Value := .tuple #[.int .i64 (if bk then y else x), .int .i64 (if bk then x else y)]
set_option maxRecDepth 100000 in
set_option maxHeartbeats 8000000 in
theorem ends_any (P : Option Addr) (n c : Nat) (R : Option Addr) (m d : Nat) (G : Option Addr) (g gc : Nat) (A : Option Addr) (a ac : Nat) (H : Option Addr) (h hc : Nat) (C : Option Addr) (k kc : Nat) (b bk : Bool) (xi x y : Int) (w : World) (hg : g ≤ 10) (ha : a ≤ 10) (hE : EndsAt w G g A a b xi x y) : Calls Tryz.prog 39 #[.agg (sketchC P n c R m d G g gc A a ac H h hc C k kc), .agg #[.bool b, .int .i64 xi, .bool bk]] w fun e w' => e = .returned (endsV bk x y) ∧ Below w.heap.size w w' := by
  unfold sketchC
  obtain ⟨W, hW⟩ : ∃ W, W = (w.alloc (.cells #[.slice P n c, .slice R m d, .slice G g gc, .slice A a ac, .slice H h hc, .slice C k kc] 29)).alloc (.cells #[.bool b, .int .i64 xi, .bool bk] 86) := ⟨_, rfl⟩
  have b0 : CellsAt W w.heap.size #[.slice P n c, .slice R m d, .slice G g gc, .slice A a ac, .slice H h hc, .slice C k kc] 29 := by rw [hW]; exact (CellsAt.new _ _ _).alloc _
  have b1 : CellsAt W (w.heap.size + 1) #[.bool b, .int .i64 xi, .bool bk] 86 := by rw [hW]; exact CellsAt.new_at (by simp) _ _
  have BW : Hid (∀ q, Below w.heap.size w (W.drewN q)) := Lib.hid (fun q => by rw [hW]; exact below_dN (((Below.refl _ _).alloc (Nat.le_refl _) _).alloc (by simp) _) q)
  have BW0 : Hid (Below w.heap.size w W) := Lib.hid (by rw [hW]; exact (((Below.refl _ _).alloc (Nat.le_refl _) _).alloc (by simp) _))
  have kW : Keeps w W := by rw [hW]; exact (Keeps.alloc _ _).trans (Keeps.alloc _ _)
  have hE' := hE.keep kW
  have e2 := b0.at (j := 2) rfl
  have e3 := b0.at (j := 3) rfl
  have p0 := b1.at (j := 0) rfl
  have p1 := b1.at (j := 1) rfl
  have p2 := b1.at (j := 2) rfl
  clear b0 b1 kW hE
  rcases hE' with ⟨rfl, ad, i, rfl, rfl, h3, h4, h5⟩ | ⟨rfl, ad, i, rfl, rfl, h3, h4, h5⟩
  · have i0 : (0 : Int) ≤ (i : Int) := by omega
    have i1 : (i : Int) < (a : Int) := by omega
    go_enter Tryz.func39, Tryz.ntmps39
    go_upto_region 1 with fail
    rw [← hW]
    have HW := Lib.hid hW
    clear hW
    go_upto_region 3 with fail
    go_quiet (fail)
    all_goals
      cases bk
      · go_wp2_with fail
        exact bodyPost_ret (v := endsV false x y) (by simp [endsV, results, Tryz.results39, go_sem]) rfl ⟨rfl, BW.out _⟩
      · go_wp2_with fail
        exact bodyPost_ret (v := endsV true x y) (by simp [endsV, results, Tryz.results39, go_sem]) rfl ⟨rfl, BW.out _⟩
  · have i0 : (0 : Int) ≤ (i : Int) := by omega
    have i1 : (i : Int) < (g : Int) := by omega
    go_enter Tryz.func39, Tryz.ntmps39
    go_upto_region 1 with fail
    rw [← hW]
    have HW := Lib.hid hW
    clear hW
    go_upto_region 4 with fail
    go_quiet (fail)
    all_goals
      cases bk
      · go_wp2_with fail
        exact bodyPost_ret (v := endsV false x y) (by simp [endsV, results, Tryz.results39, go_sem]) rfl ⟨rfl, BW.out _⟩
      · go_wp2_with fail
        exact bodyPost_ret (v := endsV true x y) (by simp [endsV, results, Tryz.results39, go_sem]) rfl ⟨rfl, BW.out _⟩
end Go.Proofs.YtpdbekgkopglgaaGreat
namespace Go.Proofs.YtpdbekgkopglgaaGreat
set_option linter.unusedVariables false
set_option linter.unusedSimpArgs false
open Go.RowKit Go.Sort
attribute [local go_sem ↓] Go.wp_at_zero Go.wp_at_succ

/-- A piece that names a segment or an arc that is there. -/
def PieceOk (g a : Nat) (cs : Array Value) : Prop := ∃ (b : Bool) (xi : Int) (bk : Bool), cs = #[.bool b, .int .i64 xi, .bool bk] ∧ (b = true → 0 ≤ xi ∧ xi < (a : Int)) ∧ (b = false → 0 ≤ xi ∧ xi < (g : Int))
theorem ends_of_ok {w : World} {P : Option Addr} {n c : Nat} {R : Option Addr} {m d : Nat} {G : Option Addr} {g gc : Nat} {A : Option Addr} {a ac : Nat} {H : Option Addr} {h hc : Nat} {C : Option Addr} {k kc : Nat} (hS : OkS w P n c R m d G g gc A a ac H h hc C k kc) {b : Bool} {xi : Int} (bk : Bool) (h1 : b = true → 0 ≤ xi ∧ xi < (a : Int)) (h2 : b = false → 0 ≤ xi ∧ xi < (g : Int)) :
    ∃ u v : Int, ∀ w', Keeps w w' → Calls Tryz.prog 39 #[.agg #[.slice P n c, .slice R m d, .slice G g gc, .slice A a ac, .slice H h hc, .slice C k kc], .agg #[.bool b, .int .i64 xi, .bool bk]] w' fun e w'' => e = .returned (.tuple #[.int .i64 u, .int .i64 v]) ∧ Below w'.heap.size w' w'' := by
  have hg : g ≤ 10 := hS.1.2.2.1
  have ha : a ≤ 10 := hS.1.2.2.2.1
  have hE : ∃ x y, EndsAt w G g A a b xi x y := by
    cases b
    · obtain ⟨h3, h4⟩ := h2 rfl
      obtain ⟨ad, cs, rfl, hsz, hel, x, y, hc⟩ := hS.2.2.2.1 xi.toNat (by omega)
      exact ⟨x, y, .inr ⟨rfl, ad, xi.toNat, rfl, by omega, by omega, hel.zero (by rw [hc]; rfl), hel.at (j := 1) (by omega) (by rw [hc]; rfl)⟩⟩
    · obtain ⟨h3, h4⟩ := h1 rfl
      obtain ⟨ad, cs, rfl, hsz, hel, x0, x, y, cw, hc⟩ := hS.2.2.2.2.1 xi.toNat (by omega)
      exact ⟨x, y, .inl ⟨rfl, ad, xi.toNat, rfl, by omega, by omega, hel.at (j := 1) (by omega) (by rw [hc]; rfl), hel.at (j := 2) (by omega) (by rw [hc]; rfl)⟩⟩
  obtain ⟨x, y, hE⟩ := hE
  exact ⟨_, _, fun w' hk => ends_any P n c R m d G g gc A a ac H h hc C k kc b bk xi x y w' hg ha (hE.keep hk)⟩
theorem has_v {n i : Int} {v : Bool} (hv : (decide (0 ≤ i) && decide (i < n)) = v) (w' : World) : Calls Tryz.prog 18 #[.int .i64 n, .int .i64 i] w' fun e w'' => e = .returned (.bool v) ∧ w' = w'' := by
  subst hv; exact has26_any n i w'
theorem has_t {n i : Int} (hv : (decide (0 ≤ i) && decide (i < n)) = true) : 0 ≤ i ∧ i < n := by simpa using hv
set_option maxRecDepth 100000 in
set_option maxHeartbeats 16000000 in
theorem chain_any (P : Option Addr) (n c : Nat) (R : Option Addr) (m d : Nat) (G : Option Addr) (g gc : Nat) (A : Option Addr) (a ac : Nat) (H : Option Addr) (h hc : Nat) (C : Option Addr) (k kc : Nat) (Q : Option Addr) (q qc : Nat) (w : World) (hS : OkS w P n c R m d G g gc A a ac H h hc C k kc) (hq : q ≤ 20) (hQ : SlAt w 3 Q q PcAt) : Calls Tryz.prog 20 #[.agg (sketchC P n c R m d G g gc A a ac H h hc C k kc), .slice Q q qc] w (BoolPost w) := by
  unfold sketchC
  obtain ⟨W, hW⟩ : ∃ W, W = w.alloc (.cells #[.slice P n c, .slice R m d, .slice G g gc, .slice A a ac, .slice H h hc, .slice C k kc] 29) := ⟨_, rfl⟩
  have b0 : CellsAt W w.heap.size #[.slice P n c, .slice R m d, .slice G g gc, .slice A a ac, .slice H h hc, .slice C k kc] 29 := by rw [hW]; exact CellsAt.new _ _ _
  have BW : Hid (Below w.heap.size w W) := Lib.hid (by rw [hW]; exact (Below.refl _ _).alloc (Nat.le_refl _) _)
  have kW : Keeps w W := by rw [hW]; exact Keeps.alloc _ _
  have HS := Lib.hid (hS.keep kW)
  have HQ := Lib.hid (hQ.keep kW (fun _ h => h))
  obtain ⟨hn, hm, hg, ha, hh, hk⟩ := hS.1
  have B0 := Lib.hid b0
  have hWz := b0.lt
  clear b0 kW hS hQ
  go_enter Tryz.func20, Tryz.ntmps20
  go_upto_region 1 with fail
  rw [← hW]
  have HW := Lib.hid hW
  clear hW
  go_wp2_with fail
  go_loopg [5] q (fun gg iv wr => ∃ i : Nat, iv = .int .i64 (i : Int) ∧ i + gg = q ∧ SlAt W 3 Q i (PieceOk g a) ∧ Below W.heap.size W wr)
  case atStart => exact ⟨0, rfl, by omega, SlAt.none _ _ _ _, Below.refl _ _⟩
  case round =>
    obtain ⟨i, rfl, hig, hsl, hb⟩ := hrel
    rename World => wr
    have SL := Lib.hid hsl
    have BR := Lib.hid hb
    have KR := Lib.hid (Keeps.of_below hb (Nat.le_refl _))
    have BWR := Lib.hid (BW.out.trans (hb.mono (by omega)))
    have B1 := Lib.hid (B0.out.below hb hWz)
    have e0 := B1.out.at (j := 0) rfl
    have e1 := B1.out.at (j := 1) rfl
    have e2 := B1.out.at (j := 2) rfl
    have e3 := B1.out.at (j := 3) rfl
    have e4 := B1.out.at (j := 4) rfl
    have e5 := B1.out.at (j := 5) rfl
    clear hsl hb
    by_cases h5 : i < q
    · have h5i : (i : Int) < (q : Int) := by omega
      have h50 : (0 : Int) ≤ (i : Int) := by omega
      obtain ⟨ad, cs1, rfl, hsz, hel, b, xi, bk, hc1⟩ := HQ.out i h5
      have HEL := Lib.hid hel
      have HC1 := Lib.hid hc1
      have hel' := hel.keep KR.out
      have f0 := hel'.zero (x := .bool b) (by rw [hc1]; rfl)
      have f1 := hel'.at (j := 1) (by omega) (x := .int .i64 xi) (by rw [hc1]; rfl)
      have f2 := hel'.at (j := 2) (by omega) (x := .bool bk) (by rw [hc1]; rfl)
      have k2 := grown_cell e2
      have k3 := grown_cell e3
      have j0 := grown_cell f0
      have j1 := grown_cell f1
      clear hel hel' hc1
      go_upto_region 4 with fail
      go_cut [52] (fun zv wx => ∃ z, zv = .bool z ∧ Below wr.heap.size wr wx ∧ (z = false → (b = true → 0 ≤ xi ∧ xi < (a : Int)) ∧ (b = false → 0 ≤ xi ∧ xi < (g : Int))))
      case first =>
        cases b
        · cases hv : (decide (0 ≤ xi) && decide (xi < (g : Int)))
          · have cH := call_p (w := wr) (fun w' => has_v hv w')
            refine wp_region_q (by kernel_rfl) (by kernel_rfl) ?_
            repeat (go_big_quiet_step (first | with_reducible exact cH _ _))
            refine wpQuiet_nil ?_
            intro wq hgq
            go_wp2_with fail
            go_meet
            exact ⟨_, rfl, hgq, fun e => by cases e⟩
          · have cH := call_p (w := wr) (fun w' => has_v hv w')
            refine wp_region_q (by kernel_rfl) (by kernel_rfl) ?_
            repeat (go_big_quiet_step (first | with_reducible exact cH _ _))
            refine wpQuiet_nil ?_
            intro wq hgq
            go_wp2_with fail
            go_meet
            exact ⟨_, rfl, hgq, fun _ => ⟨fun e => (by cases e), fun _ => has_t hv⟩⟩
        · cases hv : (decide (0 ≤ xi) && decide (xi < (a : Int)))
          · have cH := call_p (w := wr) (fun w' => has_v hv w')
            refine wp_region_q (by kernel_rfl) (by kernel_rfl) ?_
            repeat (go_big_quiet_step (first | with_reducible exact cH _ _))
            refine wpQuiet_nil ?_
            intro wq hgq
            go_wp2_with fail
            go_meet
            exact ⟨_, rfl, hgq, fun e => by cases e⟩
          · have cH := call_p (w := wr) (fun w' => has_v hv w')
            refine wp_region_q (by kernel_rfl) (by kernel_rfl) ?_
            repeat (go_big_quiet_step (first | with_reducible exact cH _ _))
            refine wpQuiet_nil ?_
            intro wq hgq
            go_wp2_with fail
            go_meet
            exact ⟨_, rfl, hgq, fun _ => ⟨fun _ => has_t hv, fun e => (by cases e)⟩⟩
      case rest =>
        obtain ⟨z, rfl, hb2, hz⟩ := hcut
        rename World => w2
        have BR2 := Lib.hid (BR.out.trans (hb2.mono BR.out.size))
        have BW2 := Lib.hid (BWR.out.trans (hb2.mono BWR.out.size))
        have HZ := Lib.hid hz
        clear e0 e1 e2 e3 e4 e5 f0 f1 f2 k2 k3 j0 j1 hz hb2
        cases z
        · obtain ⟨hz1, hz2⟩ := HZ.out rfl
          have SL2 : Hid (SlAt W 3 (some ad) (i + 1) (PieceOk g a)) := Lib.hid (SL.out.more rfl hsz HEL.out ⟨b, xi, bk, HC1.out, hz1, hz2⟩)
          obtain ⟨u2, v2, hE2⟩ := ends_of_ok HS.out bk hz1 hz2
          have HE2 := Lib.hid hE2
          clear hE2 hz1 hz2
          by_cases h0 : i = 0
          · have h0i : ¬ (0 : Int) < (i : Int) := by omega
            clear h0
            go_wp2_with fail
            go_roundg (q - (i + 1))
            case measure => omega
            case rel => exact ⟨i + 1, by go_num, by omega, SL2.out, BR2.out⟩
          · have h0i : (0 : Int) < (i : Int) := by omega
            obtain ⟨p, hp⟩ : ∃ p, i = p + 1 := ⟨i - 1, by omega⟩
            obtain ⟨ad', cs0, had, hsz0, hel0, b', xi', bk', hc0, y1, y2⟩ := SL.out p (by omega)
            cases had
            obtain ⟨u1, v1, hE1⟩ := ends_of_ok HS.out bk' y1 y2
            have HE1 := Lib.hid hE1
            have hip : (i : Int) - 1 = (p : Int) := by omega
            have hp0 : (0 : Int) ≤ (p : Int) := by omega
            have hp1 : (p : Int) < (q : Int) := by omega
            have hi20 : (i : Int) ≤ 20 := by omega
            have K2 := Lib.hid (Keeps.of_below BR2.out (Nat.le_refl _))
            have Z2 := Lib.hid (B0.out.below BR2.out hWz)
            have q0 := (hel0.keep K2.out).zero (x := .bool b') (by rw [hc0]; rfl)
            have q1 := (hel0.keep K2.out).at (j := 1) (by omega) (x := .int .i64 xi') (by rw [hc0]; rfl)
            have q2 := (hel0.keep K2.out).at (j := 2) (by omega) (x := .bool bk') (by rw [hc0]; rfl)
            have j0 := grown_cell q0
            have j1 := grown_cell q1
            have j2 := grown_cell q2
            have e0 := Z2.out.at (j := 0) rfl
            have k0 := grown_cell e0
            have e1 := Z2.out.at (j := 1) rfl
            have k1 := grown_cell e1
            have e2 := Z2.out.at (j := 2) rfl
            have k2 := grown_cell e2
            have e3 := Z2.out.at (j := 3) rfl
            have k3 := grown_cell e3
            have e4 := Z2.out.at (j := 4) rfl
            have k4 := grown_cell e4
            have e5 := Z2.out.at (j := 5) rfl
            have k5 := grown_cell e5
            have cE1 := call_q (w := w2) (fun w' hk => HE1.out w' (K2.out.trans hk))
            clear hE1 hel0 hc0 y1 y2 h0 hp
            go_upto_region 7 with fail
            refine wp_region_q (by kernel_rfl) (by kernel_rfl) ?_
            repeat (go_big_quiet_step (first | with_reducible exact cE1 _ _))
            refine wpQuiet_nil ?_
            intro w3 hg3
            have BR3 := Lib.hid (BR2.out.trans (hg3.mono BR2.out.size))
            have BW3 := Lib.hid (BW2.out.trans (hg3.mono BW2.out.size))
            have K3 := Lib.hid (Keeps.of_below BR3.out (Nat.le_refl _))
            have Z3 := Lib.hid (B0.out.below BR3.out hWz)
            clear hg3 cE1 e0 k0 e1 k1 e2 k2 e3 k3 e4 k4 e5 k5 q0 q1 q2 j0 j1 j2
            have f0 := (HEL.out.keep K3.out).zero (x := .bool b) (by rw [HC1.out]; rfl)
            have f1 := (HEL.out.keep K3.out).at (j := 1) (by omega) (x := .int .i64 xi) (by rw [HC1.out]; rfl)
            have f2 := (HEL.out.keep K3.out).at (j := 2) (by omega) (x := .bool bk) (by rw [HC1.out]; rfl)
            have j0 := grown_cell f0
            have j1 := grown_cell f1
            have j2 := grown_cell f2
            have e0 := Z3.out.at (j := 0) rfl
            have k0 := grown_cell e0
            have e1 := Z3.out.at (j := 1) rfl
            have k1 := grown_cell e1
            have e2 := Z3.out.at (j := 2) rfl
            have k2 := grown_cell e2
            have e3 := Z3.out.at (j := 3) rfl
            have k3 := grown_cell e3
            have e4 := Z3.out.at (j := 4) rfl
            have k4 := grown_cell e4
            have e5 := Z3.out.at (j := 5) rfl
            have k5 := grown_cell e5
            have cE2 := call_q (w := w3) (fun w' hk => HE2.out w' (K3.out.trans hk))
            go_upto_region 8 with fail
            refine wp_region_q (by kernel_rfl) (by kernel_rfl) ?_
            repeat (go_big_quiet_step (first | with_reducible exact cE2 _ _))
            refine wpQuiet_nil ?_
            intro w4 hg4
            have BR4 := Lib.hid (BR3.out.trans (hg4.mono BR3.out.size))
            have BW4 := Lib.hid (BW3.out.trans (hg4.mono BW3.out.size))
            clear hg4 cE2 e0 k0 e1 k1 e2 k2 e3 k3 e4 k4 e5 k5 f0 f1 f2 j0 j1 j2
            cases h9 : (v1 != u2)
            · go_wp2_with fail
              go_roundg (q - (i + 1))
              case measure => omega
              case rel => exact ⟨i + 1, by go_num, by omega, SL2.out, BR4.out⟩
            · go_wp2_with fail
              go_ret
              exact boolPost_ret BW4.out
        · go_wp2_with fail
          go_ret
          exact boolPost_ret BW2.out
    · obtain rfl : i = q := by omega
      go_wp2_with fail
      go_ret
      exact boolPost_ret BWR.out
end Go.Proofs.YtpdbekgkopglgaaGreat
