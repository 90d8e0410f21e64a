/-
  The closure of ClusterGrows: the edges of the new point that come before a limit.
-/
import Derived.Test.YtagcaljpgifppaaKd
import Derived.Test.YtagcaljpgifppaaCv
namespace Go.Proofs.Ytagcaljpgifppaa
set_option linter.unusedVariables false
set_option linter.unusedSimpArgs false
open Go.RowKit Go.Sort
attribute [local go_sem ↓] Go.wp_at_zero Go.wp_at_succ

/-- The list of pairs that lies behind the header in block be. -/
structure EBx (w : World) (be : Nat) (L : List (Int × Int)) (B : Option Addr) (l c : Nat) : Prop where
  c0 : w.cell? ⟨be, 0, none⟩ = some (.slice B l c)
  fz : w.frozen? ⟨be, 0, none⟩ = false
  lt : be < w.heap.size
  ow : Own w (be + 1) 42 2 B l c (prs L)
def EB (w : World) (be : Nat) (L : List (Int × Int)) : Prop := ∃ B l c, EBx w be L B l c
theorem EBx.later {w w' : World} {be l c : Nat} {B : Option Addr} {L : List (Int × Int)} (h : EBx w be L B l c) (hb : Below w.heap.size w w') : EBx w' be L B l c := by
  obtain ⟨h0, h1, h2, h3⟩ := h
  have k := Keeps.of_below hb (Nat.le_refl _)
  exact ⟨k _ _ h0, by rw [hb.frozen (by exact h2)]; exact h1, Nat.lt_of_lt_of_le h2 hb.size, h3.later hb⟩
theorem EB.later {w w' : World} {be : Nat} {L : List (Int × Int)} (h : EB w be L) (hb : Below w.heap.size w w') : EB w' be L := by
  obtain ⟨B, l, c, h0, h1, h2, h3⟩ := h
  have k := Keeps.of_below hb (Nat.le_refl _)
  exact ⟨B, l, c, k _ _ h0, by rw [hb.frozen (by exact h2)]; exact h1, Nat.lt_of_lt_of_le h2 hb.size, h3.later hb⟩
/-- What 'done' has added when i of the two points have been looked at. -/
def dnI (n a b : Nat) (lim : Int) (L : List (Int × Int)) : Nat → List (Int × Int)
  | 0 => L
  | 1 => dn1 n lim a L
  | _ => dn2 n a b lim L
theorem dnI_step {n a b : Nat} {lim : Int} {L : List (Int × Int)} {i x : Nat} (hi : i < 2) (hx : x = if i = 0 then a else b) : dnI n a b lim L (i + 1) = dn1 n lim x (dnI n a b lim L i) := by
  have h : i = 0 ∨ i = 1 := by omega
  rcases h with rfl | rfl
  · subst hx; rfl
  · subst hx; rfl
theorem dn1_no1 {n : Nat} {lim : Int} {x : Nat} {L : List (Int × Int)} (h : decide ((x : Int) < lim) = false) : dn1 n lim x L = L := by unfold dn1; rw [h]; rfl
theorem dn1_no2 {n : Nat} {lim : Int} {x : Nat} {L : List (Int × Int)} (h : decide (((x : Int), (n : Int)) ∈ L) = true) : dn1 n lim x L = L := by unfold dn1; rw [h]; simp
theorem dn1_yes {n : Nat} {lim : Int} {x : Nat} {L : List (Int × Int)} (h1 : decide ((x : Int) < lim) = true) (h2 : decide (((x : Int), (n : Int)) ∈ L) = false) : dn1 n lim x L = L ++ [((x : Int), (n : Int))] := by unfold dn1; rw [h1, h2]; rfl
/-- The cells of w stand in w', but those of block be and of the list behind it. -/
def KeepC (w : World) (B0 : Option Addr) (be : Nat) (w' : World) : Prop := ∀ p v, p.block ≠ be → blk B0 ≠ some p.block → w.cell? p = some v → w'.cell? p = some v
theorem KeepC.keep {w w1 w2 : World} {B0 : Option Addr} {be : Nat} (h : KeepC w B0 be w1) (k : Keeps w1 w2) : KeepC w B0 be w2 := fun p v h1 h2 h3 => k p v (h p v h1 h2 h3)
theorem KeepC.grown {w w1 w2 : World} {B0 B : Option Addr} {be : Nat} (h : KeepC w B0 be w1) (hB : blk B = blk B0 ∨ ∀ k, blk B = some k → w.heap.size ≤ k) (hg : w1.grownBy w2 (blk B)) : KeepC w B0 be w2 := fun p v h1 h2 h3 => by
  have h4 := h p v h1 h2 h3
  have h5 := World.block_lt_of_cell? w p h3
  refine World.grownBy.cell hg h4 (fun e => ?_)
  rcases hB with hB | hB
  · rw [hB] at e; exact h2 e.symm
  · have := hB _ e.symm; omega
theorem KeepC.set {w w1 : World} {B0 : Option Addr} {be : Nat} (h : KeepC w B0 be w1) (u : Value) : KeepC w B0 be (w1.setCell ⟨be, 0, none⟩ u) := fun p v h1 h2 h3 => by
  rw [World.cell?_setCell_other _ _ _ _ (fun e => h1 (by rw [← e]))]; exact h p v h1 h2 h3
def DonePost (w : World) (B0 : Option Addr) (be n a b : Nat) (lim : Int) (L : List (Int × Int)) (e : Ending) (w' : World) : Prop :=
  e = .returned (.tuple #[]) ∧ Below be w w' ∧ EB w' be (dn2 n a b lim L) ∧ KeepC w B0 be w'
set_option maxRecDepth 100000 in
set_option maxHeartbeats 8000000 in
theorem done_any (n a b ba bb bg be l0 c0 : Nat) (B0 : Option Addr) (lim : Int) (L : List (Int × Int)) (w : World) (hL : L.length ≤ 100000) (hba : ba < be) (hbb : bb < be) (hbg : bg < be) (ca : w.cell? ⟨ba, 0, none⟩ = some (.int .i64 (a : Int))) (cb : w.cell? ⟨bb, 0, none⟩ = some (.int .i64 (b : Int))) (cg : w.cell? ⟨bg, 0, none⟩ = some (.int .i64 (n : Int))) (h0 : EBx w be L B0 l0 c0) :
    Calls Try.prog 48 #[.int .i64 lim, .pointer (some ⟨ba, 0, none⟩), .pointer (some ⟨bb, 0, none⟩), .pointer (some ⟨be, 0, none⟩), .pointer (some ⟨bg, 0, none⟩)] w (DonePost w B0 be n a b lim L) := by
  have H : Hid (EB w be L) := Lib.hid ⟨B0, l0, c0, h0⟩
  have hbe := h0.lt
  have LEN : Hid (∀ i, (dnI n a b lim L i).length ≤ 100002) := Lib.hid fun i => by
    have h1 := dn1_len (n := n) (lim := lim) (c := a) (L := L)
    have h2 := dn2_len (n := n) (a := a) (b := b) (lim := lim) (L := L)
    match i with
    | 0 => show L.length ≤ _; omega
    | 1 => show (dn1 n lim a L).length ≤ _; omega
    | i + 2 => show (dn2 n a b lim L).length ≤ _; omega
  have HL0 : Hid (Own (w.alloc (.cells #[.int .i64 (a : Int), .int .i64 (b : Int)] 3)) w.heap.size 3 1 (some ⟨w.heap.size, 0, none⟩) 2 2 (ints [(a : Int), (b : Int)])) := Lib.hid (own_lit_at rfl 3 1 2 (ints [(a : Int), (b : Int)]) (by unfold maxLen; omega) rfl)
  have HE0 : Hid (EBx (w.alloc (.cells #[.int .i64 (a : Int), .int .i64 (b : Int)] 3)) be L B0 l0 c0) := Lib.hid (EBx.later h0 ((Below.refl _ _).alloc (Nat.le_refl _) _))
  clear h0
  go_enter Try.func48, Try.ntmps48
  go_wp2_with fail
  go_loopg [12] 2 (fun gg t wr => ∃ i : Nat, i ≤ 2 ∧ gg = 2 - i ∧ t = .int .i64 i ∧ Below be w wr ∧ w.heap.size ≤ wr.heap.size ∧ (∃ B l c, EBx wr be (dnI n a b lim L i) B l c ∧ (blk B = blk B0 ∨ ∀ k, blk B = some k → w.heap.size ≤ k)) ∧ KeepC w B0 be wr ∧ Own wr w.heap.size 3 1 (some ⟨w.heap.size, 0, none⟩) 2 2 (ints [(a : Int), (b : Int)]))
  case atStart => exact ⟨0, Nat.zero_le _, rfl, rfl, (Below.refl _ _).alloc (by omega) _, by simp, ⟨B0, l0, c0, HE0.out, .inl rfl⟩, fun p v _ _ h3 => Keeps.alloc _ _ _ _ h3, HL0.out⟩
  case round =>
    obtain ⟨i, hi, rfl, rfl, hb, hz, he, hkc, hl⟩ := hrel
    have KC := Lib.hid hkc
    clear hkc
    have HB := Lib.hid hb
    have HLt := Lib.hid hl
    have cg' : wr.cell? ⟨bg, 0, none⟩ = some (.int .i64 (n : Int)) := by rw [hb.cell (by exact hbg)]; exact cg
    by_cases hi2 : i < 2
    · obtain ⟨x, hx⟩ : ∃ x : Nat, x = if i = 0 then a else b := ⟨_, rfl⟩
      have ST := Lib.hid (dnI_step (n := n) (lim := lim) (L := L) hi2 hx)
      obtain ⟨ad, e9, -, cx⟩ := hl.rd.int_at hi2
      have hxx : ([(a : Int), (b : Int)] : List Int).getD i 0 = (x : Int) := by
        have h : i = 0 ∨ i = 1 := by omega
        rcases h with rfl | rfl
        · subst hx; rfl
        · subst hx; rfl
      rw [hxx] at cx
      injection e9 with e9
      subst e9
      rw [add0] at cx
      have LI := LEN.out i
      generalize dnI n a b lim L i = M at *
      obtain ⟨B, l, c, hx9, hBB⟩ := he
      have HBB := Lib.hid hBB
      clear hBB
      have EX := Lib.hid hx9
      have ce := hx9.c0
      have fe := hx9.fz
      have hel := hx9.lt
      have hpl := hx9.ow.plen
      have HO := Lib.hid hx9.ow
      clear hx9 hl hxx hx
      have JN : Hid (∀ bo W, decide (((x : Int), (n : Int)) ∈ M) = bo → Rd W 2 B l (prs M) → Calls Try.prog 49 #[.agg #[.int .i64 0, .slice B l c], .int .i64 (x : Int), .int .i64 (n : Int)] W fun e w' => e = .returned (.bool bo) ∧ Below W.heap.size W w') := Lib.hid fun bo W hbo h => joined36_b 0 B l c M x n W (by omega) h hbo
      cases h1 : decide ((x : Int) < lim)
      · have NX := Lib.hid (dn1_no1 (n := n) (L := M) h1)
        go_wp2_with fail
        go_roundg (2 - (i + 1))
        case measure => omega
        case rel => exact ⟨i + 1, by omega, rfl, by go_num, HB.out, hz, by rw [ST.out, NX.out]; exact ⟨B, l, c, EX.out, HBB.out⟩, KC.out, HLt.out⟩
      · cases h2 : decide (((x : Int), (n : Int)) ∈ M)
        · have NX := Lib.hid (dn1_yes h1 h2)
          have H2 := Lib.hid h2
          clear h2
          go_wp2_with (first
            | (go_at_call 49; refine (JN.out false _ H2.out HO.out.rd).mono ?_; rintro e w5 ⟨rfl, hb5⟩; have k5 := Keeps.of_below hb5 (Nat.le_refl _); have B5 := Lib.hid (HB.out.trans (hb5.mono (by omega))); have O5 := Lib.hid (HO.out.later hb5); have L5 := Lib.hid (HLt.out.later hb5); have hz5 := hb5.size; have ce5 := k5 _ _ ce; have KC5 := Lib.hid (KC.out.keep k5); have cg5 := k5 _ _ cg'; have fe5 : w5.frozen? ⟨be, 0, none⟩ = false := (by rw [hb5.frozen (by exact hel)]; exact fe); clear hb5 k5)
            | (at_builtin; refine wpList_app _ rfl (.tmp 28) (.tmp 33) 22 rfl (be + 1) 42 (.agg #[.int .i64 0, .int .i64 0]) 2 16 Try.underlying22 info_pair rfl (by decide) B l c (prs M) rfl (O5.out.alloc _) (some ⟨w5.heap.size, 0, none⟩) 1 1 (prs [((x : Int), (n : Int))]) rfl (rd_lit2_at rfl [((x : Int), (n : Int))] _) (prs_one _) (by omega) (by unfold maxLen; omega) (by simp; omega) ?_; intro D6 c6 w6 ho6 hg6 hb6; have O6 : Hid (Own w6 (be + 1) 42 2 D6 (l + 1) c6 (prs (M ++ [((x : Int), (n : Int))]))) := Lib.hid (by rw [prs_app]; exact ho6); have L6 := Lib.hid (Own.apart (L5.out.alloc (.cells #[.int .i64 (x : Int), .int .i64 (n : Int)] 42)) hg6 ((L5.out.alloc (.cells #[.int .i64 (x : Int), .int .i64 (n : Int)] 42)).apart_type (O5.out.alloc (.cells #[.int .i64 (x : Int), .int .i64 (n : Int)] 42)) (by decide))); have BB6 : Hid (Below (be + 1) w5 w6) := Lib.hid (((Below.refl _ _).alloc (by omega) _).grown hg6 (by simp; omega) (fun k hk => (O5.out.lt hk).1)); have hz6 := BB6.out.size; have ce6 : w6.cell? ⟨be, 0, none⟩ = some (.slice B l c) := (by rw [BB6.out.cell (by simp)]; exact ce5); have fe6 : w6.frozen? ⟨be, 0, none⟩ = false := (by rw [BB6.out.frozen (by simp)]; exact fe5); have KC6 := Lib.hid ((KC5.out.keep (Keeps.alloc w5 (.cells #[.int .i64 (x : Int), .int .i64 (n : Int)] 42))).grown HBB.out hg6); have HBB6 : Hid (blk D6 = blk B0 ∨ ∀ k, blk D6 = some k → w.heap.size ≤ k) := Lib.hid (by rcases hb6 with h | h; exact (by rw [h]; exact HBB.out); exact .inr (fun k hk => by rw [h] at hk; injection hk with hk; simp at hk; omega)); clear ho6 hg6 hb6)
            | fail)
          go_roundg (2 - (i + 1))
          case measure => omega
          case rel => exact ⟨i + 1, by omega, rfl, by go_num, (B5.out.trans (BB6.out.mono (by omega))).setCell (by simp) _, by simp; omega, by rw [ST.out, NX.out]; exact ⟨D6, l + 1, c6, ⟨World.cell?_setCell_same _ _ _ ce6, by simp; exact fe6, by simp; omega, Own.setOther' O6.out (by simp) _⟩, HBB6.out⟩, KC6.out.set _, Own.setOther' L6.out (by simp; omega) _⟩
        · have NX := Lib.hid (dn1_no2 (lim := lim) h2)
          have H2 := Lib.hid h2
          clear h2
          go_wp2_with (first
            | (go_at_call 49; refine (JN.out true _ H2.out HO.out.rd).mono ?_; rintro e w5 ⟨rfl, hb5⟩; have B5 := Lib.hid hb5; have hz5 := hb5.size; have KC5 := Lib.hid (KC.out.keep (Keeps.of_below hb5 (Nat.le_refl _))); clear hb5)
            | fail)
          go_roundg (2 - (i + 1))
          case measure => omega
          case rel => exact ⟨i + 1, by omega, rfl, by go_num, HB.out.trans (B5.out.mono (by omega)), by omega, by rw [ST.out, NX.out]; exact ⟨B, l, c, EBx.later EX.out B5.out, HBB.out⟩, KC5.out, HLt.out.later B5.out⟩
    · obtain rfl : i = 2 := by omega
      obtain ⟨B, l, c, hx9, -⟩ := he
      have HEE : Hid (EB wr be (dnI n a b lim L 2)) := Lib.hid ⟨B, l, c, hx9⟩
      clear hx9 hl
      go_wp2_with fail
      exact bodyPost_ret (v := .tuple #[]) (by simp [results, Try.results48, go_sem]) rfl ⟨rfl, HB.out, HEE.out, KC.out⟩
end Go.Proofs.Ytagcaljpgifppaa
