/-
  Contracts and lemmas for the statement, joined: OwnM, StepG, Ni, Nj.
-/
import Derived.Test.YtpdbekgkopglgaaGreatJ2
import Derived.Test.YtpdbekgkopglgaaGreatJ4
import Derived.Test.YtpdbekgkopglgaaGreatJ6
namespace Go.Proofs.YtpdbekgkopglgaaGreat
set_option linter.unusedVariables false
set_option linter.unusedSimpArgs false
open Go.RowKit

/-- The list ls, its headers hs. -/
structure OwnM (w : World) (base : Nat) (A : Option Addr) (n c : Nat) (hs : List (Option Addr × Nat)) (ls : List (List Int)) : Prop where
  len : ls.length = n
  hlen : hs.length = n
  outer : Own w base 46 1 A n c (heads hs ls)
  row : ∀ (i : Nat) (h : Option Addr × Nat) (l : List Int), hs[i]? = some h → ls[i]? = some l → Own w base 3 1 h.1 l.length h.2 (ints l)
  far : ∀ (i j : Nat) (h h' : Option Addr × Nat), i ≠ j → hs[i]? = some h → hs[j]? = some h' → Apart h.1 h'.1

section
variable {w w' : World} {base n c : Nat} {A : Option Addr} {hs : List (Option Addr × Nat)} {ls : List (List Int)}
theorem OwnM.nil (w : World) (base : Nat) : OwnM w base none 0 0 [] [] := ⟨rfl, rfl, Own.nil _ _ _ _, fun i h l a => by simp at a, fun i j h h' _ a => by simp at a⟩
theorem OwnM.ownL (h : OwnM w base A n c hs ls) : OwnL w base A n c ls := ⟨h.len, hs, h.hlen, h.outer, h.row⟩
theorem OwnM.later (h : OwnM w base A n c hs ls) (hb : Below w.heap.size w w') : OwnM w' base A n c hs ls :=
  ⟨h.len, h.hlen, h.outer.later hb, fun i hd l a b => (h.row i hd l a b).later hb, h.far⟩
theorem OwnM.alloc (h : OwnM w base A n c hs ls) (o : Obj) : OwnM (w.alloc o) base A n c hs ls :=
  ⟨h.len, h.hlen, h.outer.alloc o, fun i hd l a b => (h.row i hd l a b).alloc o, h.far⟩
theorem OwnM.drew (h : OwnM w base A n c hs ls) : OwnM w.drew base A n c hs ls := ⟨h.len, h.hlen, h.outer, h.row, h.far⟩
theorem OwnM.base_le {base' : Nat} (h : OwnM w base A n c hs ls) (hb : base' ≤ base) : OwnM w base' A n c hs ls :=
  ⟨h.len, h.hlen, h.outer.base_le hb, fun i hd l a b => (h.row i hd l a b).base_le hb, h.far⟩
theorem Own.setOther' {size n c : Nat} {e : TypeId} {A : Option Addr} {xs : List Value} (h : Own w base e size A n c xs) {p : Addr} (hp : p.block < base) (u : Value) : Own (w.setCell p u) base e size A n c xs := by
  refine ⟨h.1, ?_⟩
  rcases h.2 with h2 | ⟨g, cap, cur, hv, hg, hh, rest⟩
  · exact .inl h2
  · exact .inr ⟨g, cap, cur, hv, hg, by rw [Below.heap_setCell _ _ _ _ (by omega)]; exact hh, rest⟩
theorem Own.setFar {size n c : Nat} {e : TypeId} {A : Option Addr} {xs : List Value} (h : Own w base e size A n c xs) {p : Addr} (hp : blk A = none ∨ blk A ≠ some p.block) (u : Value) : Own (w.setCell p u) base e size A n c xs := by
  refine ⟨h.1, ?_⟩
  rcases h.2 with h2 | ⟨g, cap, cur, hv, hg, hh, rest⟩
  · exact .inl h2
  · have hA : A = some ⟨g, 0, none⟩ := by injection hv
    refine .inr ⟨g, cap, cur, hv, hg, ?_, rest⟩
    rw [Below.heap_setCell _ _ _ _ ?_]
    · exact hh
    · rintro rfl
      rw [hA] at hp
      rcases hp with hp | hp
      · simp [blk] at hp
      · exact hp rfl
theorem OwnM.setOther (h : OwnM w base A n c hs ls) {p : Addr} (hp : p.block < base) (u : Value) : OwnM (w.setCell p u) base A n c hs ls :=
  ⟨h.len, h.hlen, h.outer.setOther' hp u, fun i hd l a b => (h.row i hd l a b).setOther' hp u, h.far⟩
theorem OwnM.head_at {g : Nat} (h : OwnM w base (some ⟨g, 0, none⟩) n c hs ls) {i : Nat} {hd : Option Addr × Nat} {l : List Int} (a : hs[i]? = some hd) (b : ls[i]? = some l) : w.cell? ⟨g, i, none⟩ = some (.slice hd.1 l.length hd.2) := by
  have hi : i < n := by
    rcases Nat.lt_or_ge i n with h' | h'
    · exact h'
    · rw [List.getElem?_eq_none (by rw [h.len]; exact h')] at b; cases b
  rw [World.ownsRow.cellAt h.outer i (by omega)]
  unfold heads
  simp [List.getElem?_zipWith, a, b]
theorem OwnM.get (h : OwnM w base A n c hs ls) {i : Nat} {l : List Int} (b : ls[i]? = some l) : ∃ hd, hs[i]? = some hd := by
  have hi : i < ls.length := by
    rcases Nat.lt_or_ge i ls.length with h' | h'
    · exact h'
    · rw [List.getElem?_eq_none h'] at b; cases b
  exact ⟨hs[i]'(by rw [h.hlen, ← h.len]; exact hi), List.getElem?_eq_getElem _⟩
theorem OwnM.some_ (h : OwnM w base A n c hs ls) (hn : 0 < n) : ∃ g, A = some ⟨g, 0, none⟩ ∧ base ≤ g ∧ g < w.heap.size := h.outer.some_ hn
end

theorem heads_set (hd : Option Addr × Nat) (l : List Int) : ∀ (hs : List (Option Addr × Nat)) (ls : List (List Int)) (i : Nat), heads (hs.set i hd) (ls.set i l) = (heads hs ls).set i (.slice hd.1 l.length hd.2)
  | [], _, _ => by simp [heads]
  | _ :: _, [], i => by cases i <;> simp [heads]
  | _ :: _, _ :: _, 0 => by simp [heads]
  | h :: hs, l0 :: ls, i + 1 => by
    have := heads_set hd l hs ls i
    simp only [heads] at this ⊢
    simp only [List.set_cons_succ, List.zipWith_cons_cons, this]

/-- Row i has become l' (in a block of its own, the old one or a new one), and its header is stored. -/
theorem OwnM.setRow {w w1 : World} {base n c d g : Nat} {B : Option Addr} {hs : List (Option Addr × Nat)} {ls : List (List Int)} {i : Nat} {hd : Option Addr × Nat} {l l' : List Int}
    (h : OwnM w base (some ⟨g, 0, none⟩) n c hs ls) (a : hs[i]? = some hd) (b : ls[i]? = some l) (hg : w.grownBy w1 (blk hd.1)) (ho : Own w1 base 3 1 B l'.length d (ints l'))
    (hB : blk B = blk hd.1 ∨ blk B = some w.heap.size ∨ ∃ s, blk B = some s ∧ w.heap.size ≤ s) :
    OwnM (w1.setCell ⟨g, i, none⟩ (.slice B l'.length d)) base (some ⟨g, 0, none⟩) n c (hs.set i (B, d)) (ls.set i l') := by
  have hrow := h.row i hd l a b
  have hout : Own w1 base 46 1 (some ⟨g, 0, none⟩) n c (heads hs ls) := h.outer.apart hg (h.outer.apart_type hrow (by decide))
  have hil : i < hs.length := by
    rcases Nat.lt_or_ge i hs.length with h' | h'
    · exact h'
    · rw [List.getElem?_eq_none h'] at a; cases a
  have hil2 : i < ls.length := by rw [h.len, ← h.hlen]; exact hil
  have hnew : ∀ (j : Nat) (hj : Option Addr × Nat) (lj : List Int), i ≠ j → hs[j]? = some hj → ls[j]? = some lj → Apart hj.1 B := by
    intro j hj lj hij c1 c2
    have hapart := (h.far i j hd hj hij a c1).symm
    have hrj := h.row j hj lj c1 c2
    have hfresh : ∀ s, blk B = some s → w.heap.size ≤ s → Apart hj.1 B := fun s h1 h2 => by
      refine .inr (fun e => ?_)
      rw [h1] at e
      have := (hrj.lt e).2
      omega
    rcases hB with h1 | h1 | ⟨s, h1, h2⟩
    · unfold Apart at hapart ⊢; rw [h1]; exact hapart
    · exact hfresh _ h1 (Nat.le_refl _)
    · exact hfresh s h1 h2
  refine ⟨by simpa using h.len, by simpa using h.hlen, ?_, ?_, ?_⟩
  · rw [heads_set]
    exact (World.ownsRow.stored hout i (.slice B l'.length d)).1
  · intro j hj lj c1 c2
    have key : ∀ {C : Option Addr} {p q : Nat} {xs : List Value}, Own w1 base 3 1 C p q xs → Own (w1.setCell ⟨g, i, none⟩ (.slice B l'.length d)) base 3 1 C p q xs :=
      fun h1 => h1.setFar (p := ⟨g, i, none⟩) (h1.apart_type hout (by decide)) _
    rw [List.getElem?_set] at c1 c2
    by_cases e : i = j
    · rw [if_pos e, if_pos hil] at c1
      rw [if_pos e, if_pos hil2] at c2
      injection c1 with c1
      injection c2 with c2
      subst c1 c2
      exact key ho
    · rw [if_neg e] at c1 c2
      exact key ((h.row j hj lj c1 c2).apart hg ((h.far i j hd hj e a c1).symm))
  · intro p q hp hq hpq c1 c2
    rw [List.getElem?_set] at c1 c2
    have get : ∀ j hj, hs[j]? = some hj → ∃ lj, ls[j]? = some lj := fun j hj hh => by
      have : j < hs.length := by
        rcases Nat.lt_or_ge j hs.length with h' | h'
        · exact h'
        · rw [List.getElem?_eq_none h'] at hh; cases hh
      exact ⟨ls[j]'(by rw [h.len, ← h.hlen]; exact this), List.getElem?_eq_getElem _⟩
    by_cases e1 : i = p
    · rw [if_pos e1, if_pos hil] at c1
      injection c1 with c1
      subst c1
      rw [if_neg (fun e => hpq (e1.symm.trans e))] at c2
      obtain ⟨lq, hlq⟩ := get q hq c2
      exact (hnew q hq lq (fun e => hpq (e1.symm.trans e)) c2 hlq).symm
    · rw [if_neg e1] at c1
      by_cases e2 : i = q
      · rw [if_pos e2, if_pos hil] at c2
        injection c2 with c2
        subst c2
        obtain ⟨lp, hlp⟩ := get p hp c1
        exact hnew p hp lp e1 c1 hlp
      · rw [if_neg e2] at c2
        exact h.far p q hp hq hpq c1 c2

/-- Behind 'append(out, nil)'. -/
theorem OwnM.pushNil {w w' : World} {base n c c' : Nat} {A A' : Option Addr} {hs : List (Option Addr × Nat)} {ls : List (List Int)}
    (h : OwnM w base A n c hs ls) (ho : Own w' base 46 1 A' (n + 1) c' (heads hs ls ++ [.slice none 0 0])) (hg : w.grownBy w' (blk A)) : OwnM w' base A' (n + 1) c' (hs ++ [(none, 0)]) (ls ++ [[]]) := by
  refine ⟨by simp [h.len], by simp [h.hlen], by rw [heads_snoc _ _ _ _ (by rw [h.len, h.hlen])]; exact ho, fun i hd l a b => ?_, fun i j hi hj hij a b => ?_⟩
  · rw [List.getElem?_append] at a b
    by_cases hi : i < hs.length
    · rw [if_pos hi] at a
      rw [if_pos (by rw [h.len, ← h.hlen]; exact hi)] at b
      have := h.row i hd l a b
      exact this.apart hg (this.apart_type h.outer (by decide))
    · rw [if_neg hi] at a
      rw [if_neg (by rw [h.len, ← h.hlen]; exact hi)] at b
      have h0 : i - hs.length = 0 := by
        rcases Nat.eq_zero_or_pos (i - hs.length) with h' | h'
        · exact h'
        · rw [List.getElem?_eq_none (by simp; omega)] at a; cases a
      rw [h0] at a
      rw [show i - ls.length = 0 by rw [h.len, ← h.hlen]; exact h0] at b
      simp at a b
      subst a b
      exact Own.nil _ _ _ _
  · rw [List.getElem?_append] at a b
    by_cases hi' : i < hs.length
    · rw [if_pos hi'] at a
      by_cases hj' : j < hs.length
      · rw [if_pos hj'] at b
        exact h.far i j hi hj hij a b
      · rw [if_neg hj'] at b
        have : hj = (none, 0) := by
          rcases Nat.eq_zero_or_pos (j - hs.length) with h' | h'
          · rw [h'] at b; simp at b; exact b.symm
          · rw [List.getElem?_eq_none (by simp; omega)] at b; cases b
        rw [this]
        exact Apart.symm (.inl rfl)
    · rw [if_neg hi'] at a
      have : hi = (none, 0) := by
        rcases Nat.eq_zero_or_pos (i - hs.length) with h' | h'
        · rw [h'] at a; simp at a; exact a.symm
        · rw [List.getElem?_eq_none (by simp; omega)] at a; cases a
      rw [this]
      exact .inl rfl
end Go.Proofs.YtpdbekgkopglgaaGreat
namespace Go.Proofs.YtpdbekgkopglgaaGreat
set_option linter.unusedVariables false
set_option linter.unusedSimpArgs false
open Go.RowKit Go.Sort

theorem step_appG {P : Program} (w : World) {ops : Array Oper} {o : Oper} {a : Act} {K : Act → World → Prop} {Q : Exit → Act → World → Prop} {E : Prop} (hw : Region.wanted o (yielded ops a.tmps) = true) (s x : Operand) (t : TypeId)
    (ho : o.op = .call { callee := .builtin .append, args := #[s, x], argTypes := #[t, t] })
    (base : Nat) (e : TypeId) (z : Value) (size bytes : Nat) (ht : P.underlying t = some (.slice e)) (hinfo : (P.info? e).map (fun i => (i.zero, i.size, i.bytes)) = some (some z, size, bytes))
    (hzs : z.cells.size = size) (hsz : 0 < size) (A : Option Addr) (n c : Nat) (xs : List Value) (hs : a.eval s = .slice A n c) (hown : Own w base e size A n c xs)
    (B : Option Addr) (m d : Nat) (news : List Value) (hx : a.eval x = .slice B m d) (hr : Rd w size B m news) (h1 : ∀ u ∈ news, u.oneCell' = true)
    (hbytes : (n + m) * bytes ≤ 140737488355328) (h63 : n + m ≤ maxLen) (hbase : base ≤ w.heap.size)
    (h : ∀ A' c' w', Own w' base e size A' (n + m) c' (xs ++ news) → w.grownBy w' (blk A) → (blk A' = blk A ∨ blk A' = some w.heap.size) → K (a.put o.dst (.slice A' (n + m) c')) w') :
    if Region.wanted o (yielded ops a.tmps) = true then Oper.wp P o a w K Q else E := by
  rw [if_pos hw]
  exact wp_app w s x t ho base e z size bytes ht hinfo hzs hsz A n c xs hs hown B m d news hx hr h1 hbytes h63 hbase h
theorem step_callG {P : Program} {ops : Array Oper} {o : Oper} {a : Act} {w : World} {K : Act → World → Prop} {Q : Exit → Act → World → Prop} {E : Prop} (hw : Region.wanted o (yielded ops a.tmps) = true) (f : FuncId) (xs : Array Operand) (ts : Array TypeId)
    (ho : o.op = .call { callee := .value (.func f), args := xs, argTypes := ts }) (eg : ∀ args w, (callFunc f args).run P w = .ok (.enter f args) w) (args : Array Value) (hargs : xs.map a.eval = args) {R : Ending → World → Prop}
    (h : Calls P f args w R) (hR : ∀ e w', R e w' → ∃ v, e = .returned v) (hK : ∀ v w', R (.returned v) w' → K (a.put o.dst v) w') :
    if Region.wanted o (yielded ops a.tmps) = true then Oper.wp P o a w K Q else E := by
  rw [if_pos hw]
  subst hargs
  unfold Oper.wp
  simp [execOp, ho, resolve, Deferred.ofValue, invoke, eg, Act.eval]
  refine h.mono ?_
  intro e w' hr
  obtain ⟨v, rfl⟩ := hR e w' hr
  exact hK v w' hr
theorem step_skip {o : Oper} {y : Nat → Option Bool} {X E : Prop} (hw : Region.wanted o y = false) (h : E) : if Region.wanted o y = true then X else E := by
  rw [if_neg (by rw [hw]; simp)]
  exact h
theorem step_callN {P : Program} {ops : Array Oper} {o : Oper} {a : Act} {w : World} {K : Act → World → Prop} {Q : Exit → Act → World → Prop} {E : Prop} (hgd : o.guard = none) (f : FuncId) (xs : Array Operand) (ts : Array TypeId)
    (ho : o.op = .call { callee := .value (.func f), args := xs, argTypes := ts }) (eg : ∀ args w, (callFunc f args).run P w = .ok (.enter f args) w) (args : Array Value) (hargs : xs.map a.eval = args) {R : Ending → World → Prop}
    (h : Calls P f args w R) (hR : ∀ e w', R e w' → ∃ v, e = .returned v) (hK : ∀ v w', R (.returned v) w' → K (a.put o.dst v) w') :
    if Region.wanted o (yielded ops a.tmps) = true then Oper.wp P o a w K Q else E :=
  step_callG (by simp [Region.wanted, hgd]) f xs ts ho eg args hargs h hR hK
end Go.Proofs.YtpdbekgkopglgaaGreat
namespace Go.Proofs.YtpdbekgkopglgaaGreat
set_option linter.unusedVariables false
set_option linter.unusedSimpArgs false
open Go.RowKit Go.Sort
attribute [local go_sem ↓] Go.wp_at_zero Go.wp_at_succ

theorem step_quo {P : Program} {ops : Array Oper} {o : Oper} {a : Act} {w : World} {K : Act → World → Prop} {Q : Exit → Act → World → Prop} {E : Prop} (hgd : o.guard = none) (t : TypeId) (i j : Nat)
    (ho : o.op = .binOp .quo t (.tmp i) (.tmp j) t) (X Y Z : Int) (hx : a.eval (.tmp i) = .int .u64 X) (hy : a.eval (.tmp j) = .int .u64 Y) (hX : 0 ≤ X ∧ X ≤ 18446744073709551615) (hY : 1 ≤ Y) (hZ : X / Y = Z) (hK : K (a.put o.dst (.int .u64 Z)) w) :
    if Region.wanted o (yielded ops a.tmps) = true then Oper.wp P o a w K Q else E := by
  have hw : Region.wanted o (yielded ops a.tmps) = true := by simp [Region.wanted, hgd]
  rw [if_pos hw]
  have h1 : IntKind.u64.wrap (X.tdiv Y) = Z := by rw [IntWalk.u64_quo X Y ⟨hX.1, hX.2, hY⟩, hZ]
  have hy0 : Y ≠ 0 := by omega
  unfold Oper.wp
  simp [Act.eval] at hx hy
  simp [execOp, ho, hx, hy, go_sem, hy0, h1]
  exact hK
theorem step_rem {P : Program} {ops : Array Oper} {o : Oper} {a : Act} {w : World} {K : Act → World → Prop} {Q : Exit → Act → World → Prop} {E : Prop} (hgd : o.guard = none) (t : TypeId) (i j : Nat)
    (ho : o.op = .binOp .rem t (.tmp i) (.tmp j) t) (X Y Z : Int) (hx : a.eval (.tmp i) = .int .u64 X) (hy : a.eval (.tmp j) = .int .u64 Y) (hX : 0 ≤ X ∧ X ≤ 18446744073709551615) (hY : 1 ≤ Y) (hZ : X % Y = Z) (hZb : 0 ≤ Z ∧ Z ≤ 18446744073709551615) (hK : K (a.put o.dst (.int .u64 Z)) w) :
    if Region.wanted o (yielded ops a.tmps) = true then Oper.wp P o a w K Q else E := by
  have hw : Region.wanted o (yielded ops a.tmps) = true := by simp [Region.wanted, hgd]
  rw [if_pos hw]
  have h0 : X.tmod Y = Z := by rw [Int.tmod_eq_emod_of_nonneg hX.1, hZ]
  have h1 : IntKind.u64.wrap Z = Z := IntWalk.u64_in Z hZb
  have hy0 : Y ≠ 0 := by omega
  unfold Oper.wp
  simp [Act.eval] at hx hy
  simp [execOp, ho, hx, hy, go_sem, hy0, h0, h1]
  exact hK
def DivPost (w : World) (n Y : Nat) (e : Ending) (w' : World) : Prop :=
  Below w.heap.size w w' ∧ ∃ C1 n1 c1 q C2 n2 c2 r, e = .returned (.tuple #[.slice C1 n1 c1, .slice C2 n2 c2]) ∧ MagAt w' C1 n1 c1 q ∧ n1 ≤ n + 2 ∧ MagAt w' C2 n2 c2 r ∧ Trm r ∧ nv r < Y
theorem magNil (w : World) : MagAt w none 0 0 [] := ⟨Rd.nil _ _ _, Nat.le_refl _, U32.nil⟩
set_option maxRecDepth 100000 in
set_option maxHeartbeats 8000000 in
/-- The dividend is the less one. -/
theorem divide_lt (A B : Option Addr) (n c m d : Nat) (a b : List Nat) (w : World) (hn : n ≤ 100000) (hm : m ≤ 100000) (ha : MagAt w A n c a) (hb : MagAt w B m d b) (ta : Trm a) (tb : Trm b) (hlt : nv a < nv b) :
    Calls Tryz.prog 54 #[.slice A n c, .slice B m d] w (DivPost w n (nv b)) := by
  have cC := compare_any A B n c m d a b w (by omega) (by omega) ha.1 hb.1
  have hc : cmpN a b < 0 := (cmpN_nv ha.2.2 hb.2.2 ta tb).2 hlt
  have H1 := Lib.hid ha
  have LT := Lib.hid hlt
  have TA := Lib.hid ta
  clear ha hb ta tb hlt
  generalize cmpN a b = cv at *
  go_enter Tryz.func54, Tryz.ntmps54
  go_wp2_with fail
  refine Calls.mono cC ?_
  rintro _ w1 ⟨rfl, hb1⟩
  have HB := Lib.hid hb1
  clear cC hb1
  go_wp2_with fail
  exact bodyPost_ret (v := .tuple #[.slice none 0 0, .slice A n c]) (by simp [results, Tryz.results54, go_sem]) rfl ⟨HB.out, none, 0, 0, [], A, n, c, a, rfl, magNil _, by omega, H1.out.keep (Keeps.of_below HB.out (Nat.le_refl _)), TA.out, LT.out⟩
set_option maxRecDepth 100000 in
set_option maxHeartbeats 8000000 in
/-- At most two words. -/
theorem divide_two (A B : Option Addr) (n c m d : Nat) (a b : List Nat) (w : World) (hn : n ≤ 2) (hm : m ≤ 100000) (ha : MagAt w A n c a) (hb : MagAt w B m d b) (ta : Trm a) (tb : Trm b) (h0 : 0 < m) (hge : nv b ≤ nv a) :
    Calls Tryz.prog 54 #[.slice A n c, .slice B m d] w (DivPost w n (nv b)) := by
  have cC := compare_any A B n c m d a b w (by omega) (by omega) ha.1 hb.1
  have hc : ¬ cmpN a b < 0 := fun h => by have := (cmpN_nv ha.2.2 hb.2.2 ta tb).1 h; omega
  have hmn : m ≤ 2 := by have := len_le_of ha.2.2 tb hge; rw [hb.len, ha.len] at this; omega
  have hy0 : 0 < nv b := tb.pos (by rw [hb.len]; exact h0)
  have hx2 : nv a < 18446744073709551616 := by
    have h1 := nv_lt ha.2.2
    have h2 : 4294967296 ^ a.length ≤ 4294967296 ^ 2 := Nat.pow_le_pow_right (by omega) (by rw [ha.len]; exact hn)
    omega
  have hy2 : nv b < 18446744073709551616 := by omega
  have H1 := Lib.hid ha
  have H2 := Lib.hid hb
  have EGW : Hid (∀ args w, (callFunc 72 args).run Tryz.prog w = .ok (.enter 72 args) w) := Lib.hid (enters_of Tryz.func72 (by kernel_rfl) rfl)
  clear ha hb ta tb hge
  generalize cmpN a b = cv at *
  have hn2 : (n : Int) ≤ 2 := by omega
  have SA : Hid (∀ W, Rd W 1 A n (us a) → Calls Tryz.prog 71 #[.slice A n c] W fun e w' => e = .returned (.int .u64 (nv a : Int)) ∧ W = w') := Lib.hid fun W h => short_any A n c a W hn H1.out.2.2 h
  have SB : Hid (∀ W, Rd W 1 B m (us b) → Calls Tryz.prog 71 #[.slice B m d] W fun e w' => e = .returned (.int .u64 (nv b : Int)) ∧ W = w') := Lib.hid fun W h => short_any B m d b W hmn H2.out.2.2 h
  have QW : Hid (∀ W, Calls Tryz.prog 72 #[.int .u64 (((nv a / nv b : Nat)) : Int)] W (WordsPost W (nv a / nv b))) := Lib.hid fun W => words_any _ W (Nat.lt_of_le_of_lt (Nat.div_le_self _ _) hx2)
  have RW : Hid (∀ W, Calls Tryz.prog 72 #[.int .u64 (((nv a % nv b : Nat)) : Int)] W (WordsPost W (nv a % nv b))) := Lib.hid fun W => words_any _ W (Nat.lt_trans (Nat.mod_lt _ hy0) hy2)
  have RL : Hid (nv a % nv b < nv b) := Lib.hid (Nat.mod_lt _ hy0)
  have QB : nv a / nv b < 18446744073709551616 := Nat.lt_of_le_of_lt (Nat.div_le_self _ _) hx2
  have RB : nv a % nv b < 18446744073709551616 := Nat.lt_trans (Nat.mod_lt _ hy0) hy2
  have eQ : (nv a : Int) / (nv b : Int) = ((nv a / nv b : Nat) : Int) := (Int.natCast_ediv _ _).symm
  have eR : (nv a : Int) % (nv b : Int) = ((nv a % nv b : Nat) : Int) := (Int.natCast_emod _ _).symm
  generalize nv a / nv b = Q at *
  generalize nv a % nv b = R at *
  generalize nv a = X at *
  generalize nv b = Y at *
  go_enter Tryz.func54, Tryz.ntmps54
  go_wp2_with fail
  refine Calls.mono cC ?_
  rintro _ w1 ⟨rfl, hb1⟩
  have HB := Lib.hid hb1
  have k1 := Keeps.of_below hb1 (Nat.le_refl _)
  have hz1 := hb1.size
  clear cC hb1
  have cA := SA.out w1 (H1.out.1.keep k1)
  have cB := SB.out w1 (H2.out.1.keep k1)
  clear k1
  go_wp2_with fail
  refine Calls.mono cA ?_
  rintro _ _ ⟨rfl, rfl⟩
  go_wp2_with fail
  refine Calls.mono cB ?_
  rintro _ _ ⟨rfl, rfl⟩
  clear cA cB SA SB
  have hyi : (0 : Int) < (Y : Int) := by omega
  have hyn : ¬ (Y : Int) = 0 := by omega
  have hxi : (X : Int) < 18446744073709551616 := by omega
  have hyN : ¬ Y = 0 := by omega
  have hwq : IntKind.u64.wrap ((X : Int).tdiv (Y : Int)) = (Q : Int) := by rw [IntWalk.u64_quo _ _ ⟨by omega, by omega, by omega⟩, eQ]
  have hwr : (X : Int).tmod (Y : Int) = (R : Int) := by rw [Int.tmod_eq_emod_of_nonneg (by omega), eR]
  have hwr2 : IntKind.u64.wrap ((R : Nat) : Int) = (R : Int) := IntWalk.u64_in _ ⟨by omega, by omega⟩
  have hwq2 : IntKind.u64.wrap ((Q : Nat) : Int) = (Q : Int) := IntWalk.u64_in _ ⟨by omega, by omega⟩
  go_upto_region 5 with fail
  go_region_law ((first
    | (refine step_callN rfl 72 #[.tmp 34] #[125] rfl EGW.out #[.int .u64 (Q : Int)] (by first | (simp [Act.eval, Act.put]; done) | fail) (QW.out _) (fun e w' hp => by obtain ⟨-, C, n, c, ds, he, -⟩ := hp; exact ⟨_, he⟩) ?_; rintro v5 w5 ⟨hb5, C5, n5, c5, q5, he5, hm5, ht5, hv5, hl5⟩; injection he5 with he5; subst he5; have BQ := Lib.hid hb5; have MQ := Lib.hid hm5; clear hb5 hm5 ht5 hv5)
    | (refine step_callN rfl 72 #[.tmp 38] #[125] rfl EGW.out #[.int .u64 (R : Int)] (by first | (simp [Act.eval, Act.put]; done) | fail) (RW.out _) (fun e w' hp => by obtain ⟨-, C, n, c, ds, he, -⟩ := hp; exact ⟨_, he⟩) ?_; rintro v6 w6 ⟨hb6, C6, n6, c6, q6, he6, hm6, ht6, hv6, hl6⟩; injection he6 with he6; subst he6; have BR := Lib.hid hb6; have MR := Lib.hid hm6; have TR := Lib.hid ht6; have VR := Lib.hid hv6; clear hb6 hm6 ht6 hv6)
    | fail))
  all_goals
   have hzq := BQ.out.size
   have hzr := BR.out.size
   have hdd : ∀ W : World, W.drew.heap.size = W.heap.size := fun W => rfl
   simp only [hdd] at hzq hzr
   go_wp2_with fail
   first
   | exact bodyPost_ret (v := .tuple #[.slice C5 n5 c5, .slice C6 n6 c6]) (by simp [results, Tryz.results54, go_sem]) rfl ⟨by first | exact (HB.out.trans (BQ.out.mono hz1)).trans (BR.out.mono (by omega)) | exact (HB.out.drew.trans (BQ.out.mono hz1)).trans (BR.out.mono (by omega)), C5, n5, c5, q5, C6, n6, c6, q6, rfl, MQ.out.keep (Keeps.of_below BR.out (Nat.le_refl _)), by omega, MR.out, TR.out, by rw [VR.out]; exact RL.out⟩
   | exact bodyPost_ret (v := .tuple #[.slice C5 n5 c5, .slice C6 n6 c6]) (by simp [results, Tryz.results54, go_sem]) rfl ⟨by first | exact (HB.out.trans (BR.out.mono hz1)).trans (BQ.out.mono (by omega)) | exact (HB.out.drew.trans (BR.out.mono hz1)).trans (BQ.out.mono (by omega)), C5, n5, c5, q5, C6, n6, c6, q6, rfl, MQ.out, by omega, MR.out.keep (Keeps.of_below BQ.out (Nat.le_refl _)), TR.out, by rw [VR.out]; exact RL.out⟩
end Go.Proofs.YtpdbekgkopglgaaGreat
namespace Go.Proofs.YtpdbekgkopglgaaGreat
set_option linter.unusedVariables false
set_option linter.unusedSimpArgs false
open Go.RowKit Go.Sort
attribute [local go_sem ↓] Go.wp_at_zero Go.wp_at_succ

set_option maxRecDepth 100000 in
set_option maxHeartbeats 8000000 in
/-- By one word. -/
theorem divide_one (A B : Option Addr) (n c d : Nat) (a b : List Nat) (w : World) (hn2 : 2 < n) (hn : n ≤ 100000) (ha : MagAt w A n c a) (hb : MagAt w B 1 d b) (ta : Trm a) (tb : Trm b) (hge : nv b ≤ nv a) :
    Calls Tryz.prog 54 #[.slice A n c, .slice B 1 d] w (DivPost w n (nv b)) := by
  have cC := compare_any A B n c 1 d a b w (by omega) (by omega) ha.1 hb.1
  have hc : ¬ cmpN a b < 0 := fun h => by have := (cmpN_nv ha.2.2 hb.2.2 ta tb).1 h; omega
  obtain ⟨x, rfl⟩ : ∃ x, b = [x] := List.length_eq_one_iff.1 hb.len
  have hx0 : 0 < x := by have := tb.pos (by simp); simpa [nv] using this
  have hxb : x < 4294967296 := hb.2.2 x (List.mem_cons_self ..)
  have EV : Hid (nv [x] = x) := Lib.hid (by simp [nv])
  have H1 := Lib.hid ha
  have H2 := Lib.hid hb
  have TA := Lib.hid ta
  have BY : Hid (∀ W, MagAt W A n c a → Calls Tryz.prog 73 #[.slice A n c, .int .u32 (x : Int)] W (ByPost W (nv a) x)) := Lib.hid fun W h => by_any A n c a x W (by omega) h hx0 hxb
  have QL : Hid (∀ q, U32 q → Trm q → nv q = nv a / x → q.length ≤ n) := Lib.hid fun q _ tq hq => by
    have := len_le_of ha.2.2 tq (by rw [hq]; exact Nat.div_le_self _ _)
    rwa [ha.len] at this
  have RL : Hid (nv a % x < x) := Lib.hid (Nat.mod_lt _ hx0)
  have RB : nv a % x < 4294967296 := Nat.lt_trans (Nat.mod_lt _ hx0) hxb
  obtain ⟨ad, rfl, -, c0⟩ := hb.1.us_at (by omega : 0 < 1)
  simp only [List.getD_cons_zero] at c0
  have h9 : ad.add 0 = ad := by unfold Addr.add; simp
  rw [h9] at c0
  clear h9
  have hn3 : ¬ (n : Int) ≤ 2 := by omega
  clear ha hb ta tb hge
  generalize cmpN a [x] = cv at *
  have BY2 : Hid (∀ W, MagAt W A n c a → Calls Tryz.prog 73 #[.slice A n c, .int .u32 (x : Int)] W fun e w' => Below W.heap.size W w' ∧ ∃ C k c q, e = .returned (.tuple #[.slice C k c, .int .u32 (((nv a % x : Nat)) : Int)]) ∧ MagAt w' C k c q ∧ k ≤ n + 2) := Lib.hid fun W h => (BY.out W h).mono fun e w' ⟨h1, C, k, c, q, h2, h3, h4, h5⟩ => ⟨h1, C, k, c, q, h2, h3, by have := QL.out q h3.2.2 h4 h5; rw [h3.len] at this; omega⟩
  clear BY QL
  generalize nv a % x = R at *
  have WR : Hid (∀ W, Calls Tryz.prog 72 #[.int .u64 (R : Int)] W (WordsPost W R)) := Lib.hid fun W => words_any _ W (by omega)
  go_enter Tryz.func54, Tryz.ntmps54
  go_wp2_with fail
  refine Calls.mono cC ?_
  rintro _ w1 ⟨rfl, hb1⟩
  have HB := Lib.hid hb1
  have k1 := Keeps.of_below hb1 (Nat.le_refl _)
  have hz1 := hb1.size
  have c1 := k1 _ _ c0
  have cB := BY2.out w1 (H1.out.keep k1)
  clear cC hb1 k1 c0 BY2
  go_wp2_with fail
  refine Calls.mono cB ?_
  rintro _ w2 ⟨hb2, C2, n2, c2, q2, rfl, hm2, hl2⟩
  have HB2 := Lib.hid (HB.out.trans (hb2.mono hz1))
  have M2 := Lib.hid hm2
  have hz2 := HB2.out.size
  have cW := WR.out w2
  clear cB hb2 hm2 HB hz1
  go_wp2_with fail
  refine Calls.mono cW ?_
  rintro _ w3 ⟨hb3, C3, n3, c3, q3, rfl, hm3, ht3, hv3, hl3⟩
  have HB3 := Lib.hid (HB2.out.trans (hb3.mono hz2))
  have M3 := Lib.hid hm3
  have T3 := Lib.hid ht3
  have V3 := Lib.hid hv3
  have M23 := Lib.hid (M2.out.keep (Keeps.of_below hb3 (Nat.le_refl _)))
  clear cW hb3 hm3 ht3 hv3
  go_wp2_with fail
  exact bodyPost_ret (v := .tuple #[.slice C2 n2 c2, .slice C3 n3 c3]) (by simp [results, Tryz.results54, go_sem]) rfl ⟨HB3.out, C2, n2, c2, q2, C3, n3, c3, q3, rfl, M23.out, hl2, M3.out, T3.out, by rw [V3.out, EV.out]; exact RL.out⟩
end Go.Proofs.YtpdbekgkopglgaaGreat
