/-
  (*pebble.game).free and the law that (*pebble.game).fetch meets.
-/
import Derived.Test.YtbhkdodokdgijaaP1
import Derived.Test.YtbhkdodokdgijaaD1
import Derived.Deep.LoopGhost
import Derived.Deep.DeepCutAuto
import Derived.IntWalk
import Derived.Shelf.Abstract
namespace Go.Proofs.Ytbhkdodokdgijaa
set_option linter.unusedVariables false
set_option linter.unusedSimpArgs false
open Go.RowKit Go.Sort

attribute [local go_sem ↓] Go.wp_at_zero Go.wp_at_succ
set_option maxHeartbeats 1000000 in
theorem free_any (b go n c a : Nat) (B : Option Addr) (m d : Nat) (f : Int) (w : World) (h0 : w.cell? ⟨b, 0, none⟩ = some (.slice (some ⟨go, 0, none⟩) n c)) (h1 : w.cell? ⟨go, a, none⟩ = some (.slice B m d)) (ha : a < n) (hm : m ≤ 2) (hf : 2 - (m : Int) = f) :
    Calls Try.prog 61 #[.pointer (some ⟨b, 0, none⟩), .int .i64 a] w fun e w' => e = .returned (.int .i64 f) ∧ w = w' := by
  have HF := Lib.hid hf
  clear hf
  have a0 : (0 : Int) ≤ (a : Int) := by omega
  have a1 : (a : Int) < (n : Int) := by omega
  go_enter Try.func61, Try.ntmps61
  go_wp2
  go_ret
  exact ⟨ret_int HF.out, rfl⟩

/-- How many of the first n points are visited. -/
def cV (n : Nat) (vis : List Bool) : Nat := cntB n (visS vis)
theorem cV_le (n : Nat) (vis : List Bool) : cV n vis ≤ n := cntB_le n _
theorem cV_set {n b : Nat} {vis : List Bool} (hb : b < n) (hn : vis.length = n) (hv : visB vis b = false) : cV n (vis.set b true) = cV n vis + 1 := by
  unfold cV
  have e : visS (vis.set b true) = visS vis ||| 2 ^ b := by
    apply Nat.eq_of_testBit_eq
    intro i
    rw [visS_bit, visB_set _ _ _ (by omega), Nat.testBit_or, Nat.testBit_two_pow, visS_bit, Bool.or_comm]
    congr 1
    by_cases e : i = b
    · subst e; simp
    · simp [e, Ne.symm e]
  rw [e, cntB_add hb (by rw [visS_bit]; exact hv)]
theorem cV_mono {n : Nat} {vis vis' : List Bool} (h : ∀ x, visB vis x = true → visB vis' x = true) : cV n vis ≤ cV n vis' := by
  unfold cV cntB
  refine List.countP_mono_left (fun i _ hi => ?_)
  rw [visS_bit] at hi ⊢
  exact h i hi

def FPost (w : World) (base b go n c : Nat) (hs : List (Option Addr × Nat)) (out : List (List Int)) (gv : Nat) (vis : List Bool) (a : Nat) (e : Ending) (w' : World) : Prop :=
  ∃ r out' vis' hs', FLoop out (vis.set a true) a 0 r out' vis' ∧ e = .returned (.bool r) ∧ GM w' base b go n c hs' out' ∧ Own w' base 4 1 (some ⟨gv, 0, none⟩) n n (bools vis') ∧
    GStep (fun k => k = gv) w w' go hs hs' ∧ (r = false → hs' = hs)
/-- fetch, if at most u points more can be visited. -/
def FetchAt (n u : Nat) : Prop := ∀ (w : World) (base b go c : Nat) (hs : List (Option Addr × Nat)) (out : List (List Int)) (gv : Nat) (vis : List Bool) (a : Nat), n ≤ cV n (vis.set a true) + u → GM w base b go n c hs out → GS n out →
    Own w base 4 1 (some ⟨gv, 0, none⟩) n n (bools vis) → a < n → base ≤ w.heap.size →
    Calls Try.prog 62 #[.pointer (some ⟨b, 0, none⟩), .int .i64 a, .slice (some ⟨gv, 0, none⟩) n n] w (FPost w base b go n c hs out gv vis a)

theorem vis_not_ft {w : World} {base base' b go gv n c m d : Nat} {hs : List (Option Addr × Nat)} {out : List (List Int)} {xs : List Value} (h : GM w base b go n c hs out) (hv : Own w base' 4 1 (some ⟨gv, 0, none⟩) m d xs) : ¬ Ft go hs gv := fun hk => by
  obtain ⟨-, -, cur, e, h1, h2⟩ := h.om.ft (A := none) hk
  obtain ⟨cur', h3⟩ := hv.block_type (g := gv) rfl
  rw [h1] at h3; injection h3 with h3; injection h3 with _ h3
  subst h3
  rcases h2 with h2 | h2 <;> revert h2 <;> decide
theorem row_ne_go {w : World} {base b go g n c m d : Nat} {hs : List (Option Addr × Nat)} {out : List (List Int)} {A : Option Addr} {xs : List Value} (h : GM w base b go n c hs out) (hr : Own w base 3 1 A m d xs) (hA : blk A = some g) : g ≠ go := fun e => by
  obtain ⟨cur, h1⟩ := hr.block_type hA
  obtain ⟨cur', h2⟩ := h.om.outer.block_type (g := go) rfl
  rw [e, h2] at h1; injection h1 with h1; injection h1 with _ h1; revert h1; decide
/-- Behind 'g.out[y] = append(g.out[y], x)'. -/
theorem GM.push {wa w7 : World} {base b go n c d y : Nat} {B : Option Addr} {hs : List (Option Addr × Nat)} {out : List (List Int)} {hd : Option Addr × Nat} {l : List Int} {x : Int} {m : Nat}
    (h : GM wa base b go n c hs out) (p : hs[y]? = some hd) (q : out[y]? = some l) (hm : l.length = m) (hg : wa.grownBy w7 (blk hd.1)) (ho : Own w7 base 3 1 B (m + 1) d (ints l ++ ints [x])) (hB : blk B = blk hd.1 ∨ blk B = some wa.heap.size) :
    GM (w7.setCell ⟨go, y, none⟩ (.slice B (m + 1) d)) base b go n c (hs.set y (B, d)) (out.set y (l ++ [x])) ∧ ∀ V, GStep V wa (w7.setCell ⟨go, y, none⟩ (.slice B (m + 1) d)) go hs (hs.set y (B, d)) := by
  subst hm
  rw [← ints_app] at ho
  have e : l.length + 1 = (l ++ [x]).length := by simp
  rw [e] at ho ⊢
  exact h.setRow p q hg ho (hB.imp id (fun e => ⟨_, e, Nat.le_refl _⟩))
/-- What the walk reads behind an append to a row. -/
theorem GM.push_facts {wa w7 : World} {base b go n c y : Nat} {hs : List (Option Addr × Nat)} {out : List (List Int)} {A : Option Addr} {m d : Nat} {xs : List Value} {v : Value}
    (h : GM wa base b go n c hs out) (hr : Own wa base 3 1 A m d xs) (hg : wa.grownBy w7 (blk A)) (hc : wa.cell? ⟨go, y, none⟩ = some v) :
    w7.cell? ⟨b, 0, none⟩ = some (.slice (some ⟨go, 0, none⟩) n c) ∧ w7.cell? ⟨go, y, none⟩ = some v ∧ w7.frozen? ⟨go, y, none⟩ = false := by
  have hA1 : ∀ k, blk A = some k → k ≠ b := fun k hk => h.ne hr (by decide) hk
  have hA2 : ∀ k, blk A = some k → k ≠ go := fun k hk => row_ne_go h hr hk
  refine ⟨World.grownBy.cell hg h.cell (fun e => hA1 _ e.symm rfl), World.grownBy.cell hg hc (fun e => hA2 _ e.symm rfl), ?_⟩
  exact (h.om.outer.keptBy hg (.inr (fun e => hA2 go e.symm rfl))).frozen y

/-- A call of a Go function as one step of a region that draws, by its contract. -/
theorem step_calls {P : Program} {ops : Array Oper} {o : Oper} {a : Act} {w : World} {K : Act → World → Prop} {Q : Exit → Act → World → Prop} {E : Prop} (hgd : o.guard = none) (f : FuncId) (xs : Array Operand) (ts : Array TypeId)
    (ho : o.op = .call { callee := .value (.func f), args := xs, argTypes := ts }) (eg : ∀ args w, (callFunc f args).run P w = .ok (.enter f args) w) (args : Array Value) (hargs : xs.map a.eval = args) (v : Value) {R : World → Prop}
    (h : Calls P f args w fun e w' => e = .returned v ∧ R w') (hK : ∀ w', R w' → K (a.put o.dst v) w') :
    if Region.wanted o (yielded ops a.tmps) = true then Oper.wp P o a w K Q else E := by
  have hw : Region.wanted o (yielded ops a.tmps) = true := by simp [Region.wanted, hgd]
  rw [if_pos hw]
  subst hargs
  unfold Oper.wp
  simp [execOp, ho, resolve, Deferred.ofValue, invoke, eg, Act.eval]
  refine h.mono ?_
  rintro e w' ⟨rfl, hr⟩
  exact hK w' hr

/-- The loop has come to number q with vis1 visited. -/
def Cont (out : List (List Int)) (vis : List Bool) (a : Nat) (q : Nat) (vis1 : List Bool) : Prop := ∀ r o v, FLoop out vis1 a q r o v → FLoop out vis a 0 r o v
section
variable {n : Nat} {out : List (List Int)} {vis0 vis1 : List Bool} {a q y : Nat}
theorem Cont.skip (h : Cont out vis0 a q vis1) (hb : (rowOf out a)[q]? = some (y : Int)) (hv : visB vis1 y = true) : Cont out vis0 a (q + 1) vis1 := fun r o v hl => h r o v (.skip hb hv hl)
theorem Cont.free (h : Cont out vis0 a q vis1) (hb : (rowOf out a)[q]? = some (y : Int)) (hv : visB vis1 y = false) (hf : (rowOf out y).length < 2) : FLoop out vis0 a 0 true (moveE out a q y) vis1 := h _ _ _ (.free hb hv hf)
theorem Cont.hit {out5 : List (List Int)} {vis5 : List Bool} (h : Cont out vis0 a q vis1) (hb : (rowOf out a)[q]? = some (y : Int)) (hv : visB vis1 y = false) (hf : ¬ (rowOf out y).length < 2) (hl : FLoop out (vis1.set y true) y 0 true out5 vis5) : FLoop out vis0 a 0 true (moveE out5 a q y) vis5 := h _ _ _ (.hit hb hv (by omega) hl)
theorem Cont.miss {out5 : List (List Int)} {vis5 : List Bool} (h : Cont out vis0 a q vis1) (hb : (rowOf out a)[q]? = some (y : Int)) (hv : visB vis1 y = false) (hf : ¬ (rowOf out y).length < 2) (hs : GS n out) (hn : vis1.length = n) (hl : FLoop out (vis1.set y true) y 0 false out5 vis5) : out5 = out ∧ Cont out vis0 a (q + 1) vis5 := by
  obtain ⟨rfl, -, -⟩ := hl.no hs.w (by rw [List.length_set]; exact hn) rfl
  exact ⟨rfl, fun r o v h2 => h r o v (.miss hb hv (by omega) hl h2)⟩
theorem hit_facts {out5 : List (List Int)} {vis5 : List Bool} (hs : GS n out) (hn : vis1.length = n) (hva : visB vis1 a = true) (hb : (rowOf out a)[q]? = some (y : Int)) (hv : visB vis1 y = false) (hl : FLoop out (vis1.set y true) y 0 true out5 vis5) :
    rowOf out5 a = rowOf out a ∧ (rowOf out5 y).length + 1 = (rowOf out y).length := by
  have hy := hs.w.at hb
  obtain ⟨h1, h2, h3, h4, h5⟩ := hl.yes hs (by rw [List.length_set]; exact hn) hy (by rw [visB_set _ _ _ (by omega)]; simp) rfl
  exact ⟨h5 a (by rw [visB_set _ _ _ (by omega), hva]; simp) (fun e => by subst e; rw [hva] at hv; cases hv), h4⟩
end
/-- Where the round stands when it is known whether a pebble came. -/
def CutR (w : World) (base b go n c : Nat) (hs : List (Option Addr × Nat)) (out : List (List Int)) (gv : Nat) (vis0 : List Bool) (a q y : Nat) (t : Value) (wx : World) : Prop :=
  ∃ (r : Bool) (out1 : List (List Int)) (vis1 : List Bool) (hs1 : List (Option Addr × Nat)), t = .bool r ∧ GM wx base b go n c hs1 out1 ∧ Own wx base 4 1 (some ⟨gv, 0, none⟩) n n (bools vis1) ∧ GStep (fun k => k = gv) w wx go hs hs1 ∧
    (r = true → FLoop out vis0 a 0 true (moveE out1 a q y) vis1 ∧ rowOf out1 a = rowOf out a ∧ (rowOf out1 y).length ≤ 1) ∧
    (r = false → hs1 = hs ∧ out1 = out ∧ visB vis1 a = true ∧ Cont out vis0 a (q + 1) vis1 ∧ cV n vis0 ≤ cV n vis1)
def CutS (w : World) (base b go n c : Nat) (hs : List (Option Addr × Nat)) (gv : Nat) (out2 : List (List Int)) (vis1 : List Bool) (wx : World) : Prop :=
  ∃ (hs2 : List (Option Addr × Nat)), GM wx base b go n c hs2 out2 ∧ Own wx base 4 1 (some ⟨gv, 0, none⟩) n n (bools vis1) ∧ GStep (fun k => k = gv) w wx go hs hs2
end Go.Proofs.Ytbhkdodokdgijaa
