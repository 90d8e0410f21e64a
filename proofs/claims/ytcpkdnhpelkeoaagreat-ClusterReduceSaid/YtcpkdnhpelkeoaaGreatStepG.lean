/-
  One step of a region that draws its order, the operation guarded: append, and a call.
-/
import Derived.Test.YtcpkdnhpelkeoaaGreatMp
namespace Go.Proofs.YtcpkdnhpelkeoaaGreat
set_option linter.unusedVariables false
set_option linter.unusedSimpArgs false
open Go.RowKit Go.Sort

theorem step_appG {P : Program} (w : World) {ops : Array Oper} {o : Oper} {a : Act} {K : Act → World → Prop} {Q : Exit → Act → World → Prop} {E : Prop} (hw : Region.wanted o (yielded ops a.tmps) = true) (s x : Operand) (t : TypeId)
    (ho : o.op = .call { callee := .builtin .append, args := #[s, x], argTypes := #[t, t] })
    (base : Nat) (e : TypeId) (z : Value) (size bytes : Nat) (ht : P.underlying t = some (.slice e)) (hinfo : (P.info? e).map (fun i => (i.zero, i.size, i.bytes)) = some (some z, size, bytes))
    (hzs : z.cells.size = size) (hsz : 0 < size) (A : Option Addr) (n c : Nat) (xs : List Value) (hs : a.eval s = .slice A n c) (hown : Own w base e size A n c xs)
    (B : Option Addr) (m d : Nat) (news : List Value) (hx : a.eval x = .slice B m d) (hr : Rd w size B m news) (h1 : ∀ u ∈ news, u.oneCell' = true)
    (hbytes : (n + m) * bytes ≤ 140737488355328) (h63 : n + m ≤ maxLen) (hbase : base ≤ w.heap.size)
    (h : ∀ A' c' w', Own w' base e size A' (n + m) c' (xs ++ news) → w.grownBy w' (blk A) → (blk A' = blk A ∨ blk A' = some w.heap.size) → K (a.put o.dst (.slice A' (n + m) c')) w') :
    if Region.wanted o (yielded ops a.tmps) = true then Oper.wp P o a w K Q else E := by
  rw [if_pos hw]
  exact wp_app w s x t ho base e z size bytes ht hinfo hzs hsz A n c xs hs hown B m d news hx hr h1 hbytes h63 hbase h
theorem step_callG {P : Program} {ops : Array Oper} {o : Oper} {a : Act} {w : World} {K : Act → World → Prop} {Q : Exit → Act → World → Prop} {E : Prop} (hw : Region.wanted o (yielded ops a.tmps) = true) (f : FuncId) (xs : Array Operand) (ts : Array TypeId)
    (ho : o.op = .call { callee := .value (.func f), args := xs, argTypes := ts }) (eg : ∀ args w, (callFunc f args).run P w = .ok (.enter f args) w) (args : Array Value) (hargs : xs.map a.eval = args) {R : Ending → World → Prop}
    (h : Calls P f args w R) (hR : ∀ e w', R e w' → ∃ v, e = .returned v) (hK : ∀ v w', R (.returned v) w' → K (a.put o.dst v) w') :
    if Region.wanted o (yielded ops a.tmps) = true then Oper.wp P o a w K Q else E := by
  rw [if_pos hw]
  subst hargs
  unfold Oper.wp
  simp [execOp, ho, resolve, Deferred.ofValue, invoke, eg, Act.eval]
  refine h.mono ?_
  intro e w' hr
  obtain ⟨v, rfl⟩ := hR e w' hr
  exact hK v w' hr
theorem step_skip {o : Oper} {y : Nat → Option Bool} {X E : Prop} (hw : Region.wanted o y = false) (h : E) : if Region.wanted o y = true then X else E := by
  rw [if_neg (by rw [hw]; simp)]
  exact h
theorem step_callN {P : Program} {ops : Array Oper} {o : Oper} {a : Act} {w : World} {K : Act → World → Prop} {Q : Exit → Act → World → Prop} {E : Prop} (hgd : o.guard = none) (f : FuncId) (xs : Array Operand) (ts : Array TypeId)
    (ho : o.op = .call { callee := .value (.func f), args := xs, argTypes := ts }) (eg : ∀ args w, (callFunc f args).run P w = .ok (.enter f args) w) (args : Array Value) (hargs : xs.map a.eval = args) {R : Ending → World → Prop}
    (h : Calls P f args w R) (hR : ∀ e w', R e w' → ∃ v, e = .returned v) (hK : ∀ v w', R (.returned v) w' → K (a.put o.dst v) w') :
    if Region.wanted o (yielded ops a.tmps) = true then Oper.wp P o a w K Q else E :=
  step_callG (by simp [Region.wanted, hgd]) f xs ts ho eg args hargs h hR hK
end Go.Proofs.YtcpkdnhpelkeoaaGreat
