/-
  GraphOf: Of returns the graph of the distances of a sketch.
-/
import Derived.Test.YtpdbekgkopglgaaGreatJ20
import Derived.Test.YtpdbekgkopglgaaGreatJ21
import Derived.Test.YtpdbekgkopglgaaGreatJ22
import Derived.Test.YtpdbekgkopglgaaGreatJ25
import Derived.Test.YtpdbekgkopglgaaGreatJ28
namespace Go.Proofs.YtpdbekgkopglgaaGreat
set_option linter.unusedVariables false
set_option linter.unusedSimpArgs false
open Go.ChangeShapes Go.WideShapes Go.ChangeAt Go.RowKit Go.Sort

theorem mulOK : MulOK := fun K w na nb ya yb A B Y Z n c m d p e q f a b a' b' hK hn hm hp hq h h' => mul02_any K w na nb ya yb A B Y Z n c m d p e q f a b a' b' hK hn hm hp hq h h'
theorem awk (w : World) : Calls Tryz.prog 4 #[] w fun e w' => e = .returned (.bool true) ∧ Below w.heap.size w w' := awakeG gcomp_any w
set_option maxRecDepth 100000 in
theorem graphOf_lifted (os : Os) (started : os.Started) (H : Type) (enc : TypeId × Value → H) :
    ReturnsInHanded {} Tryz.checked os 3 .any (Rows.graphOfSpec.pre6 enc Tryz.prog Tryz.f3 Rows.graphOfRow.domain false) (Rows.graphOfSpec.post enc Tryz.prog Tryz.f3 false true false false) := by
  refine returnsInHanded_of_change (C := Tryz.checked) Tp.own started (by kernel_rfl) Tryz.func3
    (ChangeSpec.witness6 (enc := enc) (C := Tryz.checked) false ⟨#[], #[.agg #[.slice none 0 0, .slice none 0 0, .slice none 0 0, .slice none 0 0, .slice none 0 0, .slice none 0 0]], []⟩ 8 (by kernel_rfl) (by kernel_rfl) (by kernel_rfl) (by kernel_rfl)) ?_
  intro W base args ds gs before hval0 hW hcnd _
  have hval : ∀ (j : Nat) t v, Tryz.f3.params[j]? = some t → args[j]? = some v → Value.okWide Tryz.prog W .any base t v := hval0
  have hW' := hW
  obtain ⟨p, q, hA0, hV, rfl, hfz, hnd⟩ := hW
  have hA : DataW.TrodAll enc Tryz.prog W 0 (fun _ => true) true Tryz.f3.params.toList args.toList ds p := hA0
  rw [Tryz.params3] at hA hval
  obtain ⟨v0, vs0, d0, ds0, p0, q0, hargs, rfl, rfl, h0, r0⟩ := trodAll_cons hA
  obtain ⟨rfl, rfl, rfl⟩ := trodAll_nil r0
  obtain rfl : args = #[v0] := by cases args; simp_all
  obtain ⟨rfl, rfl⟩ := trodVars_none hV
  have lt0 : ∀ x ∈ p0, x.block < W.heap.size := by obtain ⟨m, hm⟩ := h0; exact DataW.trod_lt m _ _ _ hm
  obtain ⟨P, n, c, R, m, d, G, g, gc, A, a, ac, Hh, hh, hc, C, k, kc, rfl, hS⟩ := open_sketch (hval 0 29 v0 rfl rfl) h0
  clear hA0 hval0
  refine (law_gof awk mulOK P n c R m d G g gc A a ac Hh hh hc C k kc W hS).mono fun e W' ⟨he, bel⟩ => ?_
  subst he
  exact ⟨_, rfl, _, _, _, [], _, [], hW', trodAll_mk1 (shut_bool Tryz.underlying4 _), (trodAll_cons_mk (Below.trod Tp.laidOut (by kernel_rfl) (of_decide_eq_true (by kernel_rfl)) h0 bel lt0) trodAll_mk0), rfl, bel.frame _, fun h => by cases h⟩

theorem graphOf_holds : Rows.GraphOfSaid :=
  OpenClaim.holds_of_wide 3 Tryz.f3 rfl rfl rfl rfl rfl rfl rfl ⟨rfl, rfl, rfl, rfl, rfl⟩ rfl rfl rfl rfl rfl (by kernel_rfl) Tryz.func3 (by kernel_rfl)
    (of_decide_eq_true (by kernel_rfl)) (by unfold Func.isWrapper; first | (rw [if_pos (by decide +kernel)]; kernel_rfl) | (rw [if_neg (by decide +kernel)]; exact ⟨rfl, rfl⟩))
    (fun os started H enc _ => graphOf_lifted os started H enc)
#print axioms graphOf_holds
end Go.Proofs.YtpdbekgkopglgaaGreat
