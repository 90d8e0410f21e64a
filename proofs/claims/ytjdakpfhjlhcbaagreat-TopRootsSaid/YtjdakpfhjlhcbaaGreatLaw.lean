/-
  TopRoots: for every recipe, the product of the square roots of two numbers that are not negative is the square root of their product, and the square roots of a + b + 2 sqrt(a b) and a + b - 2 sqrt(a b) are the sum and the absolute value of the difference of their square roots. No condition.
-/
import Derived.Test.YtjdakpfhjlhcbaaGreatJ5
import Derived.Test.YtjdakpfhjlhcbaaGreatJ7
namespace Go.Proofs.YtjdakpfhjlhcbaaGreat
set_option linter.all false
set_option maxRecDepth 100000
set_option maxHeartbeats 16000000
open Go.ChangeAt Go.ChangeShapes Go.RowKit Go.Sort Go.WideShapes
open Go.Proofs.Tryz renaming prog → aD
open Go.Lib renaming hid → aE
open Go.Value renaming okWide→ao
theorem recipe_one {W:World} {v:Value} (hv:ao aD W .any 0 23 v):v.oneCell' = true:=by
 cases v <;> first | rfl | (simp [ao,Cell.okWide,Cell.ok,Tryz.underlying23] at hv)
theorem D8 (os:Os) (started:os.Started) (H:Type) (enc:TypeId × Value→H) :
 ReturnsInHanded {} Tryz.checked os 3 .any (Rows.topRootsSpec.pre6 enc aD Tryz.f3 Rows.topRootsRow.domain false) (Rows.topRootsSpec.post enc aD Tryz.f3 false true false false):=by
 refine returnsInHanded_of_change (C:=Tryz.checked) Tp.own started (by kernel_rfl) Tryz.func3
  (ChangeSpec.witness6 (enc:=enc) (C:=Tryz.checked) false ⟨#[],#[.slice none 0 0],[]⟩ 8 (by kernel_rfl) (by kernel_rfl) (by kernel_rfl) (by kernel_rfl)) ?_
 intro W base args ds gs before hval0 hW hcnd _;have hval:∀ (j:Nat) t v,Tryz.f3.params[j]? = some t→args[j]? = some v→ao aD W .any base t v:=hval0;have hW':=hW;obtain ⟨p,q,hA0,hV,rfl,hfz,hnd⟩:=hW;have hA:DataW.TrodAll enc aD W 0 (fun _=>true) true Tryz.f3.params.toList args.toList ds p:=hA0;rw [Tryz.params3] at hA hval;obtain ⟨v0,vs0,d0,ds0,p0,q0,hargs,rfl,rfl,h0,r0⟩:=trodAll_cons hA;obtain ⟨rfl,rfl,rfl⟩:=trodAll_nil r0;obtain rfl:args = #[v0]:=by cases args;simp_all
 obtain ⟨rfl,rfl⟩:=trodVars_none hV;have lt0:∀ x∈p0,x.block < W.heap.size:=by obtain ⟨m,hm⟩:=h0;exact DataW.trod_lt m _ _ _ hm
 obtain ⟨ops,hn,hok,hrep⟩:=OH h0 (recipe_one (hval 0 23 v0 rfl rfl));clear hA0 hval0;refine (aaW hn hok aaQ (fun _ _=>False) W [v0] (fun _ _ h=>h.elim) ⟨hrep,trivial⟩).mono fun e W' ⟨bel,v,he,hres⟩=>?_
 obtain rfl:=gy (KX.dat.1 hres);subst he;exact ⟨_,rfl,_,_,_,[],_,[],hW',trodAll_mk1 (shut_bool Tryz.underlying4 _),(trodAll_cons_mk (Below.trod Tp.laidOut (by kernel_rfl) (of_decide_eq_true (by kernel_rfl)) h0 bel lt0) trodAll_mk0),rfl,bel.frame _,fun h=>by cases h⟩
theorem topRoots_holds:Rows.TopRootsSaid :=
 OpenClaim.holds_of_wide 3 Tryz.f3 rfl rfl rfl rfl rfl rfl rfl ⟨rfl,rfl,rfl,rfl,rfl⟩ rfl rfl rfl rfl rfl (by kernel_rfl) Tryz.func3 (by kernel_rfl)
  (of_decide_eq_true (by kernel_rfl)) (by unfold Func.isWrapper;first | (rw [if_pos (by decide +kernel)];kernel_rfl) | (rw [if_neg (by decide +kernel)];exact ⟨rfl,rfl⟩))
  (fun os started H enc _=>D8 os started H enc)
end Go.Proofs.YtjdakpfhjlhcbaaGreat
