/-
  Lemmas and contracts for the statement.
-/
import Derived.Test.YtjdakpfhjlhcbaaGreatJ5
import Derived.Test.YtjdakpfhjlhcbaaGreatJ3
import Derived.LoopN
import Derived.Laws.Small
import Derived.WalkKit
import Derived.StillTail
import Derived.TacticsIn
import Derived.OwnWalkIn
import Derived.RangeFuncCalls
import Derived.RangeFuncBox
import Derived.RangeFuncLeaves
import Derived.RangeFuncNested
import Derived.Shelf.Abstract
import Derived.TacticsInMore
import Derived.LoopNIn
import Derived.LoopIn
namespace Go.Proofs.YtjdakpfhjlhcbaaGreat
set_option linter.all false
set_option maxRecDepth 100000
set_option maxHeartbeats 16000000
open Go.RowKit Go.Shelf Go.Sort
open Go.Proofs.Tryz renaming prog → aD
open Go.Lib renaming hid → aE
open _root_.Array renaming getD_eq_getD_getElem?→bj,getElem?_append_left→bE,getElem?_eq_some_iff→ar,getElem?_setIfInBounds→eI,replicate→av,replicate_succ→bB,replicate_zero→bA
open Bool renaming and_eq_true→ao,false_or→eA,or_eq_false_iff→cJ,or_eq_true→da,or_eq_true_iff→br
open Go.Act renaming eval→cP
open Go.Builtin renaming copy_→fR
open Go.Code renaming region→fY,rounds→ea
open Go.Deferred renaming ofValue→dp
open Go.Fence renaming wide→bq
open Go.Region renaming chainB→eL,ready→du,waitsFor→cH,waitsFor_spec→cG,wanted→eh
open Go.Result renaming andThen_ok→a8
open Go.Sem renaming run_bind→bw,run_pure→bs
open Go.Value renaming int→cF,pointer→bc,slice→eW
open Go.World renaming cell?_of_block→d9
open Int renaming mul_nonneg→ep
open List renaming all_eq_true→aq,any_eq_true→dx,append_toArray→cg,cons_append→bX,getD_eq_getElem?_getD→dk,getElem?_append_left→eT,getElem?_drop→eB,getElem?_eq_getElem→aw,getElem?_eq_none→ff,getElem?_eq_some_iff→aM,getElem?_take→cj,getElem_mem→fN,length_append→dj,length_cons→bR,length_drop→eE,length_map→fW,length_nil→cV,length_pos_iff→fk,length_take→bO,map_append→fT,map_singleton→fw,mem_append→cQ,mem_append_left→fh,mem_append_right→e8,mem_cons_of_mem→fg,mem_of_getElem?→aL,mem_of_mem_drop→ef,mem_of_mem_take→bL,mem_range→bh,mem_singleton→bm,nil_append→bp,push_toArray→cw,range→dc,replicate→de,reverse_nil→fL,size_toArray→ck,take_append_drop→d8,take_of_length_le→eV,take_succ_cons→fj
open Nat renaming add_zero→eZ,gcd→eK,le_refl→a6,le_trans→fX,lt_or_ge→eC,min→eJ,min_eq_left→db,mul_le_mul→eo,mul_le_mul_right→ew,reduceAdd→dt,reduceSub→dr,zero_add→aR
open Ne renaming symm→fS
open Option renaming map_none→dz,map_some→dy
open Option.some renaming inj→bk
open Rat renaming divInt→fI
def KE (N:Nat) (g:Bool) (σa:List Nat) (sa:Nat) (σb:List Nat) (sb:Nat) (K:List Nat→Nat→Bool):Bool:=ER N g σa sa σb sb fun σ x y=>decide (x + y + 1≤BB) && K σ (x + y + 1)
def yQ (N:Nat) (g:Bool) (σa:List Nat) (sa:Nat) (σb:List Nat) (sb:Nat) (K:List Nat→Nat→Bool):Bool:=ER N g σa sa σb sb fun σ x y=>decide (x + y + bD σ≤BB) && K σ (x + y + bD σ)
def Nk (N:Nat) (σ:List Nat) (s:Nat) (K:List Nat→Nat→Bool):Bool:=decide (uO σ s≤BB) && decide (lU σ (lV σ s)≤BB) && decide (bD (s :: σ)≤BB) && decide (lV σ s≤BB) && K σ (lV σ s) && (decide (N≤σ.length) || K (s :: σ) 1)
theorem Zb (a:Nm):VM (aV a):=⟨rfl,rfl,rfl⟩
section
variable {N:Nat} {F:Tw N} {N':Nat} {a b:Nm} {v w:El N} {σa σb:List Nat} {sa sb:Nat} {K:List Nat→Nat→Bool}
theorem kW.neg {σ:List Nat} {s:Nat} (h:kW a σ s):kW (sZ a) σ s:=⟨h.pt,h.ok,h.sx.neg,h.sb⟩
theorem PH (hF:dW F) (hN:N≤7) (hNN:N≤N') (ha:Val F a v) (hb:Val F b w) (na:kW a σa sa) (nb:kW b σb sb) {g:Bool} (hgb:g = false→fU (aA a.t) (aA b.t) = true∨fU (aA b.t) (aA a.t) = true) (hk:KE N' g σa sa σb sb K = true) :
 AC aD true 11 [aV a,aV b] (.bT [aV (lK a b),vI 0])∧AC aD true 12 [aV a,aV b] (.bT [aV (Ia a b),vI 0])∧AC aD true 35 [aV a,aV b] (.bT [aV (lK a b),vI 0]) ∧
 (∃ σ s,K σ s = true∧kW (lK a b) σ s)∧∃ σ s,K σ s = true∧kW (Ia a b) σ s:=by
 obtain ⟨j1,j2,σ,sx,sy,k1,k2,k3,k4,k5,k6,k7⟩:=FN hF hN hNN ha hb na nb hgb hk;simp only [ao,decide_eq_true_iff] at k1;have hn:(bz a b).n≤8:=by
  obtain ⟨h1,τ,h2,_⟩:=ha.join hF hb;have:=h2.le hF h1;omega
 have hk2:=(qg k3).1;have c1:=Py (eN (f:=32)) j1 (Ky hn k2 hk2 (k4.rb k6) (k5.rb k7));have c2:=Py (eN (f:=33)) j1 (KJ hn k2 hk2 (k4.rb k6) (k5.rb k7));have t2:=adS (d1:=fC (aA (bz a b).T) (flat (bz a b).x)) (d2:=fC (aA (bz a b).T) (flat (bz a b).y)) rfl rfl rfl rfl rfl rfl j2;have c3:=ad5 t2 (yg (tD:=bV (bz a b).T) (k4.rb k6) (k5.rb k7) hn);exact ⟨aeX (r:=aV (lK a b)) rfl rfl rfl c1,af8 (r:=aV (Ia a b)) rfl rfl rfl c2,c3,⟨σ,_,k1.2,k2,k3,k4.add k5,k1.1⟩,⟨σ,_,k1.2,k2,k3,k4.add k5.neg,k1.1⟩⟩
theorem J4 (hF:dW F) (hN:N≤7) (hNN:N≤N') (ha:Val F a v) (hb:Val F b w) (na:kW a σa sa) (nb:kW b σb sb) {g:Bool} (hgb:g = false→fU (aA a.t) (aA b.t) = true∨fU (aA b.t) (aA a.t) = true) (hk:yQ N' g σa sa σb sb K = true) :
 AC aD true 9 [aV a,aV b] (.bT [aV (mulM a b),vI 0])∧AC aD true 38 [aV a,aV b] (.bT [aV (mulM a b),vI 0]) ∧
 ∃ σ s,K σ s = true∧kW (mulM a b) σ s:=by
 obtain ⟨j1,j2,σ,sx,sy,k1,k2,k3,k4,k5,k6,k7⟩:=FN hF hN hNN ha hb na nb hgb hk;simp only [ao,decide_eq_true_iff] at k1;have hn:(bz a b).n≤8:=by
  obtain ⟨h1,τ,h2,_⟩:=ha.join hF hb;have:=h2.le hF h1;omega
 have hk2:=(qg k3).1;have c1:=Py (eN (f:=24)) j1 (rJ hn k2 hk2 k4 k5 k1.1);have t2:=adS (d1:=fC (aA (bz a b).T) (flat (bz a b).x)) (d2:=fC (aA (bz a b).T) (flat (bz a b).y)) rfl rfl rfl rfl rfl rfl j2;have c3:=aeK t2 (jS hn k2 k4 k5 k1.1);exact ⟨afL (r:=aV (mulM a b)) rfl rfl rfl c1,c3,σ,_,k1.2,k2,k3,sz.mul k2 k4 k5,k1.1⟩
theorem adv (hF:dW F) (hN:N≤7) (hNN:N≤N') (ha:Val F a v) (hb:Val F b w) (na:kW a σa sa) (nb:kW b σb sb) {g:Bool} (hgb:g = false→fU (aA a.t) (aA b.t) = true∨fU (aA b.t) (aA a.t) = true) (hk:ER N' g σa sa σb sb (fun _ _ _=>true) = true):∃ e:Bool,(e = true↔v = w)∧AC aD true 10 [aV a,aV b] (.dat (vB e)):=by
 obtain ⟨j1,j2,σ,sx,sy,k1,k2,k3,k4,k5,k6,k7⟩:=FN hF hN hNN ha hb na nb hgb hk;have an:=ha.le hF;have bn:=hb.le hF;have hn:(bz a b).n≤8:=by
  obtain ⟨h1,τ,h2,_⟩:=ha.join hF hb;have:=h2.le hF h1;omega
 have hp:=jK (i:=(bz a b).n) (by omega);have hc:=ZL (x:=flat (bz a b).x) (y:=flat (bz a b).y) (uD (by omega) na.pt na.ok) (uD (by omega) nb.pt nb.ok) na.rx nb.rx (k4.rb k6) (k5.rb k7) (by rw [flat_length];omega) (by rw [flat_length];omega) (by omega) (by omega) fun _=>j1
 refine ⟨_,?_,hc⟩
 split
 · rename_i h;rw [ao] at h;have e:aA a.t = aA b.t:=by
    obtain ⟨l,h1⟩:=iq.1 h.1;have h2:=xH h.2;have h3:=congrArg List.length h1;rw [dj] at h3;have:l = []:=List.eq_nil_of_length_eq_zero (by omega);rw [h1,this,List.append_nil]
   rw [decide_eq_true_iff];exact ha.eq0 hF hb e
 · rw [decide_eq_true_iff];exact ⟨fun h=>(ha.eq hF hb).1 (o8 h),fun h=>congrArg flat ((ha.eq hF hb).2 h)⟩
theorem Ub (hF:dW F) (hN:N≤7) (ha:Val F a v) (na:kW a σa sa) (hk:lU σa sa≤BB) :
 AC aD true 6 [aV a] (.dat (vI (aJ F v)))∧AC aD true 40 [aV a] (.dat (vI (aJ F v))):=by
 have an:=ha.le hF;have hO:=Kq (by omega) na.pt ha.red na.ok;rw [← ha.UU hF];exact ⟨Ua hO na.sx hk,aaT hO na.sx hk⟩
theorem RN (hF:dW F) (hN:N≤7) (ha:Val F a v) (na:kW a σa sa):AC aD true 7 [aV a] (.dat (aV (sZ a)))∧AC aD true 41 [aV a] (.dat (aV (sZ a))):=by
 have an:=ha.le hF;have hO:=Kq (by omega) na.pt ha.red na.ok;exact ⟨afS hO na.sx na.sb (uD (by omega) na.pt na.ok),Y4 (σ:=σa) (s:=sa) (by omega) na.rx⟩
theorem RP (hF:dW F) (hN:N≤7) (hNN:N≤N') (hav:Val F a v) (hv0:0≤aJ F v) (hs:Val F (dw a) w) (na:kW a σa sa) (hk:Nk N' σa sa K = true) :
 AC aD true 8 [aV a] (.bT [aV (dw a),vI 0])∧AC aD true 42 [aV a] (.bT [aV (dw a),vI 0])∧∃ σ s,K σ s = true∧kW (dw a) σ s:=by
 have an:=hav.le hF;have sn:=hs.le hF;have hO:=Kq (by omega) na.pt hav.red na.ok;simp only [Nk,ao,decide_eq_true_iff,da] at hk;obtain ⟨⟨⟨⟨⟨b1,b2⟩,b3⟩,b4⟩,k1⟩,k2⟩:=hk;have hsg:0≤aJ a.t a.x:=by rw [hav.UU hF];exact hv0
 have h1:=YX hO na.sx (fX WU b1) b2 hsg (by omega) b3;have h2:=RD hO (qg na.ok).2.2.2 na.sx b1 b2 hsg (by omega);have hla:=na.pt.D9;have hS:(∃ σ s,K σ s = true∧kW (dw a) σ s)∧H9 a.t a.x = [bV (dw a).t,bF (dw a).x,vI 0]:=by
  unfold dw H8 at sn ⊢;unfold H9;cases e:wL a.t a.x with
  | some w =>
   obtain ⟨w1,w2⟩:=oW e;exact ⟨⟨σa,_,k1,na.pt,na.ok,Dz na.pt hav.red (by rw [w2];exact na.sx),b4⟩,rfl⟩
  | none =>
   rw [e] at sn;simp only at sn;refine ⟨⟨sa :: σa,1,k2.resolve_left (by omega),⟨na.sx,na.pt⟩,?_,sz.root a.n,by decide⟩,rfl⟩;simp only [okS,ao,decide_eq_true_iff];exact ⟨⟨b1,b3⟩,na.ok⟩
 obtain ⟨⟨σ,s,g1,g2⟩,hD⟩:=hS;rw [hD] at h1 h2;have hp:=jK (i:=(dw a).n) (by omega);refine ⟨acK (t:=aA (dw a).t) (r:=flat (dw a).x) h1 (uD (by omega) g2.pt g2.ok) g2.rx (by rw [flat_length];omega),aaS (t:=aA (dw a).t) (r:=flat (dw a).x) h2,σ,s,g1,g2⟩
def UJ (b:Nm):Nm:=⟨b.n,b.t,fZ b.t b.x⟩
theorem Val.inv (hF:dW F) (hb:Val F b w) (h0:w≠zeroE N):Val F (UJ b) (fZ F w):=by
 obtain ⟨h1,β,h2,h3⟩:=hb;refine ⟨h1,β,h2,?_⟩;have hb0:b.x≠zeroE b.n:=fun e=>h0 (by rw [← h3,e,gJ])
 have e1:=(jI h1 hb0).2;have e2:=congrArg (aO F β) e1;rw [lH h2,xZ,h3] at e2;exact FY e2 (jI hF h0).2
theorem agk (hF:dW F) (hN:N≤7) (hNN:N≤N') (ha:Val F a v) (hb:Val F b w) (na:kW a σa sa) (nb:kW b σb sb) (hi:invS σb sb + sb + bD σb≤BB) (hk:yQ N' true σa sa σb (invS σb sb) (fun _ _=>true) = true) (h0:w≠zeroE N) :
 AC aD true 39 [aV a,aV b] (.bT [aV (mulM a (UJ b)),vI 0]):=by
 have bn:=hb.le hF;have hb0:b.x≠zeroE b.n:=fun e=>h0 (by
  obtain ⟨h1,β,h2,h3⟩:=hb;rw [← h3,e,gJ])
 have hv:=hb.inv hF h0;have hin:kW (UJ b) σb (invS σb sb):=⟨nb.pt,nb.ok,sz.inv1 nb.pt hb.red hb0 nb.sx,by omega⟩;obtain ⟨_,hm,_⟩:=J4 hF hN hNN ha hv na hin (g:=true) (fun h=>by cases h) hk;exact aez (r:=aV (mulM a (UJ b))) (Dv (by omega) nb.pt hb.red hb0 nb.sx hi).tg rfl rfl rfl hm
theorem acJ (hF:dW F) (hN:N≤7) (hb:Val F b (zeroE N)) (nb:kW b σb sb):AC aD true 39 [aV a,aV b] (.bT [sH,vI 6]):=by
 have bn:=hb.le hF;have hb0:b.x = zeroE b.n:=by
  obtain ⟨h1,β,h2,h3⟩:=hb;exact Eg hF h1 h2 (by rw [h3,gJ])
 refine afE ?_;rw [hb0];exact Rf (by omega) nb.pt (qg nb.ok).1
end
section
variable {N:Nat} {F:Tw N}
theorem A8 (hF:dW F) {X A:El N} (h:au F X X = A):∃ Y,0≤aJ F Y∧au F Y Y = A:=by
 rcases Int.lt_or_le (aJ F X) 0 with h1 | h1
 · exact ⟨bI X,by rw [(oq hF).sn];omega,(uf F X).trans h⟩
 · exact ⟨X,h1,h⟩
theorem Jb (hF:dW F) {A B R W I:El N} (hR:au F R R = au F A B) (hW:au F W W = aH (aH A B) (aH R R)) (hI:au F (aH A (bI B)) I = dD N 1) :
 au F (au F (au F W (aH A (bI R))) I) (au F (au F W (aH A (bI R))) I) = A:=by
 have e1:au F (aH A (bI R)) (aH A (bI R)) = au F A (aH (aH A B) (bI (aH R R))):=by
  have:au F (aH A (bI R)) (aH A (bI R)) = aH (aH (au F A A) (bI (aH (au F A R) (au F A R)))) (au F R R):=((jY F).ring [A,R] (.mul (.add (.v 0) (.neg (.v 1))) (.add (.v 0) (.neg (.v 1)))) (.add (.add (.mul (.v 0) (.v 0)) (.neg (.add (.mul (.v 0) (.v 1)) (.mul (.v 0) (.v 1))))) (.mul (.v 1) (.v 1))) (by decide));rw [this,hR];exact ((jY F).ring [A,B,R] (.add (.add (.mul (.v 0) (.v 0)) (.neg (.add (.mul (.v 0) (.v 2)) (.mul (.v 0) (.v 2))))) (.mul (.v 0) (.v 1))) (.mul (.v 0) (.add (.add (.v 0) (.v 1)) (.neg (.add (.v 2) (.v 2))))) (by decide))
 have e2:au F (aH (aH A B) (aH R R)) (aH (aH A B) (bI (aH R R))) = au F (aH A (bI B)) (aH A (bI B)):=by
  have:au F (aH (aH A B) (aH R R)) (aH (aH A B) (bI (aH R R))) = aH (au F (aH A B) (aH A B)) (bI (aH (aH (au F R R) (au F R R)) (aH (au F R R) (au F R R)))):=((jY F).ring [A,B,R] (.mul (.add (.add (.v 0) (.v 1)) (.add (.v 2) (.v 2))) (.add (.add (.v 0) (.v 1)) (.neg (.add (.v 2) (.v 2))))) (.add (.mul (.add (.v 0) (.v 1)) (.add (.v 0) (.v 1))) (.neg (.add (.add (.mul (.v 2) (.v 2)) (.mul (.v 2) (.v 2))) (.add (.mul (.v 2) (.v 2)) (.mul (.v 2) (.v 2)))))) (by decide));rw [this,hR];exact ((jY F).ring [A,B] (.add (.mul (.add (.v 0) (.v 1)) (.add (.v 0) (.v 1))) (.neg (.add (.add (.mul (.v 0) (.v 1)) (.mul (.v 0) (.v 1))) (.add (.mul (.v 0) (.v 1)) (.mul (.v 0) (.v 1)))))) (.mul (.add (.v 0) (.neg (.v 1))) (.add (.v 0) (.neg (.v 1)))) (by decide))
 have e3:au F (au F (au F W (aH A (bI R))) I) (au F (au F W (aH A (bI R))) I) = au F (au F (au F W W) (au F (aH A (bI R)) (aH A (bI R)))) (au F I I):=((jY F).ring [W,A,R,I] (.mul (.mul (.mul (.v 0) (.add (.v 1) (.neg (.v 2)))) (.v 3)) (.mul (.mul (.v 0) (.add (.v 1) (.neg (.v 2)))) (.v 3))) (.mul (.mul (.mul (.v 0) (.v 0)) (.mul (.add (.v 1) (.neg (.v 2))) (.add (.v 1) (.neg (.v 2))))) (.mul (.v 3) (.v 3))) (by decide));rw [e3,hW,e1];have e4:au F (au F (aH (aH A B) (aH R R)) (au F A (aH (aH A B) (bI (aH R R))))) (au F I I) = au F (au F A (au F (aH (aH A B) (aH R R)) (aH (aH A B) (bI (aH R R))))) (au F I I):=((jY F).ring [aH (aH A B) (aH R R),aH (aH A B) (bI (aH R R)),A,I] (.mul (.mul (.v 0) (.mul (.v 2) (.v 1))) (.mul (.v 3) (.v 3))) (.mul (.mul (.v 2) (.mul (.v 0) (.v 1))) (.mul (.v 3) (.v 3))) (by decide));rw [e4,e2];have e5:au F (au F A (au F (aH A (bI B)) (aH A (bI B)))) (au F I I) = au F A (au F (au F (aH A (bI B)) I) (au F (aH A (bI B)) I)):=((jY F).ring [A,aH A (bI B),I] (.mul (.mul (.v 0) (.mul (.v 1) (.v 1))) (.mul (.v 2) (.v 2))) (.mul (.v 0) (.mul (.mul (.v 1) (.v 2)) (.mul (.v 1) (.v 2)))) (by decide));rw [e5,hI,(jY F).mo,(jY F).mo]
theorem Nv (hF:dW F) {A B R W:El N} (hR:au F R R = au F A B) (hW:au F W W = aH (aH A B) (aH R R)) (hne:A≠B):(∃ X,0≤aJ F X∧au F X X = A)∧∃ Y,0≤aJ F Y∧au F Y Y = B:=by
 have hd:∀ {A B:El N},A≠B→aH A (bI B)≠zeroE N:=fun {A B} hne e=>hne (by
  have:aH (aH A (bI B)) B = aH (zeroE N) B:=by rw [e]
  rwa [show aH (aH A (bI B)) B = A from ((jY F).ring [A,B] (.add (.add (.v 0) (.neg (.v 1))) (.v 1)) (.v 0) (by decide)),(jY F).za] at this)
 refine ⟨A8 hF (Jb hF hR hW (jI hF (hd hne)).2),A8 hF (Jb hF (A:=B) (B:=A) (R:=R) (W:=W) (I:=fZ F (aH B (bI A))) ?_ ?_ (jI hF (hd (fS hne))).2)⟩
 · rw [hR,(jY F).mc]
 · rw [hW,(jY F).ac A B]
theorem QF (hF:dW F) {A B R W:El N} (hA:0≤aJ F A) (hR0:0≤aJ F R) (hR:au F R R = au F A B) (hW:au F W W = aH (aH A B) (aH R R)):(∃ X,0≤aJ F X∧au F X X = A)∧∃ Y,0≤aJ F Y∧au F Y Y = B:=by
 by_cases hne:A = B
 · subst hne;have e:R = A:=wo hF hR hR0 hA;subst e;have h:au F (au F W (bU N)) (au F W (bU N)) = R:=by
    have h1:au F (au F W (bU N)) (au F W (bU N)) = au F (au F (au F W W) (bU N)) (bU N):=((jY F).ring [W,bU N] (.mul (.mul (.v 0) (.v 1)) (.mul (.v 0) (.v 1))) (.mul (.mul (.mul (.v 0) (.v 0)) (.v 1)) (.v 1)) (by decide));rw [h1,hW,sO,sO]
   exact ⟨A8 hF h,A8 hF h⟩
 · exact Nv hF hR hW hne
theorem P8 (hF:dW F) {A B R W:El N} (hR:au F R R = au F A B) (hW:au F W W = kX (aH A B) (aH R R)) (hne:A≠B):(∃ X,0≤aJ F X∧au F X X = A)∧∃ Y,0≤aJ F Y∧au F Y Y = B :=
 Nv hF (R:=bI R) ((uf F R).trans hR) (hW.trans ((jY F).ring [A,B,R] (.add (.add (.v 0) (.v 1)) (.neg (.add (.v 2) (.v 2)))) (.add (.add (.v 0) (.v 1)) (.add (.neg (.v 2)) (.neg (.v 2)))) (by decide))) hne
variable {a b:Nm} {v w:El N}
theorem Val.self {a:Nm} (h:dW a.t):Val a.t a a.x:=⟨h,_,(Lies.self h).1,(Lies.self h).2 a.x⟩
theorem Val.back (hF:dW F) (h0:dW a.t) (hs:Val F (dw a) w) (hr:0≤aJ a.t a.x):Val F a (au F w w)∧0≤aJ F w:=by
 unfold dw H8 at hs;cases e:wL a.t a.x with
 | some z =>
  rw [e] at hs;obtain ⟨z1,z2⟩:=oW e;obtain ⟨_,α,h2,h3⟩:=hs;simp only at h2 h3;exact ⟨⟨h0,α,h2,by rw [← h3,← lH h2,z2]⟩,by rw [← h3,kT hF h2];exact z1⟩
 | none =>
  rw [e] at hs;obtain ⟨_,α,h2,h3⟩:=hs;simp only at h2 h3;have e2:aO F α (gu a.n) = α a.n:=by
   show aH (aO F α (zeroE a.n)) (au F (aO F α (dD a.n 1)) (α a.n)) = α a.n;rw [gJ,xZ];exact ((jY F).ring [α a.n] (.add .zero (.mul .one (.v 0))) (.v 0) (by decide))
  rw [e2] at h3;exact ⟨⟨h0,α,h2.1,by rw [← h3];exact h2.2.2.symm⟩,by rw [← h3,h2.2.1];decide⟩
theorem Eo {M:Nat} {G:Tw M} (hG:dW G) {v0 w0:El M} (ha:Val G a v0) (hb:Val G b w0) (hF:dW F) {τ:Nat→El N} (hL:Lies F τ (bz a b).T):Val F a (aO F τ (bz a b).x)∧Val F b (aO F τ (bz a b).y):=by
 obtain ⟨ra,α,la,_⟩:=ha;obtain ⟨rb,β,lb,_⟩:=hb;obtain ⟨c1,c2,c3,⟨ρ,c4⟩⟩:=KH hG ra rb la lb;obtain ⟨l,hl⟩:=iq.1 c3;have l1:Lies F τ a.t:=hL.X6 hl;have l2:Lies F (fun i=>aO F τ (ρ i)) b.t:=Lies.trans hF hL c4;obtain ⟨j1,τ',j2,j3,j4⟩:=Ou hF ra rb l1 l2;have hu:∀ z:El (bz a b).n,aO F τ' z = aO F τ z:=fun z=>gK z fun i hi=>hL.uniq hF j2 i hi
 exact ⟨⟨ra,_,l1,by rw [← j3,hu]⟩,⟨rb,_,l2,by rw [← j4,hu]⟩⟩
theorem Gq {M:Nat} {G:Tw M} (hG:dW G) {v0 w0:El M} (ha:Val G a v0) (hb:Val G b w0) (hF:dW F) {z:El N} (h:Val F (lK a b) z):∃ v w,Val F a v∧Val F b w∧z = aH v w:=by
 obtain ⟨_,τ,h2,h3⟩:=h;obtain ⟨g1,g2⟩:=Eo hG ha hb hF h2;exact ⟨_,_,g1,g2,by rw [← h3];exact mD F τ _ _⟩
theorem of_sub {M:Nat} {G:Tw M} (hG:dW G) {v0 w0:El M} (ha:Val G a v0) (hb:Val G b w0) (hF:dW F) {z:El N} (h:Val F (Ia a b) z):∃ v w,Val F a v∧Val F b w∧z = kX v w:=by
 obtain ⟨_,τ,h2,h3⟩:=h;obtain ⟨g1,g2⟩:=Eo hG ha hb hF h2;refine ⟨_,_,g1,g2,?_⟩;rw [← h3];show aO F τ (aH (bz a b).x (bI (bz a b).y)) = _;rw [mD,uA];rfl
theorem ae1 {M:Nat} {G:Tw M} (hG:dW G) {v0 w0:El M} (ha:Val G a v0) (hb:Val G b w0) (hF:dW F) {z:El N} (h:Val F (mulM a b) z):∃ v w,Val F a v∧Val F b w∧z = au F v w:=by
 obtain ⟨_,τ,h2,h3⟩:=h;obtain ⟨g1,g2⟩:=Eo hG ha hb hF h2;exact ⟨_,_,g1,g2,by rw [← h3];exact lH h2 _ _⟩
end
noncomputable def BD (a b:Nm):Nm:=dw (mulM a b)
noncomputable def zT (a b:Nm):Nm:=lK (lK a b) (lK (BD a b) (BD a b))
noncomputable def lessM (a b:Nm):Nm:=Ia (lK a b) (lK (BD a b) (BD a b))
noncomputable def dM (a b:Nm):Nm:=Ia (dw a) (dw b)
section
variable {N:Nat} {F:Tw N} {a b:Nm} {X Y:El N}
structure nD (F:Tw N) (a b:Nm) (X Y:El N):Prop where
 x0:0≤aJ F X
 y0:0≤aJ F Y
 va:Val F a (au F X X)
 vb:Val F b (au F Y Y)
 vx:Val F (dw a) X
 vy:Val F (dw b) Y
theorem nD.mk' (hF:dW F) (x0:0≤aJ F X) (y0:0≤aJ F Y) (ha:Val F a (au F X X)) (hb:Val F b (au F Y Y)):nD F a b X Y:=⟨x0,y0,ha,hb,ha.sqrt hF x0 rfl,hb.sqrt hF y0 rfl⟩
variable (h:nD F a b X Y) (hF:dW F)
include h hF
theorem nD.p:Val F (mulM (dw a) (dw b)) (au F X Y):=h.vx.mul hF h.vy
theorem nD.xy0:0≤aJ F (au F X Y):=by
 rw [(oq hF).sm];exact ep h.x0 h.y0
theorem nD.rt:Val F (BD a b) (au F X Y):=(h.va.mul hF h.vb).sqrt hF (h.xy0 hF) ((jY F).ring [X,Y] (.mul (.mul (.v 0) (.v 1)) (.mul (.v 0) (.v 1))) (.mul (.mul (.v 0) (.v 0)) (.mul (.v 1) (.v 1))) (by decide))
theorem nD.sum:Val F (lK a b) (aH (au F X X) (au F Y Y)):=h.va.add hF h.vb
theorem nD.twice:Val F (lK (BD a b) (BD a b)) (aH (au F X Y) (au F X Y)):=(h.rt hF).add hF (h.rt hF)
theorem nD.more:Val F (zT a b) (au F (aH X Y) (aH X Y)):=by
 have:=(h.sum hF).add hF (h.twice hF);rwa [show aH (aH (au F X X) (au F Y Y)) (aH (au F X Y) (au F X Y)) = au F (aH X Y) (aH X Y) from ((jY F).ring [X,Y] (.add (.add (.mul (.v 0) (.v 0)) (.mul (.v 1) (.v 1))) (.add (.mul (.v 0) (.v 1)) (.mul (.v 0) (.v 1)))) (.mul (.add (.v 0) (.v 1)) (.add (.v 0) (.v 1))) (by decide))] at this
theorem nD.less:Val F (lessM a b) (au F (kX X Y) (kX X Y)):=by
 have:=(h.sum hF).sub hF (h.twice hF);rwa [show kX (aH (au F X X) (au F Y Y)) (aH (au F X Y) (au F X Y)) = au F (kX X Y) (kX X Y) from ((jY F).ring [X,Y] (.add (.add (.mul (.v 0) (.v 0)) (.mul (.v 1) (.v 1))) (.neg (.add (.mul (.v 0) (.v 1)) (.mul (.v 0) (.v 1))))) (.mul (.add (.v 0) (.neg (.v 1))) (.add (.v 0) (.neg (.v 1)))) (by decide))] at this
theorem nD.u:Val F (dw (zT a b)) (aH X Y):=(h.more hF).sqrt hF ((oq hF).agR h.x0 h.y0) rfl
theorem nD.s:Val F (lK (dw a) (dw b)) (aH X Y):=h.vx.add hF h.vy
theorem nD.d:Val F (dM a b) (kX X Y):=h.vx.sub hF h.vy
theorem nD.v {d1:Nm} (h1:d1 = if aJ F (kX X Y) < 0 then sZ (dM a b) else dM a b):∃ Z,Val F (dw (lessM a b)) Z∧Val F d1 Z:=by
 subst h1
 split
 · rename_i hs;have h2:=(h.d hF).neg;exact ⟨_,(h.less hF).sqrt hF (by rw [(oq hF).sn];omega) (uf F _),h2⟩
 · rename_i hs;exact ⟨_,(h.less hF).sqrt hF (by omega) rfl,h.d hF⟩
end
section
variable {M:Nat} {G:Tw M} {a b:Nm} {va vb:El M}
theorem Kz (hG:dW G) (ha:Val G a va) (hb:Val G b vb) (a0:0≤aJ G va) (b0:0≤aJ G vb):∃ (N:Nat) (F:Tw N) (X Y:El N),dW F∧N≤M + 2∧nD F a b X Y:=by
 obtain ⟨N1,G1,ι1,w1,r1,n1,t1,s1,z1,q1,_⟩:=Val.up hG a0;have ha1:=t1 ha;have hb1:=t1 hb;have b1:0≤aJ G1 (ι1 vb):=by rw [s1];exact b0
 obtain ⟨N2,G2,ι2,w2,r2,n2,t2,s2,z2,q2,_,m2,_⟩:=Val.up r1 b1;have ha2:=t2 ha1;have hb2:=t2 hb1;rw [← q1,m2] at ha2;rw [← q2] at hb2;exact ⟨N2,G2,ι2 w1,w2,r2,by omega,nD.mk' r2 (by rw [s2];exact z1) z2 ha2 hb2⟩
theorem vals_eq (hG:dW G) (ha:Val G a va) (hb:Val G b va) (a0:0≤aJ G va):∃ (N:Nat) (F:Tw N) (X:El N),dW F∧N≤M + 1∧nD F a b X X:=by
 obtain ⟨N1,G1,ι1,w1,r1,n1,t1,s1,z1,q1,_⟩:=Val.up hG a0;have ha1:=t1 ha;have hb1:=t1 hb;rw [← q1] at ha1 hb1;exact ⟨N1,G1,w1,r1,n1,nD.mk' r1 z1 z1 ha1 hb1⟩
theorem aeL {N:Nat} {F:Tw N} {X Y:El N} (hF:dW F) (h:nD F a b X Y):∃ X' Y',nD (dw (zT a b)).t a b X' Y':=by
 have hs:=h.u hF;have hU:=hs.red;have hb:=Val.back hU (h.more hF).red (Val.self hU) (by rw [(h.more hF).UU hF];exact (oq hF).vK _);obtain ⟨S,T,hS,hT,e1⟩:=Gq hF (h.sum hF) (h.twice hF) hU hb.1;obtain ⟨A,B,hA,hB,e2⟩:=Gq hF h.va h.vb hU hS;obtain ⟨R,R',hR,hR',e3⟩:=Gq hF (h.rt hF) (h.rt hF) hU hT;obtain rfl:=hR.uniq hU hR';have hab:=h.va.mul hF h.vb;have hb2:=Val.back hU hab.red hR (by rw [hab.UU hF,(oq hF).sm];exact ep ((oq hF).vK _) ((oq hF).vK _));have e4:au (dw (zT a b)).t R R = au (dw (zT a b)).t A B:=hb2.1.uniq hU (hA.mul hU hB);have a0:0≤aJ (dw (zT a b)).t A:=by rw [← hA.UU hU,h.va.UU hF];exact (oq hF).vK _
 obtain ⟨⟨X',x1,x2⟩,Y',y1,y2⟩:=QF hU a0 hb2.2 e4 (by rw [e1,e2,e3]);exact ⟨X',Y',nD.mk' hU x1 y1 (by rw [x2];exact hA) (by rw [y2];exact hB)⟩
theorem afv {N:Nat} {F:Tw N} {X Y:El N} (hF:dW F) (h:nD F a b X Y) (hne:au F X X≠au F Y Y):∃ X' Y',nD (dw (lessM a b)).t a b X' Y':=by
 obtain ⟨Z,hs,_⟩:=h.v hF rfl;have hU:=hs.red;have hb:=Val.back hU (h.less hF).red (Val.self hU) (by rw [(h.less hF).UU hF];exact (oq hF).vK _);obtain ⟨S,T,hS,hT,e1⟩:=of_sub hF (h.sum hF) (h.twice hF) hU hb.1;obtain ⟨A,B,hA,hB,e2⟩:=Gq hF h.va h.vb hU hS;obtain ⟨R,R',hR,hR',e3⟩:=Gq hF (h.rt hF) (h.rt hF) hU hT;obtain rfl:=hR.uniq hU hR';have hab:=h.va.mul hF h.vb;have hb2:=Val.back hU hab.red hR (by rw [hab.UU hF,(oq hF).sm];exact ep ((oq hF).vK _) ((oq hF).vK _));have e4:au (dw (lessM a b)).t R R = au (dw (lessM a b)).t A B:=hb2.1.uniq hU (hA.mul hU hB);have hAB:A≠B:=fun e=>hne ((h.va.eq hF h.vb).1 ((hA.eq hU hB).2 e))
 obtain ⟨⟨X',x1,x2⟩,Y',y1,y2⟩:=P8 hU e4 (by rw [e1,e2,e3]) hAB;exact ⟨X',Y',nD.mk' hU x1 y1 (by rw [x2];exact hA) (by rw [y2];exact hB)⟩
theorem Yn {N:Nat} {F:Tw N} {X Y:El N} (hF:dW F) (h:nD F a b X Y):∃ X' Y',nD (mulM (dw a) (dw b)).t a b X' Y':=by
 have hs:=h.p hF;have hU:=hs.red;obtain ⟨X',Y',hX,hY,_⟩:=ae1 hF h.vx h.vy hU (Val.self hU);have b1:=Val.back hU h.va.red hX (by rw [h.va.UU hF];exact (oq hF).vK _);have b2:=Val.back hU h.vb.red hY (by rw [h.vb.UU hF];exact (oq hF).vK _);exact ⟨X',Y',nD.mk' hU b1.2 b2.2 b1.1 b2.1⟩
end
structure adh (a b a1 b1 x y p ab root sum twice more less u v s d d1:Nm) (sa sb sd:Int):Prop where
 fsa:AC aD true 6 [aV a] (.dat (vI sa))
 fna:sa < 0→AC aD true 7 [aV a] (.dat (aV a1))
 fea:¬ sa < 0→a1 = a
 fsb:AC aD true 6 [aV b] (.dat (vI sb))
 fnb:sb < 0→AC aD true 7 [aV b] (.dat (aV b1))
 feb:¬ sb < 0→b1 = b
 fx:AC aD true 8 [aV a1] (.bT [aV x,vI 0])
 fy:AC aD true 8 [aV b1] (.bT [aV y,vI 0])
 fp:AC aD true 9 [aV x,aV y] (.bT [aV p,vI 0])
 fab:AC aD true 9 [aV a1,aV b1] (.bT [aV ab,vI 0])
 adG:AC aD true 8 [aV ab] (.bT [aV root,vI 0])
 fe1:AC aD true 10 [aV p,aV root] (.dat (vB true))
 ahu:AC aD true 11 [aV a1,aV b1] (.bT [aV sum,vI 0])
 Ym:AC aD true 11 [aV root,aV root] (.bT [aV twice,vI 0])
 adD:AC aD true 11 [aV sum,aV twice] (.bT [aV more,vI 0])
 adf:AC aD true 12 [aV sum,aV twice] (.bT [aV less,vI 0])
 fu:AC aD true 8 [aV more] (.bT [aV u,vI 0])
 fv:AC aD true 8 [aV less] (.bT [aV v,vI 0])
 fs:AC aD true 11 [aV x,aV y] (.bT [aV s,vI 0])
 fd:AC aD true 12 [aV x,aV y] (.bT [aV d,vI 0])
 fsd:AC aD true 6 [aV d] (.dat (vI sd))
 fnd:sd < 0→AC aD true 7 [aV d] (.dat (aV d1))
 fed:¬ sd < 0→d1 = d
 fe2:AC aD true 10 [aV u,aV s] (.dat (vB true))
 fe3:AC aD true 10 [aV v,aV d1] (.dat (vB true))
theorem aeG {rD:D} {ns:List Nm} {al:Bool} (hn:(decide (((ns.length:Nat):Int) < 2) || !al) = true) (hb:AC aD true 13 [rD] (.grow 2 (ns.map aV))) (ha:AC aD true 14 [.list 2 (ns.map aV)] (.dat (vB al))):AC aD true 4 [rD] (.bT [sH,sH,vB false]):=by
 exact aix 30 Tryz.func4 (k:=go 0 [[0,0],[5,0,2,3,4],[4]] (k:=q (a_call eN (hb.gd)) (go 1 [[1,2,3,4,5],[5]] (k:=q (aI (n:=ns.length) (hlen:=by simp [lenOf])) (q CW (q aC (fD (h:=aC) (k:=cZ 12 (h:=a_call eN (ha)) (k:=cZ 13 (h:=iV) (k:=go 1 [[1,2,3,4,5,15],[1]] (k:=Zz (h:=(fun hc15=>absurd (hn.symm.trans hc15) (by decide))) (k:=go 0 [[7,2,3,4,5],[3]] (k:=UN)))))))))))))
variable {a:Nm}
theorem ab5 {rD:D} {ns:List Nm} {al:Bool} {b:Nm} (hn:(decide (((ns.length:Nat):Int) < 2) || !al) = false) (hl:ns.length≤1000) (h1:ns[ns.length - 1]? = some a) (h2:ns[ns.length - 2]? = some b) (hb:AC aD true 13 [rD] (.grow 2 (ns.map aV))) (ha:AC aD true 14 [.list 2 (ns.map aV)] (.dat (vB al))):AC aD true 4 [rD] (.bT [aV a,aV b,vB true]):=by
 have hn2:2≤ns.length:=by rw [cJ,decide_eq_false_iff_not] at hn;omega
 exact aix 30 Tryz.func4 (k:=go 0 [[0,0],[5,0,2,3,4],[4]] (k:=q (a_call eN (hb.gd)) (go 1 [[1,2,3,4,5],[5]] (k:=q (aI (n:=ns.length) (hlen:=by simp [lenOf])) (q CW (q aC (fD (h:=aC) (k:=cZ 12 (h:=a_call eN (ha)) (k:=cZ 13 (h:=iV) (k:=go 1 [[1,2,3,4,5,15],[1]] (k:=O3 (h:=(fun hc15=>absurd (hc15.symm.trans hn) (by decide))) (k:=eF (aT (bP (dC 15 mixed (go 3 [[2]] (k:=je (n:=ns.length) (hlen:=by simp [lenOf]) (ct:=lD (z:=((ns.length - 1:Nat):Int)) (hz:=by omega) (ct:=mP rfl (Df h1) (ct:=Nb (e:=aV a) (ct:=go 3 [[2]] (k:=je (n:=ns.length) (hlen:=by simp [lenOf]) (ct:=lD (z:=((ns.length - 2:Nat):Int)) (hz:=by omega) (ct:=mP rfl (Df h2) (ct:=Nb (e:=aV b) (ct:=go 3 [[4,2,3,4],[2]] (k:=UN)))))))))))))))))))))))))))
theorem aeo {rD:D} (h2:AC aD true 4 [rD] (.bT [sH,sH,vB false])) (haw:AC aD true 5 [] (.dat (vB true))):AC aD true 3 [rD] (.dat (vB true)):=by
 exact aix 197 Tryz.func3 (k:=go 0 [[0,0],[3,0,2],[4]] (k:=q (a_call eN (h2)) (go 1 [[9,2,3,4,5],[4]] (k:=q (a_call eN (haw)) (q iV (q aC (fD (h:=aC) (k:=cZ 33 (h:=iV) (k:=q Di (q aC (fD (h:=dn) (k:=cZ 37 (h:=aX 0) (k:=cZ 38 (h:=KT) (k:=fD (h:=dn) (k:=cZ 40 (h:=aX 0) (k:=cZ 41 (h:=KT) (k:=qN 39 42 (h:=Bz (z:=0) (hz:=by decide)) (k:=cZ 43 (h:=iT) (k:=go 1 [[1,2,3,4,45],[4]] (k:=q (a_call eN (haw)) (go 1 [[1,2,3,4],[3]] (k:=dG))))))))))))))))))))))
theorem aa3 {rD:D} {b:Nm} (h8:a.n≤8) (h8b:b.n≤8) (hbig:2 < a.n + b.n) (h2:AC aD true 4 [rD] (.bT [aV a,aV b,vB true])) (haw:AC aD true 5 [] (.dat (vB true))):AC aD true 3 [rD] (.dat (vB true)):=by
 exact aix 197 Tryz.func3 (k:=go 0 [[0,0],[3,0,2],[4]] (k:=q (a_call eN (h2)) (go 1 [[9,2,3,4,5],[4]] (k:=q (a_call eN (haw)) (q iV (q aC (fD (h:=aC) (k:=cZ 33 (h:=iV) (k:=q Di (q aC (fD (h:=dn) (k:=cZ 37 (h:=aX 0) (k:=cZ 38 (h:=aI (n:=a.n) (hlen:=aP a.t)) (k:=fD (h:=dn) (k:=cZ 40 (h:=aX 0) (k:=cZ 41 (h:=aI (n:=b.n) (hlen:=aP b.t)) (k:=qN 39 42 (h:=Bz (z:=((a.n + b.n:Nat):Int)) (hz:=by omega)) (k:=cZ 43 (h:=iT) (k:=go 1 [[1,2,3,4,45],[1]] (k:=Zz (h:=(by rw [decide_eq_true (show ((a.n + b.n:Nat):Int) > 2 by omega)];decide)) (k:=bP (cO (q (a_call eN (haw)) (go 1 [[1,2,3,4],[3]] (k:=dG)))))))))))))))))))))))))
theorem ae8 {rD:D} {b a1 b1 x y p ab root sum twice more less u v s d d1:Nm} {sa sb sd:Int} (h8:a.n≤8) (h8b:b.n≤8) (hsm:a.n + b.n≤2) (T:adh a b a1 b1 x y p ab root sum twice more less u v s d d1 sa sb sd) (h2:AC aD true 4 [rD] (.bT [aV a,aV b,vB true])) (haw:AC aD true 5 [] (.dat (vB true))):AC aD true 3 [rD] (.dat (vB true)):=by
 refine aix 197 Tryz.func3 (k:=go 0 [[0,0],[3,0,2],[4]] (k:=q (a_call eN (h2)) (go 1 [[9,2,3,4,5],[4]] (k:=q (a_call eN (haw)) (q iV (q aC (fD (h:=aC) (k:=cZ 33 (h:=iV) (k:=q Di (q aC (fD (h:=dn) (k:=cZ 37 (h:=aX 0) (k:=cZ 38 (h:=aI (n:=a.n) (hlen:=aP a.t)) (k:=fD (h:=dn) (k:=cZ 40 (h:=aX 0) (k:=cZ 41 (h:=aI (n:=b.n) (hlen:=aP b.t)) (k:=qN 39 42 (h:=Bz (z:=((a.n + b.n:Nat):Int)) (hz:=by omega)) (k:=cZ 43 (h:=iT) (k:=go 1 [[1,2,3,4,45],[1]] (k:=O3 (h:=(by rw [decide_eq_false (show ¬ ((a.n + b.n:Nat):Int) > 2 by omega)];decide)) (k:=eF (aT ?_))))))))))))))))))))));refine qI (ι:=Unit) (fun _=>[(3,.box (aV a1)),(4,.box (aV b))]) (fun _=>True) ?_ ?_
 · refine bP (cO (q (bM (e:=aV a)) (q (a_call eN (T.fsa)) (go 1 [[1,2,3,4,49],[1]] (k:=?_)))));refine bu (fun hc49=>?_) (fun hc49=>?_)
   · refine cO (q (bM (e:=aV a)) (q (a_call eN (T.fna hc49)) (q jO (gU [2,3,4] (k:=?_)))));exact aY () trivial (sbk [3,4])
   · rw [← T.fea hc49];refine eF ?_;exact aY () trivial (sbk [3,4])
 intro _ _;refine SQ [3,4] (k:=?_);refine qI (ι:=Unit) (fun _=>[(3,.box (aV a1)),(4,.box (aV b1))]) (fun _=>True) ?_ ?_
 · refine bP (cO (q (bM (e:=aV b)) (q (a_call eN (T.fsb)) (go 1 [[1,3,4,54],[1]] (k:=?_)))));refine bu (fun hc54=>?_) (fun hc54=>?_)
   · refine cO (q (bM (e:=aV b)) (q (a_call eN (T.fnb hc54)) (q jO (gU [3,4] (k:=?_)))));exact aY () trivial (sbk [3,4])
   · rw [← T.feb hc54];refine eF ?_;exact aY () trivial (sbk [3,4])
 intro _ _;refine SQ [3,4] (k:=bP (cO (q (bM (e:=aV a1)) (q (a_call eN (T.fx)) (go 1 [[6,3,4,6,7],[3]] (k:=q (bM (e:=aV b1)) (q (a_call eN (T.fy)) (go 1 [[6,3,4,6,7,8,9],[3]] (k:=q (bM (e:=aV x)) (q (bM (e:=aV y)) (q (a_call eN (T.fp)) (go 1 [[6,3,4,6,7,8,9,10,11],[3]] (k:=q (bM (e:=aV a1)) (q (bM (e:=aV b1)) (q (a_call eN (T.fab)) (go 1 [[6,3,4,6,7,8,9,10,11,12,13],[3]] (k:=q (bM (e:=aV ab)) (q (a_call eN (T.adG)) (go 1 [[6,3,4,6,7,8,9,10,11,13,14,15],[7]] (k:=fD (h:=aC) (k:=cZ 87 (h:=oI) (k:=q Di (q aC (fD (h:=aC) (k:=cZ 91 (h:=oI) (k:=q Di (q aC (fD (h:=aC) (k:=cZ 95 (h:=oI) (k:=q Di (q aC (fD (h:=aC) (k:=cZ 99 (h:=oI) (k:=q Di (q aC (fD (h:=bM (e:=aV p)) (k:=fD (h:=bM (e:=aV root)) (k:=qN 103 104 (h:=a_call eN (T.fe1)) (k:=cZ 105 (h:=iV) (k:=go 1 [[1,3,4,6,7,8,9,11,13,14,107],[6]] (k:=q (bM (e:=aV a1)) (q (bM (e:=aV b1)) (q (a_call eN (T.ahu)) (go 1 [[6,6,7,8,9,11,13,14,16],[3]] (k:=q (bM (e:=aV root)) (q (bM (e:=aV root)) (q (a_call eN (T.Ym)) (go 1 [[6,6,7,8,9,11,13,16,17],[3]] (k:=q (bM (e:=aV sum)) (q (bM (e:=aV twice)) (q (a_call eN (T.adD)) (go 1 [[6,6,7,8,9,11,13,16,17,18],[3]] (k:=q (bM (e:=aV sum)) (q (bM (e:=aV twice)) (q (a_call eN (T.adf)) (go 1 [[6,6,7,8,9,11,13,18,19],[7]] (k:=fD (h:=aC) (k:=cZ 135 (h:=oI) (k:=q Di (q aC (fD (h:=aC) (k:=cZ 139 (h:=oI) (k:=q Di (q aC (fD (h:=aC) (k:=cZ 143 (h:=oI) (k:=go 1 [[1,6,7,8,9,11,13,18,19,145],[6]] (k:=q (bM (e:=aV more)) (q (a_call eN (T.fu)) (go 1 [[6,6,7,8,9,11,13,19,20],[3]] (k:=q (bM (e:=aV less)) (q (a_call eN (T.fv)) (go 1 [[6,6,7,8,9,11,13,20,21],[3]] (k:=q (bM (e:=aV x)) (q (bM (e:=aV y)) (q (a_call eN (T.fs)) (go 1 [[6,6,7,8,9,11,13,20,21,22],[3]] (k:=q (bM (e:=aV x)) (q (bM (e:=aV y)) (q (a_call eN (T.fd)) (go 1 [[6,7,9,11,13,20,21,22,23],[1]] (k:=?_))))))))))))))))))))))))))))))))))))))))))))))))))))))))))))))))))))))))))))))))));refine qI (ι:=Unit) (fun _=>[(7,.dat (vI 0)),(9,.dat (vI 0)),(11,.dat (vI 0)),(13,.dat (vI 0)),(20,.box (aV u)),(21,.box (aV v)),(22,.box (aV s)),(23,.box (aV d1))]) (fun _=>True) ?_ ?_
 · refine bP (cO (q (bM (e:=aV d)) (q (a_call eN (T.fsd)) (go 1 [[1,7,9,11,13,20,21,22,23,170],[1]] (k:=?_)))));refine bu (fun hc170=>?_) (fun hc170=>?_)
   · refine cO (q (bM (e:=aV d)) (q (a_call eN (T.fnd hc170)) (q jO (gU [7,9,11,13,20,21,22,23] (k:=?_)))));exact aY () trivial (sbk [7,9,11,13,20,21,22,23])
   · rw [← T.fed hc170];refine eF ?_;exact aY () trivial (sbk [7,9,11,13,20,21,22,23])
 intro _ _;exact go 0 [[0,7,9,11,13,20,21,22,23],[5]] (k:=fD (h:=aC) (k:=cZ 176 (h:=eu) (k:=q qx (q aC (fD (h:=aC) (k:=cZ 180 (h:=eu) (k:=q qx (q aC (fD (h:=aC) (k:=cZ 184 (h:=eu) (k:=q qx (q aC (fD (h:=bM (e:=aV u)) (k:=fD (h:=bM (e:=aV s)) (k:=qN 188 189 (h:=a_call eN (T.fe2)) (k:=q qx (q aC (fD (h:=bM (e:=aV v)) (k:=fD (h:=bM (e:=aV d1)) (k:=qN 193 194 (h:=a_call eN (T.fe3)) (k:=go 1 [[2,2],[2]] (k:=dG))))))))))))))))))))))
def ug (L:List (List Nat × Nat)) (a:Nm):Prop:=∃ p∈L,kW a p.1 p.2
def leS:List Nat→List Nat→Bool
 | [],[]=>true
 | s :: σ,t :: τ=>decide (s≤t) && leS σ τ
 | _,_=>false
theorem PT.mono:∀ {n:Nat} {t:Tw n} {σ τ:List Nat},PT t σ→leS σ τ = true→PT t τ
 | 0,_,[],[],h,_=>h
 | 0,_,[],_ :: _,h,hl=>by cases hl
 | 0,_,_ :: _,_,h,_=>by have h:_ :: _ = []:=h;cases h
 | n + 1,(t,r),s :: σ,s' :: τ,h,hl=>by
  simp only [leS,ao,decide_eq_true_iff] at hl;exact ⟨h.1.mono hl.1,PT.mono h.2 hl.2⟩
 | n + 1,(t,r),s :: σ,[],h,hl=>by cases hl
 | n + 1,(t,r),[],_,h,_=>h.elim
def inF (L:List (List Nat × Nat)) (σ:List Nat) (s:Nat):Bool:=L.any fun p=>leS σ p.1 && decide (s≤p.2)
def YU (L:List (List Nat × Nat)):Bool:=L.all fun p=>okS p.1 && decide (p.2≤BB)
variable {L:List (List Nat × Nat)} {σ:List Nat}
theorem ug.of {s:Nat} (hL:YU L = true) (h:kW a σ s) (hi:inF L σ s = true):ug L a:=by
 obtain ⟨p,h1,h2⟩:=dx.1 hi;have h3:=aq.1 hL p h1;simp only [ao,decide_eq_true_iff] at h2 h3;exact ⟨p,h1,h.pt.mono h2.1,h3.1,h.sx.mono h2.2,h3.2⟩
theorem ug.of' (hL:YU L = true) (h:∃ σ s,inF L σ s = true∧kW a σ s):ug L a:=by
 obtain ⟨σ,s,h1,h2⟩:=h;exact ug.of hL h2 h1
abbrev Ib:=List (List Nat × Nat)
def sqF (L L':Ib):Bool:=YU L' && L.all fun p=>Nk 8 p.1 p.2 (inF L')
def acP (La Lb L':Ib):Bool:=YU L' && La.all fun p=>Lb.all fun q=>yQ 8 true p.1 p.2 q.1 q.2 (inF L')
def Vh (g:Bool) (La Lb L':Ib):Bool:=YU L' && La.all fun p=>Lb.all fun q=>KE 8 g p.1 p.2 q.1 q.2 (inF L')
def eqF (La Lb:Ib):Bool:=La.all fun p=>Lb.all fun q=>decide (p.1.length < q.1.length) || ER p.1.length true p.1 p.2 q.1 q.2 (fun _ _ _=>true)
def eqE (K:Nat) (La Lb:Ib):Bool:=La.all fun p=>Lb.all fun q=>decide (K < p.1.length) || decide (p.1.length + 1 < q.1.length) || ER (p.1.length + 1) true p.1 p.2 q.1 q.2 (fun _ _ _=>true)
def sgF (L:Ib):Bool:=L.all fun p=>decide (lU p.1 p.2≤BB)
structure H7 where
 la:Ib
 lb:Ib
 lx:Ib
 ly:Ib
 lp:Ib
 lab:Ib
 lr:Ib
 ls:Ib
 lt:Ib
 lm:Ib
 lu:Ib
 lz:Ib
structure H7.Ok (f:H7) (K:Nat):Prop where
 ga:sgF f.la = true
 gb:sgF f.lb = true
 x:sqF f.la f.lx = true
 y:sqF f.lb f.ly = true
 p:acP f.lx f.ly f.lp = true
 ab:acP f.la f.lb f.lab = true
 r:sqF f.lab f.lr = true
 e1:eqF f.lp f.lr = true
 s:Vh true f.la f.lb f.ls = true
 t:Vh false f.lr f.lr f.lt = true
 m:Vh false f.ls f.lt f.lm = true
 u:sqF f.lm f.lu = true
 z:Vh true f.lx f.ly f.lz = true
 gz:sgF f.lz = true
 e2:eqF f.lu f.lz = true
 e3:eqE K f.lu f.lz = true
section
variable {N:Nat} {F:Tw N} {b:Nm} {v w:El N} {La Lb L':Ib}
theorem uw (hF:dW F) (hN:N≤7) (hav:Val F a v) (hv0:0≤aJ F v) (hs:Val F (dw a) w) (fa:ug La a) (hk:sqF La L' = true):AC aD true 8 [aV a] (.bT [aV (dw a),vI 0])∧ug L' (dw a):=by
 obtain ⟨p,hp,na⟩:=fa;rw [sqF,ao] at hk;obtain ⟨h1,_,h3⟩:=RP hF hN (show N≤8 by omega) hav hv0 hs na (aq.1 hk.2 p hp);exact ⟨h1,ug.of' hk.1 h3⟩
theorem RJ (hF:dW F) (hN:N≤7) (ha:Val F a v) (hb:Val F b w) (fa:ug La a) (fb:ug Lb b) (hk:acP La Lb L' = true):AC aD true 9 [aV a,aV b] (.bT [aV (mulM a b),vI 0])∧ug L' (mulM a b):=by
 obtain ⟨p,hp,na⟩:=fa;obtain ⟨q,hq,nb⟩:=fb;rw [acP,ao] at hk;obtain ⟨h1,_,h3⟩:=J4 hF hN (show N≤8 by omega) ha hb na nb (fun h=>by cases h) (aq.1 (aq.1 hk.2 p hp) q hq);exact ⟨h1,ug.of' hk.1 h3⟩
theorem f_add (hF:dW F) (hN:N≤7) (ha:Val F a v) (hb:Val F b w) (fa:ug La a) (fb:ug Lb b) {g:Bool} (hgb:g = false→fU (aA a.t) (aA b.t) = true∨fU (aA b.t) (aA a.t) = true) (hk:Vh g La Lb L' = true) :
 (AC aD true 11 [aV a,aV b] (.bT [aV (lK a b),vI 0])∧ug L' (lK a b))∧AC aD true 12 [aV a,aV b] (.bT [aV (Ia a b),vI 0])∧ug L' (Ia a b):=by
 obtain ⟨p,hp,na⟩:=fa;obtain ⟨q,hq,nb⟩:=fb;rw [Vh,ao] at hk;obtain ⟨h1,h2,_,h3,h4⟩:=PH hF hN (show N≤8 by omega) ha hb na nb hgb (aq.1 (aq.1 hk.2 p hp) q hq);exact ⟨⟨h1,ug.of' hk.1 h3⟩,h2,ug.of' hk.1 h4⟩
theorem PG (hF:dW F) (hN:N≤7) (ha:Val F a v) (fa:ug La a) (hk:sgF La = true):AC aD true 6 [aV a] (.dat (vI (aJ F v))):=by
 obtain ⟨p,hp,na⟩:=fa;exact (Ub hF hN ha na (of_decide_eq_true (aq.1 hk p hp))).1
theorem YE (hF:dW F) (hN:N≤7) (ha:Val F a v) (fa:ug La a):AC aD true 7 [aV a] (.dat (aV (sZ a)))∧ug La (sZ a):=by
 obtain ⟨p,hp,na⟩:=fa;exact ⟨(RN hF hN ha na).1,p,hp,na.neg⟩
theorem aaJ (hF:dW F) (hN:N≤7) (ha:Val F a v) (hb:Val F b v) (fa:ug La a) (fb:ug Lb b) (hn:N = a.n) (hk:eqF La Lb = true):AC aD true 10 [aV a,aV b] (.dat (vB true)):=by
 obtain ⟨p,hp,na⟩:=fa;obtain ⟨q,hq,nb⟩:=fb;have h1:=aq.1 (aq.1 hk p hp) q hq;simp only [da,decide_eq_true_iff] at h1;have l1:=na.pt.D9;have l2:=nb.pt.D9;have bn:=hb.le hF;obtain ⟨e,h2,h3⟩:=adv hF hN (show N≤p.1.length by omega) ha hb na nb (fun h=>by cases h) (h1.resolve_left (by omega));rw [h2.2 rfl] at h3;exact h3
theorem ah7 (hF:dW F) (hN:N≤7) (ha:Val F a v) (hb:Val F b v) (fa:ug La a) (fb:ug Lb b) {K:Nat} (hn:N≤a.n + 1) (hK:a.n≤K) (hk:eqE K La Lb = true):AC aD true 10 [aV a,aV b] (.dat (vB true)):=by
 obtain ⟨p,hp,na⟩:=fa;obtain ⟨q,hq,nb⟩:=fb;have h1:=aq.1 (aq.1 hk p hp) q hq;simp only [da,decide_eq_true_iff] at h1;have l1:=na.pt.D9;have l2:=nb.pt.D9;have bn:=hb.le hF;obtain ⟨e,h2,h3⟩:=adv hF hN (show N≤p.1.length + 1 by omega) ha hb na nb (fun h=>by cases h) (h1.resolve_left (by omega));rw [h2.2 rfl] at h3;exact h3
end
theorem Xt.aej (E:Xt) (r:List Rat):(E.step r).n≤E.n + 1:=by
 unfold Xt.step;split
 · exact Nat.le_succ _
 · exact a6 _
theorem Xt.RF:∀ (l:List (List Rat)) (E:Xt),(E.steps l).n≤E.n + l.length
 | [],E=>a6 _
 | r :: l,E=>by
  have h1:=Xt.RF l (E.step r);have h2:=E.aej r;show ((E.step r).steps l).n≤_;rw [bR];omega
theorem agw (a b:Nm):(bz a b).n≤a.n + b.n:=by
 show (fM a b).1≤_;unfold fM
 split
 · exact Nat.le_add_right _ _
 · split
   · exact Nat.le_add_left _ _
   · have:=Xt.RF (aA b.t) ⟨a.n,a.t,[]⟩;rw [aj] at this;exact this
theorem MH (r:Nm):fM r r = ⟨r.n,r.t⟩:=if_pos (ql _)
theorem Yt (a:Nm):fU (aA (dw a).t) (aA a.t) = true:=by
 unfold dw H8
 split
 · exact ql _
 · exact iq.2 ⟨[flat a.x],rfl⟩
theorem Uu (r:Nm):aA (lK r r).t = aA r.t:=by
 show aA (fM r r).2 = _;rw [MH]
theorem aeb (a b:Nm):fU (aA (lK a b).t) (aA (lK (BD a b) (BD a b)).t) = true∨fU (aA (lK (BD a b) (BD a b)).t) (aA (lK a b).t) = true:=by
 right;rw [Uu];exact Yt (mulM a b)
theorem afQ {N:Nat} {F:Tw N} {b:Nm} {X:El N} (hF:dW F) (h:nD F a b X X):(dw (lessM a b)).n = (bz a b).n:=by
 obtain ⟨j1,τ,j2,j3,j4⟩:=h.va.join hF h.vb;have hxy:(bz a b).x = (bz a b).y:=(h.va.eq hF h.vb).2 rfl;have hx0:0≤aJ (bz a b).T (bz a b).x:=by rw [← kT hF j2,j3];exact (oq hF).vK _
 have hr:BD a b = ⟨(bz a b).n,(bz a b).T,(bz a b).x⟩:=by
  show H8 (bz a b).T (au (bz a b).T (bz a b).x (bz a b).y) = _;unfold H8;rw [← hxy,Dc j1 hx0 rfl]
 have ht:(lK (BD a b) (BD a b)).n = (bz a b).n:=by
  show (fM (BD a b) (BD a b)).1 = _;rw [MH,hr]
 have htt:aA (lK (BD a b) (BD a b)).t = aA (bz a b).T:=by rw [Uu,hr]
 have hl:(lessM a b).n = (bz a b).n:=by
  show (fM (lK a b) (lK (BD a b) (BD a b))).1 = _;unfold fM;rw [if_pos (show fU (aA (lK a b).t) (aA (lK (BD a b) (BD a b)).t) = true by rw [htt];exact ql _)];rfl
 have hv:=h.less hF;have hz:(lessM a b).x = zeroE (lessM a b).n:=by
  obtain ⟨r1,α,r2,r3⟩:=hv;refine Eg hF r1 r2 ?_;rw [r3,gJ];exact ((jY F).ring [X] (.mul (.add (.v 0) (.neg (.v 0))) (.add (.v 0) (.neg (.v 0)))) .zero (by decide))
 rw [← hl];show (H8 (lessM a b).t (lessM a b).x).n = _;have ho:=oq hv.red;unfold H8;rw [Dc (w:=zeroE (lessM a b).n) hv.red (by rw [ho.sz];decide) (by rw [hz];exact XN _ _)]
variable {M:Nat} {G:Tw M}
theorem abL {f:H7} {K:Nat} (hf:f.Ok K) (hG:dW G) (hM:M≤5) {b:Nm} {va vb:El M} (ha:Val G a va) (hb:Val G b vb) (fa:ug f.la a) (fb:ug f.lb b) (hK:a.n + b.n≤K) :
 ∃ (a1 b1 x y p ab root sum twice more less u v s d d1:Nm) (sa sb sd:Int),adh a b a1 b1 x y p ab root sum twice more less u v s d d1 sa sb sd:=by
 have hM7:M≤7:=by omega
 have sa:=PG hG hM7 ha fa hf.ga;have sb:=PG hG hM7 hb fb hf.gb;have na:=YE hG hM7 ha fa;have nb:=YE hG hM7 hb fb
 -- the absolute values
 have abs:∀ {c:Nm} {vc:El M} {L:Ib},Val G c vc→ug L c→ug L (sZ c)→∃ c1 vc1,(aJ G vc < 0→c1 = sZ c)∧(¬ aJ G vc < 0→c1 = c)∧Val G c1 vc1∧0≤aJ G vc1∧ug L c1∧c1.n = c.n:=fun {c vc L} hc fc fn=>by
  by_cases h:aJ G vc < 0
  · exact ⟨sZ c,bI vc,fun _=>rfl,fun h'=>absurd h h',hc.neg,by rw [(oq hG).sn];omega,fn,rfl⟩
  · exact ⟨c,vc,fun h'=>absurd h' h,fun _=>rfl,hc,by omega,fc,rfl⟩
 obtain ⟨a1,va1,a2,a3,ha1,a4,fa1,a5⟩:=abs ha fa na.2;obtain ⟨b1,vb1,b2,b3,hb1,b4,fb1,b5⟩:=abs hb fb nb.2;obtain ⟨N,F,X,Y,hF,hN,h⟩:=Kz hG ha1 hb1 a4 b4;have hN7:N≤7:=by omega
 have vK:=fun z=>(oq hF).vK z
 obtain ⟨cx,fx⟩:=uw hF hN7 h.va (vK X) h.vx fa1 hf.x;obtain ⟨cy,fy⟩:=uw hF hN7 h.vb (vK Y) h.vy fb1 hf.y;obtain ⟨cp,fp⟩:=RJ hF hN7 h.vx h.vy fx fy hf.p;obtain ⟨cab,fab⟩:=RJ hF hN7 h.va h.vb fa1 fb1 hf.ab;have vab:=h.va.mul hF h.vb;obtain ⟨cr,fr⟩:=uw hF hN7 vab (by rw [(oq hF).sm];exact ep (vK X) (vK Y)) (h.rt hF) fab hf.r;obtain ⟨⟨cs,fs⟩,_⟩:=f_add hF hN7 h.va h.vb fa1 fb1 (g:=true) (fun h=>by cases h) hf.s;obtain ⟨⟨ct,ft⟩,_⟩:=f_add hF hN7 (h.rt hF) (h.rt hF) fr fr (g:=false) (fun _=>.inl (ql _)) hf.t;obtain ⟨⟨cm,fm⟩,cl,fl⟩:=f_add hF hN7 (h.sum hF) (h.twice hF) fs ft (g:=false) (fun _=>aeb a1 b1) hf.m;obtain ⟨cu,fu⟩:=uw hF hN7 (h.more hF) (vK _) (h.u hF) fm hf.u;obtain ⟨Z,hZ,_⟩:=h.v hF rfl;obtain ⟨cv,fv⟩:=uw hF hN7 (h.less hF) (vK _) hZ fl hf.u;obtain ⟨⟨cz,fz⟩,cd,fd⟩:=f_add hF hN7 h.vx h.vy fx fy (g:=true) (fun h=>by cases h) hf.z;have sd:=PG hF hN7 (h.d hF) fd hf.gz;have nd:=YE hF hN7 (h.d hF) fd;have hds:=(h.d hF).UU hF;obtain ⟨d1,hd1⟩:∃ d1,d1 = if aJ (dM a1 b1).t (dM a1 b1).x < 0 then sZ (dM a1 b1) else dM a1 b1:=⟨_,rfl⟩
 have fd1:ug f.lz d1:=by rw [hd1];split;exact nd.2;exact fd
 -- the three comparisons
 have e1:AC aD true 10 [aV (mulM (dw a1) (dw b1)),aV (BD a1 b1)] (.dat (vB true)):=by
  obtain ⟨X',Y',h'⟩:=Yn hF h;have hp:=h.p hF;have hn:=hp.le hF;exact aaJ hp.red (by omega) (h'.p hp.red) (h'.rt hp.red) fp fr rfl hf.e1
 have e2:AC aD true 10 [aV (dw (zT a1 b1)),aV (lK (dw a1) (dw b1))] (.dat (vB true)):=by
  obtain ⟨X',Y',h'⟩:=aeL hF h;have hp:=h.u hF;have hn:=hp.le hF;exact aaJ hp.red (by omega) (h'.u hp.red) (h'.s hp.red) fu fz rfl hf.e2
 have e3:AC aD true 10 [aV (dw (lessM a1 b1)),aV d1] (.dat (vB true)):=by
  by_cases hxy:au F X X = au F Y Y
  · obtain ⟨j1,τ,j2,j3,j4⟩:=h.va.join hF h.vb;have hJ:(bz a1 b1).x = (bz a1 b1).y:=(h.va.eq hF h.vb).2 hxy;obtain ⟨s1,s2⟩:=Lies.self j1;obtain ⟨g1,g2⟩:=Eo hF h.va h.vb j1 s1;rw [s2] at g1 g2;rw [← hJ] at g2;have x0:0≤aJ (bz a1 b1).T (bz a1 b1).x:=by rw [← kT hF j2,j3];exact vK _
    obtain ⟨N',F',X',hF',hN',h'⟩:=vals_eq j1 g1 g2 x0;have hln:=afQ hF' h';have hjn:=agw a1 b1;have hv':d1 = if aJ F' (kX X' X') < 0 then sZ (dM a1 b1) else dM a1 b1:=by rw [hd1,(h'.d hF').UU hF']
    obtain ⟨Z',z1,z2⟩:=h'.v hF' hv';have hjN:=j2.le hF j1;have hN3:N'≤7:=by
     have h1:=(nD.p h' hF').le hF';have h9:(bz a1 b1).n≤M:=(ha1.join hG hb1).2.choose_spec.1.le hG j1;omega
    exact ah7 hF' hN3 z1 z2 fv fd1 (by omega) (by omega) hf.e3
  · obtain ⟨X',Y',h'⟩:=afv hF h hxy;have hr:=hZ.red;have hv':d1 = if aJ (dw (lessM a1 b1)).t (kX X' Y') < 0 then sZ (dM a1 b1) else dM a1 b1:=by rw [hd1,(h'.d hr).UU hr]
    obtain ⟨Z',z1,z2⟩:=h'.v hr hv';have hn:=hZ.le hF;exact aaJ hr (by omega) z1 z2 fv fd1 rfl (by
     -- the same families as for the sum
     exact hf.e2)
 refine ⟨a1,b1,dw a1,dw b1,mulM (dw a1) (dw b1),mulM a1 b1,BD a1 b1,lK a1 b1,lK (BD a1 b1) (BD a1 b1),zT a1 b1,lessM a1 b1,dw (zT a1 b1),dw (lessM a1 b1),lK (dw a1) (dw b1),dM a1 b1,d1,aJ G va,aJ G vb,aJ F (kX X Y),?_⟩;exact {
  fsa:=sa,fna:=fun h=>by rw [a2 h];exact na.1,fea:=a3,fsb:=sb,fnb:=fun h=>by rw [b2 h];exact nb.1,feb:=b3
  fx:=cx,fy:=cy,fp:=cp,fab:=cab,adG:=cr,fe1:=e1,ahu:=cs,Ym:=ct,adD:=cm,adf:=cl,fu:=cu,fv:=cv,fs:=cz,fd:=cd
  fsd:=sd,fnd:=fun h=>by rw [hd1,hds,if_pos h];exact nd.1,fed:=fun h=>by rw [hd1,hds,if_neg h],fe2:=e2,fe3:=e3 }
def Nc:H7 where
 la:=[([],64)]
 lb:=[([],64)]
 lx:=[([],96),([64],1)]
 ly:=[([],96),([64],1)]
 lp:=[([],192),([64],426),([64,64],1634)]
 lab:=[([],128)]
 lr:=[([],192),([128],1)]
 ls:=[([],129)]
 lt:=[([],385),([128],194)]
 lm:=[([],515),([128],324)]
 lu:=[([],773),([515],872),([324,128],1)]
 lz:=[([],193),([64],361),([64,64],1437)]
theorem ES:Nc.Ok 0 where
 ga:=by kernel_rfl
 gb:=by kernel_rfl
 x:=by kernel_rfl
 y:=by kernel_rfl
 p:=by kernel_rfl
 ab:=by kernel_rfl
 r:=by kernel_rfl
 e1:=by kernel_rfl
 s:=by kernel_rfl
 t:=by kernel_rfl
 m:=by kernel_rfl
 u:=by kernel_rfl
 z:=by kernel_rfl
 gz:=by kernel_rfl
 e2:=by kernel_rfl
 e3:=by kernel_rfl
def ahG:H7 where
 la:=[([64],128)]
 lb:=[([],64)]
 lx:=[([64],386),([128,64],1)]
 ly:=[([],96),([64],1)]
 lp:=[([64],811),([128,64],2146),([64,128,64],7407)]
 lab:=[([64],258)]
 lr:=[([64],581),([258,64],1)]
 ls:=[([64],193)]
 lt:=[([64],1163),([258,64],583)]
 lm:=[([64],1357),([258,64],777)]
 lu:=[([64],2230),([1357,64],3468),([777,258,64],1)]
 lz:=[([64],746),([128,64],1885),([64,128,64],6818)]
theorem Zv:ahG.Ok 1 where
 ga:=by kernel_rfl
 gb:=by kernel_rfl
 x:=by kernel_rfl
 y:=by kernel_rfl
 p:=by kernel_rfl
 ab:=by kernel_rfl
 r:=by kernel_rfl
 e1:=by kernel_rfl
 s:=by kernel_rfl
 t:=by kernel_rfl
 m:=by kernel_rfl
 u:=by kernel_rfl
 z:=by kernel_rfl
 gz:=by kernel_rfl
 e2:=by kernel_rfl
 e3:=by kernel_rfl
def ah4:H7 where
 la:=[([],64)]
 lb:=[([64],128)]
 lx:=[([],96),([64],1)]
 ly:=[([64],386),([128,64],1)]
 lp:=[([64],3614),([613,64],41186),([456,64,64],80488)]
 lab:=[([64],258)]
 lr:=[([64],581),([258,64],1)]
 ls:=[([64],193)]
 lt:=[([64],1163),([258,64],583)]
 lm:=[([64],1357),([258,64],777)]
 lu:=[([64],2230),([1357,64],3468),([777,258,64],1)]
 lz:=[([64],3549),([613,64],40440),([456,64,64],79635)]
theorem WV:ah4.Ok 1 where
 ga:=by kernel_rfl
 gb:=by kernel_rfl
 x:=by kernel_rfl
 y:=by kernel_rfl
 p:=by kernel_rfl
 ab:=by kernel_rfl
 r:=by kernel_rfl
 e1:=by kernel_rfl
 s:=by kernel_rfl
 t:=by kernel_rfl
 m:=by kernel_rfl
 u:=by kernel_rfl
 z:=by kernel_rfl
 gz:=by kernel_rfl
 e2:=by kernel_rfl
 e3:=by kernel_rfl
def ah3:H7 where
 la:=[([64],128)]
 lb:=[([64],128)]
 lx:=[([64],386),([128,64],1)]
 ly:=[([64],386),([128,64],1)]
 lp:=[([64],3999),([613,64],41571),([2137,128,64],256756),([848,64,128,64],336163)]
 lab:=[([64],807),([64,64],2015)]
 lr:=[([64],1405),([807,64],4161),([2015,64,64],1)]
 ls:=[([64],742),([64,64],1818)]
 lt:=[([64],2811),([807,64],8323),([2015,64,64],4163)]
 lm:=[([64],3554),([807,64],10142),([2015,64,64],5982)]
 lu:=[([64],5525),([3554,64],20809),([10142,807,64],37232),([5982,2015,64,64],1)]
 lz:=[([64],3934),([613,64],40825),([2137,128,64],254094),([848,64,128,64],334134)]
theorem Zl:ah3.Ok 2 where
 ga:=by kernel_rfl
 gb:=by kernel_rfl
 x:=by kernel_rfl
 y:=by kernel_rfl
 p:=by kernel_rfl
 ab:=by kernel_rfl
 r:=by kernel_rfl
 e1:=by kernel_rfl
 s:=by kernel_rfl
 t:=by kernel_rfl
 m:=by kernel_rfl
 u:=by kernel_rfl
 z:=by kernel_rfl
 gz:=by kernel_rfl
 e2:=by kernel_rfl
 e3:=by kernel_rfl
def ahL:H7 where
 la:=[([128,64],256)]
 lb:=[([],64)]
 lx:=[([128,64],1906),([256,128,64],1)]
 ly:=[([],96),([64],1)]
 lp:=[([128,64],4051),([256,128,64],10095),([64,256,128,64],33956)]
 lab:=[([128,64],582)]
 lr:=[([128,64],2395),([582,128,64],1)]
 ls:=[([128,64],321)]
 lt:=[([128,64],4791),([582,128,64],2397)]
 lm:=[([128,64],5113),([582,128,64],2719)]
 lu:=[([128,64],9192),([5113,128,64],16422),([2719,582,128,64],1)]
 lz:=[([128,64],3790),([256,128,64],9314),([64,256,128,64],32327)]
theorem Xw:ahL.Ok 2 where
 ga:=by kernel_rfl
 gb:=by kernel_rfl
 x:=by kernel_rfl
 y:=by kernel_rfl
 p:=by kernel_rfl
 ab:=by kernel_rfl
 r:=by kernel_rfl
 e1:=by kernel_rfl
 s:=by kernel_rfl
 t:=by kernel_rfl
 m:=by kernel_rfl
 u:=by kernel_rfl
 z:=by kernel_rfl
 gz:=by kernel_rfl
 e2:=by kernel_rfl
 e3:=by kernel_rfl
def ahA:H7 where
 la:=[([],64)]
 lb:=[([128,64],256)]
 lx:=[([],96),([64],1)]
 ly:=[([128,64],1906),([256,128,64],1)]
 lp:=[([64],49859),([4567,64],2849671),([7087,613,64],8319119),([3592,456,64,64],10605600)]
 lab:=[([128,64],582)]
 lr:=[([128,64],2395),([582,128,64],1)]
 ls:=[([128,64],321)]
 lt:=[([128,64],4791),([582,128,64],2397)]
 lm:=[([128,64],5113),([582,128,64],2719)]
 lu:=[([128,64],9192),([5113,128,64],16422),([2719,582,128,64],1)]
 lz:=[([64],49794),([4567,64],2844971),([7087,613,64],8311635),([3592,456,64,64],10600299)]
theorem Yd:ahA.Ok 2 where
 ga:=by kernel_rfl
 gb:=by kernel_rfl
 x:=by kernel_rfl
 y:=by kernel_rfl
 p:=by kernel_rfl
 ab:=by kernel_rfl
 r:=by kernel_rfl
 e1:=by kernel_rfl
 s:=by kernel_rfl
 t:=by kernel_rfl
 m:=by kernel_rfl
 u:=by kernel_rfl
 z:=by kernel_rfl
 gz:=by kernel_rfl
 e2:=by kernel_rfl
 e3:=by kernel_rfl
def shQ (q:Rat):Prop:=q.num.natAbs < 2 ^ 64∧q.den < 2 ^ 64
structure ShN (a:Nm):Prop where
 x:∀ q∈flat a.x,shQ q
 t:∀ r∈aA a.t,∀ q∈r,shQ q
theorem Zq {q:Rat} (h:PR 2 q = false):shQ q:=by
 unfold PR at h;rw [cJ,decide_eq_false_iff_not,decide_eq_false_iff_not] at h;have h1:q.num.natAbs < 4294967296 ^ 2:=jQ.1 (by omega);have h2:q.den < 4294967296 ^ 2:=jQ.1 (show wl q.den≤2 by have h3:¬ ((wl q.den:Nat):Int) > 2:=h.2;omega);exact ⟨by omega,by omega⟩
theorem any_false {α:Type} {f:α→Bool} {l:List α} (h:l.any f = false):∀ a∈l,f a = false:=fun a ha=>by
 cases e:f a with
 | false=>rfl
 | true=>rw [tY ha e] at h;cases h
theorem ShN.of (h:rV 2 (aA a.t) (flat a.x) = false):ShN a:=by
 unfold rV at h;rw [cJ] at h;exact ⟨fun q hq=>Zq (any_false h.1 q hq),fun r hr q hq=>Zq (any_false (any_false h.2 r hr) q hq)⟩
theorem sz.short:∀ {n:Nat} {x:El n},(∀ q∈flat x,shQ q)→sz x (64 * 2 ^ n)
 | 0,a,h=>by
  obtain ⟨h1,h2⟩:=h a (bm.2 rfl);refine ⟨Rat.den a,(Rat.num a).natAbs,Rat.den_pos a,by omega,by omega,fun q hq=>?_⟩;rw [bm.1 hq];exact qD.self a
 | n + 1,(x,y),h=>by
  obtain ⟨D,M,a1,a2,a3,a4⟩:=sz.short (x:=x) fun q hq=>h q (fh _ hq)
  obtain ⟨D',M',b1,b2,b3,b4⟩:=sz.short (x:=y) fun q hq=>h q (e8 _ hq)
  have e:64 * 2 ^ (n + 1) = 64 * 2 ^ n + 64 * 2 ^ n:=by rw [Nat.pow_succ];omega
  rw [e];have c1:D * D'≤2 ^ (64 * 2 ^ n) * 2 ^ (64 * 2 ^ n):=eo a2 b2;have c2:M * D'≤2 ^ (64 * 2 ^ n) * 2 ^ (64 * 2 ^ n):=eo a3 b2;have c3:M' * D≤2 ^ (64 * 2 ^ n) * 2 ^ (64 * 2 ^ n):=eo b3 a2;refine ⟨D * D',max (M * D') (M' * D),Nat.mul_pos a1 b1,by rw [Nat.pow_add];exact c1,by rw [Nat.pow_add];exact Nat.max_le.2 ⟨c2,c3⟩,eD.pair ((a4.scale D').mono (Nat.le_max_left ..)) ?_⟩;have:=b4.scale D;rw [Nat.mul_comm D' D] at this;exact this.mono (Nat.le_max_right ..)
def yL:Nat→List Nat
 | 0=>[]
 | n + 1=>64 * 2 ^ n :: yL n
theorem OU:∀ {n:Nat} {t:Tw n},(∀ r∈aA t,∀ q∈r,shQ q)→PT t (yL n)
 | 0,_,_=>rfl
 | n + 1,(t,r),h=>⟨sz.short fun q hq=>h (flat r) (e8 _ (bm.2 rfl)) q hq,OU fun r' hr=>h r' (fh _ hr)⟩
def ahj:Bool:=(dc 4).all fun h=>okS (yL h) && decide (64 * 2 ^ h≤BB) && decide (lU (yL h) (64 * 2 ^ h)≤BB) && decide (invS (yL h) (64 * 2 ^ h) + 64 * 2 ^ h + bD (yL h)≤BB) && Nk 3 (yL h) (64 * 2 ^ h) (fun _ _=>true) &&
 (dc 4).all fun k=>KE 3 true (yL h) (64 * 2 ^ h) (yL k) (64 * 2 ^ k) (fun _ _=>true) && yQ 3 true (yL h) (64 * 2 ^ h) (yL k) (64 * 2 ^ k) (fun _ _=>true) && yQ 3 true (yL h) (64 * 2 ^ h) (yL k) (invS (yL k) (64 * 2 ^ k)) (fun _ _=>true)
theorem af4:ahj = true:=by kernel_rfl
structure aiZ (h:Nat):Prop where
 ok:okS (yL h) = true
 bb:64 * 2 ^ h≤BB
 sg:lU (yL h) (64 * 2 ^ h)≤BB
 iv:invS (yL h) (64 * 2 ^ h) + 64 * 2 ^ h + bD (yL h)≤BB
 sq:Nk 3 (yL h) (64 * 2 ^ h) (fun _ _=>true) = true
 add:∀ k,k≤3→KE 3 true (yL h) (64 * 2 ^ h) (yL k) (64 * 2 ^ k) (fun _ _=>true) = true
 mul:∀ k,k≤3→yQ 3 true (yL h) (64 * 2 ^ h) (yL k) (64 * 2 ^ k) (fun _ _=>true) = true
 div:∀ k,k≤3→yQ 3 true (yL h) (64 * 2 ^ h) (yL k) (invS (yL k) (64 * 2 ^ k)) (fun _ _=>true) = true
theorem aaH {h:Nat} (hh:h≤3):aiZ h:=by
 have h1:=aq.1 af4 h (bh.2 (by omega));simp only [ao,decide_eq_true_iff] at h1;obtain ⟨⟨⟨⟨⟨h1,h2⟩,h3⟩,h4⟩,h5⟩,h6⟩:=h1;have h7:∀ k,k≤3→_:=fun k hk=>aq.1 h6 k (bh.2 (by omega))
 simp only [ao] at h7;exact ⟨h1,h2,h3,h4,h5,fun k hk=>(h7 k hk).1.1,fun k hk=>(h7 k hk).1.2,fun k hk=>(h7 k hk).2⟩
theorem ShN.ns (h:ShN a) (h3:a.n≤3):kW a (yL a.n) (64 * 2 ^ a.n):=⟨OU h.t,(aaH h3).ok,sz.short h.x,(aaH h3).bb⟩
structure Y3 {M:Nat} (F:Tw M) (a:Nm):Prop where
 ex:∃ v,Val F a v
 sh:ShN a
structure Inv (i:Nat) (l:List Nm) (rt:Nat):Prop where
 len:l.length≤i
 r3:rt≤3
 ex:∃ (M:Nat) (F:Tw M),dW F∧M≤rt∧∀ a∈l,Y3 F a
section
variable {F:Tw M} {b:Nm}
theorem Y3.le (hF:dW F) (h:Y3 F a):a.n≤M:=by obtain ⟨v,hv⟩:=h.ex;exact hv.le hF
theorem IW (hF:dW F) (hM:M≤3) {x:Nm} {v:El M} (hx:Val F x v) {s:Nat} (nx:kW x σ s) :
 AC aD true 43 [aV x] (.dat (vB (rV 2 (aA x.t) (flat x.x))))∧∃ z:Nm,AC aD true 44 [aV x] (.dat (aV z))∧Val F z v∧(ShN x→ShN z):=by
 have xn:=hx.le hF;have hp:=jK (i:=x.n) (by omega);have hT:=uD (by omega) nx.pt nx.ok;have hl:(flat x.x).length≤1000000:=by rw [flat_length];omega
 refine ⟨aev hT nx.rx hl,?_⟩;have h1:=trim_c hT (by rw [aj];omega) nx.rx hl;rw [aj] at h1;obtain ⟨z,e1,e2,e3⟩:=Hl x.n (a6 _) hx;rw [e1] at h1;refine ⟨z,h1,e2,fun hs=>⟨fun q hq=>hs.x q (e3.1 q hq),fun r hr q hq=>?_⟩⟩;obtain ⟨r0,g1,g2⟩:=e3.2 r hr;exact hs.t r0 g1 q (g2 q hq)
theorem Oz (x a:Nm):AC aD true 36 [aV x,vI 0,aV a] (.dat (aV x)):=afG rfl rfl rfl rfl rfl rfl
theorem made1 (a:Nm):AC aD true 36 [sH,vI 6,aV a] (.dat (aV a)):=afq rfl rfl rfl rfl rfl rfl
theorem aim:VM sH:=⟨rfl,rfl,rfl⟩
theorem mid_step {l:List Nm} {rt:Nat} (hrt:rt≤3) (hF:dW F) (hM:M≤rt) (hl:∀ a∈l,Y3 F a) (h0:l.length≤24) {o:Jh} (ho:DT o):∃ (q x:Nm) (rt':Nat),rt'≤3 ∧
 AC aD true 34 [vI o.n,vI ((o.d % 8 + 1:Nat):Int)] (.dat (aV q))∧KW l rt rt' o q x∧(l = []→ShN x) ∧
 ∃ (M':Nat) (F':Tw M') (v:El M') (σ:List Nat) (s:Nat),dW F'∧M'≤rt'∧(∀ a∈l,Y3 F' a)∧Val F' x v∧kW x σ s:=by
 have hfr:=aci (z:=o.n) (p:=((o.d % 8 + 1:Nat):Int)) (by have:=ho.n1;omega) (by have:=ho.n2;omega) (by omega) (by omega)
 -- the quotient is short
 have hshort:ShN (kU ((o.n:Rat) / (((o.d % 8 + 1:Nat):Int):Rat))):=by
  refine ⟨fun q hq=>?_,fun r hr=>by cases hr⟩;have hq:q = (o.n:Rat) / (((o.d % 8 + 1:Nat):Int):Rat):=bm.1 hq;have hD:0 < o.d % 8 + 1:=by omega
  have h1:qD q (o.d % 8 + 1) o.n.natAbs:=by
   refine ⟨o.n,?_,a6 _⟩;rw [hq];have:((o.d % 8 + 1:Nat):Rat)≠0:=by
    intro e;have:o.d % 8 + 1 = 0:=by exact_mod_cast e
    omega
   exact Rat.div_mul_cancel this
  obtain ⟨h2,h3⟩:=h1.parts hD;have:=ho.n1;have:=ho.n2;exact ⟨by omega,by omega⟩
 have hq3:kW (kU ((o.n:Rat) / (((o.d % 8 + 1:Nat):Int):Rat))) (yL 0) (64 * 2 ^ 0):=hshort.ns (by show 0≤3;omega)
 by_cases hc:(decide (((l.length:Nat):Int) > 0) && decide (((o.kind % 6:Nat):Int)≠0)) = true
 ·
  have hc2:=hc;rw [ao,decide_eq_true_iff,decide_eq_true_iff] at hc2;have hpos:0 < l.length:=by omega
  have hnil:l = []→∀ p:Prop,p:=fun e=>by rw [e] at hpos;simp at hpos
  obtain ⟨a,ha⟩:∃ a,l[o.a % l.length]? = some a:=⟨_,aw (Nat.mod_lt _ hpos)⟩;obtain ⟨b,hb⟩:∃ b,l[o.b % l.length]? = some b:=⟨_,aw (Nat.mod_lt _ hpos)⟩;have ra:=hl a (aL ha);have rb:=hl b (aL hb);obtain ⟨va,hva⟩:=ra.ex;obtain ⟨vb,hvb⟩:=rb.ex;have an:=hva.le hF;have bn:=hvb.le hF;have na:=ra.sh.ns (by omega);have nb:=rb.sh.ns (by omega);have Ha:=aaH (h:=a.n) (by omega);have Hb:=aaH (h:=b.n) (by omega);have hM7:M≤7:=by omega
  have hM3:M≤3:=by omega
  have hk:o.kind % 6 = 1∨o.kind % 6 = 2∨o.kind % 6 = 3∨o.kind % 6 = 4∨o.kind % 6 = 5:=by omega
  rcases hk with hk | hk | hk | hk | hk
  · obtain ⟨_,_,c,⟨σ,s,_,n1⟩,_⟩:=PH hF hM7 hM3 hva hvb na nb (fun h=>by cases h) (Ha.add b.n (by omega));exact ⟨_,lK a b,rt,hrt,hfr,.inr ⟨hc,a,b,ha,hb,.inl ⟨hk,rfl,_,0,Zb _,c,Oz _ _⟩⟩,fun e=>hnil e _,M,F,_,σ,s,hF,hM,hl,hva.add hF hvb,n1⟩
  · obtain ⟨_,_,c,⟨σ,s,_,n1⟩,_⟩:=PH hF hM7 hM3 hva hvb.neg na nb.neg (fun h=>by cases h) (Ha.add b.n (by omega));exact ⟨_,lK a (sZ b),rt,hrt,hfr,.inr ⟨hc,a,b,ha,hb,.inr (.inl ⟨hk,rfl,_,0,Zb _,ad6 (r:=aV (lK a (sZ b))) (by omega) nb.rx rfl rfl rfl c,Oz _ _⟩)⟩,fun e=>hnil e _,M,F,_,σ,s,hF,hM,hl,hva.add hF hvb.neg,n1⟩
  · obtain ⟨_,c,σ,s,_,n1⟩:=J4 hF hM7 hM3 hva hvb na nb (fun h=>by cases h) (Ha.mul b.n (by omega));exact ⟨_,mulM a b,rt,hrt,hfr,.inr ⟨hc,a,b,ha,hb,.inr (.inr (.inl ⟨hk,rfl,_,0,Zb _,c,Oz _ _⟩))⟩,fun e=>hnil e _,M,F,_,σ,s,hF,hM,hl,hva.mul hF hvb,n1⟩
  · by_cases hz:vb = zeroE M
    · have c:=acJ (a:=a) hF hM7 (hz ▸ hvb) nb;exact ⟨_,a,rt,hrt,hfr,.inr ⟨hc,a,b,ha,hb,.inr (.inr (.inr (.inl ⟨hk,rfl,_,6,aim,c,made1 _⟩)))⟩,fun e=>hnil e _,M,F,_,_,_,hF,hM,hl,hva,na⟩
    · have c:=agk hF hM7 hM3 hva hvb na nb Hb.iv (Ha.div b.n (by omega)) hz;have hv:=hvb.inv hF hz;have hb0:b.x≠zeroE b.n:=fun e=>hz (by
       obtain ⟨h1,β,h2,h3⟩:=hvb;rw [← h3,e,gJ])
      have hin:kW (UJ b) (yL b.n) (invS (yL b.n) (64 * 2 ^ b.n)):=⟨nb.pt,nb.ok,sz.inv1 nb.pt hvb.red hb0 nb.sx,by have:=Hb.iv;omega⟩;obtain ⟨_,_,σ,s,_,n1⟩:=J4 hF hM7 hM3 hva hv na hin (g:=true) (fun h=>by cases h) (Ha.div b.n (by omega));exact ⟨_,mulM a (UJ b),rt,hrt,hfr,.inr ⟨hc,a,b,ha,hb,.inr (.inr (.inr (.inl ⟨hk,rfl,_,0,Zb _,c,Oz _ _⟩)))⟩,fun e=>hnil e _,M,F,_,σ,s,hF,hM,hl,hva.mul hF hv,n1⟩
  ·
   have hs:=(Ub hF hM7 hva na Ha.sg).2;have hn:=(RN hF hM7 hva na).2
   -- the absolute value
   obtain ⟨a2,v2,g1,g2,g3,g4,g5,g6⟩:∃ a2 v2,(aJ F va < 0→a2 = sZ a)∧(¬ aJ F va < 0→a2 = a)∧Val F a2 v2∧0≤aJ F v2∧kW a2 (yL a.n) (64 * 2 ^ a.n)∧a2.n = a.n:=by
    by_cases h:aJ F va < 0
    · exact ⟨sZ a,bI va,fun _=>rfl,fun h'=>absurd h h',hva.neg,by rw [(oq hF).sn];omega,na.neg,rfl⟩
    · exact ⟨a,va,fun h'=>absurd h' h,fun _=>rfl,hva,by omega,na,rfl⟩
   by_cases hr:rt < 3
   · obtain ⟨M',F',ι,w,r1,r2,r3,r4,r5,r6,_⟩:=Val.up hF g4;have hs2:=(r3 g3).sqrt r1 r5 r6;obtain ⟨_,c,σ,s,_,n1⟩:=RP r1 (by omega) (show M'≤3 by omega) (r3 g3) (by rw [r4];exact g4) hs2 g5 Ha.sq;refine ⟨_,dw a2,rt + 1,by omega,hfr,.inr ⟨hc,a,b,ha,hb,.inr (.inr (.inr (.inr ⟨hk,_,hs,a2,fun h=>by rw [g1 h];exact hn,g2,.inl ⟨hr,rfl,_,0,Zb _,c,Oz _ _⟩⟩)))⟩,fun e=>hnil e _,M',F',w,σ,s,r1,by omega,fun c hc=>?_,hs2,n1⟩;obtain ⟨vc,hvc⟩:=(hl c hc).ex;exact ⟨⟨_,r3 hvc⟩,(hl c hc).sh⟩
   · exact ⟨_,a,rt,hrt,hfr,.inr ⟨hc,a,b,ha,hb,.inr (.inr (.inr (.inr ⟨hk,_,hs,a2,fun h=>by rw [g1 h];exact hn,g2,.inr ⟨hr,rfl,rfl⟩⟩)))⟩,fun e=>hnil e _,M,F,_,_,_,hF,hM,hl,hva,na⟩
 · exact ⟨_,_,rt,hrt,hfr,.inl ⟨by simpa using hc,rfl,rfl⟩,fun _=>hshort,M,F,_,_,_,hF,hM,hl,Val.rat F _,hq3⟩
end
variable {i:Nat}
theorem Q3 {l:List Nm} {rt:Nat} (h:Inv i l rt) (hi:i < 24) {o:Jh} (ho:DT o):∃ (l':List Nm) (rt':Nat),Inv (i + 1) l' rt'∧∃ q x x' z lb,UC l l' rt rt' o q x x' z lb:=by
 obtain ⟨h1,h2,M,F,hF,hM,hl⟩:=h;obtain ⟨q,x,rt',r1,r2,r3,r4,M',F',v,σ,s,g1,g2,g3,g4,g5⟩:=mid_step h2 hF hM hl (by omega) ho;obtain ⟨t1,z0,t2,t3,t4⟩:=IW g1 (by omega) g4 g5;have hpos:l≠[]→0 < l.length:=fun e=>fk.2 e
 by_cases hlast:(decide (((l.length:Nat):Int) > 0) && rV 2 (aA x.t) (flat x.x)) = true
 · have hp:0 < l.length:=by rw [ao,decide_eq_true_iff] at hlast;omega
   obtain ⟨x',hx'⟩:∃ x',l[l.length - 1]? = some x':=⟨_,aw (by omega)⟩;have rx:=g3 x' (aL hx');obtain ⟨vx,hvx⟩:=rx.ex;have xn:=hvx.le g1;obtain ⟨_,z,u2,u3,u4⟩:=IW g1 (by omega) hvx (rx.sh.ns (by omega));refine ⟨l ++ [z],rt',⟨by rw [dj];show l.length + 1≤_;omega,r1,M',F',g1,g2,fun c hc=>?_⟩,q,x,x',z,_,ho,by omega,by omega,r2,r3,t1,.inl ⟨hlast,hx'⟩,u2,rfl⟩;rcases cQ.1 hc with hc | hc
   · exact g3 c hc
   · rw [bm.1 hc];exact ⟨⟨_,u3⟩,u4 rx.sh⟩
 ·
  have hsh:ShN x:=by
   by_cases e:l = []
   · exact r4 e
   · have hp:=hpos e;refine ShN.of ?_;cases eb:rV 2 (aA x.t) (flat x.x) with
     | false=>rfl
     | true=>exact absurd (by rw [eb,decide_eq_true (by omega)];rfl) hlast
  refine ⟨l ++ [z0],rt',⟨by rw [dj];show l.length + 1≤_;omega,r1,M',F',g1,g2,fun c hc=>?_⟩,q,x,x,z0,_,ho,by omega,by omega,r2,r3,t1,.inr ⟨by simpa using hlast,rfl⟩,t2,rfl⟩;rcases cQ.1 hc with hc | hc
  · exact g3 c hc
  · rw [bm.1 hc];exact ⟨⟨_,t3⟩,t4 hsh⟩
theorem aaj {ops:List Jh} (hok:∀ o∈ops,DT o):∃ (ls:Nat→List Nm) (rs:Nat→Nat),ls 0 = []∧rs 0 = 0∧(∀ i o,i < 24→ops[i]? = some o→∃ q x x' z lb,UC (ls i) (ls (i + 1)) (rs i) (rs (i + 1)) o q x x' z lb)∧∀ i,Inv i (ls i) (rs i):=by
 have next:∀ i (p:{p:List Nm × Nat // Inv i p.1 p.2}),∃ p':{p:List Nm × Nat // Inv (i + 1) p.1 p.2},∀ o,i < 24→ops[i]? = some o→∃ q x x' z lb,UC p.1.1 p'.1.1 p.1.2 p'.1.2 o q x x' z lb:=fun i p=>by
  by_cases h:i < 24∧∃ o,ops[i]? = some o
  · obtain ⟨hi,o,ho⟩:=h;obtain ⟨l',rt',h1,h2⟩:=Q3 p.2 hi (hok o (aL ho));refine ⟨⟨(l',rt'),h1⟩,fun o' _ ho'=>?_⟩;rw [ho] at ho';injection ho' with e
    rw [← e];exact h2
  · obtain ⟨h1,h2,h3⟩:=p.2;exact ⟨⟨p.1,⟨by omega,h2,h3⟩⟩,fun o hi ho=>absurd ⟨hi,o,ho⟩ h⟩
 let sq:(i:Nat)→{p:List Nm × Nat // Inv i p.1 p.2}:=fun i=>Nat.rec (motive:=fun i=>{p:List Nm × Nat // Inv i p.1 p.2}) ⟨([],0),⟨by simp,by omega,0,(),trivial,a6 _,fun a h=>by cases h⟩⟩ (fun i p=>Classical.choose (next i p)) i
 exact ⟨fun i=>(sq i).1.1,fun i=>(sq i).1.2,rfl,rfl,fun i o hi ho=>Classical.choose_spec (next i (sq i)) o hi ho,fun i=>(sq i).2⟩
theorem pO {h:Nat} {L:Ib} (hs:ShN a) (hn:a.n = h) (h3:h≤3) (hL:L = [(yL h,64 * 2 ^ h)]):ug L a:=by
 subst hn hL;exact ⟨_,bm.2 rfl,hs.ns h3⟩
theorem aaW {ops:List Jh} (hn:ops.length≤9223372036854775807) (hok:∀ o∈ops,DT o) (haw:AC aD true 5 [] (.dat (vB true))):AC aD true 3 [.list 5 (ops.map Rh)] (.dat (vB true)):=by
 obtain ⟨ls,rs,l0,r0,hs,hI⟩:=aaj hok;have hb:=aaZ hn l0 r0 hs;obtain ⟨i1,i2,M,F,hF,hM,hl⟩:=hI (min ops.length 24);generalize ls (min ops.length 24) = ns at *;have hle:ns.length≤24:=by omega
 have hN:∀ a∈ns,BF (aA a.t)∧ny a.x∧a.n≤8:=fun a ha=>by
  have hr:=hl a ha;have h3:=hr.le hF;have h4:=hr.sh.ns (by omega);exact ⟨uD (by omega) h4.pt h4.ok,h4.rx,by omega⟩
 have hal:=agP (ns:=ns) (by omega) hN;generalize (ns.all fun a=>!rV 6 (aA a.t) (flat a.x)) = al at hal;cases hc:(decide (((ns.length:Nat):Int) < 2) || !al) with
 | true=>exact aeo (aeG hc hb hal) haw
 | false =>
  have h2:2≤ns.length:=by rw [cJ,decide_eq_false_iff_not] at hc;omega
  obtain ⟨a,ha⟩:∃ a,ns[ns.length - 1]? = some a:=⟨_,aw (by omega)⟩;obtain ⟨b,hb2⟩:∃ b,ns[ns.length - 2]? = some b:=⟨_,aw (by omega)⟩;have h3:=ab5 hc (by omega) ha hb2 hb hal;have ra:=hl a (aL ha);have rb:=hl b (aL hb2);have an:=ra.le hF;have bn:=rb.le hF
  by_cases hbig:2 < a.n + b.n
  · exact aa3 (by omega) (by omega) hbig h3 haw
  ·
   obtain ⟨va,hva⟩:=ra.ex;obtain ⟨vb,hvb⟩:=rb.ex;have hsm:a.n + b.n≤2:=by omega
   have main:∀ {f:H7} {K:Nat},f.Ok K→ug f.la a→ug f.lb b→a.n + b.n≤K→AC aD true 3 [.list 5 (ops.map Rh)] (.dat (vB true)):=fun {f K} hf fa fb hK=>by
    obtain ⟨a1,b1,x,y,p,ab,root,sum,twice,more,less,u,v,s,d,d1,sa,sb,sd,hT⟩:=abL hf hF (by omega) hva hvb fa fb hK;exact ae8 (by omega) (by omega) hsm hT h3 haw
   have cs:(a.n = 0∧b.n = 0)∨(a.n = 1∧b.n = 0)∨(a.n = 0∧b.n = 1)∨(a.n = 1∧b.n = 1)∨(a.n = 2∧b.n = 0)∨(a.n = 0∧b.n = 2):=by omega
   rcases cs with ⟨c1,c2⟩ | ⟨c1,c2⟩ | ⟨c1,c2⟩ | ⟨c1,c2⟩ | ⟨c1,c2⟩ | ⟨c1,c2⟩
   · exact main ES (pO ra.sh c1 (by omega) rfl) (pO rb.sh c2 (by omega) rfl) (by omega)
   · exact main Zv (pO ra.sh c1 (by omega) rfl) (pO rb.sh c2 (by omega) rfl) (by omega)
   · exact main WV (pO ra.sh c1 (by omega) rfl) (pO rb.sh c2 (by omega) rfl) (by omega)
   · exact main Zl (pO ra.sh c1 (by omega) rfl) (pO rb.sh c2 (by omega) rfl) (by omega)
   · exact main Xw (pO ra.sh c1 (by omega) rfl) (pO rb.sh c2 (by omega) rfl) (by omega)
   · exact main Yd (pO ra.sh c1 (by omega) rfl) (pO rb.sh c2 (by omega) rfl) (by omega)
section
variable {P:Program} {kw:Bool} {X0:XS} {w0:World} {m:Nat} {Γ Γ':fA} {Q:Exit→Act→World→Prop} {c:Code}
variable (P kw X0 w0 m) in
def CR (n:Nat) (Γ:fA) (c:Code) (Q:Exit→Act→World→Prop):Prop:=∀ a W,FSq kw X0 w0 m Γ a W→ea P c Q n a W
theorem Gz (n:Nat) (h:CR P kw X0 w0 m n Γ c Q):CT P kw X0 w0 m Γ (.loop c) Q:=fun a W hs=>wp_loop_rounds n (h a W hs)
theorem xw {n:Nat} (h:CT P kw X0 w0 m Γ c (Exit.then (ea P c Q n) Q)):CR P kw X0 w0 m (n + 1) Γ c Q:=h
theorem A7 {n:Nat} (h:CR P kw X0 w0 m n Γ c Q):NT kw X0 w0 m Γ (Exit.then (ea P c Q n) Q):=h
theorem CR.weak {n:Nat} (h:CR P kw X0 w0 m n Γ' c Q) (hs:Sub Γ' Γ):CR P kw X0 w0 m n Γ c Q:=fun a W hf=>h a W (hf.weak hs)
end
def abP:D:=.agg [dR,dR]
def agf:D:=.agg [wQ,vI 0]
def abC:D:=.agg [wQ,wQ]
section
variable {kw:Bool} {X:XS} {W:World}
theorem L6:aU kw X W abP [.bool false,.slice none 0 0,.bool false,.slice none 0 0,.bool false,.slice none 0 0,.bool false,.slice none 0 0]:=by
 unfold abP aU;exact aF.two.2 ⟨[_,_,_,_],[_,_,_,_],rfl,BA,BA⟩
theorem Ya:aU kw X W agf [.slice none 0 0,.int .i64 0]:=by
 unfold agf aU;exact aF.two.2 ⟨[_],[_],rfl,oZ,adX⟩
theorem LW:aU kw X W abC [.slice none 0 0,.slice none 0 0]:=by
 unfold abC aU;exact aF.two.2 ⟨[_],[_],rfl,oZ,oZ⟩
end
theorem tH:TI aD 130 2 true:=.of (by kernel_rfl) Tryz.underlying130 rfl
theorem acH:SI aD 85 8:=.of Tryz.underlying85 (by kernel_rfl)
theorem J8:SI aD 128 2:=.of Tryz.underlying128 (by kernel_rfl)
theorem abt:FI aD 46 0 0:=.of Tryz.underlying46 rfl rfl (n:=0) (by kernel_rfl)
theorem abo:FI aD 46 1 1:=.of Tryz.underlying46 rfl rfl (n:=0) (by kernel_rfl)
theorem mG:FI aD 130 0 0:=.of Tryz.underlying130 rfl rfl (n:=0) (by kernel_rfl)
theorem xP:FI aD 130 1 1:=.of Tryz.underlying130 rfl rfl (n:=0) (by kernel_rfl)
theorem QQ:ZI aD 88 abP:=.of (v:=.agg #[.bool false,.slice none 0 0,.bool false,.slice none 0 0,.bool false,.slice none 0 0,.bool false,.slice none 0 0]) (by kernel_rfl) fun _ _ _=>L6
theorem agn:ZI aD 46 agf:=.of (v:=.agg #[.slice none 0 0,.int .i64 0]) (by kernel_rfl) fun _ _ _=>Ya
theorem Cf:ZI aD 130 abC:=.of (v:=.agg #[.slice none 0 0,.slice none 0 0]) (by kernel_rfl) fun _ _ _=>LW
theorem Fh:S2 aD 88 4 4:=.of Tryz.underlying88 (v:=.agg #[.bool false,.slice none 0 0,.bool false,.slice none 0 0,.bool false,.slice none 0 0,.bool false,.slice none 0 0]) (by kernel_rfl) rfl rfl rfl (by kernel_rfl) (by kernel_rfl)
theorem af1:S2 aD 46 1 1:=.of Tryz.underlying46 (v:=.agg #[.slice none 0 0,.int .i64 0]) (by kernel_rfl) rfl rfl rfl (by kernel_rfl) (by kernel_rfl)
theorem Po:S2 aD 130 1 1:=.of Tryz.underlying130 (v:=.agg #[.slice none 0 0,.slice none 0 0]) (by kernel_rfl) rfl rfl rfl (by kernel_rfl) (by kernel_rfl)
theorem Ey:PI aD 85 85 8 abP 128:=.of Tryz.underlying85 Tryz.underlying85 (by kernel_rfl) (by kernel_rfl) (v:=.agg #[.bool false,.slice none 0 0,.bool false,.slice none 0 0,.bool false,.slice none 0 0,.bool false,.slice none 0 0]) (by kernel_rfl) fun _ _ _=>L6
theorem aav:PI aD 44 44 2 uz 32:=.of Tryz.underlying44 Tryz.underlying44 (by kernel_rfl) (by kernel_rfl) (v:=.agg #[.bool false,.slice none 0 0]) (by kernel_rfl) fun _ _ _=>Ba
theorem EJ:PI aD 128 128 2 abC 48:=.of Tryz.underlying128 Tryz.underlying128 (by kernel_rfl) (by kernel_rfl) (v:=.agg #[.slice none 0 0,.slice none 0 0]) (by kernel_rfl) fun _ _ _=>LW
def D.Ah:D→Bool
 | .val _=>true
 | .mag _=>true
 | .list _ _=>false
 | .agg l=>pureWs l
where pureWs:List D→Bool
 | []=>true
 | d :: l=>d.Ah && pureWs l
mutual
theorem aU.free {kw:Bool} {X X':XS} {W:World}:∀ (d:D) (cs:List Value),d.Ah = true→aU kw X W d cs→aU kw X' W d cs
 | .val v,cs,_,h=>by unfold aU at h ⊢;exact h
 | .mag x,cs,_,h=>by unfold aU at h ⊢;exact h
 | .list k l,cs,hp,h=>by cases hp
 | .agg l,cs,hp,h=>by unfold aU at h ⊢;exact aF.free l cs hp h
theorem aF.free {kw:Bool} {X X':XS} {W:World}:∀ (l:List D) (cs:List Value),D.Ah.pureWs l = true→aF kw X W l cs→aF kw X' W l cs
 | [],cs,_,h=>by unfold aF at h ⊢;exact h
 | d :: l,cs,hp,h=>by
  unfold aF at h ⊢;unfold D.Ah.pureWs at hp;rw [ao] at hp;obtain ⟨c1,c2,h1,h2,h3⟩:=h;exact ⟨c1,c2,h1,aU.free d c1 hp.1 h2,aF.free l c2 hp.2 h3⟩
end
variable {f:FuncId} {ds:List D} {k:Nat} {l:List D}
theorem AC.go {P:Program} {kw:Bool} (h:AC P kw f ds (.grow k l)) (h0:l≠[]) (hp:D.Ah.pureWs l = true):AC P kw f ds (.own k l):=fun X w vs hx hr=>by
 refine (h X w vs hx hr).mono ?_;rintro en w' ⟨h1,v,h2,S,ob,hS,hb,hf⟩;unfold ah at hf;obtain ⟨hk,⟨-,e⟩ | ⟨b,c,es,t,g1,g2,g3,g5,g6,g7,g8,g9⟩⟩:=hf
 · exact absurd e h0
 ·
  simp only [if_true] at g1;obtain ⟨r1,r2⟩:=hb b g1;refine ⟨h1,v,h2,fun b' o=>S b' o∨b' = b,ob,?_,hb,?_⟩
  · rintro b' o (h | rfl)
    · exact hS b' o h
    · exact ⟨r1,r2⟩
  · unfold ah;exact ⟨b,c,es,t,g1,g2,g3,hk,g5,g6,aF.free _ _ hp g7,g8,fun o=>.inr (.inr rfl)⟩
section
variable {ops:Array Oper} {kw:Bool} {X0:XS} {w0:World} {m:Nat} {Γ:fA} {o:Oper} {s:Nat} {l:List Oper} {acc:List Hd} {K:List Hd→fA→Prop}
theorem aiy {T s' t:Nat} {es:List D} {e:D} (hi:i < es.length) (ho:o.op = .store T (.tmp s) (.tmp t):=by rfl) (hg:o.guard = none:=by rfl) (hd:o.dst = none:=by rfl) (hl:lk Γ s = some (.qH s' i k):=by rfl) (hl':lk Γ s' = some (.own k es):=by rfl) (hx:lk Γ t = some (.dat e):=by rfl) (hT:(aD.info? T).map (·.size) = some k:=by kernel_rfl) (hw:e.width = k:=by rfl) (hu:e.kJ = true:=by rfl) (ct:HT aD ops kw X0 w0 m (⟨[(s,.qH s' i k),(s',.own k es),(t,.dat e)],s',.own k (es.set i e),true⟩ :: acc) ((s',.own k (es.set i e)) :: Γ) l K):HT aD ops kw X0 w0 m acc Γ (o :: l) K :=
 HT.upd (h:=⟨[(s,.qH s' i k),(s',.own k es),(t,.dat e)],s',.own k (es.set i e),true⟩) rfl (fun Γ h=>(dB.g (yN (e:=e) (ho:=ho) (hd:=hd) (hl:=h.1) (hl':=h.2.1) (hx:=.t h.2.2.1) (hT:=hT) (hw:=hw) (hu:=hu) (hi:=hi)) hg)) ⟨hl,hl',hx,trivial⟩ ct
end
theorem FSq.afN {X0:XS} {w0:World} {m:Nat} {Γ:fA} {a:Act} {W:World} {s:Nat} (h:FSq true X0 w0 m Γ a W) (hl:lk Γ s = some (.box uz)):FSq true X0 w0 m ((s,.box (aS 0)) :: Γ) a W :=
 h.add fun X Ow hx=>by
  have hf:=hx.facts s _ hl;unfold ah at hf ⊢;obtain ⟨b,es,t,h1,h2,h3,h4,h5,h6⟩:=hf;exact ⟨b,es,t,h1,h2,h3,Ud h4,h5,h6⟩
theorem EZ {q:Rat} (h:(decide (q.num.natAbs < 4294967296) && decide (q.den < 4294967296)) = true):Rb q:=by
 rw [ao,decide_eq_true_iff,decide_eq_true_iff] at h;have h1:wl q.num.natAbs≤1:=jQ.2 (by simpa using h.1);have h2:wl q.den≤1:=jQ.2 (by simpa using h.2);exact ⟨by omega,by omega⟩
theorem Jc:∀ {l:List D},D.ik l = true→∀ q,D.ik (l.take q) = true
 | [],_,q=>by simp [D.ik]
 | d :: l,h,0=>by simp [D.ik]
 | d :: l,h,q + 1=>by
  simp only [fj,D.ik,ao] at h ⊢;exact ⟨h.1,Jc h.2 q⟩
section
variable {P:Program} {ops:Array Oper} {kw:Bool} {X0:XS} {w0:World} {m:Nat} {Γ Γ':fA} {a a':Act} {W W':World} {X X':XS} {Ow Ow':Nat→Option Nat} {o:Oper} {d s:Nat}
theorem aeC {T:Nat} {p q z:Int} (ho:o.op = .call { callee:=.builtin .max,args:=#[.const (.int .i64 p),.tmp s],argTypes:=#[T,T] }) (hd:o.dst = some d) (hdm:d < m) (hn:aB Γ d = true) (hx:lk Γ s = some (.dat (.val (.int .i64 q)))) (hz:(if q > p then q else p) = z):dB P kw X0 w0 m Γ o ((d,.dat (.val (.int .i64 z))) :: Γ) :=
 bK hd hdm hn rfl fun a W X Ow hs=>by
  have h1:=hs.fs.val hx;have h2:a.eval (.const (.int .i64 p)) = .int .i64 p:=rfl;exact ⟨.int .i64 z,by rw [← hz];simp [execOp,ho,resolve,invoke,builtin,h1,h2,run_max_int2],gI rfl⟩
theorem aeR {T yt e:Nat} {es:List D} (ho:o.op = .binOp .eql T (.tmp s) (.const (.slice none 0 0)) yt) (hd:o.dst = some d) (hdm:d < m) (hn:aB Γ d = true) (hT:P.underlying T = some (.slice e)) (hl:lk Γ s = some (.dat (.list k es))) (a:Act) (W:World) (hs:FSq kw X0 w0 m Γ a W) :
 oC P o a W (fun a' W'=>∃ b:Bool,FSq kw X0 w0 m ((d,.dat (vB b)) :: Γ) a' W'):=by
 obtain ⟨X,Ow,hx⟩:=hs.x;have h:=hx.facts s _ hl;unfold ah at h;obtain ⟨A,c,h1,h2,h3,h4⟩:=jm h;have h1':a.eval (.tmp s) = .slice A es.length c:=h1;have h2':a.eval (.const (.slice none 0 0)) = .slice none 0 0:=rfl;have hg:(eqGuard .eql T (.tmp s) (.const (.slice none 0 0)) (.slice A es.length c) (.slice none 0 0)).run P W = .ok () W:=by simp [eqGuard]
 have hr:(execOp a.eval o).run P W = .ok (.value (.bool A.isNone)) W:=by
  simp only [execOp,ho,h1',h2',bw,a8,hg,Lib.run_eql_slice_nil W T e _ es.length c 0 0 hT,bs]
 unfold oC;rw [hr,hd];refine ⟨A.isNone,(hx.put (v:=.bool A.isNone) (f:=.dat (vB A.isNone)) hdm hn (Below.refl _ _) ?_).fs⟩;unfold ah;rw [iR hx.size hdm];exact dh rfl
theorem wW {t g:Nat} {v:Value} (hs:lG kw X0 w0 m Γ a W X Ow) (hg:lk Γ g = some (.aan v (.own k l))) :
 ∃ b c es ty,Ow g = some b∧v = .slice (some ⟨b,0,none⟩) l.length c∧l.length≤c∧(∀ d∈l,d.width = k)∧W.heap[b]? = some (.cells es.toArray ty (0,0))∧es.length = c * k∧aF kw X W l (es.take (l.length * k))∧Qs kw es∧∀ o,X b o:=by
 have hf:=hs.facts g _ hg;unfold ah at hf;unfold ah at hf;exact hf
theorem aaU {T e t g:Nat} {v:Value} (ho:o.op = .call { callee:=.builtin .len,args:=#[.tmp t],argTypes:=#[T] }) (hd:o.dst = some d) (hdm:d < m) (hn:aB Γ d = true) (hT:P.underlying T = some (.slice e)) (hl:lk Γ t = some (.dat (.val v))) (hg:lk Γ g = some (.aan v (.own k l))):dB P kw X0 w0 m Γ o ((d,.dat (.val (.int .i64 (l.length:Nat)))) :: Γ) :=
 bK hd hdm hn rfl fun a W X Ow hs=>by
  obtain ⟨b,c,es,ty,g1,g3,g4⟩:=wW (t:=t) hs hg;have g2:=hs.fs.val hl;rw [g3] at g2;exact ⟨.int .i64 (l.length:Nat),by simp [execOp,ho,resolve,invoke,builtin,g2,AA hT],gI rfl⟩
def slP (v:Value) (i:Nat):Value:=match v with
 | .slice A _ c=>.slice A i c
 | _=>v
theorem aaO {T t g j:Nat} {x:Operand} {z:Int} {v:Value} (ho:o.op = .slice T (.tmp t) none (some x) none) (hd:o.dst = some d) (hdm:d < m) (hn:aB Γ d = true) (si:SI P T k) (hl:lk Γ t = some (.dat (.val v))) (hg:lk Γ g = some (.aan v (.own k l))) (hx:Ev kw X0 w0 m Γ x (.int .i64 z)) (hz:z = j) (hj:j≤l.length) :
 dB P kw X0 w0 m Γ o ((d,.dat (.val (slP v j))) :: Γ) :=
 bK hd hdm hn rfl fun a W X Ow hs=>by
  obtain ⟨b,c,es,ty,g1,g3,g4,_⟩:=wW (t:=t) hs hg;have g2:=hs.fs.val hl;rw [g3] at g2;subst hz;have hr:=rE (P:=P) si (b:=b) (o':=0) (n:=l.length) (c:=c) (lo:=none) (hi:=some (j:Int)) (l:=0) (h:=j) rfl rfl (Nat.zero_le _) (by omega) W;refine ⟨slP v j,?_,gI (by rw [g3];rfl)⟩;simp only [dy,dz] at hr;simp only [execOp,ho,g2,dz,dy,hx a W hs.fs,hr,bw,a8,bs];rw [g3];simp [slP]
theorem abN {T t g j:Nat} {x:Operand} {z:Int} {v:Value} (ho:o.op = .slice T (.tmp t) (some x) none none) (hd:o.dst = some d) (hdm:d < m) (hn:aB Γ d = true) (si:SI P T k) (hl:lk Γ t = some (.dat (.val v))) (hg:lk Γ g = some (.aan v (.own k l))) (hx:Ev kw X0 w0 m Γ x (.int .i64 z)) (hz:z = j) (hj:j≤l.length) :
 dB P kw X0 w0 m Γ o ((d,.dat (.val (IK v k j))) :: Γ) :=
 bK hd hdm hn rfl fun a W X Ow hs=>by
  obtain ⟨b,c,es,ty,g1,g3,g4,_⟩:=wW (t:=t) hs hg;have g2:=hs.fs.val hl;rw [g3] at g2;subst hz;have hr:=rE (P:=P) si (b:=b) (o':=0) (n:=l.length) (c:=c) (lo:=some (j:Int)) (hi:=none) (l:=j) (h:=l.length) rfl rfl hj g4 W;refine ⟨IK v k j,?_,gI (by rw [g3];rfl)⟩;simp only [dy,dz] at hr;simp only [execOp,ho,g2,dz,dy,hx a W hs.fs,hr,bw,a8,bs];rw [g3];rfl
theorem Vu {dT sT ty elem b o' b2 o2 n1 c1 n2 c2:Nat} {cs es:List Value} {t:TypeId} (hu:P.underlying dT = some (.slice elem)) (hs:(P.info? elem).map (·.size) = some k) (hb:W.heap[b]? = some (.cells es.toArray t (0,0))) (hn:cs.length = eJ n2 n1 * k) (hsrc:∀ j v,cs[j]? = some v→W.cell? ⟨b2,o2 + j,none⟩ = some v) (hfit:o' + cs.length≤es.length) (h1:∀ v∈cs,v.oneCell' = true) :
 (fR #[dT,sT] ty #[.slice (some ⟨b,o',none⟩) n1 c1,.slice (some ⟨b2,o2,none⟩) n2 c2]).run P W = .ok (goInt (eJ n2 n1)) (W.setCells b o' cs):=by
 have hcell:=bW hb;have hst:=run_storeCells_cells (P:=P) b o' cs 0 W (fun j hj=>by simp only [eZ];rw [hcell,aw (by omega)];rfl) (fun j hj=>by simp [World.frozen?,hb]) h1;simp only [eZ] at hst;have hfc:=run_firstCells_some (P:=P) (w:=W) k (eJ n2 n1) ⟨b2,o2,none⟩ n2 c2 cs hn (fun j v hj=>by
  have:(⟨b2,o2,none⟩:Addr).add j = ⟨b2,o2 + j,none⟩:=by unfold Addr.add;split <;> simp_all
  rw [this];exact hsrc j v hj)
 cases hq:P.info? elem with
 | none=>simp [hq] at hs
 | some i =>
  have hi:i.size = k:=by simpa [hq] using hs
  simp [fR,run_underlying hu,Builtin.lenOf,sizeOf,typeInfo,hq,hi,hfc,hst]
def Hz (l:List D) (j:Nat) (ds:List D):List D:=l.take j ++ ds ++ l.drop (j + ds.length)
theorem aF.lay {j:Nat} {es cs:List Value} (h:aF kw X W l es) (hk:∀ x∈l,x.width = k) (hc:aF kw X W ds cs) (hk2:∀ x∈ds,x.width = k) (hj:j + ds.length≤l.length):aF kw X W (Hz l j ds) (nV es (j * k) cs):=by
 have hsp:l = l.take j ++ ((l.drop j).take ds.length ++ l.drop (j + ds.length)):=by
  conv=>lhs;rw [← d8 j l]
  congr 1
  conv=>lhs;rw [← d8 ds.length (l.drop j)]
  rw [List.drop_drop]
 rw [hsp] at h;obtain ⟨c1,c2,rfl,f1,f2⟩:=h.split;obtain ⟨c3,c4,rfl,f3,f4⟩:=f2.split;have l1:c1.length = j * k:=by rw [f1.len,D.dF (fun x hx=>hk x (bL hx)),bO,db (by omega)]
 have l3:c3.length = ds.length * k:=by rw [f3.len,D.dF (fun x hx=>hk x (ef (bL hx))),bO,eE,db (by omega)]
 have lc:cs.length = ds.length * k:=by rw [hc.len,D.dF hk2]
 have e:nV (c1 ++ (c3 ++ c4)) (j * k) cs = c1 ++ cs ++ c4:=by
  unfold nV;rw [← l1,List.take_left,lc,← l3,List.drop_append,List.drop_of_length_le (by omega),bp,show c1.length + c3.length - c1.length = c3.length by omega,List.drop_left]
 rw [e];exact (f1.append hc).append f4
theorem wV {j:Nat} (h:j + ds.length≤l.length):(Hz l j ds).length = l.length:=by simp [Hz];omega
theorem Y2 {T T2 e s1 s2 g j q:Nat} {v:Value} (ho:o.op = .call { callee:=.builtin .copy,args:=#[.tmp s1,.tmp s2],argTypes:=#[T,T2] }) (hd:o.dst = some d) (hdm:d < m) (hn:aB Γ d = true) (hT:P.underlying T = some (.slice e)) (hsz:(P.info? e).map (·.size) = some k) (hg:lk Γ g = some (.aan v (.own k l))) (h1:lk Γ s1 = some (.dat (.val (IK v k j)))) (hj:j < l.length) (hq:ds.length = q) (hk2:∀ x∈ds,x.width = k) (hu:kw = true→D.ik ds = true) (h2:∀ a W X Ow,lG kw X0 w0 m Γ a W X Ow→∃ b2 o2 n2 c2 cs,a.eval (.tmp s2) = .slice (some ⟨b2,o2,none⟩) n2 c2∧eJ n2 (l.length - j) = q∧aF kw X W ds cs∧∀ i v,cs[i]? = some v→W.cell? ⟨b2,o2 + i,none⟩ = some v) :
 dB P kw X0 w0 m Γ o ((d,.dat (vI (q:Int))) :: (g,.aan v (.own k (Hz l j ds))) :: Γ):=by
 intro a W hs;obtain ⟨X,Ow,hx⟩:=hs.x;obtain ⟨b,c,es,ty,g1,g3,g4,g5,g6,g7,g8,g9,g10⟩:=wW (t:=g) hx hg;obtain ⟨b2,o2,n2,c2,cs,q1,q2,q3,q4⟩:=h2 a W X Ow hx;have e1:=hx.fs.val h1;rw [g3] at e1;have hne:¬ c = j:=by omega
 simp only [IK,if_neg hne,aR] at e1;have lc:cs.length = ds.length * k:=by rw [q3.len,D.dF hk2]
 have hjq:j + ds.length≤l.length:=by
  have:q≤l.length - j:=by rw [← q2];exact Nat.min_le_right _ _
  omega
 have hlk:l.length * k≤c * k:=ew k g4;have hfit0:j * k + cs.length≤l.length * k:=by rw [lc,← Nat.add_mul];exact ew k hjq
 have hfit:j * k + cs.length≤es.length:=by omega
 have hr:=Vu (P:=P) (ty:=o.type) (c1:=c - j) (c2:=c2) hT hsz g6 (by rw [lc,hq,← q2]) q4 hfit (aF.one _ _ q3) (sT:=T2);have hgo:(execOp a.eval o).run P W = .ok (.value (.int .i64 (q:Int))) (W.setCells b (j * k) cs):=by
  rw [q2] at hr;simp [execOp,ho,resolve,invoke,builtin,e1,q1,hr,goInt]
 unfold oC;rw [hgo,hd];have hw:=hx.write (s0:=g) (f:=.aan v (.own k (Hz l j ds))) g1 g6 hfit g10 g9 ⟨_,hg⟩ fun tr hh=>?_
 · refine (hw.put (v:=.int .i64 (q:Int)) (f:=.dat (vI (q:Int))) hdm (by simp [aB,F.refs,hn]) (Below.refl _ _) ?_).fs;unfold ah;rw [iR hx.size hdm];exact dh rfl
 ·
  unfold ah;unfold ah;refine ⟨b,c,nV es (j * k) cs,ty,g1,by rw [wV hjq];exact g3,by rw [wV hjq];exact g4,fun x hx=>?_,hh,by rw [qG hfit];exact g7,?_,fun ek u hu'=>?_,g10⟩
  · unfold Hz at hx;rcases cQ.1 hx with hx | hx
    · rcases cQ.1 hx with hx | hx
      · exact g5 x (bL hx)
      · exact hk2 x hx
    · exact g5 x (ef hx)
  · rw [wV hjq];have:(nV es (j * k) cs).take (l.length * k) = nV (es.take (l.length * k)) (j * k) cs:=by
     unfold nV;rw [List.take_take,db (by omega),List.take_append,eV (l:=es.take (j * k) ++ cs) (by simp;omega),List.drop_take];congr 2;simp;omega
    rw [this];exact aF.tr tr _ _ (g8.lay g5 q3 hk2 hjq)
  · simp only [nV,cQ] at hu';rcases hu' with (hv | hv) | hv
    · exact g9 ek u (bL hv)
    · exact aF.kJ _ _ q3 (hu ek) u hv
    · exact g9 ek u (ef hv)
theorem agp {T T2 e s1 s2 g j q:Nat} {v:Value} (ho:o.op = .call { callee:=.builtin .copy,args:=#[.tmp s1,.tmp s2],argTypes:=#[T,T2] }) (hd:o.dst = some d) (hdm:d < m) (hn:aB Γ d = true) (hT:P.underlying T = some (.slice e)) (hsz:(P.info? e).map (·.size) = some k) (hg:lk Γ g = some (.aan v (.own k l))) (h1:lk Γ s1 = some (.dat (.val (IK v k j)))) (hj:j < l.length) (hq:ds.length = q) (h0:ds≠[]) (hq2:q≤l.length - j) (hu:kw = true→D.ik ds = true) (h2:lk Γ s2 = some (.dat (.list k ds))) (hk2:∀ x∈ds,x.width = k) :
 dB P kw X0 w0 m Γ o ((d,.dat (vI (q:Int))) :: (g,.aan v (.own k (Hz l j ds))) :: Γ) :=
 Y2 ho hd hdm hn hT hsz hg h1 hj hq hk2 hu fun a W X Ow hx=>by
  have hf:=hx.facts s2 _ h2;unfold ah at hf;obtain ⟨A,c,r1,r2,r3,r4⟩:=jm hf;obtain ⟨b2,o2,es2,rfl,r5,r6,r7⟩:=r4 h0;exact ⟨b2,o2,ds.length,c,es2,r1,by rw [hq];exact db hq2,r7,fun i v hi=>(r6 i v hi).2⟩
theorem afk {T T2 e s1 s2 g j q:Nat} {v:Value} (ho:o.op = .call { callee:=.builtin .copy,args:=#[.tmp s1,.tmp s2],argTypes:=#[T,T2] }) (hd:o.dst = some d) (hdm:d < m) (hn:aB Γ d = true) (hT:P.underlying T = some (.slice e)) (hsz:(P.info? e).map (·.size) = some k) (hg:lk Γ g = some (.aan v (.own k l))) (h1:lk Γ s1 = some (.dat (.val (IK v k j)))) (hj:j < l.length) (hq:eJ i (l.length - j) = q) (hi:i≤l.length) (hu:kw = true→D.ik l = true) (h2:lk Γ s2 = some (.dat (.val (slP v i)))) :
 dB P kw X0 w0 m Γ o ((d,.dat (vI (q:Int))) :: (g,.aan v (.own k (Hz l j (l.take q)))) :: Γ):=by
 have hqi:q≤i:=by rw [← hq];exact Nat.min_le_left _ _
 intro a W hs;obtain ⟨X,Ow,hx⟩:=hs.x;obtain ⟨b,c,es,ty,g1,g3,g4,g5,g6,g7,g8,g9,g10⟩:=wW (t:=g) hx hg;refine Y2 (ds:=l.take q) ho hd hdm hn hT hsz hg h1 hj (by rw [bO];omega) (fun x hx=>g5 x (bL hx)) (fun ek=>Jc (hu ek) q) (fun a W X Ow hx=>?_) a W hs;obtain ⟨b,c,es,ty,g1,g3,g4,g5,g6,g7,g8,g9,g10⟩:=wW (t:=g) hx hg;have e2:=hx.fs.val h2;rw [g3] at e2;simp only [slP] at e2;have hsp:l = l.take q ++ l.drop q:=(d8 q l).symm;rw [hsp] at g8;obtain ⟨k1,k2,e,f1,f2⟩:=g8.split;refine ⟨b,0,i,c,k1,e2,hq,f1,fun j' u hj'=>?_⟩;rw [← hsp] at e;have hlt:j' < k1.length:=(aM.1 hj').1;have hh:(es.take (l.length * k))[j']? = some u:=by rw [e,eT hlt];exact hj'
 rw [aR,bW g6];have:j' < (es.take (l.length * k)).length:=(aM.1 hh).1;rw [cj,if_pos (by simp at this;omega)] at hh;simpa using hh
theorem FSq.YZ {g:Nat} (h:FSq kw X0 w0 m Γ a W) (hl:lk Γ s = some (.own k l)) (hns:aB Γ s = true) (hng:aB Γ g = true) (hne:s≠g):∃ v:Value,FSq kw X0 w0 m ((s,.dat (.val v)) :: (g,.aan v (.own k l)) :: Γ) a W:=by
 obtain ⟨X,Ow,hx⟩:=h.x;have hf:=hx.facts s _ hl;unfold ah at hf;obtain ⟨b,c,es,ty,g1,g3,g4⟩:=hf;refine ⟨bY a s,(hx.pass (t:=s) (g:=g) (f:=.dat (.val (bY a s))) (f':=.aan (bY a s) (.own k l)) hns hng hne ?_ ?_).fs⟩
 · unfold ah;refine dh ?_;rw [g3];rfl
 · unfold ah;unfold ah;exact ⟨b,c,es,ty,by simp [g1],g3,g4⟩
theorem FSq.Tz {g:Nat} {v:Value} (h:FSq kw X0 w0 m Γ a W) (hl:lk Γ s = some (.dat (.val v))) (hg:lk Γ g = some (.aan v (.own k l))) (hns:aB Γ s = true) (hng:aB Γ g = true) (hne:g≠s):FSq kw X0 w0 m ((g,.any) :: (s,.own k l) :: Γ) a W:=by
 obtain ⟨X,Ow,hx⟩:=h.x;obtain ⟨b,c,es,ty,g1,g3,g4⟩:=wW (t:=g) hx hg;have e1:=hx.fs.val hl;refine (hx.pass (t:=g) (g:=s) (f:=.any) (f':=.own k l) hng hns hne (by unfold ah;trivial) ?_).fs;unfold ah;exact ⟨b,c,es,ty,by simp [g1],e1.trans g3,g4⟩
end
section
variable {ops:Array Oper} {kw:Bool} {X0:XS} {w0:World} {m:Nat} {Γ:fA} {o:Oper} {d s:Nat} {l:List Oper} {acc:List Hd} {K:List Hd→fA→Prop} {Q:Exit→Act→World→Prop} {a:Act} {W:World}
theorem aha {T:Nat} {p q z:Int} (ho:o.op = .call { callee:=.builtin .max,args:=#[.const (.int .i64 p),.tmp s],argTypes:=#[T,T] }:=by rfl) (hd:o.dst = some d:=by rfl) (hdm:d < m:=by decide) (hn:aB Γ d = true:=by rfl) (hx:lk Γ s = some (.dat (.val (.int .i64 q))):=by rfl) (hz:(if q > p then q else p) = z:=by decide):dB aD kw X0 w0 m Γ o ((d,.dat (.val (.int .i64 z))) :: Γ) :=
 aeC ho hd hdm hn hx hz
theorem Yo {P:Program} {ι:Sort _} {Γ':ι→fA} (h:∀ a W,FSq kw X0 w0 m Γ a W→∃ i,FSq kw X0 w0 m (Γ' i) a W) (k:∀ i,fK P ops kw X0 w0 m (Γ' i) l Q):fK P ops kw X0 w0 m Γ l Q:=fun a W hs=>let ⟨i,hi⟩:=h a W hs;k i a W hi
theorem Gj {T e:Nat} {v:Value} {es:List D} (g:Nat) (ho:o.op = .call { callee:=.builtin .len,args:=#[.tmp s],argTypes:=#[T] }:=by rfl) (hd:o.dst = some d:=by rfl) (hdm:d < m:=by decide) (hn:aB Γ d = true:=by rfl) (hT:aD.underlying T = some (.slice e):=by first | exact Tryz.underlying25 | exact Tryz.underlying24) (hl:lk Γ s = some (.dat (.val v)):=by rfl) (hg:lk Γ g = some (.aan v (.own k es)):=by rfl):dB aD kw X0 w0 m Γ o ((d,.dat (.val (.int .i64 (es.length:Nat)))) :: Γ) :=
 aaU ho hd hdm hn hT hl hg
theorem Qg {T t j:Nat} {z:Int} {v:Value} {es:List D} (g:Nat) (hz:z = (j:Int)) (hj:j≤es.length) (ho:o.op = .slice T (.tmp s) none (some (.tmp t)) none:=by rfl) (hG:o.guard = none:=by rfl) (hd:o.dst = some d:=by rfl) (hdm:d < m:=by decide) (hl:lk Γ s = some (.dat (.val v)):=by rfl) (hg:lk Γ g = some (.aan v (.own k es)):=by rfl) (hx:lk Γ t = some (.dat (.val (.int .i64 z))):=by rfl) (si:SI aD T k:=by first | exact ig | exact jh | exact gV | exact jg | exact gW | exact dS) (ct:HT aD ops kw X0 w0 m (⟨[(s,.dat (.val v)),(g,.aan v (.own k es)),(t,.dat (.val (.int .i64 z)))],d,.dat (.val (slP v j)),false⟩ :: acc) ((d,.dat (.val (slP v j))) :: Γ) l K):HT aD ops kw X0 w0 m acc Γ (o :: l) K :=
 HT.cons (h:=⟨[(s,.dat (.val v)),(g,.aan v (.own k es)),(t,.dat (.val (.int .i64 z)))],d,.dat (.val (slP v j)),false⟩) rfl hd (fun Γ h hn'=>(aaO ho hd hdm hn' si h.1 h.2.1 (.t h.2.2.1) hz hj).g hG) ⟨hl,hg,hx,trivial⟩ ct
theorem PS {T t j:Nat} {z:Int} {v:Value} {es:List D} (g:Nat) (hz:z = (j:Int)) (hj:j≤es.length) (ho:o.op = .slice T (.tmp s) (some (.tmp t)) none none:=by rfl) (hG:o.guard = none:=by rfl) (hd:o.dst = some d:=by rfl) (hdm:d < m:=by decide) (hl:lk Γ s = some (.dat (.val v)):=by rfl) (hg:lk Γ g = some (.aan v (.own k es)):=by rfl) (hx:lk Γ t = some (.dat (.val (.int .i64 z))):=by rfl) (si:SI aD T k:=by first | exact ig | exact jh | exact gV | exact jg | exact gW | exact dS) (ct:HT aD ops kw X0 w0 m (⟨[(s,.dat (.val v)),(g,.aan v (.own k es)),(t,.dat (.val (.int .i64 z)))],d,.dat (.val (IK v k j)),false⟩ :: acc) ((d,.dat (.val (IK v k j))) :: Γ) l K):HT aD ops kw X0 w0 m acc Γ (o :: l) K :=
 HT.cons (h:=⟨[(s,.dat (.val v)),(g,.aan v (.own k es)),(t,.dat (.val (.int .i64 z)))],d,.dat (.val (IK v k j)),false⟩) rfl hd (fun Γ h hn'=>(abN ho hd hdm hn' si h.1 h.2.1 (.t h.2.2.1) hz hj).g hG) ⟨hl,hg,hx,trivial⟩ ct
theorem FSq.ahy {g:Nat} {v:Value} {l:List D} (h:FSq kw X0 w0 m Γ a W) (hl:lk Γ s = some (.dat (.val v))) (hg:lk Γ g = some (.aan v (.own k l))):FSq kw X0 w0 m ((s,.dat (.val (IK v k 0))) :: Γ) a W :=
 h.add fun X Ow hx=>by
  obtain ⟨b,c,es,ty,g1,g3,g4⟩:=wW (t:=g) hx hg;have e1:=hx.fs.val hl;unfold ah;have:bY a s = IK v k 0:=by
   refine e1.trans ?_;rw [g3];simp [IK]
  rw [this];exact dh (by rw [g3];rfl)
theorem ac3 {T T2 e s2 q:Nat} {v:Value} {es es':List D} (g j:Nat) (hT:aD.underlying T = some (.slice e)) (hsz:(aD.info? e).map (·.size) = some k) (hj:j < es.length) (hq:ds.length = q) (h0:ds≠[]) (hq2:q≤es.length - j) (hu:D.ik ds = true) (hk2:∀ x∈ds,x.width = k) (ho:o.op = .call { callee:=.builtin .copy,args:=#[.tmp s,.tmp s2],argTypes:=#[T,T2] }:=by rfl) (hd:o.dst = some d:=by rfl) (hdm:d < m:=by decide) (hn:aB Γ d = true:=by rfl) (hg:lk Γ g = some (.aan v (.own k es)):=by rfl) (h1:lk Γ s = some (.dat (.val (IK v k j))):=by rfl) (h2:lk Γ s2 = some (.dat (.list k ds)):=by rfl) (hr:Hz es j ds = es':=by rfl):dB aD kw X0 w0 m Γ o ((d,.dat (vI (q:Int))) :: (g,.aan v (.own k es')) :: Γ) :=
 hr ▸ agp ho hd hdm hn hT hsz hg h1 hj hq h0 hq2 (fun _=>hu) h2 hk2
theorem YD {T T2 e s2 q:Nat} {v:Value} {es es':List D} (g j:Nat) (hT:aD.underlying T = some (.slice e)) (hsz:(aD.info? e).map (·.size) = some k) (hj:j < es.length) (hq:eJ i (es.length - j) = q) (hi:i≤es.length) (hu:D.ik es = true) (ho:o.op = .call { callee:=.builtin .copy,args:=#[.tmp s,.tmp s2],argTypes:=#[T,T2] }:=by rfl) (hd:o.dst = some d:=by rfl) (hdm:d < m:=by decide) (hn:aB Γ d = true:=by rfl) (hg:lk Γ g = some (.aan v (.own k es)):=by rfl) (h1:lk Γ s = some (.dat (.val (IK v k j))):=by rfl) (h2:lk Γ s2 = some (.dat (.val (slP v i))):=by rfl) (hr:Hz es j (es.take q) = es':=by rfl):dB aD kw X0 w0 m Γ o ((d,.dat (vI (q:Int))) :: (g,.aan v (.own k es')) :: Γ) :=
 hr ▸ afk ho hd hdm hn hT hsz hg h1 hj hq hi (fun _=>hu) h2
end
theorem JI:AC aD true 67 [.list 4 []] (.dat (.list 4 [])):=by
 refine aix 8 Tryz.func67 (k:=go 0 [[0,0],[3,0,2],[5]] (k:=?_));refine adI rfl (aeR (k:=4) (es:=[]) (s:=3) (d:=4) rfl rfl (by decide) rfl Tryz.underlying25 rfl) fun b=>gU [0,2,4] (k:=aT ?_)
 refine dA (fun hc4=>?_) (fun hc4=>?_)
 · refine go 0 [[3,2],[3]] (k:=?_);exact Sj rfl (nO (jJ.nil (.t rfl)))
 · refine go 0 [[4]] (k:=q (BZ aW) (q aC (q (Uy aW) ?_)));exact sq (fun a W h=>h.ZU (s:=7) (k:=4) rfl) (go 1 [[1,2],[2]] (k:=dG))
theorem ack (n:Nat) (hn:n = 2∨n = 3) (w:World):Calls aD 246 #[.int .u64 1,.int .u64 (n:Int)] w fun e w'=>e = .returned (.tuple #[.int .u64 0,.int .u64 (n:Int)])∧w' = w:=by
 rcases hn with rfl | rfl <;>
 · refine calls_of_wp Tryz.func246 rfl ?_;simp only [Tryz.ntmps246,ck,bR,cV,dt,dr,bB,bA,cw,cg,bp,bX]
   go_wp2
   go_ret2
   exact ⟨rfl,rfl⟩
theorem agV (n:Nat) (hn:n = 2∨n = 3) (w:World):Calls aD 244 #[.int .u64 1,.int .u64 (n:Int)] w fun e w'=>e = .returned (.tuple #[.int .u64 0,.int .u64 (n:Int)])∧w' = w:=by
 have c64:=ack n hn w;refine calls_of_wp Tryz.func244 rfl ?_;simp only [Tryz.ntmps244,ck,bR,cV,dt,dr,bB,bA,cw,cg,bp,bX]
 go_wp2_with (go_at_call 246;refine c64.mono ?_;rintro e w' ⟨rfl,hw⟩;rw [hw])
 go_ret2
 exact ⟨rfl,rfl⟩
theorem adg (n:Nat) (hn:n = 2∨n = 3):AC aD true 244 [.val (.int .u64 1),.val (.int .u64 (n:Int))] (.bT [.val (.int .u64 0),.val (.int .u64 (n:Int))]):=by
 intro X w vs hx hr
 match vs,hr with
 | [v,u],hr =>
  rw [gy hr.1,gy hr.2.1];refine (agV n hn w).mono ?_;rintro e w' ⟨rfl,rfl⟩;refine ⟨Below.refl _ _,_,rfl,fun _ _=>False,none,fun _ _ h=>h.elim,(by intro b h;cases h),?_⟩;unfold ah;exact ⟨_,rfl,dh rfl,dh rfl,trivial⟩
section
variable {P:Program} {ops:Array Oper} {kw:Bool} {X0:XS} {w0:World} {m:Nat} {Γ Γ':fA} {Q:Exit→Act→World→Prop} {o:Oper} {d s:Nat} {l:List Oper} {acc:List Hd} {K:List Hd→fA→Prop}
theorem aiI {T t:Nat} {z:Int} {es:List D} {e:D} (ho:o.op = .indexAddr T (.tmp s) (.tmp t):=by rfl) (hd:o.dst = some d:=by rfl) (hdm:d < m:=by decide) (hn:aB Γ d = true:=by rfl) (hl:lk Γ s = some (.dat (.list k es)):=by rfl) (hx:lk Γ t = some (.dat (.val (.int .i64 z))):=by rfl) (si:SI aD T k:=by first | exact ig | exact jh | exact gV | exact jg | exact gW | exact dS) (hz:z = (z.toNat:Int):=by decide) (hi:es[z.toNat]? = some e:=by rfl):dB aD kw X0 w0 m Γ o ((d,.ptr e) :: Γ):=dZ hz hi ho hd hdm hn hl hx si
theorem ag2 {T:Nat} {z:Int} {es:List D} {e:D} (ho:o.op = .indexAddr T (.tmp s) (.const (.int .i64 z)):=by rfl) (hd:o.dst = some d:=by rfl) (hdm:d < m:=by decide) (hn:aB Γ d = true:=by rfl) (hl:lk Γ s = some (.dat (.list k es)):=by rfl) (si:SI aD T k:=by first | exact ig | exact jh | exact gV | exact jg | exact gW | exact dS) (hz:z = (z.toNat:Int):=by decide) (hi:es[z.toNat]? = some e:=by rfl):dB aD kw X0 w0 m Γ o ((d,.ptr e) :: Γ):=uK hz hi ho hd hdm hn hl si
theorem agY {T t s':Nat} {z:Int} {es:List D} (ho:o.op = .indexAddr T (.tmp s) (.tmp t):=by rfl) (hd:o.dst = some d:=by rfl) (hdm:d < m:=by decide) (hn:aB Γ d = true:=by rfl) (hl:lk Γ s = some (.zy s'):=by rfl) (hl':lk Γ s' = some (.own k es):=by rfl) (hx:lk Γ t = some (.dat (.val (.int .i64 z))):=by rfl) (si:SI aD T k:=by first | exact ig | exact jh | exact gV | exact jg | exact gW | exact dS) (hz:z = (z.toNat:Int):=by decide) (hi:z.toNat < es.length:=by decide):dB aD kw X0 w0 m Γ o ((d,(.qH s' z.toNat k)) :: Γ):=OE hz hi ho hd hdm hn hl hl' hx si
theorem aiR {T s':Nat} {es:List D} {e:D} (ho:o.op = .load T (.tmp s):=by rfl) (hd:o.dst = some d:=by rfl) (hdm:d < m:=by decide) (hn:aB Γ d = true:=by rfl) (hl:lk Γ s = some (.qH s' i k):=by rfl) (hl':lk Γ s' = some (.own k es):=by rfl) (hi:es[i]? = some e:=by rfl) (ti:TI aD T e.width e.isAgg:=by first | exact kK | exact mO):dB aD kw X0 w0 m Γ o ((d,.dat e) :: Γ):=ai3 hi ho hd hdm hn hl hl' ti
theorem aiQ {T t:Nat} {z:Int} {es:List D} {e:D} (ho:o.op = .indexAddr T (.tmp s) (.tmp t):=by rfl) (hg:o.guard = none:=by rfl) (hd:o.dst = some d:=by rfl) (hdm:d < m:=by decide) (hl:lk Γ s = some (.dat (.list k es)):=by rfl) (hx:lk Γ t = some (.dat (.val (.int .i64 z))):=by rfl) (si:SI aD T k:=by first | exact ig | exact jh | exact gV | exact jg | exact gW | exact dS) (hz:z = (z.toNat:Int):=by decide) (hi:es[z.toNat]? = some e:=by rfl) (ct:HT aD ops kw X0 w0 m (⟨[(s,.dat (.list k es)),(t,.dat (.val (.int .i64 z)))],d,.ptr e,false⟩ :: acc) ((d,.ptr e) :: Γ) l K):HT aD ops kw X0 w0 m acc Γ (o :: l) K:=mP hz hi ho hg hd hdm hl hx si ct
theorem ahi {T t s':Nat} {z:Int} {es:List D} (ho:o.op = .indexAddr T (.tmp s) (.tmp t):=by rfl) (hg:o.guard = none:=by rfl) (hd:o.dst = some d:=by rfl) (hdm:d < m:=by decide) (hl:lk Γ s = some (.zy s'):=by rfl) (hl':lk Γ s' = some (.own k es):=by rfl) (hx:lk Γ t = some (.dat (.val (.int .i64 z))):=by rfl) (si:SI aD T k:=by first | exact ig | exact jh | exact gV | exact jg | exact gW | exact dS) (hz:z = (z.toNat:Int):=by decide) (hi:z.toNat < es.length:=by decide) (ct:HT aD ops kw X0 w0 m (⟨[(s,.zy s'),(s',.own k es),(t,.dat (.val (.int .i64 z)))],d,(.qH s' z.toNat k),false⟩ :: acc) ((d,(.qH s' z.toNat k)) :: Γ) l K):HT aD ops kw X0 w0 m acc Γ (o :: l) K:=Ui hz hi ho hg hd hdm hl hl' hx si ct
theorem aiX {T s':Nat} {es:List D} {e:D} (ho:o.op = .load T (.tmp s):=by rfl) (hg:o.guard = none:=by rfl) (hd:o.dst = some d:=by rfl) (hdm:d < m:=by decide) (hl:lk Γ s = some (.qH s' i k):=by rfl) (hl':lk Γ s' = some (.own k es):=by rfl) (hi:es[i]? = some e:=by rfl) (ti:TI aD T e.width e.isAgg:=by first | exact kK | exact mO) (ct:HT aD ops kw X0 w0 m (⟨[(s,.qH s' i k),(s',.own k es)],d,.dat e,false⟩ :: acc) ((d,.dat e) :: Γ) l K):HT aD ops kw X0 w0 m acc Γ (o :: l) K:=aiP hi ho hg hd hdm hl hl' ti ct
theorem ais {T s' t:Nat} {es:List D} {e:D} (ho:o.op = .store T (.tmp s) (.tmp t):=by rfl) (hg:o.guard = none:=by rfl) (hd:o.dst = none:=by rfl) (hl:lk Γ s = some (.qH s' i k):=by rfl) (hl':lk Γ s' = some (.own k es):=by rfl) (hx:lk Γ t = some (.dat e):=by rfl) (hT:(aD.info? T).map (·.size) = some k:=by kernel_rfl) (hw:e.width = k:=by rfl) (hu:e.kJ = true:=by rfl) (hi:i < es.length:=by decide) (ct:HT aD ops kw X0 w0 m (⟨[(s,.qH s' i k),(s',.own k es),(t,.dat e)],s',.own k (es.set i e),true⟩ :: acc) ((s',.own k (es.set i e)) :: Γ) l K):HT aD ops kw X0 w0 m acc Γ (o :: l) K:=aiy hi ho hg hd hl hl' hx hT hw hu ct
end
section
variable {P:Program} {ops:Array Oper} {kw:Bool} {X0:XS} {w0:World} {m:Nat} {Γ Γ':fA} {Q:Exit→Act→World→Prop}
variable {A B R:Prop} {n:Nat} {r s:List Nat} {l:List (List Nat)}
theorem aeq {c:Code} (h:Stp 6 ((n :: r) :: l) (CR P kw X0 w0 m 40 Γ c Q) R):Stp 0 (((n + 1) :: r) :: l) (CT P kw X0 w0 m Γ (.loop c) Q) R:=⟨fun x=>Gz 40 (h.f x)⟩
theorem afo {c:Code} {u:Nat} (h:Stp 0 ((n :: r) :: l) (CT P kw X0 w0 m Γ c (Exit.then (ea P c Q u) Q)) R):Stp 6 (((n + 1) :: r) :: l) (CR P kw X0 w0 m (u + 1) Γ c Q) R:=⟨fun x=>xw (h.f x)⟩
theorem af5 {c:Code} {u:Nat} (h:Stp 6 ((n :: r) :: l) (CR P kw X0 w0 m u Γ c Q) R):Stp 2 (((n + 1) :: r) :: l) (NT kw X0 w0 m Γ (Exit.then (ea P c Q u) Q)) R:=⟨fun x=>A7 (h.f x)⟩
theorem ai (i:Nat) (l:List (List Nat)) (h:Stp i l A B:=by
 repeat (first
  | exact WL
  | with_reducible apply XA
  | (apply acR;(focus rfl);focus (first | exact aC | exact ae9 | exact yE | exact jO | exact bM | exact nH | exact Ii | exact dn | exact fO | exact vX | exact Yb | exact eu | exact CW | exact iT | exact iV | exact qx | exact Di | exact uQ | exact Y9 | exact oI | exact TV | exact Nq | exact ag1 | exact agQ | exact aI | exact uk | exact Bz (h1:=by decide) (h2:=by decide) | exact bH (h1:=by decide) (h2:=by decide) | exact ahS (h1:=by decide) (h2:=by decide) | exact eG (h1:=by decide) (h2:=by decide) | exact aha (hz:=by rfl) | exact aiI | exact ag2 | exact agY | exact aiR | exact yN (hi:=by decide)))
  | (apply WA;focus ((repeat (first | exact CZ | apply Dh rfl));done))
  | with_reducible apply NI
  | with_reducible apply Ru
  | with_reducible apply Rw
  | with_reducible apply OD
  | with_reducible apply I5
  | (apply XI;focus ((repeat (first | exact CZ | apply Dh rfl));done))
  | (apply WM;focus ((repeat (first | exact CZ | apply Dh rfl));done))
  | (apply Ro 3;focus (first | exact fun k=>agW (ct:=k) | exact fun k=>Pm (ct:=k) | exact fun k=>Xq (ct:=k) | exact fun k=>aid (ct:=k) | exact fun k=>ade (ct:=k) | exact fun k=>Nb (ct:=k) | exact fun k=>Aj (ct:=k) | exact fun k=>Ul (ct:=k) | exact fun k=>aeg (ct:=k) | exact fun k=>ag9 (ct:=k) | exact fun k=>je (ct:=k) | exact fun k=>agu (ct:=k) | exact fun k=>aie (h1:=by decide) (h2:=by decide) (ct:=k) | exact fun k=>WO (h1:=by decide) (h2:=by decide) (ct:=k) | exact fun k=>ahJ (h1:=by decide) (h2:=by decide) (ct:=k) | exact fun k=>lD (h1:=by decide) (h2:=by decide) (ct:=k) | exact fun k=>aiQ (ct:=k) | exact fun k=>ahi (ct:=k) | exact fun k=>aiX (ct:=k) | exact fun k=>ais (ct:=k)))
  | (apply Ro 1;focus exact fun k=>Ac ⟨by kernel_rfl,rfl,k⟩)
  | (apply ac6;(focus rfl);focus first | decide +kernel | (simp;done))
  | (apply acT;(focus rfl);focus first | decide +kernel | (simp;done))
  | (apply adQ;(focus rfl);focus first | omega | decide +kernel)
  | (apply acX;(focus rfl);focus first | rfl | omega | decide +kernel)
  | with_reducible apply aeq
  | with_reducible apply afo
  | with_reducible apply af5
  | with_reducible apply Tq
  | with_reducible apply XX
  | with_reducible apply Zi
  | with_reducible apply MB
  | with_reducible apply Zw
  | with_reducible apply Zg
  | ((with_reducible apply Zp);focus decide)
  | with_reducible apply YW
  | (apply ZR;focus ((repeat (first | exact CZ | apply Dh rfl));done)))) (k:B):A:=h.f k
end
def Zh (l:List Oper) (n:Nat) (L0:List Nat):Bool :=
 (dc n).all fun i=>L0.contains i || (dc (n + 1)).any fun j=>decide (i < j) && cH .any l.toArray j i
variable {n:Nat} {L0:List Nat}
theorem QP {l:List Oper} (h:Zh l n L0 = true):∀ i,i < n→i∈L0∨∃ j,j≤n∧i < j∧cH .any l.toArray j i = true:=fun i hi=>by
 have h1:=aq.1 h i (bh.2 hi);rcases br.1 h1 with h2 | h2
 · exact .inl (by simpa using h2)
 · obtain ⟨j,hj,hj2⟩:=dx.1 h2;simp only [ao,decide_eq_true_eq] at hj2;exact .inr ⟨j,by have:=bh.1 hj;omega,hj2.1,hj2.2⟩
theorem Om {ops:Array Oper} {md:Region.Mode} {listed:Array Bool} (hs:∀ i,i < n→i∈L0∨∃ j,j≤n∧i < j∧cH md ops j i = true) (hc:eL md ops n = true) (hn:n < ops.size) (inv:HeadInv md ops n listed) (hL:∀ i∈L0,listed.getD i false = true) :
 ∀ (d i:Nat),n - i = d→i < n→listed.getD i true = false→∀ t,n≤t→t ∉ du md ops listed:=by
 intro d
 induction d using Nat.strongRecOn with
 | _ d ih =>
  intro i hd hi hun t ht hr;obtain ⟨_,ot,hot,hall⟩:=mem_ready.1 hr;have htlt:t < ops.size:=(ar.1 hot).1
  by_cases htn:t = n
  ·
   subst htn;rcases hs i hi with h1 | ⟨j,hj,hij,hw⟩
   · have:=hL i h1;rw [getD_both hun] at this;cases this
   obtain ⟨oj,hoj,e,he,hb,hon⟩:=cG hw
   by_cases hjt:j = t
   · subst hjt;have:oj = ot:=bk (hoj.symm.trans hot);subst this;have h2:=hall e he hb;rw [hon,getD_both hun] at h2;cases h2
   · cases hl:listed.getD j false with
     | true =>
      have h2:=inv.closed j oj hoj hl e he hb;rw [hon,getD_both hun] at h2;cases h2
     | false =>
      have hjs:j < listed.size:=by rw [inv.size];omega
      exact ih (t - j) (by omega) j rfl (by omega) (getD_in hjs hl) t (a6 _) hr
  · have h1:=aq.1 hc t (bh.2 htlt);simp only [da,decide_eq_true_eq] at h1;rcases h1 with h1 | h1
    · omega
    · obtain ⟨o',ho',e,he,hb,hon⟩:=cG h1;have:o' = ot:=bk (ho'.symm.trans hot);subst this;have h2:=hall e he hb;rw [hon,getD_both (inv.tail (t - 1) (by omega) (by omega))] at h2;cases h2
def Zx (l:List Oper) (H:List (List Nat × Nat × Bool)) (n m:Nat) (L0:List Nat):Bool :=
 decide (n≤l.length) && (decide (n = l.length) || (Zh l n L0 && eL .any l.toArray n)) &&
 (dc n).all (fun j=>match l[j]? with
  | none=>true
  | some oj=>oj.after.all (fun e=>!Region.binds .any e || decide (e.on < j)) && match H[j]? with
   | none=>true
   | some hj=>(hj.1.all fun s=>(dc n).all fun i=>match H[i]? with
    | none=>true
    | some hi=>hi.2.1 != s || (if i < j then wf2 l n j i else i == j || wf2 l n i j)) &&
    (dc n).all fun i=>match H[i]? with
     | none=>true
     | some hi=>hi.2.1 != hj.2.1 || !decide (i < j) || wf2 l n j i) &&
 H.all (fun h=>h.2.2 || decide (h.2.1 < m)) &&
 Region.seqB .any l.toArray (l.length - n) n (av n true ++ av (l.length - n) false)
section
variable {P:Program} {ops:Array Oper} {kw:Bool} {X0:XS} {w0:World} {m:Nat} {Γ Γ':fA} {a a':Act} {W W':World} {Q:Exit→Act→World→Prop}
theorem DI {l:List Oper} {H:List Hd} (hH:HBk P l.toArray kw X0 w0 m Γ (l.take n) H) (hB:Zx l (slotsOf H) n m L0 = true) (hN:((H.all fun h=>h.u || aB (pg H Γ) h.d) || TU l n H Γ) = true) (hT:fK P l.toArray kw X0 w0 m (pg H Γ) (l.drop n) Q):∀ (f:Nat) (listed:Array Bool) (a:Act) (w:World),cnt n listed = f→HeadInv .any l.toArray n listed→(∀ i∈L0,listed.getD i false = true)→FSq kw X0 w0 m (yO H 0 listed Γ) a w→wpAny P .any l.toArray Q (f + (l.length - n)) listed a w:=by
 unfold Zx at hB;simp only [ao,decide_eq_true_eq,da] at hB;obtain ⟨⟨⟨⟨b1,b2⟩,b3⟩,b5⟩,b6⟩:=hB;have hlen:H.length = n:=by rw [hH.len,bO];omega
 have hidx:∀ i o,i < n→l.toArray[i]? = some o→(l.take n)[i]? = some o:=fun i o hi ho=>by
  rw [cj,if_pos hi];simpa using ho
 have hsl:∀ (i:Nat) (h:Hd),H[i]? = some h→(slotsOf H)[i]? = some (h.Fs.map (·.1),h.d,h.u):=fun i h hi=>by simp [slotsOf,hi]
 have hlt:∀ (i:Nat) (h:Hd),H[i]? = some h→i < n:=fun i h hi=>by rw [← hlen];exact (aM.1 hi).1
 have hnr:∀ (j:Nat) (h:Hd),H[j]? = some h→h.u = false→aB Γ h.d = true∧∀ i x,H[i]? = some x→x.f.refs h.d = false∨wf2 l n i j = true:=fun j h hj hu=>by
  rcases br.1 hN with hN | hN
  · have:=aq.1 hN h (aL hj);simp only [hu,eA] at this;have h2:=zq.1 this;exact ⟨h2.2,fun i x hx=>.inl (h2.1 x (aL hx))⟩
  · have:=aq.1 hN j (bh.2 (hlt j h hj));rw [hj] at this;simp only [hu,eA,ao] at this;refine ⟨this.1,fun i x hx=>?_⟩;have h3:=aq.1 this.2 i (bh.2 (hlt i x hx));rw [hx] at h3;rcases br.1 h3 with h4 | h4
    · exact .inl (by simpa using h4)
    · exact .inr h4
 have hn:n = l.toArray.size∨(Zh l n L0 = true∧eL .any l.toArray n = true∧n < l.toArray.size):=by
  rcases b2 with b2 | b2
  · exact .inl (by simpa using b2)
  · by_cases he:n = l.length
    · exact .inl (by simpa using he)
    · exact .inr ⟨b2.1,b2.2,by simp;omega⟩
 have dep:=fun j (hj:j < n)=>aq.1 b3 j (bh.2 hj)
 -- what an operation waits for
 have hwf:∀ (listed:Array Bool),HeadInv .any l.toArray n listed→∀ i j,cH .any l.toArray j i = true→listed.getD j false = true→listed.getD i false = true:=fun listed inv i j hw hl=>by
  obtain ⟨o',ho',ed,hed,hb,hon⟩:=cG hw;rw [← hon];exact inv.closed j o' ho' hl ed hed hb
 have hwf2:∀ (listed:Array Bool),HeadInv .any l.toArray n listed→∀ i j,wf2 l n j i = true→listed.getD j false = true→listed.getD i false = true:=fun listed inv i j hw hl=>by
  rcases br.1 hw with h | h
  · exact hwf listed inv i j h hl
  · obtain ⟨k,_,hk⟩:=dx.1 h;simp only [ao] at hk;exact hwf listed inv i k hk.2 (hwf listed inv k j hk.1 hl)
 have key:∀ (f:Nat) (listed:Array Bool) (a:Act) (w:World),cnt n listed = f→HeadInv .any l.toArray n listed→(∀ i∈L0,listed.getD i false = true)→FSq kw X0 w0 m (yO H 0 listed Γ) a w→wpAny P .any l.toArray Q (f + (l.length - n)) listed a w:=by
  intro f
  induction f with
  | zero =>
   intro listed a w hc inv hL hfs;have hall:∀ i,i < n→listed.getD i false = true:=fun i hi=>Gv hc hi
   have hl:=zo inv (by simpa using b1) hall;have hfs2:FSq kw X0 w0 m (pg H Γ) a w:=hfs.congr fun s=>by
    have:=zC (H:=H) (i:=0) (listed:=listed) (Γ:=Γ) (j:=n) (s:=s) fun k x hk _=>⟨fun _=>hlt k x hk,fun h=>by rw [aR];exact hall k h⟩
    rw [this,eV (by omega)]
   have:=wpAny_of_seq (md:=.any) (Q':=Q) (ops:=l.toArray) (l.drop n) n listed a w (fun j=>by simp [eB]) (by rw [eE,hl];simpa using b6) (hT a w hfs2);rw [aR];rwa [eE] at this
  | succ f ih =>
   intro listed a w hc inv hL hfs;rw [show f + 1 + (l.length - n) = (f + (l.length - n)) + 1 by omega];obtain ⟨i0,hi0,hl0,hmin⟩:=JU (by omega:0 < cnt n listed);have hlt0:i0 < l.toArray.size:=by
    rcases hn with h | ⟨_,_,h⟩ <;> omega
   have hun0:listed.getD i0 true = false:=getD_in (by rw [inv.size];exact hlt0) hl0;have hltn:∀ j∈du .any l.toArray listed,j < n:=fun j hj=>by
    rcases eC j n with h | h
    · exact h
    · rcases hn with h0 | ⟨h1,h2,h3⟩
      · obtain ⟨_,o,ho,_⟩:=mem_ready.1 hj;have:=(ar.1 ho).1;omega
      · exact absurd hj (Om (QP h1) h2 h3 inv hL _ i0 rfl hi0 hun0 j h)
   refine ⟨fun hnil=>?_,fun j hj=>?_⟩
   · exfalso;have ho0:l.toArray[i0]? = some l.toArray[i0]:=Array.getElem?_eq_getElem hlt0;have hd0:=dep i0 hi0;rw [show l[i0]? = some l.toArray[i0] by simpa using ho0] at hd0;simp only [ao,Array.all_eq_true_iff_forall_mem] at hd0;have:i0∈du .any l.toArray listed:=mem_ready.2 ⟨hun0,_,ho0,fun e he hb=>by
      have:=hd0.1 e he;simp [hb] at this;exact hmin _ this⟩
     rw [hnil] at this;cases this
   ·
    have hjn:=hltn j hj;obtain ⟨hjun,oj,hoj,hall⟩:=mem_ready.1 hj;obtain ⟨h,hhj,hop,hfs0⟩:=hH.get (hidx j oj hjn hoj);have hd:=dep j hjn;rw [show l[j]? = some oj by simpa using hoj,hsl j h hhj] at hd;simp only [ao] at hd;have hjf:listed.getD j false = false:=getD_both hjun;have hnow:∀ i,cH .any l.toArray j i = true→listed.getD i false = true:=fun i hw=>by
     obtain ⟨o',ho',ed,hed,hb,hon⟩:=cG hw;have:o' = oj:=bk (ho'.symm.trans hoj);subst this;rw [← hon];exact hall ed hed hb
    have hnow2:∀ i,wf2 l n j i = true→listed.getD i false = true:=fun i hw=>by
     rcases br.1 hw with h | h
     · exact hnow i h
     · obtain ⟨k,_,hk⟩:=dx.1 h;simp only [ao] at hk;exact hwf listed inv i k hk.2 (hnow k hk.1)
    have hhas:Has (yO H 0 listed Γ) h.Fs:=Has.of fun p hp=>by
     have h1:=hfs0.mem p hp;rw [← h1];refine zC fun k x hk e=>?_
     rw [aR];have h1:=aq.1 (aq.1 hd.2.1 p.1 (List.mem_map_of_mem hp)) k (bh.2 (hlt k x hk));rw [hsl k x hk] at h1;simp only [e,bne_self_eq_false,eA] at h1
     by_cases hkj:k < j
     · rw [if_pos hkj] at h1;exact ⟨fun _=>hkj,fun _=>hnow2 k h1⟩
     · rw [if_neg hkj] at h1;refine ⟨fun hl=>?_,fun h=>absurd h hkj⟩;exfalso;rcases br.1 h1 with h2 | h2
       · have:k = j:=by simpa using h2
         rw [this,hjf] at hl;cases hl
       · have:=hwf2 listed inv j k h2 hl;rw [hjf] at this;cases this
    have hstep:YY P l.toArray kw X0 w0 m (yO H 0 listed Γ) oj ((h.d,h.f) :: yO H 0 listed Γ):=by
     unfold Vq at hop
     by_cases hu:h.u = true
     · rw [if_pos hu] at hop;exact hop _ hhas
     · rw [if_neg hu] at hop;have h2:=hnr j h hhj (by simpa using hu);refine hop.2 _ hhas (zg (fun i x hx hl=>(h2.2 i x hx).resolve_right fun hw=>?_) h2.1);rw [aR] at hl;have:=hwf2 listed inv j i hw hl;rw [hjf] at this;cases this
    have hstep:=hstep a w hfs;have hs':j < listed.size:=by rw [inv.size];exact (ar.1 hoj).1
    have hcnt:cnt n (listed.setIfInBounds j true) = f:=by
     have:=EI hjn hs' hjf;omega
    have hnew:∀ a' w',FSq kw X0 w0 m ((h.d,h.f) :: yO H 0 listed Γ) a' w'→wpAny P .any l.toArray Q (f + (l.length - n)) (listed.setIfInBounds j true) a' w':=fun a' w' hfs'=>by
     refine ih _ a' w' hcnt (inv.set hj hjn) (fun i hi=>getD_set_true (hL i hi)) (hfs'.congr fun s=>?_)
     by_cases hsd:h.d = s
     · subst hsd;rw [FC hhj (by rw [aR];simp [hs']) fun k x hk hx hl e=>?_]
       · simp [lk]
       · rw [aR,getD_set_ne false (by omega)] at hl;have hdk:=dep k (hlt k x hx);have hkl:k < l.length:=by have:=hlt k x hx;omega
         rw [aw hkl,hsl k x hx] at hdk;simp only [ao] at hdk;have h1:=aq.1 hdk.2.2 j (bh.2 hjn);rw [hsl j h hhj] at h1;simp only [e,bne_self_eq_false,eA,decide_eq_true hk,Bool.not_true] at h1;have:=hwf2 listed inv j k h1 hl;rw [hjf] at this;cases this
     · rw [show lk ((h.d,h.f) :: yO H 0 listed Γ) s = lk (yO H 0 listed Γ) s by simp [lk,hsd]];refine CO rfl fun k x hk e=>?_
       rw [aR]
       by_cases hkj:j = k
       · subst hkj;have:h = x:=bk (hhj.symm.trans hk);subst this;exact absurd e hsd
       · rw [getD_set_ne false hkj]
    unfold wpOp;simp only [hoj]
    by_cases hw:eh oj (yielded l.toArray a.tmps) = true
    · rw [if_pos hw] at hstep ⊢;exact .inl (hstep.mono hnew).wp
    · rw [if_neg hw] at hstep ⊢;exact hnew _ _ hstep
 exact key
variable (P kw X0 w0 m) in
def DK2 (lo:List Oper) (n:Nat) (Q:Exit→Act→World→Prop) (L0:List Nat) (H:List Hd) (Γe:fA):Prop :=
 Zx lo (slotsOf H) n m L0 = true∧((H.all fun h=>h.u || aB Γe h.d) || TU lo n H (Γe.drop H.length)) = true∧fK P lo.toArray kw X0 w0 m Γe (lo.drop n) Q
theorem FSq.drawn (h:FSq kw X0 w0 m Γ a W):FSq kw X0 w0 m Γ a { W with drawn:=W.drawn + 1 }:=by
 obtain ⟨X,Ow,hx⟩:=h.x;have hb:Below W.heap.size W { W with drawn:=W.drawn + 1 }:=(Below.refl _ W).drew;exact lG.fs (X:=X) (Ow:=Ow) ⟨hx.size,hx.defs,hx.below.trans (hb.mono hx.below.size),hx.x0,hx.env.below hb,fun s f hl=>(hx.facts s f hl).tr (Tr.of_below hb) rfl (own_below hx.env hb) fun _ _=>rfl⟩
theorem MG {l:List Oper}:HeadInv .any l.toArray n (av l.toArray.size false) :=
 ⟨by simp,fun j oj _ hl=>(by rw [getD_replicate_false] at hl;cases hl),fun t _ ht=>getD_in (by simpa using ht) (getD_replicate_false _ _)⟩
theorem ahk {l:List Oper}:cnt n (av l.toArray.size false) = n:=by
 unfold cnt;rw [List.countP_eq_length.2 (fun i _=>by rw [getD_replicate_false];rfl),List.length_range]
theorem agc {id:Nat} {lo:List Oper} (n:Nat) {o0:Oper} {s d0:Nat} {f0:F} (hm:P.follows .mixedOrders = true) (h0:lo[0]? = some o0) (ho:o0.op = .move (.tmp s)) (hd:o0.dst = some d0) (hg:o0.guard = none) (hop:dB P kw X0 w0 m Γ o0 ((d0,f0) :: Γ)) (hns:Region.noSelect lo.toArray = true) (hfr:Region.free .any lo.toArray (av lo.toArray.size false) 0 = true) (hrd:(du .any lo.toArray (av lo.toArray.size false)).contains 0 = true) (hn:0 < n) (hnl:n≤lo.length) (hQ:∀ v c a w,Q (.panic c) (Act.put a (some d0) v) w→Q (.panic c) a w) (h:HT P lo.toArray kw X0 w0 m [] Γ (lo.take n) (fun H Γe=>DK2 P kw X0 w0 m lo n Q [0] H Γe∧∃ h1 H',H = h1 :: H'∧h1.d = d0∧h1.f = f0)):CT P kw X0 w0 m Γ (.region id lo.toArray true) Q:=by
 obtain ⟨H,hb,hK,h1,H',hH1,hH2,hH3⟩:=h;simp only [fL,bp] at hK hH1;obtain ⟨k1,k2,k3⟩:=hK;rw [xU] at k2;intro a W hs;refine wp_region_any hm ?_;have hs2:=hs.drawn;have hgo:=hop a _ hs2;have hpos:0 < lo.length:=(aM.1 h0).1;have hrun:∀ w,(execOp a.eval o0).run P w = .ok (.value (a.eval (.tmp s))) w:=fun w=>by simp [execOp,ho]
 unfold oC at hgo;rw [hrun,hd] at hgo;have hmem:0∈du .any lo.toArray (av lo.toArray.size false):=by simpa using hrd
 have hsz:0 < (av lo.toArray.size false).size:=by simpa using hpos
 have hc:=EI hn hsz (getD_replicate_false _ 0);rw [ahk] at hc;have key:=DI hb k1 k2 k3 (n - 1) ((av lo.toArray.size false).setIfInBounds 0 true) (a.put (some d0) (a.eval (.tmp s))) { W with drawn:=W.drawn + 1 } (by omega) (MG.set hmem hn) (fun i hi=>by
  have:i = 0:=by simpa using hi
  subst this;simp [hpos]) (hgo.congr fun t=>by
   subst hH1;unfold yO;have e:((av lo.toArray.size false).setIfInBounds 0 true).getD 0 false = true:=by simp [hpos]
   rw [if_pos e,hH2,hH3];refine xX fun j h hj hl=>?_
   exfalso;rw [getD_set_ne false (by omega),getD_replicate_false] at hl;cases hl)
 have hfu:lo.toArray.size = (n - 1 + (lo.length - n)) + 1:=by simp;omega
 rw [hfu];rw [← hfu];have:=wpAny_take (P:=P) (md:=.any) (Q:=Q) (i:=0) (oi:=o0) (v:=a.eval (.tmp s)) (fuel:=n - 1 + (lo.length - n)) (listed:=av lo.toArray.size false) (a:=a) (w:={ W with drawn:=W.drawn + 1 }) (by simpa using h0) hns hfr hrd (fun c a w h=>hQ _ c a w (by rw [hd] at h;exact h)) (.inl ⟨by simp [eh,hg],hrun⟩) (by rw [hd];exact key);rw [← hfu] at this;exact this
variable {l:Nat}
theorem Wu {row:String} {args:Array Value} {w:World} {R:Value→World→Prop} (h:Rows P row args w R):RowsIn bq n P row args w R:=fun c cs _ =>
 let ⟨v,w',h1,h2⟩:=h c cs
 ⟨v,w',h1,stepsIn_wide.2 h2⟩
theorem TG {o:Oper} {K:Act→World→Prop} (hd:∀ c,o.op≠.defer c) (h:o.wp P a W K Q):o.wpIn (bq.inRound l) n P a W K Q:=by
 refine ⟨fun _ _=>trivial,?_⟩;rw [Oper.semAt_plain _ _ _ hd];unfold Oper.wp at h;revert h;cases (execOp a.eval o).run P W with
 | halt x w1=>cases x <;> exact fun h=>h
 | ok nx w1 =>
  cases nx <;> first | exact fun h=>h | skip
  case enter f args=>exact fun h=>⟨fun e=>by simp [bq] at e,CallsIn.inRound l (callsIn_wide.2 h)⟩
  case row row args=>exact fun h=>⟨fun e=>by simp [bq] at e,(Wu h:RowsIn bq (n - 1) P row args w1 _)⟩
  case round=>exact fun h=>h.elim
theorem aa0 {K K':Act→World→Prop} (hd:∀ (i:Nat) (o:Oper),ops[i]? = some o→∀ c,o.op≠.defer c) (hQ:¬ LetsOut Q) (hk:∀ a w,K a w→K' a w) (h:wpOp P ops Q i K a W):wpOpIn (bq.inRound l) n P ops Q i K' a W:=by
 unfold wpOp at h;unfold wpOpIn;cases ho:ops[i]? with
 | none=>simp only [ho] at h ⊢;exact hk _ _ h
 | some o =>
  simp only [ho] at h ⊢
  split
  · rename_i hw;rw [if_pos hw] at h;rcases h with h | h
    · exact Oper.wpIn_mono hk (TG (hd i o ho) h)
    · exact absurd h.2 hQ
  · rename_i hw;rw [if_neg hw] at h;exact ⟨fun _ _=>trivial,hk _ _ h⟩
theorem Nj (hd:∀ (i:Nat) (o:Oper),ops[i]? = some o→∀ c,o.op≠.defer c) (hQ:¬ LetsOut Q):∀ (fuel:Nat) (listed:Array Bool) (a:Act) (W:World),wpAny P .any ops Q fuel listed a W→wpAnyIn (bq.inRound l) n P .any ops Q fuel listed a W
 | 0,listed,a,W,h=>h
 | fuel + 1,listed,a,W,h=>⟨h.1,fun i hi=>aa0 hd hQ (fun a w h=>Nj hd hQ fuel _ a w h) (h.2 i hi)⟩
theorem Dp (hQ:¬ LetsOut Q):∀ (lo:List Oper) (a:Act) (W:World),(∀ o∈lo,∀ c,o.op≠.defer c)→wpList P ops Q lo a W→wpListIn (bq.inRound l) n P ops Q lo a W
 | [],a,W,_,h=>h
 | o :: lo,a,W,hd,h=>by
  unfold wpList at h;unfold wpListIn
  split
  · rename_i hw;rw [if_pos hw] at h;rcases h with h | h
    · exact Oper.wpIn_mono (fun a w h=>Dp hQ lo a w (fun o ho=>hd o (fg _ ho)) h) (TG (hd o (List.mem_cons_self ..)) h)
    · exact absurd h.2 hQ
  · rename_i hw;rw [if_neg hw] at h;exact ⟨fun _ _=>trivial,Dp hQ lo _ W (fun o ho=>hd o (fg _ ho)) h⟩
theorem ad4 {id:Nat} {lo:List Oper} (hQ:¬ LetsOut Q) (hd:∀ o∈lo,∀ c,o.op≠.defer c) (h:fK P lo.toArray kw X0 w0 m Γ lo Q) (hs:FSq kw X0 w0 m Γ a W):(fY id lo.toArray false).wpIn (bq.inRound l) n P Q a W :=
 wpIn_region_lit (Dp hQ lo a W hd (h a W hs))
theorem aeT {id:Nat} {lo:List Oper} (k:Nat) (hk:k≤lo.length) (hm:P.follows .mixedOrders = true) (hQ:¬ LetsOut Q) (hd:∀ o∈lo,∀ c,o.op≠.defer c) (h:HT P lo.toArray kw X0 w0 m [] Γ (lo.take k) (DK2 P kw X0 w0 m lo k Q [])) (hs:FSq kw X0 w0 m Γ a W):(fY id lo.toArray true).wpIn (bq.inRound l) n P Q a W:=by
 obtain ⟨H,hb,hK⟩:=h;simp only [fL,bp] at hK;obtain ⟨k1,k2,k3⟩:=hK;rw [xU] at k2;refine wpIn_region_any hm (Nj (fun i o ho=>hd o (aL (by simpa using ho))) hQ _ _ _ _ ?_);have:=DI hb k1 k2 k3 k _ a { W with drawn:=W.drawn + 1 } ahk MG (fun i hi=>by cases hi) (hs.drawn.congr fun s=>xX fun j h hj hl=>by
  rw [getD_replicate_false] at hl;cases hl)
 rw [show k + (lo.length - k) = lo.length by omega] at this;simpa using this
end
theorem Qd:AC aD true 238 [.list 4 [af 0],vI 2] (.own 4 [af 0,af 0]):=by
 refine aix 48 Tryz.func238 (k:=go 0 [[0,0,1],[3,0,1,4],[6,0,1,4,10],[7]] (k:=q (aI (n:=1)) (q (wI (z:=1) Tryz.underlying3 Tryz.underlying172) (q aC (q (wI (z:=2) Tryz.underlying3 Tryz.underlying172) (q (a_call eN ((adg 2 (by decide)))) (go 1 [[5,0,4,5,6],[7]] (k:=fD (h:=aC) (k:=cZ 24 (h:=iT) (k:=go 1 [[1,0,4,6,26],[7]] (k:=q (wI (z:=2) Tryz.underlying172 Tryz.underlying3) (q (BV (n:=2) (p:=2) (q:=2) aW rfl rfl (by decide)) ?_))))))))))));simp only [de];refine go 1 [[1,0,4,7],[3]] (k:=?_);refine Yo (fun a W h=>h.YZ (s:=7) (g:=900) rfl rfl rfl (by decide)) fun v900=>q aC (q aC ?_)
 refine sq (fun a W h=>h.ahy (s:=31) (g:=900) rfl rfl) (q (ac3 (q:=1) (es:=[dR,dR]) (ds:=[af 0]) 900 0 Tryz.underlying25 (by kernel_rfl) (by decide) rfl (by simp) (by decide) rfl (by intro x hx;simp at hx;rcases hx with rfl | rfl | rfl <;> rfl) (es':=[af 0,dR]) (hr:=rfl)) (go 1 [[1,4,7,8,900],[3]] (k:=Gz 40 (xw (go 0 [[5]] (k:=q (Gj 900) (go 1 [[1,4,7,8,37,900],[5]] (k:=agc 7 mixed rfl rfl rfl rfl (aC) (by kernel_rfl) (by kernel_rfl) (by kernel_rfl) (by decide) (by decide) (fun _ _ _ _ h=>h) ?_))))))));refine go 3 [[3]] (k:=PS (j:=1) (es:=[af 0,dR]) 900 rfl (by decide) (ct:=go 3 [[2]] (k:=Qg (j:=1) (es:=[af 0,dR]) 900 rfl (by decide) (ct:=?_))));refine Ac ⟨⟨by kernel_rfl,rfl,?_⟩,_,_,rfl,rfl,rfl⟩;refine q (YD (i:=1) (q:=1) (es:=[af 0,dR]) 900 1 Tryz.underlying25 (by kernel_rfl) (by decide) (by decide) (by decide) rfl (es':=[af 0,af 0]) (hr:=rfl)) (q (Bz (z:=2)) (go 1 [[1,4,7,8,900],[1]] (k:=A7 (xw (go 0 [[5]] (k:=q (Gj 900) (go 1 [[1,4,7,8,37,900],[6,4,7,900],[5]] (k:=?_))))))));exact sq (fun a W h=>h.Tz (s:=4) (g:=900) rfl rfl rfl rfl (by decide)) (gU [4] (k:=aT (lT KZ)))
theorem yC:AC aD true 222 [vI 2] (.own 4 [af 0,af 0]):=by
 refine aix 7 Tryz.func222 (k:=go 0 [[0,0],[3,0,2],[3]] (k:=q (a_call eN ((yR (n:=0) (by decide) (by decide)).eq (congrArg (fun z=>F.dat (af z)) (show ((0:Int):Rat) = (0:Rat) by decide +kernel)))) ?_));exact q (jM (xs:=[.tmp 3]) (es:=[af 0]) aW) (q aC (q (a_call eN (Qd)) (go 1 [[1,2],[2]] (k:=KZ))))
theorem zN:AC aD true 222 [vI 2] (.own 4 [af 0,af 0]):=yC
theorem Qh:AC aD true 238 [.list 4 [af 0],vI 3] (.own 4 [af 0,af 0,af 0]):=by
 refine aix 48 Tryz.func238 (k:=go 0 [[0,0,1],[3,0,1,4],[6,0,1,4,10],[7]] (k:=q (aI (n:=1)) (q (wI (z:=1) Tryz.underlying3 Tryz.underlying172) (q aC (q (wI (z:=3) Tryz.underlying3 Tryz.underlying172) (q (a_call eN ((adg 3 (by decide)))) (go 1 [[5,0,4,5,6],[7]] (k:=fD (h:=aC) (k:=cZ 24 (h:=iT) (k:=go 1 [[1,0,4,6,26],[7]] (k:=q (wI (z:=3) Tryz.underlying172 Tryz.underlying3) (q (BV (n:=3) (p:=3) (q:=3) aW rfl rfl (by decide)) ?_))))))))))));simp only [de];refine go 1 [[1,0,4,7],[3]] (k:=?_);refine Yo (fun a W h=>h.YZ (s:=7) (g:=900) rfl rfl rfl (by decide)) fun v900=>q aC (q aC ?_)
 refine sq (fun a W h=>h.ahy (s:=31) (g:=900) rfl rfl) (q (ac3 (q:=1) (es:=[dR,dR,dR]) (ds:=[af 0]) 900 0 Tryz.underlying25 (by kernel_rfl) (by decide) rfl (by simp) (by decide) rfl (by intro x hx;simp at hx;rcases hx with rfl | rfl | rfl <;> rfl) (es':=[af 0,dR,dR]) (hr:=rfl)) (go 1 [[1,4,7,8,900],[3]] (k:=Gz 40 (xw (go 0 [[5]] (k:=q (Gj 900) (go 1 [[1,4,7,8,37,900],[5]] (k:=agc 7 mixed rfl rfl rfl rfl (aC) (by kernel_rfl) (by kernel_rfl) (by kernel_rfl) (by decide) (by decide) (fun _ _ _ _ h=>h) ?_))))))));refine go 3 [[3]] (k:=PS (j:=1) (es:=[af 0,dR,dR]) 900 rfl (by decide) (ct:=go 3 [[2]] (k:=Qg (j:=1) (es:=[af 0,dR,dR]) 900 rfl (by decide) (ct:=?_))));refine Ac ⟨⟨by kernel_rfl,rfl,?_⟩,_,_,rfl,rfl,rfl⟩;refine q (YD (i:=1) (q:=1) (es:=[af 0,dR,dR]) 900 1 Tryz.underlying25 (by kernel_rfl) (by decide) (by decide) (by decide) rfl (es':=[af 0,af 0,dR]) (hr:=rfl)) (q (Bz (z:=2)) (go 1 [[1,4,7,8,900],[1]] (k:=A7 (xw (go 0 [[5]] (k:=q (Gj 900) (go 1 [[1,4,7,8,37,900],[5]] (k:=agc 7 mixed rfl rfl rfl rfl (aC) (by kernel_rfl) (by kernel_rfl) (by kernel_rfl) (by decide) (by decide) (fun _ _ _ _ h=>h) ?_))))))));refine go 3 [[3]] (k:=PS (j:=2) (es:=[af 0,af 0,dR]) 900 rfl (by decide) (ct:=go 3 [[2]] (k:=Qg (j:=2) (es:=[af 0,af 0,dR]) 900 rfl (by decide) (ct:=?_))));refine Ac ⟨⟨by kernel_rfl,rfl,?_⟩,_,_,rfl,rfl,rfl⟩;refine q (YD (i:=2) (q:=1) (es:=[af 0,af 0,dR]) 900 2 Tryz.underlying25 (by kernel_rfl) (by decide) (by decide) (by decide) rfl (es':=[af 0,af 0,af 0]) (hr:=rfl)) (q (Bz (z:=3)) (go 1 [[1,4,7,8,900],[1]] (k:=A7 (xw (go 0 [[5]] (k:=q (Gj 900) (go 1 [[1,4,7,8,37,900],[6,4,7,900],[5]] (k:=?_))))))));exact sq (fun a W h=>h.Tz (s:=4) (g:=900) rfl rfl rfl rfl (by decide)) (gU [4] (k:=aT (lT KZ)))
theorem yz:AC aD true 222 [vI 3] (.own 4 [af 0,af 0,af 0]):=by
 refine aix 7 Tryz.func222 (k:=go 0 [[0,0],[3,0,2],[3]] (k:=q (a_call eN ((yR (n:=0) (by decide) (by decide)).eq (congrArg (fun z=>F.dat (af z)) (show ((0:Int):Rat) = (0:Rat) by decide +kernel)))) ?_));exact q (jM (xs:=[.tmp 3]) (es:=[af 0]) aW) (q aC (q (a_call eN (Qh)) (go 1 [[1,2],[2]] (k:=KZ))))
theorem Zf:AC aD true 222 [vI 3] (.own 4 [af 0,af 0,af 0]):=yz
def BO (c:Nat→Nat→Value) (j:Nat):Value:=.agg #[c j 0,c j 1,c j 2,c j 3]
def rIx {len:Nat} (h:0 < len) (j:Nat):Fin len:=⟨len - 1 - j,by omega⟩
section
attribute [local go_sem] Oper.semAt_some
theorem U9 (F:Fence) (n:Nat) (h8:F.fn 151) (hro:F.round = none) (hn:1≤n) (l Bs n₀:Nat) (b o len cap:Nat) (c:Nat→Nat→Value) (hl:len≤1000000) (hb:b < n₀) (h0n:0 < len) (J Jx:List (Fin len)→World→Prop) (hY:∀ pre x W,J pre W→pre.length < len→YieldAt F (n - 1) aD l #[.int .i64 ((x.1:Nat):Int),BO c x.1] W fun e W' =>
 (e = .returned (.bool true)∧J (pre ++ [x]) W'∧IU n₀ Bs W W')∨(e = .returned (.bool false)∧Jx (pre ++ [x]) W')) (W:World) (hBs:W.cell? ⟨Bs,0,none⟩ = some (.slice (some ⟨b,o,none⟩) len cap)) (hc:∀ j i,j < len→i < 4→W.cell? ⟨b,o + j * 4 + i,none⟩ = some (c j i)) (h0:J [] W) :
 CallsIn F n aD 151 #[.func (.yield l) #[] #[],.pointer (some ⟨Bs,0,none⟩)] W fun e W'=>(∃ v,e = .returned v) ∧
  ((∃ ys,ys = ng (rIx h0n) len∧J ys W')∨(∃ pre,(∃ k,k≤len∧pre = ng (rIx h0n) k)∧Jx pre W')):=by
 refine callsIn_of_wp Tryz.func151 rfl h8 ?_ hro;simp only [Tryz.ntmps151,ck,bR,cV,dt,dr,bB,bA,cw,cg,bp,bX]
 gi_wp2
 gi_loopw [3] (fun i wr=>∃ k:Nat,k≤len∧i = .int .i64 ((k:Int) - 1)∧J (ng (rIx h0n) (len - k)) wr∧IU n₀ Bs W wr)
  (fun i _=>(intOf i + 1).toNat)
 case atStart=>exact ⟨len,a6 _,rfl,by rw [Nat.sub_self];exact h0,IU.refl _ _ _⟩
 case round =>
  obtain ⟨k,hk,rfl,hJs,hnx⟩:=hrel;have hbx:wr.cell? ⟨Bs,0,none⟩ = some (.slice (some ⟨b,o,none⟩) len cap):=hnx.2.trans hBs
  by_cases hlt:0 < k
  ·
   have hcell:∀ i,i < 4→wr.cell? ⟨b,o + (k - 1) * 4 + i,none⟩ = some (c (k - 1) i):=fun i hi=>(hnx.1.cell (p:=⟨b,o + (k - 1) * 4 + i,none⟩) hb).trans (hc _ _ (by omega) hi)
   have hc0:=hcell 0 (by omega);have hc1:=hcell 1 (by omega);have hc2:=hcell 2 (by omega);have hc3:=hcell 3 (by omega);clear hcell;rw [eZ] at hc0;obtain ⟨fn,tmps,assign,body,hy,hR⟩:=hY _ (rIx h0n (len - k)) wr hJs (by rw [zM];omega);have e1:(rIx h0n (len - k)).1 = k - 1:=by simp [rIx];omega
   rw [e1] at hy;unfold BO at hy;generalize c (k - 1) 0 = x0 at hc0 hy;generalize c (k - 1) 1 = x1 at hc1 hy;generalize c (k - 1) 2 = x2 at hc2 hy;generalize c (k - 1) 3 = x3 at hc3 hy;have e3:((k - 1:Nat):Int) = (k:Int) - 1:=by omega
   rw [e3] at hy;have hi1:((k:Int) - 1).toNat = k - 1:=by omega
   have hm0:(0:Int)≤(k:Int) - 1:=by omega
   have hm1:(k:Int) - 1 < (len:Int):=by omega
   rw [← zt,show len - k + 1 = len - (k - 1) by omega] at hR
   gi_wp2
   refine hR.mono ?_;rintro e W3 (⟨rfl,hJ3,hk3⟩ | ⟨rfl,hJx3⟩)
   · gi_wp2
     go_roundw
     case rel=>exact ⟨k - 1,by omega,by congr 1;omega,hJ3,hnx.trans hk3⟩
     case measure=>simp [intOf];omega
   · gi_wp2
     refine bodyPost_ret (results_none rfl _ _ _) rfl ?_;exact ⟨⟨_,rfl⟩,.inr ⟨_,⟨len - (k - 1),by omega,rfl⟩,hJx3⟩⟩
  · obtain rfl:k = 0:=by omega
    gi_wp2
    go_end0
    exact ⟨⟨_,rfl⟩,.inl ⟨_,rfl,hJs⟩⟩
theorem Xp (F:Fence) (n:Nat) (h6:F.fn 102) (hro:F.round = none) (a:Option Addr) (len cap:Nat) (w:World) :
 CallsIn F n aD 102 #[.slice a len cap] w fun e w'=>e = .returned (.func (.func 151) #[] #[.pointer (some ⟨w.heap.size,0,none⟩)])∧w' = w.alloc (.cells #[.slice a len cap] 25):=by
 refine callsIn_of_wp Tryz.func102 rfl h6 ?_ hro;simp only [Tryz.ntmps102,ck,bR,cV,dt,dr,bB,bA,cw,cg,bp,bX]
 gi_wp2
 go_ret
 exact ⟨rfl,rfl⟩
theorem MJ (F:Fence) (n:Nat) (h8:F.fn 151) (hro:F.round = none) (hn:1≤n) (Bs n₀ b o len cap:Nat) (c:Nat→Nat→Value) (hl:len≤1000000) (h0n:0 < len) (hb:b < n₀) (w:World) (hBs:Bs < w.heap.size) (hn₀:n₀≤w.heap.size) (hBc:w.cell? ⟨Bs,0,none⟩ = some (.slice (some ⟨b,o,none⟩) len cap)) (hc:∀ j i,j < len→i < 4→w.cell? ⟨b,o + j * 4 + i,none⟩ = some (c j i)) :
 SeqStopsK F n aD 151 #[.pointer (some ⟨Bs,0,none⟩)] (fun x:Fin len=>#[cF .i64 ((x.1:Nat):Int),BO c x.1]) (IU n₀ Bs) (fun ys=>ys = ng (rIx h0n) len)
  (fun pre=>∃ k,k≤len∧pre = ng (rIx h0n) k) len w:=fun l J Jx W hW _ _ hY h0=>by
 have hc':=(hW.cell (p:=⟨Bs,0,none⟩) hBs).trans hBc;exact U9 F n h8 hro hn l Bs n₀ b o len cap c hl hb h0n J Jx hY W hc' (fun j i hj hi=>(hW.cell (p:=⟨b,o + j * 4 + i,none⟩) (by show b < w.heap.size;omega)).trans (hc j i hj hi)) h0
end
def jv (q:Rat):Bool:=decide (q.num.natAbs < 4294967296) && decide (q.den < 4294967296)
def oV (l:List Rat) (x:Rat):Rat:=l.foldr (fun c r=>r * x + c) 0
def Js (x:Rat) (s:List Rat):Rat:=s.foldl (fun r c=>r * x + c) 0
def OV (l:List Rat) (x:Rat):Nat→Rat→Bool
 | 0,_=>true
 | n + 1,r=>jv r && jv (r * x) && l.all fun c=>OV l x n (r * x + c)
def ad7 (l:List Rat) (x:Rat):Bool:=!l.isEmpty && decide (l.length≤1000000) && jv x && l.all jv && OV l x l.length 0
abbrev EX:XS:=fun _ _=>False
mutual
theorem aU.ku {X X':XS} {W W':World} (k:kE W W'):∀ (d:D) (cs:List Value),d.Ah = true→aU true X W d cs→aU true X' W' d cs
 | .val v,cs,_,h=>by unfold aU at h ⊢;exact h
 | .mag x,cs,_,h=>by unfold aU at h ⊢;obtain ⟨e,v,h1,h2⟩:=h;exact ⟨e,v,h1,h2.u k⟩
 | .list _ l,cs,hp,h=>by cases hp
 | .agg l,cs,hp,h=>by unfold aU at h ⊢;exact aF.ku k l cs hp h
theorem aF.ku {X X':XS} {W W':World} (k:kE W W'):∀ (l:List D) (cs:List Value),D.Ah.pureWs l = true→aF true X W l cs→aF true X' W' l cs
 | [],cs,_,h=>by unfold aF at h ⊢;exact h
 | d :: l,cs,hp,h=>by
  unfold aF at h ⊢;unfold D.Ah.pureWs at hp;rw [ao] at hp;obtain ⟨c1,c2,h1,h2,h3⟩:=h;exact ⟨c1,c2,h1,aU.ku k d c1 hp.1 h2,aF.ku k l c2 hp.2 h3⟩
end
def BQ (W:World) (b:Nat) (q:Rat):Prop:=∃ (es:List Value) (t:TypeId),W.heap[b]? = some (.cells es.toArray t (0,0))∧aU true EX W (af q) es
theorem BQ.ku {W W':World} {b:Nat} {q:Rat} (h:BQ W b q) (k:kE W W') (e:∀ o,W.heap[b]? = some o→o.isCells = true→W'.heap[b]? = some o):BQ W' b q:=by
 obtain ⟨es,t,h1,h2⟩:=h;exact ⟨es,t,e _ h1 rfl,aU.ku k _ _ rfl h2⟩
theorem BQ.below {W W':World} {b:Nat} {q:Rat} (h:BQ W b q) (k:Below W.heap.size W W'):BQ W' b q :=
 h.ku (kE.of k (a6 _)) fun o ho _=>by rw [k.block b (ar.1 ho).1];exact ho
def B4 (W:World) (b:Nat):Prop:=∃ (es:List Value) (t:TypeId),W.heap[b]? = some (.cells es.toArray t (0,0))∧es.length = 4∧∀ v∈es,∀ i,v≠.int .u32 i
section
variable {P:Program} {ops:Array Oper} {kw:Bool} {X0:XS} {w0:World} {m:Nat} {Γ Γ':fA} {a a':Act} {W W':World} {X X':XS} {Ow Ow':Nat→Option Nat} {o:Oper} {d s:Nat}
theorem afK {T g:Nat} {p:Value} {e:D} (ho:o.op = .load T (.tmp s)) (hd:o.dst = some d) (hdm:d < m) (hn:aB Γ d = true) (ti:TI P T e.width e.isAgg) (hl:lk Γ s = some (.dat (.val p))) (hg:lk Γ g = some (.aan p (.ptr e))):dB P kw X0 w0 m Γ o ((d,.dat e) :: Γ) :=
 bK hd hdm hn rfl fun a W X Ow hs=>by
  have h:=hs.facts g _ hg;unfold ah at h;unfold ah at h;obtain ⟨b,o',es,h1,h2,h3⟩:=h;have h1':a.eval (.tmp s) = .pointer (some ⟨b,o',none⟩):=(hs.fs.val hl).trans h1;exact ⟨D.mk e es,by simp only [execOp,ho,h1',iU ti h3.len width_one (fun j v hj=>(h2 j v hj).2),rO,bw,a8,bs],by unfold ah;exact ⟨es,h3,rfl⟩⟩
theorem ait {T:Nat} {p:Value} {e:D} {l:List Oper} {acc:List Hd} {K:List Hd→fA→Prop} (g:Nat) (cont:HT P ops kw X0 w0 m (⟨[(s,.dat (.val p)),(g,.aan p (.ptr e))],d,.dat e,false⟩ :: acc) ((d,.dat e) :: Γ) l K) (ti:TI P T e.width e.isAgg) (ho:o.op = .load T (.tmp s):=by rfl) (hG:o.guard = none:=by rfl) (hd:o.dst = some d:=by rfl) (hdm:d < m:=by decide) (hl:lk Γ s = some (.dat (.val p)):=by rfl) (hg:lk Γ g = some (.aan p (.ptr e)):=by rfl):HT P ops kw X0 w0 m acc Γ (o :: l) K :=
 HT.cons (h:=⟨[(s,.dat (.val p)),(g,.aan p (.ptr e))],d,.dat e,false⟩) rfl hd (fun Γ h hn'=>(afK ho hd hdm hn' ti h.1 h.2.1).g hG) ⟨hl,hg,trivial⟩ cont
def abn (kw:Bool) (X:XS) (W:World) (tm:Nat→Value):fA→Prop
 | []=>True
 | (s,f) :: Γ=>ah kw X W (fun _=>none) tm s f∧abn kw X W tm Γ
theorem abn.lk {tm:Nat→Value}:∀ {Γ:fA},abn kw X W tm Γ→∀ s f,Go.Proofs.YtjdakpfhjlhcbaaGreat.lk Γ s = some f→ah kw X W (fun _=>none) tm s f
 | [],_,_,_,h=>by cases h
 | (s',f') :: Γ,h,s,f,hl=>by
  unfold Go.Proofs.YtjdakpfhjlhcbaaGreat.lk at hl
  split at hl
  · rename_i e;injection hl with hl;rw [← hl,← e];exact h.1
  · exact h.2.lk s f hl
theorem KN (hX:∀ b o,X b o→b < W.heap.size) (h1:a.tmps.size = m) (h2:a.defers = []) (hf:abn kw X W (bY a) Γ):FSq kw X W m Γ a W :=
 ⟨h1,h2,Below.refl _ _,hX,X,fun _=>none,⟨fun _ _ h=>h,fun _ _ h=>.inl h,fun _ _ _ h=>(by cases h),fun _ _ h=>(by cases h)⟩,hf.lk⟩
theorem Qb {v:Value} {b:Nat} {q:Rat} (h:BQ W b q) (hv:v = .pointer (some ⟨b,0,none⟩)) {tm:Nat→Value} (ht:tm s = v):ah true EX W (fun _=>none) tm s (.ptr (af q)):=by
 obtain ⟨es,t,h1,h2⟩:=h;unfold ah;exact ⟨b,0,es,ht.trans hv,fun j u hj=>⟨fun h=>h,by rw [aR,bW h1];exact hj⟩,h2⟩
theorem FV (vs:List Value):∀ (b o:Nat) (W:World),KeepsOthers W (W.setCells b o vs):=by
 induction vs with
 | nil=>exact fun b o W=>KeepsOthers.refl W
 | cons v vs ih=>exact fun b o W=>(KeepsOthers.setCell W _ v).trans (ih _ _ _)
theorem DF (h:Below W.heap.size W W'):KeepsOthers W W':=⟨h.size,fun k o hk _=>by rw [h.block k (ar.1 hk).1];exact hk⟩
theorem D6 {b:Nat} {es vs:List Value} {t:TypeId} (h:W.heap[b]? = some (.cells es.toArray t (0,0))) (hle:vs.length≤es.length) (hu:∀ v∈es,∀ i,v≠.int .u32 i):kE W (W.setCells b 0 vs):=fun p k hp=>by
 obtain ⟨w1,w2,w3⟩:=jr vs b 0 W es t h (by omega)
 by_cases hpb:p.block = b
 · exfalso;have h5:es[p.off]? = some (.int .u32 k):=by
    simp [World.cell?,hpb,h] at hp;simpa using hp.2
   exact hu _ (aL h5) k rfl
 · have:=d9 (w:=W) (w':=W.setCells b 0 vs) (a:=p) (w2 p.block hpb);rw [this];exact hp
theorem Ws {D:Nat} {ob o':Obj} (h:W.heap[D]? = some ob) (hc:ob.isCells = false):kE W (W.putObj D o'):=fun p k hp=>by
 have hpb:p.block≠D:=fun e=>by
  obtain ⟨o2,ho,hc2⟩:=cells_of_cell hp;rw [e,h] at ho;injection ho with ho
  rw [← ho,hc] at hc2;cases hc2
 have:=d9 (w:=W) (w':=W.putObj D o') (a:=p) (by simp [World.putObj,eI,fS hpb]);rw [this];exact hp
theorem Xf {row:Option Nat} (hg:W.grownBy W' row) (hr:∀ r,row = some r→∃ o:Obj,W.heap[r]? = some o∧o.isCells = false):kE W W':=fun p i h=>cell_kept h hg hr
end
theorem IJ (x:Rat) (s:List Rat) (c:Rat):Js x (s ++ [c]) = Js x s * x + c:=by simp [Js]
theorem Xu (l:List Rat) (x:Rat):Js x l.reverse = oV l x:=by simp [Js,oV,List.foldl_reverse]
theorem UZ (l:List Rat) (h:0 < l.length):(ng (rIx h) l.length).map (fun i=>l[i]) = l.reverse:=by
 apply List.ext_getElem
 · simp [ng]
 · intro j h1 h2;simp [ng,rIx] at h1 ⊢
def vW (es:List Value) (j i:Nat):Value:=es.getD (j * 4 + i) undef
theorem four {es:List Value} {j:Nat} (h:j * 4 + 4≤es.length):(es.drop (j * 4)).take 4 = [vW es j 0,vW es j 1,vW es j 2,vW es j 3]:=by
 have e:∀ i,i < 4→es[j * 4 + i]? = some (vW es j i):=fun i hi=>by
  rw [vW,dk,aw (by omega)];rfl
 apply List.ext_getElem?;intro i;rw [cj,eB];rcases eC i 4 with hi | hi
 · rw [if_pos hi,e i hi];have:i = 0∨i = 1∨i = 2∨i = 3:=by omega
   rcases this with rfl | rfl | rfl | rfl <;> rfl
 · rw [if_neg (by omega),ff (by simpa using hi)]
def p0 (b:Nat):Value:=.pointer (some ⟨b,0,none⟩)
theorem afz {l:List Rat} {x:Rat} (h:ad7 l x = true):AC aD true 53 [.list 4 (l.map af),af x] (.dat (af (oV l x))):=by
 simp only [ad7,ao,Bool.not_eq_true',decide_eq_true_eq] at h;obtain ⟨⟨⟨⟨h1,h2⟩,h3⟩,h4⟩,h5⟩:=h;have hne:l≠[]:=by intro e;subst e;simp at h1
 have hpos:0 < l.length:=fk.2 hne;have hlr:∀ i:Fin l.length,Rb l[i]:=fun i=>EZ (aq.1 h4 _ (fN _))
 refine AC.oD fun X w vs hX hr=>?_
 match vs,hr with
 | [v0,v1],hr =>
 obtain ⟨r0,r1,-⟩:=hr;have hne':l.map af≠[]:=by simpa using hne
 obtain ⟨A,cap,rfl,hcap,hwd,hL⟩:=jm r0;obtain ⟨b,o,es,rfl,hes,hat,hreps⟩:=hL hne';rw [fW] at hes hcap;simp only [fW];obtain ⟨c,hc⟩:∃ c,c = vW es:=⟨_,rfl⟩;have hbw:b < w.heap.size:=by
  have:=hat 0 (vW es 0 0) (by
   rw [vW,dk,aw (show 0 * 4 + 0 < es.length by omega)];simp)
  exact World.block_lt_of_cell? w _ this.2
 have hcell:∀ j i,j < l.length→i < 4→w.cell? ⟨b,o + j * 4 + i,none⟩ = some (c j i):=fun j i hj hi=>by
  have:=hat (j * 4 + i) (vW es j i) (by
   rw [vW,dk,aw (show j * 4 + i < es.length by omega)];rfl)
  rw [hc,Nat.add_assoc];exact this.2
 have hel:∀ j:Fin l.length,aU true EX w (af l[j]) [c j 0,c j 1,c j 2,c j 3]:=fun j=>by
  have:=aF.nth hreps hwd (i:=j.1) (d:=af l[j]) (by simp);rw [four (by have:=j.2;omega),← hc] at this;exact aU.ku (kE.refl _) _ _ rfl this
 refine (callsIn_wide (n:=4)).1 (callsIn_of_wp_marks Tryz.func53 rfl trivial (wpIn_wide.2 ?_) rfl);have hv0:(eW (some ⟨b,o,none⟩) l.length cap).oneCell' = true:=rfl;generalize hVv:eW (some ⟨b,o,none⟩) l.length cap = V0 at hv0;simp only [Tryz.ntmps53,ck,bR,cV,dt,dr,bB,bA,cw,cg,bp,bX];refine ((go 0 [[4,0,3,4],[3]] (k:=q (a_call eN ((yR (n:=0) (by decide) (by decide)).eq (R':=.dat (af 0)) (congrArg (fun z=>F.dat (af z)) (show ((0:Int):Rat) = 0 by decide +kernel)))) ?_)):CT aD true X w 19 [(0,.dat (.val V0)),(1,.dat (af x))] _ _) _ _ (KN hX rfl rfl ⟨by unfold ah;exact dh hv0,by unfold ah;exact r1,trivial⟩);refine go 1 [[2,0,3,4,5],[5]] (k:=?_);intro a W hs;obtain ⟨X1,Ow,hx⟩:=hs.x;have e9:a.eval (.tmp 9) = V0:=hs.val rfl;have f3:=hx.facts 3 _ rfl;have f4:=hx.facts 4 _ rfl;have f5:=hx.facts 5 _ rfl;unfold ah at f3 f4 f5;obtain ⟨b3,es3,t3,o3,e3,g3,q3,-⟩:=f3;obtain ⟨b4,es4,t4,o4,e4,g4,q4,-⟩:=f4;obtain ⟨b5,es5,t5,o5,e5,g5,q5,-⟩:=f5;have n34:b3≠b4:=fun e=>absurd (hx.env.inj 3 4 b3 o3 (e ▸ o4)) (by decide)
 have n35:b3≠b5:=fun e=>absurd (hx.env.inj 3 5 b3 o3 (e ▸ o5)) (by decide)
 have n45:b4≠b5:=fun e=>absurd (hx.env.inj 4 5 b4 o4 (e ▸ o5)) (by decide)
 obtain ⟨r3,-⟩:=hx.env.wS 3 b3 o3;obtain ⟨r4,-⟩:=hx.env.wS 4 b4 o4;obtain ⟨r5,r5'⟩:=hx.env.wS 5 b5 o5;have B3:BQ W b3 x:=⟨es3,t3,g3,aU.ku (kE.refl _) _ _ rfl q3⟩;have B5:BQ W b5 0:=⟨es5,t5,g5,aU.ku (kE.refl _) _ _ rfl q5⟩;have B4':B4 W b4:=⟨es4,t4,g4,q4.len,aU.kJ _ _ q4 rfl⟩;have hsz:=hs.size;have hdf:=hs.defs;have hbel:=hs.below;clear q3 q4 q5;have hgo:∀ oo:Oper,oo.op = .call { callee:=.value (.func 102),args:=#[.tmp 9],argTypes:=#[25] }→(execOp a.eval oo).run aD W = .ok (.enter 102 #[V0]) W:=by
  intro oo ho;have:a.tmps.getD 9 undef = V0:=e9;simp [execOp,ho,resolve,cP,dp,invoke,(eN (f:=102)) _ _,this]
 have e3':a.eval (.tmp 3) = p0 b3:=e3;have e4':a.eval (.tmp 4) = p0 b4:=e4;have e5':a.eval (.tmp 5) = p0 b5:=e5;clear hx hs e3 e4 e5 o3 o4 o5;refine wpList_plain rfl fun K hK=>oC.wp ?_
 unfold oC;rw [hgo _ rfl];subst hVv;refine (callsIn_wide.1 (Xp bq 4 trivial rfl (some ⟨b,o,none⟩) l.length cap W)).mono ?_;rintro e W1 ⟨rfl,rfl⟩;refine ⟨_,rfl,hK _ _ ?_⟩;obtain ⟨V0,hV0⟩:∃ V,V = eW (some ⟨b,o,none⟩) l.length cap:=⟨_,rfl⟩;obtain ⟨W1,hW1⟩:∃ W1,W1 = W.alloc (.cells #[.slice (some ⟨b,o,none⟩) l.length cap] 25):=⟨_,rfl⟩;obtain ⟨a1,ha1⟩:∃ a1,a1 = a.put (some 10) (.func (.func 151) #[] #[.pointer (some ⟨W.heap.size,0,none⟩)]):=⟨_,rfl⟩;rw [← hW1,← ha1];have hB1:Below W.heap.size W W1:=by rw [hW1];exact Below.alloc1 W _
 have hs1:W1.heap.size = W.heap.size + 1:=by rw [hW1];simp
 have k3:a1.eval (.tmp 3) = p0 b3:=by rw [ha1,eval_put_ne (by decide)];exact e3'
 have k4:a1.eval (.tmp 4) = p0 b4:=by rw [ha1,eval_put_ne (by decide)];exact e4'
 have k5:a1.eval (.tmp 5) = p0 b5:=by rw [ha1,eval_put_ne (by decide)];exact e5'
 have k10:a1.eval (.tmp 10) = .func (.func 151) #[] #[.pointer (some ⟨W.heap.size,0,none⟩)]:=by rw [ha1];exact kH (by rw [hsz];decide)
 have s1:a1.tmps.size = 19:=by rw [ha1,iZ];exact hsz
 have d1:a1.defers = []:=by rw [ha1,fH];exact hdf
 have hBs:W1.cell? ⟨W.heap.size,0,none⟩ = some (.slice (some ⟨b,o,none⟩) l.length cap):=by rw [hW1];exact (Boxed.new W 25 (.slice (some ⟨b,o,none⟩) l.length cap)).cell
 have hwW:w.heap.size≤W.heap.size:=hbel.size;have hc1:∀ j i,j < l.length→i < 4→W1.cell? ⟨b,o + j * 4 + i,none⟩ = some (c j i):=fun j i hj hi=>(hB1.cell (p:=⟨b,o + j * 4 + i,none⟩) (by show b < W.heap.size;omega)).trans ((hbel.cell (p:=⟨b,o + j * 4 + i,none⟩) hbw).trans (hcell j i hj hi))
 clear hgo ha1 hK;obtain ⟨lq,hlq⟩:∃ lq:Fin l.length→Rat,lq = fun i=>l[i]:=⟨_,rfl⟩
 let I:List (Fin l.length)→World→Prop:=fun pre W'=>(BQ W' b5 (Js x (pre.map lq))∧OV l x (l.length - pre.length) (Js x (pre.map lq)) = true)∧(W1.heap.size≤W'.heap.size∧Below w.heap.size w W')∧BQ W' b3 x∧B4 W' b4
 let Ax:Fin l.length→Act→World→Prop:=fun i a' W'=>(a'.tmps.size = 19∧a'.defers = []∧a'.eval (.tmp 3) = p0 b3∧a'.eval (.tmp 5) = p0 b5)∧∃ b7,a'.eval (.tmp 7) = p0 b7∧BQ W' b7 (lq i)
 have hgr:∀ {A B:World} {row:Option Nat} {b':Nat} {q:Rat},BQ A b' q→A.grownBy B row→(∀ r,row = some r→W1.heap.size≤r∧∃ o:Obj,A.heap[r]? = some o∧o.isCells = false)→BQ B b' q:=fun hb hg hr =>
  hb.ku (Xf hg fun r e=>(hr r e).2) fun o ho hc=>by rw [grownBy_keeps_cells hg (fun r e=>(hr r e).2) ho hc];exact ho
 have hI:OwnFrom W1.heap.size I:=fun s A B row hs hg hr=>by
  obtain ⟨⟨i1,i2⟩,⟨i0,i3⟩,i4,es,t,i5,i6⟩:=hs;refine ⟨⟨hgr i1 hg hr,i2⟩,⟨fX i0 hg.size,i3.grown hg i3.size (fun k e=>by have:=(hr k e).1;omega)⟩,hgr i4 hg hr,es,t,?_,i6⟩;rw [grownBy_keeps_cells hg (fun r e=>(hr r e).2) i5 rfl];exact i5
 refine wp_block ((wpIn_wide (n:=4)).1 (wpIn_rangeFunc_ownH rfl (by decide) k10 trivial (enters_of Tryz.func151 (by kernel_rfl) rfl)
  (MJ bq 3 trivial rfl (by decide) W.heap.size w.heap.size b o l.length cap c h2 hpos hbw W1 (by omega) (by omega) hBs hc1) IU.trans (IU.b (w:=W1) (by omega) (by omega)) (Below.refl _ _) (fun _=>rfl)
  I (fun _ _ _=>False) hI (fun _ _ _ _ _ h _ _=>h.elim) ?i0 Ax ?hAx ?assign ?body ?done ?stop))
 case i0 =>
  have hk:kE W W1:=kE.of hB1 (a6 _);refine ⟨⟨by exact B5.below hB1,by simpa [Js] using h5⟩,⟨a6 _,hbel.trans (hB1.mono hwW)⟩,B3.below hB1,?_⟩;obtain ⟨es,t,i5,i6⟩:=B4';exact ⟨es,t,by rw [hB1.block b4 (ar.1 i5).1];exact i5,i6⟩
 case hAx =>
  intro i a' s A B row hs hg hr;obtain ⟨i1,b7,i2,i3⟩:=hs;exact ⟨i1,b7,i2,hgr i3 hg hr⟩
 case stop=>exact fun D c pre W' _ _ h _=>h.elim
 case assign =>
  intro lp pre i W2 K hI2 hK2;obtain ⟨⟨i1,i2⟩,⟨i0,i3⟩,i4,es2,t2,i5,i6⟩:=hI2;have ha2:({ tmps:=((#[11,12]:Array Tmp).zip #[cF .i64 ((i.1:Nat):Int),BO c i.1]).foldl (fun t (p,v)=>t.setIfInBounds p v) a1.tmps,defers:=[] }:Act) = (a1.put (some 11) (cF .i64 ((i.1:Nat):Int))).put (some 12) (BO c i.1):=by
   simp [Act.put,d1]
  rw [ha2];have hk:kE w W2:=kE.of i3 (a6 _);have u3:((a1.put (some 11) (cF .i64 ((i.1:Nat):Int))).put (some 12) (BO c i.1)).eval (.tmp 3) = p0 b3:=by rw [eval_put_ne (by decide),eval_put_ne (by decide)];exact k3
  have u5:((a1.put (some 11) (cF .i64 ((i.1:Nat):Int))).put (some 12) (BO c i.1)).eval (.tmp 5) = p0 b5:=by rw [eval_put_ne (by decide),eval_put_ne (by decide)];exact k5
  have u12:((a1.put (some 11) (cF .i64 ((i.1:Nat):Int))).put (some 12) (BO c i.1)).eval (.tmp 12) = BO c i.1:=kH (by rw [iZ,s1];decide);have hrd:aU true EX W2 (af (lq i)) [c i 0,c i 1,c i 2,c i 3]:=by rw [hlq];exact aU.ku hk _ _ rfl (hel i)
  generalize hq:lq i = qi at *;refine ad4 (kw:=true) (X0:=EX) (w0:=W2) (m:=19) (Γ:=[(3,.dat (.val (p0 b3))),(5,.dat (.val (p0 b5))),(12,.dat (af qi))]) (by rintro ⟨_,_,h⟩;exact h) (by simp) ?_ (KN (fun _ _ h=>h.elim) (by rw [iZ,iZ];exact s1) (by rw [fH,fH];exact d1) ⟨?_,?_,?_,trivial⟩)
  · refine q nH (q jO ?_);intro a' W' hs';have hb':=hs'.below;have hz:=hb'.size;have ku':kE W2 W':=kE.of hb' (a6 _);refine hK2 a' W' ((DF hb').from _) ⟨hb'.mono (by omega),hb'.cell (p:=⟨W.heap.size,0,none⟩) (by show W.heap.size < _;omega)⟩ ⟨⟨i1.below hb',i2⟩,⟨by omega,i3.trans (hb'.mono i3.size)⟩,i4.below hb',es2,t2,?_,i6⟩ ⟨⟨hs'.size,hs'.defs,hs'.val rfl,hs'.val rfl⟩,?_⟩
    · rw [hb'.block b4 (ar.1 i5).1];exact i5
    · obtain ⟨X1,Ow,hx⟩:=hs'.x;have f7:=hx.facts 7 _ rfl;unfold ah at f7;obtain ⟨b7,es7,t7,o7,e7,g7,q7,-⟩:=f7;exact ⟨b7,e7,es7,t7,g7,by rw [hq];exact aU.ku (kE.refl _) _ _ rfl q7⟩
  · unfold ah;rw [show bY ((a1.put (some 11) (cF .i64 ((i.1:Nat):Int))).put (some 12) (BO c i.1)) 3 = p0 b3 from u3];exact dh rfl
  · unfold ah;rw [show bY ((a1.put (some 11) (cF .i64 ((i.1:Nat):Int))).put (some 12) (BO c i.1)) 5 = p0 b5 from u5];exact dh rfl
  · unfold ah;rw [show bY ((a1.put (some 11) (cF .i64 ((i.1:Nat):Int))).put (some 12) (BO c i.1)) 12 = BO c i.1 from u12];exact ⟨_,hrd,rfl⟩
 case body =>
  intro lp pre i a3 W3 hl3 _ hI3 hA3 hN;obtain ⟨⟨i1,i2⟩,⟨i0,i3⟩,i4,es2,t2,i5,i6⟩:=hI3;obtain ⟨⟨m1,m2,m3,m4⟩,b7,m5,m6⟩:=hA3;generalize hqq:Js x (pre.map lq) = r at *;obtain ⟨n,hn⟩:∃ n,l.length - pre.length = n + 1:=⟨l.length - pre.length - 1,by omega⟩;rw [hn] at i2;simp only [OV,ao] at i2;obtain ⟨⟨j1,j2⟩,j3⟩:=i2;have hri:Rb (lq i):=by rw [hlq];exact hlr i
  have j4:OV l x n (r * x + lq i) = true:=by rw [hlq];exact aq.1 j3 _ (fN _)
  refine wpIn_block (aeT (kw:=true) (X0:=EX) (w0:=W3) (m:=19) (Γ:=[(3,.ptr (af x)),(5,.dat (.val (p0 b5))),(905,.aan (p0 b5) (.ptr (af r))),(7,.ptr (af (lq i)))]) 5 (by decide) mixed (by rintro ⟨_,_,h⟩;exact h) (by simp) ?_ (KN (fun _ _ h=>h.elim) m1 m2 ⟨Qb i4 rfl m3,?_,?_,Qb m6 rfl m5,trivial⟩))
  ·
   simp only [fj,List.take_zero];refine ait 905 ?_ kK;refine go 3 [[1]] (k:=ak eN (QG (EZ j1) (EZ h3)) (ct:=go 3 [[1]] (k:=ak eN (Jw (EZ j2) hri) (ct:=go 3 [[1]] (k:=?_)))));intro a4 W4 hs4;obtain ⟨X1,Ow,hx⟩:=hs4.x;have f17:=hx.facts 17 _ rfl;unfold ah at f17;obtain ⟨c1,c2⟩:=f17.cells;have v5:a4.eval (.tmp 5) = .pointer (some ⟨b5,0,none⟩):=hs4.val rfl;have hb4:=hs4.below;obtain ⟨es,t,g1,g2⟩:=i1;have hlt5:=(ar.1 g1).1;have g1':W4.heap[b5]? = some (.cells es.toArray t (0,0)):=by rw [hb4.block b5 hlt5];exact g1
   have hel5:es.length = 4:=g2.len;have hnu:Qs true es:=fun _ v hv=>aU.kJ _ _ g2 rfl v hv
   obtain ⟨vs,hvs⟩:∃ vs,vs = (bY a4 17).cells.toList:=⟨_,rfl⟩;rw [← hvs] at c1;have hvl:vs.length = 4:=c1.len;have hrun:=lM (P:=aD) (T:=72) (W:=W4) (b:=b5) (o':=0) (es:=vs) (v:=bY a4 17) (k:=4) (by kernel_rfl) hvs.symm hvl (aU.one _ _ c1) g1' (by omega);obtain ⟨w1,w2,w3⟩:=jr vs b5 0 W4 es t g1' (by omega);have ku4:kE W3 W4:=kE.of hb4 (a6 _);have ku5:kE W4 (W4.setCells b5 0 vs):=D6 g1' (by omega) (hnu rfl);have hb5:Below w.heap.size W4 (W4.setCells b5 0 vs):=jD vs 0 W4 r5;refine wpList_plain rfl fun K hK=>oC.wp (sG rfl rfl (by rw [v5];exact hrun) (hK _ _ ?_))
   have ovw4:nV es 0 vs = vs:=by simp [nV,hel5,hvl]
   refine ⟨((DF hb4).trans (FV vs b5 0 W4)).from _,⟨(hb4.mono (by omega)).trans hb5,?_⟩,⟨⟨⟨vs,t,by rw [w1,ovw4],?_⟩,?_⟩,⟨by rw [w3];have:=hb4.size;omega,(i3.trans (hb4.mono i3.size)).trans hb5⟩,?_,es2,t2,?_,i6⟩⟩
   · rw [d9 (w:=W4) (w':=W4.setCells b5 0 vs) (a:=⟨W.heap.size,0,none⟩) (w2 _ (by show W.heap.size≠b5;omega))];exact hb4.cell (p:=⟨W.heap.size,0,none⟩) (by show W.heap.size < _;omega)
   · rw [fT,fw,IJ,hqq];exact aU.ku ku5 _ _ rfl c1
   · rw [fT,fw,IJ,hqq,dj,List.length_singleton,show l.length - (pre.length + 1) = n by omega];exact j4
   · exact i4.ku (ku4.trans ku5) fun o ho hoc=>by
      rw [w2 b3 n35,hb4.block b3 (ar.1 ho).1];exact ho
   · rw [w2 b4 n45,hb4.block b4 (ar.1 i5).1];exact i5
  · unfold ah;rw [show bY a3 5 = p0 b5 from m4];exact dh rfl
  · unfold ah;exact Qb i1 (v:=p0 b5) rfl rfl
 case done =>
  rintro D ys W6 hD rfl ⟨⟨i1,i2⟩,⟨i0,i3⟩,i4,es4',t4',i5,i6,i7⟩ hKD;rw [hlq,UZ,Xu] at i1;obtain ⟨es6,t6,g6,q6⟩:=i1;obtain ⟨mk,hmk⟩:∃ mk:Deferred,mk = { target:=.collected D,args:=#[] }:=⟨_,rfl⟩;rw [← hmk];have z5:({ a1 with defers:=mk :: a1.defers }:Act).eval (.tmp 5) = p0 b5:=k5;have z4:∀ v,(({ a1 with defers:=mk :: a1.defers }:Act).put (some 18) v).eval (.tmp 4) = p0 b4:=fun v=>by rw [eval_put_ne (by decide)];exact k4
  have z18:∀ v,(({ a1 with defers:=mk :: a1.defers }:Act).put (some 18) v).eval (.tmp 18) = v:=fun v=>kH (by show 18 < a1.tmps.size;rw [s1];decide)
  have hld:∀ oo:Oper,oo.op = .load 72 (.tmp 5)→(execOp ({ a1 with defers:=mk :: a1.defers }:Act).eval oo).run aD W6 = .ok (.value ((af (oV l x)).mk es6)) W6:=fun oo ho=>by
   have h1':({ a1 with defers:=mk :: a1.defers }:Act).eval (.tmp 5) = .pointer (some ⟨b5,0,none⟩):=z5;simp only [execOp,ho,h1',iU (show TI aD 72 (af (oV l x)).width (af (oV l x)).isAgg from kK) q6.len width_one (fun j v hj=>by rw [aR,bW g6];exact hj),rO,bw,a8,bs]
  refine wp_seq (wp_region_lit (wpList_plain rfl fun K hK=>oC.wp ?_));unfold oC;rw [hld _ rfl];refine hK _ _ (wpList_plain rfl fun K2 hK2=>oC.wp ?_);have hrun:=lM (P:=aD) (T:=72) (W:=W6) (b:=b4) (o':=0) (es:=es6) (v:=(af (oV l x)).mk es6) (k:=4) (by kernel_rfl) q6.EU q6.len (aU.one _ _ q6) i5 (by omega);obtain ⟨w1,w2,w3⟩:=jr es6 b4 0 W6 es4' t4' i5 (by have:=q6.len;have:(af (oV l x)).width = 4:=rfl;omega);refine sG rfl rfl (by rw [z4,z18];exact hrun) (hK2 _ _ (wp_ret ?_));have hdd:(({ a1 with defers:=mk :: a1.defers }:Act).put (some 18) ((af (oV l x)).mk es6)).defers = [mk]:=by rw [fH,d1]
  have z4':=z4 ((af (oV l x)).mk es6);generalize ({ a1 with defers:=mk :: a1.defers }:Act).put (some 18) ((af (oV l x)).mk es6) = a7 at hdd z4' ⊢;have ovw4:nV es4' 0 es6 = es6:=by have:=q6.len;have h9:(af (oV l x)).width = 4:=rfl;simp [nV,i6,this,h9]
  rw [ovw4] at w1;have hnD:b4≠D:=fun e=>by rw [e,hKD] at i5;cases i5
  have hKD':(W6.setCells b4 0 es6).heap[D]? = some (.deferred (some [])):=by rw [w2 D (fS hnD)];exact hKD
  have g7:((W6.setCells b4 0 es6).putObj D (.deferred none)).heap[b4]? = some (.cells es6.toArray t4' (0,0)):=by
   rw [← w1];simp [World.putObj,eI,fS hnD]
  generalize hW7:(W6.setCells b4 0 es6).putObj D (.deferred none) = W7 at g7;have hl6:es6.length = 4:=q6.len;have ku7:kE W6 W7:=by
   rw [← hW7];exact (D6 i5 (by omega) i7).trans (Ws hKD' rfl)
  have hb7:Below w.heap.size w W7:=by
   rw [← hW7];exact (i3.trans (jD es6 0 W6 r4)).trans (belowK_b (w:=W1) (n₀:=w.heap.size) (by omega) _ D _ _ hD hKD' rfl rfl)
  show LeavesInM _ _ _ _ _ _ a7.defers _ _;rw [hdd,hmk];refine ⟨by simp,.inl ⟨D,_,rfl,run_takeDeferred hKD',?_⟩⟩;rw [hW7];refine ⟨(af (oV l x)).mk es6,?_,hb7,_,rfl,⟨_,aU.ku ku7 _ _ rfl q6,rfl⟩⟩;have:=iU (P:=aD) (W:=W7) (T:=72) (b:=b4) (o':=0) (show TI aD 72 (af (oV l x)).width (af (oV l x)).isAgg from kK) q6.len width_one (fun j v hj=>by rw [aR,bW g7];exact hj);simp only [Instr.loadAt,Instr.sureAddr,bw,bs,a8] at this;have h2':a7.tmps.getD 4 undef = .pointer (some ⟨b4,0,none⟩):=z4';have hres:(do loadVar 72 (← asAddr (a7.tmps.getD 4 undef)):Sem Value).run aD W7 = .ok ((af (oV l x)).mk es6) W7:=by
   simp only [h2',asAddr,bw,bs,a8,this,rO]
  simp [results,Tryz.f53] at hres ⊢;simp [hres]
theorem sq3 {p q:Rat} {b:Bool} (h:(jv p && jv q && b) = true):Rb p∧Rb q∧b = true:=by
 rw [ao,ao] at h;exact ⟨EZ h.1.1,EZ h.1.2,h.2⟩
theorem nT (n:Int) (q:Rat) (h:(decide (-1000≤n) && decide (n≤1000) && decide ((n:Rat) = q)) = true:=by decide +kernel):AC aD true 47 [vI n] (.dat (af q)):=by
 rw [ao,ao] at h;have h1:=of_decide_eq_true h.1.1;have h2:=of_decide_eq_true h.1.2;exact of_decide_eq_true h.2 ▸ yR (n:=n) (by omega) (by omega)
theorem fF (a:Rat) (z:Int) (h:(jv a && jv a && decide (a.num.sign = z)) = true:=by decide +kernel):AC aD true 52 [af a] (.dat (vI z)):=by
 obtain ⟨h1,-,h3⟩:=sq3 h;exact of_decide_eq_true h3 ▸ xu h1
theorem Xx (a c:Rat) (h:(jv a && jv a && decide (-a = c)) = true:=by decide +kernel):AC aD true 50 [af a] (.dat (af c)):=by
 obtain ⟨h1,-,h3⟩:=sq3 h;exact of_decide_eq_true h3 ▸ QM h1
theorem YM (a b c:Rat) (h:(jv a && jv b && decide (a + b = c)) = true:=by decide +kernel):AC aD true 100 [af a,af b] (.dat (af c)):=by
 obtain ⟨h1,h2,h3⟩:=sq3 h;exact of_decide_eq_true h3 ▸ Jw h1 h2
theorem kD (a b c:Rat) (h:(jv a && jv b && decide (a - b = c)) = true:=by decide +kernel):AC aD true 153 [af a,af b] (.dat (af c)):=by
 obtain ⟨h1,h2,h3⟩:=sq3 h;exact of_decide_eq_true h3 ▸ afV h1 h2
theorem iy (a b c:Rat) (h:(jv a && jv b && decide (a * b = c)) = true:=by decide +kernel):AC aD true 103 [af a,af b] (.dat (af c)):=by
 obtain ⟨h1,h2,h3⟩:=sq3 h;exact of_decide_eq_true h3 ▸ QG h1 h2
theorem oQ (a b c:Rat) (h:(jv a && jv b && (decide (b≠0) && decide (a / b = c))) = true:=by decide +kernel):AC aD true 148 [af a,af b] (.bT [af c,vI 0]):=by
 obtain ⟨h1,h2,h3⟩:=sq3 h;rw [ao] at h3;exact of_decide_eq_true h3.2 ▸ Yz h1 h2 (of_decide_eq_true h3.1)
theorem Yu (a b:Rat) (z:Int) (h:(jv a && jv b && decide (QX a b = z)) = true:=by decide +kernel):AC aD true 74 [af a,af b] (.dat (vI z)):=by
 obtain ⟨h1,h2,h3⟩:=sq3 h;exact of_decide_eq_true h3 ▸ YJ h1 h2
theorem pG (l:List Rat) (x r:Rat) (h:(ad7 l x && decide (oV l x = r)) = true:=by decide +kernel):AC aD true 53 [.list 4 (l.map af),af x] (.dat (af r)):=by
 rw [ao] at h;exact of_decide_eq_true h.2 ▸ afz h.1
theorem fV:AC aD true 147 [.list 4 [af 1,af (-6),af 1]] (.grow 4 [af 1,af (-6),af 1]):=by
 exact aix 23 Tryz.func147 (k:=ai 0 [[0,0],[3,0,2],[6,0,2,3],[11]] (k:=fD (h:=aC) (k:=fD (h:=aC) (k:=cZ 10 (h:=eG (z:=2)) (k:=qN 9 11 (h:=dZ (i:=2) (z:=2) (es:=[af 1,af (-6),af 1]) (e:=af 1) rfl rfl) (k:=cZ 12 (h:=fO) (k:=cZ 13 (h:=a_call eN ((fF 1 1))) (k:=cZ 14 (h:=eu) (k:=ai 1 [[1,0,2,3,16],[6,0,2,3],[5]] (k:=q (kR (es:=[af 1,af (-6),af 1]) (z:=3) [af 1,af (-6),af 1] [] rfl rfl) (q (a_call eN (jb (l:=[af 1,af (-6),af 1]) (by simp) (by decide) rfl)) (ai 1 [[1,2],[2]] (k:=qj)))))))))))))
theorem yw:AC aD true 146 [.list 4 [af 1,af (-6),af 1],af 1] (.grow 4 [af 1,af (-6),af 1]):=by
 refine aix 27 Tryz.func146 (k:=ai 0 [[0,0,1],[4,0,3,4],[5]] (k:=q (BV (n:=3) (p:=3) (q:=3) aW rfl rfl (by decide)) (ai 1 [[1,0,3,4,5],[7,3,4,5,11,12,13],[7,3,4,5,11,12,13,14],[15,3,4,5,6,7,11,12,13],[2]] (k:=q (jf) (ai 1 [[3]] (k:=q (a_call eN ((iy 1 1 1))) (ai 1 [[2,3,4,5,11,12,13],[5,3,4,5,11,12,13],[5,3,4,5,11,12,13,14],[15,3,4,5,6,7,11,12,13],[2]] (k:=q (jf) (ai 1 [[3]] (k:=q (a_call eN ((iy (-6) 1 (-6)))) (ai 1 [[2,3,4,5,11,12,13],[5,3,4,5,11,12,13],[5,3,4,5,11,12,13,14],[15,3,4,5,6,7,11,12,13],[2]] (k:=q (jf) (ai 1 [[3]] (k:=q (a_call eN ((iy 1 1 1))) (ai 1 [[2,3,4,5,11,12,13],[5,3,4,5,11,12,13],[5,3,4,5,11,12,13,14],[7,4,5],[3]] (k:=?_))))))))))))))));exact sq (fun a W h=>h.kP (s:=5) rfl rfl) (q aC (q (a_call eN (fV)) (ai 1 [[1,4],[2]] (k:=qj))))
theorem iM:AC aD true 99 [.list 4 [af 1,af (-6),af 1]] (.grow 4 [af 1,af (-6),af 1]):=by
 refine aix 24 Tryz.func99 (k:=ai 0 [[0,0],[3,0,2],[4]] (k:=q (a_call eN ((fV).gd)) (ai 1 [[1,0,2],[7,0,2,9],[5]] (k:=dC 13 mixed ?_))));exact ak eN ((nT 1 1)) (ct:=ai 3 [[6]] (k:=ak eN ((oQ 1 1 1)) (ct:=ai 3 [[7,0,2,3],[5]] (k:=q (a_call eN (yw)) (ai 1 [[1,2],[2]] (k:=qj))))))
theorem vS:AC aD true 142 [.list 4 [af 1,af (-6),af 1]] (.dat (vI 2)):=by
 exact aix 7 Tryz.func142 (k:=ai 0 [[0,0],[3,0,2],[4]] (k:=q (a_call eN ((fV).gd)) (ai 1 [[3,2],[2]] (k:=dG))))
theorem pX:AC aD true 51 [.list 4 [af 1,af (-6),af 1]] (.dat (af 7)):=by
 exact aix 37 Tryz.func51 (k:=ai 0 [[0,0],[3,0,2],[4]] (k:=q (a_call eN ((iM).gd)) (ai 1 [[1,0,2],[7,0,2,10],[6]] (k:=q (a_call eN ((nT 0 0))) (ai 1 [[2,0,2,3],[8]] (k:=q (kR (es:=[af 1,af (-6),af 1]) (z:=2) [af 1,af (-6)] [af 1] rfl rfl) (ai 1 [[2,2,3,17,18,19],[7,2,3,17,18,19,20],[13,2,3,5,17,18,19],[5]] (k:=q (a_call eN ((fF 1 1))) (ai 1 [[1,2,3,5,17,18,19,25],[8]] (k:=q (a_call eN ((Yu 1 0 1))) (ai 1 [[1,2,3,5,17,18,19,31],[5,2,3,17,18,19],[5,2,3,17,18,19],[5,2,3,17,18,19,20],[13,2,3,5,17,18,19],[5]] (k:=q (a_call eN ((fF (-6) (-1)))) (ai 1 [[1,2,3,5,17,18,19,25],[4]] (k:=q (a_call eN ((Xx (-6) 6))) (ai 1 [[1,2,3,5,17,18,19],[5]] (k:=q (a_call eN ((Yu 6 1 1))) (ai 1 [[1,2,3,5,17,18,19,31],[5,2,3,17,18,19],[5,2,3,17,18,19],[5,2,3,17,18,19,20],[7,2,3],[2]] (k:=dC 3 mixed (ai 3 [[1]] (k:=ak eN ((nT 1 1)) (ct:=ak eN ((YM 6 1 7)) (ct:=ai 3 [[2,2],[2]] (k:=dG)))))))))))))))))))))))
theorem iY:AC aD true 147 [.list 4 [af (-6),af 2]] (.grow 4 [af (-6),af 2]):=by
 exact aix 23 Tryz.func147 (k:=ai 0 [[0,0],[3,0,2],[6,0,2,3],[11]] (k:=fD (h:=aC) (k:=fD (h:=aC) (k:=cZ 10 (h:=eG (z:=1)) (k:=qN 9 11 (h:=dZ (i:=1) (z:=1) (es:=[af (-6),af 2]) (e:=af 2) rfl rfl) (k:=cZ 12 (h:=fO) (k:=cZ 13 (h:=a_call eN ((fF 2 1))) (k:=cZ 14 (h:=eu) (k:=ai 1 [[1,0,2,3,16],[6,0,2,3],[5]] (k:=q (kR (es:=[af (-6),af 2]) (z:=2) [af (-6),af 2] [] rfl rfl) (q (a_call eN (jb (l:=[af (-6),af 2]) (by simp) (by decide) rfl)) (ai 1 [[1,2],[2]] (k:=qj)))))))))))))
theorem l7:AC aD true 144 [.list 4 [af 1,af (-6),af 1]] (.grow 4 [af (-6),af 2]):=by
 refine aix 25 Tryz.func144 (k:=ai 0 [[0,0],[3,0,2],[4,0,2,3],[7,2,3,6,7,8],[7,2,3,6,7,8,9],[15,2,3,4,5,6,7,8],[5,2,3,4,5,6,7,8,14],[8,2,3,6,7,8],[5,2,3,6,7,8,9],[15,2,3,4,5,6,7,8],[5,2,3,4,5,6,7,8,14],[2]] (k:=dC 6 mixed (ai 3 [[3]] (k:=ak eN ((nT 1 1)) (ct:=ak eN ((iy (-6) 1 (-6))) (ct:=UF aW (ct:=ai 3 [[1]] (k:=?_))))))));refine sq (fun a W h=>h.lF (s:=15) (k:=4) rfl) (q (iI (l2:=[af (-6)]) aW (hb:=by decide) (hu2:=rfl)) (ai 1 [[1,2,3,6,7,8],[5,2,3,6,7,8],[5,2,3,6,7,8,9],[15,2,3,4,5,6,7,8],[5,2,3,4,5,6,7,8,14],[2]] (k:=dC 6 mixed (ai 3 [[3]] (k:=ak eN ((nT 2 2)) (ct:=ak eN ((iy 1 2 2)) (ct:=UF aW (ct:=ai 3 [[1]] (k:=?_)))))))));exact sq (fun a W h=>h.take (d:=15) (s:=3) rfl rfl (by decide) rfl rfl (by decide)) (sqv [2,4,5,6,7,8,14,15,16,17,18,19,20] (k:=q (iI (l2:=[af 2]) aW (hb:=by decide) (hu2:=rfl)) (ai 1 [[1,2,3,6,7,8],[5,2,3,6,7,8],[5,2,3,6,7,8,9],[7,2,3],[3]] (k:=q (jf) (q (a_call eN (iY)) (ai 1 [[1,2],[2]] (k:=qj)))))))
theorem iP:AC aD true 147 [.list 4 [af (-3),af 1]] (.grow 4 [af (-3),af 1]):=by
 exact aix 23 Tryz.func147 (k:=ai 0 [[0,0],[3,0,2],[6,0,2,3],[11]] (k:=fD (h:=aC) (k:=fD (h:=aC) (k:=cZ 10 (h:=eG (z:=1)) (k:=qN 9 11 (h:=dZ (i:=1) (z:=1) (es:=[af (-3),af 1]) (e:=af 1) rfl rfl) (k:=cZ 12 (h:=fO) (k:=cZ 13 (h:=a_call eN ((fF 1 1))) (k:=cZ 14 (h:=eu) (k:=ai 1 [[1,0,2,3,16],[6,0,2,3],[5]] (k:=q (kR (es:=[af (-3),af 1]) (z:=2) [af (-3),af 1] [] rfl rfl) (q (a_call eN (jb (l:=[af (-3),af 1]) (by simp) (by decide) rfl)) (ai 1 [[1,2],[2]] (k:=qj)))))))))))))
theorem wG:AC aD true 146 [.list 4 [af (-6),af 2],af (1/2)] (.grow 4 [af (-3),af 1]):=by
 refine aix 27 Tryz.func146 (k:=ai 0 [[0,0,1],[4,0,3,4],[5]] (k:=q (BV (n:=2) (p:=2) (q:=2) aW rfl rfl (by decide)) (ai 1 [[1,0,3,4,5],[7,3,4,5,11,12,13],[7,3,4,5,11,12,13,14],[15,3,4,5,6,7,11,12,13],[2]] (k:=q (jf) (ai 1 [[3]] (k:=q (a_call eN ((iy (-6) (1/2) (-3)))) (ai 1 [[2,3,4,5,11,12,13],[5,3,4,5,11,12,13],[5,3,4,5,11,12,13,14],[15,3,4,5,6,7,11,12,13],[2]] (k:=q (jf) (ai 1 [[3]] (k:=q (a_call eN ((iy 2 (1/2) 1))) (ai 1 [[2,3,4,5,11,12,13],[5,3,4,5,11,12,13],[5,3,4,5,11,12,13,14],[7,4,5],[3]] (k:=?_))))))))))));exact sq (fun a W h=>h.kP (s:=5) rfl rfl) (q aC (q (a_call eN (iP)) (ai 1 [[1,4],[2]] (k:=qj))))
theorem wB:AC aD true 99 [.list 4 [af (-6),af 2]] (.grow 4 [af (-3),af 1]):=by
 refine aix 24 Tryz.func99 (k:=ai 0 [[0,0],[3,0,2],[4]] (k:=q (a_call eN ((iY).gd)) (ai 1 [[1,0,2],[7,0,2,9],[5]] (k:=dC 13 mixed ?_))));exact ak eN ((nT 1 1)) (ct:=ai 3 [[6]] (k:=ak eN ((oQ 1 2 (1/2))) (ct:=ai 3 [[7,0,2,3],[5]] (k:=q (a_call eN (wG)) (ai 1 [[1,2],[2]] (k:=qj))))))
theorem pY:AC aD true 147 [.list 4 [af (-8),af 0,af 0]] (.grow 4 [af (-8)]):=by
 exact aix 23 Tryz.func147 (k:=ai 0 [[0,0],[3,0,2],[6,0,2,3],[11]] (k:=fD (h:=aC) (k:=fD (h:=aC) (k:=cZ 10 (h:=eG (z:=2)) (k:=qN 9 11 (h:=dZ (i:=2) (z:=2) (es:=[af (-8),af 0,af 0]) (e:=af 0) rfl rfl) (k:=cZ 12 (h:=fO) (k:=cZ 13 (h:=a_call eN ((fF 0 0))) (k:=cZ 14 (h:=eu) (k:=ai 1 [[1,0,2,3,16],[9,0,2,3],[9]] (k:=fD (h:=aC) (k:=fD (h:=aC) (k:=cZ 10 (h:=eG (z:=1)) (k:=qN 9 11 (h:=dZ (i:=1) (z:=1) (es:=[af (-8),af 0,af 0]) (e:=af 0) rfl rfl) (k:=cZ 12 (h:=fO) (k:=cZ 13 (h:=a_call eN ((fF 0 0))) (k:=cZ 14 (h:=eu) (k:=ai 1 [[1,0,2,3,16],[9,0,2,3],[9]] (k:=fD (h:=aC) (k:=fD (h:=aC) (k:=cZ 10 (h:=eG (z:=0)) (k:=qN 9 11 (h:=dZ (i:=0) (z:=0) (es:=[af (-8),af 0,af 0]) (e:=af (-8)) rfl rfl) (k:=cZ 12 (h:=fO) (k:=cZ 13 (h:=a_call eN ((fF (-8) (-1)))) (k:=cZ 14 (h:=eu) (k:=ai 1 [[1,0,2,3,16],[6,0,2,3],[5]] (k:=q (kR (es:=[af (-8),af 0,af 0]) (z:=1) [af (-8)] [af 0,af 0] rfl rfl) (q (a_call eN (jb (l:=[af (-8)]) (by simp) (by decide) rfl)) (ai 1 [[1,2],[2]] (k:=qj)))))))))))))))))))))))))))))
theorem uS:AC aD true 191 [.list 4 [af 1,af (-6),af 1],.list 4 [af (-3),af 1]] (.bT [.list 4 [af (-3),af 1],.list 4 [af (-8)]]):=by
 refine aix 83 Tryz.func191 (k:=ai 0 [[0,0,1],[4,0,1,4,5],[4]] (k:=q (a_call eN ((iP).gd)) (ai 1 [[1,0,1,4,5],[4]] (k:=q (a_call eN ((fV).go (by simp) rfl)) (ai 1 [[1,1,4,5,6],[3]] (k:=q (jf) (ai 1 [[6]] (k:=q (a_call eN (zN)) (ai 1 [[1,1,4,5,6,7],[4]] (k:=q (jf) (ai 1 [[5,1,4,5,6,7,8],[9,1,4,5,6,7,8,29],[7]] (k:=dC 22 mixed (ai 3 [[16]] (k:=ak eN ((oQ 1 1 1)) (ct:=ai 3 [[6,1,4,5,6,7,8],[6,1,4,5,6,7,8,53,54,55],[7,1,4,5,6,7,8,53,54,55,56],[15,1,4,5,6,7,8,9,10,53,54,55],[1]] (k:=dC 18 mixed (ai 3 [[15]] (k:=ak eN ((iy 1 (-3) (-3))) (ct:=ak eN ((kD (-6) (-3) (-3))) (ct:=ai 3 [[3,1,4,5,6,7,8,53,54,55],[5,1,4,5,6,7,8,53,54,55],[5,1,4,5,6,7,8,53,54,55,56],[15,1,4,5,6,7,8,9,10,53,54,55],[1]] (k:=dC 18 mixed (ai 3 [[15]] (k:=ak eN ((iy 1 1 1)) (ct:=ak eN ((kD 1 1 0)) (ct:=ai 3 [[3,1,4,5,6,7,8,53,54,55],[5,1,4,5,6,7,8,53,54,55],[5,1,4,5,6,7,8,53,54,55,56],[7,1,4,5,6,7,8],[6,1,4,5,6,7,8],[7,1,4,5,6,7,8,29],[7]] (k:=dC 22 mixed (ai 3 [[16]] (k:=ak eN ((oQ (-3) 1 (-3))) (ct:=ai 3 [[6,1,4,5,6,7,8],[6,1,4,5,6,7,8,53,54,55],[7,1,4,5,6,7,8,53,54,55,56],[15,1,4,5,6,7,8,9,10,53,54,55],[1]] (k:=dC 18 mixed (ai 3 [[15]] (k:=ak eN ((iy (-3) (-3) 9)) (ct:=ak eN ((kD 1 9 (-8))) (ct:=ai 3 [[3,1,4,5,6,7,8,53,54,55],[5,1,4,5,6,7,8,53,54,55],[5,1,4,5,6,7,8,53,54,55,56],[15,1,4,5,6,7,8,9,10,53,54,55],[1]] (k:=dC 18 mixed (ai 3 [[15]] (k:=ak eN ((iy (-3) 1 (-3))) (ct:=ak eN ((kD (-3) (-3) 0)) (ct:=ai 3 [[3,1,4,5,6,7,8,53,54,55],[5,1,4,5,6,7,8,53,54,55],[5,1,4,5,6,7,8,53,54,55,56],[7,1,4,5,6,7,8],[6,1,4,5,6,7,8],[7,1,4,5,6,7,8,29],[6,4,5,6,7],[3]] (k:=?_))))))))))))))))))))))))))))))))))))))));refine sq (fun a W h=>h.kP (s:=7) rfl rfl) (q aC (q (a_call eN (iP)) ?_));exact sq (fun a W h=>h.kP (s:=6) rfl rfl) (q aC (q (a_call eN (pY)) (ai 1 [[2,4,5],[2]] (k:=qJ))))
theorem yA:AC aD true 147 [.list 4 [af (-8)]] (.grow 4 [af (-8)]):=by
 exact aix 23 Tryz.func147 (k:=ai 0 [[0,0],[3,0,2],[6,0,2,3],[11]] (k:=fD (h:=aC) (k:=fD (h:=aC) (k:=cZ 10 (h:=eG (z:=0)) (k:=qN 9 11 (h:=dZ (i:=0) (z:=0) (es:=[af (-8)]) (e:=af (-8)) rfl rfl) (k:=cZ 12 (h:=fO) (k:=cZ 13 (h:=a_call eN ((fF (-8) (-1)))) (k:=cZ 14 (h:=eu) (k:=ai 1 [[1,0,2,3,16],[6,0,2,3],[5]] (k:=q (kR (es:=[af (-8)]) (z:=1) [af (-8)] [] rfl rfl) (q (a_call eN (jb (l:=[af (-8)]) (by simp) (by decide) rfl)) (ai 1 [[1,2],[2]] (k:=qj)))))))))))))
theorem lW:AC aD true 147 [.list 4 [af 1]] (.grow 4 [af 1]):=by
 exact aix 23 Tryz.func147 (k:=ai 0 [[0,0],[3,0,2],[6,0,2,3],[11]] (k:=fD (h:=aC) (k:=fD (h:=aC) (k:=cZ 10 (h:=eG (z:=0)) (k:=qN 9 11 (h:=dZ (i:=0) (z:=0) (es:=[af 1]) (e:=af 1) rfl rfl) (k:=cZ 12 (h:=fO) (k:=cZ 13 (h:=a_call eN ((fF 1 1))) (k:=cZ 14 (h:=eu) (k:=ai 1 [[1,0,2,3,16],[6,0,2,3],[5]] (k:=q (kR (es:=[af 1]) (z:=1) [af 1] [] rfl rfl) (q (a_call eN (jb (l:=[af 1]) (by simp) (by decide) rfl)) (ai 1 [[1,2],[2]] (k:=qj)))))))))))))
theorem vV:AC aD true 146 [.list 4 [af (-8)],af (-1/8)] (.grow 4 [af 1]):=by
 refine aix 27 Tryz.func146 (k:=ai 0 [[0,0,1],[4,0,3,4],[5]] (k:=q (BV (n:=1) (p:=1) (q:=1) aW rfl rfl (by decide)) (ai 1 [[1,0,3,4,5],[7,3,4,5,11,12,13],[7,3,4,5,11,12,13,14],[15,3,4,5,6,7,11,12,13],[2]] (k:=q (jf) (ai 1 [[3]] (k:=q (a_call eN ((iy (-8) (-1/8) 1))) (ai 1 [[2,3,4,5,11,12,13],[5,3,4,5,11,12,13],[5,3,4,5,11,12,13,14],[7,4,5],[3]] (k:=?_))))))));exact sq (fun a W h=>h.kP (s:=5) rfl rfl) (q aC (q (a_call eN (lW)) (ai 1 [[1,4],[2]] (k:=qj))))
theorem wC:AC aD true 99 [.list 4 [af (-8)]] (.grow 4 [af 1]):=by
 refine aix 24 Tryz.func99 (k:=ai 0 [[0,0],[3,0,2],[4]] (k:=q (a_call eN ((yA).gd)) (ai 1 [[1,0,2],[7,0,2,9],[5]] (k:=dC 13 mixed ?_))));exact ak eN ((nT 1 1)) (ct:=ai 3 [[6]] (k:=ak eN ((oQ 1 (-8) (-1/8))) (ct:=ai 3 [[7,0,2,3],[5]] (k:=q (a_call eN (vV)) (ai 1 [[1,2],[2]] (k:=qj))))))
theorem pV:AC aD true 147 [.list 4 [af 0,af 0]] (.dat (.list 4 [])):=by
 refine aix 23 Tryz.func147 (k:=ai 0 [[0,0],[3,0,2],[6,0,2,3],[11]] (k:=fD (h:=aC) (k:=fD (h:=aC) (k:=cZ 10 (h:=eG (z:=1)) (k:=qN 9 11 (h:=dZ (i:=1) (z:=1) (es:=[af 0,af 0]) (e:=af 0) rfl rfl) (k:=cZ 12 (h:=fO) (k:=cZ 13 (h:=a_call eN ((fF 0 0))) (k:=cZ 14 (h:=eu) (k:=ai 1 [[1,0,2,3,16],[9,0,2,3],[9]] (k:=fD (h:=aC) (k:=fD (h:=aC) (k:=cZ 10 (h:=eG (z:=0)) (k:=qN 9 11 (h:=dZ (i:=0) (z:=0) (es:=[af 0,af 0]) (e:=af 0) rfl rfl) (k:=cZ 12 (h:=fO) (k:=cZ 13 (h:=a_call eN ((fF 0 0))) (k:=cZ 14 (h:=eu) (k:=ai 1 [[1,0,2,3,16],[9,0,2,3],[9]] (k:=Hu (h:=fun hg=>jc (.dat (vB false)) hg (by decide +kernel)) (k:=?_)))))))))))))))))));refine Hu (h:=fun hg=>jc (.dat (vB false)) hg (by decide +kernel)) (k:=?_);refine Hu (h:=fun hg=>jc (.dat (vB false)) hg (by decide +kernel)) (k:=?_);refine Hu (h:=fun hg=>jc (.dat (vB false)) hg (by decide +kernel)) (k:=?_);refine Hu (h:=fun hg=>jc (.dat (vB false)) hg (by decide +kernel)) (k:=?_);refine Hu (h:=fun hg=>jc (.dat (vB false)) hg (by decide +kernel)) (k:=?_);refine Hu (h:=fun hg=>jc (.dat (vB false)) hg (by decide +kernel)) (k:=?_);exact ai 1 [[1,0,2,3,16],[6,0,2,3],[5]] (k:=q (kR (es:=[af 0,af 0]) (z:=0) [] [af 0,af 0] rfl rfl) (q (a_call eN (JI)) (ai 1 [[1,2],[2]] (k:=dG))))
theorem uU:AC aD true 191 [.list 4 [af (-3),af 1],.list 4 [af 1]] (.bT [.list 4 [af (-3),af 1],.list 4 []]):=by
 refine aix 83 Tryz.func191 (k:=ai 0 [[0,0,1],[4,0,1,4,5],[4]] (k:=q (a_call eN ((lW).gd)) (ai 1 [[1,0,1,4,5],[4]] (k:=q (a_call eN ((iP).go (by simp) rfl)) (ai 1 [[1,1,4,5,6],[3]] (k:=q (jf) (ai 1 [[6]] (k:=q (a_call eN (zN)) (ai 1 [[1,1,4,5,6,7],[4]] (k:=q (jf) (ai 1 [[5,1,4,5,6,7,8],[9,1,4,5,6,7,8,29],[7]] (k:=dC 22 mixed (ai 3 [[16]] (k:=ak eN ((oQ 1 1 1)) (ct:=ai 3 [[6,1,4,5,6,7,8],[6,1,4,5,6,7,8,53,54,55],[7,1,4,5,6,7,8,53,54,55,56],[15,1,4,5,6,7,8,9,10,53,54,55],[1]] (k:=dC 18 mixed (ai 3 [[15]] (k:=ak eN ((iy 1 1 1)) (ct:=ak eN ((kD 1 1 0)) (ct:=ai 3 [[3,1,4,5,6,7,8,53,54,55],[5,1,4,5,6,7,8,53,54,55],[5,1,4,5,6,7,8,53,54,55,56],[7,1,4,5,6,7,8],[6,1,4,5,6,7,8],[7,1,4,5,6,7,8,29],[7]] (k:=dC 22 mixed (ai 3 [[16]] (k:=ak eN ((oQ (-3) 1 (-3))) (ct:=ai 3 [[6,1,4,5,6,7,8],[6,1,4,5,6,7,8,53,54,55],[7,1,4,5,6,7,8,53,54,55,56],[15,1,4,5,6,7,8,9,10,53,54,55],[1]] (k:=dC 18 mixed (ai 3 [[15]] (k:=ak eN ((iy (-3) 1 (-3))) (ct:=ak eN ((kD (-3) (-3) 0)) (ct:=ai 3 [[3,1,4,5,6,7,8,53,54,55],[5,1,4,5,6,7,8,53,54,55],[5,1,4,5,6,7,8,53,54,55,56],[7,1,4,5,6,7,8],[6,1,4,5,6,7,8],[7,1,4,5,6,7,8,29],[6,4,5,6,7],[3]] (k:=?_))))))))))))))))))))))))))))));refine sq (fun a W h=>h.kP (s:=7) rfl rfl) (q aC (q (a_call eN (iP)) ?_));exact sq (fun a W h=>h.kP (s:=6) rfl rfl) (q aC (q (a_call eN (pV)) (ai 1 [[2,4,5],[2]] (k:=qJ))))
theorem yx:AC aD true 147 [.list 4 []] (.dat (.list 4 [])):=by
 refine aix 23 Tryz.func147 (k:=ai 0 [[0,0],[3,0,2],[6,0,2,3],[11]] (k:=Hu (h:=fun hg=>jc (.dat (vB false)) hg (by decide +kernel)) (k:=?_)));refine Hu (h:=fun hg=>jc (.dat (vB false)) hg (by decide +kernel)) (k:=?_);refine Hu (h:=fun hg=>jc (.dat (vB false)) hg (by decide +kernel)) (k:=?_);refine Hu (h:=fun hg=>jc (.dat (vB false)) hg (by decide +kernel)) (k:=?_);refine Hu (h:=fun hg=>jc (.dat (vB false)) hg (by decide +kernel)) (k:=?_);refine Hu (h:=fun hg=>jc (.dat (vB false)) hg (by decide +kernel)) (k:=?_);refine Hu (h:=fun hg=>jc (.dat (vB false)) hg (by decide +kernel)) (k:=?_);exact ai 1 [[1,0,2,3,16],[6,0,2,3],[5]] (k:=q (kR (es:=[]) (z:=0) [] [] rfl rfl) (q (a_call eN (JI)) (ai 1 [[1,2],[2]] (k:=dG))))
theorem xh:AC aD true 99 [.list 4 []] (.dat (wQ)):=by
 exact aix 24 Tryz.func99 (k:=ai 0 [[0,0],[3,0,2],[4]] (k:=q (a_call eN (yx)) (ai 1 [[1,0,2],[7,0,2,9],[5,0,2],[3]] (k:=dG))))
theorem Bv:AC aD true 192 [.list 4 [af 1,af (-6),af 1],.list 4 [af (-6),af 2]] (.dat (.list 4 [af 1])):=by
 exact aix 24 Tryz.func192 (k:=ai 0 [[0,0,1],[3,0,1,4],[4]] (k:=q (a_call eN ((iM).gd)) (q aC (q (a_call eN ((wB).gd)) (ai 1 [[2,0,1,4],[11,0,1,4,13],[9]] (k:=q (a_call eN (uS)) (ai 1 [[5,0,1,4,6],[4]] (k:=q (a_call eN ((wC).gd)) (ai 1 [[2,0,1,4],[9,0,1,4,13],[9]] (k:=q (a_call eN (uU)) (ai 1 [[5,0,1,4,6],[4]] (k:=q (a_call eN (xh)) (ai 1 [[2,0,1,4],[7]] (k:=q (KT) (ai 1 [[1,0,1,4,13],[6,0,4],[5,4],[2]] (k:=dG))))))))))))))))
theorem yB:AC aD true 147 [.list 4 [af 0,af 0,af 0]] (.dat (.list 4 [])):=by
 refine aix 23 Tryz.func147 (k:=ai 0 [[0,0],[3,0,2],[6,0,2,3],[11]] (k:=fD (h:=aC) (k:=fD (h:=aC) (k:=cZ 10 (h:=eG (z:=2)) (k:=qN 9 11 (h:=dZ (i:=2) (z:=2) (es:=[af 0,af 0,af 0]) (e:=af 0) rfl rfl) (k:=cZ 12 (h:=fO) (k:=cZ 13 (h:=a_call eN ((fF 0 0))) (k:=cZ 14 (h:=eu) (k:=ai 1 [[1,0,2,3,16],[9,0,2,3],[9]] (k:=fD (h:=aC) (k:=fD (h:=aC) (k:=cZ 10 (h:=eG (z:=1)) (k:=qN 9 11 (h:=dZ (i:=1) (z:=1) (es:=[af 0,af 0,af 0]) (e:=af 0) rfl rfl) (k:=cZ 12 (h:=fO) (k:=cZ 13 (h:=a_call eN ((fF 0 0))) (k:=cZ 14 (h:=eu) (k:=ai 1 [[1,0,2,3,16],[9,0,2,3],[9]] (k:=fD (h:=aC) (k:=fD (h:=aC) (k:=cZ 10 (h:=eG (z:=0)) (k:=qN 9 11 (h:=dZ (i:=0) (z:=0) (es:=[af 0,af 0,af 0]) (e:=af 0) rfl rfl) (k:=cZ 12 (h:=fO) (k:=cZ 13 (h:=a_call eN ((fF 0 0))) (k:=cZ 14 (h:=eu) (k:=ai 1 [[1,0,2,3,16],[9,0,2,3],[9]] (k:=Hu (h:=fun hg=>jc (.dat (vB false)) hg (by decide +kernel)) (k:=?_)))))))))))))))))))))))))));refine Hu (h:=fun hg=>jc (.dat (vB false)) hg (by decide +kernel)) (k:=?_);refine Hu (h:=fun hg=>jc (.dat (vB false)) hg (by decide +kernel)) (k:=?_);refine Hu (h:=fun hg=>jc (.dat (vB false)) hg (by decide +kernel)) (k:=?_);refine Hu (h:=fun hg=>jc (.dat (vB false)) hg (by decide +kernel)) (k:=?_);refine Hu (h:=fun hg=>jc (.dat (vB false)) hg (by decide +kernel)) (k:=?_);refine Hu (h:=fun hg=>jc (.dat (vB false)) hg (by decide +kernel)) (k:=?_);exact ai 1 [[1,0,2,3,16],[6,0,2,3],[5]] (k:=q (kR (es:=[af 0,af 0,af 0]) (z:=0) [] [af 0,af 0,af 0] rfl rfl) (q (a_call eN (JI)) (ai 1 [[1,2],[2]] (k:=dG))))
theorem uV:AC aD true 191 [.list 4 [af 1,af (-6),af 1],.list 4 [af 1]] (.bT [.list 4 [af 1,af (-6),af 1],.list 4 []]):=by
 refine aix 83 Tryz.func191 (k:=ai 0 [[0,0,1],[4,0,1,4,5],[4]] (k:=q (a_call eN ((lW).gd)) (ai 1 [[1,0,1,4,5],[4]] (k:=q (a_call eN ((fV).go (by simp) rfl)) (ai 1 [[1,1,4,5,6],[3]] (k:=q (jf) (ai 1 [[6]] (k:=q (a_call eN (Zf)) (ai 1 [[1,1,4,5,6,7],[4]] (k:=q (jf) (ai 1 [[5,1,4,5,6,7,8],[9,1,4,5,6,7,8,29],[7]] (k:=dC 22 mixed (ai 3 [[16]] (k:=ak eN ((oQ 1 1 1)) (ct:=ai 3 [[6,1,4,5,6,7,8],[6,1,4,5,6,7,8,53,54,55],[7,1,4,5,6,7,8,53,54,55,56],[15,1,4,5,6,7,8,9,10,53,54,55],[1]] (k:=dC 18 mixed (ai 3 [[15]] (k:=ak eN ((iy 1 1 1)) (ct:=ak eN ((kD 1 1 0)) (ct:=ai 3 [[3,1,4,5,6,7,8,53,54,55],[5,1,4,5,6,7,8,53,54,55],[5,1,4,5,6,7,8,53,54,55,56],[7,1,4,5,6,7,8],[6,1,4,5,6,7,8],[7,1,4,5,6,7,8,29],[7]] (k:=dC 22 mixed (ai 3 [[16]] (k:=ak eN ((oQ (-6) 1 (-6))) (ct:=ai 3 [[6,1,4,5,6,7,8],[6,1,4,5,6,7,8,53,54,55],[7,1,4,5,6,7,8,53,54,55,56],[15,1,4,5,6,7,8,9,10,53,54,55],[1]] (k:=dC 18 mixed (ai 3 [[15]] (k:=ak eN ((iy (-6) 1 (-6))) (ct:=ak eN ((kD (-6) (-6) 0)) (ct:=ai 3 [[3,1,4,5,6,7,8,53,54,55],[5,1,4,5,6,7,8,53,54,55],[5,1,4,5,6,7,8,53,54,55,56],[7,1,4,5,6,7,8],[6,1,4,5,6,7,8],[7,1,4,5,6,7,8,29],[7]] (k:=dC 22 mixed (ai 3 [[16]] (k:=ak eN ((oQ 1 1 1)) (ct:=ai 3 [[6,1,4,5,6,7,8],[6,1,4,5,6,7,8,53,54,55],[7,1,4,5,6,7,8,53,54,55,56],[15,1,4,5,6,7,8,9,10,53,54,55],[1]] (k:=dC 18 mixed (ai 3 [[15]] (k:=ak eN ((iy 1 1 1)) (ct:=ak eN ((kD 1 1 0)) (ct:=ai 3 [[3,1,4,5,6,7,8,53,54,55],[5,1,4,5,6,7,8,53,54,55],[5,1,4,5,6,7,8,53,54,55,56],[7,1,4,5,6,7,8],[6,1,4,5,6,7,8],[7,1,4,5,6,7,8,29],[6,4,5,6,7],[3]] (k:=?_)))))))))))))))))))))))))))))))))))))));refine sq (fun a W h=>h.kP (s:=7) rfl rfl) (q aC (q (a_call eN (fV)) ?_));exact sq (fun a W h=>h.kP (s:=6) rfl rfl) (q aC (q (a_call eN (yB)) (ai 1 [[2,4,5],[2]] (k:=qJ))))
theorem rU:AC aD true 143 [.list 4 [af 1,af (-6),af 1]] (.grow 4 [af 1,af (-6),af 1]):=by
 exact aix 21 Tryz.func143 (k:=ai 0 [[0,0],[3,0,2],[4]] (k:=q (a_call eN ((iM).gd)) (ai 1 [[1,0,2],[7,0,2,9],[9]] (k:=q (a_call eN ((l7).gd)) (q (a_call eN (Bv)) (q (a_call eN (uV)) (ai 1 [[5,2,3],[4]] (k:=q (a_call eN (iM)) (ai 1 [[1,2],[2]] (k:=qj))))))))))
theorem vw:AC aD true 142 [.list 4 [af (-6),af 2]] (.dat (vI 1)):=by
 exact aix 7 Tryz.func142 (k:=ai 0 [[0,0],[3,0,2],[4]] (k:=q (a_call eN ((iY).gd)) (ai 1 [[3,2],[2]] (k:=dG))))
theorem yu:AC aD true 147 [.list 4 [af (-3/2),af (1/2)]] (.grow 4 [af (-3/2),af (1/2)]):=by
 exact aix 23 Tryz.func147 (k:=ai 0 [[0,0],[3,0,2],[6,0,2,3],[11]] (k:=fD (h:=aC) (k:=fD (h:=aC) (k:=cZ 10 (h:=eG (z:=1)) (k:=qN 9 11 (h:=dZ (i:=1) (z:=1) (es:=[af (-3/2),af (1/2)]) (e:=af (1/2)) rfl rfl) (k:=cZ 12 (h:=fO) (k:=cZ 13 (h:=a_call eN ((fF (1/2) 1))) (k:=cZ 14 (h:=eu) (k:=ai 1 [[1,0,2,3,16],[6,0,2,3],[5]] (k:=q (kR (es:=[af (-3/2),af (1/2)]) (z:=2) [af (-3/2),af (1/2)] [] rfl rfl) (q (a_call eN (jb (l:=[af (-3/2),af (1/2)]) (by simp) (by decide) rfl)) (ai 1 [[1,2],[2]] (k:=qj)))))))))))))
theorem vH:AC aD true 191 [.list 4 [af 1,af (-6),af 1],.list 4 [af (-6),af 2]] (.bT [.list 4 [af (-3/2),af (1/2)],.list 4 [af (-8)]]):=by
 refine aix 83 Tryz.func191 (k:=ai 0 [[0,0,1],[4,0,1,4,5],[4]] (k:=q (a_call eN ((iY).gd)) (ai 1 [[1,0,1,4,5],[4]] (k:=q (a_call eN ((fV).go (by simp) rfl)) (ai 1 [[1,1,4,5,6],[3]] (k:=q (jf) (ai 1 [[6]] (k:=q (a_call eN (zN)) (ai 1 [[1,1,4,5,6,7],[4]] (k:=q (jf) (ai 1 [[5,1,4,5,6,7,8],[9,1,4,5,6,7,8,29],[7]] (k:=dC 22 mixed (ai 3 [[16]] (k:=ak eN ((oQ 1 2 (1/2))) (ct:=ai 3 [[6,1,4,5,6,7,8],[6,1,4,5,6,7,8,53,54,55],[7,1,4,5,6,7,8,53,54,55,56],[15,1,4,5,6,7,8,9,10,53,54,55],[1]] (k:=dC 18 mixed (ai 3 [[15]] (k:=ak eN ((iy (1/2) (-6) (-3))) (ct:=ak eN ((kD (-6) (-3) (-3))) (ct:=ai 3 [[3,1,4,5,6,7,8,53,54,55],[5,1,4,5,6,7,8,53,54,55],[5,1,4,5,6,7,8,53,54,55,56],[15,1,4,5,6,7,8,9,10,53,54,55],[1]] (k:=dC 18 mixed (ai 3 [[15]] (k:=ak eN ((iy (1/2) 2 1)) (ct:=ak eN ((kD 1 1 0)) (ct:=ai 3 [[3,1,4,5,6,7,8,53,54,55],[5,1,4,5,6,7,8,53,54,55],[5,1,4,5,6,7,8,53,54,55,56],[7,1,4,5,6,7,8],[6,1,4,5,6,7,8],[7,1,4,5,6,7,8,29],[7]] (k:=dC 22 mixed (ai 3 [[16]] (k:=ak eN ((oQ (-3) 2 (-3/2))) (ct:=ai 3 [[6,1,4,5,6,7,8],[6,1,4,5,6,7,8,53,54,55],[7,1,4,5,6,7,8,53,54,55,56],[15,1,4,5,6,7,8,9,10,53,54,55],[1]] (k:=dC 18 mixed (ai 3 [[15]] (k:=ak eN ((iy (-3/2) (-6) 9)) (ct:=ak eN ((kD 1 9 (-8))) (ct:=ai 3 [[3,1,4,5,6,7,8,53,54,55],[5,1,4,5,6,7,8,53,54,55],[5,1,4,5,6,7,8,53,54,55,56],[15,1,4,5,6,7,8,9,10,53,54,55],[1]] (k:=dC 18 mixed (ai 3 [[15]] (k:=ak eN ((iy (-3/2) 2 (-3))) (ct:=ak eN ((kD (-3) (-3) 0)) (ct:=ai 3 [[3,1,4,5,6,7,8,53,54,55],[5,1,4,5,6,7,8,53,54,55],[5,1,4,5,6,7,8,53,54,55,56],[7,1,4,5,6,7,8],[6,1,4,5,6,7,8],[7,1,4,5,6,7,8,29],[6,4,5,6,7],[3]] (k:=?_))))))))))))))))))))))))))))))))))))))));refine sq (fun a W h=>h.kP (s:=7) rfl rfl) (q aC (q (a_call eN (yu)) ?_));exact sq (fun a W h=>h.kP (s:=6) rfl rfl) (q aC (q (a_call eN (pY)) (ai 1 [[2,4,5],[2]] (k:=qJ))))
theorem vC:AC aD true 145 [.list 4 [af 1,af (-6),af 1],.list 4 [af (-6),af 2]] (.bT [.list 4 [af (-3/2),af (1/2)],.list 4 [af (-8)],vI 0]):=by
 exact aix 20 Tryz.func145 (k:=ai 0 [[0,0,1],[5,0,1,4,5,6],[5]] (k:=q (a_call eN (vw)) (ai 1 [[1,0,1,4,5,6,11],[8]] (k:=q (a_call eN (vH)) (ai 1 [[5,4,5,6,7,8],[8,4,5,6],[2]] (k:=UN))))))
theorem lS:AC aD true 147 [.list 4 [af 8]] (.grow 4 [af 8]):=by
 exact aix 23 Tryz.func147 (k:=ai 0 [[0,0],[3,0,2],[6,0,2,3],[11]] (k:=fD (h:=aC) (k:=fD (h:=aC) (k:=cZ 10 (h:=eG (z:=0)) (k:=qN 9 11 (h:=dZ (i:=0) (z:=0) (es:=[af 8]) (e:=af 8) rfl rfl) (k:=cZ 12 (h:=fO) (k:=cZ 13 (h:=a_call eN ((fF 8 1))) (k:=cZ 14 (h:=eu) (k:=ai 1 [[1,0,2,3,16],[6,0,2,3],[5]] (k:=q (kR (es:=[af 8]) (z:=1) [af 8] [] rfl rfl) (q (a_call eN (jb (l:=[af 8]) (by simp) (by decide) rfl)) (ai 1 [[1,2],[2]] (k:=qj)))))))))))))
theorem vZ:AC aD true 146 [.list 4 [af (-8)],af (-1)] (.grow 4 [af 8]):=by
 refine aix 27 Tryz.func146 (k:=ai 0 [[0,0,1],[4,0,3,4],[5]] (k:=q (BV (n:=1) (p:=1) (q:=1) aW rfl rfl (by decide)) (ai 1 [[1,0,3,4,5],[7,3,4,5,11,12,13],[7,3,4,5,11,12,13,14],[15,3,4,5,6,7,11,12,13],[2]] (k:=q (jf) (ai 1 [[3]] (k:=q (a_call eN ((iy (-8) (-1) 8))) (ai 1 [[2,3,4,5,11,12,13],[5,3,4,5,11,12,13],[5,3,4,5,11,12,13,14],[7,4,5],[3]] (k:=?_))))))));exact sq (fun a W h=>h.kP (s:=5) rfl rfl) (q aC (q (a_call eN (lS)) (ai 1 [[1,4],[2]] (k:=qj))))
theorem vg:AC aD true 142 [.list 4 [af 8]] (.dat (vI 0)):=by
 exact aix 7 Tryz.func142 (k:=ai 0 [[0,0],[3,0,2],[4]] (k:=q (a_call eN ((lS).gd)) (ai 1 [[3,2],[2]] (k:=dG))))
theorem yD:AC aD true 147 [.list 4 [af (-3/4),af (1/4)]] (.grow 4 [af (-3/4),af (1/4)]):=by
 exact aix 23 Tryz.func147 (k:=ai 0 [[0,0],[3,0,2],[6,0,2,3],[11]] (k:=fD (h:=aC) (k:=fD (h:=aC) (k:=cZ 10 (h:=eG (z:=1)) (k:=qN 9 11 (h:=dZ (i:=1) (z:=1) (es:=[af (-3/4),af (1/4)]) (e:=af (1/4)) rfl rfl) (k:=cZ 12 (h:=fO) (k:=cZ 13 (h:=a_call eN ((fF (1/4) 1))) (k:=cZ 14 (h:=eu) (k:=ai 1 [[1,0,2,3,16],[6,0,2,3],[5]] (k:=q (kR (es:=[af (-3/4),af (1/4)]) (z:=2) [af (-3/4),af (1/4)] [] rfl rfl) (q (a_call eN (jb (l:=[af (-3/4),af (1/4)]) (by simp) (by decide) rfl)) (ai 1 [[1,2],[2]] (k:=qj)))))))))))))
theorem vk:AC aD true 191 [.list 4 [af (-6),af 2],.list 4 [af 8]] (.bT [.list 4 [af (-3/4),af (1/4)],.list 4 []]):=by
 refine aix 83 Tryz.func191 (k:=ai 0 [[0,0,1],[4,0,1,4,5],[4]] (k:=q (a_call eN ((lS).gd)) (ai 1 [[1,0,1,4,5],[4]] (k:=q (a_call eN ((iY).go (by simp) rfl)) (ai 1 [[1,1,4,5,6],[3]] (k:=q (jf) (ai 1 [[6]] (k:=q (a_call eN (zN)) (ai 1 [[1,1,4,5,6,7],[4]] (k:=q (jf) (ai 1 [[5,1,4,5,6,7,8],[9,1,4,5,6,7,8,29],[7]] (k:=dC 22 mixed (ai 3 [[16]] (k:=ak eN ((oQ 2 8 (1/4))) (ct:=ai 3 [[6,1,4,5,6,7,8],[6,1,4,5,6,7,8,53,54,55],[7,1,4,5,6,7,8,53,54,55,56],[15,1,4,5,6,7,8,9,10,53,54,55],[1]] (k:=dC 18 mixed (ai 3 [[15]] (k:=ak eN ((iy (1/4) 8 2)) (ct:=ak eN ((kD 2 2 0)) (ct:=ai 3 [[3,1,4,5,6,7,8,53,54,55],[5,1,4,5,6,7,8,53,54,55],[5,1,4,5,6,7,8,53,54,55,56],[7,1,4,5,6,7,8],[6,1,4,5,6,7,8],[7,1,4,5,6,7,8,29],[7]] (k:=dC 22 mixed (ai 3 [[16]] (k:=ak eN ((oQ (-6) 8 (-3/4))) (ct:=ai 3 [[6,1,4,5,6,7,8],[6,1,4,5,6,7,8,53,54,55],[7,1,4,5,6,7,8,53,54,55,56],[15,1,4,5,6,7,8,9,10,53,54,55],[1]] (k:=dC 18 mixed (ai 3 [[15]] (k:=ak eN ((iy (-3/4) 8 (-6))) (ct:=ak eN ((kD (-6) (-6) 0)) (ct:=ai 3 [[3,1,4,5,6,7,8,53,54,55],[5,1,4,5,6,7,8,53,54,55],[5,1,4,5,6,7,8,53,54,55,56],[7,1,4,5,6,7,8],[6,1,4,5,6,7,8],[7,1,4,5,6,7,8,29],[6,4,5,6,7],[3]] (k:=?_))))))))))))))))))))))))))))));refine sq (fun a W h=>h.kP (s:=7) rfl rfl) (q aC (q (a_call eN (yD)) ?_));exact sq (fun a W h=>h.kP (s:=6) rfl rfl) (q aC (q (a_call eN (pV)) (ai 1 [[2,4,5],[2]] (k:=qJ))))
theorem uP:AC aD true 145 [.list 4 [af (-6),af 2],.list 4 [af 8]] (.bT [.list 4 [af (-3/4),af (1/4)],.list 4 [],vI 0]):=by
 exact aix 20 Tryz.func145 (k:=ai 0 [[0,0,1],[5,0,1,4,5,6],[5]] (k:=q (a_call eN (vg)) (ai 1 [[1,0,1,4,5,6,11],[8]] (k:=q (a_call eN (vk)) (ai 1 [[5,4,5,6,7,8],[8,4,5,6],[2]] (k:=UN))))))
theorem uM:AC aD true 97 [.list 4 [af 1,af (-6),af 1]] (.own 1 [.list 4 [af 1,af (-6),af 1],.list 4 [af (-6),af 2],.list 4 [af 8]]):=by
 exact aix 42 Tryz.func97 (k:=ai 0 [[0,0],[3,0,2],[5]] (k:=q (a_call eN (vS)) (ai 1 [[1,0,2,11],[7]] (k:=q (a_call eN ((rU).gd)) (ai 1 [[1,2,3],[4]] (k:=q (a_call eN ((l7).gd)) (ai 1 [[1,2,3,4],[5]] (k:=q (DZ (xs:=[.tmp 16,.tmp 17]) (es:=[.list 4 [af 1,af (-6),af 1],.list 4 [af (-6),af 2]]) gm rfl) (ai 1 [[1,2,3,4,5],[9]] (k:=q (a_call eN (vC)) (ai 1 [[7,2,3,4,5,7,8],[7]] (k:=fD (h:=aC) (k:=cZ 29 (h:=aI (n:=1)) (k:=cZ 30 (h:=eu) (k:=ai 1 [[1,2,3,4,5,7,32],[8]] (k:=q (a_call eN ((nT (-1) (-1)))) (q (a_call eN ((vZ).gd)) (ai 1 [[2,2,3,4,5],[4]] (k:=q (jM (xs:=[.tmp 39]) (es:=[.list 4 [af 8]]) gm) (q (Qz (l2:=[.list 4 [af 8]]) gm (hb:=by decide) (hu2:=rfl)) (ai 1 [[1,2,3,4,5],[8]] (k:=q (a_call eN (uP)) (ai 1 [[7,2,3,4,5,7,8],[7]] (k:=fD (h:=aC) (k:=cZ 29 (h:=aI (n:=0)) (k:=cZ 30 (h:=eu) (k:=ai 1 [[1,2,3,4,5,7,32],[6,2,3,4,7],[6]] (k:=KZ))))))))))))))))))))))))))))
theorem CU:AC aD true 109 [.list 4 [af 1,af (-6),af 1]] (.dat (.agg [af (-7),af 7])):=by
 exact aix 10 Tryz.func109 (k:=SQ [0] (k:=bP (cO (q (nH (zi:=QQ)) (ai 1 [[0,0,2],[4]] (k:=q (a_call eN (pX)) (ai 1 [[2,2,3],[2]] (k:=dC 4 mixed (ai 3 [[1]] (k:=ak eN ((Xx 7 (-7))) (ct:=ai 3 [[1]] (k:=aeg (s2:=Fh) (ct:=ai 3 [[2,2],[2]] (k:=dG))))))))))))))
theorem rC:AC aD true 111 [.list 1 [.list 4 [af 1,af (-6),af 1],.list 4 [af (-6),af 2],.list 4 [af 8]],af (-7)] (.dat (vI 2)):=by
 exact aix 31 Tryz.func111 (k:=ai 0 [[0,0,1],[4,0,3,4],[5,0,3,4,5,6],[7,3,4,5,6,10,11,12],[7,3,4,5,6,10,11,12,13],[12,3,4,5,6,8,10,11,12],[5]] (k:=q (a_call eN ((pG [1,(-6),1] (-7) 92))) (q (a_call eN ((fF 92 1))) (ai 1 [[1,3,4,5,6,9,10,11,12],[6,3,4,5,6,9,10,11,12,21],[9]] (k:=q (uJ (z:=-1)) (ai 1 [[1,3,4,5,6,9,10,11,12,25],[7,3,4,5,6,10,11,12],[5,3,4,5,6,10,11,12],[5,3,4,5,6,10,11,12,13],[12,3,4,5,6,8,10,11,12],[5]] (k:=q (a_call eN ((pG [(-6),2] (-7) (-20)))) (q (a_call eN ((fF (-20) (-1)))) (ai 1 [[1,3,4,5,6,9,10,11,12],[6,3,4,5,6,9,10,11,12,21],[9]] (k:=q (uJ (z:=1)) (ai 1 [[1,3,4,5,6,9,10,11,12,25],[6,3,4,5,6,9,10,11,12],[4,3,4,5,6,10,11,12],[5,3,4,5,6,10,11,12],[5,3,4,5,6,10,11,12,13],[12,3,4,5,6,8,10,11,12],[5]] (k:=q (a_call eN ((pG [8] (-7) 8))) (q (a_call eN ((fF 8 1))) (ai 1 [[1,3,4,5,6,9,10,11,12],[6,3,4,5,6,9,10,11,12,21],[9]] (k:=q (uJ (z:=-1)) (ai 1 [[1,3,4,5,6,9,10,11,12,25],[6,3,4,5,6,9,10,11,12],[4,3,4,5,6,10,11,12],[5,3,4,5,6,10,11,12],[5,3,4,5,6,10,11,12,13],[7,4,5],[5,4],[2]] (k:=dG)))))))))))))))))
theorem Am:AC aD true 111 [.list 1 [.list 4 [af 1,af (-6),af 1],.list 4 [af (-6),af 2],.list 4 [af 8]],af 7] (.dat (vI 0)):=by
 exact aix 31 Tryz.func111 (k:=ai 0 [[0,0,1],[4,0,3,4],[5,0,3,4,5,6],[7,3,4,5,6,10,11,12],[7,3,4,5,6,10,11,12,13],[12,3,4,5,6,8,10,11,12],[5]] (k:=q (a_call eN ((pG [1,(-6),1] 7 8))) (q (a_call eN ((fF 8 1))) (ai 1 [[1,3,4,5,6,9,10,11,12],[6,3,4,5,6,9,10,11,12,21],[9]] (k:=q (uJ (z:=-1)) (ai 1 [[1,3,4,5,6,9,10,11,12,25],[7,3,4,5,6,10,11,12],[5,3,4,5,6,10,11,12],[5,3,4,5,6,10,11,12,13],[12,3,4,5,6,8,10,11,12],[5]] (k:=q (a_call eN ((pG [(-6),2] 7 8))) (q (a_call eN ((fF 8 1))) (ai 1 [[1,3,4,5,6,9,10,11,12],[6,3,4,5,6,9,10,11,12,21],[9]] (k:=q (uJ (z:=-1)) (ai 1 [[1,3,4,5,6,9,10,11,12,25],[7,3,4,5,6,10,11,12],[5,3,4,5,6,10,11,12],[5,3,4,5,6,10,11,12,13],[12,3,4,5,6,8,10,11,12],[5]] (k:=q (a_call eN ((pG [8] 7 8))) (q (a_call eN ((fF 8 1))) (ai 1 [[1,3,4,5,6,9,10,11,12],[6,3,4,5,6,9,10,11,12,21],[9]] (k:=q (uJ (z:=-1)) (ai 1 [[1,3,4,5,6,9,10,11,12,25],[7,3,4,5,6,10,11,12],[5,3,4,5,6,10,11,12],[5,3,4,5,6,10,11,12,13],[7,4,5],[5,4],[2]] (k:=dG)))))))))))))))))
theorem BP:AC aD true 157 [.agg [af (-7),af 7]] (.dat (af 0)):=by
 exact aix 10 Tryz.func157 (k:=ai 0 [[0,0],[4,1,2],[4]] (k:=q (aX 0) (q dn (q (aX 1) (q (a_call eN ((YM (-7) 7 0))) (q (a_call eN (JV)) (q (a_call eN ((iy 0 (1/2) 0))) (ai 1 [[1,2],[2]] (k:=dG)))))))))
theorem rF:AC aD true 111 [.list 1 [.list 4 [af 1,af (-6),af 1],.list 4 [af (-6),af 2],.list 4 [af 8]],af 0] (.dat (vI 2)):=by
 exact aix 31 Tryz.func111 (k:=ai 0 [[0,0,1],[4,0,3,4],[5,0,3,4,5,6],[7,3,4,5,6,10,11,12],[7,3,4,5,6,10,11,12,13],[12,3,4,5,6,8,10,11,12],[5]] (k:=q (a_call eN ((pG [1,(-6),1] 0 1))) (q (a_call eN ((fF 1 1))) (ai 1 [[1,3,4,5,6,9,10,11,12],[6,3,4,5,6,9,10,11,12,21],[9]] (k:=q (uJ (z:=-1)) (ai 1 [[1,3,4,5,6,9,10,11,12,25],[7,3,4,5,6,10,11,12],[5,3,4,5,6,10,11,12],[5,3,4,5,6,10,11,12,13],[12,3,4,5,6,8,10,11,12],[5]] (k:=q (a_call eN ((pG [(-6),2] 0 (-6)))) (q (a_call eN ((fF (-6) (-1)))) (ai 1 [[1,3,4,5,6,9,10,11,12],[6,3,4,5,6,9,10,11,12,21],[9]] (k:=q (uJ (z:=1)) (ai 1 [[1,3,4,5,6,9,10,11,12,25],[6,3,4,5,6,9,10,11,12],[4,3,4,5,6,10,11,12],[5,3,4,5,6,10,11,12],[5,3,4,5,6,10,11,12,13],[12,3,4,5,6,8,10,11,12],[5]] (k:=q (a_call eN ((pG [8] 0 8))) (q (a_call eN ((fF 8 1))) (ai 1 [[1,3,4,5,6,9,10,11,12],[6,3,4,5,6,9,10,11,12,21],[9]] (k:=q (uJ (z:=-1)) (ai 1 [[1,3,4,5,6,9,10,11,12,25],[6,3,4,5,6,9,10,11,12],[4,3,4,5,6,10,11,12],[5,3,4,5,6,10,11,12],[5,3,4,5,6,10,11,12,13],[7,4,5],[5,4],[2]] (k:=dG)))))))))))))))))
theorem zI:AC aD true 110 [.list 1 [.list 4 [af 1,af (-6),af 1],.list 4 [af (-6),af 2],.list 4 [af 8]],.agg [af (-7),af 0],vI 2,vI 2] (.dat (wQ)):=by
 exact aix 46 Tryz.func110 (k:=ai 0 [[0,0,1,2,3],[4,0,2,3,5,8],[7,0,2,3,5,8,15],[6,0,2,3,5,8,15,16],[5,0,2,3,5,8],[4]] (k:=dG))
theorem BM:AC aD true 157 [.agg [af 0,af 7]] (.dat (af (7/2))):=by
 exact aix 10 Tryz.func157 (k:=ai 0 [[0,0],[4,1,2],[4]] (k:=q (aX 0) (q dn (q (aX 1) (q (a_call eN ((YM 0 7 7))) (q (a_call eN (JV)) (q (a_call eN ((iy 7 (1/2) (7/2)))) (ai 1 [[1,2],[2]] (k:=dG)))))))))
theorem zF:AC aD true 111 [.list 1 [.list 4 [af 1,af (-6),af 1],.list 4 [af (-6),af 2],.list 4 [af 8]],af (7/2)] (.dat (vI 1)):=by
 exact aix 31 Tryz.func111 (k:=ai 0 [[0,0,1],[4,0,3,4],[5,0,3,4,5,6],[7,3,4,5,6,10,11,12],[7,3,4,5,6,10,11,12,13],[12,3,4,5,6,8,10,11,12],[5]] (k:=q (a_call eN ((pG [1,(-6),1] (7/2) (-31/4)))) (q (a_call eN ((fF (-31/4) (-1)))) (ai 1 [[1,3,4,5,6,9,10,11,12],[6,3,4,5,6,9,10,11,12,21],[9]] (k:=q (uJ (z:=1)) (ai 1 [[1,3,4,5,6,9,10,11,12,25],[7,3,4,5,6,10,11,12],[5,3,4,5,6,10,11,12],[5,3,4,5,6,10,11,12,13],[12,3,4,5,6,8,10,11,12],[5]] (k:=q (a_call eN ((pG [(-6),2] (7/2) 1))) (q (a_call eN ((fF 1 1))) (ai 1 [[1,3,4,5,6,9,10,11,12],[6,3,4,5,6,9,10,11,12,21],[9]] (k:=q (uJ (z:=-1)) (ai 1 [[1,3,4,5,6,9,10,11,12,25],[6,3,4,5,6,9,10,11,12],[4,3,4,5,6,10,11,12],[5,3,4,5,6,10,11,12],[5,3,4,5,6,10,11,12,13],[12,3,4,5,6,8,10,11,12],[5]] (k:=q (a_call eN ((pG [8] (7/2) 8))) (q (a_call eN ((fF 8 1))) (ai 1 [[1,3,4,5,6,9,10,11,12],[6,3,4,5,6,9,10,11,12,21],[9]] (k:=q (uJ (z:=-1)) (ai 1 [[1,3,4,5,6,9,10,11,12,25],[7,3,4,5,6,10,11,12],[5,3,4,5,6,10,11,12],[5,3,4,5,6,10,11,12,13],[7,4,5],[5,4],[2]] (k:=dG)))))))))))))))))
theorem Bc:AC aD true 110 [.list 1 [.list 4 [af 1,af (-6),af 1],.list 4 [af (-6),af 2],.list 4 [af 8]],.agg [af 0,af (7/2)],vI 2,vI 1] (.own 8 [.agg [af 0,af (7/2)]]):=by
 exact aix 46 Tryz.func110 (k:=ai 0 [[0,0,1,2,3],[4,0,2,3,5,8],[7,0,2,3,5,8,15],[6,0,2,3,5,8,15,16],[6,0,2,3,5,8,18],[4]] (k:=q (bM (ti:=kZ)) (q (DZ (xs:=[.tmp 20]) (es:=[.agg [af 0,af (7/2)]]) Ey rfl) (ai 1 [[1,0,2,3,5,8],[4]] (k:=KZ)))))
theorem AL:AC aD true 110 [.list 1 [.list 4 [af 1,af (-6),af 1],.list 4 [af (-6),af 2],.list 4 [af 8]],.agg [af (7/2),af 7],vI 1,vI 0] (.own 8 [.agg [af (7/2),af 7]]):=by
 exact aix 46 Tryz.func110 (k:=ai 0 [[0,0,1,2,3],[4,0,2,3,5,8],[7,0,2,3,5,8,15],[6,0,2,3,5,8,15,16],[6,0,2,3,5,8,18],[4]] (k:=q (bM (ti:=kZ)) (q (DZ (xs:=[.tmp 20]) (es:=[.agg [af (7/2),af 7]]) Ey rfl) (ai 1 [[1,0,2,3,5,8],[4]] (k:=KZ)))))
theorem zS:AC aD true 110 [.list 1 [.list 4 [af 1,af (-6),af 1],.list 4 [af (-6),af 2],.list 4 [af 8]],.agg [af 0,af 7],vI 2,vI 0] (.own 8 [.agg [af 0,af (7/2)],.agg [af (7/2),af 7]]):=by
 exact aix 46 Tryz.func110 (k:=ai 0 [[0,0,1,2,3],[4,0,2,3,5,8],[7,0,2,3,5,8,15],[6,0,2,3,5,8,15,16],[6,0,2,3,5,8,18],[7]] (k:=q (bM (ti:=kZ)) (q (a_call eN (BM)) (ai 1 [[2,0,2,3,5,8,9],[5]] (k:=q (a_call eN (zF)) (ai 1 [[1,0,2,3,5,8,9,10],[5]] (k:=q (aX 0) (q bM (q (Nq (s2:=Fh)) (q aC (q aC (q (a_call eN (Bc)) (ai 1 [[1,0,3,5,8,9,10,11],[6]] (k:=q (aX 1) (q (Nq (s2:=Fh)) (q aC (q aC (q (a_call eN ((AL).og.gd)) (ai 1 [[1,8,11,12],[5]] (k:=q (Qz (l2:=[.agg [af (7/2),af 7]]) Ey (hb:=by decide) (hu2:=rfl)) (ai 1 [[1,8],[2]] (k:=KZ))))))))))))))))))))))
theorem Bj:AC aD true 110 [.list 1 [.list 4 [af 1,af (-6),af 1],.list 4 [af (-6),af 2],.list 4 [af 8]],.agg [af (-7),af 7],vI 2,vI 0] (.grow 8 [.agg [af 0,af (7/2)],.agg [af (7/2),af 7]]):=by
 refine aix 46 Tryz.func110 (k:=ai 0 [[0,0,1,2,3],[4,0,2,3,5,8],[7,0,2,3,5,8,15],[6,0,2,3,5,8,15,16],[6,0,2,3,5,8,18],[7]] (k:=q (bM (ti:=kZ)) (q (a_call eN (BP)) (ai 1 [[2,0,2,3,5,8,9],[5]] (k:=q (a_call eN (rF)) (ai 1 [[1,0,2,3,5,8,9,10],[5]] (k:=q (aX 0) (q bM (q (Nq (s2:=Fh)) (q aC (q aC (q (a_call eN (zI)) (ai 1 [[1,0,3,5,8,9,10,11],[6]] (k:=q (aX 1) (q (Nq (s2:=Fh)) (q aC (q aC (q (a_call eN ((zS).og.gd)) (ai 1 [[1,8,11,12],[5]] (k:=?_))))))))))))))))))));exact sq (fun a W h=>h.lF (s:=43) (k:=8) rfl) (q (iI (l2:=[.agg [af 0,af (7/2)],.agg [af (7/2),af 7]]) Ey (hb:=by decide) (hu2:=rfl)) (ai 1 [[1,8],[2]] (k:=qj)))
theorem AY:AC aD true 57 [.list 4 [af 1,af (-6),af 1]] (.dat (.list 8 [.agg [af 0,af (7/2)],.agg [af (7/2),af 7]])):=by
 exact aix 23 Tryz.func57 (k:=ai 0 [[0,0],[3,0,2],[4]] (k:=q (a_call eN ((uM).og.gd)) (ai 1 [[1,0,2,3],[7,0,2,3,9],[7]] (k:=q (a_call eN (CU)) (q (nH (zi:=QQ)) (ai 1 [[1,2,3,4],[2]] (k:=dC 12 mixed (ai 3 [[1]] (k:=Xq (ti:=kZ) (ct:=ai 3 [[2]] (k:=bG 0 (ct:=ak eN (rC) (ct:=ai 3 [[2]] (k:=bG 1 (ct:=ak eN (Am) (ct:=ak eN ((Bj).gd) (ct:=ai 3 [[2,2],[2]] (k:=dG))))))))))))))))))
theorem zY:AC aD true 96 [.list 1 [.list 4 [af 1,af (-6),af 1],.list 4 [af (-6),af 2],.list 4 [af 8]],af (-7),af 0] (.dat (vI 0)):=by
 exact aix 14 Tryz.func96 (k:=ai 0 [[0,0,1,2],[5,0,4,5,6],[2]] (k:=dC 8 mixed (ai 3 [[2]] (k:=ak eN (rC) (ct:=ai 3 [[2]] (k:=ak eN (rF) (ct:=ai 3 [[3,6],[2]] (k:=dG))))))))
theorem Ef:AC aD true 49 [.list 4 [af 1,af (-6),af 1],af (-7),af 0] (.dat (vI 0)):=by
 exact aix 16 Tryz.func49 (k:=ai 0 [[0,0,1,2],[5,0,4,5,6],[6]] (k:=q (a_call eN ((Yu (-7) 0 (-1)))) (ai 1 [[1,0,4,5,6,10],[5]] (k:=dC 6 mixed (ai 3 [[1]] (k:=ak eN ((uM).og.gd) (ct:=ai 3 [[2]] (k:=ak eN (zY) (ct:=ai 3 [[2,6],[2]] (k:=dG))))))))))
theorem rM:AC aD true 58 [.list 4 [af 1,af (-6),af 1]] (.own 2 [aS 1,aS (-6),aS 1]):=by
 refine aix 94 Tryz.func58 (k:=ai 0 [[0,0],[3,0,2],[4]] (k:=q (a_call eN ((iM).gd)) (ai 1 [[1,0,2],[3]] (k:=q (a_call eN ((qp (z:=1) (by decide) (by decide)))) (ai 1 [[2,0,2,3],[7,0,2,3,21,22,23],[7,0,2,3,21,22,23,24],[13,0,2,3,5,21,22,23],[2]] (k:=dC 15 mixed (ai 3 [[1]] (k:=bG 1 (e:=aS 1) (ct:=ai 3 [[2]] (k:=bG 1 (e:=aS 1) (ct:=ak eN ((wZ (x:=1) (y:=1) (by decide +kernel) (by decide +kernel)).eq (congrArg (fun z=>F.dat (aS z)) (show ((eK (1:Int).natAbs (1:Int).natAbs:Nat):Int) = (1:Int) by decide +kernel))) (ct:=ak eN ((kG (a:=1) (b:=1) (by decide +kernel) (by decide +kernel) (by decide +kernel) (by decide +kernel)).eq (congrArg (fun z=>F.bT [aS z,aS 0,vI 0]) (show (1:Int) / (1:Int) = (1:Int) by decide +kernel))) (ct:=ai 3 [[10,0,2,3,6,21,22,23],[4]] (k:=q (a_call eN ((lC (x:=1) (y:=1) (by decide +kernel) (by decide +kernel)).eq (congrArg (fun z=>F.dat (aS z)) (show (1:Int) * (1:Int) = (1:Int) by decide +kernel)))) ?_))))))))))))));refine ai 1 [[1,0,2,3,21,22,23],[5,0,2,3,21,22,23],[5,0,2,3,21,22,23,24],[13,0,2,3,5,21,22,23],[2]] (k:=dC 15 mixed (ai 3 [[1]] (k:=bG 1 (e:=aS 1) (ct:=ai 3 [[2]] (k:=bG 1 (e:=aS 1) (ct:=ak eN ((wZ (x:=1) (y:=1) (by decide +kernel) (by decide +kernel)).eq (congrArg (fun z=>F.dat (aS z)) (show ((eK (1:Int).natAbs (1:Int).natAbs:Nat):Int) = (1:Int) by decide +kernel))) (ct:=ak eN ((kG (a:=1) (b:=1) (by decide +kernel) (by decide +kernel) (by decide +kernel) (by decide +kernel)).eq (congrArg (fun z=>F.bT [aS z,aS 0,vI 0]) (show (1:Int) / (1:Int) = (1:Int) by decide +kernel))) (ct:=ai 3 [[10,0,2,3,6,21,22,23],[4]] (k:=q (a_call eN ((lC (x:=1) (y:=1) (by decide +kernel) (by decide +kernel)).eq (congrArg (fun z=>F.dat (aS z)) (show (1:Int) * (1:Int) = (1:Int) by decide +kernel)))) ?_)))))))));refine ai 1 [[1,0,2,3,21,22,23],[5,0,2,3,21,22,23],[5,0,2,3,21,22,23,24],[13,0,2,3,5,21,22,23],[2]] (k:=dC 15 mixed (ai 3 [[1]] (k:=bG 1 (e:=aS 1) (ct:=ai 3 [[2]] (k:=bG 1 (e:=aS 1) (ct:=ak eN ((wZ (x:=1) (y:=1) (by decide +kernel) (by decide +kernel)).eq (congrArg (fun z=>F.dat (aS z)) (show ((eK (1:Int).natAbs (1:Int).natAbs:Nat):Int) = (1:Int) by decide +kernel))) (ct:=ak eN ((kG (a:=1) (b:=1) (by decide +kernel) (by decide +kernel) (by decide +kernel) (by decide +kernel)).eq (congrArg (fun z=>F.bT [aS z,aS 0,vI 0]) (show (1:Int) / (1:Int) = (1:Int) by decide +kernel))) (ct:=ai 3 [[10,0,2,3,6,21,22,23],[4]] (k:=q (a_call eN ((lC (x:=1) (y:=1) (by decide +kernel) (by decide +kernel)).eq (congrArg (fun z=>F.dat (aS z)) (show (1:Int) * (1:Int) = (1:Int) by decide +kernel)))) ?_)))))))));refine ai 1 [[1,0,2,3,21,22,23],[5,0,2,3,21,22,23],[5,0,2,3,21,22,23,24],[7,0,2,3],[5]] (k:=q (BV (n:=3) (p:=3) (q:=3) aav rfl rfl (by decide)) (ai 1 [[1,0,2,3,9],[6]] (k:=?_)));refine sq (fun a W h=>h.afN (s:=10) rfl) (ai 1 [[0,0,2,3,9,10],[7,2,3,9,10,46,47,48],[7,2,3,9,10,46,47,48,49],[15,2,3,9,10,11,12,46,47,48],[5]] (k:=q (aX 1 (e:=aS 1)) (q (a_call eN ((kG (a:=1) (b:=1) (by decide +kernel) (by decide +kernel) (by decide +kernel) (by decide +kernel)).eq (congrArg (fun z=>F.bT [aS z,aS 0,vI 0]) (show (1:Int) / (1:Int) = (1:Int) by decide +kernel)))) ?_)));refine ai 1 [[9,2,3,9,10,11,12,13,46,47,48],[3]] (k:=q (jf) (q aC (q dn (q (aX 0 (e:=aS 1)) (q bM (q (a_call eN ((lC (x:=1) (y:=1) (by decide +kernel) (by decide +kernel)).eq (congrArg (fun z=>F.dat (aS z)) (show (1:Int) * (1:Int) = (1:Int) by decide +kernel)))) ?_))))));refine ai 1 [[2,2,3,9,10,11,46,47,48],[1]] (k:=dC 6 mixed (ai 3 [[5]] (k:=ak eN ((wZ (x:=0) (y:=1) (by decide +kernel) (by decide +kernel)).eq (congrArg (fun z=>F.dat (aS z)) (show ((eK (0:Int).natAbs (1:Int).natAbs:Nat):Int) = (1:Int) by decide +kernel))) (ct:=ai 3 [[2,2,3,9,10,46,47,48],[5,2,3,9,10,46,47,48],[5,2,3,9,10,46,47,48,49],[15,2,3,9,10,11,12,46,47,48],[5]] (k:=q (aX 1 (e:=aS 1)) (q (a_call eN ((kG (a:=1) (b:=1) (by decide +kernel) (by decide +kernel) (by decide +kernel) (by decide +kernel)).eq (congrArg (fun z=>F.bT [aS z,aS 0,vI 0]) (show (1:Int) / (1:Int) = (1:Int) by decide +kernel)))) ?_))))));refine ai 1 [[9,2,3,9,10,11,12,13,46,47,48],[3]] (k:=q (jf) (q aC (q dn (q (aX 0 (e:=aS (-6))) (q bM (q (a_call eN ((lC (x:=-6) (y:=1) (by decide +kernel) (by decide +kernel)).eq (congrArg (fun z=>F.dat (aS z)) (show (-6:Int) * (1:Int) = (-6:Int) by decide +kernel)))) ?_))))));refine ai 1 [[2,2,3,9,10,11,46,47,48],[1]] (k:=dC 6 mixed (ai 3 [[5]] (k:=ak eN ((wZ (x:=1) (y:=-6) (by decide +kernel) (by decide +kernel)).eq (congrArg (fun z=>F.dat (aS z)) (show ((eK (1:Int).natAbs (-6:Int).natAbs:Nat):Int) = (1:Int) by decide +kernel))) (ct:=ai 3 [[2,2,3,9,10,46,47,48],[5,2,3,9,10,46,47,48],[5,2,3,9,10,46,47,48,49],[15,2,3,9,10,11,12,46,47,48],[5]] (k:=q (aX 1 (e:=aS 1)) (q (a_call eN ((kG (a:=1) (b:=1) (by decide +kernel) (by decide +kernel) (by decide +kernel) (by decide +kernel)).eq (congrArg (fun z=>F.bT [aS z,aS 0,vI 0]) (show (1:Int) / (1:Int) = (1:Int) by decide +kernel)))) ?_))))));refine ai 1 [[9,2,3,9,10,11,12,13,46,47,48],[3]] (k:=q (jf) (q aC (q dn (q (aX 0 (e:=aS 1)) (q bM (q (a_call eN ((lC (x:=1) (y:=1) (by decide +kernel) (by decide +kernel)).eq (congrArg (fun z=>F.dat (aS z)) (show (1:Int) * (1:Int) = (1:Int) by decide +kernel)))) ?_))))));refine ai 1 [[2,2,3,9,10,11,46,47,48],[1]] (k:=dC 6 mixed (ai 3 [[5]] (k:=ak eN ((wZ (x:=1) (y:=1) (by decide +kernel) (by decide +kernel)).eq (congrArg (fun z=>F.dat (aS z)) (show ((eK (1:Int).natAbs (1:Int).natAbs:Nat):Int) = (1:Int) by decide +kernel))) (ct:=ai 3 [[2,2,3,9,10,46,47,48],[5,2,3,9,10,46,47,48],[5,2,3,9,10,46,47,48,49],[7,2,9,10],[4]] (k:=q (jf) (ai 1 [[2,2,9,10,75,76,77],[7,2,9,10,75,76,77,78],[15,2,9,10,16,17,75,76,77],[2]] (k:=q (jf) (ai 1 [[3]] (k:=q (a_call eN ((kG (a:=1) (b:=1) (by decide +kernel) (by decide +kernel) (by decide +kernel) (by decide +kernel)).eq (congrArg (fun z=>F.bT [aS z,aS 0,vI 0]) (show (1:Int) / (1:Int) = (1:Int) by decide +kernel)))) ?_)))))))));refine ai 1 [[6,2,9,10,75,76,77],[5,2,9,10,75,76,77],[5,2,9,10,75,76,77,78],[15,2,9,10,16,17,75,76,77],[2]] (k:=q (jf) (ai 1 [[3]] (k:=q (a_call eN ((kG (a:=-6) (b:=1) (by decide +kernel) (by decide +kernel) (by decide +kernel) (by decide +kernel)).eq (congrArg (fun z=>F.bT [aS z,aS 0,vI 0]) (show (-6:Int) / (1:Int) = (-6:Int) by decide +kernel)))) ?_)));refine ai 1 [[6,2,9,10,75,76,77],[5,2,9,10,75,76,77],[5,2,9,10,75,76,77,78],[15,2,9,10,16,17,75,76,77],[2]] (k:=q (jf) (ai 1 [[3]] (k:=q (a_call eN ((kG (a:=1) (b:=1) (by decide +kernel) (by decide +kernel) (by decide +kernel) (by decide +kernel)).eq (congrArg (fun z=>F.bT [aS z,aS 0,vI 0]) (show (1:Int) / (1:Int) = (1:Int) by decide +kernel)))) ?_)));exact ai 1 [[6,2,9,10,75,76,77],[5,2,9,10,75,76,77],[5,2,9,10,75,76,77,78],[7,2,9],[5,2],[2]] (k:=KZ)
section
variable {P:Program} {ops:Array Oper} {kw:Bool} {X0:XS} {w0:World} {m:Nat} {Γ Γ':fA} {a a':Act} {W W':World} {o:Oper} {d s:Nat}
theorem PO (ho:o.op = .buildSlice 68 1 #[(0,.const (.int .u32 1))]:=by rfl) (hd:o.dst = some d:=by rfl) (hdm:d < m:=by decide) (hn:aB Γ d = true:=by rfl):dB aD true X0 w0 m Γ o ((d,.dat (.mag 1)) :: Γ):=by
 intro a W hs;obtain ⟨X,Ow,hx⟩:=hs.x;obtain ⟨i0,hi0,hm⟩:=Option.map_eq_some_iff.1 fJ;injection hm with e1 e2
 injection e2 with e2 e3
 have hr:(execOp a.eval o).run aD W = .ok (.value (.slice (some ⟨W.heap.size,0,none⟩) 1 1)) (W.alloc (.cells #[.int .u32 1] 76)):=by
  simp [execOp,ho,cP,Instr.buildSlice,run_underlying Tryz.underlying68,sizeOf,typeInfo,zeroValue,hi0,e1,e2,newRow,Instr.fill,Value.cells,Builtin.zeroCells];have hR:Array.range 1 = #[0]:=by decide
  simp [hR]
 unfold oC;rw [hr,hd];refine (hx.OB hdm hn (Below.alloc1 W _) ?_).fs;refine jW rfl ⟨_,_,_,[1],rfl,?_,?_,rfl⟩
 · have hc:=bW (es:=[.int .u32 1]) (alloc_at W (.cells #[.int .u32 1] 76)) 0;refine ⟨⟨by simp [us],fun _=>⟨_,rfl,fun j v hj=>?_⟩⟩,a6 _,by intro x hx;simp at hx;omega⟩;have hj0:j = 0:=by
    have:=(aM.1 hj).1;simp [us] at this;omega
   subst hj0;simp [us] at hj;rw [← hj];exact hc
 · rfl
end
theorem qf:AC aD true 17 [.agg [.list 2 [aS 1,aS (-6),aS 1],vI 0]] (.dat (vI 1)):=by
 refine aix 56 Tryz.func17 (k:=ai 0 [[0,0],[4,1,2],[4,1,2,3],[4]] (k:=q (dn (fi:=abt)) (q (aX 0 (ti:=nN)) (ai 1 [[2,1,2,3,11,12,13],[7,1,2,3,11,12,13,14],[10]] (k:=q (fO (e:=aS 1)) (ai 1 [[2,1,2,3,5,11,12,13],[4]] (k:=q (PO) (q (Iu) (q (a_call eN ((JE (n:=1) (d:=1) (by decide +kernel) (by decide +kernel) (by decide)).eq (congrArg (fun z=>F.bT [af z,vI 0]) (show fI (1) (1) = (1:Rat) by decide +kernel)))) ?_)))))))));refine ai 1 [[6,1,2,3,6,7,11,12,13],[6,1,2,3,6,11,12,13,25],[7]] (k:=q (jM (xs:=[.tmp 27]) (es:=[af 1]) aW) ?_);refine sq (fun a W h=>h.lF (s:=26) (k:=4) rfl) (q (iI (l2:=[af 1]) aW (hb:=by decide) (hu2:=rfl)) (ai 1 [[1,1,2,3,11,12,13],[5,1,2,3,11,12,13],[5,1,2,3,11,12,13,14],[10]] (k:=q (fO (e:=aS (-6))) (ai 1 [[2,1,2,3,5,11,12,13],[4]] (k:=q (PO) (q (Iu) (q (a_call eN ((JE (n:=-6) (d:=1) (by decide +kernel) (by decide +kernel) (by decide)).eq (congrArg (fun z=>F.bT [af z,vI 0]) (show fI (-6) (1) = (-6:Rat) by decide +kernel)))) ?_)))))));refine ai 1 [[6,1,2,3,6,7,11,12,13],[6,1,2,3,6,11,12,13,25],[7]] (k:=q (jM (xs:=[.tmp 27]) (es:=[af (-6)]) aW) (q (iI (l2:=[af (-6)]) aW (hb:=by decide) (hu2:=rfl)) (ai 1 [[1,1,2,3,11,12,13],[5,1,2,3,11,12,13],[5,1,2,3,11,12,13,14],[10]] (k:=q (fO (e:=aS 1)) (ai 1 [[2,1,2,3,5,11,12,13],[4]] (k:=q (PO) (q (Iu) (q (a_call eN ((JE (n:=1) (d:=1) (by decide +kernel) (by decide +kernel) (by decide)).eq (congrArg (fun z=>F.bT [af z,vI 0]) (show fI (1) (1) = (1:Rat) by decide +kernel)))) ?_))))))));refine ai 1 [[6,1,2,3,6,7,11,12,13],[6,1,2,3,6,11,12,13,25],[7]] (k:=q (jM (xs:=[.tmp 27]) (es:=[af 1]) aW) (q (iI (l2:=[af 1]) aW (hb:=by decide) (hu2:=rfl)) (ai 1 [[1,1,2,3,11,12,13],[5,1,2,3,11,12,13],[5,1,2,3,11,12,13,14],[7,1,2,3],[3]] (k:=q (a_call eN ((nT 0 0))) (ai 1 [[2,1,2,3,8],[2]] (k:=?_))))));exact CT.fs (dC 7 mixed (ai 3 [[2]] (k:=ak eN (pX) (ct:=ak eN ((Xx 7 (-7))) (ct:=ai 3 [[1]] (k:=ak eN (Ef) (ct:=ai 3 [[2,1,2,3,8,9],[5]] (k:=q (dn (fi:=abo)) (q (aX 1 (ti:=Fb)) (q aC (q (adr) (ai 1 [[1,1,2,3,8,9,38],[5,2],[4]] (k:=dG))))))))))))) (fun a W h=>h.qK (s:=3) rfl)
theorem Dt:∀ {Γ Γ':fA} {s:Nat} {f:F},lk (Γ ++ Γ') s = some f→lk Γ s = some f∨lk Γ' s = some f
 | [],_,_,_,h=>.inr h
 | (s',f') :: Γ,Γ',s,f,h=>by
  rw [bX] at h;simp only [lk] at h ⊢
  split at h
  · rename_i e;rw [if_pos e];exact .inl h
  · rename_i e;rw [if_neg e];exact Dt h
section
variable {P:Program} {ops:Array Oper} {kw:Bool} {X0:XS} {w0:World} {m:Nat} {Γ Γ':fA} {a a':Act} {W W':World} {X X':XS} {Ow Ow':Nat→Option Nat} {o:Oper} {d s:Nat}
theorem X4 (hX:∀ b o,X b o→b < W.heap.size) (h1:a.tmps.size = m) (h2:a.defers = []) (hf:∀ s f,lk Γ s = some f→ah kw X W (fun _=>none) (bY a) s f):FSq kw X W m Γ a W :=
 ⟨h1,h2,Below.refl _ _,hX,X,fun _=>none,⟨fun _ _ h=>h,fun _ _ h=>.inl h,fun _ _ _ h=>(by cases h),fun _ _ h=>(by cases h)⟩,hf⟩
theorem FSq.GI {g:Nat} {e:D} (h:FSq kw X0 w0 m Γ a W) (hl:lk Γ s = some (.box e)) (hns:aB Γ s = true) (hng:aB Γ g = true) (hne:s≠g):∃ p:{v:Value // (D.val v).kJ = true},FSq kw X0 w0 m ((s,.dat (.val p.1)) :: (g,.aan p.1 (.box e)) :: Γ) a W:=by
 obtain ⟨X,Ow,hx⟩:=h.x;have hf:=hx.facts s _ hl;unfold ah at hf;obtain ⟨b,es,t,g1,g3,g4⟩:=hf;refine ⟨⟨bY a s,by rw [g3];rfl⟩,(hx.pass (t:=s) (g:=g) (f:=.dat (.val (bY a s))) (f':=.aan (bY a s) (.box e)) hns hng hne ?_ ?_).fs⟩
 · unfold ah;refine dh ?_;rw [g3];rfl
 · unfold ah;unfold ah;exact ⟨b,es,t,by simp [g1],g3,g4⟩
theorem Hm {g:Nat} {p:Value} {e:D} (hs:lG kw X0 w0 m Γ a W X Ow) (hg:lk Γ g = some (.aan p (.box e))) :
 ∃ b es t,Ow g = some b∧p = .pointer (some ⟨b,0,none⟩)∧W.heap[b]? = some (.cells es.toArray t (0,0))∧aU kw X W e es∧Qs kw es∧∀ o,X b o:=by
 have hf:=hs.facts g _ hg;unfold ah at hf;unfold ah at hf;exact hf
theorem Yh {T g off:Nat} {p:Value} {e:D} (ho:o.op = .fieldAddr T (.tmp s) i) (hd:o.dst = some d) (hdm:d < m) (hn:aB Γ d = true) (hf:FI P T i off) (hl:lk Γ s = some (.dat (.val p))) (hg:lk Γ g = some (.aan p (.box e))):dB P kw X0 w0 m Γ o ((d,.sub g off) :: Γ) :=
 bK hd hdm hn rfl fun a W X Ow hs=>by
  obtain ⟨b,es,t,h1,h2,-⟩:=Hm hs hg;have h2':a.eval (.tmp s) = .pointer (some ⟨b,0,none⟩):=(hs.fs.val hl).trans h2;exact ⟨.pointer (some ⟨b,0 + off,none⟩),by simp [execOp,ho,h2',qW hf],by unfold ah;exact ⟨b,h1,by simp⟩⟩
theorem abJ {g:Nat} {p:Value} {e:D} (ho:o.op = .nilCheck (.tmp s)) (hd:o.dst = some d) (hdm:d < m) (hn:aB Γ d = true) (hl:lk Γ s = some (.dat (.val p))) (hg:lk Γ g = some (.aan p (.box e))):dB P kw X0 w0 m Γ o ((d,.dat (.val p)) :: Γ) :=
 bK hd hdm hn rfl fun a W X Ow hs=>by
  obtain ⟨b,es,t,h1,h2,-⟩:=Hm hs hg;have h2':a.eval (.tmp s) = .pointer (some ⟨b,0,none⟩):=(hs.fs.val hl).trans h2;exact ⟨p,by rw [h2];simp [execOp,ho,h2'],gI (by rw [h2];rfl)⟩
theorem Xr {T g o':Nat} {p:Value} {e0 e:D} (ho:o.op = .load T (.tmp s)) (hd:o.dst = some d) (hdm:d < m) (hn:aB Γ d = true) (ti:TI P T e.width e.isAgg) (hl:lk Γ s = some (.sub g o')) (hl':lk Γ g = some (.aan p (.box e0))) (hp:ji e0 o' e):dB P kw X0 w0 m Γ o ((d,.dat e) :: Γ) :=
 bK hd hdm hn rfl fun a W X Ow hs=>by
  have h:=hs.facts s _ hl;unfold ah at h;obtain ⟨b,h1,h2⟩:=h;obtain ⟨b',es,t,g1,g2,g3,g4,g5⟩:=Hm hs hl';obtain rfl:b = b':=bk (h1.symm.trans g1);have h2':a.eval (.tmp s) = .pointer (some ⟨b,o',none⟩):=h2;have h3:=hp kw X W es g4;refine ⟨D.mk e ((es.drop o').take e.width),?_,by unfold ah;exact ⟨_,h3,rfl⟩⟩;simp only [execOp,ho,h2',iU ti h3.len width_one (fun j v hj=>by
   rw [bW g3];have hlt:j < e.width:=by have:=(aM.1 hj).1;simp at this;omega
   rw [cj,if_pos hlt,eB] at hj;exact hj),rO,bw,a8,bs]
theorem aeQ {p:Value} (ho:o.op = .makeFunc (.func f) #[] #[.tmp s]) (hd:o.dst = some d) (hdm:d < m) (hn:aB Γ d = true) (hl:lk Γ s = some (.dat (.val p))):dB P kw X0 w0 m Γ o ((d,.dat (.val (.func (.func f) #[] #[p]))) :: Γ) :=
 bK hd hdm hn rfl fun a W X Ow hs=>by
  have h2':=hs.fs.val hl;exact ⟨.func (.func f) #[] #[p],by simp [execOp,ho,h2',Instr.makeFunc],gI rfl⟩
theorem Hw {g gd:Nat} {want b:Bool} {f:F} {l:List Oper} {acc:List Hd} {K:List Hd→fA→Prop} (Fs:List (Nat × F)) (hF:Has Γ Fs) (h:∀ Γ',Has Γ' Fs→aB Γ' d = true→dB P kw X0 w0 m Γ' o ((d,f) :: Γ')) (hg:o.guard = some (g,want):=by rfl) (hgd:(ops[g]?).bind (·.dst) = some gd:=by rfl) (hl:lk Γ gd = some (.dat (.val (.bool b))):=by rfl) (hd:o.dst = some d:=by rfl) (hb:b = want:=by decide) (ct:HT P ops kw X0 w0 m (⟨(gd,.dat (.val (.bool b))) :: Fs,d,f,false⟩ :: acc) ((d,f) :: Γ) l K):HT P ops kw X0 w0 m acc Γ (o :: l) K :=
 HT.cons (h:=⟨(gd,.dat (.val (.bool b))) :: Fs,d,f,false⟩) rfl hd (fun Γ' h' hn' a W hs=>by
  have hv:=hs.val h'.1;have hy:yielded ops a.tmps g = some b:=by
   unfold yielded;rw [hgd];simp only [cP,bj] at hv;cases ht:a.tmps[gd]? with
   | none=>rw [ht] at hv;cases hv
   | some x=>rw [ht] at hv;simp at hv;subst hv;simp [ht]
  have hw:eh o (yielded ops a.tmps) = true:=by
   unfold eh;rw [hg];simp only [hy,hb];cases want <;> rfl
  rw [if_pos hw];exact h Γ' h'.2 hn' a W hs) ⟨hl,hF⟩ ct
variable (P kw) in
def Wx (f:FuncId) (ds:List D) (e:D) (R:F):Prop :=
 ∀ (X:XS) (w:World) (vs:List Value) (b:Nat) (es:List Value) (t:TypeId),(∀ b o,X b o→b < w.heap.size)→tN kw X w vs ds→w.heap[b]? = some (.cells es.toArray t (0,0))→aU kw X w e es →
  Calls P f (vs ++ [bc (some ⟨b,0,none⟩)]).toArray w fun en w'=>Below w.heap.size w w'∧∃ v,en = .returned v∧KX kw X w w' v R
theorem Z8 {fn:Func} {e:D} {vs:List Value} {b:Nat} {es:List Value} {t:TypeId} (hm:fn.ntmps = m) (hle:ds.length + 1≤m) (hX:∀ b o,X b o→b < W.heap.size) (hr:tN kw X W vs ds) (hh:W.heap[b]? = some (.cells es.toArray t (0,0))) (hd:aU kw X W e es) :
 FSq kw (fun b' o=>X b' o∧b'≠b) W m (DY 0 ds ++ [(ds.length,.ptr e)]) { tmps:=(vs ++ [bc (some ⟨b,0,none⟩)]).toArray ++ av (fn.ntmps - (vs ++ [bc (some ⟨b,0,none⟩)]).toArray.size) undef,defers:=[] } W:=by
 have hvl:vs.length = ds.length:=by
  clear hle
  induction vs generalizing ds with
  | nil=>cases ds <;> first | rfl | exact hr.elim
  | cons v vs ih=>cases ds with
   | nil=>exact hr.elim
   | cons d ds=>simp [ih hr.2]
 have tr:Tr kw X (fun b' o=>X b' o∧b'≠b) W W:=Tr.chg fun _ _ _ h=>h.1
 refine X4 (fun b o h=>hX b o h.1) (by simp;omega) rfl fun s f hl=>?_
 rcases Dt hl with hl | hl
 · obtain ⟨j,d,h1,h2,rfl⟩:=G8 hl;obtain ⟨v,h3,h4⟩:=hr.nth h2;unfold ah;have hj:j < vs.length:=(aM.1 h3).1;have:(Act.mk ((vs ++ [bc (some ⟨b,0,none⟩)]).toArray ++ av (fn.ntmps - (vs ++ [bc (some ⟨b,0,none⟩)]).toArray.size) undef) []).eval (.tmp s) = v:=by
    have h5:s = j:=by omega
    subst h5;simp only [cP,bj];rw [bE (by simp;omega)];simp [eT hj,h3]
   rw [show bY (Act.mk ((vs ++ [bc (some ⟨b,0,none⟩)]).toArray ++ av (fn.ntmps - (vs ++ [bc (some ⟨b,0,none⟩)]).toArray.size) undef) []) s = v from this];exact h4.tr tr
 ·
  unfold lk at hl
  split at hl
  · rename_i hs;injection hl with hl
    subst hl;have:(Act.mk ((vs ++ [bc (some ⟨b,0,none⟩)]).toArray ++ av (fn.ntmps - (vs ++ [bc (some ⟨b,0,none⟩)]).toArray.size) undef) []).eval (.tmp s) = .pointer (some ⟨b,0,none⟩):=by
     simp only [cP,bj];rw [bE (by simp;omega)];simp [← hs,← hvl]
    unfold ah;exact ⟨b,0,es,this,fun j v hj=>⟨fun h=>h.2 rfl,by rw [aR,bW hh];exact hj⟩,aU.tr tr _ _ hd⟩
  · cases hl
theorem Z5 {fn:Func} {c:Code} {e:D} (hf:P.funcs[f]? = some fn) (hb:fn.body = some c) (hm:fn.ntmps = m) (hle:ds.length + 1≤m) (hp:D.Ah.pureWs l = true) (h:∀ (X0:XS) (w0:World),(∀ b o,X0 b o→b < w0.heap.size)→CT P kw X0 w0 m (DY 0 ds ++ [(ds.length,.ptr e)]) c (RQ P kw X0 w0 fn (.grow k l))):Wx P kw f ds e (.grow k l):=by
 intro X w vs b es t hX hr hh hd;refine (calls_of_wp hf hb (h _ w (fun b o h=>hX b o h.1) _ w (Z8 hm hle hX hr hh hd))).mono ?_;rintro en w' ⟨h1,v,h2,S,ob,hS,hob,hF⟩;refine ⟨h1,v,h2,S,ob,hS,hob,?_⟩;unfold ah at hF ⊢;obtain ⟨hk,⟨e1,e2⟩ | ⟨b2,c2,es2,t2,g1,g2,g3,g5,g6,g7,g8,g9⟩⟩:=hF
 · exact ⟨hk,.inl ⟨e1,e2⟩⟩
 ·
  refine ⟨hk,.inr ⟨b2,c2,es2,t2,g1,g2,g3,g5,g6,aF.free _ _ hp g7,g8,fun o=>?_⟩⟩;rw [← g9 o];simp only [if_true] at g1;obtain ⟨r1,r2⟩:=hob b2 g1;constructor
  · rintro (h | h)
    · have:=hX b2 o h;omega
    · exact .inr h
  · rintro (h | h)
    · exact .inl h.1
    · exact .inr h
theorem acF {fn:Func} {c:Code} {e:D} {u:Value} (hf:P.funcs[f]? = some fn) (hb:fn.body = some c) (hm:fn.ntmps = m) (hle:ds.length + 1≤m) (h:∀ (X0:XS) (w0:World),(∀ b o,X0 b o→b < w0.heap.size)→CT P kw X0 w0 m (DY 0 ds ++ [(ds.length,.ptr e)]) c (RQ P kw X0 w0 fn (.dat (.val u)))):Wx P kw f ds e (.dat (.val u)):=by
 intro X w vs b es t hX hr hh hd;refine (calls_of_wp hf hb (h _ w (fun b o h=>hX b o h.1) _ w (Z8 hm hle hX hr hh hd))).mono ?_;rintro en w' ⟨h1,v,h2,h3⟩;refine ⟨h1,v,h2,KX.dat.2 ?_⟩;have:=gy (KX.dat.1 h3);subst this;obtain ⟨cs,q1,q2⟩:=KX.dat.1 h3;exact ⟨cs,by unfold aU at q1 ⊢;exact q1,q2⟩
theorem MW {g:Nat} {p:Value} {e:D} {xs:List Operand} {ts:Array TypeId} {R:F} (ho:o.op = .call { callee:=.value (.tmp s),args:=xs.toArray,argTypes:=ts }) (hd:o.dst = some d) (hdm:d < m) (hn:aB Γ d = true) (hl:lk Γ s = some (.dat (.val (.func (.func f) #[] #[p])))) (hg:lk Γ g = some (.aan p (.box e))) (eg:∀ args w,(callFunc f args).run P w = .ok (.enter f args) w) (hx:vz kw X0 w0 m Γ xs ds) (hR:R.Zt = true) (h:Wx P kw f ds e R):dB P kw X0 w0 m Γ o ((d,R) :: Γ):=by
 intro a W hs;obtain ⟨X,Ow,hF⟩:=hs.x;have hv:=hs.val hl;obtain ⟨b,es,t,g1,rfl,g3,g4,-⟩:=Hm hF hg;have hr:(execOp a.eval o).run P W = .ok (.enter f (xs.map a.eval ++ [bc (some ⟨b,0,none⟩)]).toArray) W:=by
  simp [execOp,ho,resolve,hv,dp,invoke,eg]
 unfold oC;rw [hr];refine (h X W (xs.map a.eval) b es t (fun b o hx=>hF.env.lt hF.x0 hF.below hx) (hx.V6 hF) g3 g4).mono ?_;rintro e w' ⟨hb,v,rfl,hres⟩;refine ⟨v,rfl,?_⟩;rw [hd];exact hF.ret hdm hn hb hR hres
theorem Zc {e:D} {ts:Array TypeId} {R:F} (ho:o.op = .call { callee:=.value (.func f),args:=#[.tmp s],argTypes:=ts }) (hd:o.dst = some d) (hdm:d < m) (hn:aB Γ d = true) (hl:lk Γ s = some (.box e)) (eg:∀ args w,(callFunc f args).run P w = .ok (.enter f args) w) (hR:R.Zt = true) (h:Wx P kw f [] e R):dB P kw X0 w0 m Γ o ((d,R) :: Γ):=by
 intro a W hs;obtain ⟨X,Ow,hF⟩:=hs.x;have hv:=hF.facts s _ hl;unfold ah at hv;obtain ⟨b,es,t,g1,g2,g3,g4,-⟩:=hv;have g2':a.tmps.getD s undef = .pointer (some ⟨b,0,none⟩):=g2;have hr:(execOp a.eval o).run P W = .ok (.enter f ([] ++ [bc (some ⟨b,0,none⟩)]).toArray) W:=by
  simp [execOp,ho,resolve,cP,dp,invoke,eg,g2']
 unfold oC;rw [hr];refine (h X W [] b es t (fun b o hx=>hF.env.lt hF.x0 hF.below hx) trivial g3 g4).mono ?_;rintro e w' ⟨hb,v,rfl,hres⟩;refine ⟨v,rfl,?_⟩;rw [hd];exact hF.ret hdm hn hb hR hres
end
theorem ab9 {t:Tw n} {x y:El n} (hn:n≤8) (ht:PT t σ) (hR:dW t) (hk:bD σ≤2199023255551) (ho:KY lU 2199023255551 σ) (hx:ny x) (hy:ny y):AC aD true 59 [bV t,.list 1 [bF x,bF y]] (.dat (vB true)):=by
 refine aix 20 Tryz.func59 (k:=ai 0 [[0,0,1],[3,0,1,4],[5]] (k:=q (aI (n:=2) (hlen:=rfl)) (ai 1 [[1,0,4,7,8,9],[2]] (k:=?_))));refine CT.weak (aZ (ι:=Nat) (fun i=>[(0,.dat (bV t)),(7,.dat (.list 1 [bF x,bF y])),(8,.dat (vI 2)),(9,.dat (vI i))]) (fun i=>i≤2) (fun i=>2 - i) ?_ (0) (Nat.zero_le _)) (sbk [0,7,8,9]);intro i hi;refine ai 0 [[0,0,7,8,9],[3,0,7,8,9,10],[2]] (k:=?_);refine bu (fun hc10=>?_) (fun hc10=>?_)
 ·
  refine ai 0 [[6]] (k:=?_);obtain ⟨z,hz,hzr⟩:∃ z,[bF x,bF y][i]? = some (bF z)∧ny z:=by
   have:i = 0∨i = 1:=by omega
   rcases this with rfl | rfl
   · exact ⟨x,rfl,hx⟩
   · exact ⟨y,rfl,hy⟩
  refine q (dZ (z:=(i:Int)) (i:=i) (es:=[bF x,bF y]) (e:=bF z) rfl hz) (ai 1 [[2,0,6,7,8,9],[5]] (k:=q (a_call eN (zX (x:=z) hn ht hk hzr)) (ai 1 [[1,0,7,8,9,16],[6]] (k:=q (bH) (q aC (gU [0,7,8,9] (k:=?_)))))));exact aY (i + 1) ⟨by omega,by omega⟩ (sbk [0,7,8,9])
 · exact ai 0 [[8]] (k:=q (a_call eN (XF hn ht hR (by omega) ho)) (ai 1 [[1,4],[2]] (k:=dG)))
theorem W9 {t:Tw n} {x y:El n} {s:Nat} (hn:n≤8) (ht:PT t σ) (hR:dW t) (hkp:bD σ≤2199023255551) (ho:KY lU 2199023255551 σ) (hx:ny x) (hy:ny y) (hs:sz (kX x y) s) (hk:lU σ s≤2199023255551):AC aD true 30 [bV t,bF x,bF y] (.dat (vI (aJ t (kX x y)))):=by
 exact aix 19 Tryz.func30 (k:=ai 0 [[0,0,1,2],[3,0,1,2,6],[7]] (k:=q (jM (xs:=[.tmp 8,.tmp 9]) (es:=[bF x,bF y]) gm) (q (a_call eN (ab9 hn ht hR hkp ho hx hy)) (ai 1 [[1,0,1,2,6,12],[10]] (k:=q (a_call eN (KJ hn ht hkp hx hy)) (q (a_call eN (Ry hn ht hs hk)) (ai 1 [[1,6],[2]] (k:=dG))))))))
section
variable {P:Program} {ops:Array Oper} {kw:Bool} {X0:XS} {w0:World} {m:Nat} {Γ Γ':fA} {a a':Act} {W W':World} {o:Oper} {d s:Nat} {l:List Oper} {acc:List Hd} {K:List Hd→fA→Prop} {Q:Exit→Act→World→Prop}
theorem yT {ι:Sort _} {Γ':ι→fA} {c:Code} (h:∀ a W,FSq kw X0 w0 m Γ a W→∃ i,FSq kw X0 w0 m (Γ' i) a W) (k:∀ i,CT P kw X0 w0 m (Γ' i) c Q):CT P kw X0 w0 m Γ c Q:=fun a W hs=>let ⟨i,hi⟩:=h a W hs;k i a W hi
theorem agK {p:Value} (ho:o.op = .makeFunc (.func f) #[] #[.tmp s]:=by rfl) (hd:o.dst = some d:=by rfl) (hdm:d < m:=by decide) (hn:aB Γ d = true:=by rfl) (hl:lk Γ s = some (.dat (.val p)):=by rfl):dB P kw X0 w0 m Γ o ((d,.dat (.val (.func (.func f) #[] #[p]))) :: Γ) :=
 aeQ ho hd hdm hn hl
theorem AQ {T off:Nat} {p:Value} {e:D} (g:Nat) (ho:o.op = .fieldAddr T (.tmp s) i:=by rfl) (hd:o.dst = some d:=by rfl) (hdm:d < m:=by decide) (hn:aB Γ d = true:=by rfl) (hl:lk Γ s = some (.dat (.val p)):=by rfl) (hg:lk Γ g = some (.aan p (.box e)):=by rfl) (fi:FI aD T i off:=by first | exact qY | exact rG | exact mG | exact xP):dB aD kw X0 w0 m Γ o ((d,.sub g off) :: Γ) :=
 Yh ho hd hdm hn fi hl hg
theorem iH {T off:Nat} {p:Value} {e:D} (g:Nat) (ho:o.op = .fieldAddr T (.tmp s) i:=by rfl) (hG:o.guard = none:=by rfl) (hd:o.dst = some d:=by rfl) (hdm:d < m:=by decide) (hl:lk Γ s = some (.dat (.val p)):=by rfl) (hg:lk Γ g = some (.aan p (.box e)):=by rfl) (fi:FI aD T i off:=by first | exact qY | exact rG | exact mG | exact xP) (ct:HT aD ops kw X0 w0 m (⟨[(s,.dat (.val p)),(g,.aan p (.box e))],d,.sub g off,false⟩ :: acc) ((d,.sub g off) :: Γ) l K):HT aD ops kw X0 w0 m acc Γ (o :: l) K :=
 HT.cons (h:=⟨[(s,.dat (.val p)),(g,.aan p (.box e))],d,.sub g off,false⟩) rfl hd (fun Γ h hn'=>(Yh ho hd hdm hn' fi h.1 h.2.1).g hG) ⟨hl,hg,trivial⟩ ct
theorem jd {p:Value} {e:D} (g:Nat) (ho:o.op = .nilCheck (.tmp s):=by rfl) (hG:o.guard = none:=by rfl) (hd:o.dst = some d:=by rfl) (hdm:d < m:=by decide) (hl:lk Γ s = some (.dat (.val p)):=by rfl) (hg:lk Γ g = some (.aan p (.box e)):=by rfl) (ct:HT P ops kw X0 w0 m (⟨[(s,.dat (.val p)),(g,.aan p (.box e))],d,.dat (.val p),false⟩ :: acc) ((d,.dat (.val p)) :: Γ) l K):HT P ops kw X0 w0 m acc Γ (o :: l) K :=
 HT.cons (h:=⟨[(s,.dat (.val p)),(g,.aan p (.box e))],d,.dat (.val p),false⟩) rfl hd (fun Γ h hn'=>(abJ ho hd hdm hn' h.1 h.2.1).g hG) ⟨hl,hg,trivial⟩ ct
theorem Ak {T g o':Nat} {p:Value} {e0 e:D} (i:Nat) (ho:o.op = .load T (.tmp s):=by rfl) (hd:o.dst = some d:=by rfl) (hdm:d < m:=by decide) (hn:aB Γ d = true:=by rfl) (hl:lk Γ s = some (.sub g o'):=by rfl) (hl':lk Γ g = some (.aan p (.box e0)):=by rfl) (hx:e0.DX i = some e:=by rfl) (ho2:e0.uT i = o':=by rfl) (ti:TI aD T e.width e.isAgg:=by first | exact kQ | exact nM):dB aD kw X0 w0 m Γ o ((d,.dat e) :: Γ) :=
 Xr ho hd hdm hn ti hl hl' (ji.DX hx ho2)
theorem iG {T g o':Nat} {p:Value} {e0 e:D} (i:Nat) (ho:o.op = .load T (.tmp s):=by rfl) (hG:o.guard = none:=by rfl) (hd:o.dst = some d:=by rfl) (hdm:d < m:=by decide) (hl:lk Γ s = some (.sub g o'):=by rfl) (hl':lk Γ g = some (.aan p (.box e0)):=by rfl) (hx:e0.DX i = some e:=by rfl) (ho2:e0.uT i = o':=by rfl) (ti:TI aD T e.width e.isAgg:=by first | exact kQ | exact nM) (ct:HT aD ops kw X0 w0 m (⟨[(s,.sub g o'),(g,.aan p (.box e0))],d,.dat e,false⟩ :: acc) ((d,.dat e) :: Γ) l K):HT aD ops kw X0 w0 m acc Γ (o :: l) K :=
 HT.cons (h:=⟨[(s,.sub g o'),(g,.aan p (.box e0))],d,.dat e,false⟩) rfl hd (fun Γ h hn'=>(Xr ho hd hdm hn' ti h.1 h.2.1 (ji.DX hx ho2)).g hG) ⟨hl,hl',trivial⟩ ct
theorem aaw {p:Value} {e:D} {t:Nat} {ts:Array TypeId} {d1:D} {R:F} (g:Nat) (en:EN f) (hA:Wx aD kw f [d1] e R) (ho:o.op = .call { callee:=.value (.tmp s),args:=[.tmp t].toArray,argTypes:=ts }:=by rfl) (hG:o.guard = none:=by rfl) (hd:o.dst = some d:=by rfl) (hdm:d < m:=by decide) (hl:lk Γ s = some (.dat (.val (.func (.func f) #[] #[p]))):=by rfl) (hg:lk Γ g = some (.aan p (.box e)):=by rfl) (hx:lk Γ t = some (.dat d1):=by rfl) (hR:R.Zt = true:=by rfl) (ct:HT aD ops kw X0 w0 m (⟨[(s,.dat (.val (.func (.func f) #[] #[p]))),(g,.aan p (.box e)),(t,.dat d1)],d,R,false⟩ :: acc) ((d,R) :: Γ) l K):HT aD ops kw X0 w0 m acc Γ (o :: l) K :=
 HT.cons (h:=⟨[(s,.dat (.val (.func (.func f) #[] #[p]))),(g,.aan p (.box e)),(t,.dat d1)],d,R,false⟩) rfl hd (fun Γ h hn'=>(MW (xs:=[.tmp t]) (ds:=[d1]) ho hd hdm hn' h.1 h.2.1 en (bJ (.t h.2.2.1) lN) hR hA).g hG) ⟨hl,hg,hx,trivial⟩ ct
theorem XK {c t:Nat} {b p:Bool} (ho:o.op = .pick (.tmp c) (.tmp t) (.const (.bool false))) (hd:o.dst = some d) (hdm:d < m) (hn:aB Γ d = true) (hc:lk Γ c = some (.dat (.val (.bool b)))) (hl:lk Γ t = some (.dat (.val (.bool p)))):dB P kw X0 w0 m Γ o ((d,.dat (.val (.bool (b && p)))) :: Γ) :=
 bK hd hdm hn rfl fun a W X Ow hs=>⟨.bool (b && p),by
  have h1:=hs.fs.val hc;have h2:=hs.fs.val hl;cases b with
  | true=>simp [execOp,ho,h1,asBool,h2]
  | false=>simp [execOp,ho,h1,asBool,cP] at h1 ⊢;simp [h1],gI rfl⟩
theorem zA {t:Nat} {b p:Bool} (ho:o.op = .pick (.tmp s) (.tmp t) (.const (.bool false)):=by rfl) (hG:o.guard = none:=by rfl) (hd:o.dst = some d:=by rfl) (hdm:d < m:=by decide) (hc:lk Γ s = some (.dat (.val (.bool b))):=by rfl) (hl:lk Γ t = some (.dat (.val (.bool p))):=by rfl) (ct:HT P ops kw X0 w0 m (⟨[(s,.dat (.val (.bool b))),(t,.dat (.val (.bool p)))],d,.dat (.val (.bool (b && p))),false⟩ :: acc) ((d,.dat (.val (.bool (b && p)))) :: Γ) l K):HT P ops kw X0 w0 m acc Γ (o :: l) K :=
 HT.cons (h:=⟨[(s,.dat (.val (.bool b))),(t,.dat (.val (.bool p)))],d,.dat (.val (.bool (b && p))),false⟩) rfl hd (fun Γ h hn'=>(XK ho hd hdm hn' h.1 h.2.1).g hG) ⟨hc,hl,trivial⟩ ct
theorem Wx.gd {e:D} {l:List D} (h:Wx P kw f ds e (.grow k l)):Wx P kw f ds e (.dat (.list k l)):=fun X w vs b es t hX hr hh hd=>by
 refine (h X w vs b es t hX hr hh hd).mono ?_;rintro en w' ⟨h1,v,h2,S,ob,hS,hb,hf⟩;refine ⟨h1,v,h2,KX.dat.2 ?_⟩;unfold ah at hf;obtain ⟨h0,hf⟩:=hf;have tr:Tr kw (fun b o=>X b o∨S b o) X w' w':=⟨fun _=>kE.refl _,fun b o v hx hc=>⟨fun h=>hx (.inl h),hc⟩⟩;rcases hf with ⟨g1,g2⟩ | ⟨b,c,es,t,g1,g2,g3,g5,g6,g7,g8,g9⟩
 · subst g2;rw [g1];exact dI (l:=[]) (by simp) (by simp) (fun h=>absurd rfl h)
 ·
  rw [g2];refine dI g3 h0 fun _=>⟨b,0,es.take (l.length * k),rfl,?_,fun j v hj=>⟨fun h=>?_,?_⟩,aF.tr tr _ _ g7⟩
  · rw [bO,g6];exact db (ew k g3)
  · have h1:=(g9 (0 + j)).1 (.inl h);have h2:j < (es.take (l.length * k)).length:=by
     rcases eC j (es.take (l.length * k)).length with h | h
     · exact h
     · rw [ff h] at hj;cases hj
    rw [bO] at h2;omega
  · rw [aR,bW g5];rw [cj] at hj
    split at hj
    · exact hj
    · cases hj
end
def T8:Tw 1:=((),(8:Rat))
def Fp:El 1:=((3:Rat),(-1:Rat))
abbrev pK:D:=.agg [bV T8,bF Fp]
theorem ahD:Tok [[8]]:=⟨by decide,fun i r h=>by
 match i,h with
 | 0,h =>
  simp at h;subst h;exact ⟨rfl,fun q hq=>by
   have:q = 8:=by simpa using hq
   subst this;exact EZ (by decide +kernel)⟩⟩
theorem adx {r:Rat} (hr:Rb r):Wx aD true 55 [af r] pK (.dat (bF (dD 1 r))):=by
 refine Wx.gd (Z5 (m:=8) Tryz.func55 rfl rfl (by simp) rfl fun X0 w0 hX=>?_);exact go 0 [[0,0,1],[4,1,2,3],[6]] (k:=q (a_call eN ((aae (t:=[[8]]) ahD hr).og.eq (R':=.grow 4 ((flat (n:=1) (dD 1 r)).map af)) rfl)) (go 1 [[1,3],[2]] (k:=qj)))
theorem no8 (w:Rat):w * w≠8:=fun h=>by
 obtain ⟨h1,-⟩:=X8 h;have e:(8:Rat).num = 8:=by decide +kernel
 rw [e] at h1;have h2:w.num.natAbs * w.num.natAbs = 8:=by exact_mod_cast h1
 rcases eC w.num.natAbs 3 with h | h
 · have:w.num.natAbs = 0∨w.num.natAbs = 1∨w.num.natAbs = 2:=by omega
   rcases this with e | e | e <;> rw [e] at h2 <;> omega
 · have:=eo h h;omega
theorem zD {x:El n} (D s:Nat) (h:(decide (0 < D) && decide (D≤2 ^ s) && (flat x).all fun q=>decide (D % q.den = 0) && decide (q.num.natAbs * (D / q.den)≤2 ^ s)) = true):sz x s:=by
 rw [ao,ao,decide_eq_true_iff,decide_eq_true_iff] at h;obtain ⟨⟨h1,h2⟩,h3⟩:=h;refine ⟨D,2 ^ s,h1,h2,a6 _,fun q hq=>?_⟩;have h4:=aq.1 h3 q hq;rw [ao,decide_eq_true_iff,decide_eq_true_iff] at h4;obtain ⟨h5,h6⟩:=h4;refine ⟨q.num * ((D / q.den:Nat):Int),?_,by rw [Int.natAbs_mul,Int.natAbs_natCast];exact h6⟩;have hD:D = q.den * (D / q.den):=(Nat.mul_div_cancel' (Nat.dvd_of_mod_eq_zero h5)).symm;rw [zn];generalize D / q.den = e at *;rw [hD,Int.natCast_mul,Int.mul_assoc,Int.mul_comm (e:Int)]
abbrev σ8:List Nat:=[4]
theorem Lu:PT T8 σ8:=⟨zD 1 4 (by decide +kernel),rfl⟩
theorem Qm:dW T8:=⟨trivial,by decide +kernel,fun w h=>no8 w h⟩
theorem XQ:KY lU 2199023255551 σ8:=⟨by decide,trivial⟩
theorem Xk:sz Fp 3:=zD 1 3 (by decide +kernel)
theorem aag:ny Fp:=Xk.rb (by decide)
section
variable {P:Program} {ops:Array Oper} {kw:Bool} {X0:XS} {w0:World} {m m':Nat} {Γ Γ':fA} {a a':Act} {W W':World} {X X':XS} {Ow Ow':Nat→Option Nat} {o:Oper} {d s:Nat} {l:List Oper} {acc:List Hd} {K:List Hd→fA→Prop} {Q:Exit→Act→World→Prop}
theorem abO {T t:Nat} {l1 l2:List D} (ho:o.op = .build T #[(0,.tmp s),(1,.tmp t)]) (hd:o.dst = some d) (hdm:d < m) (hn:aB Γ d = true) (h1:d≠s) (h2:d≠t) (s2:S2 P T 1 1) (hs:lk Γ s = some (.own k l1)) (ht:lk Γ t = some (.own k l2)) :
 dB P kw X0 w0 m Γ o ((d,.AV s t) :: Γ):=by
 intro a W h;obtain ⟨X,Ow,hx⟩:=h.x;have hf:=hx.facts s _ hs;have hg:=hx.facts t _ ht;unfold ah at hf hg;obtain ⟨b,c,es,ty,g1,g2,-⟩:=hf;obtain ⟨b',c',es',ty',q1,q2,-⟩:=hg;have g2':a.eval (.tmp s) = .slice (some ⟨b,0,none⟩) l1.length c:=g2;have q2':a.eval (.tmp t) = .slice (some ⟨b',0,none⟩) l2.length c':=q2;have hr:(execOp a.eval o).run P W = .ok (.value (.agg ((a.eval (.tmp s)).cells.toList ++ (a.eval (.tmp t)).cells.toList).toArray)) W:=by
  simp only [execOp,ho,List.map_toArray,List.map_cons,List.map_nil,y8 s2 _ _ (show (a.eval (.tmp s)).cells.size = 1 by rw [g2'];rfl) (show (a.eval (.tmp t)).cells.size = 1 by rw [q2'];rfl),bw,a8,bs]
 unfold oC;rw [hr,hd];refine (hx.put hdm hn (Below.refl _ _) ?_).fs;unfold ah;rw [iR hx.size hdm,show bY (a.put (some d) (.agg ((a.eval (.tmp s)).cells.toList ++ (a.eval (.tmp t)).cells.toList).toArray)) s = a.eval (.tmp s) from eval_put_ne h1,show bY (a.put (some d) (.agg ((a.eval (.tmp s)).cells.toList ++ (a.eval (.tmp t)).cells.toList).toArray)) t = a.eval (.tmp t) from eval_put_ne h2]
theorem Qw {T t:Nat} {l1 l2:List D} (cont:HT aD ops kw X0 w0 m (⟨[(s,.own k l1),(t,.own k l2)],d,.AV s t,false⟩ :: acc) ((d,.AV s t) :: Γ) l K) (s2:S2 aD T 1 1) (ho:o.op = .build T #[(0,.tmp s),(1,.tmp t)]:=by rfl) (hG:o.guard = none:=by rfl) (hd:o.dst = some d:=by rfl) (hdm:d < m:=by decide) (h1:d≠s:=by decide) (h2:d≠t:=by decide) (hs:lk Γ s = some (.own k l1):=by rfl) (ht:lk Γ t = some (.own k l2):=by rfl):HT aD ops kw X0 w0 m acc Γ (o :: l) K :=
 HT.cons (h:=⟨[(s,.own k l1),(t,.own k l2)],d,.AV s t,false⟩) rfl hd (fun Γ h hn'=>(abO ho hd hdm hn' h1 h2 s2 h.1 h.2.1).g hG) ⟨hs,ht,trivial⟩ cont
theorem afX {T t bytes:Nat} {z:D} {p q:Int} (pi:PI aD T T k z bytes) (hp:p = n) (hq:q = n) (hb:bytes * n≤281474976710656) (ho:o.op = .makeSlice T (.tmp s) (.tmp t):=by rfl) (hG:o.guard = none:=by rfl) (hd:o.dst = some d:=by rfl) (hdm:d < m:=by decide) (hx:lk Γ s = some (.dat (.val (.int .i64 p))):=by rfl) (hy:lk Γ t = some (.dat (.val (.int .i64 q))):=by rfl) (hz:z.width = k:=by rfl) (hk:0 < k:=by decide) (hu:z.kJ = true:=by rfl) (hb0:0 < bytes:=by decide) (ct:HT aD ops kw X0 w0 m (⟨[(s,.dat (.val (.int .i64 p))),(t,.dat (.val (.int .i64 q)))],d,.own k (de n z),false⟩ :: acc) ((d,.own k (de n z)) :: Γ) l K):HT aD ops kw X0 w0 m acc Γ (o :: l) K :=
 HT.cons (h:=⟨[(s,.dat (.val (.int .i64 p))),(t,.dat (.val (.int .i64 q)))],d,.own k (de n z),false⟩) rfl hd (fun Γ h hn'=>(BV pi hp hq hb ho hd hdm hn' h.1 h.2.1 hz hk hu hb0).g hG) ⟨hx,hy,trivial⟩ ct
theorem FSq.YL {t s1 s2 g1 g2:Nat} {l1 l2:List D} (h:FSq kw X0 w0 m Γ a W) (hl:lk Γ t = some (.AV s1 s2)) (h1:lk Γ s1 = some (.own k l1)) (h2:lk Γ s2 = some (.own k l2)) (hsub:Sub Γ' Γ) (hs2:lk Γ' s2 = some (.own k l2)) (n1:aB Γ' s1 = true) (n2:aB Γ' s2 = true) (n3:aB Γ' g1 = true) (n4:aB Γ' g2 = true) (hne:s1≠g1∧s2≠g2∧s1≠s2∧g1≠s2) :
 ∃ v1 v2:{v:Value // (D.val v).kJ = true},FSq kw X0 w0 m ((t,.dat (.agg [.val v1.1,.val v2.1])) :: (s2,.dat (.val v2.1)) :: (g2,.ov v2.1 k l2) :: (s1,.dat (.val v1.1)) :: (g1,.ov v1.1 k l1) :: Γ') a W:=by
 obtain ⟨X,Ow,hx⟩:=h.x;have hf:=hx.facts s1 _ h1;have hb:=hx.facts t _ hl;have hf2:=hx.facts s2 _ h2;unfold ah at hf hb hf2;obtain ⟨b,c,es,ty,e1,e2',e3,e4,e5,e6,e7⟩:=hf;obtain ⟨b',c',es',ty',-,f2',-⟩:=hf2;have hx':lG kw X0 w0 m Γ' a W X Ow:=⟨hx.size,hx.defs,hx.below,hx.x0,hx.env,fun s f hl=>hx.facts s f (hsub.lkm hl)⟩;have p1:=hx'.pass (t:=s1) (g:=g1) (f:=.dat (.val (bY a s1))) (f':=.ov (bY a s1) k l1) n1 n3 hne.1 (by
  unfold ah;refine dh ?_;rw [e2'];rfl) (by
  unfold ah;exact ⟨b,c,es,ty,by simp [e1],e2',e3,e4,e5,by omega,e7⟩)
 have hl2:lk ((s1,.dat (.val (bY a s1))) :: (g1,.ov (bY a s1) k l1) :: Γ') s2 = some (.own k l2):=by
  simp only [lk,if_neg hne.2.2.1,if_neg hne.2.2.2];exact hs2
 have hq:=p1.facts s2 _ hl2;unfold ah at hq;obtain ⟨b2,c2,es2,ty2,k1,k2,k3,k4,k5,k6,k7⟩:=hq;have p2:=p1.pass (t:=s2) (g:=g2) (f:=.dat (.val (bY a s2))) (f':=.ov (bY a s2) k l2) (by simp [aB,F.refs,n2]) (by simp [aB,F.refs,n4]) hne.2.1 (by
  unfold ah;refine dh ?_;rw [f2'];rfl) (by
  unfold ah;exact ⟨b2,c2,es2,ty2,by simp only [if_true];exact k1,k2,k3,k4,k5,by omega,k7⟩)
 refine ⟨⟨bY a s1,by rw [e2'];rfl⟩,⟨bY a s2,by rw [f2'];rfl⟩,(p2.ad9 ?_).fs⟩;unfold ah;rw [hb];have hc1:(bY a s1).cells.toList = [bY a s1]∧(bY a s1).oneCell' = true:=by rw [e2'];exact ⟨rfl,rfl⟩
 have hc2:(bY a s2).cells.toList = [bY a s2]∧(bY a s2).oneCell' = true:=by rw [f2'];exact ⟨rfl,rfl⟩
 exact oG (aF.two.2 ⟨_,_,rfl,by unfold aU;exact hc1,by unfold aU;exact hc2⟩)
theorem FSq.Gw {g:Nat} {v:Value} {e:D} (h:FSq kw X0 w0 m Γ a W) (hl:lk Γ s = some (.dat (.val v))) (hg:lk Γ g = some (.aan v (.box e))) (hns:aB Γ s = true) (hng:aB Γ g = true) (hne:g≠s):FSq kw X0 w0 m ((g,.any) :: (s,.box e) :: Γ) a W:=by
 obtain ⟨X,Ow,hx⟩:=h.x;obtain ⟨b,es,t,g1,g3,g4⟩:=Hm hx hg;have e1:=hx.fs.val hl;refine (hx.pass (t:=g) (g:=s) (f:=.any) (f':=.box e) hng hns hne (by unfold ah;trivial) ?_).fs;unfold ah;exact ⟨b,es,t,by simp [g1],e1.trans g3,g4⟩
def F.NP:F→Bool
 | .aan _ (.dat _)=>true
 | .aan _ (.box _)=>true
 | .aan _ (.own _ _)=>true
 | .ov _ _ _=>true
 | .gv _ _ _=>true
 | _=>false
theorem Sz {f:F} (h:f.NP = true) {tm tm':Nat→Value}:ah kw X W Ow tm s f→ah kw X W Ow tm' s f:=by
 cases f with
 | ov v k l=>intro h;unfold ah at h ⊢;exact h
 | gv v k l=>intro h;unfold ah at h ⊢;exact h
 | aan v f =>
  cases f with
  | dat d=>intro h;unfold ah at h ⊢;exact h
  | box d=>intro h;unfold ah at h ⊢;exact h
  | own k l=>intro h;unfold ah at h ⊢;exact h
  | _=>cases h
 | _=>cases h
theorem IL {f:F} (h:f.NP = true) {s':Nat}:f.refs s' = false:=by
 cases f with
 | aan v f=>cases f <;> first | rfl | cases h
 | _=>first | rfl | cases h
def pq (a:Act) (Γ:fA):fA→Prop
 | []=>True
 | (s,f) :: Γ'=>((900≤s∧f.NP = true∧lk Γ s = some f)∨(∃ s0 d,f = .aan (a.eval (.tmp s0)) (.dat d)∧lk Γ s0 = some (.dat d)∧900≤s))∧pq a Γ Γ'
theorem Fe:pq a Γ []:=trivial
theorem mV {f:F} (h:pq a Γ Γ') (hs:900≤s:=by decide) (hf:f.NP = true:=by rfl) (hl:lk Γ s = some f:=by rfl):pq a Γ ((s,f) :: Γ'):=⟨.inl ⟨hs,hf,hl⟩,h⟩
theorem Ci {s0:Nat} {e:D} (h:pq a Γ Γ') (hl:lk Γ s0 = some (.dat e):=by rfl) (hs:900≤s:=by decide):pq a Γ ((s,.aan (a.eval (.tmp s0)) (.dat e)) :: Γ'):=⟨.inr ⟨s0,e,rfl,hl,hs⟩,h⟩
theorem pq.get:∀ {Γ':fA},pq a Γ Γ'→∀ s f,lk Γ' s = some f→(900≤s∧f.NP = true∧lk Γ s = some f)∨(∃ s0 d,f = .aan (a.eval (.tmp s0)) (.dat d)∧lk Γ s0 = some (.dat d)∧900≤s)
 | [],_,_,_,h=>by cases h
 | (s',f') :: Γ',h,s,f,hl=>by
  simp only [lk] at hl
  split at hl
  · rename_i e;injection hl with hl;rw [← hl,← e];exact h.1
  · exact h.2.get s f hl
theorem pq.le (h:pq a Γ Γ') {f:F} (hl:lk Γ' s = some f):900≤s:=by
 rcases h.get s f hl with h | ⟨_,_,_,_,h⟩
 · exact h.1
 · exact h
theorem ab7 {Γa Γs:fA} (hs:lG kw X0 w0 m Γ a W X Ow) (h1:a'.tmps.size = m') (h2:a'.defers = []) (hS:pq a Γ Γs) (hA:∀ s f,lk Γa s = some f→s < 900∧ah kw X W (fun _=>none) (bY a') s f):FSq kw X0 w0 m' (Γa ++ Γs) a' W:=by
 refine ⟨h1,h2,hs.below,hs.x0,X,fun t=>if 900≤t then Ow t else none,⟨hs.env.sub,hs.env.sup,fun s s' b e1 e2=>?_,fun s b e1=>?_⟩,fun s f hl=>?_⟩
 · split at e1 <;> split at e2 <;> first | exact hs.env.inj s s' b e1 e2 | cases e1 | cases e2
 · split at e1
   · exact hs.env.wS s b e1
   · cases e1
 ·
  rcases Dt hl with hl | hl
  · obtain ⟨q1,q2⟩:=hA s f hl;refine ah.WJ (Ow:=fun _=>none) Tr.refl rfl (fun b hb=>by cases hb) (fun s' _=>⟨rfl,fun b hb=>by cases hb⟩) q2
  · rcases hS.get s f hl with ⟨q1,q2,q3⟩ | ⟨s0,e,rfl,q2,q3⟩
    · refine ah.WJ (Ow:=Ow) (tm:=bY a') Tr.refl rfl (fun b hb=>⟨by simp only [if_pos q1];exact hb,rfl,fun _=>Iff.rfl⟩) (fun s' hr=>?_) (Sz q2 (hs.facts s f q3));rw [IL q2] at hr;cases hr
    · have:=hs.facts s0 _ q2;unfold ah at this ⊢;unfold ah;exact this
def kC (a:Act) (Γ Γo:fA):fA→Prop
 | []=>True
 | (s,f) :: Γ'=>((900≤s∧f.NP = true∧lk Γo s = some f)∨(∃ v,f = .dat (.val v)∧lk Γ s = some f∧s < 900)∨(∃ g d,f = .dat d∧lk Γo g = some (.aan (a.eval (.tmp s)) (.dat d))∧s < 900))∧kC a Γ Γo Γ'
variable {Γo:fA}
theorem Ff:kC a Γ Γo []:=trivial
theorem mW {f:F} (h:kC a Γ Γo Γ') (hs:900≤s:=by decide) (hf:f.NP = true:=by rfl) (hl:lk Γo s = some f:=by rfl):kC a Γ Γo ((s,f) :: Γ'):=⟨.inl ⟨hs,hf,hl⟩,h⟩
theorem jq {v:Value} (h:kC a Γ Γo Γ') (hl:lk Γ s = some (.dat (.val v)):=by rfl) (hs:s < 900:=by decide):kC a Γ Γo ((s,.dat (.val v)) :: Γ'):=⟨.inr (.inl ⟨v,rfl,hl,hs⟩),h⟩
theorem BJ {e:D} (g:Nat) (h:kC a Γ Γo Γ') (hl:lk Γo g = some (.aan (a.eval (.tmp s)) (.dat e)):=by rfl) (hs:s < 900:=by decide):kC a Γ Γo ((s,.dat e) :: Γ'):=⟨.inr (.inr ⟨g,e,rfl,hl,hs⟩),h⟩
theorem kC.get:∀ {Γ':fA},kC a Γ Γo Γ'→∀ s f,lk Γ' s = some f→(900≤s∧f.NP = true∧lk Γo s = some f)∨(∃ v,f = .dat (.val v)∧lk Γ s = some f∧s < 900)∨(∃ g d,f = .dat d∧lk Γo g = some (.aan (a.eval (.tmp s)) (.dat d))∧s < 900)
 | [],_,_,_,h=>by cases h
 | (s',f') :: Γ',h,s,f,hl=>by
  simp only [lk] at hl
  split at hl
  · rename_i e;injection hl with hl;rw [← hl,← e];exact h.1
  · exact h.2.get s f hl
theorem abS {a2:Act} (hs:FSq kw X0 w0 m Γ a W) (h:FSq kw X0 w0 m' Γo a2 W') (hB:kC a Γ Γo Γ'):FSq kw X0 w0 m Γ' a W':=by
 obtain ⟨X,Ow,hx⟩:=h.x;refine ⟨hs.size,hs.defs,hx.below,hx.x0,X,fun t=>if 900≤t then Ow t else none,⟨hx.env.sub,hx.env.sup,fun s s' b e1 e2=>?_,fun s b e1=>?_⟩,fun s f hl=>?_⟩
 · split at e1 <;> split at e2 <;> first | exact hx.env.inj s s' b e1 e2 | cases e1 | cases e2
 · split at e1
   · exact hx.env.wS s b e1
   · cases e1
 · rcases hB.get s f hl with ⟨q1,q2,q3⟩ | ⟨v,rfl,q2,q3⟩ | ⟨g,e,rfl,q2,q3⟩
   · refine ah.WJ (Ow:=Ow) (tm:=bY a) Tr.refl rfl (fun b hb=>⟨by simp only [if_pos q1];exact hb,rfl,fun _=>Iff.rfl⟩) (fun s' hr=>?_) (Sz q2 (hx.facts s f q3));rw [IL q2] at hr;cases hr
   · have hv:=hs.fact q2;obtain ⟨X1,Ow1,-,hf⟩:=hv;unfold ah at hf ⊢;obtain ⟨cs,r1,r2⟩:=hf;exact ⟨cs,by unfold aU at r1 ⊢;exact r1,r2⟩
   · have:=hx.facts g _ q2;unfold ah at this;unfold ah at this;unfold ah;exact this
variable (P kw X0 w0 m) in
def IQ (fn:Func) (Γo:fA):Exit→Act→World→Prop:=bodyPost P fn fun e W'=>(∃ v,e = .returned v)∧∃ a2,FSq kw X0 w0 m Γo a2 W'
theorem Pj {fn:Func} (hr:fn.results = #[]) (hS:Sub Γo Γ):NT kw X0 w0 m Γ (IQ P kw X0 w0 m fn Γo):=fun a W hs=>by
 refine ⟨hs.defs,_,results_none hr _ _ _,⟨_,rfl⟩,a,hs.weak hS⟩
theorem CQ {fn:Func} {c:Code} {ts:Array TypeId} {s1:Nat} {p:Value} {e:D} (Γs Γo:Act→fA) (ho:o.op = .call { callee:=.value (.func f),args:=#[.tmp s,.tmp s1],argTypes:=ts }) (hd:o.dst = some d) (hdm:d < m) (eg:∀ args w,(callFunc f args).run P w = .ok (.enter f args) w) (hf:P.funcs[f]? = some fn) (hb:fn.body = some c) (hm:fn.ntmps = m') (h2:2≤m') (hp:lk Γ s = some (.dat (.val p))) (he:lk Γ s1 = some (.dat e)) (hn':aB Γ' d = true) (hS:∀ a,pq a Γ (Γs a)) (hc:∀ a,CT P kw X0 w0 m' ([(0,.dat (.val p)),(1,.dat e)] ++ Γs a) c (IQ P kw X0 w0 m' fn (Γo a))) (hB:∀ a,kC a Γ (Γo a) Γ'):dB P kw X0 w0 m Γ o ((d,.any) :: Γ'):=by
 intro a W hs;obtain ⟨X,Ow,hx⟩:=hs.x;have hr:(execOp a.eval o).run P W = .ok (.enter f #[a.eval (.tmp s),a.eval (.tmp s1)]) W:=by
  simp [execOp,ho,resolve,cP,dp,invoke,eg]
 unfold oC;rw [hr];have e0:(Act.mk (#[a.eval (.tmp s),a.eval (.tmp s1)] ++ av (fn.ntmps - (#[a.eval (.tmp s),a.eval (.tmp s1)]:Array Value).size) undef) []).eval (.tmp 0) = a.eval (.tmp s):=by
  simp only [cP,bj];rw [bE (by simp)];simp
 have e1:(Act.mk (#[a.eval (.tmp s),a.eval (.tmp s1)] ++ av (fn.ntmps - (#[a.eval (.tmp s),a.eval (.tmp s1)]:Array Value).size) undef) []).eval (.tmp 1) = a.eval (.tmp s1):=by
  simp only [cP,bj];rw [bE (by simp)];simp
 have hq0:=hx.facts s _ hp;have hq1:=hx.facts s1 _ he;refine (calls_of_wp hf hb (hc a _ W (ab7 hx (by simp;omega) rfl (hS a) fun t g hl=>?_))).mono ?_
 ·
  simp only [lk] at hl
  split at hl
  · rename_i ee;injection hl with hl;subst hl;subst ee
    refine ⟨by decide,?_⟩;unfold ah at hq0 ⊢;rw [show bY _ 0 = _ from e0];exact hq0
  · split at hl
    · rename_i ee;injection hl with hl;subst hl;subst ee
      refine ⟨by decide,?_⟩;unfold ah at hq1 ⊢;rw [show bY _ 1 = _ from e1];exact hq1
    · cases hl
 · rintro en w' ⟨⟨v,rfl⟩,a2,h3⟩;refine ⟨v,rfl,?_⟩;rw [hd];exact (abS hs h3 (hB a)).QN hdm hn' (Below.refl _ _) fun X Ow _ _=>by unfold ah;trivial
end
theorem af7 {a:Rat} (ha:Rb a):AC aD true 194 [af a] (.dat (vB (decide (a.num.sign≠0)))):=by
 exact aix 6 Tryz.func194 (k:=go 0 [[0,0],[4,1,2],[4]] (k:=q (a_call eN (xu ha)) (go 1 [[2,2],[2]] (k:=dG))))
section
variable {P:Program} {kw:Bool} {X0:XS} {w0:World} {m:Nat} {Γ:fA} {o:Oper} {d s:Nat}
theorem acN {e:D} (ho:o.op = .nilCheck (.tmp s):=by rfl) (hd:o.dst = some d:=by rfl) (hdm:d < m:=by decide) (hn:aB Γ d = true:=by rfl) (hl:lk Γ s = some (.ptr e):=by rfl):dB P kw X0 w0 m Γ o ((d,.ptr e) :: Γ) :=
 bK hd hdm hn rfl fun a W X Ow hs=>by
  have h:=hs.facts s _ hl;unfold ah at h;obtain ⟨b,o',es,h1,h2,h3⟩:=h;have h1':a.eval (.tmp s) = .pointer (some ⟨b,o',none⟩):=h1;exact ⟨.pointer (some ⟨b,o',none⟩),by simp [execOp,ho,h1'],by unfold ah;exact ⟨b,o',es,rfl,h2,h3⟩⟩
theorem JB {e:D} {ts:Array TypeId} {R:F} (en:EN f) (h:Wx aD kw f [] e R) (ho:o.op = .call { callee:=.value (.func f),args:=#[.tmp s],argTypes:=ts }:=by rfl) (hd:o.dst = some d:=by rfl) (hdm:d < m:=by decide) (hn:aB Γ d = true:=by rfl) (hl:lk Γ s = some (.box e):=by rfl) (hR:R.Zt = true:=by rfl):dB aD kw X0 w0 m Γ o ((d,R) :: Γ) :=
 Zc ho hd hdm hn hl en hR h
theorem KA {ops:Array Oper} {ι κ:Sort _} {l:List Oper} {Q:Exit→Act→World→Prop} {Γ':ι→κ→fA} (h:∀ a W,FSq kw X0 w0 m Γ a W→∃ i j,FSq kw X0 w0 m (Γ' i j) a W) (k:∀ i j,fK P ops kw X0 w0 m (Γ' i j) l Q):fK P ops kw X0 w0 m Γ l Q:=fun a W hs=>let ⟨i,j,hi⟩:=h a W hs;k i j a W hi
end
theorem afa (v1 v2:{v:Value // (D.val v).kJ = true}):(D.agg [.val v1.1,.val v2.1]).kJ = true:=by
 have h1:=v1.2;have h2:=v2.2;have e:(D.agg [.val v1.1,.val v2.1]).kJ = ((D.val v1.1).kJ && ((D.val v2.1).kJ && true)):=rfl;rw [e,h1,h2];rfl
variable {z:Int}
theorem Yc {l:List Rat} {x:D} (hl:∀ a∈l,Rb a) (hn:l.length≤1000000) (hz:LU (fun a=>decide (a.num.sign≠0)) l = z):Wx aD true 152 [] (.agg [dL l,x]) (.dat (vI z)):=by
 refine acF (m:=8) Tryz.func152 rfl rfl (by decide) fun X0 w0 hX=>?_
 refine go 0 [[0,0],[3,0,2],[4]] (k:=?_);refine q (acN) (q (uQ (fi:=mG)) (q fO (q (a_call (xs:=[.tmp 6,.func 194]) (eN (f:=193)) ((adR (l:=l) (p:=fun a=>decide (a.num.sign≠0)) (eN (f:=194)) (fun a ha=>af7 (hl a ha)) hn).eq (congrArg (fun z=>F.dat (vI z)) hz))) ?_)));exact go 1 [[1,2],[2]] (k:=dG)
variable {c:Code}
theorem ahx {X0:XS} {w0:World} (hb:Tryz.f104.body = some c) {p903 p906 v901 v902 v904:{v:Value // (D.val v).kJ = true}} {u4 u39:Value}:CT aD true X0 w0 83 ([(0,.dat (.val p906.1)),(1,.dat (.agg [.list 4 [af 1,af 0],.list 4 [af 1]]))] ++ [(901,.ov v901.1 4 [af 3,af (-1)]),(902,.ov v902.1 4 [af 0,af 1]),(906,.aan p906.1 (.box (.agg [.val v901.1,.val v902.1]))),(903,.aan p903.1 (.box pK)),(904,.gv v904.1 2 [.agg [.list 4 [af 1,af 0],.list 4 [af 1]]]),(1004,.aan u4 (.dat (.list 4 [af 3,af (-1)]))),(1039,.aan u39 (.dat (.list 2 [.agg [.list 4 [af 1,af 0],.list 4 [af 1]]])))]) c (IQ aD true X0 w0 83 Tryz.f104 [(901,.ov v901.1 4 [af 0,af (-1)]),(902,.ov v902.1 4 [af (-3),af 1]),(906,.aan p906.1 (.box (.agg [.val v901.1,.val v902.1]))),(903,.aan p903.1 (.box pK)),(904,.gv v904.1 2 [.agg [.list 4 [af 1,af 0],.list 4 [af 1]]]),(1004,.aan u4 (.dat (.list 4 [af 3,af (-1)]))),(1039,.aan u39 (.dat (.list 2 [.agg [.list 4 [af 1,af 0],.list 4 [af 1]]])))]):=by
 obtain rfl:_ = c:=bk hb;refine ai 0 [[0,0,1,901,902,906,903,904,1004,1039],[3,0,3,901,902,903,904,906,1004,1039],[3]] (k:=?_);refine q (JB eN (Yc (l:=[(1:Rat),(0:Rat)]) (x:=.list 4 [af 1]) (z:=0) (by intro a ha;simp at ha;rcases ha with rfl | rfl <;> exact EZ (by decide +kernel)) (by decide) (by decide +kernel))) (ai 1 [[1,0,3,4,901,902,903,904,906,1004,1039],[2]] (k:=dC 18 mixed (ai 3 [[1]] (k:=jd 906 (ct:=iH 906 (ct:=iG 0 (ct:=ai 3 [[1]] (k:=iJ (i:=0) (es:=[af 3,af (-1)]) 901 rfl (by decide) (ct:=qQ (e:=af 3) rfl (ct:=Pm (fi:=mG) (ct:=bG 0 (ct:=ai 3 [[3]] (k:=ak eN ((oQ 3 1 3)) (ct:=ai 3 [[7,0,3,5,901,902,903,904,906,1004,1039],[5]] (k:=q (a_call eN ((fF 3 1))) (ai 1 [[1,0,3,5,30,901,902,903,904,906,1004,1039],[7]] (k:=q (dn (fi:=mG)) (q (aX 0) (ai 1 [[2,0,3,5,32,33,34,901,902,903,904,906,1004,1039],[7,0,3,5,32,33,34,35,901,902,903,904,906,1004,1039],[15,0,3,5,7,8,32,33,34,901,902,903,904,906,1004,1039],[1]] (k:=dC 17 mixed (ai 3 [[1]] (k:=jd 906 (ct:=iH 906 (ct:=iG 0 (ct:=ai 3 [[2]] (k:=jd 906 (ct:=iH 906 (ct:=iG 0 (ct:=ai 3 [[1]] (k:=iJ (i:=0) (es:=[af 3,af (-1)]) 901 rfl (by decide) (ct:=qQ (e:=af 3) rfl (ct:=ai 3 [[2]] (k:=ak eN ((iy 3 1 3)) (ct:=ak eN ((kD 3 3 0)) (ct:=iJ (i:=0) (es:=[af 3,af (-1)]) 901 rfl (by decide) (ct:=ai 3 [[1]] (k:=q (jy (i:=0) (es:=[af 3,af (-1)]) (e:=af 0) (by decide)) (ai 1 [[0,0,3,5,32,33,34,901,902,903,904,906,1004,1039],[5,0,3,5,32,33,34,901,902,903,904,906,1004,1039],[5,0,3,5,32,33,34,35,901,902,903,904,906,1004,1039],[15,0,3,5,7,8,32,33,34,901,902,903,904,906,1004,1039],[1]] (k:=dC 17 mixed (ai 3 [[1]] (k:=jd 906 (ct:=iH 906 (ct:=iG 0 (ct:=ai 3 [[2]] (k:=jd 906 (ct:=iH 906 (ct:=iG 0 (ct:=ai 3 [[1]] (k:=iJ (i:=1) (es:=[af 0,af (-1)]) 901 rfl (by decide) (ct:=qQ (e:=af (-1)) rfl (ct:=ai 3 [[2]] (k:=ak eN ((iy 3 0 0)) (ct:=ak eN ((kD (-1) 0 (-1))) (ct:=iJ (i:=1) (es:=[af 0,af (-1)]) 901 rfl (by decide) (ct:=ai 3 [[1]] (k:=q (jy (i:=1) (es:=[af 0,af (-1)]) (e:=af (-1)) (by decide)) (ai 1 [[0,0,3,5,32,33,34,901,902,903,904,906,1004,1039],[5,0,3,5,32,33,34,901,902,903,904,906,1004,1039],[5,0,3,5,32,33,34,35,901,902,903,904,906,1004,1039],[7,0,3,5,901,902,903,904,906,1004,1039],[3]] (k:=q (dn (fi:=xP)) (q (aX 1) (ai 1 [[2,0,5,58,59,60,901,902,903,904,906,1004,1039],[7,0,5,58,59,60,61,901,902,903,904,906,1004,1039],[15,0,5,9,10,58,59,60,901,902,903,904,906,1004,1039],[1]] (k:=dC 17 mixed (ai 3 [[1]] (k:=jd 906 (ct:=iH 906 (ct:=iG 1 (ct:=ai 3 [[2]] (k:=jd 906 (ct:=iH 906 (ct:=iG 1 (ct:=ai 3 [[1]] (k:=iJ (i:=0) (es:=[af 0,af 1]) 902 rfl (by decide) (ct:=qQ (e:=af 0) rfl (ct:=ai 3 [[2]] (k:=ak eN ((iy 3 1 3)) (ct:=ak eN ((kD 0 3 (-3))) (ct:=iJ (i:=0) (es:=[af 0,af 1]) 902 rfl (by decide) (ct:=ai 3 [[1]] (k:=q (jy (i:=0) (es:=[af 0,af 1]) (e:=af (-3)) (by decide)) (ai 1 [[0,0,5,58,59,60,901,902,903,904,906,1004,1039],[5,0,5,58,59,60,901,902,903,904,906,1004,1039],[5,0,5,58,59,60,61,901,902,903,904,906,1004,1039],[7,901,902,903,904,906,1004,1039]] (k:=?_))))))))))))))))))))))))))))))))))))))))))))))))))))))))))))))))))))))))))))))));exact Pj rfl (sbk [901,902,906,903,904,1004,1039])
theorem ahw {X0:XS} {w0:World} (hb:Tryz.f104.body = some c) {p903 p906 v901 v902 v904:{v:Value // (D.val v).kJ = true}} {u4 u39:Value}:CT aD true X0 w0 83 ([(0,.dat (.val p906.1)),(1,.dat (.agg [.list 4 [af 1,af 0],.list 4 [af 1]]))] ++ [(901,.ov v901.1 4 [af 17,af (-6)]),(902,.ov v902.1 4 [af 0,af 0,af 1]),(906,.aan p906.1 (.box (.agg [.val v901.1,.val v902.1]))),(903,.aan p903.1 (.box pK)),(904,.gv v904.1 2 [.agg [.list 4 [af 1,af 0],.list 4 [af 1]],.agg [.list 4 [af 0,af (-1)],.list 4 [af (-3),af 1]]]),(1004,.aan u4 (.dat (.list 4 [af 17,af (-6)]))),(1039,.aan u39 (.dat (.list 2 [.agg [.list 4 [af 1,af 0],.list 4 [af 1]],.agg [.list 4 [af 0,af (-1)],.list 4 [af (-3),af 1]]])))]) c (IQ aD true X0 w0 83 Tryz.f104 [(901,.ov v901.1 4 [af 0,af (-6)]),(902,.ov v902.1 4 [af (-17),af 0,af 1]),(906,.aan p906.1 (.box (.agg [.val v901.1,.val v902.1]))),(903,.aan p903.1 (.box pK)),(904,.gv v904.1 2 [.agg [.list 4 [af 1,af 0],.list 4 [af 1]],.agg [.list 4 [af 0,af (-1)],.list 4 [af (-3),af 1]]]),(1004,.aan u4 (.dat (.list 4 [af 17,af (-6)]))),(1039,.aan u39 (.dat (.list 2 [.agg [.list 4 [af 1,af 0],.list 4 [af 1]],.agg [.list 4 [af 0,af (-1)],.list 4 [af (-3),af 1]]])))]):=by
 obtain rfl:_ = c:=bk hb;refine ai 0 [[0,0,1,901,902,906,903,904,1004,1039],[3,0,3,901,902,903,904,906,1004,1039],[3]] (k:=?_);refine q (JB eN (Yc (l:=[(1:Rat),(0:Rat)]) (x:=.list 4 [af 1]) (z:=0) (by intro a ha;simp at ha;rcases ha with rfl | rfl <;> exact EZ (by decide +kernel)) (by decide) (by decide +kernel))) (ai 1 [[1,0,3,4,901,902,903,904,906,1004,1039],[2]] (k:=dC 18 mixed (ai 3 [[1]] (k:=jd 906 (ct:=iH 906 (ct:=iG 0 (ct:=ai 3 [[1]] (k:=iJ (i:=0) (es:=[af 17,af (-6)]) 901 rfl (by decide) (ct:=qQ (e:=af 17) rfl (ct:=Pm (fi:=mG) (ct:=bG 0 (ct:=ai 3 [[3]] (k:=ak eN ((oQ 17 1 17)) (ct:=ai 3 [[7,0,3,5,901,902,903,904,906,1004,1039],[5]] (k:=q (a_call eN ((fF 17 1))) (ai 1 [[1,0,3,5,30,901,902,903,904,906,1004,1039],[7]] (k:=q (dn (fi:=mG)) (q (aX 0) (ai 1 [[2,0,3,5,32,33,34,901,902,903,904,906,1004,1039],[7,0,3,5,32,33,34,35,901,902,903,904,906,1004,1039],[15,0,3,5,7,8,32,33,34,901,902,903,904,906,1004,1039],[1]] (k:=dC 17 mixed (ai 3 [[1]] (k:=jd 906 (ct:=iH 906 (ct:=iG 0 (ct:=ai 3 [[2]] (k:=jd 906 (ct:=iH 906 (ct:=iG 0 (ct:=ai 3 [[1]] (k:=iJ (i:=0) (es:=[af 17,af (-6)]) 901 rfl (by decide) (ct:=qQ (e:=af 17) rfl (ct:=ai 3 [[2]] (k:=ak eN ((iy 17 1 17)) (ct:=ak eN ((kD 17 17 0)) (ct:=iJ (i:=0) (es:=[af 17,af (-6)]) 901 rfl (by decide) (ct:=ai 3 [[1]] (k:=q (jy (i:=0) (es:=[af 17,af (-6)]) (e:=af 0) (by decide)) (ai 1 [[0,0,3,5,32,33,34,901,902,903,904,906,1004,1039],[5,0,3,5,32,33,34,901,902,903,904,906,1004,1039],[5,0,3,5,32,33,34,35,901,902,903,904,906,1004,1039],[15,0,3,5,7,8,32,33,34,901,902,903,904,906,1004,1039],[1]] (k:=dC 17 mixed (ai 3 [[1]] (k:=jd 906 (ct:=iH 906 (ct:=iG 0 (ct:=ai 3 [[2]] (k:=jd 906 (ct:=iH 906 (ct:=iG 0 (ct:=ai 3 [[1]] (k:=iJ (i:=1) (es:=[af 0,af (-6)]) 901 rfl (by decide) (ct:=qQ (e:=af (-6)) rfl (ct:=ai 3 [[2]] (k:=ak eN ((iy 17 0 0)) (ct:=ak eN ((kD (-6) 0 (-6))) (ct:=iJ (i:=1) (es:=[af 0,af (-6)]) 901 rfl (by decide) (ct:=ai 3 [[1]] (k:=q (jy (i:=1) (es:=[af 0,af (-6)]) (e:=af (-6)) (by decide)) (ai 1 [[0,0,3,5,32,33,34,901,902,903,904,906,1004,1039],[5,0,3,5,32,33,34,901,902,903,904,906,1004,1039],[5,0,3,5,32,33,34,35,901,902,903,904,906,1004,1039],[7,0,3,5,901,902,903,904,906,1004,1039],[3]] (k:=q (dn (fi:=xP)) (q (aX 1) (ai 1 [[2,0,5,58,59,60,901,902,903,904,906,1004,1039],[7,0,5,58,59,60,61,901,902,903,904,906,1004,1039],[15,0,5,9,10,58,59,60,901,902,903,904,906,1004,1039],[1]] (k:=dC 17 mixed (ai 3 [[1]] (k:=jd 906 (ct:=iH 906 (ct:=iG 1 (ct:=ai 3 [[2]] (k:=jd 906 (ct:=iH 906 (ct:=iG 1 (ct:=ai 3 [[1]] (k:=iJ (i:=0) (es:=[af 0,af 0,af 1]) 902 rfl (by decide) (ct:=qQ (e:=af 0) rfl (ct:=ai 3 [[2]] (k:=ak eN ((iy 17 1 17)) (ct:=ak eN ((kD 0 17 (-17))) (ct:=iJ (i:=0) (es:=[af 0,af 0,af 1]) 902 rfl (by decide) (ct:=ai 3 [[1]] (k:=q (jy (i:=0) (es:=[af 0,af 0,af 1]) (e:=af (-17)) (by decide)) (ai 1 [[0,0,5,58,59,60,901,902,903,904,906,1004,1039],[5,0,5,58,59,60,901,902,903,904,906,1004,1039],[5,0,5,58,59,60,61,901,902,903,904,906,1004,1039],[7,901,902,903,904,906,1004,1039]] (k:=?_))))))))))))))))))))))))))))))))))))))))))))))))))))))))))))))))))))))))))))))));exact Pj rfl (sbk [901,902,906,903,904,1004,1039])
theorem ag8 {X0:XS} {w0:World} (hb:Tryz.f104.body = some c) {p903 p906 v901 v902 v904:{v:Value // (D.val v).kJ = true}} {u4 u39:Value}:CT aD true X0 w0 83 ([(0,.dat (.val p906.1)),(1,.dat (.agg [.list 4 [af 0,af (-1)],.list 4 [af (-3),af 1]]))] ++ [(901,.ov v901.1 4 [af 0,af (-6)]),(902,.ov v902.1 4 [af (-17),af 0,af 1]),(906,.aan p906.1 (.box (.agg [.val v901.1,.val v902.1]))),(903,.aan p903.1 (.box pK)),(904,.gv v904.1 2 [.agg [.list 4 [af 1,af 0],.list 4 [af 1]],.agg [.list 4 [af 0,af (-1)],.list 4 [af (-3),af 1]]]),(1004,.aan u4 (.dat (.list 4 [af 17,af (-6)]))),(1039,.aan u39 (.dat (.list 2 [.agg [.list 4 [af 1,af 0],.list 4 [af 1]],.agg [.list 4 [af 0,af (-1)],.list 4 [af (-3),af 1]]])))]) c (IQ aD true X0 w0 83 Tryz.f104 [(901,.ov v901.1 4 [af 0,af 0]),(902,.ov v902.1 4 [af 1,af (-6),af 1]),(906,.aan p906.1 (.box (.agg [.val v901.1,.val v902.1]))),(903,.aan p903.1 (.box pK)),(904,.gv v904.1 2 [.agg [.list 4 [af 1,af 0],.list 4 [af 1]],.agg [.list 4 [af 0,af (-1)],.list 4 [af (-3),af 1]]]),(1004,.aan u4 (.dat (.list 4 [af 17,af (-6)]))),(1039,.aan u39 (.dat (.list 2 [.agg [.list 4 [af 1,af 0],.list 4 [af 1]],.agg [.list 4 [af 0,af (-1)],.list 4 [af (-3),af 1]]])))]):=by
 obtain rfl:_ = c:=bk hb;refine ai 0 [[0,0,1,901,902,906,903,904,1004,1039],[3,0,3,901,902,903,904,906,1004,1039],[3]] (k:=?_);refine q (JB eN (Yc (l:=[(0:Rat),(-1:Rat)]) (x:=.list 4 [af (-3),af 1]) (z:=1) (by intro a ha;simp at ha;rcases ha with rfl | rfl <;> exact EZ (by decide +kernel)) (by decide) (by decide +kernel))) (ai 1 [[1,0,3,4,901,902,903,904,906,1004,1039],[2]] (k:=dC 18 mixed (ai 3 [[1]] (k:=jd 906 (ct:=iH 906 (ct:=iG 0 (ct:=ai 3 [[1]] (k:=iJ (i:=1) (es:=[af 0,af (-6)]) 901 rfl (by decide) (ct:=qQ (e:=af (-6)) rfl (ct:=Pm (fi:=mG) (ct:=bG 0 (ct:=ai 3 [[3]] (k:=ak eN ((oQ (-6) (-1) 6)) (ct:=ai 3 [[7,0,3,5,901,902,903,904,906,1004,1039],[5]] (k:=q (a_call eN ((fF 6 1))) (ai 1 [[1,0,3,5,30,901,902,903,904,906,1004,1039],[7]] (k:=q (dn (fi:=mG)) (q (aX 0) (ai 1 [[2,0,3,5,32,33,34,901,902,903,904,906,1004,1039],[7,0,3,5,32,33,34,35,901,902,903,904,906,1004,1039],[15,0,3,5,7,8,32,33,34,901,902,903,904,906,1004,1039],[1]] (k:=dC 17 mixed (ai 3 [[1]] (k:=jd 906 (ct:=iH 906 (ct:=iG 0 (ct:=ai 3 [[2]] (k:=jd 906 (ct:=iH 906 (ct:=iG 0 (ct:=ai 3 [[1]] (k:=iJ (i:=0) (es:=[af 0,af (-6)]) 901 rfl (by decide) (ct:=qQ (e:=af 0) rfl (ct:=ai 3 [[2]] (k:=ak eN ((iy 6 0 0)) (ct:=ak eN ((kD 0 0 0)) (ct:=iJ (i:=0) (es:=[af 0,af (-6)]) 901 rfl (by decide) (ct:=ai 3 [[1]] (k:=q (jy (i:=0) (es:=[af 0,af (-6)]) (e:=af 0) (by decide)) (ai 1 [[0,0,3,5,32,33,34,901,902,903,904,906,1004,1039],[5,0,3,5,32,33,34,901,902,903,904,906,1004,1039],[5,0,3,5,32,33,34,35,901,902,903,904,906,1004,1039],[15,0,3,5,7,8,32,33,34,901,902,903,904,906,1004,1039],[1]] (k:=dC 17 mixed (ai 3 [[1]] (k:=jd 906 (ct:=iH 906 (ct:=iG 0 (ct:=ai 3 [[2]] (k:=jd 906 (ct:=iH 906 (ct:=iG 0 (ct:=ai 3 [[1]] (k:=iJ (i:=1) (es:=[af 0,af (-6)]) 901 rfl (by decide) (ct:=qQ (e:=af (-6)) rfl (ct:=ai 3 [[2]] (k:=ak eN ((iy 6 (-1) (-6))) (ct:=ak eN ((kD (-6) (-6) 0)) (ct:=iJ (i:=1) (es:=[af 0,af (-6)]) 901 rfl (by decide) (ct:=ai 3 [[1]] (k:=q (jy (i:=1) (es:=[af 0,af (-6)]) (e:=af 0) (by decide)) (ai 1 [[0,0,3,5,32,33,34,901,902,903,904,906,1004,1039],[5,0,3,5,32,33,34,901,902,903,904,906,1004,1039],[5,0,3,5,32,33,34,35,901,902,903,904,906,1004,1039],[7,0,3,5,901,902,903,904,906,1004,1039],[3]] (k:=q (dn (fi:=xP)) (q (aX 1) (ai 1 [[2,0,5,58,59,60,901,902,903,904,906,1004,1039],[7,0,5,58,59,60,61,901,902,903,904,906,1004,1039],[15,0,5,9,10,58,59,60,901,902,903,904,906,1004,1039],[1]] (k:=dC 17 mixed (ai 3 [[1]] (k:=jd 906 (ct:=iH 906 (ct:=iG 1 (ct:=ai 3 [[2]] (k:=jd 906 (ct:=iH 906 (ct:=iG 1 (ct:=ai 3 [[1]] (k:=iJ (i:=0) (es:=[af (-17),af 0,af 1]) 902 rfl (by decide) (ct:=qQ (e:=af (-17)) rfl (ct:=ai 3 [[2]] (k:=ak eN ((iy 6 (-3) (-18))) (ct:=ak eN ((kD (-17) (-18) 1)) (ct:=iJ (i:=0) (es:=[af (-17),af 0,af 1]) 902 rfl (by decide) (ct:=ai 3 [[1]] (k:=q (jy (i:=0) (es:=[af (-17),af 0,af 1]) (e:=af 1) (by decide)) (ai 1 [[0,0,5,58,59,60,901,902,903,904,906,1004,1039],[5,0,5,58,59,60,901,902,903,904,906,1004,1039],[5,0,5,58,59,60,61,901,902,903,904,906,1004,1039],[15,0,5,9,10,58,59,60,901,902,903,904,906,1004,1039],[1]] (k:=dC 17 mixed (ai 3 [[1]] (k:=jd 906 (ct:=iH 906 (ct:=iG 1 (ct:=ai 3 [[2]] (k:=jd 906 (ct:=iH 906 (ct:=iG 1 (ct:=ai 3 [[1]] (k:=iJ (i:=1) (es:=[af 1,af 0,af 1]) 902 rfl (by decide) (ct:=qQ (e:=af 0) rfl (ct:=ai 3 [[2]] (k:=ak eN ((iy 6 1 6)) (ct:=ak eN ((kD 0 6 (-6))) (ct:=iJ (i:=1) (es:=[af 1,af 0,af 1]) 902 rfl (by decide) (ct:=ai 3 [[1]] (k:=q (jy (i:=1) (es:=[af 1,af 0,af 1]) (e:=af (-6)) (by decide)) (ai 1 [[0,0,5,58,59,60,901,902,903,904,906,1004,1039],[5,0,5,58,59,60,901,902,903,904,906,1004,1039],[5,0,5,58,59,60,61,901,902,903,904,906,1004,1039],[7,901,902,903,904,906,1004,1039]] (k:=?_)))))))))))))))))))))))))))))))))))))))))))))))))))))))))))))))))))))))))))))))))))))))))))))))))));exact Pj rfl (sbk [901,902,906,903,904,1004,1039])
end Go.Proofs.YtjdakpfhjlhcbaaGreat
