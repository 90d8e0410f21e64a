/-
  Lemmas and contracts for the statement.
-/
import Derived.WalkKit
import Derived.WalkSpells
import Derived.Lib.QuietBelow
import Derived.Lib.Hide
import Derived.Deep.Draws
import Derived.StillTail
import Derived.Deep.QuietTactic
import Derived.BigQuiet
import Derived.Deep.DeepCutAuto
import Derived.Maps.AppendAt
import Derived.OwnWalk
import Derived.RegionTactic
import Derived.Test.YtjdakpfhjlhcbaaGreatRows
import Derived.Shelf.Abstract
import Derived.Deep.RegionLaw
import Derived.Deep.DrawnRows
import Derived.Laws.BitsAllLaws
import Derived.Deep.OwnRows
import Derived.Deep.MidRow
import Derived.Deep.AppendSrc
namespace Go.Proofs.YtjdakpfhjlhcbaaGreat
set_option linter.all false
set_option maxRecDepth 100000
set_option maxHeartbeats 16000000
open Go.RowKit Go.Sort
open Go.Proofs.Tryz renaming prog → aD
open Go.Lib renaming hid → aE
open _root_.Array renaming getD_eq_getD_getElem?→bE,getElem?_eq_some_iff→dz,getElem_append→iA,replicate→dr
open Bool renaming and_eq_true→bL
open Go renaming wp_at_succ→cJ,wp_at_zero→cH
open Go.Act renaming eval→du,put→ij
open Go.Addr renaming add→gL,add_mid→ia
open Go.Builtin renaming append_→fk,firstCells→iz,lenOf→j0,len_→j9
open Go.Calls renaming mono→av
open Go.Code renaming region→gx
open Go.Deferred renaming ofValue→gl
open Go.Instr renaming fieldAt→kg,indexAt→kf,loadAt→kn,slice→kt,sliceAt→gg,sliceBound→da,sliceBounds→bA,sureAddr→j8
open Go.IntKind renaming i64→eZ,u64→gT,wrap_i64→dy
open Go.IntWalk renaming u64_in→jx
open Go.Op renaming intArith→gE,intCmp→gh
open Go.Oper renaming quietAt→kp,quiet_mono→j5,upon→fX,wp→fI
open Go.Region renaming Mode→fN,binds→gj,chainB→f6,lexHead→gD,lexTailB→js,noSelect→jn,noSelect_spec→ib,ready→ep,seqB→kh,sinkB→gi,wanted→aL
open Go.Result renaming andThen_ok→bj
open Go.Sem renaming run_bind→bs,run_pure→cg
open Go.Value renaming int→d8,slice→ko
open Go.World renaming block_lt_of_cell?→dc,cell?_setCell_other→d9,cell?_setCell_same→gM,setCell→kb
open Go.World.grownBy renaming refl→k8
open Go.World.ownsRow renaming alloc→kO,cellAt→gC,cells→kI,frozenAt→kB,kept→kA,lt→ky,stored→gA
open Int renaming natCast_ediv→eC,natCast_emod→j7,natCast_mul→ke,natCast_pow→gH,tmod_eq_emod_of_nonneg→gO
open List renaming all_eq_true→cG,append_assoc→gr,cons_append→fj,countP_append→jj,countP_singleton→eB,drop_eq_getElem_cons→bw,drop_eq_nil_of_le→ie,drop_of_length_le→eA,drop_zero→ew,eq_nil_of_length_eq_zero→eE,ext_getElem→jN,ext_getElem?→ju,getD_cons_succ→eL,getD_cons_zero→db,getD_eq_getElem?_getD→ao,getElem?_append_left→fg,getElem?_append_right→e8,getElem?_drop→dp,getElem?_eq_getElem→ar,getElem?_eq_none→a8,getElem?_eq_some_iff→bh,getElem?_replicate→dk,getElem?_set_ne→fW,getElem?_set_self→ic,getElem?_take→a6,length_cons→cF,length_drop→dj,length_set→br,length_take→cw,map_cons→kj,map_set→ks,mem_append_left→iB,mem_append_right→ix,mem_cons→gP,mem_cons_of_mem→bB,mem_cons_self→bq,mem_of_getElem?→fT,mem_of_mem_take→fS,mem_range→de,mem_singleton→gk,range→ea,replicate→aR,take_append_drop→iu,take_of_length_le→bk,take_succ_cons→iX
open Nat renaming add_assoc→fh,add_mul→fY,add_mul_div_left→eK,add_mul_mod_self_left→gS,add_sub_cancel→eo,add_zero→kx,div_add_mod→kd,div_eq_of_lt→fw,div_le_self→ef,div_lt_iff_lt_mul→cQ,div_mul_le_self→i9,eq_zero_or_pos→cP,le_add_left→kc,le_antisymm→gF,le_div_iff_mul_le→fR,le_mul_of_pos_left→ir,le_refl→aq,le_sub_of_add_le→iS,le_trans→il,lt_of_le_of_lt→dt,lt_of_lt_of_le→ff,lt_of_mul_lt_mul_left→gR,lt_or_ge→aw,lt_trans→eT,lt_trichotomy→jz,min_eq_left→bX,mod_eq_of_lt→j6,mod_lt→eh,mul_add→aM,mul_assoc→bc,mul_comm→bp,mul_le_mul_left→bm,mul_le_mul_right→f8,mul_left_comm→dx,mul_lt_mul_of_pos_right→eW,mul_zero→kv,pow_add→eJ,pow_le_pow_right→bR,pow_pos→ck,pow_succ→cj,sub_mul→iN,two_pow_add_eq_or_of_lt→eV,zero_add→fL,zero_le→eI
open Ne renaming symm→bO
open Option renaming map_none→jt
open Option.some renaming inj→cV
def ints (l:List Int):List Value:=l.map (d8 .i64)
theorem Ld (l:List Int):(ints l).length = l.length:=by simp [ints]
theorem ints_at (l:List Int) (k:Nat) (h:k < l.length):(ints l)[k]? = some (.int .i64 (l.getD k 0)):=by
 simp [ints,ao,ar h]
def bg (w w':World):Prop:=∀ p v,w.cell? p = some v→w'.cell? p = some v
theorem bg.refl (w:World):bg w w:=fun _ _ h=>h
theorem bg.trans {a b c:World} (h:bg a b) (k:bg b c):bg a c:=fun p v x=>k p v (h p v x)
variable {w w':World}
theorem bg.of_below {B:Nat} (h:Below B w w') (hB:w.heap.size≤B):bg w w':=fun p v x=>by
 have hl:=dc w p x;rw [h.cell (by omega)];exact x
theorem bg.alloc (w:World) (o:Obj):bg w (w.alloc o):=fun p v x=>by
 rw [World.cell?_alloc_lt w o p (dc w p x)];exact x
theorem bg.drew (w:World):bg w w.drew:=fun _ _ x=>x
theorem bg.setCell {a:World} (h:bg a w) {p:Addr} (hp:a.heap.size≤p.block) (u:Value):bg a (w.setCell p u):=fun q v x=>by
 have hl:=dc a q x;rw [d9 w p q u (fun e=>by subst e;omega)];exact h q v x
def Rd (w:World) (size:Nat) (A:Option Addr) (n:Nat) (xs:List Value):Prop :=
 xs.length = n * size∧(0 < n→∃ ad,A = some ad∧∀ j u,xs[j]? = some u→w.cell? (ad.add j) = some u)
section
variable {size n:Nat} {A:Option Addr} {xs:List Value}
theorem Rd.keep (h:Rd w size A n xs) (k:bg w w'):Rd w' size A n xs :=
 ⟨h.1,fun hn=>by obtain ⟨ad,e,hc⟩:=h.2 hn;exact ⟨ad,e,fun j u hu=>k _ _ (hc j u hu)⟩⟩
theorem Rd.nil (w:World) (size:Nat) (A:Option Addr):Rd w size A 0 []:=⟨by simp,fun h=>absurd h (by omega)⟩
end
def RdL (w:World) (A:Option Addr) (n:Nat) (ls:List (List Int)):Prop :=
 ls.length = n∧∃ hs:List (Option Addr × Nat),hs.length = n∧Rd w 1 A n (List.zipWith (fun (h:Option Addr × Nat) (l:List Int)=>ko h.1 l.length h.2) hs ls)∧∀ (i:Nat) (h:Option Addr × Nat) (l:List Int),hs[i]? = some h→ls[i]? = some l→Rd w 1 h.1 l.length (ints l)
theorem RdL.keep {w w':World} {A:Option Addr} {n:Nat} {ls:List (List Int)} (h:RdL w A n ls) (k:bg w w'):RdL w' A n ls:=by
 obtain ⟨h1,hs,h2,h3,h4⟩:=h;exact ⟨h1,hs,h2,h3.keep k,fun i h l a b=>(h4 i h l a b).keep k⟩
variable {A:Option Addr} {n k:Nat}
theorem RdL.at {ls:List (List Int)} (h:RdL w A n ls) (hk:k < n) :
 ∃ ad A' c,A = some ad∧w.cell? (ad.add k) = some (.slice A' (ls.getD k []).length c)∧Rd w 1 A' (ls.getD k []).length (ints (ls.getD k [])):=by
 obtain ⟨h1,hs,h2,h3,h4⟩:=h;obtain ⟨ad,e,hc⟩:=h3.2 (by omega);have hk1:k < hs.length:=by omega
 have hk2:k < ls.length:=by omega
 have e1:ls.getD k [] = ls[k]:=by simp [ao,ar hk2]
 refine ⟨ad,hs[k].1,hs[k].2,e,?_,?_⟩
 · rw [e1];refine hc k _ ?_;simp [List.getElem?_zipWith,ar hk1,ar hk2]
 · rw [e1];exact h4 k _ _ (ar hk1) (ar hk2)
section
variable {P:Program} {ops:Array Oper} {md:fN} {C:World→Prop}
def Hq (P:Program) (md:fN) (ops:Array Oper) (C:World→Prop) (n:Nat) (L:Array Bool→Act→Prop):Nat→Array Bool→Act→Prop
 | 0,listed,a=>L listed a
 | f + 1,listed,a =>
  ep md ops listed≠[]∧∀ i∈ep md ops listed,i < n∧qOp P ops C i (Hq P md ops C n L f (listed.setIfInBounds i true)) a
theorem wF {n g:Nat} {L:Array Bool→Act→Prop} {Q':Exit→Act→World→Prop} (hL:∀ listed a w,C w→L listed a→wpAny P md ops Q' g listed a w) :
 ∀ (f:Nat) (listed:Array Bool) (a:Act) (w:World),C w→Hq P md ops C n L f listed a→wpAny P md ops Q' (f + g) listed a w
 | 0,listed,a,w,hw,h=>by rw [fL];exact hL _ _ _ hw h
 | f + 1,listed,a,w,hw,h=>by
  rw [show f + 1 + g = (f + g) + 1 by omega];exact ⟨fun h0=>absurd h0 h.1,fun i hi=>wpOp_of_qOp hw (fun a' w' hw' h'=>wF hL f _ a' w' hw' h') (h.2 i hi).2⟩
theorem KP {i:Nat} {oi:Oper} {v:Value} {L:Array Bool→Act→Prop} (hi:ops[i]? = some oi) (hsel:∀ (j:Nat) (o:Oper) cs b,ops[j]? = some o→o.op≠.select cs b) (hs:gi md ops n = true) (hc:f6 md ops n = true) (hn:n < ops.size) (hin:i < n) (hdone:∀ listed a,L listed a→∀ j∈ep md ops listed,n≤j) :
 ∀ (f:Nat) (listed:Array Bool) (a:Act),HeadInv md ops n listed →
  (∀ j oj,ops[j]? = some oj→j≠i→listed.getD j true = false→(∀ e∈oj.after,gj md e = true→e.on≠i)→oi.apart ops oj = true) →
  i∈ep md ops listed→YieldsIn P ops C oi v a →
  Hq P md ops C n L f (listed.setIfInBounds i true) (a.put oi.dst v)→Hq P md ops C n L (f + 1) listed a:=by
 intro f
 induction f with
 | zero =>
  intro listed a inv _ hr hy H;have hun:=(mem_ready.1 hr).1;refine ⟨fun h=>(by rw [h] at hr;cases hr),fun j hj=>?_⟩;have hjn:j < n:=by
   rcases aw j n with h | h
   · exact h
   · exact absurd hj (tail_waits hs hc hn inv _ i rfl hin hun j h)
  refine ⟨hjn,?_⟩
  by_cases hji:j = i
  · subst hji;exact hy.qOp hi H
  · have:=hdone _ _ H j (ready_mono hj hji);omega
 | succ f ih =>
  intro listed a inv hfree hr hy H;have hun:=(mem_ready.1 hr).1;refine ⟨fun h=>(by rw [h] at hr;cases hr),fun j hj=>?_⟩;have hjn:j < n:=by
   rcases aw j n with h | h
   · exact h
   · exact absurd hj (tail_waits hs hc hn inv _ i rfl hin hun j h)
  refine ⟨hjn,?_⟩
  by_cases hji:j = i
  · subst hji;exact hy.qOp hi H
  ·
   have h1:=(H.2 j (ready_mono hj hji)).2;obtain ⟨hjun,oj,hoj,hall⟩:=mem_ready.1 hj;have hnot:∀ e∈oj.after,gj md e = true→e.on≠i:=fun e he hb heq=>by
    have h1:=hall e he hb;rw [heq,getD_both hun] at h1;cases h1
   have h2:=qOp_put hoj (hfree j oj hoj hji hjun hnot) (fun cs b=>hsel i oi cs b hi) (fun cs b=>hsel j oj cs b hoj) hy h1;have hfree':∀ k ok,ops[k]? = some ok→k≠i→(listed.setIfInBounds j true).getD k true = false →
    (∀ e∈ok.after,gj md e = true→e.on≠i)→oi.apart ops ok = true:=fun k ok hk hki hun hno=>by
    refine hfree k ok hk hki ?_ hno
    by_cases hjk:j = k
    · subst hjk;exact hjun
    · rw [getD_set_ne true hjk] at hun;exact hun
   refine qOp_mono (fun a' h3=>ih (listed.setIfInBounds j true) a' (inv.set hj hjn) hfree' (ready_mono hr (bO hji)) h3.1 ?_) h2;rw [Array.setIfInBounds_comm _ _ hji];exact h3.2
theorem Gl {n g:Nat} {Lq:Act→Prop} (hsel:jn ops = true) (hs:gi md ops n = true) (hc:f6 md ops n = true) (hn:n < ops.size) :
 ∀ (l:List Oper) (k:Nat) (listed:Array Bool) (a:Act),(∀ j,j < l.length→l[j]? = ops[k + j]?)→k + l.length = n→HeadInv md ops n listed →
 gD md ops g l.length k listed = true→wpQuiet P ops C Lq l a →
 Hq P md ops C n (fun listed' a'=>kh md ops g n listed' = true∧Lq a') l.length listed a
 | [],k,listed,a,_,hk,_,hB,h=>by
  have:k = n:=by simpa using hk
  subst this;exact ⟨by simpa [gD] using hB,h⟩
 | o :: l,k,listed,a,hl,hk,inv,hB,h=>by
  have h0:ops[k]? = some o:=by simpa using (hl 0 (by simp)).symm
  simp only [cF,gD,bL] at hB;obtain ⟨⟨hr,hf⟩,hB'⟩:=hB;have hkn:k < n:=by simp only [cF] at hk;omega
  have hr':k∈ep md ops listed:=by simpa using hr
  have hst:qOp P ops C k (wpQuiet P ops C Lq l) a:=by unfold qOp;simp only [h0];exact h
  obtain ⟨v,hy,hK⟩:=yieldsIn_of_qOp h0 hst;exact KP h0 (ib hsel) hs hc hn hkn (fun listed' a' hL=>seqB_ready hL.1) l.length listed a inv (Region.free_spec h0 hf) hr' hy
   (Gl hsel hs hc hn l (k + 1) _ _ (fun j hj=>by have:=hl (j + 1) (by simp;omega);simpa [fh,Nat.add_comm 1 j] using this) (by simp only [cF] at hk;omega) (inv.set hr' hkn) hB' hK)
theorem uC {Q Q':Act→Prop} (h:∀ a,Q a→Q' a):∀ (l:List Oper) (a:Act),wpQuiet P ops C Q l a→wpQuiet P ops C Q' l a
 | [],a,x=>h a x
 | o :: l,a,x=>by
  unfold wpQuiet at x ⊢
  split
  · rename_i hw;rw [if_pos hw] at x;exact j5 (fun a' h'=>uC h l a' h') x
  · rename_i hw;rw [if_neg hw] at x;exact uC h l _ x
end
def Wider (w w':World):Prop:=∃ p:Regrown,w' = grow (redrawn w p.d) p.os
theorem Wider.below (h:Wider w w'):Below w.heap.size w w':=by
 obtain ⟨p,rfl⟩:=h;exact below_regrown _ _ _
variable {Q:Exit→Act→World→Prop} {a:Act}
theorem dJ {P:Program} {id:Nat} {l:List Oper} (hm:P.follows .mixedOrders = true) (hB:Region.lexB .any l.toArray = true) (h:wpQuiet P l.toArray (fun w'=>∃ p:Regrown,w' = grow (redrawn w p.d) p.os) (fun a'=>∀ w',Below w.heap.size w w'→Q .normal a' w') l a):(gx id l.toArray true).wp P Q a w:=by
 refine wp_region_quiet_below hm hB (uC (fun a' h' w' hw'=>?_) l a h);exact h' w' (Wider.below hw')
theorem uj {P:Program} {id:Nat} {l:List Oper} (n:Nat) (hm:P.follows .mixedOrders = true) (hB:js .any l.toArray n = true) (h:wpQuiet P l.toArray (fun w'=>∃ p:Regrown,w' = grow (redrawn w p.d) p.os) (fun a'=>∀ w',Below w.heap.size w w'→wpList P l.toArray Q (l.drop n) a' w') (l.take n) a):(gx id l.toArray true).wp P Q a w:=by
 simp only [js,bL,decide_eq_true_eq] at hB;obtain ⟨⟨⟨⟨hsel,hn⟩,hs⟩,hc⟩,hlex⟩:=hB;have hn':n < l.length:=by simpa using hn
 have htl:(l.take n).length = n:=by simp;omega
 have hdl:(l.drop n).length = l.toArray.size - n:=by simp
 have inv0:HeadInv .any l.toArray n (dr l.toArray.size false) :=
  ⟨by simp,fun j oj _ hl=>(by rw [getD_replicate_false] at hl;cases hl),fun t _ ht=>getD_in (by simpa using ht) (getD_replicate_false _ _)⟩
 have H:=Gl (md:=.any) (g:=l.toArray.size - n) hsel hs hc hn (l.take n) 0 _ a (fun j hj=>by
  have hj':j < n:=by rw [htl] at hj;exact hj
  simp [hj']) (by simpa using htl) inv0 (by rw [htl];exact hlex) h
 refine wp_region_any hm ?_;have hC:∃ p:Regrown,({ w with drawn:=w.drawn + 1 }:World) = grow (redrawn w p.d) p.os:=⟨⟨w.drawn + 1,#[]⟩,by rw [grow_empty];rfl⟩;have:=wF (Q':=Q) (g:=l.toArray.size - n) (fun listed a' w' hw' hL=>by
  have:=wpAny_of_seq (md:=.any) (Q':=Q) (l.drop n) n listed a' w' (fun j=>by simp [dp]) (by rw [hdl];exact hL.1) (hL.2 w' (Wider.below hw'));rwa [hdl] at this) _ _ _ _ hC H
 rw [htl,show n + (l.toArray.size - n) = l.toArray.size by omega] at this;exact this
variable {v:Value}
theorem bZ {a:Addr} (h:w.cell? a = some v):∀ d os,(grow (redrawn w d) os).cell? a = some v:=fun d os=>cell_regrown h d os
theorem bg.grown (w:World) (d:Nat) (os:Array Obj):bg w (grow (redrawn w d) os):=fun _ _ h=>cell_regrown h d os
theorem Z9 {P:Program} {f:FuncId} {args:Array Value} (h:∀ w',bg w w'→Calls P f args w' fun e w''=>e = .returned v∧Below w'.heap.size w' w'') :
 ∀ d os,Calls P f args (grow (redrawn w d) os) fun e w''=>e = .returned v∧∃ p:Regrown,w'' = grow (redrawn w p.d) p.os :=
 fun d os=>Calls.regrown_of (h _ (bg.grown w d os))
def aep (o:Oper):Bool :=
 match o.op with
 | .move _ | .assign _ | .pick .. | .load .. | .binOp .. | .unOp .. | .convert .. | .slice .. | .fieldAddr .. | .field .. | .indexAddr .. | .index .. | .extract .. | .build ..=>true
 | .call { callee:=.builtin .len,.. }=>true
 | _=>false
theorem Xm {P:Program} {α:Type} {s:Sem α} {g:α→Value} {n:Next} (h:(s >>= fun x=>Sem.pure (Next.value (g x))).run P w = .ok n w'):∃ v,n = .value v:=by
 rw [bs] at h;cases hs:s.run P w with
 | ok v w2=>rw [hs] at h;injection h with h1 h2;exact ⟨_,h1.symm⟩
 | halt x w2=>rw [hs] at h;cases h
variable {o:Oper}
theorem Gh {P:Program} {ρ:Operand→Value} {n:Next} (ht:aep o = true) (h:(execOp ρ o).run P w = .ok n w'):∃ v,n = .value v:=by
 obtain ⟨dst,op,type,pos,after,guard⟩:=o;unfold aep at ht;cases op <;> first | (cases ht;done) | skip
 case call c =>
  obtain ⟨callee,args,argTypes⟩:=c;cases callee <;> simp only at ht <;> try (cases ht;done)
  rename_i b;cases b <;> simp only at ht <;> try (cases ht;done)
  simp only [execOp,resolve,invoke,builtin] at h;exact Xm (g:=fun v=>v) h
 case pick c x y =>
  simp only [execOp] at h;exact Xm (g:=fun b=>if b = true then ρ x else ρ y) h
 all_goals first
  | exact Xm (g:=fun v=>v) h
  | (injection h with h1 h2;exact ⟨_,h1.symm⟩)
section
variable {P:Program} {ops:Array Oper} {md:fN} {C:World→Prop} {E:Nat→Value→World→Prop} {D:List (Nat × List Nat)}
def opn (D:List (Nat × List Nat)) (o:Oper):Option (Nat × List Nat):=o.dst.bind fun d=>D.find? (fun x=>x.1 == d)
theorem qR {d:Nat} {ds:List Nat} (h:opn D o = some (d,ds)):o.dst = some d∧(d,ds)∈D:=by
 unfold opn at h;cases hd:o.dst with
 | none=>rw [hd] at h;cases h
 | some e =>
  rw [hd] at h;have h1:=List.find?_some (show D.find? (fun x=>x.1 == e) = some (d,ds) from h);have h2:=List.mem_of_find?_eq_some (show D.find? (fun x=>x.1 == e) = some (d,ds) from h);simp at h1;exact ⟨by rw [h1],h2⟩
def wO (P:Program) (w:World) (Ed:Value→World→Prop):Result Next→Prop
 | .ok (.value u) w'=>Below w.heap.size w w'∧Ed u w'
 | .ok (.enter f args) w'=>w' = w∧Calls P f args w fun e w''=>∃ v,e = .returned v∧Below w.heap.size w w''∧Ed v w''
 | _=>False
def OZ (P:Program) (ops:Array Oper) (C:World→Prop) (E:Nat→Value→World→Prop) (D:List (Nat × List Nat)) (Q:Act→Prop):List Oper→Act→Prop
 | [],a=>Q a
 | o :: rest,a=>match opn D o with
  | none=>if aL o (yielded ops a.tmps) then o.quiet P a C (OZ P ops C E D Q rest) else OZ P ops C E D Q rest (a.put o.dst undef)
  | some (d,ds)=>aL o (yielded ops a.tmps) = true∧(∀ w,C w→(∀ x∈ds,E x (a.eval (.tmp x)) w)→wO P w (E d) ((execOp a.eval o).run P w))∧∀ v,OZ P ops C E D Q rest (a.put o.dst v)
def Agr (ops:Array Oper) (o:Oper) (a b:Act):Prop:=∀ t∈o.looksAt ops,a.tmps[t]? = b.tmps[t]?
theorem Agr.eval {o:Oper} {a b:Act} (h:Agr ops o a b) (hs:∀ cs x,o.op≠.select cs x):execOp a.eval o = execOp b.eval o :=
 execOp_congr o hs fun x hx=>by
  cases x with
  | tmp t =>
   have:=h t (iB _ (List.mem_filterMap.2 ⟨.tmp t,by simpa using hx,rfl⟩));simp [du,bE,this]
  | _=>rfl
theorem Agr.wanted {o:Oper} {a b:Act} (h:Agr ops o a b):aL o (yielded ops a.tmps) = aL o (yielded ops b.tmps):=by
 unfold aL;cases hg:o.guard with
 | none=>rfl
 | some gw =>
  obtain ⟨g,want⟩:=gw;have hy:yielded ops a.tmps g = yielded ops b.tmps g:=by
   unfold yielded;cases ht:(ops[g]?).bind (·.dst) with
   | none=>rfl
   | some t =>
    have:=h t (by simp [Oper.looksAt,hg,ht]);simp [this]
  simp only [hy]
def CB (P:Program) (ops:Array Oper) (C:World→Prop) (E:Nat→Value→World→Prop) (D:List (Nat × List Nat)) (o:Oper) (b:Act) (c:Nat→Value):Prop :=
 match opn D o with
 | none=>∃ v,YieldsIn P ops C o v b∧∀ d,o.dst = some d→b.tmps[d]? = some v
 | some (d,ds)=>aL o (yielded ops b.tmps) = true∧b.tmps[d]? = some (c d)∧∀ w,C w→(∀ x∈ds,E x (b.eval (.tmp x)) w)→wO P w (E d) ((execOp b.eval o).run P w)
def uh (D:List (Nat × List Nat)) (o:Oper):List Nat:=((opn D o).map (·.2)).getD []
def TN (ops:Array Oper) (D:List (Nat × List Nat)):List Oper→Bool
 | []=>true
 | o :: rest=>((o :: rest).all fun p=>match p.dst with | none=>true | some d=>!(o.looksAt ops).contains d && !(uh D o).contains d) &&
  (rest.all fun p=>match p.dst with | none=>true | some d=>o.dst != some d) && TN ops D rest
theorem KD {d:Option Nat} {t:Nat} (h:d≠some t):(a.put d v).tmps[t]? = a.tmps[t]?:=by
 cases d with
 | none=>rfl
 | some d=>simp [ij,Array.getElem?_setIfInBounds_ne (show d≠t from fun e=>h (by rw [e]))]
theorem iZ {d:Option Nat}:(a.put d v).tmps.size = a.tmps.size:=by cases d <;> simp [ij]
theorem Bf {d:Nat} (h:d < a.tmps.size):(a.put (some d) v).tmps[d]? = some v:=by simp [ij,h]
theorem Ag {b:Act} {t:Nat} (h:a.tmps[t]? = b.tmps[t]?):a.eval (.tmp t) = b.eval (.tmp t):=by simp [du,bE,h]
theorem fH {d:Option Nat}:(a.put d v).defers = a.defers:=by cases d <;> rfl
theorem JL {Q:Act→Prop} (hsel:∀ (o:Oper),o∈ops→∀ cs b,o.op≠.select cs b):∀ (l:List Oper) (a:Act),(∀ o∈l,o∈ops)→TN ops D l = true→(∀ o∈l,∀ d,o.dst = some d→d < a.tmps.size)→OZ P ops C E D Q l a →
 ∃ F:(Nat→Value)→Act,∀ c,Q (F c)∧(F c).tmps.size = a.tmps.size∧(F c).defers = a.defers∧(∀ t,(∀ o∈l,o.dst≠some t)→(F c).tmps[t]? = a.tmps[t]?)∧∀ o∈l,CB P ops C E D o (F c) c
 | [],a,_,_,_,h=>⟨fun _=>a,fun c=>⟨h,rfl,rfl,fun _ _=>rfl,fun o ho=>nomatch ho⟩⟩
 | o :: rest,a,hin,hok,hsz,h=>by
  unfold TN at hok;simp only [bL,cG] at hok;obtain ⟨⟨h1,h2⟩,h3⟩:=hok;have hlook:∀ t∈o.looksAt ops,∀ p∈o :: rest,p.dst≠some t:=fun t ht p hp e=>by
   have:=h1 p hp;rw [e] at this;simp at this;exact this.1 ht
  have hdep:∀ t∈uh D o,∀ p∈o :: rest,p.dst≠some t:=fun t ht p hp e=>by
   have:=h1 p hp;rw [e] at this;simp at this;exact this.2 ht
  have hdst:∀ d,o.dst = some d→∀ p∈rest,p.dst≠some d:=fun d hd p hp e=>by
   have:=h2 p hp;rw [e] at this;simp [hd] at this
  have hos:=hsel o (hin o (bq ..));have hin':∀ p∈rest,p∈ops:=fun p hp=>hin p (bB _ hp)
  have hsz':∀ v,∀ p∈rest,∀ d,p.dst = some d→d < (a.put o.dst v).tmps.size:=fun v p hp d hd=>by rw [iZ];exact hsz p (bB _ hp) d hd
  have agr:∀ (b:Act) v,(∀ t,(∀ p∈rest,p.dst≠some t)→b.tmps[t]? = (a.put o.dst v).tmps[t]?)→∀ t,(∀ p∈o :: rest,p.dst≠some t)→b.tmps[t]? = a.tmps[t]?:=fun b v hb t ht=>by
   rw [hb t (fun p hp=>ht p (bB _ hp)),KD (ht o (bq ..))]
  cases ho:opn D o with
  | none =>
   have hv:∃ v,YieldsIn P ops C o v a∧OZ P ops C E D Q rest (a.put o.dst v):=by
    unfold OZ at h;simp only [ho] at h
    by_cases hw:aL o (yielded ops a.tmps) = true
    · rw [if_pos hw] at h;obtain ⟨v,x,y⟩:=h;exact ⟨v,.inl ⟨hw,x⟩,y⟩
    · rw [if_neg hw] at h;exact ⟨undef,.inr ⟨by simpa using hw,rfl⟩,h⟩
   obtain ⟨v,hy,hr⟩:=hv;obtain ⟨F,hF⟩:=JL hsel rest _ hin' h3 (hsz' v) hr;refine ⟨F,fun c=>?_⟩;obtain ⟨q1,q2,q3,q4,q5⟩:=hF c;refine ⟨q1,by rw [q2,iZ],by rw [q3,fH],agr _ v q4,fun p hp=>?_⟩;rcases gP.1 hp with rfl | hp
   · have hag:Agr ops p (F c) a:=fun t ht=>agr _ v q4 t (hlook t ht)
     unfold CB;rw [ho];refine ⟨v,hy.of_same (hag.eval hos) hag.wanted,fun d hd=>?_⟩;rw [q4 d (hdst d hd),hd,Bf (hsz p (bq ..) d hd)]
   · exact q5 p hp
  | some x =>
   obtain ⟨d,ds⟩:=x;obtain ⟨hod,-⟩:=qR ho;unfold OZ at h;simp only [ho] at h;obtain ⟨hw,hob,hr⟩:=h;have IH:=fun v=>JL hsel rest _ hin' h3 (hsz' v) (hr v)
   obtain ⟨F0,hF0⟩:=Classical.axiomOfChoice IH;refine ⟨fun c=>F0 (c d) c,fun c=>?_⟩;have hF:=hF0 (c d) c;dsimp only;generalize F0 (c d) = F at hF ⊢;obtain ⟨q1,q2,q3,q4,q5⟩:=hF;refine ⟨q1,by rw [q2,iZ],by rw [q3,fH],agr _ _ q4,fun p hp=>?_⟩;rcases gP.1 hp with rfl | hp
   · have hag:Agr ops p (F c) a:=fun t ht=>agr _ _ q4 t (hlook t ht)
     unfold CB;rw [ho];refine ⟨by rw [hag.wanted];exact hw,?_,fun w hC hE=>?_⟩
     · rw [q4 d (hdst d hod),hod,Bf (hsz p (bq ..) d hod)]
     · rw [hag.eval hos];refine hob w hC fun x hx=>?_
       rw [← Ag (agr _ _ q4 x (hdep x (by simpa [uh,ho] using hx)))];exact hE x hx
   · exact q5 p hp
def cnt (n:Nat) (listed:Array Bool):Nat:=(ea n).countP fun i=>!listed.getD i false
theorem EI:∀ {listed:Array Bool} {i:Nat},i < n→i < listed.size→listed.getD i false = false→cnt n (listed.setIfInBounds i true) + 1 = cnt n listed:=by
 induction n with
 | zero=>intro _ i h;omega
 | succ n ih =>
  intro listed i hi hs hl;unfold cnt at *;rw [List.range_succ,jj,jj]
  by_cases hin:i = n
  · subst hin;have e:(ea i).countP (fun k=>!(listed.setIfInBounds i true).getD k false) = (ea i).countP fun k=>!listed.getD k false :=
     List.countP_congr fun k hk=>by
      have:k < i:=de.1 hk;rw [getD_set_ne false (by omega)]
    have h1:(listed.setIfInBounds i true).getD i false = true:=by simp [hs]
    rw [e,eB,eB,h1,hl];simp
  · have:=ih (listed:=listed) (i:=i) (by omega) hs hl;have h1:(listed.setIfInBounds i true).getD n false = listed.getD n false:=getD_set_ne false hin;rw [eB,eB,h1];omega
theorem Gv {listed:Array Bool} (h:cnt n listed = 0) {i:Nat} (hi:i < n):listed.getD i false = true:=by
 have:=List.countP_eq_zero.1 h i (de.2 hi);simpa using this
theorem JU {listed:Array Bool} (h:0 < cnt n listed):∃ i,i < n∧listed.getD i false = false∧∀ k,k < i→listed.getD k false = true:=by
 have h2:∃ i,i < n∧listed.getD i false = false:=by
  obtain ⟨i,hi,hp⟩:=List.countP_pos_iff.1 h;exact ⟨i,de.1 hi,by simpa using hp⟩
 clear h;obtain ⟨i,hi,hl⟩:=h2
 induction i using Nat.strongRecOn with
 | _ i ih =>
  by_cases hk:∃ k,k < i∧listed.getD k false = false
  · obtain ⟨k,hk,hl'⟩:=hk;exact ih k hk (by omega) hl'
  · exact ⟨i,hi,hl,fun k hki=>by
     cases hx:listed.getD k false with
     | true=>rfl
     | false=>exact absurd ⟨k,hki,hx⟩ hk⟩
def adu (md:fN) (ops:Array Oper) (D:List (Nat × List Nat)) (n:Nat):Bool :=
 (ea n).all fun j=>match ops[j]? with
  | none=>true
  | some oj=>(oj.after.all fun e=>!gj md e || decide (e.on < j)) && ((opn D oj).isSome || aep oj) && (ea n).all fun i=>match ops[i]? with
   | none=>true
   | some oi=>match oi.dst with
    | none=>true
    | some t=>!(oj.looksAt ops ++ uh D oj).contains t || Region.waitsFor md ops j i
structure aeY (P:Program) (md:fN) (ops:Array Oper) (C:World→Prop) (E:Nat→Value→World→Prop) (D:List (Nat × List Nat)) (n:Nat) (a0:Act) (F:(Nat→Value)→Act) (listed:Array Bool) (a:Act) (w:World):Prop where
 head:HeadInv md ops n listed
 cls:C w
 size:a.tmps.size = a0.tmps.size
 defs:a.defers = a0.defers
 done:∀ c:Nat→Value,(∀ i o d ds,i < n→ops[i]? = some o→listed.getD i false = true→opn D o = some (d,ds)→c d = a.eval (.tmp d)) →
  ∀ i o d,i < n→ops[i]? = some o→listed.getD i false = true→o.dst = some d→a.tmps[d]? = (F c).tmps[d]?
 rest:∀ t,(∀ i o,i < n→ops[i]? = some o→listed.getD i false = true→o.dst≠some t)→a.tmps[t]? = a0.tmps[t]?
 facts:∀ i o d ds,i < n→ops[i]? = some o→listed.getD i false = true→opn D o = some (d,ds)→E d (a.eval (.tmp d)) w
theorem aaE {g:Nat} {a0:Act} {F:(Nat→Value)→Act} {Q':Exit→Act→World→Prop} (hsel:∀ (o:Oper),o∈ops→∀ cs b,o.op≠.select cs b) (hn:n = ops.size∨(gi md ops n = true∧f6 md ops n = true∧n < ops.size)) (hdep:adu md ops D n = true) (hop2:∀ d ds,(d,ds)∈D→∀ x∈ds,∃ i o es,i < n∧ops[i]? = some o∧opn D o = some (x,es)) (hE:∀ d v w w',Below w.heap.size w w'→E d v w→E d v w') (hC:∀ w w',C w→Below w.heap.size w w'→C w') (hlex:∀ i j oi oj d,i < n→j < n→ops[i]? = some oi→ops[j]? = some oj→oi.dst = some d→oj.dst = some d→i = j) (hsz:∀ i o d,i < n→ops[i]? = some o→o.dst = some d→d < a0.tmps.size) (hF:∀ c,(F c).tmps.size = a0.tmps.size∧(F c).defers = a0.defers∧(∀ t,(∀ i o,i < n→ops[i]? = some o→o.dst≠some t)→(F c).tmps[t]? = a0.tmps[t]?)∧∀ i o,i < n→ops[i]? = some o→CB P ops C E D o (F c) c) (hend:∀ listed c w,HeadInv md ops n listed→(∀ i,i < n→listed.getD i false = true)→C w→(∀ i o d ds,i < n→ops[i]? = some o→opn D o = some (d,ds)→E d ((F c).eval (.tmp d)) w)→wpAny P md ops Q' g listed (F c) w) :
 ∀ (f:Nat) (listed:Array Bool) (a:Act) (w:World),cnt n listed = f→aeY P md ops C E D n a0 F listed a w→wpAny P md ops Q' (f + g) listed a w:=by
 intro f
 induction f with
 | zero =>
  intro listed a w hc inv;have hall:∀ i,i < n→listed.getD i false = true:=fun i hi=>Gv hc hi
  let c:Nat→Value:=fun d=>a.eval (.tmp d)
  have ha:a = F c:=by
   obtain ⟨f1,f2,f3,-⟩:=hF c;obtain ⟨at',ad⟩:=a;cases hfc:F c with
   | mk bt bd =>
    rw [hfc] at f1 f2 f3;have h1:at' = bt:=by
     apply Array.ext_getElem?;intro t
     by_cases hx:∃ i o,i < n∧ops[i]? = some o∧o.dst = some t
     · obtain ⟨i,o,hi,ho,hd⟩:=hx;have:=inv.done c (fun _ _ _ _ _ _ _ _=>rfl) i o t hi ho (hall i hi) hd;rw [hfc] at this;exact this
     · have h2:=inv.rest t fun i o hi ho _ hd=>hx ⟨i,o,hi,ho,hd⟩
       have h3:=f3 t fun i o hi ho hd=>hx ⟨i,o,hi,ho,hd⟩
       exact h2.trans h3.symm
    have h2:ad = bd:=inv.defs.trans f2.symm;rw [h1,h2]
  have hfacts:=inv.facts;rw [fL];rw [ha] at hfacts ⊢;exact hend listed c w inv.head hall inv.cls fun i o d ds hi ho hopn=>hfacts i o d ds hi ho (hall i hi) hopn
 | succ f ih =>
  intro listed a w hc inv;rw [show f + 1 + g = (f + g) + 1 by omega];have dep:=fun j (hj:j < n)=>cG.1 hdep j (de.2 hj)
  obtain ⟨i0,hi0,hl0,hmin⟩:=JU (by omega:0 < cnt n listed);have hun0:listed.getD i0 true = false:=by
   have hs:i0 < listed.size:=by
    rw [inv.head.size];rcases hn with rfl | ⟨_,_,h⟩
    · exact hi0
    · omega
   exact getD_in hs hl0
  have hlt:∀ j∈ep md ops listed,j < n:=fun j hj=>by
   rcases aw j n with h | h
   · exact h
   · rcases hn with rfl | ⟨h1,h2,h3⟩
     · obtain ⟨_,o,ho,_⟩:=mem_ready.1 hj;have:=(dz.1 ho).1;omega
     · exact absurd hj (tail_waits h1 h2 h3 inv.head _ i0 rfl hi0 hun0 j h)
  refine ⟨fun hnil=>?_,fun j hj=>?_⟩
  ·
   exfalso;have hlt0:i0 < ops.size:=by
    rcases hn with rfl | ⟨_,_,h⟩
    · exact hi0
    · omega
   have ho0:ops[i0]? = some ops[i0]:=Array.getElem?_eq_getElem hlt0;have hd0:=dep i0 hi0;rw [ho0] at hd0;simp only [bL,Array.all_eq_true_iff_forall_mem] at hd0;have:i0∈ep md ops listed:=mem_ready.2 ⟨hun0,_,ho0,fun e he hb=>by
    have:=hd0.1.1 e he;simp [hb] at this;exact hmin _ this⟩
   rw [hnil] at this;cases this
  ·
   have hjn:=hlt j hj;obtain ⟨hjun,oj,hoj,hall⟩:=mem_ready.1 hj;have hjm:oj∈ops:=Array.mem_of_getElem? hoj;have hd:=dep j hjn;rw [hoj] at hd;simp only [bL] at hd;obtain ⟨⟨-,htame⟩,hd3⟩:=hd;have hwait:∀ t,t∈oj.looksAt ops ++ uh D oj→∀ i o,i < n→ops[i]? = some o→o.dst = some t→listed.getD i false = true:=fun t ht i o hi ho hd=>by
    have h1:=cG.1 hd3 i (de.2 hi);rw [ho] at h1;simp only [hd] at h1;rw [show (oj.looksAt ops ++ uh D oj).contains t = true from List.contains_iff_mem.2 ht] at h1;simp only [Bool.not_true,Bool.false_or] at h1;obtain ⟨o',ho',e,he,hb,hon⟩:=Region.waitsFor_spec h1;have:o' = oj:=cV (ho'.symm.trans hoj);subst this;rw [← hon];exact hall e he hb
   have hsee:∀ c:Nat→Value,(∀ i o d ds,i < n→ops[i]? = some o→listed.getD i false = true→opn D o = some (d,ds)→c d = a.eval (.tmp d)) →
    ∀ t,t∈oj.looksAt ops ++ uh D oj→a.tmps[t]? = (F c).tmps[t]?:=fun c hcc t ht=>by
    by_cases hx:∃ i o,i < n∧ops[i]? = some o∧o.dst = some t
    · obtain ⟨i,o,hi,ho,hd⟩:=hx;exact inv.done c hcc i o t hi ho (hwait t ht i o hi ho hd) hd
    · exact (inv.rest t fun i o hi ho _ hd=>hx ⟨i,o,hi,ho,hd⟩).trans ((hF c).2.2.1 t fun i o hi ho hd=>hx ⟨i,o,hi,ho,hd⟩).symm
   have hsj:=hsel oj hjm;have hcnt:cnt n (listed.setIfInBounds j true) = f:=by
    have hs:j < listed.size:=by rw [inv.head.size];exact (dz.1 hoj).1
    have:=EI hjn hs (getD_both hjun);omega
   have hnew:∀ (v:Value) (w':World),C w'→Below w.heap.size w w' →
    (∀ d ds,opn D oj = some (d,ds)→E d v w') →
    (∀ c:Nat→Value,(∀ i o d ds,i < n→ops[i]? = some o→listed.getD i false = true→opn D o = some (d,ds)→c d = a.eval (.tmp d))→(∀ d ds,opn D oj = some (d,ds)→c d = v)→∀ d,oj.dst = some d→(F c).tmps[d]? = some v) →
    aeY P md ops C E D n a0 F (listed.setIfInBounds j true) (a.put oj.dst v) w':=fun v w' hCw hB hEv hFv=>by
    have hother:∀ i o d,i < n→ops[i]? = some o→o.dst = some d→i≠j→oj.dst≠some d:=fun i o d hi ho hd hij hjd=>hij (hlex i j o oj d hi hjn ho hoj hd hjd)
    have hput:∀ i o d,i < n→ops[i]? = some o→o.dst = some d→i≠j→(a.put oj.dst v).tmps[d]? = a.tmps[d]?:=fun i o d hi ho hd hij=>KD (hother i o d hi ho hd hij)
    have hself:∀ d,oj.dst = some d→(a.put oj.dst v).tmps[d]? = some v:=fun d hd=>by
     rw [hd];exact Bf (by rw [inv.size];exact hsz j oj d hjn hoj hd)
    have hlist:∀ i,(listed.setIfInBounds j true).getD i false = true→i≠j→listed.getD i false = true:=fun i hl hij=>by
     rwa [getD_set_ne false (bO hij)] at hl
    have hset:∀ i,listed.getD i false = true→i≠j:=fun i hl e=>by subst e;rw [getD_both hjun] at hl;cases hl
    have hcOf:∀ c:Nat→Value,(∀ i o d ds,i < n→ops[i]? = some o→(listed.setIfInBounds j true).getD i false = true→opn D o = some (d,ds)→c d = (a.put oj.dst v).eval (.tmp d)) →
     (∀ i o d ds,i < n→ops[i]? = some o→listed.getD i false = true→opn D o = some (d,ds)→c d = a.eval (.tmp d))∧(∀ d ds,opn D oj = some (d,ds)→c d = v):=fun c hcc=>by
     refine ⟨fun i o d ds hi ho hl hop=>?_,fun d ds hop=>?_⟩
     · rw [hcc i o d ds hi ho (getD_set_true hl) hop];exact Ag (hput i o d hi ho (qR hop).1 (hset i hl))
     · have hs:j < listed.size:=by rw [inv.head.size];exact (dz.1 hoj).1
       rw [hcc j oj d ds hjn hoj (by simp [hs]) hop];have:=hself d (qR hop).1;simp [du,bE,this]
    refine ⟨inv.head.set hj hjn,hCw,by rw [iZ];exact inv.size,by rw [fH];exact inv.defs,fun c hcc i o d hi ho hl hd=>?_,fun t ht=>?_,fun i o d ds hi ho hl hop=>?_⟩
    · obtain ⟨hc1,hc2⟩:=hcOf c hcc
      by_cases hij:i = j
      · subst hij;have:o = oj:=cV (ho.symm.trans hoj);subst this;rw [hself d hd,hFv c hc1 hc2 d hd]
      · rw [hput i o d hi ho hd hij];exact inv.done c hc1 i o d hi ho (hlist i hl hij) hd
    · have hs:j < listed.size:=by rw [inv.head.size];exact (dz.1 hoj).1
      rw [KD (ht j oj hjn hoj (by simp [hs]))];exact inv.rest t fun i o hi ho hl=>ht i o hi ho (getD_set_true hl)
    · by_cases hij:i = j
      · subst hij;have:o = oj:=cV (ho.symm.trans hoj);subst this;have h1:=hself d (qR hop).1;have h2:(a.put o.dst v).eval (.tmp d) = v:=by simp [du,bE,h1]
        rw [h2];exact hEv d ds hop
      · rw [Ag (hput i o d hi ho (qR hop).1 hij)];exact hE d _ w w' hB (inv.facts i o d ds hi ho (hlist i hl hij) hop)
   let c0:Nat→Value:=fun d=>a.eval (.tmp d)
   have hc0:∀ i o d ds,i < n→ops[i]? = some o→listed.getD i false = true→opn D o = some (d,ds)→c0 d = a.eval (.tmp d):=fun _ _ _ _ _ _ _ _=>rfl
   have agr:∀ c:Nat→Value,(∀ i o d ds,i < n→ops[i]? = some o→listed.getD i false = true→opn D o = some (d,ds)→c d = a.eval (.tmp d))→Agr ops oj (F c) a:=fun c hcc t ht=>(hsee c hcc t (iB _ ht)).symm
   have hspec:=fun c=>(hF c).2.2.2 j oj hjn hoj
   unfold wpOp;simp only [hoj];cases hop:opn D oj with
   | none =>
    rw [hop] at htame;simp at htame;have hsp:∀ c,∃ v,YieldsIn P ops C oj v (F c)∧∀ d,oj.dst = some d→(F c).tmps[d]? = some v:=fun c=>by
     have:=hspec c;unfold CB at this;rwa [hop] at this
    -- one value for all choices
    obtain ⟨v0,hy0,hv0⟩:=hsp c0;have hy:YieldsIn P ops C oj v0 a:=hy0.of_same ((agr c0 hc0).eval hsj).symm (agr c0 hc0).wanted.symm;have huniq:∀ c:Nat→Value,(∀ i o d ds,i < n→ops[i]? = some o→listed.getD i false = true→opn D o = some (d,ds)→c d = a.eval (.tmp d))→∀ d,oj.dst = some d→(F c).tmps[d]? = some v0:=fun c hcc d hd=>by
     obtain ⟨v,hy',hv⟩:=hsp c;have hy2:YieldsIn P ops C oj v a:=hy'.of_same ((agr c hcc).eval hsj).symm (agr c hcc).wanted.symm;have:v = v0:=by
      rcases hy with ⟨x1,x2⟩ | ⟨x1,rfl⟩ <;> rcases hy2 with ⟨y1,y2⟩ | ⟨y1,rfl⟩
      · have p:=x2 w inv.cls;have q:=y2 w inv.cls;unfold kp at p q;cases hr:(execOp a.eval oj).run P w with
        | ok nx w1 =>
         obtain ⟨u,rfl⟩:=Gh htame hr;rw [hr] at p q;exact q.2.symm.trans p.2
        | halt x w1=>rw [hr] at p;exact p.elim
      · rw [x1] at y1;cases y1
      · rw [x1] at y1;cases y1
      · rfl
     rw [hv d hd,this]
    rcases hy with ⟨x1,x2⟩ | ⟨x1,rfl⟩
    · rw [if_pos x1];refine .inl ?_;have p:=x2 w inv.cls;unfold kp at p;unfold fI;cases hr:(execOp a.eval oj).run P w with
      | ok nx w1 =>
       obtain ⟨u,rfl⟩:=Gh htame hr;rw [hr] at p;obtain ⟨rfl,rfl⟩:=p;simp only [fX];exact ih _ _ _ hcnt (hnew u w1 inv.cls (Below.refl _ _) (fun d ds h=>by rw [hop] at h;cases h) fun c h1 _ d hd=>huniq c h1 d hd)
      | halt x w1=>rw [hr] at p;exact p.elim
    · rw [if_neg (by rw [x1];simp)];exact ih _ _ _ hcnt (hnew undef w inv.cls (Below.refl _ _) (fun d ds h=>by rw [hop] at h;cases h) fun c h1 _ d hd=>huniq c h1 d hd)
   | some x =>
    obtain ⟨d,ds⟩:=x;have hsp:∀ c,aL oj (yielded ops (F c).tmps) = true∧(F c).tmps[d]? = some (c d)∧∀ w,C w→(∀ x∈ds,E x ((F c).eval (.tmp x)) w)→wO P w (E d) ((execOp (F c).eval oj).run P w):=fun c=>by
     have:=hspec c;unfold CB at this;rwa [hop] at this
    obtain ⟨s1,s2,s3⟩:=hsp c0;rw [if_pos (by rw [← (agr c0 hc0).wanted];exact s1)];refine .inl ?_;have hfv:∀ v:Value,∀ c:Nat→Value,(∀ i o d ds,i < n→ops[i]? = some o→listed.getD i false = true→opn D o = some (d,ds)→c d = a.eval (.tmp d))→(∀ d ds,opn D oj = some (d,ds)→c d = v)→∀ d,oj.dst = some d→(F c).tmps[d]? = some v:=fun v c _ h2 e he=>by
     have:e = d:=cV (he.symm.trans (qR hop).1);subst this;rw [(hsp c).2.1,h2 e ds hop]
    have h:=s3 w inv.cls fun x hx=>by
     have hxd:x∈uh D oj:=by simp [uh,hop,hx]
     rw [← Ag (hsee c0 hc0 x (ix _ hxd))];obtain ⟨i,o,es,hi,ho,hox⟩:=hop2 d ds (qR hop).2 x hx;exact inv.facts i o x es hi ho (hwait x (ix _ hxd) i o hi ho (qR hox).1) hox
    rw [(agr c0 hc0).eval hsj] at h;unfold fI;cases hr:(execOp a.eval oj).run P w with
    | halt x w1=>rw [hr] at h;exact h.elim
    | ok nx w1 =>
     rw [hr] at h;cases nx <;> simp only [wO] at h <;> first | exact h.elim | skip
     case value u =>
      simp only [fX];exact ih _ _ _ hcnt (hnew u w1 (hC w w1 inv.cls h.1) h.1 (fun e es he=>by rw [hop] at he;injection he with he;injection he with he1 he2;subst he1;exact h.2) (hfv u))
     case enter f2 args =>
      obtain ⟨rfl,hcall⟩:=h;simp only [fX];refine hcall.mono ?_;rintro e w2 ⟨v,rfl,hb2,he2⟩;exact ih _ _ _ hcnt (hnew v w2 (hC _ w2 inv.cls hb2) hb2 (fun e es he=>by rw [hop] at he;injection he with he;injection he with he1 he2';subst he1;exact he2) (hfv v))
def J9 (ops:Array Oper) (D:List (Nat × List Nat)) (n y:Nat):Bool:=(ea n).any fun i=>match (ops[i]?).bind (opn D) with | some x=>x.1 == y | none=>false
theorem Bo {y:Nat} (h:J9 ops D n y = true):∃ i o es,i < n∧ops[i]? = some o∧opn D o = some (y,es):=by
 obtain ⟨i,hi,h⟩:=List.any_eq_true.1 h;cases ho:ops[i]? with
 | none=>rw [ho] at h;cases h
 | some o =>
  rw [ho] at h;simp only [Option.bind_some] at h;cases hx:opn D o with
  | none=>rw [hx] at h;cases h
  | some x =>
   rw [hx] at h;simp at h;obtain ⟨p,q⟩:=x;simp only at h;subst h;exact ⟨i,o,q,de.1 hi,ho,hx⟩
def afU (l:List Oper) (D:List (Nat × List Nat)) (n m:Nat):Bool :=
 jn l.toArray && decide (n≤l.length) && (decide (n = l.length) || (gi .any l.toArray n && f6 .any l.toArray n)) && adu .any l.toArray D n &&
 D.all (fun x=>J9 l.toArray D n x.1 && x.2.all (J9 l.toArray D n)) && TN l.toArray D (l.take n) &&
 (ea n).all (fun i=>(ea n).all fun j=>i == j || match (l[i]?).bind (·.dst),(l[j]?).bind (·.dst) with | some a,some b=>a != b | _,_=>true) &&
 (l.take n).all (fun o=>match o.dst with | none=>true | some d=>decide (d < m)) &&
 kh .any l.toArray (l.length - n) n (dr n true ++ dr (l.length - n) false)
theorem zo {listed:Array Bool} (inv:HeadInv md ops n listed) (hn:n≤ops.size) (hall:∀ i,i < n→listed.getD i false = true):listed = dr n true ++ dr (ops.size - n) false:=by
 apply Array.ext
 · simp [inv.size];omega
 · intro i h1 h2;rcases aw i n with h | h
   · have:=hall i h;simp [h1] at this;simp [iA,h,this]
   · have h3:=inv.tail i h (by rw [← inv.size];exact h1);simp [h1] at h3;simp [iA,Nat.not_lt.2 h,h3]
end
def Cls (w w':World):Prop:=∃ p:Regrown,w' = grow (redrawn w p.d) p.os
theorem Cls.of_below (h:Below w.heap.size w w'):Cls w w':=regrown_of_below h
theorem MZ {P:Program} {id:Nat} {l:List Oper} (n m:Nat) (D:List (Nat × List Nat)) (E:Nat→Value→World→Prop) (hE:∀ d v w w',Below w.heap.size w w'→E d v w→E d v w') (hm:P.follows .mixedOrders = true) (hsz:a.tmps.size = m) (hB:afU l D n m = true) (h:OZ P l.toArray (Cls w) E D (fun a'=>∀ w',Below w.heap.size w w'→(∀ x∈D,E x.1 (a'.eval (.tmp x.1)) w')→wpList P l.toArray Q (l.drop n) a' w') (l.take n) a):(gx id l.toArray true).wp P Q a w:=by
 unfold afU at hB;simp only [bL,decide_eq_true_eq,Bool.or_eq_true] at hB;obtain ⟨⟨⟨⟨⟨⟨⟨⟨b1,b2⟩,b3⟩,b4⟩,b5⟩,b6⟩,b7⟩,b8⟩,b9⟩:=hB;have hsel:∀ (o:Oper),o∈l.toArray→∀ cs b,o.op≠.select cs b:=fun o ho cs b=>by
  obtain ⟨j,hj⟩:=Array.mem_iff_getElem?.1 ho;exact ib b1 j o cs b hj
 have hin:∀ o∈l.take n,o∈l.toArray:=fun o ho=>by simpa using fS ho
 have hsz':∀ o∈l.take n,∀ d,o.dst = some d→d < a.tmps.size:=fun o ho d hd=>by
  have:=cG.1 b8 o ho;rw [hd] at this;rw [hsz];simpa using this
 obtain ⟨F,hF⟩:=JL hsel (l.take n) a hin b6 hsz' h;have hidx:∀ i o,i < n→l.toArray[i]? = some o→o∈l.take n:=fun i o hi ho=>by
  have:(l.take n)[i]? = some o:=by rw [a6,if_pos hi];simpa using ho
  exact fT this
 have hmem:∀ o∈l.take n,∃ i,i < n∧l.toArray[i]? = some o:=fun o ho=>by
  obtain ⟨i,hi⟩:=List.mem_iff_getElem?.1 ho;rw [a6] at hi
  by_cases hin:i < n
  · rw [if_pos hin] at hi;exact ⟨i,hin,by simpa using hi⟩
  · rw [if_neg hin] at hi;cases hi
 have hD:=fun x hx=>by
  have:=cG.1 b5 x hx;simp only [bL] at this;exact this
 refine wp_region_any hm ?_;have inv0:aeY P .any l.toArray (Cls w) E D n a F (dr l.toArray.size false) a { w with drawn:=w.drawn + 1 } :=
  ⟨⟨by simp,fun j oj _ hl=>(by rw [getD_replicate_false] at hl;cases hl),fun t _ ht=>getD_in (by simpa using ht) (getD_replicate_false _ _)⟩,
   ⟨⟨w.drawn + 1,#[]⟩,by rw [grow_empty];rfl⟩,rfl,rfl,fun _ _ i o d _ _ hl=>(by rw [getD_replicate_false] at hl;cases hl),fun t _=>rfl,fun i o d ds _ _ hl=>(by rw [getD_replicate_false] at hl;cases hl)⟩
 have hcnt:cnt n (dr l.toArray.size false) = n:=by
  unfold cnt;rw [List.countP_eq_length.2 (fun i _=>by rw [getD_replicate_false];rfl),List.length_range]
 have:=aaE (Q':=Q) (g:=l.length - n) (md:=.any) (E:=E) (D:=D) (F:=F) (a0:=a) hsel
  (by
   rcases b3 with b3 | b3
   · exact .inl (by simpa using b3)
   · by_cases he:n = l.length
     · exact .inl (by simpa using he)
     · exact .inr ⟨b3.1,b3.2,by simp;omega⟩) b4
  (fun d ds hd x hx=>Bo (cG.1 (hD (d,ds) hd).2 x hx)) hE (fun w1 w2 h1 h2=>by
   have h3:Below w.heap.size w w1:=Wider.below h1;exact Cls.of_below (h3.trans (h2.mono h3.size)))
  (fun i j oi oj d hi hj hoi hoj hdi hdj=>by
   have h1:=cG.1 (cG.1 b7 i (de.2 hi)) j (de.2 hj);have ei:l[i]? = some oi:=by simpa using hoi
   have ej:l[j]? = some oj:=by simpa using hoj
   rw [ei,ej] at h1;simp [hdi,hdj] at h1;exact h1)
  (fun i o d hi ho hd=>hsz' o (hidx i o hi ho) d hd)
  (fun c=>by
   obtain ⟨-,f2,f3,f4,f5⟩:=hF c;exact ⟨f2,f3,fun t ht=>f4 t fun o ho=>by obtain ⟨i,hi,hio⟩:=hmem o ho;exact ht i o hi hio,fun i o hi ho=>f5 o (hidx i o hi ho)⟩)
  (fun listed c w1 hinv hall hC hfacts=>by
   have hl:=zo hinv (by simpa using b2) hall;have h1:=(hF c).1 w1 (Wider.below hC) fun x hx=>by
    obtain ⟨i,o,es,hi,ho,hox⟩:=Bo (hD x hx).1;exact hfacts i o x.1 es hi ho hox
   have:=wpAny_of_seq (md:=.any) (Q':=Q) (ops:=l.toArray) (l.drop n) n listed (F c) w1 (fun j=>by simp [dp]) (by rw [dj,hl];simpa using b9) h1;rwa [dj] at this)
  n _ a _ hcnt inv0
 rw [show n + (l.length - n) = l.length by omega] at this;simpa using this
def us (l:List Nat):List Value:=l.map fun (x:Nat)=>d8 .u32 (x:Int)
def dY (l:List Nat):Prop:=∀ x∈l,x < 4294967296
theorem rZ (l:List Nat):(us l).length = l.length:=by simp [us]
theorem fG (l:List Nat) (k:Nat) (h:k < l.length):(us l)[k]? = some (.int .u32 ((l.getD k 0:Nat):Int)):=by
 simp [us,ao,ar h]
theorem QI (a b:List Nat):us (a ++ b) = us a ++ us b:=by simp [us]
theorem aeu (l:List Nat) (k x:Nat):us (l.set k x) = (us l).set k (.int .u32 (x:Int)):=by unfold us;rw [ks]
theorem JQ (l:List Nat) (k:Nat):us (l.take k) = (us l).take k:=by unfold us;rw [List.map_take]
variable {l:List Nat}
theorem Rd.pM (h:Rd w 1 A n (us l)):l.length = n:=by have:=h.1;rw [rZ] at this;omega
theorem Rd.fG {w:World} {A:Option Addr} {n:Nat} {l:List Nat} (h:Rd w 1 A n (us l)) {k:Nat} (hk:k < n) :
 ∃ ad,A = some ad∧k < l.length∧w.cell? (ad.add k) = some (.int .u32 ((l.getD k 0:Nat):Int)):=by
 obtain ⟨ad,e,hc⟩:=h.2 (by omega);have hl:=h.pM;exact ⟨ad,e,by omega,hc _ _ (Go.Proofs.YtjdakpfhjlhcbaaGreat.fG l k (by omega))⟩
theorem dY.at (h:dY l) (k:Nat):l.getD k 0 < 4294967296:=by
 rcases aw k l.length with h1 | h1
 · rw [ao,ar h1];exact h _ (List.getElem_mem h1)
 · rw [ao,a8 h1];simp
theorem dY.take (h:dY l) (k:Nat):dY (l.take k):=fun x hx=>h x (fS hx)
theorem dY.drop (h:dY l) (k:Nat):dY (l.drop k):=fun x hx=>h x (List.mem_of_mem_drop hx)
theorem dY.set (h:dY l) (k:Nat) {x:Nat} (hx:x < 4294967296):dY (l.set k x):=fun y hy=>by
 rcases List.mem_or_eq_of_mem_set hy with hy | rfl
 · exact h y hy
 · exact hx
theorem dY.nil:dY []:=fun x h=>nomatch h
theorem dY.zero (n:Nat):dY (aR n 0):=fun x hx=>by rw [(List.mem_replicate.1 hx).2];omega
def nv:List Nat→Nat
 | []=>0
 | x :: l=>x + 4294967296 * nv l
theorem QJ (a b:List Nat):nv (a ++ b) = nv a + 4294967296 ^ a.length * nv b:=by
 induction a with
 | nil=>simp [nv]
 | cons x a ih =>
  rw [fj,nv,nv,ih,cF,cj,aM,bp (4294967296 ^ a.length) 4294967296,bc,fh]
theorem mi (h:dY l):nv l < 4294967296 ^ l.length:=by
 induction l with
 | nil=>simp [nv]
 | cons x l ih =>
  have hx:=h x (bq ..);have hi:=ih (fun y hy=>h y (bB _ hy));rw [nv,cF,cj];have:(nv l + 1) * 4294967296≤4294967296 ^ l.length * 4294967296:=f8 _ hi;omega
theorem gG (l:List Nat) (k:Nat) (hk:k≤l.length):nv l = nv (l.take k) + 4294967296 ^ k * nv (l.drop k):=by
 have:=QJ (l.take k) (l.drop k);rw [iu,cw,bX hk] at this;exact this
theorem zZ (h:∀ j,l.getD j 0 = 0):nv l = 0:=by
 induction l with
 | nil=>rfl
 | cons x l ih =>
  have h0:=h 0;have hi:=ih (fun j=>by have:=h (j + 1);simpa using this);simp only [db] at h0;rw [nv,hi,h0]
theorem jo (n:Nat):nv (aR n 0) = 0:=zZ fun j=>by
 rw [ao,dk];split <;> rfl
def dO:List Nat→Nat
 | []=>0
 | x :: l=>if dO l = 0 then (if x = 0 then 0 else 1) else dO l + 1
theorem iC:∀ l:List Nat,dO l≤l.length
 | []=>aq _
 | x :: l=>by
  have:=iC l;unfold dO;rw [cF]
  split
  · split <;> omega
  · omega
theorem zV:∀ {l:List Nat},0 < dO l→l.getD (dO l - 1) 0≠0
 | x :: l,h=>by
  unfold dO at h ⊢
  split at h
  · split at h
    · omega
    · rename_i h1 h2;rw [if_pos h1,if_neg h2];simpa using h2
  · rename_i h1;rw [if_neg h1];have:=zV (l:=l) (by omega);rw [show dO l + 1 - 1 = (dO l - 1) + 1 by omega,eL];exact this
theorem sJ:∀ {l:List Nat} {j:Nat},dO l≤j→l.getD j 0 = 0
 | [],j,_=>by simp
 | x :: l,j,h=>by
  unfold dO at h
  split at h
  ·
   rename_i h1
   split at h
   · rename_i h2;cases j with
     | zero=>simpa using h2
     | succ j=>rw [eL];exact sJ (by omega)
   · cases j with
     | zero=>omega
     | succ j=>rw [eL];exact sJ (by omega)
  · cases j with
    | zero=>omega
    | succ j=>rw [eL];exact sJ (by omega)
theorem Ap (h1:∀ j,k≤j→l.getD j 0 = 0) (h2:0 < k→l.getD (k - 1) 0≠0):dO l = k:=by
 rcases jz (dO l) k with h | h | h
 · exact absurd (sJ (l:=l) (j:=k - 1) (by omega)) (h2 (by omega))
 · exact h
 · exact absurd (h1 (dO l - 1) (by omega)) (zV (by omega))
def fB (l:List Nat):List Nat:=l.take (dO l)
theorem ni (l:List Nat):(fB l).length = dO l:=by unfold fB;rw [cw,bX (iC l)]
theorem yZ (l:List Nat) (k j:Nat):(l.take k).getD j 0 = if j < k then l.getD j 0 else 0:=by
 rw [ao,a6,ao]
 split <;> rfl
theorem jX (l:List Nat) (k j:Nat):(l.drop k).getD j 0 = l.getD (k + j) 0:=by
 rw [ao,dp,ao]
theorem dP (l:List Nat):nv (fB l) = nv l:=by
 rw [gG l (dO l) (iC l),zZ (l:=l.drop (dO l)) (fun j=>by rw [jX];exact sJ (by omega))];unfold fB;omega
def jF (l:List Nat):Prop:=dO l = l.length
theorem dK (l:List Nat):jF (fB l):=by
 unfold jF;rw [ni];refine Ap (fun j hj=>?_) (fun h=>?_)
 · unfold fB;rw [yZ,if_neg (by omega)]
 · unfold fB;rw [yZ,if_pos (by omega)];exact zV h
theorem jF.eq (h:jF l):fB l = l:=by unfold fB;rw [h];simp
theorem jF.top (h:jF l) (h0:0 < l.length):l.getD (l.length - 1) 0≠0:=by rw [← h];exact zV (by rw [h];exact h0)
theorem jF.nil:jF []:=rfl
theorem jw (h:dY l):dY (fB l):=h.take _
theorem jF.low (h:jF l) (h0:0 < l.length):4294967296 ^ (l.length - 1)≤nv l:=by
 have h1:=h.top h0;rw [gG l (l.length - 1) (by omega)];have h2:nv (l.drop (l.length - 1)) = l.getD (l.length - 1) 0:=by
  have h3:l.drop (l.length - 1) = [l.getD (l.length - 1) 0]:=by
   rw [bw (by omega),ie (by omega),ao,ar (by omega)];rfl
  rw [h3];simp [nv]
 rw [h2];have:4294967296 ^ (l.length - 1) * 1≤4294967296 ^ (l.length - 1) * l.getD (l.length - 1) 0:=bm _ (by omega);omega
theorem jF.pos (h:jF l) (h0:0 < l.length):0 < nv l:=ff (ck (by omega)) (h.low h0)
theorem jF.zero (h:jF l) (h0:nv l = 0):l = []:=by
 rcases cP l.length with h1 | h1
 · exact eE h1
 · have:=h.pos h1;omega
def sK:List Nat→List Nat→Int
 | x :: a,y :: b=>if sK a b≠0 then sK a b else if x < y then -1 else if y < x then 1 else 0
 | _,_=>0
def iO (a b:List Nat):Int:=if a.length = b.length then sK a b else if a.length < b.length then -1 else 1
theorem zU:∀ {a b:List Nat},a.length = b.length→(∀ j,a.getD j 0 = b.getD j 0)→sK a b = 0
 | [],[],_,_=>rfl
 | x :: a,y :: b,hl,h=>by
  have h0:=h 0;have hi:=zU (a:=a) (b:=b) (by simpa using hl) (fun j=>by have:=h (j + 1);simpa using this);simp only [db] at h0;unfold sK;rw [hi,if_neg (by simp),if_neg (by omega),if_neg (by omega)]
theorem Jy:∀ {a b:List Nat} {i:Nat} {r:Int},a.length = b.length→i < a.length→(∀ j,i < j→a.getD j 0 = b.getD j 0)→(a.getD i 0 < b.getD i 0∧r = -1∨b.getD i 0 < a.getD i 0∧r = 1)→sK a b = r
 | x :: a,y :: b,0,r,hl,_,h,hr=>by
  have hi:=zU (a:=a) (b:=b) (by simpa using hl) (fun j=>by have:=h (j + 1) (by omega);simpa using this);simp only [db] at hr;unfold sK;rw [hi,if_neg (by simp)];rcases hr with ⟨h1,rfl⟩ | ⟨h1,rfl⟩
  · rw [if_pos h1]
  · rw [if_neg (by omega),if_pos h1]
 | x :: a,y :: b,i + 1,r,hl,hi,h,hr=>by
  have ih:=Jy (a:=a) (b:=b) (i:=i) (r:=r) (by simpa using hl) (by simpa using hi) (fun j hj=>by have:=h (j + 1) (by omega);simpa using this) (by simpa using hr);have hr0:r≠0:=by rcases hr with ⟨-,rfl⟩ | ⟨-,rfl⟩ <;> simp
  unfold sK;rw [ih,if_pos hr0]
theorem EE:∀ {a b:List Nat},a.length = b.length→dY a→dY b→(sK a b = -1∧nv a < nv b)∨(sK a b = 0∧a = b)∨(sK a b = 1∧nv b < nv a)
 | [],[],_,_,_=>.inr (.inl ⟨rfl,rfl⟩)
 | x :: a,y :: b,hl,ha,hb=>by
  have hx:=ha x (bq ..);have hy:=hb y (bq ..);have ih:=EE (a:=a) (b:=b) (by simpa using hl) (fun z hz=>ha z (bB _ hz)) (fun z hz=>hb z (bB _ hz));unfold sK;rw [nv,nv];rcases ih with ⟨h1,h2⟩ | ⟨h1,rfl⟩ | ⟨h1,h2⟩
  · rw [h1,if_pos (by simp)];exact .inl ⟨rfl,by omega⟩
  · rw [h1,if_neg (by simp)];rcases jz x y with h | rfl | h
    · rw [if_pos h];exact .inl ⟨rfl,by omega⟩
    · rw [if_neg (by omega),if_neg (by omega)];exact .inr (.inl ⟨rfl,rfl⟩)
    · rw [if_neg (by omega),if_pos h];exact .inr (.inr ⟨rfl,by omega⟩)
  · rw [h1,if_pos (by simp)];exact .inr (.inr ⟨rfl,by omega⟩)
theorem nY {a b:List Nat} (ha:dY a) (hb:jF b) (h:a.length < b.length):nv a < nv b:=by
 have h1:=mi ha;have h2:=hb.low (by omega);have h3:4294967296 ^ a.length≤4294967296 ^ (b.length - 1):=bR (by omega) (by omega);omega
theorem nG {a b:List Nat} (ha:dY a) (hb:dY b) (ta:jF a) (tb:jF b):iO a b < 0↔nv a < nv b:=by
 unfold iO
 split
 · rename_i hl;rcases EE hl ha hb with ⟨h1,h2⟩ | ⟨h1,rfl⟩ | ⟨h1,h2⟩
   · rw [h1];simp;exact h2
   · rw [h1];simp
   · rw [h1];simp;omega
 · rename_i hl
   split
   · rename_i h;have:=nY ha tb h;simp;exact this
   · have:=nY hb ta (by omega);simp;omega
theorem Vt (a b:List Nat):iO a b = -1∨iO a b = 0∨iO a b = 1:=by
 have hE:∀ a b:List Nat,sK a b = -1∨sK a b = 0∨sK a b = 1:=by
  intro a
  induction a with
  | nil=>intro b;unfold sK;exact .inr (.inl rfl)
  | cons x a ih =>
   intro b;cases b with
   | nil=>unfold sK;exact .inr (.inl rfl)
   | cons y b =>
    unfold sK
    split
    · exact ih b
    · split
      · exact .inl rfl
      · split
        · exact .inr (.inr rfl)
        · exact .inr (.inl rfl)
 unfold iO
 split
 · exact hE a b
 · split
   · exact .inl rfl
   · exact .inr (.inr rfl)
theorem ZC (w:World) (cs:Array Value) (t:TypeId) (j:Nat):(w.alloc (.cells cs t)).cell? ⟨w.heap.size,j,none⟩ = cs[j]?:=by simp
theorem add0 (b j:Nat):(⟨b,0,none⟩:Addr).add j = ⟨b,j,none⟩:=by unfold gL;split <;> simp_all
theorem Ht (w:World) (size n:Nat) (xs:List Value) (t:TypeId) (h:xs.length = n * size):Rd (w.alloc (.cells xs.toArray t)) size (some ⟨w.heap.size,0,none⟩) n xs :=
 ⟨h,fun _=>⟨_,rfl,fun j u hu=>by rw [add0,ZC];simpa using hu⟩⟩
def blk (A:Option Addr):Option Nat:=A.map (·.block)
theorem nJ (A:Option Addr) (n c:Nat):(ko A n c).ownBlock = blk A:=by cases A <;> rfl
def Own (w:World) (base:Nat) (e:TypeId) (size:Nat) (A:Option Addr) (n c:Nat) (xs:List Value):Prop:=w.ownsRow base e size (.slice A n c) n xs
section
variable {base size c:Nat} {e:TypeId} {xs:List Value}
theorem Own.nil (w:World) (base:Nat) (e:TypeId) (size:Nat):Own w base e size none 0 0 []:=World.ownsRow_nil w base e size
theorem Own.rd (h:Own w base e size A n c xs):Rd w size A n xs:=by
 refine ⟨h.1,fun hn=>?_⟩;rcases h.2 with ⟨h1,h2⟩ | ⟨g,cap,cur,hv,_⟩
 · omega
 · injection hv with hA
   subst hA;exact ⟨_,rfl,kI h (g:=g) rfl⟩
theorem Own.len (h:Own w base e size A n c xs):xs.length = n * size:=h.1
theorem Own.keptBy {row:Option Nat} (h:Own w base e size A n c xs) (hg:w.grownBy w' row) (hne:blk A = none∨blk A≠row):Own w' base e size A n c xs :=
 kA h hg (by rw [nJ];exact hne)
theorem Own.alloc (h:Own w base e size A n c xs) (o:Obj):Own (w.alloc o) base e size A n c xs:=kO h o
theorem Own.lt (h:Own w base e size A n c xs) {k:Nat} (hk:blk A = some k):base≤k∧k < w.heap.size:=ky h k (by rw [nJ];exact hk)
theorem Own.below {B:Nat} (h:Own w base e size A n c xs) (hb:Below B w w') (hB:∀ k,blk A = some k→k < B):Own w' base e size A n c xs:=by
 refine ⟨h.1,?_⟩;rcases h.2 with h2 | ⟨g,cap,cur,hv,hg,hh,rest⟩
 · exact .inl h2
 · have hA:A = some ⟨g,0,none⟩:=by injection hv
   exact .inr ⟨g,cap,cur,hv,hg,by rw [hb.block g (hB g (by rw [hA];rfl))];exact hh,rest⟩
theorem Own.later (h:Own w base e size A n c xs) (hb:Below w.heap.size w w'):Own w' base e size A n c xs:=h.below hb fun k hk=>(h.lt hk).2
theorem Own.ru {base':Nat} (h:Own w base e size A n c xs) (hb:base'≤base):Own w base' e size A n c xs:=by
 refine ⟨h.1,?_⟩;rcases h.2 with h2 | ⟨g,cap,cur,hv,hg,rest⟩
 · exact .inl h2
 · exact .inr ⟨g,cap,cur,hv,by omega,rest⟩
theorem Own.Xb (h:w.ownsRow base e size v n xs):∃ A c,v = .slice A n c∧Own w base e size A n c xs:=by
 rcases h.2 with ⟨rfl,rfl⟩ | ⟨g,cap,cur,rfl,_⟩
 · exact ⟨none,0,rfl,h⟩
 · exact ⟨_,cap,rfl,h⟩
end
section
variable {P:Program} (w:World)
theorem NG (base:Nat) (t ty e:TypeId) (i:TypeInfo) (size:Nat) (ht:P.underlying t = some (.slice e)) (hi:P.info? e = some i) (A:Option Addr) (n c:Nat) (xs:List Value) (hown:Own w base e size A n c xs) (d:Nat):(fk #[t,t] ty #[.slice A n c,.slice none 0 d]).run P w = .ok (.slice A n c) w:=by
 rcases hown.2 with ⟨h1,rfl⟩ | ⟨g,cap,cur,h1,_,_,hnc,_⟩
 · injection h1 with h1 _ h3
   subst h1 h3;simp [fk,run_underlying ht,sizeOf,typeInfo,hi,j0,iz]
 · injection h1 with h1 _ h3
   subst h1 h3;simp [fk,run_underlying ht,sizeOf,typeInfo,hi,j0,iz,hnc,storeCells]
theorem abK (base:Nat) (t ty e:TypeId) (z:Value) (size bytes:Nat) (ht:P.underlying t = some (.slice e)) (hinfo:(P.info? e).map (fun i=>(i.zero,i.size,i.bytes)) = some (some z,size,bytes)) (hzs:z.cells.size = size) (hsz:0 < size) (A:Option Addr) (n c:Nat) (xs:List Value) (hown:Own w base e size A n c xs) (B:Option Addr) (m d:Nat) (news:List Value) (hr:Rd w size B m news) (h1:∀ u∈news,u.oneCell' = true) (hbytes:(n + m) * bytes≤140737488355328) (h63:n + m≤maxLen) (hbase:base≤w.heap.size) :
 ∃ A' c' w',(fk #[t,t] ty #[.slice A n c,.slice B m d]).run P w = .ok (.slice A' (n + m) c') w'∧Own w' base e size A' (n + m) c' (xs ++ news)∧w.grownBy w' (blk A)∧(blk A' = blk A∨blk A' = some w.heap.size):=by
 obtain ⟨i,hi,hzz⟩:=Option.map_eq_some_iff.1 hinfo;simp only [Prod.mk.injEq] at hzz;obtain ⟨hz,hs,hb⟩:=hzz;cases B with
 | none =>
  have hm:m = 0:=by
   rcases cP m with h | h
   · exact h
   · obtain ⟨ad,h',_⟩:=hr.2 h;cases h'
  subst hm;have hn:news = []:=eE (by simpa using hr.1);subst hn;exact ⟨A,c,w,NG w base t ty e i size ht hi A n c xs hown d,by simpa using hown,k8 w _,.inl rfl⟩
 | some ad =>
  have hcells:∀ j u,news[j]? = some u→w.cell? (ad.add j) = some u:=by
   intro j u hu;rcases cP m with h | h
   · subst h;have hn:news = []:=eE (by simpa using hr.1);subst hn;simp at hu
   · obtain ⟨ad',h',hc⟩:=hr.2 h;injection h' with h'
     subst h';exact hc j u hu
  obtain ⟨v',w',hrun,h2,h3,_,h5⟩:=run_append_own_at (P:=P) w base t ty e i z size bytes ht hi hz hs hb hzs hsz (.slice A n c) n xs hown ad m d news hr.1 hcells h1 h63 hbytes hbase;obtain ⟨A',c',rfl,ho⟩:=Own.Xb h2;rw [nJ] at h3 h5;rw [nJ] at h5;exact ⟨A',c',w',hrun,ho,h3,h5⟩
theorem ae0 {K:Act→World→Prop} (s x:Operand) (t:TypeId) (ho:o.op = .call { callee:=.builtin .append,args:=#[s,x],argTypes:=#[t,t] }) (base:Nat) (e:TypeId) (z:Value) (size bytes:Nat) (ht:P.underlying t = some (.slice e)) (hinfo:(P.info? e).map (fun i=>(i.zero,i.size,i.bytes)) = some (some z,size,bytes)) (hzs:z.cells.size = size) (hsz:0 < size) (A:Option Addr) (n c:Nat) (xs:List Value) (hs:a.eval s = .slice A n c) (hown:Own w base e size A n c xs) (B:Option Addr) (m d:Nat) (news:List Value) (hx:a.eval x = .slice B m d) (hr:Rd w size B m news) (h1:∀ u∈news,u.oneCell' = true) (hbytes:(n + m) * bytes≤140737488355328) (h63:n + m≤maxLen) (hbase:base≤w.heap.size) (h:∀ A' c' w',Own w' base e size A' (n + m) c' (xs ++ news)→w.grownBy w' (blk A)→(blk A' = blk A∨blk A' = some w.heap.size)→K (a.put o.dst (.slice A' (n + m) c')) w'):o.wp P a w K Q:=by
 obtain ⟨A',c',w',hrun,h2,h3,h4⟩:=abK (P:=P) w base t o.type e z size bytes ht hinfo hzs hsz A n c xs hown B m d news hr h1 hbytes h63 hbase;unfold fI execOp;simp only [ho,resolve,invoke,builtin,bs,cg,bj,List.map_toArray,kj,List.map_nil,hs,hx,hrun];exact h A' c' w' h2 h3 h4
theorem ui {ops:Array Oper} {rest:List Oper} (hgd:o.guard = none) (s x:Operand) (t:TypeId) (ho:o.op = .call { callee:=.builtin .append,args:=#[s,x],argTypes:=#[t,t] }) (base:Nat) (e:TypeId) (z:Value) (size bytes:Nat) (ht:P.underlying t = some (.slice e)) (hinfo:(P.info? e).map (fun i=>(i.zero,i.size,i.bytes)) = some (some z,size,bytes)) (hzs:z.cells.size = size) (hsz:0 < size) (A:Option Addr) (n c:Nat) (xs:List Value) (hs:a.eval s = .slice A n c) (hown:Own w base e size A n c xs) (B:Option Addr) (m d:Nat) (news:List Value) (hx:a.eval x = .slice B m d) (hr:Rd w size B m news) (h1:∀ u∈news,u.oneCell' = true) (hbytes:(n + m) * bytes≤140737488355328) (h63:n + m≤maxLen) (hbase:base≤w.heap.size) (h:∀ A' c' w',Own w' base e size A' (n + m) c' (xs ++ news)→w.grownBy w' (blk A)→(blk A' = blk A∨blk A' = some w.heap.size)→wpList P ops Q rest (a.put o.dst (.slice A' (n + m) c')) w'):wpList P ops Q (o :: rest) a w :=
 wpList_plain hgd fun _ hK=>ae0 w s x t ho base e z size bytes ht hinfo hzs hsz A n c xs hs hown B m d news hx hr h1 hbytes h63 hbase fun A' c' w' h2 h3 h4=>hK _ _ (h A' c' w' h2 h3 h4)
end
theorem VN (w:World) (e:TypeId) (size:Nat):Own (w.alloc (.cells #[] e)) w.heap.size e size (some ⟨w.heap.size,0,none⟩) 0 0 [] :=
 World.ownsRow_made w #[] 0 (aq _) (by simp [maxLen]) (by simp)
variable {base:Nat} {e:TypeId} {xs:List Value}
theorem Own.some_ {size c:Nat} (h:Own w base e size A n c xs) (hn:0 < n):∃ g,A = some ⟨g,0,none⟩∧base≤g∧g < w.heap.size:=by
 rcases h.2 with ⟨_,h2⟩ | ⟨g,cap,cur,hv,hg,hh,_⟩
 · omega
 · have hA:A = some ⟨g,0,none⟩:=by injection hv
   exact ⟨g,hA,(h.lt (by rw [hA];rfl)).1,(h.lt (by rw [hA];rfl)).2⟩
theorem Own.cell {g c:Nat} {l:List Int} (h:Own w base e 1 (some ⟨g,0,none⟩) n c (ints l)) {j:Nat} (hj:j < n):w.cell? ⟨g,j,none⟩ = some (.int .i64 (l.getD j 0)):=by
 have hl:=h.len;rw [Ld] at hl;rw [gC h j (by omega),ints_at l j (by omega)]
theorem Own.frozen {g c:Nat} {size:Nat} (h:Own w base e size (some ⟨g,0,none⟩) n c xs) (j:Nat):w.frozen? ⟨g,j,none⟩ = false:=kB h j
theorem Own.store {g c:Nat} {l:List Int} (h:Own w base e 1 (some ⟨g,0,none⟩) n c (ints l)) (j:Nat) (x:Int):Own (w.setCell ⟨g,j,none⟩ (.int .i64 x)) base e 1 (some ⟨g,0,none⟩) n c (ints (l.set j x)):=by
 have:=(gA h j (.int .i64 x)).1;have e1:ints (l.set j x) = (ints l).set j (.int .i64 x):=by unfold ints;rw [ks]
 unfold Own;rw [e1];exact this
theorem Own.cap {w:World} {base size n c:Nat} {e:TypeId} {A:Option Addr} {xs:List Value} (h:Own w base e size A n c xs):n≤c:=by
 rcases h.2 with ⟨hv,h2⟩ | ⟨g,cap,cur,hv,_,_,hc,_⟩
 · omega
 · injection hv with _ _ h3
   omega
def Apart (A B:Option Addr):Prop:=blk A = none∨blk A≠blk B
theorem Apart.symm {A B:Option Addr} (h:Apart A B):Apart B A:=by
 rcases h with h | h
 · cases hb:blk B with
   | none=>exact .inl hb
   | some k=>exact .inr (by rw [hb,h];simp)
 · exact .inr (fun e=>h e.symm)
theorem Apart.step {B A':Option Addr} {S:Nat} (h:Apart A B) (h2:blk A' = blk A∨blk A' = some S) (hB:∀ k,blk B = some k→k < S):Apart A' B:=by
 rcases h2 with e | e
 · unfold Apart at *;rw [e];exact h
 · refine .inr (fun h'=>?_);rw [e] at h';have:=hB S h'.symm;omega
theorem Own.apart {size c:Nat} {B:Option Addr} (h:Own w base e size A n c xs) (hg:w.grownBy w' (blk B)) (ha:Apart A B):Own w' base e size A n c xs:=h.keptBy hg ha

section
variable {c:Nat} {hs:List (Option Addr × Nat)} {ls:List (List Int)}
theorem Own.setOther' {size:Nat} (h:Own w base e size A n c xs) {p:Addr} (hp:p.block < base) (u:Value):Own (w.setCell p u) base e size A n c xs:=by
 refine ⟨h.1,?_⟩;rcases h.2 with h2 | ⟨g,cap,cur,hv,hg,hh,rest⟩
 · exact .inl h2
 · exact .inr ⟨g,cap,cur,hv,hg,by rw [Below.heap_setCell _ _ _ _ (by omega)];exact hh,rest⟩
theorem Own.kL {size:Nat} (h:Own w base e size A n c xs) {p:Addr} (hp:blk A = none∨blk A≠some p.block) (u:Value):Own (w.setCell p u) base e size A n c xs:=by
 refine ⟨h.1,?_⟩;rcases h.2 with h2 | ⟨g,cap,cur,hv,hg,hh,rest⟩
 · exact .inl h2
 ·
  have hA:A = some ⟨g,0,none⟩:=by injection hv
  refine .inr ⟨g,cap,cur,hv,hg,?_,rest⟩;rw [Below.heap_setCell _ _ _ _ ?_]
  · exact hh
  · rintro rfl;rw [hA] at hp;rcases hp with hp | hp
    · simp [blk] at hp
    · exact hp rfl
end
theorem Du {P:Program} {ops:Array Oper} {K:Act→World→Prop} {E:Prop} (hgd:o.guard = none) (f:FuncId) (xs:Array Operand) (ts:Array TypeId) (ho:o.op = .call { callee:=.value (.func f),args:=xs,argTypes:=ts }) (eg:∀ args w,(callFunc f args).run P w = .ok (.enter f args) w) (args:Array Value) (hargs:xs.map a.eval = args) (v:Value) {R:World→Prop} (h:Calls P f args w fun e w'=>e = .returned v∧R w') (hK:∀ w',R w'→K (a.put o.dst v) w') :
 if aL o (yielded ops a.tmps) = true then fI P o a w K Q else E:=by
 have hw:aL o (yielded ops a.tmps) = true:=by simp [aL,hgd]
 rw [if_pos hw];subst hargs;unfold fI;simp [execOp,ho,resolve,gl,invoke,eg,du];refine h.mono ?_;rintro e w' ⟨rfl,hr⟩;exact hK w' hr
attribute [local go_sem ↓] cH cJ
theorem Y5 (A:Option Addr) (n c:Nat) (l:List Nat) (w:World) (hn:n≤4398046511104) (hc:n≤c) (he:Rd w 1 A n (us l)) :
 Calls aD 209 #[.slice A n c] w fun e w'=>e = .returned (.slice A (dO l) c)∧w = w':=by
 have HL:=aE he.pM;have H1:=aE he;clear he
 go_enter Tryz.func209,Tryz.ntmps209
 go_wp2_with fail
 go_loopg [0] n (fun g o wr=>∃ k:Nat,k≤n∧k = g∧o = .slice A k c∧(∀ j,k≤j→l.getD j 0 = 0)∧w = wr)
 case atStart=>exact ⟨n,aq _,rfl,rfl,(fun j hj=>by rw [ao,a8 (by rw [HL.out];exact hj)];rfl),rfl⟩
 case round =>
  obtain ⟨k,hk,rfl,rfl,hz,rfl⟩:=hrel;have HZ:=aE hz;clear hz
  by_cases hk0:k = 0
  · subst hk0;have T0:Hid (dO l = 0):=aE (Ap HZ.out (fun h=>by omega))
    go_wp2_with fail
    go_ret
    exact ⟨by rw [T0.out];rfl,rfl⟩
  ·
   obtain ⟨ad,rfl,hkl,c0⟩:=H1.out.fG (by omega:k - 1 < n);have hi1:((k:Int) - 1).toNat = k - 1:=by omega
   have hm0:(0:Int)≤(k:Int) - 1:=by omega
   have hm1:(k:Int) - 1 < (k:Int):=by omega
   have hp:(0:Int) < (k:Int):=by omega
   generalize hx:l.getD (k - 1) 0 = x at c0;have HX:=aE hx;clear hx hkl
   by_cases hx0:x = 0
   ·
    subst hx0;have HZ2:Hid (∀ j,k - 1≤j→l.getD j 0 = 0):=aE fun j hj=>by
     rcases aw j k with h | h
     · obtain rfl:j = k - 1:=by omega
       exact HX.out
     · exact HZ.out j h
    go_wp2_with fail
    go_roundg (k - 1)
    case measure=>omega
    case rel=>exact ⟨k - 1,by omega,rfl,by first | rfl | (congr 1;omega),HZ2.out,rfl⟩
   · have T0:Hid (dO l = k):=aE (Ap HZ.out (fun h=>by rw [HX.out];exact hx0));have hx1:((x:Int) = 0) = False:=by simp;exact hx0
     go_wp2_with fail
     go_ret
     exact ⟨by rw [T0.out];rfl,rfl⟩
theorem lh (A B:Option Addr) (n c m d:Nat) (a b:List Nat) (w:World) (hn:n≤4398046511104) (hm:m≤4398046511104) (ha:Rd w 1 A n (us a)) (hb:Rd w 1 B m (us b)) :
 Calls aD 215 #[.slice A n c,.slice B m d] w fun e w'=>e = .returned (.int .i64 (iO a b))∧Below w.heap.size w w':=by
 have LA:=aE ha.pM;have LB:=aE hb.pM;have H1:=aE ha;have H2:=aE hb;clear ha hb
 by_cases hnm:n≠m
 ·
  by_cases hlt:n < m
  ·
   have R:Hid (iO a b = -1):=aE (by unfold iO;rw [LA.out,LB.out,if_neg hnm,if_pos hlt]);have d1:((n:Int) != (m:Int)) = true:=by rw [bne_iff_ne];omega
   have d2:(n:Int) < (m:Int):=by omega
   clear hnm hlt
   go_enter Tryz.func215,Tryz.ntmps215
   go_wp2_with fail
   go_ret
   exact ⟨by rw [R.out];rfl,Below.refl _ _⟩
  ·
   have R:Hid (iO a b = 1):=aE (by unfold iO;rw [LA.out,LB.out,if_neg hnm,if_neg hlt]);have d1:((n:Int) != (m:Int)) = true:=by rw [bne_iff_ne];omega
   have d2:¬ (n:Int) < (m:Int):=by omega
   clear hnm hlt
   go_enter Tryz.func215,Tryz.ntmps215
   go_wp2_with fail
   go_ret
   exact ⟨by rw [R.out];rfl,Below.refl _ _⟩
 obtain rfl:n = m:=by omega
 clear hnm;have EC:Hid (iO a b = sK a b):=aE (by unfold iO;rw [LA.out,LB.out,if_pos rfl]);have EL:Hid (a.length = b.length):=aE (by rw [LA.out,LB.out])
 go_enter Tryz.func215,Tryz.ntmps215
 go_wp2_with fail
 go_loopg [5] n (fun g o wr=>∃ k:Nat,k≤n∧k = g∧o = .int .i64 ((k:Int) - 1)∧(∀ j,k≤j→a.getD j 0 = b.getD j 0)∧Below w.heap.size w wr)
 case atStart=>exact ⟨n,aq _,rfl,rfl,(fun j hj=>by rw [ao,a8 (by rw [LA.out];exact hj),ao,a8 (by rw [LB.out];exact hj)]),Below.refl _ _⟩
 case round =>
  obtain ⟨k,hk,rfl,rfl,hz,hb⟩:=hrel;have HZ:=aE hz;have HB:=aE hb;have hzr:=hb.size;have kr:=bg.of_below hb (aq _);clear hz hb
  by_cases hk0:k = 0
  · subst hk0;have T0:Hid (iO a b = 0):=aE (by rw [EC.out];exact zU EL.out (fun j=>HZ.out j (eI _)))
    go_wp2_with fail
    go_ret
    exact ⟨by rw [T0.out];rfl,HB.out⟩
  ·
   obtain ⟨ad,rfl,hkl,c0⟩:=(H1.out.keep kr).fG (by omega:k - 1 < n);obtain ⟨ae,rfl,hkl',c1⟩:=(H2.out.keep kr).fG (by omega:k - 1 < n);have hi1:((k:Int) - 1).toNat = k - 1:=by omega
   have hm0:(0:Int)≤(k:Int) - 1:=by omega
   have hm1:(k:Int) - 1 < (n:Int):=by omega
   generalize hx:a.getD (k - 1) 0 = x at c0;generalize hy:b.getD (k - 1) 0 = y at c1;have HX:=aE hx;have HY:=aE hy;have AT:Hid (∀ r,x < y∧r = -1∨y < x∧r = 1→iO a b = r):=aE fun r h=>by
    rw [EC.out];exact Jy (i:=k - 1) EL.out (by rw [LA.out];omega) (fun j hj=>HZ.out j (by omega)) (by rw [HX.out,HY.out];exact h)
   clear hx hy hkl hkl' kr;have k0:=bZ c0;have k1:=bZ c1
   by_cases h1:x < y
   ·
    have T0:=aE (AT.out (-1) (.inl ⟨h1,rfl⟩));have d1:(x:Int) < (y:Int):=by omega
    clear AT h1
    go_wp2_with fail
    refine dJ (by kernel_rfl) (by kernel_rfl) ?_
    repeat (go_big_quiet_step (fail))
    refine wpQuiet_nil ?_;intro wq hgq
    go_wp2_with fail
    go_ret
    exact ⟨by rw [T0.out];rfl,HB.out.trans (hgq.mono hzr)⟩
   ·
    have d1:¬ (x:Int) < (y:Int):=by omega
    by_cases h2:y < x
    ·
     have T0:=aE (AT.out 1 (.inr ⟨h2,rfl⟩));have d2:(y:Int) < (x:Int):=by omega
     clear AT h1 h2
     go_wp2_with fail
     refine dJ (by kernel_rfl) (by kernel_rfl) ?_
     repeat (go_big_quiet_step (fail))
     refine wpQuiet_nil ?_;intro wq hgq;have HB2:=aE (HB.out.trans (hgq.mono hzr));have c0':=bg.of_below hgq (aq _) _ _ c0;have c1':=bg.of_below hgq (aq _) _ _ c1;have hz2:=HB2.out.size;clear hgq k0 k1 c0 c1 HB hzr;generalize wq = w1 at *;have k0:=bZ c0';have k1:=bZ c1'
     go_wp2_with fail
     refine dJ (by kernel_rfl) (by kernel_rfl) ?_
     repeat (go_big_quiet_step (fail))
     refine wpQuiet_nil ?_;intro wq hgq
     go_wp2_with fail
     go_ret
     exact ⟨by rw [T0.out];rfl,HB2.out.trans (hgq.mono hz2)⟩
    ·
     have d2:¬ (y:Int) < (x:Int):=by omega
     have NX:Hid (∀ j,k - 1≤j→a.getD j 0 = b.getD j 0):=aE fun j hj=>by
      rcases aw j k with h | h
      · obtain rfl:j = k - 1:=by omega
        rw [HX.out,HY.out];omega
      · exact HZ.out j h
     clear AT h1 h2
     go_wp2_with fail
     refine dJ (by kernel_rfl) (by kernel_rfl) ?_
     repeat (go_big_quiet_step (fail))
     refine wpQuiet_nil ?_;intro wq hgq;have HB2:=aE (HB.out.trans (hgq.mono hzr));have c0':=bg.of_below hgq (aq _) _ _ c0;have c1':=bg.of_below hgq (aq _) _ _ c1;have hz2:=HB2.out.size;clear hgq k0 k1 c0 c1 HB hzr;generalize wq = w1 at *;have k0:=bZ c0';have k1:=bZ c1'
     go_wp2_with fail
     refine dJ (by kernel_rfl) (by kernel_rfl) ?_
     repeat (go_big_quiet_step (fail))
     refine wpQuiet_nil ?_;intro wq hgq
     go_wp2_with fail
     go_roundg (k - 1)
     case measure=>omega
     case rel=>exact ⟨k - 1,by omega,rfl,by congr 1;omega,NX.out,HB2.out.trans (hgq.mono hz2)⟩
theorem or_hi {v x:Nat} (hx:x < 4294967296) (hv:v < 4294967296):bits .or .u64 ((v:Int) * 4294967296) (x:Int) = ((x + 4294967296 * v:Nat):Int):=by
 have h:=u64_or_nat (v * 4294967296) x (by omega) (by omega);have e:v * 4294967296 ||| x = x + 4294967296 * v:=by
  have:=eV (b:=x) (i:=32) (by omega) v;rw [bp v 4294967296,← this];omega
 have h2:((v * 4294967296:Nat):Int) = (v:Int) * 4294967296:=by omega
 rw [e,h2] at h;exact h
theorem short_any (A:Option Addr) (n c:Nat) (l:List Nat) (w:World) (hn:n≤2) (hu:dY l) (he:Rd w 1 A n (us l)) :
 Calls aD 227 #[.slice A n c] w fun e w'=>e = .returned (.int .u64 (nv l:Int))∧w = w':=by
 have HL:=aE he.pM;have H1:=aE he;have HU:=aE hu;clear he hu
 go_enter Tryz.func227,Tryz.ntmps227
 go_wp2_with fail
 go_loopg [3,4] n (fun g s o wr=>∃ k:Nat,k≤n∧k = g∧o = .int .i64 ((k:Int) - 1)∧s = .int .u64 (nv (l.drop k):Int)∧w = wr)
 case atStart=>exact ⟨n,aq _,rfl,rfl,(by rw [eA (by rw [HL.out];exact aq _)];rfl),rfl⟩
 case round =>
  obtain ⟨k,hk,rfl,rfl,rfl,rfl⟩:=hrel
  by_cases hk0:k = 0
  · subst hk0
    go_wp2_with fail
    go_ret
    exact ⟨by rw [ew];rfl,rfl⟩
  ·
   obtain ⟨ad,rfl,hkl,c0⟩:=H1.out.fG (by omega:k - 1 < n);have hi1:((k:Int) - 1).toNat = k - 1:=by omega
   have hm0:(0:Int)≤(k:Int) - 1:=by omega
   have hm1:(k:Int) - 1 < (n:Int):=by omega
   have hv:nv (l.drop k) < 4294967296:=by
    have h1:=mi (HU.out.drop k);have h2:(l.drop k).length≤1:=by rw [dj,HL.out];omega
    have h3:4294967296 ^ (l.drop k).length≤4294967296 ^ 1:=bR (by omega) h2;omega
   have hnx:nv (l.drop (k - 1)) = l.getD (k - 1) 0 + 4294967296 * nv (l.drop k):=by
    rw [bw hkl,nv,ao,ar hkl,show k - 1 + 1 = k by omega];rfl
   have hx:=HU.out.at (k - 1);generalize l.getD (k - 1) 0 = x at *;generalize nv (l.drop k) = v at *;have NX:=aE hnx;clear hnx hkl
   go_wp2_with fail
   go_roundg (k - 1)
   case measure=>omega
   case rel=>exact ⟨k - 1,by omega,rfl,by congr 1;omega,by rw [or_hi hx hv,NX.out],rfl⟩
def dE (W:World) (b:Nat) (cs:Array Value) (t:TypeId):Prop:=W.heap[b]? = some (.cells cs t (0,0))
section
variable {W W':World} {b B:Nat} {cs:Array Value} {t:TypeId}
theorem dE.new (w:World) (cs:Array Value) (t:TypeId):dE (w.alloc (.cells cs t)) w.heap.size cs t:=heap_alloc_new w _
theorem dE.lt (h:dE W b cs t):b < W.heap.size:=by
 rcases aw b W.heap.size with h1 | h1
 · exact h1
 · unfold dE at h;rw [Array.getElem?_eq_none h1] at h;cases h
theorem dE.below (h:dE W b cs t) (hb:Below B W W') (hlt:b < B):dE W' b cs t:=by
 unfold dE at h ⊢;rw [hb.block b hlt];exact h
theorem dE.cell (h:dE W b cs t) (j:Nat):W.cell? ⟨b,j,none⟩ = cs[j]?:=cell_of_row W b j cs t (0,0) h
theorem dE.frozen (h:dE W b cs t) (j:Nat):W.frozen? ⟨b,j,none⟩ = false:=by unfold dE at h;simp [World.frozen?,h]
end
def bf (w:World) (A:Option Addr) (n c:Nat) (l:List Nat):Prop:=Rd w 1 A n (us l)∧n≤c∧dY l
theorem bf.trim {c:Nat} (h:bf w A n c l):bf w A (dO l) c (fB l):=by
 obtain ⟨h1,h2,h3⟩:=h;have hl:=h1.pM;have ht:=iC l;refine ⟨⟨by rw [rZ,ni];omega,fun h0=>?_⟩,by omega,jw h3⟩;obtain ⟨ad,e,hc⟩:=h1.2 (by omega);refine ⟨ad,e,fun j u hu=>hc j u ?_⟩;unfold fB at hu;rw [JQ,a6] at hu
 split at hu
 · exact hu
 · cases hu
theorem bf.keep {w w':World} {A:Option Addr} {n c:Nat} {l:List Nat} (h:bf w A n c l) (k:bg w w'):bf w' A n c l:=⟨h.1.keep k,h.2.1,h.2.2⟩
theorem bf.len {c:Nat} (h:bf w A n c l):l.length = n:=h.1.pM
theorem iQ (A:Option Addr) (n c:Nat) (l:List Nat) (w:World) (hn:n≤4398046511104) (h:bf w A n c l) :
 Calls aD 209 #[.slice A n c] w fun e w'=>e = .returned (.slice A (dO l) c)∧w = w':=Y5 A n c l w hn h.2.1 h.1
variable {W:World} {b:Nat}
theorem Jf {x y u:Value} (c0:W.cell? ⟨b,0,none⟩ = some x) (c1:W.cell? ⟨b,1,none⟩ = some y) :
 ((W.setCell ⟨b,0,none⟩ u).setCell ⟨b,1,none⟩ v).cell? ⟨b,0,none⟩ = some u∧((W.setCell ⟨b,0,none⟩ u).setCell ⟨b,1,none⟩ v).cell? ⟨b,1,none⟩ = some v:=by
 have d0:=gM W ⟨b,0,none⟩ u c0;have d1:(W.setCell ⟨b,0,none⟩ u).cell? ⟨b,1,none⟩ = some y:=(d9 _ _ _ _ (by simp)).trans c1;exact ⟨(d9 _ _ _ _ (by simp)).trans d0,gM _ _ _ d1⟩
def oH (w:World) (x:Nat) (e:Ending) (w':World):Prop :=
 Below w.heap.size w w'∧∃ C n c ds,e = .returned (.slice C n c)∧bf w' C n c ds∧jF ds∧nv ds = x∧n≤2
theorem xQ (x:Nat) (w:World) (hx:x < 18446744073709551616):Calls aD 176 #[.int .u64 (x:Int)] w (oH w x):=by
 have hm:bf (w.alloc (.cells #[.int .u32 ((x % 4294967296:Nat):Int),.int .u32 ((x / 4294967296:Nat):Int)] 76)) (some ⟨w.heap.size,0,none⟩) 2 2 [x % 4294967296,x / 4294967296] :=
  ⟨Ht w 1 2 _ _ rfl,aq _,fun y hy=>by
   rcases gP.1 hy with rfl | hy
   · omega
   · rw [gk.1 hy];omega⟩
 have cT:=iQ _ 2 2 _ _ (by omega) hm;have HM:=aE hm;have HV:Hid (nv [x % 4294967296,x / 4294967296] = x):=aE (by simp [nv];omega);clear hm;have e1:((x % 4294967296:Nat):Int) = (x:Int) % 4294967296:=by omega
 have e2:((x / 4294967296:Nat):Int) = (x:Int) / 4294967296:=by omega
 rw [e1,e2] at cT HM;clear e1 e2
 go_enter Tryz.func176,Tryz.ntmps176
 go_wp2_with fail
 refine av cT ?_;rintro _ _ ⟨rfl,rfl⟩
 go_wp2_with fail
 go_ret
 exact ⟨(Below.refl _ _).alloc (aq _) _,_,_,_,_,rfl,HM.out.trim,dK _,by rw [dP,HV.out],iC _⟩
theorem zx (neg:Bool) (A:Option Addr) (n c:Nat) (l:List Nat) (w:World) (hn:n≤4398046511104) (h:bf w A n c l) :
 Calls aD 175 #[.bool neg,.slice A n c] w fun e w'=>e = .returned (.agg #[.bool (neg && decide (0 < dO l)),.slice A (dO l) c])∧Below w.heap.size w w':=by
 have H0:=aE h;have cT:=iQ A n c l (w.alloc (.cells #[.bool false,.slice none 0 0] 70)) hn (h.keep (bg.alloc _ _));clear h;generalize dO l = k at *
 go_enter Tryz.func175,Tryz.ntmps175
 go_wp2_with fail
 refine av cT ?_;rintro _ _ ⟨rfl,rfl⟩;cases neg
 · go_wp2_with fail
   exact bodyPost_ret (v:=.agg #[.bool false,.slice A k c]) (by simp [results,Tryz.results175,go_sem]) rfl ⟨by simp,(Below.refl _ _).alloc (aq _) _⟩
 ·
  by_cases hk:0 < k
  · have d1:(0:Int) < (k:Int):=by omega
    have d2:decide (0 < k) = true:=decide_eq_true hk
    go_wp2_with fail
    exact bodyPost_ret (v:=.agg #[.bool true,.slice A k c]) (by simp [results,Tryz.results175,go_sem]) rfl ⟨by rw [d2];rfl,(Below.refl _ _).alloc (aq _) _⟩
  · have d1:¬ (0:Int) < (k:Int):=by omega
    have d2:decide (0 < k) = false:=decide_eq_false hk
    go_wp2_with fail
    exact bodyPost_ret (v:=.agg #[.bool false,.slice A k c]) (by simp [results,Tryz.results175,go_sem]) rfl ⟨by rw [d2];rfl,(Below.refl _ _).alloc (aq _) _⟩
theorem Xc (neg:Bool) (A:Option Addr) (n c:Nat) (l:List Nat) (w:World) (hn:n≤4398046511104) (h:bf w A n c l) :
 Calls aD 211 #[.agg #[.bool neg,.slice A n c]] w fun e w'=>e = .returned (.agg #[.bool (neg && decide (0 < dO l)),.slice A (dO l) c])∧Below w.heap.size w w':=by
 have cS:=zx neg A n c l ((w.alloc (.cells #[.bool neg,.slice A n c] 70)).alloc (.cells #[.bool false,.slice none 0 0] 70)) hn ((h.keep (bg.alloc _ _)).keep (bg.alloc _ _));generalize (neg && decide (0 < dO l)) = s at *;generalize dO l = k at *;clear h
 go_enter Tryz.func211,Tryz.ntmps211
 go_wp2_with fail
 refine av cS ?_;rintro _ w2 ⟨rfl,hb⟩;have h0:dE ((w.alloc (.cells #[.bool neg,.slice A n c] 70)).alloc (.cells #[.bool false,.slice none 0 0] 70)) (w.heap.size + 1) #[.bool false,.slice none 0 0] 70:=by
  have:=dE.new (w.alloc (.cells #[.bool neg,.slice A n c] 70)) #[.bool false,.slice none 0 0] 70;simpa using this
 have h2:=h0.below hb (by simp);have HB:Hid (Below w.heap.size w w2):=aE ((((Below.refl _ _).alloc (aq _) _).alloc (by simp) _).trans (hb.mono (by simp;omega)));have c0:w2.cell? ⟨w.heap.size + 1,0,none⟩ = some (.bool false):=by rw [h2.cell];rfl
 have c1:w2.cell? ⟨w.heap.size + 1,1,none⟩ = some (.slice none 0 0):=by rw [h2.cell];rfl
 have f0:=h2.frozen 0;have f1:=h2.frozen 1;clear hb h0 h2 cS;have z:=Jf (u:=.bool s) (v:=.slice A k c) c0 c1
 go_wp2_with fail
 exact bodyPost_ret (v:=.agg #[.bool s,.slice A k c]) (by simp [results,Tryz.results211,go_sem,z.1,z.2]) rfl ⟨rfl,(HB.out.setCell (by simp) _).setCell (by simp) _⟩
section
variable {g c size:Nat} {l:List (Int × Int)}
theorem Own.shrink (h:Own w base e size A n c xs) (hk:k≤n) (hA:A≠none):Own w base e size A k c (xs.take (k * size)):=by
 rcases h.2 with ⟨hv,h2⟩ | ⟨g,cap,cur,hv,hb,hh,hc,hm,hs,ht⟩
 · injection hv with h1 h3 h4
   exact absurd h1 hA
 · injection hv with h1 h3 h4
   subst h1 h4;have hle:k * size≤n * size:=f8 _ hk;refine ⟨by rw [cw,h.1];omega,.inr ⟨g,c,cur,rfl,hb,hh,by omega,hm,hs,?_⟩⟩;rw [← ht,List.take_take,bX hle]
end
attribute [local go_sem ↓] cH cJ
theorem fJ:(aD.info? 76).map (fun i=>(i.zero,i.size,i.bytes)) = some (some (.int .u32 0),1,4):=by kernel_rfl
theorem iw (hb:w.heap.size = b) (n:Nat) (hn:n≤maxLen) (hbase:base≤b):Own (w.alloc (.cells (madeCells #[.int .u32 0] n) 76)) base 76 1 (some ⟨b,0,none⟩) n n (us (aR n 0)):=by
 subst hb;have h:=World.ownsRow_lit (base:=base) (e:=76) (size:=1) w (madeCells #[.int .u32 0] n) n hbase hn (by simp [madeCells]);have e:(madeCells #[.int .u32 0] n).toList = us (aR n 0):=by
  apply jN
  · simp [madeCells,us]
  · intro i h1 h2;simp [madeCells,us,Nat.mod_one]
 rw [e] at h;exact h
theorem Own.eH {g c:Nat} (h:Own w base 76 1 (some ⟨g,0,none⟩) n c (us l)) (j x:Nat) :
 Own (w.setCell ⟨g,j,none⟩ (.int .u32 (x:Int))) base 76 1 (some ⟨g,0,none⟩) n c (us (l.set j x)):=by
 have:=(gA h j (.int .u32 (x:Int))).1;unfold Own;rw [aeu];exact this
theorem Own.jZ {c:Nat} (h:Own w base 76 1 A n c (us l)):l.length = n:=by have:=h.len;rw [rZ] at this;omega
theorem Own.gB {g c:Nat} (h:Own w base 76 1 (some ⟨g,0,none⟩) n c (us l)) {j:Nat} (hj:j < n):w.cell? ⟨g,j,none⟩ = some (.int .u32 ((l.getD j 0:Nat):Int)):=by
 have hl:=h.jZ;have:=gC h j (by omega);rw [this,fG l j (by omega)]
theorem Own.mag {c:Nat} (h:Own w base 76 1 A n c (us l)) (hu:dY l):bf w A n c l:=⟨h.rd,h.cap,hu⟩
theorem Own.Dw {c g:Nat} (h:Own w base 76 1 (some ⟨g,0,none⟩) n c (us l)) (hk:dO l = k):Own w base 76 1 (some ⟨g,0,none⟩) k c (us (fB l)):=by
 have hl:=h.jZ;have:=iC l;have h1:=h.shrink (k:=k) (by omega) (by simp);rw [Nat.mul_one,← JQ] at h1;unfold fB;rw [hk];exact h1
theorem rW {x:Nat} (h:k < l.length):(l.set k x).drop k = x :: l.drop (k + 1):=by
 rw [bw (by simpa using h)];simp [List.drop_set]
theorem MF {a D:Nat} (hn:0 < n):(a + 4294967296 * D) / n = (a + 4294967296 * (D % n)) / n + 4294967296 * (D / n)∧(a + 4294967296 * D) % n = (a + 4294967296 * (D % n)) % n:=by
 have e:a + 4294967296 * D = (a + 4294967296 * (D % n)) + n * (4294967296 * (D / n)):=by
  have:=kd D n
  calc a + 4294967296 * D = a + 4294967296 * (n * (D / n) + D % n):=by rw [this]
   _ = _:=by rw [aM,dx];omega
 rw [e,eK _ _ hn,gS];exact ⟨rfl,rfl⟩
theorem word_lt {a r:Nat} (hn:0 < n) (ha:a < 4294967296) (hr:r < n):(a + 4294967296 * r) / n < 4294967296:=by
 rw [cQ hn];have:4294967296 * (r + 1)≤4294967296 * n:=bm _ hr;omega
def YG (w:World) (N d:Nat) (e:Ending) (w':World):Prop :=
 Below w.heap.size w w'∧∃ C n c q,e = .returned (.tuple #[.slice C n c,.int .u32 ((N % d:Nat):Int)])∧bf w' C n c q∧jF q∧nv q = N / d
theorem aex (A:Option Addr) (n c:Nat) (l:List Nat) (d:Nat) (w:World) (hn:n≤4398046511104) (h:bf w A n c l) (hd0:0 < d) (hd:d < 4294967296) :
 Calls aD 228 #[.slice A n c,.int .u32 (d:Int)] w (YG w (nv l) d):=by
 have HL:=aE h.len;have H1:=aE h.1;have HU:=aE h.2.2;clear h;have hmk:=run_make_row' (P:=aD) 68 76 (.int .u32 0) 4 Tryz.underlying68 fJ rfl .i64 .i64 n (by omega) (by omega);have M0:Hid (Own (w.alloc (.cells (madeCells #[.int .u32 0] n) 76)) w.heap.size 76 1 (some ⟨w.heap.size,0,none⟩) n n (us (aR n 0))):=aE (iw rfl n (by unfold maxLen;omega) (aq _))
 go_enter Tryz.func228,Tryz.ntmps228
 go_wp2_with fail
 go_loopg [7,8] n (fun g r i wr=>∃ (k R:Nat) (q:List Nat),k≤n∧k = g∧i = .int .i64 ((k:Int) - 1)∧r = .int .u64 (R:Int)∧R = nv (l.drop k) % d∧dY q∧q.length = n∧nv (q.drop k) = nv (l.drop k) / d∧Own wr w.heap.size 76 1 (some ⟨w.heap.size,0,none⟩) n n (us q)∧Below w.heap.size w wr)
 case atStart=>exact ⟨n,0,aR n 0,aq _,rfl,rfl,rfl,(by rw [eA (by rw [HL.out];exact aq _)];simp [nv]),dY.zero n,by simp,(by rw [eA (l:=l) (by rw [HL.out];exact aq _),eA (by simp)];simp [nv]),M0.out,(Below.refl _ _).alloc (aq _) _⟩
 case round =>
  clear M0;obtain ⟨k,R,q,hk,rfl,rfl,rfl,hR,hq,hql,hqv,ho,hb⟩:=hrel;have HB:=aE hb;have HO:=aE ho;have HQ:=aE hq;have QL:=aE hql;have QV:=aE hqv;have hzr:=hb.size;have kr:=bg.of_below hb (aq _);have hRd:R < d:=by rw [hR];exact eh _ hd0
  have HR:=aE hR;clear hb ho hq hql hqv hR
  by_cases hk0:k = 0
  · subst hk0;have V:Hid (nv q = nv l / d):=aE (by have:=QV.out;rwa [ew,ew] at this);have RV:Hid (R = nv l % d):=aE (by have:=HR.out;rwa [ew] at this);have cT:=iQ _ n n q wr (by omega) (HO.out.mag HQ.out)
    go_wp2_with fail
    refine av cT ?_;rintro _ _ ⟨rfl,rfl⟩
    go_wp2_with fail
    exact bodyPost_ret (v:=.tuple #[.slice (some ⟨w.heap.size,0,none⟩) (dO q) n,.int .u32 (R:Int)]) (by simp [results,Tryz.results228,go_sem]) rfl ⟨HB.out,_,_,_,fB q,by rw [RV.out],(HO.out.mag HQ.out).trim,dK _,by rw [dP,V.out]⟩
  ·
   obtain ⟨ad,rfl,hkl,c0⟩:=(H1.out.keep kr).fG (by omega:k - 1 < n);have hi1:((k:Int) - 1).toNat = k - 1:=by omega
   have hm0:(0:Int)≤(k:Int) - 1:=by omega
   have hm1:(k:Int) - 1 < (n:Int):=by omega
   have hx:=HU.out.at (k - 1);have NX:Hid (nv (l.drop (k - 1)) = l.getD (k - 1) 0 + 4294967296 * nv (l.drop k)):=aE (by
    rw [bw hkl,nv,ao,ar hkl,show k - 1 + 1 = k by omega];rfl)
   generalize l.getD (k - 1) 0 = x at *;have ho:=or_hi hx (eT hRd hd);have hD:x + 4294967296 * R < 18446744073709551616:=by omega
   have QS:Hid (nv ((q.set (k - 1) ((x + 4294967296 * R) / d)).drop (k - 1)) = nv (l.drop (k - 1)) / d∧(x + 4294967296 * R) % d = nv (l.drop (k - 1)) % d∧(x + 4294967296 * R) / d < 4294967296):=aE (by
    have h1:=MF (a:=x) (D:=nv (l.drop k)) hd0;rw [← HR.out,← NX.out] at h1;refine ⟨?_,h1.2.symm,word_lt hd0 hx hRd⟩;rw [rW (by rw [QL.out];omega),nv,show k - 1 + 1 = k by omega,QV.out,h1.1])
   have cq:=HO.out.gB (j:=k - 1) (by omega);have fq:wr.frozen? ⟨w.heap.size,k - 1,none⟩ = false:=HO.out.frozen (k - 1);have O2:=aE (HO.out.eH (k - 1) ((x + 4294967296 * R) / d));clear hkl kr;generalize hDD:x + 4294967296 * R = D at *;have hqd:D / d < 4294967296:=QS.out.2.2;have hmd:D % d < 4294967296:=eT (eh _ hd0) hd;clear hDD;have eQ:(D:Int) / (d:Int) = ((D / d:Nat):Int):=(eC D d).symm;have eM:(D:Int) % (d:Int) = ((D % d:Nat):Int):=(j7 D d).symm;generalize D / d = Q at *;generalize D % d = M at *;have UQ:Hid (dY (q.set (k - 1) Q)):=aE (HQ.out.set _ hqd)
   go_wp2_with fail
   go_roundg (k - 1)
   case measure=>omega
   case rel=>exact ⟨k - 1,M,q.set (k - 1) Q,by omega,rfl,by congr 1;omega,by rw [eM],QS.out.2.1,UQ.out,by rw [br];exact QL.out,QS.out.1,O2.out,HB.out.setCell (by simp) _⟩
attribute [local go_sem ↓] cH cJ
theorem bC (l:List Nat) (k:Nat):nv (l.take (k + 1)) = nv (l.take k) + 4294967296 ^ k * l.getD k 0:=by
 rcases aw k l.length with h | h
 · rw [List.take_succ_eq_append_getElem h,QJ,cw,bX (by omega),ao,ar h];simp [nv]
 · rw [bk h,bk (by omega),ao,a8 h];simp
theorem zK {j x:Nat} (h:k≤j):(l.set j x).take k = l.take k:=by
 apply ju;intro i;rw [a6,a6]
 split
 · rw [fW (by omega)]
 · rfl
theorem iE {x:Nat} (h:k < l.length):(l.set k x).getD k 0 = x:=by
 rw [ao,ic h];rfl
theorem jP {x:Nat} (h:k < l.length):nv ((l.set k x).take (k + 1)) = nv (l.take k) + 4294967296 ^ k * x:=by
 rw [bC,zK (aq _),iE h]
theorem Gt {va vb vo P a x o b':Nat} (hI:va + b * P = vb + vo) (hs:a + 4294967296 * b' = o + x + b) :
 va + P * a + b' * (P * 4294967296) = (vb + P * x) + (vo + P * o):=by
 have h:P * (a + 4294967296 * b') = P * (o + x + b):=by rw [hs]
 rw [aM,aM,aM] at h;have e1:P * (4294967296 * b') = b' * (P * 4294967296):=by rw [← bc,bp]
 have e2:P * b = b * P:=bp _ _;omega
theorem I4 {va vb vo P:Nat} (hI:va + b * P = vb + vo) (hle:vb≤va) (ho:vo < P) (hb:b≤1):vo = va - vb:=by
 rcases cP b with h | h
 · subst h;omega
 · obtain rfl:b = 1:=by omega
   omega
def Ad (w:World) (N:Nat) (e:Ending) (w':World):Prop :=
 Below w.heap.size w w'∧∃ C n c q,e = .returned (.slice C n c)∧Own w' w.heap.size 76 1 C n c (us q)∧dY q∧jF q∧nv q = N
theorem xR (A B:Option Addr) (n c m d:Nat) (a b:List Nat) (w:World) (hn:n≤4398046511104) (hm:m≤4398046511104) (ha:bf w A n c a) (hb:bf w B m d b) (tb:jF b) (hle:nv b≤nv a) :
 Calls aD 216 #[.slice A n c,.slice B m d] w fun e w'=>Ad w (nv a - nv b) e w'∧∃ C k c',e = .returned (.slice C k c')∧k≤n:=by
 have LA:=aE ha.len;have LB:=aE hb.len;have hmn:m≤n:=by
  rcases aw n m with h | h
  · have:=nY ha.2.2 tb (by rw [LA.out,LB.out];exact h);omega
  · exact h
 have H1:=aE ha.1;have H2:=aE hb.1;have UA:=aE ha.2.2;have UB:=aE hb.2.2;have HLE:=aE hle;clear ha hb tb hle;have hmk:=run_make_row' (P:=aD) 68 76 (.int .u32 0) 4 Tryz.underlying68 fJ rfl .i64 .i64 n (by omega) (by omega);have M0:Hid (Own (w.alloc (.cells (madeCells #[.int .u32 0] n) 76)) w.heap.size 76 1 (some ⟨w.heap.size,0,none⟩) n n (us (aR n 0))):=aE (iw rfl n (by unfold maxLen;omega) (aq _))
 go_enter Tryz.func216,Tryz.ntmps216
 go_wp2_with fail
 go_loopg [6,7] n (fun g bo i wr=>∃ (k b1:Nat) (q:List Nat),k≤n∧n - k≤g∧i = .int .i64 (k:Int)∧bo = .int .u64 (b1:Int)∧b1≤1∧dY q∧q.length = n∧nv (a.take k) + b1 * 4294967296 ^ k = nv (b.take k) + nv (q.take k)∧Own wr w.heap.size 76 1 (some ⟨w.heap.size,0,none⟩) n n (us q)∧Below w.heap.size w wr)
 case atStart=>exact ⟨0,0,aR n 0,eI _,by omega,rfl,rfl,by omega,dY.zero n,by simp,by simp [nv],M0.out,(Below.refl _ _).alloc (aq _) _⟩
 case round =>
  clear M0;obtain ⟨k,b1,q,hk,hg,rfl,rfl,hb1,hq,hql,hqv,ho,hb⟩:=hrel;have HB:=aE hb;have HO:=aE ho;have HQ:=aE hq;have QL:=aE hql;have QV:=aE hqv;have hzr:=hb.size;have kr:=bg.of_below hb (aq _);clear hb ho hq hql hqv
  by_cases hkn:k < n
  ·
   obtain ⟨ad,rfl,hkl,c0⟩:=(H1.out.keep kr).fG hkn;have hx:=UA.out.at k;have hy:=UB.out.at k;have cq:=HO.out.gB (j:=k) hkn;have fq:wr.frozen? ⟨w.heap.size,k,none⟩ = false:=HO.out.frozen k;have NS:Hid (∀ o b',a.getD k 0 + 4294967296 * b' = o + b.getD k 0 + b1→nv (a.take (k + 1)) + b' * 4294967296 ^ (k + 1) = nv (b.take (k + 1)) + nv ((q.set k o).take (k + 1))):=aE fun o b' h=>by
    rw [bC a,bC b,jP (by rw [QL.out];exact hkn),cj];exact Gt QV.out h
   have OS:Hid (∀ o:Nat,Own (wr.setCell ⟨w.heap.size,k,none⟩ (.int .u32 (o:Int))) w.heap.size 76 1 (some ⟨w.heap.size,0,none⟩) n n (us (q.set k o))):=aE fun o=>HO.out.eH k o
   have US:Hid (∀ o,o < 4294967296→dY (q.set k o)):=aE fun o h=>HQ.out.set _ h
   have QL2:Hid (∀ o,(q.set k o).length = n):=aE fun o=>by rw [br];exact QL.out
   by_cases hkm:k < m
   ·
    obtain ⟨ae,rfl,hkl',c1⟩:=(H2.out.keep kr).fG hkm;generalize a.getD k 0 = x at *;generalize b.getD k 0 = y at *;obtain ⟨D,hD⟩:∃ D:Nat,D = x + 4294967296 - y - b1:=⟨_,rfl⟩;have eD:(x:Int) + 4294967296 - (y:Int) - (b1:Int) = (D:Int):=by omega
    have hD2:D < 8589934592:=by omega
    have S1:=aE (NS.out (D % 4294967296) (1 - D / 4294967296) (by omega));have S2:=aE (OS.out (D % 4294967296));have S3:=aE (US.out (D % 4294967296) (by omega));have S4:=aE (QL2.out (D % 4294967296));clear hkl hkl' kr NS OS US hD;have e3:((D % 4294967296:Nat):Int) = (D:Int) % 4294967296:=by omega
    have e4:((1 - D / 4294967296:Nat):Int) = 1 - (D:Int) / 4294967296:=by omega
    rw [e3] at S2;have E4:=aE e4;clear e3 e4
    go_wp2_with fail
    go_roundg (n - (k + 1))
    case measure=>omega
    case rel=>exact ⟨k + 1,1 - D / 4294967296,q.set k (D % 4294967296),by omega,aq _,by go_num,by rw [E4.out],by omega,S3.out,S4.out,S1.out,S2.out,HB.out.setCell (by simp) _⟩
   ·
    have hy0:b.getD k 0 = 0:=by rw [ao,a8 (by rw [LB.out];omega)];rfl
    rw [hy0] at NS;generalize a.getD k 0 = x at *;obtain ⟨D,hD⟩:∃ D:Nat,D = x + 4294967296 - b1:=⟨_,rfl⟩;have eD:(x:Int) + 4294967296 - (b1:Int) = (D:Int):=by omega
    have hD2:D < 8589934592:=by omega
    have S1:=aE (NS.out (D % 4294967296) (1 - D / 4294967296) (by omega));have S2:=aE (OS.out (D % 4294967296));have S3:=aE (US.out (D % 4294967296) (by omega));have S4:=aE (QL2.out (D % 4294967296));clear hkl kr NS OS US hD hy hy0;have e3:((D % 4294967296:Nat):Int) = (D:Int) % 4294967296:=by omega
    have e4:((1 - D / 4294967296:Nat):Int) = 1 - (D:Int) / 4294967296:=by omega
    rw [e3] at S2;have E4:=aE e4;clear e3 e4
    go_wp2_with fail
    go_roundg (n - (k + 1))
    case measure=>omega
    case rel=>exact ⟨k + 1,1 - D / 4294967296,q.set k (D % 4294967296),by omega,aq _,by go_num,by rw [E4.out],by omega,S3.out,S4.out,S1.out,S2.out,HB.out.setCell (by simp) _⟩
  ·
   obtain rfl:k = n:=by omega
   have V:Hid (nv q = nv a - nv b):=aE (by
    have h:=QV.out;rw [bk (by rw [LA.out];exact aq _),bk (by rw [LB.out];exact hmn),bk (by rw [QL.out];exact aq _)] at h;have h2:=mi HQ.out;rw [QL.out] at h2;exact I4 h HLE.out h2 hb1)
   have TL:Hid (dO q≤k):=aE (by rw [← QL.out];exact iC q);have cT:=iQ _ k k q wr (by omega) (HO.out.mag HQ.out)
   go_wp2_with fail
   refine av cT ?_;rintro _ _ ⟨rfl,rfl⟩
   go_wp2_with fail
   go_ret
   exact ⟨⟨HB.out,_,_,_,fB q,rfl,HO.out.Dw rfl,jw HQ.out,dK _,by rw [dP,V.out]⟩,_,_,_,rfl,TL.out⟩
attribute [local go_sem ↓] cH cJ
theorem pF {p v:Nat} (h:p < l.length):nv (l.set p v) + 4294967296 ^ p * l.getD p 0 = nv l + 4294967296 ^ p * v:=by
 have h1:=gG (l.set p v) p (by simp;omega);have h2:=gG l p (by omega);have h3:l.drop p = l.getD p 0 :: l.drop (p + 1):=by
  rw [bw h,ao,ar h];rfl
 rw [zK (aq _),rW h,nv,aM] at h1;rw [h3,nv,aM] at h2;omega
theorem aQ {j x:Nat} (h:j≠k):(l.set k x).getD j 0 = l.getD j 0:=by
 rw [ao,fW (by omega),ao]
variable {s i:Nat}
theorem OL {N N' N0 c c' o v x y i P Q:Nat} (hI:N + c * (P * Q) = N0 + x * s * P) (hs:N' + P * Q * o = N + P * Q * v) (hv:o + c + x * y = v + 4294967296 * c') :
 N' + c' * (P * (Q * 4294967296)) = N0 + x * (s + Q * y) * P:=by
 have h:P * Q * (o + c + x * y) = P * Q * (v + 4294967296 * c'):=by rw [hv]
 rw [aM,aM,aM] at h;have e1:P * Q * (4294967296 * c') = c' * (P * (Q * 4294967296)):=by
  rw [← bc,bp _ c',bc P Q]
 have e2:P * Q * c = c * (P * Q):=bp _ _;have e3:x * (s + Q * y) * P = x * s * P + P * Q * (x * y):=by
  rw [aM,fY];congr 1;rw [bp _ P,dx x Q y,bc]
 omega
theorem Oy {o c x y:Nat} (ho:o < 4294967296) (hc:c < 4294967296) (hx:x < 4294967296) (hy:y < 4294967296):x * y≤18446744065119617025∧(o + c + x * y) / 4294967296 < 4294967296:=by
 have h:x * y≤4294967295 * 4294967295:=Nat.mul_le_mul (by omega) (by omega);omega
theorem times_any (A B:Option Addr) (n c m d:Nat) (a b:List Nat) (w:World) (hn:n≤2199023255552) (hm:m≤2199023255552) (ha:bf w A n c a) (hb:bf w B m d b) :
 Calls aD 217 #[.slice A n c,.slice B m d] w fun e w'=>Ad w (nv a * nv b) e w'∧∃ C k c',e = .returned (.slice C k c')∧k≤n + m:=by
 have LA:=aE ha.len;have LB:=aE hb.len;have H1:=aE ha.1;have H2:=aE hb.1;have UA:=aE ha.2.2;have UB:=aE hb.2.2;clear ha hb;have hmk:=run_make_row' (P:=aD) 68 76 (.int .u32 0) 4 Tryz.underlying68 fJ rfl .i64 .i64 (n + m) (by omega) (by omega);simp only [Int.natCast_add] at hmk;have M0:Hid (Own (w.alloc (.cells (madeCells #[.int .u32 0] (n + m)) 76)) w.heap.size 76 1 (some ⟨w.heap.size,0,none⟩) (n + m) (n + m) (us (aR (n + m) 0))):=aE (iw rfl (n + m) (by unfold maxLen;omega) (aq _))
 go_enter Tryz.func217,Tryz.ntmps217
 go_wp2_with fail
 go_loopg [6,7,8] n (fun g i _ _ wr=>∃ (k:Nat) (q:List Nat),k≤n∧n - k≤g∧i = .int .i64 (k:Int)∧dY q∧q.length = n + m∧nv q = nv (a.take k) * nv b∧(∀ j,k + m≤j→q.getD j 0 = 0)∧Own wr w.heap.size 76 1 (some ⟨w.heap.size,0,none⟩) (n + m) (n + m) (us q)∧Below w.heap.size w wr)
 case atStart=>exact ⟨0,aR (n + m) 0,eI _,by omega,rfl,dY.zero _,by simp,by rw [jo];simp [nv],(fun j hj=>by rw [ao,dk];split <;> rfl),M0.out,(Below.refl _ _).alloc (aq _) _⟩
 case round =>
  clear M0;obtain ⟨i,q,hi,hg,rfl,hq,hql,hqv,hqz,ho,hb⟩:=hrel;have HB:=aE hb;have HO:=aE ho;have HQ:=aE hq;have QL:=aE hql;have QV:=aE hqv;have QZ:=aE hqz;clear hb ho hq hql hqv hqz
  by_cases hin:i < n
  ·
   obtain ⟨ad,hA,hil,ca⟩:=H1.out.fG hin;subst hA;have hx:=UA.out.at i;have OUT:Hid (∀ (q1:List Nat) (c1:Nat),q1.length = n + m→nv q1 + c1 * (4294967296 ^ i * 4294967296 ^ m) = nv q + a.getD i 0 * nv b * 4294967296 ^ i→(∀ j,i + m≤j→q1.getD j 0 = 0)→nv (q1.set (i + m) c1) = nv (a.take (i + 1)) * nv b∧∀ j,i + 1 + m≤j→(q1.set (i + m) c1).getD j 0 = 0):=aE fun q1 c1 hl hv hz=>by
    have h1:=pF (l:=q1) (p:=i + m) (v:=c1) (by omega);rw [hz (i + m) (by omega),kv,kx,eJ,bp _ c1,hv,QV.out] at h1;refine ⟨?_,fun j hj=>by rw [aQ (by omega)];exact hz j (by omega)⟩;rw [h1,bC,fY,bp (4294967296 ^ i) (a.getD i 0),bc,bc,bp (nv b)]
   generalize a.getD i 0 = x at *
   go_wp2_with fail
   go_loopg [7,8] m (fun g cr ki wr=>∃ (k c1:Nat) (q1:List Nat),k≤m∧m - k≤g∧ki = .int .i64 (k:Int)∧cr = .int .u64 (c1:Int)∧c1 < 4294967296∧dY q1∧q1.length = n + m∧nv q1 + c1 * (4294967296 ^ i * 4294967296 ^ k) = nv q + x * nv (b.take k) * 4294967296 ^ i∧(∀ j,i + m≤j→q1.getD j 0 = 0)∧Own wr w.heap.size 76 1 (some ⟨w.heap.size,0,none⟩) (n + m) (n + m) (us q1)∧Below w.heap.size w wr)
   case atStart=>exact ⟨0,0,q,eI _,by omega,rfl,rfl,by omega,HQ.out,QL.out,by simp [nv],QZ.out,HO.out,HB.out⟩
   case round =>
    clear HB HO HQ QL QZ;obtain ⟨k,c1,q1,hk,hgk,rfl,rfl,hc1,hq,hql,hqv,hqz,ho,hb⟩:=hrel
    rename World=>wr
    have HB:=aE hb;have HO:=aE ho;have HQ:=aE hq;have QL:=aE hql;have QV1:=aE hqv;have QZ:=aE hqz;have hzr:=hb.size;have kr:=bg.of_below hb (aq _);clear hb ho hq hql hqv hqz
    by_cases hkm:k < m
    ·
     obtain ⟨ae,hE,hkl,cb⟩:=H2.out.fG hkm;subst hE;have hy:=UB.out.at k;have ho1:=HQ.out.at (i + k);have co:=HO.out.gB (j:=i + k) (by omega);have fo:wr.frozen? ⟨w.heap.size,i + k,none⟩ = false:=HO.out.frozen (i + k);have car:=kr _ _ ca;have cbr:=kr _ _ cb;have hik:((i:Int) + (k:Int)).toNat = i + k:=by omega
     have ST:Hid (∀ v c',q1.getD (i + k) 0 + c1 + x * b.getD k 0 = v + 4294967296 * c'→nv (q1.set (i + k) v) + c' * (4294967296 ^ i * 4294967296 ^ (k + 1)) = nv q + x * nv (b.take (k + 1)) * 4294967296 ^ i):=aE fun v c' h=>by
      have h1:=pF (l:=q1) (p:=i + k) (v:=v) (by rw [QL.out];omega);rw [eJ] at h1;rw [bC,cj];exact OL (i:=0) QV1.out h1 h
     generalize q1.getD (i + k) 0 = o at *;generalize b.getD k 0 = y at *;obtain ⟨hM1,hM2⟩:=Oy ho1 hc1 hx hy;obtain ⟨M,hM⟩:∃ M:Nat,M = x * y:=⟨_,rfl⟩;have eM:(x:Int) * (y:Int) = (M:Int):=by rw [hM,ke]
     rw [← hM] at hM1 hM2 ST;have S1:=aE (ST.out ((o + c1 + M) % 4294967296) ((o + c1 + M) / 4294967296) (by omega));have S3:Hid (dY (q1.set (i + k) ((o + c1 + M) % 4294967296))):=aE (HQ.out.set _ (by omega));have S4:Hid ((q1.set (i + k) ((o + c1 + M) % 4294967296)).length = n + m):=aE (by rw [br];exact QL.out);have S5:Hid (∀ j,i + m≤j→(q1.set (i + k) ((o + c1 + M) % 4294967296)).getD j 0 = 0):=aE fun j hj=>by rw [aQ (by omega)];exact QZ.out j hj
     have g0:=bZ car;have g1:=bZ cbr;have g2:=bZ co;clear hkl kr hM ST hil
     go_wp2_with fail
     refine dJ (by kernel_rfl) (by kernel_rfl) ?_
     repeat (go_big_quiet_step (fail))
     refine wpQuiet_nil ?_;intro wq hgq;have HOq:=HO.out.later hgq;have coq:=bg.of_below hgq (aq _) _ _ co;have foq:wq.frozen? ⟨w.heap.size,i + k,none⟩ = false:=HOq.frozen (i + k);have S2:=HOq.eH (i + k) ((o + c1 + M) % 4294967296);have e5:(((o + c1 + M) % 4294967296:Nat):Int) = ((c1:Int) + (o:Int) + (M:Int)) % 4294967296:=by omega
     rw [e5] at S2;have E6:Hid ((((o + c1 + M) / 4294967296:Nat):Int) = ((c1:Int) + (o:Int) + (M:Int)) / 4294967296):=aE (by omega);have S2:=aE S2;have HBq:=aE (HB.out.trans (hgq.mono hzr));clear HOq hgq e5 g0 g1 g2
     go_wp2_with fail
     go_roundg (m - (k + 1))
     case measure=>omega
     case rel=>exact ⟨k + 1,(o + c1 + M) / 4294967296,q1.set (i + k) ((o + c1 + M) % 4294967296),by omega,aq _,by go_num,by rw [E6.out],hM2,S3.out,S4.out,S1.out,S5.out,S2.out,HBq.out.setCell (by simp) _⟩
    · obtain rfl:k = m:=by omega
      have him:((i:Int) + (k:Int)).toNat = i + k:=by omega
      have cz:=HO.out.gB (j:=i + k) (by omega);have fz:wr.frozen? ⟨w.heap.size,i + k,none⟩ = false:=HO.out.frozen (i + k);have T1:=aE (OUT.out q1 c1 QL.out (by have:=QV1.out;rwa [bk (by rw [LB.out];exact aq _)] at this) QZ.out);have T2:=aE (HO.out.eH (i + k) c1);have T3:Hid (dY (q1.set (i + k) c1)):=aE (HQ.out.set _ hc1);have T4:Hid ((q1.set (i + k) c1).length = n + k):=aE (by rw [br];exact QL.out);clear kr
      go_wp2_with fail
      go_roundg (n - (i + 1))
      case measure=>omega
      case rel=>exact ⟨i + 1,q1.set (i + k) c1,by omega,aq _,by go_num,T3.out,T4.out,T1.out.1,T1.out.2,T2.out,HB.out.setCell (by simp) _⟩
  ·
   obtain rfl:i = n:=by omega
   have V:Hid (nv q = nv a * nv b):=aE (by have:=QV.out;rwa [bk (by rw [LA.out];exact aq _)] at this);have TL:Hid (dO q≤i + m):=aE (by rw [← QL.out];exact iC q);have cT:=iQ _ (i + m) (i + m) q wr (by omega) (HO.out.mag HQ.out)
   go_wp2_with fail
   refine av cT ?_;rintro _ _ ⟨rfl,rfl⟩
   go_wp2_with fail
   go_ret
   exact ⟨⟨HB.out,_,_,_,fB q,rfl,HO.out.Dw rfl,jw HQ.out,dK _,by rw [dP,V.out]⟩,_,_,_,rfl,TL.out⟩
attribute [local go_sem ↓] cH cJ
theorem GG (A:Option Addr) (n c:Nat) (l:List Nat) (w:World) (hn:n≤4398046511104) (h:bf w A n c l) (ht:jF l) (h0:0 < n) :
 Calls aD 229 #[.slice A n c] w fun e w'=>∃ t:Nat,e = .returned (.int .i64 ((32 * (n - 1) + t:Nat):Int))∧0 < t∧t≤32∧2 ^ (t - 1)≤l.getD (n - 1) 0∧l.getD (n - 1) 0 < 2 ^ t∧w = w':=by
 have HL:=aE h.len;obtain ⟨ad,rfl,hkl,c0⟩:=h.1.fG (by omega:n - 1 < n);have hx0:=ht.top (by rw [HL.out];exact h0);rw [HL.out] at hx0;have hx:=h.2.2.at (n - 1);clear h ht hkl;generalize l.getD (n - 1) 0 = x at *;have hi1:((n:Int) - 1).toNat = n - 1:=by omega
 have hm0:(0:Int)≤(n:Int) - 1:=by omega
 have hm1:(n:Int) - 1 < (n:Int):=by omega
 have hn0:¬ (n:Int) = 0:=by omega
 go_enter Tryz.func229,Tryz.ntmps229
 go_wp2_with fail
 go_loopg [3,4] 33 (fun g o xs wr=>∃ t y:Nat,o = .int .i64 (t:Int)∧xs = .int .u32 (y:Int)∧y = x / 2 ^ t∧y < 4294967296∧(0 < t→0 < x / 2 ^ (t - 1))∧t + g = 33∧t≤32∧w = wr)
 case atStart=>exact ⟨0,x,rfl,rfl,by simp,hx,fun h=>by omega,rfl,by omega,rfl⟩
 case round =>
  obtain ⟨t,y,rfl,rfl,hy,hyb,hlow,hg,ht,rfl⟩:=hrel
  by_cases hy0:y = 0
  ·
   subst hy0;have P:Hid (0 < t∧2 ^ (t - 1)≤x∧x < 2 ^ t):=aE (by
    have h2:x < 2 ^ t:=by
     have:=(Nat.div_eq_zero_iff_lt (ck (by omega:0 < 2))).1 hy.symm;exact this
    have ht0:0 < t:=by
     rcases cP t with h | h
     · subst h;simp at h2;omega
     · exact h
    refine ⟨ht0,?_,h2⟩;have h3:=hlow ht0;rcases aw x (2 ^ (t - 1)) with h | h
    · rw [fw h] at h3;omega
    · exact h)
   clear hy hlow;have E:Hid ((32 * ((n:Int) - 1) + (t:Int)) = ((32 * (n - 1) + t:Nat):Int)):=aE (by omega)
   go_wp2_with fail
   go_ret
   exact ⟨t,by rw [← E.out];rfl,P.out.1,ht,P.out.2.1,P.out.2.2,rfl⟩
  ·
   have hyp:(0:Int) < (y:Int):=by omega
   have N1:Hid (y / 2 = x / 2 ^ (t + 1)):=aE (by rw [hy,Nat.div_div_eq_div_mul,cj]);have N2:Hid (0 < x / 2 ^ (t + 1 - 1)):=aE (by rw [eo,← hy];omega);have N3:t + 1≤32:=by
    rcases aw t 32 with h | h
    · omega
    · obtain rfl:t = 32:=by omega
      rw [fw (by omega)] at hy;omega
   clear hy hlow;have e2:(((y / 2:Nat)):Int) = (y:Int) / 2:=by omega
   have E2:=aE e2;clear e2
   go_wp2_with fail
   go_roundg (33 - (t + 1))
   case measure=>omega
   case rel=>exact ⟨t + 1,y / 2,by go_num,by rw [E2.out],N1.out,by omega,fun _=>N2.out,by omega,N3,rfl⟩
theorem Iz (hs:s < 32):2 ^ s * 2 ^ (32 - s) = 4294967296:=by
 rw [← eJ,show s + (32 - s) = 32 by omega]
theorem YS {a:Nat} (ha:a < 4294967296) (hs:s < 32):a * 2 ^ s < 18446744073709551616∧a * 2 ^ s / 4294967296 < 2 ^ s:=by
 have h1:a * 2 ^ s < 4294967296 * 2 ^ s:=eW ha (ck (by omega));have h2:2 ^ s≤2 ^ 31:=bR (by omega) (by omega);refine ⟨by omega,?_⟩;rw [cQ (by omega)];exact Nat.lt_of_lt_of_eq h1 (bp _ _)
theorem Zj {o a:Nat} (ho:o < 2 ^ s) (hs:s < 32):o ||| (a * 2 ^ s % 4294967296) = o + a * 2 ^ s % 4294967296∧o + a * 2 ^ s % 4294967296 < 4294967296:=by
 have hp:=Iz hs;have e:a * 2 ^ s % 4294967296 = 2 ^ s * (a % 2 ^ (32 - s)):=by
  rw [← hp,bp a,Nat.mul_mod_mul_left]
 have hlt:a % 2 ^ (32 - s) < 2 ^ (32 - s):=eh _ (ck (by omega));have h2:2 ^ s * (a % 2 ^ (32 - s) + 1)≤2 ^ s * 2 ^ (32 - s):=bm _ hlt;rw [hp,aM,Nat.mul_one] at h2;rw [e];have h3:=eV ho (a % 2 ^ (32 - s));rw [Nat.or_comm,← h3];omega
theorem EM {N N1 N2 va P a o lo hi X:Nat} (hI:N = va * 2 ^ s) (h1:N1 + P * o = N + P * (o + lo)) (h2:N2 + P * 4294967296 * 0 = N1 + P * 4294967296 * hi) (hX:lo + 4294967296 * hi = a * 2 ^ s) :
 N2 = (va + P * a) * 2 ^ s:=by
 have h:P * (lo + 4294967296 * hi) = P * (a * 2 ^ s):=by rw [hX]
 rw [aM,← bc,← bc] at h;rw [fY];rw [aM] at h1;rw [← hI];omega
def Xz (w:World) (n N:Nat) (e:Ending) (w':World):Prop :=
 Below w.heap.size w w'∧∃ q,e = .returned (.slice (some ⟨w.heap.size,0,none⟩) (n + 1) (n + 1))∧Own w' w.heap.size 76 1 (some ⟨w.heap.size,0,none⟩) (n + 1) (n + 1) (us q)∧dY q∧q.length = n + 1∧nv q = N
theorem Dx (A:Option Addr) (n c:Nat) (l:List Nat) (s:Nat) (w:World) (hn:n≤2199023255552) (hs:s < 32) (h:bf w A n c l) :
 Calls aD 230 #[.slice A n c,.int .i64 (s:Int)] w (Xz w n (nv l * 2 ^ s)):=by
 have HL:=aE h.len;have H1:=aE h.1;have UL:=aE h.2.2;clear h;have hmk:=run_make_row' (P:=aD) 68 76 (.int .u32 0) 4 Tryz.underlying68 fJ rfl .i64 .i64 (n + 1) (by omega) (by omega);simp only [show ((n + 1:Nat):Int) = (n:Int) + 1 from rfl] at hmk;have M0:Hid (Own (w.alloc (.cells (madeCells #[.int .u32 0] (n + 1)) 76)) w.heap.size 76 1 (some ⟨w.heap.size,0,none⟩) (n + 1) (n + 1) (us (aR (n + 1) 0))):=aE (iw rfl (n + 1) (by unfold maxLen;omega) (aq _))
 go_enter Tryz.func230,Tryz.ntmps230
 go_wp2_with fail
 go_loopg [6] n (fun g i wr=>∃ (k:Nat) (q:List Nat),k≤n∧n - k≤g∧i = .int .i64 (k:Int)∧dY q∧q.length = n + 1∧nv q = nv (l.take k) * 2 ^ s∧(∀ j,k < j→q.getD j 0 = 0)∧q.getD k 0 < 2 ^ s∧Own wr w.heap.size 76 1 (some ⟨w.heap.size,0,none⟩) (n + 1) (n + 1) (us q)∧Below w.heap.size w wr)
 case atStart=>exact ⟨0,aR (n + 1) 0,eI _,by omega,rfl,dY.zero _,by simp,by rw [jo];simp [nv],(fun j hj=>by rw [ao,dk];split <;> rfl),(by rw [ao,dk];split <;> exact ck (by omega)),M0.out,(Below.refl _ _).alloc (aq _) _⟩
 case round =>
  clear M0;obtain ⟨k,q,hk,hg,rfl,hq,hql,hqv,hqz,hqt,ho,hb⟩:=hrel;have HB:=aE hb;have HO:=aE ho;have HQ:=aE hq;have QL:=aE hql;have QV:=aE hqv;have QZ:=aE hqz;have hzr:=hb.size;have kr:=bg.of_below hb (aq _);clear hb ho hq hql hqv hqz
  by_cases hkn:k < n
  ·
   obtain ⟨ad,rfl,hkl,ca⟩:=(H1.out.keep kr).fG hkn;have hx:=UL.out.at k;have co:=HO.out.gB (j:=k) (by omega);have fo:wr.frozen? ⟨w.heap.size,k,none⟩ = false:=HO.out.frozen k;have fo1:wr.frozen? ⟨w.heap.size,k + 1,none⟩ = false:=HO.out.frozen (k + 1);have co1:=HO.out.gB (j:=k + 1) (by omega);rw [QZ.out (k + 1) (by omega)] at co1;have ho1:=HQ.out.at k;have EV:Hid (nv (l.take (k + 1)) = nv (l.take k) + 4294967296 ^ k * l.getD k 0):=aE (bC l k);have NS:Hid (∀ v,nv (q.set k v) + 4294967296 ^ k * q.getD k 0 = nv q + 4294967296 ^ k * v):=aE fun v=>pF (by rw [QL.out];omega)
   have NT:Hid (∀ v u,nv ((q.set k v).set (k + 1) u) + 4294967296 ^ k * 4294967296 * 0 = nv (q.set k v) + 4294967296 ^ k * 4294967296 * u):=aE fun v u=>by
    have:=pF (l:=q.set k v) (p:=k + 1) (v:=u) (by rw [br,QL.out];omega);rw [aQ (by omega),QZ.out (k + 1) (by omega),cj] at this;exact this
   generalize l.getD k 0 = x at *;generalize hog:q.getD k 0 = o at *;obtain ⟨hX1,hX2⟩:=YS hx hs;obtain ⟨hO1,hO2⟩:=Zj (a:=x) hqt hs;obtain ⟨X,hX⟩:∃ X:Nat,X = x * 2 ^ s:=⟨_,rfl⟩;have eX:(x:Int) * 2 ^ s = (X:Int):=by rw [hX,ke,gH];rfl
   have SS:Hid (∀ N1 N2 lo hi,N1 + 4294967296 ^ k * o = nv q + 4294967296 ^ k * (o + lo)→N2 + 4294967296 ^ k * 4294967296 * 0 = N1 + 4294967296 ^ k * 4294967296 * hi→lo + 4294967296 * hi = X→N2 = nv (l.take (k + 1)) * 2 ^ s):=aE fun N1 N2 lo hi h1 h2 h3=>by
    rw [EV.out];exact EM (X:=X) QV.out h1 h2 (by rw [h3,hX])
   rw [← hX] at hX1 hX2 hO1 hO2;have eO:bits .or .u32 (o:Int) ((X:Int) % 4294967296) = ((o + X % 4294967296:Nat):Int):=by
    have h:=u32_or_nat o (X % 4294967296) ho1 (by omega);rw [hO1] at h;rw [← h];congr 1
   have VV:=aE (SS.out _ _ (X % 4294967296) (X / 4294967296) (NS.out _) (NT.out (o + X % 4294967296) (X / 4294967296)) (by omega));have UQ:Hid (dY ((q.set k (o + X % 4294967296)).set (k + 1) (X / 4294967296))):=aE ((HQ.out.set _ hO2).set _ (by omega));have LQ:Hid (((q.set k (o + X % 4294967296)).set (k + 1) (X / 4294967296)).length = n + 1):=aE (by rw [br,br];exact QL.out);have ZQ:Hid (∀ j,k + 1 < j→((q.set k (o + X % 4294967296)).set (k + 1) (X / 4294967296)).getD j 0 = 0):=aE fun j hj=>by
    rw [aQ (by omega),aQ (by omega)];exact QZ.out j (by omega)
   have TQ:Hid (((q.set k (o + X % 4294967296)).set (k + 1) (X / 4294967296)).getD (k + 1) 0 < 2 ^ s):=aE (by
    rw [iE (by rw [br,QL.out];omega)];exact hX2)
   have e7:((X / 4294967296:Nat):Int) = (X:Int) / 4294967296:=by omega
   have OQ:=(HO.out.eH k (o + X % 4294967296)).eH (k + 1) (X / 4294967296);rw [e7] at OQ;have OQ:=aE OQ;have hXi:(X:Int) < 18446744073709551616:=by omega
   have hOi:((o + X % 4294967296:Nat):Int) < 4294967296:=by omega
   clear hkl kr hX NS NT SS EV hO1 hqt hX2 e7 hog;generalize hW:o + X % 4294967296 = W at *;clear hW
   go_wp2_with fail
   go_roundg (n - (k + 1))
   case measure=>omega
   case rel=>exact ⟨k + 1,_,by omega,aq _,by go_num,UQ.out,LQ.out,VV.out,ZQ.out,TQ.out,OQ.out,(HB.out.setCell (by simp) _).setCell (by simp) _⟩
  · obtain rfl:k = n:=by omega
    have V:Hid (nv q = nv l * 2 ^ s):=aE (by have:=QV.out;rwa [bk (by rw [HL.out];exact aq _)] at this);clear kr
    go_wp2_with fail
    go_ret
    exact ⟨HB.out,q,rfl,HO.out,HQ.out,QL.out,V.out⟩
def UK (l:List Nat) (s i:Nat):Nat:=(l.getD i 0 + 4294967296 * l.getD (i + 1) 0) / 2 ^ s % 4294967296
def TK (l:List Nat) (s:Nat):List Nat:=(ea l.length).map (UK l s)
theorem Uo {x y M:Nat} (hs:s < 32) (hx:x < 4294967296):(x + 4294967296 * y) / 2 ^ s % 4294967296 + 4294967296 * ((y + 4294967296 * M) / 2 ^ s) = (x + 4294967296 * (y + 4294967296 * M)) / 2 ^ s:=by
 have hp:=Iz hs;have hpos:0 < 2 ^ s:=ck (by omega);generalize h1:2 ^ s = p at *;generalize h2:2 ^ (32 - s) = r at *;clear h1 h2
 -- y = p t + u
 have hy:=kd y p;have hu:=eh y hpos;generalize y / p = t at *;generalize y % p = u at *;subst hy;have e1:(p * t + u + 4294967296 * M) / p = t + r * M:=by
  have:p * t + u + 4294967296 * M = u + p * (t + r * M):=by rw [← hp,aM,bc];omega
  rw [this,eK _ _ hpos,fw hu,fL]
 have e2:(x + 4294967296 * (p * t + u)) / p = (x + 4294967296 * u) / p + 4294967296 * t:=by
  have:x + 4294967296 * (p * t + u) = (x + 4294967296 * u) + p * (4294967296 * t):=by rw [aM,dx];omega
  rw [this,eK _ _ hpos]
 have e3:(x + 4294967296 * (p * t + u + 4294967296 * M)) / p = (x + 4294967296 * u) / p + 4294967296 * (t + r * M):=by
  have h3:4294967296 * (4294967296 * M) = p * (4294967296 * (r * M)):=by
   rw [dx p,← bc p,hp]
  have:x + 4294967296 * (p * t + u + 4294967296 * M) = (x + 4294967296 * u) + p * (4294967296 * (t + r * M)):=by
   rw [aM,aM,h3,aM 4294967296 t,aM p,dx 4294967296 p t];omega
  rw [this,eK _ _ hpos]
 have hlt:(x + 4294967296 * u) / p < 4294967296:=by
  rw [cQ hpos];have:4294967296 * (u + 1)≤4294967296 * p:=bm _ hu;omega
 rw [e1,e2,e3,gS,j6 hlt]
theorem XR (x:Nat) (l:List Nat) (s:Nat):TK (x :: l) s = (x + 4294967296 * l.getD 0 0) / 2 ^ s % 4294967296 :: TK l s:=by
 unfold TK;rw [cF,List.range_succ_eq_map,kj,List.map_map];congr 1
theorem JZ {s:Nat} (hs:s < 32):∀ {l:List Nat},dY l→nv (TK l s) = nv l / 2 ^ s
 | [],_=>by simp [TK,nv]
 | x :: l,h=>by
  have hx:=h x (bq ..);have ih:=JZ hs (l:=l) (fun y hy=>h y (bB _ hy));rw [XR,nv,ih,nv];cases l with
  | nil =>
   have:=Uo (x:=x) (y:=0) (M:=0) hs hx;simpa [nv] using this
  | cons y l =>
   rw [nv,db];exact Uo hs hx
theorem ace (l:List Nat) (s:Nat):(TK l s).length = l.length:=by simp [TK]
theorem WS {q:List Nat} (hl:q.length = l.length) (h:∀ j,j < l.length→q.getD j 0 = UK l s j):q = TK l s:=by
 apply jN
 · rw [hl,ace]
 · intro i h1 h2;have:=h i (by omega);rw [ao,ar h1] at this;simp [TK];exact this
theorem ah2 {v x:Nat} (hx:x < 4294967296) (hv:v < 4294967296):bits .or .u64 (x:Int) ((v:Int) * 4294967296) = ((x + 4294967296 * v:Nat):Int):=by
 have h:=u64_or_nat x (v * 4294967296) (by omega) (by omega);have e:x ||| v * 4294967296 = x + 4294967296 * v:=by
  have:=eV (b:=x) (i:=32) (by omega) v;rw [Nat.or_comm,bp v 4294967296,← this];omega
 have h2:((v * 4294967296:Nat):Int) = (v:Int) * 4294967296:=by omega
 rw [e,h2] at h;exact h
theorem ZT (A:Option Addr) (n c:Nat) (l:List Nat) (s:Nat) (w:World) (hn:n≤4398046511104) (hs:s < 32) (h:bf w A n c l) :
 Calls aD 232 #[.slice A n c,.int .i64 (s:Int)] w fun e w'=>Ad w (nv l / 2 ^ s) e w'∧∃ C k c',e = .returned (.slice C k c')∧k≤n:=by
 have HL:=aE h.len;have H1:=aE h.1;have UL:=aE h.2.2;clear h;have hmk:=run_make_row' (P:=aD) 68 76 (.int .u32 0) 4 Tryz.underlying68 fJ rfl .i64 .i64 n (by omega) (by omega);have M0:Hid (Own (w.alloc (.cells (madeCells #[.int .u32 0] n) 76)) w.heap.size 76 1 (some ⟨w.heap.size,0,none⟩) n n (us (aR n 0))):=aE (iw rfl n (by unfold maxLen;omega) (aq _))
 go_enter Tryz.func232,Tryz.ntmps232
 go_wp2_with fail
 go_loopg [6] n (fun g i wr=>∃ (k:Nat) (q:List Nat),k≤n∧n - k≤g∧i = .int .i64 (k:Int)∧dY q∧q.length = n∧(∀ j,j < k→q.getD j 0 = UK l s j)∧Own wr w.heap.size 76 1 (some ⟨w.heap.size,0,none⟩) n n (us q)∧Below w.heap.size w wr)
 case atStart=>exact ⟨0,aR n 0,eI _,by omega,rfl,dY.zero n,by simp,(fun j hj=>by omega),M0.out,(Below.refl _ _).alloc (aq _) _⟩
 case round =>
  clear M0;obtain ⟨k,q,hk,hg,rfl,hq,hql,hqv,ho,hb⟩:=hrel;have HB:=aE hb;have HO:=aE ho;have HQ:=aE hq;have QL:=aE hql;have QV:=aE hqv;have hzr:=hb.size;have kr:=bg.of_below hb (aq _);clear hb ho hq hql hqv
  by_cases hkn:k < n
  ·
   obtain ⟨ad,rfl,hkl,ca⟩:=(H1.out.keep kr).fG hkn;have hx:=UL.out.at k;have cq:=HO.out.gB (j:=k) hkn;have fq:wr.frozen? ⟨w.heap.size,k,none⟩ = false:=HO.out.frozen k;have NS:Hid (∀ X,(l.getD k 0 + 4294967296 * l.getD (k + 1) 0) = X→∀ j,j < k + 1→(q.set k (X / 2 ^ s % 4294967296)).getD j 0 = UK l s j):=aE fun X hX j hj=>by
    by_cases e:j = k
    · subst e;rw [iE (by rw [QL.out];exact hkn)];unfold UK;rw [hX]
    · rw [aQ e];exact QV.out j (by omega)
   by_cases hk1:k + 1 < n
   ·
    obtain ⟨ad',e',hkl',cb⟩:=(H1.out.keep kr).fG hk1;injection e' with e'
    subst e';have cb':wr.cell? ⟨ad.block,ad.off + (k + 1),none⟩ = some (.int .u32 ((l.getD (k + 1) 0:Nat):Int)):=by have h9:ad.add (k + 1) = ⟨ad.block,ad.off + (k + 1),none⟩:=(by unfold gL;simp);rw [h9] at cb;exact cb
    have hy:=UL.out.at (k + 1);generalize l.getD k 0 = x at *;generalize l.getD (k + 1) 0 = y at *;have ho:=ah2 hx hy;obtain ⟨X,hX⟩:∃ X:Nat,X = x + 4294967296 * y:=⟨_,rfl⟩;have N1:=aE (NS.out X hX.symm);have hXb:X < 18446744073709551616:=by omega
    rw [← hX] at ho;have hk1i:(k:Int) + 1 < (n:Int):=by omega
    clear hX NS hkl hkl' kr;obtain ⟨Y,hY⟩:∃ Y:Nat,Y = X / 2 ^ s:=⟨_,rfl⟩;have eY:(X:Int) / 2 ^ s = (Y:Int):=by rw [hY,eC,gH];rfl
    have hYb:Y < 18446744073709551616:=by rw [hY];exact dt (ef _ _) hXb
    have N1:=aE (by have h9:=N1.out;rw [← hY] at h9;exact h9);have S2:=HO.out.eH k (Y % 4294967296);have e3:((Y % 4294967296:Nat):Int) = (Y:Int) % 4294967296:=by omega
    rw [e3] at S2;have S2:=aE S2;have S3:Hid (dY (q.set k (Y % 4294967296))):=aE (HQ.out.set _ (by omega));have S4:Hid ((q.set k (Y % 4294967296)).length = n):=aE (by rw [br];exact QL.out);clear hY e3
    go_wp2_with fail
    go_roundg (n - (k + 1))
    case measure=>omega
    case rel=>exact ⟨k + 1,q.set k (Y % 4294967296),by omega,aq _,by go_num,S3.out,S4.out,N1.out,S2.out,HB.out.setCell (by simp) _⟩
   ·
    have hy0:l.getD (k + 1) 0 = 0:=by rw [ao,a8 (by rw [HL.out];omega)];rfl
    rw [hy0] at NS;generalize l.getD k 0 = x at *;have N1:=aE (NS.out x (by omega));have hk1i:¬ (k:Int) + 1 < (n:Int):=by omega
    clear NS hkl kr hy0;have hXb:x < 18446744073709551616:=by omega
    obtain ⟨Y,hY⟩:∃ Y:Nat,Y = x / 2 ^ s:=⟨_,rfl⟩;have eY:(x:Int) / 2 ^ s = (Y:Int):=by rw [hY,eC,gH];rfl
    have hYb:Y < 18446744073709551616:=by rw [hY];exact dt (ef _ _) hXb
    have N1:=aE (by have h9:=N1.out;rw [← hY] at h9;exact h9);have S2:=HO.out.eH k (Y % 4294967296);have e3:((Y % 4294967296:Nat):Int) = (Y:Int) % 4294967296:=by omega
    rw [e3] at S2;have S2:=aE S2;have S3:Hid (dY (q.set k (Y % 4294967296))):=aE (HQ.out.set _ (by omega));have S4:Hid ((q.set k (Y % 4294967296)).length = n):=aE (by rw [br];exact QL.out);clear hY e3
    go_wp2_with fail
    go_roundg (n - (k + 1))
    case measure=>omega
    case rel=>exact ⟨k + 1,q.set k (Y % 4294967296),by omega,aq _,by go_num,S3.out,S4.out,N1.out,S2.out,HB.out.setCell (by simp) _⟩
  ·
   obtain rfl:k = n:=by omega
   have E:Hid (q = TK l s):=aE (WS (by rw [QL.out,HL.out]) (fun j hj=>QV.out j (by rw [HL.out] at hj;exact hj)));have V:Hid (nv q = nv l / 2 ^ s):=aE (by rw [E.out];exact JZ hs UL.out);have TL:Hid (dO q≤k):=aE (by rw [← QL.out];exact iC q);have cT:=iQ _ k k q wr (by omega) (HO.out.mag HQ.out);clear kr
   go_wp2_with fail
   refine av cT ?_;rintro _ _ ⟨rfl,rfl⟩
   go_wp2_with fail
   go_ret
   exact ⟨⟨HB.out,_,_,_,fB q,rfl,HO.out.Dw rfl,jw HQ.out,dK _,by rw [dP,V.out]⟩,_,_,_,rfl,TL.out⟩
attribute [local go_sem ↓] cH cJ
theorem YT (h:l.length = k + 2):nv l = nv (l.take k) + 4294967296 ^ k * (l.getD k 0 + 4294967296 * l.getD (k + 1) 0):=by
 have h1:=bC l (k + 1);have h2:=bC l k;rw [bk (by omega)] at h1;rw [h1,h2,cj,aM,bc];omega
theorem QU (h:l.length = k + 1):nv l = nv (l.take k) + 4294967296 ^ k * l.getD k 0:=by
 have h1:=bC l k;rw [bk (by omega)] at h1;exact h1
theorem aec {x y:List Nat} {T:Nat} (hx:x.length = k + 2) (hy:y.length = k + 1) (ux:dY x) (uy:dY y) (ty:jF y) (hT:T = x.getD k 0 + 4294967296 * x.getD (k + 1) 0):nv x / nv y≤T / y.getD k 0:=by
 have hy0:0 < y.getD k 0:=by have:=ty.top (by omega);rw [hy,eo] at this;omega
 have h1:=YT hx;have h2:=QU hy;have h3:=mi (ux.take k);rw [cw,hx,bX (by omega)] at h3;rw [← hT] at h1;have hp:0 < 4294967296 ^ k:=ck (by omega);rw [fR hy0];have hQ:nv x / nv y * nv y≤nv x:=i9 _ _;generalize nv x / nv y = Q at *;have h4:Q * (4294967296 ^ k * y.getD k 0)≤Q * nv y:=bm _ (by omega);have h5:4294967296 ^ k * (Q * y.getD k 0) < 4294967296 ^ k * (T + 1):=by
  rw [dx,aM];omega
 have:=gR h5;omega
def acE (w:World) (n:Nat) (N Y:Nat) (e:Ending) (w':World):Prop :=
 Below w.heap.size w w'∧∃ q:Nat,∃ C k c p,e = .returned (.tuple #[.int .u32 (q:Int),.slice C k c])∧q < 4294967296∧Own w' w.heap.size 76 1 C k c (us p)∧dY p∧jF p∧nv p = q * Y∧q = N / Y∧k≤n + 1
theorem VK (A B:Option Addr) (k c d:Nat) (x y:List Nat) (w:World) (hn:k≤1099511627776) (hx:bf w A (k + 2) c x) (hy:bf w B (k + 1) d y) (ty:jF y) (hlt:nv x < 4294967296 * nv y) :
 Calls aD 231 #[.slice A (k + 2) c,.slice B (k + 1) d] w (acE w (k + 1) (nv x) (nv y)):=by
 have LX:=aE hx.len;have LY:=aE hy.len;have H1:=aE hx;have H2:=aE hy;have TY:=aE ty;have UX:=aE hx.2.2;have UY:=aE hy.2.2;have YP:Hid (0 < nv y):=aE (ty.pos (by rw [LY.out];omega));have QB:Hid (nv x / nv y < 4294967296):=aE (by rw [cQ YP.out];exact hlt);have EG:=aE (aec (k:=k) LX.out LY.out UX.out UY.out TY.out rfl);have TX:=aE (dP x);obtain ⟨ad,rfl,hl1,c1⟩:=hx.1.fG (by omega:k + 1 < k + 2);obtain ⟨ad',e',hl0,c0⟩:=hx.1.fG (by omega:k < k + 2);injection e' with e'
 subst e';obtain ⟨ae,rfl,hl2,c2⟩:=hy.1.fG (by omega:k < k + 1);have c1':w.cell? ⟨ad.block,ad.off + (k + 1),none⟩ = some (.int .u32 ((x.getD (k + 1) 0:Nat):Int)):=by have h9:ad.add (k + 1) = ⟨ad.block,ad.off + (k + 1),none⟩:=(by unfold gL;simp);rw [h9] at c1;exact c1
 have hy0:0 < y.getD k 0:=by have:=ty.top (by rw [LY.out];omega);rw [LY.out,eo] at this;omega
 have b0:=UX.out.at k;have b1:=UX.out.at (k + 1);have b2:=UY.out.at k;clear hx hy ty hlt hl0 hl1 hl2 c1;generalize x.getD k 0 = x0 at *;generalize x.getD (k + 1) 0 = x1 at *;generalize y.getD k 0 = y0 at *;have ho:=or_hi b0 b1;obtain ⟨T,hT⟩:∃ T:Nat,T = x0 + 4294967296 * x1:=⟨_,rfl⟩;rw [← hT] at ho EG;have hTb:T < 18446744073709551616:=by omega
 obtain ⟨q0,hq0⟩:∃ q:Nat,q = T / y0:=⟨_,rfl⟩;have eq0:(T:Int) / (y0:Int) = (q0:Int):=by rw [hq0,eC]
 rw [← hq0] at EG;have hq0b:q0 < 18446744073709551616:=by rw [hq0];exact dt (ef _ _) hTb
 have hk1:((k:Int) + 1 - 1) = (k:Int):=by omega
 have g0:=bZ c0;have g1:=bZ c1';have g2:=bZ c2;clear hT hq0
 go_enter Tryz.func231,Tryz.ntmps231
 go_wp2_with fail
 refine dJ (by kernel_rfl) (by kernel_rfl) ?_
 repeat (go_big_quiet_step (fail))
 refine wpQuiet_nil ?_;intro wq hgq;have HB:=aE hgq;have hzq:=hgq.size;have kq:=bg.of_below hgq (aq _);clear hgq g0 g1 g2 c0 c1' c2
 by_cases hcap:q0 < 4294967296
 ·
  have hd1:¬ (4294967295:Int) < (q0:Int):=by omega
  have MQ:Hid (bf (wq.alloc (.cells #[.int .u32 (q0:Int)] 76)) (some ⟨wq.heap.size,0,none⟩) 1 1 [q0]):=aE ⟨Ht wq 1 1 _ _ rfl,aq _,fun z hz=>by rw [gk.1 hz];omega⟩;have EG2:Hid (nv x / nv y≤q0):=aE (by exact EG.out);have cT:=times_any (some ae) (some ⟨wq.heap.size,0,none⟩) (k + 1) d 1 1 y [q0] (wq.alloc (.cells #[.int .u32 (q0:Int)] 76)) (by omega) (by omega) ((H2.out.keep kq).keep (bg.alloc _ _)) MQ.out;have V1:Hid (nv y * nv [q0] = q0 * nv y):=aE (by simp [nv];exact bp _ _)
  go_wp2_with fail
  refine av cT ?_;rintro _ w2 ⟨⟨hb2,C2,m2,c2,p2,rfl,hm2,hu2,ht2,hv2⟩,C2',m2',c2',he2,hl2⟩;have hm2l:m2≤k + 2:=by injection he2 with he2;injection he2 with h1 h2 h3;omega
  clear he2 hl2;rw [V1.out] at hv2;have HB2:Hid (Below w.heap.size w w2):=aE ((HB.out.alloc hzq _).trans (hb2.mono (by simp;omega)));have M2:=aE (hm2.ru (base':=w.heap.size) (by simp;omega));have U2:=aE hu2;have T2:=aE ht2;have V2:=aE hv2;clear cT hb2 hm2 hu2 ht2 hv2
  go_wp2_with fail
  go_loopg [7,8] q0 (fun g qv pv wr=>∃ (q:Nat) (C:Option Addr) (m c:Nat) (p:List Nat),q = g∧qv = .int .u64 (q:Int)∧pv = .slice C m c∧q < 4294967296∧m≤k + 2∧Own wr w.heap.size 76 1 C m c (us p)∧dY p∧jF p∧nv p = q * nv y∧nv x / nv y≤q∧Below w.heap.size w wr)
  case atStart=>exact ⟨q0,C2,m2,c2,p2,rfl,rfl,rfl,by omega,hm2l,M2.out,U2.out,T2.out,V2.out,EG2.out,HB2.out⟩
  case round =>
   clear M2 U2 T2 V2 HB2 MQ;obtain ⟨q,C,m,c9,p,rfl,rfl,rfl,hq,hmk,hmp,hup,htp,hvp,hge,hb⟩:=hrel;have HBr:=aE hb;have MO:=aE hmp;have MP:=aE (hmp.mag hup);have TP:=aE htp;have VP:=aE hvp;have GE:=aE hge;have hzr:=hb.size;have kr:=bg.of_below hb (aq _);have X1:=H1.out.keep kr;have Y1:=aE (H2.out.keep kr);clear hb hmp hup htp hvp hge kr;have cT:=iQ (some ad) (k + 2) c x wr (by omega) X1;have cC:=lh (some ad) C (dO x) c m c9 (fB x) p wr (by have:=iC x;have:=LX.out;omega) (by omega) X1.trim.1 MP.out.1;have CV:Hid (iO (fB x) p < 0↔nv x < q * nv y):=aE (by rw [← VP.out,← dP x];exact nG X1.trim.2.2 MP.out.2.2 (dK x) TP.out);clear X1;generalize hcv:iO (fB x) p = cv at cC CV;clear hcv
   by_cases hlt:cv < 0
   ·
    have LT:=aE (CV.out.1 hlt);have Q1:Hid (nv x / nv y + 1≤q):=aE (by
     have h1:=(cQ YP.out).2 LT.out;exact h1)
    have hq1:1≤q:=il (kc 1 _) Q1.out;clear CV
    go_wp2_with fail
    refine av cT ?_;rintro _ _ ⟨rfl,rfl⟩
    go_wp2_with fail
    refine av cC ?_;rintro _ w3 ⟨rfl,hb3⟩;have k3:=bg.of_below hb3 (aq _);have HB3:=aE (HBr.out.trans (hb3.mono hzr));have hz3:=HB3.out.size;have cM:=xR C (some ae) m c9 (k + 1) d p y w3 (by omega) (by omega) (MP.out.keep k3) (Y1.out.keep k3) TY.out (by rw [VP.out];exact ir _ hq1);clear cT cC hb3 k3
    go_wp2_with fail
    refine av cM ?_;rintro _ w4 ⟨⟨hb4,C4,m4,c4,p4,rfl,hm4,hu4,ht4,hv4⟩,C4',m4',c4',he4,hl4⟩;have hm4l:m4≤k + 2:=by injection he4 with he4;injection he4 with h1 h2 h3;omega
    clear he4 hl4;have V4:Hid (nv p4 = (q - 1) * nv y):=aE (by rw [hv4,VP.out,iN,Nat.one_mul]);have M4:=aE (hm4.ru (base':=w.heap.size) hz3);have U4:=aE hu4;have T4:=aE ht4;have HB4:=aE (HB3.out.trans (hb4.mono hz3));have G4:Hid (nv x / nv y≤q - 1):=aE (iS Q1.out);clear cM hb4 hm4 hu4 ht4 hv4
    go_wp2_with fail
    go_roundg (q - 1)
    case measure=>omega
    case rel=>exact ⟨q - 1,C4,m4,c4,p4,rfl,by congr 1;omega,rfl,by omega,hm4l,M4.out,U4.out,T4.out,V4.out,G4.out,HB4.out⟩
   ·
    have GT:Hid (q * nv y≤nv x):=aE (by
     rcases aw (nv x) (q * nv y) with h | h
     · exact absurd (CV.out.2 h) hlt
     · exact h)
    have QE:Hid (q = nv x / nv y):=aE (by
     have h1:q≤nv x / nv y:=(fR YP.out).2 GT.out;exact gF h1 GE.out)
    have ML:Hid (m≤k + 1 + 1):=aE hmk;clear CV
    go_wp2_with fail
    refine av cT ?_;rintro _ _ ⟨rfl,rfl⟩
    go_wp2_with fail
    refine av cC ?_;rintro _ w3 ⟨rfl,hb3⟩;have k3:=bg.of_below hb3 (aq _);have HB3:=aE (HBr.out.trans (hb3.mono hzr));have MP3:=aE (MO.out.later hb3);clear cT cC hb3 k3
    go_wp2_with fail
    exact bodyPost_ret (v:=.tuple #[.int .u32 (q:Int),.slice C m c9]) (by simp [results,Tryz.results231,go_sem]) rfl ⟨HB3.out,q,C,m,c9,p,rfl,hq,MP3.out,MP.out.2.2,TP.out,VP.out,QE.out,ML.out⟩
 ·
  have hd1:(4294967295:Int) < (q0:Int):=by omega
  have MQ:Hid (bf (wq.alloc (.cells #[.int .u32 (4294967295:Int)] 76)) (some ⟨wq.heap.size,0,none⟩) 1 1 [4294967295]):=aE ⟨Ht wq 1 1 _ _ rfl,aq _,fun z hz=>by rw [gk.1 hz];omega⟩;have EG2:Hid (nv x / nv y≤4294967295):=aE (by exact Nat.le_of_lt_succ QB.out);have cT:=times_any (some ae) (some ⟨wq.heap.size,0,none⟩) (k + 1) d 1 1 y [4294967295] (wq.alloc (.cells #[.int .u32 (4294967295:Int)] 76)) (by omega) (by omega) ((H2.out.keep kq).keep (bg.alloc _ _)) MQ.out;have V1:Hid (nv y * nv [4294967295] = 4294967295 * nv y):=aE (by simp [nv];exact bp _ _)
  go_wp2_with fail
  refine av cT ?_;rintro _ w2 ⟨⟨hb2,C2,m2,c2,p2,rfl,hm2,hu2,ht2,hv2⟩,C2',m2',c2',he2,hl2⟩;have hm2l:m2≤k + 2:=by injection he2 with he2;injection he2 with h1 h2 h3;omega
  clear he2 hl2;rw [V1.out] at hv2;have HB2:Hid (Below w.heap.size w w2):=aE ((HB.out.alloc hzq _).trans (hb2.mono (by simp;omega)));have M2:=aE (hm2.ru (base':=w.heap.size) (by simp;omega));have U2:=aE hu2;have T2:=aE ht2;have V2:=aE hv2;clear cT hb2 hm2 hu2 ht2 hv2
  go_wp2_with fail
  go_loopg [7,8] 4294967295 (fun g qv pv wr=>∃ (q:Nat) (C:Option Addr) (m c:Nat) (p:List Nat),q = g∧qv = .int .u64 (q:Int)∧pv = .slice C m c∧q < 4294967296∧m≤k + 2∧Own wr w.heap.size 76 1 C m c (us p)∧dY p∧jF p∧nv p = q * nv y∧nv x / nv y≤q∧Below w.heap.size w wr)
  case atStart=>exact ⟨4294967295,C2,m2,c2,p2,rfl,rfl,rfl,by omega,hm2l,M2.out,U2.out,T2.out,V2.out,EG2.out,HB2.out⟩
  case round =>
   clear M2 U2 T2 V2 HB2 MQ;obtain ⟨q,C,m,c9,p,rfl,rfl,rfl,hq,hmk,hmp,hup,htp,hvp,hge,hb⟩:=hrel;have HBr:=aE hb;have MO:=aE hmp;have MP:=aE (hmp.mag hup);have TP:=aE htp;have VP:=aE hvp;have GE:=aE hge;have hzr:=hb.size;have kr:=bg.of_below hb (aq _);have X1:=H1.out.keep kr;have Y1:=aE (H2.out.keep kr);clear hb hmp hup htp hvp hge kr;have cT:=iQ (some ad) (k + 2) c x wr (by omega) X1;have cC:=lh (some ad) C (dO x) c m c9 (fB x) p wr (by have:=iC x;have:=LX.out;omega) (by omega) X1.trim.1 MP.out.1;have CV:Hid (iO (fB x) p < 0↔nv x < q * nv y):=aE (by rw [← VP.out,← dP x];exact nG X1.trim.2.2 MP.out.2.2 (dK x) TP.out);clear X1;generalize hcv:iO (fB x) p = cv at cC CV;clear hcv
   by_cases hlt:cv < 0
   ·
    have LT:=aE (CV.out.1 hlt);have Q1:Hid (nv x / nv y + 1≤q):=aE (by
     have h1:=(cQ YP.out).2 LT.out;exact h1)
    have hq1:1≤q:=il (kc 1 _) Q1.out;clear CV
    go_wp2_with fail
    refine av cT ?_;rintro _ _ ⟨rfl,rfl⟩
    go_wp2_with fail
    refine av cC ?_;rintro _ w3 ⟨rfl,hb3⟩;have k3:=bg.of_below hb3 (aq _);have HB3:=aE (HBr.out.trans (hb3.mono hzr));have hz3:=HB3.out.size;have cM:=xR C (some ae) m c9 (k + 1) d p y w3 (by omega) (by omega) (MP.out.keep k3) (Y1.out.keep k3) TY.out (by rw [VP.out];exact ir _ hq1);clear cT cC hb3 k3
    go_wp2_with fail
    refine av cM ?_;rintro _ w4 ⟨⟨hb4,C4,m4,c4,p4,rfl,hm4,hu4,ht4,hv4⟩,C4',m4',c4',he4,hl4⟩;have hm4l:m4≤k + 2:=by injection he4 with he4;injection he4 with h1 h2 h3;omega
    clear he4 hl4;have V4:Hid (nv p4 = (q - 1) * nv y):=aE (by rw [hv4,VP.out,iN,Nat.one_mul]);have M4:=aE (hm4.ru (base':=w.heap.size) hz3);have U4:=aE hu4;have T4:=aE ht4;have HB4:=aE (HB3.out.trans (hb4.mono hz3));have G4:Hid (nv x / nv y≤q - 1):=aE (iS Q1.out);clear cM hb4 hm4 hu4 ht4 hv4
    go_wp2_with fail
    go_roundg (q - 1)
    case measure=>omega
    case rel=>exact ⟨q - 1,C4,m4,c4,p4,rfl,by congr 1;omega,rfl,by omega,hm4l,M4.out,U4.out,T4.out,V4.out,G4.out,HB4.out⟩
   ·
    have GT:Hid (q * nv y≤nv x):=aE (by
     rcases aw (nv x) (q * nv y) with h | h
     · exact absurd (CV.out.2 h) hlt
     · exact h)
    have QE:Hid (q = nv x / nv y):=aE (by
     have h1:q≤nv x / nv y:=(fR YP.out).2 GT.out;exact gF h1 GE.out)
    have ML:Hid (m≤k + 1 + 1):=aE hmk;clear CV
    go_wp2_with fail
    refine av cT ?_;rintro _ _ ⟨rfl,rfl⟩
    go_wp2_with fail
    refine av cC ?_;rintro _ w3 ⟨rfl,hb3⟩;have k3:=bg.of_below hb3 (aq _);have HB3:=aE (HBr.out.trans (hb3.mono hzr));have MP3:=aE (MO.out.later hb3);clear cT cC hb3 k3
    go_wp2_with fail
    exact bodyPost_ret (v:=.tuple #[.int .u32 (q:Int),.slice C m c9]) (by simp [results,Tryz.results231,go_sem]) rfl ⟨HB3.out,q,C,m,c9,p,rfl,hq,MP3.out,MP.out.2.2,TP.out,VP.out,QE.out,ML.out⟩
theorem aab:∀ {a b:List Nat},(∀ j,a.getD j 0 = b.getD j 0)→nv a = nv b
 | [],b,h=>by rw [zZ (l:=b) (fun j=>by rw [← h j];simp)];rfl
 | x :: a,[],h=>by rw [zZ (l:=x :: a) (fun j=>by rw [h j];simp)];rfl
 | x :: a,y :: b,h=>by
  have h0:=h 0;simp only [db] at h0;rw [nv,nv,h0,aab (a:=a) (b:=b) (fun j=>by have:=h (j + 1);simpa using this)]
theorem sQ {a b:List Nat} (ub:dY b) (ta:jF a) (h:nv a≤nv b):a.length≤b.length:=by
 rcases aw b.length a.length with h1 | h1
 · have:=nY ub ta h1;omega
 · exact h1
theorem GM {a:List Nat} {m:Nat} (ta:jF a) (h:nv a < 4294967296 ^ m):a.length≤m:=by
 rcases aw m a.length with h1 | h1
 · have h2:=ta.low (by omega);have h3:4294967296 ^ m≤4294967296 ^ (a.length - 1):=bR (by omega) (by omega);omega
 · exact h1
theorem LC {b Y:List Nat} {m t:Nat} (hb:b.length = m + 1) (ub:dY b) (h1:2 ^ (t - 1)≤b.getD m 0) (h2:b.getD m 0 < 2 ^ t) (ht:0 < t) (ht2:t≤32) (hs:s = 32 - t) (hv:nv Y = nv b * 2 ^ s) (uY:dY Y) :
 dO Y = m + 1∧2147483648 * 4294967296 ^ m≤nv Y:=by
 have e1:=QU hb;have e2:=mi (ub.take m);rw [cw,hb,bX (by omega)] at e2;have p1:2 ^ t * 2 ^ s = 4294967296:=by rw [← eJ,show t + s = 32 by omega]
 have p2:2 ^ (t - 1) * 2 ^ s = 2147483648:=by rw [← eJ,show t - 1 + s = 31 by omega]
 have hi:nv b < 4294967296 ^ m * 2 ^ t:=by
  have:4294967296 ^ m * (b.getD m 0 + 1)≤4294967296 ^ m * 2 ^ t:=bm _ h2;rw [aM] at this;omega
 have lo:4294967296 ^ m * 2 ^ (t - 1)≤nv b:=by
  have:4294967296 ^ m * 2 ^ (t - 1)≤4294967296 ^ m * b.getD m 0:=bm _ h1;omega
 have hi2:nv Y < 4294967296 ^ (m + 1):=by
  have h9:=eW hi (ck (by omega:0 < 2):0 < 2 ^ s);rw [bc,p1] at h9;rw [hv,cj];exact h9
 have lo2:2147483648 * 4294967296 ^ m≤nv Y:=by
  rw [hv,← p2,bp _ (4294967296 ^ m),← bc];exact f8 _ lo
 refine ⟨?_,lo2⟩;have l1:=GM (a:=fB Y) (m:=m + 1) (dK Y) (by rw [dP];exact hi2);rw [ni] at l1;rcases aw (dO Y) (m + 1) with h | h
 · have h3:=mi (jw uY);rw [dP,ni] at h3;have h4:4294967296 ^ dO Y≤4294967296 ^ m:=bR (by omega) (by omega);have h5:0 < 4294967296 ^ m:=ck (by omega);omega
 · omega
theorem Md {a X y:List Nat} {m:Nat} (hX:nv X = nv a * 2 ^ s) (ua:dY a) (hl:a.length = n) (hXl:X.length = n + 1) (hs:s < 32) (hm:m + 1≤n) (hy:2147483648 * 4294967296 ^ m≤nv y) :
 nv (X.drop (n - (m + 1))) < 4294967296 * nv y:=by
 have h1:=gG X (n - (m + 1)) (by omega);have h2:=mi ua;rw [hl] at h2;have h3:nv X < 4294967296 ^ n * 2 ^ s:=by rw [hX];exact eW h2 (ck (by omega))
 have h4:2 ^ s≤2147483648:=il (bR (by omega) (by omega:s≤31)) (by omega);have h5:4294967296 ^ n = 4294967296 ^ (n - (m + 1)) * 4294967296 ^ (m + 1):=by rw [← eJ];congr 1;omega
 have h6:4294967296 ^ (n - (m + 1)) * nv (X.drop (n - (m + 1))) < 4294967296 ^ (n - (m + 1)) * (4294967296 ^ (m + 1) * 2 ^ s):=by
  rw [← bc,← h5];omega
 have h7:=gR h6;have h8:4294967296 ^ (m + 1) * 2 ^ s≤4294967296 ^ (m + 1) * 2147483648:=bm _ h4;have h9:4294967296 ^ (m + 1) * 2147483648 = 4294967296 * (2147483648 * 4294967296 ^ m):=by rw [cj];omega
 have h10:4294967296 * (2147483648 * 4294967296 ^ m)≤4294967296 * nv y:=bm _ hy;omega
theorem Le {X y:List Nat} {m:Nat} (hy:y.length = m + 1) (uy:dY y) (hlt:nv (X.drop i) < 4294967296 * nv y) (hi:i + (m + 2)≤X.length) :
 nv ((X.drop i).take (m + 2)) = nv (X.drop i)∧∀ j,i + (m + 2)≤j→X.getD j 0 = 0:=by
 have h1:=gG (X.drop i) (m + 2) (by rw [dj];omega);have h2:=mi uy;rw [hy] at h2;have h3:4294967296 * nv y < 4294967296 ^ (m + 2):=by rw [show m + 2 = (m + 1) + 1 by omega,cj];omega
 have h4:nv ((X.drop i).drop (m + 2)) = 0:=by
  rcases cP (nv ((X.drop i).drop (m + 2))) with h | h
  · exact h
  · have:4294967296 ^ (m + 2) * 1≤4294967296 ^ (m + 2) * nv ((X.drop i).drop (m + 2)):=bm _ h;omega
 rw [h4,kv,kx] at h1;refine ⟨h1.symm,fun j hj=>?_⟩;have h5:dO ((X.drop i).drop (m + 2)) = 0:=by
  have:=(dK ((X.drop i).drop (m + 2))).zero (by rw [dP];exact h4);have h6:=ni ((X.drop i).drop (m + 2));rw [this] at h6;exact h6.symm
 have h6:=sJ (l:=(X.drop i).drop (m + 2)) (j:=j - (i + (m + 2))) (by omega);rw [jX,jX] at h6;rw [show i + (m + 2 + (j - (i + (m + 2)))) = j by omega] at h6;exact h6
theorem XP {X X' d y:List Nat} {m:Nat} (h1:∀ j,j < m + 2→X'.getD (i + j) 0 = d.getD j 0) (h2:∀ j,i + (m + 2)≤j→X'.getD j 0 = 0) (hd:d.length≤m + 2):nv (X'.drop i) = nv d :=
 aab fun j=>by
  rw [jX];rcases aw j (m + 2) with h | h
  · exact h1 j h
  · rw [h2 _ (by omega),ao,a8 (by omega)];rfl
theorem Rn {X y:List Nat} (uX:dY X) (hi:i < X.length) (h:nv (X.drop (i + 1)) < nv y):nv (X.drop i) < 4294967296 * nv y:=by
 have hx:=uX.at i;have h3:X.drop i = X.getD i 0 :: X.drop (i + 1):=by
  rw [bw hi,ao,ar hi];rfl
 rw [h3,nv];have:4294967296 * (nv (X.drop (i + 1)) + 1)≤4294967296 * nv y:=bm _ h;omega
theorem VH {N Y q P:Nat} (hY:0 < Y) (hP:P = q * Y) (hq:q = N / Y):P≤N∧N - P < Y:=by
 subst hP hq;have h1:=i9 N Y;have h2:=Nat.lt_div_mul_add hY (a:=N);omega
variable {R:Ending→World→Prop}
theorem PY {P:Program} {ops:Array Oper} {K:Act→World→Prop} {E:Prop} (hw:aL o (yielded ops a.tmps) = true) (f:FuncId) (xs:Array Operand) (ts:Array TypeId) (ho:o.op = .call { callee:=.value (.func f),args:=xs,argTypes:=ts }) (eg:∀ args w,(callFunc f args).run P w = .ok (.enter f args) w) (args:Array Value) (hargs:xs.map a.eval = args) (h:Calls P f args w R) (hR:∀ e w',R e w'→∃ v,e = .returned v) (hK:∀ v w',R (.returned v) w'→K (a.put o.dst v) w') :
 if aL o (yielded ops a.tmps) = true then fI P o a w K Q else E:=by
 rw [if_pos hw];subst hargs;unfold fI;simp [execOp,ho,resolve,gl,invoke,eg,du];refine h.mono ?_;intro e w' hr;obtain ⟨v,rfl⟩:=hR e w' hr;exact hK v w' hr
theorem tJ {P:Program} {ops:Array Oper} {K:Act→World→Prop} {E:Prop} (hgd:o.guard = none) (f:FuncId) (xs:Array Operand) (ts:Array TypeId) (ho:o.op = .call { callee:=.value (.func f),args:=xs,argTypes:=ts }) (eg:∀ args w,(callFunc f args).run P w = .ok (.enter f args) w) (args:Array Value) (hargs:xs.map a.eval = args) (h:Calls P f args w R) (hR:∀ e w',R e w'→∃ v,e = .returned v) (hK:∀ v w',R (.returned v) w'→K (a.put o.dst v) w') :
 if aL o (yielded ops a.tmps) = true then fI P o a w K Q else E :=
 PY (by simp [aL,hgd]) f xs ts ho eg args hargs h hR hK
attribute [local go_sem ↓] cH cJ
def oP (w:World) (n X Y:Nat) (e:Ending) (w':World):Prop :=
 Below w.heap.size w w'∧∃ C1 n1 c1 q C2 n2 c2 r,e = .returned (.tuple #[.slice C1 n1 c1,.slice C2 n2 c2])∧bf w' C1 n1 c1 q∧n1≤n + 2∧bf w' C2 n2 c2 r∧jF r∧nv r = X % Y∧jF q∧nv q = X / Y
theorem YR (w:World):bf w none 0 0 []:=⟨Rd.nil _ _ _,aq _,dY.nil⟩
theorem Vo (A B:Option Addr) (n c m d:Nat) (a b:List Nat) (w:World) (hn:n≤1099511627776) (hm:m≤1099511627776) (ha:bf w A n c a) (hb:bf w B m d b) (ta:jF a) (tb:jF b) (hlt:nv a < nv b) :
 Calls aD 210 #[.slice A n c,.slice B m d] w (oP w n (nv a) (nv b)):=by
 have cC:=lh A B n c m d a b w (by omega) (by omega) ha.1 hb.1;have hc:iO a b < 0:=(nG ha.2.2 hb.2.2 ta tb).2 hlt;have H1:=aE ha;have LT:=aE hlt;have TA:=aE ta;clear ha hb ta tb hlt;generalize iO a b = cv at *
 go_enter Tryz.func210,Tryz.ntmps210
 go_wp2_with fail
 refine av cC ?_;rintro _ w1 ⟨rfl,hb1⟩;have HB:=aE hb1;clear cC hb1
 go_wp2_with fail
 exact bodyPost_ret (v:=.tuple #[.slice none 0 0,.slice A n c]) (by simp [results,Tryz.results210,go_sem]) rfl ⟨HB.out,none,0,0,[],A,n,c,a,rfl,YR _,by omega,H1.out.keep (bg.of_below HB.out (aq _)),TA.out,(j6 LT.out).symm,jF.nil,(fw LT.out).symm⟩
theorem Qc (A B:Option Addr) (n c m d:Nat) (a b:List Nat) (w:World) (hn:n≤2) (hm:m≤1099511627776) (ha:bf w A n c a) (hb:bf w B m d b) (ta:jF a) (tb:jF b) (h0:0 < m) (hge:nv b≤nv a) :
 Calls aD 210 #[.slice A n c,.slice B m d] w (oP w n (nv a) (nv b)):=by
 have cC:=lh A B n c m d a b w (by omega) (by omega) ha.1 hb.1;have hc:¬ iO a b < 0:=fun h=>by have:=(nG ha.2.2 hb.2.2 ta tb).1 h;omega
 have hmn:m≤2:=by have:=sQ ha.2.2 tb hge;rw [hb.len,ha.len] at this;omega
 have hy0:0 < nv b:=tb.pos (by rw [hb.len];exact h0);have hx2:nv a < 18446744073709551616:=by
  have h1:=mi ha.2.2;have h2:4294967296 ^ a.length≤4294967296 ^ 2:=bR (by omega) (by rw [ha.len];exact hn);omega
 have hy2:nv b < 18446744073709551616:=by omega
 have H1:=aE ha;have H2:=aE hb;have EGW:Hid (∀ args w,(callFunc 176 args).run aD w = .ok (.enter 176 args) w):=aE (enters_of Tryz.func176 (by kernel_rfl) rfl);clear ha hb ta tb hge;generalize iO a b = cv at *;have hn2:(n:Int)≤2:=by omega
 have SA:Hid (∀ W,Rd W 1 A n (us a)→Calls aD 227 #[.slice A n c] W fun e w'=>e = .returned (.int .u64 (nv a:Int))∧W = w'):=aE fun W h=>short_any A n c a W hn H1.out.2.2 h
 have SB:Hid (∀ W,Rd W 1 B m (us b)→Calls aD 227 #[.slice B m d] W fun e w'=>e = .returned (.int .u64 (nv b:Int))∧W = w'):=aE fun W h=>short_any B m d b W hmn H2.out.2.2 h
 have QW:Hid (∀ W,Calls aD 176 #[.int .u64 (((nv a / nv b:Nat)):Int)] W (oH W (nv a / nv b))):=aE fun W=>xQ _ W (dt (ef _ _) hx2)
 have RW:Hid (∀ W,Calls aD 176 #[.int .u64 (((nv a % nv b:Nat)):Int)] W (oH W (nv a % nv b))):=aE fun W=>xQ _ W (eT (eh _ hy0) hy2)
 have RL:Hid (nv a % nv b < nv b):=aE (eh _ hy0);have QB:nv a / nv b < 18446744073709551616:=dt (ef _ _) hx2;have RB:nv a % nv b < 18446744073709551616:=eT (eh _ hy0) hy2;have eQ:(nv a:Int) / (nv b:Int) = ((nv a / nv b:Nat):Int):=(eC _ _).symm;have eR:(nv a:Int) % (nv b:Int) = ((nv a % nv b:Nat):Int):=(j7 _ _).symm;generalize hQ:nv a / nv b = Q at *;generalize hR:nv a % nv b = R at *;have HQ:=aE hQ;have HR:=aE hR;clear hQ hR;generalize nv a = X at *;generalize nv b = Y at *
 go_enter Tryz.func210,Tryz.ntmps210
 go_wp2_with fail
 refine av cC ?_;rintro _ w1 ⟨rfl,hb1⟩;have HB:=aE hb1;have k1:=bg.of_below hb1 (aq _);have hz1:=hb1.size;clear cC hb1;have cA:=SA.out w1 (H1.out.1.keep k1);have cB:=SB.out w1 (H2.out.1.keep k1);clear k1
 go_wp2_with fail
 refine av cA ?_;rintro _ _ ⟨rfl,rfl⟩
 go_wp2_with fail
 refine av cB ?_;rintro _ _ ⟨rfl,rfl⟩;clear cA cB SA SB;have hyi:(0:Int) < (Y:Int):=by omega
 have hyn:¬ (Y:Int) = 0:=by omega
 have hxi:(X:Int) < 18446744073709551616:=by omega
 have hyN:¬ Y = 0:=by omega
 have hwq:gT.wrap ((X:Int).tdiv (Y:Int)) = (Q:Int):=by rw [IntWalk.u64_quo _ _ ⟨by omega,by omega,by omega⟩,eQ]
 have hwr:(X:Int).tmod (Y:Int) = (R:Int):=by rw [gO (by omega),eR]
 have hwr2:gT.wrap ((R:Nat):Int) = (R:Int):=jx _ ⟨by omega,by omega⟩;have hwq2:gT.wrap ((Q:Nat):Int) = (Q:Int):=jx _ ⟨by omega,by omega⟩
 go_upto_region 5 with fail
 go_region_law ((first
  | (refine tJ rfl 176 #[.tmp 34] #[147] rfl EGW.out #[.int .u64 (Q:Int)] (by first | (simp [du,ij];done) | fail) (QW.out _) (fun e w' hp=>by obtain ⟨-,C,n,c,ds,he,-⟩:=hp;exact ⟨_,he⟩) ?_;rintro v5 w5 ⟨hb5,C5,n5,c5,q5,he5,hm5,ht5,hv5,hl5⟩;injection he5 with he5;subst he5;have BQ:=aE hb5;have MQ:=aE hm5;have TQ:=aE ht5;have VQ:=aE hv5;clear hb5 hm5 ht5 hv5)
  | (refine tJ rfl 176 #[.tmp 38] #[147] rfl EGW.out #[.int .u64 (R:Int)] (by first | (simp [du,ij];done) | fail) (RW.out _) (fun e w' hp=>by obtain ⟨-,C,n,c,ds,he,-⟩:=hp;exact ⟨_,he⟩) ?_;rintro v6 w6 ⟨hb6,C6,n6,c6,q6,he6,hm6,ht6,hv6,hl6⟩;injection he6 with he6;subst he6;have BR:=aE hb6;have MR:=aE hm6;have TR:=aE ht6;have VR:=aE hv6;clear hb6 hm6 ht6 hv6)
  | fail))
 all_goals
  have hzq:=BQ.out.size;have hzr:=BR.out.size;have hdd:∀ W:World,W.drew.heap.size = W.heap.size:=fun W=>rfl
  simp only [hdd] at hzq hzr
  go_wp2_with fail
  first
  | exact bodyPost_ret (v:=.tuple #[.slice C5 n5 c5,.slice C6 n6 c6]) (by simp [results,Tryz.results210,go_sem]) rfl ⟨by first | exact (HB.out.trans (BQ.out.mono hz1)).trans (BR.out.mono (by omega)) | exact (HB.out.drew.trans (BQ.out.mono hz1)).trans (BR.out.mono (by omega)),C5,n5,c5,q5,C6,n6,c6,q6,rfl,MQ.out.keep (bg.of_below BR.out (aq _)),by omega,MR.out,TR.out,by rw [VR.out];exact HR.out.symm,TQ.out,by rw [VQ.out];exact HQ.out.symm⟩
  | exact bodyPost_ret (v:=.tuple #[.slice C5 n5 c5,.slice C6 n6 c6]) (by simp [results,Tryz.results210,go_sem]) rfl ⟨by first | exact (HB.out.trans (BR.out.mono hz1)).trans (BQ.out.mono (by omega)) | exact (HB.out.drew.trans (BR.out.mono hz1)).trans (BQ.out.mono (by omega)),C5,n5,c5,q5,C6,n6,c6,q6,rfl,MQ.out,by omega,MR.out.keep (bg.of_below BQ.out (aq _)),TR.out,by rw [VR.out];exact HR.out.symm,TQ.out,by rw [VQ.out];exact HQ.out.symm⟩
attribute [local go_sem ↓] cH cJ
theorem QK (A B:Option Addr) (n c d:Nat) (a b:List Nat) (w:World) (hn2:2 < n) (hn:n≤1099511627776) (ha:bf w A n c a) (hb:bf w B 1 d b) (ta:jF a) (tb:jF b) (hge:nv b≤nv a) :
 Calls aD 210 #[.slice A n c,.slice B 1 d] w (oP w n (nv a) (nv b)):=by
 have cC:=lh A B n c 1 d a b w (by omega) (by omega) ha.1 hb.1;have hc:¬ iO a b < 0:=fun h=>by have:=(nG ha.2.2 hb.2.2 ta tb).1 h;omega
 obtain ⟨x,rfl⟩:∃ x,b = [x]:=List.length_eq_one_iff.1 hb.len;have hx0:0 < x:=by have:=tb.pos (by simp);simpa [nv] using this
 have hxb:x < 4294967296:=hb.2.2 x (bq ..);have EV:Hid (nv [x] = x):=aE (by simp [nv]);have H1:=aE ha;have H2:=aE hb;have TA:=aE ta;have BY:Hid (∀ W,bf W A n c a→Calls aD 228 #[.slice A n c,.int .u32 (x:Int)] W (YG W (nv a) x)):=aE fun W h=>aex A n c a x W (by omega) h hx0 hxb
 have QL:Hid (∀ q,dY q→jF q→nv q = nv a / x→q.length≤n):=aE fun q _ tq hq=>by
  have:=sQ ha.2.2 tq (by rw [hq];exact ef _ _);rwa [ha.len] at this
 have RL:Hid (nv a % x < x):=aE (eh _ hx0);have RB:nv a % x < 4294967296:=eT (eh _ hx0) hxb;obtain ⟨ad,rfl,-,c0⟩:=hb.1.fG (by omega:0 < 1);simp only [db] at c0;have h9:ad.add 0 = ad:=by unfold gL;simp
 rw [h9] at c0;clear h9;have hn3:¬ (n:Int)≤2:=by omega
 clear ha hb ta tb hge;generalize iO a [x] = cv at *;have BY2:Hid (∀ W,bf W A n c a→Calls aD 228 #[.slice A n c,.int .u32 (x:Int)] W fun e w'=>Below W.heap.size W w'∧∃ C k c q,e = .returned (.tuple #[.slice C k c,.int .u32 (((nv a % x:Nat)):Int)])∧bf w' C k c q∧k≤n + 2∧jF q∧nv q = nv a / x):=aE fun W h=>(BY.out W h).mono fun e w' ⟨h1,C,k,c,q,h2,h3,h4,h5⟩=>⟨h1,C,k,c,q,h2,h3,by have:=QL.out q h3.2.2 h4 h5;rw [h3.len] at this;omega,h4,h5⟩
 clear BY QL;generalize hR:nv a % x = R at *;have HR:=aE hR;clear hR;have WR:Hid (∀ W,Calls aD 176 #[.int .u64 (R:Int)] W (oH W R)):=aE fun W=>xQ _ W (by omega)
 go_enter Tryz.func210,Tryz.ntmps210
 go_wp2_with fail
 refine av cC ?_;rintro _ w1 ⟨rfl,hb1⟩;have HB:=aE hb1;have k1:=bg.of_below hb1 (aq _);have hz1:=hb1.size;have c1:=k1 _ _ c0;have cB:=BY2.out w1 (H1.out.keep k1);clear cC hb1 k1 c0 BY2
 go_wp2_with fail
 refine av cB ?_;rintro _ w2 ⟨hb2,C2,n2,c2,q2,rfl,hm2,hl2,tq2,vq2⟩;have TQ2:=aE tq2;have VQ2:=aE vq2;clear tq2 vq2;have HB2:=aE (HB.out.trans (hb2.mono hz1));have M2:=aE hm2;have hz2:=HB2.out.size;have cW:=WR.out w2;clear cB hb2 hm2 HB hz1
 go_wp2_with fail
 refine av cW ?_;rintro _ w3 ⟨hb3,C3,n3,c3,q3,rfl,hm3,ht3,hv3,hl3⟩;have HB3:=aE (HB2.out.trans (hb3.mono hz2));have M3:=aE hm3;have T3:=aE ht3;have V3:=aE hv3;have M23:=aE (M2.out.keep (bg.of_below hb3 (aq _)));clear cW hb3 hm3 ht3 hv3
 go_wp2_with fail
 exact bodyPost_ret (v:=.tuple #[.slice C2 n2 c2,.slice C3 n3 c3]) (by simp [results,Tryz.results210,go_sem]) rfl ⟨HB3.out,C2,n2,c2,q2,C3,n3,c3,q3,rfl,M23.out,hl2,M3.out,T3.out,by rw [V3.out,EV.out];exact HR.out.symm,TQ2.out,by rw [EV.out];exact VQ2.out⟩
attribute [local go_sem ↓] cH cJ
theorem Own.part {c g m:Nat} (h:Own w base 76 1 (some ⟨g,0,none⟩) n c (us l)) (hu:dY l) (hi:i + m≤n) (d:Nat) (hd:m≤d):bf w (some ⟨g,i,none⟩) m d ((l.drop i).take m):=by
 have hl:=h.jZ;refine ⟨⟨by rw [rZ,cw,dj];omega,fun h0=>⟨_,rfl,fun j u hu=>?_⟩⟩,hd,(hu.drop _).take _⟩;rw [JQ] at hu;rw [a6] at hu
 split at hu
 · rename_i hj;have e2:(⟨g,i,none⟩:Addr).add j = ⟨g,i + j,none⟩:=by unfold gL;split <;> simp_all
   rw [e2,h.gB (by omega)];have hd:(us (l.drop i))[j]? = some (.int .u32 (((l.drop i).getD j 0:Nat):Int)):=fG _ _ (by rw [dj];omega);rw [hd] at hu;rw [jX] at hu;exact hu
 · cases hu
theorem Io {X X' Q y:List Nat} {j dq N D:Nat} (hl:X.length = n + 1) (hl':X'.length = n + 1) (hj:j≤n) (hlo:∀ i,i < j→X'.getD i 0 = X.getD i 0) (hd:nv (X'.drop j) = D) (hD:D = nv (X.drop j) - dq * nv y) (hle:dq * nv y≤nv (X.drop j)) {Q6:List Nat} (hQ:nv Q6 = nv Q + 4294967296 ^ j * dq) (hN:N = nv Q * nv y + nv X):N = nv Q6 * nv y + nv X':=by
 have e1:=gG X j (by omega);have e2:=gG X' j (by omega);have e3:X'.take j = X.take j:=by
  apply ju;intro i;rw [a6,a6]
  by_cases hi:i < j
  · rw [if_pos hi,if_pos hi];have h1:=hlo i hi;rw [ao,ao,ar (by omega),ar (by omega)] at h1;rw [ar (by omega),ar (by omega)];exact congrArg some h1
  · rw [if_neg hi,if_neg hi]
 have e4:nv (X.drop j) = D + dq * nv y:=by omega
 rw [e3,hd] at e2;rw [hQ,hN,e1,e2,e4,fY,aM,bc];omega
theorem Nz {a Q X:Nat} (h:a * 2 ^ s = Q * (b * 2 ^ s) + X) (hX:X < b * 2 ^ s):Q = a / b∧X / 2 ^ s = a % b:=by
 have hp:0 < 2 ^ s:=ck (by omega);have h1:Q * b≤a:=by
  have:Q * b * 2 ^ s≤a * 2 ^ s:=by rw [h,← bc];omega
  exact Nat.le_of_mul_le_mul_right this hp
 have h2:X = (a - Q * b) * 2 ^ s:=by rw [iN,h,← bc];omega
 have h3:a - Q * b < b:=by
  rw [h2] at hX;exact Nat.lt_of_mul_lt_mul_right hX
 have h4:X / 2 ^ s = a - Q * b:=by rw [h2];exact Nat.mul_div_cancel _ hp
 have h5:=(Nat.div_mod_unique (b:=b) (a:=a) (c:=a - Q * b) (d:=Q) (by omega)).2 ⟨by rw [bp b Q];omega,h3⟩;exact ⟨h5.1.symm,by rw [h4];exact h5.2.symm⟩
theorem Ol (A B:Option Addr) (n c k d:Nat) (a b:List Nat) (w:World) (hn2:2 < n) (hn:n≤1099511627776) (hk:1≤k) (ha:bf w A n c a) (hb:bf w B (k + 1) d b) (ta:jF a) (tb:jF b) (hge:nv b≤nv a) :
 Calls aD 210 #[.slice A n c,.slice B (k + 1) d] w (oP w n (nv a) (nv b)):=by
 have hkn:k + 1≤n:=by have:=sQ ha.2.2 tb hge;rw [hb.len,ha.len] at this;exact this
 have cC:=lh A B n c (k + 1) d a b w (by omega) (by omega) ha.1 hb.1;have hc:¬ iO a b < 0:=fun h=>by have:=(nG ha.2.2 hb.2.2 ta tb).1 h;omega
 have H1:=aE ha;have H2:=aE hb;have TB:=aE tb;have LA:=aE ha.len;have LB:=aE hb.len;have hn3:¬ (n:Int)≤2:=by omega
 have hk1:¬ (k:Int) + 1 = 1:=by omega
 clear ha hb ta tb hge;generalize iO a b = cv at *
 go_enter Tryz.func210,Tryz.ntmps210
 go_wp2_with fail
 refine av cC ?_;rintro _ w1 ⟨rfl,hb1⟩;have HB:=aE hb1;have k1:=bg.of_below hb1 (aq _);have hz1:=hb1.size;have cL:=GG B (k + 1) d b w1 (by omega) (H2.out.keep k1) TB.out (by omega);clear cC hb1
 go_wp2_with fail
 refine av cL ?_;rintro _ _ ⟨t,rfl,ht0,ht32,htl,hth,rfl⟩;obtain ⟨L,hL⟩:∃ L:Nat,L = 32 * (k + 1 - 1) + t:=⟨_,rfl⟩;obtain ⟨s,hs⟩:∃ s:Nat,s = 32 - t:=⟨_,rfl⟩;have hs32:s < 32:=by omega
 have eS:32 * ((k:Int) + 1) - (L:Int) = (s:Int):=by omega
 have TT:Hid (0 < t∧t≤32∧2 ^ (t - 1)≤b.getD k 0∧b.getD k 0 < 2 ^ t∧s = 32 - t):=aE ⟨ht0,ht32,by have:=htl;rwa [eo] at this,by have:=hth;rwa [eo] at this,hs⟩;rw [← hL];have cX:=Dx A n c a s w1 (by omega) hs32 (H1.out.keep k1);clear cL k1 ht0 ht32 htl hth hL hs
 go_wp2_with fail
 refine av cX ?_;rintro _ w2 ⟨hb2,X,rfl,hx2,ux2,lx2,vx2⟩;have HB2:=aE (HB.out.trans (hb2.mono hz1));have OX2:=aE (hx2.ru hz1);have UX2:=aE ux2;have LX2:=aE lx2;have VX2:=aE vx2;have hz2:=HB2.out.size;have hgx:w1.heap.size < w2.heap.size:=(hx2.lt rfl).2;clear cX hb2 hx2 ux2 lx2 vx2;have cY:=Dx B (k + 1) d b s w2 (by omega) hs32 (H2.out.keep (bg.of_below HB2.out (aq _)))
 go_wp2_with fail
 refine av cY ?_;rintro _ w3 ⟨hb3,Yl,rfl,hy3,uy3,ly3,vy3⟩;have HB3:=aE (HB2.out.trans (hb3.mono hz2));have OX3:=aE (OX2.out.later hb3);obtain ⟨NL,NB⟩:=LC LB.out H2.out.2.2 TT.out.2.2.1 TT.out.2.2.2.1 TT.out.1 TT.out.2.1 TT.out.2.2.2.2 vy3 uy3;have OY3:=aE ((hy3.ru hz2).Dw NL);have UY:=aE (jw uy3);have TY:=aE (dK Yl);have LY:Hid ((fB Yl).length = k + 1):=aE (by rw [ni,NL]);have VY:Hid (nv (fB Yl) = nv b * 2 ^ s):=aE (by rw [dP,vy3]);have NB2:Hid (2147483648 * 4294967296 ^ k≤nv (fB Yl)):=aE (by rw [dP];exact NB);have hz3:=HB3.out.size;have hgy:w2.heap.size < w3.heap.size:=(hy3.lt rfl).2;have cT:=iQ _ (k + 1 + 1) (k + 1 + 1) Yl w3 (by omega) (hy3.mag uy3);rw [NL] at cT;clear cY hb3 hy3 uy3 ly3 vy3 NL NB;generalize fB Yl = y at *
 go_wp2_with fail
 refine av cT ?_;rintro _ _ ⟨rfl,rfl⟩;obtain ⟨N,hN⟩:∃ N,N = nv a * 2 ^ s:=⟨_,rfl⟩;have VE0:Hid (N = nv (aR n 0) * nv y + nv X):=aE (by rw [jo,Nat.zero_mul,fL,VX2.out,hN]);have ZQ0:Hid (∀ i,(aR n 0).getD i 0 = 0):=aE fun i=>by rw [ao,dk];split <;> rfl
 have HN:=aE hN;clear hN;have hmk:=run_make_row' (P:=aD) 68 76 (.int .u32 0) 4 Tryz.underlying68 fJ rfl .i64 .i64 n (by omega) (by omega);have OQ0:Hid (Own (w3.alloc (.cells (madeCells #[.int .u32 0] n) 76)) w.heap.size 76 1 (some ⟨w3.heap.size,0,none⟩) n n (us (aR n 0))):=aE (iw rfl n (by unfold maxLen;omega) hz3);have ST:Hid (nv (X.drop (n - (k + 1))) < 4294967296 * nv y):=aE (Md VX2.out H1.out.2.2 LA.out LX2.out hs32 hkn NB2.out);have HB4:Hid (Below w.heap.size w (w3.alloc (.cells (madeCells #[.int .u32 0] n) 76))):=aE (HB3.out.alloc hz3 _);obtain ⟨gX,hgX⟩:∃ g,g = w1.heap.size:=⟨_,rfl⟩;obtain ⟨gY,hgY⟩:∃ g,g = w2.heap.size:=⟨_,rfl⟩;obtain ⟨gQ,hgQ⟩:∃ g,g = w3.heap.size:=⟨_,rfl⟩;have hXY:gX < gY:=by omega
 have hYQ:gY < gQ:=by omega
 clear cT;rw [← hgX] at OX2 OX3 hgx;rw [← hgY] at OY3 hgy;rw [← hgQ] at OQ0;rw [← hgX,← hgY];clear hgx hgy hgX hgY;have HGQ:=aE hgQ;clear hgQ
 go_wp2_with fail
 rw [← HGQ.out];clear HGQ
 go_loopg [14] (n - k) (fun g iv wr=>∃ (X Q:List Nat),dY X∧X.length = n + 1∧dY Q∧Own wr w.heap.size 76 1 (some ⟨gX,0,none⟩) (n + 1) (n + 1) (us X)∧Own wr w.heap.size 76 1 (some ⟨gY,0,none⟩) (k + 1) (k + 1 + 1) (us y)∧Own wr w.heap.size 76 1 (some ⟨gQ,0,none⟩) n n (us Q)∧Below w.heap.size w wr∧N = nv Q * nv y + nv X∧((∃ j:Nat,g = j + 1∧iv = .int .i64 (j:Int)∧j + (k + 1)≤n∧nv (X.drop j) < 4294967296 * nv y∧∀ i,i≤j→Q.getD i 0 = 0)∨(g = 0∧iv = .int .i64 (-1)∧nv X < nv y)))
 case atStart=>exact ⟨X,aR n 0,UX2.out,LX2.out,dY.zero n,OX3.out.alloc _,OY3.out.alloc _,OQ0.out,HB4.out,VE0.out,.inl ⟨n - (k + 1),by omega,by congr 1;omega,by omega,ST.out,fun i _=>ZQ0.out i⟩⟩
 case round =>
  clear VE0 ZQ0 ST HB4 HB3 HB2 OX2 OX3 OY3 OQ0 UX2 LX2 VX2 HB;obtain ⟨X,Q,ux,lx,uq,hox,hoy,hoq,hb,hve,hj⟩:=hrel;have VE:=aE hve;clear hve
  rename World=>wr
  have HB:=aE hb;have OX:=aE hox;have OY:=aE hoy;have OQ:=aE hoq;have UX:=aE ux;have LX:=aE lx;have UQ:=aE uq;have hzr:=hb.size;clear ux lx uq hox hoy hoq hb;rcases hj with ⟨j,rfl,rfl,hjn,hjv,hq0⟩ | ⟨rfl,rfl,hfin⟩
  ·
   have Q0:=aE hq0;clear hq0;obtain ⟨PA,PZ⟩:=Le (m:=k) LY.out UY.out hjv (by rw [LX.out];omega);have PZ:=aE PZ;have MP:=aE (OX.out.part UX.out (i:=j) (m:=k + 2) (by omega) (n + 1 - j) (by omega));have cD:=VK (some ⟨gX,j,none⟩) (some ⟨gY,0,none⟩) k (n + 1 - j) (k + 1 + 1) ((X.drop j).take (k + 2)) y wr (by omega) MP.out (OY.out.mag UY.out) TY.out (by rw [PA];exact hjv);have PA:=aE PA;have hs0:(0:Int)≤(j:Int):=by omega
   have hs1:(j:Int) + ((k:Int) + 1) + 1≤(n:Int) + 1:=by omega
   have hs2:(j:Int)≤(j:Int) + ((k:Int) + 1) + 1:=by omega
   have hs3:((j:Int) + ((k:Int) + 1) + 1).toNat = j + (k + 2):=by omega
   go_wp2_with fail
   refine av cD ?_;rintro _ w5 ⟨hb5,dq,C5,n5,c5,p5,rfl,hdq,ho5,hu5,ht5,hv5,hq5,hl5⟩;have hY0:0 < nv y:=TY.out.pos (by rw [LY.out];omega);obtain ⟨ML1,ML2⟩:=VH hY0 hv5 hq5;have VP5:=aE hv5;have ML1:=aE ML1;have ML2:=aE ML2;have HB5:=aE (HB.out.trans (hb5.mono hzr));have hgx5:gX < wr.heap.size:=(OX.out.lt rfl).2;have hgq5:gQ < wr.heap.size:=(OQ.out.lt rfl).2;have OX5:=aE (OX.out.later hb5);have OY5:=aE (OY.out.later hb5);have OQ5:=aE (OQ.out.later hb5);have OP6:=aE (ho5.setOther' (p:=⟨gQ,j,none⟩) hgq5 (.int .u32 (dq:Int)));have U5:=aE hu5;have T5:=aE ht5;have cq:=OQ5.out.gB (j:=j) (by omega);have fq:w5.frozen? ⟨gQ,j,none⟩ = false:=OQ5.out.frozen j;have hw5:=hb5.size;clear cD hb5 ho5 hu5 ht5 hv5 hq5;have OX6:=aE (OX5.out.kL (p:=⟨gQ,j,none⟩) (.inr (by simp [blk];omega)) (.int .u32 (dq:Int)));have OY6:=aE (OY5.out.kL (p:=⟨gQ,j,none⟩) (.inr (by simp [blk];omega)) (.int .u32 (dq:Int)));have OQ6:=aE (OQ5.out.eH j dq);have UQ6:Hid (dY (Q.set j dq)):=aE (UQ.out.set _ hdq);have HB6:=aE (HB5.out.setCell (p:=⟨gQ,j,none⟩) (by have:=(OQ5.out.lt rfl).1;exact this) (.int .u32 (dq:Int)));have hjn2:(j:Int) < (n:Int):=by omega
   clear OX5 OY5 OQ5 HB5
   go_wp2_with fail
   generalize hW6:w5.setCell ⟨gQ,j,none⟩ (.int .u32 (dq:Int)) = w6 at *;have hs6:w6.heap.size = w5.heap.size:=by rw [← hW6];simp [kb]
   clear hW6 cq fq;have VS6:Hid (nv (Q.set j dq) = nv Q + 4294967296 ^ j * dq):=aE (by
    have h1:=pF (l:=Q) (p:=j) (v:=dq) (by rw [← OQ.out.jZ] at hjn;omega);rw [Q0.out j (aq _)] at h1;omega)
   have ZQ6:Hid (∀ i,i < j→(Q.set j dq).getD i 0 = 0):=aE fun i hi=>by rw [aQ (by omega)];exact Q0.out i (by omega)
   generalize Q.set j dq = Q6 at *;have MP6:=aE (OX6.out.part UX.out (i:=j) (m:=k + 2) (by omega) (n + 1 - j) (by omega));have cT:=iQ _ (k + 2) (n + 1 - j) _ w6 (by omega) MP6.out;have TLp:dO ((X.drop j).take (k + 2))≤k + 2:=by have:=iC ((X.drop j).take (k + 2));rw [MP6.out.len] at this;exact this
   have cM:=xR (some ⟨gX,j,none⟩) C5 (dO ((X.drop j).take (k + 2))) (n + 1 - j) n5 c5 (fB ((X.drop j).take (k + 2))) p5 w6 (by omega) (by omega) MP6.out.trim (OP6.out.mag U5.out) T5.out (by rw [dP];exact ML1.out);rw [dP] at cM;refine av cT ?_;rintro _ _ ⟨rfl,rfl⟩
   go_wp2_with fail
   refine av cM ?_;rintro _ w7 ⟨⟨hb7,C7,n7,c7,dd,rfl,ho7,hu7,ht7,hv7⟩,-⟩;have V7:Hid (nv dd = nv (X.drop j) - dq * nv y):=aE (by rw [hv7,VP5.out,PA.out]);have V8:Hid (dq * nv y≤nv (X.drop j)):=aE (by have:=ML1.out;rw [VP5.out,PA.out] at this;exact this);have DV:Hid (nv dd < nv y):=aE (by rw [hv7];exact ML2.out);have DL:dd.length≤k + 1:=GM ht7 (eT DV.out (by have:=mi UY.out;rwa [LY.out] at this));have hn7:dd.length = n7:=ho7.jZ;have OX7:=aE (OX6.out.later hb7);have OY7:=aE (OY6.out.later hb7);have OQ7:=aE (OQ6.out.later hb7);have HB7:=aE (HB6.out.trans (hb7.mono HB6.out.size));have OD7:=aE ho7;have UD:=aE hu7;have hgx7:gX < w6.heap.size:=by omega
   have DN:=aE hn7;clear cT cM hb7 ho7 hu7 ht7 hv7 OX6 OY6 OQ6 OP6 HB6 MP6 TLp
   go_wp2_with fail
   go_loopg [19] (k + 2) (fun g iv wr=>∃ (r:Nat) (X':List Nat),r≤k + 2∧k + 2 - r≤g∧iv = .int .i64 (r:Int)∧dY X'∧X'.length = n + 1∧(∀ i,i < r→X'.getD (j + i) 0 = dd.getD i 0)∧(∀ i,j + r≤i→X'.getD i 0 = X.getD i 0)∧(∀ i,i < j→X'.getD i 0 = X.getD i 0)∧Own wr w.heap.size 76 1 (some ⟨gX,0,none⟩) (n + 1) (n + 1) (us X')∧Own wr w.heap.size 76 1 (some ⟨gY,0,none⟩) (k + 1) (k + 1 + 1) (us y)∧Own wr w.heap.size 76 1 (some ⟨gQ,0,none⟩) n n (us Q6)∧Own wr w6.heap.size 76 1 C7 n7 c7 (us dd)∧Below w.heap.size w wr)
   case atStart=>exact ⟨0,X,eI _,by omega,rfl,UX.out,LX.out,(fun i h=>by omega),(fun i h=>rfl),(fun i h=>rfl),OX7.out,OY7.out,OQ7.out,OD7.out,HB7.out⟩
   case round =>
    clear OX7 OY7 OQ7 OD7 HB7;obtain ⟨r,X',hr,hg,rfl,ux,lx,hlo,hhi,hll,hox,hoy,hoq,hod,hb⟩:=hrel;have LL:=aE hll;clear hll
    rename World=>wr
    have HB8:=aE hb;have OX8:=aE hox;have OY8:=aE hoy;have OQ8:=aE hoq;have OD8:=aE hod;have UX8:=aE ux;have LX8:=aE lx;have LO:=aE hlo;have HI:=aE hhi;clear ux lx hlo hhi hox hoy hoq hod hb
    by_cases hrk:r < k + 2
    ·
     have cx:=OX8.out.gB (j:=j + r) (by omega);have fx:wr.frozen? ⟨gX,j + r,none⟩ = false:=OX8.out.frozen (j + r);have hrk2:(r:Int) < (k:Int) + 2:=by omega
     have OXa:Hid (Own (wr.setCell ⟨gX,j + r,none⟩ (.int .u32 0)) w.heap.size 76 1 (some ⟨gX,0,none⟩) (n + 1) (n + 1) (us (X'.set (j + r) 0))):=aE (OX8.out.eH (j + r) 0);have OYa:=aE (OY8.out.kL (p:=⟨gX,j + r,none⟩) (.inr (by simp [blk];omega)) (.int .u32 0));have OQa:=aE (OQ8.out.kL (p:=⟨gX,j + r,none⟩) (.inr (by simp [blk];omega)) (.int .u32 0));have ODa:=aE (OD8.out.setOther' (p:=⟨gX,j + r,none⟩) hgx7 (.int .u32 0));have hgb:w.heap.size≤gX:=(OX8.out.lt rfl).1;have HBa:=aE (HB8.out.setCell (p:=⟨gX,j + r,none⟩) hgb (.int .u32 0));have UXa:Hid (dY (X'.set (j + r) 0)):=aE (UX8.out.set _ (by omega));have LXa:Hid ((X'.set (j + r) 0).length = n + 1):=aE (by rw [br];exact LX8.out)
     by_cases hrn:r < n7
     ·
      have hrn2:(r:Int) < (n7:Int):=by omega
      obtain ⟨g7,hC7,-,-⟩:=OD8.out.some_ (by omega);have cd:=(show Own _ _ _ _ (some ⟨g7,0,none⟩) _ _ _ from hC7 ▸ ODa.out).gB (j:=r) hrn;have hdb:=UD.out.at r;have FL:Hid (∀ i,i < r + 1→((X'.set (j + r) 0).set (j + r) (dd.getD r 0)).getD (j + i) 0 = dd.getD i 0):=aE fun i hi=>by
       by_cases e:i = r
       · subst e;rw [iE (by rw [LXa.out];omega)]
       · rw [aQ (by omega),aQ (by omega)];exact LO.out i (by omega)
      have FH:Hid (∀ i,j + (r + 1)≤i→((X'.set (j + r) 0).set (j + r) (dd.getD r 0)).getD i 0 = X.getD i 0):=aE fun i hi=>by
       rw [aQ (by omega),aQ (by omega)];exact HI.out i (by omega)
      have OXb:=aE (OXa.out.eH (j + r) (dd.getD r 0));have UXb:Hid (dY ((X'.set (j + r) 0).set (j + r) (dd.getD r 0))):=aE (UXa.out.set _ hdb);have LXb:Hid (((X'.set (j + r) 0).set (j + r) (dd.getD r 0)).length = n + 1):=aE (by rw [br];exact LXa.out);have cxa:=OXa.out.gB (j:=j + r) (by omega);have fxa:(wr.setCell ⟨gX,j + r,none⟩ (.int .u32 0)).frozen? ⟨gX,j + r,none⟩ = false:=OXa.out.frozen (j + r);generalize dd.getD r 0 = v at *;have OYb:=aE (OYa.out.kL (p:=⟨gX,j + r,none⟩) (.inr (by simp [blk];omega)) (.int .u32 (v:Int)));have OQb:=aE (OQa.out.kL (p:=⟨gX,j + r,none⟩) (.inr (by simp [blk];omega)) (.int .u32 (v:Int)));have ODb:=aE (ODa.out.setOther' (p:=⟨gX,j + r,none⟩) hgx7 (.int .u32 (v:Int)));have HBb:=aE (HBa.out.setCell (p:=⟨gX,j + r,none⟩) hgb (.int .u32 (v:Int)));subst hC7;clear OXa OYa OQa ODa HBa
      go_wp2_with fail
      go_roundg (k + 2 - (r + 1))
      case measure=>omega
      case rel=>exact ⟨r + 1,_,by omega,aq _,by go_num,UXb.out,LXb.out,FL.out,FH.out,(fun i hi=>by rw [aQ (by omega),aQ (by omega)];exact LL.out i hi),OXb.out,OYb.out,OQb.out,ODb.out,HBb.out⟩
     ·
      have hrn2:¬ (r:Int) < (n7:Int):=by omega
      have hd0:dd.getD r 0 = 0:=by rw [ao,a8 (by rw [DN.out];omega)];rfl
      have FL:Hid (∀ i,i < r + 1→(X'.set (j + r) 0).getD (j + i) 0 = dd.getD i 0):=aE fun i hi=>by
       by_cases e:i = r
       · subst e;rw [iE (by rw [LX8.out];omega),hd0]
       · rw [aQ (by omega)];exact LO.out i (by omega)
      have FH:Hid (∀ i,j + (r + 1)≤i→(X'.set (j + r) 0).getD i 0 = X.getD i 0):=aE fun i hi=>by
       rw [aQ (by omega)];exact HI.out i (by omega)
      clear hd0
      go_wp2_with fail
      go_roundg (k + 2 - (r + 1))
      case measure=>omega
      case rel=>exact ⟨r + 1,_,by omega,aq _,by go_num,UXa.out,LXa.out,FL.out,FH.out,(fun i hi=>by rw [aQ (by omega)];exact LL.out i hi),OXa.out,OYa.out,OQa.out,ODa.out,HBa.out⟩
    ·
     obtain rfl:r = k + 2:=by omega
     have PP:=XP (d:=dd) (y:=y) (X:=X) (fun i hi=>LO.out i hi) (fun i hi=>by rw [HI.out i hi];exact PZ.out i hi) (by omega);have NV:nv (X'.drop j) < nv y:=by rw [PP];exact DV.out
     have VE6:Hid (N = nv Q6 * nv y + nv X'):=aE (Io LX.out LX8.out (by omega) LL.out PP V7.out V8.out VS6.out VE.out);clear PP;have NV:=aE NV;have NR:Hid (∀ j',j = j' + 1→nv (X'.drop j') < 4294967296 * nv y):=aE fun j' e=>Rn UX8.out (by rw [LX8.out];omega) (by rw [← e];exact NV.out)
     by_cases hj0:j = 0
     · subst hj0;have NZ:Hid (nv X' < nv y):=aE (by have:=NV.out;rwa [ew] at this)
       go_wp2_with fail
       go_roundg 0
       case measure=>omega
       case rel=>exact ⟨X',Q6,UX8.out,LX8.out,UQ6.out,OX8.out,OY8.out,OQ8.out,HB8.out,VE6.out,.inr ⟨rfl,rfl,NZ.out⟩⟩
     · have NJ:=aE (NR.out (j - 1) (by omega))
       go_wp2_with fail
       go_roundg j
       case measure=>omega
       case rel=>exact ⟨X',Q6,UX8.out,LX8.out,UQ6.out,OX8.out,OY8.out,OQ8.out,HB8.out,VE6.out,.inl ⟨j - 1,by omega,by congr 1;omega,by omega,NJ.out,fun i hi=>ZQ6.out i (by omega)⟩⟩
  ·
   have cT:=iQ _ n n Q wr (by omega) (OQ.out.mag UQ.out);have cX:=iQ _ (n + 1) (n + 1) X wr (by omega) (OX.out.mag UX.out);have TQ:Hid (dO Q≤n + 2):=aE (by have:=iC Q;rw [OQ.out.jZ] at this;omega);have tlx:dO X≤n + 1:=by have:=iC X;rwa [LX.out] at this
   have MX:=aE (OX.out.mag UX.out).trim;have cK:=ZT (some ⟨gX,0,none⟩) (dO X) (n + 1) (fB X) s wr (by omega) hs32 MX.out;have EN:=Nz (a:=nv a) (b:=nv b) (Q:=nv Q) (X:=nv X) (s:=s) (by rw [← HN.out,VE.out,VY.out]) (by rw [← VY.out];exact hfin);have BL:Hid (nv (fB X) / 2 ^ s = nv a % nv b):=aE (by rw [dP];exact EN.2);have QL:Hid (nv (fB Q) = nv a / nv b):=aE (by rw [dP];exact EN.1);clear EN;clear hfin;generalize dO X = tX at *
   go_wp2_with fail
   refine av cT ?_;rintro _ _ ⟨rfl,rfl⟩
   go_wp2_with fail
   refine av cX ?_;rintro _ _ ⟨rfl,rfl⟩
   go_wp2_with fail
   refine av cK ?_;rintro _ w5 ⟨⟨hb5,C5,n5,c5,r5,rfl,ho5,hu5,ht5,hv5⟩,-⟩;have hm5:=ho5.mag hu5;have HB5:=aE (HB.out.trans (hb5.mono hzr));have MQ:=aE ((OQ.out.mag UQ.out).trim.keep (bg.of_below hb5 (aq _)));have M5:=aE hm5;have T5:=aE ht5;have V5:=aE hv5;clear cT cX cK hb5 ho5 hu5 hm5 ht5 hv5
   go_wp2_with fail
   exact bodyPost_ret (v:=.tuple #[.slice (some ⟨gQ,0,none⟩) (dO Q) n,.slice C5 n5 c5]) (by simp [results,Tryz.results210,go_sem]) rfl ⟨HB5.out,_,_,_,fB Q,C5,n5,c5,r5,rfl,MQ.out,TQ.out,M5.out,T5.out,by rw [V5.out];exact BL.out,dK _,QL.out⟩
attribute [local go_sem ↓] cH cJ
theorem Qo (A B:Option Addr) (n c m d:Nat) (a b:List Nat) (w:World) (hn:n≤1099511627776) (hm:m≤1099511627776) (h0:0 < m) (ha:bf w A n c a) (hb:bf w B m d b) (ta:jF a) (tb:jF b) :
 Calls aD 210 #[.slice A n c,.slice B m d] w (oP w n (nv a) (nv b)):=by
 rcases aw (nv a) (nv b) with h | h
 · exact Vo A B n c m d a b w hn hm ha hb ta tb h
 ·
  by_cases h2:n≤2
  · exact Qc A B n c m d a b w h2 hm ha hb ta tb h0 h
  · by_cases h1:m = 1
    · subst h1;exact QK A B n c d a b w (by omega) hn ha hb ta tb h
    · obtain ⟨k,rfl⟩:∃ k,m = k + 1:=⟨m - 1,by omega⟩;exact Ol A B n c k d a b w (by omega) hn (by omega) ha hb ta tb h
theorem afp (A:Option Addr) (n c:Nat) (l:List Nat) (w:World) (hn:n≤4398046511104) (h:bf w A n c l) :
 Calls aD 209 #[.slice A n c] w fun e w'=>e = .returned (.slice A (dO l) c)∧Below w.heap.size w w' :=
 (iQ A n c l w hn h).mono fun e w' hh=>⟨hh.1,by rw [← hh.2];exact Below.refl _ _⟩
theorem dE.alloc {W:World} {b:Nat} {cs:Array Value} {t:TypeId} (h:dE W b cs t) (o:Obj):dE (W.alloc o) b cs t :=
 h.below (B:=W.heap.size) ((Below.refl _ _).alloc (aq _) _) h.lt
def kE (w w':World):Prop:=∀ p i,w.cell? p = some (.int .u32 i)→w'.cell? p = some (.int .u32 i)
theorem kE.refl (w:World):kE w w:=fun _ _ h=>h
theorem kE.trans {a b c:World} (h:kE a b) (k:kE b c):kE a c:=fun p i x=>k p i (h p i x)
theorem bg.u (h:bg w w'):kE w w':=fun p i x=>h p _ x
theorem kE.of {B:Nat} (h:Below B w w') (hB:w.heap.size≤B):kE w w':=(bg.of_below h hB).u
theorem kE.alloc {a w:World} (h:kE a w) (o:Obj):kE a (w.alloc o):=h.trans (bg.alloc _ _).u
theorem kE.drew {a:World} (h:kE a w):kE a w.drew:=h
theorem kE.set {a:World} (h:kE a w) {p:Addr} {x:Value} (hp:w.cell? p = some x) (hx:∀ i,x≠.int .u32 i) (u:Value):kE a (w.setCell p u):=fun q i hq=>by
 have h1:=h q i hq;rw [d9 _ _ _ _ ?_]
 · exact h1
 · intro e;rw [← e,hp] at h1;injection h1 with h1;exact hx i h1
theorem bf.u {c:Nat} (h:bf w A n c l) (k:kE w w'):bf w' A n c l:=by
 obtain ⟨⟨h1,h2⟩,h3,h4⟩:=h;refine ⟨⟨h1,fun h0=>?_⟩,h3,h4⟩;obtain ⟨ad,e,hc⟩:=h2 h0;refine ⟨ad,e,fun j x hx=>?_⟩;have h5:=hc j x hx;have hj:j < l.length:=by
  rcases aw j l.length with h | h
  · exact h
  · rw [a8 (by rw [rZ];exact h)] at hx;cases hx
 rw [fG l j hj] at hx;injection hx with hx
 rw [← hx] at h5 ⊢;exact k _ _ h5
def wl (x:Nat):Nat:=if x = 0 then 0 else x.log2 / 32 + 1
theorem jQ {x:Nat}:wl x≤k↔x < 4294967296 ^ k:=by
 unfold wl;have e:(4294967296:Nat) ^ k = 2 ^ (32 * k):=by rw [Nat.pow_mul]
 by_cases h:x = 0
 · subst h;simp [ck]
 · rw [if_neg h,e,← Nat.log2_lt h];omega
theorem Xv (h:jF l) (u:dY l):l.length = wl (nv l):=by
 apply gF
 ·
  rcases cP l.length with h0 | h0
  · omega
  · have h1:=h.low h0;rcases aw (wl (nv l)) l.length with h2 | h2
    · have h3:wl (nv l)≤l.length - 1:=by omega
      have:=jQ.1 h3;omega
    · exact h2
 · exact jQ.2 (mi u)
theorem iF {x y:Nat} (h:x≤y):wl x≤wl y:=jQ.2 (dt h (jQ.1 (aq _)))
theorem Kt (x y:Nat):wl (x * y)≤wl x + wl y:=jQ.2 (by
 rw [eJ];exact Nat.mul_lt_mul'' (jQ.1 (aq _)) (jQ.1 (aq _)))
theorem Ju (x y:Nat):wl (x + y)≤max (wl x) (wl y) + 1:=jQ.2 (by
 have h1:x < 4294967296 ^ max (wl x) (wl y):=jQ.1 (Nat.le_max_left _ _);have h2:y < 4294967296 ^ max (wl x) (wl y):=jQ.1 (Nat.le_max_right _ _);rw [cj];omega)
theorem TJ:wl 0 = 0:=rfl
theorem wH {x:Nat} (h:x < 18446744073709551616):wl x≤2:=jQ.2 (by omega)
def MV (w:World) (v:Value) (x:Nat):Prop:=∃ A n c l,v = .slice A n c∧bf w A n c l∧jF l∧nv l = x
def IV (w:World) (v:Value) (z:Int):Prop:=∃ A n c l,v = .agg #[.bool (decide (z < 0)),.slice A n c]∧bf w A n c l∧jF l∧nv l = z.natAbs
def RV (w:World) (v:Value) (q:Rat):Prop:=∃ A n c a B m d b,v = .agg #[.bool (decide (q.num < 0)),.slice A n c,.bool false,.slice B m d]∧bf w A n c a∧jF a∧nv a = q.num.natAbs∧bf w B m d b∧jF b∧nv b = q.den
theorem MV.u {w w':World} {v:Value} {x:Nat} (h:MV w v x) (k:kE w w'):MV w' v x:=by
 obtain ⟨A,n,c,l,h1,h2,h3⟩:=h;exact ⟨A,n,c,l,h1,h2.u k,h3⟩
theorem IV.u {w w':World} {v:Value} {z:Int} (h:IV w v z) (k:kE w w'):IV w' v z:=by
 obtain ⟨A,n,c,l,h1,h2,h3⟩:=h;exact ⟨A,n,c,l,h1,h2.u k,h3⟩
theorem RV.u {w w':World} {v:Value} {q:Rat} (h:RV w v q) (k:kE w w'):RV w' v q:=by
 obtain ⟨A,n,c,a,B,m,d,b,h1,h2,h3,h4,h5,h6⟩:=h;exact ⟨A,n,c,a,B,m,d,b,h1,h2.u k,h3,h4,h5.u k,h6⟩
theorem jF.lY {c:Nat} (t:jF l) (h:bf w A n c l):n = wl (nv l):=by rw [← h.len];exact Xv t h.2.2
theorem jF.tl {c:Nat} (t:jF l) (h:bf w A n c l):dO l = n:=t.trans h.len
variable {z:Int}
theorem IV.num (h:IV w v z):∃ A n c l,v = .agg #[.bool (decide (z < 0)),.slice A n c]∧bf w A n c l∧jF l∧nv l = z.natAbs∧n = wl z.natAbs:=by
 obtain ⟨A,n,c,l,h1,h2,h3,h4⟩:=h;exact ⟨A,n,c,l,h1,h2,h3,h4,by rw [← h4];exact h3.lY h2⟩
theorem RV.num {q:Rat} (h:RV w v q):∃ A n c a B m d b,v = .agg #[.bool (decide (q.num < 0)),.slice A n c,.bool false,.slice B m d]∧bf w A n c a∧jF a∧nv a = q.num.natAbs∧bf w B m d b∧jF b∧nv b = q.den∧n = wl q.num.natAbs∧m = wl q.den ∧
 IV w (.agg #[.bool (decide (q.num < 0)),.slice A n c]) q.num∧IV w (.agg #[.bool false,.slice B m d]) (q.den:Int):=by
 obtain ⟨A,n,c,a,B,m,d,b,h1,h2,h3,h4,h5,h6,h7⟩:=h;exact ⟨A,n,c,a,B,m,d,b,h1,h2,h3,h4,h5,h6,h7,by rw [← h4];exact h3.lY h2,by rw [← h7];exact h6.lY h5,⟨A,n,c,a,rfl,h2,h3,h4⟩,⟨B,m,d,b,by simp,h5,h6,by simpa using h7⟩⟩
def Gp (w:World) (R:World→Value→Prop) (e:Ending) (w':World):Prop:=Below w.heap.size w w'∧∃ v,e = .returned v∧R w' v
theorem dE.abT {j:Nat} {cs:Array Value} {t:TypeId} (h:dE W b cs t) (u:Value):dE (W.setCell ⟨b,j,none⟩ u) b (cs.setIfInBounds j u) t:=by
 unfold dE at h ⊢;have hlt:b < W.heap.size:=dE.lt h;simp [kb,Array.getElem?_modify,h,onCells]
theorem dE.setOther {cs:Array Value} {t:TypeId} (h:dE W b cs t) {p:Addr} (hp:b≠p.block) (u:Value):dE (W.setCell p u) b cs t:=by
 unfold dE at h ⊢;rw [Below.heap_setCell _ _ _ _ hp];exact h
def FR (w W:World) (cs:List (Array Value × TypeId)):Prop:=(∀ i x t,cs[i]? = some (x,t)→W.heap[w.heap.size + i]? = some (.cells x t (0,0)))∧Below w.heap.size w W∧w.heap.size + cs.length≤W.heap.size
section
variable {W':World} {cs:List (Array Value × TypeId)}
theorem FR.nil (w:World):FR w w []:=⟨fun i x t h=>by simp at h,Below.refl _ _,by simp⟩
theorem FR.push (h:FR w W cs) (hs:W.heap.size = w.heap.size + cs.length) (x:Array Value) (t:TypeId):FR w (W.alloc (.cells x t)) (cs ++ [(x,t)]):=by
 obtain ⟨h1,h2,h3⟩:=h;refine ⟨fun i y s hi=>?_,h2.alloc (by omega) _,by simp;omega⟩;rcases aw i cs.length with hl | hl
 · rw [fg hl] at hi;rw [Below.heap_alloc _ _ _ (by omega)];exact h1 i y s hi
 ·
  rw [e8 hl] at hi;have:i = cs.length:=by
   rcases aw (i - cs.length) 1 with h | h
   · omega
   · rw [a8 (by simpa using h)] at hi;cases hi
  subst this;simp at hi;obtain ⟨rfl,rfl⟩:=hi;rw [← hs];exact heap_alloc_new W _
theorem FR.next (h:FR w W cs) (hb:Below W.heap.size W W'):FR w W' cs:=by
 obtain ⟨h1,h2,h3⟩:=h;refine ⟨fun i x t hi=>?_,h2.trans (hb.mono (by omega)),by have:=hb.size;omega⟩;have hl:i < cs.length:=(bh.1 hi).1;rw [hb.block _ (by omega)];exact h1 i x t hi
theorem FR.below (h:FR w W cs):Below w.heap.size w W:=h.2.1
theorem FR.size (h:FR w W cs):w.heap.size + cs.length≤W.heap.size:=h.2.2
theorem FR.x (h:FR w W cs) (i:Nat) {x:Array Value} {t:TypeId} (hi:cs[i]? = some (x,t)) {b:Nat} (hb:b = w.heap.size + i):(∀ j,W.cell? ⟨b,j,none⟩ = x[j]?)∧∀ j,W.frozen? ⟨b,j,none⟩ = false:=by
 subst hb;have h1:dE W (w.heap.size + i) x t:=h.1 i x t hi;exact ⟨h1.cell,h1.frozen⟩
theorem FR.put (h:FR w W cs) (i:Nat) {x:Array Value} {t:TypeId} (hi:cs[i]? = some (x,t)) (j:Nat) (u:Value) (hb:b = w.heap.size + i):FR w (W.setCell ⟨b,j,none⟩ u) (cs.set i (x.setIfInBounds j u,t)):=by
 subst hb;obtain ⟨h1,h2,h3⟩:=h;have hl:i < cs.length:=(bh.1 hi).1;refine ⟨fun k y s hk=>?_,h2.setCell (by simp) _,by simpa using h3⟩
 by_cases e:i = k
 · subst e;rw [ic hl] at hk;injection hk with hk
   injection hk with hk1 hk2
   subst hk1 hk2;exact dE.abT (h1 i x t hi) u
 · rw [fW e] at hk;exact dE.setOther (show dE W _ y s from h1 k y s hk) (by simp;omega) u
theorem FR.other (h:FR w W cs) {p:Addr} (hp:w.heap.size + cs.length≤p.block) (u:Value):FR w (W.setCell p u) cs:=by
 obtain ⟨h1,h2,h3⟩:=h;refine ⟨fun k y s hk=>?_,h2.setCell (by omega) _,by simpa using h3⟩;have hl:k < cs.length:=(bh.1 hk).1;exact dE.setOther (show dE W _ y s from h1 k y s hk) (by omega) u
theorem FR.ku (h:FR w W cs) (i:Nat) {x:Array Value} {t:TypeId} (hi:cs[i]? = some (x,t)) (j:Nat) {y:Value} (hy:x[j]? = some y) (hu:∀ k,y≠.int .u32 k) (u:Value) (hb:b = w.heap.size + i):kE W (W.setCell ⟨b,j,none⟩ u) :=
 (kE.refl W).set (x:=y) (by rw [(h.x i hi hb).1,hy]) hu u
end
theorem fr1 (w:World) (x:Array Value) (t:TypeId) (hW:W = w.alloc (.cells x t)):FR w W [(x,t)]∧kE w W∧bg w W:=by
 subst hW;exact ⟨(FR.nil w).push (by simp) x t,(kE.refl _).alloc _,bg.alloc _ _⟩
theorem fr2 (w:World) (x y:Array Value) (t s:TypeId) (hW:W = (w.alloc (.cells x t)).alloc (.cells y s)):FR w W [(x,t),(y,s)]∧kE w W∧bg w W:=by
 subst hW;exact ⟨(((FR.nil w).push (by simp) x t)).push (by simp) y s,((kE.refl _).alloc _).alloc _,(bg.alloc _ _).trans (bg.alloc _ _)⟩
def St (R:Value→World→Prop):Prop:=∀ v w w',Below w.heap.size w w'→R v w→R v w'
theorem St.mv (x:Nat):St fun v w=>MV w v x:=fun v w w' hb h=>h.u (kE.of hb (aq _))
theorem St.iv (x:Int):St fun v w=>IV w v x:=fun v w w' hb h=>h.u (kE.of hb (aq _))
theorem St.rv (x:Rat):St fun v w=>RV w v x:=fun v w w' hb h=>h.u (kE.of hb (aq _))
theorem St.eq (x:Value):St fun v _=>v = x:=fun v w w' hb h=>h
def WG:List (Nat × List Nat × (Value→World→Prop))→Prop
 | []=>True
 | x :: l=>St x.2.2∧WG l
def look (L:List (Nat × List Nat × (Value→World→Prop))) (d:Nat):Value→World→Prop :=
 match L with
 | []=>fun _ _=>False
 | x :: l=>if x.1 = d then x.2.2 else look l d
theorem Tc:∀ {L:List (Nat × List Nat × (Value→World→Prop))},WG L→∀ d v w w',Below w.heap.size w w'→look L d v w→look L d v w'
 | [],_,_,_,_,_,_,h=>h
 | x :: l,hs,d,v,w,w',hb,h=>by
  unfold look at h ⊢
  split
  · rename_i e;rw [if_pos e] at h;exact hs.1 v w w' hb h
  · rename_i e;rw [if_neg e] at h;exact Tc hs.2 d v w w' hb h
def deps (L:List (Nat × List Nat × (Value→World→Prop))):List (Nat × List Nat):=L.map fun x=>(x.1,x.2.1)
theorem ag0 {P:Program} {id:Nat} {l:List Oper} (n m:Nat) (L:List (Nat × List Nat × (Value→World→Prop))) (hE:WG L) (hm:P.follows .mixedOrders = true) (hsz:a.tmps.size = m) (hB:afU l (deps L) n m = true) (h:OZ P l.toArray (fun w'=>∃ p:Regrown,w' = grow (redrawn w p.d) p.os) (look L) (deps L) (fun a'=>∀ w',Below w.heap.size w w'→(∀ x∈deps L,look L x.1 (a'.eval (.tmp x.1)) w')→wpList P l.toArray Q (l.drop n) a' w') (l.take n) a):(gx id l.toArray true).wp P Q a w :=
 MZ n m (deps L) (look L) (Tc hE) hm hsz hB h
section
variable {P:Program} {ops:Array Oper} {C:World→Prop} {E:Nat→Value→World→Prop} {D:List (Nat × List Nat)} {Q:Act→Prop}
theorem nZ:∀ (k:Nat) {l:List Oper} {a:Act},((l.take k).all fun o=>(opn D o).isNone) = true→wpQuiet P ops C (fun a'=>OZ P ops C E D Q (l.drop k) a') (l.take k) a→OZ P ops C E D Q l a
 | 0,l,a,_,h=>by simpa [wpQuiet] using h
 | k + 1,[],a,_,h=>by simpa [wpQuiet] using h
 | k + 1,o :: l,a,hk,h=>by
  simp only [iX,List.all_cons,bL,Option.isNone_iff_eq_none] at hk;simp only [iX,List.drop_succ_cons] at h;unfold wpQuiet at h;unfold OZ;rw [hk.1];simp only
  split
  · rename_i hw;rw [if_pos hw] at h;exact j5 (fun a' h'=>nZ k hk.2 h') h
  · rename_i hw;rw [if_neg hw] at h;exact nZ k hk.2 h
theorem abf (h:Q a):OZ P ops C E D Q [] a:=h
theorem zJ {rest:List Oper} (d:Nat) (ds:List Nat) (ho:opn D o = some (d,ds)) (hgd:o.guard = none) (f:FuncId) (xs:Array Operand) (ts:Array TypeId) (hop:o.op = .call { callee:=.value (.func f),args:=xs,argTypes:=ts }) (eg:∀ args w,(callFunc f args).run P w = .ok (.enter f args) w) (args:Array Value) (hargs:xs.map a.eval = args) (h:∀ w,C w→(∀ x∈ds,E x (a.eval (.tmp x)) w)→Calls P f args w (Gp w fun w' v=>E d v w')) (hK:∀ v,OZ P ops C E D Q rest (a.put o.dst v)):OZ P ops C E D Q (o :: rest) a:=by
 unfold OZ;rw [ho];refine ⟨by simp [aL,hgd],fun w hC hE=>?_,hK⟩;subst hargs;simp [execOp,hop,resolve,gl,invoke,eg,du,wO];refine (h w hC hE).mono ?_;rintro e w' ⟨hb,v,rfl,hv⟩;exact ⟨v,rfl,hb,hv⟩
end
abbrev XS:=Nat→Nat→Prop
inductive D where
 | val (v:Value)
 | mag (x:Nat)
 | list (k:Nat) (l:List D)
 | agg (l:List D)
mutual
def D.width:D→Nat
 | .val _=>1
 | .mag _=>1
 | .list _ _=>1
 | .agg l=>D.widths l
def D.widths:List D→Nat
 | []=>0
 | d :: l=>d.width + D.widths l
end
def D.isAgg:D→Bool
 | .agg _=>true
 | _=>false
def D.mk (d:D) (cs:List Value):Value:=if d.isAgg then .agg cs.toArray else cs.headD undef
def At (X:XS) (W:World) (b o:Nat) (es:List Value):Prop:=∀ j v,es[j]? = some v→¬ X b (o + j)∧W.cell? ⟨b,o + j,none⟩ = some v
mutual
def aU (kw:Bool) (X:XS) (W:World):D→List Value→Prop
 | .val v,cs=>cs = [v]∧v.oneCell' = true
 | .mag x,cs=>kw = true∧∃ v,cs = [v]∧MV W v x
 | .list k l,cs=>∃ A c,cs = [.slice A l.length c]∧l.length≤c∧(∀ d∈l,d.width = k)∧(l≠[]→∃ b o es,A = some ⟨b,o,none⟩∧es.length = l.length * k∧At X W b o es∧aF kw X W l es)
 | .agg l,cs=>aF kw X W l cs
def aF (kw:Bool) (X:XS) (W:World):List D→List Value→Prop
 | [],cs=>cs = []
 | d :: l,cs=>∃ c1 c2,cs = c1 ++ c2∧aU kw X W d c1∧aF kw X W l c2
end
def Rep (kw:Bool) (X:XS) (W:World) (v:Value) (d:D):Prop:=∃ cs,aU kw X W d cs∧v = d.mk cs
structure Tr (kw:Bool) (X X':XS) (W W':World):Prop where
 ku:kw = true→kE W W'
 keep:∀ b o v,¬ X b o→W.cell? ⟨b,o,none⟩ = some v→¬ X' b o∧W'.cell? ⟨b,o,none⟩ = some v
section
variable {kw:Bool} {X X' X'':XS} {W' W'':World}
theorem Tr.trans (h:Tr kw X X' W W') (k:Tr kw X' X'' W' W''):Tr kw X X'' W W'' :=
 ⟨fun e=>(h.ku e).trans (k.ku e),fun b o v hx hc=>let ⟨h1,h2⟩:=h.keep b o v hx hc;k.keep b o v h1 h2⟩
theorem Tr.refl:Tr kw X X W W:=⟨fun _=>kE.refl _,fun _ _ _ h c=>⟨h,c⟩⟩
theorem Tr.of_below (h:Below W.heap.size W W'):Tr kw X X W W':=⟨fun _=>kE.of h (aq _),fun b o v hx hc=>⟨hx,by rw [h.cell (dc W _ hc)];exact hc⟩⟩
theorem Tr.chg (h:∀ b o,b < W.heap.size→X' b o→X b o):Tr kw X X' W W:=⟨fun _=>kE.refl _,fun b o v hx hc=>⟨fun h'=>hx (h b o (dc W _ hc) h'),hc⟩⟩
theorem At.tr (t:Tr kw X X' W W') {o:Nat} {es:List Value} (h:At X W b o es):At X' W' b o es:=fun j v hj=>let ⟨h1,h2⟩:=h j v hj;t.keep b (o + j) v h1 h2
mutual
theorem aU.tr (t:Tr kw X X' W W'):∀ (d:D) (cs:List Value),aU kw X W d cs→aU kw X' W' d cs
 | .val v,cs,h=>by unfold aU at h ⊢;exact h
 | .mag x,cs,h=>by
  unfold aU at h ⊢;obtain ⟨e,v,h1,h2⟩:=h;exact ⟨e,v,h1,h2.u (t.ku e)⟩
 | .list k l,cs,h=>by
  unfold aU at h ⊢;obtain ⟨A,c,h1,h2,h3,h4⟩:=h;refine ⟨A,c,h1,h2,h3,fun hl=>?_⟩;obtain ⟨b,o,es,e1,e2,e3,e4⟩:=h4 hl;exact ⟨b,o,es,e1,e2,e3.tr t,aF.tr t l es e4⟩
 | .agg l,cs,h=>by
  unfold aU at h ⊢;exact aF.tr t l cs h
theorem aF.tr (t:Tr kw X X' W W'):∀ (l:List D) (cs:List Value),aF kw X W l cs→aF kw X' W' l cs
 | [],cs,h=>by unfold aF at h ⊢;exact h
 | d :: l,cs,h=>by
  unfold aF at h ⊢;obtain ⟨c1,c2,h1,h2,h3⟩:=h;exact ⟨c1,c2,h1,aU.tr t d c1 h2,aF.tr t l c2 h3⟩
end
theorem Rep.tr (t:Tr kw X X' W W') {v:Value} {d:D} (h:Rep kw X W v d):Rep kw X' W' v d:=by
 obtain ⟨cs,h1,h2⟩:=h;exact ⟨cs,aU.tr t d cs h1,h2⟩
mutual
theorem aU.len:∀ (d:D) (cs:List Value),aU kw X W d cs→cs.length = d.width
 | .val v,cs,h=>by unfold aU at h;rw [h.1];simp [D.width]
 | .mag x,cs,h=>by unfold aU at h;obtain ⟨_,v,h1,_⟩:=h;rw [h1];simp [D.width]
 | .list k l,cs,h=>by unfold aU at h;obtain ⟨A,c,h1,_⟩:=h;rw [h1];simp [D.width]
 | .agg l,cs,h=>by unfold aU at h;rw [D.width];exact aF.len l cs h
theorem aF.len:∀ (l:List D) (cs:List Value),aF kw X W l cs→cs.length = D.widths l
 | [],cs,h=>by unfold aF at h;rw [h];simp [D.widths]
 | d :: l,cs,h=>by
  unfold aF at h;obtain ⟨c1,c2,h1,h2,h3⟩:=h;rw [h1,List.length_append,aU.len d c1 h2,aF.len l c2 h3,D.widths]
end
mutual
theorem aU.one:∀ (d:D) (cs:List Value),aU kw X W d cs→∀ v∈cs,v.oneCell' = true
 | .val v,cs,h,u,hu=>by unfold aU at h;rw [h.1] at hu;simp at hu;rw [hu];exact h.2
 | .mag x,cs,h,u,hu=>by
  unfold aU at h;obtain ⟨_,v,h1,A,n,c,l,rfl,_⟩:=h;rw [h1] at hu;simp at hu;rw [hu];rfl
 | .list k l,cs,h,u,hu=>by unfold aU at h;obtain ⟨A,c,h1,_⟩:=h;rw [h1] at hu;simp at hu;rw [hu];rfl
 | .agg l,cs,h,u,hu=>by unfold aU at h;exact aF.one l cs h u hu
theorem aF.one:∀ (l:List D) (cs:List Value),aF kw X W l cs→∀ v∈cs,v.oneCell' = true
 | [],cs,h,u,hu=>by unfold aF at h;rw [h] at hu;cases hu
 | d :: l,cs,h,u,hu=>by
  unfold aF at h;obtain ⟨c1,c2,h1,h2,h3⟩:=h;rw [h1] at hu;rcases List.mem_append.1 hu with hu | hu
  · exact aU.one d c1 h2 u hu
  · exact aF.one l c2 h3 u hu
end
theorem aF.append:∀ {l1 l2:List D} {c1 c2:List Value},aF kw X W l1 c1→aF kw X W l2 c2→aF kw X W (l1 ++ l2) (c1 ++ c2)
 | [],l2,c1,c2,h1,h2=>by unfold aF at h1;rw [h1];exact h2
 | d :: l,l2,c1,c2,h1,h2=>by
  unfold aF at h1;obtain ⟨a,b,e1,e2,e3⟩:=h1;rw [fj];unfold aF;exact ⟨a,b ++ c2,by rw [e1,gr],e2,aF.append e3 h2⟩
theorem aF.split:∀ {l1 l2:List D} {cs:List Value},aF kw X W (l1 ++ l2) cs→∃ c1 c2,cs = c1 ++ c2∧aF kw X W l1 c1∧aF kw X W l2 c2
 | [],l2,cs,h=>⟨[],cs,rfl,by unfold aF;rfl,h⟩
 | d :: l,l2,cs,h=>by
  rw [fj] at h;unfold aF at h;obtain ⟨a,b,e1,e2,e3⟩:=h;obtain ⟨c1,c2,f1,f2,f3⟩:=aF.split e3;refine ⟨a ++ c1,c2,by rw [e1,f1,gr],?_,f3⟩;unfold aF;exact ⟨a,c1,rfl,e2,f2⟩
theorem aF.single {d:D} {cs:List Value}:aF kw X W [d] cs↔aU kw X W d cs:=by
 constructor
 · intro h;unfold aF at h;obtain ⟨a,b,e1,e2,e3⟩:=h;unfold aF at e3;rw [e1,e3,List.append_nil];exact e2
 · intro h;unfold aF;exact ⟨cs,[],by simp,h,by unfold aF;rfl⟩
theorem D.yH:∀ (l1 l2:List D),D.widths (l1 ++ l2) = D.widths l1 + D.widths l2
 | [],l2=>by simp [D.widths]
 | d :: l,l2=>by rw [fj,D.widths,D.widths,D.yH l l2];omega
theorem D.dF {k:Nat}:∀ {l:List D},(∀ d∈l,d.width = k)→D.widths l = l.length * k
 | [],_=>by simp [D.widths]
 | d :: l,h=>by
  rw [D.widths,h d (bq ..),D.dF (fun x hx=>h x (bB _ hx)),cF,fY];omega
theorem aF.nth {l:List D} {cs:List Value} (h:aF kw X W l cs) (hk:∀ d∈l,d.width = k) {d:D} (hi:l[i]? = some d):aU kw X W d ((cs.drop (i * k)).take k):=by
 have hlt:i < l.length:=(bh.1 hi).1;have e:l = l.take i ++ (d :: l.drop (i + 1)):=by
  conv=>lhs;rw [← iu i l]
  congr 1;rw [bw hlt];congr 1;exact (bh.1 hi).2
 rw [e] at h;obtain ⟨c1,c2,f1,f2,f3⟩:=aF.split h;unfold aF at f3;obtain ⟨a,b,g1,g2,g3⟩:=f3;have l1:c1.length = i * k:=by
  rw [aF.len _ _ f2,D.dF (fun x hx=>hk x (fS hx)),cw,bX (by omega)]
 have l2:a.length = k:=by rw [aU.len _ _ g2];exact hk d (fT hi)
 have:(cs.drop (i * k)).take k = a:=by
  rw [f1,g1,← l1,List.drop_left,← l2,List.take_left]
 rw [this];exact g2
theorem aU.cell {d:D} {cs:List Value} (h:aU kw X W d cs) (ha:d.isAgg = false):∃ v,cs = [v]∧d.mk cs = v:=by
 cases d with
 | val v=>unfold aU at h;exact ⟨v,h.1,by rw [h.1];rfl⟩
 | mag x=>unfold aU at h;obtain ⟨_,v,h1,_⟩:=h;exact ⟨v,h1,by rw [h1];rfl⟩
 | list k l=>unfold aU at h;obtain ⟨A,c,h1,_⟩:=h;exact ⟨_,h1,by rw [h1];rfl⟩
 | agg l=>cases ha
theorem aU.EU {d:D} {cs:List Value} (h:aU kw X W d cs):(d.mk cs).cells.toList = cs:=by
 cases hd:d.isAgg with
 | true=>unfold D.mk;rw [hd];simp [Value.cells]
 | false =>
  obtain ⟨v,h1,h2⟩:=h.cell hd;rw [h2,h1];have:=aU.one d cs h v (by rw [h1];simp);cases v <;> first | rfl | (simp [Value.oneCell'] at this)
theorem gy {u:Value} (h:Rep kw X W v (.val u)):v = u:=by
 obtain ⟨cs,h1,h2⟩:=h;unfold aU at h1;rw [h2,h1.1];rfl
theorem dh {u:Value} (h:u.oneCell' = true):Rep kw X W u (.val u):=⟨[u],by unfold aU;exact ⟨rfl,h⟩,rfl⟩
theorem nS {x:Nat} (h:Rep kw X W v (.mag x)):kw = true∧MV W v x:=by
 obtain ⟨cs,h1,h2⟩:=h;unfold aU at h1;obtain ⟨e,u,h3,h4⟩:=h1;rw [h2,h3];exact ⟨e,h4⟩
theorem jW {x:Nat} (e:kw = true) (h:MV W v x):Rep kw X W v (.mag x):=⟨[v],by unfold aU;exact ⟨e,v,rfl,h⟩,rfl⟩
theorem jm {l:List D} (h:Rep kw X W v (.list k l)):∃ A c,v = .slice A l.length c∧l.length≤c∧(∀ d∈l,d.width = k)∧(l≠[]→∃ b o es,A = some ⟨b,o,none⟩∧es.length = l.length * k∧At X W b o es∧aF kw X W l es):=by
 obtain ⟨cs,h1,h2⟩:=h;unfold aU at h1;obtain ⟨A,c,h3,h4⟩:=h1;exact ⟨A,c,by rw [h2,h3];rfl,h4⟩
theorem dI {c:Nat} {l:List D} (h2:l.length≤c) (h3:∀ d∈l,d.width = k) (h4:l≠[]→∃ b o es,A = some ⟨b,o,none⟩∧es.length = l.length * k∧At X W b o es∧aF kw X W l es):Rep kw X W (.slice A l.length c) (.list k l) :=
 ⟨[.slice A l.length c],by unfold aU;exact ⟨A,c,rfl,h2,h3,h4⟩,rfl⟩
theorem aau {l:List D} (h:Rep kw X W v (.agg l)):∃ cs,v = .agg cs.toArray∧aF kw X W l cs:=by
 obtain ⟨cs,h1,h2⟩:=h;unfold aU at h1;exact ⟨cs,by rw [h2];rfl,h1⟩
theorem oG {l:List D} {cs:List Value} (h:aF kw X W l cs):Rep kw X W (.agg cs.toArray) (.agg l):=⟨cs,by unfold aU;exact h,rfl⟩
end
def aS (z:Int):D:=.agg [.val (.bool (decide (z < 0))),.mag z.natAbs]
def af (q:Rat):D:=.agg [aS q.num,aS q.den]
theorem uG {kw:Bool} {X:XS}:Rep kw X W v (aS z)↔kw = true∧IV W v z:=by
 constructor
 · intro h;obtain ⟨cs,rfl,h1⟩:=aau h;unfold aF at h1;obtain ⟨c1,c2,rfl,h2,h3⟩:=h1;have h4:=aF.single.1 h3;unfold aU at h2 h4;obtain ⟨rfl,-⟩:=h2;obtain ⟨e,u,rfl,A,n,c,l,rfl,h5,h6,h7⟩:=h4;exact ⟨e,A,n,c,l,rfl,h5,h6,h7⟩
 · rintro ⟨e,A,n,c,l,rfl,h5,h6,h7⟩;refine oG (cs:=[.bool (decide (z < 0)),.slice A n c]) ?_;unfold aF;refine ⟨[_],[_],rfl,by unfold aU;exact ⟨rfl,rfl⟩,aF.single.2 ?_⟩;unfold aU;exact ⟨e,_,rfl,A,n,c,l,rfl,h5,h6,h7⟩
variable {cs:List Value}
theorem aF.two {kw:Bool} {X:XS} {d e:D}:aF kw X W [d,e] cs↔∃ c1 c2,cs = c1 ++ c2∧aU kw X W d c1∧aU kw X W e c2:=by
 constructor
 · intro h;unfold aF at h;obtain ⟨c1,c2,h1,h2,h3⟩:=h;exact ⟨c1,c2,h1,h2,aF.single.1 h3⟩
 · rintro ⟨c1,c2,h1,h2,h3⟩;unfold aF;exact ⟨c1,c2,h1,h2,aF.single.2 h3⟩
inductive F where
 | dat (d:D)
 | bT (l:List D)
 | ptr (d:D)
 | box (d:D)
 | sub (s o:Nat)
 | own (k:Nat) (l:List D)
 | grow (k:Nat) (l:List D)
 | qE (k:Nat) (l ds:List D)
 | gv (v:Value) (k:Nat) (l:List D)
 | ov (v:Value) (k:Nat) (l:List D)
 | Sm (s:Nat) (e:D)
 | zy (s:Nat)
 | qH (s i k:Nat)
 | kS (c:Bool) (f:F)
 | wp (z:Int)
 | aan (v:Value) (f:F)
 | AV (s1 s2:Nat)
 | e0
 | any
def F.refs:F→Nat→Bool
 | .sub s _,d=>s == d
 | .Sm s _,d=>s == d
 | .zy s,d=>s == d
 | .qH s _ _,d=>s == d
 | .kS _ f,d=>f.refs d
 | .aan _ f,d=>f.refs d
 | .AV s1 s2,d=>s1 == d || s2 == d
 | _,_=>false
abbrev fA:=List (Nat × F)
def lk:fA→Nat→Option F
 | [],_=>none
 | (s,f) :: Γ,t=>if s = t then some f else lk Γ t
def aB:fA→Nat→Bool
 | [],_=>true
 | (s,f) :: Γ,d=>!f.refs d && aB Γ d
theorem nI:∀ {Γ:fA} {d s:Nat} {f:F},aB Γ d = true→lk Γ s = some f→f.refs d = false
 | [],_,_,_,_,h=>by cases h
 | (s',f') :: Γ,d,s,f,hn,h=>by
  unfold aB at hn;simp only [bL,Bool.not_eq_true'] at hn;unfold lk at h
  split at h
  · injection h with h;rw [← h];exact hn.1
  · exact nI hn.2 h
def Qs (kw:Bool) (es:List Value):Prop:=kw = true→∀ v∈es,∀ i,v≠.int .u32 i
def tN (kw:Bool) (X:XS) (W:World):List Value→List D→Prop
 | [],[]=>True
 | v :: vs,d :: ds=>Rep kw X W v d∧tN kw X W vs ds
 | _,_=>False
theorem tN.tr {kw:Bool} {X X':XS} {W W':World} (t:Tr kw X X' W W'):∀ {vs:List Value} {ds:List D},tN kw X W vs ds→tN kw X' W' vs ds
 | [],[],_=>trivial
 | v :: vs,d :: ds,h=>⟨h.1.tr t,tN.tr t h.2⟩
 | [],_ :: _,h=>h.elim
 | _ :: _,[],h=>h.elim
def ah (kw:Bool) (X:XS) (W:World) (Ow:Nat→Option Nat) (tm:Nat→Value) (s:Nat):F→Prop
 | .dat d=>Rep kw X W (tm s) d
 | .bT l=>∃ vs,tm s = .tuple vs∧tN kw X W vs.toList l
 | .ptr d=>∃ b o es,tm s = .pointer (some ⟨b,o,none⟩)∧At X W b o es∧aU kw X W d es
 | .box d=>∃ b es t,Ow s = some b∧tm s = .pointer (some ⟨b,0,none⟩)∧W.heap[b]? = some (.cells es.toArray t (0,0))∧aU kw X W d es∧Qs kw es∧∀ o,X b o
 | .sub s' o=>∃ b,Ow s' = some b∧tm s = .pointer (some ⟨b,o,none⟩)
 | .own k l=>∃ b c es t,Ow s = some b∧tm s = .slice (some ⟨b,0,none⟩) l.length c∧l.length≤c∧(∀ d∈l,d.width = k)∧W.heap[b]? = some (.cells es.toArray t (0,0))∧es.length = c * k∧aF kw X W l (es.take (l.length * k))∧Qs kw es∧∀ o,X b o
 | .grow k l=>(∀ d∈l,d.width = k)∧((tm s = .slice none 0 0∧l = [])∨∃ b c es t,Ow s = some b∧tm s = .slice (some ⟨b,0,none⟩) l.length c∧l.length≤c∧W.heap[b]? = some (.cells es.toArray t (0,0))∧es.length = c * k∧aF kw X W l (es.take (l.length * k))∧Qs kw es∧∀ o,X b o↔l.length * k≤o)
 | .gv u k l=>(∀ d∈l,d.width = k)∧((u = .slice none 0 0∧l = [])∨∃ b c es t,Ow s = some b∧u = .slice (some ⟨b,0,none⟩) l.length c∧l.length≤c∧W.heap[b]? = some (.cells es.toArray t (0,0))∧es.length = c * k∧aF kw X W l (es.take (l.length * k))∧Qs kw es∧∀ o,X b o↔l.length * k≤o)
 | .ov u k l=>∃ b c es t,Ow s = some b∧u = .slice (some ⟨b,0,none⟩) l.length c∧l.length≤c∧(∀ d∈l,d.width = k)∧W.heap[b]? = some (.cells es.toArray t (0,0))∧c * k≤es.length∧aF kw X W l (es.take (l.length * k))∧Qs kw es∧∀ o,X b o
 | .qE k l ds=>∃ v vs,tm s = .tuple (v :: vs).toArray∧tN kw X W vs ds∧(∀ d∈l,d.width = k)∧((v = .slice none 0 0∧l = [])∨∃ b c es t,Ow s = some b∧v = .slice (some ⟨b,0,none⟩) l.length c∧l.length≤c∧W.heap[b]? = some (.cells es.toArray t (0,0))∧es.length = c * k∧aF kw X W l (es.take (l.length * k))∧Qs kw es∧∀ o,X b o↔l.length * k≤o)
 | .Sm s' e=>∃ cs,tm s = .agg ((tm s').cells.toList ++ cs).toArray∧aU kw X W e cs
 | .zy s'=>tm s = tm s'
 | .qH s' i k=>∃ b,Ow s' = some b∧tm s = .pointer (some ⟨b,i * k,none⟩)
 | .kS c f=>(c = true→ah kw X W Ow tm s f)∧(c = false→tm s = undef)
 | .wp z=>kw = true∧∃ p,tm s = .pointer (some p)∧W.cell? p = some (.int .u32 z)
 | .aan v f=>ah kw X W Ow (fun _=>v) s f
 | .AV s1 s2=>tm s = .agg ((tm s1).cells.toList ++ (tm s2).cells.toList).toArray
 | .e0=>∃ A,tm s = .slice A 0 0
 | .any=>True
theorem ah.WJ {kw:Bool} {X X':XS} {W W':World} {Ow Ow':Nat→Option Nat} {tm tm':Nat→Value} {s:Nat} (t:Tr kw X X' W W') (hs:tm' s = tm s)
 (hO:∀ b,Ow s = some b→Ow' s = some b∧W'.heap[b]? = W.heap[b]?∧∀ o,X' b o↔X b o):∀ {f:F},(∀ s',f.refs s' = true→tm' s' = tm s'∧∀ b,Ow s' = some b→Ow' s' = some b)→ah kw X W Ow tm s f→ah kw X' W' Ow' tm' s f
 | .dat d,_,h=>by unfold ah at h ⊢;rw [hs];exact h.tr t
 | .bT l,_,h=>by unfold ah at h ⊢;rw [hs];obtain ⟨vs,h1,h2⟩:=h;exact ⟨vs,h1,h2.tr t⟩
 | .ptr d,_,h=>by unfold ah at h ⊢;rw [hs];obtain ⟨b,o,es,h1,h2,h3⟩:=h;exact ⟨b,o,es,h1,h2.tr t,aU.tr t _ _ h3⟩
 | .box d,_,h=>by
  unfold ah at h ⊢;rw [hs];obtain ⟨b,es,ty,h1,h2,h3,h4,h5,h6⟩:=h;obtain ⟨o1,o2,o3⟩:=hO b h1;exact ⟨b,es,ty,o1,h2,by rw [o2];exact h3,aU.tr t _ _ h4,h5,fun o=>(o3 o).2 (h6 o)⟩
 | .sub s' o,hr,h=>by unfold ah at h ⊢;rw [hs];obtain ⟨b,h1,h2⟩:=h;exact ⟨b,(hr s' (by simp [F.refs])).2 b h1,h2⟩
 | .own k l,_,h=>by
  unfold ah at h ⊢;rw [hs];obtain ⟨b,c,es,ty,h1,h2,h3,h4,h5,h6,h7,h8,h9⟩:=h;obtain ⟨o1,o2,o3⟩:=hO b h1;exact ⟨b,c,es,ty,o1,h2,h3,h4,by rw [o2];exact h5,h6,aF.tr t _ _ h7,h8,fun o=>(o3 o).2 (h9 o)⟩
 | .grow k l,_,h=>by
  unfold ah at h ⊢;rw [hs];obtain ⟨h0,h⟩:=h;refine ⟨h0,?_⟩;rcases h with h | ⟨b,c,es,ty,h1,h2,h3,h5,h6,h7,h8,h9⟩
  · exact .inl h
  · obtain ⟨o1,o2,o3⟩:=hO b h1;exact .inr ⟨b,c,es,ty,o1,h2,h3,by rw [o2];exact h5,h6,aF.tr t _ _ h7,h8,fun o=>(o3 o).trans (h9 o)⟩
 | .ov u k l,_,h=>by
  unfold ah at h ⊢;obtain ⟨b,c,es,ty,h1,h2,h3,h4,h5,h6,h7,h8,h9⟩:=h;obtain ⟨o1,o2,o3⟩:=hO b h1;exact ⟨b,c,es,ty,o1,h2,h3,h4,by rw [o2];exact h5,h6,aF.tr t _ _ h7,h8,fun o=>(o3 o).2 (h9 o)⟩
 | .gv u k l,_,h=>by
  unfold ah at h ⊢;obtain ⟨h0,h⟩:=h;refine ⟨h0,?_⟩;rcases h with h | ⟨b,c,es,ty,h1,h2,h3,h5,h6,h7,h8,h9⟩
  · exact .inl h
  · obtain ⟨o1,o2,o3⟩:=hO b h1;exact .inr ⟨b,c,es,ty,o1,h2,h3,by rw [o2];exact h5,h6,aF.tr t _ _ h7,h8,fun o=>(o3 o).trans (h9 o)⟩
 | .qE k l ds,_,h=>by
  unfold ah at h ⊢;rw [hs];obtain ⟨v,vs,e1,e2,h0,h⟩:=h;refine ⟨v,vs,e1,e2.tr t,h0,?_⟩;rcases h with h | ⟨b,c,es,ty,h1,h2,h3,h5,h6,h7,h8,h9⟩
  · exact .inl h
  · obtain ⟨o1,o2,o3⟩:=hO b h1;exact .inr ⟨b,c,es,ty,o1,h2,h3,by rw [o2];exact h5,h6,aF.tr t _ _ h7,h8,fun o=>(o3 o).trans (h9 o)⟩
 | .Sm s' e,hr,h=>by unfold ah at h ⊢;rw [hs,(hr s' (by simp [F.refs])).1];obtain ⟨cs,h1,h2⟩:=h;exact ⟨cs,h1,aU.tr t _ _ h2⟩
 | .zy s',hr,h=>by unfold ah at h ⊢;rw [hs,(hr s' (by simp [F.refs])).1];exact h
 | .qH s' i k,hr,h=>by unfold ah at h ⊢;rw [hs];obtain ⟨b,h1,h2⟩:=h;exact ⟨b,(hr s' (by simp [F.refs])).2 b h1,h2⟩
 | .kS c f,hr,h=>by
  unfold ah at h ⊢;exact ⟨fun e=>ah.WJ t hs hO (f:=f) (fun s' h'=>hr s' (by simpa [F.refs] using h')) (h.1 e),fun e=>hs.trans (h.2 e)⟩
 | .wp z,_,h=>by unfold ah at h ⊢;rw [hs];obtain ⟨e,p,h1,h2⟩:=h;exact ⟨e,p,h1,t.ku e p _ h2⟩
 | .e0,_,h=>by unfold ah at h ⊢;rw [hs];exact h
 | .any,_,_=>by unfold ah;trivial
 | .aan v f,hr,h=>by
  unfold ah at h ⊢;exact ah.WJ (tm:=fun _=>v) (tm':=fun _=>v) t rfl hO (f:=f) (fun s' h'=>⟨rfl,(hr s' (by simpa [F.refs] using h')).2⟩) h
 | .AV s1 s2,hr,h=>by unfold ah at h ⊢;rw [hs,(hr s1 (by simp [F.refs])).1,(hr s2 (by simp [F.refs])).1];exact h
theorem ah.tr {kw:Bool} {X X':XS} {W W':World} {Ow Ow':Nat→Option Nat} {tm tm':Nat→Value} {s:Nat} (t:Tr kw X X' W W') (hs:tm' s = tm s)
 (hO:∀ s b,Ow s = some b→Ow' s = some b∧W'.heap[b]? = W.heap[b]?∧∀ o,X' b o↔X b o):∀ {f:F},(∀ s',f.refs s' = true→tm' s' = tm s')→ah kw X W Ow tm s f→ah kw X' W' Ow' tm' s f
 | .dat d,_,h=>by unfold ah at h ⊢;rw [hs];exact h.tr t
 | .bT l,_,h=>by unfold ah at h ⊢;rw [hs];obtain ⟨vs,h1,h2⟩:=h;exact ⟨vs,h1,h2.tr t⟩
 | .ptr d,_,h=>by unfold ah at h ⊢;rw [hs];obtain ⟨b,o,es,h1,h2,h3⟩:=h;exact ⟨b,o,es,h1,h2.tr t,aU.tr t _ _ h3⟩
 | .box d,_,h=>by
  unfold ah at h ⊢;rw [hs];obtain ⟨b,es,ty,h1,h2,h3,h4,h5,h6⟩:=h;obtain ⟨o1,o2,o3⟩:=hO s b h1;exact ⟨b,es,ty,o1,h2,by rw [o2];exact h3,aU.tr t _ _ h4,h5,fun o=>(o3 o).2 (h6 o)⟩
 | .sub s' o,_,h=>by unfold ah at h ⊢;rw [hs];obtain ⟨b,h1,h2⟩:=h;exact ⟨b,(hO s' b h1).1,h2⟩
 | .own k l,_,h=>by
  unfold ah at h ⊢;rw [hs];obtain ⟨b,c,es,ty,h1,h2,h3,h4,h5,h6,h7,h8,h9⟩:=h;obtain ⟨o1,o2,o3⟩:=hO s b h1;exact ⟨b,c,es,ty,o1,h2,h3,h4,by rw [o2];exact h5,h6,aF.tr t _ _ h7,h8,fun o=>(o3 o).2 (h9 o)⟩
 | .grow k l,_,h=>by
  unfold ah at h ⊢;rw [hs];obtain ⟨h0,h⟩:=h;refine ⟨h0,?_⟩;rcases h with h | ⟨b,c,es,ty,h1,h2,h3,h5,h6,h7,h8,h9⟩
  · exact .inl h
  · obtain ⟨o1,o2,o3⟩:=hO s b h1;exact .inr ⟨b,c,es,ty,o1,h2,h3,by rw [o2];exact h5,h6,aF.tr t _ _ h7,h8,fun o=>(o3 o).trans (h9 o)⟩
 | .ov u k l,_,h=>by
  unfold ah at h ⊢;obtain ⟨b,c,es,ty,h1,h2,h3,h4,h5,h6,h7,h8,h9⟩:=h;obtain ⟨o1,o2,o3⟩:=hO s b h1;exact ⟨b,c,es,ty,o1,h2,h3,h4,by rw [o2];exact h5,h6,aF.tr t _ _ h7,h8,fun o=>(o3 o).2 (h9 o)⟩
 | .gv u k l,_,h=>by
  unfold ah at h ⊢;obtain ⟨h0,h⟩:=h;refine ⟨h0,?_⟩;rcases h with h | ⟨b,c,es,ty,h1,h2,h3,h5,h6,h7,h8,h9⟩
  · exact .inl h
  · obtain ⟨o1,o2,o3⟩:=hO s b h1;exact .inr ⟨b,c,es,ty,o1,h2,h3,by rw [o2];exact h5,h6,aF.tr t _ _ h7,h8,fun o=>(o3 o).trans (h9 o)⟩
 | .qE k l ds,_,h=>by
  unfold ah at h ⊢;rw [hs];obtain ⟨v,vs,e1,e2,h0,h⟩:=h;refine ⟨v,vs,e1,e2.tr t,h0,?_⟩;rcases h with h | ⟨b,c,es,ty,h1,h2,h3,h5,h6,h7,h8,h9⟩
  · exact .inl h
  · obtain ⟨o1,o2,o3⟩:=hO s b h1;exact .inr ⟨b,c,es,ty,o1,h2,h3,by rw [o2];exact h5,h6,aF.tr t _ _ h7,h8,fun o=>(o3 o).trans (h9 o)⟩
 | .Sm s' e,hr,h=>by unfold ah at h ⊢;rw [hs,hr s' (by simp [F.refs])];obtain ⟨cs,h1,h2⟩:=h;exact ⟨cs,h1,aU.tr t _ _ h2⟩
 | .zy s',hr,h=>by unfold ah at h ⊢;rw [hs,hr s' (by simp [F.refs])];exact h
 | .qH s' i k,_,h=>by unfold ah at h ⊢;rw [hs];obtain ⟨b,h1,h2⟩:=h;exact ⟨b,(hO s' b h1).1,h2⟩
 | .kS c f,hr,h=>by
  unfold ah at h ⊢;exact ⟨fun e=>ah.tr t hs hO (f:=f) (fun s' h'=>hr s' (by simpa [F.refs] using h')) (h.1 e),fun e=>hs.trans (h.2 e)⟩
 | .wp z,_,h=>by unfold ah at h ⊢;rw [hs];obtain ⟨e,p,h1,h2⟩:=h;exact ⟨e,p,h1,t.ku e p _ h2⟩
 | .e0,_,h=>by unfold ah at h ⊢;rw [hs];exact h
 | .any,_,_=>by unfold ah;trivial
 | .aan v f,hr,h=>by
  unfold ah at h ⊢;exact ah.WJ (tm:=fun _=>v) (tm':=fun _=>v) t rfl (fun b=>hO s b) (f:=f) (fun s' h'=>⟨rfl,fun b hb=>(hO s' b hb).1⟩) h
 | .AV s1 s2,hr,h=>by unfold ah at h ⊢;rw [hs,hr s1 (by simp [F.refs]),hr s2 (by simp [F.refs])];exact h
abbrev bY (a:Act):Nat→Value:=fun s=>a.eval (.tmp s)
structure Env (kw:Bool) (X0:XS) (w0:World) (X:XS) (Ow:Nat→Option Nat) (W:World):Prop where
 sub:∀ b o,X0 b o→X b o
 sup:∀ b o,X b o→X0 b o∨(w0.heap.size≤b∧b < W.heap.size)
 inj:∀ s s' b,Ow s = some b→Ow s' = some b→s = s'
 wS:∀ s b,Ow s = some b→w0.heap.size≤b∧b < W.heap.size
structure FSq (kw:Bool) (X0:XS) (w0:World) (m:Nat) (Γ:fA) (a:Act) (W:World):Prop where
 size:a.tmps.size = m
 defs:a.defers = []
 below:Below w0.heap.size w0 W
 x0:∀ b o,X0 b o→b < w0.heap.size
 ex:∃ X Ow,Env kw X0 w0 X Ow W∧∀ s f,lk Γ s = some f→ah kw X W Ow (bY a) s f
section
variable {P:Program} {ops:Array Oper} {kw:Bool} {X0:XS} {w0:World} {m:Nat} {Γ Γ':fA} {W':World}
theorem Env.lt {X:XS} {Ow:Nat→Option Nat} (e:Env kw X0 w0 X Ow W) (hx:∀ b o,X0 b o→b < w0.heap.size) (hb:Below w0.heap.size w0 W) {o:Nat} (h:X b o):b < W.heap.size:=by
 rcases e.sup b o h with h | ⟨_,h⟩
 · exact ff (hx b o h) hb.size
 · exact h
theorem Env.below {X:XS} {Ow:Nat→Option Nat} (e:Env kw X0 w0 X Ow W) (h:Below W.heap.size W W'):Env kw X0 w0 X Ow W' :=
 ⟨e.sub,fun b o hx=>(e.sup b o hx).imp id fun hh=>⟨hh.1,ff hh.2 h.size⟩,e.inj,fun s b hs=>⟨(e.wS s b hs).1,ff (e.wS s b hs).2 h.size⟩⟩
theorem own_below {X:XS} {Ow:Nat→Option Nat} (e:Env kw X0 w0 X Ow W) (h:Below W.heap.size W W'):∀ s b,Ow s = some b→Ow s = some b∧W'.heap[b]? = W.heap[b]?∧∀ o,X b o↔X b o :=
 fun s b hs=>⟨hs,h.block b (e.wS s b hs).2,fun o=>Iff.rfl⟩
def Sub:fA→fA→Prop
 | [],_=>True
 | (s,f) :: Γ,Γ'=>lk Γ' s = some f∧Sub Γ Γ'
theorem Sub.lkm:∀ {Γ Γ':fA},Sub Γ Γ'→∀ {s f},lk Γ s = some f→lk Γ' s = some f
 | [],_,_,_,_,h=>by cases h
 | (s',f') :: Γ,Γ',hs,s,f,h=>by
  unfold lk at h
  split at h
  · rename_i e;injection h with h;rw [← e,← h];exact hs.1
  · exact Sub.lkm hs.2 h
theorem FSq.weak (h:FSq kw X0 w0 m Γ a W) (hs:Sub Γ' Γ):FSq kw X0 w0 m Γ' a W:=by
 obtain ⟨h1,h2,h3,h4,X,Ow,e,hf⟩:=h;exact ⟨h1,h2,h3,h4,X,Ow,e,fun s f hl=>hf s f (hs.lkm hl)⟩
theorem kH {d:Nat} (h:d < a.tmps.size):(a.put (some d) v).eval (.tmp d) = v:=by
 have:=Bf (a:=a) (v:=v) h;simp [du,bE,this]
theorem eval_put_ne {d:Nat} (h:d≠s):(a.put (some d) v).eval (.tmp s) = a.eval (.tmp s) :=
 Ag (KD (fun e=>h (cV e)))
theorem FSq.QN {d:Nat} {f:F} (h:FSq kw X0 w0 m Γ a W) (hd:d < m) (hn:aB Γ d = true) (hb:Below W.heap.size W W') (hf:∀ X Ow,Env kw X0 w0 X Ow W→(∀ s f,lk Γ s = some f→ah kw X W Ow (bY a) s f)→ah kw X W' Ow (bY (a.put (some d) v)) d f):FSq kw X0 w0 m ((d,f) :: Γ) (a.put (some d) v) W':=by
 obtain ⟨h1,h2,h3,h4,X,Ow,e,hF⟩:=h;refine ⟨by rw [iZ];exact h1,by rw [fH];exact h2,h3.trans (hb.mono h3.size),h4,X,Ow,e.below hb,fun s g hl=>?_⟩;unfold lk at hl
 split at hl
 · rename_i es;injection hl with hl;rw [← hl,← es];exact hf X Ow e hF
 · rename_i es;refine (hF s g hl).tr (Tr.of_below hb) (eval_put_ne es) (own_below e hb) fun s' hr=>eval_put_ne ?_
   intro e2;rw [← e2,nI hn hl] at hr;cases hr
def oC (P:Program) (o:Oper) (a:Act) (W:World) (K:Act→World→Prop):Prop :=
 match (execOp a.eval o).run P W with
 | .ok (.value v) W'=>K (a.put o.dst v) W'
 | .ok .skip W'=>K (a.put o.dst undef) W'
 | .ok (.enter f args) W'=>Calls P f args W' fun e W''=>∃ v,e = .returned v∧K (a.put o.dst v) W''
 | _=>False
theorem oC.wp {o:Oper} {K:Act→World→Prop} {Q:Exit→Act→World→Prop} (h:oC P o a W K):o.wp P a W K Q:=by
 unfold oC at h;unfold fI;cases hr:(execOp a.eval o).run P W with
 | halt x w1=>rw [hr] at h;exact h.elim
 | ok nx w1 =>
  rw [hr] at h;cases nx <;> simp only at h <;> first | exact h.elim | skip
  case value v=>simp only [fX];exact h
  case skip=>simp only [fX];exact h
  case enter f args =>
   simp only [fX];refine h.mono ?_;rintro e w2 ⟨v,rfl,hk⟩;exact hk
theorem oC.mono {o:Oper} {K K':Act→World→Prop} (h:oC P o a W K) (hk:∀ a w,K a w→K' a w):oC P o a W K':=by
 unfold oC at h ⊢;cases hr:(execOp a.eval o).run P W with
 | halt x w1=>rw [hr] at h;exact h.elim
 | ok nx w1 =>
  rw [hr] at h;cases nx <;> simp only at h ⊢ <;> first | exact h.elim | skip
  case value v=>exact hk _ _ h
  case skip=>exact hk _ _ h
  case enter f args =>
   refine h.mono ?_;rintro e w2 ⟨v,rfl,hk'⟩;exact ⟨v,rfl,hk _ _ hk'⟩
variable (P ops kw X0 w0 m) in
def YY (Γ:fA) (o:Oper) (Γ':fA):Prop :=
 ∀ a W,FSq kw X0 w0 m Γ a W→if aL o (yielded ops a.tmps) = true then oC P o a W (FSq kw X0 w0 m Γ') else FSq kw X0 w0 m Γ' (a.put o.dst undef) W
variable (P ops kw X0 w0 m) in
def fK (Γ:fA) (l:List Oper) (Q:Exit→Act→World→Prop):Prop:=∀ a W,FSq kw X0 w0 m Γ a W→wpList P ops Q l a W
theorem fK.nil (h:∀ a W,FSq kw X0 w0 m Γ a W→Q .normal a W):fK P ops kw X0 w0 m Γ [] Q:=h
theorem fK.cons {l:List Oper} (h:YY P ops kw X0 w0 m Γ o Γ') (k:fK P ops kw X0 w0 m Γ' l Q):fK P ops kw X0 w0 m Γ (o :: l) Q:=by
 intro a W hs;have h1:=h a W hs;unfold wpList
 split
 · rename_i hw;rw [if_pos hw] at h1;exact .inl (h1.mono fun a' w' hk=>k a' w' hk).wp
 · rename_i hw;rw [if_neg hw] at h1;exact k _ _ h1
theorem fK.weak {l:List Oper} {Q:Exit→Act→World→Prop} (k:fK P ops kw X0 w0 m Γ' l Q) (h:Sub Γ' Γ):fK P ops kw X0 w0 m Γ l Q:=fun a W hs=>k a W (hs.weak h)
theorem Vf (hg:o.guard = none) (h:∀ a W,FSq kw X0 w0 m Γ a W→oC P o a W (FSq kw X0 w0 m Γ')):YY P ops kw X0 w0 m Γ o Γ':=by
 intro a W hs;rw [if_pos (by simp [aL,hg])];exact h a W hs
theorem FSq.fact (h:FSq kw X0 w0 m Γ a W) {f:F} (hl:lk Γ s = some f):∃ X Ow,Env kw X0 w0 X Ow W∧ah kw X W Ow (bY a) s f:=by
 obtain ⟨-,-,-,-,X,Ow,e,hF⟩:=h;exact ⟨X,Ow,e,hF s f hl⟩
theorem FSq.val (h:FSq kw X0 w0 m Γ a W) (hl:lk Γ s = some (.dat (.val v))):a.eval (.tmp s) = v:=by
 obtain ⟨X,Ow,e,hF⟩:=h.fact hl;unfold ah at hF;exact gy hF
def adO (c:Bool):F→F
 | .kS c' f=>if c' = c then f else .kS c' f
 | f=>f
theorem oh {g:Nat} {want:Bool} {gd:Nat} {b c:Bool} {d:Nat} {f:F} (hg:o.guard = some (g,want)) (hgd:(ops[g]?).bind (·.dst) = some gd) (hl:lk Γ gd = some (.dat (.val (.bool b)))) (hc:c = (b == want)) (hd:o.dst = some d) (hdm:d < m) (hn:aB Γ d = true) (h:c = true→∀ a W,FSq kw X0 w0 m Γ a W→oC P o a W (FSq kw X0 w0 m ((d,f) :: Γ))):YY P ops kw X0 w0 m Γ o ((d,.kS c f) :: Γ):=by
 intro a W hs;have hv:=hs.val hl;have hy:yielded ops a.tmps g = some b:=by
  unfold yielded;rw [hgd];simp only [du,bE] at hv;cases ht:a.tmps[gd]? with
  | none=>rw [ht] at hv;cases hv
  | some x=>rw [ht] at hv;simp at hv;subst hv;simp [ht]
 have hw:aL o (yielded ops a.tmps) = c:=by
  unfold aL;rw [hg];simp only [hy,hc];cases b <;> cases want <;> rfl
 rw [hw];cases hcc:c with
 | true =>
  simp only [if_true];refine (h hcc a W hs).mono fun a' W' hs'=>?_
  obtain ⟨h1,h2,h3,h4,X,Ow,e,hF⟩:=hs';refine ⟨h1,h2,h3,h4,X,Ow,e,fun s g hl=>?_⟩;unfold lk at hl
  split at hl
  · rename_i es;injection hl with hl
    rw [← hl,← es];unfold ah;exact ⟨fun _=>hF d f (by simp [lk]),(fun e=>by cases e)⟩
  · rename_i es;exact hF s g (by unfold lk;rw [if_neg es];exact hl)
 | false =>
  simp only [Bool.false_eq_true,if_false];rw [hd];exact hs.QN hdm hn (Below.refl _ _) fun X Ow e hF=>by unfold ah;exact ⟨(fun h=>by cases h),fun _=>kH (by rw [hs.size];exact hdm)⟩
theorem FSq.adO (h:FSq kw X0 w0 m Γ a W) {f:F} (hl:lk Γ s = some (.kS true f)):FSq kw X0 w0 m ((s,f) :: Γ) a W:=by
 obtain ⟨h1,h2,h3,h4,X,Ow,e,hF⟩:=h;refine ⟨h1,h2,h3,h4,X,Ow,e,fun t g hl'=>?_⟩;unfold lk at hl'
 split at hl'
 · rename_i es;injection hl' with hl';rw [← hl',← es]
   have:=hF s _ hl;unfold ah at this;exact this.1 rfl
 · exact hF t g hl'
end
structure lG (kw:Bool) (X0:XS) (w0:World) (m:Nat) (Γ:fA) (a:Act) (W:World) (X:XS) (Ow:Nat→Option Nat):Prop where
 size:a.tmps.size = m
 defs:a.defers = []
 below:Below w0.heap.size w0 W
 x0:∀ b o,X0 b o→b < w0.heap.size
 env:Env kw X0 w0 X Ow W
 facts:∀ s f,lk Γ s = some f→ah kw X W Ow (bY a) s f
def F.isV:F→Bool
 | .dat _ | .bT _ | .ptr _ | .sub _ _ | .qH _ _ _ | .e0 | .any | .wp _=>true
 | .kS _ f=>f.isV
 | _=>false
theorem ah.isV {kw:Bool} {X:XS} {W:World} {Ow:Nat→Option Nat} {tm tm':Nat→Value} {s s':Nat} (e:tm' s' = tm s):∀ {f:F},f.isV = true→ah kw X W Ow tm s f→ah kw X W Ow tm' s' f
 | .dat d,_,h=>by unfold ah at h ⊢;rw [e];exact h
 | .bT l,_,h=>by unfold ah at h ⊢;rw [e];exact h
 | .ptr d,_,h=>by unfold ah at h ⊢;rw [e];exact h
 | .sub _ _,_,h=>by unfold ah at h ⊢;rw [e];exact h
 | .qH _ _ _,_,h=>by unfold ah at h ⊢;rw [e];exact h
 | .e0,_,h=>by unfold ah at h ⊢;rw [e];exact h
 | .any,_,h=>by unfold ah;trivial
 | .wp _,_,h=>by unfold ah at h ⊢;rw [e];exact h
 | .kS c f,hv,h=>by unfold ah at h ⊢;exact ⟨fun hc=>ah.isV e (f:=f) hv (h.1 hc),fun hc=>e.trans (h.2 hc)⟩
structure TI (P:Program) (T:TypeId) (k:Nat) (ag:Bool):Prop where
 size:(P.info? T).map (·.size) = some k
 desc:∃ d,P.underlying T = some d∧d.isRow = ag
structure FI (P:Program) (T:TypeId) (i off:Nat):Prop where
 ex:∃ fields f n,P.underlying T = some (.struct fields)∧fields[i]? = some f∧f.offset = off∧(P.info? f.type).map (·.size) = some (n + 1)
structure SI (P:Program) (T:TypeId) (k:Nat):Prop where
 ex:∃ e,P.underlying T = some (.slice e)∧(P.info? e).map (·.size) = some k
section
variable {P:Program} {ops:Array Oper} {kw:Bool} {X0:XS} {w0:World} {m:Nat} {Γ Γ':fA} {W':World} {X:XS} {Ow:Nat→Option Nat} {d:Nat}
theorem FSq.x (h:FSq kw X0 w0 m Γ a W):∃ X Ow,lG kw X0 w0 m Γ a W X Ow:=by
 obtain ⟨h1,h2,h3,h4,X,Ow,e,hF⟩:=h;exact ⟨X,Ow,h1,h2,h3,h4,e,hF⟩
theorem lG.fs (h:lG kw X0 w0 m Γ a W X Ow):FSq kw X0 w0 m Γ a W:=⟨h.size,h.defs,h.below,h.x0,X,Ow,h.env,h.facts⟩
theorem lG.put {f:F} (h:lG kw X0 w0 m Γ a W X Ow) (hd:d < m) (hn:aB Γ d = true) (hb:Below W.heap.size W W') (hf:ah kw X W' Ow (bY (a.put (some d) v)) d f):lG kw X0 w0 m ((d,f) :: Γ) (a.put (some d) v) W' X Ow:=by
 refine ⟨by rw [iZ];exact h.size,by rw [fH];exact h.defs,h.below.trans (hb.mono h.below.size),h.x0,h.env.below hb,fun s g hl=>?_⟩;unfold lk at hl
 split at hl
 · rename_i es;injection hl with hl;rw [← hl,← es];exact hf
 · rename_i es;refine (h.facts s g hl).tr (Tr.of_below hb) (eval_put_ne es) (own_below h.env hb) fun s' hr=>eval_put_ne ?_
   intro e2;rw [← e2,nI hn hl] at hr;cases hr
theorem iR (h:a.tmps.size = m) (hd:d < m):bY (a.put (some d) v) d = v:=kH (by omega)
variable (P kw X0 w0 m) in
def dB (Γ:fA) (o:Oper) (Γ':fA):Prop:=∀ a W,FSq kw X0 w0 m Γ a W→oC P o a W (FSq kw X0 w0 m Γ')
theorem dB.g (h:dB P kw X0 w0 m Γ o Γ') (hg:o.guard = none):YY P ops kw X0 w0 m Γ o Γ':=Vf hg h
theorem bK {f:F} (hd:o.dst = some d) (hdm:d < m) (hn:aB Γ d = true) (hv:f.isV = true) (h:∀ a W X Ow,lG kw X0 w0 m Γ a W X Ow→∃ v,(execOp a.eval o).run P W = .ok (.value v) W∧ah kw X W Ow (fun _=>v) 0 f):dB P kw X0 w0 m Γ o ((d,f) :: Γ):=by
 intro a W hs;obtain ⟨X,Ow,hx⟩:=hs.x;obtain ⟨v,hr,hf⟩:=h a W X Ow hx;unfold oC;rw [hr,hd];exact (hx.put hdm hn (Below.refl _ _) (hf.isV (iR hx.size hdm) hv)).fs
variable (kw X0 w0 m) in
def Ev (Γ:fA) (x:Operand) (v:Value):Prop:=∀ a W,FSq kw X0 w0 m Γ a W→a.eval x = v
theorem Ev.t (h:lk Γ s = some (.dat (.val v))):Ev kw X0 w0 m Γ (.tmp s) v:=fun a W hs=>hs.val h
theorem Ev.c:Ev kw X0 w0 m Γ (.const v) v:=fun a W hs=>rfl
theorem Ev.fn {f:FuncId}:Ev kw X0 w0 m Γ (.func f) (.func (.func f) #[] #[]):=fun a W hs=>rfl
theorem gI (h:v.oneCell' = true):ah kw X W Ow (fun _=>v) 0 (.dat (.val v)):=by unfold ah;exact dh h
theorem adq {f:F} (ho:o.op = .move (.tmp s)∨o.op = .assign (.tmp s)) (hd:o.dst = some d) (hdm:d < m) (hn:aB Γ d = true) (hl:lk Γ s = some f) (hv:f.isV = true):dB P kw X0 w0 m Γ o ((d,f) :: Γ) :=
 bK hd hdm hn hv fun a W X Ow hs=>⟨a.eval (.tmp s),by rcases ho with ho | ho <;> simp [execOp,ho],ah.isV (tm:=bY a) (tm':=fun _=>a.eval (.tmp s)) (s:=s) (s':=0) rfl hv (hs.facts s f hl)⟩
theorem adl (ho:o.op = .move (.const v)∨o.op = .assign (.const v)) (hd:o.dst = some d) (hdm:d < m) (hn:aB Γ d = true) (h1:v.oneCell' = true):dB P kw X0 w0 m Γ o ((d,.dat (.val v)) :: Γ) :=
 bK hd hdm hn rfl fun a W X Ow hs=>⟨v,by rcases ho with ho | ho <;> simp [execOp,ho,du],gI h1⟩
theorem Xn (ho:o.op = .move (.tmp s)∨o.op = .assign (.tmp s)) (hd:o.dst = some d) (hdm:d < m) (hn:aB Γ d = true) (hne:d≠s):dB P kw X0 w0 m Γ o ((d,.zy s) :: Γ):=by
 intro a W hs;obtain ⟨X,Ow,hx⟩:=hs.x;have hr:(execOp a.eval o).run P W = .ok (.value (a.eval (.tmp s))) W:=by rcases ho with ho | ho <;> simp [execOp,ho]
 unfold oC;rw [hr,hd];refine (hx.put hdm hn (Below.refl _ _) ?_).fs;unfold ah;exact (iR hx.size hdm).trans (eval_put_ne hne).symm
theorem lG.hand0 {f':F} {v0:Value} (hx:lG kw X0 w0 m Γ a W X Ow) (hdm:d < m) (hn:aB Γ d = true) (hns:∀ t g,lk Γ t = some g→t≠d→g.refs s = false) (hne:d≠s) (hv:ah kw X W (fun t=>if t = d then Ow s else if t = s then none else Ow t) (bY (a.put (some d) v0)) d f'):lG kw X0 w0 m ((d,f') :: (s,.any) :: Γ) (a.put (some d) v0) W X (fun t=>if t = d then Ow s else if t = s then none else Ow t):=by
 have hO:∀ t b,t≠d→t≠s→Ow t = some b→(if t = d then Ow s else if t = s then none else Ow t) = some b:=fun t b h1 h2 h3=>by rw [if_neg h1,if_neg h2];exact h3
 refine ⟨by rw [iZ];exact hx.size,by rw [fH];exact hx.defs,hx.below,hx.x0,⟨hx.env.sub,hx.env.sup,?_,?_⟩,fun t g ht=>?_⟩
 ·
  intro t t' b h1 h2
  by_cases e1:t = d <;> by_cases e2:t' = d <;> by_cases e3:t = s <;> by_cases e4:t' = s <;> simp [e1,e2,e3,e4,hne,bO hne] at h1 h2 ⊢ <;>
   first
    | exact hx.env.inj t t' b h1 h2
    | (have:=hx.env.inj _ _ b h1 h2;simp_all)
 ·
  intro t b h1
  by_cases e1:t = d
  · simp [e1] at h1;exact hx.env.wS s b h1
  · by_cases e3:t = s
    · simp [e1,e3,bO hne] at h1
    · simp [e1,e3] at h1;exact hx.env.wS t b h1
 ·
  unfold lk at ht
  split at ht
  · rename_i es;injection ht with ht
    subst ht es;exact hv
  ·
   rename_i es;unfold lk at ht
   split at ht
   · rename_i es2;injection ht with ht;rw [← ht];unfold ah;trivial
   ·
    rename_i es2;have h0:=hx.facts t g ht;have hrd:=nI hn ht;have hrs:=hns t g ht (bO es)
    -- owners of t itself and of those that it points to stand
    have key:∀ (g:F),g.refs d = false→g.refs s = false→ah kw X W Ow (bY a) t g→ah kw X W (fun t=>if t = d then Ow s else if t = s then none else Ow t) (bY (a.put (some d) v0)) t g:=by
     intro g;have ev:bY (a.put (some d) v0) t = bY a t:=eval_put_ne es
     induction g with
     | dat d0=>intro _ _ h;unfold ah at h ⊢;rw [ev];exact h
     | bT l=>intro _ _ h;unfold ah at h ⊢;rw [ev];exact h
     | ptr d0=>intro _ _ h;unfold ah at h ⊢;rw [ev];exact h
     | box d0 =>
      intro _ _ h;unfold ah at h ⊢;rw [ev];obtain ⟨b,es',ty,g1,g2⟩:=h;exact ⟨b,es',ty,hO t b (bO es) (bO es2) g1,g2⟩
     | sub s' o' =>
      intro r1 r2 h;unfold ah at h ⊢;rw [ev];obtain ⟨b,g1,g2⟩:=h;simp [F.refs] at r1 r2;exact ⟨b,hO s' b r1 r2 g1,g2⟩
     | own k l =>
      intro _ _ h;unfold ah at h ⊢;rw [ev];obtain ⟨b,c,es',ty,g1,g2⟩:=h;exact ⟨b,c,es',ty,hO t b (bO es) (bO es2) g1,g2⟩
     | grow k l =>
      intro _ _ h;unfold ah at h ⊢;rw [ev];refine ⟨h.1,?_⟩;rcases h.2 with h | ⟨b,c,es',ty,g1,g2⟩
      · exact .inl h
      · exact .inr ⟨b,c,es',ty,hO t b (bO es) (bO es2) g1,g2⟩
     | ov u k l =>
      intro _ _ h;unfold ah at h ⊢;obtain ⟨b,c,es',ty,g1,g2⟩:=h;exact ⟨b,c,es',ty,hO t b (bO es) (bO es2) g1,g2⟩
     | gv u k l =>
      intro _ _ h;unfold ah at h ⊢;refine ⟨h.1,?_⟩;rcases h.2 with h | ⟨b,c,es',ty,g1,g2⟩
      · exact .inl h
      · exact .inr ⟨b,c,es',ty,hO t b (bO es) (bO es2) g1,g2⟩
     | qE k l ds =>
      intro _ _ h;unfold ah at h ⊢;rw [ev];obtain ⟨v',vs,e1,e2,h0,h⟩:=h;refine ⟨v',vs,e1,e2,h0,?_⟩;rcases h with h | ⟨b,c,es',ty,g1,g2⟩
      · exact .inl h
      · exact .inr ⟨b,c,es',ty,hO t b (bO es) (bO es2) g1,g2⟩
     | Sm s' e =>
      intro r1 r2 h;unfold ah at h ⊢;rw [ev];simp [F.refs] at r1;rw [show bY (a.put (some d) v0) s' = bY a s' from eval_put_ne (bO r1)];exact h
     | zy s' =>
      intro r1 r2 h;unfold ah at h ⊢;rw [ev];simp [F.refs] at r1;rw [show bY (a.put (some d) v0) s' = bY a s' from eval_put_ne (bO r1)];exact h
     | qH s' i k =>
      intro r1 r2 h;unfold ah at h ⊢;rw [ev];obtain ⟨b,g1,g2⟩:=h;simp [F.refs] at r1 r2;exact ⟨b,hO s' b r1 r2 g1,g2⟩
     | kS c f ih=>intro r1 r2 h;unfold ah at h ⊢;exact ⟨fun hc=>ih r1 r2 (h.1 hc),fun hc=>ev.trans (h.2 hc)⟩
     | wp z=>intro _ _ h;unfold ah at h ⊢;rw [ev];exact h
     | aan v f ih =>
      intro r1 r2 h;unfold ah at h ⊢;have q1:∀ s',f.refs s' = true→s'≠d∧s'≠s:=fun s' h'=>⟨(fun e=>by subst e;simp [F.refs] at r1;rw [r1] at h';cases h'),(fun e=>by subst e;simp [F.refs] at r2;rw [r2] at h';cases h')⟩
      exact ah.WJ (tm:=fun _=>v) (tm':=fun _=>v) Tr.refl rfl (fun b hb=>⟨hO t b (bO es) (bO es2) hb,rfl,fun o=>Iff.rfl⟩) (f:=f) (fun s' h'=>⟨rfl,fun b hb=>hO s' b (q1 s' h').1 (q1 s' h').2 hb⟩) h
     | AV s1 s2 =>
      intro r1 r2 h;unfold ah at h ⊢;rw [ev];simp [F.refs] at r1;rw [show bY (a.put (some d) v0) s1 = bY a s1 from eval_put_ne (bO r1.1),show bY (a.put (some d) v0) s2 = bY a s2 from eval_put_ne (bO r1.2)];exact h
     | e0=>intro _ _ h;unfold ah at h ⊢;rw [ev];exact h
     | any=>intro _ _ _;unfold ah;trivial
    exact key g hrd hrs h0
theorem lG.hand {f:F} (hx:lG kw X0 w0 m Γ a W X Ow) (hdm:d < m) (hn:aB Γ d = true) (hns:aB Γ s = true) (hne:d≠s) (hl:lk Γ s = some f) (hf:(∃ k l,f = .own k l)∨(∃ k l,f = .grow k l)∨∃ k l ds,f = .qE k l ds):lG kw X0 w0 m ((d,f) :: (s,.any) :: Γ) (a.put (some d) (a.eval (.tmp s))) W X (fun t=>if t = d then Ow s else if t = s then none else Ow t):=by
 refine hx.hand0 hdm hn (fun t g h _=>nI hns h) hne ?_;have hF:=hx.facts s f hl;have hsd:∀ b,Ow s = some b→(if d = d then Ow s else if d = s then none else Ow d) = some b:=fun b h=>by rw [if_pos rfl];exact h
 have ev:bY (a.put (some d) (a.eval (.tmp s))) d = bY a s:=iR hx.size hdm;rcases hf with ⟨k,l,rfl⟩ | ⟨k,l,rfl⟩ | ⟨k,l,ds,rfl⟩
 · unfold ah at hF ⊢;rw [ev];obtain ⟨b,c,es,ty,g1,g2⟩:=hF;exact ⟨b,c,es,ty,hsd b g1,g2⟩
 · unfold ah at hF ⊢;rw [ev];refine ⟨hF.1,?_⟩;rcases hF.2 with g | ⟨b,c,es,ty,g1,g2⟩
   · exact .inl g
   · exact .inr ⟨b,c,es,ty,hsd b g1,g2⟩
 · unfold ah at hF ⊢;rw [ev];obtain ⟨v',vs,e1,e2,h0,h⟩:=hF;refine ⟨v',vs,e1,e2,h0,?_⟩;rcases h with g | ⟨b,c,es,ty,g1,g2⟩
   · exact .inl g
   · exact .inr ⟨b,c,es,ty,hsd b g1,g2⟩
theorem aaD {f:F} (ho:o.op = .move (.tmp s)∨o.op = .assign (.tmp s)) (hd:o.dst = some d) (hdm:d < m) (hn:aB Γ d = true) (hns:aB Γ s = true) (hne:d≠s) (hl:lk Γ s = some f) (hf:(∃ k l,f = .own k l)∨(∃ k l,f = .grow k l)∨∃ k l ds,f = .qE k l ds):dB P kw X0 w0 m Γ o ((d,f) :: (s,.any) :: Γ):=by
 intro a W hs;obtain ⟨X,Ow,hx⟩:=hs.x;have hr:(execOp a.eval o).run P W = .ok (.value (a.eval (.tmp s))) W:=by rcases ho with ho | ho <;> simp [execOp,ho]
 unfold oC;rw [hr,hd];exact (hx.hand hdm hn hns hne hl hf).fs
theorem Eb {op:BinOp} {T:TypeId} {x y:Operand} {k k':IntKind} {p q:Int}:(eqGuard op T x y (.int k p) (.int k' q)).run P W = .ok () W:=by
 unfold eqGuard;cases op <;> simp
theorem fE {op:BinOp} {T yt:TypeId} {x y:Operand} {k k':IntKind} {p q:Int} (ho:o.op = .binOp op T x y yt) (hd:o.dst = some d) (hdm:d < m) (hn:aB Γ d = true) (hx:Ev kw X0 w0 m Γ x (.int k p)) (hy:Ev kw X0 w0 m Γ y (.int k' q)) (hr:∀ W,(binOp op T (.int k p) (.int k' q)).run P W = .ok v W) (h1:v.oneCell' = true):dB P kw X0 w0 m Γ o ((d,.dat (.val v)) :: Γ) :=
 bK hd hdm hn rfl fun a W X Ow hs=>⟨v,by simp only [execOp,ho,hx a W hs.fs,hy a W hs.fs,bs,Eb,bj,hr,cg],gI h1⟩
theorem Eu {T:TypeId} {p q:Int} (hz:p + q = z) (h1:-9223372036854775808≤z) (h2:z≤9223372036854775807) (W:World):(binOp .add T (.int .i64 p) (.int .i64 q)).run P W = .ok (.int .i64 z) W:=by
 have:eZ.wrap (p + q) = z:=by rw [dy];omega
 simp [binOp,gE,this]
theorem Ei {T:TypeId} {p q:Int} (hz:p - q = z) (h1:-9223372036854775808≤z) (h2:z≤9223372036854775807) (W:World):(binOp .sub T (.int .i64 p) (.int .i64 q)).run P W = .ok (.int .i64 z) W:=by
 have:eZ.wrap (p - q) = z:=by rw [dy];omega
 simp [binOp,gE,this]
theorem JM {T:TypeId} {p q:Int} (hz:p * q = z) (h1:-9223372036854775808≤z) (h2:z≤9223372036854775807) (W:World):(binOp .mul T (.int .i64 p) (.int .i64 q)).run P W = .ok (.int .i64 z) W:=by
 have:eZ.wrap (p * q) = z:=by rw [dy];omega
 simp [binOp,gE,this]
theorem JF {T:TypeId} {k:IntKind} {p q:Int} (W:World):(binOp .lss T (.int k p) (.int k q)).run P W = .ok (.bool (decide (p < q))) W:=by simp [binOp,gh]
theorem Ti {T:TypeId} {k:IntKind} {p q:Int} (W:World):(binOp .leq T (.int k p) (.int k q)).run P W = .ok (.bool (decide (p≤q))) W:=by simp [binOp,gh]
theorem TF {T:TypeId} {k:IntKind} {p q:Int} (W:World):(binOp .gtr T (.int k p) (.int k q)).run P W = .ok (.bool (decide (q < p))) W:=by simp [binOp,gh]
theorem Ug {T:TypeId} {k:IntKind} {p q:Int} (W:World):(binOp .geq T (.int k p) (.int k q)).run P W = .ok (.bool (decide (q≤p))) W:=by simp [binOp,gh]
theorem abU {T:TypeId} {k:IntKind} {p q:Int} (W:World):(binOp .eql T (.int k p) (.int k q)).run P W = .ok (.bool (p == q)) W:=by simp [binOp,gh]
theorem aaG {T:TypeId} {k:IntKind} {p q:Int} (W:World):(binOp .neq T (.int k p) (.int k q)).run P W = .ok (.bool (p != q)) W:=by simp [binOp,gh]
theorem Ur {T:TypeId} {p q:Int} (hq:0 < q) (hp:0≤p) (h2:p≤9223372036854775807) (hz:p / q = z) (W:World):(binOp .quo T (.int .i64 p) (.int .i64 q)).run P W = .ok (.int .i64 z) W:=by
 have h3:p.tdiv q = z:=by rw [Int.tdiv_eq_ediv_of_nonneg hp];exact hz
 have h4:0≤z:=by rw [← hz];exact Int.ediv_nonneg hp (by omega)
 have h5:z≤p:=by rw [← hz];exact Int.ediv_le_self _ hp
 have:eZ.wrap (p.tdiv q) = z:=by rw [h3,dy];omega
 simp [binOp,Op.intDiv,this,show ¬ q = 0 by omega]
theorem TC {T:TypeId} {k:IntKind} {p q:Int} (hq:0 < q) (hp:0≤p) (hz:p % q = z) (W:World):(binOp .rem T (.int k p) (.int k q)).run P W = .ok (.int k z) W:=by
 have h3:p.tmod q = z:=by rw [gO hp];exact hz
 simp [binOp,Op.intDiv,h3,show ¬ q = 0 by omega]
theorem Rl {T:TypeId} {p:Int} {k:IntKind} {q:Int} (hq:q = n) (hn:n≤64) (hz:p * 2 ^ n = z) (h1:-9223372036854775808≤z) (h2:z≤9223372036854775807) (W:World):(binOp .shl T (.int .i64 p) (.int k q)).run P W = .ok (.int .i64 z) W:=by
 subst hq;have:eZ.wrap (p * 2 ^ n) = z:=by rw [hz,dy];omega
 simp [binOp,Op.shift,IntKind.bits,bX hn,this]
theorem aaV {T:TypeId} {p:Int} {k k':IntKind} {q:Int} (hq:q = n) (hn:n≤k.bits) (hz:p / 2 ^ n = z) (W:World):(binOp .shr T (.int k p) (.int k' q)).run P W = .ok (.int k z) W:=by
 subst hq;have e:p.fdiv (2 ^ n) = z:=by rw [Int.fdiv_eq_ediv_of_nonneg _ (Int.le_of_lt (Int.pow_pos (by omega)))];exact hz
 simp [binOp,Op.shift,bX hn,e,show ¬ ((n:Int) < 0) by omega]
theorem Yi {T:TypeId} {x:Operand} {b:Bool} (ho:o.op = .unOp .not T x) (hd:o.dst = some d) (hdm:d < m) (hn:aB Γ d = true) (hx:Ev kw X0 w0 m Γ x (.bool b)):dB P kw X0 w0 m Γ o ((d,.dat (.val (.bool !b))) :: Γ) :=
 bK hd hdm hn rfl fun a W X Ow hs=>⟨.bool !b,by simp [execOp,ho,hx a W hs.fs,Op.unary],gI rfl⟩
theorem ae3 {T:TypeId} {x:Operand} {p:Int} (ho:o.op = .unOp .neg T x) (hd:o.dst = some d) (hdm:d < m) (hn:aB Γ d = true) (hx:Ev kw X0 w0 m Γ x (.int .i64 p)) (hz:-p = z) (h1:-9223372036854775808≤z) (h2:z≤9223372036854775807):dB P kw X0 w0 m Γ o ((d,.dat (.val (.int .i64 z))) :: Γ) :=
 bK hd hdm hn rfl fun a W X Ow hs=>⟨.int .i64 z,by
  have:eZ.wrap (0 - p) = z:=by rw [dy];omega
  simp only [execOp,ho,hx a W hs.fs,Op.unary,gE,this,bs,cg,bj],gI rfl⟩
theorem Rj {src dst:TypeId} {x:Operand} {k k2:IntKind} {p:Int} {ds:TypeDesc} (ho:o.op = .convert src dst x) (hd:o.dst = some d) (hdm:d < m) (hn:aB Γ d = true) (hx:Ev kw X0 w0 m Γ x (.int k p)) (hs1:P.underlying src = some ds) (hs2:P.underlying dst = some (.int k2)) (hz:k2.wrap p = z):dB P kw X0 w0 m Γ o ((d,.dat (.val (.int k2 z))) :: Γ) :=
 bK hd hdm hn rfl fun a W X Ow hs=>⟨.int k2 z,by simp [execOp,ho,hx a W hs.fs,convert,run_underlying hs1,run_underlying hs2,Conv.intToInt,hz],gI rfl⟩
theorem tN.nth:∀ {vs:List Value} {ds:List D} {i:Nat} {e:D},tN kw X W vs ds→ds[i]? = some e→∃ v,vs[i]? = some v∧Rep kw X W v e
 | [],[],i,e,_,h=>by simp at h
 | v :: vs,x :: ds,0,e,h,hi=>by simp at hi;subst hi;exact ⟨v,rfl,h.1⟩
 | v :: vs,x :: ds,i + 1,e,h,hi=>by simpa using tN.nth h.2 (by simpa using hi)
 | [],_ :: _,_,_,h,_=>h.elim
 | _ :: _,[],_,_,h,_=>h.elim
theorem Y8 {l:List D} {e:D} (ho:o.op = .extract (.tmp s) i) (hd:o.dst = some d) (hdm:d < m) (hn:aB Γ d = true) (hl:lk Γ s = some (.bT l)) (hi:l[i]? = some e):dB P kw X0 w0 m Γ o ((d,.dat e) :: Γ) :=
 bK hd hdm hn rfl fun a W X Ow hs=>by
  have h:=hs.facts s _ hl;unfold ah at h;obtain ⟨vs,h1,h2⟩:=h;obtain ⟨v,h3,h4⟩:=h2.nth hi;have h3':vs[i]? = some v:=by simpa using h3
  refine ⟨v,?_,by unfold ah;exact h4⟩;have h1':a.eval (.tmp s) = .tuple vs:=h1;simp [execOp,ho,h1',Instr.extract,h3']
theorem WZ {c:Nat} {b b' p:Bool} (ho:o.op = .pick (.tmp c) (.tmp s) (.const (.bool false))) (hd:o.dst = some d) (hdm:d < m) (hn:aB Γ d = true) (hc:lk Γ c = some (.dat (.val (.bool b)))) (hl:lk Γ s = some (.kS b' (.dat (.val (.bool p))))) (hb:b = true→b' = true) :
 dB P kw X0 w0 m Γ o ((d,.dat (.val (.bool (b && p)))) :: Γ) :=
 bK hd hdm hn rfl fun a W X Ow hs=>⟨.bool (b && p),by
  have h1:=hs.fs.val hc;have h2:=hs.facts s _ hl;unfold ah at h2;cases b with
  | true=>have h3:=h2.1 (hb rfl);unfold ah at h3;have h4:a.eval (.tmp s) = .bool p:=gy h3;simp [execOp,ho,h1,asBool,h4]
  | false=>simp [execOp,ho,h1,asBool,du] at h1 ⊢;simp [h1],gI rfl⟩
theorem acW {c:Nat} {b b' p:Bool} (ho:o.op = .pick (.tmp c) (.const (.bool true)) (.tmp s)) (hd:o.dst = some d) (hdm:d < m) (hn:aB Γ d = true) (hc:lk Γ c = some (.dat (.val (.bool b)))) (hl:lk Γ s = some (.kS b' (.dat (.val (.bool p))))) (hb:b = false→b' = true) :
 dB P kw X0 w0 m Γ o ((d,.dat (.val (.bool (b || p)))) :: Γ) :=
 bK hd hdm hn rfl fun a W X Ow hs=>⟨.bool (b || p),by
  have h1:=hs.fs.val hc;have h2:=hs.facts s _ hl;unfold ah at h2;cases b with
  | false=>have h3:=h2.1 (hb rfl);unfold ah at h3;have h4:a.eval (.tmp s) = .bool p:=gy h3;simp [execOp,ho,h1,asBool,h4]
  | true=>simp [execOp,ho,h1,asBool,du] at h1 ⊢;simp [h1],gI rfl⟩
theorem qW {T off:Nat} (h:FI P T i off) (b o':Nat) (W:World):(kg T (.pointer (some ⟨b,o',none⟩)) i).run P W = .ok (.pointer (some ⟨b,o' + off,none⟩)) W:=by
 obtain ⟨fields,f,n,h1,h2,h3,h4⟩:=h.ex;cases hq:P.info? f.type with
 | none=>simp [hq] at h4
 | some info =>
  have hs:info.size = n + 1:=by simpa [hq] using h4
  simp [kg,run_underlying h1,h2,j8,fieldPlace,sizeOf,typeInfo,hq,hs,h3,ia]
theorem Va {T off:Nat} {pre post:List D} {e:D} (ho:o.op = .fieldAddr T (.tmp s) i) (hd:o.dst = some d) (hdm:d < m) (hn:aB Γ d = true) (hf:FI P T i off) (hl:lk Γ s = some (.ptr (.agg (pre ++ e :: post)))) (hoff:D.widths pre = off) :
 dB P kw X0 w0 m Γ o ((d,.ptr e) :: Γ) :=
 bK hd hdm hn rfl fun a W X Ow hs=>by
  have h:=hs.facts s _ hl;unfold ah at h;obtain ⟨b,o',es,h1,h2,h3⟩:=h;have h1':a.eval (.tmp s) = .pointer (some ⟨b,o',none⟩):=h1;refine ⟨.pointer (some ⟨b,o' + off,none⟩),by simp [execOp,ho,h1',qW hf],?_⟩;unfold aU at h3;obtain ⟨c1,c2,rfl,h4,h5⟩:=h3.split;unfold aF at h5;obtain ⟨c3,c4,rfl,h6,h7⟩:=h5;have hlen:c1.length = off:=by rw [h4.len];exact hoff
  unfold ah;refine ⟨b,o' + off,c3,rfl,fun j v hj=>?_,h6⟩;have:=h2 (off + j) v (by rw [← hlen,e8 (by omega),show c1.length + j - c1.length = j by omega,fg (bh.1 hj).1];exact hj);rwa [← fh] at this
theorem Iq {T off:Nat} {e:D} (ho:o.op = .fieldAddr T (.tmp s) i) (hd:o.dst = some d) (hdm:d < m) (hn:aB Γ d = true) (hf:FI P T i off) (hl:lk Γ s = some (.box e)):dB P kw X0 w0 m Γ o ((d,.sub s off) :: Γ) :=
 bK hd hdm hn rfl fun a W X Ow hs=>by
  have h:=hs.facts s _ hl;unfold ah at h;obtain ⟨b,es,t,h1,h2,-⟩:=h;have h2':a.eval (.tmp s) = .pointer (some ⟨b,0,none⟩):=h2;exact ⟨.pointer (some ⟨b,0 + off,none⟩),by simp [execOp,ho,h2',qW hf],by unfold ah;exact ⟨b,h1,by simp⟩⟩
theorem I7 {T s' off o' o2:Nat} (ho:o.op = .fieldAddr T (.tmp s) i) (hd:o.dst = some d) (hdm:d < m) (hn:aB Γ d = true) (hf:FI P T i off) (hl:lk Γ s = some (.sub s' o')) (ho2:o' + off = o2):dB P kw X0 w0 m Γ o ((d,.sub s' o2) :: Γ) :=
 bK hd hdm hn rfl fun a W X Ow hs=>by
  have h:=hs.facts s _ hl;unfold ah at h;obtain ⟨b,h1,h2⟩:=h;have h2':a.eval (.tmp s) = .pointer (some ⟨b,o',none⟩):=h2;exact ⟨.pointer (some ⟨b,o2,none⟩),by simp [execOp,ho,h2',qW hf,ho2],by unfold ah;exact ⟨b,h1,rfl⟩⟩
theorem iU {T:Nat} {ag:Bool} {o':Nat} {es:List Value} (ti:TI P T k ag) (hl:es.length = k) (hk:ag = false→k = 1) (hc:∀ j v,es[j]? = some v→W.cell? ⟨b,o' + j,none⟩ = some v) :
 (kn T (.pointer (some ⟨b,o',none⟩))).run P W = .ok (if ag then .agg es.toArray else es.headD undef) W:=by
 obtain ⟨dsc,h1,h2⟩:=ti.desc;cases ag with
 | true =>
  rw [run_loadAt_mid W b o' T es dsc hc h1 h2 (by rw [ti.size,hl])];rfl
 | false =>
  have h3:=hk rfl
  match es,hl with
  | [v],_ =>
   have h4:=hc 0 v rfl;have h5:(isAgg T).run P W = .ok false W:=by
    unfold isAgg;rw [bs,run_underlying h1 W];cases dsc <;> simp_all
   simp at h4;simp [kn,j8,loadVar,h5,h4]
  | [],hl=>simp [h3] at hl
  | _ :: _ :: _,hl=>simp [h3] at hl
theorem rO {e:D}:D.mk e cs = if e.isAgg then .agg cs.toArray else cs.headD undef:=rfl
theorem width_one {e:D} (h:e.isAgg = false):e.width = 1:=by cases e <;> first | rfl | cases h
theorem Jo {T:Nat} {e:D} (ho:o.op = .load T (.tmp s)) (hd:o.dst = some d) (hdm:d < m) (hn:aB Γ d = true) (ti:TI P T e.width e.isAgg) (hl:lk Γ s = some (.ptr e)):dB P kw X0 w0 m Γ o ((d,.dat e) :: Γ) :=
 bK hd hdm hn rfl fun a W X Ow hs=>by
  have h:=hs.facts s _ hl;unfold ah at h;obtain ⟨b,o',es,h1,h2,h3⟩:=h;have h1':a.eval (.tmp s) = .pointer (some ⟨b,o',none⟩):=h1;exact ⟨D.mk e es,by simp only [execOp,ho,h1',iU ti h3.len width_one (fun j v hj=>(h2 j v hj).2),rO,bs,bj,cg],by unfold ah;exact ⟨es,h3,rfl⟩⟩
def ji (e:D) (o:Nat) (e':D):Prop:=∀ kw X W cs,aU kw X W e cs→aU kw X W e' ((cs.drop o).take e'.width)
theorem ji.refl (e:D):ji e 0 e:=fun kw X W cs h=>by rw [ew,← h.len,List.take_length];exact h
theorem ji.field {pre post:List D} {e e':D} {o o2:Nat} (h:ji e o e') (h2:D.widths pre + o = o2) (hw:o + e'.width≤e.width):ji (.agg (pre ++ e :: post)) o2 e':=fun kw X W cs hr=>by
 unfold aU at hr;obtain ⟨c1,c2,rfl,h4,h5⟩:=hr.split;unfold aF at h5;obtain ⟨c3,c4,rfl,h6,h7⟩:=h5;have:=h kw X W c3 h6;have e3:=h6.len;have e1:(List.drop o2 (c1 ++ (c3 ++ c4))).take e'.width = (c3.drop o).take e'.width:=by
  rw [← h2,← h4.len,List.drop_append,ie (by omega),List.nil_append,show c1.length + o - c1.length = o by omega,List.drop_append_of_le_length (by omega),List.take_append_of_le_length (by rw [dj];omega)]
 rw [e1];exact this
theorem bW {es:List Value} {t:TypeId} (h:W.heap[b]? = some (.cells es.toArray t (0,0))) (j:Nat):W.cell? ⟨b,j,none⟩ = es[j]?:=by
 simp [World.cell?,h]
theorem xE {T s' o':Nat} {e0 e:D} (ho:o.op = .load T (.tmp s)) (hd:o.dst = some d) (hdm:d < m) (hn:aB Γ d = true) (ti:TI P T e.width e.isAgg) (hl:lk Γ s = some (.sub s' o')) (hl':lk Γ s' = some (.box e0)) (hp:ji e0 o' e):dB P kw X0 w0 m Γ o ((d,.dat e) :: Γ) :=
 bK hd hdm hn rfl fun a W X Ow hs=>by
  have h:=hs.facts s _ hl;have h':=hs.facts s' _ hl';unfold ah at h h';obtain ⟨b,h1,h2⟩:=h;obtain ⟨b',es,t,g1,g2,g3,g4,g5⟩:=h';obtain rfl:b = b':=cV (h1.symm.trans g1);have h2':a.eval (.tmp s) = .pointer (some ⟨b,o',none⟩):=h2;have h3:=hp kw X W es g4;refine ⟨D.mk e ((es.drop o').take e.width),?_,by unfold ah;exact ⟨_,h3,rfl⟩⟩;have hc:∀ j v,((es.drop o').take e.width)[j]? = some v→W.cell? ⟨b,o' + j,none⟩ = some v:=fun j v hj=>by
   rw [bW g3];rw [a6] at hj
   split at hj
   · rw [dp] at hj;exact hj
   · cases hj
  simp only [execOp,ho,h2',iU ti h3.len width_one hc,rO,bs,bj,cg]
theorem Cj {T:Nat} {e:D} (ho:o.op = .load T (.tmp s)) (hd:o.dst = some d) (hdm:d < m) (hn:aB Γ d = true) (ti:TI P T e.width e.isAgg) (hl:lk Γ s = some (.box e)):dB P kw X0 w0 m Γ o ((d,.dat e) :: Γ) :=
 bK hd hdm hn rfl fun a W X Ow hs=>by
  have h:=hs.facts s _ hl;unfold ah at h;obtain ⟨b,es,t,h1,h2,g3,g4,g5⟩:=h;have h2':a.eval (.tmp s) = .pointer (some ⟨b,0,none⟩):=h2;refine ⟨D.mk e es,?_,by unfold ah;exact ⟨_,g4,rfl⟩⟩;simp only [execOp,ho,h2',iU ti g4.len width_one (fun j v hj=>by rw [fL,bW g3];exact hj),rO,bs,bj,cg]
theorem IC {T s':Nat} {l:List D} {e:D} (ho:o.op = .load T (.tmp s)) (hd:o.dst = some d) (hdm:d < m) (hn:aB Γ d = true) (ti:TI P T e.width e.isAgg) (hl:lk Γ s = some (.qH s' i k)) (hl':lk Γ s' = some (.own k l)) (hi:l[i]? = some e):dB P kw X0 w0 m Γ o ((d,.dat e) :: Γ) :=
 bK hd hdm hn rfl fun a W X Ow hs=>by
  have h:=hs.facts s _ hl;have h':=hs.facts s' _ hl';unfold ah at h h';obtain ⟨b,h1,h2⟩:=h;obtain ⟨b',c,es,t,g1,g2,g3,g4,g5,g6,g7,g8⟩:=h';obtain rfl:b = b':=cV (h1.symm.trans g1);have h2':a.eval (.tmp s) = .pointer (some ⟨b,i * k,none⟩):=h2;have h3:=g7.nth g4 hi;have hw:e.width = k:=g4 e (fT hi);have hil:i < l.length:=(bh.1 hi).1;refine ⟨D.mk e (((es.take (l.length * k)).drop (i * k)).take k),?_,by unfold ah;exact ⟨_,h3,rfl⟩⟩;have hc:∀ j v,(((es.take (l.length * k)).drop (i * k)).take k)[j]? = some v→W.cell? ⟨b,i * k + j,none⟩ = some v:=fun j v hj=>by
   rw [bW g5];rw [a6] at hj
   split at hj
   · rw [dp,a6] at hj
     split at hj
     · exact hj
     · cases hj
   · cases hj
  simp only [execOp,ho,h2',iU ti h3.len width_one hc,rO,bs,bj,cg]
theorem AA {T:TypeId} (h:P.underlying T = some (.slice e)) (A:Option Addr) (n c:Nat) (ty:TypeId):(j9 #[T] ty #[.slice A n c]).run P W = .ok (.int .i64 n) W:=by
 simp [j9,run_underlying h,goInt]
def lenOf:F→Option Nat
 | .dat (.list _ l)=>some l.length
 | .own _ l=>some l.length
 | .grow _ l=>some l.length
 | .dat (.mag x)=>some (wl x)
 | _=>none
theorem GY {f:F} (h:lenOf f = some n) {tm:Nat→Value} (hf:ah kw X W Ow tm s f):∃ A c,tm s = .slice A n c:=by
 cases f <;> try (simp [lenOf] at h;done)
 case dat e =>
  cases e <;> try (simp [lenOf] at h;done)
  case list k l=>simp [lenOf] at h;subst h;unfold ah at hf;obtain ⟨A,c,h1,_⟩:=jm hf;exact ⟨A,c,h1⟩
  case mag x =>
   simp [lenOf] at h;subst h;unfold ah at hf;obtain ⟨_,A,n,c,l,h1,h2,h3,h4⟩:=nS hf;exact ⟨A,c,by rw [h1,h3.lY h2,h4]⟩
 case own k l=>simp [lenOf] at h;subst h;unfold ah at hf;obtain ⟨b,c,es,t,_,h1,_⟩:=hf;exact ⟨_,c,h1⟩
 case grow k l =>
  simp [lenOf] at h;subst h;unfold ah at hf;rcases hf.2 with ⟨h1,h2⟩ | ⟨b,c,es,t,_,h1,_⟩
  · exact ⟨none,0,by rw [h1,h2];rfl⟩
  · exact ⟨_,c,h1⟩
theorem aaf {T e:Nat} {f:F} (ho:o.op = .call { callee:=.builtin .len,args:=#[.tmp s],argTypes:=#[T] }) (hd:o.dst = some d) (hdm:d < m) (hn:aB Γ d = true) (hT:P.underlying T = some (.slice e)) (hl:lk Γ s = some f) (hlen:lenOf f = some n):dB P kw X0 w0 m Γ o ((d,.dat (.val (.int .i64 (n:Int)))) :: Γ) :=
 bK hd hdm hn rfl fun a W X Ow hs=>by
  obtain ⟨A,c,h1⟩:=GY hlen (hs.facts s _ hl);have h1':a.eval (.tmp s) = .slice A n c:=h1;exact ⟨.int .i64 n,by simp [execOp,ho,resolve,invoke,builtin,h1',AA hT],gI rfl⟩
theorem Gx {T e s':Nat} {f:F} (ho:o.op = .call { callee:=.builtin .len,args:=#[.tmp s],argTypes:=#[T] }) (hd:o.dst = some d) (hdm:d < m) (hn:aB Γ d = true) (hT:P.underlying T = some (.slice e)) (hl:lk Γ s = some (.zy s')) (hl':lk Γ s' = some f) (hlen:lenOf f = some n):dB P kw X0 w0 m Γ o ((d,.dat (.val (.int .i64 (n:Int)))) :: Γ) :=
 bK hd hdm hn rfl fun a W X Ow hs=>by
  obtain ⟨A,c,h1⟩:=GY hlen (hs.facts s' _ hl');have h2:=hs.facts s _ hl;unfold ah at h2;have h1':a.eval (.tmp s) = .slice A n c:=h2.trans h1;exact ⟨.int .i64 n,by simp [execOp,ho,resolve,invoke,builtin,h1',AA hT],gI rfl⟩
theorem P7 {T e:Nat} (ho:o.op = .call { callee:=.builtin .len,args:=#[.tmp s],argTypes:=#[T] }) (hd:o.dst = some d) (hdm:d < m) (hn:aB Γ d = true) (hT:P.underlying T = some (.slice e)) (hl:lk Γ s = some (.dat (.val (.slice none 0 0)))):dB P kw X0 w0 m Γ o ((d,.dat (.val (.int .i64 0))) :: Γ) :=
 bK hd hdm hn rfl fun a W X Ow hs=>by
  have h1:=hs.fs.val hl;exact ⟨.int .i64 0,by simp [execOp,ho,resolve,invoke,builtin,h1,AA hT],gI rfl⟩
theorem run_indexAt {T:Nat} (si:SI P T k) {o' c:Nat} (hz:z = i) (hi:i < n):(kf T (.slice (some ⟨b,o',none⟩) n c) (.int .i64 z)).run P W = .ok (.pointer (some ⟨b,o' + i * k,none⟩)) W:=by
 obtain ⟨e,h1,h2⟩:=si.ex;cases hq:P.info? e with
 | none=>simp [hq] at h2
 | some info =>
  have hs:info.size = k:=by simpa [hq] using h2
  subst hz;simp [kf,asIntOf,run_underlying h1,sizeOf,typeInfo,hq,hs,hi,ia]
theorem Tf {T:Nat} {x:Operand} {l:List D} {e:D} (ho:o.op = .indexAddr T (.tmp s) x) (hd:o.dst = some d) (hdm:d < m) (hn:aB Γ d = true) (si:SI P T k) (hl:lk Γ s = some (.dat (.list k l))) (hx:Ev kw X0 w0 m Γ x (.int .i64 z)) (hz:z = i) (hi:l[i]? = some e) :
 dB P kw X0 w0 m Γ o ((d,.ptr e) :: Γ) :=
 bK hd hdm hn rfl fun a W X Ow hs=>by
  have h:=hs.facts s _ hl;unfold ah at h;obtain ⟨A,c,h1,h2,h3,h4⟩:=jm h;have hil:i < l.length:=(bh.1 hi).1;obtain ⟨b,o',es,rfl,h5,h6,h7⟩:=h4 (fun e0=>by rw [e0] at hil;simp at hil);have h1':a.eval (.tmp s) = .slice (some ⟨b,o',none⟩) l.length c:=h1;refine ⟨.pointer (some ⟨b,o' + i * k,none⟩),by simp only [execOp,ho,h1',hx a W hs.fs,run_indexAt si hz hil,bs,bj,cg],?_⟩;unfold ah;refine ⟨b,o' + i * k,_,rfl,fun j v hj=>?_,h7.nth h3 hi⟩;rw [a6] at hj
  split at hj
  · rw [dp] at hj;have:=h6 _ v hj;rwa [← fh] at this
  · cases hj
theorem CY {T s':Nat} {x:Operand} {l:List D} (ho:o.op = .indexAddr T (.tmp s) x) (hd:o.dst = some d) (hdm:d < m) (hn:aB Γ d = true) (si:SI P T k) (hl:lk Γ s = some (.zy s')) (hl':lk Γ s' = some (.own k l)) (hx:Ev kw X0 w0 m Γ x (.int .i64 z)) (hz:z = i) (hi:i < l.length) :
 dB P kw X0 w0 m Γ o ((d,.qH s' i k) :: Γ) :=
 bK hd hdm hn rfl fun a W X Ow hs=>by
  have h:=hs.facts s _ hl;have h':=hs.facts s' _ hl';unfold ah at h h';obtain ⟨b,c,es,t,g1,g2,g3⟩:=h';have h1':a.eval (.tmp s) = .slice (some ⟨b,0,none⟩) l.length c:=h.trans g2;exact ⟨.pointer (some ⟨b,0 + i * k,none⟩),by simp only [execOp,ho,h1',hx a W hs.fs,run_indexAt si hz hi,bs,bj,cg],by unfold ah;exact ⟨b,g1,by simp⟩⟩
variable (kw X0 w0 m) in
def EvO (Γ:fA) (x:Option Operand) (z:Option Int):Prop:=∀ a W,FSq kw X0 w0 m Γ a W→x.map a.eval = z.map (d8 .i64)
theorem EvO.none:EvO kw X0 w0 m Γ none none:=fun _ _ _=>rfl
theorem EvO.some {x:Operand} (h:Ev kw X0 w0 m Γ x (.int .i64 z)):EvO kw X0 w0 m Γ (some x) (some z):=fun a W hs=>by simp [h a W hs]
theorem rE {T:Nat} (si:SI P T k) {o' c l h:Nat} {lo hi:Option Int} (hlo:lo.getD 0 = l) (hhi:hi.getD n = h) (h1:l≤h) (h2:h≤c) (W:World) :
 (gg T (.slice (some ⟨b,o',none⟩) n c) (lo.map (d8 .i64)) (hi.map (d8 .i64)) none).run P W = .ok (.slice (some (if c = l then ⟨b,o',none⟩ else ⟨b,o' + l * k,none⟩)) (h - l) (c - l)) W:=by
 obtain ⟨e,g1,g2⟩:=si.ex;cases hq:P.info? e with
 | none=>simp [hq] at g2
 | some info =>
  have hs:info.size = k:=by simpa [hq] using g2
  have hb:(bA true n c (lo.map (d8 .i64)) (hi.map (d8 .i64)) none).run P W = .ok (l,h,c) W:=by
   have e1:∀ code,(da (.int .i64 (h:Int)) c code).run P W = .ok h W:=fun code=>by
    have:((h:Int)≤(c:Int)):=by omega
    simp [da,asIntOf,this]
   have e2:∀ code,(da (.int .i64 (l:Int)) h code).run P W = .ok l W:=fun code=>by
    have:((l:Int)≤(h:Int)):=by omega
    simp [da,asIntOf,this]
   cases lo with
   | none =>
    simp at hlo;cases hi with
    | none=>simp at hhi;simp [bA,hlo,hhi];omega
    | some z=>simp at hhi;subst hhi;simp [bA,e1,hlo];omega
   | some y =>
    simp at hlo;subst hlo;cases hi with
    | none=>simp at hhi;have:=hhi;simp [bA];rw [show n = h by omega,e2];simp
    | some z=>simp at hhi;subst hhi;simp [bA,e1,e2]
  simp only [gg,bs,run_underlying g1,bj,kt,hb]
  by_cases hc:c = l
  · simp [sizeOf,typeInfo,hq,hc]
  · simp [sizeOf,typeInfo,hq,hs,hc,ia]
theorem Ea {T:Nat} (si:SI P T k) {c:Nat} {lo hi:Option Int} (hlo:lo.getD 0 = 0) (hhi:hi.getD 0 = 0) (W:World) :
 ∃ A',(gg T (.slice A 0 c) (lo.map (d8 .i64)) (hi.map (d8 .i64)) none).run P W = .ok (.slice A' 0 c) W:=by
 obtain ⟨e,g1,g2⟩:=si.ex;cases hq:P.info? e with
 | none=>simp [hq] at g2
 | some info =>
  have hb:(bA true 0 c (lo.map (d8 .i64)) (hi.map (d8 .i64)) none).run P W = .ok (0,0,c) W:=by
   cases lo with
   | none =>
    cases hi with
    | none=>simp [bA]
    | some z=>simp at hhi;subst hhi;simp [bA,da,asIntOf]
   | some y =>
    simp at hlo;subst hlo;cases hi with
    | none=>simp [bA,da,asIntOf]
    | some z=>simp at hhi;subst hhi;simp [bA,da,asIntOf]
  refine ⟨if c = 0 then A else A.map (·.add (0 * info.size)),?_⟩;simp only [gg,bs,run_underlying g1,bj,kt,hb];simp [sizeOf,typeInfo,hq]
theorem adT {T:Nat} {lo hi:Option Operand} {zl zh:Option Int} {l1 l2 l3:List D} (ho:o.op = .slice T (.tmp s) lo hi none) (hd:o.dst = some d) (hdm:d < m) (hn:aB Γ d = true) (si:SI P T k) (hl:lk Γ s = some (.dat (.list k (l1 ++ l2 ++ l3)))) (hlo:EvO kw X0 w0 m Γ lo zl) (hhi:EvO kw X0 w0 m Γ hi zh) (h1:zl.getD 0 = l1.length) (h2:zh.getD ((l1 ++ l2 ++ l3).length:Nat) = (l1.length + l2.length:Nat)):dB P kw X0 w0 m Γ o ((d,.dat (.list k l2)) :: Γ) :=
 bK hd hdm hn rfl fun a W X Ow hs=>by
  have h:=hs.facts s _ hl;unfold ah at h;obtain ⟨A,c,g1,g2,g3,g4⟩:=jm h;generalize hL:l1 ++ l2 ++ l3 = L at *;have g1':a.eval (.tmp s) = .slice A L.length c:=g1;have hle:l1.length + l2.length≤L.length:=by rw [← hL];simp
  have g3':∀ e∈l2,e.width = k:=fun e he=>g3 e (by rw [← hL];simp [he])
  by_cases hnil:L = []
  · have e1:l1 = []∧l2 = []∧l3 = []:=by rw [← hL] at hnil;simp at hnil;exact ⟨hnil.1,hnil.2.1,hnil.2.2⟩
    obtain ⟨rfl,rfl,rfl⟩:=e1;rw [hnil] at g1' h2;obtain ⟨A',hr⟩:=Ea (P:=P) si (A:=A) (c:=c) (lo:=zl) (hi:=zh) (by simpa using h1) (by simpa using h2) W;refine ⟨.slice A' 0 c,?_,?_⟩
    · simp only [execOp,ho,g1',hlo a W hs.fs,hhi a W hs.fs,jt,List.length_nil,hr,bs,bj,cg]
    · unfold ah;exact dI (l:=[]) (by simp) (by simp) (fun h=>absurd rfl h)
  · obtain ⟨b,o',es,rfl,g5,g6,g7⟩:=g4 hnil;have hr:=rE (P:=P) si (b:=b) (o':=o') (n:=L.length) (c:=c) (lo:=zl) (hi:=zh) h1 (by rw [h2]) (by omega) (by omega) W;refine ⟨_,by simp only [execOp,ho,g1',hlo a W hs.fs,hhi a W hs.fs,jt,hr,bs,bj,cg];rfl,?_⟩;unfold ah;rw [show l1.length + l2.length - l1.length = l2.length by omega];refine dI (by omega) g3' fun hl2=>?_
    have hpos:0 < l2.length:=by cases l2 <;> simp_all
    rw [if_neg (by omega)];rw [← hL] at g7;obtain ⟨c12,c3,rfl,f1,f2⟩:=g7.split;obtain ⟨c1,c2,rfl,f3,f4⟩:=f1.split;have hk1:c1.length = l1.length * k:=by rw [f3.len];exact D.dF fun e he=>g3 e (by rw [← hL];simp [he])
    have hk2:c2.length = l2.length * k:=by rw [f4.len];exact D.dF g3'
    refine ⟨b,o' + l1.length * k,c2,rfl,hk2,fun j v hj=>?_,f4⟩;have hj':=(bh.1 hj).1;have:=g6 (l1.length * k + j) v (by rw [← hk1,gr,e8 (by omega),show c1.length + j - c1.length = j by omega,fg hj'];exact hj);rwa [← fh] at this
end
end Go.Proofs.YtjdakpfhjlhcbaaGreat
