/-
  Lemmas and contracts for the statement.
-/
import Derived.Test.YtjdakpfhjlhcbaaGreatJ1
import Derived.Laws.OwnMore
namespace Go.Proofs.YtjdakpfhjlhcbaaGreat
set_option linter.all false
set_option maxRecDepth 100000
set_option maxHeartbeats 16000000
open Go.RowKit Go.Sort
open Go.Proofs.Tryz renaming prog → aD
open Go.Lib renaming hid → aE
open _root_.Array renaming ext'→gE,getElem?_eq_some_iff→eV,length_toList→bj,range→eJ,replicate→cQ,toArray_toList→fR,toList_map→eI,toList_range→ew
open Bool renaming and_eq_true→bw,false_or→ep,or_eq_true_iff→cP
open Function renaming comp_def→fN
open Go.Act renaming eval→eB
open Go.Addr renaming add_mid→fh
open Go.Array renaming range_zero'→eA
open Go.Builtin renaming append_→ea,firstCells→bq,lenOf→f8,zeroCells→ar
open Go.Deferred renaming ofValue→fS
open Go.Exit renaming inBlock→dc
open Go.Instr renaming build→dp,buildSlice→cw,fill→br,storeAt→e8,sureAddr→gj
open Go.Region renaming chainB→gg,ready→gr,sinkB→gl,waitsFor→dr,waitsFor_spec→fj
open Go.Result renaming andThen_ok→ao
open Go.Sem renaming run_bind→bc,run_pure→a8
open Go.World renaming block_lt_of_cell?→bL,cell?→fI,cell?_of_block→ck,frozen?→eZ,setCell→gk,setCells→eT
open Iff renaming rfl→gA
open List renaming all_eq_true→bX,any_eq_true→f6,append_nil→eL,drop_append→d9,drop_eq_getElem_cons→cJ,drop_eq_nil_of_le→bp,getElem?_append_left→ff,getElem?_eq_getElem→cV,getElem?_eq_none→cg,getElem?_eq_some_iff→aM,getElem?_map→fW,getElem?_range→eo,getElem?_set_self→fw,getElem?_take→bA,length_append→aw,length_cons→dk,length_drop→fY,length_nil→gi,length_replicate→fL,length_set→eh,length_take→av,map_cons→bO,map_nil→cF,map_toArray→bs,mem_append→a6,mem_cons→fg,mem_cons_of_mem→du,mem_cons_self→dy,mem_of_getElem?→cH,mem_of_mem_drop→dt,mem_of_mem_take→bE,mem_range→de,nil_append→eK,range→ef,replicate→bB,replicate_succ→dx,set_eq_take_append_cons_drop→db,take_append→d8,take_append_drop→dj,take_left'→cj,take_of_length_le→aR,take_take→gx,take_zero→eW,zipIdx_cons→fX,zipIdx_map→gh
open Nat renaming add_mul→bk,add_zero→eE,le_mul_of_pos_right→fk,le_refl→bR,le_trans→gD,lt_of_lt_of_le→dz,lt_or_ge→cG,min_eq_left→da,mul_add→fT,mul_comm→eC,mul_le_mul_right→aL,sub_self→gC,zero_add→aq
open Ne renaming symm→bm
open Option.some renaming inj→bh
mutual
/-- No cell is a word. -/
def D.kJ:D→Bool
 | .val (.int .u32 _)=>false
 | .val _=>true
 | .mag _=>true
 | .list _ _=>true
 | .agg l=>D.ik l
def D.ik:List D→Bool
 | []=>true
 | d :: l=>d.kJ && D.ik l
end
section
variable {kw:Bool} {X:XS} {W:World}
mutual
theorem aU.kJ:∀ (d:D) (cs:List Value),aU kw X W d cs→d.kJ = true→∀ v∈cs,∀ i,v≠.int .u32 i
 | .val u,cs,h,hn,v,hv,i=>by
  unfold aU at h;rw [h.1] at hv;simp at hv;subst hv;intro e;rw [e] at hn;cases hn
 | .mag x,cs,h,hn,v,hv,i=>by
  unfold aU at h;obtain ⟨_,u,h1,A,n,c,l,rfl,_⟩:=h;rw [h1] at hv;simp at hv;rw [hv];exact fun e=>by cases e
 | .list k l,cs,h,hn,v,hv,i=>by
  unfold aU at h;obtain ⟨A,c,h1,_⟩:=h;rw [h1] at hv;simp at hv;rw [hv];exact fun e=>by cases e
 | .agg l,cs,h,hn,v,hv,i=>by unfold aU at h;unfold D.kJ at hn;exact aF.kJ l cs h hn v hv i
theorem aF.kJ:∀ (l:List D) (cs:List Value),aF kw X W l cs→D.ik l = true→∀ v∈cs,∀ i,v≠.int .u32 i
 | [],cs,h,_,v,hv,i=>by unfold aF at h;rw [h] at hv;cases hv
 | d :: l,cs,h,hn,v,hv,i=>by
  unfold aF at h;unfold D.ik at hn;simp only [bw] at hn;obtain ⟨c1,c2,rfl,h2,h3⟩:=h;rcases a6.1 hv with hv | hv
  · exact aU.kJ d c1 h2 hn.1 v hv i
  · exact aF.kJ l c2 h3 hn.2 v hv i
end
end
def qo (kw:Bool) (d:D):Prop:=kw = true→d.kJ = true
structure ZI (P:Program) (T:TypeId) (z:D):Prop where
 ex:∃ i v,P.info? T = some i∧i.zero = some v∧∀ kw X W,aU kw X W z v.cells.toList
section
variable {P:Program} {ops:Array Oper} {kw:Bool} {X0:XS} {w0:World} {m:Nat} {Γ Γ':fA} {a:Act} {W W':World} {X:XS} {Ow:Nat→Option Nat} {o:Oper} {d:Nat}
theorem Below.alloc1 (W:World) (ob:Obj):Below W.heap.size W (W.alloc ob):=(Below.refl _ W).alloc (bR _) ob
theorem alloc_at (W:World) (ob:Obj):(W.alloc ob).heap[W.heap.size]? = some ob:=heap_alloc_new W ob
theorem lG.fresh {v:Value} {f:F} (h:lG kw X0 w0 m Γ a W X Ow) (hd:d < m) (hn:aB Γ d = true) (hb:Below W.heap.size W W') (hs:W.heap.size < W'.heap.size) (S:Nat→Prop) (hf:ah kw (fun b o=>X b o∨(b = W.heap.size∧S o)) W' (fun t=>if t = d then some W.heap.size else Ow t) (bY (a.put (some d) v)) d f) :
 lG kw X0 w0 m ((d,f) :: Γ) (a.put (some d) v) W' (fun b o=>X b o∨(b = W.heap.size∧S o)) (fun t=>if t = d then some W.heap.size else Ow t):=by
 have hw:w0.heap.size≤W.heap.size:=h.below.size;refine ⟨by rw [iZ];exact h.size,by rw [fH];exact h.defs,h.below.trans (hb.mono h.below.size),h.x0,⟨fun b o hx=>.inl (h.env.sub b o hx),?_,?_,?_⟩,fun s g hl=>?_⟩
 · rintro b o (hx | ⟨rfl,_⟩)
   · exact (h.env.sup b o hx).imp id fun hh=>⟨hh.1,dz hh.2 hb.size⟩
   · exact .inr ⟨hw,hs⟩
 ·
  intro s s' b h1 h2
  by_cases e1:s = d <;> by_cases e2:s' = d <;> simp [e1,e2] at h1 h2 ⊢
  · have:=(h.env.wS s' b h2).2;omega
  · have:=(h.env.wS s b h1).2;omega
  · exact h.env.inj s s' b h1 h2
 · intro s b h1
   by_cases e1:s = d
   · simp [e1] at h1;subst h1;exact ⟨hw,hs⟩
   · simp [e1] at h1;have:=h.env.wS s b h1;exact ⟨this.1,dz this.2 hb.size⟩
 ·
  unfold lk at hl
  split at hl
  · rename_i es;injection hl with hl;rw [← hl,← es];exact hf
  ·
   rename_i es;have t1:Tr kw X (fun b o=>X b o∨(b = W.heap.size∧S o)) W W':=(Tr.of_below hb).trans (Tr.refl (X:=X) |>.trans ⟨fun _=>kE.refl _,fun b o v hx hc=>⟨hx,hc⟩⟩) |> fun t=>⟨t.ku,fun b o v hx hc=>⟨fun hx'=>by
    rcases hx' with hx' | ⟨e,_⟩
    · exact hx hx'
    · have:=bL W _ hc;simp only [e] at this;omega,(t.keep b o v hx hc).2⟩⟩
   have hne:∀ s',g.refs s' = true→s'≠d:=fun s' hr e2=>by rw [e2,nI hn hl] at hr;cases hr
   -- owners other than d stand
   have key:∀ (g:F),(∀ s',g.refs s' = true→s'≠d)→ah kw X W Ow (bY a) s g→ah kw (fun b o=>X b o∨(b = W.heap.size∧S o)) W' (fun t=>if t = d then some W.heap.size else Ow t) (bY (a.put (some d) v)) s g:=by
    intro g;have ev:bY (a.put (some d) v) s = bY a s:=eval_put_ne es;have hO:∀ t b,t≠d→Ow t = some b→(if t = d then some W.heap.size else Ow t) = some b∧W'.heap[b]? = W.heap[b]?∧∀ o,(X b o∨(b = W.heap.size∧S o))↔X b o:=fun t b h1 h2=>by
     have h3:=(h.env.wS t b h2).2;refine ⟨by rw [if_neg h1];exact h2,hb.block b h3,fun o=>⟨?_,.inl⟩⟩;rintro (h4 | ⟨h4,_⟩)
     · exact h4
     · omega
    induction g with
    | dat e=>intro _ h;unfold ah at h ⊢;rw [ev];exact h.tr t1
    | bT l=>intro _ h;unfold ah at h ⊢;rw [ev];obtain ⟨vs,h1,h2⟩:=h;exact ⟨vs,h1,h2.tr t1⟩
    | ptr e=>intro _ h;unfold ah at h ⊢;rw [ev];obtain ⟨b,o',es',h1,h2,h3⟩:=h;exact ⟨b,o',es',h1,h2.tr t1,aU.tr t1 _ _ h3⟩
    | box e =>
     intro _ h;unfold ah at h ⊢;rw [ev];obtain ⟨b,es',ty,g1,g2,g3,g4,g5,g6⟩:=h;obtain ⟨o1,o2,o3⟩:=hO s b (bm es) g1;exact ⟨b,es',ty,o1,g2,by rw [o2];exact g3,aU.tr t1 _ _ g4,g5,fun o=>(o3 o).2 (g6 o)⟩
    | sub s' o' =>
     intro r1 h;unfold ah at h ⊢;rw [ev];obtain ⟨b,g1,g2⟩:=h;exact ⟨b,(hO s' b (r1 s' (by simp [F.refs])) g1).1,g2⟩
    | own k l =>
     intro _ h;unfold ah at h ⊢;rw [ev];obtain ⟨b,c,es',ty,g1,g2,g3,g4,g5,g6,g7,g8,g9⟩:=h;obtain ⟨o1,o2,o3⟩:=hO s b (bm es) g1;exact ⟨b,c,es',ty,o1,g2,g3,g4,by rw [o2];exact g5,g6,aF.tr t1 _ _ g7,g8,fun o=>(o3 o).2 (g9 o)⟩
    | grow k l =>
     intro _ h;unfold ah at h ⊢;rw [ev];refine ⟨h.1,?_⟩;rcases h.2 with h | ⟨b,c,es',ty,g1,g2,g3,g5,g6,g7,g8,g9⟩
     · exact .inl h
     · obtain ⟨o1,o2,o3⟩:=hO s b (bm es) g1;exact .inr ⟨b,c,es',ty,o1,g2,g3,by rw [o2];exact g5,g6,aF.tr t1 _ _ g7,g8,fun o=>(o3 o).trans (g9 o)⟩
    | ov u k l =>
     intro _ h;unfold ah at h ⊢;obtain ⟨b,c,es',ty,g1,g2,g3,g4,g5,g6,g7,g8,g9⟩:=h;obtain ⟨o1,o2,o3⟩:=hO s b (bm es) g1;exact ⟨b,c,es',ty,o1,g2,g3,g4,by rw [o2];exact g5,g6,aF.tr t1 _ _ g7,g8,fun o=>(o3 o).2 (g9 o)⟩
    | gv u k l =>
     intro _ h;unfold ah at h ⊢;refine ⟨h.1,?_⟩;rcases h.2 with h | ⟨b,c,es',ty,g1,g2,g3,g5,g6,g7,g8,g9⟩
     · exact .inl h
     · obtain ⟨o1,o2,o3⟩:=hO s b (bm es) g1;exact .inr ⟨b,c,es',ty,o1,g2,g3,by rw [o2];exact g5,g6,aF.tr t1 _ _ g7,g8,fun o=>(o3 o).trans (g9 o)⟩
    | qE k l ds =>
     intro _ h;unfold ah at h ⊢;rw [ev];obtain ⟨v',vs,e1,e2,h0,h⟩:=h;refine ⟨v',vs,e1,e2.tr t1,h0,?_⟩;rcases h with h | ⟨b,c,es',ty,g1,g2,g3,g5,g6,g7,g8,g9⟩
     · exact .inl h
     · obtain ⟨o1,o2,o3⟩:=hO s b (bm es) g1;exact .inr ⟨b,c,es',ty,o1,g2,g3,by rw [o2];exact g5,g6,aF.tr t1 _ _ g7,g8,fun o=>(o3 o).trans (g9 o)⟩
    | Sm s' e =>
     intro r1 h;unfold ah at h ⊢;rw [ev,show bY (a.put (some d) v) s' = bY a s' from eval_put_ne (bm (r1 s' (by simp [F.refs])))];obtain ⟨cs,h1,h2⟩:=h;exact ⟨cs,h1,aU.tr t1 _ _ h2⟩
    | zy s' =>
     intro r1 h;unfold ah at h ⊢;rw [ev];rw [show bY (a.put (some d) v) s' = bY a s' from eval_put_ne (bm (r1 s' (by simp [F.refs])))];exact h
    | qH s' i k =>
     intro r1 h;unfold ah at h ⊢;rw [ev];obtain ⟨b,g1,g2⟩:=h;exact ⟨b,(hO s' b (r1 s' (by simp [F.refs])) g1).1,g2⟩
    | kS c f ih=>intro r1 h;unfold ah at h ⊢;exact ⟨fun hc=>ih (fun s' hr=>r1 s' (by simpa [F.refs] using hr)) (h.1 hc),fun hc=>ev.trans (h.2 hc)⟩
    | wp z=>intro _ h;unfold ah at h ⊢;rw [ev];obtain ⟨e,p,h1,h2⟩:=h;exact ⟨e,p,h1,t1.ku e p _ h2⟩
    | aan v9 f ih =>
     intro r1 h;unfold ah at h ⊢;exact ah.WJ (tm:=fun _=>v9) (tm':=fun _=>v9) t1 rfl (fun b hb=>hO s b (bm es) hb) (f:=f) (fun s' h'=>⟨rfl,fun b hb=>(hO s' b (r1 s' (by simpa [F.refs] using h')) hb).1⟩) h
    | AV s1 s2 =>
     intro r1 h;unfold ah at h ⊢;rw [ev,show bY (a.put (some d) v) s1 = bY a s1 from eval_put_ne (bm (r1 s1 (by simp [F.refs]))),show bY (a.put (some d) v) s2 = bY a s2 from eval_put_ne (bm (r1 s2 (by simp [F.refs])))];exact h
    | e0=>intro _ h;unfold ah at h ⊢;rw [ev];exact h
    | any=>intro _ _;unfold ah;trivial
   exact key g hne (h.facts s g hl)
theorem lG.OB {v:Value} {e:D} (h:lG kw X0 w0 m Γ a W X Ow) (hd:d < m) (hn:aB Γ d = true) (hb:Below W.heap.size W W') (hf:Rep kw X W' v e):lG kw X0 w0 m ((d,.dat e) :: Γ) (a.put (some d) v) W' X Ow :=
 h.put hd hn hb (by unfold ah;rw [iR h.size hd];exact hf)
theorem Nw {T:TypeId} {z:D} (ho:o.op = .alloc T) (hd:o.dst = some d) (hdm:d < m) (hn:aB Γ d = true) (zi:ZI P T z) (hu:qo kw z):dB P kw X0 w0 m Γ o ((d,.box z) :: Γ):=by
 intro a W hs;obtain ⟨X,Ow,hx⟩:=hs.x;obtain ⟨i,v,h1,h2,h3⟩:=zi.ex;have hr:(execOp a.eval o).run P W = .ok (.value (.pointer (some ⟨W.heap.size,0,none⟩))) (W.alloc (.cells v.cells T)):=by
  simp [execOp,ho,Instr.alloc,zeroValue,typeInfo,h1,h2,newVar,newRow]
 unfold oC;rw [hr,hd];refine (hx.fresh hdm hn (Below.alloc1 _ _) (by simp) (fun _=>True) ?_).fs;unfold ah;refine ⟨W.heap.size,v.cells.toList,T,by simp,iR hx.size hdm,by rw [alloc_at],h3 _ _ _,fun e=>aU.kJ _ _ (h3 kw X W) (hu e),fun o=>.inr ⟨rfl,trivial⟩⟩
variable (kw X0 w0 m) in
def jJ (Γ:fA) (x:Operand) (e:D):Prop:=∀ a W X Ow,lG kw X0 w0 m Γ a W X Ow→Rep kw X W (a.eval x) e
theorem jJ.t {s:Nat} {e:D} (h:lk Γ s = some (.dat e)):jJ kw X0 w0 m Γ (.tmp s) e:=fun a W X Ow hs=>by
 have:=hs.facts s _ h;unfold ah at this;exact this
theorem jJ.c {v:Value} (h:v.oneCell' = true):jJ kw X0 w0 m Γ (.const v) (.val v):=fun a W X Ow hs=>dh h
theorem jJ.fn {f:FuncId}:jJ kw X0 w0 m Γ (.func f) (.val (.func (.func f) #[] #[])):=fun a W X Ow hs=>dh rfl
theorem jJ.nil {x:Operand} {k:Nat} (h:jJ kw X0 w0 m Γ x (.val (.slice none 0 0))):jJ kw X0 w0 m Γ x (.list k []):=fun a W X Ow hs=>by
 rw [gy (h a W X Ow hs)];exact dI (l:=[]) (by simp) (by simp) (fun h=>absurd rfl h)
theorem jJ.grow {s k:Nat} {l:List D} (h:lk Γ s = some (.grow k l)):jJ kw X0 w0 m Γ (.tmp s) (.list k l):=fun a W X Ow hs=>by
 have hf:=hs.facts s _ h;unfold ah at hf;obtain ⟨h0,hf⟩:=hf;rcases hf with ⟨h1,h2⟩ | ⟨b,c,es,t,g1,g2,g3,g5,g6,g7,g8,g9⟩
 · subst h2;have h1':a.eval (.tmp s) = .slice none 0 0:=h1;rw [h1'];exact dI (l:=[]) (by simp) (by simp) (fun h=>absurd rfl h)
 ·
  have g2':a.eval (.tmp s) = .slice (some ⟨b,0,none⟩) l.length c:=g2;rw [g2'];refine dI g3 h0 fun _=>⟨b,0,es.take (l.length * k),rfl,?_,fun j v hj=>?_,g7⟩
  · rw [av,g6];exact da (aL k g3)
  · rw [bA] at hj
    split at hj
    · refine ⟨fun hx=>?_,by rw [aq,bW g5];exact hj⟩;have:=(g9 (0 + j)).1 hx;omega
    · cases hj
theorem jJ.oK {s s' k:Nat} {l:List D} (h:lk Γ s = some (.zy s')) (h':lk Γ s' = some (.grow k l)):jJ kw X0 w0 m Γ (.tmp s) (.list k l):=fun a W X Ow hs=>by
 have h1:=hs.facts s _ h;unfold ah at h1;have:=jJ.grow h' a W X Ow hs;rwa [show a.eval (.tmp s) = a.eval (.tmp s') from h1]
theorem jJ.weak {x:Operand} {e:D} (h:jJ kw X0 w0 m Γ' x e) (hs:Sub Γ' Γ):jJ kw X0 w0 m Γ x e:=fun a W X Ow hx=>h a W X Ow ⟨hx.size,hx.defs,hx.below,hx.x0,hx.env,fun s f hl=>hx.facts s f (hs.lkm hl)⟩
theorem ad1 {T:TypeId} {x:Operand} {e:D} (ho:o.op = .box T x) (hd:o.dst = some d) (hdm:d < m) (hn:aB Γ d = true) (hx:jJ kw X0 w0 m Γ x e) (hu:qo kw e):dB P kw X0 w0 m Γ o ((d,.box e) :: Γ):=by
 intro a W hs;obtain ⟨X,Ow,hF⟩:=hs.x;obtain ⟨cs,h1,h2⟩:=hx a W X Ow hF;have hc:(a.eval x).cells.toList = cs:=by rw [h2];exact h1.EU
 have hr:(execOp a.eval o).run P W = .ok (.value (.pointer (some ⟨W.heap.size,0,none⟩))) (W.alloc (.cells cs.toArray T)):=by
  rw [← hc];simp [execOp,ho,Instr.box,newVar,newRow]
 unfold oC;rw [hr,hd];have hb:=Below.alloc1 W (.cells cs.toArray T);refine (hF.fresh hdm hn hb (by simp) (fun _=>True) ?_).fs;unfold ah;refine ⟨W.heap.size,cs,T,by simp,iR hF.size hdm,alloc_at _ _,?_,fun e=>aU.kJ _ _ h1 (hu e),fun o=>.inr ⟨rfl,trivial⟩⟩;have t1:Tr kw X (fun b o=>X b o∨(b = W.heap.size∧True)) W (W.alloc (.cells cs.toArray T)):=⟨(Tr.of_below (kw:=kw) (X:=X) hb).ku,fun b o v hx hc=>⟨fun hx'=>by
  rcases hx' with hx' | ⟨e,_⟩
  · exact hx hx'
  · have:=bL W _ hc;simp only [e] at this;omega,((Tr.of_below (kw:=kw) (X:=X) hb).keep b o v hx hc).2⟩⟩
 exact aU.tr t1 _ _ h1
theorem H5 {T e k:Nat} {n:Nat} {parts:Array (Nat × Operand)} {l:List D} (ho:o.op = .buildSlice T n parts) (hd:o.dst = some d) (hdm:d < m) (hn:aB Γ d = true) (hT:P.underlying T = some (.slice e)) (hk:∀ x∈l,x.width = k) (hlen:l.length = n) (hr:∀ a W X Ow,lG kw X0 w0 m Γ a W X Ow→∃ cs,aF kw X W l cs∧(cw T n (parts.map fun (i,x)=>(i,a.eval x))).run P W = .ok (.slice (some ⟨W.heap.size,0,none⟩) n n) (W.alloc (.cells cs.toArray e))) :
 dB P kw X0 w0 m Γ o ((d,.dat (.list k l)) :: Γ):=by
 intro a W hs;obtain ⟨X,Ow,hF⟩:=hs.x;obtain ⟨cs,h1,h2⟩:=hr a W X Ow hF;have hr:(execOp a.eval o).run P W = .ok (.value (.slice (some ⟨W.heap.size,0,none⟩) n n)) (W.alloc (.cells cs.toArray e)):=by
  simp only [execOp,ho,h2,bc,ao,a8]
 unfold oC;rw [hr,hd];have hb:=Below.alloc1 W (.cells cs.toArray e);refine (hF.OB hdm hn hb ?_).fs;subst hlen;refine dI (bR _) hk fun _=>⟨W.heap.size,0,cs,rfl,by rw [h1.len,D.dF hk],fun j v hj=>⟨fun hx=>?_,?_⟩,aF.tr (Tr.of_below hb) _ _ h1⟩
 · have:=hF.env.lt hF.x0 hF.below hx;omega
 · rw [aq,bW (alloc_at W _)];exact hj
def KX (kw:Bool) (X:XS) (w w':World) (v:Value) (R:F):Prop :=
 ∃ (S:Nat→Nat→Prop) (ob:Option Nat),(∀ b o,S b o→w.heap.size≤b∧b < w'.heap.size)∧(∀ b,ob = some b→w.heap.size≤b∧b < w'.heap.size)∧ah kw (fun b o=>X b o∨S b o) w' (fun t=>if t = 0 then ob else none) (fun _=>v) 0 R
variable (P kw) in
def AC (f:FuncId) (ds:List D) (R:F):Prop :=
 ∀ (X:XS) (w:World) (vs:List Value),(∀ b o,X b o→b < w.heap.size)→tN kw X w vs ds→Calls P f vs.toArray w fun e w'=>Below w.heap.size w w'∧∃ v,e = .returned v∧KX kw X w w' v R
def F.Zt:F→Bool
 | .dat _ | .bT _ | .own _ _ | .grow _ _ | .qE _ _ _=>true
 | _=>false
variable (kw X0 w0 m) in
def vz (Γ:fA):List Operand→List D→Prop
 | [],[]=>True
 | x :: xs,e :: es=>jJ kw X0 w0 m Γ x e∧vz Γ xs es
 | _,_=>False
theorem vz.V6:∀ {xs:List Operand} {es:List D},vz kw X0 w0 m Γ xs es→lG kw X0 w0 m Γ a W X Ow→tN kw X W (xs.map a.eval) es
 | [],[],_,_=>trivial
 | x :: xs,e :: es,h,hF=>⟨h.1 a W X Ow hF,vz.V6 h.2 hF⟩
 | [],_ :: _,h,_=>h.elim
 | _ :: _,[],h,_=>h.elim
theorem lG.ret {v:Value} {R:F} (h:lG kw X0 w0 m Γ a W X Ow) (hd:d < m) (hn:aB Γ d = true) (hb:Below W.heap.size W W') (hR:R.Zt = true) (hr:KX kw X W W' v R):FSq kw X0 w0 m ((d,R) :: Γ) (a.put (some d) v) W':=by
 obtain ⟨S,ob,hS,hob,hf⟩:=hr;have hw:w0.heap.size≤W.heap.size:=h.below.size
 let X':XS:=fun b o=>X b o∨S b o
 let Ow':Nat→Option Nat:=fun t=>if t = d then ob else Ow t
 have hX':∀ b o,b < W.heap.size→(X' b o↔X b o):=fun b o hlt=>⟨fun hx=>by
  rcases hx with hx | hx
  · exact hx
  · have:=(hS b o hx).1;omega,.inl⟩
 have t1:Tr kw X X' W W':=⟨(Tr.of_below (kw:=kw) (X:=X) hb).ku,fun b o v hx hc=>⟨fun hx'=>hx ((hX' b o (bL W _ hc)).1 hx'),((Tr.of_below (kw:=kw) (X:=X) hb).keep b o v hx hc).2⟩⟩;refine lG.fs (X:=X') (Ow:=Ow') ⟨by rw [iZ];exact h.size,by rw [fH];exact h.defs,h.below.trans (hb.mono hw),h.x0,⟨fun b o hx=>.inl (h.env.sub b o hx),?_,?_,?_⟩,fun s g hl=>?_⟩
 · rintro b o (hx | hx)
   · exact (h.env.sup b o hx).imp id fun hh=>⟨hh.1,dz hh.2 hb.size⟩
   · have:=hS b o hx;exact .inr ⟨by omega,this.2⟩
 ·
  intro s s' b h1 h2
  by_cases e1:s = d <;> by_cases e2:s' = d <;> simp [Ow',e1,e2] at h1 h2 ⊢
  · have:=(h.env.wS s' b h2).2;have:=hob b h1;omega
  · have:=(h.env.wS s b h1).2;have:=hob b h2;omega
  · exact h.env.inj s s' b h1 h2
 · intro s b h1
   by_cases e1:s = d
   · simp [Ow',e1] at h1;have:=hob b h1;exact ⟨by omega,this.2⟩
   · simp [Ow',e1] at h1;have:=h.env.wS s b h1;exact ⟨this.1,dz this.2 hb.size⟩
 ·
  unfold lk at hl
  split at hl
  ·
   rename_i es;injection hl with hl
   rw [← hl,← es];have ev:bY (a.put (some d) v) d = v:=iR h.size hd;cases R <;> try (cases hR;done)
   case dat e=>unfold ah at hf ⊢;rw [ev];exact hf
   case bT l=>unfold ah at hf ⊢;rw [ev];exact hf
   case own k l =>
    unfold ah at hf ⊢;rw [ev];obtain ⟨b,c,es',ty,g1,g2⟩:=hf;simp at g1;exact ⟨b,c,es',ty,by simp [Ow',g1],g2⟩
   case grow k l =>
    unfold ah at hf ⊢;rw [ev];refine ⟨hf.1,?_⟩;rcases hf.2 with g | ⟨b,c,es',ty,g1,g2⟩
    · exact .inl g
    · simp at g1;exact .inr ⟨b,c,es',ty,by simp [Ow',g1],g2⟩
   case qE k l ds =>
    unfold ah at hf ⊢;rw [ev];obtain ⟨v',vs,e1,e2,h0,hf⟩:=hf;refine ⟨v',vs,e1,e2,h0,?_⟩;rcases hf with g | ⟨b,c,es',ty,g1,g2⟩
    · exact .inl g
    · simp at g1;exact .inr ⟨b,c,es',ty,by simp [Ow',g1],g2⟩
  ·
   rename_i es;have hne:∀ s',g.refs s' = true→s'≠d:=fun s' hr e2=>by rw [e2,nI hn hl] at hr;cases hr
   have key:∀ (g:F),(∀ s',g.refs s' = true→s'≠d)→ah kw X W Ow (bY a) s g→ah kw X' W' Ow' (bY (a.put (some d) v)) s g:=by
    intro g;have ev:bY (a.put (some d) v) s = bY a s:=eval_put_ne es;have hO:∀ t b,t≠d→Ow t = some b→Ow' t = some b∧W'.heap[b]? = W.heap[b]?∧∀ o,X' b o↔X b o:=fun t b h1 h2=>by
     have h3:=(h.env.wS t b h2).2;exact ⟨by simp [Ow',h1,h2],hb.block b h3,fun o=>hX' b o h3⟩
    induction g with
    | dat e=>intro _ h;unfold ah at h ⊢;rw [ev];exact h.tr t1
    | bT l=>intro _ h;unfold ah at h ⊢;rw [ev];obtain ⟨vs,h1,h2⟩:=h;exact ⟨vs,h1,h2.tr t1⟩
    | ptr e=>intro _ h;unfold ah at h ⊢;rw [ev];obtain ⟨b,o',es',h1,h2,h3⟩:=h;exact ⟨b,o',es',h1,h2.tr t1,aU.tr t1 _ _ h3⟩
    | box e =>
     intro _ h;unfold ah at h ⊢;rw [ev];obtain ⟨b,es',ty,g1,g2,g3,g4,g5,g6⟩:=h;obtain ⟨o1,o2,o3⟩:=hO s b (bm es) g1;exact ⟨b,es',ty,o1,g2,by rw [o2];exact g3,aU.tr t1 _ _ g4,g5,fun o=>(o3 o).2 (g6 o)⟩
    | sub s' o' =>
     intro r1 h;unfold ah at h ⊢;rw [ev];obtain ⟨b,g1,g2⟩:=h;exact ⟨b,(hO s' b (r1 s' (by simp [F.refs])) g1).1,g2⟩
    | own k l =>
     intro _ h;unfold ah at h ⊢;rw [ev];obtain ⟨b,c,es',ty,g1,g2,g3,g4,g5,g6,g7,g8,g9⟩:=h;obtain ⟨o1,o2,o3⟩:=hO s b (bm es) g1;exact ⟨b,c,es',ty,o1,g2,g3,g4,by rw [o2];exact g5,g6,aF.tr t1 _ _ g7,g8,fun o=>(o3 o).2 (g9 o)⟩
    | grow k l =>
     intro _ h;unfold ah at h ⊢;rw [ev];refine ⟨h.1,?_⟩;rcases h.2 with h | ⟨b,c,es',ty,g1,g2,g3,g5,g6,g7,g8,g9⟩
     · exact .inl h
     · obtain ⟨o1,o2,o3⟩:=hO s b (bm es) g1;exact .inr ⟨b,c,es',ty,o1,g2,g3,by rw [o2];exact g5,g6,aF.tr t1 _ _ g7,g8,fun o=>(o3 o).trans (g9 o)⟩
    | ov u k l =>
     intro _ h;unfold ah at h ⊢;obtain ⟨b,c,es',ty,g1,g2,g3,g4,g5,g6,g7,g8,g9⟩:=h;obtain ⟨o1,o2,o3⟩:=hO s b (bm es) g1;exact ⟨b,c,es',ty,o1,g2,g3,g4,by rw [o2];exact g5,g6,aF.tr t1 _ _ g7,g8,fun o=>(o3 o).2 (g9 o)⟩
    | gv u k l =>
     intro _ h;unfold ah at h ⊢;refine ⟨h.1,?_⟩;rcases h.2 with h | ⟨b,c,es',ty,g1,g2,g3,g5,g6,g7,g8,g9⟩
     · exact .inl h
     · obtain ⟨o1,o2,o3⟩:=hO s b (bm es) g1;exact .inr ⟨b,c,es',ty,o1,g2,g3,by rw [o2];exact g5,g6,aF.tr t1 _ _ g7,g8,fun o=>(o3 o).trans (g9 o)⟩
    | qE k l ds =>
     intro _ h;unfold ah at h ⊢;rw [ev];obtain ⟨v',vs,e1,e2,h0,h⟩:=h;refine ⟨v',vs,e1,e2.tr t1,h0,?_⟩;rcases h with h | ⟨b,c,es',ty,g1,g2,g3,g5,g6,g7,g8,g9⟩
     · exact .inl h
     · obtain ⟨o1,o2,o3⟩:=hO s b (bm es) g1;exact .inr ⟨b,c,es',ty,o1,g2,g3,by rw [o2];exact g5,g6,aF.tr t1 _ _ g7,g8,fun o=>(o3 o).trans (g9 o)⟩
    | Sm s' e =>
     intro r1 h;unfold ah at h ⊢;rw [ev,show bY (a.put (some d) v) s' = bY a s' from eval_put_ne (bm (r1 s' (by simp [F.refs])))];obtain ⟨cs,h1,h2⟩:=h;exact ⟨cs,h1,aU.tr t1 _ _ h2⟩
    | zy s' =>
     intro r1 h;unfold ah at h ⊢;rw [ev];rw [show bY (a.put (some d) v) s' = bY a s' from eval_put_ne (bm (r1 s' (by simp [F.refs])))];exact h
    | qH s' i k =>
     intro r1 h;unfold ah at h ⊢;rw [ev];obtain ⟨b,g1,g2⟩:=h;exact ⟨b,(hO s' b (r1 s' (by simp [F.refs])) g1).1,g2⟩
    | kS c f ih=>intro r1 h;unfold ah at h ⊢;exact ⟨fun hc=>ih (fun s' hr=>r1 s' (by simpa [F.refs] using hr)) (h.1 hc),fun hc=>ev.trans (h.2 hc)⟩
    | wp z=>intro _ h;unfold ah at h ⊢;rw [ev];obtain ⟨e,p,h1,h2⟩:=h;exact ⟨e,p,h1,t1.ku e p _ h2⟩
    | aan v9 f ih =>
     intro r1 h;unfold ah at h ⊢;exact ah.WJ (tm:=fun _=>v9) (tm':=fun _=>v9) t1 rfl (fun b hb=>hO s b (bm es) hb) (f:=f) (fun s' h'=>⟨rfl,fun b hb=>(hO s' b (r1 s' (by simpa [F.refs] using h')) hb).1⟩) h
    | AV s1 s2 =>
     intro r1 h;unfold ah at h ⊢;rw [ev,show bY (a.put (some d) v) s1 = bY a s1 from eval_put_ne (bm (r1 s1 (by simp [F.refs]))),show bY (a.put (some d) v) s2 = bY a s2 from eval_put_ne (bm (r1 s2 (by simp [F.refs])))];exact h
    | e0=>intro _ h;unfold ah at h ⊢;rw [ev];exact h
    | any=>intro _ _;unfold ah;trivial
   exact key g hne (h.facts s g hl)
theorem qP {f:FuncId} {xs:List Operand} {ts:Array TypeId} {ds:List D} {R:F} (ho:o.op = .call { callee:=.value (.func f),args:=xs.toArray,argTypes:=ts }) (hd:o.dst = some d) (hdm:d < m) (hn:aB Γ d = true) (eg:∀ args w,(callFunc f args).run P w = .ok (.enter f args) w) (hx:vz kw X0 w0 m Γ xs ds) (hR:R.Zt = true) (h:AC P kw f ds R):dB P kw X0 w0 m Γ o ((d,R) :: Γ):=by
 intro a W hs;obtain ⟨X,Ow,hF⟩:=hs.x;have hr:(execOp a.eval o).run P W = .ok (.enter f (xs.map a.eval).toArray) W:=by
  simp [execOp,ho,resolve,eB,fS,invoke,eg]
 unfold oC;rw [hr];refine (h X W (xs.map a.eval) (fun b o hx=>hF.env.lt hF.x0 hF.below hx) (hx.V6 hF)).mono ?_;rintro e w' ⟨hb,v,rfl,hres⟩;refine ⟨v,rfl,?_⟩;rw [hd];exact hF.ret hdm hn hb hR hres
theorem L9 {s:Nat} {f:FuncId} {xs:List Operand} {ts:Array TypeId} {ds:List D} {R:F} (ho:o.op = .call { callee:=.value (.tmp s),args:=xs.toArray,argTypes:=ts }) (hd:o.dst = some d) (hdm:d < m) (hn:aB Γ d = true) (hl:lk Γ s = some (.dat (.val (.func (.func f) #[] #[])))) (eg:∀ args w,(callFunc f args).run P w = .ok (.enter f args) w) (hx:vz kw X0 w0 m Γ xs ds) (hR:R.Zt = true) (h:AC P kw f ds R):dB P kw X0 w0 m Γ o ((d,R) :: Γ):=by
 intro a W hs;obtain ⟨X,Ow,hF⟩:=hs.x;have hv:=hs.val hl;have hr:(execOp a.eval o).run P W = .ok (.enter f (xs.map a.eval).toArray) W:=by
  simp [execOp,ho,resolve,hv,fS,invoke,eg]
 unfold oC;rw [hr];refine (h X W (xs.map a.eval) (fun b o hx=>hF.env.lt hF.x0 hF.below hx) (hx.V6 hF)).mono ?_;rintro e w' ⟨hb,v,rfl,hres⟩;refine ⟨v,rfl,?_⟩;rw [hd];exact hF.ret hdm hn hb hR hres
theorem KX.dat {v:Value} {e:D} {w w':World}:KX kw X w w' v (.dat e)↔Rep kw X w' v e:=by
 constructor
 · rintro ⟨S,ob,_,_,h⟩;unfold ah at h;exact h.tr ⟨fun _=>kE.refl _,fun b o v hx hc=>⟨fun h=>hx (.inl h),hc⟩⟩
 · intro h;refine ⟨fun _ _=>False,none,fun _ _ h=>h.elim,(by intro b h;cases h),?_⟩;unfold ah;exact h.tr ⟨fun _=>kE.refl _,fun b o v hx hc=>⟨fun h=>by rcases h with h | h <;> first | exact hx h | exact h.elim,hc⟩⟩
theorem AC.oD {f:FuncId} {ds:List D} {e:D} (h:∀ (X:XS) (w:World) (vs:List Value),(∀ b o,X b o→b < w.heap.size)→tN kw X w vs ds→Calls P f vs.toArray w fun en w'=>Below w.heap.size w w'∧∃ v,en = .returned v∧Rep kw X w' v e):AC P kw f ds (.dat e) :=
 fun X w vs hx hr=>(h X w vs hx hr).mono fun en w' ⟨h1,v,h2,h3⟩=>⟨h1,v,h2,KX.dat.2 h3⟩
end
def nV (cs:List Value) (o:Nat) (vs:List Value):List Value:=cs.take o ++ vs ++ cs.drop (o + vs.length)
theorem qG {cs vs:List Value} {o:Nat} (h:o + vs.length≤cs.length):(nV cs o vs).length = cs.length:=by simp [nV];omega
theorem aa8 (A B vs:List Value) (v x:Value):nV (A ++ v :: B) (A.length + 1) vs = nV (A ++ x :: B) A.length (v :: vs):=by
 simp only [nV,d8,d9,dk];rw [show A.length + 1 + vs.length - A.length = vs.length + 1 by omega,show A.length + (vs.length + 1) - A.length = vs.length + 1 by omega,show A.length + 1 - A.length = 1 by omega,gC,aR (show A.length≤A.length + 1 by omega),List.take_length,
  bp (show A.length≤A.length + 1 + vs.length by omega),bp (show A.length≤A.length + (vs.length + 1) by omega)]
 simp
variable {v:Value}
theorem Um {L vs:List Value} {o:Nat} (h:o < L.length):nV (L.set o v) (o + 1) vs = nV L o (v :: vs):=by
 have h1:(L.take o).length = o:=by rw [av];omega
 have h2:=aa8 (L.take o) (L.drop (o + 1)) vs v L[o];rw [h1,← cJ h,dj] at h2;rw [db,if_pos h];exact h2
theorem Il:∀ (vs:List Value) (o j:Nat) (cs:Array Value),o + j + vs.length≤cs.size →
 (vs.zipIdx j).foldl (fun (cs:Array Value) (p:Value × Nat)=>cs.setIfInBounds (o + p.2) p.1) cs = (nV cs.toList (o + j) vs).toArray
 | [],o,j,cs,h=>by simp [nV]
 | v :: vs,o,j,cs,h=>by
  simp only [dk] at h;rw [fX,List.foldl_cons,Il vs o (j + 1) _ (by simp;omega)];apply congrArg;rw [Array.toList_setIfInBounds];have h0:cs.toList.length = cs.size:=by simp
  have h1:o + j < cs.toList.length:=by omega
  rw [← Nat.add_assoc,Um (by omega)]
variable {i k:Nat}
theorem sU {place:Nat→Option (Nat × Nat)} {cs:Array Value} {o:Nat} {rest:List (Nat × Value)} (hp:place i = some (o,k)) (hv:v.cells.size = k) (h:o + k≤cs.size) :
 br place cs ((i,v) :: rest) = br place (nV cs.toList o v.cells.toList).toArray rest:=by
 conv=>lhs;unfold br
 rw [hp];have h1:(decide (v.cells.size≠k) || decide (o + v.cells.size > cs.size)) = false:=by simp [hv];omega
 simp only [h1];have:=Il v.cells.toList o 0 cs (by simp [hv];omega);simp only [eE] at this;rw [← this,← Array.foldl_toList,Array.toList_zipIdx];rfl
theorem Gn {k:Nat}:∀ (vs:List Value) (i:Nat) (pre suf:List Value),(∀ v∈vs,v.cells.size = k)→pre.length = i * k→suf.length = vs.length * k →
 br (fun i=>some (i * k,k)) (pre ++ suf).toArray ((vs.zipIdx i).map fun p=>(p.2,p.1)) = some (pre ++ vs.flatMap fun v=>v.cells.toList).toArray
 | [],i,pre,suf,_,_,h3=>by
  have:suf = []:=by simpa using h3
  subst this;simp [br]
 | v :: vs,i,pre,suf,h1,h2,h3=>by
  have hv:=h1 v (dy ..);rw [fX,bO,sU rfl hv (by simp [h2,h3,dk,bk])];have e:nV (pre ++ suf).toArray.toList (i * k) v.cells.toList = (pre ++ v.cells.toList) ++ suf.drop k:=by
   simp only [nV];rw [← h2,cj rfl,show pre.length + v.cells.toList.length = pre.length + k by simp [hv],d9];simp
  rw [e,Gn vs (i + 1) (pre ++ v.cells.toList) (suf.drop k) (fun u hu=>h1 u (du _ hu)) (by simp [h2,hv,bk]) (by simp [h3,bk])];simp
section
variable {P:Program} {ops:Array Oper} {kw:Bool} {X0:XS} {w0:World} {m:Nat} {Γ Γ':fA} {a:Act} {W W':World} {X:XS} {Ow:Nat→Option Nat} {o:Oper} {d:Nat}
theorem Rep.cells {v:Value} {e:D} (h:Rep kw X W v e):aU kw X W e v.cells.toList∧v.cells.size = e.width:=by
 obtain ⟨cs,h1,h2⟩:=h;have h3:v.cells.toList = cs:=by rw [h2];exact h1.EU
 exact ⟨by rw [h3];exact h1,by rw [← bj,h3];exact h1.len⟩
theorem tN.flat {k:Nat}:∀ {vs:List Value} {l:List D},tN kw X W vs l→(∀ e∈l,e.width = k)→aF kw X W l (vs.flatMap fun v=>v.cells.toList)∧(∀ v∈vs,v.cells.size = k)∧vs.length = l.length
 | [],[],_,_=>⟨by unfold aF;rfl,by simp,rfl⟩
 | v :: vs,e :: l,h,hk=>by
  obtain ⟨i1,i2,i3⟩:=tN.flat (k:=k) h.2 fun x hx=>hk x (du _ hx)
  obtain ⟨c1,c2⟩:=h.1.cells;refine ⟨?_,fun u hu=>?_,by simp [i3]⟩
  · unfold aF;exact ⟨v.cells.toList,_,by simp,c1,i1⟩
  · rcases fg.1 hu with rfl | hu
    · rw [c2];exact hk e (dy ..)
    · exact i2 u hu
 | [],_ :: _,h,_=>h.elim
 | _ :: _,[],h,_=>h.elim
def jk (xs:List Operand):List (Nat × Operand):=xs.zipIdx.map fun p=>(p.2,p.1)
theorem adn {T e n:Nat} {i:TypeInfo} {z:Value} {xs:List Operand} {l:List D} (ho:o.op = .buildSlice T n (jk xs).toArray) (hd:o.dst = some d) (hdm:d < m) (hn:aB Γ d = true) (hT:P.underlying T = some (.slice e)) (hi:P.info? e = some i) (hz:i.zero = some z) (hsz:i.size = k) (hk:∀ x∈l,x.width = k) (hlen:l.length = n) (hsm:n * k≤16777216) (hx:vz kw X0 w0 m Γ xs l):dB P kw X0 w0 m Γ o ((d,.dat (.list k l)) :: Γ):=by
 refine H5 ho hd hdm hn hT hk hlen fun a W X Ow hF=>?_
 have hr:=hx.V6 hF;obtain ⟨f1,f2,f3⟩:=hr.flat hk;refine ⟨_,f1,?_⟩;subst hsz hlen;have hparts:((jk xs).toArray.map fun (p:Nat × Operand)=>(p.1,a.eval p.2)).toList = ((xs.map a.eval).zipIdx 0).map fun p=>(p.2,p.1):=by
  simp [jk,gh,fN]
 have hf:∀ zs:List Value,zs.length = l.length * i.size→br (fun j=>some (j * i.size,i.size)) zs.toArray (((jk xs).toArray.map fun (p:Nat × Operand)=>(p.1,a.eval p.2)).toList) = some ((xs.map a.eval).flatMap fun v=>v.cells.toList).toArray:=fun zs hzs=>by
  rw [hparts];have:=Gn (k:=i.size) (xs.map a.eval) 0 [] zs f2 (by simp) (by rw [hzs,f3]);simpa using this
 have hsm':¬ (16777216 < l.length * i.size):=by omega
 by_cases h0:l.length * i.size = 0
 · have:=hf [] (by simp [h0]);have e1:(eJ (l.length * i.size)).map ((#[]:Array Value)[· % (#[]:Array Value).size]!) = #[]:=by rw [h0];simp
   simp [cw,run_underlying hT,sizeOf,typeInfo,hi,hsm',h0,newRow,eA] at this ⊢;rw [this];simp
 · have:=hf ((eJ (l.length * i.size)).map (z.cells[· % z.cells.size]!)).toList (by simp);simp only [fR] at this;simp [cw,run_underlying hT,sizeOf,typeInfo,zeroValue,hi,hz,hsm',h0,newRow] at this ⊢;rw [this];simp
theorem X5 {T e:Nat} {i:TypeInfo} (ho:o.op = .buildSlice T 0 #[]) (hd:o.dst = some d) (hdm:d < m) (hn:aB Γ d = true) (hT:P.underlying T = some (.slice e)) (hi:P.info? e = some i):dB P kw X0 w0 m Γ o ((d,.e0) :: Γ):=by
 intro a W hs;obtain ⟨X,Ow,hF⟩:=hs.x;have hr:(execOp a.eval o).run P W = .ok (.value (.slice (some ⟨W.heap.size,0,none⟩) 0 0)) (W.alloc (.cells #[] e)):=by
  simp [execOp,ho,cw,run_underlying hT,sizeOf,typeInfo,hi,newRow,br,eA]
 unfold oC;rw [hr,hd];exact (hF.put hdm hn (Below.alloc1 _ _) (by unfold ah;exact ⟨_,iR hF.size hdm⟩)).fs
structure S2 (P:Program) (T k1 k2:Nat):Prop where
 ex:∃ f1 f2 i z,P.underlying T = some (.struct #[f1,f2])∧P.info? T = some i∧i.zero = some z∧z.cells.size = k1 + k2∧f1.offset = 0∧f2.offset = k1∧(P.info? f1.type).map (·.size) = some k1∧(P.info? f2.type).map (·.size) = some k2
theorem y8 {T k1 k2:Nat} (s2:S2 P T k1 k2) (v1 v2:Value) (h1:v1.cells.size = k1) (h2:v2.cells.size = k2) (W:World) :
 (dp T #[(0,v1),(1,v2)]).run P W = .ok (.agg (v1.cells.toList ++ v2.cells.toList).toArray) W:=by
 obtain ⟨f1,f2,i,z,g1,g2,g3,g4,g5,g6,g7,g8⟩:=s2.ex;cases hq1:P.info? f1.type with
 | none=>simp [hq1] at g7
 | some i1 =>
  cases hq2:P.info? f2.type with
  | none=>simp [hq2] at g8
  | some i2 =>
   simp [hq1] at g7;simp [hq2] at g8;have hf:br (fun x=>[(0,k1),(k1,k2)][x]?) z.cells [(0,v1),(1,v2)] = some (v1.cells.toList ++ v2.cells.toList).toArray:=by
    rw [sU (o:=0) (k:=k1) rfl h1 (by omega),sU (o:=k1) (k:=k2) rfl h2 (by simp [nV];omega)];unfold br;congr 2;have hz:z.cells.toList.length = k1 + k2:=by simpa using g4
    simp only [nV,eW,eK,aq,bj,h1,h2];rw [cj (by simp [h1]),bp (by simp [h1,hz]),eL]
   simp [dp,zeroValue,typeInfo,sizeOf,g2,g3,run_underlying g1,hq1,hq2,g5,g6,g7,g8,hf]
theorem Q5 {T k1 k2:Nat} (s2:S2 P T k1 k2) (zi:∃ i z c2,P.info? T = some i∧i.zero = some z∧z.cells.toList.drop k1 = c2) (v1:Value) (h1:v1.cells.size = k1) (W:World) :
 ∃ i z,P.info? T = some i∧i.zero = some z∧(dp T #[(0,v1)]).run P W = .ok (.agg (v1.cells.toList ++ z.cells.toList.drop k1).toArray) W:=by
 obtain ⟨f1,f2,i,z,g1,g2,g3,g4,g5,g6,g7,g8⟩:=s2.ex;refine ⟨i,z,g2,g3,?_⟩;cases hq1:P.info? f1.type with
 | none=>simp [hq1] at g7
 | some i1 =>
  cases hq2:P.info? f2.type with
  | none=>simp [hq2] at g8
  | some i2 =>
   simp [hq1] at g7;simp [hq2] at g8;have hf:br (fun x=>[(0,k1),(k1,k2)][x]?) z.cells [(0,v1)] = some (v1.cells.toList ++ z.cells.toList.drop k1).toArray:=by
    rw [sU (o:=0) (k:=k1) rfl h1 (by omega)];unfold br;congr 2;simp [nV,h1]
   simp [dp,zeroValue,typeInfo,sizeOf,g2,g3,run_underlying g1,hq1,hq2,g5,g6,g7,g8,hf]
theorem Jl {T k1 k2:Nat} {x y:Operand} {e1 e2:D} (ho:o.op = .build T #[(0,x),(1,y)]) (hd:o.dst = some d) (hdm:d < m) (hn:aB Γ d = true) (s2:S2 P T k1 k2) (hx:jJ kw X0 w0 m Γ x e1) (hy:jJ kw X0 w0 m Γ y e2) (h1:e1.width = k1) (h2:e2.width = k2) :
 dB P kw X0 w0 m Γ o ((d,.dat (.agg [e1,e2])) :: Γ) :=
 bK hd hdm hn rfl fun a W X Ow hs=>by
  obtain ⟨c1,c2⟩:=(hx a W X Ow hs).cells;obtain ⟨c3,c4⟩:=(hy a W X Ow hs).cells;refine ⟨_,by simp only [execOp,ho,bs,bO,cF,y8 s2 _ _ (c2.trans h1) (c4.trans h2),bc,ao,a8];rfl,?_⟩;unfold ah;exact oG (aF.two.2 ⟨_,_,rfl,c1,c3⟩)
theorem Vs {T k1 k2:Nat} {x:Operand} {e1 z1 z2:D} (ho:o.op = .build T #[(0,x)]) (hd:o.dst = some d) (hdm:d < m) (hn:aB Γ d = true) (s2:S2 P T k1 k2) (zi:ZI P T (.agg [z1,z2])) (hx:jJ kw X0 w0 m Γ x e1) (h1:e1.width = k1) (hz1:z1.width = k1) :
 dB P kw X0 w0 m Γ o ((d,.dat (.agg [e1,z2])) :: Γ) :=
 bK hd hdm hn rfl fun a W X Ow hs=>by
  obtain ⟨c1,c2⟩:=(hx a W X Ow hs).cells;obtain ⟨i',v',g1,g2,g3⟩:=zi.ex;obtain ⟨i,z,g4,g5,hr⟩:=Q5 s2 ⟨i',v',_,g1,g2,rfl⟩ (a.eval x) (c2.trans h1) W;obtain rfl:i' = i:=bh (g1.symm.trans g4);obtain rfl:v' = z:=bh (g2.symm.trans g5);refine ⟨_,by simp only [execOp,ho,bs,bO,cF,hr,bc,ao,a8];rfl,?_⟩;unfold ah;refine oG (aF.two.2 ⟨_,_,rfl,c1,?_⟩);have:=g3 kw X W;unfold aU at this;obtain ⟨x1,x2,e,y1,y2⟩:=aF.two.1 this;rw [e,List.drop_left' (by rw [y1.len,hz1])];exact y2
theorem Vd {T k1 k2:Nat} {z:D} (ho:o.op = .build T #[]) (hd:o.dst = some d) (hdm:d < m) (hn:aB Γ d = true) (s2:S2 P T k1 k2) (zi:ZI P T z) (hz:z.isAgg = true):dB P kw X0 w0 m Γ o ((d,.dat z) :: Γ) :=
 bK hd hdm hn rfl fun a W X Ow hs=>by
  obtain ⟨i,v,q1,q2,q3⟩:=zi.ex;obtain ⟨f1,f2,i',z',g1,g2,g3,g4,g5,g6,g7,g8⟩:=s2.ex;obtain rfl:i = i':=bh (q1.symm.trans g2);obtain rfl:v = z':=bh (q2.symm.trans g3);cases hq1:P.info? f1.type with
  | none=>simp [hq1] at g7
  | some i1 =>
   cases hq2:P.info? f2.type with
   | none=>simp [hq2] at g8
   | some i2 =>
    refine ⟨.agg v.cells,by simp [execOp,ho,dp,zeroValue,typeInfo,sizeOf,g2,g3,run_underlying g1,hq1,hq2,br],?_⟩;unfold ah;exact ⟨v.cells.toList,q3 _ _ _,by unfold D.mk;rw [hz];simp⟩
theorem aF.replicate {z:D} {cs:List Value} (h:aU kw X W z cs):∀ n,aF kw X W (bB n z) (bB n cs).flatten
 | 0=>by simp [aF]
 | n + 1=>by rw [dx,dx,List.flatten_cons];unfold aF;exact ⟨_,_,rfl,h,aF.replicate h n⟩
theorem Ij (z:Array Value) (hz:0 < z.size):∀ n,(madeCells z (n * z.size)).toList = (bB n z.toList).flatten
 | 0=>by simp [madeCells]
 | n + 1=>by
  have ih:=Ij z hz n;rw [List.replicate_succ',List.flatten_append,List.flatten_singleton,← ih];apply List.ext_getElem?;intro i;have hl:(madeCells z (n * z.size)).toList.length = n * z.size:=by simp [madeCells]
  rcases cG i (n * z.size) with h | h
  · rw [ff (by omega)];simp only [madeCells,eI,ew,fW,bk,Nat.one_mul];rw [eo (by omega),eo h]
  ·
   rw [List.getElem?_append_right (by omega),hl];simp only [madeCells,eI,ew,fW,bk,Nat.one_mul];rcases cG i (n * z.size + z.size) with h2 | h2
   · rw [eo h2];have e:i % z.size = i - n * z.size:=by
      conv=>lhs;rw [show i = (i - n * z.size) + n * z.size by omega]
      rw [Nat.add_mul_mod_self_right,Nat.mod_eq_of_lt (by omega)]
     simp [e,show i - n * z.size < z.size by omega]
   · rw [cg (by simp;omega),cg (by simp;omega)];simp
theorem aaz {T e n:Nat} {i:TypeInfo} {z:D} {x y:Operand} {p q:Int} (ho:o.op = .makeSlice T x y) (hd:o.dst = some d) (hdm:d < m) (hn:aB Γ d = true) (hT:P.underlying T = some (.slice e)) (hi:P.info? e = some i) (hsz:i.size = k) (zi:ZI P e z) (hz:z.width = k) (hk:0 < k) (hu:qo kw z) (hx:Ev kw X0 w0 m Γ x (.int .i64 p)) (hy:Ev kw X0 w0 m Γ y (.int .i64 q)) (hp:p = n) (hq:q = n) (hb:i.bytes * n≤281474976710656) (hn63:n≤9223372036854775807):dB P kw X0 w0 m Γ o ((d,.own k (bB n z)) :: Γ):=by
 intro a W hs;obtain ⟨X,Ow,hF⟩:=hs.x;obtain ⟨i',v,g1,g2,g3⟩:=zi.ex;obtain rfl:i' = i:=bh (g1.symm.trans hi);subst hp hq;have hrun:=run_make (P:=P) W T e i' v hT hi g2 .i64 .i64 n n (by omega) (Int.le_refl _) (by omega) (by omega);simp only [Int.toNat_natCast] at hrun;have hvs:v.cells.size = k:=by rw [← bj,(g3 kw X W).len];exact hz
 have hr:(execOp a.eval o).run P W = .ok (.value (.slice (some ⟨W.heap.size,0,none⟩) n n)) (W.alloc (.cells (madeCells v.cells (n * k)) e)):=by
  simp only [execOp,ho,hx a W hs,hy a W hs,hrun,hsz,bc,ao,a8]
 unfold oC;rw [hr,hd];have hfl:(madeCells v.cells (n * k)).toList = (bB n v.cells.toList).flatten:=by rw [← hvs];exact Ij v.cells (by omega) n
 refine (hF.fresh hdm hn (Below.alloc1 _ _) (by simp) (fun _=>True) ?_).fs;unfold ah;have hR:=aF.replicate (kw:=kw) (X:=fun b o=>X b o∨(b = W.heap.size∧True)) (W:=W.alloc (.cells (madeCells v.cells (n * k)) e)) (g3 _ _ _) n;refine ⟨W.heap.size,n,(madeCells v.cells (n * k)).toList,e,by simp,by rw [iR hF.size hdm,fL],by simp,fun x hx=>by rw [(List.mem_replicate.1 hx).2];exact hz,by rw [alloc_at],by simp [madeCells],?_,fun e1 u hu'=>?_,fun o=>.inr ⟨rfl,trivial⟩⟩
 · rw [fL,aR (by simp [madeCells]),hfl];exact hR
 ·
  rw [hfl] at hu';exact aF.kJ _ _ hR (by
   have:∀ n,D.ik (bB n z) = true:=by
    intro n
    induction n with
    | zero=>rfl
    | succ n ih=>rw [dx];unfold D.ik;rw [hu e1,ih];rfl
   exact this n) u hu'
theorem jr:∀ (vs:List Value) (b o:Nat) (W:World) (cs:List Value) (t:TypeId),W.heap[b]? = some (.cells cs.toArray t (0,0))→o + vs.length≤cs.length →
 (W.setCells b o vs).heap[b]? = some (.cells (nV cs o vs).toArray t (0,0))∧(∀ b',b'≠b→(W.setCells b o vs).heap[b']? = W.heap[b']?)∧(W.setCells b o vs).heap.size = W.heap.size
 | [],b,o,W,cs,t,h,hl=>by
  refine ⟨?_,fun _ _=>rfl,rfl⟩;simp [eT,nV,h]
 | v :: vs,b,o,W,cs,t,h,hl=>by
  simp only [dk] at hl;have h1:(W.setCell ⟨b,o,none⟩ v).heap[b]? = some (.cells (cs.set o v).toArray t (0,0)):=by
   simp [gk,Array.getElem?_modify,h]
  obtain ⟨i1,i2,i3⟩:=jr vs b (o + 1) (W.setCell ⟨b,o,none⟩ v) (cs.set o v) t h1 (by simp;omega);rw [eT];refine ⟨?_,fun b' hb=>?_,?_⟩
  · rw [i1];rw [Um (by omega)]
  · rw [i2 b' hb];exact Below.heap_setCell _ _ _ _ hb
  · rw [i3];simp [gk]
theorem jD {B b:Nat}:∀ (vs:List Value) (o:Nat) (W:World),B≤b→Below B W (W.setCells b o vs)
 | [],o,W,h=>Below.refl _ _
 | v :: vs,o,W,h=>by
  rw [eT];exact ((Below.refl B W).setCell (p:=⟨b,o,none⟩) h v).trans (jD vs (o + 1) _ h)
theorem lM {T:Nat} {b o':Nat} {es:List Value} {cs:List Value} {t:TypeId} (hT:(P.info? T).map (·.size) = some k) (hv:v.cells.toList = es) (hl:es.length = k) (h1:∀ u∈es,u.oneCell' = true) (hb:W.heap[b]? = some (.cells cs.toArray t (0,0))) (hle:o' + k≤cs.length) :
 (e8 T (.pointer (some ⟨b,o',none⟩)) v).run P W = .ok () (W.setCells b o' es):=by
 have hcell:=bW hb;have hst:=run_storeCells_cells (P:=P) b o' es 0 W (fun j hj=>by simp only [eE];rw [hcell,cV (by omega)];rfl) (fun j hj=>by simp [eZ,hb]) h1;simp only [eE] at hst;cases hq:P.info? T with
 | none=>simp [hq] at hT
 | some i =>
  have hs:i.size = k:=by simpa [hq] using hT
  have hs2:v.cells.size = i.size:=by rw [hs,← hl,← hv,bj]
  simp [e8,gj,storeVar,sizeOf,typeInfo,hq,hs2,hv,hst]
theorem lG.write {s0 b o':Nat} {f:F} {es cs:List Value} {t:TypeId} (h:lG kw X0 w0 m Γ a W X Ow) (hb:Ow s0 = some b) (hh:W.heap[b]? = some (.cells cs.toArray t (0,0))) (hle:o' + es.length≤cs.length) (hX:∀ o,X b o) (hu:Qs kw cs) (hl:∃ f0,lk Γ s0 = some f0) (hf:∀ (tr:Tr kw X X W (W.setCells b o' es)),(W.setCells b o' es).heap[b]? = some (.cells (nV cs o' es).toArray t (0,0))→ah kw X (W.setCells b o' es) Ow (bY a) s0 f) :
 lG kw X0 w0 m ((s0,f) :: Γ) a (W.setCells b o' es) X Ow:=by
 obtain ⟨h1,h2,h3⟩:=jr es b o' W cs t hh hle;obtain ⟨r1,r2⟩:=h.env.wS s0 b hb;have hcell:=bW hh;have t1:Tr kw X X W (W.setCells b o' es):=by
  refine ⟨fun e p i hp=>?_,fun b' o v hx hc=>⟨hx,?_⟩⟩
  · by_cases hpb:p.block = b
    · exfalso;have h5:cs[p.off]? = some (.int .u32 i):=by
       simp [fI,hpb,hh] at hp;simpa using hp.2
      exact hu e _ (cH h5) i rfl
    · have:=ck (w:=W) (w':=W.setCells b o' es) (a:=p) (h2 p.block hpb);rw [this];exact hp
  · have hne:b'≠b:=fun e=>hx (by rw [e];exact hX o)
    have:=ck (w:=W) (w':=W.setCells b o' es) (a:=⟨b',o,none⟩) (h2 b' hne);rw [this];exact hc
 have hb0:Below w0.heap.size w0 (W.setCells b o' es):=h.below.trans (jD es o' W r1);refine ⟨h.size,h.defs,hb0,h.x0,⟨h.env.sub,fun b' o hx=>by rw [h3];exact h.env.sup b' o hx,h.env.inj,fun s b' hs=>by rw [h3];exact h.env.wS s b' hs⟩,fun s g hl'=>?_⟩;unfold lk at hl'
 split at hl'
 · rename_i es';injection hl' with hl';rw [← hl',← es'];exact hf t1 h1
 ·
  rename_i es';have hg:=h.facts s g hl';have key:∀ (g:F),ah kw X W Ow (bY a) s g→ah kw X (W.setCells b o' es) Ow (bY a) s g:=by
   intro g;have hO:∀ b',Ow s = some b'→(W.setCells b o' es).heap[b']? = W.heap[b']?:=fun b' hs=>h2 b' fun e=>es' (h.env.inj s0 s b hb (by rw [hs,e]))
   induction g with
   | dat e=>intro h;unfold ah at h ⊢;exact h.tr t1
   | bT l=>intro h;unfold ah at h ⊢;obtain ⟨vs,q1,q2⟩:=h;exact ⟨vs,q1,q2.tr t1⟩
   | ptr e=>intro h;unfold ah at h ⊢;obtain ⟨b',o2,es2,q1,q2,q3⟩:=h;exact ⟨b',o2,es2,q1,q2.tr t1,aU.tr t1 _ _ q3⟩
   | box e =>
    intro h;unfold ah at h ⊢;obtain ⟨b',es2,ty,q1,q2,q3,q4,q5⟩:=h;exact ⟨b',es2,ty,q1,q2,by rw [hO b' q1];exact q3,aU.tr t1 _ _ q4,q5⟩
   | sub s' o2=>intro h;unfold ah at h ⊢;exact h
   | own k l =>
    intro h;unfold ah at h ⊢;obtain ⟨b',c,es2,ty,q1,q2,q3,q4,q5,q6,q7,q8⟩:=h;exact ⟨b',c,es2,ty,q1,q2,q3,q4,by rw [hO b' q1];exact q5,q6,aF.tr t1 _ _ q7,q8⟩
   | grow k l =>
    intro h;unfold ah at h ⊢;refine ⟨h.1,?_⟩;rcases h.2 with h | ⟨b',c,es2,ty,q1,q2,q3,q5,q6,q7,q8⟩
    · exact .inl h
    · exact .inr ⟨b',c,es2,ty,q1,q2,q3,by rw [hO b' q1];exact q5,q6,aF.tr t1 _ _ q7,q8⟩
   | ov u k l =>
    intro h;unfold ah at h ⊢;obtain ⟨b',c,es2,ty,q1,q2,q3,q4,q5,q6,q7,q8⟩:=h;exact ⟨b',c,es2,ty,q1,q2,q3,q4,by rw [hO b' q1];exact q5,q6,aF.tr t1 _ _ q7,q8⟩
   | gv u k l =>
    intro h;unfold ah at h ⊢;refine ⟨h.1,?_⟩;rcases h.2 with h | ⟨b',c,es2,ty,q1,q2,q3,q5,q6,q7,q8⟩
    · exact .inl h
    · exact .inr ⟨b',c,es2,ty,q1,q2,q3,by rw [hO b' q1];exact q5,q6,aF.tr t1 _ _ q7,q8⟩
   | qE k l ds =>
    intro h;unfold ah at h ⊢;obtain ⟨v',vs,e1,e2,h0,h⟩:=h;refine ⟨v',vs,e1,e2.tr t1,h0,?_⟩;rcases h with h | ⟨b',c,es2,ty,q1,q2,q3,q5,q6,q7,q8⟩
    · exact .inl h
    · exact .inr ⟨b',c,es2,ty,q1,q2,q3,by rw [hO b' q1];exact q5,q6,aF.tr t1 _ _ q7,q8⟩
   | Sm s' e=>intro h;unfold ah at h ⊢;obtain ⟨cs,h1,h2⟩:=h;exact ⟨cs,h1,aU.tr t1 _ _ h2⟩
   | zy s'=>intro h;unfold ah at h ⊢;exact h
   | qH s' i k=>intro h;unfold ah at h ⊢;exact h
   | kS c f ih=>intro h;unfold ah at h ⊢;exact ⟨fun hc=>ih (h.1 hc),h.2⟩
   | wp z=>intro h;unfold ah at h ⊢;obtain ⟨e,p,h1,h2⟩:=h;exact ⟨e,p,h1,t1.ku e p _ h2⟩
   | aan v f ih =>
    intro h;unfold ah at h ⊢;exact ah.WJ (tm:=fun _=>v) (tm':=fun _=>v) t1 rfl (fun b' hb'=>⟨hb',hO b' hb',fun o=>gA⟩) (f:=f) (fun s' h'=>⟨rfl,fun b' hb'=>hb'⟩) h
   | AV s1 s2=>intro h;unfold ah at h ⊢;exact h
   | e0=>intro h;unfold ah at h ⊢;exact h
   | any=>intro _;unfold ah;trivial
  exact key g hg
theorem sG {T:TypeId} {s:Nat} {x:Operand} (ho:o.op = .store T (.tmp s) x) (hd:o.dst = none) {K:Act→World→Prop} (hr:(e8 T (a.eval (.tmp s)) (a.eval x)).run P W = .ok () W') (hk:K a W'):oC P o a W K:=by
 unfold oC;have:(execOp a.eval o).run P W = .ok .skip W':=by simp [execOp,ho,hr]
 rw [this,hd];exact hk
theorem Ip {T s:Nat} {x:Operand} {e0 e:D} (ho:o.op = .store T (.tmp s) x) (hd:o.dst = none) (hT:(P.info? T).map (·.size) = some e0.width) (hl:lk Γ s = some (.box e0)) (hx:jJ kw X0 w0 m Γ x e) (hw:e.width = e0.width) (hu:qo kw e):dB P kw X0 w0 m Γ o ((s,.box e) :: Γ):=by
 intro a W hs;obtain ⟨X,Ow,hF⟩:=hs.x;have h:=hF.facts s _ hl;unfold ah at h;obtain ⟨b,cs,t,g1,g2,g3,g4,g5,g6⟩:=h;obtain ⟨c1,c2⟩:=(hx a W X Ow hF).cells;have hcl:=g4.len;have hel:(a.eval x).cells.toList.length = e0.width:=by rw [c1.len];exact hw
 have g2':a.eval (.tmp s) = .pointer (some ⟨b,0,none⟩):=g2;refine sG ho hd (by rw [g2'];exact lM hT rfl hel (aU.one _ _ c1) g3 (by omega)) (hF.write g1 g3 (by omega) g6 g5 ⟨_,hl⟩ fun tr hh=>?_).fs;unfold ah;have e1:nV cs 0 (a.eval x).cells.toList = (a.eval x).cells.toList:=by
  simp only [nV,eW,eK,aq];rw [bp (by omega),eL]
 refine ⟨b,(a.eval x).cells.toList,t,g1,g2,by rw [hh,e1],aU.tr tr _ _ c1,fun ek=>aU.kJ _ _ c1 (hu ek),g6⟩
def mY (e0:D) (o:Nat) (e e1:D):Prop:=∀ kw X W cs es,aU kw X W e0 cs→aU kw X W e es→o + es.length≤cs.length∧aU kw X W e1 (nV cs o es)
theorem mY.refl {e0 e:D} (h:e.width = e0.width):mY e0 0 e e:=fun kw X W cs es h1 h2=>by
 have l1:=h1.len;have l2:=h2.len;refine ⟨by omega,?_⟩;have:nV cs 0 es = es:=by simp [nV,bp (show cs.length≤es.length by omega)]
 rw [this];exact h2
theorem mY.field {pre post:List D} {e0 e e1:D} {o o2:Nat} (h:mY e0 o e e1) (h2:D.widths pre + o = o2):mY (.agg (pre ++ e0 :: post)) o2 e (.agg (pre ++ e1 :: post)):=fun kw X W cs es h1 he=>by
 unfold aU at h1 ⊢;obtain ⟨c1,c2,rfl,f1,f2⟩:=h1.split;unfold aF at f2;obtain ⟨c3,c4,rfl,f3,f4⟩:=f2;obtain ⟨g1,g2⟩:=h kw X W c3 es f3 he;have l1:=f1.len;refine ⟨by simp;omega,?_⟩;have e:nV (c1 ++ (c3 ++ c4)) o2 es = c1 ++ (nV c3 o es ++ c4):=by
  simp only [nV];rw [← h2,← l1,d8,d9,aR (by omega),bp (by omega),show c1.length + o - c1.length = o by omega,show c1.length + o + es.length - c1.length = o + es.length by omega,
   List.take_append_of_le_length (by omega),List.drop_append_of_le_length (by omega)]
  simp
 rw [e];refine f1.append ?_;unfold aF;exact ⟨_,_,rfl,g2,f4⟩
theorem II {T s s' o':Nat} {x:Operand} {e0 e e1:D} (ho:o.op = .store T (.tmp s) x) (hd:o.dst = none) (hT:(P.info? T).map (·.size) = some e.width) (hl:lk Γ s = some (.sub s' o')) (hl':lk Γ s' = some (.box e0)) (hx:jJ kw X0 w0 m Γ x e) (hp:mY e0 o' e e1) (hu:qo kw e):dB P kw X0 w0 m Γ o ((s',.box e1) :: Γ):=by
 intro a W hs;obtain ⟨X,Ow,hF⟩:=hs.x;have h:=hF.facts s' _ hl';have h0:=hF.facts s _ hl;unfold ah at h h0;obtain ⟨b,cs,t,g1,g2,g3,g4,g5,g6⟩:=h;obtain ⟨b',q1,q2⟩:=h0;obtain rfl:b = b':=bh (g1.symm.trans q1);obtain ⟨c1,c2⟩:=(hx a W X Ow hF).cells;have hel:(a.eval x).cells.toList.length = e.width:=c1.len;obtain ⟨p1,p2⟩:=hp kw X W cs _ g4 c1;have q2':a.eval (.tmp s) = .pointer (some ⟨b,o',none⟩):=q2;refine sG ho hd (by rw [q2'];exact lM hT rfl hel (aU.one _ _ c1) g3 (by omega)) (hF.write g1 g3 p1 g6 g5 ⟨_,hl'⟩ fun tr hh=>?_).fs;unfold ah;refine ⟨b,_,t,g1,g2,hh,aU.tr tr _ _ p2,fun ek v hv=>?_,g6⟩;simp only [nV,a6] at hv;rcases hv with (hv | hv) | hv
 · exact g5 ek v (bE hv)
 · exact aU.kJ _ _ c1 (hu ek) v hv
 · exact g5 ek v (dt hv)
theorem aF.setAt {l:List D} {cs es:List Value} {e:D} (h:aF kw X W l cs) (hk:∀ x∈l,x.width = k) (hi:i < l.length) (he:aU kw X W e es) (hw:e.width = k):aF kw X W (l.set i e) (nV cs (i * k) es):=by
 have e1:l = l.take i ++ (l[i] :: l.drop (i + 1)):=by
  conv=>lhs;rw [← dj i l]
  congr 1;exact cJ hi
 rw [e1] at h;obtain ⟨c1,c2,rfl,f1,f2⟩:=h.split;unfold aF at f2;obtain ⟨c3,c4,rfl,f3,f4⟩:=f2;have l1:c1.length = i * k:=by rw [f1.len,D.dF (fun x hx=>hk x (bE hx)),av,da (by omega)]
 have l3:c3.length = k:=by rw [f3.len];exact hk _ (List.getElem_mem hi)
 have le:es.length = k:=by rw [he.len];exact hw
 have e2:nV (c1 ++ (c3 ++ c4)) (i * k) es = c1 ++ (es ++ c4):=by
  simp only [nV];rw [← l1,cj rfl,show c1.length + es.length = c1.length + c3.length by omega,d9];simp
 rw [e2,db,if_pos hi];refine f1.append ?_;unfold aF;exact ⟨_,_,rfl,he,f4⟩
theorem VJ {T s s':Nat} {x:Operand} {l:List D} {e:D} (ho:o.op = .store T (.tmp s) x) (hd:o.dst = none) (hT:(P.info? T).map (·.size) = some k) (hl:lk Γ s = some (.qH s' i k)) (hl':lk Γ s' = some (.own k l)) (hi:i < l.length) (hx:jJ kw X0 w0 m Γ x e) (hw:e.width = k) (hu:qo kw e):dB P kw X0 w0 m Γ o ((s',.own k (l.set i e)) :: Γ):=by
 intro a W hs;obtain ⟨X,Ow,hF⟩:=hs.x;have h:=hF.facts s' _ hl';have h0:=hF.facts s _ hl;unfold ah at h h0;obtain ⟨b,c,cs,t,g1,g2,g3,g4,g5,g6,g7,g8,g9⟩:=h;obtain ⟨b',q1,q2⟩:=h0;obtain rfl:b = b':=bh (g1.symm.trans q1);obtain ⟨c1,c2⟩:=(hx a W X Ow hF).cells;have hel:(a.eval x).cells.toList.length = k:=by rw [c1.len];exact hw
 have hik:i * k + k≤l.length * k:=by rw [← Nat.succ_mul];exact aL k hi
 have hlc:l.length * k≤c * k:=aL k g3;have q2':a.eval (.tmp s) = .pointer (some ⟨b,i * k,none⟩):=q2;refine sG ho hd (by rw [q2'];exact lM hT rfl hel (aU.one _ _ c1) g5 (by omega)) (hF.write g1 g5 (by omega) g9 g8 ⟨_,hl'⟩ fun tr hh=>?_).fs;unfold ah;refine ⟨b,c,_,t,g1,by rw [eh];exact g2,by rw [eh];exact g3,fun y hy=>?_,hh,by rw [qG (by omega)];exact g6,?_,fun ek v hv=>?_,g9⟩
 · rcases List.mem_or_eq_of_mem_set hy with hy | hy
   · exact g4 y hy
   · rw [hy];exact hw
 · rw [eh];have e2:(nV cs (i * k) (a.eval x).cells.toList).take (l.length * k) = nV (cs.take (l.length * k)) (i * k) (a.eval x).cells.toList:=by
    simp only [nV];rw [d8,d8,gx,gx,List.drop_take];simp only [av,aw,hel];rw [da (show i * k≤cs.length by omega),Nat.min_eq_right (show i * k≤l.length * k by omega),da (show i * k≤l.length * k by omega),aR (l:=(a.eval x).cells.toList) (by omega)]
   rw [e2];exact aF.tr tr _ _ (g7.setAt g4 hi c1 hw)
 · simp only [nV,a6] at hv;rcases hv with (hv | hv) | hv
   · exact g8 ek v (bE hv)
   · exact aU.kJ _ _ c1 (hu ek) v hv
   · exact g8 ek v (dt hv)
end
theorem ah.tr2 {kw:Bool} {X X':XS} {W W':World} {Ow Ow':Nat→Option Nat} {tm tm':Nat→Value} {s:Nat} (D:Nat→Prop) (t:Tr kw X X' W W') (hs:tm' s = tm s) (hD:¬ D s)
 (hO:∀ s b,¬ D s→Ow s = some b→Ow' s = some b∧W'.heap[b]? = W.heap[b]?∧∀ o,X' b o↔X b o):∀ {f:F},(∀ s',f.refs s' = true→¬ D s'∧tm' s' = tm s')→ah kw X W Ow tm s f→ah kw X' W' Ow' tm' s f
 | .dat d,_,h=>by unfold ah at h ⊢;rw [hs];exact h.tr t
 | .bT l,_,h=>by unfold ah at h ⊢;rw [hs];obtain ⟨vs,h1,h2⟩:=h;exact ⟨vs,h1,h2.tr t⟩
 | .ptr d,_,h=>by unfold ah at h ⊢;rw [hs];obtain ⟨b,o,es,h1,h2,h3⟩:=h;exact ⟨b,o,es,h1,h2.tr t,aU.tr t _ _ h3⟩
 | .box d,_,h=>by
  unfold ah at h ⊢;rw [hs];obtain ⟨b,es,ty,h1,h2,h3,h4,h5,h6⟩:=h;obtain ⟨o1,o2,o3⟩:=hO s b hD h1;exact ⟨b,es,ty,o1,h2,by rw [o2];exact h3,aU.tr t _ _ h4,h5,fun o=>(o3 o).2 (h6 o)⟩
 | .sub s' o,hr,h=>by unfold ah at h ⊢;rw [hs];obtain ⟨b,h1,h2⟩:=h;exact ⟨b,(hO s' b (hr s' (by simp [F.refs])).1 h1).1,h2⟩
 | .own k l,_,h=>by
  unfold ah at h ⊢;rw [hs];obtain ⟨b,c,es,ty,h1,h2,h3,h4,h5,h6,h7,h8,h9⟩:=h;obtain ⟨o1,o2,o3⟩:=hO s b hD h1;exact ⟨b,c,es,ty,o1,h2,h3,h4,by rw [o2];exact h5,h6,aF.tr t _ _ h7,h8,fun o=>(o3 o).2 (h9 o)⟩
 | .grow k l,_,h=>by
  unfold ah at h ⊢;rw [hs];obtain ⟨h0,h⟩:=h;refine ⟨h0,?_⟩;rcases h with h | ⟨b,c,es,ty,h1,h2,h3,h5,h6,h7,h8,h9⟩
  · exact .inl h
  · obtain ⟨o1,o2,o3⟩:=hO s b hD h1;exact .inr ⟨b,c,es,ty,o1,h2,h3,by rw [o2];exact h5,h6,aF.tr t _ _ h7,h8,fun o=>(o3 o).trans (h9 o)⟩
 | .ov u k l,_,h=>by
  unfold ah at h ⊢;obtain ⟨b,c,es,ty,h1,h2,h3,h4,h5,h6,h7,h8,h9⟩:=h;obtain ⟨o1,o2,o3⟩:=hO s b hD h1;exact ⟨b,c,es,ty,o1,h2,h3,h4,by rw [o2];exact h5,h6,aF.tr t _ _ h7,h8,fun o=>(o3 o).2 (h9 o)⟩
 | .gv u k l,_,h=>by
  unfold ah at h ⊢;obtain ⟨h0,h⟩:=h;refine ⟨h0,?_⟩;rcases h with h | ⟨b,c,es,ty,h1,h2,h3,h5,h6,h7,h8,h9⟩
  · exact .inl h
  · obtain ⟨o1,o2,o3⟩:=hO s b hD h1;exact .inr ⟨b,c,es,ty,o1,h2,h3,by rw [o2];exact h5,h6,aF.tr t _ _ h7,h8,fun o=>(o3 o).trans (h9 o)⟩
 | .qE k l ds,_,h=>by
  unfold ah at h ⊢;rw [hs];obtain ⟨v,vs,e1,e2,h0,h⟩:=h;refine ⟨v,vs,e1,e2.tr t,h0,?_⟩;rcases h with h | ⟨b,c,es,ty,h1,h2,h3,h5,h6,h7,h8,h9⟩
  · exact .inl h
  · obtain ⟨o1,o2,o3⟩:=hO s b hD h1;exact .inr ⟨b,c,es,ty,o1,h2,h3,by rw [o2];exact h5,h6,aF.tr t _ _ h7,h8,fun o=>(o3 o).trans (h9 o)⟩
 | .Sm s' e,hr,h=>by unfold ah at h ⊢;rw [hs,(hr s' (by simp [F.refs])).2];obtain ⟨cs,h1,h2⟩:=h;exact ⟨cs,h1,aU.tr t _ _ h2⟩
 | .zy s',hr,h=>by unfold ah at h ⊢;rw [hs,(hr s' (by simp [F.refs])).2];exact h
 | .qH s' i k,hr,h=>by unfold ah at h ⊢;rw [hs];obtain ⟨b,h1,h2⟩:=h;exact ⟨b,(hO s' b (hr s' (by simp [F.refs])).1 h1).1,h2⟩
 | .kS c f,hr,h=>by
  unfold ah at h ⊢;exact ⟨fun e=>ah.tr2 D t hs hD hO (f:=f) (fun s' h'=>hr s' (by simpa [F.refs] using h')) (h.1 e),fun e=>hs.trans (h.2 e)⟩
 | .wp z,_,h=>by unfold ah at h ⊢;rw [hs];obtain ⟨e,p,h1,h2⟩:=h;exact ⟨e,p,h1,t.ku e p _ h2⟩
 | .e0,_,h=>by unfold ah at h ⊢;rw [hs];exact h
 | .any,_,_=>by unfold ah;trivial
 | .aan v f,hr,h=>by
  unfold ah at h ⊢;exact ah.WJ (tm:=fun _=>v) (tm':=fun _=>v) t rfl (fun b=>hO s b hD) (f:=f) (fun s' h'=>⟨rfl,fun b hb=>(hO s' b (hr s' (by simpa [F.refs] using h')).1 hb).1⟩) h
 | .AV s1 s2,hr,h=>by unfold ah at h ⊢;rw [hs,(hr s1 (by simp [F.refs])).2,(hr s2 (by simp [F.refs])).2];exact h
section
variable {P:Program} {ops:Array Oper} {kw:Bool} {X0:XS} {w0:World} {m:Nat} {Γ Γ':fA} {a a':Act} {W W':World} {X X':XS} {Ow Ow':Nat→Option Nat} {o:Oper} {d:Nat}
theorem lG.re (D:Nat→Prop) [DecidablePred D] (hx:lG kw X0 w0 m Γ a W X Ow) (h1:a'.tmps.size = m) (h2:a'.defers = []) (h3:Below w0.heap.size w0 W') (h4:Env kw X0 w0 X' Ow' W') (t:Tr kw X X' W W') (h5:∀ s,¬ D s→bY a' s = bY a s) (hO:∀ s b,¬ D s→Ow s = some b→Ow' s = some b∧W'.heap[b]? = W.heap[b]?∧∀ o,X' b o↔X b o) (hr:∀ s,D s→aB Γ s = true) (hΓ:∀ s f,lk Γ' s = some f→(¬ D s∧lk Γ s = some f)∨ah kw X' W' Ow' (bY a') s f):lG kw X0 w0 m Γ' a' W' X' Ow':=by
 refine ⟨h1,h2,h3,hx.x0,h4,fun s f hl=>?_⟩;rcases hΓ s f hl with ⟨g1,g2⟩ | g
 · refine (hx.facts s f g2).tr2 D t (h5 s g1) g1 hO fun s' hf=>?_
   have:¬ D s':=fun hd=>by
    have:=nI (hr s' hd) g2;rw [this] at hf;cases hf
   exact ⟨this,h5 s' this⟩
 · exact g
theorem tZ {T2 e2:Nat} {l:List D} (h:Rep kw X W v (.list k l)) (hT:P.underlying T2 = some (.slice e2)):∃ news,Src P k T2 v l.length news W∧aF kw X W l news:=by
 obtain ⟨A,c,rfl,h1,h2,h3⟩:=jm h
 by_cases hl:l = []
 · subst hl;refine ⟨[],?_,by unfold aF;rfl⟩;cases A with
   | none=>exact Src.ofNil W hT c
   | some ad=>exact Src.ofSlice W hT ad 0 c [] (by simp) (fun j u h=>by simp at h) (fun _ h=>by cases h)
 · obtain ⟨b,o',es,rfl,h4,h5,h6⟩:=h3 hl;exact ⟨es,Src.ofSlice W hT _ _ c es h4 (fun j u hj=>by rw [fh];exact (h5 j u hj).2) (aF.one _ _ h6),h6⟩
theorem oz (z:Array Value) (n:Nat):(ar z n).size = n * z.size:=by simp [ar]
theorem oO {z:Array Value} {n:Nat} (h:v∈(ar z n).toList):v∈z.toList:=by
 simp only [ar,eI,List.mem_map,ew,de] at h;obtain ⟨i,h1,h2⟩:=h;have h3:0 < z.size:=by
  rcases Nat.eq_zero_or_pos z.size with h | h
  · rw [h] at h1;simp at h1
  · exact h
 have h4:i % z.size < z.size:=Nat.mod_lt _ h3;rw [getElem!_pos z _ h4] at h2;rw [← h2];simp
structure PI (P:Program) (T T2 k:Nat) (z:D) (bytes:Nat):Prop where
 ex:∃ e e2 i v,P.underlying T = some (.slice e)∧P.underlying T2 = some (.slice e2)∧P.info? e = some i∧i.zero = some v∧i.size = k∧i.bytes = bytes∧∀ kw X W,aU kw X W z v.cells.toList
theorem zf {T T2 bytes s:Nat} {z:D} {x:Operand} {l1 l2:List D} (ho:o.op = .call { callee:=.builtin .append,args:=#[.tmp s,x],argTypes:=#[T,T2] }) (hd:o.dst = some d) (hdm:d < m) (hn:aB Γ d = true) (pi:PI P T T2 k z bytes) (hz:z.width = k) (hk:0 < k) (huz:qo kw z) (hw1:∀ e∈l1,e.width = k) (hw2:∀ e∈l2,e.width = k) (hu2:kw = true→D.ik l2 = true) (hF:lG kw X0 w0 m Γ a W X Ow) {base:Option Addr} {c:Nat} {olds:List Value} (hs:a.eval (.tmp s) = .slice base l1.length c) (ho1:aF kw X W l1 olds) (hou:Qs kw olds) (hold:∀ w',(w' = W.drew)→(bq k l1.length (.slice base l1.length c)).run P w' = .ok olds.toArray w') (hx:Rep kw X W (a.eval x) (.list k l2)) (hg:c < l1.length + l2.length) (hb:(l1.length + l2.length) * bytes≤140737488355328) (hb0:0 < bytes) :
 oC P o a W (FSq kw X0 w0 m ((d,.grow k (l1 ++ l2)) :: Γ)):=by
 obtain ⟨e,e2,i,v,p1,p2,p3,p4,p5,p6,p7⟩:=pi.ex;obtain ⟨news,q1,q2⟩:=tZ (P:=P) hx p2;subst p5 p6;have hfit:=growslice_fits hg hb;have hlt:l1.length + l2.length≤140737488355328:=gD (fk _ hb0) hb;have hrun:=run_append_grow_src (P:=P) W T T2 o.type e i v p1 p3 p4 base l1.length c olds (hold _ rfl) (a.eval x) l2.length news q1 hg (by omega) hfit;have hr:(execOp a.eval o).run P W = .ok (.value (.slice (some ⟨W.heap.size,0,none⟩) (l1.length + l2.length) (grownCap W (l1.length + l2.length) c e))) (W.drew.alloc (.cells ((olds ++ news).toArray ++ ar v.cells (grownCap W (l1.length + l2.length) c e - (l1.length + l2.length))) e)):=by
  simp only [execOp,ho,resolve,bs,bO,cF,bc,a8,ao,invoke,builtin,hs,hrun]
 unfold oC;rw [hr,hd];generalize hcap:grownCap W (l1.length + l2.length) c e = cap at *;have hcge:l1.length + l2.length≤cap:=by rw [← hcap];exact grownCap_ge _ _ _ _
 have hbel:Below W.heap.size W (W.drew.alloc (.cells ((olds ++ news).toArray ++ ar v.cells (cap - (l1.length + l2.length))) e)):=((Below.refl _ W).drew).alloc (by simp) _;have hol:=ho1.len;have hnl:=q2.len;rw [D.dF hw1] at hol;rw [D.dF hw2] at hnl;have hvs:v.cells.size = i.size:=by rw [← bj,(p7 kw X W).len];exact hz
 refine (hF.fresh hdm hn hbel (by simp) (fun o=>(l1 ++ l2).length * i.size≤o) ?_).fs;unfold ah;have hap:=ho1.append q2;have htr:Tr kw X (fun b o=>X b o∨(b = W.heap.size∧(l1 ++ l2).length * i.size≤o)) W (W.drew.alloc (.cells ((olds ++ news).toArray ++ ar v.cells (cap - (l1.length + l2.length))) e)) :=
  ⟨(Tr.of_below (kw:=kw) (X:=X) hbel).ku,fun b o v hx hc=>⟨fun hx'=>by
   rcases hx' with hx' | ⟨e,_⟩
   · exact hx hx'
   · have:=bL W _ hc;simp only [e] at this;omega,((Tr.of_below (kw:=kw) (X:=X) hbel).keep b o v hx hc).2⟩⟩
 refine ⟨fun y hy=>?_,.inr ⟨W.heap.size,cap,olds ++ news ++ (ar v.cells (cap - (l1.length + l2.length))).toList,e,by simp,by rw [iR hF.size hdm,aw],by rw [aw];exact hcge,?_,?_,?_,?_,?_⟩⟩
 · rcases a6.1 hy with hy | hy
   · exact hw1 y hy
   · exact hw2 y hy
 · have:=alloc_at W.drew (.cells ((olds ++ news).toArray ++ ar v.cells (cap - (l1.length + l2.length))) e);rw [show W.drew.heap.size = W.heap.size from rfl] at this;rw [this];congr 2;apply gE;simp
 · simp only [aw,bj,oz,hvs,hol,hnl];rw [← bk,← bk];congr 1;omega
 · rw [cj (by simp [hol,hnl,bk])];exact aF.tr htr _ _ hap
 ·
  intro ek u hu;rcases a6.1 hu with hu | hu
  · rcases a6.1 hu with hu | hu
    · exact hou ek u hu
    · exact aF.kJ _ _ q2 (hu2 ek) u hu
  · exact aU.kJ _ _ (p7 kw X W) (huz ek) u (oO hu)
 ·
  intro o;constructor
  · rintro (h | ⟨_,h⟩)
    · have:=hF.env.lt hF.x0 hF.below h;omega
    · exact h
  · exact fun h=>.inr ⟨rfl,h⟩
theorem Vr {T T2 bytes s:Nat} {z:D} {x:Operand} {l1 l2:List D} (ho:o.op = .call { callee:=.builtin .append,args:=#[.tmp s,x],argTypes:=#[T,T2] }) (hd:o.dst = some d) (hdm:d < m) (hn:aB Γ d = true) (hns:aB Γ s = true) (hne:d≠s) (pi:PI P T T2 k z bytes) (hz:z.width = k) (hk:0 < k) (huz:qo kw z) (hl:lk Γ s = some (.grow k l1)) (hx:jJ kw X0 w0 m Γ x (.list k l2)) (hu2:kw = true→D.ik l2 = true) (hb:(l1.length + l2.length) * bytes≤140737488355328) (hb0:0 < bytes):dB P kw X0 w0 m Γ o ((d,.grow k (l1 ++ l2)) :: (s,.any) :: Γ):=by
 intro a W hs;obtain ⟨X,Ow,hF⟩:=hs.x;have hf:=hF.facts s _ hl;unfold ah at hf;have hxr:=hx a W X Ow hF;have hw2:∀ e∈l2,e.width = k:=by obtain ⟨A,c,_,_,h,_⟩:=jm hxr;exact h
 have drop:∀ a' W',FSq kw X0 w0 m ((d,.grow k (l1 ++ l2)) :: Γ) a' W'→FSq kw X0 w0 m ((d,.grow k (l1 ++ l2)) :: (s,.any) :: Γ) a' W':=fun a' W' h=>by
  obtain ⟨X1,Ow1,h1⟩:=h.x;refine lG.fs (X:=X1) (Ow:=Ow1) ⟨h1.size,h1.defs,h1.below,h1.x0,h1.env,fun t g ht=>?_⟩;unfold lk at ht
  split at ht
  · rename_i es;injection ht with ht;rw [← ht,← es];exact h1.facts d _ (by simp [lk])
  · rename_i es;unfold lk at ht
    split at ht
    · injection ht with ht;rw [← ht];unfold ah;trivial
    · exact h1.facts t g (by unfold lk;rw [if_neg es];exact ht)
 obtain ⟨h0,hf⟩:=hf;rcases hf with ⟨h1,rfl⟩ | ⟨b,c,es,t,g1,g2,g3,g5,g6,g7,g8,g9⟩
 ·
  have h1':a.eval (.tmp s) = .slice none 0 0:=h1
  by_cases hl2:l2 = []
  ·
   subst hl2;obtain ⟨e,e2,i,v,p1,p2,p3,p4,p5,p6,p7⟩:=pi.ex;obtain ⟨A,cx,hxv,_⟩:=jm hxr;have hr:(execOp a.eval o).run P W = .ok (.value (.slice none 0 0)) W:=by
    have:(ea #[T,T2] o.type #[.slice none 0 0,.slice A 0 cx]).run P W = .ok (.slice none 0 0) W:=by
     have hfc:(bq i.size 0 (.slice A 0 cx)).run P W = .ok #[] W:=by
      cases A <;> simp [bq,loadCells,loadCellsFrom]
     simp [ea,run_underlying p1,run_underlying p2,sizeOf,typeInfo,p3,f8,hfc]
    simp only [gi] at hxv;simp only [execOp,ho,resolve,bs,bO,cF,bc,a8,ao,invoke,builtin,h1',hxv,this]
   unfold oC;rw [hr,hd];refine drop _ _ ((hF.put hdm hn (Below.refl _ _) ?_).fs);unfold ah;exact ⟨by simp,.inl ⟨iR hF.size hdm,rfl⟩⟩
  · have hpos:0 < l2.length:=by cases l2 <;> simp_all
    refine (zf ho hd hdm hn pi hz hk huz (l1:=[]) (l2:=l2) (by simp) hw2 hu2 hF (c:=0) (base:=none) (olds:=[]) h1' (by unfold aF;rfl) (fun _ _ h=>by cases h) (fun w' _=>by simp [bq]) hxr (by simp;omega) hb hb0).mono drop
 ·
  have g2':a.eval (.tmp s) = .slice (some ⟨b,0,none⟩) l1.length c:=g2;have hlc:l1.length * k≤c * k:=aL k g3;have hol:(es.take (l1.length * k)).length = l1.length * k:=by rw [av];omega
  by_cases hroom:l1.length + l2.length≤c
  ·
   obtain ⟨e,e2,i,v,p1,p2,p3,p4,p5,p6,p7⟩:=pi.ex;obtain ⟨news,q1,q2⟩:=tZ (P:=P) hxr p2;have hnl:=q2.len;rw [D.dF hw2] at hnl;have hlc2:(l1.length + l2.length) * k≤c * k:=aL k hroom;rw [bk] at hlc2;have hcell:=bW g5;subst p5;have hrun:=run_append_room_src (P:=P) W T T2 o.type e i p1 p3 b 0 l1.length c (a.eval x) l2.length news q1 hroom (fun j hj=>by rw [aq,hcell,cV (by omega)];rfl) (fun j hj=>by simp [eZ,g5]);simp only [aq] at hrun;have hr:(execOp a.eval o).run P W = .ok (.value (.slice (some ⟨b,0,none⟩) (l1.length + l2.length) c)) (W.setCells b (l1.length * i.size) news):=by
    simp only [execOp,ho,resolve,bs,bO,cF,bc,a8,ao,invoke,builtin,g2',hrun]
   unfold oC;rw [hr,hd];obtain ⟨s1,s2,s3⟩:=jr news b (l1.length * i.size) W es t g5 (by omega);obtain ⟨r1,r2⟩:=hF.env.wS s b g1
   let X1:XS:=fun b' o=>X b' o∧¬ (b' = b∧o < (l1.length + l2.length) * i.size)
   let Ow1:Nat→Option Nat:=fun u=>if u = d then some b else if u = s then none else Ow u
   have hX1:∀ b',b'≠b→∀ o,X1 b' o↔X b' o:=fun b' hb' o=>⟨fun h=>h.1,fun h=>⟨h,fun h2=>hb' h2.1⟩⟩
   have tr:Tr kw X X1 W (W.setCells b (l1.length * i.size) news):=by
    refine ⟨fun ek p j hp=>?_,fun b' o v hx hc=>⟨fun h=>hx h.1,?_⟩⟩
    · by_cases hpb:p.block = b
      · exfalso;have h5:es[p.off]? = some (.int .u32 j):=by
         simp [fI,hpb,g5] at hp;simpa using hp.2
        exact g8 ek _ (cH h5) j rfl
      · rw [ck (w:=W) (w':=W.setCells b (l1.length * i.size) news) (a:=p) (s2 p.block hpb)];exact hp
    · by_cases hb':b' = b
      · subst hb';have hlt:o < l1.length * i.size:=by
         rcases cG o (l1.length * i.size) with h | h
         · exact h
         · exact absurd ((g9 o).2 h) hx
        rw [bW s1,nV,List.append_assoc,ff (by rw [av];omega),bA,if_pos hlt,← hcell];exact hc
      · rw [ck (w:=W) (w':=W.setCells b (l1.length * i.size) news) (a:=⟨b',o,none⟩) (s2 b' hb')];exact hc
   refine lG.fs (X:=X1) (Ow:=Ow1) (hF.re (fun u=>u = d∨u = s) (by rw [iZ];exact hF.size) (by rw [fH];exact hF.defs) (hF.below.trans (jD news _ W r1)) ⟨fun b' o hx=>⟨hF.env.sub b' o hx,fun h=>?_⟩,fun b' o hx=>?_,?_,?_⟩ tr (fun u hu=>eval_put_ne (fun e=>hu (.inl e.symm))) (fun u b' hu hb'=>?_) (fun u hu=>by rcases hu with rfl | rfl <;> assumption) fun u g hg=>?_)
   · have:=hF.x0 b' o hx;omega
   · rw [s3];exact hF.env.sup b' o hx.1
   · intro u u' b' h1 h2
     by_cases e1:u = d <;> by_cases e2:u' = d <;> by_cases e3:u = s <;> by_cases e4:u' = s <;> simp [Ow1,e1,e2,e3,e4,hne,bm hne] at h1 h2 ⊢ <;>
      first
       | exact hF.env.inj u u' b' h1 h2
       | (exfalso;subst_vars;first | exact e4 (hF.env.inj _ _ _ h2 g1) | exact e3 (hF.env.inj _ _ _ h1 g1))
   · intro u b' h1;rw [s3]
     by_cases e1:u = d
     · simp [Ow1,e1] at h1;subst h1;exact ⟨r1,r2⟩
     · by_cases e3:u = s
       · simp [Ow1,e1,e3,bm hne] at h1
       · simp [Ow1,e1,e3] at h1;exact hF.env.wS u b' h1
   · have hu1:¬ u = d:=fun e=>hu (.inl e)
     have hu2':¬ u = s:=fun e=>hu (.inr e)
     have hb2:b'≠b:=fun e=>hu2' (hF.env.inj u s b (by rw [hb',e]) g1)
     exact ⟨by simp [Ow1,hu1,hu2',hb'],s2 b' hb2,hX1 b' hb2⟩
   ·
    unfold lk at hg
    split at hg
    ·
     rename_i es';injection hg with hg
     rw [← hg,← es'];refine .inr ?_;unfold ah;have hw1':=h0;refine ⟨fun y hy=>?_,.inr ⟨b,c,_,t,by simp [Ow1],by rw [iR hF.size hdm,aw],by rw [aw];exact hroom,s1,by rw [qG (by omega)];exact g6,?_,fun ek u hu=>?_,fun o=>?_⟩⟩
     · rcases a6.1 hy with hy | hy
       · exact h0 y hy
       · exact hw2 y hy
     · have e3:(nV es (l1.length * i.size) news).take ((l1 ++ l2).length * i.size) = es.take (l1.length * i.size) ++ news:=by
        unfold nV;rw [cj (by simp [hnl,bk];omega)]
       rw [e3];exact aF.tr tr _ _ (g7.append q2)
     · simp only [nV,a6] at hu;rcases hu with (hu | hu) | hu
       · exact g8 ek u (bE hu)
       · exact aF.kJ _ _ q2 (hu2 ek) u hu
       · exact g8 ek u (dt hu)
     · rw [aw];constructor
       · rintro ⟨h1,h2⟩;rcases cG o ((l1.length + l2.length) * i.size) with h | h
         · exact absurd ⟨rfl,h⟩ h2
         · exact h
       · intro h;refine ⟨(g9 o).2 ?_,fun h2=>by omega⟩;rw [bk] at h;omega
    · rename_i es';unfold lk at hg
      split at hg
      · injection hg with hg;rw [← hg];refine .inr ?_;unfold ah;trivial
      · rename_i es2;exact .inl ⟨fun h=>h.elim (fun e=>es' e.symm) (fun e=>es2 e.symm),hg⟩
  · refine (zf ho hd hdm hn pi hz hk huz h0 hw2 hu2 hF (c:=c) (base:=some ⟨b,0,none⟩) (olds:=es.take (l1.length * k)) g2' g7 (fun ek u hu=>g8 ek u (bE hu)) (fun w' hw'=>?_) hxr (by omega) hb hb0).mono drop;subst hw';refine run_firstCells_some (P:=P) W.drew k l1.length ⟨b,0,none⟩ l1.length c _ hol fun j v hj=>?_
    rw [fh,aq];show W.cell? ⟨b,j,none⟩ = some v;rw [bW g5];rw [bA] at hj
    split at hj
    · exact hj
    · cases hj
theorem Q7 {T T2 bytes s:Nat} {z:D} {x:Operand} {l2:List D} (ho:o.op = .call { callee:=.builtin .append,args:=#[.tmp s,x],argTypes:=#[T,T2] }) (hd:o.dst = some d) (hdm:d < m) (hn:aB Γ d = true) (pi:PI P T T2 k z bytes) (hz:z.width = k) (hk:0 < k) (huz:qo kw z) (hl:lk Γ s = some .e0) (hx:jJ kw X0 w0 m Γ x (.list k l2)) (hne:l2≠[]) (hu2:kw = true→D.ik l2 = true) (hb:l2.length * bytes≤140737488355328) (hb0:0 < bytes):dB P kw X0 w0 m Γ o ((d,.grow k l2) :: Γ):=by
 intro a W hs;obtain ⟨X,Ow,hF⟩:=hs.x;have hf:=hF.facts s _ hl;unfold ah at hf;obtain ⟨A,h1⟩:=hf;have h1':a.eval (.tmp s) = .slice A 0 0:=h1;have hxr:=hx a W X Ow hF;have hw2:∀ e∈l2,e.width = k:=by obtain ⟨A,c,_,_,h,_⟩:=jm hxr;exact h
 have hpos:0 < l2.length:=by cases l2 <;> simp_all
 exact zf ho hd hdm hn pi hz hk huz (l1:=[]) (l2:=l2) (by simp) hw2 hu2 hF (c:=0) (base:=A) (olds:=[]) h1' (by unfold aF;rfl) (fun _ _ h=>by cases h) (fun w' _=>by cases A <;> simp [bq,loadCells,loadCellsFrom]) hxr (by simp;omega) (by simpa using hb) hb0
theorem FSq.add {s:Nat} {f:F} (h:FSq kw X0 w0 m Γ a W) (hf:∀ X Ow,lG kw X0 w0 m Γ a W X Ow→ah kw X W Ow (bY a) s f):FSq kw X0 w0 m ((s,f) :: Γ) a W:=by
 obtain ⟨X,Ow,hx⟩:=h.x;refine lG.fs (X:=X) (Ow:=Ow) ⟨hx.size,hx.defs,hx.below,hx.x0,hx.env,fun t g ht=>?_⟩;unfold lk at ht
 split at ht
 · rename_i es;injection ht with ht;rw [← ht,← es];exact hf X Ow hx
 · exact hx.facts t g ht
theorem FSq.qK {s:Nat} {l:List D} (h:FSq kw X0 w0 m Γ a W) (hl:lk Γ s = some (.grow k l)):FSq kw X0 w0 m ((s,.dat (.list k l)) :: Γ) a W :=
 h.add fun X Ow hx=>by unfold ah;exact jJ.grow hl a W X Ow hx
theorem FSq.Uk {s:Nat} (h:FSq kw X0 w0 m Γ a W) (hl:lk Γ s = some (.dat (.val (.slice none 0 0)))):FSq kw X0 w0 m ((s,.dat (.list k [])) :: Γ) a W :=
 h.add fun X Ow hx=>by unfold ah;exact jJ.nil (jJ.t hl) a W X Ow hx
theorem FSq.lF {s:Nat} (h:FSq kw X0 w0 m Γ a W) (hl:lk Γ s = some (.dat (.val (.slice none 0 0)))):FSq kw X0 w0 m ((s,.grow k []) :: Γ) a W :=
 h.add fun X Ow hx=>by unfold ah;exact ⟨by simp,.inl ⟨hx.fs.val hl,rfl⟩⟩
theorem FSq.kP {s:Nat} {l:List D} (h:FSq kw X0 w0 m Γ a W) (hl:lk Γ s = some (.own k l)) (hn:aB Γ s = true):FSq kw X0 w0 m ((s,.dat (.list k l)) :: Γ) a W:=by
 obtain ⟨X,Ow,hx⟩:=h.x;have hf:=hx.facts s _ hl;unfold ah at hf;obtain ⟨b,c,es,t,g1,g2,g3,g4,g5,g6,g7,g8,g9⟩:=hf
 let X1:XS:=fun b' o=>X b' o∧b'≠b
 have tr:Tr kw X X1 W W:=⟨fun _=>kE.refl _,fun b' o v hx' hc=>⟨fun h=>hx' h.1,hc⟩⟩;obtain ⟨r1,r2⟩:=hx.env.wS s b g1;refine lG.fs (X:=X1) (Ow:=Ow) (hx.re (fun u=>u = s) hx.size hx.defs hx.below ⟨fun b' o h=>⟨hx.env.sub b' o h,fun e=>?_⟩,fun b' o h=>hx.env.sup b' o h.1,hx.env.inj,hx.env.wS⟩ tr (fun _ _=>rfl) (fun u b' hu hb'=>⟨hb',rfl,fun o=>⟨fun h=>h.1,fun h=>⟨h,fun e=>hu (hx.env.inj u s b (by rw [hb',e]) g1)⟩⟩⟩) (fun u hu=>by rw [hu];exact hn) fun u g hg=>?_)
 · have:=hx.x0 b' o h;omega
 ·
  unfold lk at hg
  split at hg
  ·
   rename_i es';injection hg with hg
   rw [← hg,← es'];refine .inr ?_;unfold ah;rw [g2];have hlc:l.length * k≤c * k:=aL k g3;refine dI g3 g4 fun _=>⟨b,0,es.take (l.length * k),rfl,by rw [av];omega,fun j v hj=>⟨fun h=>h.2 rfl,?_⟩,aF.tr tr _ _ g7⟩
   rw [aq,bW g5];rw [bA] at hj
   split at hj
   · exact hj
   · cases hj
  · rename_i es';exact .inl ⟨fun e=>es' e.symm,hg⟩
theorem FSq.congr (h:FSq kw X0 w0 m Γ a W) (e:∀ s,lk Γ' s = lk Γ s):FSq kw X0 w0 m Γ' a W:=by
 obtain ⟨X,Ow,hx⟩:=h.x;exact lG.fs (X:=X) (Ow:=Ow) ⟨hx.size,hx.defs,hx.below,hx.x0,hx.env,fun s f hl=>hx.facts s f (by rw [← e];exact hl)⟩
end
structure Hd where
 Fs:List (Nat × F)
 d:Nat
 f:F
 u:Bool
def yO:List Hd→Nat→Array Bool→fA→fA
 | [],_,_,Γ=>Γ
 | h :: H,i,listed,Γ=>yO H (i + 1) listed (if listed.getD i false = true then (h.d,h.f) :: Γ else Γ)
def pg:List Hd→fA→fA
 | [],Γ=>Γ
 | h :: H,Γ=>pg H ((h.d,h.f) :: Γ)
def Has (Γ:fA):List (Nat × F)→Prop
 | []=>True
 | p :: r=>lk Γ p.1 = some p.2∧Has Γ r
theorem Has.mem {Γ:fA}:∀ {l:List (Nat × F)},Has Γ l→∀ p∈l,lk Γ p.1 = some p.2
 | [],_,_,h=>nomatch h
 | q :: r,h,p,hp=>by
  rcases fg.1 hp with rfl | hp
  · exact h.1
  · exact Has.mem h.2 p hp
theorem Has.of {Γ:fA}:∀ {l:List (Nat × F)},(∀ p∈l,lk Γ p.1 = some p.2)→Has Γ l
 | [],_=>trivial
 | q :: r,h=>⟨h q (dy ..),Has.of fun p hp=>h p (du _ hp)⟩
variable {Γ:fA} {s:Nat}
theorem qO {t:Nat} {f:F} (h:s≠t):lk ((s,f) :: Γ) t = lk Γ t:=by simp [lk,h]
theorem ac4 {Γ':fA} {t:Nat} {f:F} (h:lk Γ t = lk Γ' t):lk ((s,f) :: Γ) t = lk ((s,f) :: Γ') t:=by
 unfold lk;split <;> simp [h]
theorem Np:∀ {H:List Hd} {Γ Γ':fA} {s:Nat},lk Γ s = lk Γ' s→lk (pg H Γ) s = lk (pg H Γ') s
 | [],_,_,_,h=>h
 | x :: H,Γ,Γ',s,h=>by unfold pg;exact Np (ac4 h)
theorem xX:∀ {H:List Hd} {i:Nat} {listed:Array Bool} {Γ:fA} {s:Nat},(∀ (j:Nat) (h:Hd),H[j]? = some h→listed.getD (i + j) false = true→h.d≠s)→lk (yO H i listed Γ) s = lk Γ s
 | [],_,_,_,_,_=>rfl
 | x :: H,i,listed,Γ,s,h=>by
  unfold yO;rw [xX fun j y hj hl=>h (j + 1) y (by simpa using hj) (by rwa [show i + (j + 1) = i + 1 + j by omega])]
  split
  · rename_i hl;exact qO (h 0 x rfl (by simpa using hl))
  · rfl
theorem FC:∀ {H:List Hd} {i:Nat} {listed:Array Bool} {Γ:fA} {j:Nat} {h:Hd},H[j]? = some h→listed.getD (i + j) false = true→(∀ (k:Nat) (x:Hd),j < k→H[k]? = some x→listed.getD (i + k) false = true→x.d≠h.d)→lk (yO H i listed Γ) h.d = some h.f
 | [],_,_,_,_,_,h,_,_=>by simp at h
 | x :: H,i,listed,Γ,0,h,hj,hl,hk=>by
  simp at hj;subst hj;unfold yO;rw [xX fun j y hj hl=>hk (j + 1) y (by omega) (by simpa using hj) (by rwa [show i + (j + 1) = i + 1 + j by omega]),if_pos (by simpa using hl)];simp [lk]
 | x :: H,i,listed,Γ,j + 1,h,hj,hl,hk=>by
  unfold yO;exact FC (H:=H) (j:=j) (by simpa using hj) (by rwa [show i + 1 + j = i + (j + 1) by omega]) fun k y hk' hy hl'=>hk (k + 1) y (by omega) (by simpa using hy) (by rwa [show i + (k + 1) = i + 1 + k by omega])
theorem CO:∀ {H:List Hd} {i:Nat} {listed listed':Array Bool} {Γ Γ':fA} {s:Nat},lk Γ s = lk Γ' s→(∀ (j:Nat) (h:Hd),H[j]? = some h→h.d = s→listed.getD (i + j) false = listed'.getD (i + j) false)→lk (yO H i listed Γ) s = lk (yO H i listed' Γ') s
 | [],_,_,_,_,_,_,h,_=>h
 | x :: H,i,listed,listed',Γ,Γ',s,h,hl=>by
  unfold yO;refine CO (H:=H) (i:=i + 1) ?_ fun j y hy hd=>by have:=hl (j + 1) y (by simpa using hy) hd;rwa [show i + (j + 1) = i + 1 + j by omega] at this
  by_cases hx:x.d = s
  · have:=hl 0 x rfl hx;rw [eE] at this;rw [this]
    split
    · exact ac4 h
    · exact h
  · split <;> split <;> simp [qO hx,h]
theorem zC:∀ {H:List Hd} {i:Nat} {listed:Array Bool} {Γ:fA} {j s:Nat},(∀ (k:Nat) (x:Hd),H[k]? = some x→x.d = s→(listed.getD (i + k) false = true↔k < j))→lk (yO H i listed Γ) s = lk (pg (H.take j) Γ) s
 | [],_,_,_,_,_,_=>by simp [yO,pg]
 | x :: H,i,listed,Γ,0,s,h=>by
  rw [eW];exact xX fun k y hk hl e=>absurd ((h k y hk e).1 hl) (by omega)
 | x :: H,i,listed,Γ,j + 1,s,h=>by
  rw [List.take_succ_cons];unfold yO pg;rw [zC (H:=H) (j:=j) fun k y hk e=>by rw [show i + 1 + k = i + (k + 1) by omega,h (k + 1) y (by simpa using hk) e];omega];refine Np ?_
  by_cases hx:x.d = s
  · rw [if_pos (by have:=(h 0 x rfl hx).2 (by omega);simpa using this)]
  · split
    · rfl
    · rw [qO hx]
theorem df {d:Nat} {f:F}:aB ((s,f) :: Γ) d = true↔f.refs d = false∧aB Γ d = true:=by simp [aB]
theorem zq {d:Nat}:∀ {H:List Hd} {Γ:fA},aB (pg H Γ) d = true↔(∀ h∈H,h.f.refs d = false)∧aB Γ d = true
 | [],_=>by simp [pg]
 | x :: H,Γ=>by
  unfold pg;rw [zq,df];simp only [fg,forall_eq_or_imp];constructor
  · rintro ⟨h1,h2,h3⟩;exact ⟨⟨h2,h1⟩,h3⟩
  · rintro ⟨⟨h2,h1⟩,h3⟩;exact ⟨h1,h2,h3⟩
section
variable {P:Program} {ops:Array Oper} {kw:Bool} {X0:XS} {w0:World} {m:Nat} {Γ':fA} {a a':Act} {W W':World} {Q:Exit→Act→World→Prop}
variable (P ops kw X0 w0 m) in
def Vq (o:Oper) (h:Hd):Prop :=
 if h.u = true then ∀ Γ,Has Γ h.Fs→YY P ops kw X0 w0 m Γ o ((h.d,h.f) :: Γ)
 else o.dst = some h.d∧∀ Γ,Has Γ h.Fs→aB Γ h.d = true→YY P ops kw X0 w0 m Γ o ((h.d,h.f) :: Γ)
variable (P ops kw X0 w0 m) in
def HBk:fA→List Oper→List Hd→Prop
 | _,[],[]=>True
 | Γ,o :: l,h :: H=>Vq P ops kw X0 w0 m o h∧Has Γ h.Fs∧HBk ((h.d,h.f) :: Γ) l H
 | _,_,_=>False
theorem HBk.len:∀ {Γ:fA} {l:List Oper} {H:List Hd},HBk P ops kw X0 w0 m Γ l H→H.length = l.length
 | _,[],[],_=>rfl
 | _,o :: l,h :: H,hh=>by simp [HBk.len hh.2.2]
 | _,_ :: _,[],hh=>hh.elim
 | _,[],_ :: _,hh=>hh.elim
theorem HBk.get:∀ {Γ:fA} {l:List Oper} {H:List Hd} {j:Nat} {o:Oper},HBk P ops kw X0 w0 m Γ l H→l[j]? = some o→∃ h,H[j]? = some h∧Vq P ops kw X0 w0 m o h∧Has (pg (H.take j) Γ) h.Fs
 | _,[],_,_,_,_,h=>by simp at h
 | _,o :: l,h :: H,0,o',hh,hj=>by simp at hj;subst hj;exact ⟨h,rfl,hh.1,by simpa [pg] using hh.2.1⟩
 | _,o :: l,h :: H,j + 1,o',hh,hj=>by
  obtain ⟨x,h1,h2,h3⟩:=HBk.get hh.2.2 (by simpa using hj);exact ⟨x,by simpa using h1,h2,by simpa [pg] using h3⟩
 | _,_ :: _,[],_,_,hh,_=>hh.elim
def wf2 (l:List Oper) (n j i:Nat):Bool:=dr .any l.toArray j i || (ef n).any fun k=>dr .any l.toArray j k && dr .any l.toArray k i
def aer (l:List Oper) (H:List (List Nat × Nat × Bool)) (n m:Nat):Bool :=
 decide (n≤l.length) && (decide (n = l.length) || (gl .any l.toArray n && gg .any l.toArray n)) &&
 (ef n).all (fun j=>match l[j]? with
  | none=>true
  | some oj=>oj.after.all (fun e=>!Region.binds .any e || decide (e.on < j)) && match H[j]? with
   | none=>true
   | some hj=>(hj.1.all fun s=>(ef n).all fun i=>match H[i]? with
    | none=>true
    | some hi=>hi.2.1 != s || (if i < j then wf2 l n j i else i == j || wf2 l n i j)) &&
    (ef n).all fun i=>match H[i]? with
     | none=>true
     | some hi=>hi.2.1 != hj.2.1 || !decide (i < j) || wf2 l n j i) &&
 H.all (fun h=>h.2.2 || decide (h.2.1 < m)) &&
 Region.seqB .any l.toArray (l.length - n) n (cQ n true ++ cQ (l.length - n) false)
def TU (l:List Oper) (n:Nat) (H:List Hd) (Γ:fA):Bool :=
 (ef n).all fun j=>match H[j]? with
  | none=>true
  | some hj=>hj.u || (aB Γ hj.d && (ef n).all fun i=>match H[i]? with
   | none=>true
   | some hi=>!hi.f.refs hj.d || wf2 l n i j)
theorem xU:∀ (H:List Hd) (Γ:fA),(pg H Γ).drop H.length = Γ
 | [],Γ=>rfl
 | h :: H,Γ=>by
  unfold pg;have:=xU H ((h.d,h.f) :: Γ);rw [dk,← List.drop_drop,this];rfl
theorem zg {d:Nat}:∀ {H:List Hd} {i0:Nat} {listed:Array Bool} {Γ:fA},(∀ i h,H[i]? = some h→listed.getD (i0 + i) false = true→h.f.refs d = false)→aB Γ d = true→aB (yO H i0 listed Γ) d = true
 | [],_,_,_,_,h=>h
 | x :: H,i0,listed,Γ,h,hn=>by
  unfold yO;refine zg (fun i y hy hl=>h (i + 1) y (by simpa using hy) (by rwa [show i0 + (i + 1) = i0 + 1 + i by omega])) ?_
  split
  · rename_i hl;exact df.2 ⟨h 0 x rfl (by simpa using hl),hn⟩
  · exact hn
def slotsOf (H:List Hd):List (List Nat × Nat × Bool):=H.map fun h=>(h.Fs.map (·.1),h.d,h.u)
theorem abQ {id n:Nat} {l:List Oper} {H:List Hd} (hm:P.follows .mixedOrders = true) (hH:HBk P l.toArray kw X0 w0 m Γ (l.take n) H) (hB:aer l (slotsOf H) n m = true) (hN:((H.all fun h=>h.u || aB (pg H Γ) h.d) || TU l n H Γ) = true) (hT:fK P l.toArray kw X0 w0 m (pg H Γ) (l.drop n) Q) (hs:FSq kw X0 w0 m Γ a W):(Code.region id l.toArray true).wp P Q a W:=by
 unfold aer at hB;simp only [bw,decide_eq_true_eq,Bool.or_eq_true] at hB;obtain ⟨⟨⟨⟨b1,b2⟩,b3⟩,b5⟩,b6⟩:=hB;have hlen:H.length = n:=by rw [hH.len,av];omega
 have hidx:∀ i o,i < n→l.toArray[i]? = some o→(l.take n)[i]? = some o:=fun i o hi ho=>by
  rw [bA,if_pos hi];simpa using ho
 have hsl:∀ (i:Nat) (h:Hd),H[i]? = some h→(slotsOf H)[i]? = some (h.Fs.map (·.1),h.d,h.u):=fun i h hi=>by simp [slotsOf,hi]
 have hlt:∀ (i:Nat) (h:Hd),H[i]? = some h→i < n:=fun i h hi=>by rw [← hlen];exact (aM.1 hi).1
 have hnr:∀ (j:Nat) (h:Hd),H[j]? = some h→h.u = false→aB Γ h.d = true∧∀ i x,H[i]? = some x→x.f.refs h.d = false∨wf2 l n i j = true:=fun j h hj hu=>by
  rcases cP.1 hN with hN | hN
  · have:=bX.1 hN h (cH hj);simp only [hu,ep] at this;have h2:=zq.1 this;exact ⟨h2.2,fun i x hx=>.inl (h2.1 x (cH hx))⟩
  · have:=bX.1 hN j (de.2 (hlt j h hj));rw [hj] at this;simp only [hu,ep,bw] at this;refine ⟨this.1,fun i x hx=>?_⟩;have h3:=bX.1 this.2 i (de.2 (hlt i x hx));rw [hx] at h3;rcases cP.1 h3 with h4 | h4
    · exact .inl (by simpa using h4)
    · exact .inr h4
 have hn:n = l.toArray.size∨(gl .any l.toArray n = true∧gg .any l.toArray n = true∧n < l.toArray.size):=by
  rcases b2 with b2 | b2
  · exact .inl (by simpa using b2)
  · by_cases he:n = l.length
    · exact .inl (by simpa using he)
    · exact .inr ⟨b2.1,b2.2,by simp;omega⟩
 have dep:=fun j (hj:j < n)=>bX.1 b3 j (de.2 hj)
 -- what an operation waits for
 have hwf:∀ (listed:Array Bool),HeadInv .any l.toArray n listed→∀ i j,dr .any l.toArray j i = true→listed.getD j false = true→listed.getD i false = true:=fun listed inv i j hw hl=>by
  obtain ⟨o',ho',ed,hed,hb,hon⟩:=fj hw;rw [← hon];exact inv.closed j o' ho' hl ed hed hb
 have hwf2:∀ (listed:Array Bool),HeadInv .any l.toArray n listed→∀ i j,wf2 l n j i = true→listed.getD j false = true→listed.getD i false = true:=fun listed inv i j hw hl=>by
  rcases cP.1 hw with h | h
  · exact hwf listed inv i j h hl
  · obtain ⟨k,_,hk⟩:=f6.1 h;simp only [bw] at hk;exact hwf listed inv i k hk.2 (hwf listed inv k j hk.1 hl)
 refine wp_region_any hm ?_;have key:∀ (f:Nat) (listed:Array Bool) (a:Act) (w:World),cnt n listed = f→HeadInv .any l.toArray n listed→FSq kw X0 w0 m (yO H 0 listed Γ) a w→wpAny P .any l.toArray Q (f + (l.length - n)) listed a w:=by
  intro f
  induction f with
  | zero =>
   intro listed a w hc inv hfs;have hall:∀ i,i < n→listed.getD i false = true:=fun i hi=>Gv hc hi
   have hl:=zo inv (by simpa using b1) hall;have hfs2:FSq kw X0 w0 m (pg H Γ) a w:=hfs.congr fun s=>by
    have:=zC (H:=H) (i:=0) (listed:=listed) (Γ:=Γ) (j:=n) (s:=s) fun k x hk _=>⟨fun _=>hlt k x hk,fun h=>by rw [aq];exact hall k h⟩
    rw [this,aR (by omega)]
   have:=wpAny_of_seq (md:=.any) (Q':=Q) (ops:=l.toArray) (l.drop n) n listed a w (fun j=>by simp [List.getElem?_drop]) (by rw [fY,hl];simpa using b6) (hT a w hfs2);rw [aq];rwa [fY] at this
  | succ f ih =>
   intro listed a w hc inv hfs;rw [show f + 1 + (l.length - n) = (f + (l.length - n)) + 1 by omega];obtain ⟨i0,hi0,hl0,hmin⟩:=JU (by omega:0 < cnt n listed);have hlt0:i0 < l.toArray.size:=by
    rcases hn with h | ⟨_,_,h⟩ <;> omega
   have hun0:listed.getD i0 true = false:=getD_in (by rw [inv.size];exact hlt0) hl0;have hltn:∀ j∈gr .any l.toArray listed,j < n:=fun j hj=>by
    rcases cG j n with h | h
    · exact h
    · rcases hn with h0 | ⟨h1,h2,h3⟩
      · obtain ⟨_,o,ho,_⟩:=mem_ready.1 hj;have:=(eV.1 ho).1;omega
      · exact absurd hj (tail_waits h1 h2 h3 inv _ i0 rfl hi0 hun0 j h)
   refine ⟨fun hnil=>?_,fun j hj=>?_⟩
   · exfalso;have ho0:l.toArray[i0]? = some l.toArray[i0]:=Array.getElem?_eq_getElem hlt0;have hd0:=dep i0 hi0;rw [show l[i0]? = some l.toArray[i0] by simpa using ho0] at hd0;simp only [bw,Array.all_eq_true_iff_forall_mem] at hd0;have:i0∈gr .any l.toArray listed:=mem_ready.2 ⟨hun0,_,ho0,fun e he hb=>by
      have:=hd0.1 e he;simp [hb] at this;exact hmin _ this⟩
     rw [hnil] at this;cases this
   ·
    have hjn:=hltn j hj;obtain ⟨hjun,oj,hoj,hall⟩:=mem_ready.1 hj;obtain ⟨h,hhj,hop,hfs0⟩:=hH.get (hidx j oj hjn hoj);have hd:=dep j hjn;rw [show l[j]? = some oj by simpa using hoj,hsl j h hhj] at hd;simp only [bw] at hd;have hjf:listed.getD j false = false:=getD_both hjun;have hnow:∀ i,dr .any l.toArray j i = true→listed.getD i false = true:=fun i hw=>by
     obtain ⟨o',ho',ed,hed,hb,hon⟩:=fj hw;have:o' = oj:=bh (ho'.symm.trans hoj);subst this;rw [← hon];exact hall ed hed hb
    have hnow2:∀ i,wf2 l n j i = true→listed.getD i false = true:=fun i hw=>by
     rcases cP.1 hw with h | h
     · exact hnow i h
     · obtain ⟨k,_,hk⟩:=f6.1 h;simp only [bw] at hk;exact hwf listed inv i k hk.2 (hnow k hk.1)
    have hhas:Has (yO H 0 listed Γ) h.Fs:=Has.of fun p hp=>by
     have h1:=hfs0.mem p hp;rw [← h1];refine zC fun k x hk e=>?_
     rw [aq];have h1:=bX.1 (bX.1 hd.2.1 p.1 (List.mem_map_of_mem hp)) k (de.2 (hlt k x hk));rw [hsl k x hk] at h1;simp only [e,bne_self_eq_false,ep] at h1
     by_cases hkj:k < j
     · rw [if_pos hkj] at h1;exact ⟨fun _=>hkj,fun _=>hnow2 k h1⟩
     · rw [if_neg hkj] at h1;refine ⟨fun hl=>?_,fun h=>absurd h hkj⟩;exfalso;rcases cP.1 h1 with h2 | h2
       · have:k = j:=by simpa using h2
         rw [this,hjf] at hl;cases hl
       · have:=hwf2 listed inv j k h2 hl;rw [hjf] at this;cases this
    have hstep:YY P l.toArray kw X0 w0 m (yO H 0 listed Γ) oj ((h.d,h.f) :: yO H 0 listed Γ):=by
     unfold Vq at hop
     by_cases hu:h.u = true
     · rw [if_pos hu] at hop;exact hop _ hhas
     · rw [if_neg hu] at hop;have h2:=hnr j h hhj (by simpa using hu);refine hop.2 _ hhas (zg (fun i x hx hl=>(h2.2 i x hx).resolve_right fun hw=>?_) h2.1);rw [aq] at hl;have:=hwf2 listed inv j i hw hl;rw [hjf] at this;cases this
    have hstep:=hstep a w hfs;have hs':j < listed.size:=by rw [inv.size];exact (eV.1 hoj).1
    have hcnt:cnt n (listed.setIfInBounds j true) = f:=by
     have:=EI hjn hs' hjf;omega
    have hnew:∀ a' w',FSq kw X0 w0 m ((h.d,h.f) :: yO H 0 listed Γ) a' w'→wpAny P .any l.toArray Q (f + (l.length - n)) (listed.setIfInBounds j true) a' w':=fun a' w' hfs'=>by
     refine ih _ a' w' hcnt (inv.set hj hjn) (hfs'.congr fun s=>?_)
     by_cases hsd:h.d = s
     · subst hsd;rw [FC hhj (by rw [aq];simp [hs']) fun k x hk hx hl e=>?_]
       · simp [lk]
       · rw [aq,getD_set_ne false (by omega)] at hl;have hdk:=dep k (hlt k x hx);have hkl:k < l.length:=by have:=hlt k x hx;omega
         rw [cV hkl,hsl k x hx] at hdk;simp only [bw] at hdk;have h1:=bX.1 hdk.2.2 j (de.2 hjn);rw [hsl j h hhj] at h1;simp only [e,bne_self_eq_false,ep,decide_eq_true hk,Bool.not_true] at h1;have:=hwf2 listed inv j k h1 hl;rw [hjf] at this;cases this
     · rw [show lk ((h.d,h.f) :: yO H 0 listed Γ) s = lk (yO H 0 listed Γ) s by simp [lk,hsd]];refine CO rfl fun k x hk e=>?_
       rw [aq]
       by_cases hkj:j = k
       · subst hkj;have:h = x:=bh (hhj.symm.trans hk);subst this;exact absurd e hsd
       · rw [getD_set_ne false hkj]
    unfold wpOp;simp only [hoj]
    by_cases hw:Region.wanted oj (yielded l.toArray a.tmps) = true
    · rw [if_pos hw] at hstep ⊢;exact .inl (hstep.mono hnew).wp
    · rw [if_neg hw] at hstep ⊢;exact hnew _ _ hstep
 have hcnt:cnt n (cQ l.toArray.size false) = n:=by
  unfold cnt;rw [List.countP_eq_length.2 (fun i _=>by rw [getD_replicate_false];rfl),List.length_range]
 have h0:FSq kw X0 w0 m (yO H 0 (cQ l.toArray.size false) Γ) a { W with drawn:=W.drawn + 1 }:=by
  have h1:FSq kw X0 w0 m Γ a { W with drawn:=W.drawn + 1 }:=by
   obtain ⟨X,Ow,hx⟩:=hs.x;have hb:Below W.heap.size W { W with drawn:=W.drawn + 1 }:=(Below.refl _ W).drew;refine lG.fs (X:=X) (Ow:=Ow) ⟨hx.size,hx.defs,hx.below.trans (hb.mono hx.below.size),hx.x0,hx.env.below hb,fun s f hl=>(hx.facts s f hl).tr (Tr.of_below hb) rfl (own_below hx.env hb) fun _ _=>rfl⟩
  refine h1.congr fun s=>xX fun j h hj hl=>?_
  rw [getD_replicate_false] at hl;cases hl
 have:=key n _ a _ hcnt ⟨by simp,fun j oj _ hl=>(by rw [getD_replicate_false] at hl;cases hl),fun t _ ht=>getD_in (by simpa using ht) (getD_replicate_false _ _)⟩ h0;rw [show n + (l.length - n) = l.length by omega] at this;simpa using this
variable (P kw X0 w0 m) in
def CT (Γ:fA) (c:Code) (Q:Exit→Act→World→Prop):Prop:=∀ a W,FSq kw X0 w0 m Γ a W→c.wp P Q a W
variable (kw X0 w0 m) in
def NT (Γ:fA) (Q:Exit→Act→World→Prop):Prop:=∀ a W,FSq kw X0 w0 m Γ a W→Q .normal a W
variable (kw X0 w0 m) in
def XT (Γ:fA) (i:Nat) (Q:Exit→Act→World→Prop):Prop:=∀ a W,FSq kw X0 w0 m Γ a W→Q (.exit i) a W
variable (kw X0 w0 m) in
def RT (Γ:fA) (Q:Exit→Act→World→Prop):Prop:=∀ a W,FSq kw X0 w0 m Γ a W→Q .ret a W
theorem CT.weak {c:Code} (h:CT P kw X0 w0 m Γ' c Q) (hs:Sub Γ' Γ):CT P kw X0 w0 m Γ c Q:=fun a W hf=>h a W (hf.weak hs)
theorem CT.fs {c:Code} (h:CT P kw X0 w0 m Γ' c Q) (hs:∀ a W,FSq kw X0 w0 m Γ a W→FSq kw X0 w0 m Γ' a W):CT P kw X0 w0 m Γ c Q:=fun a W hf=>h a W (hs a W hf)
theorem bP {x y:Code} (h:CT P kw X0 w0 m Γ x (Exit.then (fun a W=>y.wp P Q a W) Q)):CT P kw X0 w0 m Γ (x.seq y) Q:=fun a W hf=>wp_seq (h a W hf)
theorem qI {ι:Type} (G:ι→fA) (C:ι→Prop) {x y:Code} (h:CT P kw X0 w0 m Γ x (Exit.then (fun a W=>∃ i,C i∧FSq kw X0 w0 m (G i) a W) Q)) (k:∀ i,C i→CT P kw X0 w0 m (G i) y Q):CT P kw X0 w0 m Γ (x.seq y) Q :=
 fun a W hf=>wp_seq (wp_mono (h a W hf) fun e a' W' hq=>by
  cases e <;> first | exact hq | (obtain ⟨i,h1,h2⟩:=hq;exact k i h1 a' W' h2))
theorem yh {c:Nat} {x y:Code} {b:Bool} (hl:lk Γ c = some (.dat (.val (.bool b)))) (ht:b = true→CT P kw X0 w0 m Γ x Q) (hf:b = false→CT P kw X0 w0 m Γ y Q):CT P kw X0 w0 m Γ (.cond (.tmp c) x y) Q:=fun a W hs =>
 wp_cond_split (hs.val hl) (fun e=>ht e a W hs) (fun e=>hf e a W hs)
theorem eF (h:NT kw X0 w0 m Γ Q):CT P kw X0 w0 m Γ .skip Q:=fun a W hs=>wp_skip (h a W hs)
theorem Ls {id:Nat} {c:Code} (h:CT P kw X0 w0 m Γ c (dc id Q)):CT P kw X0 w0 m Γ (.block id c) Q:=fun a W hs=>wp_block (h a W hs)
theorem ab2 (h:XT kw X0 w0 m Γ i Q):CT P kw X0 w0 m Γ (.exit i) Q:=fun a W hs=>wp_exit (h a W hs)
theorem lT (h:RT kw X0 w0 m Γ Q):CT P kw X0 w0 m Γ .ret Q:=fun a W hs=>wp_ret (h a W hs)
theorem aT {y:Code} (h:CT P kw X0 w0 m Γ y Q):NT kw X0 w0 m Γ (Exit.then (fun a W=>y.wp P Q a W) Q):=h
theorem aY {ι:Type} {G:ι→fA} {C:ι→Prop} (i:ι) (hi:C i) (hs:Sub (G i) Γ):NT kw X0 w0 m Γ (Exit.then (fun a W=>∃ i,C i∧FSq kw X0 w0 m (G i) a W) Q):=fun a W h=>⟨i,hi,h.weak hs⟩
theorem OM {j:Nat} (h:NT kw X0 w0 m Γ Q):NT kw X0 w0 m Γ (dc j Q):=h
theorem aiB {K:Act→World→Prop} (h:XT kw X0 w0 m Γ i Q):XT kw X0 w0 m Γ i (Exit.then K Q):=h
theorem ahH (h:NT kw X0 w0 m Γ Q):XT kw X0 w0 m Γ i (dc i Q):=fun a W hs=>by unfold dc;simp only [if_true];exact h a W hs
theorem agv {j:Nat} (hij:i≠j) (h:XT kw X0 w0 m Γ i Q):XT kw X0 w0 m Γ i (dc j Q):=fun a W hs=>by unfold dc;simp only [hij,if_false];exact h a W hs
theorem aiz {K:Act→World→Prop} (h:RT kw X0 w0 m Γ Q):RT kw X0 w0 m Γ (Exit.then K Q):=h
theorem ajA {j:Nat} (h:RT kw X0 w0 m Γ Q):RT kw X0 w0 m Γ (dc j Q):=h
theorem NT.weak (h:NT kw X0 w0 m Γ' Q) (hs:Sub Γ' Γ):NT kw X0 w0 m Γ Q:=fun a W hf=>h a W (hf.weak hs)
theorem cO {id:Nat} {l:List Oper} (h:fK P l.toArray kw X0 w0 m Γ l Q):CT P kw X0 w0 m Γ (.region id l.toArray false) Q:=fun a W hs=>wp_region_lit (h a W hs)
variable (ops P kw X0 w0 m) in
def HT (acc:List Hd) (Γ:fA) (l:List Oper) (K:List Hd→fA→Prop):Prop:=∃ H,HBk P ops kw X0 w0 m Γ l H∧K (acc.reverse ++ H) (pg H Γ)
theorem HT.cons {o:Oper} {l:List Oper} {acc:List Hd} {K:List Hd→fA→Prop} {h:Hd} (hu:h.u = false) (hd:o.dst = some h.d) (hop:∀ Γ,Has Γ h.Fs→aB Γ h.d = true→YY P ops kw X0 w0 m Γ o ((h.d,h.f) :: Γ)) (hh:Has Γ h.Fs) (k:HT P ops kw X0 w0 m (h :: acc) ((h.d,h.f) :: Γ) l K):HT P ops kw X0 w0 m acc Γ (o :: l) K:=by
 obtain ⟨H,h1,h2⟩:=k;exact ⟨h :: H,⟨by unfold Vq;rw [if_neg (by simp [hu])];exact ⟨hd,hop⟩,hh,h1⟩,by simpa [pg] using h2⟩
theorem HT.upd {o:Oper} {l:List Oper} {acc:List Hd} {K:List Hd→fA→Prop} {h:Hd} (hu:h.u = true) (hop:∀ Γ,Has Γ h.Fs→YY P ops kw X0 w0 m Γ o ((h.d,h.f) :: Γ)) (hh:Has Γ h.Fs) (k:HT P ops kw X0 w0 m (h :: acc) ((h.d,h.f) :: Γ) l K):HT P ops kw X0 w0 m acc Γ (o :: l) K:=by
 obtain ⟨H,h1,h2⟩:=k;exact ⟨h :: H,⟨by unfold Vq;rw [if_pos hu];exact hop,hh,h1⟩,by simpa [pg] using h2⟩
theorem Ac {acc:List Hd} {K:List Hd→fA→Prop} (k:K acc.reverse Γ):HT P ops kw X0 w0 m acc Γ [] K:=⟨[],trivial,by simpa [pg] using k⟩
variable (P kw X0 w0 m) in
def DK (lo:List Oper) (n:Nat) (Q:Exit→Act→World→Prop) (H:List Hd) (Γe:fA):Prop :=
 aer lo (slotsOf H) n m = true∧((H.all fun h=>h.u || aB Γe h.d) || TU lo n H (Γe.drop H.length)) = true∧fK P lo.toArray kw X0 w0 m Γe (lo.drop n) Q
theorem dC {id:Nat} {lo:List Oper} (n:Nat) (hm:P.follows .mixedOrders = true) (h:HT P lo.toArray kw X0 w0 m [] Γ (lo.take n) (DK P kw X0 w0 m lo n Q)):CT P kw X0 w0 m Γ (.region id lo.toArray true) Q:=by
 obtain ⟨H,hb,hK⟩:=h;simp only [List.reverse_nil,eK] at hK;obtain ⟨h1,h2,h3⟩:=hK;rw [xU] at h2;exact fun a W hs=>abQ hm hb h1 h2 h3 hs
theorem Rt (h:NT kw X0 w0 m Γ Q):fK P ops kw X0 w0 m Γ [] Q:=h
theorem aZ {ι:Type} (G:ι→fA) (C:ι→Prop) (μ:ι→Nat) {c:Code} (h:∀ i,C i→CT P kw X0 w0 m (G i) c (Exit.then (fun a W=>∃ j,(C j∧μ j < μ i)∧FSq kw X0 w0 m (G j) a W) Q)) (i0:ι) (h0:C i0):CT P kw X0 w0 m (G i0) (.loop c) Q:=by
 have key:∀ n i,μ i = n→C i→∀ a w,FSq kw X0 w0 m (G i) a w→∀ (b:Frame) (k:List Item) (cs:List Frame),∃ e a' w',Q e a' w'∧Arrives P (lone (b.at a (.code c :: .inLoop c :: k)) cs w) b k cs e a' w':=by
  intro n
  induction n using Nat.strongRecOn with
  | _ n ih =>
   intro i hi hC a w hs b k cs;obtain ⟨e,a1,w1,hq,harr⟩:=h i hC a w hs b (.inLoop c :: k) cs;cases e with
   | normal =>
    obtain ⟨j,⟨hj1,hj2⟩,hj3⟩:=hq;obtain ⟨e2,a2,w2,hq2,harr2⟩:=ih (μ j) (hi ▸ hj2) j rfl hj1 a1 w1 hj3 b k cs;exact ⟨e2,a2,w2,hq2,.of_steps (Steps.trans harr (.one step_inLoop)) harr2⟩
   | exit id=>exact ⟨_,a1,w1,hq,.pass (x:=.inLoop c) rfl (fun _ _=>.inl (by simp)) harr⟩
   | goto l=>exact ⟨_,a1,w1,hq,.pass (x:=.inLoop c) rfl (fun _ _=>.inl (by simp)) harr⟩
   | ret=>exact ⟨_,a1,w1,hq,.pass (x:=.inLoop c) rfl (fun _ _=>.inl (by simp)) harr⟩
   | panic ch=>exact ⟨_,a1,w1,hq,.pass (x:=.inLoop c) rfl (fun _ _=>.inl (by simp)) harr⟩
   | outgrown=>exact ⟨_,a1,w1,hq,.pass (x:=.inLoop c) rfl (fun _ _=>.inl (by simp)) harr⟩
 intro a w hs b k cs;obtain ⟨e,a',w',hq,harr⟩:=key _ i0 rfl h0 a w hs b k cs;exact ⟨e,a',w',hq,.of_steps (.one step_loop) harr⟩
def RQ (P:Program) (kw:Bool) (X0:XS) (w0:World) (fn:Func) (R:F):Exit→Act→World→Prop :=
 bodyPost P fn fun e w'=>Below w0.heap.size w0 w'∧∃ v,e = .returned v∧KX kw X0 w0 w' v R
def DY:Nat→List D→fA
 | _,[]=>[]
 | i,d :: ds=>(i,.dat d) :: DY (i + 1) ds
theorem G8:∀ {ds:List D} {i s:Nat} {f:F},lk (DY i ds) s = some f→∃ j e,s = i + j∧ds[j]? = some e∧f = .dat e
 | [],_,_,_,h=>by cases h
 | d :: ds,i,s,f,h=>by
  unfold DY lk at h
  split at h
  · rename_i e;injection h with h;exact ⟨0,d,by omega,rfl,h.symm⟩
  · obtain ⟨j,e,h1,h2,h3⟩:=G8 h;exact ⟨j + 1,e,by omega,by simpa using h2,h3⟩
theorem YV {f:FuncId} {fn:Func} {c:Code} {ds:List D} {R:F} (hf:P.funcs[f]? = some fn) (hb:fn.body = some c) (hm:fn.ntmps = m) (hle:ds.length≤m) (h:∀ (X0:XS) (w0:World),(∀ b o,X0 b o→b < w0.heap.size)→CT P kw X0 w0 m (DY 0 ds) c (RQ P kw X0 w0 fn R)):AC P kw f ds R:=by
 intro X w vs hX hr;have hvl:vs.length = ds.length:=by
  clear h hle hf
  induction vs generalizing ds with
  | nil=>cases ds <;> first | rfl | exact hr.elim
  | cons v vs ih=>cases ds with
   | nil=>exact hr.elim
   | cons d ds=>simp [ih hr.2]
 refine calls_of_wp hf hb (h X w hX _ w (lG.fs (X:=X) (Ow:=fun _=>none) ⟨by simp;omega,rfl,Below.refl _ _,hX,⟨fun _ _ h=>h,fun _ _ h=>.inl h,fun _ _ _ h=>(by cases h),fun _ _ h=>(by cases h)⟩,fun s g hl=>?_⟩));obtain ⟨j,e,h1,h2,rfl⟩:=G8 hl;obtain ⟨v,h3,h4⟩:=hr.nth h2;unfold ah;have hj:j < vs.length:=(aM.1 h3).1;have:(Act.mk (vs.toArray ++ cQ (fn.ntmps - vs.toArray.size) undef) []).eval (.tmp s) = v:=by
  have h5:s = j:=by omega
  subst h5;simp only [eB,Array.getD_eq_getD_getElem?];rw [Array.getElem?_append_left (by simpa using hj)];simp [h3]
 rw [show bY (Act.mk (vs.toArray ++ cQ (fn.ntmps - vs.toArray.size) undef) []) s = v from this];exact h4
def MN (P:Program) (kw:Bool) (X0:XS) (w0:World) (m:Nat) (Γ:fA) (r:ResultVar) (e:D):Prop :=
 ∀ a W X Ow,lG kw X0 w0 m Γ a W X Ow→∃ v,(match r with | .tmp t=>(pure (a.tmps.getD t undef):Sem Value) | .cell s t=>do loadVar t (← asAddr (a.tmps.getD s undef))).run P W = .ok v W∧Rep kw X W v e
theorem nO {t:Nat} {e:D} (h:jJ kw X0 w0 m Γ (.tmp t) e):MN P kw X0 w0 m Γ (.tmp t) e:=fun a W X Ow hx=>⟨a.eval (.tmp t),by simp [eB],h a W X Ow hx⟩
theorem oN {T:Nat} {e:D} (ti:TI P T e.width e.isAgg) (hl:lk Γ s = some (.box e)):MN P kw X0 w0 m Γ (.cell s T) e:=fun a W X Ow hx=>by
 have h:=hx.facts s _ hl;unfold ah at h;obtain ⟨b,es,t,h1,h2,g3,g4,g5⟩:=h;have h2':a.tmps.getD s undef = .pointer (some ⟨b,0,none⟩):=h2;refine ⟨D.mk e es,?_,⟨_,g4,rfl⟩⟩;have:=iU (P:=P) (W:=W) (T:=T) (b:=b) (o':=0) ti g4.len width_one (fun j v hj=>by rw [aq,bW g3];exact hj);simp only [Instr.loadAt,gj,bc,a8,ao] at this;simp only [h2',asAddr,bc,a8,ao,this,rO]
theorem af0 {X:XS} {Ow:Nat→Option Nat} (hx:lG kw X0 w0 m Γ a W X Ow) {e:D} (h:Rep kw X W v e):KX kw X0 w0 W v (.dat e):=KX.dat.2 (h.tr (Tr.chg fun b o _ h'=>hx.env.sub b o h'))
theorem Td {X:XS} {Ow:Nat→Option Nat} (hx:lG kw X0 w0 m Γ a W X Ow) {vs:List Value} {l:List D} (h:tN kw X W vs l):KX kw X0 w0 W (.tuple vs.toArray) (.bT l) :=
 ⟨fun _ _=>False,none,fun _ _ h=>h.elim,(by intro b h;cases h),by
  unfold ah;exact ⟨vs.toArray,rfl,h.tr ⟨fun _=>kE.refl _,fun b o v hx' hc=>⟨fun h=>by rcases h with h | h <;> first | exact hx' (hx.env.sub b o h) | exact h.elim,hc⟩⟩⟩⟩
theorem Bh {f:ResultVar→Sem Value} {r r':ResultVar} {v':Value} (h1:(f r).run P W = .ok v W) (h2:(f r').run P W = .ok v' W) :
 (do let vs ← #[r,r'].mapM f;pure (if h:vs.size = 1 then vs[0] else .tuple vs):Sem Value).run P W = .ok (.tuple #[v,v']) W:=by
 simp [h1,h2]
theorem J5 {f:ResultVar→Sem Value} {r r' r'':ResultVar} {v' v'':Value} (h1:(f r).run P W = .ok v W) (h2:(f r').run P W = .ok v' W) (h3:(f r'').run P W = .ok v'' W) :
 (do let vs ← #[r,r',r''].mapM f;pure (if h:vs.size = 1 then vs[0] else .tuple vs):Sem Value).run P W = .ok (.tuple #[v,v',v'']) W:=by
 simp [h1,h2,h3]
theorem Sj {fn:Func} {r:ResultVar} {e:D} (hr:fn.results = #[r]) (h:MN P kw X0 w0 m Γ r e):RT kw X0 w0 m Γ (RQ P kw X0 w0 fn (.dat e)):=fun a W hs=>by
 obtain ⟨X,Ow,hx⟩:=hs.x;obtain ⟨v,h1,h2⟩:=h a W X Ow hx;refine ⟨hx.defs,v,?_,hx.below,v,rfl,af0 hx h2⟩;cases r <;> simp [results,hr] at h1 ⊢ <;> simp [h1]
theorem pW {fn:Func} {r r':ResultVar} {e e':D} (hr:fn.results = #[r,r']) (h:MN P kw X0 w0 m Γ r e) (h':MN P kw X0 w0 m Γ r' e'):RT kw X0 w0 m Γ (RQ P kw X0 w0 fn (.bT [e,e'])):=fun a W hs=>by
 obtain ⟨X,Ow,hx⟩:=hs.x;obtain ⟨v,h1,h2⟩:=h a W X Ow hx;obtain ⟨v',h1',h2'⟩:=h' a W X Ow hx;refine ⟨hx.defs,.tuple #[v,v'],?_,hx.below,_,rfl,Td hx (vs:=[v,v']) ⟨h2,h2',trivial⟩⟩;unfold results;rw [hr];exact Bh h1 h1'
theorem ada {fn:Func} {r r' r'':ResultVar} {e e' e'':D} (hr:fn.results = #[r,r',r'']) (h:MN P kw X0 w0 m Γ r e) (h':MN P kw X0 w0 m Γ r' e') (h'':MN P kw X0 w0 m Γ r'' e''):RT kw X0 w0 m Γ (RQ P kw X0 w0 fn (.bT [e,e',e''])):=fun a W hs=>by
 obtain ⟨X,Ow,hx⟩:=hs.x;obtain ⟨v,h1,h2⟩:=h a W X Ow hx;obtain ⟨v',h1',h2'⟩:=h' a W X Ow hx;obtain ⟨v'',h1'',h2''⟩:=h'' a W X Ow hx;refine ⟨hx.defs,.tuple #[v,v',v''],?_,hx.below,_,rfl,Td hx (vs:=[v,v',v'']) ⟨h2,h2',h2'',trivial⟩⟩;unfold results;rw [hr];exact J5 h1 h1' h1''
theorem GX {fn:Func} {t:Nat} {l:List D} (hr:fn.results = #[.tmp t]) (hl:lk Γ t = some (.grow k l)):RT kw X0 w0 m Γ (RQ P kw X0 w0 fn (.grow k l)):=fun a W hs=>by
 obtain ⟨X,Ow,hx⟩:=hs.x;refine ⟨hx.defs,a.eval (.tmp t),by simp [results,hr,eB],hx.below,_,rfl,?_⟩;have h:=hx.facts t _ hl;unfold ah at h;have hsub:∀ b,Ow t = some b→∀ b' o,(X0 b' o∨(b' = b∧X b' o))→X b' o:=fun b _ b' o h=>by
  rcases h with h | h
  · exact hx.env.sub b' o h
  · exact h.2
 obtain ⟨h0,h⟩:=h;rcases h with ⟨h1,h2⟩ | ⟨b,c,es,ty,g1,g2,g3,g5,g6,g7,g8,g9⟩
 · refine ⟨fun _ _=>False,none,fun _ _ h=>h.elim,(by intro b h;cases h),?_⟩;unfold ah;exact ⟨h0,.inl ⟨h1,h2⟩⟩
 ·
  obtain ⟨r1,r2⟩:=hx.env.wS t b g1;refine ⟨fun b' o=>b' = b∧X b' o,some b,fun b' o h=>by rw [h.1];exact ⟨r1,r2⟩,fun b' h=>by injection h with h;rw [← h];exact ⟨r1,r2⟩,?_⟩;unfold ah;refine ⟨h0,.inr ⟨b,c,es,ty,by simp,g2,g3,g5,g6,aF.tr (Tr.chg fun b' o _ h=>hsub b g1 b' o h) _ _ g7,g8,fun o=>?_⟩⟩;constructor
  · rintro (h | h)
    · have:=hx.x0 b o h;omega
    · exact (g9 o).1 h.2
  · exact fun h=>.inr ⟨rfl,(g9 o).2 h⟩
end
abbrev wQ:D:=.val (.slice none 0 0)
abbrev vB (b:Bool):D:=.val (.bool b)
abbrev vI (z:Int):D:=.val (.int .i64 z)
def uz:D:=.agg [vB false,wQ]
def dR:D:=.agg [uz,uz]
def sH:D:=.agg [wQ,wQ]
variable {T:Nat}
theorem TI.of {P:Program} {ag:Bool} {d:TypeDesc} (h:(P.info? T).map (·.size) = some k) (hu:P.underlying T = some d) (hr:d.isRow = ag):TI P T k ag:=⟨h,d,hu,hr⟩
variable {off n:Nat}
theorem FI.of {P:Program} {fields:Array Field} {f:Field} (hu:P.underlying T = some (.struct fields)) (hf:fields[i]? = some f) (ho:f.offset = off) (h:(P.info? f.type).map (·.size) = some (n + 1)):FI P T i off:=⟨fields,f,n,hu,hf,ho,h⟩
theorem SI.of {P:Program} {e:Nat} (hu:P.underlying T = some (.slice e)) (h:(P.info? e).map (·.size) = some k):SI P T k:=⟨e,hu,h⟩
theorem ZI.of {P:Program} {z:D} (h:(P.info? T).bind (·.zero) = some v) (hr:∀ kw X W,aU kw X W z v.cells.toList):ZI P T z:=by
 cases hq:P.info? T with
 | none=>simp [hq] at h
 | some i=>exact ⟨i,v,hq,by simpa [hq] using h,hr⟩
variable {k1 k2:Nat}
theorem S2.of {P:Program} {f1 f2:Field} (hu:P.underlying T = some (.struct #[f1,f2])) (h:(P.info? T).bind (·.zero) = some v) (hv:v.cells.size = k1 + k2) (h1:f1.offset = 0) (h2:f2.offset = k1) (h3:(P.info? f1.type).map (·.size) = some k1) (h4:(P.info? f2.type).map (·.size) = some k2):S2 P T k1 k2:=by
 cases hq:P.info? T with
 | none=>simp [hq] at h
 | some i=>exact ⟨f1,f2,i,v,hu,hq,by simpa [hq] using h,hv,h1,h2,h3,h4⟩
variable {bytes:Nat}
theorem PI.of {P:Program} {T2 e e2:Nat} {z:D} (hu:P.underlying T = some (.slice e)) (hu2:P.underlying T2 = some (.slice e2)) (h1:(P.info? e).map (·.size) = some k) (h2:(P.info? e).map (·.bytes) = some bytes) (h:(P.info? e).bind (·.zero) = some v) (hr:∀ kw X W,aU kw X W z v.cells.toList):PI P T T2 k z bytes:=by
 cases hq:P.info? e with
 | none=>simp [hq] at h
 | some i=>exact ⟨e,e2,i,v,hu,hu2,hq,by simpa [hq] using h,by simpa [hq] using h1,by simpa [hq] using h2,hr⟩
section
variable {kw:Bool} {X:XS} {W:World}
theorem afm {b:Bool}:aU kw X W (vB b) [.bool b]:=by unfold aU;exact ⟨rfl,rfl⟩
theorem adX {z:Int}:aU kw X W (vI z) [.int .i64 z]:=by unfold aU;exact ⟨rfl,rfl⟩
theorem oZ:aU kw X W wQ [.slice none 0 0]:=by unfold aU;exact ⟨rfl,rfl⟩
theorem Ba:aU kw X W uz [.bool false,.slice none 0 0]:=by
 unfold uz aU;exact aF.two.2 ⟨[_],[_],rfl,afm,oZ⟩
theorem BA:aU kw X W dR [.bool false,.slice none 0 0,.bool false,.slice none 0 0]:=by
 unfold dR aU;exact aF.two.2 ⟨[_,_],[_,_],rfl,Ba,Ba⟩
theorem FZ:aU kw X W sH [.slice none 0 0,.slice none 0 0]:=by
 unfold sH aU;exact aF.two.2 ⟨[_],[_],rfl,oZ,oZ⟩
end
theorem aaC (q:Rat):(af q).kJ = true:=rfl
theorem kK:TI aD 72 4 true:=.of (by kernel_rfl) Tryz.underlying72 rfl
theorem mO:TI aD 70 2 true:=.of (by kernel_rfl) Tryz.underlying70 rfl
theorem eU:TI aD 27 2 true:=.of (by kernel_rfl) Tryz.underlying27 rfl
theorem pR:TI aD 105 2 true:=.of (by kernel_rfl) Tryz.underlying105 rfl
theorem yF:TI aD 63 5 true:=.of (by kernel_rfl) Tryz.underlying63 rfl
theorem kZ:TI aD 88 8 true:=.of (by kernel_rfl) Tryz.underlying88 rfl
theorem qF:TI aD 46 2 true:=.of (by kernel_rfl) Tryz.underlying46 rfl
theorem l9:TI aD 68 1 false:=.of (by kernel_rfl) Tryz.underlying68 rfl
theorem kQ:TI aD 25 1 false:=.of (by kernel_rfl) Tryz.underlying25 rfl
theorem nM:TI aD 24 1 false:=.of (by kernel_rfl) Tryz.underlying24 rfl
theorem oM:TI aD 39 1 false:=.of (by kernel_rfl) Tryz.underlying39 rfl
theorem nN:TI aD 44 1 false:=.of (by kernel_rfl) Tryz.underlying44 rfl
theorem Ic:TI aD 4 1 false:=.of (by kernel_rfl) Tryz.underlying4 rfl
theorem Fb:TI aD 3 1 false:=.of (by kernel_rfl) Tryz.underlying3 rfl
theorem yJ:TI aD 5 1 false:=.of (by kernel_rfl) Tryz.underlying5 rfl
theorem yG:TI aD 61 1 false:=.of (by kernel_rfl) Tryz.underlying61 rfl
theorem ig:SI aD 25 4:=.of Tryz.underlying25 (by kernel_rfl)
theorem jh:SI aD 24 1:=.of Tryz.underlying24 (by kernel_rfl)
theorem gV:SI aD 39 2:=.of Tryz.underlying39 (by kernel_rfl)
theorem jg:SI aD 23 5:=.of Tryz.underlying23 (by kernel_rfl)
theorem gW:SI aD 44 2:=.of Tryz.underlying44 (by kernel_rfl)
theorem dS:SI aD 68 1:=.of Tryz.underlying68 (by kernel_rfl)
theorem xA:FI aD 72 0 0:=.of Tryz.underlying72 rfl rfl (n:=1) (by kernel_rfl)
theorem yj:FI aD 72 1 2:=.of Tryz.underlying72 rfl rfl (n:=1) (by kernel_rfl)
theorem xW:FI aD 70 0 0:=.of Tryz.underlying70 rfl rfl (n:=0) (by kernel_rfl)
theorem xJ:FI aD 70 1 1:=.of Tryz.underlying70 rfl rfl (n:=0) (by kernel_rfl)
theorem qY:FI aD 27 0 0:=.of Tryz.underlying27 rfl rfl (n:=0) (by kernel_rfl)
theorem rG:FI aD 27 1 1:=.of Tryz.underlying27 rfl rfl (n:=0) (by kernel_rfl)
theorem x9:FI aD 105 0 0:=.of Tryz.underlying105 rfl rfl (n:=0) (by kernel_rfl)
theorem xC:FI aD 105 1 1:=.of Tryz.underlying105 rfl rfl (n:=0) (by kernel_rfl)
theorem xN:FI aD 88 0 0:=.of Tryz.underlying88 rfl rfl (n:=3) (by kernel_rfl)
theorem xI:FI aD 88 1 4:=.of Tryz.underlying88 rfl rfl (n:=3) (by kernel_rfl)
theorem FW:ZI aD 70 uz:=.of (v:=.agg #[.bool false,.slice none 0 0]) (by kernel_rfl) fun _ _ _=>Ba
theorem GV:ZI aD 72 dR:=.of (v:=.agg #[.bool false,.slice none 0 0,.bool false,.slice none 0 0]) (by kernel_rfl) fun _ _ _=>BA
theorem Gy:ZI aD 27 sH:=.of (v:=.agg #[.slice none 0 0,.slice none 0 0]) (by kernel_rfl) fun _ _ _=>FZ
theorem Fg:ZI aD 105 sH:=.of (v:=.agg #[.slice none 0 0,.slice none 0 0]) (by kernel_rfl) fun _ _ _=>FZ
theorem Ar:ZI aD 25 wQ:=.of (v:=.slice none 0 0) (by kernel_rfl) fun _ _ _=>oZ
theorem GH:S2 aD 72 2 2:=.of Tryz.underlying72 (v:=.agg #[.bool false,.slice none 0 0,.bool false,.slice none 0 0]) (by kernel_rfl) rfl rfl rfl (by kernel_rfl) (by kernel_rfl)
theorem FO:S2 aD 70 1 1:=.of Tryz.underlying70 (v:=.agg #[.bool false,.slice none 0 0]) (by kernel_rfl) rfl rfl rfl (by kernel_rfl) (by kernel_rfl)
theorem CX:S2 aD 27 1 1:=.of Tryz.underlying27 (v:=.agg #[.slice none 0 0,.slice none 0 0]) (by kernel_rfl) rfl rfl rfl (by kernel_rfl) (by kernel_rfl)
theorem Dk:S2 aD 105 1 1:=.of Tryz.underlying105 (v:=.agg #[.slice none 0 0,.slice none 0 0]) (by kernel_rfl) rfl rfl rfl (by kernel_rfl) (by kernel_rfl)
theorem aW:PI aD 25 25 4 dR 64:=.of Tryz.underlying25 Tryz.underlying25 (by kernel_rfl) (by kernel_rfl) (v:=.agg #[.bool false,.slice none 0 0,.bool false,.slice none 0 0]) (by kernel_rfl) fun _ _ _=>BA
theorem gm:PI aD 24 24 1 wQ 24:=.of Tryz.underlying24 Tryz.underlying24 (by kernel_rfl) (by kernel_rfl) (v:=.slice none 0 0) (by kernel_rfl) fun _ _ _=>oZ
theorem lI:PI aD 39 39 2 sH 48:=.of Tryz.underlying39 Tryz.underlying39 (by kernel_rfl) (by kernel_rfl) (v:=.agg #[.slice none 0 0,.slice none 0 0]) (by kernel_rfl) fun _ _ _=>FZ
theorem mixed:aD.follows .mixedOrders = true:=by kernel_rfl
def D.DX:D→Nat→Option D
 | .agg l,i=>l[i]?
 | _,_=>none
def D.uT:D→Nat→Nat
 | .agg l,i=>D.widths (l.take i)
 | _,_=>0
variable {e:D}
theorem xB {x:D} (h:e.DX i = some x):∃ pre post,e = .agg (pre ++ x :: post)∧D.widths pre = e.uT i:=by
 cases e <;> simp [D.DX] at h;rename_i l;have hlt:=(aM.1 h).1;refine ⟨l.take i,l.drop (i + 1),?_,rfl⟩;congr 1
 conv=>lhs;rw [← dj i l]
 congr 1;rw [cJ hlt];congr 1;exact (aM.1 h).2
theorem ji.DX {x:D} {o:Nat} (h:e.DX i = some x) (ho:e.uT i = o):ji e o x:=by
 obtain ⟨pre,post,rfl,h2⟩:=xB h;exact ji.field (ji.refl x) (by rw [h2,ho];rfl) (by omega)
theorem ji.aij {x y:D} {j o:Nat} (h:e.DX i = some x) (h':x.DX j = some y) (ho:e.uT i + x.uT j = o):ji e o y:=by
 obtain ⟨pre,post,rfl,h2⟩:=xB h;obtain ⟨pre',post',rfl,h3⟩:=xB h';exact ji.field (ji.field (ji.refl y) (o2:=(D.agg (pre' ++ y :: post')).uT j) (by rw [h3];rfl) (by omega)) (by rw [h2];exact ho) (by
  have:(D.agg (pre' ++ y :: post')).width = D.widths pre' + (y.width + D.widths post'):=by rw [D.width,D.yH,D.widths]
  rw [this,← h3];omega)
def D.afO:D→Nat→D→D
 | .agg l,i,x=>.agg (l.set i x)
 | e,_,_=>e
theorem mY.DX {e x y:D} {i o:Nat} (h:e.DX i = some x) (ho:e.uT i = o) (hw:y.width = x.width):mY e o y (e.afO i y):=by
 cases e <;> simp [D.DX] at h;rename_i l;have hlt:=(aM.1 h).1;have e1:l = l.take i ++ x :: l.drop (i + 1):=by
  conv=>lhs;rw [← dj i l]
  congr 1;rw [cJ hlt];congr 1;exact (aM.1 h).2
 have e2:l.set i y = l.take i ++ y :: l.drop (i + 1):=by rw [db,if_pos hlt]
 unfold D.afO;simp only;rw [e2]
 conv=>arg 1;rw [e1]
 exact mY.field (mY.refl hw) (by rw [← ho];rfl)
variable {p:Int}
theorem Hr {P:Program} {T:TypeId} {k:IntKind} {q:Int} (W:World):(binOp .eql T (.int k p) (.int k q)).run P W = .ok (.bool (decide (p = q))) W:=by
 rw [abU];congr 2
theorem AB {P:Program} {T:TypeId} {k:IntKind} {q:Int} (W:World):(binOp .neq T (.int k p) (.int k q)).run P W = .ok (.bool (decide (p≠q))) W:=by
 rw [aaG];congr 2;by_cases h:p = q <;> simp [h]
def EN (f:FuncId):Prop:=∀ args w,(callFunc f args).run aD w = .ok (.enter f args) w
def Ku:List Operand→List D→List (Nat × F)
 | .tmp s :: xs,e :: es=>(s,.dat e) :: Ku xs es
 | _ :: xs,_ :: es=>Ku xs es
 | _,_=>[]
def V9:List Operand→List D→Prop
 | [],[]=>True
 | .tmp _ :: xs,_ :: es=>V9 xs es
 | .const v :: xs,e :: es=>(e = .val v∧v.oneCell' = true)∧V9 xs es
 | .func f :: xs,e :: es=>e = .val (.func (.func f) #[] #[])∧V9 xs es
 | _,_=>False
theorem S9:V9 [] []:=trivial
variable {xs:List Operand} {es:List D}
theorem adC (h:V9 xs es):V9 (.tmp s :: xs) (e :: es):=h
theorem ac5 (h:V9 xs es) (h1:v.oneCell' = true:=by rfl):V9 (.const v :: xs) (.val v :: es):=⟨⟨rfl,h1⟩,h⟩
variable {f:FuncId}
theorem adp (h:V9 xs es):V9 (.func f :: xs) (.val (.func (.func f) #[] #[]) :: es):=⟨rfl,h⟩
theorem UE:Has Γ []:=trivial
theorem OO {f:F} {r:List (Nat × F)} (h:lk Γ s = some f) (k:Has Γ r):Has Γ ((s,f) :: r):=⟨h,k⟩
theorem ai8:Sub [] Γ:=trivial
theorem ajc {Γ':fA} (s:Nat) {f:F} (k:Sub Γ' Γ) (h:lk Γ s = some f:=by rfl):Sub ((s,f) :: Γ') Γ:=⟨h,k⟩
section
variable {P:Program} {ops:Array Oper} {kw:Bool} {X0:XS} {w0:World} {m:Nat} {Γ':fA} {o:Oper} {d:Nat} {l:List Oper} {Q:Exit→Act→World→Prop} {acc:List Hd} {K:List Hd→fA→Prop}
theorem lN:vz kw X0 w0 m Γ [] []:=trivial
theorem bJ {x:Operand} (h:jJ kw X0 w0 m Γ x e) (k:vz kw X0 w0 m Γ xs es):vz kw X0 w0 m Γ (x :: xs) (e :: es):=⟨h,k⟩
theorem Aa:∀ {xs:List Operand} {es:List D},V9 xs es→Has Γ (Ku xs es)→vz kw X0 w0 m Γ xs es
 | [],[],_,_=>trivial
 | .tmp s :: xs,e :: es,hc,h=>⟨.t h.1,Aa (xs:=xs) (es:=es) hc h.2⟩
 | .const v :: xs,e :: es,hc,h=>⟨by rw [hc.1.1];exact .c hc.1.2,Aa (xs:=xs) (es:=es) hc.2 h⟩
 | .func f :: xs,e :: es,hc,h=>⟨by rw [hc.1];exact .fn,Aa (xs:=xs) (es:=es) hc.2 h⟩
 | .global _ :: _,_ :: _,hc,_=>hc.elim
 | [],_ :: _,hc,_=>hc.elim
 | .tmp _ :: _,[],hc,_=>hc.elim
 | .const _ :: _,[],hc,_=>hc.elim
 | .func _ :: _,[],hc,_=>hc.elim
 | .global _ :: _,[],hc,_=>hc.elim
theorem ZH {x:D} (ho:o.op = .fieldAddr T (.tmp s) i) (hd:o.dst = some d) (hdm:d < m) (hn:aB Γ d = true) (hf:FI P T i off) (hl:lk Γ s = some (.ptr e)) (hx:e.DX i = some x) (hoff:e.uT i = off):dB P kw X0 w0 m Γ o ((d,.ptr x) :: Γ):=by
 obtain ⟨pre,post,rfl,h2⟩:=xB hx;exact Va ho hd hdm hn hf hl (h2.trans hoff)
theorem Zd {t:Nat} {z:Int} {l1 l2:List D} (ho:o.op = .slice T (.tmp s) none (some (.tmp t)) none) (hd:o.dst = some d) (hdm:d < m) (hn:aB Γ d = true) (si:SI P T k) (hl:lk Γ s = some (.dat (.list k es))) (hx:lk Γ t = some (.dat (.val (.int .i64 z)))) (he:es = l1 ++ l2) (hz:z = (l1.length:Int)):dB P kw X0 w0 m Γ o ((d,.dat (.list k l1)) :: Γ):=by
 subst he;exact adT (l1:=[]) (l2:=l1) (l3:=l2) ho hd hdm hn si (by simpa using hl) .none (.some (.t hx)) rfl (by simp [hz])
theorem ZK {t:Nat} {z:Int} {l1 l2:List D} (ho:o.op = .slice T (.tmp s) (some (.tmp t)) none none) (hd:o.dst = some d) (hdm:d < m) (hn:aB Γ d = true) (si:SI P T k) (hl:lk Γ s = some (.dat (.list k es))) (hx:lk Γ t = some (.dat (.val (.int .i64 z)))) (he:es = l1 ++ l2) (hz:z = (l1.length:Int)):dB P kw X0 w0 m Γ o ((d,.dat (.list k l2)) :: Γ):=by
 subst he;exact adT (l1:=l1) (l2:=l2) (l3:=[]) ho hd hdm hn si (by simpa using hl) (.some (.t hx)) .none (by simp [hz]) (by simp)
theorem q (h:dB P kw X0 w0 m Γ o Γ') (k:fK P ops kw X0 w0 m Γ' l Q) (hg:o.guard = none:=by rfl):fK P ops kw X0 w0 m Γ (o :: l) Q:=.cons (h.g hg) k
theorem Hu {g gd:Nat} {want b:Bool} {f:F} (hg:o.guard = some (g,want):=by rfl) (hgd:(ops[g]?).bind (·.dst) = some gd:=by rfl) (hl:lk Γ gd = some (.dat (.val (.bool b))):=by rfl) (hd:o.dst = some d:=by rfl) (hdm:d < m:=by decide) (hn:aB Γ d = true:=by rfl) (h:(b == want) = true→dB P kw X0 w0 m Γ o ((d,f) :: Γ)) (k:fK P ops kw X0 w0 m ((d,.kS (b == want) f) :: Γ) l Q):fK P ops kw X0 w0 m Γ (o :: l) Q:=.cons (oh hg hgd hl rfl hd hdm hn h) k
theorem FSq.yM {c:Bool} {f:F} {a:Act} {W:World} (hc:c = true) (hs:lk Γ s = some (.kS c f)) (h:FSq kw X0 w0 m Γ a W):FSq kw X0 w0 m ((s,f) :: Γ) a W:=by
 subst hc;exact h.adO hs
theorem FSq.rQ {c:Bool} {f g:F} {a:Act} {W:World} (hc:c = true) (hne:d≠s) (hs:lk Γ s = some (.kS c f)) (h:FSq kw X0 w0 m ((d,g) :: (s,f) :: Γ) a W):FSq kw X0 w0 m ((d,g) :: Γ) a W:=by
 obtain ⟨X,Ow,hx⟩:=h.x;refine lG.fs (X:=X) (Ow:=Ow) ⟨hx.size,hx.defs,hx.below,hx.x0,hx.env,fun t y ht=>?_⟩
 by_cases h1:d = t
 · subst h1;exact hx.facts d y (by simpa [lk] using ht)
 ·
  rw [qO h1] at ht
  by_cases h2:s = t
  · subst h2;rw [hs] at ht;injection ht with ht
    rw [← ht];unfold ah;exact ⟨fun _=>hx.facts s f (by rw [qO h1];simp [lk]),fun e=>by rw [hc] at e;cases e⟩
  · exact hx.facts t y (by rw [qO h1,qO h2];exact ht)
theorem gq1 {g gd:Nat} {want b:Bool} {f f1:F} (s1:Nat) (hg:o.guard = some (g,want):=by rfl) (hgd:(ops[g]?).bind (·.dst) = some gd:=by rfl) (hl:lk Γ gd = some (.dat (.val (.bool b))):=by rfl) (h1:lk Γ s1 = some (.kS (b == want) f1):=by rfl) (hd:o.dst = some d:=by rfl) (hdm:d < m:=by decide) (hn:aB Γ d = true:=by rfl) (hne:d≠s1:=by decide) (h:(b == want) = true→dB P kw X0 w0 m ((s1,f1) :: Γ) o ((d,f) :: (s1,f1) :: Γ)) (k:fK P ops kw X0 w0 m ((d,.kS (b == want) f) :: Γ) l Q):fK P ops kw X0 w0 m Γ (o :: l) Q :=
 .cons (oh hg hgd hl rfl hd hdm hn fun hc a W hs=>(h hc a W (hs.yM hc h1)).mono fun a' W' hs'=>hs'.rQ hc hne h1) k
theorem gq2 {g gd:Nat} {want b:Bool} {f f1 f2:F} (s1 s2:Nat) (hg:o.guard = some (g,want):=by rfl) (hgd:(ops[g]?).bind (·.dst) = some gd:=by rfl) (hl:lk Γ gd = some (.dat (.val (.bool b))):=by rfl) (h1:lk Γ s1 = some (.kS (b == want) f1):=by rfl) (h2:lk Γ s2 = some (.kS (b == want) f2):=by rfl) (h12:s1≠s2:=by decide) (hd:o.dst = some d:=by rfl) (hdm:d < m:=by decide) (hn:aB Γ d = true:=by rfl) (hne:d≠s1:=by decide) (hne2:d≠s2:=by decide) (h:(b == want) = true→dB P kw X0 w0 m ((s2,f2) :: (s1,f1) :: Γ) o ((d,f) :: (s2,f2) :: (s1,f1) :: Γ)) (k:fK P ops kw X0 w0 m ((d,.kS (b == want) f) :: Γ) l Q):fK P ops kw X0 w0 m Γ (o :: l) Q :=
 .cons (oh hg hgd hl rfl hd hdm hn fun hc a W hs=>(h hc a W ((hs.yM hc h1).yM hc (by rw [qO h12];exact h2))).mono fun a' W' hs'=>(hs'.rQ hc hne2 (by rw [qO h12];exact h2)).rQ hc hne h1) k
theorem sq (h:∀ a W,FSq kw X0 w0 m Γ a W→FSq kw X0 w0 m Γ' a W) (k:fK P ops kw X0 w0 m Γ' l Q):fK P ops kw X0 w0 m Γ l Q:=fun a W hs=>k a W (h a W hs)
theorem bu {c:Nat} {x y:Code} {p:Prop} [Decidable p] (ht:p→CT P kw X0 w0 m Γ x Q) (hf:¬ p→CT P kw X0 w0 m Γ y Q) (hl:lk Γ c = some (.dat (.val (.bool (decide p)))):=by rfl):CT P kw X0 w0 m Γ (.cond (.tmp c) x y) Q :=
 yh hl (fun h=>ht (of_decide_eq_true h)) fun h=>hf (of_decide_eq_false h)
theorem dA {c:Nat} {x y:Code} {b:Bool} (ht:b = true→CT P kw X0 w0 m Γ x Q) (hf:b = false→CT P kw X0 w0 m Γ y Q) (hl:lk Γ c = some (.dat (.val (.bool b))):=by rfl):CT P kw X0 w0 m Γ (.cond (.tmp c) x y) Q:=yh hl ht hf
theorem aC {f:F} (ho:o.op = .move (.tmp s)∨o.op = .assign (.tmp s):=by first | exact .inl rfl | exact .inr rfl) (hd:o.dst = some d:=by rfl) (hdm:d < m:=by decide) (hn:aB Γ d = true:=by rfl) (hl:lk Γ s = some (f):=by rfl) (hv:f.isV = true:=by rfl):dB aD kw X0 w0 m Γ o ((d,f) :: Γ) :=
 adq ho hd hdm hn hl hv
theorem agW {f:F} (ho:o.op = .move (.tmp s)∨o.op = .assign (.tmp s):=by first | exact .inl rfl | exact .inr rfl) (hg:o.guard = none:=by rfl) (hd:o.dst = some d:=by rfl) (hdm:d < m:=by decide) (hl:lk Γ s = some (f):=by rfl) (hv:f.isV = true:=by rfl) (ct:HT aD ops kw X0 w0 m (⟨[(s,f)],d,f,false⟩ :: acc) ((d,f) :: Γ) l K):HT aD ops kw X0 w0 m acc Γ (o :: l) K :=
 HT.cons (h:=⟨[(s,f)],d,f,false⟩) rfl hd (fun Γ h hn'=>(adq ho hd hdm hn' h.1 hv).g hg) ⟨hl,trivial⟩ ct
theorem ae9 (ho:o.op = .move (.const v)∨o.op = .assign (.const v):=by first | exact .inl rfl | exact .inr rfl) (hd:o.dst = some d:=by rfl) (hdm:d < m:=by decide) (hn:aB Γ d = true:=by rfl) (h1:v.oneCell' = true:=by rfl):dB aD kw X0 w0 m Γ o ((d,.dat (.val v)) :: Γ) :=
 adl ho hd hdm hn h1
theorem ag9 (ho:o.op = .move (.const v)∨o.op = .assign (.const v):=by first | exact .inl rfl | exact .inr rfl) (hg:o.guard = none:=by rfl) (hd:o.dst = some d:=by rfl) (hdm:d < m:=by decide) (h1:v.oneCell' = true:=by rfl) (ct:HT aD ops kw X0 w0 m (⟨[],d,.dat (.val v),false⟩ :: acc) ((d,.dat (.val v)) :: Γ) l K):HT aD ops kw X0 w0 m acc Γ (o :: l) K :=
 HT.cons (h:=⟨[],d,.dat (.val v),false⟩) rfl hd (fun Γ h hn'=>(adl ho hd hdm hn' h1).g hg) trivial ct
theorem jf (ho:o.op = .move (.tmp s)∨o.op = .assign (.tmp s):=by first | exact .inl rfl | exact .inr rfl) (hd:o.dst = some d:=by rfl) (hdm:d < m:=by decide) (hn:aB Γ d = true:=by rfl) (hne:d≠s:=by decide):dB aD kw X0 w0 m Γ o ((d,.zy s) :: Γ) :=
 Xn ho hd hdm hn hne
theorem aid (ho:o.op = .move (.tmp s)∨o.op = .assign (.tmp s):=by first | exact .inl rfl | exact .inr rfl) (hg:o.guard = none:=by rfl) (hd:o.dst = some d:=by rfl) (hdm:d < m:=by decide) (hne:d≠s:=by decide) (ct:HT aD ops kw X0 w0 m (⟨[],d,.zy s,false⟩ :: acc) ((d,.zy s) :: Γ) l K):HT aD ops kw X0 w0 m acc Γ (o :: l) K :=
 HT.cons (h:=⟨[],d,.zy s,false⟩) rfl hd (fun Γ h hn'=>(Xn ho hd hdm hn' hne).g hg) trivial ct
theorem vX {f:F} (ho:o.op = .move (.tmp s)∨o.op = .assign (.tmp s):=by first | exact .inl rfl | exact .inr rfl) (hd:o.dst = some d:=by rfl) (hdm:d < m:=by decide) (hn:aB Γ d = true:=by rfl) (hns:aB Γ s = true:=by rfl) (hne:d≠s:=by decide) (hl:lk Γ s = some f:=by rfl) (hf:(∃ k l,f = .own k l)∨(∃ k l,f = .grow k l)∨∃ k l ds,f = .qE k l ds:=by first | exact .inl ⟨_,_,rfl⟩ | exact .inr (.inl ⟨_,_,rfl⟩) | exact .inr (.inr ⟨_,_,_,rfl⟩)):dB aD kw X0 w0 m Γ o ((d,f) :: (s,.any) :: Γ) :=
 aaD ho hd hdm hn hns hne hl hf
theorem Bz {yt t:Nat} {q:Int} {z:Int} (ho:o.op = .binOp .add T (.tmp s) (.tmp t) yt:=by rfl) (hd:o.dst = some d:=by rfl) (hdm:d < m:=by decide) (hn:aB Γ d = true:=by rfl) (hx:lk Γ s = some (.dat (.val (.int .i64 p))):=by rfl) (hy:lk Γ t = some (.dat (.val (.int .i64 q))):=by rfl) (hz:p + q = z:=by rfl) (h1:-9223372036854775808≤z:=by omega) (h2:z≤9223372036854775807:=by omega):dB aD kw X0 w0 m Γ o ((d,.dat (.val (.int .i64 z))) :: Γ) :=
 fE ho hd hdm hn (.t hx) (.t hy) (Eu hz h1 h2) rfl
theorem aie {yt t:Nat} {q:Int} {z:Int} (ho:o.op = .binOp .add T (.tmp s) (.tmp t) yt:=by rfl) (hg:o.guard = none:=by rfl) (hd:o.dst = some d:=by rfl) (hdm:d < m:=by decide) (hx:lk Γ s = some (.dat (.val (.int .i64 p))):=by rfl) (hy:lk Γ t = some (.dat (.val (.int .i64 q))):=by rfl) (hz:p + q = z:=by rfl) (h1:-9223372036854775808≤z:=by omega) (h2:z≤9223372036854775807:=by omega) (ct:HT aD ops kw X0 w0 m (⟨[(s,.dat (.val (.int .i64 p))),(t,.dat (.val (.int .i64 q)))],d,.dat (.val (.int .i64 z)),false⟩ :: acc) ((d,.dat (.val (.int .i64 z))) :: Γ) l K):HT aD ops kw X0 w0 m acc Γ (o :: l) K :=
 HT.cons (h:=⟨[(s,.dat (.val (.int .i64 p))),(t,.dat (.val (.int .i64 q)))],d,.dat (.val (.int .i64 z)),false⟩) rfl hd (fun Γ h hn'=>(fE ho hd hdm hn' (.t h.1) (.t h.2.1) (Eu hz h1 h2) rfl).g hg) ⟨hx,hy,trivial⟩ ct
theorem bH {yt:Nat} {q:Int} {z:Int} (ho:o.op = .binOp .add T (.tmp s) (.const (.int .i64 q)) yt:=by rfl) (hd:o.dst = some d:=by rfl) (hdm:d < m:=by decide) (hn:aB Γ d = true:=by rfl) (hx:lk Γ s = some (.dat (.val (.int .i64 p))):=by rfl) (hz:p + q = z:=by rfl) (h1:-9223372036854775808≤z:=by omega) (h2:z≤9223372036854775807:=by omega):dB aD kw X0 w0 m Γ o ((d,.dat (.val (.int .i64 z))) :: Γ) :=
 fE ho hd hdm hn (.t hx) .c (Eu hz h1 h2) rfl
theorem WO {yt:Nat} {q:Int} {z:Int} (ho:o.op = .binOp .add T (.tmp s) (.const (.int .i64 q)) yt:=by rfl) (hg:o.guard = none:=by rfl) (hd:o.dst = some d:=by rfl) (hdm:d < m:=by decide) (hx:lk Γ s = some (.dat (.val (.int .i64 p))):=by rfl) (hz:p + q = z:=by rfl) (h1:-9223372036854775808≤z:=by omega) (h2:z≤9223372036854775807:=by omega) (ct:HT aD ops kw X0 w0 m (⟨[(s,.dat (.val (.int .i64 p)))],d,.dat (.val (.int .i64 z)),false⟩ :: acc) ((d,.dat (.val (.int .i64 z))) :: Γ) l K):HT aD ops kw X0 w0 m acc Γ (o :: l) K :=
 HT.cons (h:=⟨[(s,.dat (.val (.int .i64 p)))],d,.dat (.val (.int .i64 z)),false⟩) rfl hd (fun Γ h hn'=>(fE ho hd hdm hn' (.t h.1) .c (Eu hz h1 h2) rfl).g hg) ⟨hx,trivial⟩ ct
theorem ahS {yt t:Nat} {q:Int} {z:Int} (ho:o.op = .binOp .sub T (.tmp s) (.tmp t) yt:=by rfl) (hd:o.dst = some d:=by rfl) (hdm:d < m:=by decide) (hn:aB Γ d = true:=by rfl) (hx:lk Γ s = some (.dat (.val (.int .i64 p))):=by rfl) (hy:lk Γ t = some (.dat (.val (.int .i64 q))):=by rfl) (hz:p - q = z:=by rfl) (h1:-9223372036854775808≤z:=by omega) (h2:z≤9223372036854775807:=by omega):dB aD kw X0 w0 m Γ o ((d,.dat (.val (.int .i64 z))) :: Γ) :=
 fE ho hd hdm hn (.t hx) (.t hy) (Ei hz h1 h2) rfl
theorem ahJ {yt t:Nat} {q:Int} {z:Int} (ho:o.op = .binOp .sub T (.tmp s) (.tmp t) yt:=by rfl) (hg:o.guard = none:=by rfl) (hd:o.dst = some d:=by rfl) (hdm:d < m:=by decide) (hx:lk Γ s = some (.dat (.val (.int .i64 p))):=by rfl) (hy:lk Γ t = some (.dat (.val (.int .i64 q))):=by rfl) (hz:p - q = z:=by rfl) (h1:-9223372036854775808≤z:=by omega) (h2:z≤9223372036854775807:=by omega) (ct:HT aD ops kw X0 w0 m (⟨[(s,.dat (.val (.int .i64 p))),(t,.dat (.val (.int .i64 q)))],d,.dat (.val (.int .i64 z)),false⟩ :: acc) ((d,.dat (.val (.int .i64 z))) :: Γ) l K):HT aD ops kw X0 w0 m acc Γ (o :: l) K :=
 HT.cons (h:=⟨[(s,.dat (.val (.int .i64 p))),(t,.dat (.val (.int .i64 q)))],d,.dat (.val (.int .i64 z)),false⟩) rfl hd (fun Γ h hn'=>(fE ho hd hdm hn' (.t h.1) (.t h.2.1) (Ei hz h1 h2) rfl).g hg) ⟨hx,hy,trivial⟩ ct
theorem eG {yt:Nat} {q:Int} {z:Int} (ho:o.op = .binOp .sub T (.tmp s) (.const (.int .i64 q)) yt:=by rfl) (hd:o.dst = some d:=by rfl) (hdm:d < m:=by decide) (hn:aB Γ d = true:=by rfl) (hx:lk Γ s = some (.dat (.val (.int .i64 p))):=by rfl) (hz:p - q = z:=by rfl) (h1:-9223372036854775808≤z:=by omega) (h2:z≤9223372036854775807:=by omega):dB aD kw X0 w0 m Γ o ((d,.dat (.val (.int .i64 z))) :: Γ) :=
 fE ho hd hdm hn (.t hx) .c (Ei hz h1 h2) rfl
theorem lD {yt:Nat} {q:Int} {z:Int} (ho:o.op = .binOp .sub T (.tmp s) (.const (.int .i64 q)) yt:=by rfl) (hg:o.guard = none:=by rfl) (hd:o.dst = some d:=by rfl) (hdm:d < m:=by decide) (hx:lk Γ s = some (.dat (.val (.int .i64 p))):=by rfl) (hz:p - q = z:=by rfl) (h1:-9223372036854775808≤z:=by omega) (h2:z≤9223372036854775807:=by omega) (ct:HT aD ops kw X0 w0 m (⟨[(s,.dat (.val (.int .i64 p)))],d,.dat (.val (.int .i64 z)),false⟩ :: acc) ((d,.dat (.val (.int .i64 z))) :: Γ) l K):HT aD ops kw X0 w0 m acc Γ (o :: l) K :=
 HT.cons (h:=⟨[(s,.dat (.val (.int .i64 p)))],d,.dat (.val (.int .i64 z)),false⟩) rfl hd (fun Γ h hn'=>(fE ho hd hdm hn' (.t h.1) .c (Ei hz h1 h2) rfl).g hg) ⟨hx,trivial⟩ ct
theorem ahF {yt t:Nat} {q:Int} {z:Int} (ho:o.op = .binOp .mul T (.tmp s) (.tmp t) yt:=by rfl) (hd:o.dst = some d:=by rfl) (hdm:d < m:=by decide) (hn:aB Γ d = true:=by rfl) (hx:lk Γ s = some (.dat (.val (.int .i64 p))):=by rfl) (hy:lk Γ t = some (.dat (.val (.int .i64 q))):=by rfl) (hz:p * q = z:=by rfl) (h1:-9223372036854775808≤z:=by omega) (h2:z≤9223372036854775807:=by omega):dB aD kw X0 w0 m Γ o ((d,.dat (.val (.int .i64 z))) :: Γ) :=
 fE ho hd hdm hn (.t hx) (.t hy) (JM hz h1 h2) rfl
theorem WY {yt t:Nat} {q:Int} {z:Int} (ho:o.op = .binOp .mul T (.tmp s) (.tmp t) yt:=by rfl) (hg:o.guard = none:=by rfl) (hd:o.dst = some d:=by rfl) (hdm:d < m:=by decide) (hx:lk Γ s = some (.dat (.val (.int .i64 p))):=by rfl) (hy:lk Γ t = some (.dat (.val (.int .i64 q))):=by rfl) (hz:p * q = z:=by rfl) (h1:-9223372036854775808≤z:=by omega) (h2:z≤9223372036854775807:=by omega) (ct:HT aD ops kw X0 w0 m (⟨[(s,.dat (.val (.int .i64 p))),(t,.dat (.val (.int .i64 q)))],d,.dat (.val (.int .i64 z)),false⟩ :: acc) ((d,.dat (.val (.int .i64 z))) :: Γ) l K):HT aD ops kw X0 w0 m acc Γ (o :: l) K :=
 HT.cons (h:=⟨[(s,.dat (.val (.int .i64 p))),(t,.dat (.val (.int .i64 q)))],d,.dat (.val (.int .i64 z)),false⟩) rfl hd (fun Γ h hn'=>(fE ho hd hdm hn' (.t h.1) (.t h.2.1) (JM hz h1 h2) rfl).g hg) ⟨hx,hy,trivial⟩ ct
theorem afP {yt:Nat} {q:Int} {z:Int} (ho:o.op = .binOp .mul T (.const (.int .i64 p)) (.tmp s) yt:=by rfl) (hd:o.dst = some d:=by rfl) (hdm:d < m:=by decide) (hn:aB Γ d = true:=by rfl) (hy:lk Γ s = some (.dat (.val (.int .i64 q))):=by rfl) (hz:p * q = z:=by rfl) (h1:-9223372036854775808≤z:=by omega) (h2:z≤9223372036854775807:=by omega):dB aD kw X0 w0 m Γ o ((d,.dat (.val (.int .i64 z))) :: Γ) :=
 fE ho hd hdm hn .c (.t hy) (JM hz h1 h2) rfl
theorem Yb {yt t:Nat} {q:Int} {kk:IntKind} (ho:o.op = .binOp .lss T (.tmp s) (.tmp t) yt:=by rfl) (hd:o.dst = some d:=by rfl) (hdm:d < m:=by decide) (hn:aB Γ d = true:=by rfl) (hx:lk Γ s = some (.dat (.val (.int kk p))):=by rfl) (hy:lk Γ t = some (.dat (.val (.int kk q))):=by rfl):dB aD kw X0 w0 m Γ o ((d,.dat (.val (.bool (decide (p < q))))) :: Γ) :=
 fE ho hd hdm hn (.t hx) (.t hy) (JF) rfl
theorem CW {yt:Nat} {q:Int} {kk:IntKind} (ho:o.op = .binOp .lss T (.tmp s) (.const (.int kk q)) yt:=by rfl) (hd:o.dst = some d:=by rfl) (hdm:d < m:=by decide) (hn:aB Γ d = true:=by rfl) (hx:lk Γ s = some (.dat (.val (.int kk p))):=by rfl):dB aD kw X0 w0 m Γ o ((d,.dat (.val (.bool (decide (p < q))))) :: Γ) :=
 fE ho hd hdm hn (.t hx) .c (JF) rfl
theorem ZO {yt:Nat} {q:Int} {kk:IntKind} (ho:o.op = .binOp .lss T (.tmp s) (.const (.int kk q)) yt:=by rfl) (hg:o.guard = none:=by rfl) (hd:o.dst = some d:=by rfl) (hdm:d < m:=by decide) (hx:lk Γ s = some (.dat (.val (.int kk p))):=by rfl) (ct:HT aD ops kw X0 w0 m (⟨[(s,.dat (.val (.int kk p)))],d,.dat (.val (.bool (decide (p < q)))),false⟩ :: acc) ((d,.dat (.val (.bool (decide (p < q))))) :: Γ) l K):HT aD ops kw X0 w0 m acc Γ (o :: l) K :=
 HT.cons (h:=⟨[(s,.dat (.val (.int kk p)))],d,.dat (.val (.bool (decide (p < q)))),false⟩) rfl hd (fun Γ h hn'=>(fE ho hd hdm hn' (.t h.1) .c (JF) rfl).g hg) ⟨hx,trivial⟩ ct
theorem aii {yt t:Nat} {q:Int} {kk:IntKind} (ho:o.op = .binOp .leq T (.tmp s) (.tmp t) yt:=by rfl) (hd:o.dst = some d:=by rfl) (hdm:d < m:=by decide) (hn:aB Γ d = true:=by rfl) (hx:lk Γ s = some (.dat (.val (.int kk p))):=by rfl) (hy:lk Γ t = some (.dat (.val (.int kk q))):=by rfl):dB aD kw X0 w0 m Γ o ((d,.dat (.val (.bool (decide (p≤q))))) :: Γ) :=
 fE ho hd hdm hn (.t hx) (.t hy) (Ti) rfl
theorem O5 {yt:Nat} {q:Int} {kk:IntKind} (ho:o.op = .binOp .leq T (.tmp s) (.const (.int kk q)) yt:=by rfl) (hd:o.dst = some d:=by rfl) (hdm:d < m:=by decide) (hn:aB Γ d = true:=by rfl) (hx:lk Γ s = some (.dat (.val (.int kk p))):=by rfl):dB aD kw X0 w0 m Γ o ((d,.dat (.val (.bool (decide (p≤q))))) :: Γ) :=
 fE ho hd hdm hn (.t hx) .c (Ti) rfl
theorem acU {yt t:Nat} {q:Int} {kk:IntKind} (ho:o.op = .binOp .gtr T (.tmp s) (.tmp t) yt:=by rfl) (hd:o.dst = some d:=by rfl) (hdm:d < m:=by decide) (hn:aB Γ d = true:=by rfl) (hx:lk Γ s = some (.dat (.val (.int kk p))):=by rfl) (hy:lk Γ t = some (.dat (.val (.int kk q))):=by rfl):dB aD kw X0 w0 m Γ o ((d,.dat (.val (.bool (decide (q < p))))) :: Γ) :=
 fE ho hd hdm hn (.t hx) (.t hy) (TF) rfl
theorem iT {yt:Nat} {q:Int} {kk:IntKind} (ho:o.op = .binOp .gtr T (.tmp s) (.const (.int kk q)) yt:=by rfl) (hd:o.dst = some d:=by rfl) (hdm:d < m:=by decide) (hn:aB Γ d = true:=by rfl) (hx:lk Γ s = some (.dat (.val (.int kk p))):=by rfl):dB aD kw X0 w0 m Γ o ((d,.dat (.val (.bool (decide (q < p))))) :: Γ) :=
 fE ho hd hdm hn (.t hx) .c (TF) rfl
theorem adr {yt t:Nat} {q:Int} {kk:IntKind} (ho:o.op = .binOp .geq T (.tmp s) (.tmp t) yt:=by rfl) (hd:o.dst = some d:=by rfl) (hdm:d < m:=by decide) (hn:aB Γ d = true:=by rfl) (hx:lk Γ s = some (.dat (.val (.int kk p))):=by rfl) (hy:lk Γ t = some (.dat (.val (.int kk q))):=by rfl):dB aD kw X0 w0 m Γ o ((d,.dat (.val (.bool (decide (q≤p))))) :: Γ) :=
 fE ho hd hdm hn (.t hx) (.t hy) (Ug) rfl
theorem Y9 {yt:Nat} {q:Int} {kk:IntKind} (ho:o.op = .binOp .geq T (.tmp s) (.const (.int kk q)) yt:=by rfl) (hd:o.dst = some d:=by rfl) (hdm:d < m:=by decide) (hn:aB Γ d = true:=by rfl) (hx:lk Γ s = some (.dat (.val (.int kk p))):=by rfl):dB aD kw X0 w0 m Γ o ((d,.dat (.val (.bool (decide (q≤p))))) :: Γ) :=
 fE ho hd hdm hn (.t hx) .c (Ug) rfl
theorem TV {yt t:Nat} {q:Int} {kk:IntKind} (ho:o.op = .binOp .eql T (.tmp s) (.tmp t) yt:=by rfl) (hd:o.dst = some d:=by rfl) (hdm:d < m:=by decide) (hn:aB Γ d = true:=by rfl) (hx:lk Γ s = some (.dat (.val (.int kk p))):=by rfl) (hy:lk Γ t = some (.dat (.val (.int kk q))):=by rfl):dB aD kw X0 w0 m Γ o ((d,.dat (.val (.bool (decide (p = q))))) :: Γ) :=
 fE ho hd hdm hn (.t hx) (.t hy) (Hr) rfl
theorem eu {yt:Nat} {q:Int} {kk:IntKind} (ho:o.op = .binOp .eql T (.tmp s) (.const (.int kk q)) yt:=by rfl) (hd:o.dst = some d:=by rfl) (hdm:d < m:=by decide) (hn:aB Γ d = true:=by rfl) (hx:lk Γ s = some (.dat (.val (.int kk p))):=by rfl):dB aD kw X0 w0 m Γ o ((d,.dat (.val (.bool (decide (p = q))))) :: Γ) :=
 fE ho hd hdm hn (.t hx) .c (Hr) rfl
theorem Pz {yt:Nat} {q:Int} {kk:IntKind} (ho:o.op = .binOp .eql T (.tmp s) (.const (.int kk q)) yt:=by rfl) (hg:o.guard = none:=by rfl) (hd:o.dst = some d:=by rfl) (hdm:d < m:=by decide) (hx:lk Γ s = some (.dat (.val (.int kk p))):=by rfl) (ct:HT aD ops kw X0 w0 m (⟨[(s,.dat (.val (.int kk p)))],d,.dat (.val (.bool (decide (p = q)))),false⟩ :: acc) ((d,.dat (.val (.bool (decide (p = q))))) :: Γ) l K):HT aD ops kw X0 w0 m acc Γ (o :: l) K :=
 HT.cons (h:=⟨[(s,.dat (.val (.int kk p)))],d,.dat (.val (.bool (decide (p = q)))),false⟩) rfl hd (fun Γ h hn'=>(fE ho hd hdm hn' (.t h.1) .c (Hr) rfl).g hg) ⟨hx,trivial⟩ ct
theorem Ji {yt t:Nat} {q:Int} {kk:IntKind} (ho:o.op = .binOp .neq T (.tmp s) (.tmp t) yt:=by rfl) (hd:o.dst = some d:=by rfl) (hdm:d < m:=by decide) (hn:aB Γ d = true:=by rfl) (hx:lk Γ s = some (.dat (.val (.int kk p))):=by rfl) (hy:lk Γ t = some (.dat (.val (.int kk q))):=by rfl):dB aD kw X0 w0 m Γ o ((d,.dat (.val (.bool (decide (p≠q))))) :: Γ) :=
 fE ho hd hdm hn (.t hx) (.t hy) (AB) rfl
theorem ag7 {yt t:Nat} {q:Int} {kk:IntKind} (ho:o.op = .binOp .neq T (.tmp s) (.tmp t) yt:=by rfl) (hg:o.guard = none:=by rfl) (hd:o.dst = some d:=by rfl) (hdm:d < m:=by decide) (hx:lk Γ s = some (.dat (.val (.int kk p))):=by rfl) (hy:lk Γ t = some (.dat (.val (.int kk q))):=by rfl) (ct:HT aD ops kw X0 w0 m (⟨[(s,.dat (.val (.int kk p))),(t,.dat (.val (.int kk q)))],d,.dat (.val (.bool (decide (p≠q)))),false⟩ :: acc) ((d,.dat (.val (.bool (decide (p≠q))))) :: Γ) l K):HT aD ops kw X0 w0 m acc Γ (o :: l) K :=
 HT.cons (h:=⟨[(s,.dat (.val (.int kk p))),(t,.dat (.val (.int kk q)))],d,.dat (.val (.bool (decide (p≠q)))),false⟩) rfl hd (fun Γ h hn'=>(fE ho hd hdm hn' (.t h.1) (.t h.2.1) (AB) rfl).g hg) ⟨hx,hy,trivial⟩ ct
theorem oI {yt:Nat} {q:Int} {kk:IntKind} (ho:o.op = .binOp .neq T (.tmp s) (.const (.int kk q)) yt:=by rfl) (hd:o.dst = some d:=by rfl) (hdm:d < m:=by decide) (hn:aB Γ d = true:=by rfl) (hx:lk Γ s = some (.dat (.val (.int kk p))):=by rfl):dB aD kw X0 w0 m Γ o ((d,.dat (.val (.bool (decide (p≠q))))) :: Γ) :=
 fE ho hd hdm hn (.t hx) .c (AB) rfl
theorem ZP {yt:Nat} {q:Int} {kk:IntKind} (ho:o.op = .binOp .neq T (.tmp s) (.const (.int kk q)) yt:=by rfl) (hg:o.guard = none:=by rfl) (hd:o.dst = some d:=by rfl) (hdm:d < m:=by decide) (hx:lk Γ s = some (.dat (.val (.int kk p))):=by rfl) (ct:HT aD ops kw X0 w0 m (⟨[(s,.dat (.val (.int kk p)))],d,.dat (.val (.bool (decide (p≠q)))),false⟩ :: acc) ((d,.dat (.val (.bool (decide (p≠q))))) :: Γ) l K):HT aD ops kw X0 w0 m acc Γ (o :: l) K :=
 HT.cons (h:=⟨[(s,.dat (.val (.int kk p)))],d,.dat (.val (.bool (decide (p≠q)))),false⟩) rfl hd (fun Γ h hn'=>(fE ho hd hdm hn' (.t h.1) .c (AB) rfl).g hg) ⟨hx,trivial⟩ ct
theorem nR {yt:Nat} {q:Int} {z:Int} (ho:o.op = .binOp .quo T (.tmp s) (.const (.int .i64 q)) yt:=by rfl) (hd:o.dst = some d:=by rfl) (hdm:d < m:=by decide) (hn:aB Γ d = true:=by rfl) (hx:lk Γ s = some (.dat (.val (.int .i64 p))):=by rfl) (hq:0 < q:=by omega) (hp:0≤p:=by omega) (h2:p≤9223372036854775807:=by omega) (hz:p / q = z:=by rfl):dB aD kw X0 w0 m Γ o ((d,.dat (.val (.int .i64 z))) :: Γ) :=
 fE ho hd hdm hn (.t hx) .c (Ur hq hp h2 hz) rfl
theorem o9 {yt:Nat} {q:Int} {z:Int} (ho:o.op = .binOp .quo T (.tmp s) (.const (.int .i64 q)) yt:=by rfl) (hg:o.guard = none:=by rfl) (hd:o.dst = some d:=by rfl) (hdm:d < m:=by decide) (hx:lk Γ s = some (.dat (.val (.int .i64 p))):=by rfl) (hq:0 < q:=by omega) (hp:0≤p:=by omega) (h2:p≤9223372036854775807:=by omega) (hz:p / q = z:=by rfl) (ct:HT aD ops kw X0 w0 m (⟨[(s,.dat (.val (.int .i64 p)))],d,.dat (.val (.int .i64 z)),false⟩ :: acc) ((d,.dat (.val (.int .i64 z))) :: Γ) l K):HT aD ops kw X0 w0 m acc Γ (o :: l) K :=
 HT.cons (h:=⟨[(s,.dat (.val (.int .i64 p)))],d,.dat (.val (.int .i64 z)),false⟩) rfl hd (fun Γ h hn'=>(fE ho hd hdm hn' (.t h.1) .c (Ur hq hp h2 hz) rfl).g hg) ⟨hx,trivial⟩ ct
theorem Zo {yt t:Nat} {q:Int} {kk:IntKind} {z:Int} (ho:o.op = .binOp .rem T (.tmp s) (.tmp t) yt:=by rfl) (hg:o.guard = none:=by rfl) (hd:o.dst = some d:=by rfl) (hdm:d < m:=by decide) (hx:lk Γ s = some (.dat (.val (.int kk p))):=by rfl) (hy:lk Γ t = some (.dat (.val (.int kk q))):=by rfl) (hq:0 < q:=by omega) (hp:0≤p:=by omega) (hz:p % q = z:=by rfl) (ct:HT aD ops kw X0 w0 m (⟨[(s,.dat (.val (.int kk p))),(t,.dat (.val (.int kk q)))],d,.dat (.val (.int kk z)),false⟩ :: acc) ((d,.dat (.val (.int kk z))) :: Γ) l K):HT aD ops kw X0 w0 m acc Γ (o :: l) K :=
 HT.cons (h:=⟨[(s,.dat (.val (.int kk p))),(t,.dat (.val (.int kk q)))],d,.dat (.val (.int kk z)),false⟩) rfl hd (fun Γ h hn'=>(fE ho hd hdm hn' (.t h.1) (.t h.2.1) (TC hq hp hz) rfl).g hg) ⟨hx,hy,trivial⟩ ct
theorem Fv {yt:Nat} {q:Int} {kk:IntKind} {z:Int} (ho:o.op = .binOp .rem T (.tmp s) (.const (.int kk q)) yt:=by rfl) (hd:o.dst = some d:=by rfl) (hdm:d < m:=by decide) (hn:aB Γ d = true:=by rfl) (hx:lk Γ s = some (.dat (.val (.int kk p))):=by rfl) (hq:0 < q:=by omega) (hp:0≤p:=by omega) (hz:p % q = z:=by rfl):dB aD kw X0 w0 m Γ o ((d,.dat (.val (.int kk z))) :: Γ) :=
 fE ho hd hdm hn (.t hx) .c (TC hq hp hz) rfl
theorem pI {yt:Nat} {q:Int} {kk:IntKind} {z:Int} (ho:o.op = .binOp .shl T (.const (.int .i64 p)) (.tmp s) yt:=by rfl) (hd:o.dst = some d:=by rfl) (hdm:d < m:=by decide) (hn:aB Γ d = true:=by rfl) (hy:lk Γ s = some (.dat (.val (.int kk q))):=by rfl) (hq:q = n:=by rfl) (hn0:n≤64:=by omega) (hz:p * 2 ^ n = z:=by rfl) (h1:-9223372036854775808≤z:=by omega) (h2:z≤9223372036854775807:=by omega):dB aD kw X0 w0 m Γ o ((d,.dat (.val (.int .i64 z))) :: Γ) :=
 fE ho hd hdm hn .c (.t hy) (Rl hq hn0 hz h1 h2) rfl
theorem QC {yt:Nat} {q:Int} {kk:IntKind} {z:Int} (ho:o.op = .binOp .shl T (.const (.int .i64 p)) (.tmp s) yt:=by rfl) (hg:o.guard = none:=by rfl) (hd:o.dst = some d:=by rfl) (hdm:d < m:=by decide) (hy:lk Γ s = some (.dat (.val (.int kk q))):=by rfl) (hq:q = n:=by rfl) (hn0:n≤64:=by omega) (hz:p * 2 ^ n = z:=by rfl) (h1:-9223372036854775808≤z:=by omega) (h2:z≤9223372036854775807:=by omega) (ct:HT aD ops kw X0 w0 m (⟨[(s,.dat (.val (.int kk q)))],d,.dat (.val (.int .i64 z)),false⟩ :: acc) ((d,.dat (.val (.int .i64 z))) :: Γ) l K):HT aD ops kw X0 w0 m acc Γ (o :: l) K :=
 HT.cons (h:=⟨[(s,.dat (.val (.int kk q)))],d,.dat (.val (.int .i64 z)),false⟩) rfl hd (fun Γ h hn'=>(fE ho hd hdm hn' .c (.t h.1) (Rl hq hn0 hz h1 h2) rfl).g hg) ⟨hy,trivial⟩ ct
theorem ado {yt t:Nat} {q:Int} {ka kk:IntKind} {z:Int} (ho:o.op = .binOp .shr T (.tmp s) (.tmp t) yt:=by rfl) (hd:o.dst = some d:=by rfl) (hdm:d < m:=by decide) (hn:aB Γ d = true:=by rfl) (hx:lk Γ s = some (.dat (.val (.int ka p))):=by rfl) (hy:lk Γ t = some (.dat (.val (.int kk q))):=by rfl) (hq:q = n:=by rfl) (hn0:n≤ka.bits:=by decide) (hz:p / 2 ^ n = z:=by rfl):dB aD kw X0 w0 m Γ o ((d,.dat (.val (.int ka z))) :: Γ) :=
 fE ho hd hdm hn (.t hx) (.t hy) (aaV hq hn0 hz) rfl
theorem iV {b:Bool} (ho:o.op = .unOp .not T (.tmp s):=by rfl) (hd:o.dst = some d:=by rfl) (hdm:d < m:=by decide) (hn:aB Γ d = true:=by rfl) (hx:lk Γ s = some (.dat (.val (.bool b))):=by rfl):dB aD kw X0 w0 m Γ o ((d,.dat (.val (.bool !b))) :: Γ) :=
 Yi ho hd hdm hn (.t hx)
theorem OA {b:Bool} (ho:o.op = .unOp .not T (.tmp s):=by rfl) (hg:o.guard = none:=by rfl) (hd:o.dst = some d:=by rfl) (hdm:d < m:=by decide) (hx:lk Γ s = some (.dat (.val (.bool b))):=by rfl) (ct:HT aD ops kw X0 w0 m (⟨[(s,.dat (.val (.bool b)))],d,.dat (.val (.bool !b)),false⟩ :: acc) ((d,.dat (.val (.bool !b))) :: Γ) l K):HT aD ops kw X0 w0 m acc Γ (o :: l) K :=
 HT.cons (h:=⟨[(s,.dat (.val (.bool b)))],d,.dat (.val (.bool !b)),false⟩) rfl hd (fun Γ h hn'=>(Yi ho hd hdm hn' (.t h.1)).g hg) ⟨hx,trivial⟩ ct
theorem uJ {z:Int} (ho:o.op = .unOp .neg T (.tmp s):=by rfl) (hd:o.dst = some d:=by rfl) (hdm:d < m:=by decide) (hn:aB Γ d = true:=by rfl) (hx:lk Γ s = some (.dat (.val (.int .i64 p))):=by rfl) (hz:-p = z:=by rfl) (h1:-9223372036854775808≤z:=by omega) (h2:z≤9223372036854775807:=by omega):dB aD kw X0 w0 m Γ o ((d,.dat (.val (.int .i64 z))) :: Γ) :=
 ae3 ho hd hdm hn (.t hx) hz h1 h2
theorem wI {src dst:Nat} {kk k2:IntKind} {z:Int} {ds:TypeDesc} (hs1:aD.underlying src = some ds) (hs2:aD.underlying dst = some (.int k2)) (ho:o.op = .convert src dst (.tmp s):=by rfl) (hd:o.dst = some d:=by rfl) (hdm:d < m:=by decide) (hn:aB Γ d = true:=by rfl) (hx:lk Γ s = some (.dat (.val (.int kk p))):=by rfl) (hz:k2.wrap p = z:=by rfl):dB aD kw X0 w0 m Γ o ((d,.dat (.val (.int k2 z))) :: Γ) :=
 Rj ho hd hdm hn (.t hx) hs1 hs2 hz
theorem ZM {src dst:Nat} {kk k2:IntKind} {z:Int} {ds:TypeDesc} (hs1:aD.underlying src = some ds) (hs2:aD.underlying dst = some (.int k2)) (ho:o.op = .convert src dst (.tmp s):=by rfl) (hg:o.guard = none:=by rfl) (hd:o.dst = some d:=by rfl) (hdm:d < m:=by decide) (hx:lk Γ s = some (.dat (.val (.int kk p))):=by rfl) (hz:k2.wrap p = z:=by rfl) (ct:HT aD ops kw X0 w0 m (⟨[(s,.dat (.val (.int kk p)))],d,.dat (.val (.int k2 z)),false⟩ :: acc) ((d,.dat (.val (.int k2 z))) :: Γ) l K):HT aD ops kw X0 w0 m acc Γ (o :: l) K :=
 HT.cons (h:=⟨[(s,.dat (.val (.int kk p)))],d,.dat (.val (.int k2 z)),false⟩) rfl hd (fun Γ h hn'=>(Rj ho hd hdm hn' (.t h.1) hs1 hs2 hz).g hg) ⟨hx,trivial⟩ ct
theorem yE (ho:o.op = .extract (.tmp s) i:=by rfl) (hd:o.dst = some d:=by rfl) (hdm:d < m:=by decide) (hn:aB Γ d = true:=by rfl) (hl:lk Γ s = some (.bT es):=by rfl) (hi:es[i]? = some e:=by rfl):dB aD kw X0 w0 m Γ o ((d,.dat e) :: Γ) :=
 Y8 ho hd hdm hn hl hi
theorem ade (ho:o.op = .extract (.tmp s) i:=by rfl) (hg:o.guard = none:=by rfl) (hd:o.dst = some d:=by rfl) (hdm:d < m:=by decide) (hl:lk Γ s = some (.bT es):=by rfl) (hi:es[i]? = some e:=by rfl) (ct:HT aD ops kw X0 w0 m (⟨[(s,.bT es)],d,.dat e,false⟩ :: acc) ((d,.dat e) :: Γ) l K):HT aD ops kw X0 w0 m acc Γ (o :: l) K :=
 HT.cons (h:=⟨[(s,.bT es)],d,.dat e,false⟩) rfl hd (fun Γ h hn'=>(Y8 ho hd hdm hn' h.1 hi).g hg) ⟨hl,trivial⟩ ct
theorem qx {t:Nat} {b b' p:Bool} (ho:o.op = .pick (.tmp s) (.tmp t) (.const (.bool false)):=by rfl) (hd:o.dst = some d:=by rfl) (hdm:d < m:=by decide) (hn:aB Γ d = true:=by rfl) (hc:lk Γ s = some (.dat (.val (.bool b))):=by rfl) (hl:lk Γ t = some (.kS b' (.dat (.val (.bool p)))):=by rfl) (hb:b = true→b' = true:=by first | exact fun h=>h | (intro h;simp only [h];decide) | (intro h;simp [h])):dB aD kw X0 w0 m Γ o ((d,.dat (.val (.bool (b && p)))) :: Γ) :=
 WZ ho hd hdm hn hc hl hb
theorem ads {t:Nat} {b b' p:Bool} (ho:o.op = .pick (.tmp s) (.tmp t) (.const (.bool false)):=by rfl) (hg:o.guard = none:=by rfl) (hd:o.dst = some d:=by rfl) (hdm:d < m:=by decide) (hc:lk Γ s = some (.dat (.val (.bool b))):=by rfl) (hl:lk Γ t = some (.kS b' (.dat (.val (.bool p)))):=by rfl) (hb:b = true→b' = true:=by first | exact fun h=>h | (intro h;simp only [h];decide) | (intro h;simp [h])) (ct:HT aD ops kw X0 w0 m (⟨[(s,.dat (.val (.bool b))),(t,.kS b' (.dat (.val (.bool p))))],d,.dat (.val (.bool (b && p))),false⟩ :: acc) ((d,.dat (.val (.bool (b && p)))) :: Γ) l K):HT aD ops kw X0 w0 m acc Γ (o :: l) K :=
 HT.cons (h:=⟨[(s,.dat (.val (.bool b))),(t,.kS b' (.dat (.val (.bool p))))],d,.dat (.val (.bool (b && p))),false⟩) rfl hd (fun Γ h hn'=>(WZ ho hd hdm hn' h.1 h.2.1 hb).g hg) ⟨hc,hl,trivial⟩ ct
theorem Di {t:Nat} {b b' p:Bool} (ho:o.op = .pick (.tmp s) (.const (.bool true)) (.tmp t):=by rfl) (hd:o.dst = some d:=by rfl) (hdm:d < m:=by decide) (hn:aB Γ d = true:=by rfl) (hc:lk Γ s = some (.dat (.val (.bool b))):=by rfl) (hl:lk Γ t = some (.kS b' (.dat (.val (.bool p)))):=by rfl) (hb:b = false→b' = true:=by first | (intro h;simp only [h];decide) | (intro h;simp [h])):dB aD kw X0 w0 m Γ o ((d,.dat (.val (.bool (b || p)))) :: Γ) :=
 acW ho hd hdm hn hc hl hb
theorem ahe {t:Nat} {b b' p:Bool} (ho:o.op = .pick (.tmp s) (.const (.bool true)) (.tmp t):=by rfl) (hg:o.guard = none:=by rfl) (hd:o.dst = some d:=by rfl) (hdm:d < m:=by decide) (hc:lk Γ s = some (.dat (.val (.bool b))):=by rfl) (hl:lk Γ t = some (.kS b' (.dat (.val (.bool p)))):=by rfl) (hb:b = false→b' = true:=by first | (intro h;simp only [h];decide) | (intro h;simp [h])) (ct:HT aD ops kw X0 w0 m (⟨[(s,.dat (.val (.bool b))),(t,.kS b' (.dat (.val (.bool p))))],d,.dat (.val (.bool (b || p))),false⟩ :: acc) ((d,.dat (.val (.bool (b || p)))) :: Γ) l K):HT aD ops kw X0 w0 m acc Γ (o :: l) K :=
 HT.cons (h:=⟨[(s,.dat (.val (.bool b))),(t,.kS b' (.dat (.val (.bool p))))],d,.dat (.val (.bool (b || p))),false⟩) rfl hd (fun Γ h hn'=>(acW ho hd hdm hn' h.1 h.2.1 hb).g hg) ⟨hc,hl,trivial⟩ ct
theorem uQ {off:Nat} {x:D} (ho:o.op = .fieldAddr T (.tmp s) i:=by rfl) (hd:o.dst = some d:=by rfl) (hdm:d < m:=by decide) (hn:aB Γ d = true:=by rfl) (hl:lk Γ s = some (.ptr e):=by rfl) (hx:e.DX i = some x:=by rfl) (ho2:e.uT i = off:=by rfl) (fi:FI aD T i off:=by first | exact xA | exact yj | exact qY | exact rG | exact xW | exact xJ | exact x9 | exact xC | exact xN | exact xI):dB aD kw X0 w0 m Γ o ((d,.ptr x) :: Γ) :=
 ZH ho hd hdm hn fi hl hx ho2
theorem aaL {off:Nat} {x:D} (ho:o.op = .fieldAddr T (.tmp s) i:=by rfl) (hg:o.guard = none:=by rfl) (hd:o.dst = some d:=by rfl) (hdm:d < m:=by decide) (hl:lk Γ s = some (.ptr e):=by rfl) (hx:e.DX i = some x:=by rfl) (ho2:e.uT i = off:=by rfl) (fi:FI aD T i off:=by first | exact xA | exact yj | exact qY | exact rG | exact xW | exact xJ | exact x9 | exact xC | exact xN | exact xI) (ct:HT aD ops kw X0 w0 m (⟨[(s,.ptr e)],d,.ptr x,false⟩ :: acc) ((d,.ptr x) :: Γ) l K):HT aD ops kw X0 w0 m acc Γ (o :: l) K :=
 HT.cons (h:=⟨[(s,.ptr e)],d,.ptr x,false⟩) rfl hd (fun Γ h hn'=>(ZH ho hd hdm hn' fi h.1 hx ho2).g hg) ⟨hl,trivial⟩ ct
theorem dn (ho:o.op = .fieldAddr T (.tmp s) i:=by rfl) (hd:o.dst = some d:=by rfl) (hdm:d < m:=by decide) (hn:aB Γ d = true:=by rfl) (hl:lk Γ s = some (.box e):=by rfl) (fi:FI aD T i off:=by first | exact xA | exact yj | exact qY | exact rG | exact xW | exact xJ | exact x9 | exact xC | exact xN | exact xI):dB aD kw X0 w0 m Γ o ((d,.sub s off) :: Γ) :=
 Iq ho hd hdm hn fi hl
theorem Pm (ho:o.op = .fieldAddr T (.tmp s) i:=by rfl) (hg:o.guard = none:=by rfl) (hd:o.dst = some d:=by rfl) (hdm:d < m:=by decide) (hl:lk Γ s = some (.box e):=by rfl) (fi:FI aD T i off:=by first | exact xA | exact yj | exact qY | exact rG | exact xW | exact xJ | exact x9 | exact xC | exact xN | exact xI) (ct:HT aD ops kw X0 w0 m (⟨[(s,.box e)],d,.sub s off,false⟩ :: acc) ((d,.sub s off) :: Γ) l K):HT aD ops kw X0 w0 m acc Γ (o :: l) K :=
 HT.cons (h:=⟨[(s,.box e)],d,.sub s off,false⟩) rfl hd (fun Γ h hn'=>(Iq ho hd hdm hn' fi h.1).g hg) ⟨hl,trivial⟩ ct
theorem Jt {s' o' o2:Nat} (ho:o.op = .fieldAddr T (.tmp s) i:=by rfl) (hd:o.dst = some d:=by rfl) (hdm:d < m:=by decide) (hn:aB Γ d = true:=by rfl) (hl:lk Γ s = some (.sub s' o'):=by rfl) (fi:FI aD T i off:=by first | exact xA | exact yj | exact qY | exact rG | exact xW | exact xJ | exact x9 | exact xC | exact xN | exact xI) (ho2:o' + off = o2:=by rfl):dB aD kw X0 w0 m Γ o ((d,.sub s' o2) :: Γ) :=
 I7 ho hd hdm hn fi hl ho2
theorem ach {s' o' o2:Nat} (ho:o.op = .fieldAddr T (.tmp s) i:=by rfl) (hg:o.guard = none:=by rfl) (hd:o.dst = some d:=by rfl) (hdm:d < m:=by decide) (hl:lk Γ s = some (.sub s' o'):=by rfl) (fi:FI aD T i off:=by first | exact xA | exact yj | exact qY | exact rG | exact xW | exact xJ | exact x9 | exact xC | exact xN | exact xI) (ho2:o' + off = o2:=by rfl) (ct:HT aD ops kw X0 w0 m (⟨[(s,.sub s' o')],d,.sub s' o2,false⟩ :: acc) ((d,.sub s' o2) :: Γ) l K):HT aD ops kw X0 w0 m acc Γ (o :: l) K :=
 HT.cons (h:=⟨[(s,.sub s' o')],d,.sub s' o2,false⟩) rfl hd (fun Γ h hn'=>(I7 ho hd hdm hn' fi h.1 ho2).g hg) ⟨hl,trivial⟩ ct
theorem fO (ho:o.op = .load T (.tmp s):=by rfl) (hd:o.dst = some d:=by rfl) (hdm:d < m:=by decide) (hn:aB Γ d = true:=by rfl) (hl:lk Γ s = some (.ptr e):=by rfl) (ti:TI aD T e.width e.isAgg:=by first | exact kK | exact kQ | exact nM | exact eU | exact mO | exact l9 | exact pR | exact oM | exact Ic | exact Fb | exact yJ | exact yG | exact yF | exact kZ | exact nN | exact qF):dB aD kw X0 w0 m Γ o ((d,.dat e) :: Γ) :=
 Jo ho hd hdm hn ti hl
theorem Nb (ho:o.op = .load T (.tmp s):=by rfl) (hg:o.guard = none:=by rfl) (hd:o.dst = some d:=by rfl) (hdm:d < m:=by decide) (hl:lk Γ s = some (.ptr e):=by rfl) (ti:TI aD T e.width e.isAgg:=by first | exact kK | exact kQ | exact nM | exact eU | exact mO | exact l9 | exact pR | exact oM | exact Ic | exact Fb | exact yJ | exact yG | exact yF | exact kZ | exact nN | exact qF) (ct:HT aD ops kw X0 w0 m (⟨[(s,.ptr e)],d,.dat e,false⟩ :: acc) ((d,.dat e) :: Γ) l K):HT aD ops kw X0 w0 m acc Γ (o :: l) K :=
 HT.cons (h:=⟨[(s,.ptr e)],d,.dat e,false⟩) rfl hd (fun Γ h hn'=>(Jo ho hd hdm hn' ti h.1).g hg) ⟨hl,trivial⟩ ct
theorem bM (ho:o.op = .load T (.tmp s):=by rfl) (hd:o.dst = some d:=by rfl) (hdm:d < m:=by decide) (hn:aB Γ d = true:=by rfl) (hl:lk Γ s = some (.box e):=by rfl) (ti:TI aD T e.width e.isAgg:=by first | exact kK | exact kQ | exact nM | exact eU | exact mO | exact l9 | exact pR | exact oM | exact Ic | exact Fb | exact yJ | exact yG | exact yF | exact kZ | exact nN | exact qF):dB aD kw X0 w0 m Γ o ((d,.dat e) :: Γ) :=
 Cj ho hd hdm hn ti hl
theorem Xq (ho:o.op = .load T (.tmp s):=by rfl) (hg:o.guard = none:=by rfl) (hd:o.dst = some d:=by rfl) (hdm:d < m:=by decide) (hl:lk Γ s = some (.box e):=by rfl) (ti:TI aD T e.width e.isAgg:=by first | exact kK | exact kQ | exact nM | exact eU | exact mO | exact l9 | exact pR | exact oM | exact Ic | exact Fb | exact yJ | exact yG | exact yF | exact kZ | exact nN | exact qF) (ct:HT aD ops kw X0 w0 m (⟨[(s,.box e)],d,.dat e,false⟩ :: acc) ((d,.dat e) :: Γ) l K):HT aD ops kw X0 w0 m acc Γ (o :: l) K :=
 HT.cons (h:=⟨[(s,.box e)],d,.dat e,false⟩) rfl hd (fun Γ h hn'=>(Cj ho hd hdm hn' ti h.1).g hg) ⟨hl,trivial⟩ ct
theorem aX {s' o':Nat} {e0:D} (i:Nat) (ho:o.op = .load T (.tmp s):=by rfl) (hd:o.dst = some d:=by rfl) (hdm:d < m:=by decide) (hn:aB Γ d = true:=by rfl) (hl:lk Γ s = some (.sub s' o'):=by rfl) (hl':lk Γ s' = some (.box e0):=by rfl) (hx:e0.DX i = some e:=by rfl) (ho2:e0.uT i = o':=by rfl) (ti:TI aD T e.width e.isAgg:=by first | exact kK | exact kQ | exact nM | exact eU | exact mO | exact l9 | exact pR | exact oM | exact Ic | exact Fb | exact yJ | exact yG | exact yF | exact kZ | exact nN | exact qF):dB aD kw X0 w0 m Γ o ((d,.dat e) :: Γ) :=
 xE ho hd hdm hn ti hl hl' (ji.DX hx ho2)
theorem bG {s' o':Nat} {e0:D} (i:Nat) (ho:o.op = .load T (.tmp s):=by rfl) (hg:o.guard = none:=by rfl) (hd:o.dst = some d:=by rfl) (hdm:d < m:=by decide) (hl:lk Γ s = some (.sub s' o'):=by rfl) (hl':lk Γ s' = some (.box e0):=by rfl) (hx:e0.DX i = some e:=by rfl) (ho2:e0.uT i = o':=by rfl) (ti:TI aD T e.width e.isAgg:=by first | exact kK | exact kQ | exact nM | exact eU | exact mO | exact l9 | exact pR | exact oM | exact Ic | exact Fb | exact yJ | exact yG | exact yF | exact kZ | exact nN | exact qF) (ct:HT aD ops kw X0 w0 m (⟨[(s,.sub s' o'),(s',.box e0)],d,.dat e,false⟩ :: acc) ((d,.dat e) :: Γ) l K):HT aD ops kw X0 w0 m acc Γ (o :: l) K :=
 HT.cons (h:=⟨[(s,.sub s' o'),(s',.box e0)],d,.dat e,false⟩) rfl hd (fun Γ h hn'=>(xE ho hd hdm hn' ti h.1 h.2.1 (ji.DX hx ho2)).g hg) ⟨hl,hl',trivial⟩ ct
theorem Af {s' o':Nat} {e0 e1:D} (i j:Nat) (ho:o.op = .load T (.tmp s):=by rfl) (hd:o.dst = some d:=by rfl) (hdm:d < m:=by decide) (hn:aB Γ d = true:=by rfl) (hl:lk Γ s = some (.sub s' o'):=by rfl) (hl':lk Γ s' = some (.box e0):=by rfl) (hx:e0.DX i = some e1:=by rfl) (hy:e1.DX j = some e:=by rfl) (ho2:e0.uT i + e1.uT j = o':=by rfl) (ti:TI aD T e.width e.isAgg:=by first | exact kK | exact kQ | exact nM | exact eU | exact mO | exact l9 | exact pR | exact oM | exact Ic | exact Fb | exact yJ | exact yG | exact yF | exact kZ | exact nN | exact qF):dB aD kw X0 w0 m Γ o ((d,.dat e) :: Γ) :=
 xE ho hd hdm hn ti hl hl' (ji.aij hx hy ho2)
theorem acV {s' o':Nat} {e0 e1:D} (i j:Nat) (ho:o.op = .load T (.tmp s):=by rfl) (hg:o.guard = none:=by rfl) (hd:o.dst = some d:=by rfl) (hdm:d < m:=by decide) (hl:lk Γ s = some (.sub s' o'):=by rfl) (hl':lk Γ s' = some (.box e0):=by rfl) (hx:e0.DX i = some e1:=by rfl) (hy:e1.DX j = some e:=by rfl) (ho2:e0.uT i + e1.uT j = o':=by rfl) (ti:TI aD T e.width e.isAgg:=by first | exact kK | exact kQ | exact nM | exact eU | exact mO | exact l9 | exact pR | exact oM | exact Ic | exact Fb | exact yJ | exact yG | exact yF | exact kZ | exact nN | exact qF) (ct:HT aD ops kw X0 w0 m (⟨[(s,.sub s' o'),(s',.box e0)],d,.dat e,false⟩ :: acc) ((d,.dat e) :: Γ) l K):HT aD ops kw X0 w0 m acc Γ (o :: l) K :=
 HT.cons (h:=⟨[(s,.sub s' o'),(s',.box e0)],d,.dat e,false⟩) rfl hd (fun Γ h hn'=>(xE ho hd hdm hn' ti h.1 h.2.1 (ji.aij hx hy ho2)).g hg) ⟨hl,hl',trivial⟩ ct
theorem ai3 {s':Nat} (hi:es[i]? = some e) (ho:o.op = .load T (.tmp s):=by rfl) (hd:o.dst = some d:=by rfl) (hdm:d < m:=by decide) (hn:aB Γ d = true:=by rfl) (hl:lk Γ s = some (.qH s' i k):=by rfl) (hl':lk Γ s' = some (.own k es):=by rfl) (ti:TI aD T e.width e.isAgg:=by first | exact kK | exact kQ | exact nM | exact eU | exact mO | exact l9 | exact pR | exact oM | exact Ic | exact Fb | exact yJ | exact yG | exact yF | exact kZ | exact nN | exact qF):dB aD kw X0 w0 m Γ o ((d,.dat e) :: Γ) :=
 IC ho hd hdm hn ti hl hl' hi
theorem aiP {s':Nat} (hi:es[i]? = some e) (ho:o.op = .load T (.tmp s):=by rfl) (hg:o.guard = none:=by rfl) (hd:o.dst = some d:=by rfl) (hdm:d < m:=by decide) (hl:lk Γ s = some (.qH s' i k):=by rfl) (hl':lk Γ s' = some (.own k es):=by rfl) (ti:TI aD T e.width e.isAgg:=by first | exact kK | exact kQ | exact nM | exact eU | exact mO | exact l9 | exact pR | exact oM | exact Ic | exact Fb | exact yJ | exact yG | exact yF | exact kZ | exact nN | exact qF) (ct:HT aD ops kw X0 w0 m (⟨[(s,.qH s' i k),(s',.own k es)],d,.dat e,false⟩ :: acc) ((d,.dat e) :: Γ) l K):HT aD ops kw X0 w0 m acc Γ (o :: l) K :=
 HT.cons (h:=⟨[(s,.qH s' i k),(s',.own k es)],d,.dat e,false⟩) rfl hd (fun Γ h hn'=>(IC ho hd hdm hn' ti h.1 h.2.1 hi).g hg) ⟨hl,hl',trivial⟩ ct
theorem aI {e:Nat} {f:F} (ho:o.op = .call { callee:=.builtin .len,args:=#[.tmp s],argTypes:=#[T] }:=by rfl) (hd:o.dst = some d:=by rfl) (hdm:d < m:=by decide) (hn:aB Γ d = true:=by rfl) (hl:lk Γ s = some (f):=by rfl) (hlen:lenOf f = some n:=by rfl) (hT:aD.underlying T = some (.slice e):=by first | exact Tryz.underlying25 | exact Tryz.underlying24 | exact Tryz.underlying39 | exact Tryz.underlying68 | exact Tryz.underlying23 | exact Tryz.underlying44):dB aD kw X0 w0 m Γ o ((d,.dat (.val (.int .i64 (n:Int)))) :: Γ) :=
 aaf ho hd hdm hn hT hl hlen
theorem je {e:Nat} {f:F} (ho:o.op = .call { callee:=.builtin .len,args:=#[.tmp s],argTypes:=#[T] }:=by rfl) (hg:o.guard = none:=by rfl) (hd:o.dst = some d:=by rfl) (hdm:d < m:=by decide) (hl:lk Γ s = some (f):=by rfl) (hlen:lenOf f = some n:=by rfl) (hT:aD.underlying T = some (.slice e):=by first | exact Tryz.underlying25 | exact Tryz.underlying24 | exact Tryz.underlying39 | exact Tryz.underlying68 | exact Tryz.underlying23 | exact Tryz.underlying44) (ct:HT aD ops kw X0 w0 m (⟨[(s,f)],d,.dat (.val (.int .i64 (n:Int))),false⟩ :: acc) ((d,.dat (.val (.int .i64 (n:Int)))) :: Γ) l K):HT aD ops kw X0 w0 m acc Γ (o :: l) K :=
 HT.cons (h:=⟨[(s,f)],d,.dat (.val (.int .i64 (n:Int))),false⟩) rfl hd (fun Γ h hn'=>(aaf ho hd hdm hn' hT h.1 hlen).g hg) ⟨hl,trivial⟩ ct
theorem uk {e s':Nat} {f:F} (ho:o.op = .call { callee:=.builtin .len,args:=#[.tmp s],argTypes:=#[T] }:=by rfl) (hd:o.dst = some d:=by rfl) (hdm:d < m:=by decide) (hn:aB Γ d = true:=by rfl) (hl:lk Γ s = some (.zy s'):=by rfl) (hl':lk Γ s' = some (f):=by rfl) (hlen:lenOf f = some n:=by rfl) (hT:aD.underlying T = some (.slice e):=by first | exact Tryz.underlying25 | exact Tryz.underlying24 | exact Tryz.underlying39 | exact Tryz.underlying68 | exact Tryz.underlying23 | exact Tryz.underlying44):dB aD kw X0 w0 m Γ o ((d,.dat (.val (.int .i64 (n:Int)))) :: Γ) :=
 Gx ho hd hdm hn hT hl hl' hlen
theorem agu {e s':Nat} {f:F} (ho:o.op = .call { callee:=.builtin .len,args:=#[.tmp s],argTypes:=#[T] }:=by rfl) (hg:o.guard = none:=by rfl) (hd:o.dst = some d:=by rfl) (hdm:d < m:=by decide) (hl:lk Γ s = some (.zy s'):=by rfl) (hl':lk Γ s' = some (f):=by rfl) (hlen:lenOf f = some n:=by rfl) (hT:aD.underlying T = some (.slice e):=by first | exact Tryz.underlying25 | exact Tryz.underlying24 | exact Tryz.underlying39 | exact Tryz.underlying68 | exact Tryz.underlying23 | exact Tryz.underlying44) (ct:HT aD ops kw X0 w0 m (⟨[(s,.zy s'),(s',f)],d,.dat (.val (.int .i64 (n:Int))),false⟩ :: acc) ((d,.dat (.val (.int .i64 (n:Int)))) :: Γ) l K):HT aD ops kw X0 w0 m acc Γ (o :: l) K :=
 HT.cons (h:=⟨[(s,.zy s'),(s',f)],d,.dat (.val (.int .i64 (n:Int))),false⟩) rfl hd (fun Γ h hn'=>(Gx ho hd hdm hn' hT h.1 h.2.1 hlen).g hg) ⟨hl,hl',trivial⟩ ct
theorem dZ {t:Nat} {z:Int} (hz:z = (i:Int)) (hi:es[i]? = some e) (ho:o.op = .indexAddr T (.tmp s) (.tmp t):=by rfl) (hd:o.dst = some d:=by rfl) (hdm:d < m:=by decide) (hn:aB Γ d = true:=by rfl) (hl:lk Γ s = some (.dat (.list k es)):=by rfl) (hx:lk Γ t = some (.dat (.val (.int .i64 z))):=by rfl) (si:SI aD T k:=by first | exact ig | exact jh | exact gV | exact jg | exact gW | exact dS):dB aD kw X0 w0 m Γ o ((d,.ptr e) :: Γ) :=
 Tf ho hd hdm hn si hl (.t hx) hz hi
theorem mP {t:Nat} {z:Int} (hz:z = (i:Int)) (hi:es[i]? = some e) (ho:o.op = .indexAddr T (.tmp s) (.tmp t):=by rfl) (hg:o.guard = none:=by rfl) (hd:o.dst = some d:=by rfl) (hdm:d < m:=by decide) (hl:lk Γ s = some (.dat (.list k es)):=by rfl) (hx:lk Γ t = some (.dat (.val (.int .i64 z))):=by rfl) (si:SI aD T k:=by first | exact ig | exact jh | exact gV | exact jg | exact gW | exact dS) (ct:HT aD ops kw X0 w0 m (⟨[(s,.dat (.list k es)),(t,.dat (.val (.int .i64 z)))],d,.ptr e,false⟩ :: acc) ((d,.ptr e) :: Γ) l K):HT aD ops kw X0 w0 m acc Γ (o :: l) K :=
 HT.cons (h:=⟨[(s,.dat (.list k es)),(t,.dat (.val (.int .i64 z)))],d,.ptr e,false⟩) rfl hd (fun Γ h hn'=>(Tf ho hd hdm hn' si h.1 (.t h.2.1) hz hi).g hg) ⟨hl,hx,trivial⟩ ct
theorem uK {z:Int} (hz:z = (i:Int)) (hi:es[i]? = some e) (ho:o.op = .indexAddr T (.tmp s) (.const (.int .i64 z)):=by rfl) (hd:o.dst = some d:=by rfl) (hdm:d < m:=by decide) (hn:aB Γ d = true:=by rfl) (hl:lk Γ s = some (.dat (.list k es)):=by rfl) (si:SI aD T k:=by first | exact ig | exact jh | exact gV | exact jg | exact gW | exact dS):dB aD kw X0 w0 m Γ o ((d,.ptr e) :: Γ) :=
 Tf ho hd hdm hn si hl .c hz hi
theorem uH {z:Int} (hz:z = (i:Int)) (hi:es[i]? = some e) (ho:o.op = .indexAddr T (.tmp s) (.const (.int .i64 z)):=by rfl) (hg:o.guard = none:=by rfl) (hd:o.dst = some d:=by rfl) (hdm:d < m:=by decide) (hl:lk Γ s = some (.dat (.list k es)):=by rfl) (si:SI aD T k:=by first | exact ig | exact jh | exact gV | exact jg | exact gW | exact dS) (ct:HT aD ops kw X0 w0 m (⟨[(s,.dat (.list k es))],d,.ptr e,false⟩ :: acc) ((d,.ptr e) :: Γ) l K):HT aD ops kw X0 w0 m acc Γ (o :: l) K :=
 HT.cons (h:=⟨[(s,.dat (.list k es))],d,.ptr e,false⟩) rfl hd (fun Γ h hn'=>(Tf ho hd hdm hn' si h.1 .c hz hi).g hg) ⟨hl,trivial⟩ ct
theorem OE {t s':Nat} {z:Int} (hz:z = (i:Int)) (hi:i < es.length) (ho:o.op = .indexAddr T (.tmp s) (.tmp t):=by rfl) (hd:o.dst = some d:=by rfl) (hdm:d < m:=by decide) (hn:aB Γ d = true:=by rfl) (hl:lk Γ s = some (.zy s'):=by rfl) (hl':lk Γ s' = some (.own k es):=by rfl) (hx:lk Γ t = some (.dat (.val (.int .i64 z))):=by rfl) (si:SI aD T k:=by first | exact ig | exact jh | exact gV | exact jg | exact gW | exact dS):dB aD kw X0 w0 m Γ o ((d,.qH s' i k) :: Γ) :=
 CY ho hd hdm hn si hl hl' (.t hx) hz hi
theorem Ui {t s':Nat} {z:Int} (hz:z = (i:Int)) (hi:i < es.length) (ho:o.op = .indexAddr T (.tmp s) (.tmp t):=by rfl) (hg:o.guard = none:=by rfl) (hd:o.dst = some d:=by rfl) (hdm:d < m:=by decide) (hl:lk Γ s = some (.zy s'):=by rfl) (hl':lk Γ s' = some (.own k es):=by rfl) (hx:lk Γ t = some (.dat (.val (.int .i64 z))):=by rfl) (si:SI aD T k:=by first | exact ig | exact jh | exact gV | exact jg | exact gW | exact dS) (ct:HT aD ops kw X0 w0 m (⟨[(s,.zy s'),(s',.own k es),(t,.dat (.val (.int .i64 z)))],d,.qH s' i k,false⟩ :: acc) ((d,.qH s' i k) :: Γ) l K):HT aD ops kw X0 w0 m acc Γ (o :: l) K :=
 HT.cons (h:=⟨[(s,.zy s'),(s',.own k es),(t,.dat (.val (.int .i64 z)))],d,.qH s' i k,false⟩) rfl hd (fun Γ h hn'=>(CY ho hd hdm hn' si h.1 h.2.1 (.t h.2.2.1) hz hi).g hg) ⟨hl,hl',hx,trivial⟩ ct
theorem kR {t:Nat} {z:Int} (l1 l2:List D) (he:es = l1 ++ l2) (hz:z = (l1.length:Int)) (ho:o.op = .slice T (.tmp s) none (some (.tmp t)) none:=by rfl) (hd:o.dst = some d:=by rfl) (hdm:d < m:=by decide) (hn:aB Γ d = true:=by rfl) (hl:lk Γ s = some (.dat (.list k es)):=by rfl) (hx:lk Γ t = some (.dat (.val (.int .i64 z))):=by rfl) (si:SI aD T k:=by first | exact ig | exact jh | exact gV | exact jg | exact gW | exact dS):dB aD kw X0 w0 m Γ o ((d,.dat (.list k l1)) :: Γ) :=
 Zd ho hd hdm hn si hl hx he hz
theorem fQ {t:Nat} {z:Int} (l1 l2:List D) (he:es = l1 ++ l2) (hz:z = (l1.length:Int)) (ho:o.op = .slice T (.tmp s) none (some (.tmp t)) none:=by rfl) (hg:o.guard = none:=by rfl) (hd:o.dst = some d:=by rfl) (hdm:d < m:=by decide) (hl:lk Γ s = some (.dat (.list k es)):=by rfl) (hx:lk Γ t = some (.dat (.val (.int .i64 z))):=by rfl) (si:SI aD T k:=by first | exact ig | exact jh | exact gV | exact jg | exact gW | exact dS) (ct:HT aD ops kw X0 w0 m (⟨[(s,.dat (.list k es)),(t,.dat (.val (.int .i64 z)))],d,.dat (.list k l1),false⟩ :: acc) ((d,.dat (.list k l1)) :: Γ) l K):HT aD ops kw X0 w0 m acc Γ (o :: l) K :=
 HT.cons (h:=⟨[(s,.dat (.list k es)),(t,.dat (.val (.int .i64 z)))],d,.dat (.list k l1),false⟩) rfl hd (fun Γ h hn'=>(Zd ho hd hdm hn' si h.1 h.2.1 he hz).g hg) ⟨hl,hx,trivial⟩ ct
theorem SK {t:Nat} {z:Int} (l1 l2:List D) (he:es = l1 ++ l2) (hz:z = (l1.length:Int)) (ho:o.op = .slice T (.tmp s) (some (.tmp t)) none none:=by rfl) (hd:o.dst = some d:=by rfl) (hdm:d < m:=by decide) (hn:aB Γ d = true:=by rfl) (hl:lk Γ s = some (.dat (.list k es)):=by rfl) (hx:lk Γ t = some (.dat (.val (.int .i64 z))):=by rfl) (si:SI aD T k:=by first | exact ig | exact jh | exact gV | exact jg | exact gW | exact dS):dB aD kw X0 w0 m Γ o ((d,.dat (.list k l2)) :: Γ) :=
 ZK ho hd hdm hn si hl hx he hz
theorem kz {t:Nat} {z:Int} (l1 l2:List D) (he:es = l1 ++ l2) (hz:z = (l1.length:Int)) (ho:o.op = .slice T (.tmp s) (some (.tmp t)) none none:=by rfl) (hg:o.guard = none:=by rfl) (hd:o.dst = some d:=by rfl) (hdm:d < m:=by decide) (hl:lk Γ s = some (.dat (.list k es)):=by rfl) (hx:lk Γ t = some (.dat (.val (.int .i64 z))):=by rfl) (si:SI aD T k:=by first | exact ig | exact jh | exact gV | exact jg | exact gW | exact dS) (ct:HT aD ops kw X0 w0 m (⟨[(s,.dat (.list k es)),(t,.dat (.val (.int .i64 z)))],d,.dat (.list k l2),false⟩ :: acc) ((d,.dat (.list k l2)) :: Γ) l K):HT aD ops kw X0 w0 m acc Γ (o :: l) K :=
 HT.cons (h:=⟨[(s,.dat (.list k es)),(t,.dat (.val (.int .i64 z)))],d,.dat (.list k l2),false⟩) rfl hd (fun Γ h hn'=>(ZK ho hd hdm hn' si h.1 h.2.1 he hz).g hg) ⟨hl,hx,trivial⟩ ct
theorem nH {z:D} (ho:o.op = .alloc T:=by rfl) (hd:o.dst = some d:=by rfl) (hdm:d < m:=by decide) (hn:aB Γ d = true:=by rfl) (zi:ZI aD T z:=by first | exact FW | exact GV | exact Gy | exact Fg | exact Ar) (hu:z.kJ = true:=by rfl):dB aD kw X0 w0 m Γ o ((d,.box z) :: Γ) :=
 Nw ho hd hdm hn zi fun _=>hu
theorem Aj {z:D} (ho:o.op = .alloc T:=by rfl) (hg:o.guard = none:=by rfl) (hd:o.dst = some d:=by rfl) (hdm:d < m:=by decide) (zi:ZI aD T z:=by first | exact FW | exact GV | exact Gy | exact Fg | exact Ar) (hu:z.kJ = true:=by rfl) (ct:HT aD ops kw X0 w0 m (⟨[],d,.box z,false⟩ :: acc) ((d,.box z) :: Γ) l K):HT aD ops kw X0 w0 m acc Γ (o :: l) K :=
 HT.cons (h:=⟨[],d,.box z,false⟩) rfl hd (fun Γ h hn'=>(Nw ho hd hdm hn' zi fun _=>hu).g hg) trivial ct
theorem Ii (ho:o.op = .box T (.tmp s):=by rfl) (hd:o.dst = some d:=by rfl) (hdm:d < m:=by decide) (hn:aB Γ d = true:=by rfl) (hl:lk Γ s = some (.dat e):=by rfl) (hu:e.kJ = true:=by rfl):dB aD kw X0 w0 m Γ o ((d,.box e) :: Γ) :=
 ad1 ho hd hdm hn (.t hl) fun _=>hu
theorem jM {z:D} (pi:PI aD T T k z bytes) (ho:o.op = .buildSlice T n (jk xs).toArray:=by rfl) (hd:o.dst = some d:=by rfl) (hdm:d < m:=by decide) (hn:aB Γ d = true:=by rfl) (hx:vz kw X0 w0 m Γ xs es:=by repeat (first | exact lN | refine bJ (.t rfl) ?_ | refine bJ (.c rfl) ?_ | refine bJ .fn ?_ | refine bJ (.grow rfl) ?_ | refine bJ (.oK rfl rfl) ?_ | refine bJ (jJ.nil (.c rfl)) ?_ | refine bJ (jJ.nil (.t rfl)) ?_)) (hk:∀ x∈es,x.width = k:=by intro x hx;simp at hx;rcases hx with rfl | rfl | rfl | rfl <;> rfl) (hlen:es.length = n:=by rfl) (hsm:n * k≤16777216:=by decide):dB aD kw X0 w0 m Γ o ((d,.dat (.list k es)) :: Γ):=by
 obtain ⟨e,e2,i,v,p1,p2,p3,p4,p5,p6,p7⟩:=pi.ex;exact adn ho hd hdm hn p1 p3 p4 p5 hk hlen hsm hx
theorem Nq {k2 t:Nat} {e1 e2:D} (ho:o.op = .build T #[(0,.tmp s),(1,.tmp t)]:=by rfl) (hd:o.dst = some d:=by rfl) (hdm:d < m:=by decide) (hn:aB Γ d = true:=by rfl) (hx:lk Γ s = some (.dat e1):=by rfl) (hy:lk Γ t = some (.dat e2):=by rfl) (s2:S2 aD T k1 k2:=by first | exact GH | exact CX | exact FO | exact Dk) (h1:e1.width = k1:=by rfl) (h2:e2.width = k2:=by rfl):dB aD kw X0 w0 m Γ o ((d,.dat (.agg [e1,e2])) :: Γ) :=
 Jl ho hd hdm hn s2 (.t hx) (.t hy) h1 h2
theorem aeg {k2 t:Nat} {e1 e2:D} (ho:o.op = .build T #[(0,.tmp s),(1,.tmp t)]:=by rfl) (hg:o.guard = none:=by rfl) (hd:o.dst = some d:=by rfl) (hdm:d < m:=by decide) (hx:lk Γ s = some (.dat e1):=by rfl) (hy:lk Γ t = some (.dat e2):=by rfl) (s2:S2 aD T k1 k2:=by first | exact GH | exact CX | exact FO | exact Dk) (h1:e1.width = k1:=by rfl) (h2:e2.width = k2:=by rfl) (ct:HT aD ops kw X0 w0 m (⟨[(s,.dat e1),(t,.dat e2)],d,.dat (.agg [e1,e2]),false⟩ :: acc) ((d,.dat (.agg [e1,e2])) :: Γ) l K):HT aD ops kw X0 w0 m acc Γ (o :: l) K :=
 HT.cons (h:=⟨[(s,.dat e1),(t,.dat e2)],d,.dat (.agg [e1,e2]),false⟩) rfl hd (fun Γ h hn'=>(Jl ho hd hdm hn' s2 (.t h.1) (.t h.2.1) h1 h2).g hg) ⟨hx,hy,trivial⟩ ct
theorem ag1 {k2:Nat} {e1 z1 z2:D} (ho:o.op = .build T #[(0,.tmp s)]:=by rfl) (hd:o.dst = some d:=by rfl) (hdm:d < m:=by decide) (hn:aB Γ d = true:=by rfl) (hx:lk Γ s = some (.dat e1):=by rfl) (s2:S2 aD T k1 k2:=by first | exact GH | exact CX | exact FO | exact Dk) (zi:ZI aD T (.agg [z1,z2]):=by first | exact FW | exact GV | exact Gy | exact Fg | exact Ar) (h1:e1.width = k1:=by rfl) (hz1:z1.width = k1:=by rfl):dB aD kw X0 w0 m Γ o ((d,.dat (.agg [e1,z2])) :: Γ) :=
 Vs ho hd hdm hn s2 zi (.t hx) h1 hz1
theorem agQ {k2:Nat} {z:D} (ho:o.op = .build T #[]:=by rfl) (hd:o.dst = some d:=by rfl) (hdm:d < m:=by decide) (hn:aB Γ d = true:=by rfl) (s2:S2 aD T k1 k2:=by first | exact GH | exact CX | exact FO | exact Dk) (zi:ZI aD T z:=by first | exact FW | exact GV | exact Gy | exact Fg | exact Ar) (hz:z.isAgg = true:=by rfl):dB aD kw X0 w0 m Γ o ((d,.dat z) :: Γ) :=
 Vd ho hd hdm hn s2 zi hz
theorem BV {t:Nat} {z:D} {q:Int} (pi:PI aD T T k z bytes) (hp:p = n) (hq:q = n) (hb:bytes * n≤281474976710656) (ho:o.op = .makeSlice T (.tmp s) (.tmp t):=by rfl) (hd:o.dst = some d:=by rfl) (hdm:d < m:=by decide) (hn:aB Γ d = true:=by rfl) (hx:lk Γ s = some (.dat (.val (.int .i64 p))):=by rfl) (hy:lk Γ t = some (.dat (.val (.int .i64 q))):=by rfl) (hz:z.width = k:=by rfl) (hk:0 < k:=by decide) (hu:z.kJ = true:=by rfl) (hb0:0 < bytes:=by decide):dB aD kw X0 w0 m Γ o ((d,.own k (bB n z)) :: Γ):=by
 obtain ⟨e,e2,i,v,p1,p2,p3,p4,p5,p6,p7⟩:=pi.ex;have h1:n≤bytes * n:=Nat.le_mul_of_pos_left _ hb0;exact aaz ho hd hdm hn p1 p3 p5 ⟨i,v,p3,p4,p7⟩ hz hk (fun _=>hu) (.t hx) (.t hy) hp hq (by rw [p6];exact hb) (by omega)
theorem jO {x:Operand} {e0:D} (ho:o.op = .store T (.tmp s) x:=by rfl) (hd:o.dst = none:=by rfl) (hl:lk Γ s = some (.box e0):=by rfl) (hx:jJ kw X0 w0 m Γ x e:=by first | exact .t rfl | exact .c rfl | exact .fn | exact .grow rfl | exact .oK rfl rfl | exact jJ.nil (.c rfl) | exact jJ.nil (.t rfl)) (hT:(aD.info? T).map (·.size) = some e0.width:=by kernel_rfl) (hw:e.width = e0.width:=by rfl) (hu:e.kJ = true:=by rfl):dB aD kw X0 w0 m Γ o ((s,.box e) :: Γ) :=
 Ip ho hd hT hl hx hw fun _=>hu
theorem Ul {t:Nat} {e0:D} (ho:o.op = .store T (.tmp s) (.tmp t):=by rfl) (hg:o.guard = none:=by rfl) (hd:o.dst = none:=by rfl) (hl:lk Γ s = some (.box e0):=by rfl) (hx:lk Γ t = some (.dat e):=by rfl) (hT:(aD.info? T).map (·.size) = some e0.width:=by kernel_rfl) (hw:e.width = e0.width:=by rfl) (hu:e.kJ = true:=by rfl) (ct:HT aD ops kw X0 w0 m (⟨[(s,.box e0),(t,.dat e)],s,.box e,true⟩ :: acc) ((s,.box e) :: Γ) l K):HT aD ops kw X0 w0 m acc Γ (o :: l) K :=
 HT.upd (h:=⟨[(s,.box e0),(t,.dat e)],s,.box e,true⟩) rfl (fun Γ h=>(Ip ho hd hT h.1 (.t h.2.1) hw fun _=>hu).g hg) ⟨hl,hx,trivial⟩ ct
theorem yI {s' o':Nat} {x:Operand} {e0 e1:D} (i:Nat) (ho:o.op = .store T (.tmp s) x:=by rfl) (hd:o.dst = none:=by rfl) (hl:lk Γ s = some (.sub s' o'):=by rfl) (hl':lk Γ s' = some (.box e0):=by rfl) (hx:jJ kw X0 w0 m Γ x e:=by first | exact .t rfl | exact .c rfl | exact .fn | exact .grow rfl | exact .oK rfl rfl | exact jJ.nil (.c rfl) | exact jJ.nil (.t rfl)) (hf:e0.DX i = some e1:=by rfl) (ho2:e0.uT i = o':=by rfl) (hT:(aD.info? T).map (·.size) = some e.width:=by kernel_rfl) (hw:e.width = e1.width:=by rfl) (hu:e.kJ = true:=by rfl):dB aD kw X0 w0 m Γ o ((s',.box (e0.afO i e)) :: Γ) :=
 II ho hd hT hl hl' hx (mY.DX hf ho2 hw) fun _=>hu
theorem yN {s':Nat} {x:Operand} (ho:o.op = .store T (.tmp s) x:=by rfl) (hd:o.dst = none:=by rfl) (hl:lk Γ s = some (.qH s' i k):=by rfl) (hl':lk Γ s' = some (.own k es):=by rfl) (hx:jJ kw X0 w0 m Γ x e:=by first | exact .t rfl | exact .c rfl | exact .fn | exact .grow rfl | exact .oK rfl rfl | exact jJ.nil (.c rfl) | exact jJ.nil (.t rfl)) (hT:(aD.info? T).map (·.size) = some k:=by kernel_rfl) (hw:e.width = k:=by rfl) (hu:e.kJ = true:=by rfl) (hi:i < es.length):dB aD kw X0 w0 m Γ o ((s',.own k (es.set i e)) :: Γ) :=
 VJ ho hd hT hl hl' hi hx hw fun _=>hu
theorem iI {z:D} {x:Operand} {l1 l2:List D} (pi:PI aD T T k z bytes) (ho:o.op = .call { callee:=.builtin .append,args:=#[.tmp s,x],argTypes:=#[T,T] }:=by rfl) (hd:o.dst = some d:=by rfl) (hdm:d < m:=by decide) (hn:aB Γ d = true:=by rfl) (hns:aB Γ s = true:=by rfl) (hne:d≠s:=by decide) (hl:lk Γ s = some (.grow k l1):=by rfl) (hx:jJ kw X0 w0 m Γ x (.list k l2):=by first | exact .t rfl | exact .c rfl | exact .fn | exact .grow rfl | exact .oK rfl rfl | exact jJ.nil (.c rfl) | exact jJ.nil (.t rfl)) (hz:z.width = k:=by rfl) (hk:0 < k:=by decide) (huz:z.kJ = true:=by rfl) (hb0:0 < bytes:=by decide) (hb:(l1.length + l2.length) * bytes≤140737488355328) (hu2:D.ik l2 = true):dB aD kw X0 w0 m Γ o ((d,.grow k (l1 ++ l2)) :: (s,.any) :: Γ) :=
 Vr ho hd hdm hn hns hne pi hz hk (fun _=>huz) hl hx (fun _=>hu2) hb hb0
theorem GK {z:D} {x:Operand} {l2:List D} (pi:PI aD T T k z bytes) (ho:o.op = .call { callee:=.builtin .append,args:=#[.tmp s,x],argTypes:=#[T,T] }:=by rfl) (hd:o.dst = some d:=by rfl) (hdm:d < m:=by decide) (hn:aB Γ d = true:=by rfl) (hl:lk Γ s = some .e0:=by rfl) (hx:jJ kw X0 w0 m Γ x (.list k l2):=by first | exact .t rfl | exact .c rfl | exact .fn | exact .grow rfl | exact .oK rfl rfl | exact jJ.nil (.c rfl) | exact jJ.nil (.t rfl)) (hz:z.width = k:=by rfl) (hk:0 < k:=by decide) (huz:z.kJ = true:=by rfl) (hb0:0 < bytes:=by decide) (hne:l2≠[]) (hb:l2.length * bytes≤140737488355328) (hu2:D.ik l2 = true):dB aD kw X0 w0 m Γ o ((d,.grow k l2) :: Γ) :=
 Q7 ho hd hdm hn pi hz hk (fun _=>huz) hl hx hne (fun _=>hu2) hb hb0
theorem UF {t:Nat} {z:D} (pi:PI aD T T k z bytes) (ho:o.op = .buildSlice T 1 (jk [.tmp t]).toArray:=by rfl) (hg:o.guard = none:=by rfl) (hd:o.dst = some d:=by rfl) (hdm:d < m:=by decide) (hx:lk Γ t = some (.dat e):=by rfl) (hk:e.width = k:=by rfl) (hsm:1 * k≤16777216:=by decide) (ct:HT aD ops kw X0 w0 m (⟨[(t,.dat e)],d,.dat (.list k [e]),false⟩ :: acc) ((d,.dat (.list k [e])) :: Γ) l K):HT aD ops kw X0 w0 m acc Γ (o :: l) K:=by
 obtain ⟨e',e2,i,v,p1,p2,p3,p4,p5,p6,p7⟩:=pi.ex;exact HT.cons (h:=⟨[(t,.dat e)],d,.dat (.list k [e]),false⟩) rfl hd (fun Γ h hn'=>(adn ho hd hdm hn' p1 p3 p4 p5 (fun x hx=>by rw [List.mem_singleton.1 hx];exact hk) rfl hsm (bJ (.t h.1) lN)).g hg) ⟨hx,trivial⟩ ct
theorem a_call {ts:Array TypeId} {ds:List D} {R:F} (en:EN f) (h:AC aD kw f ds R) (ho:o.op = .call { callee:=.value (.func f),args:=xs.toArray,argTypes:=ts }:=by rfl) (hd:o.dst = some d:=by rfl) (hdm:d < m:=by decide) (hn:aB Γ d = true:=by rfl) (hx:vz kw X0 w0 m Γ xs ds:=by repeat (first | exact lN | refine bJ (.t rfl) ?_ | refine bJ (.c rfl) ?_ | refine bJ .fn ?_ | refine bJ (.grow rfl) ?_ | refine bJ (.oK rfl rfl) ?_ | refine bJ (jJ.nil (.c rfl)) ?_ | refine bJ (jJ.nil (.t rfl)) ?_)) (hR:R.Zt = true:=by rfl):dB aD kw X0 w0 m Γ o ((d,R) :: Γ) :=
 qP ho hd hdm hn en hx hR h
theorem JW {ts:Array TypeId} {ds:List D} {R:F} (en:EN f) (h:AC aD kw f ds R) (ho:o.op = .call { callee:=.value (.tmp s),args:=xs.toArray,argTypes:=ts }:=by rfl) (hd:o.dst = some d:=by rfl) (hdm:d < m:=by decide) (hn:aB Γ d = true:=by rfl) (hl:lk Γ s = some (.dat (.val (.func (.func f) #[] #[]))):=by rfl) (hx:vz kw X0 w0 m Γ xs ds:=by repeat (first | exact lN | refine bJ (.t rfl) ?_ | refine bJ (.c rfl) ?_ | refine bJ .fn ?_ | refine bJ (.grow rfl) ?_ | refine bJ (.oK rfl rfl) ?_ | refine bJ (jJ.nil (.c rfl)) ?_ | refine bJ (jJ.nil (.t rfl)) ?_)) (hR:R.Zt = true:=by rfl):dB aD kw X0 w0 m Γ o ((d,R) :: Γ) :=
 L9 ho hd hdm hn hl en hx hR h
theorem ak {ts:Array TypeId} {ds:List D} {R:F} (en:EN f) (hA:AC aD kw f ds R) (ho:o.op = .call { callee:=.value (.func f),args:=xs.toArray,argTypes:=ts }:=by rfl) (hg:o.guard = none:=by rfl) (hd:o.dst = some d:=by rfl) (hdm:d < m:=by decide) (hx:Has Γ (Ku xs ds):=by repeat (first | exact UE | refine OO rfl ?_)) (hc:V9 xs ds:=by repeat (first | exact S9 | refine adC ?_ | refine ac5 ?_ | refine adp ?_)) (hR:R.Zt = true:=by rfl) (ct:HT aD ops kw X0 w0 m (⟨Ku xs ds,d,R,false⟩ :: acc) ((d,R) :: Γ) l K):HT aD ops kw X0 w0 m acc Γ (o :: l) K :=
 HT.cons (h:=⟨Ku xs ds,d,R,false⟩) rfl hd (fun Γ h hn'=>(qP ho hd hdm hn' en (Aa hc h) hR hA).g hg) hx ct
end
noncomputable def enb (f:FuncId):Bool:=match aD.funcs[f]? with
 | some fn => !(fn.name == "runtime.NumGoroutine") && fn.body.isSome
 | none=>false
theorem eN (h:enb f = true:=by kernel_rfl):EN f:=by
 unfold enb at h
 split at h
 · rename_i fn hf;rw [bw] at h;obtain ⟨c,hc⟩:=Option.isSome_iff_exists.1 h.2;exact enters_of hf (by simpa using h.1) hc
 · cases h
attribute [local go_sem ↓] Go.wp_at_zero Go.wp_at_succ
theorem Xd (neg:Bool) (A:Option Addr) (n c:Nat) (l:List Nat) (w:World) (hn:n≤4398046511104) (h:bf w A n c l) (ht:jF l) :
 Calls aD 175 #[.bool neg,.slice A n c] w fun e w'=>e = .returned (.agg #[.bool (neg && decide (0 < n)),.slice A n c])∧Below w.heap.size w w':=by
 have:=zx neg A n c l w hn h;rwa [show dO l = n from ht.trans h.len] at this
variable {cs:List (Array Value × TypeId)} {z:Int}
theorem Ye {w W:World} (F:FR w W cs) (i:Nat) {p:Bool} {X:Option Addr} {l:Nat} {t:TypeId} (hi:cs[i]? = some (#[.bool p,.slice X k l],t)) {s:Bool} {C:Option Addr} {c:Nat} (h:IV W (.agg #[.bool s,.slice C n c]) z) {b:Nat} (hb:b = w.heap.size + i) :
 Gp w (fun w' v=>IV w' v z) (.returned (.agg #[.bool s,.slice C n c])) ((W.setCell ⟨b,0,none⟩ (.bool s)).setCell ⟨b,1,none⟩ (.slice C n c)) ∧
 ((W.setCell ⟨b,0,none⟩ (.bool s)).setCell ⟨b,1,none⟩ (.slice C n c)).cell? ⟨b,0,none⟩ = some (.bool s)∧((W.setCell ⟨b,0,none⟩ (.bool s)).setCell ⟨b,1,none⟩ (.slice C n c)).cell? ⟨b,1,none⟩ = some (.slice C n c):=by
 have F1:=F.put i hi 0 (.bool s) hb;have hl:i < cs.length:=(aM.1 hi).1;have h1:(cs.set i (#[.bool p,.slice X k l].setIfInBounds 0 (.bool s),t))[i]? = some (#[.bool s,.slice X k l],t):=by rw [fw hl];rfl
 have F2:=F1.put i h1 1 (.slice C n c) hb;have k1:=(F.ku i hi 0 (y:=.bool p) rfl (fun _ e=>by cases e) (.bool s) hb).trans (F1.ku i h1 1 (y:=.slice X k l) rfl (fun _ e=>by cases e) (.slice C n c) hb);have x:=Jf (u:=.bool s) (v:=.slice C n c) ((F.x i hi hb).1 0) ((F.x i hi hb).1 1);exact ⟨⟨F2.below,_,rfl,h.u k1⟩,x⟩
theorem FR.aiV {w W:World} (F:FR w W cs) (i:Nat) {p:Bool} {X:Option Addr} {l:Nat} {t:TypeId} (hi:cs[i]? = some (#[.bool p,.slice X k l],t)) (s:Bool) (C:Option Addr) (n c:Nat) {b:Nat} (hb:b = w.heap.size + i) :
 FR w ((W.setCell ⟨b,0,none⟩ (.bool s)).setCell ⟨b,1,none⟩ (.slice C n c)) (cs.set i (#[.bool s,.slice C n c],t))∧kE W ((W.setCell ⟨b,0,none⟩ (.bool s)).setCell ⟨b,1,none⟩ (.slice C n c)):=by
 have F1:=F.put i hi 0 (.bool s) hb;have hl:i < cs.length:=(aM.1 hi).1;have h1:(cs.set i (#[.bool p,.slice X k l].setIfInBounds 0 (.bool s),t))[i]? = some (#[.bool s,.slice X k l],t):=by rw [fw hl];rfl
 have F2:=F1.put i h1 1 (.slice C n c) hb;rw [List.set_set] at F2;exact ⟨F2,(F.ku i hi 0 (y:=.bool p) rfl (fun _ e=>by cases e) (.bool s) hb).trans (F1.ku i h1 1 (y:=.slice X k l) rfl (fun _ e=>by cases e) (.slice C n c) hb)⟩
theorem ae4 {x:Int} (hn:n = wl x.natAbs):(decide (x < 0) && decide (0 < n)) = decide (x < 0):=by
 by_cases h:x < 0
 · have:0 < n:=by rw [hn];unfold wl;rw [if_neg (by omega)];omega
   simp [h,this]
 · simp [h]
theorem adZ (v:Value) (x:Int) (w:World) (h:IV w v x) (hl:wl x.natAbs≤4398046511104):Calls aD 211 #[v] w fun e w'=>e = .returned v∧Below w.heap.size w w':=by
 obtain ⟨A,n,c,l,rfl,hm,ht,hv,hn⟩:=h.num;have:=Xc (decide (x < 0)) A n c l w (by omega) hm;rw [ht.tl hm,ae4 hn] at this;exact this
theorem JX (s:Bool) (v:Value) (x:Nat) (w:World) (h:MV w v x) (hl:wl x≤4398046511104):Calls aD 175 #[.bool s,v] w (Gp w fun w' r=>IV w' r (if s then -(x:Int) else x)):=by
 obtain ⟨A,n,c,l,rfl,hm,ht,hv⟩:=h;have hn:=ht.lY hm;refine (Xd s A n c l w (by rw [hn,hv];exact hl) hm ht).mono ?_;rintro e w' ⟨rfl,hb⟩;refine ⟨hb,_,rfl,A,n,c,l,?_,hm.u (kE.of hb (bR _)),ht,by rw [hv];split <;> omega⟩;congr 2;cases s
 · simp
 ·
  have e:decide (0 < n) = decide (0 < x):=by
   refine decide_eq_decide.2 ?_;rw [hn,hv];unfold wl
   by_cases h0:x = 0
   · simp [h0]
   · rw [if_neg h0];omega
  rw [Bool.true_and,e];simp only [if_true];have e2:decide (0 < x) = decide (-(x:Int) < 0):=decide_eq_decide.2 (by omega);rw [e2]
theorem abY (v u:Value) (x y:Nat) (w:World) (hx:MV w v x) (hy:MV w u y) (hle:y≤x) (hl:wl x≤4398046511104):Calls aD 216 #[v,u] w (Gp w fun w' r=>MV w' r (x - y)):=by
 obtain ⟨A,n,c,a,rfl,ha,ta,va⟩:=hx;obtain ⟨B,m,d,b,rfl,hb,tb,vb⟩:=hy;have hn:=ta.lY ha;have hm:=tb.lY hb;have:=iF hle;refine (xR A B n c m d a b w (by rw [hn,va];exact hl) (by rw [hm,vb];omega) ha hb tb (by rw [va,vb];exact hle)).mono ?_;rintro e w' ⟨⟨h1,C,k,c',q,h2,h3,h4,h5,h6⟩,-⟩;exact ⟨h1,_,h2,C,k,c',q,rfl,h3.mag h4,h5,by rw [h6,va,vb]⟩
theorem Ux (v u:Value) (x y:Nat) (w:World) (hx:MV w v x) (hy:MV w u y) (hl:wl x≤2199023255552) (hl':wl y≤2199023255552):Calls aD 217 #[v,u] w (Gp w fun w' r=>MV w' r (x * y)):=by
 obtain ⟨A,n,c,a,rfl,ha,ta,va⟩:=hx;obtain ⟨B,m,d,b,rfl,hb,tb,vb⟩:=hy;have hn:=ta.lY ha;have hm:=tb.lY hb;refine (times_any A B n c m d a b w (by rw [hn,va];exact hl) (by rw [hm,vb];exact hl') ha hb).mono ?_;rintro e w' ⟨⟨h1,C,k,c',q,h2,h3,h4,h5,h6⟩,-⟩;exact ⟨h1,_,h2,C,k,c',q,rfl,h3.mag h4,h5,by rw [h6,va,vb]⟩
theorem BH {qa aa ba P cy x y v cy':Nat} (h:qa + cy * P = aa + ba) (hv:cy + x + y = v + 4294967296 * cy'):(qa + P * v) + cy' * (P * 4294967296) = (aa + P * x) + (ba + P * y):=by
 have e1:cy' * (P * 4294967296) = P * (4294967296 * cy'):=by rw [eC cy',Nat.mul_assoc,eC 4294967296]
 have e2:P * (cy + x + y) = P * v + P * (4294967296 * cy'):=by rw [hv,fT]
 have e3:P * (cy + x + y) = cy * P + P * x + P * y:=by rw [fT,fT,eC P cy]
 omega
theorem Rx (A B:Option Addr) (n c m d:Nat) (a b:List Nat) (w:World) (hn:n≤2199023255552) (hmn:m≤n) (ha:bf w A n c a) (hb:bf w B m d b) (A0 B0:Option Addr) (n0 c0 m0 d0:Nat) (hsw:(A = A0∧n = n0∧c = c0∧B = B0∧m = m0∧d = d0)∨(m < n∧B = A0∧m = n0∧d = c0∧A = B0∧n = m0∧c = d0)) :
 Calls aD 214 #[.slice A0 n0 c0,.slice B0 m0 d0] w (Gp w fun w' r=>MV w' r (nv a + nv b)):=by
 have H1:=aE ha.1;have H2:=aE hb.1;have UA:=aE ha.2.2;have UB:=aE hb.2.2;have LA:=aE ha.len;have LB:=aE hb.len;clear ha hb;have hmk:=run_make_row' (P:=aD) 68 76 (.int .u32 0) 4 Tryz.underlying68 fJ rfl .i64 .i64 (n + 1) (by omega) (by omega);simp only [show ((n + 1:Nat):Int) = (n:Int) + 1 from rfl] at hmk;have M0:Hid (Own (w.alloc (.cells (madeCells #[.int .u32 0] (n + 1)) 76)) w.heap.size 76 1 (some ⟨w.heap.size,0,none⟩) (n + 1) (n + 1) (us (bB (n + 1) 0))):=aE (iw rfl (n + 1) (by unfold maxLen;omega) (bR _));rcases hsw with ⟨rfl,rfl,rfl,rfl,rfl,rfl⟩ | ⟨hlt,rfl,rfl,rfl,rfl,rfl,rfl⟩;have hc:¬ (n:Int) < (m:Int):=by omega
 rotate_left
 have hc:(m:Int) < (n:Int):=by omega
 all_goals
  go_enter Tryz.func214,Tryz.ntmps214
  go_wp2_with fail
  go_loopg [6,7] n (fun g cv iv wr=>∃ (k cy:Nat) (q:List Nat),k≤n∧n - k≤g∧iv = .int .i64 (k:Int)∧cv = .int .u64 (cy:Int)∧cy≤1∧dY q∧Own wr w.heap.size 76 1 (some ⟨w.heap.size,0,none⟩) (n + 1) (n + 1) (us q)∧nv (q.take k) + cy * 4294967296 ^ k = nv (a.take k) + nv (b.take k)∧Below w.heap.size w wr)
  case atStart=>exact ⟨0,0,_,Nat.zero_le _,by omega,rfl,rfl,by omega,dY.zero _,M0.out,by simp [nv],(Below.refl _ _).alloc (bR _) _⟩
  case round =>
   clear M0;obtain ⟨k,cy,q,hk,hg,rfl,rfl,hcy,hq,ho,hval,hb⟩:=hrel;have HB:=aE hb;have HO:=aE ho;have HQ:=aE hq;have HV:=aE hval;have LQ:=aE ho.jZ;have kr:=bg.of_below hb (bR _);clear hb ho hq hval
   by_cases hkn:k < n
   ·
    obtain ⟨ad,hA,-,ca⟩:=(H1.out.keep kr).fG hkn;subst hA;have hx:=UA.out.at k;have hy:=UB.out.at k;have cq:=HO.out.gB (j:=k) (by omega);have fq:wr.frozen? ⟨w.heap.size,k,none⟩ = false:=HO.out.frozen k;have ST:Hid (∀ y,b.getD k 0 = y→∀ cy' v,cy + a.getD k 0 + y = v + 4294967296 * cy'→nv ((q.set k v).take (k + 1)) + cy' * 4294967296 ^ (k + 1) = nv (a.take (k + 1)) + nv (b.take (k + 1))):=aE fun y hy cy' v hv=>by
     rw [jP (by rw [LQ.out];omega),bC a,bC b,hy,Nat.pow_succ];exact BH HV.out hv
    generalize a.getD k 0 = x at *
    by_cases hkm:k < m
    · obtain ⟨ae,hE,-,cb⟩:=(H2.out.keep kr).fG hkm;subst hE;have S5:=aE (ST.out _ rfl ((cy + x + b.getD k 0) / 4294967296) ((cy + x + b.getD k 0) % 4294967296) (by omega));generalize b.getD k 0 = y at *;have S2:=HO.out.eH k ((cy + x + y) % 4294967296);have e3:(((cy + x + y) % 4294967296:Nat):Int) = ((cy:Int) + (x:Int) + (y:Int)) % 4294967296:=by omega
      rw [e3] at S2;have S2:=aE S2;have S3:Hid (dY (q.set k ((cy + x + y) % 4294967296))):=aE (HQ.out.set _ (by omega));have E4:Hid ((((cy + x + y) / 4294967296:Nat):Int) = ((cy:Int) + (x:Int) + (y:Int)) / 4294967296):=aE (by omega);clear e3 kr ST
      go_wp2_with fail
      go_roundg (n - (k + 1))
      case measure=>omega
      case rel=>exact ⟨k + 1,(cy + x + y) / 4294967296,_,by omega,bR _,by go_num,by rw [E4.out],by omega,S3.out,S2.out,S5.out,HB.out.setCell (by simp) _⟩
    · have hb0:b.getD k 0 = 0:=by rw [List.getD_eq_getElem?_getD,cg (by rw [LB.out];omega)];rfl
      have S5:=aE (ST.out 0 hb0 ((cy + x) / 4294967296) ((cy + x) % 4294967296) (by omega));have S2:=HO.out.eH k ((cy + x) % 4294967296);have e3:(((cy + x) % 4294967296:Nat):Int) = ((cy:Int) + (x:Int)) % 4294967296:=by omega
      rw [e3] at S2;have S2:=aE S2;have S3:Hid (dY (q.set k ((cy + x) % 4294967296))):=aE (HQ.out.set _ (by omega));have E4:Hid ((((cy + x) / 4294967296:Nat):Int) = ((cy:Int) + (x:Int)) / 4294967296):=aE (by omega);clear e3 kr ST hb0
      go_wp2_with fail
      go_roundg (n - (k + 1))
      case measure=>omega
      case rel=>exact ⟨k + 1,(cy + x) / 4294967296,_,by omega,bR _,by go_num,by rw [E4.out],by omega,S3.out,S2.out,S5.out,HB.out.setCell (by simp) _⟩
   ·
    obtain rfl:k = n:=by omega
    have cq:=HO.out.gB (j:=k) (by omega);have fq:wr.frozen? ⟨w.heap.size,k,none⟩ = false:=HO.out.frozen k;have S2:=aE (HO.out.eH k cy);have S3:Hid (dY (q.set k cy)):=aE (HQ.out.set _ (by omega));have HB2:=aE (HB.out.setCell (p:=⟨w.heap.size,k,none⟩) (bR _) (.int .u32 (cy:Int)));have TL:Hid (nv (q.set k cy) = nv a + nv b):=aE (by
     have h1:=jP (l:=q) (k:=k) (x:=cy) (by rw [LQ.out];omega);rw [aR (by rw [eh,LQ.out];exact bR _)] at h1;have h2:=HV.out;rw [aR (l:=a) (by rw [LA.out];exact bR _),aR (l:=b) (by rw [LB.out];omega),eC] at h2;omega)
    clear kr
    go_wp2_with fail
    generalize hw6:wr.setCell ⟨w.heap.size,k,none⟩ (.int .u32 (cy:Int)) = w6 at *;have cT:=iQ _ (k + 1) (k + 1) _ w6 (by omega) (S2.out.mag S3.out);clear hw6;refine Calls.mono cT ?_;rintro _ _ ⟨rfl,rfl⟩
    go_wp2_with fail
    go_ret
    exact ⟨HB2.out,_,rfl,_,_,_,_,rfl,(S2.out.mag S3.out).trim,dK _,by rw [dP,TL.out]⟩
theorem afT (v u:Value) (x y:Nat) (w:World) (hx:MV w v x) (hy:MV w u y) (hl:wl x≤2199023255552) (hl':wl y≤2199023255552):Calls aD 214 #[v,u] w (Gp w fun w' r=>MV w' r (x + y)):=by
 obtain ⟨A,n,c,a,rfl,ha,ta,va⟩:=hx;obtain ⟨B,m,d,b,rfl,hb,tb,vb⟩:=hy;have hn:=ta.lY ha;have hm:=tb.lY hb;rw [va] at hn;rw [vb] at hm;rw [← va,← vb];rcases cG n m with h | h
 · rw [Nat.add_comm];exact Rx B A m d n c b a w (by omega) (by omega) hb ha A B n c m d (.inr ⟨h,rfl,rfl,rfl,rfl,rfl,rfl⟩)
 · exact Rx A B n c m d a b w (by omega) h ha hb A B n c m d (.inl ⟨rfl,rfl,rfl,rfl,rfl,rfl⟩)
section
variable {P:Program} {x y:Int}
theorem AC.eq {kw:Bool} {ds:List D} {R R':F} (h:AC P kw f ds R) (e:R = R'):AC P kw f ds R':=e ▸ h
end
section
variable {P:Program} {ops:Array Oper} {kw:Bool} {X0:XS} {w0:World} {m:Nat} {Γ':fA} {a:Act} {W W':World} {X:XS} {Ow:Nat→Option Nat} {o:Oper} {d:Nat} {Q:Exit→Act→World→Prop}
theorem FSq.Hg {l:List D} (h:FSq kw X0 w0 m Γ a W) (hl:lk Γ s = some (.own k l)) (hn:aB Γ s = true):FSq kw X0 w0 m ((s,.grow k l) :: Γ) a W:=by
 obtain ⟨X,Ow,hx⟩:=h.x;have hf:=hx.facts s _ hl;unfold ah at hf;obtain ⟨b,c,es,t,g1,g2,g3,g4,g5,g6,g7,g8,g9⟩:=hf
 let X1:XS:=fun b' o=>X b' o∧(b'≠b∨l.length * k≤o)
 have tr:Tr kw X X1 W W:=⟨fun _=>kE.refl _,fun b' o v hx' hc=>⟨fun h=>hx' h.1,hc⟩⟩;obtain ⟨r1,r2⟩:=hx.env.wS s b g1;refine lG.fs (X:=X1) (Ow:=Ow) (hx.re (fun u=>u = s) hx.size hx.defs hx.below ⟨fun b' o h=>⟨hx.env.sub b' o h,.inl fun e=>?_⟩,fun b' o h=>hx.env.sup b' o h.1,hx.env.inj,hx.env.wS⟩ tr (fun _ _=>rfl) (fun u b' hu hb'=>⟨hb',rfl,fun o=>⟨fun h=>h.1,fun h=>⟨h,.inl fun e=>hu (hx.env.inj u s b (by rw [hb',e]) g1)⟩⟩⟩) (fun u hu=>by rw [hu];exact hn) fun u g hg=>?_)
 · have:=hx.x0 b' o h;omega
 ·
  unfold lk at hg
  split at hg
  · rename_i es';injection hg with hg
    rw [← hg,← es'];refine .inr ?_;unfold ah;refine ⟨g4,.inr ⟨b,c,es,t,g1,g2,g3,g5,g6,aF.tr tr _ _ g7,g8,fun o=>⟨fun h=>h.2.elim (fun e=>absurd rfl e) id,fun h=>⟨g9 o,.inr h⟩⟩⟩⟩
  · rename_i es';exact .inl ⟨fun e=>es' e.symm,hg⟩
theorem fK.fs {l:List Oper} (h:fK P ops kw X0 w0 m Γ' l Q) (hs:∀ a W,FSq kw X0 w0 m Γ a W→FSq kw X0 w0 m Γ' a W):fK P ops kw X0 w0 m Γ l Q:=fun a W hf=>h a W (hs a W hf)
theorem NT.fs (h:NT kw X0 w0 m Γ' Q) (hs:∀ a W,FSq kw X0 w0 m Γ a W→FSq kw X0 w0 m Γ' a W):NT kw X0 w0 m Γ Q:=fun a W hf=>h a W (hs a W hf)
theorem RT.fs (h:RT kw X0 w0 m Γ' Q) (hs:∀ a W,FSq kw X0 w0 m Γ a W→FSq kw X0 w0 m Γ' a W):RT kw X0 w0 m Γ Q:=fun a W hf=>h a W (hs a W hf)
theorem rt_eq {fn:Func} {R R':F} (h:RT kw X0 w0 m Γ (RQ P kw X0 w0 fn R)) (e:R = R'):RT kw X0 w0 m Γ (RQ P kw X0 w0 fn R'):=e ▸ h
theorem acu {fn:Func} {t:Nat} {l:List D} (hr:fn.results = #[.tmp t]) (hl:lk Γ t = some (.own k l)):RT kw X0 w0 m Γ (RQ P kw X0 w0 fn (.own k l)):=fun a W hs=>by
 obtain ⟨X,Ow,hx⟩:=hs.x;refine ⟨hx.defs,a.eval (.tmp t),by simp [results,hr,eB],hx.below,_,rfl,?_⟩;have h:=hx.facts t _ hl;unfold ah at h;obtain ⟨b,c,es,ty,g1,g2,g3,g4,g5,g6,g7,g8,g9⟩:=h;obtain ⟨r1,r2⟩:=hx.env.wS t b g1;refine ⟨fun b' o=>b' = b∧X b' o,some b,fun b' o h=>by rw [h.1];exact ⟨r1,r2⟩,fun b' h=>by injection h with h;rw [← h];exact ⟨r1,r2⟩,?_⟩;unfold ah;refine ⟨b,c,es,ty,by simp,g2,g3,g4,g5,g6,aF.tr (Tr.chg fun b' o _ h=>?_) _ _ g7,g8,fun o=>.inr ⟨rfl,g9 o⟩⟩;rcases h with h | h
 · exact hx.env.sub b' o h
 · exact h.2
theorem PV {fn:Func} {t:Nat} {l:List D} (hr:fn.results = #[.tmp t]) (hl:lk Γ t = some (.own k l)) (hn:aB Γ t = true):RT kw X0 w0 m Γ (RQ P kw X0 w0 fn (.grow k l)) :=
 (GX hr (by simp [lk])).fs fun a W h=>h.Hg hl hn
theorem AC.gd {ds:List D} {l:List D} (h:AC P kw f ds (.grow k l)):AC P kw f ds (.dat (.list k l)):=fun X w vs hx hr=>by
 refine (h X w vs hx hr).mono ?_;rintro en w' ⟨h1,v,h2,S,ob,hS,hb,hf⟩;refine ⟨h1,v,h2,KX.dat.2 ?_⟩;unfold ah at hf;obtain ⟨h0,hf⟩:=hf;have tr:Tr kw (fun b o=>X b o∨S b o) X w' w':=⟨fun _=>kE.refl _,fun b o v hx hc=>⟨fun h=>hx (.inl h),hc⟩⟩;rcases hf with ⟨g1,g2⟩ | ⟨b,c,es,t,g1,g2,g3,g5,g6,g7,g8,g9⟩
 · subst g2;rw [g1];exact dI (l:=[]) (by simp) (by simp) (fun h=>absurd rfl h)
 ·
  rw [g2];refine dI g3 h0 fun _=>⟨b,0,es.take (l.length * k),rfl,?_,fun j v hj=>⟨fun h=>?_,?_⟩,aF.tr tr _ _ g7⟩
  · rw [av,g6];exact da (aL k g3)
  · have h1:=(g9 (0 + j)).1 (.inl h);have h2:j < (es.take (l.length * k)).length:=by
     rcases cG j (es.take (l.length * k)).length with h | h
     · exact h
     · rw [cg h] at hj;cases hj
    rw [av] at h2;omega
  · rw [aq,bW g5];rw [bA] at hj
    split at hj
    · exact hj
    · cases hj
theorem AC.og {ds:List D} {l:List D} (h:AC P kw f ds (.own k l)):AC P kw f ds (.grow k l):=fun X w vs hx hr=>by
 refine (h X w vs hx hr).mono ?_;rintro en w' ⟨h1,v,h2,S,ob,hS,hb,hf⟩;unfold ah at hf;obtain ⟨b,c,es,t,g1,g2,g3,g4,g5,g6,g7,g8,g9⟩:=hf;simp only [if_true] at g1;refine ⟨h1,v,h2,fun b' o=>S b' o∧(b'≠b∨l.length * k≤o),ob,fun b' o h=>hS b' o h.1,hb,?_⟩;have tr:Tr kw (fun b o=>X b o∨S b o) (fun b' o=>X b' o∨S b' o∧(b'≠b∨l.length * k≤o)) w' w':=⟨fun _=>kE.refl _,fun b o v hx hc=>⟨fun h=>hx (h.imp id And.left),hc⟩⟩;unfold ah;refine ⟨g4,.inr ⟨b,c,es,t,by simp [g1],g2,g3,g5,g6,aF.tr tr _ _ g7,g8,fun o=>⟨fun h=>?_,fun h=>?_⟩⟩⟩
 · rcases h with h | h
   · have:=hx b o h;have:=hb b g1;omega
   · exact h.2.elim (fun e=>absurd rfl e) id
 · rcases g9 o with h' | h'
   · exact .inl h'
   · exact .inr ⟨h',.inr h⟩
theorem ae2 {e:Nat} {i:TypeInfo} {z:Value} {l:List D} (hF:lG kw X0 w0 m Γ a W X Ow) (hT:P.underlying T = some (.slice e)) (hi:P.info? e = some i) (hz:i.zero = some z) (hsz:i.size = k) (hk:∀ x∈l,x.width = k) (hlen:l.length = n) (hsm:n * k≤16777216) (hx:vz kw X0 w0 m Γ xs l):∃ cs,aF kw X W l cs∧(cw T n ((jk xs).toArray.map fun (i,x)=>(i,a.eval x))).run P W = .ok (.slice (some ⟨W.heap.size,0,none⟩) n n) (W.alloc (.cells cs.toArray e)):=by
 have hr:=hx.V6 hF;obtain ⟨f1,f2,f3⟩:=hr.flat hk;refine ⟨_,f1,?_⟩;subst hsz hlen;have hparts:((jk xs).toArray.map fun (p:Nat × Operand)=>(p.1,a.eval p.2)).toList = ((xs.map a.eval).zipIdx 0).map fun p=>(p.2,p.1):=by
  simp [jk,gh,fN]
 have hf:∀ zs:List Value,zs.length = l.length * i.size→br (fun j=>some (j * i.size,i.size)) zs.toArray (((jk xs).toArray.map fun (p:Nat × Operand)=>(p.1,a.eval p.2)).toList) = some ((xs.map a.eval).flatMap fun v=>v.cells.toList).toArray:=fun zs hzs=>by
  rw [hparts];have:=Gn (k:=i.size) (xs.map a.eval) 0 [] zs f2 (by simp) (by rw [hzs,f3]);simpa using this
 have hsm':¬ (16777216 < l.length * i.size):=by omega
 by_cases h0:l.length * i.size = 0
 · have:=hf [] (by simp [h0]);have e1:(eJ (l.length * i.size)).map ((#[]:Array Value)[· % (#[]:Array Value).size]!) = #[]:=by rw [h0];simp
   simp [cw,run_underlying hT,sizeOf,typeInfo,hi,hsm',h0,newRow,eA] at this ⊢;rw [this];simp
 · have:=hf ((eJ (l.length * i.size)).map (z.cells[· % z.cells.size]!)).toList (by simp);simp only [fR] at this;simp [cw,run_underlying hT,sizeOf,typeInfo,zeroValue,hi,hz,hsm',h0,newRow] at this ⊢;rw [this];simp
theorem aeF {e:Nat} {i:TypeInfo} {z:Value} {l:List D} (ho:o.op = .buildSlice T n (jk xs).toArray) (hd:o.dst = some d) (hdm:d < m) (hn:aB Γ d = true) (hT:P.underlying T = some (.slice e)) (hi:P.info? e = some i) (hz:i.zero = some z) (hsz:i.size = k) (hk:∀ x∈l,x.width = k) (hlen:l.length = n) (hsm:n * k≤16777216) (hu:kw = true→D.ik l = true) (hx:vz kw X0 w0 m Γ xs l):dB P kw X0 w0 m Γ o ((d,.own k l) :: Γ):=by
 intro a W hs;obtain ⟨X,Ow,hF⟩:=hs.x;obtain ⟨cs,h1,h2⟩:=ae2 hF hT hi hz hsz hk hlen hsm hx;have hr:(execOp a.eval o).run P W = .ok (.value (.slice (some ⟨W.heap.size,0,none⟩) n n)) (W.alloc (.cells cs.toArray e)):=by
  simp only [execOp,ho,h2,bc,ao,a8]
 unfold oC;rw [hr,hd];have hb:=Below.alloc1 W (.cells cs.toArray e);refine (hF.fresh hdm hn hb (by simp) (fun _=>True) ?_).fs;subst hlen;have hcl:cs.length = l.length * k:=by rw [h1.len,D.dF hk]
 unfold ah;refine ⟨W.heap.size,l.length,cs,e,by simp,iR hF.size hdm,bR _,hk,alloc_at _ _,hcl,?_,fun e=>aF.kJ _ _ h1 (hu e),fun o=>.inr ⟨rfl,trivial⟩⟩;rw [aR (by omega)];have t1:Tr kw X (fun b o=>X b o∨(b = W.heap.size∧True)) W (W.alloc (.cells cs.toArray e)):=⟨(Tr.of_below (kw:=kw) (X:=X) hb).ku,fun b o v hx hc=>⟨fun hx'=>by
  rcases hx' with hx' | ⟨e,_⟩
  · exact hx hx'
  · have:=bL W _ hc;simp only [e] at this;omega,((Tr.of_below (kw:=kw) (X:=X) hb).keep b o v hx hc).2⟩⟩
 exact aF.tr t1 _ _ h1
theorem lG.ad9 {f:F} (h:lG kw X0 w0 m Γ a W X Ow) (hf:ah kw X W Ow (bY a) s f):lG kw X0 w0 m ((s,f) :: Γ) a W X Ow :=
 ⟨h.size,h.defs,h.below,h.x0,h.env,fun t g ht=>by
  unfold lk at ht
  split at ht
  · rename_i es;injection ht with ht;rw [← ht,← es];exact hf
  · exact h.facts t g ht⟩
theorem wM {l:List D} {ob:Option Nat} (h0:∀ d∈l,d.width = k) (h:(v = .slice none 0 0∧l = [])∨∃ b c es t,ob = some b∧v = .slice (some ⟨b,0,none⟩) l.length c∧l.length≤c∧W.heap[b]? = some (.cells es.toArray t (0,0))∧es.length = c * k∧aF kw X W l (es.take (l.length * k))∧Qs kw es∧∀ o,X b o↔l.length * k≤o):Rep kw X W v (.list k l):=by
 rcases h with ⟨g1,g2⟩ | ⟨b,c,es,t,g1,g2,g3,g5,g6,g7,g8,g9⟩
 · subst g2;rw [g1];exact dI (l:=[]) (by simp) (by simp) (fun h=>absurd rfl h)
 ·
  rw [g2];refine dI g3 h0 fun _=>⟨b,0,es.take (l.length * k),rfl,?_,fun j v hj=>⟨fun h=>?_,?_⟩,g7⟩
  · rw [av,g6];exact da (aL k g3)
  · have h1:=(g9 (0 + j)).1 h;have h2:j < (es.take (l.length * k)).length:=by
     rcases cG j (es.take (l.length * k)).length with h | h
     · exact h
     · rw [cg h] at hj;cases hj
    rw [av] at h2;omega
  · rw [aq,bW g5];rw [bA] at hj
    split at hj
    · exact hj
    · cases hj
theorem acO {l ds:List D} (ho:o.op = .extract (.tmp s) 0) (hd:o.dst = some d) (hdm:d < m) (hn:aB Γ d = true) (hns:aB Γ s = true) (hne:d≠s) (hl:lk Γ s = some (.qE k l ds)):dB P kw X0 w0 m Γ o ((s,.bT (.list k l :: ds)) :: (d,.grow k l) :: (s,.any) :: Γ):=by
 intro a W hs;obtain ⟨X,Ow,hx⟩:=hs.x;have hf:=hx.facts s _ hl;unfold ah at hf;obtain ⟨v,vs,e1,e2,h0,h⟩:=hf;have e1':a.eval (.tmp s) = .tuple (v :: vs).toArray:=e1;have hr:(execOp a.eval o).run P W = .ok (.value v) W:=by
  simp [execOp,ho,e1',Instr.extract]
 unfold oC;rw [hr,hd];have ev:bY (a.put (some d) v) d = v:=iR hx.size hdm;have es:bY (a.put (some d) v) s = bY a s:=eval_put_ne hne;refine lG.fs (lG.ad9 (hx.hand0 hdm hn (fun t g h _=>nI hns h) hne (f':=.grow k l) (v0:=v) ?_) ?_)
 · unfold ah;rw [ev];refine ⟨h0,?_⟩;rcases h with g | ⟨b,c,es,ty,g1,g2⟩
   · exact .inl g
   · exact .inr ⟨b,c,es,ty,by rw [if_pos rfl];exact g1,g2⟩
 · unfold ah;rw [es];exact ⟨_,e1,wM h0 h,e2⟩
def afb (Γ:fA) (d s:Nat):Bool:=Γ.all fun p=>p.1 == d || !p.2.refs s
theorem Xl:∀ {Γ:fA} {t:Nat} {g:F},lk Γ t = some g→(t,g)∈Γ
 | [],_,_,h=>by cases h
 | (u,f) :: Γ,t,g,h=>by
  unfold lk at h
  split at h
  · rename_i e;injection h with h;rw [← h,e];exact dy ..
  · exact du _ (Xl h)
theorem FSq.take {l:List D} (h:FSq kw X0 w0 m Γ a W) (h1:lk Γ d = some (.zy s)) (h2:lk Γ s = some (.grow k l)) (hdm:d < m) (hn:aB Γ d = true) (hns:afb Γ d s = true) (hne:d≠s):FSq kw X0 w0 m ((d,.grow k l) :: (s,.any) :: Γ) a W:=by
 obtain ⟨X,Ow,hx⟩:=h.x;have e:=hx.facts d _ h1;have hF:=hx.facts s _ h2;unfold ah at e;have et:bY (a.put (some d) (a.eval (.tmp d))) = bY a:=by
  funext t
  by_cases ht:d = t
  · subst ht;exact iR hx.size hdm
  · exact eval_put_ne ht
 have hx2:=hx.hand0 (f':=.grow k l) (v0:=a.eval (.tmp d)) hdm hn (fun t g ht hd=>by
  have:=bX.1 hns (t,g) (Xl ht);simpa [hd] using this) hne (by
   unfold ah at hF ⊢;rw [et,e];refine ⟨hF.1,?_⟩;rcases hF.2 with g | ⟨b,c,es,ty,g1,g2⟩
   · exact .inl g
   · exact .inr ⟨b,c,es,ty,by rw [if_pos rfl];exact g1,g2⟩)
 exact lG.fs ⟨hx.size,hx.defs,hx2.below,hx2.x0,hx2.env,fun t f ht=>by rw [← et];exact hx2.facts t f ht⟩
theorem Qe {fn:Func} {t:Nat} {r':ResultVar} {l:List D} {e':D} (hr:fn.results = #[.tmp t,r']) (hl:lk Γ t = some (.grow k l)) (h':MN P kw X0 w0 m Γ r' e'):RT kw X0 w0 m Γ (RQ P kw X0 w0 fn (.qE k l [e'])):=fun a W hs=>by
 obtain ⟨X,Ow,hx⟩:=hs.x;obtain ⟨v',h1',h2'⟩:=h' a W X Ow hx;have h1:∃ v,v = a.eval (.tmp t):=⟨_,rfl⟩;refine ⟨hx.defs,.tuple #[a.eval (.tmp t),v'],?_,hx.below,_,rfl,?_⟩
 · unfold results;rw [hr];exact Bh (by simp [eB]) h1'
 have h:=hx.facts t _ hl;unfold ah at h;have hsub:∀ b,Ow t = some b→∀ b' o,(X0 b' o∨(b' = b∧X b' o))→X b' o:=fun b _ b' o h=>by
  rcases h with h | h
  · exact hx.env.sub b' o h
  · exact h.2
 obtain ⟨h0,h⟩:=h;rcases h with ⟨h1,h2⟩ | ⟨b,c,es,ty,g1,g2,g3,g5,g6,g7,g8,g9⟩
 · refine ⟨fun _ _=>False,none,fun _ _ h=>h.elim,(by intro b h;cases h),?_⟩;unfold ah;refine ⟨_,[v'],rfl,⟨h2'.tr (Tr.chg fun b' o _ h=>?_),trivial⟩,h0,.inl ⟨h1,h2⟩⟩;rcases h with h | h
   · exact hx.env.sub b' o h
   · exact h.elim
 ·
  obtain ⟨r1,r2⟩:=hx.env.wS t b g1;refine ⟨fun b' o=>b' = b∧X b' o,some b,fun b' o h=>by rw [h.1];exact ⟨r1,r2⟩,fun b' h=>by injection h with h;rw [← h];exact ⟨r1,r2⟩,?_⟩;unfold ah;refine ⟨_,[v'],rfl,⟨h2'.tr (Tr.chg fun b' o _ h=>hsub b g1 b' o h),trivial⟩,h0,.inr ⟨b,c,es,ty,by simp,g2,g3,g5,g6,aF.tr (Tr.chg fun b' o _ h=>hsub b g1 b' o h) _ _ g7,g8,fun o=>?_⟩⟩;constructor
  · rintro (h | h)
    · have:=hx.x0 b o h;omega
    · exact (g9 o).1 h.2
  · exact fun h=>.inr ⟨rfl,(g9 o).2 h⟩
theorem AC.tg {ds:List D} {l:List D} (h:AC P kw f ds (.qE k l es)):AC P kw f ds (.bT (.list k l :: es)):=fun X w vs hx hr=>by
 refine (h X w vs hx hr).mono ?_;rintro en w' ⟨h1,v,h2,S,ob,hS,hb,hf⟩;refine ⟨h1,v,h2,fun _ _=>False,none,fun _ _ h=>h.elim,(by intro b h;cases h),?_⟩;unfold ah at hf ⊢;obtain ⟨v',vs',e1,e2,h0,h⟩:=hf;have tr:Tr kw (fun b o=>X b o∨S b o) (fun b o=>X b o∨False) w' w':=⟨fun _=>kE.refl _,fun b o v hx hc=>⟨fun h=>by rcases h with h | h <;> first | exact hx (.inl h) | exact h.elim,hc⟩⟩;exact ⟨_,e1,(wM (X:=fun b o=>X b o∨S b o) h0 h).tr tr,e2.tr tr⟩
end
section
variable {P:Program} {ops:Array Oper} {kw:Bool} {X0:XS} {w0:World} {m:Nat} {o:Oper} {d:Nat} {l:List Oper} {acc:List Hd} {K:List Hd→fA→Prop}
theorem Dj {g gd:Nat} {want b:Bool} {f f0:F} (s0:Nat) (hb:lk Γ s0 = some f0:=by rfl) (hg:o.guard = some (g,want):=by rfl) (hgd:(ops[g]?).bind (·.dst) = some gd:=by rfl) (hl:lk Γ gd = some (.dat (.val (.bool b))):=by rfl) (hd:o.dst = some d:=by rfl) (hdm:d < m:=by decide) (h:∀ Γ',lk Γ' s0 = some f0→aB Γ' d = true→(b == want) = true→dB P kw X0 w0 m Γ' o ((d,f) :: Γ')) (ct:HT P ops kw X0 w0 m (⟨[(gd,.dat (.val (.bool b))),(s0,f0)],d,.kS (b == want) f,false⟩ :: acc) ((d,.kS (b == want) f) :: Γ) l K):HT P ops kw X0 w0 m acc Γ (o :: l) K :=
 HT.cons (h:=⟨[(gd,.dat (.val (.bool b))),(s0,f0)],d,.kS (b == want) f,false⟩) rfl hd (fun Γ' h' hn'=>oh hg hgd h'.1 rfl hd hdm hn' fun hc=>h Γ' h'.2.1 hn' hc) ⟨hl,hb,trivial⟩ ct
theorem YK {g gd:Nat} {want b:Bool} {f f1:F} (s1:Nat) (h1:lk Γ s1 = some (.kS (b == want) f1):=by rfl) (hg:o.guard = some (g,want):=by rfl) (hgd:(ops[g]?).bind (·.dst) = some gd:=by rfl) (hl:lk Γ gd = some (.dat (.val (.bool b))):=by rfl) (hd:o.dst = some d:=by rfl) (hdm:d < m:=by decide) (hne:d≠s1:=by decide) (h:∀ Γ',aB Γ' d = true→(b == want) = true→dB P kw X0 w0 m ((s1,f1) :: Γ') o ((d,f) :: (s1,f1) :: Γ')) (ct:HT P ops kw X0 w0 m (⟨[(gd,.dat (.val (.bool b))),(s1,.kS (b == want) f1)],d,.kS (b == want) f,false⟩ :: acc) ((d,.kS (b == want) f) :: Γ) l K):HT P ops kw X0 w0 m acc Γ (o :: l) K :=
 HT.cons (h:=⟨[(gd,.dat (.val (.bool b))),(s1,.kS (b == want) f1)],d,.kS (b == want) f,false⟩) rfl hd (fun Γ' h' hn'=>oh hg hgd h'.1 rfl hd hdm hn' fun hc a W hs=>(h Γ' hn' hc a W (hs.yM hc h'.2.1)).mono fun a' W' hs'=>hs'.rQ hc hne h'.2.1) ⟨hl,h1,trivial⟩ ct
theorem JY {g gd:Nat} {want b:Bool} {f f1 f2:F} (s1 s2:Nat) (h1:lk Γ s1 = some (.kS (b == want) f1):=by rfl) (h2:lk Γ s2 = some (.kS (b == want) f2):=by rfl) (h12:s1≠s2:=by decide) (hg:o.guard = some (g,want):=by rfl) (hgd:(ops[g]?).bind (·.dst) = some gd:=by rfl) (hl:lk Γ gd = some (.dat (.val (.bool b))):=by rfl) (hd:o.dst = some d:=by rfl) (hdm:d < m:=by decide) (hne:d≠s1:=by decide) (hne2:d≠s2:=by decide) (h:∀ Γ',aB Γ' d = true→(b == want) = true→dB P kw X0 w0 m ((s2,f2) :: (s1,f1) :: Γ') o ((d,f) :: (s2,f2) :: (s1,f1) :: Γ')) (ct:HT P ops kw X0 w0 m (⟨[(gd,.dat (.val (.bool b))),(s1,.kS (b == want) f1),(s2,.kS (b == want) f2)],d,.kS (b == want) f,false⟩ :: acc) ((d,.kS (b == want) f) :: Γ) l K):HT P ops kw X0 w0 m acc Γ (o :: l) K :=
 HT.cons (h:=⟨[(gd,.dat (.val (.bool b))),(s1,.kS (b == want) f1),(s2,.kS (b == want) f2)],d,.kS (b == want) f,false⟩) rfl hd (fun Γ' h' hn'=>oh hg hgd h'.1 rfl hd hdm hn' fun hc a W hs=>(h Γ' hn' hc a W ((hs.yM hc h'.2.1).yM hc (by rw [qO h12];exact h'.2.2.1))).mono fun a' W' hs'=>(hs'.rQ hc hne2 (by rw [qO h12];exact h'.2.2.1)).rQ hc hne h'.2.1) ⟨hl,h1,h2,trivial⟩ ct
end
section
variable {ops:Array Oper} {kw:Bool} {X0:XS} {w0:World} {m:Nat} {Γ':fA} {o:Oper} {d:Nat}
theorem Zu {l ds:List D} (ho:o.op = .extract (.tmp s) 0:=by rfl) (hd:o.dst = some d:=by rfl) (hdm:d < m:=by decide) (hn:aB Γ d = true:=by rfl) (hns:aB Γ s = true:=by rfl) (hne:d≠s:=by decide) (hl:lk Γ s = some (.qE k l ds):=by rfl):dB aD kw X0 w0 m Γ o ((s,.bT (.list k l :: ds)) :: (d,.grow k l) :: (s,.any) :: Γ) :=
 acO ho hd hdm hn hns hne hl
theorem DZ {z:D} (pi:PI aD T T k z bytes) (hu:D.ik es = true) (ho:o.op = .buildSlice T n (jk xs).toArray:=by rfl) (hd:o.dst = some d:=by rfl) (hdm:d < m:=by decide) (hn:aB Γ d = true:=by rfl) (hx:vz kw X0 w0 m Γ xs es:=by repeat (first | exact lN | refine bJ (.t rfl) ?_ | refine bJ (.c rfl) ?_ | refine bJ .fn ?_ | refine bJ (.grow rfl) ?_ | refine bJ (.oK rfl rfl) ?_ | refine bJ (jJ.nil (.c rfl)) ?_ | refine bJ (jJ.nil (.t rfl)) ?_)) (hk:∀ x∈es,x.width = k:=by intro x hx;simp at hx;rcases hx with rfl | rfl | rfl | rfl <;> rfl) (hlen:es.length = n:=by rfl) (hsm:n * k≤16777216:=by decide):dB aD kw X0 w0 m Γ o ((d,.own k es) :: Γ):=by
 obtain ⟨e,e2,i,v,p1,p2,p3,p4,p5,p6,p7⟩:=pi.ex;exact aeF ho hd hdm hn p1 p3 p4 p5 hk hlen hsm (fun _=>hu) hx
theorem BZ {z:D} (pi:PI aD T T k z bytes) (ho:o.op = .buildSlice T 0 #[]:=by rfl) (hd:o.dst = some d:=by rfl) (hdm:d < m:=by decide) (hn:aB Γ d = true:=by rfl):dB aD kw X0 w0 m Γ o ((d,.e0) :: Γ):=by
 obtain ⟨e,e2,i,v,p1,p2,p3,p4,p5,p6,p7⟩:=pi.ex;exact X5 ho hd hdm hn p1 p3
theorem afF {s':Nat} (hz:z = (i:Int)) (hi:i < es.length) (ho:o.op = .indexAddr T (.tmp s) (.const (.int .i64 z)):=by rfl) (hd:o.dst = some d:=by rfl) (hdm:d < m:=by decide) (hn:aB Γ d = true:=by rfl) (hl:lk Γ s = some (.zy s'):=by rfl) (hl':lk Γ s' = some (.own k es):=by rfl) (si:SI aD T k:=by first | exact ig | exact jh | exact gV | exact jg | exact gW | exact dS):dB aD kw X0 w0 m Γ o ((d,.qH s' i k) :: Γ) :=
 CY ho hd hdm hn si hl hl' .c hz hi
theorem KT {e:Nat} (ho:o.op = .call { callee:=.builtin .len,args:=#[.tmp s],argTypes:=#[T] }:=by rfl) (hd:o.dst = some d:=by rfl) (hdm:d < m:=by decide) (hn:aB Γ d = true:=by rfl) (hT:aD.underlying T = some (.slice e):=by first | exact Tryz.underlying25 | exact Tryz.underlying24 | exact Tryz.underlying39 | exact Tryz.underlying68 | exact Tryz.underlying23 | exact Tryz.underlying44) (hl:lk Γ s = some (.dat (.val (.slice none 0 0))):=by rfl):dB aD kw X0 w0 m Γ o ((d,.dat (.val (.int .i64 0))) :: Γ) :=
 P7 ho hd hdm hn hT hl
theorem afd {P:Program} {e yt:Nat} (ho:o.op = .binOp .eql T (.tmp s) (.const (.slice none 0 0)) yt) (hd:o.dst = some d) (hdm:d < m) (hn:aB Γ d = true) (hT:P.underlying T = some (.slice e)) (hl:lk Γ s = some (.dat (.list k es))) (hne:es≠[]):dB P kw X0 w0 m Γ o ((d,.dat (vB false)) :: Γ) :=
 bK hd hdm hn rfl fun a W X Ow hs=>by
  have h:=hs.facts s _ hl;unfold ah at h;obtain ⟨A,c,h1,h2,h3,h4⟩:=jm h;obtain ⟨b,o',cs,h5,_⟩:=h4 hne;subst h5;have h1':a.eval (.tmp s) = .slice (some ⟨b,o',none⟩) es.length c:=h1;have h2':a.eval (.const (.slice none 0 0)) = .slice none 0 0:=rfl;refine ⟨.bool false,?_,gI rfl⟩;have hg:(eqGuard .eql T (.tmp s) (.const (.slice none 0 0)) (.slice (some ⟨b,o',none⟩) es.length c) (.slice none 0 0)).run P W = .ok () W:=by simp [eqGuard]
  simp only [execOp,ho,h1',h2',bc,ao,hg,Lib.run_eql_slice_nil W T e _ es.length c 0 0 hT,a8,Option.isNone]
theorem air {yt e:Nat} (hne:es≠[]) (ho:o.op = .binOp .eql T (.tmp s) (.const (.slice none 0 0)) yt:=by rfl) (hd:o.dst = some d:=by rfl) (hdm:d < m:=by decide) (hn:aB Γ d = true:=by rfl) (hT:aD.underlying T = some (.slice e):=by first | exact Tryz.underlying25 | exact Tryz.underlying24 | exact Tryz.underlying39) (hl:lk Γ s = some (.dat (.list k es)):=by rfl):dB aD kw X0 w0 m Γ o ((d,.dat (vB false)) :: Γ) :=
 afd ho hd hdm hn hT hl hne
def nC (L:List D) (i:Nat) (z:D):List D:=L.take i ++ bB (L.length - i) z
theorem jl {L:List D} {z:D} (h:i≤L.length):(nC L i z).length = L.length:=by simp [nC];omega
theorem Az {L:List D} {z:D} (h:L.length = n):bB n z = nC L 0 z:=by simp [nC,h]
theorem su {L:List D} {z:D} (h:L.length = n):nC L n z = L:=by simp [nC,← h]
theorem sN {L:List D} {z:D} (h:L[i]? = some e):(nC L i z).set i e = nC L (i + 1) z:=by
 have hi:i < L.length:=by
  rcases cG i L.length with h' | h'
  · exact h'
  · rw [cg h'] at h;cases h
 have e1:(L.take i).length = i:=by rw [av];omega
 unfold nC;rw [List.set_append_right _ _ (by omega),e1,gC,show L.length - i = (L.length - (i + 1)) + 1 by omega,dx,List.set_cons_zero,List.take_add_one,h];simp
end
section
variable {P:Program} {ops:Array Oper} {kw:Bool} {X0:XS} {w0:World} {m:Nat} {Γ':fA} {a a':Act} {W W':World} {X X':XS} {Ow Ow':Nat→Option Nat} {o:Oper} {d:Nat}
theorem Dy {T2:Nat} {z:D} {x:Operand} {l1 l2:List D} (ho:o.op = .call { callee:=.builtin .append,args:=#[.tmp s,x],argTypes:=#[T,T2] }) (hd:o.dst = some d) (hdm:d < m) (hn:aB Γ d = true) (pi:PI P T T2 k z bytes) (hz:z.width = k) (hk:0 < k) (huz:qo kw z) (hw1:∀ e∈l1,e.width = k) (hw2:∀ e∈l2,e.width = k) (hu2:kw = true→D.ik l2 = true) (hF:lG kw X0 w0 m Γ a W X Ow) {base:Option Addr} {c:Nat} {olds:List Value} (hs:a.eval (.tmp s) = .slice base l1.length c) (ho1:aF kw X W l1 olds) (hou:Qs kw olds) (hold:∀ w',(w' = W.drew)→(bq k l1.length (.slice base l1.length c)).run P w' = .ok olds.toArray w') (hx:Rep kw X W (a.eval x) (.list k l2)) (hg:c < l1.length + l2.length) (hb:(l1.length + l2.length) * bytes≤140737488355328) (hb0:0 < bytes) :
 oC P o a W (FSq kw X0 w0 m ((d,.own k (l1 ++ l2)) :: Γ)):=by
 obtain ⟨e,e2,i,v,p1,p2,p3,p4,p5,p6,p7⟩:=pi.ex;obtain ⟨news,q1,q2⟩:=tZ (P:=P) hx p2;subst p5 p6;have hfit:=growslice_fits hg hb;have hlt:l1.length + l2.length≤140737488355328:=gD (fk _ hb0) hb;have hrun:=run_append_grow_src (P:=P) W T T2 o.type e i v p1 p3 p4 base l1.length c olds (hold _ rfl) (a.eval x) l2.length news q1 hg (by omega) hfit;have hr:(execOp a.eval o).run P W = .ok (.value (.slice (some ⟨W.heap.size,0,none⟩) (l1.length + l2.length) (grownCap W (l1.length + l2.length) c e))) (W.drew.alloc (.cells ((olds ++ news).toArray ++ ar v.cells (grownCap W (l1.length + l2.length) c e - (l1.length + l2.length))) e)):=by
  simp only [execOp,ho,resolve,bs,bO,cF,bc,a8,ao,invoke,builtin,hs,hrun]
 unfold oC;rw [hr,hd];generalize hcap:grownCap W (l1.length + l2.length) c e = cap at *;have hcge:l1.length + l2.length≤cap:=by rw [← hcap];exact grownCap_ge _ _ _ _
 have hbel:Below W.heap.size W (W.drew.alloc (.cells ((olds ++ news).toArray ++ ar v.cells (cap - (l1.length + l2.length))) e)):=((Below.refl _ W).drew).alloc (by simp) _;have hol:=ho1.len;have hnl:=q2.len;rw [D.dF hw1] at hol;rw [D.dF hw2] at hnl;have hvs:v.cells.size = i.size:=by rw [← bj,(p7 kw X W).len];exact hz
 refine (hF.fresh hdm hn hbel (by simp) (fun _=>True) ?_).fs;unfold ah;have hap:=ho1.append q2;have htr:Tr kw X (fun b o=>X b o∨(b = W.heap.size∧True)) W (W.drew.alloc (.cells ((olds ++ news).toArray ++ ar v.cells (cap - (l1.length + l2.length))) e)) :=
  ⟨(Tr.of_below (kw:=kw) (X:=X) hbel).ku,fun b o v hx hc=>⟨fun hx'=>by
   rcases hx' with hx' | ⟨e,_⟩
   · exact hx hx'
   · have:=bL W _ hc;simp only [e] at this;omega,((Tr.of_below (kw:=kw) (X:=X) hbel).keep b o v hx hc).2⟩⟩
 refine ⟨W.heap.size,cap,olds ++ news ++ (ar v.cells (cap - (l1.length + l2.length))).toList,e,by simp,by rw [iR hF.size hdm,aw],by rw [aw];exact hcge,fun y hy=>?_,?_,?_,?_,?_,fun o=>.inr ⟨rfl,trivial⟩⟩
 · rcases a6.1 hy with hy | hy
   · exact hw1 y hy
   · exact hw2 y hy
 · have:=alloc_at W.drew (.cells ((olds ++ news).toArray ++ ar v.cells (cap - (l1.length + l2.length))) e);rw [show W.drew.heap.size = W.heap.size from rfl] at this;rw [this];congr 2;apply gE;simp
 · simp only [aw,bj,oz,hvs,hol,hnl];rw [← bk,← bk];congr 1;omega
 · rw [cj (by simp [hol,hnl,bk])];exact aF.tr htr _ _ hap
 ·
  intro ek u hu;rcases a6.1 hu with hu | hu
  · rcases a6.1 hu with hu | hu
    · exact hou ek u hu
    · exact aF.kJ _ _ q2 (hu2 ek) u hu
  · exact aU.kJ _ _ (p7 kw X W) (huz ek) u (oO hu)
theorem Hy {T2:Nat} {z:D} {x:Operand} {l1 l2:List D} (ho:o.op = .call { callee:=.builtin .append,args:=#[.tmp s,x],argTypes:=#[T,T2] }) (hd:o.dst = some d) (hdm:d < m) (hn:aB Γ d = true) (hns:aB Γ s = true) (hne:d≠s) (pi:PI P T T2 k z bytes) (hz:z.width = k) (hk:0 < k) (huz:qo kw z) (hl:lk Γ s = some (.own k l1)) (hx:jJ kw X0 w0 m Γ x (.list k l2)) (hu2:kw = true→D.ik l2 = true) (hb:(l1.length + l2.length) * bytes≤140737488355328) (hb0:0 < bytes):dB P kw X0 w0 m Γ o ((d,.own k (l1 ++ l2)) :: (s,.any) :: Γ):=by
 intro a W hs;obtain ⟨X,Ow,hF⟩:=hs.x;have hf:=hF.facts s _ hl;unfold ah at hf;have hxr:=hx a W X Ow hF;have hw2:∀ e∈l2,e.width = k:=by obtain ⟨A,c,_,_,h,_⟩:=jm hxr;exact h
 have drop:∀ a' W',FSq kw X0 w0 m ((d,.own k (l1 ++ l2)) :: Γ) a' W'→FSq kw X0 w0 m ((d,.own k (l1 ++ l2)) :: (s,.any) :: Γ) a' W':=fun a' W' h=>by
  obtain ⟨X1,Ow1,h1⟩:=h.x;refine lG.fs (X:=X1) (Ow:=Ow1) ⟨h1.size,h1.defs,h1.below,h1.x0,h1.env,fun t g ht=>?_⟩;unfold lk at ht
  split at ht
  · rename_i es;injection ht with ht;rw [← ht,← es];exact h1.facts d _ (by simp [lk])
  · rename_i es;unfold lk at ht
    split at ht
    · injection ht with ht;rw [← ht];unfold ah;trivial
    · exact h1.facts t g (by unfold lk;rw [if_neg es];exact ht)
 obtain ⟨b,c,es,t,g1,g2,g3,h0,g5,g6,g7,g8,g9⟩:=hf
 ·
  have g2':a.eval (.tmp s) = .slice (some ⟨b,0,none⟩) l1.length c:=g2;have hlc:l1.length * k≤c * k:=aL k g3;have hol:(es.take (l1.length * k)).length = l1.length * k:=by rw [av];omega
  by_cases hroom:l1.length + l2.length≤c
  ·
   obtain ⟨e,e2,i,v,p1,p2,p3,p4,p5,p6,p7⟩:=pi.ex;obtain ⟨news,q1,q2⟩:=tZ (P:=P) hxr p2;have hnl:=q2.len;rw [D.dF hw2] at hnl;have hlc2:(l1.length + l2.length) * k≤c * k:=aL k hroom;rw [bk] at hlc2;have hcell:=bW g5;subst p5;have hrun:=run_append_room_src (P:=P) W T T2 o.type e i p1 p3 b 0 l1.length c (a.eval x) l2.length news q1 hroom (fun j hj=>by rw [aq,hcell,cV (by omega)];rfl) (fun j hj=>by simp [eZ,g5]);simp only [aq] at hrun;have hr:(execOp a.eval o).run P W = .ok (.value (.slice (some ⟨b,0,none⟩) (l1.length + l2.length) c)) (W.setCells b (l1.length * i.size) news):=by
    simp only [execOp,ho,resolve,bs,bO,cF,bc,a8,ao,invoke,builtin,g2',hrun]
   unfold oC;rw [hr,hd];obtain ⟨s1,s2,s3⟩:=jr news b (l1.length * i.size) W es t g5 (by omega);obtain ⟨r1,r2⟩:=hF.env.wS s b g1
   let Ow1:Nat→Option Nat:=fun u=>if u = d then some b else if u = s then none else Ow u
   have tr:Tr kw X X W (W.setCells b (l1.length * i.size) news):=by
    refine ⟨fun ek p j hp=>?_,fun b' o v hx hc=>⟨hx,?_⟩⟩
    · by_cases hpb:p.block = b
      · exfalso;have h5:es[p.off]? = some (.int .u32 j):=by
         simp [fI,hpb,g5] at hp;simpa using hp.2
        exact g8 ek _ (cH h5) j rfl
      · rw [ck (w:=W) (w':=W.setCells b (l1.length * i.size) news) (a:=p) (s2 p.block hpb)];exact hp
    · have hb':b'≠b:=fun e=>hx (by rw [e];exact g9 o)
      rw [ck (w:=W) (w':=W.setCells b (l1.length * i.size) news) (a:=⟨b',o,none⟩) (s2 b' hb')];exact hc
   refine lG.fs (X:=X) (Ow:=Ow1) (hF.re (fun u=>u = d∨u = s) (by rw [iZ];exact hF.size) (by rw [fH];exact hF.defs) (hF.below.trans (jD news _ W r1)) ⟨hF.env.sub,fun b' o hx=>?_,?_,?_⟩ tr (fun u hu=>eval_put_ne (fun e=>hu (.inl e.symm))) (fun u b' hu hb'=>?_) (fun u hu=>by rcases hu with rfl | rfl <;> assumption) fun u g hg=>?_)
   · rw [s3];exact hF.env.sup b' o hx
   · intro u u' b' h1 h2
     by_cases e1:u = d <;> by_cases e2:u' = d <;> by_cases e3:u = s <;> by_cases e4:u' = s <;> simp [Ow1,e1,e2,e3,e4,hne,bm hne] at h1 h2 ⊢ <;>
      first
       | exact hF.env.inj u u' b' h1 h2
       | (exfalso;subst_vars;first | exact e4 (hF.env.inj _ _ _ h2 g1) | exact e3 (hF.env.inj _ _ _ h1 g1))
   · intro u b' h1;rw [s3]
     by_cases e1:u = d
     · simp [Ow1,e1] at h1;subst h1;exact ⟨r1,r2⟩
     · by_cases e3:u = s
       · simp [Ow1,e1,e3,bm hne] at h1
       · simp [Ow1,e1,e3] at h1;exact hF.env.wS u b' h1
   · have hu1:¬ u = d:=fun e=>hu (.inl e)
     have hu2':¬ u = s:=fun e=>hu (.inr e)
     have hb2:b'≠b:=fun e=>hu2' (hF.env.inj u s b (by rw [hb',e]) g1)
     exact ⟨by simp [Ow1,hu1,hu2',hb'],s2 b' hb2,fun _=>gA⟩
   ·
    unfold lk at hg
    split at hg
    ·
     rename_i es';injection hg with hg
     rw [← hg,← es'];refine .inr ?_;unfold ah;refine ⟨b,c,_,t,by simp [Ow1],by rw [iR hF.size hdm,aw],by rw [aw];exact hroom,fun y hy=>?_,s1,by rw [qG (by omega)];exact g6,?_,fun ek u hu=>?_,g9⟩
     · rcases a6.1 hy with hy | hy
       · exact h0 y hy
       · exact hw2 y hy
     · have e3:(nV es (l1.length * i.size) news).take ((l1 ++ l2).length * i.size) = es.take (l1.length * i.size) ++ news:=by
        unfold nV;rw [cj (by simp [hnl,bk];omega)]
       rw [e3];exact aF.tr tr _ _ (g7.append q2)
     · simp only [nV,a6] at hu;rcases hu with (hu | hu) | hu
       · exact g8 ek u (bE hu)
       · exact aF.kJ _ _ q2 (hu2 ek) u hu
       · exact g8 ek u (dt hu)
    · rename_i es';unfold lk at hg
      split at hg
      · injection hg with hg;rw [← hg];refine .inr ?_;unfold ah;trivial
      · rename_i es2;exact .inl ⟨fun h=>h.elim (fun e=>es' e.symm) (fun e=>es2 e.symm),hg⟩
  · refine (Dy ho hd hdm hn pi hz hk huz h0 hw2 hu2 hF (c:=c) (base:=some ⟨b,0,none⟩) (olds:=es.take (l1.length * k)) g2' g7 (fun ek u hu=>g8 ek u (bE hu)) (fun w' hw'=>?_) hxr (by omega) hb hb0).mono drop;subst hw';refine run_firstCells_some (P:=P) W.drew k l1.length ⟨b,0,none⟩ l1.length c _ hol fun j v hj=>?_
    rw [fh,aq];show W.cell? ⟨b,j,none⟩ = some v;rw [bW g5];rw [bA] at hj
    split at hj
    · exact hj
    · cases hj
theorem DU {T2:Nat} {z:D} {x:Operand} (ho:o.op = .call { callee:=.builtin .append,args:=#[.tmp s,x],argTypes:=#[T,T2] }) (hd:o.dst = some d) (hdm:d < m) (hn:aB Γ d = true) (pi:PI P T T2 k z bytes) (hl:lk Γ s = some .e0) (hx:jJ kw X0 w0 m Γ x (.list k [])):dB P kw X0 w0 m Γ o ((d,.e0) :: Γ):=by
 intro a W hs;obtain ⟨X,Ow,hF⟩:=hs.x;have hf:=hF.facts s _ hl;unfold ah at hf;obtain ⟨A0,h1⟩:=hf;have h1':a.eval (.tmp s) = .slice A0 0 0:=h1;have hxr:=hx a W X Ow hF;obtain ⟨e,e2,i,v,p1,p2,p3,p4,p5,p6,p7⟩:=pi.ex;obtain ⟨A,cx,hxv,_⟩:=jm hxr;have hr:(execOp a.eval o).run P W = .ok (.value (.slice A0 0 0)) W:=by
  have:(ea #[T,T2] o.type #[.slice A0 0 0,.slice A 0 cx]).run P W = .ok (.slice A0 0 0) W:=by
   have hfc:(bq i.size 0 (.slice A 0 cx)).run P W = .ok #[] W:=by
    cases A <;> simp [bq,loadCells,loadCellsFrom]
   cases A0 <;> simp [ea,run_underlying p1,run_underlying p2,sizeOf,typeInfo,p3,f8,hfc,storeCells]
  simp only [gi] at hxv;simp only [execOp,ho,resolve,bs,bO,cF,bc,a8,ao,invoke,builtin,h1',hxv,this]
 unfold oC;rw [hr,hd];exact (hF.put hdm hn (Below.refl _ _) (by unfold ah;exact ⟨_,iR hF.size hdm⟩)).fs
end
section
variable {ops:Array Oper} {kw:Bool} {X0:XS} {w0:World} {m:Nat} {Γ':fA} {o:Oper} {d:Nat}
theorem adP {s' o' t:Nat} {e0 e2:D} {l:List Oper} {acc:List Hd} {K:List Hd→fA→Prop} (hp:mY e0 o' e e2) (ho:o.op = .store T (.tmp s) (.tmp t):=by rfl) (hg:o.guard = none:=by rfl) (hd:o.dst = none:=by rfl) (hl:lk Γ s = some (.sub s' o'):=by rfl) (hl':lk Γ s' = some (.box e0):=by rfl) (hx:lk Γ t = some (.dat e):=by rfl) (hT:(aD.info? T).map (·.size) = some e.width:=by kernel_rfl) (hu:e.kJ = true:=by rfl) (ct:HT aD ops kw X0 w0 m (⟨[(s,.sub s' o'),(s',.box e0),(t,.dat e)],s',.box e2,true⟩ :: acc) ((s',.box e2) :: Γ) l K):HT aD ops kw X0 w0 m acc Γ (o :: l) K :=
 HT.upd (h:=⟨[(s,.sub s' o'),(s',.box e0),(t,.dat e)],s',.box e2,true⟩) rfl (fun Γ h=>(II ho hd hT h.1 h.2.1 (.t h.2.2.1) hp fun _=>hu).g hg) ⟨hl,hl',hx,trivial⟩ ct
theorem ah0 (a:Rat):mY (af a) 1 (.mag a.num.natAbs) (af a) :=
 mY.field (pre:=[]) (post:=[aS a.den]) (e0:=aS a.num) (e1:=aS a.num) (o:=1) (mY.field (pre:=[.val (.bool (decide (a.num < 0)))]) (post:=[]) (o:=0) (mY.refl rfl) rfl) rfl
theorem ahO (a:Rat):mY (af a) 3 (.mag (a.den:Int).natAbs) (af a) :=
 mY.field (pre:=[aS a.num]) (post:=[]) (e0:=aS a.den) (e1:=aS a.den) (o:=1) (mY.field (pre:=[.val (.bool (decide ((a.den:Int) < 0)))]) (post:=[]) (o:=0) (mY.refl rfl) rfl) rfl
theorem Uy {z:D} {x:Operand} (pi:PI aD T T k z bytes) (ho:o.op = .call { callee:=.builtin .append,args:=#[.tmp s,x],argTypes:=#[T,T] }:=by rfl) (hd:o.dst = some d:=by rfl) (hdm:d < m:=by decide) (hn:aB Γ d = true:=by rfl) (hl:lk Γ s = some .e0:=by rfl) (hx:jJ kw X0 w0 m Γ x (.list k []):=by first | exact .t rfl | exact jJ.nil (.c rfl) | exact jJ.nil (.t rfl)):dB aD kw X0 w0 m Γ o ((d,.e0) :: Γ) :=
 DU ho hd hdm hn pi hl hx
theorem Qz {z:D} {x:Operand} {l1 l2:List D} (pi:PI aD T T k z bytes) (ho:o.op = .call { callee:=.builtin .append,args:=#[.tmp s,x],argTypes:=#[T,T] }:=by rfl) (hd:o.dst = some d:=by rfl) (hdm:d < m:=by decide) (hn:aB Γ d = true:=by rfl) (hns:aB Γ s = true:=by rfl) (hne:d≠s:=by decide) (hl:lk Γ s = some (.own k l1):=by rfl) (hx:jJ kw X0 w0 m Γ x (.list k l2):=by first | exact .t rfl | exact .c rfl | exact .fn | exact .grow rfl | exact .oK rfl rfl | exact jJ.nil (.c rfl) | exact jJ.nil (.t rfl)) (hz:z.width = k:=by rfl) (hk:0 < k:=by decide) (huz:z.kJ = true:=by rfl) (hb0:0 < bytes:=by decide) (hb:(l1.length + l2.length) * bytes≤140737488355328) (hu2:D.ik l2 = true):dB aD kw X0 w0 m Γ o ((d,.own k (l1 ++ l2)) :: (s,.any) :: Γ) :=
 Hy ho hd hdm hn hns hne pi hz hk (fun _=>huz) hl hx (fun _=>hu2) hb hb0
end
section
variable {P:Program} {ops:Array Oper} {kw:Bool} {X0:XS} {w0:World} {m:Nat} {Γ':fA} {a a':Act} {W W':World} {X X':XS} {Ow Ow':Nat→Option Nat} {o:Oper} {d:Nat}
theorem lG.pass {t g:Nat} {f f':F} (hx:lG kw X0 w0 m Γ a W X Ow) (hnt:aB Γ t = true) (hng:aB Γ g = true) (hne:t≠g) (h1:ah kw X W (fun u=>if u = g then Ow t else if u = t then none else Ow u) (bY a) t f) (h2:ah kw X W (fun u=>if u = g then Ow t else if u = t then none else Ow u) (bY a) g f') :
 lG kw X0 w0 m ((t,f) :: (g,f') :: Γ) a W X (fun u=>if u = g then Ow t else if u = t then none else Ow u):=by
 have hxr:=hx;refine hxr.re (fun u=>u = t∨u = g) hx.size hx.defs hx.below ⟨hx.env.sub,hx.env.sup,?_,?_⟩ Tr.refl (fun _ _=>rfl) (fun u b hu hb=>?_) (fun u hu=>?_) fun u h hl=>?_
 ·
  intro u u' b e1 e2;have hgt:g≠t:=bm hne
  by_cases c1:u = g <;> by_cases c2:u' = g <;> by_cases c3:u = t <;> by_cases c4:u' = t <;> simp [c1,c2,c3,c4,hne,hgt] at e1 e2 ⊢ <;>
   first
    | exact hx.env.inj u u' b e1 e2
    | (exfalso;first | exact c4 (hx.env.inj _ _ _ e2 e1) | exact c3 (hx.env.inj _ _ _ e1 e2))
 ·
  intro u b e1
  by_cases c1:u = g
  · simp [c1] at e1;exact hx.env.wS t b e1
  · by_cases c3:u = t
    · simp [c1,c3,hne] at e1
    · simp [c1,c3] at e1;exact hx.env.wS u b e1
 · have c1:¬ u = g:=fun e=>hu (.inr e)
   have c2:¬ u = t:=fun e=>hu (.inl e)
   exact ⟨by simp [c1,c2,hb],rfl,fun _=>gA⟩
 · rcases hu with rfl | rfl <;> assumption
 ·
  unfold lk at hl
  split at hl
  · rename_i es;injection hl with hl;rw [← hl,← es];exact .inr h1
  · rename_i es;unfold lk at hl
    split at hl
    · rename_i es2;injection hl with hl;rw [← hl,← es2];exact .inr h2
    · rename_i es2;exact .inl ⟨fun h=>h.elim (fun e=>es e.symm) (fun e=>es2 e.symm),hl⟩
theorem FSq.Uj {t g:Nat} {l:List D} (h:FSq kw X0 w0 m Γ a W) (hl:lk Γ t = some (.grow k l)) (hnt:aB Γ t = true) (hng:aB Γ g = true) (hne:t≠g):∃ v:{v:Value // (D.val v).kJ = true},FSq kw X0 w0 m ((t,.dat (.val v.1)) :: (g,.gv v.1 k l) :: Γ) a W:=by
 obtain ⟨X,Ow,hx⟩:=h.x;have hf:=hx.facts t _ hl;unfold ah at hf;refine ⟨⟨bY a t,by rcases hf.2 with ⟨e,_⟩ | ⟨b,c,es,ty,_,e,_⟩ <;> rw [e] <;> rfl⟩,(hx.pass hnt hng hne ?_ ?_).fs⟩
 · unfold ah;refine dh ?_;rcases hf.2 with ⟨e,_⟩ | ⟨b,c,es,ty,_,e,_⟩ <;> rw [e] <;> rfl
 · unfold ah;refine ⟨hf.1,?_⟩;rcases hf.2 with e | ⟨b,c,es,ty,e1,e2⟩
   · exact .inl e
   · exact .inr ⟨b,c,es,ty,by simp [e1],e2⟩
theorem FSq.aak {t g:Nat} {l:List D} (h:FSq kw X0 w0 m Γ a W) (hl:lk Γ t = some (.dat (.val v))) (hg:lk Γ g = some (.gv v k l)) (hnt:aB Γ t = true) (hng:aB Γ g = true) (hne:t≠g):FSq kw X0 w0 m ((t,.grow k l) :: (g,.any) :: Γ) a W:=by
 obtain ⟨X,Ow,hx⟩:=h.x;have hf:=hx.facts g _ hg;have ht:=hx.facts t _ hl;unfold ah at hf ht;have hv:=gy ht;have:=hx.pass (t:=g) (g:=t) (f:=.any) (f':=.grow k l) hng hnt (bm hne) (by unfold ah;trivial) (by
  unfold ah;refine ⟨hf.1,?_⟩;rw [hv];rcases hf.2 with e | ⟨b,c,es,ty,e1,e2⟩
  · exact .inl e
  · exact .inr ⟨b,c,es,ty,by simp [e1],e2⟩)
 refine (lG.fs this).congr fun s=>?_
 unfold lk
 by_cases c1:t = s <;> by_cases c2:g = s <;> simp [c1,c2,lk]
 omega
theorem FSq.abA {g:Nat} (h:FSq kw X0 w0 m Γ a W) (hng:aB Γ g = true):FSq kw X0 w0 m ((g,.gv (.slice none 0 0) k []) :: Γ) a W :=
 h.add fun X Ow hx=>by unfold ah;exact ⟨by simp,.inl ⟨rfl,rfl⟩⟩
theorem FSq.agT {t g:Nat} {l:List D} (h:FSq kw X0 w0 m Γ a W) (hl:lk Γ t = some (.dat (.val v))) (hg:lk Γ g = some (.gv v k l)):FSq kw X0 w0 m ((t,.dat (.list k l)) :: Γ) a W :=
 h.add fun X Ow hx=>by
  have hf:=hx.facts g _ hg;have ht:=hx.facts t _ hl;unfold ah at hf ht ⊢;rw [gy ht];exact wM hf.1 hf.2
def vG (v:Value) (e e0 e1:D):Prop:=∀ kw X W cs,Rep kw X W v e→aU kw X W e0 cs→aU kw X W e1 cs
theorem vG.here (h:e.isAgg = false):vG v e (.val v) e:=fun kw X W cs h1 h2=>by
 unfold aU at h2;obtain ⟨cs',g1,g2⟩:=h1;obtain ⟨u,g3,g4⟩:=g1.cell h;rw [h2.1,g2,g4,← g3];exact g1
theorem vG.fst {e0 e1 e2:D} (h:vG v e e0 e1):vG v e (.agg [e0,e2]) (.agg [e1,e2]):=fun kw X W cs h1 h2=>by
 unfold aU at h2 ⊢;obtain ⟨c1,c2,g1,g2,g3⟩:=aF.two.1 h2;exact aF.two.2 ⟨c1,c2,g1,h _ _ _ _ h1 g2,g3⟩
theorem vG.snd {e0 e1 e2:D} (h:vG v e e0 e1):vG v e (.agg [e2,e0]) (.agg [e2,e1]):=fun kw X W cs h1 h2=>by
 unfold aU at h2 ⊢;obtain ⟨c1,c2,g1,g2,g3⟩:=aF.two.1 h2;exact aF.two.2 ⟨c1,c2,g1,g2,h _ _ _ _ h1 g3⟩
theorem FSq.aaI {g:Nat} {l:List D} {e0 e1:D} (h:FSq kw X0 w0 m Γ a W) (hl:lk Γ s = some (.box e0)) (hg:lk Γ g = some (.gv v k l)) (hc:vG v (.list k l) e0 e1):FSq kw X0 w0 m ((s,.box e1) :: Γ) a W :=
 h.add fun X Ow hx=>by
  have hf:=hx.facts g _ hg;have ht:=hx.facts s _ hl;unfold ah at hf ht ⊢;obtain ⟨b,es,t,g1,g2,g3,g4,g5⟩:=ht;exact ⟨b,es,t,g1,g2,g3,hc _ _ _ _ (wM hf.1 hf.2) g4,g5⟩
theorem FSq.cvt {g:Nat} {l:List D} {e0 e1:D} (h:FSq kw X0 w0 m Γ a W) (hl:lk Γ s = some (.dat e0)) (hg:lk Γ g = some (.gv v k l)) (hc:vG v (.list k l) e0 e1) (he:e0.isAgg = e1.isAgg):FSq kw X0 w0 m ((s,.dat e1) :: Γ) a W :=
 h.add fun X Ow hx=>by
  have hf:=hx.facts g _ hg;have ht:=hx.facts s _ hl;unfold ah at hf ht ⊢;obtain ⟨cs,h1,h2⟩:=ht;exact ⟨cs,hc _ _ _ _ (wM hf.1 hf.2) h1,by rw [h2];unfold D.mk;rw [he]⟩
theorem afn {g:Nat} {l:List D} {e0 e1:D} (ho:o.op = .load T (.tmp s)) (hd:o.dst = some d) (hdm:d < m) (hn:aB Γ d = true) (ti:TI P T e0.width e0.isAgg) (hl:lk Γ s = some (.box e0)) (hg:lk Γ g = some (.gv v k l)) (hne:d≠g) (hc:vG v (.list k l) e0 e1) (he:e0.isAgg = e1.isAgg):dB P kw X0 w0 m Γ o ((d,.dat e1) :: Γ):=fun a W hs =>
 (Cj ho hd hdm hn ti hl a W hs).mono fun a' W' h=>by
  refine (h.cvt (s:=d) (g:=g) (by simp [lk]) (by rw [lk,if_neg hne];exact hg) hc he).congr fun t=>?_
  unfold lk
  by_cases c1:d = t <;> simp [c1,lk]
theorem ctq {x:Code} {Q:Exit→Act→World→Prop} (h:∀ a W,FSq kw X0 w0 m Γ a W→FSq kw X0 w0 m Γ' a W) (k:CT P kw X0 w0 m Γ' x Q):CT P kw X0 w0 m Γ x Q:=fun a W hs=>k a W (h a W hs)
theorem fK.ex {ι:Sort _} {l:List Oper} {Q:Exit→Act→World→Prop} {Γ':ι→fA} (h:∀ a W,FSq kw X0 w0 m Γ a W→∃ i,FSq kw X0 w0 m (Γ' i) a W) (k:∀ i,fK P ops kw X0 w0 m (Γ' i) l Q):fK P ops kw X0 w0 m Γ l Q:=fun a W hs=>by
 obtain ⟨i,hi⟩:=h a W hs;exact k i a W hi
end
theorem Ov {P:Program} (s2:S2 P T k1 k2) (v2:Value) (h2:v2.cells.size = k2) (W:World) :
 ∃ i z,P.info? T = some i∧i.zero = some z∧(dp T #[(1,v2)]).run P W = .ok (.agg (z.cells.toList.take k1 ++ v2.cells.toList).toArray) W:=by
 obtain ⟨f1,f2,i,z,g1,g2,g3,g4,g5,g6,g7,g8⟩:=s2.ex;refine ⟨i,z,g2,g3,?_⟩;cases hq1:P.info? f1.type with
 | none=>simp [hq1] at g7
 | some i1 =>
  cases hq2:P.info? f2.type with
  | none=>simp [hq2] at g8
  | some i2 =>
   simp [hq1] at g7;simp [hq2] at g8;have hf:br (fun x=>[(0,k1),(k1,k2)][x]?) z.cells [(1,v2)] = some (z.cells.toList.take k1 ++ v2.cells.toList).toArray:=by
    rw [sU (o:=k1) (k:=k2) rfl h2 (by omega)];unfold br;congr 2;have hz:z.cells.toList.length = k1 + k2:=by simpa using g4
    simp only [nV,bj,h2];rw [bp (by omega),eL]
   simp [dp,zeroValue,typeInfo,sizeOf,g2,g3,run_underlying g1,hq1,hq2,g5,g6,g7,g8,hf]
variable {x:Operand}
theorem Qn {P:Program} {kw:Bool} {X0:XS} {w0:World} {m:Nat} {o:Oper} {d:Nat} {e2 z1 z2:D} (ho:o.op = .build T #[(1,x)]) (hd:o.dst = some d) (hdm:d < m) (hn:aB Γ d = true) (s2:S2 P T k1 k2) (zi:ZI P T (.agg [z1,z2])) (hx:jJ kw X0 w0 m Γ x e2) (h2:e2.width = k2) (hz1:z1.width = k1) :
 dB P kw X0 w0 m Γ o ((d,.dat (.agg [z1,e2])) :: Γ) :=
 bK hd hdm hn rfl fun a W X Ow hs=>by
  obtain ⟨c1,c2⟩:=(hx a W X Ow hs).cells;obtain ⟨i',v',g1,g2,g3⟩:=zi.ex;obtain ⟨i,z,g4,g5,hr⟩:=Ov s2 (a.eval x) (c2.trans h2) W;obtain rfl:i' = i:=bh (g1.symm.trans g4);obtain rfl:v' = z:=bh (g2.symm.trans g5);refine ⟨_,by simp only [execOp,ho,bs,bO,cF,hr,bc,ao,a8];rfl,?_⟩;unfold ah;refine oG (aF.two.2 ⟨_,_,rfl,?_,c1⟩);have:=g3 kw X W;unfold aU at this;obtain ⟨x1,x2,e,y1,y2⟩:=aF.two.1 this;rw [e,cj (by rw [y1.len,hz1])];exact y1
section
variable {ops:Array Oper} {kw:Bool} {X0:XS} {w0:World} {m:Nat} {Γ':fA} {o:Oper} {d:Nat} {l:List Oper} {acc:List Hd} {K:List Hd→fA→Prop}
theorem Iu {k2:Nat} {e2 z1 z2:D} (ho:o.op = .build T #[(1,.tmp s)]:=by rfl) (hd:o.dst = some d:=by rfl) (hdm:d < m:=by decide) (hn:aB Γ d = true:=by rfl) (hx:lk Γ s = some (.dat e2):=by rfl) (s2:S2 aD T k1 k2:=by first | exact GH | exact CX | exact FO | exact Dk) (zi:ZI aD T (.agg [z1,z2]):=by first | exact FW | exact GV | exact Gy | exact Fg | exact Ar) (h2:e2.width = k2:=by rfl) (hz1:z1.width = k1:=by rfl):dB aD kw X0 w0 m Γ o ((d,.dat (.agg [z1,e2])) :: Γ) :=
 Qn ho hd hdm hn s2 zi (.t hx) h2 hz1
theorem ab3 {ts:Array TypeId} {ds:List D} {R:F} (en:EN f) (hA:AC aD kw f ds R) (ho:o.op = .call { callee:=.value (.tmp s),args:=xs.toArray,argTypes:=ts }:=by rfl) (hg:o.guard = none:=by rfl) (hd:o.dst = some d:=by rfl) (hdm:d < m:=by decide) (hl:lk Γ s = some (.dat (.val (.func (.func f) #[] #[]))):=by rfl) (hx:Has Γ (Ku xs ds):=by repeat (first | exact UE | refine OO rfl ?_)) (hc:V9 xs ds:=by repeat (first | exact S9 | refine adC ?_ | refine ac5 ?_ | refine adp ?_)) (hR:R.Zt = true:=by rfl) (ct:HT aD ops kw X0 w0 m (⟨(s,.dat (.val (.func (.func f) #[] #[]))) :: Ku xs ds,d,R,false⟩ :: acc) ((d,R) :: Γ) l K):HT aD ops kw X0 w0 m acc Γ (o :: l) K :=
 HT.cons (h:=⟨(s,.dat (.val (.func (.func f) #[] #[]))) :: Ku xs ds,d,R,false⟩) rfl hd (fun Γ h hn'=>(L9 ho hd hdm hn' h.1 en (Aa hc h.2) hR hA).g hg) ⟨hl,hx⟩ ct
theorem ahE {e0 e1:D} (g:Nat) (hc:vG v (.list k es) e0 e1) (ho:o.op = .load T (.tmp s):=by rfl) (hG:o.guard = none:=by rfl) (hd:o.dst = some d:=by rfl) (hdm:d < m:=by decide) (hl:lk Γ s = some (.box e0):=by rfl) (hg:lk Γ g = some (.gv v k es):=by rfl) (hne:d≠g:=by decide) (he:e0.isAgg = e1.isAgg:=by rfl) (ti:TI aD T e0.width e0.isAgg:=by first | exact eU | exact pR) (ct:HT aD ops kw X0 w0 m (⟨[(s,.box e0),(g,.gv v k es)],d,.dat e1,false⟩ :: acc) ((d,.dat e1) :: Γ) l K):HT aD ops kw X0 w0 m acc Γ (o :: l) K :=
 HT.cons (h:=⟨[(s,.box e0),(g,.gv v k es)],d,.dat e1,false⟩) rfl hd (fun Γ h hn'=>(afn ho hd hdm hn' ti h.1 h.2.1 hne hc he).g hG) ⟨hl,hg,trivial⟩ ct
end
end Go.Proofs.YtjdakpfhjlhcbaaGreat
