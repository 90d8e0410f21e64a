/-
  Lemmas and contracts for the statement.
-/
import Derived.Test.YtjdakpfhjlhcbaaGreatJ2
import Derived.RangeFuncBox
import Derived.RangeFuncLeaves
import Derived.Shelf.Abstract
import Derived.WalkKit
import Derived.OwnWalkIn
import Derived.TacticsInMore
import Derived.LoopNIn
import Derived.LoopIn
import Derived.Laws.MathBits
namespace Go.Proofs.YtjdakpfhjlhcbaaGreat
set_option linter.all false
set_option maxRecDepth 100000
set_option maxHeartbeats 16000000
open Go.RowKit Go.Shelf Go.Sort
open Go.Proofs.Tryz renaming prog → aD
open Go.Lib renaming hid → aE
open _root_.Array renaming length_toList→gP,replicate_succ→du,replicate_zero→dt
open Bool renaming and_eq_true→eZ
open Classical renaming byContradiction→gr,choose→fS,choose_spec→eL
open Go renaming wp_at_succ→eV,wp_at_zero→eT
open Go.Addr renaming add→jz,add_mid→gM
open Go.Builtin renaming append_→ix,firstCells→ef,zeroCells→cQ
open Go.Calls renaming mono→aR
open Go.Exit renaming inBlock→ff
open Go.Instr renaming sliceAt→j7,sliceBound→eJ,sliceBounds→iu
open Go.IntKind renaming u64→f8
open Go.Result renaming andThen_ok→bw
open Go.Sem renaming run_bind→cw,run_pure→dc
open Go.World renaming block_lt_of_cell?→eK,cell?_setCell_other→gF
open Int renaming mul_one→ia,natAbs_mul→fL,natCast_ediv→jx,natCast_mul→gD,natCast_pow→gC,sign_eq_neg_one_of_neg→br,sign_eq_one_of_pos→bE
open List renaming append_assoc→db,append_inj→ju,append_nil→ck,append_toArray→ea,cons_append→cg,drop_eq_getElem_cons→eA,drop_of_length_le→fg,drop_succ_cons→ic,drop_zero→ep,eq_nil_of_length_eq_zero→d8,ext_getElem?→iS,getD_eq_getElem?_getD→aq,getElem?_append_left→cG,getElem?_append_right→bL,getElem?_eq_getElem→a6,getElem?_eq_none→aw,getElem?_map→iN,getElem?_replicate→bB,getElem?_take→cP,getElem_mem→jj,length→dx,length_append→aL,length_cons→dr,length_drop→i9,length_map→jt,length_nil→fj,length_set→bj,length_take→eW,map_append→gA,map_cons→cH,map_nil→f6,map_toArray→gl,mem_append→bh,mem_cons→j8,mem_map→da,mem_of_mem_drop→fI,mem_of_mem_take→dz,mem_replicate→il,mem_singleton→ar,nil_append→cJ,push_toArray→eC,replicate→bk,replicate_append_replicate→dp,size_toArray→eB,take_append→iX,take_append_drop→gO,take_of_length_le→bc,take_take→gE
open List.cons renaming inj→ir
open Nat renaming add_mul→eI,add_zero→kf,eq_zero_or_pos→fY,le_max_left→j6,le_mul_of_pos_right→e8,le_refl→ao,le_trans→bs,lt_irrefl→kb,lt_of_le_of_lt→iB,lt_or_ge→aM,lt_trans→ke,min_eq_left→fw,mod_eq_of_lt→js,mod_lt→iz,mul_add→gx,mul_assoc→fX,mul_comm→cj,mul_le_mul→av,mul_le_mul_left→fR,mul_le_mul_right→bA,mul_one→bX,mul_pos→bp,mul_zero→kd,one_le_two_pow→ew,pow_add→a8,pow_le_pow_right→bq,pow_lt_pow_right→ib,pow_pos→cV,pow_succ→bm,reduceAdd→fW,reduceSub→fT,sub_self→gi,zero_add→fh,zero_le→bR
open Nat.Coprime renaming symm→gL
open Option renaming map_none→gk,map_some→gj
open Option.some renaming inj→fN
open Rat renaming add→gh,add_zero→eo,intCast_le_intCast→dk,intCast_mul→j5,intCast_natCast→ij,intCast_neg→d9,mkRat_eq_iff→jn,mkRat_mul_mkRat→ie,mkRat_one→j9,mkRat_self→gH,mul→eh,mul_assoc→dy,mul_comm→kc,mul_eq_zero→j0,mul_inv_cancel→iA,mul_nonneg→dj,mul_one→gT,mul_pos→eE,mul_zero→cF,natCast_le_natCast→fk,natCast_mul→bO,neg→gg,neg_mul→gS,num_eq_zero→jN,one_mul→gR,zero_mul→de
section
variable {P:Program} {ops:Array Oper} {kw:Bool} {X0:XS} {w0:World} {m:Nat} {Γ Γ':fA} {a a':Act} {W W':World} {X X':XS} {Ow Ow':Nat→Option Nat} {o:Oper} {d:Nat}
theorem Jq {T T2 k bytes s:Nat} {z:D} {x:Operand} {l1 l2:List D} (ho:o.op = .call { callee:=.builtin .append,args:=#[.tmp s,x],argTypes:=#[T,T2] }) (hd:o.dst = some d) (hdm:d < m) (hn:aB Γ d = true) (pi:PI P T T2 k z bytes) (hz:z.width = k) (hk:0 < k) (huz:qo kw z) (hw1:∀ e∈l1,e.width = k) (hw2:∀ e∈l2,e.width = k) (hu2:kw = true→D.ik l2 = true) (hF:lG kw X0 w0 m Γ a W X Ow) {base:Option Addr} {c:Nat} {olds:List Value} (hs:a.eval (.tmp s) = .slice base l1.length c) (ho1:aF kw X W l1 olds) (hou:Qs kw olds) (hold:∀ w',(w' = W.drew)→(ef k l1.length (.slice base l1.length c)).run P w' = .ok olds.toArray w') {news:List Value} (hx:∀ e e2,P.underlying T = some (.slice e)→P.underlying T2 = some (.slice e2)→Src P k T2 (a.eval x) l2.length news W) (q2:aF kw X W l2 news) (hg:c < l1.length + l2.length) (hb:(l1.length + l2.length) * bytes≤140737488355328) (hb0:0 < bytes) :
 oC P o a W (FSq kw X0 w0 m ((d,.own k (l1 ++ l2)) :: Γ)):=by
 obtain ⟨e,e2,i,v,p1,p2,p3,p4,p5,p6,p7⟩:=pi.ex;have q1:=hx e e2 p1 p2;subst p5 p6;have hfit:=growslice_fits hg hb;have hlt:l1.length + l2.length≤140737488355328:=bs (e8 _ hb0) hb;have hrun:=run_append_grow_src (P:=P) W T T2 o.type e i v p1 p3 p4 base l1.length c olds (hold _ rfl) (a.eval x) l2.length news q1 hg (by omega) hfit;have hr:(execOp a.eval o).run P W = .ok (.value (.slice (some ⟨W.heap.size,0,none⟩) (l1.length + l2.length) (grownCap W (l1.length + l2.length) c e))) (W.drew.alloc (.cells ((olds ++ news).toArray ++ cQ v.cells (grownCap W (l1.length + l2.length) c e - (l1.length + l2.length))) e)):=by
  simp only [execOp,ho,resolve,gl,cH,f6,cw,dc,bw,invoke,builtin,hs,hrun]
 unfold oC;rw [hr,hd];generalize hcap:grownCap W (l1.length + l2.length) c e = cap at *;have hcge:l1.length + l2.length≤cap:=by rw [← hcap];exact grownCap_ge _ _ _ _
 have hbel:Below W.heap.size W (W.drew.alloc (.cells ((olds ++ news).toArray ++ cQ v.cells (cap - (l1.length + l2.length))) e)):=((Below.refl _ W).drew).alloc (by simp) _;have hol:=ho1.len;have hnl:=q2.len;rw [D.dF hw1] at hol;rw [D.dF hw2] at hnl;have hvs:v.cells.size = i.size:=by rw [← gP,(p7 kw X W).len];exact hz
 refine (hF.fresh hdm hn hbel (by simp) (fun _=>True) ?_).fs;unfold ah;have hap:=ho1.append q2;have htr:Tr kw X (fun b o=>X b o∨(b = W.heap.size∧True)) W (W.drew.alloc (.cells ((olds ++ news).toArray ++ cQ v.cells (cap - (l1.length + l2.length))) e)) :=
  ⟨(Tr.of_below (kw:=kw) (X:=X) hbel).ku,fun b o v hx hc=>⟨fun hx'=>by
   rcases hx' with hx' | ⟨e,_⟩
   · exact hx hx'
   · have:=eK W _ hc;simp only [e] at this;omega,((Tr.of_below (kw:=kw) (X:=X) hbel).keep b o v hx hc).2⟩⟩
 refine ⟨W.heap.size,cap,olds ++ news ++ (cQ v.cells (cap - (l1.length + l2.length))).toList,e,by simp,by rw [iR hF.size hdm,aL],by rw [aL];exact hcge,fun y hy=>?_,?_,?_,?_,?_,fun o=>.inr ⟨rfl,trivial⟩⟩
 · rcases bh.1 hy with hy | hy
   · exact hw1 y hy
   · exact hw2 y hy
 · have:=alloc_at W.drew (.cells ((olds ++ news).toArray ++ cQ v.cells (cap - (l1.length + l2.length))) e);rw [show W.drew.heap.size = W.heap.size from rfl] at this;rw [this];congr 2;apply Array.ext';simp
 · simp only [aL,gP,oz,hvs,hol,hnl];rw [← eI,← eI];congr 1;omega
 · rw [List.take_left' (by simp [hol,hnl,eI])];exact aF.tr htr _ _ hap
 ·
  intro ek u hu;rcases bh.1 hu with hu | hu
  · rcases bh.1 hu with hu | hu
    · exact hou ek u hu
    · exact aF.kJ _ _ q2 (hu2 ek) u hu
  · exact aU.kJ _ _ (p7 kw X W) (huz ek) u (oO hu)
theorem FSq.agO {t g k:Nat} {l:List D} (h:FSq kw X0 w0 m Γ a W) (hl:lk Γ t = some (.own k l)) (hnt:aB Γ t = true) (hng:aB Γ g = true) (hne:t≠g):∃ v:{v:Value // (D.val v).kJ = true},FSq kw X0 w0 m ((t,.dat (.val v.1)) :: (g,.ov v.1 k l) :: Γ) a W:=by
 obtain ⟨X,Ow,hx⟩:=h.x;have hf:=hx.facts t _ hl;unfold ah at hf;obtain ⟨b,c,es,ty,e1,e2,e3,e4,e5,e6,e7⟩:=hf;refine ⟨⟨bY a t,by rw [e2];rfl⟩,(hx.pass hnt hng hne ?_ ?_).fs⟩
 · unfold ah;refine dh ?_;rw [e2];rfl
 · unfold ah;exact ⟨b,c,es,ty,by simp [e1],e2,e3,e4,e5,by omega,e7⟩
theorem Si {t g k:Nat} {v:Value} {l:List D} (hs:lG kw X0 w0 m Γ a W X Ow) (hl:lk Γ t = some (.dat (.val v))) (hg:lk Γ g = some (.ov v k l)):∃ b c es ty,Ow g = some b∧a.eval (.tmp t) = .slice (some ⟨b,0,none⟩) l.length c∧v = .slice (some ⟨b,0,none⟩) l.length c∧l.length≤c∧(∀ d∈l,d.width = k)∧W.heap[b]? = some (.cells es.toArray ty (0,0))∧c * k≤es.length∧aF kw X W l (es.take (l.length * k))∧Qs kw es∧∀ o,X b o:=by
 have h:=hs.facts t _ hl;have h':=hs.facts g _ hg;unfold ah at h h';obtain ⟨b,c,es,ty,g1,g2,g3⟩:=h';exact ⟨b,c,es,ty,g1,(gy h).trans g2,g2,g3⟩
theorem XO {T t g k i:Nat} {x:Operand} {z:Int} {v:Value} {l:List D} (ho:o.op = .indexAddr T (.tmp t) x) (hd:o.dst = some d) (hdm:d < m) (hn:aB Γ d = true) (si:SI P T k) (hl:lk Γ t = some (.dat (.val v))) (hg:lk Γ g = some (.ov v k l)) (hx:Ev kw X0 w0 m Γ x (.int .i64 z)) (hz:z = i) (hi:i < l.length) :
 dB P kw X0 w0 m Γ o ((d,.qH g i k) :: Γ) :=
 bK hd hdm hn rfl fun a W X Ow hs=>by
  obtain ⟨b,c,es,ty,g1,g2,g3,g4⟩:=Si hs hl hg;exact ⟨.pointer (some ⟨b,0 + i * k,none⟩),by simp only [execOp,ho,g2,hx a W hs.fs,run_indexAt si hz hi,cw,bw,dc],by unfold ah;exact ⟨b,g1,by simp⟩⟩
theorem ZA {T s s' i k:Nat} {v:Value} {l:List D} {e:D} (ho:o.op = .load T (.tmp s)) (hd:o.dst = some d) (hdm:d < m) (hn:aB Γ d = true) (ti:TI P T e.width e.isAgg) (hl:lk Γ s = some (.qH s' i k)) (hl':lk Γ s' = some (.ov v k l)) (hi:l[i]? = some e):dB P kw X0 w0 m Γ o ((d,.dat e) :: Γ) :=
 bK hd hdm hn rfl fun a W X Ow hs=>by
  have h:=hs.facts s _ hl;have h':=hs.facts s' _ hl';unfold ah at h h';obtain ⟨b,h1,h2⟩:=h;obtain ⟨b',c,es,t,g1,g2,g3,g4,g5,g6,g7,g8⟩:=h';obtain rfl:b = b':=fN (h1.symm.trans g1);have h2':a.eval (.tmp s) = .pointer (some ⟨b,i * k,none⟩):=h2;have h3:=g7.nth g4 hi;have hw:e.width = k:=g4 e (List.mem_of_getElem? hi);have hil:i < l.length:=(List.getElem?_eq_some_iff.1 hi).1;refine ⟨D.mk e (((es.take (l.length * k)).drop (i * k)).take k),?_,by unfold ah;exact ⟨_,h3,rfl⟩⟩;have hc:∀ j v,(((es.take (l.length * k)).drop (i * k)).take k)[j]? = some v→W.cell? ⟨b,i * k + j,none⟩ = some v:=fun j v hj=>by
   rw [bW g5];rw [cP] at hj
   split at hj
   · rw [List.getElem?_drop,cP] at hj
     split at hj
     · exact hj
     · cases hj
   · cases hj
  simp only [execOp,ho,h2',iU ti h3.len width_one hc,rO,cw,bw,dc]
theorem abd {T s s' i k:Nat} {x:Operand} {v:Value} {l:List D} {e:D} (ho:o.op = .store T (.tmp s) x) (hd:o.dst = none) (hT:(P.info? T).map (·.size) = some k) (hl:lk Γ s = some (.qH s' i k)) (hl':lk Γ s' = some (.ov v k l)) (hi:i < l.length) (hx:jJ kw X0 w0 m Γ x e) (hw:e.width = k) (hu:qo kw e):dB P kw X0 w0 m Γ o ((s',.ov v k (l.set i e)) :: Γ):=by
 intro a W hs;obtain ⟨X,Ow,hF⟩:=hs.x;have h:=hF.facts s' _ hl';have h0:=hF.facts s _ hl;unfold ah at h h0;obtain ⟨b,c,cs,t,g1,g2,g3,g4,g5,g6,g7,g8,g9⟩:=h;obtain ⟨b',q1,q2⟩:=h0;obtain rfl:b = b':=fN (g1.symm.trans q1);obtain ⟨c1,c2⟩:=(hx a W X Ow hF).cells;have hel:(a.eval x).cells.toList.length = k:=by rw [c1.len];exact hw
 have hik:i * k + k≤l.length * k:=by rw [← Nat.succ_mul];exact bA k hi
 have hlc:l.length * k≤c * k:=bA k g3;have q2':a.eval (.tmp s) = .pointer (some ⟨b,i * k,none⟩):=q2;refine sG ho hd (by rw [q2'];exact lM hT rfl hel (aU.one _ _ c1) g5 (by omega)) (hF.write g1 g5 (by omega) g9 g8 ⟨_,hl'⟩ fun tr hh=>?_).fs;unfold ah;refine ⟨b,c,_,t,g1,by rw [bj];exact g2,by rw [bj];exact g3,fun y hy=>?_,hh,by rw [qG (by omega)];exact g6,?_,fun ek v hv=>?_,g9⟩
 · rcases List.mem_or_eq_of_mem_set hy with hy | hy
   · exact g4 y hy
   · rw [hy];exact hw
 · rw [bj];have e2:(nV cs (i * k) (a.eval x).cells.toList).take (l.length * k) = nV (cs.take (l.length * k)) (i * k) (a.eval x).cells.toList:=by
    simp only [nV];rw [iX,iX,gE,gE,List.drop_take];simp only [eW,aL,hel];rw [fw (show i * k≤cs.length by omega),Nat.min_eq_right (show i * k≤l.length * k by omega),fw (show i * k≤l.length * k by omega),bc (l:=(a.eval x).cells.toList) (by omega)]
   rw [e2];exact aF.tr tr _ _ (g7.setAt g4 hi c1 hw)
 · simp only [nV,bh] at hv;rcases hv with (hv | hv) | hv
   · exact g8 ek v (dz hv)
   · exact aU.kJ _ _ c1 (hu ek) v hv
   · exact g8 ek v (fI hv)
theorem aa4 {T e t g k:Nat} {v:Value} {l:List D} (ho:o.op = .call { callee:=.builtin .len,args:=#[.tmp t],argTypes:=#[T] }) (hd:o.dst = some d) (hdm:d < m) (hn:aB Γ d = true) (hT:P.underlying T = some (.slice e)) (hl:lk Γ t = some (.dat (.val v))) (hg:lk Γ g = some (.ov v k l)):dB P kw X0 w0 m Γ o ((d,.dat (.val (.int .i64 (l.length:Nat)))) :: Γ) :=
 bK hd hdm hn rfl fun a W X Ow hs=>by
  obtain ⟨b,c,es,ty,g1,g2,g3,g4⟩:=Si hs hl hg;exact ⟨.int .i64 (l.length:Nat),by simp [execOp,ho,resolve,invoke,builtin,g2,AA hT],gI rfl⟩
def slA (v:Value) (i:Nat):Value:=match v with
 | .slice A _ _=>.slice A i i
 | _=>v
def IK (v:Value) (k j:Nat):Value:=match v with
 | .slice (some A) n c=>.slice (some (if c = j then A else ⟨A.block,A.off + j * k,none⟩)) (n - j) (c - j)
 | _=>v
theorem QY {T k:Nat} (si:SI P T k) {b n c i:Nat} (h1:i≤c) (W:World) :
 (j7 T (.slice (some ⟨b,0,none⟩) n c) none (some (.int .i64 i)) (some (.int .i64 i))).run P W = .ok (.slice (some ⟨b,0,none⟩) i i) W:=by
 obtain ⟨e,g1,g2⟩:=si.ex;cases hq:P.info? e with
 | none=>simp [hq] at g2
 | some info =>
  have hs:info.size = k:=by simpa [hq] using g2
  have hb:(iu true n c none (some (.int .i64 i)) (some (.int .i64 i))).run P W = .ok (0,i,i) W:=by
   have e1:∀ code,(eJ (.int .i64 (i:Int)) c code).run P W = .ok i W:=fun code=>by
    have:((i:Int)≤(c:Int)):=by omega
    simp [eJ,asIntOf,this]
   have e2:∀ code,(eJ (.int .i64 (i:Int)) i code).run P W = .ok i W:=fun code=>by
    simp [eJ,asIntOf]
   simp [iu,e1,e2]
  simp only [j7,cw,run_underlying g1,bw,Instr.slice,hb]
  by_cases hc:i = 0
  · simp [sizeOf,typeInfo,hq,hc]
  · simp [sizeOf,typeInfo,hq,hs,hc,gM]
theorem aem {T t g k i:Nat} {x y:Operand} {z:Int} {v:Value} {l:List D} (ho:o.op = .slice T (.tmp t) none (some x) (some y)) (hd:o.dst = some d) (hdm:d < m) (hn:aB Γ d = true) (si:SI P T k) (hl:lk Γ t = some (.dat (.val v))) (hg:lk Γ g = some (.ov v k l)) (hx:Ev kw X0 w0 m Γ x (.int .i64 z)) (hy:Ev kw X0 w0 m Γ y (.int .i64 z)) (hz:z = i) (hi:i≤l.length) :
 dB P kw X0 w0 m Γ o ((d,.dat (.val (slA v i))) :: Γ) :=
 bK hd hdm hn rfl fun a W X Ow hs=>by
  obtain ⟨b,c,es,ty,g1,g2,g3,g4,_⟩:=Si hs hl hg;subst hz;refine ⟨slA v i,?_,gI (by rw [g3];rfl)⟩;simp only [execOp,ho,g2,gk,gj,hx a W hs.fs,hy a W hs.fs,QY si (show i≤c by omega),cw,bw,dc];rw [g3];rfl
theorem ad8 {T t g k j:Nat} {x:Operand} {z:Int} {v:Value} {l:List D} (ho:o.op = .slice T (.tmp t) (some x) none none) (hd:o.dst = some d) (hdm:d < m) (hn:aB Γ d = true) (si:SI P T k) (hl:lk Γ t = some (.dat (.val v))) (hg:lk Γ g = some (.ov v k l)) (hx:Ev kw X0 w0 m Γ x (.int .i64 z)) (hz:z = j) (hj:j≤l.length) :
 dB P kw X0 w0 m Γ o ((d,.dat (.val (IK v k j))) :: Γ) :=
 bK hd hdm hn rfl fun a W X Ow hs=>by
  obtain ⟨b,c,es,ty,g1,g2,g3,g4,_⟩:=Si hs hl hg;subst hz;have hr:=rE (P:=P) si (b:=b) (o':=0) (n:=l.length) (c:=c) (lo:=some (j:Int)) (hi:=none) (l:=j) (h:=l.length) rfl rfl hj g4 W;refine ⟨IK v k j,?_,gI (by rw [g3];rfl)⟩;simp only [gj,gk] at hr;simp only [execOp,ho,g2,gk,gj,hx a W hs.fs,hr,cw,bw,dc];rw [g3];rfl
theorem abR {T T2 k bytes s t g i:Nat} {z:D} {v:Value} {l:List D} (ho:o.op = .call { callee:=.builtin .append,args:=#[.tmp s,.tmp t],argTypes:=#[T,T2] }) (hd:o.dst = some d) (hdm:d < m) (hdg:d≠g) (hn:aB Γ d = true) (hng:aB Γ g = true) (pi:PI P T T2 k z bytes) (hz:z.width = k) (hk:0 < k) (huz:qo kw z) (hul:kw = true→D.ik l = true) (hs:lk Γ s = some (.dat (.val (slA v i)))) (ht:lk Γ t = some (.dat (.val (IK v k (i + 1))))) (hg:lk Γ g = some (.ov v k l)) (hi:i < l.length) (hb:l.length * bytes≤140737488355328) (hb0:0 < bytes) (a:Act) (W:World) (h:FSq kw X0 w0 m Γ a W) :
 oC P o a W (fun a' W'=>∃ v':{v:Value // (D.val v).kJ = true},FSq kw X0 w0 m ((d,.dat (.val v'.1)) :: (g,.ov v'.1 k (l.eraseIdx i)) :: Γ) a' W'):=by
 obtain ⟨X,Ow,hF⟩:=h.x;have hsv:=hF.fs.val hs;have htv:=hF.fs.val ht;have hf:=hF.facts g _ hg;unfold ah at hf;obtain ⟨b,c,es,ty,g1,g2,g3,g4,g5,g6,g7,g8,g9⟩:=hf;subst g2;have hlc:l.length * k≤c * k:=bA k g3;have hsplit:l = l.take i ++ (l[i] :: l.drop (i + 1)):=by
  conv=>lhs;rw [← gO i l]
  congr 1;exact eA hi
 have her:l.eraseIdx i = l.take i ++ l.drop (i + 1):=List.eraseIdx_eq_take_drop_succ l i;have hR:=g7;rw [hsplit] at hR;obtain ⟨c1,c2,ec,f1,f2⟩:=hR.split;unfold aF at f2;obtain ⟨c3,c4,e34,f3,f4⟩:=f2;subst e34;have l1:c1.length = i * k:=by rw [f1.len,D.dF (fun x hx=>g4 x (dz hx)),eW,fw (by omega)]
 have l3:c3.length = k:=by rw [f3.len];exact g4 _ (jj hi)
 have l4:c4.length = (l.length - (i + 1)) * k:=by rw [f4.len,D.dF (fun x hx=>g4 x (fI hx)),i9]
 rw [← hsplit] at ec;have hcell:=bW g5;have e1:a.eval (.tmp s) = .slice (some ⟨b,0,none⟩) i i:=hsv;have e2:a.eval (.tmp t) = .slice (some (if c = i + 1 then ⟨b,0,none⟩ else ⟨b,0 + (i + 1) * k,none⟩)) (l.length - (i + 1)) (c - (i + 1)):=htv;have hmem:∀ y∈l.take i,y.width = k:=fun y hy=>g4 y (dz hy)
 have hmem2:∀ y∈l.drop (i + 1),y.width = k:=fun y hy=>g4 y (fI hy)
 have hc1m:∀ u∈c1,u∈es:=fun u hu=>dz (show u∈es.take (l.length * k) by rw [ec];exact List.mem_append_left _ hu)
 have htk:(es.take (l.length * k)).take (i * k) = c1:=by rw [ec,← l1,List.take_left]
 have hik:i * k≤l.length * k:=bA k (by omega);have htk2:es.take (i * k) = c1:=by rw [← htk,gE,fw hik]
 have hli:(l.take i).length = i:=by rw [eW];omega
 rcases aM (i + 1) l.length with hlt | hge
 ·
  -- a new row
  have hne:¬ c = i + 1:=by omega
  rw [if_neg hne,fh] at e2;have hld:(l.drop (i + 1)).length = l.length - (i + 1):=i9;refine (Jq ho hd hdm hn pi hz hk huz hmem hmem2 (fun ek=>?_) hF (c:=i) (base:=some ⟨b,0,none⟩) (olds:=c1) (news:=c4) (by rw [hli];exact e1) f1 (fun ek u hu=>g8 ek u (hc1m u hu)) (fun w' hw'=>?_) (fun e e2' p1 p2=>?_) f4 (by rw [hli,hld];omega) (by rw [hli,hld];exact bs (bA _ (by omega)) hb) hb0).mono fun a' W' hk'=>?_
  ·
   have:∀ (l:List D) n,D.ik l = true→D.ik (l.drop n) = true:=by
    intro l
    induction l with
    | nil=>intro n h;simp;rfl
    | cons x l ih =>
     intro n h;cases n with
     | zero=>exact h
     | succ n=>rw [ic];unfold D.ik at h;simp only [eZ] at h;exact ih n h.2
   exact this l (i + 1) (hul ek)
  · subst hw';rw [hli];refine run_firstCells_some (P:=P) W.drew k i ⟨b,0,none⟩ i i c1 l1 fun j v hj=>?_
    rw [gM,fh];show W.cell? ⟨b,j,none⟩ = some v;rw [hcell];rw [← htk2,cP] at hj
    split at hj
    · exact hj
    · cases hj
  ·
   rw [e2,hld];refine Src.ofSlice W p2 _ _ _ c4 l4 (fun j u hj=>?_) (aF.one _ _ f4);rw [gM];show W.cell? ⟨b,(i + 1) * k + j,none⟩ = some u;rw [hcell];have hj2:(c1 ++ (c3 ++ c4))[(i + 1) * k + j]? = some u:=by
    rw [← db,bL (by rw [aL,l1,l3,eI];omega),aL,l1,l3,eI,show i * k + 1 * k + j - (i * k + k) = j by omega];exact hj
   rw [← ec,cP] at hj2
   split at hj2
   · exact hj2
   · cases hj2
  · rw [← her] at hk';obtain ⟨v',hv'⟩:=hk'.agO (t:=d) (g:=g) (k:=k) (l:=l.eraseIdx i) (by simp [lk]) (by unfold aB;rw [hn];rfl) (by unfold aB;rw [hng];rfl) hdg;exact ⟨v',hv'.congr fun s=>by
     unfold lk
     by_cases q1:d = s <;> by_cases q2:g = s <;> simp [q1,q2,lk]⟩
 ·
  -- the last one
  have hl1:l.length = i + 1:=by omega
  have hld:l.drop (i + 1) = []:=List.drop_eq_nil_of_le (by omega);obtain ⟨e,e2',inf,zv,p1,p2,p3,p4,p5,p6,p7⟩:=pi.ex;have hr:(execOp a.eval o).run P W = .ok (.value (.slice (some ⟨b,0,none⟩) i i)) W:=by
   have hfc:∀ (A:Option Addr) (c:Nat),(ef inf.size 0 (.slice A 0 c)).run P W = .ok #[] W:=fun A c=>by
    cases A <;> simp [ef,loadCells,loadCellsFrom]
   have:(ix #[T,T2] o.type #[.slice (some ⟨b,0,none⟩) i i,.slice (some (if c = i + 1 then ⟨b,0,none⟩ else ⟨b,0 + (i + 1) * k,none⟩)) 0 (c - (i + 1))]).run P W = .ok (.slice (some ⟨b,0,none⟩) i i) W:=by
    simp [ix,run_underlying p1,run_underlying p2,sizeOf,typeInfo,p3,Builtin.lenOf,hfc,storeCells]
   rw [hl1,gi] at e2;simp only [execOp,ho,resolve,gl,cH,f6,cw,dc,bw,invoke,builtin,e1,e2,this]
  unfold oC;rw [hr,hd];refine ⟨⟨.slice (some ⟨b,0,none⟩) i i,rfl⟩,?_⟩;have hx2:=hF.put (v:=.slice (some ⟨b,0,none⟩) i i) (f:=.dat (.val (.slice (some ⟨b,0,none⟩) i i))) hdm hn (Below.refl _ _) (by unfold ah;rw [iR hF.size hdm];exact dh rfl);have hgf:=hx2.facts g _ (by rw [lk,if_neg hdg];exact hg);have hy:ah kw X W Ow (bY (a.put (some d) (.slice (some ⟨b,0,none⟩) i i))) g (.ov (.slice (some ⟨b,0,none⟩) i i) k (l.eraseIdx i)):=by
   unfold ah;refine ⟨b,i,es,ty,g1,by rw [her,hld,ck,hli],by rw [her,hld,ck,hli];exact ao _,fun y hy=>?_,g5,?_,?_,g8,g9⟩
   · rw [her] at hy;rcases bh.1 hy with hy | hy
     · exact hmem y hy
     · exact hmem2 y hy
   · omega
   · rw [her,hld,ck,hli,htk2];exact f1
  refine lG.fs (X:=X) (Ow:=Ow) ⟨hx2.size,hx2.defs,hx2.below,hx2.x0,hx2.env,fun u f hu=>?_⟩;unfold lk at hu
  split at hu
  · rename_i q1;injection hu with hu;rw [← hu,← q1];exact hx2.facts d _ (by simp [lk])
  · rename_i q1;unfold lk at hu
    split at hu
    · rename_i q2;injection hu with hu;rw [← hu,← q2];exact hy
    · exact hx2.facts u f (by rw [lk,if_neg q1];exact hu)
theorem adI {ι:Sort _} {l:List Oper} {Q:Exit→Act→World→Prop} {Γ':ι→fA} (hg:o.guard = none) (h:∀ a W,FSq kw X0 w0 m Γ a W→oC P o a W (fun a' W'=>∃ i,FSq kw X0 w0 m (Γ' i) a' W')) (k:∀ i,fK P ops kw X0 w0 m (Γ' i) l Q):fK P ops kw X0 w0 m Γ (o :: l) Q:=by
 intro a W hs;unfold wpList;rw [if_pos (by simp [Region.wanted,hg])];exact .inl ((h a W hs).mono fun a' w' ⟨i,hi⟩=>k i a' w' hi).wp
theorem FSq.PQ {s g k:Nat} {v:Value} {l:List D} {e0 e1:D} (h:FSq kw X0 w0 m Γ a W) (hl:lk Γ s = some (.box e0)) (hg:lk Γ g = some (.ov v k l)) (hn:aB Γ g = true) (hne:s≠g) (hc:vG v (.list k l) e0 e1):FSq kw X0 w0 m ((s,.box e1) :: (g,.any) :: Γ) a W:=by
 obtain ⟨X,Ow,hx⟩:=h.x;have hf:=hx.facts g _ hg;have hb:=hx.facts s _ hl;unfold ah at hf hb;obtain ⟨b,c,es,t,g1,g2,g3,g4,g5,g6,g7,g8,g9⟩:=hf
 let X1:XS:=fun b' o=>X b' o∧b'≠b
 have tr:Tr kw X X1 W W:=⟨fun _=>kE.refl _,fun b' o v hx' hc=>⟨fun h=>hx' h.1,hc⟩⟩;obtain ⟨r1,r2⟩:=hx.env.wS g b g1;have hrep:Rep kw X1 W v (.list k l):=by
  rw [g2];have hlc:l.length * k≤c * k:=bA k g3;refine dI g3 g4 fun _=>⟨b,0,es.take (l.length * k),rfl,by rw [eW];omega,fun j v hj=>⟨fun h=>h.2 rfl,?_⟩,aF.tr tr _ _ g7⟩
  rw [fh,bW g5];rw [cP] at hj
  split at hj
  · exact hj
  · cases hj
 obtain ⟨b2,cs,t2,q1,q2,q3,q4,q5,q6⟩:=hb;have hbb:b2≠b:=fun e=>hne (hx.env.inj s g b2 q1 (by rw [g1,e]))
 refine lG.fs (X:=X1) (Ow:=Ow) (hx.re (fun u=>u = g) hx.size hx.defs hx.below ⟨fun b' o h=>⟨hx.env.sub b' o h,fun e=>?_⟩,fun b' o h=>hx.env.sup b' o h.1,hx.env.inj,hx.env.wS⟩ tr (fun _ _=>rfl) (fun u b' hu hb'=>⟨hb',rfl,fun o=>⟨fun h=>h.1,fun h=>⟨h,fun e=>hu (hx.env.inj u g b (by rw [hb',e]) g1)⟩⟩⟩) (fun u hu=>by rw [hu];exact hn) fun u f hu=>?_)
 · have:=hx.x0 b' o h;omega
 ·
  unfold lk at hu
  split at hu
  · rename_i es';injection hu with hu
    rw [← hu,← es'];refine .inr ?_;unfold ah;exact ⟨b2,cs,t2,q1,q2,q3,hc _ _ _ _ hrep (aU.tr tr _ _ q4),q5,fun o=>⟨q6 o,hbb⟩⟩
  · rename_i es';unfold lk at hu
    split at hu
    · injection hu with hu;rw [← hu];refine .inr ?_;unfold ah;trivial
    · rename_i es2;exact .inl ⟨fun e=>es2 e.symm,hu⟩
theorem aeD {T k k2 s t:Nat} {l:List D} {e2:D} (ho:o.op = .build T #[(0,.tmp s),(1,.tmp t)]) (hd:o.dst = some d) (hdm:d < m) (hn:aB Γ d = true) (hne:d≠s) (s2:S2 P T 1 k2) (hs:lk Γ s = some (.own k l)) (ht:lk Γ t = some (.dat e2)) (h2:e2.width = k2) :
 dB P kw X0 w0 m Γ o ((d,.Sm s e2) :: Γ):=by
 intro a W h;obtain ⟨X,Ow,hx⟩:=h.x;have hf:=hx.facts s _ hs;unfold ah at hf;obtain ⟨b,c,es,ty,g1,g2,g3⟩:=hf;have g2':a.eval (.tmp s) = .slice (some ⟨b,0,none⟩) l.length c:=g2;obtain ⟨c3,c4⟩:=(jJ.t ht a W X Ow hx).cells;have hr:(execOp a.eval o).run P W = .ok (.value (.agg ((a.eval (.tmp s)).cells.toList ++ (a.eval (.tmp t)).cells.toList).toArray)) W:=by
  simp only [execOp,ho,gl,cH,f6,y8 s2 _ _ (show (a.eval (.tmp s)).cells.size = 1 by rw [g2'];rfl) (c4.trans h2),cw,bw,dc]
 unfold oC;rw [hr,hd];refine (hx.put hdm hn (Below.refl _ _) ?_).fs;unfold ah;exact ⟨_,by rw [iR hx.size hdm,show bY (a.put (some d) (.agg ((a.eval (.tmp s)).cells.toList ++ (a.eval (.tmp t)).cells.toList).toArray)) s = a.eval (.tmp s) from eval_put_ne hne],c3⟩
theorem FSq.ahW {t s g k:Nat} {l:List D} {e2:D} (h:FSq kw X0 w0 m Γ a W) (hl:lk Γ t = some (.Sm s e2)) (hs:lk Γ s = some (.own k l)) (hsub:Sub Γ' Γ) (n1:aB Γ' s = true) (n2:aB Γ' g = true) (h1:s≠g):∃ v:{v:Value // (D.val v).kJ = true},FSq kw X0 w0 m ((t,.dat (.agg [.val v.1,e2])) :: (s,.dat (.val v.1)) :: (g,.ov v.1 k l) :: Γ') a W:=by
 obtain ⟨X,Ow,hx⟩:=h.x;have hf:=hx.facts s _ hs;have hb:=hx.facts t _ hl;unfold ah at hf hb;obtain ⟨b,c,es,ty,e1,e2',e3,e4,e5,e6,e7⟩:=hf;obtain ⟨cs,q1,q2⟩:=hb;have hx':lG kw X0 w0 m Γ' a W X Ow:=⟨hx.size,hx.defs,hx.below,hx.x0,hx.env,fun s f hl=>hx.facts s f (hsub.lkm hl)⟩;refine ⟨⟨bY a s,by rw [e2'];rfl⟩,((hx'.pass (f:=.dat (.val (bY a s))) (f':=.ov (bY a s) k l) n1 n2 h1 ?_ ?_).ad9 ?_).fs⟩
 · unfold ah;refine dh ?_;rw [e2'];rfl
 · unfold ah;exact ⟨b,c,es,ty,by simp [e1],e2',e3,e4,e5,by omega,e7⟩
 · unfold ah;rw [q1];have hcell:(bY a s).cells.toList = [bY a s]∧(bY a s).oneCell' = true:=by rw [e2'];exact ⟨rfl,rfl⟩
   refine oG (aF.two.2 ⟨_,cs,rfl,?_,q2⟩);unfold aU;exact hcell
theorem FSq.ZU {s k:Nat} (h:FSq kw X0 w0 m Γ a W) (hl:lk Γ s = some .e0):FSq kw X0 w0 m ((s,.dat (.list k [])) :: Γ) a W :=
 h.add fun X Ow hx=>by
  have hf:=hx.facts s _ hl;unfold ah at hf ⊢;obtain ⟨A,h1⟩:=hf;rw [h1];exact dI (l:=[]) (by simp) (by simp) (fun h=>absurd rfl h)
theorem Vz {T T2 k bytes s:Nat} {z:D} {x:Operand} (ho:o.op = .call { callee:=.builtin .append,args:=#[.tmp s,x],argTypes:=#[T,T2] }) (hd:o.dst = some d) (hdm:d < m) (hn:aB Γ d = true) (pi:PI P T T2 k z bytes) (hl:lk Γ s = some .e0) (hx:jJ kw X0 w0 m Γ x (.list k [])):dB P kw X0 w0 m Γ o ((d,.dat (.list k [])) :: Γ):=fun a W hs =>
 (DU ho hd hdm hn pi hl hx a W hs).mono fun a' W' h=>(h.ZU (s:=d) (k:=k) (by simp [lk])).congr fun t=>by
  unfold lk
  by_cases c1:d = t <;> simp [c1,lk]
theorem Ll {T T2 k bytes s:Nat} {z:D} {x:Operand} {l2:List D} (ho:o.op = .call { callee:=.builtin .append,args:=#[.tmp s,x],argTypes:=#[T,T2] }) (hd:o.dst = some d) (hdm:d < m) (hn:aB Γ d = true) (pi:PI P T T2 k z bytes) (hz:z.width = k) (hk:0 < k) (huz:qo kw z) (hl:lk Γ s = some .e0) (hx:jJ kw X0 w0 m Γ x (.list k l2)) (hne:l2≠[]) (hu2:kw = true→D.ik l2 = true) (hb:l2.length * bytes≤140737488355328) (hb0:0 < bytes):dB P kw X0 w0 m Γ o ((d,.own k l2) :: Γ):=by
 intro a W hs;obtain ⟨X,Ow,hF⟩:=hs.x;have hf:=hF.facts s _ hl;unfold ah at hf;obtain ⟨A,h1⟩:=hf;have h1':a.eval (.tmp s) = .slice A 0 0:=h1;have hxr:=hx a W X Ow hF;have hw2:∀ e∈l2,e.width = k:=by obtain ⟨A,c,_,_,h,_⟩:=jm hxr;exact h
 have hpos:0 < l2.length:=by cases l2 <;> simp_all
 exact Dy ho hd hdm hn pi hz hk huz (l1:=[]) (l2:=l2) (by simp) hw2 hu2 hF (c:=0) (base:=A) (olds:=[]) h1' (by unfold aF;rfl) (fun _ _ h=>by cases h) (fun w' _=>by cases A <;> simp [ef,loadCells,loadCellsFrom]) hxr (by simp;omega) (by simpa using hb) hb0
end
section
variable {ops:Array Oper} {kw:Bool} {X0:XS} {w0:World} {m:Nat} {Γ Γ':fA} {o:Oper} {d s:Nat} {l:List Oper} {acc:List Hd} {K:List Hd→fA→Prop}
theorem WE {T k bytes t:Nat} {z:D} (pi:PI aD T T k z bytes) (ho:o.op = .call { callee:=.builtin .append,args:=#[.tmp s,.tmp t],argTypes:=#[T,T] }:=by rfl) (hG:o.guard = none:=by rfl) (hd:o.dst = some d:=by rfl) (hdm:d < m:=by decide) (hl:lk Γ s = some .e0:=by rfl) (hx:lk Γ t = some (.dat (.list k [])):=by rfl) (ct:HT aD ops kw X0 w0 m (⟨[(s,.e0),(t,.dat (.list k []))],d,.dat (.list k []),false⟩ :: acc) ((d,.dat (.list k [])) :: Γ) l K):HT aD ops kw X0 w0 m acc Γ (o :: l) K :=
 HT.cons (h:=⟨[(s,.e0),(t,.dat (.list k []))],d,.dat (.list k []),false⟩) rfl hd (fun Γ h hn'=>(Vz ho hd hdm hn' pi h.1 (.t h.2.1)).g hG) ⟨hl,hx,trivial⟩ ct
theorem abH {T k bytes t:Nat} {z:D} {l2:List D} (pi:PI aD T T k z bytes) (hne:l2≠[]) (hb:l2.length * bytes≤140737488355328) (hu2:D.ik l2 = true) (ho:o.op = .call { callee:=.builtin .append,args:=#[.tmp s,.tmp t],argTypes:=#[T,T] }:=by rfl) (hG:o.guard = none:=by rfl) (hd:o.dst = some d:=by rfl) (hdm:d < m:=by decide) (hl:lk Γ s = some .e0:=by rfl) (hx:lk Γ t = some (.dat (.list k l2)):=by rfl) (hz:z.width = k:=by rfl) (hk:0 < k:=by decide) (huz:z.kJ = true:=by rfl) (hb0:0 < bytes:=by decide) (ct:HT aD ops kw X0 w0 m (⟨[(s,.e0),(t,.dat (.list k l2))],d,.own k l2,false⟩ :: acc) ((d,.own k l2) :: Γ) l K):HT aD ops kw X0 w0 m acc Γ (o :: l) K :=
 HT.cons (h:=⟨[(s,.e0),(t,.dat (.list k l2))],d,.own k l2,false⟩) rfl hd (fun Γ h hn'=>(Ll ho hd hdm hn' pi hz hk (fun _=>huz) h.1 (.t h.2.1) hne (fun _=>hu2) hb hb0).g hG) ⟨hl,hx,trivial⟩ ct
theorem ahC {T k k2 t:Nat} {es:List D} {e2:D} (ho:o.op = .build T #[(0,.tmp s),(1,.tmp t)]:=by rfl) (hG:o.guard = none:=by rfl) (hd:o.dst = some d:=by rfl) (hdm:d < m:=by decide) (hne:d≠s:=by decide) (hs:lk Γ s = some (.own k es):=by rfl) (ht:lk Γ t = some (.dat e2):=by rfl) (s2:S2 aD T 1 k2:=by first | exact CX | exact Dk) (h2:e2.width = k2:=by rfl) (ct:HT aD ops kw X0 w0 m (⟨[(s,.own k es),(t,.dat e2)],d,.Sm s e2,false⟩ :: acc) ((d,.Sm s e2) :: Γ) l K):HT aD ops kw X0 w0 m acc Γ (o :: l) K :=
 HT.cons (h:=⟨[(s,.own k es),(t,.dat e2)],d,.Sm s e2,false⟩) rfl hd (fun Γ h hn'=>(aeD ho hd hdm hn' hne s2 h.1 h.2.1 h2).g hG) ⟨hs,ht,trivial⟩ ct
theorem X9 {T k:Nat} {z:D} {bytes:Nat} (pi:PI aD T T k z bytes) (ho:o.op = .buildSlice T 0 #[]:=by rfl) (hg:o.guard = none:=by rfl) (hd:o.dst = some d:=by rfl) (hdm:d < m:=by decide) (ct:HT aD ops kw X0 w0 m (⟨[],d,.e0,false⟩ :: acc) ((d,.e0) :: Γ) l K):HT aD ops kw X0 w0 m acc Γ (o :: l) K:=by
 obtain ⟨e,e2,i,v,p1,p2,p3,p4,p5,p6,p7⟩:=pi.ex;exact HT.cons (h:=⟨[],d,.e0,false⟩) rfl hd (fun Γ h hn'=>(X5 ho hd hdm hn' p1 p3).g hg) trivial ct
theorem aht {T t k i:Nat} {z:Int} {v:Value} {es:List D} (g:Nat) (hz:z = (i:Int)) (hi:i < es.length) (ho:o.op = .indexAddr T (.tmp s) (.tmp t):=by rfl) (hd:o.dst = some d:=by rfl) (hdm:d < m:=by decide) (hn:aB Γ d = true:=by rfl) (hl:lk Γ s = some (.dat (.val v)):=by rfl) (hg:lk Γ g = some (.ov v k es):=by rfl) (hx:lk Γ t = some (.dat (.val (.int .i64 z))):=by rfl) (si:SI aD T k:=by first | exact ig | exact jh | exact gV | exact jg | exact gW | exact dS):dB aD kw X0 w0 m Γ o ((d,.qH g i k) :: Γ) :=
 XO ho hd hdm hn si hl hg (.t hx) hz hi
theorem iJ {T t k i:Nat} {z:Int} {v:Value} {es:List D} (g:Nat) (hz:z = (i:Int)) (hi:i < es.length) (ho:o.op = .indexAddr T (.tmp s) (.tmp t):=by rfl) (hG:o.guard = none:=by rfl) (hd:o.dst = some d:=by rfl) (hdm:d < m:=by decide) (hl:lk Γ s = some (.dat (.val v)):=by rfl) (hg:lk Γ g = some (.ov v k es):=by rfl) (hx:lk Γ t = some (.dat (.val (.int .i64 z))):=by rfl) (si:SI aD T k:=by first | exact ig | exact jh | exact gV | exact jg | exact gW | exact dS) (ct:HT aD ops kw X0 w0 m (⟨[(s,.dat (.val v)),(g,.ov v k es),(t,.dat (.val (.int .i64 z)))],d,.qH g i k,false⟩ :: acc) ((d,.qH g i k) :: Γ) l K):HT aD ops kw X0 w0 m acc Γ (o :: l) K :=
 HT.cons (h:=⟨[(s,.dat (.val v)),(g,.ov v k es),(t,.dat (.val (.int .i64 z)))],d,.qH g i k,false⟩) rfl hd (fun Γ h hn'=>(XO ho hd hdm hn' si h.1 h.2.1 (.t h.2.2.1) hz hi).g hG) ⟨hl,hg,hx,trivial⟩ ct
theorem ahN {T s' k i:Nat} {v:Value} {es:List D} {e:D} (hi:es[i]? = some e) (ho:o.op = .load T (.tmp s):=by rfl) (hd:o.dst = some d:=by rfl) (hdm:d < m:=by decide) (hn:aB Γ d = true:=by rfl) (hl:lk Γ s = some (.qH s' i k):=by rfl) (hg:lk Γ s' = some (.ov v k es):=by rfl) (ti:TI aD T e.width e.isAgg:=by first | exact kK | exact kQ | exact nM | exact eU | exact mO):dB aD kw X0 w0 m Γ o ((d,.dat e) :: Γ) :=
 ZA ho hd hdm hn ti hl hg hi
theorem qQ {T s' k i:Nat} {v:Value} {es:List D} {e:D} (hi:es[i]? = some e) (ho:o.op = .load T (.tmp s):=by rfl) (hG:o.guard = none:=by rfl) (hd:o.dst = some d:=by rfl) (hdm:d < m:=by decide) (hl:lk Γ s = some (.qH s' i k):=by rfl) (hg:lk Γ s' = some (.ov v k es):=by rfl) (ti:TI aD T e.width e.isAgg:=by first | exact kK | exact kQ | exact nM | exact eU | exact mO) (ct:HT aD ops kw X0 w0 m (⟨[(s,.qH s' i k),(s',.ov v k es)],d,.dat e,false⟩ :: acc) ((d,.dat e) :: Γ) l K):HT aD ops kw X0 w0 m acc Γ (o :: l) K :=
 HT.cons (h:=⟨[(s,.qH s' i k),(s',.ov v k es)],d,.dat e,false⟩) rfl hd (fun Γ h hn'=>(ZA ho hd hdm hn' ti h.1 h.2.1 hi).g hG) ⟨hl,hg,trivial⟩ ct
theorem aio {T t u k i:Nat} {z:Int} {v:Value} {es:List D} (g:Nat) (hz:z = (i:Int)) (hi:i≤es.length) (ho:o.op = .slice T (.tmp s) none (some (.tmp t)) (some (.tmp u)):=by rfl) (hG:o.guard = none:=by rfl) (hd:o.dst = some d:=by rfl) (hdm:d < m:=by decide) (hl:lk Γ s = some (.dat (.val v)):=by rfl) (hg:lk Γ g = some (.ov v k es):=by rfl) (hx:lk Γ t = some (.dat (.val (.int .i64 z))):=by rfl) (hy:lk Γ u = some (.dat (.val (.int .i64 z))):=by rfl) (si:SI aD T k:=by first | exact ig | exact jh | exact gV | exact jg | exact gW | exact dS) (ct:HT aD ops kw X0 w0 m (⟨[(s,.dat (.val v)),(g,.ov v k es),(t,.dat (.val (.int .i64 z))),(u,.dat (.val (.int .i64 z)))],d,.dat (.val (slA v i)),false⟩ :: acc) ((d,.dat (.val (slA v i))) :: Γ) l K):HT aD ops kw X0 w0 m acc Γ (o :: l) K :=
 HT.cons (h:=⟨[(s,.dat (.val v)),(g,.ov v k es),(t,.dat (.val (.int .i64 z))),(u,.dat (.val (.int .i64 z)))],d,.dat (.val (slA v i)),false⟩) rfl hd (fun Γ h hn'=>(aem ho hd hdm hn' si h.1 h.2.1 (.t h.2.2.1) (.t h.2.2.2.1) hz hi).g hG) ⟨hl,hg,hx,hy,trivial⟩ ct
theorem aia {T t k j:Nat} {z:Int} {v:Value} {es:List D} (g:Nat) (hz:z = (j:Int)) (hj:j≤es.length) (ho:o.op = .slice T (.tmp s) (some (.tmp t)) none none:=by rfl) (hG:o.guard = none:=by rfl) (hd:o.dst = some d:=by rfl) (hdm:d < m:=by decide) (hl:lk Γ s = some (.dat (.val v)):=by rfl) (hg:lk Γ g = some (.ov v k es):=by rfl) (hx:lk Γ t = some (.dat (.val (.int .i64 z))):=by rfl) (si:SI aD T k:=by first | exact ig | exact jh | exact gV | exact jg | exact gW | exact dS) (ct:HT aD ops kw X0 w0 m (⟨[(s,.dat (.val v)),(g,.ov v k es),(t,.dat (.val (.int .i64 z)))],d,.dat (.val (IK v k j)),false⟩ :: acc) ((d,.dat (.val (IK v k j))) :: Γ) l K):HT aD ops kw X0 w0 m acc Γ (o :: l) K :=
 HT.cons (h:=⟨[(s,.dat (.val v)),(g,.ov v k es),(t,.dat (.val (.int .i64 z)))],d,.dat (.val (IK v k j)),false⟩) rfl hd (fun Γ h hn'=>(ad8 ho hd hdm hn' si h.1 h.2.1 (.t h.2.2.1) hz hj).g hG) ⟨hl,hg,hx,trivial⟩ ct
theorem C9 {T k e:Nat} {v:Value} {es:List D} (g:Nat) (ho:o.op = .call { callee:=.builtin .len,args:=#[.tmp s],argTypes:=#[T] }:=by rfl) (hd:o.dst = some d:=by rfl) (hdm:d < m:=by decide) (hn:aB Γ d = true:=by rfl) (hT:aD.underlying T = some (.slice e):=by first | exact Tryz.underlying25 | exact Tryz.underlying24) (hl:lk Γ s = some (.dat (.val v)):=by rfl) (hg:lk Γ g = some (.ov v k es):=by rfl):dB aD kw X0 w0 m Γ o ((d,.dat (.val (.int .i64 (es.length:Nat)))) :: Γ) :=
 aa4 ho hd hdm hn hT hl hg
theorem jy {T s' k i:Nat} {x:Operand} {v:Value} {es:List D} {e:D} (hi:i < es.length) (ho:o.op = .store T (.tmp s) x:=by rfl) (hd:o.dst = none:=by rfl) (hl:lk Γ s = some (.qH s' i k):=by rfl) (hg:lk Γ s' = some (.ov v k es):=by rfl) (hx:jJ kw X0 w0 m Γ x e:=by first | exact .t rfl | exact .c rfl | exact .grow rfl) (hT:(aD.info? T).map (·.size) = some k:=by kernel_rfl) (hw:e.width = k:=by rfl) (hu:e.kJ = true:=by rfl):dB aD kw X0 w0 m Γ o ((s',.ov v k (es.set i e)) :: Γ) :=
 abd ho hd hT hl hg hi hx hw fun _=>hu
end
section
variable {P:Program} {ops:Array Oper} {kw:Bool} {X0:XS} {w0:World} {m:Nat} {Γ Γ':fA} {Q:Exit→Act→World→Prop}
def yU:List Nat→fA→fA→Prop
 | [],Γ',_=>Γ' = []
 | s :: l,Γ',Γ=>∃ f Γ'',Γ' = (s,f) :: Γ''∧lk Γ s = some f∧yU l Γ'' Γ
theorem yU.sub:∀ {l:List Nat} {Γ' Γ:fA},yU l Γ' Γ→Sub Γ' Γ
 | [],_,_,h=>by have h:_ = []:=h;subst h;exact trivial
 | s :: l,_,_,⟨f,Γ'',e,h1,h2⟩=>by subst e;exact ⟨h1,h2.sub⟩
theorem CZ:yU [] [] Γ:=rfl
theorem Dh {s:Nat} {f:F} {l:List Nat} (hl:lk Γ s = some f) (h:yU l Γ' Γ):yU (s :: l) ((s,f) :: Γ') Γ:=⟨f,Γ',rfl,hl,h⟩
theorem sbk (l:List Nat) (h:yU l Γ' Γ:=by repeat (first | exact CZ | apply Dh rfl)):Sub Γ' Γ:=h.sub
theorem gU (l:List Nat) (h:yU l Γ' Γ:=by repeat (first | exact CZ | apply Dh rfl)) (k:NT kw X0 w0 m Γ' Q):fK P ops kw X0 w0 m Γ [] Q:=fK.weak (Rt k) h.sub
theorem sqv {lo:List Oper} (l:List Nat) (h:yU l Γ' Γ:=by repeat (first | exact CZ | apply Dh rfl)) (k:fK P ops kw X0 w0 m Γ' lo Q):fK P ops kw X0 w0 m Γ lo Q:=fK.weak k h.sub
theorem SQ {c:Code} (l:List Nat) (h:yU l Γ' Γ:=by repeat (first | exact CZ | apply Dh rfl)) (k:CT P kw X0 w0 m Γ' c Q):CT P kw X0 w0 m Γ c Q:=CT.weak k h.sub
theorem nqw (l:List Nat) (h:yU l Γ' Γ:=by repeat (first | exact CZ | apply Dh rfl)) (k:NT kw X0 w0 m Γ' Q):NT kw X0 w0 m Γ Q:=NT.weak k h.sub
theorem UO {c:Nat} {x y:Code} {p:Prop} [Decidable p] (hl:lk Γ c = some (.dat (.val (.bool (decide p)))):=by rfl) (h:¬ p:=by first | omega | decide +kernel | (simp;done)) (k:CT P kw X0 w0 m Γ y Q):CT P kw X0 w0 m Γ (.cond (.tmp c) x y) Q:=yh hl (fun e=>absurd (of_decide_eq_true e) h) fun _=>k
theorem cfy {c:Nat} {x y:Code} {p:Prop} [Decidable p] (hl:lk Γ c = some (.dat (.val (.bool (decide p)))):=by rfl) (h:p:=by first | rfl | omega | decide +kernel | (simp;done)) (k:CT P kw X0 w0 m Γ x Q):CT P kw X0 w0 m Γ (.cond (.tmp c) x y) Q:=yh hl (fun _=>k) fun e=>absurd h (of_decide_eq_false e)
theorem O3 {c:Nat} {x y:Code} {b:Bool} (hl:lk Γ c = some (.dat (.val (.bool b))):=by rfl) (h:¬ b = true:=by first | decide +kernel | (simp;done)) (k:CT P kw X0 w0 m Γ y Q):CT P kw X0 w0 m Γ (.cond (.tmp c) x y) Q:=yh hl (fun e=>absurd e h) fun _=>k
theorem Zz {c:Nat} {x y:Code} {b:Bool} (hl:lk Γ c = some (.dat (.val (.bool b))):=by rfl) (h:¬ b = false:=by first | decide +kernel | (simp;done)) (k:CT P kw X0 w0 m Γ x Q):CT P kw X0 w0 m Γ (.cond (.tmp c) x y) Q:=yh hl (fun _=>k) fun e=>absurd e h
theorem Ee {r:ResultVar} {e:D} (h:MN aD kw X0 w0 m Γ r e:=by first | exact nO (.t rfl) | exact nO (.grow rfl) | exact oN (by first | exact kK | exact mO | exact eU | exact pR | exact kZ | exact qF | exact tH) rfl | exact nO (jJ.nil (.t rfl))):MN aD kw X0 w0 m Γ r e:=h
theorem dG {fn:Func} {r:ResultVar} {e:D} (hr:fn.results = #[r]:=by rfl) (h:MN aD kw X0 w0 m Γ r e:=by exact Ee):RT kw X0 w0 m Γ (RQ aD kw X0 w0 fn (.dat e)):=Sj hr h
theorem qJ {fn:Func} {r r':ResultVar} {e e':D} (hr:fn.results = #[r,r']:=by rfl) (h:MN aD kw X0 w0 m Γ r e:=by exact Ee) (h':MN aD kw X0 w0 m Γ r' e':=by exact Ee):RT kw X0 w0 m Γ (RQ aD kw X0 w0 fn (.bT [e,e'])):=pW hr h h'
theorem UN {fn:Func} {r r' r'':ResultVar} {e e' e'':D} (hr:fn.results = #[r,r',r'']:=by rfl) (h:MN aD kw X0 w0 m Γ r e:=by exact Ee) (h':MN aD kw X0 w0 m Γ r' e':=by exact Ee) (h'':MN aD kw X0 w0 m Γ r'' e'':=by exact Ee):RT kw X0 w0 m Γ (RQ aD kw X0 w0 fn (.bT [e,e',e''])):=ada hr h h' h''
theorem qj {fn:Func} {t k:Nat} {l:List D} (hr:fn.results = #[.tmp t]:=by rfl) (hl:lk Γ t = some (.grow k l):=by rfl):RT kw X0 w0 m Γ (RQ P kw X0 w0 fn (.grow k l)):=GX hr hl
theorem KZ {fn:Func} {t k:Nat} {l:List D} (hr:fn.results = #[.tmp t]:=by rfl) (hl:lk Γ t = some (.own k l):=by rfl):RT kw X0 w0 m Γ (RQ P kw X0 w0 fn (.own k l)):=acu hr hl
theorem aix {f:FuncId} {fn:Func} {c:Code} {ds:List D} {R:F} (m:Nat) (hf:P.funcs[f]? = some fn) (hb:fn.body = some c:=by rfl) (hm:fn.ntmps = m:=by rfl) (hle:ds.length≤m:=by simp) (k:∀ {X0:XS} {w0:World},CT P kw X0 w0 m (DY 0 ds) c (RQ P kw X0 w0 fn R)):AC P kw f ds R:=YV hf hb hm hle fun _ _ _=>k
theorem fD {o:Oper} {d:Nat} {l:List Oper} {g gd:Nat} {want b:Bool} {f:F} (hg:o.guard = some (g,want):=by rfl) (hgd:(ops[g]?).bind (·.dst) = some gd:=by rfl) (hl:lk Γ gd = some (.dat (.val (.bool b))):=by rfl) (hd:o.dst = some d:=by rfl) (hdm:d < m:=by decide) (hn:aB Γ d = true:=by rfl) (h:dB P kw X0 w0 m Γ o ((d,f) :: Γ)) (k:fK P ops kw X0 w0 m ((d,.kS (b == want) f) :: Γ) l Q):fK P ops kw X0 w0 m Γ (o :: l) Q:=Hu hg hgd hl hd hdm hn (fun _=>h) k
theorem cZ {o:Oper} {d:Nat} {l:List Oper} {g gd:Nat} {want b:Bool} {f f1:F} (s1:Nat) (hg:o.guard = some (g,want):=by rfl) (hgd:(ops[g]?).bind (·.dst) = some gd:=by rfl) (hl:lk Γ gd = some (.dat (.val (.bool b))):=by rfl) (h1:lk Γ s1 = some (.kS (b == want) f1):=by rfl) (hd:o.dst = some d:=by rfl) (hdm:d < m:=by decide) (hn:aB Γ d = true:=by rfl) (hne:d≠s1:=by decide) (h:dB P kw X0 w0 m ((s1,f1) :: Γ) o ((d,f) :: (s1,f1) :: Γ)) (k:fK P ops kw X0 w0 m ((d,.kS (b == want) f) :: Γ) l Q):fK P ops kw X0 w0 m Γ (o :: l) Q:=gq1 s1 hg hgd hl h1 hd hdm hn hne (fun _=>h) k
theorem qN {o:Oper} {d:Nat} {l:List Oper} {g gd:Nat} {want b:Bool} {f f1 f2:F} (s1 s2:Nat) (hg:o.guard = some (g,want):=by rfl) (hgd:(ops[g]?).bind (·.dst) = some gd:=by rfl) (hl:lk Γ gd = some (.dat (.val (.bool b))):=by rfl) (h1:lk Γ s1 = some (.kS (b == want) f1):=by rfl) (h2:lk Γ s2 = some (.kS (b == want) f2):=by rfl) (h12:s1≠s2:=by decide) (hd:o.dst = some d:=by rfl) (hdm:d < m:=by decide) (hn:aB Γ d = true:=by rfl) (hne:d≠s1:=by decide) (hne2:d≠s2:=by decide) (h:dB P kw X0 w0 m ((s2,f2) :: (s1,f1) :: Γ) o ((d,f) :: (s2,f2) :: (s1,f1) :: Γ)) (k:fK P ops kw X0 w0 m ((d,.kS (b == want) f) :: Γ) l Q):fK P ops kw X0 w0 m Γ (o :: l) Q:=gq2 s1 s2 hg hgd hl h1 h2 h12 hd hdm hn hne hne2 (fun _=>h) k
structure Stp (k:Nat) (l:List (List Nat)) (A B:Prop):Prop where
 f:B→A
variable {A B R:Prop} {n i:Nat} {r s:List Nat} {l:List (List Nat)} {k:Nat}
theorem WL:Stp k [] A A:=⟨id⟩
theorem XA (h:Stp k l A B):Stp k ([0] :: l) A B:=⟨h.f⟩
theorem WA (hs:yU (i :: r) Γ' Γ) (h:Stp 2 l (NT kw X0 w0 m Γ' Q) R):Stp 1 ((0 :: i :: r) :: l) (fK P ops kw X0 w0 m Γ [] Q) R:=⟨fun x=>fK.weak (Rt (h.f x)) hs.sub⟩
theorem XI {lo:List Oper} (hs:yU (i :: r) Γ' Γ) (h:Stp 1 l (fK P ops kw X0 w0 m Γ' lo Q) R):Stp 1 ((0 :: i :: r) :: l) (fK P ops kw X0 w0 m Γ lo Q) R:=⟨fun x=>fK.weak (h.f x) hs.sub⟩
theorem WM {c:Code} (hs:yU (i :: r) Γ' Γ) (h:Stp 0 l (CT P kw X0 w0 m Γ' c Q) R):Stp 0 ((0 :: i :: r) :: l) (CT P kw X0 w0 m Γ c Q) R:=⟨fun x=>CT.weak (h.f x) hs.sub⟩
theorem ZR (hs:yU (i :: r) Γ' Γ) (h:Stp 2 l (NT kw X0 w0 m Γ' Q) R):Stp 2 ((0 :: i :: r) :: l) (NT kw X0 w0 m Γ Q) R:=⟨fun x=>NT.weak (h.f x) hs.sub⟩
theorem acR {o:Oper} {lo:List Oper} (hg:o.guard = none) (h:dB P kw X0 w0 m Γ o Γ') (k:Stp 1 ((n :: r) :: l) (fK P ops kw X0 w0 m Γ' lo Q) R):Stp 1 (((n + 1) :: r) :: l) (fK P ops kw X0 w0 m Γ (o :: lo) Q) R:=⟨fun x=>.cons (h.g hg) (k.f x)⟩
theorem Ro {A':Prop} (k':Nat) (h:A'→A) (f:Stp k' ((n :: r) :: l) A' R):Stp 3 (((n + 1) :: r) :: l) A R:=⟨fun x=>h (f.f x)⟩
theorem Ru {x y:Code} (h:Stp 0 ((n :: r) :: l) (CT P kw X0 w0 m Γ x (Exit.then (fun a W=>y.wp P Q a W) Q)) R):Stp 0 (((n + 1) :: r) :: l) (CT P kw X0 w0 m Γ (x.seq y) Q) R:=⟨fun x=>bP (h.f x)⟩
theorem Rw {id:Nat} {lo:List Oper} (h:Stp 1 ((n :: r) :: l) (fK P lo.toArray kw X0 w0 m Γ lo Q) R):Stp 0 (((n + 1) :: r) :: l) (CT P kw X0 w0 m Γ (.region id lo.toArray false) Q) R:=⟨fun x=>cO (h.f x)⟩
theorem OD (h:Stp 2 ((n :: r) :: l) (NT kw X0 w0 m Γ Q) R):Stp 0 (((n + 1) :: r) :: l) (CT P kw X0 w0 m Γ .skip Q) R:=⟨fun x=>eF (h.f x)⟩
theorem I5 {id:Nat} {c:Code} (h:Stp 0 ((n :: r) :: l) (CT P kw X0 w0 m Γ c (ff id Q)) R):Stp 0 (((n + 1) :: r) :: l) (CT P kw X0 w0 m Γ (.block id c) Q) R:=⟨fun x=>Ls (h.f x)⟩
theorem Tq (h:Stp 4 ((n :: r) :: l) (RT kw X0 w0 m Γ Q) R):Stp 0 (((n + 1) :: r) :: l) (CT P kw X0 w0 m Γ .ret Q) R:=⟨fun x=>lT (h.f x)⟩
theorem MB (h:Stp 5 ((n :: r) :: l) (XT kw X0 w0 m Γ i Q) R):Stp 0 (((n + 1) :: r) :: l) (CT P kw X0 w0 m Γ (.exit i) Q) R:=⟨fun x=>ab2 (h.f x)⟩
theorem NI {y:Code} (h:Stp 0 ((n :: r) :: l) (CT P kw X0 w0 m Γ y Q) R):Stp 2 (((n + 1) :: r) :: l) (NT kw X0 w0 m Γ (Exit.then (fun a W=>y.wp P Q a W) Q)) R:=⟨h.f⟩
theorem XX {K:Act→World→Prop} (h:Stp 4 ((n :: r) :: l) (RT kw X0 w0 m Γ Q) R):Stp 4 (((n + 1) :: r) :: l) (RT kw X0 w0 m Γ (Exit.then K Q)) R:=⟨h.f⟩
theorem Zi {j:Nat} (h:Stp 4 ((n :: r) :: l) (RT kw X0 w0 m Γ Q) R):Stp 4 (((n + 1) :: r) :: l) (RT kw X0 w0 m Γ (ff j Q)) R:=⟨h.f⟩
theorem YW {j:Nat} (h:Stp 2 ((n :: r) :: l) (NT kw X0 w0 m Γ Q) R):Stp 2 (((n + 1) :: r) :: l) (NT kw X0 w0 m Γ (ff j Q)) R:=⟨h.f⟩
theorem Zw {K:Act→World→Prop} (h:Stp 5 ((n :: r) :: l) (XT kw X0 w0 m Γ i Q) R):Stp 5 (((n + 1) :: r) :: l) (XT kw X0 w0 m Γ i (Exit.then K Q)) R:=⟨h.f⟩
theorem Zg (h:Stp 2 ((n :: r) :: l) (NT kw X0 w0 m Γ Q) R):Stp 5 (((n + 1) :: r) :: l) (XT kw X0 w0 m Γ i (ff i Q)) R:=⟨fun x=>ahH (h.f x)⟩
theorem Zp {j:Nat} (hij:i≠j) (h:Stp 5 ((n :: r) :: l) (XT kw X0 w0 m Γ i Q) R):Stp 5 (((n + 1) :: r) :: l) (XT kw X0 w0 m Γ i (ff j Q)) R:=⟨fun x=>agv hij (h.f x)⟩
theorem ac6 {c:Nat} {x y:Code} {b:Bool} (hl:lk Γ c = some (.dat (.val (.bool b)))) (h:¬ b = true) (k:Stp 0 ((n :: r) :: l) (CT P kw X0 w0 m Γ y Q) R):Stp 0 (((n + 1) :: r) :: l) (CT P kw X0 w0 m Γ (.cond (.tmp c) x y) Q) R:=⟨fun e=>O3 hl h (k.f e)⟩
theorem acT {c:Nat} {x y:Code} {b:Bool} (hl:lk Γ c = some (.dat (.val (.bool b)))) (h:¬ b = false) (k:Stp 0 ((n :: r) :: l) (CT P kw X0 w0 m Γ x Q) R):Stp 0 (((n + 1) :: r) :: l) (CT P kw X0 w0 m Γ (.cond (.tmp c) x y) Q) R:=⟨fun e=>Zz hl h (k.f e)⟩
theorem adQ {c:Nat} {x y:Code} {p:Prop} {_:Decidable p} (hl:lk Γ c = some (.dat (.val (.bool (decide p))))) (h:¬ p) (k:Stp 0 ((n :: r) :: l) (CT P kw X0 w0 m Γ y Q) R):Stp 0 (((n + 1) :: r) :: l) (CT P kw X0 w0 m Γ (.cond (.tmp c) x y) Q) R:=⟨fun e=>UO hl h (k.f e)⟩
theorem acX {c:Nat} {x y:Code} {p:Prop} {_:Decidable p} (hl:lk Γ c = some (.dat (.val (.bool (decide p))))) (h:p) (k:Stp 0 ((n :: r) :: l) (CT P kw X0 w0 m Γ x Q) R):Stp 0 (((n + 1) :: r) :: l) (CT P kw X0 w0 m Γ (.cond (.tmp c) x y) Q) R:=⟨fun e=>cfy hl h (k.f e)⟩
theorem go (i:Nat) (l:List (List Nat)) (h:Stp i l A B:=by
 repeat (first
  | exact WL
  | with_reducible apply XA
  | (apply acR;(focus rfl);focus (first | exact aC | exact ae9 | exact yE | exact jO | exact bM | exact nH | exact Ii | exact dn | exact fO | exact vX | exact Yb | exact eu | exact CW | exact iT | exact iV | exact qx | exact Di | exact uQ | exact Y9 | exact oI | exact TV | exact Nq | exact ag1 | exact agQ))
  | (apply WA;focus ((repeat (first | exact CZ | apply Dh rfl));done))
  | with_reducible apply NI
  | with_reducible apply Ru
  | with_reducible apply Rw
  | with_reducible apply OD
  | with_reducible apply I5
  | (apply XI;focus ((repeat (first | exact CZ | apply Dh rfl));done))
  | (apply WM;focus ((repeat (first | exact CZ | apply Dh rfl));done))
  | (apply Ro 3;focus (first | exact fun k=>agW (ct:=k) | exact fun k=>Pm (ct:=k) | exact fun k=>Xq (ct:=k) | exact fun k=>aid (ct:=k) | exact fun k=>ade (ct:=k) | exact fun k=>Nb (ct:=k) | exact fun k=>Aj (ct:=k) | exact fun k=>Ul (ct:=k) | exact fun k=>aeg (ct:=k) | exact fun k=>ag9 (ct:=k)))
  | (apply Ro 1;focus exact fun k=>Ac ⟨by kernel_rfl,rfl,k⟩)
  | (apply ac6;(focus rfl);focus first | decide +kernel | (simp;done))
  | (apply acT;(focus rfl);focus first | decide +kernel | (simp;done))
  | (apply adQ;(focus rfl);focus first | omega | decide +kernel)
  | (apply acX;(focus rfl);focus first | rfl | omega | decide +kernel)
  | with_reducible apply Tq
  | with_reducible apply XX
  | with_reducible apply Zi
  | with_reducible apply MB
  | with_reducible apply Zw
  | with_reducible apply Zg
  | ((with_reducible apply Zp);focus decide)
  | with_reducible apply YW
  | (apply ZR;focus ((repeat (first | exact CZ | apply Dh rfl));done)))) (k:B):A:=h.f k
end
def El:Nat→Type
 | 0=>Rat
 | n + 1=>El n × El n
def Tw:Nat→Type
 | 0=>Unit
 | n + 1=>Tw n × El n
def zeroE:(n:Nat)→El n
 | 0=>(0:Rat)
 | n + 1=>(zeroE n,zeroE n)
def dD:(n:Nat)→Rat→El n
 | 0,q=>q
 | n + 1,q=>(dD n q,zeroE n)
def aH:{n:Nat}→El n→El n→El n
 | 0,a,b=>gh a b
 | _ + 1,(x,y),(u,v)=>(aH x u,aH y v)
def bI:{n:Nat}→El n→El n
 | 0,a=>gg a
 | _ + 1,(x,y)=>(bI x,bI y)
def kX {n:Nat} (a b:El n):El n:=aH a (bI b)
def au:{n:Nat}→Tw n→El n→El n→El n
 | 0,_,a,b=>eh a b
 | _ + 1,(t,r),(x,y),(u,v)=>(aH (au t x u) (au t (au t y v) r),aH (au t x v) (au t y u))
def fP {n:Nat} (t:Tw n) (r x y:El n):El n:=aH (au t x x) (bI (au t (au t y y) r))
def flat:{n:Nat}→El n→List Rat
 | 0,a=>[a]
 | _ + 1,(x,y)=>flat x ++ flat y
theorem flat_length:∀ {n:Nat} (x:El n),(flat x).length = 2 ^ n
 | 0,a=>rfl
 | n + 1,(x,y)=>by simp only [flat,aL,flat_length x,flat_length y,bm];omega
theorem o8:∀ {n:Nat} {x y:El n},flat x = flat y→x = y
 | 0,a,b,h=>(ir h).1
 | n + 1,(x,y),(u,v),h=>by
  simp only [flat] at h;have:=ju h (by rw [flat_length,flat_length]);rw [o8 this.1,o8 this.2]
theorem zO:∀ {n:Nat} (x y:El n),flat (aH x y) = List.zipWith (· + ·) (flat x) (flat y)
 | 0,a,b=>rfl
 | n + 1,(x,y),(u,v)=>by simp only [aH,flat,zO];rw [List.zipWith_append (by rw [flat_length,flat_length])]
theorem wY:∀ {n:Nat} (x:El n),flat (bI x) = (flat x).map (- ·)
 | 0,a=>rfl
 | n + 1,(x,y)=>by simp only [bI,flat,wY,gA]
theorem lL:∀ (n:Nat),flat (zeroE n) = bk (2 ^ n) 0
 | 0=>rfl
 | n + 1=>by simp only [zeroE,flat,lL,dp];congr 1;rw [bm];omega
theorem kY:∀ (n:Nat) (q:Rat),flat (dD n q) = q :: bk (2 ^ n - 1) 0
 | 0,q=>rfl
 | n + 1,q=>by
  simp only [dD,flat,kY,lL,cg,dp];congr 2;have:0 < 2 ^ n:=cV (by omega);rw [bm];omega
def BC (q:Rat):Bool:=decide (q = 0)
theorem Bi (q:Rat):BC q = true↔q = 0:=decide_eq_true_iff
def iW:{n:Nat}→El n→Bool
 | 0,a=>BC a
 | _ + 1,(x,y)=>iW x && iW y
theorem x8:∀ {n:Nat} (x:El n),iW x = (flat x).all BC
 | 0,a=>(Bool.and_true (BC a)).symm
 | n + 1,(x,y)=>by simp only [iW,flat,List.all_append,x8]
theorem gq:∀ {n:Nat} {x:El n},iW x = true↔x = zeroE n
 | 0,a=>Bi a
 | n + 1,(x,y)=>by
  simp only [iW,eZ,gq,zeroE];exact ⟨fun h=>by rw [h.1,h.2],fun h=>by injection h with h1 h2;exact ⟨h1,h2⟩⟩
theorem qm:∀ {n:Nat} (x:El n),aH x (zeroE n) = x
 | 0,a=>eo a
 | n + 1,(x,y)=>by simp only [aH,zeroE,qm];rfl
theorem sV:∀ {n:Nat} (t:Tw n) (x:El n),au t x (zeroE n) = zeroE n∧au t (zeroE n) x = zeroE n
 | 0,_,a=>⟨cF a,de a⟩
 | n + 1,(t,r),(x,y)=>by
  simp only [au,zeroE,(sV t _).1,(sV t _).2,qm];exact ⟨rfl,rfl⟩
def aA:{n:Nat}→Tw n→List (List Rat)
 | 0,_=>[]
 | _ + 1,(t,r)=>aA t ++ [flat r]
theorem aj:∀ {n:Nat} (t:Tw n),(aA t).length = n
 | 0,_=>rfl
 | n + 1,(t,r)=>by simp [aA,aj t]
def dL (l:List Rat):D:=.list 4 (l.map af)
def bF {n:Nat} (x:El n):D:=dL (flat x)
def kV (t:List (List Rat)):D:=.list 1 (t.map dL)
def bV {n:Nat} (t:Tw n):D:=kV (aA t)
def fC (t:List (List Rat)) (l:List Rat):D:=.agg [kV t,dL l]
theorem iL (l:List Rat):lenOf (.dat (dL l)) = some l.length:=by simp [dL,lenOf]
theorem gZ (t:List (List Rat)):lenOf (.dat (kV t)) = some t.length:=by simp [kV,lenOf]
variable {n:Nat}
theorem dU (x:El n):lenOf (.dat (bF x)) = some (2 ^ n):=by rw [bF,iL,flat_length]
theorem aP (t:Tw n):lenOf (.dat (bV t)) = some n:=by rw [bV,gZ,aj]
theorem aK (x y:El n):((flat (n:=n + 1) (x,y)).map af) = (flat x).map af ++ (flat y).map af:=by simp [flat]
theorem di (t:Tw n) (r:El n):((aA (n:=n + 1) (t,r)).map dL) = (aA t).map dL ++ [bF r]:=by simp [aA,bF]
def Rb (q:Rat):Prop:=wl q.num.natAbs≤68719476736∧wl q.den≤68719476736
def um (l:List Rat):Prop:=∀ q∈l,Rb q
def ny {n:Nat} (x:El n):Prop:=um (flat x)
variable {x y:El n}
theorem ny.fst (h:ny (n:=n + 1) (x,y)):ny x:=fun q hq=>h q (by simp [flat,hq])
theorem ny.snd (h:ny (n:=n + 1) (x,y)):ny y:=fun q hq=>h q (by simp [flat,hq])
theorem ny.pair (h:ny x) (k:ny y):ny (n:=n + 1) (x,y):=fun q hq=>by
 simp only [flat,bh] at hq;exact hq.elim (h q) (k q)
theorem Rb.zero:Rb 0:=by unfold Rb;exact ⟨by decide,by decide⟩
theorem iK (l:List Rat):D.ik (l.map af) = true:=by
 induction l with
 | nil=>rfl
 | cons q l ih=>simp only [cH];unfold D.ik;rw [aaC,ih];rfl
theorem Jz (l:List (List Rat)):D.ik (l.map dL) = true:=by
 induction l with
 | nil=>rfl
 | cons q l ih=>simp only [cH];unfold D.ik;rw [ih];rfl
theorem zn {q:Rat} {D:Nat} {k:Int}:q * (D:Rat) = (k:Rat)↔q.num * D = k * q.den:=by
 have e1:q * (D:Rat) = mkRat (q.num * D) q.den:=by
  conv=>lhs;rw [← gH q,← gH (D:Rat)]
  rw [ie];simp
 have e2:(k:Rat) = mkRat k 1:=by simp [j9]
 rw [e1,e2,jn q.den_nz (by decide)];simp
def qD (q:Rat) (D M:Nat):Prop:=∃ k:Int,q * (D:Rat) = (k:Rat)∧k.natAbs≤M
variable {M:Nat}
theorem qD.parts {q:Rat} {D:Nat} (hD:0 < D) (h:qD q D M):q.num.natAbs≤M∧q.den≤D:=by
 obtain ⟨k,h1,h2⟩:=h;rw [zn] at h1;have h3:q.num.natAbs * D = k.natAbs * q.den:=by
  have:=congrArg Int.natAbs h1;simpa [fL] using this
 have hdvd:q.den ∣ D:=(gL q.reduced).dvd_of_dvd_mul_left ⟨k.natAbs,by rw [h3,cj]⟩;obtain ⟨c,rfl⟩:=hdvd;have hc:0 < c:=by
  rcases fY c with h | h
  · subst h;simp at hD
  · exact h
 have hd:=q.den_pos;refine ⟨?_,e8 _ hc⟩;have h4:k.natAbs = q.num.natAbs * c:=by
  have:k.natAbs * q.den = (q.num.natAbs * c) * q.den:=by rw [← h3];ac_rfl
  exact Nat.eq_of_mul_eq_mul_right hd this
 exact bs (e8 _ hc) (h4 ▸ h2)
theorem qD.self (q:Rat):qD q q.den q.num.natAbs:=⟨q.num,zn.2 (by ac_rfl),ao _⟩
theorem qD.mono {q:Rat} {D M':Nat} (h:qD q D M) (hM:M≤M'):qD q D M':=by
 obtain ⟨k,h1,h2⟩:=h;exact ⟨k,h1,bs h2 hM⟩
theorem qD.scale {q:Rat} {D:Nat} (h:qD q D M) (c:Nat):qD q (D * c) (M * c):=by
 obtain ⟨k,h1,h2⟩:=h;refine ⟨k * c,?_,?_⟩
 · rw [bO,← dy,h1,j5];rfl
 · rw [fL];exact bA _ h2
variable {p:Rat}
theorem qD.add {q:Rat} {D M':Nat} (h:qD q D M) (k:qD p D M'):qD (q + p) D (M + M'):=by
 obtain ⟨a,h1,h2⟩:=h;obtain ⟨b,h3,h4⟩:=k;refine ⟨a + b,?_,?_⟩
 · rw [Rat.add_mul,h1,h3,Rat.intCast_add]
 · exact bs (Int.natAbs_add_le a b) (Nat.add_le_add h2 h4)
theorem qD.neg {q:Rat} {D:Nat} (h:qD q D M):qD (-q) D M:=by
 obtain ⟨a,h1,h2⟩:=h;exact ⟨-a,by rw [gS,h1,d9],by simpa using h2⟩
theorem qD.mul {q:Rat} {D D' M':Nat} (h:qD q D M) (k:qD p D' M'):qD (q * p) (D * D') (M * M'):=by
 obtain ⟨a,h1,h2⟩:=h;obtain ⟨b,h3,h4⟩:=k;refine ⟨a * b,?_,by rw [fL];exact av h2 h4⟩;rw [bO,j5,← h1,← h3];grind
theorem qD.zero (D:Nat):qD 0 D 0:=⟨0,by simp,by simp⟩
def eD {n:Nat} (x:El n) (D M:Nat):Prop:=∀ q∈flat x,qD q D M
theorem eD.fst {D:Nat} (h:eD (n:=n + 1) (x,y) D M):eD x D M:=fun q hq=>h q (by simp [flat,hq])
theorem eD.snd {D:Nat} (h:eD (n:=n + 1) (x,y) D M):eD y D M:=fun q hq=>h q (by simp [flat,hq])
theorem eD.pair {D:Nat} (h:eD x D M) (k:eD y D M):eD (n:=n + 1) (x,y) D M:=fun q hq=>by
 simp only [flat,bh] at hq;exact hq.elim (h q) (k q)
theorem eD.mono {n:Nat} {x:El n} {D M M':Nat} (h:eD x D M) (hM:M≤M'):eD x D M':=fun q hq=>(h q hq).mono hM
theorem eD.scale {n:Nat} {x:El n} {D M:Nat} (h:eD x D M) (c:Nat):eD x (D * c) (M * c):=fun q hq=>(h q hq).scale c
theorem eD.zero (n D:Nat):eD (zeroE n) D 0:=fun q hq=>by
 rw [lL] at hq;rw [(il.1 hq).2];exact qD.zero D
theorem eD.add:∀ {n:Nat} {x y:El n} {D M M':Nat},eD x D M→eD y D M'→eD (aH x y) D (M + M')
 | 0,a,b,D,M,M',h,k=>fun q hq=>by
  have e:q = gh a b:=ar.1 hq;rw [e];exact qD.add (q:=a) (p:=b) (h _ (ar.2 rfl)) (k _ (ar.2 rfl))
 | n + 1,(x,y),(u,v),D,M,M',h,k=>eD.pair (eD.add h.fst k.fst) (eD.add h.snd k.snd)
theorem eD.neg:∀ {n:Nat} {x:El n} {D M:Nat},eD x D M→eD (bI x) D M
 | 0,a,D,M,h=>fun q hq=>by
  have e:q = gg a:=ar.1 hq;rw [e];exact qD.neg (q:=a) (h _ (ar.2 rfl))
 | n + 1,(x,y),D,M,h=>eD.pair (eD.neg h.fst) (eD.neg h.snd)
def sz {n:Nat} (x:El n) (s:Nat):Prop:=∃ D M,0 < D∧D≤2 ^ s∧M≤2 ^ s∧eD x D M
variable {s:Nat}
theorem sz.mono {s':Nat} (h:sz x s) (hs:s≤s'):sz x s':=by
 obtain ⟨D,M,h1,h2,h3,h4⟩:=h;have:=bq (show 0 < 2 by omega) hs;exact ⟨D,M,h1,by omega,by omega,h4⟩
theorem sz.fst {n:Nat} {x y:El n} {s:Nat} (h:sz (n:=n + 1) (x,y) s):sz x s:=by
 obtain ⟨D,M,h1,h2,h3,h4⟩:=h;exact ⟨D,M,h1,h2,h3,h4.fst⟩
theorem sz.snd {n:Nat} {x y:El n} {s:Nat} (h:sz (n:=n + 1) (x,y) s):sz y s:=by
 obtain ⟨D,M,h1,h2,h3,h4⟩:=h;exact ⟨D,M,h1,h2,h3,h4.snd⟩
theorem sz.zero (n s:Nat):sz (zeroE n) s:=⟨1,0,by omega,ew,bR _,eD.zero n 1⟩
theorem sz.neg {n:Nat} {x:El n} {s:Nat} (h:sz x s):sz (bI x) s:=by
 obtain ⟨D,M,h1,h2,h3,h4⟩:=h;exact ⟨D,M,h1,h2,h3,h4.neg⟩
theorem sz.add {n:Nat} {x y:El n} {s s':Nat} (h:sz x s) (k:sz y s'):sz (aH x y) (s + s' + 1):=by
 obtain ⟨D,M,h1,h2,h3,h4⟩:=h;obtain ⟨D',M',k1,k2,k3,k4⟩:=k;have e1:D * D'≤2 ^ s * 2 ^ s':=av h2 k2;have e2:M * D'≤2 ^ s * 2 ^ s':=av h3 k2;have e3:M' * D≤2 ^ s' * 2 ^ s:=av k3 h2;rw [cj (2 ^ s')] at e3;refine ⟨D * D',M * D' + M' * D,bp h1 k1,?_,?_,(h4.scale D').add (by have:=k4.scale D;rwa [cj D' D] at this)⟩
 · rw [bm,a8];omega
 · rw [bm,a8];omega
theorem sz.rb (h:sz x s) (hs:s≤2199023255551):ny x:=fun q hq=>by
 obtain ⟨D,M,h1,h2,h3,h4⟩:=h;obtain ⟨p1,p2⟩:=(h4 q hq).parts h1;have h5:∀ a K:Nat,s < 32 * K→a≤2 ^ s→wl a≤K:=fun a K hK ha=>by
  refine jQ.2 (iB ha ?_);rw [show (4294967296:Nat) = 2 ^ 32 from rfl,← Nat.pow_mul];exact ib (by omega) hK
 exact ⟨h5 _ _ (by omega) (bs p1 h3),h5 _ _ (by omega) (bs p2 h2)⟩
def PT:{n:Nat}→Tw n→List Nat→Prop
 | 0,_,σ=>σ = []
 | _ + 1,(t,r),s :: σ=>sz r s∧PT t σ
 | _ + 1,_,[]=>False
def bD:List Nat→Nat
 | []=>0
 | s :: σ=>2 * bD σ + s + 2
theorem eD.mul:∀ {n:Nat} {t:Tw n} {σ:List Nat},PT t σ→∃ e c:Nat,0 < e∧e≤2 ^ bD σ∧c≤2 ^ bD σ∧∀ {x y:El n} {D M D' M':Nat},eD x D M→eD y D' M'→eD (au t x y) (D * D' * e) (M * M' * c)
 | 0,_,σ,h=>by
  refine ⟨1,1,by omega,ew,ew,fun {x y D M D' M'} hx hy q hq=>?_⟩;have e:q = eh x y:=ar.1 hq;rw [e,bX,bX];exact qD.mul (q:=x) (p:=y) (hx _ (ar.2 rfl)) (hy _ (ar.2 rfl))
 | n + 1,(t,r),[],h=>h.elim
 | n + 1,(t,r),s :: σ,h=>by
  obtain ⟨⟨Dr,Mr,r1,r2,r3,r4⟩,hp⟩:=h;obtain ⟨e,c,e1,e2,c2,hm⟩:=eD.mul hp;have p0:0 < 2 ^ bD σ:=cV (by omega);have q1:e * e≤2 ^ bD σ * 2 ^ bD σ:=av e2 e2;have q2:c * e≤2 ^ bD σ * 2 ^ bD σ:=av c2 e2;have q3:c * c≤2 ^ bD σ * 2 ^ bD σ:=av c2 c2;have w1:e * e * Dr≤2 ^ bD σ * 2 ^ bD σ * 2 ^ s:=av q1 r2;have w2:c * e * Dr≤2 ^ bD σ * 2 ^ bD σ * 2 ^ s:=av q2 r2;have w3:c * c * Mr≤2 ^ bD σ * 2 ^ bD σ * 2 ^ s:=av q3 r3;have w4:2 ^ bD (s :: σ) = 4 * (2 ^ bD σ * 2 ^ bD σ * 2 ^ s):=by
   rw [bD,a8,a8,Nat.two_mul,a8];omega
  refine ⟨e * e * Dr,2 * (c * e * Dr) + c * c * Mr,bp (bp e1 e1) r1,by omega,by omega,fun {x y D M D' M'} hx hy=>?_⟩;obtain ⟨x1,x2⟩:=x;obtain ⟨y1,y2⟩:=y;have a1:=(hm hx.fst hy.fst).scale (e * Dr);have a2:=hm (hm hx.snd hy.snd) r4;have a3:=(hm hx.fst hy.snd).scale (e * Dr);have a4:=(hm hx.snd hy.fst).scale (e * Dr);have d1:D * D' * e * (e * Dr) = D * D' * (e * e * Dr):=by ac_rfl
  have d2:D * D' * e * Dr * e = D * D' * (e * e * Dr):=by ac_rfl
  rw [d1] at a1 a3 a4;rw [d2] at a2;have m1:M * M' * c * (e * Dr) = M * M' * (c * e * Dr):=by ac_rfl
  have m2:M * M' * c * Mr * c = M * M' * (c * c * Mr):=by ac_rfl
  rw [m1] at a1 a3 a4;rw [m2] at a2;refine eD.pair ((a1.add a2).mono ?_) ((a3.add a4).mono ?_)
  · rw [← gx];exact fR _ (by omega)
  · rw [← gx];exact fR _ (by omega)
theorem sz.mul {n:Nat} {t:Tw n} {σ:List Nat} (ht:PT t σ) {x y:El n} {s s':Nat} (h:sz x s) (k:sz y s'):sz (au t x y) (s + s' + bD σ):=by
 obtain ⟨e,c,e1,e2,c2,hm⟩:=eD.mul ht;obtain ⟨D,M,h1,h2,h3,h4⟩:=h;obtain ⟨D',M',k1,k2,k3,k4⟩:=k;refine ⟨D * D' * e,M * M' * c,bp (bp h1 k1) e1,?_,?_,hm h4 k4⟩
 · rw [a8,a8];exact av (av h2 k2) e2
 · rw [a8,a8];exact av (av h3 k3) c2
theorem PT.bound:∀ {n:Nat} {t:Tw n} {σ:List Nat},PT t σ→bD σ≤2199023255551→∀ l∈aA t,um l
 | 0,_,_,_,_,l,hl=>by simp [aA] at hl
 | n + 1,(t,r),[],h,_,_,_=>h.elim
 | n + 1,(t,r),s :: σ,h,hk,l,hl=>by
  unfold bD at hk;simp only [aA,bh,ar] at hl;rcases hl with hl | rfl
  · exact PT.bound h.2 (by omega) l hl
  · exact h.1.rb (by omega)
structure CRg {α:Type} (z o:α) (ad mu:α→α→α) (ne:α→α):Prop where
 ac:∀ a b,ad a b = ad b a
 aa:∀ a b c,ad (ad a b) c = ad a (ad b c)
 az:∀ a,ad a z = a
 an:∀ a,ad a (ne a) = z
 mc:∀ a b,mu a b = mu b a
 ma:∀ a b c,mu (mu a b) c = mu a (mu b c)
 mo:∀ a,mu a o = a
 md:∀ a b c,mu a (ad b c) = ad (mu a b) (mu a c)
inductive PE where
 | v (i:Nat)
 | zero
 | one
 | add (a b:PE)
 | mul (a b:PE)
 | neg (a:PE)
def PE.ev {α:Type} (z o:α) (ad mu:α→α→α) (ne:α→α) (ρ:List α):PE→α
 | .v i=>ρ.getD i z
 | .zero=>z
 | .one=>o
 | .add a b=>ad (a.ev z o ad mu ne ρ) (b.ev z o ad mu ne ρ)
 | .mul a b=>mu (a.ev z o ad mu ne ρ) (b.ev z o ad mu ne ρ)
 | .neg a=>ne (a.ev z o ad mu ne ρ)
def PE.nf:PE→List (List Nat) × List (List Nat)
 | .v i=>([[i]],[])
 | .zero=>([],[])
 | .one=>([[]],[])
 | .add a b=>(a.nf.1 ++ b.nf.1,a.nf.2 ++ b.nf.2)
 | .mul a b=>((a.nf.1.flatMap fun m=>b.nf.1.map (m ++ ·)) ++ (a.nf.2.flatMap fun m=>b.nf.2.map (m ++ ·)),(a.nf.1.flatMap fun m=>b.nf.2.map (m ++ ·)) ++ (a.nf.2.flatMap fun m=>b.nf.1.map (m ++ ·)))
 | .neg a=>(a.nf.2,a.nf.1)
def aa5 (x:Nat):List Nat→List Nat
 | []=>[x]
 | y :: l=>if x≤y then x :: y :: l else y :: aa5 x l
def MM:List Nat→List Nat
 | []=>[]
 | x :: l=>aa5 x (MM l)
def agI:List Nat→List Nat→Bool
 | [],_=>true
 | _ :: _,[]=>false
 | x :: l,y :: r=>if x = y then agI l r else decide (x < y)
def aaR (x:List Nat):List (List Nat)→List (List Nat)
 | []=>[x]
 | y :: l=>if agI x y then x :: y :: l else y :: aaR x l
def Qv:List (List Nat)→List (List Nat)
 | []=>[]
 | x :: l=>aaR x (Qv l)
def PE.chk (a b:PE):Bool:=Qv ((a.nf.1 ++ b.nf.2).map MM) == Qv ((b.nf.1 ++ a.nf.2).map MM)
section
variable {α:Type} {z o:α} {ad mu:α→α→α} {ne:α→α}
variable (h:CRg z o ad mu ne)
include h
theorem CRg.zm (a:α):mu a z = z:=by
 have e:ad (mu a z) (mu a z) = mu a z:=by rw [← h.md,h.az]
 have:ad (ad (mu a z) (mu a z)) (ne (mu a z)) = ad (mu a z) (ne (mu a z)):=by rw [e]
 rwa [h.aa,h.an,h.az] at this
theorem CRg.za (a:α):ad z a = a:=by rw [h.ac,h.az]
theorem CRg.can {a b c:α} (e:ad a c = ad b c):a = b:=by
 have:ad (ad a c) (ne c) = ad (ad b c) (ne c):=by rw [e]
 rwa [h.aa,h.aa,h.an,h.az,h.az] at this
theorem CRg.neq {a b:α} (e:ad a b = z):ne a = b:=by
 refine h.can (c:=a) ?_;rw [h.ac (ne a),h.an,h.ac b,e]
theorem CRg.nz:ne z = z:=h.neq (h.az z)
theorem CRg.nn (a:α):ne (ne a) = a:=h.neq (by rw [h.ac,h.an])
theorem CRg.na (a b:α):ne (ad a b) = ad (ne a) (ne b):=h.neq (by
 rw [h.aa,← h.aa b,h.ac b,h.aa (ne a),h.an,h.az,h.an])
theorem CRg.mn (a b:α):mu a (ne b) = ne (mu a b):=(h.neq (by rw [← h.md,h.an,h.zm])).symm
theorem CRg.nm (a b:α):mu (ne a) b = ne (mu a b):=by rw [h.mc,h.mn,h.mc]
theorem CRg.dm (a b c:α):mu (ad a b) c = ad (mu a c) (mu b c):=by rw [h.mc,h.md,h.mc c,h.mc c]
end
def mono {α:Type} (z o:α) (mu:α→α→α) (ρ:List α):List Nat→α
 | []=>o
 | i :: l=>mu (ρ.getD i z) (mono z o mu ρ l)
def jL {α:Type} (z o:α) (ad mu:α→α→α) (ρ:List α):List (List Nat)→α
 | []=>z
 | m :: l=>ad (mono z o mu ρ m) (jL z o ad mu ρ l)
section
variable {α:Type} {z o:α} {ad mu:α→α→α} {ne:α→α} {ρ:List α}
variable (h:CRg z o ad mu ne)
include h
theorem CRg.MC:∀ (l r:List Nat),mono z o mu ρ (l ++ r) = mu (mono z o mu ρ l) (mono z o mu ρ r)
 | [],r=>by rw [cJ,mono,h.mc,h.mo]
 | i :: l,r=>by rw [cg,mono,mono,CRg.MC l r,h.ma]
theorem CRg.LP (x:Nat):∀ (l:List Nat),mono z o mu ρ (aa5 x l) = mu (ρ.getD x z) (mono z o mu ρ l)
 | []=>rfl
 | y :: l=>by
  unfold aa5
  split
  · rfl
  · rw [mono,CRg.LP x l,mono,← h.ma,← h.ma,h.mc (ρ.getD y z)]
theorem CRg.OI:∀ (l:List Nat),mono z o mu ρ (MM l) = mono z o mu ρ l
 | []=>rfl
 | x :: l=>by rw [MM,h.LP,CRg.OI l,mono]
theorem CRg.qV:∀ (l r:List (List Nat)),jL z o ad mu ρ (l ++ r) = ad (jL z o ad mu ρ l) (jL z o ad mu ρ r)
 | [],r=>by rw [cJ,jL,h.za]
 | i :: l,r=>by rw [cg,jL,jL,CRg.qV l r,h.aa]
theorem CRg.Su (x:List Nat):∀ (l:List (List Nat)),jL z o ad mu ρ (aaR x l) = ad (mono z o mu ρ x) (jL z o ad mu ρ l)
 | []=>rfl
 | y :: l=>by
  unfold aaR
  split
  · rfl
  · rw [jL,CRg.Su x l,jL,← h.aa,← h.aa,h.ac (mono z o mu ρ y)]
theorem CRg.JS:∀ (l:List (List Nat)),jL z o ad mu ρ (Qv l) = jL z o ad mu ρ l
 | []=>rfl
 | x :: l=>by rw [Qv,h.Su,CRg.JS l,jL]
theorem CRg.JG:∀ (l:List (List Nat)),jL z o ad mu ρ (l.map MM) = jL z o ad mu ρ l
 | []=>rfl
 | x :: l=>by rw [cH,jL,h.OI,CRg.JG l,jL]
theorem CRg.Ns (m:List Nat):∀ (l:List (List Nat)),jL z o ad mu ρ (l.map (m ++ ·)) = mu (mono z o mu ρ m) (jL z o ad mu ρ l)
 | []=>by rw [f6,jL,h.zm]
 | x :: l=>by rw [cH,jL,h.MC,CRg.Ns m l,jL,h.md]
theorem CRg.zQ (r:List (List Nat)):∀ (l:List (List Nat)),jL z o ad mu ρ (l.flatMap fun m=>r.map (m ++ ·)) = mu (jL z o ad mu ρ l) (jL z o ad mu ρ r)
 | []=>by rw [List.flatMap_nil,jL,h.mc,h.zm]
 | x :: l=>by rw [List.flatMap_cons,h.qV,h.Ns,CRg.zQ r l,jL,h.dm]
theorem CRg.ex (a b c d:α):ad (ad a b) (ad c d) = ad (ad a c) (ad b d):=by
 rw [h.aa,h.aa,← h.aa b,h.ac b,h.aa c]
theorem CRg.GZ:∀ (e:PE),e.ev z o ad mu ne ρ = ad (jL z o ad mu ρ e.nf.1) (ne (jL z o ad mu ρ e.nf.2))
 | .v i=>by simp only [PE.ev,PE.nf,jL,mono,h.az,h.mo,h.nz]
 | .zero=>by simp only [PE.ev,PE.nf,jL,h.az,h.nz]
 | .one=>by simp only [PE.ev,PE.nf,jL,mono,h.az,h.nz]
 | .add a b=>by
  rw [PE.ev,CRg.GZ a,CRg.GZ b,PE.nf];simp only;rw [h.qV,h.qV,h.na,h.ex]
 | .neg a=>by
  rw [PE.ev,CRg.GZ a,PE.nf];simp only;rw [h.na,h.nn,h.ac]
 | .mul a b=>by
  rw [PE.ev,CRg.GZ a,CRg.GZ b,PE.nf];simp only;rw [h.qV,h.qV,h.zQ,h.zQ,h.zQ,h.zQ,h.md,h.dm,h.dm,h.mn,h.mn,h.nm,h.nm,h.nn,h.na,h.aa,h.aa,← h.aa (ne _) (ne _),h.ac (ad (ne _) (ne _))];rw [h.ac (ne (mu (jL z o ad mu ρ a.nf.2) (jL z o ad mu ρ b.nf.1)))]
theorem CRg.ring (ρ:List α) (a b:PE) (hc:a.chk b = true):a.ev z o ad mu ne ρ = b.ev z o ad mu ne ρ:=by
 have e:Qv ((a.nf.1 ++ b.nf.2).map MM) = Qv ((b.nf.1 ++ a.nf.2).map MM):=by simpa [PE.chk] using hc
 have e2:jL z o ad mu ρ (a.nf.1 ++ b.nf.2) = jL z o ad mu ρ (b.nf.1 ++ a.nf.2):=by
  rw [← h.JG,← h.JS,e,h.JS,h.JG]
 rw [h.qV,h.qV] at e2;rw [h.GZ a,h.GZ b];refine h.can (c:=ad (jL z o ad mu ρ b.nf.2) (jL z o ad mu ρ a.nf.2)) ?_;rw [h.ex,h.ac (ne _),h.an,h.az,e2,h.ac (jL z o ad mu ρ b.nf.2),h.ex,h.ac (ne _),h.an,h.az]
end
theorem rgQ:CRg (0:Rat) 1 gh eh gg where
 ac a b:=Rat.add_comm a b
 aa a b c:=Rat.add_assoc a b c
 az a:=eo a
 an a:=Rat.add_neg_cancel a
 mc a b:=kc a b
 ma a b c:=dy a b c
 mo a:=gT a
 md a b c:=Rat.mul_add a b c
theorem dQ {u v:El n} (h1:x = u) (h2:y = v):((x,y):El (n + 1)) = (u,v):=by rw [h1,h2]
theorem jY:∀ {n:Nat} (t:Tw n),CRg (zeroE n) (dD n 1) aH (au t) bI
 | 0,_=>rgQ
 | n + 1,(t,r)=>by
  have h:=jY t;exact {
   ac:=fun (x,y) (u,v)=>dQ (h.ac _ _) (h.ac _ _)
   aa:=fun (x,y) (u,v) (p,q)=>dQ (h.aa _ _ _) (h.aa _ _ _)
   az:=fun (x,y)=>dQ (h.az _) (h.az _)
   an:=fun (x,y)=>dQ (h.an _) (h.an _)
   mc:=fun (x,y) (u,v)=>dQ ((h).ring [x,y,u,v,r] (.add (.mul (.v 0) (.v 2)) (.mul (.mul (.v 1) (.v 3)) (.v 4))) (.add (.mul (.v 2) (.v 0)) (.mul (.mul (.v 3) (.v 1)) (.v 4))) (by decide)) ((h).ring [x,y,u,v] (.add (.mul (.v 0) (.v 3)) (.mul (.v 1) (.v 2))) (.add (.mul (.v 2) (.v 1)) (.mul (.v 3) (.v 0))) (by decide))
   ma:=fun (x,y) (u,v) (p,q)=>dQ ((h).ring [x,y,u,v,p,q,r] (.add (.mul (.add (.mul (.v 0) (.v 2)) (.mul (.mul (.v 1) (.v 3)) (.v 6))) (.v 4)) (.mul (.mul (.add (.mul (.v 0) (.v 3)) (.mul (.v 1) (.v 2))) (.v 5)) (.v 6))) (.add (.mul (.v 0) (.add (.mul (.v 2) (.v 4)) (.mul (.mul (.v 3) (.v 5)) (.v 6)))) (.mul (.mul (.v 1) (.add (.mul (.v 2) (.v 5)) (.mul (.v 3) (.v 4)))) (.v 6))) (by decide)) ((h).ring [x,y,u,v,p,q,r] (.add (.mul (.add (.mul (.v 0) (.v 2)) (.mul (.mul (.v 1) (.v 3)) (.v 6))) (.v 5)) (.mul (.add (.mul (.v 0) (.v 3)) (.mul (.v 1) (.v 2))) (.v 4))) (.add (.mul (.v 0) (.add (.mul (.v 2) (.v 5)) (.mul (.v 3) (.v 4)))) (.mul (.v 1) (.add (.mul (.v 2) (.v 4)) (.mul (.mul (.v 3) (.v 5)) (.v 6))))) (by decide))
   mo:=fun (x,y)=>by
    have e1:au t x (dD n 1) = x:=h.mo x;have e2:au t y (dD n 1) = y:=h.mo y;refine dQ ?_ ?_
    · show aH (au t x (dD n 1)) (au t (au t y (zeroE n)) r) = x;rw [e1,h.zm y,h.mc,h.zm,h.az]
    · show aH (au t x (zeroE n)) (au t y (dD n 1)) = y;rw [e2,h.zm x,h.za]
   md:=fun (x,y) (u,v) (p,q)=>dQ ((h).ring [x,y,u,v,p,q,r] (.add (.mul (.v 0) (.add (.v 2) (.v 4))) (.mul (.mul (.v 1) (.add (.v 3) (.v 5))) (.v 6))) (.add (.add (.mul (.v 0) (.v 2)) (.mul (.mul (.v 1) (.v 3)) (.v 6))) (.add (.mul (.v 0) (.v 4)) (.mul (.mul (.v 1) (.v 5)) (.v 6)))) (by decide)) ((h).ring [x,y,u,v,p,q] (.add (.mul (.v 0) (.add (.v 3) (.v 5))) (.mul (.v 1) (.add (.v 2) (.v 4)))) (.add (.add (.mul (.v 0) (.v 3)) (.mul (.v 1) (.v 2))) (.add (.mul (.v 0) (.v 5)) (.mul (.v 1) (.v 4)))) (by decide)) }
structure Es {α:Type} (z o:α) (ad mu:α→α→α) (ne:α→α) (sg:α→Int):Prop extends CRg z o ad mu ne where
 s0:∀ a,sg a = 0↔a = z
 s3:∀ a,sg a = -1∨sg a = 0∨sg a = 1
 sm:∀ a b,sg (mu a b) = sg a * sg b
 sa:∀ a b,sg a = 1→sg b = 1→sg (ad a b) = 1
 s1:sg o = 1
 iv:∀ a,a≠z→∃ b,mu a b = o
section
variable {α:Type} {z o:α} {ad mu:α→α→α} {ne:α→α} {sg:α→Int}
variable (h:Es z o ad mu ne sg)
include h
theorem Es.r:CRg z o ad mu ne:=h.toCRg
theorem Es.sz:sg z = 0:=(h.s0 z).2 rfl
theorem Es.aiU:sg (ne o) = -1:=by
 have e:mu (ne o) (ne o) = o:=by have:=((h.r).ring [o,o] (.mul (.neg (.v 1)) (.neg (.v 1))) (.mul (.v 1) (.v 1)) (by decide));exact this.trans (h.mo o)
 have e2:=congrArg sg e;rw [h.sm,h.s1] at e2;rcases h.s3 (ne o) with e3 | e3 | e3
 · exact e3
 · rw [e3] at e2;cases e2
 · have:=h.sa o (ne o) h.s1 e3;rw [h.an,h.sz] at this;cases this
theorem Es.sn (a:α):sg (ne a) = - sg a:=by
 have e:ne a = mu (ne o) a:=by rw [h.r.nm,h.mc,h.mo]
 rw [e,h.sm,h.aiU];omega
theorem Es.nnz {a:α} (ha:a≠z):sg a≠0:=fun e=>ha ((h.s0 a).1 e)
theorem Es.sq {a:α} (ha:a≠z):sg (mu a a) = 1:=by
 rw [h.sm];rcases h.s3 a with e | e | e
 · rw [e];rfl
 · exact absurd e (h.nnz ha)
 · rw [e];rfl
theorem Es.vK (a:α):0≤sg (mu a a):=by
 rw [h.sm];rcases h.s3 a with e | e | e <;> rw [e] <;> decide
theorem Es.add0 {a b:α} (ha:sg a = 1) (hb:0≤sg b):sg (ad a b) = 1:=by
 rcases h.s3 b with e | e | e
 · omega
 · rw [(h.s0 b).1 e,h.az];exact ha
 · exact h.sa a b ha e
theorem Es.agR {a b:α} (ha:0≤sg a) (hb:0≤sg b):0≤sg (ad a b):=by
 rcases h.s3 a with e | e | e
 · omega
 · rw [(h.s0 a).1 e,h.r.za];exact hb
 · have:=h.add0 e hb;omega
theorem Es.afe {a b:α} (ha:sg a = -1) (hb:sg b = -1):sg (ad a b) = -1:=by
 have:=h.sa (ne a) (ne b) (by rw [h.sn,ha];rfl) (by rw [h.sn,hb];rfl);rw [← h.r.na,h.sn] at this;omega
theorem Es.dbl (a:α):sg (ad a a) = sg a:=by
 rcases h.s3 a with e | e | e
 · rw [h.afe e e,e]
 · rw [(h.s0 a).1 e,h.az]
 · rw [h.sa a a e e,e]
theorem Es.dom {a b:α} (e:mu a b = z):a = z∨b = z:=by
 have:=congrArg sg e;rw [h.sm,h.sz] at this;rcases Int.mul_eq_zero.1 this with h1 | h1
 · exact .inl ((h.s0 a).1 h1)
 · exact .inr ((h.s0 b).1 h1)
theorem Es.big {a b:α} (hg:sg (ad (mu a a) (ne (mu b b))) = 1):sg (ad a b) = sg a:=by
 have e:mu (ad a b) (ad a (ne b)) = ad (mu a a) (ne (mu b b)):=((h.r).ring [a,b] (.mul (.add (.v 0) (.v 1)) (.add (.v 0) (.neg (.v 1)))) (.add (.mul (.v 0) (.v 0)) (.neg (.mul (.v 1) (.v 1)))) (by decide));have e2:=congrArg sg e;rw [h.sm,hg] at e2;have e3:ad (ad a b) (ad a (ne b)) = ad a a:=((h.r).ring [a,b] (.add (.add (.v 0) (.v 1)) (.add (.v 0) (.neg (.v 1)))) (.add (.v 0) (.v 0)) (by decide));have e4:=congrArg sg e3;rw [h.dbl] at e4;rcases h.s3 (ad a b) with e5 | e5 | e5
 · rw [e5] at e2;have e6:sg (ad a (ne b)) = -1:=by omega
   rw [h.afe e5 e6] at e4;rw [e5,e4]
 · rw [e5] at e2;omega
 · rw [e5] at e2;have e6:sg (ad a (ne b)) = 1:=by omega
   rw [h.sa _ _ e5 e6] at e4;rw [e5,e4]
theorem Es.Uw {a b c d:α} (h1:sg (ad a (ne b)) = 1) (hb:0≤sg b) (h2:sg (ad c (ne d)) = 1) (hd:0≤sg d):sg (ad (mu a c) (ne (mu b d))) = 1:=by
 have ha:sg a = 1:=by
  have:=h.add0 h1 hb;rwa [show ad (ad a (ne b)) b = a from ((h.r).ring [a,b] (.add (.add (.v 0) (.neg (.v 1))) (.v 1)) (.v 0) (by decide))] at this
 have e:ad (mu a c) (ne (mu b d)) = ad (mu a (ad c (ne d))) (mu (ad a (ne b)) d):=((h.r).ring [a,b,c,d] (.add (.mul (.v 0) (.v 2)) (.neg (.mul (.v 1) (.v 3)))) (.add (.mul (.v 0) (.add (.v 2) (.neg (.v 3)))) (.mul (.add (.v 0) (.neg (.v 1))) (.v 3))) (by decide));rw [e];refine h.add0 ?_ ?_
 · rw [h.sm,ha,h2];rfl
 · rw [h.sm,h1];omega
theorem Es.GU {a b:α} (ha:sg a = 1) (hab:sg (mu a b) = 1):sg b = 1:=by rw [h.sm,ha] at hab;omega
end
def IE {α:Type} (sg:α→Int) (ad mu:α→α→α) (ne:α→α) (r:α) (p:α × α):Int :=
 if sg (ad (mu p.1 p.1) (ne (mu (mu p.2 p.2) r))) = 1 then sg p.1 else sg p.2
section
variable {α:Type} {z o:α} {ad mu:α→α→α} {ne:α→α} {sg:α→Int} {r:α}
theorem tK (h:Es z o ad mu ne sg) (hn:∀ w,mu w w≠r) {x y:α} (e:ad (mu x x) (ne (mu (mu y y) r)) = z):x = z∧y = z:=by
 have e2:mu x x = mu (mu y y) r:=by
  have:=congrArg (fun t=>ad t (mu (mu y y) r)) e;simp only [h.r.za] at this;rwa [show ad (ad (mu x x) (ne (mu (mu y y) r))) (mu (mu y y) r) = mu x x from ((h.r).ring [x,y,r] (.add (.add (.mul (.v 0) (.v 0)) (.neg (.mul (.mul (.v 1) (.v 1)) (.v 2)))) (.mul (.mul (.v 1) (.v 1)) (.v 2))) (.mul (.v 0) (.v 0)) (by decide))] at this
 by_cases hy:y = z
 · subst hy;rw [show mu (mu y y) r = y by rw [h.r.zm,h.mc,h.r.zm]] at e2;rcases h.dom e2 with h1 | h1 <;> exact ⟨h1,rfl⟩
 · exfalso;obtain ⟨i,hi⟩:=h.iv y hy;refine hn (mu x i) ?_;have:mu (mu x i) (mu x i) = mu (mu (mu y i) (mu y i)) r:=by
    have e3:mu (mu x i) (mu x i) = mu (mu x x) (mu i i):=((h.r).ring [x,i] (.mul (.mul (.v 0) (.v 1)) (.mul (.v 0) (.v 1))) (.mul (.mul (.v 0) (.v 0)) (.mul (.v 1) (.v 1))) (by decide));rw [e3,e2];exact ((h.r).ring [y,i,r] (.mul (.mul (.mul (.v 0) (.v 0)) (.v 2)) (.mul (.v 1) (.v 1))) (.mul (.mul (.mul (.v 0) (.v 1)) (.mul (.v 0) (.v 1))) (.v 2)) (by decide))
   rw [this,hi,h.mo,h.mc,h.mo]
variable (h:Es z o ad mu ne sg) (hr:sg r = 1) (hn:∀ w,mu w w≠r)
include h hr hn
theorem YB (x y:α):IE sg ad mu ne r (x,y) = 0↔x = z∧y = z:=by
 unfold IE;constructor
 · intro e;simp only at e
   split at e
   · rename_i h1;have hx:=(h.s0 x).1 e;subst hx;exfalso;rw [h.r.zm,h.r.za,h.sn,h.sm,hr] at h1;have:=h.vK y;omega
   · rename_i h1;have hy:=(h.s0 y).1 e;subst hy;refine ⟨?_,rfl⟩;rw [h.r.zm,h.mc y,h.r.zm,h.r.nz,h.az] at h1;exact gr fun hx=>h1 (h.sq hx)
 · rintro ⟨rfl,rfl⟩;simp only
   split <;> exact h.sz
theorem Kv (x y u v:α):IE sg ad mu ne r (ad (mu x u) (mu (mu y v) r),ad (mu x v) (mu y u)) = IE sg ad mu ne r (x,y) * IE sg ad mu ne r (u,v):=by
 have hN:ad (mu (ad (mu x u) (mu (mu y v) r)) (ad (mu x u) (mu (mu y v) r))) (ne (mu (mu (ad (mu x v) (mu y u)) (ad (mu x v) (mu y u))) r)) = mu (ad (mu x x) (ne (mu (mu y y) r))) (ad (mu u u) (ne (mu (mu v v) r))) :=
  ((h.r).ring [x,y,u,v,r] (.add (.mul (.add (.mul (.v 0) (.v 2)) (.mul (.mul (.v 1) (.v 3)) (.v 4))) (.add (.mul (.v 0) (.v 2)) (.mul (.mul (.v 1) (.v 3)) (.v 4)))) (.neg (.mul (.mul (.add (.mul (.v 0) (.v 3)) (.mul (.v 1) (.v 2))) (.add (.mul (.v 0) (.v 3)) (.mul (.v 1) (.v 2)))) (.v 4)))) (.mul (.add (.mul (.v 0) (.v 0)) (.neg (.mul (.mul (.v 1) (.v 1)) (.v 4)))) (.add (.mul (.v 2) (.v 2)) (.neg (.mul (.mul (.v 3) (.v 3)) (.v 4))))) (by decide))
 have p0:∀ y:α,0≤sg (mu (mu y y) r):=fun y=>by rw [h.sm,hr];have:=h.vK y;omega
 -- the sign of the norm tells which part is the greater one
 have neg:∀ {x y:α},sg (ad (mu x x) (ne (mu (mu y y) r))) = -1→sg (ad (mu (mu y y) r) (ne (mu x x))) = 1:=fun {x y} e=>by
  have e2:ad (mu (mu y y) r) (ne (mu x x)) = ne (ad (mu x x) (ne (mu (mu y y) r))):=((h.r).ring [x,y,r] (.add (.mul (.mul (.v 1) (.v 1)) (.v 2)) (.neg (.mul (.v 0) (.v 0)))) (.neg (.add (.mul (.v 0) (.v 0)) (.neg (.mul (.mul (.v 1) (.v 1)) (.v 2))))) (by decide));rw [e2,h.sn,e];rfl
 unfold IE;simp only [hN,h.sm (ad (mu x x) (ne (mu (mu y y) r)))];rcases h.s3 (ad (mu x x) (ne (mu (mu y y) r))) with e1 | e1 | e1 <;> rcases h.s3 (ad (mu u u) (ne (mu (mu v v) r))) with e2 | e2 | e2 <;> simp only [e1,e2] <;> simp
 · -- both parts behind are greater
   have g:=h.Uw (neg e1) (h.vK x) (neg e2) (h.vK u);have e:ad (mu (mu (mu y v) r) (mu (mu y v) r)) (ne (mu (mu x u) (mu x u))) = ad (mu (mu (mu y y) r) (mu (mu v v) r)) (ne (mu (mu x x) (mu u u))):=((h.r).ring [x,y,u,v,r] (.add (.mul (.mul (.mul (.v 1) (.v 3)) (.v 4)) (.mul (.mul (.v 1) (.v 3)) (.v 4))) (.neg (.mul (.mul (.v 0) (.v 2)) (.mul (.v 0) (.v 2))))) (.add (.mul (.mul (.mul (.v 1) (.v 1)) (.v 4)) (.mul (.mul (.v 3) (.v 3)) (.v 4))) (.neg (.mul (.mul (.v 0) (.v 0)) (.mul (.v 2) (.v 2))))) (by decide));rw [h.ac,h.big (by rw [e];exact g),h.sm,h.sm,hr];simp
 · obtain ⟨rfl,rfl⟩:=tK h hn ((h.s0 _).1 e2);rw [h.r.zm,h.r.zm,h.az,h.sz];simp
 · -- the first behind,the second before
   have g:=h.Uw (neg e1) (h.vK x) e2 (p0 v);have e:mu (ad (mu (mu y u) (mu y u)) (ne (mu (mu x v) (mu x v)))) r = ad (mu (mu (mu y y) r) (mu u u)) (ne (mu (mu x x) (mu (mu v v) r))):=((h.r).ring [x,y,u,v,r] (.mul (.add (.mul (.mul (.v 1) (.v 2)) (.mul (.v 1) (.v 2))) (.neg (.mul (.mul (.v 0) (.v 3)) (.mul (.v 0) (.v 3))))) (.v 4)) (.add (.mul (.mul (.mul (.v 1) (.v 1)) (.v 4)) (.mul (.v 2) (.v 2))) (.neg (.mul (.mul (.v 0) (.v 0)) (.mul (.mul (.v 3) (.v 3)) (.v 4))))) (by decide));have g2:sg (ad (mu (mu y u) (mu y u)) (ne (mu (mu x v) (mu x v)))) = 1:=h.GU hr (by rw [h.mc,e];exact g);rw [h.ac,h.big g2,h.sm]
 · obtain ⟨rfl,rfl⟩:=tK h hn ((h.s0 _).1 e1);rw [h.mc y v,h.r.zm,h.mc y u,h.r.zm,h.az,h.sz];simp
 · obtain ⟨rfl,rfl⟩:=tK h hn ((h.s0 _).1 e1);rw [h.mc y v,h.r.zm,h.mc y u,h.r.zm,h.az,h.sz];simp
 · obtain ⟨rfl,rfl⟩:=tK h hn ((h.s0 _).1 e1);rw [h.mc y v,h.r.zm,h.mc y u,h.r.zm,h.az,h.sz];simp
 · -- the first before,the second behind
   have g:=h.Uw e1 (p0 y) (neg e2) (h.vK u);have e:mu (ad (mu (mu x v) (mu x v)) (ne (mu (mu y u) (mu y u)))) r = ad (mu (mu x x) (mu (mu v v) r)) (ne (mu (mu (mu y y) r) (mu u u))):=((h.r).ring [x,y,u,v,r] (.mul (.add (.mul (.mul (.v 0) (.v 3)) (.mul (.v 0) (.v 3))) (.neg (.mul (.mul (.v 1) (.v 2)) (.mul (.v 1) (.v 2))))) (.v 4)) (.add (.mul (.mul (.v 0) (.v 0)) (.mul (.mul (.v 3) (.v 3)) (.v 4))) (.neg (.mul (.mul (.mul (.v 1) (.v 1)) (.v 4)) (.mul (.v 2) (.v 2))))) (by decide));have g2:sg (ad (mu (mu x v) (mu x v)) (ne (mu (mu y u) (mu y u)))) = 1:=h.GU hr (by rw [h.mc,e];exact g);rw [h.big g2,h.sm]
 · obtain ⟨rfl,rfl⟩:=tK h hn ((h.s0 _).1 e2);rw [h.r.zm,h.r.zm,h.az,h.sz];simp
 · have g:=h.Uw e1 (p0 y) e2 (p0 v);have e:ad (mu (mu x u) (mu x u)) (ne (mu (mu (mu y v) r) (mu (mu y v) r))) = ad (mu (mu x x) (mu u u)) (ne (mu (mu (mu y y) r) (mu (mu v v) r))):=((h.r).ring [x,y,u,v,r] (.add (.mul (.mul (.v 0) (.v 2)) (.mul (.v 0) (.v 2))) (.neg (.mul (.mul (.mul (.v 1) (.v 3)) (.v 4)) (.mul (.mul (.v 1) (.v 3)) (.v 4))))) (.add (.mul (.mul (.v 0) (.v 0)) (.mul (.v 2) (.v 2))) (.neg (.mul (.mul (.mul (.v 1) (.v 1)) (.v 4)) (.mul (.mul (.v 3) (.v 3)) (.v 4))))) (by decide));rw [h.big (by rw [e];exact g),h.sm]
theorem aed {x y:α} (hw:IE sg ad mu ne r (x,y) = 1):IE sg ad mu ne r (ad o x,y) = 1:=by
 have e:ad (mu (ad o x) (ad o x)) (ne (mu (mu y y) r)) = ad (ad (mu x x) (ne (mu (mu y y) r))) (ad o (ad x x)):=by
  have e1:ad (mu (ad o x) (ad o x)) (ne (mu (mu y y) r)) = ad (ad (mu x x) (ne (mu (mu y y) r))) (ad (mu o o) (ad (mu o x) (mu o x))):=((h.r).ring [o,x,y,r] (.add (.mul (.add (.v 0) (.v 1)) (.add (.v 0) (.v 1))) (.neg (.mul (.mul (.v 2) (.v 2)) (.v 3)))) (.add (.add (.mul (.v 1) (.v 1)) (.neg (.mul (.mul (.v 2) (.v 2)) (.v 3)))) (.add (.mul (.v 0) (.v 0)) (.add (.mul (.v 0) (.v 1)) (.mul (.v 0) (.v 1))))) (by decide));rwa [h.mo o,h.mc o x,h.mo x] at e1
 unfold IE at hw ⊢;simp only at hw ⊢
 split at hw
 · rename_i h1;have h2:=h.sa o x h.s1 hw;have h3:sg (ad o (ad x x)) = 1:=by rw [← h.aa];exact h.sa _ _ h2 hw
   rw [if_pos (by rw [e];exact h.sa _ _ h1 h3)];exact h2
 ·
  rename_i h1
  split
  ·
   rename_i h2;have h3:sg (ad (ad (mu (ad o x) (ad o x)) (ne (mu (mu y y) r))) (ne (ad (mu x x) (ne (mu (mu y y) r))))) = 1:=h.add0 h2 (by
    rw [h.sn];rcases h.s3 (ad (mu x x) (ne (mu (mu y y) r))) with h3 | h3 | h3
    · omega
    · omega
    · exact absurd h3 h1)
   rw [e,show ad (ad (ad (mu x x) (ne (mu (mu y y) r))) (ad o (ad x x))) (ne (ad (mu x x) (ne (mu (mu y y) r)))) = ad o (ad x x) by
    rw [h.ac,← h.aa,h.ac (ne _),h.an,h.r.za]] at h3
   have h4:=h.sa o _ h.s1 h3;rw [show ad o (ad o (ad x x)) = ad (ad o x) (ad o x) from ((h.r).ring [o,x] (.add (.v 0) (.add (.v 0) (.add (.v 1) (.v 1)))) (.add (.add (.v 0) (.v 1)) (.add (.v 0) (.v 1))) (by decide)),h.dbl] at h4;exact h4
  · exact hw
theorem XG {x y:α} (hne:¬ (x = z∧y = z)):∃ u v,ad (mu x u) (mu (mu y v) r) = o∧ad (mu x v) (mu y u) = z:=by
 have hN:ad (mu x x) (ne (mu (mu y y) r))≠z:=fun e=>hne (tK h hn e)
 obtain ⟨i,hi⟩:=h.iv _ hN;refine ⟨mu x i,ne (mu y i),?_,((h.r).ring [x,y,i] (.add (.mul (.v 0) (.neg (.mul (.v 1) (.v 2)))) (.mul (.v 1) (.mul (.v 0) (.v 2)))) .zero (by decide))⟩;rw [← hi];exact ((h.r).ring [x,y,i,r] (.add (.mul (.v 0) (.mul (.v 0) (.v 2))) (.mul (.mul (.v 1) (.neg (.mul (.v 1) (.v 2)))) (.v 3))) (.mul (.add (.mul (.v 0) (.v 0)) (.neg (.mul (.mul (.v 1) (.v 1)) (.v 3)))) (.v 2)) (by decide))
theorem X7:IE sg ad mu ne r (o,z) = 1:=by
 unfold IE;simp only;rw [h.r.zm,h.mc z r,h.r.zm,h.r.nz,h.az,h.mo,if_pos h.s1,h.s1]
theorem aet (x y:α):IE sg ad mu ne r (x,y) = -1∨IE sg ad mu ne r (x,y) = 0∨IE sg ad mu ne r (x,y) = 1:=by
 unfold IE;simp only
 split
 · exact h.s3 x
 · exact h.s3 y
theorem aff {x y u v:α} (h1:IE sg ad mu ne r (x,y) = 1) (h2:IE sg ad mu ne r (u,v) = 1):IE sg ad mu ne r (ad x u,ad y v) = 1:=by
 have hne:¬ (x = z∧y = z):=fun e=>by
  rw [(YB h hr hn x y).2 e] at h1;cases h1
 obtain ⟨p,q,i1,i2⟩:=XG h hr hn hne;have m1:=Kv h hr hn x y p q;rw [i1,i2,X7 h hr hn,h1,Int.one_mul] at m1;have m2:=Kv h hr hn u v p q;rw [h2,← m1,ia] at m2;have m3:=aed h hr hn m2;have m4:=Kv h hr hn x y (ad o (ad (mu u p) (mu (mu v q) r))) (ad (mu u q) (mu v p));rw [h1,m3,ia] at m4;have e1:ad (mu x (ad o (ad (mu u p) (mu (mu v q) r)))) (mu (mu y (ad (mu u q) (mu v p))) r) = ad x u:=by
  have:ad (mu x (ad o (ad (mu u p) (mu (mu v q) r)))) (mu (mu y (ad (mu u q) (mu v p))) r) = ad (mu x o) (ad (mu u (ad (mu x p) (mu (mu y q) r))) (mu v (mu (ad (mu x q) (mu y p)) r))):=((h.r).ring [o,x,y,u,v,p,q,r] (.add (.mul (.v 1) (.add (.v 0) (.add (.mul (.v 3) (.v 5)) (.mul (.mul (.v 4) (.v 6)) (.v 7))))) (.mul (.mul (.v 2) (.add (.mul (.v 3) (.v 6)) (.mul (.v 4) (.v 5)))) (.v 7))) (.add (.mul (.v 1) (.v 0)) (.add (.mul (.v 3) (.add (.mul (.v 1) (.v 5)) (.mul (.mul (.v 2) (.v 6)) (.v 7)))) (.mul (.v 4) (.mul (.add (.mul (.v 1) (.v 6)) (.mul (.v 2) (.v 5))) (.v 7))))) (by decide));rw [this,i1,i2,h.mo,h.mo,h.mc z r,h.r.zm,h.r.zm,h.az]
 have e2:ad (mu x (ad (mu u q) (mu v p))) (mu y (ad o (ad (mu u p) (mu (mu v q) r)))) = ad y v:=by
  have:ad (mu x (ad (mu u q) (mu v p))) (mu y (ad o (ad (mu u p) (mu (mu v q) r)))) = ad (mu y o) (ad (mu v (ad (mu x p) (mu (mu y q) r))) (mu u (ad (mu x q) (mu y p)))):=((h.r).ring [o,x,y,u,v,p,q,r] (.add (.mul (.v 1) (.add (.mul (.v 3) (.v 6)) (.mul (.v 4) (.v 5)))) (.mul (.v 2) (.add (.v 0) (.add (.mul (.v 3) (.v 5)) (.mul (.mul (.v 4) (.v 6)) (.v 7)))))) (.add (.mul (.v 2) (.v 0)) (.add (.mul (.v 4) (.add (.mul (.v 1) (.v 5)) (.mul (.mul (.v 2) (.v 6)) (.v 7)))) (.mul (.v 3) (.add (.mul (.v 1) (.v 6)) (.mul (.v 2) (.v 5)))))) (by decide));rw [this,i1,i2,h.mo,h.mo,h.r.zm,h.az]
 rw [e1,e2] at m4;exact m4
end
def aJ:{n:Nat}→Tw n→El n→Int
 | 0,_,a=>(show Rat from a).num.sign
 | _ + 1,(t,r),(x,y) =>
  if aJ t y = 0∨aJ t x = aJ t y then aJ t x
  else if aJ t x = 0 then aJ t y
  else aJ t x * aJ t (fP t r x y)
def dW:{n:Nat}→Tw n→Prop
 | 0,_=>True
 | _ + 1,(t,r)=>dW t∧aJ t r = 1∧∀ w,au t w w≠r
variable {t:Tw n}
theorem ahQ {r:El n} (h:Es (zeroE n) (dD n 1) aH (au t) bI (aJ t)) (hr:aJ t r = 1) (hn:∀ w,au t w w≠r) (x y:El n):aJ (n:=n + 1) (t,r) (x,y) = IE (aJ t) aH (au t) bI r (x,y):=by
 have eN:fP t r x y = aH (au t x x) (bI (au t (au t y y) r)):=rfl;have p0:∀ y,0≤aJ t (au t (au t y y) r):=fun y=>by rw [h.sm,hr];have:=h.vK y;omega
 unfold IE;simp only [aJ,← eN]
 by_cases hy:aJ t y = 0
 · rw [if_pos (.inl hy)]
   by_cases hx:aJ t x = 0
   · split <;> omega
   · rw [if_pos];have hy':=(h.s0 y).1 hy;rw [eN,hy',h.r.zm,h.mc _ r,h.r.zm,h.r.nz,h.az];exact h.sq fun e=>hx ((h.s0 x).2 e)
 ·
  by_cases hxy:aJ t x = aJ t y
  · rw [if_pos (.inr hxy)];split <;> omega
  ·
   rw [if_neg (by rintro (h1 | h1);exact hy h1;exact hxy h1)]
   by_cases hx:aJ t x = 0
   · rw [if_pos hx,if_neg];have hx':=(h.s0 x).1 hx;rw [eN,hx',h.r.zm,h.r.za,h.sn];have:=p0 y;omega
   · rw [if_neg hx];rcases h.s3 (fP t r x y) with e | e | e
     · rw [e,if_neg (by decide)];rcases h.s3 x with e1 | e1 | e1 <;> rcases h.s3 y with e2 | e2 | e2 <;> omega
     · exact absurd ((h.s0 x).2 (tK h hn ((h.s0 _).1 (eN ▸ e))).1) hx
     · rw [e,if_pos rfl,ia]
theorem Gi {a:Rat}:0 < a.num↔0 < a:=by
 have h1:=@Rat.num_nonneg a;have h2:=@jN a;constructor
 · intro h;have h3:=h1.1 (by omega);have h4:a≠0:=fun e=>by have:=h2.2 e;omega
   grind
 · intro h;have h3:=h1.2 (by grind);have h4:a.num≠0:=fun e=>by have:=h2.1 e;grind
   omega
theorem y7 {a:Rat} (h:0 < a):a.num.sign = 1:=bE (Gi.2 h)
theorem CG {a:Rat} (h:a < 0):a.num.sign = -1:=by
 have:=Gi.2 (show 0 < -a by grind);rw [Rat.neg_num] at this;exact br (by omega)
theorem XW {a:Rat} (h:a.num.sign = 1):0 < a:=Gi.1 (Int.sign_eq_one_iff_pos.1 h)
theorem Y7 (a:Rat):a < 0∨a = 0∨0 < a:=by grind
theorem ofQ:Es (0:Rat) 1 gh eh gg (fun a=>a.num.sign) :=
 { rgQ with
  s0:=fun a=>by rw [Int.sign_eq_zero_iff_zero,jN]
  s3:=fun a=>by
   rcases Int.lt_trichotomy a.num 0 with h | h | h
   · exact .inl (br h)
   · exact .inr (.inl (by rw [h];rfl))
   · exact .inr (.inr (bE h))
  sm:=fun a b=>by
   show (a * b).num.sign = _;rcases Y7 a with h | h | h <;> rcases Y7 b with k | k | k
   · rw [CG h,CG k,y7 (by have:=eE (show 0 < -a by grind) (show 0 < -b by grind);grind)];rfl
   · rw [k,cF];simp
   · rw [CG h,y7 k,CG (by have:=eE (show 0 < -a by grind) k;grind)];rfl
   · rw [h,de];simp
   · rw [h,de];simp
   · rw [h,de];simp
   · rw [y7 h,CG k,CG (by have:=eE h (show 0 < -b by grind);grind)];rfl
   · rw [k,cF];simp
   · rw [y7 h,y7 k,y7 (eE h k)];rfl
  sa:=fun a b ha hb=>by
   have h1:=XW ha;have h2:=XW hb;exact y7 (a:=a + b) (by grind)
  s1:=rfl
  iv:=fun a ha=>⟨a⁻¹,iA a ha⟩ }
theorem oq:∀ {n:Nat} {t:Tw n},dW t→Es (zeroE n) (dD n 1) aH (au t) bI (aJ t)
 | 0,_,_=>ofQ
 | n + 1,(t,r),⟨h1,hr,hn⟩=>by
  have h:=oq h1;have g:=ahQ h hr hn;exact { jY (n:=n + 1) (t,r) with
   s0:=fun (x,y)=>by
    rw [g,YB h hr hn];exact ⟨fun e=>by rw [e.1,e.2];rfl,fun e=>by injection e with e1 e2;exact ⟨e1,e2⟩⟩
   s3:=fun (x,y)=>by rw [g];exact aet h hr hn x y
   sm:=fun (x,y) (u,v)=>by rw [g,g];exact (g _ _).trans (Kv h hr hn x y u v)
   sa:=fun (x,y) (u,v) h1 h2=>by rw [g] at h1 h2;exact (g _ _).trans (aff h hr hn h1 h2)
   s1:=(g _ _).trans (X7 h hr hn)
   iv:=fun (x,y) hne=>by
    obtain ⟨u,v,e1,e2⟩:=XG h hr hn (x:=x) (y:=y) (fun e=>hne (by rw [e.1,e.2];rfl));exact ⟨(u,v),dQ e1 e2⟩ }
theorem Rb.one:Rb 1:=by unfold Rb;exact ⟨by decide,by decide⟩
def fZ:{n:Nat}→Tw n→El n→El n
 | 0,_,a=>Rat.div 1 a
 | _ + 1,(t,r),(x,y)=>(au t x (fZ t (fP t r x y)),bI (au t y (fZ t (fP t r x y))))
def nzE:{n:Nat}→Tw n→El n→Prop
 | 0,_,a=>a≠(0:Rat)
 | _ + 1,(t,r),(x,y)=>nzE t (fP t r x y)
theorem jI:∀ {n:Nat} {t:Tw n} {a:El n},dW t→a≠zeroE n→nzE t a∧au t a (fZ t a) = dD n 1
 | 0,_,a,_,ha=>⟨ha,by
  have e:∀ a:Rat,a≠0→a * (1 / a) = 1:=fun a h=>by rw [Rat.div_def,gR];exact iA a h
  exact e a ha⟩
 | n + 1,(t,r),(x,y),⟨h1,hr,hn⟩,ha=>by
  have h:=oq h1;have hN:fP t r x y≠zeroE n:=fun e=>by
   obtain ⟨e1,e2⟩:=tK h hn e;exact ha (by rw [e1,e2];rfl)
  obtain ⟨i1,i2⟩:=jI h1 hN;refine ⟨i1,?_⟩;have e1:au t (aH (au t x x) (bI (au t (au t y y) r))) (fZ t (fP t r x y)) = dD n 1:=i2;refine dQ ?_ ((h.r).ring [x,y,fZ t (fP t r x y)] (.add (.mul (.v 0) (.neg (.mul (.v 1) (.v 2)))) (.mul (.v 1) (.mul (.v 0) (.v 2)))) .zero (by decide));rw [← e1];exact ((h.r).ring [x,y,fZ t (fP t r x y),r] (.add (.mul (.v 0) (.mul (.v 0) (.v 2))) (.mul (.mul (.v 1) (.neg (.mul (.v 1) (.v 2)))) (.v 3))) (.mul (.add (.mul (.v 0) (.v 0)) (.neg (.mul (.mul (.v 1) (.v 1)) (.v 3)))) (.v 2)) (by decide))
theorem FY {a b c:El n} (hb:au t a b = dD n 1) (hc:au t a c = dD n 1):b = c:=by
 have h:=jY t;have e:au t (au t a b) c = au t (au t a c) b:=((h).ring [a,b,c] (.mul (.mul (.v 0) (.v 1)) (.v 2)) (.mul (.mul (.v 0) (.v 2)) (.v 1)) (by decide));rw [hb,hc] at e;rw [h.mc,h.mo,h.mc,h.mo] at e;exact e.symm
noncomputable def vM (q:Rat):Option Rat:=open Classical in if h:∃ w:Rat,0≤w∧w * w = q then some (fS h) else none
theorem Bl {q w:Rat} (h:vM q = some w):0≤w∧w * w = q:=by
 unfold vM at h
 split at h
 · rename_i hx;injection h with h
   rw [← h];exact eL hx
 · cases h
theorem O8 {q w:Rat} (h:w * w = q):∃ v,vM q = some v:=by
 have hx:∃ w:Rat,0≤w∧w * w = q:=by
  rcases Y7 w with h1 | h1 | h1
  · exact ⟨-w,by grind,by rw [← h];grind⟩
  · exact ⟨w,by grind,h⟩
  · exact ⟨w,by grind,h⟩
 exact ⟨_,by unfold vM;rw [dif_pos hx]⟩
theorem afH {q w:Rat} (h0:0≤w) (h:w * w = q):vM q = some w:=by
 obtain ⟨v,hv⟩:=O8 h;obtain ⟨g0,g⟩:=Bl hv;have e:(v - w) * (v + w) = 0:=by grind
 rcases j0.1 e with e | e
 · rw [hv,show v = w by grind]
 · rw [hv,show v = w by grind]
def bU (n:Nat):El n:=dD n (1 / 2)
theorem wu:∀ (n:Nat),aH (bU n) (bU n) = dD n 1
 | 0=>by show (1 / 2:Rat) + 1 / 2 = 1;grind
 | n + 1=>dQ (wu n) (qm _)
noncomputable def o6 {n:Nat} (S:El n→Option (El n)) (t:Tw n) (r u v:El n):Option (El (n + 1)) :=
 if iW v = true then
  match S u with
  | some w=>some (w,zeroE n)
  | none=>match S (au t u (fZ t r)) with
   | some w=>some (zeroE n,w)
   | none=>none
 else match S (fP t r u v) with
  | none=>none
  | some m =>
   match (S (au t (aH u m) (bU n))).filter (fun w=>!iW w) with
   | some w=>some (w,au t v (fZ t (aH w w)))
   | none=>match (S (au t (kX u m) (bU n))).filter (fun w=>!iW w) with
    | some w=>some (w,au t v (fZ t (aH w w)))
    | none=>none
noncomputable def ou:{n:Nat}→Tw n→El n→Option (El n)
 | 0,_,a=>vM a
 | _ + 1,(t,r),(u,v)=>o6 (ou t) t r u v
noncomputable def tu {n:Nat} (S:El n→Option (El n)) (t:Tw n) (r u v:El n):Option (El (n + 1)) :=
 if iW v = true then
  match S u with
  | some w=>some (w,zeroE n)
  | none=>match S (au t u (fZ t r)) with
   | some w=>some (zeroE n,w)
   | none=>none
 else match S (fP t r u v) with
  | none=>none
  | some m=>match S (au t (bU n) (aH u m)) with
   | some w=>some (w,au t (bU n) (au t v (fZ t w)))
   | none=>match S (au t (bU n) (aH u (bI m))) with
    | some w=>some (w,au t (bU n) (au t v (fZ t w)))
    | none=>none
noncomputable def tC:{n:Nat}→Tw n→El n→Option (El n)
 | 0,_,a=>vM a
 | _ + 1,(t,r),(u,v)=>if aJ (n:=_ + 1) (t,r) (u,v) < 0 then none else tu (tC t) t r u v
variable {α:Type}
theorem aco {z o:α} {ad mu:α→α→α} {ne:α→α} {sg:α→Int} (h:Es z o ad mu ne sg) {a x y:α} (ha:a≠z) (e:mu a x = mu a y):x = y:=by
 have e2:mu a (ad x (ne y)) = z:=by rw [h.md,h.r.mn,e,h.an]
 rcases h.dom e2 with g | g
 · exact absurd g ha
 · refine h.r.can (c:=ne y) ?_;rw [g,h.an]
section
variable {r u v m w:El n}
theorem KU (h1:dW t) (hr:r≠zeroE n) (hw:au t w w = au t (aH u m) (bU n)) (hm:au t m m = fP t r u v) (hw0:w≠zeroE n) :
 au (n:=n + 1) (t,r) (w,au t v (fZ t (aH w w))) (w,au t v (fZ t (aH w w))) = (u,v):=by
 have h:=(oq h1);have hd:aH w w≠zeroE n:=fun e=>by
  have:=h.dbl w;rw [e,h.sz] at this;exact hw0 ((h.s0 w).1 this.symm)
 have hi:=(jI h1 hd).2;generalize fZ t (aH w w) = i at hi ⊢;have hh:=wu n;generalize bU n = c at hh hw;have hN:au t m m = aH (au t u u) (bI (au t (au t v v) r)):=hm;refine dQ ?_ ?_
 ·
  -- the square of w + w,times the sum,is right;cancel it
  have e1:au t (au t (aH w w) (aH w w)) (aH (au t w w) (au t (au t (au t v i) (au t v i)) r)) = aH (au t (aH (au t w w) (au t w w)) (aH (au t w w) (au t w w))) (au t (au t (au t v (au t (aH w w) i)) (au t v (au t (aH w w) i))) r) :=
   ((h.r).ring [w,v,i,r] (.mul (.mul (.add (.v 0) (.v 0)) (.add (.v 0) (.v 0))) (.add (.mul (.v 0) (.v 0)) (.mul (.mul (.mul (.v 1) (.v 2)) (.mul (.v 1) (.v 2))) (.v 3)))) (.add (.mul (.add (.mul (.v 0) (.v 0)) (.mul (.v 0) (.v 0))) (.add (.mul (.v 0) (.v 0)) (.mul (.v 0) (.v 0)))) (.mul (.mul (.mul (.v 1) (.mul (.add (.v 0) (.v 0)) (.v 2))) (.mul (.v 1) (.mul (.add (.v 0) (.v 0)) (.v 2)))) (.v 3))) (by decide))
  have e2:aH (au t w w) (au t w w) = aH u m:=by
   rw [hw,← h.md,hh,h.mo]
  have e3:au t (au t v v) r = aH (au t u u) (bI (au t m m)):=by
   rw [hN];exact ((h.r).ring [u,v,r] (.mul (.mul (.v 1) (.v 1)) (.v 2)) (.add (.mul (.v 0) (.v 0)) (.neg (.add (.mul (.v 0) (.v 0)) (.neg (.mul (.mul (.v 1) (.v 1)) (.v 2)))))) (by decide))
  rw [hi,h.mo v,e3,e2] at e1;have e4:aH (au t (aH u m) (aH u m)) (aH (au t u u) (bI (au t m m))) = au t (aH (aH u m) (aH u m)) u:=((h.r).ring [u,m] (.add (.mul (.add (.v 0) (.v 1)) (.add (.v 0) (.v 1))) (.add (.mul (.v 0) (.v 0)) (.neg (.mul (.v 1) (.v 1))))) (.mul (.add (.add (.v 0) (.v 1)) (.add (.v 0) (.v 1))) (.v 0)) (by decide));have e5:aH (aH u m) (aH u m) = au t (aH w w) (aH w w):=by
   rw [← e2];exact ((h.r).ring [w] (.add (.add (.mul (.v 0) (.v 0)) (.mul (.v 0) (.v 0))) (.add (.mul (.v 0) (.v 0)) (.mul (.v 0) (.v 0)))) (.mul (.add (.v 0) (.v 0)) (.add (.v 0) (.v 0))) (by decide))
  rw [e4,e5] at e1;have hq:au t (aH w w) (aH w w)≠zeroE n:=fun e=>by rcases h.dom e with e | e <;> exact hd e
  exact aco h hq e1
 · have e:aH (au t w (au t v i)) (au t (au t v i) w) = au t v (au t (aH w w) i):=((h.r).ring [w,v,i] (.add (.mul (.v 0) (.mul (.v 1) (.v 2))) (.mul (.mul (.v 1) (.v 2)) (.v 0))) (.mul (.v 1) (.mul (.add (.v 0) (.v 0)) (.v 2))) (by decide));rw [e,hi,h.mo]
theorem sO (x:El n):au t (aH x x) (bU n) = x:=by
 have h:=jY t;have e:au t (aH x x) (bU n) = au t x (aH (bU n) (bU n)):=((h).ring [x,bU n] (.mul (.add (.v 0) (.v 0)) (.v 1)) (.mul (.v 0) (.add (.v 1) (.v 1))) (by decide));rw [e,wu,h.mo]
end
theorem Nr (h:¬ iW x = true):x≠zeroE n:=fun e=>h (gq.2 e)
theorem DR {r:El n} (h:dW (n:=n + 1) (t,r)):r≠zeroE n:=fun e=>by
 have:=(oq h.1).sz;rw [← e,h.2.1] at this;cases this
theorem XN (t:Tw n) (x:El n):au t x (zeroE n) = zeroE n:=(sV t x).1
theorem aal {r u w:El n} (hw:au t w w = u):au (n:=n + 1) (t,r) (w,zeroE n) (w,zeroE n) = (u,zeroE n):=by
 have h:=jY t;refine dQ ?_ ?_
 · rw [hw,h.zm,h.mc _ r,h.zm,h.az]
 · rw [h.zm,h.mc,h.zm,h.az]
theorem aac {r u w i:El n} (hi:au t r i = dD n 1) (hw:au t w w = au t u i):au (n:=n + 1) (t,r) (zeroE n,w) (zeroE n,w) = (u,zeroE n):=by
 have h:=jY t;refine dQ ?_ ?_
 · rw [hw,h.zm,h.za,show au t (au t u i) r = au t u (au t r i) from ((h).ring [u,i,r] (.mul (.mul (.v 0) (.v 1)) (.v 2)) (.mul (.v 0) (.mul (.v 2) (.v 1))) (by decide)),hi,h.mo]
 · rw [h.zm,h.mc,h.zm,h.az]
theorem agM {o:Option (El n)} {w:El n} (h:o.filter (fun w=>!iW w) = some w):o = some w∧w≠zeroE n:=by
 obtain ⟨h1,h2⟩:=Option.filter_eq_some_iff.1 h;exact ⟨h1,Nr (by simpa using h2)⟩
theorem uf (t:Tw n) (m:El n):au t (bI m) (bI m) = au t m m:=((jY t).ring [m] (.mul (.neg (.v 0)) (.neg (.v 0))) (.mul (.v 0) (.v 0)) (by decide))
theorem pJ:∀ {n:Nat} {t:Tw n} {a w:El n},dW t→ou t a = some w→au t w w = a
 | 0,_,a,w,_,h=>(Bl h).2
 | n + 1,(t,r),(u,v),w,hR,h=>by
  have hr0:=DR hR;obtain ⟨h1,hr,hn⟩:=hR
  replace h:o6 (ou t) t r u v = some w:=h
  unfold o6 at h
  split at h
  ·
   rename_i hv;have hv:=gq.1 hv;subst hv
   split at h
   · rename_i w' e;injection h with h;subst h
     exact aal (pJ h1 e)
   · split at h
     · rename_i w' e;injection h with h;subst h
       exact aac (jI h1 hr0).2 (pJ h1 e)
     · cases h
  ·
   rename_i hv
   split at h
   · cases h
   ·
    rename_i m em;have hm:=pJ h1 em
    split at h
    · rename_i w' e;injection h with h;subst h
      obtain ⟨e1,e2⟩:=agM e;exact KU h1 hr0 (pJ h1 e1) hm e2
    · split at h
      · rename_i w' e;injection h with h;subst h
        obtain ⟨e1,e2⟩:=agM e;exact KU h1 hr0 (pJ h1 e1) ((uf t m).trans hm) e2
      · cases h
theorem Jp (h1:dW t) {a b:El n} (e:au t a a = au t b b):a = b∨a = bI b:=by
 have h:=oq h1;have e2:au t (aH a (bI b)) (aH a b) = zeroE n:=by
  have e3:au t (aH a (bI b)) (aH a b) = aH (au t a a) (bI (au t b b)):=((h.r).ring [a,b] (.mul (.add (.v 0) (.neg (.v 1))) (.add (.v 0) (.v 1))) (.add (.mul (.v 0) (.v 0)) (.neg (.mul (.v 1) (.v 1)))) (by decide));rw [e3,e,h.an]
 rcases h.dom e2 with g | g
 · refine .inl (h.r.can (c:=bI b) ?_);rw [g,h.an]
 · refine .inr (h.r.can (c:=b) ?_);rw [g,h.ac,h.an]
theorem zH {r p q u v:El n} (e:au (n:=n + 1) (t,r) (p,q) (p,q) = (u,v)):u = aH (au t p p) (au t (au t q q) r)∧v = aH (au t p q) (au t p q):=by
 injection e with e1 e2
 exact ⟨e1.symm,by rw [← e2,(jY t).mc q p]⟩
theorem Ep {r p q u v:El n} (e1:u = aH (au t p p) (au t (au t q q) r)) (e2:v = aH (au t p q) (au t p q)):fP t r u v = au t (aH (au t p p) (bI (au t (au t q q) r))) (aH (au t p p) (bI (au t (au t q q) r))):=by
 subst e1 e2;exact ((jY t).ring [p,q,r] (.add (.mul (.add (.mul (.v 0) (.v 0)) (.mul (.mul (.v 1) (.v 1)) (.v 2))) (.add (.mul (.v 0) (.v 0)) (.mul (.mul (.v 1) (.v 1)) (.v 2)))) (.neg (.mul (.mul (.add (.mul (.v 0) (.v 1)) (.mul (.v 0) (.v 1))) (.add (.mul (.v 0) (.v 1)) (.mul (.v 0) (.v 1)))) (.v 2)))) (.mul (.add (.mul (.v 0) (.v 0)) (.neg (.mul (.mul (.v 1) (.v 1)) (.v 2)))) (.add (.mul (.v 0) (.v 0)) (.neg (.mul (.mul (.v 1) (.v 1)) (.v 2))))) (by decide))
theorem xx {r p q u m:El n} (e1:u = aH (au t p p) (au t (au t q q) r)) :
 (m = aH (au t p p) (bI (au t (au t q q) r))→au t (aH u m) (bU n) = au t p p)∧(m = bI (aH (au t p p) (bI (au t (au t q q) r)))→au t (kX u m) (bU n) = au t p p):=by
 have h:=jY t;subst e1;constructor
 · rintro rfl;rw [show aH (aH (au t p p) (au t (au t q q) r)) (aH (au t p p) (bI (au t (au t q q) r))) = aH (au t p p) (au t p p) from ((h).ring [p,q,r] (.add (.add (.mul (.v 0) (.v 0)) (.mul (.mul (.v 1) (.v 1)) (.v 2))) (.add (.mul (.v 0) (.v 0)) (.neg (.mul (.mul (.v 1) (.v 1)) (.v 2))))) (.add (.mul (.v 0) (.v 0)) (.mul (.v 0) (.v 0))) (by decide)),sO]
 · rintro rfl;rw [show kX (aH (au t p p) (au t (au t q q) r)) (bI (aH (au t p p) (bI (au t (au t q q) r)))) = aH (au t p p) (au t p p) from ((h).ring [p,q,r] (.add (.add (.mul (.v 0) (.v 0)) (.mul (.mul (.v 1) (.v 1)) (.v 2))) (.neg (.neg (.add (.mul (.v 0) (.v 0)) (.neg (.mul (.mul (.v 1) (.v 1)) (.v 2))))))) (.add (.mul (.v 0) (.v 0)) (.mul (.v 0) (.v 0))) (by decide)),sO]
theorem Fa:∀ {n:Nat} {t:Tw n} {a w:El n},dW t→au t w w = a→∃ v,ou t a = some v
 | 0,_,a,w,_,h=>O8 h
 | n + 1,(t,r),(u,v),(p,q),hR,h=>by
  have hr0:=DR hR;obtain ⟨h1,hr,hn⟩:=hR;have hf:=oq h1;obtain ⟨e1,e2⟩:=zH h;show ∃ x,o6 (ou t) t r u v = some x;unfold o6
  by_cases hv:iW v = true
  ·
   rw [if_pos hv];have hv0:=gq.1 hv;have hpq:au t p q = zeroE n:=by
    have:=hf.dbl (au t p q);rw [← e2,hv0,hf.sz] at this;exact (hf.s0 _).1 this.symm
   rcases hf.dom hpq with hp | hq
   · -- the root lies behind
     have:au t q q = au t u (fZ t r):=by
      rw [e1,hp,hf.r.zm,hf.r.za,hf.ma,(jI h1 hr0).2,hf.mo]
     obtain ⟨w,hw⟩:=Fa h1 this;rw [hw];cases ou t u with
     | some x=>exact ⟨_,rfl⟩
     | none=>exact ⟨_,rfl⟩
   · have:au t p p = u:=by rw [e1,hq,hf.r.zm,hf.mc _ r,hf.r.zm,hf.az]
     obtain ⟨w,hw⟩:=Fa h1 this;rw [hw];exact ⟨_,rfl⟩
  ·
   rw [if_neg hv];have hv0:=Nr hv;have hp0:p≠zeroE n:=fun e=>hv0 (by rw [e2,e,hf.mc,hf.r.zm,hf.az])
   have hN:=Ep e1 e2;obtain ⟨m,hm⟩:=Fa h1 hN.symm;rw [hm];simp only;have hm2:=pJ h1 hm;rw [hN] at hm2;have g:=xx (m:=m) e1;have pz:∀ {w:El n},ou t (au t p p) = some w→(ou t (au t p p)).filter (fun w=>!iW w) = some w:=fun {w} e=>by
    rw [e,Option.filter_some,if_pos];have e2:=pJ h1 e;rw [Bool.not_eq_true',← Bool.not_eq_true];intro hz;rw [gq.1 hz,hf.r.zm] at e2;rcases hf.dom e2.symm with e | e <;> exact hp0 e
   obtain ⟨w,hw⟩:=Fa (a:=au t p p) h1 rfl;have hw:=pz hw;rcases Jp h1 hm2 with e | e
   · rw [g.1 e,hw];exact ⟨_,rfl⟩
   · rw [g.2 e,hw];cases (ou t (au t (aH u m) (bU n))).filter (fun w=>!iW w) with
     | some x=>exact ⟨_,rfl⟩
     | none=>exact ⟨_,rfl⟩
theorem TD {v w:El n} (h1:dW t) (hw:w≠zeroE n):au t (bU n) (au t v (fZ t w)) = au t v (fZ t (aH w w)):=by
 have h:=oq h1;have hd:aH w w≠zeroE n:=fun e=>by
  have:=h.dbl w;rw [e,h.sz] at this;exact hw ((h.s0 w).1 this.symm)
 have e1:au t (aH w w) (au t (bU n) (fZ t w)) = dD n 1:=by
  rw [show au t (aH w w) (au t (bU n) (fZ t w)) = au t (au t w (fZ t w)) (aH (bU n) (bU n)) from ((h.r).ring [w,bU n,fZ t w] (.mul (.add (.v 0) (.v 0)) (.mul (.v 1) (.v 2))) (.mul (.mul (.v 0) (.v 2)) (.add (.v 1) (.v 1))) (by decide)),wu,(jI h1 hw).2,h.mo]
 rw [FY (jI h1 hd).2 e1];exact ((h.r).ring [v,bU n,fZ t w] (.mul (.v 1) (.mul (.v 0) (.v 2))) (.mul (.v 0) (.mul (.v 1) (.v 2))) (by decide))
theorem zB {r u v m w:El n} (h1:dW t) (hr0:r≠zeroE n) (hv:v≠zeroE n) (hm:au t m m = fP t r u v) (hw:au t w w = au t (bU n) (aH u m)):w≠zeroE n:=fun e=>by
 have h:=oq h1;rw [e,h.r.zm] at hw;have e1:aH u m = zeroE n:=by
  have e2:aH (au t (bU n) (aH u m)) (au t (bU n) (aH u m)) = aH u m:=by
   rw [← h.r.dm,wu,h.mc,h.mo]
  rw [← e2,← hw,h.az]
 have hm':au t m m = aH (au t u u) (bI (au t (au t v v) r)):=hm;have e3:au t (au t v v) r = au t (aH u m) (aH u (bI m)):=by
  rw [show au t (aH u m) (aH u (bI m)) = aH (au t u u) (bI (au t m m)) from ((h.r).ring [u,m] (.mul (.add (.v 0) (.v 1)) (.add (.v 0) (.neg (.v 1)))) (.add (.mul (.v 0) (.v 0)) (.neg (.mul (.v 1) (.v 1)))) (by decide)),hm'];exact ((h.r).ring [u,v,r] (.mul (.mul (.v 1) (.v 1)) (.v 2)) (.add (.mul (.v 0) (.v 0)) (.neg (.add (.mul (.v 0) (.v 0)) (.neg (.mul (.mul (.v 1) (.v 1)) (.v 2)))))) (by decide))
 rw [e1,h.mc (zeroE n),h.r.zm] at e3;rcases h.dom e3 with e4 | e4
 · rcases h.dom e4 with e5 | e5 <;> exact hv e5
 · exact hr0 e4
theorem qy:∀ {n:Nat} {t:Tw n} {a w:El n},dW t→tC t a = some w→au t w w = a
 | 0,_,a,w,_,h=>(Bl h).2
 | n + 1,(t,r),(u,v),w,hR,h=>by
  have hr0:=DR hR;obtain ⟨h1,hr,hn⟩:=hR
  replace h:(if aJ (n:=n + 1) (t,r) (u,v) < 0 then none else tu (tC t) t r u v) = some w:=h
  split at h
  · cases h
  unfold tu at h
  split at h
  ·
   rename_i hv;have hv:=gq.1 hv;subst hv
   split at h
   · rename_i w' e;injection h with h;subst h
     exact aal (qy h1 e)
   · split at h
     · rename_i w' e;injection h with h;subst h
       exact aac (jI h1 hr0).2 (qy h1 e)
     · cases h
  ·
   rename_i hv;have hv0:=Nr hv
   split at h
   · cases h
   ·
    rename_i m em;have hm:=qy h1 em
    split at h
    · rename_i w' e;injection h with h;subst h
      have e1:=qy h1 e;have e2:=zB h1 hr0 hv0 hm e1;rw [TD h1 e2];exact KU h1 hr0 (e1.trans ((jY t).mc _ _)) hm e2
    · split at h
      · rename_i w' e;injection h with h;subst h
        have hm:=(uf t m).trans hm;have e1:=qy h1 e;have e2:=zB h1 hr0 hv0 hm e1;rw [TD h1 e2];exact KU h1 hr0 (e1.trans ((jY t).mc _ _)) hm e2
      · cases h
theorem FQ:∀ {n:Nat} {t:Tw n} {a w:El n},dW t→au t w w = a→∃ v,tC t a = some v
 | 0,_,a,w,_,h=>O8 h
 | n + 1,(t,r),(u,v),(p,q),hR,h=>by
  have hr0:=DR hR;have hs:¬ aJ (n:=n + 1) (t,r) (u,v) < 0:=by
   have hf:=oq (n:=n + 1) (t:=(t,r)) hR;rw [← h];have:=hf.vK (p,q);omega
  obtain ⟨h1,hr,hn⟩:=hR;have hf:=oq h1;obtain ⟨e1,e2⟩:=zH h;show ∃ x,(if aJ (n:=n + 1) (t,r) (u,v) < 0 then none else tu (tC t) t r u v) = some x;rw [if_neg hs];unfold tu
  by_cases hv:iW v = true
  ·
   rw [if_pos hv];have hv0:=gq.1 hv;have hpq:au t p q = zeroE n:=by
    have:=hf.dbl (au t p q);rw [← e2,hv0,hf.sz] at this;exact (hf.s0 _).1 this.symm
   rcases hf.dom hpq with hp | hq
   · have:au t q q = au t u (fZ t r):=by
      rw [e1,hp,hf.r.zm,hf.r.za,hf.ma,(jI h1 hr0).2,hf.mo]
     obtain ⟨w,hw⟩:=FQ h1 this;rw [hw];cases tC t u with
     | some x=>exact ⟨_,rfl⟩
     | none=>exact ⟨_,rfl⟩
   · have:au t p p = u:=by rw [e1,hq,hf.r.zm,hf.mc _ r,hf.r.zm,hf.az]
     obtain ⟨w,hw⟩:=FQ h1 this;rw [hw];exact ⟨_,rfl⟩
  · rw [if_neg hv];have hN:=Ep e1 e2;obtain ⟨m,hm⟩:=FQ h1 hN.symm;rw [hm];simp only;have hm2:=qy h1 hm;rw [hN] at hm2;have g:=xx (m:=m) e1;obtain ⟨w,hw⟩:=FQ (a:=au t p p) h1 rfl;rcases Jp h1 hm2 with e | e
    · rw [hf.mc (bU n),g.1 e,hw];exact ⟨_,rfl⟩
    · have g2:=g.2 e;rw [hf.mc (bU n) (aH u (bI m)),show au t (aH u (bI m)) (bU n) = au t p p from g2,hw];cases tC t (au t (bU n) (aH u m)) with
      | some x=>exact ⟨_,rfl⟩
      | none=>exact ⟨_,rfl⟩
noncomputable def wL {n:Nat} (t:Tw n) (a:El n):Option (El n):=open Classical in if h:∃ w,0≤aJ t w∧au t w w = a then some (fS h) else none
theorem oW {a w:El n} (h:wL t a = some w):0≤aJ t w∧au t w w = a:=by
 unfold wL at h
 split at h
 · rename_i hx;injection h with h
   rw [← h];exact eL hx
 · cases h
theorem wo (h1:dW t) {a b:El n} (e:au t a a = au t b b) (ha:0≤aJ t a) (hb:0≤aJ t b):a = b:=by
 have h:=oq h1;rcases Jp h1 e with g | g
 · exact g
 · rw [g,h.sn] at ha;have:aJ t b = 0:=by omega
   rw [g,(h.s0 b).1 this,h.r.nz]
theorem Dc {a w:El n} (h1:dW t) (h0:0≤aJ t w) (h:au t w w = a):wL t a = some w:=by
 have hx:∃ w,0≤aJ t w∧au t w w = a:=⟨w,h0,h⟩;have e:wL t a = some (fS hx):=by unfold wL;rw [dif_pos hx]
 obtain ⟨g0,g⟩:=eL hx;rw [e,wo h1 (g.trans h.symm) g0 h0]
theorem XM {a:El n} (h1:dW t) {S:Option (El n)} (hok:∀ w,S = some w→au t w w = a) (hex:∀ w,au t w w = a→∃ v,S = some v) :
 wL t a = S.map fun w=>if aJ t w < 0 then bI w else w:=by
 have h:=oq h1;cases S with
 | none =>
  cases e:wL t a with
  | none=>rfl
  | some w =>
   obtain ⟨v,hv⟩:=hex w (oW e).2;cases hv
 | some w =>
  have hw:=hok w rfl;simp only [Option.map]
  split
  · rename_i hs;exact Dc h1 (by rw [h.sn];omega) ((uf t w).trans hw)
  · rename_i hs;exact Dc h1 (by omega) hw
theorem ag3 {a:El n} (h1:dW t):wL t a = (ou t a).map fun w=>if aJ t w < 0 then bI w else w:=XM h1 (fun w h=>pJ h1 h) fun w h=>Fa h1 h
theorem aib {a:El n} (h1:dW t):wL t a = (tC t a).map fun w=>if aJ t w < 0 then bI w else w:=XM h1 (fun w h=>qy h1 h) fun w h=>FQ h1 h
theorem sz.ahI (h:sz (n:=n + 1) (x,y) s):sz (n:=n + 1) (x,bI y) s:=by
 obtain ⟨D,M,h1,h2,h3,h4⟩:=h;exact ⟨D,M,h1,h2,h3,eD.pair h4.fst h4.snd.neg⟩
theorem wE:∀ {n:Nat} (t:Tw n) (x y:El n),au t x (bI y) = bI (au t x y)∧au t (bI x) y = bI (au t x y)
 | 0,_,a,b=>⟨Rat.mul_neg a b,gS a b⟩
 | n + 1,(t,r),(x,y),(u,v)=>by
  have neg_add:∀ {n:Nat} (x y:El n),aH (bI x) (bI y) = bI (aH x y):=fun {n}=>by
   induction n with
   | zero=>exact fun a b=>by show gh (gg a) (gg b) = gg (gh a b);exact (Rat.neg_add (a:=a) (b:=b)).symm
   | succ n ih=>intro x y;obtain ⟨x1,x2⟩:=x;obtain ⟨y1,y2⟩:=y;simp only [aH,bI,ih];rfl
  simp only [au,bI,(wE t _ _).1,(wE t _ _).2,neg_add];exact ⟨rfl,rfl⟩
theorem ZF (t:Tw n) (r x y:El n):fP t r x y = (au (n:=n + 1) (t,r) (x,y) (x,bI y)).1:=by
 simp only [fP,au,(wE t _ _).1,(wE t _ _).2]
variable {σ:List Nat}
theorem sz.norm {r:El n} {sr:Nat} (ht:PT t σ) (hr:sz r sr) (h:sz (n:=n + 1) (x,y) s):sz (fP t r x y) (2 * s + bD (sr :: σ)):=by
 rw [ZF];have:=sz.mul (n:=n + 1) (t:=(t,r)) (σ:=sr :: σ) ⟨hr,ht⟩ h h.ahI;rw [← Nat.two_mul] at this;exact this.fst
def invS:List Nat→Nat→Nat
 | [],s=>s
 | sr :: σ,s=>s + invS σ (2 * s + bD (sr :: σ)) + bD σ
theorem J7:∀ {σ:List Nat} {s:Nat},s≤invS σ s
 | [],s=>ao s
 | _ :: _,s=>by simp only [invS];omega
theorem sz.inv0 {a:Rat} (h:sz (n:=0) a s) (h0:a≠0):sz (n:=0) (Rat.div 1 a) s:=by
 obtain ⟨D,M,h1,h2,h3,h4⟩:=h;obtain ⟨k,k1,k2⟩:=h4 a (ar.2 rfl);have hD:(D:Rat)≠0:=by
  intro e;have:D = 0:=by exact_mod_cast e
  omega
 have hk:k≠0:=by
  rintro rfl;have:a * (D:Rat) = 0:=by rw [k1];rfl
  rcases j0.1 this with h | h
  · exact h0 h
  · exact hD h
 refine ⟨k.natAbs,D,by omega,by omega,by omega,fun q hq=>?_⟩;have hq:q = (1:Rat) / a:=ar.1 hq;subst hq;have e1:(1:Rat) / a * (k:Rat) = (D:Rat):=by
  rw [← k1,← dy,Rat.div_def,gR,Rat.inv_mul_cancel _ h0,gR]
 rcases Int.natAbs_eq k with e | e
 · refine ⟨(D:Int),?_,by simp⟩;have:((k.natAbs:Nat):Rat) = (k:Rat):=by rw [← ij,← e]
   rw [this,e1];rfl
 · refine ⟨-(D:Int),?_,by simp⟩;have:((k.natAbs:Nat):Rat) = -(k:Rat):=by rw [← ij,← d9];congr 1;omega
   rw [this,Rat.mul_neg,e1,d9];rfl
theorem sz.pair {n:Nat} {x y:El n} {D M s:Nat} (h1:0 < D) (h2:D≤2 ^ s) (h3:M≤2 ^ s) (hx:eD x D M) (hy:eD y D M):sz (n:=n + 1) (x,y) s:=⟨D,M,h1,h2,h3,eD.pair hx hy⟩
theorem sz.inv:∀ {n:Nat} {t:Tw n} {σ:List Nat} {x:El n} {s:Nat},PT t σ→nzE t x→sz x s→sz (fZ t x) (invS σ s)
 | 0,_,σ,a,s,ht,hz,h=>by have ht:σ = []:=ht;subst ht;exact sz.inv0 h hz
 | n + 1,(t,r),[],_,_,ht,_,_=>ht.elim
 | n + 1,(t,r),sr :: σ,(x,y),s,ht,hz,h=>by
  have hN:=sz.inv ht.2 hz (sz.norm ht.2 ht.1 h);obtain ⟨e,c,e1,e2,c2,hm⟩:=eD.mul ht.2;obtain ⟨D,M,h1,h2,h3,h4⟩:=h;obtain ⟨D',M',k1,k2,k3,k4⟩:=hN;simp only [fZ,invS];refine sz.pair (D:=D * D' * e) (M:=M * M' * c) (bp (bp h1 k1) e1) ?_ ?_ (hm h4.fst k4) (hm h4.snd k4).neg
  · rw [a8,a8];exact av (av h2 k2) e2
  · rw [a8,a8];exact av (av h3 k3) c2
theorem BK:∀ {σ:List Nat} {s s':Nat},s≤s'→invS σ s≤invS σ s'
 | [],s,s',h=>h
 | sr :: σ,s,s',h=>by
  have:=BK (σ:=σ) (show 2 * s + bD (sr :: σ)≤2 * s' + bD (sr :: σ) by omega);simp only [invS];omega
theorem sz.inv1 (ht:PT t σ) (h1:dW t) (h0:x≠zeroE n) (h:sz x s):sz (fZ t x) (invS σ s):=sz.inv ht (jI h1 h0).1 h
def vO:{n:Nat}→Rat→El n→El n
 | 0,c,a=>eh c a
 | _ + 1,c,(x,y)=>(vO c x,vO c y)
theorem xq:∀ {n:Nat} (c:Rat) (x:El n),flat (vO c x) = (flat x).map (c * ·)
 | 0,c,a=>rfl
 | n + 1,c,(x,y)=>by simp only [vO,flat,xq,gA]
theorem Qy:∀ {n:Nat} (c:Rat) (x y:El n),aH (vO c x) (vO c y) = vO c (aH x y)
 | 0,c,a,b=>(Rat.mul_add c a b).symm
 | n + 1,c,(x,y),(u,v)=>by simp only [vO,aH,Qy];rfl
theorem Kw:∀ {n:Nat} (t:Tw n) (c:Rat) (x y:El n),au t (vO c x) y = vO c (au t x y)
 | 0,_,c,a,b=>dy c a b
 | n + 1,(t,r),c,(x,y),(u,v)=>by simp only [vO,au,Kw,Qy];rfl
theorem adL:∀ {n:Nat} (c d:Rat) (x:El n),vO c (vO d x) = vO (c * d) x
 | 0,c,d,a=>(dy c d a).symm
 | n + 1,c,d,(x,y)=>by simp only [vO,adL];rfl
theorem SV (t:Tw n) (c:Rat) (x y:El n):au t x (vO c y) = vO c (au t x y):=by
 rw [(jY t).mc,Kw,(jY t).mc]
theorem ady (t:Tw n) (c:Rat) (x:El n):au t (vO c x) (vO c x) = vO (c * c) (au t x x):=by
 rw [Kw,SV,adL]
def dN {n:Nat} (x:El n) (D:Nat):Prop:=∃ M,eD x D M
theorem dN.mul {D:Nat} (h:dN x D) (c:Nat):dN x (D * c):=by
 obtain ⟨M,h⟩:=h;exact ⟨_,h.scale c⟩
theorem dN.ahM {D:Nat} (h:dN x D) (c:Nat):dN x (c * D):=by rw [cj];exact h.mul c
theorem dN.add {n:Nat} {x y:El n} {D:Nat} (h:dN x D) (k:dN y D):dN (aH x y) D:=by
 obtain ⟨M,h⟩:=h;obtain ⟨M',k⟩:=k;exact ⟨_,h.add k⟩
theorem dN.neg {n:Nat} {x:El n} {D:Nat} (h:dN x D):dN (bI x) D:=by
 obtain ⟨M,h⟩:=h;exact ⟨_,h.neg⟩
theorem eD.sc {D E:Nat} (h:eD x (D * E) M):eD (vO (D:Rat) x) E M:=fun q hq=>by
 rw [xq] at hq;obtain ⟨p,hp,rfl⟩:=da.1 hq;obtain ⟨k,h1,h2⟩:=h p hp;refine ⟨k,?_,h2⟩;rw [← h1,bO,kc (D:Rat),dy]
theorem eD.acx {D E:Nat} (h:eD (vO (D:Rat) x) E M):eD x (D * E) M:=fun p hp=>by
 obtain ⟨k,h1,h2⟩:=h ((D:Rat) * p) (by rw [xq];exact List.mem_map_of_mem hp);refine ⟨k,?_,h2⟩;rw [← h1,bO];grind
theorem dN.sc {n:Nat} {x:El n} {D E:Nat} (h:dN x (D * E)):dN (vO (D:Rat) x) E:=by
 obtain ⟨M,h⟩:=h;exact ⟨M,h.sc⟩
theorem dN.acx {n:Nat} {x:El n} {D E:Nat} (h:dN (vO (D:Rat) x) E):dN x (D * E):=by
 obtain ⟨M,h⟩:=h;exact ⟨M,h.acx⟩
theorem PM {x:Rat} {k:Int} (h:x * x = (k:Rat)):x.den = 1:=by
 have e1:x * x = mkRat (x.num * x.num) (x.den * x.den):=by
  conv=>lhs;rw [← gH x,ie]
 have e2:(k:Rat) = mkRat k 1:=by simp [j9]
 have hd:=x.den_nz;rw [e1,e2,jn (Nat.mul_ne_zero hd hd) (by decide)] at h;have h3:x.num.natAbs * x.num.natAbs = k.natAbs * (x.den * x.den):=by
  have:=congrArg Int.natAbs h;simpa [fL] using this
 have h4:x.den ∣ x.num.natAbs * x.num.natAbs:=⟨k.natAbs * x.den,by rw [h3];ac_rfl⟩;have h5:x.den ∣ x.num.natAbs:=(gL x.reduced).dvd_of_dvd_mul_left h4;have h6:=Nat.dvd_gcd h5 (Nat.dvd_refl x.den);rw [x.reduced] at h6;exact Nat.dvd_one.1 h6
def y9:List Nat→Nat
 | []=>0
 | sr :: σ=>2 * y9 σ + 3 * bD σ + sr + invS σ sr + 1
theorem UH (t:Tw n) (x:El n):au t x (bU n) = vO (1 / 2) x:=by
 have e1:∀ n,bU n = vO (1 / 2) (dD n 1):=by
  intro n
  induction n with
  | zero=>show (1 / 2:Rat) = (1 / 2) * 1;grind
  | succ n ih =>
   refine dQ ih ?_;have:∀ n,zeroE n = vO (1 / 2) (zeroE n):=by
    intro n
    induction n with
    | zero=>show (0:Rat) = (1 / 2) * 0;grind
    | succ n ih=>exact dQ ih ih
   exact this n
 rw [e1,SV,(jY t).mo]
theorem Ue {D:Nat} (h:dN x D):dN (au t x (bU n)) (D * 2):=by
 rw [UH];obtain ⟨M,h⟩:=h;refine ⟨M,fun q hq=>?_⟩;rw [xq] at hq;obtain ⟨p,hp,rfl⟩:=da.1 hq;obtain ⟨k,h1,h2⟩:=h p hp;refine ⟨k,?_,h2⟩;rw [← h1,bO];have:((2:Nat):Rat) = 2:=rfl;grind
theorem Xe:∀ {n:Nat} {t:Tw n} {σ:List Nat},PT t σ→dW t→∃ G,0 < G∧G≤2 ^ y9 σ∧∀ x:El n,dN (au t x x) 1→dN x G
 | 0,_,σ,_,_=>by
  refine ⟨1,by omega,ew,?_⟩;have key:∀ x:Rat,dN (n:=0) (eh x x) 1→dN (n:=0) x 1:=by
   intro x hM;obtain ⟨M,h⟩:=hM;obtain ⟨k,h1,h2⟩:=h (eh x x) (ar.2 rfl);have e:x * x = (k:Rat):=by
    have:(eh x x) * ((1:Nat):Rat) = eh x x:=gT _;rw [this] at h1;exact h1
   have hd:=PM e;refine ⟨x.num.natAbs,fun q hq=>?_⟩;have:q = x:=ar.1 hq;subst this;have:=qD.self q;rwa [hd] at this
  exact key
 | n + 1,(t,r),[],h,_=>h.elim
 | n + 1,(t,r),sr :: σ,⟨hr,ht⟩,hR=>by
  have hr0:=DR hR;have h1:=hR.1;obtain ⟨G,G0,G1,hG⟩:=Xe ht h1;obtain ⟨e,c,e0,e1,_,hm⟩:=eD.mul ht;obtain ⟨hz,hi⟩:=jI h1 hr0;obtain ⟨I,MI,I0,I1,_,hI⟩:=sz.inv1 ht h1 hr0 hr;obtain ⟨Dr,Mr,r0,r1,_,r4⟩:=hr;have hmul:∀ {x y:El n} {D D':Nat},dN x D→dN y D'→dN (au t x y) (D * D' * e):=fun {x y D D'} ⟨M,a⟩ ⟨M',b⟩=>⟨_,hm a b⟩
  -- a root of what has the denominator D has the denominator D G
  have hroot:∀ {x:El n} {D:Nat},dN (au t x x) D→dN x (D * G):=fun {x D} h=>by
   refine dN.acx (hG _ ?_);rw [ady,← bO];exact dN.sc (E:=1) (by rw [bX];exact h.mul D)
  let E1:=e * e * Dr
  let F:=E1 * G * 2
  have hF0:0 < F:=bp (bp (bp (bp e0 e0) r0) G0) (by omega);refine ⟨F * I * e * G,bp (bp (bp hF0 I0) e0) G0,?_,fun x hx=>?_⟩
  · have q1:e * e≤2 ^ bD σ * 2 ^ bD σ:=av e1 e1;have q2:E1≤2 ^ bD σ * 2 ^ bD σ * 2 ^ sr:=av q1 r1;have q3:F≤2 ^ bD σ * 2 ^ bD σ * 2 ^ sr * 2 ^ y9 σ * 2:=av (av q2 G1) (ao 2);have q4:F * I * e * G≤2 ^ bD σ * 2 ^ bD σ * 2 ^ sr * 2 ^ y9 σ * 2 * 2 ^ invS σ sr * 2 ^ bD σ * 2 ^ y9 σ:=av (av (av q3 I1) e1) G1;refine bs q4 (Nat.le_of_eq ?_);rw [y9,show 2 * y9 σ + 3 * bD σ + sr + invS σ sr + 1 = bD σ + bD σ + sr + y9 σ + 1 + invS σ sr + bD σ + y9 σ by omega];simp only [a8,Nat.pow_one]
  ·
   obtain ⟨w,z⟩:=x;generalize hy:au (n:=n + 1) (t,r) (w,z) (w,z) = y at hx;obtain ⟨u,v⟩:=y;obtain ⟨f1,f2⟩:=zH hy;have hN:=Ep f1 f2;obtain ⟨M,hx⟩:=hx;have hu:dN u 1:=⟨M,hx.fst⟩;have hv:dN v 1:=⟨M,hx.snd⟩;have d1:dN (au t u u) E1:=by
    have:=(hmul hu hu).mul (e * Dr);rwa [show 1 * 1 * e * (e * Dr) = E1 by simp only [E1];ac_rfl] at this
   have d2:dN (au t (au t v v) r) E1:=by
    have:=hmul (hmul hv hv) ⟨_,r4⟩;rwa [show 1 * 1 * e * Dr * e = E1 by simp only [E1];ac_rfl] at this
   have d3:dN (fP t r u v) E1:=d1.add d2.neg;rw [hN] at d3;have d4:=hroot d3;generalize hm':aH (au t w w) (bI (au t (au t z z) r)) = m at d4;have d5:dN (au t w w) F:=by
    have:=Ue (t:=t) (((hu.ahM (E1 * G))).add (y:=m) (by rwa [bX]));rw [(xx (m:=m) f1).1 hm'.symm] at this;rwa [bX] at this
   have d6:dN (au t (au t z z) r) F:=by
    have:=Ue (t:=t) ((hu.ahM (E1 * G)).add (y:=bI m) (by rw [bX];exact d4.neg));rw [show au t (aH u (bI m)) (bU n) = au t (au t z z) r by
     rw [← hm',f1,show aH (aH (au t w w) (au t (au t z z) r)) (bI (aH (au t w w) (bI (au t (au t z z) r)))) = aH (au t (au t z z) r) (au t (au t z z) r) from ((jY t).ring [w,z,r] (.add (.add (.mul (.v 0) (.v 0)) (.mul (.mul (.v 1) (.v 1)) (.v 2))) (.neg (.add (.mul (.v 0) (.v 0)) (.neg (.mul (.mul (.v 1) (.v 1)) (.v 2)))))) (.add (.mul (.mul (.v 1) (.v 1)) (.v 2)) (.mul (.mul (.v 1) (.v 1)) (.v 2))) (by decide)),sO],bX] at this
    exact this
   have d7:dN (au t z z) (F * I * e):=by
    have:=hmul d6 ⟨_,hI⟩;rwa [(jY t).ma,hi,(jY t).mo] at this
   have g1:dN w (F * I * e * G):=by
    have:=(hroot d5).mul (I * e);rwa [show F * G * (I * e) = F * I * e * G by ac_rfl] at this
   obtain ⟨M1,g1⟩:=g1;obtain ⟨M2,g2⟩:=hroot d7;exact ⟨max M1 M2,eD.pair (g1.mono (j6 ..)) (g2.mono (Nat.le_max_right ..))⟩
def pw (a:Nat):Rat:=((2 ^ a:Nat):Rat)
theorem O7 (a:Nat):0 < pw a:=by
 have:0 < 2 ^ a:=cV (by omega);unfold pw;exact Rat.natCast_pos.2 this
theorem Pg (a b:Nat):pw (a + b) = pw a * pw b:=by unfold pw;rw [a8,bO]
theorem XJ (a:Nat):pw (a + 1) = pw a + pw a:=by
 rw [Pg,show pw 1 = 2 from rfl];grind
variable {a:Nat}
theorem ahd {b:Nat} (h:a≤b):pw a≤pw b:=by
 unfold pw;exact fk.2 (bq (by omega) h)
def bQ (q:Rat) (a:Nat):Prop:=-pw a≤q∧q≤pw a
theorem bQ.mono {q:Rat} {b:Nat} (h:bQ q a) (hb:a≤b):bQ q b:=by
 have:=ahd hb;unfold bQ at *;grind
theorem bQ.add {q:Rat} (h:bQ p a) (k:bQ q a):bQ (p + q) (a + 1):=by
 unfold bQ at *;rw [XJ];grind
theorem bQ.neg (h:bQ p a):bQ (-p) a:=by unfold bQ at *;grind
theorem bQ.mul {q:Rat} {b:Nat} (h:bQ p a) (k:bQ q b):bQ (p * q) (a + b):=by
 unfold bQ at *;rw [Pg];have h1:=dj (show 0≤pw a - p by grind) (show 0≤pw b + q by grind);have h2:=dj (show 0≤pw a + p by grind) (show 0≤pw b - q by grind);have h3:=dj (show 0≤pw a - p by grind) (show 0≤pw b - q by grind);have h4:=dj (show 0≤pw a + p by grind) (show 0≤pw b + q by grind);generalize pw a = A at *;generalize pw b = B at *;grind
theorem bQ.root (h:bQ (p * p) (a + a)):bQ p a:=by
 unfold bQ at *;rw [Pg] at h;have:=O7 a;generalize pw a = A at *;constructor
 · rcases (show -A≤p∨p < -A by grind) with g | g
   · exact g
   · have:=eE (show 0 < -A - p by grind) (show 0 < A - p by grind);grind
 · rcases (show p≤A∨A < p by grind) with g | g
   · exact g
   · have:=eE (show 0 < p - A by grind) (show 0 < p + A by grind);grind
theorem bQ.half (h:bQ p (a + 1)):bQ (1 / 2 * p) a:=by
 unfold bQ at *;rw [XJ] at h;grind
def bN {n:Nat} (x:El n) (a:Nat):Prop:=∀ q∈flat x,bQ q a
theorem bN.fst (h:bN (n:=n + 1) (x,y) a):bN x a:=fun q hq=>h q (by simp [flat,hq])
theorem bN.snd (h:bN (n:=n + 1) (x,y) a):bN y a:=fun q hq=>h q (by simp [flat,hq])
theorem bN.pair (h:bN x a) (k:bN y a):bN (n:=n + 1) (x,y) a:=fun q hq=>by
 simp only [flat,bh] at hq;exact hq.elim (h q) (k q)
theorem bN.mono {n:Nat} {x:El n} {a b:Nat} (h:bN x a) (hb:a≤b):bN x b:=fun q hq=>(h q hq).mono hb
theorem bN.add:∀ {n:Nat} {x y:El n} {a:Nat},bN x a→bN y a→bN (aH x y) (a + 1)
 | 0,x,y,a,h,k=>fun q hq=>by
  have e:q = gh x y:=ar.1 hq;rw [e];exact bQ.add (p:=x) (q:=y) (h _ (ar.2 rfl)) (k _ (ar.2 rfl))
 | n + 1,(x,y),(u,v),a,h,k=>bN.pair (bN.add h.fst k.fst) (bN.add h.snd k.snd)
theorem bN.neg {n:Nat} {x:El n} {a:Nat} (h:bN x a):bN (bI x) a:=fun q hq=>by
 rw [wY] at hq;obtain ⟨p,hp,rfl⟩:=da.1 hq;exact (h p hp).neg
theorem bN.half {n:Nat} {t:Tw n} {x:El n} {a:Nat} (h:bN x (a + 1)):bN (au t x (bU n)) a:=fun q hq=>by
 rw [UH,xq] at hq;obtain ⟨p,hp,rfl⟩:=da.1 hq;exact (h p hp).half
theorem sz.bN (h:sz x s):bN x s:=fun q hq=>by
 obtain ⟨D,M,h1,h2,h3,h4⟩:=h;obtain ⟨k,k1,k2⟩:=h4 q hq;have hD:(1:Rat)≤(D:Rat):=by
  have:((1:Nat):Rat)≤(D:Rat):=fk.2 h1;exact this
 have hk:-pw s≤(k:Rat)∧(k:Rat)≤pw s:=by
  have e:pw s = (((2 ^ s:Nat):Int):Rat):=rfl;rw [e];constructor
  · rw [← d9];exact dk.2 (by omega)
  · exact dk.2 (by omega)
 have hp:=O7 s;rw [← k1] at hk;unfold bQ;constructor
 · rcases (show -pw s≤q∨q < -pw s by grind) with g | g
   · exact g
   · have:=dj (show 0≤-q by grind) (show 0≤(D:Rat) - 1 by grind);grind
 · rcases (show q≤pw s∨pw s < q by grind) with g | g
   · exact g
   · have:=dj (show 0≤q by grind) (show 0≤(D:Rat) - 1 by grind);grind
theorem bN.mul:∀ {n:Nat} {t:Tw n} {σ:List Nat} {x y:El n} {a b:Nat},PT t σ→bN x a→bN y b→bN (au t x y) (a + b + bD σ)
 | 0,_,σ,x,y,a,b,ht,h,k=>fun q hq=>by
  have e:q = eh x y:=ar.1 hq;rw [e];exact (bQ.mul (p:=x) (q:=y) (h _ (ar.2 rfl)) (k _ (ar.2 rfl))).mono (by omega)
 | n + 1,(t,r),[],_,_,_,_,ht,_,_=>ht.elim
 | n + 1,(t,r),sr :: σ,(x,y),(u,v),a,b,⟨hr,ht⟩,h,k=>by
  have hk:=show bD (sr :: σ) = 2 * bD σ + sr + 2 from rfl
  have h1:=bN.mul ht h.fst k.fst;have h2:=bN.mul ht (bN.mul ht h.snd k.snd) hr.bN;have h3:=bN.mul ht h.fst k.snd;have h4:=bN.mul ht h.snd k.fst;refine bN.pair ?_ ?_
  · exact ((h1.mono (b:=a + b + bD σ + sr + bD σ) (by omega)).add h2).mono (by omega)
  · exact (h3.add h4).mono (by omega)
def Qu:List Nat→Nat
 | []=>0
 | sr :: σ=>Qu σ + (bD (sr :: σ) + Qu σ + invS σ sr + bD σ + 1) / 2
theorem KQ:∀ {n:Nat} {t:Tw n} {σ:List Nat},PT t σ→dW t→∀ (x:El n) (a:Nat),bN (au t x x) (a + a)→bN x (a + Qu σ)
 | 0,_,σ,_,_,x,a,h=>fun q hq=>by
  have e:q = x:=ar.1 hq;have:=h (eh x x) (ar.2 rfl);rw [e];exact (bQ.root (p:=x) this).mono (by omega)
 | n + 1,(t,r),[],h,_,_,_,_=>h.elim
 | n + 1,(t,r),sr :: σ,⟨hr,ht⟩,hR,(w,z),a,h=>by
  have hr0:=DR hR;have h1:=hR.1;have hI:=(sz.inv1 ht h1 hr0 hr).bN;have hi:=(jI h1 hr0).2;have hk:=show bD (sr :: σ) = 2 * bD σ + sr + 2 from rfl
  have hm:=show Qu (sr :: σ) = Qu σ + (bD (sr :: σ) + Qu σ + invS σ sr + bD σ + 1) / 2 from rfl
  generalize hy:au (n:=n + 1) (t,r) (w,z) (w,z) = y at h;obtain ⟨u,v⟩:=y;obtain ⟨f1,f2⟩:=zH hy;have hN:=Ep f1 f2;have d1:=bN.mul ht h.fst h.fst;have d2:=bN.mul ht (bN.mul ht h.snd h.snd) hr.bN;have d3:bN (fP t r u v) ((2 * a + bD (sr :: σ)) + (2 * a + bD (sr :: σ))):=((d1.mono (b:=a + a + (a + a) + bD σ + sr + bD σ) (by omega)).add d2.neg).mono (by omega);rw [hN] at d3;have d4:=KQ ht h1 _ _ d3;generalize hm':aH (au t w w) (bI (au t (au t z z) r)) = m at d4;have d5:bN (au t w w) (2 * a + bD (sr :: σ) + Qu σ):=by
   have:=bN.half (t:=t) ((h.fst.mono (b:=2 * a + bD (sr :: σ) + Qu σ) (by omega)).add d4);rwa [(xx (m:=m) f1).1 hm'.symm] at this
  have d6:bN (au t (au t z z) r) (2 * a + bD (sr :: σ) + Qu σ):=by
   have:=bN.half (t:=t) ((h.fst.mono (b:=2 * a + bD (sr :: σ) + Qu σ) (by omega)).add d4.neg);rwa [show au t (aH u (bI m)) (bU n) = au t (au t z z) r by
    rw [← hm',f1,show aH (aH (au t w w) (au t (au t z z) r)) (bI (aH (au t w w) (bI (au t (au t z z) r)))) = aH (au t (au t z z) r) (au t (au t z z) r) from ((jY t).ring [w,z,r] (.add (.add (.mul (.v 0) (.v 0)) (.mul (.mul (.v 1) (.v 1)) (.v 2))) (.neg (.add (.mul (.v 0) (.v 0)) (.neg (.mul (.mul (.v 1) (.v 1)) (.v 2)))))) (.add (.mul (.mul (.v 1) (.v 1)) (.v 2)) (.mul (.mul (.v 1) (.v 1)) (.v 2))) (by decide)),sO]] at this
  have d7:bN (au t z z) (2 * a + bD (sr :: σ) + Qu σ + invS σ sr + bD σ):=by
   have:=bN.mul ht d6 hI;rwa [(jY t).ma,hi,(jY t).mo] at this
  have g1:=KQ ht h1 w (a + (bD (sr :: σ) + Qu σ + invS σ sr + bD σ + 1) / 2) (d5.mono (by omega));have g2:=KQ ht h1 z (a + (bD (sr :: σ) + Qu σ + invS σ sr + bD σ + 1) / 2) (d7.mono (by omega));exact (bN.pair g1 g2).mono (by omega)
def lV (σ:List Nat) (s:Nat):Nat:=s + (s + 1) / 2 + y9 σ + Qu σ
theorem Dz (ht:PT t σ) (h1:dW t) (h:sz (au t x x) s):sz x (lV σ s):=by
 have hb:=KQ ht h1 x ((s + 1) / 2) (h.bN.mono (by omega));obtain ⟨G,G0,G1,hG⟩:=Xe ht h1;obtain ⟨D,M,d0,d1,d2,d3⟩:=h;have hx:dN x (D * G):=by
  refine dN.acx (hG _ ?_);rw [ady,← bO];exact dN.sc (E:=1) (by rw [bX];exact dN.mul ⟨M,d3⟩ D)
 obtain ⟨M',hx⟩:=hx;have e:D * G≤2 ^ (s + y9 σ):=by rw [a8];exact av d1 G1
 refine ⟨D * G,2 ^ lV σ s,bp d0 G0,bs e (bq (by omega) (by unfold lV;omega)),ao _,fun q hq=>?_⟩;obtain ⟨k,k1,_⟩:=hx q hq;refine ⟨k,k1,?_⟩;have b1:=hb q hq;have b2:bQ ((D * G:Nat):Rat) (s + y9 σ):=by
  unfold bQ pw;have:=O7 (s + y9 σ);unfold pw at this;have g1:((D * G:Nat):Rat)≤((2 ^ (s + y9 σ):Nat):Rat):=fk.2 e;have g2:(0:Rat)≤((D * G:Nat):Rat):=Rat.natCast_nonneg;exact ⟨by grind,g1⟩
 have b3:=b1.mul b2;rw [k1] at b3;have e3:(s + 1) / 2 + Qu σ + (s + y9 σ) = lV σ s:=by unfold lV;omega
 rw [e3] at b3;unfold bQ at b3;have e4:pw (lV σ s) = (((2 ^ lV σ s:Nat):Int):Rat):=rfl;rw [e4,← d9] at b3;have c1:=dk.1 b3.1;have c2:=dk.1 b3.2;omega
def KY (f:List Nat→Nat→Nat) (B:Nat):List Nat→Prop
 | []=>True
 | s :: σ=>f σ s≤B∧KY f B σ
structure Pre {n i:Nat} (t:Tw n) (u:Tw i) (q:El i):Prop where
 lt:i < n
 row:(aA t)[i]? = some (flat q)
 ap:∃ l,aA t = aA u ++ l
 red:dW t→dW (n:=i + 1) (u,q)
 pt:∀ {σ},PT t σ→∃ σ' s,PT u σ'∧sz q s∧bD (s :: σ')≤bD σ∧∀ f B,KY f B σ→f σ' s≤B∧KY f B σ'
theorem Pre.ex:∀ {n:Nat} (t:Tw n) {i:Nat},i < n→∃ (u:Tw i) (q:El i),Pre t u q
 | 0,_,i,h=>absurd h (by omega)
 | n + 1,(t,r),i,h=>by
  rcases aM i n with h1 | h1
  ·
   obtain ⟨u,q,hp⟩:=Pre.ex t h1;refine ⟨u,q,h,?_,?_,fun h=>hp.red h.1,fun {σ} h=>?_⟩
   · simp only [aA];rw [cG (by rw [aj];exact h1)];exact hp.row
   · obtain ⟨l,e⟩:=hp.ap;exact ⟨l ++ [flat r],by simp only [aA,e,db]⟩
   · match σ,h with
     | s :: σ,h =>
      obtain ⟨σ',s',h1,h2,h3,h4⟩:=hp.pt h.2;exact ⟨σ',s',h1,h2,bs h3 (by rw [show bD (s :: σ) = 2 * bD σ + s + 2 from rfl];omega),fun f B h=>h4 f B h.2⟩
  · obtain rfl:i = n:=by omega
    refine ⟨t,r,h,?_,⟨[flat r],rfl⟩,fun h=>h,fun {σ} h=>?_⟩
    · simp only [aA];rw [bL (by rw [aj];exact ao _),aj];simp
    · match σ,h with
      | s :: σ,h=>exact ⟨σ,s,h.2,h.1,ao _,fun f B h=>h⟩
variable {i:Nat}
theorem Pre.cut {u:Tw i} {q:El i} (h:Pre t u q):∃ l:List (List Rat),(aA t).map dL = (aA u).map dL ++ l.map dL:=by
 obtain ⟨l,e⟩:=h.ap;exact ⟨l,by rw [e,gA]⟩
theorem Pre.at {u:Tw i} {q:El i} (h:Pre t u q):((aA t).map dL)[i]? = some (bF q):=by rw [iN,h.row];rfl
theorem qh (t:Tw n) (x:El n):-1≤aJ t x∧aJ t x≤1:=by
 induction n with
 | zero =>
  show -1≤(show Rat from x).num.sign∧(show Rat from x).num.sign≤1;have:=ofQ.s3 (show Rat from x);rcases this with h | h | h <;> rw [h] <;> omega
 | succ n ih =>
  obtain ⟨t,r⟩:=t;obtain ⟨x,y⟩:=x;have h1:=ih t x;have h2:=ih t y;have h3:=ih t (fP t r x y);simp only [aJ]
  split
  · exact h1
  · split
    · exact h2
    · have:aJ t x = -1∨aJ t x = 0∨aJ t x = 1:=by omega
      rcases this with e | e | e <;> rw [e] <;> omega
def lU:List Nat→Nat→Nat
 | [],s=>s
 | sr :: σ,s=>lU σ (2 * s + bD (sr :: σ))
theorem mM:∀ {σ:List Nat} {s:Nat},s + bD σ≤lU σ s
 | [],s=>by simp [lU,bD]
 | sr :: σ,s=>by
  have:=mM (σ:=σ) (s:=2 * s + bD (sr :: σ));simp only [lU];omega
theorem oU:∀ {σ:List Nat} {s s':Nat},s≤s'→lU σ s≤lU σ s'
 | [],s,s',h=>h
 | sr :: σ,s,s',h=>oU (σ:=σ) (by omega)
def Cb:List Nat→Nat→Nat
 | [],s=>s
 | sr :: σ,s=>max (Cb σ s) (max (Cb σ (s + invS σ sr + bD σ)) (max (Cb σ (2 * s + bD (sr :: σ))) (max (Cb σ (s + lV σ (2 * s + bD (sr :: σ)) + 2 + bD σ))
  (max (s + invS σ (lV σ (s + lV σ (2 * s + bD (sr :: σ)) + 2 + bD σ) + 1) + (lV σ (s + lV σ (2 * s + bD (sr :: σ)) + 2 + bD σ) + 1) + bD σ) (invS σ sr + sr + bD σ)))))
theorem Uc {sr:Nat} {B:Nat} (h:Cb (sr :: σ) s≤B):Cb σ s≤B∧Cb σ (s + invS σ sr + bD σ)≤B∧Cb σ (2 * s + bD (sr :: σ))≤B∧Cb σ (s + lV σ (2 * s + bD (sr :: σ)) + 2 + bD σ)≤B ∧
 s + invS σ (lV σ (s + lV σ (2 * s + bD (sr :: σ)) + 2 + bD σ) + 1) + (lV σ (s + lV σ (2 * s + bD (sr :: σ)) + 2 + bD σ) + 1) + bD σ≤B∧invS σ sr + sr + bD σ≤B:=by
 simp only [Cb,Nat.max_le] at h;exact h
theorem xk:∀ {σ:List Nat} {s:Nat},s≤Cb σ s
 | [],s=>ao s
 | sr :: σ,s=>by
  have:=xk (σ:=σ) (s:=s);simp only [Cb];exact bs this (j6 ..)
theorem sz.half (n:Nat):sz (bU n) 1:=⟨2,1,by omega,by omega,by omega,fun q hq=>by
 rw [bU,kY] at hq;rcases j8.1 hq with rfl | hq
 · exact ⟨1,by show (1 / 2:Rat) * 2 = 1;grind,by decide⟩
 · rw [(il.1 hq).2];exact (qD.zero 2).mono (by omega)⟩
theorem sz.dbl (h:sz x s):sz (aH x x) (s + 1):=by
 obtain ⟨D,M,h1,h2,h3,h4⟩:=h;exact ⟨D,M + M,h1,by rw [bm];omega,by rw [bm];omega,h4.add h4⟩
def vP {n:Nat} (S:Option (El n)) (J:List D) (v:El n):List D :=
 if iW v = true then
  match S with
  | some _=>[]
  | none=>(flat (zeroE n)).map af ++ J
 else []
noncomputable def jA:{n:Nat}→Tw n→El n→List D
 | 0,_,_=>[dR]
 | n + 1,(t,r),(u,v)=>vP (ou t u) (jA t (au t u (fZ t r))) v
noncomputable def Dl {n:Nat} (t:Tw n) (a:El n):List D:=match ou t a with
 | some w=>(flat w).map af
 | none=>jA t a
theorem UR {a w:El n} (h:ou t a = some w):Dl t a = (flat w).map af:=by unfold Dl;rw [h]
theorem adw:∀ {n:Nat} (t:Tw n) (a:El n),(∀ x∈jA t a,x.width = 4)∧D.ik (jA t a) = true∧(jA t a).length≤2 ^ n
 | 0,_,_=>⟨fun x hx=>by rw [ar.1 hx];rfl,rfl,by show [dR].length≤_;simp⟩
 | n + 1,(t,r),(u,v)=>by
  obtain ⟨h1,h2,h3⟩:=adw t (au t u (fZ t r));have hp:2 ^ (n + 1) = 2 ^ n + 2 ^ n:=by rw [bm];omega
  show (∀ x∈vP (ou t u) (jA t (au t u (fZ t r))) v,x.width = 4)∧D.ik (vP (ou t u) (jA t (au t u (fZ t r))) v) = true∧(vP (ou t u) (jA t (au t u (fZ t r))) v).length≤2 ^ (n + 1);unfold vP
  split
  ·
   split
   · exact ⟨by simp,rfl,by simp⟩
   ·
    refine ⟨fun x hx=>?_,?_,?_⟩
    · rcases bh.1 hx with hx | hx
      · obtain ⟨q,_,rfl⟩:=da.1 hx;rfl
      · exact h1 x hx
    · have:∀ l m:List D,D.ik l = true→D.ik m = true→D.ik (l ++ m) = true:=by
       intro l m hl hm
       induction l with
       | nil=>exact hm
       | cons x l ih =>
        unfold D.ik at hl ⊢;simp only [eZ] at hl;show (x.kJ && D.ik (l ++ m)) = true;rw [hl.1,ih hl.2];rfl
      exact this _ _ (iK _) h2
    · rw [aL,jt,flat_length];omega
  · exact ⟨by simp,rfl,by simp⟩
theorem acy (t:Tw n) (a:El n):(∀ x∈Dl t a,x.width = 4)∧D.ik (Dl t a) = true∧(Dl t a).length≤2 ^ n:=by
 unfold Dl
 split
 · exact ⟨fun x hx=>by obtain ⟨q,_,rfl⟩:=da.1 hx;rfl,iK _,by rw [jt,flat_length];exact ao _⟩
 · exact adw t a
theorem CJ {σ:List Nat} {s:Nat}:s≤lV σ s:=by unfold lV;omega
theorem XC {r:El n} (h:dW (n:=n + 1) (t,r)):ou t r = none:=by
 cases e:ou t r with
 | none=>rfl
 | some w=>exact absurd (pJ h.1 e) (h.2.2 w)
def aO {n:Nat} (t:Tw n) (ρ:Nat→El n):{k:Nat}→El k→El n
 | 0,a=>dD n a
 | k + 1,(x,y)=>aH (aO t ρ x) (au t (aO t ρ y) (ρ k))
def Lies {N:Nat} (F:Tw N) (ρ:Nat→El N):{k:Nat}→Tw k→Prop
 | 0,_=>True
 | k + 1,(t,r)=>Lies F ρ t∧aJ F (ρ k) = 1∧au F (ρ k) (ρ k) = aO F ρ r
theorem yc:∀ (n:Nat),bI (zeroE n) = zeroE n
 | 0=>Rat.neg_zero
 | n + 1=>dQ (yc n) (yc n)
theorem yf:∀ (n:Nat),dD n 0 = zeroE n
 | 0=>rfl
 | n + 1=>dQ (yf n) rfl
theorem L8:∀ (n:Nat) (a b:Rat),dD n (a + b) = aH (dD n a) (dD n b)
 | 0,a,b=>rfl
 | n + 1,a,b=>dQ (L8 n a b) (qm _).symm
theorem Oe:∀ (n:Nat) (a:Rat),dD n (-a) = bI (dD n a)
 | 0,a=>rfl
 | n + 1,a=>dQ (Oe n a) (yc n).symm
theorem MK:∀ {n:Nat} (t:Tw n) (a b:Rat),dD n (a * b) = au t (dD n a) (dD n b)
 | 0,_,a,b=>rfl
 | n + 1,(t,r),a,b=>by
  have h1:=MK t a b;refine dQ ?_ ?_
  · rw [h1];exact ((jY t).ring [dD n a,dD n b,r] (.mul (.v 0) (.v 1)) (.add (.mul (.v 0) (.v 1)) (.mul (.mul .zero .zero) (.v 2))) (by decide))
  · exact ((jY t).ring [dD n a,dD n b] .zero (.add (.mul (.v 0) .zero) (.mul .zero (.v 1))) (by decide))
theorem Ew:∀ {n:Nat} (t:Tw n) (a:Rat),aJ t (dD n a) = a.num.sign
 | 0,_,a=>rfl
 | n + 1,(t,r),a=>by
  have h1:=Ew t a;have h0:aJ t (zeroE n) = 0:=by rw [← yf,Ew];rfl
  show (if aJ t (zeroE n) = 0∨aJ t (dD n a) = aJ t (zeroE n) then aJ t (dD n a) else _) = _;rw [if_pos (.inl h0),h1]
section
variable {N:Nat} {F:Tw N} {ρ:Nat→El N}
theorem gJ (F:Tw N) (ρ:Nat→El N):∀ (k:Nat),aO F ρ (zeroE k) = zeroE N
 | 0=>yf N
 | k + 1=>by
  show aH (aO F ρ (zeroE k)) (au F (aO F ρ (zeroE k)) (ρ k)) = zeroE N;rw [gJ F ρ k];exact ((jY F).ring [ρ k] (.add .zero (.mul .zero (.v 0))) .zero (by decide))
theorem xZ (F:Tw N) (ρ:Nat→El N):∀ (k:Nat) (a:Rat),aO F ρ (dD k a) = dD N a
 | 0,a=>rfl
 | k + 1,a=>by
  show aH (aO F ρ (dD k a)) (au F (aO F ρ (zeroE k)) (ρ k)) = dD N a;rw [xZ F ρ k,gJ];exact ((jY F).ring [dD N a,ρ k] (.add (.v 0) (.mul .zero (.v 1))) (.v 0) (by decide))
theorem mD (F:Tw N) (ρ:Nat→El N):∀ {k:Nat} (x y:El k),aO F ρ (aH x y) = aH (aO F ρ x) (aO F ρ y)
 | 0,a,b=>L8 N a b
 | k + 1,(x,y),(u,v)=>by
  show aH (aO F ρ (aH x u)) (au F (aO F ρ (aH y v)) (ρ k)) = aH (aH (aO F ρ x) (au F (aO F ρ y) (ρ k))) (aH (aO F ρ u) (au F (aO F ρ v) (ρ k)));rw [mD F ρ x u,mD F ρ y v];exact ((jY F).ring [aO F ρ x,aO F ρ y,aO F ρ u,aO F ρ v,ρ k] (.add (.add (.v 0) (.v 2)) (.mul (.add (.v 1) (.v 3)) (.v 4))) (.add (.add (.v 0) (.mul (.v 1) (.v 4))) (.add (.v 2) (.mul (.v 3) (.v 4)))) (by decide))
theorem uA (F:Tw N) (ρ:Nat→El N):∀ {k:Nat} (x:El k),aO F ρ (bI x) = bI (aO F ρ x)
 | 0,a=>Oe N a
 | k + 1,(x,y)=>by
  show aH (aO F ρ (bI x)) (au F (aO F ρ (bI y)) (ρ k)) = bI (aH (aO F ρ x) (au F (aO F ρ y) (ρ k)));rw [uA F ρ x,uA F ρ y];exact ((jY F).ring [aO F ρ x,aO F ρ y,ρ k] (.add (.neg (.v 0)) (.mul (.neg (.v 1)) (.v 2))) (.neg (.add (.v 0) (.mul (.v 1) (.v 2)))) (by decide))
theorem lH:∀ {k:Nat} {t:Tw k},Lies F ρ t→∀ (x y:El k),aO F ρ (au t x y) = au F (aO F ρ x) (aO F ρ y)
 | 0,_,_,a,b=>MK F a b
 | k + 1,(t,r),h,(x,y),(u,v)=>by
  have h1:=@lH k t h.1;show aH (aO F ρ (aH (au t x u) (au t (au t y v) r))) (au F (aO F ρ (aH (au t x v) (au t y u))) (ρ k)) = au F (aH (aO F ρ x) (au F (aO F ρ y) (ρ k))) (aH (aO F ρ u) (au F (aO F ρ v) (ρ k)));rw [mD,mD,h1,h1,h1,h1,h1,← h.2.2];exact ((jY F).ring [aO F ρ x,aO F ρ y,aO F ρ u,aO F ρ v,ρ k] (.add (.add (.mul (.v 0) (.v 2)) (.mul (.mul (.v 1) (.v 3)) (.mul (.v 4) (.v 4)))) (.mul (.add (.mul (.v 0) (.v 3)) (.mul (.v 1) (.v 2))) (.v 4))) (.mul (.add (.v 0) (.mul (.v 1) (.v 4))) (.add (.v 2) (.mul (.v 3) (.v 4)))) (by decide))
end
section
variable {z o:α} {ad mu:α→α→α} {ne:α→α} {sg:α→Int} (h:Es z o ad mu ne sg)
include h
theorem Es.opp {a b:α} (hb:sg b≠0) (hab:sg a = - sg b):sg (ad a b) = sg a * sg (ad (mu a a) (ne (mu b b))):=by
 rcases h.s3 (ad (mu a a) (ne (mu b b))) with e | e | e
 · have e2:sg (ad (mu b b) (ne (mu a a))) = 1:=by
    have:ad (mu b b) (ne (mu a a)) = ne (ad (mu a a) (ne (mu b b))):=((h.r).ring [a,b] (.add (.mul (.v 1) (.v 1)) (.neg (.mul (.v 0) (.v 0)))) (.neg (.add (.mul (.v 0) (.v 0)) (.neg (.mul (.v 1) (.v 1))))) (by decide));rw [this,h.sn,e];rfl
   rw [h.ac a b,h.big e2,e];omega
 ·
  have e1:=(h.s0 _).1 e;have e2:mu (ad a b) (ad a (ne b)) = z:=by
   rw [← e1];exact ((h.r).ring [a,b] (.mul (.add (.v 0) (.v 1)) (.add (.v 0) (.neg (.v 1)))) (.add (.mul (.v 0) (.v 0)) (.neg (.mul (.v 1) (.v 1)))) (by decide))
  rw [e];rcases h.dom e2 with e3 | e3
  · rw [e3,h.sz];omega
  · exfalso;have:a = b:=by
     have:ad (ad a (ne b)) b = ad z b:=by rw [e3]
     rwa [show ad (ad a (ne b)) b = a from ((h.r).ring [a,b] (.add (.add (.v 0) (.neg (.v 1))) (.v 1)) (.v 0) (by decide)),h.r.za] at this
    rw [this] at hab;omega
 · rw [h.big e,e];omega
end
section
variable {N:Nat} {F:Tw N} {ρ:Nat→El N}
theorem kT (hF:dW F):∀ {k:Nat} {t:Tw k},Lies F ρ t→∀ (x:El k),aJ F (aO F ρ x) = aJ t x
 | 0,_,_,a=>Ew F a
 | k + 1,(t,r),h,(x,y)=>by
  have ho:=oq hF;have h1:=kT hF h.1 x;have h2:=kT hF h.1 y;have h3:=kT hF h.1 (fP t r x y);have hs:=h.2.1;have e3:aO F ρ (fP t r x y) = aH (au F (aO F ρ x) (aO F ρ x)) (bI (au F (au F (aO F ρ y) (ρ k)) (au F (aO F ρ y) (ρ k)))):=by
   unfold fP;rw [mD,uA,lH h.1,lH h.1,lH h.1,← h.2.2];exact ((jY F).ring [aO F ρ x,aO F ρ y,ρ k] (.add (.mul (.v 0) (.v 0)) (.neg (.mul (.mul (.v 1) (.v 1)) (.mul (.v 2) (.v 2))))) (.add (.mul (.v 0) (.v 0)) (.neg (.mul (.mul (.v 1) (.v 2)) (.mul (.v 1) (.v 2))))) (by decide))
  show aJ F (aH (aO F ρ x) (au F (aO F ρ y) (ρ k))) = if aJ t y = 0∨aJ t x = aJ t y then aJ t x else if aJ t x = 0 then aJ t y else aJ t x * aJ t (fP t r x y)
  rw [← h1,← h2,← h3,e3];have e4:aJ F (au F (aO F ρ y) (ρ k)) = aJ F (aO F ρ y):=by rw [ho.sm,hs];omega
  rw [← e4];generalize au F (aO F ρ y) (ρ k) = b;generalize aO F ρ x = a;have ra:=ho.s3 a;have rb:=ho.s3 b
  split
  ·
   rename_i hc
   by_cases hb:aJ F b = 0
   · rw [(ho.s0 b).1 hb,ho.az]
   · have hab:aJ F a = aJ F b:=hc.resolve_left hb;rcases rb with e | e | e
     · rw [ho.afe (by rw [hab,e]) e,hab,e]
     · exact absurd e hb
     · rw [ho.sa a b (by rw [hab,e]) e,hab,e]
  · rename_i hc;have hb:¬ aJ F b = 0:=fun e=>hc (.inl e)
    have hab:¬ aJ F a = aJ F b:=fun e=>hc (.inr e)
    split
    · rename_i ha;rw [(ho.s0 a).1 ha,ho.r.za]
    · rename_i ha;exact ho.opp hb (by omega)
theorem Eg (hF:dW F) {k:Nat} {t:Tw k} (ht:dW t) (h:Lies F ρ t) {x y:El k} (e:aO F ρ x = aO F ρ y):x = y:=by
 have ho:=oq ht;have hoF:=oq hF;have e1:aO F ρ (aH x (bI y)) = zeroE N:=by rw [mD,uA,e];exact hoF.an _
 have e2:aJ t (aH x (bI y)) = 0:=by rw [← kT hF h,e1];exact hoF.sz
 have e3:=(ho.s0 _).1 e2;have:aH (aH x (bI y)) y = aH (zeroE k) y:=by rw [e3]
 rwa [show aH (aH x (bI y)) y = x from ((jY t).ring [x,y] (.add (.add (.v 0) (.neg (.v 1))) (.v 1)) (.v 0) (by decide)),(jY t).za] at this
theorem Fz (hF:dW F) {k:Nat} {t:Tw k} (ht:dW t) (h:Lies F ρ t) {x y:El k}:aO F ρ x = aO F ρ y↔x = y:=⟨Eg hF ht h,fun e=>by rw [e]⟩
theorem gK {ρ':Nat→El N}:∀ {k:Nat} (x:El k),(∀ i,i < k→ρ' i = ρ i)→aO F ρ' x = aO F ρ x
 | 0,a,_=>rfl
 | k + 1,(x,y),h=>by
  show aH (aO F ρ' x) (au F (aO F ρ' y) (ρ' k)) = aH (aO F ρ x) (au F (aO F ρ y) (ρ k));rw [gK x (fun i hi=>h i (by omega)),gK y (fun i hi=>h i (by omega)),h k (by omega)]
theorem Lies.congr {ρ':Nat→El N}:∀ {k:Nat} {t:Tw k},Lies F ρ t→(∀ i,i < k→ρ' i = ρ i)→Lies F ρ' t
 | 0,_,_,_=>trivial
 | k + 1,(t,r),h,hr=>⟨h.1.congr fun i hi=>hr i (by omega),by rw [hr k (by omega)];exact h.2.1,by rw [hr k (by omega),gK r (fun i hi=>hr i (by omega))];exact h.2.2⟩
theorem Lies.uniq (hF:dW F) {ρ':Nat→El N}:∀ {k:Nat} {t:Tw k},Lies F ρ t→Lies F ρ' t→∀ i,i < k→ρ' i = ρ i
 | 0,_,_,_=>fun i hi=>absurd hi (by omega)
 | k + 1,(t,r),h,h'=>fun i hi=>by
  have ih:=Lies.uniq hF h.1 h'.1;rcases aM i k with h1 | h1
  · exact ih i h1
  · obtain rfl:i = k:=by omega
    refine wo hF ?_ (by rw [h'.2.1];decide) (by rw [h.2.1];decide);rw [h'.2.2,h.2.2];exact gK r ih
theorem Ai {m:Nat} {T:Tw m} {τ:Nat→El N} {σ:Nat→El m} (hT:Lies F τ T):∀ {k:Nat} (x:El k),aO F τ (aO T σ x) = aO F (fun i=>aO F τ (σ i)) x
 | 0,a=>xZ F τ m a
 | k + 1,(x,y)=>by
  show aO F τ (aH (aO T σ x) (au T (aO T σ y) (σ k))) = aH (aO F (fun i=>aO F τ (σ i)) x) (au F (aO F (fun i=>aO F τ (σ i)) y) (aO F τ (σ k)));rw [mD,lH hT,Ai hT x,Ai hT y]
theorem Lies.trans {m:Nat} {T:Tw m} {τ:Nat→El N} {σ:Nat→El m} (hF:dW F) (hT:Lies F τ T):∀ {k:Nat} {t:Tw k},Lies T σ t→Lies F (fun i=>aO F τ (σ i)) t
 | 0,_,_=>trivial
 | k + 1,(t,r),h=>⟨hT.trans hF h.1,by rw [kT hF hT];exact h.2.1,by
  show au F (aO F τ (σ k)) (aO F τ (σ k)) = _;rw [← lH hT,h.2.2,Ai hT]⟩
end
def Hf:Nat→(Nat→Rat)→Rat
 | 0,_=>0
 | m + 1,f=>Hf m f + f m
theorem BG:∀ {m:Nat} {f g:Nat→Rat},(∀ i,i < m→f i = g i)→Hf m f = Hf m g
 | 0,_,_,_=>rfl
 | m + 1,f,g,h=>by simp only [Hf];rw [BG fun i hi=>h i (by omega),h m (by omega)]
theorem Gm:∀ {m:Nat} {f:Nat→Rat},(∀ i,i < m→f i = 0)→Hf m f = 0
 | 0,_,_=>rfl
 | m + 1,f,h=>by simp only [Hf];rw [Gm fun i hi=>h i (by omega),h m (by omega)];exact eo 0
theorem TW (a:Rat):∀ (m:Nat) (f:Nat→Rat),Hf m f * a = Hf m fun i=>f i * a
 | 0,f=>de a
 | m + 1,f=>by simp only [Hf];rw [Rat.add_mul,TW a m f]
theorem Uf:∀ (m:Nat) (f g:Nat→Rat),Hf m f - Hf m g = Hf m fun i=>f i - g i
 | 0,f,g=>by simp only [Hf];grind
 | m + 1,f,g=>by simp only [Hf];rw [← Uf m f g];grind
theorem RZ:∀ (n m:Nat) (v:Nat→Nat→Rat),n < m→∃ c:Nat→Rat,(∃ i,i < m∧c i≠0)∧∀ j,j < n→Hf m (fun i=>c i * v i j) = 0
 | 0,m,v,h=>⟨fun _=>1,⟨0,h,by decide⟩,fun j hj=>absurd hj (by omega)⟩
 | n + 1,0,v,h=>absurd h (by omega)
 | n + 1,m + 1,v,h=>by
  by_cases hq:∃ q,q < n + 1∧v m q≠0
  ·
   obtain ⟨q,hq1,hq2⟩:=hq
   let rt:Nat→Rat:=fun i=>v i q / v m q
   let sk:Nat→Nat:=fun j=>if j < q then j else j + 1
   obtain ⟨c,⟨i0,h1,h2⟩,h3⟩:=RZ n m (fun i j=>v i (sk j) - rt i * v m (sk j)) (by omega);refine ⟨fun i=>if i < m then c i else - Hf m fun i=>c i * rt i,⟨i0,by omega,by simp only [h1,if_true];exact h2⟩,fun J hJ=>?_⟩;have key:Hf (m + 1) (fun i=>(if i < m then c i else - Hf m fun i=>c i * rt i) * v i J) = Hf m fun i=>c i * (v i J - rt i * v m J):=by
    simp only [Hf,kb,if_false];rw [BG (g:=fun i=>c i * v i J) fun i hi=>by simp only [hi,if_true]];rw [gS,TW,← Rat.sub_eq_add_neg,Uf];exact BG fun i _=>by grind
   rw [key]
   by_cases hJq:J = q
   · subst hJq;refine Gm fun i _=>?_
     have:rt i * v m J = v i J:=Rat.div_mul_cancel hq2;rw [this];grind
   · by_cases hlt:J < q
     · have:=h3 J (by omega);have e:sk J = J:=if_pos hlt;rw [e] at this;exact this
     · have:=h3 (J - 1) (by omega);have e:sk (J - 1) = J:=by
        show (if J - 1 < q then J - 1 else J - 1 + 1) = J;rw [if_neg (by omega)];omega
       rw [e] at this;exact this
  · refine ⟨fun i=>if i = m then 1 else 0,⟨m,by omega,by simp⟩,fun j hj=>?_⟩;have hv:v m j = 0:=gr fun e=>hq ⟨j,hj,e⟩
    refine Gm fun i hi=>?_
    by_cases e:i = m
    · subst e;simp only [if_true];rw [hv,cF]
    · simp only [e,if_false];exact de _
theorem abr {L:(Nat→Rat)→Rat} {m:Nat} (ha:∀ c d,L (fun i=>c i + d i) = L c + L d) (hs:∀ a c,L (fun i=>a * c i) = a * L c) (hd:∀ c d,(∀ i,i < m→c i = d i)→L c = L d) (c:Nat→Rat):L c = Hf m fun i=>c i * L (fun j=>if j = i then 1 else 0):=by
 have key:∀ p,L (fun i=>if i < p then c i else 0) = Hf p fun i=>c i * L (fun j=>if j = i then 1 else 0):=by
  intro p
  induction p with
  | zero =>
   have:(fun i=>if i < 0 then c i else 0) = (fun i=>(0:Rat) * c i):=by funext i;simp
   rw [this,hs];exact de _
  | succ p ih =>
   simp only [Hf];rw [← ih,← hs,← ha];congr 1;funext i
   by_cases h1:i = p
   · subst h1;simp only [kb,if_false,if_true,Nat.lt_succ_self];rw [gT,Rat.zero_add]
   · by_cases h2:i < p
     · simp only [h1,h2,if_false,if_true,show i < p + 1 by omega];rw [cF,eo]
     · simp only [h1,h2,if_false,show ¬ i < p + 1 by omega];rw [cF,eo]
 rw [← key m];exact hd _ _ fun i hi=>by simp only [hi,if_true]
def rf:(k:Nat)→(Nat→Rat)→Nat→El k
 | 0,c,o=>c o
 | k + 1,c,o=>(rf k c o,rf k c (o + 2 ^ k))
theorem GL:∀ (k:Nat) (c d:Nat→Rat) (o:Nat),rf k (fun i=>c i + d i) o = aH (rf k c o) (rf k d o)
 | 0,c,d,o=>rfl
 | k + 1,c,d,o=>dQ (GL k c d o) (GL k c d _)
theorem Jr (a:Rat):∀ (k:Nat) (c:Nat→Rat) (o:Nat),rf k (fun i=>a * c i) o = vO a (rf k c o)
 | 0,c,o=>rfl
 | k + 1,c,o=>dQ (Jr a k c o) (Jr a k c _)
theorem zu:∀ (k:Nat) (c d:Nat→Rat) (o:Nat),(∀ i,o≤i→i < o + 2 ^ k→c i = d i)→rf k c o = rf k d o
 | 0,c,d,o,h=>h o (ao o) (by simp)
 | k + 1,c,d,o,h=>by
  have hp:2 ^ (k + 1) = 2 ^ k + 2 ^ k:=by rw [bm];omega
  exact dQ (zu k c d o fun i h1 h2=>h i h1 (by omega)) (zu k c d _ fun i h1 h2=>h i (by omega) (by omega))
theorem xM:∀ (k:Nat) (c:Nat→Rat) (o i:Nat),i < 2 ^ k→(flat (rf k c o))[i]? = some (c (o + i))
 | 0,c,o,i,h=>by
  obtain rfl:i = 0:=by simp at h;exact h
  rfl
 | k + 1,c,o,i,h=>by
  have hp:2 ^ (k + 1) = 2 ^ k + 2 ^ k:=by rw [bm];omega
  simp only [rf,flat];rcases aM i (2 ^ k) with h1 | h1
  · rw [cG (by rw [flat_length];exact h1)];exact xM k c o i h1
  · rw [bL (by rw [flat_length];exact h1),flat_length,xM k c _ _ (by omega)];congr 2;omega
theorem SH:∀ (n:Nat) (a b:Rat),dD n (a * b) = vO a (dD n b)
 | 0,a,b=>rfl
 | n + 1,a,b=>dQ (SH n a b) (by
  have:∀ n,zeroE n = vO a (zeroE n):=by
   intro n
   induction n with
   | zero=>exact (cF a).symm
   | succ n ih=>exact dQ ih ih
  exact this n)
theorem QR {N:Nat} (F:Tw N) (ρ:Nat→El N) (a:Rat):∀ {k:Nat} (x:El k),aO F ρ (vO a x) = vO a (aO F ρ x)
 | 0,b=>SH N a b
 | k + 1,(x,y)=>by
  show aH (aO F ρ (vO a x)) (au F (aO F ρ (vO a y)) (ρ k)) = vO a (aH (aO F ρ x) (au F (aO F ρ y) (ρ k)));rw [QR F ρ a x,QR F ρ a y,Kw,Qy]
def WB {N:Nat} (x:El N) (j:Nat):Rat:=(flat x).getD j 0
theorem ael {N:Nat} (x y:El N) (j:Nat):WB (aH x y) j = WB x j + WB y j:=by
 unfold WB;rw [zO];simp only [aq,List.getElem?_zipWith];rcases aM j (2 ^ N) with h | h
 · rw [a6 (by rw [flat_length];exact h),a6 (by rw [flat_length];exact h)];rfl
 · rw [aw (by rw [flat_length];exact h),aw (by rw [flat_length];exact h)];exact (eo 0).symm
theorem agX {N:Nat} (a:Rat) (x:El N) (j:Nat):WB (vO a x) j = a * WB x j:=by
 unfold WB;rw [xq];simp only [aq,iN];rcases aM j (2 ^ N) with h | h
 · rw [a6 (by rw [flat_length];exact h)];rfl
 · rw [aw (by rw [flat_length];exact h)];exact (cF a).symm
theorem abV {N:Nat} {x:El N} (h:∀ j,j < 2 ^ N→WB x j = 0):x = zeroE N:=by
 apply o8;apply iS;intro j;rw [lL];rcases aM j (2 ^ N) with h1 | h1
 · have:=h j h1;unfold WB at this;rw [bB,if_pos h1];rw [aq,a6 (by rw [flat_length];exact h1)] at this;rw [a6 (by rw [flat_length];exact h1)];simpa using this
 · rw [aw (by rw [flat_length];exact h1),aw (by simp;exact h1)]
variable {k:Nat}
theorem Lies.le {N:Nat} {F:Tw N} {ρ:Nat→El N} (hF:dW F) {t:Tw k} (ht:dW t) (h:Lies F ρ t):k≤N:=by
 rcases aM N k with hlt | hge
 ·
  exfalso;have hp:2 ^ N < 2 ^ k:=ib (by omega) hlt
  let T:(Nat→Rat)→El N:=fun c=>aO F ρ (rf k c 0)
  obtain ⟨c,⟨i,h1,h2⟩,h3⟩:=RZ (2 ^ N) (2 ^ k) (fun i j=>WB (T (fun l=>if l = i then 1 else 0)) j) hp;have hT:T c = zeroE N:=abV fun j hj=>by
   rw [← h3 j hj];exact abr (L:=fun c=>WB (T c) j) (m:=2 ^ k) (fun c d=>by simp only [T];rw [GL,mD,ael]) (fun a c=>by simp only [T];rw [Jr,QR,agX])
    (fun c d hcd=>by simp only [T];rw [zu k c d 0 fun i _ hi=>hcd i (by omega)]) c
  have hx:rf k c 0 = zeroE k:=Eg hF ht h (by rw [gJ];exact hT);have e:=xM k c 0 i h1;rw [hx,lL,bB,if_pos h1,fh] at e;exact h2 (fN e).symm
 · exact hge
def gu (n:Nat):El (n + 1):=(zeroE n,dD n 1)
structure Nm where
 n:Nat
 t:Tw n
 x:El n
def jU (n:Nat) (w:List Rat):El n:=rf n (fun j=>w.getD j 0) 0
def mQ (l:List Rat) (n:Nat):List Rat:=l ++ bk (2 ^ n - l.length) 0
theorem qM {w:List Rat} (h:w.length≤2 ^ n):flat (jU n w) = mQ w n:=by
 apply iS;intro j;unfold mQ;rcases aM j (2 ^ n) with h1 | h1
 · rw [jU,xM n _ 0 j h1,fh];rcases aM j w.length with h2 | h2
   · rw [cG h2,aq,a6 h2];rfl
   · rw [bL h2,bB,if_pos (by omega),aq,aw h2];rfl
 · rw [aw (by rw [flat_length];exact h1),aw (by simp;omega)]
theorem jC (x:El n):jU n (flat x) = x:=by
 apply o8;rw [qM (by rw [flat_length];exact ao _)];unfold mQ;rw [flat_length,gi];simp
theorem wJ {w:List Rat} (h:w.length≤2 ^ n):jU (n + 1) w = (jU n w,zeroE n):=by
 apply o8;have hp:2 ^ (n + 1) = 2 ^ n + 2 ^ n:=by rw [bm];omega
 rw [qM (by omega)];simp only [flat];rw [qM h,lL];unfold mQ;rw [db,dp];congr 2;omega
theorem FU {a:El n} (h1:dW t) (h:wL t a = none):∀ w,au t w w≠a:=fun w e=>by
 rcases Int.lt_or_le (aJ t w) 0 with hs | hs
 · have:=Dc h1 (w:=bI w) (by rw [(oq h1).sn];omega) ((uf t w).trans e);rw [h] at this;cases this
 · have:=Dc h1 hs e;rw [h] at this;cases this
section
variable {m:Nat} {T:Tw m} {a:El m}
theorem NK (T:Tw m) (a x:El m):aJ (n:=m + 1) (T,a) (x,zeroE m) = aJ T x:=by
 have:aJ T (zeroE m) = 0:=by rw [← yf,Ew];rfl
 show (if aJ T (zeroE m) = 0∨aJ T x = aJ T (zeroE m) then aJ T x else _) = _;rw [if_pos (.inl this)]
theorem G7 (T:Tw m) (a x y:El m):au (n:=m + 1) (T,a) (x,zeroE m) (y,zeroE m) = (au T x y,zeroE m) :=
 dQ ((jY T).ring [x,y,a] (.add (.mul (.v 0) (.v 1)) (.mul (.mul .zero .zero) (.v 2))) (.mul (.v 0) (.v 1)) (by decide)) ((jY T).ring [x,y] (.add (.mul (.v 0) .zero) (.mul .zero (.v 1))) .zero (by decide))
theorem sF (T:Tw m) (a:El m) (σ:Nat→El m):∀ {k:Nat} (x:El k),aO (n:=m + 1) (T,a) (fun i=>(σ i,zeroE m)) x = (aO T σ x,zeroE m)
 | 0,q=>rfl
 | k + 1,(x,y)=>by
  show aH (aO (n:=m + 1) (T,a) (fun i=>(σ i,zeroE m)) x) (au (n:=m + 1) (T,a) (aO (n:=m + 1) (T,a) (fun i=>(σ i,zeroE m)) y) (σ k,zeroE m)) = _;rw [sF T a σ x,sF T a σ y,G7];exact dQ rfl (qm _)
theorem Lies.lift {σ:Nat→El m}:∀ {k:Nat} {t:Tw k},Lies T σ t→Lies (N:=m + 1) (T,a) (fun i=>(σ i,zeroE m)) t
 | 0,_,_=>trivial
 | k + 1,(t,r),h=>⟨h.1.lift,(NK T a _).trans h.2.1,by rw [G7,sF,h.2.2]⟩
theorem Lies.self:∀ {k:Nat} {t:Tw k} ,dW t→Lies t (fun i=>jU k (flat (gu i))) t∧∀ x:El k,aO t (fun i=>jU k (flat (gu i))) x = x
 | 0,_,_=>⟨trivial,fun x=>rfl⟩
 | k + 1,(t,r),h=>by
  obtain ⟨h1,h2⟩:=Lies.self h.1;have hr:jU (k + 1) (flat (gu k)) = gu k:=jC _;have hlow:∀ i,i < k→jU (k + 1) (flat (gu i)) = (jU k (flat (gu i)),zeroE k):=fun i hi=>wJ (by
   rw [flat_length];exact bq (by omega) hi)
  have hc:∀ {j:Nat} (x:El j),j≤k→aO (n:=k + 1) (t,r) (fun i=>jU (k + 1) (flat (gu i))) x = (aO t (fun i=>jU k (flat (gu i))) x,zeroE k):=fun {j} x hj=>by
   rw [← sF];exact gK x fun i hi=>hlow i (by omega)
  have ho:=oq h.1;refine ⟨⟨(h1.lift (a:=r)).congr fun i hi=>hlow i hi,?_,?_⟩,fun (x,y)=>?_⟩
  · show aJ (n:=k + 1) (t,r) (jU (k + 1) (flat (gu k))) = 1;rw [hr];show (if aJ t (dD k 1) = 0∨aJ t (zeroE k) = aJ t (dD k 1) then aJ t (zeroE k) else if aJ t (zeroE k) = 0 then aJ t (dD k 1) else _) = 1;rw [ho.s1,ho.sz];rfl
  · show au (n:=k + 1) (t,r) (jU (k + 1) (flat (gu k))) (jU (k + 1) (flat (gu k))) = _;rw [hr,hc r (ao k),h2];exact dQ ((jY t).ring [r] (.add (.mul .zero .zero) (.mul (.mul .one .one) (.v 0))) (.v 0) (by decide)) ((jY t).ring [r] (.add (.mul .zero .one) (.mul .one .zero)) .zero (by decide))
  · show aH (aO (n:=k + 1) (t,r) _ x) (au (n:=k + 1) (t,r) (aO (n:=k + 1) (t,r) _ y) (jU (k + 1) (flat (gu k)))) = (x,y);rw [hc x (ao k),hc y (ao k),h2,h2,hr];exact dQ ((jY t).ring [x,y,r] (.add (.v 0) (.add (.mul (.v 1) .zero) (.mul (.mul .zero .one) (.v 2)))) (.v 0) (by decide)) ((jY t).ring [x,y] (.add .zero (.add (.mul (.v 1) .one) (.mul .zero .zero))) (.v 1) (by decide))
end
structure Xt where
 n:Nat
 T:Tw n
 R:List (List Rat)
def Xt.ρ (E:Xt) (i:Nat):El E.n:=jU E.n (E.R.getD i [])
noncomputable def Xt.step (E:Xt) (r:List Rat):Xt:=match wL E.T (aO E.T E.ρ (jU E.R.length r)) with
 | some w=>⟨E.n,E.T,E.R ++ [flat w]⟩
 | none=>⟨E.n + 1,(E.T,aO E.T E.ρ (jU E.R.length r)),E.R ++ [flat (gu E.n)]⟩
theorem Xt.step_some {E:Xt} {r:List Rat} {a w:El E.n} (ha:aO E.T E.ρ (jU E.R.length r) = a) (e:wL E.T a = some w):E.step r = ⟨E.n,E.T,E.R ++ [flat w]⟩:=by
 subst ha;unfold Xt.step;rw [e]
theorem Xt.step_none {E:Xt} {r:List Rat} {a:El E.n} (ha:aO E.T E.ρ (jU E.R.length r) = a) (e:wL E.T a = none):E.step r = ⟨E.n + 1,(E.T,a),E.R ++ [flat (gu E.n)]⟩:=by
 subst ha;unfold Xt.step;rw [e]
noncomputable def Xt.steps (E:Xt) (l:List (List Rat)):Xt:=l.foldl Xt.step E
theorem Xt.G5 (E:Xt) (l:List (List Rat)) (r:List Rat):E.steps (l ++ [r]) = (E.steps l).step r:=by simp [Xt.steps]
theorem Xt.PD (E:Xt) {l:List (List Rat)} {r:List Rat} (h:l[i]? = some r):E.steps (l.take (i + 1)) = (E.steps (l.take i)).step r:=by
 rw [List.take_add_one,h,← Xt.G5];rfl
theorem Xt.Yk (E:Xt) (r:List Rat):(E.step r).R.length = E.R.length + 1:=by
 unfold Xt.step;split <;> simp
theorem Xt.Ir:∀ (l:List (List Rat)) (E:Xt),(E.steps l).R.length = E.R.length + l.length
 | [],E=>rfl
 | r :: l,E=>by
  show ((E.step r).steps l).R.length = _;rw [Xt.Ir l,Xt.Yk,dr];omega
structure XOk {n0:Nat} (t0:Tw n0) (E:Xt):Prop where
 red:dW E.T
 le:n0≤E.n
 X6:∃ l,aA E.T = aA t0 ++ l
 rows:∀ w∈E.R,w≠[]∧w.length≤2 ^ E.n
theorem AU (x:El n):flat x≠[]:=fun e=>by
 have:=congrArg dx e;rw [flat_length] at this;have h2:0 < 2 ^ n:=cV (by omega);simp at this
theorem AP (l:List α) (a d:α) (i:Nat) (h:i < l.length):(l ++ [a]).getD i d = l.getD i d:=by
 rw [aq,cG h,aq]
theorem xG (l:List α) (a d:α):(l ++ [a]).getD l.length d = a:=by
 rw [aq,bL (ao _)];simp
theorem XOk.row {n0:Nat} {t0:Tw n0} {E:Xt} (h:XOk t0 E) (i:Nat):(E.R.getD i []).length≤2 ^ E.n:=by
 rcases aM i E.R.length with h1 | h1
 · rw [aq,a6 h1];exact (h.rows _ (jj h1)).2
 · rw [aq,aw h1];exact bR _
theorem Xt.step_ok {N n0:Nat} {F:Tw N} {t0:Tw n0} {E:Xt} {τ υ:Nat→El N} {u:Tw k} {r:El k} (hF:dW F) (hE:XOk t0 E) (hR:E.R.length = k) (hτ:Lies F τ E.T) (hr:∀ i,i < k→aO F τ (E.ρ i) = υ i) (hL:Lies E.T E.ρ u) (hu:Lies (k:=k + 1) F υ (u,r)) :
 aJ E.T (aO E.T E.ρ r) = 1∧XOk t0 (E.step (flat r))∧(∃ τ',Lies F τ' (E.step (flat r)).T∧(∀ i,i < E.n→τ' i = τ i)∧∀ i,i < k + 1→aO F τ' ((E.step (flat r)).ρ i) = υ i)∧Lies (E.step (flat r)).T (E.step (flat r)).ρ (k:=k + 1) (u,r):=by
 have hir:aO F τ (aO E.T E.ρ r) = au F (υ k) (υ k):=by
  rw [Ai hτ,hu.2.2];exact gK r hr
 have hs:aJ E.T (aO E.T E.ρ r) = 1:=by
  rw [← kT hF hτ,hir,(oq hF).sm,hu.2.1];rfl
 subst hR;have ha:aO E.T E.ρ (jU E.R.length (flat r)) = aO E.T E.ρ r:=by rw [jC]
 obtain ⟨n,T,R⟩:=E;generalize haa:aO T (Xt.ρ ⟨n,T,R⟩) r = a at *;cases e:wL T a with
 | some w =>
  obtain ⟨w1,w2⟩:=oW e;rw [Xt.step_some (E:=⟨n,T,R⟩) ha e];have hold:∀ i,i < R.length→Xt.ρ ⟨n,T,R ++ [flat w]⟩ i = Xt.ρ ⟨n,T,R⟩ i:=fun i hi=>by
   unfold Xt.ρ;simp only [AP R (flat w) [] i hi]
  have hnew:Xt.ρ ⟨n,T,R ++ [flat w]⟩ R.length = w:=by
   unfold Xt.ρ;simp only [xG];exact jC w
  refine ⟨hs,⟨hE.red,hE.le,hE.X6,fun v hv=>?_⟩,⟨τ,hτ,fun _ _=>rfl,fun i hi=>?_⟩,⟨hL.congr hold,?_,?_⟩⟩
  · rcases bh.1 hv with hv | hv
    · exact hE.rows v hv
    · rw [ar.1 hv];exact ⟨AU w,by rw [flat_length];exact ao _⟩
  · simp only;rcases aM i R.length with h1 | h1
    · rw [hold i h1];exact hr i h1
    · obtain rfl:i = R.length:=(by have hi2:i < R.length + 1:=(by assumption);omega);rw [hnew];refine wo hF ?_ (by rw [kT hF hτ];exact w1) (by rw [hu.2.1];decide);rw [← lH hτ,w2,hir]
  · rw [hnew];have h1:aJ T (au T w w) = 1:=by rw [w2];exact hs
    rw [(oq hE.red).sm] at h1;rcases (oq hE.red).s3 w with h | h | h
    · simp only at *;omega
    · rw [h] at h1;cases h1
    · exact h
  · rw [hnew,w2,← haa];exact (gK r hold).symm
 | none =>
  rw [Xt.step_none (E:=⟨n,T,R⟩) ha e];have hlow:∀ i,i < R.length→Xt.ρ ⟨n + 1,(T,a),R ++ [flat (gu n)]⟩ i = (Xt.ρ ⟨n,T,R⟩ i,zeroE n):=fun i hi=>by
   unfold Xt.ρ;simp only [AP R (flat (gu n)) [] i hi];exact wJ (hE.row i)
  have hnew:Xt.ρ ⟨n + 1,(T,a),R ++ [flat (gu n)]⟩ R.length = gu n:=by
   unfold Xt.ρ;simp only [xG];exact jC (gu n)
  have hred:dW (n:=n + 1) (T,a):=⟨hE.red,hs,FU hE.red e⟩
  let τ':Nat→El N:=fun i=>if i = n then υ R.length else τ i
  have hτ':∀ i,i < n→τ' i = τ i:=fun i hi=>if_neg (by omega)
  have hτn:τ' n = υ R.length:=if_pos rfl;have hi:∀ x:El n,aO F τ' x = aO F τ x:=fun x=>gK x hτ'
  have hlT:Lies F τ' (k:=n + 1) (T,a):=⟨hτ.congr hτ',by rw [hτn];exact hu.2.1,by rw [hτn,hi];exact hir.symm⟩;refine ⟨hs,⟨hred,by have:=hE.le;simp only at this ⊢;omega,?_,fun v hv=>?_⟩,⟨τ',hlT,hτ',fun i hi'=>?_⟩,⟨(hL.lift (a:=a)).congr hlow,?_,?_⟩⟩
  · obtain ⟨l,hl⟩:=hE.X6;exact ⟨l ++ [flat a],by show aA T ++ [flat a] = _;rw [show aA T = aA t0 ++ l from hl,db]⟩
  · have hp:2 ^ n≤2 ^ (n + 1):=bq (by omega) (by omega);rcases bh.1 hv with hv | hv
    · exact ⟨(hE.rows v hv).1,bs (hE.rows v hv).2 hp⟩
    · rw [ar.1 hv];exact ⟨AU _,by rw [flat_length];exact ao _⟩
  · simp only;rcases aM i R.length with h1 | h1
    · rw [hlow i h1];show aH (aO F τ' _) (au F (aO F τ' (zeroE n)) (τ' n)) = υ i;rw [hi,gJ,hr i h1];exact ((jY F).ring [υ i,τ' n] (.add (.v 0) (.mul .zero (.v 1))) (.v 0) (by decide))
    · obtain rfl:i = R.length:=(by have hi2:i < R.length + 1:=(by assumption);omega);rw [hnew];show aH (aO F τ' (zeroE n)) (au F (aO F τ' (dD n 1)) (τ' n)) = υ R.length;rw [gJ,xZ,hτn];exact ((jY F).ring [υ R.length] (.add .zero (.mul .one (.v 0))) (.v 0) (by decide))
  · rw [hnew];have ho:=oq hE.red;show (if aJ T (dD n 1) = 0∨aJ T (zeroE n) = aJ T (dD n 1) then aJ T (zeroE n) else if aJ T (zeroE n) = 0 then aJ T (dD n 1) else _) = 1;rw [ho.s1,ho.sz];rfl
  · rw [hnew];have e1:aO (n:=n + 1) (T,a) (Xt.ρ ⟨n + 1,(T,a),R ++ [flat (gu n)]⟩) r = (a,zeroE n):=by
     rw [← haa,← sF];exact gK r hlow
    rw [e1];exact dQ ((jY T).ring [a] (.add (.mul .zero .zero) (.mul (.mul .one .one) (.v 0))) (.v 0) (by decide)) ((jY T).ring [a] (.add (.mul .zero .one) (.mul .one .zero)) .zero (by decide))
def fU (t u:List (List Rat)):Bool:=decide (u.length≤t.length) && decide (t.take u.length = u)
theorem iq {t u:List (List Rat)}:fU t u = true↔∃ l,t = u ++ l:=by
 unfold fU;rw [eZ,decide_eq_true_iff,decide_eq_true_iff];constructor
 · rintro ⟨_,h⟩;exact ⟨t.drop u.length,by conv=>lhs;rw [← gO u.length t,h]⟩
 · rintro ⟨l,rfl⟩;exact ⟨by simp,by simp⟩
theorem xY:∀ {n:Nat} {t u:Tw n},aA t = aA u→t = u
 | 0,_,_,_=>rfl
 | n + 1,(t,r),(u,q),h=>by
  simp only [aA] at h;have:=ju h (by rw [aj,aj]);rw [xY this.1,o8 (ir this.2).1]
theorem NF {r:El n} {v:Tw i} {l:List (List Rat)} (h:aA (n:=n + 1) (t,r) = aA v ++ l):(∃ l',aA t = aA v ++ l')∨∃ e:i = n + 1,v = e ▸ ((t,r):Tw (n + 1)):=by
 have hl:n + 1 = i + l.length:=by
  have h1:=congrArg dx h;rw [aL,aj v] at h1;exact (aj (n:=n + 1) (t,r)).symm.trans h1
 rcases List.eq_nil_or_concat l with rfl | ⟨l',z,rfl⟩
 · right;have e:i = n + 1:=by simp at hl;omega
   subst e;exact ⟨rfl,(xY (by rw [h,ck])).symm⟩
 · left;simp only [aA] at h;rw [List.concat_eq_append,← db] at h;exact ⟨l',(List.append_inj' h rfl).1⟩
theorem Lies.X6 {N:Nat} {F:Tw N} {υ:Nat→El N}:∀ {n:Nat} {t:Tw n},Lies F υ t→∀ {i:Nat} {v:Tw i} {l:List (List Rat)},aA t = aA v ++ l→Lies F υ v
 | 0,_,_,i,v,l,h=>by
  have hl:=congrArg dx h;rw [aL,aj,aj] at hl;obtain rfl:i = 0:=by omega
  trivial
 | n + 1,(t,r),hu,i,v,l,h=>by
  rcases NF h with ⟨l',h'⟩ | ⟨e,h'⟩
  · exact hu.1.X6 h'
  · subst e;rw [h'];exact hu
theorem dW.X6:∀ {n:Nat} {t:Tw n},dW t→∀ {i:Nat} {v:Tw i} {l:List (List Rat)},aA t = aA v ++ l→dW v
 | 0,_,_,i,v,l,h=>by
  have hl:=congrArg dx h;rw [aL,aj,aj] at hl;obtain rfl:i = 0:=by omega
  trivial
 | n + 1,(t,r),hu,i,v,l,h=>by
  rcases NF h with ⟨l',h'⟩ | ⟨e,h'⟩
  · exact dW.X6 hu.1 h'
  · subst e;rw [h'];exact hu
noncomputable def dV {n k:Nat} (t:Tw n) (u:Tw k):Xt:=Xt.steps ⟨n,t,[]⟩ (aA u)
theorem IM (t:Tw n) (u:Tw k) (r:El k):dV t (k:=k + 1) (u,r) = (dV t u).step (flat r):=Xt.G5 _ _ _
theorem Aq (t:Tw n) (u:Tw k):(dV t u).R.length = k:=by
 unfold dV;rw [Xt.Ir,aj];simp
section
variable {N:Nat} {F:Tw N}
theorem qZ (hF:dW F) {n0:Nat} {t0:Tw n0} (h0:dW t0) {τ0:Nat→El N} (hτ0:Lies F τ0 t0):∀ {k:Nat} {u:Tw k} {υ:Nat→El N},Lies F υ u →
 XOk t0 (dV t0 u)∧(∃ τ,Lies F τ (dV t0 u).T∧(∀ i,i < n0→τ i = τ0 i)∧∀ i,i < k→aO F τ ((dV t0 u).ρ i) = υ i)∧Lies (dV t0 u).T (dV t0 u).ρ u
 | 0,_,υ,_=>⟨⟨h0,ao _,⟨[],(ck _).symm⟩,fun w h=>by cases h⟩,⟨τ0,hτ0,fun _ _=>rfl,fun i hi=>absurd hi (by omega)⟩,trivial⟩
 | k + 1,(u,r),υ,h=>by
  obtain ⟨h1,⟨τ,h2,h3,h4⟩,h5⟩:=qZ hF h0 hτ0 h.1;rw [IM];obtain ⟨_,g2,⟨τ',g3,g4,g5⟩,g6⟩:=Xt.step_ok hF h1 (Aq t0 u) h2 h4 h5 h;exact ⟨g2,⟨τ',g3,fun i hi=>by rw [g4 i (Nat.lt_of_lt_of_le hi h1.le),h3 i hi],g5⟩,g6⟩
theorem acp (hF:dW F) {n0:Nat} {t0:Tw n0} (h0:dW t0) {τ0:Nat→El N} (hτ0:Lies F τ0 t0) {u:Tw k} {r:El k} {υ:Nat→El N} (h:Lies F υ (k:=k + 1) (u,r)):aJ (dV t0 u).T (aO (dV t0 u).T (dV t0 u).ρ r) = 1∧(dV t0 u).n≤N:=by
 obtain ⟨h1,⟨τ,h2,h3,h4⟩,h5⟩:=qZ hF h0 hτ0 h.1;exact ⟨(Xt.step_ok hF h1 (Aq t0 u) h2 h4 h5 h).1,h2.le hF h1.red⟩
theorem SC {τ:Nat→El N} {k:Nat} (x:El k):∀ {n:Nat},k≤n→aO F τ (jU n (flat x)) = aO F τ x
 | 0,h=>by
  obtain rfl:k = 0:=by omega
  rw [jC]
 | n + 1,h=>by
  rcases aM k (n + 1) with h1 | h1
  · rw [wJ (by rw [flat_length];exact bq (by omega) (by omega))];show aH (aO F τ (jU n (flat x))) (au F (aO F τ (zeroE n)) (τ n)) = _;rw [SC x (by omega),gJ];exact ((jY F).ring [aO F τ x,τ n] (.add (.v 0) (.mul .zero (.v 1))) (.v 0) (by decide))
  · obtain rfl:k = n + 1:=by omega
    rw [jC]
theorem Lr (hF:dW F) {T:Tw n} {t:Tw k} {l:List (List Rat)} {τ α:Nat→El N} (hb:aA T = aA t ++ l) (hT:Lies F τ T) (ht:Lies F α t) (x:El k):aO F τ (jU n (flat x)) = aO F α x:=by
 have hl:=congrArg dx hb;rw [aL,aj,aj] at hl;rw [SC x (by omega)];exact gK x fun i hi=>ht.uniq hF (hT.X6 hb) i hi
end
noncomputable def fM (a b:Nm):(n:Nat) × Tw n:=if fU (aA a.t) (aA b.t) = true then ⟨a.n,a.t⟩ else if fU (aA b.t) (aA a.t) = true then ⟨b.n,b.t⟩ else ⟨(dV a.t b.t).n,(dV a.t b.t).T⟩
structure Jn where
 n:Nat
 T:Tw n
 x:El n
 y:El n
noncomputable def bz (a b:Nm):Jn where
 n:=(fM a b).1
 T:=(fM a b).2
 x:=jU (fM a b).1 (flat a.x)
 y:=if fU (aA (fM a b).2) (aA b.t) = true then jU (fM a b).1 (flat b.x) else jU (fM a b).1 (flat (aO (dV (fM a b).2 b.t).T (dV (fM a b).2 b.t).ρ b.x))
section
variable {N:Nat} {F:Tw N} {a b:Nm} {α β:Nat→El N}
theorem KH (hF:dW F) (ra:dW a.t) (rb:dW b.t) (ha:Lies F α a.t) (hb:Lies F β b.t):dW (fM a b).2∧(∃ τ,Lies F τ (fM a b).2)∧fU (aA (fM a b).2) (aA a.t) = true∧(∃ σ,Lies (fM a b).2 σ b.t):=by
 by_cases h:fU (aA a.t) (aA b.t) = true
 · rw [show fM a b = ⟨a.n,a.t⟩ from if_pos h];obtain ⟨l,hl⟩:=iq.1 h;refine ⟨ra,⟨α,ha⟩,iq.2 ⟨[],(ck _).symm⟩,?_⟩;exact ⟨_,(Lies.self ra).1.X6 hl⟩
 · by_cases h':fU (aA b.t) (aA a.t) = true
   · rw [show fM a b = ⟨b.n,b.t⟩ from (if_neg h).trans (if_pos h')];exact ⟨rb,⟨β,hb⟩,h',⟨_,(Lies.self rb).1⟩⟩
   · rw [show fM a b = ⟨(dV a.t b.t).n,(dV a.t b.t).T⟩ from (if_neg h).trans (if_neg h')];obtain ⟨h1,⟨τ,h2,_⟩,h3⟩:=qZ hF ra ha hb;exact ⟨h1.red,⟨τ,h2⟩,iq.2 h1.X6,⟨_,h3⟩⟩
theorem FM {T:Tw n} {u:Tw k} {σ:Nat→El n} (hT:dW T) (h:Lies T σ u):aA (dV T u).T = aA T∧(dV T u).n = n:=by
 obtain ⟨h1,⟨τ,h2,_⟩,h3⟩:=qZ hT hT (Lies.self hT).1 h;have e:=h2.le hT h1.red;have e2:=h1.le;obtain ⟨l,hl⟩:=h1.X6;have hlen:=congrArg dx hl;rw [aL,aj,aj] at hlen;have:l = []:=d8 (by omega);subst this;exact ⟨by rw [hl,ck],by omega⟩
theorem Ou (hF:dW F) (ra:dW a.t) (rb:dW b.t) (ha:Lies F α a.t) (hb:Lies F β b.t):dW (bz a b).T∧∃ τ,Lies F τ (bz a b).T∧aO F τ (bz a b).x = aO F α a.x∧aO F τ (bz a b).y = aO F β b.x:=by
 obtain ⟨h1,⟨τ,h2⟩,h3,⟨σ,h4⟩⟩:=KH hF ra rb ha hb;obtain ⟨l,hl⟩:=iq.1 h3;refine ⟨h1,τ,h2,Lr hF hl h2 ha a.x,?_⟩;show aO F τ (if fU (aA (fM a b).2) (aA b.t) = true then jU (fM a b).1 (flat b.x) else jU (fM a b).1 (flat (aO (dV (fM a b).2 b.t).T (dV (fM a b).2 b.t).ρ b.x))) = aO F β b.x
 split
 · rename_i h;obtain ⟨l',hl'⟩:=iq.1 h;exact Lr hF hl' h2 hb b.x
 · obtain ⟨e1,e2⟩:=FM h1 h4;obtain ⟨_,_,g3⟩:=qZ h1 h1 (Lies.self h1).1 h4;generalize dV (fM a b).2 b.t = E at *;obtain ⟨n,T,R⟩:=E;simp only at e1 e2;generalize fM a b = C at *;obtain ⟨m,T'⟩:=C;simp only at e1 e2 h2 g3 ⊢;subst e2;obtain rfl:=xY e1;rw [jC,Ai h2];exact gK b.x fun i hi=>hb.uniq hF (h2.trans hF g3) i hi
end
noncomputable def lK (a b:Nm):Nm:=⟨(bz a b).n,(bz a b).T,aH (bz a b).x (bz a b).y⟩
noncomputable def Ia (a b:Nm):Nm:=⟨(bz a b).n,(bz a b).T,kX (bz a b).x (bz a b).y⟩
noncomputable def mulM (a b:Nm):Nm:=⟨(bz a b).n,(bz a b).T,au (bz a b).T (bz a b).x (bz a b).y⟩
def sZ (a:Nm):Nm:=⟨a.n,a.t,bI a.x⟩
noncomputable def H8 {n:Nat} (t:Tw n) (a:El n):Nm:=match wL t a with
 | some w=>⟨n,t,w⟩
 | none=>⟨n + 1,(t,a),gu n⟩
noncomputable def dw (a:Nm):Nm:=H8 a.t a.x
def kU (q:Rat):Nm:=⟨0,(),q⟩
structure Val {N:Nat} (F:Tw N) (a:Nm) (v:El N):Prop where
 red:dW a.t
 ex:∃ α,Lies F α a.t∧aO F α a.x = v
section
variable {N:Nat} {F:Tw N} {a b:Nm} {v w:El N}
theorem Val.join (hF:dW F) (ha:Val F a v) (hb:Val F b w):dW (bz a b).T∧∃ τ,Lies F τ (bz a b).T∧aO F τ (bz a b).x = v∧aO F τ (bz a b).y = w:=by
 obtain ⟨ra,α,h1,rfl⟩:=ha;obtain ⟨rb,β,h2,rfl⟩:=hb;exact Ou hF ra rb h1 h2
theorem Val.add (hF:dW F) (ha:Val F a v) (hb:Val F b w):Val F (lK a b) (aH v w):=by
 obtain ⟨h1,τ,h2,h3,h4⟩:=ha.join hF hb;exact ⟨h1,τ,h2,by rw [← h3,← h4];exact mD F τ _ _⟩
theorem Val.sub (hF:dW F) (ha:Val F a v) (hb:Val F b w):Val F (Ia a b) (kX v w):=by
 obtain ⟨h1,τ,h2,h3,h4⟩:=ha.join hF hb;refine ⟨h1,τ,h2,?_⟩;rw [← h3,← h4];show aO F τ (aH (bz a b).x (bI (bz a b).y)) = _;rw [mD,uA];rfl
theorem Val.mul (hF:dW F) (ha:Val F a v) (hb:Val F b w):Val F (mulM a b) (au F v w):=by
 obtain ⟨h1,τ,h2,h3,h4⟩:=ha.join hF hb;exact ⟨h1,τ,h2,by rw [← h3,← h4];exact lH h2 _ _⟩
theorem Val.neg (ha:Val F a v):Val F (sZ a) (bI v):=by
 obtain ⟨h1,τ,h2,h3⟩:=ha;exact ⟨h1,τ,h2,by rw [← h3];exact uA F τ _⟩
theorem Val.UU (hF:dW F) (ha:Val F a v):aJ a.t a.x = aJ F v:=by
 obtain ⟨h1,τ,h2,h3⟩:=ha;rw [← h3,kT hF h2]
theorem Val.eq (hF:dW F) (ha:Val F a v) (hb:Val F b w):(bz a b).x = (bz a b).y↔v = w:=by
 obtain ⟨h1,τ,h2,h3,h4⟩:=ha.join hF hb;rw [← h3,← h4];exact (Fz hF h1 h2).symm
theorem Val.eq0 (hF:dW F) (ha:Val F a v) (hb:Val F b w) (e:aA a.t = aA b.t):flat a.x = flat b.x↔v = w:=by
 obtain ⟨na,ta,xa⟩:=a;obtain ⟨nb,tb,xb⟩:=b;simp only at e ⊢;have hn:na = nb:=by have:=congrArg dx e;rwa [aj,aj] at this
 subst hn;obtain rfl:=xY e;obtain ⟨h1,α,h2,h3⟩:=ha;obtain ⟨_,β,h4,h5⟩:=hb;simp only at *;rw [← h3,← h5,gK xb fun i hi=>h2.uniq hF h4 i hi];rw [Fz hF h1 h2];exact ⟨fun h=>o8 h,fun h=>by rw [h]⟩
theorem Val.rat (F:Tw N) (q:Rat):Val F (kU q) (dD N q):=⟨trivial,fun _=>zeroE N,trivial,rfl⟩
theorem Val.le (hF:dW F) (ha:Val F a v):a.n≤N:=by
 obtain ⟨h1,α,h2,_⟩:=ha;exact h2.le hF h1
theorem Val.uniq (hF:dW F) (ha:Val F a v) (hb:Val F a w):v = w:=by
 obtain ⟨_,α,h2,h3⟩:=ha;obtain ⟨_,β,h4,h5⟩:=hb;rw [← h3,← h5];exact (gK a.x fun i hi=>h2.uniq hF h4 i hi).symm
theorem Val.sqrt (hF:dW F) (ha:Val F a v) (h0:0≤aJ F w) (hw:au F w w = v):Val F (dw a) w:=by
 obtain ⟨h1,α,h2,h3⟩:=ha;unfold dw H8;cases e:wL a.t a.x with
 | some u =>
  obtain ⟨u1,u2⟩:=oW e;refine ⟨h1,α,h2,(wo hF ?_ (by rw [kT hF h2];exact u1) h0)⟩;rw [← lH h2,u2,h3,hw]
 | none =>
  have hne:=FU h1 e;have hsg:aJ a.t a.x = aJ F v:=by rw [← h3,kT hF h2]
  have hv:aJ F v = aJ F w * aJ F w:=by rw [← hw,(oq hF).sm]
  have hw1:aJ F w = 1:=by
   rcases (oq hF).s3 w with h | h | h
   · omega
   · exfalso;have hz:aJ a.t a.x = 0:=by rw [hsg,hv,h];rfl
     have:=((oq h1).s0 _).1 hz;exact hne (zeroE a.n) (by rw [this];exact XN _ _)
   · exact h
  have hs1:aJ a.t a.x = 1:=by rw [hsg,hv,hw1];rfl
  let α':Nat→El N:=fun i=>if i = a.n then w else α i
  have hα':∀ i,i < a.n→α' i = α i:=fun i hi=>if_neg (by omega)
  have hαn:α' a.n = w:=if_pos rfl;refine ⟨⟨h1,hs1,hne⟩,α',⟨h2.congr hα',by rw [hαn];exact hw1,by rw [hαn,hw,gK a.x hα',h3]⟩,?_⟩;show aH (aO F α' (zeroE a.n)) (au F (aO F α' (dD a.n 1)) (α' a.n)) = w;rw [gJ,xZ,hαn];exact ((jY F).ring [w] (.add .zero (.mul .one (.v 0))) (.v 0) (by decide))
theorem Val.up (hF:dW F) (h0:0≤aJ F v):∃ (M:Nat) (G:Tw M) (ι:El N→El M) (w:El M),dW G∧M≤N + 1∧(∀ {b:Nm} {u:El N},Val F b u→Val G b (ι u))∧(∀ x,aJ G (ι x) = aJ F x)∧0≤aJ G w∧au G w w = ι v∧(∀ x y,ι (aH x y) = aH (ι x) (ι y))∧(∀ x y,ι (au F x y) = au G (ι x) (ι y))∧∀ x,ι (bI x) = bI (ι x):=by
 cases e:wL F v with
 | some w =>
  obtain ⟨u1,u2⟩:=oW e;exact ⟨N,F,id,w,hF,by omega,fun h=>h,fun _=>rfl,u1,u2,fun _ _=>rfl,fun _ _=>rfl,fun _=>rfl⟩
 | none =>
  have hne:=FU hF e;have hv1:aJ F v = 1:=by
   rcases (oq hF).s3 v with h | h | h
   · omega
   · exact absurd (by rw [((oq hF).s0 _).1 h];exact XN _ _) (hne (zeroE N))
   · exact h
  have hG:dW (n:=N + 1) (F,v):=⟨hF,hv1,hne⟩;have ho:=oq hF;refine ⟨N + 1,(F,v),fun x=>(x,zeroE N),gu N,hG,ao _,fun {b u} hb=>?_,fun x=>NK F v x,?_,?_,fun x y=>dQ rfl (qm _).symm,fun x y=>(G7 F v x y).symm,fun x=>dQ rfl (yc _).symm⟩
  · obtain ⟨h1,α,h2,h3⟩:=hb;exact ⟨h1,_,h2.lift,by rw [sF,h3]⟩
  · show 0≤(if aJ F (dD N 1) = 0∨aJ F (zeroE N) = aJ F (dD N 1) then aJ F (zeroE N) else if aJ F (zeroE N) = 0 then aJ F (dD N 1) else _);rw [ho.s1,ho.sz];simp
  · exact dQ ((jY F).ring [v] (.add (.mul .zero .zero) (.mul (.mul .one .one) (.v 0))) (.v 0) (by decide)) ((jY F).ring [v] (.add (.mul .zero .one) (.mul .one .zero)) .zero (by decide))
end
attribute [local go_sem ↓] eT eV
theorem We (A:Option Addr) (n c:Nat) (l:List Nat) (w:World) (hn:n≤4398046511104) (hc:n≤c) (he:Rd w 1 A n (us l)) :
 Calls aD 140 #[.slice A n c] w fun e w'=>e = .returned (.slice A (dO l) c)∧w = w':=by
 have HL:=aE he.pM;have H1:=aE he;clear he
 go_enter Tryz.func140,Tryz.ntmps140
 go_wp2_with fail
 go_loopg [0] n (fun g o wr=>∃ k:Nat,k≤n∧k = g∧o = .slice A k c∧(∀ j,k≤j→l.getD j 0 = 0)∧w = wr)
 case atStart=>exact ⟨n,ao _,rfl,rfl,(fun j hj=>by rw [aq,aw (by rw [HL.out];exact hj)];rfl),rfl⟩
 case round =>
  obtain ⟨k,hk,rfl,rfl,hz,rfl⟩:=hrel;have HZ:=aE hz;clear hz
  by_cases hk0:k = 0
  · subst hk0;have T0:Hid (dO l = 0):=aE (Ap HZ.out (fun h=>by omega))
    go_wp2_with fail
    go_ret
    exact ⟨by rw [T0.out];rfl,rfl⟩
  ·
   obtain ⟨ad,rfl,hkl,c0⟩:=H1.out.fG (by omega:k - 1 < n);have hi1:((k:Int) - 1).toNat = k - 1:=by omega
   have hm0:(0:Int)≤(k:Int) - 1:=by omega
   have hm1:(k:Int) - 1 < (k:Int):=by omega
   have hp:(0:Int) < (k:Int):=by omega
   generalize hx:l.getD (k - 1) 0 = x at c0;have HX:=aE hx;clear hx hkl
   by_cases hx0:x = 0
   ·
    subst hx0;have HZ2:Hid (∀ j,k - 1≤j→l.getD j 0 = 0):=aE fun j hj=>by
     rcases aM j k with h | h
     · obtain rfl:j = k - 1:=by omega
       exact HX.out
     · exact HZ.out j h
    go_wp2_with fail
    go_roundg (k - 1)
    case measure=>omega
    case rel=>exact ⟨k - 1,by omega,rfl,by first | rfl | (congr 1;omega),HZ2.out,rfl⟩
   · have T0:Hid (dO l = k):=aE (Ap HZ.out (fun h=>by rw [HX.out];exact hx0));have hx1:((x:Int) = 0) = False:=by simp;exact hx0
     go_wp2_with fail
     go_ret
     exact ⟨by rw [T0.out];rfl,rfl⟩
theorem jE (A:Option Addr) (n c:Nat) (l:List Nat) (w:World) (hn:n≤4398046511104) (h:bf w A n c l) :
 Calls aD 140 #[.slice A n c] w fun e w'=>e = .returned (.slice A (dO l) c)∧w = w':=We A n c l w hn h.2.1 h.1
theorem qA (x:Nat) (w:World) (hx:x < 18446744073709551616):Calls aD 139 #[.int .u64 (x:Int)] w (oH w x):=by
 have hm:bf (w.alloc (.cells #[.int .u32 ((x % 4294967296:Nat):Int),.int .u32 ((x / 4294967296:Nat):Int)] 76)) (some ⟨w.heap.size,0,none⟩) 2 2 [x % 4294967296,x / 4294967296] :=
  ⟨Ht w 1 2 _ _ rfl,ao _,fun y hy=>by
   rcases j8.1 hy with rfl | hy
   · omega
   · rw [ar.1 hy];omega⟩
 have cT:=jE _ 2 2 _ _ (by omega) hm;have HM:=aE hm;have HV:Hid (nv [x % 4294967296,x / 4294967296] = x):=aE (by simp [nv];omega);clear hm;have e1:((x % 4294967296:Nat):Int) = (x:Int) % 4294967296:=by omega
 have e2:((x / 4294967296:Nat):Int) = (x:Int) / 4294967296:=by omega
 rw [e1,e2] at cT HM;clear e1 e2
 go_enter Tryz.func139,Tryz.ntmps139
 go_wp2_with fail
 refine aR cT ?_;rintro _ _ ⟨rfl,rfl⟩
 go_wp2_with fail
 go_ret
 exact ⟨(Below.refl _ _).alloc (ao _) _,_,_,_,_,rfl,HM.out.trim,dK _,by rw [dP,HV.out],iC _⟩
theorem Oi (neg:Bool) (A:Option Addr) (n c:Nat) (l:List Nat) (w:World) (hn:n≤4398046511104) (h:bf w A n c l) :
 Calls aD 138 #[.bool neg,.slice A n c] w fun e w'=>e = .returned (if dO l = 0 then .agg #[.bool false,.slice none 0 0] else .agg #[.bool neg,.slice A (dO l) c])∧Below w.heap.size w w':=by
 have cT:=jE A n c l (w.alloc (.cells #[.bool false,.slice none 0 0] 70)) hn (h.keep (bg.alloc _ _));clear h;generalize dO l = k at *
 by_cases hk:k = 0
 ·
  subst hk
  go_enter Tryz.func138,Tryz.ntmps138
  go_wp2_with fail
  refine aR cT ?_;rintro _ _ ⟨rfl,rfl⟩
  go_wp2_with fail
  exact bodyPost_ret (v:=.agg #[.bool false,.slice none 0 0]) (by simp [results,Tryz.results138,go_sem]) rfl ⟨by simp,(Below.refl _ _).alloc (ao _) _⟩
 ·
  have d1:((k:Int) == 0) = false:=by simp;omega
  rw [if_neg hk];clear hk
  go_enter Tryz.func138,Tryz.ntmps138
  go_wp2_with fail
  refine aR cT ?_;rintro _ _ ⟨rfl,rfl⟩
  go_wp2_with fail
  exact bodyPost_ret (v:=.agg #[.bool neg,.slice A k c]) (by simp [results,Tryz.results138,go_sem]) rfl ⟨rfl,(Below.refl _ _).alloc (ao _) _⟩
theorem NM (p q:Int) (w:World):Calls aD 169 #[.int .i64 p,.int .i64 q] w fun e w'=>e = .returned (.int .i64 (p - q).sign)∧w = w':=by
 have nan:∀ (p:Int) (w:World),Calls aD 207 #[.int .i64 p] w fun e w'=>e = .returned (.bool false)∧w = w':=fun p w=>by
  have d:(p != p) = false:=by simp
  go_enter Tryz.func207,Tryz.ntmps207
  go_wp2_with fail
  go_ret
  exact ⟨rfl,rfl⟩
 have n1:=nan p w;have n2:=nan q w;clear nan
 by_cases h1:p < q
 ·
  have e:(p - q).sign = -1:=br (by omega);rw [e]
  go_enter Tryz.func169,Tryz.ntmps169
  go_wp2_with fail
  refine aR n1 ?_;rintro _ _ ⟨rfl,rfl⟩
  go_wp2_with fail
  refine aR n2 ?_;rintro _ _ ⟨rfl,rfl⟩
  go_wp2_with fail
  go_ret
  exact ⟨rfl,rfl⟩
 ·
  by_cases h2:q < p
  ·
   have e:(p - q).sign = 1:=bE (by omega);rw [e]
   go_enter Tryz.func169,Tryz.ntmps169
   go_wp2_with fail
   refine aR n1 ?_;rintro _ _ ⟨rfl,rfl⟩
   go_wp2_with fail
   refine aR n2 ?_;rintro _ _ ⟨rfl,rfl⟩
   go_wp2_with fail
   go_ret
   exact ⟨rfl,rfl⟩
  ·
   have e:(p - q).sign = 0:=by rw [show p - q = 0 by omega];rfl
   rw [e]
   go_enter Tryz.func169,Tryz.ntmps169
   go_wp2_with fail
   refine aR n1 ?_;rintro _ _ ⟨rfl,rfl⟩
   go_wp2_with fail
   refine aR n2 ?_;rintro _ _ ⟨rfl,rfl⟩
   go_wp2_with fail
   go_ret
   exact ⟨rfl,rfl⟩
theorem Za (p q:Int) (w:World):Calls aD 208 #[.int .u32 p,.int .u32 q] w fun e w'=>e = .returned (.int .i64 (p - q).sign)∧w = w':=by
 have nan:∀ (p:Int) (w:World),Calls aD 226 #[.int .u32 p] w fun e w'=>e = .returned (.bool false)∧w = w':=fun p w=>by
  have d:(p != p) = false:=by simp
  go_enter Tryz.func226,Tryz.ntmps226
  go_wp2_with fail
  go_ret
  exact ⟨rfl,rfl⟩
 have n1:=nan p w;have n2:=nan q w;clear nan
 by_cases h1:p < q
 ·
  have e:(p - q).sign = -1:=br (by omega);rw [e]
  go_enter Tryz.func208,Tryz.ntmps208
  go_wp2_with fail
  refine aR n1 ?_;rintro _ _ ⟨rfl,rfl⟩
  go_wp2_with fail
  refine aR n2 ?_;rintro _ _ ⟨rfl,rfl⟩
  go_wp2_with fail
  go_ret
  exact ⟨rfl,rfl⟩
 ·
  by_cases h2:q < p
  ·
   have e:(p - q).sign = 1:=bE (by omega);rw [e]
   go_enter Tryz.func208,Tryz.ntmps208
   go_wp2_with fail
   refine aR n1 ?_;rintro _ _ ⟨rfl,rfl⟩
   go_wp2_with fail
   refine aR n2 ?_;rintro _ _ ⟨rfl,rfl⟩
   go_wp2_with fail
   go_ret
   exact ⟨rfl,rfl⟩
  ·
   have e:(p - q).sign = 0:=by rw [show p - q = 0 by omega];rfl
   rw [e]
   go_enter Tryz.func208,Tryz.ntmps208
   go_wp2_with fail
   refine aR n1 ?_;rintro _ _ ⟨rfl,rfl⟩
   go_wp2_with fail
   refine aR n2 ?_;rintro _ _ ⟨rfl,rfl⟩
   go_wp2_with fail
   go_ret
   exact ⟨rfl,rfl⟩
theorem nU (A B:Option Addr) (n c m d:Nat) (a b:List Nat) (w:World) (hn:n≤4398046511104) (hm:m≤4398046511104) (ha:Rd w 1 A n (us a)) (hb:Rd w 1 B m (us b)) :
 Calls aD 170 #[.slice A n c,.slice B m d] w fun e w'=>e = .returned (.int .i64 (iO a b))∧Below w.heap.size w w':=by
 have LA:=aE ha.pM;have LB:=aE hb.pM;have H1:=aE ha;have H2:=aE hb;clear ha hb
 by_cases hnm:n≠m
 ·
  have R:Hid (iO a b = ((n:Int) - m).sign):=aE (by
   unfold iO;rw [LA.out,LB.out,if_neg hnm]
   by_cases h:n < m
   · rw [if_pos h,br (by omega)]
   · rw [if_neg h,bE (by omega)])
  have d1:((n:Int) != (m:Int)) = true:=by rw [bne_iff_ne];omega
  have cI:=NM (n:Int) (m:Int) w;clear hnm
  go_enter Tryz.func170,Tryz.ntmps170
  go_wp2_with fail
  refine aR cI ?_;rintro _ _ ⟨rfl,rfl⟩
  go_wp2_with fail
  go_ret
  exact ⟨by rw [R.out];rfl,Below.refl _ _⟩
 obtain rfl:n = m:=by omega
 clear hnm;have EC:Hid (iO a b = sK a b):=aE (by unfold iO;rw [LA.out,LB.out,if_pos rfl]);have EL:Hid (a.length = b.length):=aE (by rw [LA.out,LB.out])
 go_enter Tryz.func170,Tryz.ntmps170
 go_wp2_with fail
 go_loopg [5] n (fun g o wr=>∃ k:Nat,k≤n∧k = g∧o = .int .i64 ((k:Int) - 1)∧(∀ j,k≤j→a.getD j 0 = b.getD j 0)∧Below w.heap.size w wr)
 case atStart=>exact ⟨n,ao _,rfl,rfl,(fun j hj=>by rw [aq,aw (by rw [LA.out];exact hj),aq,aw (by rw [LB.out];exact hj)]),Below.refl _ _⟩
 case round =>
  obtain ⟨k,hk,rfl,rfl,hz,hb⟩:=hrel;have HZ:=aE hz;have HB:=aE hb;have hzr:=hb.size;have kr:=bg.of_below hb (ao _);clear hz hb
  by_cases hk0:k = 0
  · subst hk0;have T0:Hid (iO a b = 0):=aE (by rw [EC.out];exact zU EL.out (fun j=>HZ.out j (bR _)))
    go_wp2_with fail
    go_ret
    exact ⟨by rw [T0.out];rfl,HB.out⟩
  ·
   obtain ⟨ad,rfl,hkl,c0⟩:=(H1.out.keep kr).fG (by omega:k - 1 < n);obtain ⟨ae,rfl,hkl',c1⟩:=(H2.out.keep kr).fG (by omega:k - 1 < n);have hi1:((k:Int) - 1).toNat = k - 1:=by omega
   have hm0:(0:Int)≤(k:Int) - 1:=by omega
   have hm1:(k:Int) - 1 < (n:Int):=by omega
   generalize hx:a.getD (k - 1) 0 = x at c0;generalize hy:b.getD (k - 1) 0 = y at c1;have HX:=aE hx;have HY:=aE hy;have AT:Hid (∀ r,x < y∧r = -1∨y < x∧r = 1→iO a b = r):=aE fun r h=>by
    rw [EC.out];exact Jy (i:=k - 1) EL.out (by rw [LA.out];omega) (fun j hj=>HZ.out j (by omega)) (by rw [HX.out,HY.out];exact h)
   clear hx hy hkl hkl' kr;have k0:=bZ c0;have k1:=bZ c1
   by_cases hxy:x = y
   ·
    have d2:((x:Int) != (y:Int)) = false:=by rw [bne_eq_false_iff_eq];omega
    have NX:Hid (∀ j,k - 1≤j→a.getD j 0 = b.getD j 0):=aE fun j hj=>by
     rcases aM j k with h | h
     · obtain rfl:j = k - 1:=by omega
       rw [HX.out,HY.out];omega
     · exact HZ.out j h
    clear AT hxy
    go_wp2_with fail
    refine dJ (by kernel_rfl) (by kernel_rfl) ?_
    repeat (go_big_quiet_step (fail))
    refine wpQuiet_nil ?_;intro wq hgq
    go_wp2_with fail
    go_roundg (k - 1)
    case measure=>omega
    case rel=>exact ⟨k - 1,by omega,rfl,by congr 1;omega,NX.out,HB.out.trans (hgq.mono hzr)⟩
   ·
    have d2:((x:Int) != (y:Int)) = true:=by rw [bne_iff_ne];omega
    have R:Hid (iO a b = ((x:Int) - y).sign):=aE (by
     by_cases h:x < y
     · rw [AT.out (-1) (.inl ⟨h,rfl⟩),br (by omega)]
     · rw [AT.out 1 (.inr ⟨by omega,rfl⟩),bE (by omega)])
    clear AT hxy
    go_wp2_with fail
    refine dJ (by kernel_rfl) (by kernel_rfl) ?_
    repeat (go_big_quiet_step (fail))
    refine wpQuiet_nil ?_;intro wq hgq;have HB2:=aE (HB.out.trans (hgq.mono hzr));have c0':=bg.of_below hgq (ao _) _ _ c0;have c1':=bg.of_below hgq (ao _) _ _ c1;have hz2:=HB2.out.size;clear hgq k0 k1 c0 c1 HB hzr;generalize wq = w1 at *;have k0:=bZ c0';have k1:=bZ c1';have cU:=Z9 (w:=w1) (fun w' hw=>(Za (x:Int) (y:Int) w').mono (by rintro e w2 ⟨rfl,rfl⟩;exact ⟨rfl,Below.refl _ _⟩))
    go_wp2_with fail
    refine dJ (by kernel_rfl) (by kernel_rfl) ?_
    repeat (go_big_quiet_step (with_reducible exact cU _ _))
    refine wpQuiet_nil ?_;intro wq hgq
    go_wp2_with fail
    go_ret
    exact ⟨by rw [R.out];rfl,HB2.out.trans (hgq.mono hz2)⟩
attribute [local go_sem ↓] eT eV
theorem wrap_u64 (z:Int):f8.wrap z = z % 18446744073709551616:=by simp [IntKind.wrap,IntKind.bits,IntKind.signed]
theorem LG {x y b:Nat} (hx:x < 4294967296) (hy:y < 4294967296) (hb:b≤1):∃ D:Nat,f8.wrap (f8.wrap ((x:Int) - (b:Int)) - (y:Int)) = (D:Int)∧D / 9223372036854775808≤1∧x + 4294967296 * (D / 9223372036854775808) = D % 4294967296 + y + b:=by
 refine ⟨(((x:Int) - b - y) % 18446744073709551616).toNat,?_,?_,?_⟩
 · rw [wrap_u64,wrap_u64];omega
 · omega
 · omega
theorem PK (A B:Option Addr) (n c m d:Nat) (a b:List Nat) (w:World) (hn:n≤4398046511104) (hm:m≤4398046511104) (ha:bf w A n c a) (hb:bf w B m d b) (tb:jF b) (hle:nv b≤nv a) :
 Calls aD 160 #[.slice A n c,.slice B m d] w fun e w'=>Ad w (nv a - nv b) e w'∧∃ C k c',e = .returned (.slice C k c')∧k≤n:=by
 have LA:=aE ha.len;have LB:=aE hb.len;have hmn:m≤n:=by
  rcases aM n m with h | h
  · have:=nY ha.2.2 tb (by rw [LA.out,LB.out];exact h);omega
  · exact h
 have H1:=aE ha.1;have H2:=aE hb.1;have UA:=aE ha.2.2;have UB:=aE hb.2.2;have HLE:=aE hle;clear ha hb tb hle;have hmk:=run_make_row' (P:=aD) 68 76 (.int .u32 0) 4 Tryz.underlying68 fJ rfl .i64 .i64 n (by omega) (by omega);have M0:Hid (Own (w.alloc (.cells (madeCells #[.int .u32 0] n) 76)) w.heap.size 76 1 (some ⟨w.heap.size,0,none⟩) n n (us (bk n 0))):=aE (iw rfl n (by unfold maxLen;omega) (ao _))
 go_enter Tryz.func160,Tryz.ntmps160
 go_wp2_with fail
 go_loopg [6,15] n (fun g bo i wr=>∃ (k b1:Nat) (q:List Nat),k≤n∧n - k≤g∧i = .int .i64 (k:Int)∧bo = .int .u64 (b1:Int)∧b1≤1∧dY q∧q.length = n∧nv (a.take k) + b1 * 4294967296 ^ k = nv (b.take k) + nv (q.take k)∧Own wr w.heap.size 76 1 (some ⟨w.heap.size,0,none⟩) n n (us q)∧Below w.heap.size w wr)
 case atStart=>exact ⟨0,0,bk n 0,bR _,by omega,rfl,rfl,by omega,dY.zero n,by simp,by simp [nv],M0.out,(Below.refl _ _).alloc (ao _) _⟩
 case round =>
  clear M0;obtain ⟨k,b1,q,hk,hg,rfl,rfl,hb1,hq,hql,hqv,ho,hb⟩:=hrel;have HB:=aE hb;have HO:=aE ho;have HQ:=aE hq;have QL:=aE hql;have QV:=aE hqv;have hzr:=hb.size;have kr:=bg.of_below hb (ao _);clear hb ho hq hql hqv
  by_cases hkn:k < n
  ·
   obtain ⟨ad,rfl,hkl,c0⟩:=(H1.out.keep kr).fG hkn;have hx:=UA.out.at k;have hy:=UB.out.at k;have cq:=HO.out.gB (j:=k) hkn;have fq:wr.frozen? ⟨w.heap.size,k,none⟩ = false:=HO.out.frozen k;have NS:Hid (∀ o b',a.getD k 0 + 4294967296 * b' = o + b.getD k 0 + b1→nv (a.take (k + 1)) + b' * 4294967296 ^ (k + 1) = nv (b.take (k + 1)) + nv ((q.set k o).take (k + 1))):=aE fun o b' h=>by
    rw [bC a,bC b,jP (by rw [QL.out];exact hkn),bm];exact Gt QV.out h
   have OS:Hid (∀ o:Nat,Own (wr.setCell ⟨w.heap.size,k,none⟩ (.int .u32 (o:Int))) w.heap.size 76 1 (some ⟨w.heap.size,0,none⟩) n n (us (q.set k o))):=aE fun o=>HO.out.eH k o
   have US:Hid (∀ o,o < 4294967296→dY (q.set k o)):=aE fun o h=>HQ.out.set _ h
   have QL2:Hid (∀ o,(q.set k o).length = n):=aE fun o=>by rw [bj];exact QL.out
   by_cases hkm:k < m
   ·
    obtain ⟨ae,rfl,hkl',c1⟩:=(H2.out.keep kr).fG hkm;generalize a.getD k 0 = x at *;generalize b.getD k 0 = y at *;obtain ⟨D,eD,hD1,hD2⟩:=LG (x:=x) (y:=y) (b:=b1) hx hy hb1;have S1:=aE (NS.out (D % 4294967296) (D / 9223372036854775808) hD2);have S2:=aE (OS.out (D % 4294967296));have S3:=aE (US.out (D % 4294967296) (by omega));have S4:=aE (QL2.out (D % 4294967296));have e3:((D % 4294967296:Nat):Int) = (D:Int) % 4294967296:=by omega
    have e4:((D / 9223372036854775808:Nat):Int) = (D:Int) / 9223372036854775808:=by omega
    rw [e3] at S2;have E4:=aE e4;have H1D:=aE hD1;clear hkl hkl' kr NS OS US hD1 hD2 e3 e4
    go_wp2_with fail
    go_roundg (n - (k + 1))
    case measure=>omega
    case rel=>exact ⟨k + 1,D / 9223372036854775808,q.set k (D % 4294967296),by omega,ao _,by go_num,by rw [E4.out],H1D.out,S3.out,S4.out,S1.out,S2.out,HB.out.setCell (by simp) _⟩
   ·
    have hy0:b.getD k 0 = 0:=by rw [aq,aw (by rw [LB.out];omega)];rfl
    rw [hy0] at NS;generalize a.getD k 0 = x at *;obtain ⟨D,eD0,hD1,hD2⟩:=LG (x:=x) (y:=0) (b:=b1) hx (by omega) hb1;have eD:f8.wrap ((x:Int) - (b1:Int)) = (D:Int):=by rw [← eD0,wrap_u64,wrap_u64];omega
    clear eD0;have S1:=aE (NS.out (D % 4294967296) (D / 9223372036854775808) hD2);have S2:=aE (OS.out (D % 4294967296));have S3:=aE (US.out (D % 4294967296) (by omega));have S4:=aE (QL2.out (D % 4294967296));have e3:((D % 4294967296:Nat):Int) = (D:Int) % 4294967296:=by omega
    have e4:((D / 9223372036854775808:Nat):Int) = (D:Int) / 9223372036854775808:=by omega
    rw [e3] at S2;have E4:=aE e4;have H1D:=aE hD1;clear hkl hy hy0 kr NS OS US hD1 hD2 e3 e4
    go_wp2_with fail
    go_roundg (n - (k + 1))
    case measure=>omega
    case rel=>exact ⟨k + 1,D / 9223372036854775808,q.set k (D % 4294967296),by omega,ao _,by go_num,by rw [E4.out],H1D.out,S3.out,S4.out,S1.out,S2.out,HB.out.setCell (by simp) _⟩
  ·
   obtain rfl:k = n:=by omega
   have V:Hid (nv q = nv a - nv b):=aE (by
    have h:=QV.out;rw [bc (by rw [LA.out];exact ao _),bc (by rw [LB.out];exact hmn),bc (by rw [QL.out];exact ao _)] at h;have h2:=mi HQ.out;rw [QL.out] at h2;exact I4 h HLE.out h2 hb1)
   have TL:Hid (dO q≤k):=aE (by rw [← QL.out];exact iC q);have cT:=jE _ k k q wr (by omega) (HO.out.mag HQ.out)
   go_wp2_with fail
   refine aR cT ?_;rintro _ _ ⟨rfl,rfl⟩
   go_wp2_with fail
   go_ret
   exact ⟨⟨HB.out,_,_,_,fB q,rfl,HO.out.Dw rfl,jw HQ.out,dK _,by rw [dP,V.out]⟩,_,_,_,rfl,TL.out⟩
theorem dY.push {l:List Nat} (h:dY l) {x:Nat} (hx:x < 4294967296):dY (l ++ [x]):=fun y hy=>by
 rcases bh.1 hy with hy | hy
 · exact h y hy
 · rw [ar.1 hy];exact hx
theorem JA (l:List Nat):∀ u∈us l,u.oneCell' = true:=by
 intro u hu;unfold us at hu;obtain ⟨x,_,rfl⟩:=da.1 hu;rfl
variable {z:Int}
theorem XL {w:World} {b:Nat} (hb:w.heap.size = b) {x:Nat} (hz:((x:Nat):Int) = z):Rd (w.alloc (.cells #[.int .u32 z] 76)) 1 (some ⟨b,0,none⟩) 1 (us [x]):=by
 subst hb;subst hz;exact Ht w 1 1 _ _ rfl
theorem Ko (l:List Nat) (x:Nat):nv (l ++ [x]) = nv l + 4294967296 ^ l.length * x:=by rw [QJ];simp [nv]
theorem Dq {q:List Nat} (u:dY q) (h:q≠[]→4294967296 ^ (q.length - 1)≤nv q):jF q:=by
 unfold jF;have h1:=iC q;rcases aM (dO q) q.length with h2 | h2
 · have h3:=h (by intro e;rw [e] at h2;simp at h2);have h4:=mi (jw u);rw [dP,ni] at h4;have h5:=bq (n:=4294967296) (by omega) (show dO q≤q.length - 1 by omega);omega
 · omega
theorem afi (n:Nat) (hn:n≤4398046511104) (w:World):(Instr.makeSlice 68 (.int .i64 0) (.int .i64 (n:Int))).run aD w = .ok (.slice (some ⟨w.heap.size,0,none⟩) 0 n) (w.alloc (.cells (madeCells #[.int .u32 0] n) 76)):=by
 obtain ⟨i,hi,hzz⟩:=Option.map_eq_some_iff.1 fJ;simp only [Prod.mk.injEq] at hzz;obtain ⟨hz,hs,hb⟩:=hzz;have hr:=run_make (P:=aD) w 68 76 i _ Tryz.underlying68 hi hz .i64 .i64 0 n (Int.le_refl _) (by omega) (by rw [hb];omega) (by omega);simp only [Int.toNat_zero,Int.toNat_natCast,hs,bX] at hr;exact hr
theorem Pn {w:World} (n:Nat) (hn:n≤4398046511104):Own (w.alloc (.cells (madeCells #[.int .u32 0] n) 76)) w.heap.size 76 1 (some ⟨w.heap.size,0,none⟩) 0 n (us []):=by
 have:=World.ownsRow_made w (e:=76) (base:=w.heap.size) (size:=1) (madeCells #[.int .u32 0] n) n (ao _) (by unfold maxLen;omega) (by rw [size_madeCells,bX]);exact this
theorem NC (A B:Option Addr) (n c m d:Nat) (a b:List Nat) (w:World) (hn:n≤2199023255552) (hmn:m≤n) (ha:bf w A n c a) (hb:bf w B m d b) (ta:jF a) (A0 B0:Option Addr) (n0 c0 m0 d0:Nat) (hsw:(A = A0∧n = n0∧c = c0∧B = B0∧m = m0∧d = d0)∨(m < n∧B = A0∧m = n0∧d = c0∧A = B0∧n = m0∧c = d0)) :
 Calls aD 159 #[.slice A0 n0 c0,.slice B0 m0 d0] w (Gp w fun w' r=>MV w' r (nv a + nv b)):=by
 have H1:=aE ha.1;have H2:=aE hb.1;have UA:=aE ha.2.2;have UB:=aE hb.2.2;have LA:=aE ha.len;have LB:=aE hb.len;have TA:=aE ta;clear ha hb ta;have hmk:=afi (n + 1) (by omega);simp only [show ((n + 1:Nat):Int) = (n:Int) + 1 from rfl] at hmk;have M0:Hid (Own (w.alloc (.cells (madeCells #[.int .u32 0] (n + 1)) 76)) w.heap.size 76 1 (some ⟨w.heap.size,0,none⟩) 0 (n + 1) (us [])):=aE (Pn (n + 1) (by omega));rcases hsw with ⟨rfl,rfl,rfl,rfl,rfl,rfl⟩ | ⟨hlt,rfl,rfl,rfl,rfl,rfl,rfl⟩;have hc:¬ (n:Int) < (m:Int):=by omega
 rotate_left
 have hc:(m:Int) < (n:Int):=by omega
 all_goals
  go_enter Tryz.func159,Tryz.ntmps159
  go_wp2_with fail
  go_loopg [5,6,22] n (fun g ov cv iv wr=>∃ (k cy:Nat) (C:Option Addr) (c':Nat) (q:List Nat),k≤n∧n - k≤g∧iv = .int .i64 (k:Int)∧cv = .int .u64 (cy:Int)∧cy≤1∧ov = .slice C k c'∧dY q∧Own wr w.heap.size 76 1 C k c' (us q)∧nv q + cy * 4294967296 ^ k = nv (a.take k) + nv (b.take k)∧Below w.heap.size w wr)
  case atStart=>exact ⟨0,0,_,_,[],bR _,by omega,rfl,rfl,by omega,rfl,dY.nil,M0.out,by simp [nv],(Below.refl _ _).alloc (ao _) _⟩
  case round =>
   clear M0;obtain ⟨k,cy,C,c',q,hk,hg,rfl,rfl,hcy,rfl,hq,ho,hval,hb⟩:=hrel;have HB:=aE hb;have HO:=aE ho;have HQ:=aE hq;have HV:=aE hval;have LQ:=aE ho.jZ;have kr:=bg.of_below hb (ao _);have hzr:=hb.size;clear hb ho hq hval
   by_cases hkn:k < n
   ·
    obtain ⟨ad,hA,-,ca⟩:=(H1.out.keep kr).fG hkn;subst hA;have hx:=UA.out.at k;have hy:=UB.out.at k;have ST:Hid (∀ y,b.getD k 0 = y→∀ cy' v,cy + a.getD k 0 + y = v + 4294967296 * cy'→nv (q ++ [v]) + cy' * 4294967296 ^ (k + 1) = nv (a.take (k + 1)) + nv (b.take (k + 1))):=aE fun y hy cy' v hv=>by
     rw [Ko,LQ.out,bC a,bC b,hy,bm];exact BH HV.out hv
    generalize a.getD k 0 = x at *
    by_cases hkm:k < m
    · obtain ⟨ae,hE,-,cb⟩:=(H2.out.keep kr).fG hkm;subst hE;have S5:=aE (ST.out _ rfl ((cy + x + b.getD k 0) / 4294967296) ((cy + x + b.getD k 0) % 4294967296) (by omega));generalize b.getD k 0 = y at *;have e3:Hid ((((cy + x + y) % 4294967296:Nat):Int) = ((cy:Int) + (x:Int) + (y:Int)) % 4294967296):=aE (by omega);have E4:Hid ((((cy + x + y) / 4294967296:Nat):Int) = ((cy:Int) + (x:Int) + (y:Int)) / 4294967296):=aE (by omega);have S3:Hid (dY (q ++ [(cy + x + y) % 4294967296])):=aE (HQ.out.push (by omega));clear kr ST
      go_wp2_with (at_builtin;refine ui _ rfl (.tmp 42) (.tmp 45) 68 rfl w.heap.size 76 (.int .u32 0) 1 4 Tryz.underlying68 fJ rfl (by decide) C k c' (us q) rfl (HO.out.alloc _) (some ⟨wr.heap.size,0,none⟩) 1 1 (us [(cy + x + y) % 4294967296]) rfl (XL (by rfl) e3.out) (JA _) (by omega) (by unfold maxLen;omega) (by simp;omega) ?_;intro C2 c2 w2 ho2 hg2 hb2;have O2:Hid (Own w2 w.heap.size 76 1 C2 (k + 1) c2 (us (q ++ [(cy + x + y) % 4294967296]))):=aE (by rw [QI];exact ho2);have B2:Hid (Below w.heap.size w w2):=aE ((HB.out.alloc hzr _).grown hg2 (by simp;omega) (fun k hk=>(HO.out.lt hk).1));clear ho2 hg2 hb2)
      go_roundg (n - (k + 1))
      case measure=>omega
      case rel=>exact ⟨k + 1,(cy + x + y) / 4294967296,_,_,_,by omega,ao _,by go_num,by rw [E4.out],by omega,rfl,S3.out,O2.out,S5.out,B2.out⟩
    · have hb0:b.getD k 0 = 0:=by rw [aq,aw (by rw [LB.out];omega)];rfl
      have S5:=aE (ST.out 0 hb0 ((cy + x) / 4294967296) ((cy + x) % 4294967296) (by omega));clear hb0;have e3:Hid ((((cy + x) % 4294967296:Nat):Int) = ((cy:Int) + (x:Int)) % 4294967296):=aE (by omega);have E4:Hid ((((cy + x) / 4294967296:Nat):Int) = ((cy:Int) + (x:Int)) / 4294967296):=aE (by omega);have S3:Hid (dY (q ++ [(cy + x) % 4294967296])):=aE (HQ.out.push (by omega));clear kr ST
      go_wp2_with (at_builtin;refine ui _ rfl (.tmp 42) (.tmp 45) 68 rfl w.heap.size 76 (.int .u32 0) 1 4 Tryz.underlying68 fJ rfl (by decide) C k c' (us q) rfl (HO.out.alloc _) (some ⟨wr.heap.size,0,none⟩) 1 1 (us [(cy + x) % 4294967296]) rfl (XL (by rfl) e3.out) (JA _) (by omega) (by unfold maxLen;omega) (by simp;omega) ?_;intro C2 c2 w2 ho2 hg2 hb2;have O2:Hid (Own w2 w.heap.size 76 1 C2 (k + 1) c2 (us (q ++ [(cy + x) % 4294967296]))):=aE (by rw [QI];exact ho2);have B2:Hid (Below w.heap.size w w2):=aE ((HB.out.alloc hzr _).grown hg2 (by simp;omega) (fun k hk=>(HO.out.lt hk).1));clear ho2 hg2 hb2)
      go_roundg (n - (k + 1))
      case measure=>omega
      case rel=>exact ⟨k + 1,(cy + x) / 4294967296,_,_,_,by omega,ao _,by go_num,by rw [E4.out],by omega,rfl,S3.out,O2.out,S5.out,B2.out⟩
   ·
    obtain rfl:k = n:=by omega
    have V:nv q + cy * 4294967296 ^ k = nv a + nv b:=by
     have h2:=HV.out;rwa [bc (l:=a) (by rw [LA.out];exact ao _),bc (l:=b) (by rw [LB.out];omega)] at h2
    by_cases hc0:cy = 0
    · subst hc0;have TQ:Hid (jF q):=aE (Dq HQ.out fun hne=>by
       have h0:0 < q.length:=List.length_pos_iff.2 hne;have:=TA.out.low (by rw [LA.out,← LQ.out];exact h0);rw [LA.out] at this;rw [LQ.out];omega)
      have VQ:Hid (nv q = nv a + nv b):=aE (by omega);clear kr V
      go_wp2_with fail
      go_ret
      exact ⟨HB.out,_,rfl,_,_,_,_,rfl,HO.out.mag HQ.out,TQ.out,VQ.out⟩
    · obtain rfl:cy = 1:=by omega
      have TQ:Hid (jF (q ++ [1])):=aE (Dq (HQ.out.push (by omega)) fun hne=>by
       rw [Ko,LQ.out,aL,LQ.out];simp)
      have VQ:Hid (nv (q ++ [1]) = nv a + nv b):=aE (by rw [Ko,LQ.out];omega);clear kr V
      go_wp2_with (at_builtin;refine ui _ rfl (.tmp 52) (.tmp 55) 68 rfl w.heap.size 76 (.int .u32 0) 1 4 Tryz.underlying68 fJ rfl (by decide) C k c' (us q) rfl (HO.out.alloc _) (some ⟨wr.heap.size,0,none⟩) 1 1 (us [1]) rfl (XL (by rfl) rfl) (JA _) (by omega) (by unfold maxLen;omega) (by simp;omega) ?_;intro C2 c2 w2 ho2 hg2 hb2;have O2:Hid (Own w2 w.heap.size 76 1 C2 (k + 1) c2 (us (q ++ [1]))):=aE (by rw [QI];exact ho2);have B2:Hid (Below w.heap.size w w2):=aE ((HB.out.alloc hzr _).grown hg2 (by simp;omega) (fun k hk=>(HO.out.lt hk).1));clear ho2 hg2 hb2)
      go_ret
      exact ⟨B2.out,_,rfl,_,_,_,_,rfl,O2.out.mag (HQ.out.push (by omega)),TQ.out,VQ.out⟩
attribute [local go_sem ↓] eT eV
theorem QO (A B:Option Addr) (n c m d:Nat) (a b:List Nat) (w:World) (hn:n≤2199023255552) (hm:m≤2199023255552) (ha:bf w A n c a) (hb:bf w B m d b) :
 Calls aD 162 #[.slice A n c,.slice B m d] w fun e w'=>Ad w (nv a * nv b) e w'∧∃ C k c',e = .returned (.slice C k c')∧k≤n + m:=by
 have LA:=aE ha.len;have LB:=aE hb.len;have H1:=aE ha.1;have H2:=aE hb.1;have UA:=aE ha.2.2;have UB:=aE hb.2.2;clear ha hb
 by_cases hz:n = 0∨m = 0
 ·
  have V0:Hid (nv a * nv b = 0):=aE (by
   rcases hz with h | h
   · rw [d8 (LA.out.trans h)];simp [nv]
   · rw [d8 (LB.out.trans h)];simp [nv])
  rcases fY n with hn0 | hn0
  ·
   have d1:((n:Int) == 0) = true:=by simp;omega
   clear hz hn0
   go_enter Tryz.func162,Tryz.ntmps162
   go_wp2_with fail
   go_ret
   exact ⟨⟨Below.refl _ _,_,_,_,[],rfl,Own.nil _ _ _ _,dY.nil,jF.nil,V0.out.symm⟩,_,_,_,rfl,bR _⟩
  ·
   have hm0:m = 0:=by omega
   subst hm0;have d1:((n:Int) == 0) = false:=by simp;omega
   clear hz
   go_enter Tryz.func162,Tryz.ntmps162
   go_wp2_with fail
   go_ret
   exact ⟨⟨Below.refl _ _,_,_,_,[],rfl,Own.nil _ _ _ _,dY.nil,jF.nil,V0.out.symm⟩,_,_,_,rfl,bR _⟩
 have hn0:0 < n:=by omega
 have hm0:0 < m:=by omega
 clear hz;have d1:((n:Int) == 0) = false:=by simp;omega
 have d2:((m:Int) == 0) = false:=by simp;omega
 have hmk:=run_make_row' (P:=aD) 68 76 (.int .u32 0) 4 Tryz.underlying68 fJ rfl .i64 .i64 (n + m) (by omega) (by omega);simp only [Int.natCast_add] at hmk;have M0:Hid (Own (w.alloc (.cells (madeCells #[.int .u32 0] (n + m)) 76)) w.heap.size 76 1 (some ⟨w.heap.size,0,none⟩) (n + m) (n + m) (us (bk (n + m) 0))):=aE (iw rfl (n + m) (by unfold maxLen;omega) (ao _))
 go_enter Tryz.func162,Tryz.ntmps162
 go_wp2_with fail
 go_loopg [27] n (fun g i wr=>∃ (k:Nat) (q:List Nat),k≤n∧n - k≤g∧i = .int .i64 (k:Int)∧dY q∧q.length = n + m∧nv q = nv (a.take k) * nv b∧(∀ j,k + m≤j→q.getD j 0 = 0)∧Own wr w.heap.size 76 1 (some ⟨w.heap.size,0,none⟩) (n + m) (n + m) (us q)∧Below w.heap.size w wr)
 case atStart=>exact ⟨0,bk (n + m) 0,bR _,by omega,rfl,dY.zero _,by simp,by rw [jo];simp [nv],(fun j hj=>by rw [aq,bB];split <;> rfl),M0.out,(Below.refl _ _).alloc (ao _) _⟩
 case round =>
  clear M0;obtain ⟨i,q,hi,hg,rfl,hq,hql,hqv,hqz,ho,hb⟩:=hrel;have HB:=aE hb;have HO:=aE ho;have HQ:=aE hq;have QL:=aE hql;have QV:=aE hqv;have QZ:=aE hqz;clear hb ho hq hql hqv hqz
  by_cases hin:i < n
  ·
   obtain ⟨ad,hA,hil,ca⟩:=H1.out.fG hin;subst hA;have car0:=(bg.of_below HB.out (ao _)) _ _ ca;have hx:=UA.out.at i;have OUT:Hid (∀ (q1:List Nat) (c1:Nat),q1.length = n + m→nv q1 + c1 * (4294967296 ^ i * 4294967296 ^ m) = nv q + a.getD i 0 * nv b * 4294967296 ^ i→(∀ j,i + m≤j→q1.getD j 0 = 0)→nv (q1.set (i + m) c1) = nv (a.take (i + 1)) * nv b∧∀ j,i + 1 + m≤j→(q1.set (i + m) c1).getD j 0 = 0):=aE fun q1 c1 hl hv hz=>by
    have h1:=pF (l:=q1) (p:=i + m) (v:=c1) (by omega);rw [hz (i + m) (by omega),kd,kf,a8,cj _ c1,hv,QV.out] at h1;refine ⟨?_,fun j hj=>by rw [aQ (by omega)];exact hz j (by omega)⟩;rw [h1,bC,eI,cj (4294967296 ^ i) (a.getD i 0),fX,fX,cj (nv b)]
   generalize a.getD i 0 = x at *
   go_wp2_with fail
   go_loopg [8,34] m (fun g cr ki wr=>∃ (k c1:Nat) (q1:List Nat),k≤m∧m - k≤g∧ki = .int .i64 (k:Int)∧cr = .int .u64 (c1:Int)∧c1 < 4294967296∧dY q1∧q1.length = n + m∧nv q1 + c1 * (4294967296 ^ i * 4294967296 ^ k) = nv q + x * nv (b.take k) * 4294967296 ^ i∧(∀ j,i + m≤j→q1.getD j 0 = 0)∧Own wr w.heap.size 76 1 (some ⟨w.heap.size,0,none⟩) (n + m) (n + m) (us q1)∧Below w.heap.size w wr)
   case atStart=>exact ⟨0,0,q,bR _,by omega,rfl,rfl,by omega,HQ.out,QL.out,by simp [nv],QZ.out,HO.out,HB.out⟩
   case round =>
    clear HB HO HQ QL QZ;obtain ⟨k,c1,q1,hk,hgk,rfl,rfl,hc1,hq,hql,hqv,hqz,ho,hb⟩:=hrel
    rename World=>wr
    have HB:=aE hb;have HO:=aE ho;have HQ:=aE hq;have QL:=aE hql;have QV1:=aE hqv;have QZ:=aE hqz;have hzr:=hb.size;have kr:=bg.of_below hb (ao _);clear hb ho hq hql hqv hqz
    by_cases hkm:k < m
    ·
     obtain ⟨ae,hE,hkl,cb⟩:=H2.out.fG hkm;subst hE;have hy:=UB.out.at k;have ho1:=HQ.out.at (i + k);have co:=HO.out.gB (j:=i + k) (by omega);have fo:wr.frozen? ⟨w.heap.size,i + k,none⟩ = false:=HO.out.frozen (i + k);have car:=kr _ _ ca;have cbr:=kr _ _ cb;have hik:((i:Int) + (k:Int)).toNat = i + k:=by omega
     have ST:Hid (∀ v c',q1.getD (i + k) 0 + c1 + x * b.getD k 0 = v + 4294967296 * c'→nv (q1.set (i + k) v) + c' * (4294967296 ^ i * 4294967296 ^ (k + 1)) = nv q + x * nv (b.take (k + 1)) * 4294967296 ^ i):=aE fun v c' h=>by
      have h1:=pF (l:=q1) (p:=i + k) (v:=v) (by rw [QL.out];omega);rw [a8] at h1;rw [bC,bm];exact OL (i:=0) QV1.out h1 h
     generalize q1.getD (i + k) 0 = o at *;generalize b.getD k 0 = y at *;obtain ⟨hM1,hM2⟩:=Oy ho1 hc1 hx hy;obtain ⟨M,hM⟩:∃ M:Nat,M = x * y:=⟨_,rfl⟩;have eM:(x:Int) * (y:Int) = (M:Int):=by rw [hM,gD]
     rw [← hM] at hM1 hM2 ST;have S1:=aE (ST.out ((o + c1 + M) % 4294967296) ((o + c1 + M) / 4294967296) (by omega));have S3:Hid (dY (q1.set (i + k) ((o + c1 + M) % 4294967296))):=aE (HQ.out.set _ (by omega));have S4:Hid ((q1.set (i + k) ((o + c1 + M) % 4294967296)).length = n + m):=aE (by rw [bj];exact QL.out);have S5:Hid (∀ j,i + m≤j→(q1.set (i + k) ((o + c1 + M) % 4294967296)).getD j 0 = 0):=aE fun j hj=>by rw [aQ (by omega)];exact QZ.out j hj
     clear hkl kr hM ST hil;have S2:=HO.out.eH (i + k) ((o + c1 + M) % 4294967296);have e5:(((o + c1 + M) % 4294967296:Nat):Int) = ((c1:Int) + ((M:Int) + (o:Int))) % 4294967296:=by omega
     rw [e5] at S2;have E6:Hid ((((o + c1 + M) / 4294967296:Nat):Int) = ((c1:Int) + ((M:Int) + (o:Int))) / 4294967296):=aE (by omega);have S2:=aE S2;clear e5
     go_wp2_with fail
     go_roundg (m - (k + 1))
     case measure=>omega
     case rel=>exact ⟨k + 1,(o + c1 + M) / 4294967296,q1.set (i + k) ((o + c1 + M) % 4294967296),by omega,ao _,by go_num,by rw [E6.out],hM2,S3.out,S4.out,S1.out,S5.out,S2.out,HB.out.setCell (by simp) _⟩
    · obtain rfl:k = m:=by omega
      have him:((i:Int) + (k:Int)).toNat = i + k:=by omega
      have cz:=HO.out.gB (j:=i + k) (by omega);have fz:wr.frozen? ⟨w.heap.size,i + k,none⟩ = false:=HO.out.frozen (i + k);have T1:=aE (OUT.out q1 c1 QL.out (by have:=QV1.out;rwa [bc (by rw [LB.out];exact ao _)] at this) QZ.out);have T2:=aE (HO.out.eH (i + k) c1);have T3:Hid (dY (q1.set (i + k) c1)):=aE (HQ.out.set _ hc1);have T4:Hid ((q1.set (i + k) c1).length = n + k):=aE (by rw [bj];exact QL.out);clear kr
      go_wp2_with fail
      go_roundg (n - (i + 1))
      case measure=>omega
      case rel=>exact ⟨i + 1,q1.set (i + k) c1,by omega,ao _,by go_num,T3.out,T4.out,T1.out.1,T1.out.2,T2.out,HB.out.setCell (by simp) _⟩
  ·
   obtain rfl:i = n:=by omega
   have V:Hid (nv q = nv a * nv b):=aE (by have:=QV.out;rwa [bc (by rw [LA.out];exact ao _)] at this);have TL:Hid (dO q≤i + m):=aE (by rw [← QL.out];exact iC q);have cT:=jE _ (i + m) (i + m) q wr (by omega) (HO.out.mag HQ.out)
   go_wp2_with fail
   refine aR cT ?_;rintro _ _ ⟨rfl,rfl⟩
   go_wp2_with fail
   go_ret
   exact ⟨⟨HB.out,_,_,_,fB q,rfl,HO.out.Dw rfl,jw HQ.out,dK _,by rw [dP,V.out]⟩,_,_,_,rfl,TL.out⟩
theorem aas (v u:Value) (x y:Nat) (w:World) (hx:MV w v x) (hy:MV w u y) (hl:wl x≤2199023255552) (hl':wl y≤2199023255552):Calls aD 159 #[v,u] w (Gp w fun w' r=>MV w' r (x + y)):=by
 obtain ⟨A,n,c,a,rfl,ha,ta,va⟩:=hx;obtain ⟨B,m,d,b,rfl,hb,tb,vb⟩:=hy;have hn:=ta.lY ha;have hm:=tb.lY hb;rw [va] at hn;rw [vb] at hm;rw [← va,← vb];rcases aM n m with h | h
 · rw [Nat.add_comm];exact NC B A m d n c b a w (by omega) (by omega) hb ha tb A B n c m d (.inr ⟨h,rfl,rfl,rfl,rfl,rfl,rfl⟩)
 · exact NC A B n c m d a b w (by omega) h ha hb ta A B n c m d (.inl ⟨rfl,rfl,rfl,rfl,rfl,rfl⟩)
theorem aad (v u:Value) (x y:Nat) (w:World) (hx:MV w v x) (hy:MV w u y) (hle:y≤x) (hl:wl x≤4398046511104):Calls aD 160 #[v,u] w (Gp w fun w' r=>MV w' r (x - y)):=by
 obtain ⟨A,n,c,a,rfl,ha,ta,va⟩:=hx;obtain ⟨B,m,d,b,rfl,hb,tb,vb⟩:=hy;have hn:=ta.lY ha;have hm:=tb.lY hb;have:=iF hle;refine (PK A B n c m d a b w (by rw [hn,va];exact hl) (by rw [hm,vb];omega) ha hb tb (by rw [va,vb];exact hle)).mono ?_;rintro e w' ⟨⟨h1,C,k,c',q,h2,h3,h4,h5,h6⟩,-⟩;exact ⟨h1,_,h2,C,k,c',q,rfl,h3.mag h4,h5,by rw [h6,va,vb]⟩
theorem ZB (v u:Value) (x y:Nat) (w:World) (hx:MV w v x) (hy:MV w u y) (hl:wl x≤2199023255552) (hl':wl y≤2199023255552):Calls aD 162 #[v,u] w (Gp w fun w' r=>MV w' r (x * y)):=by
 obtain ⟨A,n,c,a,rfl,ha,ta,va⟩:=hx;obtain ⟨B,m,d,b,rfl,hb,tb,vb⟩:=hy;have hn:=ta.lY ha;have hm:=tb.lY hb;refine (QO A B n c m d a b w (by rw [hn,va];exact hl) (by rw [hm,vb];exact hl') ha hb).mono ?_;rintro e w' ⟨⟨h1,C,k,c',q,h2,h3,h4,h5,h6⟩,-⟩;exact ⟨h1,_,h2,C,k,c',q,rfl,h3.mag h4,h5,by rw [h6,va,vb]⟩
attribute [local go_sem ↓] eT eV
theorem NQ (A:Option Addr) (n c:Nat) (l:List Nat) (s:Nat) (w:World) (hn:n≤2199023255552) (hs:s < 32) (h:bf w A n c l) :
 Calls aD 198 #[.slice A n c,.int .i64 (s:Int)] w (Xz w n (nv l * 2 ^ s)):=by
 have HL:=aE h.len;have H1:=aE h.1;have UL:=aE h.2.2;clear h;have hmk:=run_make_row' (P:=aD) 68 76 (.int .u32 0) 4 Tryz.underlying68 fJ rfl .i64 .i64 (n + 1) (by omega) (by omega);simp only [show ((n + 1:Nat):Int) = (n:Int) + 1 from rfl] at hmk;have M0:Hid (Own (w.alloc (.cells (madeCells #[.int .u32 0] (n + 1)) 76)) w.heap.size 76 1 (some ⟨w.heap.size,0,none⟩) (n + 1) (n + 1) (us (bk (n + 1) 0))):=aE (iw rfl (n + 1) (by unfold maxLen;omega) (ao _))
 go_enter Tryz.func198,Tryz.ntmps198
 go_wp2_with fail
 go_loopg [15] n (fun g i wr=>∃ (k:Nat) (q:List Nat),k≤n∧n - k≤g∧i = .int .i64 (k:Int)∧dY q∧q.length = n + 1∧nv q = nv (l.take k) * 2 ^ s∧(∀ j,k < j→q.getD j 0 = 0)∧q.getD k 0 < 2 ^ s∧Own wr w.heap.size 76 1 (some ⟨w.heap.size,0,none⟩) (n + 1) (n + 1) (us q)∧Below w.heap.size w wr)
 case atStart=>exact ⟨0,bk (n + 1) 0,bR _,by omega,rfl,dY.zero _,by simp,by rw [jo];simp [nv],(fun j hj=>by rw [aq,bB];split <;> rfl),(by rw [aq,bB];split <;> exact cV (by omega)),M0.out,(Below.refl _ _).alloc (ao _) _⟩
 case round =>
  clear M0;obtain ⟨k,q,hk,hg,rfl,hq,hql,hqv,hqz,hqt,ho,hb⟩:=hrel;have HB:=aE hb;have HO:=aE ho;have HQ:=aE hq;have QL:=aE hql;have QV:=aE hqv;have QZ:=aE hqz;have hzr:=hb.size;have kr:=bg.of_below hb (ao _);clear hb ho hq hql hqv hqz
  by_cases hkn:k < n
  ·
   obtain ⟨ad,rfl,hkl,ca⟩:=(H1.out.keep kr).fG hkn;have hx:=UL.out.at k;have co:=HO.out.gB (j:=k) (by omega);have fo:wr.frozen? ⟨w.heap.size,k,none⟩ = false:=HO.out.frozen k;have fo1:wr.frozen? ⟨w.heap.size,k + 1,none⟩ = false:=HO.out.frozen (k + 1);have co1:=HO.out.gB (j:=k + 1) (by omega);rw [QZ.out (k + 1) (by omega)] at co1;have ho1:=HQ.out.at k;have EV:Hid (nv (l.take (k + 1)) = nv (l.take k) + 4294967296 ^ k * l.getD k 0):=aE (bC l k);have NS:Hid (∀ v,nv (q.set k v) + 4294967296 ^ k * q.getD k 0 = nv q + 4294967296 ^ k * v):=aE fun v=>pF (by rw [QL.out];omega)
   have NT:Hid (∀ v u,nv ((q.set k v).set (k + 1) u) + 4294967296 ^ k * 4294967296 * 0 = nv (q.set k v) + 4294967296 ^ k * 4294967296 * u):=aE fun v u=>by
    have:=pF (l:=q.set k v) (p:=k + 1) (v:=u) (by rw [bj,QL.out];omega);rw [aQ (by omega),QZ.out (k + 1) (by omega),bm] at this;exact this
   generalize l.getD k 0 = x at *;generalize hog:q.getD k 0 = o at *;obtain ⟨hX1,hX2⟩:=YS hx hs;obtain ⟨hO1,hO2⟩:=Zj (a:=x) hqt hs;obtain ⟨X,hX⟩:∃ X:Nat,X = x * 2 ^ s:=⟨_,rfl⟩;have eX:(x:Int) * 2 ^ s = (X:Int):=by rw [hX,gD,gC];rfl
   have SS:Hid (∀ N1 N2 lo hi,N1 + 4294967296 ^ k * o = nv q + 4294967296 ^ k * (o + lo)→N2 + 4294967296 ^ k * 4294967296 * 0 = N1 + 4294967296 ^ k * 4294967296 * hi→lo + 4294967296 * hi = X→N2 = nv (l.take (k + 1)) * 2 ^ s):=aE fun N1 N2 lo hi h1 h2 h3=>by
    rw [EV.out];exact EM (X:=X) QV.out h1 h2 (by rw [h3,hX])
   rw [← hX] at hX1 hX2 hO1 hO2;have eO:bits .or .u32 (o:Int) ((X:Int) % 4294967296) = ((o + X % 4294967296:Nat):Int):=by
    have h:=u32_or_nat o (X % 4294967296) ho1 (by omega);rw [hO1] at h;rw [← h];congr 1
   have VV:=aE (SS.out _ _ (X % 4294967296) (X / 4294967296) (NS.out _) (NT.out (o + X % 4294967296) (X / 4294967296)) (by omega));have UQ:Hid (dY ((q.set k (o + X % 4294967296)).set (k + 1) (X / 4294967296))):=aE ((HQ.out.set _ hO2).set _ (by omega));have LQ:Hid (((q.set k (o + X % 4294967296)).set (k + 1) (X / 4294967296)).length = n + 1):=aE (by rw [bj,bj];exact QL.out);have ZQ:Hid (∀ j,k + 1 < j→((q.set k (o + X % 4294967296)).set (k + 1) (X / 4294967296)).getD j 0 = 0):=aE fun j hj=>by
    rw [aQ (by omega),aQ (by omega)];exact QZ.out j (by omega)
   have TQ:Hid (((q.set k (o + X % 4294967296)).set (k + 1) (X / 4294967296)).getD (k + 1) 0 < 2 ^ s):=aE (by
    rw [iE (by rw [bj,QL.out];omega)];exact hX2)
   have e7:((X / 4294967296:Nat):Int) = (X:Int) / 4294967296:=by omega
   have OQ:=(HO.out.eH k (o + X % 4294967296)).eH (k + 1) (X / 4294967296);rw [e7] at OQ;have OQ:=aE OQ;have hXi:(X:Int) < 18446744073709551616:=by omega
   have hOi:((o + X % 4294967296:Nat):Int) < 4294967296:=by omega
   clear hkl kr hX NS NT SS EV hO1 hqt hX2 e7 hog;generalize hW:o + X % 4294967296 = W at *;clear hW
   go_wp2_with fail
   go_roundg (n - (k + 1))
   case measure=>omega
   case rel=>exact ⟨k + 1,_,by omega,ao _,by go_num,UQ.out,LQ.out,VV.out,ZQ.out,TQ.out,OQ.out,(HB.out.setCell (by simp) _).setCell (by simp) _⟩
  · obtain rfl:k = n:=by omega
    have V:Hid (nv q = nv l * 2 ^ s):=aE (by have:=QV.out;rwa [bc (by rw [HL.out];exact ao _)] at this);clear kr
    go_wp2_with fail
    go_ret
    exact ⟨HB.out,q,rfl,HO.out,HQ.out,QL.out,V.out⟩
def Ut (w:World) (K N d:Nat) (e:Ending) (w':World):Prop :=
 Below w.heap.size w w'∧∃ C n c q C2 n2 c2 r,e = .returned (.tuple #[.slice C n c,.slice C2 n2 c2])∧bf w' C n c q∧jF q∧nv q = N / d∧n≤K∧bf w' C2 n2 c2 r∧jF r∧nv r = N % d
theorem Wp (A:Option Addr) (n c:Nat) (l:List Nat) (d:Nat) (w:World) (hn:n≤4398046511104) (h:bf w A n c l) (hd0:0 < d) (hd:d < 4294967296) :
 Calls aD 196 #[.slice A n c,.int .u32 (d:Int)] w (Ut w n (nv l) d):=by
 have HL:=aE h.len;have H1:=aE h.1;have HU:=aE h.2.2;clear h;have hmk:=run_make_row' (P:=aD) 68 76 (.int .u32 0) 4 Tryz.underlying68 fJ rfl .i64 .i64 n (by omega) (by omega);have M0:Hid (Own (w.alloc (.cells (madeCells #[.int .u32 0] n) 76)) w.heap.size 76 1 (some ⟨w.heap.size,0,none⟩) n n (us (bk n 0))):=aE (iw rfl n (by unfold maxLen;omega) (ao _))
 go_enter Tryz.func196,Tryz.ntmps196
 go_wp2_with fail
 go_loopg [7,8] n (fun g r i wr=>∃ (k R:Nat) (q:List Nat),k≤n∧k = g∧i = .int .i64 ((k:Int) - 1)∧r = .int .u64 (R:Int)∧R = nv (l.drop k) % d∧dY q∧q.length = n∧nv (q.drop k) = nv (l.drop k) / d∧Own wr w.heap.size 76 1 (some ⟨w.heap.size,0,none⟩) n n (us q)∧Below w.heap.size w wr)
 case atStart=>exact ⟨n,0,bk n 0,ao _,rfl,rfl,rfl,(by rw [fg (by rw [HL.out];exact ao _)];simp [nv]),dY.zero n,by simp,(by rw [fg (l:=l) (by rw [HL.out];exact ao _),fg (by simp)];simp [nv]),M0.out,(Below.refl _ _).alloc (ao _) _⟩
 case round =>
  clear M0;obtain ⟨k,R,q,hk,rfl,rfl,rfl,hR,hq,hql,hqv,ho,hb⟩:=hrel;have HB:=aE hb;have HO:=aE ho;have HQ:=aE hq;have QL:=aE hql;have QV:=aE hqv;have hzr:=hb.size;have kr:=bg.of_below hb (ao _);have hRd:R < d:=by rw [hR];exact iz _ hd0
  have HR:=aE hR;clear hb ho hq hql hqv hR
  by_cases hk0:k = 0
  ·
   subst hk0;have TL:Hid (dO q≤n):=aE (by rw [← QL.out];exact iC q);have V:Hid (nv q = nv l / d):=aE (by have:=QV.out;rwa [ep,ep] at this);have RV:Hid (R = nv l % d):=aE (by have:=HR.out;rwa [ep] at this);have cT:=jE _ n n q wr (by omega) (HO.out.mag HQ.out)
   go_wp2_with fail
   refine aR cT ?_;rintro _ _ ⟨rfl,rfl⟩;have cW:=qA R wr (by omega)
   go_wp2_with fail
   refine aR cW ?_;rintro _ w3 ⟨hb3,C3,n3,c3,q3,rfl,hm3,ht3,hv3,hl3⟩;have HB3:=aE (HB.out.trans (hb3.mono hzr));have M3:=aE hm3;have T3:=aE ht3;have V3:=aE hv3;have MQ3:=aE (((HO.out.mag HQ.out).trim).keep (bg.of_below hb3 (ao _)));clear cW hb3 hm3 ht3 hv3
   go_wp2_with fail
   exact bodyPost_ret (v:=.tuple #[.slice (some ⟨w.heap.size,0,none⟩) (dO q) n,.slice C3 n3 c3]) (by simp [results,Tryz.results196,go_sem]) rfl ⟨HB3.out,_,_,_,fB q,_,_,_,q3,rfl,MQ3.out,dK _,by rw [dP,V.out],TL.out,M3.out,T3.out,by rw [V3.out,RV.out]⟩
  ·
   obtain ⟨ad,rfl,hkl,c0⟩:=(H1.out.keep kr).fG (by omega:k - 1 < n);have hi1:((k:Int) - 1).toNat = k - 1:=by omega
   have hm0:(0:Int)≤(k:Int) - 1:=by omega
   have hm1:(k:Int) - 1 < (n:Int):=by omega
   have hx:=HU.out.at (k - 1);have NX:Hid (nv (l.drop (k - 1)) = l.getD (k - 1) 0 + 4294967296 * nv (l.drop k)):=aE (by
    rw [eA hkl,nv,aq,a6 hkl,show k - 1 + 1 = k by omega];rfl)
   generalize l.getD (k - 1) 0 = x at *;have ho:=or_hi hx (ke hRd hd);have hD:x + 4294967296 * R < 18446744073709551616:=by omega
   have QS:Hid (nv ((q.set (k - 1) ((x + 4294967296 * R) / d)).drop (k - 1)) = nv (l.drop (k - 1)) / d∧(x + 4294967296 * R) % d = nv (l.drop (k - 1)) % d∧(x + 4294967296 * R) / d < 4294967296):=aE (by
    have h1:=MF (a:=x) (D:=nv (l.drop k)) hd0;rw [← HR.out,← NX.out] at h1;refine ⟨?_,h1.2.symm,word_lt hd0 hx hRd⟩;rw [rW (by rw [QL.out];omega),nv,show k - 1 + 1 = k by omega,QV.out,h1.1])
   have cq:=HO.out.gB (j:=k - 1) (by omega);have fq:wr.frozen? ⟨w.heap.size,k - 1,none⟩ = false:=HO.out.frozen (k - 1);have O2:=aE (HO.out.eH (k - 1) ((x + 4294967296 * R) / d));clear hkl kr;generalize hDD:x + 4294967296 * R = D at *;have hqd:D / d < 4294967296:=QS.out.2.2;have hmd:D % d < 4294967296:=ke (iz _ hd0) hd;clear hDD;have eQ:(D:Int) / (d:Int) = ((D / d:Nat):Int):=(jx D d).symm;have eM:(D:Int) % (d:Int) = ((D % d:Nat):Int):=(Int.natCast_emod D d).symm;generalize D / d = Q at *;generalize D % d = M at *;have UQ:Hid (dY (q.set (k - 1) Q)):=aE (HQ.out.set _ hqd)
   go_wp2_with fail
   go_roundg (k - 1)
   case measure=>omega
   case rel=>exact ⟨k - 1,M,q.set (k - 1) Q,by omega,rfl,by congr 1;omega,by rw [eM],QS.out.2.1,UQ.out,by rw [bj];exact QL.out,QS.out.1,O2.out,HB.out.setCell (by simp) _⟩
theorem WQ {x y:Nat} (hs:s < 32) (hx:x < 4294967296):x / 2 ^ s ||| (y * 2 ^ (32 - s) % 4294967296) = (x + 4294967296 * y) / 2 ^ s % 4294967296:=by
 have e32:(4294967296:Nat) = 2 ^ (32 - s) * 2 ^ s:=by rw [← a8,show 32 - s + s = 32 by omega]
 have h1:y * 2 ^ (32 - s) % 4294967296 = 2 ^ (32 - s) * (y % 2 ^ s):=by
  rw [cj y]
  conv=>lhs;arg 2;rw [e32]
  rw [Nat.mul_mod_mul_left]
 have h2:x / 2 ^ s < 2 ^ (32 - s):=by
  rw [Nat.div_lt_iff_lt_mul (cV (by omega)),← e32];exact hx
 have h3:(x + 4294967296 * y) / 2 ^ s = x / 2 ^ s + 2 ^ (32 - s) * y:=by
  have:4294967296 * y = 2 ^ s * (2 ^ (32 - s) * y):=by rw [e32,cj (2 ^ (32 - s)) (2 ^ s),fX]
  rw [this,Nat.add_mul_div_left _ _ (cV (by omega))]
 rw [h1,h3,Nat.or_comm,← Nat.two_pow_add_eq_or_of_lt h2];have h4:x / 2 ^ s + 2 ^ (32 - s) * y = (2 ^ (32 - s) * (y % 2 ^ s) + x / 2 ^ s) + 4294967296 * (y / 2 ^ s):=by
  have:=Nat.div_add_mod y (2 ^ s)
  conv=>lhs;rw [← this]
  rw [gx]
  conv=>rhs;rw [e32]
  rw [fX];omega
 have h5:y % 2 ^ s + 1≤2 ^ s:=iz _ (cV (by omega));have h6:=fR (2 ^ (32 - s)) h5;rw [← e32,gx,bX] at h6;rw [h4,Nat.add_mul_mod_self_left];exact (js (by omega)).symm
def acb (w:World) (n:Nat) (q:List Nat) (e:Ending) (w':World):Prop :=
 Below w.heap.size w w'∧e = .returned (.slice (some ⟨w.heap.size,0,none⟩) n n)∧Own w' w.heap.size 76 1 (some ⟨w.heap.size,0,none⟩) n n (us q)∧dY q
theorem Oo (A:Option Addr) (n c:Nat) (l:List Nat) (s:Nat) (w:World) (hn:n≤4398046511104) (hs:s < 32) (h:bf w A n c l) :
 Calls aD 201 #[.slice A n c,.int .i64 (s:Int)] w (acb w n (TK l s)):=by
 have HL:=aE h.len;have H1:=aE h.1;have UL:=aE h.2.2;clear h;have hmk:=run_make_row' (P:=aD) 68 76 (.int .u32 0) 4 Tryz.underlying68 fJ rfl .i64 .i64 n (by omega) (by omega);have M0:Hid (Own (w.alloc (.cells (madeCells #[.int .u32 0] n) 76)) w.heap.size 76 1 (some ⟨w.heap.size,0,none⟩) n n (us (bk n 0))):=aE (iw rfl n (by unfold maxLen;omega) (ao _));obtain ⟨s',hs'⟩:∃ s',s' = 32 - s:=⟨_,rfl⟩;have e32:(32:Int) - (s:Int) = (s':Int):=by omega
 have hs'2:s'≤32:=by omega
 have HS:=aE hs';clear hs'
 go_enter Tryz.func201,Tryz.ntmps201
 go_wp2_with fail
 go_loopg [13] n (fun g i wr=>∃ (k:Nat) (q:List Nat),k≤n∧n - k≤g∧i = .int .i64 (k:Int)∧dY q∧q.length = n∧(∀ j,j < k→q.getD j 0 = UK l s j)∧Own wr w.heap.size 76 1 (some ⟨w.heap.size,0,none⟩) n n (us q)∧Below w.heap.size w wr)
 case atStart=>exact ⟨0,bk n 0,bR _,by omega,rfl,dY.zero n,by simp,(fun j hj=>by omega),M0.out,(Below.refl _ _).alloc (ao _) _⟩
 case round =>
  clear M0;obtain ⟨k,q,hk,hg,rfl,hq,hql,hqv,ho,hb⟩:=hrel;have HB:=aE hb;have HO:=aE ho;have HQ:=aE hq;have QL:=aE hql;have QV:=aE hqv;have hzr:=hb.size;have kr:=bg.of_below hb (ao _);clear hb ho hq hql hqv
  by_cases hkn:k < n
  ·
   obtain ⟨ad,rfl,hkl,ca⟩:=(H1.out.keep kr).fG hkn;have hx:=UL.out.at k;have cq:=HO.out.gB (j:=k) hkn;have fq:wr.frozen? ⟨w.heap.size,k,none⟩ = false:=HO.out.frozen k;obtain ⟨X,hX⟩:∃ X:Nat,X = l.getD k 0 / 2 ^ s:=⟨_,rfl⟩;have hXb:X < 4294967296:=by rw [hX];exact iB (Nat.div_le_self _ _) hx
   have eX:((l.getD k 0:Nat):Int) / 2 ^ s = (X:Int):=by rw [hX,jx,gC];rfl
   have NS:Hid (∀ Z,Z = UK l s k→∀ j,j < k + 1→(q.set k Z).getD j 0 = UK l s j):=aE fun Z hZ j hj=>by
    by_cases e:j = k
    · subst e;rw [iE (by rw [QL.out];exact hkn)];exact hZ
    · rw [aQ e];exact QV.out j (by omega)
   have SO:=HO.out.eH k X
   by_cases hk1:k + 1 < n
   ·
    obtain ⟨ad',e',hkl',cb⟩:=(H1.out.keep kr).fG hk1;injection e' with e'
    subst e';have hk1i:(k:Int) + 1 < (n:Int):=by omega
    have hki:((k:Int) + 1).toNat = k + 1:=by omega
    have hy:=UL.out.at (k + 1);have SW:l.getD k 0 / 2 ^ s ||| (l.getD (k + 1) 0 * 2 ^ (32 - s) % 4294967296) = UK l s k:=WQ hs hx;rw [← hX,← HS.out] at SW;clear hX;generalize l.getD k 0 = x at *;generalize l.getD (k + 1) 0 = y at *;obtain ⟨Y,hY⟩:∃ Y:Nat,Y = y * 2 ^ s':=⟨_,rfl⟩;have eY:(y:Int) * 2 ^ s' = (Y:Int):=by rw [hY,gD,gC];rfl
    have hYb:(Y:Int) < 18446744073709551616:=by
     have h1:2 ^ s'≤2 ^ 32:=bq (by omega) hs'2;have h2:y * 2 ^ s'≤4294967295 * 4294967296:=av (by omega) h1;omega
    have hbl:(ad.add (k + 1)).block < w.heap.size:=by
     obtain ⟨ad',e',-,h⟩:=H1.out.fG hk1;have e'':ad = ad':=by injection e'
     rw [e''];exact eK w _ h
    have cb2:(wr.setCell ⟨w.heap.size,k,none⟩ (.int .u32 (X:Int))).cell? (ad.add (k + 1)) = some (.int .u32 (y:Int)):=by
     rw [gF _ _ _ _ (fun e=>by rw [← e] at hbl;simp at hbl)];exact cb
    rw [← hY] at SW;clear hY;have eO:bits .or .u32 (X:Int) ((Y:Int) % 4294967296) = ((UK l s k:Nat):Int):=by
     have h:=u32_or_nat X (Y % 4294967296) hXb (by omega);rw [SW] at h;rw [← h];congr 1
    have hZb:UK l s k < 4294967296:=by rw [← SW];exact Nat.or_lt_two_pow (n:=32) (by omega) (by omega)
    have N1:=aE (NS.out _ rfl);generalize UK l s k = Z at *;have HB1:=aE (HB.out.setCell (p:=⟨w.heap.size,k,none⟩) (by simp) (.int .u32 (X:Int)));clear kr NS hkl hkl' hbl SW
    go_upto_region 7 with fail
    generalize hwx:wr.setCell ⟨w.heap.size,k,none⟩ (.int .u32 (X:Int)) = wx at *;have cqx:=SO.gB (j:=k) hkn;rw [iE (by rw [QL.out];exact hkn)] at cqx;have h9:ad.add (k + 1) = ⟨ad.block,ad.off + (k + 1),none⟩:=by unfold jz;simp
    rw [h9] at cb2;clear h9;have g0:=bZ cb2;have g1:=bZ cqx;refine uj 16 (by kernel_rfl) (by kernel_rfl) ?_;simp only [List.take_succ_cons,List.take_zero,ic,ep]
    repeat (go_big_quiet_step (fail))
    refine wpQuiet_nil ?_;intro wq hgq;have SO2:=SO.later hgq;have S3:=SO2.eH k Z;rw [List.set_set] at S3;have cq2:=bg.of_below hgq (ao _) _ _ cqx;have fq2:wq.frozen? ⟨w.heap.size,k,none⟩ = false:=SO2.frozen k;have S3:=aE S3;have S4:Hid (dY (q.set k Z)):=aE (HQ.out.set _ hZb);have S5:Hid ((q.set k Z).length = n):=aE (by rw [bj];exact QL.out);have HB2:=aE (HB1.out.trans (hgq.mono (by have:=HB1.out.size;omega)));clear hgq g0 g1 hwx SO SO2 cb2 cqx
    go_wp2_with fail
    go_roundg (n - (k + 1))
    case measure=>omega
    case rel=>exact ⟨k + 1,q.set k Z,by omega,ao _,by go_num,S4.out,S5.out,N1.out,S3.out,HB2.out.setCell (by simp) _⟩
   ·
    have hy0:l.getD (k + 1) 0 = 0:=by rw [aq,aw (by rw [HL.out];omega)];rfl
    have hk1i:¬ (k:Int) + 1 < (n:Int):=by omega
    have N1:=aE (NS.out X (by unfold UK;rw [hy0,kd,kf,← hX,js hXb]));have S2:=aE SO;have S3:Hid (dY (q.set k X)):=aE (HQ.out.set _ hXb);have S4:Hid ((q.set k X).length = n):=aE (by rw [bj];exact QL.out);clear hX NS hy0 kr hkl SO;generalize l.getD k 0 = x at *
    go_wp2_with fail
    go_roundg (n - (k + 1))
    case measure=>omega
    case rel=>exact ⟨k + 1,q.set k X,by omega,ao _,by go_num,S3.out,S4.out,N1.out,S2.out,HB.out.setCell (by simp) _⟩
  · obtain rfl:k = n:=by omega
    have V:Hid (q = TK l s):=aE (WS (by rw [QL.out,HL.out]) (fun j hj=>QV.out j (by rw [HL.out] at hj;exact hj)));clear kr
    go_wp2_with fail
    go_ret
    exact ⟨HB.out,rfl,by rw [← V.out];exact HO.out,by rw [← V.out];exact HQ.out⟩
theorem U8 (A:Option Addr) (n c:Nat) (l:List Nat) (w:World) (hn:n≤4398046511104) (h:bf w A n c l) :
 Calls aD 241 #[.slice A n c] w (Gp w fun w' r=>MV w' r (nv l / 2)):=by
 have cS:=Oo A n c l 1 w hn (by omega) h;have HV:Hid (nv (TK l 1) = nv l / 2):=aE (by rw [JZ (by omega) h.2.2]);clear h;generalize TK l 1 = q at *
 go_enter Tryz.func241,Tryz.ntmps241
 go_wp2_with fail
 refine aR cS ?_;rintro _ w1 ⟨hb1,rfl,ho1,hu1⟩;have cT:=jE _ n n q w1 hn (ho1.mag hu1);have M1:=aE ((ho1.mag hu1).trim);have HB1:=aE hb1;clear cS hb1 ho1 hu1
 go_wp2_with fail
 refine aR cT ?_;rintro _ _ ⟨rfl,rfl⟩
 go_wp2_with fail
 go_ret
 exact ⟨HB1.out,_,rfl,_,_,_,_,rfl,M1.out,dK _,by rw [dP,HV.out]⟩
def ng {α:Type} (f:Nat→α) (k:Nat):List α:=(List.range k).map f
theorem zt (f:Nat→α) (k:Nat):ng f (k + 1) = ng f k ++ [f k]:=by simp [ng,List.range_succ]
theorem zM (f:Nat→α) (k:Nat):(ng f k).length = k:=by simp [ng]
def IU (n₀ Bs:Nat) (W W':World):Prop:=Below n₀ W W'∧W'.cell? ⟨Bs,0,none⟩ = W.cell? ⟨Bs,0,none⟩
theorem IU.refl (n₀ Bs:Nat) (W:World):IU n₀ Bs W W:=⟨Below.refl _ _,rfl⟩
theorem IU.trans {n₀ Bs:Nat} {A B C:World} (h:IU n₀ Bs A B) (k:IU n₀ Bs B C):IU n₀ Bs A C:=⟨h.1.trans k.1,k.2.trans h.2⟩
theorem IU.b {n₀ Bs:Nat} {w:World} (hn:n₀≤w.heap.size) (hB:Bs < w.heap.size) (W:World) (l:Nat) (o o':Obj) (hl:w.heap.size≤l) (h:W.heap[l]? = some o) (h1:o.isCells = false) (h2:o.isWalk = false):IU n₀ Bs W (W.putObj l o') :=
 ⟨belowK_b hn W l o o' hl h h1 h2,by
  have hb:=belowK_b (w:=w) (n₀:=Bs + 1) (by omega) W l o o' hl h h1 h2;exact hb.cell (p:=⟨Bs,0,none⟩) (by simp)⟩
abbrev DC:=Nat × { x:Nat // x < 4294967296 }
def wordAt (zs:List Nat) (hu:dY zs) (len j:Nat):DC:=(len - 1 - j,⟨zs.getD (len - 1 - j) 0,hu.at _⟩)
section
attribute [local go_sem] Oper.semAt_some
theorem Yp (F:Fence) (n:Nat) (h8:F.fn 224) (hro:F.round = none) (hn:1≤n) (l Bs n₀:Nat) (ad:Addr) (len cap:Nat) (zs:List Nat) (hu:dY zs) (hl:len≤4398046511104) (hb:ad.block < n₀) (J Jx:List DC→World→Prop) (hY:∀ pre x W,J pre W→pre.length < len→YieldAt F (n - 1) aD l #[.int .i64 (x.1:Int),.int .u32 (x.2.1:Int)] W fun e W' =>
 (e = .returned (.bool true)∧J (pre ++ [x]) W'∧IU n₀ Bs W W')∨(e = .returned (.bool false)∧Jx (pre ++ [x]) W')) (W:World) (hBs:W.cell? ⟨Bs,0,none⟩ = some (.slice (some ad) len cap)) (hc:∀ j,j < len→W.cell? (ad.add j) = some (.int .u32 ((zs.getD j 0:Nat):Int))) (h0:J [] W) :
 CallsIn F n aD 224 #[.func (.yield l) #[] #[],.pointer (some ⟨Bs,0,none⟩)] W fun e W'=>(∃ v,e = .returned v) ∧
  ((∃ ys,ys = ng (wordAt zs hu len) len∧J ys W')∨(∃ pre,(∃ k,k≤len∧pre = ng (wordAt zs hu len) k)∧Jx pre W')):=by
 refine callsIn_of_wp Tryz.func224 rfl h8 ?_ hro;simp only [Tryz.ntmps224,eB,dr,fj,fW,fT,du,dt,eC,ea,cJ,cg]
 gi_wp2
 gi_loopw [3] (fun i wr=>∃ k:Nat,k≤len∧i = .int .i64 ((k:Int) - 1)∧J (ng (wordAt zs hu len) (len - k)) wr∧IU n₀ Bs W wr)
  (fun i _=>(intOf i + 1).toNat)
 case atStart=>exact ⟨len,ao _,rfl,by rw [gi];exact h0,IU.refl _ _ _⟩
 case round =>
  obtain ⟨k,hk,rfl,hJs,hnx⟩:=hrel;have hbx:wr.cell? ⟨Bs,0,none⟩ = some (.slice (some ad) len cap):=hnx.2.trans hBs
  by_cases hlt:0 < k
  ·
   have hcx:wr.cell? (ad.add (k - 1)) = some (.int .u32 ((zs.getD (k - 1) 0:Nat):Int)):=(hnx.1.cell (p:=ad.add (k - 1)) (by have h9:(ad.add (k - 1)).block = ad.block:=(by unfold jz;split <;> rfl);rw [h9];exact hb)).trans (hc _ (by omega));obtain ⟨fn,tmps,assign,body,hy,hR⟩:=hY _ (wordAt zs hu len (len - k)) wr hJs (by rw [zM];omega);have e1:(wordAt zs hu len (len - k)).1 = k - 1:=by simp [wordAt];omega
   have e2:(wordAt zs hu len (len - k)).2.1 = zs.getD (k - 1) 0:=by
    have:len - 1 - (len - k) = k - 1:=by omega
    simp [wordAt,this]
   rw [e1,e2] at hy;generalize zs.getD (k - 1) 0 = x at hcx hy;have e3:((k - 1:Nat):Int) = (k:Int) - 1:=by omega
   rw [e3] at hy;have hi1:((k:Int) - 1).toNat = k - 1:=by omega
   have hm0:(0:Int)≤(k:Int) - 1:=by omega
   have hm1:(k:Int) - 1 < (len:Int):=by omega
   rw [← zt,show len - k + 1 = len - (k - 1) by omega] at hR
   gi_wp2
   refine hR.mono ?_;rintro e W3 (⟨rfl,hJ3,hk3⟩ | ⟨rfl,hJx3⟩)
   · gi_wp2
     go_roundw
     case rel=>exact ⟨k - 1,by omega,by congr 1;omega,hJ3,hnx.trans hk3⟩
     case measure=>simp [intOf];omega
   · gi_wp2
     refine bodyPost_ret (results_none rfl _ _ _) rfl ?_;exact ⟨⟨_,rfl⟩,.inr ⟨_,⟨len - (k - 1),by omega,rfl⟩,hJx3⟩⟩
  · obtain rfl:k = 0:=by omega
    gi_wp2
    go_end0
    exact ⟨⟨_,rfl⟩,.inl ⟨_,rfl,hJs⟩⟩
theorem acI (F:Fence) (n:Nat) (h6:F.fn 202) (hro:F.round = none) (a:Option Addr) (len cap:Nat) (w:World) :
 CallsIn F n aD 202 #[.slice a len cap] w fun e w'=>e = .returned (.func (.func 224) #[] #[.pointer (some ⟨w.heap.size,0,none⟩)])∧w' = w.alloc (.cells #[.slice a len cap] 68):=by
 refine callsIn_of_wp Tryz.func202 rfl h6 ?_ hro;simp only [Tryz.ntmps202,eB,dr,fj,fW,fT,du,dt,eC,ea,cJ,cg]
 gi_wp2
 go_ret
 exact ⟨rfl,rfl⟩
theorem JH (F:Fence) (n:Nat) (h8:F.fn 224) (hro:F.round = none) (l Bs:Nat) (A:Option Addr) (cap:Nat) (J:List DC→World→Prop) (W:World) (hBs:W.cell? ⟨Bs,0,none⟩ = some (.slice A 0 cap)) (h0:J [] W) :
 CallsIn F n aD 224 #[.func (.yield l) #[] #[],.pointer (some ⟨Bs,0,none⟩)] W fun e W'=>(∃ v,e = .returned v)∧J [] W':=by
 refine callsIn_of_wp Tryz.func224 rfl h8 ?_ hro;simp only [Tryz.ntmps224,eB,dr,fj,fW,fT,du,dt,eC,ea,cJ,cg]
 gi_wp2
 gi_loopw [3] (fun i wr=>i = .int .i64 (-1)∧J [] wr) (fun _ _=>0)
 case atStart=>exact ⟨rfl,h0⟩
 case round =>
  obtain ⟨rfl,hJs⟩:=hrel
  gi_wp2
  go_end0
  exact ⟨⟨_,rfl⟩,hJs⟩
theorem O4 (F:Fence) (n:Nat) (h8:F.fn 224) (hro:F.round = none) (hn:1≤n) (Bs n₀:Nat) (A:Option Addr) (len cap:Nat) (zs:List Nat) (hu:dY zs) (hl:len≤4398046511104) (w:World) (hBs:Bs < w.heap.size) (hn₀:n₀≤w.heap.size) (hc:w.cell? ⟨Bs,0,none⟩ = some (.slice A len cap)) (w0:World) (hw0:w0.heap.size≤n₀) (hb0:Below n₀ w0 w) (hR:Rd w0 1 A len (us zs)) :
 SeqStopsK F n aD 224 #[.pointer (some ⟨Bs,0,none⟩)] (fun x:DC=>#[Value.int .i64 (x.1:Int),Value.int .u32 (x.2.1:Int)]) (IU n₀ Bs) (fun ys=>ys = ng (wordAt zs hu len) len)
  (fun pre=>∃ k,k≤len∧pre = ng (wordAt zs hu len) k) len w:=fun l J Jx W hW _ _ hY h0=>by
 have hc':=(hW.cell (p:=⟨Bs,0,none⟩) hBs).trans hc;rcases fY len with rfl | h
 · exact (JH F n h8 hro l Bs A cap J W hc' h0).mono fun e W' ⟨he,hj⟩=>⟨he,.inl ⟨_,rfl,hj⟩⟩
 ·
  obtain ⟨ad,rfl,hcs⟩:=hR.2 h;have h9:∀ j,(ad.add j).block = ad.block:=fun j=>(by unfold jz;split <;> rfl)
  have hzl:=hR.pM;have h7:∀ j,j < len→w0.cell? (ad.add j) = some (.int .u32 ((zs.getD j 0:Nat):Int)):=fun j hj=>hcs j _ (fG _ _ (by omega))
  have h8':ad.block < w0.heap.size:=by
   have:=eK w0 _ (h7 0 h);rwa [h9] at this
  refine Yp F n h8 hro hn l Bs n₀ ad len cap zs hu hl (by omega) J Jx hY W hc' (fun j hj=>?_) h0;have h1:=(hb0.cell (p:=ad.add j) (by rw [h9];omega)).trans (h7 j hj);exact (hW.cell (p:=ad.add j) (by rw [h9];omega)).trans h1
def Ho:List DC→Nat:=List.foldl (fun s x=>s * 4294967296 + x.2.1) 0
theorem Ih (pre:List DC) (x:DC):Ho (pre ++ [x]) = Ho pre * 4294967296 + x.2.1:=by simp [Ho]
theorem MS (zs:List Nat) (hu:dY zs):∀ k,k≤zs.length→Ho (ng (wordAt zs hu zs.length) k) = nv (zs.drop (zs.length - k))
 | 0,_=>by rw [Nat.sub_zero,List.drop_length];rfl
 | k + 1,h=>by
  rw [zt,Ih,MS zs hu k (by omega)];have hlt:zs.length - (k + 1) < zs.length:=by omega
  rw [eA hlt,nv,show zs.length - (k + 1) + 1 = zs.length - k by omega];simp only [wordAt,show zs.length - 1 - k = zs.length - (k + 1) by omega,aq,a6 hlt,Option.getD_some];omega
theorem VB (F:Fence) (n:Nat) (h3:F.fn 161) (h5:F.fn 202) (h7:F.fn 224) (hro:F.round = none) (hn:3≤n) (a:Option Addr) (len cap:Nat) (zs:List Nat) (hl:len≤2) (w:World) (hu:dY zs) (hR:Rd w 1 a len (us zs)) :
 CallsIn F n aD 161 #[.slice a len cap] w fun e W'=>e = .returned (.int .u64 (nv zs:Int))∧Below w.heap.size w W':=by
 have h1:1≤n:=by omega
 have hzl:=hR.pM;refine callsIn_of_wp_marks Tryz.func161 rfl h3 ?_ hro;simp only [Tryz.ntmps161,eB,dr,fj,fW,fT,du,dt,eC,ea,cJ,cg]
 gi_wp2_with (gi_at_call 202;refine (acI F (n - 1) h5 hro _ _ _ _).mono ?_;rintro e w' ⟨rfl,rfl⟩)
 have bS:=Boxed.new w 147 (.int .u64 0);have bN:=Boxed.new (w.alloc (.cells #[.int .u64 0] 147)) 68 (.slice a len cap);rw [World.size_alloc] at bN;have hB0:Below w.heap.size w ((w.alloc (.cells #[.int .u64 0] 147)).alloc (.cells #[.slice a len cap] 68)):=((Below.refl _ w).alloc (ao _) _).alloc (by simp) _;have hlen:∀ pre:List DC,pre.length < len→Ho pre < 4294967296:=by
  intro pre hp;rcases pre with _ | ⟨x,_ | ⟨y,t⟩⟩
  · decide
  · have:=x.2.2;simp [Ho];omega
  · simp at hp;omega
 refine wpIn_rangeFunc_ownG hro h1 (gf:=224) (lb:=#[.pointer (some ⟨w.heap.size + 1,0,none⟩)]) rfl h7 (enters_of Tryz.func224 (by kernel_rfl) rfl)
  (O4 F (n - 1) h7 hro (by omega) (w.heap.size + 1) w.heap.size a len cap zs hu (by omega) _ (by simp) (by simp;omega) bN.cell w (ao _) hB0 hR) IU.trans (IU.b (by simp;omega) (by simp)) (Below.refl _ _) (fun _=>rfl)
  (fun pre W=>(W.cell? ⟨w.heap.size,0,none⟩ = some (.int .u64 (Ho pre:Int))∧W.frozen? ⟨w.heap.size,0,none⟩ = false)∧Below w.heap.size w W)
  (fun _ _ _=>False)
  (OwnFrom.and (Own.from (fun s A B row hs hg hr=>⟨cell_kept hs.1 hg hr,(frozen_kept hs.1 hg hr).trans hs.2⟩) _) (ownFrom_below (ao _) (by simp;omega)))
  (fun _ _ _ _ _ hs _ _=>hs)
  ⟨⟨(bS.alloc _).cell,(bS.alloc _).frozen⟩,hB0⟩
  (fun x=>{ tmps:=#[.slice a len cap,undef,.int .u64 0,.pointer (some ⟨w.heap.size,0,none⟩),undef,.int .u32 (x.2.1:Int),.slice a len cap,.func (.func 224) #[] #[.pointer (some ⟨w.heap.size + 1,0,none⟩)],.int .i64 (x.1:Int),.int .u32 (x.2.1:Int),undef,undef,undef,undef,undef,undef],defers:=[] }) ?assign ?body ?done ?stop
 case assign =>
  intro l x W K hK
  gi_wp2
  exact hK
 case body =>
  rintro l pre x W ⟨⟨hc,hf⟩,hB⟩ hp;have hlt:=hlen pre hp;have hx:=x.2.2;have ho:=or_hi hx hlt;have e1:Ho (pre ++ [x]) = x.2.1 + 4294967296 * Ho pre:=by rw [Ih];omega
  have hD:x.2.1 + 4294967296 * Ho pre < 18446744073709551616:=by omega
  gi_wp2
  exact ⟨(KeepsOthers.setCell _ _ _).from _,⟨(Below.refl w.heap.size W).setCell (p:=⟨w.heap.size,0,none⟩) (ao _) _,gF _ _ _ _ (by simp)⟩,⟨by rw [e1];exact World.cell?_setCell_same' _ _ _ (by rw [hc];rfl),by rw [World.frozen?_setCell];exact hf⟩,hB.setCell (p:=⟨w.heap.size,0,none⟩) (ao _) _⟩
 case done =>
  rintro D ys W hD rfl ⟨⟨hc,_⟩,hB⟩ hK;have e1:Ho (ng (wordAt zs hu len) len) = nv zs:=by
   subst hzl;rw [MS zs hu _ (ao _),gi,ep]
  rw [e1] at hc
  gi_wp2
  refine ⟨by simp,.inl ⟨_,_,rfl,run_takeDeferred hK,?_⟩⟩;exact ⟨_,results_tmp rfl _ _ _,rfl,hB.trans (belowK_b (w:=w) (ao _) W D _ _ (by simp at hD;omega) hK rfl rfl)⟩
 case stop =>
  rintro D c pre W _ _ h _;exact h.elim
theorem wP (a:Option Addr) (len cap:Nat) (zs:List Nat) (w:World) (hl:len≤2) (hu:dY zs) (hR:Rd w 1 a len (us zs)) :
 Calls aD 161 #[.slice a len cap] w fun e W'=>e = .returned (.int .u64 (nv zs:Int))∧Below w.heap.size w W' :=
 callsIn_wide.1 (VB Fence.wide 3 trivial trivial trivial rfl (ao _) a len cap zs hl w hu hR)
end
attribute [local go_sem ↓] eT eV
theorem wrap_small {k:Nat} (h:n≤1000):wrap64 (n:Int) = (n:Int):=by unfold wrap64;omega
theorem xm (h:k + n≤1000):wrap64 ((k:Int) + (n:Int)) = ((k + n:Nat):Int):=by unfold wrap64;omega
set_option maxRecDepth 1000000 in
theorem Jm (x:Nat) (w:World) (hx:x < 4294967296):Calls aD 223 #[.int .u32 (x:Int)] w fun e w'=>e = .returned (.int .i64 (bitLen x:Int))∧w = w':=by
 by_cases h1:65536≤x
 ·
  obtain ⟨y,hy⟩:∃ y,y = x / 65536:=⟨_,rfl⟩;have ey:(x:Int) / 65536 = (y:Int):=by omega
  have e1:(65536:Int)≤(x:Int):=by omega
  have A1:Hid (bitLen x = 16 + bitLen y):=aE (by
   have a1:=bitLen_shift x 16 (by omega);rwa [show x / 2 ^ 16 = y by omega] at a1)
  have hyb:y < 65536:=by omega
  clear hy h1
  by_cases h2:256≤y
  ·
   obtain ⟨z,hz⟩:∃ z,z = y / 256:=⟨_,rfl⟩;have ez:(y:Int) / 256 = (z:Int):=by omega
   have e2:(256:Int)≤(y:Int):=by omega
   have hzb:z < 256:=by omega
   have A2:Hid (bitLen y = 8 + bitLen z):=aE (by
    have a2:=bitLen_shift y 8 (by omega);rwa [show y / 2 ^ 8 = z by omega] at a2)
   clear hz h2;have T:=len8tab_get z hzb;have T8:=bitLen_le8 z hzb;generalize bitLen z = b at *;have W1:wrap64 (b:Int) = (b:Int):=wrap_small (k:=0) (by omega);have W2:wrap64 (24 + (b:Int)) = ((24 + b:Nat):Int):=xm (k:=24) (by omega)
   go_enter Tryz.func223,Tryz.ntmps223
   go_wp2_with fail
   go_ret
   exact ⟨by rw [A1.out,A2.out,show 16 + (8 + b) = 24 + b by omega];rfl,rfl⟩
  ·
   have e2:¬ (256:Int)≤(y:Int):=by omega
   have hyb2:y < 256:=by omega
   clear h2;have T:=len8tab_get y hyb2;have T8:=bitLen_le8 y hyb2;generalize bitLen y = b at *;have W1:wrap64 (b:Int) = (b:Int):=wrap_small (k:=0) (by omega);have W2:wrap64 (16 + (b:Int)) = ((16 + b:Nat):Int):=xm (k:=16) (by omega)
   go_enter Tryz.func223,Tryz.ntmps223
   go_wp2_with fail
   go_ret
   exact ⟨by rw [A1.out];rfl,rfl⟩
 ·
  have e1:¬ (65536:Int)≤(x:Int):=by omega
  by_cases h2:256≤x
  ·
   obtain ⟨z,hz⟩:∃ z,z = x / 256:=⟨_,rfl⟩;have ez:(x:Int) / 256 = (z:Int):=by omega
   have e2:(256:Int)≤(x:Int):=by omega
   have hzb:z < 256:=by omega
   have A2:Hid (bitLen x = 8 + bitLen z):=aE (by
    have a2:=bitLen_shift x 8 (by omega);rwa [show x / 2 ^ 8 = z by omega] at a2)
   clear hz h2 h1;have T:=len8tab_get z hzb;have T8:=bitLen_le8 z hzb;generalize bitLen z = b at *;have W1:wrap64 (b:Int) = (b:Int):=wrap_small (k:=0) (by omega);have W2:wrap64 (8 + (b:Int)) = ((8 + b:Nat):Int):=xm (k:=8) (by omega)
   go_enter Tryz.func223,Tryz.ntmps223
   go_wp2_with fail
   go_ret
   exact ⟨by rw [A2.out];rfl,rfl⟩
  ·
   have e2:¬ (256:Int)≤(x:Int):=by omega
   have hyb2:x < 256:=by omega
   clear h2 h1;have T:=len8tab_get x hyb2;have T8:=bitLen_le8 x hyb2;generalize bitLen x = b at *;have W1:wrap64 (b:Int) = (b:Int):=wrap_small (k:=0) (by omega)
   go_enter Tryz.func223,Tryz.ntmps223
   go_wp2_with fail
   go_ret
   exact ⟨rfl,rfl⟩
theorem ZW (x:Nat) (w:World) (hx:x < 4294967296):Calls aD 197 #[.int .u32 (x:Int)] w fun e w'=>e = .returned (.int .i64 (((32 - bitLen x:Nat)):Int))∧w = w':=by
 have cL:=Jm x w hx;have hb:bitLen x≤32:=by
  unfold bitLen
  split
  · omega
  · rename_i h0;have:=(Nat.log2_lt h0).2 (show x < 2 ^ 32 from hx);omega
 generalize bitLen x = b at *;have eb:(32:Int) - (b:Int) = ((32 - b:Nat):Int):=by omega
 go_enter Tryz.func197,Tryz.ntmps197
 go_wp2_with fail
 refine aR cL ?_;rintro _ _ ⟨rfl,rfl⟩
 go_wp2_with fail
 go_ret
 exact ⟨rfl,rfl⟩
end Go.Proofs.YtjdakpfhjlhcbaaGreat
