/-
  Lemmas and contracts for the statement.
-/
import Derived.Test.YtjdakpfhjlhcbaaGreatJ3
import Derived.Test.YtjdakpfhjlhcbaaGreatJ4
import Derived.Test.YtjdakpfhjlhcbaaGreatRows
import Derived.ProofKit
import Derived.OpenShut
import Derived.Lib.SmallJoins
import Derived.Deep.Slices
namespace Go.Proofs.YtjdakpfhjlhcbaaGreat
set_option linter.all false
set_option maxRecDepth 100000
set_option maxHeartbeats 16000000
open Go.ChangeAt Go.ChangeShapes Go.RowKit Go.Sort Go.WideShapes
open Go.Proofs.Tryz renaming prog → aD
open Go.Lib renaming hid → aE
open Bool renaming and_eq_true→a8,false_ne_true→bL,or_eq_false_iff→dj,or_eq_true→fL,or_true→fY
open Go.Addr renaming add→fN
open Go.DataW renaming trod_int→fI
open Go.IntKind renaming bits→fw,max→fT,min→fS,signed→e8,wrap_i64→cF
open Int renaming natCast_nonneg→aq,sign_eq_zero_iff_zero→ew
open List renaming all_eq_false→eZ,all_eq_true→fj,any_append→da,any_cons→dr,any_eq_true→dz,append_nil→cV,drop_append_of_le_length→ea,drop_eq_nil_of_le→eB,eq_nil_of_length_eq_zero→bc,ext_getElem?→eW,filter_append→du,filter_cons→cH,flatMap_cons→eV,getElem?_append_left→bB,getElem?_append_right→ar,getElem?_cons_succ→cP,getElem?_drop→ck,getElem?_eq_getElem→bh,getElem?_eq_none→br,getElem?_eq_some_iff→bA,getElem?_map→dx,getElem?_replicate→cJ,getElem_mem→fh,getElem_of_mem→dp,length→d8,length_append→eL,length_cons→bO,length_map→ao,length_take→aw,map_append→bs,map_cons→cG,map_eq_nil_iff→dk,map_replicate→eK,map_set→fX,mem_append→ef,mem_cons→ep,mem_map→cj,mem_of_mem_drop→eE,mem_of_mem_take→de,mem_replicate→dt,mem_singleton→aR,mem_zipIdx_iff_getElem?→bX,take→fg,take_add_one→cw,take_append_drop→dc,take_append_of_le_length→bm,take_left→fR,take_left'→fk,take_of_length_le→aL,zipIdx_append→bE,zipIdx_cons→bq,zipWith→eA
open Nat renaming add_assoc→fW,div_eq_of_lt→d9,div_eq_of_lt_le→eJ,eq_zero_or_pos→eT,le_max_left→cg,le_max_right→cQ,le_of_eq→f8,le_refl→bk,le_trans→aM,lt_or_ge→bj,lt_succ_iff_lt_or_eq→a6,min_eq_left→eh,pow_le_pow_right→bp,pow_lt_pow_right→eI,pow_pos→bR,pow_succ→eC,sub_self→f6,zero_add→dy,zero_le→av
open Option renaming getD_some→bw,isSome_iff_exists→eo
open Rat renaming div→ff,num_eq_zero→db
variable {n:Nat}
theorem ny.rat {a:Rat} (h:Rb a):ny (dD n a):=fun q hq=>by
 rw [kY] at hq;rcases ep.1 hq with rfl | hq
 · exact h
 · rw [(dt.1 hq).2];exact Rb.zero
variable {t:Tw n} {r x y:El n}
theorem adM (h:(decide (aJ t y = 0) || decide (aJ t x = aJ t y)) = true):aJ (n:=n + 1) (t,r) (x,y) = aJ t x:=by
 simp only [aJ];rw [if_pos (by simpa using h)]
theorem adU (h:(decide (aJ t y = 0) || decide (aJ t x = aJ t y)) = false) (h2:aJ t x = 0):aJ (n:=n + 1) (t,r) (x,y) = aJ t y:=by
 simp only [aJ];rw [if_neg (by simpa using h),if_pos h2]
theorem adm (h:(decide (aJ t y = 0) || decide (aJ t x = aJ t y)) = false) (h2:¬ aJ t x = 0):aJ (n:=n + 1) (t,r) (x,y) = aJ t x * aJ t (kX (au t x x) (au t r (au t y y))):=by
 simp only [aJ];rw [if_neg (by simpa using h),if_neg h2,(jY t).mc r];rfl
theorem Tt (a b:Int) (ha:-1≤a∧a≤1) (hb:-1≤b∧b≤1):-1≤a * b∧a * b≤1:=by
 have:a = -1∨a = 0∨a = 1:=by omega
 rcases this with e | e | e <;> rw [e] <;> omega
theorem AX:kX (au t x x) (au t r (au t y y)) = fP t r x y:=by rw [(jY t).mc r];rfl
theorem aiw {a:Rat} (ha:Rb a):AC aD true 60 [bV (n:=0) (),bF (n:=0) a] (.dat (vI a.num.sign)):=by
 exact aix 75 Tryz.func60 (k:=go 0 [[0,0,1],[3,0,1,4],[5]] (k:=q (aI (n:=0) (hlen:=aP (n:=0) ())) (go 1 [[1,0,1,4,15],[5]] (k:=q (uK (es:=[af a]) (e:=af a) (i:=0) rfl rfl) (q fO (q (a_call eN (xu ha)) (go 1 [[1,0,1,4],[3]] (k:=dG))))))))
variable {σ:List Nat} {sr s:Nat}
theorem ah5 (hn:n≤7) (ht:PT t σ) (hr:sz r sr) (hx:sz (n:=n + 1) (x,y) s) (hk:lU (sr :: σ) s≤2199023255551) (IH:∀ (x:El n) (s:Nat),sz x s→lU σ s≤2199023255551→AC aD true 60 [bV t,bF x] (.dat (vI (aJ t x)))):AC aD true 60 [bV (n:=n + 1) (t,r),bF (n:=n + 1) (x,y)] (.dat (vI (aJ (n:=n + 1) (t,r) (x,y)))):=by
 have hk2:=@ja sr σ;have hk3:=@mM σ (2 * s + bD (sr :: σ));have hk4:lU (sr :: σ) s = lU σ (2 * s + bD (sr :: σ)):=rfl;have hsm:lU σ s≤2199023255551:=aM (oU (by omega)) hk;have rx:=qh t x;have ry:=qh t y;have rd:=qh t (kX (au t x x) (au t r (au t y y)));have rm:=Tt _ _ rx rd;have hN:=sz.norm ht hr hx;rw [← AX] at hN;have hyy:=sz.mul ht hx.snd hx.snd;have hryy:=sz.mul ht hr hyy;have hxx:=sz.mul ht hx.fst hx.fst;refine aix 75 Tryz.func60 (k:=go 0 [[0,0,1],[3,0,1,4],[5]] (k:=q (aI (n:=n + 1) (hlen:=aP (n:=n + 1) (t,r))) (go 1 [[1,0,1,4,15],[7]] (k:=q (aI (n:=n + 1) (hlen:=aP (n:=n + 1) (t,r))) (q (eG (z:=(n:Int)) (hz:=by omega)) (q aC (q (aI (n:=2 ^ (n + 1)) (hlen:=dU (n:=n + 1) (x,y))) (q (nR (z:=((2 ^ n:Nat):Int)) (hz:=kF n) (h2:=dH (by omega)) (hp:=aq _)) (go 1 [[2,0,1,4,5,6],[2]] (k:=dC 12 mixed (go 3 [[2]] (k:=fQ (z:=(n:Int)) ((aA t).map dL) [bF r] (di t r) (by simp [aj]) (ct:=go 3 [[2]] (k:=fQ (z:=((2 ^ n:Nat):Int)) ((flat x).map af) ((flat y).map af) (aK x y) (by simp [flat_length]) (ct:=go 3 [[2]] (k:=kz (z:=((2 ^ n:Nat):Int)) ((flat x).map af) ((flat y).map af) (aK x y) (by simp [flat_length]) (ct:=go 3 [[4,0,4,5,7,8,9],[5]] (k:=q (a_call eN (IH x s hx.fst hsm)) (q aC (q aC (q (a_call eN (IH y s hx.snd hsm)) (go 1 [[2,0,4,5,7,8,9,10,11],[8]] (k:=fD (h:=aC) (k:=fD (h:=aC) (k:=qN 45 46 (h:=TV) (k:=go 1 [[2,0,4,5,7,8,9,10,11,41],[1]] (k:=?_)))))))))))))))))))))))))));refine dA (fun hc41=>?_) (fun hc41=>?_)
 · refine go 0 [[4,0,4,5,7,8,9,10],[4]] (k:=?_);exact rt_eq dG (by rw [adM hc41])
 · refine go 0 [[5,0,4,5,7,8,9,10,11,50],[1]] (k:=?_);refine bu (fun hc50=>?_) (fun hc50=>?_)
   · refine go 0 [[4,0,4,5,7,8,9,10],[4]] (k:=?_);exact rt_eq dG (by rw [adU hc41 hc50])
   · refine go 0 [[4]] (k:=dC 17 mixed (go 3 [[4]] (k:=ak eN ((rJ (by omega) ht (by omega) hx.fst hx.fst (by omega)).gd) (ct:=go 3 [[3]] (k:=mP (z:=(n:Int)) (i:=n) (es:=(aA (n:=n + 1) (t,r)).map dL) (e:=bF r) rfl (by rw [di,ar (by simp [aj])];simp [aj]) (ct:=go 3 [[4]] (k:=ak eN ((rJ (by omega) ht (by omega) hx.snd hx.snd (by omega)).gd) (ct:=ak eN ((rJ (by omega) ht (by omega) hr hyy (by omega)).gd) (ct:=ak eN ((KJ (by omega) ht (by omega) (hxx.rb (by omega)) (hryy.rb (by omega))).gd) (ct:=go 3 [[2,4,7,10,12],[6]] (k:=q (a_call eN (IH _ _ hN (by omega))) (q (ahF (z:=aJ t x * aJ t (kX (au t x x) (au t r (au t y y)))) (hz:=rfl) (h1:=by omega) (h2:=by omega)) (go 1 [[1,4],[2]] (k:=?_))))))))))))));exact rt_eq dG (by rw [adm hc41 hc50])
theorem Ry:∀ {n:Nat} {t:Tw n} {x:El n} {σ:List Nat} {s:Nat},n≤8→PT t σ→sz x s→lU σ s≤2199023255551→AC aD true 60 [bV t,bF x] (.dat (vI (aJ t x)))
 | 0,_,a,σ,s,_,ht,ha,hk=>aiw (ha.rb (by have:=@mM σ s;omega) a (aR.2 rfl))
 | n + 1,(t,r),(x,y),[],s,hn,ht,hx,hk=>ht.elim
 | n + 1,(t,r),(x,y),sr :: σ,s,hn,ht,hx,hk=>ah5 (by omega) ht.2 ht.1 hx hk fun x s h1 h2=>Ry (by omega) ht.2 h1 h2
theorem XF (hn:n≤8) (ht:PT t σ) (hR:dW t) (hk:bD σ≤2199023255551) (ho:KY lU 2199023255551 σ):AC aD true 115 [bV t] (.dat (vB true)):=by
 refine aix 25 Tryz.func115 (k:=go 0 [[0,0],[3,0,2],[6]] (k:=q (a_call eN (AO)) (q (a_call eN (ND (a:=0) hn ht hk Rb.zero)) (q (a_call eN (zX (x:=dD n 0) hn ht hk (ny.rat Rb.zero))) (go 1 [[1,0,2,10],[8]] (k:=q (aI (n:=n) (hlen:=aP t)) (go 1 [[1,0,2,11,12,13],[2]] (k:=?_))))))));refine CT.weak (aZ (ι:=Nat) (fun i=>[(0,.dat (bV t)),(11,.dat (bV t)),(12,.dat (vI n)),(13,.dat (vI i))]) (fun i=>i≤n) (fun i=>n - i) ?_ (0) (av _)) (sbk [0,11,12,13]);intro i hi;refine go 0 [[0,0,11,12,13],[3,0,11,12,13,14],[2]] (k:=?_);refine bu (fun hc14=>?_) (fun hc14=>?_)
 · refine go 0 [[6]] (k:=?_);obtain ⟨u,c,hp⟩:=Pre.ex t (i:=i) (by omega);obtain ⟨l,hl⟩:=hp.cut;obtain ⟨σ',s',g1,g2,g3,g4⟩:=hp.pt ht;refine q aC (q (dZ (z:=(i:Int)) (i:=i) (es:=(aA t).map dL) (e:=bF c) rfl hp.at) (go 1 [[3,0,3,4,11,12,13],[5]] (k:=q (kR (z:=(i:Int)) ((aA u).map dL) (l.map dL) hl (by simp [aj])) (q aC (q (a_call eN (Ry (t:=u) (x:=c) (by have:=hp.lt;omega) g1 g2 (g4 lU _ ho).1)) (q (O5) (gU [0,11,12,13,23] (k:=aT (UO (h:=(by rw [(hp.red hR).2.1];decide)) (k:=go 0 [[4]] (k:=q (bH) (q aC (gU [0,11,12,13] (k:=?_))))))))))))));exact aY (i + 1) ⟨by omega,by omega⟩ (sbk [0,11,12,13])
 · exact go 0 [[8,2],[2]] (k:=dG)
theorem aeN (hn:n≤8) (ht:PT t σ) (hR:dW t) (hk:bD σ≤2199023255551) (ho:KY lU 2199023255551 σ) (hx:ny x):AC aD true 59 [bV t,.list 1 [bF x]] (.dat (vB true)):=by
 refine aix 20 Tryz.func59 (k:=go 0 [[0,0,1],[3,0,1,4],[5]] (k:=q (aI (n:=1) (hlen:=rfl)) (go 1 [[1,0,4,7,8,9],[2]] (k:=?_))));refine CT.weak (aZ (ι:=Nat) (fun i=>[(0,.dat (bV t)),(7,.dat (.list 1 [bF x])),(8,.dat (vI 1)),(9,.dat (vI i))]) (fun i=>i≤1) (fun i=>1 - i) ?_ (0) (av _)) (sbk [0,7,8,9]);intro i hi;refine go 0 [[0,0,7,8,9],[3,0,7,8,9,10],[2]] (k:=?_);refine bu (fun hc10=>?_) (fun hc10=>?_)
 · refine go 0 [[6]] (k:=q (dZ (z:=(i:Int)) (i:=i) (es:=[bF x]) (e:=bF x) rfl (by rw [show i = 0 by omega];rfl)) (go 1 [[2,0,6,7,8,9],[5]] (k:=q (a_call eN (zX (x:=x) hn ht hk hx)) (go 1 [[1,0,7,8,9,16],[6]] (k:=q (bH) (q aC (gU [0,7,8,9] (k:=?_))))))));exact aY (i + 1) ⟨by omega,by omega⟩ (sbk [0,7,8,9])
 · exact go 0 [[8]] (k:=q (a_call eN (XF hn ht hR (by omega) ho)) (go 1 [[1,4],[2]] (k:=dG)))
theorem G9 (hn:n≤8) (ht:PT t σ) (hR:dW t) (ho:KY lU 2199023255551 σ) (hx:sz x s) (hk:lU σ s≤2199023255551):AC aD true 19 [bV t,bF x] (.dat (vI (aJ t x))):=by
 have hk3:=@mM σ s;exact aix 13 Tryz.func19 (k:=go 0 [[0,0,1],[3,0,1,4],[6]] (k:=q (jM (xs:=[.tmp 6]) (es:=[bF x]) gm) (q (a_call eN (aeN hn ht hR (by omega) ho (hx.rb (by omega)))) (go 1 [[1,0,1,4,9],[8]] (k:=q (a_call eN (Ry hn ht hx hk)) (go 1 [[1,4],[2]] (k:=dG)))))))
theorem Rb.half:Rb (1 / 2):=(sz.half 0).rb (by omega) _ (aR.2 rfl)
theorem ahs (a:Rat):Dl (n:=0) () a = [((vM a).map af).getD dR]:=by
 have e:ou (n:=0) () a = vM a:=rfl;unfold Dl;rw [e];cases vM a <;> rfl
theorem OW (hn:n≤7):((flat x).map af).length + ((flat y).map af).length≤1000000:=by
 rw [ao,ao,flat_length,flat_length];have:=jK (i:=n) (by omega);omega
theorem ac8 (x y:El n):(flat x).map af ++ (flat y).map af≠[]:=by
 intro e;have:=congrArg d8 e;have h2:0 < 2 ^ n:=bR (by omega);rw [eL,ao,flat_length] at this;simp at this
theorem qw (n:Nat):dD n 0 = zeroE n:=by
 induction n with
 | zero=>rfl
 | succ n ih=>exact dQ ih rfl
theorem ab4 (hn:n≤8) (ht:PT t σ) (hx:sz x s) (hb:s + 1 + bD σ≤2199023255551):AC aD true 168 [bV t,bF x] (rX (au t x (bU n))):=by
 exact aix 11 Tryz.func168 (k:=go 0 [[0,0,1],[3,0,1,4],[6]] (k:=q (a_call eN (JV)) (q (a_call eN (ND (a:=1 / 2) hn ht (by omega) Rb.half)) (q (a_call eN (rJ hn ht (by omega) hx (sz.half n) hb)) (go 1 [[1,4],[2]] (k:=qj))))))
theorem afB {a w:Rat} (c:AC aD true 164 [af a] (.bT [af w,vB true])):AC aD true 117 [bV (n:=0) (),bF (n:=0) a] (.bT [.list 4 [af w],vB true]):=by
 exact aix 154 Tryz.func117 (k:=go 0 [[0,0,1],[4,0,1,4,5],[5]] (k:=q (aI (n:=0) (hlen:=aP (n:=0) ())) (go 1 [[1,0,1,4,5,28],[5]] (k:=q (uK (es:=[af a]) (e:=af a) (i:=0) rfl rfl) (q fO (q (a_call eN (c)) (go 1 [[6,0,1,4,5,6,7],[4]] (k:=q (jM (xs:=[.tmp 36]) (es:=[af w]) aW) (go 1 [[3,0,1,4,5],[3]] (k:=qJ))))))))))
theorem afJ {a:Rat} (c:AC aD true 164 [af a] (.bT [dR,vB false])):AC aD true 117 [bV (n:=0) (),bF (n:=0) a] (.bT [.list 4 [dR],vB false]):=by
 exact aix 154 Tryz.func117 (k:=go 0 [[0,0,1],[4,0,1,4,5],[5]] (k:=q (aI (n:=0) (hlen:=aP (n:=0) ())) (go 1 [[1,0,1,4,5,28],[5]] (k:=q (uK (es:=[af a]) (e:=af a) (i:=0) rfl rfl) (q fO (q (a_call eN (c)) (go 1 [[6,0,1,4,5,6,7],[4]] (k:=q (jM (xs:=[.tmp 36]) (es:=[dR]) aW) (go 1 [[3,0,1,4,5],[3]] (k:=qJ))))))))))
theorem ahl {a:Rat} (ha:Rb a):AC aD true 117 [bV (n:=0) (),bF (n:=0) a] (.bT [.list 4 (Dl (n:=0) () a),vB (ou (n:=0) () a).isSome]):=by
 have c:=abv ha;have e:ou (n:=0) () a = vM a:=rfl;rw [ahs,e];revert c;cases vM a with
 | none=>exact fun c=>afJ c
 | some w=>exact fun c=>afB c
variable {v w:El n}
theorem aif {u:El n} (hn:n≤7) (ht:PT t σ) (hr:sz r sr) (hx:sz (n:=n + 1) (u,v) s) (hs:s + bD (sr :: σ)≤2199023255551) (hv:iW v = true) (c1:AC aD true 117 [bV t,bF u] (.bT [bF w,vB true])):AC aD true 117 [bV (n:=n + 1) (t,r),bF (n:=n + 1) (u,v)] (.bT [bF (n:=n + 1) (w,zeroE n),vB true]):=by
 have hk2:=@ja sr σ;have hp:=jK (i:=n) (by omega);have hR0:ny (dD n 0):=ny.rat Rb.zero;refine aix 154 Tryz.func117 (k:=go 0 [[0,0,1],[4,0,1,4,5],[5]] (k:=q (aI (n:=n + 1) (hlen:=aP (n:=n + 1) (t,r))) (go 1 [[1,0,1,4,5,28],[5]] (k:=dC 13 mixed (go 3 [[2]] (k:=je (n:=n + 1) (hlen:=aP (n:=n + 1) (t,r)) (ct:=lD (z:=(n:Int)) (hz:=by omega) (ct:=fQ (z:=(n:Int)) ((aA t).map dL) [bF r] (di t r) (by simp [aj]) (ct:=go 3 [[2]] (k:=je (n:=n + 1) (hlen:=aP (n:=n + 1) (t,r)) (ct:=lD (z:=(n:Int)) (hz:=by omega) (ct:=mP (z:=(n:Int)) (i:=n) (es:=(aA (n:=n + 1) (t,r)).map dL) (e:=bF r) rfl (by rw [di,ar (by simp [aj])];simp [aj]) (ct:=go 3 [[4,0,1,4,5,8,9],[2]] (k:=dC 12 mixed (go 3 [[2]] (k:=je (n:=2 ^ (n + 1)) (hlen:=dU (n:=n + 1) (u,v)) (ct:=o9 (z:=((2 ^ n:Nat):Int)) (hz:=kF n) (h2:=dH (by omega)) (hp:=aq _) (ct:=fQ (z:=((2 ^ n:Nat):Int)) ((flat u).map af) ((flat v).map af) (aK u v) (by simp [flat_length]) (ct:=go 3 [[2]] (k:=je (n:=2 ^ (n + 1)) (hlen:=dU (n:=n + 1) (u,v)) (ct:=o9 (z:=((2 ^ n:Nat):Int)) (hz:=kF n) (h2:=dH (by omega)) (hp:=aq _) (ct:=kz (z:=((2 ^ n:Nat):Int)) ((flat u).map af) ((flat v).map af) (aK u v) (by simp [flat_length]) (ct:=go 3 [[3,0,1,4,5,8,9,10,11],[5]] (k:=q (a_call eN (wK (hx.snd.rb (by omega)) (by omega))) (gU [0,1,4,5,8,9,10,11,61] (k:=aT (Zz (h:=(fun hc61=>absurd (hv.symm.trans hc61) (by decide))) (k:=go 0 [[5]] (k:=q (a_call eN (c1)) (go 1 [[5,0,1,4,5,8,9,10,11,12,13],[4,0,1,4,5,8,9,10,11,12,68],[6]] (k:=q (a_call eN (AO)) (q (a_call eN (ND (a:=0) (by omega) ht (by omega) Rb.zero)) (q (jM (xs:=[.tmp 69,.tmp 72]) (es:=[bF w,bF (dD n 0)]) gm) (q (a_call eN (EW qL qL (iK _) (iK _) (OW hn) (ac8 _ _))) (go 1 [[2,0,1,4,5,8,9,10,11],[4]] (k:=?_))))))))))))))))))))))))))))))))))));exact rt_eq qJ (by rw [← aK,qw];rfl)
variable {j1:List D}
theorem aiv {u:El n} (hn:n≤7) (ht:PT t σ) (hr:sz r sr) (hx:sz (n:=n + 1) (u,v) s) (hs:s + bD (sr :: σ)≤2199023255551) {s2:Nat} {j2:List D} {b:Bool} (hv:iW v = true) (hz:nzE t r) (hi:invS σ sr + sr + bD σ≤2199023255551) (h2:s + invS σ sr + bD σ≤2199023255551) (c1:AC aD true 117 [bV t,bF u] (.bT [.list 4 j1,vB false])) (c2:AC aD true 117 [bV t,bF (au t u (fZ t r))] (.bT [.list 4 j2,vB b])) (w2:∀ x∈j2,x.width = 4) (u2:D.ik j2 = true) (l2:j2.length≤2 ^ n):AC aD true 117 [bV (n:=n + 1) (t,r),bF (n:=n + 1) (u,v)] (.bT [.list 4 ((flat (zeroE n)).map af ++ j2),vB b]):=by
 have hk2:=@ja sr σ;have hp:=jK (i:=n) (by omega);have hR0:ny (dD n 0):=ny.rat Rb.zero;have hI:=sz.inv ht hz hr;refine aix 154 Tryz.func117 (k:=go 0 [[0,0,1],[4,0,1,4,5],[5]] (k:=q (aI (n:=n + 1) (hlen:=aP (n:=n + 1) (t,r))) (go 1 [[1,0,1,4,5,28],[5]] (k:=dC 13 mixed (go 3 [[2]] (k:=je (n:=n + 1) (hlen:=aP (n:=n + 1) (t,r)) (ct:=lD (z:=(n:Int)) (hz:=by omega) (ct:=fQ (z:=(n:Int)) ((aA t).map dL) [bF r] (di t r) (by simp [aj]) (ct:=go 3 [[2]] (k:=je (n:=n + 1) (hlen:=aP (n:=n + 1) (t,r)) (ct:=lD (z:=(n:Int)) (hz:=by omega) (ct:=mP (z:=(n:Int)) (i:=n) (es:=(aA (n:=n + 1) (t,r)).map dL) (e:=bF r) rfl (by rw [di,ar (by simp [aj])];simp [aj]) (ct:=go 3 [[4,0,1,4,5,8,9],[2]] (k:=dC 12 mixed (go 3 [[2]] (k:=je (n:=2 ^ (n + 1)) (hlen:=dU (n:=n + 1) (u,v)) (ct:=o9 (z:=((2 ^ n:Nat):Int)) (hz:=kF n) (h2:=dH (by omega)) (hp:=aq _) (ct:=fQ (z:=((2 ^ n:Nat):Int)) ((flat u).map af) ((flat v).map af) (aK u v) (by simp [flat_length]) (ct:=go 3 [[2]] (k:=je (n:=2 ^ (n + 1)) (hlen:=dU (n:=n + 1) (u,v)) (ct:=o9 (z:=((2 ^ n:Nat):Int)) (hz:=kF n) (h2:=dH (by omega)) (hp:=aq _) (ct:=kz (z:=((2 ^ n:Nat):Int)) ((flat u).map af) ((flat v).map af) (aK u v) (by simp [flat_length]) (ct:=go 3 [[3,0,1,4,5,8,9,10,11],[5]] (k:=q (a_call eN (wK (hx.snd.rb (by omega)) (by omega))) (gU [0,1,4,5,8,9,10,11,61] (k:=aT (Zz (h:=(fun hc61=>absurd (hv.symm.trans hc61) (by decide))) (k:=go 0 [[5]] (k:=q (a_call eN (c1)) (go 1 [[5,0,1,4,5,8,9,10,11,12,13],[4,0,1,4,5,8,9,10,11,12,68],[8]] (k:=q (a_call eN (Yv (by omega) ht hz hr hi)) (go 1 [[5,0,1,4,5,8,10,11,14,15],[6,0,1,4,5,8,10,11,14,82],[10]] (k:=q (a_call eN (rJ (by omega) ht (by omega) hx.fst hI (by omega))) (q (a_call eN (c2)) (go 1 [[5,0,1,4,5,8,10,11,16,17],[4]] (k:=q (a_call eN (AO)) (q (a_call eN (ND (a:=0) (by omega) ht (by omega) Rb.zero)) (q aC (q (jM (xs:=[.tmp 94,.tmp 95]) (es:=[bF (dD n 0),.list 4 j2]) gm) (q (a_call eN (EW (l1:=(flat (dD n 0)).map af) (l2:=j2) qL w2 (iK _) u2 (by rw [ao,flat_length];omega) (by rw [kY];simp))) (go 1 [[3,0,1,4,5,8,10,11],[3]] (k:=?_))))))))))))))))))))))))))))))))))))))))));exact rt_eq qJ (by rw [qw])
theorem ag5 {u:El n} (hn:n≤7) (ht:PT t σ) (hr:sz r sr) (hx:sz (n:=n + 1) (u,v) s) (hs:s + bD (sr :: σ)≤2199023255551) (hv:iW v = false) (h2:2 * s + bD (sr :: σ)≤2199023255551) (c1:AC aD true 117 [bV t,bF (fP t r u v)] (.bT [.list 4 j1,vB false])):AC aD true 117 [bV (n:=n + 1) (t,r),bF (n:=n + 1) (u,v)] (.bT [.list 4 [],vB false]):=by
 have hk2:=@ja sr σ;have hp:=jK (i:=n) (by omega);have hR0:ny (dD n 0):=ny.rat Rb.zero;refine aix 154 Tryz.func117 (k:=go 0 [[0,0,1],[4,0,1,4,5],[5]] (k:=q (aI (n:=n + 1) (hlen:=aP (n:=n + 1) (t,r))) (go 1 [[1,0,1,4,5,28],[5]] (k:=dC 13 mixed (go 3 [[2]] (k:=je (n:=n + 1) (hlen:=aP (n:=n + 1) (t,r)) (ct:=lD (z:=(n:Int)) (hz:=by omega) (ct:=fQ (z:=(n:Int)) ((aA t).map dL) [bF r] (di t r) (by simp [aj]) (ct:=go 3 [[2]] (k:=je (n:=n + 1) (hlen:=aP (n:=n + 1) (t,r)) (ct:=lD (z:=(n:Int)) (hz:=by omega) (ct:=mP (z:=(n:Int)) (i:=n) (es:=(aA (n:=n + 1) (t,r)).map dL) (e:=bF r) rfl (by rw [di,ar (by simp [aj])];simp [aj]) (ct:=go 3 [[4,0,1,4,5,8,9],[2]] (k:=dC 12 mixed (go 3 [[2]] (k:=je (n:=2 ^ (n + 1)) (hlen:=dU (n:=n + 1) (u,v)) (ct:=o9 (z:=((2 ^ n:Nat):Int)) (hz:=kF n) (h2:=dH (by omega)) (hp:=aq _) (ct:=fQ (z:=((2 ^ n:Nat):Int)) ((flat u).map af) ((flat v).map af) (aK u v) (by simp [flat_length]) (ct:=go 3 [[2]] (k:=je (n:=2 ^ (n + 1)) (hlen:=dU (n:=n + 1) (u,v)) (ct:=o9 (z:=((2 ^ n:Nat):Int)) (hz:=kF n) (h2:=dH (by omega)) (hp:=aq _) (ct:=kz (z:=((2 ^ n:Nat):Int)) ((flat u).map af) ((flat v).map af) (aK u v) (by simp [flat_length]) (ct:=go 3 [[3,0,1,4,5,8,9,10,11],[5]] (k:=q (a_call eN (wK (hx.snd.rb (by omega)) (by omega))) (gU [0,1,4,5,8,9,10,11,61] (k:=aT (O3 (h:=(fun hc61=>absurd (hv.symm.trans hc61) (by decide))) (k:=go 0 [[7]] (k:=q (a_call eN (SE hn ht hr hx h2)) (q (a_call eN (c1)) (go 1 [[5,4,5,8,10,11,18,19],[6,4,5,8,10,11,18,108],[6,4,5,8,10,11,18],[3]] (k:=?_))))))))))))))))))))))))))))))));exact pW rfl (nO (jJ.nil (.t rfl))) Ee
def Ie {n:Nat} (u m:El n) (i:Nat):El n:=if i = 0 then aH u m else kX u m
variable {i:Nat}
theorem aeP {u m:El n} (h:i < 2):([bF (aH u m),bF (kX u m)]:List D)[i]? = some (bF (Ie u m i)):=by
 match i,h with
 | 0,_=>rfl
 | 1,_=>rfl
theorem b_f {b z:Bool} (h:b = true→z = false) (e:(!b || z) = true):b = false:=by
 cases b
 · rfl
 · rw [h rfl] at e;cases e
theorem b_t {b z:Bool} (e:(!b || z) = false):b = true:=by
 cases b
 · cases e
 · rfl
def Ec (b:Nat→Bool):Option Nat:=if b 0 = true then some 0 else if b 1 = true then some 1 else none
theorem xy {b:Nat→Bool} (h:i < 2) (hb:b i = true) (hj:∀ j,j < i→b j = false):Ec b = some i:=by
 unfold Ec
 match i,h with
 | 0,_=>rw [if_pos hb]
 | 1,_=>rw [if_neg (by rw [hj 0 (by omega)];decide),if_pos hb]
theorem Ez {b:Nat→Bool} (hj:∀ j,j < 2→b j = false):Ec b = none:=by
 unfold Ec;rw [if_neg (by rw [hj 0 (by omega)];decide),if_neg (by rw [hj 1 (by omega)];decide)]
def ae7 {n:Nat} (t:Tw n) (v:El n) (W:Nat→El n):Option Nat→F
 | some i=>.bT [bF (n:=n + 1) (W i,au t v (fZ t (aH (W i) (W i)))),vB true]
 | none=>.bT [.list 4 [],vB false]
theorem YA {u m:El n} {s':Nat} (hu:sz u s) (hm:sz m s'):sz (Ie u m i) (s + s' + 1):=by
 unfold Ie;split
 · exact hu.add hm
 · exact hu.add hm.neg
theorem agS {u:El n} (hn:n≤7) (ht:PT t σ) (hr:sz r sr) (hx:sz (n:=n + 1) (u,v) s) (hs:s + bD (sr :: σ)≤2199023255551) {m:El n} {sm sw:Nat} {J:Nat→List D} {b:Nat→Bool} {W:Nat→El n} (hv:iW v = false) (h2:2 * s + bD (sr :: σ)≤2199023255551) (hm:sz m sm) (h3:s + sm + 2 + bD σ≤2199023255551) (h4:invS σ (sw + 1) + (sw + 1) + bD σ + s≤2199023255551) (c1:AC aD true 117 [bV t,bF (fP t r u v)] (.bT [bF m,vB true])) (cf:∀ i,i < 2→AC aD true 117 [bV t,bF (au t (Ie u m i) (bU n))] (.bT [.list 4 (J i),vB (b i)])) (hf:∀ i,i < 2→b i = true→J i = (flat (W i)).map af∧iW (W i) = false∧sz (W i) sw∧nzE t (aH (W i) (W i))):AC aD true 117 [bV (n:=n + 1) (t,r),bF (n:=n + 1) (u,v)] (ae7 t v W (Ec b)):=by
 have hk2:=@ja sr σ;have hp:=jK (i:=n) (by omega);have hR0:ny (dD n 0):=ny.rat Rb.zero;refine aix 154 Tryz.func117 (k:=go 0 [[0,0,1],[4,0,1,4,5],[5]] (k:=q (aI (n:=n + 1) (hlen:=aP (n:=n + 1) (t,r))) (go 1 [[1,0,1,4,5,28],[5]] (k:=dC 13 mixed (go 3 [[2]] (k:=je (n:=n + 1) (hlen:=aP (n:=n + 1) (t,r)) (ct:=lD (z:=(n:Int)) (hz:=by omega) (ct:=fQ (z:=(n:Int)) ((aA t).map dL) [bF r] (di t r) (by simp [aj]) (ct:=go 3 [[2]] (k:=je (n:=n + 1) (hlen:=aP (n:=n + 1) (t,r)) (ct:=lD (z:=(n:Int)) (hz:=by omega) (ct:=mP (z:=(n:Int)) (i:=n) (es:=(aA (n:=n + 1) (t,r)).map dL) (e:=bF r) rfl (by rw [di,ar (by simp [aj])];simp [aj]) (ct:=go 3 [[4,0,1,4,5,8,9],[2]] (k:=dC 12 mixed (go 3 [[2]] (k:=je (n:=2 ^ (n + 1)) (hlen:=dU (n:=n + 1) (u,v)) (ct:=o9 (z:=((2 ^ n:Nat):Int)) (hz:=kF n) (h2:=dH (by omega)) (hp:=aq _) (ct:=fQ (z:=((2 ^ n:Nat):Int)) ((flat u).map af) ((flat v).map af) (aK u v) (by simp [flat_length]) (ct:=go 3 [[2]] (k:=je (n:=2 ^ (n + 1)) (hlen:=dU (n:=n + 1) (u,v)) (ct:=o9 (z:=((2 ^ n:Nat):Int)) (hz:=kF n) (h2:=dH (by omega)) (hp:=aq _) (ct:=kz (z:=((2 ^ n:Nat):Int)) ((flat u).map af) ((flat v).map af) (aK u v) (by simp [flat_length]) (ct:=go 3 [[3,0,1,4,5,8,9,10,11],[5]] (k:=q (a_call eN (wK (hx.snd.rb (by omega)) (by omega))) (gU [0,1,4,5,8,9,10,11,61] (k:=aT (O3 (h:=(fun hc61=>absurd (hv.symm.trans hc61) (by decide))) (k:=go 0 [[7]] (k:=q (a_call eN (SE hn ht hr hx h2)) (q (a_call eN (c1)) (go 1 [[5,4,5,8,10,11,18,19],[6,4,5,8,10,11,18,108],[10]] (k:=q (a_call eN (Ky (by omega) ht (by omega) (hx.fst.rb (by omega)) (hm.rb (by omega)))) (go 1 [[3]] (k:=q (a_call eN (KJ (by omega) ht (by omega) (hx.fst.rb (by omega)) (hm.rb (by omega)))) (q (jM (xs:=[.tmp 112,.tmp 116]) (es:=[bF (aH u m),bF (kX u m)]) gm) (q (aI (n:=2) (hlen:=rfl)) (go 1 [[1,4,5,8,11,117,118,119],[2]] (k:=?_))))))))))))))))))))))))))))))))))))));refine CT.weak (aZ (ι:=Nat) (fun i=>[(8,.dat (bV t)),(11,.dat (bF v)),(117,.dat (.list 1 [bF (aH u m),bF (kX u m)])),(118,.dat (vI 2)),(119,.dat (vI i))]) (fun i=>i≤2∧∀ j,j < i→b j = false) (fun i=>2 - i) ?_ (0) (⟨by omega,fun _ h=>absurd h (by omega)⟩)) (sbk [8,11,117,118,119]);intro i ⟨hi,hj⟩;refine go 0 [[0,8,11,117,118,119],[3,8,11,117,118,119,120],[2]] (k:=?_);refine bu (fun hc120=>?_) (fun hc120=>?_)
 ·
  refine go 0 [[6]] (k:=?_);have hi2:i < 2:=by omega
  refine q (dZ (z:=(i:Int)) (i:=i) (es:=[bF (aH u m),bF (kX u m)]) (e:=bF (Ie u m i)) rfl (aeP hi2)) (go 1 [[2,8,11,21,117,118,119],[6]] (k:=q (a_call eN (ab4 (by omega) ht (YA hx.fst hm) (by omega))) (q (a_call eN (cf i hi2)) (go 1 [[5,8,11,22,23,117,118,119],[4]] (k:=?_)))));have cz:b i = true→AC aD true 105 [.list 4 (J i)] (.dat (vB (iW (W i)))):=fun hb=>by rw [(hf i hi2 hb).1];exact wK ((hf i hi2 hb).2.2.1.rb (by omega)) (by omega)
  refine go 1 [[3]] (k:=fD (h:=aC) (k:=gq1 134 (h:=fun hg=>a_call eN (cz (by simpa using hg))) (k:=?_)));refine go 1 [[1,8,11,22,117,118,119,136],[1]] (k:=?_);refine dA (fun hc136=>?_) (fun hc136=>?_)
  · have hbf:b i = false:=b_f (fun hb=>(hf i hi2 hb).2.1) hc136;have hnext:∀ j,j < i + 1→b j = false:=fun j h=>(a6.1 h).elim (hj j) fun e=>e ▸ hbf
    refine go 0 [[5]] (k:=q (bH) (q aC (gU [8,11,117,118,119] (k:=?_))));exact aY (i + 1) ⟨⟨by omega,hnext⟩,by omega⟩ (sbk [8,11,117,118,119])
  · have hb:b i = true:=b_t hc136;have hW:=hf i hi2 hb;have hI:=sz.inv ht hW.2.2.2 hW.2.2.1.dbl;rw [hW.1];refine go 0 [[8]] (k:=q (a_call eN (Ky (by omega) ht (by omega) (hW.2.2.1.rb (by omega)) (hW.2.2.1.rb (by omega)))) (q (a_call eN (Yv (by omega) ht hW.2.2.2 hW.2.2.1.dbl (by omega))) (go 1 [[5,8,11,22,24,117,118,119],[7]] (k:=q (a_call eN (rJ (by omega) ht (by omega) hx.snd hI (by omega))) (q (jM (xs:=[.tmp 146,.tmp 150]) (es:=[bF (W i),bF (au t v (fZ t (aH (W i) (W i))))]) gm) (q (a_call eN (EW qL qL (iK _) (iK _) (OW hn) (ac8 _ _))) (go 1 [[2,4,5,8,11,117,118,119],[7]] (k:=?_))))))));exact rt_eq qJ (by rw [xy hi2 hb hj,← aK];rfl)
 · refine go 0 [[9,4,5],[2]] (k:=?_);exact rt_eq (pW rfl (nO (jJ.nil (k:=4) (.t rfl))) Ee) (by rw [Ez fun j h=>hj j (by omega)];rfl)
def OT {n:Nat} (S:Option (El n)) (j:List D):List D:=match S with
 | some w=>(flat w).map af
 | none=>j
variable {a:El n}
theorem dX {S:Option (El n)} (e:ou t a = S):Dl t a = OT S (jA t a)∧(ou t a).isSome = S.isSome:=by
 subst e;exact ⟨rfl,rfl⟩
theorem ags {u m:El n} (h1:dW t) (hr0:r≠zeroE n) (hv:v≠zeroE n) (hm:au t m m = fP t r u v) (hw:au t w w = au t (Ie u m i) (bU n)):w≠zeroE n:=by
 unfold Ie at hw
 split at hw
 · exact zB h1 hr0 hv hm (hw.trans ((jY t).mc _ _))
 · exact zB (m:=bI m) h1 hr0 hv ((uf t m).trans hm) (hw.trans ((jY t).mc _ _))
theorem Rq:∀ {n:Nat} {t:Tw n} {a:El n} {σ:List Nat} {s:Nat},n≤8→PT t σ→dW t→sz a s→Cb σ s≤2199023255551→AC aD true 117 [bV t,bF a] (.bT [.list 4 (Dl t a),vB (ou t a).isSome])
 | 0,_,a,σ,s,_,_,_,ha,hk=>ahl (ha.rb (by have:=@xk σ s;omega) a (aR.2 rfl))
 | n + 1,(t,r),(u,v),[],s,_,ht,_,_,_=>ht.elim
 | n + 1,(t,r),(u,v),sr :: σ,s,hn,ht,hR,hx,hk=>by
  obtain ⟨k1,k2,k3,k4,k5,k6⟩:=Uc hk;have k3':=@xk σ (2 * s + bD (sr :: σ));have k2':=@xk σ (s + invS σ sr + bD σ);have k4':=@xk σ (s + lV σ (2 * s + bD (sr :: σ)) + 2 + bD σ);have hr0:=DR hR;have h1:=hR.1;have hnz:=(jI h1 hr0).1;have hn7:n≤7:=by omega
  have IH:∀ (a:El n) (s:Nat),sz a s→Cb σ s≤2199023255551→AC aD true 117 [bV t,bF a] (.bT [.list 4 (Dl t a),vB (ou t a).isSome]):=fun a s h k=>Rq (by omega) ht.2 h1 h k
  have hI:=sz.inv ht.2 hnz ht.1
  by_cases hv:iW v = true
  ·
   cases e1:ou t u with
   | some w =>
    have c1:=IH u s hx.fst k1;rw [(dX e1).1,(dX e1).2] at c1;have e:ou (n:=n + 1) (t,r) (u,v) = some (w,zeroE n):=by
     show o6 (ou t) t r u v = _;unfold o6;rw [if_pos hv,e1];rfl
    rw [(dX e).1,(dX e).2];exact aif (s:=s) hn7 ht.2 ht.1 hx (by omega) hv c1
   | none =>
    have c1:=IH u s hx.fst k1;rw [(dX e1).1,(dX e1).2] at c1;have c2:=IH (au t u (fZ t r)) _ (sz.mul ht.2 hx.fst hI) k2;obtain ⟨w2,u2,l2⟩:=acy t (au t u (fZ t r));have g:=aiv (s2:=0) hn7 ht.2 ht.1 hx (by omega) hv hnz k6 (by omega) c1 c2 w2 u2 l2;refine g.eq ?_;cases e2:ou t (au t u (fZ t r)) with
    | some w =>
     have e:ou (n:=n + 1) (t,r) (u,v) = some (zeroE n,w):=by
      show o6 (ou t) t r u v = _;unfold o6;rw [if_pos hv,e1];simp only;rw [e2];rfl
     rw [(dX e).1,(dX e).2,(dX e2).1];simp only [OT];rw [aK];rfl
    | none =>
     have e:ou (n:=n + 1) (t,r) (u,v) = none:=by
      show o6 (ou t) t r u v = _;unfold o6;rw [if_pos hv,e1];simp only;rw [e2]
     rw [(dX e).1,(dX e).2,(dX e2).1];simp only [OT];have ej:jA (n:=n + 1) (t,r) (u,v) = (flat (zeroE n)).map af ++ jA t (au t u (fZ t r)):=by
      show vP _ _ _ = _;unfold vP;rw [if_pos hv,e1]
     rw [ej];rfl
  ·
   have hvf:iW v = false:=by simpa using hv
   have hv0:=Nr hv;have hN:=sz.norm ht.2 ht.1 hx;cases em:ou t (fP t r u v) with
   | none =>
    have c1:=IH _ _ hN k3;rw [(dX em).1,(dX em).2] at c1;have e:ou (n:=n + 1) (t,r) (u,v) = none:=by
     show o6 (ou t) t r u v = _;unfold o6;rw [if_neg hv,em]
    have ej:jA (n:=n + 1) (t,r) (u,v) = []:=by
     show vP _ _ _ = _;unfold vP;rw [if_neg hv]
    rw [(dX e).1,(dX e).2];simp only [OT];rw [ej];exact ag5 (s:=s) hn7 ht.2 ht.1 hx (by omega) hvf (by omega) c1
   | some m =>
    have c1:=IH _ _ hN k3;rw [(dX em).1,(dX em).2] at c1;have hm:=pJ h1 em;have hms:sz m (lV σ (2 * s + bD (sr :: σ))):=Dz ht.2 h1 (by rw [hm];exact hN);have hX:∀ i,sz (au t (Ie u m i) (bU n)) (s + lV σ (2 * s + bD (sr :: σ)) + 2 + bD σ):=fun i=>(sz.mul ht.2 (YA hx.fst hms) (sz.half n)).mono (by omega)
    have hW:∀ i w,ou t (au t (Ie u m i) (bU n)) = some w→w≠zeroE n∧sz w (lV σ (s + lV σ (2 * s + bD (sr :: σ)) + 2 + bD σ)):=fun i w e=>by
     have hw:=pJ h1 e;exact ⟨ags h1 hr0 hv0 hm hw,Dz ht.2 h1 (by rw [hw];exact hX i)⟩
    have g:=agS (sm:=lV σ (2 * s + bD (sr :: σ))) (sw:=lV σ (s + lV σ (2 * s + bD (sr :: σ)) + 2 + bD σ)) (J:=fun i=>Dl t (au t (Ie u m i) (bU n))) (b:=fun i=>(ou t (au t (Ie u m i) (bU n))).isSome) (W:=fun i=>(ou t (au t (Ie u m i) (bU n))).getD (zeroE n)) hn7 ht.2 ht.1 hx (by omega) hvf (by omega) hms (by omega) (by omega) c1 (fun i _=>IH _ _ (hX i) k4) (fun i _ hb=>by
     obtain ⟨w,hw⟩:=eo.1 hb;obtain ⟨w0,ws⟩:=hW i w hw;have hd:aH w w≠zeroE n:=fun e=>by
      have:=(oq h1).dbl w;rw [e,(oq h1).sz] at this;exact w0 (((oq h1).s0 w).1 this.symm)
     simp only [hw,bw];refine ⟨UR hw,?_,ws,(jI h1 hd).1⟩;cases hz:iW w with
     | false=>rfl
     | true=>exact absurd (gq.1 hz) w0)
    refine g.eq ?_;have ft:∀ i w,ou t (au t (Ie u m i) (bU n)) = some w→(ou t (au t (Ie u m i) (bU n))).filter (fun w=>!iW w) = some w:=fun i w e=>by
     rw [e,Option.filter_some,if_pos];cases hz:iW w with
     | false=>rfl
     | true=>exact absurd (gq.1 hz) (hW i w e).1
    have es:ou (n:=n + 1) (t,r) (u,v) = o6 (ou t) t r u v:=rfl;have e0:Ie u m 0 = aH u m:=rfl;have e1:Ie u m 1 = kX u m:=rfl;have ej:jA (n:=n + 1) (t,r) (u,v) = []:=by
     show vP _ _ _ = _;unfold vP;rw [if_neg hv]
    cases q0:ou t (au t (Ie u m 0) (bU n)) with
    | some w =>
     have e:ou (n:=n + 1) (t,r) (u,v) = some (w,au t v (fZ t (aH w w))):=by
      rw [es];unfold o6;rw [if_neg hv,em];simp only;rw [← e0,ft 0 w q0];rfl
     have hs:Ec (fun i=>(ou t (au t (Ie u m i) (bU n))).isSome) = some 0:=xy (by omega) (by rw [q0];rfl) (fun j h=>absurd h (by omega));rw [(dX e).1,(dX e).2,hs];simp only [ae7,q0,bw];rfl
    | none =>
     cases q1:ou t (au t (Ie u m 1) (bU n)) with
     | some w =>
      have e:ou (n:=n + 1) (t,r) (u,v) = some (w,au t v (fZ t (aH w w))):=by
       rw [es];unfold o6;rw [if_neg hv,em];simp only;rw [← e0,q0,← e1,ft 1 w q1];rfl
      have hs:Ec (fun i=>(ou t (au t (Ie u m i) (bU n))).isSome) = some 1:=xy (by omega) (by rw [q1];rfl) (fun j h=>by rw [show j = 0 by omega,q0];rfl);rw [(dX e).1,(dX e).2,hs];simp only [ae7,q1,bw];rfl
     | none =>
      have e:ou (n:=n + 1) (t,r) (u,v) = none:=by
       rw [es];unfold o6;rw [if_neg hv,em];simp only;rw [← e0,q0,← e1,q1];rfl
      have hs:Ec (fun i=>(ou t (au t (Ie u m i) (bU n))).isSome) = none:=Ez fun j h=>by
       have:j = 0∨j = 1:=by omega
       rcases this with e | e <;> rw [e]
       · rw [q0];rfl
       · rw [q1];rfl
      rw [(dX e).1,(dX e).2,hs,ej];rfl
structure vJ {n:Nat} (t:Tw n) (σ:List Nat):Prop where
 n8:n≤8
 pt:PT t σ
 red:dW t
 k:bD σ≤2199023255551
 sg:KY lU 2199023255551 σ
 sq:KY Cb 2199023255551 σ
theorem Bd (x:El n):(flat x).map af≠[]:=by
 intro e;have:=congrArg d8 e;have h2:0 < 2 ^ n:=bR (by omega);rw [ao,flat_length] at this;simp at this
theorem jb {l:List D} (h0:l≠[]) (hn:l.length≤1000000) (hu:D.ik l = true):AC aD true 67 [.list 4 l] (.grow 4 l):=by
 exact aix 8 Tryz.func67 (k:=go 0 [[0,0],[3,0,2],[5]] (k:=q (air h0) (go 1 [[0,0,2,4],[6]] (k:=q (BZ aW) (q aC (q (GK aW (hne:=h0) (hb:=by omega) (hu2:=hu)) (go 1 [[1,2],[2]] (k:=qj))))))))
theorem Lp (hn:n≤8):AC aD true 66 [bV t] (.own 1 ((aA t).map dL)):=by
 have hlen:((aA t).map dL).length = n:=by rw [ao,aj]
 generalize hL:(aA t).map dL = L at hlen;refine aix 23 Tryz.func66 (k:=go 0 [[0,0],[3,0,2],[4]] (k:=q (aI (n:=n) (hlen:=aP t)) (q (BV (n:=n) gm rfl rfl (by omega)) ?_)));rw [Az hlen];refine go 1 [[1,0,2,3],[5]] (k:=q (aI (n:=n) (hlen:=aP t)) (go 1 [[1,2,3,9,10,11],[2]] (k:=?_)));refine CT.weak (aZ (ι:=Nat) (fun i=>[(3,.own 1 (nC L i wQ)),(9,.dat (bV t)),(10,.dat (vI n)),(11,.dat (vI i))]) (fun i=>i≤n) (fun i=>n - i) ?_ (0) (av _)) (sbk [3,9,10,11]);intro i hi;refine go 0 [[0,3,9,10,11],[3,3,9,10,11,12],[2]] (k:=?_);refine bu (fun hc12=>?_) (fun hc12=>?_)
 · refine go 0 [[6]] (k:=?_);obtain ⟨u,c,hp⟩:=Pre.ex t (i:=i) (by omega);refine q aC (q (dZ (z:=(i:Int)) (i:=i) (es:=(aA t).map dL) (e:=bF c) rfl hp.at) (go 1 [[3,3,4,5,9,10,11],[2]] (k:=q (jf) (q aC (q aC (q (a_call eN (jb (l:=(flat c).map af) (Bd c) (by rw [ao,flat_length];have:=jK (i:=i) (by omega);omega) (iK _))) (q (OE (i:=i) (es:=nC L i wQ) rfl (by rw [jl (by omega)];omega)) (q (yN (hi:=by rw [jl (by omega)];omega)) ?_))))))));rw [sN (show L[i]? = _ by rw [← hL];exact hp.at)];refine go 1 [[0,3,9,10,11],[3]] (k:=q (bH) (q aC (gU [3,9,10,11] (k:=?_))));exact aY (i + 1) ⟨by omega,by omega⟩ (sbk [3,9,10,11])
 · obtain rfl:i = n:=by omega
   refine go 0 [[9]] (k:=?_);rw [su hlen,← hL];exact gU [2] (k:=aT (lT KZ))
theorem ah9 (hO:vJ t σ) (ha:sz a s) (hq:Cb σ s≤2199023255551) (hg:lU σ (lV σ s)≤2199023255551) (e:ou t a = none):AC aD true 65 [bV t,bF a] (.bT [.list 4 [],vB false]):=by
 have c1:=Rq hO.n8 hO.pt hO.red ha hq;rw [(dX e).1,(dX e).2] at c1;refine aix 24 Tryz.func65 (k:=go 0 [[0,0,1],[4,0,1,4,5],[5]] (k:=q (a_call eN (c1)) (go 1 [[5,0,4,5,6,7],[6,0,4,5,6,15],[6,0,4,5,6],[3]] (k:=?_))));exact pW rfl (nO (jJ.nil (.t rfl))) Ee
theorem ahX (hO:vJ t σ) (ha:sz a s) (hq:Cb σ s≤2199023255551) (hg:lU σ (lV σ s)≤2199023255551) (e:ou t a = some w):AC aD true 65 [bV t,bF a] (.bT [bF (if aJ t w < 0 then bI w else w),vB true]):=by
 have c1:=Rq hO.n8 hO.pt hO.red ha hq;rw [(dX e).1,(dX e).2] at c1;have hw:=pJ hO.red e;have hs:sz w (lV σ s):=Dz hO.pt hO.red (by rw [hw];exact ha);have hle:=@mM σ (lV σ s);refine aix 24 Tryz.func65 (k:=go 0 [[0,0,1],[4,0,1,4,5],[5]] (k:=q (a_call eN (c1)) (go 1 [[5,0,4,5,6,7],[6,0,4,5,6,15],[9]] (k:=q (a_call eN (G9 (x:=w) hO.n8 hO.pt hO.red hO.sg hs hg)) (go 1 [[1,0,4,5,6,19],[1]] (k:=?_))))));refine bu (fun hc19=>?_) (fun hc19=>?_)
 · refine go 0 [[3]] (k:=q (a_call eN (Ze (x:=w) hO.n8 hO.pt hO.k (hs.rb (by omega)))) (go 1 [[1,4,5,6],[6,4,5],[2]] (k:=?_)));exact rt_eq qJ (by rw [if_pos hc19];rfl)
 · refine go 0 [[7,4,5],[2]] (k:=?_);exact rt_eq qJ (by rw [if_neg hc19];rfl)
theorem adA (hO:vJ t σ) (ha:sz a s) (hq:Cb σ s≤2199023255551) (hg:lU σ (lV σ s)≤2199023255551):AC aD true 65 [bV t,bF a] (.bT [.list 4 (OT (wL t a) []),vB (wL t a).isSome]):=by
 rw [ag3 hO.red];cases e:ou t a with
 | none=>exact ah9 hO ha hq hg e
 | some w=>exact ahX hO ha hq hg e
theorem acS (hO:vJ t σ):AC aD true 64 [bV t] (.dat (vB true)):=by
 have h8:=hO.n8;refine aix 38 Tryz.func64 (k:=go 0 [[0,0],[3,0,2],[5]] (k:=q (aI (n:=n) (hlen:=aP t)) (go 1 [[1,0,2,7,8,9],[2]] (k:=?_))));refine CT.weak (aZ (ι:=Nat) (fun i=>[(0,.dat (bV t)),(7,.dat (bV t)),(8,.dat (vI n)),(9,.dat (vI i))]) (fun i=>i≤n) (fun i=>n - i) ?_ (0) (av _)) (sbk [0,7,8,9]);intro i hi;refine go 0 [[0,0,7,8,9],[3,0,7,8,9,10],[2]] (k:=?_);refine bu (fun hc10=>?_) (fun hc10=>?_)
 · refine go 0 [[6]] (k:=?_);obtain ⟨u,c,hp⟩:=Pre.ex t (i:=i) (by omega);obtain ⟨l,hl⟩:=hp.cut;obtain ⟨σ',s',g1,g2,g3,g4⟩:=hp.pt hO.pt;have hk2:=@ja s' σ';have hRu:=hp.red hO.red;have en:ou u c = none:=XC hRu;have c1:=Rq (t:=u) (a:=c) (by omega) g1 hRu.1 g2 (g4 Cb _ hO.sq).1;rw [(dX en).2] at c1;refine q aC (q (dZ (z:=(i:Int)) (i:=i) (es:=(aA t).map dL) (e:=bF c) rfl hp.at) (go 1 [[3,0,3,4,7,8,9],[6]] (k:=q (kR (z:=(i:Int)) ((aA u).map dL) (l.map dL) hl (by simp [aj])) (q aC (q (a_call eN (zX (t:=u) (x:=c) (by omega) g1 (by have:=hO.k;omega) (g2.rb (by have:=hO.k;omega)))) (q iV (q aC (fD (h:=aC) (k:=fD (h:=aC) (k:=qN 21 22 (h:=kR (z:=(i:Int)) ((aA u).map dL) (l.map dL) hl (by simp [aj])) (k:=fD (h:=aC) (k:=qN 23 24 (h:=a_call eN (G9 (t:=u) (x:=c) (by omega) g1 hRu.1 (g4 lU _ hO.sg).2 g2 (g4 lU _ hO.sg).1)) (k:=cZ 25 (h:=oI) (k:=go 1 [[1,0,3,4,7,8,9,27],[1]] (k:=O3 (h:=(by rw [hRu.2.1];decide)) (k:=go 0 [[6]] (k:=q (kR (z:=(i:Int)) ((aA u).map dL) (l.map dL) hl (by simp [aj])) (q aC (q (a_call eN (c1)) (go 1 [[5,0,6,7,8,9],[4,0,7,8,9,36],[6]] (k:=q (bH) (q aC (gU [0,7,8,9] (k:=?_))))))))))))))))))))))));exact aY (i + 1) ⟨by omega,by omega⟩ (sbk [0,7,8,9])
 · exact go 0 [[8,2],[2]] (k:=dG)
theorem aiu (hO:vJ t σ) (ha:sz a s) (hq:Cb σ s≤2199023255551) (hg:lU σ (lV σ s)≤2199023255551) (hs0:0≤aJ t a) (e:wL t a = some w):AC aD true 22 [bV t,bF a] (.bT [bV t,bF w,vI 0]):=by
 have h8:=hO.n8;have hle:=@xk σ s;have c1:=adA hO ha hq hg;rw [e] at c1;refine aix 49 Tryz.func22 (k:=go 0 [[0,0,1],[5,0,1,4,5,6],[7]] (k:=q (a_call eN (zX hO.n8 hO.pt hO.k (ha.rb (by omega)))) (q iV (q aC (fD (h:=aC) (k:=cZ 16 (h:=a_call eN (acS hO)) (k:=cZ 17 (h:=iV) (k:=go 1 [[2,0,1,4,5,6,10],[6]] (k:=q (a_call eN (G9 hO.n8 hO.pt hO.red hO.sg ha (aM (oU (CJ)) hg))) (go 1 [[2,0,1,4,5,6,20],[10]] (k:=q (a_call eN (c1)) (go 1 [[5,0,1,4,5,6,7,8],[4,0,1,4,5,6,7,31],[5]] (k:=q (a_call eN ((Lp hO.n8).og)) (go 1 [[4,0,1,4,5,6],[3]] (k:=?_)))))))))))))));exact rt_eq UN rfl
theorem ahh (hO:vJ t σ) (ha:sz a s) (hq:Cb σ s≤2199023255551) (hg:lU σ (lV σ s)≤2199023255551) (hs0:0≤aJ t a) (e:wL t a = none) (hn7:n≤7) (hks:bD (s :: σ)≤2199023255551):AC aD true 22 [bV t,bF a] (.bT [bV (n:=n + 1) (t,a),bF (gu n),vI 0]):=by
 have h8:=hO.n8;have hle:=@xk σ s;have c1:=adA hO ha hq hg;rw [e] at c1;refine aix 49 Tryz.func22 (k:=go 0 [[0,0,1],[5,0,1,4,5,6],[7]] (k:=q (a_call eN (zX hO.n8 hO.pt hO.k (ha.rb (by omega)))) (q iV (q aC (fD (h:=aC) (k:=cZ 16 (h:=a_call eN (acS hO)) (k:=cZ 17 (h:=iV) (k:=go 1 [[2,0,1,4,5,6,10],[6]] (k:=q (a_call eN (G9 hO.n8 hO.pt hO.red hO.sg ha (aM (oU (CJ)) hg))) (go 1 [[2,0,1,4,5,6,20],[10]] (k:=q (a_call eN (c1)) (go 1 [[5,0,1,4,5,6,7,8],[4,0,1,4,5,6,7,31],[8]] (k:=q (aI (n:=n) (hlen:=aP t)) (go 1 [[1,0,1,4,5,6,37],[7]] (k:=q (a_call eN ((Lp hO.n8).og)) (q aC (q (a_call eN (jb (l:=(flat a).map af) (Bd a) (by rw [ao];exact JK hO.n8) (iK _))) (q (jM (xs:=[.tmp 41]) (es:=[bF a]) gm) (q (iI gm (hb:=by rw [ao,aj];show (n + 1) * 24≤_;omega) (hu2:=rfl)) (go 1 [[1,0,4,5,6,9],[3]] (k:=?_)))))))))))))))))))));refine sq (fun a W h=>h.qK (s:=9) rfl) ?_;rw [← di t a];refine go 1 [[3]] (k:=q (aI (n:=n) (hlen:=aP t)) (q (a_call eN (abx (t:=t) (r:=a) hn7 hO.pt ha hks)) (go 1 [[3,4,5,6],[2]] (k:=?_))));exact rt_eq UN rfl
theorem jG {L:List D} {e:D} (h:L[i]? = some e):L.take i ++ [e] = L.take (i + 1):=by rw [cw,h];rfl
theorem VZ (q:Rat):D.ik [af q] = true:=rfl
variable {l:List Rat}
theorem adW {tD:D} (hl:um l) (hn:l.length≤1000000):AC aD true 86 [tD,dL l] (.grow 4 ((l.map (- ·)).map af)):=by
 have hlen:((l.map (- ·)).map af).length = l.length:=by simp
 generalize hL:(l.map (- ·)).map af = L at hlen;refine aix 22 Tryz.func86 (k:=go 0 [[0,0,1],[3,1,4],[4,1,4,5],[5,1,4,5,6],[2]] (k:=?_));refine CT.fs ?_ (fun a W h=>h.lF (k:=4) (s:=5) rfl);refine CT.weak (aZ (ι:=Nat) (fun i=>[(1,.dat (dL l)),(5,.grow 4 (L.take i)),(6,.dat (vI i))]) (fun i=>i≤l.length) (fun i=>l.length - i) ?_ (0) (av _)) (sbk [1,5,6]);intro i hi;refine go 0 [[0,1,5,6],[5]] (k:=q (aI (n:=l.length) (hlen:=iL l)) (go 1 [[1,1,5,6,10],[1]] (k:=?_)));refine bu (fun hc10=>?_) (fun hc10=>?_)
 · refine go 0 [[5]] (k:=?_);obtain ⟨c,hc,hm⟩:=rP rfl hc10;refine go 1 [[3]] (k:=q (dZ rfl (kM hc)) (q fO (q (a_call eN (aeW (hl c hm))) (q (jM (xs:=[.tmp 18]) (es:=[af (-c)]) aW) (q (iI aW (hb:=by rw [aw];show (min i L.length + 1) * 64≤_;omega) (hu2:=VZ _)) (q vX ?_))))));rw [jG (show L[i]? = _ by rw [← hL];exact WX hc)];refine go 1 [[0,1,5,6],[4]] (k:=q (bH) (q aC (gU [1,5,6] (k:=?_))));exact aY (i + 1) ⟨by omega,by omega⟩ (sbk [1,5,6])
 · obtain rfl:i = l.length:=by omega
   refine go 0 [[9]] (k:=?_);rw [aL (by omega),← hL];exact gU [4] (k:=aT (lT qj))
theorem af9 {tD:D} {r:List Rat} (hl:um l) (hr:um r) (he:r.length = l.length) (hn:l.length≤1000000):AC aD true 82 [tD,dL l,dL r] (.grow 4 ((eA (· + ·) l r).map af)):=by
 have hlen:((eA (· + ·) l r).map af).length = l.length:=by simp [he]
 generalize hL:(eA (· + ·) l r).map af = L at hlen;refine aix 28 Tryz.func82 (k:=go 0 [[0,0,1,2],[3,1,2,6],[4,1,2,6,7],[5,1,2,6,7,8],[2]] (k:=?_));refine CT.fs ?_ (fun a W h=>h.lF (k:=4) (s:=7) rfl);refine CT.weak (aZ (ι:=Nat) (fun i=>[(1,.dat (dL l)),(2,.dat (dL r)),(7,.grow 4 (L.take i)),(8,.dat (vI i))]) (fun i=>i≤l.length) (fun i=>l.length - i) ?_ (0) (av _)) (sbk [1,2,7,8]);intro i hi;refine go 0 [[0,1,2,7,8],[5]] (k:=q (aI (n:=l.length) (hlen:=iL l)) (go 1 [[1,1,2,7,8,12],[1]] (k:=?_)));refine bu (fun hc12=>?_) (fun hc12=>?_)
 · refine go 0 [[4]] (k:=?_);obtain ⟨c,hc,hm⟩:=rP rfl hc12;obtain ⟨c2,hd,hm2⟩:=rP he hc12;refine dC 11 mixed (go 3 [[3]] (k:=mP rfl (kM hc) (ct:=go 3 [[3]] (k:=mP rfl (kM hd) (ct:=go 3 [[1]] (k:=ak eN (afh (hl c hm) (hr c2 hm2)) (ct:=UF aW (ct:=go 3 [[1]] (k:=?_)))))))));refine sq (fun a W h=>h.take (d:=15) (s:=7) rfl rfl (by decide) rfl rfl (by decide)) (sqv [1,2,8,12,15,16,17,18,19,20,21,22,23,24,25] (k:=q (iI aW (hb:=by rw [aw];show (min i L.length + 1) * 64≤_;omega) (hu2:=VZ _)) (q vX ?_)));rw [jG (show L[i]? = _ by rw [← hL];exact Zy hc hd)];refine go 1 [[0,1,2,7,8],[4]] (k:=q (bH) (q aC (gU [1,2,7,8] (k:=?_))));exact aY (i + 1) ⟨by omega,by omega⟩ (sbk [1,2,7,8])
 · obtain rfl:i = l.length:=by omega
   refine go 0 [[9]] (k:=?_);rw [aL (by omega),← hL];exact gU [6] (k:=aT (lT qj))
theorem P9:0 < wl n↔n≠0:=by
 constructor
 · rintro h rfl;exact absurd h (by decide)
 · intro h;rcases eT (wl n) with e | e
   · have:=jQ.1 (f8 e);simp at this;exact absurd this h
   · exact e
theorem aiq (h:∀ j,j < l.length→∀ q,l[j]? = some q→BC q = true):l.all BC = true:=fj.2 fun q hq=>by
 obtain ⟨j,hj',e⟩:=dp hq;exact h j hj' q (by rw [bh hj',e])
theorem ahT {c:Rat} (hm:c∈l) (h:(0:Int) < ((wl c.num.natAbs:Nat):Int)):l.all BC = false:=by
 rw [eZ];refine ⟨c,hm,?_⟩;have h1:=P9.1 (show 0 < wl c.num.natAbs by omega);intro hz;rw [(Bi c).1 hz] at h1;exact h1 rfl
theorem ahp {c:Rat} (h:¬ (0:Int) < ((wl c.num.natAbs:Nat):Int)):BC c = true:=by
 rw [Bi];have h1:¬ (c.num.natAbs≠0):=fun e=>h (by have:=P9.2 e;omega)
 exact db.1 (by omega)
theorem acn (hl:um l) (hn:l.length≤1000000):AC aD true 127 [dL l] (.dat (vB (l.all BC))):=by
 refine aix 18 Tryz.func127 (k:=go 0 [[0,0],[3,0,2],[5,0,2,3],[2]] (k:=?_));refine CT.weak (aZ (ι:=Nat) (fun i=>[(0,.dat (dL l)),(3,.dat (vI i))]) (fun i=>i≤l.length∧∀ j,j < i→∀ q,l[j]? = some q→BC q = true) (fun i=>l.length - i) ?_ (0) (⟨av _,fun _ h=>absurd h (by omega)⟩)) (sbk [0,3]);intro i ⟨hi,hj⟩;refine go 0 [[0,0,3],[5]] (k:=q (aI (n:=l.length) (hlen:=iL l)) (go 1 [[1,0,3,7],[1]] (k:=?_)));refine bu (fun hc7=>?_) (fun hc7=>?_)
 · refine go 0 [[6]] (k:=?_);obtain ⟨c,hc,hm⟩:=rP rfl hc7;refine q aC (q aC (q (dZ rfl (kM hc)) (go 1 [[3]] (k:=q (aI (n:=wl c.num.natAbs) (hlen:=rfl)) (go 1 [[1,0,3,17],[1]] (k:=?_))))));refine bu (fun hc17=>?_) (fun hc17=>?_)
   · refine go 0 [[3,0,2,3],[7]] (k:=?_);exact rt_eq dG (by rw [ahT hm hc17])
   · have hnext:∀ j,j < i + 1→∀ q,l[j]? = some q→BC q = true:=fun j h q' hq'=>(a6.1 h).elim (fun h=>hj j h q' hq') fun h=>by subst h;rw [hc] at hq';injection hq' with hq';rw [← hq'];exact ahp hc17
     refine go 0 [[5]] (k:=q (bH) (q aC (gU [0,3] (k:=?_))));exact aY (i + 1) ⟨⟨by omega,hnext⟩,by omega⟩ (sbk [0,3])
 · refine go 0 [[8,2],[2]] (k:=?_);exact rt_eq dG (by rw [aiq fun j h=>hj j (by omega)])
theorem zW {a:Rat} (hn:n≤8):AC aD true 128 [bV t,af a] (rX (dD n a)):=by
 have hp:=jK (i:=n) (by omega);have hp0:0 < 2 ^ n:=bR (by omega);have hlen:((flat (dD n a)).map af).length = 2 ^ n:=by rw [ao,flat_length]
 have h1:((flat (dD n a)).map af).take 1 = [af a]:=by rw [kY];rfl
 have hz:∀ i,0 < i→i < 2 ^ n→((flat (dD n a)).map af)[i]? = some (af 0):=fun i h0 hi=>by
  obtain ⟨j,rfl⟩:∃ j,i = j + 1:=⟨i - 1,by omega⟩;rw [kY,cG,cP,eK,cJ,if_pos (by omega)]
 show AC aD true _ _ (F.grow 4 ((flat (dD n a)).map af));generalize hL:(flat (dD n a)).map af = L at hlen h1 hz;refine aix 19 Tryz.func128 (k:=go 0 [[0,0,1],[4,0,3,4],[4]] (k:=q (DZ (xs:=[.tmp 6]) (n:=1) (es:=[af a]) aW rfl) (go 1 [[1,0,4,5],[3]] (k:=?_))));refine CT.fs ?_ (fun a W h=>h.Hg (k:=4) (s:=5) rfl rfl);rw [← h1];refine CT.weak (aZ (ι:=Nat) (fun i=>[(0,.dat (bV t)),(5,.grow 4 (L.take (i + 1)))]) (fun i=>i + 1≤2 ^ n) (fun i=>2 ^ n - i) ?_ (0) (by omega)) (sbk [0,5]);intro i hi;refine go 0 [[0,0,5],[3]] (k:=q (jf) (q (uk (n:=i + 1) (hlen:=by simp only [lenOf];rw [aw];congr 1;omega)) (q aC (q (aI (n:=n) (hlen:=aP t)) (q (pI (n:=n) (z:=((2 ^ n:Nat):Int)) (hn0:=by omega) (hz:=yP) (h1:=mX) (h2:=dH (by omega))) (go 1 [[1,0,5,13],[1]] (k:=?_)))))));refine bu (fun hc13=>?_) (fun hc13=>?_)
 · refine go 0 [[5]] (k:=q (a_call eN (mF)) (q (jM (xs:=[.tmp 15]) (es:=[af 0]) aW) (q (iI aW (hb:=by rw [aw];show (min (i + 1) L.length + 1) * 64≤_;omega) (hu2:=VZ _)) (q vX ?_))));rw [jG (hz (i + 1) (by omega) (by omega))];refine gU [0,5] (k:=OM ?_);exact aY (i + 1) ⟨by omega,by omega⟩ (sbk [0,5])
 · refine go 0 [[9]] (k:=?_);rw [aL (by omega)];exact gU [4] (k:=aT (lT qj))
theorem yg {tD:D} (hx:ny x) (hy:ny y) (hn:n≤8):AC aD true 82 [tD,bF x,bF y] (rX (aH x y)) :=
 (af9 hx hy (by rw [flat_length,flat_length]) (JK hn)).eq (by rw [rX,zO])
theorem zL {tD:D} (hx:ny x) (hn:n≤8):AC aD true 86 [tD,bF x] (rX (bI x)) :=
 (adW hx (JK hn)).eq (by rw [rX,wY])
theorem mg (hx:ny x) (hn:n≤8):AC aD true 127 [bF x] (.dat (vB (iW x))) :=
 (acn hx (JK hn)).eq (by rw [x8])
theorem adY {u:El n} (h:(iW y && iW v) = true):(flat (au t x u)).map af ++ (flat (zeroE n)).map af = (flat (au (n:=n + 1) (t,r) (x,y) (u,v))).map af:=by
 simp only [a8] at h;rw [gq.1 h.1,gq.1 h.2,← aK];have hg:=jY t;rw [show au (n:=n + 1) (t,r) (x,zeroE n) (u,zeroE n) = (au t x u,zeroE n) from dQ (by rw [hg.zm,hg.mc _ r,hg.zm,hg.az]) (by rw [hg.zm,hg.mc,hg.zm,hg.az])]
theorem ad3 {u:El n} (h:iW y = true):(flat (au t x u)).map af ++ (flat (au t x v)).map af = (flat (au (n:=n + 1) (t,r) (x,y) (u,v))).map af:=by
 rw [gq.1 h,← aK];have hg:=jY t;rw [show au (n:=n + 1) (t,r) (x,zeroE n) (u,v) = (au t x u,au t x v) from dQ (by rw [hg.mc _ v,hg.zm,hg.mc _ r,hg.zm,hg.az]) (by rw [hg.mc _ u,hg.zm,hg.az])]
theorem ad2 {u:El n} (h:iW v = true):(flat (au t x u)).map af ++ (flat (au t y u)).map af = (flat (au (n:=n + 1) (t,r) (x,y) (u,v))).map af:=by
 rw [gq.1 h,← aK];have hg:=jY t;rw [show au (n:=n + 1) (t,r) (x,y) (u,zeroE n) = (au t x u,au t y u) from dQ (by rw [hg.zm,hg.mc _ r,hg.zm,hg.az]) (by rw [hg.zm,hg.za])]
theorem JP {tD:D} (hx:ny x) (hy:ny y) (hn:n≤8):AC aD true 184 [tD,bF x,bF y] (rX (kX x y)):=by
 exact aix 13 Tryz.func184 (k:=go 0 [[0,0,1,2],[3,0,1,2,6],[7]] (k:=q (a_call eN (zL hy hn)) (q (a_call eN (yg hx hy.neg hn)) (go 1 [[1,6],[2]] (k:=qj)))))
theorem aic {a b:Rat} (ha:Rb a) (hb:Rb b):AC aD true 83 [bV (n:=0) (),bF (n:=0) a,bF (n:=0) b] (rX (n:=0) (Rat.mul a b)):=by
 refine aix 119 Tryz.func83 (k:=go 0 [[0,0,1,2],[3,0,1,2,6],[5]] (k:=q (aI (n:=0) (hlen:=aP (n:=0) ())) (go 1 [[1,0,1,2,6,15],[3]] (k:=dC 7 mixed (go 3 [[1]] (k:=uH (es:=[af a]) (e:=af a) (i:=0) rfl rfl (ct:=go 3 [[2]] (k:=uH (es:=[af b]) (e:=af b) (i:=0) rfl rfl (ct:=go 3 [[1]] (k:=ak eN (afA ha hb) (ct:=go 3 [[1]] (k:=q (DZ (xs:=[.tmp 22]) (n:=1) (es:=[af (a * b)]) aW rfl) (go 1 [[1,0,1,2,6],[3]] (k:=?_))))))))))))));exact PV rfl rfl rfl
theorem ah6 {u:El n} {s':Nat} (hn:n≤7) (ht:PT t σ) (hr:sz r sr) (hx:sz (n:=n + 1) (x,y) s) (hy:sz (n:=n + 1) (u,v) s') (hk:s + s' + bD (sr :: σ)≤2199023255551) (IH:∀ (x y:El n) (s s':Nat),sz x s→sz y s'→s + s' + bD σ≤2199023255551→AC aD true 83 [bV t,bF x,bF y] (rX (au t x y))):AC aD true 83 [bV (n:=n + 1) (t,r),bF (n:=n + 1) (x,y),bF (n:=n + 1) (u,v)] (rX (au (n:=n + 1) (t,r) (x,y) (u,v))):=by
 have hk2:=@ja sr σ;have hxu:=sz.mul ht hx.fst hy.fst;have hyv:=sz.mul ht hx.snd hy.snd;have hyvr:=sz.mul ht hyv hr;have hxv:=sz.mul ht hx.fst hy.snd;have hyu:=sz.mul ht hx.snd hy.fst;refine aix 119 Tryz.func83 (k:=go 0 [[0,0,1,2],[3,0,1,2,6],[5]] (k:=q (aI (n:=n + 1) (hlen:=aP (n:=n + 1) (t,r))) (go 1 [[1,0,1,2,6,15],[7]] (k:=q (aI (n:=2 ^ (n + 1)) (hlen:=dU (n:=n + 1) (x,y))) (q (nR (z:=((2 ^ n:Nat):Int)) (hz:=kF n) (h2:=dH (by omega)) (hp:=aq _)) (go 1 [[1,0,1,2,6,7],[2]] (k:=dC 13 mixed (go 3 [[2]] (k:=je (n:=n + 1) (hlen:=aP (n:=n + 1) (t,r)) (ct:=lD (z:=(n:Int)) (hz:=by omega) (ct:=fQ (z:=(n:Int)) ((aA t).map dL) [bF r] (di t r) (by simp [aj]) (ct:=go 3 [[2]] (k:=je (n:=n + 1) (hlen:=aP (n:=n + 1) (t,r)) (ct:=lD (z:=(n:Int)) (hz:=by omega) (ct:=mP (z:=(n:Int)) (i:=n) (es:=(aA (n:=n + 1) (t,r)).map dL) (e:=bF r) rfl (by rw [di,ar (by simp [aj])];simp [aj]) (ct:=go 3 [[4,1,2,6,7,8,9],[2]] (k:=dC 10 mixed (go 3 [[2]] (k:=kz (z:=((2 ^ n:Nat):Int)) ((flat x).map af) ((flat y).map af) (aK x y) (by simp [flat_length]) (ct:=ak eN (mg (x:=y) (hx.snd.rb (by omega)) (by omega)) (ct:=go 3 [[2]] (k:=kz (z:=((2 ^ n:Nat):Int)) ((flat u).map af) ((flat v).map af) (aK u v) (by simp [flat_length]) (ct:=ak eN (mg (x:=v) (hy.snd.rb (by omega)) (by omega)) (ct:=go 3 [[3,1,2,6,7,8,9,10,11],[2]] (k:=dC 8 mixed (go 3 [[3]] (k:=fQ (z:=((2 ^ n:Nat):Int)) ((flat x).map af) ((flat y).map af) (aK x y) (by simp [flat_length]) (ct:=go 3 [[2]] (k:=fQ (z:=((2 ^ n:Nat):Int)) ((flat u).map af) ((flat v).map af) (aK u v) (by simp [flat_length]) (ct:=ak eN (IH x u s s' hx.fst hy.fst (by omega)) (ct:=go 3 [[2,1,2,6,7,8,9,10,11,12],[6]] (k:=fD (h:=aC) (k:=go 1 [[1,1,2,6,7,8,9,10,11,12,57],[1]] (k:=?_))))))))))))))))))))))))))))))))));refine dA (fun hc57=>?_) (fun hc57=>?_)
 · refine go 0 [[4]] (k:=q (a_call eN (mF)) (q (a_call eN (zW (t:=t) (a:=0) (by omega))) (q (iI aW (hb:=DJ (by omega)) (hu2:=iK _)) (go 1 [[1,1,2,6,7,8,9,10,11],[3]] (k:=?_)))));exact rt_eq qj (by rw [qw,adY hc57])
 ·
  refine go 0 [[6,1,2,6,7,8,9,11,12,63],[1]] (k:=?_);refine dA (fun hc63=>?_) (fun hc63=>?_)
  · refine bP (dC 9 mixed (go 3 [[4]] (k:=fQ (z:=((2 ^ n:Nat):Int)) ((flat x).map af) ((flat y).map af) (aK x y) (by simp [flat_length]) (ct:=go 3 [[2]] (k:=kz (z:=((2 ^ n:Nat):Int)) ((flat u).map af) ((flat v).map af) (aK u v) (by simp [flat_length]) (ct:=ak eN ((IH x v s s' hx.fst hy.snd (by omega)).gd) (ct:=go 3 [[1]] (k:=?_))))))));refine sq (fun a W h=>h.take (d:=64) (s:=12) rfl rfl (by decide) rfl rfl (by decide)) (sqv [1,2,6,7,8,9,11,63,64,65,66,67,68,69,70,71,72] (k:=q (iI aW (hb:=DJ (by omega)) (hu2:=iK _)) (go 1 [[1,1,2,6,7,8,9,11],[3]] (k:=?_))));exact rt_eq qj (by rw [ad3 hc63])
  · refine go 0 [[6,1,2,6,7,8,9,12,74],[1]] (k:=?_);refine dA (fun hc74=>?_) (fun hc74=>?_)
    · refine bP (dC 9 mixed (go 3 [[4]] (k:=kz (z:=((2 ^ n:Nat):Int)) ((flat x).map af) ((flat y).map af) (aK x y) (by simp [flat_length]) (ct:=go 3 [[2]] (k:=fQ (z:=((2 ^ n:Nat):Int)) ((flat u).map af) ((flat v).map af) (aK u v) (by simp [flat_length]) (ct:=ak eN ((IH y u s s' hx.snd hy.fst (by omega)).gd) (ct:=go 3 [[1]] (k:=?_))))))));refine sq (fun a W h=>h.take (d:=75) (s:=12) rfl rfl (by decide) rfl rfl (by decide)) (sqv [1,2,6,7,8,9,74,75,76,77,78,79,80,81,82,83] (k:=q (iI aW (hb:=DJ (by omega)) (hu2:=iK _)) (go 1 [[1,1,2,6,7,8,9],[3]] (k:=?_))));exact rt_eq qj (by rw [ad2 hc74])
    · refine eF (aT (bP ?_));refine CT.fs (dC 14 mixed (go 3 [[6]] (k:=kz (z:=((2 ^ n:Nat):Int)) ((flat x).map af) ((flat y).map af) (aK x y) (by simp [flat_length]) (ct:=go 3 [[2]] (k:=kz (z:=((2 ^ n:Nat):Int)) ((flat u).map af) ((flat v).map af) (aK u v) (by simp [flat_length]) (ct:=ak eN ((IH y v s s' hx.snd hy.snd (by omega)).gd) (ct:=go 3 [[1]] (k:=ak eN ((IH _ r (s + s' + bD σ) sr hyv hr (by omega)).gd) (ct:=ak eN (yg (hxu.rb (by omega)) (hyvr.rb (by omega)) (by omega)) (ct:=go 3 [[2,1,2,6,7,8,12],[2]] (k:=dC 19 mixed (go 3 [[5]] (k:=fQ (z:=((2 ^ n:Nat):Int)) ((flat x).map af) ((flat y).map af) (aK x y) (by simp [flat_length]) (ct:=go 3 [[2]] (k:=kz (z:=((2 ^ n:Nat):Int)) ((flat u).map af) ((flat v).map af) (aK u v) (by simp [flat_length]) (ct:=ak eN ((IH x v s s' hx.fst hy.snd (by omega)).gd) (ct:=go 3 [[3]] (k:=kz (z:=((2 ^ n:Nat):Int)) ((flat x).map af) ((flat y).map af) (aK x y) (by simp [flat_length]) (ct:=go 3 [[2]] (k:=fQ (z:=((2 ^ n:Nat):Int)) ((flat u).map af) ((flat v).map af) (aK u v) (by simp [flat_length]) (ct:=ak eN ((IH y u s s' hx.snd hy.fst (by omega)).gd) (ct:=ak eN ((yg (hxv.rb (by omega)) (hyu.rb (by omega)) (by omega)).gd) (ct:=go 3 [[1]] (k:=?_)))))))))))))))))))))))) (fun a W h=>h.qK (s:=12) rfl);refine sq (fun a W h=>h.take (d:=99) (s:=12) rfl rfl (by decide) rfl rfl (by decide)) (sqv [1,2,6,7,8,99,100,101,102,103,104,105,106,107,108,109,110,111,112,113,114,115,116,117] (k:=q (iI aW (hb:=DJ (by omega)) (hu2:=iK _)) (go 1 [[1,6],[2]] (k:=?_))));exact rt_eq qj (by rw [← aK];rfl)
theorem jS:∀ {n:Nat} {t:Tw n} {x y:El n} {σ:List Nat} {s s':Nat},n≤8→PT t σ→sz x s→sz y s'→s + s' + bD σ≤2199023255551→AC aD true 83 [bV t,bF x,bF y] (rX (au t x y))
 | 0,_,a,b,σ,s,s',_,_,ha,hb,hk=>aic (ha.rb (by omega) a (aR.2 rfl)) (hb.rb (by omega) b (aR.2 rfl))
 | n + 1,(t,r),(x,y),(u,v),[],s,s',hn,ht,hx,hy,hk=>ht.elim
 | n + 1,(t,r),(x,y),(u,v),sr :: σ,s,s',hn,ht,hx,hy,hk=>ah6 (by omega) ht.2 ht.1 hx hy hk fun x y s s' h1 h2 h3=>jS (by omega) ht.2 h1 h2 h3
theorem aby (hR:dW (n:=n + 1) (t,r)) (hx:x≠zeroE n):fZ (n:=n + 1) (t,r) (x,zeroE n) = (fZ t x,zeroE n):=by
 have h:=jY t;have hne:((x,zeroE n):El (n + 1))≠zeroE (n + 1):=fun e=>by injection e with e1 e2;exact hx e1
 refine FY (jI hR hne).2 (dQ ?_ ?_)
 · rw [(jI hR.1 hx).2,h.zm,h.mc _ r,h.zm,h.az]
 · rw [h.zm,h.mc,h.zm,h.az]
theorem abE {a:Rat} (h:Rb a) (h0:a≠0):AC aD true 129 [af a] (.dat (af (ff 1 a))) :=
 (afw h h0).eq (by rw [show ff 1 a = a⁻¹ from by show (1:Rat) / a = a⁻¹;rw [Rat.div_def,Rat.one_mul]])
theorem agZ {a:Rat} (h0:a≠0):¬ ((wl a.num.natAbs:Nat):Int) = 0:=by
 have:a.num.natAbs≠0:=fun e=>h0 (db.1 (by omega))
 have:=P9.2 this;omega
theorem Us (hn:n≤7) (ht:PT t σ) (hr:sz r sr) (hx:sz (n:=n + 1) (x,y) s) (hk:2 * s + bD (sr :: σ)≤2199023255551):AC aD true 130 [bV (n:=n + 1) (t,r),bF (n:=n + 1) (x,y)] (rX (fP t r x y)):=by
 have hk2:=@ja sr σ;have hxx:=sz.mul ht hx.fst hx.fst;have hyy:=sz.mul ht hx.snd hx.snd;have hyr:=sz.mul ht hyy hr;exact aix 43 Tryz.func130 (k:=go 0 [[0,0,1],[3,0,1,4],[4]] (k:=q (aI (n:=2 ^ (n + 1)) (hlen:=dU (n:=n + 1) (x,y))) (q (nR (z:=((2 ^ n:Nat):Int)) (hz:=kF n) (h2:=dH (by omega)) (hp:=aq _)) (go 1 [[1,0,1,4,5],[2]] (k:=dC 13 mixed (go 3 [[2]] (k:=je (n:=n + 1) (hlen:=aP (n:=n + 1) (t,r)) (ct:=lD (z:=(n:Int)) (hz:=by omega) (ct:=fQ (z:=(n:Int)) ((aA t).map dL) [bF r] (di t r) (by simp [aj]) (ct:=go 3 [[2]] (k:=je (n:=n + 1) (hlen:=aP (n:=n + 1) (t,r)) (ct:=lD (z:=(n:Int)) (hz:=by omega) (ct:=mP (z:=(n:Int)) (i:=n) (es:=(aA (n:=n + 1) (t,r)).map dL) (e:=bF r) rfl (by rw [di,ar (by simp [aj])];simp [aj]) (ct:=go 3 [[4,1,4,5,6,7],[2]] (k:=dC 21 mixed (go 3 [[4]] (k:=fQ (z:=((2 ^ n:Nat):Int)) ((flat x).map af) ((flat y).map af) (aK x y) (by simp [flat_length]) (ct:=go 3 [[2]] (k:=fQ (z:=((2 ^ n:Nat):Int)) ((flat x).map af) ((flat y).map af) (aK x y) (by simp [flat_length]) (ct:=ak eN ((jS (by omega) ht hx.fst hx.fst (by omega)).gd) (ct:=go 3 [[4]] (k:=kz (z:=((2 ^ n:Nat):Int)) ((flat x).map af) ((flat y).map af) (aK x y) (by simp [flat_length]) (ct:=go 3 [[2]] (k:=kz (z:=((2 ^ n:Nat):Int)) ((flat x).map af) ((flat y).map af) (aK x y) (by simp [flat_length]) (ct:=ak eN ((jS (by omega) ht hx.snd hx.snd (by omega)).gd) (ct:=go 3 [[1]] (k:=ak eN ((jS (by omega) ht hyy hr (by omega)).gd) (ct:=ak eN (JP (hxx.rb (by omega)) (hyr.rb (by omega)) (by omega)) (ct:=go 3 [[2,4],[2]] (k:=qj))))))))))))))))))))))))))))))
theorem ahZ {a:Rat} (ha:Rb a) (h0:a≠0):AC aD true 84 [bV (n:=0) (),bF (n:=0) a] (.qE 4 ((flat (n:=0) (ff 1 a)).map af) [vI 0]):=by
 refine aix 81 Tryz.func84 (k:=go 0 [[0,0,1],[4,0,1,4,5],[5]] (k:=q (aI (n:=0) (hlen:=aP (n:=0) ())) (go 1 [[1,0,1,4,5,14],[6]] (k:=q (uK (es:=[af a]) (e:=af a) (i:=0) rfl rfl) (go 1 [[3]] (k:=q (aI (n:=wl a.num.natAbs) (hlen:=rfl)) (go 1 [[1,0,1,4,5,21],[1]] (k:=UO (h:=(agZ h0)) (k:=go 0 [[5]] (k:=q (uK (es:=[af a]) (e:=af a) (i:=0) rfl rfl) (q fO (q (a_call eN (abE ha h0)) (q (DZ (xs:=[.tmp 25]) (n:=1) (es:=[af (ff 1 a)]) aW rfl) (q vX (q ae9 ?_)))))))))))))));refine sq (fun a W h=>h.Hg (k:=4) (s:=4) rfl rfl) (go 1 [[0,0,1,4,5],[3]] (k:=?_));exact rt_eq (Qe rfl rfl Ee) rfl
theorem afr:AC aD true 84 [bV (n:=0) (),bF (n:=0) (0:Rat)] (.bT [.list 4 [],vI 6]):=by
 refine aix 81 Tryz.func84 (k:=go 0 [[0,0,1],[4,0,1,4,5],[5]] (k:=q (aI (n:=0) (hlen:=aP (n:=0) ())) (go 1 [[1,0,1,4,5,14],[6]] (k:=q (uK (es:=[af 0]) (e:=af 0) (i:=0) rfl rfl) (go 1 [[3]] (k:=q (aI (n:=0) (hlen:=rfl)) (go 1 [[1,0,1,4,5,21],[6,0,1,4,5],[4]] (k:=?_))))))));exact rt_eq (pW rfl (nO (jJ.nil (k:=4) (.t rfl))) Ee) rfl
theorem aip (hn:n≤7) (ht:PT t σ) (hr:sz r sr) (hx:sz (n:=n + 1) (x,y) s) (hs:s≤2199023255551) (hv:iW y = true) (hR:dW (n:=n + 1) (t,r)) (h0:x≠zeroE n) (c1:AC aD true 84 [bV t,bF x] (.qE 4 ((flat (fZ t x)).map af) [vI 0])):AC aD true 84 [bV (n:=n + 1) (t,r),bF (n:=n + 1) (x,y)] (.qE 4 ((flat (n:=n + 1) (fZ (n:=n + 1) (t,r) (x,y))).map af) [vI 0]):=by
 refine aix 81 Tryz.func84 (k:=go 0 [[0,0,1],[4,0,1,4,5],[5]] (k:=q (aI (n:=n + 1) (hlen:=aP (n:=n + 1) (t,r))) (go 1 [[1,0,1,4,5,14],[7]] (k:=q (aI (n:=2 ^ (n + 1)) (hlen:=dU (n:=n + 1) (x,y))) (q (nR (z:=((2 ^ n:Nat):Int)) (hz:=kF n) (h2:=dH (by omega)) (hp:=aq _)) (go 1 [[1,0,1,4,5,6],[5]] (k:=q (aI (n:=n + 1) (hlen:=aP (n:=n + 1) (t,r))) (q (eG (z:=(n:Int)) (hz:=by omega)) (q (kR (z:=(n:Int)) ((aA t).map dL) [bF r] (di t r) (by simp [aj])) (go 1 [[1,0,1,4,5,6,7],[6]] (k:=q (SK (z:=((2 ^ n:Nat):Int)) ((flat x).map af) ((flat y).map af) (aK x y) (by simp [flat_length])) (q (a_call eN (mg (x:=y) (hx.snd.rb (by omega)) (by omega))) (gU [0,1,4,5,6,7,38] (k:=aT (Zz (h:=(fun hc38=>absurd (hv.symm.trans hc38) (by decide))) (k:=go 0 [[5]] (k:=q (kR (z:=((2 ^ n:Nat):Int)) ((flat x).map af) ((flat y).map af) (aK x y) (by simp [flat_length])) (q (a_call eN (c1)) (q vX (q (Zu) (go 1 [[3,0,1,4,5,6,7,8,9],[6,0,1,4,5,6,7,8,9,48],[1]] (k:=UO (h:=(fun hc48=>absurd rfl hc48)) (k:=go 0 [[6]] (k:=q (a_call eN (mF)) (q (a_call eN (zW (t:=t) (a:=0) (by omega))) (q (iI aW (hb:=DJ (by omega)) (hu2:=iK _)) (go 1 [[2,0,1,4,5,6,7],[3]] (k:=?_))))))))))))))))))))))))))));exact rt_eq (Qe rfl rfl Ee) (by rw [gq.1 hv,aby hR h0,qw,aK])
theorem agl (hn:n≤7) (ht:PT t σ) (hr:sz r sr) (hx:sz (n:=n + 1) (x,y) s) (hs:s≤2199023255551) (hv:iW y = true) (c1:AC aD true 84 [bV t,bF x] (.bT [.list 4 [],vI 6])):AC aD true 84 [bV (n:=n + 1) (t,r),bF (n:=n + 1) (x,y)] (.bT [.list 4 [],vI 6]):=by
 refine aix 81 Tryz.func84 (k:=go 0 [[0,0,1],[4,0,1,4,5],[5]] (k:=q (aI (n:=n + 1) (hlen:=aP (n:=n + 1) (t,r))) (go 1 [[1,0,1,4,5,14],[7]] (k:=q (aI (n:=2 ^ (n + 1)) (hlen:=dU (n:=n + 1) (x,y))) (q (nR (z:=((2 ^ n:Nat):Int)) (hz:=kF n) (h2:=dH (by omega)) (hp:=aq _)) (go 1 [[1,0,1,4,5,6],[5]] (k:=q (aI (n:=n + 1) (hlen:=aP (n:=n + 1) (t,r))) (q (eG (z:=(n:Int)) (hz:=by omega)) (q (kR (z:=(n:Int)) ((aA t).map dL) [bF r] (di t r) (by simp [aj])) (go 1 [[1,0,1,4,5,6,7],[6]] (k:=q (SK (z:=((2 ^ n:Nat):Int)) ((flat x).map af) ((flat y).map af) (aK x y) (by simp [flat_length])) (q (a_call eN (mg (x:=y) (hx.snd.rb (by omega)) (by omega))) (gU [0,1,4,5,6,7,38] (k:=aT (Zz (h:=(fun hc38=>absurd (hv.symm.trans hc38) (by decide))) (k:=go 0 [[5]] (k:=q (kR (z:=((2 ^ n:Nat):Int)) ((flat x).map af) ((flat y).map af) (aK x y) (by simp [flat_length])) (q (a_call eN (c1)) (go 1 [[5,0,1,4,5,6,7,8,9],[6,0,1,4,5,6,7,8,9,48],[7,0,1,4,5,6,7,8],[4]] (k:=?_))))))))))))))))))));exact rt_eq (pW rfl (nO (jJ.nil (k:=4) (.t rfl))) Ee) rfl
theorem ahP (hn:n≤7) (ht:PT t σ) (hr:sz r sr) (hx:sz (n:=n + 1) (x,y) s) (hv:iW y = false) (hz:nzE t (fP t r x y)) (hk:invS (sr :: σ) s + s + bD (sr :: σ)≤2199023255551) (c1:AC aD true 84 [bV t,bF (fP t r x y)] (.qE 4 ((flat (fZ t (fP t r x y))).map af) [vI 0])):AC aD true 84 [bV (n:=n + 1) (t,r),bF (n:=n + 1) (x,y)] (.qE 4 ((flat (n:=n + 1) (fZ (n:=n + 1) (t,r) (x,y))).map af) [vI 0]):=by
 have hk2:=@ja sr σ;have hk3:=@J7 σ (2 * s + bD (sr :: σ));have hk4:invS (sr :: σ) s = s + invS σ (2 * s + bD (sr :: σ)) + bD σ:=rfl;have hN:=sz.norm ht hr hx;have hI:=sz.inv ht hz hN;refine aix 81 Tryz.func84 (k:=go 0 [[0,0,1],[4,0,1,4,5],[5]] (k:=q (aI (n:=n + 1) (hlen:=aP (n:=n + 1) (t,r))) (go 1 [[1,0,1,4,5,14],[7]] (k:=q (aI (n:=2 ^ (n + 1)) (hlen:=dU (n:=n + 1) (x,y))) (q (nR (z:=((2 ^ n:Nat):Int)) (hz:=kF n) (h2:=dH (by omega)) (hp:=aq _)) (go 1 [[1,0,1,4,5,6],[5]] (k:=q (aI (n:=n + 1) (hlen:=aP (n:=n + 1) (t,r))) (q (eG (z:=(n:Int)) (hz:=by omega)) (q (kR (z:=(n:Int)) ((aA t).map dL) [bF r] (di t r) (by simp [aj])) (go 1 [[1,0,1,4,5,6,7],[6]] (k:=q (SK (z:=((2 ^ n:Nat):Int)) ((flat x).map af) ((flat y).map af) (aK x y) (by simp [flat_length])) (q (a_call eN (mg (x:=y) (hx.snd.rb (by omega)) (by omega))) (gU [0,1,4,5,6,7,38] (k:=aT (O3 (h:=(fun hc38=>absurd (hv.symm.trans hc38) (by decide))) (k:=go 0 [[7]] (k:=q (a_call eN (Us hn ht hr hx (by omega))) (q (a_call eN (c1)) (q vX (q (Zu) (go 1 [[3,1,4,5,6,7,10,11],[6,1,4,5,6,7,10,11,64],[1]] (k:=UO (h:=(fun hc64=>absurd rfl hc64)) (k:=eF (aT (bP ?_)))))))))))))))))))))))));refine CT.fs (dC 14 mixed (go 3 [[3]] (k:=fQ (z:=((2 ^ n:Nat):Int)) ((flat x).map af) ((flat y).map af) (aK x y) (by simp [flat_length]) (ct:=go 3 [[1]] (k:=ak eN (jS (by omega) ht hx.fst hI (by omega)) (ct:=go 3 [[4]] (k:=kz (z:=((2 ^ n:Nat):Int)) ((flat x).map af) ((flat y).map af) (aK x y) (by simp [flat_length]) (ct:=ak eN ((zL (hx.snd.rb (by omega)) (by omega)).gd) (ct:=go 3 [[1]] (k:=ak eN ((jS (by omega) ht hx.snd.neg hI (by omega)).gd) (ct:=go 3 [[1]] (k:=q (iI aW (hb:=DJ (by omega)) (hu2:=iK _)) (go 1 [[2,4,5],[2]] (k:=?_)))))))))))))) (fun a W h=>h.qK (s:=10) rfl);exact rt_eq (Qe rfl rfl Ee) (by rw [(wE t _ _).2,← aK];rfl)
theorem Dv:∀ {n:Nat} {t:Tw n} {x:El n} {σ:List Nat} {s:Nat},n≤8→PT t σ→dW t→x≠zeroE n→sz x s→invS σ s + s + bD σ≤2199023255551→AC aD true 84 [bV t,bF x] (.qE 4 ((flat (fZ t x)).map af) [vI 0])
 | 0,_,a,σ,s,_,_,_,h0,ha,hk=>ahZ (ha.rb (by omega) a (aR.2 rfl)) h0
 | n + 1,(t,r),(x,y),[],s,hn,ht,hR,h0,hx,hk=>ht.elim
 | n + 1,(t,r),(x,y),sr :: σ,s,hn,ht,hR,h0,hx,hk=>by
  have hk2:=@ja sr σ;have hk3:=@J7 σ (2 * s + bD (sr :: σ));have hk4:invS (sr :: σ) s = s + invS σ (2 * s + bD (sr :: σ)) + bD σ:=rfl;cases hv:iW y with
  | true =>
   have hx0:x≠zeroE n:=fun e=>h0 (by rw [e,gq.1 hv];rfl)
   exact aip (by omega) ht.2 ht.1 hx (by omega) hv hR hx0 (Dv (by omega) ht.2 hR.1 hx0 hx.fst (by have:=@BK σ s (2 * s + bD (sr :: σ)) (by omega);omega))
  | false =>
   have hN0:fP t r x y≠zeroE n:=fun e=>by
    obtain ⟨e1,e2⟩:=tK (oq hR.1) hR.2.2 e;exact h0 (by rw [e1,e2];rfl)
   exact ahP (by omega) ht.2 ht.1 hx hv (jI hR.1 hN0).1 hk (Dv (by omega) ht.2 hR.1 hN0 (sz.norm ht.2 ht.1 hx) (by omega))
theorem Rf:∀ {n:Nat} {t:Tw n} {σ:List Nat},n≤8→PT t σ→bD σ≤2199023255551→AC aD true 84 [bV t,bF (zeroE n)] (.bT [.list 4 [],vI 6])
 | 0,_,σ,_,_,_=>afr
 | n + 1,(t,r),[],hn,ht,hk=>ht.elim
 | n + 1,(t,r),sr :: σ,hn,ht,hk=>agl (s:=0) (by omega) ht.2 ht.1 (sz.zero (n + 1) 0) (by omega) (gq.2 rfl) (Rf (by omega) ht.2 (by have:=@ja sr σ;omega))
theorem OJ (hl:um l) (hn:l.length = n) (hb:n≤1000000):AC aD true 188 [dL l,vI n] (.dat (vB true)):=by
 refine aix 22 Tryz.func188 (k:=go 0 [[0,0,1],[3,0,1,4],[5,0,1,4,5],[2]] (k:=?_));refine CT.weak (aZ (ι:=Nat) (fun i=>[(0,.dat (dL l)),(1,.dat (vI n)),(5,.dat (vI i))]) (fun i=>i≤l.length) (fun i=>l.length - i) ?_ (0) (av _)) (sbk [0,1,5]);intro i hi;refine go 0 [[0,0,1,5],[5]] (k:=q (aI (n:=l.length) (hlen:=iL l)) (go 1 [[1,0,1,5,9],[1]] (k:=?_)));refine bu (fun hc9=>?_) (fun hc9=>?_)
 · refine go 0 [[6]] (k:=?_);obtain ⟨c,hc,hm⟩:=rP rfl hc9;refine q aC (q aC (q (dZ rfl (kM hc)) (q fO (q (a_call eN (aah (hl c hm))) (go 1 [[1,0,1,5,17],[7]] (k:=q (bH) (q aC (gU [0,1,5] (k:=?_)))))))));exact aY (i + 1) ⟨by omega,by omega⟩ (sbk [0,1,5])
 · refine go 0 [[8]] (k:=q (aI (n:=l.length) (hlen:=iL l)) (go 1 [[3,4],[2]] (k:=?_)));exact rt_eq dG (by rw [decide_eq_true (by omega)])
theorem YI {t:List (List Rat)} (ht:Tok t):AC aD true 187 [kV t] (.dat (vB true)):=by
 refine aix 18 Tryz.func187 (k:=go 0 [[0,0],[3,0,2],[5,0,2,3],[2]] (k:=?_));refine CT.weak (aZ (ι:=Nat) (fun i=>[(0,.dat (kV t)),(3,.dat (vI i))]) (fun i=>i≤t.length) (fun i=>t.length - i) ?_ (0) (av _)) (sbk [0,3]);intro i hi;refine go 0 [[0,0,3],[5]] (k:=q (aI (n:=t.length) (hlen:=gZ t)) (go 1 [[1,0,3,7],[1]] (k:=?_)));refine bu (fun hc7=>?_) (fun hc7=>?_)
 · refine go 0 [[5]] (k:=?_);have h8:=ht.1;obtain ⟨r,hr⟩:=adk rfl hc7;refine dC 8 mixed (go 3 [[2]] (k:=mP rfl (jV hr) (ct:=go 3 [[2]] (k:=QC (n:=i) (z:=((2 ^ i:Nat):Int)) (hn0:=by omega) (hz:=yP) (h1:=mX) (h2:=dH (by omega)) (ct:=ak eN (OJ (ht.2 i r hr).2 (ht.2 i r hr).1 (by have:=jK (i:=i) (by omega);omega)) (ct:=OA (ct:=go 3 [[1,0,3,17],[7]] (k:=q (bH) (q aC (gU [0,3] (k:=?_)))))))))));exact aY (i + 1) ⟨by omega,by omega⟩ (sbk [0,3])
 · exact go 0 [[8,2],[2]] (k:=dG)
theorem abb {t:List (List Rat)} (ht:Tok t) (hl:um l) (hn:l.length = 2 ^ t.length):AC aD true 134 [kV t,dL l] (.dat (vB true)):=by
 have h8:=ht.1;have hp:=jK (i:=t.length) (by omega);exact aix 14 Tryz.func134 (k:=go 0 [[0,0,1],[3,0,1,4],[4]] (k:=q (a_call eN (YI ht)) (q aC (fD (h:=aC) (k:=fD (h:=aC) (k:=cZ 9 (h:=aI (n:=t.length) (hlen:=gZ t)) (k:=cZ 10 (h:=pI (n:=t.length) (z:=((2 ^ t.length:Nat):Int)) (hn0:=by omega) (hz:=yP) (h1:=mX) (h2:=dH (by omega))) (k:=qN 8 11 (h:=a_call eN (OJ hl hn (by omega))) (k:=go 1 [[2,4],[2]] (k:=dG))))))))))
theorem O6 (hn:n≤8) (ht:PT t σ) (hk:bD σ≤2199023255551) (hx:ny x):AC aD true 134 [bV t,bF x] (.dat (vB true)) :=
 abb (ht.tok hk hn) hx (by rw [flat_length,aj])
theorem aeE (h:(decide (aJ t y = 0) || decide (aJ t x = aJ t y)) = false) (h2:¬ aJ t x = 0):aJ (n:=n + 1) (t,r) (x,y) = aJ t x * aJ t (fP t r x y):=by
 rw [adm h h2,AX]
theorem aiK {a:Rat} (ha:Rb a):AC aD true 131 [bV (n:=0) (),bF (n:=0) a] (.dat (vI a.num.sign)):=by
 exact aix 60 Tryz.func131 (k:=go 0 [[0,0,1],[3,0,1,4],[5]] (k:=q (aI (n:=0) (hlen:=aP (n:=0) ())) (go 1 [[1,0,1,4,12],[5]] (k:=q (uK (es:=[af a]) (e:=af a) (i:=0) rfl rfl) (q fO (q (a_call eN (Tn ha)) (go 1 [[1,0,1,4],[3]] (k:=dG))))))))
theorem aiY (hn:n≤7) (ht:PT t σ) (hr:sz r sr) (hx:sz (n:=n + 1) (x,y) s) (hk:lU (sr :: σ) s≤2199023255551) (IH:∀ (x:El n) (s:Nat),sz x s→lU σ s≤2199023255551→AC aD true 131 [bV t,bF x] (.dat (vI (aJ t x)))):AC aD true 131 [bV (n:=n + 1) (t,r),bF (n:=n + 1) (x,y)] (.dat (vI (aJ (n:=n + 1) (t,r) (x,y)))):=by
 have hk2:=@ja sr σ;have hk3:=@mM σ (2 * s + bD (sr :: σ));have hk4:lU (sr :: σ) s = lU σ (2 * s + bD (sr :: σ)):=rfl;have hsm:lU σ s≤2199023255551:=aM (oU (by omega)) hk;have rx:=qh t x;have ry:=qh t y;have rd:=qh t (fP t r x y);have rm:=Tt _ _ rx rd;have hN:=sz.norm ht hr hx;refine aix 60 Tryz.func131 (k:=go 0 [[0,0,1],[3,0,1,4],[5]] (k:=q (aI (n:=n + 1) (hlen:=aP (n:=n + 1) (t,r))) (go 1 [[1,0,1,4,12],[7]] (k:=q (aI (n:=n + 1) (hlen:=aP (n:=n + 1) (t,r))) (q (eG (z:=(n:Int)) (hz:=by omega)) (go 1 [[1,0,1,4,5],[2]] (k:=dC 12 mixed (go 3 [[2]] (k:=je (n:=2 ^ (n + 1)) (hlen:=dU (n:=n + 1) (x,y)) (ct:=o9 (z:=((2 ^ n:Nat):Int)) (hz:=kF n) (h2:=dH (by omega)) (hp:=aq _) (ct:=fQ (z:=((2 ^ n:Nat):Int)) ((flat x).map af) ((flat y).map af) (aK x y) (by simp [flat_length]) (ct:=go 3 [[2]] (k:=je (n:=2 ^ (n + 1)) (hlen:=dU (n:=n + 1) (x,y)) (ct:=o9 (z:=((2 ^ n:Nat):Int)) (hz:=kF n) (h2:=dH (by omega)) (hp:=aq _) (ct:=kz (z:=((2 ^ n:Nat):Int)) ((flat x).map af) ((flat y).map af) (aK x y) (by simp [flat_length]) (ct:=go 3 [[3,0,1,4,5,6,7],[2]] (k:=dC 12 mixed (go 3 [[2]] (k:=fQ (z:=(n:Int)) ((aA t).map dL) [bF r] (di t r) (by simp [aj]) (ct:=go 3 [[1]] (k:=ak eN (IH x s hx.fst hsm) (ct:=go 3 [[2]] (k:=fQ (z:=(n:Int)) ((aA t).map dL) [bF r] (di t r) (by simp [aj]) (ct:=go 3 [[1]] (k:=ak eN (IH y s hx.snd hsm) (ct:=go 3 [[3,0,1,4,5,8,9],[7]] (k:=fD (h:=aC) (k:=fD (h:=aC) (k:=qN 43 44 (h:=TV) (k:=go 1 [[1,0,1,4,5,8,9,46],[1]] (k:=?_)))))))))))))))))))))))))))))));refine dA (fun hc46=>?_) (fun hc46=>?_)
 · refine go 0 [[4,0,1,4,5,8,9],[3]] (k:=?_);exact rt_eq dG (by rw [adM hc46])
 · refine go 0 [[7,0,1,4,5,8,9,49],[1]] (k:=?_);refine bu (fun hc49=>?_) (fun hc49=>?_)
   · refine go 0 [[4,0,1,4,5,8],[3]] (k:=?_);exact rt_eq dG (by rw [adU hc46 hc49])
   · refine eF (aT (bP (dC 10 mixed (go 3 [[3]] (k:=fQ (z:=(n:Int)) ((aA t).map dL) [bF r] (di t r) (by simp [aj]) (ct:=go 3 [[2]] (k:=ak eN ((Us hn ht hr hx (by omega)).gd) (ct:=ak eN (IH _ _ hN (by omega)) (ct:=WY (z:=aJ t x * aJ t (fP t r x y)) (hz:=rfl) (h1:=by omega) (h2:=by omega) (ct:=go 3 [[2,4],[2]] (k:=?_)))))))))));exact rt_eq dG (by rw [aeE hc46 hc49])
theorem acG:∀ {n:Nat} {t:Tw n} {x:El n} {σ:List Nat} {s:Nat},n≤8→PT t σ→sz x s→lU σ s≤2199023255551→AC aD true 131 [bV t,bF x] (.dat (vI (aJ t x)))
 | 0,_,a,σ,s,_,ht,ha,hk=>aiK (ha.rb (by have:=@mM σ s;omega) a (aR.2 rfl))
 | n + 1,(t,r),(x,y),[],s,hn,ht,hx,hk=>ht.elim
 | n + 1,(t,r),(x,y),sr :: σ,s,hn,ht,hx,hk=>aiY (by omega) ht.2 ht.1 hx hk fun x s h1 h2=>acG (by omega) ht.2 h1 h2
theorem aat (hO:vJ t σ):AC aD true 218 [bV t] (.dat (vB true)):=by
 have h8:=hO.n8;refine aix 22 Tryz.func218 (k:=go 0 [[0,0],[3,0,2],[5]] (k:=q (a_call eN (YI (hO.pt.tok hO.k hO.n8))) (go 1 [[1,0,2,6],[8,0,2,3],[2]] (k:=?_))));refine CT.weak (aZ (ι:=Nat) (fun i=>[(0,.dat (bV t)),(3,.dat (vI i))]) (fun i=>i≤n) (fun i=>n - i) ?_ (0) (av _)) (sbk [0,3]);intro i hi;refine go 0 [[0,0,3],[5]] (k:=q (aI (n:=n) (hlen:=aP t)) (go 1 [[1,0,3,10],[1]] (k:=?_)));refine bu (fun hc10=>?_) (fun hc10=>?_)
 · refine go 0 [[5]] (k:=?_);obtain ⟨u,c,hp⟩:=Pre.ex t (i:=i) (by omega);obtain ⟨l,hl⟩:=hp.cut;obtain ⟨σ',s',g1,g2,g3,g4⟩:=hp.pt hO.pt;refine dC 9 mixed (go 3 [[2]] (k:=fQ (z:=(i:Int)) ((aA u).map dL) (l.map dL) hl (by simp [aj]) (ct:=go 3 [[2]] (k:=mP (z:=(i:Int)) (i:=i) (es:=(aA t).map dL) (e:=bF c) rfl hp.at (ct:=go 3 [[1]] (k:=ak eN (acG (t:=u) (x:=c) (by omega) g1 g2 (g4 lU _ hO.sg).1) (ct:=ZP (ct:=go 3 [[1,0,3,21],[1]] (k:=UO (h:=(by rw [(hp.red hO.red).2.1];decide)) (k:=go 0 [[5]] (k:=q (bH) (q aC (gU [0,3] (k:=?_))))))))))))));exact aY (i + 1) ⟨by omega,by omega⟩ (sbk [0,3])
 · exact go 0 [[8,2],[2]] (k:=dG)
theorem nP (hO:vJ t σ) (hx:sz x s) (hk:lU σ s≤2199023255551):AC aD true 185 [bV t,bF x] (.dat (vI (aJ t x))):=by
 have hk3:=@mM σ s;exact aix 17 Tryz.func185 (k:=go 0 [[0,0,1],[3,0,1,4],[6]] (k:=q (a_call eN (O6 hO.n8 hO.pt hO.k (hx.rb (by omega)))) (q iV (q aC (fD (h:=aC) (k:=cZ 10 (h:=a_call eN (aat hO)) (k:=cZ 11 (h:=iV) (k:=go 1 [[1,0,1,4,13],[8]] (k:=q (a_call eN (acG hO.n8 hO.pt hx hk)) (go 1 [[1,4],[2]] (k:=dG)))))))))))
theorem acw (hn:n≤8) (ht:PT t σ) (hx:sz x s) (hk:lU σ s≤2199023255551):AC aD true 85 [bV t,bF x] (.dat (vI (aJ t x))):=by
 exact aix 8 Tryz.func85 (k:=go 0 [[0,0,1],[3,0,1,4],[5]] (k:=q (a_call eN (acG hn ht hx hk)) (go 1 [[1,4],[2]] (k:=dG))))
def vF {n:Nat} (m:El n):Nat→El n
 | 0=>m
 | i + 1=>bI (vF m i)
def YC {n:Nat} (t:Tw n) (v:El n) (W:Nat→El n):Option Nat→F
 | some i=>.bT [bF (n:=n + 1) (W i,au t (bU n) (au t v (fZ t (W i)))),vB true]
 | none=>.bT [.list 4 [],vB false]
theorem Bq {n:Nat} {m:El n} {s:Nat} (h:sz m s):∀ i,sz (vF m i) s
 | 0=>h
 | i + 1=>(Bq h i).neg
theorem KF {l1 l2:List D} (h0:l1≠[]) (u1:D.ik l1 = true) (u2:D.ik l2 = true) (hn:l1.length + l2.length≤1000000):AC aD true 220 [.list 4 l1,.list 4 l2] (.grow 4 (l1 ++ l2)):=by
 exact aix 10 Tryz.func220 (k:=go 0 [[0,0,1],[3,0,1,4],[3]] (k:=q (BZ aW) (q aC (q (GK aW (hne:=h0) (hb:=by omega) (hu2:=u1)) (q aC (q (iI aW (hb:=by omega) (hu2:=u2)) (go 1 [[1,4],[2]] (k:=qj))))))))
theorem ahv {a w:Rat} (c:AC aD true 219 [af a] (.bT [af w,vB true])):AC aD true 186 [bV (n:=0) (),bF (n:=0) a] (.bT [.list 4 [af w],vB true]):=by
 exact aix 159 Tryz.func186 (k:=go 0 [[0,0,1],[4,0,1,4,5],[5]] (k:=q (aI (n:=0) (hlen:=aP (n:=0) ())) (go 1 [[1,0,1,4,5,32],[5]] (k:=q (uK (es:=[af a]) (e:=af a) (i:=0) rfl rfl) (q fO (q (a_call eN (c)) (go 1 [[6,0,1,4,5,6,7],[4]] (k:=q (jM (xs:=[.tmp 40]) (es:=[af w]) aW) (go 1 [[3,0,1,4,5],[3]] (k:=qJ))))))))))
theorem agN {a:Rat} (c:AC aD true 219 [af a] (.bT [dR,vB false])):AC aD true 186 [bV (n:=0) (),bF (n:=0) a] (.bT [.list 4 [dR],vB false]):=by
 exact aix 159 Tryz.func186 (k:=go 0 [[0,0,1],[4,0,1,4,5],[5]] (k:=q (aI (n:=0) (hlen:=aP (n:=0) ())) (go 1 [[1,0,1,4,5,32],[5]] (k:=q (uK (es:=[af a]) (e:=af a) (i:=0) rfl rfl) (q fO (q (a_call eN (c)) (go 1 [[6,0,1,4,5,6,7],[4]] (k:=q (jM (xs:=[.tmp 40]) (es:=[dR]) aW) (go 1 [[3,0,1,4,5],[3]] (k:=qJ))))))))))
theorem aek {u:El n} (hn:n≤7) (hO:vJ (n:=n + 1) (t,r) (sr :: σ)) (ht:PT t σ) (hr:sz r sr) (hx:sz (n:=n + 1) (u,v) s) (hsg:lU (sr :: σ) s≤2199023255551) (hs0:aJ (n:=n + 1) (t,r) (u,v) < 0):AC aD true 186 [bV (n:=n + 1) (t,r),bF (n:=n + 1) (u,v)] (.bT [.list 4 [],vB false]):=by
 have hk2:=@ja sr σ;have hk3:=@mM (sr :: σ) s;have hp:=jK (i:=n) (by omega);refine aix 159 Tryz.func186 (k:=go 0 [[0,0,1],[4,0,1,4,5],[5]] (k:=q (aI (n:=n + 1) (hlen:=aP (n:=n + 1) (t,r))) (go 1 [[1,0,1,4,5,32],[9]] (k:=q (a_call eN (nP (n:=n + 1) (t:=(t,r)) (x:=(u,v)) hO hx hsg)) (go 1 [[1,0,1,4,5,46],[1]] (k:=cfy (h:=hs0) (k:=go 0 [[4,0,1,4,5],[3]] (k:=?_))))))));exact pW rfl (nO (jJ.nil (.t rfl))) Ee
theorem aiH {u:El n} (hn:n≤7) (hO:vJ (n:=n + 1) (t,r) (sr :: σ)) (ht:PT t σ) (hr:sz r sr) (hx:sz (n:=n + 1) (u,v) s) (hsg:lU (sr :: σ) s≤2199023255551) (hs0:¬ aJ (n:=n + 1) (t,r) (u,v) < 0) (hv:iW v = true) (c1:AC aD true 186 [bV t,bF u] (.bT [bF w,vB true])):AC aD true 186 [bV (n:=n + 1) (t,r),bF (n:=n + 1) (u,v)] (.bT [bF (n:=n + 1) (w,zeroE n),vB true]):=by
 have hk2:=@ja sr σ;have hk3:=@mM (sr :: σ) s;have hp:=jK (i:=n) (by omega);refine aix 159 Tryz.func186 (k:=go 0 [[0,0,1],[4,0,1,4,5],[5]] (k:=q (aI (n:=n + 1) (hlen:=aP (n:=n + 1) (t,r))) (go 1 [[1,0,1,4,5,32],[9]] (k:=q (a_call eN (nP (n:=n + 1) (t:=(t,r)) (x:=(u,v)) hO hx hsg)) (go 1 [[1,0,1,4,5,46],[1]] (k:=UO (h:=hs0) (k:=go 0 [[5]] (k:=q (aI (n:=n + 1) (hlen:=aP (n:=n + 1) (t,r))) (q (eG (z:=(n:Int)) (hz:=by omega)) (go 1 [[1,0,1,4,5,8],[2]] (k:=dC 9 mixed (go 3 [[2]] (k:=fQ (z:=(n:Int)) ((aA t).map dL) [bF r] (di t r) (by simp [aj]) (ct:=go 3 [[2]] (k:=mP (z:=(n:Int)) (i:=n) (es:=(aA (n:=n + 1) (t,r)).map dL) (e:=bF r) rfl (by rw [di,ar (by simp [aj])];simp [aj]) (ct:=go 3 [[4,1,4,5,9,10],[4]] (k:=q (aI (n:=2 ^ (n + 1)) (hlen:=dU (n:=n + 1) (u,v))) (q (nR (z:=((2 ^ n:Nat):Int)) (hz:=kF n) (h2:=dH (by omega)) (hp:=aq _)) (go 1 [[1,1,4,5,9,10,11],[2]] (k:=dC 8 mixed (go 3 [[2]] (k:=fQ (z:=((2 ^ n:Nat):Int)) ((flat u).map af) ((flat v).map af) (aK u v) (by simp [flat_length]) (ct:=go 3 [[2]] (k:=kz (z:=((2 ^ n:Nat):Int)) ((flat u).map af) ((flat v).map af) (aK u v) (by simp [flat_length]) (ct:=go 3 [[3,4,5,9,10,12,13],[4]] (k:=q (a_call eN (mF)) (q (a_call eN (zW (t:=t) (a:=0) (by omega))) (go 1 [[1,4,5,9,10,12,13,14],[5]] (k:=q (a_call eN (mg (x:=v) (hx.snd.rb (by omega)) (by omega))) (gU [4,5,9,10,12,13,14,70] (k:=aT (Zz (h:=(fun hc70=>absurd (hv.symm.trans hc70) (by decide))) (k:=go 0 [[5]] (k:=q (a_call eN (c1)) (go 1 [[5,4,5,9,10,12,13,14,15,16],[4,4,5,9,10,12,13,14,15,77],[5]] (k:=q (jf) (q (a_call eN (KF (Bd _) (iK _) (iK _) (OW hn))) (go 1 [[2,4,5,9,10,12,13,14],[4]] (k:=?_)))))))))))))))))))))))))))))))))))))));exact rt_eq qJ (by rw [← aK,qw];rfl)
theorem aiG {u:El n} (hn:n≤7) (hO:vJ (n:=n + 1) (t,r) (sr :: σ)) (ht:PT t σ) (hr:sz r sr) (hx:sz (n:=n + 1) (u,v) s) (hsg:lU (sr :: σ) s≤2199023255551) (hs0:¬ aJ (n:=n + 1) (t,r) (u,v) < 0) (hv:iW v = true) (hRt:dW t) (hr0:r≠zeroE n) (hi:invS σ sr + sr + bD σ≤2199023255551) (h2:s + invS σ sr + bD σ≤2199023255551) (c1:AC aD true 186 [bV t,bF u] (.bT [.list 4 j1,vB false])) (c2:AC aD true 186 [bV t,bF (au t u (fZ t r))] (.bT [bF w,vB true])):AC aD true 186 [bV (n:=n + 1) (t,r),bF (n:=n + 1) (u,v)] (.bT [bF (n:=n + 1) (zeroE n,w),vB true]):=by
 have hk2:=@ja sr σ;have hk3:=@mM (sr :: σ) s;have hp:=jK (i:=n) (by omega);have hI:=sz.inv1 ht hRt hr0 hr;refine aix 159 Tryz.func186 (k:=go 0 [[0,0,1],[4,0,1,4,5],[5]] (k:=q (aI (n:=n + 1) (hlen:=aP (n:=n + 1) (t,r))) (go 1 [[1,0,1,4,5,32],[9]] (k:=q (a_call eN (nP (n:=n + 1) (t:=(t,r)) (x:=(u,v)) hO hx hsg)) (go 1 [[1,0,1,4,5,46],[1]] (k:=UO (h:=hs0) (k:=go 0 [[5]] (k:=q (aI (n:=n + 1) (hlen:=aP (n:=n + 1) (t,r))) (q (eG (z:=(n:Int)) (hz:=by omega)) (go 1 [[1,0,1,4,5,8],[2]] (k:=dC 9 mixed (go 3 [[2]] (k:=fQ (z:=(n:Int)) ((aA t).map dL) [bF r] (di t r) (by simp [aj]) (ct:=go 3 [[2]] (k:=mP (z:=(n:Int)) (i:=n) (es:=(aA (n:=n + 1) (t,r)).map dL) (e:=bF r) rfl (by rw [di,ar (by simp [aj])];simp [aj]) (ct:=go 3 [[4,1,4,5,9,10],[4]] (k:=q (aI (n:=2 ^ (n + 1)) (hlen:=dU (n:=n + 1) (u,v))) (q (nR (z:=((2 ^ n:Nat):Int)) (hz:=kF n) (h2:=dH (by omega)) (hp:=aq _)) (go 1 [[1,1,4,5,9,10,11],[2]] (k:=dC 8 mixed (go 3 [[2]] (k:=fQ (z:=((2 ^ n:Nat):Int)) ((flat u).map af) ((flat v).map af) (aK u v) (by simp [flat_length]) (ct:=go 3 [[2]] (k:=kz (z:=((2 ^ n:Nat):Int)) ((flat u).map af) ((flat v).map af) (aK u v) (by simp [flat_length]) (ct:=go 3 [[3,4,5,9,10,12,13],[4]] (k:=q (a_call eN (mF)) (q (a_call eN (zW (t:=t) (a:=0) (by omega))) (go 1 [[1,4,5,9,10,12,13,14],[5]] (k:=q (a_call eN (mg (x:=v) (hx.snd.rb (by omega)) (by omega))) (gU [4,5,9,10,12,13,14,70] (k:=aT (Zz (h:=(fun hc70=>absurd (hv.symm.trans hc70) (by decide))) (k:=go 0 [[5]] (k:=q (a_call eN (c1)) (go 1 [[5,4,5,9,10,12,13,14,15,16],[4,4,5,9,10,12,13,14,15,77],[8]] (k:=q (a_call eN ((Dv (by omega) ht hRt hr0 hr hi).tg)) (go 1 [[5,4,5,9,10,12,13,14,17],[8]] (k:=q (a_call eN (jS (by omega) ht hx.fst hI (by omega))) (q (a_call eN (c2)) (go 1 [[5,4,5,9,10,12,13,14,19,20],[4,4,5,9,10,12,13,14,19,96],[4]] (k:=q (jf) (q aC (q (a_call eN (KF (Bd _) (iK _) (iK _) (OW hn))) (go 1 [[2,4,5,9,10,12,13],[4]] (k:=?_)))))))))))))))))))))))))))))))))))))))))))));exact rt_eq qJ (by rw [← aK,qw];rfl)
theorem aho {u:El n} (hn:n≤7) (hO:vJ (n:=n + 1) (t,r) (sr :: σ)) (ht:PT t σ) (hr:sz r sr) (hx:sz (n:=n + 1) (u,v) s) (hsg:lU (sr :: σ) s≤2199023255551) (hs0:¬ aJ (n:=n + 1) (t,r) (u,v) < 0) {j2:List D} (hv:iW v = true) (hRt:dW t) (hr0:r≠zeroE n) (hi:invS σ sr + sr + bD σ≤2199023255551) (h2:s + invS σ sr + bD σ≤2199023255551) (c1:AC aD true 186 [bV t,bF u] (.bT [.list 4 j1,vB false])) (c2:AC aD true 186 [bV t,bF (au t u (fZ t r))] (.bT [.list 4 j2,vB false])):AC aD true 186 [bV (n:=n + 1) (t,r),bF (n:=n + 1) (u,v)] (.bT [.list 4 [],vB false]):=by
 have hk2:=@ja sr σ;have hk3:=@mM (sr :: σ) s;have hp:=jK (i:=n) (by omega);have hI:=sz.inv1 ht hRt hr0 hr;refine aix 159 Tryz.func186 (k:=go 0 [[0,0,1],[4,0,1,4,5],[5]] (k:=q (aI (n:=n + 1) (hlen:=aP (n:=n + 1) (t,r))) (go 1 [[1,0,1,4,5,32],[9]] (k:=q (a_call eN (nP (n:=n + 1) (t:=(t,r)) (x:=(u,v)) hO hx hsg)) (go 1 [[1,0,1,4,5,46],[1]] (k:=UO (h:=hs0) (k:=go 0 [[5]] (k:=q (aI (n:=n + 1) (hlen:=aP (n:=n + 1) (t,r))) (q (eG (z:=(n:Int)) (hz:=by omega)) (go 1 [[1,0,1,4,5,8],[2]] (k:=dC 9 mixed (go 3 [[2]] (k:=fQ (z:=(n:Int)) ((aA t).map dL) [bF r] (di t r) (by simp [aj]) (ct:=go 3 [[2]] (k:=mP (z:=(n:Int)) (i:=n) (es:=(aA (n:=n + 1) (t,r)).map dL) (e:=bF r) rfl (by rw [di,ar (by simp [aj])];simp [aj]) (ct:=go 3 [[4,1,4,5,9,10],[4]] (k:=q (aI (n:=2 ^ (n + 1)) (hlen:=dU (n:=n + 1) (u,v))) (q (nR (z:=((2 ^ n:Nat):Int)) (hz:=kF n) (h2:=dH (by omega)) (hp:=aq _)) (go 1 [[1,1,4,5,9,10,11],[2]] (k:=dC 8 mixed (go 3 [[2]] (k:=fQ (z:=((2 ^ n:Nat):Int)) ((flat u).map af) ((flat v).map af) (aK u v) (by simp [flat_length]) (ct:=go 3 [[2]] (k:=kz (z:=((2 ^ n:Nat):Int)) ((flat u).map af) ((flat v).map af) (aK u v) (by simp [flat_length]) (ct:=go 3 [[3,4,5,9,10,12,13],[4]] (k:=q (a_call eN (mF)) (q (a_call eN (zW (t:=t) (a:=0) (by omega))) (go 1 [[1,4,5,9,10,12,13,14],[5]] (k:=q (a_call eN (mg (x:=v) (hx.snd.rb (by omega)) (by omega))) (gU [4,5,9,10,12,13,14,70] (k:=aT (Zz (h:=(fun hc70=>absurd (hv.symm.trans hc70) (by decide))) (k:=go 0 [[5]] (k:=q (a_call eN (c1)) (go 1 [[5,4,5,9,10,12,13,14,15,16],[4,4,5,9,10,12,13,14,15,77],[8]] (k:=q (a_call eN ((Dv (by omega) ht hRt hr0 hr hi).tg)) (go 1 [[5,4,5,9,10,12,13,14,17],[8]] (k:=q (a_call eN (jS (by omega) ht hx.fst hI (by omega))) (q (a_call eN (c2)) (go 1 [[5,4,5,9,10,12,13,14,19,20],[4,4,5,9,10,12,13,14,19,96],[8,4,5,9,10,12,13],[3]] (k:=?_)))))))))))))))))))))))))))))))))))))))));exact pW rfl (nO (jJ.nil (.t rfl))) Ee
theorem aiW {u:El n} (hn:n≤7) (hO:vJ (n:=n + 1) (t,r) (sr :: σ)) (ht:PT t σ) (hr:sz r sr) (hx:sz (n:=n + 1) (u,v) s) (hsg:lU (sr :: σ) s≤2199023255551) (hs0:¬ aJ (n:=n + 1) (t,r) (u,v) < 0) (hv:iW v = false) (h2:2 * s + bD (sr :: σ)≤2199023255551) (c1:AC aD true 186 [bV t,bF (kX (au t u u) (au t r (au t v v)))] (.bT [.list 4 j1,vB false])):AC aD true 186 [bV (n:=n + 1) (t,r),bF (n:=n + 1) (u,v)] (.bT [.list 4 [],vB false]):=by
 have hk2:=@ja sr σ;have hk3:=@mM (sr :: σ) s;have hp:=jK (i:=n) (by omega);have huu:=sz.mul ht hx.fst hx.fst;have hvv:=sz.mul ht hx.snd hx.snd;have hrvv:=sz.mul ht hr hvv;refine aix 159 Tryz.func186 (k:=go 0 [[0,0,1],[4,0,1,4,5],[5]] (k:=q (aI (n:=n + 1) (hlen:=aP (n:=n + 1) (t,r))) (go 1 [[1,0,1,4,5,32],[9]] (k:=q (a_call eN (nP (n:=n + 1) (t:=(t,r)) (x:=(u,v)) hO hx hsg)) (go 1 [[1,0,1,4,5,46],[1]] (k:=UO (h:=hs0) (k:=go 0 [[5]] (k:=q (aI (n:=n + 1) (hlen:=aP (n:=n + 1) (t,r))) (q (eG (z:=(n:Int)) (hz:=by omega)) (go 1 [[1,0,1,4,5,8],[2]] (k:=dC 9 mixed (go 3 [[2]] (k:=fQ (z:=(n:Int)) ((aA t).map dL) [bF r] (di t r) (by simp [aj]) (ct:=go 3 [[2]] (k:=mP (z:=(n:Int)) (i:=n) (es:=(aA (n:=n + 1) (t,r)).map dL) (e:=bF r) rfl (by rw [di,ar (by simp [aj])];simp [aj]) (ct:=go 3 [[4,1,4,5,9,10],[4]] (k:=q (aI (n:=2 ^ (n + 1)) (hlen:=dU (n:=n + 1) (u,v))) (q (nR (z:=((2 ^ n:Nat):Int)) (hz:=kF n) (h2:=dH (by omega)) (hp:=aq _)) (go 1 [[1,1,4,5,9,10,11],[2]] (k:=dC 8 mixed (go 3 [[2]] (k:=fQ (z:=((2 ^ n:Nat):Int)) ((flat u).map af) ((flat v).map af) (aK u v) (by simp [flat_length]) (ct:=go 3 [[2]] (k:=kz (z:=((2 ^ n:Nat):Int)) ((flat u).map af) ((flat v).map af) (aK u v) (by simp [flat_length]) (ct:=go 3 [[3,4,5,9,10,12,13],[4]] (k:=q (a_call eN (mF)) (q (a_call eN (zW (t:=t) (a:=0) (by omega))) (go 1 [[1,4,5,9,10,12,13,14],[5]] (k:=q (a_call eN (mg (x:=v) (hx.snd.rb (by omega)) (by omega))) (gU [4,5,9,10,12,13,14,70] (k:=aT (O3 (h:=(fun hc70=>absurd (hv.symm.trans hc70) (by decide))) (k:=go 0 [[8]] (k:=q (a_call eN (jS (by omega) ht hx.fst hx.fst (by omega))) (go 1 [[5]] (k:=q (a_call eN (jS (by omega) ht hx.snd hx.snd (by omega))) (q (a_call eN (jS (by omega) ht hr hvv (by omega))) (q (a_call eN (JP (huu.rb (by omega)) (hrvv.rb (by omega)) (by omega))) (go 1 [[1,4,5,9,12,13,21],[4]] (k:=q (jf) (q (a_call eN (c1)) (go 1 [[5,4,5,9,12,13,22,23],[6,4,5,9,12,13,22,120],[6,4,5,9,12,13,22],[3]] (k:=?_)))))))))))))))))))))))))))))))))))))))))));exact pW rfl (nO (jJ.nil (.t rfl))) Ee
theorem aiO {u:El n} (hn:n≤7) (hO:vJ (n:=n + 1) (t,r) (sr :: σ)) (ht:PT t σ) (hr:sz r sr) (hx:sz (n:=n + 1) (u,v) s) (hsg:lU (sr :: σ) s≤2199023255551) (hs0:¬ aJ (n:=n + 1) (t,r) (u,v) < 0) {m:El n} {sm sw:Nat} {J:Nat→List D} {b:Nat→Bool} {W:Nat→El n} (hRt:dW t) (hv:iW v = false) (h2:2 * s + bD (sr :: σ)≤2199023255551) (hm:sz m sm) (h3:s + sm + 2 + bD σ≤2199023255551) (h4:invS σ sw + sw + bD σ≤2199023255551) (h5:s + invS σ sw + bD σ + 1 + bD σ≤2199023255551) (c1:AC aD true 186 [bV t,bF (kX (au t u u) (au t r (au t v v)))] (.bT [bF m,vB true])) (cf:∀ i,i < 2→AC aD true 186 [bV t,bF (au t (bU n) (aH u (vF m i)))] (.bT [.list 4 (J i),vB (b i)])) (hf:∀ i,i < 2→b i = true→J i = (flat (W i)).map af∧sz (W i) sw∧W i≠zeroE n):AC aD true 186 [bV (n:=n + 1) (t,r),bF (n:=n + 1) (u,v)] (YC t v W (Ec b)):=by
 have hk2:=@ja sr σ;have hk3:=@mM (sr :: σ) s;have hp:=jK (i:=n) (by omega);have huu:=sz.mul ht hx.fst hx.fst;have hvv:=sz.mul ht hx.snd hx.snd;have hrvv:=sz.mul ht hr hvv;refine aix 159 Tryz.func186 (k:=go 0 [[0,0,1],[4,0,1,4,5],[5]] (k:=q (aI (n:=n + 1) (hlen:=aP (n:=n + 1) (t,r))) (go 1 [[1,0,1,4,5,32],[9]] (k:=q (a_call eN (nP (n:=n + 1) (t:=(t,r)) (x:=(u,v)) hO hx hsg)) (go 1 [[1,0,1,4,5,46],[1]] (k:=UO (h:=hs0) (k:=go 0 [[5]] (k:=q (aI (n:=n + 1) (hlen:=aP (n:=n + 1) (t,r))) (q (eG (z:=(n:Int)) (hz:=by omega)) (go 1 [[1,0,1,4,5,8],[2]] (k:=dC 9 mixed (go 3 [[2]] (k:=fQ (z:=(n:Int)) ((aA t).map dL) [bF r] (di t r) (by simp [aj]) (ct:=go 3 [[2]] (k:=mP (z:=(n:Int)) (i:=n) (es:=(aA (n:=n + 1) (t,r)).map dL) (e:=bF r) rfl (by rw [di,ar (by simp [aj])];simp [aj]) (ct:=go 3 [[4,1,4,5,9,10],[4]] (k:=q (aI (n:=2 ^ (n + 1)) (hlen:=dU (n:=n + 1) (u,v))) (q (nR (z:=((2 ^ n:Nat):Int)) (hz:=kF n) (h2:=dH (by omega)) (hp:=aq _)) (go 1 [[1,1,4,5,9,10,11],[2]] (k:=dC 8 mixed (go 3 [[2]] (k:=fQ (z:=((2 ^ n:Nat):Int)) ((flat u).map af) ((flat v).map af) (aK u v) (by simp [flat_length]) (ct:=go 3 [[2]] (k:=kz (z:=((2 ^ n:Nat):Int)) ((flat u).map af) ((flat v).map af) (aK u v) (by simp [flat_length]) (ct:=go 3 [[3,4,5,9,10,12,13],[4]] (k:=q (a_call eN (mF)) (q (a_call eN (zW (t:=t) (a:=0) (by omega))) (go 1 [[1,4,5,9,10,12,13,14],[5]] (k:=q (a_call eN (mg (x:=v) (hx.snd.rb (by omega)) (by omega))) (gU [4,5,9,10,12,13,14,70] (k:=aT (O3 (h:=(fun hc70=>absurd (hv.symm.trans hc70) (by decide))) (k:=go 0 [[8]] (k:=q (a_call eN (jS (by omega) ht hx.fst hx.fst (by omega))) (go 1 [[5]] (k:=q (a_call eN (jS (by omega) ht hx.snd hx.snd (by omega))) (q (a_call eN (jS (by omega) ht hr hvv (by omega))) (q (a_call eN (JP (huu.rb (by omega)) (hrvv.rb (by omega)) (by omega))) (go 1 [[1,4,5,9,12,13,21],[4]] (k:=q (jf) (q (a_call eN (c1)) (go 1 [[5,4,5,9,12,13,22,23],[6,4,5,9,12,13,22,120],[7]] (k:=q (a_call eN (aay)) (q (a_call eN (zW (t:=t) (a:=1 / 2) (by omega))) (go 1 [[1,4,5,9,12,13,22,24],[5,4,5,9,12,13,22,24,25],[2]] (k:=?_))))))))))))))))))))))))))))))))))))))))))))));refine CT.weak (aZ (ι:=Nat) (fun i=>[(9,.dat (bV t)),(12,.dat (bF u)),(13,.dat (bF v)),(22,.dat (bF (vF m i))),(24,.grow 4 ((flat (bU n)).map af)),(25,.dat (vI i))]) (fun i=>i≤2∧∀ j,j < i→b j = false) (fun i=>2 - i) ?_ (0) (⟨by omega,fun _ h=>absurd h (by omega)⟩)) (sbk [9,12,13,22,24,25]);intro i ⟨hi,hj⟩;refine go 0 [[0,9,12,13,22,24,25],[5,9,12,13,22,24,25,125],[1]] (k:=?_);refine bu (fun hc125=>?_) (fun hc125=>?_)
 ·
  refine go 0 [[7]] (k:=?_);have hi2:i < 2:=by omega
  refine q aC (q aC (q (jf) (go 1 [[3]] (k:=q (a_call eN (yg (hx.fst.rb (by omega)) ((Bq hm i).rb (by omega)) (by omega))) (q (a_call eN (jS (by omega) ht (sz.half n) (hx.fst.add (Bq hm i)) (by omega))) (q (a_call eN (cf i hi2)) (go 1 [[5,9,12,13,22,24,25,26,27],[4,9,12,13,22,24,25,26,140],[1]] (k:=?_))))))));refine dA (fun hc140=>?_) (fun hc140=>?_)
  · have hW:=hf i hi2 hc140;have hI:=sz.inv1 ht hRt hW.2.2 hW.2.1;have hvI:=sz.mul ht hx.snd hI;rw [hW.1];refine go 0 [[4]] (k:=q (a_call eN ((Dv (by omega) ht hRt hW.2.2 hW.2.1 h4).tg)) (go 1 [[5,9,12,13,22,24,25,26,28],[5]] (k:=q (jf) (go 1 [[3]] (k:=q (a_call eN (jS (by omega) ht hx.snd hI (by omega))) (q (a_call eN (jS (by omega) ht (sz.half n) hvI (by omega))) (q (a_call eN (KF (Bd _) (iK _) (iK _) (OW hn))) (go 1 [[2,4,5,9,12,13,22,24,25],[8]] (k:=?_)))))))));exact rt_eq qJ (by rw [xy hi2 hc140 hj,← aK];rfl)
  · have hnext:∀ j,j < i + 1→b j = false:=fun j h=>(a6.1 h).elim (hj j) fun e=>e ▸ hc140
    refine go 0 [[5]] (k:=q (a_call eN (zL ((Bq hm i).rb (by omega)) (by omega))) (q vX ?_));refine sq (fun a W h=>h.qK (s:=22) rfl) (go 1 [[0,9,12,13,22,24,25],[4]] (k:=q (bH) (q aC (gU [9,12,13,22,24,25] (k:=?_)))));exact aY (i + 1) ⟨⟨by omega,hnext⟩,by omega⟩ (sbk [9,12,13,22,24,25])
 · refine go 0 [[9,4,5],[2]] (k:=?_);exact rt_eq (pW rfl (nO (jJ.nil (k:=4) (.t rfl))) Ee) (by rw [Ez fun j h=>hj j (by omega)];rfl)
theorem vJ.low (h:vJ (n:=n + 1) (t,r) (sr :: σ)):vJ t σ :=
 ⟨by have:=h.n8;omega,h.pt.2,h.red.1,by have:=h.k;have:=@ja sr σ;omega,h.sg.2,h.sq.2⟩
def uO:List Nat→Nat→Nat
 | [],s=>s
 | sr :: σ,s=>max (lU (sr :: σ) s) (max (Cb (sr :: σ) s) (max (uO σ s) (max (uO σ (s + invS σ sr + bD σ)) (max (uO σ (2 * s + bD (sr :: σ))) (uO σ (s + lV σ (2 * s + bD (sr :: σ)) + 2 + bD σ))))))
theorem aaB {B:Nat} (h:uO (sr :: σ) s≤B):lU (sr :: σ) s≤B∧Cb (sr :: σ) s≤B∧uO σ s≤B∧uO σ (s + invS σ sr + bD σ)≤B∧uO σ (2 * s + bD (sr :: σ))≤B∧uO σ (s + lV σ (2 * s + bD (sr :: σ)) + 2 + bD σ)≤B:=by
 simp only [uO,Nat.max_le] at h;exact h
theorem wR:∀ {σ:List Nat} {s:Nat},s≤uO σ s
 | [],s=>bk s
 | sr :: σ,s=>by
  have:=@xk (sr :: σ) s;simp only [uO];exact aM this (aM (cg ..) (cQ ..))
def jB:Nat→List D
 | 0=>[dR]
 | _ + 1=>[]
noncomputable def wU {n:Nat} (t:Tw n) (a:El n):List D:=OT (tC t a) (jB n)
theorem RG {n:Nat} (t:Tw n) (m:El n):∀ i,au t (vF m i) (vF m i) = au t m m
 | 0=>rfl
 | i + 1=>(uf t _).trans (RG t m i)
theorem acA:∀ {n:Nat} {t:Tw n} {a:El n} {σ:List Nat} {s:Nat},vJ t σ→sz a s→uO σ s≤2199023255551→AC aD true 186 [bV t,bF a] (.bT [.list 4 (wU t a),vB (tC t a).isSome])
 | 0,_,a,σ,s,hO,ha,hk=>by
  have c:=abZ (a:=a) (ha.rb (by have:=@wR σ s;omega) a (aR.2 rfl));have e:∀ t:Tw 0,tC (n:=0) t a = vM a:=fun _=>rfl
  unfold wU;rw [e];revert c;cases vM a with
  | none=>exact fun c=>agN c
  | some w=>exact fun c=>ahv c
 | n + 1,(t,r),(u,v),[],s,hO,_,_=>hO.pt.elim
 | n + 1,(t,r),(u,v),sr :: σ,s,hO,hx,hk=>by
  obtain ⟨hg,hq,k1,k2,k3,k4⟩:=aaB hk;obtain ⟨_,_,_,_,k5,k6⟩:=Uc hq;have k3':=@wR σ (2 * s + bD (sr :: σ));have k2':=@wR σ (s + invS σ sr + bD σ);have k4':=@wR σ (s + lV σ (2 * s + bD (sr :: σ)) + 2 + bD σ);have hR:=hO.red;have hr0:=DR hR;have h1:=hR.1;have hn7:n≤7:=by have:=hO.n8;omega
  have ht:=hO.pt.2;have hr:=hO.pt.1;have hL:=hO.low;have IH:∀ (a:El n) (s:Nat),sz a s→uO σ s≤2199023255551→AC aD true 186 [bV t,bF a] (.bT [.list 4 (wU t a),vB (tC t a).isSome]):=fun a s h k=>acA hL h k
  have hI:=sz.inv1 ht h1 hr0 hr;have IHe:∀ (a:El n) (s:Nat) (S:Option (El n)),tC t a = S→sz a s→uO σ s≤2199023255551→AC aD true 186 [bV t,bF a] (.bT [.list 4 (OT S (jB n)),vB S.isSome]):=fun a s S e h k=>by
   have c:=IH a s h k;unfold wU at c;rwa [e] at c
  by_cases hs0:aJ (n:=n + 1) (t,r) (u,v) < 0
  · have e:tC (n:=n + 1) (t,r) (u,v) = none:=if_pos hs0;unfold wU;rw [e];exact aek hn7 hO ht hr hx hg hs0
  have es:tC (n:=n + 1) (t,r) (u,v) = tu (tC t) t r u v:=if_neg hs0
  by_cases hv:iW v = true
  ·
   cases e1:tC t u with
   | some w =>
    have e:tC (n:=n + 1) (t,r) (u,v) = some (w,zeroE n):=by
     rw [es];unfold tu;rw [if_pos hv,e1];rfl
    unfold wU;rw [e];exact aiH hn7 hO ht hr hx hg hs0 hv (IHe u s _ e1 hx.fst k1)
   | none =>
    cases e2:tC t (au t u (fZ t r)) with
    | some w =>
     have e:tC (n:=n + 1) (t,r) (u,v) = some (zeroE n,w):=by
      rw [es];unfold tu;rw [if_pos hv,e1];simp only;rw [e2];rfl
     unfold wU;rw [e];exact aiG hn7 hO ht hr hx hg hs0 hv h1 hr0 k6 (by omega) (IHe u s _ e1 hx.fst k1) (IHe _ _ _ e2 (sz.mul ht hx.fst hI) k2)
    | none =>
     have e:tC (n:=n + 1) (t,r) (u,v) = none:=by
      rw [es];unfold tu;rw [if_pos hv,e1];simp only;rw [e2]
     unfold wU;rw [e];exact aho hn7 hO ht hr hx hg hs0 hv h1 hr0 k6 (by omega) (IHe u s _ e1 hx.fst k1) (IHe _ _ _ e2 (sz.mul ht hx.fst hI) k2)
  ·
   have hvf:iW v = false:=by simpa using hv
   have hv0:=Nr hv;have hN:=sz.norm ht hr hx;cases em:tC t (fP t r u v) with
   | none =>
    have e:tC (n:=n + 1) (t,r) (u,v) = none:=by
     rw [es];unfold tu;rw [if_neg hv,em]
    unfold wU;rw [e];have c1:=IHe _ _ _ em hN k3;rw [← AX] at c1;exact aiW hn7 hO ht hr hx hg hs0 hvf (by omega) c1
   | some m =>
    have hm:=qy h1 em;have hms:sz m (lV σ (2 * s + bD (sr :: σ))):=Dz ht h1 (by rw [hm];exact hN);have hX:∀ i,sz (au t (bU n) (aH u (vF m i))) (s + lV σ (2 * s + bD (sr :: σ)) + 2 + bD σ):=fun i=>(sz.mul ht (sz.half n) (hx.fst.add (Bq hms i))).mono (by omega)
    have hW:∀ i w,tC t (au t (bU n) (aH u (vF m i))) = some w→w≠zeroE n∧sz w (lV σ (s + lV σ (2 * s + bD (sr :: σ)) + 2 + bD σ)):=fun i w e=>by
     have hw:=qy h1 e;exact ⟨zB h1 hr0 hv0 ((RG t m i).trans hm) hw,Dz ht h1 (by rw [hw];exact hX i)⟩
    have c1:=IHe _ _ _ em hN k3;rw [← AX] at c1;have km:=@BK σ (lV σ (s + lV σ (2 * s + bD (sr :: σ)) + 2 + bD σ)) (lV σ (s + lV σ (2 * s + bD (sr :: σ)) + 2 + bD σ) + 1) (by omega);have kl:=@CJ σ (s + lV σ (2 * s + bD (sr :: σ)) + 2 + bD σ);have g:=aiO (sm:=lV σ (2 * s + bD (sr :: σ))) (sw:=lV σ (s + lV σ (2 * s + bD (sr :: σ)) + 2 + bD σ)) (J:=fun i=>wU t (au t (bU n) (aH u (vF m i)))) (b:=fun i=>(tC t (au t (bU n) (aH u (vF m i)))).isSome) (W:=fun i=>(tC t (au t (bU n) (aH u (vF m i)))).getD (zeroE n)) hn7 hO ht hr hx hg hs0 h1 hvf (by omega) hms (by omega) (by omega) (by omega) c1 (fun i _=>IH _ _ (hX i) k4) (fun i _ hb=>by
     obtain ⟨w,hw⟩:=eo.1 hb;obtain ⟨w0,ws⟩:=hW i w hw;simp only [hw,bw];refine ⟨?_,ws,w0⟩;unfold wU;rw [hw];rfl)
    refine g.eq ?_;have e0:vF m 0 = m:=rfl;have e1:vF m 1 = bI m:=rfl;cases q0:tC t (au t (bU n) (aH u (vF m 0))) with
    | some w =>
     have e:tC (n:=n + 1) (t,r) (u,v) = some (w,au t (bU n) (au t v (fZ t w))):=by
      rw [es];unfold tu;rw [if_neg hv,em];simp only;rw [← e0,q0];rfl
     have hs:Ec (fun i=>(tC t (au t (bU n) (aH u (vF m i)))).isSome) = some 0:=xy (by omega) (by rw [q0];rfl) (fun j h=>absurd h (by omega));unfold wU;rw [e,hs];simp only [YC,q0,bw];rfl
    | none =>
     cases q1:tC t (au t (bU n) (aH u (vF m 1))) with
     | some w =>
      have e:tC (n:=n + 1) (t,r) (u,v) = some (w,au t (bU n) (au t v (fZ t w))):=by
       rw [es];unfold tu;rw [if_neg hv,em];simp only;rw [← e1,← e0,q0];simp only;rw [e0,q1];rfl
      have hs:Ec (fun i=>(tC t (au t (bU n) (aH u (vF m i)))).isSome) = some 1:=xy (by omega) (by rw [q1];rfl) (fun j h=>by rw [show j = 0 by omega,q0];rfl);unfold wU;rw [e,hs];simp only [YC,q1,bw];rfl
     | none =>
      have e:tC (n:=n + 1) (t,r) (u,v) = none:=by
       rw [es];unfold tu;rw [if_neg hv,em];simp only;rw [← e1,← e0,q0];simp only;rw [e0,q1]
      have hs:Ec (fun i=>(tC t (au t (bU n) (aH u (vF m i)))).isSome) = none:=Ez fun j h=>by
       have:j = 0∨j = 1:=by omega
       rcases this with e | e <;> rw [e]
       · rw [q0];rfl
       · rw [q1];rfl
      unfold wU;rw [e,hs];rfl
theorem aiS (hO:vJ t σ) (ha:sz a s) (hq:uO σ s≤2199023255551) (hg:lU σ (lV σ s)≤2199023255551) (e:tC t a = none):AC aD true 189 [bV t,bF a] (.bT [.list 4 [],vB false]):=by
 have c1:=acA hO ha hq;unfold wU at c1;rw [e] at c1;refine aix 24 Tryz.func189 (k:=go 0 [[0,0,1],[4,0,1,4,5],[5]] (k:=q (a_call eN (c1)) (go 1 [[5,0,4,5,6,7],[6,0,4,5,6,15],[6,0,4,5,6],[3]] (k:=?_))));exact pW rfl (nO (jJ.nil (.t rfl))) Ee
theorem aiT (hO:vJ t σ) (ha:sz a s) (hq:uO σ s≤2199023255551) (hg:lU σ (lV σ s)≤2199023255551) (e:tC t a = some w):AC aD true 189 [bV t,bF a] (.bT [bF (if aJ t w < 0 then bI w else w),vB true]):=by
 have c1:=acA hO ha hq;unfold wU at c1;rw [e] at c1;have hw:=qy hO.red e;have hs:sz w (lV σ s):=Dz hO.pt hO.red (by rw [hw];exact ha);have hle:=@mM σ (lV σ s);refine aix 24 Tryz.func189 (k:=go 0 [[0,0,1],[4,0,1,4,5],[5]] (k:=q (a_call eN (c1)) (go 1 [[5,0,4,5,6,7],[6,0,4,5,6,15],[9]] (k:=q (a_call eN (nP (x:=w) hO hs hg)) (go 1 [[1,0,4,5,6,19],[1]] (k:=?_))))));refine bu (fun hc19=>?_) (fun hc19=>?_)
 · refine go 0 [[3]] (k:=q (a_call eN (zL (x:=w) (hs.rb (by omega)) hO.n8)) (go 1 [[1,4,5,6],[6,4,5],[2]] (k:=?_)));exact rt_eq qJ (by rw [if_pos hc19];rfl)
 · refine go 0 [[7,4,5],[2]] (k:=?_);exact rt_eq qJ (by rw [if_neg hc19];rfl)
theorem KG (hO:vJ t σ) (ha:sz a s) (hq:uO σ s≤2199023255551) (hg:lU σ (lV σ s)≤2199023255551):AC aD true 189 [bV t,bF a] (.bT [.list 4 (OT (wL t a) []),vB (wL t a).isSome]):=by
 rw [aib hO.red];cases e:tC t a with
 | none=>exact aiS hO ha hq hg e
 | some w=>exact aiT hO ha hq hg e
theorem ahY (hO:vJ t σ) (ha:sz a s) (hq:uO σ s≤2199023255551) (hg:lU σ (lV σ s)≤2199023255551) (hs0:0≤aJ t a) (e:wL t a = some w):AC aD true 135 [bV t,bF a] (.bT [bV t,bF w,vI 0]):=by
 have h8:=hO.n8;have hle:=@wR σ s;have c1:=KG hO ha hq hg;rw [e] at c1;refine aix 37 Tryz.func135 (k:=go 0 [[0,0,1],[5,0,1,4,5,6],[6]] (k:=q (a_call eN (nP hO ha (aM (oU (CJ)) hg))) (go 1 [[1,0,1,4,5,6,13],[9]] (k:=q (a_call eN (c1)) (go 1 [[5,0,1,4,5,6,7,8],[4,0,1,4,5,6,7,20],[9,0,1,4,5,6],[3]] (k:=?_))))));exact rt_eq UN rfl
theorem XU (hO:vJ t σ) (ha:sz a s) (hs:s≤2199023255551) {R1 R2 R3:D} (cR:AC aD true 133 [bV t] (.dat (vB true))) (cE:AC aD true 135 [bV t,bF a] (.bT [R1,R2,R3])):AC aD true 87 [bV t,bF a] (.bT [R1,R2,R3]):=by
 exact aix 22 Tryz.func87 (k:=go 0 [[0,0,1],[5,0,1,4,5,6],[5]] (k:=q (a_call eN (cR)) (q iV (q aC (fD (h:=aC) (k:=fD (h:=aC) (k:=qN 11 12 (h:=a_call eN (O6 hO.n8 hO.pt hO.k (ha.rb (by omega)))) (k:=cZ 13 (h:=iV) (k:=go 1 [[1,0,1,4,5,6,15],[8]] (k:=q (a_call eN (cE)) (go 1 [[6,4,5,6],[2]] (k:=UN))))))))))))
theorem Yq (h:dW (n:=n + 1) (t,r)):tC t r = none:=by
 cases e:tC t r with
 | none=>rfl
 | some w=>exact absurd (qy h.1 e) (h.2.2 w)
theorem Pre.ok {u:Tw i} {q:El i} (hp:Pre t u q) (hO:vJ t σ) (hb:KY uO 2199023255551 σ):∃ σ' s,vJ u σ'∧sz q s∧s + bD σ'≤2199023255551∧lU σ' s≤2199023255551∧uO σ' s≤2199023255551:=by
 obtain ⟨σ',s',g1,g2,g3,g4⟩:=hp.pt hO.pt;have hk2:=@ja s' σ';have:=hO.k;have h8:=hO.n8;have hl:=hp.lt;exact ⟨σ',s',⟨by omega,g1,(hp.red hO.red).1,by omega,(g4 _ _ hO.sg).2,(g4 _ _ hO.sq).2⟩,g2,by omega,(g4 _ _ hO.sg).1,(g4 _ _ hb).1⟩
theorem agh (hO:vJ t σ) (hb:KY uO 2199023255551 σ):AC aD true 133 [bV t] (.dat (vB true)):=by
 have h8:=hO.n8;refine aix 44 Tryz.func133 (k:=go 0 [[0,0],[3,0,2],[5,0,2,3],[2]] (k:=?_));refine CT.weak (aZ (ι:=Nat) (fun i=>[(0,.dat (bV t)),(3,.dat (vI i))]) (fun i=>i≤n) (fun i=>n - i) ?_ (0) (av _)) (sbk [0,3]);intro i hi;refine go 0 [[0,0,3],[5]] (k:=q (aI (n:=n) (hlen:=aP t)) (go 1 [[1,0,3,9],[1]] (k:=?_)));refine bu (fun hc9=>?_) (fun hc9=>?_)
 · refine go 0 [[6]] (k:=?_);obtain ⟨u,c,hp⟩:=Pre.ex t (i:=i) (by omega);obtain ⟨l,hl⟩:=hp.cut;obtain ⟨σ',s',hU,hc,hks,hsg,hsb⟩:=hp.ok hO hb;have hRu:=hp.red hO.red;have en:tC u c = none:=Yq hRu;have c1:=acA hU hc hsb;unfold wU at c1;rw [en] at c1;refine dC 20 mixed (go 3 [[2]] (k:=fQ (z:=(i:Int)) ((aA u).map dL) (l.map dL) hl (by simp [aj]) (ct:=go 3 [[2]] (k:=mP (z:=(i:Int)) (i:=i) (es:=(aA t).map dL) (e:=bF c) rfl hp.at (ct:=go 3 [[1]] (k:=ak eN (O6 (t:=u) (x:=c) hU.n8 hU.pt hU.k (hc.rb (by omega))) (ct:=OA (ct:=go 3 [[1]] (k:=Dj 0 (h:=fun Γg hb hn hc=>aC (hl:=hb) (hn:=hn)) (ct:=Dj 3 (h:=fun Γg hb hn hc=>aC (hl:=hb) (hn:=hn)) (ct:=JY 22 23 (h:=fun Γg hn hg=>kR (z:=(i:Int)) ((aA u).map dL) (l.map dL) hl (by simp [aj]) (hn:=df.2 ⟨rfl,df.2 ⟨rfl,hn⟩⟩)) (ct:=Dj 0 (h:=fun Γg hb hn hc=>aC (hl:=hb) (hn:=hn)) (ct:=Dj 3 (h:=fun Γg hb hn hc=>aC (hl:=hb) (hn:=hn)) (ct:=JY 25 26 (h:=fun Γg hn hg=>dZ (z:=(i:Int)) (i:=i) (es:=(aA t).map dL) (e:=bF c) rfl hp.at (hn:=df.2 ⟨rfl,df.2 ⟨rfl,hn⟩⟩)) (ct:=YK 27 (h:=fun Γg hn hg=>fO (hn:=df.2 ⟨rfl,hn⟩)) (ct:=JY 24 28 (h:=fun Γg hn hg=>a_call eN (nP (t:=u) (x:=c) hU hc hsg) (hn:=df.2 ⟨rfl,df.2 ⟨rfl,hn⟩⟩)) (ct:=YK 29 (h:=fun Γg hn hg=>O5 (hn:=df.2 ⟨rfl,hn⟩)) (ct:=ahe (ct:=go 3 [[1,0,3,31],[1]] (k:=O3 (h:=(by rw [hRu.2.1];decide)) (k:=eF (aT (bP (dC 13 mixed (go 3 [[2]] (k:=fQ (z:=(i:Int)) ((aA u).map dL) (l.map dL) hl (by simp [aj]) (ct:=go 3 [[2]] (k:=mP (z:=(i:Int)) (i:=i) (es:=(aA t).map dL) (e:=bF c) rfl hp.at (ct:=go 3 [[1]] (k:=ak eN (c1) (ct:=go 3 [[6,0,3,5],[4,0,3,43],[7]] (k:=q (bH) (q aC (gU [0,3] (k:=?_)))))))))))))))))))))))))))))))))));exact aY (i + 1) ⟨by omega,by omega⟩ (sbk [0,3])
 · exact go 0 [[8,2],[2]] (k:=dG)
theorem aeH {a:Rat} (hn:n≤8):AC aD true 128 [bV t,af a] (oL (flat (dD n a))):=by
 have hp:=jK (i:=n) (by omega);have hp0:0 < 2 ^ n:=bR (by omega);have hlen:((flat (dD n a)).map af).length = 2 ^ n:=by rw [ao,flat_length]
 have h1:((flat (dD n a)).map af).take 1 = [af a]:=by rw [kY];rfl
 have hz:∀ i,0 < i→i < 2 ^ n→((flat (dD n a)).map af)[i]? = some (af 0):=fun i h0 hi=>by
  obtain ⟨j,rfl⟩:∃ j,i = j + 1:=⟨i - 1,by omega⟩;rw [kY,cG,cP,eK,cJ,if_pos (by omega)]
 show AC aD true _ _ (F.own 4 ((flat (dD n a)).map af));generalize hL:(flat (dD n a)).map af = L at hlen h1 hz;refine aix 19 Tryz.func128 (k:=go 0 [[0,0,1],[4,0,3,4],[4]] (k:=q (DZ (xs:=[.tmp 6]) (n:=1) (es:=[af a]) aW rfl) (go 1 [[1,0,4,5],[3]] (k:=?_))));rw [← h1];refine CT.weak (aZ (ι:=Nat) (fun i=>[(0,.dat (bV t)),(5,.own 4 (L.take (i + 1)))]) (fun i=>i + 1≤2 ^ n) (fun i=>2 ^ n - i) ?_ (0) (by omega)) (sbk [0,5]);intro i hi;refine go 0 [[0,0,5],[3]] (k:=q (jf) (q (uk (n:=i + 1) (hlen:=by simp only [lenOf];rw [aw];congr 1;omega)) (q aC (q (aI (n:=n) (hlen:=aP t)) (q (pI (n:=n) (z:=((2 ^ n:Nat):Int)) (hn0:=by omega) (hz:=yP) (h1:=mX) (h2:=dH (by omega))) (go 1 [[1,0,5,13],[1]] (k:=?_)))))));refine bu (fun hc13=>?_) (fun hc13=>?_)
 · refine go 0 [[5]] (k:=q (a_call eN (mF)) (q (jM (xs:=[.tmp 15]) (es:=[af 0]) aW) (q (Qz aW (hb:=by rw [aw];show (min (i + 1) L.length + 1) * 64≤_;omega) (hu2:=VZ _)) (q vX ?_))));rw [jG (hz (i + 1) (by omega) (by omega))];refine gU [0,5] (k:=OM ?_);exact aY (i + 1) ⟨by omega,by omega⟩ (sbk [0,5])
 · refine go 0 [[9]] (k:=?_);rw [aL (by omega)];exact gU [4] (k:=aT (lT KZ))
theorem Un (hn:n≤7):AC aD true 190 [bV (n:=n + 1) (t,a),vI n] (oL (flat (gu n))):=by
 have hlt:2 ^ n < 2 ^ (n + 1):=eI (by omega) (by omega);have hL:(flat (dD (n + 1) 0)).length = 2 ^ (n + 1):=flat_length _;refine aix 15 Tryz.func190 (k:=go 0 [[0,0,1],[3,0,1,4],[4]] (k:=q (a_call eN (mF)) (q (a_call eN (aeH (n:=n + 1) (t:=(t,a)) (a:=0) (by omega))) (go 1 [[1,1,4,5],[2]] (k:=dC 5 mixed (go 3 [[2]] (k:=QC (n:=n) (z:=((2 ^ n:Nat):Int)) (hn0:=by omega) (hz:=yP) (h1:=mX) (h2:=dH (by omega)) (ct:=ak eN (agb) (ct:=Ui (i:=2 ^ n) (es:=(flat (dD (n + 1) 0)).map af) rfl (by rw [ao,hL];exact hlt) (ct:=go 3 [[1]] (k:=q (yN (hi:=by rw [ao,hL];exact hlt)) ?_)))))))))));rw [← fX,qw,lL,ET];exact go 1 [[0,4,5],[5,4],[2]] (k:=KZ)
theorem agF (hO:vJ t σ) (ha:sz a s) (hq:uO σ s≤2199023255551) (hg:lU σ (lV σ s)≤2199023255551) (hs0:0≤aJ t a) (e:wL t a = none) (h0:n≠0) (hn7:n≤7):AC aD true 135 [bV t,bF a] (.bT [bV (n:=n + 1) (t,a),bF (gu n),vI 0]):=by
 have h8:=hO.n8;have hle:=@wR σ s;have c1:=KG hO ha hq hg;rw [e] at c1;refine aix 37 Tryz.func135 (k:=go 0 [[0,0,1],[5,0,1,4,5,6],[6]] (k:=q (a_call eN (nP hO ha (aM (oU (CJ)) hg))) (go 1 [[1,0,1,4,5,6,13],[9]] (k:=q (a_call eN (c1)) (go 1 [[5,0,1,4,5,6,7,8],[4,0,1,4,5,6,7,20],[8]] (k:=q (aI (n:=n) (hlen:=aP t)) (go 1 [[1,0,1,4,5,6,25],[6]] (k:=q (BZ gm) (q aC (q (GK gm (hne:=fun e=>h0 (by have:=congrArg d8 e;simpa [aj] using this)) (hb:=by rw [ao,aj];omega) (hu2:=Jz _)) ?_))))))))));refine q aC (q (jM (xs:=[.tmp 29]) (es:=[bF a]) gm) (q (iI gm (hb:=by rw [ao,aj];show (n + 1) * 24≤_;omega) (hu2:=rfl)) (go 1 [[1,0,4,5,6,9],[3]] (k:=?_))));refine sq (fun a W h=>h.qK (s:=9) rfl) ?_;rw [← di t a];refine go 1 [[3]] (k:=q (aI (n:=n) (hlen:=aP t)) (q (a_call eN ((Un (t:=t) (a:=a) hn7).og)) (go 1 [[3,4,5,6],[2]] (k:=?_))));exact rt_eq UN rfl
theorem afD {a:El 0} (hO:vJ (n:=0) () []) (ha:sz a s) (hq:uO [] s≤2199023255551) (hg:lU [] (lV [] s)≤2199023255551) (hs0:0≤aJ (n:=0) () a) (e:wL (n:=0) () a = none):AC aD true 135 [bV (n:=0) (),bF a] (.bT [bV (n:=1) ((),a),bF (gu 0),vI 0]):=by
 have hle:=@wR [] s;have c1:=KG hO ha hq hg;rw [e] at c1;refine aix 37 Tryz.func135 (k:=go 0 [[0,0,1],[5,0,1,4,5,6],[6]] (k:=q (a_call eN (nP hO ha (aM (oU (CJ)) hg))) (go 1 [[1,0,1,4,5,6,13],[9]] (k:=q (a_call eN (c1)) (go 1 [[5,0,1,4,5,6,7,8],[4,0,1,4,5,6,7,20],[8]] (k:=q (aI (n:=0) (hlen:=aP (n:=0) ())) (go 1 [[1,0,1,4,5,6,25],[6]] (k:=q (BZ gm) (q aC (q (Uy gm) (q aC (q (jM (xs:=[.tmp 29]) (es:=[bF a]) gm) (q (GK gm (hne:=by simp) (hb:=by show 1 * 24≤_;omega) (hu2:=rfl)) (go 1 [[1,0,4,5,6,9],[3]] (k:=?_)))))))))))))));refine sq (fun a W h=>h.qK (s:=9) rfl) (go 1 [[3]] (k:=q (aI (n:=0) (hlen:=aP (n:=0) ())) (q (a_call eN ((Un (n:=0) (t:=()) (a:=a) (by decide)).og)) (go 1 [[3,4,5,6],[2]] (k:=?_)))));exact rt_eq UN rfl
noncomputable def H9 {n:Nat} (t:Tw n) (a:El n):List D:=match wL t a with
 | some w=>[bV t,bF w,vI 0]
 | none=>[bV (n:=n + 1) (t,a),bF (gu n),vI 0]
theorem agi (hO:vJ t σ) (ha:sz a s) (hq:uO σ s≤2199023255551) (hg:lU σ (lV σ s)≤2199023255551) (hs0:0≤aJ t a) (hn7:n≤7):AC aD true 135 [bV t,bF a] (.bT (H9 t a)):=by
 unfold H9;cases e:wL t a with
 | some w=>exact ahY hO ha hq hg hs0 e
 | none =>
  match n,t,a,σ,hO,ha,hq,hg,hs0,hn7,e with
  | 0,t,a,[],hO,ha,hq,hg,hs0,hn7,e=>exact afD hO ha hq hg hs0 e
  | 0,t,a,s' :: σ,hO,_,_,_,_,_,_=>exact absurd (show s' :: σ = [] from hO.pt) (by simp)
  | n + 1,t,a,σ,hO,ha,hq,hg,hs0,hn7,e=>exact agF hO ha hq hg hs0 e (by omega) hn7
theorem RD (hO:vJ t σ) (hb:KY uO 2199023255551 σ) (ha:sz a s) (hq:uO σ s≤2199023255551) (hg:lU σ (lV σ s)≤2199023255551) (hs0:0≤aJ t a) (hn7:n≤7):AC aD true 87 [bV t,bF a] (.bT (H9 t a)):=by
 have h1:=agh hO hb;have h2:=agi hO ha hq hg hs0 hn7;have hs:=@wR σ s;unfold H9 at h2 ⊢;cases e:wL t a with
 | some w=>rw [e] at h2;exact XU hO ha (by omega) h1 h2
 | none=>rw [e] at h2;exact XU hO ha (by omega) h1 h2
theorem YX (hO:vJ t σ) (ha:sz a s) (hq:Cb σ s≤2199023255551) (hg:lU σ (lV σ s)≤2199023255551) (hs0:0≤aJ t a) (hn7:n≤7) (hks:bD (s :: σ)≤2199023255551):AC aD true 22 [bV t,bF a] (.bT (H9 t a)):=by
 unfold H9;cases e:wL t a with
 | some w=>exact aiu hO ha hq hg hs0 e
 | none=>exact ahh hO ha hq hg hs0 e hn7 hks
variable {α:Type}
theorem QD {l r:List α} (hl:l.length = r.length) (h:∀ j,j < l.length→l[j]? = r[j]?):l = r:=by
 refine eW fun j=>?_
 rcases bj j l.length with h1 | h1
 · exact h j h1
 · rw [br h1,br (by omega)]
theorem cmp_eq (a b:Rat):decide (QX a b = 0) = decide (a = b):=by
 unfold QX;have:(a - b).num.sign = 0↔a = b:=by
  rw [ew,db];constructor
  · intro h;grind
  · intro h;grind
 by_cases h:a = b
 · rw [decide_eq_true (this.2 h),decide_eq_true h]
 · rw [decide_eq_false (fun e=>h (this.1 e)),decide_eq_false h]
theorem iD {l:List α} (h1:l.length = n) (h2:(i:Int) < (n:Int)):∃ q,l[i]? = some q∧q∈l:=by
 have hi:i < l.length:=by omega
 exact ⟨l[i],bh hi,fh hi⟩
theorem O1 {l r:List α} {a b:α} (h1:l[i]? = some a) (h2:r[i]? = some b) (h:a≠b):l≠r:=fun e=>by
 rw [e,h2] at h1;injection h1 with h1;exact h h1.symm
theorem abh {a b:Rat} (ha:Rb a) (hb:Rb b):AC aD true 73 [af a,af b] (.dat (vB (decide (a = b)))):=by
 refine aix 9 Tryz.func73 (k:=go 0 [[0,0,1],[5,2,3,4],[5]] (k:=q (a_call eN (YJ ha hb)) (go 1 [[2,4],[2]] (k:=?_))));exact rt_eq dG (by rw [cmp_eq])
theorem ahB {l r:List (Rat)} {fid:FuncId} (en:EN fid) (hc:∀ a∈l,∀ b∈r,AC aD true fid [af a,af b] (.dat (vB (decide (a = b))))) (hl:l.length≤1000000) (hr:r.length≤1000000):AC aD true 72 [dL l,dL r,.val (.func (.func fid) #[] #[])] (.dat (vB (decide (l = r)))):=by
 refine aix 32 Tryz.func72 (k:=go 0 [[0,0,1,2],[3,0,1,2,6],[5]] (k:=q (aI (n:=l.length) (hlen:=iL l)) (q aC (q (aI (n:=r.length) (hlen:=iL r)) (q (Ji) (gU [0,1,2,6,14] (k:=aT ?_)))))));refine bu (fun hc14=>?_) (fun hc14=>?_)
 · refine go 0 [[3,0,1,2,6],[3]] (k:=?_);exact rt_eq dG (by rw [decide_eq_false fun e=>hc14 (by rw [e])])
 ·
  refine go 0 [[6]] (k:=q (aI (n:=l.length) (hlen:=iL l)) (go 1 [[1,1,2,6,15,16,17],[2]] (k:=?_)));refine CT.weak (aZ (ι:=Nat) (fun i=>[(1,.dat (dL r)),(2,.dat (.val (.func (.func fid) #[] #[]))),(15,.dat (dL l)),(16,.dat (vI l.length)),(17,.dat (vI i))]) (fun i=>i≤l.length∧∀ j,j < i→l[j]? = r[j]?) (fun i=>l.length - i) ?_ (0) (⟨av _,fun _ h=>absurd h (by omega)⟩)) (sbk [1,2,15,16,17]);intro i ⟨hi,hj⟩;refine go 0 [[0,1,2,15,16,17],[3,1,2,15,16,17,18],[2]] (k:=?_);refine bu (fun hc18=>?_) (fun hc18=>?_)
  · refine go 0 [[6]] (k:=?_);obtain ⟨c1,h1,m1⟩:=iD (l:=l) rfl hc18;obtain ⟨c2,h2,m2⟩:=iD (l:=r) (by omega) hc18;refine q aC (q (dZ rfl (kM h1)) (go 1 [[4,1,2,7,8,15,16,17],[5]] (k:=q (dZ rfl (kM h2)) (go 1 [[3,1,2,8,9,15,16,17],[6]] (k:=?_)))));refine q (JW en (hc c1 m1 c2 m2)) (go 1 [[1,1,2,15,16,17,30],[1]] (k:=?_));refine dA (fun hc30=>?_) (fun hc30=>?_)
    · refine go 0 [[3,1,2,6,15,16,17],[7]] (k:=?_);exact rt_eq dG (by rw [decide_eq_false (O1 h1 h2 (by simpa using hc30))])
    · have he:c1 = c2:=by simpa using hc30
      have hnext:∀ j,j < i + 1→l[j]? = r[j]?:=fun j h=>(a6.1 h).elim (hj j) fun e=>by rw [e,h1,h2,he]
      refine go 0 [[4]] (k:=q (bH) (q aC (gU [1,2,15,16,17] (k:=?_))));exact aY (i + 1) ⟨⟨by omega,hnext⟩,by omega⟩ (sbk [1,2,15,16,17])
  · refine go 0 [[8,6],[2]] (k:=?_);exact rt_eq dG (by rw [decide_eq_true (QD (by omega) fun j h=>hj j (by omega))])
theorem PN {r:List Rat} (hl:um l) (hr:um r) (nl:l.length≤1000000) (nr:r.length≤1000000):AC aD true 26 [dL l,dL r] (.dat (vB (decide (l = r)))):=by
 refine aix 8 Tryz.func26 (k:=go 0 [[0,0,1],[3,0,1,4],[5]] (k:=q (a_call eN (ahB (eN (f:=73)) (fun a ha b hb=>abh (hl a ha) (hr b hb)) nl nr)) ?_));exact go 1 [[1,4],[2]] (k:=dG)
theorem ahm {l r:List (List Rat)} {fid:FuncId} (en:EN fid) (hc:∀ a∈l,∀ b∈r,AC aD true fid [dL a,dL b] (.dat (vB (decide (a = b))))) (hl:l.length≤1000000) (hr:r.length≤1000000):AC aD true 71 [kV l,kV r,.val (.func (.func fid) #[] #[])] (.dat (vB (decide (l = r)))):=by
 refine aix 32 Tryz.func71 (k:=go 0 [[0,0,1,2],[3,0,1,2,6],[5]] (k:=q (aI (n:=l.length) (hlen:=gZ l)) (q aC (q (aI (n:=r.length) (hlen:=gZ r)) (q (Ji) (gU [0,1,2,6,14] (k:=aT ?_)))))));refine bu (fun hc14=>?_) (fun hc14=>?_)
 · refine go 0 [[3,0,1,2,6],[3]] (k:=?_);exact rt_eq dG (by rw [decide_eq_false fun e=>hc14 (by rw [e])])
 ·
  refine go 0 [[6]] (k:=q (aI (n:=l.length) (hlen:=gZ l)) (go 1 [[1,1,2,6,15,16,17],[2]] (k:=?_)));refine CT.weak (aZ (ι:=Nat) (fun i=>[(1,.dat (kV r)),(2,.dat (.val (.func (.func fid) #[] #[]))),(15,.dat (kV l)),(16,.dat (vI l.length)),(17,.dat (vI i))]) (fun i=>i≤l.length∧∀ j,j < i→l[j]? = r[j]?) (fun i=>l.length - i) ?_ (0) (⟨av _,fun _ h=>absurd h (by omega)⟩)) (sbk [1,2,15,16,17]);intro i ⟨hi,hj⟩;refine go 0 [[0,1,2,15,16,17],[3,1,2,15,16,17,18],[2]] (k:=?_);refine bu (fun hc18=>?_) (fun hc18=>?_)
  · refine go 0 [[6]] (k:=?_);obtain ⟨c1,h1,m1⟩:=iD (l:=l) rfl hc18;obtain ⟨c2,h2,m2⟩:=iD (l:=r) (by omega) hc18;refine q aC (q (dZ rfl (jV h1)) (go 1 [[3,1,2,7,8,15,16,17],[5]] (k:=q (dZ rfl (jV h2)) (go 1 [[2,1,2,8,9,15,16,17],[6]] (k:=?_)))));refine q (JW en (hc c1 m1 c2 m2)) (go 1 [[1,1,2,15,16,17,30],[1]] (k:=?_));refine dA (fun hc30=>?_) (fun hc30=>?_)
    · refine go 0 [[3,1,2,6,15,16,17],[7]] (k:=?_);exact rt_eq dG (by rw [decide_eq_false (O1 h1 h2 (by simpa using hc30))])
    · have he:c1 = c2:=by simpa using hc30
      have hnext:∀ j,j < i + 1→l[j]? = r[j]?:=fun j h=>(a6.1 h).elim (hj j) fun e=>by rw [e,h1,h2,he]
      refine go 0 [[4]] (k:=q (bH) (q aC (gU [1,2,15,16,17] (k:=?_))));exact aY (i + 1) ⟨⟨by omega,hnext⟩,by omega⟩ (sbk [1,2,15,16,17])
  · refine go 0 [[8,6],[2]] (k:=?_);exact rt_eq dG (by rw [decide_eq_true (QD (by omega) fun j h=>hj j (by omega))])
def BF (t:List (List Rat)):Prop:=t.length≤1000000∧∀ l∈t,um l∧l.length≤1000000
theorem BF.take {t:List (List Rat)} (h:BF t) (n:Nat):BF (t.take n):=⟨by rw [aw];have:=h.1;omega,fun l hl=>h.2 l (de hl)⟩
variable {u:List (List Rat)}
theorem take_len {t:List (List Rat)} (h:(decide (((u.length:Nat):Int)≤((t.length:Nat):Int)) == true) = true):((u.length:Nat):Int) = ((((t.take u.length).map dL).length:Nat):Int):=by
 have h2:((u.length:Nat):Int)≤(t.length:Nat):=by simpa using h
 rw [ao,aw,eh (by omega)]
theorem aaX (a b:Nat):decide ((a:Int)≤(b:Int)) = decide (a≤b):=by
 by_cases h:a≤b
 · rw [decide_eq_true h,decide_eq_true (by omega)]
 · rw [decide_eq_false h,decide_eq_false (by omega)]
theorem Na (h:l.length≤2 ^ n):(mQ l n).length = 2 ^ n:=by simp [mQ];omega
theorem Iy:((mQ l n).map af).take l.length = l.map af:=by
 unfold mQ;rw [bs,fk (by simp)]
theorem RY {l:List Rat} {n i:Nat} (h:l.length≤i) (h2:i < 2 ^ n):((mQ l n).map af)[i]? = some (af 0):=by
 unfold mQ;rw [dx,ar h,cJ,if_pos (by omega)];rfl
theorem N7 {t:List (List Rat)} (ht:BF t) (hu:BF u):AC aD true 25 [kV t,kV u] (.dat (vB (fU t u))):=by
 refine aix 18 Tryz.func25 (k:=go 0 [[0,0,1],[3,0,1,4],[4]] (k:=q (aI (n:=u.length) (hlen:=gZ u)) (q aC (q (aI (n:=t.length) (hlen:=gZ t)) (q (aii) (q aC (fD (h:=aC) (k:=fD (h:=aC) (k:=cZ 12 (h:=aI (n:=u.length) (hlen:=gZ u)) (k:=gq2 11 13 (h:=fun hg=>kR (z:=(u.length:Int)) ((t.take u.length).map dL) ((t.drop u.length).map dL) (by rw [← bs,dc]) (take_len hg)) (k:=?_)))))))))));refine fD (h:=aC) (k:=qN 14 15 (h:=a_call eN (ahm (l:=t.take u.length) (r:=u) (eN (f:=26)) (fun a ha b hb=>PN ((ht.take _).2 a ha).1 (hu.2 b hb).1 ((ht.take _).2 a ha).2 (hu.2 b hb).2) (ht.take _).1 hu.1)) (k:=go 1 [[2,4],[2]] (k:=?_)));exact rt_eq dG (by rw [aaX];rfl)
theorem adJ (hn:n≤8) (h0:l≠[]) (hl:l.length≤2 ^ n):AC aD true 31 [bV t,dL l] (.grow 4 ((mQ l n).map af)):=by
 have hp:=jK (i:=n) (by omega);have hlen:((mQ l n).map af).length = 2 ^ n:=by rw [ao,Na hl]
 have h1:=Iy (l:=l) (n:=n);have hz:=@RY l n;generalize hL:(mQ l n).map af = L at hlen h1 hz;refine aix 19 Tryz.func31 (k:=go 0 [[0,0,1],[3,0,1,4],[4]] (k:=q (a_call eN (jb (l:=l.map af) (fun e=>h0 (dk.1 e)) (by rw [ao];omega) (iK _))) ?_));refine go 1 [[1,0,4,5],[3]] (k:=?_);rw [← h1];refine CT.weak (aZ (ι:=Nat) (fun i=>[(0,.dat (bV t)),(5,.grow 4 (L.take (l.length + i)))]) (fun i=>l.length + i≤2 ^ n) (fun i=>2 ^ n - i) ?_ (0) (by omega)) (sbk [0,5]);intro i hi;refine go 0 [[0,0,5],[3]] (k:=q (jf) (q (uk (n:=l.length + i) (hlen:=by simp only [lenOf];rw [aw];congr 1;omega)) (q aC (q (aI (n:=n) (hlen:=aP t)) (q (pI (n:=n) (z:=((2 ^ n:Nat):Int)) (hn0:=by omega) (hz:=yP) (h1:=mX) (h2:=dH (by omega))) (go 1 [[1,0,5,13],[1]] (k:=?_)))))));refine bu (fun hc13=>?_) (fun hc13=>?_)
 · refine go 0 [[5]] (k:=q (a_call eN (AO)) (q (jM (xs:=[.tmp 15]) (es:=[af 0]) aW) (q (iI aW (hb:=by rw [aw];show (min (l.length + i) L.length + 1) * 64≤_;omega) (hu2:=VZ _)) (q vX ?_))));rw [jG (hz (i:=l.length + i) (by omega) (by omega))];refine gU [0,5] (k:=OM ?_);exact aY (i + 1) ⟨by omega,by omega⟩ (sbk [0,5])
 · refine go 0 [[9]] (k:=?_);rw [aL (by omega)];exact gU [4] (k:=aT (lT qj))
theorem Q9 {a:Rat} (ha:Rb a):AC aD true 90 [af a] (.dat (af a)):=by
 exact aix 16 Tryz.func90 (k:=go 0 [[0,0],[4,1,2],[2]] (k:=dC 14 mixed (go 3 [[1]] (k:=ach (ct:=acV 0 1 (ct:=ak eN (xe (x:=a.num.natAbs) (aM ha.1 (by decide))) (ct:=go 3 [[1]] (k:=ach (ct:=acV 1 1 (ct:=ak eN (xe (x:=(a.den:Int).natAbs) (aM ha.2 (by decide))) (ct:=go 3 [[1]] (k:=ach (ct:=adP (ah0 a) (ct:=go 3 [[1]] (k:=ach (ct:=adP (ahO a) (ct:=go 3 [[1,1,2],[5,2],[2]] (k:=dG))))))))))))))))))
theorem Ri (hl:um l) (hn:l.length≤1000000):AC aD true 61 [dL l] (oL l):=by
 have hlen:(l.map af).length = l.length:=by simp
 have hat:=@kM l;show AC aD true _ _ (F.own 4 (l.map af));generalize hL:l.map af = L at hlen hat;refine aix 23 Tryz.func61 (k:=go 0 [[0,0],[3,0,2],[4]] (k:=q (aI (n:=l.length) (hlen:=iL l)) (q (BV (n:=l.length) aW rfl rfl (by omega)) ?_)));rw [Az hlen];refine go 1 [[1,0,2,3],[5]] (k:=q (aI (n:=l.length) (hlen:=iL l)) (go 1 [[1,2,3,9,10,11],[2]] (k:=?_)));refine CT.weak (aZ (ι:=Nat) (fun i=>[(3,.own 4 (nC L i dR)),(9,.dat (dL l)),(10,.dat (vI l.length)),(11,.dat (vI i))]) (fun i=>i≤l.length) (fun i=>l.length - i) ?_ (0) (av _)) (sbk [3,9,10,11]);intro i hi;refine go 0 [[0,3,9,10,11],[3,3,9,10,11,12],[2]] (k:=?_);refine bu (fun hc12=>?_) (fun hc12=>?_)
 · refine go 0 [[6]] (k:=?_);obtain ⟨c,hc,hm⟩:=rP rfl hc12;refine q aC (q (dZ rfl (kM hc)) (go 1 [[4,3,4,5,9,10,11],[2]] (k:=q (jf) (q aC (q bM (q (a_call eN (Q9 (hl c hm))) (q (OE (i:=i) (es:=nC L i dR) rfl (by rw [jl (by omega)];omega)) (q (yN (hi:=by rw [jl (by omega)];omega)) ?_))))))));rw [sN (hat hc)];refine go 1 [[0,3,9,10,11],[3]] (k:=q (bH) (q aC (gU [3,9,10,11] (k:=?_))));exact aY (i + 1) ⟨by omega,by omega⟩ (sbk [3,9,10,11])
 · obtain rfl:i = l.length:=by omega
   refine go 0 [[9]] (k:=?_);rw [su hlen];exact gU [2] (k:=aT (lT KZ))
def UM {n:Nat} (t:Tw n) (x:El n):D:=.agg [bV t,bF x]
theorem WC (t:Tw n) (ρ:Nat→El n) (k:Nat):aO t ρ (zeroE k) = zeroE n:=gJ t ρ k
theorem Ua (hO:vJ t σ) (hx:sz x s) (hk:lU σ s≤2199023255551):AC aD true 6 [UM t x] (.dat (vI (aJ t x))):=by
 exact aix 8 Tryz.func6 (k:=go 0 [[0,0],[4,1,2],[4]] (k:=q (aX 0) (q dn (q (aX 1) (q (a_call eN (G9 hO.n8 hO.pt hO.red hO.sg hx hk)) (go 1 [[1,2],[2]] (k:=dG)))))))
def yK (sρ κ:Nat):Nat→Nat→Nat
 | 0,s=>s
 | k + 1,s=>2 * yK sρ κ k s + sρ + κ + 1
theorem sz.rat {a:Rat} (h:sz (n:=0) a s):sz (dD n a) s:=by
 obtain ⟨D,M,h1,h2,h3,h4⟩:=h;refine ⟨D,M,h1,h2,h3,fun q hq=>?_⟩;rw [kY] at hq;rcases ep.1 hq with rfl | hq
 · exact h4 _ (aR.2 rfl)
 · rw [(dt.1 hq).2];exact (qD.zero D).mono (av _)
theorem He {sρ κ:Nat}:∀ {k s:Nat},s≤yK sρ κ k s
 | 0,s=>bk s
 | k + 1,s=>by have:=@He sρ κ k s;simp only [yK];omega
theorem sz.img {n:Nat} {t:Tw n} {σ:List Nat} (ht:PT t σ) {ρ:Nat→El n} {sρ:Nat}:∀ {k:Nat} {x:El k} {s:Nat},(∀ i,i < k→sz (ρ i) sρ)→sz x s→sz (aO t ρ x) (yK sρ (bD σ) k s)
 | 0,a,s,_,h=>h.rat
 | k + 1,(x,y),s,hρ,h=>by
  have h1:=sz.img ht (fun i hi=>hρ i (by omega)) h.fst;have h2:=sz.mul ht (sz.img ht (fun i hi=>hρ i (by omega)) h.snd) (hρ k (by omega));exact (h1.add h2).mono (by simp only [yK];omega)
variable {k:Nat}
theorem zG (h:((2 ^ (i + 1):Nat):Int) < ((2 ^ (k + 1):Nat):Int)):i + 1≤k:=by
 rcases bj k (i + 1) with h1 | h1
 · have:=bp (show 0 < 2 by omega) (show k + 1≤i + 1 by omega);omega
 · exact h1
theorem Lt (hi:i≤k) (h:¬ ((2 ^ (i + 1):Nat):Int) < ((2 ^ (k + 1):Nat):Int)):i = k:=by
 rcases bj i k with h1 | h1
 · have:=eI (show 1 < 2 by omega) (show i + 1 < k + 1 by omega);omega
 · omega
variable {ρ:Nat→El n}
theorem aa6 {x y:El k} (h:iW y = true):aO (k:=k + 1) t ρ (x,y) = aO t ρ x:=by
 rw [gq.1 h];show aH (aO t ρ x) (au t (aO t ρ (zeroE k)) (ρ k)) = aO t ρ x;rw [WC,(jY t).mc,(jY t).zm,(jY t).az]
variable {R:List (List Rat)}
theorem ai6 {ρ:Nat→El n} {sρ:Nat} (hn:n≤8) (ht:PT t σ) (hk:bD σ≤2199023255551) {a:Rat} (ha:Rb a):AC aD true 77 [.agg [bV t,kV R],bF (n:=0) a] (rX (dD n a)):=by
 exact aix 60 Tryz.func77 (k:=go 0 [[0,0,1],[4,1,2,4],[5]] (k:=q (aI (n:=1) (hlen:=rfl)) (go 1 [[1,1,2,4,11],[3]] (k:=dC 6 mixed (go 3 [[1]] (k:=bG 0 (ct:=go 3 [[1]] (k:=uH (es:=[af a]) (e:=af a) (i:=0) rfl rfl (ct:=go 3 [[1]] (k:=ak eN (ND (t:=t) (a:=a) hn ht hk ha) (ct:=go 3 [[2,1,2,4],[3]] (k:=qj))))))))))))
theorem ai5 {sρ:Nat} (hn:n≤8) (ht:PT t σ) (hk:bD σ≤2199023255551) {x y:El k} {w:List Rat} (hk8:k≤7) (hx:sz (n:=k + 1) (x,y) s) (hb:yK sρ (bD σ) (k + 1) s + bD σ≤2199023255551) (hρ:∀ i,i < k + 1→sz (ρ i) sρ) (hw:R[k]? = some w) (hw0:w≠[]) (hwl:w.length≤2 ^ n) (hwp:mQ w n = flat (ρ k)) (IH:∀ (x:El k) (s:Nat),sz x s→yK sρ (bD σ) k s + bD σ≤2199023255551→AC aD true 77 [.agg [bV t,kV R],bF x] (rX (aO t ρ x))):AC aD true 77 [.agg [bV t,kV R],bF (n:=k + 1) (x,y)] (rX (aO (k:=k + 1) t ρ (x,y))):=by
 have hp:=jK (i:=k + 1) (by omega);have h2k:2 ^ (k + 1) = 2 * 2 ^ k:=by rw [eC];omega
 have h0k:0 < 2 ^ k:=bR (by omega);have hle:=@He sρ (bD σ) k s;have he:yK sρ (bD σ) (k + 1) s = 2 * yK sρ (bD σ) k s + sρ + bD σ + 1:=rfl;have hi1:=sz.img ht (fun i hi=>hρ i (by omega)) hx.fst;have hi2:=sz.img ht (fun i hi=>hρ i (by omega)) hx.snd;have hm:=sz.mul ht hi2 (hρ k (by omega));refine aix 60 Tryz.func77 (k:=go 0 [[0,0,1],[4,1,2,4],[5]] (k:=q (aI (n:=2 ^ (k + 1)) (hlen:=dU (n:=k + 1) (x,y))) (go 1 [[1,1,2,4,11],[7]] (k:=q (aI (n:=2 ^ (k + 1)) (hlen:=dU (n:=k + 1) (x,y))) (q (nR (z:=((2 ^ k:Nat):Int)) (hz:=kF k) (h2:=dH (by omega)) (hp:=aq _)) (go 1 [[2,1,2,4,5,6],[3]] (k:=?_)))))));refine CT.weak (aZ (ι:=Nat) (fun i=>[(1,.dat (bF (n:=k + 1) (x,y))),(2,.box (.agg [bV t,kV R])),(5,.dat (vI ((2 ^ k:Nat):Int))),(6,.dat (vI i))]) (fun i=>i≤k) (fun i=>k - i) ?_ (0) (av _)) (sbk [1,2,5,6]);intro i hi;refine go 0 [[0,1,2,5,6],[4]] (k:=q (bH (z:=((i + 1:Nat):Int)) (hz:=by omega)) (q (pI (n:=(i + 1)) (z:=((2 ^ (i + 1):Nat):Int)) (hn0:=by omega) (hz:=yP) (h1:=mX) (h2:=dH (by omega))) (q aC (q (aI (n:=2 ^ (k + 1)) (hlen:=dU (n:=k + 1) (x,y))) (go 1 [[1,1,2,5,6,26],[1]] (k:=?_))))));refine bu (fun hc26=>?_) (fun hc26=>?_)
 · refine go 0 [[5]] (k:=q (bH (z:=((i + 1:Nat):Int)) (hz:=by omega)) (go 1 [[1,1,2,5,6],[1]] (k:=?_)));exact aY (i + 1) ⟨zG hc26,(by have:=zG hc26;omega)⟩ (sbk [1,2,5,6])
 · obtain rfl:k = i:=(Lt hi hc26).symm;refine go 0 [[6]] (k:=dC 5 mixed (go 3 [[3]] (k:=fQ (z:=((2 ^ k:Nat):Int)) ((flat x).map af) ((flat y).map af) (aK x y) (by simp [flat_length]) (ct:=ak eN (IH x s hx.fst (by omega)) (ct:=go 3 [[2,1,2,5,6,7],[6]] (k:=q (SK (z:=((2 ^ k:Nat):Int)) ((flat x).map af) ((flat y).map af) (aK x y) (by simp [flat_length])) (q (a_call eN (wK (x:=y) (hx.snd.rb (by omega)) (by omega))) (gU [1,2,5,6,7,37] (k:=aT ?_)))))))));refine dA (fun hc37=>?_) (fun hc37=>?_)
   · refine go 0 [[4,1,2,4,5,6],[3]] (k:=?_);exact rt_eq qj (by rw [aa6 hc37])
   · exact eF (aT (bP (dC 16 mixed (go 3 [[1]] (k:=bG 0 (ct:=go 3 [[3]] (k:=kz (z:=((2 ^ k:Nat):Int)) ((flat x).map af) ((flat y).map af) (aK x y) (by simp [flat_length]) (ct:=ak eN ((IH y s hx.snd (by omega)).gd) (ct:=go 3 [[1]] (k:=bG 0 (ct:=go 3 [[1]] (k:=bG 1 (ct:=go 3 [[1]] (k:=mP (i:=k) rfl (jV hw) (ct:=go 3 [[1]] (k:=ak eN (((adJ (t:=t) hn hw0 hwl).eq (show _ = rX (ρ k) by rw [hwp])).gd) (ct:=ak eN (rJ hn ht hk hi2 (hρ k (by omega)) (by omega)) (ct:=go 3 [[2,2,7,8],[4]] (k:=q (aX 0) (q (jf) (q (jf) (q (a_call eN (Ky hn ht hk (hi1.rb (by omega)) (hm.rb (by omega)))) (go 1 [[1,4],[2]] (k:=qj))))))))))))))))))))))))
theorem af2 {n:Nat} {t:Tw n} {R:List (List Rat)} {ρ:Nat→El n} {σ:List Nat} {sρ:Nat} (hn:n≤8) (ht:PT t σ) (hk:bD σ≤2199023255551):∀ {k:Nat} {x:El k} {s:Nat},k≤8→(∀ i,i < k→∃ w,R[i]? = some w∧w≠[]∧w.length≤2 ^ n∧mQ w n = flat (ρ i))→(∀ i,i < k→sz (ρ i) sρ)→sz x s→yK sρ (bD σ) k s + bD σ≤2199023255551→AC aD true 77 [.agg [bV t,kV R],bF x] (rX (aO t ρ x))
 | 0,a,s,_,_,_,ha,hb=>ai6 (ρ:=ρ) (sρ:=sρ) hn ht hk (ha.rb (by have:=@He sρ (bD σ) 0 s;omega) a (aR.2 rfl))
 | k + 1,(x,y),s,hk8,hR,hρ,hx,hb=>by
  obtain ⟨w,w1,w2,w3,w4⟩:=hR k (by omega);exact ai5 hn ht hk (by omega) hx hb hρ w1 w2 w3 w4 fun x s h1 h2=>af2 hn ht hk (by omega) (fun i hi=>hR i (by omega)) (fun i hi=>hρ i (by omega)) h1 h2
theorem Be (d:D) (h:d.kJ = true):D.ik [d] = true:=by unfold D.ik;rw [h];rfl
variable {T:List (List Rat)}
theorem SY {c:List Rat} (hT:BF T) (hc:um c) (nc:c.length≤1000000):AC aD true 20 [fC T c] (.dat (fC T c)):=by
 have hlen:(T.map dL).length = T.length:=by simp
 have hat:=@jV T;generalize hL:T.map dL = L at hlen hat;have h1:=hT.1;refine aix 26 Tryz.func20 (k:=go 0 [[0,0],[4,1,2],[4]] (k:=q (aX 1) (q (a_call eN ((Ri hc nc).og.gd)) (q (Iu) (go 1 [[2,1,2,3],[5]] (k:=q (aX 0) (q (aI (n:=T.length) (hlen:=gZ T)) (go 1 [[1,2,3,11,12,13],[2]] (k:=ctq (fun a W h=>h.abA (g:=900) (k:=1) rfl) ?_)))))))));refine CT.weak (aZ (ι:=Nat × Value) (fun p=>[(2,.box sH),(3,.box (.agg [.val p.2,dL c])),(11,.dat (kV T)),(12,.dat (vI T.length)),(13,.dat (vI p.1)),(900,.gv p.2 1 (L.take p.1))]) (fun p=>p.1≤T.length) (fun p=>T.length - p.1) ?_ ((0,.slice none 0 0)) (av _)) (sbk [2,3,11,12,13,900]);intro ⟨i,v⟩ hi;refine SQ [2,3,11,12,13,900] (k:=?_);have hi:i≤T.length:=hi;refine go 0 [[3,2,3,11,12,13,14,900],[2]] (k:=?_);refine bu (fun hc14=>?_) (fun hc14=>?_)
 · refine go 0 [[6]] (k:=?_);obtain ⟨r,hr,hm⟩:=iD (l:=T) rfl hc14;refine q (dZ rfl (jV hr)) (go 1 [[2,2,3,5,11,12,13,900],[1]] (k:=dC 5 mixed (go 3 [[1]] (k:=bG 0 (ct:=go 3 [[1]] (k:=ak eN ((Ri (hT.2 r hm).1 (hT.2 r hm).2).og.gd) (ct:=UF gm (ct:=go 3 [[1]] (k:=?_)))))))));refine sq (fun a W h=>h.aak (t:=18) (g:=900) rfl rfl rfl rfl (by decide)) ?_;rw [← dL];refine q (iI gm (hb:=by rw [aw];show (min i L.length + 1) * 24≤_;omega) (hu2:=Be _ rfl)) ?_;rw [jG (hat hr)];refine fK.ex (fun a W h=>h.Uj (t:=22) (g:=900) rfl rfl rfl (by decide)) fun ⟨v2,hv2⟩=>q dn (q (yI 0 (hu:=hv2)) (go 1 [[0,2,3,11,12,13,900],[3]] (k:=q (bH) (q aC (gU [2,3,11,12,13,900] (k:=?_))))))
   exact aY ((i + 1,v2)) ⟨by show i + 1≤_;omega,by show T.length - (i + 1) < T.length - i;omega⟩ (sbk [2,3,11,12,13,900])
 · obtain rfl:i = T.length:=by omega
   refine go 0 [[7]] (k:=?_);refine sq (fun a W h=>h.aaI (s:=3) (g:=900) rfl rfl (vG.fst (vG.here rfl))) (go 1 [[2,2],[2]] (k:=?_));exact rt_eq dG (by rw [aL (by omega),← hL];rfl)
structure EP (E:Xt) (i:Nat) (q:El i) (σ:List Nat) (s r:Nat):Prop where
 len:E.R.length = i
 i8:i≤8
 n7:E.n≤7
 ok:vJ E.T σ
 sq:sz q s
 rt:∀ j,j < i→sz (E.ρ j) r
 rows:∀ w∈E.R,w≠[]∧w.length≤2 ^ E.n
 b1:yK r (bD σ) i s + bD σ≤2199023255551
 b2:Cb σ (yK r (bD σ) i s)≤2199023255551
 b3:lU σ (lV σ (yK r (bD σ) i s))≤2199023255551
 b4:bD (yK r (bD σ) i s :: σ)≤2199023255551
 b5:uO σ (yK r (bD σ) i s)≤2199023255551
 okb:KY uO 2199023255551 σ
 sg:0≤aJ E.T (aO E.T E.ρ q)
variable {j:Nat}
theorem Xt.P5 {E:Xt} (h:∀ w∈E.R,w≠[]∧w.length≤2 ^ E.n) (hj:j < E.R.length):∃ w,E.R[j]? = some w∧w≠[]∧w.length≤2 ^ E.n∧mQ w E.n = flat (E.ρ j):=by
 have hm:=h _ (fh hj);refine ⟨E.R[j],bh hj,hm.1,hm.2,?_⟩;unfold Xt.ρ;rw [List.getD_eq_getElem?_getD,bh hj];exact (qM hm.2).symm
theorem Xt.adj (E:Xt) (q:El i) (hi:E.R.length = i):∃ w,(E.step (flat q)).R = E.R ++ [w]∧H9 E.T (aO E.T E.ρ q) = [bV (E.step (flat q)).T,dL w,vI 0]:=by
 subst hi;have ha:aO E.T E.ρ (jU E.R.length (flat q)) = aO E.T E.ρ q:=by rw [jC]
 unfold H9;cases e:wL E.T (aO E.T E.ρ q) with
 | some w=>rw [Xt.step_some ha e];exact ⟨flat w,rfl,rfl⟩
 | none=>rw [Xt.step_none ha e];exact ⟨flat (gu E.n),rfl,rfl⟩
theorem Ot (R:List (List Rat)) (w:List Rat):R.map dL ++ [dL w] = (R ++ [w]).map dL:=by simp
theorem acZ {u:Tw k} {st:Nat→Xt} (h0:st 0 = ⟨n,t,[]⟩) (hk8:k≤8) (hs:∀ i,i < k→∃ q:El i,(aA u)[i]? = some (flat q)∧st (i + 1) = (st i).step (flat q)∧∃ σ s r,EP (st i) i q σ s r):AC aD true 76 [bV t,bV u] (.bT [.agg [bV (st k).T,kV (st k).R],vI 0]):=by
 refine aix 44 Tryz.func76 (k:=go 0 [[0,0,1],[4,0,1,4,5],[7,1,4,5,6],[5]] (k:=q (aI (n:=k) (hlen:=aP u)) (go 1 [[1,4,5,6,14,15,16],[2]] (k:=ctq (fun a W h=>h.abA (g:=900) (k:=1) rfl) ?_))));rw [show bV t = bV (st 0).T by rw [h0],show F.gv (.slice none 0 0) 1 [] = F.gv (.slice none 0 0) 1 ((st 0).R.map dL) by rw [h0];rfl];refine CT.weak (aZ (ι:=Nat × Value) (fun p=>[(4,.box sH),(6,.box (.agg [bV (st p.1).T,.val p.2])),(14,.dat (bV u)),(15,.dat (vI k)),(16,.dat (vI p.1)),(900,.gv p.2 1 ((st p.1).R.map dL))]) (fun p=>p.1≤k) (fun p=>k - p.1) ?_ ((0,.slice none 0 0)) (av _)) (sbk [4,6,14,15,16,900]);intro ⟨i,v⟩ hi;refine SQ [4,6,14,15,16,900] (k:=?_);have hi:i≤k:=hi;refine go 0 [[3,4,6,14,15,16,17,900],[2]] (k:=?_);refine bu (fun hc17=>?_) (fun hc17=>?_)
 · refine go 0 [[6]] (k:=?_);obtain ⟨qe,hq,hst,σ,s,r,ok⟩:=hs i (by have h:(i:Int) < (k:Int):=hc17;omega);obtain ⟨w,hw1,hw2⟩:=Xt.adj (st i) qe ok.len;refine q (dZ rfl (jV hq)) (go 1 [[2,4,6,8,14,15,16,900],[2]] (k:=dC 13 mixed (go 3 [[1]] (k:=bG 0 (ct:=ahE 900 (vG.snd (vG.here rfl)) (ct:=go 3 [[1]] (k:=ak eN ((af2 (t:=(st i).T) (ρ:=(st i).ρ) (R:=(st i).R) ok.ok.n8 ok.ok.pt ok.ok.k ok.i8 (fun j hj=>Xt.P5 ok.rows (by have:=ok.len;omega)) ok.rt ok.sq ok.b1).gd) (ct:=ak eN ((YX ok.ok (sz.img ok.ok.pt ok.rt ok.sq) ok.b2 ok.b3 ok.sg ok.n7 ok.b4).eq (congrArg F.bT hw2)) (ct:=go 3 [[8,4,6,9,10,11,14,15,16,900],[6,4,6,9,10,11,14,15,16,31,900],[7]] (k:=q (aX 1) (q aC (q (jM (xs:=[.tmp 37]) (es:=[dL w]) gm) ?_))))))))))));refine sq (fun a W h=>h.aak (t:=36) (g:=900) rfl rfl rfl rfl (by decide)) (q (iI (l2:=[dL w]) gm (hb:=by have h1:=ok.len;have h2:=ok.i8;rw [ao];show ((st i).R.length + 1) * 24≤_;omega) (hu2:=Be _ rfl)) ?_);rw [Ot,← hw1,← hst];refine fK.ex (fun a W h=>h.Uj (t:=39) (g:=900) rfl rfl rfl (by decide)) fun ⟨v2,hv2⟩=>q dn (q (yI 0) (q dn (q (yI 1 (hu:=hv2)) (go 1 [[0,4,6,14,15,16,900],[3]] (k:=q (bH) (q aC (gU [4,6,14,15,16,900] (k:=?_))))))))
   exact aY ((i + 1,v2)) ⟨by show i + 1≤_;omega,by show k - (i + 1) < k - i;omega⟩ (sbk [4,6,14,15,16,900])
 · obtain rfl:i = k:=by omega
   refine go 0 [[7]] (k:=?_);exact sq (fun a W h=>h.aaI (s:=6) (g:=900) rfl rfl (vG.snd (vG.here rfl))) (go 1 [[3,4,5],[2]] (k:=qJ))
def aV (a:Nm):D:=UM a.t a.x
def XY (tp tq:List (List Rat)) (a:Nm):Prop :=
 (fU tp (aA a.t) = true∧tq = tp)∨(fU tp (aA a.t) = false∧fU (aA a.t) tp = true∧tq = aA a.t) ∨
 (fU tp (aA a.t) = false∧fU (aA a.t) tp = false∧∃ E:Xt,AC aD true 76 [kV tp,bV a.t] (.bT [.agg [bV E.T,kV E.R],vI 0])∧tq = aA E.T)
theorem QA {a b:Nm} {i:Nat} (h:i < 2):[aV a,aV b][i]? = some (aV (if i = 0 then a else b)):=by
 have:i = 0∨i = 1:=by omega
 rcases this with rfl | rfl <;> rfl
variable {b:Nm} {ts:Nat→List (List Rat)}
theorem ail {a:Nm} (h0:ts 0 = []) (hR:∀ i,i < 2→BF (ts i)∧BF (aA (if i = 0 then a else b).t)∧XY (ts i) (ts (i + 1)) (if i = 0 then a else b)):AC aD true 75 [.list 2 [aV a,aV b]] (.bT [kV (ts 2),vI 0]):=by
 refine aix 41 Tryz.func75 (k:=go 0 [[0,0],[4,0,2,3],[4,0,2,3,4],[4]] (k:=?_));refine sq (fun a W h=>h.Uk (s:=4) (k:=1) rfl) ?_;rw [show D.list 1 [] = kV (ts 0) by rw [h0];rfl];refine q aC (q (aI (n:=2) (hlen:=rfl)) (go 1 [[1,2,3,4,9,10,11],[2]] (k:=?_)));refine CT.weak (aZ (ι:=Nat) (fun i=>[(3,.dat (vI 0)),(4,.dat (kV (ts i))),(9,.dat (.list 2 [aV a,aV b])),(10,.dat (vI 2)),(11,.dat (vI i))]) (fun i=>i≤2) (fun i=>2 - i) ?_ (0) (by omega)) (sbk [3,4,9,10,11]);intro i hi;refine go 0 [[0,3,4,9,10,11],[3,3,4,9,10,11,12],[2]] (k:=?_);refine bu (fun hc12=>?_) (fun hc12=>?_)
 ·
  refine go 0 [[6]] (k:=?_);have hi2:i < 2:=by have h:(i:Int) < ((2:Nat):Int):=hc12;omega
  obtain ⟨r1,r2,r3⟩:=hR i hi2;obtain ⟨c,hc⟩:∃ c,c = (if i = 0 then a else b):=⟨_,rfl⟩;rw [← hc] at r2 r3;refine q (dZ rfl (QA hi2)) ?_;rw [← hc];refine q (fO (e:=UM c.t c.x)) (go 1 [[2,3,4,6,9,10,11],[6]] (k:=q (aX 0) (q (a_call eN (N7 r1 r2)) (go 1 [[1,3,4,6,9,10,11,27],[1]] (k:=?_)))));refine dA (fun hc27=>?_) (fun hc27=>?_)
  ·
   have hnx:kV (ts i) = kV (ts (i + 1)):=by
    rcases r3 with ⟨_,e⟩ | ⟨e,_⟩ | ⟨e,_⟩
    · rw [e]
    · rw [hc27] at e;cases e
    · rw [hc27] at e;cases e
   refine go 0 [[5]] (k:=?_);rw [hnx];refine q (bH) (q aC (gU [3,4,9,10,11] (k:=?_)));exact aY (i + 1) ⟨by omega,by omega⟩ (sbk [3,4,9,10,11])
  ·
   refine bP (cO (q dn (q (aX 0) (q aC (q (a_call eN (N7 r2 r1)) (go 1 [[1,3,4,6,9,10,11,32],[1]] (k:=?_)))))));refine dA (fun hc32=>?_) (fun hc32=>?_)
   · have hnx:bV c.t = kV (ts (i + 1)):=by
      rcases r3 with ⟨e,_⟩ | ⟨_,_,e⟩ | ⟨_,e,_⟩
      · rw [hc27] at e;cases e
      · rw [e];rfl
      · rw [hc32] at e;cases e
     refine cO (q dn (q (aX 0) (go 1 [[1,3,4,9,10,11],[4]] (k:=?_))));rw [hnx];refine q (bH) (q aC (gU [3,4,9,10,11] (k:=?_)));exact aY (i + 1) ⟨by omega,by omega⟩ (sbk [3,4,9,10,11])
   ·
    obtain ⟨E,hE,hts⟩:∃ E:Xt,AC aD true 76 [kV (ts i),bV c.t] (.bT [.agg [bV E.T,kV E.R],vI 0])∧ts (i + 1) = aA E.T:=by
     rcases r3 with ⟨e,_⟩ | ⟨_,e,_⟩ | ⟨_,_,e⟩
     · rw [hc27] at e;cases e
     · rw [hc32] at e;cases e
     · exact e
    have hnx:bV E.T = kV (ts (i + 1)):=by rw [hts];rfl
    refine go 0 [[4]] (k:=q (aX 0) (q (a_call eN (hE)) (go 1 [[6,3,4,7,8,9,10,11],[6,3,4,7,8,9,10,11,23],[6]] (k:=q (aX 0) (go 1 [[1,3,4,9,10,11],[4]] (k:=?_))))));rw [hnx];refine q (bH) (q aC (gU [3,4,9,10,11] (k:=?_)));exact aY (i + 1) ⟨by omega,by omega⟩ (sbk [3,4,9,10,11])
 · obtain rfl:i = 2:=by omega
   exact go 0 [[10,2,3],[2]] (k:=qJ)
def Zk {n:Nat} (C:Tw n) (c:Nm) (x:List Rat):Prop :=
 (fU (aA C) (aA c.t) = true∧c.n≤n∧x = mQ (flat c.x) n) ∨
 (fU (aA C) (aA c.t) = false∧∃ E:Xt,AC aD true 76 [bV C,bV c.t] (.bT [.agg [bV E.T,kV E.R],vI 0])∧AC aD true 77 [.agg [bV E.T,kV E.R],bF c.x] (.grow 4 (x.map af)))
theorem RI {n:Nat} {C:Tw n} {x y:List Rat} {i:Nat} (h:i < 2):[fC (aA C) x,fC (aA C) y][i]? = some (fC (aA C) (if i = 0 then x else y)):=by
 have:i = 0∨i = 1:=by omega
 rcases this with rfl | rfl <;> rfl
variable {C:Tw n}
theorem adV {a:Nm} {x y:List Rat} (hn:n≤8) (hc:AC aD true 75 [.list 2 [aV a,aV b]] (.bT [bV C,vI 0])) (hR:BF (aA C)) (hi:∀ i,i < 2→BF (aA (if i = 0 then a else b).t)∧um (if i = 0 then x else y)∧(if i = 0 then x else y).length≤1000000∧Zk C (if i = 0 then a else b) (if i = 0 then x else y)):AC aD true 27 [.list 2 [aV a,aV b]] (.bT [.list 2 [fC (aA C) x,fC (aA C) y],vI 0]):=by
 have hat:=@RI n C x y;have hL:[fC (aA C) x,fC (aA C) y].length = 2:=rfl;generalize hLL:[fC (aA C) x,fC (aA C) y] = L at hat hL;refine aix 59 Tryz.func27 (k:=go 0 [[0,0],[4,0,2,3],[4]] (k:=q (a_call eN (hc)) (go 1 [[5,0,2,3,4,5],[6,0,2,3,4,5,18],[7,0,2,3,4,6],[4]] (k:=?_))));refine sq (fun a W h=>h.lF (s:=6) (k:=2) rfl) ?_;rw [show F.grow 2 [] = F.grow 2 (L.take 0) from rfl];refine q aC (q (aI (n:=2) (hlen:=rfl)) (go 1 [[1,2,3,4,6,20,21,22],[2]] (k:=?_)));refine CT.weak (aZ (ι:=Nat) (fun i=>[(3,.dat (vI 0)),(4,.dat (bV C)),(6,.grow 2 (L.take i)),(20,.dat (.list 2 [aV a,aV b])),(21,.dat (vI 2)),(22,.dat (vI i))]) (fun i=>i≤2) (fun i=>2 - i) ?_ (0) (by omega)) (sbk [3,4,6,20,21,22]);intro i hi0;refine go 0 [[0,3,4,6,20,21,22],[3,3,4,6,20,21,22,23],[2]] (k:=?_);refine bu (fun hc23=>?_) (fun hc23=>?_)
 ·
  refine go 0 [[6]] (k:=?_);have hi2:i < 2:=by have h:(i:Int) < ((2:Nat):Int):=hc23;omega
  obtain ⟨r1,r2,r3,r4⟩:=hi i hi2;have hat2:=hat hi2;obtain ⟨c,hcc⟩:∃ c,c = (if i = 0 then a else b):=⟨_,rfl⟩;obtain ⟨z,hz⟩:∃ z,z = (if i = 0 then x else y):=⟨_,rfl⟩;rw [← hcc] at r1 r4;rw [← hz] at r2 r3 r4 hat2;refine q (dZ rfl (QA hi2)) ?_;rw [← hcc];refine q (fO (e:=UM c.t c.x)) (go 1 [[2,3,4,6,8,20,21,22],[7,3,4,6,8,9,20,21,22],[6]] (k:=q (aX 0) (q (a_call eN (N7 hR r1)) (gU [3,4,6,8,9,20,21,22,31] (k:=aT ?_)))));refine dA (fun hc31=>?_) (fun hc31=>?_)
  ·
   obtain ⟨e2,e3⟩:c.n≤n∧z = mQ (flat c.x) n:=by
    rcases r4 with ⟨_,e⟩ | ⟨e,_⟩
    · exact e
    · rw [hc31] at e;cases e
   have hbx:(mQ (flat c.x) n).map af = z.map af:=by rw [e3]
   refine go 0 [[3]] (k:=q (aX 1) (q (a_call eN (adJ (t:=C) (l:=flat c.x) hn (AU c.x) (by rw [flat_length];exact bp (by omega) e2))) (q dn (q (yI 1) (gU [3,4,6,9,20,21,22] (k:=aT (cO ?_)))))));rw [hbx];refine q vX (q (bM (e:=fC (aA C) z)) (q (a_call eN (SY (c:=z) hR r2 r3)) (q (jM (xs:=[.tmp 54]) (es:=[fC (aA C) z]) lI) (q (iI (l2:=[fC (aA C) z]) lI (hb:=by rw [aw];show (min i L.length + 1) * 48≤_;omega) (hu2:=Be _ rfl)) ?_))));rw [jG hat2];refine go 1 [[1,3,4,6,20,21,22],[3]] (k:=q (bH) (q aC (gU [3,4,6,20,21,22] (k:=?_))));exact aY (i + 1) ⟨by omega,by omega⟩ (sbk [3,4,6,20,21,22])
  · obtain ⟨E,hE,hE2⟩:∃ E:Xt,AC aD true 76 [bV C,bV c.t] (.bT [.agg [bV E.T,kV E.R],vI 0])∧AC aD true 77 [.agg [bV E.T,kV E.R],bF c.x] (.grow 4 (z.map af)):=by
     rcases r4 with ⟨e,_⟩ | ⟨_,e⟩
     · rw [hc31] at e;cases e
     · exact e
    have hbx:z.map af = z.map af:=rfl;refine go 0 [[4]] (k:=q (aX 0) (q (a_call eN (hE)) (go 1 [[6,3,4,6,8,9,10,11,20,21,22],[6,3,4,6,8,9,10,11,20,21,22,45],[7]] (k:=q (aX 1) (q (a_call eN (hE2)) (q dn (q (yI 1) (gU [3,4,6,9,20,21,22] (k:=aT (cO ?_))))))))));rw [hbx];refine q vX (q (bM (e:=fC (aA C) z)) (q (a_call eN (SY (c:=z) hR r2 r3)) (q (jM (xs:=[.tmp 54]) (es:=[fC (aA C) z]) lI) (q (iI (l2:=[fC (aA C) z]) lI (hb:=by rw [aw];show (min i L.length + 1) * 48≤_;omega) (hu2:=Be _ rfl)) ?_))));rw [jG hat2];refine go 1 [[1,3,4,6,20,21,22],[3]] (k:=q (bH) (q aC (gU [3,4,6,20,21,22] (k:=?_))));exact aY (i + 1) ⟨by omega,by omega⟩ (sbk [3,4,6,20,21,22])
 · obtain rfl:i = 2:=by omega
   refine go 0 [[10,2,3],[2]] (k:=?_);exact rt_eq qJ (by rw [aL (by omega)])
theorem Py {a:Nm} {x y:List Rat} {zs:List D} {fid:FuncId} (en:EN fid) (hj:AC aD true 27 [.list 2 [aV a,aV b]] (.bT [.list 2 [fC (aA C) x,fC (aA C) y],vI 0])) (ho:AC aD true fid [bV C,dL x,dL y] (.grow 4 zs)):AC aD true 23 [aV a,aV b,.val (.func (.func fid) #[] #[])] (.bT [.agg [bV C,.list 4 zs],vI 0]):=by
 exact aix 39 Tryz.func23 (k:=go 0 [[0,0,1,2],[6,2,3,4,6,7],[5]] (k:=q (jM (xs:=[.tmp 12,.tmp 13]) (es:=[aV a,aV b]) lI) (q (a_call eN (hj)) (go 1 [[5,2,6,7,8,9],[6,2,6,7,8,9,19],[7]] (k:=q (uK (z:=0) (i:=0) (e:=fC (aA C) x) rfl rfl) (go 1 [[3,2,6,7,8,10],[2]] (k:=dC 13 mixed (go 3 [[4]] (k:=uH (z:=0) (i:=0) (e:=fC (aA C) x) rfl rfl (ct:=aaL (ct:=go 3 [[2]] (k:=uH (z:=1) (i:=1) (e:=fC (aA C) y) rfl rfl (ct:=aaL (ct:=go 3 [[1]] (k:=ab3 en ho.gd (ct:=go 3 [[4,6,7],[2]] (k:=qJ)))))))))))))))))
theorem aeX {a:Nm} {r:D} (hr:r.width = 2) (hg:r.isAgg = true) (hu:r.kJ = true) (hc:AC aD true 23 [aV a,aV b,.val (.func (.func 32) #[] #[])] (.bT [r,vI 0])):AC aD true 11 [aV a,aV b] (.bT [r,vI 0]):=by
 refine aix 11 Tryz.func11 (k:=go 0 [[0,0,1],[6,2,3,4,5],[3]] (k:=q (bM (e:=aV a)) (q (bM (e:=aV b)) (q (a_call eN (hc)) (q yE (q yE (q (jO (hw:=hr) (hu:=hu)) (go 1 [[1,4,5],[2]] (k:=?_)))))))));exact pW rfl (oN (by rw [hr,hg];exact eU) rfl) Ee
theorem af8 {a:Nm} {r:D} (hr:r.width = 2) (hg:r.isAgg = true) (hu:r.kJ = true) (hc:AC aD true 23 [aV a,aV b,.val (.func (.func 33) #[] #[])] (.bT [r,vI 0])):AC aD true 12 [aV a,aV b] (.bT [r,vI 0]):=by
 refine aix 11 Tryz.func12 (k:=go 0 [[0,0,1],[6,2,3,4,5],[3]] (k:=q (bM (e:=aV a)) (q (bM (e:=aV b)) (q (a_call eN (hc)) (q yE (q yE (q (jO (hw:=hr) (hu:=hu)) (go 1 [[1,4,5],[2]] (k:=?_)))))))));exact pW rfl (oN (by rw [hr,hg];exact eU) rfl) Ee
theorem afL {a:Nm} {r:D} (hr:r.width = 2) (hg:r.isAgg = true) (hu:r.kJ = true) (hc:AC aD true 23 [aV a,aV b,.val (.func (.func 24) #[] #[])] (.bT [r,vI 0])):AC aD true 9 [aV a,aV b] (.bT [r,vI 0]):=by
 refine aix 11 Tryz.func9 (k:=go 0 [[0,0,1],[6,2,3,4,5],[3]] (k:=q (bM (e:=aV a)) (q (bM (e:=aV b)) (q (a_call eN (hc)) (q yE (q yE (q (jO (hw:=hr) (hu:=hu)) (go 1 [[1,4,5],[2]] (k:=?_)))))))));exact pW rfl (oN (by rw [hr,hg];exact eU) rfl) Ee
theorem afS {a:Nm} (hO:vJ a.t σ) (hx:sz a.x s) (hk:s≤2199023255551) (hR:BF (aA a.t)):AC aD true 7 [aV a] (.dat (aV (sZ a))):=by
 have hb:=hx.rb hk;have h8:=hO.n8;refine aix 12 Tryz.func7 (k:=go 0 [[0,0],[4,1,2],[3]] (k:=q (bM (e:=fC (aA a.t) (flat a.x))) (q (a_call eN (SY (T:=aA a.t) (c:=flat a.x) hR hb (by rw [flat_length];have:=jK (i:=a.n) (by omega);omega))) (go 1 [[1,1,2],[4]] (k:=q (aX 0) (q dn (q (aX 1) (q (a_call eN (Ze (t:=a.t) (x:=a.x) hO.n8 hO.pt hO.k hb)) (q dn (q (yI 1) (go 1 [[0,1,2],[5,2],[2]] (k:=?_))))))))))));exact rt_eq dG rfl
theorem acK {a:Nm} {t:List (List Rat)} {r:List Rat} (hA:AC aD true 22 [bV a.t,bF a.x] (.bT [kV t,dL r,vI 0])) (hR:BF t) (hr:um r) (hl:r.length≤1000000):AC aD true 8 [aV a] (.bT [fC t r,vI 0]):=by
 exact aix 24 Tryz.func8 (k:=go 0 [[0,0],[5,1,2,3],[4]] (k:=q (aX 0) (q dn (q (aX 1) (q (a_call eN (hA)) (go 1 [[7,2,3,4,5,6],[6,2,3,4,5,6,17],[9]] (k:=q (a_call eN (SY (T:=t) (c:=r) hR hr hl)) (go 1 [[2,2,3],[2]] (k:=qJ)))))))))
theorem ae6 {qa:Rat} (hq:Rb qa):AC aD true 46 [af qa] (.dat (aV (kU qa))):=by
 refine aix 7 Tryz.func46 (k:=go 0 [[0,0],[4,1,2],[3]] (k:=q (bM (e:=af qa)) (q (a_call eN (Q9 hq)) (q (jM (xs:=[.tmp 4]) (es:=[af qa]) aW) (q (Iu) (q jO ?_))))));refine sq (fun a W h=>(h.abA (g:=900) (k:=1) rfl).aaI (s:=2) (g:=900) rfl rfl (vG.fst (vG.here rfl))) (gU [2] (k:=aT (lT ?_)));exact rt_eq dG rfl
theorem afY {z:Int} (h1:-9223372036854775808≤z) (h2:z≤9223372036854775807) (hq:Rb (z:Rat)):AC aD true 16 [vI z] (.dat (aV (kU (z:Rat)))):=by
 exact aix 6 Tryz.func16 (k:=go 0 [[0,0],[3,0,2],[4]] (k:=q (a_call eN (yR h1 h2)) (q (a_call eN (ae6 hq)) (go 1 [[1,2],[2]] (k:=dG)))))
theorem ZL {a:Nm} {x y:List Rat} (ra:BF (aA a.t)) (rb:BF (aA b.t)) (rax:ny a.x) (rbx:ny b.x) (rx:um x) (ry:um y) (lx:x.length≤1000000) (ly:y.length≤1000000) (ha8:a.n≤8) (hb8:b.n≤8) (hj:(fU (aA a.t) (aA b.t) && fU (aA b.t) (aA a.t)) = false→AC aD true 27 [.list 2 [aV a,aV b]] (.bT [.list 2 [fC (aA C) x,fC (aA C) y],vI 0])):AC aD true 10 [aV a,aV b] (.dat (vB (if (fU (aA a.t) (aA b.t) && fU (aA b.t) (aA a.t)) = true then decide (flat a.x = flat b.x) else decide (x = y)))):=by
 have hfa:=flat_length a.x;have hfb:=flat_length b.x;have pa:=jK (i:=a.n) (by omega);have pb:=jK (i:=b.n) (by omega);refine aix 77 Tryz.func10 (k:=go 0 [[0,0,1],[5,2,3,4],[5]] (k:=q (aX 0) (q dn (q (aX 0) (q (a_call eN (N7 ra rb)) (q aC (fD (h:=dn) (k:=cZ 16 (h:=aX 0) (k:=fD (h:=dn) (k:=cZ 18 (h:=aX 0) (k:=qN 17 19 (h:=a_call eN (N7 rb ra)) (k:=go 1 [[1,2,3,4,21],[1]] (k:=?_)))))))))))));refine dA (fun hc21=>?_) (fun hc21=>?_)
 · refine bP (cO (q dn (q (aX 1) (q dn (q (aX 1) (q (a_call eN (PN rax rbx (by omega) (by omega))) (go 1 [[1,2,3,4],[3]] (k:=?_))))))));exact rt_eq dG (by rw [if_pos hc21])
 · refine go 0 [[5]] (k:=q (bM (e:=aV a)) (q (bM (e:=aV b)) (q (jM (xs:=[.tmp 28,.tmp 29]) (es:=[aV a,aV b]) lI) (q (a_call eN (hj hc21)) (go 1 [[5,2,3,4,5,6],[5,2,3,4,5,35],[3]] (k:=dC 10 mixed (go 3 [[1]] (k:=uH (z:=0) (i:=0) (e:=fC (aA C) x) rfl rfl (ct:=aaL (ct:=go 3 [[2]] (k:=uH (z:=1) (i:=1) (e:=fC (aA C) y) rfl rfl (ct:=aaL (ct:=go 3 [[1]] (k:=ak eN (PN rx ry lx ly) (ct:=go 3 [[2,2,3,4],[3]] (k:=?_))))))))))))))));exact rt_eq dG (by rw [if_neg (by rw [hc21];exact bL)])
theorem acv {r:List Rat} (hl:um l) (hr:um r) (nl:l.length≤1000000) (nr:r.length≤1000000):AC aD true 213 [dL l,dL r] (.dat (vB (decide (l = r)))):=by
 refine aix 27 Tryz.func213 (k:=go 0 [[0,0,1],[3,0,1,4],[5]] (k:=q (aI (n:=l.length) (hlen:=iL l)) (q aC (q (aI (n:=r.length) (hlen:=iL r)) (q (Ji) (gU [0,1,4,10] (k:=aT ?_)))))));refine bu (fun hc10=>?_) (fun hc10=>?_)
 · refine go 0 [[3,0,1,4],[3]] (k:=?_);exact rt_eq dG (by rw [decide_eq_false fun e=>hc10 (by rw [e])])
 ·
  refine go 0 [[6,0,1,4,5],[2]] (k:=?_);refine CT.weak (aZ (ι:=Nat) (fun i=>[(0,.dat (dL l)),(1,.dat (dL r)),(5,.dat (vI i))]) (fun i=>i≤l.length∧∀ j,j < i→l[j]? = r[j]?) (fun i=>l.length - i) ?_ (0) (⟨av _,fun _ h=>absurd h (by omega)⟩)) (sbk [0,1,5]);intro i ⟨hi,hj⟩;refine go 0 [[0,0,1,5],[5]] (k:=q (aI (n:=l.length) (hlen:=iL l)) (go 1 [[1,0,1,5,14],[1]] (k:=?_)));refine bu (fun hc14=>?_) (fun hc14=>?_)
  · refine go 0 [[5]] (k:=?_);obtain ⟨c1,h1,m1⟩:=iD (l:=l) rfl hc14;obtain ⟨c2,h2,m2⟩:=iD (l:=r) (by omega) hc14;refine dC 10 mixed (go 3 [[2]] (k:=mP rfl (kM h1) (ct:=go 3 [[3]] (k:=mP rfl (kM h2) (ct:=go 3 [[1]] (k:=ak eN (aef (hl c1 m1) (hr c2 m2)) (ct:=ZP (ct:=go 3 [[1,0,1,5,26],[1]] (k:=?_)))))))));refine bu (fun hc26=>?_) (fun hc26=>?_)
    · refine go 0 [[3,0,1,4,5],[7]] (k:=?_);exact rt_eq dG (by rw [decide_eq_false (O1 h1 h2 (fun e=>hc26 (of_decide_eq_true ((cmp_eq c1 c2).trans (decide_eq_true e)))))])
    · have he:c1 = c2:=of_decide_eq_true ((cmp_eq c1 c2).symm.trans (decide_eq_true (by simpa using hc26)));have hnext:∀ j,j < i + 1→l[j]? = r[j]?:=fun j h=>(a6.1 h).elim (hj j) fun e=>by rw [e,h1,h2,he]
      refine go 0 [[5]] (k:=q (bH (z:=((i + 1:Nat):Int)) (hz:=by omega)) (q aC (gU [0,1,5] (k:=?_))));exact aY (i + 1) ⟨⟨by omega,hnext⟩,by omega⟩ (sbk [0,1,5])
  · refine go 0 [[8,4],[2]] (k:=?_);exact rt_eq dG (by rw [decide_eq_true (QD (by omega) fun j h=>hj j (by omega))])
theorem acj {t:List (List Rat)} (h:t.length < u.length):fU t u = false:=by
 unfold fU;rw [decide_eq_false (by omega)];rfl
theorem aa9 {t:List (List Rat)} {a b:List Rat} (h1:t[i]? = some a) (h2:u[i]? = some b) (h:a≠b):fU t u = false:=by
 cases e:fU t u with
 | false=>rfl
 | true =>
  obtain ⟨l,rfl⟩:=iq.1 e;have:i < u.length:=by
   rcases bj i u.length with h' | h'
   · exact h'
   · rw [br h'] at h2;cases h2
  rw [bB this,h2] at h1;exact absurd (Option.some.inj h1).symm h
theorem WT {t:List (List Rat)} (hl:u.length≤t.length) (h:∀ j,j < u.length→t[j]? = u[j]?):fU t u = true:=by
 refine iq.2 ⟨t.drop u.length,?_⟩;apply eW;intro j;rcases bj j u.length with h1 | h1
 · rw [bB h1];exact h j h1
 · rw [ar h1,ck];congr 1;omega
theorem Pv {t:List (List Rat)} (ht:BF t) (hu:BF u):AC aD true 177 [kV t,kV u] (.dat (vB (fU t u))):=by
 have ht1:=ht.1;have hu1:=hu.1;refine aix 27 Tryz.func177 (k:=go 0 [[0,0,1],[3,0,1,4],[5]] (k:=q (aI (n:=u.length) (hlen:=gZ u)) (q aC (q (aI (n:=t.length) (hlen:=gZ t)) (q (acU) (gU [0,1,4,10] (k:=aT ?_)))))));refine bu (fun hc10=>?_) (fun hc10=>?_)
 · refine go 0 [[3,0,1,4],[3]] (k:=?_);exact rt_eq dG (by rw [acj (by omega)])
 ·
  refine go 0 [[6,0,1,4,5],[2]] (k:=?_);refine CT.weak (aZ (ι:=Nat) (fun i=>[(0,.dat (kV t)),(1,.dat (kV u)),(5,.dat (vI i))]) (fun i=>i≤u.length∧∀ j,j < i→t[j]? = u[j]?) (fun i=>u.length - i) ?_ (0) (⟨av _,fun _ h=>absurd h (by omega)⟩)) (sbk [0,1,5]);intro i ⟨hi,hj⟩;refine go 0 [[0,0,1,5],[5]] (k:=q (aI (n:=u.length) (hlen:=gZ u)) (go 1 [[1,0,1,5,14],[1]] (k:=?_)));refine bu (fun hc14=>?_) (fun hc14=>?_)
  ·
   refine go 0 [[5]] (k:=?_);obtain ⟨c2,h2,m2⟩:=iD (l:=u) rfl hc14;have hit:(i:Int) < (t.length:Nat):=by have h:(i:Int) < (u.length:Nat):=hc14;omega
   obtain ⟨c1,h1,m1⟩:=iD (l:=t) rfl hit;refine dC 10 mixed (go 3 [[2]] (k:=mP rfl (jV h1) (ct:=go 3 [[3]] (k:=mP rfl (jV h2) (ct:=go 3 [[1]] (k:=ak eN (acv (ht.2 c1 m1).1 (hu.2 c2 m2).1 (ht.2 c1 m1).2 (hu.2 c2 m2).2) (ct:=OA (ct:=go 3 [[1,0,1,5,26],[1]] (k:=?_)))))))));refine dA (fun hc26=>?_) (fun hc26=>?_)
   · refine go 0 [[3,0,1,4,5],[7]] (k:=?_);exact rt_eq dG (by rw [aa9 h1 h2 (by simpa using hc26)])
   · have he:c1 = c2:=by simpa using hc26
     have hnext:∀ j,j < i + 1→t[j]? = u[j]?:=fun j h=>(a6.1 h).elim (hj j) fun e=>by rw [e,h1,h2,he]
     refine go 0 [[5]] (k:=q (bH (z:=((i + 1:Nat):Int)) (hz:=by omega)) (q aC (gU [0,1,5] (k:=?_))));exact aY (i + 1) ⟨⟨by omega,hnext⟩,by omega⟩ (sbk [0,1,5])
  · refine go 0 [[8,4],[2]] (k:=?_);exact rt_eq dG (by rw [WT (by omega) fun j h=>hj j (by omega)])
theorem Xi (hn:n≤8) (h0:l≠[]) (hl:l.length≤2 ^ n):AC aD true 179 [bV t,dL l] (.grow 4 ((mQ l n).map af)):=by
 have hp:=jK (i:=n) (by omega);have hlen:((mQ l n).map af).length = 2 ^ n:=by rw [ao,Na hl]
 have h1:=Iy (l:=l) (n:=n);have hz:=@RY l n;generalize hL:(mQ l n).map af = L at hlen h1 hz;refine aix 20 Tryz.func179 (k:=go 0 [[0,0,1],[3,0,1,4],[3]] (k:=q (BZ aW) (q aC (q (GK aW (hne:=fun e=>h0 (dk.1 e)) (hb:=by rw [ao];omega) (hu2:=iK _)) ?_))));refine go 1 [[1,0,4,5],[3]] (k:=?_);rw [← h1];refine CT.weak (aZ (ι:=Nat) (fun i=>[(0,.dat (bV t)),(5,.grow 4 (L.take (l.length + i)))]) (fun i=>l.length + i≤2 ^ n) (fun i=>2 ^ n - i) ?_ (0) (by omega)) (sbk [0,5]);intro i hi;refine go 0 [[0,0,5],[3]] (k:=q (jf) (q (uk (n:=l.length + i) (hlen:=by simp only [lenOf];rw [aw];congr 1;omega)) (q aC (q (aI (n:=n) (hlen:=aP t)) (q (pI (n:=n) (z:=((2 ^ n:Nat):Int)) (hn0:=by omega) (hz:=yP) (h1:=mX) (h2:=dH (by omega))) (go 1 [[1,0,5,14],[1]] (k:=?_)))))));refine bu (fun hc14=>?_) (fun hc14=>?_)
 · refine go 0 [[5]] (k:=q (a_call eN (mF)) (q (jM (xs:=[.tmp 16]) (es:=[af 0]) aW) (q (iI aW (hb:=by rw [aw];show (min (l.length + i) L.length + 1) * 64≤_;omega) (hu2:=VZ _)) ?_)));rw [jG (hz (i:=l.length + i) (by omega) (by omega))];refine go 1 [[1,0,5],[1]] (k:=?_);exact aY (i + 1) ⟨by omega,by omega⟩ (sbk [0,5])
 · have hfin:L.take (l.length + i) = L:=aL (by omega);refine go 0 [[9,4],[2]] (k:=?_);rw [hfin];exact GX rfl rfl
theorem ahc {ρ:Nat→El n} {sρ:Nat} (hn:n≤8) (ht:PT t σ) (hk:bD σ≤2199023255551) {a:Rat} (ha:Rb a):AC aD true 180 [bV t,kV R,bF (n:=0) a] (rX (dD n a)):=by
 exact aix 54 Tryz.func180 (k:=go 0 [[0,0,1,2],[3,0,1,2,6],[5]] (k:=q (aI (n:=1) (hlen:=rfl)) (go 1 [[1,0,1,2,6,13],[6]] (k:=q (uK (es:=[af a]) (e:=af a) (i:=0) rfl rfl) (q fO (q (a_call eN (zW (t:=t) (a:=a) hn)) (go 1 [[1,0,1,2,6],[3]] (k:=qj))))))))
theorem agL {sρ:Nat} (hn:n≤8) (ht:PT t σ) (hk:bD σ≤2199023255551) {x y:El k} {w:List Rat} (hk8:k≤7) (hx:sz (n:=k + 1) (x,y) s) (hb:yK sρ (bD σ) (k + 1) s + bD σ≤2199023255551) (hρ:∀ i,i < k + 1→sz (ρ i) sρ) (hw:R[k]? = some w) (hw0:w≠[]) (hwl:w.length≤2 ^ n) (hwp:mQ w n = flat (ρ k)) (IH:∀ (x:El k) (s:Nat),sz x s→yK sρ (bD σ) k s + bD σ≤2199023255551→AC aD true 180 [bV t,kV R,bF x] (rX (aO t ρ x))):AC aD true 180 [bV t,kV R,bF (n:=k + 1) (x,y)] (rX (aO (k:=k + 1) t ρ (x,y))):=by
 have hp:=jK (i:=k + 1) (by omega);have h2k:2 ^ (k + 1) = 2 * 2 ^ k:=by rw [eC];omega
 have h0k:0 < 2 ^ k:=bR (by omega);have hle:=@He sρ (bD σ) k s;have he:yK sρ (bD σ) (k + 1) s = 2 * yK sρ (bD σ) k s + sρ + bD σ + 1:=rfl;have hi1:=sz.img ht (fun i hi=>hρ i (by omega)) hx.fst;have hi2:=sz.img ht (fun i hi=>hρ i (by omega)) hx.snd;have hm:=sz.mul ht hi2 (hρ k (by omega));refine aix 54 Tryz.func180 (k:=go 0 [[0,0,1,2],[3,0,1,2,6],[5]] (k:=q (aI (n:=2 ^ (k + 1)) (hlen:=dU (n:=k + 1) (x,y))) (go 1 [[1,0,1,2,6,13],[7]] (k:=q (aI (n:=2 ^ (k + 1)) (hlen:=dU (n:=k + 1) (x,y))) (q (nR (z:=((2 ^ k:Nat):Int)) (hz:=kF k) (h2:=dH (by omega)) (hp:=aq _)) (go 1 [[1,0,1,2,6,7],[4,0,1,2,6,7,8],[3]] (k:=?_)))))));refine CT.weak (aZ (ι:=Nat) (fun i=>[(0,.dat (bV t)),(1,.dat (kV R)),(2,.dat (bF (n:=k + 1) (x,y))),(7,.dat (vI ((2 ^ k:Nat):Int))),(8,.dat (vI i))]) (fun i=>i≤k) (fun i=>k - i) ?_ (0) (av _)) (sbk [0,1,2,7,8]);intro i hi;refine go 0 [[0,0,1,2,7,8],[4]] (k:=q (bH (z:=((i + 1:Nat):Int)) (hz:=by omega)) (q (pI (n:=(i + 1)) (z:=((2 ^ (i + 1):Nat):Int)) (hn0:=by omega) (hz:=yP) (h1:=mX) (h2:=dH (by omega))) (q aC (q (aI (n:=2 ^ (k + 1)) (hlen:=dU (n:=k + 1) (x,y))) (go 1 [[1,0,1,2,7,8,27],[1]] (k:=?_))))));refine bu (fun hc27=>?_) (fun hc27=>?_)
 · refine go 0 [[5]] (k:=q (bH (z:=((i + 1:Nat):Int)) (hz:=by omega)) (go 1 [[1,0,1,2,7,8],[1]] (k:=?_)));exact aY (i + 1) ⟨zG hc27,(by have:=zG hc27;omega)⟩ (sbk [0,1,2,7,8])
 · obtain rfl:k = i:=(Lt hi hc27).symm;exact go 0 [[6]] (k:=dC 14 mixed (go 3 [[4]] (k:=fQ (z:=((2 ^ k:Nat):Int)) ((flat x).map af) ((flat y).map af) (aK x y) (by simp [flat_length]) (ct:=ak eN ((IH x s hx.fst (by omega)).gd) (ct:=go 3 [[4]] (k:=kz (z:=((2 ^ k:Nat):Int)) ((flat x).map af) ((flat y).map af) (aK x y) (by simp [flat_length]) (ct:=ak eN ((IH y s hx.snd (by omega)).gd) (ct:=go 3 [[3,0,1,8,9,10],[10]] (k:=q (dZ (i:=k) rfl (jV hw)) (q fO (q (a_call eN ((Xi (t:=t) hn hw0 hwl).eq (show _ = rX (ρ k) by rw [hwp]))) (q (a_call eN (jS hn ht hi2 (hρ k (by omega)) (by omega))) (q (a_call eN (yg (hi1.rb (by omega)) (hm.rb (by omega)) hn)) (go 1 [[1,6],[2]] (k:=qj)))))))))))))))
theorem XZ {n:Nat} {t:Tw n} {R:List (List Rat)} {ρ:Nat→El n} {σ:List Nat} {sρ:Nat} (hn:n≤8) (ht:PT t σ) (hk:bD σ≤2199023255551):∀ {k:Nat} {x:El k} {s:Nat},k≤8→(∀ i,i < k→∃ w,R[i]? = some w∧w≠[]∧w.length≤2 ^ n∧mQ w n = flat (ρ i))→(∀ i,i < k→sz (ρ i) sρ)→sz x s→yK sρ (bD σ) k s + bD σ≤2199023255551→AC aD true 180 [bV t,kV R,bF x] (rX (aO t ρ x))
 | 0,a,s,_,_,_,ha,hb=>ahc (ρ:=ρ) (sρ:=sρ) hn ht hk (ha.rb (by have:=@He sρ (bD σ) 0 s;omega) a (aR.2 rfl))
 | k + 1,(x,y),s,hk8,hR,hρ,hx,hb=>by
  obtain ⟨w,w1,w2,w3,w4⟩:=hR k (by omega);exact agL hn ht hk (by omega) hx hb hρ w1 w2 w3 w4 fun x s h1 h2=>XZ hn ht hk (by omega) (fun i hi=>hR i (by omega)) (fun i hi=>hρ i (by omega)) h1 h2
theorem Wy {u:Tw k} {st:Nat→Xt} (h0:st 0 = ⟨n,t,[]⟩) (hk8:k≤8) (hs:∀ i,i < k→∃ q:El i,(aA u)[i]? = some (flat q)∧st (i + 1) = (st i).step (flat q)∧∃ σ s r,EP (st i) i q σ s r):AC aD true 178 [bV t,bV u] (.bT [bV (st k).T,kV (st k).R,vI 0]):=by
 refine aix 41 Tryz.func178 (k:=go 0 [[0,0,1],[5,0,1,4,5,6],[4,0,1,4,5,6,7],[5,0,1,4,5,6,7,8],[2]] (k:=ctq (fun a W h=>h.lF (s:=7) (k:=1) rfl) ?_));rw [show bV t = bV (st 0).T by rw [h0],show F.grow 1 [] = F.grow 1 ((st 0).R.map dL) by rw [h0];rfl];refine CT.weak (aZ (ι:=Nat) (fun i=>[(0,.dat (bV (st i).T)),(1,.dat (bV u)),(7,.grow 1 ((st i).R.map dL)),(8,.dat (vI i))]) (fun i=>i≤k) (fun i=>k - i) ?_ (0) (av _)) (sbk [0,1,7,8]);intro i hi;refine go 0 [[0,0,1,7,8],[5]] (k:=q (aI (n:=k) (hlen:=aP u)) (go 1 [[1,0,1,7,8,15],[1]] (k:=?_)));refine bu (fun hc15=>?_) (fun hc15=>?_)
 · refine go 0 [[6]] (k:=?_);obtain ⟨qe,hq,hst,σ,s,r,ok⟩:=hs i (by have h:(i:Int) < (k:Int):=hc15;omega);obtain ⟨w,hw1,hw2⟩:=Xt.adj (st i) qe ok.len;refine q aC (q aC (q (jf) (q aC (q aC (q (dZ rfl (jV hq)) (q fO (q (a_call eN (XZ (t:=(st i).T) (ρ:=(st i).ρ) (R:=(st i).R) ok.ok.n8 ok.ok.pt ok.ok.k ok.i8 (fun j hj=>Xt.P5 ok.rows (by have:=ok.len;omega)) ok.rt ok.sq ok.b1)) ?_)))))));refine q (a_call eN ((RD ok.ok ok.okb (sz.img ok.ok.pt ok.rt ok.sq) ok.b5 ok.b3 ok.sg ok.n7).eq (congrArg F.bT hw2))) (go 1 [[7,0,1,7,8,9,10,11],[6,0,1,7,8,9,10,11,32],[8]] (k:=q (jM (xs:=[.tmp 36]) (es:=[dL w]) gm) (q (iI (l2:=[dL w]) gm (hb:=by have h1:=ok.len;have h2:=ok.i8;rw [ao];show ((st i).R.length + 1) * 24≤_;omega) (hu2:=Be _ rfl)) ?_)));rw [Ot,← hw1,← hst];refine go 1 [[2,0,1,7,8],[4]] (k:=q (bH (z:=((i + 1:Nat):Int)) (hz:=by omega)) (q aC (gU [0,1,7,8] (k:=?_))));exact aY (i + 1) ⟨by omega,by omega⟩ (sbk [0,1,7,8])
 · obtain rfl:i = k:=by omega
   exact go 0 [[12,4,5,6],[2]] (k:=UN)
def Pq (tp tq:List (List Rat)) (a:Nm):Prop :=
 ((decide ((a.n:Int) > (tp.length:Nat)) && fU (aA a.t) tp) = true∧tq = aA a.t)∨((decide ((a.n:Int) > (tp.length:Nat)) && fU (aA a.t) tp) = false∧fU tp (aA a.t) = true∧tq = tp) ∨
 ((decide ((a.n:Int) > (tp.length:Nat)) && fU (aA a.t) tp) = false∧fU tp (aA a.t) = false∧∃ E:Xt,AC aD true 178 [kV tp,bV a.t] (.bT [bV E.T,kV E.R,vI 0])∧tq = aA E.T)
def Uh {n:Nat} (C:Tw n) (c:Nm) (x:List Rat):Prop :=
 (fU (aA C) (aA c.t) = true∧c.n≤n∧x = mQ (flat c.x) n) ∨
 (fU (aA C) (aA c.t) = false∧∃ E:Xt,AC aD true 178 [bV C,bV c.t] (.bT [bV E.T,kV E.R,vI 0])∧AC aD true 180 [bV C,kV E.R,bF c.x] (.grow 4 (x.map af)))
theorem acs {a:Nm} {x y:List Rat} (h0:ts 0 = []) (h2:ts 2 = aA C) (hn:n≤8) (hS:∀ i,i < 2→BF (ts i)∧Pq (ts i) (ts (i + 1)) (if i = 0 then a else b)) (hR:BF (aA C)) (hi:∀ i,i < 2→BF (aA (if i = 0 then a else b).t)∧Uh C (if i = 0 then a else b) (if i = 0 then x else y)):AC aD true 124 [.list 2 [aV a,aV b]] (.bT [.list 2 [fC (aA C) x,fC (aA C) y],vI 0]):=by
 have hata:=@QA a b;have hatL:=@RI n C x y;have hL:[fC (aA C) x,fC (aA C) y].length = 2:=rfl;generalize hLL:[fC (aA C) x,fC (aA C) y] = L at hatL hL;refine aix 115 Tryz.func124 (k:=go 0 [[0,0],[4,0,2,3],[4,0,2,3,4],[4]] (k:=?_));refine sq (fun a W h=>h.Uk (s:=4) (k:=1) rfl) ?_;rw [show D.list 1 [] = kV (ts 0) by rw [h0];rfl];refine go 1 [[1,0,2,3,4,5],[2]] (k:=?_);refine CT.weak (aZ (ι:=Nat) (fun i=>[(0,.dat (.list 2 [aV a,aV b])),(3,.dat (vI 0)),(4,.dat (kV (ts i))),(5,.dat (vI i))]) (fun i=>i≤2) (fun i=>2 - i) ?_ (0) (by omega)) (sbk [0,3,4,5]);intro i hi0;refine go 0 [[0,0,3,4,5],[5]] (k:=q (aI (n:=2) (hlen:=rfl)) (go 1 [[1,0,3,4,5,18],[1]] (k:=?_)));refine bu (fun hc18=>?_) (fun hc18=>?_)
 ·
  refine go 0 [[5]] (k:=?_);have hi2:i < 2:=by have h:(i:Int) < ((2:Nat):Int):=hc18;omega
  obtain ⟨r1,r3⟩:=hS i hi2;obtain ⟨r2,_⟩:=hi i hi2;have hat:=hata hi2;obtain ⟨c,hc⟩:∃ c,c = (if i = 0 then a else b):=⟨_,rfl⟩;rw [← hc] at r2 r3 hat;refine go 0 [[3]] (k:=q (dZ rfl hat) (q (uQ (e:=UM c.t c.x)) (q fO (q (aI (n:=c.n) (hlen:=aP c.t)) (q aC (q (aI (n:=(ts i).length) (hlen:=gZ (ts i))) (q (acU) (q aC (fD (h:=aC) (k:=fD (h:=aC) (k:=qN 31 32 (h:=dZ rfl hat) (k:=cZ 33 (h:=uQ (e:=UM c.t c.x)) (k:=cZ 34 (h:=fO) (k:=fD (h:=aC) (k:=qN 35 36 (h:=a_call eN (Pv r2 r1)) (k:=go 1 [[1,0,3,4,5,38],[1]] (k:=?_)))))))))))))))));refine dA (fun hc38=>?_) (fun hc38=>?_)
  ·
   have hnx:bV c.t = kV (ts (i + 1)):=by
    rcases r3 with ⟨_,e⟩ | ⟨e,_⟩ | ⟨e,_⟩
    · rw [e];rfl
    · rw [hc38] at e;cases e
    · rw [hc38] at e;cases e
   refine go 0 [[3]] (k:=q (dZ rfl hat) (q (uQ (e:=UM c.t c.x)) (go 1 [[2,0,3,4,5],[3]] (k:=?_))));rw [hnx];refine q aC (q (bH (z:=((i + 1:Nat):Int)) (hz:=by omega)) (q aC (gU [0,3,4,5] (k:=?_))));exact aY (i + 1) ⟨by omega,by omega⟩ (sbk [0,3,4,5])
  ·
   refine go 0 [[5]] (k:=q (dZ rfl hat) (q (uQ (e:=UM c.t c.x)) (q fO (q (a_call eN (Pv r1 r2)) (go 1 [[1,0,3,4,5,51],[1]] (k:=?_))))));refine dA (fun hc51=>?_) (fun hc51=>?_)
   ·
    obtain ⟨E,hE,hts⟩:∃ E:Xt,AC aD true 178 [kV (ts i),bV c.t] (.bT [bV E.T,kV E.R,vI 0])∧ts (i + 1) = aA E.T:=by
     rcases r3 with ⟨e,_⟩ | ⟨_,e,_⟩ | ⟨_,_,e⟩
     · rw [hc38] at e;cases e
     · rw [e] at hc51;cases hc51
     · exact e
    have hnx:bV E.T = kV (ts (i + 1)):=by rw [hts];rfl
    refine go 0 [[5]] (k:=q (dZ rfl hat) (q (uQ (e:=UM c.t c.x)) (q fO (q (a_call eN (hE)) (go 1 [[7,0,3,4,5,6,8],[6,0,3,4,5,6,8,64],[7,0,3,4,5],[3]] (k:=?_))))));rw [hnx];refine q aC (q (bH (z:=((i + 1:Nat):Int)) (hz:=by omega)) (q aC (gU [0,3,4,5] (k:=?_))));exact aY (i + 1) ⟨by omega,by omega⟩ (sbk [0,3,4,5])
   · have hnx:kV (ts i) = kV (ts (i + 1)):=by
      rcases r3 with ⟨e,_⟩ | ⟨_,_,e⟩ | ⟨_,e,_⟩
      · rw [hc38] at e;cases e
      · rw [e]
      · rw [e] at hc51;cases hc51
     refine go 0 [[4]] (k:=?_);rw [hnx];refine q aC (q (bH (z:=((i + 1:Nat):Int)) (hz:=by omega)) (q aC (gU [0,3,4,5] (k:=?_))));exact aY (i + 1) ⟨by omega,by omega⟩ (sbk [0,3,4,5])
 ·
  obtain rfl:i = 2:=by omega
  refine go 0 [[8,0,3,4,9],[4]] (k:=?_);refine sq (fun a W h=>h.lF (s:=9) (k:=2) rfl) ?_;rw [show F.grow 2 [] = F.grow 2 (L.take 0) from rfl,show kV (ts 2) = bV C by rw [h2];rfl];refine go 1 [[1,0,3,4,9,10],[2]] (k:=?_);refine CT.weak (aZ (ι:=Nat) (fun i=>[(0,.dat (.list 2 [aV a,aV b])),(3,.dat (vI 0)),(4,.dat (bV C)),(9,.grow 2 (L.take i)),(10,.dat (vI i))]) (fun i=>i≤2) (fun i=>2 - i) ?_ (0) (by omega)) (sbk [0,3,4,9,10]);intro i hi0;refine go 0 [[0,0,3,4,9,10],[5]] (k:=q (aI (n:=2) (hlen:=rfl)) (go 1 [[1,0,3,4,9,10,70],[1]] (k:=?_)));refine bu (fun hc70=>?_) (fun hc70=>?_)
  ·
   refine go 0 [[5]] (k:=?_);have hi2:i < 2:=by have h:(i:Int) < ((2:Nat):Int):=hc70;omega
   obtain ⟨r1,r4⟩:=hi i hi2;have hat:=hata hi2;have hat2:=hatL hi2;obtain ⟨c,hcc⟩:∃ c,c = (if i = 0 then a else b):=⟨_,rfl⟩;obtain ⟨z,hz⟩:∃ z,z = (if i = 0 then x else y):=⟨_,rfl⟩;rw [← hcc] at r1 r4 hat;rw [← hz] at r4 hat2;refine go 0 [[5,0,3,4,9,10,11],[7]] (k:=q (dZ rfl hat) (q (uQ (e:=UM c.t c.x)) (q fO (q (a_call eN (Pv hR r1)) (gU [0,3,4,9,10,11,81] (k:=aT ?_))))));refine dA (fun hc81=>?_) (fun hc81=>?_)
   · obtain ⟨e2,e3⟩:c.n≤n∧z = mQ (flat c.x) n:=by
      rcases r4 with ⟨_,e⟩ | ⟨e,_⟩
      · exact e
      · rw [hc81] at e;cases e
     have hbx:(mQ (flat c.x) n).map af = z.map af:=by rw [e3]
     refine go 0 [[4]] (k:=q (dZ rfl hat) (q (uQ (e:=UM c.t c.x)) (q fO (q (a_call eN (Xi (t:=C) (l:=flat c.x) hn (AU c.x) (by rw [flat_length];exact bp (by omega) e2))) (q dn (q (yI 1) (gU [0,3,4,9,10,11] (k:=aT (cO ?_)))))))));rw [hbx];refine q vX (q (bM (e:=fC (aA C) z)) (q (jM (xs:=[.tmp 111]) (es:=[fC (aA C) z]) lI) (q (iI (l2:=[fC (aA C) z]) lI (hb:=by rw [aw];show (min i L.length + 1) * 48≤_;omega) (hu2:=Be _ rfl)) ?_)));rw [jG hat2];refine go 1 [[1,0,3,4,9,10],[4]] (k:=q (bH (z:=((i + 1:Nat):Int)) (hz:=by omega)) (q aC (gU [0,3,4,9,10] (k:=?_))));exact aY (i + 1) ⟨by omega,by omega⟩ (sbk [0,3,4,9,10])
   · obtain ⟨E,hE,hE2⟩:∃ E:Xt,AC aD true 178 [bV C,bV c.t] (.bT [bV E.T,kV E.R,vI 0])∧AC aD true 180 [bV C,kV E.R,bF c.x] (.grow 4 (z.map af)):=by
      rcases r4 with ⟨e,_⟩ | ⟨_,e⟩
      · rw [hc81] at e;cases e
      · exact e
     have hbx:z.map af = z.map af:=rfl;refine go 0 [[5]] (k:=q (dZ rfl hat) (q (uQ (e:=UM c.t c.x)) (q fO (q (a_call eN (hE)) (go 1 [[7,0,3,4,9,10,11,13],[6]] (k:=q (dZ rfl hat) (q (uQ (e:=UM c.t c.x)) (q fO (q (a_call eN (hE2)) (q dn (q (yI 1) (gU [0,3,4,9,10,11] (k:=aT (cO ?_))))))))))))));rw [hbx];refine q vX (q (bM (e:=fC (aA C) z)) (q (jM (xs:=[.tmp 111]) (es:=[fC (aA C) z]) lI) (q (iI (l2:=[fC (aA C) z]) lI (hb:=by rw [aw];show (min i L.length + 1) * 48≤_;omega) (hu2:=Be _ rfl)) ?_)));rw [jG hat2];refine go 1 [[1,0,3,4,9,10],[4]] (k:=q (bH (z:=((i + 1:Nat):Int)) (hz:=by omega)) (q aC (gU [0,3,4,9,10] (k:=?_))));exact aY (i + 1) ⟨by omega,by omega⟩ (sbk [0,3,4,9,10])
  · obtain rfl:i = 2:=by omega
    refine go 0 [[10,2,3],[2]] (k:=?_);exact rt_eq qJ (by rw [aL (by omega)])
theorem adS {a:Nm} {d1 d2:D} (w1:d1.width = 2) (w2:d2.width = 2) (g1:d1.isAgg = true) (g2:d2.isAgg = true) (u1:d1.kJ = true) (u2:d2.kJ = true) (hj:AC aD true 124 [.list 2 [aV a,aV b]] (.bT [.list 2 [d1,d2],vI 0])):AC aD true 81 [aV a,aV b] (.bT [d1,d2,vI 0]):=by
 refine aix 27 Tryz.func81 (k:=go 0 [[0,0,1],[7,2,3,4,5,6],[3]] (k:=q (bM (e:=aV a)) (q (bM (e:=aV b)) (q (jM (xs:=[.tmp 10,.tmp 11]) (es:=[aV a,aV b]) lI) (q (a_call eN (hj)) (go 1 [[5,4,5,6,7,8],[6,4,5,6,7,8,17],[5]] (k:=dC 9 mixed (go 3 [[1]] (k:=uH (z:=0) (i:=0) (e:=d1) rfl rfl (ct:=Nb (ti:=by rw [w1,g1];exact eU) (ct:=go 3 [[1]] (k:=uH (z:=1) (i:=1) (e:=d2) rfl rfl (ct:=Nb (ti:=by rw [w2,g2];exact eU) (ct:=Ul (hw:=w1) (hu:=u1) (ct:=Ul (hw:=w2) (hu:=u2) (ct:=go 3 [[2,4,5,6],[2]] (k:=?_)))))))))))))))));exact ada rfl (oN (by rw [w1,g1];exact eU) rfl) (oN (by rw [w2,g2];exact eU) rfl) Ee
theorem ad5 {a:Nm} {x y:List Rat} {zs:List D} (hj:AC aD true 81 [aV a,aV b] (.bT [fC (aA C) x,fC (aA C) y,vI 0])) (ho:AC aD true 82 [bV C,dL x,dL y] (.grow 4 zs)):AC aD true 35 [aV a,aV b] (.bT [.agg [bV C,.list 4 zs],vI 0]):=by
 exact aix 28 Tryz.func35 (k:=go 0 [[0,0,1],[6,2,3,4,5],[3]] (k:=q (bM (e:=aV a)) (q (bM (e:=aV b)) (q (a_call eN (hj)) (go 1 [[7,2,3,4,5,6],[6,2,3,4,5,6,15],[5]] (k:=dC 10 mixed (go 3 [[1]] (k:=bG 0 (ct:=go 3 [[1]] (k:=bG 0 (ct:=go 3 [[1]] (k:=bG 1 (ct:=go 3 [[1]] (k:=bG 1 (ct:=ak eN ((ho).gd) (ct:=go 3 [[4,4,5],[2]] (k:=qJ)))))))))))))))))
theorem aeK {a:Nm} {x y:List Rat} {zs:List D} (hj:AC aD true 81 [aV a,aV b] (.bT [fC (aA C) x,fC (aA C) y,vI 0])) (ho:AC aD true 83 [bV C,dL x,dL y] (.grow 4 zs)):AC aD true 38 [aV a,aV b] (.bT [.agg [bV C,.list 4 zs],vI 0]):=by
 exact aix 28 Tryz.func38 (k:=go 0 [[0,0,1],[6,2,3,4,5],[3]] (k:=q (bM (e:=aV a)) (q (bM (e:=aV b)) (q (a_call eN (hj)) (go 1 [[7,2,3,4,5,6],[6,2,3,4,5,6,15],[5]] (k:=dC 10 mixed (go 3 [[1]] (k:=bG 0 (ct:=go 3 [[1]] (k:=bG 0 (ct:=go 3 [[1]] (k:=bG 1 (ct:=go 3 [[1]] (k:=bG 1 (ct:=ak eN ((ho).gd) (ct:=go 3 [[4,4,5],[2]] (k:=qJ)))))))))))))))))
theorem Y4 {a:Nm} {σ:List Nat} {s:Nat} (h8:a.n≤8) (hb:ny a.x):AC aD true 41 [aV a] (.dat (aV (sZ a))):=by
 refine aix 11 Tryz.func41 (k:=go 0 [[0,0],[4,1,2],[2]] (k:=dC 8 mixed (go 3 [[1]] (k:=bG 0 (ct:=go 3 [[1]] (k:=bG 0 (ct:=go 3 [[1]] (k:=bG 1 (ct:=ak eN ((zL (x:=a.x) hb h8).gd) (ct:=go 3 [[3,2],[2]] (k:=?_)))))))))));exact rt_eq dG rfl
theorem ad6 {a:Nm} {r:D} (h8:b.n≤8) (hb:ny b.x) (hr:r.width = 2) (hg:r.isAgg = true) (hu:r.kJ = true) (hc:AC aD true 35 [aV a,aV (sZ b)] (.bT [r,vI 0])):AC aD true 37 [aV a,aV b] (.bT [r,vI 0]):=by
 refine aix 12 Tryz.func37 (k:=go 0 [[0,0,1],[6,2,3,4,5],[2]] (k:=dC 6 mixed ?_));refine Xq (e:=aV a) (ct:=Xq (e:=aV b) (ct:=ak eN (Y4 (σ:=[]) (s:=0) h8 hb) (ct:=ak eN (hc) (ct:=go 3 [[3]] (k:=q (jO (hw:=hr) (hu:=hu)) (go 1 [[1,4,5],[2]] (k:=?_)))))));exact pW rfl (oN (by rw [hr,hg];exact eU) rfl) Ee
theorem aez {a:Nm} {r:D} (hi:AC aD true 84 [bV b.t,bF b.x] (.bT [bF (fZ b.t b.x),vI 0])) (hr:r.width = 2) (hg:r.isAgg = true) (hu:r.kJ = true) (hc:AC aD true 38 [aV a,aV ⟨b.n,b.t,fZ b.t b.x⟩] (.bT [r,vI 0])):AC aD true 39 [aV a,aV b] (.bT [r,vI 0]):=by
 refine aix 28 Tryz.func39 (k:=go 0 [[0,0,1],[6,2,3,4,5],[4]] (k:=q (aX 0) (q dn (q (aX 1) (q (a_call eN (hi)) (go 1 [[5,2,3,4,5,6,7],[6,2,3,4,5,6,7,17],[6]] (k:=q (bM (e:=aV a)) (q dn (q (aX 0) (q aC (q Nq (q (a_call eN (hc)) (q yE (q yE (q (jO (hw:=hr) (hu:=hu)) (go 1 [[1,4,5],[2]] (k:=?_)))))))))))))))));exact pW rfl (oN (by rw [hr,hg];exact eU) rfl) Ee
theorem afE {a:Nm} (hi:AC aD true 84 [bV b.t,bF b.x] (.bT [.list 4 [],vI 6])):AC aD true 39 [aV a,aV b] (.bT [sH,vI 6]):=by
 exact aix 28 Tryz.func39 (k:=go 0 [[0,0,1],[6,2,3,4,5],[4]] (k:=q (aX 0) (q dn (q (aX 1) (q (a_call eN (hi)) (go 1 [[5,2,3,4,5,6,7],[6,2,3,4,5,6,7,17],[1]] (k:=cfy (h:=(show (6:Int)≠0 by decide)) (k:=go 0 [[6,2,3,4,5,6],[3]] (k:=qJ)))))))))
theorem aaS {a:Nm} {t:List (List Rat)} {r:List Rat} (hA:AC aD true 87 [bV a.t,bF a.x] (.bT [kV t,dL r,vI 0])):AC aD true 42 [aV a] (.bT [fC t r,vI 0]):=by
 exact aix 23 Tryz.func42 (k:=go 0 [[0,0],[5,1,2,3],[4]] (k:=q (aX 0) (q dn (q (aX 1) (q (a_call eN (hA)) (go 1 [[7,2,3,4,5,6],[6,2,3,4,5,6,17],[11,2,3],[2]] (k:=qJ)))))))
theorem aaT {a:Nm} (hO:vJ a.t σ) (hx:sz a.x s) (hk:lU σ s≤2199023255551):AC aD true 40 [aV a] (.dat (vI (aJ a.t a.x))):=by
 exact aix 8 Tryz.func40 (k:=go 0 [[0,0],[4,1,2],[4]] (k:=q (aX 0) (q dn (q (aX 1) (q (a_call eN (acw hO.n8 hO.pt hx hk)) (go 1 [[1,2],[2]] (k:=dG)))))))
theorem afG {d1 d2:D} (w1:d1.width = 2) (w2:d2.width = 2) (g1:d1.isAgg = true) (g2:d2.isAgg = true) (u1:d1.kJ = true) (u2:d2.kJ = true):AC aD true 36 [d1,vI 0,d2] (.dat d1):=by
 refine aix 11 Tryz.func36 (k:=SQ [0,1,2] (k:=bP (cO (q (Ii (hu:=u1)) (q (Ii (hu:=u2)) (go 1 [[1,1,3,5,6],[6,3,5,6,8],[6]] (k:=q (bM (ti:=by rw [w1,g1];exact eU)) (q (jO (hw:=w1) (hu:=u1)) (gU [6] (k:=aT (lT ?_)))))))))));exact Sj rfl (oN (by first | (rw [w1,g1];exact eU) | (rw [w2,g2];exact eU)) rfl)
theorem afq {d1 d2:D} (w1:d1.width = 2) (w2:d2.width = 2) (g1:d1.isAgg = true) (g2:d2.isAgg = true) (u1:d1.kJ = true) (u2:d2.kJ = true):AC aD true 36 [d1,vI 6,d2] (.dat d2):=by
 refine aix 11 Tryz.func36 (k:=SQ [0,1,2] (k:=bP (cO (q (Ii (hu:=u1)) (q (Ii (hu:=u2)) (go 1 [[1,1,3,5,6],[6,3,5,6,8],[1]] (k:=cfy (h:=(show (6:Int)≠0 by decide)) (k:=bP (cO (q (bM (ti:=by rw [w2,g2];exact eU)) (q (jO (hw:=w2) (hu:=u2)) (go 1 [[0,3,6],[3]] (k:=?_)))))))))))));exact Sj rfl (oN (by first | (rw [w1,g1];exact eU) | (rw [w2,g2];exact eU)) rfl)
theorem afc {qa:Rat}:AC aD true 79 [af qa] (.dat (aV (kU qa))):=by
 refine aix 6 Tryz.func79 (k:=go 0 [[0,0],[4,1,2],[3]] (k:=q (bM (e:=af qa)) (q (jM (xs:=[.tmp 3]) (es:=[af qa]) aW) (q (Iu) (q jO ?_)))));refine sq (fun a W h=>(h.abA (g:=900) (k:=1) rfl).aaI (s:=2) (g:=900) rfl rfl (vG.fst (vG.here rfl))) (gU [2] (k:=aT (lT ?_)));exact rt_eq dG rfl
theorem aci {z p:Int} (h1:-9223372036854775808≤z) (h2:z≤9223372036854775807) (h3:0 < p) (h4:p≤9223372036854775807):AC aD true 34 [vI z,vI p] (.dat (aV (kU ((z:Rat) / (p:Rat))))):=by
 exact aix 9 Tryz.func34 (k:=go 0 [[0,0,1],[3,0,1,4],[5]] (k:=q (a_call eN (TE h1 h2 h3 h4)) (q (a_call eN (afc)) (go 1 [[1,4],[2]] (k:=dG)))))
def qc (l:List Rat) (i:Nat):Bool:=l.zipIdx.any fun p=>decide (p.2 / 2 ^ i % 2 = 1) && !BC p.1
def mr (l:List Rat) (i:Nat):List Rat:=(l.zipIdx.filter fun p=>decide (p.2 / 2 ^ i % 2 = 0)).map (·.1)
theorem LH:qc l i = true↔∃ j q,l[j]? = some q∧j / 2 ^ i % 2 = 1∧q≠0:=by
 unfold qc;rw [dz];constructor
 · rintro ⟨⟨q,j⟩,h1,h2⟩;rw [a8,decide_eq_true_iff] at h2;exact ⟨j,q,bX.1 h1,h2.1,fun e=>by have:=h2.2;rw [(Bi q).2 e] at this;cases this⟩
 · rintro ⟨j,q,h1,h2,h3⟩;refine ⟨(q,j),bX.2 h1,?_⟩;rw [a8,decide_eq_true_iff];refine ⟨h2,?_⟩;cases e:BC q with
   | false=>rfl
   | true=>exact absurd ((Bi q).1 e) h3
theorem acz (h:∀ j q,l[j]? = some q→¬ (j / 2 ^ i % 2 = 1∧q≠0)):qc l i = false:=by
 cases e:qc l i with
 | false=>rfl
 | true=>obtain ⟨j,q,h1,h2⟩:=LH.1 e;exact absurd h2 (h j q h1)
theorem Vp {q:Rat} (h:l[k]? = some q):mr (l.take (k + 1)) i = mr (l.take k) i ++ if k / 2 ^ i % 2 = 0 then [q] else []:=by
 have hk:k < l.length:=by
  rcases bj k l.length with h' | h'
  · exact h'
  · rw [br h'] at h;cases h
 unfold mr;rw [cw,h,bE,du,bs,aw,eh (by omega)];congr 1
 by_cases e:k / 2 ^ i % 2 = 0
 · simp [e]
 · simp [e]
theorem FD (l:List Rat) (i:Nat):(mr l i).length≤l.length:=by
 unfold mr;rw [ao];exact aM (List.length_filter_le _ _) (by simp)
theorem G6 {q:Rat} (h:q∈mr l i):q∈l:=by
 unfold mr at h;obtain ⟨p,h1,rfl⟩:=cj.1 h;have:=(List.mem_filter.1 h1).1;obtain ⟨a,b⟩:=p;exact List.mem_of_getElem? (bX.1 this)
def Jk (S:List (List Rat) × List Rat) (i:Nat):Bool:=qc S.2 i || (S.1.drop (i + 1)).any fun r=>qc r i
def vT (S:List (List Rat) × List Rat) (i:Nat):List (List Rat) × List Rat:=(S.1.take i ++ (S.1.drop (i + 1)).map (mr · i),mr S.2 i)
def Vy:Nat→List (List Rat) × List Rat→List (List Rat) × List Rat
 | 0,S=>S
 | n + 1,S=>Vy n (if Jk S n = true then S else vT S n)
def BN (l:List Rat) (i o:Nat):List Rat:=((l.zipIdx o).filter fun p=>decide (p.2 / 2 ^ i % 2 = 0)).map (·.1)
def BX (l:List Rat) (i o:Nat):Bool:=(l.zipIdx o).any fun p=>decide (p.2 / 2 ^ i % 2 = 1) && !BC p.1
theorem Jd {o p:Nat} (h:2 ^ (i + 1) ∣ o):(o + p) / 2 ^ i % 2 = p / 2 ^ i % 2:=by
 obtain ⟨c,rfl⟩:=h;have h0:0 < 2 ^ i:=bR (by omega);rw [show 2 ^ (i + 1) * c + p = p + 2 ^ i * (2 * c) by rw [eC,Nat.mul_assoc];omega,Nat.add_mul_div_left _ _ h0];omega
theorem IB {i o:Nat} (h:2 ^ (i + 1) ∣ o):∀ (l:List Rat) (p:Nat),BN l i (o + p) = BN l i p
 | [],p=>rfl
 | a :: l,p=>by
  have ih:=IB h l (p + 1);unfold BN at ih ⊢;rw [bq,bq,cH,cH];simp only [Jd h];rw [show o + p + 1 = o + (p + 1) by omega]
  split <;> simp only [cG,ih]
theorem IP {i o:Nat} (h:2 ^ (i + 1) ∣ o):∀ (l:List Rat) (p:Nat),BX l i (o + p) = BX l i p
 | [],p=>rfl
 | a :: l,p=>by
  have ih:=IP h l (p + 1);unfold BX at ih ⊢;rw [bq,bq,dr,dr];simp only [Jd h];rw [show o + p + 1 = o + (p + 1) by omega,ih]
theorem acr {r:List Rat} (h:2 ^ (i + 1) ∣ l.length):mr (l ++ r) i = mr l i ++ mr r i:=by
 have:BN r i l.length = BN r i 0:=IB h r 0;unfold mr;rw [bE,du,bs];congr 1;rw [dy];exact this
theorem aaM {r:List Rat} (h:2 ^ (i + 1) ∣ l.length):qc (l ++ r) i = (qc l i || qc r i):=by
 have:BX r i l.length = BX r i 0:=IP h r 0;unfold qc;rw [bE,da];congr 1;rw [dy];exact this
theorem RX {i:Nat}:∀ (l:List Rat) (p:Nat),p + l.length≤2 ^ i→BN l i p = l
 | [],p,h=>rfl
 | a :: l,p,h=>by
  simp only [bO] at h;have ih:=RX (i:=i) l (p + 1) (by omega);unfold BN at ih ⊢;rw [bq,cH,if_pos (by simp only [d9 (show p < 2 ^ i by omega)];rfl),cG,ih]
theorem Oh {i:Nat}:∀ (l:List Rat) (p:Nat),2 ^ i≤p→p + l.length≤2 ^ i + 2 ^ i→BN l i p = []
 | [],p,_,h=>rfl
 | a :: l,p,h0,h=>by
  simp only [bO] at h;have ih:=Oh (i:=i) l (p + 1) (by omega) (by omega);have hb:p / 2 ^ i = 1:=eJ (by omega) (by omega);unfold BN at ih ⊢;rw [bq,cH,if_neg (by simp only [hb];decide),ih]
theorem Oa {i:Nat}:∀ (l:List Rat) (p:Nat),2 ^ i≤p→p + l.length≤2 ^ i + 2 ^ i→BX l i p = !l.all BC
 | [],p,_,h=>rfl
 | a :: l,p,h0,h=>by
  simp only [bO] at h;have ih:=Oa (i:=i) l (p + 1) (by omega) (by omega);have hb:p / 2 ^ i = 1:=eJ (by omega) (by omega);unfold BX at ih ⊢;rw [bq,dr,ih];simp only [hb,List.all_cons];cases BC a <;> simp
theorem SG {i:Nat}:∀ (l:List Rat) (p:Nat),p + l.length≤2 ^ i→BX l i p = false
 | [],p,h=>rfl
 | a :: l,p,h=>by
  simp only [bO] at h;have ih:=SG (i:=i) l (p + 1) (by omega);unfold BX at ih ⊢;rw [bq,dr,ih];simp only [d9 (show p < 2 ^ i by omega)];simp
def nX:{k:Nat}→El (k + 1)→Nat→El k
 | 0,(x,_),_=>x
 | k + 1,(x,y),i=>if i = k + 1 then x else (nX x i,nX y i)
theorem Jg (x y:El (k + 1)):nX (k:=k + 1) (x,y) (k + 1) = x:=if_pos rfl
theorem I9 (x y:El (k + 1)) (h:¬ i = k + 1):nX (k:=k + 1) (x,y) i = (nX x i,nX y i):=if_neg h
theorem Ae (x y:El k):flat (n:=k + 1) (x,y) = flat x ++ flat y:=rfl
theorem RU (x y:El k):mr (flat (n:=k + 1) (x,y)) k = flat x:=by
 have h1:BN (flat x) k 0 = flat x:=RX _ _ (by rw [flat_length];omega);have h2:BN (flat y) k (flat x).length = []:=Oh _ _ (by rw [flat_length];exact bk _) (by rw [flat_length,flat_length];exact bk _);rw [Ae];unfold mr;rw [bE,du,bs,dy];show BN (flat x) k 0 ++ BN (flat y) k (flat x).length = flat x;rw [h1,h2,cV]
theorem RH {x y:El k} (h:qc (flat (n:=k + 1) (x,y)) k = false):y = zeroE k:=by
 have h1:BX (flat x) k 0 = false:=SG _ _ (by rw [flat_length];omega);have h2:BX (flat y) k (flat x).length = !(flat y).all BC:=Oa _ _ (by rw [flat_length];exact bk _) (by rw [flat_length,flat_length];exact bk _);rw [Ae] at h;unfold qc at h;rw [bE,da,dy] at h;have h3:(BX (flat x) k 0 || BX (flat y) k (flat x).length) = false:=h;rw [h1,h2,← x8,Bool.false_or,Bool.not_eq_false'] at h3;exact gq.1 h3
theorem Lh (x:El (k + 1)) (h:i≤k):2 ^ (i + 1) ∣ (flat x).length:=by
 rw [flat_length];exact Nat.pow_dvd_pow 2 (by omega)
theorem AZ:∀ {k:Nat} (x:El (k + 1)) {i:Nat},i≤k→mr (flat x) i = flat (nX x i)
 | 0,(x,y),i,h=>by
  obtain rfl:i = 0:=by omega
  exact RU x y
 | k + 1,(x,y),i,h=>by
  by_cases hi:i = k + 1
  · subst hi;rw [RU,Jg]
  · rw [I9 x y hi,Ae,acr (Lh x (by omega)),AZ x (by omega),AZ y (by omega)];rfl
def vU {α:Type} (i:Nat) (ρ:Nat→α) (j:Nat):α:=if j < i then ρ j else ρ (j + 1)
section
variable {N:Nat} {F:Tw N}
theorem xg {ρ:Nat→El N}:∀ {k:Nat} {x:El (k + 1)} {i:Nat},i≤k→qc (flat x) i = false→aO F ρ x = aO F (vU i ρ) (nX x i)
 | 0,(x,y),i,h,ho=>by
  obtain rfl:i = 0:=by omega
  have hy:=RH ho;show aH (aO F ρ x) (au F (aO F ρ y) (ρ 0)) = aO F _ x;rw [hy,gJ];exact ((jY F).ring [aO F ρ x,ρ 0] (.add (.v 0) (.mul .zero (.v 1))) (.v 0) (by decide))
 | k + 1,(x,y),i,h,ho=>by
  by_cases hi:i = k + 1
  · subst hi;have hy:=RH ho;rw [Jg];show aH (aO F ρ x) (au F (aO F ρ y) (ρ (k + 1))) = aO F (vU (k + 1) ρ) x;have hc:aO F (vU (k + 1) ρ) x = aO F ρ x:=gK x fun j hj=>if_pos hj
    rw [hy,gJ,hc];exact ((jY F).ring [aO F ρ x,ρ (k + 1)] (.add (.v 0) (.mul .zero (.v 1))) (.v 0) (by decide))
  · rw [Ae,aaM (Lh x (by omega)),dj] at ho;rw [I9 x y hi];show aH (aO F ρ x) (au F (aO F ρ y) (ρ (k + 1))) = aH (aO F (vU i ρ) (nX x i)) (au F (aO F (vU i ρ) (nX y i)) (vU i ρ k));rw [xg (by omega) ho.1,xg (by omega) ho.2,show vU i ρ k = ρ (k + 1) from if_neg (by omega)]
end
def uI:{n:Nat}→Tw (n + 1)→Nat→Tw n
 | 0,_,_=>()
 | n + 1,(t,r),i=>if i = n + 1 then t else (uI t i,nX r i)
theorem BI (t:Tw (n + 1)) (r:El (n + 1)):uI (n:=n + 1) (t,r) (n + 1) = t:=if_pos rfl
theorem Ce (t:Tw (n + 1)) (r:El (n + 1)) (h:¬ i = n + 1):uI (n:=n + 1) (t,r) i = (uI t i,nX r i):=if_neg h
def noT:{n:Nat}→Tw (n + 1)→Nat→Prop
 | 0,_,_=>True
 | n + 1,(t,r),i=>i = n + 1∨(noT t i∧qc (flat r) i = false)
theorem IZ:∀ {n:Nat} (T:Tw (n + 1)) {i:Nat},i≤n→aA (uI T i) = (aA T).take i ++ ((aA T).drop (i + 1)).map (mr · i)
 | 0,(t,r),i,h=>by
  obtain rfl:i = 0:=by omega
  rfl
 | n + 1,(t,r),i,h=>by
  have hl:=aj t;have e:aA (n:=n + 1 + 1) (t,r) = aA t ++ [flat r]:=rfl
  by_cases hi:i = n + 1
  · subst hi;rw [BI,e,fk hl,eB (by simp [hl])];simp
  · have e2:aA (n:=n + 1) (uI t i,nX r i) = aA (uI t i) ++ [flat (nX r i)]:=rfl;rw [Ce t r hi,e,e2,IZ t (by omega),bm (by omega),ea (by omega),bs,List.append_assoc,← AZ r (by omega)];rfl
theorem Lies.drop {N:Nat} {F:Tw N} {ρ:Nat→El N}:∀ {n:Nat} {T:Tw (n + 1)},Lies F ρ T→∀ {i:Nat},i≤n→noT T i→Lies F (vU i ρ) (uI T i)
 | 0,_,_,_,_,_=>trivial
 | n + 1,(t,r),hL,i,h,hn=>by
  by_cases hi:i = n + 1
  · subst hi;rw [BI];exact hL.1.congr fun j hj=>if_pos hj
  · obtain ⟨h1,h2⟩:=hn.resolve_left hi;rw [Ce t r hi];have e:vU i ρ n = ρ (n + 1):=if_neg (by omega);exact ⟨hL.1.drop (by omega) h1,by rw [e];exact hL.2.1,by rw [e,hL.2.2];exact xg (by omega) h2⟩
theorem dW.drop:∀ {n:Nat} {T:Tw (n + 1)},dW T→∀ {i:Nat},i≤n→noT T i→dW (uI T i)
 | 0,_,_,_,_,_=>trivial
 | n + 1,(t,r),hR,i,h,hn=>by
  by_cases hi:i = n + 1
  · subst hi;rw [BI];exact hR.1
  · obtain ⟨h1,h2⟩:=hn.resolve_left hi;rw [Ce t r hi];obtain ⟨s1,s2⟩:=Lies.self hR.1;have hl:=s1.drop (i:=i) (by omega) h1;have he:aO t (vU i fun i=>jU (n + 1) (flat (gu i))) (nX r i) = r:=by rw [← xg (by omega) h2,s2]
    refine ⟨dW.drop hR.1 (by omega) h1,?_,fun w hw=>?_⟩
    · rw [← kT hR.1 hl,he];exact hR.2.1
    · refine hR.2.2 (aO t (vU i fun i=>jU (n + 1) (flat (gu i))) w) ?_;rw [← lH hl,hw,he]
theorem ac1 {n:Nat}:∀ {n:Nat} {T:Tw (n + 1)} {i:Nat},i≤n→(((aA T).drop (i + 1)).any fun r=>qc r i) = false→noT T i
 | 0,_,_,_,_=>trivial
 | n + 1,(t,r),i,h,ho=>by
  by_cases hi:i = n + 1
  · exact .inl hi
  · have hl:=aj t;have e:aA (n:=n + 1 + 1) (t,r) = aA t ++ [flat r]:=rfl;rw [e,ea (by omega),da,dj] at ho;refine .inr ⟨ac1 (n:=0) (by omega) ho.1,?_⟩;simpa using ho.2
def Fj (S S0:List (List Rat) × List Rat):Prop:=(∀ q∈S.2,q∈S0.2)∧∀ r∈S.1,∃ r0∈S0.1,∀ q∈r,q∈r0
theorem Fj.refl (S:List (List Rat) × List Rat):Fj S S:=⟨fun _ h=>h,fun r h=>⟨r,h,fun _ h=>h⟩⟩
variable {S:List (List Rat) × List Rat}
theorem Fj.trans {S1 S2:List (List Rat) × List Rat} (h:Fj S S1) (k:Fj S1 S2):Fj S S2 :=
 ⟨fun q hq=>k.1 q (h.1 q hq),fun r hr=>by
  obtain ⟨r1,h1,h2⟩:=h.2 r hr;obtain ⟨r2,h3,h4⟩:=k.2 r1 h1;exact ⟨r2,h3,fun q hq=>h4 q (h2 q hq)⟩⟩
theorem Fj.drop (S:List (List Rat) × List Rat) (i:Nat):Fj (vT S i) S :=
 ⟨fun q hq=>G6 hq,fun r hr=>by
  rcases ef.1 hr with hr | hr
  · exact ⟨r,de hr,fun _ h=>h⟩
  · obtain ⟨r',h1,rfl⟩:=cj.1 hr;exact ⟨r',eE h1,fun q hq=>G6 hq⟩⟩
theorem Hl {N:Nat} {F:Tw N}:∀ (n:Nat) {a:Nm} {v:El N},n≤a.n→Val F a v→∃ a':Nm,Vy n (aA a.t,flat a.x) = (aA a'.t,flat a'.x)∧Val F a' v∧Fj (aA a'.t,flat a'.x) (aA a.t,flat a.x)
 | 0,a,v,_,hv=>⟨a,rfl,hv,Fj.refl _⟩
 | n + 1,a,v,hn,hv=>by
  cases hneed:Jk (aA a.t,flat a.x) n with
  | true =>
   rw [Vy,if_pos hneed];exact Hl n (by omega) hv
  | false =>
   rw [Vy,if_neg (by rw [hneed];exact bL)];obtain ⟨m,t,x⟩:=a;obtain ⟨m,rfl⟩:∃ m',m = m' + 1:=⟨m - 1,by simp only at hn;omega⟩;have hnm:n≤m:=by simp only at hn;omega
   have h2:=hneed;unfold Jk at h2;rw [dj] at h2;have hno:=ac1 (n:=0) hnm h2.2;obtain ⟨hR,α,hL,hx⟩:=hv;have hd:vT (aA t,flat x) n = (aA (uI t n),flat (nX x n)):=by
    unfold vT;rw [IZ t hnm,AZ x hnm]
   have hv':Val F ⟨m,uI t n,nX x n⟩ v:=⟨dW.drop hR hnm hno,_,hL.drop hnm hno,by rw [← hx];exact (xg hnm h2.1).symm⟩;obtain ⟨a',e1,e2,e3⟩:=Hl n (a:=⟨m,uI t n,nX x n⟩) hnm hv';refine ⟨a',by rw [hd];exact e1,e2,e3.trans ?_⟩;rw [← hd];exact Fj.drop _ _
theorem ac0 (p i:Nat):((p:Nat):Int) / 2 ^ i = ((p / 2 ^ i:Nat):Int):=by
 have:((2:Int) ^ i) = ((2 ^ i:Nat):Int):=by simp
 rw [this];rfl
theorem adb (p:Nat):((p:Nat):Int) % 2 = ((p % 2:Nat):Int):=by omega
theorem YQ (q:Rat):(q.num.sign≠0)↔q≠0:=by rw [ne_eq,ew,db]
theorem adK (hl:um l) (hn:l.length≤1000000) (hi:i≤60):AC aD true 88 [dL l,vI i] (.dat (vB (qc l i))):=by
 refine aix 25 Tryz.func88 (k:=go 0 [[0,0,1],[3,0,1,4],[5,0,1,4,5],[2]] (k:=?_));refine CT.weak (aZ (ι:=Nat) (fun j=>[(0,.dat (dL l)),(1,.dat (vI i)),(5,.dat (vI j))]) (fun j=>j≤l.length∧∀ p q,p < j→l[p]? = some q→¬ (p / 2 ^ i % 2 = 1∧q≠0)) (fun j=>l.length - j) ?_ (0) (⟨av _,fun _ _ h=>absurd h (by omega)⟩)) (sbk [0,1,5]);intro j ⟨hj,hp⟩;refine go 0 [[0,0,1,5],[5]] (k:=q (aI (n:=l.length) (hlen:=iL l)) (go 1 [[1,0,1,5,9],[1]] (k:=?_)));refine bu (fun hc9=>?_) (fun hc9=>?_)
 ·
  refine go 0 [[5]] (k:=?_);obtain ⟨c,h1,m1⟩:=iD (l:=l) (i:=j) rfl hc9;refine go 0 [[3]] (k:=q (ado (n:=i) (z:=((j / 2 ^ i:Nat):Int)) (hn0:=by show i≤64;omega) (hz:=ac0 j i)) (q (Fv (z:=((j / 2 ^ i % 2:Nat):Int)) (hz:=adb _) (hp:=aq _)) (q eu (q aC (fD (h:=aC) (k:=fD (h:=aC) (k:=qN 18 19 (h:=dZ rfl (kM h1)) (k:=cZ 20 (h:=fO) (k:=cZ 21 (h:=a_call eN (Tn (hl c m1))) (k:=cZ 22 (h:=oI) (k:=go 1 [[1,0,1,5,24],[1]] (k:=?_))))))))))));refine dA (fun hc24=>?_) (fun hc24=>?_)
  · refine go 0 [[3,0,1,4,5],[7]] (k:=?_);exact rt_eq dG (by
     rw [a8,decide_eq_true_iff,decide_eq_true_iff] at hc24;rw [LH.2 ⟨j,c,h1,by omega,(YQ _).1 hc24.2⟩])
  · have hnext:∀ p q,p < j + 1→l[p]? = some q→¬ (p / 2 ^ i % 2 = 1∧q≠0):=fun p q h hq=>(a6.1 h).elim (fun h=>hp p q h hq) fun e=>by
     subst e;rw [h1] at hq;injection hq with hq;subst hq
     rintro ⟨e1,e2⟩;rw [decide_eq_true (show ((p / 2 ^ i % 2:Nat):Int) = 1 by omega),decide_eq_true ((YQ _).2 e2)] at hc24;cases hc24
    refine go 0 [[5]] (k:=q (bH (z:=((j + 1:Nat):Int)) (hz:=by omega)) (q aC (gU [0,1,5] (k:=?_))));exact aY (j + 1) ⟨⟨by omega,hnext⟩,by omega⟩ (sbk [0,1,5])
 ·
  refine go 0 [[8,4],[2]] (k:=?_);exact rt_eq dG (by
   rw [acz fun p q h=>hp p q (by
    rcases bj p l.length with h2 | h2
    · omega
    · rw [br h2] at h;cases h) h])
theorem ac7 (hn:l.length≤1000000) (hi:i≤60):AC aD true 89 [dL l,vI i] (.grow 4 ((mr l i).map af)):=by
 refine aix 26 Tryz.func89 (k:=go 0 [[0,0,1],[3,0,1,4],[4,0,1,4,5],[4]] (k:=?_));refine sq (fun a W h=>h.lF (s:=5) (k:=4) rfl) ?_;rw [show F.grow 4 [] = F.grow 4 ((mr (l.take 0) i).map af) from rfl];refine go 1 [[1,0,1,4,5,6],[2]] (k:=?_);refine CT.weak (aZ (ι:=Nat) (fun j=>[(0,.dat (dL l)),(1,.dat (vI i)),(5,.grow 4 ((mr (l.take j) i).map af)),(6,.dat (vI j))]) (fun j=>j≤l.length) (fun j=>l.length - j) ?_ (0) (av _)) (sbk [0,1,5,6]);intro j hj;refine go 0 [[0,0,1,5,6],[5]] (k:=q (aI (n:=l.length) (hlen:=iL l)) (go 1 [[1,0,1,5,6,10],[1]] (k:=?_)));refine bu (fun hc10=>?_) (fun hc10=>?_)
 ·
  refine go 0 [[5]] (k:=?_);obtain ⟨c,h1,m1⟩:=iD (l:=l) (i:=j) rfl hc10;have hw:=Vp (i:=i) h1;refine go 0 [[3]] (k:=q (ado (n:=i) (z:=((j / 2 ^ i:Nat):Int)) (hn0:=by show i≤64;omega) (hz:=ac0 j i)) (q (Fv (z:=((j / 2 ^ i % 2:Nat):Int)) (hz:=adb _) (hp:=aq _)) (go 1 [[1,0,1,5,6,17],[1]] (k:=?_))));refine bu (fun hc17=>?_) (fun hc17=>?_)
  · have hnx:(mr (l.take j) i).map af ++ [af c] = (mr (l.take (j + 1)) i).map af:=by rw [hw,if_pos (by omega)];simp
    refine go 0 [[4]] (k:=q (dZ rfl (kM h1)) (q fO (q (jM (xs:=[.tmp 22]) (es:=[af c]) aW) (q (iI (l2:=[af c]) aW (hb:=by have:=FD (l.take j) i;rw [aw] at this;rw [ao];show ((mr (l.take j) i).length + 1) * 64≤_;omega) (hu2:=Be _ rfl)) (go 1 [[1,0,1,5,6],[3]] (k:=?_))))));rw [hnx];refine q aC (q (bH (z:=((j + 1:Nat):Int)) (hz:=by omega)) (q aC (gU [0,1,5,6] (k:=?_))));exact aY (j + 1) ⟨by omega,by omega⟩ (sbk [0,1,5,6])
  · have hnx:(mr (l.take j) i).map af = (mr (l.take (j + 1)) i).map af:=by rw [hw,if_neg (by omega)];simp
    refine go 0 [[4]] (k:=?_);rw [hnx];refine q aC (q (bH (z:=((j + 1:Nat):Int)) (hz:=by omega)) (q aC (gU [0,1,5,6] (k:=?_))));exact aY (j + 1) ⟨by omega,by omega⟩ (sbk [0,1,5,6])
 · obtain rfl:j = l.length:=by omega
   refine go 0 [[9,4],[2]] (k:=?_);exact rt_eq qj (by rw [List.take_length])
def PR (b:Int) (q:Rat):Bool:=decide (((wl q.num.natAbs:Nat):Int) > b) || decide (((wl (q.den:Int).natAbs:Nat):Int) > b)
def Aw (b:Int) (l:List Rat):Bool:=l.any (PR b)
def rV (b:Int) (T:List (List Rat)) (l:List Rat):Bool:=Aw b l || T.any (Aw b)
theorem tY {f:α→Bool} {l:List α} {a:α} (h:a∈l) (hf:f a = true):l.any f = true:=dz.2 ⟨a,h,hf⟩
theorem CE {f:α→Bool} {l:List α} (h:∀ p q,p < l.length→l[p]? = some q→f q = false):l.any f = false:=by
 cases e:l.any f with
 | false=>rfl
 | true =>
  obtain ⟨a,h1,h2⟩:=dz.1 e;obtain ⟨p,hp,rfl⟩:=dp h1;rw [h p l[p] hp (bh hp)] at h2;cases h2
theorem uB {f:α→Bool} {l:List α} {c:α} (h1:l[j]? = some c) (hp:∀ p q,p < j→l[p]? = some q→f q = false) (hc:f c = false):∀ p q,p < j + 1→l[p]? = some q→f q = false:=fun p q h hq=>(a6.1 h).elim (fun h=>hp p q h hq) fun e=>by
 subst e;rw [h1] at hq;injection hq with hq;subst hq;exact hc
theorem aev (hT:BF T) (hl:um l) (hn:l.length≤1000000):AC aD true 43 [fC T l] (.dat (vB (rV 2 T l))):=by
 have hT1:=hT.1;refine aix 71 Tryz.func43 (k:=go 0 [[0,0],[4,1,2],[5,1,2,3],[2]] (k:=?_));refine CT.weak (aZ (ι:=Nat) (fun j=>[(1,.box (fC T l)),(3,.dat (vI j))]) (fun j=>j≤l.length∧∀ p q,p < j→l[p]? = some q→PR 2 q = false) (fun j=>l.length - j) ?_ (0) (⟨av _,fun _ _ h=>absurd h (by omega)⟩)) (sbk [1,3]);intro j ⟨hj,hp⟩;refine go 0 [[0,1,3],[5]] (k:=q (aX 1) (q (aI (n:=l.length) (hlen:=iL l)) (go 1 [[1,1,3,11],[1]] (k:=?_))));refine bu (fun hc11=>?_) (fun hc11=>?_)
 · refine go 0 [[5]] (k:=?_);obtain ⟨c,h1,m1⟩:=iD (l:=l) (i:=j) rfl hc11;refine cO (q dn (q (aX 1) (q aC (q (dZ rfl (kM h1)) (go 1 [[3]] (k:=q (aI (n:=wl c.num.natAbs) (hlen:=rfl)) (q iT (q aC (fD (h:=dn) (k:=cZ 24 (h:=aX 1) (k:=fD (h:=aC) (k:=qN 25 26 (h:=dZ rfl (kM h1)) (k:=cZ 27 (h:=uQ) (k:=cZ 28 (h:=uQ) (k:=cZ 29 (h:=fO) (k:=cZ 30 (h:=aI (n:=wl (c.den:Int).natAbs) (hlen:=rfl)) (k:=cZ 31 (h:=iT) (k:=go 1 [[1,1,3,33],[1]] (k:=?_)))))))))))))))))));refine dA (fun hc33=>?_) (fun hc33=>?_)
   · refine go 0 [[3,1,2,3],[7]] (k:=?_);exact rt_eq dG (by rw [show rV 2 T l = true from by unfold rV;rw [show Aw 2 l = true from tY m1 hc33];rfl])
   · refine go 0 [[5]] (k:=q (bH (z:=((j + 1:Nat):Int)) (hz:=by omega)) (q aC (gU [1,3] (k:=?_))));exact aY (j + 1) ⟨⟨by omega,uB h1 hp hc33⟩,by omega⟩ (sbk [1,3])
 ·
  have hA:Aw 2 l = false:=CE fun p q h=>hp p q (by omega)
  refine go 0 [[9,1,4],[2]] (k:=?_);refine CT.weak (aZ (ι:=Nat) (fun k=>[(1,.box (fC T l)),(4,.dat (vI k))]) (fun k=>k≤T.length∧∀ p r,p < k→T[p]? = some r→Aw 2 r = false) (fun k=>T.length - k) ?_ (0) (⟨av _,fun _ _ h=>absurd h (by omega)⟩)) (sbk [1,4]);intro k ⟨hk,hr⟩;refine go 0 [[0,1,4],[5]] (k:=q (aX 0) (q (aI (n:=T.length) (hlen:=gZ T)) (go 1 [[1,1,4,38],[1]] (k:=?_))));refine bu (fun hc38=>?_) (fun hc38=>?_)
  ·
   refine go 0 [[5]] (k:=?_);obtain ⟨r,h2,m2⟩:=iD (l:=T) (i:=k) rfl hc38;have hr1:=(hT.2 r m2).2;refine go 0 [[2,1,4,5],[2]] (k:=?_);refine CT.weak (aZ (ι:=Nat) (fun e=>[(1,.box (fC T l)),(4,.dat (vI k)),(5,.dat (vI e))]) (fun e=>e≤r.length∧∀ p q,p < e→r[p]? = some q→PR 2 q = false) (fun e=>r.length - e) ?_ (0) (⟨av _,fun _ _ h=>absurd h (by omega)⟩)) (sbk [1,4,5]);intro e ⟨he,hq⟩;refine go 0 [[0,1,4,5],[5]] (k:=q (aX 0) (q aC (q (dZ rfl (jV h2)) (q fO (q (aI (n:=r.length) (hlen:=iL r)) (go 1 [[1,1,4,5,48],[1]] (k:=?_)))))));refine bu (fun hc48=>?_) (fun hc48=>?_)
   · refine go 0 [[5]] (k:=?_);obtain ⟨c,h3,m3⟩:=iD (l:=r) (i:=e) rfl hc48;refine cO (q dn (q (aX 0) (q aC (q (dZ rfl (jV h2)) (q fO (q aC (q (dZ rfl (kM h3)) (q (fO (e:=af c)) (go 1 [[2,1,4,5,6],[4]] (k:=q (Jt) (q (Af 0 1) (q (aI (n:=wl c.num.natAbs) (hlen:=rfl)) (q iT (q aC (fD (h:=dn) (k:=cZ 65 (h:=Jt) (k:=cZ 66 (h:=Af 1 1) (k:=cZ 67 (h:=aI (n:=wl (c.den:Int).natAbs) (hlen:=rfl)) (k:=cZ 68 (h:=iT) (k:=go 1 [[1,1,4,5,70],[1]] (k:=?_)))))))))))))))))))));refine dA (fun hc70=>?_) (fun hc70=>?_)
     · refine go 0 [[3,1,2,4,5],[11]] (k:=?_);exact rt_eq dG (by rw [show rV 2 T l = true from by unfold rV;rw [show T.any (Aw 2) = true from tY m2 (tY m3 hc70),fY]])
     · refine go 0 [[5]] (k:=q (bH (z:=((e + 1:Nat):Int)) (hz:=by omega)) (q aC (gU [1,4,5] (k:=?_))));exact aY (e + 1) ⟨⟨by omega,uB h3 hq hc70⟩,by omega⟩ (sbk [1,4,5])
   · have hrow:Aw 2 r = false:=CE fun p q h=>hq p q (by omega)
     refine go 0 [[8]] (k:=q (bH (z:=((k + 1:Nat):Int)) (hz:=by omega)) (q aC (gU [1,4] (k:=?_))));exact aY (k + 1) ⟨⟨by omega,uB h2 hr hrow⟩,by omega⟩ (sbk [1,4])
  · have hB:T.any (Aw 2) = false:=CE fun p q h=>hr p q (by omega)
    refine go 0 [[8,2],[2]] (k:=?_);exact rt_eq dG (by unfold rV;rw [hA,hB];rfl)
theorem abW (hT:BF T) (hl:um l) (hn:l.length≤1000000):AC aD true 45 [fC T l] (.dat (vB (!rV 6 T l))):=by
 have hT1:=hT.1;refine aix 76 Tryz.func45 (k:=go 0 [[0,0],[4,1,2],[5,1,2,3],[2]] (k:=?_));refine CT.weak (aZ (ι:=Nat) (fun j=>[(1,.box (fC T l)),(3,.dat (vI j))]) (fun j=>j≤l.length∧∀ p q,p < j→l[p]? = some q→PR 6 q = false) (fun j=>l.length - j) ?_ (0) (⟨av _,fun _ _ h=>absurd h (by omega)⟩)) (sbk [1,3]);intro j ⟨hj,hp⟩;refine go 0 [[0,1,3],[5]] (k:=q (aX 1) (q (aI (n:=l.length) (hlen:=iL l)) (go 1 [[1,1,3,10],[1]] (k:=?_))));refine bu (fun hc10=>?_) (fun hc10=>?_)
 · refine go 0 [[5]] (k:=?_);obtain ⟨c,h1,m1⟩:=iD (l:=l) (i:=j) rfl hc10;refine cO (q dn (q (aX 1) (q aC (q (dZ rfl (kM h1)) (go 1 [[3]] (k:=q (aI (n:=wl c.num.natAbs) (hlen:=rfl)) (q iT (q aC (fD (h:=dn) (k:=cZ 23 (h:=aX 1) (k:=fD (h:=aC) (k:=qN 24 25 (h:=dZ rfl (kM h1)) (k:=cZ 26 (h:=uQ) (k:=cZ 27 (h:=uQ) (k:=cZ 28 (h:=fO) (k:=cZ 29 (h:=aI (n:=wl (c.den:Int).natAbs) (hlen:=rfl)) (k:=cZ 30 (h:=iT) (k:=go 1 [[1,1,3,32],[1]] (k:=?_)))))))))))))))))));refine dA (fun hc32=>?_) (fun hc32=>?_)
   · refine go 0 [[3,1,2,3],[7]] (k:=?_);exact rt_eq dG (by rw [show rV 6 T l = true from by unfold rV;rw [show Aw 6 l = true from tY m1 hc32];rfl];rfl)
   · refine go 0 [[5]] (k:=q (bH (z:=((j + 1:Nat):Int)) (hz:=by omega)) (q aC (gU [1,3] (k:=?_))));exact aY (j + 1) ⟨⟨by omega,uB h1 hp hc32⟩,by omega⟩ (sbk [1,3])
 ·
  have hA:Aw 6 l = false:=CE fun p q h=>hp p q (by omega)
  refine go 0 [[9,1,4],[2]] (k:=?_);refine CT.weak (aZ (ι:=Nat) (fun k=>[(1,.box (fC T l)),(4,.dat (vI k))]) (fun k=>k≤T.length∧∀ p r,p < k→T[p]? = some r→Aw 6 r = false) (fun k=>T.length - k) ?_ (0) (⟨av _,fun _ _ h=>absurd h (by omega)⟩)) (sbk [1,4]);intro k ⟨hk,hr⟩;refine go 0 [[0,1,4],[5]] (k:=q (aX 0) (q (aI (n:=T.length) (hlen:=gZ T)) (go 1 [[1,1,4,37],[1]] (k:=?_))));refine bu (fun hc37=>?_) (fun hc37=>?_)
  ·
   refine go 0 [[5]] (k:=?_);obtain ⟨r,h2,m2⟩:=iD (l:=T) (i:=k) rfl hc37;have hr1:=(hT.2 r m2).2;refine go 0 [[2,1,4,5],[2]] (k:=?_);refine CT.weak (aZ (ι:=Nat) (fun e=>[(1,.box (fC T l)),(4,.dat (vI k)),(5,.dat (vI e))]) (fun e=>e≤r.length∧∀ p q,p < e→r[p]? = some q→PR 6 q = false) (fun e=>r.length - e) ?_ (0) (⟨av _,fun _ _ h=>absurd h (by omega)⟩)) (sbk [1,4,5]);intro e ⟨he,hq⟩;refine go 0 [[0,1,4,5],[5]] (k:=q (aX 0) (q aC (q (dZ rfl (jV h2)) (q fO (q (aI (n:=r.length) (hlen:=iL r)) (go 1 [[1,1,4,5,47],[1]] (k:=?_)))))));refine bu (fun hc47=>?_) (fun hc47=>?_)
   · refine go 0 [[5]] (k:=?_);obtain ⟨c,h3,m3⟩:=iD (l:=r) (i:=e) rfl hc47;refine cO (q dn (q (aX 0) (q aC (q (dZ rfl (jV h2)) (q fO (q aC (q (dZ rfl (kM h3)) (go 1 [[3]] (k:=q (aI (n:=wl c.num.natAbs) (hlen:=rfl)) (q iT (q aC (fD (h:=dn) (k:=cZ 63 (h:=aX 0) (k:=fD (h:=aC) (k:=qN 64 65 (h:=dZ rfl (jV h2)) (k:=cZ 66 (h:=fO) (k:=fD (h:=aC) (k:=qN 67 68 (h:=dZ rfl (kM h3)) (k:=cZ 69 (h:=uQ) (k:=cZ 70 (h:=uQ) (k:=cZ 71 (h:=fO) (k:=cZ 72 (h:=aI (n:=wl (c.den:Int).natAbs) (hlen:=rfl)) (k:=cZ 73 (h:=iT) (k:=go 1 [[1,1,4,5,75],[1]] (k:=?_)))))))))))))))))))))))));refine dA (fun hc75=>?_) (fun hc75=>?_)
     · refine go 0 [[3,1,2,4,5],[11]] (k:=?_);exact rt_eq dG (by rw [show rV 6 T l = true from by unfold rV;rw [show T.any (Aw 6) = true from tY m2 (tY m3 hc75),fY]];rfl)
     · refine go 0 [[5]] (k:=q (bH (z:=((e + 1:Nat):Int)) (hz:=by omega)) (q aC (gU [1,4,5] (k:=?_))));exact aY (e + 1) ⟨⟨by omega,uB h3 hq hc75⟩,by omega⟩ (sbk [1,4,5])
   · have hrow:Aw 6 r = false:=CE fun p q h=>hq p q (by omega)
     refine go 0 [[8]] (k:=q (bH (z:=((k + 1:Nat):Int)) (hz:=by omega)) (q aC (gU [1,4] (k:=?_))));exact aY (k + 1) ⟨⟨by omega,uB h2 hr hrow⟩,by omega⟩ (sbk [1,4])
  · have hB:T.any (Aw 6) = false:=CE fun p q h=>hr p q (by omega)
    refine go 0 [[8,2],[2]] (k:=?_);exact rt_eq dG (by unfold rV;rw [hA,hB];rfl)
theorem Df {ns:List Nm} {c:Nm} (h:ns[i]? = some c):(ns.map aV)[i]? = some (aV c):=by rw [dx,h];rfl
theorem agP {ns:List Nm} (hn:ns.length≤1000000) (hN:∀ a∈ns,BF (aA a.t)∧ny a.x∧a.n≤8):AC aD true 14 [.list 2 (ns.map aV)] (.dat (vB (ns.all fun a=>!rV 6 (aA a.t) (flat a.x)))):=by
 refine aix 16 Tryz.func14 (k:=go 0 [[0,0],[3,0,2],[5,0,2,3],[2]] (k:=?_));refine CT.weak (aZ (ι:=Nat) (fun j=>[(0,.dat (.list 2 (ns.map aV))),(3,.dat (vI j))]) (fun j=>j≤ns.length∧∀ p q,p < j→ns[p]? = some q→rV 6 (aA q.t) (flat q.x) = false) (fun j=>ns.length - j) ?_ (0) (⟨av _,fun _ _ h=>absurd h (by omega)⟩)) (sbk [0,3]);intro j ⟨hj,hp⟩;refine go 0 [[0,0,3],[5]] (k:=q (aI (n:=ns.length) (hlen:=by simp [lenOf])) (go 1 [[1,0,3,7],[1]] (k:=?_)));refine bu (fun hc7=>?_) (fun hc7=>?_)
 · refine go 0 [[5]] (k:=?_);obtain ⟨c,h1,m1⟩:=iD (l:=ns) (i:=j) rfl hc7;obtain ⟨g1,g2,g3⟩:=hN c m1;refine go 0 [[3]] (k:=q (dZ rfl (Df h1)) (q (fO (e:=fC (aA c.t) (flat c.x))) (q (a_call eN (abW g1 g2 (by rw [flat_length];have:=jK (i:=c.n) (by omega);omega))) (go 1 [[1,0,3,15],[1]] (k:=?_)))));refine dA (fun hc15=>?_) (fun hc15=>?_)
   · refine go 0 [[3,0,2,3],[7]] (k:=?_);exact rt_eq dG (by rw [eZ.2 ⟨c,m1,by simpa using hc15⟩])
   · refine go 0 [[5]] (k:=q (bH (z:=((j + 1:Nat):Int)) (hz:=by omega)) (q aC (gU [0,3] (k:=?_))));exact aY (j + 1) ⟨⟨by omega,uB (f:=fun q=>rV 6 (aA q.t) (flat q.x)) h1 hp (by simpa using hc15)⟩,by omega⟩ (sbk [0,3])
 · refine go 0 [[8,2],[2]] (k:=?_);exact rt_eq dG (by
    rw [fj.2 fun a ha=>?_];obtain ⟨p,hp1,rfl⟩:=dp ha;rw [hp p _ (by omega) (bh hp1)];rfl)
structure FT (q:Nat) (S S0:List (List Rat) × List Rat):Prop where
 le:q≤S.1.length
 l60:S.1.length≤60
 rb:BF S.1
 rc:um S.2
 lc:S.2.length≤1000000
 eq:Vy q S = Vy S0.1.length S0
theorem FT.keep {S0:List (List Rat) × List Rat} (h:FT (j + 1) S S0) (hn:Jk S j = true):FT j S S0 :=
 ⟨by have:=h.le;omega,h.l60,h.rb,h.rc,h.lc,by rw [← h.eq,Vy,if_pos hn]⟩
theorem um.wit (h:um l) (i:Nat):um (mr l i):=fun q hq=>h q (G6 hq)
theorem FT.drop {S0:List (List Rat) × List Rat} (h:FT (j + 1) S S0) (hn:Jk S j = false):FT j (vT S j) S0:=by
 have h1:=h.le;have h2:=h.rb.1;have h3:=h.l60;have hl:(vT S j).1.length = S.1.length - 1:=by simp [vT];omega
 refine ⟨by omega,by omega,⟨by omega,fun r hr=>?_⟩,h.rc.wit j,aM (FD _ _) h.lc,by rw [← h.eq,Vy,if_neg (by rw [hn];exact bL)]⟩;rcases ef.1 hr with hr | hr
 · exact h.rb.2 r (de hr)
 · obtain ⟨r',h5,rfl⟩:=cj.1 hr;have h6:=h.rb.2 r' (eE h5);exact ⟨h6.1.wit j,aM (FD _ _) h6.2⟩
theorem Xa {l:List (List Rat)} {e:Nat} {r:List Rat} {f:List Rat→Bool} (h:l[e]? = some r):(l.take (e + 1)).any f = ((l.take e).any f || f r):=by
 rw [cw,h,da];simp
def mf (R:List (List Rat)) (j e:Nat):List (List Rat):=R.take (j + 1) ++ ((R.drop (j + 1)).take e).map (mr · j) ++ R.drop (j + 1 + e)
theorem lJ {e:Nat} (h:j + 1 + e≤R.length):(mf R j e).length = R.length:=by simp [mf];omega
theorem acB:mf R j 0 = R:=by simp [mf]
theorem Yg {e:Nat} (h:j + 1 + e < R.length):(mf R j e)[j + 1 + e]? = R[j + 1 + e]?:=by
 unfold mf;rw [ar (by simp;omega),ck];congr 1;simp;omega
theorem VT {e:Nat} {r:List Rat} (h:R[j + 1 + e]? = some r):((mf R j e).map dL).set (j + 1 + e) (dL (mr r j)) = (mf R j (e + 1)).map dL:=by
 have hlt:j + 1 + e < R.length:=by
  rcases bj (j + 1 + e) R.length with h' | h'
  · exact h'
  · rw [br h'] at h;cases h
 have e1:R.drop (j + 1 + e) = r :: R.drop (j + 1 + e + 1):=by
  rw [List.drop_eq_getElem_cons hlt];congr 1;exact (bA.1 h).2
 have e2:(R.drop (j + 1)).take (e + 1) = (R.drop (j + 1)).take e ++ [r]:=by
  rw [cw,ck,h];rfl
 have hl:(R.take (j + 1) ++ ((R.drop (j + 1)).take e).map (mr · j)).length = j + 1 + e:=by simp;omega
 unfold mf;rw [e1,e2,← fX];congr 1;rw [List.set_append_right _ _ (by omega),hl,f6,List.set_cons_zero,bs];simp [fW]
theorem Wi {c:List Rat} {e:Nat} (h:j + 1 + e = R.length):((mf R j e).map dL).eraseIdx j = (vT (R,c) j).1.map dL:=by
 have e1:R.drop (j + 1 + e) = []:=eB (by omega);have e2:(R.drop (j + 1)).take e = R.drop (j + 1):=aL (by simp;omega);unfold mf vT;rw [e1,e2,cV,List.eraseIdx_eq_take_drop_succ,← List.map_take,← List.map_drop,← bs];have hl:(R.take (j + 1)).length = j + 1:=by simp;omega
 rw [bm (by omega),List.take_take,eh (by omega),List.drop_left' hl]
theorem U6 {c:List Rat} {e:Nat} (h:j + 1 + e = R.length):(qc c j || ((R.drop (j + 1)).take e).any fun r=>qc r j) = Jk (R,c) j:=by
 rw [aL (by simp;omega)];rfl
theorem abw (R:List (List Rat)):D.ik (R.map dL) = true:=Jz R
theorem aee:AC aD true 44 [fC [] l] (.dat (fC [] l)):=by
 refine aix 85 Tryz.func44 (k:=go 0 [[0,0],[4,1,2],[2]] (k:=dC 8 mixed ?_));refine X9 gm (ct:=go 3 [[1]] (k:=bG 0 (ct:=WE gm (ct:=go 3 [[1]] (k:=bG 1 (ct:=go 3 [[4,2,3],[5]] (k:=q (aX 0) (q (aI (n:=0) (hlen:=rfl)) (q (eG (z:=-1) (hz:=rfl)) (go 1 [[1,2,3,4],[2]] (k:=?_)))))))))));refine CT.weak (aZ (ι:=Unit) (fun _=>[(2,.box sH),(3,.box (.agg [.list 1 [],dL l])),(4,.dat (vI (-1)))]) (fun _=>True) (fun _=>0) ?_ (()) (trivial)) (sbk [2,3,4]);intro _ _hi;exact go 0 [[0,2,3,4],[5,2,3,4,20],[9]] (k:=q (bM (e:=fC [] l)) (go 1 [[1,2],[2]] (k:=dG)))
theorem aeM (hT:BF T) (h60:T.length≤60) (h0:T≠[]) (hl:um l) (hn:l.length≤1000000):AC aD true 44 [fC T l] (.dat (fC (Vy T.length (T,l)).1 (Vy T.length (T,l)).2)):=by
 refine aix 85 Tryz.func44 (k:=go 0 [[0,0],[4,1,2],[2]] (k:=dC 8 mixed ?_));refine X9 gm (ct:=go 3 [[1]] (k:=bG 0 (ct:=abH (l2:=T.map dL) gm (fun e=>h0 (dk.1 e)) (by rw [ao];omega) (Jz T) (ct:=go 3 [[1]] (k:=bG 1 (ct:=ahC (ct:=go 3 [[1]] (k:=?_))))))));refine Ac ⟨by kernel_rfl,by kernel_rfl,?_⟩;refine fK.ex (fun a W h=>h.ahW (t:=14) (s:=11) (g:=900) rfl rfl (sbk [2,3]) rfl rfl (by decide)) fun ⟨v0,hv0⟩=>q (jO (e:=.agg [.val v0,dL l]) (hu:=show ((D.val v0).kJ && ((dL l).kJ && true)) = true by rw [hv0];rfl)) (go 1 [[0,2,3,900],[5]] (k:=q (aX 0) (q (C9 900) (q (eG (z:=((T.length:Nat):Int) - 1) (hz:=by rw [ao])) (go 1 [[1,2,3,4,900],[2]] (k:=?_))))))
 refine CT.weak (aZ (ι:=Nat × Value × (List (List Rat) × List Rat)) (fun p=>[(2,.box sH),(3,.box (.agg [.val p.2.1,dL p.2.2.2])),(4,.dat (vI ((p.1:Int) - 1))),(900,.ov p.2.1 1 (p.2.2.1.map dL))]) (fun p=>FT p.1 p.2.2 (T,l)) (fun p=>p.1) ?_ ((T.length,v0,(T,l))) (⟨bk _,h60,hT,hl,hn,rfl⟩)) (sbk [2,3,4,900]);intro ⟨qn,v,R,c⟩ hC0;refine go 0 [[0,2,3,4,900],[5,2,3,4,20,900],[1]] (k:=?_);refine bu (fun hc20=>?_) (fun hc20=>?_)
 ·
  obtain ⟨j,rfl⟩:∃ j,qn = j + 1:=⟨qn - 1,by have h:((qn:Int) - 1) ≥ 0:=hc20;omega⟩;have hC:FT (j + 1) (R,c) (T,l):=hC0;have hlR:j + 1≤R.length:=hC.le;have h60R:R.length≤60:=hC.l60;have hj1:((j + 1:Nat):Int) - 1 = (j:Int):=by omega
  refine ctq (Γ':=[(2,.box sH),(3,.box (.agg [.val v,dL c])),(4,.dat (vI (((j + 1:Nat):Int) - 1))),(900,.ov v 1 (R.map dL))]) (fun a W h=>h.weak ⟨rfl,rfl,rfl,rfl,trivial⟩) ?_;rw [hj1];refine go 0 [[7]] (k:=q (aX 1) (q aC (q (a_call eN (adK (i:=j) hC.rc hC.lc (by omega))) (go 1 [[1,2,3,4,5,900],[5]] (k:=q (bH (z:=((j + 1:Nat):Int)) (hz:=by omega)) (go 1 [[1,2,3,4,5,6,900],[2]] (k:=?_)))))));rw [show vB (qc c j) = vB (qc c j || ((R.drop (j + 1)).take 0).any fun r=>qc r j) by simp];refine CT.weak (aZ (ι:=Nat) (fun e=>[(2,.box sH),(3,.box (.agg [.val v,dL c])),(4,.dat (vI j)),(5,.dat (vB (qc c j || ((R.drop (j + 1)).take e).any fun r=>qc r j))),(6,.dat (vI ((j + 1 + e:Nat):Int))),(900,.ov v 1 (R.map dL))]) (fun e=>j + 1 + e≤R.length) (fun e=>R.length - e) ?_ (0) (hC.le)) (sbk [2,3,4,5,6,900]);intro e he;refine go 0 [[0,2,3,4,5,6,900],[5]] (k:=q (aX 0) (q (C9 900) (go 1 [[1,2,3,4,5,6,33,900],[1]] (k:=?_))));refine bu (fun hc33=>?_) (fun hc33=>?_)
  · refine go 0 [[4]] (k:=?_);obtain ⟨r,hr,hrm⟩:=iD (l:=R) (i:=j + 1 + e) rfl (by have h:((j + 1 + e:Nat):Int) < (((R.map dL).length:Nat):Int):=hc33;rw [ao] at h;exact h);have hsn:=Xa (l:=R.drop (j + 1)) (e:=e) (f:=fun r=>qc r j) (by rw [ck];exact hr);have hltR:j + 1 + e < R.length:=by have h:((j + 1 + e:Nat):Int) < (((R.map dL).length:Nat):Int):=hc33;rw [ao] at h;omega
    refine go 0 [[3]] (k:=fD (h:=dn) (k:=cZ 38 (h:=aX 0) (k:=fD (h:=aC) (k:=gq2 39 40 (h:=fun hg=>aht 900 (i:=j + 1 + e) rfl (by rw [ao];omega)) (k:=?_)))));refine cZ 41 (h:=ahN (jV hr)) (k:=fD (h:=aC) (k:=qN 42 43 (h:=a_call eN (adK (i:=j) (hC.rb.2 r hrm).1 (hC.rb.2 r hrm).2 (by omega))) (k:=q Di (q aC ?_))));rw [Bool.or_assoc,← hsn];refine go 1 [[0,2,3,4,5,6,900],[4]] (k:=q (bH (z:=((j + 1 + (e + 1):Nat):Int)) (hz:=by omega)) (q aC (gU [2,3,4,5,6,900] (k:=?_))));exact aY (e + 1) ⟨by omega,by omega⟩ (sbk [2,3,4,5,6,900])
  ·
   have hend:j + 1 + e = R.length:=by have h:¬ ((j + 1 + e:Nat):Int) < (((R.map dL).length:Nat):Int):=hc33;rw [ao] at h;omega
   rw [U6 hend];refine go 0 [[9,2,3,4,46,900],[1]] (k:=?_);refine dA (fun hc46=>?_) (fun hc46=>?_)
   · obtain ⟨SN,hSN⟩:∃ x,x = (R,c):=⟨_,rfl⟩;have hCN:FT j SN (T,l):=hSN ▸ hC.keep hc46;rw [show R = SN.1 by rw [hSN],show c = SN.2 by rw [hSN]];obtain ⟨vN,hvN⟩:∃ x,x = v:=⟨_,rfl⟩;rw [← hvN];refine go 0 [[6]] (k:=q (eG (z:=(j:Int) - 1) (hz:=rfl)) (q aC (gU [2,3,4,900] (k:=?_))));exact aY ((j,vN,SN)) ⟨hCN,by show j < j + 1;omega⟩ (sbk [2,3,4,900])
   · have hneed:=hc46;refine go 0 [[5]] (k:=q (aX 1) (q aC (q (a_call eN (ac7 (i:=j) hC.lc (by omega))) (q dn (q (yI 1) (go 1 [[0,2,3,4,900],[5]] (k:=q (bH (z:=((j + 1:Nat):Int)) (hz:=by omega)) (go 1 [[1,2,3,4,7,900],[2]] (k:=?_)))))))));rw [show F.ov v 1 (R.map dL) = F.ov v 1 ((mf R j 0).map dL) by rw [acB]];refine CT.weak (aZ (ι:=Nat) (fun e=>[(2,.box sH),(3,.box (.agg [.val v,dL (mr c j)])),(4,.dat (vI j)),(7,.dat (vI ((j + 1 + e:Nat):Int))),(900,.ov v 1 ((mf R j e).map dL))]) (fun e=>j + 1 + e≤R.length) (fun e=>R.length - e) ?_ (0) (hC.le)) (sbk [2,3,4,7,900]);intro e he;refine go 0 [[0,2,3,4,7,900],[5]] (k:=q (aX 0) (q (C9 900) (go 1 [[1,2,3,4,7,58,900],[1]] (k:=?_))));refine bu (fun hc58=>?_) (fun hc58=>?_)
     · refine go 0 [[4]] (k:=?_);have hltR:j + 1 + e < R.length:=by have h:((j + 1 + e:Nat):Int) < ((((mf R j e).map dL).length:Nat):Int):=hc58;rw [ao,lJ (by omega)] at h;omega
       obtain ⟨r,hr,hrm⟩:=iD (l:=R) (i:=j + 1 + e) rfl (by omega);have h0r:=Yg hltR;refine dC 11 mixed (go 3 [[1]] (k:=bG 0 (ct:=go 3 [[2]] (k:=bG 0 (ct:=go 3 [[1]] (k:=iJ 900 (es:=(mf R j e).map dL) (i:=j + 1 + e) rfl (by rw [ao,lJ (by omega)];omega) (ct:=qQ (jV (h0r.trans hr)) (ct:=go 3 [[1]] (k:=ak eN ((ac7 (i:=j) (hC.rb.2 r hrm).2 (by omega)).gd) (ct:=iJ 900 (es:=(mf R j e).map dL) (i:=j + 1 + e) rfl (by rw [ao,lJ (by omega)];omega) (ct:=go 3 [[1]] (k:=q (jy (es:=(mf R j e).map dL) (i:=j + 1 + e) (by rw [ao,lJ (by omega)];omega) (e:=dL (mr r j))) ?_))))))))))));rw [VT hr];refine go 1 [[0,2,3,4,7,900],[4]] (k:=q (bH (z:=((j + 1 + (e + 1):Nat):Int)) (hz:=by omega)) (q aC (gU [2,3,4,7,900] (k:=?_))));exact aY (e + 1) ⟨by omega,by omega⟩ (sbk [2,3,4,7,900])
     · have hend:j + 1 + e = R.length:=by have h:¬ ((j + 1 + e:Nat):Int) < ((((mf R j e).map dL).length:Nat):Int):=hc58;rw [ao,lJ (by omega)] at h;omega
       refine go 0 [[5]] (k:=dC 10 mixed (go 3 [[1]] (k:=bG 0 (ct:=go 3 [[2]] (k:=aio 900 (es:=(mf R j e).map dL) (i:=j) rfl (by rw [ao,lJ (by omega)];omega) (ct:=go 3 [[1]] (k:=bG 0 (ct:=go 3 [[1]] (k:=WO (z:=((j + 1:Nat):Int)) (hz:=by omega) (ct:=aia 900 (es:=(mf R j e).map dL) (j:=j + 1) rfl (by rw [ao,lJ (by omega)];omega) (ct:=go 3 [[1]] (k:=?_))))))))))));refine adI rfl (abR (g:=900) (i:=j) (v:=v) (l:=(mf R j e).map dL) rfl rfl (by decide) (by decide) rfl rfl gm rfl (by decide) (fun _=>rfl) (fun _=>abw _) rfl rfl rfl (by rw [ao,lJ (by omega)];omega) (by rw [ao,lJ (by omega)];omega) (by decide)) fun ⟨v2,hv2⟩=>q dn (q (yI 0 (hu:=hv2)) ?_)
       rw [Wi (c:=c) hend,show mr c j = (vT (R,c) j).2 from rfl];obtain ⟨SN,hSN⟩:∃ x,x = vT (R,c) j:=⟨_,rfl⟩;have hCN:FT j SN (T,l):=hSN ▸ hC.drop hneed;rw [← hSN];obtain ⟨vN,hvN⟩:∃ x,x = v2:=⟨_,rfl⟩;subst hvN;refine go 1 [[0,2,3,4,900],[4]] (k:=q (eG (z:=(j:Int) - 1) (hz:=rfl)) (q aC (gU [2,3,4,900] (k:=?_))));exact aY ((j,vN,SN)) ⟨hCN,by show j < j + 1;omega⟩ (sbk [2,3,4,900])
 · obtain rfl:qn = 0:=by have h:¬ ((qn:Int) - 1) ≥ 0:=hc20;omega
   have hfin:(R,c) = Vy T.length (T,l):=(show FT 0 (R,c) (T,l) from hC0).eq;refine go 0 [[7]] (k:=?_);refine sq (fun a W h=>h.PQ (s:=3) (g:=900) rfl rfl rfl (by decide) (vG.fst (vG.here rfl))) (go 1 [[2,2,900],[2]] (k:=?_));exact rt_eq dG (by rw [← hfin];rfl)
theorem trim_c (hT:BF T) (h60:T.length≤60) (hl:um l) (hn:l.length≤1000000):AC aD true 44 [fC T l] (.dat (fC (Vy T.length (T,l)).1 (Vy T.length (T,l)).2)):=by
 by_cases h0:T = []
 · subst h0;exact aee
 · exact aeM hT h60 h0 hl hn
section
variable {P:Program} {ops:Array Oper} {kw:Bool} {X0:XS} {w0:World} {m:Nat} {Γ:fA} {o:Oper} {d:Nat} {es:List D} {l:List Oper} {acc:List Hd} {K:List Hd→fA→Prop}
theorem Yj (ho:o.op = .move (.tmp s)∨o.op = .assign (.tmp s)) (hd:o.dst = some d) (hdm:d < m) (hn:aB Γ d = true) (hl:lk Γ s = some (.grow k es)):dB P kw X0 w0 m Γ o ((d,.dat (.list k es)) :: Γ) :=
 bK hd hdm hn rfl fun a W X Ow hs=>⟨a.eval (.tmp s),by rcases ho with ho | ho <;> simp [execOp,ho],by unfold ah;exact jJ.grow hl a W X Ow hs⟩
theorem adN (ho:o.op = .move (.tmp s)∨o.op = .assign (.tmp s):=by first | exact .inl rfl | exact .inr rfl) (hd:o.dst = some d:=by rfl) (hdm:d < m:=by decide) (hn:aB Γ d = true:=by rfl) (hl:lk Γ s = some (.grow k es):=by rfl):dB aD kw X0 w0 m Γ o ((d,.dat (.list k es)) :: Γ):=Yj ho hd hdm hn hl
theorem Tj (ho:o.op = .move (.tmp s)∨o.op = .assign (.tmp s):=by first | exact .inl rfl | exact .inr rfl) (hg:o.guard = none:=by rfl) (hd:o.dst = some d:=by rfl) (hdm:d < m:=by decide) (hl:lk Γ s = some (.grow k es):=by rfl) (ct:HT aD ops kw X0 w0 m (⟨[(s,.grow k es)],d,.dat (.list k es),false⟩ :: acc) ((d,.dat (.list k es)) :: Γ) l K):HT aD ops kw X0 w0 m acc Γ (o :: l) K :=
 HT.cons (h:=⟨[(s,.grow k es)],d,.dat (.list k es),false⟩) rfl hd (fun Γ h hn'=>(Yj ho hd hdm hn' h.1).g hg) ⟨hl,trivial⟩ ct
end
structure Jh where
 kind:Nat
 a:Nat
 b:Nat
 n:Int
 d:Nat
def Rh (o:Jh):D:=.agg [.val (.int .u8 o.kind),.val (.int .u8 o.a),.val (.int .u8 o.b),.val (.int .i8 o.n),.val (.int .u8 o.d)]
structure DT (o:Jh):Prop where
 k:o.kind < 256
 a:o.a < 256
 b:o.b < 256
 n1:-128≤o.n
 n2:o.n≤127
 d:o.d < 256
theorem aeU {ops:List Jh} {o:Jh} (h:ops[i]? = some o):(ops.map Rh)[i]? = some (Rh o):=by rw [dx,h];rfl
def VM (r:D):Prop:=r.width = 2∧r.isAgg = true∧r.kJ = true
def mJ (fid:FuncId) (a b x:Nm):Prop:=∃ (r:D) (e:Int),VM r∧AC aD true fid [aV a,aV b] (.bT [r,vI e])∧AC aD true 36 [r,vI e,aV a] (.dat (aV x))
def PX (rt rt':Nat) (a x:Nm):Prop:=∃ s:Int,AC aD true 40 [aV a] (.dat (vI s))∧∃ a2:Nm,(s < 0→AC aD true 41 [aV a] (.dat (aV a2)))∧(¬ s < 0→a2 = a) ∧
 ((rt < 3∧rt' = rt + 1∧∃ (r:D) (e:Int),VM r∧AC aD true 42 [aV a2] (.bT [r,vI e])∧AC aD true 36 [r,vI e,aV a2] (.dat (aV x)))∨(¬ rt < 3∧rt' = rt∧x = a))
def KW (l:List Nm) (rt rt':Nat) (o:Jh) (q x:Nm):Prop :=
 ((decide (((l.length:Nat):Int) > 0) && decide (((o.kind % 6:Nat):Int)≠0)) = false∧x = q∧rt' = rt) ∨
 ((decide (((l.length:Nat):Int) > 0) && decide (((o.kind % 6:Nat):Int)≠0)) = true∧∃ a b,l[o.a % l.length]? = some a∧l[o.b % l.length]? = some b ∧
  ((o.kind % 6 = 1∧rt' = rt∧mJ 35 a b x)∨(o.kind % 6 = 2∧rt' = rt∧mJ 37 a b x)∨(o.kind % 6 = 3∧rt' = rt∧mJ 38 a b x)∨(o.kind % 6 = 4∧rt' = rt∧mJ 39 a b x)∨(o.kind % 6 = 5∧PX rt rt' a x)))
structure UC (l l':List Nm) (rt rt':Nat) (o:Jh) (q x x' z:Nm) (lb:Bool):Prop where
 ok:DT o
 len:l.length≤24
 r3:rt≤24
 aiN:AC aD true 34 [vI o.n,vI ((o.d % 8 + 1:Nat):Int)] (.dat (aV q))
 mid:KW l rt rt' o q x
 long:AC aD true 43 [aV x] (.dat (vB lb))
 last:((decide (((l.length:Nat):Int) > 0) && lb) = true∧l[l.length - 1]? = some x')∨((decide (((l.length:Nat):Int) > 0) && lb) = false∧x' = x)
 trim:AC aD true 44 [aV x'] (.dat (aV z))
 next:l' = l ++ [z]
theorem FSq.re1 {kw:Bool} {X0:XS} {w0:World} {m:Nat} {Γ:fA} {a:Act} {W:World} {f f':F} (h:FSq kw X0 w0 m Γ a W) (hl:lk Γ s = some f) (e:f = f'):FSq kw X0 w0 m ((s,f') :: Γ) a W :=
 h.add fun X Ow hx=>e ▸ hx.facts s _ hl
def zOp:D:=.agg [.val (.int .u8 0),.val (.int .u8 0),.val (.int .u8 0),.val (.int .i8 0),.val (.int .u8 0)]
theorem acC {kw:Bool} {X:XS} {W:World}:aU kw X W zOp [.int .u8 0,.int .u8 0,.int .u8 0,.int .i8 0,.int .u8 0]:=by
 unfold zOp aU;have h1:∀ v:Value,v.oneCell' = true→aU kw X W (.val v) [v]:=fun v h=>by unfold aU;exact ⟨rfl,h⟩
 have h2:∀ (v:Value) (ds:List D) (cs:List Value),v.oneCell' = true→aF kw X W ds cs→aF kw X W (.val v :: ds) (v :: cs):=fun v ds cs h k=>by
  unfold aF;exact ⟨[v],cs,rfl,h1 v h,k⟩
 exact h2 _ _ _ rfl (h2 _ _ _ rfl (h2 _ _ _ rfl (h2 _ _ _ rfl (h2 _ _ _ rfl (by unfold aF;rfl)))))
theorem Yf:FI aD 63 0 0:=.of Tryz.underlying63 rfl rfl (n:=0) (by kernel_rfl)
theorem aeZ:FI aD 63 1 1:=.of Tryz.underlying63 rfl rfl (n:=0) (by kernel_rfl)
theorem afI:FI aD 63 2 2:=.of Tryz.underlying63 rfl rfl (n:=0) (by kernel_rfl)
theorem afu:FI aD 63 3 3:=.of Tryz.underlying63 rfl rfl (n:=0) (by kernel_rfl)
theorem aeS:FI aD 63 4 4:=.of Tryz.underlying63 rfl rfl (n:=0) (by kernel_rfl)
theorem aih:ZI aD 63 zOp:=.of (v:=.agg #[.int .u8 0,.int .u8 0,.int .u8 0,.int .i8 0,.int .u8 0]) (by kernel_rfl) fun _ _ _=>acC
theorem afj {l:List Nm} {rt rt':Nat} {o:Jh} {q x:Nm} (h:KW l rt rt' o q x) (hb:(decide (((l.length:Nat):Int) > 0) && decide (((o.kind % 6:Nat):Int)≠0)) = true):∃ a b,l[o.a % l.length]? = some a∧l[o.b % l.length]? = some b ∧
 ((o.kind % 6 = 1∧rt' = rt∧mJ 35 a b x)∨(o.kind % 6 = 2∧rt' = rt∧mJ 37 a b x)∨(o.kind % 6 = 3∧rt' = rt∧mJ 38 a b x)∨(o.kind % 6 = 4∧rt' = rt∧mJ 39 a b x)∨(o.kind % 6 = 5∧PX rt rt' a x)):=by
 rcases h with ⟨e,_⟩ | ⟨_,h⟩
 · rw [hb] at e;cases e
 · exact h
theorem aaZ {ops:List Jh} {ls:Nat→List Nm} {rs:Nat→Nat} (hn:ops.length≤9223372036854775807) (h0:ls 0 = []) (r0:rs 0 = 0) (hs:∀ i o,i < 24→ops[i]? = some o→∃ q x x' z lb,UC (ls i) (ls (i + 1)) (rs i) (rs (i + 1)) o q x x' z lb):AC aD true 13 [.list 5 (ops.map Rh)] (.grow 2 ((ls (min ops.length 24)).map aV)):=by
 refine aix 159 Tryz.func13 (k:=go 0 [[0,0],[3,0,2],[4,0,2,3],[4,0,2,3,4],[5,0,2,3,4,5],[2]] (k:=ctq (fun a W h=>h.lF (s:=3) (k:=2) rfl) ?_));rw [show F.grow 2 [] = F.grow 2 ((ls 0).map aV) by rw [h0];rfl];refine ctq (fun a W h=>h.re1 (s:=4) (f':=.dat (vI (rs 0))) rfl (by rw [r0];rfl)) ?_;refine CT.weak (aZ (ι:=Nat) (fun i=>[(0,.dat (.list 5 (ops.map Rh))),(3,.grow 2 ((ls i).map aV)),(4,.dat (vI (rs i))),(5,.dat (vI i))]) (fun i=>i≤ops.length∧i≤24) (fun i=>24 - i) ?_ (0) (⟨by omega,by omega⟩)) (sbk [0,3,4,5]);intro i ⟨hi1,hi2⟩;refine go 0 [[0,0,3,4,5],[5]] (k:=q (aI (n:=ops.length) (hlen:=by simp [lenOf])) (q Yb (q aC (fD (h:=aC) (k:=cZ 25 (h:=CW) (k:=go 1 [[1,0,3,4,5,27],[1]] (k:=?_)))))));refine dA (fun hc27=>?_) (fun hc27=>?_)
 ·
  refine go 0 [[5]] (k:=?_);rw [a8,decide_eq_true_iff,decide_eq_true_iff] at hc27;obtain ⟨o,ho,hom⟩:=iD (l:=ops) (i:=i) rfl hc27.1;obtain ⟨q',x,x',z,lb,B⟩:=hs i o (by have h:=hc27.2;omega) ho;have hok:=B.ok;have hlen24:=B.len;refine go 0 [[3]] (k:=q (dZ rfl (aeU ho)) (q (fO (e:=Rh o)) (q (nH (zi:=aih)) (go 1 [[1,0,3,4,5,6],[3]] (k:=q (dn (fi:=afu)) (q (aX 3) (q (wI (z:=o.n) (k2:=.i64) Tryz.underlying61 Tryz.underlying2 (hz:=by rw [cF];have h1:=B.ok.n1;have h2:=B.ok.n2;omega)) (q (dn (fi:=aeS)) (q (aX 4) (q (Fv (z:=((o.d % 8:Nat):Int)) (hz:=by omega) (hp:=aq _)) (q (wI (z:=((o.d % 8:Nat):Int)) (k2:=.i64) Tryz.underlying5 Tryz.underlying2 (hz:=by rw [cF];omega)) (q (bH (z:=((o.d % 8 + 1:Nat):Int)) (hz:=by omega)) (q (a_call eN (B.aiN)) (go 1 [[2,0,3,4,5,6,7],[1]] (k:=?_)))))))))))))));refine qI (ι:=Unit) (fun _=>[(0,.dat (.list 5 (ops.map Rh))),(3,.grow 2 ((ls i).map aV)),(4,.dat (vI (rs (i + 1)))),(5,.dat (vI i)),(7,.box (aV x))]) (fun _=>True) ?_ ?_
  ·
   refine bP (cO (q (jf) (q (uk (n:=(ls i).length) (hlen:=by simp [lenOf])) (q iT (q aC (fD (h:=dn (fi:=Yf)) (k:=cZ 47 (h:=aX 0) (k:=cZ 48 (h:=Fv (z:=((o.kind % 6:Nat):Int)) (hz:=by omega) (hp:=aq _)) (k:=cZ 49 (h:=oI) (k:=go 1 [[1,0,3,4,5,6,7,51],[1]] (k:=?_)))))))))));refine dA (fun hc51=>?_) (fun hc51=>?_)
   ·
    obtain ⟨a,b,ha,hb,hm⟩:=afj B.mid hc51;have hpos:0 < (ls i).length:=by rw [a8,decide_eq_true_iff] at hc51;omega
    refine bP (dC 22 mixed ?_);refine Tj (ct:=Pm (fi:=aeZ) (ct:=bG 1 (ct:=ZM (z:=(o.a:Int)) (k2:=.i64) Tryz.underlying5 Tryz.underlying3 (hz:=by rw [cF];have h1:=B.ok.a;omega) (ct:=Tj (ct:=je (n:=(ls i).length) (hlen:=by simp [lenOf]) (ct:=Zo (z:=((o.a % (ls i).length:Nat):Int)) (hq:=by omega) (hp:=aq _) (hz:=by omega) (ct:=mP rfl (Df ha) (ct:=Nb (e:=aV a) (ct:=Tj (ct:=Pm (fi:=afI) (ct:=bG 2 (ct:=ZM (z:=(o.b:Int)) (k2:=.i64) Tryz.underlying5 Tryz.underlying3 (hz:=by rw [cF];have h1:=B.ok.b;omega) (ct:=Tj (ct:=je (n:=(ls i).length) (hlen:=by simp [lenOf]) (ct:=Zo (z:=((o.b % (ls i).length:Nat):Int)) (hq:=by omega) (hp:=aq _) (hz:=by omega) (ct:=mP rfl (Df hb) (ct:=Nb (e:=aV b) (ct:=go 3 [[5,0,3,4,5,6,7,8,9],[3]] (k:=q (bM (e:=aV a)) (go 1 [[1,0,3,4,5,6,7,8,9],[3]] (k:=q (dn (fi:=Yf)) (q (aX 0) (q (Fv (z:=((o.kind % 6:Nat):Int)) (hz:=by omega) (hp:=aq _)) (go 1 [[0,0,3,4,5,7,8,9,73],[6,0,3,4,5,7,8,9,73,92],[1]] (k:=?_)))))))))))))))))))))))));refine bu (fun hc92=>?_) (fun hc92=>?_)
    ·
     obtain ⟨hrt,r,e,⟨w1,g1,u1⟩,hq1,hq2⟩:rs (i + 1) = rs i∧mJ 35 a b x:=by
      rcases hm with h | h | h | h | h
      · exact h.2
      · exact absurd h.1 (by omega)
      · exact absurd h.1 (by omega)
      · exact absurd h.1 (by omega)
      · exact absurd h.1 (by omega)
     rw [← hrt];refine bP (cO (q (bM (e:=aV a)) (q (bM (e:=aV b)) (q (a_call eN (hq1)) (go 1 [[4]] (k:=q (jO (hw:=w1) (hu:=u1)) (go 1 [[1,0,3,4,5,7,8,10,11],[2]] (k:=q (bM (ti:=by rw [w1,g1];exact eU)) (q aC (q (bM (e:=aV a)) (q (a_call eN (hq2)) (go 1 [[1,0,3,4,5,7],[1]] (k:=?_)))))))))))));exact aY () trivial (sbk [0,3,4,5,7])
    ·
     refine go 0 [[4,0,3,4,5,7,8,9,73,104],[1]] (k:=?_);refine bu (fun hc104=>?_) (fun hc104=>?_)
     · obtain ⟨hrt,r,e,⟨w1,g1,u1⟩,hq1,hq2⟩:rs (i + 1) = rs i∧mJ 37 a b x:=by
        rcases hm with h | h | h | h | h
        · exact absurd h.1 (by omega)
        · exact h.2
        · exact absurd h.1 (by omega)
        · exact absurd h.1 (by omega)
        · exact absurd h.1 (by omega)
       rw [← hrt];refine bP (cO (q (bM (e:=aV a)) (q (bM (e:=aV b)) (q (a_call eN (hq1)) (go 1 [[4]] (k:=q (jO (hw:=w1) (hu:=u1)) (go 1 [[1,0,3,4,5,7,8,12,13],[2]] (k:=q (bM (ti:=by rw [w1,g1];exact eU)) (q aC (q (bM (e:=aV a)) (q (a_call eN (hq2)) (go 1 [[1,0,3,4,5,7],[1]] (k:=?_)))))))))))));exact aY () trivial (sbk [0,3,4,5,7])
     ·
      refine go 0 [[4,0,3,4,5,7,8,9,73,116],[1]] (k:=?_);refine bu (fun hc116=>?_) (fun hc116=>?_)
      · obtain ⟨hrt,r,e,⟨w1,g1,u1⟩,hq1,hq2⟩:rs (i + 1) = rs i∧mJ 38 a b x:=by
         rcases hm with h | h | h | h | h
         · exact absurd h.1 (by omega)
         · exact absurd h.1 (by omega)
         · exact h.2
         · exact absurd h.1 (by omega)
         · exact absurd h.1 (by omega)
        rw [← hrt];refine bP (cO (q (bM (e:=aV a)) (q (bM (e:=aV b)) (q (a_call eN (hq1)) (go 1 [[4]] (k:=q (jO (hw:=w1) (hu:=u1)) (go 1 [[1,0,3,4,5,7,8,14,15],[2]] (k:=q (bM (ti:=by rw [w1,g1];exact eU)) (q aC (q (bM (e:=aV a)) (q (a_call eN (hq2)) (go 1 [[1,0,3,4,5,7],[1]] (k:=?_)))))))))))));exact aY () trivial (sbk [0,3,4,5,7])
      ·
       refine go 0 [[4,0,3,4,5,7,8,9,128],[1]] (k:=?_);refine bu (fun hc128=>?_) (fun hc128=>?_)
       · obtain ⟨hrt,r,e,⟨w1,g1,u1⟩,hq1,hq2⟩:rs (i + 1) = rs i∧mJ 39 a b x:=by
          rcases hm with h | h | h | h | h
          · exact absurd h.1 (by omega)
          · exact absurd h.1 (by omega)
          · exact absurd h.1 (by omega)
          · exact h.2
          · exact absurd h.1 (by omega)
         rw [← hrt];refine bP (cO (q (bM (e:=aV a)) (q (bM (e:=aV b)) (q (a_call eN (hq1)) (go 1 [[4]] (k:=q (jO (hw:=w1) (hu:=u1)) (go 1 [[1,0,3,4,5,7,8,16,17],[2]] (k:=q (bM (ti:=by rw [w1,g1];exact eU)) (q aC (q (bM (e:=aV a)) (q (a_call eN (hq2)) (go 1 [[1,0,3,4,5,7],[1]] (k:=?_)))))))))))));exact aY () trivial (sbk [0,3,4,5,7])
       ·
        have h5:o.kind % 6 = 5:=by
         have h9:(decide (((ls i).length:Int) > 0) && decide (((o.kind % 6:Nat):Int)≠0)) = true:=hc51;rw [a8,decide_eq_true_iff,decide_eq_true_iff] at h9;omega
        obtain ⟨s,hS,a2,hN,hN2,hsq⟩:PX (rs i) (rs (i + 1)) a x:=by
         rcases hm with h | h | h | h | h
         · exact absurd h.1 (by omega)
         · exact absurd h.1 (by omega)
         · exact absurd h.1 (by omega)
         · exact absurd h.1 (by omega)
         · exact h.2
        refine bP (bP (cO (q (bM (e:=aV a)) (q (a_call eN (hS)) (go 1 [[1,0,3,4,5,7,8,76],[1]] (k:=?_))))));refine bu (fun hc76=>?_) (fun hc76=>?_)
        ·
         refine cO (q (bM (e:=aV a)) (q (a_call eN (hN hc76)) (go 1 [[1,0,3,4,5,7,8],[5,0,3,4,5,7,8,80],[1]] (k:=?_))));refine bu (fun hc80=>?_) (fun hc80=>?_)
         · obtain ⟨hrt,r,e,⟨w1,g1,u1⟩,hq1,hq2⟩:rs (i + 1) = rs i + 1∧∃ (r:D) (e:Int),VM r∧AC aD true 42 [aV a2] (.bT [r,vI e])∧AC aD true 36 [r,vI e,aV a2] (.dat (aV x)):=by
            rcases hsq with ⟨_,h⟩ | ⟨h,_⟩
            · exact h
            · exact absurd (by omega) h
           refine bP (cO (q aC (q (bH (z:=((rs i + 1:Nat):Int)) (hz:=by have:=B.r3;omega)) (go 1 [[1,0,3,4,5,7,8],[3]] (k:=?_)))));rw [← hrt];refine q (bM (e:=aV a2)) (q (a_call eN (hq1)) (go 1 [[4]] (k:=q (jO (hw:=w1) (hu:=u1)) (go 1 [[1,0,3,4,5,7,8,18,19],[2]] (k:=q (bM (ti:=by rw [w1,g1];exact eU)) (q aC (q (bM (e:=aV a2)) (q (a_call eN (hq2)) (go 1 [[1,0,3,4,5,7],[1]] (k:=?_))))))))));exact aY () trivial (sbk [0,3,4,5,7])
         · obtain ⟨hrt,hx⟩:rs (i + 1) = rs i∧x = a:=by
            rcases hsq with ⟨h,_⟩ | ⟨_,h⟩
            · exact absurd (by omega) hc80
            · exact h
           first | rw [← hx,← hrt] | rw [show aV a2 = aV x by rw [hN2 hc76,hx],← hrt]
           refine eF (OM ?_);exact aY () trivial (sbk [0,3,4,5,7])
        ·
         rw [show aV a = aV a2 by rw [hN2 hc76]];refine go 0 [[6,0,3,4,5,7,8,80],[1]] (k:=?_);refine bu (fun hc80=>?_) (fun hc80=>?_)
         · obtain ⟨hrt,r,e,⟨w1,g1,u1⟩,hq1,hq2⟩:rs (i + 1) = rs i + 1∧∃ (r:D) (e:Int),VM r∧AC aD true 42 [aV a2] (.bT [r,vI e])∧AC aD true 36 [r,vI e,aV a2] (.dat (aV x)):=by
            rcases hsq with ⟨_,h⟩ | ⟨h,_⟩
            · exact h
            · exact absurd (by omega) h
           refine bP (cO (q aC (q (bH (z:=((rs i + 1:Nat):Int)) (hz:=by have:=B.r3;omega)) (go 1 [[1,0,3,4,5,7,8],[3]] (k:=?_)))));rw [← hrt];refine q (bM (e:=aV a2)) (q (a_call eN (hq1)) (go 1 [[4]] (k:=q (jO (hw:=w1) (hu:=u1)) (go 1 [[1,0,3,4,5,7,8,18,19],[2]] (k:=q (bM (ti:=by rw [w1,g1];exact eU)) (q aC (q (bM (e:=aV a2)) (q (a_call eN (hq2)) (go 1 [[1,0,3,4,5,7],[1]] (k:=?_))))))))));exact aY () trivial (sbk [0,3,4,5,7])
         · obtain ⟨hrt,hx⟩:rs (i + 1) = rs i∧x = a:=by
            rcases hsq with ⟨h,_⟩ | ⟨_,h⟩
            · exact absurd (by omega) hc80
            · exact h
           first | rw [← hx,← hrt] | rw [show aV a2 = aV x by rw [hN2 hc76,hx],← hrt]
           refine eF (OM ?_);exact aY () trivial (sbk [0,3,4,5,7])
   · obtain ⟨hx,hrt⟩:x = q'∧rs (i + 1) = rs i:=by
      rcases B.mid with ⟨_,h⟩ | ⟨h,_⟩
      · exact h
      · rw [hc51] at h;cases h
     rw [← hx,← hrt];refine eF ?_;exact aY () trivial (sbk [0,3,4,5,7])
  intro _ _;refine SQ [0,3,4,5,7] (k:=?_);refine qI (ι:=Unit) (fun _=>[(0,.dat (.list 5 (ops.map Rh))),(3,.grow 2 ((ls i).map aV)),(4,.dat (vI (rs (i + 1)))),(5,.dat (vI i)),(7,.box (aV x'))]) (fun _=>True) ?_ ?_
  ·
   refine bP (cO (q (jf) (q (uk (n:=(ls i).length) (hlen:=by simp [lenOf])) (q iT (q aC (fD (h:=bM (e:=aV x)) (k:=cZ 144 (h:=a_call eN (B.long)) (k:=go 1 [[1,0,3,4,5,7,146],[1]] (k:=?_)))))))));refine dA (fun hc146=>?_) (fun hc146=>?_)
   · obtain hlast:(ls i)[(ls i).length - 1]? = some x':=by
      rcases B.last with ⟨_,h⟩ | ⟨h,_⟩
      · exact h
      · rw [hc146] at h;cases h
     have hpos:0 < (ls i).length:=by rw [a8,decide_eq_true_iff] at hc146;omega
     refine cO (q (adN) (q (adN) (q (aI (n:=(ls i).length) (hlen:=by simp [lenOf])) (q (eG (z:=(((ls i).length - 1:Nat):Int)) (hz:=by omega)) (q (dZ rfl (Df hlast)) (q (fO (e:=aV x')) (q jO (gU [0,3,4,5,7] (k:=?_)))))))));exact aY () trivial (sbk [0,3,4,5,7])
   · obtain rfl:x' = x:=by
      rcases B.last with ⟨h,_⟩ | ⟨_,h⟩
      · rw [hc146] at h;cases h
      · exact h
     refine eF ?_;exact aY () trivial (sbk [0,3,4,5,7])
  intro _ _;refine go 0 [[0,0,3,4,5,7],[2]] (k:=q (bM (e:=aV x')) (q (a_call eN (B.trim)) (q (jM (xs:=[.tmp 155]) (es:=[aV z]) lI) (q (iI (l2:=[aV z]) lI (hb:=by have:=B.len;rw [ao];show ((ls i).length + 1) * 48≤_;omega) (hu2:=Be _ rfl)) (q vX ?_)))));rw [show (ls i).map aV ++ [aV z] = (ls (i + 1)).map aV by rw [B.next];simp];refine go 1 [[0,0,3,4,5],[4]] (k:=q (bH (z:=((i + 1:Nat):Int)) (hz:=by omega)) (q aC (gU [0,3,4,5] (k:=?_))));exact aY (i + 1) ⟨⟨by have:=hc27.1;omega,by have:=hc27.2;omega⟩,by have:=hc27.2;omega⟩ (sbk [0,3,4,5])
 · have hfin:i = min ops.length 24:=by
    rw [Bool.and_eq_false_iff,decide_eq_false_iff_not,decide_eq_false_iff_not] at hc27;omega
   subst hfin;exact go 0 [[9,2],[2]] (k:=qj)
theorem Tp.own:ownKnob aD.godebug = none:=by kernel_rfl
theorem Tp.laidOut:laidOutB aD = true:=by kernel_rfl
theorem Ts.cu8:aD.cellsOf 5 = 1:=by kernel_rfl
theorem Ts.ci8:aD.cellsOf 61 = 1:=by kernel_rfl
theorem Ts.cop:aD.cellsOf 63 = 5:=by kernel_rfl
section
variable {H:Type} {enc:TypeId × Value→H} {W:World}
def Tro (enc:TypeId × Value→H) (W:World) (t:TypeId) (cs:List Value):Prop:=∃ fuel x,DataW.trod enc aD W 0 (fun _=>true) true fuel t cs = some x
theorem Qx {t:TypeId} {fs:Array Field} (ht:aD.underlying t = some (.struct fs)) {cs:List Value} (h:Tro enc W t cs):cs.length = aD.cellsOf t∧∀ (i:Nat) (f:Field),fs[i]? = some f→Tro enc W f.type ((cs.drop f.offset).take (aD.cellsOf f.type)):=by
 obtain ⟨fuel,x,h⟩:=h;obtain ⟨xs,n,-,-,hl,hlen,hf⟩:=DataW.trod_struct ht h;refine ⟨hl,fun i f hi=>?_⟩;have h1:=hf i f hi;have hlt:i < xs.length:=by rw [hlen];exact (Array.getElem?_eq_some_iff.1 hi).1
 rw [bh hlt] at h1;exact ⟨n,_,h1⟩
theorem JR {cs:List Value} (h:Tro enc W 5 cs):∃ x:Nat,x < 256∧cs = [.int .u8 (x:Int)]:=by
 obtain ⟨fuel,x,h⟩:=h;obtain ⟨b,hb,-,wf⟩:=fI Tryz.underlying5 h;have hw:0≤b∧b≤255:=by simpa [Lit.wf,fS,fT,e8,fw] using wf
 exact ⟨b.toNat,by omega,by rw [hb,Int.toNat_of_nonneg hw.1]⟩
theorem agj {cs:List Value} (h:Tro enc W 61 cs):∃ x:Int,(-128≤x∧x≤127)∧cs = [.int .i8 x]:=by
 obtain ⟨fuel,x,h⟩:=h;obtain ⟨b,hb,-,wf⟩:=fI Tryz.underlying61 h;have hw:-128≤b∧b≤127:=by simpa [Lit.wf,fS,fT,e8,fw] using wf
 exact ⟨b,hw,hb⟩
def opC (o:Jh):List Value:=[.int .u8 o.kind,.int .u8 o.a,.int .u8 o.b,.int .i8 o.n,.int .u8 o.d]
theorem aga {cs:List Value} (h:Tro enc W 63 cs):∃ o:Jh,DT o∧cs = opC o:=by
 obtain ⟨hl,hf⟩:=Qx Tryz.underlying63 h;rw [Ts.cop] at hl
 match cs,hl,hf with
 | [u0,u1,u2,u3,u4],_,hf =>
  have h0:Tro enc W 5 (([u0,u1,u2,u3,u4].drop 0).take (aD.cellsOf 5)):=hf 0 _ rfl;have h1:Tro enc W 5 (([u0,u1,u2,u3,u4].drop 1).take (aD.cellsOf 5)):=hf 1 _ rfl;have h2:Tro enc W 5 (([u0,u1,u2,u3,u4].drop 2).take (aD.cellsOf 5)):=hf 2 _ rfl;have h3:Tro enc W 61 (([u0,u1,u2,u3,u4].drop 3).take (aD.cellsOf 61)):=hf 3 _ rfl;have h4:Tro enc W 5 (([u0,u1,u2,u3,u4].drop 4).take (aD.cellsOf 5)):=hf 4 _ rfl;rw [Ts.cu8] at h0 h1 h2 h4;rw [Ts.ci8] at h3;simp only [List.drop,fg] at h0 h1 h2 h3 h4;obtain ⟨x0,b0,e0⟩:=JR h0;obtain ⟨x1,b1,e1⟩:=JR h1;obtain ⟨x2,b2,e2⟩:=JR h2;obtain ⟨x3,b3,e3⟩:=agj h3;obtain ⟨x4,b4,e4⟩:=JR h4;cases e0;cases e1;cases e2;cases e3;cases e4;exact ⟨⟨x0,x1,x2,x3,x4⟩,⟨b0,b1,b2,b3.1,b3.2,b4⟩,rfl⟩
theorem aea (o:Jh):aU true (fun _ _=>False) W (Rh o) (opC o):=by
 unfold Rh opC aU;refine aF.append (l1:=[_]) (c1:=[_]) ?_ (aF.append (l1:=[_]) (c1:=[_]) ?_ (aF.append (l1:=[_]) (c1:=[_]) ?_ (aF.append (l1:=[_]) (c1:=[_]) ?_ ?_))) <;>
 · refine aF.single.2 ?_;unfold aU;exact ⟨rfl,rfl⟩
theorem FK:∀ (ops:List Jh),aF true (fun _ _=>False) W (ops.map Rh) (ops.flatMap opC)
 | []=>by unfold aF;rfl
 | o :: l=>by
  rw [cG,eV];unfold aF;exact ⟨_,_,rfl,aea o,FK l⟩
theorem JO:∀ (ops:List Jh) (j:Nat),(ops.flatMap opC)[j]? = (ops[j / 5]?).bind fun o=>(opC o)[j % 5]?
 | [],j=>by simp
 | o :: l,j=>by
  rw [eV];have hl:(opC o).length = 5:=rfl;rcases bj j 5 with h | h
  · rw [bB (by omega),d9 h,Nat.mod_eq_of_lt h];rfl
  · rw [ar (by omega),hl,JO l (j - 5)];have e1:j / 5 = (j - 5) / 5 + 1:=by omega
    have e2:j % 5 = (j - 5) % 5:=by omega
    rw [e1,e2,cP]
theorem OH {v:Value} {d:DataW H} {p:List MemPlace} (h:DataW.Trod enc aD W 0 (fun _=>true) true 23 v d p) (hv:v.oneCell' = true) :
 ∃ ops:List Jh,ops.length≤9223372036854775807∧(∀ o∈ops,DT o)∧Rep true (fun _ _=>False) W v (.list 5 (ops.map Rh)):=by
 obtain ⟨fuel,h⟩:=h;have hcv:v.cells.toList = [v]:=by cases v <;> first | rfl | (simp [Value.oneCell'] at hv)
 rw [hcv] at h;rcases Go.Deep.open_slice Tryz.underlying23 h with ⟨hcs,-⟩ | ⟨a,len,cap,m,k,Dd,Pl,hcs,-,hl,hm,hmm,-,hi⟩
 · injection hcs with hcs
   subst hcs;exact ⟨[],by simp,by simp,dI (l:=[]) (by simp) (by simp) (fun h=>absurd rfl h)⟩
 ·
  injection hcs with hcs
  subst hcs;have hml:len≤m:=by rw [hmm];split <;> omega
  have hq:∀ i,∃ o:Jh,i < len→DT o∧∀ j y,(opC o)[j]? = some y→W.cell? (a.add (i * 5 + j)) = some y:=by
   intro i
   by_cases hil:i < len
   · obtain ⟨cs',hcs',ht'⟩:=hi i (by omega);rw [Ts.cop] at hcs';obtain ⟨-,hlen,hat⟩:=World.cells?_some hcs';obtain ⟨o,ho,rfl⟩:=aga ⟨_,_,ht'⟩;refine ⟨o,fun _=>⟨ho,fun j y hy=>?_⟩⟩;have hj:j < 5:=(bA.1 hy).1;have:=(hat j hj).trans hy;rw [← this];have e:a.add (i * 5 + j) = (a.add (i * 5)).add j:=by
      unfold fN
      by_cases h1:i * 5 = 0 <;> by_cases h2:j = 0 <;> simp [h1,h2,fW]
     rw [e]
   · exact ⟨⟨0,0,0,0,0⟩,fun h=>absurd h hil⟩
  let ops:List Jh:=(List.range len).map fun i=>(hq i).choose
  have hlen:ops.length = len:=by simp [ops]
  refine ⟨ops,by rw [hlen];simp only [maxLen] at hm;omega,fun o ho=>?_,?_⟩
  · obtain ⟨i,hi,rfl⟩:=cj.1 ho;exact ((hq i).choose_spec (List.mem_range.1 hi)).1
  ·
   rw [← hlen] at hl ⊢;have hll:(ops.map Rh).length = ops.length:=by simp
   rw [← hll];refine dI (by rw [hll];exact hl) (fun x hx=>by obtain ⟨o,_,rfl⟩:=cj.1 hx;rfl) fun hne=>?_
   have hat:∀ j v,(ops.flatMap opC)[j]? = some v→W.cell? (a.add j) = some v:=fun j v hj=>by
    rw [JO] at hj;cases ho:ops[j / 5]? with
    | none=>rw [ho] at hj;cases hj
    | some o =>
     rw [ho] at hj;have hlt:j / 5 < ops.length:=(bA.1 ho).1;have e:o = (hq (j / 5)).choose:=by
      have:=(bA.1 ho).2;rw [← this];simp [ops]
     have:=((hq (j / 5)).choose_spec (by omega)).2 (j % 5) v (by rw [← e];exact hj);rw [show j / 5 * 5 + j % 5 = j by omega] at this;exact this
   have h0:0 < ops.length:=by
    rcases eT ops.length with h | h
    · exact absurd (by rw [bc h];rfl) hne
    · exact h
   have hsp:a.spot = none:=by
    have hc0:=hat 0 _ (by rw [JO,Nat.zero_div,Nat.zero_mod,bh h0];rfl);have ha0:a.add 0 = a:=by unfold fN;simp
    rw [ha0] at hc0;unfold World.cell? at hc0
    split at hc0
    · split at hc0
      · cases hc0
      · rename_i hns;simpa using hns
    · cases hc0
   refine ⟨a.block,a.off,ops.flatMap opC,by cases a;simp only at hsp;rw [hsp],?_,fun j v hj=>⟨fun h=>h,?_⟩,FK ops⟩
   · rw [(FK (W:=W) ops).len,D.dF (k:=5) (fun x hx=>by obtain ⟨o,_,rfl⟩:=cj.1 hx;rfl)]
   · have:=hat j v hj;rw [← this];congr 1;unfold fN
     split
     · rename_i h0;subst h0;cases a;simp only at hsp;rw [hsp];rfl
     · rfl
end
abbrev BB:Nat:=2199023255551
def okS:List Nat→Bool
 | []=>true
 | s :: σ=>decide (uO σ s≤BB) && decide (bD (s :: σ)≤BB) && okS σ
theorem agH:∀ {σ:List Nat} {s:Nat},lU σ s≤uO σ s
 | [],s=>bk s
 | sr :: σ,s=>by simp only [uO];exact cg ..
theorem WU:∀ {σ:List Nat} {s:Nat},Cb σ s≤uO σ s
 | [],s=>bk s
 | sr :: σ,s=>by simp only [uO];exact aM (cg ..) (cQ ..)
theorem qg:∀ {σ:List Nat},okS σ = true→bD σ≤BB∧KY lU BB σ∧KY Cb BB σ∧KY uO BB σ
 | [],_=>⟨av _,trivial,trivial,trivial⟩
 | s :: σ,h=>by
  simp only [okS,a8,decide_eq_true_iff] at h;obtain ⟨⟨h1,h2⟩,h3⟩:=h;obtain ⟨_,g2,g3,g4⟩:=qg h3;exact ⟨h2,⟨aM agH h1,g2⟩,⟨aM WU h1,g3⟩,⟨h1,g4⟩⟩
theorem PT.D9:∀ {n:Nat} {t:Tw n} {σ:List Nat},PT t σ→σ.length = n
 | 0,_,σ,h=>by have h:σ = []:=h;rw [h];rfl
 | n + 1,(t,r),[],h=>h.elim
 | n + 1,(t,r),s :: σ,h=>by rw [bO,PT.D9 h.2]
theorem Kq (h8:n≤8) (hp:PT t σ) (hr:dW t) (h:okS σ = true):vJ t σ:=by
 obtain ⟨h1,h2,h3,h4⟩:=qg h;exact ⟨h8,hp,hr,h1,h2,h3⟩
def szB (σ:List Nat) (r i s im:Nat):Bool:=decide (im + bD σ≤BB) && decide (lU σ (lV σ im)≤BB) && decide (bD (im :: σ)≤BB) && decide (uO σ im≤BB)
def DW (N:Nat) (σ0:List Nat):List Nat→(List Nat→Nat→Bool)→Bool
 | [],k=>k σ0 0
 | s :: υ,k=>DW N σ0 υ fun σ r=>szB σ r υ.length s (yK r (bD σ) υ.length s) && k σ (max r (lV σ (yK r (bD σ) υ.length s))) && (decide (N≤σ.length) || k (yK r (bD σ) υ.length s :: σ) (max r 1))
theorem sz.root (n:Nat):sz (gu n) 1:=by
 refine ⟨1,1,by omega,by omega,by omega,(eD.pair ((eD.zero n 1).mono (by omega)) (fun q hq=>?_))⟩;rw [kY] at hq;rcases ep.1 hq with rfl | hq
 · exact ⟨1,by rw [Rat.one_mul];rfl,by decide⟩
 · rw [(dt.1 hq).2];exact (qD.zero 1).mono (by omega)
theorem sz.row (h:sz x s):sz (n:=n + 1) (x,zeroE n) s:=by
 obtain ⟨D,M,h1,h2,h3,h4⟩:=h;exact ⟨D,M,h1,h2,h3,eD.pair h4 ((eD.zero n D).mono (av _))⟩
theorem sz.pad {k:Nat} {x:El k} {s:Nat} (h:sz x s):∀ {n:Nat},k≤n→sz (jU n (flat x)) s
 | 0,hk=>by
  obtain rfl:k = 0:=by omega
  rw [jC];exact h
 | n + 1,hk=>by
  rcases bj k (n + 1) with h1 | h1
  · rw [wJ (by rw [flat_length];exact bp (by omega) (by omega))];exact (sz.pad h (by omega)).row
  · obtain rfl:k = n + 1:=by omega
    rw [jC];exact h
theorem H6 {E:Xt} {u:Tw k} {r:El k} (h:i≤k):E.steps ((aA (n:=k + 1) (u,r)).take i) = E.steps ((aA u).take i):=by
 have e:aA (n:=k + 1) (u,r) = aA u ++ [flat r]:=rfl;rw [e,bm (by rw [aj];exact h)]
theorem adF {N:Nat} {F:Tw N} (hF:dW F) (hN:N≤7) {N':Nat} (hNN:N≤N') {n0:Nat} {t0:Tw n0} (h0:dW t0) {σ0:List Nat} (p0:PT t0 σ0) (o0:okS σ0 = true) {τ0:Nat→El N} (hτ0:Lies F τ0 t0) :
 ∀ {k:Nat} {u:Tw k} {ρ:Nat→El N} {υ:List Nat} {K:List Nat→Nat→Bool},k≤8→Lies F ρ u→PT u υ→DW N' σ0 υ K = true →
  (∀ i,i < k→∃ q:El i,(aA u)[i]? = some (flat q)∧∃ σ s r,EP (Xt.steps ⟨n0,t0,[]⟩ ((aA u).take i)) i q σ s r) ∧
  ∃ σ r,K σ r = true∧PT (dV t0 u).T σ∧okS σ = true∧∀ i,i < k→sz ((dV t0 u).ρ i) r
 | 0,_,ρ,υ,K,_,_,hp,hk=>by
  have hp:υ = []:=hp;subst hp;exact ⟨fun i hi=>absurd hi (by omega),σ0,0,hk,p0,o0,fun i hi=>absurd hi (by omega)⟩
 | k + 1,(u,q),ρ,[],K,_,_,hp,_=>hp.elim
 | k + 1,(u,q),ρ,s :: υ,K,h8,hL,hp,hk=>by
  obtain ⟨i1,σ,r,i2,i3,i4,i5⟩:=adF hF hN hNN h0 p0 o0 hτ0 (by omega) hL.1 hp.2 (show DW N' σ0 υ _ = true from hk);have hlen:=hp.2.D9;rw [hlen] at i2;simp only [a8,szB,decide_eq_true_iff,fL] at i2;obtain ⟨⟨⟨⟨⟨b1,b2⟩,b3⟩,b4⟩,k1⟩,k2⟩:=i2;obtain ⟨g1,⟨τ,g2,_,g3⟩,g4⟩:=qZ hF h0 hτ0 hL.1;obtain ⟨f1,f2⟩:=acp hF h0 hτ0 hL;have hR:=Aq t0 u;have hst:∀ i,i≤k→Xt.steps ⟨n0,t0,[]⟩ ((aA (n:=k + 1) (u,q)).take i) = Xt.steps ⟨n0,t0,[]⟩ ((aA u).take i):=fun i hi=>H6 hi
  have hfull:Xt.steps ⟨n0,t0,[]⟩ ((aA (n:=k + 1) (u,q)).take k) = dV t0 u:=by
   rw [hst k (bk k),aL (by rw [aj];exact bk _)];rfl
  have e:aA (n:=k + 1) (u,q) = aA u ++ [flat q]:=rfl;obtain ⟨_,_,_,hsb⟩:=qg i4;have hstep:EP (dV t0 u) k q σ s r:=⟨hR,by omega,by omega,Kq (by omega) i3 g1.red i4,hp.1,fun j hj=>i5 j hj,g1.rows,b1,aM WU b4,b2,b3,b4,hsb,by rw [f1];decide⟩;refine ⟨fun i hi=>?_,?_⟩
  · rcases bj i k with h1 | h1
    · obtain ⟨qi,e1,e2⟩:=i1 i h1;exact ⟨qi,by rw [e,bB (by rw [aj];exact h1)];exact e1,by rw [hst i (by omega)];exact e2⟩
    · obtain rfl:i = k:=by omega
      exact ⟨q,by rw [e,ar (by rw [aj];exact bk _),aj,f6];rfl,σ,s,r,by rw [hfull];exact hstep⟩
  ·
   have him:sz (aO (dV t0 u).T (dV t0 u).ρ q) (yK r (bD σ) k s):=sz.img i3 (fun i hi=>i5 i hi) hp.1;have hok2:=Xt.step_ok hF g1 hR g2 g3 g4 hL;have hsem:=qZ hF h0 hτ0 hL;have hlt:=(hsem.2.1.choose_spec.1).le hF hsem.1.red;rw [IM] at hlt ⊢;have ha:aO (dV t0 u).T (dV t0 u).ρ (jU (dV t0 u).R.length (flat q)) = aO (dV t0 u).T (dV t0 u).ρ q:=by
    have:∀ m (hm:m = k),aO (dV t0 u).T (dV t0 u).ρ (jU m (flat q)) = aO (dV t0 u).T (dV t0 u).ρ q:=fun m hm=>by subst hm;rw [jC]
    exact this _ hR
   have hrow:=g1.row;generalize dV t0 u = E at *;cases er:wL E.T (aO E.T E.ρ q) with
   | some w =>
    rw [Xt.step_some ha er];obtain ⟨w1,w2⟩:=oW er;have hw:sz w (lV σ (yK r (bD σ) k s)):=Dz i3 g1.red (by rw [w2];exact him);refine ⟨σ,_,k1,i3,i4,fun i hi=>?_⟩;rcases bj i k with h1 | h1
    · have:Xt.ρ ⟨E.n,E.T,E.R ++ [flat w]⟩ i = E.ρ i:=by unfold Xt.ρ;simp only [AP E.R (flat w) [] i (by omega)]
      rw [this];exact (i5 i h1).mono (cg ..)
    · have:Xt.ρ ⟨E.n,E.T,E.R ++ [flat w]⟩ i = w:=by
       unfold Xt.ρ;rw [show i = E.R.length by omega];simp only [xG];exact jC w
      rw [this];exact hw.mono (cQ ..)
   | none =>
    rw [Xt.step_none ha er] at hlt ⊢;have hnl:¬ N'≤σ.length:=fun hle=>by
     have:=i3.D9;simp only at hlt;omega
    refine ⟨_ :: σ,_,k2.resolve_left hnl,⟨him,i3⟩,?_,fun i hi=>?_⟩
    · simp only [okS,a8,decide_eq_true_iff];exact ⟨⟨b4,b3⟩,i4⟩
    · rcases bj i k with h1 | h1
      · have:Xt.ρ ⟨E.n + 1,(E.T,aO E.T E.ρ q),E.R ++ [flat (gu E.n)]⟩ i = (E.ρ i,zeroE E.n):=by
         unfold Xt.ρ;simp only [AP E.R (flat (gu E.n)) [] i (by omega)];exact wJ (hrow i)
        rw [this];exact ((i5 i h1).row).mono (cg ..)
      · have:Xt.ρ ⟨E.n + 1,(E.T,aO E.T E.ρ q),E.R ++ [flat (gu E.n)]⟩ i = gu E.n:=by
         unfold Xt.ρ;rw [show i = E.R.length by omega];simp only [xG];exact jC (gu E.n)
        rw [this];exact (sz.root E.n).mono (cQ ..)
theorem ZE {N:Nat} {F:Tw N} (hF:dW F) (hN:N≤7) {N':Nat} (hNN:N≤N') {n0:Nat} {t0:Tw n0} (h0:dW t0) {σ0:List Nat} (p0:PT t0 σ0) (o0:okS σ0 = true) {τ0:Nat→El N} (hτ0:Lies F τ0 t0) {u:Tw k} {ρ:Nat→El N} {υ:List Nat} {K:List Nat→Nat→Bool} (h8:k≤8) (hL:Lies F ρ u) (hp:PT u υ) (hk:DW N' σ0 υ K = true) :
 (∃ st:Nat→Xt,st 0 = ⟨n0,t0,[]⟩∧st k = dV t0 u∧∀ i,i < k→∃ q:El i,(aA u)[i]? = some (flat q)∧st (i + 1) = (st i).step (flat q)∧∃ σ s r,EP (st i) i q σ s r) ∧
 ∃ σ r,K σ r = true∧PT (dV t0 u).T σ∧okS σ = true∧∀ i,i < k→sz ((dV t0 u).ρ i) r:=by
 obtain ⟨h1,h2⟩:=adF hF hN hNN h0 p0 o0 hτ0 h8 hL hp hk;refine ⟨⟨fun i=>Xt.steps ⟨n0,t0,[]⟩ ((aA u).take i),rfl,?_,fun i hi=>?_⟩,h2⟩
 · show Xt.steps _ ((aA u).take k) = _;rw [aL (by rw [aj];exact bk _)];rfl
 · obtain ⟨q,g1,g2⟩:=h1 i hi;exact ⟨q,g1,Xt.PD _ g1,g2⟩
structure kW (a:Nm) (σ:List Nat) (s:Nat):Prop where
 pt:PT a.t σ
 ok:okS σ = true
 sx:sz a.x s
 sb:s≤BB
theorem Ob:∀ {n:Nat} (t:Tw n),∀ l∈aA t,l.length≤2 ^ n
 | 0,_,l,hl=>by cases hl
 | n + 1,(t,r),l,hl=>by
  have hp:2 ^ n≤2 ^ (n + 1):=bp (by omega) (by omega);rcases ef.1 (show l∈aA t ++ [flat r] from hl) with h | h
  · exact aM (Ob t l h) hp
  · rw [aR.1 h,flat_length];exact hp
theorem uD (h8:n≤8) (hp:PT t σ) (ho:okS σ = true):BF (aA t):=by
 have h2:=jK (i:=n) (by omega);refine ⟨by rw [aj];omega,fun l hl=>⟨hp.bound (qg ho).1 l hl,aM (Ob t l hl) (by omega)⟩⟩
theorem kW.rx {a:Nm} (h:kW a σ s):ny a.x:=h.sx.rb h.sb
theorem ql (t:List (List Rat)):fU t t = true:=iq.2 ⟨[],(cV _).symm⟩
theorem sD (t:List (List Rat)):fU t [] = true:=iq.2 ⟨t,rfl⟩
theorem xH {t:List (List Rat)} (h:fU t u = true):u.length≤t.length:=by obtain ⟨l,rfl⟩:=iq.1 h;simp
theorem VI (h:fU [] u = true):u = []:=by
 have:=xH h;exact bc (by simpa using this)
theorem UT {C a b:List (List Rat)} (h1:fU C a = true) (h2:fU C b = true):fU a b = true∨fU b a = true:=by
 obtain ⟨l,rfl⟩:=iq.1 h1;obtain ⟨l',e⟩:=iq.1 h2;rcases Nat.le_total b.length a.length with h | h
 · left;refine iq.2 ⟨a.drop b.length,?_⟩;have:=congrArg (fg b.length) e;rw [bm h,fR] at this
   conv=>lhs;rw [← dc b.length a,this]
 · right;refine iq.2 ⟨b.drop a.length,?_⟩;have:=congrArg (fg a.length) e;rw [fR,bm h] at this
   conv=>lhs;rw [← dc a.length b,← this]
def ER (N:Nat) (g:Bool) (σa:List Nat) (sa:Nat) (σb:List Nat) (sb:Nat) (K:List Nat→Nat→Nat→Bool):Bool :=
 (decide (σa.length < σb.length) || K σa sa sb) && (decide (σb.length < σa.length) || K σb sa sb) &&
 (!g || decide (σa = []) || decide (σb = []) || DW N σa σb fun σ _=>DW σ.length σ σb fun σ2 r2=>decide (yK r2 (bD σ2) σb.length sb + bD σ2≤BB) && K σ sa (yK r2 (bD σ2) σb.length sb))
theorem afg {m:Nat} {u:Tw m} (h:aA t = aA u):bV t = bV u:=by unfold bV;rw [h]
theorem second {N:Nat} {C:Tw N} (hN:N≤7) (hC:dW C) (hp:PT C σ) (ho:okS σ = true) {σb:List Nat} {sb:Nat} (h8:b.n≤7) (nb:kW b σb sb) {ρ:Nat→El N} (hb:Lies C ρ b.t) {K:Nat→Bool} (hk:DW σ.length σ σb (fun σ2 r2=>decide (yK r2 (bD σ2) σb.length sb + bD σ2≤BB) && K (yK r2 (bD σ2) σb.length sb)) = true) :
 AC aD true 76 [bV C,bV b.t] (.bT [.agg [bV (dV C b.t).T,kV (dV C b.t).R],vI 0]) ∧
 AC aD true 77 [.agg [bV (dV C b.t).T,kV (dV C b.t).R],bF b.x] (.grow 4 ((flat (aO (dV C b.t).T (dV C b.t).ρ b.x)).map af)) ∧
 AC aD true 178 [bV C,bV b.t] (.bT [bV (dV C b.t).T,kV (dV C b.t).R,vI 0]) ∧
 AC aD true 180 [bV C,kV (dV C b.t).R,bF b.x] (.grow 4 ((flat (aO (dV C b.t).T (dV C b.t).ρ b.x)).map af)) ∧
 ∃ s,K s = true∧s≤BB∧sz (aO (dV C b.t).T (dV C b.t).ρ b.x) s:=by
 have hlen:=hp.D9;obtain ⟨⟨st,e0,ek,hs⟩,σ2,r2,k1,k2,k3,k4⟩:=ZE (F:=C) hC hN (N':=σ.length) (by omega) hC hp ho (Lies.self hC).1 (by omega) hb nb.pt hk;obtain ⟨x1,_,x3⟩:=qZ hC hC (Lies.self hC).1 hb;obtain ⟨s1,s2⟩:=FM hC hb;have h1:=acZ e0 (by omega) hs;have h2:=Wy e0 (by omega) hs;rw [ek] at h1 h2;simp only [a8,decide_eq_true_iff] at k1;have hlb:=nb.pt.D9;rw [hlb] at k1;have hx:sz (aO (dV C b.t).T (dV C b.t).ρ b.x) (yK r2 (bD σ2) b.n sb):=sz.img k2 (fun i hi=>k4 i hi) nb.sx;have hR:=Aq C b.t;have hat:∀ i,i < b.n→∃ w,(dV C b.t).R[i]? = some w∧w≠[]∧w.length≤2 ^ (dV C b.t).n∧mQ w (dV C b.t).n = flat ((dV C b.t).ρ i):=fun i hi=>Xt.P5 x1.rows (by omega)
 have hn8:(dV C b.t).n≤8:=by omega
 have hk2:=(qg k3).1;refine ⟨h1,?_,h2,?_,_,k1.2,by have:=k1.1;omega,hx⟩
 · exact af2 hn8 k2 hk2 (by omega) hat (fun i hi=>k4 i hi) nb.sx k1.1
 · rw [show bV C = bV (dV C b.t).T from afg s1.symm];exact XZ hn8 k2 hk2 (by omega) hat (fun i hi=>k4 i hi) nb.sx k1.1
noncomputable def tsJ (a b:Nm):Nat→List (List Rat)
 | 0=>[]
 | 1=>aA a.t
 | _=>aA (fM a b).2
theorem FN {N:Nat} {F:Tw N} (hF:dW F) (hN:N≤7) {N':Nat} (hNN:N≤N') {a:Nm} {v w:El N} (ha:Val F a v) (hb:Val F b w) {σa σb:List Nat} {sa sb:Nat} (na:kW a σa sa) (nb:kW b σb sb) {K:List Nat→Nat→Nat→Bool} {g:Bool} (hgb:g = false→fU (aA a.t) (aA b.t) = true∨fU (aA b.t) (aA a.t) = true) (hk:ER N' g σa sa σb sb K = true) :
 AC aD true 27 [.list 2 [aV a,aV b]] (.bT [.list 2 [fC (aA (bz a b).T) (flat (bz a b).x),fC (aA (bz a b).T) (flat (bz a b).y)],vI 0]) ∧
 AC aD true 124 [.list 2 [aV a,aV b]] (.bT [.list 2 [fC (aA (bz a b).T) (flat (bz a b).x),fC (aA (bz a b).T) (flat (bz a b).y)],vI 0]) ∧
 ∃ σ sx sy,K σ sx sy = true∧PT (bz a b).T σ∧okS σ = true∧sz (bz a b).x sx∧sz (bz a b).y sy∧sx≤BB∧sy≤BB:=by
 have an:=ha.le hF;have bn:=hb.le hF;obtain ⟨ra,α,la,_⟩:=ha;obtain ⟨rb,β,lb,_⟩:=hb;obtain ⟨c1,⟨τ,c2⟩,c3,⟨ρ,c4⟩⟩:=KH hF ra rb la lb;have hCn:=c2.le hF c1;have hla:=na.pt.D9;have hlb:=nb.pt.D9;have rTa:=uD (by omega) na.pt na.ok;have rTb:=uD (by omega) nb.pt nb.ok;simp only [ER,a8,fL,decide_eq_true_iff] at hk;obtain ⟨⟨k1,k2⟩,k3⟩:=hk;have haC:a.n≤(fM a b).1:=by have:=xH c3;rwa [aj,aj] at this
 have hx0:flat (bz a b).x = mQ (flat a.x) (fM a b).1:=qM (by rw [flat_length];exact bp (by omega) haC);have hsx:sz (bz a b).x sa:=na.sx.pad haC
 -- the first pass,and what is known of the common tower
 have key:∃ σ,PT (fM a b).2 σ∧okS σ = true∧XY (aA a.t) (aA (fM a b).2) b∧Pq (aA a.t) (aA (fM a b).2) b ∧
  ((fU (aA (fM a b).2) (aA b.t) = true∧K σ sa sb = true)∨(fU (aA (fM a b).2) (aA b.t) = false∧DW σ.length σ σb (fun σ2 r2=>decide (yK r2 (bD σ2) σb.length sb + bD σ2≤BB) && K σ sa (yK r2 (bD σ2) σb.length sb)) = true)):=by
  have hg:∀ {c:Bool},c = false→¬ c = true:=fun h=>by rw [h];exact bL
  cases hab:fU (aA a.t) (aA b.t) with
  | true =>
   have hC:fM a b = ⟨a.n,a.t⟩:=if_pos hab;have hle:=xH hab;rw [aj,aj] at hle;rw [hC];refine ⟨σa,na.pt,na.ok,.inl ⟨hab,rfl⟩,.inr (.inl ⟨?_,hab,rfl⟩),.inl ⟨hab,k1.resolve_left (by omega)⟩⟩;rw [decide_eq_false (by rw [aj];omega)];rfl
  | false =>
   have hnl:¬ b.n≤0:=fun h=>by
    have:aA b.t = []:=bc (by rw [aj];omega);rw [this,sD] at hab;cases hab
   cases hba:fU (aA b.t) (aA a.t) with
   | true =>
    have hC:fM a b = ⟨b.n,b.t⟩:=(if_neg (hg hab)).trans (if_pos hba);have hle:=xH hba;rw [aj,aj] at hle;have hlt:a.n < b.n:=by
     rcases bj a.n b.n with h | h
     · exact h
     · exfalso;obtain ⟨l,e⟩:=iq.1 hba;have hll:=congrArg d8 e;rw [eL,aj,aj] at hll;have:l = []:=bc (by omega);rw [this,cV] at e;rw [e,ql] at hab;cases hab
    rw [hC];refine ⟨σb,nb.pt,nb.ok,.inr (.inl ⟨hab,hba,rfl⟩),.inl ⟨?_,rfl⟩,.inl ⟨ql _,k2.resolve_left (by omega)⟩⟩;rw [decide_eq_true (by rw [aj];omega),hba];rfl
   | false =>
    have hC:fM a b = ⟨(dV a.t b.t).n,(dV a.t b.t).T⟩:=(if_neg (hg hab)).trans (if_neg (hg hba));have hng:¬ (!g) = true:=fun e=>by
     have eg:g = false:=by simpa using e
     rcases hgb eg with h | h
     · rw [hab] at h;cases h
     · rw [hba] at h;cases h
    have hna:¬ σa = []:=fun e=>by
     have:aA a.t = []:=bc (by rw [aj,← hla,e];rfl);rw [this,sD] at hba;cases hba
    have hnb:¬ σb = []:=fun e=>by
     have:aA b.t = []:=bc (by rw [aj,← hlb,e];rfl);rw [this,sD] at hab;cases hab
    obtain ⟨⟨st,e0,ek,hs⟩,σ,r,q1,q2,q3,q4⟩:=ZE hF hN hNN ra na.pt na.ok la (by omega) lb nb.pt (k3.resolve_left fun h=>h.elim (fun h=>h.elim hng hna) hnb);have h1:=acZ e0 (by omega) hs;have h2:=Wy e0 (by omega) hs;rw [ek] at h1 h2;have hCb:fU (aA (fM a b).2) (aA b.t) = false:=by
     cases hcb:fU (aA (fM a b).2) (aA b.t) with
     | false=>rfl
     | true =>
      rcases UT c3 hcb with h | h
      · rw [hab] at h;cases h
      · rw [hba] at h;cases h
    rw [hC] at hCb ⊢;refine ⟨σ,q2,q3,.inr (.inr ⟨hab,hba,dV a.t b.t,h1,rfl⟩),.inr (.inr ⟨by rw [hba,Bool.and_false],hab,dV a.t b.t,h2,rfl⟩),.inr ⟨hCb,q1⟩⟩
 obtain ⟨σ,p1,p2,p3,p3',p4⟩:=key;have hRC:=uD (by omega) p1 p2
 -- the second number
 have hy:∃ sy,K σ sa sy = true∧sy≤BB∧sz (bz a b).y sy∧Zk (fM a b).2 b (flat (bz a b).y)∧Uh (fM a b).2 b (flat (bz a b).y):=by
  rcases p4 with ⟨e1,e2⟩ | ⟨e1,e2⟩
  · have hle:=xH e1;rw [aj,aj] at hle;have hJ:(bz a b).y = jU (fM a b).1 (flat b.x):=if_pos e1;have hf:flat (bz a b).y = mQ (flat b.x) (fM a b).1:=by rw [hJ];exact qM (by rw [flat_length];exact bp (by omega) hle)
    exact ⟨sb,e2,nb.sb,by rw [hJ];exact nb.sx.pad hle,.inl ⟨e1,hle,hf⟩,.inl ⟨e1,hle,hf⟩⟩
  · obtain ⟨f1,f2,f3,f4,s,g1,g2,g3⟩:=second (K:=fun s=>K σ sa s) (by omega) c1 p1 p2 (by omega) nb c4 e2;have hJ:(bz a b).y = jU (fM a b).1 (flat (aO (dV (fM a b).2 b.t).T (dV (fM a b).2 b.t).ρ b.x)):=if_neg (by rw [e1];exact bL);obtain ⟨s1,s2⟩:=FM c1 c4;have hf:flat (bz a b).y = flat (aO (dV (fM a b).2 b.t).T (dV (fM a b).2 b.t).ρ b.x):=by
     rw [hJ];show flat (n:=(fM a b).1) (jU (fM a b).1 (flat (aO (dV (fM a b).2 b.t).T (dV (fM a b).2 b.t).ρ b.x))) = _;rw [qM (by rw [flat_length,s2];exact bk _)];unfold mQ;rw [flat_length,show 2 ^ (fM a b).1 - 2 ^ (dV (fM a b).2 b.t).n = 0 from Nat.sub_eq_zero_of_le (f8 (congrArg (2 ^ ·) s2.symm))];simp
    refine ⟨s,g1,g2,by rw [hJ];exact g3.pad (show (dV (fM a b).2 b.t).n≤(fM a b).1 by omega),?_,?_⟩
    · rw [hf];exact .inr ⟨e1,_,f1,f2⟩
    · rw [hf];exact .inr ⟨e1,_,f3,f4⟩
 obtain ⟨sy,y1,y2,y3,y4,y5⟩:=hy;have hcom0:XY [] (aA a.t) a:=by
  cases h:fU [] (aA a.t) with
  | true=>exact .inl ⟨h,VI h⟩
  | false=>exact .inr (.inl ⟨h,sD _,rfl⟩)
 have hrcom0:Pq [] (aA a.t) a:=by
  by_cases h:0 < a.n
  · exact .inl ⟨by rw [decide_eq_true (by simpa using h),sD];rfl,rfl⟩
  · have hnil:aA a.t = []:=bc (by rw [aj];omega);exact .inr (.inl ⟨by rw [decide_eq_false (by simpa using h)];rfl,by rw [hnil];exact sD _,hnil⟩)
 have hnilR:BF []:=⟨by simp,fun l h=>by cases h⟩;have hpb:=jK (i:=(fM a b).1) (by omega);have hxb:um (flat (bz a b).x):=hsx.rb na.sb;have hyb:um (flat (bz a b).y):=y3.rb y2;have hlx:(flat (bz a b).x).length≤1000000:=by rw [flat_length];show 2 ^ (fM a b).1≤_;omega
 have hly:(flat (bz a b).y).length≤1000000:=by rw [flat_length];show 2 ^ (fM a b).1≤_;omega
 have two:∀ (P:Nat→Prop),P 0→P 1→∀ i,i < 2→P i:=fun P h0 h1 i hi=>by
  have:i = 0∨i = 1:=by omega
  rcases this with rfl | rfl <;> assumption
 refine ⟨?_,?_,σ,sa,sy,y1,p1,p2,hsx,y3,na.sb,y2⟩
 · refine adV (C:=(fM a b).2) (by omega) ?_ hRC (two _ ⟨rTa,hxb,hlx,.inl ⟨c3,haC,hx0⟩⟩ ⟨rTb,hyb,hly,y4⟩);exact ail (ts:=tsJ a b) rfl (two _ ⟨hnilR,rTa,hcom0⟩ ⟨rTa,rTb,p3⟩)
 · exact acs (C:=(fM a b).2) (ts:=tsJ a b) rfl rfl (by omega) (two _ ⟨hnilR,hrcom0⟩ ⟨rTa,p3'⟩) hRC (two _ ⟨rTa,.inl ⟨c3,haC,hx0⟩⟩ ⟨rTb,y5⟩)
end Go.Proofs.YtjdakpfhjlhcbaaGreat
