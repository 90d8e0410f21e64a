/-
  Lemmas and contracts for the statement.
-/
import Derived.Test.YtjdakpfhjlhcbaaGreatJ3
import Derived.Lib.QuietBelow
import Derived.Test.YtjdakpfhjlhcbaaGreatJ2
import Derived.Test.YtjdakpfhjlhcbaaGreatJ1
import Derived.Ground.Names8Prog
import Derived.Shelf.Spec.SlicesGrow
namespace Go.Proofs.YtjdakpfhjlhcbaaGreat
set_option linter.all false
set_option maxRecDepth 100000
set_option maxHeartbeats 16000000
open Go.RowKit Go.Shelf Go.Sort
open Go.Proofs.Tryz renaming prog → aD
open Go.Lib renaming hid → aE
open _root_.Array renaming getD_eq_getD_getElem?→gi,size_append→iz
open Bool renaming and_assoc→ke,and_eq_true→fX,false_and→kd,or_eq_false_iff→ic,or_eq_true→jN,true_and→kf
open Go renaming wp_at_succ→bL,wp_at_zero→bE
open Go.Act renaming eval→db,put→dp
open Go.Addr renaming add→ia
open Go.Builtin renaming zeroCells→fh
open Go.Calls renaming mono→aL
open Go.Instr renaming indexAt→kc
open Go.IntKind renaming u32→j6,u64→bm
open Go.IntWalk renaming u64_in→dt
open Go.Region renaming wanted→ef
open Go.Result renaming andThen_ok→ij
open Go.Sem renaming run_bind→gR,run_pure→kj
open Go.Value renaming agg→gD
open Go.World.grownBy renaming refl→gl
open Int renaming divExact_eq_ediv→il,dvd_natAbs→d9,ediv_neg→kt,gcd_comm→ks,lt_or_le→kp,lt_trichotomy→bc,mul_ediv_cancel_left→gH,mul_ne_zero→kb,natAbs_mul→e8,natAbs_natCast→fL,natAbs_neg→d8,natCast_ediv→dj,natCast_emod→f8,natCast_mul→bh,natCast_nonneg→ea,natCast_pow→j9,neg_dvd→gg,neg_ediv_of_dvd→ix,neg_mul_neg→j8,neg_one_mul→j7,ofNat_dvd→ew,one_mul→eZ,sign_eq_neg_one_of_neg→aq,sign_eq_one_of_pos→ao,sign_eq_zero_iff_zero→eo,sign_mul→gT,sub_eq_add_neg→i9,sub_self→gS,tdiv_eq_ediv_of_nonneg→bO,tmod_eq_emod_of_nonneg→de
open List renaming drop_succ_cons→cG,drop_zero→bk,eq_nil_of_length_eq_zero→cJ,findIdx?_eq_none_iff→gC,findIdx?_eq_some_iff_getElem→fN,flatten_append→fg,getD_eq_getElem?_getD→bq,getElem?_append_right→gx,getElem?_eq_getElem→aR,getElem?_map→bR,getElem?_replicate→eC,getElem_mem→fW,length_append→fk,length_cons→eB,length_drop→dx,length_nil→gh,length_take→eA,map_set→kh,mem_map→kg,mem_of_getElem?→ib,mem_singleton→fj,replicate→av,setIfInBounds_toArray→da,set_cons_succ→dz,set_cons_zero→cP,take_add_one→iX,take_length→js,take_of_length_le→gO,take_succ_cons→cF,take_zero→du,zipWith→fR
open Nat renaming add_mul→eW,add_sub_cancel→iS,add_zero→fT,divExact_eq_div→iu,div_add_mod→j5,div_eq_of_lt→jz,div_le_self→bA,div_lt_iff_lt_mul→eT,div_mul_le_self→dk,dvd_mul_right→jn,dvd_trans→gE,eq_zero_or_pos→a6,exists_eq_add_of_le→gM,gcd→aw,gcd_comm→fS,gcd_dvd_left→f6,gcd_dvd_right→cV,gcd_zero_right→fI,le_add_left→j0,le_add_right→jx,le_antisymm→eK,le_div_iff_mul_le→eL,le_of_lt→ko,le_of_lt_succ→jj,le_of_not_lt→fY,le_refl→ar,le_trans→cg,lt_div_mul_add→iN,lt_of_le_of_lt→a8,lt_of_lt_of_le→fw,lt_of_mul_lt_mul_left→eh,lt_or_ge→bB,lt_trans→kn,min_eq_left→gk,mod_eq_of_lt→eE,mod_lt→cQ,mod_pow_succ→ju,mul_add→aM,mul_assoc→cw,mul_comm→bs,mul_div_cancel_left→gL,mul_le_mul→cH,mul_le_mul_left→bj,mul_le_mul_right→dy,mul_left_comm→cj,mul_one→ie,mul_zero→eJ,pow_add→ep,pow_le_pow_right→ck,pow_lt_pow_iff_right→gF,pow_lt_pow_right→dc,pow_mul→eV,pow_pos→bX,pow_succ→bw,sub_le→gA,zero_add→eI,zero_le→bp
open Nat.Coprime renaming mul_left→gr,mul_right→dr
open Option renaming getD_some→ir
open Rat renaming add→ff,divInt→br,divInt_ofNat→jt,maybeNormalize→iB,mul→gP,num_divInt_den→iA,num_eq_zero→gj
attribute [local go_sem ↓] bE bL
theorem xK (W:World) (g j:Nat) (v:Value):W.grownBy (W.setCell ⟨g,j,none⟩ v) (some g) :=
 ⟨rfl,rfl,rfl,by simp [World.setCell],fun k _ hk=>Below.heap_setCell _ _ _ k (fun e=>hk (by rw [e]))⟩
theorem rq {a b c:World} {row:Option Nat} (h:a.grownBy b row) (k:b.grownBy c row):a.grownBy c row :=
 ⟨k.os.trans h.os,k.tape.trans h.tape,k.output.trans h.output,cg h.size k.size,fun j hj hne=>(k.block j (fw hj h.size) hne).trans (h.block j hj hne)⟩
theorem IY {x y:Nat} (hx:x < 4294967296) (hy:y < 4294967296):∃ D:Nat,bm.wrap ((x:Int) - (y:Int)) = (D:Int)∧D / 9223372036854775808≤1∧x + 4294967296 * (D / 9223372036854775808) = D % 4294967296 + y:=by
 refine ⟨(((x:Int) - y) % 18446744073709551616).toNat,?_,?_,?_⟩
 · rw [wrap_u64];omega
 · omega
 · omega
variable {i:Nat}
theorem qU {l:List Nat} {j v:Nat}:(l.set (i + j) v).drop i = (l.drop i).set j v:=by
 rw [List.drop_set,if_neg (by omega)];congr 1;omega
theorem getD_at (l:List Nat) (i j:Nat):(l.drop i).getD j 0 = l.getD (i + j) 0:=jX l i j
theorem VW {A Y dg Xj bo P o x b1 lo hi w:Nat} (hI:A + dg * Y = Xj + bo * P) (h1:x + 4294967296 * b1 = o + lo) (h2:lo + 4294967296 * hi = w * dg + bo) :
 (A + P * o) + dg * (Y + P * w) = (Xj + P * x) + (hi + b1) * (P * 4294967296):=by
 have e1:dg * (P * w) = P * (w * dg):=by rw [cj,bs dg w]
 have e2:(hi + b1) * (P * 4294967296) = P * (4294967296 * hi) + P * (4294967296 * b1):=by
  rw [eW,bs hi,bs b1,cw,cw]
 have e3:P * x + P * (4294967296 * b1) = P * o + P * lo:=by rw [← aM,h1,aM]
 have e4:P * lo + P * (4294967296 * hi) = P * (w * dg) + P * bo:=by rw [← aM,h2,aM]
 rw [aM,e1,e2];have e5:=bs bo P;omega
theorem Wq {w dg bo:Nat} (hw:w < 4294967296) (hd:dg < 4294967296) (hb:bo < 4294967296):w * dg + bo≤18446744069414584320∧(∀ b1,b1≤1→∀ x o,x + 4294967296 * b1 = o + (w * dg + bo) % 4294967296→o < 4294967296→(w * dg + bo) / 4294967296 + b1 < 4294967296):=by
 have h:w * dg≤4294967295 * 4294967295:=cH (by omega) (by omega);refine ⟨by omega,fun b1 hb1 x o h1 h2=>?_⟩;omega
def TZ (w:World) (base gX i N c k:Nat) (X:List Nat) (R:List Nat→Prop) (w':World):Prop :=
 ∃ Z,w.grownBy w' (some gX)∧Own w' base 76 1 (some ⟨gX,0,none⟩) N c (us Z)∧dY Z∧(∀ t,t < i→Z.getD t 0 = X.getD t 0)∧(∀ t,i + (k + 2)≤t→Z.getD t 0 = X.getD t 0)∧R Z
theorem uo (base gX i N c k d dg cc:Nat) (B:Option Addr) (X y:List Nat) (w:World) (hN:N≤4398046511104) (hi:i + (k + 2)≤N) (hX:Own w base 76 1 (some ⟨gX,0,none⟩) N c (us X)) (uX:dY X) (hy:bf w B (k + 1) d y) (hby:∀ ad,B = some ad→ad.block≠gX) (hdg:dg < 4294967296) :
 Calls aD 199 #[.slice (some ⟨gX,i,none⟩) (k + 2) cc,.slice B (k + 1) d,.int .u64 (dg:Int)] w fun e w'=>∃ bo,bo≤1∧e = .returned (.bool (bo == 1)) ∧
  TZ w base gX i N c k X (fun Z=>nv ((Z.drop i).take (k + 2)) + dg * nv y = nv ((X.drop i).take (k + 2)) + bo * 4294967296 ^ (k + 2)) w':=by
 have HX:=aE hX;have UX:=aE uX;have LX:=aE hX.jZ;have HY:=aE hy.1;have UY:=aE hy.2.2;have LY:=aE hy.len;have BY:=aE hby;clear hX uX hy hby
 go_enter Tryz.func199,Tryz.ntmps199
 go_wp2_with fail
 go_loopg [7,15] (k + 1) (fun g bv iv wr=>∃ (j bo:Nat) (Z:List Nat),j≤k + 1∧k + 1 - j≤g∧iv = .int .i64 (j:Int)∧bv = .int .u64 (bo:Int)∧bo < 4294967296∧dY Z∧w.grownBy wr (some gX)∧Own wr base 76 1 (some ⟨gX,0,none⟩) N c (us Z)∧(∀ t,t < i→Z.getD t 0 = X.getD t 0)∧(∀ t,i + j≤t→Z.getD t 0 = X.getD t 0)∧nv ((Z.drop i).take j) + dg * nv (y.take j) = nv ((X.drop i).take j) + bo * 4294967296 ^ j)
 case atStart=>exact ⟨0,0,X,bp _,by omega,rfl,rfl,by omega,UX.out,gl _ _,HX.out,fun _ _=>rfl,fun _ _=>rfl,by simp [nv]⟩
 case round =>
  obtain ⟨j,bo,Z,hj,hg,rfl,rfl,hbo,hz,hgr,ho,hlo,hhi,hv⟩:=hrel;have HO:=aE ho;have HZ:=aE hz;have LZ:=aE ho.jZ;have GR:=aE hgr;have LO:=aE hlo;have HI:=aE hhi;have HV:=aE hv;clear ho hz hgr hlo hhi hv;have hlz:(Z.drop i).length = N - i:=by rw [dx,LZ.out]
  by_cases hjk:j < k + 1
  ·
   obtain ⟨ad,hA,-,cb0⟩:=HY.out.fG hjk;have hne:ad.block≠gX:=BY.out ad hA;subst hA;have cb:=GR.out.cell cb0 (by have h9:(ad.add j).block = ad.block:=(by unfold ia;split <;> rfl);rw [h9];intro e;injection e with e;exact hne e);clear cb0;have cx:=HO.out.gB (j:=i + j) (by omega);have fx:wr.frozen? ⟨gX,i + j,none⟩ = false:=HO.out.frozen (i + j);rw [HI.out (i + j) (ar _)] at cx;have hx:=UX.out.at (i + j);have hw:=UY.out.at j;have ST:Hid (∀ o b1 lo hi',X.getD (i + j) 0 + 4294967296 * b1 = o + lo→lo + 4294967296 * hi' = y.getD j 0 * dg + bo→nv (((Z.set (i + j) o).drop i).take (j + 1)) + dg * nv (y.take (j + 1)) = nv ((X.drop i).take (j + 1)) + (hi' + b1) * 4294967296 ^ (j + 1)):=aE fun o b1 lo hi' h1 h2=>by
    rw [qU,jP (by rw [hlz];omega),bC y,bC (X.drop i),getD_at,bw];exact VW HV.out h1 h2
   generalize X.getD (i + j) 0 = x at *;generalize y.getD j 0 = v at *;obtain ⟨hPb,hcar⟩:=Wq hw hdg hbo;obtain ⟨M,hM⟩:∃ M:Nat,M = v * dg:=⟨_,rfl⟩;have eM:(v:Int) * (dg:Int) = (M:Int):=by rw [hM,bh]
   rw [← hM] at ST hPb hcar;obtain ⟨p,hp⟩:∃ p:Nat,p = M + bo:=⟨_,rfl⟩;have eP:(M:Int) + (bo:Int) = (p:Int):=by omega
   rw [← hp] at ST hPb hcar;obtain ⟨D,eD0,hD1,hD2⟩:=IY (x:=x) (y:=p % 4294967296) hx (by omega);have eD:bm.wrap ((x:Int) - (p:Int) % 4294967296) = (D:Int):=by rw [← eD0];congr 1
   have hD3:(D:Int) / 9223372036854775808≤1:=by omega
   have S1:=aE (ST.out (D % 4294967296) (D / 9223372036854775808) (p % 4294967296) (p / 4294967296) hD2 (by omega));have S2:=aE (hcar _ hD1 x (D % 4294967296) hD2 (by omega));have S3:=HO.out.eH (i + j) (D % 4294967296);have e3:((D % 4294967296:Nat):Int) = (D:Int) % 4294967296:=by omega
   rw [e3] at S3;have S3:=aE S3;have E4:Hid (((p / 4294967296 + D / 9223372036854775808:Nat):Int) = (p:Int) / 4294967296 + (D:Int) / 9223372036854775808):=aE (by omega);have S4:Hid (dY (Z.set (i + j) (D % 4294967296))):=aE (HZ.out.set _ (by omega));have S5:Hid (∀ t,t < i→(Z.set (i + j) (D % 4294967296)).getD t 0 = X.getD t 0):=aE fun t ht=>by rw [aQ (by omega)];exact LO.out t ht
   have S6:Hid (∀ t,i + (j + 1)≤t→(Z.set (i + j) (D % 4294967296)).getD t 0 = X.getD t 0):=aE fun t ht=>by rw [aQ (by omega)];exact HI.out t (by omega)
   have S7:=aE (rq GR.out (xK wr gX (i + j) (.int .u32 ((D:Int) % 4294967296))));have hpi:(p:Int)≤18446744069414584320:=by omega
   clear hM hp ST hcar hPb eD0 hD1 hD2 e3 hlz hne
   go_wp2_with fail
   go_roundg (k + 1 - (j + 1))
   case measure=>omega
   case rel=>exact ⟨j + 1,p / 4294967296 + D / 9223372036854775808,_,by omega,ar _,by go_num,by rw [E4.out],S2.out,S4.out,S7.out,S3.out,S5.out,S6.out,S1.out⟩
  ·
   obtain rfl:j = k + 1:=by omega
   have cx:=HO.out.gB (j:=i + (k + 1)) (by omega);have fx:wr.frozen? ⟨gX,i + (k + 1),none⟩ = false:=HO.out.frozen (i + (k + 1));rw [HI.out (i + (k + 1)) (ar _)] at cx;have hx:=UX.out.at (i + (k + 1));have ST:Hid (∀ o b1,X.getD (i + (k + 1)) 0 + 4294967296 * b1 = o + bo→nv (((Z.set (i + (k + 1)) o).drop i).take (k + 2)) + dg * nv y = nv ((X.drop i).take (k + 2)) + b1 * 4294967296 ^ (k + 2)):=aE fun o b1 h1=>by
    rw [qU,jP (by rw [hlz];omega),bC (X.drop i),getD_at,bw 4294967296 (k + 1)];have h2:=HV.out;rw [gO (l:=y) (by rw [LY.out];exact ar _)] at h2;have e1:4294967296 ^ (k + 1) * X.getD (i + (k + 1)) 0 + 4294967296 ^ (k + 1) * (4294967296 * b1) = 4294967296 ^ (k + 1) * o + 4294967296 ^ (k + 1) * bo:=by rw [← aM,h1,aM]
    have e2:b1 * (4294967296 ^ (k + 1) * 4294967296) = 4294967296 ^ (k + 1) * (4294967296 * b1):=by rw [bs b1,cw]
    have e3:=bs bo (4294967296 ^ (k + 1));omega
   generalize X.getD (i + (k + 1)) 0 = x at *;obtain ⟨D,eD,hD1,hD2⟩:=IY (x:=x) (y:=bo) hx hbo;have S1:=aE (ST.out (D % 4294967296) (D / 9223372036854775808) hD2);have S3:=HO.out.eH (i + (k + 1)) (D % 4294967296);have e3:((D % 4294967296:Nat):Int) = (D:Int) % 4294967296:=by omega
   rw [e3] at S3;have S3:=aE S3;have S4:Hid (dY (Z.set (i + (k + 1)) (D % 4294967296))):=aE (HZ.out.set _ (by omega));have S5:Hid (∀ t,t < i→(Z.set (i + (k + 1)) (D % 4294967296)).getD t 0 = X.getD t 0):=aE fun t ht=>by rw [aQ (by omega)];exact LO.out t ht
   have S6:Hid (∀ t,i + (k + 2)≤t→(Z.set (i + (k + 1)) (D % 4294967296)).getD t 0 = X.getD t 0):=aE fun t ht=>by rw [aQ (by omega)];exact HI.out t (by omega)
   have S7:=aE (rq GR.out (xK wr gX (i + (k + 1)) (.int .u32 ((D:Int) % 4294967296))));have S8:=aE hD1;have e4:(D:Int) / 9223372036854775808 = ((D / 9223372036854775808:Nat):Int):=by omega
   have E5:Hid (∀ b:Nat,((b:Int) == 1) = (b == 1)):=aE fun b=>by
    by_cases h:b = 1
    · subst h;rfl
    · rw [show (b == 1) = false by simp [h],show ((b:Int) == 1) = false by simp;omega]
   generalize D / 9223372036854775808 = b1 at *;clear ST hD1 hD2 e3 hlz
   go_wp2_with fail
   go_ret
   exact ⟨b1,S8.out,by rw [← E5.out b1];rfl,_,S7.out,S3.out,S4.out,S5.out,S6.out,S1.out⟩
theorem wrap_u32 (z:Int):j6.wrap z = z % 4294967296:=by simp [IntKind.wrap,IntKind.bits,IntKind.signed]
theorem wX (base gX i N c k d cc:Nat) (B:Option Addr) (X y:List Nat) (w:World) (hN:N≤4398046511104) (hi:i + (k + 2)≤N) (hX:Own w base 76 1 (some ⟨gX,0,none⟩) N c (us X)) (uX:dY X) (hy:bf w B (k + 1) d y) (hby:∀ ad,B = some ad→ad.block≠gX) :
 Calls aD 200 #[.slice (some ⟨gX,i,none⟩) (k + 2) cc,.slice B (k + 1) d] w fun e w'=>(∃ v,e = .returned v) ∧
  TZ w base gX i N c k X (fun Z=>∃ t,nv ((Z.drop i).take (k + 2)) + t * 4294967296 ^ (k + 2) = nv ((X.drop i).take (k + 2)) + nv y) w':=by
 have HX:=aE hX;have UX:=aE uX;have LX:=aE hX.jZ;have HY:=aE hy.1;have UY:=aE hy.2.2;have LY:=aE hy.len;have BY:=aE hby;clear hX uX hy hby
 go_enter Tryz.func200,Tryz.ntmps200
 go_wp2_with fail
 go_loopg [4,9] (k + 1) (fun g bv iv wr=>∃ (j bo:Nat) (Z:List Nat),j≤k + 1∧k + 1 - j≤g∧iv = .int .i64 (j:Int)∧bv = .int .u64 (bo:Int)∧bo≤1∧dY Z∧w.grownBy wr (some gX)∧Own wr base 76 1 (some ⟨gX,0,none⟩) N c (us Z)∧(∀ t,t < i→Z.getD t 0 = X.getD t 0)∧(∀ t,i + j≤t→Z.getD t 0 = X.getD t 0)∧nv ((Z.drop i).take j) + bo * 4294967296 ^ j = nv ((X.drop i).take j) + nv (y.take j))
 case atStart=>exact ⟨0,0,X,bp _,by omega,rfl,rfl,by omega,UX.out,gl _ _,HX.out,fun _ _=>rfl,fun _ _=>rfl,by simp [nv]⟩
 case round =>
  obtain ⟨j,bo,Z,hj,hg,rfl,rfl,hbo,hz,hgr,ho,hlo,hhi,hv⟩:=hrel;have HO:=aE ho;have HZ:=aE hz;have LZ:=aE ho.jZ;have GR:=aE hgr;have LO:=aE hlo;have HI:=aE hhi;have HV:=aE hv;clear ho hz hgr hlo hhi hv;have hlz:(Z.drop i).length = N - i:=by rw [dx,LZ.out]
  by_cases hjk:j < k + 1
  ·
   obtain ⟨ad,hA,-,cb0⟩:=HY.out.fG hjk;have hne:ad.block≠gX:=BY.out ad hA;subst hA;have cb:=GR.out.cell cb0 (by have h9:(ad.add j).block = ad.block:=(by unfold ia;split <;> rfl);rw [h9];intro e;injection e with e;exact hne e);clear cb0;have cx:=HO.out.gB (j:=i + j) (by omega);have fx:wr.frozen? ⟨gX,i + j,none⟩ = false:=HO.out.frozen (i + j);rw [HI.out (i + j) (ar _)] at cx;have hx:=UX.out.at (i + j);have hw:=UY.out.at j;have ST:Hid (∀ o b1,bo + X.getD (i + j) 0 + y.getD j 0 = o + 4294967296 * b1→nv (((Z.set (i + j) o).drop i).take (j + 1)) + b1 * 4294967296 ^ (j + 1) = nv ((X.drop i).take (j + 1)) + nv (y.take (j + 1))):=aE fun o b1 h1=>by
    rw [qU,jP (by rw [hlz];omega),bC y,bC (X.drop i),getD_at,bw];exact BH HV.out h1
   generalize X.getD (i + j) 0 = x at *;generalize y.getD j 0 = v at *;obtain ⟨p,hp⟩:∃ p:Nat,p = bo + x + v:=⟨_,rfl⟩;have eP:(bo:Int) + ((x:Int) + (v:Int)) = (p:Int):=by omega
   have hpb:p < 8589934592:=by omega
   have S1:=aE (ST.out (p % 4294967296) (p / 4294967296) (by omega));have S3:=HO.out.eH (i + j) (p % 4294967296);have e3:((p % 4294967296:Nat):Int) = (p:Int) % 4294967296:=by omega
   rw [e3] at S3;have S3:=aE S3;have E4:Hid (((p / 4294967296:Nat):Int) = (p:Int) / 4294967296):=aE (by omega);have S4:Hid (dY (Z.set (i + j) (p % 4294967296))):=aE (HZ.out.set _ (by omega));have S5:Hid (∀ t,t < i→(Z.set (i + j) (p % 4294967296)).getD t 0 = X.getD t 0):=aE fun t ht=>by rw [aQ (by omega)];exact LO.out t ht
   have S6:Hid (∀ t,i + (j + 1)≤t→(Z.set (i + j) (p % 4294967296)).getD t 0 = X.getD t 0):=aE fun t ht=>by rw [aQ (by omega)];exact HI.out t (by omega)
   have S7:=aE (rq GR.out (xK wr gX (i + j) (.int .u32 ((p:Int) % 4294967296))));clear hp ST e3 hlz hne
   go_wp2_with fail
   go_roundg (k + 1 - (j + 1))
   case measure=>omega
   case rel=>exact ⟨j + 1,p / 4294967296,_,by omega,ar _,by go_num,by rw [E4.out],by omega,S4.out,S7.out,S3.out,S5.out,S6.out,S1.out⟩
  ·
   obtain rfl:j = k + 1:=by omega
   have cx:=HO.out.gB (j:=i + (k + 1)) (by omega);have fx:wr.frozen? ⟨gX,i + (k + 1),none⟩ = false:=HO.out.frozen (i + (k + 1));rw [HI.out (i + (k + 1)) (ar _)] at cx;have hx:=UX.out.at (i + (k + 1));have ST:Hid (∀ o b1,X.getD (i + (k + 1)) 0 + bo = o + 4294967296 * b1→nv (((Z.set (i + (k + 1)) o).drop i).take (k + 2)) + b1 * 4294967296 ^ (k + 2) = nv ((X.drop i).take (k + 2)) + nv y):=aE fun o b1 h1=>by
    rw [qU,jP (by rw [hlz];omega),bC (X.drop i),getD_at,bw 4294967296 (k + 1)];have h2:=HV.out;rw [gO (l:=y) (by rw [LY.out];exact ar _)] at h2;have e1:4294967296 ^ (k + 1) * X.getD (i + (k + 1)) 0 + 4294967296 ^ (k + 1) * bo = 4294967296 ^ (k + 1) * o + 4294967296 ^ (k + 1) * (4294967296 * b1):=by rw [← aM,h1,aM]
    have e2:b1 * (4294967296 ^ (k + 1) * 4294967296) = 4294967296 ^ (k + 1) * (4294967296 * b1):=by rw [bs b1,cw]
    have e3:=bs bo (4294967296 ^ (k + 1));omega
   generalize X.getD (i + (k + 1)) 0 = x at *;obtain ⟨p,hp⟩:∃ p:Nat,p = (x + bo) % 4294967296:=⟨_,rfl⟩;have eP:j6.wrap ((x:Int) + (bo:Int)) = (p:Int):=by rw [wrap_u32];omega
   have S1:=aE (ST.out p ((x + bo) / 4294967296) (by omega));have S3:=aE (HO.out.eH (i + (k + 1)) p);have S4:Hid (dY (Z.set (i + (k + 1)) p)):=aE (HZ.out.set _ (by omega));have S5:Hid (∀ t,t < i→(Z.set (i + (k + 1)) p).getD t 0 = X.getD t 0):=aE fun t ht=>by rw [aQ (by omega)];exact LO.out t ht
   have S6:Hid (∀ t,i + (k + 2)≤t→(Z.set (i + (k + 1)) p).getD t 0 = X.getD t 0):=aE fun t ht=>by rw [aQ (by omega)];exact HI.out t (by omega)
   have S7:=aE (rq GR.out (xK wr gX (i + (k + 1)) (.int .u32 (p:Int))));clear ST hlz hp
   go_wp2_with fail
   go_end0
   exact ⟨⟨_,rfl⟩,_,S7.out,S3.out,S4.out,S5.out,S6.out,_,S1.out⟩
attribute [local go_sem ↓] bE bL
theorem EY (A:Option Addr) (n c:Nat) (l:List Nat) (w:World) (hn:n≤4398046511104) (h:bf w A n c l) :
 Calls aD 137 #[.slice A n c] w fun e w'=>Below w.heap.size w w'∧∃ B c',e = .returned (.slice B n c')∧bf w' B n c' l:=by
 have HL:=aE h.len;have H1:=aE h.1;have UL:=aE h.2.2;clear h;have hnil:=fun (a:Option Addr) (W:World)=>Lib.run_eql_slice_nil (P:=aD) W 68 76 a n c 0 0 Tryz.underlying68
 cases A with
 | none =>
  have hn0:n = 0:=by
   rcases a6 n with h | h
   · exact h
   · obtain ⟨ad,h',_⟩:=H1.out.2 h;cases h'
  have hl0:l = []:=cJ (by rw [HL.out,hn0]);have HL0:=aE hl0;subst hn0;clear hl0
  go_enter Tryz.func137,Tryz.ntmps137
  go_wp2
  go_ret
  exact ⟨Below.refl _ _,none,0,rfl,by rw [HL0.out];exact ⟨Rd.nil _ _ _,ar _,dY.nil⟩⟩
 | some ad =>
  go_enter Tryz.func137,Tryz.ntmps137
  go_wp2_with (at_builtin;refine ui _ rfl (.tmp 5) (.tmp 6) 68 rfl w.heap.size 76 (.int .u32 0) 1 4 Tryz.underlying68 fJ rfl (by decide) (some ⟨w.heap.size,0,none⟩) 0 0 [] rfl (VN _ _ _) (some ad) n c (us l) rfl (H1.out.keep (bg.alloc _ _)) (JA _) (by omega) (by unfold maxLen;omega) (by simp) ?_;intro B4 c4 w4 ho4 hg4 hb4;have OWN4:=aE ho4;have S3:Hid (Below w.heap.size w w4):=aE (((Below.refl _ _).alloc (ar _) _).grown hg4 (by simp) (fun k hk=>by simp [blk] at hk;omega));clear ho4 hg4 hb4)
  go_ret
  refine ⟨S3.out,B4,c4,rfl,?_⟩;have:=OWN4.out;rw [eI,List.nil_append] at this;exact this.mag UL.out
theorem Z4 (v:Value) (x:Nat) (w:World) (h:MV w v x) (hl:wl x≤4398046511104):Calls aD 137 #[v] w (Gp w fun w' r=>MV w' r x):=by
 obtain ⟨A,n,c,l,rfl,hm,ht,hv⟩:=h;have hn:=ht.lY hm;refine (EY A n c l w (by rw [hn,hv];exact hl) hm).mono ?_;rintro e w' ⟨hb,B,c',rfl,hm'⟩;exact ⟨hb,_,rfl,B,n,c',l,rfl,hm',ht,hv⟩
structure DG (E P Y t3 T nx h:Nat):Prop where
 e0:0 < E
 p:∃ pl,pl < E∧P = pl + E * (t3 + 4294967296 * T)
 y:∃ yl,yl < E∧Y = yl + E * (nx + 4294967296 * h)
 ht3:t3 < 4294967296
 hnx:nx < 4294967296
 hh:h < 4294967296
 h2:2147483648≤h
 lt:P < 4294967296 * Y
section
variable {E P Y t3 T nx h:Nat}
theorem DG.y0 (d:DG E P Y t3 T nx h):0 < Y:=by
 have:=d.lt;omega
theorem DG.qB (d:DG E P Y t3 T nx h):P / Y < 4294967296:=by rw [eT d.y0];exact d.lt
theorem DG.cut (d:DG E P Y t3 T nx h) {g:Nat} (hg:g * Y≤P):g * (nx + 4294967296 * h)≤t3 + 4294967296 * T:=by
 obtain ⟨pl,hp,rfl⟩:=d.p;obtain ⟨yl,hy,rfl⟩:=d.y;have h1:E * (g * (nx + 4294967296 * h)) < E * (t3 + 4294967296 * T + 1):=by
  rw [cj,aM E (t3 + 4294967296 * T) 1];rw [aM g] at hg;omega
 have:=eh h1;omega
theorem DG.top (d:DG E P Y t3 T nx h):T≤h * 4294967296 + 4294967295:=by
 have h1:=d.lt;obtain ⟨pl,hp,rfl⟩:=d.p;obtain ⟨yl,hy,rfl⟩:=d.y;have hn:=d.hnx;have h2:E * (t3 + 4294967296 * T) < E * (4294967296 * (4294967296 * h + 4294967296)):=by
  have e1:4294967296 * (yl + E * (nx + 4294967296 * h))≤4294967296 * (E * (nx + 1 + 4294967296 * h)):=by
   apply bj;rw [show nx + 1 + 4294967296 * h = nx + 4294967296 * h + 1 by omega,aM E _ 1];omega
  have e2:4294967296 * (E * (nx + 1 + 4294967296 * h))≤E * (4294967296 * (4294967296 * h + 4294967296)):=by
   rw [cj];exact bj _ (bj _ (by omega))
  omega
 have:=eh h2;omega
theorem DG.start (d:DG E P Y t3 T nx h):P / Y≤T / h∧T / h≤4294967297∧T % h < 4294967296:=by
 have hh:=d.h2;have hB:=d.hh;have ht:=d.top;have t3:=d.ht3;have h1:=d.cut (dk P Y);refine ⟨?_,?_,?_⟩
 · rw [eL (by omega)];generalize P / Y = g at *;rw [aM] at h1;have e:g * (4294967296 * h) = 4294967296 * (g * h):=cj _ _ _;rw [e] at h1;generalize g * h = z at *;generalize g * nx = y at *;omega
 · have:T / h < 4294967298:=by rw [eT (by omega)];omega
   omega
 · have:=cQ T (show 0 < h by omega);omega
theorem DG.big (d:DG E P Y t3 T nx h) {g r:Nat} (hT:g * h + r = T) (hc:4294967296≤g∨r * 4294967296 + t3 < g * nx):P / Y < g:=by
 rcases hc with hc | hc
 · have:=d.qB;omega
 · rcases bB (P / Y) g with hl | hl
   · exact hl
   · have h1:=d.cut (g:=g) (cg (dy Y hl) (dk P Y));rw [aM,← hT,aM] at h1;rw [show g * (4294967296 * h) = 4294967296 * (g * h) from cj _ _ _] at h1;omega
theorem DG.near (d:DG E P Y t3 T nx h) {g r:Nat} (hT:g * h + r = T) (hg:g≤4294967296) (hc:g * nx≤r * 4294967296 + t3):g≤P / Y + 1:=by
 rcases a6 g with rfl | h0
 · exact bp _
 ·
  have hy:=d.y0;have hh:=d.h2;have hE:=d.e0;have h1:(g - 1) * Y≤P:=by
   have e0:(g - 1) * Y + Y = g * Y:=by rw [← Nat.succ_mul];congr 1;omega
   suffices g * Y≤P + Y by omega
   obtain ⟨pl,hp,rfl⟩:=d.p;obtain ⟨yl,hyl,rfl⟩:=d.y;have e1:g * yl≤E * 4294967296:=by
    have:=cH hg (ko hyl);rwa [bs 4294967296 E] at this
   have e2:g * (E * (nx + 4294967296 * h))≤E * (t3 + 4294967296 * T):=by
    rw [cj];apply bj;rw [aM,← hT,aM];rw [show g * (4294967296 * h) = 4294967296 * (g * h) from cj _ _ _];omega
   have e3:E * 4294967296≤E * (nx + 4294967296 * h):=bj _ (by omega);rw [aM];omega
  have:=(eL hy).2 h1;omega
theorem DG.brk (d:DG E P Y t3 T nx h) {g r:Nat} (hT:g * h + r = T) (hr:4294967296≤r):g < 4294967296∧g≤P / Y + 1:=by
 have ht:=d.top;have hh:=d.h2;have hg:g < 4294967296:=by
  rcases bB g 4294967296 with hl | hl
  · exact hl
  · have:=dy h hl;rw [bs 4294967296 h] at this;omega
 refine ⟨hg,d.near hT (by omega) ?_⟩;have h1:g * nx≤4294967296 * 4294967296:=cH (by omega) (ko d.hnx);omega
end
attribute [local go_sem ↓] bE bL
theorem Qj (A B:Option Addr) (n c m d:Nat) (a b:List Nat) (w:World) (hn:n≤1099511627776) (hm:m≤1099511627776) (ha:bf w A n c a) (hb:bf w B m d b) (ta:jF a) (tb:jF b) (hlt:nv a < nv b) :
 Calls aD 158 #[.slice A n c,.slice B m d] w (oP w n (nv a) (nv b)):=by
 have cC:=nU A B n c m d a b w (by omega) (by omega) ha.1 hb.1;have hc:iO a b < 0:=(nG ha.2.2 hb.2.2 ta tb).2 hlt;have H1:=aE ha;have LT:=aE hlt;have TA:=aE ta;clear ha hb ta tb hlt;generalize iO a b = cv at *
 go_enter Tryz.func158,Tryz.ntmps158
 go_wp2_with fail
 refine aL cC ?_;rintro _ w1 ⟨rfl,hb1⟩;have HB:=aE hb1;have hz1:=hb1.size;have cK:=EY A n c a w1 (by omega) (H1.out.keep (bg.of_below HB.out (ar _)));clear cC hb1
 go_wp2_with fail
 refine aL cK ?_;rintro _ w2 ⟨hb2,B2,c2,rfl,hm2⟩;have HB2:=aE (HB.out.trans (hb2.mono hz1));have M2:=aE hm2;clear cK hb2 hm2
 go_wp2_with fail
 exact bodyPost_ret (v:=.tuple #[.slice none 0 0,.slice B2 n c2]) (by simp [results,Tryz.results158,go_sem]) rfl ⟨HB2.out,none,0,0,[],B2,n,c2,a,rfl,YR _,by omega,M2.out,TA.out,(eE LT.out).symm,jF.nil,(jz LT.out).symm⟩
theorem N9 (A B:Option Addr) (n c m d:Nat) (a b:List Nat) (w:World) (hn:n≤2) (hm:m≤1099511627776) (ha:bf w A n c a) (hb:bf w B m d b) (ta:jF a) (tb:jF b) (h0:0 < m) (hge:nv b≤nv a) :
 Calls aD 158 #[.slice A n c,.slice B m d] w (oP w n (nv a) (nv b)):=by
 have cC:=nU A B n c m d a b w (by omega) (by omega) ha.1 hb.1;have hc:¬ iO a b < 0:=fun h=>by have:=(nG ha.2.2 hb.2.2 ta tb).1 h;omega
 have hmn:m≤2:=by have:=sQ ha.2.2 tb hge;rw [hb.len,ha.len] at this;omega
 have hy0:0 < nv b:=tb.pos (by rw [hb.len];exact h0);have hx2:nv a < 18446744073709551616:=by
  have h1:=mi ha.2.2;have h2:4294967296 ^ a.length≤4294967296 ^ 2:=ck (by omega) (by rw [ha.len];exact hn);omega
 have hy2:nv b < 18446744073709551616:=by omega
 have H1:=aE ha;have H2:=aE hb;have EGW:Hid (∀ args w,(callFunc 139 args).run aD w = .ok (.enter 139 args) w):=aE (enters_of Tryz.func139 (by kernel_rfl) rfl);clear ha hb ta tb hge;generalize iO a b = cv at *;have hn2:(n:Int)≤2:=by omega
 have SA:Hid (∀ W,Rd W 1 A n (us a)→Calls aD 161 #[.slice A n c] W fun e w'=>e = .returned (.int .u64 (nv a:Int))∧Below W.heap.size W w'):=aE fun W h=>wP A n c a W hn H1.out.2.2 h
 have SB:Hid (∀ W,Rd W 1 B m (us b)→Calls aD 161 #[.slice B m d] W fun e w'=>e = .returned (.int .u64 (nv b:Int))∧Below W.heap.size W w'):=aE fun W h=>wP B m d b W hmn H2.out.2.2 h
 have QW:Hid (∀ W,Calls aD 139 #[.int .u64 (((nv a / nv b:Nat)):Int)] W (oH W (nv a / nv b))):=aE fun W=>qA _ W (a8 (bA _ _) hx2)
 have RW:Hid (∀ W,Calls aD 139 #[.int .u64 (((nv a % nv b:Nat)):Int)] W (oH W (nv a % nv b))):=aE fun W=>qA _ W (kn (cQ _ hy0) hy2)
 have RL:Hid (nv a % nv b < nv b):=aE (cQ _ hy0);have QB:nv a / nv b < 18446744073709551616:=a8 (bA _ _) hx2;have RB:nv a % nv b < 18446744073709551616:=kn (cQ _ hy0) hy2;have eQ:(nv a:Int) / (nv b:Int) = ((nv a / nv b:Nat):Int):=(dj _ _).symm;have eR:(nv a:Int) % (nv b:Int) = ((nv a % nv b:Nat):Int):=(f8 _ _).symm;generalize hQ:nv a / nv b = Q at *;generalize hR:nv a % nv b = R at *;have HQ:=aE hQ;have HR:=aE hR;clear hQ hR;generalize nv a = X at *;generalize nv b = Y at *
 go_enter Tryz.func158,Tryz.ntmps158
 go_wp2_with fail
 refine aL cC ?_;rintro _ w1 ⟨rfl,hb1⟩;have HB:=aE hb1;have k1:=bg.of_below hb1 (ar _);have hz1:=hb1.size;clear cC hb1;have cA:=SA.out w1 (H1.out.1.keep k1);clear k1
 go_wp2_with fail
 refine aL cA ?_;rintro _ w2 ⟨rfl,hb2⟩;have HB:=aE (HB.out.trans (hb2.mono hz1));have hz1:=HB.out.size;have cB:=SB.out w2 (H2.out.1.keep (bg.of_below HB.out (ar _)));clear hb2
 go_wp2_with fail
 refine aL cB ?_;rintro _ w3 ⟨rfl,hb3⟩;have HB:=aE (HB.out.trans (hb3.mono hz1));have hz1:=HB.out.size;clear cA cB SA SB hb3;have hyi:(0:Int) < (Y:Int):=by omega
 have hyn:¬ (Y:Int) = 0:=by omega
 have hxi:(X:Int) < 18446744073709551616:=by omega
 have hyN:¬ Y = 0:=by omega
 have hwq:bm.wrap ((X:Int).tdiv (Y:Int)) = (Q:Int):=by rw [IntWalk.u64_quo _ _ ⟨by omega,by omega,by omega⟩,eQ]
 have hwr:(X:Int).tmod (Y:Int) = (R:Int):=by rw [de (by omega),eR]
 have hwr2:bm.wrap ((R:Nat):Int) = (R:Int):=dt _ ⟨by omega,by omega⟩;have hwq2:bm.wrap ((Q:Nat):Int) = (Q:Int):=dt _ ⟨by omega,by omega⟩
 go_upto_region 5 with fail
 go_region_law ((first
  | (refine tJ rfl 139 #[.tmp 36] #[147] rfl EGW.out #[.int .u64 (Q:Int)] (by first | (simp [db,dp];done) | fail) (QW.out _) (fun e w' hp=>by obtain ⟨-,C,n,c,ds,he,-⟩:=hp;exact ⟨_,he⟩) ?_;rintro v5 w5 ⟨hb5,C5,n5,c5,q5,he5,hm5,ht5,hv5,hl5⟩;injection he5 with he5;subst he5;have BQ:=aE hb5;have MQ:=aE hm5;have TQ:=aE ht5;have VQ:=aE hv5;clear hb5 hm5 ht5 hv5)
  | (refine tJ rfl 139 #[.tmp 40] #[147] rfl EGW.out #[.int .u64 (R:Int)] (by first | (simp [db,dp];done) | fail) (RW.out _) (fun e w' hp=>by obtain ⟨-,C,n,c,ds,he,-⟩:=hp;exact ⟨_,he⟩) ?_;rintro v6 w6 ⟨hb6,C6,n6,c6,q6,he6,hm6,ht6,hv6,hl6⟩;injection he6 with he6;subst he6;have BR:=aE hb6;have MR:=aE hm6;have TR:=aE ht6;have VR:=aE hv6;clear hb6 hm6 ht6 hv6)
  | fail))
 all_goals
  have hzq:=BQ.out.size;have hzr:=BR.out.size;have hdd:∀ W:World,W.drew.heap.size = W.heap.size:=fun W=>rfl
  simp only [hdd] at hzq hzr
  go_wp2_with fail
  first
  | exact bodyPost_ret (v:=.tuple #[.slice C5 n5 c5,.slice C6 n6 c6]) (by simp [results,Tryz.results158,go_sem]) rfl ⟨by first | exact (HB.out.trans (BQ.out.mono hz1)).trans (BR.out.mono (by omega)) | exact (HB.out.drew.trans (BQ.out.mono hz1)).trans (BR.out.mono (by omega)),C5,n5,c5,q5,C6,n6,c6,q6,rfl,MQ.out.keep (bg.of_below BR.out (ar _)),by omega,MR.out,TR.out,by rw [VR.out];exact HR.out.symm,TQ.out,by rw [VQ.out];exact HQ.out.symm⟩
  | exact bodyPost_ret (v:=.tuple #[.slice C5 n5 c5,.slice C6 n6 c6]) (by simp [results,Tryz.results158,go_sem]) rfl ⟨by first | exact (HB.out.trans (BR.out.mono hz1)).trans (BQ.out.mono (by omega)) | exact (HB.out.drew.trans (BR.out.mono hz1)).trans (BQ.out.mono (by omega)),C5,n5,c5,q5,C6,n6,c6,q6,rfl,MQ.out,by omega,MR.out.keep (bg.of_below BQ.out (ar _)),TR.out,by rw [VR.out];exact HR.out.symm,TQ.out,by rw [VQ.out];exact HQ.out.symm⟩
theorem Lm (A B:Option Addr) (n c d:Nat) (a b:List Nat) (w:World) (hn2:2 < n) (hn:n≤1099511627776) (ha:bf w A n c a) (hb:bf w B 1 d b) (ta:jF a) (tb:jF b) (hge:nv b≤nv a) :
 Calls aD 158 #[.slice A n c,.slice B 1 d] w (oP w n (nv a) (nv b)):=by
 have cC:=nU A B n c 1 d a b w (by omega) (by omega) ha.1 hb.1;have hc:¬ iO a b < 0:=fun h=>by have:=(nG ha.2.2 hb.2.2 ta tb).1 h;omega
 obtain ⟨x,rfl⟩:∃ x,b = [x]:=List.length_eq_one_iff.1 hb.len;have hx0:0 < x:=by have:=tb.pos (by simp);simpa [nv] using this
 have hxb:x < 4294967296:=hb.2.2 x (List.mem_cons_self ..);have EV:Hid (nv [x] = x):=aE (by simp [nv]);have H1:=aE ha;have BY:Hid (∀ W,bf W A n c a→Calls aD 196 #[.slice A n c,.int .u32 (x:Int)] W (Ut W n (nv a) x)):=aE fun W h=>Wp A n c a x W (by omega) h hx0 hxb
 obtain ⟨ad,rfl,-,c0⟩:=hb.1.fG (by omega:0 < 1);simp only [List.getD_cons_zero] at c0;have h9:ad.add 0 = ad:=by unfold ia;simp
 rw [h9] at c0;clear h9;have hn3:¬ (n:Int)≤2:=by omega
 clear ha hb ta tb hge;generalize iO a [x] = cv at *
 go_enter Tryz.func158,Tryz.ntmps158
 go_wp2_with fail
 refine aL cC ?_;rintro _ w1 ⟨rfl,hb1⟩;have HB:=aE hb1;have k1:=bg.of_below hb1 (ar _);have hz1:=hb1.size;have c1:=k1 _ _ c0;have cB:=BY.out w1 (H1.out.keep k1);clear cC hb1 k1 c0 BY
 go_wp2_with fail
 refine aL cB ?_;rintro _ w2 ⟨hb2,C2,n2,c2,q2,C3,n3,c3,q3,rfl,hm2,tq2,vq2,hl2,hm3,tq3,vq3⟩;have TQ2:=aE tq2;have VQ2:=aE vq2;have TQ3:=aE tq3;have VQ3:=aE vq3;have HB2:=aE (HB.out.trans (hb2.mono hz1));have M2:=aE hm2;have M3:=aE hm3;clear cB hb2 hm2 hm3 HB hz1 tq2 vq2 tq3 vq3
 go_wp2_with fail
 exact bodyPost_ret (v:=.tuple #[.slice C2 n2 c2,.slice C3 n3 c3]) (by simp [results,Tryz.results158,go_sem]) rfl ⟨HB2.out,C2,n2,c2,q2,C3,n3,c3,q3,rfl,M2.out,by omega,M3.out,TQ3.out,by rw [EV.out];exact VQ3.out,TQ2.out,by rw [EV.out];exact VQ2.out⟩
attribute [local go_sem ↓] bE bL
theorem abg {P Y dg bo z1 C:Nat} (hz:z1 + dg * Y = P + bo * C) (h1:z1 < C) (hP:P < C) (hq:P / Y≤dg) (hq2:dg≤P / Y + 1) (hY:0 < Y) (hb:bo≤1) :
 (bo = 0∧dg = P / Y∧z1 = P - P / Y * Y)∨(bo = 1∧dg = P / Y + 1∧∀ z2 t,z2 + t * C = z1 + Y→z2 < C→z2 = P - P / Y * Y):=by
 have hd:=dk P Y;have hl:=iN (a:=P) hY;rcases a6 bo with rfl | hb0
 · left;have h2:dg≤P / Y:=(eL hY).2 (by omega);have h3:dg = P / Y:=eK h2 hq;subst h3;exact ⟨rfl,rfl,by omega⟩
 ·
  right;obtain rfl:bo = 1:=by omega
  have h3:dg = P / Y + 1:=by
   rcases bB (P / Y) dg with h | h
   · exact eK hq2 h
   · have:=dy Y h;omega
  refine ⟨rfl,h3,fun z2 t h4 h5=>?_⟩;rw [h3,eW] at hz;rcases t with _ | _ | t
  · omega
  · omega
  · have:=dy C (show 2≤t + 1 + 1 by omega);omega
theorem ahK {p y:List Nat} {k:Nat} (hp:p.length = k + 1 + 2) (hy:y.length = k + 1 + 1) (up:dY p) (uy:dY y) (hn:2147483648 * 4294967296 ^ (k + 1)≤nv y) (hlt:nv p < 4294967296 * nv y) :
 DG (4294967296 ^ k) (nv p) (nv y) (p.getD k 0) (p.getD (k + 1) 0 + 4294967296 * p.getD (k + 1 + 1) 0) (y.getD k 0) (y.getD (k + 1) 0):=by
 have e1:=YT hp;have e2:=QU hy;have l1:=mi (up.take k);have l2:=mi (uy.take k);have l3:=mi (uy.take (k + 1));rw [eA,gk (by omega)] at l1 l2 l3;rw [bC] at e1;have e2':=e2;rw [bC] at e2;refine ⟨bX (by omega),⟨_,l1,?_⟩,⟨_,l2,?_⟩,up.at _,uy.at _,uy.at _,?_,hlt⟩
 · generalize p.getD (k + 1) 0 + 4294967296 * p.getD (k + 1 + 1) 0 = T at *;rw [e1,bw,aM,cw];omega
 · generalize y.getD (k + 1) 0 = T at *;rw [e2,bw,aM,cw];omega
 · have h1:4294967296 ^ (k + 1) * 2147483648 < 4294967296 ^ (k + 1) * (y.getD (k + 1) 0 + 1):=by
    rw [aM];rw [e2'] at hn;omega
   have:=eh h1;omega
theorem KI {X:List Nat} {n j c:Nat} (u:dY X) (hl:X.length = n + 1) (hj:j + c≤n + 1):nv ((X.drop j).take c) < 4294967296 ^ c:=by
 have h:=mi ((u.drop j).take c);rwa [eA,dx,hl,gk (by omega)] at h
variable {Z:List Nat}
theorem F7 {X y:List Nat} {n j c fd bo:Nat} (hR:nv ((Z.drop j).take c) + fd * nv y = nv ((X.drop j).take c) + bo * 4294967296 ^ c) (uX:dY X) (uZ:dY Z) (lX:X.length = n + 1) (lZ:Z.length = n + 1) (hj:j + c≤n + 1) (PA:nv ((X.drop j).take c) = nv (X.drop j)) (h1:nv (X.drop j) / nv y≤fd) (h2:fd≤nv (X.drop j) / nv y + 1) (y0:0 < nv y) (hb:bo≤1) :
 (bo = 0∧fd = nv (X.drop j) / nv y∧nv ((Z.drop j).take c) = nv (X.drop j) - fd * nv y) ∨
 (bo = 1∧∃ fe,fd = fe + 1∧fe = nv (X.drop j) / nv y∧∀ (Z7:List Nat) (t7:Nat),dY Z7→Z7.length = n + 1→nv ((Z7.drop j).take c) + t7 * 4294967296 ^ c = nv ((Z.drop j).take c) + nv y→nv ((Z7.drop j).take c) = nv (X.drop j) - fe * nv y):=by
 have hP:=KI uX lX hj;have hZ:=KI uZ lZ hj;have hz7:∀ Z7:List Nat,dY Z7→Z7.length = n + 1→nv ((Z7.drop j).take c) < 4294967296 ^ c:=fun Z7 u l=>KI u l hj
 rw [PA] at hP hR;generalize 4294967296 ^ c = C at *;rcases abg hR hZ hP h1 h2 y0 hb with ⟨rfl,hd,hz⟩ | ⟨rfl,hd,hz⟩
 · exact .inl ⟨rfl,hd,by rw [hz,hd]⟩
 · exact .inr ⟨rfl,_,hd,rfl,fun Z7 t7 u l h=>hz _ _ h (hz7 Z7 u l)⟩
variable {N:Nat}
theorem sW {X ZZ Q y:List Nat} {n j c dq m:Nat} (lX:X.length = n + 1) (lZ:ZZ.length = n + 1) (lQ:Q.length = m) (hjm:j < m) (hj:j + c≤n + 1) (h0:0 < c) (uZ:dY ZZ) (LO:∀ t,t < j→ZZ.getD t 0 = X.getD t 0) (HI:∀ t,j + c≤t→ZZ.getD t 0 = X.getD t 0) (PZ:∀ t,j + c≤t→X.getD t 0 = 0) (DV:nv ((ZZ.drop j).take c) = nv (X.drop j) - dq * nv y) (hd:dq = nv (X.drop j) / nv y) (y0:0 < nv y) (Q0:∀ i,i≤j→Q.getD i 0 = 0) (VE:N = nv Q * nv y + nv X) :
 N = nv (Q.set j dq) * nv y + nv ZZ∧nv (ZZ.drop j) < nv y∧(∀ j',j = j' + 1→nv (ZZ.drop j') < 4294967296 * nv y)∧(∀ i,i < j→(Q.set j dq).getD i 0 = 0):=by
 have VS:nv (Q.set j dq) = nv Q + 4294967296 ^ j * dq:=by
  have h1:=pF (l:=Q) (p:=j) (v:=dq) (by omega);rw [Q0 j (ar _),eJ,fT] at h1;exact h1
 have PP:nv (ZZ.drop j) = nv ((ZZ.drop j).take c):=by
  have h1:=gG (ZZ.drop j) c (by rw [dx,lZ];omega);have h2:nv ((ZZ.drop j).drop c) = 0:=zZ fun t=>by rw [jX,jX,HI _ (by omega)];exact PZ _ (by omega)
  rw [h2,eJ,fT] at h1;exact h1
 have hle:dq * nv y≤nv (X.drop j):=by rw [hd];exact dk _ _
 have NV:nv (ZZ.drop j) < nv y:=by
  rw [PP,DV,hd];have:=iN (a:=nv (X.drop j)) y0;have h2:=dk (nv (X.drop j)) (nv y);omega
 exact ⟨Io lX lZ (by omega) LO rfl (PP.trans DV) hle VS VE,NV,fun j' e=>Rn uZ (by rw [lZ];omega) (by rw [← e];exact NV),fun i hi=>by rw [aQ (by omega)];exact Q0 i (by omega)⟩
attribute [local go_sem ↓] bE bL
def MU (w:World) (v:Value) (x N:Nat):Prop:=∃ A n c l,v = .slice A n c∧bf w A n c l∧nv l = x∧n≤N
theorem St.mu (x N:Nat):St fun v w=>MU w v x N:=fun v w w' hb ⟨A,n,c,l,h1,h2,h3,h4⟩=>⟨A,n,c,l,h1,h2.u (kE.of hb (ar _)),h3,h4⟩
variable {w:World}
theorem Qk {w':World} (h:∃ p:Regrown,w' = grow (redrawn w p.d) p.os):kE w w':=kE.of (Wider.below h) (ar _)
theorem aeJ {T h:Nat} (hh:0 < h) (hT:T < 18446744073709551616):bm.wrap ((T:Int).tdiv (h:Int)) = ((T / h:Nat):Int)∧(T:Int).tmod (h:Int) = ((T % h:Nat):Int)∧bm.wrap (((T / h:Nat)):Int) = ((T / h:Nat):Int)∧bm.wrap (((T % h:Nat)):Int) = ((T % h:Nat):Int)∧bm.wrap ((T:Int) / (h:Int)) = ((T / h:Nat):Int):=by
 have h1:T / h < 18446744073709551616:=a8 (bA _ _) hT;have h2:T % h < 18446744073709551616:=a8 (Nat.mod_le _ _) hT;rw [bO (by omega),← dj,de (by omega),← f8];generalize T / h = q at *;generalize T % h = r at *;exact ⟨dt _ ⟨by omega,by omega⟩,rfl,dt _ ⟨by omega,by omega⟩,dt _ ⟨by omega,by omega⟩,dt _ ⟨by omega,by omega⟩⟩
theorem KO (A B:Option Addr) (n c k d:Nat) (a b:List Nat) (w:World) (hn2:2 < n) (hn:n≤1099511627776) (ha:bf w A n c a) (hb:bf w B (k + 1 + 1) d b) (ta:jF a) (tb:jF b) (hge:nv b≤nv a) :
 Calls aD 158 #[.slice A n c,.slice B (k + 1 + 1) d] w (oP w n (nv a) (nv b)):=by
 have hkn:k + 1 + 1≤n:=by have:=sQ ha.2.2 tb hge;rw [hb.len,ha.len] at this;exact this
 have cC:=nU A B n c (k + 1 + 1) d a b w (by omega) (by omega) ha.1 hb.1;have hc:¬ iO a b < 0:=fun h=>by have:=(nG ha.2.2 hb.2.2 ta tb).1 h;omega
 have H1:=aE ha;have H2:=aE hb;have TB:=aE tb;have LA:=aE ha.len;have LB:=aE hb.len;have hn3:¬ (n:Int)≤2:=by omega
 have hk1:((k:Int) + 1 + 1 == 1) = false:=by simp;omega
 have htop:b.getD (k + 1) 0≠0:=by have:=tb.top (by rw [hb.len];omega);rwa [hb.len,iS] at this
 have htb:=hb.2.2.at (k + 1);obtain ⟨ad,hAd,-,cb0⟩:=hb.1.fG (by omega:k + 1 < k + 1 + 1);subst hAd;have TL:=bitLen_spec (b.getD (k + 1) 0);have TT:Hid (0 < bitLen (b.getD (k + 1) 0)∧bitLen (b.getD (k + 1) 0)≤32∧2 ^ (bitLen (b.getD (k + 1) 0) - 1)≤b.getD (k + 1) 0∧b.getD (k + 1) 0 < 2 ^ bitLen (b.getD (k + 1) 0)):=aE ⟨by unfold bitLen;rw [if_neg htop];omega,by
  unfold bitLen;rw [if_neg htop];have:=(Nat.log2_lt htop).2 (show b.getD (k + 1) 0 < 2 ^ 32 from htb);omega,TL.2 htop,TL.1⟩
 have LZ:=aE fun W=>ZW (b.getD (k + 1) 0) W htb
 clear ha hb ta tb hge TL htop;generalize iO a b = cv at *;obtain ⟨s,hs⟩:∃ s:Nat,s = 32 - bitLen (b.getD (k + 1) 0):=⟨_,rfl⟩;have hs32:s < 32:=by have:=TT.out.1;omega
 have HS:=aE hs;rw [← hs] at LZ;clear hs
 go_enter Tryz.func158,Tryz.ntmps158
 go_wp2_with fail
 refine aL cC ?_;rintro _ w1 ⟨rfl,hb1⟩;have HB:=aE hb1;have k1:=bg.of_below hb1 (ar _);have hz1:=hb1.size;have cb1:=k1 _ _ cb0;have cL:=LZ.out w1;have cX:=NQ A n c a s w1 (by omega) hs32 (H1.out.keep k1);clear cC hb1 k1 cb0 LZ;generalize hbt:b.getD (k + 1) 0 = bt at *;have HBT:=aE hbt;clear hbt;have h9:ad.add (k + 1) = ⟨ad.block,ad.off + (k + 1),none⟩:=by unfold ia;simp
 rw [h9] at cb1;clear h9
 go_wp2_with fail
 refine aL cL ?_;rintro _ _ ⟨rfl,rfl⟩;clear cL cb1
 go_wp2_with fail
 refine aL cX ?_;rintro _ w2 ⟨hb2,X,rfl,hx2,ux2,lx2,vx2⟩;have HB2:=aE (HB.out.trans (hb2.mono hz1));have OX2:=aE (hx2.ru hz1);have UX2:=aE ux2;have LX2:=aE lx2;have VX2:=aE vx2;have hz2:=HB2.out.size;have hgx:w1.heap.size < w2.heap.size:=(hx2.lt rfl).2;clear cX hb2 hx2 ux2 lx2 vx2;have cY:=NQ (some ad) (k + 1 + 1) d b s w2 (by omega) hs32 (H2.out.keep (bg.of_below HB2.out (ar _)))
 go_wp2_with fail
 refine aL cY ?_;rintro _ w3 ⟨hb3,Yl,rfl,hy3,uy3,ly3,vy3⟩;have HB3:=aE (HB2.out.trans (hb3.mono hz2));have OX3:=aE (OX2.out.later hb3);obtain ⟨NL,NB⟩:=LC LB.out H2.out.2.2 (by rw [HBT.out];exact TT.out.2.2.1) (by rw [HBT.out];exact TT.out.2.2.2) TT.out.1 TT.out.2.1 HS.out vy3 uy3;have OY3:=aE ((hy3.ru hz2).Dw NL);have UY:=aE (jw uy3);have TY:=aE (dK Yl);have LY:Hid ((fB Yl).length = k + 1 + 1):=aE (by rw [ni,NL]);have VY:Hid (nv (fB Yl) = nv b * 2 ^ s):=aE (by rw [dP,vy3]);have NB2:Hid (2147483648 * 4294967296 ^ (k + 1)≤nv (fB Yl)):=aE (by rw [dP];exact NB);have hz3:=HB3.out.size;have hgy:w2.heap.size < w3.heap.size:=(hy3.lt rfl).2;have cT:=jE _ (k + 1 + 1 + 1) (k + 1 + 1 + 1) Yl w3 (by omega) (hy3.mag uy3);rw [NL] at cT;clear cY hb3 hy3 uy3 ly3 vy3 NL NB HS TT;generalize fB Yl = y at *
 go_wp2_with fail
 refine aL cT ?_;rintro _ _ ⟨rfl,rfl⟩;obtain ⟨N,hN⟩:∃ N,N = nv a * 2 ^ s:=⟨_,rfl⟩;obtain ⟨m,hm⟩:∃ m,n = m + (k + 1):=⟨n - (k + 1),by omega⟩;have VE0:Hid (N = nv (av m 0) * nv y + nv X):=aE (by rw [jo,Nat.zero_mul,eI,VX2.out,hN]);have ZQ0:Hid (∀ i,(av m 0).getD i 0 = 0):=aE fun i=>by rw [bq,eC];split <;> rfl
 have HN:=aE hN;clear hN;have hmk:=run_make_row' (P:=aD) 68 76 (.int .u32 0) 4 Tryz.underlying68 fJ rfl .i64 .i64 m (by omega) (by omega);have OQ0:Hid (Own (w3.alloc (.cells (madeCells #[.int .u32 0] m) 76)) w.heap.size 76 1 (some ⟨w3.heap.size,0,none⟩) m m (us (av m 0))):=aE (iw rfl m (by unfold maxLen;omega) hz3);have ST:Hid (nv (X.drop (n - (k + 1 + 1))) < 4294967296 * nv y):=aE (Md VX2.out H1.out.2.2 LA.out LX2.out hs32 hkn NB2.out);have HB4:Hid (Below w.heap.size w (w3.alloc (.cells (madeCells #[.int .u32 0] m) 76))):=aE (HB3.out.alloc hz3 _);have em:(n:Int) + 1 - ((k:Int) + 1 + 1) = (m:Int):=by omega
 have em2:(n:Int) - ((k:Int) + 1) = (m:Int):=by omega
 have em3:(n:Int) + 1 - ((k:Int) + 2) = (m:Int):=by omega
 have hm1:1≤m:=by omega
 have HM:=aE hm;clear hm;obtain ⟨gX,hgX⟩:∃ g,g = w1.heap.size:=⟨_,rfl⟩;obtain ⟨gY,hgY⟩:∃ g,g = w2.heap.size:=⟨_,rfl⟩;obtain ⟨gQ,hgQ⟩:∃ g,g = w3.heap.size:=⟨_,rfl⟩;have hXY:gX < gY:=by omega
 have hYQ:gY < gQ:=by omega
 clear cT;rw [← hgX] at OX2 OX3 hgx;rw [← hgY] at OY3 hgy;rw [← hgQ] at OQ0;rw [← hgX,← hgY];clear hgx hgy hgX hgY;have HGQ:=aE hgQ;clear hgQ
 go_upto_region 12 with fail
 rw [← HGQ.out];have OX4:=aE (OX3.out.alloc (.cells (madeCells #[.int .u32 0] m) 76));have OY4:=aE (OY3.out.alloc (.cells (madeCells #[.int .u32 0] m) 76));clear HGQ HB3 HB2 OX2 OX3 OY3 HB hmk;generalize w3.alloc (.cells (madeCells #[.int .u32 0] m) 76) = W4 at *;have hz4:=HB4.out.size;have hh:=UY.out.at (k + 1);have hnx:=UY.out.at k;have ch:=OY4.out.gB (j:=k + 1) (by omega);have cn:=OY4.out.gB (j:=k) (by omega);have DGX:Hid (∀ p:List Nat,p.length = k + 1 + 2→dY p→nv p < 4294967296 * nv y→DG (4294967296 ^ k) (nv p) (nv y) (p.getD k 0) (p.getD (k + 1) 0 + 4294967296 * p.getD (k + 1 + 1) 0) (y.getD k 0) (y.getD (k + 1) 0)):=aE fun p h1 h2 h3=>ahK h1 LY.out h2 UY.out NB2.out h3
 generalize y.getD (k + 1) 0 = h at *;generalize y.getD k 0 = nx at *;have g0:=bZ ch;have g1:=bZ cn;clear ch cn;refine dJ (by kernel_rfl) (by kernel_rfl) ?_
 repeat (go_big_quiet_step (fail))
 refine wpQuiet_nil ?_;intro wq hgq;have OX5:=aE (OX4.out.later hgq);have OY5:=aE (OY4.out.later hgq);have OQ5:=aE (OQ0.out.later hgq);have HB5:=aE (HB4.out.trans (hgq.mono hz4));clear hgq g0 g1 OX4 OY4 OQ0 HB4 hz4 hz3 hz2 hz1
 go_wp2_with fail
 go_loopg [15] m (fun g iv wr=>∃ (X Q:List Nat),dY X∧X.length = n + 1∧dY Q∧Own wr w.heap.size 76 1 (some ⟨gX,0,none⟩) (n + 1) (n + 1) (us X)∧Own wr w.heap.size 76 1 (some ⟨gY,0,none⟩) (k + 1 + 1) (k + 1 + 1 + 1) (us y)∧Own wr w.heap.size 76 1 (some ⟨gQ,0,none⟩) m m (us Q)∧Below w.heap.size w wr∧N = nv Q * nv y + nv X∧((∃ j:Nat,g = j + 1∧iv = .int .i64 (j:Int)∧j < m∧nv (X.drop j) < 4294967296 * nv y∧(∀ i,i≤j→Q.getD i 0 = 0))∨(g = 0∧iv = .int .i64 (-1)∧nv X < nv y)))
 case atStart=>exact ⟨X,av m 0,UX2.out,LX2.out,dY.zero m,OX5.out,OY5.out,OQ5.out,HB5.out,VE0.out,.inl ⟨m - 1,by omega,by congr 1;omega,by omega,by have:=ST.out;rwa [show n - (k + 1 + 1) = m - 1 by have:=HM.out;omega] at this,fun i _=>ZQ0.out i⟩⟩
 case round =>
  clear VE0 ZQ0 ST HB5 OX5 OY5 OQ5 UX2 LX2 VX2;obtain ⟨X,Q,ux,lx,uq,hox,hoy,hoq,hb,hve,hj⟩:=hrel;have VE:=aE hve;clear hve
  rename World=>wr
  have HB:=aE hb;have OX:=aE hox;have OY:=aE hoy;have OQ:=aE hoq;have UX:=aE ux;have LX:=aE lx;have UQ:=aE uq;have hzr:=hb.size;clear ux lx uq hox hoy hoq hb;rcases hj with ⟨j,rfl,rfl,hjm,hjv,hq0⟩ | ⟨rfl,rfl,hfin⟩
  ·
   have Q0:=aE hq0;clear hq0;have hjn:j + (k + 1 + 2)≤n + 1:=by have:=HM.out;omega
   obtain ⟨PA,PZ⟩:=Le (m:=k + 1) LY.out UY.out hjv (by rw [LX.out];exact hjn);have PZ:=aE PZ;have PL:((X.drop j).take (k + 1 + 2)).length = k + 1 + 2:=by rw [eA,dx,LX.out];omega
   have D0:=DGX.out ((X.drop j).take (k + 1 + 2)) PL ((UX.out.drop _).take _) (by rw [PA];exact hjv);rw [PA] at D0;simp only [yZ,jX,show k < k + 1 + 2 by omega,show k + 1 < k + 1 + 2 by omega,show k + 1 + 1 < k + 1 + 2 by omega,if_true] at D0;have DD:=aE D0;have PA:=aE PA;have c2:=OX.out.gB (j:=j + (k + 1 + 1)) (by omega);have c1:=OX.out.gB (j:=j + (k + 1)) (by omega);have c0:=OX.out.gB (j:=j + k) (by omega);have u2:=UX.out.at (j + (k + 1 + 1));have u1:=UX.out.at (j + (k + 1));have u0:=UX.out.at (j + k);clear D0 PL;generalize X.getD (j + (k + 1 + 1)) 0 = x2 at *;generalize X.getD (j + (k + 1)) 0 = x1 at *;generalize X.getD (j + k) 0 = x0 at *;have ho:=or_hi u1 u2;obtain ⟨T,hT⟩:∃ T,T = x1 + 4294967296 * x2:=⟨_,rfl⟩;have hTb:T < 18446744073709551616:=by omega
   rw [← hT] at ho DD;clear hT;have g2:=bZ c2;have g1:=bZ c1;have hh2:=DD.out.h2;have hh3:=DD.out.hh;have hs1:((j:Int) + ((k:Int) + 1 + 1)).toNat = j + (k + 1 + 1):=by omega
   have hs2:(j:Int) + ((k:Int) + 1 + 1) - 1 = (j:Int) + ((k:Int) + 1):=by omega
   have hs3:((j:Int) + ((k:Int) + 1)).toNat = j + (k + 1):=by omega
   go_wp2_with fail
   refine dJ (by kernel_rfl) (by kernel_rfl) ?_
   repeat (go_big_quiet_step (fail))
   refine wpQuiet_nil ?_;intro wq hgq;have OX1:=aE (OX.out.later hgq);have OY1:=aE (OY.out.later hgq);have OQ1:=aE (OQ.out.later hgq);have HB1:=aE (HB.out.trans (hgq.mono hzr));have k1:=bg.of_below hgq (ar _);have c0:=k1 _ _ c0;clear hgq g1 g2 OX OY OQ HB hzr c1 c2 k1 ho
   rename World=>wq1
   obtain ⟨hw1,hw2,hw3,hw4,hw5⟩:=aeJ (h:=h) (T:=T) (by omega) hTb;obtain ⟨dq1,dq2,dq3⟩:=DD.out.start;have DQ1:=aE dq1;have hTd:Hid (T / h * h + T % h = T):=aE (by have:=j5 T h;rw [bs] at this;exact this);have hmr:T % h < h:=cQ _ (by omega);generalize T / h = d0 at *;generalize T % h = r0 at *;have hyi:(0:Int) < (h:Int):=by omega
   have hyn:¬ (h:Int) = 0:=by omega
   have hyN:¬ h = 0:=by omega
   have hxi:(T:Int) < 18446744073709551616:=by omega
   clear dq1
   go_wp2_with fail
   refine dJ (by kernel_rfl) (by kernel_rfl) ?_
   repeat (go_big_quiet_step (fail))
   refine wpQuiet_nil ?_;intro wq hgq;have OX2:=aE (OX1.out.later hgq);have OY2:=aE (OY1.out.later hgq);have OQ2:=aE (OQ1.out.later hgq);have hzq:=HB1.out.size;have HB2:=aE (HB1.out.trans (hgq.mono hzq));have k1:=bg.of_below hgq (ar _);have c0:=k1 _ _ c0;clear hgq OX1 OY1 OQ1 HB1 hzq k1 hw1 hw2 hw3 hw4 hw5;generalize wq = w5 at *
   go_wp2_with fail
   clear hyi hyn hyN hxi hs1 hs3 hTb u1 u2
   go_loopg [17,18] d0 (fun g dv rv wr=>∃ (dg r:Nat),dg = g∧dv = .int .u64 (dg:Int)∧rv = .int .u64 (r:Int)∧dg * h + r = T∧nv (X.drop j) / nv y≤dg∧dg≤4294967297∧r < 4294967296∧w5 = wr)
   case atStart=>exact ⟨d0,r0,rfl,rfl,rfl,hTd.out,DQ1.out,dq2,by omega,rfl⟩
   case round =>
    clear hTd DQ1 dq2 dq3 hmr;obtain ⟨dg,r,rfl,rfl,rfl,hTd,hq,hd1,hr,rfl⟩:=hrel;have HT:=aE hTd;have HQ:=aE hq;have ho:=or_hi u0 hr;obtain ⟨V,hV⟩:∃ V,V = x0 + 4294967296 * r:=⟨_,rfl⟩;have hVb:V < 18446744073709551616:=by omega
    rw [← hV] at ho;have HV:=aE hV;have hs2:(j:Int) + ((k:Int) + 1 + 1) - 2 = (j:Int) + (k:Int):=by omega
    have hs3:((j:Int) + (k:Int)).toNat = j + k:=by omega
    clear hTd hq hV;rcases bB dg 4294967296 with hd | hd
    ·
     have hM1:dg * nx≤4294967295 * 4294967295:=cH (by omega) (by omega)
     by_cases hx:V < dg * nx
     ·
      have hbig:=DD.out.big HT.out (.inr (by have:=HV.out;omega));obtain ⟨fd,rfl⟩:∃ fd,dg = fd + 1:=⟨dg - 1,by have:=a8 (bp _) hbig;omega⟩;obtain ⟨M,hM⟩:∃ M,M = (fd + 1) * nx:=⟨_,rfl⟩;have eM:((fd:Int) + 1) * (nx:Int) = (M:Int):=by rw [hM,bh];rfl
      rw [← hM] at hM1 hx;have hT2:fd * h + (r + h) = T:=by have:=HT.out;rw [eW] at this;omega
      have HT2:=aE hT2;have HQ2:Hid (nv (X.drop j) / nv y≤fd):=aE (jj hbig);have i1:¬ (4294967296:Int)≤(fd:Int) + 1:=by omega
      have i2:(V:Int) < (M:Int):=by omega
      clear hM hT2 hbig
      by_cases hb:r + h < 4294967296
      · have i3:¬ (4294967296:Int)≤(r:Int) + (h:Int):=by omega
        go_wp2_with fail
        go_roundg fd
        case measure=>omega
        case rel=>exact ⟨fd,r + h,rfl,rfl,by go_num,HT2.out,HQ2.out,by omega,hb,rfl⟩
      ·
       have i3:(4294967296:Int)≤(r:Int) + (h:Int):=by omega
       have hbr:=DD.out.brk HT2.out (by omega);have hfdB:=hbr.1;have FD1:=HQ2;have FD2:=aE hbr.2;clear hbr;have a1:(0:Int)≤(j:Int):=by omega
       have a2:(j:Int) + ((k:Int) + 1 + 1) + 1≤(n:Int) + 1:=by omega
       have a3:(j:Int)≤(j:Int) + ((k:Int) + 1 + 1) + 1:=by omega
       have a4:((j:Int) + ((k:Int) + 1 + 1) + 1).toNat = j + (k + 1 + 2):=by omega
       have cS:=uo w.heap.size gX j (n + 1) (n + 1) (k + 1) (k + 1 + 1 + 1) fd (n + 1 - j) (some ⟨gY,0,none⟩) X y w5 (by omega) hjn OX2.out UX.out (OY2.out.mag UY.out) (fun ad e=>by injection e with e;subst e;simp;omega) hfdB
       go_upto_region 22 with fail
       clear c0 ho
       go_wp2_with fail
       refine aL cS ?_;rintro _ w6 ⟨bo,hbo,rfl,Z,hgr,hoz,huz,hlo,hhi,hR⟩;have DE:=F7 hR UX.out huz LX.out hoz.jZ hjn PA.out FD1.out FD2.out DD.out.y0 hbo;have OX6:=aE hoz;have UX6:=aE huz;have OY6:=aE (OY2.out.keptBy hgr (.inr (by simp [blk];omega)));have OQ6:=aE (OQ2.out.keptBy hgr (.inr (by simp [blk];omega)));have HB6:=aE (HB2.out.grown hgr HB2.out.size (fun k e=>by injection e with e;subst e;exact (OX2.out.lt rfl).1));have LO6:=aE hlo;have HI6:=aE hhi;clear cS hR hgr hoz huz hlo hhi hbo OX2 OY2 OQ2 HB2;rcases DE with ⟨rfl,hdq,hz⟩ | ⟨rfl,fe,rfl,hdq,hz⟩
       ·
        obtain ⟨f1,f2,f3,f4⟩:=sW LX.out OX6.out.jZ OQ6.out.jZ hjm hjn (by omega) UX6.out LO6.out HI6.out PZ.out hz hdq DD.out.y0 Q0.out VE.out;have FB:Hid (fd < 4294967296):=aE hfdB;clear hdq hz;have hdqB:fd < 4294967296:=FB.out;have VE8:=aE f1;have NV:=aE f2;have NR:=aE f3;have ZQ8:=aE f4;have LZ8:=aE OX6.out.jZ;have cq:=OQ6.out.gB (j:=j) (by omega);have fq:w6.frozen? ⟨gQ,j,none⟩ = false:=OQ6.out.frozen j;have OX8:=aE (OX6.out.kL (p:=⟨gQ,j,none⟩) (.inr (by simp [blk];omega)) (.int .u32 (fd:Int)));have OY8:=aE (OY6.out.kL (p:=⟨gQ,j,none⟩) (.inr (by simp [blk];omega)) (.int .u32 (fd:Int)));have OQ8:=aE (OQ6.out.eH j fd);have UQ8:Hid (dY (Q.set j fd)):=aE (UQ.out.set _ hdqB);have HB8:=aE (HB6.out.setCell (p:=⟨gQ,j,none⟩) (by have:=(OQ6.out.lt rfl).1;exact this) (.int .u32 (fd:Int)));clear f1 f2 f3 f4 OX6 OY6 OQ6 HB6;generalize Q.set j fd = Q8 at *
        by_cases hj0:j = 0
        · subst hj0;have NZ:Hid (nv Z < nv y):=aE (by have:=NV.out;rwa [bk] at this)
          go_wp2_with fail
          go_roundg 0
          case measure=>omega
          case rel=>exact ⟨Z,Q8,UX6.out,LZ8.out,UQ8.out,OX8.out,OY8.out,OQ8.out,HB8.out,VE8.out,.inr ⟨rfl,by first | rfl | (congr 1),NZ.out⟩⟩
        · have NJ:=aE (NR.out (j - 1) (by omega))
          go_wp2_with fail
          go_roundg j
          case measure=>omega
          case rel=>exact ⟨Z,Q8,UX6.out,LZ8.out,UQ8.out,OX8.out,OY8.out,OQ8.out,HB8.out,VE8.out,.inl ⟨j - 1,by omega,by congr 1;omega,by omega,NJ.out,fun i hi=>ZQ8.out i (by omega)⟩⟩
       ·
        have HDQ:=aE hdq;have HZ:=aE hz;clear hdq hz;have cR:=wX w.heap.size gX j (n + 1) (n + 1) (k + 1) (k + 1 + 1 + 1) (n + 1 - j) (some ⟨gY,0,none⟩) Z y w6 (by omega) hjn OX6.out UX6.out (OY6.out.mag UY.out) (fun ad e=>by injection e with e;subst e;simp;omega)
        go_wp2_with fail
        refine aL cR ?_;rintro _ w7 ⟨⟨v7,rfl⟩,Z7,hgr,hoz,huz,hlo,hhi,t7,hR⟩;have DV:=HZ.out Z7 t7 huz hoz.jZ hR;have OX7:=aE hoz;have UX7:=aE huz;have OY7:=aE (OY6.out.keptBy hgr (.inr (by simp [blk];omega)));have OQ7:=aE (OQ6.out.keptBy hgr (.inr (by simp [blk];omega)));have HB7:=aE (HB6.out.grown hgr HB6.out.size (fun k e=>by injection e with e;subst e;exact (OX6.out.lt rfl).1));obtain ⟨f1,f2,f3,f4⟩:=sW LX.out hoz.jZ OQ7.out.jZ hjm hjn (by omega) huz (fun t ht=>(hlo t ht).trans (LO6.out t ht)) (fun t ht=>(hhi t ht).trans (HI6.out t ht)) PZ.out DV HDQ.out DD.out.y0 Q0.out VE.out;have FB:Hid (fe < 4294967296):=aE (by omega);clear cR hR hgr hoz huz hlo hhi DV OX6 UX6 OY6 OQ6 HB6 LO6 HI6 HZ HDQ;have hdqB:fe < 4294967296:=FB.out;have VE8:=aE f1;have NV:=aE f2;have NR:=aE f3;have ZQ8:=aE f4;have LZ8:=aE OX7.out.jZ;have cq:=OQ7.out.gB (j:=j) (by omega);have fq:w7.frozen? ⟨gQ,j,none⟩ = false:=OQ7.out.frozen j;have OX8:=aE (OX7.out.kL (p:=⟨gQ,j,none⟩) (.inr (by simp [blk];omega)) (.int .u32 (fe:Int)));have OY8:=aE (OY7.out.kL (p:=⟨gQ,j,none⟩) (.inr (by simp [blk];omega)) (.int .u32 (fe:Int)));have OQ8:=aE (OQ7.out.eH j fe);have UQ8:Hid (dY (Q.set j fe)):=aE (UQ.out.set _ hdqB);have HB8:=aE (HB7.out.setCell (p:=⟨gQ,j,none⟩) (by have:=(OQ7.out.lt rfl).1;exact this) (.int .u32 (fe:Int)));clear f1 f2 f3 f4 OX7 OY7 OQ7 HB7;generalize Q.set j fe = Q8 at *
        by_cases hj0:j = 0
        · subst hj0;have NZ:Hid (nv Z7 < nv y):=aE (by have:=NV.out;rwa [bk] at this)
          go_wp2_with fail
          go_roundg 0
          case measure=>omega
          case rel=>exact ⟨Z7,Q8,UX7.out,LZ8.out,UQ8.out,OX8.out,OY8.out,OQ8.out,HB8.out,VE8.out,.inr ⟨rfl,by first | rfl | (congr 1),NZ.out⟩⟩
        · have NJ:=aE (NR.out (j - 1) (by omega))
          go_wp2_with fail
          go_roundg j
          case measure=>omega
          case rel=>exact ⟨Z7,Q8,UX7.out,LZ8.out,UQ8.out,OX8.out,OY8.out,OQ8.out,HB8.out,VE8.out,.inl ⟨j - 1,by omega,by congr 1;omega,by omega,NJ.out,fun i hi=>ZQ8.out i (by omega)⟩⟩
     ·
      have hM:Hid (dg * nx≤r * 4294967296 + x0):=aE (by have:=HV.out;omega);have FD1:=HQ;have FD2:=aE (DD.out.near HT.out (by omega) hM.out);have hfdB:=hd;obtain ⟨M,hMM⟩:∃ M,M = dg * nx:=⟨_,rfl⟩;have eM:(dg:Int) * (nx:Int) = (M:Int):=by rw [hMM,bh]
      rw [← hMM] at hM1 hx;have i1:¬ (4294967296:Int)≤(dg:Int):=by omega
      have i2:¬ (V:Int) < (M:Int):=by omega
      clear hMM;generalize hfg:dg = fd at *;clear hfg;have a1:(0:Int)≤(j:Int):=by omega
      have a2:(j:Int) + ((k:Int) + 1 + 1) + 1≤(n:Int) + 1:=by omega
      have a3:(j:Int)≤(j:Int) + ((k:Int) + 1 + 1) + 1:=by omega
      have a4:((j:Int) + ((k:Int) + 1 + 1) + 1).toNat = j + (k + 1 + 2):=by omega
      have cS:=uo w.heap.size gX j (n + 1) (n + 1) (k + 1) (k + 1 + 1 + 1) fd (n + 1 - j) (some ⟨gY,0,none⟩) X y w5 (by omega) hjn OX2.out UX.out (OY2.out.mag UY.out) (fun ad e=>by injection e with e;subst e;simp;omega) hfdB
      go_upto_region 22 with fail
      clear c0 ho
      go_wp2_with fail
      refine aL cS ?_;rintro _ w6 ⟨bo,hbo,rfl,Z,hgr,hoz,huz,hlo,hhi,hR⟩;have DE:=F7 hR UX.out huz LX.out hoz.jZ hjn PA.out FD1.out FD2.out DD.out.y0 hbo;have OX6:=aE hoz;have UX6:=aE huz;have OY6:=aE (OY2.out.keptBy hgr (.inr (by simp [blk];omega)));have OQ6:=aE (OQ2.out.keptBy hgr (.inr (by simp [blk];omega)));have HB6:=aE (HB2.out.grown hgr HB2.out.size (fun k e=>by injection e with e;subst e;exact (OX2.out.lt rfl).1));have LO6:=aE hlo;have HI6:=aE hhi;clear cS hR hgr hoz huz hlo hhi hbo OX2 OY2 OQ2 HB2;rcases DE with ⟨rfl,hdq,hz⟩ | ⟨rfl,fe,rfl,hdq,hz⟩
      ·
       obtain ⟨f1,f2,f3,f4⟩:=sW LX.out OX6.out.jZ OQ6.out.jZ hjm hjn (by omega) UX6.out LO6.out HI6.out PZ.out hz hdq DD.out.y0 Q0.out VE.out;have FB:Hid (fd < 4294967296):=aE hfdB;clear hdq hz;have hdqB:fd < 4294967296:=FB.out;have VE8:=aE f1;have NV:=aE f2;have NR:=aE f3;have ZQ8:=aE f4;have LZ8:=aE OX6.out.jZ;have cq:=OQ6.out.gB (j:=j) (by omega);have fq:w6.frozen? ⟨gQ,j,none⟩ = false:=OQ6.out.frozen j;have OX8:=aE (OX6.out.kL (p:=⟨gQ,j,none⟩) (.inr (by simp [blk];omega)) (.int .u32 (fd:Int)));have OY8:=aE (OY6.out.kL (p:=⟨gQ,j,none⟩) (.inr (by simp [blk];omega)) (.int .u32 (fd:Int)));have OQ8:=aE (OQ6.out.eH j fd);have UQ8:Hid (dY (Q.set j fd)):=aE (UQ.out.set _ hdqB);have HB8:=aE (HB6.out.setCell (p:=⟨gQ,j,none⟩) (by have:=(OQ6.out.lt rfl).1;exact this) (.int .u32 (fd:Int)));clear f1 f2 f3 f4 OX6 OY6 OQ6 HB6;generalize Q.set j fd = Q8 at *
       by_cases hj0:j = 0
       · subst hj0;have NZ:Hid (nv Z < nv y):=aE (by have:=NV.out;rwa [bk] at this)
         go_wp2_with fail
         go_roundg 0
         case measure=>omega
         case rel=>exact ⟨Z,Q8,UX6.out,LZ8.out,UQ8.out,OX8.out,OY8.out,OQ8.out,HB8.out,VE8.out,.inr ⟨rfl,by first | rfl | (congr 1),NZ.out⟩⟩
       · have NJ:=aE (NR.out (j - 1) (by omega))
         go_wp2_with fail
         go_roundg j
         case measure=>omega
         case rel=>exact ⟨Z,Q8,UX6.out,LZ8.out,UQ8.out,OX8.out,OY8.out,OQ8.out,HB8.out,VE8.out,.inl ⟨j - 1,by omega,by congr 1;omega,by omega,NJ.out,fun i hi=>ZQ8.out i (by omega)⟩⟩
      ·
       have HDQ:=aE hdq;have HZ:=aE hz;clear hdq hz;have cR:=wX w.heap.size gX j (n + 1) (n + 1) (k + 1) (k + 1 + 1 + 1) (n + 1 - j) (some ⟨gY,0,none⟩) Z y w6 (by omega) hjn OX6.out UX6.out (OY6.out.mag UY.out) (fun ad e=>by injection e with e;subst e;simp;omega)
       go_wp2_with fail
       refine aL cR ?_;rintro _ w7 ⟨⟨v7,rfl⟩,Z7,hgr,hoz,huz,hlo,hhi,t7,hR⟩;have DV:=HZ.out Z7 t7 huz hoz.jZ hR;have OX7:=aE hoz;have UX7:=aE huz;have OY7:=aE (OY6.out.keptBy hgr (.inr (by simp [blk];omega)));have OQ7:=aE (OQ6.out.keptBy hgr (.inr (by simp [blk];omega)));have HB7:=aE (HB6.out.grown hgr HB6.out.size (fun k e=>by injection e with e;subst e;exact (OX6.out.lt rfl).1));obtain ⟨f1,f2,f3,f4⟩:=sW LX.out hoz.jZ OQ7.out.jZ hjm hjn (by omega) huz (fun t ht=>(hlo t ht).trans (LO6.out t ht)) (fun t ht=>(hhi t ht).trans (HI6.out t ht)) PZ.out DV HDQ.out DD.out.y0 Q0.out VE.out;have FB:Hid (fe < 4294967296):=aE (by omega);clear cR hR hgr hoz huz hlo hhi DV OX6 UX6 OY6 OQ6 HB6 LO6 HI6 HZ HDQ;have hdqB:fe < 4294967296:=FB.out;have VE8:=aE f1;have NV:=aE f2;have NR:=aE f3;have ZQ8:=aE f4;have LZ8:=aE OX7.out.jZ;have cq:=OQ7.out.gB (j:=j) (by omega);have fq:w7.frozen? ⟨gQ,j,none⟩ = false:=OQ7.out.frozen j;have OX8:=aE (OX7.out.kL (p:=⟨gQ,j,none⟩) (.inr (by simp [blk];omega)) (.int .u32 (fe:Int)));have OY8:=aE (OY7.out.kL (p:=⟨gQ,j,none⟩) (.inr (by simp [blk];omega)) (.int .u32 (fe:Int)));have OQ8:=aE (OQ7.out.eH j fe);have UQ8:Hid (dY (Q.set j fe)):=aE (UQ.out.set _ hdqB);have HB8:=aE (HB7.out.setCell (p:=⟨gQ,j,none⟩) (by have:=(OQ7.out.lt rfl).1;exact this) (.int .u32 (fe:Int)));clear f1 f2 f3 f4 OX7 OY7 OQ7 HB7;generalize Q.set j fe = Q8 at *
       by_cases hj0:j = 0
       · subst hj0;have NZ:Hid (nv Z7 < nv y):=aE (by have:=NV.out;rwa [bk] at this)
         go_wp2_with fail
         go_roundg 0
         case measure=>omega
         case rel=>exact ⟨Z7,Q8,UX7.out,LZ8.out,UQ8.out,OX8.out,OY8.out,OQ8.out,HB8.out,VE8.out,.inr ⟨rfl,by first | rfl | (congr 1),NZ.out⟩⟩
       · have NJ:=aE (NR.out (j - 1) (by omega))
         go_wp2_with fail
         go_roundg j
         case measure=>omega
         case rel=>exact ⟨Z7,Q8,UX7.out,LZ8.out,UQ8.out,OX8.out,OY8.out,OQ8.out,HB8.out,VE8.out,.inl ⟨j - 1,by omega,by congr 1;omega,by omega,NJ.out,fun i hi=>ZQ8.out i (by omega)⟩⟩
    ·
     have hbig:=DD.out.big HT.out (.inl hd);obtain ⟨fd,rfl⟩:∃ fd,dg = fd + 1:=⟨dg - 1,by have:=a8 (bp _) hbig;omega⟩;have hT2:fd * h + (r + h) = T:=by have:=HT.out;rw [eW] at this;omega
     have HT2:=aE hT2;have HQ2:Hid (nv (X.drop j) / nv y≤fd):=aE (jj hbig);have i1:(4294967296:Int)≤(fd:Int) + 1:=by omega
     clear hT2 hbig
     by_cases hb:r + h < 4294967296
     · have i3:¬ (4294967296:Int)≤(r:Int) + (h:Int):=by omega
       go_wp2_with fail
       go_roundg fd
       case measure=>omega
       case rel=>exact ⟨fd,r + h,rfl,rfl,by go_num,HT2.out,HQ2.out,by omega,hb,rfl⟩
     ·
      have i3:(4294967296:Int)≤(r:Int) + (h:Int):=by omega
      have hbr:=DD.out.brk HT2.out (by omega);have hfdB:=hbr.1;have FD1:=HQ2;have FD2:=aE hbr.2;clear hbr;have a1:(0:Int)≤(j:Int):=by omega
      have a2:(j:Int) + ((k:Int) + 1 + 1) + 1≤(n:Int) + 1:=by omega
      have a3:(j:Int)≤(j:Int) + ((k:Int) + 1 + 1) + 1:=by omega
      have a4:((j:Int) + ((k:Int) + 1 + 1) + 1).toNat = j + (k + 1 + 2):=by omega
      have cS:=uo w.heap.size gX j (n + 1) (n + 1) (k + 1) (k + 1 + 1 + 1) fd (n + 1 - j) (some ⟨gY,0,none⟩) X y w5 (by omega) hjn OX2.out UX.out (OY2.out.mag UY.out) (fun ad e=>by injection e with e;subst e;simp;omega) hfdB
      go_upto_region 22 with fail
      clear c0 ho
      go_wp2_with fail
      refine aL cS ?_;rintro _ w6 ⟨bo,hbo,rfl,Z,hgr,hoz,huz,hlo,hhi,hR⟩;have DE:=F7 hR UX.out huz LX.out hoz.jZ hjn PA.out FD1.out FD2.out DD.out.y0 hbo;have OX6:=aE hoz;have UX6:=aE huz;have OY6:=aE (OY2.out.keptBy hgr (.inr (by simp [blk];omega)));have OQ6:=aE (OQ2.out.keptBy hgr (.inr (by simp [blk];omega)));have HB6:=aE (HB2.out.grown hgr HB2.out.size (fun k e=>by injection e with e;subst e;exact (OX2.out.lt rfl).1));have LO6:=aE hlo;have HI6:=aE hhi;clear cS hR hgr hoz huz hlo hhi hbo OX2 OY2 OQ2 HB2;rcases DE with ⟨rfl,hdq,hz⟩ | ⟨rfl,fe,rfl,hdq,hz⟩
      ·
       obtain ⟨f1,f2,f3,f4⟩:=sW LX.out OX6.out.jZ OQ6.out.jZ hjm hjn (by omega) UX6.out LO6.out HI6.out PZ.out hz hdq DD.out.y0 Q0.out VE.out;have FB:Hid (fd < 4294967296):=aE hfdB;clear hdq hz;have hdqB:fd < 4294967296:=FB.out;have VE8:=aE f1;have NV:=aE f2;have NR:=aE f3;have ZQ8:=aE f4;have LZ8:=aE OX6.out.jZ;have cq:=OQ6.out.gB (j:=j) (by omega);have fq:w6.frozen? ⟨gQ,j,none⟩ = false:=OQ6.out.frozen j;have OX8:=aE (OX6.out.kL (p:=⟨gQ,j,none⟩) (.inr (by simp [blk];omega)) (.int .u32 (fd:Int)));have OY8:=aE (OY6.out.kL (p:=⟨gQ,j,none⟩) (.inr (by simp [blk];omega)) (.int .u32 (fd:Int)));have OQ8:=aE (OQ6.out.eH j fd);have UQ8:Hid (dY (Q.set j fd)):=aE (UQ.out.set _ hdqB);have HB8:=aE (HB6.out.setCell (p:=⟨gQ,j,none⟩) (by have:=(OQ6.out.lt rfl).1;exact this) (.int .u32 (fd:Int)));clear f1 f2 f3 f4 OX6 OY6 OQ6 HB6;generalize Q.set j fd = Q8 at *
       by_cases hj0:j = 0
       · subst hj0;have NZ:Hid (nv Z < nv y):=aE (by have:=NV.out;rwa [bk] at this)
         go_wp2_with fail
         go_roundg 0
         case measure=>omega
         case rel=>exact ⟨Z,Q8,UX6.out,LZ8.out,UQ8.out,OX8.out,OY8.out,OQ8.out,HB8.out,VE8.out,.inr ⟨rfl,by first | rfl | (congr 1),NZ.out⟩⟩
       · have NJ:=aE (NR.out (j - 1) (by omega))
         go_wp2_with fail
         go_roundg j
         case measure=>omega
         case rel=>exact ⟨Z,Q8,UX6.out,LZ8.out,UQ8.out,OX8.out,OY8.out,OQ8.out,HB8.out,VE8.out,.inl ⟨j - 1,by omega,by congr 1;omega,by omega,NJ.out,fun i hi=>ZQ8.out i (by omega)⟩⟩
      ·
       have HDQ:=aE hdq;have HZ:=aE hz;clear hdq hz;have cR:=wX w.heap.size gX j (n + 1) (n + 1) (k + 1) (k + 1 + 1 + 1) (n + 1 - j) (some ⟨gY,0,none⟩) Z y w6 (by omega) hjn OX6.out UX6.out (OY6.out.mag UY.out) (fun ad e=>by injection e with e;subst e;simp;omega)
       go_wp2_with fail
       refine aL cR ?_;rintro _ w7 ⟨⟨v7,rfl⟩,Z7,hgr,hoz,huz,hlo,hhi,t7,hR⟩;have DV:=HZ.out Z7 t7 huz hoz.jZ hR;have OX7:=aE hoz;have UX7:=aE huz;have OY7:=aE (OY6.out.keptBy hgr (.inr (by simp [blk];omega)));have OQ7:=aE (OQ6.out.keptBy hgr (.inr (by simp [blk];omega)));have HB7:=aE (HB6.out.grown hgr HB6.out.size (fun k e=>by injection e with e;subst e;exact (OX6.out.lt rfl).1));obtain ⟨f1,f2,f3,f4⟩:=sW LX.out hoz.jZ OQ7.out.jZ hjm hjn (by omega) huz (fun t ht=>(hlo t ht).trans (LO6.out t ht)) (fun t ht=>(hhi t ht).trans (HI6.out t ht)) PZ.out DV HDQ.out DD.out.y0 Q0.out VE.out;have FB:Hid (fe < 4294967296):=aE (by omega);clear cR hR hgr hoz huz hlo hhi DV OX6 UX6 OY6 OQ6 HB6 LO6 HI6 HZ HDQ;have hdqB:fe < 4294967296:=FB.out;have VE8:=aE f1;have NV:=aE f2;have NR:=aE f3;have ZQ8:=aE f4;have LZ8:=aE OX7.out.jZ;have cq:=OQ7.out.gB (j:=j) (by omega);have fq:w7.frozen? ⟨gQ,j,none⟩ = false:=OQ7.out.frozen j;have OX8:=aE (OX7.out.kL (p:=⟨gQ,j,none⟩) (.inr (by simp [blk];omega)) (.int .u32 (fe:Int)));have OY8:=aE (OY7.out.kL (p:=⟨gQ,j,none⟩) (.inr (by simp [blk];omega)) (.int .u32 (fe:Int)));have OQ8:=aE (OQ7.out.eH j fe);have UQ8:Hid (dY (Q.set j fe)):=aE (UQ.out.set _ hdqB);have HB8:=aE (HB7.out.setCell (p:=⟨gQ,j,none⟩) (by have:=(OQ7.out.lt rfl).1;exact this) (.int .u32 (fe:Int)));clear f1 f2 f3 f4 OX7 OY7 OQ7 HB7;generalize Q.set j fe = Q8 at *
       by_cases hj0:j = 0
       · subst hj0;have NZ:Hid (nv Z7 < nv y):=aE (by have:=NV.out;rwa [bk] at this)
         go_wp2_with fail
         go_roundg 0
         case measure=>omega
         case rel=>exact ⟨Z7,Q8,UX7.out,LZ8.out,UQ8.out,OX8.out,OY8.out,OQ8.out,HB8.out,VE8.out,.inr ⟨rfl,by first | rfl | (congr 1),NZ.out⟩⟩
       · have NJ:=aE (NR.out (j - 1) (by omega))
         go_wp2_with fail
         go_roundg j
         case measure=>omega
         case rel=>exact ⟨Z7,Q8,UX7.out,LZ8.out,UQ8.out,OX8.out,OY8.out,OQ8.out,HB8.out,VE8.out,.inl ⟨j - 1,by omega,by congr 1;omega,by omega,NJ.out,fun i hi=>ZQ8.out i (by omega)⟩⟩
  ·
   have NY:=mi UY.out;rw [LY.out] at NY;have hXt:nv (X.take (k + 1 + 1)) = nv X:=by
    have h1:=gG X (k + 1 + 1) (by rw [LX.out];omega);rcases a6 (nv (X.drop (k + 1 + 1))) with h | h
    · rw [h,eJ,fT] at h1;exact h1.symm
    · have:=bj (4294967296 ^ (k + 1 + 1)) h;rw [ie] at this;generalize 4294967296 ^ (k + 1 + 1) = C at *;omega
   have EN:=Nz (a:=nv a) (b:=nv b) (Q:=nv Q) (X:=nv X) (s:=s) (by rw [← HN.out,VE.out,VY.out]) (by rw [← VY.out];exact hfin);have BL:Hid (nv X / 2 ^ s = nv a % nv b):=aE EN.2;have QL:Hid (nv (fB Q) = nv a / nv b):=aE (by rw [dP];exact EN.1);have XT:Hid (nv (fB (X.take (k + 1 + 1))) = nv X):=aE (by rw [dP];exact hXt);have MQ:=aE (OQ.out.mag UQ.out);have MX:Hid (bf wr (some ⟨gX,0,none⟩) (k + 1 + 1) (n + 1) (X.take (k + 1 + 1))):=aE (OX.out.part UX.out (i:=0) (m:=k + 1 + 1) (by omega) (n + 1) (by omega));have TQ:Hid (dO Q≤n + 2):=aE (by have:=iC Q;rw [OQ.out.jZ] at this;omega);have TX:Hid (dO (X.take (k + 1 + 1))≤n + 1):=aE (by have:=iC (X.take (k + 1 + 1));rw [MX.out.len] at this;omega);clear EN hXt NY hfin
   go_upto_region 26 with fail
   refine ag0 11 177 [(169,[],fun v _=>v = .slice (some ⟨gQ,0,none⟩) (dO Q) m),(173,[],fun v _=>v = .slice (some ⟨gX,0,none⟩) (dO (X.take (k + 1 + 1))) (n + 1)),(175,[173],fun v w=>MU w v (nv X / 2 ^ s) (n + 1)),(176,[175],fun v w=>MV w v (nv X / 2 ^ s))] ⟨St.eq _,St.eq _,St.mu _ _,St.mv _,trivial⟩ (by kernel_rfl) rfl (by kernel_rfl) ?_;refine nZ 1 rfl ?_;simp only [cF,du,cG,bk]
   repeat (go_big_quiet_step (fail))
   refine wpQuiet_nil ?_;refine zJ 169 [] rfl rfl 140 _ _ rfl (enters_of Tryz.func140 (by kernel_rfl) rfl) #[.slice (some ⟨gQ,0,none⟩) m m] (by simp [db,dp]) ?_ ?_
   · intro wc hc _;refine (jE _ m m Q wc (by omega) (MQ.out.u (Qk hc))).mono ?_;rintro e w' ⟨rfl,rfl⟩;exact ⟨Below.refl _ _,_,rfl,rfl⟩
   intro v169;simp only [dp,da,dz,cP];have b1:(0:Int)≤(k:Int) + 1 + 1:=by omega
   have b2:(k:Int) + 1 + 1≤(n:Int) + 1:=by omega
   have b3:((k:Int) + 1 + 1).toNat = k + 1 + 1:=by omega
   refine nZ 3 rfl ?_;simp only [cF,du,cG,bk]
   repeat (go_big_quiet_step (fail))
   refine wpQuiet_nil ?_;refine zJ 173 [] rfl rfl 140 _ _ rfl (enters_of Tryz.func140 (by kernel_rfl) rfl) #[.slice (some ⟨gX,0,none⟩) (k + 1 + 1) (n + 1)] (by simp [db,dp]) ?_ ?_
   · intro wc hc _;refine (jE _ (k + 1 + 1) (n + 1) (X.take (k + 1 + 1)) wc (by omega) (MX.out.u (Qk hc))).mono ?_;rintro e w' ⟨rfl,rfl⟩;exact ⟨Below.refl _ _,_,rfl,rfl⟩
   intro v173;simp only [dp,da,dz,cP];refine nZ 1 rfl ?_;simp only [cF,du,cG,bk]
   repeat (go_big_quiet_step (fail))
   refine wpQuiet_nil ?_;refine zJ 175 [173] rfl rfl 201 _ _ rfl (enters_of Tryz.func201 (by kernel_rfl) rfl) #[v173,.int .i64 (s:Int)] (by simp [db,dp]) ?_ ?_
   · intro wc hc hE;have h3:v173 = .slice (some ⟨gX,0,none⟩) (dO (X.take (k + 1 + 1))) (n + 1):=hE 173 (by simp);rw [h3];refine (Oo _ _ _ _ s wc (by have:=TX.out;omega) hs32 (MX.out.trim.u (Qk hc))).mono ?_;rintro e w' ⟨hb5,rfl,ho5,hu5⟩;exact ⟨hb5,_,rfl,_,_,_,_,rfl,ho5.mag hu5,by rw [JZ hs32 (MX.out.trim).2.2,XT.out],TX.out⟩
   intro v175;refine zJ 176 [175] rfl rfl 140 _ _ rfl (enters_of Tryz.func140 (by kernel_rfl) rfl) #[v175] (by simp [db,dp]) ?_ ?_
   · intro wc hc hE;obtain ⟨A5,n5,c5,l5,h5,m5,v5,b5⟩:MU wc v175 (nv X / 2 ^ s) (n + 1):=hE 175 (by simp);subst h5;refine (jE _ _ _ _ wc (by omega) m5).mono ?_;rintro e w' ⟨rfl,rfl⟩;exact ⟨Below.refl _ _,_,rfl,_,_,_,_,rfl,m5.trim,dK _,by rw [dP,v5]⟩
   intro v176;simp only [dp,da,dz,cP];refine nZ 2 rfl ?_;simp only [cF,du,cG,bk]
   repeat (go_big_quiet_step (fail))
   refine wpQuiet_nil (abf ?_);intro w6 hb6 hf;have h169:v169 = .slice (some ⟨gQ,0,none⟩) (dO Q) m:=hf (169,[]) (by simp [deps]);obtain ⟨C5,n5,c5,r5,h5,m5,t5,e5⟩:MV w6 v176 (nv X / 2 ^ s):=hf (176,[175]) (by simp [deps]);subst h169;subst h5;have HB6:=aE (HB.out.trans (hb6.mono hzr));have MQ6:=aE (MQ.out.trim.keep (bg.of_below hb6 (ar _)));have M5:=aE m5;have T5:=aE t5;have V5:=aE e5;clear hb6 hf m5 t5 e5
   go_wp2_with fail
   exact bodyPost_ret (v:=.tuple #[.slice (some ⟨gQ,0,none⟩) (dO Q) m,.slice C5 n5 c5]) (by simp [results,Tryz.results158,go_sem]) rfl ⟨HB6.out,_,_,_,fB Q,C5,n5,c5,r5,rfl,MQ6.out,TQ.out,M5.out,T5.out,by rw [V5.out];exact BL.out,dK _,QL.out⟩
theorem Oj (A B:Option Addr) (n c m d:Nat) (a b:List Nat) (w:World) (hn:n≤1099511627776) (hm:m≤1099511627776) (h0:0 < m) (ha:bf w A n c a) (hb:bf w B m d b) (ta:jF a) (tb:jF b) :
 Calls aD 158 #[.slice A n c,.slice B m d] w (oP w n (nv a) (nv b)):=by
 rcases bB (nv a) (nv b) with h | h
 · exact Qj A B n c m d a b w hn hm ha hb ta tb h
 ·
  by_cases h2:n≤2
  · exact N9 A B n c m d a b w h2 hm ha hb ta tb h0 h
  · by_cases h1:m = 1
    · subst h1;exact Lm A B n c d a b w (by omega) hn ha hb ta tb h
    · obtain ⟨k,rfl⟩:∃ k,m = k + 1 + 1:=⟨m - 2,by omega⟩;exact KO A B n c k d a b w (by omega) hn ha hb ta tb h
section
variable {P:Program} {f:FuncId} {x y z z2:Nat}
theorem abe (h:∀ v w,MV w v x→Calls P f #[v] w (Gp w fun w' r=>MV w' r z)):AC P true f [.mag x] (.dat (.mag z)):=by
 refine AC.oD fun X w vs hx hr=>?_
 match vs,hr with
 | [v],hr =>
  refine (h v w (nS hr.1).2).mono ?_;rintro e w' ⟨h1,r,h2,h3⟩;exact ⟨h1,r,h2,jW rfl h3⟩
theorem IX (h:∀ v u w,MV w v x→MV w u y→Calls P f #[v,u] w (Gp w fun w' r=>MV w' r z)):AC P true f [.mag x,.mag y] (.dat (.mag z)):=by
 refine AC.oD fun X w vs hx hr=>?_
 match vs,hr with
 | [v,u],hr =>
  refine (h v u w (nS hr.1).2 (nS hr.2.1).2).mono ?_;rintro e w' ⟨h1,r,h2,h3⟩;exact ⟨h1,r,h2,jW rfl h3⟩
theorem ZX {c:Value} (h:∀ v u w,MV w v x→MV w u y→Calls P f #[v,u] w fun e w'=>e = .returned c∧Below w.heap.size w w') (h1:c.oneCell' = true):AC P true f [.mag x,.mag y] (.dat (.val c)):=by
 refine AC.oD fun X w vs hx hr=>?_
 match vs,hr with
 | [v,u],hr =>
  refine (h v u w (nS hr.1).2 (nS hr.2.1).2).mono ?_;rintro e w' ⟨h2,h3⟩;exact ⟨h3,c,h2,dh h1⟩
theorem adE {c:Value} (h:∀ v w,MV w v x→Calls P f #[v] w fun e w'=>e = .returned c∧Below w.heap.size w w') (h1:c.oneCell' = true):AC P true f [.mag x] (.dat (.val c)):=by
 refine AC.oD fun X w vs hx hr=>?_
 match vs,hr with
 | [v],hr =>
  refine (h v w (nS hr.1).2).mono ?_;rintro e w' ⟨h2,h3⟩;exact ⟨h3,c,h2,dh h1⟩
theorem aik {c:Value} (h:∀ w,Calls P f #[c] w (Gp w fun w' r=>MV w' r z)):AC P true f [.val c] (.dat (.mag z)):=by
 refine AC.oD fun X w vs hx hr=>?_
 match vs,hr with
 | [v],hr =>
  rw [gy hr.1];refine (h w).mono ?_;rintro e w' ⟨h1,r,h2,h3⟩;exact ⟨h1,r,h2,jW rfl h3⟩
theorem Zm {c:Value} {z:Int} (h:∀ v w,MV w v x→Calls P f #[c,v] w (Gp w fun w' r=>IV w' r z)):AC P true f [.val c,.mag x] (.dat (aS z)):=by
 refine AC.oD fun X w vs hx hr=>?_
 match vs,hr with
 | [u,v],hr =>
  rw [gy hr.1];refine (h v w (nS hr.2.1).2).mono ?_;rintro e w' ⟨h1,r,h2,h3⟩;exact ⟨h1,r,h2,uG.2 ⟨rfl,h3⟩⟩
theorem Yr (h:∀ v u w,MV w v x→MV w u y→Calls P f #[v,u] w fun e w'=>Below w.heap.size w w'∧∃ r s,e = .returned (.tuple #[r,s])∧MV w' r z∧MV w' s z2):AC P true f [.mag x,.mag y] (.bT [.mag z,.mag z2]):=by
 intro X w vs hx hr
 match vs,hr with
 | [v,u],hr =>
  refine (h v u w (nS hr.1).2 (nS hr.2.1).2).mono ?_;rintro e w' ⟨h1,r,s,h2,h3,h4⟩;refine ⟨h1,_,h2,fun _ _=>False,none,fun _ _ h=>h.elim,fun _ h=>(by cases h),?_⟩;unfold ah;exact ⟨_,rfl,jW rfl h3,jW rfl h4,trivial⟩
end
section
variable {x y:Nat}
theorem jR (h:wl x≤4398046511104):AC aD true 140 [.mag x] (.dat (.mag x)):=abe fun v w hv=>by
 obtain ⟨A,n,c,l,rfl,hm,ht,hx⟩:=hv;have hn:=ht.lY hm;refine (jE A n c l w (by rw [hn,hx];exact h) hm).mono ?_;rintro e w' ⟨rfl,rfl⟩;rw [ht.tl hm];exact ⟨Below.refl _ _,_,rfl,A,n,c,l,rfl,hm,ht,hx⟩
theorem Gg (s:Bool) (v:Value) (x:Nat) (w:World) (h:MV w v x) (hl:wl x≤4398046511104):Calls aD 138 #[.bool s,v] w (Gp w fun w' r=>IV w' r (if s then -(x:Int) else x)):=by
 obtain ⟨A,n,c,l,rfl,hm,ht,hv⟩:=h;have hn:=ht.lY hm;refine (Oi s A n c l w (by rw [hn,hv];exact hl) hm).mono ?_;rintro e w' ⟨rfl,hb⟩;refine ⟨hb,_,rfl,?_⟩;rw [ht.tl hm]
 by_cases h0:n = 0
 · have hx:x = 0:=by
    have:l = []:=cJ (by rw [hm.len,h0]);rw [← hv,this];rfl
   rw [if_pos h0,hx];exact ⟨none,0,0,[],by cases s <;> rfl,⟨Rd.nil _ _ _,ar _,dY.nil⟩,jF.nil,by cases s <;> rfl⟩
 · rw [if_neg h0];have hx:0 < x:=by rw [← hv];exact ht.pos (by rw [hm.len];omega)
   refine ⟨A,n,c,l,?_,hm.u (kE.of hb (ar _)),ht,by rw [hv];split <;> omega⟩;congr 2;cases s
   · simp
   · simp;omega
theorem jH {s:Bool} (h:wl x≤4398046511104):AC aD true 138 [.val (.bool s),.mag x] (.dat (aS (if s then -(x:Int) else x))):=Zm fun v w hv=>Gg s v x w hv h
theorem SX (h:wl x≤2199023255552) (h':wl y≤2199023255552):AC aD true 159 [.mag x,.mag y] (.dat (.mag (x + y))):=IX fun v u w h1 h2=>aas v u x y w h1 h2 h h'
theorem OG (h:wl x≤4398046511104) (hle:y≤x):AC aD true 160 [.mag x,.mag y] (.dat (.mag (x - y))):=IX fun v u w h1 h2=>aad v u x y w h1 h2 hle h
theorem WH (h:wl x≤2199023255552) (h':wl y≤2199023255552):AC aD true 162 [.mag x,.mag y] (.dat (.mag (x * y))):=IX fun v u w h1 h2=>ZB v u x y w h1 h2 h h'
theorem xe (h:wl x≤4398046511104):AC aD true 137 [.mag x] (.dat (.mag x)):=abe fun v w hv=>Z4 v x w hv h
theorem Ik {a b:List Nat} (ha:dY a) (hb:dY b) (ta:jF a) (tb:jF b):iO a b = ((nv a:Int) - nv b).sign:=by
 have h1:=nG ha hb ta tb;have h2:=Vt a b
 by_cases e:a = b
 · subst e;have:iO a a = 0:=by unfold iO;rw [if_pos rfl];exact zU rfl fun _=>rfl
   rw [this,gS];rfl
 ·
  rcases Nat.lt_trichotomy (nv a) (nv b) with h | h | h
  · rw [aq (by omega)];have:=h1.2 h;omega
  ·
   exfalso;unfold iO at h1
   by_cases hl:a.length = b.length
   · rcases EE hl ha hb with ⟨_,h3⟩ | ⟨_,h3⟩ | ⟨_,h3⟩
     · omega
     · exact e h3
     · omega
   · rcases bB a.length b.length with h3 | h3
     · have:=nY ha tb h3;omega
     · have:=nY hb ta (by omega);omega
  ·
   rw [ao (by omega)];have h3:¬ iO a b < 0:=fun h4=>by have:=h1.1 h4;omega
   have h4:iO a b≠0:=fun h5=>by
    unfold iO at h5
    by_cases hl:a.length = b.length
    · rw [if_pos hl] at h5;rcases EE hl ha hb with ⟨h6,_⟩ | ⟨_,h6⟩ | ⟨h6,_⟩
      · omega
      · exact e h6
      · omega
    · rw [if_neg hl] at h5;split at h5 <;> omega
   omega
theorem yX (h:wl x≤4398046511104) (h':wl y≤4398046511104):AC aD true 170 [.mag x,.mag y] (.dat (vI ((x:Int) - y).sign)):=ZX (fun v u w h1 h2=>by
 obtain ⟨A,n,c,a,rfl,ha,ta,va⟩:=h1;obtain ⟨B,m,d,b,rfl,hb,tb,vb⟩:=h2;have hn:=ta.lY ha;have hm:=tb.lY hb;have:=nU A B n c m d a b w (by rw [hn,va];exact h) (by rw [hm,vb];exact h') ha.1 hb.1;rw [Ik ha.2.2 hb.2.2 ta tb,va,vb] at this;exact this) rfl
theorem Cc (h:wl x≤1099511627776) (h':wl y≤1099511627776) (h0:0 < y):AC aD true 158 [.mag x,.mag y] (.bT [.mag (x / y),.mag (x % y)]):=Yr fun v u w h1 h2=>by
 obtain ⟨A,n,c,a,rfl,ha,ta,va⟩:=h1;obtain ⟨B,m,d,b,rfl,hb,tb,vb⟩:=h2;have hn:=ta.lY ha;have hm:=tb.lY hb;refine (Oj A B n c m d a b w (by rw [hn,va];exact h) (by rw [hm,vb];exact h') ?_ ha hb ta tb).mono ?_
 · rcases a6 m with h3 | h3
   · have:b = []:=cJ (by rw [hb.len,h3]);rw [this] at vb;simp [nv] at vb;omega
   · exact h3
 · rintro e w' ⟨hb',C1,n1,c1,q,C2,n2,c2,r,rfl,m1,-,m2,t2,v2,t1,v1⟩;exact ⟨hb',_,_,rfl,⟨_,_,_,q,rfl,m1,t1,by rw [v1,va,vb]⟩,⟨_,_,_,r,rfl,m2,t2,by rw [v2,va,vb]⟩⟩
theorem Nu (h:x < 18446744073709551616):AC aD true 139 [.val (.int .u64 (x:Int))] (.dat (.mag x)):=aik fun w=>by
 refine (qA x w h).mono ?_;rintro e w' ⟨hb,C,n,c,ds,rfl,hm,ht,hv,-⟩;exact ⟨hb,_,rfl,_,_,_,ds,rfl,hm,ht,hv⟩
theorem I8 (h:x < 18446744073709551616):AC aD true 161 [.mag x] (.dat (.val (.int .u64 (x:Int)))):=adE (fun v w hv=>by
 obtain ⟨A,n,c,l,rfl,hm,ht,hx⟩:=hv;have hn:=ht.lY hm;rw [hx] at hn;have:=wP A n c l w (by rw [hn];exact wH h) hm.2.2 hm.1;rwa [hx] at this) rfl
theorem aa1 (h:wl x≤4398046511104):AC aD true 241 [.mag x] (.dat (.mag (x / 2))):=abe fun v w hv=>by
 obtain ⟨A,n,c,l,rfl,hm,ht,hx⟩:=hv;have hn:=ht.lY hm;rw [← hx];exact U8 A n c l w (by rw [hn,hx];exact h) hm
end
section
variable {P:Program} {ops:Array Oper} {kw:Bool} {X0:XS} {w0:World} {m:Nat} {Γ Γ':fA} {a:Act} {W W':World} {o:Oper} {d s:Nat} {X:XS} {Ow:Nat→Option Nat}
theorem CP {op:BinOp} {T:TypeId} {x y:Operand} {p q:Bool}:(eqGuard op T x y (.bool p) (.bool q)).run P W = .ok () W:=by
 unfold eqGuard;cases op <;> simp
theorem J3 {op:BinOp} {T yt:TypeId} {x y:Operand} {p q:Bool} {v:Value} (ho:o.op = .binOp op T x y yt) (hd:o.dst = some d) (hdm:d < m) (hn:aB Γ d = true) (hx:Ev kw X0 w0 m Γ x (.bool p)) (hy:Ev kw X0 w0 m Γ y (.bool q)) (hr:∀ W,(binOp op T (.bool p) (.bool q)).run P W = .ok v W) (h1:v.oneCell' = true):dB P kw X0 w0 m Γ o ((d,.dat (.val v)) :: Γ) :=
 bK hd hdm hn rfl fun a W X Ow hs=>⟨v,by simp only [execOp,ho,hx a W hs.fs,hy a W hs.fs,gR,CP,ij,hr,kj],gI h1⟩
theorem abB {p q:Bool} (W:World):(binOp .eql 4 (.bool p) (.bool q)).run aD W = .ok (.bool (p == q)) W:=by cases p <;> cases q <;> kernel_rfl
theorem Sl {p q:Bool} (W:World):(binOp .neq 4 (.bool p) (.bool q)).run aD W = .ok (.bool (p != q)) W:=by cases p <;> cases q <;> kernel_rfl
end
section
variable {ops:Array Oper} {kw:Bool} {X0:XS} {w0:World} {m:Nat} {Γ Γ':fA} {o:Oper} {d s:Nat} {l:List Oper} {acc:List Hd} {K:List Hd→fA→Prop}
theorem acY {yt t:Nat} {p q:Bool} (ho:o.op = .binOp .eql 4 (.tmp s) (.tmp t) yt:=by rfl) (hd:o.dst = some d:=by rfl) (hdm:d < m:=by decide) (hn:aB Γ d = true:=by rfl) (hx:lk Γ s = some (.dat (.val (.bool p))):=by rfl) (hy:lk Γ t = some (.dat (.val (.bool q))):=by rfl):dB aD kw X0 w0 m Γ o ((d,.dat (.val (.bool (p == q)))) :: Γ) :=
 J3 ho hd hdm hn (.t hx) (.t hy) (abB) rfl
theorem Xy {yt t:Nat} {p q:Bool} (ho:o.op = .binOp .neq 4 (.tmp s) (.tmp t) yt:=by rfl) (hd:o.dst = some d:=by rfl) (hdm:d < m:=by decide) (hn:aB Γ d = true:=by rfl) (hx:lk Γ s = some (.dat (.val (.bool p))):=by rfl) (hy:lk Γ t = some (.dat (.val (.bool q))):=by rfl):dB aD kw X0 w0 m Γ o ((d,.dat (.val (.bool (p != q)))) :: Γ) :=
 J3 ho hd hdm hn (.t hx) (.t hy) (Sl) rfl
theorem Yy {yt t:Nat} {p q:Bool} (ho:o.op = .binOp .neq 4 (.tmp s) (.tmp t) yt:=by rfl) (hg:o.guard = none:=by rfl) (hd:o.dst = some d:=by rfl) (hdm:d < m:=by decide) (hx:lk Γ s = some (.dat (.val (.bool p))):=by rfl) (hy:lk Γ t = some (.dat (.val (.bool q))):=by rfl) (ct:HT aD ops kw X0 w0 m (⟨[(s,.dat (.val (.bool p))),(t,.dat (.val (.bool q)))],d,.dat (.val (.bool (p != q))),false⟩ :: acc) ((d,.dat (.val (.bool (p != q)))) :: Γ) l K):HT aD ops kw X0 w0 m acc Γ (o :: l) K :=
 HT.cons (h:=⟨[(s,.dat (.val (.bool p))),(t,.dat (.val (.bool q)))],d,.dat (.val (.bool (p != q))),false⟩) rfl hd (fun Γ h hn'=>(J3 ho hd hdm hn' (.t h.1) (.t h.2.1) (Sl) rfl).g hg) ⟨hx,hy,trivial⟩ ct
end
theorem SL (x:Int):(if decide (x < 0) then -((x.natAbs:Nat):Int) else ((x.natAbs:Nat):Int)) = x:=by
 by_cases h:x < 0
 · simp [h];omega
 · simp [h];omega
theorem Uz (x:Int):(if !decide (x < 0) then -((x.natAbs:Nat):Int) else ((x.natAbs:Nat):Int)) = -x:=by
 by_cases h:x < 0
 · simp [h];omega
 · simp [h];omega
theorem Mc (x y:Int):(if (decide (x < 0) != decide (y < 0)) then -((x.natAbs * y.natAbs:Nat):Int) else ((x.natAbs * y.natAbs:Nat):Int)) = x * y:=by
 have e:((x.natAbs * y.natAbs:Nat):Int) = (x.natAbs:Int) * (y.natAbs:Int):=bh _ _;rw [e];have ax:x < 0→(x.natAbs:Int) = -x:=by omega
 have bx:¬ x < 0→(x.natAbs:Int) = x:=by omega
 have ay:y < 0→(y.natAbs:Int) = -y:=by omega
 have by':¬ y < 0→(y.natAbs:Int) = y:=by omega
 by_cases h:x < 0
 · by_cases h2:y < 0
   · rw [ax h,ay h2,decide_eq_true h,decide_eq_true h2,j8];rfl
   · rw [ax h,by' h2,decide_eq_true h,decide_eq_false h2,Int.neg_mul,Int.neg_neg];rfl
 · by_cases h2:y < 0
   · rw [bx h,ay h2,decide_eq_false h,decide_eq_true h2,Int.mul_neg,Int.neg_neg];rfl
   · rw [bx h,by' h2,decide_eq_false h,decide_eq_false h2];rfl
variable {x y:Int}
theorem ahf (h:x.sign≠y.sign):(x.sign - y.sign).sign = (x - y).sign:=by
 rcases bc x 0 with hx | rfl | hx <;> rcases bc y 0 with hy | rfl | hy
 · rw [aq hx,aq hy] at h;exact absurd rfl h
 · rw [aq hx,aq (show x - 0 < 0 by omega)];rfl
 · rw [aq hx,ao hy,aq (show x - y < 0 by omega)];rfl
 · rw [aq hy,ao (show 0 < 0 - y by omega)];rfl
 · exact absurd rfl h
 · rw [ao hy,aq (show 0 - y < 0 by omega)];rfl
 · rw [ao hx,aq hy,ao (show 0 < x - y by omega)];rfl
 · rw [ao hx,ao (show 0 < x - 0 by omega)];rfl
 · rw [ao hx,ao hy] at h;exact absurd rfl h
theorem ai1 (h:x.sign = y.sign):x.sign * ((x.natAbs:Int) - y.natAbs).sign = (x - y).sign:=by
 rcases bc x 0 with hx | rfl | hx
 · have hy:y < 0:=by rw [aq hx] at h;exact Int.sign_eq_neg_one_iff_neg.1 h.symm
   rw [aq hx,show (x.natAbs:Int) - y.natAbs = -(x - y) by omega,Int.sign_neg,j8,eZ]
 · have hy:y = 0:=by have:y.sign = 0:=h.symm;exact eo.1 this
   rw [hy];rfl
 · have hy:0 < y:=by rw [ao hx] at h;exact Int.sign_eq_one_iff_pos.1 h.symm
   rw [ao hx,show (x.natAbs:Int) - y.natAbs = (x - y) by omega,eZ]
theorem add1 (h:(decide (x < 0) == decide (y < 0)) = true):(if decide (x < 0) then -((x.natAbs + y.natAbs:Nat):Int) else ((x.natAbs + y.natAbs:Nat):Int)) = x + y:=by
 by_cases hx:x < 0 <;> by_cases hy:y < 0 <;> simp [hx,hy] at h ⊢ <;> omega
theorem aes (h:(decide (x < 0) == decide (y < 0)) = false) (h2:((x.natAbs:Int) - y.natAbs).sign < 0):x.natAbs≤y.natAbs∧(if decide (y < 0) then -((y.natAbs - x.natAbs:Nat):Int) else ((y.natAbs - x.natAbs:Nat):Int)) = x + y:=by
 have h3:(x.natAbs:Int) - y.natAbs < 0:=by
  rcases bc ((x.natAbs:Int) - y.natAbs) 0 with h4 | h4 | h4
  · exact h4
  · rw [h4] at h2;exact absurd h2 (by decide)
  · rw [ao h4] at h2;exact absurd h2 (by decide)
 by_cases hx:x < 0 <;> by_cases hy:y < 0 <;> simp [hx,hy] at h ⊢ <;> omega
theorem afx (h:(decide (x < 0) == decide (y < 0)) = false) (h2:¬ ((x.natAbs:Int) - y.natAbs).sign < 0):y.natAbs≤x.natAbs∧(if decide (x < 0) then -((x.natAbs - y.natAbs:Nat):Int) else ((x.natAbs - y.natAbs:Nat):Int)) = x + y:=by
 have h3:¬ (x.natAbs:Int) - y.natAbs < 0:=fun h4=>h2 (by rw [aq h4];decide)
 by_cases hx:x < 0 <;> by_cases hy:y < 0 <;> simp [hx,hy] at h ⊢ <;> omega
theorem qX {x:Nat}:wl x = 0↔x = 0:=by
 unfold wl;split <;> simp_all
theorem aeO {p q:Int}:AC aD true 169 [vI p,vI q] (.dat (vI (p - q).sign)):=AC.oD fun X w vs hx hr=>by
 match vs,hr with
 | [u,v],hr =>
  rw [gy hr.1,gy hr.2.1];refine (NM p q w).mono ?_;rintro e w' ⟨rfl,rfl⟩;exact ⟨Below.refl _ _,_,rfl,dh rfl⟩
theorem sg0 (h:((wl x.natAbs:Nat):Int) = 0):x.sign = 0:=by
 have:wl x.natAbs = 0:=by omega
 rw [qX] at this;have:x = 0:=by omega
 rw [this];rfl
theorem sg1 (h:decide (x < 0) = true):x.sign = -1:=aq (of_decide_eq_true h)
theorem sg2 (h:¬ ((wl x.natAbs:Nat):Int) = 0) (h2:decide (x < 0) = false):x.sign = 1:=ao (by
 have h3:=of_decide_eq_false h2;have:x≠0:=fun e=>h (by rw [e];rfl)
 omega)
theorem Tu (hx:wl x.natAbs≤2199023255552):AC aD true 93 [aS x] (.dat (aS x)):=by
 refine aix 10 Tryz.func93 (k:=go 0 [[0,0],[4,1,2],[2]] (k:=dC 7 mixed (go 3 [[1]] (k:=bG 0 (ct:=go 3 [[1]] (k:=bG 1 (ct:=ak eN (jR (x:=x.natAbs) (by omega)) (ct:=ak eN (xe (x:=x.natAbs) (by omega)) (ct:=ak eN (jH (x:=x.natAbs) (by omega)) (ct:=go 3 [[2,2],[2]] (k:=?_)))))))))));exact rt_eq dG (by rw [SL])
theorem XH (hx:wl x.natAbs≤2199023255552):AC aD true 98 [aS x] (.dat (aS (-x))):=by
 refine aix 11 Tryz.func98 (k:=go 0 [[0,0],[4,1,2],[2]] (k:=dC 8 mixed (go 3 [[1]] (k:=bG 0 (ct:=OA (ct:=go 3 [[1]] (k:=bG 1 (ct:=ak eN (jR (x:=x.natAbs) (by omega)) (ct:=ak eN (xe (x:=x.natAbs) (by omega)) (ct:=ak eN (jH (x:=x.natAbs) (by omega)) (ct:=go 3 [[2,2],[2]] (k:=?_))))))))))));exact rt_eq dG (by rw [Uz])
theorem uF (hx:wl x.natAbs≤2199023255552):AC aD true 101 [aS x] (.dat (vI x.sign)):=by
 refine aix 12 Tryz.func101 (k:=go 0 [[0,0],[4,1,2],[6]] (k:=q (aX 1) (q (a_call eN (jR (x:=x.natAbs) (by omega))) (q (aI) (go 1 [[2,1,2,3],[1]] (k:=?_))))));refine bu (fun hc3=>?_) (fun hc3=>?_)
 · refine go 0 [[3,2],[4]] (k:=?_);exact rt_eq dG (by rw [sg0 hc3])
 · refine bP (cO (q dn (q (aX 0) (go 1 [[1,2,9],[1]] (k:=?_)))));refine dA (fun hc9=>?_) (fun hc9=>?_)
   · refine go 0 [[3,2],[4]] (k:=?_);exact rt_eq dG (by rw [sg1 hc9])
   · refine go 0 [[6,2],[2]] (k:=?_);exact rt_eq dG (by rw [sg2 hc3 hc9])
theorem lC (hx:wl x.natAbs≤1099511627776) (hy:wl y.natAbs≤1099511627776):AC aD true 114 [aS x,aS y] (.dat (aS (x * y))):=by
 have hm:=Kt x.natAbs y.natAbs;refine aix 18 Tryz.func114 (k:=go 0 [[0,0,1],[5,2,3,4],[2]] (k:=dC 13 mixed (go 3 [[1]] (k:=bG 0 (ct:=go 3 [[1]] (k:=bG 0 (ct:=Yy (ct:=go 3 [[1]] (k:=bG 1 (ct:=ak eN (jR (x:=x.natAbs) (by omega)) (ct:=go 3 [[1]] (k:=bG 1 (ct:=ak eN (jR (x:=y.natAbs) (by omega)) (ct:=ak eN (WH (x:=x.natAbs) (y:=y.natAbs) (by omega) (by omega)) (ct:=ak eN (jH (x:=x.natAbs * y.natAbs) (by omega)) (ct:=go 3 [[2,4],[2]] (k:=?_)))))))))))))))));exact rt_eq dG (by rw [Mc])
theorem sgb (x y:Int):-1≤x.sign * y.sign∧x.sign * y.sign≤1:=by
 rcases bc x 0 with hx | rfl | hx <;> rcases bc y 0 with hy | rfl | hy <;> simp_all [aq,ao]
theorem TS (hx:wl x.natAbs≤1099511627776) (hy:wl y.natAbs≤1099511627776):AC aD true 120 [aS x,aS y] (.dat (vI (x - y).sign)):=by
 have hb:=sgb x ((x.natAbs:Int) - y.natAbs);refine aix 26 Tryz.func120 (k:=go 0 [[0,0,1],[5,2,3,4],[2]] (k:=dC 6 mixed (go 3 [[1]] (k:=ak eN (uF (x:=x) (by omega)) (ct:=go 3 [[1]] (k:=ak eN (uF (x:=y) (by omega)) (ct:=go 3 [[3,2,3,4,5,6],[6]] (k:=q (Ji) (gU [2,3,4,5,6,13] (k:=aT ?_))))))))));refine bu (fun hc13=>?_) (fun hc13=>?_)
 · refine go 0 [[4]] (k:=q (a_call eN (aeO)) (go 1 [[1,2,3,4,5],[3]] (k:=?_)));exact rt_eq dG (by rw [ahf hc13])
 · refine eF (aT (bP (dC 10 mixed (go 3 [[2]] (k:=bG 1 (ct:=ak eN (jR (x:=x.natAbs) (by omega)) (ct:=go 3 [[1]] (k:=bG 1 (ct:=ak eN (jR (x:=y.natAbs) (by omega)) (ct:=ak eN (yX (x:=x.natAbs) (y:=y.natAbs) (by omega) (by omega)) (ct:=WY (z:=x.sign * ((x.natAbs:Int) - y.natAbs).sign) (hz:=rfl) (h1:=by omega) (h2:=by omega) (ct:=go 3 [[2,4],[2]] (k:=?_)))))))))))));exact rt_eq dG (by rw [ai1 (Classical.not_not.1 hc13)])
theorem Xg (hx:wl x.natAbs≤1099511627776) (hy:wl y.natAbs≤1099511627776):AC aD true 150 [aS x,aS y] (.dat (aS (x + y))):=by
 have ha:=Ju x.natAbs y.natAbs;have hs1:wl (y.natAbs - x.natAbs)≤wl y.natAbs:=iF (gA _ _);have hs2:wl (x.natAbs - y.natAbs)≤wl x.natAbs:=iF (gA _ _);refine aix 40 Tryz.func150 (k:=go 0 [[0,0,1],[5,2,3,4],[2]] (k:=dC 8 mixed (go 3 [[1]] (k:=bG 1 (ct:=ak eN (jR (x:=x.natAbs) (by omega)) (ct:=go 3 [[1]] (k:=bG 1 (ct:=ak eN (jR (x:=y.natAbs) (by omega)) (ct:=go 3 [[3,2,3,4,5,6],[5]] (k:=q (aX 0) (q dn (q (aX 0) (q (acY) (gU [2,3,4,5,6,17] (k:=aT ?_)))))))))))))));refine dA (fun hc17=>?_) (fun hc17=>?_)
 · refine bP (dC 6 mixed (go 3 [[1]] (k:=bG 0 (ct:=go 3 [[2]] (k:=ak eN (SX (x:=x.natAbs) (y:=y.natAbs) (by omega) (by omega)) (ct:=ak eN (jH (x:=x.natAbs + y.natAbs) (by omega)) (ct:=go 3 [[2,2,3,4,5,6],[3]] (k:=?_))))))));exact rt_eq dG (by rw [add1 hc17])
 · refine go 0 [[7]] (k:=q (a_call eN (yX (x:=x.natAbs) (y:=y.natAbs) (by omega) (by omega))) (go 1 [[1,2,3,4,5,6,27],[1]] (k:=?_)));refine bu (fun hc27=>?_) (fun hc27=>?_)
   · refine bP (dC 6 mixed (go 3 [[1]] (k:=bG 0 (ct:=go 3 [[2]] (k:=ak eN (OG (x:=y.natAbs) (y:=x.natAbs) (by omega) (aes hc17 hc27).1) (ct:=ak eN (jH (x:=y.natAbs - x.natAbs) (by omega)) (ct:=go 3 [[2,2,4,5,6],[3]] (k:=?_))))))));exact rt_eq dG (by rw [(aes hc17 hc27).2])
   · refine eF (aT (bP (dC 6 mixed (go 3 [[1]] (k:=bG 0 (ct:=go 3 [[2]] (k:=ak eN (OG (x:=x.natAbs) (y:=y.natAbs) (by omega) (afx hc17 hc27).1) (ct:=ak eN (jH (x:=x.natAbs - y.natAbs) (by omega)) (ct:=go 3 [[2,4],[2]] (k:=?_))))))))));exact rt_eq dG (by rw [(afx hc17 hc27).2])
theorem Sv {a b:Int} (hb:b≠0) (hd:b ∣ a):(if (decide (a < 0) != decide (b < 0)) then -((a.natAbs / b.natAbs:Nat):Int) else ((a.natAbs / b.natAbs:Nat):Int)) = a / b:=by
 obtain ⟨c,rfl⟩:=hd;rw [gH _ hb,e8,gL _ (by omega)];rcases bc c 0 with hc | rfl | hc
 ·
  rcases bc b 0 with h | h | h
  · have:¬ b * c < 0:=by have:=Int.mul_pos_of_neg_of_neg h hc;omega
    rw [decide_eq_false this,decide_eq_true h];simp;omega
  · exact absurd h hb
  · have:b * c < 0:=Int.mul_neg_of_pos_of_neg h hc;rw [decide_eq_true this,decide_eq_false (by omega)];simp;omega
 · simp
 ·
  rcases bc b 0 with h | h | h
  · have:b * c < 0:=Int.mul_neg_of_neg_of_pos h hc;rw [decide_eq_true this,decide_eq_true h];simp;omega
  · exact absurd h hb
  · have:¬ b * c < 0:=by have:=Int.mul_pos h hc;omega
    rw [decide_eq_false this,decide_eq_false (by omega)];simp;omega
theorem abX {a b:Int} (hd:b ∣ a):a.natAbs % b.natAbs = 0:=Nat.mod_eq_zero_of_dvd (Int.natAbs_dvd_natAbs.2 hd)
theorem adi {b:Int} (hb:b≠0):¬ ((wl b.natAbs:Nat):Int) = 0:=fun h=>by
 have:wl b.natAbs = 0:=by omega
 rw [qX] at this;omega
theorem kG {a b:Int} (ha:wl a.natAbs≤549755813888) (hb:wl b.natAbs≤549755813888) (h0:b≠0) (hd:b ∣ a):AC aD true 112 [aS a,aS b] (.bT [aS (a / b),aS 0,vI 0]):=by
 have hq:wl (a.natAbs / b.natAbs)≤wl a.natAbs:=iF (bA _ _);refine aix 53 Tryz.func112 (k:=go 0 [[0,0,1],[7,2,3,4,5,6],[4]] (k:=q (aX 1) (q (a_call eN (jR (x:=b.natAbs) (by omega))) (go 1 [[1,2,3,4,5,6,7],[5]] (k:=q (aI) (go 1 [[1,2,3,4,5,6,7,15],[1]] (k:=UO (h:=(adi h0)) (k:=go 0 [[5]] (k:=q (aX 1) (q (a_call eN (jR (x:=a.natAbs) (by omega))) (q aC (q (a_call eN ((Cc (x:=a.natAbs) (y:=b.natAbs) (by omega) (by omega) (by omega)).eq (by rw [abX hd]))) (go 1 [[5,2,3,4,5,6,7,8,9],[5]] (k:=q (aX 0) (q dn (q (aX 0) (q (Xy) (q aC (fD (h:=aC) (k:=cZ 32 (h:=aI) (k:=cZ 33 (h:=iT) (k:=go 1 [[1,2,3,4,5,6,7,8,9,35],[1]] (k:=?_)))))))))))))))))))))));refine dA (fun hc35=>?_) (fun hc35=>?_)
 · simp [TJ] at hc35
 · refine eF (aT (bP (dC 11 mixed (go 3 [[1]] (k:=bG 0 (ct:=go 3 [[1]] (k:=bG 0 (ct:=Yy (ct:=go 3 [[1]] (k:=ak eN (jH (x:=a.natAbs / b.natAbs) (by omega)) (ct:=go 3 [[1]] (k:=bG 0 (ct:=go 3 [[1]] (k:=ak eN (jH (x:=0) (by rw [TJ];omega)) (ct:=go 3 [[4,4,5,6],[2]] (k:=?_))))))))))))))));exact rt_eq UN (by rw [Sv h0 hd];congr 2;cases decide (b < 0) <;> rfl)
attribute [local go_sem ↓] bE bL
theorem ab8 (w:World) (cs:Array Value) (t:TypeId) (q:Nat) (v:Value):(w.alloc (.cells cs t)).setCell ⟨w.heap.size,q,none⟩ v = w.alloc (.cells (cs.setIfInBounds q v) t):=World.setCell_alloc_at cs t _ q v rfl
theorem JC (n:Nat) (w:World) (hn:n≤70368744177664):Calls aD 240 #[.int .i64 (n:Int)] w (Gp w fun w' r=>MV w' r (2 ^ n)):=by
 obtain ⟨q,hq⟩:∃ q,q = n / 32:=⟨_,rfl⟩;obtain ⟨s,hs⟩:∃ s,s = n % 32:=⟨_,rfl⟩;have e1:(n:Int).tdiv 32 = (q:Int):=by rw [bO (by omega)];omega
 have e2:(n:Int).tmod 32 = (s:Int):=by rw [de (by omega)];omega
 have e3:(n:Int) / 32 = (q:Int):=by omega
 have e4:(n:Int) % 32 = (s:Int):=by omega
 have hs32:s < 32:=by omega
 have hpw:2 ^ s < 4294967296:=dc (a:=2) (by omega) (show s < 32 from hs32);have NV:Hid (4294967296 ^ q * 2 ^ s = 2 ^ n):=aE (by
  rw [show (4294967296:Nat) = 2 ^ 32 from rfl,← eV,← ep];congr 1;omega)
 have P0:0 < 2 ^ s:=bX (by omega);obtain ⟨p,hp⟩:∃ p,p = 2 ^ s:=⟨_,rfl⟩;have eP:(2:Int) ^ s = (p:Int):=by rw [hp,j9];rfl
 have hmk:=run_make_row' (P:=aD) 68 76 (.int .u32 0) 4 Tryz.underlying68 fJ rfl .i64 .i64 (q + 1) (by omega) (by omega);simp only [show ((q + 1:Nat):Int) = (q:Int) + 1 from rfl] at hmk;have M0:Hid (Own (w.alloc (.cells (madeCells #[.int .u32 0] (q + 1)) 76)) w.heap.size 76 1 (some ⟨w.heap.size,0,none⟩) (q + 1) (q + 1) (us (av (q + 1) 0))):=aE (iw rfl (q + 1) (by unfold maxLen;omega) (ar _));rw [← hp] at NV hpw P0;clear hp hq hs;have hmc:(madeCells #[.int .u32 0] (q + 1))[q]? = some (.int .u32 0):=by simp [madeCells,Nat.mod_one]
 have OS:=aE (M0.out.eH q p);have LQ:((av (q + 1) 0).set q p).length = q + 1:=by simp
 have UQ:Hid (dY ((av (q + 1) 0).set q p)):=aE ((dY.zero _).set _ hpw);have VQ:Hid (nv ((av (q + 1) 0).set q p) = 2 ^ n):=aE (by
  have h:=pF (l:=av (q + 1) 0) (p:=q) (v:=p) (by simp);rw [jo,bq,eC,if_pos (by omega),ir,eJ,fT,eI] at h;rw [h,NV.out])
 have TQ:Hid (jF ((av (q + 1) 0).set q p)):=aE (Dq UQ.out fun _=>by
  rw [VQ.out,LQ,← NV.out,iS];have:=bj (4294967296 ^ q) P0;rw [Nat.mul_succ,eJ,eI] at this;exact this)
 clear NV LQ
 go_enter Tryz.func240,Tryz.ntmps240
 go_wp2_with fail
 go_ret
 have OS2:=OS.out.mag UQ.out;rw [ab8] at OS2;exact ⟨(Below.refl _ _).alloc (ar _) _,_,rfl,_,_,_,_,rfl,OS2,TQ.out,VQ.out⟩
attribute [local go_sem ↓] bE bL
theorem Jv (z:Int) (w:World) (h1:-9223372036854775808≤z) (h2:z≤9223372036854775807):Calls aD 91 #[.int .i64 z] w (Gp w fun w' r=>IV w' r z):=by
 have cW:=qA z.natAbs (w.alloc (.cells #[.bool false,.slice none 0 0] 70)) (by omega);have fr:=fr1 w #[.bool false,.slice none 0 0] 70 rfl;have F0:=aE fr.1;clear fr
 by_cases hz:z < 0
 ·
  have e1:bm.wrap (-bm.wrap z) = (z.natAbs:Int):=by rw [wrap_u64,wrap_u64];omega
  go_enter Tryz.func91,Tryz.ntmps91
  go_wp2_with fail
  refine aL cW ?_;rintro _ w2 ⟨hb2,C,n,c,ds,rfl,hm,ht,hv,hn⟩;have cS:=Gg true (.slice C n c) z.natAbs w2 ⟨C,n,c,ds,rfl,hm,ht,hv⟩ (by have:=wH (x:=z.natAbs) (by omega);omega);have F1:=F0.out.next hb2;clear hb2 hm ht hv hn cW
  go_wp2_with fail
  refine aL cS ?_;rintro _ w3 ⟨hb3,r,rfl,hr⟩;have F2:=F1.next hb3;have hr:IV w3 r z:=by
   first | (rw [if_pos trivial] at hr;rwa [show -((z.natAbs:Nat):Int) = z by omega] at hr) | (rw [if_neg (by simp)] at hr;rwa [show ((z.natAbs:Nat):Int) = z by omega] at hr)
  obtain ⟨C2,k,e,l,rfl,-,-,-⟩:=id hr;have x0:=F2.x 0 rfl (b:=w.heap.size) rfl;have Z:=Ye F2 0 rfl hr (b:=w.heap.size) rfl;generalize decide (z < 0) = s at *;have Z1:=aE Z.1;have z2:=Z.2;clear hb3 hr Z F1 F2 cS
  go_wp2_with fail
  exact bodyPost_ret (v:=.agg #[.bool s,.slice C2 k e]) (by simp [results,Tryz.results91,go_sem,z2]) rfl Z1.out
 ·
  have e1:bm.wrap z = (z.natAbs:Int):=by rw [wrap_u64];omega
  go_enter Tryz.func91,Tryz.ntmps91
  go_wp2_with fail
  refine aL cW ?_;rintro _ w2 ⟨hb2,C,n,c,ds,rfl,hm,ht,hv,hn⟩;have cS:=Gg false (.slice C n c) z.natAbs w2 ⟨C,n,c,ds,rfl,hm,ht,hv⟩ (by have:=wH (x:=z.natAbs) (by omega);omega);have F1:=F0.out.next hb2;clear hb2 hm ht hv hn cW
  go_wp2_with fail
  refine aL cS ?_;rintro _ w3 ⟨hb3,r,rfl,hr⟩;have F2:=F1.next hb3;have hr:IV w3 r z:=by
   first | (rw [if_pos trivial] at hr;rwa [show -((z.natAbs:Nat):Int) = z by omega] at hr) | (rw [if_neg (by simp)] at hr;rwa [show ((z.natAbs:Nat):Int) = z by omega] at hr)
  obtain ⟨C2,k,e,l,rfl,-,-,-⟩:=id hr;have x0:=F2.x 0 rfl (b:=w.heap.size) rfl;have Z:=Ye F2 0 rfl hr (b:=w.heap.size) rfl;generalize decide (z < 0) = s at *;have Z1:=aE Z.1;have z2:=Z.2;clear hb3 hr Z F1 F2 cS
  go_wp2_with fail
  exact bodyPost_ret (v:=.agg #[.bool s,.slice C2 k e]) (by simp [results,Tryz.results91,go_sem,z2]) rfl Z1.out
section
variable {P:Program} {ops:Array Oper} {kw:Bool} {X0:XS} {w0:World} {m:Nat} {Γ Γ':fA} {a:Act} {W W':World} {o:Oper} {d s:Nat} {X:XS} {Ow:Nat→Option Nat} {l:List Oper} {Q:Exit→Act→World→Prop}
theorem yS {g:Nat} {want:Bool} {gd:Nat} {b c:Bool} {f:F} (hg:o.guard = some (g,want)) (hgd:(ops[g]?).bind (·.dst) = some gd) (hl:lk Γ gd = some (.kS c (.dat (.val (.bool b))))) (hd:o.dst = some d) (hdm:d < m) (hn:aB Γ d = true) (h:c = true→(b == want) = true→∀ a W,FSq kw X0 w0 m Γ a W→oC P o a W (FSq kw X0 w0 m ((d,f) :: Γ))):YY P ops kw X0 w0 m Γ o ((d,.kS (c && (b == want)) f) :: Γ):=by
 intro a W hs;obtain ⟨X,Ow,e0,hf⟩:=hs.fact hl;unfold ah at hf;have hw:ef o (yielded ops a.tmps) = (c && (b == want)):=by
  unfold ef;rw [hg];simp only;cases hc:c with
  | true =>
   have hv:a.eval (.tmp gd) = .bool b:=by have:=hf.1 hc;unfold ah at this;exact gy this
   have hy:yielded ops a.tmps g = some b:=by
    unfold yielded;rw [hgd];simp only [db,gi] at hv;cases ht:a.tmps[gd]? with
    | none=>rw [ht] at hv;cases hv
    | some x=>rw [ht] at hv;simp at hv;subst hv;simp [ht]
   simp only [hy];cases b <;> cases want <;> rfl
  | false =>
   have hv:a.eval (.tmp gd) = undef:=hf.2 hc;have hy:yielded ops a.tmps g = none:=by
    unfold yielded;rw [hgd];simp only [db,gi] at hv;cases ht:a.tmps[gd]? with
    | none=>simp [ht]
    | some x=>rw [ht] at hv;simp at hv;subst hv;simp [ht];rfl
   simp only [hy];rfl
 rw [hw];cases hcc:(c && (b == want)) with
 | true =>
  rw [fX] at hcc;simp only [if_true];refine (h hcc.1 hcc.2 a W hs).mono fun a' W' hs'=>?_
  obtain ⟨h1,h2,h3,h4,X,Ow,e,hF⟩:=hs';refine ⟨h1,h2,h3,h4,X,Ow,e,fun s g hl=>?_⟩;unfold lk at hl
  split at hl
  · rename_i es;injection hl with hl
    rw [← hl,← es];unfold ah;exact ⟨fun _=>hF d f (by simp [lk]),(fun e=>by cases e)⟩
  · rename_i es;exact hF s g (by unfold lk;rw [if_neg es];exact hl)
 | false =>
  simp only [Bool.false_eq_true,if_false];rw [hd];exact hs.QN hdm hn (Below.refl _ _) fun X Ow e hF=>by unfold ah;exact ⟨(fun h=>by cases h),fun _=>kH (by rw [hs.size];exact hdm)⟩
theorem gw0 {g gd:Nat} {want b c:Bool} {f:F} (hg:o.guard = some (g,want):=by rfl) (hgd:(ops[g]?).bind (·.dst) = some gd:=by rfl) (hl:lk Γ gd = some (.kS c (.dat (.val (.bool b)))):=by rfl) (hd:o.dst = some d:=by rfl) (hdm:d < m:=by decide) (hn:aB Γ d = true:=by rfl) (h:c = true→(b == want) = true→dB P kw X0 w0 m Γ o ((d,f) :: Γ)) (k:fK P ops kw X0 w0 m ((d,.kS (c && (b == want)) f) :: Γ) l Q):fK P ops kw X0 w0 m Γ (o :: l) Q:=.cons (yS hg hgd hl hd hdm hn h) k
theorem gw1 {g gd:Nat} {want b c:Bool} {f f1:F} (s1:Nat) (hg:o.guard = some (g,want):=by rfl) (hgd:(ops[g]?).bind (·.dst) = some gd:=by rfl) (hl:lk Γ gd = some (.kS c (.dat (.val (.bool b)))):=by rfl) (h1:lk Γ s1 = some (.kS (c && (b == want)) f1):=by rfl) (hd:o.dst = some d:=by rfl) (hdm:d < m:=by decide) (hn:aB Γ d = true:=by rfl) (hne:d≠s1:=by decide) (h:c = true→(b == want) = true→dB P kw X0 w0 m ((s1,f1) :: Γ) o ((d,f) :: (s1,f1) :: Γ)) (k:fK P ops kw X0 w0 m ((d,.kS (c && (b == want)) f) :: Γ) l Q):fK P ops kw X0 w0 m Γ (o :: l) Q :=
 .cons (yS hg hgd hl hd hdm hn fun hc hb a W hs=>(h hc hb a W (hs.yM (by rw [hc,hb];rfl) h1)).mono fun a' W' hs'=>hs'.rQ (by rw [hc,hb];rfl) hne h1) k
theorem gw2 {g gd:Nat} {want b c:Bool} {f f1 f2:F} (s1 s2:Nat) (hg:o.guard = some (g,want):=by rfl) (hgd:(ops[g]?).bind (·.dst) = some gd:=by rfl) (hl:lk Γ gd = some (.kS c (.dat (.val (.bool b)))):=by rfl) (h1:lk Γ s1 = some (.kS (c && (b == want)) f1):=by rfl) (h2:lk Γ s2 = some (.kS (c && (b == want)) f2):=by rfl) (h12:s1≠s2:=by decide) (hd:o.dst = some d:=by rfl) (hdm:d < m:=by decide) (hn:aB Γ d = true:=by rfl) (hne:d≠s1:=by decide) (hne2:d≠s2:=by decide) (h:c = true→(b == want) = true→dB P kw X0 w0 m ((s2,f2) :: (s1,f1) :: Γ) o ((d,f) :: (s2,f2) :: (s1,f1) :: Γ)) (k:fK P ops kw X0 w0 m ((d,.kS (c && (b == want)) f) :: Γ) l Q):fK P ops kw X0 w0 m Γ (o :: l) Q :=
 .cons (yS hg hgd hl hd hdm hn fun hc hb a W hs=>have hcc:(c && (b == want)) = true:=(by rw [hc,hb];rfl)
  (h hc hb a W ((hs.yM hcc h1).yM hcc (by rw [qO h12];exact h2))).mono fun a' W' hs'=>(hs'.rQ hcc hne2 (by rw [qO h12];exact h2)).rQ hcc hne h1) k
def uN (x i:Nat):Nat:=x / 4294967296 ^ i % 4294967296
theorem Q4 {l:List Nat} (u:dY l) (h:i < l.length):uN (nv l) i = l[i]:=by
 have h1:=gG l i (by omega);have e:l.drop i = l[i] :: l.drop (i + 1):=List.drop_eq_getElem_cons h;have h2:nv (l.take i) < 4294967296 ^ i:=by
  have:=mi (l:=l.take i) (u.take i);rwa [eA,gk (by omega)] at this
 have h3:l[i] < 4294967296:=u _ (fW h);have h4:nv (l.drop i) = l[i] + 4294967296 * nv (l.drop (i + 1)):=by rw [e];rfl
 unfold uN;rw [h1,h4,Nat.add_mul_div_left _ _ (bX (by omega)),jz h2];omega
theorem Ql {T x:Nat} {y:Operand} {z:Int} (ho:o.op = .indexAddr T (.tmp s) y) (hd:o.dst = some d) (hdm:d < m) (hn:aB Γ d = true) (si:SI P T 1) (hl:lk Γ s = some (.dat (.mag x))) (hy:Ev kw X0 w0 m Γ y (.int .i64 z)) (hz:z = i) (hi:i < wl x) :
 dB P kw X0 w0 m Γ o ((d,.wp (uN x i:Nat)) :: Γ) :=
 bK hd hdm hn rfl fun a W X Ow hs=>by
  have h:=hs.facts s _ hl;unfold ah at h;obtain ⟨hk,A,n,c,l,h1,h2,h3,h4⟩:=nS h;have hn:l.length = wl x:=by rw [Xv h3 h2.2.2,h4]
  have hn':n = wl x:=by rw [← hn,h2.len]
  obtain ⟨ad,rfl,hc⟩:=h2.1.2 (by omega);have h1':a.eval (.tmp s) = .slice (some ad) n c:=h1;obtain ⟨e,g1,g2⟩:=si.ex;have hrun:(kc T (.slice (some ad) n c) (.int .i64 z)).run P W = .ok (.pointer (some (ad.add i))) W:=by
   cases hq:P.info? e with
   | none=>simp [hq] at g2
   | some info =>
    have hsz:info.size = 1:=by simpa [hq] using g2
    subst hz;simp [kc,asIntOf,run_underlying g1,sizeOf,typeInfo,hq,hsz,show i < n by omega]
  refine ⟨.pointer (some (ad.add i)),by simp only [execOp,ho,h1',hy a W hs.fs,hrun,gR,ij,kj],?_⟩;unfold ah;refine ⟨hk,ad.add i,rfl,?_⟩;have:=hc i (.int .u32 (l[i]'(by omega):Nat)) (by rw [fG l i (by omega),bq,aR (by omega)];rfl);have hil:i < l.length:=by omega
  have e3:uN x i = l[i]:=by have:=Q4 h2.2.2 hil;rwa [h4] at this
  rw [this,e3]
theorem ac2 {T:Nat} {z:Int} (ho:o.op = .load T (.tmp s)) (hd:o.dst = some d) (hdm:d < m) (hn:aB Γ d = true) (ti:TI P T 1 false) (hl:lk Γ s = some (.wp z)):dB P kw X0 w0 m Γ o ((d,.dat (.val (.int .u32 z))) :: Γ) :=
 bK hd hdm hn rfl fun a W X Ow hs=>by
  have h:=hs.facts s _ hl;unfold ah at h;obtain ⟨hk,p,h1,h2⟩:=h;obtain ⟨dsc,g1,g2⟩:=ti.desc;have h5:(isAgg T).run P W = .ok false W:=by
   unfold isAgg;rw [gR,run_underlying g1 W];cases dsc <;> simp_all
  have h1':a.eval (.tmp s) = .pointer (some p):=h1;refine ⟨.int .u32 z,?_,gI rfl⟩;simp [execOp,ho,h1',Instr.loadAt,Instr.sureAddr,loadVar,h5,h2]
theorem ai4 {g gd:Nat} {want b:Bool} {f f0 f1:F} {acc:List Hd} {K:List Hd→fA→Prop} (s0 s1:Nat) (hb:lk Γ s0 = some f0:=by rfl) (h1:lk Γ s1 = some (.kS (b == want) f1):=by rfl) (hg:o.guard = some (g,want):=by rfl) (hgd:(ops[g]?).bind (·.dst) = some gd:=by rfl) (hl:lk Γ gd = some (.dat (.val (.bool b))):=by rfl) (hd:o.dst = some d:=by rfl) (hdm:d < m:=by decide) (hne:d≠s1:=by decide) (h:∀ Γ',lk Γ' s0 = some f0→aB Γ' d = true→(b == want) = true→dB P kw X0 w0 m ((s1,f1) :: Γ') o ((d,f) :: (s1,f1) :: Γ')) (ct:HT P ops kw X0 w0 m (⟨[(gd,.dat (.val (.bool b))),(s0,f0),(s1,.kS (b == want) f1)],d,.kS (b == want) f,false⟩ :: acc) ((d,.kS (b == want) f) :: Γ) l K):HT P ops kw X0 w0 m acc Γ (o :: l) K :=
 HT.cons (h:=⟨[(gd,.dat (.val (.bool b))),(s0,f0),(s1,.kS (b == want) f1)],d,.kS (b == want) f,false⟩) rfl hd (fun Γ' h' hn'=>oh hg hgd h'.1 rfl hd hdm hn' fun hc a W hs=>(h Γ' h'.2.1 hn' hc a W (hs.yM hc h'.2.2.1)).mono fun a' W' hs'=>hs'.rQ hc hne h'.2.2.1) ⟨hl,hb,h1,trivial⟩ ct
end
theorem ZG:TI aD 76 1 false:=.of (by kernel_rfl) Tryz.underlying76 rfl
section
variable {ops:Array Oper} {kw:Bool} {X0:XS} {w0:World} {m:Nat} {Γ:fA} {o:Oper} {d s:Nat}
theorem adt {T t x:Nat} {z:Int} (ho:o.op = .indexAddr T (.tmp s) (.tmp t):=by rfl) (hd:o.dst = some d:=by rfl) (hdm:d < m:=by decide) (hn:aB Γ d = true:=by rfl) (hl:lk Γ s = some (.dat (.mag x)):=by rfl) (hx:lk Γ t = some (.dat (.val (.int .i64 z))):=by rfl) (si:SI aD T 1:=by exact dS) (hz:z = (i:Int)) (hi:i < wl x):dB aD kw X0 w0 m Γ o ((d,.wp (uN x i:Nat)) :: Γ) :=
 Ql ho hd hdm hn si hl (.t hx) hz hi
theorem Zn {T x:Nat} {z:Int} (ho:o.op = .indexAddr T (.tmp s) (.const (.int .i64 z)):=by rfl) (hd:o.dst = some d:=by rfl) (hdm:d < m:=by decide) (hn:aB Γ d = true:=by rfl) (hl:lk Γ s = some (.dat (.mag x)):=by rfl) (si:SI aD T 1:=by exact dS) (hz:z = (i:Int)) (hi:i < wl x):dB aD kw X0 w0 m Γ o ((d,.wp (uN x i:Nat)) :: Γ) :=
 Ql ho hd hdm hn si hl .c hz hi
theorem acd {T:Nat} {z:Int} (ho:o.op = .load T (.tmp s):=by rfl) (hd:o.dst = some d:=by rfl) (hdm:d < m:=by decide) (hn:aB Γ d = true:=by rfl) (hl:lk Γ s = some (.wp z):=by rfl) (ti:TI aD T 1 false:=by exact ZG):dB aD kw X0 w0 m Γ o ((d,.dat (.val (.int .u32 z))) :: Γ) :=
 ac2 ho hd hdm hn ti hl
theorem ac9 {T t x:Nat} {z:Int} {l:List Oper} {acc:List Hd} {K:List Hd→fA→Prop} (hz:z = (i:Int)) (hi:i < wl x) (ho:o.op = .indexAddr T (.tmp s) (.tmp t):=by rfl) (hg:o.guard = none:=by rfl) (hd:o.dst = some d:=by rfl) (hdm:d < m:=by decide) (hl:lk Γ s = some (.dat (.mag x)):=by rfl) (hx:lk Γ t = some (.dat (.val (.int .i64 z))):=by rfl) (si:SI aD T 1:=by exact dS) (ct:HT aD ops kw X0 w0 m (⟨[(s,.dat (.mag x)),(t,.dat (.val (.int .i64 z)))],d,.wp (uN x i:Nat),false⟩ :: acc) ((d,.wp (uN x i:Nat)) :: Γ) l K):HT aD ops kw X0 w0 m acc Γ (o :: l) K :=
 HT.cons (h:=⟨[(s,.dat (.mag x)),(t,.dat (.val (.int .i64 z)))],d,.wp (uN x i:Nat),false⟩) rfl hd (fun Γ h hn'=>(Ql ho hd hdm hn' si h.1 (.t h.2.1) hz hi).g hg) ⟨hl,hx,trivial⟩ ct
theorem ah1 {T:Nat} {z:Int} {l:List Oper} {acc:List Hd} {K:List Hd→fA→Prop} (ho:o.op = .load T (.tmp s):=by rfl) (hg:o.guard = none:=by rfl) (hd:o.dst = some d:=by rfl) (hdm:d < m:=by decide) (hl:lk Γ s = some (.wp z):=by rfl) (ti:TI aD T 1 false:=by exact ZG) (ct:HT aD ops kw X0 w0 m (⟨[(s,.wp z)],d,.dat (.val (.int .u32 z)),false⟩ :: acc) ((d,.dat (.val (.int .u32 z))) :: Γ) l K):HT aD ops kw X0 w0 m acc Γ (o :: l) K :=
 HT.cons (h:=⟨[(s,.wp z)],d,.dat (.val (.int .u32 z)),false⟩) rfl hd (fun Γ h hn'=>(ac2 ho hd hdm hn' ti h.1).g hg) ⟨hl,trivial⟩ ct
end
theorem YH {x:Nat} (h:x < 18446744073709551616):wl x≤2:=jQ.2 (by simpa using h)
theorem nK {x:Nat}:0 < wl x↔0 < x:=by
 unfold wl;split <;> omega
theorem Xo {x:Nat} (h:wl x≤2):x < 18446744073709551616:=by
 have:=jQ.1 h;simpa using this
theorem KC {a b G:Nat} (h:aw a b = G):aw b (a % b) = G:=by
 rw [← h,fS a b,Nat.gcd_rec b a,fS]
theorem LV {p q:Nat} (h:(decide ((2:Int) < (wl q:Nat)) || (decide ((2:Int) < (wl p:Nat)) && decide ((0:Int) < (wl q:Nat)))) = true):0 < q:=by
 rw [← nK];simp at h;omega
theorem ZN {p q:Nat} (h:(decide ((2:Int) < (wl q:Nat)) || (decide ((2:Int) < (wl p:Nat)) && decide ((0:Int) < (wl q:Nat)))) = false):wl q = 0∨(wl q≤2∧wl p≤2):=by
 simp at h;omega
theorem wZ (hx:wl x.natAbs≤549755813888) (hy:wl y.natAbs≤549755813888):AC aD true 113 [aS x,aS y] (.dat (aS ((aw x.natAbs y.natAbs:Nat):Int))):=by
 obtain ⟨G,hG⟩:∃ G,aw x.natAbs y.natAbs = G:=⟨_,rfl⟩;rw [hG];refine aix 57 Tryz.func113 (k:=go 0 [[0,0,1],[5,2,3,4],[2]] (k:=dC 8 mixed (go 3 [[1]] (k:=bG 1 (ct:=ak eN (jR (x:=x.natAbs) (by omega)) (ct:=go 3 [[1]] (k:=bG 1 (ct:=ak eN (jR (x:=y.natAbs) (by omega)) (ct:=go 3 [[3,4,5,6],[3]] (k:=?_))))))))));refine CT.weak (aZ (ι:=Nat × Nat) (fun p=>[(4,.box uz),(5,.dat (.mag p.1)),(6,.dat (.mag p.2))]) (fun p=>wl p.1≤549755813888∧wl p.2≤549755813888∧aw p.1 p.2 = G) (fun p=>p.2) ?_ ((x.natAbs,y.natAbs)) (⟨hx,hy,hG⟩)) (sbk [4,5,6]);intro ⟨p,e⟩ ⟨hp,hq,hg⟩;refine SQ [4,5,6] (k:=?_);simp only at hp hq hg ⊢;refine go 0 [[4]] (k:=q (aI) (q iT (q aC (fD (h:=aC) (k:=cZ 21 (h:=aI) (k:=cZ 22 (h:=iT) (k:=cZ 23 (h:=aC) (k:=gw0 (h:=fun hgc hg=>aC) (k:=?_)))))))));refine gw1 25 (h:=fun hgc hg=>aI) (k:=?_);refine gw1 26 (h:=fun hgc hg=>iT) (k:=?_);refine gq1 24 (h:=fun hg=>qx (hb:=fun e=>by first | (rw [hg,e];rfl) | simp_all)) (k:=?_);refine go 1 [[1,4,5,6,29],[1]] (k:=?_);refine dA (fun hc29=>?_) (fun hc29=>?_)
 · refine go 0 [[7]] (k:=q (a_call eN (Cc (x:=p) (y:=e) (by omega) (by omega) (LV hc29))) (go 1 [[5,4,5,6,8],[6,4,5,6],[1]] (k:=?_)));have h0:=LV hc29;have hm:p % e < e:=cQ _ h0;have hw:wl (p % e)≤wl e:=iF (by omega);exact aY ((e,p % e)) ⟨⟨hq,by show wl (p % e)≤_;omega,KC hg⟩,hm⟩ (sbk [4,5,6])
 ·
  refine go 0 [[9]] (k:=q (aI) (go 1 [[1,4,5,6,40],[1]] (k:=?_)));refine bu (fun hc40=>?_) (fun hc40=>?_)
  · have h0:e = 0:=by have:=@nK e;omega
    have hpG:p = G:=by rw [← hg,h0,fI]
    refine bP (cO (q aC (q (a_call eN (xe (x:=p) (by omega))) (q (a_call eN (jH (s:=false) (x:=p) (by omega))) (go 1 [[1,4,5,6],[3]] (k:=?_))))));exact rt_eq dG (by rw [hpG];rfl)
  ·
   have h2:wl e≤2∧wl p≤2:=by rcases ZN hc29 with h | h <;> omega
   have hp2:=Xo h2.2;have hq2:=Xo h2.1;refine go 0 [[5]] (k:=q (a_call eN (I8 (x:=p) hp2)) (q aC (q (a_call eN (I8 (x:=e) hq2)) (go 1 [[2,4,9,10],[3]] (k:=?_)))));refine CT.weak (aZ (ι:=Nat × Nat) (fun p=>[(4,.box uz),(9,.dat (.val (.int .u64 (p.1:Int)))),(10,.dat (.val (.int .u64 (p.2:Int))))]) (fun p=>p.1 < 18446744073709551616∧p.2 < 18446744073709551616∧aw p.1 p.2 = G) (fun p=>p.2) ?_ ((p,e)) (⟨hp2,hq2,hg⟩)) (sbk [4,9,10]);intro ⟨a,b⟩ ⟨ha,hb,hab⟩;refine SQ [4,9,10] (k:=?_);simp only at ha hb hab ⊢;refine go 0 [[5,4,9,10,49],[1]] (k:=?_);refine bu (fun hc49=>?_) (fun hc49=>?_)
   · refine eF (aT (Ls (dC 6 mixed (go 3 [[3]] (k:=Zo (z:=((a % b:Nat):Int)) (hq:=by omega) (hp:=by omega) (hz:=by exact (f8 a b).symm) (ct:=go 3 [[3,4,9,10],[1]] (k:=?_)))))));have hm:a % b < b:=cQ _ (by omega);exact aY ((b,a % b)) ⟨⟨hb,by show a % b < _;omega,KC hab⟩,hm⟩ (sbk [4,9,10])
   · have h0:b = 0:=by omega
     have haG:a = G:=by rw [← hab,h0,fI]
     refine go 0 [[8]] (k:=q (a_call eN (Nu (x:=a) (by omega))) (q (a_call eN (jH (s:=false) (x:=a) (by have:=YH (x:=a) (by omega);omega))) (go 1 [[1,4],[2]] (k:=?_))));exact rt_eq dG (by rw [haG];rfl)
theorem Rk {n d:Int} (hd:d≠0):n / (if d < 0 then -((aw n.natAbs d.natAbs:Nat):Int) else ((aw n.natAbs d.natAbs:Nat):Int)) = (br n d).num:=by
 rw [Rat.num_divInt];have hg:(d.gcd n:Int) = ((aw n.natAbs d.natAbs:Nat):Int):=by rw [ks];rfl
 rw [hg]
 by_cases h:d < 0
 · rw [if_pos h,aq h,kt,j7];rw [ix];exact d9.1 (ew.2 (f6 _ _))
 · rw [if_neg h,ao (by omega),eZ]
theorem Tv {n d:Int} (hd:d≠0):d / (if d < 0 then -((aw n.natAbs d.natAbs:Nat):Int) else ((aw n.natAbs d.natAbs:Nat):Int)) = ((br n d).den:Int):=by
 rw [Rat.den_divInt,if_neg hd];have hg:d.gcd n = aw n.natAbs d.natAbs:=by rw [ks];rfl
 rw [hg,dj]
 by_cases h:d < 0
 · rw [if_pos h];have:(d.natAbs:Int) = -d:=by omega
   rw [this,kt,ix];exact d9.1 (ew.2 (cV _ _))
 · rw [if_neg h];have:(d.natAbs:Int) = d:=by omega
   rw [this]
theorem ah8 (a b:Rat):br (a.num * b.den + b.num * a.den) (a.den * b.den:Int) = a + b:=by
 rw [Rat.add_def',← jt];rfl
theorem ag6 (a b:Rat):br (a.num * b.num) (a.den * b.den:Int) = a * b:=by
 rw [Rat.mul_def',← jt];rfl
theorem ahn (a b:Rat) (h:b≠0):br (a.num * b.den) (a.den * b.num:Int) = a / b:=by
 have e:a / b = br a.num a.den * (br b.num b.den)⁻¹:=by rw [iA,iA,Rat.div_def]
 rw [e,Rat.inv_divInt,Rat.divInt_mul_divInt]
variable {a:Rat}
theorem afW (h:a≠0):a.num≠0:=fun e=>h (gj.1 e)
theorem Px (a b:Rat):(a - b).num.sign = (a.num * b.den - b.num * a.den).sign:=by
 rw [Rat.sub_def',Rat.num_mkRat,if_neg (Nat.mul_ne_zero a.den_nz b.den_nz)];generalize a.num * b.den - b.num * a.den = n;have hp:0 < a.den * b.den:=Nat.mul_pos a.den_pos b.den_pos;generalize a.den * b.den = d at hp;have hg:((d.gcd n.natAbs:Nat):Int) ∣ n:=d9.1 (ew.2 (cV _ _));obtain ⟨c,hc⟩:=hg;have hg0:0 < d.gcd n.natAbs:=Nat.gcd_pos_of_pos_left _ hp;generalize d.gcd n.natAbs = g at *;subst hc;rw [gH _ (show (g:Int)≠0 by omega),gT,ao (show (0:Int) < (g:Int) by omega),eZ]
variable {b:Rat}
theorem VU:(a * b).num = (a.num / (aw a.num.natAbs b.den:Nat)) * (b.num / (aw b.num.natAbs a.den:Nat)):=by
 show (gP a b).num = _;unfold gP;simp only [il]
theorem U3:(a * b).den = (a.den / aw b.num.natAbs a.den) * (b.den / aw a.num.natAbs b.den):=by
 show (gP a b).den = _;unfold gP;simp only [iu]
theorem af6 (h:aw a.den b.den = 1):(a + b).num = a.num * b.den + b.num * a.den∧(a + b).den = a.den * b.den:=by
 constructor
 · show (ff a b).num = _;unfold ff;simp only [h,dite_true]
 · show (ff a b).den = _;unfold ff;simp only [h,dite_true]
theorem aca (h:aw a.den b.den≠1):(a + b).num = (a.num * ((b.den / aw a.den b.den:Nat):Int) + b.num * ((a.den / aw a.den b.den:Nat):Int)) / ((aw (a.num * ((b.den / aw a.den b.den:Nat):Int) + b.num * ((a.den / aw a.den b.den:Nat):Int)).natAbs (aw a.den b.den):Nat):Int):=by
 show (ff a b).num = _;unfold ff;simp only [h,dite_false];unfold iB
 split
 · rename_i hg;simp only [hg];simp
 · simp only [il]
theorem abD (h:aw a.den b.den≠1):(a + b).den = (a.den / aw a.den b.den) * (b.den / (aw (a.num * ((b.den / aw a.den b.den:Nat):Int) + b.num * ((a.den / aw a.den b.den:Nat):Int)).natAbs (aw a.den b.den))):=by
 show (ff a b).den = _;unfold ff;simp only [h,dite_false];unfold iB;have hd:∀ n:Nat,aw n (aw a.den b.den) ∣ b.den:=fun n=>gE (cV _ _) (cV _ _)
 split
 · rename_i hg;simp only [hg];simp
 · simp only [iu];rw [Nat.mul_div_assoc _ (hd _)]
theorem X8 {w:Rat} (h:w * w = a):((w.num.natAbs * w.num.natAbs:Nat):Int) = a.num∧w.den * w.den = a.den:=by
 subst h;have hg:aw w.num.natAbs w.den = 1:=w.reduced;constructor
 ·
  have:=Rat.num_mul w w;rw [this];have e:aw (w.num * w.num).natAbs (w.den * w.den) = 1:=by
   rw [e8];exact gr (dr hg hg) (dr hg hg)
  first
  | rw [e]
  | rw [fS,e]
  simp
  try exact Int.natAbs_mul_self' w.num
 ·
  have:=Rat.den_mul w w;rw [this];have e:aw (w.num * w.num).natAbs (w.den * w.den) = 1:=by
   rw [e8];exact gr (dr hg hg) (dr hg hg)
  first
  | rw [e]
  | rw [fS,e]
  simp
variable {s:Nat}
theorem ahq {r:Nat} (h1:((r * r:Nat):Int) = a.num) (h2:s * s = a.den):∃ w:Rat,0≤w∧w * w = a∧w.num = r∧w.den = s:=by
 have hs:s≠0:=fun e=>by subst e;exact a.den_nz (by simpa using h2.symm)
 have hc:aw r s = 1:=by
  have h3:aw (r * r) (s * s) = 1:=by
   have:r * r = a.num.natAbs:=by omega
   rw [this,h2];exact a.reduced
  have h4:aw r s ∣ aw (r * r) (s * s):=Nat.dvd_gcd (gE (f6 _ _) (jn _ _)) (gE (cV _ _) (jn _ _));rw [h3] at h4;exact Nat.eq_one_of_dvd_one h4
 have hw:((⟨(r:Int),s,hs,hc⟩:Rat) * ⟨(r:Int),s,hs,hc⟩) = a:=by
  obtain ⟨e1,e2⟩:=X8 (a:=(⟨(r:Int),s,hs,hc⟩:Rat) * ⟨(r:Int),s,hs,hc⟩) (w:=⟨(r:Int),s,hs,hc⟩) rfl;simp only [fL] at e1 e2;exact Rat.ext (by rw [← e1,h1]) (by rw [← e2,h2])
 exact ⟨⟨(r:Int),s,hs,hc⟩,Rat.num_nonneg.1 (by simp),hw,rfl,rfl⟩
theorem Wv {a x:Nat} (hx:0 < x):a < ((x + a / x) / 2 + 1) * ((x + a / x) / 2 + 1):=by
 have h1:a < (a / x + 1) * x:=by
  rw [eW,Nat.one_mul,bs];have:=j5 a x;have h2:=cQ a hx;omega
 generalize a / x = q at *;have h3:x + (q + 1)≤2 * ((x + q) / 2 + 1):=by omega
 generalize (x + q) / 2 + 1 = s at *;have h4:(x + (q + 1)) * (x + (q + 1))≤(2 * s) * (2 * s):=cH h3 h3;have h5:4 * ((q + 1) * x)≤(x + (q + 1)) * (x + (q + 1)):=by
  generalize q + 1 = t;rcases Nat.le_total x t with h | h
  · obtain ⟨k,rfl⟩:=gM h;have:(x + (x + k)) * (x + (x + k)) = 4 * ((x + k) * x) + k * k:=by grind
    omega
  · obtain ⟨k,rfl⟩:=gM h;have:(t + k + t) * (t + k + t) = 4 * (t * (t + k)) + k * k:=by grind
    omega
 have h6:(2 * s) * (2 * s) = 4 * (s * s):=by grind
 omega
theorem VD {a x:Nat} (h:x≤(x + a / x) / 2):x * x≤a:=by
 have h1:x≤a / x:=by omega
 exact cg (bj x h1) (Nat.mul_div_le a x)
def Ig (a r:Nat):Prop:=r * r≤a∧a < (r + 1) * (r + 1)
theorem Ig.eq {a r k:Nat} (h:Ig a r) (hk:k * k = a):r * r = a:=by
 obtain ⟨h1,h2⟩:=h;subst hk;have h3:r≤k:=fY fun h=>by
  have:(k + 1) * (k + 1)≤r * r:=cH h h;have:(k + 1) * (k + 1) = k * k + 2 * k + 1:=by grind
  omega
 have h4:k < r + 1:=Nat.lt_of_not_le fun h=>by
  have:=cH h h;omega
 have:r = k:=by omega
 rw [this]
def QX (a b:Rat):Int:=(a - b).num.sign
theorem acL {r:Nat} (h1:((r * r:Nat):Int) = a.num) (h2:s * s = a.den):∃ w,vM a = some w∧w.num = r∧w.den = s:=by
 obtain ⟨w,w0,w1,w2,w3⟩:=ahq h1 h2;exact ⟨w,afH w0 w1,w2,w3⟩
theorem Ph (h:∀ r s:Nat,((r * r:Nat):Int) = a.num→s * s = a.den→False):vM a = none:=by
 cases e:vM a with
 | none=>rfl
 | some w =>
  obtain ⟨h1,h2⟩:=X8 (Bl e).2;exact (h _ _ h1 h2).elim
variable {z:Int}
theorem qp (h1:-9223372036854775808≤z) (h2:z≤9223372036854775807):AC aD true 91 [vI z] (.dat (aS z)):=by
 refine AC.oD fun X w vs hx hr=>?_
 match vs,hr with
 | [v],hr =>
  rw [gy hr.1];refine (Jv z w h1 h2).mono ?_;rintro e w' ⟨h1,r,h2,h3⟩;exact ⟨h1,r,h2,uG.2 ⟨rfl,h3⟩⟩
theorem Qq {n:Nat} (h:n≤70368744177664):AC aD true 240 [vI (n:Int)] (.dat (.mag (2 ^ n))):=by
 refine AC.oD fun X w vs hx hr=>?_
 match vs,hr with
 | [v],hr =>
  rw [gy hr.1];refine (JC n w h).mono ?_;rintro e w' ⟨h1,r,h2,h3⟩;exact ⟨h1,r,h2,jW rfl h3⟩
theorem abu {x:Nat} (h:x < 4294967296):AC aD true 223 [.val (.int .u32 (x:Int))] (.dat (vI (bitLen x:Int))):=by
 refine AC.oD fun X w vs hx hr=>?_
 match vs,hr with
 | [v],hr =>
  rw [gy hr.1];refine (Jm x w h).mono ?_;rintro e w' ⟨rfl,rfl⟩;exact ⟨Below.refl _ _,_,rfl,dh rfl⟩
theorem RS {x:Nat} (h:0 < x):uN x (wl x - 1) = x / 4294967296 ^ (wl x - 1)∧0 < uN x (wl x - 1):=by
 have h0:=nK.2 h;have h1:=jQ.1 (ar (wl x));have h2:¬ x < 4294967296 ^ (wl x - 1):=fun hh=>by have:=jQ.2 hh;omega
 have e:wl x = (wl x - 1) + 1:=by omega
 generalize wl x - 1 = k at *;rw [e,bw] at h1;have hp:0 < 4294967296 ^ k:=bX (by omega);have h3:x / 4294967296 ^ k < 4294967296:=by rw [eT hp];rwa [bs]
 have h4:0 < x / 4294967296 ^ k:=Nat.div_pos (by omega) hp;unfold uN;rw [eE h3];exact ⟨rfl,h4⟩
theorem abl {x:Nat}:(decide (wl x = 1) && decide (uN x 0 = 1)) = decide (x = 1):=by
 by_cases h:x = 1
 · subst h;decide
 ·
  rw [decide_eq_false h]
  by_cases h1:wl x = 1
  · have h2:=jQ.1 (Nat.le_of_eq h1);have:uN x 0 = x:=by unfold uN;simp at h2 ⊢;omega
    rw [this,decide_eq_false h,Bool.and_false]
  · rw [decide_eq_false h1,kd]
theorem aaP (x:Int):(decide (((wl x.natAbs:Nat):Int) = 0) && !decide (x < 0) || (decide ((0:Int) < ((wl x.natAbs:Nat):Int)) && decide (((uN x.natAbs (wl x.natAbs - 1):Nat):Int)≠0))) = true:=by
 rcases a6 x.natAbs with h | h
 · have:x = 0:=by omega
   subst this;decide
 · have h1:=nK.2 h;have h2:=(RS h).2;rw [jN];right;rw [fX,decide_eq_true_iff,decide_eq_true_iff];omega
theorem NH (x:Int):(!decide (x < 0) && decide (((wl x.natAbs:Nat):Int) = 1) && decide (((uN x.natAbs 0:Nat):Int) = 1)) = decide (x = 1):=by
 have h:=@abl x.natAbs;have e1:decide (((wl x.natAbs:Nat):Int) = 1) = decide (wl x.natAbs = 1):=by rw [decide_eq_decide];omega
 have e2:decide (((uN x.natAbs 0:Nat):Int) = 1) = decide (uN x.natAbs 0 = 1):=by rw [decide_eq_decide];omega
 rw [e1,e2,ke,h]
 by_cases h1:x < 0
 · rw [decide_eq_true h1,decide_eq_false (show ¬ x = 1 by omega)];rfl
 · rw [decide_eq_false h1]
   by_cases h2:x = 1
   · subst h2;rfl
   · rw [decide_eq_false h2,decide_eq_false (show ¬ x.natAbs = 1 by omega)];rfl
theorem Og (hx:wl x.natAbs≤549755813888):AC aD true 156 [aS x] (.dat (vB true)):=by
 refine aix 27 Tryz.func156 (k:=go 0 [[0,0],[4,1,2],[4]] (k:=q (aX 1) (q (aI) (go 1 [[1,1,2,3],[6]] (k:=fD (h:=dn) (k:=cZ 10 (h:=aX 0) (k:=cZ 11 (h:=iV) (k:=q qx (q aC (fD (h:=aC) (k:=cZ 15 (h:=iT) (k:=cZ 16 (h:=aC) (k:=gw0 (h:=fun hgc hg=>dn) (k:=?_))))))))))))));refine gw1 18 (h:=fun hgc hg=>aX 1) (k:=?_);refine gw0 (h:=fun hgc hg=>aC) (k:=?_);refine gw1 20 (h:=fun hgc hg=>eG (z:=(wl x.natAbs:Int) - 1)) (k:=?_);refine gw2 19 21 (h:=fun hgc hg=>adt (i:=wl x.natAbs - 1) (hz:=by simp at hg;omega) (hi:=by simp at hg;omega)) (k:=?_);refine gw1 22 (h:=fun hgc hg=>acd) (k:=?_);refine gw1 23 (h:=fun hgc hg=>oI) (k:=?_);refine gq1 17 (h:=fun hg=>qx (hb:=fun e=>by first | (rw [hg,e];rfl) | simp_all)) (k:=?_);refine go 1 [[2,2],[2]] (k:=?_);exact rt_eq dG (congrArg (fun b=>F.dat (vB b)) (aaP x))
theorem LM {x:Nat} (h:0 < x):32 * (wl x - 1) + bitLen (uN x (wl x - 1)) = bitLen x:=by
 have h1:=RS h;have e:(4294967296:Nat) ^ (wl x - 1) = 2 ^ (32 * (wl x - 1)):=by rw [eV]
 have h2:uN x (wl x - 1) = x / 2 ^ (32 * (wl x - 1)):=h1.1.trans (by rw [e]);rw [h2] at h1 ⊢;rw [← bitLen_shift x (32 * (wl x - 1)) (by omega)]
theorem JD {x:Nat}:bitLen x≤32 * wl x:=by
 unfold bitLen wl
 split
 · omega
 · omega
theorem afM (x i:Nat):uN x i < 4294967296:=cQ _ (by omega)
theorem abp (hx:wl x.natAbs≤549755813888):AC aD true 239 [aS x] (.dat (vI (bitLen x.natAbs:Int))):=by
 have hlt:=afM x.natAbs (wl x.natAbs - 1);have hbl:=@JD x.natAbs;refine aix 22 Tryz.func239 (k:=go 0 [[0,0],[4,1,2],[4]] (k:=q (aX 1) (q (a_call eN (jR (x:=x.natAbs) (by omega))) (go 1 [[1,2,3],[5]] (k:=q (aI) (go 1 [[1,2,3,9],[1]] (k:=?_)))))));refine bu (fun hc9=>?_) (fun hc9=>?_)
 · have h0:x.natAbs = 0:=by have:=@nK x.natAbs;omega
   refine go 0 [[3,2,3],[3]] (k:=?_);exact rt_eq dG (by rw [h0];rfl)
 · have h0:0 < x.natAbs:=by have:=@nK x.natAbs;omega
   have hbt:=LM h0;exact go 0 [[5]] (k:=q (aI) (q (eG (z:=((wl x.natAbs - 1:Nat):Int)) (hz:=by omega)) (q (afP (z:=((32 * (wl x.natAbs - 1):Nat):Int)) (hz:=by omega)) (q aC (q aC (q (aI) (q (eG (z:=((wl x.natAbs - 1:Nat):Int)) (hz:=by omega)) (q (adt (i:=wl x.natAbs - 1) (hz:=rfl) (hi:=by omega)) (q (acd) (q (a_call eN (abu (x:=uN x.natAbs (wl x.natAbs - 1)) hlt)) (q (Bz (z:=((bitLen x.natAbs:Nat):Int)) (hz:=by omega)) (go 1 [[1,2],[2]] (k:=dG)))))))))))))
def lg:Nat→Nat
 | 0=>0
 | a + 1=>if (lg a + 1) * (lg a + 1)≤a + 1 then lg a + 1 else lg a
theorem yY:∀ a,Ig a (lg a)
 | 0=>⟨by decide,by decide⟩
 | a + 1=>by
  obtain ⟨h1,h2⟩:=yY a;unfold lg
  split
  · rename_i h;refine ⟨h,?_⟩;have:(lg a + 1 + 1) * (lg a + 1 + 1) = (lg a + 1) * (lg a + 1) + 2 * (lg a + 1) + 1:=by grind
    omega
  · exact ⟨by omega,by omega⟩
theorem Ig.uniq {a r:Nat} (h:Ig a r) (k:Ig a s):r = s:=by
 have key:∀ {r s:Nat},Ig a r→Ig a s→¬ r < s:=fun {r s} h k hlt=>by
  have:(r + 1) * (r + 1)≤s * s:=cH hlt hlt;have h2:=h.2;have k1:=k.1;omega
 exact eK (fY (key k h)) (fY (key h k))
theorem Vb {x:Nat} (h:¬ (0:Int)≤((((x + N / x) / 2:Nat):Int) - (x:Nat)).sign):(x + N / x) / 2 < x:=by
 rcases bB ((x + N / x) / 2) x with h1 | h1
 · exact h1
 · exact absurd (by
    rcases Nat.eq_or_lt_of_le h1 with h2 | h2
    · rw [← h2,gS];decide
    · rw [ao (by omega)];decide) h
theorem Vl {x:Nat} (h:(0:Int)≤((((x + N / x) / 2:Nat):Int) - (x:Nat)).sign):x≤(x + N / x) / 2:=by
 rcases bB ((x + N / x) / 2) x with h1 | h1
 · rw [aq (by omega)] at h;exact absurd h (by decide)
 · exact h1
theorem Yx:N < (2 ^ (bitLen N / 2 + 1) + 1) * (2 ^ (bitLen N / 2 + 1) + 1):=by
 have h1:=(bitLen_spec N).1;have h2:bitLen N≤2 * (bitLen N / 2 + 1):=by omega
 have h3:2 ^ bitLen N≤2 ^ (2 * (bitLen N / 2 + 1)):=ck (by omega) h2;have h4:2 ^ (2 * (bitLen N / 2 + 1)) = 2 ^ (bitLen N / 2 + 1) * 2 ^ (bitLen N / 2 + 1):=by rw [← ep];congr 1;omega
 rw [h4] at h3;generalize 2 ^ (bitLen N / 2 + 1) = p at *;have:(p + 1) * (p + 1) = p * p + 2 * p + 1:=by grind
 omega
theorem afR (n:Nat):wl (2 ^ n)≤n / 32 + 1:=jQ.2 (by
 have e:(4294967296:Nat) ^ (n / 32 + 1) = 2 ^ (32 * (n / 32 + 1)):=by rw [eV]
 rw [e];exact dc (by omega) (by omega))
theorem Qi {x:Nat} (h:0 < N) (h2:N < ((x + N / x) / 2 + 1) * ((x + N / x) / 2 + 1)):0 < (x + N / x) / 2:=by
 rcases a6 ((x + N / x) / 2) with h0 | h0
 · rw [h0] at h2;omega
 · exact h0
theorem Qr {x k:Nat} (h1:wl N≤k) (h2:wl x≤k):wl (x + N / x)≤k + 1:=by
 have:=Ju x (N / x);have h3:wl (N / x)≤wl N:=iF (bA _ _);omega
theorem VO (hx:wl x.natAbs≤137438953472) (h0:x < 0):AC aD true 225 [aS x] (.bT [uz,vI 7]):=by
 exact aix 42 Tryz.func225 (k:=go 0 [[0,0],[5,1,2,3],[5]] (k:=q (a_call eN (uF (x:=x) (by omega))) (go 1 [[0,1,2,3,10],[6,1,2,3,10,11],[1]] (k:=cfy (h:=(aq h0)) (k:=go 0 [[5,1,2,3],[4]] (k:=qJ))))))
theorem Wl:AC aD true 225 [aS 0] (.bT [uz,vI 0]):=by
 exact aix 42 Tryz.func225 (k:=go 0 [[0,0],[5,1,2,3],[5]] (k:=q (a_call eN (uF (x:=0) (by decide))) (go 1 [[0,1,2,3,10],[6,1,2,3,10,11],[6,1,2,3,14],[7,1,2,3],[4]] (k:=qJ))))
theorem VG (hx:wl N≤137438953472) (h0:0 < N):AC aD true 225 [aS (N:Int)] (.bT [aS ((lg N:Nat):Int),vI 0]):=by
 have hsg:((N:Nat):Int).sign = 1:=ao (by omega);have hbl:=@JD N;have hwp:=afR (bitLen N / 2 + 1);refine aix 42 Tryz.func225 (k:=go 0 [[0,0],[5,1,2,3],[5]] (k:=q (a_call eN (uF (x:=(N:Int)) (by exact cg hx (by omega)))) (go 1 [[0,1,2,3,10],[6,1,2,3,10,11],[1]] (k:=?_))));refine bu (fun hc11=>?_) (fun hc11=>?_)
 · rw [hsg] at hc11;exact absurd hc11 (by decide)
 ·
  refine go 0 [[4,1,2,3,14],[1]] (k:=?_);refine bu (fun hc14=>?_) (fun hc14=>?_)
  · rw [hsg] at hc14;exact absurd hc14 (by decide)
  · refine go 0 [[6]] (k:=q (a_call eN (abp (x:=(N:Int)) (by exact cg hx (by omega)))) (q (nR (z:=((bitLen N / 2:Nat):Int)) (hp:=ea _) (h2:=by simp only [fL];omega) (hz:=by simp only [fL];omega)) (q (bH (z:=((bitLen N / 2 + 1:Nat):Int))) (go 1 [[1,1,2,3,4],[4]] (k:=q (a_call eN (Qq (n:=bitLen N / 2 + 1) (by omega))) (go 1 [[1,1,2,3,5],[2]] (k:=?_)))))));refine CT.weak (aZ (ι:=Nat) (fun p=>[(1,.box (aS (N:Int))),(2,.box uz),(5,.dat (.mag p))]) (fun p=>0 < p∧N < (p + 1) * (p + 1)∧wl p≤137438953600) (fun p=>p) ?_ (2 ^ (bitLen N / 2 + 1)) (⟨bX (by omega),Yx,by omega⟩)) (sbk [1,2,5]);intro p ⟨hp,hn,hw⟩;refine SQ [1,2,5] (k:=?_);have hq:wl (N / p)≤wl N:=iF (bA _ _);have hpb:=Qr (k:=137438953600) (N:=N) (x:=p) (by omega) hw;have hhf:wl ((p + N / p) / 2)≤wl (p + N / p):=iF (bA _ _);have hge:=Wv (a:=N) hp;refine go 0 [[4]] (k:=q (aX 1) (q (a_call eN (jR (x:=N) (by omega))) (q aC (q (a_call eN (Cc (x:=N) (y:=p) (by omega) (by omega) hp)) (go 1 [[5,1,2,5,6],[5]] (k:=q (a_call eN (SX (x:=p) (y:=N / p) (by omega) (by omega))) (q (a_call eN (aa1 (x:=p + N / p) (by omega))) (go 1 [[1,1,2,5,8],[6]] (k:=q (a_call eN (yX (x:=(p + N / p) / 2) (y:=p) (by omega) (by omega))) (go 1 [[1,1,2,5,8,38],[1]] (k:=?_)))))))))));refine bu (fun hc38=>?_) (fun hc38=>?_)
    · have hr:p = lg N:=Ig.uniq ⟨VD (Vl hc38),hn⟩ (yY N);refine bP (cO (q aC (q (a_call eN (jH (s:=false) (x:=p) (by omega))) (go 1 [[2,1,2,3,5,8],[6]] (k:=?_)))));exact rt_eq qJ (by rw [hr];rfl)
    · refine go 0 [[5,1,2,5],[1]] (k:=?_);have hlt:=Vb hc38;have hwl:wl ((p + N / p) / 2)≤wl p:=iF (by omega);exact aY ((p + N / p) / 2) ⟨⟨Qi h0 hge,hge,by omega⟩,hlt⟩ (sbk [1,2,5])
theorem xO (hx:wl x.natAbs≤549755813888):AC aD true 149 [aS x] (.dat (vB (decide (x = 1)))):=by
 refine aix 19 Tryz.func149 (k:=go 0 [[0,0],[4,1,2],[4]] (k:=q (aX 0) (q iV (q aC (fD (h:=dn) (k:=cZ 7 (h:=aX 1) (k:=cZ 8 (h:=aI) (k:=cZ 9 (h:=eu) (k:=q qx (q aC (fD (h:=dn) (k:=cZ 13 (h:=aX 1) (k:=gq1 14 (h:=fun hg=>Zn (i:=0) (hz:=rfl) (hi:=by simp at hg;omega)) (k:=?_))))))))))))));refine cZ 15 (h:=acd) (k:=cZ 16 (h:=eu) (k:=go 1 [[2,2],[2]] (k:=?_)));exact rt_eq dG (congrArg (fun b=>F.dat (vB b)) (NH x))
theorem aen (x:Int):decide (((wl x.natAbs:Nat):Int) = 0) = decide (x = 0):=by
 rw [decide_eq_decide];have:=@qX x.natAbs;omega
theorem acQ:AC aD true 94 [aS x] (.dat (vB (decide (x = 0)))):=by
 refine aix 7 Tryz.func94 (k:=go 0 [[0,0],[4,1,2],[4]] (k:=q (aX 1) (q (aI) (go 1 [[2,2],[2]] (k:=?_)))));exact rt_eq dG (congrArg (fun b=>F.dat (vB b)) (aen x))
theorem ZJ:AC aD true 92 [] (.dat (aS 1)):=by
 exact aix 2 Tryz.func92 (k:=SQ [] (k:=go 0 [[3,0],[3]] (k:=q (a_call eN (qp (z:=1) (by decide) (by decide))) (go 1 [[1,0],[2]] (k:=dG)))))
theorem yR {n:Int} (h1:-9223372036854775808≤n) (h2:n≤9223372036854775807):AC aD true 47 [vI n] (.dat (af (n:Rat))):=by
 refine aix 7 Tryz.func47 (k:=go 0 [[0,0],[3,0,2],[4]] (k:=q (a_call eN (qp h1 h2)) (q (a_call eN (ZJ)) (go 1 [[2,2],[2]] (k:=?_)))));exact rt_eq dG rfl
theorem UI {a b:Int} (ha:wl a.natAbs≤549755813888) (hb:wl b.natAbs≤549755813888) (h0:b≠0) (hd:b ∣ a):AC aD true 141 [aS a,aS b] (.dat (aS (a / b))):=by
 refine aix 19 Tryz.func141 (k:=go 0 [[0,0,1],[5,2,3,4],[5]] (k:=q (a_call eN (xO (x:=b) hb)) (gU [2,3,4,9] (k:=aT ?_))));refine dA (fun hc9=>?_) (fun hc9=>?_)
 · have hb1:b = 1:=of_decide_eq_true hc9;refine go 0 [[4,2,3,4],[3]] (k:=?_);exact rt_eq dG (by rw [hb1,Int.ediv_one])
 · exact go 0 [[6]] (k:=q (a_call eN (kG ha hb h0 hd)) (go 1 [[9,4,5],[5,4],[2]] (k:=dG)))
abbrev gN (n d:Int):Nat:=aw n.natAbs d.natAbs
section
variable {n d:Int}
theorem VC:((gN n d:Nat):Int) ∣ n:=d9.1 (ew.2 (f6 _ _))
theorem VX:((gN n d:Nat):Int) ∣ d:=d9.1 (ew.2 (cV _ _))
theorem Cm (hd:d≠0):0 < gN n d:=Nat.gcd_pos_of_pos_right _ (by omega)
theorem adH (hd:d≠0):wl (gN n d)≤wl d.natAbs:=iF (Nat.gcd_le_right _ (by omega))
theorem vY (hd:d≠0):wl ((gN n d:Nat):Int).natAbs≤wl d.natAbs:=adH hd
theorem XE (hd:d≠0):wl (-((gN n d:Nat):Int)).natAbs≤wl d.natAbs:=by rw [d8];exact adH hd
theorem Me (h:d < 0):n / -((gN n d:Nat):Int) = (br n d).num:=by have:=Rk (n:=n) (d:=d) (by omega);rwa [if_pos h] at this
theorem LJ (h:d < 0):d / -((gN n d:Nat):Int) = ((br n d).den:Int):=by have:=Tv (n:=n) (d:=d) (by omega);rwa [if_pos h] at this
theorem Nl (h0:d≠0) (h:¬ d < 0):n / ((gN n d:Nat):Int) = (br n d).num:=by have:=Rk (n:=n) (d:=d) h0;rwa [if_neg h] at this
theorem Oc (h0:d≠0) (h:¬ d < 0):d / ((gN n d:Nat):Int) = ((br n d).den:Int):=by have:=Tv (n:=n) (d:=d) h0;rwa [if_neg h] at this
end
theorem Bg {n d:Int} (hn:wl n.natAbs≤549755813888) (hd:wl d.natAbs≤549755813888) (h0:d≠0):AC aD true 95 [aS n,aS d] (.dat (af (br n d))):=by
 have g1:=vY (n:=n) h0;have g2:=XE (n:=n) h0;have g0:=Cm (n:=n) h0;have gn:=@VC n d;have gd:=@VX n d;refine aix 20 Tryz.func95 (k:=go 0 [[0,0,1],[5,2,3,4],[5]] (k:=q (a_call eN (wZ hn hd)) (go 1 [[2,2,3,4,5],[5]] (k:=q (aX 0) (gU [2,3,4,5,10] (k:=aT ?_))))));refine dA (fun hc10=>?_) (fun hc10=>?_)
 · have hs:d < 0:=of_decide_eq_true hc10;refine cO (q bM (q (a_call eN (XH (x:=((gN n d:Nat):Int)) (by omega))) (go 1 [[1,2,3,4,5],[2]] (k:=dC 7 mixed (go 3 [[2]] (k:=ak eN (UI (a:=n) (b:=-((gN n d:Nat):Int)) hn (by omega) (by omega) (gg.2 gn)) (ct:=go 3 [[2]] (k:=ak eN (UI (a:=d) (b:=-((gN n d:Nat):Int)) hd (by omega) (by omega) (gg.2 gd)) (ct:=go 3 [[3,4],[2]] (k:=?_))))))))));exact rt_eq dG (by unfold af;rw [← Me hs,← LJ hs])
 · have hs:¬ d < 0:=of_decide_eq_false hc10;refine eF (aT (bP (dC 7 mixed (go 3 [[2]] (k:=ak eN (UI (a:=n) (b:=((gN n d:Nat):Int)) hn (by omega) (by omega) gn) (ct:=go 3 [[2]] (k:=ak eN (UI (a:=d) (b:=((gN n d:Nat):Int)) hd (by omega) (by omega) gd) (ct:=go 3 [[3,4],[2]] (k:=?_)))))))));exact rt_eq dG (by unfold af;rw [← Nl h0 hs,← Oc h0 hs])
theorem Rb.n (h:Rb a):wl a.num.natAbs≤68719476736:=h.1
theorem Rb.d (h:Rb a):wl a.den≤68719476736:=h.2
theorem Rb.d' (h:Rb a):wl ((a.den:Nat):Int).natAbs≤68719476736:=h.2
theorem jT {x y:Int}:wl (x * y).natAbs≤wl x.natAbs + wl y.natAbs:=by rw [e8];exact Kt _ _
theorem Kr {x y:Int}:wl (x + y).natAbs≤max (wl x.natAbs) (wl y.natAbs) + 1:=cg (iF (Int.natAbs_add_le x y)) (Ju _ _)
theorem qC (a:Rat):((a.den:Nat):Int)≠0:=by have:=a.den_nz;omega
theorem Gf (a b:Rat):((a.den:Nat):Int) * ((b.den:Nat):Int)≠0:=kb (qC a) (qC b)
theorem Eh (h:((a.den:Nat):Int) = 1):a = ((a.num:Int):Rat):=by
 have:a.den = 1:=by omega
 exact Rat.ext rfl (by rw [this];rfl)
theorem En (h:(decide (((a.den:Nat):Int) = 1) && decide (((b.den:Nat):Int) = 1)) = true):((a.den:Nat):Int) = 1∧((b.den:Nat):Int) = 1:=by
 rw [fX] at h;exact ⟨of_decide_eq_true h.1,of_decide_eq_true h.2⟩
theorem NW (h:((a.den:Nat):Int) = 1∧((b.den:Nat):Int) = 1):D.agg [aS (a.num + b.num),aS 1] = af (a + b):=by
 have e:a + b = ((a.num + b.num:Int):Rat):=by rw [Eh h.1,Eh h.2];exact (Rat.intCast_add _ _).symm
 rw [e];rfl
theorem Ox (h:((a.den:Nat):Int) = 1∧((b.den:Nat):Int) = 1):D.agg [aS (a.num * b.num),aS 1] = af (a * b):=by
 have e:a * b = ((a.num * b.num:Int):Rat):=by rw [Eh h.1,Eh h.2];exact (Rat.intCast_mul _ _).symm
 rw [e];rfl
theorem JE {n d:Int} (hn:wl n.natAbs≤549755813888) (hd:wl d.natAbs≤549755813888) (h0:d≠0):AC aD true 48 [aS n,aS d] (.bT [af (br n d),vI 0]):=by
 exact aix 16 Tryz.func48 (k:=go 0 [[0,0,1],[6,2,3,4,5],[2]] (k:=dC 4 mixed (go 3 [[1]] (k:=ak eN (Tu (x:=n) (by omega)) (ct:=go 3 [[1]] (k:=ak eN (Tu (x:=d) (by omega)) (ct:=go 3 [[3,2,3,4,5],[5]] (k:=q (a_call eN (acQ (x:=d))) (gU [2,3,4,5,11] (k:=aT (O3 (h:=(fun hc11=>absurd (of_decide_eq_true hc11) h0)) (k:=go 0 [[6]] (k:=q (a_call eN (Bg hn hd h0)) (go 1 [[2,4,5],[2]] (k:=qJ)))))))))))))))
theorem KL {n:Int} (h1:-9223372036854775808≤n) (h2:n≤9223372036854775807):wl n.natAbs≤2:=YH (by omega)
theorem aeh {n p:Int} (h1:-9223372036854775808≤n) (h2:n≤9223372036854775807) (h3:-9223372036854775808≤p) (h4:p≤9223372036854775807) (h0:p≠0):AC aD true 195 [vI n,vI p] (.dat (af (br n p))):=by
 have hn:=KL h1 h2;have hp:=KL h3 h4;exact aix 19 Tryz.func195 (k:=go 0 [[0,0,1],[3,0,1,4],[4]] (k:=q (a_call eN (qp h1 h2)) (q aC (q (a_call eN (qp h3 h4)) (q (a_call eN (JE (n:=n) (d:=p) (by omega) (by omega) h0)) (go 1 [[6,4,5,6],[6,4,5,16],[8,4],[2]] (k:=dG)))))))
theorem JV:AC aD true 195 [vI 1,vI 2] (.dat (af (1 / 2))):=by
 have:=aeh (n:=1) (p:=2) (by decide) (by decide) (by decide) (by decide) (by decide);rw [show br 1 2 = 1 / 2 by decide +kernel] at this;exact this
theorem AO:AC aD true 47 [vI 0] (.dat (af 0)):=(yR (n:=0) (by decide) (by decide)).eq rfl
theorem Xh:AC aD true 47 [vI 1] (.dat (af 1)):=(yR (n:=1) (by decide) (by decide)).eq rfl
theorem valid_eq (a:Rat):(true && true && decide ((0:Int) < ((a.den:Nat):Int).sign) && decide (((aw a.num.natAbs ((a.den:Nat):Int).natAbs:Nat):Int) = 1)) = true:=by
 have h:aw a.num.natAbs ((a.den:Nat):Int).natAbs = 1:=a.reduced;have hp:=a.den_pos;rw [h,ao (by omega)];rfl
theorem NU (ha:Rb a):AC aD true 107 [af a] (.dat (vB true)):=by
 have h1:=ha.n;have h2:=ha.d';have h3:=vY (n:=a.num) (qC a);refine aix 25 Tryz.func107 (k:=go 0 [[0,0],[4,1,2],[4]] (k:=q (aX 0) (q (a_call eN (Og (x:=a.num) (by omega))) (q aC (fD (h:=dn) (k:=cZ 7 (h:=aX 1) (k:=cZ 8 (h:=a_call eN (Og (x:=((a.den:Nat):Int)) (by omega))) (k:=q qx (q aC (fD (h:=dn) (k:=cZ 12 (h:=aX 1) (k:=cZ 13 (h:=a_call eN (uF (x:=((a.den:Nat):Int)) (by omega))) (k:=cZ 14 (h:=iT) (k:=q qx (q aC (fD (h:=dn) (k:=cZ 18 (h:=aX 0) (k:=fD (h:=dn) (k:=cZ 20 (h:=aX 1) (k:=qN 19 21 (h:=a_call eN (wZ (x:=a.num) (y:=((a.den:Nat):Int)) (by omega) (by omega))) (k:=cZ 22 (h:=a_call eN (xO (x:=((gN a.num ((a.den:Nat):Int):Nat):Int)) (by omega))) (k:=go 1 [[2,2],[2]] (k:=?_)))))))))))))))))))))));exact rt_eq dG (congrArg (fun b=>F.dat (vB b)) (valid_eq a))
theorem xu (ha:Rb a):AC aD true 52 [af a] (.dat (vI a.num.sign)):=by
 have h1:=ha.n;exact aix 6 Tryz.func52 (k:=go 0 [[0,0],[4,1,2],[4]] (k:=q (aX 0) (q (a_call eN (uF (x:=a.num) (by omega))) (go 1 [[1,2],[2]] (k:=dG)))))
theorem J6 (a b:Rat):QX a b = (a.num * ((b.den:Nat):Int) - b.num * ((a.den:Nat):Int)).sign:=Px a b
theorem sg3 (x:Int):x.sign = -1∨x.sign = 0∨x.sign = 1:=by
 rcases bc x 0 with h | h | h
 · exact .inl (aq h)
 · exact .inr (.inl (by rw [h];rfl))
 · exact .inr (.inr (ao h))
theorem ahU (h:x.sign≠y.sign):(x.sign - y.sign).sign = (if x.sign < y.sign then -1 else 1):=by
 rcases sg3 x with h1 | h1 | h1 <;> rcases sg3 y with h2 | h2 | h2 <;> rw [h1,h2] at h ⊢ <;> first | exact absurd rfl h | decide
theorem WI (h:a.num.sign≠b.num.sign):QX a b = (if a.num.sign < b.num.sign then -1 else 1):=by
 rw [J6];have ha:(0:Int) < ((a.den:Nat):Int):=by have:=a.den_pos;omega
 have hb:(0:Int) < ((b.den:Nat):Int):=by have:=b.den_pos;omega
 have e1:(a.num * ((b.den:Nat):Int)).sign = a.num.sign:=by rw [gT,ao hb,Int.mul_one]
 have e2:(b.num * ((a.den:Nat):Int)).sign = b.num.sign:=by rw [gT,ao ha,Int.mul_one]
 rw [← ahf (by rw [e1,e2];exact h),e1,e2];exact ahU h
theorem YJ (ha:Rb a) (hb:Rb b):AC aD true 74 [af a,af b] (.dat (vI (QX a b))):=by
 have h1:=ha.n;have h2:=ha.d';have h3:=hb.n;have h4:=hb.d';have m1:=@jT a.num ((b.den:Nat):Int);have m2:=@jT b.num ((a.den:Nat):Int);refine aix 28 Tryz.func74 (k:=go 0 [[0,0,1],[5,2,3,4],[3]] (k:=dC 6 mixed (go 3 [[1]] (k:=ak eN (xu ha) (ct:=go 3 [[1]] (k:=ak eN (xu hb) (ct:=go 3 [[3,2,3,4,5,6],[5]] (k:=q (Ji) (gU [2,3,4,5,6,13] (k:=aT ?_))))))))));refine bu (fun hc13=>?_) (fun hc13=>?_)
 · refine go 0 [[6,2,3,4,16],[1]] (k:=?_);refine bu (fun hc16=>?_) (fun hc16=>?_)
   · refine go 0 [[3,2,3,4],[4]] (k:=?_);exact rt_eq dG (by rw [WI hc13,if_pos hc16])
   · refine go 0 [[5,2,3,4],[3]] (k:=?_);exact rt_eq dG (by rw [WI hc13,if_neg hc16])
 · refine eF (aT (bP (dC 12 mixed (go 3 [[1]] (k:=bG 0 (ct:=go 3 [[1]] (k:=bG 1 (ct:=ak eN (lC (x:=a.num) (y:=((b.den:Nat):Int)) (by omega) (by omega)) (ct:=go 3 [[1]] (k:=bG 0 (ct:=go 3 [[1]] (k:=bG 1 (ct:=ak eN (lC (x:=b.num) (y:=((a.den:Nat):Int)) (by omega) (by omega)) (ct:=ak eN (TS (x:=a.num * ((b.den:Nat):Int)) (y:=b.num * ((a.den:Nat):Int)) (by omega) (by omega)) (ct:=go 3 [[2,4],[2]] (k:=?_))))))))))))))));exact rt_eq dG (by rw [J6])
theorem Jw (ha:Rb a) (hb:Rb b):AC aD true 100 [af a,af b] (.dat (af (a + b))):=by
 have h1:=ha.n;have h2:=ha.d';have h3:=hb.n;have h4:=hb.d';have m1:=@jT a.num ((b.den:Nat):Int);have m2:=@jT b.num ((a.den:Nat):Int);have m3:=@jT ((a.den:Nat):Int) ((b.den:Nat):Int);have m4:=@Kr (a.num * ((b.den:Nat):Int)) (b.num * ((a.den:Nat):Int));refine aix 39 Tryz.func100 (k:=go 0 [[0,0,1],[5,2,3,4],[5]] (k:=q (aX 1) (q (a_call eN (xO (x:=((a.den:Nat):Int)) (by omega))) (q aC (fD (h:=dn) (k:=cZ 10 (h:=aX 1) (k:=cZ 11 (h:=a_call eN (xO (x:=((b.den:Nat):Int)) (by omega))) (k:=go 1 [[1,2,3,4,13],[1]] (k:=?_)))))))));refine dA (fun hc13=>?_) (fun hc13=>?_)
 · refine bP (cO (q dn (q (aX 0) (q dn (q (aX 0) (q (a_call eN (Xg (x:=a.num) (y:=b.num) (by omega) (by omega))) (q (a_call eN (ZJ)) (go 1 [[2,2,3,4],[3]] (k:=?_)))))))));exact rt_eq dG (congrArg F.dat (NW (En hc13)))
 · refine eF (aT (bP (dC 12 mixed (go 3 [[1]] (k:=bG 0 (ct:=go 3 [[1]] (k:=bG 1 (ct:=ak eN (lC (x:=a.num) (y:=((b.den:Nat):Int)) (by omega) (by omega)) (ct:=go 3 [[1]] (k:=bG 0 (ct:=go 3 [[1]] (k:=bG 1 (ct:=ak eN (lC (x:=b.num) (y:=((a.den:Nat):Int)) (by omega) (by omega)) (ct:=ak eN (Xg (x:=a.num * ((b.den:Nat):Int)) (y:=b.num * ((a.den:Nat):Int)) (by omega) (by omega)) (ct:=go 3 [[3,2,3,4,5],[2]] (k:=dC 7 mixed (go 3 [[2]] (k:=bG 1 (ct:=go 3 [[1]] (k:=bG 1 (ct:=ak eN (lC (x:=((a.den:Nat):Int)) (y:=((b.den:Nat):Int)) (by omega) (by omega)) (ct:=ak eN (Bg (n:=a.num * ((b.den:Nat):Int) + b.num * ((a.den:Nat):Int)) (d:=((a.den:Nat):Int) * ((b.den:Nat):Int)) (by omega) (by omega) (Gf a b)) (ct:=go 3 [[2,4],[2]] (k:=?_))))))))))))))))))))))));exact rt_eq dG (by rw [ah8])
theorem QM (ha:Rb a):AC aD true 50 [af a] (.dat (af (-a))):=by
 have h1:=ha.n;refine aix 9 Tryz.func50 (k:=go 0 [[0,0],[4,1,2],[2]] (k:=dC 6 mixed (go 3 [[1]] (k:=bG 0 (ct:=ak eN (XH (x:=a.num) (by omega)) (ct:=go 3 [[1]] (k:=bG 1 (ct:=go 3 [[3,2],[2]] (k:=?_)))))))));exact rt_eq dG rfl
theorem QG (ha:Rb a) (hb:Rb b):AC aD true 103 [af a,af b] (.dat (af (a * b))):=by
 have h1:=ha.n;have h2:=ha.d';have h3:=hb.n;have h4:=hb.d';have m1:=@jT a.num b.num;have m3:=@jT ((a.den:Nat):Int) ((b.den:Nat):Int);refine aix 31 Tryz.func103 (k:=go 0 [[0,0,1],[5,2,3,4],[5]] (k:=q (aX 1) (q (a_call eN (xO (x:=((a.den:Nat):Int)) (by omega))) (q aC (fD (h:=dn) (k:=cZ 9 (h:=aX 1) (k:=cZ 10 (h:=a_call eN (xO (x:=((b.den:Nat):Int)) (by omega))) (k:=go 1 [[1,2,3,4,12],[1]] (k:=?_)))))))));refine dA (fun hc12=>?_) (fun hc12=>?_)
 · refine bP (cO (q dn (q (aX 0) (q dn (q (aX 0) (q (a_call eN (lC (x:=a.num) (y:=b.num) (by omega) (by omega))) (q (a_call eN (ZJ)) (go 1 [[2,2,3,4],[3]] (k:=?_)))))))));exact rt_eq dG (congrArg F.dat (Ox (En hc12)))
 · refine eF (aT (bP (dC 11 mixed (go 3 [[1]] (k:=bG 0 (ct:=go 3 [[1]] (k:=bG 0 (ct:=ak eN (lC (x:=a.num) (y:=b.num) (by omega) (by omega)) (ct:=go 3 [[1]] (k:=bG 1 (ct:=go 3 [[1]] (k:=bG 1 (ct:=ak eN (lC (x:=((a.den:Nat):Int)) (y:=((b.den:Nat):Int)) (by omega) (by omega)) (ct:=ak eN (Bg (n:=a.num * b.num) (d:=((a.den:Nat):Int) * ((b.den:Nat):Int)) (by omega) (by omega) (Gf a b)) (ct:=go 3 [[2,4],[2]] (k:=?_))))))))))))))));exact rt_eq dG (by rw [ag6])
theorem Yz (ha:Rb a) (hb:Rb b) (h0:b≠0):AC aD true 148 [af a,af b] (.bT [af (a / b),vI 0]):=by
 have h1:=ha.n;have h2:=ha.d';have h3:=hb.n;have h4:=hb.d';have m1:=@jT a.num ((b.den:Nat):Int);have m3:=@jT ((a.den:Nat):Int) b.num;have hz:=kb (qC a) (afW h0);refine aix 21 Tryz.func148 (k:=go 0 [[0,0,1],[6,2,3,4,5],[5]] (k:=q (aX 0) (q (a_call eN (acQ (x:=b.num))) (gU [2,3,4,5,8] (k:=aT (O3 (h:=(fun hc8=>absurd (of_decide_eq_true hc8) (afW h0))) (k:=eF (aT (bP (dC 11 mixed (go 3 [[1]] (k:=bG 0 (ct:=go 3 [[1]] (k:=bG 1 (ct:=ak eN (lC (x:=a.num) (y:=((b.den:Nat):Int)) (by omega) (by omega)) (ct:=go 3 [[1]] (k:=bG 1 (ct:=go 3 [[1]] (k:=bG 0 (ct:=ak eN (lC (x:=((a.den:Nat):Int)) (y:=b.num) (by omega) (by omega)) (ct:=ak eN (Bg (n:=a.num * ((b.den:Nat):Int)) (d:=((a.den:Nat):Int) * b.num) (by omega) (by omega) hz) (ct:=go 3 [[3,4,5],[2]] (k:=?_)))))))))))))))))))))));exact rt_eq qJ (by rw [ahn a b h0])
theorem Rb.ai0 (h:Rb b):Rb (-b):=⟨by show wl (-b.num).natAbs≤_;rw [d8];exact h.1,h.2⟩
theorem afV (ha:Rb a) (hb:Rb b):AC aD true 153 [af a,af b] (.dat (af (a - b))):=by
 have hn:Rb (-b):=hb.ai0;refine aix 9 Tryz.func153 (k:=go 0 [[0,0,1],[5,2,3,4],[2]] (k:=dC 4 mixed (go 3 [[2]] (k:=ak eN (QM hb) (ct:=ak eN (Jw ha hn) (ct:=go 3 [[2,4],[2]] (k:=?_)))))));exact rt_eq dG (by rw [Rat.sub_eq_add_neg])
theorem Ud {X:XS} {W:World} {cs:List Value} (h:aU true X W uz cs):aU true X W (aS 0) cs:=by
 unfold uz aU at h;obtain ⟨c1,c2,rfl,h1,h2⟩:=aF.two.1 h;unfold aU at h1 h2;unfold aS aU;refine aF.two.2 ⟨c1,c2,rfl,?_,?_⟩
 · unfold aU;exact h1
 · unfold aU;refine ⟨rfl,_,h2.1,none,0,0,[],rfl,⟨Rd.nil _ _ _,ar _,dY.nil⟩,jF.nil,rfl⟩
theorem ae5 {X:XS} {W:World} {v:Value} (h:Rep true X W v uz):Rep true X W v (aS 0):=by
 obtain ⟨cs,h1,h2⟩:=h;exact ⟨cs,Ud h1,h2⟩
variable {P:Program} {f:FuncId}
theorem AC.z0 {ds:List D} {e:D} (h:AC P true f ds (.bT [uz,e])):AC P true f ds (.bT [aS 0,e]):=fun X w vs hx hr=>by
 refine (h X w vs hx hr).mono ?_;rintro en w' ⟨h1,v,h2,S,ob,hS,hb,hf⟩;refine ⟨h1,v,h2,S,ob,hS,hb,?_⟩;unfold ah at hf ⊢;obtain ⟨vs,e1,e2⟩:=hf;refine ⟨vs,e1,?_⟩
 match hv:vs.toList,e2 with
 | [a,b],e2=>exact ⟨ae5 e2.1,e2.2⟩
theorem abk (hx:wl N≤137438953472):AC aD true 225 [aS (N:Int)] (.bT [aS ((lg N:Nat):Int),vI 0]):=by
 rcases a6 N with h | h
 · subst h;exact AC.z0 Wl
 · exact VG hx h
theorem QH (N:Nat):lg N≤N:=by
 have:=(yY N).1;rcases a6 (lg N) with h | h
 · omega
 · exact cg (Nat.le_mul_of_pos_left _ h) this
theorem yV (N:Nat):wl (((lg N:Nat):Int) * ((lg N:Nat):Int)).natAbs≤wl N:=by
 refine iF ?_;rw [← bh];exact (yY N).1
theorem acD (N:Nat):(true && decide ((((lg N:Nat):Int) * ((lg N:Nat):Int) - (N:Int)).sign = 0)) = decide (lg N * lg N = N):=by
 rw [kf,decide_eq_decide,eo,← bh];omega
theorem FP (hx:wl N≤137438953472):AC aD true 203 [aS (N:Int)] (.bT [aS ((lg N:Nat):Int),vB (decide (lg N * lg N = N))]):=by
 have w1:=yV N;have w2:wl ((lg N:Nat):Int).natAbs≤wl N:=iF (QH N);refine aix 22 Tryz.func203 (k:=go 0 [[0,0],[5,1,2,3],[4]] (k:=q (a_call eN (abk hx)) (go 1 [[6,1,2,3,4,5],[2]] (k:=dC 12 mixed (go 3 [[2]] (k:=Pz (ct:=go 3 [[1]] (k:=Dj 4 (h:=fun Γg hb hn hc=>bM (hl:=hb) (hn:=hn)) (ct:=Dj 4 (h:=fun Γg hb hn hc=>bM (hl:=hb) (hn:=hn)) (ct:=JY 15 16 (h:=fun Γg hn hg=>a_call eN (lC (x:=((lg N:Nat):Int)) (y:=((lg N:Nat):Int)) (by omega) (by omega)) (hn:=df.2 ⟨rfl,df.2 ⟨rfl,hn⟩⟩)) (ct:=Dj 1 (h:=fun Γg hb hn hc=>bM (hl:=hb) (hn:=hn)) (ct:=JY 17 18 (h:=fun Γg hn hg=>a_call eN (TS (x:=((lg N:Nat):Int) * ((lg N:Nat):Int)) (y:=(N:Int)) (by omega) (by exact cg hx (by omega))) (hn:=df.2 ⟨rfl,df.2 ⟨rfl,hn⟩⟩)) (ct:=YK 19 (h:=fun Γg hn hg=>eu (hn:=df.2 ⟨rfl,hn⟩)) (ct:=ads (ct:=go 3 [[3,2,3],[2]] (k:=?_))))))))))))))));exact rt_eq qJ (congrArg (fun b=>F.bT [aS ((lg N:Nat):Int),vB b]) (acD N))
theorem jc {kw:Bool} {X0:XS} {w0:World} {m:Nat} {Γ:fA} {o:Oper} {d:Nat} {c:Bool} (f:F) (hg:c = true) (h0:c = false) (hn:aB Γ d = true:=by rfl):dB aD kw X0 w0 m Γ o ((d,f) :: Γ):=by rw [h0] at hg;cases hg
theorem YO (x:Int):(decide ((7:Int) = 0) && decide (x = 0)) = false:=by simp
theorem aaA (hx:wl x.natAbs≤137438953472) (h0:x < 0):AC aD true 203 [aS x] (.bT [uz,vB false]):=by
 refine aix 22 Tryz.func203 (k:=go 0 [[0,0],[5,1,2,3],[4]] (k:=q (a_call eN (VO hx h0)) (go 1 [[6,1,2,3,4,5],[2]] (k:=dC 12 mixed (go 3 [[2]] (k:=Pz (ct:=go 3 [[1]] (k:=Dj 4 (h:=fun Γg hb hn hc=>bM (hl:=hb) (hn:=hn)) (ct:=Dj 4 (h:=fun Γg hb hn hc=>bM (hl:=hb) (hn:=hn)) (ct:=JY 15 16 (h:=fun Γg hn hg=>jc (.dat (aS 0)) hg rfl (hn:=df.2 ⟨rfl,df.2 ⟨rfl,hn⟩⟩)) (ct:=Dj 1 (h:=fun Γg hb hn hc=>bM (hl:=hb) (hn:=hn)) (ct:=JY 17 18 (h:=fun Γg hn hg=>jc (.dat (vI 0)) hg rfl (hn:=df.2 ⟨rfl,df.2 ⟨rfl,hn⟩⟩)) (ct:=YK 19 (h:=fun Γg hn hg=>eu (hn:=df.2 ⟨rfl,hn⟩)) (ct:=ads (ct:=go 3 [[3,2,3],[2]] (k:=?_))))))))))))))));exact rt_eq qJ (congrArg (fun b=>F.bT [uz,vB b]) (YO 0))
theorem VF (ha:Rb a) (h0:a.num < 0):AC aD true 164 [af a] (.bT [dR,vB false]):=by
 have h1:=ha.n;have h2:=ha.d;exact aix 30 Tryz.func164 (k:=go 0 [[0,0],[5,1,2,3],[4]] (k:=q (aX 0) (q (a_call eN (aaA (x:=a.num) (by omega) h0)) (go 1 [[6,1,2,3,4,5],[4]] (k:=q (aX 1) (q (a_call eN (FP (N:=a.den) (by omega))) (go 1 [[6,2,3,4,5,6,7],[7]] (k:=fD (h:=aC) (k:=cZ 23 (h:=iV) (k:=go 1 [[1,2,3,4,6,25],[7,2,3,4,6],[3]] (k:=qJ)))))))))))
theorem AC.arg {ds ds':List D} {R:F} (h:AC P true f ds R) (e:ds = ds'):AC P true f ds' R:=e ▸ h
section
theorem IG (h0:a.num = (N:Int)) (h:(!decide (lg N * lg N = N) || !decide (lg a.den * lg a.den = a.den)) = true):F.bT [dR,vB false] = F.bT [((vM a).map af).getD dR,vB (vM a).isSome]:=by
 have:vM a = none:=Ph fun r s h1 h2=>by
  have e1:r * r = N:=by rw [h0] at h1;omega
  have f1:=(yY N).eq e1;have f2:=(yY a.den).eq h2;rw [f1,f2] at h;simp at h
 rw [this];rfl
theorem Gs (h0:a.num = (N:Int)) (h:(!decide (lg N * lg N = N) || !decide (lg a.den * lg a.den = a.den)) = false):F.bT [D.agg [aS ((lg N:Nat):Int),aS ((lg a.den:Nat):Int)],vB true] = F.bT [((vM a).map af).getD dR,vB (vM a).isSome]:=by
 simp only [ic,Bool.not_eq_false',decide_eq_true_iff] at h;obtain ⟨w,e1,e2,e3⟩:=acL (a:=a) (r:=lg N) (s:=lg a.den) (by rw [h.1,h0]) h.2;rw [e1];simp only [Option.map_some,ir,Option.isSome_some];unfold af;rw [e2,e3]
end
theorem Vg (ha:Rb a) (h0:a.num = (N:Int)):AC aD true 164 [af a] (.bT [((vM a).map af).getD dR,vB (vM a).isSome]):=by
 have h1:=ha.n;have h2:=ha.d;have hN:a.num.natAbs = N:=by omega
 rw [hN] at h1;refine aix 30 Tryz.func164 (k:=go 0 [[0,0],[5,1,2,3],[4]] (k:=q (aX 0) (q (a_call eN ((FP (N:=N) (by omega)).arg (congrArg (fun z=>[aS z]) h0.symm))) ?_)));refine go 1 [[6,1,2,3,4,5],[4]] (k:=q (aX 1) (q (a_call eN (FP (N:=a.den) (by omega))) (go 1 [[6,2,3,4,5,6,7],[7]] (k:=fD (h:=aC) (k:=cZ 23 (h:=iV) (k:=go 1 [[1,2,3,4,6,25],[1]] (k:=?_)))))));refine dA (fun hc25=>?_) (fun hc25=>?_)
 · refine go 0 [[5,2,3,4,6],[3]] (k:=?_);exact rt_eq qJ (IG h0 hc25)
 · refine go 0 [[9,2,3],[2]] (k:=?_);exact rt_eq qJ (Gs h0 hc25)
theorem abv (ha:Rb a):AC aD true 164 [af a] (.bT [((vM a).map af).getD dR,vB (vM a).isSome]):=by
 rcases kp a.num 0 with h | h
 · have:vM a = none:=Ph fun r s h1 h2=>by omega
   rw [this];exact VF ha h
 · exact Vg (N:=a.num.natAbs) ha (by omega)
attribute [local go_sem ↓] bE bL
def v01 (neg:Bool) (n:Nat) (l:List Nat):Bool:=decide (dO l = n) && (!neg || decide (0 < n))
theorem Ny (neg:Bool) (A:Option Addr) (n c:Nat) (l:List Nat) (w:World) (hn:n≤4398046511104) (h:bf w A n c l) :
 Calls aD 237 #[.agg #[.bool neg,.slice A n c]] w fun e w'=>e = .returned (.bool (v01 neg n l))∧Below w.heap.size w w':=by
 obtain ⟨W,hW⟩:∃ W,W = w.alloc (.cells #[.bool neg,.slice A n c] 70):=⟨_,rfl⟩;have b0:dE W w.heap.size #[.bool neg,.slice A n c] 70:=by rw [hW];exact dE.new _ _ _
 have BW:Hid (Below w.heap.size w W):=aE (by rw [hW];exact (Below.refl _ _).alloc (ar _) _);have hWs:W.heap.size = w.heap.size + 1:=by rw [hW];simp
 have MA:Hid (bf W A n c l):=aE (by rw [hW];exact h.keep (bg.alloc _ _));have c0:W.cell? ⟨w.heap.size,0,none⟩ = some (.bool neg):=by rw [b0.cell];rfl
 have c1:W.cell? ⟨w.heap.size,1,none⟩ = some (.slice A n c):=by rw [b0.cell];rfl
 have cT:=Z9 (w:=W) (fun w' hk=>afp A n c l w' hn (MA.out.keep hk));have EV:Hid (v01 neg n l = (decide (dO l = n) && (!neg || decide (0 < n)))):=aE rfl;clear h b0;generalize v01 neg n l = v at *;generalize dO l = t at *;have k0:=bZ c0;have k1:=bZ c1;clear c0 c1
 by_cases h1:t = n
 ·
  cases neg
  ·
   have EV2:Hid (v = true):=aE (by rw [EV.out,decide_eq_true h1];rfl);have h1i:(t:Int) = (n:Int):=by omega
   subst h1;clear EV h1i
   go_enter Tryz.func237,Tryz.ntmps237
   go_upto_region 1 with fail
   rw [← hW];have HW:=aE hW;clear hW;refine dJ (by kernel_rfl) (by kernel_rfl) ?_
   repeat (go_big_quiet_step (first | with_reducible exact cT _ _))
   refine wpQuiet_nil ?_;intro wq hgq;have HQ:=aE (BW.out.trans (hgq.mono (by omega)));clear hgq cT k0 k1 HW
   go_wp2_with fail
   go_ret
   exact ⟨by rw [EV2.out];rfl,HQ.out⟩
  ·
   by_cases h2:0 < n
   ·
    have EV2:Hid (v = true):=aE (by rw [EV.out,decide_eq_true h1,decide_eq_true h2];rfl);have h2i:(0:Int) < (n:Int):=by omega
    subst h1;clear EV
    go_enter Tryz.func237,Tryz.ntmps237
    go_upto_region 1 with fail
    rw [← hW];have HW:=aE hW;clear hW;refine dJ (by kernel_rfl) (by kernel_rfl) ?_
    repeat (go_big_quiet_step (first | with_reducible exact cT _ _))
    refine wpQuiet_nil ?_;intro wq hgq;have HQ:=aE (BW.out.trans (hgq.mono (by omega)));clear hgq cT k0 k1 HW
    go_wp2_with fail
    go_ret
    exact ⟨by rw [EV2.out];rfl,HQ.out⟩
   ·
    have EV2:Hid (v = false):=aE (by rw [EV.out,decide_eq_true h1,decide_eq_false h2];rfl);have h2i:¬ (0:Int) < (n:Int):=by omega
    subst h1;clear EV
    go_enter Tryz.func237,Tryz.ntmps237
    go_upto_region 1 with fail
    rw [← hW];have HW:=aE hW;clear hW;refine dJ (by kernel_rfl) (by kernel_rfl) ?_
    repeat (go_big_quiet_step (first | with_reducible exact cT _ _))
    refine wpQuiet_nil ?_;intro wq hgq;have HQ:=aE (BW.out.trans (hgq.mono (by omega)));clear hgq cT k0 k1 HW
    go_wp2_with fail
    go_ret
    exact ⟨by rw [EV2.out];rfl,HQ.out⟩
 ·
  have EV2:Hid (v = false):=aE (by rw [EV.out,decide_eq_false h1];rfl);have h1i:decide ((t:Int) = (n:Int)) = false:=decide_eq_false (by omega);have h1j:decide (t = n) = false:=decide_eq_false h1;have h1k:((t:Int) == (n:Int)) = false:=by rw [beq_eq_false_iff_ne];omega
  clear EV
  go_enter Tryz.func237,Tryz.ntmps237
  go_upto_region 1 with fail
  rw [← hW];have HW:=aE hW;clear hW;refine dJ (by kernel_rfl) (by kernel_rfl) ?_
  repeat (go_big_quiet_step (first | with_reducible exact cT _ _))
  refine wpQuiet_nil ?_;intro wq hgq;have HQ:=aE (BW.out.trans (hgq.mono (by omega)));clear hgq cT k0 k1 HW
  go_wp2_with fail
  go_ret
  exact ⟨by rw [EV2.out];rfl,HQ.out⟩
attribute [local go_sem ↓] bE bL
section
variable {x y:Nat}
theorem EH (h:wl x≤4398046511104):AC aD true 209 [.mag x] (.dat (.mag x)):=abe fun v w hv=>by
 obtain ⟨A,n,c,l,rfl,hm,ht,hx⟩:=hv;have hn:=ht.lY hm;refine (iQ A n c l w (by rw [hn,hx];exact h) hm).mono ?_;rintro e w' ⟨rfl,rfl⟩;rw [ht.tl hm];exact ⟨Below.refl _ _,_,rfl,A,n,c,l,rfl,hm,ht,hx⟩
theorem mZ {s:Bool} (h:wl x≤4398046511104):AC aD true 175 [.val (.bool s),.mag x] (.dat (aS (if s then -(x:Int) else x))):=Zm fun v w hv=>JX s v x w hv h
theorem acm (h:wl x≤2199023255552) (h':wl y≤2199023255552):AC aD true 214 [.mag x,.mag y] (.dat (.mag (x + y))):=IX fun v u w h1 h2=>afT v u x y w h1 h2 h h'
theorem LD (h:wl x≤4398046511104) (hle:y≤x):AC aD true 216 [.mag x,.mag y] (.dat (.mag (x - y))):=IX fun v u w h1 h2=>abY v u x y w h1 h2 hle h
theorem YF (h:wl x≤2199023255552) (h':wl y≤2199023255552):AC aD true 217 [.mag x,.mag y] (.dat (.mag (x * y))):=IX fun v u w h1 h2=>Ux v u x y w h1 h2 h h'
theorem FX (h:wl x≤4398046511104) (h':wl y≤4398046511104):AC aD true 215 [.mag x,.mag y] (.dat (vI ((x:Int) - y).sign)):=ZX (fun v u w h1 h2=>by
 obtain ⟨A,n,c,a,rfl,ha,ta,va⟩:=h1;obtain ⟨B,m,d,b,rfl,hb,tb,vb⟩:=h2;have hn:=ta.lY ha;have hm:=tb.lY hb;have:=lh A B n c m d a b w (by rw [hn,va];exact h) (by rw [hm,vb];exact h') ha.1 hb.1;rw [Ik ha.2.2 hb.2.2 ta tb,va,vb] at this;exact this) rfl
theorem Iw (h:wl x≤1099511627776) (h':wl y≤1099511627776) (h0:0 < y):AC aD true 210 [.mag x,.mag y] (.bT [.mag (x / y),.mag (x % y)]):=Yr fun v u w h1 h2=>by
 obtain ⟨A,n,c,a,rfl,ha,ta,va⟩:=h1;obtain ⟨B,m,d,b,rfl,hb,tb,vb⟩:=h2;have hn:=ta.lY ha;have hm:=tb.lY hb;refine (Qo A B n c m d a b w (by rw [hn,va];exact h) (by rw [hm,vb];exact h') ?_ ha hb ta tb).mono ?_
 · rcases a6 m with h3 | h3
   · have:b = []:=cJ (by rw [hb.len,h3]);rw [this] at vb;simp [nv] at vb;omega
   · exact h3
 · rintro e w' ⟨hb',C1,n1,c1,q,C2,n2,c2,r,rfl,m1,-,m2,t2,v2,t1,v1⟩;exact ⟨hb',_,_,rfl,⟨_,_,_,q,rfl,m1,t1,by rw [v1,va,vb]⟩,⟨_,_,_,r,rfl,m2,t2,by rw [v2,va,vb]⟩⟩
theorem U1 {t:Nat} (h0:0 < t) (h1:2 ^ (t - 1)≤x) (h2:x < 2 ^ t):t = bitLen x:=by
 have hx:x≠0:=by have:=bX (n:=t - 1) (show 0 < 2 by omega);omega
 obtain ⟨g1,g2⟩:=bitLen_spec x;have g3:=g2 hx;apply eK
 · have:2 ^ (t - 1) < 2 ^ bitLen x:=a8 h1 g1;have:=(gF (show 1 < 2 by omega)).1 this;omega
 · have:2 ^ (bitLen x - 1) < 2 ^ t:=a8 g3 h2;have:=(gF (show 1 < 2 by omega)).1 this;omega
theorem VA (h:wl x≤549755813888) (h0:0 < x):AC aD true 229 [.mag x] (.dat (vI (bitLen x:Int))):=adE (fun v w hv=>by
 obtain ⟨A,n,c,l,rfl,hm,ht,hx⟩:=hv;have hn:=ht.lY hm;rw [hx] at hn;have hp:=nK.2 h0;refine (GG A n c l w (by omega) hm ht (by omega)).mono ?_;rintro e w' ⟨t,rfl,t0,t1,t2,t3,rfl⟩;have hl:n - 1 < l.length:=by rw [hm.len];omega
 have e1:=U1 t0 t2 t3;have e2:l.getD (n - 1) 0 = uN x (wl x - 1):=by
  rw [← hn,← hx,Q4 hm.2.2 hl,bq,aR hl];rfl
 have e3:=LM h0;rw [← e2,← hn,← e1] at e3;rw [e3];exact ⟨rfl,Below.refl _ _⟩) rfl
end
theorem Oq (h:wl z.natAbs≤549755813888):AC aD true 237 [aS z] (.dat (vB true)):=by
 refine AC.oD fun X w vs hx hr=>?_
 match vs,hr with
 | [v],hr =>
  obtain ⟨-,A,n,c,l,rfl,hm,ht,hv⟩:=uG.1 hr.1;have hn:=ht.lY hm;rw [hv] at hn;refine (Ny (decide (z < 0)) A n c l w (by omega) hm).mono ?_;rintro e w' ⟨rfl,hb⟩;refine ⟨hb,_,rfl,?_⟩;have:v01 (decide (z < 0)) n l = true:=by
   unfold v01;rw [ht.tl hm,decide_eq_true (show n = n from rfl),kf]
   by_cases h0:z < 0
   · have:0 < wl z.natAbs:=nK.2 (by omega);rw [decide_eq_true (show 0 < n by omega),Bool.or_true]
   · rw [decide_eq_false h0];rfl
  rw [this];exact dh rfl
theorem KR (z:Int) (w:World) (h1:-9223372036854775808≤z) (h2:z≤9223372036854775807):Calls aD 123 #[.int .i64 z] w (Gp w fun w' r=>IV w' r z):=by
 have cW:=xQ z.natAbs (w.alloc (.cells #[.bool false,.slice none 0 0] 70)) (by omega);have fr:=fr1 w #[.bool false,.slice none 0 0] 70 rfl;have F0:=aE fr.1;clear fr
 by_cases hz:z < 0
 ·
  have e1:bm.wrap (-bm.wrap z) = (z.natAbs:Int):=by rw [wrap_u64,wrap_u64];omega
  go_enter Tryz.func123,Tryz.ntmps123
  go_wp2_with fail
  refine aL cW ?_;rintro _ w2 ⟨hb2,C,n,c,ds,rfl,hm,ht,hv,hn⟩;have cS:=JX true (.slice C n c) z.natAbs w2 ⟨C,n,c,ds,rfl,hm,ht,hv⟩ (by have:=wH (x:=z.natAbs) (by omega);omega);have F1:=F0.out.next hb2;clear hb2 hm ht hv hn cW
  go_wp2_with fail
  refine aL cS ?_;rintro _ w3 ⟨hb3,r,rfl,hr⟩;have F2:=F1.next hb3;have hr:IV w3 r z:=by
   first | (rw [if_pos trivial] at hr;rwa [show -((z.natAbs:Nat):Int) = z by omega] at hr) | (rw [if_neg (by simp)] at hr;rwa [show ((z.natAbs:Nat):Int) = z by omega] at hr)
  obtain ⟨C2,k,e,l,rfl,-,-,-⟩:=id hr;have x0:=F2.x 0 rfl (b:=w.heap.size) rfl;have Z:=Ye F2 0 rfl hr (b:=w.heap.size) rfl;generalize decide (z < 0) = s at *;have Z1:=aE Z.1;have z2:=Z.2;clear hb3 hr Z F1 F2 cS
  go_wp2_with fail
  exact bodyPost_ret (v:=.agg #[.bool s,.slice C2 k e]) (by simp [results,Tryz.results123,go_sem,z2]) rfl Z1.out
 ·
  have e1:bm.wrap z = (z.natAbs:Int):=by rw [wrap_u64];omega
  go_enter Tryz.func123,Tryz.ntmps123
  go_wp2_with fail
  refine aL cW ?_;rintro _ w2 ⟨hb2,C,n,c,ds,rfl,hm,ht,hv,hn⟩;have cS:=JX false (.slice C n c) z.natAbs w2 ⟨C,n,c,ds,rfl,hm,ht,hv⟩ (by have:=wH (x:=z.natAbs) (by omega);omega);have F1:=F0.out.next hb2;clear hb2 hm ht hv hn cW
  go_wp2_with fail
  refine aL cS ?_;rintro _ w3 ⟨hb3,r,rfl,hr⟩;have F2:=F1.next hb3;have hr:IV w3 r z:=by
   first | (rw [if_pos trivial] at hr;rwa [show -((z.natAbs:Nat):Int) = z by omega] at hr) | (rw [if_neg (by simp)] at hr;rwa [show ((z.natAbs:Nat):Int) = z by omega] at hr)
  obtain ⟨C2,k,e,l,rfl,-,-,-⟩:=id hr;have x0:=F2.x 0 rfl (b:=w.heap.size) rfl;have Z:=Ye F2 0 rfl hr (b:=w.heap.size) rfl;generalize decide (z < 0) = s at *;have Z1:=aE Z.1;have z2:=Z.2;clear hb3 hr Z F1 F2 cS
  go_wp2_with fail
  exact bodyPost_ret (v:=.agg #[.bool s,.slice C2 k e]) (by simp [results,Tryz.results123,go_sem,z2]) rfl Z1.out
theorem tV (h1:-9223372036854775808≤z) (h2:z≤9223372036854775807):AC aD true 123 [vI z] (.dat (aS z)):=by
 refine AC.oD fun X w vs hx hr=>?_
 match vs,hr with
 | [v],hr =>
  rw [gy hr.1];refine (KR z w h1 h2).mono ?_;rintro e w' ⟨h1,r,h2,h3⟩;exact ⟨h1,r,h2,uG.2 ⟨rfl,h3⟩⟩
theorem uu (hx:wl x.natAbs≤2199023255552):AC aD true 211 [aS x] (.dat (aS x)):=by
 refine aix 8 Tryz.func211 (k:=go 0 [[0,0],[4,1,2],[4]] (k:=q (aX 0) (q dn (q (aX 1) (q (a_call eN (mZ (s:=decide (x < 0)) (x:=x.natAbs) (by omega))) (go 1 [[1,2],[2]] (k:=?_)))))));exact rt_eq dG (by rw [SL])
theorem Au (hx:wl x.natAbs≤2199023255552):AC aD true 173 [aS x] (.dat (aS (-x))):=by
 refine aix 9 Tryz.func173 (k:=go 0 [[0,0],[4,1,2],[4]] (k:=q (aX 0) (q iV (q dn (q (aX 1) (q (a_call eN (mZ (s:=!decide (x < 0)) (x:=x.natAbs) (by omega))) (go 1 [[1,2],[2]] (k:=?_))))))));exact rt_eq dG (by rw [Uz])
theorem sS (hx:wl x.natAbs≤2199023255552):AC aD true 172 [aS x] (.dat (vI x.sign)):=by
 refine aix 11 Tryz.func172 (k:=go 0 [[0,0],[4,1,2],[4]] (k:=q (a_call eN (uu hx)) (go 1 [[1,1,2],[5]] (k:=q (aX 1) (q (aI) (go 1 [[1,1,2,8],[1]] (k:=?_)))))));refine bu (fun hc8=>?_) (fun hc8=>?_)
 · refine go 0 [[3,1,2],[3]] (k:=?_);exact rt_eq dG (by rw [sg0 hc8])
 · refine go 0 [[6]] (k:=q (aX 0) (gU [2,10] (k:=aT ?_)));refine dA (fun hc10=>?_) (fun hc10=>?_)
   · refine go 0 [[3,2],[3]] (k:=?_);exact rt_eq dG (by rw [sg1 hc10])
   · refine go 0 [[5,2],[2]] (k:=?_);exact rt_eq dG (by rw [sg2 hc8 hc10])
theorem kN (hx:wl x.natAbs≤1099511627776) (hy:wl y.natAbs≤1099511627776):AC aD true 183 [aS x,aS y] (.dat (aS (x * y))):=by
 have hm:=Kt x.natAbs y.natAbs;refine aix 20 Tryz.func183 (k:=go 0 [[0,0,1],[5,2,3,4],[2]] (k:=dC 4 mixed (go 3 [[1]] (k:=ak eN (uu (x:=x) (by omega)) (ct:=go 3 [[1]] (k:=ak eN (uu (x:=y) (by omega)) (ct:=go 3 [[3,2,3,4],[2]] (k:=dC 11 mixed (go 3 [[1]] (k:=bG 0 (ct:=go 3 [[1]] (k:=bG 0 (ct:=Yy (ct:=go 3 [[1]] (k:=bG 1 (ct:=go 3 [[1]] (k:=bG 1 (ct:=ak eN (YF (x:=x.natAbs) (y:=y.natAbs) (by omega) (by omega)) (ct:=ak eN (mZ (s:=(decide (x < 0) != decide (y < 0))) (x:=x.natAbs * y.natAbs) (by omega)) (ct:=go 3 [[2,4],[2]] (k:=?_)))))))))))))))))))));exact rt_eq dG (by rw [Mc])
theorem adB (h:(decide (x < 0) == decide (y < 0)) = false) (h2:(0:Int)≤((x.natAbs:Int) - y.natAbs).sign):y.natAbs≤x.natAbs∧(if decide (x < 0) then -((x.natAbs - y.natAbs:Nat):Int) else ((x.natAbs - y.natAbs:Nat):Int)) = x + y:=afx h (by omega)
theorem adz (h:(decide (x < 0) == decide (y < 0)) = false) (h2:¬ (0:Int)≤((x.natAbs:Int) - y.natAbs).sign):x.natAbs≤y.natAbs∧(if decide (y < 0) then -((y.natAbs - x.natAbs:Nat):Int) else ((y.natAbs - x.natAbs:Nat):Int)) = x + y:=aes h (by omega)
theorem Et (hx:wl x.natAbs≤1099511627776) (hy:wl y.natAbs≤1099511627776):AC aD true 182 [aS x,aS y] (.dat (aS (x + y))):=by
 have ha:=Ju x.natAbs y.natAbs;have hs1:wl (y.natAbs - x.natAbs)≤wl y.natAbs:=iF (gA _ _);have hs2:wl (x.natAbs - y.natAbs)≤wl x.natAbs:=iF (gA _ _);refine aix 44 Tryz.func182 (k:=go 0 [[0,0,1],[5,2,3,4],[2]] (k:=dC 4 mixed (go 3 [[1]] (k:=ak eN (uu (x:=x) (by omega)) (ct:=go 3 [[1]] (k:=ak eN (uu (x:=y) (by omega)) (ct:=go 3 [[3,2,3,4],[5]] (k:=q (aX 0) (q dn (q (aX 0) (q (acY) (gU [2,3,4,13] (k:=aT ?_)))))))))))));refine dA (fun hc13=>?_) (fun hc13=>?_)
 · refine bP (dC 8 mixed (go 3 [[1]] (k:=bG 0 (ct:=go 3 [[1]] (k:=bG 1 (ct:=go 3 [[1]] (k:=bG 1 (ct:=ak eN (acm (x:=x.natAbs) (y:=y.natAbs) (by omega) (by omega)) (ct:=ak eN (mZ (x:=x.natAbs + y.natAbs) (by omega)) (ct:=go 3 [[2,2,3,4],[3]] (k:=?_)))))))))));exact rt_eq dG (by rw [add1 hc13])
 · refine go 0 [[6]] (k:=q (aX 1) (q dn (q (aX 1) (q (a_call eN (FX (x:=x.natAbs) (y:=y.natAbs) (by omega) (by omega))) (go 1 [[1,2,3,4,27],[1]] (k:=?_))))));refine bu (fun hc27=>?_) (fun hc27=>?_)
   · refine bP (dC 8 mixed (go 3 [[1]] (k:=bG 0 (ct:=go 3 [[1]] (k:=bG 1 (ct:=go 3 [[1]] (k:=bG 1 (ct:=ak eN (LD (x:=x.natAbs) (y:=y.natAbs) (by omega) (adB hc13 hc27).1) (ct:=ak eN (mZ (x:=x.natAbs - y.natAbs) (by omega)) (ct:=go 3 [[2,2,3,4],[3]] (k:=?_)))))))))));exact rt_eq dG (by rw [(adB hc13 hc27).2])
   · refine eF (aT (bP (dC 8 mixed (go 3 [[1]] (k:=bG 0 (ct:=go 3 [[1]] (k:=bG 1 (ct:=go 3 [[1]] (k:=bG 1 (ct:=ak eN (LD (x:=y.natAbs) (y:=x.natAbs) (by omega) (adz hc13 hc27).1) (ct:=ak eN (mZ (x:=y.natAbs - x.natAbs) (by omega)) (ct:=go 3 [[2,4],[2]] (k:=?_)))))))))))));exact rt_eq dG (by rw [(adz hc13 hc27).2])
theorem Sr (hx:wl x.natAbs≤1099511627776) (hy:wl y.natAbs≤1099511627776):AC aD true 233 [aS x,aS y] (.dat (aS (x - y))):=by
 refine aix 9 Tryz.func233 (k:=go 0 [[0,0,1],[5,2,3,4],[2]] (k:=dC 4 mixed (go 3 [[2]] (k:=ak eN (Au (x:=y) (by omega)) (ct:=ak eN (Et (x:=x) (y:=-y) hx (by rw [d8];exact hy)) (ct:=go 3 [[2,4],[2]] (k:=?_)))))));exact rt_eq dG (by rw [i9])
theorem aeB (hx:wl x.natAbs≤1099511627776) (hy:wl y.natAbs≤1099511627776):AC aD true 242 [aS x,aS y] (.dat (vI (x - y).sign)):=by
 have hs:wl (x - y).natAbs≤max (wl x.natAbs) (wl y.natAbs) + 1:=by have:=@Kr x (-y);rwa [d8,← i9] at this
 exact aix 9 Tryz.func242 (k:=go 0 [[0,0,1],[5,2,3,4],[5]] (k:=q (a_call eN (Sr (x:=x) (y:=y) hx hy)) (q (a_call eN (sS (x:=x - y) (by omega))) (go 1 [[1,4],[2]] (k:=dG)))))
theorem BU (hx:wl x.natAbs≤549755813888) (hy:wl y.natAbs≤549755813888):AC aD true 171 [aS x,aS y] (.dat (aS ((aw x.natAbs y.natAbs:Nat):Int))):=by
 obtain ⟨G,hG⟩:∃ G,aw x.natAbs y.natAbs = G:=⟨_,rfl⟩;rw [hG];refine aix 28 Tryz.func171 (k:=go 0 [[0,0,1],[5,2,3,4],[2]] (k:=dC 8 mixed (go 3 [[1]] (k:=bG 1 (ct:=ak eN (EH (x:=x.natAbs) (by omega)) (ct:=go 3 [[1]] (k:=bG 1 (ct:=ak eN (EH (x:=y.natAbs) (by omega)) (ct:=go 3 [[3,4,5,6],[3]] (k:=?_))))))))));refine CT.weak (aZ (ι:=Nat × Nat) (fun p=>[(4,.box uz),(5,.dat (.mag p.1)),(6,.dat (.mag p.2))]) (fun p=>wl p.1≤549755813888∧wl p.2≤549755813888∧aw p.1 p.2 = G) (fun p=>p.2) ?_ ((x.natAbs,y.natAbs)) (⟨hx,hy,hG⟩)) (sbk [4,5,6]);intro ⟨p,e⟩ ⟨hp,he,hg⟩;refine SQ [4,5,6] (k:=?_);simp only at hp he hg ⊢;refine go 0 [[4]] (k:=q (aI) (go 1 [[1,4,5,6,17],[1]] (k:=?_)));refine bu (fun hc17=>?_) (fun hc17=>?_)
 · refine go 0 [[7]] (k:=q (a_call eN (Iw (x:=p) (y:=e) (by omega) (by omega) (nK.1 (by omega)))) (go 1 [[5,4,5,6,8],[6,4,5,6],[1]] (k:=?_)));have h0:0 < e:=nK.1 (by omega);have hm:p % e < e:=cQ _ h0;have hw:wl (p % e)≤wl e:=iF (by omega);exact aY ((e,p % e)) ⟨⟨he,by show wl (p % e)≤_;omega,KC hg⟩,hm⟩ (sbk [4,5,6])
 · have h0:e = 0:=by have:=@nK e;omega
   have hpG:p = G:=by rw [← hg,h0,fI]
   refine go 0 [[8]] (k:=q (a_call eN (mZ (s:=false) (x:=p) (by omega))) (go 1 [[1,4],[2]] (k:=?_)));exact rt_eq dG (by rw [hpG];rfl)
theorem abq {x:Nat} (hx:wl x≤549755813888) (h0:0 < x):AC aD true 243 [aS (x:Int)] (.dat (vI (bitLen x:Int))):=by
 exact aix 7 Tryz.func243 (k:=go 0 [[0,0],[4,1,2],[4]] (k:=q (aX 1) (q (a_call eN (EH (x:=x) (by omega))) (q (a_call eN (VA (x:=x) hx h0)) (go 1 [[1,2],[2]] (k:=dG))))))
theorem Lj {a b:Int} (hd:b ∣ a) (h0:b≠0):wl (a / b).natAbs≤wl a.natAbs:=by
 refine iF ?_;rw [Int.natAbs_ediv_of_dvd hd];exact bA _ _
theorem Vw {a b:Int} (ha:wl a.natAbs≤549755813888) (hb:wl b.natAbs≤549755813888) (h0:b≠0) (hd:b ∣ a):AC aD true 212 [aS a,aS b] (.bT [aS (a / b),aS 0,vI 0]):=by
 have hq:wl (a.natAbs / b.natAbs)≤wl a.natAbs:=iF (bA _ _);have hq2:=Lj hd h0;have he:=Int.ediv_mul_cancel hd;exact aix 55 Tryz.func212 (k:=go 0 [[0,0,1],[7,2,3,4,5,6],[2]] (k:=dC 4 mixed (go 3 [[1]] (k:=ak eN (uu (x:=a) (by omega)) (ct:=go 3 [[1]] (k:=ak eN (uu (x:=b) (by omega)) (ct:=go 3 [[3,2,3,4,5,6],[5]] (k:=q (aX 1) (q (aI) (go 1 [[1,2,3,4,5,6,18],[1]] (k:=UO (h:=(adi h0)) (k:=go 0 [[5]] (k:=q (aX 1) (q dn (q (aX 1) (q (a_call eN (Iw (x:=a.natAbs) (y:=b.natAbs) (by omega) (by omega) (by omega))) (go 1 [[5,2,3,4,5,6,7],[4]] (k:=q (aX 0) (q dn (q (aX 0) (q (Xy) (q aC (q (a_call eN ((mZ (s:=(decide (a < 0) != decide (b < 0))) (x:=a.natAbs / b.natAbs) (by omega)).eq (by rw [Sv h0 hd]))) (go 1 [[2,2,3,4,5,6,9],[2]] (k:=dC 6 mixed (go 3 [[3]] (k:=ak eN ((kN (x:=a / b) (y:=b) (by omega) (by omega)).eq (by rw [he])) (ct:=ak eN ((Sr (x:=a) (y:=a) (by omega) (by omega)).eq (by rw [gS])) (ct:=go 3 [[3,3,4,5,6,9,10],[3]] (k:=dC 6 mixed (go 3 [[1]] (k:=ak eN (sS (x:=0) (by decide)) (ct:=go 3 [[1]] (k:=ak eN (sS (x:=b) (by omega)) (ct:=WY (z:=0) (hz:=Int.zero_mul _) (ct:=ZO (ct:=go 3 [[1,3,4,5,6,9,10,46],[5]] (k:=dC 3 mixed (go 3 [[6,4,5,6],[2]] (k:=UN))))))))))))))))))))))))))))))))))))))))
theorem Wj (x:Int):(decide (((wl x.natAbs:Nat):Int) = 1) && decide (((uN x.natAbs 0:Nat):Int) = 1) && !decide (x < 0)) = decide (x = 1):=by
 rw [Bool.and_comm,← ke];exact NH x
theorem WN {x y:Nat}:∀ {k:Nat},(∀ j,j < k→uN x j = uN y j)→x % 4294967296 ^ k = y % 4294967296 ^ k
 | 0,_=>by simp [Nat.mod_one]
 | k + 1,h=>by
  rw [ju,ju,WN fun j hj=>h j (by omega)];have:=h k (by omega);unfold uN at this;rw [this]
theorem aew {x y:Nat} (hl:wl x = wl y) (h:∀ j,j < wl x→uN x j = uN y j):x = y:=by
 have h1:=WN h;rwa [eE (jQ.1 (ar _)),eE (by rw [hl];exact jQ.1 (ar _))] at h1
theorem aaK (h:((decide (x < 0) != decide (y < 0)) || decide (((wl x.natAbs:Nat):Int)≠((wl y.natAbs:Nat):Int))) = true):decide (x = y) = false:=by
 rw [decide_eq_false_iff_not];rintro rfl;simp at h
theorem abm (h:((decide (x < 0) != decide (y < 0)) || decide (((wl x.natAbs:Nat):Int)≠((wl y.natAbs:Nat):Int))) = false):(x < 0↔y < 0)∧wl x.natAbs = wl y.natAbs:=by
 rw [ic,decide_eq_false_iff_not,Decidable.not_not] at h;refine ⟨?_,by omega⟩;have h1:=h.1
 by_cases h2:x < 0 <;> by_cases h3:y < 0 <;> simp [h2,h3] at h1 ⊢
theorem Dn (hx:wl x.natAbs≤549755813888):AC aD true 181 [aS x] (.dat (vB (decide (x = 1)))):=by
 refine aix 19 Tryz.func181 (k:=go 0 [[0,0],[4,1,2],[4]] (k:=q (aX 1) (q (aI) (q eu (q aC (fD (h:=dn) (k:=cZ 8 (h:=aX 1) (k:=gq1 9 (h:=fun hg=>Zn (i:=0) (hz:=rfl) (hi:=by simp at hg;omega)) (k:=?_)))))))));refine cZ 10 (h:=acd) (k:=cZ 11 (h:=eu) (k:=q qx (q aC (fD (h:=dn) (k:=cZ 15 (h:=aX 0) (k:=cZ 16 (h:=iV) (k:=go 1 [[2,2],[2]] (k:=?_))))))));exact rt_eq dG (congrArg (fun b=>F.dat (vB b)) (Wj x))
theorem UG (hx:wl x.natAbs≤549755813888) (hy:wl y.natAbs≤549755813888):AC aD true 236 [aS x,aS y] (.dat (vB (decide (x = y)))):=by
 refine aix 38 Tryz.func236 (k:=go 0 [[0,0,1],[5,2,3,4],[5]] (k:=q (aX 0) (q dn (q (aX 0) (q (Xy) (q aC (fD (h:=dn) (k:=cZ 12 (h:=aX 1) (k:=cZ 13 (h:=aI) (k:=fD (h:=dn) (k:=cZ 15 (h:=aX 1) (k:=cZ 16 (h:=aI) (k:=qN 14 17 (h:=Ji) (k:=go 1 [[1,2,3,4,19],[1]] (k:=?_)))))))))))))));refine dA (fun hc19=>?_) (fun hc19=>?_)
 · refine go 0 [[3,2,3,4],[3]] (k:=?_);exact rt_eq dG (by rw [aaK hc19])
 ·
  obtain ⟨hs,hl⟩:=abm hc19;refine go 0 [[6,2,3,4,5],[2]] (k:=?_);refine CT.weak (aZ (ι:=Nat) (fun i=>[(2,.box (aS x)),(3,.box (aS y)),(5,.dat (vI (i:Int)))]) (fun i=>i≤wl x.natAbs∧∀ j,j < i→uN x.natAbs j = uN y.natAbs j) (fun i=>wl x.natAbs - i) ?_ (0) (⟨bp _,fun j hj=>absurd hj (by omega)⟩)) (sbk [2,3,5]);intro i ⟨hi,hw⟩;refine go 0 [[0,2,3,5],[5]] (k:=q (aX 1) (q (aI) (go 1 [[1,2,3,5,24],[1]] (k:=?_))));refine bu (fun hc24=>?_) (fun hc24=>?_)
  ·
   refine go 0 [[5]] (k:=dC 11 mixed (go 3 [[1]] (k:=bG 1 (ct:=go 3 [[1]] (k:=ac9 (i:=i) (x:=x.natAbs) rfl (by omega) (ct:=ah1 (ct:=go 3 [[1]] (k:=bG 1 (ct:=go 3 [[1]] (k:=ac9 (i:=i) (x:=y.natAbs) rfl (by omega) (ct:=ah1 (ct:=ag7 (ct:=go 3 [[1,2,3,5,37],[1]] (k:=?_))))))))))))));refine bu (fun hc37=>?_) (fun hc37=>?_)
   · have hne:¬ x = y:=fun e=>hc37 (by rw [e])
     refine go 0 [[3,2,3,4,5],[7]] (k:=?_);exact rt_eq dG (by rw [decide_eq_false hne])
   · refine go 0 [[5]] (k:=q (bH (z:=((i + 1:Nat):Int))) (q aC (gU [2,3,5] (k:=?_))));have hnew:∀ j,j < i + 1→uN x.natAbs j = uN y.natAbs j:=fun j hj=>by
      rcases bB j i with h | h
      · exact hw j h
      · have:j = i:=by omega
        subst this;omega
     exact aY (i + 1) ⟨⟨by omega,hnew⟩,by omega⟩ (sbk [2,3,5])
  · have hi2:i = wl x.natAbs:=by omega
    have hxy:x = y:=by
     have:=aew hl (by rw [← hi2];exact hw);omega
    refine go 0 [[8,4],[2]] (k:=?_);exact rt_eq dG (by rw [decide_eq_true hxy])
theorem XD {n:Int} (h1:-9223372036854775808≤n) (h2:n≤9223372036854775807):AC aD true 121 [vI n] (.dat (af (n:Rat))):=by
 refine aix 7 Tryz.func121 (k:=go 0 [[0,0],[3,0,2],[4]] (k:=q (a_call eN (tV h1 h2)) (q (a_call eN (tV (z:=1) (by decide) (by decide))) (go 1 [[2,2],[2]] (k:=?_)))));exact rt_eq dG rfl
theorem pU {a b:Int} (ha:wl a.natAbs≤549755813888) (hb:wl b.natAbs≤549755813888) (h0:b≠0) (hd:b ∣ a):AC aD true 174 [aS a,aS b] (.dat (aS (a / b))):=by
 exact aix 16 Tryz.func174 (k:=go 0 [[0,0,1],[5,2,3,4],[5]] (k:=q (a_call eN (Vw ha hb h0 hd)) (go 1 [[9,4,5],[5,4],[2]] (k:=dG))))
theorem Je {d:Int}:d.sign < 0↔d < 0:=by
 rcases bc d 0 with h | h | h
 · rw [aq h];omega
 · rw [h];simp
 · rw [ao h];omega
theorem abI {n d:Int} (hn:wl n.natAbs≤549755813888) (hd:wl d.natAbs≤549755813888) (h0:d≠0):AC aD true 122 [aS n,aS d] (.dat (af (br n d))):=by
 have g1:=vY (n:=n) h0;have g2:=XE (n:=n) h0;have g0:=Cm (n:=n) h0;have gn:=@VC n d;have gd:=@VX n d;refine aix 21 Tryz.func122 (k:=go 0 [[0,0,1],[5,2,3,4],[5]] (k:=q (a_call eN (BU hn hd)) (go 1 [[2,2,3,4,5],[5]] (k:=q (a_call eN (sS (x:=d) (by omega))) (go 1 [[1,2,3,4,5,11],[1]] (k:=?_))))));refine bu (fun hc11=>?_) (fun hc11=>?_)
 · have hs:d < 0:=Je.1 hc11;refine cO (q bM (q (a_call eN (Au (x:=((gN n d:Nat):Int)) (by omega))) (go 1 [[1,2,3,4,5],[2]] (k:=dC 7 mixed (go 3 [[2]] (k:=ak eN (pU (a:=n) (b:=-((gN n d:Nat):Int)) hn (by omega) (by omega) (gg.2 gn)) (ct:=go 3 [[2]] (k:=ak eN (pU (a:=d) (b:=-((gN n d:Nat):Int)) hd (by omega) (by omega) (gg.2 gd)) (ct:=go 3 [[3,4],[2]] (k:=?_))))))))));exact rt_eq dG (by unfold af;rw [← Me hs,← LJ hs])
 · have hs:¬ d < 0:=fun h=>hc11 (Je.2 h)
   refine eF (aT (bP (dC 7 mixed (go 3 [[2]] (k:=ak eN (pU (a:=n) (b:=((gN n d:Nat):Int)) hn (by omega) (by omega) gn) (ct:=go 3 [[2]] (k:=ak eN (pU (a:=d) (b:=((gN n d:Nat):Int)) hd (by omega) (by omega) gd) (ct:=go 3 [[3,4],[2]] (k:=?_)))))))));exact rt_eq dG (by unfold af;rw [← Nl h0 hs,← Oc h0 hs])
theorem TE {n p:Int} (h1:-9223372036854775808≤n) (h2:n≤9223372036854775807) (h3:0 < p) (h4:p≤9223372036854775807):AC aD true 80 [vI n,vI p] (.dat (af ((n:Rat) / (p:Rat)))):=by
 have hn:=KL h1 h2;have hp:=KL (n:=p) (by omega) h4;refine aix 13 Tryz.func80 (k:=go 0 [[0,0,1],[3,0,1,4],[6,0,1,4,6],[1]] (k:=?_));refine bu (fun hc6=>?_) (fun hc6=>?_)
 · omega
 · refine go 0 [[5]] (k:=q (a_call eN (tV h1 h2)) (q aC (q (a_call eN (tV (z:=p) (by omega) h4)) (q (a_call eN (abI (n:=n) (d:=p) (by omega) (by omega) (by omega))) (go 1 [[1,4],[2]] (k:=?_))))));exact rt_eq dG (by rw [Rat.divInt_eq_div])
theorem mF:AC aD true 121 [vI 0] (.dat (af 0)):=(XD (n:=0) (by decide) (by decide)).eq rfl
theorem agb:AC aD true 121 [vI 1] (.dat (af 1)):=(XD (n:=1) (by decide) (by decide)).eq rfl
theorem aay:AC aD true 80 [vI 1,vI 2] (.dat (af (1 / 2))):=(TE (n:=1) (p:=2) (by decide) (by decide) (by decide) (by decide)).eq rfl
theorem aah (ha:Rb a):AC aD true 221 [af a] (.dat (vB true)):=by
 have h1:=ha.n;have h2:=ha.d';have h3:=vY (n:=a.num) (qC a);refine aix 25 Tryz.func221 (k:=go 0 [[0,0],[4,1,2],[4]] (k:=q (aX 0) (q (a_call eN (Oq (z:=a.num) (by omega))) (q aC (fD (h:=dn) (k:=cZ 7 (h:=aX 1) (k:=cZ 8 (h:=a_call eN (Oq (z:=((a.den:Nat):Int)) (by omega))) (k:=q qx (q aC (fD (h:=dn) (k:=cZ 12 (h:=aX 1) (k:=cZ 13 (h:=a_call eN (sS (x:=((a.den:Nat):Int)) (by omega))) (k:=cZ 14 (h:=iT) (k:=q qx (q aC (fD (h:=dn) (k:=cZ 18 (h:=aX 0) (k:=fD (h:=dn) (k:=cZ 20 (h:=aX 1) (k:=qN 19 21 (h:=a_call eN (BU (x:=a.num) (y:=((a.den:Nat):Int)) (by omega) (by omega))) (k:=cZ 22 (h:=a_call eN (Dn (x:=((gN a.num ((a.den:Nat):Int):Nat):Int)) (by omega))) (k:=go 1 [[2,2],[2]] (k:=?_)))))))))))))))))))))));exact rt_eq dG (congrArg (fun b=>F.dat (vB b)) (valid_eq a))
theorem Tn (ha:Rb a):AC aD true 136 [af a] (.dat (vI a.num.sign)):=by
 have h1:=ha.n;exact aix 6 Tryz.func136 (k:=go 0 [[0,0],[4,1,2],[4]] (k:=q (aX 0) (q (a_call eN (sS (x:=a.num) (by omega))) (go 1 [[1,2],[2]] (k:=dG)))))
theorem aef (ha:Rb a) (hb:Rb b):AC aD true 234 [af a,af b] (.dat (vI (QX a b))):=by
 have h1:=ha.n;have h2:=ha.d';have h3:=hb.n;have h4:=hb.d';have m1:=@jT a.num ((b.den:Nat):Int);have m2:=@jT b.num ((a.den:Nat):Int);refine aix 16 Tryz.func234 (k:=go 0 [[0,0,1],[5,2,3,4],[2]] (k:=dC 12 mixed (go 3 [[1]] (k:=bG 0 (ct:=go 3 [[1]] (k:=bG 1 (ct:=ak eN (kN (x:=a.num) (y:=((b.den:Nat):Int)) (by omega) (by omega)) (ct:=go 3 [[1]] (k:=bG 0 (ct:=go 3 [[1]] (k:=bG 1 (ct:=ak eN (kN (x:=b.num) (y:=((a.den:Nat):Int)) (by omega) (by omega)) (ct:=ak eN (aeB (x:=a.num * ((b.den:Nat):Int)) (y:=b.num * ((a.den:Nat):Int)) (by omega) (by omega)) (ct:=go 3 [[2,4],[2]] (k:=?_)))))))))))))));exact rt_eq dG (by rw [J6])
theorem aeW (ha:Rb a):AC aD true 132 [af a] (.dat (af (-a))):=by
 have h1:=ha.n;refine aix 9 Tryz.func132 (k:=go 0 [[0,0],[4,1,2],[2]] (k:=dC 6 mixed (go 3 [[1]] (k:=bG 0 (ct:=ak eN (Au (x:=a.num) (by omega)) (ct:=go 3 [[1]] (k:=bG 1 (ct:=go 3 [[3,2],[2]] (k:=?_)))))))));exact rt_eq dG rfl
theorem inv_neg (h:decide (a.num < 0) = true):D.agg [aS (-((a.den:Nat):Int)),aS (-a.num)] = af a⁻¹:=by
 have h1:=of_decide_eq_true h;unfold af;rw [Rat.num_inv,Rat.den_inv,if_neg (by omega),aq h1,j7,show ((a.num.natAbs:Nat):Int) = -a.num by omega]
theorem inv_pos (h0:a≠0) (h:decide (a.num < 0) = false):D.agg [aS ((a.den:Nat):Int),aS a.num] = af a⁻¹:=by
 have h1:=of_decide_eq_false h;have h2:=afW h0;unfold af;rw [Rat.num_inv,Rat.den_inv,if_neg h2,ao (by omega),eZ,show ((a.num.natAbs:Nat):Int) = a.num by omega]
theorem afw (ha:Rb a) (h0:a≠0):AC aD true 129 [af a] (.dat (af a⁻¹)):=by
 have h1:=ha.n;have h2:=ha.d';refine aix 18 Tryz.func129 (k:=go 0 [[0,0],[4,1,2],[5]] (k:=q (Jt) (q (Af 0 0) (gU [1,2,5] (k:=aT ?_)))));refine dA (fun hc5=>?_) (fun hc5=>?_)
 · refine bP (dC 7 mixed (go 3 [[1]] (k:=bG 1 (ct:=ak eN (Au (x:=((a.den:Nat):Int)) (by omega)) (ct:=go 3 [[1]] (k:=bG 0 (ct:=ak eN (Au (x:=a.num) (by omega)) (ct:=go 3 [[3,1,2],[3]] (k:=?_)))))))));exact rt_eq dG (congrArg F.dat (inv_neg hc5))
 · refine go 0 [[5]] (k:=q (aX 1) (q dn (q (aX 0) (go 1 [[2,2],[2]] (k:=?_)))));exact rt_eq dG (congrArg F.dat (inv_pos h0 hc5))
theorem VL (h:((a.den:Nat):Int) = 1∧((b.den:Nat):Int) = 1):D.agg [aS (a.num + b.num),aS ((a.den:Nat):Int)] = af (a + b):=by rw [h.1];exact NW h
theorem Ve (h:((a.den:Nat):Int) = 1∧((b.den:Nat):Int) = 1):D.agg [aS (a.num * b.num),aS ((a.den:Nat):Int)] = af (a * b):=by rw [h.1];exact Ox h
theorem Em (h:((wl a.num.natAbs:Nat):Int) = 0):a = 0:=by
 have:wl a.num.natAbs = 0:=by omega
 rw [qX] at this;exact gj.1 (by omega)
theorem agJ (h:(decide (((wl a.num.natAbs:Nat):Int) = 0) || decide (((wl b.num.natAbs:Nat):Int) = 0)) = true):(0:Rat) = a * b:=by
 rw [jN,decide_eq_true_iff,decide_eq_true_iff] at h;rcases h with h | h
 · rw [Em h,Rat.zero_mul]
 · rw [Em h,Rat.mul_zero]
theorem aax (a b:Rat):D.agg [aS (a.num / ((gN a.num ((b.den:Nat):Int):Nat):Int) * (b.num / ((gN b.num ((a.den:Nat):Int):Nat):Int))),aS (((a.den:Nat):Int) / ((gN b.num ((a.den:Nat):Int):Nat):Int) * (((b.den:Nat):Int) / ((gN a.num ((b.den:Nat):Int):Nat):Int)))] = af (a * b):=by
 unfold af;rw [VU,U3,bh,dj,dj];rfl
theorem add_one (h:decide (((gN ((a.den:Nat):Int) ((b.den:Nat):Int):Nat):Int) = 1) = true):D.agg [aS (a.num * ((b.den:Nat):Int) + b.num * ((a.den:Nat):Int)),aS (((a.den:Nat):Int) * ((b.den:Nat):Int))] = af (a + b):=by
 have h1:aw a.den b.den = 1:=by have:=of_decide_eq_true h;exact Int.ofNat_inj.1 this
 obtain ⟨e1,e2⟩:=af6 h1;unfold af;rw [e1,e2,bh]
abbrev aG (a b:Rat):Int:=((gN ((a.den:Nat):Int) ((b.den:Nat):Int):Nat):Int)
abbrev aN (a b:Rat):Int:=a.num * (((b.den:Nat):Int) / aG a b) + b.num * (((a.den:Nat):Int) / aG a b)
theorem abz (h:decide (aG a b = 1) = false):D.agg [aS (aN a b / ((gN (aN a b) (aG a b):Nat):Int)),aS (((a.den:Nat):Int) / aG a b * (((b.den:Nat):Int) / ((gN (aN a b) (aG a b):Nat):Int)))] = af (a + b):=by
 have h1:aw a.den b.den≠1:=fun e=>of_decide_eq_false h (congrArg Nat.cast e)
 unfold af;rw [aca h1,abD h1];simp only [bh,dj];rfl
theorem age (a b:Rat):0 < gN ((a.den:Nat):Int) ((b.den:Nat):Int):=Cm (qC b)
theorem afA (ha:Rb a) (hb:Rb b):AC aD true 126 [af a,af b] (.dat (af (a * b))):=by
 have h1:=ha.n;have h2:=ha.d';have h3:=hb.n;have h4:=hb.d';have g1:=vY (n:=a.num) (qC b);have g2:=vY (n:=b.num) (qC a);have p1:=Cm (n:=a.num) (qC b);have p2:=Cm (n:=b.num) (qC a);have d1:=@VC a.num ((b.den:Nat):Int);have d2:=@VX a.num ((b.den:Nat):Int);have d3:=@VC b.num ((a.den:Nat):Int);have d4:=@VX b.num ((a.den:Nat):Int);have q1:=Lj d1 (by omega);have q2:=Lj d2 (by omega);have q3:=Lj d3 (by omega);have q4:=Lj d4 (by omega);refine aix 65 Tryz.func126 (k:=go 0 [[0,0,1],[5,2,3,4],[5]] (k:=q (Jt) (q (Af 0 1) (q (aI) (q eu (q aC (fD (h:=dn) (k:=cZ 13 (h:=Jt) (k:=cZ 14 (h:=Af 0 1) (k:=cZ 15 (h:=aI) (k:=cZ 16 (h:=eu) (k:=go 1 [[1,2,3,4,18],[1]] (k:=?_)))))))))))));refine dA (fun hc18=>?_) (fun hc18=>?_)
 · refine bP (cO (q (a_call eN (mF)) (go 1 [[1,2,3,4],[3]] (k:=?_))));exact rt_eq dG (by rw [← agJ hc18])
 · refine go 0 [[6]] (k:=q (aX 1) (q (a_call eN (Dn (x:=((a.den:Nat):Int)) (by omega))) (q aC (fD (h:=dn) (k:=cZ 24 (h:=aX 1) (k:=cZ 25 (h:=a_call eN (Dn (x:=((b.den:Nat):Int)) (by omega))) (k:=go 1 [[1,2,3,4,27],[1]] (k:=?_))))))));refine dA (fun hc27=>?_) (fun hc27=>?_)
   · refine bP (dC 8 mixed (go 3 [[1]] (k:=bG 0 (ct:=go 3 [[1]] (k:=bG 0 (ct:=ak eN (kN (x:=a.num) (y:=b.num) (by omega) (by omega)) (ct:=go 3 [[1]] (k:=bG 1 (ct:=go 3 [[3,2,3,4],[3]] (k:=?_))))))))));exact rt_eq dG (congrArg F.dat (Ve (En hc27)))
   · refine eF (aT (bP (dC 12 mixed (go 3 [[1]] (k:=bG 0 (ct:=go 3 [[1]] (k:=bG 1 (ct:=ak eN (BU (x:=a.num) (y:=((b.den:Nat):Int)) (by omega) (by omega)) (ct:=go 3 [[1]] (k:=bG 0 (ct:=go 3 [[1]] (k:=bG 1 (ct:=ak eN (BU (x:=b.num) (y:=((a.den:Nat):Int)) (by omega) (by omega)) (ct:=go 3 [[5,2,3,4,5,6],[2]] (k:=dC 19 mixed (go 3 [[1]] (k:=bG 0 (ct:=go 3 [[1]] (k:=ak eN (pU (a:=a.num) (b:=((gN a.num ((b.den:Nat):Int):Nat):Int)) (by omega) (by omega) (by omega) d1) (ct:=go 3 [[1]] (k:=bG 0 (ct:=go 3 [[1]] (k:=ak eN (pU (a:=b.num) (b:=((gN b.num ((a.den:Nat):Int):Nat):Int)) (by omega) (by omega) (by omega) d3) (ct:=ak eN (kN (x:=a.num / ((gN a.num ((b.den:Nat):Int):Nat):Int)) (y:=b.num / ((gN b.num ((a.den:Nat):Int):Nat):Int)) (by omega) (by omega)) (ct:=go 3 [[1]] (k:=bG 1 (ct:=go 3 [[1]] (k:=ak eN (pU (a:=((a.den:Nat):Int)) (b:=((gN b.num ((a.den:Nat):Int):Nat):Int)) (by omega) (by omega) (by omega) d4) (ct:=go 3 [[1]] (k:=bG 1 (ct:=go 3 [[1]] (k:=ak eN (pU (a:=((b.den:Nat):Int)) (b:=((gN a.num ((b.den:Nat):Int):Nat):Int)) (by omega) (by omega) (by omega) d2) (ct:=ak eN (kN (x:=((a.den:Nat):Int) / ((gN b.num ((a.den:Nat):Int):Nat):Int)) (y:=((b.den:Nat):Int) / ((gN a.num ((b.den:Nat):Int):Nat):Int)) (by omega) (by omega)) (ct:=go 3 [[3,4],[2]] (k:=?_)))))))))))))))))))))))))))))))))));exact rt_eq dG (congrArg F.dat (aax a b))
theorem afh (ha:Rb a) (hb:Rb b):AC aD true 125 [af a,af b] (.dat (af (a + b))):=by
 have h1:=ha.n;have h2:=ha.d';have h3:=hb.n;have h4:=hb.d';have gp:=age a b;have gw:=vY (n:=((a.den:Nat):Int)) (qC b);have d1:aG a b ∣ ((a.den:Nat):Int):=VC;have d2:aG a b ∣ ((b.den:Nat):Int):=VX;have gw:wl (aG a b).natAbs≤wl ((b.den:Nat):Int).natAbs:=gw;have g0:aG a b≠0:=by show ((gN _ _:Nat):Int)≠0;omega
 have q1:=Lj d1 g0;have q2:=Lj d2 g0;have m1:=@jT a.num ((b.den:Nat):Int);have m2:=@jT b.num ((a.den:Nat):Int);have m5:=@jT a.num (((b.den:Nat):Int) / aG a b);have m6:=@jT b.num (((a.den:Nat):Int) / aG a b);have m7:wl (aN a b).natAbs≤_:=@Kr (a.num * (((b.den:Nat):Int) / aG a b)) (b.num * (((a.den:Nat):Int) / aG a b));have hw:=vY (n:=aN a b) g0;have hp:=Cm (n:=aN a b) g0;have h0:((gN (aN a b) (aG a b):Nat):Int)≠0:=by omega
 have e1:((gN (aN a b) (aG a b):Nat):Int) ∣ aN a b:=VC;have e2:((gN (aN a b) (aG a b):Nat):Int) ∣ aG a b:=VX;have e3:=Int.dvd_trans e2 d2;have q5:=Lj e3 h0;refine aix 94 Tryz.func125 (k:=go 0 [[0,0,1],[5,2,3,4],[5]] (k:=q (Jt) (q (Af 0 1) (q (aI) (go 1 [[1,2,3,4,15],[1]] (k:=?_))))));refine bu (fun hc15=>?_) (fun hc15=>?_)
 · refine go 0 [[4,2,3,4],[3]] (k:=?_);exact rt_eq dG (by rw [Em hc15,Rat.zero_add])
 ·
  refine go 0 [[6]] (k:=q (Jt) (q (Af 0 1) (q (aI) (go 1 [[1,2,3,4,21],[1]] (k:=?_)))));refine bu (fun hc21=>?_) (fun hc21=>?_)
  · refine go 0 [[4,2,3,4],[3]] (k:=?_);exact rt_eq dG (by rw [Em hc21,Rat.add_zero])
  · refine go 0 [[6]] (k:=q (aX 1) (q (a_call eN (Dn (x:=((a.den:Nat):Int)) (by omega))) (q aC (fD (h:=dn) (k:=cZ 27 (h:=aX 1) (k:=cZ 28 (h:=a_call eN (Dn (x:=((b.den:Nat):Int)) (by omega))) (k:=go 1 [[1,2,3,4,30],[1]] (k:=?_))))))));refine dA (fun hc30=>?_) (fun hc30=>?_)
    · refine bP (dC 8 mixed (go 3 [[1]] (k:=bG 0 (ct:=go 3 [[1]] (k:=bG 0 (ct:=ak eN (Et (x:=a.num) (y:=b.num) (by omega) (by omega)) (ct:=go 3 [[1]] (k:=bG 1 (ct:=go 3 [[3,2,3,4],[3]] (k:=?_))))))))));exact rt_eq dG (congrArg F.dat (VL (En hc30)))
    · refine go 0 [[5]] (k:=q (aX 1) (q dn (q (aX 1) (q (a_call eN (BU (x:=((a.den:Nat):Int)) (y:=((b.den:Nat):Int)) (by omega) (by omega))) (go 1 [[2,2,3,4,5],[5]] (k:=q (a_call eN (Dn (x:=aG a b) (by omega))) (gU [2,3,4,5,45] (k:=aT ?_))))))));refine dA (fun hc45=>?_) (fun hc45=>?_)
      · refine bP (dC 12 mixed (go 3 [[1]] (k:=bG 0 (ct:=go 3 [[1]] (k:=bG 1 (ct:=ak eN (kN (x:=a.num) (y:=((b.den:Nat):Int)) (by omega) (by omega)) (ct:=go 3 [[1]] (k:=bG 0 (ct:=go 3 [[1]] (k:=bG 1 (ct:=ak eN (kN (x:=b.num) (y:=((a.den:Nat):Int)) (by omega) (by omega)) (ct:=ak eN (Et (x:=a.num * ((b.den:Nat):Int)) (y:=b.num * ((a.den:Nat):Int)) (by omega) (by omega)) (ct:=go 3 [[3,2,3,4,5,6],[2]] (k:=dC 7 mixed (go 3 [[2]] (k:=bG 1 (ct:=go 3 [[1]] (k:=bG 1 (ct:=ak eN (kN (x:=((a.den:Nat):Int)) (y:=((b.den:Nat):Int)) (by omega) (by omega)) (ct:=go 3 [[3,2,3,4,5],[3]] (k:=?_)))))))))))))))))))));exact rt_eq dG (congrArg F.dat (add_one hc45))
      · refine eF (aT (bP (dC 10 mixed (go 3 [[1]] (k:=bG 1 (ct:=go 3 [[1]] (k:=ak eN (pU (a:=((a.den:Nat):Int)) (b:=aG a b) (by omega) (by omega) g0 d1) (ct:=go 3 [[1]] (k:=bG 1 (ct:=go 3 [[1]] (k:=ak eN (pU (a:=((b.den:Nat):Int)) (b:=aG a b) (by omega) (by omega) g0 d2) (ct:=go 3 [[5,2,3,4,5,7,8],[2]] (k:=dC 10 mixed (go 3 [[1]] (k:=bG 0 (ct:=go 3 [[1]] (k:=ak eN (kN (x:=a.num) (y:=((b.den:Nat):Int) / aG a b) (by omega) (by omega)) (ct:=go 3 [[1]] (k:=bG 0 (ct:=go 3 [[1]] (k:=ak eN (kN (x:=b.num) (y:=((a.den:Nat):Int) / aG a b) (by omega) (by omega)) (ct:=ak eN (Et (x:=a.num * (((b.den:Nat):Int) / aG a b)) (y:=b.num * (((a.den:Nat):Int) / aG a b)) (by omega) (by omega)) (ct:=go 3 [[3,3,4,5,7,9],[5]] (k:=q (a_call eN (BU (x:=aN a b) (y:=aG a b) (by omega) (by omega))) (go 1 [[2,3,4,7,9,10],[2]] (k:=dC 10 mixed (go 3 [[2]] (k:=ak eN (pU (a:=aN a b) (b:=((gN (aN a b) (aG a b):Nat):Int)) (by omega) (by omega) h0 e1) (ct:=go 3 [[2]] (k:=bG 1 (ct:=go 3 [[1]] (k:=ak eN (pU (a:=((b.den:Nat):Int)) (b:=((gN (aN a b) (aG a b):Nat):Int)) (by omega) (by omega) h0 e3) (ct:=ak eN (kN (x:=((a.den:Nat):Int) / aG a b) (y:=((b.den:Nat):Int) / ((gN (aN a b) (aG a b):Nat):Int)) (by omega) (by omega)) (ct:=go 3 [[3,4],[2]] (k:=?_)))))))))))))))))))))))))))))))))));exact rt_eq dG (congrArg F.dat (abz hc45))
theorem or_bit (y s:Nat):(2 ^ (s + 1) * y) ||| 2 ^ s = 2 ^ (s + 1) * y + 2 ^ s:=(Nat.two_pow_add_eq_or_of_lt (dc (by omega) (by omega)) y).symm
theorem Qp {y:Nat} (h:2 ^ (s + 1) * y + 2 ^ s < 4294967296):(2 ^ (s + 1) * y + 2 ^ s) &&& (4294967295 - 2 ^ s) = 2 ^ (s + 1) * y:=by
 have hs:2 ^ s < 2 ^ 32:=by omega
 have h4:2 ^ (s + 1) * y < 2 ^ 32:=a8 (jx _ _) h;have e:4294967295 - 2 ^ s = 2 ^ 32 - (2 ^ s + 1):=by omega
 rw [e,← or_bit];apply Nat.eq_of_testBit_eq;intro i;rw [Nat.testBit_and,Nat.testBit_or,Nat.testBit_two_pow_sub_succ hs,Nat.testBit_two_pow]
 by_cases hi:s = i
 · subst hi;simp [Nat.testBit_two_pow_mul];omega
 ·
  rw [decide_eq_false hi];cases hb:Nat.testBit (2 ^ (s + 1) * y) i with
  | false=>simp
  | true =>
   have:i < 32:=by
    rcases bB i 32 with h1 | h1
    · exact h1
    · have h2:2 ^ (s + 1) * y < 2 ^ i:=fw h4 (ck (show 0 < 2 by omega) h1);rw [Nat.testBit_lt_two_pow h2] at hb;cases hb
   simp [this]
variable {ops:Array Oper}
theorem P6 {o:Oper} {a:Act} {K:Act→World→Prop} {Q:Exit→Act→World→Prop} {E:Prop} (hgd:o.guard = none) (f:FuncId) (xs:Array Operand) (ts:Array TypeId) (ho:o.op = .call { callee:=.value (.func f),args:=xs,argTypes:=ts }) (eg:∀ args w,(callFunc f args).run P w = .ok (.enter f args) w) (args:Array Value) (hargs:xs.map a.eval = args) {R:World→Value→Prop} (h:Calls P f args w (Gp w R)) (hK:∀ w' v,Below w.heap.size w w'→R w' v→K (a.put o.dst v) w') :
 if ef o (yielded ops a.tmps) = true then Oper.wp P o a w K Q else E:=by
 have hw:ef o (yielded ops a.tmps) = true:=by simp [ef,hgd]
 rw [if_pos hw];subst hargs;unfold Oper.wp;simp [execOp,ho,resolve,Deferred.ofValue,invoke,eg,db];refine h.mono ?_;rintro e w' ⟨hb,v,rfl,hr⟩;exact hK w' v hb hr
theorem Yw (u:dY Z) {q y:Nat} (hs:s < 32) (hq:q < Z.length) (hv:nv Z = 2 ^ (32 * q + s + 1) * y):∃ y',Z.getD q 0 = 2 ^ (s + 1) * y'∧2 ^ (s + 1) * y' + 2 ^ s < 4294967296:=by
 have e1:Z.getD q 0 = uN (nv Z) q:=by rw [Q4 u hq,bq,aR hq];rfl
 have e2:2 ^ (32 * q + s + 1) * y = 4294967296 ^ q * (2 ^ (s + 1) * y):=by
  rw [show (4294967296:Nat) = 2 ^ 32 from rfl,← eV,← cw,← ep];congr 2
 have e3:(4294967296:Nat) = 2 ^ (s + 1) * 2 ^ (31 - s):=by rw [← ep,show s + 1 + (31 - s) = 32 by omega]
 have e4:uN (nv Z) q = 2 ^ (s + 1) * (y % 2 ^ (31 - s)):=by
  unfold uN;rw [hv,e2,gL _ (bX (by omega))]
  conv=>lhs;rw [e3]
  exact Nat.mul_mod_mul_left _ _ _
 refine ⟨y % 2 ^ (31 - s),by rw [e1,e4],?_⟩;have h1:y % 2 ^ (31 - s) + 1≤2 ^ (31 - s):=cQ _ (bX (by omega));have h2:=bj (2 ^ (s + 1)) h1;rw [← e3,aM,ie] at h2;have h3:2 ^ s < 2 ^ (s + 1):=dc (by omega) (by omega);omega
theorem aey {x y:Nat} (hx:x = 2 ^ (s + 1) * y) (h:x + 2 ^ s < 4294967296):bits .or .u32 (x:Int) ((2 ^ s:Nat):Int) = ((x + 2 ^ s:Nat):Int):=by
 rw [u32_or_nat _ _ (a8 (jx _ _) h) (a8 (j0 _ _) h),hx,or_bit]
theorem aaY {x y:Nat} (hx:x = 2 ^ (s + 1) * y) (h:x + 2 ^ s < 4294967296):bits .andNot .u32 ((x + 2 ^ s:Nat):Int) ((2 ^ s:Nat):Int) = (x:Int):=by
 rw [u32_andNot_nat _ _ h (a8 (j0 _ _) h)];subst hx;rw [Qp h]
theorem acg {q v:Nat} (hq:q < Z.length):nv (Z.set q (Z.getD q 0 + 2 ^ s)) = nv Z + 2 ^ (32 * q + s):=by
 have:=pF (l:=Z) (p:=q) (v:=Z.getD q 0 + 2 ^ s) hq;rw [aM] at this;have e:2 ^ (32 * q + s) = 4294967296 ^ q * 2 ^ s:=by rw [show (4294967296:Nat) = 2 ^ 32 from rfl,← eV,← ep]
 rw [e];omega
theorem WW {q v:Nat} (hq:q < Z.length):(Z.set q v).set q (Z.getD q 0) = Z:=by
 rw [List.set_set];apply List.ext_getElem?;intro i
 by_cases h:q = i
 · subst h;rw [List.getElem?_set_self hq,bq,aR hq];rfl
 · rw [List.getElem?_set_ne h]
theorem aaF {w':World} (h:Below w.heap.size w w'):kE w w':=kE.of h (ar _)
variable {c:Value}
theorem AC.iv (h:AC P true f [aS x] (.dat (.val c))) {v:Value} (hv:IV w v x):Calls P f #[v] w fun e w'=>e = .returned c∧Below w.heap.size w w':=by
 refine (h (fun _ _=>False) w [v] (fun _ _ h=>h.elim) ⟨uG.2 ⟨rfl,hv⟩,trivial⟩).mono ?_;rintro e w' ⟨hb,u,rfl,hr⟩;rw [KX.dat] at hr;rw [gy hr];exact ⟨rfl,hb⟩
theorem AC.mmv {x y:Nat} (h:AC P true f [.mag x,.mag y] (.dat (.val c))) {v u:Value} (hv:MV w v x) (hu:MV w u y):Calls P f #[v,u] w fun e w'=>e = .returned c∧Below w.heap.size w w':=by
 refine (h (fun _ _=>False) w [v,u] (fun _ _ h=>h.elim) ⟨jW rfl hv,jW rfl hu,trivial⟩).mono ?_;rintro e w' ⟨hb,u,rfl,hr⟩;rw [KX.dat] at hr;rw [gy hr];exact ⟨rfl,hb⟩
theorem aaN:N < (0 + 2 ^ ((bitLen N + 1) / 2)) * (0 + 2 ^ ((bitLen N + 1) / 2)):=by
 rw [eI,← ep];exact fw (bitLen_spec N).1 (ck (by omega) (by omega))
theorem PU {R j y:Nat} (hR:R = 2 ^ (j + 1) * y) (h:N < (R + 2 ^ (j + 1)) * (R + 2 ^ (j + 1))):R + 2 ^ j = 2 ^ j * (2 * y + 1)∧N < (R + 2 ^ j + 2 ^ j) * (R + 2 ^ j + 2 ^ j):=by
 have e:2 ^ (j + 1) = 2 ^ j + 2 ^ j:=by rw [bw];omega
 constructor
 · rw [hR,bw,aM,ie,cw]
 · rw [Nat.add_assoc,← e];exact h
theorem Vk {R j y:Nat} (hR:R = 2 ^ (j + 1) * y):R = 2 ^ j * (2 * y):=by rw [hR,bw,cw]
theorem Qa:AC aD true 229 [.mag 0] (.dat (vI 0)):=by
 exact aix 26 Tryz.func229 (k:=go 0 [[0,0],[3,0,2],[5]] (k:=q (aI) (go 1 [[1,0,2,7],[1]] (k:=cfy (h:=(by rfl)) (k:=go 0 [[3,0,2],[3]] (k:=dG))))))
theorem ZY:AC aD true 243 [aS 0] (.dat (vI 0)):=by
 exact aix 7 Tryz.func243 (k:=go 0 [[0,0],[4,1,2],[4]] (k:=q (aX 1) (q (a_call eN (EH (x:=0) (by decide))) (q (a_call eN (Qa)) (go 1 [[1,2],[2]] (k:=dG))))))
theorem U0 {x:Nat} (hx:wl x≤549755813888):AC aD true 243 [aS (x:Int)] (.dat (vI (bitLen x:Int))):=by
 rcases a6 x with h | h
 · subst h;exact ZY
 · exact abq hx h
attribute [local go_sem ↓] bE bL
theorem Vj (N:Nat) (v:Value) (w:World) (hx:IV w v (N:Int)) (hl:wl N≤137438953472):Calls aD 235 #[v] w fun e w'=>Below w.heap.size w w'∧∃ r,e = .returned (.tuple #[r,.int .i64 0])∧IV w' r ((lg N:Nat):Int):=by
 obtain ⟨A,n,c,l,rfl,hm,ht,hv,hn⟩:=hx.num;have hneg:decide ((N:Int) < 0) = false:=decide_eq_false (by omega);rw [hneg] at hx ⊢;have hv':nv l = N:=hv;have hn':n = wl N:=hn;obtain ⟨W,hW⟩:∃ W,W = (w.alloc (.cells #[.bool false,.slice A n c] 70)).alloc (.cells #[.bool false,.slice none 0 0] 70):=⟨_,rfl⟩;obtain ⟨f0,u0,k0⟩:=fr2 w _ _ _ _ hW;have cN:=adZ (.agg #[.bool false,.slice A n c]) N W (hx.u u0) (by show wl N≤_;omega);have F0:=aE f0;have x0:=f0.x 0 rfl (b:=w.heap.size) rfl;have MA:=aE (⟨A,n,c,l,rfl,hm,ht,hv'⟩:MV w (.slice A n c) N);have IA:=aE hx;have BL:=aE (show bitLen N≤32 * wl N from JD);obtain ⟨nb,hnb⟩:∃ nb,nb = (bitLen N + 1) / 2:=⟨_,rfl⟩;have HG:=aE (show N < (0 + 2 ^ nb) * (0 + 2 ^ nb) by rw [hnb];exact aaN);have cB:Hid (∀ w',kE w w'→Calls aD 243 #[.agg #[.bool false,.slice A n c]] w' fun e w''=>e = .returned (.int .i64 (bitLen N:Int))∧Below w'.heap.size w' w''):=aE fun w' hk=>(U0 (x:=N) (by omega)).iv (IA.out.u hk)
 obtain ⟨q,hq⟩:∃ q,q = nb / 32:=⟨_,rfl⟩;have hbl:=BL.out;have t1:((bitLen N:Int) + 1).tdiv 2 = (nb:Int):=by rw [bO (by omega)];omega
 have t2:(nb:Int).tdiv 32 = (q:Int):=by rw [bO (by omega)];omega
 have t3:((bitLen N:Int) + 1) / 2 = (nb:Int):=by omega
 have t4:(nb:Int) / 32 = (q:Int):=by omega
 have hnq:nb < 32 * (q + 1):=by omega
 have hq1:q≤68719476736:=by omega
 have UW:=aE u0;clear hx hm ht hv hn hv' hn' u0 k0 f0 hneg hbl hnb hq;generalize bitLen N = bl at *
 go_enter Tryz.func235,Tryz.ntmps235
 go_upto_region 1 with fail
 rw [← hW];clear hW
 go_wp2_with fail
 refine aL cN ?_;rintro _ w2 ⟨rfl,hb⟩;have F1:=F0.out.next hb;obtain ⟨F2,k2⟩:=F1.aiV 0 rfl false A n c (b:=w.heap.size) rfl;simp only [cP] at F2;have F2:=aE F2;have x1:=F1.x 0 rfl (b:=w.heap.size) rfl;have U2:=aE ((UW.out.trans (aaF hb)).trans k2);clear cN x0 hb F1 k2 F0
 go_upto_region 2 with fail
 generalize (w2.setCell ⟨w.heap.size,0,none⟩ (.bool false)).setCell ⟨w.heap.size,1,none⟩ (.slice A n c) = W3 at *;clear x1;have x0:=F2.out.x 0 rfl (b:=w.heap.size) rfl
 go_wp2_with fail
 refine aL (cB.out _ U2.out) ?_;rintro _ w4 ⟨rfl,hb4⟩;have F4:=aE (F2.out.next hb4);have s4:=F4.out.size;simp only [eB,gh] at s4;have hmk:=run_make_row' (P:=aD) 68 76 (.int .u32 0) 4 Tryz.underlying68 fJ rfl .i64 .i64 (q + 1) (by omega) (by omega);simp only [show ((q + 1:Nat):Int) = (q:Int) + 1 from rfl] at hmk;have M0:Hid (Own (w4.alloc (.cells (madeCells #[.int .u32 0] (q + 1)) 76)) (w.heap.size + 2) 76 1 (some ⟨w4.heap.size,0,none⟩) (q + 1) (q + 1) (us (av (q + 1) 0))):=aE (iw rfl (q + 1) (by unfold maxLen;omega) (by omega));have F5:Hid (FR w (w4.alloc (.cells (madeCells #[.int .u32 0] (q + 1)) 76)) [(#[.bool false,.slice A n c],70),(#[.bool false,.slice none 0 0],70)]):=aE (F4.out.next ((Below.refl _ _).alloc (ar _) _));have S4:=aE s4;clear cB U2 F2 x0 hb4 F4 s4
 go_wp2_with fail
 go_loopg [6] nb (fun g iv wr=>∃ (k R:Nat) (Z:List Nat),k≤nb∧k≤g∧iv = .int .i64 ((k:Int) - 1)∧dY Z∧nv Z = R∧(∃ y,R = 2 ^ k * y)∧R * R≤N∧N < (R + 2 ^ k) * (R + 2 ^ k)∧Own wr (w.heap.size + 2) 76 1 (some ⟨w4.heap.size,0,none⟩) (q + 1) (q + 1) (us Z)∧FR w wr [(#[.bool false,.slice A n c],70),(#[.bool false,.slice none 0 0],70)])
 case atStart=>exact ⟨nb,0,av (q + 1) 0,ar _,ar _,rfl,dY.zero _,jo _,⟨0,rfl⟩,bp _,HG.out,M0.out,F5.out⟩
 case round =>
  clear M0 F5 hmk HG;obtain ⟨k,R,Z,hk,hg,rfl,hz,hzv,hR,hR1,hR2,ho,hf⟩:=hrel;have HO:=aE ho;have HZ:=aE hz;have LZ:=aE ho.jZ;have HF:=aE hf;have ZV:=aE hzv;have HR:=aE hR;have HR1:=aE hR1;have HR2:=aE hR2;clear ho hz hf hzv hR hR1 hR2;rcases a6 k with h0 | h0
  ·
   subst h0;have hRq:R = lg N:=Ig.uniq ⟨HR1.out,by have:=HR2.out;simpa using this⟩ (yY N);have cS:=zx false (some ⟨w4.heap.size,0,none⟩) (q + 1) (q + 1) Z wr (by omega) (HO.out.mag HZ.out);have HQ:=aE hRq;rw [kd] at cS;clear hRq
   go_wp2_with fail
   refine aL cS ?_;rintro _ w5 ⟨rfl,hb5⟩;have F6:=HF.out.next hb5;have HT:=((HO.out.later hb5).Dw (k:=dO Z) rfl).mag (jw HZ.out);have hr:IV w5 (.agg #[.bool false,.slice (some ⟨w4.heap.size,0,none⟩) (dO Z) (q + 1)]) ((lg N:Nat):Int):=by
    rw [← HQ.out];refine ⟨_,_,_,fB Z,?_,HT,dK Z,by rw [dP,ZV.out];rfl⟩;rw [decide_eq_false (show ¬ ((R:Int) < 0) by omega)]
   have x2:=F6.x 1 rfl (b:=w.heap.size + 1) rfl;have Zr:=Ye F6 1 rfl hr (b:=w.heap.size + 1) rfl;generalize dO Z = tz at *;have Z1:=aE Zr.1;have z2:=Zr.2;clear hb5 hr Zr F6 HT cS
   go_wp2_with fail
   refine bodyPost_ret (v:=.tuple #[.agg #[.bool false,.slice (some ⟨w4.heap.size,0,none⟩) tz (q + 1)],.int .i64 0]) (by simp [results,Tryz.results235,go_sem,z2]) rfl ?_;obtain ⟨h1,r,h2,h3⟩:=Z1.out;injection h2 with h2
   exact ⟨h1,_,rfl,by rw [h2];exact h3⟩
  ·
   obtain ⟨j,rfl⟩:∃ j,k = j + 1:=⟨k - 1,by omega⟩;obtain ⟨p,hp⟩:∃ p,p = j / 32:=⟨_,rfl⟩;obtain ⟨s,hs⟩:∃ s,s = j % 32:=⟨_,rfl⟩;have hj:j = 32 * p + s:=by omega
   have hs32:s < 32:=by omega
   have hpq:p < q + 1:=by omega
   have ej:((j + 1:Nat):Int) - 1 = (j:Int):=by omega
   rw [ej];have e1:(j:Int).tdiv 32 = (p:Int):=by rw [bO (by omega)];omega
   have e2:(j:Int).tmod 32 = (s:Int):=by rw [de (by omega)];omega
   have e3:(j:Int) / 32 = (p:Int):=by omega
   have e4:(j:Int) % 32 = (s:Int):=by omega
   obtain ⟨y,hy⟩:=HR.out;obtain ⟨y',hx',hxb⟩:=Yw HZ.out (q:=p) (s:=s) (y:=y) hs32 (by rw [LZ.out];exact hpq) (by rw [ZV.out,hy,hj]);have RA:=aE (acg (Z:=Z) (q:=p) (s:=s) (v:=0) (by rw [LZ.out];exact hpq));have SB:=aE (WW (Z:=Z) (q:=p) (v:=Z.getD p 0 + 2 ^ s) (by rw [LZ.out];exact hpq));have cx:=HO.out.gB (j:=p) hpq;have fx:wr.frozen? ⟨w4.heap.size,p,none⟩ = false:=HO.out.frozen p;have hxm:=HZ.out.at p;generalize Z.getD p 0 = x at *;have EO:=aey hx' (by rw [hx'];exact hxb);have EF:=aaY hx' (by rw [hx'];exact hxb);obtain ⟨b,hb2⟩:∃ b,b = 2 ^ s:=⟨_,rfl⟩;have eP:(2:Int) ^ s = (b:Int):=by rw [hb2,j9];rfl
   have hxb2:x + 2 ^ s < 4294967296:=by rw [hx'];exact hxb
   have J2:Hid (2 ^ (32 * p + s) = 2 ^ j):=aE (by rw [hj]);have YN:=aE (PU (N:=N) (R:=R) (j:=j) (y:=y) (by rw [hy]) HR2.out);have Y0:=aE (Vk (R:=R) (j:=j) (y:=y) (by rw [hy]));rw [← hb2] at EO EF RA SB hxb2;have hb32:b < 4294967296:=by omega
   obtain ⟨xb,hxe⟩:∃ xb,xb = x + b:=⟨_,rfl⟩;rw [← hxe] at EO EF RA SB hxb2;have HX:=aE hxb2;have JJ:=aE hj;clear hb2 hx' hxb hp hs ej hy hj hxb2 hxe;have g0:=bZ cx
   go_upto_region 9 with fail
   refine uj 13 (by kernel_rfl) (by kernel_rfl) ?_;simp only [cF,du,cG,bk]
   repeat (go_big_quiet_step (fail))
   refine wpQuiet_nil ?_;intro wq hgq;have HOq:=HO.out.later hgq;have coq:=HOq.gB (j:=p) hpq;have Fq:=HF.out.next hgq;have foq:wq.frozen? ⟨w4.heap.size,p,none⟩ = false:=HOq.frozen p;have cx2:=bZ (bg.of_below hgq (ar _) _ _ cx);have cx3:=bg.of_below hgq (ar _) _ _ cx;have S2:=HOq.eH p xb;have F2:=aE (Fq.other (p:=⟨w4.heap.size,p,none⟩) (by have:=S4.out;simp only [eB,gh];omega) (.int .u32 (xb:Int)));have S2:=aE S2;clear HOq Fq hgq coq g0 cx fx cx2
   go_upto_region 10 with fail
   generalize wq.setCell ⟨w4.heap.size,p,none⟩ (.int .u32 (xb:Int)) = W5 at *;have U5:Hid (dY (Z.set p xb)):=aE (HZ.out.set _ HX.out);have V5:Hid (nv (Z.set p xb) = R + 2 ^ j):=aE (by rw [RA.out,ZV.out,J2.out]);have L5:Hid ((Z.set p xb).length = q + 1):=aE (by rw [List.length_set];exact LZ.out);obtain ⟨Z1,hZ1⟩:∃ Z1,Z1 = Z.set p xb:=⟨_,rfl⟩;rw [← hZ1] at S2 U5 V5 SB L5;have HZ1:=aE hZ1;clear hZ1 RA;obtain ⟨tz,htz⟩:∃ tz,tz = dO Z1:=⟨_,rfl⟩;obtain ⟨R1,hR1⟩:∃ R1,R1 = R + 2 ^ j:=⟨_,rfl⟩;have HTZ:=aE htz;have HR1':=aE hR1;clear htz hR1;have M5:Hid (∀ wz,Below W5.heap.size W5 wz→bf wz (some ⟨w4.heap.size,0,none⟩) (q + 1) (q + 1) Z1):=aE fun wz hb=>(S2.out.later hb).mag U5.out
   have T5:Hid (∀ wz,Below W5.heap.size W5 wz→MV wz (.slice (some ⟨w4.heap.size,0,none⟩) tz (q + 1)) R1):=aE fun wz hb=>⟨_,_,_,fB Z1,rfl,(M5.out wz hb).trim |> fun h=>by rw [HTZ.out];exact h,dK Z1,by rw [dP,V5.out,HR1'.out]⟩
   have A5:Hid (∀ wz,Below W5.heap.size W5 wz→MV wz (.slice A n c) N):=aE fun wz hb=>MV.u (show MV w (.slice A n c) N from MA.out) (kE.of (F2.out.next hb).below (ar _))
   have TR:Hid (∀ wz,Below W5.heap.size W5 wz→Calls aD 209 #[.slice (some ⟨w4.heap.size,0,none⟩) (q + 1) (q + 1)] wz fun e w'=>e = .returned (.slice (some ⟨w4.heap.size,0,none⟩) tz (q + 1))∧wz = w'):=aE fun wz hb=>by
    have:=iQ (some ⟨w4.heap.size,0,none⟩) (q + 1) (q + 1) Z1 wz (by omega) (M5.out wz hb);rw [← HTZ.out] at this;exact this
   have hwl:wl R1≤2199023255552:=by
    have h1:nv Z1 < 4294967296 ^ (q + 1):=by rw [← L5.out];exact mi U5.out
    rw [V5.out,← HR1'.out] at h1;have:=jQ.2 h1;omega
   have TM:Hid (∀ wz,Below W5.heap.size W5 wz→Calls aD 217 #[.slice (some ⟨w4.heap.size,0,none⟩) tz (q + 1),.slice (some ⟨w4.heap.size,0,none⟩) tz (q + 1)] wz (Gp wz fun w' r=>MV w' r (R1 * R1))):=aE fun wz hb=>Ux _ _ _ _ wz (T5.out wz hb) (T5.out wz hb) hwl hwl
   have hw2:wl (R1 * R1)≤4398046511104:=by have:=Kt R1 R1;omega
   have CM:Hid (∀ wz r,Below W5.heap.size W5 wz→MV wz r (R1 * R1)→Calls aD 215 #[r,.slice A n c] wz fun e w'=>e = .returned (.int .i64 (((R1 * R1:Nat):Int) - (N:Int)).sign)∧Below wz.heap.size wz w'):=aE fun wz r hb hr=>(FX (x:=R1 * R1) (y:=N) hw2 (by omega)).mmv hr (A5.out wz hb)
   have EGT:=aE (eN (f:=209));have EGM:=aE (eN (f:=217));have EGC:=aE (eN (f:=215));have x5:=F2.out.x 0 rfl (b:=w.heap.size) rfl;clear hwl hw2;have D5:Hid (Below W5.heap.size W5 W5.drew):=aE ((Below.refl _ W5).drew)
   go_region_law ((first
    | (refine Du rfl 209 #[.tmp 39] #[68] rfl EGT.out #[.slice (some ⟨w4.heap.size,0,none⟩) (q + 1) (q + 1)] (by simp [db,dp]) _ (TR.out _ D5.out) ?_;rintro w8 rfl)
    | (refine Du rfl 209 #[.tmp 41] #[68] rfl EGT.out #[.slice (some ⟨w4.heap.size,0,none⟩) (q + 1) (q + 1)] (by simp [db,dp]) _ (TR.out _ D5.out) ?_;rintro w8 rfl)
    | (refine P6 rfl 217 #[.tmp 40,.tmp 42] #[68,68] rfl EGM.out #[.slice (some ⟨w4.heap.size,0,none⟩) tz (q + 1),.slice (some ⟨w4.heap.size,0,none⟩) tz (q + 1)] (by simp [db,dp]) (TM.out _ D5.out) ?_;rintro w8 r8 hb8 hr8;obtain ⟨C8,n8,c8,l8,rfl,m8,t8,v8⟩:=hr8;have hq8:Below W5.heap.size W5 w8:=D5.out.trans (hb8.mono D5.out.size);have F8:=F2.out.next hq8;have y1:=F8.x 0 rfl (b:=w.heap.size) rfl;have HR8:Hid (MV w8 (.slice C8 n8 c8) (R1 * R1)):=aE ⟨_,_,_,l8,rfl,m8,t8,v8⟩;clear F8 m8 t8 v8 hb8)
    | (refine Du rfl 215 #[.tmp 43,.tmp 45] #[68,68] rfl EGC.out #[.slice C8 n8 c8,.slice A n c] (by simp [db,dp]) _ (CM.out _ _ hq8 HR8.out) ?_;intro w9 hb9;have hq9:Below W5.heap.size W5 w9:=hq8.trans (hb9.mono hq8.size);clear hb9 y1 HR8 hq8)
    | fail))
   all_goals
    have O9:=S2.out.later hq9;have F9:=aE (F2.out.next hq9);have O9h:=aE O9;clear hq9 x5
    by_cases hgt:N < R1 * R1
    ·
     have hgi:(N:Int) < (R1:Int) * (R1:Int):=by rw [← bh];omega
     have c9:=O9.gB (j:=p) hpq;have f9:w9.frozen? ⟨w4.heap.size,p,none⟩ = false:=O9.frozen p;have e9:Z1.getD p 0 = xb:=by rw [HZ1.out,iE (by rw [LZ.out];exact hpq)]
     rw [e9] at c9;have g9:=bZ c9;have HGT:=aE hgt;clear O9 hgt e9;simp only [dp,List.getElem_toArray,List.getElem_cons_succ,List.getElem_cons_zero,da,dz,cP]
     go_upto_region 11 with fail
     refine uj 13 (by kernel_rfl) (by kernel_rfl) ?_;simp only [cF,du,cG,bk]
     repeat (go_big_quiet_step (fail))
     refine wpQuiet_nil ?_;intro wq hgq;have HOq:=O9h.out.later hgq;have Fq:=F9.out.next hgq;have foq:wq.frozen? ⟨w4.heap.size,p,none⟩ = false:=HOq.frozen p;have cxq:=bg.of_below hgq (ar _) _ _ c9;have S6:=HOq.eH p x;rw [SB.out] at S6;have S6:=aE S6;have F6:=aE (Fq.other (p:=⟨w4.heap.size,p,none⟩) (by have:=S4.out;simp only [eB,gh];omega) (.int .u32 (x:Int)));clear HOq Fq hgq g9 c9 f9
     go_wp2_with fail
     go_roundg j
     case measure=>omega
     case rel=>exact ⟨j,R,Z,by omega,ar _,by go_num,HZ.out,ZV.out,⟨2 * y,Y0.out⟩,HR1.out,by have:=HGT.out;rw [HR1'.out] at this;exact this,S6.out,F6.out⟩
    · have hgi:¬ (N:Int) < (R1:Int) * (R1:Int):=by rw [← bh];omega
      have HGT:=aE hgt;clear O9 hgt
      go_wp2_with fail
      go_roundg j
      case measure=>omega
      case rel=>exact ⟨j,R1,Z1,by omega,ar _,by go_num,U5.out,by rw [V5.out,HR1'.out],⟨2 * y + 1,by rw [HR1'.out];exact YN.out.1⟩,by have:=HGT.out;omega,by rw [HR1'.out];exact YN.out.2,O9h.out,F9.out⟩
theorem Ja (hl:wl N≤137438953472):AC aD true 235 [aS (N:Int)] (.bT [aS ((lg N:Nat):Int),vI 0]):=by
 intro X w vs hx hr
 match vs,hr with
 | [v],hr =>
  refine (Vj N v w (uG.1 hr.1).2 hl).mono ?_;rintro e w' ⟨h1,r,h2,h3⟩;refine ⟨h1,_,h2,fun _ _=>False,none,fun _ _ h=>h.elim,fun _ h=>(by cases h),?_⟩;unfold ah;exact ⟨_,rfl,uG.2 ⟨rfl,h3⟩,dh rfl,trivial⟩
theorem N8 (h0:a.num < 0):AC aD true 219 [af a] (.bT [dR,vB false]):=by
 exact aix 44 Tryz.func219 (k:=go 0 [[0,0],[5,1,2,3],[5]] (k:=q (Jt) (q (Af 0 0) (gU [1,2,3,10] (k:=aT (Zz (h:=(fun hc10=>absurd h0 (of_decide_eq_false hc10))) (k:=go 0 [[5,1,2,3],[3]] (k:=qJ))))))))
section
theorem ED (M:Nat):decide (((lg M:Nat):Int) * ((lg M:Nat):Int) = (M:Int)) = decide (lg M * lg M = M):=by
 rw [decide_eq_decide,← bh];omega
theorem agq (h0:a.num = (N:Int)) (h:(!decide (((lg N:Nat):Int) * ((lg N:Nat):Int) = (N:Int)) || !decide (((lg a.den:Nat):Int) * ((lg a.den:Nat):Int) = ((a.den:Nat):Int))) = true):F.bT [dR,vB false] = F.bT [((vM a).map af).getD dR,vB (vM a).isSome] :=
 IG h0 (by rw [ED,ED] at h;exact h)
theorem abM (h0:a.num = (N:Int)) (h:(!decide (((lg N:Nat):Int) * ((lg N:Nat):Int) = (N:Int)) || !decide (((lg a.den:Nat):Int) * ((lg a.den:Nat):Int) = ((a.den:Nat):Int))) = false):F.bT [D.agg [aS ((lg N:Nat):Int),aS ((lg a.den:Nat):Int)],vB true] = F.bT [((vM a).map af).getD dR,vB (vM a).isSome] :=
 Gs h0 (by rw [ED,ED] at h;exact h)
end
theorem Lc (ha:Rb a) (h0:a.num = (N:Int)):AC aD true 219 [af a] (.bT [((vM a).map af).getD dR,vB (vM a).isSome]):=by
 have h1:=ha.n;have h2:=ha.d;have hN:a.num.natAbs = N:=by omega
 rw [hN] at h1;have w1:=yV N;have w2:wl ((lg N:Nat):Int).natAbs≤wl N:=iF (QH N);have w3:=yV a.den;have w4:wl ((lg a.den:Nat):Int).natAbs≤wl a.den:=iF (QH a.den);refine aix 44 Tryz.func219 (k:=go 0 [[0,0],[5,1,2,3],[5]] (k:=q (Jt) (q (Af 0 0) (gU [1,2,3,10] (k:=aT (O3 (h:=(fun hc10=>absurd (of_decide_eq_true hc10) (by omega))) (k:=go 0 [[5]] (k:=q (aX 0) (q (a_call eN ((Ja (N:=N) (by omega)).arg (congrArg (fun z=>[aS z]) h0.symm))) ?_)))))))));refine go 1 [[6,1,2,3,4],[4]] (k:=q (aX 1) (q (a_call eN (Ja (N:=a.den) (by omega))) (go 1 [[6,1,2,3,4,6],[3]] (k:=dC 16 mixed (go 3 [[2]] (k:=ak eN (kN (x:=((lg N:Nat):Int)) (y:=((lg N:Nat):Int)) (by omega) (by omega)) (ct:=go 3 [[1]] (k:=bG 0 (ct:=ak eN ((UG (x:=((lg N:Nat):Int) * ((lg N:Nat):Int)) (y:=(N:Int)) (by omega) (by exact cg h1 (by omega))).arg (congrArg (fun z=>[_,aS z]) h0.symm)) (ct:=OA (ct:=go 3 [[1]] (k:=Dj 6 (h:=fun Γg hb hn hc=>bM (hl:=hb) (hn:=hn)) (ct:=Dj 6 (h:=fun Γg hb hn hc=>bM (hl:=hb) (hn:=hn)) (ct:=JY 32 33 (h:=fun Γg hn hg=>a_call eN (kN (x:=((lg a.den:Nat):Int)) (y:=((lg a.den:Nat):Int)) (by omega) (by omega)) (hn:=df.2 ⟨rfl,df.2 ⟨rfl,hn⟩⟩)) (ct:=Dj 1 (h:=fun Γg hb hn hc=>dn (hl:=hb) (hn:=hn)) (ct:=ai4 1 35 (h:=fun Γg hb hn hg=>aX 1 (hl':=(qO (by decide)).trans hb) (hn:=df.2 ⟨rfl,hn⟩)) (ct:=JY 34 36 (h:=fun Γg hn hg=>a_call eN (UG (x:=((lg a.den:Nat):Int) * ((lg a.den:Nat):Int)) (y:=((a.den:Nat):Int)) (by omega) (by exact cg h2 (by omega))) (hn:=df.2 ⟨rfl,df.2 ⟨rfl,hn⟩⟩)) (ct:=YK 37 (h:=fun Γg hn hg=>iV (hn:=df.2 ⟨rfl,hn⟩)) (ct:=ahe (ct:=go 3 [[1,2,3,4,6,39],[1]] (k:=?_)))))))))))))))))))));refine dA (fun hc39=>?_) (fun hc39=>?_)
 · refine go 0 [[5,2,3,4,6],[3]] (k:=?_);exact rt_eq qJ (agq h0 hc39)
 · refine go 0 [[9,2,3],[2]] (k:=?_);exact rt_eq qJ (abM h0 hc39)
theorem abZ (ha:Rb a):AC aD true 219 [af a] (.bT [((vM a).map af).getD dR,vB (vM a).isSome]):=by
 rcases kp a.num 0 with h | h
 · have:vM a = none:=Ph fun r s h1 h2=>by omega
   rw [this];exact N8 h
 · exact Lc (N:=a.num.natAbs) ha (by omega)
def Tryz.oJ:Go.Shelf.Ren:=⟨fun | 4=>204 | n=>n,fun | 22=>25 | 25=>72 | 3=>3 | 4=>4 | 9=>9 | 20=>20 | 0=>0 | n=>n,fun | n=>n⟩
theorem Tryz.Vm:Go.Proofs.Lays8.n4 aD Tryz.oJ:={
 mixed:=by kernel_rfl
 f4:=⟨Tryz.f204.name,by decide,Tryz.func204.trans (congrArg some (by kernel_rfl))⟩
 t0:=Tryz.underlying0
 a0:=Tryz.isAgg0
 z0:=Tryz.sizeOf0
 v0:=Tryz.zeroValue0
 t3:=Tryz.underlying3
 a3:=Tryz.isAgg3
 z3:=Tryz.sizeOf3
 v3:=Tryz.zeroValue3
 t4:=Tryz.underlying4
 a4:=Tryz.isAgg4
 z4:=Tryz.sizeOf4
 v4:=Tryz.zeroValue4
 t9:=Tryz.underlying9
 a9:=Tryz.isAgg9
 z9:=Tryz.sizeOf9
 v9:=Tryz.zeroValue9
 t20:=Tryz.underlying20
 a20:=Tryz.isAgg20
 z20:=Tryz.sizeOf20
 v20:=Tryz.zeroValue20
 t22:=Tryz.underlying25
 a22:=Tryz.isAgg25
 z22:=Tryz.sizeOf25
 v22:=Tryz.zeroValue25 }
theorem Vx:(aD.info? 72).map (fun i=>(i.zero,i.size,i.bytes)) = some (some (.agg #[.bool false,.slice none 0 0,.bool false,.slice none 0 0]),4,64):=by kernel_rfl
theorem acf {n:Nat} (hn:n≤1000000) (h0:0 < n):AC aD true 204 [wQ,vI (n:Int)] (.grow 4 []):=by
 intro X w vs hx hr
 match vs,hr with
 | [v,u],hr =>
  rw [gy hr.1,gy hr.2.1];obtain ⟨i0,hi0,hm⟩:=Option.map_eq_some_iff.1 Vx;injection hm with e1 hm
  injection hm with e2 e3
  refine (Any8.slices_Grow_grow Tryz.Vm i0 _ hi0 e1 (by omega) none 0 0 n [] w (ar _) (by omega) (by rw [e3];omega) (by omega) (by simp) (fun _=>rfl) (fun a h=>nomatch h)).mono ?_;rintro e w' ⟨rfl,rfl⟩;refine ⟨(Below.refl _ _).drew.alloc (by simp) _,_,rfl,fun b o=>b = w.heap.size,some w.heap.size,?_,?_,?_⟩
  · rintro b o rfl;exact ⟨ar _,by simp⟩
  · intro b h;injection h with h;subst h;exact ⟨ar _,by simp⟩
  ·
   obtain ⟨Z,hZ⟩:∃ Z,Z = (([]:List Value).toArray ++ fh (gD #[.bool false,.slice none 0 0,.bool false,.slice none 0 0]).cells (0 + n - 0) ++ fh (gD #[.bool false,.slice none 0 0,.bool false,.slice none 0 0]).cells (grownCap w (0 + n) 0 (Tryz.oJ.t 25) - (0 + n))):=⟨_,rfl⟩;rw [← hZ];unfold ah;refine ⟨(fun d h=>by cases h),.inr ⟨w.heap.size,grownCap w (0 + n) 0 (Tryz.oJ.t 25),Z.toList,_,by simp,rfl,bp _,by rw [Array.toArray_toList];exact heap_alloc_new w.drew _,?_,?_,?_,?_⟩⟩
   · have:=grownCap_ge w (0 + n) 0 (Tryz.oJ.t 25);rw [Array.length_toList,hZ,iz,iz,size_zeroCells,size_zeroCells];have hz:(gD #[.bool false,.slice none 0 0,.bool false,.slice none 0 0]).cells.size = 4:=rfl;rw [hz];simp at this ⊢;omega
   · simp [aF]
   · intro _ v hv i e;subst e;have hc:∀ k,Value.int .u32 i ∉ (fh (gD #[.bool false,.slice none 0 0,.bool false,.slice none 0 0]).cells k).toList:=fun k h=>by
      have:=oO h;simp [Value.cells] at this
     rw [hZ] at hv;simp only [Array.toList_append,List.mem_append] at hv;rcases hv with (hv | hv) | hv
     · simp at hv
     · exact hc _ hv
     · exact hc _ hv
   · intro o;constructor
     · intro _;simp
     · intro _;exact .inr rfl
theorem aa2 (ls:List (List D)) (i:Nat):(ls.take i).flatten.length≤ls.flatten.length:=by
 have h:ls.flatten.length = ((ls.take i) ++ (ls.drop i)).flatten.length:=by rw [List.take_append_drop]
 rw [h,fg,fk];omega
theorem Wh {ls:List (List D)} (hw:∀ l∈ls,∀ x∈l,x.width = 4) (hu:∀ l∈ls,D.ik l = true) (hn:ls.flatten.length≤1000000) (h0:0 < ls.flatten.length) (hl:ls.length≤1000):AC aD true 165 [.list 1 (ls.map (.list 4))] (.grow 4 ls.flatten):=by
 have hpart:∀ i,(ls.take i).flatten.length≤ls.flatten.length:=aa2 ls;refine aix 36 Tryz.func165 (k:=go 0 [[0,0],[3,0,2],[4,0,2,3],[5]] (k:=q (aI (n:=ls.length) (hlen:=by simp [lenOf])) (go 1 [[1,0,2,3,9,10,11],[2]] (k:=?_))));refine CT.weak (aZ (ι:=Nat) (fun i=>[(0,.dat (.list 1 (ls.map (.list 4)))),(3,.dat (vI (((ls.take i).flatten.length:Nat):Int))),(9,.dat (.list 1 (ls.map (.list 4)))),(10,.dat (vI ((ls.length:Nat):Int))),(11,.dat (vI (i:Int)))]) (fun i=>i≤ls.length) (fun i=>ls.length - i) ?_ (0) (bp _)) (sbk [0,3,9,10,11]);intro i hi;refine go 0 [[0,0,3,9,10,11],[3,0,3,9,10,11,12],[2]] (k:=?_);refine bu (fun hc12=>?_) (fun hc12=>?_)
 ·
  obtain ⟨li,hli⟩:∃ li,ls[i]? = some li:=⟨_,aR (by omega)⟩;have htk:ls.take (i + 1) = ls.take i ++ [li]:=by rw [iX,hli];rfl
  have htl:(ls.take (i + 1)).flatten.length = (ls.take i).flatten.length + li.length:=by rw [htk,fg,fk];simp
  have hp:=hpart (i + 1);refine go 0 [[6]] (k:=q (dZ (i:=i) rfl (e:=.list 4 li) (by rw [bR,hli];rfl)) (go 1 [[2,0,3,5,9,10,11],[5]] (k:=q (aI (n:=li.length) (hlen:=rfl)) (q (Bz (z:=(((ls.take (i + 1)).flatten.length:Nat):Int)) (hz:=by rw [htl];simp [lenOf])) (go 1 [[1,0,3,9,10,11],[5,0,3,9,10,11,20],[1]] (k:=?_))))));refine bu (fun hc20=>?_) (fun hc20=>?_)
  · omega
  · refine go 0 [[4]] (k:=q (bH (z:=((i + 1:Nat):Int))) (q aC (gU [0,3,9,10,11] (k:=?_))));exact aY (i + 1) ⟨by omega,by omega⟩ (sbk [0,3,9,10,11])
 ·
  have hie:i = ls.length:=by omega
  subst hie;rw [js];refine go 0 [[8]] (k:=q (a_call eN (acf (n:=ls.flatten.length) hn h0)) (go 1 [[1,0,6],[5]] (k:=q (aI (n:=ls.length) (hlen:=by simp [lenOf])) (go 1 [[1,6,25,26,27],[2]] (k:=?_)))));refine CT.weak (aZ (ι:=Nat) (fun i=>[(6,.grow 4 (ls.take i).flatten),(25,.dat (.list 1 (ls.map (.list 4)))),(26,.dat (vI ((ls.length:Nat):Int))),(27,.dat (vI (i:Int)))]) (fun i=>i≤ls.length) (fun i=>ls.length - i) ?_ (0) (bp _)) (sbk [6,25,26,27]);intro i hi;refine go 0 [[0,6,25,26,27],[3,6,25,26,27,28],[2]] (k:=?_);refine bu (fun hc28=>?_) (fun hc28=>?_)
  · obtain ⟨li,hli⟩:∃ li,ls[i]? = some li:=⟨_,aR (by omega)⟩;have htk:ls.take (i + 1) = ls.take i ++ [li]:=by rw [iX,hli];rfl
    have htk2:(ls.take (i + 1)).flatten = (ls.take i).flatten ++ li:=by rw [htk,fg];simp
    refine go 0 [[6]] (k:=q (dZ (i:=i) rfl (e:=.list 4 li) (by rw [bR,hli];rfl)) (go 1 [[2,6,8,25,26,27],[4]] (k:=q (iI aW (hb:=by rw [← fk,← htk2];have:=hpart (i + 1);omega) (hu2:=hu li (ib hli))) (go 1 [[1,6,25,26,27],[3]] (k:=q (bH (z:=((i + 1:Nat):Int))) (q aC (gU [6,25,26,27] (k:=?_))))))));rw [← htk2];exact aY (i + 1) ⟨by omega,by omega⟩ (sbk [6,25,26,27])
  · have hie:i = ls.length:=by omega
    subst hie;rw [js];exact go 0 [[9,2],[2]] (k:=qj)
theorem EW {l1 l2:List D} (h1:∀ x∈l1,x.width = 4) (h2:∀ x∈l2,x.width = 4) (u1:D.ik l1 = true) (u2:D.ik l2 = true) (hn:l1.length + l2.length≤1000000) (h0:l1 ++ l2≠[]):AC aD true 165 [.list 1 [.list 4 l1,.list 4 l2]] (.grow 4 (l1 ++ l2)):=by
 have:=Wh (ls:=[l1,l2]) (by simpa using ⟨h1,h2⟩) (by simpa using ⟨u1,u2⟩) (by simpa using hn) (by simp;rcases l1 with _ | ⟨a,l1⟩ <;> rcases l2 with _ | ⟨b,l2⟩ <;> simp at h0 ⊢ <;> omega) (by simp);simpa using this

def LU (p:Rat→Bool) (l:List Rat):Int:=match l.findIdx? p with
 | some i=>i
 | none=>-1
theorem kM {l:List Rat} {i:Nat} {q:Rat} (h:l[i]? = some q):(l.map af)[i]? = some (af q):=by rw [bR,h];rfl
variable {p:Rat→Bool} {l:List Rat}
theorem U7 {q:Rat} (hq:l[i]? = some q) (hp:p q = true) (hj:∀ j,j < i→∀ q,l[j]? = some q→p q = false):LU p l = i:=by
 obtain ⟨h,e⟩:=List.getElem?_eq_some_iff.1 hq;have:l.findIdx? p = some i:=fN.2 ⟨h,by rw [e];exact hp,fun j hji=>by rw [hj j hji _ (aR (by omega))];simp⟩;unfold LU;rw [this]
theorem Wn (hj:∀ j,j < l.length→∀ q,l[j]? = some q→p q = false):LU p l = -1:=by
 have:l.findIdx? p = none:=gC.2 fun q hq=>by
  obtain ⟨j,hj',e⟩:=List.getElem_of_mem hq;exact hj j hj' q (by rw [aR hj',e])
 unfold LU;rw [this]
theorem Y6:decide (0≤LU p l) = l.any p:=by
 unfold LU
 split
 · rename_i i h;obtain ⟨h1,h2,_⟩:=fN.1 h;rw [decide_eq_true (by omega),eq_comm,List.any_eq_true];exact ⟨_,fW h1,h2⟩
 · rename_i h;rw [decide_eq_false (by omega),eq_comm,List.any_eq_false];intro q hq;rw [gC.1 h q hq];simp
theorem rP {n:Nat} (h1:l.length = n) (h2:(i:Int) < (n:Int)):∃ q,l[i]? = some q∧q∈l:=by
 have hi:i < l.length:=by omega
 exact ⟨l[i],aR hi,fW hi⟩
theorem adR {fid:FuncId} (en:EN fid) (hc:∀ a∈l,AC aD true fid [af a] (.dat (vB (p a)))) (hl:l.length≤1000000):AC aD true 193 [dL l,.val (.func (.func fid) #[] #[])] (.dat (vI (LU p l))):=by
 refine aix 19 Tryz.func193 (k:=go 0 [[0,0,1],[3,0,1,4],[5]] (k:=q (aI (hlen:=iL l)) (go 1 [[1,0,1,4,7,8],[2]] (k:=?_))));refine CT.weak (aZ (ι:=Nat) (fun i=>[(0,.dat (dL l)),(1,.dat (.val (.func (.func fid) #[] #[]))),(7,.dat (vI l.length)),(8,.dat (vI i))]) (fun i=>i≤l.length∧∀ j,j < i→∀ q,l[j]? = some q→p q = false) (fun i=>l.length - i) ?_ (0) (⟨bp _,fun _ h=>absurd h (by omega)⟩)) (sbk [0,1,7,8]);intro i ⟨hi,hj⟩;refine go 0 [[0,0,1,7,8],[3,0,1,7,8,9],[2]] (k:=?_);refine bu (fun hc9=>?_) (fun hc9=>?_)
 · refine go 0 [[8,0,1,5,7,8],[6]] (k:=?_);obtain ⟨c,hq,hm⟩:=rP rfl hc9;refine q (dZ rfl (kM hq)) (q fO ?_);refine q (JW en (hc c hm)) (gU [0,1,5,7,8,16] (k:=aT ?_));refine dA (fun hc16=>?_) (fun hc16=>?_)
   · refine go 0 [[4,0,1,4,7,8],[7]] (k:=?_);exact rt_eq dG (by rw [U7 hq hc16 hj])
   · have hnext:∀ j,j < i + 1→∀ q,l[j]? = some q→p q = false:=fun j h q' hq'=>(Nat.lt_succ_iff_lt_or_eq.1 h).elim (fun h=>hj j h q' hq') fun h=>by subst h;rw [hq] at hq';injection hq' with hq';rw [← hq'];exact hc16
     refine go 0 [[4]] (k:=q (bH) (q aC (gU [0,1,7,8] (k:=?_))));exact aY (i + 1) ⟨⟨by omega,hnext⟩,by omega⟩ (sbk [0,1,7,8])
 · refine go 0 [[8,4],[2]] (k:=?_);exact rt_eq dG (by rw [Wn fun j h=>hj j (by omega)])
theorem X3 {fid:FuncId} (en:EN fid) (hc:∀ a∈l,AC aD true fid [af a] (.dat (vB (p a)))) (hl:l.length≤1000000):AC aD true 154 [dL l,.val (.func (.func fid) #[] #[])] (.dat (vB (l.any p))):=by
 refine aix 9 Tryz.func154 (k:=go 0 [[0,0,1],[3,0,1,4],[5]] (k:=q (a_call eN (adR en hc hl)) (go 1 [[2,4],[2]] (k:=?_))));exact rt_eq dG (by rw [Y6])
theorem yP:(1:Int) * 2 ^ i = ((2 ^ i:Nat):Int):=by simp
theorem dH (h:i≤40):((2 ^ i:Nat):Int)≤9223372036854775807:=by
 have:=ck (show 0 < 2 by omega) h;omega
theorem mX:(-9223372036854775808:Int)≤((2 ^ i:Nat):Int):=Int.le_trans (by decide) (ea _)
theorem jK (h:i≤9):2 ^ i≤512:=ck (show 0 < 2 by omega) h
def Tok (t:List (List Rat)):Prop:=t.length≤8∧∀ i r,t[i]? = some r→r.length = 2 ^ i∧um r
theorem jV {t:List (List Rat)} {i:Nat} {r:List Rat} (h:t[i]? = some r):(t.map dL)[i]? = some (dL r):=by rw [bR,h];rfl
theorem adk {t:List (List Rat)} {n:Nat} (h1:t.length = n) (h2:(i:Int) < (n:Int)):∃ q,t[i]? = some q:=by
 have hi:i < t.length:=by omega
 exact ⟨t[i],aR hi⟩
theorem afC (a:Rat):decide (a.num.sign≠0) = !BC a:=by
 unfold BC
 by_cases h:a = 0
 · subst h;rfl
 · have:a.num≠0:=fun e=>h (gj.1 e)
   simp [h,eo,this]
theorem ab1 (l:List Rat):(!l.any fun a=>!BC a) = l.all BC:=by induction l with
 | nil=>rfl
 | cons a l ih=>simp only [List.any_cons,List.all_cons,← ih];cases BC a <;> simp
abbrev rX {n:Nat} (x:El n):F:=.grow 4 ((flat x).map af)
abbrev oL (l:List Rat):F:=.own 4 (l.map af)
theorem qL:∀ x∈l.map af,x.width = 4:=by
 intro x hx;obtain ⟨q,_,rfl⟩:=kg.1 hx;rfl
theorem ahV (ha:Rb a):AC aD true 163 [af a] (.dat (vB false)):=by
 exact aix 6 Tryz.func163 (k:=go 0 [[0,0],[4,1,2],[4]] (k:=q (a_call eN (NU (by assumption))) (go 1 [[2,2],[2]] (k:=dG))))
theorem O0 {n:Nat} (hl:um l) (hn:l.length = n) (hb:n≤1000000):AC aD true 116 [dL l,vI n] (.dat (vB true)):=by
 refine aix 14 Tryz.func116 (k:=go 0 [[0,0,1],[3,0,1,4],[4]] (k:=q (aI (hlen:=iL l)) (go 1 [[3]] (k:=fD (h:=aC) (k:=cZ 10 (h:=a_call eN (X3 (p:=fun _=>false) (eN (f:=163)) (fun a ha=>ahV (hl a ha)) (by omega))) (k:=cZ 11 (h:=iV) (k:=go 1 [[2,4],[2]] (k:=?_))))))));exact rt_eq dG (by rw [decide_eq_true (by omega)];simp)
theorem QT {t:List (List Rat)} (ht:Tok t):AC aD true 106 [kV t] (.dat (vB true)):=by
 refine aix 18 Tryz.func106 (k:=go 0 [[0,0],[3,0,2],[5]] (k:=q (aI (hlen:=gZ t)) (go 1 [[1,2,5,6,7],[2]] (k:=?_))));refine CT.weak (aZ (ι:=Nat) (fun i=>[(5,.dat (kV t)),(6,.dat (vI t.length)),(7,.dat (vI i))]) (fun i=>i≤t.length) (fun i=>t.length - i) ?_ (0) (bp _)) (sbk [5,6,7]);intro i hi;refine go 0 [[0,5,6,7],[3,5,6,7,8],[2]] (k:=?_);refine bu (fun hc8=>?_) (fun hc8=>?_)
 · refine go 0 [[6]] (k:=?_);have h8:=ht.1;obtain ⟨r,hr⟩:=adk rfl hc8;refine q aC (q (dZ rfl (jV hr)) (go 1 [[3,3,4,5,6,7],[5]] (k:=q (pI (n:=i) (z:=((2 ^ i:Nat):Int)) (hn0:=by omega) (hz:=yP) (h1:=mX) (h2:=dH (by omega))) (q (a_call eN (O0 (ht.2 i r hr).2 (ht.2 i r hr).1 (by have:=jK (i:=i) (by omega);omega))) (go 1 [[1,5,6,7,16],[6]] (k:=q (bH) (q aC (gU [5,6,7] (k:=?_)))))))));exact aY (i + 1) ⟨by omega,by omega⟩ (sbk [5,6,7])
 · exact go 0 [[8,2],[2]] (k:=dG)
theorem aai {t:List (List Rat)} (ht:Tok t) (hl:um l) (hn:l.length = 2 ^ t.length):AC aD true 62 [kV t,dL l] (.dat (vB true)):=by
 have h8:=ht.1;have hp:=jK (i:=t.length) (by omega);exact aix 14 Tryz.func62 (k:=go 0 [[0,0,1],[3,0,1,4],[4]] (k:=q (a_call eN (QT ht)) (q aC (fD (h:=aC) (k:=fD (h:=aC) (k:=cZ 9 (h:=aI (hlen:=gZ t)) (k:=cZ 10 (h:=pI (n:=t.length) (z:=((2 ^ t.length:Nat):Int)) (hn0:=by omega) (hz:=yP) (h1:=mX) (h2:=dH (by omega))) (k:=qN 8 11 (h:=a_call eN (O0 hl hn (by omega))) (k:=go 1 [[2,4],[2]] (k:=dG))))))))))
theorem abj {t:List (List Rat)} {r:List Rat} (ht:Tok t) (hl:um l) (hn:l.length = 2 ^ t.length) (hr:um r) (hm:r.length = 2 ^ t.length):AC aD true 69 [kV t,dL l,dL r] (.dat (vB true)):=by
 have h8:=ht.1;have hp:=jK (i:=t.length) (by omega);exact aix 17 Tryz.func69 (k:=go 0 [[0,0,1,2],[3,0,1,2,6],[5]] (k:=q (a_call eN (aai ht hl hn)) (q aC (fD (h:=aC) (k:=fD (h:=aC) (k:=cZ 12 (h:=aI (hlen:=gZ t)) (k:=cZ 13 (h:=pI (n:=t.length) (z:=((2 ^ t.length:Nat):Int)) (hn0:=by omega) (hz:=yP) (h1:=mX) (h2:=dH (by omega))) (k:=qN 11 14 (h:=a_call eN (O0 hr hm (by omega))) (k:=go 1 [[2,6],[2]] (k:=dG))))))))))
theorem ag4 (ha:Rb a):AC aD true 155 [af a] (.dat (vB (!BC a))):=by
 refine aix 6 Tryz.func155 (k:=go 0 [[0,0],[4,1,2],[4]] (k:=q (a_call eN (xu (by assumption))) (go 1 [[2,2],[2]] (k:=?_))));exact rt_eq dG (by rw [afC])
theorem Ej (hl:um l) (hn:l.length≤1000000):AC aD true 105 [dL l] (.dat (vB (l.all BC))):=by
 refine aix 6 Tryz.func105 (k:=go 0 [[0,0],[3,0,2],[4]] (k:=q (a_call eN (X3 (p:=fun a=>!BC a) (eN (f:=155)) (fun a ha=>ag4 (hl a ha)) hn)) ?_));refine go 1 [[2,2],[2]] (k:=?_);exact rt_eq dG (by rw [ab1])
theorem Gu {n:Nat} (hn:n≤1000000):AC aD true 108 [vI n] (oL (av n 0)):=by
 have hlen:((av n (0:Rat)).map af).length = n:=by simp
 generalize hL:(av n (0:Rat)).map af = L at hlen;refine aix 18 Tryz.func108 (k:=go 0 [[0,0],[3,0,2],[4]] (k:=q (BV (n:=n) aW rfl rfl (by omega)) ?_));rw [Az hlen];refine go 1 [[1,2,3],[4]] (k:=q (jf) (q (uk (n:=n) (hlen:=by simp only [lenOf];rw [jl (by omega),hlen])) (go 1 [[1,2,3,8,9],[2]] (k:=?_))));refine CT.weak (aZ (ι:=Nat) (fun i=>[(3,.own 4 (nC L i dR)),(8,.dat (vI n)),(9,.dat (vI i))]) (fun i=>i≤n) (fun i=>n - i) ?_ (0) (bp _)) (sbk [3,8,9]);intro i hi;refine go 0 [[0,3,8,9],[3,3,8,9,10],[2]] (k:=?_);refine bu (fun hc10=>?_) (fun hc10=>?_)
 · refine go 0 [[8,3,4,8,9],[2]] (k:=q (jf) (q aC (q (a_call eN (AO)) (q (OE (i:=i) (es:=nC L i dR) rfl (by rw [jl (by omega)];omega)) (q (yN (hi:=by rw [jl (by omega)];omega)) ?_)))));rw [sN (show L[i]? = _ by rw [← hL,List.map_replicate,eC];simp only [show i < n by omega,if_true])];refine go 1 [[0,3,8,9],[3]] (k:=q (bH) (q aC (gU [3,8,9] (k:=?_))));exact aY (i + 1) ⟨by omega,by omega⟩ (sbk [3,8,9])
 · obtain rfl:i = n:=by omega
   refine go 0 [[9]] (k:=?_);rw [su hlen,← hL];exact gU [2] (k:=aT (lT KZ))
theorem Zy {r:List Rat} (h1:l[i]? = some a) (h2:r[i]? = some b):((fR (· + ·) l r).map af)[i]? = some (af (a + b)):=by
 rw [bR,List.getElem?_zipWith,h1,h2];rfl
theorem WX (h1:l[i]? = some a):((l.map (- ·)).map af)[i]? = some (af (-a)):=by
 rw [bR,bR,h1];rfl
theorem aeI (hl:um l) (hn:l.length≤1000000):AC aD true 63 [dL l] (oL (l.map (- ·))):=by
 have hlen:((l.map (- ·)).map af).length = l.length:=by simp
 generalize hL:(l.map (- ·)).map af = L at hlen;refine aix 23 Tryz.func63 (k:=go 0 [[0,0],[3,0,2],[4]] (k:=q (aI (hlen:=iL l)) (q (BV (n:=l.length) aW rfl rfl (by omega)) ?_)));rw [Az hlen];refine go 1 [[1,0,2,3],[5]] (k:=q (aI (hlen:=iL l)) (go 1 [[1,2,3,9,10,11],[2]] (k:=?_)));refine CT.weak (aZ (ι:=Nat) (fun i=>[(3,.own 4 (nC L i dR)),(9,.dat (dL l)),(10,.dat (vI l.length)),(11,.dat (vI i))]) (fun i=>i≤l.length) (fun i=>l.length - i) ?_ (0) (bp _)) (sbk [3,9,10,11]);intro i hi;refine go 0 [[0,3,9,10,11],[3,3,9,10,11,12],[2]] (k:=?_);refine bu (fun hc12=>?_) (fun hc12=>?_)
 · refine go 0 [[6]] (k:=?_);obtain ⟨c,hc,hm⟩:=rP rfl hc12;refine q aC (q (dZ rfl (kM hc)) (go 1 [[4,3,4,5,9,10,11],[2]] (k:=q (jf) (q aC (q bM (q (a_call eN (QM (hl c hm))) (q (OE (i:=i) (es:=nC L i dR) rfl (by rw [jl (by omega)];omega)) (q (yN (hi:=by rw [jl (by omega)];omega)) ?_))))))));rw [sN (show L[i]? = _ by rw [← hL];exact WX hc)];refine go 1 [[0,3,9,10,11],[3]] (k:=q (bH) (q aC (gU [3,9,10,11] (k:=?_))));exact aY (i + 1) ⟨by omega,by omega⟩ (sbk [3,9,10,11])
 · obtain rfl:i = l.length:=by omega
   refine go 0 [[9]] (k:=?_);rw [su hlen,← hL];exact gU [2] (k:=aT (lT KZ))
theorem afZ {r:List Rat} (hl:um l) (hr:um r) (he:r.length = l.length) (hn:l.length≤1000000):AC aD true 78 [dL l,dL r] (oL (fR (· + ·) l r)):=by
 have hlen:((fR (· + ·) l r).map af).length = l.length:=by simp [he]
 generalize hL:(fR (· + ·) l r).map af = L at hlen;refine aix 29 Tryz.func78 (k:=go 0 [[0,0,1],[3,0,1,4],[4]] (k:=q (aI (hlen:=iL l)) (q (BV (n:=l.length) aW rfl rfl (by omega)) ?_)));rw [Az hlen];refine go 1 [[1,0,1,4,5],[4]] (k:=q (jf) (q (uk (n:=l.length) (hlen:=by simp only [lenOf];rw [jl (by omega),hlen])) (go 1 [[1,0,1,4,5,11,12],[2]] (k:=?_))));refine CT.weak (aZ (ι:=Nat) (fun i=>[(0,.dat (dL l)),(1,.dat (dL r)),(5,.own 4 (nC L i dR)),(11,.dat (vI l.length)),(12,.dat (vI i))]) (fun i=>i≤l.length) (fun i=>l.length - i) ?_ (0) (bp _)) (sbk [0,1,5,11,12]);intro i hi;refine go 0 [[0,0,1,5,11,12],[3,0,1,5,11,12,13],[2]] (k:=?_);refine bu (fun hc13=>?_) (fun hc13=>?_)
 · refine go 0 [[8,0,1,5,6,11,12],[1]] (k:=?_);obtain ⟨c,hc,hm⟩:=rP rfl hc13;obtain ⟨c2,hd,hm2⟩:=rP he hc13;refine dC 12 mixed (go 3 [[4]] (k:=mP rfl (kM hc) (ct:=go 3 [[3]] (k:=mP rfl (kM hd) (ct:=go 3 [[1]] (k:=ak eN (Jw (hl c hm) (hr c2 hm2)) (ct:=Ui (i:=i) (es:=nC L i dR) rfl (by rw [jl (by omega)];omega) (ct:=go 3 [[1]] (k:=q (yN (hi:=by rw [jl (by omega)];omega)) ?_)))))))));rw [sN (show L[i]? = _ by rw [← hL];exact Zy hc hd)];refine go 1 [[0,0,1,5,11,12],[3]] (k:=q (bH) (q aC (gU [0,1,5,11,12] (k:=?_))));exact aY (i + 1) ⟨by omega,by omega⟩ (sbk [0,1,5,11,12])
 · obtain rfl:i = l.length:=by omega
   refine go 0 [[9]] (k:=?_);rw [su hlen,← hL];exact gU [4] (k:=aT (lT KZ))
theorem PT.len:∀ {n:Nat} {t:Tw n} {σ:List Nat},PT t σ→σ.length = n
 | 0,_,_,h=>by have h:_ = []:=h;rw [h];rfl
 | n + 1,(t,r),[],h=>h.elim
 | n + 1,(t,r),s :: σ,h=>by rw [eB,PT.len h.2]
theorem Nh:∀ {n:Nat} {t:Tw n} {i:Nat} {r:List Rat},(aA t)[i]? = some r→r.length = 2 ^ i
 | 0,_,i,r,h=>by simp [aA] at h
 | n + 1,(t,q),i,r,h=>by
  simp only [aA] at h;rcases bB i n with h1 | h1
  · rw [List.getElem?_append_left (by rw [aj];exact h1)] at h;exact Nh h
  · rw [gx (by rw [aj];exact h1),aj] at h;rcases a6 (i - n) with h2 | h2
    · rw [h2] at h;injection h with h
      rw [← h,flat_length,show i = n by omega]
    · rw [List.getElem?_eq_none (by simp;omega)] at h;cases h
variable {σ:List Nat}
theorem PT.tok {n:Nat} {t:Tw n} (h:PT t σ) (hk:bD σ≤2199023255551) (hn:n≤8):Tok (aA t) :=
 ⟨by rw [aj];exact hn,fun i r hr=>⟨Nh hr,h.bound hk r (ib hr)⟩⟩
theorem OC {n:Nat} {x y:El n} (hx:ny x) (hy:ny y) (hn:n≤8):AC aD true 78 [bF x,bF y] (rX (aH x y)) :=
 (afZ hx hy (by rw [flat_length,flat_length]) (by rw [flat_length];have:=jK (i:=n) (by omega);omega)).og.eq (by rw [rX,zO])
theorem Rz {n:Nat} {x:El n} (hx:ny x) (hn:n≤8):AC aD true 63 [bF x] (rX (bI x)) :=
 (aeI hx (by rw [flat_length];have:=jK (i:=n) (by omega);omega)).og.eq (by rw [rX,wY])
theorem wK {n:Nat} {x:El n} (hx:ny x) (hn:n≤8):AC aD true 105 [bF x] (.dat (vB (iW x))) :=
 (Ej hx (by rw [flat_length];have:=jK (i:=n) (by omega);omega)).eq (by rw [x8])
theorem kF (n:Nat):((2 ^ (n + 1):Nat):Int) / 2 = ((2 ^ n:Nat):Int):=by
 rw [bw];omega
theorem aba {n:Nat} {x y:El n} (hn:n≤8):AC aD true 119 [bF (n:=n + 1) (x,y)] (.bT [bF x,bF y]):=by
 exact aix 14 Tryz.func119 (k:=go 0 [[0,0],[4,0,2,3],[2]] (k:=dC 12 mixed (go 3 [[2]] (k:=je (n:=2 ^ (n + 1)) (hlen:=dU (n:=n + 1) (x,y)) (ct:=o9 (z:=((2 ^ n:Nat):Int)) (hz:=kF n) (h2:=dH (by omega)) (hp:=ea _) (ct:=fQ (z:=((2 ^ n:Nat):Int)) ((flat x).map af) ((flat y).map af) (aK x y) (by simp [flat_length]) (ct:=go 3 [[2]] (k:=je (n:=2 ^ (n + 1)) (hlen:=dU (n:=n + 1) (x,y)) (ct:=o9 (z:=((2 ^ n:Nat):Int)) (hz:=kF n) (h2:=dH (by omega)) (hp:=ea _) (ct:=kz (z:=((2 ^ n:Nat):Int)) ((flat x).map af) ((flat y).map af) (aK x y) (by simp [flat_length]) (ct:=go 3 [[3,2,3],[2]] (k:=qJ))))))))))))
theorem aei {n:Nat} {t:Tw n} {r:El n} (hn:n≤8):AC aD true 118 [bV (n:=n + 1) (t,r)] (.bT [bV t,bF r]):=by
 exact aix 15 Tryz.func118 (k:=go 0 [[0,0],[4,0,2,3],[2]] (k:=dC 13 mixed (go 3 [[2]] (k:=je (n:=n + 1) (hlen:=aP (n:=n + 1) (t,r)) (ct:=lD (z:=(n:Int)) (hz:=by omega) (ct:=fQ (z:=(n:Int)) ((aA t).map dL) [bF r] (di t r) (by simp [aj]) (ct:=go 3 [[2]] (k:=je (n:=n + 1) (hlen:=aP (n:=n + 1) (t,r)) (ct:=lD (z:=(n:Int)) (hz:=by omega) (ct:=mP (z:=(n:Int)) (i:=n) (es:=(aA (n:=n + 1) (t,r)).map dL) (e:=bF r) rfl (by rw [di,gx (by simp [aj])];simp [aj]) (ct:=go 3 [[4,2,3],[2]] (k:=qJ))))))))))))
theorem DJ {n:Nat} {x y:El n} (hn:n≤8):(((flat x).map af).length + ((flat y).map af).length) * 64≤140737488355328:=by
 simp only [List.length_map,flat_length];have:=jK (i:=n) (by omega);omega
theorem ja {s:Nat} {σ:List Nat}:2 * bD σ + s + 2 = bD (s :: σ):=rfl
theorem mul_eq_zero {n:Nat} {t:Tw n} {r x y u v:El n} (h:(iW (n:=n + 1) (x,y) || iW (n:=n + 1) (u,v)) = true):F.grow 4 ((av (2 ^ (n + 1)) (0:Rat)).map af) = rX (au (n:=n + 1) (t,r) (x,y) (u,v)):=by
 have e:au (n:=n + 1) (t,r) (x,y) (u,v) = zeroE (n + 1):=by
  rcases Bool.or_eq_true_iff.1 h with h | h
  · rw [gq.1 h];exact (sV (n:=n + 1) (t,r) (u,v)).2
  · rw [gq.1 h];exact (sV (n:=n + 1) (t,r) (x,y)).1
 rw [e,rX,lL]
theorem aeA (ha:Rb a) (hb:Rb b):AC aD true 70 [bV (n:=0) (),bF (n:=0) a,bF (n:=0) b] (rX (n:=0) (gP a b)):=by
 refine aix 74 Tryz.func70 (k:=go 0 [[0,0,1,2],[3,0,1,2,6],[6]] (k:=q (aI (n:=0) (hlen:=aP (n:=0) ())) (go 1 [[2,0,1,2,6,14],[3]] (k:=dC 7 mixed (go 3 [[1]] (k:=uH (es:=[af a]) (e:=af a) (i:=0) rfl rfl (ct:=go 3 [[2]] (k:=uH (es:=[af b]) (e:=af b) (i:=0) rfl rfl (ct:=go 3 [[1]] (k:=ak eN (QG ha hb) (ct:=go 3 [[1]] (k:=q (DZ (xs:=[.tmp 24]) (n:=1) (es:=[af (a * b)]) aW rfl) (go 1 [[1,0,1,2,6],[4]] (k:=?_))))))))))))));exact PV rfl rfl rfl
theorem agd {n:Nat} {t:Tw n} {r x y u v:El n} {sr s':Nat} (hn:n≤7) (ht:PT t σ) (hr:sz r sr) (hx:sz (n:=n + 1) (x,y) s) (hy:sz (n:=n + 1) (u,v) s') (hk:s + s' + bD (sr :: σ)≤2199023255551) (IH:∀ (x y:El n) (s s':Nat),sz x s→sz y s'→s + s' + bD σ≤2199023255551→AC aD true 70 [bV t,bF x,bF y] (rX (au t x y))):AC aD true 70 [bV (n:=n + 1) (t,r),bF (n:=n + 1) (x,y),bF (n:=n + 1) (u,v)] (rX (au (n:=n + 1) (t,r) (x,y) (u,v))):=by
 have hk2:=@ja sr σ;have hxx:=hx.rb (by omega);have hyy:=hy.rb (by omega);have hp:=jK (i:=n + 1) (by omega);refine aix 74 Tryz.func70 (k:=go 0 [[0,0,1,2],[3,0,1,2,6],[6]] (k:=q (aI (n:=n + 1) (hlen:=aP (n:=n + 1) (t,r))) (go 1 [[2,0,1,2,6,14],[5]] (k:=q (a_call eN (wK (n:=n + 1) hxx (by omega))) (q aC (fD (h:=aC) (k:=cZ 30 (h:=a_call eN (wK (n:=n + 1) hyy (by omega))) (k:=go 1 [[2,0,1,2,6,26],[1]] (k:=?_)))))))));refine dA (fun hc26=>?_) (fun hc26=>?_)
 · refine bP (cO (q aC (q (aI (n:=2 ^ (n + 1)) (hlen:=dU (n:=n + 1) (x,y))) (q (a_call eN (Gu (n:=2 ^ (n + 1)) (by omega))) (go 1 [[1,0,1,2,6],[4]] (k:=?_))))));exact rt_eq (PV rfl rfl rfl) (mul_eq_zero hc26)
 · refine go 0 [[6]] (k:=q (a_call eN (aei (t:=t) (r:=r) (by omega))) (go 1 [[5,1,2,6,7,8],[4]] (k:=q (a_call eN (aba (x:=x) (y:=y) (by omega))) (go 1 [[5,2,6,7,8,9,10],[4]] (k:=q (a_call eN (aba (x:=u) (y:=v) (by omega))) (go 1 [[5,6,7,8,9,10,11,12],[2]] (k:=?_)))))));have hxu:=sz.mul ht hx.fst hy.fst;have hyv:=sz.mul ht hx.snd hy.snd;have hyvr:=sz.mul ht hyv hr;have hxv:=sz.mul ht hx.fst hy.snd;have hyu:=sz.mul ht hx.snd hy.fst;refine go 0 [[4]] (k:=q (a_call eN (IH x u s s' hx.fst hy.fst (by omega))) (go 1 [[4]] (k:=q (a_call eN (IH y v s s' hx.snd hy.snd (by omega))) (q aC (q (a_call eN (IH _ r (s + s' + bD σ) sr hyv hr (by omega))) (q (a_call eN (OC (hxu.rb (by omega)) (hyvr.rb (by omega)) (by omega))) (go 1 [[1,6,7,9,10,11,12,13],[7]] (k:=q (a_call eN (IH x v s s' hx.fst hy.snd (by omega))) (go 1 [[3]] (k:=q (a_call eN (IH y u s s' hx.snd hy.fst (by omega))) (q (a_call eN (OC (hxv.rb (by omega)) (hyu.rb (by omega)) (by omega))) (q (iI aW (hb:=DJ (by omega)) (hu2:=iK _)) (go 1 [[1,6],[2]] (k:=?_))))))))))))));exact rt_eq qj (by rw [rX,au,aK])
theorem zk:∀ {n:Nat} {t:Tw n} {x y:El n} {σ:List Nat} {s s':Nat},n≤8→PT t σ→sz x s→sz y s'→s + s' + bD σ≤2199023255551→AC aD true 70 [bV t,bF x,bF y] (rX (au t x y))
 | 0,_,a,b,σ,s,s',_,_,ha,hb,hk=>aeA (ha.rb (by omega) a (fj.2 rfl)) (hb.rb (by omega) b (fj.2 rfl))
 | n + 1,(t,r),(x,y),(u,v),[],s,s',hn,ht,hx,hy,hk=>ht.elim
 | n + 1,(t,r),(x,y),(u,v),sr :: σ,s,s',hn,ht,hx,hy,hk=>agd (by omega) ht.2 ht.1 hx hy hk fun x y s s' h1 h2 h3=>zk (by omega) ht.2 h1 h2 h3
theorem LK {n:Nat} {t:Tw n} {r x y:El n} {sr:Nat} (hn:n≤7) (ht:PT t σ) (hr:sz r sr) (hx:sz (n:=n + 1) (x,y) s) (hk:2 * s + bD (sr :: σ)≤2199023255551):AC aD true 206 [bV (n:=n + 1) (t,r),bF (n:=n + 1) (x,y)] (rX (fP t r x y)):=by
 have hk2:=@ja sr σ;have hxx:=sz.mul ht hx.fst hx.fst;have hyy:=sz.mul ht hx.snd hx.snd;have hyr:=sz.mul ht hyy hr;exact aix 32 Tryz.func206 (k:=go 0 [[0,0,1],[3,0,1,4],[4]] (k:=q (a_call eN (aei (t:=t) (r:=r) (by omega))) (go 1 [[5,1,4,5,6],[4]] (k:=q (a_call eN (aba (x:=x) (y:=y) (by omega))) (go 1 [[5,4,5,6,7,8],[6]] (k:=q (a_call eN (zk (by omega) ht hx.fst hx.fst (by omega))) (go 1 [[4]] (k:=q (a_call eN (zk (by omega) ht hx.snd hx.snd (by omega))) (q aC (q (a_call eN (zk (by omega) ht hyy hr (by omega))) (q (a_call eN (Rz (hyr.rb (by omega)) (by omega))) (q (a_call eN (OC (hxx.rb (by omega)) (hyr.neg.rb (by omega)) (by omega))) (go 1 [[1,4],[2]] (k:=qj))))))))))))))
theorem afs (ha:Rb a) (h0:a≠0):AC aD true 205 [bV (n:=0) (),bF (n:=0) a] (.bT [bF (n:=0) (Rat.div 1 a),vB true]):=by
 refine aix 59 Tryz.func205 (k:=go 0 [[0,0,1],[4,0,1,4,5],[5]] (k:=q (aI (n:=0) (hlen:=aP (n:=0) ())) (go 1 [[1,0,1,4,5,16],[3]] (k:=dC 11 mixed ?_))));refine ak eN (Xh) (ct:=go 3 [[1]] (k:=uH (es:=[af a]) (e:=af a) (i:=0) rfl rfl (ct:=go 3 [[1]] (k:=ak eN (Yz Rb.one ha h0) (ct:=go 3 [[7,0,1,4,5,6,7],[4]] (k:=q (jM (xs:=[.tmp 25]) (es:=[af (1 / a)]) aW) (go 1 [[4,0,1,4,5],[3]] (k:=?_))))))));exact rt_eq qJ rfl
theorem aeV {n:Nat} {t:Tw n} {r x y:El n} {sr:Nat} (hn:n≤7) (ht:PT t σ) (hr:sz r sr) (hx:sz (n:=n + 1) (x,y) s) (hz:nzE t (fP t r x y)) (hk:invS (sr :: σ) s + s + bD (sr :: σ)≤2199023255551) (IH:∀ (x:El n) (s:Nat),nzE t x→sz x s→invS σ s + s + bD σ≤2199023255551→AC aD true 205 [bV t,bF x] (.bT [bF (fZ t x),vB true])):AC aD true 205 [bV (n:=n + 1) (t,r),bF (n:=n + 1) (x,y)] (.bT [bF (fZ (n:=n + 1) (t,r) (x,y)),vB true]):=by
 have hk2:=@ja sr σ;have hk3:=@J7 σ (2 * s + bD (sr :: σ));have hk4:invS (sr :: σ) s = s + invS σ (2 * s + bD (sr :: σ)) + bD σ:=rfl;have hN:=sz.norm ht hr hx;have hI:=sz.inv ht hz hN;have hxi:=sz.mul ht hx.fst hI;have hyi:=sz.mul ht hx.snd hI;refine aix 59 Tryz.func205 (k:=go 0 [[0,0,1],[4,0,1,4,5],[5]] (k:=q (aI (n:=n + 1) (hlen:=aP (n:=n + 1) (t,r))) (go 1 [[1,0,1,4,5,16],[7]] (k:=q (a_call eN (aei (t:=t) (r:=r) (by omega))) (go 1 [[5,0,1,4,5,8],[6]] (k:=q (a_call eN (LK (by omega) ht hr hx (by omega))) (q (a_call eN (IH _ _ hz hN (by omega))) (go 1 [[5,1,4,5,8,10,11],[6,1,4,5,8,10,43],[7]] (k:=q (a_call eN (aba (x:=x) (y:=y) (by omega))) (go 1 [[5,4,5,8,10,12,13],[6]] (k:=q (a_call eN (zk (by omega) ht hx.fst hI (by omega))) (go 1 [[3]] (k:=q (a_call eN (zk (by omega) ht hx.snd hI (by omega))) (q (a_call eN (Rz (hyi.rb (by omega)) (by omega))) (q (iI aW (hb:=DJ (by omega)) (hu2:=iK _)) (go 1 [[2,4,5],[2]] (k:=?_)))))))))))))))));exact rt_eq qJ (by rw [← aK];rfl)
theorem XB:∀ {n:Nat} {t:Tw n} {x:El n} {σ:List Nat} {s:Nat},n≤8→PT t σ→nzE t x→sz x s→invS σ s + s + bD σ≤2199023255551→AC aD true 205 [bV t,bF x] (.bT [bF (fZ t x),vB true])
 | 0,_,a,σ,s,_,_,hz,ha,hk=>afs (ha.rb (by omega) a (fj.2 rfl)) hz
 | n + 1,(t,r),(x,y),[],s,hn,ht,hz,hx,hk=>ht.elim
 | n + 1,(t,r),(x,y),sr :: σ,s,hn,ht,hz,hx,hk=>aeV (by omega) ht.2 ht.1 hx hz hk fun x s h1 h2 h3=>XB (by omega) ht.2 h1 h2 h3
theorem ny.neg {n:Nat} {x:El n} (h:ny x):ny (bI x):=fun q hq=>by
 rw [wY] at hq;obtain ⟨p,hp,rfl⟩:=kg.1 hq;have:=h p hp;exact ⟨by rw [Rat.neg_num,d8];exact this.1,by rw [Rat.neg_den];exact this.2⟩
theorem JK {n:Nat} {x:El n} (hn:n≤8):(flat x).length≤1000000:=by rw [flat_length];have:=jK (i:=n) (by omega);omega
theorem zX {n:Nat} {t:Tw n} {x:El n} (hn:n≤8) (ht:PT t σ) (hk:bD σ≤2199023255551) (hx:ny x):AC aD true 62 [bV t,bF x] (.dat (vB true)) :=
 aai (ht.tok hk hn) hx (by rw [flat_length,aj])
theorem PW {n:Nat} {t:Tw n} {x y:El n} (hn:n≤8) (ht:PT t σ) (hk:bD σ≤2199023255551) (hx:ny x) (hy:ny y):AC aD true 69 [bV t,bF x,bF y] (.dat (vB true)) :=
 abj (ht.tok hk hn) hx (by rw [flat_length,aj]) hy (by rw [flat_length,aj])
theorem Ky {n:Nat} {t:Tw n} {x y:El n} (hn:n≤8) (ht:PT t σ) (hk:bD σ≤2199023255551) (hx:ny x) (hy:ny y):AC aD true 32 [bV t,bF x,bF y] (rX (aH x y)):=by
 exact aix 15 Tryz.func32 (k:=go 0 [[0,0,1,2],[3,0,1,2,6],[7]] (k:=q (a_call eN (PW hn ht hk hx hy)) (go 1 [[1,1,2,6,11],[8]] (k:=q (a_call eN (OC hx hy hn)) (go 1 [[1,6],[2]] (k:=qj))))))
theorem KJ {n:Nat} {t:Tw n} {x y:El n} (hn:n≤8) (ht:PT t σ) (hk:bD σ≤2199023255551) (hx:ny x) (hy:ny y):AC aD true 33 [bV t,bF x,bF y] (rX (kX x y)):=by
 exact aix 16 Tryz.func33 (k:=go 0 [[0,0,1,2],[3,0,1,2,6],[7]] (k:=q (a_call eN (PW hn ht hk hx hy)) (go 1 [[1,1,2,6,11],[8]] (k:=q (a_call eN (Rz hy hn)) (q (a_call eN (OC hx hy.neg hn)) (go 1 [[1,6],[2]] (k:=qj)))))))
theorem Ze {n:Nat} {t:Tw n} {x:El n} (hn:n≤8) (ht:PT t σ) (hk:bD σ≤2199023255551) (hx:ny x):AC aD true 21 [bV t,bF x] (rX (bI x)):=by
 exact aix 11 Tryz.func21 (k:=go 0 [[0,0,1],[3,0,1,4],[6]] (k:=q (a_call eN (zX hn ht hk hx)) (go 1 [[1,1,4,8],[7]] (k:=q (a_call eN (Rz hx hn)) (go 1 [[1,4],[2]] (k:=qj))))))
theorem rJ {n:Nat} {t:Tw n} {x y:El n} {s':Nat} (hn:n≤8) (ht:PT t σ) (hk:bD σ≤2199023255551) (hx:sz x s) (hy:sz y s') (hb:s + s' + bD σ≤2199023255551):AC aD true 24 [bV t,bF x,bF y] (rX (au t x y)):=by
 exact aix 16 Tryz.func24 (k:=go 0 [[0,0,1,2],[3,0,1,2,6],[7]] (k:=q (a_call eN (PW hn ht hk (hx.rb (by omega)) (hy.rb (by omega)))) (go 1 [[1,0,1,2,6,11],[9]] (k:=q (a_call eN (zk hn ht hx hy hb)) (go 1 [[1,6],[2]] (k:=qj))))))
theorem SE {n:Nat} {t:Tw n} {r x y:El n} {sr:Nat} (hn:n≤7) (ht:PT t σ) (hr:sz r sr) (hx:sz (n:=n + 1) (x,y) s) (hk:2 * s + bD (sr :: σ)≤2199023255551):AC aD true 167 [bV (n:=n + 1) (t,r),bF (n:=n + 1) (x,y)] (rX (fP t r x y)):=by
 exact aix 17 Tryz.func167 (k:=go 0 [[0,0,1],[3,0,1,4],[6]] (k:=q (a_call eN (zX (n:=n + 1) (t:=(t,r)) (σ:=sr :: σ) (by omega) ⟨hr,ht⟩ (by omega) (hx.rb (by omega)))) (q iV (q aC (fD (h:=aC) (k:=cZ 10 (h:=aI (n:=n + 1) (hlen:=aP (n:=n + 1) (t,r))) (k:=cZ 11 (h:=eu) (k:=go 1 [[1,0,1,4,13],[1]] (k:=O3 (h:=(by rw [decide_eq_false (by omega)];decide)) (k:=go 0 [[6]] (k:=q (a_call eN (LK hn ht hr hx hk)) (go 1 [[1,4],[2]] (k:=qj)))))))))))))
theorem Yv {n:Nat} {t:Tw n} {x:El n} (hn:n≤8) (ht:PT t σ) (hz:nzE t x) (hx:sz x s) (hk:invS σ s + s + bD σ≤2199023255551):AC aD true 166 [bV t,bF x] (.bT [bF (fZ t x),vI 0]):=by
 exact aix 21 Tryz.func166 (k:=go 0 [[0,0,1],[4,0,1,4,5],[6]] (k:=q (a_call eN (zX hn ht (by omega) (hx.rb (by omega)))) (go 1 [[1,0,1,4,5,11],[8]] (k:=q (a_call eN (XB hn ht hz hx hk)) (go 1 [[5,4,5,6,7],[6,4,5,6,19],[9,4,5],[2]] (k:=qJ))))))
theorem aae {t:List (List Rat)} (ht:Tok t) (ha:Rb a):AC aD true 56 [kV t,af a] (oL ((av (2 ^ t.length) 0).set 0 a)):=by
 have h8:=ht.1;have hp:=jK (i:=t.length) (by omega);refine aix 22 Tryz.func56 (k:=go 0 [[0,0,1],[4,0,3,4],[5]] (k:=q (a_call eN (QT ht)) (q iV (q aC (fD (h:=bM) (k:=cZ 10 (h:=a_call eN (NU ha)) (k:=cZ 11 (h:=iV) (k:=go 1 [[1,0,3,4,13],[7]] (k:=q (aI (hlen:=gZ t)) (q (pI (n:=t.length) (z:=((2 ^ t.length:Nat):Int)) (hn0:=by omega) (hz:=yP) (h1:=mX) (h2:=dH (by omega))) (q (a_call eN (Gu (n:=2 ^ t.length) (by omega))) (go 1 [[1,3,4,5],[3]] (k:=q (jf) (q bM (q (afF (i:=0) (es:=(av (2 ^ t.length) 0).map af) rfl (by simp;exact bX (by omega))) (q (yN (hi:=by simp;exact bX (by omega))) ?_))))))))))))))));rw [← kh];exact go 1 [[0,4,5],[5,4],[2]] (k:=KZ)
theorem aa7 {t:List (List Rat)} (ht:Tok t) (hi:i < t.length):AC aD true 68 [kV t,vI i] (oL ((av (2 ^ t.length) 0).set (2 ^ i) 1)):=by
 have h8:=ht.1;have hp:=jK (i:=t.length) (by omega);have hpi:2 ^ i < 2 ^ t.length:=dc (by omega) hi;refine aix 29 Tryz.func68 (k:=go 0 [[0,0,1],[3,0,1,4],[5]] (k:=q (a_call eN (QT ht)) (q iV (q aC (fD (h:=aC) (k:=cZ 10 (h:=CW) (k:=q Di (q aC (fD (h:=aC) (k:=fD (h:=aC) (k:=cZ 15 (h:=aI (hlen:=gZ t)) (k:=qN 14 16 (h:=adr) (k:=go 1 [[1,0,1,4,18],[1]] (k:=O3 (h:=(by rw [decide_eq_false (by omega),decide_eq_false (by omega)];decide)) (k:=go 0 [[5]] (k:=q (aI (hlen:=gZ t)) (q (pI (n:=t.length) (z:=((2 ^ t.length:Nat):Int)) (hn0:=by omega) (hz:=yP) (h1:=mX) (h2:=dH (by omega))) (q (a_call eN (Gu (n:=2 ^ t.length) (by omega))) (go 1 [[1,1,4,5],[2]] (k:=dC 5 mixed (go 3 [[2]] (k:=QC (n:=i) (z:=((2 ^ i:Nat):Int)) (hn0:=by omega) (hz:=yP) (h1:=mX) (h2:=dH (by omega)) (ct:=ak eN (Xh) (ct:=Ui (i:=2 ^ i) (es:=(av (2 ^ t.length) 0).map af) rfl (by simpa using hpi) (ct:=go 3 [[1]] (k:=q (yN (hi:=by simpa using hpi)) ?_))))))))))))))))))))))))));rw [← kh];exact go 1 [[0,4,5],[5,4],[2]] (k:=KZ)
theorem Jj (n:Nat) (a:Rat):(av (2 ^ n) 0).set 0 a = flat (dD n a):=by
 have:0 < 2 ^ n:=bX (by omega);rw [kY,show 2 ^ n = (2 ^ n - 1) + 1 by omega,List.replicate_succ,cP];simp
theorem ND {n:Nat} {t:Tw n} (hn:n≤8) (ht:PT t σ) (hk:bD σ≤2199023255551) (ha:Rb a):AC aD true 56 [bV t,af a] (rX (dD n a)) :=
 (aae (ht.tok hk hn) ha).og.eq (by rw [rX,aj,Jj])
theorem ET (n:Nat):(av (2 ^ (n + 1)) 0).set (2 ^ n) 1 = flat (gu n):=by
 have h2:2 ^ (n + 1) = 2 ^ n + 2 ^ n:=by rw [bw];omega
 rw [gu,flat,lL,← Jj,h2,← List.replicate_append_replicate,List.set_append_right _ _ (by simp),List.length_replicate,Nat.sub_self]
theorem abx {n:Nat} {t:Tw n} {r:El n} {sr:Nat} (hn:n≤7) (ht:PT t σ) (hr:sz r sr) (hk:bD (sr :: σ)≤2199023255551):AC aD true 68 [bV (n:=n + 1) (t,r),vI n] (rX (gu n)) :=
 (aa7 (t:=aA (n:=n + 1) (t,r)) (i:=n) (PT.tok (n:=n + 1) (t:=(t,r)) (σ:=sr :: σ) ⟨hr,ht⟩ hk (by omega)) (by have:=aj (n:=n + 1) (t,r);omega)).og.eq (by have:=aj (n:=n + 1) (t,r);rw [rX,this,ET])
end Go.Proofs.YtjdakpfhjlhcbaaGreat
