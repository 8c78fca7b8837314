/-
  Part 4 of the tools and contracts from which the statement is proved.
-/
import Derived.Test.YtijmjfcnjfnpgaaGreatDoorPartr3
set_option linter.all false
open Go.IntKind
open Nat renaming le_refl→Ja,mul_le_mul_right→Jj,lt_or_ge→Jo,add_mul→Js,le_trans→Jt,mul_one→J7,mul_comm→J8,mod_eq_of_lt→Uj,mod_lt→U2,reduceSub→U4,pow_succ→U6,reducePow→U7,reduceMul→U8,reduceDiv→U9,zero_le→Ga,lt_of_le_of_lt→Gb,zero_add→Gi,div_lt_iff_lt_mul→Gj,min_eq_left→Gk,eq_of_mul_eq_mul_right→Gn,two_pow_pos→Gs,lt_of_lt_of_le→Tb,eq_zero_or_pos→Tc,pow_le_pow_right→Th,add_sub_cancel_left→To,pos_of_ne_zero→Tt,gcd→Tu,div_eq_of_lt→Tz,pow_add→T1,div_le_self→T8,zero_mul→Pn,one_mul→Pr,le_div_iff_mul_le→Pw,le_of_lt→Li,gcd_dvd_right→Lk
open List renaming getElem?_eq_getElem→Jc,take_of_length_le→Jd,length_append→Je,getElem_mem→Jh,take_append_getElem→Jk,length_take→Jl,eq_nil_of_length_eq_zero→Jn,take_length→Jw,take_append_of_le_length→Jx,all_eq_true→Jz,getElem?_eq_none→J5,mem_singleton→J6,getElem_cons_zero→Ua,mem_append→Ub,length_eq_zero_iff→Ud,append_assoc→Uq,flatMap_cons→Ur,drop_eq_nil_of_le→Uu,getElem?_map→Uw,take_succ_eq_append_getElem→U5,length_drop→Gg,mem_iff_getElem→Gh,length_singleton→Gr,getElem_append_right→Te,nil_append→Tf,getElem_append_left→Tk,drop_zero→Tw,drop_drop→T7,take_append→Ph
open Option.some renaming injEq→Jm,inj→J9
open Classical renaming byContradiction→Jy
open Bool renaming false_eq_true→J0,not_eq_true'→Gc,true_and→Td,false_and→Tp,not_eq_true→Tr,and_true→Pl
open Option renaming map_some→U0
open Go.Value renaming int→Ge
open Int renaming sign_eq_neg_one_of_neg→Gm,natAbs_natCast→Gz,sign_eq_one_of_pos→G7,mul_ediv_cancel_left→T0,natAbs_mul→Po,natAbs_ediv_le_natAbs→Ps,mul_ne_zero→Lc,mul_comm→Lj,mul_assoc→Ln
open Den.Value renaming leaf→Gq
open ByteArray renaming size_append→Gx
open Go.IntKind renaming signed→G0,bits→G6,wrap→Pe
open Rat renaming divInt→Py,num_divInt_den→La
section
set_option maxHeartbeats 4000000
namespace Iv
theorem Zai{L:List Nat}{j i v:Nat}:(L.set (j+i) v).drop j=(L.drop j).set i v:=by
 rw[List.drop_set,if_neg (by omega)];congr 1;omega
theorem Zc5{L L2:List Nat}{X V j:Nat}(hV:0<V)(hX:vl (L.drop j)=X)(hl:L2.length=L.length)(hj:j<=L.length)(ht:L2.take j=L.take j)(h:vl (L2.drop j)=X-X/V*V) :
 vl L2+W ^ j*(X/V*V)=vl L/\vl (L2.drop j)<V:=by
 have hmd:=Nat.div_mul_le_self X V;have h5:=Nat.mod_add_div' X V;have h6:=U2 X hV;refine⟨?_,by omega⟩;have k0:=qb hj;have k2:=qb (l:=L2) (k:=j) (by omega);rw[hX]at k0;rw[ht]at k2;rw[k2,k0,h];have:W ^ j*(X-X/V*V)+W ^ j*(X/V*V)=W ^ j*X:=by
  rw[<-Nat.mul_add];congr 1;omega
 omega
end Iv
namespace Den
open Go Iv
section
variable {h : Hp} {x y : Sl} {l m : List Nat} {Ks : Sl → Hp → Prop} {Ki : Int → Hp → Prop} {Kp : (Sl × Sl) → Hp → Prop} {Kq : (Int × Sl) → Hp → Prop}
theorem zmn{n X V v1 v2 un un1 un2:Nat}(hx:RdW h x l)(ol:okW l)(hll:l.length=n+3)(hlX:vl l=X)(hy:RdW h y (dg V))(hVn:(dg V).length=n+2)(hn:n<=35184372088000)
 (eun:l.getD (n+2) 0=un) (eun1:l.getD (n+1) 0=un1) (ev1:(dg V).getD (n+1) 0=v1) (hV0:0<V) (hv1p:0<v1) (hVle:(v1*W+v2)*W ^ n<=V) (hXlt:X<((un*W+un1)*W+un2+1)*W ^ n) (hu2:un2<W) (hqW:X/V<W)
 (H:∀z h',h.le h'->RdW h' z (dg (X/V*V))->z4d h z->Kq (((X/V:Nat):Int),z) h'):zc (F.z8r x y) Kq h:=by
 refine zd (λv h'=>v.1=((X/V:Nat):Int)/\RdW h' v.2 (dg (X/V*V))/\z4d h v.2) (λK' hk=>?_) λ⟨v,z⟩ h' hl ⟨h1,h2,h3⟩=>by
  simp only at h1;subst h1;exact H z h' hl h2 h3
 unfold F.z8r;have lx:=hx.len;have ly:=hy.len;have hun:un<W:=by rw[<-eun];exact Va ol _
 have hun1:un1<W:=by rw[<-eun1];exact Va ol _
 have hv1:v1<W:=by rw[<-ev1];exact Va (Z5 V) _
 refine Vz (n+2) hx (by rw[ly,hVn]) (by omega) λa1 ha1=>⟨_,ha1,by decide,?_⟩
 refine Vz (n+1) hx (by rw[ly,hVn,w64 (by omega)];omega) (by omega) λa2 ha2=>⟨_,ha2,?_⟩
 refine Vz (n+1) hy (by rw[ly,hVn,w64 (by omega)];omega) (by omega) λa3 ha3=>⟨_,ha3,?_⟩
 rw[eun,eun1,ev1];have hnum:un*W+un1<18446744073709551616:=by unfold W at *;omega
 simp only;rw[zbo hun,zsp hun hun1,zbo hv1,zo3,z3i (n:=(un*W+un1)/v1) (Gb (T8 _ _) hnum)];refine⟨by omega,?_⟩;have hfe:=znc (Nat.pow_pos Wz) hv1p hVle hXlt hu2;refine zh (λst h'=>h'=h/\∃e:Nat,st=((e:Int),())/\e<W/\X/V<=e) ?_ ?_
 . rintro _ h' ⟨rfl,e,rfl,heW,hqe⟩;simp only;rw[zim heW];refine z3s (n:=1) (size:=1) rfl λb h2 hb ho=>?_
   have ho':Yl h' h2 ⟨some ⟨b,0,none⟩,1,1⟩ [e]:=ho;refine zg8 (hy.le ho.1) ho'.rdW (Z5 V) (λd hd=>by rw[J6.1 hd];exact heW) (by simp;omega) λz h3 hl3 hz hf=>?_
   rw[Zt]at hz;have ez:V*vl [e]=e*V:=by simp[vl,J8]
   rw[ez]at hz;refine Zp (λst h4=>∃(e:Nat) (z:Sl),st=((e:Int),z,())/\e<W/\X/V<=e/\h'.le h4/\RdW h4 z (dg (e*V))/\z4d h' z) (λst=>st.1.toNat) ⟨e,z,rfl,heW,hqe,Hp.le_trans ho.1 hl3,hz,hf.le ho.1⟩ ?_;rintro _ h4 ⟨e,z,rfl,heW,hqe,hl4,hz,hf⟩;refine Ws (hx.le hl4) (by omega) λw hw=>?_
   rw[Qn ol,hlX]at hw;have hXl:(dg X).length<=n+3:=Y6.2 (by rw[<-hlX,<-hll];exact zbe ol);have heVl:(dg (e*V)).length<=n+3:=by
    refine Y6.2 ?_;have h5:V<W ^ (n+2):=by rw[<-hVn];exact Y6.1 (Ja _)
    rw[U6,J8];exact Nat.mul_lt_mul'' h5 heW
   refine z5h hw hz (by omega) (by omega) ?_;unfold za5;by_cases hc:X<e*V
   . rw[if_pos hc];refine Z4 rfl ?_;have hlt:X/V<e:=(Gj hV0).2 hc;have hep:0<e:=Gb (Ga _) hlt;have hVe:V<=e*V:=Nat.le_mul_of_pos_left _ hep;refine zaw hz (hy.le hl4) (Z5 _) (Z5 V) (by omega) (W9 hVe) (by rw[Zt,Zt];exact hVe) λz2 h5 hl5 hz2 hf2=>?_
     rw[Zt,Zt]at hz2;have e6:e*V-V=(e-1)*V:=by rw[Nat.sub_mul,Pr]
     rw[e6]at hz2;have e7:u64.wrap ((e:Int)-1)=((e-1:Nat):Int):=by
      rw[show(e:Int)-1=((e-1:Nat):Int)by omega,zbo (by omega)]
     simp only;rw[e7];exact⟨⟨e-1,z2,rfl,by omega,Nat.le_sub_one_of_lt hlt,Hp.le_trans hl4 hl5,hz2,hf2.le hl4⟩,by omega⟩
   . rw[if_neg hc];refine zr (by split<;>rfl) ?_;have h5:e*V<=X:=Nat.le_of_not_lt hc;have h6:=(Pw hV0).2 h5;have h7:e=X/V:=Nat.le_antisymm h6 hqe;simp only;rw[h7]at hz |-
     exact hk _ _ hl4 ⟨zim hqW,hz,hf⟩
 . refine ze (λh1=>?_) (λh1=>?_)
   . exact⟨rfl,4294967295,rfl,by decide,by unfold W at hqW;exact Nat.le_of_lt_succ hqW⟩
   . have h2:(un*W+un1)/v1<=4294967295:=by
      clear H hfe hXlt hVle hqW;generalize (un*W+un1)/v1=z at *;omega
     exact⟨rfl,_,rfl,Gb h2 (by decide),hfe⟩
theorem zpn{n N:Nat}(hx:RdW h x (dg n))(hN:(dg n).length=N+1)(hl:(dg n).length<=35184372088800)(H:Ki ((32*N+bl ((dg n)[N]'(by omega)):Nat):Int) h):zc (F.z3x x) Ki h:=by
 refine zsd hx hl ?_;rw[dif_neg (by omega)];have e1:(dg n)[(dg n).length-1]'(by omega)=(dg n)[N]'(by omega):=by congr 1;omega
 rw[e1];have e2:(dg n).length-1=N:=by omega
 generalize hq:bl ((dg n)[N]'(by omega))=q at *;rw[e2];exact H
theorem zx2{A B:Nat}(hx:RdW h x (dg A))(hy:RdW h y (dg B))(hB:B≠0)(hl:(dg A).length<=35184372088000)(hl2:(dg B).length<=35184372088000)
 (H:∀q r h',h.le h'->RdW h' q (dg (A/B))->RdW h' r (dg (A % B))->Kp (q,r) h'):F.z1r x y Kp h:=by
 unfold F.z1r;have lx:=hx.len;have ly:=hy.len;refine z5h hx hy (by omega) (by omega) ?_;unfold za5;by_cases hAB:A<B
 . rw[if_pos hAB];refine Z4 rfl ?_;refine H _ _ _ (Hp.le_refl _) ?_ ?_
   . rw[Tz hAB,qz];exact RdW.nil
   . rw[Uj hAB];exact hx
 rw[if_neg hAB];refine zr (by split<;>rfl) ?_;have hBl:=W9 (Nat.le_of_not_lt hAB);have hB0:(dg B).length≠0:=λh0=>hB (z0v.1 (Ud.1 h0))
 refine ze (λh1=>?_) (λh1=>?_)
 . refine zlv hx (Z5 A) (by omega) (zlv hy (Z5 B) (by omega) ?_);rw[Zt,Zt];have hA64:A<18446744073709551616:=by
    have:=(Y6 (n:=A) (k:=2)).1 (by omega);have e:W ^ 2=18446744073709551616:=by decide
    omega
   have hq:A/B<=A:=T8 A B;have hr:A % B<=A:=Nat.mod_le A B;refine⟨by omega,by omega,?_⟩;rw[zo3,zo4,z3i (by omega)];refine z8c rfl (by omega) λz h4 hl4 hz=>z8c rfl (by omega) λw h5 hl5 hw=>?_
   exact H _ _ _ (Hp.le_trans hl4 hl5) (hz.le hl5) hw
 refine zu (λh2=>?_) (λh2=>?_)
 . have hB1:=zj2 (B:=B) (by omega);have hBW:B<W:=Z5 B B (by rw[hB1];exact J6.2 rfl);refine Vz 0 hy rfl (by omega) λa ha=>⟨_,ha,?_⟩
   have e0:(dg B).getD 0 0=B:=by rw[hB1];rfl
   rw[e0];refine zyn hx (Z5 A) (Tt hB) hBW (by omega) λz h3 hl3 hz=>?_
   rw[Zt]at hz |-
   have:=U2 A (Tt hB);simp only;rw[zbo (Nat.lt_trans this hBW)];refine z8c rfl (by unfold W at hBW;omega) λw h5 hl5 hw=>H _ _ _ (Hp.le_trans hl3 hl5) (hz.le hl5) hw
 obtain⟨n,hn⟩:∃n,(dg B).length=n+2:=⟨(dg B).length-2,by omega⟩;obtain⟨N,hN⟩:∃N,(dg A).length=N:=⟨_,rfl⟩;obtain⟨s,hs,hbl,hs31,hVl,hVu⟩:=zso (B:=B) (n:=n+1) hn;refine zpn hy hn (by omega) ?_;have es:i64.wrap (i64.wrap (32*(y.len:Int))-((32*(n+1)+bl (dg B)[n+1]:Nat):Int))=(s:Int):=by
  rw[hs];generalize bl (dg B)[n+1]=z at *;rw[ly,hn,w64 (n:=32*((n+2:Nat):Int)) (by omega),w64 (by omega)];omega
 rw[es];refine zny hx (Z5 A) hs31 (by omega) λu h9 U ho9 okU hUl hUv=>?_
 rw[Zt]at hUv;refine zny (hy.le ho9.1) (Z5 B) hs31 (by omega) λv0 h10 V0 ho10 okV0 hV0l hV0v=>?_
 rw[Zt]at hV0v;refine zcw ho10.rdW (by omega) λv hv hsub=>?_
 rw[Qn okV0,hV0v]at hv;generalize hV:B*2 ^ s=V at *;have hVpos:0<V:=Tb (Nat.mul_pos (Nat.pow_pos Wz) (by decide)) hVl;have hVn:(dg V).length=n+2:=zsn hVl hVu;have lu:=ho9.len;have lv:=hv.len;have hN2:n+2<=N:=by omega
 refine z1o N N (by omega) (by omega) (by omega) (by omega) λq h12 hq ho12=>?_
 obtain⟨a13,ha13,hb13,hc13⟩:=Own.some ho9 (by omega);obtain⟨a16,ha16,hb16,hc16⟩:=Own.some ho12 (by simp;omega);have hlh:h.le h10:=Hp.le_trans ho9.1 ho10.1;have hb16h:h a16.block=none:=Hp.none_of_le hlh hb16;have ne16:a13.block≠a16.block:=λhh=>by
  have h3:=Hp.none_of_le ho10.1 hb16;rw[<-hh]at h3;exact hc13 h3
 have hvne:∀a,v.a=some a->a.block≠a13.block/\a.block≠a16.block:=λa ha=>by
  obtain⟨a',h3,h4⟩:=hsub a ha;rw[h4];constructor
  . exact zf8 ho9 ho10 a13 a' ha13 h3 |>.symm
  . exact zf8 ho10 ho12 a' a16 h3 ha16
 have hne13:∀a,v.a=some a->a.block≠a13.block:=λa ha=>(hvne a ha).1
 have hne16:∀a,v.a=some a->a.block≠a16.block:=λa ha=>(hvne a ha).2
 have hu16:∀a,u.a=some a->a.block≠a16.block:=λa ha=>by rw[ha13]at ha;cases ha;exact ne16
 have hq13:∀a,q.a=some a->a.block≠a13.block:=λa ha=>by rw[ha16]at ha;cases ha;exact ne16.symm
 have hou:Yl h h12 u U:=(ho9.le ho10.1).le ho12.1;have hoq:Yl h h12 q (List.replicate N 0):=ho12.base hlh;have hv12:RdW h12 v (dg V):=hv.le ho12.1;obtain⟨P,lo2,hP,hlo2,hVtop,_⟩:=Zp7 (Z5 V) (n:=n) hVn;rw[Zt]at hVtop;have hv1:(dg V).getD (n+1) 0<W:=Va (Z5 V) _;have hv2:(dg V).getD n 0<W:=Va (Z5 V) _;generalize hgv1:(dg V).getD (n+1) 0=v1 at *;generalize hgv2:(dg V).getD n 0=v2 at *;subst hP;have hv1b:W<=2*v1:=ztr hVl hVtop hlo2 hv2;have hAl:A<W ^ N:=Y6.1 (by omega);have hfirst:vl (U.drop (N-(n+1)))<V:=zs1 (n:=n+1) (by omega) hUv hAl hs31 (by omega) hVl;refine Zp (λst h'=>∃(k:Nat) (L r:List Nat),st=((k:Int)-1,())/\k<=N-n-1/\Yl h h' u L/\okW L/\L.length=N+1/\Yl h h' q r/\okW r/\r.length=N/\RdW h' v (dg V)/\h' a13.block≠none/\h' a16.block≠none /\
  vl (L.drop k)<V/\A*2 ^ s=V*(W ^ k*vl (r.drop k))+vl L) (λst=>(st.1+1).toNat)
  ⟨N-n-1,U,_,by rw[lv,hVn,lx,hN,w64 (by omega)];congr 1;omega,Ja _,hou,okU,by omega,hoq,z7w _,by simp,hv12,?_,hc16,by rw[show N-n-1=N-(n+1)by omega];exact hfirst,by rw[List.drop_replicate,zyg,hUv];simp⟩ ?_
 . have:h9.le h12:=Hp.le_trans ho10.1 ho12.1;intro hh;exact hc13 (Hp.none_of_le this hh)
 rintro st h3 ⟨k,L,r,rfl,hk,hoL,okL,hLl,hor,okr,hrl,hv3,hn13,hn16,hlt,hval⟩;have llu:=hoL.len;have hucap:=hoL.2.2.1;refine ze (λh4=>?_) (λh4=>?_)
 . obtain⟨j,rfl⟩:∃j,k=j+1:=⟨k-1,by have:(k:Int)-1>=0:=h4;omega⟩;have hji:((j+1:Nat):Int)-1=(j:Int):=by omega
   have wj:i64.wrap ((j:Int)+(v.len:Int))=((j+(n+2):Nat):Int):=by rw[lv,hVn,w64 (by omega)];omega
   have wj3:i64.wrap (((j+(n+2):Nat):Int)+1)=((j+(n+3):Nat):Int):=by rw[w64 (by omega)];omega
   simp only[hji,wj,wj3];have hlt2:vl (L.drop (j+1))<W ^ (n+2):=Nat.lt_trans hlt hVu;have hz0:vl (L.drop (j+(n+3)))=0:=by
    have:=zb5 okL hlt2;rw[show j+1+(n+2)=j+(n+3)by omega]at this;exact this
   obtain⟨lo,hlo,hX⟩:=Z03 (n:=n) okL (j:=j) (by omega) hz0;have hun2:L.getD (j+n) 0<W:=Va okL _;have hXV:vl (L.drop j)<V*W:=ztw okL (by omega) hlt;have hwX:vl ((L.drop j).take (n+3))=vl (L.drop j):=by
    have e1:=qb (l:=L.drop j) (k:=n+3) (by rw[Gg];omega);rw[T7,hz0]at e1;omega
   have hg:∀i,i<n+3->((L.drop j).take (n+3)).getD i 0=L.getD (j+i) 0:=λi hi=>by
    simp only[List.getD_eq_getElem?_getD,List.getElem?_take,hi,if_true,List.getElem?_drop]
   have hcut:=hoL.rdW.cut j (j+(n+3)) (by omega) (by omega);rw[show j+(n+3)-j=n+3 by omega]at hcut;refine zqe j (j+(n+3)) rfl rfl (by omega) (by omega) ?_;generalize hX0:vl (L.drop j)=X at *;have hv1p:0<v1:=by unfold W at hv1b;omega
   have hVle:(v1*W+v2)*W ^ n<=V:=by rw[hVtop];omega
   have hXlt:X<((L.getD (j+(n+2)) 0*W+L.getD (j+(n+1)) 0)*W+L.getD (j+n) 0+1)*W ^ n:=by rw[Js _ 1];omega
   have hqW:X/V<W:=(Gj hVpos).2 (by rw[J8];exact hXV);have hwl:((L.drop j).take (n+3)).length=n+3:=by rw[Jl,Gg];omega
   refine zmn (X:=X) hcut (z5e (zaj okL _) _) hwl hwX hv3 hVn (by omega) (hg _ (by omega)) (hg _ (by omega)) hgv1 hVpos hv1p hVle hXlt hun2 hqW λz h5 hl5 hz hfz=>?_
   have hoL5:Yl h h5 u L:=hoL.le hl5;have hor5:Yl h h5 q r:=hor.le hl5;have hz16:=hfz.ne hn16;refine z67 j (X/V) ha16 hor5 rfl (by omega) rfl λh6 hl6 hor6=>?_
   have hoL6:Yl h h6 u L:=hoL5.leX hl6 hb16h hu16;have hcut6:=hoL6.rdW.cut j (j+(n+3)) (by omega) (by omega);rw[show j+(n+3)-j=n+3 by omega]at hcut6;have hz6:=hz.leX hl6 hz16;have hn13':h6 a13.block≠none:=by
    cases hh:h5 a13.block with
    | none=>exact absurd (Hp.none_of_le hl5 hh) hn13
    | some B2=>rw[hl6 _ _ ne16 hh];exact λe=>by cases e
   refine Ws hcut6 (by rw[hwl];omega) λw hw=>?_
   rw[Qn (z5e (zaj okL _) _),hwX]at hw;have hXl:(dg X).length<=n+3:=Y6.2 (by have:=zbe (z5e (zaj okL j) (n+3));rw[hwX,hwl]at this;exact this);have hmd:=Nat.div_mul_le_self X V;refine zaw hw hz6 (Z5 X) (Z5 _) (by omega) (W9 hmd) (by rw[Zt,Zt];exact hmd) λr21 h7 hl7 hr21 hf21=>?_
   rw[Zt,Zt]at hr21;have hoL7:Yl h h7 u L:=hoL6.le hl7;have hne21:=hf21.ne hn13';have h21l:(dg (X-X/V*V)).length<=n+3:=by have:=W9 (Nat.sub_le X (X/V*V));omega
   have l21:=hr21.len;refine Zp (λst h'=>∃(i:Nat) (L':List Nat),st=((i:Int),())/\i<=n+3/\LeX a13.block h7 h'/\Yl h h' u L'/\okW L'/\L'.length=N+1/\L'.take j=L.take j/\L'.drop (j+(n+3))=L.drop (j+(n+3)) /\
    vl ((L'.drop j).take i)=vl ((dg (X-X/V*V)).take i)) (λst=>((n+3:Nat)-st.1).toNat) ⟨0,L,rfl,Ga _,LeX.refl,hoL7,okL,hLl,rfl,rfl,by simp[vl]⟩ ?_
   rintro st h8 ⟨i,L',rfl,hi,hle8,hoL8,okL8,hL8l,ht8,hd8,hv8⟩;have lc8:(u.cut j (j+(n+3)) 1).len=n+3:=by show j+(n+3)-j=n+3;omega
   have llu8:=hoL8.len;have hucap8:=hoL8.2.2.1;refine ze (λh9=>?_) (λh9=>?_)
   . have hi':i<n+3:=by have:(i:Int)<((u.cut j (j+(n+3)) 1).len:Int):=h9;rw[lc8]at this;omega
     have hgw:=Va (Z5 (X-X/V*V)) i;refine zh (λ_ h'=>LeX a13.block h7 h'/\Yl h h' u (L'.set (j+i) ((dg (X-X/V*V)).getD i 0))) ?_ ?_
     . rintro _ h' ⟨hle9,hoL9⟩;refine⟨⟨i+1,_,by rw[w64 (by simp only;omega)];rfl,by omega,hle9,hoL9,Vn okL8 hgw,by simp[hL8l],by rw[z9x (by omega)];exact ht8,by rw[z9w (by omega)];exact hd8,?_⟩,by simp only;rw[w64 (by omega)];omega⟩;rw[Zai,V7 (by rw[Gg];omega),z69,hv8]
     . refine z2f rfl (by omega) (by omega) (z67 (j+i) 0 ha13 hoL8 rfl (by omega) rfl λh10 hl10 ho10'=>?_);refine ze (λh11=>?_) (λh11=>?_)
       . have hi2:i<(dg (X-X/V*V)).length:=by have:(i:Int)<(r21.len:Int):=h11;omega
         refine Vz i ((hr21.leX hle8 hne21).leX hl10 hne21) rfl hi2 λa5 ha5=>⟨_,ha5,?_⟩
         refine z2f rfl (by omega) (by omega) (z67 (j+i) _ ha13 ho10' rfl (by simp;omega) rfl λh12 hl12 ho12'=>⟨(hle8.trans hl10).trans hl12,?_⟩);rw[List.set_set]at ho12';exact ho12'
       . have hi2:(dg (X-X/V*V)).length<=i:=by have:¬(i:Int)<(r21.len:Int):=h11;omega
         rw[z1h hi2];exact⟨hle8.trans hl10,ho10'⟩
   . have hi':i=n+3:=by have:¬(i:Int)<((u.cut j (j+(n+3)) 1).len:Int):=h9;rw[lc8]at this;omega
     subst hi';rw[Jd h21l,Zt]at hv8;have hv9:vl (L'.drop j)=X-X/V*V:=by
      have e1:=qb (l:=L'.drop j) (k:=n+3) (by rw[Gg];omega);rw[T7,hd8,hz0]at e1;omega
     obtain⟨g2,g3⟩:=Zc5 hVpos hX0 (by omega) (by omega) ht8 hv9;have hn13'':h8 a13.block≠none:=by
      obtain⟨a,e1,_,e3⟩:=Own.some hoL8 (by omega);rw[ha13]at e1;cases e1;exact e3
     have hor8:Yl h h8 q (r.set j (X/V)):=(hor6.le hl7).leX hle8 hb13 hq13;have hn16':h8 a16.block≠none:=by
      obtain⟨a,e1,_,e3⟩:=Own.some hor8 (by simp;omega);rw[ha16]at e1;cases e1;exact e3
     exact⟨⟨j,L',_,by rw[w64 (by omega)],by omega,hoL8,okL8,hL8l,hor8,Vn okr hqW,by simp[hrl],(((hv3.le hl5).leX hl6 hne16).le hl7).leX hle8 hne13,hn13'',hn16',g3,zrp rfl hval g2 (by omega)⟩,by rw[w64 (by omega)];omega⟩
 . obtain rfl:k=0:=by have:¬(k:Int)-1>=0:=h4;omega
   simp only[Tw,Nat.pow_zero,Pr]at hlt hval;have hVq:A/B=vl r:=by
    have h5:A*2 ^ s/(B*2 ^ s)=A/B:=Nat.mul_div_mul_right _ _ (Gs s);rw[hV,hval,Nat.mul_add_div hVpos,Tz hlt,Nat.add_zero]at h5;exact h5.symm
   have hVr:vl L=A % B*2 ^ s:=by
    have h5:A*2 ^ s % (B*2 ^ s)=A % B*2 ^ s:=Nat.mul_mod_mul_right _ _ _;rw[hV,hval,Nat.mul_add_mod,Uj hlt]at h5;exact h5
   refine Ws hor.rdW (by omega) λz1 hz1=>?_
   rw[Qn okr,<-hVq]at hz1;refine Ws hoL.rdW (by omega) λz2 hz2=>?_
   rw[Qn okL]at hz2;have hz2l:(dg (vl L)).length<=n+2:=Y6.2 (Nat.lt_trans hlt hVu);refine Z0b hz2 (Z5 _) hs31 (by omega) λz3 h5 hl5 hz3=>?_
   rw[Zt,hVr,Nat.mul_div_cancel _ (Gs s)]at hz3;exact H _ _ _ (Hp.le_trans hoL.1 hl5) (hz1.le hl5) hz3
theorem zg4{A B:Nat}(hx:RdW h x (dg A))(hy:RdW h y (dg B))(hB:B≠0)(hl:(dg A).length<=35184372088000)(hl2:(dg B).length<=35184372088000)
 (H:∀q r h',h.le h'->RdW h' q (dg (A/B))->RdW h' r (dg (A % B))->Kp (q,r) h'):zc (F.z1r x y) Kp h:=
 zd (λv h'=>RdW h' v.1 (dg (A/B))/\RdW h' v.2 (dg (A % B))) (λK' hk=>zx2 hx hy hB hl hl2 λq r h' h1 h2 h3=>hk _ _ h1 ⟨h2,h3⟩) λv h' h1 ⟨h2,h3⟩=>H v.1 v.2 h' h1 h2 h3
end
end Den
end

noncomputable section
namespace Den
open Go Iv
theorem zsb{P:Nat->Prop}(h:∃n,P n):∃n,P n/\∀m,P m->n<=m:=by
 obtain⟨n,hn⟩:=h;induction n using Nat.strongRecOn with
 | _ n ih=>
   by_cases hm:∃m,m<n/\P m
   . obtain⟨m,h1,h2⟩:=hm;exact ih m h1 h2
   . exact⟨n,hn,λm h2=>by
      rcases Jo m n with h3 | h3
      . exact absurd ⟨m,h3,h2⟩ hm
      . exact h3⟩
open Classical in
def zpl(P:Nat->Prop):Nat:=if h:∃n,P n then Classical.choose (zsb h)else 0
theorem zib{P:Nat->Prop}{n:Nat}(h:P n):P (zpl P)/\zpl P<=n:=by
 have h1:∃n,P n:=⟨n,h⟩;unfold zpl;rw[dif_pos h1];have:=Classical.choose_spec (zsb h1);exact⟨this.1,this.2 n h⟩
theorem zsf{S:Type}{body:S->(S->Hp->Prop)->Hp->Prop}{s0:S}{h0:Hp}(I:Nat->S->Hp->Prop)(n0:Nat)(h1:I n0 s0 h0)
 (h2:∀n s h,I n s h->∀K:S->Hp->Prop,(∀s' h' n',n'<n->I n' s' h'->K s' h')->body s K h):zn body s0 h0:=by
 refine⟨λs h=>∃n,I n s h,λs h=>zpl λn=>I n s h,⟨n0,h1⟩,λs h ⟨n,hI⟩=>?_⟩;have h3:=zib (P:=λn=>I n s h) hI;refine h2 _ s h h3.1 _ λs' h' n' hn hI'=>⟨⟨n',hI'⟩,?_⟩
 have h4:=zib (P:=λn=>I n s' h') hI';exact Gb h4.2 hn
section
variable {h : Hp} {x y : Sl} {l : List Nat} {m n : Int} {a b : TInt} {Ks : Sl → Hp → Prop} {Ki : Int → Hp → Prop} {Kb : Bool → Hp → Prop} {KI : TInt → Hp → Prop} {KP : (TInt × TInt × Int) → Hp → Prop}
theorem zke(x y:Nat):Tu y (x % y)=Tu x y:=by
 rw[Nat.gcd_comm x y,Nat.gcd_rec y x,Nat.gcd_comm]
theorem zmt(ha:NI h a m)(hb:NI h b n)(om:(dg m.natAbs).length<=35184372087808)(on:(dg n.natAbs).length<=35184372087808)(H:∀z h',h.le h'->NI h' z (Tu m.natAbs n.natAbs:Nat)->KI z h'):zc (F.z35 a b) KI h:=by
 refine zd _ (λK' hk=>?_) H;unfold F.z35;refine zd2 ha om λx hx=>zd2 hb on λy hy=>?_
 have om':=om;have on':=on;refine zh (λst h'=>h.le h'/\∃A B:Nat,RdW h' st.1 (dg A)/\RdW h' st.2.1 (dg B)/\(dg A).length<=35184372087808/\Tu A B=Tu m.natAbs n.natAbs/\(dg B).length<=2/\(B≠0->(dg A).length<=2)) ?_ ?_
 . rintro⟨x,y,_⟩ h1 ⟨hl1,A,B,hA,hB,hAl,hg,hB2,hA2⟩;simp only at hA hB |-
   have lB:=hB.len;refine zu (λh2=>?_) (λh2=>?_)
   . have hB0:B=0:=z0v.1 (Ud.1 (by omega));subst hB0;rw[Nat.gcd_zero_right]at hg;refine zei hA (by omega) λz h3 hl3 hz=>z08 hz (by omega) λw hw=>hk _ _ (Hp.le_trans hl1 hl3) ?_
     rw[<-hg];exact hw
   . have hB0:B≠0:=λh0=>h2 (by rw[lB,h0,qz];rfl)
     have hA2':=hA2 hB0;refine z92 hA (Z5 A) hA2' λh3 hl3=>z92 (hB.le hl3) (Z5 B) hB2 λh4 hl4=>?_
     rw[Zt,Zt];have lt2:∀{n:Nat},(dg n).length<=2->n<18446744073709551616:=λhn=>by
      have:=(Y6 (k:=2)).1 hn;have e:W ^ 2=18446744073709551616:=by decide
      omega
     refine Zp (λst h'=>h.le h'/\∃A B:Nat,st=((A:Int),(B:Int),())/\A<18446744073709551616/\B<18446744073709551616/\Tu A B=Tu m.natAbs n.natAbs) (λst=>st.2.1.toNat)
      ⟨Hp.le_trans hl1 (Hp.le_trans hl3 hl4),A,B,rfl,lt2 hA2',lt2 hB2,hg⟩ ?_
     rintro _ h5 ⟨hl5,A,B,rfl,hA3,hB3,hg3⟩;refine Z2 (λh6=>⟨h6,?_⟩) (λh6=>?_)
     . have hB4:B≠0:=λh0=>h6 (by rw[h0];rfl)
       have:=U2 A (Tt hB4);simp only;rw[zo4];exact⟨⟨hl5,B,A % B,rfl,hB3,by omega,by rw[zke];exact hg3⟩,by omega⟩
     . have hB4:B=0:=by simp only at h6;omega
       subst hB4;rw[Nat.gcd_zero_right]at hg3;have:=dg2 hA3;refine z2e rfl hA3 λz h7 hl7 hz=>z08 hz (by omega) λw hw=>hk _ _ (Hp.le_trans hl5 hl7) ?_
       rw[<-hg3];exact hw
 . refine zsf (λN st h'=>h.le h'/\∃A:Nat,RdW h' st.1 (dg A)/\RdW h' st.2.1 (dg N)/\(dg A).length<=35184372087808/\(dg N).length<=35184372087808/\Tu A N=Tu m.natAbs n.natAbs) n.natAbs
    ⟨Hp.le_refl _,m.natAbs,hx,hy,om',on',rfl⟩ ?_
   rintro B ⟨x,y,_⟩ h1 ⟨hl1,A,hA,hB,hAl,hBl,hg⟩ K hK;simp only at hA hB |-
   have lA:=hA.len;have lB:=hB.len;have step:B≠0->zc (F.Wi x y) (λr17 h13=>K (y,r17.2,()) h13) h1:=λhB0=>by
    refine zi2 hA hB hB0 (by omega) (by omega) λq r h2 hl2 hq hr=>?_
    have:=U2 A (Tt hB0);exact hK _ _ (A % B) this ⟨Hp.le_trans hl1 hl2,B,hB.le hl2,hr,hBl,by have:=W9 (Li this);omega,by rw[zke];exact hg⟩
   have hB0:0<y.len->B≠0:=λh0 hh=>by rw[lB,hh,qz]at h0;exact absurd h0 (by decide)
   refine zs9 ?_;refine ze (λh2=>step (hB0 (by omega))) (λh2=>ze (λh3=>ze (λh4=>step (hB0 (by omega))) (λh4=>?_)) (λh3=>?_))
   . exact⟨hl1,A,B,hA,hB,hAl,hg,by omega,λh5=>absurd (z0v.1 (Ud.1 (by omega))) h5⟩
   . exact⟨hl1,A,B,hA,hB,hAl,hg,by omega,λ_=>by omega⟩
theorem Z2t(ha:NI h a m)(hb:NI h b n)(om:Ok m)(on:Ok n)(H:∀z h',h.le h'->NI h' z (Tu m.natAbs n.natAbs:Nat)->KI z h'):zc (F.z35 a b) KI h:=
 zmt ha hb (Jt om (by decide)) (Jt on (by decide)) H
theorem zld(ha:NI h a m)(hb:NI h b n)(om:(dg m.natAbs).length<=35184372087808)(on:(dg n.natAbs).length<=35184372087808)(H:∀z h',h.le h'->NI h' z (Tu m.natAbs n.natAbs:Nat)->KI z h'):zc (F.z4p a b) KI h:=by
 refine zd _ (λK' hk=>?_) H;unfold F.z4p;refine zg9 ha om λx hx=>zg9 hb on λy hy=>?_
 have om':=om;have on':=on;refine zsf (λN st h'=>h.le h'/\∃A:Nat,RdW h' st.1 (dg A)/\RdW h' st.2.1 (dg N)/\(dg A).length<=35184372087808/\(dg N).length<=35184372087808/\Tu A N=Tu m.natAbs n.natAbs) n.natAbs
  ⟨Hp.le_refl _,m.natAbs,hx,hy,om',on',rfl⟩ ?_
 rintro B ⟨x,y,_⟩ h1 ⟨hl1,A,hA,hB,hAl,hBl,hg⟩ K hK;simp only at hA hB |-
 have lA:=hA.len;have lB:=hB.len;refine ze (λh2=>?_) (λh2=>?_)
 . have hB0:B≠0:=λhh=>by rw[lB,hh,qz]at h2;exact absurd h2 (by decide)
   refine zg4 hA hB hB0 (by omega) (by omega) λq r h2 hl2 hq hr=>?_
   have:=U2 A (Tt hB0);exact hK _ _ (A % B) this ⟨Hp.le_trans hl1 hl2,B,hB.le hl2,hr,hBl,by have:=W9 (Li this);omega,by rw[zke];exact hg⟩
 . have hB0:B=0:=z0v.1 (Ud.1 (by omega));subst hB0;rw[Nat.gcd_zero_right]at hg;refine Q2 hA (by omega) λw hw=>hk _ _ hl1 ?_
   rw[<-hg];exact hw
theorem znw(ha:NI h a m)(hb:NI h b n)(om:Ok m)(on:Ok n)(H:∀z h',h.le h'->NI h' z (Tu m.natAbs n.natAbs:Nat)->KI z h'):zc (F.z4p a b) KI h:=
 zld ha hb (Jt om (by decide)) (Jt on (by decide)) H
theorem zs8(ha:NI h a m)(H:Kb (decide (m=0)) h):zc (F.z2u a) Kb h:=by
 refine zx _ (λK' hk=>?_) H;unfold F.z2u;rw[ha.len0];exact hk
theorem zvd:dg 1=[1]:=by rw[zh1 (by decide),show 1/W=0 by decide,qz];rfl
theorem zid(G:(Bool->Hp->Prop)->Hp->Prop)(hG:∀K,((m=1)->K true h)->((m≠1)->K false h)->G K h)(H:Kb (decide (m=1)) h):zc G Kb h:=by
 refine zx (decide (m=1)) (λK' hk=>hG K' (λh1=>?_) (λh1=>?_)) H
 . rw[decide_eq_true h1]at hk;exact hk
 . rw[decide_eq_false h1]at hk;exact hk
theorem z4j(ha:NI h a m)(H:Kb (decide (m=1)) h):zc (F.Q5 a) Kb h:=by
 refine zid _ (λK' h1 h0=>?_) H;unfold F.Q5;have hl:=ha.len;rw[ha.2];refine zi (λh2=>?_) (λh2=>?_)
 . have hpos:¬m<0:=by simpa using h2
   refine zu (λh3=>?_) (λh3=>?_)
   . have h4:=zj2 (B:=m.natAbs) (by omega);refine Vz 0 ha.1 rfl (by omega) λp hp=>⟨_,hp,?_⟩
     rw[h4];by_cases h5:m=1
     . have:=h1 h5;subst h5;exact this
     . have:=h0 h5;have e:(((([m.natAbs]:List Nat).getD 0 0:Nat):Int)==1)=false:=by
        simp;omega
       simp only;rw[e];exact this
   . refine h0 λh5=>h3 ?_
     subst h5;rw[hl,show(1:Int).natAbs=1 from rfl,zvd];rfl
 . exact h0 λh5=>by subst h5;simp at h2
theorem zhg(ha:NI h a m)(H:Kb (decide (m=1)) h):zc (F.z7h a) Kb h:=by
 refine zid _ (λK' h1 h0=>?_) H;unfold F.z7h;have hl:=ha.len;refine zu (λh3=>?_) (λh3=>?_)
 . have h4:=zj2 (B:=m.natAbs) (by omega);refine Vz 0 ha.1 rfl (by omega) λp hp=>⟨_,hp,?_⟩
   rw[h4];refine zu (λh5=>?_) (λh5=>?_)
   . have h6:((m.natAbs:Nat):Int)=1:=h5;rw[ha.2];by_cases h7:m<0
     . rw[decide_eq_true h7];exact h0 (by omega)
     . rw[decide_eq_false h7];exact h1 (by omega)
   . have h6:((m.natAbs:Nat):Int)≠1:=h5;exact h0 (by omega)
 . refine h0 λh5=>h3 ?_
   subst h5;rw[hl,show(1:Int).natAbs=1 from rfl,zvd];rfl
def DM(m n q r:Int):Prop:=m=n*q+r/\(0<n->0<=r/\r<n)/\(n<0->n<r/\r<=0)
theorem DM.div{m n q r:Int}(h:DM m n q r)(h0:n≠0)(hd:0<n\/n ∣ m):q=m/n:=by
 obtain⟨h1,h2,h3⟩:=h;rcases hd with hd | hd
 . have h4:=h2 hd;exact((Int.ediv_emod_unique hd).2 ⟨by omega,h4.1,h4.2⟩).1.symm
 . have hr:n ∣ r:=by
    have e:r=m-n*q:=by omega
    rw[e];exact Int.dvd_sub hd (Int.dvd_mul_right n q)
   have hr0:r=0:=by
    have h5:n.natAbs ∣ r.natAbs:=Int.natAbs_dvd_natAbs.2 hr;have h6:r.natAbs<n.natAbs:=by
     rcases Int.lt_or_gt_of_ne h0 with h7 | h7
     . have:=h3 h7;omega
     . have:=h2 h7;omega
    have:=Nat.eq_zero_of_dvd_of_lt h5 h6;omega
   rw[h1,hr0,Int.add_zero,T0 _ h0]
theorem Vc(m:Int):m=m.natAbs/\¬m<0\/m=-(m.natAbs:Int)/\m<0:=by omega
theorem Zd4{m n:Int}(h0:n≠0)(h:decide (m<0)=decide (n<0)):DM m n (sg false (m.natAbs/n.natAbs)) (sg (decide (n<0)) (m.natAbs % n.natAbs)):=by
 have e:=Nat.div_add_mod m.natAbs n.natAbs;have hlt:=U2 m.natAbs (y:=n.natAbs) (by omega);have h':m<0↔n<0:=by simpa using h
 have c1:=Vc m;have c2:=Vc n;clear h;generalize m.natAbs/n.natAbs=q at *;generalize m.natAbs % n.natAbs=r at *;generalize m.natAbs=A at *;generalize n.natAbs=B at *;have e':(A:Int)=B*q+r:=by rw[<-e];simp
 unfold DM sg;rcases c1 with ⟨h1,h2⟩ | ⟨h1,h2⟩<;>rcases c2 with ⟨h3,h4⟩ | ⟨h3,h4⟩
 . rw[decide_eq_false h4];simp only[J0,if_false];exact⟨by rw[h1,h3,e'],λ_=>by omega,λ_=>by omega⟩
 . omega
 . omega
 . rw[decide_eq_true h4];simp only[J0,if_false,if_true];exact⟨by rw[h1,h3,e',Int.neg_add,Int.neg_mul],λ_=>by omega,λ_=>by omega⟩
theorem Zd5{m n:Int}(h0:n≠0)(h:decide (m<0)≠decide (n<0))(hr:m.natAbs % n.natAbs=0):DM m n (sg true (m.natAbs/n.natAbs)) (sg (decide (n<0)) (m.natAbs % n.natAbs)):=by
 have e:=Nat.div_add_mod m.natAbs n.natAbs;have h':¬(m<0↔n<0):=by simpa using h
 have c1:=Vc m;have c2:=Vc n;rw[hr]at e |-
 clear h hr;generalize m.natAbs/n.natAbs=q at *;generalize m.natAbs=A at *;generalize n.natAbs=B at *;have e':(A:Int)=B*q:=by rw[<-e];simp
 unfold DM sg;rcases c1 with ⟨h1,h2⟩ | ⟨h1,h2⟩<;>rcases c2 with ⟨h3,h4⟩ | ⟨h3,h4⟩
 . omega
 . rw[decide_eq_true h4];simp only[if_true];exact⟨by rw[h1,h3,e',Int.neg_mul_neg];simp,λ_=>by omega,λ_=>by omega⟩
 . rw[decide_eq_false h4];simp only[J0,if_false,if_true];exact⟨by rw[h1,h3,e',Int.mul_neg];simp,λ_=>by omega,λ_=>by omega⟩
 . omega
theorem Zd3{m n:Int}(h0:n≠0)(h:decide (m<0)≠decide (n<0))(hr:m.natAbs % n.natAbs≠0):DM m n (sg true (m.natAbs/n.natAbs+1)) (sg (decide (n<0)) (n.natAbs-m.natAbs % n.natAbs)):=by
 have e:=Nat.div_add_mod m.natAbs n.natAbs;have hlt:=U2 m.natAbs (y:=n.natAbs) (by omega);have h':¬(m<0↔n<0):=by simpa using h
 have c1:=Vc m;have c2:=Vc n;clear h;generalize m.natAbs/n.natAbs=q at *;generalize m.natAbs % n.natAbs=r at *;generalize m.natAbs=A at *;generalize n.natAbs=B at *;have e':(A:Int)=B*q+r:=by rw[<-e];simp
 have e2:((B-r:Nat):Int)=(B:Int)-r:=by omega
 have e3:(B:Int)*((q+1:Nat):Int)=B*q+B:=by
  rw[Int.natCast_add,Int.mul_add];simp
 unfold DM sg;rw[e2];rcases c1 with ⟨h1,h2⟩ | ⟨h1,h2⟩<;>rcases c2 with ⟨h3,h4⟩ | ⟨h3,h4⟩
 . omega
 . rw[decide_eq_true h4];simp only[if_true];refine⟨?_,λ_=>by omega,λ_=>by omega⟩;rw[h1,h3,e',Int.neg_mul_neg,e3];omega
 . rw[decide_eq_false h4];simp only[J0,if_false,if_true];refine⟨?_,λ_=>by omega,λ_=>by omega⟩;rw[h1,h3,e',Int.mul_neg,e3];omega
 . omega
theorem Z9v{p q:Bool}(h:p=q):(!(p==q))=false:=by subst h;simp
theorem zzg{p q:Bool}(h:p≠q):(!(p==q))=true:=by simpa using h
theorem zqw(ha:NI h a m)(hb:NI h b n)(om:Ok m)(on:Ok n)(h0:n≠0)
 (H:∀z w h' q r,h.le h'->NI h' z q->NI h' w r->DM m n q r->KP (z,w,0) h'):zc (F.z3o a b) KP h:=by
 refine zd (λv h'=>∃q r,NI h' v.1 q/\NI h' v.2.1 r/\DM m n q r/\v.2.2=0) (λK' hk=>?_) λ⟨z,w,c⟩ h' hl ⟨q,r,h1,h2,h3,h4⟩=>by
  simp only at h4;subst h4;exact H z w h' q r hl h1 h2 h3
 unfold F.z3o;have om':(dg m.natAbs).length<=8796093022208:=om;have on':(dg n.natAbs).length<=8796093022208:=on;refine z0d hb on λy hy=>?_
 have ly:=hy.len;refine zu (λh1=>absurd (zks.1 (by omega)) h0) (λh1=>?_);refine z0d ha om λx hx=>?_
 refine zi2 hx hy (by omega) (by omega) (by omega) λq r h2 hl2 hq hr=>?_
 have hql:(dg (m.natAbs/n.natAbs)).length<=8796093022208:=Jt (W9 (T8 _ _)) om';have hrl:(dg (m.natAbs % n.natAbs)).length<=8796093022208:=Jt (W9 (Nat.mod_le _ _)) om';have lr:=hr.len;rw[ha.2,hb.2];refine zh (λst h'=>h.le h'/\∃q r:List Nat,okW q/\okW r/\RdW h' st.1 q/\RdW h' st.2.1 r/\q.length<=35184372088800/\r.length<=35184372088800/\DM m n (sg (!(decide (m<0)==decide (n<0))) (vl q)) (sg (decide (n<0)) (vl r))) ?_ ?_
 . rintro⟨x,y,_⟩ h3 ⟨hl3,q,r,okq,okr,hx3,hy3,hq3,hr3,hdm⟩;refine z8x hx3 okq (by omega) λz hz=>z8x hy3 okr (by omega) λw hw=>hk _ _ hl3 ⟨_,_,hz,hw,hdm,rfl⟩
 . have stay:DM m n (sg (!(decide (m<0)==decide (n<0))) (m.natAbs/n.natAbs)) (sg (decide (n<0)) (m.natAbs % n.natAbs)) ->
    h.le h2/\∃q' r':List Nat,okW q'/\okW r'/\RdW h2 q q'/\RdW h2 r r'/\q'.length<=35184372088800/\r'.length<=35184372088800/\DM m n (sg (!(decide (m<0)==decide (n<0))) (vl q')) (sg (decide (n<0)) (vl r')):=λhd=>
    ⟨hl2,dg _,dg _,Z5 _,Z5 _,hq,hr,by omega,by omega,by rw[Zt,Zt];exact hd⟩
   refine zi (λh3=>?_) (λh3=>?_)
   . have hd:decide (m<0)≠decide (n<0):=by simpa using h3
     refine ze (λh4=>?_) (λh4=>?_)
     . have hr0:m.natAbs % n.natAbs≠0:=λhh=>by rw[lr,hh,qz]at h4;exact absurd h4 (by decide)
       have hlt:=U2 m.natAbs (y:=n.natAbs) (by omega);refine z3s (n:=1) (size:=1) rfl λb1 h5 hb1 ho=>?_
       have ho':Yl h2 h5 ⟨some ⟨b1,0,none⟩,1,1⟩ [1]:=ho;refine znr (hq.le ho.1) ho'.rdW (Z5 _) (λd hd=>by rw[J6.1 hd];decide) (by omega) (by simp) λz h6 rr hl6 hz okz hv hzl=>?_
       rw[Zt]at hv;have hl26:=Hp.le_trans ho.1 hl6;refine zeq (hy.le (Hp.le_trans hl2 hl26)) (hr.le hl26) (Z5 _) (Z5 _) (by omega) (W9 (Li hlt)) (by rw[Zt,Zt];exact Li hlt) λw h7 hl7 hw=>?_
       rw[Zt,Zt]at hw;refine⟨Hp.le_trans hl2 (Hp.le_trans hl26 hl7),rr,_,okz,Z5 _,hz.le hl7,hw,by simp at hzl;omega,by have:=zlx (n:=m.natAbs % n.natAbs) on';omega,?_⟩;rw[Zt,hv,zzg hd];have:=Zd3 h0 hd hr0;simpa [vl] using this
     . have hr0:m.natAbs % n.natAbs=0:=z0v.1 (Ud.1 (by have h5:¬(r.len:Int)>0:=h4;omega));exact stay (by rw[zzg hd];exact Zd5 h0 hd hr0)
   . have hd:decide (m<0)=decide (n<0):=by simpa using h3
     exact stay (by rw[Z9v hd];exact Zd4 h0 hd)
end
end Den
end

section
namespace Den
open Go Iv
section
variable {h : Hp} {x y : Sl} {l : List Nat} {m n : Int} {a b : TInt} {Ks : Sl → Hp → Prop} {Ki : Int → Hp → Prop} {Kb : Bool → Hp → Prop} {KI : TInt → Hp → Prop} {KP : (TInt × TInt × Int) → Hp → Prop}
def tq(m n:Int):Int:=sg (!(decide (m<0)==decide (n<0))) (m.natAbs/n.natAbs)
theorem zql{m n:Int}(h0:n≠0):m-tq m n*n=sg (decide (m<0)) (m.natAbs % n.natAbs):=by
 have e:=Nat.div_add_mod m.natAbs n.natAbs;have c1:=Vc m;have c2:=Vc n;unfold tq;generalize m.natAbs/n.natAbs=q at *;generalize m.natAbs % n.natAbs=r at *;generalize m.natAbs=A at *;generalize n.natAbs=B at *;have e':(A:Int)=B*q+r:=by rw[<-e];simp
 unfold sg;rcases c1 with ⟨h1,h2⟩ | ⟨h1,h2⟩<;>rcases c2 with ⟨h3,h4⟩ | ⟨h3,h4⟩
 . rw[decide_eq_false h2,decide_eq_false h4];simp only[BEq.rfl,Bool.not_true,J0,if_false];rw[h1,h3,e',Lj];omega
 . rw[decide_eq_false h2,decide_eq_true h4];simp only[J0,if_false];rw[if_pos (by decide),h1,h3,e',Int.neg_mul_neg,Lj];omega
 . rw[decide_eq_true h2,decide_eq_false h4];simp only[if_true];rw[if_pos (by decide),h1,h3,e',Int.neg_mul,Lj];omega
 . rw[decide_eq_true h2,decide_eq_true h4];simp only[BEq.rfl,Bool.not_true,J0,if_false,if_true];rw[h1,h3,e',Int.mul_neg,Lj];omega
theorem Zs3{m n:Int}(h0:n≠0)(h:¬(m-tq m n*n).sign*n.sign<0):DM m n (tq m n) (m-tq m n*n):=by
 have hr:=zql (m:=m) h0;have hlt:=U2 m.natAbs (y:=n.natAbs) (by omega);have hb:(m-tq m n*n).natAbs<n.natAbs:=by rw[hr,zaz];exact hlt
 have s1:=Xz (m-tq m n*n);have s2:=Xz n;refine⟨by rw[Lj n];omega,λh1=>?_,λh1=>?_⟩
 . generalize m-tq m n*n=r at *;rcases s1 with ⟨e1,s1⟩ | ⟨e1,s1⟩ | ⟨e1,s1⟩<;>rcases s2 with ⟨e2,s2⟩ | ⟨e2,s2⟩ | ⟨e2,s2⟩<;>(rw[e1,e2]at h)<;>omega
 . generalize m-tq m n*n=r at *;rcases s1 with ⟨e1,s1⟩ | ⟨e1,s1⟩ | ⟨e1,s1⟩<;>rcases s2 with ⟨e2,s2⟩ | ⟨e2,s2⟩ | ⟨e2,s2⟩<;>(rw[e1,e2]at h)<;>omega
theorem tq_DM'{m n:Int}(h0:n≠0)(h:(m-tq m n*n).sign*n.sign<0):DM m n (tq m n-1) (m-tq m n*n+n):=by
 have hr:=zql (m:=m) h0;have hlt:=U2 m.natAbs (y:=n.natAbs) (by omega);have hb:(m-tq m n*n).natAbs<n.natAbs:=by rw[hr,zaz];exact hlt
 have s1:=Xz (m-tq m n*n);have s2:=Xz n;refine⟨by rw[Int.mul_sub,Lj n (tq m n)];omega,λh1=>?_,λh1=>?_⟩
 . generalize m-tq m n*n=r at *;rcases s1 with ⟨e1,s1⟩ | ⟨e1,s1⟩ | ⟨e1,s1⟩<;>rcases s2 with ⟨e2,s2⟩ | ⟨e2,s2⟩ | ⟨e2,s2⟩<;>(rw[e1,e2]at h)<;>omega
 . generalize m-tq m n*n=r at *;rcases s1 with ⟨e1,s1⟩ | ⟨e1,s1⟩ | ⟨e1,s1⟩<;>rcases s2 with ⟨e2,s2⟩ | ⟨e2,s2⟩ | ⟨e2,s2⟩<;>(rw[e1,e2]at h)<;>omega
theorem Ok.le{m n:Int}(hm:Ok m)(h:n.natAbs<=m.natAbs):Ok n:=Jt (W9 h) hm
theorem Zhy:Ok 1:=by unfold Ok;rw[show(1:Int).natAbs=1 from rfl,zvd];decide
theorem Zp8(m n:Int):(tq m n).natAbs<=m.natAbs:=by unfold tq;rw[zaz];exact T8 _ _
theorem Zey(m n:Int):(tq m n*n).natAbs<=m.natAbs:=by
 rw[Po];unfold tq;rw[zaz];exact Nat.div_mul_le_self _ _
theorem zpu(ha:NI h a m)(hb:NI h b n)(om:Ok m)(on:Ok n)(h0:n≠0)
 (H:∀z w h' q r,h.le h'->NI h' z q->NI h' w r->DM m n q r->KP (z,w,0) h'):zc (F.z72 a b) KP h:=by
 refine zd (λv h'=>∃q r,NI h' v.1 q/\NI h' v.2.1 r/\DM m n q r/\v.2.2=0) (λK' hk=>?_) λ⟨z,w,c⟩ h' hl ⟨q,r,h1,h2,h3,h4⟩=>by
  simp only at h4;subst h4;exact H z w h' q r hl h1 h2 h3
 unfold F.z72;have om':(dg m.natAbs).length<=8796093022208:=om;have on':(dg n.natAbs).length<=8796093022208:=on;refine z4m ha om λx hx=>z4m hb on λy hy=>?_
 refine zi (λh1=>?_) (λ_=>?_)
 . rw[hy.len0]at h1;exact absurd (of_decide_eq_true h1) h0
 refine zg4 hx.1 hy.1 (by omega) (by omega) (by omega) λq r h2 hl2 hq hr=>?_
 have hql:(dg (m.natAbs/n.natAbs)).length<=8796093022208:=Jt (W9 (T8 _ _)) om';rw[hx.2,hy.2];refine Q2 hq (by omega) λz hz=>?_
 have hz':NI h2 z (tq m n):=hz;have oq:Ok (tq m n):=om.le (Zp8 m n);refine zdp hz' (hy.le hl2) oq on λw h3 hl3 hw=>?_
 have hl23:=Hp.le_trans hl2 hl3;refine znx (hx.le hl23) hw om (om.le (Zey m n)) λv h4 hl4 hv=>?_
 have hl24:=Hp.le_trans hl23 hl4;have hb:(m-tq m n*n).natAbs<n.natAbs:=by rw[zql h0,zaz];exact U2 _ (by omega)
 have or':Ok (m-tq m n*n):=on.le (Li hb);refine zh (λst h'=>h.le h'/\∃q r,NI h' ⟨st.1.1,st.1.2.1⟩ q/\NI h' ⟨st.2.1.1,st.2.1.2.1⟩ r/\DM m n q r) ?_ ?_
 . rintro st h5 ⟨hl5,q,r,hq5,hr5,hdm⟩;exact hk _ _ hl5 ⟨q,r,hq5,hr5,hdm,rfl⟩
 . refine zew hv or' (zew (hy.le hl24) on ?_);have s1:=Xz (m-tq m n*n);have s2:=Xz n;have es:i64.wrap ((m-tq m n*n).sign*n.sign)=(m-tq m n*n).sign*n.sign:=by
    rcases s1 with ⟨e1,s1⟩ | ⟨e1,s1⟩ | ⟨e1,s1⟩<;>rcases s2 with ⟨e2,s2⟩ | ⟨e2,s2⟩ | ⟨e2,s2⟩<;>rw[e1,e2]<;>rfl
   rw[es];refine ze (λh5=>?_) (λh5=>?_)
   . refine z5g (by decide) (by decide) λo h6 hl6 ho=>?_
     have hq6:NI h6 z (tq m n):=((hz'.le hl3).le hl4).le hl6;refine znx hq6 ho oq Zhy λu h7 hl7 hu=>?_
     have hl47:=Hp.le_trans hl6 hl7;refine znv (hv.le hl47) (hy.le (Hp.le_trans hl24 hl47)) or' on λt h8 hl8 ht=>?_
     exact⟨Hp.le_trans hl24 (Hp.le_trans hl47 hl8),_,_,hu.le hl8,ht,tq_DM' h0 h5⟩
   . exact⟨hl24,_,_,(hz'.le hl3).le hl4,hv,Zs3 h0 h5⟩
theorem zsz(ha:NI h a m)(hb:NI h b n)(om:Ok m)(on:Ok n)(h0:n≠0)(hd:0<n\/n ∣ m)(H:∀z h',h.le h'->NI h' z (m/n)->KI z h'):zc (F.z3v a b) KI h:=by
 refine zd _ (λK' hk=>?_) H;unfold F.z3v;refine z4j hb ?_;refine ze (λh1=>?_) (λh1=>?_)
 . subst h1;exact hk _ _ (Hp.le_refl _) (by rw[Int.ediv_one];exact ha)
 . refine zqw ha hb om on h0 λz w h' q r hl hz hw hdm=>hk _ _ hl ?_
   have:=hdm.div h0 hd;subst this;exact hz
theorem zdu(ha:NI h a m)(hb:NI h b n)(om:Ok m)(on:Ok n)(h0:n≠0)(hd:0<n\/n ∣ m)(H:∀z h',h.le h'->NI h' z (m/n)->KI z h'):zc (F.z4s a b) KI h:=by
 refine zd _ (λK' hk=>?_) H;unfold F.z4s;refine zpu ha hb om on h0 λz w h' q r hl hz hw hdm=>hk _ _ hl ?_
 have:=hdm.div h0 hd;subst this;exact hz
end
end Den
end

section
namespace Iv
theorem z20(q:Rat):((q.den:Nat):Int)≠0:=by have:=q.den_pos;omega
theorem z3a{n d:Int}{q:Rat}(hd:d≠0):Py n d=q↔n*q.den=q.num*d:=by
 have h:=Rat.divInt_eq_divInt_iff (n₁:=n) (n₂:=q.num) hd (z20 q);rw[La]at h;exact h
theorem zex{n d:Int}{q:Rat}(hd:0<d)(hc:Nat.Coprime n.natAbs d.natAbs)(h:n*q.den=q.num*d):n=q.num/\d=q.den:=by
 have hq:(⟨n,d.toNat,by omega,by rw[show d.toNat=d.natAbs by omega];exact hc⟩:Rat)=q:=by
  have h1:Py n d=q:=(z3a (by omega)).2 h;rw[<-h1]
  symm
  refine(z3a (by omega)).2 ?_;show n*((d.toNat:Nat):Int)=n*d;rw[Int.toNat_of_nonneg (by omega)]
 refine⟨congrArg Rat.num hq,?_⟩;have:=congrArg Rat.den hq;show d=((q.den:Nat):Int);have h2:d.toNat=q.den:=this;omega
theorem Z9i{m n g:Int}(hn:n≠0)(hg:g=n.sign*(Tu m.natAbs n.natAbs:Nat)):g≠0/\g ∣ m/\g ∣ n/\m/g=(Py m n).num/\n/g=(Py m n).den:=by
 have hG:Tu m.natAbs n.natAbs≠0:=λh=>by have:=(Nat.gcd_eq_zero_iff.1 h).2;omega
 have hgabs:g.natAbs=Tu m.natAbs n.natAbs:=by
  rw[hg,Po,Int.natAbs_sign_of_ne_zero hn,Pr];rfl
 have hg0:g≠0:=λh=>by rw[h]at hgabs;exact hG hgabs.symm
 have hgm:g ∣ m:=Int.natAbs_dvd_natAbs.1 (by rw[hgabs];exact Nat.gcd_dvd_left _ _);have hgn:g ∣ n:=Int.natAbs_dvd_natAbs.1 (by rw[hgabs];exact Lk _ _);obtain⟨m',hm'⟩:=id hgm;obtain⟨n',hn'⟩:=id hgn;have e1:m/g=m':=by rw[hm'];exact T0 _ hg0
 have e2:n/g=n':=by rw[hn'];exact T0 _ hg0
 have hGp:0<((Tu m.natAbs n.natAbs:Nat):Int):=by omega
 have hpos:0<n':=by
  generalize ((Tu m.natAbs n.natAbs:Nat):Int)=G at *;clear hgabs hgm hgn e1 e2 hm' hG;rcases Int.lt_or_gt_of_ne hn with h | h
  . have hgneg:g<0:=by
     rw[hg,Gm h];omega
    rcases Int.lt_trichotomy n' 0 with h1 | h1 | h1
    . have:=Int.mul_pos_of_neg_of_neg hgneg h1;omega
    . rw[h1]at hn';omega
    . exact h1
  . have hgpos:0<g:=by
     rw[hg,G7 h];omega
    rcases Int.lt_trichotomy n' 0 with h1 | h1 | h1
    . have:=Int.mul_neg_of_pos_of_neg hgpos h1;omega
    . rw[h1]at hn';omega
    . exact h1
 have hcop:Nat.Coprime m'.natAbs n'.natAbs:=by
  have h1:m.natAbs=g.natAbs*m'.natAbs:=(congrArg Int.natAbs hm').trans (Po _ _);have h2:n.natAbs=g.natAbs*n'.natAbs:=(congrArg Int.natAbs hn').trans (Po _ _);rw[h1,h2,Nat.gcd_mul_left]at hgabs;have h3:g.natAbs*1=g.natAbs*Tu m'.natAbs n'.natAbs:=by rw[J7];exact hgabs
  exact(Nat.eq_of_mul_eq_mul_left (by omega) h3).symm
 have hx:m'*(Py m n).den=(Py m n).num*n':=by
  have h1:=(z3a (q:=Py m n) hn).1 rfl;generalize (Py m n).den=D at *;generalize (Py m n).num=N at *;rw[hm',hn']at h1;refine Int.eq_of_mul_eq_mul_left hg0 ?_;rw[<-Ln,h1,Lj g n',<-Ln,Lj]
 have:=zex hpos hcop hx;exact⟨hg0,hgm,hgn,by rw[e1];exact this.1,by rw[e2];exact this.2⟩
theorem Zk2(a b:Rat):a+b=Py (a.num*b.den+b.num*a.den) (a.den*b.den):=by
 have:=Rat.divInt_add_divInt a.num b.num (z20 a) (z20 b);rw[La,La]at this;exact this
theorem Zac(a b:Rat):a*b=Py (a.num*b.num) (a.den*b.den):=by
 have:=Rat.divInt_mul_divInt a.num b.num (d₁:=a.den) (d₂:=b.den);rw[La,La]at this;exact this
theorem Zsk(a b:Rat):a/b=Py (a.num*b.den) (a.den*b.num):=by
 rw[Rat.div_def,Rat.inv_def];have:=Rat.divInt_mul_divInt a.num b.den (d₁:=a.den) (d₂:=b.num);rw[La]at this;exact this
end Iv
namespace Den
open Go Iv
def NR(h:Hp)(x:TRat)(q:Rat):Prop:=NI h x.num q.num/\NI h x.den q.den
theorem NR.le{h h':Hp}{x:TRat}{q:Rat}(hx:NR h x q)(hl:h.le h'):NR h' x q:=⟨hx.1.le hl,hx.2.le hl⟩
def BR(k:Nat)(q:Rat):Prop:=Lt k q.num/\Lt k q.den
theorem BR.mono{k j:Nat}{q:Rat}(h:BR k q)(hk:k<=j):BR j q:=⟨h.1.mono hk,h.2.mono hk⟩
theorem Lt.addm{k:Nat}{m n:Int}(h:Lt k m)(h2:Lt k n):Lt (k+1) (m+n):=by
 unfold Lt at *;have h3:=Int.natAbs_add_le m n;rw[U6];have:W ^ k*2<=W ^ k*W:=Nat.mul_le_mul_left _ (by decide);omega
theorem BR.divInt{k:Nat}{m n:Int}(hm:Lt k m)(hn:Lt k n)(h0:n≠0):BR k (Py m n):=by
 obtain⟨_,_,_,h1,h2⟩:=Z9i (m:=m) (n:=n) h0 rfl;exact⟨by rw[<-h1];exact hm.le (Ps _ _),by rw[<-h2];exact hn.le (Ps _ _)⟩
theorem BR.mul{k j:Nat}{a b:Rat}(ha:BR k a)(hb:BR j b):BR (k+j) (a*b):=by
 rw[Zac];exact BR.divInt (ha.1.mul hb.1) (ha.2.mul hb.2) (Lc (z20 a) (z20 b))
theorem BR.add{k j:Nat}{a b:Rat}(ha:BR k a)(hb:BR j b):BR (k+j+1) (a+b):=by
 rw[Zk2];exact BR.divInt ((ha.1.mul hb.2).addm ((hb.1.mul ha.2).mono (by omega))) ((ha.2.mul hb.2).mono (by omega)) (Lc (z20 a) (z20 b))
theorem BR.neg{k:Nat}{a:Rat}(ha:BR k a):BR k (-a):=⟨by rw[Rat.neg_num];exact ha.1.neg,by rw[Rat.neg_den];exact ha.2⟩
section
variable {h : Hp} {m n : Int} {a b : TInt} {x y : TRat} {p q : Rat} {j k : Nat} {Ki : Int → Hp → Prop} {Kb : Bool → Hp → Prop} {KI : TInt → Hp → Prop} {KR : TRat → Hp → Prop} {KE : (TRat × Int) → Hp → Prop}
theorem zky(H:∀z h',h.le h'->NI h' z 1->KI z h'):zc F.z1q KI h:=
 zd _ (λK' hk=>by unfold F.z1q;exact za3 (by decide) (by decide) λz h' hl hz=>hk _ _ hl hz) H
theorem z2l(h1:-9223372036854775808<=n)(h2:n<=9223372036854775807)(H:∀z h',h.le h'->NR h' z (n:Rat)->KR z h'):zc (F.qm n) KR h:=by
 refine zd _ (λK' hk=>?_) H;unfold F.qm;refine za3 h1 h2 λz h3 hl3 hz=>zky λw h4 hl4 hw=>hk _ _ (Hp.le_trans hl3 hl4) ⟨?_,?_⟩
 . exact hz.le hl4
 . exact hw
theorem zla(hx:NR h x p)(op:BR k p)(hk:k<=1000000000000)(H:Ki p.num.sign h):zc (F.Q0 x) Ki h:=
 zx _ (λK' hk=>by unfold F.Q0;exact zgq hx.1 (op.1.ok (by omega)) hk) H
theorem zcc(ha:NI h a m)(hb:NI h b n)(om:Lt k m)(on:Lt k n)(hk:k<=1000000000000)(h0:n≠0)(H:∀z h',h.le h'->NR h' z (Py m n)->KR z h'):zc (F.W6 a b) KR h:=by
 refine zd _ (λK' hk=>?_) H;unfold F.W6;have om':=om.ok (by omega);have on':=on.ok (by omega);refine Z2t ha hb om' on' λg h1 hl1 hg=>?_
 have og:Ok (Tu m.natAbs n.natAbs:Nat):=on'.le (by
  rw[Gz];exact Nat.le_of_dvd (by omega) (Lk _ _))
 obtain⟨e0,e1,e2,e3,e4⟩:=Z9i (m:=m) (n:=n) h0 rfl;have oG:Ok (n.sign*(Tu m.natAbs n.natAbs:Nat)):=og.le (by
  rw[Po,Int.natAbs_sign_of_ne_zero h0,Pr];exact Ja _)
 refine zh (λst h'=>h.le h'/\NI h' ⟨st.1.1,st.1.2.1⟩ (n.sign*(Tu m.natAbs n.natAbs:Nat))) ?_ ?_
 . rintro st h2 ⟨hl2,hG⟩;refine zsz (ha.le hl2) hG om' oG e0 (.inr e1) λu h3 hl3 hu=>?_
   refine zsz (hb.le (Hp.le_trans hl2 hl3)) (hG.le hl3) on' oG e0 (.inr e2) λv h4 hl4 hv=>?_
   refine hk _ _ (Hp.le_trans hl2 (Hp.le_trans hl3 hl4)) ⟨?_,?_⟩
   . rw[<-e3];exact hu.le hl4
   . rw[<-e4];exact hv
 . rw[hb.2];refine ze (λh2=>?_) (λh2=>?_)
   . refine zqy hg og λw h3 hl3 hw=>⟨Hp.le_trans hl1 hl3,?_⟩
     rw[Gm h2,Int.neg_mul,Int.one_mul];exact hw
   . refine⟨hl1,?_⟩;rw[G7 (by omega),Int.one_mul];exact hg
theorem znu(hx:NR h x p)(hy:NR h y q)(op:BR k p)(oq:BR j q)(hk:k<=400000000000)(hj:j<=400000000000)(H:∀z h',h.le h'->NR h' z (p*q)->KR z h'):zc (F.z3u x y) KR h:=by
 refine zd _ (λK' hk=>?_) H;unfold F.z3u;have hd:((p.den:Nat):Int)*q.den≠0:=Lc (z20 p) (z20 q);refine zh (λ_ h'=>h'=h) ?_ ?_
 . rintro _ h' rfl;refine z5p hx.1 hy.1 (op.1.ok (by omega)) (oq.1.ok (by omega)) λz h3 hl3 hz=>?_
   refine z5p (hx.2.le hl3) (hy.2.le hl3) (op.2.ok (by omega)) (oq.2.ok (by omega)) λw h4 hl4 hw=>?_
   refine zcc (hz.le hl4) hw (op.1.mul oq.1) (op.2.mul oq.2) (by omega) hd λv h5 hl5 hv=>hk _ _ (Hp.le_trans hl3 (Hp.le_trans hl4 hl5)) ?_
   rw[Zac];exact hv
 . refine z4j hx.2 (ze (λh1=>z4j hy.2 (ze (λh2=>?_) (λ_=>rfl))) (λ_=>rfl));refine z5p hx.1 hy.1 (op.1.ok (by omega)) (oq.1.ok (by omega)) λz h3 hl3 hz=>?_
   refine zky λw h4 hl4 hw=>hk _ _ (Hp.le_trans hl3 hl4) ?_
   have e:=zex (n:=p.num*q.num) (d:=1) (q:=p*q) (by decide) (Nat.coprime_one_right _) (by
    have:=(z3a (n:=p.num*q.num) hd).1 (Zac p q).symm;rw[h1,h2]at this;simpa using this)
   exact⟨by rw[<-e.1];exact hz.le hl4,by rw[<-e.2];exact hw⟩
theorem Z1u(hx:NR h x p)(hy:NR h y q)(op:BR k p)(oq:BR j q)(hk:k<=400000000000)(hj:j<=400000000000)(H:∀z h',h.le h'->NR h' z (p+q)->KR z h'):zc (F.z6y x y) KR h:=by
 refine zd _ (λK' hk=>?_) H;unfold F.z6y;have hd:((p.den:Nat):Int)*q.den≠0:=Lc (z20 p) (z20 q);refine zh (λ_ h'=>h'=h) ?_ ?_
 . rintro _ h' rfl;refine z5p hx.1 hy.2 (op.1.ok (by omega)) (oq.2.ok (by omega)) λz h3 hl3 hz=>?_
   refine z5p (hy.1.le hl3) (hx.2.le hl3) (oq.1.ok (by omega)) (op.2.ok (by omega)) λw h4 hl4 hw=>?_
   refine zqt (hz.le hl4) hw ((op.1.mul oq.2).ok (by omega)) ((oq.1.mul op.2).ok (by omega)) λs h5 hl5 hs=>?_
   have hl35:=Hp.le_trans hl3 (Hp.le_trans hl4 hl5);refine z5p (hx.2.le hl35) (hy.2.le hl35) (op.2.ok (by omega)) (oq.2.ok (by omega)) λt h6 hl6 ht=>?_
   refine zcc (k:=k+j+1) (hs.le hl6) ht ((op.1.mul oq.2).addm ((oq.1.mul op.2).mono (by omega))) ((op.2.mul oq.2).mono (by omega)) (by omega) hd λv h7 hl7 hv=>hk _ _ (Hp.le_trans hl35 (Hp.le_trans hl6 hl7)) ?_
   rw[Zk2];exact hv
 . refine z4j hx.2 (ze (λh1=>z4j hy.2 (ze (λh2=>?_) (λ_=>rfl))) (λ_=>rfl));refine zqt hx.1 hy.1 (op.1.ok (by omega)) (oq.1.ok (by omega)) λz h3 hl3 hz=>?_
   refine zky λw h4 hl4 hw=>hk _ _ (Hp.le_trans hl3 hl4) ?_
   have e:=zex (n:=p.num+q.num) (d:=1) (q:=p+q) (by decide) (Nat.coprime_one_right _) (by
    have:=(z3a (n:=p.num*q.den+q.num*p.den) hd).1 (Zk2 p q).symm;rw[h1,h2]at this;simpa using this)
   exact⟨by rw[<-e.1];exact hz.le hl4,by rw[<-e.2];exact hw⟩
theorem Z1w(hx:NR h x p)(op:BR k p)(hk:k<=1000000000000)(H:∀z h',h.le h'->NR h' z (-p)->KR z h'):zc (F.z71 x) KR h:=by
 refine zd _ (λK' hk=>?_) H;unfold F.z71;refine zqy hx.1 (op.1.ok (by omega)) λz h1 hl1 hz=>hk _ _ hl1 ⟨?_,?_⟩
 . rw[Rat.neg_num];exact hz
 . rw[Rat.neg_den];exact hx.2.le hl1
theorem Z1v(hx:NR h x p)(hy:NR h y q)(op:BR k p)(oq:BR j q)(hk:k<=400000000000)(hj:j<=400000000000)(h0:q.num≠0)(H:∀z h',h.le h'->NR h' z (p/q)->KE (z,0) h'):zc (F.z6z x y) KE h:=by
 refine zd (λv h'=>NR h' v.1 (p/q)/\v.2=0) (λK' hk=>?_) λ⟨z,c⟩ h' hl ⟨hz,hc⟩=>by
  simp only at hc;subst hc;exact H z h' hl hz
 unfold F.z6z;refine zs8 hy.1 (ze (λh1=>absurd h1 h0) (λ_=>?_));refine z5p hx.1 hy.2 (op.1.ok (by omega)) (oq.2.ok (by omega)) λz h3 hl3 hz=>?_
 refine z5p (hx.2.le hl3) (hy.1.le hl3) (op.2.ok (by omega)) (oq.1.ok (by omega)) λw h4 hl4 hw=>?_
 refine zcc (hz.le hl4) hw (op.1.mul oq.2) (op.2.mul oq.1) (by omega) (Lc (z20 p) h0) λv h5 hl5 hv=>hk _ _ (Hp.le_trans hl3 (Hp.le_trans hl4 hl5)) ⟨?_,rfl⟩
 rw[Zsk];exact hv
end
end Den
end

section
namespace Iv
theorem Zq4{k:Nat}{m:Int}:(k:Int) ∣ m↔k ∣ m.natAbs:=by rw[<-Int.natAbs_dvd_natAbs,Gz]
theorem zyy{x y k:Nat}(h:Nat.Coprime x y)(h1:k ∣ x)(h2:k ∣ y):k=1:=Nat.eq_one_of_dvd_one (by rw[<-h];exact Nat.dvd_gcd h1 h2)
theorem Ze4{a b:Rat}{G1 G2:Nat}(h1:G1=Tu a.num.natAbs b.den)(h2:G2=Tu b.num.natAbs a.den) :
 0<G1/\0<G2/\(G1:Int) ∣ a.num/\(G2:Int) ∣ b.num/\G2 ∣ a.den/\G1 ∣ b.den/\a.num/G1*(b.num/G2)=(a*b).num/\(a.den:Int)/G2*((b.den:Int)/G1)=(a*b).den:=by
 have h10:0<G1:=by rw[h1];exact Nat.gcd_pos_of_pos_right _ b.den_pos
 have h20:0<G2:=by rw[h2];exact Nat.gcd_pos_of_pos_right _ a.den_pos
 have d1:(G1:Int) ∣ a.num:=Zq4.2 (by rw[h1];exact Nat.gcd_dvd_left _ _);have d2:(G2:Int) ∣ b.num:=Zq4.2 (by rw[h2];exact Nat.gcd_dvd_left _ _);have d3:G2 ∣ a.den:=by rw[h2];exact Lk _ _
 have d4:G1 ∣ b.den:=by rw[h1];exact Lk _ _
 refine⟨h10,h20,d1,d2,d3,d4,?_⟩;obtain⟨A,hA⟩:=d1;obtain⟨B,hB⟩:=d2;obtain⟨P,hP⟩:=d3;obtain⟨Q,hQ⟩:=d4;have i1:(G1:Int)≠0:=by omega
 have i2:(G2:Int)≠0:=by omega
 have e1:a.num/G1=A:=by rw[hA];exact T0 _ i1
 have e2:b.num/G2=B:=by rw[hB];exact T0 _ i2
 have e3:(a.den:Int)/G2=P:=by rw[hP,Int.natCast_mul];exact T0 _ i2
 have e4:(b.den:Int)/G1=Q:=by rw[hQ,Int.natCast_mul];exact T0 _ i1
 rw[e1,e2,e3,e4];have n1:a.num.natAbs=G1*A.natAbs:=by rw[hA,Po,Gz]
 have n2:b.num.natAbs=G2*B.natAbs:=by rw[hB,Po,Gz]
 have c1:Nat.Coprime A.natAbs Q:=by
  rw[n1,hQ,Nat.gcd_mul_left]at h1;have:G1*1=G1*Tu A.natAbs Q:=by rw[J7];exact h1
  exact(Nat.eq_of_mul_eq_mul_left h10 this).symm
 have c2:Nat.Coprime B.natAbs P:=by
  rw[n2,hP,Nat.gcd_mul_left]at h2;have:G2*1=G2*Tu B.natAbs P:=by rw[J7];exact h2
  exact(Nat.eq_of_mul_eq_mul_left h20 this).symm
 have c3:Nat.Coprime A.natAbs P:=zyy a.reduced (Nat.dvd_trans (Nat.gcd_dvd_left _ _) ⟨G1,by rw[n1,J8]⟩) (Nat.dvd_trans (Lk _ _) ⟨G2,by rw[hP,J8]⟩);have c4:Nat.Coprime B.natAbs Q:=zyy b.reduced (Nat.dvd_trans (Nat.gcd_dvd_left _ _) ⟨G2,by rw[n2,J8]⟩) (Nat.dvd_trans (Lk _ _) ⟨G1,by rw[hQ,J8]⟩);have hpos:0<(P:Int)*(Q:Int):=by
  have k1:=a.den_pos;have k2:=b.den_pos;rw[hP]at k1;rw[hQ]at k2;have k3:=Nat.pos_of_mul_pos_left k1;have k4:=Nat.pos_of_mul_pos_left k2;exact Int.mul_pos (by omega) (by omega)
 refine zex hpos ?_ ?_
 . rw[<-Int.natCast_mul,Gz,Po];exact Nat.Coprime.mul_left (Nat.Coprime.mul_right c3 c1) (Nat.Coprime.mul_right c2 c4)
 . have h5:=(z3a (n:=a.num*b.num) (q:=a*b) (Lc (z20 a) (z20 b))).1 (Zac a b).symm;generalize (a*b).den=D at *;generalize (a*b).num=N at *;rw[hA,hB,hP,hQ]at h5;simp only[Int.natCast_mul]at h5;have k1:(G1:Int)*A*(G2*B)=G1*(G2*(A*B)):=by rw[Ln,Int.mul_left_comm A]
   have k2:(G2:Int)*P*(G1*Q)=G1*(G2*((P:Int)*Q)):=by
    rw[Ln,Int.mul_left_comm (P:Int),Int.mul_left_comm (G2:Int) (G1:Int)]
   rw[k1,k2]at h5;refine Int.eq_of_mul_eq_mul_left i2 (Int.eq_of_mul_eq_mul_left i1 ?_);rw[<-Ln,<-Ln,Ln (G1:Int),h5,Int.mul_left_comm N,Int.mul_left_comm N]
end Iv
end

section
namespace Den
open Go Iv
section
variable {h : Hp} {m n : Int} {a b : TInt} {x y : TRat} {p q : Rat} {j k : Nat} {Ki : Int → Hp → Prop} {Kb : Bool → Hp → Prop} {KI : TInt → Hp → Prop} {KR : TRat → Hp → Prop} {KE : (TRat × Int) → Hp → Prop}
theorem Zsc(q:Rat):0<(q.den:Int):=by have:=q.den_pos;omega
theorem zaf(q:Rat):((q.den:Nat):Int).natAbs=q.den:=Gz _
theorem Wr(h1:-9223372036854775808<=n)(h2:n<=9223372036854775807)(H:∀z h',h.le h'->NR h' z (n:Rat)->KR z h'):zc (F.Q1 n) KR h:=by
 refine zd _ (λK' hk=>?_) H;unfold F.Q1;refine z5g h1 h2 λz h3 hl3 hz=>z5g (by decide) (by decide) λw h4 hl4 hw=>hk _ _ (Hp.le_trans hl3 hl4) ⟨?_,?_⟩
 . exact hz.le hl4
 . exact hw
theorem zt8(hx:NR h x p)(op:BR k p)(hk:k<=1000000000000)(H:Ki p.num.sign h):zc (F.z4r x) Ki h:=
 zx _ (λK' hk=>by unfold F.z4r;exact zew hx.1 (op.1.ok (by omega)) hk) H
theorem zjz{P G:Nat}:((P:Int)/G).natAbs<=((P:Int)).natAbs:=Ps _ _
theorem zxb(hx:NR h x p)(hy:NR h y q)(op:BR k p)(oq:BR j q)(hk:k<=400000000000)(hj:j<=400000000000)(H:∀z h',h.le h'->NR h' z (p*q)->KR z h'):zc (F.zds x y) KR h:=by
 refine zd _ (λK' hk=>?_) H;unfold F.zds;have op1:=op.1.ok (by omega);have oq1:=oq.1.ok (by omega);have op2:=op.2.ok (by omega);have oq2:=oq.2.ok (by omega);refine zh (λ_ h'=>h'=h) ?_ ?_
 . rintro _ h' rfl;refine zh (λ_ h2=>h2=h') ?_ ?_
   . rintro _ h2 rfl;obtain⟨g1,g2,d1,d2,d3,d4,e1,e2⟩:=Ze4 (a:=p) (b:=q) rfl rfl;refine znw hx.1 hy.2 op1 oq2 λu h3 hl3 hu=>?_
     refine znw (hy.1.le hl3) (hx.2.le hl3) oq1 op2 λv h4 hl4 hv=>?_
     rw[zaf]at hu hv;generalize hG1:Tu p.num.natAbs q.den=G1 at *;generalize hG2:Tu q.num.natAbs p.den=G2 at *;have oG1:Ok (G1:Int):=oq2.le (by rw[Gz,zaf];exact Nat.le_of_dvd q.den_pos d4);have oG2:Ok (G2:Int):=op2.le (by rw[Gz,zaf];exact Nat.le_of_dvd p.den_pos d3);have i1:(G1:Int)≠0:=by omega
     have i2:(G2:Int)≠0:=by omega
     have hl34:=Hp.le_trans hl3 hl4;refine zdu (hx.1.le hl34) (hu.le hl4) op1 oG1 i1 (.inr d1) λr h5 hl5 hr=>?_
     refine zdu (hy.1.le (Hp.le_trans hl34 hl5)) (hv.le hl5) oq1 oG2 i2 (.inr d2) λs h6 hl6 hs=>?_
     have hl56:=Hp.le_trans hl5 hl6;refine zdp (hr.le hl6) hs (op1.le (Ps _ _)) (oq1.le (Ps _ _)) λt h7 hl7 ht=>?_
     have hl57:=Hp.le_trans hl56 hl7;refine zdu (hx.2.le (Hp.le_trans hl34 hl57)) (hv.le hl57) op2 oG2 i2 (.inr (Int.natCast_dvd_natCast.2 d3)) λw h8 hl8 hw=>?_
     have hl58:=Hp.le_trans hl57 hl8;refine zdu (hy.2.le (Hp.le_trans hl34 hl58)) (hu.le (Hp.le_trans hl4 hl58)) oq2 oG1 i1 (.inr (Int.natCast_dvd_natCast.2 d4)) λo h9 hl9 ho=>?_
     refine zdp (hw.le hl9) ho (op2.le zjz) (oq2.le zjz) λe h10 hl10 he=>hk _ _ (Hp.le_trans hl34 (Hp.le_trans hl58 (Hp.le_trans hl9 hl10))) ⟨?_,?_⟩
     . rw[<-e1];exact ht.le (Hp.le_trans hl8 (Hp.le_trans hl9 hl10))
     . rw[<-e2];exact he
   . refine zhg hx.2 (ze (λh1=>zhg hy.2 (ze (λh2=>?_) (λ_=>rfl))) (λ_=>rfl));refine zdp hx.1 hy.1 op1 oq1 λz h3 hl3 hz=>hk _ _ hl3 ?_
     have hd:((p.den:Nat):Int)*q.den≠0:=Lc (z20 p) (z20 q);have e:=zex (n:=p.num*q.num) (d:=1) (q:=p*q) (by decide) (Nat.coprime_one_right _) (by
      have:=(z3a (n:=p.num*q.num) hd).1 (Zac p q).symm;rw[h1,h2]at this;simpa using this)
     exact⟨by rw[<-e.1];exact hz,by rw[<-e.2,<-h1];exact hx.2.le hl3⟩
 . rw[hx.1.len0,hy.1.len0];refine ze (λh1=>?_) (λh1=>ze (λh2=>?_) (λh2=>rfl))
   . refine Wr (by decide) (by decide) λz h3 hl3 hz=>hk _ _ hl3 ?_
     rw[Rat.num_eq_zero.1 h1,Rat.zero_mul];exact hz
   . refine Wr (by decide) (by decide) λz h3 hl3 hz=>hk _ _ hl3 ?_
     rw[Rat.num_eq_zero.1 h2,Rat.mul_zero];exact hz
theorem Zdz{q:Rat}(h0:q.num≠0):(q.num<0->-(q.den:Int)=(q⁻¹).num/\-q.num=(q⁻¹).den)/\(¬q.num<0->(q.den:Int)=(q⁻¹).num/\q.num=(q⁻¹).den):=by
 have h1:=(z3a (n:=q.den) (q:=q⁻¹) h0).1 (Rat.inv_def q).symm;constructor
 . intro h2;refine zex (by omega) ?_ ?_
   . rw[Int.natAbs_neg,Int.natAbs_neg,Gz];exact Nat.Coprime.symm q.reduced
   . rw[Int.neg_mul,Int.mul_neg,h1]
 . intro h2;refine zex (by omega) ?_ h1;rw[Gz];exact Nat.Coprime.symm q.reduced
theorem BR.inv{q:Rat}(oq:BR k q)(h0:q.num≠0):BR k q⁻¹:=by
 have h1:=Zdz h0;by_cases h2:q.num<0
 . have:=h1.1 h2;exact⟨by rw[<-this.1];exact oq.2.neg,by rw[<-this.2];exact oq.1.neg⟩
 . have:=h1.2 h2;exact⟨by rw[<-this.1];exact oq.2,by rw[<-this.2];exact oq.1⟩
theorem Zim{m n:Nat}(h:dg m=dg n):m=n:=by rw[<-Zt m,<-Zt n,h]
end
end Den
end

section
namespace Iv
open Den
end Iv
namespace Den
open Go Iv
section
variable {h : Hp} {m n : Int} {a b : TInt} {x y : Sl} {l : List Nat} {j k : Nat} {Ks : Sl → Hp → Prop} {Ki : Int → Hp → Prop} {Kb : Bool → Hp → Prop} {KI : TInt → Hp → Prop} {KE : (TInt × Int) → Hp → Prop}
end
end Den
end

section
namespace Iv
open Den
end Iv
namespace Den
open Go Iv
section
variable {h : Hp} {a : TInt} {KE : (TInt × Int) → Hp → Prop}
end
end Den
end

section
namespace Den
open Go Iv
theorem zc3{α:Type}{c:α->List Value}{n:Nat}(hc:∀x,(c x).length=n):∀{xs:List α} {k j:Nat} (hk:k<xs.length),j<n->(xs.flatMap c)[k*n+j]?=(c xs[k])[j]?
 | [],k,j,hk,_=>by simp at hk
 | x :: r,0,j,hk,hj=>by
   rw[Ur,Pn,Gi,List.getElem?_append_left (by rw[hc];exact hj)];rfl
 | x :: r,k+1,j,hk,hj=>by
   rw[Ur,List.getElem?_append_right (by rw[hc,Js];omega),hc];have:(k+1)*n+j-n=k*n+j:=by rw[Js];omega
   rw[this,zc3 hc (by simpa using hk) hj];rfl
theorem Xc{α:Type}{c:α->List Value}{n:Nat}(hc:∀x,(c x).length=n)(xs:List α):(xs.flatMap c).length=xs.length*n:=by
 induction xs with
 | nil=>simp
 | cons x r ih=>rw[Ur,Je,hc,ih,List.length_cons,Js];omega
def qc(x:TRat):List Value:=[.bool x.num.neg,.slice x.num.mag.a x.num.mag.len x.num.mag.cap,.bool x.den.neg,.slice x.den.mag.a x.den.mag.len x.den.mag.cap]
theorem zx0(x:TRat):(qc x).length=4:=rfl
abbrev RdQ(h:Hp)(l:Sl)(xs:List TRat):Prop:=Rd h 4 l (xs.flatMap qc)
theorem RdQ.len{h:Hp}{l:Sl}{xs:List TRat}(hr:RdQ h l xs):l.len=xs.length:=by
 have:=hr.1;rw[Xc zx0]at this;omega
theorem zlg{h:Hp}{l:Sl}{xs:List TRat}{i:Int}{K:Bool->Sl->Bool->Sl->Prop}(k:Nat)(hr:RdQ h l xs)(hi:i=k)(hk:k<xs.length)
 (H:K xs[k].num.neg xs[k].num.mag xs[k].den.neg xs[k].den.mag) :
 zg l i 4 λa=>ldL .bool (a.add 0) (λx0=>ldL .sl (a.add 1) (λx1=>ldL .bool (a.add 2) (λx2=>ldL .sl (a.add 3) (λx3=>K x0 x1 x2 x3) h) h) h) h:=by
 refine zpf k hr hi (by rw[hr.len];exact hk) (by decide) λa ha=>?_
 have g:∀j v,j<4->(qc xs[k])[j]?=some v->h.cell (a.add j)=some v:=λj v hj hv=>ha j v (by rw[zc3 zx0 hk hj];exact hv)
 exact⟨_,g 0 _ (by decide) rfl,_,g 1 _ (by decide) rfl,_,g 2 _ (by decide) rfl,_,g 3 _ (by decide) rfl,H⟩
def QL(h:Hp)(B:Nat)(xs:List TRat)(vs:List Rat):Prop:=xs.length=vs.length/\∀k (h1:k<xs.length) (h2:k<vs.length),NR h xs[k] vs[k]/\BR B vs[k]
theorem QL.le{h h':Hp}{B:Nat}{xs:List TRat}{vs:List Rat}(hq:QL h B xs vs)(hl:h.le h'):QL h' B xs vs:=⟨hq.1,λk h1 h2=>⟨(hq.2 k h1 h2).1.le hl,(hq.2 k h1 h2).2⟩⟩
def hiS(m x:Rat):Rat:=if m<x then x else m
abbrev q4(s:Bool×Sl×Bool×Sl×Unit):TRat:=⟨⟨s.1,s.2.1⟩,⟨s.2.2.1,s.2.2.2.1⟩⟩
section
variable {h : Hp} {l : Sl} {B : Nat} {xs : List TRat} {vs : List Rat} {v0 : Rat} {KV : TInterval → Hp → Prop}
end
end Den
end

section
namespace Den
open Go Iv
theorem zgu{α:Type}{G:(α->Hp->Prop)->Hp->Prop}{K1 K:α->Hp->Prop}{D h:Hp}(hD:D.le h)(H:zc G K1 D)
 (k:∀v D' h',D.le D'->D'.le h'->(∀j,D j=none->h j≠none->D' j=none/\h' j=h j)->K1 v D'->K v h'):zc G K h:=by
 obtain⟨O,hO⟩:∃O:Hp,O=λj=>match D j with | none=>h j | some _=>none:=⟨_,rfl⟩
 have e:h=D.add O:=by
  funext j;unfold Hp.add;rw[hO];cases hj:D j with
  | none=>simp[hj]
  | some b=>simp[hD j b hj]
 have hdj:D.dj O:=λj=>by
  cases hj:D j with
  | none=>exact .inl rfl
  | some b=>right;rw[hO];simp[hj]
 rw[e];refine zrd hdj H λv D' hl hdj' hk=>k v D' _ hl (Hp.le_add _ _) (λj h1 h2=>?_) hk
 have e2:h j=O j:=by rw[hO];simp[h1]
 rw[e2]at h2 |-
 have h3:D' j=none:=by
  rcases hdj' j with h4 | h4
  . exact h4
  . exact absurd h4 h2
 exact⟨h3,by unfold Hp.add;rw[h3]⟩
theorem Own.move{D h D' h':Hp}{n:Nat}{l:Sl}{cs:List Value}(ho:Own D h n l cs)(h1:D'.le h')(hfr:∀j,D j=none->h j≠none->D' j=none/\h' j=h j):Own D' h' n l cs:=by
 obtain⟨g1,g2,g3,g4⟩:=ho;refine⟨h1,g2,g3,?_⟩;cases ha:l.a with
 | none=>rw[ha]at g4;exact g4
 | some a=>
   rw[ha]at g4;obtain⟨k1,k2,k3,b,k4,k5⟩:=g4;have:=hfr a.block k3 (by rw[k4];simp);exact⟨k1,k2,this.1,b,by rw[this.2];exact k4,k5⟩
theorem Own.call{α:Type}{G:(α->Hp->Prop)->Hp->Prop}{K1 K:α->Hp->Prop}{D h:Hp}{n:Nat}{l:Sl}{cs:List Value}(ho:Own D h n l cs)(H:zc G K1 D)
 (k:∀v D' h',D.le D'->Own D' h' n l cs->K1 v D'->K v h'):zc G K h:=
 zgu ho.1 H λv D' h' h1 h2 h3 h4=>k v D' h' h1 (ho.move h2 h3) h4
def Apt(x y:Sl):Prop:=∀a b,x.a=some a->y.a=some b->a.block≠b.block
theorem Apt.symm{x y:Sl}(h:Apt x y):Apt y x:=λa b h1 h2=>(h b a h2 h1).symm
theorem Za0{D h h':Hp}{n:Nat}{l x:Sl}{cs:List Value}(ho:Own D h n l cs)(hap:Apt x l)(hl:D.le h')(hs:∀j,(∀a,x.a=some a->j≠a.block)->h' j=h j):Own D h' n l cs:=by
 obtain⟨g1,g2,g3,g4⟩:=ho;refine⟨hl,g2,g3,?_⟩;cases ha:l.a with
 | none=>rw[ha]at g4;exact g4
 | some a=>
   rw[ha]at g4;obtain⟨k1,k2,k3,b,k4,k5⟩:=g4;exact⟨k1,k2,k3,b,by rw[hs a.block λc hc=>(hap c a hc ha).symm];exact k4,k5⟩
theorem zzs{h0 h:Hp}{size:Nat}{x:Sl}{cs vs:List Value}{i:Int}{K:Hp->Prop}(k:Nat)(ho:Own h0 h size x cs)(hi:i=k)(hk:k<x.len)(hv:vs.length=size)(hsz:0<size)(hleaf:vs.all Gq=true)
 (H:∀h',Own h0 h' size x (Zc cs (k*size) vs)->(∀j,(∀a,x.a=some a->j≠a.block)->h' j=h j)->K h'):zg x i size λa=>stP a vs K h:=by
 subst hi;obtain⟨h1,h2,h3,h4⟩:=ho;refine⟨by omega,by omega,?_⟩;cases ha:x.a with
 | none=>rw[ha]at h4;simp only at h4;omega
 | some a=>
   rw[ha]at h4;obtain⟨g1,g2,g3,b,g4,g5,g6,g7⟩:=h4;have e0:((k:Int).toNat)=k:=rfl;have e1:k*size+size<=cs.length:=by
    rw[<-h2];have:=Jj size (show k+1<=x.len by omega);rw[Js]at this;omega
   have e2:cs.length<=b.cells.length:=by rw[g6,<-h2];exact Jj _ h3
   show Ye (some a) _;simp only[Ye,e0];refine⟨b,by rw[Yr];exact g4,z0e g2 _,g5,by rw[X4];omega,hleaf,?_⟩;rw[Yr,X4,g1,Gi];refine H _ ⟨?_,?_,h3,?_⟩ λj hj=>?_
   . intro kk bk hkk;rw[Hp.ins_ne (λhh=>by subst hh;rw[g3]at hkk;cases hkk)];exact h1 kk bk hkk
   . rw[Yj (by omega)];exact h2
   . rw[ha];refine⟨g1,g2,g3,_,Hp.ins_same _ _ _,g5,?_,?_⟩
     . show(Zc b.cells (k*size) vs).length=_;rw[Yj (by omega)];exact g6
     . show(Zc b.cells (k*size) vs).take _=_;rw[Yj (by omega)];exact zcz (by omega) g7
   . exact Hp.ins_ne (hj a ha)
section
variable {α : Type} {c : α → List Value} {n : Nat}
theorem zi5(hc:∀x,(c x).length=n){x:α}:∀{xs:List α} {k:Nat},k<xs.length->Zc (xs.flatMap c) (k*n) (c x)=(xs.set k x).flatMap c
 | [],k,h=>by simp at h
 | y :: r,0,h=>by
   unfold Zc;simp only[Pn,List.take_zero,Tf,Gi,List.set_cons_zero,Ur,hc];congr 1;rw[<-hc y,List.drop_left]
 | y :: r,k+1,h=>by
   have ih:=zi5 hc (x:=x) (xs:=r) (k:=k) (by simpa using h);unfold Zc at ih |-
   rw[hc]at ih |-
   have e1:(k+1)*n=n+k*n:=by rw[Js];omega
   have e2:n+k*n+n=n+(k*n+n):=by omega
   simp only[Ur,List.set_cons_succ];rw[e1,e2,<-ih];have e3:∀j,(c y++r.flatMap c).take (n+j)=c y++(r.flatMap c).take j:=λj=>by
    rw[Ph,hc,To,Jd (by rw[hc];omega)]
   have e4:∀j,(c y++r.flatMap c).drop (n+j)=(r.flatMap c).drop j:=λj=>by
    rw[List.drop_append,hc,To,List.drop_of_length_le (by rw[hc];omega),Tf]
   rw[e3,e4];simp[Uq]
theorem Own.flen(hc:∀x,(c x).length=n)(hn:0<n){D h:Hp}{l:Sl}{xs:List α}(ho:Own D h n l (xs.flatMap c)):l.len=xs.length:=by
 have:=ho.2.1;rw[Xc hc]at this;exact Gn hn this
theorem zq9(hc:∀x,(c x).length=n)(hn:0<n){D h:Hp}{l:Sl}{xs:List α}{x:α}{i:Int}{K:Hp->Prop}(k:Nat)(ho:Own D h n l (xs.flatMap c))(hi:i=k)(hk:k<xs.length)(hleaf:(c x).all Gq=true)
 (H:∀h',Own D h' n l ((xs.set k x).flatMap c)->(∀j,(∀a,l.a=some a->j≠a.block)->h' j=h j)->K h'):zg l i n λa=>stP a (c x) K h:=by
 refine zzs k ho hi (by rw[ho.flen hc hn];exact hk) (hc x) hn hleaf λh' h1 h2=>H h' ?_ h2
 rw[zi5 hc hk]at h1;exact h1
end
theorem QL.mono{h:Hp}{B C:Nat}{xs:List TRat}{vs:List Rat}(hq:QL h B xs vs)(hB:B<=C):QL h C xs vs:=⟨hq.1,λk h1 h2=>⟨(hq.2 k h1 h2).1,(hq.2 k h1 h2).2.mono hB⟩⟩
theorem QL.bound{h:Hp}{B:Nat}{xs:List TRat}{vs:List Rat}(hq:QL h B xs vs):∀v∈vs,BR B v:=λv hv=>by
 obtain⟨i,hi,rfl⟩:=Gh.1 hv;exact(hq.2 i (by rw[hq.1];exact hi) hi).2
def PL(h:Hp)(B:Nat)(l:Sl)(p:List Rat):Prop:=∃xs,RdQ h l xs/\QL h B xs p/\l.len<=l.cap
section
variable {D h h' h0 : Hp} {B : Nat} {l : Sl} {p : List Rat}
theorem PL.le(hp:PL h B l p)(hl:h.le h'):PL h' B l p:=by
 obtain⟨xs,h1,h2,h3⟩:=hp;exact⟨xs,h1.le hl,h2.le hl,h3⟩
theorem PL.mono{C:Nat}(hp:PL h B l p)(hB:B<=C):PL h C l p:=by
 obtain⟨xs,h1,h2,h3⟩:=hp;exact⟨xs,h1,h2.mono hB,h3⟩
theorem PL.len(hp:PL h B l p):l.len=p.length:=by
 obtain⟨xs,h1,h2,h3⟩:=hp;rw[RdQ.len h1,h2.1]
theorem PL.bound(hp:PL h B l p):∀v∈p,BR B v:=by obtain⟨xs,h1,h2,h3⟩:=hp;exact h2.bound
theorem PL.get{i:Int}{K:Bool->Sl->Bool->Sl->Prop}(k:Nat)(hp:PL h B l p)(hi:i=k)(hk:k<p.length)
 (H:∀x:TRat,NR h x p[k]->BR B p[k]->K x.num.neg x.num.mag x.den.neg x.den.mag) :
 zg l i 4 λa=>ldL .bool (a.add 0) (λx0=>ldL .sl (a.add 1) (λx1=>ldL .bool (a.add 2) (λx2=>ldL .sl (a.add 3) (λx3=>K x0 x1 x2 x3) h) h) h) h:=by
 obtain⟨xs,h1,h2,h3⟩:=hp;have hk':k<xs.length:=by rw[h2.1];exact hk
 have:=h2.2 k hk' hk;exact zlg k h1 hi hk' (H _ this.1 this.2)
end
end Den
end

section
namespace Den
open Go Iv
theorem yg{body:(Int×Unit)->((Int×Unit)->Hp->Prop)->Hp->Prop}{h0:Hp}{n:Nat}(hn:n<=140737488355328)(I:Nat->Hp->Prop)(h:I 0 h0)
 (step:∀i h,i<=n->I i h->∀k,(∀h',i<n->I (i+1) h'->k (i64.wrap ((i:Int)+1),()) h')->body ((i:Int),()) k h):zn body (0,()) h0:=by
 refine Zp (λst h'=>∃i:Nat,st.1=(i:Int)/\i<=n/\I i h') (λst=>(n-st.1).toNat) ⟨0,rfl,Ga _,h⟩ ?_;rintro⟨_,_⟩ h' ⟨i,rfl,hi,hI⟩;refine step i h' hi hI _ λh2 hlt hI2=>⟨⟨i+1,?_,hlt,hI2⟩,?_⟩
 . simp only;rw[w64 (by omega)];rfl
 . simp only;rw[w64 (by omega)];omega
theorem Yq{α:Type}{body:(α×Int×Unit)->((α×Int×Unit)->Hp->Prop)->Hp->Prop}{a0:α}{h0:Hp}{n:Nat}(hn:n<=140737488355328)(I:Nat->α->Hp->Prop)(h:I 0 a0 h0)
 (step:∀i a h,i<=n->I i a h->∀k,(∀a' h',i<n->I (i+1) a' h'->k (a',i64.wrap ((i:Int)+1),()) h')->body (a,(i:Int),()) k h):zn body (a0,0,()) h0:=by
 refine Zp (λst h'=>∃i:Nat,st.2.1=(i:Int)/\i<=n/\I i st.1 h') (λst=>(n-st.2.1).toNat) ⟨0,rfl,Ga _,h⟩ ?_;rintro⟨a,_,_⟩ h' ⟨i,rfl,hi,hI⟩;refine step i a h' hi hI _ λa2 h2 hlt hI2=>⟨⟨i+1,?_,hlt,hI2⟩,?_⟩
 . simp only;rw[w64 (by omega)];rfl
 . simp only;rw[w64 (by omega)];omega
theorem zle{α:Type}{c:α->List Value}{n:Nat}{h:Hp}{l:Sl}{xs:List α}{i:Int}{K:Addr->Prop}(hc:∀x,(c x).length=n)(hn:0<n)(hr:Rd h n l (xs.flatMap c))(k:Nat)(hi:i=k)(hk:k<xs.length)
 (H:∀a,(∀j v,j<n->(c xs[k])[j]?=some v->h.cell (a.add j)=some v)->K a):zg l i n K:=by
 have hl:l.len=xs.length:=by
  have:=hr.1;rw[Xc hc]at this;exact Gn hn this
 exact zpf k hr hi (by omega) hn λa ha=>H a λj v hj hv=>ha j v (by rw[zc3 hc hk hj];exact hv)
def ic(z:Int):Value:=.int .i64 z
def IL(h:Hp)(l:Sl)(xs:List Int):Prop:=Rd h 1 l (xs.map ic)/\l.len<=l.cap
def OI(D h:Hp)(l:Sl)(xs:List Int):Prop:=Own D h 1 l (xs.map ic)
section
variable {D h h' : Hp} {l m : Sl} {xs ys : List Int} {n : Int} {Kb : Bool → Hp → Prop} {Ki : Int → Hp → Prop} {Ks : Sl → Hp → Prop}
theorem IL.le(hx:IL h l xs)(hl:h.le h'):IL h' l xs:=⟨hx.1.le hl,hx.2⟩
theorem IL.len(hx:IL h l xs):l.len=xs.length:=by have:=hx.1.1;simp at this;omega
theorem IL.nil:IL h zf []:=⟨Rd.nil,Ja _⟩
theorem IL.get{i:Int}{K:Int->Prop}(hx:IL h l xs)(k:Nat)(hi:i=k)(hk:k<xs.length)(H:K xs[k]):zg l i 1 λa=>ldL (.int .i64) a K h:=by
 refine zlf k hx.1 hi (v:=ic xs[k]) (by rw[Uw,Jc hk];rfl) λa ha=>⟨xs[k],ha,H⟩
theorem IL.cut(hx:IL h l xs){n:Nat}(hn:n<=xs.length):IL h (l.cut 0 n 1) (xs.take n):=by
 have hl:=hx.len;have hc:=hx.2;refine⟨⟨?_,?_⟩,?_⟩
 . show(n-0)*1=_;simp;omega
 . have e:((xs.take n).map ic).length=n:=by simp;omega
   rw[e];have h2:=hx.1.2;have ea:(l.cut 0 n 1).a=l.a:=by
    show(if l.cap=0 then l.a else l.a.map (·.add (0*1)))=l.a;split
    . rfl
    . cases l.a with
      | none=>rfl
      | some a=>simp only[U0,Pn,Zw]
   rw[ea];cases ha:l.a with
   | some a=>
     rw[ha]at h2;have key:∀{m n:Nat} {L:List Value},Z3 h a m=some L->n<=m->Z3 h a n=some (L.take n):=by
      intro m;induction m with
      | zero=>
        intro n L e hn;have:n=0:=by omega
        subst this;simp[Z3]
      | succ m ih=>
        intro n L e hn;have hl:=z33 e;by_cases h1:n=m+1
        . subst h1;rw[e,Jd (by omega)]
        . unfold Z3 at e;split at e
          . rename_i l1 h2;split at e
            . rename_i v hv;simp only[Jm]at e;subst e;have h3:=z33 h2;rw[ih h2 (show n<=m by omega),Jx (by omega)]
            . cases e
          . cases e
     have:=key h2 (n:=n) (by simp;omega);show Z3 h a n=_;rw[this,List.map_take]
   | none=>
     rw[ha]at h2;simp only[yc]at h2 |-
     split at h2
     . rename_i h5;simp only[Jm]at h2;have:n=0:=by simp at h5;subst h5;simp at hn;omega
       subst this;simp
     . cases h2
 . show n-0<=l.cap-0;omega
theorem OI.il(ho:OI D h l xs):IL h l xs:=⟨ho.rd,ho.2.2.1⟩
theorem OI.dle(ho:OI D h l xs):D.le h:=ho.1
theorem OI.nil:OI h h zf []:=Own.nil (Hp.le_refl _)
theorem OI.app{x:Int}(ho:OI D h l xs)(hlen:xs.length<=1000000)(H:∀y h',OI D h' y (xs++[x])->Ks y h'):ql 1 8 [.int .i64 0] l 1 [.int .i64 x] Ks h:=by
 have hl:=ho.il.len;refine z54 ho (n:=1) (new:=[ic x]) rfl rfl rfl (by omega) (by omega) λy h' hy _=>H y h' ?_
 unfold OI;rw[List.map_append];exact hy
theorem zkj(hx:IL h l xs)(hlen:xs.length<=1000000)(H:∀r h',h.le h'->(0<=r↔n∈xs)->Ki r h'):zc (F.Xt l n) Ki h:=by
 refine zd (λr h'=>(0<=r↔n∈xs)) (λK' hk=>?_) λb h' hl hb=>H b h' hl hb
 unfold F.Xt;have hl:=hx.len;refine yg (n:=xs.length) (by omega) (λi h'=>h'=h/\n∉xs.take i) ⟨rfl,by simp⟩ ?_;rintro i _ hi ⟨rfl,hno⟩ k hk2;refine ze (λh1=>?_) (λh1=>?_)
 . have hi':i<xs.length:=by simp only at h1;omega
   refine hx.get i rfl hi' ?_;refine zu (λh2=>hk _ _ (Hp.le_refl _) ⟨λ_=>?_,λ_=>by simp only;omega⟩) (λh2=>hk2 _ hi' ⟨rfl,?_⟩)
   . rw[h2];exact Jh _
   . rw[<-Jk hi',Ub,J6];rintro(h3 | h3)
     . exact hno h3
     . exact h2 h3
 . refine hk _ _ (Hp.le_refl _) ⟨λhh=>by omega,λhh=>?_⟩;have:i=xs.length:=by simp only at h1;omega
   subst this;rw[Jw]at hno;exact absurd hh hno
theorem Qz(hx:IL h l xs)(hlen:xs.length<=1000000)(H:∀h',h.le h'->Kb (decide (n∈xs)) h'):zc (F.Zh l n) Kb h:=by
 refine zd (λb h'=>b=decide (n∈xs)) (λK' hk=>?_) λb h' hl hb=>by subst hb;exact H h' hl
 unfold F.Zh;refine zkj hx hlen λr h' hl hr=>hk _ _ hl ?_
 by_cases hm:n∈xs
 . rw[decide_eq_true hm,decide_eq_true (hr.2 hm)]
 . rw[decide_eq_false hm,decide_eq_false λhh=>hm (hr.1 hh)]
theorem ztc(hx:IL h l xs)(hy:IL h m ys)(hlen:xs.length<=1000000)(H:∀h',h.le h'->Kb (decide (xs=ys)) h'):zc (F.zct l m) Kb h:=by
 refine zd (λb h'=>b=decide (xs=ys)) (λK' hk=>?_) λb h' hl hb=>by subst hb;exact H h' hl
 unfold F.zct;have hl:=hx.len;have hm:=hy.len;refine Z2 (λh1=>hk _ _ (Hp.le_refl _) ?_) (λh1=>?_)
 . rw[eq_comm,decide_eq_false_iff_not];rintro rfl;omega
 have hl2:xs.length=ys.length:=by omega
 refine yg (n:=xs.length) (by omega) (λi h'=>h'=h/\xs.take i=ys.take i) ⟨rfl,by simp⟩ ?_;rintro i _ hi ⟨rfl,heq⟩ k hk2;refine ze (λh2=>?_) (λh2=>?_)
 . have hi':i<xs.length:=by simp only at h2;omega
   refine hx.get i rfl hi' (hy.get i rfl (by omega) ?_);refine Z2 (λh3=>hk _ _ (Hp.le_refl _) ?_) (λh3=>hk2 _ hi' ⟨rfl,?_⟩)
   . rw[eq_comm,decide_eq_false_iff_not];rintro rfl;exact h3 rfl
   . rw[<-Jk hi',<-Jk (show i<ys.length by omega),heq,h3]
 . have:i=xs.length:=by simp only at h2;omega
   subst this;refine hk _ _ (Hp.le_refl _) ?_;rw[Jw,hl2,Jw]at heq;rw[eq_comm,decide_eq_true_iff];exact heq
theorem zi7(hx:IL h l xs)(hlen:xs.length<=1000000)(H:∀y h',OI h h' y xs->Ks y h'):zc (F.Xr l) Ks h:=by
 refine zd (λy h'=>OI h h' y xs) (λK' hk=>?_) λb h' _ hb=>H b h' hb
 unfold F.Xr;have hl:=hx.len;cases ha:l.a with
 | none=>
   refine Z4 rfl ?_;have h2:=hx.1.2;rw[ha]at h2;simp only[yc]at h2;split at h2
   . rename_i h5;have:xs=[]:=by simpa using h5
     subst this;exact hk _ _ (Hp.le_refl _) OI.nil
   . cases h2
 | some a=>
   refine zr rfl ?_;rw[<-ha];intro b el hb;refine⟨xs.map ic,?_,?_⟩
   . have:=zbq (Hp.le_ins hb (b:=⟨[],el,(0,0)⟩)) hx.1.2;rw[List.length_map]at this;rw[hl,J7];exact this
   . have ho:Own h (h.ins b ⟨[],el,(0,0)⟩) 1 ⟨some ⟨b,0,none⟩,0,0⟩ []:=⟨Hp.le_ins hb,rfl,Ja _,rfl,rfl,hb,_,Hp.ins_same _ _ _,rfl,rfl,rfl⟩;refine z54 ho (n:=l.len) (new:=xs.map ic) (by simp[hl]) rfl (by simp[ic,Gq]) (by simp only;omega) (by simp only;omega) λy h' hy _=>?_
     rw[Tf]at hy;exact hk _ _ hy.1 hy
end
end Den
end

section
namespace Lx
abbrev B:=List UInt8
def isL(c:UInt8):Bool:=(97<=c&&c<=122)||(65<=c&&c<=90)
def isD(c:UInt8):Bool:=48<=c&&c<=57
def isW(c:UInt8):Bool:=isL c||isD c||c==95
def spn(p:UInt8->Bool):B->Nat
 | []=>0
 | c :: r=>if p c=true then spn p r+1 else 0
def num(l:B):Nat:=
 match l.drop (spn isD l)with
 | []=>spn isD l
 | c :: r=>if c=46/\0<spn isD r then spn isD l+1+spn isD r else spn isD l
def qs:Nat->B->Option (Nat×B)
 | 0,_=>none
 | _,[]=>none
 | f+1,c :: r=>
   if c<32 then none else if c=34 then some (1,[])
   else if c=92 then
    match r with
    | []=>none
    | d :: r'=>if d=34\/d=92\/d=110 then (qs f r').map λp=>(p.1+2,(if d=110 then 10 else d) :: p.2)else none
   else (qs f r).map λp=>(p.1+1,c :: p.2)
def quo(l:B):Option (Nat×B):=
 match l with
 | []=>none
 | c :: r=>if c=34 then (qs (r.length+1) r).map λp=>(p.1+1,p.2)else none
def zmj(l:B):Bool:=
 match l with
 | []=>false
 | c :: r=>decide ((c :: r).length<=24)&&isL c&&(spn isW (c :: r)==(c :: r).length)
def zir(l:B):Nat:=match l with | []=>0 | c :: _=>if isL c=true then spn isW l else 0
end Lx
end

section
namespace Den
open Go Lx
theorem zh3{l:List UInt8}{k:Nat}{c:UInt8}{r:List UInt8}(h:l.drop k=c :: r):l.drop (k+1)=r/\k<l.length:=by
 have h2:(l.drop k).length=r.length+1:=by rw[h];rfl
 rw[Gg]at h2;refine⟨?_,by omega⟩;rw[<-T7,h];rfl
theorem Ze1(c:UInt8):isL c=((decide ((c.toNat:Int)>=97)&&decide ((c.toNat:Int)<=122))||(decide ((c.toNat:Int)>=65)&&decide ((c.toNat:Int)<=90))):=by
 rw[Bool.eq_iff_iff];simp[isL,UInt8.le_iff_toNat_le];omega
theorem Ze0(c:UInt8):isD c=(decide ((c.toNat:Int)>=48)&&decide ((c.toNat:Int)<=57)):=by
 rw[Bool.eq_iff_iff];simp[isD,UInt8.le_iff_toNat_le];omega
theorem Zhk{c:UInt8}{n:Nat}(hn:n<256):(c.toNat:Int)=(n:Int)↔c=UInt8.ofNat n:=by
 rw[<-UInt8.toNat_inj];simp;omega
section
variable {K : Bool → Hp → Prop} {Ki : Int → Hp → Prop} {h : Hp} {c : UInt8} {s : ByteArray}
theorem zc6(H:K (isL c) h):F.z0y c.toNat K h:=by
 rw[Ze1]at H;unfold F.z0y;generalize decide ((c.toNat:Int)>=97)=a1 at H |-
 generalize decide ((c.toNat:Int)<=122)=a2 at H |-
 generalize decide ((c.toNat:Int)>=65)=a3 at H |-
 cases a1<;>cases a2<;>cases a3<;>exact H
theorem zkk(H:K (isD c) h):F.z2i c.toNat K h:=by
 rw[Ze0]at H;unfold F.z2i;generalize decide ((c.toNat:Int)>=48)=a1 at H |-
 cases a1<;>exact H
theorem Z19(H:K (isW c) h):F.z6u c.toNat K h:=by
 unfold F.z6u;refine zx (isL c) (λK'=>zc6) ?_;unfold isW at H;cases h1:isL c
 . show zc (F.z2i ↑c.toNat) (λr2 h2=>ifP r2 (K true h2) (K ((c.toNat:Int)==95) h2)) h;refine zx (isD c) (λK'=>zkk) ?_;rw[h1]at H;cases h2:isD c
   . rw[h2]at H;have:((c.toNat:Int)==95)=(c==95):=by
      rw[Bool.eq_iff_iff];simp only[beq_iff_eq];exact Zhk (n:=95) (by decide)
     show K ((c.toNat:Int)==95) h;rw[this];exact H
   . rw[h2]at H;exact H
 . rw[h1]at H;exact H
theorem zqf(hs:s.size<=1000000)(H:Ki (spn isW (BS s)) h):F.Xw s Ki h:=by
 unfold F.Xw;refine Zp (λst h'=>h'=h/\∃k:Nat,st=((k:Int),())/\spn isW (BS s)=k+spn isW ((BS s).drop k)) (λst=>((s.size:Int)-st.1).toNat) ⟨rfl,0,rfl,by simp⟩ ?_;rintro st h' ⟨rfl,k,rfl,hk⟩;refine zs9 (ze (λh1=>?_) (λh1=>?_))
 . cases hd:(BS s).drop k with
   | nil=>have:=List.drop_eq_nil_iff.1 hd;rw[Vg]at this;simp only at h1;omega
   | cons c r=>
     obtain⟨h2,h3⟩:=zh3 hd;rw[Vg]at h3;refine z19 hd rfl (zx (isW c) (λK'=>Z19) (zi (λh4=>?_) (λh4=>?_)))
     . simp only at h1;refine⟨⟨rfl,k+1,by simp only;rw[w64 (by omega)];rfl,?_⟩,by simp only;rw[w64 (by omega)];omega⟩;rw[h2,hk,hd];simp only[spn,h4,if_true];omega
     . rw[hk,hd]at H;simp only[spn,h4]at H;simpa using H
 . have hd:(BS s).drop k=[]:=by apply Uu;rw[Vg];simp only at h1;omega
   rw[hk,hd]at H;simpa [spn] using H
end
end Den
end

section
namespace Den
open Go Lx
section
variable {Kp : Int × Int → Hp → Prop} {Kt : Sl × Int × Int → Hp → Prop} {K : Bool → Hp → Prop} {h : Hp} {s : ByteArray}
theorem ze6:(Y3:ByteArray).toList=[]:=by rw[z4g];rfl
theorem znh{A B:Prop}(hA:BS s≠[]->A)(hB:BS s=[]->B):ifP (!((s:ByteArray).toList==(Y3:ByteArray).toList)) A B:=by
 rw[ze6,z4g];refine zi (λhh=>hA ?_) (λhh=>hB ?_)
 . intro h0;rw[h0]at hh;cases hh
 . simpa using hh
theorem Z07(H:K (zmj (BS s)) h):F.z1k s K h:=by
 unfold F.z1k;refine znh (λh1=>?_) (λh1=>by rw[h1]at H;exact H);cases hd:BS s with
 | nil=>exact absurd hd h1
 | cons c r=>
   have hl:s.size=(c :: r).length:=by rw[<-Vg,hd]
   rw[hd]at H;unfold zmj at H;simp only at H;refine ze (λh2=>?_) (λh2=>?_)
   . rw[decide_eq_true (show(c :: r).length<=24 by omega)]at H;refine z19 (k:=0) (by rw[Tw];exact hd) rfl (zx (isL c) (λK'=>zc6) (zi (λh3=>?_) (λh3=>?_)))
     . rw[h3]at H;refine zx _ (λK'=>zqf (by omega)) ?_;have:((spn isW (BS s):Int)==(s.size:Int))=(spn isW (c :: r)==(c :: r).length):=by
        rw[Bool.eq_iff_iff];simp only[beq_iff_eq];rw[hd,hl];omega
       rw[this];simpa using H
     . rw[h3]at H;simpa using H
   . rw[decide_eq_false (show ¬(c :: r).length<=24 by omega)]at H;exact H
end
end Den
end

section
namespace Den
open Go Lx
section
variable {Kp : Int × ByteArray → Hp → Prop} {Kt : Sl × Int × Int → Hp → Prop} {K : Bool → Hp → Prop} {Ki : Int → Hp → Prop} {h : Hp} {s : ByteArray} {c : UInt8} {p : Nat}
theorem zln(H:K (isL c) h):F.z74 c.toNat K h:=zc6 H
theorem Z1y(H:K (isD c) h):F.zcs c.toNat K h:=zkk H
theorem Zag(hs:s.size<=1000000)(hp:p<=s.size)(H:Ki ((p+zir ((BS s).drop p):Nat):Int) h):F.zaq s p Ki h:=by
 unfold F.zaq;refine zh (λ_ h1=>h1=h/\∃c r,(BS s).drop p=c :: r/\isL c=true) ?_ ?_
 . rintro _ h1 ⟨rfl,c0,r0,hd0,hL⟩;have e0:zir ((BS s).drop p)=spn isW ((BS s).drop p):=by rw[hd0];simp[zir,hL]
   rw[e0]at H;refine Zp (λst h'=>h'=h1/\∃k:Nat,st=((k:Int),())/\p+spn isW ((BS s).drop p)=k+spn isW ((BS s).drop k)) (λst=>((s.size:Int)-st.1).toNat) ⟨rfl,p,rfl,rfl⟩ ?_;rintro st h' ⟨rfl,k,rfl,hk⟩;refine zh (λ_ h2=>h2=h'/\k<s.size/\∃c r,(BS s).drop k=c :: r/\isW c=true) ?_ ?_
   . rintro _ h2 ⟨rfl,hks,c,r,hd,hW⟩;obtain⟨h4,h3⟩:=zh3 hd;refine⟨⟨rfl,k+1,by simp only;rw[w64 (by omega)];rfl,?_⟩,by simp only;rw[w64 (by omega)];omega⟩;rw[h4,hk,hd];simp only[spn,hW,if_true];omega
   . have stop:(spn isW ((BS s).drop k)=0)->Ki ((k:Nat):Int) h':=λh0=>by
      rw[hk,h0]at H;exact H
     refine ze (λh1=>?_) (λh1=>?_)
     . cases hd:(BS s).drop k with
       | nil=>have:=List.drop_eq_nil_iff.1 hd;rw[Vg]at this;simp only at h1;omega
       | cons c r=>
         obtain⟨h2,h3⟩:=zh3 hd;rw[Vg]at h3;refine z19 hd rfl (zx (isL c) (λK'=>zln) (zi (λh4=>?_) (λh4=>?_)))
         . exact⟨rfl,h3,c,r,rfl,by simp[isW,h4]⟩
         . refine z19 hd rfl (zx (isD c) (λK'=>Z1y) (zi (λh5=>?_) (λh5=>?_)))
           . exact⟨rfl,h3,c,r,rfl,by simp[isW,h5]⟩
           . refine z19 hd rfl (zu (λh6=>?_) (λh6=>?_))
             . have:c=95:=(Zhk (n:=95) (by decide)).1 h6;exact⟨rfl,h3,c,r,rfl,by simp[isW,this]⟩
             . have hc:c≠95:=λhh=>h6 (by rw[hh];rfl)
               refine stop ?_;rw[hd];simp[spn,isW,h4,h5,hc]
     . have hd:(BS s).drop k=[]:=by apply Uu;rw[Vg];simp only at h1;omega
       exact stop (by rw[hd];rfl)
 . have stop:zir ((BS s).drop p)=0->Ki (p:Int) h:=λh0=>by rw[h0]at H;exact H
   refine zu (λh1=>?_) (λh1=>?_)
   . have hd:(BS s).drop p=[]:=by apply Uu;rw[Vg];omega
     exact stop (by rw[hd];rfl)
   . cases hd:(BS s).drop p with
     | nil=>have:=List.drop_eq_nil_iff.1 hd;rw[Vg]at this;omega
     | cons c r=>
       refine z19 hd rfl (zx (isL c) (λK'=>zln) (zi (λh4=>?_) (λh4=>?_)))
       . have h5:isL c=false:=by simpa using h4
         exact stop (by rw[hd];simp[zir,h5])
       . have h5:isL c=true:=by simpa using h4
         exact⟨rfl,c,r,rfl,h5⟩
def Xk(l:List UInt8):List Value:=l.map λb=>.int .u8 b.toNat
end
end Den
end

section
namespace Den
open Go Lx
section
variable {Kt : Sl × Int × Int → Hp → Prop} {K : Bool → Hp → Prop} {h : Hp} {s : ByteArray}
theorem zx1(H:K (zmj (BS s)) h):F.z1s s K h:=by
 unfold F.z1s;refine znh (λh1=>?_) (λh1=>by rw[h1]at H;exact H);cases hd:BS s with
 | nil=>exact absurd hd h1
 | cons c r=>
   have hl:s.size=(c :: r).length:=by rw[<-Vg,hd]
   rw[hd]at H;unfold zmj at H;simp only at H;refine ze (λh2=>?_) (λh2=>?_)
   . rw[decide_eq_true (show(c :: r).length<=24 by omega)]at H;refine zx _ (λK' hk'=>Zag (p:=0) (by omega) (Ga _) hk') ?_;rw[Tw,hd];have:((((0+zir (c :: r):Nat):Int))==(s.size:Int))=(true&&isL c&&(spn isW (c :: r)==(c :: r).length)):=by
      rw[Bool.eq_iff_iff];simp only[beq_iff_eq,Td,Bool.and_eq_true];cases hL:isL c
      . simp only[zir,hL,J0,if_false,false_and,iff_false];simp only[List.length_cons]at hl;omega
      . simp only[zir,hL,if_true,true_and];omega
     rw[this];exact H
   . rw[decide_eq_false (show ¬(c :: r).length<=24 by omega)]at H;exact H
end
end Den
end

section
namespace Den
open Go Lx
section
variable {K : Bool → Hp → Prop} {h : Hp} {s : ByteArray}
end
end Den
end

section
namespace Den
open Go Lx
def zuf(t:TypeId)(h0 h:Hp)(x:Sl)(cs:List Value):Prop:=Own h0 h 1 x cs/\∀a b,x.a=some a->h a.block=some b->b.elem=t
theorem Ze9{h0 h:Hp}{x:Sl}{cs:List Value}{n:Nat}{bl:Blk}(ho:Own h0 h 1 x cs)(hn:h0 n=none)(hne:∀a,x.a=some a->a.block≠n):Own h0 (h.ins n bl) 1 x cs:=by
 obtain⟨h1,h2,h3,h4⟩:=ho;refine⟨λk b hk=>?_,h2,h3,?_⟩
 . rw[Hp.ins_ne (λhh=>by rw[hh,hn]at hk;cases hk)];exact h1 k b hk
 . cases ha:x.a with
   | none=>rw[ha]at h4;exact h4
   | some a=>
     rw[ha]at h4;obtain⟨g1,g2,g3,b,g4,g5⟩:=h4;exact⟨g1,g2,g3,b,by rw[Hp.ins_ne (hne a ha)];exact g4,g5⟩
theorem zuf.ins{t:TypeId}{h0 h:Hp}{x:Sl}{cs:List Value}{n:Nat}{bl:Blk}(ho:zuf t h0 h x cs)(hn:h0 n=none)(hne:∀a,x.a=some a->a.block≠n):zuf t h0 (h.ins n bl) x cs:=
 ⟨Ze9 ho.1 hn hne,λa b ha hb=>ho.2 a b ha (by rwa [Hp.ins_ne (hne a ha)]at hb)⟩
theorem Z30{t:TypeId}{h0 h:Hp}{n N:Nat}{zero new cs:List Value}{x:Sl}{K:Sl->Hp->Prop}(hN:h N≠none)(hNx:∀a,x.a=some a->a.block≠N)(ho:zuf t h0 h x cs)(hn:new.length=n)(hz:zero.length=1)
 (hleaf:new.all Gq=true) (hb:x.len+n<=140737488355328)
 (H:∀y h',zuf t h0 h' y (cs++new)->(∀a,y.a=some a->a.block≠N)->h' N=h N->y.len=x.len+n->(y.a=none->x.a=none/\n=0)->K y h'):zoe t 1 1 zero x n new K h:=by
 obtain⟨ho,hel⟩:=ho;have hrd:=ho.rd;obtain⟨h1,h2,h3,h4⟩:=ho;rw[J7]at h2;refine⟨by rw[J7];exact hb,hb,λhfit=>?_,λhgrow=>?_⟩
 . cases ha:x.a with
   | none=>
     rw[ha]at h4;simp only at h4;have hn0:n=0:=by omega
     have hnew:new=[]:=Jn (by omega);subst hnew hn0;simp only[stO];refine H _ _ ⟨⟨h1,?_,?_,?_⟩,λa b hh=>by cases hh⟩ (λa hh=>by cases hh) rfl rfl (λ_=>⟨ha,rfl⟩)
     . simpa using h2
     . show x.len+0<=x.cap;omega
     . show x.cap=0;exact h4
   | some a=>
     rw[ha]at h4;obtain⟨g1,g2,g3,b,g4,g5,g6,g7⟩:=h4;rw[J7]at g6;simp only[stO];refine⟨b,by rw[Yr];exact g4,z0e g2 _,g5,?_,hleaf,?_⟩
     . rw[X4];omega
     . rw[Yr,X4];have hne:=hNx a ha;refine H _ _ ⟨⟨?_,?_,hfit,?_⟩,?_⟩ (λa' hh=>by cases hh;exact hne) ?_ rfl (λhh=>by cases hh)
       . intro k bk hk;rw[Hp.ins_ne (λhh=>by subst hh;rw[g3]at hk;cases hk)];exact h1 k bk hk
       . show(x.len+n)*1=_;rw[Je];omega
       . refine⟨g1,g2,g3,_,Hp.ins_same _ _ _,g5,?_,?_⟩
         . show(Zc b.cells (a.off+x.len*1) new).length=_;unfold Zc;simp only[Je,Jl,Gg];show _=x.cap*1;omega
         . show(Zc b.cells (a.off+x.len*1) new).take _=_;have hoff:a.off+x.len*1=cs.length:=by omega
           unfold Zc;rw[hoff,g7,Uq,Je,Ph];simp only[To];rw[Jd (by omega),Ph,Jd (Ja _)];simp
       . intro a' b' ha' hb';cases ha';rw[Hp.ins_same]at hb';cases hb';exact hel a b ha g4
       . rw[Hp.ins_ne (Ne.symm hne)]
 . refine⟨cs,?_,λbk c hc hfr=>?_⟩
   . rw[J7,h2];exact hrd.2
   . have hbN:bk≠N:=λhh=>by rw[hh]at hfr;exact hN hfr
     refine H _ _ ⟨⟨Hp.le_trans h1 (Hp.le_ins hfr),?_,hc,?_⟩,?_⟩ (λa hh=>by cases hh;exact hbN) (Hp.ins_ne (Ne.symm hbN)) rfl (λhh=>by cases hh)
     . show(x.len+n)*1=_;rw[Je];omega
     . refine⟨rfl,rfl,?_,_,Hp.ins_same _ _ _,rfl,?_,?_⟩
       . cases hk:h0 bk with
         | none=>rfl
         | some b=>have:=h1 _ _ hk;rw[hfr]at this;cases this
       . show(cs++new++yn (c-(x.len+n)) zero).length=c*1;have hr:(yn (c-(x.len+n)) zero).length=(c-(x.len+n)):=by
          unfold yn;simp[hz]
         rw[Je,Je,hr];omega
       . show(cs++new++yn (c-(x.len+n)) zero).take _=cs++new;rw[Jx (by simp)];exact Jd (Ja _)
     . intro a' b' ha' hb';cases ha';have hb'':(h.ins bk ⟨cs++new++yn (c-(x.len+n)) zero,t,(0,0)⟩) bk=some b':=hb';rw[Hp.ins_same]at hb'';cases hb'';rfl
def BLD(h0 h:Hp)(n:Nat)(l:List UInt8):Prop:=
 ∃q x,h n=some ⟨[q,.slice x.a x.len x.cap],364,(0,0)⟩/\(q=.pointer none\/q=.pointer (some ⟨n,0,none⟩))/\h0 n=none /\
  zuf 5 h0 h x (Xk l)/\(∀a,x.a=some a->a.block≠n)/\(x.a=none\/l≠[])
def BLU(h0 h:Hp)(n:Nat)(l:List UInt8):Prop:=
 ∃x,h n=some ⟨[.pointer (some ⟨n,0,none⟩),.slice x.a x.len x.cap],364,(0,0)⟩/\h0 n=none /\
  zuf 5 h0 h x (Xk l)/\(∀a,x.a=some a->a.block≠n)/\(x.a=none\/l≠[])
theorem BLD.hle{h0 h:Hp}{n:Nat}{l:List UInt8}(hb:BLD h0 h n l):h0.le h:=by
 obtain⟨q,x,h1,h2,h3,h4,h5⟩:=hb;exact h4.1.1
theorem z4h{l:List UInt8}:(Xk l).length=l.length:=by simp[Xk]
theorem zuu{l m:List UInt8}:Xk (l++m)=Xk l++Xk m:=by simp[Xk]
theorem zr9{l:List UInt8}:(Xk l).all Gq=true:=by simp[Xk,Gq]
section
variable {h0 h : Hp} {n : Nat} {l : List UInt8}
theorem Ze5{K:Addr->Hp->Prop}(H:∀n h',BLD h h' n []->K ⟨n,0,none⟩ h'):Z1k 364 [.pointer none,.slice zf.a zf.len zf.cap] K h:=by
 intro b hb;refine H b _ ⟨.pointer none,zf,Hp.ins_same _ _ _,.inl rfl,hb,⟨Own.nil (Hp.le_ins hb),(λa b' ha=>by cases ha)⟩,(λa ha=>by cases ha),.inl rfl⟩
theorem zfg{K:Unit->Hp->Prop}(hb:BLD h0 h n l)(H:∀h',BLU h0 h' n l->K () h'):Qu (F.Xb (some ⟨n,0,none⟩)) K h:=by
 refine Xm ?_;obtain⟨q,x,h1,h2,h3,h4,h5,h6⟩:=hb;refine⟨n,_,rfl,h1,rfl,rfl,rfl,?_⟩;rcases h2 with rfl | rfl
 . exact .inl ⟨rfl,H _ ⟨x,Hp.ins_same _ _ _,h3,h4.ins h3 h5,h5,h6⟩⟩
 . exact .inr ⟨rfl,H _ ⟨x,h1,h3,h4,h5,h6⟩⟩
theorem zyl{m:List UInt8}{k:Nat}{K:Hp->Prop}(hb:BLU h0 h n l)(hk:m.length=k)(hlen:l.length+k<=140737488355328)(hm:m≠[]\/l≠[])(H:∀h',BLD h0 h' n (l++m)->K h') :
 ldL (.sl) ((⟨n,0,none⟩:Addr).add 1) (λx3=>zoe 5 1 1 [.int .u8 0] x3 k (Xk m) (λw4 h2=>Ye (some ⟨n,0,none⟩) λp5=>stP (p5.add 1) [.slice w4.a w4.len w4.cap] (λh3=>K h3) h2) h) h:=by
 obtain⟨x,h1,h3,h4,h5,h6⟩:=hb;have hl:x.len=l.length:=by have:=h4.1.2.1;rw[z4h]at this;omega
 refine⟨x,?_,?_⟩
 . rw[z24];unfold Hp.cell;simp only[h1];rfl
 . refine Z30 (N:=n) (by rw[h1];simp) h5 h4 (by rw[z4h];exact hk) rfl zr9 (by omega) λy h' hy hyn hn hlen' hya=>?_
   rw[h1]at hn;refine⟨_,by rw[Yr];exact hn,by rw[z24],rfl,by rw[z24];exact Ja _,rfl,H _ ⟨_,y,Hp.ins_same _ _ _,.inr rfl,h3,?_,hyn,?_⟩⟩
   . rw[zuu];exact hy.ins h3 hyn
   . right;cases l with
     | nil=>exact hm.elim id λhh=>absurd rfl hh
     | cons a b=>simp
theorem zjh{s:ByteArray}{K:(Int×Value)->Hp->Prop}(hb:BLD h0 h n l)(hlen:l.length<=1000000)(hs:BS s≠[])(hs2:s.size<=1000000)(H:∀h',BLD h0 h' n (l++BS s)->K ((s.size:Int),.nilIface) h'):Qu (F.Zx (some ⟨n,0,none⟩) s) K h:=by
 refine Xm ?_;unfold F.Zx;exact zfg hb λh1 hb1=>zyl (m:=BS s) hb1 (Vg s) (by omega) (.inl hs) λh' hb'=>H _ hb'
theorem ziu{s:ByteArray}{K:(Int×Value)->Hp->Prop}(hb:BLD h0 h n l)(hlen:l.length<=1000000)(hs:BS s≠[]\/l≠[])(hs2:s.size<=1000000)(H:∀h',BLD h0 h' n (l++BS s)->K ((s.size:Int),.nilIface) h'):Qu (F.Zx (some ⟨n,0,none⟩) s) K h:=by
 refine Xm ?_;unfold F.Zx;exact zfg hb λh1 hb1=>zyl (m:=BS s) hb1 (Vg s) (by omega) hs λh' hb'=>H _ hb'
theorem Z0a{K:ByteArray->Hp->Prop}(hb:BLD h0 h n l)(hlen:l.length<=1000000)(H:∀h',h0.le h'->K ⟨l.toArray⟩ h'):Qu (F.Wa (some ⟨n,0,none⟩)) K h:=by
 refine Xm ?_;obtain⟨q,x,h1,h2,h3,h4,h5,h6⟩:=hb;obtain⟨⟨g0,g1,g2,g3⟩,hel⟩:=h4;rw[z4h]at g1;refine⟨n,_,q,rfl,h1,rfl,rfl,?_⟩;cases ha:x.a with
 | none=>
   rw[ha]at g3;simp only at g3;have hl0:l=[]:=Jn (by omega);subst hl0;refine .inl ⟨?_,H h g0⟩;have e1:x.len=0:=by omega
   rw[e1,g3]
 | some a=>
   rw[ha]at g3;obtain⟨i1,i2,i3,b,i4,i5,i6,i7⟩:=g3;have hne:l≠[]:=by
    rcases h6 with h6 | h6
    . rw[ha]at h6;cases h6
    . exact h6
   obtain⟨g,off,sp⟩:=a;simp only at i1 i2;subst i1 i2;refine .inr ⟨g,x.cap,l,b,hne,?_,by omega,i4,hel _ _ ha i4,by omega,by omega,λj y hj=>?_,H _ λk c hk=>?_⟩
   . have e1:x.len=l.length:=by omega
     rw[e1]
   . have hlt:j<l.length:=by
      rcases Jo j l.length with hh | hh
      . exact hh
      . rw[J5 hh]at hj;cases hj
     have:(b.cells.take (Xk l).length)[j]?=(Xk l)[j]?:=by rw[i7]
     rw[z4h,List.getElem?_take_of_lt hlt]at this;rw[this];unfold Xk;rw[Uw,hj];rfl
   . have hkg:k≠g:=λhh=>by
      subst hh;have i3':h0 k=none:=i3;rw[i3']at hk;cases hk
     simp only[if_neg hkg];exact g0 k c hk
end
end Den
end

section
namespace Den
open Go Iv Lx
def dgt(n:Nat):Nat:=if h:n<10 then 1 else dgt (n/10)+1
termination_by n
decreasing_by omega
theorem z2x{n:Nat}(h:n<10):dgt n=1:=by unfold dgt;rw[dif_pos h]
theorem Vw{n:Nat}(h:10<=n):dgt n=dgt (n/10)+1:=by
 conv=>lhs;unfold dgt
 rw[dif_neg (by omega)]
theorem zov(n:Nat):1<=dgt n:=by
 by_cases h:n<10
 . rw[z2x h];exact Ja _
 . rw[Vw (by omega)];omega
def dg9(n:Nat):Nat:=if n<10 then 1 else if n<100 then 2 else if n<1000 then 3 else if n<10000 then 4 else if n<100000 then 5 else if n<1000000 then 6 else if n<10000000 then 7 else if n<100000000 then 8 else 9
theorem Zpu{n:Nat}(h:n<1000000000):dgt n=dg9 n:=by
 unfold dg9;by_cases h1:n<10
 . rw[if_pos h1,z2x h1]
 rw[if_neg h1,Vw (by omega)];by_cases h2:n<100
 . rw[if_pos h2,z2x (by omega)]
 rw[if_neg h2,Vw (by omega)];by_cases h3:n<1000
 . rw[if_pos h3,z2x (by omega)]
 rw[if_neg h3,Vw (by omega)];by_cases h4:n<10000
 . rw[if_pos h4,z2x (by omega)]
 rw[if_neg h4,Vw (by omega)];by_cases h5:n<100000
 . rw[if_pos h5,z2x (by omega)]
 rw[if_neg h5,Vw (by omega)];by_cases h6:n<1000000
 . rw[if_pos h6,z2x (by omega)]
 rw[if_neg h6,Vw (by omega)];by_cases h7:n<10000000
 . rw[if_pos h7,z2x (by omega)]
 rw[if_neg h7,Vw (by omega)];by_cases h8:n<100000000
 . rw[if_pos h8,z2x (by omega)]
 rw[if_neg h8,Vw (by omega),z2x (by omega)]
theorem Zdo{n:Nat}(h:1000000000<=n):dgt n=dgt (n/1000000000)+9:=by
 rw[Vw (n:=n) (by omega),Vw (n:=n/10) (by omega),Vw (n:=n/10/10) (by omega),Vw (n:=n/10/10/10) (by omega),Vw (n:=n/10/10/10/10) (by omega),
  Vw (n:=n/10/10/10/10/10) (by omega),Vw (n:=n/10/10/10/10/10/10) (by omega),Vw (n:=n/10/10/10/10/10/10/10) (by omega),Vw (n:=n/10/10/10/10/10/10/10/10) (by omega)]
 have:n/10/10/10/10/10/10/10/10/10=n/1000000000:=by omega
 rw[this]
theorem Z3n{n k:Nat}:∀{k n:Nat},n<10 ^ (k+1)->dgt n<=k+1
 | 0,n,h=>by rw[z2x (by simpa using h)];exact Ja _
 | k+1,n,h=>by
   by_cases h1:n<10
   . rw[z2x h1];omega
   . rw[Vw (by omega)];have:n/10<10 ^ (k+1):=by rw[Gj (by decide),<-U6];exact h
     have:=Z3n (n:=n) (k:=k) this;omega
section
variable {h : Hp} {s : ByteArray} {i lo hi : Int}
theorem Zdw{K:Int->Prop}(h0:0<=i)(h1:i<s.size)(H:∀b:UInt8,s[i.toNat]?=some b->K (b.toNat:Int)):qy s i K:=by
 have:i.toNat<s.size:=by omega
 exact⟨h0,s[i.toNat],by simp[this],H _ (by simp[this])⟩
theorem z8l{K:ByteArray->Prop}(h0:0<=lo)(h1:lo<=hi)(h2:hi<=s.size)(H:∀t:ByteArray,(t.size:Int)=hi-lo->BS t=((BS s).drop lo.toNat).take (hi.toNat-lo.toNat)->K t):Yv s lo hi K:=by
 refine⟨h0,h1,h2,H _ ?_ zu8⟩;rw[ByteArray.size_extract];omega
end
theorem Zp9{n:Nat}(h:n<=9223372036854775807):i64.wrap (n:Int)=n:=w64 (by omega)
section
variable {h : Hp} {Kt : ByteArray → Hp → Prop} {Ki : Int → Hp → Prop} {Kb : Bool → Hp → Prop}
theorem zcj{s t:ByteArray}(hs:t.size=1)(hs0:1<=s.size)(H:∀h',h.le h'->Kb (decide ((BS s)[0]?=(BS t)[0]?)) h'):zc (F.zo s t) Kb h:=by
 refine zd (λb h'=>b=decide ((BS s)[0]?=(BS t)[0]?)) (λK' hk=>?_) λb h' hl hb=>by subst hb;exact H h' hl
 unfold F.zo;refine zd (λb h'=>b=decide ((BS s)[0]?=(BS t)[0]?)) (λK2 hk2=>?_) λb h' hl hb=>hk _ _ hl hb
 unfold F.Xf;refine ze (λ_=>?_) (λh1=>absurd (by omega) h1);refine z8l (by decide) (by omega) (by omega) λc hc hb=>hk2 _ _ (Hp.le_refl _) ?_
 rw[z4g,z4g,hb];have l1:=Vg s;have l2:=Vg t;cases hS:BS s with
 | nil=>rw[hS]at l1;simp at l1;omega
 | cons a r=>
   cases hT:BS t with
   | nil=>rw[hT]at l2;simp at l2;omega
   | cons b q=>
     have:q=[]:=by rw[hT]at l2;simp at l2;exact Jn (by omega)
     subst this;rw[hs];simp;by_cases hab:a=b<;>simp[hab]
theorem Zd7{n:Nat}(hn:n<=64){K:(Int×Int)->Hp->Prop}(H:∀h',h.le h'->K (0,(n:Int)) h'):zc (F.z5c 1 (n:Int)) K h:=by
 refine zd (λv h'=>v=(0,(n:Int))) (λK' hk=>?_) λb h' hl hb=>by subst hb;exact H h' hl
 unfold F.z5c;refine zd (λv h'=>v=(0,(n:Int))) (λK2 hk2=>?_) λb h' hl hb=>by subst hb;exact hk _ _ hl rfl
 unfold F.z6b;refine⟨by decide,by decide,by decide,by decide,by decide,?_⟩;refine hk2 _ _ (Hp.le_refl _) ?_;clear hk hk2 H K' K2;revert n;decide +kernel
theorem zhq{n:Nat}(hn:n<=64)(H:∀s h',h.le h'->s.size=n->Kt s h'):zc (F.V3 ⟨#[48]⟩ (n:Int)) Kt h:=by
 refine zd (λs h'=>s.size=n) (λK' hk=>?_) λb h' hl hb=>H b h' hl hb
 unfold F.V3;refine zu (λh1=>hk _ _ (Hp.le_refl _) ?_) (λh1=>?_)
 . have:n=0:=by omega
   subst this;rfl
 refine zu (λh2=>hk _ _ (Hp.le_refl _) ?_) (λh2=>?_)
 . have:n=1:=by omega
   subst this;rfl
 refine zh (λ_ h'=>h.le h') ?_ (ze (λhh=>absurd hh (by omega)) λ_=>Hp.le_refl _);intro _ h1' hl1;have e1:u64.wrap (((⟨#[48]⟩:ByteArray).size:Int))=1:=by decide
 have e2:u64.wrap (n:Int)=(n:Int):=Zs7 (by omega);rw[e1,e2];refine Zd7 hn λh2 hl2=>?_
 have l2:=Hp.le_trans hl1 hl2;refine zh (λ_ h'=>h.le h') ?_ (ze (λhh=>absurd hh (by simp)) λ_=>ze (λhh=>absurd hh (by simp only;omega)) λ_=>l2);intro _ h3 hl3;refine zu (λhh=>absurd hh (by decide)) (λ_=>?_);have e3:i64.wrap (n:Int)=(n:Int):=Zp9 (by omega);simp only[e3];refine zh (λ_ _=>False) (λ_ _ hh=>hh.elim) ?_;refine⟨by decide,48,rfl,?_⟩;refine zh (λs h'=>s.1=true/\h.le h') ?_ ?_
 . rintro⟨b,_⟩ h4 ⟨rfl,hl4⟩;refine Z4 rfl ?_;refine ze (λ_=>?_) (λhh=>absurd (by omega) hh);refine zcj rfl (by decide +kernel) λh5 hl5=>zr (by decide +kernel) ?_
   refine ze (λ_=>?_) (λhh=>absurd (by omega) hh);refine zcj rfl (by decide +kernel) λh6 hl6=>zr (by decide +kernel) ?_
   refine ze (λ_=>?_) (λhh=>absurd (by omega) hh);refine zcj rfl (by decide +kernel) λh7 hl7=>Z4 (by decide +kernel) ?_
   refine z8l (by decide) (by omega) (by have:(zL3:ByteArray).size=64:=rfl;rw[this];omega) λt ht _=>hk _ _ (Hp.le_trans hl4 (Hp.le_trans hl5 (Hp.le_trans hl6 hl7))) ?_
   omega
 . refine zu (λhh=>absurd hh (by decide)) (λ_=>?_);refine zu (λhh=>absurd hh (by decide)) (λ_=>?_);refine zu (λ_=>⟨by decide,hl3⟩) (λhh=>absurd rfl hh)
def P10(h:Hp):Prop:=∀i:Nat,i<20->h.cell ((⟨2,0,none⟩:Addr).add i)=some (.int .u64 ((10 ^ i:Nat):Int))
theorem P10.le{h':Hp}(ht:P10 h)(hl:h.le h'):P10 h':=λi hi=>Hp.cell_le hl (ht i hi)
theorem wu8{n:Int}(h:0<=n/\n<=255):u8.wrap n=n:=by
 unfold Pe;simp only[G0,G6];exact Int.emod_eq_of_lt h.1 (by omega)
theorem Zss{K:Int->Prop}{x:Nat}(hx:x<256)(H:∀r:Nat,(x=0->r=0)->(0<x->1<=r/\2 ^ (r-1)<=x/\x<2 ^ r)->r<=8->K (r:Int)):qy zL4 (x:Int) K:=by
 have key:∀x:Nat,x<256->((zL4:ByteArray)[x]?).any (λb=>decide ((x=0->b.toNat=0)/\(0<x->1<=b.toNat/\2 ^ (b.toNat-1)<=x/\x<2 ^ b.toNat)/\b.toNat<=8))=true:=by decide +kernel
 have k:=key x hx;refine⟨by omega,?_⟩;rw[Int.toNat_natCast];cases hb:(zL4:ByteArray)[x]? with
 | none=>rw[hb]at k;cases k
 | some b=>
   rw[hb]at k;obtain⟨k1,k2,k3⟩:=of_decide_eq_true (show decide _=true from k);exact⟨b,rfl,H _ k1 k2 k3⟩
theorem fd{x k:Nat}:(x:Int).fdiv ((2:Int) ^ k)=((x/2 ^ k:Nat):Int):=by
 have e:((2:Int) ^ k)=((2 ^ k:Nat):Int):=by simp
 rw[e,Int.fdiv_eq_ediv_of_nonneg _ (Int.natCast_nonneg _)];rfl
theorem zuc{x:Nat}(hx:x<4294967296)(H:∀(r:Nat) h',h.le h'->(x=0->r=0)->(0<x->1<=r/\2 ^ (r-1)<=x/\x<2 ^ r)->r<=32->Ki (r:Int) h'):zc (F.z2t (x:Int)) Ki h:=by
 refine zd (λv h'=>∃r:Nat,v=(r:Int)/\(x=0->r=0)/\(0<x->1<=r/\2 ^ (r-1)<=x/\x<2 ^ r)/\r<=32) (λK' hk=>?_) λb h' hl ⟨r,hb,a1,a2,a3⟩=>by subst hb;exact H r h' hl a1 a2 a3
 unfold F.z2t;refine zh (λs h'=>h.le h'/\s=((x:Int),0,())) ?_ (ze (λhh=>absurd hh (by omega)) λ_=>⟨Hp.le_refl _,rfl⟩);rintro _ g1 ⟨l1,rfl⟩;refine zh (λs h'=>h.le h'/\∃a y:Nat,s=((y:Int),(a:Int),())/\y<65536/\a<=16/\(a=16->0<y)/\(a=0\/a=16)/\y=x/2 ^ a) ?_ ?_
 . rintro _ g2 ⟨l2,a,y,rfl,hy,ha,hay,ha2,e⟩;refine zh (λs h'=>h.le h'/\∃a y:Nat,s=((y:Int),(a:Int),())/\y<256/\a<=24/\(0<a->0<y)/\y=x/2 ^ a) ?_ ?_
   . rintro _ g3 ⟨l3,a,y,rfl,hy,ha,hay,e⟩;have e1:u8.wrap (y:Int)=(y:Int):=wu8 (by omega);rw[e1];refine Zss hy λr r0 r1 r8=>hk _ _ l3 ⟨a+r,?_,λhx0=>?_,λhx0=>?_,by omega⟩
     . show i64.wrap ((a:Int)+i64.wrap (r:Int))=_;rw[Zp9 (n:=r) (by omega),w64 (by omega)];omega
     . subst hx0;have hy0:y=0:=by rw[e];simp
       have ha0:a=0:=Jy λhh=>by have:=hay (by omega);omega
       rw[r0 hy0,ha0]
     . by_cases hy0:0<y
       . obtain⟨k1,k2,k3⟩:=r1 hy0;rw[e,Pw (Gs a),<-T1]at k2;rw[e,Gj (Gs a),<-T1]at k3;refine⟨by omega,?_,?_⟩
         . rw[show a+r-1=r-1+a by omega];exact k2
         . rw[Nat.add_comm a r];exact k3
       . exfalso;have ha0:a=0:=Jy λhh=>by have:=hay (by omega);omega
         rw[ha0]at e;simp at e;omega
   . simp only;refine ze (λh2=>⟨by decide,l2,a+8,y/2 ^ 8,?_,by omega,by omega,λ_=>by omega,?_⟩) (λh2=>⟨l2,a,y,rfl,by omega,by omega,λh0=>by rcases ha2 with rfl | rfl;omega;exact hay rfl,e⟩)
     . have:(min (8:Int).toNat u64.bits)=8:=rfl;rw[this,fd,w64 (by omega)];rfl
     . rw[e,Nat.div_div_eq_div_mul,<-T1]
 . simp only;refine ze (λh2=>⟨by decide,l1,16,x/2 ^ 16,?_,by omega,by decide,λ_=>by omega,.inr rfl,rfl⟩) (λh2=>⟨l1,0,x,rfl,by omega,by decide,λhh=>absurd hh (by decide),.inl rfl,by simp⟩);have:(min (16:Int).toNat u64.bits)=16:=rfl;rw[this,fd,w64 (by omega)];rfl
theorem Zpv{x:Nat}(h3:x<1000000000)(h1:2 ^ (7-1)<=x)(h2:x<2 ^ 7):7*78913/262144+(if 10 ^ (7*78913/262144)<=x then 1 else 0)=dg9 x:=by
 simp only[U4,U7,U8,U9]at h1 h2 |-
 unfold dg9
 (repeat' split)<;>omega
theorem Zpw{x:Nat}(h3:x<1000000000)(h1:2 ^ (8-1)<=x)(h2:x<2 ^ 8):8*78913/262144+(if 10 ^ (8*78913/262144)<=x then 1 else 0)=dg9 x:=by
 simp only[U4,U7,U8,U9]at h1 h2 |-
 unfold dg9
 (repeat' split)<;>omega
theorem Zpx{x:Nat}(h3:x<1000000000)(h1:2 ^ (9-1)<=x)(h2:x<2 ^ 9):9*78913/262144+(if 10 ^ (9*78913/262144)<=x then 1 else 0)=dg9 x:=by
 simp only[U4,U7,U8,U9]at h1 h2 |-
 unfold dg9
 (repeat' split)<;>omega
theorem Zit{x:Nat}(h3:x<1000000000)(h1:2 ^ (10-1)<=x)(h2:x<2 ^ 10):10*78913/262144+(if 10 ^ (10*78913/262144)<=x then 1 else 0)=dg9 x:=by
 simp only[U4,U7,U8,U9]at h1 h2 |-
 unfold dg9
 (repeat' split)<;>omega
theorem Ziu{x:Nat}(h3:x<1000000000)(h1:2 ^ (11-1)<=x)(h2:x<2 ^ 11):11*78913/262144+(if 10 ^ (11*78913/262144)<=x then 1 else 0)=dg9 x:=by
 simp only[U4,U7,U8,U9]at h1 h2 |-
 unfold dg9
 (repeat' split)<;>omega
theorem Ziv{x:Nat}(h3:x<1000000000)(h1:2 ^ (12-1)<=x)(h2:x<2 ^ 12):12*78913/262144+(if 10 ^ (12*78913/262144)<=x then 1 else 0)=dg9 x:=by
 simp only[U4,U7,U8,U9]at h1 h2 |-
 unfold dg9
 (repeat' split)<;>omega
theorem Ziw{x:Nat}(h3:x<1000000000)(h1:2 ^ (13-1)<=x)(h2:x<2 ^ 13):13*78913/262144+(if 10 ^ (13*78913/262144)<=x then 1 else 0)=dg9 x:=by
 simp only[U4,U7,U8,U9]at h1 h2 |-
 unfold dg9
 (repeat' split)<;>omega
theorem Zix{x:Nat}(h3:x<1000000000)(h1:2 ^ (14-1)<=x)(h2:x<2 ^ 14):14*78913/262144+(if 10 ^ (14*78913/262144)<=x then 1 else 0)=dg9 x:=by
 simp only[U4,U7,U8,U9]at h1 h2 |-
 unfold dg9
 (repeat' split)<;>omega
theorem Ziy{x:Nat}(h3:x<1000000000)(h1:2 ^ (15-1)<=x)(h2:x<2 ^ 15):15*78913/262144+(if 10 ^ (15*78913/262144)<=x then 1 else 0)=dg9 x:=by
 simp only[U4,U7,U8,U9]at h1 h2 |-
 unfold dg9
 (repeat' split)<;>omega
theorem Ziz{x:Nat}(h3:x<1000000000)(h1:2 ^ (16-1)<=x)(h2:x<2 ^ 16):16*78913/262144+(if 10 ^ (16*78913/262144)<=x then 1 else 0)=dg9 x:=by
 simp only[U4,U7,U8,U9]at h1 h2 |-
 unfold dg9
 (repeat' split)<;>omega
theorem Zj0{x:Nat}(h3:x<1000000000)(h1:2 ^ (17-1)<=x)(h2:x<2 ^ 17):17*78913/262144+(if 10 ^ (17*78913/262144)<=x then 1 else 0)=dg9 x:=by
 simp only[U4,U7,U8,U9]at h1 h2 |-
 unfold dg9
 (repeat' split)<;>omega
theorem Zj1{x:Nat}(h3:x<1000000000)(h1:2 ^ (18-1)<=x)(h2:x<2 ^ 18):18*78913/262144+(if 10 ^ (18*78913/262144)<=x then 1 else 0)=dg9 x:=by
 simp only[U4,U7,U8,U9]at h1 h2 |-
 unfold dg9
 (repeat' split)<;>omega
theorem Zj2{x:Nat}(h3:x<1000000000)(h1:2 ^ (19-1)<=x)(h2:x<2 ^ 19):19*78913/262144+(if 10 ^ (19*78913/262144)<=x then 1 else 0)=dg9 x:=by
 simp only[U4,U7,U8,U9]at h1 h2 |-
 unfold dg9
 (repeat' split)<;>omega
theorem Zj3{x:Nat}(h3:x<1000000000)(h1:2 ^ (20-1)<=x)(h2:x<2 ^ 20):20*78913/262144+(if 10 ^ (20*78913/262144)<=x then 1 else 0)=dg9 x:=by
 simp only[U4,U7,U8,U9]at h1 h2 |-
 unfold dg9
 (repeat' split)<;>omega
theorem Zj4{x:Nat}(h3:x<1000000000)(h1:2 ^ (21-1)<=x)(h2:x<2 ^ 21):21*78913/262144+(if 10 ^ (21*78913/262144)<=x then 1 else 0)=dg9 x:=by
 simp only[U4,U7,U8,U9]at h1 h2 |-
 unfold dg9
 (repeat' split)<;>omega
theorem Zj5{x:Nat}(h3:x<1000000000)(h1:2 ^ (22-1)<=x)(h2:x<2 ^ 22):22*78913/262144+(if 10 ^ (22*78913/262144)<=x then 1 else 0)=dg9 x:=by
 simp only[U4,U7,U8,U9]at h1 h2 |-
 unfold dg9
 (repeat' split)<;>omega
theorem Zj6{x:Nat}(h3:x<1000000000)(h1:2 ^ (23-1)<=x)(h2:x<2 ^ 23):23*78913/262144+(if 10 ^ (23*78913/262144)<=x then 1 else 0)=dg9 x:=by
 simp only[U4,U7,U8,U9]at h1 h2 |-
 unfold dg9
 (repeat' split)<;>omega
theorem Zj7{x:Nat}(h3:x<1000000000)(h1:2 ^ (24-1)<=x)(h2:x<2 ^ 24):24*78913/262144+(if 10 ^ (24*78913/262144)<=x then 1 else 0)=dg9 x:=by
 simp only[U4,U7,U8,U9]at h1 h2 |-
 unfold dg9
 (repeat' split)<;>omega
theorem Zj8{x:Nat}(h3:x<1000000000)(h1:2 ^ (25-1)<=x)(h2:x<2 ^ 25):25*78913/262144+(if 10 ^ (25*78913/262144)<=x then 1 else 0)=dg9 x:=by
 simp only[U4,U7,U8,U9]at h1 h2 |-
 unfold dg9
 (repeat' split)<;>omega
theorem Zj9{x:Nat}(h3:x<1000000000)(h1:2 ^ (26-1)<=x)(h2:x<2 ^ 26):26*78913/262144+(if 10 ^ (26*78913/262144)<=x then 1 else 0)=dg9 x:=by
 simp only[U4,U7,U8,U9]at h1 h2 |-
 unfold dg9
 (repeat' split)<;>omega
theorem Zja{x:Nat}(h3:x<1000000000)(h1:2 ^ (27-1)<=x)(h2:x<2 ^ 27):27*78913/262144+(if 10 ^ (27*78913/262144)<=x then 1 else 0)=dg9 x:=by
 simp only[U4,U7,U8,U9]at h1 h2 |-
 unfold dg9
 (repeat' split)<;>omega
theorem Zjb{x:Nat}(h3:x<1000000000)(h1:2 ^ (28-1)<=x)(h2:x<2 ^ 28):28*78913/262144+(if 10 ^ (28*78913/262144)<=x then 1 else 0)=dg9 x:=by
 simp only[U4,U7,U8,U9]at h1 h2 |-
 unfold dg9
 (repeat' split)<;>omega
theorem Zjc{x:Nat}(h3:x<1000000000)(h1:2 ^ (29-1)<=x)(h2:x<2 ^ 29):29*78913/262144+(if 10 ^ (29*78913/262144)<=x then 1 else 0)=dg9 x:=by
 simp only[U4,U7,U8,U9]at h1 h2 |-
 unfold dg9
 (repeat' split)<;>omega
theorem Zjd{x:Nat}(h3:x<1000000000)(h1:2 ^ (30-1)<=x)(h2:x<2 ^ 30):30*78913/262144+(if 10 ^ (30*78913/262144)<=x then 1 else 0)=dg9 x:=by
 simp only[U4,U7,U8,U9]at h1 h2 |-
 unfold dg9
 (repeat' split)<;>omega
theorem Zje{r x:Nat}(h3:x<1000000000)(h7:7<=r)(h30:r<=30)(h1:2 ^ (r-1)<=x)(h2:x<2 ^ r):r*78913/262144+(if 10 ^ (r*78913/262144)<=x then 1 else 0)=dg9 x:=by
 have hr:r=7\/r=8\/r=9\/r=10\/r=11\/r=12\/r=13\/r=14\/r=15\/r=16\/r=17\/r=18\/r=19\/r=20\/r=21\/r=22\/r=23\/r=24\/r=25\/r=26\/r=27\/r=28\/r=29\/r=30:=by omega
 rcases hr with rfl | rfl | rfl | rfl | rfl | rfl | rfl | rfl | rfl | rfl | rfl | rfl | rfl | rfl | rfl | rfl | rfl | rfl | rfl | rfl | rfl | rfl | rfl | rfl
 . exact Zpv h3 h1 h2
 . exact Zpw h3 h1 h2
 . exact Zpx h3 h1 h2
 . exact Zit h3 h1 h2
 . exact Ziu h3 h1 h2
 . exact Ziv h3 h1 h2
 . exact Ziw h3 h1 h2
 . exact Zix h3 h1 h2
 . exact Ziy h3 h1 h2
 . exact Ziz h3 h1 h2
 . exact Zj0 h3 h1 h2
 . exact Zj1 h3 h1 h2
 . exact Zj2 h3 h1 h2
 . exact Zj3 h3 h1 h2
 . exact Zj4 h3 h1 h2
 . exact Zj5 h3 h1 h2
 . exact Zj6 h3 h1 h2
 . exact Zj7 h3 h1 h2
 . exact Zj8 h3 h1 h2
 . exact Zj9 h3 h1 h2
 . exact Zja h3 h1 h2
 . exact Zjb h3 h1 h2
 . exact Zjc h3 h1 h2
 . exact Zjd h3 h1 h2
theorem zkx{x:Nat}(ht:P10 h)(h0:100<=x)(hx:x<1000000000)(H:∀h',h.le h'->Ki ((dg9 x:Nat):Int) h'):zc (F.Q3 (x:Int)) Ki h:=by
 refine zd (λv h'=>v=((dg9 x:Nat):Int)) (λK' hk=>?_) λb h' hl hb=>by subst hb;exact H h' hl
 unfold F.Q3;refine zuc (by omega) λr h1 hl1 _ hr _=>?_
 obtain⟨r1,r2,r3⟩:=hr (by omega);have rl:7<=r:=Nat.not_lt.1 λhh=>by
  have:2 ^ r<=2 ^ 6:=Th (by decide) (by omega);omega
 have ru:r<=30:=Nat.not_lt.1 λhh=>by
  have:2 ^ 30<=2 ^ (r-1):=Th (by decide) (by omega);omega
 refine zd (λv h'=>v=((r*78913/262144:Nat):Int)) (λK2 hk2=>?_) λv h2 hl2 hv=>?_
 . unfold F.Wk;refine⟨by decide,hk2 _ _ (Hp.le_refl _) ?_⟩;have e1:i64.wrap ((r:Int)*78913)=((r*78913:Nat):Int):=by rw[w64 (by omega)];omega
   have e2:(min (18:Int).toNat i64.bits)=18:=rfl;rw[e1,e2,fd]
 . subst hv;obtain⟨d,hd⟩:∃d,d=r*78913/262144:=⟨_,rfl⟩;rw[<-hd];have hd20:d<20:=by omega
   have hc:=(ht.le (Hp.le_trans hl1 hl2)) d hd20;unfold ze0;rw[decide_eq_true (p:=0<=(d:Int)/\(d:Int)<(20:Nat)) (by omega)];simp only;refine⟨((10 ^ d:Nat):Int),by rw[Int.toNat_natCast,J7];exact hc,?_⟩;refine zd (λv h'=>v=if (x:Int)>=((10 ^ d:Nat):Int)then 1 else 0) (λK2 hk2=>?_) λv h3 hl3 hv=>?_
   . unfold F.Wj;refine ze (λhh=>hk2 _ _ (Hp.le_refl _) (by rw[if_pos hh])) (λhh=>hk2 _ _ (Hp.le_refl _) (by rw[if_neg hh]))
   . subst hv;refine hk _ _ (Hp.le_trans hl1 (Hp.le_trans hl2 hl3)) ?_;have hw:i64.wrap ((d:Int)+if (x:Int)>=((10 ^ d:Nat):Int)then 1 else 0)=(d:Int)+if (x:Int)>=((10 ^ d:Nat):Int)then 1 else 0:=w64 (by split<;>omega)
     rw[hw,<-Zje hx rl ru r2 r3,<-hd];split<;>split<;>omega
end
end Den
end

section
namespace Den
open Go Iv Lx
theorem Zf0(z:Int):0<=u32.wrap z/\u32.wrap z<=4294967295:=by
 unfold Pe;simp only[G0,G6];have h1:=Int.emod_nonneg z (show((2:Int) ^ 32)≠0 by decide);have h2:=Int.emod_lt_of_pos z (show(0:Int)<2 ^ 32 by decide);exact⟨h1,by simp at h2 |-;omega⟩
theorem u8r(z:Int):∃b:UInt8,u8.wrap z=(b.toNat:Int):=by
 have h1:=Int.emod_nonneg z (show(256:Int)≠0 by decide);have h2:=Int.emod_lt_of_pos z (show(0:Int)<256 by decide);have e:u8.wrap z=z % 256:=by
  unfold Pe;simp only[G0,G6];rfl
 refine⟨UInt8.ofNat (z % 256).toNat,?_⟩;rw[e,UInt8.toNat_ofNat'];omega
theorem tm{z m:Int}(h:0<=z)(hm:0<m):0<=z.tmod m/\z.tmod m<m:=⟨Int.tmod_nonneg _ h,Int.tmod_lt_of_pos _ hm⟩
theorem td{z m k:Int}(h:0<=z)(hm:0<m)(hz:z<m*k):0<=z.tdiv m/\z.tdiv m<k:=by
 rw[Int.tdiv_eq_ediv_of_nonneg h];exact⟨Int.ediv_nonneg h (Int.le_of_lt hm),Int.ediv_lt_of_lt_mul hm (by rw[Lj];exact hz)⟩
theorem w32{z:Int}(h:0<=z)(h2:z<=4294967295):u32.wrap z=z:=Zs6 ⟨h,h2⟩
theorem Zas{X:Int}{K:Int->Prop}(h:0<=X)(h2:X<=199)(H:∀b:UInt8,K (b.toNat:Int)):qy zL1 X K:=
 Zdw h (by have:(zL1:ByteArray).size=200:=rfl;rw[this];omega) λb _=>H b
theorem zez{X:Int}{K:Int->Prop}(h:0<=X/\X<100)(H:∀b:UInt8,K (b.toNat:Int)):qy zL1 (u32.wrap (u32.wrap (X*2)+1)) K:=by
 refine Zas (Zf0 _).1 ?_ H;rw[w32 (z:=X*2) (by omega) (by omega),w32 (by omega) (by omega)];omega
theorem zb1{X:Int}{K:Int->Prop}(h:0<=X/\X<100)(H:∀b:UInt8,K (b.toNat:Int)):qy zL1 (u32.wrap (X*2)) K:=by
 refine Zas (Zf0 _).1 ?_ H;rw[w32 (by omega) (by omega)];omega
section
variable {D h : Hp} {arr a : Sl} {bs : List UInt8} {Kt : ByteArray → Hp → Prop}
theorem z0b{i v:Int}{K:Hp->Prop}(ho:Own D h 1 arr (Xk bs))(ha:a.a=arr.a)(hal:a.len<=arr.len)(h0:0<=i)(h1:i<a.len)(hv:∃b:UInt8,v=(b.toNat:Int))
 (H:∀h' bs',Own D h' 1 arr (Xk bs')->bs'.length=bs.length->K h'):zg a i 1 λp=>stP p [.int .u8 v] K h:=by
 obtain⟨b,rfl⟩:=hv;have hl:=ho.2.1;rw[z4h,J7]at hl;have key:zg arr i 1 λp=>stP p [.int .u8 (b.toNat:Int)] K h:=by
  refine zxm i.toNat ho (by omega) (by omega) rfl (by decide) rfl λh' ho'=>H h' (bs.set i.toNat b) ?_ (by simp)
  rw[J7,z4w]at ho';have e:Xk (bs.set i.toNat b)=(Xk bs).take i.toNat++.int .u8 (b.toNat:Int) :: (Xk bs).drop (i.toNat+1):=by
   unfold Xk;rw[List.map_set,List.set_eq_take_append_cons_drop,if_pos (by simp;omega)]
  rw[e];exact ho'
 obtain⟨k1,k2,k3⟩:=key;refine⟨h0,h1,?_⟩;rw[ha];exact k3
theorem Zdt{u:Int}{K:Unit->Hp->Prop}(ho:Own D h 1 arr (Xk bs))(ha:a.a=arr.a)(hal:a.len<=arr.len)(hlen:a.len<=1000)(hu:0<=u)(H:∀h' bs',Own D h' 1 arr (Xk bs')->bs'.length=bs.length->K () h'):F.Qa a u K h:=by
 unfold F.Qa;refine Zp (λst h'=>0<=st.1/\0<=st.2.1/\st.2.1<=a.len/\∃cs,Own D h' 1 arr (Xk cs)/\cs.length=bs.length) (λst=>st.2.1.toNat) ⟨hu,by simp only;omega,Int.le_refl _,bs,ho,rfl⟩ ?_;rintro⟨u,i,_⟩ g ⟨hu0,hi0,hi1,cs,ho,hcs⟩;simp only at hu0 hi0 hi1;have w:∀k:Int,0<=k->k<=8->i64.wrap (i-k)=i-k:=λk _ _=>w64 (by omega)
 refine ze (λh8=>?_) (λh8=>?_)
 . simp only at h8 |-
   refine⟨by decide,by decide,by decide,by decide,by decide,by decide,by decide,by decide,?_⟩;obtain⟨A,hA⟩:∃A,A=u32.wrap (u.tmod 100000000):=⟨_,rfl⟩;have a1:=tm (m:=100000000) hu0 (by decide);have eA:A=u.tmod 100000000:=by rw[hA,w32 (by omega) (by omega)]
   rw[<-hA];have A0:0<=A:=by omega
   have b1:=tm (m:=10000) A0 (by decide);have c1:=tm (m:=100) b1.1 (by decide);have d1:=td (m:=100) (k:=100) b1.1 (by decide) (by omega);have e1:=td (m:=10000) (k:=10000) A0 (by decide) (by omega);rw[w32 (z:=(A.tmod 10000).tdiv 100) (by omega) (by omega),w32 (z:=A.tdiv 10000) (by omega) (by omega)];have f1:=tm (m:=100) e1.1 (by decide);have g1:=td (m:=100) (k:=100) e1.1 (by decide) (by omega);rw[w32 (z:=(A.tdiv 10000).tdiv 100) (by omega) (by omega)];refine zez c1 λx1=>zb1 c1 λx2=>?_
   refine z0b ho ha hal (by rw[w _ (by decide) (by decide)];omega) (by rw[w _ (by decide) (by decide)];omega) ⟨_,rfl⟩ λh1 s1 o1 q1=>?_
   refine z0b o1 ha hal (by rw[w _ (by decide) (by decide)];omega) (by rw[w _ (by decide) (by decide)];omega) ⟨_,rfl⟩ λh2 s2 o2 q2=>?_
   refine zez d1 λx3=>zb1 d1 λx4=>?_
   refine z0b o2 ha hal (by rw[w _ (by decide) (by decide)];omega) (by rw[w _ (by decide) (by decide)];omega) ⟨_,rfl⟩ λh3 s3 o3 q3=>?_
   refine z0b o3 ha hal (by rw[w _ (by decide) (by decide)];omega) (by rw[w _ (by decide) (by decide)];omega) ⟨_,rfl⟩ λh4 s4 o4 q4=>?_
   refine zez f1 λx5=>zb1 f1 λx6=>?_
   refine z0b o4 ha hal (by rw[w _ (by decide) (by decide)];omega) (by rw[w _ (by decide) (by decide)];omega) ⟨_,rfl⟩ λh5 s5 o5 q5=>?_
   refine z0b o5 ha hal (by rw[w _ (by decide) (by decide)];omega) (by rw[w _ (by decide) (by decide)];omega) ⟨_,rfl⟩ λh6 s6 o6 q6=>?_
   refine zez g1 λx7=>zb1 g1 λx8=>?_
   refine z0b o6 ha hal (by rw[w _ (by decide) (by decide)];omega) (by rw[w _ (by decide) (by decide)];omega) ⟨_,rfl⟩ λh7 s7 o7 q7=>?_
   refine z0b o7 ha hal (by rw[w _ (by decide) (by decide)];omega) (by rw[w _ (by decide) (by decide)];omega) ⟨_,rfl⟩ λh9 s9 o9 q9=>?_
   refine⟨⟨?_,?_,?_,s9,o9,by omega⟩,?_⟩
   . show 0<=u64.wrap _;unfold Pe;simp only[G0,G6];exact Int.emod_nonneg _ (by decide)
   . show 0<=i64.wrap _;rw[w _ (by decide) (by decide)];omega
   . show i64.wrap _<=_;rw[w _ (by decide) (by decide)];omega
   . show(i64.wrap _).toNat<i.toNat;rw[w _ (by decide) (by decide)];omega
 . simp only at h8 |-
   obtain⟨U,hU⟩:∃U,U=u32.wrap u:=⟨_,rfl⟩;have uU:=Zf0 u;rw[<-hU]at uU |-
   refine zh (λs h'=>0<=s.1/\s.1<=a.len/\s.1<4/\0<=s.2.1/\∃cs,Own D h' 1 arr (Xk cs)/\cs.length=bs.length) ?_ ?_
   . rintro⟨j,v,_⟩ g2 ⟨j0,j1,j4,v0,cs2,o2,q2⟩;simp only at j0 j1 j4 v0 |-
     have w2:∀k:Int,0<=k->k<=8->i64.wrap (j-k)=j-k:=λk _ _=>w64 (by omega)
     refine zh (λs h'=>s.1<=a.len/\∃cs,Own D h' 1 arr (Xk cs)/\cs.length=bs.length) ?_ ?_
     . rintro⟨m,v,_⟩ g3 ⟨m1,cs3,o3,q3⟩;simp only at m1 |-
       refine ze (λh5=>?_) (λ_=>H _ _ o3 q3);exact z0b o3 ha hal (by decide) (by omega) (u8r _) λh6 s6 o6 q6=>H _ _ o6 (by omega)
     . refine ze (λh5=>?_) (λ_=>⟨j1,cs2,o2,q2⟩);have c1:=tm (m:=100) v0 (by decide);refine⟨by decide,by decide,zez c1 λx1=>zb1 c1 λx2=>?_⟩;refine z0b o2 ha hal (by rw[w2 _ (by decide) (by decide)];omega) (by rw[w2 _ (by decide) (by decide)];omega) ⟨_,rfl⟩ λh6 s6 o6 q6=>?_
       refine z0b o6 ha hal (by rw[w2 _ (by decide) (by decide)];omega) (by rw[w2 _ (by decide) (by decide)];omega) ⟨_,rfl⟩ λh7 s7 o7 q7=>?_
       exact⟨by show i64.wrap _<=_;rw[w2 _ (by decide) (by decide)];omega,s7,o7,by omega⟩
   . refine ze (λh4=>?_) (λh4=>⟨hi0,hi1,by simp only;omega,uU.1,cs,ho,hcs⟩);have b1:=tm (m:=10000) uU.1 (by decide);have c1:=tm (m:=100) b1.1 (by decide);have d1:=td (m:=100) (k:=100) b1.1 (by decide) (by omega);refine⟨by decide,by decide,by decide,by decide,?_⟩;rw[w32 (z:=(U.tmod 10000).tdiv 100) (by omega) (by omega)];refine zez c1 λx1=>zb1 c1 λx2=>?_
     refine z0b ho ha hal (by rw[w _ (by decide) (by decide)];omega) (by rw[w _ (by decide) (by decide)];omega) ⟨_,rfl⟩ λh1 s1 o1 q1=>?_
     refine z0b o1 ha hal (by rw[w _ (by decide) (by decide)];omega) (by rw[w _ (by decide) (by decide)];omega) ⟨_,rfl⟩ λh2 s2 o2 q2=>?_
     refine zez d1 λx3=>zb1 d1 λx4=>?_
     refine z0b o2 ha hal (by rw[w _ (by decide) (by decide)];omega) (by rw[w _ (by decide) (by decide)];omega) ⟨_,rfl⟩ λh3 s3 o3 q3=>?_
     refine z0b o3 ha hal (by rw[w _ (by decide) (by decide)];omega) (by rw[w _ (by decide) (by decide)];omega) ⟨_,rfl⟩ λh5 s5 o5 q5=>?_
     refine⟨?_,?_,?_,(Zf0 _).1,s5,o5,by omega⟩
     . show 0<=i64.wrap _;rw[w _ (by decide) (by decide)];omega
     . show i64.wrap _<=_;rw[w _ (by decide) (by decide)];omega
     . show i64.wrap _<4;rw[w _ (by decide) (by decide)];omega
theorem zh0(n:Nat):1<=dg9 n/\dg9 n<=9:=by
 unfold dg9
 (repeat' split)<;>omega
theorem zit{x:Nat}(ht:P10 h)(hx:x<1000000000)(H:∀s h',h.le h'->s.size=dg9 x->Kt s h'):zc (F.Wt (x:Int) 10) Kt h:=by
 refine zd (λs h'=>s.size=dg9 x) (λK' hk=>?_) λb h' hl hb=>H b h' hl hb
 unfold F.Wt;refine zd (λs h'=>s.size=dg9 x) (λK2 hk2=>?_) λb h' hl hb=>hk _ _ hl hb
 unfold F.X7;refine Z4 rfl ?_;refine ze (λh1=>?_) (λh1=>?_)
 . rw[Zp9 (by omega)];refine zd (λs h'=>s.size=dg9 x) (λK3 hk3=>?_) λb h' hl hb=>hk2 _ _ hl hb
   unfold F.z03;refine ze (λh2=>?_) (λh2=>?_)
   . rw[w64 (by omega)];refine z8l (by omega) (by omega) (by have:(zL6:ByteArray).size=36:=rfl;rw[this];omega) λt ht _=>hk3 _ _ (Hp.le_refl _) ?_
     unfold dg9;rw[if_pos (by omega)];omega
   . rw[w64 (n:=(x:Int)*2) (by omega),w64 (by omega)];refine z8l (by omega) (by omega) (by have:(zL1:ByteArray).size=200:=rfl;rw[this];omega) λt ht _=>hk3 _ _ (Hp.le_refl _) ?_
     unfold dg9;rw[if_neg (by omega),if_pos (by omega)];omega
 . have d9:=zh0 x;refine z3s (n:=24) (size:=1) rfl λb h2 hb ho=>?_
   refine zkx (ht.le ho.1) (by omega) hx λh3 hl3=>?_
   have ho3:=ho.le hl3;refine⟨by decide,by omega,by simp only;omega,?_⟩;refine Xm ?_;obtain⟨arr,harr⟩:∃arr:Sl,arr=⟨some ⟨b,0,none⟩,24,24⟩:=⟨_,rfl⟩;rw[<-harr]at ho3 |-
   have ea:(arr.cut (0:Int).toNat ((dg9 x:Nat):Int).toNat 1).a=arr.a:=by rw[harr];rfl
   have el:(arr.cut (0:Int).toNat ((dg9 x:Nat):Int).toNat 1).len=dg9 x:=by show((dg9 x:Nat):Int).toNat-0=_;omega
   have al:arr.len=24:=by rw[harr]
   refine Zdt (bs:=List.replicate 24 0) ho3 ea (by omega) (by omega) (by omega) λh4 bs ho4 hbs=>?_
   rw[List.length_replicate]at hbs;refine⟨by decide,by omega,by rw[harr];simp only;omega,bs.take (dg9 x),?_,hk2 _ _ ho4.1 ?_⟩
   . rw[ea,el,harr];have hr:=ho4.rd.2;rw[z4h,hbs,harr]at hr;have key:∀{m n:Nat} {L:List Value} {a:Addr},Z3 h4 a m=some L->n<=m->Z3 h4 a n=some (L.take n):=by
      intro m;induction m with
      | zero=>
        intro n L a e hn;have:n=0:=by omega
        subst this;simp[Z3]
      | succ m ih=>
        intro n L a e hn;have hl:=z33 e;by_cases h1:n=m+1
        . subst h1;rw[e,Jd (by omega)]
        . unfold Z3 at e;split at e
          . rename_i l1 h2;split at e
            . rename_i v hv;simp only[Jm]at e;subst e;have h3:=z33 h2;rw[ih h2 (show n<=m by omega),Jx (by omega)]
            . cases e
          . cases e
     have:=key hr (n:=dg9 x) (by omega);unfold Xk at this;rw[List.map_take];exact this
   . show(bs.take (dg9 x)).toArray.size=_;simp;omega
end
end Den
end

section
namespace Den
open Go Iv
section
variable {h : Hp} {l : Sl} {B : Nat} {xs : List TRat} {vs : List Rat} {v0 : Rat} {KV : TInterval → Hp → Prop} {Ks : Sl → Hp → Prop}
abbrev q8(s:Bool×Sl×Bool×Sl×Bool×Sl×Bool×Sl×Unit):TInterval:=⟨⟨⟨s.1,s.2.1⟩,⟨s.2.2.1,s.2.2.2.1⟩⟩,⟨⟨s.2.2.2.2.1,s.2.2.2.2.2.1⟩,⟨s.2.2.2.2.2.2.1,s.2.2.2.2.2.2.2.1⟩⟩⟩
end
end Den
end

section
namespace Iv
open Den
def hi4(a b c d:Rat):Rat:=[b,c,d].foldl hiS a
end Iv
namespace Den
open Go Iv
section
variable {h : Hp} {a b : TInterval} {x : TRat} {p al au bl bu : Rat} {j k : Nat} {Ki : Int → Hp → Prop} {Kb : Bool → Hp → Prop} {KR : TRat → Hp → Prop} {KV : TInterval → Hp → Prop} {KVE : (TInterval × Int) → Hp → Prop} {KIB : (Int × Bool) → Hp → Prop} {KVB : (TInterval × Bool) → Hp → Prop}
theorem Zhx:BR 1 ((1:Int):Rat):=⟨by unfold Lt;decide,by unfold Lt;decide⟩
end
end Den
end

section
namespace Iv
open Den
end Iv
end

section
namespace Den
open Go Iv
section
variable {h : Hp} {a b : TInterval} {x : TRat} {y : TInt} {p al au bl bu : Rat} {N : Int} {j k : Nat} {Ki : Int → Hp → Prop} {Kb : Bool → Hp → Prop} {KI : TInt → Hp → Prop} {KR : TRat → Hp → Prop} {KV : TInterval → Hp → Prop} {KVE : (TInterval × Int) → Hp → Prop} {KIB : (Int × Bool) → Hp → Prop} {KVB : (TInterval × Bool) → Hp → Prop}
end
end Den
end

section
namespace Iv
end Iv
namespace Den
open Go Iv
section
variable {h : Hp} {a b : TInterval} {x : TRat} {y : TInt} {p al au bl bu : Rat} {j k : Nat} {KVE : (TInterval × Int) → Hp → Prop}
end
end Den
end

section
namespace Den
open Go Iv
def AI(h:Hp)(a:TInt):Prop:=∃l,RdW h a.mag l/\okW l
def AR(h:Hp)(x:TRat):Prop:=AI h x.num/\AI h x.den
theorem AI.le{h h':Hp}{a:TInt}(ha:AI h a)(hl:h.le h'):AI h' a:=by obtain⟨l,h1,h2⟩:=ha;exact⟨l,h1.le hl,h2⟩
theorem AR.le{h h':Hp}{x:TRat}(hx:AR h x)(hl:h.le h'):AR h' x:=⟨hx.1.le hl,hx.2.le hl⟩
theorem Zcw:∀{l m:List Nat},wc l=wc m->l=m
 | [],[],_=>rfl
 | [],_ :: _,h=>by simp[wc]at h
 | _ :: _,[],h=>by simp[wc]at h
 | x :: r,y :: t,h=>by
   simp only[wc,List.map_cons,List.cons.injEq,Value.int.injEq,true_and]at h;rw[Zcw (l:=r) (m:=t) h.2,show x=y by omega]
theorem RdW.uniq{h:Hp}{x:Sl}{l m:List Nat}(h1:RdW h x l)(h2:RdW h x m):l=m:=by
 have a1:=h1.1;have a2:=h2.1;have e:(wc l).length=(wc m).length:=by rw[<-a1.1,<-a2.1]
 have b1:=a1.2;have b2:=a2.2;rw[e,b2]at b1;exact(Zcw (J9 b1)).symm
theorem NI.inj{h:Hp}{a:TInt}{m n:Int}(h1:NI h a m)(h2:NI h a n):m=n:=by
 have e:=Zim (h1.1.uniq h2.1);have e2:decide (m<0)=decide (n<0):=by rw[<-h1.2,<-h2.2]
 have e3:m<0↔n<0:=by simpa using e2
 omega
theorem Z2u{h:Hp}{a:TInt}{l:List Nat}(hr:RdW h a.mag l)(ok:okW l):(∃n,NI h a n)↔Qp l=l/\(a.neg=true->l≠[]):=by
 constructor
 . rintro⟨n,hn⟩;have e:=hr.uniq hn.1;subst e;refine⟨zqm _,λhneg he=>?_⟩;rw[hn.2]at hneg;have h1:n<0:=by simpa using hneg
   have:=z0v.1 he;omega
 . rintro⟨h1,h2⟩;have e:=Z0o ok h1;refine⟨sg a.neg (vl l),?_,?_⟩
   . rw[zaz,<-e];exact hr
   . cases hb:a.neg with
     | false=>simp[sg]
     | true=>
       have h3:=h2 hb;have h4:vl l≠0:=λh0=>h3 (by rw[e,h0,qz])
       simp[sg];omega
theorem Z2v{h:Hp}{x:TRat}{m n:Int}(h1:NI h x.num m)(h2:NI h x.den n):(∃q,NR h x q)↔0<n/\Tu m.natAbs n.natAbs=1:=by
 constructor
 . rintro⟨q,hq⟩;have e1:=h1.inj hq.1;have e2:=h2.inj hq.2;subst e1 e2;exact⟨Zsc q,by rw[zaf];exact q.reduced⟩
 . rintro⟨h3,h4⟩;have hnn:n.toNat=n.natAbs:=by omega
   refine⟨⟨m,n.toNat,by omega,by rw[hnn];exact h4⟩,h1,?_⟩;show NI h x.den ((n.toNat:Nat):Int);rw[Int.toNat_of_nonneg (by omega)];exact h2
section
variable {h : Hp} {a : TInt} {x : TRat} {v : TInterval} {Kb : Bool → Hp → Prop}
theorem zig(ha:AI h a)(hl:a.mag.len<=35184372087808)(H1:∀n,NI h a n->Kb true h)(H0:(¬∃n,NI h a n)->Kb false h):zc (F.z61 a) Kb h:=by
 obtain⟨l,hr,ok⟩:=ha;have ll:=hr.len;have hiff:=Z2u hr ok;refine zd (λb h'=>h'=h/\(b=true/\(∃n,NI h a n)\/b=false/\¬∃n,NI h a n)) (λK' hk=>?_) λb h' _ ⟨e,hv⟩=>by
  subst e;rcases hv with ⟨rfl,n,hn⟩ | ⟨rfl,hn⟩
  . exact H1 n hn
  . exact H0 hn
 unfold F.z61;refine Ws hr (by omega) λy hy=>?_
 have ly:=hy.len;refine zu (λh1=>?_) (λh1=>?_)
 . have hlen:(Qp l).length=l.length:=by omega
   have ht:Qp l=l:=by
    have:=Z2l l;rw[hlen,Jd (Ja _)]at this;exact this
   refine zi (λh2=>?_) (λh2=>?_)
   . refine hk _ _ (Hp.le_refl _) ⟨rfl,.inl ⟨rfl,hiff.2 ⟨ht,λhn=>?_⟩⟩⟩;rw[hn]at h2;cases h2
   . refine hk _ _ (Hp.le_refl _) ⟨rfl,?_⟩;have hneg:a.neg=true:=by simpa using h2
     by_cases h3:(a.mag.len:Int)>0
     . exact .inl ⟨decide_eq_true h3,hiff.2 ⟨ht,λ_ he=>by rw[he]at ll;simp at ll;omega⟩⟩
     . refine .inr ⟨decide_eq_false h3,λhn=>(hiff.1 hn).2 hneg (Ud.1 (by omega))⟩
 . refine hk _ _ (Hp.le_refl _) ⟨rfl,.inr ⟨rfl,λhn=>h1 ?_⟩⟩;have:=(hiff.1 hn).1;rw[this]at ly;omega
theorem Zc3{l:List Nat}{n:Nat}(hn:l.length=n+1):Qp l=l↔l[n]≠0:=by
 have e:l=l.take n++[l[n]]:=by
  have:=U5 (l:=l) (i:=n) (by omega);rw[Jd (by omega)]at this;exact this
 constructor
 . intro h1 h0;have h2:Qp l=Qp (l.take n):=by
    conv=>lhs;rw[e,h0]
    exact z8b _
   have h3:=Zc4 (l.take n);rw[<-h2,h1,Jl]at h3;omega
 . intro h0
   conv=>lhs;rw[e]
   rw[z9e _ h0];exact e.symm
theorem zjg(ha:AI h a)(hl:a.mag.len<=35184372087808)(H1:∀n,NI h a n->Kb true h)(H0:(¬∃n,NI h a n)->Kb false h):zc (F.z2g a) Kb h:=by
 obtain⟨l,hr,ok⟩:=ha;have ll:=hr.len;have hiff:=Z2u hr ok;refine zd (λb h'=>h'=h/\(b=true/\(∃n,NI h a n)\/b=false/\¬∃n,NI h a n)) (λK' hk=>?_) λb h' _ ⟨e,hv⟩=>by
  subst e;rcases hv with ⟨rfl,n,hn⟩ | ⟨rfl,hn⟩
  . exact H1 n hn
  . exact H0 hn
 unfold F.z2g;refine zu (λh1=>?_) (λh1=>?_)
 . have hnil:l=[]:=Ud.1 (by omega);refine zi (λh2=>?_) (λh2=>?_)
   . refine hk _ _ (Hp.le_refl _) ⟨rfl,.inl ⟨rfl,hiff.2 ⟨by rw[hnil];rfl,λhn=>?_⟩⟩⟩;rw[hn]at h2;cases h2
   . have hneg:a.neg=true:=by simpa using h2
     refine ze (λh3=>by omega) (λh3=>hk _ _ (Hp.le_refl _) ⟨rfl,.inr ⟨rfl,λhn=>(hiff.1 hn).2 hneg hnil⟩⟩)
 . obtain⟨n,hn⟩:∃n,l.length=n+1:=⟨l.length-1,by omega⟩;refine ze (λh3=>?_) (λh3=>by omega);refine Z6 n hr (by rw[ll,hn,w64 (by omega)];omega) (by omega) λu hu=>⟨_,hu,hk _ _ (Hp.le_refl _) ⟨rfl,?_⟩⟩
   have htt:=Zc3 hn;by_cases h4:l[n]=0
   . refine .inr ⟨by rw[h4];rfl,λhh=>(htt.1 (hiff.1 hh).1) h4⟩
   . refine .inl ⟨by simp;omega,hiff.2 ⟨htt.2 h4,λ_ he=>by rw[he]at hn;simp at hn⟩⟩
theorem zca{n:Int}(ha:NI h a n)(hl:a.mag.len<=35184372087808):(dg n.natAbs).length<=35184372087808:=by have:=ha.len;omega
theorem zq5(hx:AR h x)(hl1:x.num.mag.len<=35184372087808)(hl2:x.den.mag.len<=35184372087808)(H1:∀q h',h.le h'->NR h x q->Kb true h')(H0:∀h',h.le h'->(¬∃q,NR h x q)->Kb false h'):zc (F.V5 x) Kb h:=by
 refine zd (λb h'=>b=true/\(∃q,NR h x q)\/b=false/\¬∃q,NR h x q) (λK' hk=>?_) λb h' hl hv=>by
  rcases hv with ⟨rfl,n,hn⟩ | ⟨rfl,hn⟩
  . exact H1 n h' hl hn
  . exact H0 h' hl hn
 unfold F.V5;refine zig hx.1 hl1 (λm hm=>Z4 rfl (zig hx.2 hl2 (λn hn=>Z4 rfl ?_) (λhn=>zr rfl (hk _ _ (Hp.le_refl _) (.inr ⟨rfl,λ⟨q,hq⟩=>hn ⟨_,hq.2⟩⟩))))) (λhn=>zr rfl (hk _ _ (Hp.le_refl _) (.inr ⟨rfl,λ⟨q,hq⟩=>hn ⟨_,hq.1⟩⟩)));have hiff:=Z2v hm hn;have s:=Xz n;refine zcp hn (zca hn hl2) (ze (λh1=>?_) (λh1=>hk _ _ (Hp.le_refl _) (.inr ⟨rfl,λhh=>by have:=(hiff.1 hh).1;omega⟩)));refine zld hm hn (zca hm hl1) (zca hn hl2) λz h2 hl hz=>zhg hz (hk _ _ hl ?_)
 by_cases h3:Tu m.natAbs n.natAbs=1
 . exact .inl ⟨decide_eq_true (by rw[h3];rfl),hiff.2 ⟨by omega,h3⟩⟩
 . exact .inr ⟨decide_eq_false (λhh=>h3 (by omega)),λhh=>h3 (hiff.1 hh).2⟩
theorem zcn(hx:AR h x)(hl1:x.num.mag.len<=35184372087808)(hl2:x.den.mag.len<=35184372087808)(H1:∀q h',h.le h'->NR h x q->Kb true h')(H0:∀h',h.le h'->(¬∃q,NR h x q)->Kb false h'):zc (F.Qg x) Kb h:=by
 refine zd (λb h'=>b=true/\(∃q,NR h x q)\/b=false/\¬∃q,NR h x q) (λK' hk=>?_) λb h' hl hv=>by
  rcases hv with ⟨rfl,n,hn⟩ | ⟨rfl,hn⟩
  . exact H1 n h' hl hn
  . exact H0 h' hl hn
 unfold F.Qg;refine zjg hx.1 hl1 (λm hm=>Z4 rfl (zjg hx.2 hl2 (λn hn=>Z4 rfl ?_) (λhn=>zr rfl (hk _ _ (Hp.le_refl _) (.inr ⟨rfl,λ⟨q,hq⟩=>hn ⟨_,hq.2⟩⟩))))) (λhn=>zr rfl (hk _ _ (Hp.le_refl _) (.inr ⟨rfl,λ⟨q,hq⟩=>hn ⟨_,hq.1⟩⟩)));have hiff:=Z2v hm hn;have s:=Xz n;refine zed hn (zca hn hl2) (ze (λh1=>?_) (λh1=>hk _ _ (Hp.le_refl _) (.inr ⟨rfl,λhh=>by have:=(hiff.1 hh).1;omega⟩)));refine zmt hm hn (zca hm hl1) (zca hn hl2) λz h2 hl hz=>z4j hz (hk _ _ hl ?_)
 by_cases h3:Tu m.natAbs n.natAbs=1
 . exact .inl ⟨decide_eq_true (by rw[h3];rfl),hiff.2 ⟨by omega,h3⟩⟩
 . exact .inr ⟨decide_eq_false (λhh=>h3 (by omega)),λhh=>h3 (hiff.1 hh).2⟩
theorem Zph{q:Rat}{k:Nat}(hq:NR h x q)(h1:x.num.mag.len<=k)(h2:x.den.mag.len<=k):BR k q:=by
 have e1:=hq.1.len;have e2:=hq.2.len;exact⟨Y6.1 (by omega),Y6.1 (by omega)⟩
end
end Den
end

section
namespace Den
open Go Iv Lx
theorem zdj{S:Type}{body:S->(S->Hp->Prop)->Hp->Prop}{s0:S}{h0:Hp}(J:Nat->S->Hp->Prop){n0:Nat}(h1:J n0 s0 h0)
 (h2:∀n s h,J n s h->∀K:S->Hp->Prop,(∀n' s' h',n'<n->J n' s' h'->K s' h')->body s K h):zn body s0 h0:=by
 have least:∀s h,(∃n,J n s h)->∃n,J n s h/\∀m,J m s h->n<=m:=by
  rintro s h ⟨n,hn⟩;induction n using Nat.strongRecOn with
  | _ n ih=>
    by_cases hh:∃m,m<n/\J m s h
    . obtain⟨m,g1,g2⟩:=hh;exact ih m g1 g2
    . exact⟨n,hn,λm hm=>Nat.not_lt.1 λhlt=>hh ⟨m,hlt,hm⟩⟩
 classical
 obtain⟨μ,hμ⟩:∃μ:S->Hp->Nat,∀s h,(∃n,J n s h)->J (μ s h) s h/\∀m,J m s h->μ s h<=m:=
  ⟨λs h=>if hh:∃n,J n s h then (least s h hh).choose else 0,λs h hh=>by
   simp only[dif_pos hh];exact(least s h hh).choose_spec⟩
 refine⟨λs h=>∃n,J n s h,μ,⟨n0,h1⟩,λs h hI=>?_⟩;obtain⟨g1,g2⟩:=hμ s h hI;exact h2 _ s h g1 _ λn' s' h' hlt hJ=>⟨⟨n',hJ⟩,Gb ((hμ s' h' ⟨n',hJ⟩).2 n' hJ) hlt⟩
section
variable {h0 h : Hp} {x y : Sl} {l : List Nat} {Ks : Sl → Hp → Prop} {Kt : ByteArray → Hp → Prop}
theorem zn3(x:Sl)(n size:Nat):(x.cut 0 n size).a=x.a:=by
 show(if x.cap=0 then x.a else x.a.map (·.add (0*size)))=x.a;split
 . rfl
 . cases x.a with
   | none=>rfl
   | some a=>simp only[U0,Pn,Zw]
theorem Own.pre{cs:List Value}(ho:Own h0 h 1 x cs){n:Nat}(hn:n<=x.len):Own h0 h 1 (x.cut 0 n 1) (cs.take n):=by
 have hc:=ho.2.2.1;obtain⟨g1,g2,g3,g4⟩:=ho;refine⟨g1,?_,?_,?_⟩
 . show(n-0)*1=_;rw[Jl];omega
 . show n-0<=x.cap-0;omega
 . rw[zn3];cases ha:x.a with
   | none=>
     rw[ha]at g4;simp only at g4 |-
     show x.cap-0=0;omega
   | some a=>
     rw[ha]at g4;obtain⟨k1,k2,k3,b,k4,k5,k6,k7⟩:=g4;refine⟨k1,k2,k3,b,k4,k5,k6,?_⟩;have e:(cs.take n).length=n:=by rw[Jl];omega
     rw[e];have:=congrArg (List.take n) k7;rw[List.take_take,Gk (by omega)]at this;exact this
theorem zya(ho:Yl h0 h x l)(hl:l.length<4611686018427387904)(H:∀y,Yl h0 h y (Qp l)->y.a=x.a->Ks y h):zc (F.zy x) Ks h:=by
 refine zd (λy h'=>h'=h/\Yl h0 h y (Qp l)/\y.a=x.a) (λK' hk=>?_) λy h' _ ⟨e,hy,ha⟩=>by subst e;exact H y hy ha
 unfold F.zy;refine Zp (λst h'=>h'=h/\∃(y:Sl) (k:Nat),st=(y,())/\k<=l.length/\Yl h0 h y (l.take k)/\Qp (l.take k)=Qp l/\y.a=x.a) (λst=>st.1.len)
  ⟨rfl,x,l.length,rfl,Ja _,by rw[Jd (Ja _)];exact ho,by rw[Jd (Ja _)],rfl⟩ ?_
 rintro st h' ⟨rfl,y,k,rfl,hk2,hy,ht,ha⟩;have hyl:=Yl.len hy;rw[Jl,Gk hk2]at hyl;refine zh (λ_ h1=>h1=h'/\∃j,k=j+1/\∃hj:j<l.length,l[j]=0) ?_ ?_
 . rintro _ h1 ⟨rfl,j,rfl,hj,h0⟩;have hc:=hy.2.2.1;refine⟨by decide,by simp only;rw[hyl,w64 (by omega)];omega,by simp only;rw[hyl,w64 (by omega)];omega,?_⟩;have e:(i64.wrap ((y.len:Int)-1)).toNat=j:=by rw[hyl,w64 (by omega)];omega
   show((_/\_)/\_);rw[e];have hp:=hy.pre (n:=j) (by omega);have e2:(wc (l.take (j+1))).take j=wc (l.take j):=by
    unfold wc;rw[<-List.map_take,List.take_take];congr 2;omega
   rw[e2]at hp;refine⟨⟨rfl,_,j,rfl,by omega,hp,?_,by rw[<-ha];exact zn3 _ _ _⟩,?_⟩
   . rw[<-ht,U5 hj,h0,z8b]
   . show j-0<y.len;omega
 . refine ze (λh1=>?_) (λh1=>?_)
   . simp only at h1;obtain⟨j,rfl⟩:∃j,k=j+1:=⟨k-1,by omega⟩;have hj:j<l.length:=by omega
     refine Z6 j (Yl.rdW hy) (by simp only;rw[hyl,w64 (by omega)];omega) (by rw[Jl];omega) λa ha2=>⟨_,ha2,?_⟩
     have e:(l.take (j+1))[j]'(by rw[Jl];omega)=l[j]:=by simp
     rw[e];refine zu (λh2=>⟨rfl,j,rfl,hj,by omega⟩) (λh2=>?_);have h3:l[j]≠0:=by omega
     have:Qp (l.take (j+1))=l.take (j+1):=by
      rw[U5 hj,z9e _ h3]
     refine hk _ _ (Hp.le_refl _) ⟨rfl,?_,ha⟩;rw[<-ht,this];exact hy
   . simp only at h1;have:k=0:=by omega
     subst this;refine hk _ _ (Hp.le_refl _) ⟨rfl,?_,ha⟩;rw[<-ht];exact hy
theorem zbs(hr:RdW h x l)(hl:l.length<=35184372088800)(H:∀y h',Yl h h' y l->Ks y h'):zc (F.Zi x) Ks h:=by
 refine zd (λy h'=>Yl h h' y l) (λK' hk=>?_) λy h' _ hy=>H y h' hy
 unfold F.Zi;have hlen:=hr.len;refine zi (λh1=>?_) (λh1=>?_)
 . have hn:x.a=none:=by cases hx:x.a with | none=>rfl | some a=>rw[hx]at h1;cases h1
   have:l=[]:=by
    have h2:=hr.1.2;rw[hn]at h2;simp only[yc]at h2;split at h2
    . rename_i h3;rw[z9f]at h3;exact Ud.1 h3
    . cases h2
   subst this;exact hk _ _ (Hp.le_refl _) (Own.nil (Hp.le_refl _))
 . refine z3s (n:=0) (size:=1) rfl λb h1 hb ho=>?_
   have hr1:=hr.le ho.1;refine⟨wc l,?_,?_⟩
   . have:=hr1.1.2;rw[z9f]at this;rw[hlen,J7];exact this
   . refine z54 ho (n:=x.len) (by rw[z9f];omega) rfl ?_ (by simp only;omega) (by simp only;omega) λy h2 hy _=>hk _ _ hy.1 hy
     simp[wc,Gq]
theorem zf9{h0 h:Hp}{size bytes n:Nat}{zero new cs:List Value}{x:Sl}{K:Sl->Hp->Prop}(ho:Own h0 h size x cs)(hn:new.length=n*size)(hz:zero.length=size)
 (hleaf:new.all Gq=true) (hb:(x.len+n)*bytes<=140737488355328) (hb2:x.len+n<=140737488355328)
 (H:∀y h',Own h0 h' size y (cs++new)->y.len=x.len+n->(∀j,h j≠none->(∀a,x.a=some a->j≠a.block)->h' j=h j)->(∀a,y.a=some a->(∃a',x.a=some a'/\a'.block=a.block)\/h a.block=none)->K y h'):ql size bytes zero x n new K h:=by
 have hrd:=ho.rd;obtain⟨h1,h2,h3,h4⟩:=ho;refine⟨hb,hb2,λhfit=>?_,λhgrow=>?_⟩
 . cases ha:x.a with
   | none=>
     rw[ha]at h4;simp only at h4;have hn0:n=0:=by omega
     have hnew:new=[]:=by
      cases new with
      | nil=>rfl
      | cons a b=>rw[hn0]at hn;simp at hn
     subst hnew hn0;simp only[stO];refine H _ _ ⟨h1,?_,?_,?_⟩ rfl (λj _ _=>rfl) (λa hh=>by cases hh)
     . simpa using h2
     . show x.len+0<=x.cap;omega
     . show x.cap=0;exact h4
   | some a=>
     rw[ha]at h4;obtain⟨g1,g2,g3,b,g4,g5,g6,g7⟩:=h4;have e1:(x.len+n)*size=cs.length+new.length:=by rw[Js,h2,hn]
     have e2:cs.length+new.length<=b.cells.length:=by rw[g6,<-e1];exact Jj _ hfit
     simp only[stO];refine⟨b,by rw[Yr];exact g4,z0e g2 _,g5,?_,hleaf,?_⟩
     . rw[X4];omega
     . rw[Yr,X4,g1,Gi,h2];refine H _ _ ⟨?_,?_,hfit,?_⟩ rfl (λj hj hne=>Hp.ins_ne (hne a ha)) (λa' hh=>by cases hh;exact .inl ⟨a,ha,rfl⟩)
       . intro k bk hk;rw[Hp.ins_ne (λhh=>by subst hh;rw[g3]at hk;cases hk)];exact h1 k bk hk
       . show(x.len+n)*size=_;rw[Je];exact e1
       . refine⟨g1,g2,g3,_,Hp.ins_same _ _ _,g5,?_,?_⟩
         . show(Zc b.cells cs.length new).length=_;rw[Yj (by omega)];exact g6
         . show(Zc b.cells cs.length new).take _=cs++new;unfold Zc;rw[g7,Je,Jx (by rw[Je];exact Ja _),Jd (by rw[Je];exact Ja _)]
 . refine⟨cs,?_,λbk e c hc hfr=>?_⟩
   . rw[h2];exact hrd.2
   . refine H _ _ ⟨Hp.le_trans h1 (Hp.le_ins hfr),?_,hc,?_⟩ rfl (λj hj _=>Hp.ins_ne λhh=>hj (by rw[hh];exact hfr)) (λa' hh=>by cases hh;exact .inr hfr)
     . show(x.len+n)*size=_;rw[Je,Js,h2,hn]
     . refine⟨rfl,rfl,?_,_,Hp.ins_same _ _ _,rfl,?_,?_⟩
       . cases hk:h0 bk with
         | none=>rfl
         | some b=>have:=h1 _ _ hk;rw[hfr]at this;cases this
       . show(cs++new++yn (c-(x.len+n)) zero).length=c*size;have hr:(yn (c-(x.len+n)) zero).length=(c-(x.len+n))*size:=by
          unfold yn;simp[hz]
         rw[Je,Je,hr,hn,<-h2,<-Js,<-Js];congr 1;omega
       . show(cs++new++yn (c-(x.len+n)) zero).take _=cs++new;rw[Jx (by simp)];exact Jd (Ja _)
theorem Zau{l:List Nat}{i v:Int}{K:Hp->Prop}(k n:Nat)(ho:Yl h0 h x l)(hi:i=k)(hk:k<l.length)(hv:v=n)
 (H:∀h',Yl h0 h' x (l.set k n)->(∀j,(∀a,x.a=some a->j≠a.block)->h' j=h j)->K h'):zg x i 1 λa=>stP a [.int .u32 v] K h:=by
 subst hv;refine zzs k ho hi (by rw[Yl.len ho];exact hk) rfl (by decide) rfl λh' h1 h2=>H h' ?_ h2
 rw[J7]at h1;have e:wc (l.set k n)=Zc (wc l) k [Ge .u32 (n:Int)]:=by
  rw[z4w];unfold wc;rw[List.map_set,List.set_eq_take_append_cons_drop,if_pos (by simpa using hk)]
 unfold Yl;rw[e];exact h1
theorem zsq{h':Hp}{size:Nat}{cs:List Value}(ho:Own h0 h size y cs)(hap:Apt x y)(hs:∀j,h j≠none->(∀a,x.a=some a->j≠a.block)->h' j=h j)(hl:h0.le h'):Own h0 h' size y cs:=by
 obtain⟨g1,g2,g3,g4⟩:=ho;refine⟨hl,g2,g3,?_⟩;cases ha:y.a with
 | none=>rw[ha]at g4;exact g4
 | some a=>
   rw[ha]at g4;obtain⟨k1,k2,k3,b,k4,k5⟩:=g4;refine⟨k1,k2,k3,b,?_,k5⟩;rw[hs a.block (by rw[k4];simp) λc hc=>(hap c a hc ha).symm];exact k4
theorem Zs5{r w:Nat}(hr:r<1000000000)(hw:w<W) :
 u32.wrap (u64.wrap ((qu .or .u64 (u64.wrap ((r:Int)*2 ^ (min (32:Int).toNat u64.bits))) (u64.wrap (w:Int))).tdiv 1000000000))=(((r*W+w)/1000000000:Nat):Int):=by
 have:=zo7 (b:=1000000000) hr (by decide) hw;rw[show u64.wrap ((1000000000:Nat):Int)=1000000000 from by decide]at this;exact this
theorem Zdp{C:Sl}{cc:List Value}{ls:List Nat}{Kf:Int->Hp->Prop}(ho:Yl h0 h x ls)(okl:okW ls)(hl:ls.length<=35184372088800)(hc:Own h0 h 1 C cc)(hap:Apt x C)
 (H:∀h' ws,Yl h0 h' x ws->okW ws->ws.length=ls.length->vl ws=vl ls/1000000000->Own h0 h' 1 C cc->Kf ((vl ls % 1000000000:Nat):Int) h') :
 (zn (S:=Int×Int×Unit) (λs5 k6 h4=>
 (ifP (decide (s5.2.1>=0))
 (0<=(32:Int) /\
 (zg x s5.2.1 1 λa7=>
 (ldL (.int .u32) a7 (λx8=>
 ((1000000000:Int)≠0 /\
 (zg x s5.2.1 1 λa9=>
 (stP a9 [.int .u32 (u32.wrap ((u64.wrap (((qu .or .u64 (u64.wrap (s5.1*2 ^ (min (32:Int).toNat u64.bits))) (u64.wrap (x8))):Int).tdiv 1000000000))))] (λh5=>
 ((1000000000:Int)≠0 /\
 (k6 (((qu .or .u64 (u64.wrap (s5.1*2 ^ (min (32:Int).toNat u64.bits))) (u64.wrap (x8))):Int).tmod 1000000000,(i64.wrap (s5.2.1-1)),()) h5))) h4)))) h4)))
 (Kf s5.1 h4)))
 (0,(i64.wrap ((x.len:Int)-1)),()) h):=by
  have lx:=Yl.len ho;refine Zp (λst h'=>∃(k rem:Nat) (r:List Nat),st=((rem:Int),(k:Int)-1,())/\k<=ls.length/\rem<1000000000/\Yl h0 h' x r/\okW r/\r.length=ls.length/\r.take k=ls.take k/\vl (ls.drop k)=1000000000*vl (r.drop k)+rem/\Own h0 h' 1 C cc)
   (λst=>(st.2.1+1).toNat) ⟨ls.length,0,ls,by rw[lx,w64 (by omega)];rfl,Ja _,by decide,ho,okl,rfl,rfl,by rw[Uu (Ja _)];rfl,hc⟩ ?_
  rintro st h2 ⟨k,rem,r,rfl,hk,hrem,ho2,okr,hrl,htk,hv,hc2⟩;refine ze (λh3=>?_) (λh3=>?_)
  . obtain⟨j,rfl⟩:∃j,k=j+1:=⟨k-1,by have:(k:Int)-1>=0:=h3;omega⟩;have hj:j<ls.length:=by omega
    have hjr:j<r.length:=by omega
    have hw:=Qx okl hj;have hji:((j+1:Nat):Int)-1=(j:Int):=by omega
    have ejr:r[j]=ls[j]:=by
     have:=congrArg (λl:List Nat=>l[j]?) htk;simp only[List.getElem?_take,Nat.lt_succ_self,if_true]at this;rw[Jc hjr,Jc hj]at this;exact J9 this
    simp only[hji];refine⟨by decide,Z6 j (Yl.rdW ho2) rfl hjr λa ha=>⟨_,ha,by decide,?_⟩⟩;rw[ejr];refine Zau j _ ho2 rfl hjr (Zs5 hrem hw) λh5 ho5 hs5=>⟨by decide,?_⟩
    rw[zsp (by unfold W;omega) hw];have em:(((rem*W+ls[j]:Nat):Int)).tmod 1000000000=(((rem*W+ls[j]) % 1000000000:Nat):Int):=zo4 (rem*W+ls[j]) 1000000000;rw[em];refine⟨⟨j,_,_,by rw[w64 (by omega)],by omega,U2 _ (by decide),ho5,Vn okr (zqr hrem hw),by simp[hrl],?_,zo8 hj hrl hv,zsq hc2 hap (λi hi hne=>hs5 i hne) ho5.1⟩,by rw[w64 (by omega)];omega⟩;rw[List.take_set_of_le (Ja _)];have:=congrArg (List.take j) htk;rw[List.take_take,List.take_take,Gk (by omega)]at this;exact this
  . obtain rfl:k=0:=by have:¬(k:Int)-1>=0:=h3;omega
    simp only[Tw]at hv;have e1:vl ls/1000000000=vl r:=by rw[hv,Nat.mul_add_div (by decide),Tz hrem];omega
    have e2:vl ls % 1000000000=rem:=by rw[hv,Nat.mul_add_mod,Uj hrem]
    have:=H h2 r ho2 okr hrl e1.symm hc2;rw[e2]at this;exact this
end
end Den
end

section
namespace Den
open Go Iv Lx
section
variable {h0 h : Hp} {x y : Sl} {l : List Nat} {Ks : Sl → Hp → Prop} {Kt : ByteArray → Hp → Prop} {n : Nat}
theorem BLD.rebase{h':Hp}(hb:BLD h0 h n [])(hl:h.le h'):BLD (h'.del n) h' n []:=by
 obtain⟨q,x,h1,h2,h3,h4,h5,h6⟩:=hb;have ha:x.a=none:=h6.elim id λhh=>absurd rfl hh
 refine⟨q,x,hl _ _ h1,h2,Hp.del_same _ _,⟨⟨Hp.del_le _ _,h4.1.2.1,h4.1.2.2.1,?_⟩,λa b hh=>by rw[ha]at hh;cases hh⟩,h5,h6⟩;have:=h4.1.2.2.2;rw[ha]at this |-;exact this
theorem BLD.beside{α:Type}{D:Hp}{l:List UInt8}{G:(α->Hp->Prop)->Hp->Prop}{K1 K:α->Hp->Prop}(hb:BLD D h n l)(H:zc G K1 D)(k:∀v D' h',D.le D'->BLD D h' n l->K1 v D'->K v h'):zc G K h:=by
 refine zgu hb.hle H λv D' h' l1 l2 hfr hv=>k v D' h' l1 ?_ hv
 obtain⟨q,x,h1,h2,h3,h4,h5,h6⟩:=hb;have hn:=hfr n h3 (by rw[h1];simp);refine⟨q,x,by rw[hn.2];exact h1,h2,h3,⟨(h4.1.move l2 hfr).base l1,λa b ha hab=>?_⟩,h5,h6⟩;obtain⟨_,_,_,g4⟩:=h4.1;rw[ha]at g4;obtain⟨k1,k2,k3,b2,k4,k5⟩:=g4;have:=(hfr a.block k3 (by rw[k4];simp)).2;rw[this]at hab;exact h4.2 a b ha hab
theorem Zjm{b:Nat}{h h':Hp}(hl:h.le h')(hb:h b=none):h.le (h'.del b):=λk c hk=>by
 have hn:k≠b:=λhh=>by rw[hh,hb]at hk;cases hk
 unfold Hp.del;rw[if_neg hn];exact hl k c hk
def chl(cs:List Nat):Nat:=match cs.getLast? with
 | none=>0
 | some c=>dg9 c+9*(cs.length-1)
theorem Z3b(cs:List Nat)(c:Nat):chl (cs++[c])=dg9 c+9*cs.length:=by unfold chl;simp
theorem zoc{C:Sl}{cs:List Nat}{p:Nat}(hC:RdW h C cs)(hcs:∀c∈cs,c<1000000000)(hlen:cs.length<=2000)(hne:cs≠[])(ht:P10 h)(hb:BLD h h0 p [])
 (H:∀s h',h.le h'->s.size=chl cs->Kt s h') :
 zc (F.Yc C) (λr15 h10=>
 (zyk (S:=Unit) (.leaf (.int .u32)) r15 (λi16 v17 s18 k19 h11=>
 (zc (F.Wt (u64.wrap (v17)) 10) (λr21 h13=>
 (zv (S:=Unit) (λs22 h14=>
 (Qu (F.Zx (some ⟨p,0,none⟩) r21) (λr24 h15=>
 (k19 () h15)) h14))
 (λk23=>
 (ifP (decide (i16<(i64.wrap ((C.len:Int)-1))))
 (zc (F.V3 ⟨#[48]⟩ (i64.wrap (9-((r21:ByteArray).size:Int)))) (λr25 h16=>
 (Qu (F.Zx (some ⟨p,0,none⟩) r25) (λr26 h17=>
 (k23 () h17)) h16)) h13)
 (k23 () h13))))) h11))
 () (λs20 h12=>
 (Qu (F.Wa (some ⟨p,0,none⟩)) (λr27 h18=>
 (Kt r27 h18)) h12)) h10)) h0:=by
  have hCl:=hC.len;refine zd (λ(a:Addr) h'=>h'.cell a=some (.slice C.a C.len C.cap)/\a.block≠p) (λK' hk=>?_) λa h1 l1 ⟨ha,han⟩=>?_
  . unfold F.Yc;intro b e hbf;refine hk _ _ (Hp.le_ins hbf) ⟨?_,λhh=>?_⟩
    . unfold Hp.cell;simp[Hp.ins_same]
    . obtain⟨q,x,g1,_⟩:=hb;have hh2:b=p:=hh;rw[<-hh2,hbf]at g1;cases g1
  . have hp0:h p=none:=by obtain⟨q,x,g1,g2,g3,_⟩:=hb;exact g3
    have hb1:=hb.rebase l1;have hD:h.le (h1.del p):=Zjm (Hp.le_trans hb.hle l1) hp0;obtain⟨D,hDe⟩:∃D,D=h1.del p:=⟨_,rfl⟩;rw[<-hDe]at hb1 hD;have hCD:=hC.le hD;have htD:=ht.le hD;have haD:D.cell a=some (.slice C.a C.len C.cap):=by
     rw[hDe];unfold Hp.cell Hp.del at *;simp only[if_neg han];exact ha
    obtain⟨f,hf⟩:∃f:Nat->Nat,f=λk=>if k=cs.length then 0 else dg9 (cs.getLastD 0)+9*(cs.length-1-k):=⟨_,rfl⟩
    refine⟨C,λk s h'=>k<=cs.length/\∃l,BLD D h' p l/\l.length=f k,by omega,⟨by omega,[],hb1,by rw[hf];simp[hCl]⟩,λi s h' hI=>?_,λi s h' hi hI=>?_,λs h' hI=>?_⟩
    . obtain⟨_,l,hl,_⟩:=hI;exact Hp.cell_le hl.hle haD
    . obtain⟨hk,l,hl,hll⟩:=hI;have hi':i<cs.length:=by omega
      have hr':=hCD.le hl.hle;have h2:=hr'.1.2;cases hxa:C.a with
      | none=>
        rw[hxa]at h2;simp only[yc]at h2;split at h2
        . rename_i h3;rw[z9f]at h3;omega
        . cases h2
      | some ad=>
        rw[hxa]at h2;simp only[yc]at h2;have hc9:=hcs _ (Jh hi');refine⟨ad,(cs[i]:Int),rfl,λj u hj=>?_,?_⟩
        . have hj0:j=0:=by
           rcases Tc j with h3 | h3
           . exact h3
           . exfalso;have:((STy.leaf (.int .u32)).cells (cs[i]:Int))[j]?=none:=by
              apply J5;simp only[STy.cells,Gr];omega
             rw[this]at hj;cases hj
          subst hj0;simp only[STy.cells,List.getElem?_cons_zero,Jm]at hj;subst hj;refine z5q h2 _ _ ?_;simp[wc,STy.size,hi',Lf.up]
        . have hfs:l.length<=20000:=by
           rw[hll,hf];have:=zh0 (cs.getLastD 0);simp only;split<;>omega
          simp only;rw[show u64.wrap (cs[i]:Int)=((cs[i]:Nat):Int) from z3i (by omega)];refine hl.beside (K1:=λ(s:ByteArray) _=>s.size=dg9 cs[i]) (zit htD hc9 λs h' _ hs=>hs) λs D3 h3 _ hb3 hs=>?_
          . have d9:=zh0 cs[i];refine zh (λ_ h''=>∃l2,BLD D h'' p l2/\l2.length+dg9 cs[i]=f i) ?_ ?_
            . rintro _ h4 ⟨l2,hb4,hl4⟩;refine zjh hb4 (by rw[hf]at hl4;have:=zh0 (cs.getLastD 0);simp only at hl4;split at hl4<;>omega) (λhh=>by have:=Vg s;rw[hh]at this;simp at this;omega) (by omega) λh5 hb5=>⟨by omega,_,hb5,?_⟩
              rw[Je,Vg,hs];exact hl4
            . have e1:i64.wrap ((C.len:Int)-1)=(cs.length:Int)-1:=by rw[hCl,w64 (by omega)]
              rw[e1];have elast:i+1=cs.length->cs.getLastD 0=cs[i]:=λhh=>by
               rw[List.getLastD_eq_getLast?,List.getLast?_eq_getElem?];have:cs.length-1=i:=by omega
               rw[this,Jc hi'];rfl
              refine ze (λh5=>?_) (λh5=>?_)
              . rw[show i64.wrap (9-((s.size:Nat):Int))=((9-s.size:Nat):Int) from by rw[w64 (by omega)];omega];refine hb3.beside (K1:=λ(t:ByteArray) _=>t.size=9-s.size) (zhq (by omega) λs h' _ hs=>hs) λt D6 h6 _ hb6 ht6=>?_
                . refine ziu hb6 (by omega) (.inr λhh=>?_) (by omega) λh7 hb7=>⟨_,hb7,?_⟩
                  . subst hh;rw[hf]at hll;simp only[List.length_nil]at hll;rw[if_neg (by omega)]at hll;have:=zh0 (cs.getLastD 0);omega
                  . rw[Je,Vg,hll,ht6,hs,hf];simp only;rw[if_neg (by omega),if_neg (by omega)];omega
              . refine⟨l,hb3,?_⟩;have hi1:i+1=cs.length:=by omega
                rw[hll,hf];simp only;rw[if_pos hi1,if_neg (by omega),elast hi1];omega
    . obtain⟨_,l,hl,hll⟩:=hI;have hfs:l.length=chl cs:=by
       rw[hll,hf];simp only;have hne0:¬0=cs.length:=λhh=>hne (Jn hh.symm)
       rw[if_neg hne0];unfold chl;rw[List.getLastD_eq_getLast?];cases hg:cs.getLast? with
       | none=>exact absurd (List.getLast?_eq_none_iff.1 hg) hne
       | some c=>simp
      refine Z0a hl (by rw[hll,hf];have:=zh0 (cs.getLastD 0);simp only;split<;>omega) λh5 hl5=>H _ _ (Hp.le_trans hD hl5) ?_
      show l.toArray.size=_;simpa using hfs
end
end Den
end

section
namespace Den
open Go Iv Lx
theorem Zpl(e:Nat):W ^ e=2 ^ (32*e):=by rw[Zpj,Nat.pow_mul]
theorem Zpk(e:Nat):W ^ e<=10 ^ (10*e):=by
 rw[Nat.pow_mul];exact Nat.pow_le_pow_left (by rw[Zpj];decide) e
theorem Zio{n E:Nat}(hE:E=32*50)(h:(dg n).length<=50):n<2 ^ E:=by
 have h1:=Y6.1 h;have h2:=Zpl 50;rw[<-hE]at h2;rw[h2]at h1;exact h1
theorem zve{n:Nat}(h:(dg n).length<=50):dgt n<=1000:=by
 obtain⟨E,hE⟩:∃E,E+1=10*50:=⟨499,rfl⟩;have h1:=Y6.1 h;have h2:=Zpk 50;rw[<-hE]at h2;have:=Z3n (n:=n) (k:=E) (Tb h1 h2);omega
section
variable {h0 h : Hp} {x y : Sl} {l : List Nat} {Ks : Sl → Hp → Prop} {Kt : ByteArray → Hp → Prop} {n : Nat} {a : TInt}
theorem zqx(ha:NI h a (n:Int))(hl:(dg n).length<=50)(ht:P10 h)(H:∀s h',h.le h'->s.size=dgt n->Kt s h'):zc (F.z3p a) Kt h:=by
 refine zd (λs h'=>s.size=dgt n) (λK' hk=>?_) λs h' hl hs=>H s h' hl hs
 unfold F.z3p;have hneg:=ha.2;rw[decide_eq_false (by omega)]at hneg;have ha1:=ha.1;rw[Gz]at ha1;refine zf3 ha1 (by omega) λr1 hr1=>?_
 refine zbs hr1 (by omega) λr2 h2 ho2=>?_
 have hl2:=ho2.1;have len2:=Yl.len ho2;refine zu (λh3=>hk _ _ hl2 ?_) (λh3=>?_)
 . have:n=0:=by
    rw[<-z0v];exact Jn (by omega)
   subst this;rw[z2x (by decide)];rfl
 . have hn0:n≠0:=λhh=>h3 (by rw[len2,z0v.2 hh];rfl)
   refine zdj (λV st h'=>∃cs:List Nat,Yl h h' st.1 (dg V)/\Yl h h' st.2.1.1 cs/\Apt st.1 st.2.1.1/\(∀c∈cs,c<1000000000)/\(dg V).length<=50/\cs.length<=2000/\V*2 ^ cs.length<=n /\
    ((0<V/\dgt n=dgt V+9*cs.length)\/(V=0/\cs≠[]/\dgt n=chl cs))) (n0:=n)
    ⟨[],ho2,Own.nil hl2,(λa b h1 h2=>by cases h2),by simp,hl,by simp,by simp,.inl ⟨by omega,by simp⟩⟩ ?_
   rintro V ⟨m,⟨C,_⟩,_⟩ h4 ⟨cs,hm,hC,hap,hcs,hlen,hlen2,hpw,hcase⟩ K2 hK2;simp only at hm hC hap;have lm:=Yl.len hm;refine ze (λh5=>?_) (λh5=>?_)
   . simp only at h5;have hV:0<V:=by
      rcases Tc V with h6 | h6
      . rw[h6,qz]at lm;simp at lm;omega
      . exact h6
     obtain⟨_,hd⟩:0<V/\dgt n=dgt V+9*cs.length:=hcase.resolve_right λhh=>by omega
     refine Zdp (C:=C) (cc:=wc cs) hm (Z5 V) (by omega) hC hap (Kf:=λs h4=>zc (F.zy m) (λr10 h6=>ql 1 4 [.int .u32 0] C 1 [.int .u32 (u32.wrap s)] (λw11 h7=>K2 (r10,(w11,()),()) h7) h6) h4) λh6 ws hw okw hwl hv hC6=>?_
     rw[Zt]at hv;rw[Zt];refine zya hw (by omega) λr hr hra=>?_
     rw[Qn okw,hv]at hr;have hr9:V % 1000000000<1000000000:=U2 _ (by decide);rw[show u32.wrap ((V % 1000000000:Nat):Int)=((V % 1000000000:Nat):Int) from Zs6 (by omega)];have lC:=Yl.len hC6;refine zf9 hC6 (n:=1) (new:=[Ge .u32 ((V % 1000000000:Nat):Int)]) rfl rfl rfl (by omega) (by omega) λw h7 hw7 _ hs7 hb7=>?_
     have hap2:Apt w r:=λc d hc hd=>by
      rw[hra]at hd;rcases hb7 c hc with ⟨a',h8,h9⟩ | h8
      . rw[<-h9];exact(hap d a' hd h8).symm
      . intro hh;obtain⟨_,_,_,g4⟩:=hw;rw[hd]at g4;obtain⟨_,_,_,b,g5,_⟩:=g4;rw[<-hh,h8]at g5;cases g5
     have hapC:Apt C r:=λc d hc hd=>by rw[hra]at hd;exact(hap d c hd hc).symm
     obtain⟨E,hE⟩:∃E,E=32*50:=⟨_,rfl⟩;have hk960:cs.length<E:=Nat.not_le.1 λhh=>by
      have g1:=Zio hE hl;have g3:2 ^ E<=2 ^ cs.length:=Th (by decide) hh;have g4:2 ^ cs.length<=V*2 ^ cs.length:=Nat.le_mul_of_pos_left _ hV;exact absurd (Jt g3 (Jt g4 hpw)) (Nat.not_le.2 g1)
     have hlt:V/1000000000<V:=Nat.div_lt_self hV (by decide);refine hK2 (V/1000000000) _ _ hlt ⟨cs++[V % 1000000000],zsq hr hapC hs7 hw7.1,?_,hap2.symm,?_,?_,?_,?_,?_⟩
     . show Yl _ _ _ _;unfold Yl;rw[show wc (cs++[V % 1000000000])=wc cs++[Ge .u32 ((V % 1000000000:Nat):Int)]by unfold wc;rw[List.map_append];rfl];exact hw7
     . intro c hc;rcases Ub.1 hc with hc | hc
       . exact hcs c hc
       . rw[J6.1 hc];exact hr9
     . rw[Y6]at hlen |-
       exact Gb (Li hlt) hlen
     . simp;omega
     . rw[Je,Gr,U6];have h8:V/1000000000*2<=V:=by omega
       have h9:=Jj (2 ^ cs.length) h8;have h10:V/1000000000*(2 ^ cs.length*2)=V/1000000000*2*2 ^ cs.length:=by rw[J8 (2 ^ cs.length) 2,Nat.mul_assoc]
       rw[h10];omega
     . by_cases h8:1000000000<=V
       . left;refine⟨Nat.div_pos h8 (by decide),?_⟩;rw[hd,Zdo h8,Je,Gr];omega
       . right;refine⟨Tz (by omega),by simp,?_⟩;rw[hd,Z3b,Uj (by omega),Zpu (by omega)]
   . simp only at h5;have hV:V=0:=by
      rw[<-z0v];exact Jn (by omega)
     obtain⟨_,hne,hd⟩:=hcase.resolve_left λhh=>by omega
     refine Ze5 λp h6 hb6=>?_
     refine zh (λ_ h'=>h'=h6) ?_ ?_
     . rintro _ h7 rfl;exact zoc (h:=h4) (Yl.rdW hC) hcs hlen2 hne (ht.le hC.1) hb6 λs h8 hl8 hs=>hk _ _ (Hp.le_trans hC.1 hl8) (by rw[hs,hd])
     . rw[hneg];exact zr rfl rfl
theorem zpv(ha:NI h a (n:Int))(hl:(dg n).length<=50)(H:∀s h',h.le h'->s.size=dgt n->Kt s h'):zc (F.z73 a) Kt h:=by
 refine zd (λs h'=>s.size=dgt n) (λK' hk=>?_) λs h' hl hs=>H s h' hl hs
 unfold F.z73;refine zco ha (by rw[Gz];omega) λy hy=>?_
 have hneg:=hy.2;rw[decide_eq_false (by omega)]at hneg;have hy1:=hy.1;rw[Gz]at hy1;have dle:=zve hl;refine zdj (λV st h'=>h.le h'/\RdW h' st.2.1 (dg V)/\V<=n/\((0<V/\st.1.size+dgt V=dgt n)\/(V=0/\(st.1.size=dgt n\/(n=0/\st.1.size=0))))) (n0:=n)
  ⟨Hp.le_refl _,hy1,Ja _,by
   rcases Tc n with h0 | h0
   . exact .inr ⟨h0,.inr ⟨h0,rfl⟩⟩
   . exact .inl ⟨h0,by show 0+_=_;omega⟩⟩ ?_
 rintro V ⟨s,m,_⟩ h1 ⟨hl1,hm,hVn,hcase⟩ K2 hK2;simp only at hm hcase;have lm:=hm.len;refine ze (λh2=>?_) (λh2=>?_)
 . simp only at h2;have hV:0<V:=by
    rcases Tc V with h6 | h6
    . rw[h6,qz]at lm;simp at lm;omega
    . exact h6
   have hs:s.size+dgt V=dgt n:=(hcase.resolve_right λhh=>by omega).2;have hV30:(dg V).length<=50:=by
    rw[Y6]at hl |-
    omega
   refine zyn hm (Z5 V) (by decide) (by decide) (by omega) λz h3 hl3 hz=>?_
   rw[Zt]at hz |-
   refine z3s (n:=1) (size:=1) rfl λb h4 hb ho=>?_
   obtain⟨c,hc⟩:=u8r (u32.wrap (48+((V % 10:Nat):Int)));refine⟨[c],?_,?_⟩
   . have:=ho.rd.2;show yc h4 _ 1=some [Ge .u8 (c.toNat:Int)];rw[<-hc];exact this
   . have e1:(⟨[c].toArray⟩:ByteArray).size=1:=rfl;refine⟨by rw[e1];simp only;omega,?_⟩;have hlt:V/10<V:=Nat.div_lt_self hV (by decide);refine hK2 (V/10) _ _ hlt ⟨Hp.le_trans hl1 (Hp.le_trans hl3 ho.1),hz.le ho.1,by omega,?_⟩;show((0<V/10/\(_++s:ByteArray).size+_=_)\/(V/10=0/\((_++s:ByteArray).size=_\/(n=0/\(_++s:ByteArray).size=0))));rw[Gx,e1];by_cases h10:10<=V
     . left;refine⟨Nat.div_pos h10 (by decide),?_⟩;rw[Vw h10]at hs;omega
     . right;refine⟨Tz (by omega),.inl ?_⟩;rw[z2x (by omega)]at hs;omega
 . simp only at h2;have hV:V=0:=by
    rw[<-z0v];exact Jn (by omega)
   have dp:=zov n;have hs:s.size=dgt n\/(n=0/\s.size=0):=(hcase.resolve_left λhh=>by omega).2;refine zi (λh3=>?_) (λh3=>?_)
   . refine hk _ _ hl1 ?_;rcases hs with hs | ⟨h0,hs⟩
     . exfalso;simp only[z4g]at h3;have:=beq_iff_eq.1 h3;have l1:=Vg s;rw[this]at l1;have:(BS Y3).length=0:=rfl;omega
     . subst h0;rw[z2x (by decide)];rfl
   . refine zr hneg (hk _ _ hl1 ?_);rcases hs with hs | ⟨h0,hs⟩
     . exact hs
     . exfalso;simp only[z4g]at h3;have l1:=Vg s;rw[hs]at l1;have h5:BS s=[]:=Jn l1;rw[h5]at h3;exact absurd h3 (by decide)
end
end Den
end

section
namespace Den
open Go Iv Lx
theorem zcf{cells:List Value}{K:Addr->Hp->Prop}{h:Hp}
 (H:∀a h',h.le h'->(∀i v,cells[i]?=some v->h'.cell (a.add i)=some v)->K a h'):Y2 cells K h:=by
 intro b e hb;refine H _ _ (Hp.le_ins hb) λi v hv=>?_
 unfold Hp.cell;rw[Yr,z0e rfl,X4];simpa [Hp.ins_same] using hv
theorem Ww{v:Value}{K:Addr->Hp->Prop}{h:Hp}(H:∀a h',h.le h'->h'.cell a=some v->K a h'):Y2 [v] K h:=
 zcf λa h' hl hc=>H a h' hl (by have:=hc 0 v rfl;rwa [Zw]at this)
theorem zhx{h:Hp}{a:Addr}{cells:List Value}(hc:∀i v,cells[i]?=some v->h.cell (a.add i)=some v):∀n,n<=cells.length->Z3 h a n=some (cells.take n)
 | 0,_=>by simp[Z3]
 | n+1,hn=>by
   unfold Z3;rw[zhx hc n (by omega)];simp only;rw[hc n _ (Jc (by omega))];simp only;rw[List.take_add_one,Jc (by omega)];rfl
theorem z3w{h:Hp}{a:Addr}{cells:List Value}{size n c:Nat}(hc:∀i v,cells[i]?=some v->h.cell (a.add i)=some v)(hn:n*size=cells.length):Rd h size ⟨some a,n,c⟩ cells:=by
 refine⟨hn,?_⟩;show Z3 h a cells.length=_;rw[zhx hc _ (Ja _),Jw]
theorem zce{cells:List Value}{K:Addr->Hp->Prop}{h:Hp}(size n:Nat)(hn:n*size=cells.length)(H:∀a h',h.le h'->Rd h' size ⟨some a,n,n⟩ cells->K a h'):Y2 cells K h:=
 zcf λa h' hl hc=>H a h' hl (z3w hc hn)
section
variable {α β : Type}
def LR(c:α->List Value)(n:Nat)(P:Hp->α->β->Prop)(h:Hp)(l:Sl)(ps:List β):Prop:=
 ∃xs:List α,Rd h n l (xs.flatMap c)/\l.len<=l.cap/\xs.length=ps.length/\∀k (h1:k<xs.length) (h2:k<ps.length),P h xs[k] ps[k]
def LO(c:α->List Value)(n:Nat)(P:Hp->α->β->Prop)(D h:Hp)(l:Sl)(ps:List β):Prop:=
 ∃xs:List α,Own D h n l (xs.flatMap c)/\xs.length=ps.length/\∀k (h1:k<xs.length) (h2:k<ps.length),P D xs[k] ps[k]
structure Rec(c:α->List Value)(n:Nat)(P:Hp->α->β->Prop):Prop where
 len:∀x,(c x).length=n
 pos:0<n
 leaf:∀x,(c x).all Gq=true
 mono:∀{h h':Hp} {x:α} {b:β},P h x b->h.le h'->P h' x b
variable {c : α → List Value} {n : Nat} {P : Hp → α → β → Prop} {D h h' : Hp} {l : Sl} {ps : List β}
theorem LR.le(hR:Rec c n P)(hx:LR c n P h l ps)(hl:h.le h'):LR c n P h' l ps:=by
 obtain⟨xs,h1,h2,h3,h4⟩:=hx;exact⟨xs,h1.le hl,h2,h3,λk k1 k2=>hR.mono (h4 k k1 k2) hl⟩
theorem LR.len(hR:Rec c n P)(hx:LR c n P h l ps):l.len=ps.length:=by
 obtain⟨xs,h1,h2,h3,h4⟩:=hx;have:=h1.1;rw[Xc hR.len]at this;rw[<-h3];exact Gn hR.pos this
theorem LR.nil:LR c n P h zf []:=⟨[],Rd.nil,Ja _,rfl,λk h1 _=>by simp at h1⟩
theorem LR.get{i:Int}{K:Addr->Prop}(hR:Rec c n P)(hx:LR c n P h l ps)(k:Nat)(hi:i=k)(hk:k<ps.length)
 (H:∀a x,P h x ps[k]->(∀j v,(c x)[j]?=some v->h.cell (a.add j)=some v)->K a):zg l i n K:=by
 obtain⟨xs,h1,h2,h3,h4⟩:=hx;refine zle hR.len hR.pos h1 k hi (by omega) λa ha=>H a xs[k] (h4 k (by omega) hk) λj v hv=>ha j v ?_ hv
 have:=(List.getElem?_eq_some_iff.1 hv).1
 rwa [hR.len]at this
theorem LO.lr(hR:Rec c n P)(hx:LO c n P D h l ps):LR c n P h l ps:=by
 obtain⟨xs,h1,h3,h4⟩:=hx;exact⟨xs,h1.rd,h1.2.2.1,h3,λk k1 k2=>hR.mono (h4 k k1 k2) h1.1⟩
theorem LO.dle(hx:LO c n P D h l ps):D.le h:=by obtain⟨xs,h1,_⟩:=hx;exact h1.1
theorem LO.nil:LO c n P h h zf []:=⟨[],Own.nil (Hp.le_refl _),rfl,λk h1 _=>by simp at h1⟩
theorem LO.len(hR:Rec c n P)(hx:LO c n P D h l ps):l.len=ps.length:=(hx.lr hR).len hR
theorem LO.call{γ:Type}{G:(γ->Hp->Prop)->Hp->Prop}{K1 K:γ->Hp->Prop}(hR:Rec c n P)(hx:LO c n P D h l ps)(H:zc G K1 D)
 (k:∀v D' h',D.le D'->LO c n P D' h' l ps->K1 v D'->K v h'):zc G K h:=by
 obtain⟨xs,h1,h3,h4⟩:=hx;exact h1.call H λv D' h' g1 g2 g3=>k v D' h' g1 ⟨xs,g2,h3,λk k1 k2=>hR.mono (h4 k k1 k2) g1⟩ g3
theorem LO.app{Ks:Sl->Hp->Prop}{x:α}{b:β}{bytes:Nat}{zero:List Value}(hR:Rec c n P)(hx:LO c n P D h l ps)(hz:zero.length=n)(hlen:(ps.length+1)*bytes<=140737488355328)(hlen2:ps.length+1<=140737488355328)
 (hp:P D x b) (H:∀y h',LO c n P D h' y (ps++[b])->Ks y h'):ql n bytes zero l 1 (c x) Ks h:=by
 have hl:=hx.len hR;obtain⟨xs,h1,h3,h4⟩:=hx;refine z54 h1 (n:=1) (new:=c x) (by rw[hR.len];omega) hz (hR.leaf x) (by rw[hl];exact hlen) (by rw[hl];exact hlen2) λy h' hy hyl=>H y h' ⟨xs++[x],?_,by simp[h3],λk k1 k2=>?_⟩
 . rw[List.flatMap_append];simp only[Ur,List.flatMap_nil,List.append_nil];exact hy
 . rcases Jo k xs.length with h5 | h5
   . rw[Tk h5,Tk (by omega)];exact h4 k h5 (by omega)
   . have h6:k=xs.length:=by simp at k1;omega
     subst h6;rw[Te (Ja _),Te (by omega)];simp only[Nat.sub_self,Ua];have:xs.length-ps.length=0:=by omega
     simp only[this,Ua];exact hp
end
theorem zz9{n:Int}{len:Nat}{p:Prop}(h0:0<=n)(h1:n<len)(hp:p):ze0 n len p:=by
 unfold ze0;rw[decide_eq_true ⟨h0,h1⟩];exact hp
def Fnd(g:Int->Prop)(xs:List Int)(r:Int):Prop:=(r=-1/\∀x∈xs,¬g x)\/∃k,∃hk:k<xs.length,r=(k:Int)/\g xs[k]/\∀j (hj:j<xs.length),j<k->¬g xs[j]
theorem Fnd.iff{g:Int->Prop}{xs:List Int}{r:Int}(hf:Fnd g xs r):0<=r↔∃x∈xs,g x:=by
 rcases hf with ⟨rfl,h1⟩ | ⟨k,hk,rfl,h1,_⟩
 . exact⟨λhh=>by omega,λ⟨x,hx,hg⟩=>absurd hg (h1 x hx)⟩
 . exact⟨λ_=>⟨_,Jh hk,h1⟩,λ_=>by omega⟩
theorem zdg{h:Hp}{Ki:Int->Hp->Prop}{s:Sl}{xs:List Int}{g:Int->Prop}{G:Int->(Bool->Hp->Prop)->Hp->Prop}(hx:IL h s xs)(hlen:xs.length<=1000000)
 (hG:∀x∈xs,∀h',h.le h'->∀K:Bool->Hp->Prop,(∀b h'',h'.le h''->(b=true↔g x)->K b h'')->zc (G x) K h') (H:∀r h',h.le h'->Fnd g xs r->Ki r h') :
 (zn (S:=Int×Unit) (λs1 k2 h1=>
 (ifP (decide (s1.1<(s.len:Int)))
 (zg s s1.1 1 λa3=>
 (ldL (.int .i64) a3 (λx4=>
 (zc (G x4) (λr5 h2=>
 (ifP r5
 (Ki s1.1 h2)
 (k2 ((i64.wrap (s1.1+1)),()) h2))) h1)) h1))
 (Ki (-1) h1)))
 (0,()) h):=by
  have hl:=hx.len;refine yg (n:=xs.length) (by omega) (λi h'=>h.le h'/\∀j (hj:j<xs.length),j<i->¬g xs[j]) ⟨Hp.le_refl _,λj _ hj=>by omega⟩ ?_;rintro i h1 hi ⟨hl1,hno⟩ k hk2;refine ze (λh2=>?_) (λh2=>?_)
  . have hi':i<xs.length:=by simp only at h2;omega
    refine(hx.le hl1).get i rfl hi' ?_;refine hG _ (Jh _) _ hl1 _ λb h3 hl3 hb=>?_
    refine zi (λh4=>H _ _ (Hp.le_trans hl1 hl3) (.inr ⟨i,hi',rfl,hb.1 h4,hno⟩)) (λh4=>hk2 _ hi' ⟨Hp.le_trans hl1 hl3,λj hj hji=>?_⟩);rcases Jo j i with h5 | h5
    . exact hno j hj h5
    . have:j=i:=by omega
      subst this;intro hg;rw[hb.2 hg]at h4;cases h4
  . refine H _ _ hl1 (.inl ⟨rfl,λx hx hg=>?_⟩);obtain⟨j,hj,rfl⟩:=Gh.1 hx;exact hno j hj (by simp only at h2;omega) hg
theorem NI.back{h h':Hp}{a:TInt}{n:Int}(ha:AI h a)(hl:h.le h')(hn:NI h' a n):NI h a n:=by
 obtain⟨l,h1,_⟩:=ha;have:=(h1.le hl).uniq hn.1;exact⟨by rw[<-this];exact h1,hn.2⟩
def OR(h:Hp)(x:TRat)(v:Option Rat):Prop:=AR h x/\x.num.mag.len<=35184372087808/\x.den.mag.len<=35184372087808/\∀q,NR h x q↔v=some q
theorem OR.le{h h':Hp}{x:TRat}{v:Option Rat}(hx:OR h x v)(hl:h.le h'):OR h' x v:=
 ⟨hx.1.le hl,hx.2.1,hx.2.2.1,λq=>⟨λhq=>(hx.2.2.2 q).1 ⟨hq.1.back hx.1.1 hl,hq.2.back hx.1.2 hl⟩,λhq=>((hx.2.2.2 q).2 hq).le hl⟩⟩
theorem NR.inj{h:Hp}{x:TRat}{p q:Rat}(h1:NR h x p)(h2:NR h x q):p=q:=Rat.ext (h1.1.inj h2.1) (by have:=h1.2.inj h2.2;omega)
theorem NR.ar{h:Hp}{x:TRat}{q:Rat}(hq:NR h x q):AR h x:=⟨⟨_,hq.1.1,Z5 _⟩,⟨_,hq.2.1,Z5 _⟩⟩
theorem OR.br{h:Hp}{x:TRat}{q:Rat}{k:Nat}(hx:OR h x (some q))(h1:x.num.mag.len<=k)(h2:x.den.mag.len<=k):BR k q:=Zph ((hx.2.2.2 q).2 rfl) h1 h2
theorem OR.nr{h:Hp}{x:TRat}{q:Rat}(hx:OR h x (some q)):NR h x q:=(hx.2.2.2 q).2 rfl
section
variable {h : Hp} {x : TRat} {v : Option Rat} {Kb : Bool → Hp → Prop}
theorem zg7(hx:OR h x v)(H:∀h',h.le h'->Kb v.isSome h'):zc (F.V5 x) Kb h:=
 zq5 hx.1 hx.2.1 hx.2.2.1 (λq h' hl hq=>by have:=(hx.2.2.2 q).1 hq;subst this;exact H h' hl)
  (λh' hl hq=>by
    cases v with
    | none=>exact H h' hl
    | some q=>exact absurd ⟨q,(hx.2.2.2 q).2 rfl⟩ hq)
theorem zj8(hx:OR h x v)(H:∀h',h.le h'->Kb v.isSome h'):zc (F.Qg x) Kb h:=
 zcn hx.1 hx.2.1 hx.2.2.1 (λq h' hl hq=>by have:=(hx.2.2.2 q).1 hq;subst this;exact H h' hl)
  (λh' hl hq=>by
    cases v with
    | none=>exact H h' hl
    | some q=>exact absurd ⟨q,(hx.2.2.2 q).2 rfl⟩ hq)
end
end Den
end

section
namespace Den
open Go Iv Lx
def siz(p d:Nat):Nat:=if p=0 then d else max d (p+1)+1
def z7m:Nat->Nat->Rat->Bool
 | 0,_,_=>false
 | f+1,p,q=>if q.den=1 then decide (siz p (dgt q.num.natAbs)<=40)else z7m f (p+1) (q*((10:Int):Rat))
def z5r(v:Option Rat):Bool:=match v with | none=>false | some q=>decide (0<=q.num)&&z7m 40 0 q
theorem zn4:∀{f p:Nat} {q:Rat},f+p=40->z7m (f+1) p q=z7m f p q
 | 0,p,q,h=>by
   unfold z7m;have:p=40:=by omega
   subst this;split
   . rw[decide_eq_false_iff_not];unfold siz;simp only[show ¬(40=0)by decide,if_false];omega
   . rfl
 | f+1,p,q,h=>by
   have ih:=zn4 (f:=f) (p:=p+1) (q:=q*((10:Int):Rat)) (by omega)
   conv=>lhs;unfold z7m
   conv=>rhs;unfold z7m
   split
   . rfl
   . exact ih
theorem znm{q:Rat}(h:0<=q.num):0<=(q*((10:Int):Rat)).num:=by
 rw[Rat.num_nonneg]at h |-
 exact Rat.mul_nonneg h (by decide)
theorem zyh:BR 1 ((10:Int):Rat):=⟨by unfold Lt;decide,by unfold Lt;decide⟩
theorem zqa{z:Int}:0<=z.sign↔0<=z:=by
 constructor
 . intro h;apply Jy;intro hn;rw[Gm (by omega)]at h;omega
 . intro h;rcases Int.lt_or_eq_of_le h with h | h
   . rw[G7 h];decide
   . rw[<-h];decide
theorem ok_one':Ok 1:=(show Lt 1 1 by unfold Lt;decide).ok (by decide)
theorem zpx{h:Hp}{a b:TInt}{m n:Int}{Kb:Bool->Hp->Prop}(ha:NI h a m)(hb:NI h b n)(om:Ok m)(on:Ok n)(H:Kb (decide (m=n)) h):zc (F.zan a b) Kb h:=by
 refine zx _ (λK' hk=>?_) H;unfold F.zan;rw[ha.2,hb.2];have om':(dg m.natAbs).length<=8796093022208:=om;have on':(dg n.natAbs).length<=8796093022208:=on;refine zi (λh1=>?_) (λh1=>?_)
 . refine z5h ha.1 hb.1 (by omega) (by omega) ?_;have h2:m<0↔n<0:=by simpa using h1
   have h3:(za5 m.natAbs n.natAbs==0)=decide (m=n):=by
    unfold za5;by_cases e:m=n
    . subst e;simp
    . rw[decide_eq_false e];have:m.natAbs≠n.natAbs:=by omega
      rw[beq_eq_false_iff_ne];split<;>first | omega | (split<;>omega)
   rw[h3];exact hk
 . have:m≠n:=λe=>by subst e;simp at h1
   rw[decide_eq_false this]at hk;exact hk
section
variable {h : Hp} {x : TRat} {v : Option Rat} {q : Rat} {K : (ByteArray × Bool) → Hp → Prop}
theorem zou(hx:OR h x v)(hb:∀q,v=some q->BR 4 q)(ht:P10 h)(H:∀s h',h.le h'->K (s,z5r v) h'):zc (F.z2q x) K h:=by
 refine zd (λr h'=>r.2=z5r v) (λK' hk=>?_) λr h' hl hs=>by
  obtain⟨s,b⟩:=r;simp only at hs;subst hs;exact H s h' hl
 unfold F.z2q;refine zh (λ_ h1=>h.le h1/\∃q,v=some q/\0<=q.num) ?_ ?_
 . rintro _ h1 ⟨hl1,q,rfl,hq0⟩;have hbq:=hb q rfl;have hq:=hx.nr.le hl1;have hv:z5r (some q)=z7m 40 0 q:=by unfold z5r;simp[hq0]
   refine z2l (by decide) (by decide) λr3 h2 hl2 hr3=>?_
   refine za3 (by decide) (by decide) λr4 h3 hl3 hr4=>?_
   refine Zp (λst h'=>∃(i:Nat) (y:TRat) (p:Rat),st=((y.num.neg,y.num.mag,y.den.neg,y.den.mag,()),(i:Int),())/\i<=40/\h3.le h'/\NR h' y p/\BR (4+i) p/\0<=p.num/\z7m (40-i) i p=z7m 40 0 q)
    (λst=>(40-st.2.1).toNat) ⟨0,x,q,rfl,by omega,Hp.le_refl _,hq.le (Hp.le_trans hl2 hl3),hbq,hq0,rfl⟩ ?_
   rintro _ h4 ⟨i,y,p,rfl,hi,hl4,hy,by4,hp0,hd⟩;refine ze (λh5=>?_) (λh5=>?_)
   . simp only at h5;obtain⟨f,hf⟩:∃f,40-i=f+1:=⟨39-i,by omega⟩;rw[hf]at hd;refine Z2s (m:=p.den) (n:=1) hy.2 (hr4.le hl4) (by4.2.ok (by omega)) ok_one' ?_;refine Z2 (λh6=>?_) (λh6=>?_)
     . have hden:¬p.den=1:=λhh=>h6 (by rw[hh];rfl)
       refine znu hy ((hr3.le hl3).le hl4) by4 zyh (by omega) (by omega) λr8 h7 hl7 hr8=>?_
       refine⟨⟨i+1,r8,_,by simp only;rw[w64 (by omega)];rfl,by omega,Hp.le_trans hl4 hl7,hr8,(by4.mul zyh).mono (by omega),znm hp0,?_⟩,by simp only;rw[w64 (by omega)];omega⟩;rw[<-hd,show 40-(i+1)=f by omega]
       conv=>rhs;unfold z7m
       rw[if_neg hden]
     . have hden:p.den=1:=by
        rw[Int.sign_eq_zero_iff_zero]at h6;omega
       have hd1:z7m (f+1) i p=decide (siz i (dgt p.num.natAbs)<=40):=by unfold z7m;rw[if_pos hden]
       have hnn:p.num=(p.num.natAbs:Int):=by omega
       have hnum:NI h4 y.num (p.num.natAbs:Int):=by have:=hy.1;rwa [hnn]at this
       refine zqx hnum (Jt (Y6.2 by4.1) (by omega)) (ht.le (Hp.le_trans hl1 (Hp.le_trans hl2 (Hp.le_trans hl3 hl4)))) λs h6 hl6 hs=>?_
       have hle:=Hp.le_trans hl1 (Hp.le_trans hl2 (Hp.le_trans hl3 (Hp.le_trans hl4 hl6)));have d0:=zov p.num.natAbs;have d1:dgt p.num.natAbs<=1000:=zve (Jt (Y6.2 by4.1) (by omega));refine zh (λs h'=>h.le h'/\s.1.size=siz i (dgt p.num.natAbs)) ?_ ?_
       . rintro⟨s,_⟩ h8 ⟨hl8,hs8⟩;refine hk _ _ hl8 ?_;simp only at hs8 |-
         rw[hv,<-hd,hd1,hs8];exact decide_eq_decide.2 (by omega)
       . refine ze (λh7=>?_) (λh7=>?_)
         . simp only at h7;refine zh (λs h'=>h.le h'/\s.1.size=max (dgt p.num.natAbs) (i+1)) ?_ ?_
           . rintro⟨t,_⟩ h8 ⟨hl8,hs8⟩;simp only at hs8;have e1:i64.wrap ((t.size:Int)-(i:Int))=((t.size-i:Nat):Int):=by rw[w64 (by omega)];omega
             simp only;rw[e1];refine z8l (by omega) (by omega) (by omega) λc hc _=>⟨?_,z8l (by omega) (by omega) (by omega) λd hd _=>⟨?_,hl8,?_⟩⟩
             . have:(⟨#[46]⟩:ByteArray).size=1:=rfl;rw[this];omega
             . have:(⟨#[46]⟩:ByteArray).size=1:=rfl;rw[Gx,this];omega
             . try simp only
               rw[Gx,Gx];have:(⟨#[46]⟩:ByteArray).size=1:=rfl;unfold siz;rw[this,if_neg (by omega)];omega
           . refine ze (λh8=>?_) (λh8=>?_)
             . simp only at h8;rw[w64 (show _ by rw[w64 (by omega)];omega),w64 (by omega)]at h8;have e2:i64.wrap (i64.wrap ((i:Int)+1)-(s.size:Int))=((i+1-s.size:Nat):Int):=by rw[w64 (show _ by rw[w64 (by omega)];omega),w64 (by omega)];omega
               rw[e2];refine zhq (by omega) λr h9 hl9 hr=>⟨by omega,Hp.le_trans hle hl9,?_⟩
               simp only;rw[Gx];omega
             . simp only at h8;rw[w64 (show _ by rw[w64 (by omega)];omega),w64 (by omega)]at h8;exact⟨hle,by simp only;omega⟩
         . simp only at h7;refine⟨hle,?_⟩;unfold siz;rw[if_pos (by omega)];exact hs
   . simp only at h5;have:i=40:=by omega
     subst this;refine hk _ _ (Hp.le_trans hl1 (Hp.le_trans hl2 (Hp.le_trans hl3 hl4))) ?_;rw[hv,<-hd];rfl
 . refine zj8 hx λh1 hl1=>?_
   cases v with
   | none=>exact hk _ _ hl1 rfl
   | some q=>
     have hq:=hx.nr.le hl1;refine zr rfl ?_;refine zla hq (hb q rfl) (by decide) ?_;refine ze (λh2=>hk _ _ hl1 ?_) (λh2=>⟨hl1,q,rfl,?_⟩)
     . have:¬0<=q.num:=by
        intro hh;have:=zqa.2 hh;omega
       unfold z5r;simp[this]
     . exact zqa.1 (by omega)
theorem zmm(hx:OR h x v)(hb:∀q,v=some q->BR 4 q)(H:∀s h',h.le h'->K (s,z5r v) h'):zc (F.z5j x) K h:=by
 refine zd (λr h'=>r.2=z5r v) (λK' hk=>?_) λr h' hl hs=>by
  obtain⟨s,b⟩:=r;simp only at hs;subst hs;exact H s h' hl
 unfold F.z5j;refine zh (λ_ h1=>h.le h1/\∃q,v=some q/\0<=q.num) ?_ ?_
 . rintro _ h1 ⟨hl1,q,rfl,hq0⟩;have hbq:=hb q rfl;have hq:=hx.nr.le hl1;have hv:z5r (some q)=z7m 40 0 q:=by unfold z5r;simp[hq0]
   have hv2:z7m 41 0 q=z7m 40 0 q:=zn4 (by decide);refine Wr (by decide) (by decide) λr3 h2 hl2 hr3=>?_
   refine z5g (by decide) (by decide) λr4 h3 hl3 hr4=>?_
   refine Zp (λst h'=>∃(i:Nat) (y:TRat) (p:Rat),st=((y.num.neg,y.num.mag,y.den.neg,y.den.mag,()),(i:Int),())/\i<=41/\h3.le h'/\NR h' y p/\BR (4+i) p/\0<=p.num/\z7m (41-i) i p=z7m 41 0 q)
    (λst=>(41-st.2.1).toNat) ⟨0,x,q,rfl,by omega,Hp.le_refl _,hq.le (Hp.le_trans hl2 hl3),hbq,hq0,rfl⟩ ?_
   rintro _ h4 ⟨i,y,p,rfl,hi,hl4,hy,by4,hp0,hd⟩;refine ze (λh5=>?_) (λh5=>?_)
   . simp only at h5;obtain⟨f,hf⟩:∃f,41-i=f+1:=⟨40-i,by omega⟩;rw[hf]at hd;refine zpx (m:=p.den) (n:=1) hy.2 (hr4.le hl4) (by4.2.ok (by omega)) ok_one' ?_;refine ze (λh6=>?_) (λh6=>?_)
     . have hden:p.den=1:=by omega
       have hd1:z7m (f+1) i p=decide (siz i (dgt p.num.natAbs)<=40):=by unfold z7m;rw[if_pos hden]
       have hnn:p.num=(p.num.natAbs:Int):=by omega
       have hnum:NI h4 y.num (p.num.natAbs:Int):=by have:=hy.1;rwa [hnn]at this
       refine zpv hnum (Jt (Y6.2 by4.1) (by omega)) λs h6 hl6 hs=>?_
       have hle:=Hp.le_trans hl1 (Hp.le_trans hl2 (Hp.le_trans hl3 (Hp.le_trans hl4 hl6)));have d0:=zov p.num.natAbs;have d1:dgt p.num.natAbs<=1000:=zve (Jt (Y6.2 by4.1) (by omega));refine Zp (λst h'=>h'=h6/\∃t:ByteArray,st=(t,())/\dgt p.num.natAbs<=t.size/\(t.size=dgt p.num.natAbs\/t.size<=i+1)) (λst=>i+1-st.1.size) ⟨rfl,s,rfl,by omega,.inl hs⟩ ?_;rintro _ h7 ⟨rfl,t,rfl,ht1,ht2⟩;refine ze (λh8=>?_) (λh8=>?_)
       . simp only at h8;have e1:(⟨#[48]⟩:ByteArray).size=1:=rfl;refine⟨by rw[e1];simp only;omega,⟨rfl,_,rfl,by simp only;rw[Gx,e1];omega,.inr (by simp only;rw[Gx,e1];omega)⟩,?_⟩;simp only;rw[Gx,e1];omega
       . simp only at h8;have hts:t.size=max (dgt p.num.natAbs) (i+1):=by omega
         refine zh (λs h'=>h.le h'/\s.1.size=siz i (dgt p.num.natAbs)) ?_ ?_
         . rintro⟨s,_⟩ h8 ⟨hl8,hs8⟩;refine hk _ _ hl8 ?_;simp only at hs8 |-
           rw[hv,<-hv2,<-hd,hd1,hs8];exact decide_eq_decide.2 (by omega)
         . refine ze (λh9=>?_) (λh9=>?_)
           . simp only at h9;have e1:i64.wrap ((t.size:Int)-(i:Int))=((t.size-i:Nat):Int):=by rw[w64 (by omega)];omega
             simp only;rw[e1];refine z8l (by omega) (by omega) (by omega) λc hc _=>⟨?_,z8l (by omega) (by omega) (by omega) λd hd _=>⟨?_,hle,?_⟩⟩
             . have:(⟨#[46]⟩:ByteArray).size=1:=rfl;rw[this];omega
             . have:(⟨#[46]⟩:ByteArray).size=1:=rfl;rw[Gx,this];omega
             . try simp only
               rw[Gx,Gx];have:(⟨#[46]⟩:ByteArray).size=1:=rfl;unfold siz;rw[this,if_neg (by omega)];omega
           . simp only at h9;refine⟨hle,?_⟩;unfold siz;rw[if_pos (by omega)];simp only;omega
     . have hden:¬p.den=1:=λhh=>h6 (by rw[hh];rfl)
       refine zxb hy ((hr3.le hl3).le hl4) by4 zyh (by omega) (by omega) λr8 h7 hl7 hr8=>?_
       refine⟨⟨i+1,r8,_,by simp only;rw[w64 (by omega)];rfl,by omega,Hp.le_trans hl4 hl7,hr8,(by4.mul zyh).mono (by omega),znm hp0,?_⟩,by simp only;rw[w64 (by omega)];omega⟩;rw[<-hd,show 41-(i+1)=f by omega]
       conv=>rhs;unfold z7m
       rw[if_neg hden]
   . simp only at h5;have:i=41:=by omega
     subst this;refine hk _ _ (Hp.le_trans hl1 (Hp.le_trans hl2 (Hp.le_trans hl3 hl4))) ?_;rw[hv,<-hv2,<-hd];rfl
 . refine zg7 hx λh1 hl1=>?_
   cases v with
   | none=>exact hk _ _ hl1 rfl
   | some q=>
     have hq:=hx.nr.le hl1;refine zr rfl ?_;refine zt8 hq (hb q rfl) (by decide) ?_;refine ze (λh2=>hk _ _ hl1 ?_) (λh2=>⟨hl1,q,rfl,?_⟩)
     . have:¬0<=q.num:=by
        intro hh;have:=zqa.2 hh;omega
       unfold z5r;simp[this]
     . exact zqa.1 (by omega)
end
end Den
end

section
namespace Den
open Go Iv Lx
inductive PEx where
 | mk (op:Int) (x:TRat) (v:Option Rat) (name:ByteArray) (args:List PEx)
def PEx.args:PEx->List PEx | .mk _ _ _ _ l=>l
def ec(e:TExpr):List Value:=[.int .i64 e.op,.bool e.value.num.neg,Lf.sl.up e.value.num.mag,.bool e.value.den.neg,Lf.sl.up e.value.den.mag,.string e.name,Lf.sl.up e.args]
theorem Zjh(e:TExpr):(ec e).length=7:=rfl
inductive EX (h:Hp):TExpr->PEx->Prop
 | mk (e:TExpr) (v:Option Rat) (xs:List TExpr) (ps:List PEx):OR h e.value v->Rd h 7 e.args (xs.flatMap ec)->e.args.len<=e.args.cap->xs.length=ps.length->(∀k (h1:k<xs.length) (h2:k<ps.length),EX h xs[k] ps[k])->EX h e (.mk e.op e.value v e.name ps)
theorem EX.le{h h':Hp}(hl:h.le h'){e:TExpr}{p:PEx}(hx:EX h e p):EX h' e p:=by
 induction hx with
 | mk e v xs ps h1 h2 h3 h4 _ ih=>exact .mk e v xs ps (h1.le hl) (h2.le hl) h3 h4 ih
theorem Vx:Rec ec 7 EX:=⟨Zjh,by decide,λx=>rfl,λhx hl=>hx.le hl⟩
theorem EX.args{h:Hp}{e:TExpr}{p:PEx}(hx:EX h e p):LR ec 7 EX h e.args p.args:=by
 cases hx with
 | mk _ v xs ps h1 h2 h3 h4 h5=>exact⟨xs,h2,h3,h4,h5⟩
def zbc(x:TRat):Bool:=decide (x.num.mag.len=0)&&(decide (x.den.mag.len=0)&&(!x.num.neg&&!x.den.neg))
def shp(op:Int)(x:TRat)(v:Option Rat)(name:ByteArray)(n:Nat):Bool:=
 if op=1 then z5r v&&(decide (BS name=[])||zmj (BS name))&&decide (n=0)
 else if op=2 then zbc x&&zmj (BS name)&&decide (n=0)
 else if op=3 then zbc x&&decide (BS name=[])&&decide (n=1)
 else if 4<=op/\op<=7 then zbc x&&decide (BS name=[])&&decide (n=2)
 else false
mutual
def fmd:PEx->Bool
 | .mk op x v name args=>shp op x v name args.length&&zk9 args
def zk9:List PEx->Bool
 | []=>true
 | a :: r=>fmd a&&zk9 r
end
theorem zka:∀l:List PEx,zk9 l=l.all fmd
 | []=>rfl
 | a :: r=>by rw[zk9,zka r];rfl
mutual
def dep:PEx->Nat
 | .mk _ _ _ _ args=>zel args+1
def zel:List PEx->Nat
 | []=>0
 | a :: r=>max (dep a) (zel r)
end
theorem zj1:∀{l:List PEx} {a:PEx},a∈l->dep a<=zel l
 | _ :: _,_,h=>by
   unfold zel;rcases List.mem_cons.1 h with rfl | h
   . omega
   . have:=zj1 h;omega
theorem zn5:∀(l:List PEx) (a:PEx),zel (l++[a])=max (zel l) (dep a)
 | [],a=>by simp[zel]
 | b :: r,a=>by rw[List.cons_append];unfold zel;rw[zn5 r a];omega
theorem z9j(p:PEx):dep p=zel p.args+1:=by cases p;rfl
mutual
def smE:PEx->Prop
 | .mk op x v name args=>args.length<=4/\name.size<=40/\x.num.mag.len<=4/\x.den.mag.len<=4/\Zar args
def Zar:List PEx->Prop
 | []=>True
 | a :: r=>smE a/\Zar r
end
theorem zgb:∀{l:List PEx} {a:PEx},Zar l->a∈l->smE a
 | _ :: _,_,hs,h=>by
   unfold Zar at hs;rcases List.mem_cons.1 h with rfl | h
   . exact hs.1
   . exact zgb hs.2 h
def vE(p:PEx):Bool:=fmd p&&decide (dep p<=40)
def sE(p:PEx):Prop:=smE p/\dep p<=61
def OPT(h:Hp):Prop:=∀i:Nat,i<8->h.cell ((⟨1,0,none⟩:Addr).add i)=some (.int .i64 (([0,0,0,1,2,2,2,2]:List Int).getD i 0))
theorem OPT.le{h h':Hp}(ht:OPT h)(hl:h.le h'):OPT h':=λi hi=>Hp.cell_le hl (ht i hi)
section
variable {h : Hp} {e : TExpr} {p : PEx} {Kb : Bool → Hp → Prop} {Ki : Int → Hp → Prop}
theorem zzi{x:TRat}(H:Kb (zbc x) h):zc (F.z3m x) Kb h:=by
 refine zx _ (λK' hk=>?_) H;unfold F.z3m;unfold zbc at hk;refine zu (λh1=>zu (λh2=>?_) (λh2=>?_)) (λh1=>?_)
 . rw[decide_eq_true (show x.num.mag.len=0 by omega),decide_eq_true (show x.den.mag.len=0 by omega)]at hk;refine zi (λh3=>?_) (λh3=>?_)
   . rw[h3]at hk;exact hk
   . rw[h3]at hk;exact hk
 . rw[decide_eq_false (show ¬x.den.mag.len=0 by omega),Tp,Bool.and_false]at hk;exact hk
 . rw[decide_eq_false (show ¬x.num.mag.len=0 by omega),Tp]at hk;exact hk
theorem zia{s:ByteArray}(H:Kb (zmj (BS s)) h):zc (F.z1k s) Kb h:=zx _ (λK' hk=>Z07 hk) H
theorem zg2{s:ByteArray}(H:Kb (zmj (BS s)) h):zc (F.z1s s) Kb h:=zx _ (λK' hk=>zx1 hk) H
theorem zfp{A B:Prop}{s:ByteArray}(hA:BS s=[]->A)(hB:BS s≠[]->B):ifP ((s:ByteArray).toList==(Y3:ByteArray).toList) A B:=by
 rw[ze6,z4g];refine zi (λhh=>hA ?_) (λhh=>hB ?_)
 . simpa using hh
 . intro h0;rw[h0]at hh;cases hh
theorem zz3{s:Sl}{g:PEx->Bool}{ps:List PEx}{G:TExpr->(Bool->Hp->Prop)->Hp->Prop}(hx:LR ec 7 EX h s ps)(hlen:ps.length<=1000000)
 (hG:∀e p h',h.le h'->EX h' e p->p∈ps->∀K:Bool->Hp->Prop,(∀h'',h'.le h''->K (g p) h'')->zc (G e) K h') (H:∀r h',h.le h'->(0<=r↔∃p∈ps,g p=true)->Ki r h') :
 (zn (S:=Int×Unit) (λs1 k2 h1=>
 (ifP (decide (s1.1<(s.len:Int)))
 (zg s s1.1 7 λa3=>
 (ldL (.int .i64) (a3.add 0) (λx4_0=>
 (ldL (.bool) (a3.add 1) (λx4_1=>
 (ldL (.sl) (a3.add 2) (λx4_2=>
 (ldL (.bool) (a3.add 3) (λx4_3=>
 (ldL (.sl) (a3.add 4) (λx4_4=>
 (ldL (.str) (a3.add 5) (λx4_5=>
 (ldL (.sl) (a3.add 6) (λx4_6=>
 (zc (G (⟨x4_0,(⟨(⟨x4_1,x4_2⟩:TInt),(⟨x4_3,x4_4⟩:TInt)⟩:TRat),x4_5,x4_6⟩:TExpr)) (λr5 h2=>
 (ifP r5
 (Ki s1.1 h2)
 (k2 ((i64.wrap (s1.1+1)),()) h2))) h1)) h1)) h1)) h1)) h1)) h1)) h1)) h1))
 (Ki (-1) h1)))
 (0,()) h):=by
  have hl:=hx.len Vx;refine yg (n:=ps.length) (by omega) (λi h'=>h.le h'/\∀j (hj:j<ps.length),j<i->g ps[j]=false) ⟨Hp.le_refl _,λj _ hj=>by omega⟩ ?_;rintro i h1 hi ⟨hl1,hno⟩ k hk2;refine ze (λh2=>?_) (λh2=>?_)
  . have hi':i<ps.length:=by simp only at h2;omega
    refine(hx.le Vx hl1).get Vx i rfl hi' λa x hxx hc=>?_
    refine⟨_,hc 0 _ rfl,_,hc 1 _ rfl,_,hc 2 _ rfl,_,hc 3 _ rfl,_,hc 4 _ rfl,_,hc 5 _ rfl,_,hc 6 _ rfl,?_⟩;refine hG _ _ _ hl1 hxx (Jh _) _ λh3 hl3=>?_
    refine zi (λh4=>H _ _ (Hp.le_trans hl1 hl3) ⟨λ_=>⟨_,Jh hi',h4⟩,λ_=>by simp only;omega⟩) (λh4=>hk2 _ hi' ⟨Hp.le_trans hl1 hl3,λj hj hji=>?_⟩);rcases Jo j i with h5 | h5
    . exact hno j hj h5
    . have:j=i:=by omega
      subst this;exact h4
  . refine H _ _ hl1 ⟨λhh=>by omega,λ⟨p,hp,hg⟩=>?_⟩;obtain⟨j,hj,rfl⟩:=Gh.1 hp;have:j<i:=by simp only at h2;omega
    rw[hno j hj this]at hg;cases hg
theorem Zdv{l:List PEx}:(∃p∈l,(!fmd p)=true)↔zk9 l=false:=by
 rw[zka,<-Tr,Jz];constructor
 . rintro⟨p,hp,h1⟩ hh;rw[hh p hp]at h1;cases h1
 . intro hh;apply Jy;intro hn;exact hh λp hp=>by
    cases hf:fmd p with
    | true=>rfl
    | false=>exact absurd ⟨p,hp,by rw[hf];rfl⟩ hn
theorem zs3(hx:EX h e p)(hs:sE p)(ht:P10 h)(ho:OPT h)(H:∀h',h.le h'->Kb (fmd p) h'):zc (F.z3l e) Kb h:=by
 have key:∀(fuel:Nat) (h:Hp) (e:TExpr) (p:PEx) (K:Bool->Hp->Prop),EX h e p->smE p->dep p<=fuel->P10 h->OPT h->(∀h',h.le h'->K (fmd p) h')->F.Qk fuel e K h:=by
  intro fuel;induction fuel with
  | zero=>intro h e p K _ _ hd _ _ _;rw[z9j]at hd;omega
  | succ fuel ih=>
    intro h e p K hx hs hd ht ho H;have hargs:=hx.args;cases hx with
    | mk _ v xs ps g1 g2 g3 g4 g5=>
    simp only[PEx.args]at hargs;have hal:=hargs.len Vx;have hd':zel ps<=fuel:=by have:=z9j (PEx.mk e.op e.value v e.name ps);simp only[PEx.args]at this;omega
    unfold smE at hs;obtain⟨s1,s2,s3,s4,s5⟩:=hs;unfold fmd at H;unfold F.Qk;refine zh (λ_ h1=>h1=h/\1<=e.op/\e.op<=7/\(ps.length:Int)=([0,0,0,1,2,2,2,2]:List Int).getD e.op.toNat 0) ?_ ?_
    . rintro _ h ⟨rfl,o1,o2,hn⟩;refine zu (λh1=>?_) (λh1=>zu (λh2=>?_) (λh2=>?_))
      . rw[h1]at hn;have hn0:ps=[]:=Jn (by have:(ps.length:Int)=0:=hn;omega);subst hn0;unfold shp zk9 at H;rw[if_pos h1,decide_eq_true (show([]:List PEx).length=0 from rfl),Pl,Pl]at H;refine zou g1 (λq hq=>by subst hq;exact g1.br s3 s4) ht λs h2 hl2=>?_
        refine zi (λh3=>?_) (λh3=>?_)
        . simp only at h3;rw[h3,Td]at H;refine zfp (λh4=>?_) (λh4=>?_)
          . rw[decide_eq_true h4]at H;exact H _ hl2
          . rw[decide_eq_false h4,Bool.false_or]at H;exact zia (H _ hl2)
        . simp only at h3;rw[h3,Tp]at H;exact H _ hl2
      . rw[h2]at hn;have hn0:ps=[]:=Jn (by have:(ps.length:Int)=0:=hn;omega);subst hn0;unfold shp zk9 at H;rw[if_neg h1,if_pos h2,decide_eq_true (show([]:List PEx).length=0 from rfl),Pl,Pl]at H;refine zzi ?_;refine zi (λh3=>?_) (λh3=>?_)
        . rw[h3,Td]at H;exact zia (H _ (Hp.le_refl _))
        . rw[h3,Tp]at H;exact H _ (Hp.le_refl _)
      . have hsh:shp e.op e.value v e.name ps.length=(zbc e.value&&decide (BS e.name=[])):=by
         unfold shp;rw[if_neg h1,if_neg h2];rcases(by omega:e.op=3\/e.op=4\/e.op=5\/e.op=6\/e.op=7)with h3 | h3 | h3 | h3 | h3<;>rw[h3]at hn |-
         . have:ps.length=1:=by have:(ps.length:Int)=1:=hn;omega
           simp[this]
         all_goals
          have:ps.length=2:=by have:(ps.length:Int)=2:=hn;omega
          simp[this]
        rw[hsh]at H;refine zzi ?_;refine zi (λh3=>?_) (λh3=>?_)
        . rw[h3,Td]at H;refine zfp (λh4=>?_) (λh4=>?_)
          . rw[decide_eq_true h4,Td]at H;refine zd (λb h'=>b=!zk9 ps) (λK' hk=>?_) λb h' hl hb=>by subst hb;rw[Bool.not_not];exact H _ hl
            unfold F.yh;refine zd (λr h'=>(0<=r↔∃p∈ps,(!fmd p)=true)) (λK2 hk2=>?_) λr h' hl hr=>hk _ _ hl ?_
            . unfold F.yz;refine zz3 (g:=λp=>!fmd p) (ps:=ps) (G:=F.z1g (F.Qk fuel)) hargs (by omega) ?_ λr h' hl hr=>hk2 _ _ hl hr
              intro e2 p2 h2 hl2 hx2 hm K3 hK3;refine zd (λb h'=>b=!fmd p2) (λK' hk=>?_) λb h' hl hb=>by subst hb;exact hK3 _ hl
              unfold F.z1g;refine zd (λb h'=>b=fmd p2) (λK' hk=>?_) λb h' hl hb=>hk _ _ hl (by rw[hb])
              exact ih _ _ _ _ hx2 (zgb s5 hm) (by have:=zj1 hm;omega) (ht.le hl2) (ho.le hl2) λh' hl=>hk _ _ hl rfl
            . rw[Zdv]at hr;cases hf:zk9 ps with
              | true=>rw[hf]at hr;exact decide_eq_false λhh=>by have:=hr.1 hh;cases this
              | false=>exact decide_eq_true (hr.2 hf)
          . rw[decide_eq_false h4,Tp]at H;exact H _ (Hp.le_refl _)
        . rw[h3,Tp,Tp]at H;exact H _ (Hp.le_refl _)
    . have hf:∀{q:Prop},(shp e.op e.value v e.name ps.length=true->False)->(K false h):=λhh=>by
       have:=H _ (Hp.le_refl _)
       rwa [Bool.eq_false_iff.2 hh,Tp]at this
      refine ze (λh1=>hf (q:=True) λhh=>?_) (λh1=>ze (λh2=>hf (q:=True) λhh=>?_) (λh2=>?_))
      . unfold shp at hh;rw[if_neg (by omega),if_neg (by omega),if_neg (by omega),if_neg (by omega)]at hh;cases hh
      . unfold shp at hh;rw[if_neg (by omega),if_neg (by omega),if_neg (by omega),if_neg (by omega)]at hh;cases hh
      . refine zz9 (by omega) (by omega) ?_;have hc:=ho e.op.toNat (by omega);rw[J7];refine⟨_,hc,?_⟩;refine Z2 (λh3=>hf (q:=True) λhh=>?_) (λh3=>⟨rfl,by omega,by omega,by rw[<-hal];exact h3⟩);unfold shp at hh;rcases(by omega:e.op=1\/e.op=2\/e.op=3\/e.op=4\/e.op=5\/e.op=6\/e.op=7)with h4 | h4 | h4 | h4 | h4 | h4 | h4<;>rw[h4]at hh h3<;>simp at hh h3<;>first | omega | (have hz:=hh.2;rw[hz]at hal;simp at hal;omega)
 refine zd (λb h'=>b=fmd p) (λK' hk=>?_) λb h' hl hb=>by subst hb;exact H h' hl
 unfold F.z3l;exact⟨61,key 61 h e p K' hx hs.1 hs.2 ht ho λh' hl=>hk _ _ hl rfl⟩
theorem zt9(hx:EX h e p)(hs:smE p)(H:∀h',h.le h'->Kb (match p with | .mk op x v name args=>shp op x v name args.length) h'):zc (F.z8u e) Kb h:=by
 have hargs:=hx.args;cases hx with
 | mk _ v xs ps g1 g2 g3 g4 g5=>
 simp only[PEx.args]at hargs;have hal:=hargs.len Vx;unfold smE at hs;obtain⟨s1,s2,s3,s4,s5⟩:=hs;simp only at H;refine zd (λb h'=>b=shp e.op e.value v e.name ps.length) (λK' hk=>?_) λb h' hl hb=>by subst hb;exact H h' hl
 unfold F.z8u;have hlast:∀n:Nat,((e.args.len:Int)==(n:Int))=decide (ps.length=n):=λn=>by
  rw[hal];by_cases hh:ps.length=n
  . rw[decide_eq_true hh,hh];simp
  . rw[decide_eq_false hh,beq_eq_false_iff_ne];omega
 refine zh (λs h1=>h1=h/\s.1=zbc e.value) ?_ ?_
 . rintro⟨b,_⟩ h ⟨rfl,hb⟩;simp only at hb;subst hb;refine zu (λh1=>?_) (λh1=>zu (λh2=>?_) (λh2=>zu (λh3=>?_) (λh3=>?_)))
   . refine zmm g1 (λq hq=>by subst hq;exact g1.br s3 s4) λs h2 hl2=>?_
     have e1:shp e.op e.value v e.name ps.length=(z5r v&&(decide (BS e.name=[])||zmj (BS e.name))&&decide (ps.length=0)):=by unfold shp;rw[if_pos h1]
     refine zi (λh3=>?_) (λh3=>?_)
     . simp only at h3;rw[h3,Td]at e1;refine zfp (λh4=>?_) (λh4=>?_)
       . rw[decide_eq_true h4,Bool.true_or,Td]at e1;exact hk _ _ hl2 (by rw[e1];exact hlast 0)
       . rw[decide_eq_false h4,Bool.false_or]at e1;refine zg2 ?_;refine zi (λh5=>hk _ _ hl2 ?_) (λh5=>hk _ _ hl2 ?_)
         . rw[e1,h5,Td];exact hlast 0
         . rw[e1,h5,Tp]
     . simp only at h3;rw[h3,Tp,Tp]at e1;exact hk _ _ hl2 e1.symm
   . have e1:shp e.op e.value v e.name ps.length=(zbc e.value&&zmj (BS e.name)&&decide (ps.length=0)):=by unfold shp;rw[if_neg h1,if_pos h2]
     refine zi (λh3=>?_) (λh3=>hk _ _ (Hp.le_refl _) ?_)
     . simp only at h3;rw[h3,Td]at e1;refine zg2 ?_;refine zi (λh5=>hk _ _ (Hp.le_refl _) ?_) (λh5=>hk _ _ (Hp.le_refl _) ?_)
       . rw[e1,h5,Td];exact hlast 0
       . rw[e1,h5,Tp]
     . simp only at h3;rw[e1,h3];rfl
   . have e1:shp e.op e.value v e.name ps.length=(zbc e.value&&decide (BS e.name=[])&&decide (ps.length=1)):=by unfold shp;rw[if_neg h1,if_neg h2,if_pos h3]
     refine zi (λh4=>zfp (λh5=>hk _ _ (Hp.le_refl _) ?_) (λh5=>hk _ _ (Hp.le_refl _) ?_)) (λh4=>hk _ _ (Hp.le_refl _) ?_)
     . simp only at h4;rw[e1,h4,decide_eq_true h5];exact hlast 1
     . simp only at h4;rw[e1,h4,decide_eq_false h5];rfl
     . simp only at h4;rw[e1,h4];rfl
   . have e0:shp e.op e.value v e.name ps.length=if 4<=e.op/\e.op<=7 then zbc e.value&&decide (BS e.name=[])&&decide (ps.length=2)else false:=by unfold shp;rw[if_neg h1,if_neg h2,if_neg h3]
     refine zh (λs h1=>h1=h/\s.1=decide (4<=e.op/\e.op<=7)) ?_ ?_
     . rintro⟨b,_⟩ h ⟨rfl,hb⟩;simp only at hb;subst hb;refine ze (λh6=>?_) (λh6=>hk _ _ (Hp.le_refl _) (by rw[e0,if_neg h6]));rw[if_pos h6]at e0;refine zi (λh4=>zfp (λh5=>hk _ _ (Hp.le_refl _) ?_) (λh5=>hk _ _ (Hp.le_refl _) ?_)) (λh4=>hk _ _ (Hp.le_refl _) ?_)
       . simp only at h4;rw[e0,h4,decide_eq_true h5];exact hlast 2
       . simp only at h4;rw[e0,h4,decide_eq_false h5];rfl
       . simp only at h4;rw[e0,h4];rfl
     . refine zu (λh4=>⟨rfl,?_⟩) (λh4=>zu (λh5=>⟨rfl,?_⟩) (λh5=>zu (λh6=>⟨rfl,?_⟩) (λh6=>⟨rfl,?_⟩)))
       . rw[h4];rfl
       . rw[h5];rfl
       . rw[h6];rfl
       . by_cases h7:e.op=7
         . rw[h7];rfl
         . have:(e.op==7)=false:=by rw[beq_eq_false_iff_ne];exact h7
           simp only[this];rw[eq_comm,decide_eq_false_iff_not];omega
 . have e1:zbc e.value=(!e.value.num.neg&&(!e.value.den.neg&&(decide (e.value.num.mag.len=0)&&decide (e.value.den.mag.len=0)))):=by
    unfold zbc;cases e.value.num.neg<;>cases e.value.den.neg<;>simp
   rw[e1];refine zi (λh1=>zi (λh2=>zu (λh3=>⟨rfl,?_⟩) (λh3=>⟨rfl,?_⟩)) (λh2=>⟨rfl,?_⟩)) (λh1=>⟨rfl,?_⟩)
   . rw[h1,h2,decide_eq_true (show e.value.num.mag.len=0 by omega)];simp only[Td];by_cases hh:e.value.den.mag.len=0
     . rw[decide_eq_true hh,hh];rfl
     . rw[decide_eq_false hh,beq_eq_false_iff_ne];omega
   . rw[h1,h2,decide_eq_false (show ¬e.value.num.mag.len=0 by omega)];rfl
   . rw[h1,h2];rfl
   . rw[h1];rfl
theorem zpw(hx:EX h e p)(hs:sE p)(H:∀h',h.le h'->Kb (fmd p) h'):zc (F.z75 e) Kb h:=by
 have key:∀(fuel:Nat) (h:Hp) (e:TExpr) (p:PEx) (K:Bool->Hp->Prop),EX h e p->smE p->dep p<=fuel->(∀h',h.le h'->K (fmd p) h')->F.Vp fuel e K h:=by
  intro fuel;induction fuel with
  | zero=>intro h e p K _ _ hd _;rw[z9j]at hd;omega
  | succ fuel ih=>
    intro h e p K hx hs hd H;unfold F.Vp;refine zt9 hx hs λh1 hl1=>?_
    have hargs:=hx.args.le Vx hl1;cases hx with
    | mk _ v xs ps g1 g2 g3 g4 g5=>
    simp only[PEx.args]at hargs;have hal:=hargs.len Vx;have hd':zel ps<=fuel:=by have:=z9j (PEx.mk e.op e.value v e.name ps);simp only[PEx.args]at this;omega
    unfold smE at hs;obtain⟨s1,s2,s3,s4,s5⟩:=hs;unfold fmd at H;simp only;refine zi (λh2=>?_) (λh2=>?_)
    . have:shp e.op e.value v e.name ps.length=false:=by simpa using h2
      rw[this,Tp]at H;exact H _ hl1
    . have:shp e.op e.value v e.name ps.length=true:=by simpa using h2
      rw[this,Td,zka]at H;refine yg (n:=ps.length) (by omega) (λi h'=>h1.le h'/\∀j (hj:j<ps.length),j<i->fmd ps[j]=true) ⟨Hp.le_refl _,λj _ hj=>by omega⟩ ?_;rintro i h3 hi ⟨hl3,hno⟩ k hk2;refine ze (λh4=>?_) (λh4=>?_)
      . have hi':i<ps.length:=by simp only at h4;omega
        refine(hargs.le Vx hl3).get Vx i rfl hi' λa x hxx hc=>?_
        refine⟨_,hc 0 _ rfl,_,hc 1 _ rfl,_,hc 2 _ rfl,_,hc 3 _ rfl,_,hc 4 _ rfl,_,hc 5 _ rfl,_,hc 6 _ rfl,?_⟩;refine zd (λb h'=>b=fmd ps[i]) (λK' hk=>ih _ _ _ _ hxx (zgb s5 (Jh _)) (by have:=zj1 (Jh hi');omega) λh' hl=>hk _ _ hl rfl) λb h5 hl5 hb=>?_
        subst hb;have hle:=Hp.le_trans hl1 (Hp.le_trans hl3 hl5);refine zi (λh6=>?_) (λh6=>hk2 _ hi' ⟨Hp.le_trans hl3 hl5,λj hj hji=>?_⟩)
        . have:ps.all fmd=false:=by
           rw[<-Tr,Jz];intro hh;have:=hh _ (Jh hi');rw[this]at h6;cases h6
          rw[this]at H;exact H _ hle
        . rcases Jo j i with h7 | h7
          . exact hno j hj h7
          . have:j=i:=by omega
            subst this;simpa using h6
      . have hi':i=ps.length:=by simp only at h4;omega
        subst hi';have:ps.all fmd=true:=by
         rw[Jz];intro q hq;obtain⟨j,hj,rfl⟩:=Gh.1 hq;exact hno j hj hj
        rw[this]at H;exact H _ (Hp.le_trans hl1 hl3)
 refine zd (λb h'=>b=fmd p) (λK' hk=>?_) λb h' hl hb=>by subst hb;exact H h' hl
 unfold F.z75;exact⟨61,key 61 h e p K' hx hs.1 hs.2 λh' hl=>hk _ _ hl rfl⟩
theorem Z9k(a b:Nat):zwp (a:Int) (b:Int)=((max a b:Nat):Int):=by unfold zwp;split<;>omega
theorem zlb:∀(fuel:Nat) (h:Hp) (e:TExpr) (p:PEx) (K:Int->Hp->Prop),EX h e p->smE p->dep p<=fuel->dep p<=1000->(∀h',h.le h'->K (dep p:Nat) h')->F.X8 fuel e K h:=by
 intro fuel;induction fuel with
 | zero=>intro h e p K _ _ hd _ _;rw[z9j]at hd;omega
 | succ fuel ih=>
   intro h e p K hx hs hd hd2 H;have hargs:=hx.args;have hda:=z9j p;cases hx with
   | mk _ v xs ps g1 g2 g3 g4 g5=>
   simp only[PEx.args]at hargs hda;have hal:=hargs.len Vx;unfold smE at hs;obtain⟨s1,s2,s3,s4,s5⟩:=hs;unfold F.X8;refine Yq (n:=ps.length) (by omega) (λi a h'=>h.le h'/\a=((zel (ps.take i):Nat):Int)) ⟨Hp.le_refl _,by simp[zel]⟩ ?_;rintro i a h3 hi ⟨hl3,ha⟩ k hk2;refine ze (λh4=>?_) (λh4=>?_)
   . have hi':i<ps.length:=by simp only at h4;omega
     refine(hargs.le Vx hl3).get Vx i rfl hi' λa' x hxx hc=>?_
     refine⟨_,hc 0 _ rfl,_,hc 1 _ rfl,_,hc 2 _ rfl,_,hc 3 _ rfl,_,hc 4 _ rfl,_,hc 5 _ rfl,_,hc 6 _ rfl,?_⟩;have hdm:=zj1 (Jh hi');refine zd (λb h'=>b=((dep ps[i]:Nat):Int)) (λK' hk=>ih _ _ _ _ hxx (zgb s5 (Jh _)) (by omega) (by omega) λh' hl=>hk _ _ hl rfl) λb h5 hl5 hb=>?_
     subst hb;refine hk2 _ _ hi' ⟨Hp.le_trans hl3 hl5,?_⟩;simp only;rw[ha,Z9k,<-Jk hi',zn5]
   . have hi':i=ps.length:=by simp only at h4;omega
     subst hi';rw[Jw]at ha;have:=H _ hl3;rw[hda]at this;simp only;rw[ha,w64 (by omega)];exact this
theorem zqv:∀fuel,F.Wh fuel=F.X8 fuel
 | 0=>rfl
 | fuel+1=>by
   funext e K h;unfold F.Wh F.X8;rw[zqv fuel]
theorem zt0(hx:EX h e p)(hs:sE p)(H:∀h',h.le h'->Ki (dep p:Nat) h'):zc (F.z8s e) Ki h:=by
 refine zd (λb h'=>b=((dep p:Nat):Int)) (λK' hk=>?_) λb h' hl hb=>by subst hb;exact H h' hl
 unfold F.z8s;have:=hs.2;exact⟨61,zlb 61 h e p K' hx hs.1 hs.2 (by omega) λh' hl=>hk _ _ hl rfl⟩
theorem zua(hx:EX h e p)(hs:sE p)(H:∀h',h.le h'->Ki (dep p:Nat) h'):zc (F.z57 e) Ki h:=by
 refine zd (λb h'=>b=((dep p:Nat):Int)) (λK' hk=>?_) λb h' hl hb=>by subst hb;exact H h' hl
 unfold F.z57;have:=hs.2;exact⟨61,by rw[zqv];exact zlb 61 h e p K' hx hs.1 hs.2 (by omega) λh' hl=>hk _ _ hl rfl⟩
theorem zry(hx:EX h e p)(hs:sE p)(ht:P10 h)(ho:OPT h)(H:∀r h',h.le h'->(r=0↔vE p=true)->Ki r h'):zc (F.z58 e) Ki h:=by
 refine zd (λr h'=>r=0↔vE p=true) (λK' hk=>?_) λb h' hl hb=>H b h' hl hb
 unfold F.z58;refine zs3 hx hs ht ho λh1 hl1=>?_
 unfold vE at hk;cases hf:fmd p with
 | false=>exact Z4 rfl (hk _ _ hl1 (by rw[hf];simp))
 | true=>
   refine zr rfl ?_;refine zua (hx.le hl1) hs λh2 hl2=>?_
   refine ze (λh3=>hk _ _ (Hp.le_trans hl1 hl2) ?_) (λh3=>hk _ _ (Hp.le_trans hl1 hl2) ?_)
   . rw[hf,decide_eq_false (by omega)];simp
   . rw[hf,decide_eq_true (by omega)];simp
theorem zq2(hx:EX h e p)(hs:sE p)(H:∀r h',h.le h'->(r=0↔vE p=true)->Ki r h'):zc (F.z8t e) Ki h:=by
 refine zd (λr h'=>r=0↔vE p=true) (λK' hk=>?_) λb h' hl hb=>H b h' hl hb
 unfold F.z8t;refine zpw hx hs λh1 hl1=>?_
 unfold vE at hk;cases hf:fmd p with
 | false=>exact Z4 rfl (hk _ _ hl1 (by rw[hf];simp))
 | true=>
   refine zr rfl ?_;refine zt0 (hx.le hl1) hs λh2 hl2=>?_
   refine ze (λh3=>hk _ _ (Hp.le_trans hl1 hl2) ?_) (λh3=>hk _ _ (Hp.le_trans hl1 hl2) ?_)
   . rw[hf,decide_eq_false (by omega)];simp
   . rw[hf,decide_eq_true (by omega)];simp
end
end Den
end

section
namespace Den
open Go Iv Lx
def Zc1:List (Nat×Nat×Nat×Nat×Bool):=[(1,0,2,2,false),(2,0,1,1,false),(3,0,0,1,false),(3,0,1,1,true),(4,0,1,1,false),(4,0,0,1,false),(4,0,0,1,false),(4,0,0,1,false),(3,0,0,2,false),(4,0,0,2,false),(2,0,0,1,false),(2,0,0,1,false),(1,1,0,1,false),(0,1,1,1,false),(0,2,0,1,false),(2,1,0,1,true),(0,2,0,1,true)]
def shK(k:Int):Nat×Nat×Nat×Nat×Bool:=if 1<=k then Zc1.getD (k.toNat-1) (0,0,0,0,false)else (0,0,0,0,false)
def eqK(k:Int):Nat:=(shK k).2.2.2.1
structure PCon where
 kind:Int
 pts:List Int
 cir:List Int
 vals:List PEx
 side:Int
def cc(x:TConstraint):List Value:=[.int .i64 x.kind,Lf.sl.up x.points,Lf.sl.up x.circles,Lf.sl.up x.values,.int .i64 x.side]
def CO(h:Hp)(x:TConstraint)(c:PCon):Prop:=x.kind=c.kind/\IL h x.points c.pts/\IL h x.circles c.cir/\LR ec 7 EX h x.values c.vals/\x.side=c.side
theorem CO.le{h h':Hp}{x:TConstraint}{c:PCon}(hx:CO h x c)(hl:h.le h'):CO h' x c:=⟨hx.1,hx.2.1.le hl,hx.2.2.1.le hl,hx.2.2.2.1.le Vx hl,hx.2.2.2.2⟩
theorem yw:Rec cc 5 CO:=⟨λ_=>rfl,by decide,λ_=>rfl,λhx hl=>hx.le hl⟩
def z95:List Int->Prop
 | [a,b,c,d]=>a≠b/\c≠d/\¬(a=c/\b=d)/\¬(a=d/\b=c)
 | _=>False
def z2d(k:Int):Prop:=k=5\/k=6\/k=7\/k=8
instance (k:Int):Decidable (z2d k):=by unfold z2d;infer_instance
def VC(c:PCon)(n m:Int):Prop:=
 (1<=c.kind/\c.kind<=17)/\(c.pts.length=(shK c.kind).1/\∀x∈c.pts,0<=x/\x<n)/\(c.cir.length=(shK c.kind).2.1/\∀x∈c.cir,0<=x/\x<m)/\c.vals.length=(shK c.kind).2.2.1 /\
 (∀v∈c.vals,vE v=true)/\(if (shK c.kind).2.2.2.2=true then c.side=1\/c.side=-1 else c.side=0)/\(if z2d c.kind then z95 c.pts else c.pts.Nodup/\c.cir.Nodup)
def sC(c:PCon):Prop:=c.pts.length<=10/\c.cir.length<=10/\c.vals.length<=10/\∀v∈c.vals,sE v
def TBL(h:Hp):Prop:=∀k:Nat,1<=k->k<=17->∃ln ps:Bool,∀j v,([.int .i64 ((shK k).1:Int),.int .i64 ((shK k).2.1:Int),.int .i64 ((shK k).2.2.1:Int),.int .i64 ((shK k).2.2.2.1:Int),.bool (shK k).2.2.2.2,.bool ln,.bool ps]:List Value)[j]?=some v ->
 h.cell ((((⟨0,0,none⟩:Addr).add (k*8)).add 1).add j)=some v
theorem TBL.le{h h':Hp}(ht:TBL h)(hl:h.le h'):TBL h':=λk h1 h2=>by
 obtain⟨ln,ps,h3⟩:=ht k h1 h2;exact⟨ln,ps,λj v hv=>Hp.cell_le hl (h3 j v hv)⟩
def GT(h:Hp):Prop:=P10 h/\OPT h/\TBL h
theorem GT.le{h h':Hp}(ht:GT h)(hl:h.le h'):GT h':=⟨ht.1.le hl,ht.2.1.le hl,ht.2.2.le hl⟩
section
variable {h : Hp} {x : TConstraint} {c : PCon} {l : Sl} {xs : List Int} {Kb : Bool → Hp → Prop} {Ki : Int → Hp → Prop}
theorem zf6{kind:Int}{K:(Tconstraint_Shape×Bool)->Hp->Prop}(ht:TBL h)(H1:1<=kind->kind<=17->∀ln ps,K (⟨((shK kind).1:Int),((shK kind).2.1:Int),((shK kind).2.2.1:Int),((shK kind).2.2.2.1:Int),(shK kind).2.2.2.2,ln,ps⟩,true) h)
 (H0:¬(1<=kind/\kind<=17)->K (⟨0,0,0,0,false,false,false⟩,false) h):zc (F.Wf kind) K h:=by
 refine zd (λr h'=>h'=h/\((1<=kind/\kind<=17/\∃ln ps,r=(⟨((shK kind).1:Int),((shK kind).2.1:Int),((shK kind).2.2.1:Int),((shK kind).2.2.2.1:Int),(shK kind).2.2.2.2,ln,ps⟩,true))\/(¬(1<=kind/\kind<=17)/\r=(⟨0,0,0,0,false,false,false⟩,false)))) (λK' hk=>?_) λr h' _ hr=>by
  obtain⟨rfl,hr | hr⟩:=hr
  . obtain⟨h1,h2,ln,ps,rfl⟩:=hr;exact H1 h1 h2 ln ps
  . rw[hr.2];exact H0 hr.1
 unfold F.Wf;refine zh (λ_ h1=>h1=h/\1<=kind/\kind<=17) ?_ ?_
 . rintro _ h ⟨rfl,h1,h2⟩;obtain⟨k,rfl⟩:∃k:Nat,kind=k:=⟨kind.toNat,by omega⟩;obtain⟨ln,ps,hc⟩:=ht k (by omega) (by omega);refine zz9 (by omega) (by omega) ?_;exact⟨_,hc 0 _ rfl,_,hc 1 _ rfl,_,hc 2 _ rfl,_,hc 3 _ rfl,_,hc 4 _ rfl,_,hc 5 _ rfl,_,hc 6 _ rfl,hk _ _ (Hp.le_refl _) ⟨rfl,.inl ⟨h1,h2,ln,ps,rfl⟩⟩⟩
 . refine ze (λh1=>hk _ _ (Hp.le_refl _) ⟨rfl,.inr ⟨by omega,rfl⟩⟩) λh1=>ze (λh2=>hk _ _ (Hp.le_refl _) ⟨rfl,.inr ⟨by omega,rfl⟩⟩) λh2=>⟨rfl,by omega,by omega⟩
def Zek(r:Tsetsquareref25_Row):List Value:=[.string r.name,.int .i64 r.points,.int .i64 r.circles,.int .i64 r.count,.int .i64 r.values,.int .i64 r.equations,.bool r.side]
def z82:List Tsetsquareref25_Row:=[⟨⟨#[102,105,120]⟩,1,0,2,1,2,false⟩,⟨⟨#[100,105,115,116,97,110,99,101]⟩,2,0,1,2,1,false⟩,⟨⟨#[105,110,99,105,100,101,110,116]⟩,3,0,0,0,1,false⟩,⟨⟨#[111,102,102,115,101,116]⟩,3,0,1,2,1,true⟩,⟨⟨#[97,110,103,108,101]⟩,4,0,1,3,1,false⟩,⟨⟨#[112,97,114,97,108,108,101,108]⟩,4,0,0,0,1,false⟩,⟨⟨#[112,101,114,112,101,110,100,105,99,117,108,97,114]⟩,4,0,0,0,1,false⟩,⟨⟨#[101,113,117,97,108]⟩,4,0,0,0,1,false⟩,⟨⟨#[109,105,100,112,111,105,110,116]⟩,3,0,0,0,2,false⟩,⟨⟨#[115,121,109,109,101,116,114,105,99]⟩,4,0,0,0,2,false⟩,⟨⟨#[104,111,114,105,122,111,110,116,97,108]⟩,2,0,0,0,1,false⟩,⟨⟨#[118,101,114,116,105,99,97,108]⟩,2,0,0,0,1,false⟩,⟨⟨#[111,110,99,105,114,99,108,101]⟩,1,1,0,0,1,false⟩,⟨⟨#[114,97,100,105,117,115]⟩,0,1,1,2,1,false⟩,⟨⟨#[115,97,109,101,114,97,100,105,117,115]⟩,0,2,0,0,1,false⟩,⟨⟨#[116,97,110,103,101,110,116,108,105,110,101]⟩,2,1,0,0,1,true⟩,⟨⟨#[116,97,110,103,101,110,116,99,105,114,99,108,101]⟩,0,2,0,0,1,true⟩]
theorem Zel:∀k:Fin 17,(z82[k].points,z82[k].circles,z82[k].count,z82[k].equations,z82[k].side)=(((shK (k+1:Nat)).1:Int),((shK (k+1:Nat)).2.1:Int),((shK (k+1:Nat)).2.2.1:Int),((shK (k+1:Nat)).2.2.2.1:Int),(shK (k+1:Nat)).2.2.2.2):=by decide +kernel
theorem zmu{K:Sl->Hp->Prop}(H:∀l h',h.le h'->Rd h' 7 l (z82.flatMap Zek)->l.len=17->K l h'):zc F.z81 K h:=by
 refine zd (λl h'=>Rd h' 7 l (z82.flatMap Zek)/\l.len=17) (λK' hk=>?_) λl h' hl hr=>H l h' hl hr.1 hr.2
 unfold F.z81;exact zce (cells:=z82.flatMap Zek) 7 17 rfl λa h' hl hr=>hk _ _ hl ⟨hr,rfl⟩
theorem Zd8{kind:Int}{K:(Tsetsquareref25_Row×Bool)->Hp->Prop}(H1:1<=kind->kind<=17->∀nm vs h',h.le h'->K (⟨nm,((shK kind).1:Int),((shK kind).2.1:Int),((shK kind).2.2.1:Int),vs,((shK kind).2.2.2.1:Int),(shK kind).2.2.2.2⟩,true) h')
 (H0:¬(1<=kind/\kind<=17)->∀h',h.le h'->K (⟨Y3,0,0,0,0,0,false⟩,false) h'):zc (F.zg6 kind) K h:=by
 refine zd (λr h'=>((1<=kind/\kind<=17/\∃nm vs,r=(⟨nm,((shK kind).1:Int),((shK kind).2.1:Int),((shK kind).2.2.1:Int),vs,((shK kind).2.2.2.1:Int),(shK kind).2.2.2.2⟩,true))\/(¬(1<=kind/\kind<=17)/\r=(⟨Y3,0,0,0,0,0,false⟩,false)))) (λK' hk=>?_) λr h' hl hr=>by
  rcases hr with hr | hr
  . obtain⟨h1,h2,ln,ps,rfl⟩:=hr;exact H1 h1 h2 ln ps _ hl
  . rw[hr.2];exact H0 hr.1 _ hl
 unfold F.zg6;refine zh (λ_ h1=>h.le h1/\1<=kind/\kind<=17) ?_ ?_
 . rintro _ h1 ⟨hl1,h2,h3⟩;obtain⟨k,hk17,rfl⟩:∃k:Nat,k<17/\kind=((k+1:Nat):Int):=⟨(kind-1).toNat,by omega,by omega⟩;refine zmu λl h4 hl4 hr hlen=>?_
   have hk17':k<z82.length:=hk17;refine zle (c:=Zek) (λ_=>rfl) (by decide) hr k (by rw[w64 (by omega)];omega) hk17' λa hc=>?_
   refine⟨_,hc 0 _ (by decide) rfl,_,hc 1 _ (by decide) rfl,_,hc 2 _ (by decide) rfl,_,hc 3 _ (by decide) rfl,_,hc 4 _ (by decide) rfl,_,hc 5 _ (by decide) rfl,_,hc 6 _ (by decide) rfl,hk _ _ (Hp.le_trans hl1 hl4) (.inl ⟨h2,h3,z82[k].name,z82[k].values,?_⟩)⟩;have:=Zel ⟨k,hk17⟩;simp only[Prod.mk.injEq]at this;obtain⟨e1,e2,e3,e4,e5⟩:=this;rw[<-e1,<-e2,<-e3,<-e4,<-e5];rfl
 . refine ze (λh1=>hk _ _ (Hp.le_refl _) (.inr ⟨by omega,rfl⟩)) λh1=>?_
   refine zmu λl h4 hl4 hr hlen=>?_
   refine ze (λh2=>hk _ _ hl4 (.inr ⟨by omega,rfl⟩)) λh2=>⟨hl4,by omega,by omega⟩
theorem zi9{n zae:Int}(hx:IL h l xs)(hlen:xs.length<=1000000)(H:∀b h',h.le h'->(b=true↔(xs.length:Int)=n/\∀x∈xs,0<=x/\x<zae)->Kb b h'):zc (F.W8 l n zae) Kb h:=by
 refine zd (λb h'=>b=true↔(xs.length:Int)=n/\∀x∈xs,0<=x/\x<zae) (λK' hk=>?_) λb h' hl hb=>H b h' hl hb
 unfold F.W8;have hl:=hx.len;refine Ww λa h1 hl1 hc=>?_
 refine zu (λh2=>?_) (λh2=>hk _ _ hl1 ⟨λhh=>(by cases hh),λhh=>by omega⟩);refine zd (λb h'=>b=true↔∃x∈xs,¬(0<=x/\x<zae)) (λK' hk=>?_) λb h3 hl3 hb=>hk _ _ (Hp.le_trans hl1 hl3) ?_
 . unfold F.Yh;refine zd (λr h'=>Fnd (λx=>¬(0<=x/\x<zae)) xs r) (λK' hk=>?_) λr h4 hl4 hr=>hk _ _ hl4 (by rw[decide_eq_true_iff];exact hr.iff)
   unfold F.Yu;refine zdg (hx.le hl1) hlen (λx _ h5 hl5 K hK=>?_) λr h' hl hr=>hk _ _ hl hr
   refine zx (decide (¬(0<=x/\x<zae))) (λK' hk=>?_) (hK _ _ (Hp.le_refl _) (by rw[decide_eq_true_iff]));unfold F.z1z;refine ze (λh6=>?_) (λh6=>?_)
   . rw[decide_eq_true (by omega)]at hk;exact hk
   . refine⟨_,Hp.cell_le hl5 hc,?_⟩;have:decide (x>=zae)=decide (¬(0<=x/\x<zae)):=decide_eq_decide.2 (by omega);show K' (decide (x>=zae)) h5;rw[this];exact hk
 . rw[Gc,<-Tr,hb];constructor
   . intro hh;exact⟨by omega,λx hx=>Jy λhn=>hh ⟨x,hx,hn⟩⟩
   . rintro⟨_,h4⟩ ⟨x,hx,hn⟩;exact hn (h4 x hx)
theorem zga{n:Int}(hx:IL h l xs)(hlen:xs.length<=1000000)(H:∀b h',h.le h'->(b=true↔∀x∈xs,0<=x/\x<n)->Kb b h'):zc (F.z3z l n) Kb h:=by
 refine zd (λb h'=>b=true↔∀x∈xs,0<=x/\x<n) (λK' hk=>?_) λb h' hl hb=>H b h' hl hb
 unfold F.z3z;have hl:=hx.len;refine yg (n:=xs.length) (by omega) (λi h'=>h'=h/\∀j (hj:j<xs.length),j<i->0<=xs[j]/\xs[j]<n) ⟨rfl,λj _ hj=>by omega⟩ ?_;rintro i h hi ⟨rfl,hno⟩ k hk2;refine ze (λh2=>?_) (λh2=>?_)
 . have hi':i<xs.length:=by simp only at h2;omega
   have bad:¬(0<=xs[i]/\xs[i]<n)->K' false h:=λhn=>hk _ _ (Hp.le_refl _) ⟨λhh=>(by cases hh),λhh=>absurd (hh _ (Jh hi')) hn⟩
   refine zh (λ_ h'=>h'=h/\0<=xs[i]/\xs[i]<n) (λ_ h' hh=>?_) ?_
   . obtain⟨rfl,h3⟩:=hh;refine hk2 _ hi' ⟨rfl,λj hj hji=>?_⟩;rcases Jo j i with h5 | h5
     . exact hno j hj h5
     . have:j=i:=by omega
       subst this;exact h3
   . refine hx.get i rfl hi' ?_;refine ze (λh3=>?_) (λh3=>?_)
     . have h3:xs[i]<0:=h3;exact bad (by omega)
     have h3:¬xs[i]<0:=h3;refine hx.get i rfl hi' ?_;refine ze (λh4=>?_) (λh4=>?_)
     . have h4:xs[i]>=n:=h4;exact bad (by omega)
     . have h4:¬xs[i]>=n:=h4;exact⟨rfl,by omega,by omega⟩
 . refine hk _ _ (Hp.le_refl _) ⟨λ_ x hx=>?_,λ_=>rfl⟩;obtain⟨j,hj,rfl⟩:=Gh.1 hx;exact hno j hj (by simp only at h2;omega)
theorem zag{xs:List Int}{i:Nat}(hi:i<xs.length):(xs.take (i+1)).Nodup↔(xs.take i).Nodup/\xs[i]∉xs.take i:=by
 rw[<-Jk hi,List.nodup_append];constructor
 . rintro⟨h1,_,h3⟩;exact⟨h1,λhm=>h3 _ hm _ (J6.2 rfl) rfl⟩
 . rintro⟨h1,h2⟩;exact⟨h1,by simp,λa ha b hb hab=>by rw[J6.1 hb]at hab;subst hab;exact h2 ha⟩
theorem zea{xs:List Int}{i:Nat}(h:xs.Nodup):(xs.take i).Nodup:=h.sublist (List.take_sublist _ _)
theorem zbw(hx:IL h l xs)(hlen:xs.length<=1000000)(H:∀b h',h.le h'->(b=true↔xs.Nodup)->Kb b h'):zc (F.Xn l) Kb h:=by
 refine zd (λb h'=>b=true↔xs.Nodup) (λK' hk=>?_) λb h' hl hb=>H b h' hl hb
 unfold F.Xn;have hl:=hx.len;have hcap:=hx.2;refine yg (n:=xs.length) (by omega) (λi h'=>h.le h'/\(xs.take i).Nodup) ⟨Hp.le_refl _,by simp⟩ ?_;rintro i h1 hi ⟨hl1,hno⟩ k hk2;refine ze (λh2=>?_) (λh2=>?_)
 . have hi':i<xs.length:=by simp only at h2;omega
   refine(hx.le hl1).get i rfl hi' ?_;refine⟨by omega,by simp only;omega,by simp only;omega,?_⟩;refine Qz ((hx.le hl1).cut (n:=i) (by omega)) (by rw[Jl];omega) λh3 hl3=>?_
   refine ze (λh4=>hk _ _ (Hp.le_trans hl1 hl3) ⟨λhh=>(by cases hh),λhh=>?_⟩) (λh4=>hk2 _ hi' ⟨Hp.le_trans hl1 hl3,(zag hi').2 ⟨hno,h4⟩⟩);exact absurd h4 ((zag hi').1 (zea hh)).2
 . have:i=xs.length:=by simp only at h2;omega
   subst this;rw[Jw]at hno;exact hk _ _ hl1 ⟨λ_=>hno,λ_=>rfl⟩
theorem zbd(hx:IL h l xs)(hlen:xs.length<=1000000)(H:∀b h',h.le h'->(b=true↔xs.Nodup)->Kb b h'):zc (F.z0h l) Kb h:=by
 refine zd (λb h'=>b=true↔xs.Nodup) (λK' hk=>?_) λb h' hl hb=>H b h' hl hb
 unfold F.z0h;have hl:=hx.len;refine yg (n:=xs.length) (by omega) (λi h'=>h.le h'/\(xs.take i).Nodup) ⟨Hp.le_refl _,by simp⟩ ?_;rintro i h1 hi ⟨hl1,hno⟩ k hk2;refine ze (λh2=>?_) (λh2=>?_)
 . have hi':i<xs.length:=by simp only at h2;omega
   refine yg (n:=i) (by omega) (λj h'=>h1.le h'/\xs[i]∉xs.take j) ⟨Hp.le_refl _,by simp⟩ ?_;rintro j h3 hj ⟨hl3,hnj⟩ k2 hk3;have hle:=Hp.le_trans hl1 hl3;refine ze (λh4=>?_) (λh4=>?_)
   . have hj':j<i:=by simp only at h4;omega
     refine(hx.le hle).get i rfl hi' ((hx.le hle).get j rfl (by omega) ?_);refine zu (λh5=>hk _ _ hle ⟨λhh=>(by cases hh),λhh=>?_⟩) (λh5=>hk3 _ hj' ⟨hl3,λhm=>?_⟩)
     . refine absurd ?_ ((zag hi').1 (zea hh)).2;rw[h5];exact List.mem_take_iff_getElem.2 ⟨j,by omega,rfl⟩
     . rw[<-Jk (show j<xs.length by omega),Ub,J6]at hm;rcases hm with hm | hm
       . exact hnj hm
       . exact h5 hm
   . have:j=i:=by simp only at h4;omega
     subst this;exact hk2 _ hi' ⟨hle,(zag hi').2 ⟨hno,hnj⟩⟩
 . have:i=xs.length:=by simp only at h2;omega
   subst this;rw[Jw]at hno;exact hk _ _ hl1 ⟨λ_=>hno,λ_=>rfl⟩
theorem zwx(hx:IL h l xs)(hlen:xs.length=4)(H:∀b h',h.le h'->(b=true↔z95 xs)->Kb b h'):zc (F.z1f l) Kb h:=by
 refine zd (λb h'=>b=true↔z95 xs) (λK' hk=>?_) λb h' hl hb=>H b h' hl hb
 unfold F.z1f
 match xs,hlen with
 | [a,b,c,d],_=>
 refine hx.get 0 rfl (by simp) (hx.get 1 rfl (by simp) (hx.get 2 rfl (by simp) (hx.get 3 rfl (by simp) ?_)));simp only[Ua,List.getElem_cons_succ];have fin:∀b',(b'=true↔z95 [a,b,c,d])->K' b' h:=λb' hb=>hk _ _ (Hp.le_refl _) hb
 unfold z95 at fin;refine Z2 (λh1=>Z2 (λh2=>zu (λh3=>zi (λh4=>zu (λh5=>fin _ ?_) (λh5=>fin _ ?_)) (λh4=>fin _ ?_)) (λh3=>zu (λh5=>fin _ ?_) (λh5=>fin _ ?_))) (λh2=>fin _ ?_)) (λh1=>fin _ ?_);all_goals simp_all
theorem Z2n{n:Sl}{ps:List PEx}(hx:LR ec 7 EX h n ps)(hlen:ps.length<=10)(hs:∀v∈ps,sE v)(ht:GT h)(H:∀b h',h.le h'->(b=true↔¬∀v∈ps,vE v=true)->Kb b h'):zc (F.Zo n) Kb h:=by
 refine zd (λb h'=>b=true↔¬∀v∈ps,vE v=true) (λK' hk=>?_) λb h' hl hb=>H b h' hl hb
 unfold F.Zo;refine zd (λr h'=>(0<=r↔∃p∈ps,(!vE p)=true)) (λK2 hk2=>?_) λr h' hl hr=>hk _ _ hl ?_
 . unfold F.yo;refine zz3 (g:=λp=>!vE p) (ps:=ps) (G:=F.V9) hx (by omega) ?_ λr h' hl hr=>hk2 _ _ hl hr
   intro e2 p2 h2 hl2 hx2 hm K3 hK3;refine zd (λb h'=>b=!vE p2) (λK' hk=>?_) λb h' hl hb=>by subst hb;exact hK3 _ hl
   unfold F.V9;refine zry hx2 (hs _ hm) (ht.1.le hl2) (ht.2.1.le hl2) λr h' hl hr=>hk _ _ hl ?_
   cases hv:vE p2 with
   | true=>rw[hr.2 hv];rfl
   | false=>
     have:r≠0:=λhh=>by rw[hr.1 hh]at hv;cases hv
     simp[this]
 . rw[decide_eq_true_iff,ge_iff_le,hr];constructor
   . rintro⟨p,hp,h1⟩ hh;rw[hh p hp]at h1;cases h1
   . intro hh;apply Jy;intro hn;exact hh λp hp=>by
      cases hf:vE p with
      | true=>rfl
      | false=>exact absurd ⟨p,hp,by rw[hf];rfl⟩ hn
theorem zzr{A B:Prop}{sd:Bool}{z:Int}(hA:¬(if sd=true then z=1\/z=-1 else z=0)->A)(hB:(if sd=true then z=1\/z=-1 else z=0)->B) :
 ifP sd (ifP (z != 1) (ifP (z != (-1)) A (ifP (!sd) (ifP (z != 0) A B) B)) (ifP (!sd) (ifP (z != 0) A B) B)) (ifP (!sd) (ifP (z != 0) A B) B):=by
 cases sd with
 | true=>
   simp only[if_true]at hA hB;refine Z4 rfl (Z2 (λh1=>Z2 (λh2=>hA (by omega)) (λh2=>zr rfl (hB (by omega)))) (λh1=>zr rfl (hB (by omega))))
 | false=>
   simp only[J0,if_false]at hA hB;exact zr rfl (Z4 rfl (Z2 (λh1=>hA h1) (λh1=>hB h1)))
theorem zz6{k:Int}{T:Bool×Unit->Hp->Prop}(H:T (decide (z2d k),()) h):ifP (k==5) (T ((k==5),()) h) (ifP (k==6) (T ((k==6),()) h) (ifP (k==7) (T ((k==7),()) h) (T ((k==8),()) h))):=by
 refine zu (λh1=>?_) (λh1=>zu (λh2=>?_) (λh2=>zu (λh3=>?_) (λh3=>?_)))
 . subst h1;exact H
 . subst h2;exact H
 . subst h3;exact H
 . have:(k==8)=decide (z2d k):=by
    by_cases h4:k=8
    . subst h4;rfl
    . rw[decide_eq_false (show ¬z2d k by unfold z2d;omega),beq_eq_false_iff_ne];exact h4
   rw[this];exact H
theorem zrc{n m:Int}(hx:CO h x c)(hs:sC c)(ht:GT h)(H:∀b h',h.le h'->(b=true↔VC c n m)->Kb b h'):zc (F.z1e x n m) Kb h:=by
 refine zd (λb h'=>b=true↔VC c n m) (λK' hk=>?_) λb h' hl hb=>H b h' hl hb
 unfold F.z1e;obtain⟨x1,x2,x3,x4,x5⟩:=hx;obtain⟨s1,s2,s3,s4⟩:=hs;have hvl:=x4.len Vx;have no:∀h',h.le h'->¬VC c n m->K' false h':=λh' hl hn=>hk _ _ hl ⟨λhh=>(by cases hh),λhh=>absurd hh hn⟩
 rw[x1,x5];refine zf6 ht.2.2 (λk1 k2 ln ps=>?_) (λhn=>?_)
 . refine zh (λ_ h1=>h.le h1/\((c.pts.length:Int)=(shK c.kind).1/\∀x∈c.pts,0<=x/\x<n)/\((c.cir.length:Int)=(shK c.kind).2.1/\∀x∈c.cir,0<=x/\x<m)/\c.vals.length=(shK c.kind).2.2.1) ?_ ?_
   . rintro _ h1 ⟨hl1,g1,g2,g3⟩;refine Z2n (x4.le Vx hl1) s3 s4 (ht.le hl1) λb h2 hl2 hb=>?_
     have hle:=Hp.le_trans hl1 hl2;refine zi (λh3=>no _ hle λhv=>hb.1 h3 hv.2.2.2.2.1) (λh3=>?_);have hv:∀v∈c.vals,vE v=true:=Jy λhn=>by rw[hb.2 hn]at h3;cases h3
     refine zh (λ_ h'=>h'=h2/\(if (shK c.kind).2.2.2.2=true then c.side=1\/c.side=-1 else c.side=0)) ?_ (zzr (λhn=>no _ hle λhv=>hn hv.2.2.2.2.2.1) λhy=>⟨rfl,hy⟩);rintro _ h2 ⟨rfl,hsd⟩;have vc:∀{b:Bool},(b=true↔(if z2d c.kind then z95 c.pts else c.pts.Nodup/\c.cir.Nodup))->(b=true↔VC c n m):=λhb=>by
      rw[hb];exact⟨λhh=>⟨⟨k1,k2⟩,⟨by omega,g1.2⟩,⟨by omega,g2.2⟩,g3,hv,hsd,hh⟩,λhh=>hh.2.2.2.2.2.2⟩
     refine zh (λs h'=>h'=h2/\s.1=decide (z2d c.kind)) ?_ (zz6 (T:=λs h'=>h'=h2/\s.1=decide (z2d c.kind)) ⟨rfl,rfl⟩);rintro⟨b,_⟩ h2 ⟨rfl,hbb⟩;simp only at hbb;subst hbb;refine ze (λh4=>?_) (λh4=>?_)
     . rw[if_pos h4]at vc;refine zwx (x2.le hle) ?_ λb h5 hl5 hb=>hk _ _ (Hp.le_trans hle hl5) (vc hb)
       have:(shK c.kind).1=4:=by unfold z2d at h4;rcases h4 with h4 | h4 | h4 | h4<;>rw[h4]<;>rfl
       omega
     . rw[if_neg h4]at vc;refine zbw (x2.le hle) (by omega) λb h5 hl5 hb=>?_
       refine zi (λh6=>?_) (λh6=>hk _ _ (Hp.le_trans hle hl5) (vc ⟨λhh=>(by cases hh),λhh=>by rw[hb.2 hh.1]at h6;cases h6⟩));refine zbw ((x3.le hle).le hl5) (by omega) λb' h7 hl7 hb'=>hk _ _ (Hp.le_trans hle (Hp.le_trans hl5 hl7)) (vc ?_)
       rw[hb'];exact⟨λhh=>⟨hb.1 h6,hh⟩,λhh=>hh.2⟩
   . refine zr rfl ?_;refine zi9 x2 (by omega) λb h1 hl1 hb=>?_
     refine zi (λh2=>no _ hl1 λhv=>?_) (λh2=>?_)
     . have:b=true:=hb.2 ⟨by rw[hv.2.1.1],hv.2.1.2⟩;rw[this]at h2;cases h2
     have hb1:=hb.1 (by simpa using h2);refine zi9 (x3.le hl1) (by omega) λb3 h3 hl3 hb3=>?_
     have hle:=Hp.le_trans hl1 hl3;refine zi (λh4=>no _ hle λhv=>?_) (λh4=>?_)
     . have:b3=true:=hb3.2 ⟨by rw[hv.2.2.1.1],hv.2.2.1.2⟩;rw[this]at h4;cases h4
     have hb4:=hb3.1 (by simpa using h4);refine Z2 (λh5=>no _ hle λhv=>h5 ?_) (λh5=>⟨hle,hb1,hb4,by simp only at h5;omega⟩);have:=hv.2.2.2.1;simp only;omega
 . exact zh (λ_ _=>False) (λ_ _ hh=>hh.elim) (Z4 rfl (no _ (Hp.le_refl _) λhv=>hn hv.1))
theorem zpy{n m:Int}(hx:CO h x c)(hs:sC c)(H:∀b h',h.le h'->(b=true↔VC c n m)->Kb b h'):zc (F.z8v x n m) Kb h:=by
 refine zd (λb h'=>b=true↔VC c n m) (λK' hk=>?_) λb h' hl hb=>H b h' hl hb
 unfold F.z8v;obtain⟨x1,x2,x3,x4,x5⟩:=hx;obtain⟨s1,s2,s3,s4⟩:=hs;have hvl:=x4.len Vx;have no:∀h',h.le h'->¬VC c n m->K' false h':=λh' hl hn=>hk _ _ hl ⟨λhh=>(by cases hh),λhh=>absurd hh hn⟩
 have pl:=x2.len;have cl:=x3.len;rw[x1,x5];refine Zd8 (λk1 k2 nm vs h0 hl0=>?_) (λhn h0 hl0=>?_)
 . refine zh (λ_ h1=>h.le h1/\((c.pts.length:Int)=(shK c.kind).1/\∀x∈c.pts,0<=x/\x<n)/\((c.cir.length:Int)=(shK c.kind).2.1/\∀x∈c.cir,0<=x/\x<m)/\c.vals.length=(shK c.kind).2.2.1) ?_ ?_
   . rintro _ h1 ⟨hl1,g1,g2,g3⟩;refine yg (n:=c.vals.length) (by omega) (λi h'=>h.le h'/\∀j (hj:j<c.vals.length),j<i->vE c.vals[j]=true) ⟨hl1,λj _ hj=>by omega⟩ ?_;rintro i h2 hi ⟨hl2,hno⟩ k hk2;refine ze (λh3=>?_) (λh3=>?_)
     . have hi':i<c.vals.length:=by simp only at h3;omega
       refine(x4.le Vx hl2).get Vx i rfl hi' λa y hxx hc=>?_
       refine⟨_,hc 0 _ rfl,_,hc 1 _ rfl,_,hc 2 _ rfl,_,hc 3 _ rfl,_,hc 4 _ rfl,_,hc 5 _ rfl,_,hc 6 _ rfl,?_⟩;refine zq2 hxx (s4 _ (Jh _)) λr h4 hl4 hr=>?_
       refine Z2 (λh5=>no _ (Hp.le_trans hl2 hl4) λhv=>h5 (hr.2 (hv.2.2.2.2.1 _ (Jh _)))) (λh5=>hk2 _ hi' ⟨Hp.le_trans hl2 hl4,λj hj hji=>?_⟩);rcases Jo j i with h6 | h6
       . exact hno j hj h6
       . have:j=i:=by omega
         subst this;exact hr.1 h5
     . have hi':i=c.vals.length:=by simp only at h3;omega
       have hv:∀v∈c.vals,vE v=true:=λv hv=>by
        obtain⟨j,hj,rfl⟩:=Gh.1 hv;exact hno j hj (by omega)
       refine zh (λ_ h'=>h'=h2/\(if (shK c.kind).2.2.2.2=true then c.side=1\/c.side=-1 else c.side=0)) ?_ (zzr (λhn=>no _ hl2 λhv=>hn hv.2.2.2.2.2.1) λhy=>⟨rfl,hy⟩);rintro _ h2 ⟨rfl,hsd⟩;have vc:∀{b:Bool},(b=true↔(if z2d c.kind then z95 c.pts else c.pts.Nodup/\c.cir.Nodup))->(b=true↔VC c n m):=λhb=>by
        rw[hb];exact⟨λhh=>⟨⟨k1,k2⟩,⟨by omega,g1.2⟩,⟨by omega,g2.2⟩,g3,hv,hsd,hh⟩,λhh=>hh.2.2.2.2.2.2⟩
       refine zh (λs h'=>h'=h2/\s.1=decide (z2d c.kind)) ?_ (zz6 (T:=λs h'=>h'=h2/\s.1=decide (z2d c.kind)) ⟨rfl,rfl⟩);rintro⟨b,_⟩ h2 ⟨rfl,hbb⟩;simp only at hbb;subst hbb;refine ze (λh4=>?_) (λh4=>?_)
       . rw[if_pos h4]at vc;have hlen4:c.pts.length=4:=by
          have:(shK c.kind).1=4:=by unfold z2d at h4;rcases h4 with h4 | h4 | h4 | h4<;>rw[h4]<;>rfl
          omega
         have hp:=x2.le hl2
         match hpp:c.pts,hlen4 with
         | [a,b,cc,d],_=>
         rw[hpp]at hp vc;have g0:=λ{i:Int} {K:Int->Prop} (hi:i=((0:Nat):Int)) (hK:K a)=>hp.get (K:=K) 0 hi (by simp) hK
         have g1:=λ{i:Int} {K:Int->Prop} (hi:i=((1:Nat):Int)) (hK:K b)=>hp.get (K:=K) 1 hi (by simp) hK
         have g2:=λ{i:Int} {K:Int->Prop} (hi:i=((2:Nat):Int)) (hK:K cc)=>hp.get (K:=K) 2 hi (by simp) hK
         have g3:=λ{i:Int} {K:Int->Prop} (hi:i=((3:Nat):Int)) (hK:K d)=>hp.get (K:=K) 3 hi (by simp) hK
         refine zh (λs h'=>h'=h2/\(s.1=true↔(a=cc/\b=d)\/(a=d/\b=cc))) ?_ ?_
         . rintro⟨sm,_⟩ h2 ⟨rfl,hsm⟩;simp only at hsm;have fin:∀b',(b'=true↔z95 [a,b,cc,d])->K' b' h2:=λb' hb=>hk _ _ hl2 (vc hb)
           unfold z95 at fin;refine g0 rfl (g1 rfl (Z2 (λh6=>g2 rfl (g3 rfl (Z2 (λh7=>fin _ ?_) (λh7=>fin _ ?_)))) (λh6=>fin _ ?_)))
           . simp only[Gc,<-Tr,hsm];constructor
             . intro hh;exact⟨h6,h7,λh8=>hh (.inl h8),λh8=>hh (.inr h8)⟩
             . rintro⟨_,_,h8,h9⟩ (h10 | h10)
               . exact h8 h10
               . exact h9 h10
           . exact⟨λhh=>(by cases hh),λhh=>absurd h7 hh.2.1⟩
           . exact⟨λhh=>(by cases hh),λhh=>absurd h6 hh.1⟩
         . refine g0 rfl (g2 rfl (zu (λh6=>g1 rfl (g3 rfl (zu (λh7=>⟨rfl,?_⟩) (λh7=>g0 rfl (g3 rfl (zu (λh8=>g1 rfl (g2 rfl ⟨rfl,?_⟩)) (λh8=>⟨rfl,?_⟩))))))) (λh6=>g0 rfl (g3 rfl (zu (λh8=>g1 rfl (g2 rfl ⟨rfl,?_⟩)) (λh8=>⟨rfl,?_⟩))))));all_goals simp_all
       . rw[if_neg h4]at vc;refine zbd (x2.le hl2) (by omega) λb h5 hl5 hb=>?_
         refine zi (λh6=>?_) (λh6=>hk _ _ (Hp.le_trans hl2 hl5) (vc ⟨λhh=>(by cases hh),λhh=>by rw[hb.2 hh.1]at h6;cases h6⟩));refine zbd ((x3.le hl2).le hl5) (by omega) λb' h7 hl7 hb'=>hk _ _ (Hp.le_trans hl2 (Hp.le_trans hl5 hl7)) (vc ?_)
         rw[hb'];exact⟨λhh=>⟨hb.1 h6,hh⟩,λhh=>hh.2⟩
   . refine zr rfl ?_;refine Z2 (λh1=>no _ hl0 λhv=>h1 ?_) (λh1=>?_)
     . have:=hv.2.1.1;simp only;omega
     refine Z2 (λh2=>no _ hl0 λhv=>h2 ?_) (λh2=>?_)
     . have:=hv.2.2.1.1;simp only;omega
     refine Z2 (λh3=>no _ hl0 λhv=>h3 ?_) (λh3=>?_)
     . have:=hv.2.2.2.1;simp only;omega
     simp only at h1 h2 h3;refine zga (x2.le hl0) (by omega) λb h4 hl4 hb=>?_
     refine zi (λh5=>no _ (Hp.le_trans hl0 hl4) λhv=>?_) (λh5=>?_)
     . rw[hb.2 hv.2.1.2]at h5;cases h5
     refine zga ((x3.le hl0).le hl4) (by omega) λb6 h6 hl6 hb6=>?_
     have hle:=Hp.le_trans hl0 (Hp.le_trans hl4 hl6);refine zi (λh7=>no _ hle λhv=>?_) (λh7=>⟨hle,⟨by omega,hb.1 (by simpa using h5)⟩,⟨by omega,hb6.1 (by simpa using h7)⟩,by omega⟩);rw[hb6.2 hv.2.2.1.2]at h7;cases h7
 . exact zh (λ_ _=>False) (λ_ _ hh=>hh.elim) (Z4 rfl (no _ hl0 λhv=>hn hv.1))
end
end Den
end
