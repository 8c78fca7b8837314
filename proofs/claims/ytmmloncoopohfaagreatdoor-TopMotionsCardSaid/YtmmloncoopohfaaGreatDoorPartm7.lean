/- Part 7 of the tools of the proof. -/
import Derived.Test.YtmmloncoopohfaaGreatDoorPartm6
import Derived.Test.YtmmloncoopohfaaGreatDoorChecked
import Derived.Test.YtmmloncoopohfaaGreatDoorTie
import Derived.LaidMore
import Derived.MakeChecks
import Derived.SevenTiedAt
import Derived.Test.YtmmloncoopohfaaGreatDoorProg
import Derived.Laws.Externs
set_option linter.all false
open Go.IntKind
open Den (zO zD zS zV)
open Den.Hp renaming le_trans→Ja,le_refl→Jf,cD→Uy,cl→Gc,ia→Lc
open List renaming take_succ_eq_append_getElem→Jc,take_of_length_le→Je,length_cons→Ji,length_take→Jk,replicate→Jl,getElem?_eq_getElem→Jp,length_append→Jq,length_eq_zero_iff→Ju,getElem_mem→Jy,getElem_append_left→J2,take_length→J5,append_assoc→J8,mem_append→Ul,length_drop→Uv,mem_singleton→Uz,eq_nil_of_length_eq_zero→U3,take_append_of_le_length→U4,take_append_drop→Ge,reverse_cons→Gj,getElem?_map→Gr,mem_cons_of_mem→Gx,getElem?_eq_none→G3,length_reverse→Tg,append_nil→Tm,length_map→Ph,getElem?_take→Lp
open Nat renaming le_refl→Jd,lt_or_ge→Jx,zero_add→Uo,mul_one→U6,min_eq_left→Gh,mul_le_mul→Gt,add_zero→G0,not_lt_zero→Te,add_assoc→Tk,sub_self→Py
open Den.Re renaming of→Jn,mul_zero→J0,add_zero→Ua,sub_def→Ub,sub_eq_zero→U9,lt_irrefl→Gn,mul_eq_zero→Gv,cq→G4,cC→Ti
open Rat renaming divInt→Jw,num_eq_zero→Td
open Den.Ty renaming leaf→Uw
open Option.some renaming inj→Gg
open Den.Value renaming leaf→Tb
open Go.IntKind renaming signed→T7
open Go.Value renaming int→Pt
open Int renaming tmod_eq_emod_of_nonneg→Lv
open Go Den
variable {D D' h h' h0:Hp}{M:aU}{V:aF}{X Y:ag}{a m pR rows t:Sl}{g:BM}{x y z:Re}{A N S k n pb u:Nat}{v:Rat}{K Ks:zY Sl}{KI:zY aE}{KN:zY ag}{KR:zY aC}{Ki:zY Int}{KU:zY Unit}{Kb:zY Bool}{rs:List aW}{G:Re->Prop}{e p r:List Rat}{cs:List Value}{KE:zY (ag × Int)}
section
namespace Den
open Go Iv Pq
def zzw(a b c d:Re):(a*c+b*-d)*(a*c+b*-d)+(- -b*c+a*d)*(- -b*c+a*d)=(a*a+b*b)*(c*c+d*d):=by
 obtain⟨a,rfl⟩:=a.rep;obtain⟨b,rfl⟩:=b.rep;obtain⟨c,rfl⟩:=c.rep;obtain⟨d,rfl⟩:=d.rep;simp only[Re.aO,Re.aQ,Re.aT];exact Re.id λn=>by simp only[CS.aV,CS.bf,CS.bB];grind
def zrl(a b f:Re):a*f*(a*f)+b*f*(b*f)=(a*a+b*b)*(f*f):=by
 obtain⟨a,rfl⟩:=a.rep;obtain⟨b,rfl⟩:=b.rep;obtain⟨f,rfl⟩:=f.rep;simp only[Re.aO,Re.aQ];exact Re.id λn=>by simp only[CS.aV,CS.bf];grind
def Zl1{n:Re}(h:n≠0):n*n*(n.inv*n.inv)=1:=by rw[Re.pP,Re.bI h,Re.mul_one]
def zzz{x y:Re}(h:¬(x=0/\y=0)):0<x*x+y*y:=by
 have h1:=Re.bG x;have h2:=Re.bG y;have h3:=Ms h;rcases Re.ks 0 (x*x+y*y)with h4 | h4 | h4
 exact h4;exact absurd h4.symm h3
 . exfalso;have h5:0<=x*x+y*y:=by
    rcases h1 with h1 | h1
    rw[<-h1,Re.zero_add];exact h2
    . rcases h2 with h2 | h2
      rw[<-h2,Ua];exact .inr h1
      . have:=Re.add_lt_add h1 h2;rw[Ua]at this;exact .inr this
   rcases h5 with h5 | h5
   rw[<-h5]at h4;exact Gn _ h4;exact Gn _ (Re.lt_trans h5 h4)
section
variable {s:Nat}{W:aF}{w a b c d:Re}{K1:zY aF}{KL:zY ee}{KM:zY aU}
def zf6(hc:Ctx G S N)(hv:VB G S h V x y s)(hn:NB G S h X z u)(hz:z≠0)(aD:2*(s+(2+u*2 ^ (N+1)))+(500*S+60)<=300000000000)(H:∀Z h',h.le h'->VB G S h' Z (x*z.inv) (y*z.inv) (s+(2+u*(2 ^ (N+1)-1)))->K1 Z h'):za (F.F5 V X) K1 h:=by
 refine zb _ (λK' hk=>?_) H;unfold F.F5;have hle:u*(2 ^ (N+1)-1)<=u*2 ^ (N+1):=Nat.mul_le_mul_left _ (Nat.sub_le _ _);refine MT (G:=G) (S:=S) zD zD λZ1 h1 l1 z1=>?_
 refine zrg hc z1 (hn.le l1) hz zO λZ2 h2 l2 z2=>?_
 have e:Jn ((1:Int):Rat)*z.inv=z.inv:=Re.one_mul _;rw[e]at z2;exact zlj hc (hv.le (Ja l1 l2)) z2 zO λZ3 h3 l3 z3=>hk _ _ (Ja l1 (Ja l2 l3)) z3
def ZR(hv:VB G S h V x y s)(aD:s+(200*S+13)<=300000000000)(H:∀Z h',h.le h'->VB G S h' Z x (-y) s->K1 Z h'):za (F.Df V) K1 h:=by
 refine zb _ (λK' hk=>?_) H;unfold F.Df;exact MQ hv.2 aD λZ1 h1 l1 z1=>hk _ _ l1 ⟨hv.1.le l1,z1⟩
def ZS(hc:Ctx G S N)(hv:VB G S h V x y s)(hw:VB G S h W z w u)(aD:4*(s+u)+(500*S+60)<=300000000000)(H:∀Z h',h.le h'->VB G S h' Z (x*z+y*-w) (- -y*z+x*w) (s+u+(s+u)+1)->K1 Z h'):za (F.Di V W) K1 h:=by
 refine zb _ (λK' hk=>?_) H;unfold F.Di;refine ZR hw zO λZ1 h1 l1 z1=>?_
 refine zf9 hc (hv.le l1) z1 aD λZ2 h2 l2 z2=>?_
 have bS:=Ja l1 l2;refine ZR (hv.le bS) zO λZ3 h3 l3 z3=>?_
 have eY:=Ja bS l3;exact zlg hc z3 (hw.le eY) aD λZ4 h4 l4 z4=>hk _ _ (Ja eY l4) ⟨z2.le (Ja l3 l4),z4⟩
def zu5(hc:Ctx G S N)(hv:VB G S h V x y s)(hw:VB G S h W z w u)(aD:2*(s+u)+(500*S+60)<=300000000000)(H:∀Z h',h.le h'->VB G S h' Z (x+z) (y+w) (s+u+1)->K1 Z h'):za (F.QA V W) K1 h:=by
 refine zb _ (λK' hk=>?_) H;unfold F.QA;exact Z6r hc hv hw aD λZ1 h1 l1 z1=>hk _ _ l1 z1
def zmq(hc:Ctx G S N)(hv:VB G S h V x y s)(hw:VB G S h W z w u)(aD:2*(s+u)+(500*S+60)<=300000000000)(H:∀Z h',h.le h'->VB G S h' Z (x+-z) (y+-w) (s+u+1)->K1 Z h'):za (F.KG V W) K1 h:=by
 refine zb _ (λK' hk=>?_) H;unfold F.KG;refine Z6s hw zO λZ1 h1 l1 z1=>?_
 exact zu5 hc (hv.le l1) z1 aD λZ2 h2 l2 z2=>hk _ _ (Ja l1 l2) z2
def zlc(hc:Ctx G S N)(hv:VB G S h V x y s)(aD:8*s+(500*S+60)<=300000000000)(H:∀Z h',h.le h'->NB G S h' Z (x*x+y*y) (s+s+(s+s)+1)->KN Z h'):za (F.QE V) KN h:=by
 refine zb _ (λK' hk=>?_) H;unfold F.QE;exact zj0 hc hv aD λZ1 h1 l1 z1=>hk _ _ l1 z1
def zgu{m n:Int}(h1:-9223372036854775808<=m)(h2:m<=9223372036854775807)(h3:-9223372036854775808<=n)(h4:n<=9223372036854775807)(H:∀Z h',h.le h'->VB G S h' Z (Jn (m:Rat)) (Jn (n:Rat)) 2->K1 Z h'):za (F.Kz m n) K1 h:=by
 refine zb _ (λK' hk=>?_) H;unfold F.Kz;refine Y3 h1 h2 λw1 h5 l5 oY=>?_
 refine Y3 h3 h4 λw2 h6 l6 dE=>?_
 refine zb (λZ h'=>VB G S h' Z (Jn (m:Rat)) (Jn (n:Rat)) 2) (λK2 aG=>?_) λZ h7 l7 hZ=>hk _ _ (Ja l5 (Ja l6 l7)) hZ
 unfold F.zju;refine z79 (G:=G) (S:=S) (oY.le l6) (zul h1 h2) λz1 h8 l8 rH=>?_
 exact z79 (G:=G) (S:=S) (dE.le l8) (zul h3 h4) λz2 h9 l9 fB=>aG _ _ (Ja l8 l9) ⟨rH.le l9,fB⟩
def zla{m:Bool}(H:KM ⟨V.x,V.y,W.x,W.y,m⟩ h):za (F.F2 V W m) KM h:=zw _ (λK' hk=>by unfold F.F2;exact hk) H
def zbv(hv:VB G S h V x y s)(H:∀M h',h.le h'->M.aS=false->MB G S h' M 1 0 x y 2 s->KM M h'):za (F.PR V) KM h:=by
 refine zb (λM h'=>M.aS=false/\MB G S h' M 1 0 x y 2 s) (λK' hk=>?_) λM h' hl hM=>H M h' hl hM.1 hM.2
 unfold F.PR;refine zgu (G:=G) (S:=S) zD zD zD zD λZ1 h1 l1 z1=>?_
 exact zla (hk _ _ l1 ⟨rfl,z1.1,z1.2,hv.1.le l1,hv.2.le l1⟩)
def zr9(H:∀M h',h.le h'->MB G S h' M 1 0 0 0 2 2->KM M h'):za F.KD KM h:=by
 refine zb _ (λK' hk=>?_) H;unfold F.KD;refine zgu (G:=G) (S:=S) zD zD zD zD λZ1 h1 l1 z1=>?_
 exact zbv z1 λM h2 l2 _ hM=>hk _ _ (Ja l1 l2) hM
def MI(G:Re->Prop)(h:Hp)(M:aU)(s u:Nat):Prop:=∃c d x y,c*c+d*d=1/\MB G 300 h M c d x y s u
def MI.mono{s u s' u':Nat}(hm:MI G h M s u)(hs:s<=s')(hu:u<=u'):MI G h M s' u':=by
 obtain⟨c,d,x,y,e,m1,m2,m3,m4⟩:=hm;exact⟨c,d,x,y,e,m1.mono hs,m2.mono hs,m3.mono hu,m4.mono hu⟩
def VB.field{G':Re->Prop}(hv:VB G S h V x y s)(hG:∀x,G x->G' x):VB G' S h V x y s:=⟨hv.1.field hG,hv.2.field hG⟩
def zra(hc:Ctx G 300 4)(hv:VB G 300 h V x y 67)(hw:VB G 300 h W z w 67)(h0:¬(z=0/\w=0))(hg:G (z*z+w*w).sqrt)(H:∀M h',h.le h'->MI G h' M 9500 19500->KM M h'):za (F.z76 V W) KM h:=by
 refine zb _ (λK' hk=>?_) H;unfold F.z76;have hp:=zzz h0;have hs:=Re.bJ (.inr hp);have lX:(z*z+w*w).sqrt≠0:=λhh=>by
  rw[hh,J0]at hs;rw[<-hs]at hp;exact Gn _ hp
 refine zsw hc hw zD zD hg (.inr hp) λZ1 h1 l1 z1=>?_
 refine zf6 hc (hw.le l1) z1 lX zD λZ2 h2 l2 z2=>?_
 have bS:=Ja l1 l2;have z2:=z2.mono (u:=9369) zD;refine ZS hc z2 (hv.le bS) zD λZ3 h3 l3 z3=>?_
 have eY:=Ja bS l3;refine zmq hc (hv.le eY) z3 zD λZ4 h4 l4 z4=>?_
 have gG:=Ja eY l4;refine zla (hk _ _ gG ⟨_,_,_,_,?_,(z2.1.le (Ja l3 l4)).mono zD,(z2.2.le (Ja l3 l4)).mono zD,z4.1.mono zD,z4.2.mono zD⟩);rw[zrl];generalize (z*z+w*w).sqrt=n at hs lX;rw[<-hs,Zl1 lX]
def Z63(hc:Ctx G 300 3)(hv:VB G 300 h V x y 67)(hw:VB G 300 h W z w 67)(h0:¬(x=z/\y=w))(H:∀L a b c h',h.le h'->¬(a=0/\b=0)->NB G 300 h' L.a a 2200->NB G 300 h' L.b b 2200->NB G 300 h' L.c c 4600->KL L h'):za (F.zey V W) KL h:=by
 refine zb (λL h'=>∃a b c,¬(a=0/\b=0)/\NB G 300 h' L.a a 2200/\NB G 300 h' L.b b 2200/\NB G 300 h' L.c c 4600) (λK' hk=>?_) λL h' hl ⟨a,b,c,k1,k2,k3,k4⟩=>H L a b c h' hl k1 k2 k3 k4
 unfold F.zey;refine zmq hc hw hv zD λZ1 h1 l1 z1=>?_
 have z1:=z1.mono (u:=135) zD;refine zh2 z1 zD λZ2 h2 l2 z2=>?_
 have bS:=Ja l1 l2;have cd:¬(-(w+-y)=0/\z+-x=0):=λhh=>h0 ⟨?_,?_⟩
 . refine zj (λst h'=>h2.le h'/\∃t,t≠0/\NB G 300 h' ⟨st.1.1,st.1.2.1⟩ t 135) (λst h3 hj=>?_) ?_
   . obtain⟨l3,t,ht,zt⟩:=hj;have eY:=Ja bS l3;refine zf6 hc (z2.le l3) zt ht zD λZ5 h5 l5 z5=>?_
     have z5:=z5.mono (u:=2200) zD;have fE:=Ja eY l5;refine zf9 hc z5 (hv.le fE) zD λZ6 h6 l6 z6=>hk _ _ (Ja fE l6) ⟨_,_,_,λhh=>cd ⟨?_,?_⟩,z5.1.le l6,z5.2.le l6,z6.mono zD⟩
     exact(Gv hh.1).resolve_right (Re.sf ht);exact(Gv hh.2).resolve_right (Re.sf ht)
   . refine Eo z2.1 (by rw[Yu];decide) λh3 l3=>Zs (λhh=>?_) λhh=>?_
     exact⟨l3,_,λh4=>cd ⟨Qj.1 hh,h4⟩,z2.2.le l3⟩;exact⟨l3,_,λh4=>hh (Qj.2 h4),z2.1.le l3⟩
 . have:=hh.2;rw[<-Ub]at this;exact(U9.1 this).symm
 . have:=Re.neg_eq_zero hh.1;rw[<-Ub]at this;exact(U9.1 this).symm
def zwq{L:ee}(hc:Ctx G 300 3)(ha:NB G 300 h L.a a 2200)(hb:NB G 300 h L.b b 2200)(hcc:NB G 300 h L.c c 4600)(h0:¬(a=0/\b=0))(H:∀M h',h.le h'->MI G h' M 141000 700000->KM M h'):za (F.z9v L) KM h:=by
 refine zb _ (λK' hk=>?_) H;unfold F.z9v;have nv:VB G 300 h ⟨L.a,L.b⟩ a b 2200:=⟨ha,hb⟩;refine zlc hc nv zD λZ1 h1 l1 z1=>?_
 have z1:=z1.mono (k:=8801) zD;refine zf6 hc (nv.le l1) z1 (Ms h0) zD λZ2 h2 l2 z2=>?_
 have z2:=z2.mono (u:=134217) zD;have bS:=Ja l1 l2;refine zlj hc z2 (hcc.le bS) zD λZ3 h3 l3 z3=>?_
 have z3:=z3.mono (u:=138817) zD;have eY:=Ja bS l3;refine zh2 (nv.le eY) zD λZ4 h4 l4 z4=>?_
 have gG:=Ja eY l4;refine ZS hc z4 z4 zD λZ5 h5 l5 z5=>?_
 have z5:=z5.mono (u:=8801) zD;have fE:=Ja gG l5;refine zlc hc (z4.le l5) zD λZ6 h6 l6 z6=>?_
 have z6:=z6.mono (k:=8801) zD;have eO:=Ja fE l6;have ug:-b*-b+a*a≠0:=by
  rw[Re.ct,Re.add_comm];exact Ms h0
 refine zf6 hc (z5.le l6) z6 ug zD λZ7 h7 l7 z7=>?_
 have z7:=z7.mono (u:=140818) zD;have B4:=Ja eO l7;have z3:=z3.le (Ja l4 (Ja l5 (Ja l6 l7)));refine ZR z3 zD λZ8 h8 l8 z8=>?_
 have l18:=Ja B4 l8;refine ZS hc (z7.le l8) z8 zD λZ9 h9 l9 z9=>?_
 have Iu:=Ja l18 l9;refine zmq hc (z3.le (Ja l8 l9)) z9 zD λZ10 aZ mX qK=>?_
 have m:=Ja l8 (Ja l9 mX);refine zla (hk _ _ (Ja Iu mX) ⟨_,_,_,_,?_,(z7.1.le m).mono zD,(z7.2.le m).mono zD,qK.1.mono zD,qK.2.mono zD⟩);rw[zrl,zzw,Zl1 ug]
def zrc{N:Nat}{P:aU}{s u:Nat}(hc:Ctx G 300 N)(hm:MB G 300 h M 1 0 x y 2 67)(hM:M.aS=false)(hp:MI G h P s u)(hs:s<=141000)(hu:u<=700000)(H:∀Q h',h.le h'->MI G h' Q (2*s+5) (2*s+u+200)->KM Q h'):za (F.QC M P) KM h:=by
 refine zb _ (λK' hk=>?_) H;unfold F.QC;obtain⟨c,d,z,w,uF,m1,m2,m3,m4⟩:=hp;have parts:∀{Q:aU} {h':Hp} {K:aF×aF->Hp->Prop},K (⟨Q.c,Q.s⟩,⟨Q.x,Q.y⟩) h'->za (F.QB Q) K h':=λhK=>zw _ (λK3 cw=>by unfold F.QB;exact cw) hK
 refine parts (parts ?_);have vu:VB G 300 h ⟨M.c,M.s⟩ 1 0 2:=⟨hm.1,hm.2.1⟩;have vt:VB G 300 h ⟨M.x,M.y⟩ x y 67:=⟨hm.2.2.1,hm.2.2.2⟩;have pv:VB G 300 h ⟨P.c,P.s⟩ c d s:=⟨m1,m2⟩;have ps:VB G 300 h ⟨P.x,P.y⟩ z w u:=⟨m3,m4⟩;have hS:4*(141000+67)+(500*300+60)<=300000000000:=zD;refine zj (λst h'=>h.le h'/\∃e f:Re,e*e=0/\VB G 300 h' ⟨⟨st.1.1,st.1.2.1⟩,⟨st.1.2.2.1,st.1.2.2.2.1⟩⟩ 1 e 2/\VB G 300 h' ⟨⟨st.2.1.1,st.2.1.2.1⟩,⟨st.2.1.2.2.1,st.2.1.2.2.2.1⟩⟩ x f 67) (λst h1 hj=>?_) ?_
 . obtain⟨l1,e,f,he,kR,LJ⟩:=hj;refine ZS hc (pv.le l1) kR zO λZ5 h4 l4 z5=>?_
   have gG:=Ja l1 l4;refine ZS hc (pv.le gG) (LJ.le l4) zO λZ6 h5 l5 z6=>?_
   have fE:=Ja gG l5;refine zu5 hc z6 (ps.le fE) zO λZ7 h6 l6 z7=>?_
   refine zla (hk _ _ (Ja fE l6) ⟨_,_,_,_,?_,(z5.1.le (Ja l5 l6)).mono zO,(z5.2.le (Ja l5 l6)).mono zO,z7.1.mono zO,z7.2.mono zO⟩);rw[zzw,uF,he,Re.mul_one,Ua,Re.one_mul]
 . refine Zw (λ_=>?_) (λ_=>?_)
   . refine ZR vu zD λZ1 h1 l1 z1=>?_
     refine ZR (vt.le l1) zD λZ2 h2 l2 z2=>⟨Ja l1 l2,_,_,?_,z1.le l2,z2⟩
     rw[Re.ct,J0]
   exact⟨Jf _,0,y,J0 _,vu,vt⟩
end
end Den
end

section
namespace Den
def jz(i k:Nat):Bool:=decide (k/2 ^ i % 2=1)
def wf(i:Nat):Nat->List Rat->List Rat
 | _,[]=>[]
 | k,x :: r=>if jz i k then wf i (k+1) r else x :: wf i (k+1) r
def zf(i:Nat):Nat->List Rat->Prop
 | _,[]=>True
 | k,x :: r=>(jz i k=true->x=0)/\zf i (k+1) r
def zn4(i:Nat):∀(k:Nat) (a b:List Rat),wf i k (a++b)=wf i k a++wf i (k+a.length) b
 | k,[],b=>rfl
 | k,x :: a,b=>by
   have e:k+(x :: a).length=k+1+a.length:=by rw[Ji];omega
   rw[e];show(if jz i k then wf i (k+1) (a++b)else x :: wf i (k+1) (a++b))=(if jz i k then wf i (k+1) a else x :: wf i (k+1) a)++_;rw[zn4 i (k+1) a b];split<;>rfl
def zij(i:Nat):∀(k:Nat) (a b:List Rat),zf i k (a++b)↔zf i k a/\zf i (k+a.length) b
 | k,[],b=>⟨λh=>⟨trivial,h⟩,λh=>h.2⟩
 | k,x :: a,b=>by
   have e:k+(x :: a).length=k+1+a.length:=by rw[Ji];omega
   rw[e];show(_/\zf i (k+1) (a++b))↔(_/\zf i (k+1) a)/\_;rw[zij i (k+1) a b,and_assoc]
def zta{i n:Nat}(h:i<n)(m k:Nat):jz i (2 ^ n*m+k)=jz i k:=by
 obtain⟨d,rfl⟩:∃d,n=i+(d+1):=⟨n-i-1,zO⟩;unfold jz;have e:2 ^ (i+(d+1))*m+k=k+2 ^ i*(2*(2 ^ d*m)):=by
  rw[Nat.pow_add,Nat.pow_succ,Nat.add_comm];congr 1;ac_rfl
 rw[e,Nat.add_mul_div_left _ _ (Nat.two_pow_pos i),Nat.add_mul_mod_self_left]
def Z2b{i n:Nat}(h:i<n)(m:Nat):∀(k:Nat) (a:List Rat),wf i (2 ^ n*m+k) a=wf i k a
 | k,[]=>rfl
 | k,x :: a=>by
   show(if jz i (2 ^ n*m+k)then wf i (2 ^ n*m+k+1) a else x :: wf i (2 ^ n*m+k+1) a)=_;rw[zta h,Tk,Z2b h m (k+1) a];rfl
def Z2f{i n:Nat}(h:i<n)(m:Nat):∀(k:Nat) (a:List Rat),zf i (2 ^ n*m+k) a↔zf i k a
 | k,[]=>Iff.rfl
 | k,x :: a=>by
   show((jz i (2 ^ n*m+k)=true->x=0)/\zf i (2 ^ n*m+k+1) a)↔_;rw[zta h,Tk,Z2f h m (k+1) a];rfl
def Z8e{n k:Nat}(h:k<2 ^ n):jz n k=false:=by
 unfold jz;rw[Nat.div_eq_of_lt h];rfl
def zyo{n k:Nat}(h:k<2 ^ n):jz n (2 ^ n+k)=true:=by
 unfold jz;rw[Nat.add_div_left _ (Nat.two_pow_pos n),Nat.div_eq_of_lt h];rfl
def Zno{n:Nat}:∀(k:Nat) (a:List Rat),k+a.length<=2 ^ n->wf n k a=a
 | k,[],_=>rfl
 | k,x :: a,h=>by
   rw[Ji]at h;show(if jz n k then _ else x :: wf n (k+1) a)=_;rw[Z8e zO,Zno (k+1) a zO];rfl
def Znt{n:Nat}:∀(k:Nat) (a:List Rat),k+a.length<=2 ^ n->zf n k a
 | k,[],_=>trivial
 | k,x :: a,h=>by
   rw[Ji]at h;exact⟨λhh=>absurd ((Z8e (n:=n) (k:=k) zO).symm.trans hh) zD,Znt (k+1) a zO⟩
def Za7{n:Nat}:∀(k:Nat) (a:List Rat),k+a.length<=2 ^ n->wf n (2 ^ n+k) a=[]
 | k,[],_=>rfl
 | k,x :: a,h=>by
   rw[Ji]at h;show(if jz n (2 ^ n+k)then wf n (2 ^ n+k+1) a else _)=_;rw[zyo zO,Tk,Za7 (k+1) a zO];rfl
def Zab{n:Nat}:∀(k:Nat) (a:List Rat),k+a.length<=2 ^ n->(zf n (2 ^ n+k) a↔a=Zt a.length)
 | k,[],_=>⟨λ_=>rfl,λ_=>trivial⟩
 | k,x :: a,h=>by
   rw[Ji]at h;show((jz n (2 ^ n+k)=true->x=0)/\zf n (2 ^ n+k+1) a)↔_;rw[zyo zO,Tk,Zab (k+1) a zO];constructor
   . rintro⟨h1,h2⟩;rw[h1 rfl];show _=0 :: Zt a.length;rw[<-h2]
   . intro h1;have h2:x :: a=0 :: Zt a.length:=h1;rw[List.cons.injEq]at h2;exact⟨λ_=>h2.1,h2.2⟩
def Za8{i:Nat}:∀{n:Nat} {a:List Rat},i<n->a.length=2 ^ n->wf i 0 a=wo n i a
 | 0,_,h,_=>by omega
 | n+1,a,h,ha=>by
   rw[Zm]at ha;have l1:(a.take (2 ^ n)).length=2 ^ n:=by simp only[Jk,ha];omega
   have l2:(a.drop (2 ^ n)).length=2 ^ n:=by simp only[Uv,ha];omega
   conv=>lhs;rw[<-Ge (2 ^ n) a]
   rw[zn4,l1];rcases Jx i n with h1 | h1
   . have h2:=Z2b h1 1 0 (a.drop (2 ^ n));rw[U6,G0]at h2;rw[Uo,h2,Za8 h1 l1,Za8 h1 l2,Zs0 zO]
   . have h2:i=n:=zO;subst h2;have h3:=Za7 (n:=i) 0 (a.drop (2 ^ i)) zO;rw[G0]at h3;rw[Zno 0 _ zO,Uo,h3,Tm,Zrz rfl]
def Zac{i:Nat}:∀{n:Nat} {a:List Rat},i<n->a.length=2 ^ n->(zf i 0 a↔wz n i a)
 | 0,_,h,_=>by omega
 | n+1,a,h,ha=>by
   rw[Zm]at ha;have l1:(a.take (2 ^ n)).length=2 ^ n:=by simp only[Jk,ha];omega
   have l2:(a.drop (2 ^ n)).length=2 ^ n:=by simp only[Uv,ha];omega
   conv=>lhs;rw[<-Ge (2 ^ n) a]
   rw[zij,l1];unfold wz;rcases Jx i n with h1 | h1
   . have h2:=Z2f h1 1 0 (a.drop (2 ^ n));rw[U6,G0]at h2;rw[if_neg zO,Uo,h2,Zac h1 l1,Zac h1 l2]
   . have h2:i=n:=zO;subst h2;have h3:=Zab (n:=i) 0 (a.drop (2 ^ i)) zO;rw[G0,l2]at h3;rw[if_pos rfl,Uo,h3];exact⟨λh=>h.2,λh=>⟨Znt 0 _ zO,h⟩⟩
end Den
end

section
namespace Den
open Go Iv Pq
def Zd8{k i:Nat}(hi:i<=16):(((k:Int).fdiv (2 ^ (min ((i:Int)).toNat i64.bits))):Int).tmod 2=((k/2 ^ i % 2:Nat):Int):=by
 have e:min ((i:Int)).toNat i64.bits=i:=by
  show min i 64=i;omega
 rw[e];have c:(2:Int) ^ i=((2 ^ i:Nat):Int):=by rw[Int.natCast_pow];rfl
 rw[c,Int.fdiv_eq_ediv_of_nonneg _ (Int.natCast_nonneg _)];have e2:((k:Int)/((2 ^ i:Nat):Int))=((k/2 ^ i:Nat):Int):=rfl;rw[e2,Lv (Int.natCast_nonneg _)];rfl
def Zs7{k i:Nat}:((((k/2 ^ i % 2:Nat):Int)==1):Bool)=jz i k:=by
 unfold jz;rcases Nat.mod_two_eq_zero_or_one (k/2 ^ i)with h | h<;>rw[h]<;>rfl
def Zo7{k i:Nat}:((((k/2 ^ i % 2:Nat):Int)==0):Bool)=!(jz i k):=by
 unfold jz;rcases Nat.mod_two_eq_zero_or_one (k/2 ^ i)with h | h<;>rw[h]<;>rfl
section
variable {B:Nat}{b l:Sl}
def zl9{i:Nat}(hi:i<=16)(ha:PL h B a p)(hlen:p.length<=65536)(hB:B<=1000000000000)(H1:¬zf i 0 p->Kb true h)(H0:zf i 0 p->Kb false h):za (F.Ko a (i:Int)) Kb h:=by
 refine zb (λv h'=>h'=h/\((v=true/\¬zf i 0 p)\/(v=false/\zf i 0 p))) (λK' hk=>?_) λv h' _ ⟨e,hv⟩=>by
  subst e;rcases hv with ⟨rfl,hv⟩ | ⟨rfl,hv⟩
  exact H1 hv;exact H0 hv
 unfold F.Ko;rw[ha.len];refine Y8 (n:=p.length) zO (λk h'=>h'=h/\zf i 0 (p.take k)) ⟨rfl,trivial⟩ ?_;rintro k h2 aG ⟨hh,hz⟩ K2 ck;subst hh;refine zg (λh3=>?_) (λh3=>?_)
 . have bP:k<p.length:=by have:(k:Int)<(p.length:Int):=h3;omega
   have ext:zf i 0 (p.take (k+1))↔zf i 0 (p.take k)/\(jz i k=true->p[k]=0):=by
    rw[Jc bP,zij];have e:0+(p.take k).length=k:=by simp;omega
    rw[e];exact⟨λhh=>⟨hh.1,hh.2.1⟩,λhh=>⟨hh.1,hh.2,trivial⟩⟩
   refine zj (λ_ h'=>h'=h2/\zf i 0 (p.take (k+1))) (λ_ h' hj=>ck _ bP hj) ?_;refine⟨zO,zD,?_⟩;have eb:=Zd8 (k:=k) hi;rw[eb,Zs7];refine Zw (λhb=>?_) (λhb=>?_)
   . refine ha.get k rfl bP λu hu bu=>?_
     refine zo1 hu bu hB (oB (λcd=>?_) (λheq=>⟨rfl,ext.2 ⟨hz,λ_=>?_⟩⟩))
     . refine hk _ _ (Jf _) ⟨rfl,.inl ⟨rfl,λZT=>cd ?_⟩⟩;have h6:zf i 0 (p.take (k+1)):=by
        rw[<-Ge (k+1) p,zij]at ZT;exact ZT.1
       rw[(ext.1 h6).2 hb];rfl
     exact Td.1 (Int.sign_eq_zero_iff_zero.1 heq)
   exact⟨rfl,ext.2 ⟨hz,λhh=>absurd (hb.symm.trans hh) zD⟩⟩
 . have:k=p.length:=by have:¬(k:Int)<(p.length:Int):=h3;omega
   subst this;rw[J5]at hz;exact hk _ _ (Jf _) ⟨rfl,.inr ⟨rfl,hz⟩⟩
def Znn(i:Nat):∀(k:Nat) (p:List Rat),(wf i k p).length<=p.length
 | _,[]=>Jd _
 | k,x :: r=>by
   have:=Znn i (k+1) r;unfold wf;split;simp only[Ji];omega;simp only[Ji];omega
def zj1{i:Nat}(hi:i<=16)(ha:PL h B a p)(hlen:p.length<=65536)(H:∀y h',OL h h' B y (wf i 0 p)->K y h'):za (F.FV a (i:Int)) K h:=by
 refine zb (λy h'=>OL h h' B y (wf i 0 p)) (λK' hk=>?_) λy h' _ hy=>H y h' hy
 unfold F.FV;rw[ha.len];refine ur (n:=p.length) zO (λk l h'=>OL h h' B l (wf i 0 (p.take k))) OL.nil ?_;rintro k l h2 aG hI K2 ck;refine zg (λh3=>?_) (λh3=>?_)
 . have bP:k<p.length:=by have:(k:Int)<(p.length:Int):=h3;omega
   have ext:wf i 0 (p.take (k+1))=wf i 0 (p.take k)++if jz i k then []else [p[k]]:=by
    rw[Jc bP,zn4];have e:0+(p.take k).length=k:=by simp;omega
    rw[e];show _++(if jz i k then _ else _)=_;rfl
   refine zj (λst h'=>OL h h' B st.1 (wf i 0 (p.take (k+1)))) (λst h' hj=>ck _ _ bP hj) ?_;refine⟨zO,zD,?_⟩;have eb:=Zd8 (k:=k) hi;rw[eb,Zo7];refine Zw (λhb=>?_) (λhb=>?_)
   . have uP:jz i k=false:=by simpa using hb
     refine ha.cT k hI.hle rfl bP λu hu bu=>?_
     obtain⟨D,hD,od⟩:=hI;have bH:=Znn i 0 (p.take k);rw[Jk]at bH;refine od.app zO (hu.le hD) bu λy h4 o4=>⟨D,hD,?_⟩
     rw[ext,uP];exact o4
   . have uP:jz i k=true:=by simpa using hb
     rw[ext,uP];simpa using hI
 . have:k=p.length:=by have:¬(k:Int)<(p.length:Int):=h3;omega
   subst this;rw[J5]at hI;exact hk _ _ hI.hle hI
end
def PW(D h:Hp)(l:Sl)(ss:List Sl):Prop:=D.le h/\l.len=ss.length/\l.len<=l.cap/\(l.a=none->l.cap=0) /\
 ∀a,l.a=some a->a.off=0/\a.spot=none/\D a.block=none/\∃b,h a.block=some b/\b.fz=(0,0)/\l.cap<=b.cells.length/\b.cells.take ss.length=ss.map bO
section
variable {l:Sl}{ss:List Sl}
def Own.pw(ho:Own D h 1 l (ss.map bO)):PW D h l ss:=by
 obtain⟨h1,h2,h3,h4⟩:=ho;refine⟨h1,by simpa using h2,h3,λhn=>?_,λa ha=>?_⟩;rw[hn]at h4;exact h4
 . rw[ha]at h4;obtain⟨g1,g2,g3,b,g4,g5,g6,g7⟩:=h4;exact⟨g1,g2,g3,b,g4,g5,zO,by simpa using g7⟩
def PW.rd(hp:PW D h l ss):Rd h 1 l (ss.map bO):=by
 obtain⟨h1,h2,h3,h4,h5⟩:=hp;refine⟨by simp[h2],?_⟩;cases ha:l.a with
 | none=>
   have:ss=[]:=Ju.1 (by have:=h4 ha;omega);subst this;rfl
 | some a=>
   obtain⟨g1,g2,g3,b,g4,g5,g6,g7⟩:=h5 a ha;simp only[Zi];rw[z82 g4 g2 (by simp;omega),g1];simp[g7]
def PW.call{α:Type}{G:(α->Hp->Prop)->Hp->Prop}{K1 K:α->Hp->Prop}(hp:PW D h l ss)(H:za G K1 D)(k:∀v D' h',D.le D'->h.le h'->PW D' h' l ss->K1 v D'->K v h'):za G K h:=by
 obtain⟨h1,h2,h3,h4,h5⟩:=hp;refine zp7 h1 H λv D' h' g1 g2 g3 g4 g5=>k v D' h' g1 g3 ⟨g2,h2,h3,h4,λa ha=>?_⟩ g5
 obtain⟨k1,k2,k3,b,k4,k5⟩:=h5 a ha;have:=g4 a.block k3 (by rw[k4];simp);exact⟨k1,k2,this.1,b,by rw[this.2];exact k4,k5⟩
def PW.set{i:Int}{K:Hp->Prop}{z:Sl}(k:Nat)(hp:PW D h l ss)(hi:i=k)(hk:k<ss.length)(H:∀h',PW D h' l (ss.set k z)->K h'):zi l i 1 λa=>bD a [.slice z.a z.len z.cap] K h:=by
 subst hi;obtain⟨h1,h2,h3,h4,h5⟩:=hp;refine⟨zO,zO,?_⟩;cases ha:l.a with
 | none=>have:=h4 ha;omega
 | some a=>
   obtain⟨g1,g2,g3,b,g4,g5,g6,g7⟩:=h5 a ha;have ea:a=⟨a.block,0,none⟩:=by cases a;simp only at g1 g2;rw[g1,g2]
   obtain⟨bo,hbo⟩:∃bo,bo=a.block:=⟨_,rfl⟩;rw[<-hbo]at ea g3 g4;subst ea;show Yv (some _) _;simp only[Yv];have ek:((k:Int)).toNat*1=k:=zS;rw[ek,sX];refine⟨b,?_,rfl,g5,?_,rfl,H _ ⟨?_,by simpa using h2,h3,h4,λa' j'=>?_⟩⟩;exact g4;show 0+k+1<=_;omega
   . intro j c hj;have cd:j≠bo:=λhh=>by rw[hh,g3]at hj;cases hj
     show(h.ins bo _) j=some c;rw[Gc cd];exact h1 j c hj
   . rw[ha]at j';cases j';refine⟨g1,g2,g3,_,Uy _ _ _,g5,?_,?_⟩
     . show _<=(Zn b.cells (0+k) [bO z]).length;rw[qd (by show 0+k+1<=_;omega)];exact g6
     . show(Zn b.cells (0+k) [bO z]).take _=_;have e1:(ss.set k z).map bO=Zn (ss.map bO) k [bO z]:=(Z70 (c:=bO) hk).symm;have e2:(ss.set k z).length=ss.length:=zS;rw[Uo,e1,e2,<-g7];have hle:ss.length<=b.cells.length:=zO;unfold Zn;rw[List.take_append,List.take_append];simp only[Jq,Jk,List.length_singleton];have m1:min k b.cells.length=k:=zO;rw[m1,List.take_take,List.take_take,List.drop_take];have m2:min ss.length k=k:=zO;have m3:min k ss.length=k:=zO;rw[m2,m3];have m4:([bO z]:List Value).take (ss.length-k)=[bO z]:=Je (by show 1<=_;omega);rw[m4]
def PW.del{i:Nat}{K:Sl->Hp->Prop}(hp:PW D h l ss)(hi:i<ss.length)(hlen:ss.length<=1000)(H:∀y h',PW D h' y (ss.eraseIdx i)->K y h') :
 Nm l 0 (i:Int) (i:Int) 1 λFW=>ca l (i64.wrap ((i:Int)+1)) (l.len:Int) 1 λrz=>iO rz.a (rz.len*1) (λv9=>Qg 1 24 [zN] FW rz.len v9 K h) h:=by
 have eh:=hp.rd;obtain⟨h1,h2,h3,h4,h5⟩:=hp;refine⟨zO,zO,zO,zO,?_⟩;have ew:i64.wrap ((i:Int)+1)=((i+1:Nat):Int):=by rw[aM zO];rfl
 rw[ew];refine Xg (i+1) l.len rfl rfl zO h3 ?_;have xV:=eh.HR (i+1) l.len zO (Jd _) h3;have cY:(l.cut (i+1) l.len 1).len=ss.length-(i+1):=by show l.len-(i+1)=_;omega
 have e0:Sl.cut ⟨l.a,l.len,((i:Int)).toNat⟩ ((0:Int)).toNat ((i:Int)).toNat 1=⟨l.a,i,i⟩:=by
  show(⟨if i=0 then l.a else l.a.map (·.add (0*1)),i-0,i-0⟩:Sl)=_;have:(if i=0 then l.a else l.a.map (·.add (0*1)))=l.a:=by
   split;rfl
   . cases l.a with
     | none=>rfl
     | some a=>simp only[Option.map_some,Nat.zero_mul,qo]
  rw[this,Nat.sub_zero]
 rw[e0];have et:(((ss.map bO).drop ((i+1)*1)).take ((l.len-(i+1))*1))=(ss.drop (i+1)).map bO:=by
  rw[U6,U6,<-List.map_drop,Je (by simp;omega)]
 rw[et]at xV;have er:ss.eraseIdx i=ss.take i++ss.drop (i+1):=List.eraseIdx_eq_take_drop_succ ..;obtain⟨a,ha⟩:∃a,l.a=some a:=by
  cases ha:l.a with
  | none=>have:=h4 ha;omega
  | some a=>exact⟨a,rfl⟩
 obtain⟨g1,g2,g3,b,g4,g5,g6,g7⟩:=h5 a ha;have ea:a=⟨a.block,0,none⟩:=by cases a;simp only at g1 g2;rw[g1,g2]
 obtain⟨bo,hbo⟩:∃bo,bo=a.block:=⟨_,rfl⟩;rw[<-hbo]at ea g3 g4;subst ea;refine⟨(ss.drop (i+1)).map bO,?_,?_⟩
 . have:=xV.2;rw[<-xV.1]at this;exact this
 . refine⟨by show(i+_)*24<=_;rw[cY];omega,by show i+_<=_;rw[cY];omega,λdQ=>?_,λvR=>?_⟩
   . have da:i+1=ss.length:=by
      have:i+(l.cut (i+1) l.len 1).len<=i:=dQ;rw[cY]at this;omega
     have e3:ss.drop (i+1)=[]:=List.drop_of_length_le zO;rw[e3];have e4:(l.cut (i+1) l.len 1).len=0:=by rw[cY];omega
     rw[e4];show pS l.a (i*1) [] (K ⟨l.a,i+0,i⟩) h;rw[ha];simp only[pS];rw[sX];refine⟨b,g4,rfl,g5,?_,rfl,?_⟩;show 0+i*1+0<=_;omega
     . have ZU:h.ins bo { b with cells:=Zn b.cells (0+i*1) [] }=h:=by
        funext j;unfold Hp.ins;split
        . rename_i hj;rw[hj,g4];congr 1;have:Zn b.cells (0+i*1) []=b.cells:=by
           unfold Zn;simp
          rw[this]
        rfl
       have ZV:K ⟨some ⟨bo,0,none⟩,i+0,i⟩ h:=by
        refine H _ _ ⟨h1,?_,Jd _,(λhn=>by cases hn),λa' j'=>?_⟩
        . show i+0=_;rw[er,e3,Tm,Jk];omega
        . have:(⟨bo,0,none⟩:Addr)=a':=Gg j';subst this;refine⟨rfl,rfl,g3,b,g4,g5,by show i<=_;omega,?_⟩;rw[er,e3,Tm,Jk,Gh zO,List.map_take,<-g7,List.take_take,Gh zO]
       rw[ZU];exact ZV
   . refine⟨(ss.take i).map bO,?_,λbk e c hc fJ=>?_⟩
     . have h6:=eh.2;rw[ha]at h6;show Zi h l.a (i*1)=_;rw[ha];simp only[Zi]at h6 |-
       rw[z82 g4 g2 zO,g1];rw[U6,List.drop_zero,List.map_take,<-g7,List.take_take,Gh zO]
     . have hDk:D bk=none:=by
        cases hd:D bk with
        | none=>rfl
        | some x=>rw[h1 bk x hd]at fJ;cases fJ
       have IA:i+(ss.length-(i+1))<=c:=by rw[<-cY];exact hc
       refine H _ _ ⟨Ja h1 (Hp.cH fJ),?_,hc,(λhn=>by cases hn),λa' j'=>?_⟩
       . show i+_=_;rw[cY,er,Jq,Jk,Uv];omega
       . have:(⟨bk,0,none⟩:Addr)=a':=Gg j';subst this;refine⟨rfl,rfl,hDk,_,Uy _ _ _,rfl,?_,?_⟩
         . show c<=_;simp only[Jq,Ph,Jk,Uv];rw[C4,cY];simp only[List.length_singleton];omega
         . show((ss.take i).map bO++(ss.drop (i+1)).map bO++_).take _=_;rw[er,<-List.map_append,U4 zS];exact Je zS
end
end Den
end

section
namespace Den
open Go Iv Pq
def Zns{i:Nat}:∀{T:zV},i<T.length->(∀j (hj:j<T.reverse.length),i<j->wz j i T.reverse[j])->vn i T
 | [],h,_=>by simp at h
 | r :: T,h,hh=>by
   unfold vn;split;trivial
   . rename_i cd;have hi:i<T.length:=by simp at h;omega
     refine⟨?_,Zns hi λj hj nA=>?_⟩
     . have:=hh T.length zS hi;simpa using this
     . have h1:=hh j (by simp at hj |-;omega) nA;have e:(r :: T).reverse[j]'(by simp at hj |-;omega)=T.reverse[j]:=by
        simp only[Gj];rw[J2 hj]
       rwa [e]at h1
def Cr(i j:Nat)(r:List Rat):List Rat:=if i<j then wo j i r else r
def Znk{i:Nat}:∀{T:zV},i<T.length->(wT i T).reverse=(T.reverse.mapIdx (Cr i)).eraseIdx i
 | [],h=>by simp at h
 | r :: T,h=>by
   rw[Gj,List.mapIdx_append];have lm:(T.reverse.mapIdx (Cr i)).length=T.length:=zS;by_cases he:T.length=i
   . rw[Zrx he,List.eraseIdx_append_of_length_le (by rw[lm];omega),lm,he];have e1:T.reverse.mapIdx (Cr i)=T.reverse:=by
      refine List.ext_getElem zS λj h1 h2=>?_
      rw[List.getElem_mapIdx];unfold Cr;rw[if_neg (by simp at h2;omega)]
     rw[e1,Py];simp
   . have hi:i<T.length:=by simp at h;omega
     rw[Zry he,Gj,Znk hi,List.eraseIdx_append_of_lt_length (by rw[lm];exact hi)];congr 1;simp only[List.mapIdx_cons,List.mapIdx_nil,Tg,Uo];unfold Cr;rw[if_pos hi]
def ND(G:Re->Prop)(h:Hp)(X:ag)(z:Re):Prop:=∃T p,lh h 2 X.ae T.reverse/\X.ae.len<=X.ae.cap/\RT T/\TF G T/\T.length<=4/\PL h 2 X.af p/\p.length=2 ^ T.length/\tv T p=z
section
variable {l:Sl}{q:List Rat}{T:zV}
def ND.le(hx:ND G h X z)(hl:h.le h'):ND G h' X z:=by
 obtain⟨T,p,h1,h2,h3,h4,h5,h6,h7,h8⟩:=hx;exact⟨T,p,h1.le hl,h2,h3,h4,h5,h6.le hl,h7,h8⟩
def ND.field{G':Re->Prop}(hx:ND G h X z)(hG:∀x,G x->G' x):ND G' h X z:=by
 obtain⟨T,p,h1,h2,h3,h4,h5,h6,h7,h8⟩:=hx;exact⟨T,p,h1,h2,h3,h4.mono hG,h5,h6,h7,h8⟩
def Zpo:∀{T:zV},(∀r∈T,∀q∈r,BR 2 q)->TC 2 T
 | [],_=>trivial
 | r :: T,h=>⟨Zpo λr' hr=>h r' (Gx _ hr),λq hq=>(h r (List.mem_cons_self ..) q hq).sz⟩
def ND.nb(hF:eV G 3)(hx:ND G h X z):NB G 300 h X z 67:=by
 obtain⟨T,p,h1,h2,h3,h4,h5,h6,h7,rfl⟩:=hx;have hn:T.length<=3:=TF.i9 hF h3 h4;have htc:TC 2 T:=Zpo λr hr q hq=>by
  obtain⟨ss,k1,k2,k3⟩:=h1;have vd:r∈T.reverse:=List.mem_reverse.2 hr;obtain⟨j,hj,rfl⟩:=List.mem_iff_getElem.1 vd;exact(k3 j zO hj).bound q hq
 have hts:=(Z25 (m:=2) h3 htc hn).mono (show eS 2 2<=300 by decide);have dO:=(YM h3 htc h7 λq hq=>(h6.bound q hq).sz).mono (show eS 2 T.length<=67 from Nat.le_trans (zv7 hn) zD);exact⟨2,T,⟨⟨h1,h2⟩,h3,hts,h5,zD⟩,h4,pG h3 hts h5 h6 h7 dO⟩
def ZW(D h:Hp)(l:Sl)(L:zV):Prop:=∃ss,PW D h l ss/\ss.length=L.length/\∀k (h1:k<ss.length) (h2:k<L.length),PL D 2 ss[k] L[k]
def Z0m(hx:ND G h X z)(H:∀Z h',h.le h'->ND G h' Z z->KN Z h'):za (F.zev X) KN h:=by
 refine zb _ (λK' hk=>?_) H;unfold F.zev;obtain⟨T0,p0,⟨ss0,g1,g2,g3⟩,ie,jS,hf0,lX,nz,lp0,vp0⟩:=hx;have abS:X.ae.len=ss0.length:=by have:=g1.1;simp at this;omega
 have l0:ss0.length=T0.length:=by rw[g2,Tg]
 refine Qv (n:=0) (size:=1) rfl λbb h1 _ ho=>?_
 refine⟨ss0.map bO,?_,?_⟩
 . have:=(g1.le ho.1).2;rw[<-g1.1]at this;exact this
 refine pW ho (n:=X.ae.len) g1.1.symm rfl (by rw[List.all_map,List.all_eq_true];intro x _;rfl) (by show(0+_)*24<=_;omega) (by show 0+_<=_;omega) λw3 h2 eX Hi=>?_
 rw[List.nil_append]at eX;have Hi:w3.len=T0.length:=by rw[Hi];show 0+_=_;omega
 refine Za (λst h'=>∃D T p,h.le D/\ZW D h' st.1.1 T.reverse/\RT T/\TF G T/\T.length<=4/\PL D 2 st.1.2.1 p/\p.length=2 ^ T.length/\tv T p=z/\-1<=st.2.1/\st.2.1<(T.length:Int)) (λst=>(st.2.1+1).toNat)
  ⟨h,T0,p0,Jf _,⟨ss0,eX.pw,g2,g3⟩,jS,hf0,lX,nz,lp0,vp0,?_,?_⟩ ?_
 . show -1<=i64.wrap ((w3.len:Int)-1);rw[aM zO];omega
 . show i64.wrap ((w3.len:Int)-1)<_;rw[aM zO];omega
 rintro⟨⟨gC,af,u1⟩,i0,u2⟩ h3 ⟨D,T,p,hD,⟨ss,pw,ls,hss⟩,hT,hf,hn,hp,lp,vp,nB,da⟩;have pw:PW D h3 gC ss:=pw;have hp:PL D 2 af p:=hp;have nB:-1<=i0:=nB;have da:i0<(T.length:Int):=da;rw[Tg]at ls;have dG:gC.len=T.length:=by rw[pw.2.1,ls]
 refine zg (λh4=>?_) (λh4=>?_)
 . have h4:i0>=0:=h4;obtain⟨i,rfl⟩:∃i:Nat,i0=(i:Int):=⟨i0.toNat,zO⟩;have hi:i<T.length:=zO;have hl16:=ja hn;have oY:i64.wrap ((i:Int)-1)=(i:Int)-1:=aM zO;have dE:i64.wrap ((i:Int)+1)=((i+1:Nat):Int):=by rw[aM zO];rfl
   have Ep:∀j (hj:j<T.reverse.length),T.reverse[j].length=2 ^ j/\T.reverse[j].length<=65536:=λj hj=>⟨hT.lens j hj,hT.short hn _ (Jy hj)⟩
   refine zj (λst h'=>∃D' T' p',h.le D'/\ZW D' h' st.1.1 T'.reverse/\RT T'/\TF G T'/\T'.length<=4/\PL D' 2 st.1.2.1 p'/\p'.length=2 ^ T'.length/\tv T' p'=z/\(i:Int)-1<(T'.length:Int)) (λst h5 hj=>?_) ?_
   . obtain⟨D',T',p',k1,k2,k3,k4,k5,k6,k7,k8,k9⟩:=hj;refine⟨⟨D',T',p',k1,k2,k3,k4,k5,k6,k7,k8,?_,?_⟩,?_⟩
     . show -1<=i64.wrap ((i:Int)-1);rw[oY];omega
     . show i64.wrap ((i:Int)-1)<_;rw[oY];exact k9
     . show(i64.wrap ((i:Int)-1)+1).toNat<((i:Int)+1).toNat;rw[oY];omega
   . have key:∀(nd:Bool),(nd=false->wz T.length i p)->∀h5,h5=h3->zx (S:=Bool×Int×Unit) (λs9 k10 h6=>
      (ak (decide (s9.2.1<(gC.len:Int)))
      (zy (S:=Bool×Unit) (λeu h7=>(k10 (eu.1,(i64.wrap (s9.2.1+1)),()) h7))
      (λk12=>(ak s9.1 (k12 (true,()) h6) (zi gC s9.2.1 1 λdV=>(aB (.sl) dV (λkW=>(za (F.Ko kW (i:Int)) (λcA h8=>(k12 (cA,()) h8)) h6)) h6)))))
      (ak s9.1
      ((λst h'=>∃D' T' p',h.le D'/\ZW D' h' st.1.1 T'.reverse/\RT T'/\TF G T'/\T'.length<=4/\PL D' 2 st.1.2.1 p'/\p'.length=2 ^ T'.length/\tv T' p'=z/\(i:Int)-1<(T'.length:Int)) (((gC,af,()),()):(Sl×Sl×Unit)×Unit) h6)
      (za (F.FV af (i:Int)) (λej h9=>
      (zx (S:=Int×Unit) (λsG k18 aZ=>
      (ak (decide (sG.1<(gC.len:Int)))
      (zi gC sG.1 1 λmL=>(aB (.sl) mL (λoF=>(za (F.FV oF (i:Int)) (λdS bV=>
      (zi gC sG.1 1 λFK=>(bD FK [.slice dS.a dS.len dS.cap] (λcu=>(k18 ((i64.wrap (sG.1+1)),()) cu)) bV))) aZ)) aZ))
      (Nm gC 0 (i:Int) (i:Int) 1 λFW=>(ca gC (i64.wrap ((i:Int)+1)) (gC.len:Int) 1 λrz=>(iO rz.a (rz.len*1) (λv9=>
      (Qg 1 24 [zN] FW rz.len v9 (λA7 cO=>
      ((λst h'=>∃D' T' p',h.le D'/\ZW D' h' st.1.1 T'.reverse/\RT T'/\TF G T'/\T'.length<=4/\PL D' 2 st.1.2.1 p'/\p'.length=2 ^ T'.length/\tv T' p'=z/\(i:Int)-1<(T'.length:Int)) (((A7,ej,()),()):(Sl×Sl×Unit)×Unit) cO)) aZ)) aZ)))))
      ((i64.wrap ((i:Int)+1)),()) h9)) h6)))) (nd,(i64.wrap ((i:Int)+1)),()) h5:=by
      intro nd hnd h5 e5;subst e5;rw[dE];refine Za (λst h'=>h'=h5/\∃k:Nat,st.2.1=(k:Int)/\i+1<=k/\k<=T.length/\(st.1=false->wz T.length i p/\∀j (hj:j<T.reverse.length),i<j->j<k->wz j i T.reverse[j])) (λst=>(T.length-st.2.1).toNat)
       ⟨rfl,i+1,rfl,Jd _,hi,λe=>⟨hnd e,λj hj j1 j2=>by omega⟩⟩ ?_
      rintro⟨nd,k0,u3⟩ h6 ⟨e6,k,cy,aG,cw,jP⟩;subst e6;have cy:k0=(k:Int):=cy;subst cy;have jP:nd=false->wz T.length i p/\∀j (hj:j<T.reverse.length),i<j->j<k->wz j i T.reverse[j]:=jP;have ZX:i64.wrap ((k:Int)+1)=((k+1:Nat):Int):=by rw[aM zO];rfl
      refine zg (λh7=>?_) (λh7=>?_)
      . have bP:k<T.length:=by have:(k:Int)<(gC.len:Int):=h7;omega
        have vN:k<T.reverse.length:=by simpa using bP
        refine zj (λst h'=>h'=h6/\(st.1=false->wz T.length i p/\∀j (hj:j<T.reverse.length),i<j->j<k+1->wz j i T.reverse[j])) (λst h8 hj=>⟨⟨hj.1,k+1,ZX,zO,bP,hj.2⟩,?_⟩) ?_
        . show(T.length-i64.wrap ((k:Int)+1)).toNat<((T.length:Int)-(k:Int)).toNat;rw[ZX];omega
        . refine Zw (λhb=>⟨rfl,λhh=>absurd hh zD⟩) (λhb=>?_);refine rn k pw.rd rfl (v:=bO (ss[k]'zO)) (by rw[Gr,Jp zO];rfl) λad bp=>⟨ss[k]'zO,bp,?_⟩
          have jL:=(hss k zO vN).le pw.1;obtain⟨IB,IC⟩:=Ep k vN;refine zl9 zO jL IC zD (λ_=>⟨rfl,λhh=>absurd hh zD⟩) λhz=>⟨rfl,λ_=>?_⟩
          obtain⟨m1,m2⟩:=jP hb;refine⟨m1,λj hj j1 j2=>?_⟩;rcases Jx j k with j3 | j3
          exact m2 j hj j1 j3
          . have:j=k:=zO;subst this;exact(Zac zO IB).1 hz
      . have hkT:k=T.length:=by have:¬(k:Int)<(gC.len:Int):=h7;omega
        subst hkT;refine Zw (λhb=>⟨D,T,p,hD,⟨ss,pw,by simpa using ls,hss⟩,hT,hf,hn,hp,lp,vp,zO⟩) (λhb=>?_);obtain⟨m1,m2⟩:=jP hb;have hz:vn i T:=Zns hi λj hj nA=>m2 j hj nA (by simpa using hj)
        refine pw.call (K1:=λy D'=>PL D' 2 y (wo T.length i p)) (zj1 zO hp (by rw[lp];omega) λy h' o=>by rw[Za8 hi lp]at o;exact o.pl) λej D1 h9 d1 _ pw1 gi=>?_
        refine Za (λst h'=>∃k:Nat,st.1=(k:Int)/\i+1<=k/\k<=T.length/\∃D2 Er,D1.le D2/\PW D2 h' gC Er/\Er.length=T.length/\∀j (h1:j<Er.length) (h2:j<T.reverse.length),PL D2 2 Er[j] (if i<j/\j<k then wo j i T.reverse[j]else T.reverse[j])) (λst=>(T.length-st.1).toNat)
         ⟨i+1,rfl,Jd _,hi,D1,ss,Jf _,pw1,ls,λj j1 j2=>by rw[if_neg zO];exact(hss j j1 j2).le d1⟩ ?_
        rintro⟨k0,u4⟩ aZ ⟨k,cy,aG,cw,D2,Er,d2,pw2,ls2,Cs⟩;have cy:k0=(k:Int):=cy;subst cy;have ZX:i64.wrap ((k:Int)+1)=((k+1:Nat):Int):=by rw[aM zO];rfl
        refine zg (λh7=>?_) (λh7=>?_)
        . have bP:k<T.length:=by have:(k:Int)<(gC.len:Int):=h7;omega
          have vN:k<T.reverse.length:=by simpa using bP
          refine rn k pw2.rd rfl (v:=bO (Er[k]'zO)) (by rw[Gr,Jp zO];rfl) λad bp=>⟨Er[k]'zO,bp,?_⟩
          have jL:=Cs k zO vN;rw[if_neg zO]at jL;obtain⟨IB,IC⟩:=Ep k vN;refine pw2.call (K1:=λy D'=>PL D' 2 y (wo k i T.reverse[k])) (zj1 zO jL IC λy h' o=>by rw[Za8 zO IB]at o;exact o.pl) λdS D3 bV d3 _ pw3 me=>?_
          refine pw3.set (z:=dS) k rfl zO λcu pw4=>⟨⟨k+1,ZX,zO,bP,D3,_,Ja d2 d3,pw4,by simpa using ls2,λj j1 j2=>?_⟩,?_⟩
          . rw[List.getElem_set];by_cases hjk:k=j
            . subst hjk;rw[if_pos rfl,if_pos zO];exact me
            . rw[if_neg hjk];have:=(Cs j (by simpa using j1) j2).le d3;by_cases hc:i<j/\j<k
              . rw[if_pos hc]at this;rw[if_pos zO];exact this
              . rw[if_neg hc]at this;rw[if_neg zO];exact this
          . show(T.length-i64.wrap ((k:Int)+1)).toNat<((T.length:Int)-(k:Int)).toNat;rw[ZX];omega
        . have hkT:k=T.length:=by have:¬(k:Int)<(gC.len:Int):=h7;omega
          subst hkT;have hd:=pw2.del (i:=i) zO zO (K:=λA7 cO=>((λst h'=>∃D' T' p',h.le D'/\ZW D' h' st.1.1 T'.reverse/\RT T'/\TF G T'/\T'.length<=4/\PL D' 2 st.1.2.1 p'/\p'.length=2 ^ T'.length/\tv T' p'=z/\(i:Int)-1<(T'.length:Int)) (((A7,ej,()),()):(Sl×Sl×Unit)×Unit) cO)) λy cO pw5=>?_
          rw[dE]at hd;exact hd
          . have lw:=zy3 (i:=i) (T:=T) hi;have l2:(Er.eraseIdx i).length=(wT i T).reverse.length:=by
             rw[List.length_eraseIdx,if_pos zO,Tg];omega
            refine⟨D2,wT i T,wo T.length i p,Ja hD (Ja d1 d2),⟨_,pw5,l2,λj j1 j2=>?_⟩,Zpn hi hT hz,Zpp hi hT hz hf,zO,gi.le d2,?_,?_,zO⟩
            . have e:=Znk hi;have lM:(T.reverse.mapIdx (Cr i)).length=T.length:=zS;have e2:(wT i T).reverse[j]=((T.reverse.mapIdx (Cr i)).eraseIdx i)[j]'(by rw[<-e];exact j2):=by simp only[e]
              rw[e2,List.getElem_eraseIdx,List.getElem_eraseIdx];rw[l2,Tg]at j1;split
              . rename_i fy;have:=Cs j zO (by simp;omega);rw[List.getElem_mapIdx];unfold Cr;rw[if_neg zO]at this |-
                exact this
              . rename_i fy;have:=Cs (j+1) zO (by simp;omega);rw[List.getElem_mapIdx];unfold Cr;rw[if_pos zO]at this |-
                exact this
            . rw[YN hi lp];congr 1;omega
            rw[Ih hi hT hz lp m1];exact vp
     refine zl9 zO (hp.le pw.1) (by rw[lp];omega) zD (λZT=>key true (λhh=>absurd hh zD) _ rfl) λZT=>key false (λ_=>(Zac hi lp).1 ZT) _ rfl
 refine hk _ _ (Ja hD pw.1) ⟨T,p,⟨ss,pw.rd,by simpa using ls,λj j1 j2=>(hss j j1 j2).le pw.1⟩,pw.2.2.1,hT,hf,hn,hp.le pw.1,lp,vp⟩
end
end Den
end

section
namespace Den
open Go Iv Pq
def Z0j:∀(fuel:Nat) {T:zV} {h:Hp} {B S s:Nat} {t a:Sl} {K':Sl×Int->Hp->Prop},T.length<fuel->TW h B S t T->EV h S T 0 s a->(∀h',h.le h'->K' (zd,6) h')->F.Vg fuel t a K' h
 | 0,_,_,_,_,_,_,_,_,h0,_,_,_=>absurd h0 (Te _)
 | fuel+1,T,h,B,S,s,t,a,K',hf,ht,ha,hk=>by
   unfold F.Vg;have hts:=ht.len;refine Zs (λh0=>?_) (λh0=>?_)
   . have jS:T=[]:=Ju.1 zO;subst jS;obtain⟨p,hp,lp,e,sp⟩:=ha;obtain⟨c,rfl⟩:∃c,p=[c]:=List.length_eq_one_iff.1 lp;have mD:c=0:=Re.dh (e.trans Re.cC.symm);refine hp.getM 0 rfl zS λu hu=>Zs (λ_=>hk h (Jf _)) λhh=>?_
     have h5:¬0<u.num.ah.len:=λh6=>(zwc hu).1 h6 (by simpa using mD)
     omega
   . cases T with
     | nil=>exact absurd (by rw[hts];rfl) h0
     | cons r T=>
     have dk:T.length<fuel:=by simp at hf;omega
     obtain⟨u,v,ku,kv,hx,ec,ed,kD,lo,hi⟩:=ha.split ht.red ht.small ht.high;obtain⟨tM,gU⟩:=KT.pF ht.red ku kv hx.symm;rw[kD];refine⟨zD,ht.kz λtw=>hi _ ?_⟩;refine MJ tw ed (λ_=>zk rfl (lo _ ?_)) (λcd=>absurd gU cd);rw[tM]at ec;refine zb (λz h'=>z=(zd,6)) (λK2 aG=>Z0j fuel dk tw ec λh' hl=>aG _ _ hl rfl) λz h1 l1 e=>?_
     subst e;exact zk rfl (hk _ l1)
section
variable {B s:Nat}{b l:Sl}{T ss:zV}
def Z0k(hy:NB G S h Y 0 u)(H:∀h',h.le h'->KE (⟨zd,zd⟩,6) h'):za (F.F1 X Y) KE h:=by
 refine zb (λz h'=>z=(⟨zd,zd⟩,6)) (λK' hk=>?_) λz h' hl e=>by rw[e];exact H h' hl
 unfold F.F1;obtain⟨B,T,h1,h2,h3⟩:=hy;refine zb (λz h'=>z=(zd,6)) (λK2 aG=>⟨T.length+1,Z0j _ (Nat.lt_succ_self _) h1 h3 λh' hl=>aG _ _ hl rfl⟩) λz h1 l1 e=>?_
 subst e;exact zk rfl (hk _ _ l1 rfl)
def Zkv{u:aC}{v:Rat}(hu:NR h u v)(h1:u.num.ah.len<=k)(h2:u.den.ah.len<=k):BR k v:=by
 have e1:=hu.1.len;have e2:=hu.2.len;exact⟨yj.1 zO,yj.1 zO⟩
def zhr{u:aC}{v:Rat}(hu:NR h u v)(hb:BR k v):u.num.ah.len<=k/\u.den.ah.len<=k:=by
 have e1:=hu.1.len;have e2:=hu.2.len;have d1:=yj.2 hb.1;have d2:=yj.2 hb.2;omega
def PL.getD{i:Int}{K:Sl->Prop}(k:Nat)(hp:PL h B l p)(hi:i=k)(hk:k<p.length)(H:∀x:aC,NR h x p[k]->BR B p[k]->K x.den.ah):zi l i 4 λa=>aB .sl ((a.add 2).add 1) (λx=>K x) h:=by
 have:=hp.get (K:=λ_ _ _ x3=>K x3) k hi hk λx hx bx=>H x hx bx
 obtain⟨h1,h2,h3⟩:=this;refine⟨h1,h2,?_⟩;cases ha:l.a with
 | none=>rw[ha]at h3;exact h3
 | some a=>
   rw[ha]at h3;obtain⟨_,_,x1,_,_,_,x3,h4,h5⟩:=h3;refine⟨x3,?_,h5⟩;rw[Vw (a.add _) 2 1];exact h4
def PL.xW{i:Int}{K:Sl->Prop}(k:Nat)(hp:PL h B l p)(hi:i=k)(hk:k<p.length)(H:∀x:aC,NR h x p[k]->BR B p[k]->K x.num.ah):zi l i 4 λa=>aB .sl ((a.add 0).add 1) (λx=>K x) h:=
 hp.getM k hi hk λx hx=>H x hx (hp.bound _ (Jy hk))
def zyg{P:Rat->Prop}{p:List Rat}{i:Nat}(hi:i<p.length)(h1:∀v∈p.take i,P v)(h2:P p[i]):∀v∈p.take (i+1),P v:=λv hv=>by
 rw[Jc hi,Ul,Uz]at hv;rcases hv with hv | rfl
 exact h1 v hv;exact h2
def Z6b(hx:NB G S h X x s)(H1:Kb true h)(H0:ND G h X x->Kb false h):za (F.zew X) Kb h:=by
 refine zb (λb h'=>h'=h/\(b=true\/(b=false/\ND G h X x))) (λK' hk=>?_) λb h' _ ⟨e,hb⟩=>by
  subst e;rcases hb with rfl | ⟨rfl,hb⟩
  exact H1;exact H0 hb
 unfold F.zew;obtain⟨B,T,ht,hf,p,hp,lp,vp,sp⟩:=hx;have hn:=ht.high;have eO:=ja hn;have lW:∀h',h'=h->K' true h':=λh' e=>by subst e;exact hk _ _ (Jf _) ⟨rfl,.inl rfl⟩
 rw[hp.len];refine Y8 (n:=p.length) zO (λi h'=>h'=h/\∀v∈p.take i,BR 2 v) ⟨rfl,λv hv=>by simp at hv⟩ ?_;rintro i h2 hi ⟨hh,cr⟩ k ck;subst hh;refine zg (λh3=>?_) (λh3=>?_)
 . have aA:i<p.length:=by have:(i:Int)<(p.length:Int):=h3;omega
   refine zj (λ_ h'=>h'=h2/\∀v∈p.take (i+1),BR 2 v) (λ_ h' hj=>ck _ aA hj) ?_;refine hp.xW i rfl aA λu hu bu=>zg (λ_=>lW _ rfl) λvh=>?_
   refine hp.getD i rfl aA λu' AD _=>zg (λ_=>lW _ rfl) λkJ=>⟨rfl,zyg aA cr ?_⟩
   have e1:=hu.1.len;have e2:=AD.2.len;exact⟨yj.1 zO,yj.1 zO⟩
 . have:i=p.length:=by have:¬(i:Int)<(p.length:Int):=h3;omega
   subst this;rw[J5]at cr;rw[ht.len];refine Y8 (n:=T.length) zO (λi h'=>h'=h2/\∀j (hj:j<T.reverse.length),j<i->∀v∈T.reverse[j],BR 2 v) ⟨rfl,λj hj h0=>absurd h0 (Te _)⟩ ?_;rintro i h4 hi ⟨hh,Es⟩ k2 xU;subst hh;refine zg (λh3=>?_) (λh3=>?_)
   . have aA:i<T.length:=by have:(i:Int)<(T.length:Int):=h3;omega
     have Et:i<T.reverse.length:=by simpa using aA
     have B5:=ht.red.short hn _ (Jy Et);refine Y8 (n:=(T.reverse[i]).length) zO (λj h'=>h'=h4/\∀v∈(T.reverse[i]).take j,BR 2 v) ⟨rfl,λv hv=>by simp at hv⟩ ?_;rintro j h5 hj ⟨hh,xX⟩ k3 ID;subst hh;refine ht.mem.get i rfl aA λs1 vh=>?_
     rw[vh.len];refine zg (λh6=>?_) (λh6=>?_)
     . have vm:j<(T.reverse[i]).length:=by have:(j:Int)<((T.reverse[i]).length:Int):=h6;omega
       refine zj (λ_ h'=>h'=h5/\∀v∈(T.reverse[i]).take (j+1),BR 2 v) (λ_ h' hjj=>ID _ vm hjj) ?_;refine ht.mem.get i rfl aA λs2 kJ=>?_
       refine kJ.get j rfl vm λu hu bu=>zg (λ_=>lW _ rfl) λqF=>zg (λ_=>lW _ rfl) λpd=>⟨rfl,zyg vm xX (Zkv hu zO zO)⟩
     . have:j=(T.reverse[i]).length:=by have:¬(j:Int)<((T.reverse[i]).length:Int):=h6;omega
       subst this;rw[J5]at xX;refine xU _ aA ⟨rfl,λj hj h7=>?_⟩;rcases Jx j i with h8 | h8
       exact Es j hj h8
       . have:j=i:=zO;subst this;exact xX
   . have:i=T.length:=by have:¬(i:Int)<(T.length:Int):=h3;omega
     subst this;refine hk _ _ (Jf _) ⟨rfl,.inr ⟨rfl,T,p,?_,ht.mem.2,ht.red,hf,hn,hp.re cr,lp,vp⟩⟩;obtain⟨ss,k1,k2,k3⟩:=ht.mem.1;exact⟨ss,k1,k2,λj j1 j2=>(k3 j j1 j2).re (Es j j2 (by simpa using j2))⟩
def Z0c(hx:ND G h X x)(H:Kb true h):za (F.zbz X) Kb h:=by
 refine zw _ (λK' hk=>?_) H;unfold F.zbz;obtain⟨T,p,hq,ie,hT,hf,hn,hp,lp,vp⟩:=hx;have eO:=ja hn;have htl:X.ae.len=T.length:=by rw[hq.len,Tg]
 rw[hp.len];refine Y8 (n:=p.length) zO (λi h'=>h'=h) rfl ?_;rintro i h2 hi hh k ck;subst hh;refine zg (λh3=>?_) (λh3=>?_)
 . have aA:i<p.length:=by have:(i:Int)<(p.length:Int):=h3;omega
   refine zj (λ_ h'=>h'=h2) (λ_ h' hj=>ck _ aA hj) ?_;refine hp.xW i rfl aA λu hu bu=>zg (λhh=>?_) λvh=>?_
   have:=zhr hu bu;omega;refine hp.getD i rfl aA λu' AD bu'=>zg (λhh=>?_) λkJ=>rfl
   have:=zhr AD bu';omega
 . rw[htl];refine Y8 (n:=T.length) zO (λi h'=>h'=h2) rfl ?_;rintro i h4 hi hh k2 xU;subst hh;refine zg (λh3=>?_) (λh3=>hk);have aA:i<T.length:=by have:(i:Int)<(T.length:Int):=h3;omega
   have Et:i<T.reverse.length:=by simpa using aA
   have B5:=hT.short hn _ (Jy Et);refine Y8 (n:=(T.reverse[i]).length) zO (λj h'=>h'=h4) rfl ?_;rintro j h5 hj hh k3 ID;subst hh;refine hq.get i rfl Et λs1 vh=>?_
   rw[vh.len];refine zg (λh6=>?_) (λh6=>xU _ aA rfl);have vm:j<(T.reverse[i]).length:=by have:(j:Int)<((T.reverse[i]).length:Int):=h6;omega
   refine zj (λ_ h'=>h'=h5) (λ_ h' hjj=>ID _ vm hjj) ?_;refine hq.get i rfl Et λs2 kJ=>?_
   refine kJ.xW j rfl vm λu hu bu=>zg (λhh=>?_) λhs3=>?_
   have:=zhr hu bu;omega;refine hq.get i rfl Et λs4 hs4=>?_
   refine hs4.getD j rfl vm λu' AD bu'=>zg (λhh=>?_) λ_=>rfl
   have:=zhr AD bu';omega
def qN(G:Re->Prop)(h:Hp)(X:ag)(z:Re):Prop:=ND G h X z
def Xz:Rec dN 2 (qN G):=⟨λ_=>rfl,zD,λ_=>rfl,λh hl=>ND.le h hl⟩
def Zbz{zs:List Re}(hl:LR dN 2 (qN G) h l zs)(hlen:zs.length<=1000)(H:Kb true h):za (F.zi3 l) Kb h:=by
 refine zw _ (λK' hk=>?_) H;unfold F.zi3;rw[hl.len Xz];refine Y8 (n:=zs.length) zO (λi h'=>h'=h) rfl ?_;rintro i h2 hi hh k ck;subst hh;refine zg (λh3=>?_) (λh3=>hk);have aA:i<zs.length:=by have:(i:Int)<(zs.length:Int):=h3;omega
 refine hl.get Xz i rfl aA λad X hX hc=>⟨X.ae,hc 0 _ rfl,X.af,hc 1 _ rfl,?_⟩
 exact Z0c (X:=⟨X.ae,X.af⟩) hX (zc rfl (ck _ aA rfl))
def zu7{zs:List Re}{i:Int}(hl:LR dN 2 (qN G) h l zs)(hlen:zs.length<=1000)(hF:eV G 3)(H:∀Z z h',h.le h'->NB G 300 h' Z z 67->KN Z h'):za (F.PO l i) KN h:=by
 refine zb (λZ h'=>∃z,NB G 300 h' Z z 67) (λK' hk=>?_) λZ h' hl ⟨z,hz⟩=>H Z z h' hl hz
 unfold F.PO;have mF:=hl.len Xz;have zero:∀{h1:Hp},h.le h1->za (F.Y4 0) (λr5 h2=>K' r5 h2) h1:=λl1=>
  MT (G:=G) (S:=300) zD zD λz h2 l2 hz=>hk _ _ (Ja l1 l2) ⟨_,hz.mono zD⟩
 refine zj (λ_ h'=>h'=h/\0<zs.length/\0<=i) (λ_ h1 hj=>?_) ?_
 . obtain⟨e,h0,hi⟩:=hj;subst e;rw[mF];obtain⟨n,rfl⟩:∃n:Nat,i=(n:Int):=⟨i.toNat,zO⟩;have em:((n:Int)).tmod (zs.length:Int)=((n % zs.length:Nat):Int):=by
    rw[Lv (Int.natCast_nonneg _)];rfl
   have hlt:=Nat.mod_lt n h0;rw[em];refine⟨zO,hl.get Xz _ rfl hlt λad X hX hc=>⟨X.ae,hc 0 _ rfl,X.af,hc 1 _ rfl,hk _ _ (Jf _) ⟨_,ND.nb hF hX⟩⟩⟩
 refine Zs (λ_=>zero (Jf _)) λcd=>zg (λ_=>zero (Jf _)) λnD=>⟨rfl,zO,zO⟩
end
end Den
end

section
namespace Den
open Go Iv Pq
def eV.upto{G:Re->Prop}{n:Nat}(hF:eV G n):∀{m:Nat},n<=m->eV G m
 | 0,h=>by
   have:n=0:=zO;subst this;exact hF
 | m+1,h=>by
   rcases Jx n (m+1)with h1 | h1
   exact(eV.upto hF (show n<=m by omega)).wide
   . have:n=m+1:=zO;subst this;exact hF
def eV.Eu{G:Re->Prop}{n:Nat}(hF:eV G n){x:Re}(hx:G x)(h0:0<=x):∃F':Re->Prop,eV F' (n+1)/\(∀y,G y->F' y)/\F' x.sqrt:=by
 rcases h0 with h0 | h0
 . refine⟨G,hF.wide,λ_ h=>h,?_⟩;have:(0:Re)=x.sqrt:=zh4 (Re.le_refl _) (by rw[Re.zero_mul];exact h0);rw[<-this];exact hF.of 0
 exact hF.root hx h0
structure xY where
 k:Int
 a:Int
 b:Int
 n:Int
 d:Int
def xY.ok(o:xY):Prop:=0<=o.k/\0<=o.a/\o.a<256/\0<=o.b/\o.b<256/\-128<=o.n/\o.n<128/\0<=o.d
def xZ(o:xY):List Value:=[.int .u8 o.k,.int .u8 o.a,.int .u8 o.b,.int .i8 o.n,.int .u8 o.d]
section
variable {s:Nat}{b c l:Sl}{w:Re}{zs:List Re}
def LO.field{G':Re->Prop}(ho:LO dN 2 (qN G) D h l zs)(hG:∀x,G x->G' x):LO dN 2 (qN G') D h l zs:=by
 obtain⟨xs,h1,h2,h3⟩:=ho;exact⟨xs,h1,h2,λk k1 k2=>ND.field (h3 k k1 k2) hG⟩
def LO.IE{i:Int}{K:Sl->Sl->Prop}(k:Nat)(ho:LO dN 2 (qN G) D h l zs)(hi:i=k)(hk:k<zs.length)(H:∀X,ND G D X zs[k]->K X.ae X.af):zi l i 2 λad=>aB .sl (ad.add 0) (λx=>aB .sl (ad.add 1) (λy=>K x y) h) h:=by
 obtain⟨xs,h1,h2,h3⟩:=ho;have bP:k<xs.length:=zO;exact YW (c:=dN) (λ_=>rfl) zD h1.rd k hi bP λad hc=>⟨xs[k].ae,hc 0 _ zD rfl,xs[k].af,hc 1 _ zD rfl,H _ (h3 k bP hk)⟩
def ZY(H:KN X h):za (F.zA X 0 Y) KN h:=zw _ (λK' hk=>by unfold F.zA;exact zc rfl hk) H
def Zoo(H:KN Y h):za (F.zA X 6 Y) KN h:=zw _ (λK' hk=>by unfold F.zA;exact zk rfl hk) H
def Z0l{m n:Int}(h1:-128<=m)(h2:m<128)(h3:1<=n)(h4:n<=8)(H:∀Z h',h.le h'->ND G h' Z (Jn (Jw m n))->KN Z h'):za (F.zet m n) KN h:=by
 refine zb _ (λK' hk=>?_) H;unfold F.zet;refine zgz zO zO zO zO zO λw h5 l5 hw=>?_
 have hb:BR 2 (Jw m n):=BR.divInt (by unfold Lt W;omega) (by unfold Lt W;omega) zO;refine zb (λZ h'=>ND G h' Z (Jn (Jw m n))) (λK2 aG=>?_) λZ h' hl hz=>hk _ _ (Ja l5 hl) hz
 unfold F.Xp;refine Z5q hw hb λA h6 l6 hp=>aG _ _ l6 ⟨[],[_],?_,Jd _,trivial,trivial,zD,hp,rfl,rfl⟩
 exact⟨[],Rd.nil,rfl,λk k1 _=>by simp at k1⟩
def Z2r{r:Sl}{ops:List xY}(hr:Rd h 5 r (ops.flatMap xZ))(iS:∀o∈ops,o.ok)(H:∀y G zs h',h.le h'->eV G 3->zs.length<=24->LR dN 2 (qN G) h' y zs->K y h'):za (F.zby r) K h:=by
 refine zb (λy h'=>∃G zs,eV G 3/\zs.length<=24/\LR dN 2 (qN G) h' y zs) (λK' hk=>?_) λy h' hl ⟨G,zs,k1,k2,k3⟩=>H y G zs h' hl k1 k2 k3
 unfold F.zby;have dG:r.len=ops.length:=by
  have:=hr.1;rw[yr (c:=xZ) (n:=5) (λ_=>rfl)]at this;omega
 refine Za (λst h'=>∃(i q:Nat) (G:Re->Prop) (D:Hp) (zs:List Re),st.2.2.1=(i:Int)/\st.2.1=(q:Int)/\q<=3/\i<=24/\zs.length=i/\h.le D/\eV G q/\LO dN 2 (qN G) D h' st.1 zs) (λst=>(24-st.2.2.1).toNat)
  ⟨0,0,_,h,[],rfl,rfl,zD,zD,rfl,Jf _,eV.rat,LO.nil⟩ ?_
 rintro⟨l,q0,i0,u0⟩ h1 ⟨i,q,G,D,zs,hi,hq,vf,hi24,Hm,hD,hF,ho⟩;have hi:i0=(i:Int):=hi;have hq:q0=(q:Int):=hq;have ho:LO dN 2 (qN G) D h1 l zs:=ho;subst hi hq;have mF:l.len=i:=by rw[ho.len Xz,Hm]
 have hwi:i64.wrap ((i:Int)+1)=((i+1:Nat):Int):=by rw[aM zO];rfl
 have fin:K' l h1:=hk _ _ (Ja hD ho.dT) ⟨G,zs,hF.upto vf,zO,ho.lr Xz⟩;refine zj (λ_ h'=>h'=h1/\i<ops.length/\i<24) (λ_ h2 hj=>?_) ?_
 . obtain⟨e,WN,da⟩:=hj;subst e;refine YW (c:=xZ) (λ_=>rfl) zD (hr.le (Ja hD ho.dT)) i rfl WN λad hc=>⟨_,hc 0 _ zD rfl,_,hc 1 _ zD rfl,_,hc 2 _ zD rfl,_,hc 3 _ zD rfl,_,hc 4 _ zD rfl,zD,?_⟩
   obtain⟨r1,r2,r3,r4,r5,r6,r7,r8⟩:=iS _ (Jy WN);generalize ops[i]=o at r1 r2 r3 r4 r5 r6 r7 r8 |-
   have w1:i64.wrap o.n=o.n:=aM zO;have HK:0<=o.d.tmod 8:=Int.tmod_nonneg _ r8;have hd2:o.d.tmod 8<8:=by rw[Lv r8];omega
   have w2:i64.wrap (o.d.tmod 8)=o.d.tmod 8:=aM zO;have w3:i64.wrap (o.d.tmod 8+1)=o.d.tmod 8+1:=aM zO;have w4:i64.wrap o.a=o.a:=aM zO;have w5:i64.wrap o.b=o.b:=aM zO;rw[w1,w2,w3,w4,w5];refine ho.call Xz (K1:=λZ D'=>ND G D' Z (Jn (Jw o.n (o.d.tmod 8+1)))) (Z0l r6 r7 zO zO λZ h' _ hz=>hz) λZ7 D3 h3 d3 eX hz7=>?_
   have rk:=Ja hD d3;refine zj (λst h4=>∃(q':Nat) (G':Re->Prop) (D':Hp) (z:Re) (s:Nat),st.1=(q':Int)/\q'<=3/\h.le D'/\eV G' q'/\LO dN 2 (qN G') D' h4 l zs/\NB G' 300 D' ⟨st.2.1.1,st.2.1.2.1⟩ z s/\(i=0->ND G' D' ⟨st.2.1.1,st.2.1.2.1⟩ z)) (λst h4 hj=>?_) ?_
   . obtain⟨q',G',D',z,s,Aa,abE,wZ,MU,mh,hx,iX⟩:=hj;refine zj (λst2 h5=>∃z Ae,h.le Ae/\LO dN 2 (qN G') Ae h5 l zs/\ND G' Ae ⟨st2.1.1,st2.1.2.1⟩ z) (λst2 h5 vi=>?_) ?_
     . obtain⟨z,Ae,abF,cV,YZ⟩:=vi;refine cV.call Xz (K1:=λZ Ae=>ND G' Ae Z z) (Z0m YZ λZ h' _ hz=>hz) λZ12 D6 h6 d6 wD abG=>?_
       refine wD.app Xz (bytes:=48) (zero:=[zN,zN]) (x:=Z12) (b:=z) rfl zO zO abG λy h7 hy=>⟨⟨i+1,q',G',D6,zs++[z],hwi,Aa,abE,da,by simp[Hm],Ja abF d6,MU,hy⟩,?_⟩
       show(24-i64.wrap ((i:Int)+1)).toNat<(24-(i:Int)).toNat;rw[hwi];omega
     . refine zg (λcI=>?_) (λhz=>?_)
       . have cI:(l.len:Int)>0:=cI;have hi0:0<i:=zO;refine mh.call Xz (K1:=λb Ae=>b=true\/(b=false/\ND G' Ae ⟨st.2.1.1,st.2.1.2.1⟩ z)) (Z6b hx (.inl rfl) λhnd=>.inr ⟨rfl,hnd⟩) λb D5 h5 d5 cV hb=>?_
         rcases hb with rfl | ⟨rfl,hnd⟩
         . refine zk rfl ?_;have hw:i64.wrap ((l.len:Int)-1)=((i-1:Nat):Int):=by rw[aM zO];omega
           rw[hw];exact cV.IE (i-1) rfl zO λX hX=>⟨_,D5,Ja wZ d5,cV,hX⟩
         exact zc rfl ⟨z,D5,Ja wZ d5,cV,hnd⟩
       . have hz:¬(l.len:Int)>0:=hz;exact⟨z,D',wZ,mh,iX zO⟩
   . have ZZ:=hF.upto vf;have wS:Ctx G 300 3:=⟨ZZ,zD,zD⟩;have j7:∃(q':Nat) (G':Re->Prop) (D':Hp) (z:Re) (s:Nat),(q:Int)=(q':Int)/\q'<=3/\h.le D'/\eV G' q'/\LO dN 2 (qN G') D' h3 l zs/\NB G' 300 D' ⟨Z7.ae,Z7.af⟩ z s/\(i=0->ND G' D' ⟨Z7.ae,Z7.af⟩ z):=
      ⟨q,G,D3,_,67,rfl,vf,rk,hF,eX,ND.nb ZZ hz7,λ_=>hz7⟩
     refine zg (λcI=>⟨zD,oB (λ_=>?_) λ_=>j7⟩) (λ_=>j7);have cI:(l.len:Int)>0:=cI;have hi0:0<i:=zO;have idx:∀c:Int,0<=c->∃k:Nat,c.tmod (l.len:Int)=(k:Int)/\k<zs.length:=λc hc=>by
      obtain⟨n,rfl⟩:∃n:Nat,c=(n:Int):=⟨c.toNat,zO⟩;refine⟨n % zs.length,?_,Nat.mod_lt n zO⟩;rw[Lv (Int.natCast_nonneg _),mF,<-Hm];rfl
     obtain⟨ka,ea,ha⟩:=idx o.a r2;obtain⟨kb,eb,hb⟩:=idx o.b r4;show((l.len:Int)≠0/\_);refine⟨zO,?_⟩;rw[ea];refine eX.IE ka rfl ha λX18 Z'=>?_
     refine⟨zO,?_⟩;rw[eb];refine eX.IE kb rfl hb λX20 aaa=>?_
     have qO:=ND.nb ZZ Z';have tl:=ND.nb ZZ aaa;generalize zs[ka]=x at qO Z';generalize zs[kb]=y at tl aaa;have jj:∀{G':Re->Prop} {q':Nat} {D' h':Hp} {Z:ag} {z:Re} {s:Nat} {qi:Int},qi=(q':Int)->q'<=3->D3.le D'->eV G' q'->LO dN 2 (qN G') D' h' l zs->NB G' 300 D' ⟨Z.ae,Z.af⟩ z s ->
      ∃(q':Nat) (G':Re->Prop) (D':Hp) (z:Re) (s:Nat),qi=(q':Int)/\q'<=3/\h.le D'/\eV G' q'/\LO dN 2 (qN G') D' h' l zs/\NB G' 300 D' ⟨Z.ae,Z.af⟩ z s/\(i=0->ND G' D' ⟨Z.ae,Z.af⟩ z):=λe1 e2 e3 e4 e5 e6=>⟨_,_,_,_,_,e1,e2,Ja rk e3,e4,e5,e6,λhh=>by omega⟩
     refine⟨zD,Zs (λ_=>?_) λ_=>Zs (λ_=>?_) λ_=>Zs (λ_=>?_) λ_=>Zs (λ_=>?_) λ_=>?_⟩
     . refine eX.call Xz (K1:=λz D'=>z.2=0/\NB G 300 D' z.1 (x+y) 135) (ZQ wS qO tl zD (qO.sz.add tl.sz) λZ h' _ hz=>⟨rfl,hz⟩) λz D4 h9 d4 gQ hz=>?_
       obtain⟨Z,e⟩:=z;obtain⟨he,hz⟩:=hz;simp only at he hz;subst he;exact ZY (jj rfl vf d4 hF gQ hz)
     . refine eX.call Xz (K1:=λz D'=>z.2=0/\NB G 300 D' z.1 (x-y) 135) (zrh wS qO tl zD (qO.sz.sub tl.sz) λZ h' _ hz=>⟨rfl,hz⟩) λz D4 h9 d4 gQ hz=>?_
       obtain⟨Z,e⟩:=z;obtain⟨he,hz⟩:=hz;simp only at he hz;subst he;exact ZY (jj rfl vf d4 hF gQ hz)
     . refine eX.call Xz (K1:=λz D'=>z.2=0/\NB G 300 D' z.1 (x*y) (67+67)) (Iz wS qO tl zD λZ h' _ hz=>⟨rfl,hz⟩) λz D4 h9 d4 gQ hz=>?_
       obtain⟨Z,e⟩:=z;obtain⟨he,hz⟩:=hz;simp only at he hz;subst he;exact ZY (jj rfl vf d4 hF gQ hz)
     . by_cases ov:y=0
       . subst ov;refine eX.call Xz (K1:=λz D'=>D3.le D'/\z=(⟨zd,zd⟩,6)) (Z0k tl λh' hl=>⟨hl,rfl⟩) λz D4 h9 d4 gQ hz=>?_
         obtain⟨_,rfl⟩:=hz;exact Zoo (jj rfl vf d4 hF gQ (qO.le d4))
       . refine eX.call Xz (K1:=λz D'=>z.2=0/\NB G 300 D' z.1 (x*y.inv) (67+67*(2 ^ (3+1)-1))) (zrg wS qO tl ov zD λZ h' _ hz=>⟨rfl,hz⟩) λz D4 h9 d4 gQ hz=>?_
         obtain⟨Z,e⟩:=z;obtain⟨he,hz⟩:=hz;simp only at he hz;subst he;exact ZY (jj rfl vf d4 hF gQ hz)
     . refine zj (λst dF=>∃D4 z,D3.le D4/\LO dN 2 (qN G) D4 dF l zs/\NB G 300 D4 ⟨st.1.1,st.1.2.1⟩ z 67/\0<=z) (λst dF hj=>?_) ?_
       . obtain⟨D4,z,d4,gQ,hz,jd⟩:=hj;refine zg (λhlt=>?_) (λ_=>jj (Z:=⟨X18.ae,X18.af⟩) rfl vf d4 hF gQ (qO.le d4));have hlt:(q:Int)<3:=hlt;obtain⟨G',MU,hG,hg⟩:=hF.Eu (hz.mem ZZ) jd;have IA:Ctx G' 300 3:=⟨MU.upto zO,zD,zD⟩;refine(LO.field gQ hG).call Xz (K1:=λz' D'=>z'.2=0/\NB G' 300 D' z'.1 z.sqrt 300) (zo0 IA (hz.field hG) jd hg zD λZ h' _ hz=>⟨rfl,hz⟩) λz' D5 fN d5 cV qB=>?_
         obtain⟨Z,e⟩:=z';obtain⟨he,qB⟩:=qB;simp only at he qB;subst he;refine ZY (jj (q':=q+1) ?_ zO (Ja d4 d5) MU cV qB);show i64.wrap ((q:Int)+1)=_;rw[aM zO];rfl
       . refine eX.call Xz (K1:=λv D'=>D3.le D'/\v=cm x) (Eo qO (by rw[Yu];decide) λh' hl=>⟨hl,rfl⟩) λv D4 h9 d4 gQ hv=>?_
         obtain⟨_,rfl⟩:=hv;refine zg (λgS=>?_) (λnD=>⟨D4,x,d4,gQ,qO.le d4,?_⟩)
         . refine gQ.call Xz (K1:=λZ D'=>NB G 300 D' Z (-x) 67) (MQ (X:=⟨X18.ae,X18.af⟩) (qO.le d4) zD λZ h' _ hz=>hz) λZ D5 aZ d5 cV hz=>?_
           exact⟨D5,-x,Ja d4 d5,cV,hz,.inr (Re.neg_pos.2 (qk.1 gS))⟩
         . rcases Xf x with ⟨g,_⟩ | ⟨g,_⟩ | ⟨g,_⟩
           exact .inr g;rw[g];exact Re.le_refl _;exact absurd (qk.2 g) nD
 refine zg (λh2=>zg (λh3=>⟨rfl,zO,zO⟩) λ_=>fin) λ_=>fin
end
end Den
end

section
namespace Den
open Go Iv Pq
def vcs(V:aF):List Value:=[.slice V.x.ae.a V.x.ae.len V.x.ae.cap,.slice V.x.af.a V.x.af.len V.x.af.cap,.slice V.y.ae.a V.y.ae.len V.y.ae.cap,.slice V.y.af.a V.y.af.len V.y.af.cap]
def VP(G:Re->Prop)(s:Nat)(h:Hp)(V:aF)(b:Re×Re):Prop:=VB G 300 h V b.1 b.2 s
def nN{G:Re->Prop}{s:Nat}:Rec vcs 4 (VP G s):=⟨λ_=>rfl,zD,λ_=>rfl,λh hl=>VB.le h hl⟩
section
variable {s:Nat}{b c l:Sl}{W:aF}{w:Re}{ps:List (Re × Re)}{KB:zY (Sl × Bool)}{KM:zY aU}
def LR.IF{G':Re->Prop}(hl:LR vcs 4 (VP G s) h l ps)(hG:∀x,G x->G' x):LR vcs 4 (VP G' s) h l ps:=by
 obtain⟨xs,h1,h2,h3,h4⟩:=hl;exact⟨xs,h1,h2,h3,λk k1 k2=>VB.field (h4 k k1 k2) hG⟩
def LR.aab{i:Int}{K:aF->Prop}(k:Nat)(hl:LR vcs 4 (VP G s) h l ps)(hi:i=k)(hk:k<ps.length)(H:∀V,VB G 300 h V ps[k].1 ps[k].2 s->K V) :
 zi l i 4 λa=>aB .sl (a.add 0) (λx0=>aB .sl (a.add 1) (λx1=>aB .sl (a.add 2) (λx2=>aB .sl (a.add 3) (λx3=>K ⟨⟨x0,x1⟩,⟨x2,x3⟩⟩) h) h) h) h:=
 hl.get nN k hi hk λad V hV hc=>⟨_,hc 0 _ rfl,_,hc 1 _ rfl,_,hc 2 _ rfl,_,hc 3 _ rfl,H _ hV⟩
def AtR(h:Hp)(l:Sl)(bs:List Int):Prop:=Rd h 1 l (bs.map (Pt .u8))/\∀b∈bs,0<=b/\b<256
def AtR.len{bs:List Int}(ha:AtR h l bs):l.len=bs.length:=by have:=ha.1.1;simp at this;omega
def zyb{P:Tsetsquareref13_Plot}{ops:List xY}{bs:List Int}(hr:Rd h 5 P.r (ops.flatMap xZ))(iS:∀o∈ops,o.ok)(ha:AtR h P.at_ bs)
 (H1:∀y G ps h',h.le h'->eV G 3->LR vcs 4 (VP G 67) h' y ps->KB (y,true) h') (H0:∀h',h.le h'->KB (zd,false) h'):za (F.z9u P) KB h:=by
 refine zb (λz h'=>(z.2=true/\∃G ps,eV G 3/\LR vcs 4 (VP G 67) h' z.1 ps)\/z=(zd,false)) (λK' hk=>?_) λz h' hl hz=>by
  rcases hz with ⟨e,G,ps,k1,k2⟩ | rfl
  . obtain⟨z1,z2⟩:=z;simp only at e;subst e;exact H1 z1 G ps h' hl k1 k2
  exact H0 h' hl
 unfold F.z9u;have hal:=ha.len;refine Z2r hr iS λr1 G zs h1 l1 hF Hm hzs=>?_
 refine zj (λ_ h'=>h'=h1/\bs.length<=24) (λ_ h2 hj=>?_) ?_
 . obtain⟨e,hb24⟩:=hj;subst e;refine Za (λst h'=>∃k D ps,st.2.1=((2*k:Nat):Int)/\k<=12/\h2.le D/\ps.length=k/\LO vcs 4 (VP G 67) D h' st.1 ps) (λst=>(24-st.2.1).toNat) ⟨0,h2,[],rfl,zD,Jf _,rfl,LO.nil⟩ ?_;rintro⟨l,i0,u0⟩ h3 ⟨k,D,ps,hi,hk12,hD,jL,ho⟩;have hi:i0=((2*k:Nat):Int):=hi;have ho:LO vcs 4 (VP G 67) D h3 l ps:=ho;subst hi;have w1:i64.wrap (((2*k:Nat):Int)+1)=((2*k+1:Nat):Int):=by rw[aM zO];rfl
   have w2:i64.wrap (((2*k:Nat):Int)+2)=((2*(k+1):Nat):Int):=by rw[aM zO];omega
   refine zg (λhlt=>?_) (λ_=>hk _ _ (Ja l1 (Ja hD ho.dT)) (.inl ⟨rfl,G,ps,hF,ho.lr nN⟩));have hlt:i64.wrap (((2*k:Nat):Int)+1)<(P.at_.len:Int):=hlt;rw[w1]at hlt;have hb:2*k+1<bs.length:=zO;have hle:=Ja l1 (Ja hD ho.dT);have rd:∀{j:Nat} {Kv:Int->Prop} (hj:j<bs.length),(∀b,0<=b->b<256->Kv b)->zi P.at_ (j:Int) 1 λad=>aB (.int .u8) ad (λx=>Kv x) h3:=λ{j Kv} hj hK=>
    rn j (ha.1.le hle) rfl (v:=.int .u8 bs[j]) (by rw[Gr,Jp hj];rfl) λad hc=>⟨bs[j],hc,hK _ (ha.2 _ (Jy hj)).1 (ha.2 _ (Jy hj)).2⟩
   rw[w1,w2];refine rd zO λb1 b1a b1b=>rd hb λb2 b2a b2b=>?_
   refine ho.call nN (K1:=λZ D'=>∃z,NB G 300 D' Z z 67) (zu7 (hzs.le Xz hD) zO hF λZ z h' _ hz=>⟨z,hz⟩) λZ10 D4 h4 d4 gQ abH=>?_
   refine gQ.call nN (K1:=λZ D'=>∃z,NB G 300 D' Z z 67) (zu7 (hzs.le Xz (Ja hD d4)) zO hF λZ z h' _ hz=>⟨z,hz⟩) λZ11 D5 h5 d5 cV abI=>?_
   obtain⟨qK,qL⟩:=abH;obtain⟨xr,XL⟩:=abI;refine cV.app nN (bytes:=96) (zero:=[zN,zN,zN,zN]) (x:=⟨Z10,Z11⟩) (b:=(qK,xr)) rfl zO zO ⟨qL.le d5,XL⟩ λy h6 hy=>?_
   refine⟨⟨k+1,D5,ps++[(qK,xr)],rfl,zO,Ja hD (Ja d4 d5),by simp[jL],hy⟩,?_⟩;show(24-((2*(k+1):Nat):Int)).toNat<(24-((2*k:Nat):Int)).toNat;omega
 refine Zbz hzs zO (zc rfl (zg (λ_=>hk _ _ l1 (.inr rfl)) λnD=>⟨rfl,zO⟩))
def zur{P:Tsetsquareref13_Plot}{ops:List xY}{bs:List Int}{n:Nat}(hr:Rd h 5 P.r (ops.flatMap xZ))(iS:∀o∈ops,o.ok)(ha:AtR h P.at_ bs)
 (H1:∀y G ps h',h.le h'->eV G 3->LR vcs 4 (VP G 67) h' y ps->n<=ps.length->KB (y,true) h') (H0:∀y h',h.le h'->KB (y,false) h'):za (F.z8f P (n:Int)) KB h:=by
 refine zb (λz h'=>(z.2=true/\∃G ps,eV G 3/\LR vcs 4 (VP G 67) h' z.1 ps/\n<=ps.length)\/z.2=false) (λK' hk=>?_) λz h' hl hz=>by
  obtain⟨z1,z2⟩:=z;rcases hz with ⟨e,G,ps,k1,k2,k3⟩ | e
  . simp only at e;subst e;exact H1 z1 G ps h' hl k1 k2 k3
  . simp only at e;subst e;exact H0 z1 h' hl
 unfold F.z8f;refine zyb hr iS ha (λy G ps h1 l1 hF jr=>zk rfl ?_) λh1 l1=>zc rfl (hk _ _ l1 (.inr rfl))
 have va:=jr.len nN;by_cases nD:(y.len:Int)>=(n:Int)
 . rw[decide_eq_true nD];exact hk _ _ l1 (.inl ⟨rfl,G,ps,hF,jr,zO⟩)
 . rw[decide_eq_false nD];exact hk _ _ l1 (.inr rfl)
def Z0a{k:Int}(hF:eV G 3)(hv:VB G 300 h V x y 67)(hw:VB G 300 h W z w 67)(H:∀M G' h',h.le h'->Ctx G' 300 4->(∀x,G x->G' x)->MI G' h' M 290000 990000->KM M h'):za (F.QF k V W) KM h:=by
 refine zb (λM h'=>∃G',Ctx G' 300 4/\(∀x,G x->G' x)/\MI G' h' M 290000 990000) (λK' hk=>?_) λM h' hl ⟨G',k1,k2,k3⟩=>H M G' h' hl k1 k2 k3
 unfold F.QF;have hc:Ctx G 300 3:=⟨hF,zD,zD⟩;have Ct:Ctx G 300 4:=⟨hF.wide,zD,zD⟩;have e1:(1:Re)*1+0*0=1:=by rw[Re.mul_one,J0,Ua]
 have idn:∀{h1:Hp},h.le h1->za F.KD (λr5 h4=>K' r5 h4) h1:=λl1=>
  zr9 (G:=G) (S:=300) λM h2 l2 hM=>hk _ _ (Ja l1 l2) ⟨G,Ct,λ_ h=>h,MI.mono ⟨1,0,0,0,e1,hM⟩ zD zD⟩
 refine zbv hv λM1 h1 l1 CX hM1=>⟨zD,?_⟩
 refine zj (λ_ h'=>h'=h1) (λst h2 e=>?_) ?_
 . subst e;refine Zw (λ_=>?_) (λ_=>?_)
   . refine zo6 (hw.le l1) (by rw[Yu];decide) (λh3 l3 _=>zk rfl (idn (Ja l1 l3))) λh3 l3 h0=>zc rfl ?_
     obtain⟨G',MU,hG,hg⟩:=hF.Eu (hF.add _ _ (hF.mul _ _ (hw.1.mem hF) (hw.1.mem hF)) (hF.mul _ _ (hw.2.mem hF) (hw.2.mem hF))) (.inr (zzz h0));have IA:Ctx G' 300 4:=⟨MU,zD,zD⟩;have eY:=Ja l1 l3;refine zra IA ((hv.le eY).field hG) ((hw.le eY).field hG) h0 hg λM h5 l5 hM=>⟨zD,?_⟩
     have fE:=Ja eY l5;refine Zw (λ_=>hk _ _ fE ⟨G',IA,hG,hM.mono zD zD⟩) (λ_=>?_);obtain⟨m1,m2,m3,m4⟩:=hM1.le (Ja l3 l5);exact zrc IA ⟨m1.field hG,m2.field hG,m3.field hG,m4.field hG⟩ CX hM zD zD λQ h6 l6 hQ=>hk _ _ (Ja fE l6) ⟨G',IA,hG,hQ.mono zD zD⟩
   . refine zj (λ_ h'=>h'=h2) (λst8 h7 e=>?_) (Zw (λ_=>rfl) λ_=>rfl);subst e;refine Zw (λ_=>?_) (λ_=>hk _ _ l1 ⟨G,Ct,λ_ h=>h,MI.mono ⟨1,0,_,_,e1,hM1⟩ zD zD⟩);refine zlh hc (hv.le l1) (hw.le l1) zD (by rw[Yu];decide) (λh3 l3 _=>zk rfl (idn (Ja l1 l3))) λh3 l3 h0=>zc rfl ?_
     have eY:=Ja l1 l3;refine Z63 hc (hv.le eY) (hw.le eY) h0 λL a b c h4 l4 h0' na nb ncc=>?_
     have gG:=Ja eY l4;refine zwq hc na nb ncc h0' λM h5 l5 hM=>⟨zD,?_⟩
     have fE:=Ja gG l5;refine Zw (λ_=>hk _ _ fE ⟨G,Ct,λ_ h=>h,hM.mono zD zD⟩) (λ_=>?_);exact zrc hc (hM1.le (Ja l3 (Ja l4 l5))) CX hM zD zD λQ h6 l6 hQ=>hk _ _ (Ja fE l6) ⟨G,Ct,λ_ h=>h,hQ.mono zD zD⟩
 exact Zw (λ_=>rfl) λ_=>rfl
def MV(c d x y m:Re)(b:Re×Re):Re×Re:=(c*b.1-d*(m*b.2)+x,d*b.1+c*(m*b.2)+y)
def Z5n{c d x y:Re}(hc:Ctx G 300 4)(hm:MB G 300 h M c d x y 290000 990000)(hl:LR vcs 4 (VP G 67) h l ps)(hlen:ps.length<=1000)(H:∀w h',h.le h'->LR vcs 4 (VP G 1600000) h' w (ps.map (MV c d x y (lL M.aS)))->KB (w,true) h'):za (F.QR M l) KB h:=by
 refine zb (λz h'=>z.2=true/\LR vcs 4 (VP G 1600000) h' z.1 (ps.map (MV c d x y (lL M.aS)))) (λK' hk=>?_) λz h' hl hz=>by
  obtain⟨z1,z2⟩:=z;obtain⟨e,k1⟩:=hz;simp only at e;subst e;exact H z1 h' hl k1
 unfold F.QR;rw[hl.len nN];refine ur (n:=ps.length) zO (λi w h'=>∃D,h.le D/\LO vcs 4 (VP G 1600000) D h' w ((ps.take i).map (MV c d x y (lL M.aS)))) ⟨h,Jf _,by simpa using LO.nil⟩ ?_;rintro i w h2 hi ⟨D,hD,ho⟩ k ck;refine zg (λh3=>?_) (λh3=>?_)
 . have aA:i<ps.length:=by have:(i:Int)<(ps.length:Int):=h3;omega
   refine(hl.le nN hD).xS nN ho.dT i rfl aA λad V hV Ct=>⟨_,Ct 0 _ rfl,_,Ct 1 _ rfl,_,Ct 2 _ rfl,_,Ct 3 _ rfl,?_⟩
   have hV:VB G 300 D V ps[i].1 ps[i].2 67:=hV;refine ho.call nN (K1:=λz D'=>z.2=0/\VB G 300 D' z.1 (c*ps[i].1-d*(lL M.aS*ps[i].2)+x) (d*ps[i].1+c*(lL M.aS*ps[i].2)+y) 1600000) (zou hc (hm.le hD) hV zD λZ h' _ hz=>⟨rfl,hz.mono zD⟩) λz D4 h4 d4 gQ hz=>?_
   obtain⟨Z,e⟩:=z;obtain⟨he,hz⟩:=hz;simp only at he hz;subst he;refine zc rfl ?_;refine gQ.app nN (bytes:=96) (zero:=[zN,zN,zN,zN]) (x:=Z) (b:=MV c d x y (lL M.aS) ps[i]) rfl (by rw[Ph,Jk];omega) (by rw[Ph,Jk];omega) hz λy' h5 hy=>ck _ _ aA ⟨D4,Ja hD d4,?_⟩
   rw[Jc aA,List.map_append];exact hy
 . have:i=ps.length:=by have:¬(i:Int)<(ps.length:Int):=h3;omega
   subst this;rw[J5]at ho;exact hk _ _ (Ja hD ho.dT) ⟨rfl,ho.lr nN⟩
def Z6t{P:Tsetsquareref13_Plot}{ops:List xY}{bs:List Int}{kind:Int}{KS:Sl×Sl×aU×Bool×Bool->Hp->Prop}(hr:Rd h 5 P.r (ops.flatMap xZ))(iS:∀o∈ops,o.ok)(ha:AtR h P.at_ bs)
 (H1:∀l k M G ps c d x y h',h.le h'->Ctx G 300 4->ps.length=5->c*c+d*d=1->MB G 300 h' M c d x y 290000 990000->LR vcs 4 (VP G 67) h' l ps->LR vcs 4 (VP G 1600000) h' k (ps.map (MV c d x y (lL M.aS)))->KS (l,k,M,true,true) h')
 (H0:∀l k M r h',h.le h'->KS (l,k,M,false,r) h'):za (F.zif P kind) KS h:=by
 refine zb (λz h'=>(z.2.2.2.1=true/\z.2.2.2.2=true/\∃G ps c d x y,Ctx G 300 4/\ps.length=5/\c*c+d*d=1/\MB G 300 h' z.2.2.1 c d x y 290000 990000/\LR vcs 4 (VP G 67) h' z.1 ps/\LR vcs 4 (VP G 1600000) h' z.2.1 (ps.map (MV c d x y (lL z.2.2.1.aS))))\/z.2.2.2.1=false) (λK' hk=>?_) λz h' hl hz=>by
  obtain⟨z1,z2,z3,z4,z5⟩:=z;rcases hz with ⟨e1,e2,G,ps,c,d,x,y,k1,k2,k3,k4,k5,k6⟩ | e1
  . simp only at e1 e2;subst e1 e2;exact H1 z1 z2 z3 G ps c d x y h' hl k1 k2 k3 k4 k5 k6
  . simp only at e1;subst e1;exact H0 z1 z2 z3 z5 h' hl
 unfold F.zif;refine zur (n:=7) hr iS ha (λl G ps h1 l1 hF jr h7=>zc rfl ?_) λy h1 l1=>zk rfl (hk _ _ l1 (.inr rfl))
 obtain⟨KK,hKK⟩:∃KK:aF->aF->Prop,KK=λV5 V6=>za (F.QF kind V5 V6) (λr6 h2=>ca l 0 5 4 λc7=>za (F.QR r6 c7) (λr8 h3=>K' (c7,r8.1,r6,true,r8.2) h3) h2) h1:=⟨_,rfl⟩
 suffices hs:∀V5 V6,VB G 300 h1 V5 (ps[5]'zO).1 (ps[5]'zO).2 67->VB G 300 h1 V6 (ps[6]'zO).1 (ps[6]'zO).2 67->KK V5 V6 by
  have:=jr.aab (K:=λV5=>zi l 6 4 λa=>aB .sl (a.add 0) (λx0=>aB .sl (a.add 1) (λx1=>aB .sl (a.add 2) (λx2=>aB .sl (a.add 3) (λx3=>KK V5 ⟨⟨x0,x1⟩,⟨x2,x3⟩⟩) h1) h1) h1) h1) 5 (i:=5) rfl zO λV5 hV5=>jr.aab (K:=KK V5) 6 (i:=6) rfl zO λV6 hV6=>hs V5 V6 hV5 hV6
  rw[hKK]at this;exact this
 intro V5 V6 hV5 hV6;rw[hKK];refine Z0a hF hV5 hV6 λM G' h2 l2 hc hG hM=>?_
 obtain⟨c,d,x,y,uF,hmb⟩:=hM;have IG:=(jr.le nN l2).IF hG;have vS:=IG.len nN;have ie:=IG.cap;refine Xg 0 5 rfl rfl zD zO ?_;have Md:=IG.cut nN (k:=5) zO;have cj:(ps.take 5).length=5:=by simp;omega
 refine Z5n hc hmb Md zO λw h3 l3 hw=>hk _ _ (Ja l1 (Ja l2 l3)) (.inl ⟨rfl,rfl,G',ps.take 5,c,d,x,y,hc,cj,uF,hmb.le l3,Md.le nN l3,hw⟩)
end
end Den
end

section
namespace Den
open Go Iv Pq
section
variable {C S m X Y a b c d e f w p q u v:Re}
def zwk:vr x y z w a b=pN (z-x) (w-y) (a-x) (b-y):=by
 unfold vr pN;rw[Re.neg_mul,Re.add_comm,<-Ub]
def I1(C S m X a b:Re):Re:=C*a-S*(m*b)+X
def I2(C S m Y a b:Re):Re:=S*a+C*(m*b)+Y
def R1(C S m a b:Re):Re:=C*a-S*(m*b)
def R2(C S m a b:Re):Re:=S*a+C*(m*b)
def Cu:I1 C S m X a b-I1 C S m X c d=R1 C S m (a-c) (b-d):=Zok
def Cv:I2 C S m Y a b-I2 C S m Y c d=R2 C S m (a-c) (b-d):=Zol
def Ev(N:C*C+S*S=1)(M:m*m=1):R1 C S m a b*R1 C S m c d+R2 C S m a b*R2 C S m c d=a*c+b*d:=Zsq N M
def Z9m(N:C*C+S*S=1):pN (R1 C S m a b) (R2 C S m a b) (R1 C S m c d) (R2 C S m c d)=m*pN a b c d:=Zja N
def Zt2(N:C*C+S*S=1)(M:m*m=1):(R1 C S m a b=0/\R2 C S m a b=0)↔(a=0/\b=0):=by
 constructor
 . rintro⟨h1,h2⟩;have:=Ev (a:=a) (b:=b) (c:=a) (d:=b) N M;rw[h1,h2,Re.zero_mul,Ua]at this;exact zo8 this.symm
 . rintro⟨rfl,rfl⟩;unfold R1 R2;simp only[J0,Re.sub_self,Ua];exact⟨trivial,trivial⟩
def Zj9(N:C*C+S*S=1)(M:m*m=1):(I1 C S m X a b=I1 C S m X c d/\I2 C S m Y a b=I2 C S m Y c d)↔(a=c/\b=d):=by
 rw[<-U9,<-U9 (x:=I2 C S m Y a b),Cu,Cv,Zt2 N M,U9,U9]
def Zqv(N:C*C+S*S=1):vr (I1 C S m X a b) (I2 C S m Y a b) (I1 C S m X c d) (I2 C S m Y c d) (I1 C S m X e f) (I2 C S m Y e f)=m*vr a b c d e f:=by
 rw[zwk,zwk,Cu,Cv,Cu,Cv,Z9m N]
def Zso(N:C*C+S*S=1)(M:m*m=1):ME (I1 C S m X a b) (I2 C S m Y a b) (I1 C S m X c d) (I2 C S m Y c d) (I1 C S m X e f) (I2 C S m Y e f)=ME a b c d e f:=by
 unfold ME;rw[Cu,Cv,Cu,Cv,Ev N M]
def Zyn(N:C*C+S*S=1)(M:m*m=1):btw (I1 C S m X a b) (I2 C S m Y a b) (I1 C S m X c d) (I2 C S m Y c d) (I1 C S m X e f) (I2 C S m Y e f)↔btw a b c d e f:=by
 unfold btw;rw[Zj9 N M,Zj9 N M,Zqv N,Zso N M,Qj,Qj];have hm:m≠0:=λhh=>by
  rw[hh,J0]at M;exact Re.nu M.symm
 have h1:m*vr a b c d e f=0↔vr a b c d e f=0:=⟨λhh=>(Gv hh).resolve_left hm,λhh=>by rw[hh,J0]⟩;rw[h1]
def ct1(h0:pN p u q v≠0):(p*ctx p u q v+u*sd p u q v)+(p*ctx p u q v+u*sd p u q v)=p*p+u*u:=
 Y0q (Re.bI (zls h0))
def ct2(h0:pN p u q v≠0):(q*ctx p u q v+v*sd p u q v)+(q*ctx p u q v+v*sd p u q v)=q*q+v*v:=
 Y0r (Re.bI (zls h0))
def Zyo(N:C*C+S*S=1)(M:m*m=1)(h0:pN p u q v≠0) :
 ctx (R1 C S m p u) (R2 C S m p u) (R1 C S m q v) (R2 C S m q v)=R1 C S m (ctx p u q v) (sd p u q v)/\sd (R1 C S m p u) (R2 C S m p u) (R1 C S m q v) (R2 C S m q v)=R2 C S m (ctx p u q v) (sd p u q v):=by
 have hm:m≠0:=λhh=>by
  rw[hh,J0]at M;exact Re.nu M.symm
 have h1:pN (R1 C S m p u) (R2 C S m p u) (R1 C S m q v) (R2 C S m q v)≠0:=by
  rw[Z9m N];exact λhh=>(Gv hh).elim hm h0
 have a1:=ct1 h1;have a2:=ct2 h1;rw[Ev N M]at a1 a2;have b1:=ct1 h0;have b2:=ct2 h0;rw[<-b1,<-Ev (a:=p) (b:=u) (c:=ctx p u q v) (d:=sd p u q v) N M]at a1;rw[<-b2,<-Ev (a:=q) (b:=v) (c:=ctx p u q v) (d:=sd p u q v) N M]at a2;exact Zsg h1 (Z94 a1) (Z94 a2)
def Zsm:I1 C S m X (a+c) (b+d)=I1 C S m X a b+R1 C S m c d:=Zoi
def Zsn:I2 C S m Y (a+c) (b+d)=I2 C S m Y a b+R2 C S m c d:=Zoj
def Zyp(N:C*C+S*S=1)(M:m*m=1):(I1 C S m X a b-I1 C S m X c d)*(I1 C S m X a b-I1 C S m X c d)+(I2 C S m Y a b-I2 C S m Y c d)*(I2 C S m Y a b-I2 C S m Y c d)=(a-c)*(a-c)+(b-d)*(b-d):=by
 rw[Cu,Cv,Ev N M]
def zqc{P Q f k:Re}(hf:f≠0)(hk:(((w-y)*f)*((w-y)*f)+(-(z-x)*f)*(-(z-x)*f))*k=1) :
 ((z-x)*(Q-(-(z-x)*f)*((((w-y)*f)*P+(-(z-x)*f)*Q-(x*(w-y)+y*-(z-x))*f)*k)-y)-(w-y)*(P-((w-y)*f)*((((w-y)*f)*P+(-(z-x)*f)*Q-(x*(w-y)+y*-(z-x))*f)*k)-x)=0) /\
   ((z-x)*(P-(P-((w-y)*f)*((((w-y)*f)*P+(-(z-x)*f)*Q-(x*(w-y)+y*-(z-x))*f)*k)))+(w-y)*(Q-(Q-(-(z-x)*f)*((((w-y)*f)*P+(-(z-x)*f)*Q-(x*(w-y)+y*-(z-x))*f)*k)))=0):=by
 have id1:∀g h t f k P Q x y:Re,f*(h*(Q-(-h*f)*(t*k)-y)-g*(P-(g*f)*(t*k)-x))=((g*f)*(g*f)+(-h*f)*(-h*f))*k*t-((g*f)*P+(-h*f)*Q-(x*g+y*-h)*f):=by
  intro g h t f k P Q x y;obtain⟨g,rfl⟩:=g.rep;obtain⟨h,rfl⟩:=h.rep;obtain⟨t,rfl⟩:=t.rep;obtain⟨f,rfl⟩:=f.rep;obtain⟨k,rfl⟩:=k.rep;obtain⟨P,rfl⟩:=P.rep;obtain⟨Q,rfl⟩:=Q.rep;obtain⟨x,rfl⟩:=x.rep;obtain⟨y,rfl⟩:=y.rep;simp only[Ub,Re.aO,Re.aQ,Re.aT];exact Re.id λn=>by simp only[CS.aV,CS.bf,CS.bB];grind
 have id2:∀g h f t P Q:Re,h*(P-(P-(g*f)*t))+g*(Q-(Q-(-h*f)*t))=0:=by
  intro g h f t P Q;have:h*(P-(P-(g*f)*t))+g*(Q-(Q-(-h*f)*t))=0*t:=by
   obtain⟨g,rfl⟩:=g.rep;obtain⟨h,rfl⟩:=h.rep;obtain⟨t,rfl⟩:=t.rep;obtain⟨f,rfl⟩:=f.rep;obtain⟨P,rfl⟩:=P.rep;obtain⟨Q,rfl⟩:=Q.rep;rw[<-Ti];simp only[Ub,Re.iE,Re.aO,Re.aQ,Re.aT];exact Re.id λn=>by simp only[CS.aV,CS.bf,CS.bB,CS.bC];grind
  rw[this,Re.zero_mul]
 refine⟨?_,id2 _ _ _ _ _ _⟩;have h1:=id1 (w-y) (z-x) (((w-y)*f)*P+(-(z-x)*f)*Q-(x*(w-y)+y*-(z-x))*f) f k P Q x y;rw[hk,Re.one_mul,Re.sub_self]at h1;exact(Gv h1).resolve_left hf
def Zox{f F F':Re}(h:(z-x)*(F'-y)-(w-y)*(F-x)=0):((w-y)*f)*F+(-(z-x)*f)*F'=(x*(w-y)+y*-(z-x))*f:=by
 have id1:∀g h f F F' x y:Re,(g*f)*F+(-h*f)*F'=(x*g+y*-h)*f-f*(h*(F'-y)-g*(F-x)):=by
  intro g h f F F' x y;obtain⟨g,rfl⟩:=g.rep;obtain⟨h,rfl⟩:=h.rep;obtain⟨f,rfl⟩:=f.rep;obtain⟨F,rfl⟩:=F.rep;obtain⟨F',rfl⟩:=F'.rep;obtain⟨x,rfl⟩:=x.rep;obtain⟨y,rfl⟩:=y.rep;simp only[Ub,Re.aO,Re.aQ,Re.aT];exact Re.id λn=>by simp only[CS.aV,CS.bf,CS.bB];grind
 rw[id1,h,J0,Re.sub_zero]
def zg4:(p-x)-(q-x)=p-q:=by
 obtain⟨p,rfl⟩:=p.rep;obtain⟨q,rfl⟩:=q.rep;obtain⟨x,rfl⟩:=x.rep;simp only[Ub,Re.aO,Re.aT];exact Re.id λn=>by simp only[CS.aV,CS.bB];grind
def Zb6{F F' K K' P P':Re}(h0:¬(x=z/\y=w))(h1:(z-x)*(F'-y)-(w-y)*(F-x)=0)(h2:(z-x)*(P-F)+(w-y)*(P'-F')=0)(h3:(z-x)*(K'-y)-(w-y)*(K-x)=0)(h4:(z-x)*(P-K)+(w-y)*(P'-K')=0):F=K/\F'=K':=by
 have hv:¬(z-x=0/\w-y=0):=λhh=>h0 ⟨(U9.1 hh.1).symm,(U9.1 hh.2).symm⟩
 rw[show P-F=(P-x)-(F-x) from zg4.symm,show P'-F'=(P'-y)-(F'-y) from zg4.symm]at h2;rw[show P-K=(P-x)-(K-x) from zg4.symm,show P'-K'=(P'-y)-(K'-y) from zg4.symm]at h4;obtain⟨e1,e2⟩:=zzd hv h1 h2 h3 h4;have c:∀{s t r:Re},s-r=t-r->s=t:=λ{s t r} h=>by
  have:=U9.2 h;rw[zg4]at this;exact U9.1 this
 exact⟨c e1,c e2⟩
def Zsp{F F' P P':Re}(N:C*C+S*S=1)(M:m*m=1)(h1:(z-x)*(F'-y)-(w-y)*(F-x)=0)(h2:(z-x)*(P-F)+(w-y)*(P'-F')=0) :
 ((I1 C S m X z w-I1 C S m X x y)*(I2 C S m Y F F'-I2 C S m Y x y)-(I2 C S m Y z w-I2 C S m Y x y)*(I1 C S m X F F'-I1 C S m X x y)=0) /\
   ((I1 C S m X z w-I1 C S m X x y)*(I1 C S m X P P'-I1 C S m X F F')+(I2 C S m Y z w-I2 C S m Y x y)*(I2 C S m Y P P'-I2 C S m Y F F')=0):=by
 simp only[Cu,Cv];refine⟨?_,by rw[Ev N M];exact h2⟩;have:=Z9m (m:=m) (a:=z-x) (b:=w-y) (c:=F-x) (d:=F'-y) N;unfold pN at this;rw[this,h1,J0]
def Zst(b:Bool):lL b*lL b=1:=by
 cases b;exact Re.one_mul _
 . show -1*-1=(1:Re);rw[Re.ct,Re.one_mul]
def Zop(b:Bool):cm (lL b)=if b then -1 else 1:=by
 have:cm (1:Re)=1:=Ws Re.one_pos;cases b;exact this
 . show cm (-1)=-1;rw[zrp,this]
end
end Den
end

section
set_option maxRecDepth 4000
namespace Den
open Go Iv Pq
section
variable {h1:Hp}{s:Nat}{l:Sl}{ps:List (Re × Re)}
def LR.lO{j:Int}{x y:Re}{K:Sl->Sl->Sl->Sl->Prop}(hl:LR vcs 4 (VP G s) h1 l ps)(hs:s<=1600000)(g:h1.le h')(i:Nat)(hj:j=i)(hp:ps[i]?=some (x,y))(H:∀V,VB G 300 h' V x y 1600000->K V.x.ae V.x.af V.y.ae V.y.af) :
 zi l j 4 λa=>aB .sl (a.add 0) (λx0=>aB .sl (a.add 1) (λx1=>aB .sl (a.add 2) (λx2=>aB .sl (a.add 3) (λx3=>K x0 x1 x2 x3) h') h') h') h':=by
 have hi:i<ps.length:=(List.getElem?_eq_some_iff.1 hp).1;have he:ps[i]=(x,y):=(List.getElem?_eq_some_iff.1 hp).2;refine(hl.le nN g).get nN i hj hi λad V hV hc=>⟨_,hc 0 _ rfl,_,hc 1 _ rfl,_,hc 2 _ rfl,_,hc 3 _ rfl,H V ?_⟩
 rw[he]at hV;exact VB.mono hV hs
def Zb5{M:aU}{Ki:Int->Hp->Prop}(H:Ki (if M.aS then -1 else 1) h):za (F.zlr M) Ki h:=by
 refine zw _ (λK' hk=>?_) H;unfold F.zlr;cases hm:M.aS with
 | true=>rw[hm]at hk;exact zk rfl hk
 | false=>rw[hm]at hk;exact zc rfl hk
def Z96{x y z w f:Re}(hf:f≠0)(h0:¬(x=z/\y=w)):((w-y)*f)*((w-y)*f)+(-(z-x)*f)*(-(z-x)*f)≠0:=Ms λhh=>h0 (by
 have e1:=(Gv hh.1).resolve_right hf;have e2:=Re.neg_eq_zero ((Gv hh.2).resolve_right hf);exact⟨(U9.1 e2).symm,(U9.1 e1).symm⟩)
def zjg{P:Tsetsquareref13_Plot}{ops:List xY}{bs:List Int}{kind:Int}(aw:∀{h0:Hp} {K:Bool->Hp->Prop},h.le h0->(∀h',h0.le h'->K true h')->za F.Dv K h0)
 (hr:Rd h 5 P.r (ops.flatMap xZ)) (iS:∀o∈ops,o.ok) (ha:AtR h P.at_ bs) (H:∀h',h.le h'->Kb true h'):F.Rl P kind Kb h:=by
 unfold F.Rl;refine Z6t hr iS ha (λl k M G ps c d x y h1 l1 hc h5 uF hm hl hk=>?_) (λl k M r h1 l1=>?_)
 . refine zj (λ_ h2=>h1.le h2) (λ_ h2 m2=>?_) (aw l1 λh2 l2=>zc rfl (zc rfl (zc rfl l2)));have l2:=Ja l1 m2;obtain⟨p0,p1,p2,p3,p4,rfl⟩:∃p0 p1 p2 p3 p4,ps=[p0,p1,p2,p3,p4]:=by
    match ps,h5 with
    | [p0,p1,p2,p3,p4],_=>exact⟨p0,p1,p2,p3,p4,rfl⟩
   obtain⟨a1,a2⟩:=p0;obtain⟨b1,b2⟩:=p1;obtain⟨c1,c2⟩:=p2;obtain⟨d1,d2⟩:=p3;obtain⟨e1,e2⟩:=p4;obtain⟨m,hmm⟩:∃m,m=lL M.aS:=⟨_,rfl⟩;have hM:m*m=1:=by rw[hmm];exact Zst _
   rw[<-hmm]at hk;have la:=λ{h'} {K:Sl->Sl->Sl->Sl->Prop} (g:h1.le h')=>hl.lO (K:=K) (j:=0) (x:=a1) (y:=a2) zD g 0 rfl rfl
   have lb:=λ{h'} {K:Sl->Sl->Sl->Sl->Prop} (g:h1.le h')=>hl.lO (K:=K) (j:=1) (x:=b1) (y:=b2) zD g 1 rfl rfl
   have lc:=λ{h'} {K:Sl->Sl->Sl->Sl->Prop} (g:h1.le h')=>hl.lO (K:=K) (j:=2) (x:=c1) (y:=c2) zD g 2 rfl rfl
   have ld:=λ{h'} {K:Sl->Sl->Sl->Sl->Prop} (g:h1.le h')=>hl.lO (K:=K) (j:=3) (x:=d1) (y:=d2) zD g 3 rfl rfl
   have le:=λ{h'} {K:Sl->Sl->Sl->Sl->Prop} (g:h1.le h')=>hl.lO (K:=K) (j:=4) (x:=e1) (y:=e2) zD g 4 rfl rfl
   have ka:=λ{h'} {K:Sl->Sl->Sl->Sl->Prop} (g:h1.le h')=>hk.lO (K:=K) (j:=0) (x:=I1 c d m x a1 a2) (y:=I2 c d m y a1 a2) zD g 0 rfl rfl
   have kb:=λ{h'} {K:Sl->Sl->Sl->Sl->Prop} (g:h1.le h')=>hk.lO (K:=K) (j:=1) (x:=I1 c d m x b1 b2) (y:=I2 c d m y b1 b2) zD g 1 rfl rfl
   have kc:=λ{h'} {K:Sl->Sl->Sl->Sl->Prop} (g:h1.le h')=>hk.lO (K:=K) (j:=2) (x:=I1 c d m x c1 c2) (y:=I2 c d m y c1 c2) zD g 2 rfl rfl
   have kd:=λ{h'} {K:Sl->Sl->Sl->Sl->Prop} (g:h1.le h')=>hk.lO (K:=K) (j:=3) (x:=I1 c d m x d1 d2) (y:=I2 c d m y d1 d2) zD g 3 rfl rfl
   have ke:=λ{h'} {K:Sl->Sl->Sl->Sl->Prop} (g:h1.le h')=>hk.lO (K:=K) (j:=4) (x:=I1 c d m x e1 e2) (y:=I2 c d m y e1 e2) zD g 4 rfl rfl
   have apply:∀{h':Hp} {V:aF} {u v:Re} {t:Nat} {KV:aF×Int->Hp->Prop},h1.le h'->VB G 300 h' V u v t->4*(290000+t)+2*990000+(500*300+70)<=300000000000 ->
    (∀Z kP,h'.le kP->VB G 300 kP Z (I1 c d m x u v) (I2 c d m y u v) (290000+t+(290000+t)+1+990000+1)->KV (Z,0) kP)->za (F.GD M V) KV h':=λg hv aD hK=>
    zou hc (hm.le g) hv aD λZ kP hl hZ=>hK Z kP hl (by rw[<-hmm]at hZ;exact hZ)
   refine la m2 λA hA=>lb m2 λB hB=>?_
   refine Eh hc hA hB zD λZ8 h3 n3 z8=>?_
   have m3:=Ja m2 n3;refine ka m3 λA' YF=>kb m3 λB' B6=>?_
   refine Eh hc YF B6 zD λZ13 h4 n4 xz=>?_
   have m4:=Ja m3 n4;refine zfn hc (z8.le n4) zD λZ14 h5 n5 qM=>?_
   have m5:=Ja m4 n5;refine zfn hc (xz.le n5) zD λZ15 h6 n6 B3=>?_
   have m6:=Ja m5 n6;rw[Zyp uF hM]at B3;refine zj (λ_ h7=>h1.le h7) (λ_ h7 m7=>?_) ?_
   . refine la m7 λA hA=>lb m7 λB hB=>lc m7 λC hC=>?_
     refine zfx hc hA hB hC zD λh8 n8=>?_
     have m8:=Ja m7 n8;refine ka m8 λA hA=>kb m8 λB hB=>kc m8 λC hC=>?_
     refine zfx hc hA hB hC zD λh9 n9=>?_
     have m9:=Ja m8 n9;have JR:cm (vr (I1 c d m x a1 a2) (I2 c d m y a1 a2) (I1 c d m x b1 b2) (I2 c d m y b1 b2) (I1 c d m x c1 c2) (I2 c d m y c1 c2))=cm (vr a1 a2 b1 b2 c1 c2)*(if M.aS then -1 else 1):=by
      rw[Zqv uF,XE,hmm,Zop,Int.mul_comm]
     refine zj (λ_ aZ=>h1.le aZ) (λ_ aZ oJ=>?_) ?_
     . refine zj (λ_ bV=>h1.le bV) (λ_ bV se=>?_) ?_
       . refine la se λA hA=>lb se λB hB=>?_
         refine zlh hc hA hB zD (by rw[Yu];decide) (λcu tR _=>zk rfl (H _ (Ja l1 (Ja se tR)))) λcu tR cd=>zc rfl ?_
         have Ak:=Ja se tR;refine la Ak λA hA=>lb Ak λB hB=>?_
         refine zir hc hA hB cd λL f cO Ek hf hL=>?_
         have MG:=Ja Ak Ek;refine ka MG λA hA=>kb MG λB hB=>?_
         have IH:¬(I1 c d m x a1 a2=I1 c d m x b1 b2/\I2 c d m y a1 a2=I2 c d m y b1 b2):=λhh=>cd ((Zj9 uF hM).1 hh)
         refine zir hc hA hB IH λL' f' eG El dk hL'=>?_
         have A2:=Ja MG El;refine le A2 λE hE=>?_
         have ln:=Z96 hf cd;have ln':=Z96 dk IH;refine zt4 hc (hL.le El) hE ln λZ53 gh Cp z53=>?_
         have ZF:=Ja A2 Cp;obtain⟨f1,f2⟩:=zqc (x:=a1) (y:=a2) (z:=b1) (w:=b2) (P:=e1) (Q:=e2) hf (Re.bI ln);obtain⟨g1,g2⟩:=zqc (x:=I1 c d m x a1 a2) (y:=I2 c d m y a1 a2) (z:=I1 c d m x b1 b2) (w:=I2 c d m y b1 b2) (P:=I1 c d m x e1 e2) (Q:=I2 c d m y e1 e2) dk (Re.bI ln');obtain⟨i1,i2⟩:=Zsp (X:=x) (Y:=y) uF hM f1 f2;refine apply ZF z53 zD λZ54 gi mv z54=>?_
         have AU:=Ja ZF mv;refine ke AU λE' hE'=>?_
         refine zt4 hc (hL'.le (Ja Cp mv)) hE' ln' λZ57 dF Em z57=>?_
         have Al:=Ja AU Em;obtain⟨q1,q2⟩:=Zb6 IH i1 i2 g1 g2;rw[<-q1,<-q2]at z57;have z54:=(z54.le Em).mono (u:=26500000000) zD;refine zk rfl (zk rfl (zk rfl (zk rfl (zk rfl ?_))));refine zli hc z54 z57 zD λfN qO=>zk rfl ?_
         refine Zo0 hc (hL'.le (Ja Cp (Ja mv (Ja Em qO)))) (z54.le qO) λr iV n19 hr=>?_
         have hon:=hr.2 (Zox i1);rw[hon];exact H _ (Ja l1 (Ja Al (Ja qO n19)))
       . refine oB (λcd=>?_) (λ_=>oJ);have ug:pN (b1-a1) (b2-a2) (c1-a1) (c2-a2)≠0:=λhh=>cd (by rw[zwk,hh];exact xk)
         have WA:m≠0:=λhh=>by
          rw[hh,J0]at hM;exact Re.nu hM.symm
         have abJ:pN (I1 c d m x b1 b2-I1 c d m x a1 a2) (I2 c d m y b1 b2-I2 c d m y a1 a2) (I1 c d m x c1 c2-I1 c d m x a1 a2) (I2 c d m y c1 c2-I2 c d m y a1 a2)≠0:=by
          simp only[Cu,Cv];rw[Z9m uF];exact λhh=>(Gv hh).elim WA ug
         refine la oJ λA hA=>lb oJ λB hB=>lc oJ λC hC=>?_
         refine zin hc hA hB hC ug λQ gX tl hQ=>?_
         have m20:=Ja oJ tl;refine ka m20 λA hA=>kb m20 λB hB=>kc m20 λC hC=>?_
         refine zin hc hA hB hC abJ λQ' me ZM Ao=>?_
         have m21:=Ja m20 ZM;simp only[Cu,Cv]at Ao;obtain⟨t1,t2⟩:=Zyo (p:=b1-a1) (u:=b2-a2) (q:=c1-a1) (v:=c2-a2) uF hM ug;rw[t1,t2]at Ao;generalize ctx (b1-a1) (b2-a2) (c1-a1) (c2-a2)=u at hQ Ao;generalize sd (b1-a1) (b2-a2) (c1-a1) (c2-a2)=v at hQ Ao;rw[Ev uF hM,<-Zsm,<-Zsn]at Ao;have hQ:=hQ.le ZM;refine ld m21 λD hD=>?_
         refine zt7 hc hQ hD λu6 vw=>?_
         have m22:=Ja m21 vw;refine kd m22 λD' wZ=>?_
         refine zt7 hc (Ao.le vw) wZ λA9 Iw=>?_
         have Cq:=Ja m22 Iw;rw[Zyp uF hM];have hQ:=hQ.le (Ja vw Iw);have Ao:=Ao.le (Ja vw Iw);refine apply Cq hQ.1 zD λZ80 js En z80=>?_
         have m24:=Ja Cq En;refine zc rfl (zc rfl (zc rfl (zc rfl (zc rfl (oB (λhh=>absurd rfl hh) λ_=>?_)))));refine zli hc z80 (Ao.1.le En) zD λu7 MP=>zc rfl ?_
         refine MR hc (hQ.2.le (Ja En MP)) (Ao.2.le (Ja En MP)) zD λBj n26=>zc rfl ?_
         exact Ja m24 (Ja MP n26)
     . refine zc rfl (zc rfl (Zb5 (oB (λhh=>absurd ?_ hh) λ_=>m9)));rw[JR];have hb:=XD (vr a1 a2 b1 b2 c1 c2);refine(aM ?_).symm;cases M.aS<;>simp<;>omega
   . refine zc rfl (zc rfl (zc rfl (zc rfl ?_)));refine MR hc (qM.le n6) B3 zD λpY n28=>zc rfl ?_
     have II:=Ja m6 n28;refine la II λA hA=>lb II λB hB=>lc II λC hC=>ka II λA' YF=>kb II λB' B6=>kc II λC' hC'=>?_
     refine zkd hc hA hB hC zD λr97 Rb n29 e97=>?_
     refine zkd hc (YF.le n29) (B6.le n29) (hC'.le n29) zD λr98 Bf n30 e98=>?_
     rw[Zyn uF hM]at e98;have:r97=r98:=Bool.eq_iff_iff.2 (e97.trans e98.symm);subst this;exact zc zS (Ja II (Ja n29 n30))
 refine zj (λ_ _=>False) (λ_ _ hj=>hj.elim) (aw l1 λh2 l2=>zc rfl (zk rfl (aw (Ja l1 l2) λh3 l3=>zk rfl (zk rfl (H _ (Ja l1 (Ja l2 l3)))))))
end
end Den
end

noncomputable section
namespace Den
open Go Iv Pq
def FQ(x:Re):Prop:=∃q,x=Jn q
def U2:zV:=[[2]]
def s2:Re:=(Jn 2).sqrt
def Zow(q:Rat):q*q≠2:=λh=>by
 have h1:=(Wo h).1;have h2:q.num*q.num=2:=h1.symm;have h3:q.num.natAbs*q.num.natAbs=2:=by rw[<-Int.natAbs_mul,h2];rfl
 rcases Jx q.num.natAbs 2 with h4 | h4
 . have:q.num.natAbs=0\/q.num.natAbs=1:=zO;rcases this with h5 | h5<;>rw[h5]at h3<;>omega
 . have:=Gt h4 h4;omega
def zlt:(0:Re)<Jn 2:=(Re.of_lt 0 2).2 zD
def Zjv:¬Sq [] (Jn 2):=by
 rintro⟨w,⟨a,ha,rfl⟩,h⟩
 match a,ha with
 | [q],_=>
   have h':Jn q*Jn q=Jn 2:=h;rw[<-G4]at h';exact Zow q (Re.dh h')
def Zkm:RT U2:=RT.extend (T:=[]) (a:=[2]) trivial rfl zlt Zjv
def Zyh:∃G:Re->Prop,Ctx G 300 1/\(∀x,FQ x->G x)/\G s2:=by
 obtain⟨F,h1,h2,h3⟩:=eV.rat.root (α:=Jn 2) ⟨2,rfl⟩ zlt;exact⟨F,⟨h1,zD,zD⟩,h2,h3⟩
section
variable {B s:Nat}{b l w:Sl}{q:List Rat}{T U:zV}
def NB.IJ(hx:NB FQ S h X x s)(hS:S<=100000):NJ G S [] h X (x,s):=by
 obtain⟨B,T,h1,h2,h3⟩:=hx;have:=TF.i9 eV.rat h1.red h2;obtain rfl:T=[]:=U3 zO;exact⟨h1.canon hS,trivial,h3⟩
def Z72(hc:Ctx G 300 1)(hg:G s2)(hx:NJ G 300 [] h X (Jn 2,2))(H:∀Z h',h.le h'->NJ G 300 U2 h' Z (s2,300)->KE (Z,0) h'):za (F.Dd X) KE h:=by
 refine Y0 _ (λK' hk=>?_) H;unfold F.Dd;refine zeh hc hx.1 hx.2.1 hx.2.2 (Re.le_of_lt zlt) hg zD λT' t' z h' hl a1 a2 a3 a4=>zc rfl ?_
 have e:T'=U2:=by
  rcases a1 with ⟨a1,_⟩ | ⟨_,p,rfl,lp,vp⟩
  exact absurd a1 Zjv
  . match p,lp with
    | [q],_=>
      have:q=2:=Re.dh vp;rw[this];rfl
 subst e;exact hk ⟨t',z⟩ _ hl ⟨a2,a3,a4⟩
variable {bs:List ((Re × Nat) × zV)}
def zsp{KE:Sl×Int->Hp->Prop}(hc:Ctx G S N)(hl:LR dN 2 (NX G S) h l bs)(hlen:bs.length<=1000)(hU:∀b∈bs,b.2=[]\/b.2=U)
 (H:∀t T h',h.le h'->TW h' (S+CO S) S t T->TF G T->(T=[]\/T=U)->(∀b∈bs,∃Y,T=Y++b.2)->KE (t,0) h'):za (F.KY l) KE h:=by
 refine Y0 (λz h'=>∃T,TW h' (S+CO S) S z T/\TF G T/\(T=[]\/T=U)/\∀b∈bs,∃Y,T=Y++b.2) (λK' hk=>?_) λz h' hl ⟨T,k1,k2,k3,k4⟩=>H z T h' hl k1 k2 k3 k4
 unfold F.KY;have hS:=hc.small;rw[hl.len Ve];refine ur (n:=bs.length) zO (λi t h'=>h.le h'/\∃T,TW h' (S+CO S) S t T/\TF G T/\(T=[]\/T=U)/\∀b∈bs.take i,∃Y,T=Y++b.2) ⟨Jf _,[],zy0 rfl (by unfold CO;omega),trivial,.inl rfl,λb hb=>by simp at hb⟩ ?_;rintro i t h2 hi ⟨hle,T,tw,tf,hT,cr⟩ k ck;refine zg (λh3=>?_) (λh3=>?_)
 . have aA:i<bs.length:=by have:(i:Int)<(bs.length:Int):=h3;omega
   refine zj (λst h'=>h.le h'/\∃T,TW h' (S+CO S) S st.1 T/\TF G T/\(T=[]\/T=U)/\∀b∈bs.take (i+1),∃Y,T=Y++b.2) (λst h' hj=>ck _ _ aA hj) ?_;refine(hl.le Ve hle).get Ve i rfl aA λad X hX bp=>⟨X.ae,bp 0 _ rfl,X.af,bp 1 _ rfl,?_⟩
   obtain⟨xw,xf,xe⟩:=hX;have hb:=hU _ (Jy aA);refine Eb tw xw (λY h4 l4 hY=>zk rfl ⟨Ja hle l4,T,tw.le l4,tf,hT,λb hb=>?_⟩) (λh4 l4 cW=>zc rfl ?_)
   . rw[Jc aA,Ul,Uz]at hb;rcases hb with hb | rfl
     exact cr b hb;exact⟨Y,hY⟩
   . have jS:T=[]:=by
      rcases hT with rfl | rfl
      rfl
      . rcases hb with e | e
        exact absurd ⟨_,by rw[e,Tm]⟩ cW;exact absurd ⟨[],by rw[e];rfl⟩ cW
     subst jS;refine Eb (xw.le l4) (tw.le l4) (λY h5 l5 hY=>zk rfl ⟨Ja hle (Ja l4 l5),_,xw.le (Ja l4 l5),xf,hb,λb hb=>?_⟩) (λh5 l5 m0=>absurd ⟨_,(Tm _).symm⟩ m0);rw[Jc aA,Ul,Uz]at hb;rcases hb with hb | rfl
     . obtain⟨Y2,Mz⟩:=cr b hb;have:b.2=[]:=by
        cases Y2 with
        | nil=>exact Mz.symm
        | cons a r=>simp at Mz
       rw[this];exact⟨_,(Tm _).symm⟩
     exact⟨[],rfl⟩
 . have:i=bs.length:=by have:¬(i:Int)<(bs.length:Int):=h3;omega
   subst this;rw[J5]at cr;exact hk _ _ hle ⟨T,tw,tf,hT,cr⟩
def znn{KE:Sl×Int->Hp->Prop}(hc:Ctx G S N)(hl:LR dN 2 (NX G S) h l bs)(hlen:bs.length<=1000)(dO:∀b∈bs,2*b.1.2+(430*S+60)<=300000000000)(hU:∀b∈bs,b.2=[]\/b.2=U)
 (H:∀r T h',h.le h'->(T=[]\/T=U)->(∀b∈bs,∃Y,T=Y++b.2)->LR dN 2 (NJ G S T) h' r (bs.map (·.1))->KE (r,0) h'):za (F.V2 l) KE h:=by
 refine Y0 (λz h'=>∃T,(T=[]\/T=U)/\(∀b∈bs,∃Y,T=Y++b.2)/\LR dN 2 (NJ G S T) h' z (bs.map (·.1))) (λK' hk=>?_) λz h' hl ⟨T,k1,k2,k3⟩=>H z T h' hl k1 k2 k3
 unfold F.V2;have hS:=hc.small;have gu:CO S=64*S+5:=rfl;refine zsp hc hl hlen hU λt T h1 l1 tw tf hT cr=>zc rfl ?_
 have aP:=hl.le Ve l1;rw[hl.len Ve];refine ur (n:=bs.length) zO (λi w h'=>∃D,h1.le D/\LO dN 2 (NJ G S T) D h' w ((bs.map (·.1)).take i)) ⟨h1,Jf _,by simpa using LO.nil⟩ ?_;rintro i w h2 hi ⟨D,hD,ho⟩ k ck;refine zg (λh3=>?_) (λh3=>?_)
 . have aA:i<bs.length:=by have:(i:Int)<(bs.length:Int):=h3;omega
   refine(aP.le Ve hD).xS Ve ho.dT i rfl aA λad X hX bp=>⟨X.ae,bp 0 _ rfl,X.af,bp 1 _ rfl,?_⟩
   obtain⟨xw,xf,xe⟩:=hX;have hz:=dO _ (Jy aA);have dz:=cr _ (Jy aA);have hn:=tw.high;have eO:=ja hn;obtain⟨J,hJ⟩:∃J:(Sl×Sl×Unit)×Unit->Hp->Prop,∀s' h',J s' h'↔∃D',h1.le D'/\LO dN 2 (NJ G S T) D' h' w ((bs.map (·.1)).take i)/\TW D' (S+CO S) S s'.1.1 T/\∃p,PL D' (bs[i].1.2+CO S) s'.1.2.1 p/\p.length=2 ^ T.length/\tv T p=bs[i].1.1/\Sz bs[i].1.1 bs[i].1.2:=⟨_,λ_ _=>Iff.rfl⟩;refine zj J (λst h' hj=>?_) ?_
   . obtain⟨D',q1,q2,q3,p,q4,q5,q6,q7⟩:=(hJ st h').1 hj;refine q2.call mu (K1:=λY D2=>NJ G S T D2 Y bs[i].1) (zg3 (X:=⟨st.1.1,st.1.2.1⟩) q3 q4 (by rw[q5];omega) zO λY h8 l8 y1 y2=>⟨y1,tf,p,y2,q5,q6,q7⟩) λY D2 h9 d9 q9 hY=>?_
     refine q9.app mu (bytes:=48) (zero:=[zN,zN]) (x:=Y) (b:=bs[i].1) rfl (by rw[Jk];omega) (by rw[Jk];omega) hY λy aZ hy=>ck _ _ aA ⟨D2,Ja q1 d9,?_⟩
     rw[Jc (by simpa using aA),List.getElem_map];exact hy
   . refine ho.call mu (K1:=λb D'=>D.le D'/\b=true) (Eb (tw.le hD) xw (λY h' hl hY=>⟨hl,rfl⟩) λh' hl cW=>absurd dz cW) λb D2 h4 d2 dA hb=>?_
     obtain⟨_,rfl⟩:=hb;obtain⟨p,hp,lp,vp,sp⟩:=xe;obtain⟨Y,hY⟩:=dz;refine zk rfl ?_;have hle:p.length<=2 ^ T.length:=by
      rw[lp,hY];exact Nat.pow_le_pow_right zD zS
     refine dA.call mu (K1:=λz D'=>PL D' (bs[i].1.2+CO S) z (kL (2 ^ T.length) p)) (zqx tw.len zO (hp.le d2) zO hle λz h' o=>o.pl) λz D3 h5 d3 eX hz=>?_
     refine(hJ _ _).2 ⟨D3,Ja hD (Ja d2 d3),eX,tw.le (Ja hD (Ja d2 d3)),_,hz,Ml hle,?_,sp⟩;rw[hY,XF lp,vp]
 . have:i=bs.length:=by have:¬(i:Int)<(bs.length:Int):=h3;omega
   subst this;rw[Je zS]at ho;exact hk _ _ (Ja l1 (Ja hD ho.dT)) ⟨T,hT,cr,ho.lr mu⟩
def Z5p(hc:Ctx G S N)(hx:NJ G S U h X (x,s))(hy:NJ G S [] h Y (y,u))(aD:2*(s+u)+(500*S+60)<=300000000000)(H:∀Z h',h.le h'->NJ G S U h' Z (x*y,s+u)->KE (Z,0) h'):za (F.Xb X Y) KE h:=by
 refine Y0 _ (λK' hk=>?_) H;unfold F.Xb;refine Y0 (λz h'=>NJ G S U h' z (x*y,s+u)) (λK2 aG=>?_) λz h' hl hz=>hk _ _ hl hz
 unfold F.Xm;refine Ip (T1:=U) (T2:=[]) hx hy λA h1 l1 hl=>?_
 refine znn (U:=U) hc hl zS (λb hb=>by simp at hb;rcases hb with rfl | rfl<;>(simp only;omega)) (λb hb=>by simp at hb;rcases hb with rfl | rfl<;>simp) λr T h2 l2 hT cr hr=>zc rfl ?_
 obtain rfl:T=U:=by
  rcases hT with rfl | rfl
  . obtain⟨Y,hY⟩:=cr ((x,s),U) zS;cases Y with
    | nil=>exact hY
    | cons a r=>simp at hY
  rfl
 obtain⟨P,Q,eh,hP,hQ⟩:=MC hr;refine pM eh 0 0 P.ae rfl zD zD rfl (pM eh 0 1 P.af rfl zD zD rfl (pM eh 1 1 Q.af rfl zD zD rfl ?_));refine Af hP.1 hP.2.2 hQ.2.2 (by simp only;omega) λz h3 e3=>aG ⟨_,z⟩ _ (Ja l1 (Ja l2 e3.hle)) ⟨hP.1.le e3.hle,hP.2.1,e3.ev⟩
def Z5o(hc:Ctx G S N)(hx:NJ G S U h X (x,s))(hy:NJ G S [] h Y (y,u))(aD:2*(s+u)+(500*S+60)<=300000000000)(hs:Sz (x+y) k)(H:∀Z h',h.le h'->NJ G S U h' Z (x+y,k)->KE (Z,0) h'):za (F.Vc X Y) KE h:=by
 refine Y0 _ (λK' hk=>?_) H;unfold F.Vc;refine Y0 (λz h'=>NJ G S U h' z (x+y,k)) (λK2 aG=>?_) λz h' hl hz=>hk _ _ hl hz
 unfold F.Xl;refine Ip (T1:=U) (T2:=[]) hx hy λA h1 l1 hl=>?_
 refine znn (U:=U) hc hl zS (λb hb=>by simp at hb;rcases hb with rfl | rfl<;>(simp only;omega)) (λb hb=>by simp at hb;rcases hb with rfl | rfl<;>simp) λr T h2 l2 hT cr hr=>zc rfl ?_
 obtain rfl:T=U:=by
  rcases hT with rfl | rfl
  . obtain⟨Y,hY⟩:=cr ((x,s),U) zS;cases Y with
    | nil=>exact hY
    | cons a r=>simp at hY
  rfl
 obtain⟨P,Q,eh,hP,hQ⟩:=MC hr;refine pM eh 0 0 P.ae rfl zD zD rfl (pM eh 0 1 P.af rfl zD zD rfl (pM eh 1 1 Q.af rfl zD zD rfl ?_));refine XP hP.1 hP.2.2 hQ.2.2 (by simp only;omega) hs λz h3 e3=>aG ⟨_,z⟩ _ (Ja l1 (Ja l2 e3.hle)) ⟨hP.1.le e3.hle,hP.2.1,e3.ev⟩
end
end Den
end

section
namespace Den
open Go Iv Pq
section
variable {B s:Nat}{b l w:Sl}{q:List Rat}{T:zV}{X:aC}{KV:zY aH}{V:aH}
def zmd{es:List Sl}(hl:Rd h 1 l (es.map bO))(ht:TW h B S t T)(he:∀e∈es,∃x,EV h S T x s e)(hlen:es.length<=1000)(hs:s+15000*S+20000<=300000000000)(H:∀h',h.le h'->Kb true h'):za (F.Dp t l) Kb h:=by
 refine zb (λv h'=>v=true) (λK2 aG=>?_) λv h2 l2 e=>by
  rw[e];exact H h2 l2
 unfold F.Dp;have fA:=ht.bound;have hn:=ht.high;have ll:l.len=es.length:=by have:=hl.1;simp at this;omega
 rw[ll];refine Y8 (n:=es.length) zO (λi h'=>h.le h') (Jf _) ?_;rintro i h2 hi hle k ck;refine zg (λh5=>?_) (λh5=>?_)
 . have aA:i<es.length:=by have:(i:Int)<(es.length:Int):=h5;omega
   obtain⟨x,p,hp,lp,_,_⟩:=he _ (Jy aA);refine rn i (hl.le hle) rfl (v:=bO es[i]) (by rw[Gr,Jp aA];rfl) λad hc=>⟨es[i],hc,?_⟩
   refine Vv (ht.le hle).mem ht.red zO zO (hp.le hle) lp (by unfold CO;omega) λh3 l3=>zc rfl (ck _ zO (Ja hle l3))
 exact zt6 (ht.le hle) zO λh3 l3=>aG _ _ (Ja hle l3) rfl
def zi9(ht:TW h B S t T)(ha:EV h S T x s a)(hb:EV h S T y s b)(aD:QS S (s+s+1)*32+15000*S+20000<=300000000000)(H:∀h',h.le h'->Ki (cm (x-y)) h'):za (F.K6 t a b) Ki h:=by
 refine zb (λz h'=>z=cm (x-y)) (λK' hk=>?_) λz h' hl e=>by rw[e];exact H h' hl
 unfold F.K6;have hq:=Yu S (s+s+1);refine Qv (n:=2) (size:=1) (cells:=[.slice a.a a.len a.cap,.slice b.a b.len b.cap]) rfl λbb h1 _ ho=>?_
 have l1:=ho.1;refine zmd (es:=[a,b]) (s:=s) ho.rd (ht.le l1) (λe he=>(List.mem_cons.1 he).elim (λe=>e▸⟨_,ha.le l1⟩) λhe=>Uz.1 he▸⟨_,hb.le l1⟩) zS zO λh2 l2=>zc rfl ?_
 have bS:=Ja l1 l2;refine XQ (ht.le bS) (ha.le bS) (hb.le bS) zO (ha.sz.sub hb.sz) λz h3 e3=>?_
 exact zfo (ht.le (Ja bS e3.hle)) e3.ev zO λh4 l4=>hk _ _ (Ja bS (Ja e3.hle l4)) rfl
def z93{n:Nat}(hn:n<=1000)(H:∀z h',h.le h'->NI h' z ((2 ^ n:Nat):Int)->KI z h'):za (F.GG (n:Int)) KI h:=zzm zO H
def yA{n:Int}(h:Lt 20 n):Ok n:=h.ok zD
def zgd(hx:NR h X 2)(H:∀z h',h.le h'->NR h' z (Jw 185363 131072)->KR z h'):za (F.QZ X 17) KR h:=by
 refine zb _ (λK' hk=>?_) H;unfold F.QZ;refine z93 (n:=34) zD λy1 h1 l1 n1=>?_
 refine Xq (m:=2) (n:=17179869184) (hx.1.le l1) n1 (yA (by unfold Lt W;decide +kernel)) (yA (by unfold Lt W;decide +kernel)) λy2 h2 l2 n2=>?_
 have bS:=Ja l1 l2;refine Hl (m:=34359738368) (n:=1) n2 (hx.2.le bS) (yA (by unfold Lt W;decide +kernel)) (yA (by unfold Lt W;decide +kernel)) zD λy3 w3 h3 q r l3 n3 _ dm=>?_
 have e:q=((34359738368:Nat):Int):=(dm.div zD (.inl zD)).trans zD;subst e;have ok3:(dg 34359738368).length<=1000000000000:=Nat.le_trans (yj.2 (show 34359738368<W ^ 20 by unfold W;decide +kernel)) zD;refine zt8 n3 ok3 λy4 h4 s l4 n4 hs=>?_
 obtain rfl:s=185363:=by
  obtain⟨g1,g2⟩:=hs;have a1:¬185364<=s:=λhh=>by have:=Gt hh hh;omega
  have a2:¬s+1<=185363:=λhh=>by have:=Gt hh hh;omega
  omega
 refine z93 (n:=17) zD λy5 h5 l5 n5=>?_
 refine Hs (k:=20) (m:=185363) (n:=131072) (n4.le l5) n5 (by unfold Lt W;decide +kernel) (by unfold Lt W;decide +kernel) zD zD λy6 h6 l6 n6=>?_
 exact hk _ _ (Ja bS (Ja l3 (Ja l4 (Ja l5 l6)))) n6
def Z6e(hv:NV h V 2 2)(H:∀z h',h.le h'->NV h' z (Jw 185363 131072) (Jw 46341 32768)->KV z h'):za (F.zfd V 17) KV h:=by
 refine zb _ (λK' hk=>?_) H;unfold F.zfd;have b2:BR 20 (2:Rat):=⟨by unfold Lt W;decide +kernel,by unfold Lt W;decide +kernel⟩;refine zj (λst h'=>h.le h'/\NR h' ⟨⟨st.1.1,st.1.2.1⟩,⟨st.1.2.2.1,st.1.2.2.2.1⟩⟩ 2) (λst h1 ⟨l1,n0⟩=>?_) ?_
 . refine Qq (n:=1) zD zD λy2 h2 l2 n2=>?_
   refine z93 (n:=17) zD λy3 h3 l3 n3=>?_
   refine Hs (k:=20) (m:=1) (n:=131072) (n2.le l3) n3 (by unfold Lt W;decide +kernel) (by unfold Lt W;decide +kernel) zD zD λy4 h4 l4 n4=>?_
   have Aj:=Ja l2 (Ja l3 l4);refine zgd (n0.le Aj) λy5 h5 l5 n5=>?_
   have fE:=Ja l1 (Ja Aj l5);refine zgd (hv.2.le fE) λy6 h6 l6 n6=>?_
   refine zX (k:=20) (j:=20) n6 (n4.le (Ja l5 l6)) ⟨by unfold Lt W;decide +kernel,by unfold Lt W;decide +kernel⟩ ⟨by unfold Lt W;decide +kernel,by unfold Lt W;decide +kernel⟩ zD zD λy7 h7 l7 n7=>?_
   have e:Jw 185363 131072+Jw 1 131072=Jw 46341 32768:=by decide +kernel
   rw[e]at n7;exact hk _ _ (Ja fE (Ja l6 l7)) ⟨n5.le (Ja l6 l7),n7⟩
 refine zU hv.1 b2 zD (zc rfl ⟨Jf _,hv.1⟩)
def zrm{m:Int}(hx:NR h X v)(hv:BR 20 v)(hm:v.num*131072/(v.den:Int)=m)(h1:Lt 20 (v.num*131072))(h2:Lt 20 m)(H:∀z h',h.le h'->NR h' z (Jw m 131072)->KR z h'):za (F.Ra X 17) KR h:=by
 refine zb _ (λK' hk=>?_) H;unfold F.Ra;refine z93 (n:=17) zD λy1 h1 l1 n1=>?_
 refine Xq (n:=131072) (hx.1.le l1) n1 (yA hv.1) (yA (by unfold Lt W;decide +kernel)) λy2 h2 l2 n2=>?_
 have bS:=Ja l1 l2;have hd:(v.den:Int)≠0:=by have:=v.den_pos;omega
 refine Hl n2 (hx.2.le bS) (yA (by assumption)) (yA hv.2) hd λy3 w3 h3 q r l3 n3 _ dm=>?_
 have e:q=m:=(dm.div hd (.inl (by have:=v.den_pos;omega))).trans hm;subst e;refine Hs (k:=20) (n:=131072) n3 (n1.le (Ja l2 l3)) (by assumption) (by unfold Lt W;decide +kernel) zD zD λy6 h6 l6 n6=>?_
 exact hk _ _ (Ja bS (Ja l3 l6)) n6
def Z1k(hv:NV h V (Jw 18601836 131072) (Jw 18601936 131072))(H:∀z h',h.le h'->NV h' z (Jw 18601836 131072) (Jw 18601936 131072)->KV z h'):za (F.zfe V 17) KV h:=by
 refine zb _ (λK' hk=>?_) H;unfold F.zfe;refine zrm (m:=18601836) hv.1 ⟨by unfold Lt W;decide +kernel,by unfold Lt W;decide +kernel⟩ (by decide +kernel) (by unfold Lt W;decide +kernel) (by unfold Lt W;decide +kernel) λy1 h1 l1 n1=>?_
 refine zb (λz h'=>NR h' z (Jw 18601936 131072)) (λK2 aG=>?_) λy2 h2 l2 n2=>hk _ _ (Ja l1 l2) ⟨n1.le l2,n2⟩
 unfold F.zx6;refine LV (k:=20) (hv.2.le l1) ⟨by unfold Lt W;decide +kernel,by unfold Lt W;decide +kernel⟩ zD λy2 h2 l2 n2=>?_
 refine zrm (m:=-18601936) n2 ⟨by unfold Lt W;decide +kernel,by unfold Lt W;decide +kernel⟩ (by decide +kernel) (by unfold Lt W;decide +kernel) (by unfold Lt W;decide +kernel) λy3 h3 l3 n3=>?_
 refine LV (k:=20) n3 ⟨by unfold Lt W;decide +kernel,by unfold Lt W;decide +kernel⟩ zD λy4 h4 l4 n4=>?_
 have e:-Jw (-18601936) 131072=Jw 18601936 131072:=by decide +kernel
 rw[e]at n4;exact aG _ _ (Ja l2 (Ja l3 l4)) n4
def zmb(ht:t.len=0)(ha:PL h A a [v])(hv:BR 20 v)(H:∀z h',h.le h'->NV h' z v v->KV z h'):za (F.Qp (n+1) t a 17) KV h:=by
 refine zb _ (λK' hk=>?_) H;unfold F.Qp;rw[ht];refine zk rfl (ha.get 0 rfl zS λy hy qI=>?_);exact zzh hy hv zD λz h1 l1 hz=>hk _ _ l1 hz
def zvz(ht:TW h B 300 t U2)(ha:PL h A a [1/2,100])(hA:A<=1000000000000)(H:∀z h',h.le h'->NV h' z (Jw 18601836 131072) (Jw 18601936 131072)->KV z h'):za (F.zfc t a 17) KV h:=by
 refine zb (λz h'=>NV h' z (Jw 18601836 131072) (Jw 18601936 131072)) (λK' hk=>⟨2,?_⟩) H;unfold F.Qp;have hl:a.len=2:=ha.len;have hc:=ha.cap;refine zc (by rw[ht.len];rfl) ⟨zD,TW.kz (r:=[2]) (T:=[]) ht λtw=>?_⟩;rw[hl];have p0:=ha.part (lo:=0) (hi:=1) zD zD;have p1:=ha.part (lo:=1) (hi:=2) zD zD;refine Xg 0 1 rfl rfl zD zO ?_;refine zmb (n:=0) tw.len p0 (v:=1/2) ⟨by unfold Lt W;decide +kernel,by unfold Lt W;decide +kernel⟩ λr6 h2 l2 n6=>?_
 refine Xg 1 2 rfl rfl zD zO ?_;refine Mm (p1.le l2) zD hA (zc (by decide +kernel) ?_);refine Xg 1 2 rfl rfl zD zO ?_;refine TW.mm (r:=[2]) (T:=[]) (ht.le l2) λr' er=>?_
 obtain⟨p,hp,lp,vp,_⟩:=er;obtain rfl:p=[2]:=by
  match p,lp with
  | [q],_=>rw[Re.dh (show Jn q=Jn 2 from vp)]
 have b2:BR 20 (2:Rat):=⟨by unfold Lt W;decide +kernel,by unfold Lt W;decide +kernel⟩;have Zd3:BR 20 (100:Rat):=⟨by unfold Lt W;decide +kernel,by unfold Lt W;decide +kernel⟩;have bl:BR 20 (Jw 185363 131072):=⟨by unfold Lt W;decide +kernel,by unfold Lt W;decide +kernel⟩;have bh:BR 20 (Jw 46341 32768):=⟨by unfold Lt W;decide +kernel,by unfold Lt W;decide +kernel⟩;have bh2:BR 20 (1/2:Rat):=⟨by unfold Lt W;decide +kernel,by unfold Lt W;decide +kernel⟩;refine zmb (n:=0) tw.len (p1.le l2) (v:=100) Zd3 λbZ h4 l4 tR=>?_
 refine zmb (n:=0) tw.len (hp.le l4) (v:=2) b2 λcN h5 l5 Ek=>?_
 refine Z6e Ek λdR h6 l6 El=>?_
 have IK:=Ja l5 l6;refine Zbd (j:=20) (k:=20) ⟨tR.1.le IK,tR.2.le IK⟩ El Zd3 Zd3 bl bh zD zD λcA h7 l7 Cp=>?_
 have e1:lo4 (100*Jw 185363 131072) (100*Jw 46341 32768) (100*Jw 185363 131072) (100*Jw 46341 32768)=Jw 18536300 131072:=by decide +kernel
 have e2:yP (100*Jw 185363 131072) (100*Jw 46341 32768) (100*Jw 185363 131072) (100*Jw 46341 32768)=Jw 18536400 131072:=by decide +kernel
 rw[e1,e2]at Cp;have l27:=Ja l4 (Ja IK l7);refine Zbc (j:=20) (k:=20) ⟨n6.1.le l27,n6.2.le l27⟩ Cp bh2 bh2 ⟨by unfold Lt W;decide +kernel,by unfold Lt W;decide +kernel⟩ ⟨by unfold Lt W;decide +kernel,by unfold Lt W;decide +kernel⟩ zD zD λej h8 l8 mv=>?_
 have e3:1/2+Jw 18536300 131072=Jw 18601836 131072:=by decide +kernel
 have e4:1/2+Jw 18536400 131072=Jw 18601936 131072:=by decide +kernel
 rw[e3,e4]at mv;exact Z1k mv λfq h9 l9 Em=>hk _ _ (Ja l2 (Ja l27 (Ja l8 l9))) Em
def zun(ht:TW h B 300 t U2)(ha:PL h A a [1/2,100])(hA:A<=1000000000000)(he:EV h 300 U2 x s a)(hs:s<=100000)(H:∀z h',h.le h'->NV h' z (Jw 18601836 131072) (Jw 18601936 131072)->KV z h'):za (F.z9y t a 1) KV h:=by
 refine zb _ (λK' hk=>?_) H;unfold F.z9y;have bl:BR 20 (Jw 18601836 131072):=⟨by unfold Lt W;decide +kernel,by unfold Lt W;decide +kernel⟩;have bh:BR 20 (Jw 18601936 131072):=⟨by unfold Lt W;decide +kernel,by unfold Lt W;decide +kernel⟩;refine zj (λst h'=>h.le h') (λst h1 l1=>?_) ?_
 . refine Qq (n:=1) zD zD λy2 h2 l2 n2=>?_
   refine z93 (n:=1) zD λy3 h3 l3 n3=>?_
   refine Hs (k:=20) (m:=1) (n:=2) (n2.le l3) n3 (by unfold Lt W;decide +kernel) (by unfold Lt W;decide +kernel) zD zD λy4 h4 l4 n4=>?_
   have gG:=Ja l1 (Ja l2 (Ja l3 l4));refine Za (λst h'=>h4.le h'/\st.2.1=17) (λ_=>0) ⟨Jf _,rfl⟩ λst h5 ⟨l5,e5⟩=>?_
   rw[e5];refine zvz (ht.le (Ja gG l5)) (ha.le (Ja gG l5)) hA λy6 h6 l6 n6=>?_
   refine zzi (j:=20) n6 bl bh zD λy7 h7 l7 n7=>?_
   have e:Jw 18601936 131072-Jw 18601836 131072=Jw 100 131072:=by decide +kernel
   rw[e]at n7;refine VT (k:=20) (j:=20) n7 (n4.le (Ja l5 (Ja l6 l7))) ⟨by unfold Lt W;decide +kernel,by unfold Lt W;decide +kernel⟩ ⟨by unfold Lt W;decide +kernel,by unfold Lt W;decide +kernel⟩ zD zD λh8 l8=>?_
   refine zk (by decide +kernel) (hk _ _ (Ja gG (Ja l5 (Ja l6 (Ja l7 l8)))) ⟨n6.1.le (Ja l7 l8),n6.2.le (Ja l7 l8)⟩)
 . refine zc rfl (zc rfl ?_);refine Qv (n:=1) (size:=1) (cells:=[.slice a.a a.len a.cap]) rfl λbb h1 _ ho=>?_
   exact zmd (es:=[a]) (s:=s) ho.rd (ht.le ho.1) (λe hh=>Uz.1 hh▸⟨_,he.le ho.1⟩) zS zO λh2 l2=>zc rfl (Ja ho.1 l2)
def Z2s(ht:TW h B 300 t U2)(ha:PL h A a [1/2,100])(hA:A<=1000000000000)(he:EV h 300 U2 x s a)(hs:s<=100000)(hx:0<=x-Jn 141)(H:∀z h',h.le h'->NI h' z 141->KI z h'):za (F.zfb t a) KI h:=by
 refine zb _ (λK' hk=>?_) H;unfold F.zfb;refine Qv (n:=1) (size:=1) (cells:=[.slice a.a a.len a.cap]) rfl λbb h1 _ ho=>?_
 have l1:=ho.1;refine zmd (es:=[a]) (s:=s) ho.rd (ht.le l1) (λe hh=>Uz.1 hh▸⟨_,he.le l1⟩) zS zO λh2 l2=>zc rfl ?_
 have bS:=Ja l1 l2;refine zun (ht.le bS) (ha.le bS) hA (he.le bS) hs λy3 h3 l3 n3=>?_
 refine zb (λz h'=>NI h' z 141) (λK2 aG=>?_) λy4 h4 l4 n4=>?_
 . unfold F.zb2;have en:(Jw 18601936 131072).num=1162621:=by decide +kernel
   have ed:(Jw 18601936 131072).den=8192:=by decide +kernel
   have n3n:=n3.2.1;have n3d:=n3.2.2;rw[en]at n3n;rw[ed]at n3d;refine Hl n3n n3d (yA (by unfold Lt W;decide +kernel)) (yA (by unfold Lt W;decide +kernel)) zD λy w h4 q r l4 n4 _ dm=>?_
   have e:q=141:=(dm.div zD (.inl zD)).trans zD;subst e;exact aG _ _ l4 n4
 have gG:=Ja bS (Ja l3 l4);refine Qq (n:=1) zD zD λy5 h5 l5 n5=>?_
 refine Hs (k:=20) (m:=141) (n:=1) (n4.le l5) n5 (by unfold Lt W;decide +kernel) (by unfold Lt W;decide +kernel) zD zD λy6 h6 l6 n6=>?_
 have e6:Jw 141 1=141:=by decide +kernel
 rw[e6]at n6;refine zj (λst h'=>h.le h'/\NI h' ⟨st.1.1,st.1.2.1⟩ 141) (λst h7 ⟨l7,n7⟩=>hk _ _ l7 n7) ?_;have eO:=Ja gG (Ja l5 l6);refine B1 (s:=1) (ht.le eO) n6 ⟨by unfold Lt W;decide +kernel,by unfold Lt W;decide +kernel⟩ zD λy9 h9 e9=>?_
 have Iu:=Ja eO e9.hle;refine XQ (ht.le Iu) (he.le Iu) e9.ev zO (he.sz.sub e9.ev.sz) λy10 aZ lg=>?_
 have aac:=Ja Iu lg.hle;refine zfo (ht.le aac) lg.ev (by rw[Yu];omega) λbV BX=>?_
 refine zc (decide_eq_false λhh=>?_) ⟨Ja aac BX,n4.le (Ja l5 (Ja l6 (Ja e9.hle (Ja lg.hle BX))))⟩;have:=qk.1 hh;exact Gn _ (Re.lt_of_lt_of_le this hx)
end
end Den
end

section
namespace Den
open Go Iv Pq
def Re.yB(x y:Re):(x-y)*(x+y)=x*x-y*y:=by
 obtain⟨a,rfl⟩:=x.rep;obtain⟨b,rfl⟩:=y.rep;simp only[Ub,Re.aT,Re.aO,Re.aQ];exact Re.id λn=>by
  simp only[CS.aV,CS.bB,CS.bf]
  grind
def zri:0<s2:=Re.iH zlt
def Z0x:s2*s2=Jn 2:=Re.bJ (Re.le_of_lt zlt)
def Zz7{q:Rat}(h0:0<q)(h:q*q<2):Jn q<s2:=by
 rcases Re.ks (Jn q) s2 with h1 | h1 | h1
 exact h1
 . exfalso;have h2:=Z0x;rw[<-h1,<-G4]at h2;rw[Re.dh h2]at h;exact absurd h zD
 . exfalso;have a1:0<Jn q-s2:=by rw[<-Re.dU];exact h1
   have a2:0<Jn q+s2:=by
    have:=Re.add_lt_add ((Re.of_lt 0 q).2 h0) zri
    rwa [Ti,Ua]at this
   have a3:=Re.mul_pos a1 a2;rw[Re.yB,Z0x,<-G4,<-Re.rQ,<-Ti,Re.of_lt]at a3
   grind
def Zyx(x:Re)(h:Jn (281/200)<x):0<=(x*Jn 100+Jn (1/2))-Jn 141:=by
 refine Re.le_of_lt ?_;have h1:=Re.mul_pos (x:=x-Jn (281/200)) (y:=Jn 100) (by rw[<-Re.dU];exact h) (by rw[<-Ti,Re.of_lt];decide);have e:(x*Jn 100+Jn (1/2))-Jn 141=(x-Jn (281/200))*Jn 100:=by
  obtain⟨a,rfl⟩:=x.rep;simp only[Ub,Re.iE,Re.aT,Re.aO,Re.aQ];exact Re.id λn=>by
   simp only[CS.aV,CS.bB,CS.bf,CS.bC]
   grind
 rw[e];exact h1
section
variable {MW:zY (aE × Int)}
def Zct{a:aE}(ha:NI h a 10)(H:∀z h',h.le h'->NI h' z 100->MW (z,0) h'):za (F.zbs a 2) MW h:=by
 refine Y0 _ (λK' hk=>?_) H;unfold F.zbs;have ok:∀n:Int,n.natAbs<=1000->Ok n:=λn hn=>yA (Lt.mono (k:=1) (by unfold Lt W;omega) zD)
 refine zj (λ_ h'=>h.le h') (λ_ h1 l1=>?_) (zc rfl (zc rfl (Jf _)));refine Qq (n:=1) zD zD λy2 h2 l2 n2=>?_
 have bS:=Ja l1 l2;refine zlx (ha.le bS) (ok _ zD) λy3 h3 l3 n3=>?_
 refine Za (λst h'=>h3.le h'/\((st.1=2/\NI h' ⟨st.2.1.1,st.2.1.2.1⟩ 1/\NI h' ⟨st.2.2.1.1,st.2.2.1.2.1⟩ 10)\/(st.1=1/\NI h' ⟨st.2.1.1,st.2.1.2.1⟩ 1/\NI h' ⟨st.2.2.1.1,st.2.2.1.2.1⟩ 100)\/(st.1=0/\NI h' ⟨st.2.1.1,st.2.1.2.1⟩ 100)))
  (λst=>st.1.toNat) ⟨Jf _,.inl ⟨rfl,n2.le l3,n3⟩⟩ ?_
 rintro⟨i,⟨a1,a2,_⟩,⟨b1,b2,_⟩,_⟩ h4 ⟨l4,xO⟩;rcases xO with ⟨e,c1,c2⟩ | ⟨e,c1,c2⟩ | ⟨e,c1⟩
 . have e:i=2:=e;subst e;have c1:NI h4 ⟨a1,a2⟩ 1:=c1;have c2:NI h4 ⟨b1,b2⟩ 10:=c2;refine zk rfl ?_;refine zj (λst h'=>h4.le h'/\NI h' ⟨st.1.1,st.1.2.1⟩ 1) (λst h5 ⟨l5,n5⟩=>⟨zD,zk rfl ?_⟩) ⟨zD,zc rfl ⟨Jf _,c1⟩⟩;refine Xq (m:=10) (n:=10) (c2.le l5) (c2.le l5) (ok _ zD) (ok _ zD) λy6 h6 l6 n6=>?_
   exact⟨⟨Ja l4 (Ja l5 l6),.inr (.inl ⟨rfl,n5.le l6,n6⟩)⟩,(by decide:(1:Nat)<2)⟩
 . have e:i=1:=e;subst e;have c1:NI h4 ⟨a1,a2⟩ 1:=c1;have c2:NI h4 ⟨b1,b2⟩ 100:=c2;refine zk rfl ?_;refine zj (λst h'=>h4.le h'/\NI h' ⟨st.1.1,st.1.2.1⟩ 100) (λst h5 ⟨l5,n5⟩=>⟨zD,zc rfl ?_⟩) ⟨zD,zk rfl ?_⟩;exact⟨⟨Ja l4 l5,.inr (.inr ⟨rfl,n5⟩)⟩,(by decide:(0:Nat)<1)⟩;exact Xq (m:=1) (n:=100) c1 c2 (ok _ zD) (ok _ zD) λy6 h6 l6 n6=>⟨l6,n6⟩
 . have e:i=0:=e;subst e;exact zc rfl (hk _ _ (Ja bS (Ja l3 l4)) c1)
def zz0(H:∀z h',h.le h'->NI h' z 100->KI z h'):za (F.z85 2) KI h:=by
 refine zb _ (λK' hk=>?_) H;unfold F.z85;refine Qq (n:=10) zD zD λy1 h1 l1 n1=>?_
 exact Zct n1 λz h2 l2 n2=>hk _ _ (Ja l1 l2) n2
def Z84{a:aE}(ha:NI h a 100)(H:∀z h',h.le h'->NR h' z 100->KR z h'):za (F.z86 a) KR h:=by
 refine zb _ (λK' hk=>?_) H;unfold F.z86;refine Qq (n:=1) zD zD λy1 h1 l1 n1=>?_
 refine Hs (k:=20) (m:=100) (n:=1) (ha.le l1) n1 (by unfold Lt W;decide +kernel) (by unfold Lt W;decide +kernel) zD zD λy2 h2 l2 n2=>?_
 have e:Jw 100 1=100:=by decide +kernel
 rw[e]at n2;exact hk _ _ (Ja l1 l2) n2
def Zd3:BR 1 (100:Rat):=⟨by unfold Lt W;decide +kernel,by unfold Lt W;decide +kernel⟩
def Zd6:BR 1 (1/2:Rat):=⟨by unfold Lt W;decide +kernel,by unfold Lt W;decide +kernel⟩
def Zpi:tv U2 [1/2,100]=s2*Jn 100+Jn (1/2):=by
 rw[Re.add_comm];rfl
def zyy{Q:aC}(hc:Ctx G 300 1)(hx:NJ G 300 U2 h X (s2,300))(hq:NR h Q (1/2))(H:∀z h',h.le h'->NI h' z 141->MW (z,0) h'):za (F.z84 X 2 Q) MW h:=by
 refine Y0 _ (λK' hk=>?_) H;unfold F.z84;refine zj (λ_ h'=>h.le h') (λ_ h1 l1=>?_) (zc rfl (zc rfl (Jf _)));refine zz0 λy2 h2 l2 n2=>?_
 refine Z84 n2 λy3 h3 l3 n3=>?_
 refine z89 (G:=FQ) (S:=300) n3 Zd3 zD λy4 h4 l4 n4=>?_
 have gG:=Ja l1 (Ja l2 (Ja l3 l4));refine Z5p hc (hx.le gG) (n4.IJ zD) zD λy5 h5 l5 n5=>zc rfl ?_
 have fE:=Ja gG l5;refine z89 (G:=FQ) (S:=300) (hq.le fE) Zd6 zD λy6 h6 l6 n6=>?_
 refine Z5o hc (n5.le l6) (n6.IJ zD) zD (n5.2.2.sz.add n6.sz) λy7 h7 l7 n7=>zc rfl ?_
 obtain⟨p,hp,lp,vp,sp⟩:=n7.2.2;obtain rfl:p=[1/2,100]:=HN Zkm lp rfl (vp.trans Zpi.symm);exact Z2s n7.1 hp zD n7.2.2 zD (Zyx s2 (Zz7 (by decide +kernel) (by decide +kernel))) λz h8 l8 n8=>hk _ _ (Ja fE (Ja l6 (Ja l7 l8))) n8
def zyc(hc:Ctx G 300 1)(hx:NJ G 300 U2 h X (s2,300))(H:∀z h',h.le h'->NI h' z 141->MW (z,0) h'):za (F.z83 X 2) MW h:=by
 refine Y0 _ (λK' hk=>?_) H;unfold F.z83;refine zeg (m:=1) (n:=2) zD zD zD zD zD λy1 h1 l1 n1=>?_
 have e:Jw 1 2=1/2:=by decide +kernel
 rw[e]at n1;exact zyy hc (hx.le l1) n1 λz h2 l2 n2=>hk _ _ (Ja l1 l2) n2
end
end Den
end

section
namespace Lx
abbrev B:=List UInt8
end Lx
end

section
namespace Den
open Go Lx
section
end
end Den
end

section
namespace Den
open Go Lx
section
end
end Den
end

section
namespace Den
open Go Lx
section
def W7(l:List UInt8):List Value:=l.map λb=>.int .u8 b.toNat
end
end Den
end

section
namespace Den
open Go Lx
section
end
end Den
end

section
namespace Den
open Go Lx
section
end
end Den
end

section
namespace Den
open Go Lx
def IM(t:TypeId)(h0 h:Hp)(x:Sl)(cs:List Value):Prop:=Own h0 h 1 x cs/\∀a b,x.a=some a->h a.block=some b->b.elem=t
def Zoz{h0 h:Hp}{x:Sl}{cs:List Value}{n:Nat}{bl:qT}(ho:Own h0 h 1 x cs)(hn:h0 n=none)(cd:∀a,x.a=some a->a.block≠n):Own h0 (h.ins n bl) 1 x cs:=by
 obtain⟨h1,h2,h3,h4⟩:=ho;refine⟨λk b hk=>?_,h2,h3,?_⟩
 . rw[Gc (λhh=>by rw[hh,hn]at hk;cases hk)];exact h1 k b hk
 . cases ha:x.a with
   | none=>rw[ha]at h4;exact h4
   | some a=>
     rw[ha]at h4;obtain⟨g1,g2,g3,b,g4,g5⟩:=h4;exact⟨g1,g2,g3,b,by rw[Gc (cd a ha)];exact g4,g5⟩
def IM.ins{t:TypeId}{h0 h:Hp}{x:Sl}{cs:List Value}{n:Nat}{bl:qT}(ho:IM t h0 h x cs)(hn:h0 n=none)(cd:∀a,x.a=some a->a.block≠n):IM t h0 (h.ins n bl) x cs:=
 ⟨Zoz ho.1 hn cd,λa b ha hb=>ho.2 a b ha (by rwa [Gc (cd a ha)]at hb)⟩
def Zd2{t:TypeId}{h0 h:Hp}{n N:Nat}{zero new cs:List Value}{x:Sl}{K:Sl->Hp->Prop}(hN:h N≠none)(hNx:∀a,x.a=some a->a.block≠N)(ho:IM t h0 h x cs)(hn:new.length=n)(hz:zero.length=1)
 (dt:new.all Tb=true) (hb:x.len+n<=140737488355328)
 (H:∀y h',IM t h0 h' y (cs++new)->(∀a,y.a=some a->a.block≠N)->h' N=h N->y.len=x.len+n->(y.a=none->x.a=none/\n=0)->K y h'):Av t 1 1 zero x n new K h:=by
 obtain⟨ho,yO⟩:=ho;have eh:=ho.rd;obtain⟨h1,h2,h3,h4⟩:=ho;rw[U6]at h2;refine⟨by rw[U6];exact hb,hb,λdQ=>?_,λvR=>?_⟩
 . cases ha:x.a with
   | none=>
     rw[ha]at h4;simp only at h4;have lX:n=0:=zO;have gr:new=[]:=U3 zO;subst gr lX;simp only[pS];refine H _ _ ⟨⟨h1,?_,?_,?_⟩,λa b hh=>by cases hh⟩ (λa hh=>by cases hh) rfl rfl (λ_=>⟨ha,rfl⟩);simpa using h2;show x.len+0<=x.cap;omega;show x.cap=0;exact h4
   | some a=>
     rw[ha]at h4;obtain⟨g1,g2,g3,b,g4,g5,g6,g7⟩:=h4;rw[U6]at g6;simp only[pS];refine⟨b,by rw[Qf];exact g4,Fz g2 _,g5,?_,dt,?_⟩;rw[tQ];omega
     . rw[Qf,tQ];have cd:=hNx a ha;refine H _ _ ⟨⟨?_,?_,dQ,?_⟩,?_⟩ (λa' hh=>by cases hh;exact cd) ?_ rfl (λhh=>by cases hh)
       . intro k bk hk;rw[Gc (λhh=>by subst hh;rw[g3]at hk;cases hk)];exact h1 k bk hk
       show(x.len+n)*1=_;rw[Jq];omega
       . refine⟨g1,g2,g3,_,Uy _ _ _,g5,?_,?_⟩
         . show(Zn b.cells (a.off+x.len*1) new).length=_;unfold Zn;simp only[Jq,Jk,Uv];show _=x.cap*1;omega
         . show(Zn b.cells (a.off+x.len*1) new).take _=_;have mI:a.off+x.len*1=cs.length:=zO;unfold Zn;rw[mI,g7,J8,Jq,List.take_append];simp only[Nat.add_sub_cancel_left];rw[Je zO,List.take_append,Je (Jd _)];simp
       . intro a' b' j' uP;cases j';rw[Uy]at uP;cases uP;exact yO a b ha g4
       rw[Gc (Ne.symm cd)]
 . refine⟨cs,?_,λbk c hc fJ=>?_⟩;rw[U6,h2];exact eh.2
   . have hbN:bk≠N:=λhh=>by rw[hh]at fJ;exact hN fJ
     refine H _ _ ⟨⟨Ja h1 (Hp.cH fJ),?_,hc,?_⟩,?_⟩ (λa hh=>by cases hh;exact hbN) (Gc (Ne.symm hbN)) rfl (λhh=>by cases hh);show(x.len+n)*1=_;rw[Jq];omega
     . refine⟨rfl,rfl,?_,_,Uy _ _ _,rfl,?_,?_⟩
       . cases hk:h0 bk with
         | none=>rfl
         | some b=>have:=h1 _ _ hk;rw[fJ]at this;cases this
       . show(cs++new++Yi (c-(x.len+n)) zero).length=c*1;have hr:(Yi (c-(x.len+n)) zero).length=(c-(x.len+n)):=by
          unfold Yi;simp[hz]
         rw[Jq,Jq,hr];omega
       . show(cs++new++Yi (c-(x.len+n)) zero).take _=cs++new;rw[U4 zS];exact Je (Jd _)
     . intro a' b' j' uP;cases j';have aad:(h.ins bk ⟨cs++new++Yi (c-(x.len+n)) zero,t,(0,0)⟩) bk=some b':=uP;rw[Uy]at aad;cases aad;rfl
def qP(h0 h:Hp)(n:Nat)(l:List UInt8):Prop:=
 ∃q x,h n=some ⟨[q,.slice x.a x.len x.cap],191,(0,0)⟩/\(q=.pointer none\/q=.pointer (some ⟨n,0,none⟩))/\h0 n=none /\
  IM 5 h0 h x (W7 l)/\(∀a,x.a=some a->a.block≠n)/\(x.a=none\/l≠[])
def BLU(h0 h:Hp)(n:Nat)(l:List UInt8):Prop:=
 ∃x,h n=some ⟨[.pointer (some ⟨n,0,none⟩),.slice x.a x.len x.cap],191,(0,0)⟩/\h0 n=none /\
  IM 5 h0 h x (W7 l)/\(∀a,x.a=some a->a.block≠n)/\(x.a=none\/l≠[])
def qP.hle{h0 h:Hp}{n:Nat}{l:List UInt8}(hb:qP h0 h n l):h0.le h:=by
 obtain⟨q,x,h1,h2,h3,h4,h5⟩:=hb;exact h4.1.1
def zdx{l:List UInt8}:(W7 l).length=l.length:=by simp[W7]
def Z3a{l m:List UInt8}:W7 (l++m)=W7 l++W7 m:=by simp[W7]
def zyl{l:List UInt8}:(W7 l).all Tb=true:=by simp[W7,Tb]
section
variable {l:List UInt8}
def Zou{K:Addr->Hp->Prop}(H:∀n h',qP h h' n []->K ⟨n,0,none⟩ h'):I5 191 [.pointer none,zN] K h:=by
 intro b hb;refine H b _ ⟨.pointer none,zd,Uy _ _ _,.inl rfl,hb,⟨Own.nil (Hp.cH hb),(λa b' ha=>by cases ha)⟩,(λa ha=>by cases ha),.inl rfl⟩
def zv2{K:Unit->Hp->Prop}(hb:qP h0 h n l)(H:∀h',BLU h0 h' n l->K () h'):kE (F.Q6 (some ⟨n,0,none⟩)) K h:=by
 refine C1 ?_;obtain⟨q,x,h1,h2,h3,h4,h5,h6⟩:=hb;refine⟨n,_,rfl,h1,rfl,rfl,rfl,?_⟩;rcases h2 with rfl | rfl
 exact .inl ⟨rfl,H _ ⟨x,Uy _ _ _,h3,h4.ins h3 h5,h5,h6⟩⟩;exact .inr ⟨rfl,H _ ⟨x,h1,h3,h4,h5,h6⟩⟩
def Zo5{m:List UInt8}{k:Nat}{K:Hp->Prop}(hb:BLU h0 h n l)(hk:m.length=k)(hlen:l.length+k<=140737488355328)(hm:m≠[]\/l≠[])(H:∀h',qP h0 h' n (l++m)->K h') :
 aB (.sl) ((⟨n,0,none⟩:Addr).add 1) (λx3=>Av 5 1 1 [.int .u8 0] x3 k (W7 m) (λw4 h2=>Yv (some ⟨n,0,none⟩) λp5=>bD (p5.add 1) [.slice w4.a w4.len w4.cap] (λh3=>K h3) h2) h) h:=by
 obtain⟨x,h1,h3,h4,h5,h6⟩:=hb;have hl:x.len=l.length:=by have:=h4.1.2.1;rw[zdx]at this;omega
 refine⟨x,?_,?_⟩
 . rw[yI];unfold Hp.cell;simp only[h1];rfl
 . refine Zd2 (N:=n) (by rw[h1];simp) h5 h4 (by rw[zdx];exact hk) rfl zyl zO λy h' hy hyn hn CP hya=>?_
   rw[h1]at hn;refine⟨_,by rw[Qf];exact hn,by rw[yI],rfl,by rw[yI];exact Jd _,rfl,H _ ⟨_,y,Uy _ _ _,.inr rfl,h3,?_,hyn,?_⟩⟩;rw[Z3a];exact hy.ins h3 hyn
   . right;cases l with
     | nil=>exact hm.elim id λhh=>absurd rfl hh
     | cons a b=>simp
def zp3{s:ByteArray}{K:(Int×Value)->Hp->Prop}(hb:qP h0 h n l)(hlen:l.length<=1000000)(hs:BS s≠[])(kJ:s.size<=1000000)(H:∀h',qP h0 h' n (l++BS s)->K ((s.size:Int),.nilIface) h'):kE (F.yg (some ⟨n,0,none⟩) s) K h:=by
 refine C1 ?_;unfold F.yg;exact zv2 hb λh1 sk=>Zo5 (m:=BS s) sk (Z2q s) zO (.inl hs) λh' uP=>H _ uP
def Zag{K:ByteArray->Hp->Prop}(hb:qP h0 h n l)(hlen:l.length<=1000000)(H:∀h',h0.le h'->K ⟨l.toArray⟩ h'):kE (F.Wu (some ⟨n,0,none⟩)) K h:=by
 refine C1 ?_;obtain⟨q,x,h1,h2,h3,h4,h5,h6⟩:=hb;obtain⟨⟨g0,g1,g2,g3⟩,yO⟩:=h4;rw[zdx]at g1;refine⟨n,_,q,rfl,h1,rfl,rfl,?_⟩;cases ha:x.a with
 | none=>
   rw[ha]at g3;simp only at g3;have hl0:l=[]:=U3 zO;subst hl0;refine .inl ⟨?_,H h g0⟩;have e1:x.len=0:=zO;rw[e1,g3]
 | some a=>
   rw[ha]at g3;obtain⟨i1,i2,i3,b,i4,i5,i6,i7⟩:=g3;have cd:l≠[]:=by
    rcases h6 with h6 | h6
    rw[ha]at h6;cases h6;exact h6
   obtain⟨g,off,sp⟩:=a;simp only at i1 i2;subst i1 i2;refine .inr ⟨g,x.cap,l,b,cd,?_,zO,i4,yO _ _ ha i4,zO,zO,λj y hj=>?_,H _ λk c hk=>?_⟩
   . have e1:x.len=l.length:=zO;rw[e1]
   . have hlt:j<l.length:=by
      rcases Jx j l.length with hh | hh
      exact hh;rw[G3 hh]at hj;cases hj
     have:(b.cells.take (W7 l).length)[j]?=(W7 l)[j]?:=by rw[i7]
     rw[zdx,List.getElem?_take_of_lt hlt]at this;rw[this];unfold W7;rw[Gr,hj];rfl
   . have Ew:k≠g:=λhh=>by
      subst hh;have i3':h0 k=none:=i3;rw[i3']at hk;cases hk
     simp only[if_neg Ew];exact g0 k c hk
end
end Den
end

section
namespace Den
open Go Iv Pq Lx
def P10(h:Hp):Prop:=∀i:Nat,i<20->h.cell ((⟨0,0,none⟩:Addr).add i)=some (.int .u64 ((10 ^ i:Nat):Int))
def P10.le{h h':Hp}(ht:P10 h)(hl:h.le h'):P10 h':=λi hi=>Lc hl (ht i hi)
def Ap:ByteArray:=⟨#[49,52,49]⟩
section
def qP.mG{h':Hp}(hb:qP h0 h n [])(hl:h.le h'):qP (h'.del n) h' n []:=by
 obtain⟨q,x,h1,h2,h3,h4,h5,h6⟩:=hb;have ha:x.a=none:=h6.elim id λhh=>absurd rfl hh
 refine⟨q,x,hl _ _ h1,h2,Hp.wy _ _,⟨⟨Hp.GM _ _,h4.1.2.1,h4.1.2.2.1,?_⟩,λa b hh=>by rw[ha]at hh;cases hh⟩,h5,h6⟩;have:=h4.1.2.2.2;rw[ha]at this |-;exact this
def qP.beside{α:Type}{D:Hp}{l:List UInt8}{G:(α->Hp->Prop)->Hp->Prop}{K1 K:α->Hp->Prop}(hb:qP D h n l)(H:za G K1 D)(k:∀v D' h',D.le D'->qP D h' n l->K1 v D'->K v h'):za G K h:=by
 refine WC hb.hle H λv D' h' l1 l2 fJ hv=>k v D' h' l1 ?_ hv
 obtain⟨q,x,h1,h2,h3,h4,h5,h6⟩:=hb;have hn:=fJ n h3 (by rw[h1];simp);refine⟨q,x,by rw[hn.2];exact h1,h2,h3,⟨(h4.1.move l2 fJ).base l1,λa b ha tI=>?_⟩,h5,h6⟩;obtain⟨_,_,_,g4⟩:=h4.1;rw[ha]at g4;obtain⟨k1,k2,k3,b2,k4,k5⟩:=g4;have:=(fJ a.block k3 (by rw[k4];simp)).2;rw[this]at tI;exact h4.2 a b ha tI
def Zsr{b:Nat}{h h':Hp}(hl:h.le h')(hb:h b=none):h.le (h'.del b):=λk c hk=>by
 have hn:k≠b:=λhh=>by rw[hh,hb]at hk;cases hk
 unfold Hp.del;rw[if_neg hn];exact hl k c hk
end
section
variable {arr x C:Sl}{bs:List UInt8}{Kt:zY ByteArray}
def Z74{i v:Int}{K:Hp->Prop}(k:Nat)(d:UInt8)(ho:Own D h 1 arr (W7 bs))(ha:a.a=arr.a)(hal:a.len<=arr.len)(hi:i=k)(hk:k<a.len)(hb:k<bs.length)(hv:v=(d.toNat:Int))
 (H:∀h',Own D h' 1 arr (W7 (bs.set k d))->K h'):zi a i 1 λp=>bD p [.int .u8 v] K h:=by
 subst hv hi;have key:zi arr (k:Int) 1 λp=>bD p [.int .u8 (d.toNat:Int)] K h:=by
  refine Z75 k ho rfl zO rfl zD rfl λh' mh=>H h' ?_
  rw[U6,zk1]at mh;have e:W7 (bs.set k d)=(W7 bs).take k++.int .u8 (d.toNat:Int) :: (W7 bs).drop (k+1):=by
   unfold W7;rw[List.map_set,List.set_eq_take_append_cons_drop,if_pos (by simpa using hb)]
  rw[e];exact mh
 obtain⟨k1,k2,k3⟩:=key;refine⟨k1,zO,?_⟩;rw[ha];exact k3
set_option maxRecDepth 100000 in
def Zyi(ho:Own D h 1 arr (W7 (Jl 24 0)))(ha:a.a=arr.a)(hal:arr.len=24)(hl:a.len=3)(H:∀h',Own D h' 1 arr (W7 ([49,52,49]++Jl 21 0))->KU () h'):F.qf a 141 KU h:=by
 unfold F.qf;rw[hl];refine Za (λst h'=>st=(141,3,())/\h'=h) (λ_=>0) ⟨rfl,rfl⟩ ?_;rintro st h' ⟨rfl,rfl⟩;refine zc rfl (Wf (zc rfl (Wf (zk rfl ⟨zD,zD,⟨zD,49,rfl,⟨zD,52,rfl,?_⟩⟩⟩))));refine Z74 2 49 ho ha zO rfl zO zD rfl λh1 o1=>?_
 refine Z74 1 52 o1 ha zO rfl zO zD rfl λh2 o2=>?_
 refine zk rfl ?_;refine Z74 0 49 o2 ha zO rfl zO zD rfl λh3 o3=>H h3 ?_
 exact o3
set_option maxRecDepth 100000 in
def Zaf(H:Ki 8 h):za (F.z5k 141) Ki h:=by
 refine zw _ (λK' hk=>?_) H;unfold F.z5k;exact Wf (zc rfl (Wf (zc rfl (Wf (zc rfl ⟨zD,8,rfl,hk⟩)))))
def zsq(ht:P10 h)(H:Ki 3 h):za (F.Qr 141) Ki h:=by
 refine zw _ (λK' hk=>?_) H;unfold F.Qr;refine Zaf (zw 2 (λK2 aG=>?_) ?_)
 . unfold F.Va;exact⟨zD,aG⟩
 . unfold CI;refine(show _ from ⟨(100:Int),ht 2 zD,?_⟩);refine zw 1 (λK3 cw=>?_) hk;unfold F.W9;exact zk rfl cw
def zoy(ht:P10 h)(H:∀h',h.le h'->Kt Ap h'):za (F.Vh 141 10) Kt h:=by
 refine zb (λs h'=>s=Ap) (λK' hk=>?_) λb h' hl hb=>by rw[hb];exact H h' hl
 unfold F.Vh;refine zb (λs h'=>s=Ap) (λK2 aG=>?_) λb h' hl hb=>hk _ _ hl hb
 unfold F.Wk;refine zk rfl (zc rfl ?_);refine Qv (n:=24) (size:=1) rfl λb h2 hb ho=>?_
 refine zsq (ht.le ho.1) ?_;obtain⟨arr,gK⟩:∃arr:Sl,arr=⟨some ⟨b,0,none⟩,24,24⟩:=⟨_,rfl⟩;rw[<-gK]at ho |-
 refine⟨zD,zD,by rw[gK];simp only;omega,C1 ?_⟩;refine Zyi (arr:=arr) ho (by rw[gK];rfl) (by rw[gK]) rfl λh4 o4=>⟨zD,zD,by rw[gK];simp only;omega,[49,52,49],?_,aG _ _ o4.1 rfl⟩
 have hr:=o4.rd.2;rw[gK]at hr |-
 exact zg0 (cells:=W7 ([49,52,49]++Jl 21 0)) (λi v hv=>C2 hr i v hv) 3 zD
def zyr(hr:aL h x [n])(H:∀y h',Yz h h' y [n]->Ks y h'):za (F.Zd x) Ks h:=by
 refine zb (λy h'=>Yz h h' y [n]) (λK' hk=>?_) λy h' _ hy=>H y h' hy
 unfold F.Zd;have hlen:=hr.len;refine zc ?_ ?_
 . cases hx:x.a with
   | some a=>rfl
   | none=>
     have h2:=hr.1.2;rw[hx]at h2;cases h2
 . refine Qv (n:=0) (size:=1) rfl λb h1 hb ho=>?_
   have eF:=hr.le ho.1;refine⟨wc [n],?_,?_⟩;rw[hlen,U6];exact eF.1.2
   . rw[hlen];refine pW ho (n:=1) rfl rfl rfl (by simp only;omega) (by simp only;omega) λy h2 hy _=>hk _ _ hy.1 hy
def Zcj{p:Nat}(hC:aL h C [141])(ht:P10 h)(hb:qP h h0 p [])(H:∀h',h.le h'->Kt Ap h') :
 za (F.yn C) (λcA aZ=>
 (Nu (S:=Unit) (.leaf (.int .u32)) cA (λi16 v17 K9 k19 bV=>
 (za (F.Vh (u64.wrap (v17)) 10) (λdS cO=>
 (zy (S:=Unit) (λsF eG=>
 (kE (F.yg (some ⟨p,0,none⟩) dS) (λdL gh=>
 (k19 () gh)) eG))
 (λk23=>
 (ak (decide (i16<(i64.wrap ((C.len:Int)-1))))
 (za (F.z7b ⟨#[48]⟩ (i64.wrap (9-((dS:ByteArray).size:Int)))) (λiq gi=>
 (kE (F.yg (some ⟨p,0,none⟩) iq) (λoK dF=>
 (k23 () dF)) gi)) cO)
 (k23 () cO))))) bV))
 () (λs20 cu=>
 (kE (F.Wu (some ⟨p,0,none⟩)) (λu5 fN=>
 (Kt u5 fN)) cu)) aZ)) h0:=by
  have hCl:C.len=1:=hC.len;refine zb (λ(a:Addr) h'=>h'.cell a=some (.slice C.a C.len C.cap)/\a.block≠p) (λK' hk=>?_) λa h1 l1 ⟨ha,han⟩=>?_
  . unfold F.yn;intro b e hbf;refine hk _ _ (Hp.cH hbf) ⟨?_,λhh=>?_⟩
    . unfold Hp.cell;simp[Uy]
    . obtain⟨q,x,g1,_⟩:=hb;have hh2:b=p:=hh;rw[<-hh2,hbf]at g1;cases g1
  . have nz:h p=none:=by obtain⟨q,x,g1,g2,g3,_⟩:=hb;exact g3
    have sk:=hb.mG l1;have hD:h.le (h1.del p):=Zsr (Ja hb.hle l1) nz;obtain⟨D,hDe⟩:∃D,D=h1.del p:=⟨_,rfl⟩;rw[<-hDe]at sk hD;have hCD:=hC.le hD;have htD:=ht.le hD;have haD:D.cell a=some (.slice C.a C.len C.cap):=by
     rw[hDe];unfold Hp.cell Hp.del at *;simp only[if_neg han];exact ha
    refine⟨C,λk s h'=>k<=1/\qP D h' p (if k=0 then [49,52,49]else []),zO,⟨by rw[hCl];exact Jd _,by rw[hCl];exact sk⟩,λi s h' hI=>?_,λi s h' hi hI=>?_,λs h' hI=>?_⟩;exact Lc hI.2.hle haD
    . obtain⟨hk,hl⟩:=hI;obtain rfl:i=0:=by rw[hCl]at hi;simpa using hi
      rw[if_neg zD]at hl;have vd:=hCD.le hl.hle;have h2:=vd.1.2;cases kI:C.a with
      | none=>
        rw[kI]at h2;cases h2
      | some ad=>
        rw[kI]at h2;simp only[Zi]at h2;refine⟨ad,(141:Int),rfl,λj u hj=>?_,?_⟩
        . have hj0:j=0:=by
           rcases Nat.eq_zero_or_pos j with h3 | h3
           exact h3
           . exfalso;have:((dp.leaf (.int .u32)).cells (141:Int))[j]?=none:=by
              apply G3;simp only[dp.cells,List.length_singleton];omega
             rw[this]at hj;cases hj
          subst hj0;simp only[dp.cells,List.getElem?_cons_zero,Option.some.injEq]at hj;subst hj;refine C2 h2 _ _ ?_;simp[wc,dp.size,Lf.up]
        . refine hl.beside (K1:=λ(s:ByteArray) _=>s=Ap) (zoy htD λh' _=>rfl) λs D3 h3 _ hb3 hs=>?_
          subst hs;refine Wf (zc (by rw[hCl];rfl) ?_);refine zp3 hb3 zD zD zD λh5 hb5=>⟨zD,?_⟩
          exact hb5
    exact Zag hI.2 zD λh5 cj=>H _ (Ja hD cj)
def Z2t{a:aE}(ha:NI h a 141)(ht:P10 h)(H:∀h',h.le h'->Kt Ap h'):za (F.z6t a) Kt h:=by
 refine zb (λs h'=>s=Ap) (λK' hk=>?_) λs h' hl hs=>by rw[hs];exact H h' hl
 unfold F.z6t;have gS:=ha.2;rw[decide_eq_false zD]at gS;have rE:=ha.1;have ed:dg (141:Int).natAbs=[141]:=by
  show dg 141=[141];rw[GJ zD,show 141/W=0 by decide,qe];rfl
 rw[ed]at rE;refine Vu rE zD λr1 eF=>?_
 have et:Q1 [141]=[141]:=zD;rw[et]at eF;refine zyr eF λr2 h2 dA=>?_
 have bH:=dA.1;have uh:r2.len=1:=Yz.len dA;refine zc (by rw[uh];rfl) ?_;refine Za (λst h'=>(st=(r2,(zd,()),())/\h'=h2)\/(h.le h'/\st.1.len=0/\aL h' st.2.1.1 [141])) (λst=>st.1.len) (.inl ⟨rfl,rfl⟩) ?_;rintro st h3 (⟨rfl,rfl⟩ | ⟨l3,e3,hC⟩)
 . refine zk (by rw[uh];rfl) ?_;simp only;rw[uh];refine Za (λst h'=>(st=(0,0,())/\h'=h3)\/(st=(141,-1,())/\Yz h h' r2 [0])) (λst=>(st.2.1+1).toNat) (.inl ⟨rfl,rfl⟩) ?_;rintro st h4 (⟨rfl,rfl⟩ | ⟨rfl,gQ⟩)
   . refine zk rfl ⟨zD,?_⟩;refine Zq 0 dA.ep rfl zD λa ha=>⟨_,ha,zD,?_⟩
     refine Z75 0 dA rfl zO rfl zD rfl λh5 o5=>⟨zD,.inr ⟨rfl,?_⟩,zD⟩
     exact o5
   . refine zc rfl ?_;refine Vu gQ.ep zD λbY IN=>?_
     have lg:Q1 [0]=[]:=zD;rw[lg]at IN;refine pW (h0:=h4) (x:=zd) (Own.nil (Jf _)) (n:=1) rfl rfl rfl zD zD λw h7 o7 _=>?_
     refine⟨.inr ⟨Ja gQ.1 o7.1,IN.len,Yz.ep (l:=[141]) o7⟩,?_⟩;show bY.len<_;rw[IN.len];decide
 . refine zc (by rw[e3];rfl) ?_;refine Zou λp h6 hb6=>?_
   refine zj (λ_ h'=>h'=h6) (λ_ h7 e=>?_) (by rw[gS];exact zc rfl rfl);subst e;exact Zcj hC (ht.le l3) hb6 λh8 gR=>hk _ _ (Ja l3 gR) rfl
end
end Den
end

section
namespace Den
open Go Iv Pq Lx
def Zr2:ByteArray:=⟨#[49,46,52,49]⟩
section
variable {KB:zY (ByteArray × Bool)}{KE:zY (ByteArray × Int)}
def zox(H:KB (Ap,false) h):za (F.z37 Ap ⟨#[45]⟩) KB h:=by
 refine zw _ (λK' hk=>?_) H;unfold F.z37;refine zw (Ap,false) (λK2 aG=>?_) hk;unfold F.Q9;refine zw false (λK3 cw=>?_) (zk rfl aG);unfold F.Y7;refine zk zD (zmt 0 1 rfl rfl zD zD λt ht=>?_);have e:(t.toList==(⟨#[45]⟩:ByteArray).toList)=false:=by
  rw[zt3,zt3,ht];decide
 rw[e];exact cw
def zv6(hc:Ctx G 300 1)(hx:NJ G 300 U2 h X (s2,300))(hp:P10 h)(H:∀h',h.le h'->KE (Zr2,0) h'):za (F.z6q X 2) KE h:=by
 refine Y0 (λz h'=>z=Zr2) (λK' hk=>?_) λz h' hl e=>by rw[e];exact H h' hl
 unfold F.z6q;refine zyc hc hx λz h1 l1 n1=>zc rfl ?_
 refine Z2t n1 (hp.le l1) λh2 l2=>zox ?_
 have bS:=Ja l1 l2;refine Wf (zc zD (Wf (zk rfl ?_)));refine zmt 0 1 rfl zD zD zD λt ht=>?_
 obtain rfl:t=⟨#[49]⟩:=Z2p ht;refine⟨zD,zmt 1 3 zD zD zD zD λw hw=>?_⟩;obtain rfl:w=⟨#[52,49]⟩:=Z2p hw;refine⟨zD,Wf (zc rfl (zc zD (hk _ _ bS ?_)))⟩;exact Z2p zD
end
end Den
end

section
namespace Den
open Go Iv Pq
section
variable {E:Hp}{f:BM}{size:Nat}{x y:Sl}
def Bk.take(hB:Bk D h f)(hE:E.le D)(ho:Own E D size y cs):∃D' f',E.le D'/\Bk D' h f'/\OS f' size y cs/\∀b,f b≠none->f' b=f b/\¬eP y b:=by
 obtain⟨h1,h2,h3,h4⟩:=ho;cases ha:y.a with
 | none=>
   rw[ha]at h4;refine⟨D,f,hE,hB,⟨h2,h3,by rw[ha];exact h4⟩,λb _=>⟨rfl,λhh=>?_⟩⟩;obtain⟨_,h5,_⟩:=hh;rw[ha]at h5;cases h5
 | some a=>
   rw[ha]at h4;obtain⟨g1,g2,g3,b,g4,g5,g6,g7⟩:=h4;have hfb:f a.block=none:=by
    cases hf:f a.block with
    | none=>rfl
    | some ds=>have:=(hB.own _ _ hf).1;rw[g4]at this;cases this
   refine⟨D.del a.block,mn f a.block b.cells,λk B hk=>?_,⟨λk B hk=>?_,λk ds hk=>?_⟩,⟨h2,h3,?_⟩,λk hk=>⟨Ec λhh=>hk (hh▸hfb),λhh=>?_⟩⟩
   . unfold Hp.del;rw[if_neg (λhh=>by rw[hh,g3]at hk;cases hk)];exact hE k B hk
   . unfold Hp.del at hk;split at hk;cases hk;exact hB.le k B hk
   . by_cases qQ:k=a.block
     . subst qQ;rw[Ah]at hk;cases hk;refine⟨by unfold Hp.del;rw[if_pos rfl],b.elem,?_⟩;rw[hB.le _ _ g4,<-g5]
     . rw[Ec qQ]at hk;obtain⟨k1,e,k2⟩:=hB.own k ds hk;exact⟨by unfold Hp.del;rw[if_neg qQ];exact k1,e,k2⟩
   . rw[ha];exact⟨g1,g2,b.cells,Ah,g6,g7⟩
   . obtain⟨x,h5,h6⟩:=hh;rw[ha]at h5;cases h5;exact hk (h6▸hfb)
def Bk.Cw(hB:Bk D h f)(ho:OS f size y cs):∃D' f',D.le D'/\Bk D' h f'/\Rd D' size y cs/\∀b,¬eP y b->f' b=f b:=by
 have how:=ho.own hB;obtain⟨h1,h2,h3,h4⟩:=how;cases ha:y.a with
 | none=>
   rw[ha]at h4;have:cs=[]:=by
    have:y.len=0:=zO;rw[this,Nat.zero_mul]at h2;exact Ju.1 h2.symm
   subst this;refine⟨D,f,Jf _,hB,⟨h2,by rw[ha];rfl⟩,λ_ _=>rfl⟩
 | some a=>
   rw[ha]at h4;obtain⟨g1,g2,g3,b,g4,g5,g6,g7⟩:=h4;have hle:D.le (D.ins a.block b):=Hp.cH g3;have abK:Own D (D.ins a.block b) size y cs:=⟨hle,h2,h3,by rw[ha];exact⟨g1,g2,g3,b,Uy _ _ _,g5,g6,g7⟩⟩;refine⟨D.ins a.block b,λk=>if k=a.block then none else f k,hle,⟨λk B hk=>?_,λk ds hk=>?_⟩,abK.rd,λk hk=>if_neg λhh=>hk ⟨a,ha,hh.symm⟩⟩
   . by_cases qQ:k=a.block
     . subst qQ;rw[Uy]at hk;cases hk;exact g4
     rw[Gc qQ]at hk;exact hB.le k B hk
   . by_cases qQ:k=a.block;simp only[if_pos qQ]at hk;cases hk
     . simp only[if_neg qQ]at hk;rw[Gc qQ];exact hB.own k ds hk
end
def VQ(f:BM)(D:Hp)(B:Nat)(l:Sl)(p:List Rat):Prop:=∃xs,OS f 4 l (xs.flatMap qc)/\QL D B xs p
section
variable {f:BM}{B b:Nat}{l:Sl}{x:aC}
def VQ.le(hv:VQ f D B l p)(hl:D.le D'):VQ f D' B l p:=by
 obtain⟨xs,h1,h2⟩:=hv;exact⟨xs,h1,h2.le hl⟩
def VQ.congr(hv:VQ f D B l p)(h:∀b,eP l b->g b=f b):VQ g D B l p:=by
 obtain⟨xs,h1,h2⟩:=hv;exact⟨xs,h1.congr h,h2⟩
def VQ.IP(hv:VQ f D 2 l p):VQ f D 20 l p:=by
 obtain⟨xs,h1,h2⟩:=hv;exact⟨xs,h1,h2.mono zD⟩
def VQ.there(hv:VQ f D B l p)(h:eP l b):f b≠none:=by
 obtain⟨xs,h1,h2⟩:=hv;exact h1.there h
def VQ.pl(hv:VQ f D B l p)(hB:Bk D h f):PL h B l p:=by
 obtain⟨xs,h1,h2⟩:=hv;exact⟨xs,h1.rd hB,h2.le hB.le,h1.2.1⟩
def VQ.len(hv:VQ f D B l p):l.len=p.length:=by
 obtain⟨xs,h1,h2⟩:=hv;have e1:=h1.1;have e2:=yr (c:=qc) (n:=4) qu (xs:=xs);have e3:=h2.1;omega
def VQ.get{i:Int}{K:Bool->Sl->Bool->Sl->Prop}(hv:VQ f D B l p)(hB:Bk D h f)(k:Nat)(hi:i=k)(hk:k<p.length)
 (H:∀x:aC,NR D x p[k]->BR B p[k]->K x.num.neg x.num.ah x.den.neg x.den.ah) :
 zi l i 4 λa=>aB .bool (a.add 0) (λx0=>aB .sl (a.add 1) (λx1=>aB .bool (a.add 2) (λx2=>aB .sl (a.add 3) (λx3=>K x0 x1 x2 x3) h) h) h) h:=by
 obtain⟨xs,h1,h2⟩:=hv;have bP:k<xs.length:=by rw[h2.1];exact hk
 have:=h2.2 k bP hk;exact HA k (h1.rd hB) hi bP (H _ this.1 this.2)
def VQ.set{i:Int}{K:Hp->Prop}(hv:VQ f D B l p)(hB:Bk D h f)(k:Nat)(hi:i=k)(hk:k<p.length)(hx:NR D x v)(bx:BR B v)
 (H:∀f' h',Bk D h' f'->VQ f' D B l (p.set k v)->(∀b,¬eP l b->f' b=f b)->K h') :
 zi l i 4 λa=>bD a [.bool x.num.neg,.slice x.num.ah.a x.num.ah.len x.num.ah.cap,.bool x.den.neg,.slice x.den.ah.a x.den.ah.len x.den.ah.cap] K h:=by
 have hl:=hv.len;obtain⟨xs,h1,h2⟩:=hv;have bP:k<xs.length:=by rw[h2.1];exact hk
 refine h1.st k hB hi zO (qu x) zD (zZ x) λf' h' B6 ho hf=>H f' h' B6 ⟨xs.set k x,?_,h2.set hx bx⟩ hf
 have e:=zbq qu (x:=x) bP;exact e▸ho
def VQ.Cw(hv:VQ f D B l p)(hB:Bk D h f):∃D' f',D.le D'/\Bk D' h f'/\PL D' B l p/\∀b,¬eP l b->f' b=f b:=by
 obtain⟨xs,h1,h2⟩:=hv;obtain⟨D',f',g1,g2,g3,g4⟩:=hB.Cw h1;exact⟨D',f',g1,g2,⟨xs,g3,h2.le g1,h1.2.1⟩,g4⟩
def Zb1{m:Sl}{pb:Nat}{KS:Hp->Prop}(hB:Bk D h f)(hf0:f pb=some cs)(mA:cs[1]?=some (.slice m.a m.len m.cap))(AN:¬eP m pb)(ho:OS f 4 m (Yi n [.bool false,zN,.bool false,zN]))(hn:n<=1000)
 (H:∀D' f' h',D.le D'->Bk D' h' f'->VQ f' D' 2 m (Zt n)->(∀b,¬eP m b->f' b=f b)->KS h') :
 zx (S:=Int×Unit) (λs9 k10 h8=>
 (ak (decide (s9.1<(m.len:Int)))
 (aB (.sl) ((⟨pb,0,none⟩:Addr).add 1) (λgd=>
 (za (F.zr 0) (λbZ h9=>
 (zi gd s9.1 4 λdV=>
 (bD dV [.bool bZ.num.neg,.slice bZ.num.ah.a bZ.num.ah.len bZ.num.ah.cap,.bool bZ.den.neg,.slice bZ.den.ah.a bZ.den.ah.len bZ.den.ah.cap] (λaZ=>
 (k10 ((i64.wrap (s9.1+1)),()) aZ)) h9))) h8)) h8)
 (KS h8))) (0,()) h:=by
  have ml:m.len=n:=by
   have:=ho.1;rw[C4]at this;simp at this;omega
  rw[ml];refine Y8 (n:=n) zO (λi h'=>∃D' f' xs,D.le D'/\Bk D' h' f'/\OS f' 4 m (xs.flatMap qc)/\xs.length=n/\(∀j (hj:j<xs.length),j<i->NR D' xs[j] 0)/\(∀b,¬eP m b->f' b=f b))
   ⟨D,f,Jl n ⟨⟨false,zd⟩,⟨false,zd⟩⟩,Jf _,hB,?_,zS,λj _ hj=>absurd hj (Te _),λ_ _=>rfl⟩ ?_
  . have e:(Jl n (⟨⟨false,zd⟩,⟨false,zd⟩⟩:aC)).flatMap qc=Yi n [.bool false,zN,.bool false,zN]:=by
     unfold Yi;rw[List.flatMap_def,List.map_replicate];rfl
    rw[e];exact ho
  . rintro i h1 hi ⟨D1,f1,xs,d1,b1,o1,lx,hz,hf⟩ k ck;refine zg (λh2=>?_) (λh2=>?_)
    . have aA:i<n:=by have:(i:Int)<(n:Int):=h2;omega
      refine⟨m,by rw[sX,Uo];exact b1.cell ((hf pb AN).trans hf0) mA,?_⟩;refine b1.call (K1:=λz D'=>NR D' z ((0:Int):Rat)) (Zr zD zD λz h' _ hz=>hz) λz D2 h3 d2 b2 fB=>?_
      refine o1.st i b2 rfl zO (qu z) zD (zZ z) λf2 h4 b3 o3 hf3=>ck _ aA ⟨D2,f2,xs.set i z,Ja d1 d2,b3,?_,by simp[lx],λj hj fy=>?_,λb hb=>(hf3 b hb).trans (hf b hb)⟩
      . have e:=zbq qu (x:=z) (xs:=xs) (k:=i) zO;exact e▸o3
      . rw[List.getElem_set];by_cases nA:i=j;rw[if_pos nA];exact fB
        . rw[if_neg nA];have vm:j<xs.length:=by simpa using hj
          have:=hz j vm zO;exact⟨this.1.le d2,this.2.le d2⟩
    . have:i=n:=by have:¬(i:Int)<(n:Int):=h2;omega
      subst this;refine H D1 f1 h1 d1 b1 ⟨xs,o1,by rw[lx];simp[Zt],λj j1 j2=>?_⟩ hf;have:=hz j j1 zO;have e:(Zt i)[j]=0:=by simp[Zt]
      rw[e];exact⟨this,Vk.mono zD⟩
end
end Den
end

section
namespace Den
open Go Iv Pq
def sh(r a:List Rat)(i:Nat):List Rat:=r.take i++a.drop i
def Zjl{r a:List Rat}:sh r a 0=a:=by simp[sh]
def Zor{r a:List Rat}(h:r.length=a.length){i:Nat}(hi:i<=a.length):(sh r a i).length=a.length:=by
 simp[sh,h];omega
def Zoq{r a:List Rat}(h:r.length=a.length){i:Nat}(hi:i<a.length)(h':i<(sh r a i).length):(sh r a i)[i]=a[i]:=by
 apply Gg;rw[<-Jp,<-Jp];unfold sh;have e:(r.take i).length=i:=by rw[Jk];omega
 rw[List.getElem?_append_right zO,List.getElem?_drop,e,Py,G0]
def Zos{r a:List Rat}(h:r.length=a.length){i:Nat}(hi:i<a.length):(sh r a i).set i (r[i]'zO)=sh r a (i+1):=by
 unfold sh;have e:(r.take i).length=i:=by rw[Jk];omega
 rw[List.set_append_right _ _ zO,e,Py,List.drop_eq_getElem_cons hi,List.set_cons_zero,Jc zO,J8];rfl
section
variable {f:BM}{B b:Nat}{l y v c yv yc:Sl}{a:List Rat}{x q:aC}{w:Rat}{KS:Hp->Prop}
def Bk.ldp{lf:Lf}{z:lf.T}{K:lf.T->Prop}(hB:Bk D h f)(hf:f b=some cs)(i:Nat)(hv:cs[i]?=some (lf.up z))(H:K z):Yv (some ⟨b,0,none⟩) λp=>aB lf (p.add i) K h:=by
 show aB lf ((⟨b,0,none⟩:Addr).add i) K h;rw[sX,Uo];exact hB.ld hf hv H
def Z5y{ad:Addr}(hc:h.cell ad=some (bO l))(hp:PL h B l p)(hB:B<=1000000000000)(hlen:p.length<=1000)(k:Nat)(hk:k<p.length)(h0:∀j (hj:j<p.length),j<k->p[j]=0)(h1:p[k]≠0)(H:∀h',h.le h'->Ki (k:Int) h'):za (F.Vl (some ad)) Ki h:=by
 refine zb (λz h'=>z=(k:Int)) (λK' bP=>?_) λz h' hl e=>by rw[e];exact H h' hl
 unfold F.Vl;show aB .sl (ad.add 0) _ h;rw[qo];refine⟨l,hc,?_⟩;refine zb (λz h'=>z=(k:Int)) (λK2 aG=>?_) λz h' hl e=>bP _ _ hl e
 unfold F.ya;rw[hp.len];refine Y8 (n:=k) zO (λi h'=>h.le h') (Jf _) ?_;rintro i h2 hi hle kk ck;refine zk (decide_eq_true (by show(i:Int)<(p.length:Int);omega)) ?_;refine(hp.le hle).get i rfl zO λx hx bx=>?_
 refine zb (λz h'=>z=(p[i].num.sign != 0)) (λK3 cw=>?_) λz h3 l3 e=>?_
 . unfold F.z0r;exact zU hx bx hB (cw _ _ (Jf _) rfl)
 . subst e;by_cases mJ:i=k
   . subst mJ;refine zk ?_ (aG _ _ (Ja hle l3) rfl);have:p[i].num≠0:=λhh=>h1 (Td.1 hh)
     simpa [Int.sign_eq_zero_iff_zero] using this
   . refine zc ?_ (ck _ zO (Ja hle l3));rw[h0 i zO zO];rfl
def zuf{vq:Nat}(hB:Bk D h f)(hf:f pb=some cs)(hfl:cs[vq]?=some (bO l))(hl:VQ f D 20 l a)(AN:¬eP l pb)(he:PL D 20 y e)(hq:NR D q w)(bq:BR 20 w)(hlen:e.length<=a.length)(hsm:e.length<=1000)(hr:r.length=a.length)
 (oA:∀j (hj:j<e.length) (vi:j<a.length) (hj3:j<r.length),r[j]=a[j]-w*e[j]) (hbr:∀v∈r,BR 20 v)
 (H:∀D' f' h',D.le D'->Bk D' h' f'->VQ f' D' 20 l (sh r a e.length)->(∀b,¬eP l b->f' b=f b)->KS h') :
 zx (S:=Int×Unit) (λim k14 h5=>
 (ak (decide (im.1<(y.len:Int)))
 (zi y im.1 4 λiU=>
 (aB (.bool) (iU.add 0) (λiu=>
 (aB (.sl) (iU.add 1) (λiw=>
 (aB (.bool) (iU.add 2) (λj8=>
 (aB (.sl) (iU.add 3) (λj9=>
 (Yv (some ⟨pb,0,none⟩) λRc=>
 (aB (.sl) (Rc.add vq) (λnF=>
 (Yv (some ⟨pb,0,none⟩) λRf=>
 (aB (.sl) (Rf.add vq) (λoF=>
 (zi oF im.1 4 λoL=>
 (aB (.bool) (oL.add 0) (λoM=>
 (aB (.sl) (oL.add 1) (λoN=>
 (aB (.bool) (oL.add 2) (λoO=>
 (aB (.sl) (oL.add 3) (λoS=>
 (za (F.yl (⟨(⟨q.num.neg,q.num.ah⟩:aE),(⟨q.den.neg,q.den.ah⟩:aE)⟩:aC) (⟨(⟨iu,iw⟩:aE),(⟨j8,j9⟩:aE)⟩:aC)) (λjt h6=>
 (za (F.Xo (⟨(⟨oM,oN⟩:aE),(⟨oO,oS⟩:aE)⟩:aC) jt) (λdL h7=>
 (zi nF im.1 4 λvV=>
 (bD vV [.bool dL.num.neg,.slice dL.num.ah.a dL.num.ah.len dL.num.ah.cap,.bool dL.den.neg,.slice dL.den.ah.a dL.den.ah.len dL.den.ah.cap] (λh8=>
 (k14 ((i64.wrap (im.1+1)),()) h8)) h7))) h6)) h5)) h5)) h5)) h5)) h5))) h5))) h5))) h5)) h5)) h5)) h5))
 (KS h5))) (0,()) h:=by
  rw[he.len];refine Y8 (n:=e.length) zO (λi h'=>∃D' f',D.le D'/\Bk D' h' f'/\VQ f' D' 20 l (sh r a i)/\(∀b,¬eP l b->f' b=f b)) ⟨D,f,Jf _,hB,by rw[Zjl];exact hl,λ_ _=>rfl⟩ ?_;rintro i h1 hi ⟨D1,f1,d1,b1,v1,g1⟩ kk ck;refine zg (λh2=>?_) (λh2=>?_)
  . have aA:i<e.length:=by have:(i:Int)<(e.length:Int):=h2;omega
    have hf1:f1 pb=some cs:=(g1 pb AN).trans hf;have hm:i<(sh r a i).length:=by rw[Zor hr zO];omega
    refine(he.le d1).cT i b1.le rfl aA λyV mv b16=>?_
    refine b1.ldp hf1 vq hfl (b1.ldp hf1 vq hfl ?_);refine v1.get b1 i rfl hm λyY vw b22=>?_
    rw[Zoq hr zO]at vw b22;refine b1.call (K1:=λz D'=>NR D' z (w*e[i])) (wR (hq.le d1) mv bq b16 zD zD λz h' _ hz=>hz) λz D2 h6 d2 b2 hz=>?_
    refine b2.call (K1:=λz D'=>NR D' z (a[i]-w*e[i])) (zmo ⟨vw.1.le d2,vw.2.le d2⟩ hz b22 (bq.mul b16) zD zD λz h' _ hz=>hz) λz D3 h7 d3 b3 zM=>?_
    have d13:=Ja d2 d3;rw[<-oA i aA zO zO]at zM;refine(v1.le d13).set b3 i rfl hm zM (hbr _ (Jy _)) λf4 h8 b4 v4 g4=>ck _ aA ⟨D3,f4,Ja d1 d13,b4,?_,λb hb=>(g4 b hb).trans (g1 b hb)⟩
    rw[Zos hr zO]at v4;exact v4
  . have:i=e.length:=by have:¬(i:Int)<(e.length:Int):=h2;omega
    subst this;exact H D1 f1 h1 d1 b1 v1 g1
def NR.qR{x:aC}{h':Hp}(hx:NR h x w)(hl:h.le h'):NR h' x w:=⟨hx.1.le hl,hx.2.le hl⟩
def Z1n(hB:Bk D h f)(hf:f pb=some [bO v,bO c])(hv:VQ f D 20 v a)(AN:¬eP v pb)(he:PL D 20 yv e)(hlen:e.length<=1000)(k:Nat)(hk:k<e.length)(qQ:k<a.length)(h0:∀j (hj:j<e.length),j<k->e[j]=0)(h1:e[k]≠0)(hw:a[k]/e[k]=w)(bw:BR 20 w)
 (H0:w=0->∀D' h',D.le D'->Bk D' h' f->KU () h')
 (H1:w≠0->∀(q:aC) D' h' (b:Nat),D.le D'->Bk D' h' f->NR D' q w->D'.cell ⟨b,0,none⟩=some (bO yv)->D'.cell ⟨b,1,none⟩=some (bO yc) ->
   aB (.sl) ((⟨b,0,none⟩:Addr).add 0) (λjY=>
 (zx (S:=Int×Unit) (λim k14 h5=>
 (ak (decide (im.1<(jY.len:Int)))
 (zi jY im.1 4 λiU=>
 (aB (.bool) (iU.add 0) (λiu=>
 (aB (.sl) (iU.add 1) (λiw=>
 (aB (.bool) (iU.add 2) (λj8=>
 (aB (.sl) (iU.add 3) (λj9=>
 (Yv (some ⟨pb,0,none⟩) λRc=>
 (aB (.sl) (Rc.add 0) (λnF=>
 (Yv (some ⟨pb,0,none⟩) λRf=>
 (aB (.sl) (Rf.add 0) (λoF=>
 (zi oF im.1 4 λoL=>
 (aB (.bool) (oL.add 0) (λoM=>
 (aB (.sl) (oL.add 1) (λoN=>
 (aB (.bool) (oL.add 2) (λoO=>
 (aB (.sl) (oL.add 3) (λoS=>
 (za (F.yl (⟨(⟨q.num.neg,q.num.ah⟩:aE),(⟨q.den.neg,q.den.ah⟩:aE)⟩:aC) (⟨(⟨iu,iw⟩:aE),(⟨j8,j9⟩:aE)⟩:aC)) (λjt h6=>
 (za (F.Xo (⟨(⟨oM,oN⟩:aE),(⟨oO,oS⟩:aE)⟩:aC) jt) (λdL h7=>
 (zi nF im.1 4 λvV=>
 (bD vV [.bool dL.num.neg,.slice dL.num.ah.a dL.num.ah.len dL.num.ah.cap,.bool dL.den.neg,.slice dL.den.ah.a dL.den.ah.len dL.den.ah.cap] (λh8=>
 (k14 ((i64.wrap (im.1+1)),()) h8)) h7))) h6)) h5)) h5)) h5)) h5)) h5))) h5))) h5))) h5)) h5)) h5)) h5))
 (aB (.sl) ((⟨b,0,none⟩:Addr).add 1) (λyS=>
 (zx (S:=Int×Unit) (λma k28 h9=>
 (ak (decide (ma.1<(yS.len:Int)))
 (zi yS ma.1 4 λuX=>
 (aB (.bool) (uX.add 0) (λoT=>
 (aB (.sl) (uX.add 1) (λoU=>
 (aB (.bool) (uX.add 2) (λoV=>
 (aB (.sl) (uX.add 3) (λoW=>
 (Yv (some ⟨pb,0,none⟩) λp31=>
 (aB (.sl) (p31.add 1) (λx32=>
 (Yv (some ⟨pb,0,none⟩) λp33=>
 (aB (.sl) (p33.add 1) (λx34=>
 (zi x34 ma.1 4 λyZ=>
 (aB (.bool) (yZ.add 0) (λwb=>
 (aB (.sl) (yZ.add 1) (λwe=>
 (aB (.bool) (yZ.add 2) (λwg=>
 (aB (.sl) (yZ.add 3) (λwh=>
 (za (F.yl (⟨(⟨q.num.neg,q.num.ah⟩:aE),(⟨q.den.neg,q.den.ah⟩:aE)⟩:aC) (⟨(⟨oT,oU⟩:aE),(⟨oV,oW⟩:aE)⟩:aC)) (λF0 aZ=>
 (za (F.Xo (⟨(⟨wb,we⟩:aE),(⟨wg,wh⟩:aE)⟩:aC) F0) (λju bV=>
 (zi x32 ma.1 4 λa39=>
 (bD a39 [.bool ju.num.neg,.slice ju.num.ah.a ju.num.ah.len ju.num.ah.cap,.bool ju.den.neg,.slice ju.den.ah.a ju.den.ah.len ju.den.ah.cap] (λcu=>
 (k28 ((i64.wrap (ma.1+1)),()) cu)) bV))) aZ)) h9)) h9)) h9)) h9)) h9))) h9))) h9))) h9)) h9)) h9)) h9))
 (KU () h9)))
 (0,()) h5)) h5)))
 (0,()) h')) h'):F.Yp (some ⟨pb,0,none⟩) ⟨yv,yc⟩ KU h:=by
  unfold F.Yp;refine hB.abq (cs:=[bO yv,bO yc]) λb D1 hh1 _ d1 bp b1=>?_
  have c0:=bp 0 _ rfl;have c1:=bp 1 _ rfl;refine b1.call (K1:=λz D'=>z=(k:Int)) (Z5y (l:=yv) c0 (he.le d1) zD hlen k hk h0 h1 λh' _=>rfl) λz D2 h2 d2 b2 hz=>?_
  subst hz;have d12:=Ja d1 d2;refine b2.ldp (lf:=.sl) (z:=v) hf 0 rfl ?_;refine(hv.le d12).get b2 k rfl qQ λx6 n6 b6=>?_
  refine⟨yv,by rw[qo];exact Lc b2.le (Lc d2 c0),?_⟩;refine(he.le d12).cT k b2.le rfl hk λx9 n9 b9=>?_
  have hnz:e[k].num≠0:=λhh=>h1 (Td.1 hh)
  refine b2.call (K1:=λz D'=>z.2=0/\NR D' z.1 w) (zhv n6 n9 b6 b9 zD zD hnz λz h' _ hz=>⟨rfl,by rw[<-hw];exact hz⟩) λz D3 h3 d3 b3 ⟨_,n3⟩=>?_
  refine b3.call (K1:=λz D'=>z=w.num.sign) (zU (x:=z.1) n3 bw zD rfl) λs D4 h4 d4 b4 hs=>?_
  subst hs;have d14:=Ja d12 (Ja d3 d4);refine Zs (λhh=>?_) (λhh=>?_);exact H0 (Td.1 (Int.sign_eq_zero_iff_zero.1 hh)) D4 h4 d14 b4
  . have d24:=Ja d2 (Ja d3 d4);exact H1 (λe0=>hh (by rw[e0];rfl)) ⟨⟨z.1.num.neg,z.1.num.ah⟩,⟨z.1.den.neg,z.1.den.ah⟩⟩ D4 h4 b d14 b4 (n3.qR d4) (Lc d24 c0) (Lc d24 c1)
end
end Den
end

section
namespace Den
open Go Iv Pq
def rc(x:aW):List Value:=[bO x.dB,bO x.bE]
def Zkb(x:aW):(rc x).length=2:=rfl
def Ey{p:List Rat}(h:(p.all λv=>decide (v.num.natAbs<W ^ 20/\v.den<W ^ 20))=true):∀v∈p,BR 20 v:=λv hv=>by
 have:=List.all_eq_true.1 h v hv;have:=of_decide_eq_true this;exact⟨this.1,by unfold Lt;rw[Int.natAbs_natCast];exact this.2⟩
def RF(D:Hp)(rs:List aW)(ps:List (List Rat×List Rat)):Prop:=rs.length=ps.length/\∀i (h1:i<rs.length) (h2:i<ps.length),PL D 20 rs[i].dB ps[i].1/\PL D 20 rs[i].bE ps[i].2
structure MS(D h:Hp)(f:BM)(pb:Nat)(v c rows:Sl)(rs:List aW)(a d:List Rat):Prop where
 bk:Bk D h f
 pf:f pb=some [bO v,bO c]
 vv:VQ f D 20 v a
 vc:VQ f D 20 c d
 ro:OS f 2 rows (rs.flatMap rc)
 d1:¬eP v pb
 d2:¬eP c pb
 d3:∀b,eP v b->¬eP c b
 d4:∀b,eP rows b->¬eP v b/\¬eP c b/\b≠pb
section
variable {f:BM}{b:Nat}{l y v c:Sl}{ps:List (List Rat × List Rat)}{a d ra rd gg:List Rat}{q:aC}{w:Rat}{row:aW}
def RF.le(hr:RF D rs ps)(hl:D.le D'):RF D' rs ps:=⟨hr.1,λi h1 h2=>⟨(hr.2 i h1 h2).1.le hl,(hr.2 i h1 h2).2.le hl⟩⟩
def Z9v(hs:MS D h f pb v c rows rs a d)(he:PL D 20 row.dB e)(hlen:e.length<=1000)(k:Nat)(hk:k<e.length)(qQ:k<a.length)(h0:∀j (hj:j<e.length),j<k->e[j]=0)(h1:e[k]≠0)(hw:a[k]/e[k]=0)
 (H:∀D' h',D.le D'->MS D' h' f pb v c rows rs a d->KU () h'):kE (F.Yp (some ⟨pb,0,none⟩) row) KU h:=
 C1 (Z1n (yv:=row.dB) (yc:=row.bE) hs.bk hs.pf hs.vv hs.d1 he hlen k hk qQ h0 h1 hw (Vk.mono zD) (λ_ D' h' l1 b1=>H D' h' l1 ⟨b1,hs.pf,hs.vv.le l1,hs.vc.le l1,hs.ro,hs.d1,hs.d2,hs.d3,hs.d4⟩) λhh=>absurd rfl hh)
def Zpf(hs:MS D h f pb v c rows rs a d)(he:PL D 20 row.dB e)(hg:PL D 20 row.bE gg)(hlen:e.length<=1000)(aae:gg.length<=1000)(k:Nat)(hk:k<e.length)(qQ:k<a.length)(h0:∀j (hj:j<e.length),j<k->e[j]=0)(h1:e[k]≠0)(hw:a[k]/e[k]=w)(hw0:w≠0)(bw:BR 20 w)
 (hea:e.length<=a.length) (hgd:gg.length<=d.length) (hra:ra.length=a.length) (eh:rd.length=d.length)
 (oA:∀j (hj:j<e.length) (vi:j<a.length) (hj3:j<ra.length),ra[j]=a[j]-w*e[j]) (hbr:∀v∈ra,BR 20 v)
 (aaf:∀j (hj:j<gg.length) (vi:j<d.length) (hj3:j<rd.length),rd[j]=d[j]-w*gg[j]) (abL:∀v∈rd,BR 20 v)
 (H:∀D' f' h',D.le D'->MS D' h' f' pb v c rows rs (sh ra a e.length) (sh rd d gg.length)->KU () h'):kE (F.Yp (some ⟨pb,0,none⟩) row) KU h:=by
 refine C1 (Z1n (yv:=row.dB) (yc:=row.bE) hs.bk hs.pf hs.vv hs.d1 he hlen k hk qQ h0 h1 hw bw (λe0=>absurd e0 hw0) λ_ q D1 hh1 b l1 b1 nq c0 c1=>?_);refine⟨row.dB,by rw[qo];exact Lc b1.le c0,?_⟩;refine zuf (l:=v) (r:=ra) b1 hs.pf (vq:=0) rfl (hs.vv.le l1) hs.d1 (he.le l1) nq bw hea hlen hra oA hbr λD2 f2 hh2 l2 b2 v2 g2=>?_
 refine⟨row.bE,by rw[sX,Uo];exact Lc b2.le (Lc l2 c1),?_⟩;have bS:=Ja l1 l2;have Fq:VQ f2 D2 20 c d:=(hs.vc.le bS).congr λb hb=>g2 b λhv=>hs.d3 b hv hb
 have pf2:f2 pb=some [bO v,bO c]:=(g2 pb hs.d1).trans hs.pf;refine zuf (l:=c) (r:=rd) b2 pf2 (vq:=1) rfl Fq hs.d2 (hg.le bS) (nq.qR l2) bw hgd aae eh aaf abL λD3 f3 hh3 l3 b3 v3 g3=>?_
 refine H D3 f3 hh3 (Ja bS l3) ⟨b3,(g3 pb hs.d2).trans pf2,(v2.le l3).congr λb hb=>g3 b (hs.d3 b hb),v3,?_,hs.d1,hs.d2,hs.d3,hs.d4⟩;exact hs.ro.congr λb hb=>(g3 b (hs.d4 b hb).2.1).trans (g2 b (hs.d4 b hb).1)
def Zby{k:Nat}{KK:Addr->Hp->Prop}(hB:Bk D h f)(ho:OS f 2 rows (rs.flatMap rc))(hp:PL D 20 pR p)(hlen:p.length<=1000)(hk:k<=100)
 (H:∀D' f' h' pb v c,D.le D'->MS D' h' f' pb v c rows rs p ((Zt (k+1)).set k 1)->KK ⟨pb,0,none⟩ h') :
 za (F.Zl pR) (λr5 h4=>
 (eW (i64.wrap ((k:Int)+1)) (i64.wrap ((k:Int)+1)) 64 [.bool false,zN,.bool false,zN] (λm6 h5=>
 (Ys [zN,zN] (λp7 h6=>
 (bD p7 [.slice r5.a r5.len r5.cap,.slice m6.a m6.len m6.cap] (λh7=>
 (aB (.sl) (p7.add 1) (λx8=>
 (zx (S:=Int×Unit) (λs9 k10 h8=>
 (ak (decide (s9.1<(x8.len:Int)))
 (aB (.sl) (p7.add 1) (λgd=>
 (za (F.zr 0) (λbZ h9=>
 (zi gd s9.1 4 λdV=>
 (bD dV [.bool bZ.num.neg,.slice bZ.num.ah.a bZ.num.ah.len bZ.num.ah.cap,.bool bZ.den.neg,.slice bZ.den.ah.a bZ.den.ah.len bZ.den.ah.cap] (λaZ=>
 (k10 ((i64.wrap (s9.1+1)),()) aZ)) h9))) h8)) h8)
 (aB (.sl) (p7.add 1) (λkW=>
 (za (F.zr 1) (λcA bV=>
 (zi kW (k:Int) 4 λkV=>
 (bD kV [.bool cA.num.neg,.slice cA.num.ah.a cA.num.ah.len cA.num.ah.cap,.bool cA.den.neg,.slice cA.den.ah.a cA.den.ah.len cA.den.ah.cap] (λcu=>
 KK p7 cu) bV))) h8)) h8)))
 (0,()) h7)) h7)) h6)) h5)) h4)) h:=by
  refine hB.call (K1:=λz D'=>OL D D' 20 z p) (WD hp zO λy h' o=>o) λv D1 h1 l1 b1 ⟨E,hE,xs,ib,qF⟩=>?_
  obtain⟨D2,f2,l2,b2,o2,g2⟩:=b1.take ib.1 ib;have dD2:D.le D2:=Ja hE l2;have aag:OS f2 2 rows (rs.flatMap rc):=ho.congr λb hb=>(g2 b (ho.there hb)).1
  have Hx:∀b,eP rows b->¬eP v b:=λb hb=>(g2 b (ho.there hb)).2
  have ek:i64.wrap ((k:Int)+1)=((k+1:Nat):Int):=by rw[aM zO];omega
  rw[ek];refine b2.mkF (k+1) (k+1) rfl rfl (Jd _) zO zO λmb h3 m1 _ b3=>?_
  obtain⟨c,hc⟩:∃c:Sl,c=⟨some ⟨mb,0,none⟩,k+1,k+1⟩:=⟨_,rfl⟩;rw[<-hc];have oc:=OS.mk (f:=f2) (b:=mb) (size:=4) (n:=k+1) (c:=k+1) (zero:=[.bool false,zN,.bool false,zN]) rfl (Jd _);rw[<-hc]at oc;have aah:∀b,eP c b↔b=mb:=λb=>by
   rw[hc];constructor;rintro⟨a,h1,h2⟩;cases h1;exact h2.symm;rintro rfl;exact⟨_,rfl,rfl⟩
  have vmb:¬eP v mb:=λhh=>o2.there hh m1
  have rmb:¬eP rows mb:=λhh=>aag.there hh m1
  have ov3:=o2.cJ (jD:=Yi (k+1) [.bool false,zN,.bool false,zN]) vmb;have or3:=aag.cJ (jD:=Yi (k+1) [.bool false,zN,.bool false,zN]) rmb;obtain⟨f3,ef3⟩:∃f3,f3=mn f2 mb (Yi (k+1) [.bool false,zN,.bool false,zN]):=⟨_,rfl⟩;rw[<-ef3]at b3 oc ov3 or3;refine b3.XW λpb h4 p1 _ b4=>?_
  have vpb:¬eP v pb:=λhh=>ov3.there hh p1
  have cpb:¬eP c pb:=λhh=>oc.there hh p1
  have rpb:¬eP rows pb:=λhh=>or3.there hh p1
  refine b4.st Ah (Jd 2) rfl λh5 b5=>?_
  rw[Zcd]at b5;have e5:Zn [Value.slice zd.a zd.len zd.cap,zN] 0 [bO v,bO c]=[bO v,bO c]:=rfl;have b5:Bk D2 h5 (mn f3 pb [bO v,bO c]):=e5▸b5;have ov5:=ov3.cJ (jD:=[bO v,bO c]) vpb;have oc5:=oc.cJ (jD:=[bO v,bO c]) cpb;have or5:=or3.cJ (jD:=[bO v,bO c]) rpb;have pf5:mn f3 pb [bO v,bO c] pb=some [bO v,bO c]:=Ah;obtain⟨f5,ef5⟩:∃f5,f5=mn f3 pb [bO v,bO c]:=⟨_,rfl⟩;rw[<-ef5]at b5 ov5 oc5 or5 pf5;have vv5:VQ f5 D2 20 v p:=⟨xs,ov5,qF.le l2⟩;refine⟨c,by rw[sX,Uo];exact b5.cell pf5 rfl,?_⟩;refine Zb1 b5 pf5 rfl cpb oc5 zO λD6 f6 h6 l6 b6 v6 g6=>?_
  have pf6:f6 pb=some [bO v,bO c]:=(g6 pb cpb).trans pf5;have vdc:∀b,eP v b->¬eP c b:=λb hb NM=>vmb ((aah b).1 NM▸hb)
  have rdc:∀b,eP rows b->¬eP c b:=λb hb NM=>rmb ((aah b).1 NM▸hb)
  refine⟨c,by rw[sX,Uo];exact b6.cell pf6 rfl,?_⟩;refine b6.call (K1:=λz D'=>NR D' z ((1:Int):Rat)) (Zr zD zD λz h' _ hz=>hz) λz D7 h7 l7 b7 hz=>?_
  refine((v6.le l7).IP).set b7 k rfl (by simp[Zt]) (v:=1) hz (Ey (p:=[1]) (by decide +kernel) _ zS) λf8 h8 b8 v8 g8=>?_
  refine H D7 f8 h8 pb v c (Ja dD2 (Ja l6 l7)) ⟨b8,(g8 pb cpb).trans pf6,?_,v8,?_,vpb,cpb,vdc,λb hb=>⟨Hx b hb,rdc b hb,λhh=>rpb (hh▸hb)⟩⟩;exact((vv5.le (Ja l6 l7)).congr λb hb=>g6 b (vdc b hb)).congr λb hb=>g8 b (vdc b hb)
  exact(or5.congr λb hb=>g6 b (rdc b hb)).congr λb hb=>g8 b (rdc b hb)
end
end Den
end

noncomputable section
namespace Den
open Go Iv Pq
def tm(k:Nat):List (List Rat×List Rat):=[([1,0],[1]),([0,1],[0,1])].take k
def Ez:Nat->List Rat
 | 0=>[1,0]
 | 1=>[0,1]
 | _=>[2,0]
def xM:Nat->Re
 | 0=>Jn 1
 | 1=>Jn 1*s2
 | _=>Jn 1*s2*s2
def Zn1(a b:Rat):tv U2 [a,b]=Jn a+s2*Jn b:=rfl
def Zz3(k:Nat):tv U2 (Ez k)=xM k:=by
 match k with
 | 0=>show tv U2 [1,0]=Jn 1;rw[Zn1,Ti,J0,Ua]
 | 1=>show tv U2 [0,1]=Jn 1*s2;rw[Zn1,Ti,Re.zero_add,Re.mul_comm]
 | k+2=>show tv U2 [2,0]=Jn 1*s2*s2;rw[Zn1,Ti,J0,Ua,Re.mul_assoc,Z0x,<-G4];exact congrArg Jn (by decide +kernel)
def Z5z(k:Nat):(Ez k).length=2:=by
 match k with
 | 0=>rfl
 | 1=>rfl
 | k+2=>rfl
def Zz2(k:Nat):∀v∈Ez k,BR 20 v:=by
 match k with
 | 0=>exact Ey (by decide +kernel)
 | 1=>exact Ey (by decide +kernel)
 | k+2=>exact Ey (p:=[2,0]) (by decide +kernel)
def EV.pw{h:Hp}{k s:Nat}{l:Sl}(he:EV h 300 U2 (xM k) s l):PL h 20 l (Ez k):=by
 obtain⟨p,hp,lp,vp,_⟩:=he;obtain rfl:p=Ez k:=HN Zkm lp (Z5z k) (vp.trans (Zz3 k).symm);exact hp.re (Zz2 k)
section
variable {f:BM}{y v c:Sl}{s:Nat}
def RF.at{k:Nat}(hr:RF D rs (tm k))(hk:k<=2)(i:Nat)(hi:i<k):∃h1:i<rs.length,PL D 20 rs[i].dB ((tm 2)[i]'(by show i<2;omega)).1/\PL D 20 rs[i].bE ((tm 2)[i]'(by show i<2;omega)).2:=by
 have hl:rs.length=k:=by
  rw[hr.1];unfold tm;rw[Jk];simp;omega
 have h2:i<(tm k).length:=by rw[<-hr.1];omega
 refine⟨zO,?_⟩;have:=hr.2 i zO h2;have e:(tm k)[i]=(tm 2)[i]'(by show i<2;omega):=by
  apply Gg;rw[<-Jp,<-Jp];unfold tm;rw[Lp,if_pos hi];rfl
 rw[e]at this;exact this
def zup(hx:NJ G 300 U2 h X (s2,300))(H:∀y h',h.le h'->PL h' 20 y [-2,0,1]->Ks y h'):za (F.z2w X) Ks h:=by
 refine zb _ (λK' hk=>?_) H;unfold F.z2w;refine Zr (n:=1) zD zD λz1 h1 l1 n1=>?_
 refine B1 (s:=1) (hx.1.le l1) n1 ⟨by unfold Lt W;decide +kernel,by unfold Lt W;decide +kernel⟩ zD λz2 h2 e2=>?_
 have l2:=Ja l1 e2.hle;refine Za (λst h'=>∃(k:Nat) (D:Hp) (f:BM) (rs:List aW),st.2.2.1=(k:Int)/\k<=2/\h2.le D/\Bk D h' f/\OS f 2 st.1 (rs.flatMap rc)/\RF D rs (tm k)/\EV D 300 U2 (xM k) (300*k+1) st.2.1)
  (λst=>(2-st.2.2.1).toNat) ⟨0,h2,Zjw,[],rfl,zD,Jf _,Bk.start,OS.nil,⟨rfl,λi h1=>absurd h1 (Te _)⟩,e2.ev⟩ ?_
 rintro⟨rows,pR,i0,u⟩ h3 ⟨k,D,f,rs,hi,aG,hD,hB,ho,hrf,vD⟩;have hi:i0=(k:Int):=hi;subst hi;have ho:OS f 2 rows (rs.flatMap rc):=ho;have vD:EV D 300 U2 (xM k) (300*k+1) pR:=vD;have dG:rs.length=k:=by
  rw[hrf.1];unfold tm;rw[Jk];simp;omega
 have rl:rows.len=k:=by
  have:=ho.1;rw[yr Zkb,dG]at this;omega
 dsimp only;refine Zby hB ho vD.pw (by rw[Z5z];decide) (k:=k) zO λD1 f1 h4 pb v c d1 ms0=>?_
 rw[rl];have exM:∀k:Nat,k<=1->xM k*s2=xM (k+1):=λk hk=>by
  match k,hk with
  | 0,_=>rfl
  | 1,_=>rfl
 obtain⟨aI,EA⟩:∃aI:Nat->List Rat,aI=λi=>if k=2/\1<=i then [0,0]else Ez k:=⟨_,rfl⟩
 obtain⟨dI,IQ⟩:∃dI:Nat->List Rat,dI=λi=>if k=2/\1<=i then [-2,0,1]else (Zt (k+1)).set k 1:=⟨_,rfl⟩
 refine Y8 (n:=k) zO (λi h'=>∃D2 f2,D1.le D2/\MS D2 h' f2 pb v c rows rs (aI i) (dI i)) ⟨D1,f1,Jf _,by rw[EA,IQ];simpa using ms0⟩ ?_;rintro i h5 hi ⟨D2,f2,l5,ms⟩ kk ck;have bS:=Ja d1 l5;refine zg (λh6=>?_) (λh6=>?_)
 . have aA:i<k:=by have:(i:Int)<(k:Int):=h6;omega
   obtain⟨Et,pv,pc⟩:=hrf.at aG i aA;have pv:=pv.le bS;have pc:=pc.le bS;have g:∀j w,j<2->(rc rs[i])[j]?=some w->(rs.flatMap rc)[i*2+j]?=some w:=λj w hj hw=>by rw[Hz Zkb Et hj];exact hw
   refine C3 i (ms.ro.rd ms.bk) rfl zO zD λad uS=>⟨rs[i].dB,uS 0 _ (g 0 _ zD rfl),rs[i].bE,uS 1 _ (g 1 _ zD rfl),?_⟩
   have hc:(k=1/\i=0)\/(k=2/\i=0)\/(k=2/\i=1):=zO;rcases hc with ⟨rfl,rfl⟩ | ⟨rfl,rfl⟩ | ⟨rfl,rfl⟩
   . have ea:∀i,aI i=[0,1]:=λi=>by rw[EA];simp only;rw[if_neg zO];rfl
     have ed:∀i,dI i=[0,1]:=λi=>by rw[IQ];simp only;rw[if_neg zO];rfl
     rw[ea,ed]at ms;refine Z9v (e:=[1,0]) ms pv zD 0 zD zD (λj _ hj=>absurd hj (Te _)) zD (by decide +kernel) λD3 h7 l7 ms3=>ck _ aA ⟨D3,f2,Ja l5 l7,?_⟩
     rw[ea,ed];exact ms3
   . have ea:aI 0=[2,0]:=by rw[EA];simp only;rw[if_neg zO];rfl
     have ed:dI 0=[0,0,1]:=by rw[IQ];simp only;rw[if_neg zO];rfl
     have BY:aI 1=[0,0]:=by rw[EA];exact if_pos ⟨rfl,zD⟩
     have ed1:dI 1=[-2,0,1]:=by rw[IQ];exact if_pos ⟨rfl,zD⟩
     rw[ea,ed]at ms;refine Zpf (e:=[1,0]) (gg:=[1]) (w:=2) (ra:=[0,0]) (rd:=[-2,0,1]) ms pv pc zD zD 0 zD zD (λj _ hj=>absurd hj (Te _)) zD (by decide +kernel) zD (Ey (p:=[2]) (by decide +kernel) _ zS)
      zD zD zD zD (λj hj _ _=>?_) (Ey (by decide +kernel)) (λj hj _ _=>?_) (Ey (by decide +kernel)) λD3 f3 h7 l7 ms3=>ck _ aA ⟨D3,f3,Ja l5 l7,?_⟩
     . match j,hj with
       | 0,_=>show(0:Rat)=2-2*1;decide +kernel
       | 1,_=>show(0:Rat)=0-2*0;decide +kernel
     . match j,hj with
       | 0,_=>show(-2:Rat)=0-2*1;decide +kernel
     rw[BY,ed1];exact ms3
   . have ea:∀i,1<=i->aI i=[0,0]:=λi hi=>by rw[EA];exact if_pos ⟨rfl,hi⟩
     have ed:∀i,1<=i->dI i=[-2,0,1]:=λi hi=>by rw[IQ];exact if_pos ⟨rfl,hi⟩
     rw[ea 1 zD,ed 1 zD]at ms;refine Z9v (e:=[0,1]) ms pv zD 1 zD zD (λj _ hj=>?_) zD (by decide +kernel) λD3 h7 l7 ms3=>ck _ aA ⟨D3,f2,Ja l5 l7,?_⟩
     . match j,hj with
       | 0,_=>rfl
     rw[ea _ zD,ed _ zD];exact ms3
 . have:i=k:=by have:¬(i:Int)<(k:Int):=h6;omega
   subst this;refine⟨v,by rw[sX,Uo];exact ms.bk.cell ms.pf (i:=0) (v:=bO v) rfl,?_⟩;have eal:(aI i).length=2:=by
    rw[EA];simp only;split;rfl;exact Z5z _
   refine Mm (ms.vv.pl ms.bk) zO zD ?_;by_cases Cx:i=2
   . have ea:aI i=[0,0]:=by rw[EA];exact if_pos ⟨Cx,zO⟩
     have ed:dI i=[-2,0,1]:=by rw[IQ];exact if_pos ⟨Cx,zO⟩
     rw[ea,ed]at ms;refine zk (by rw[ea];decide +kernel) ⟨c,by rw[sX,Uo];exact ms.bk.cell ms.pf rfl,hk _ _ ?_ (ms.vc.pl ms.bk)⟩;exact Ja l2 (Ja hD (Ja bS ms.bk.le))
   . have ea:aI i=Ez i:=by rw[EA];simp only;rw[if_neg λhh=>Cx hh.1]
     have ed:dI i=(Zt (i+1)).set i 1:=by rw[IQ];simp only;rw[if_neg λhh=>Cx hh.1]
     rw[ea,ed]at ms;have nB:i=0\/i=1:=zO;refine zc (by rw[ea];rcases nB with rfl | rfl<;>decide +kernel) ?_;refine⟨v,by rw[sX,Uo];exact ms.bk.cell ms.pf rfl,c,by rw[sX,Uo];exact ms.bk.cell ms.pf rfl,?_⟩;refine ms.ro.app ms.bk (n:=1) (new:=[bO v,bO c]) rfl rfl rfl zO zO λy f3 h7 b7 o7 g7 q7=>?_
     have v7:VQ f3 D2 20 v (Ez i):=ms.vv.congr λb hb=>g7 b (λhh=>(ms.d4 b hh).1 hb) (ms.vv.there hb)
     have c7:VQ f3 D2 20 c ((Zt (i+1)).set i 1):=ms.vc.congr λb hb=>g7 b (λhh=>(ms.d4 b hh).2.1 hb) (ms.vc.there hb)
     have yv:∀b,eP y b->¬eP v b:=λb hb hv=>(q7 b hb).elim (λhh=>(ms.d4 b hh).1 hv) λhh=>ms.vv.there hv hh.1
     have yc:∀b,eP y b->¬eP c b:=λb hb hv=>(q7 b hb).elim (λhh=>(ms.d4 b hh).2.1 hv) λhh=>ms.vc.there hv hh.1
     have lx:=Ja e2.hle (Ja hD bS);refine b7.call (K1:=λz D'=>EV D' 300 U2 (xM i*s2) (300*i+1+300) z) (Af (hx.1.le (Ja l1 lx)) (vD.le bS) (hx.2.2.le (Ja l1 lx)) (by simp only;omega) λz h' e'=>e'.ev) λz D3 h8 l8 b8 ez=>?_
     obtain⟨D4,f4,l9,b9,pv,g9⟩:=(v7.le l8).Cw b8;have c9:VQ f4 D4 20 c ((Zt (i+1)).set i 1):=((c7.le l8).le l9).congr λb hb=>g9 b λhh=>ms.d3 b hh hb
     have y9:OS f4 2 y (rs.flatMap rc++[bO v,bO c]):=o7.congr λb hb=>g9 b (yv b hb)
     obtain⟨D5,f5,mX,b10,pc,XR⟩:=c9.Cw b9;have y10:OS f5 2 y (rs.flatMap rc++[bO v,bO c]):=y9.congr λb hb=>XR b (yc b hb)
     have Im:=Ja l8 (Ja l9 mX);refine⟨⟨i+1,D5,f5,rs++[⟨v,c⟩],?_,zO,Ja hD (Ja bS Im),b10,?_,?_,?_⟩,?_⟩
     . show i64.wrap _=_;rw[aM zO];omega
     rw[List.flatMap_append];exact y10
     . have ei:=hrf.le (Ja bS Im);refine⟨?_,λj j1 j2=>?_⟩
       . rw[Jq,dG];rcases nB with rfl | rfl<;>rfl
       . by_cases hj:j<rs.length
         . rw[J2 hj];have hjk:j<(tm i).length:=by rw[<-hrf.1];exact hj
           have:=ei.2 j hj hjk;have e:(tm i)[j]=(tm (i+1))[j]:=by
            apply Gg;rw[<-Jp,<-Jp];unfold tm;rw[Lp,Lp,if_pos zO,if_pos zO]
           rw[e]at this;exact this
         . have hj:j=rs.length:=by simp at j1;omega
           subst hj;rw[List.getElem_append_right (Jd _)];simp only[Py,List.getElem_cons_zero];have vb:rs.length=i:=dG;rcases nB with rfl | rfl
           . simp only[vb];exact⟨pv.le mX,pc⟩
           . simp only[vb];exact⟨pv.le mX,pc⟩
     . show EV D5 300 U2 (xM (i+1)) (300*(i+1)+1) z;rw[<-exM i zO];exact(ez.le (Ja l9 mX)).mono zO
     . show(2-i64.wrap ((i:Int)+1)).toNat<(2-(i:Int)).toNat;rw[aM zO];omega
end
end Den
end

section
namespace Den
open Go Iv Pq
def Re.sub_lt{x y:Re}(h:x<y):x-y<0:=by
 rw[Re.lt_def,Re.zero_sub,Re.neg_sub];exact h
def Zz6{q:Rat}(h0:0<q)(h:2<q*q):s2<Jn q:=by
 rcases Re.ks s2 (Jn q)with h1 | h1 | h1
 exact h1
 . exfalso;have h2:=Z0x;rw[h1,<-G4]at h2;rw[Re.dh h2]at h;exact absurd h zD
 . exfalso;have a1:0<s2-Jn q:=by rw[<-Re.dU];exact h1
   have a2:0<s2+Jn q:=by
    have:=Re.add_lt_add zri ((Re.of_lt 0 q).2 h0)
    rwa [Ti,Ua]at this
   have a3:=Re.mul_pos a1 a2;rw[Re.yB,Z0x,<-G4,<-Re.rQ,<-Ti,Re.of_lt]at a3
   grind
def mw(v:aH):List Value:=qc v.low++qc v.high
section
variable {l y chain:Sl}{i:aH}{u:Rat}{KA:zY gN}
def ztw{lo hi:Int}(hd:i64.wrap (lo-hi)=1)(H:∀y h',Own h h' 8 y (mw i)->Ks y h'):za (F.Qz (n+1) chain i lo hi) Ks h:=by
 refine zb (λy h'=>Own h h' 8 y (mw i)) (λK' hk=>?_) λy h' _ hy=>H y h' hy
 unfold F.Qz;rw[hd];refine zc rfl (zk rfl ?_);exact Qv (n:=1) (size:=8) (cells:=mw i) rfl λb h3 hb ho=>hk _ _ ho.1 ho
def NV.qR{h':Hp}(hv:NV h i u v)(hl:h.le h'):NV h' i u v:=⟨hv.1.qR hl,hv.2.qR hl⟩
def zuo(hp:PL h 1 l [-2,0,1])(H:∀y i1 i2 h',h.le h'->Rd h' 8 y (mw i1++mw i2)->NV h' i1 (-3) 0->NV h' i2 0 3->Ks y h'):za (F.z8h l) Ks h:=by
 refine zb (λy h'=>∃i1 i2,Rd h' 8 y (mw i1++mw i2)/\NV h' i1 (-3) 0/\NV h' i2 0 3) (λK' hk=>?_) λy h' hl ⟨i1,i2,g1,g2,g3⟩=>H y i1 i2 h' hl g1 g2 g3
 unfold F.z8h;refine Zam Zz9 Zoa hp λc h1 l1 hc=>?_
 refine zc (by rw[hc.len];rfl) ?_;have b3:b1 [(3:Rat)]=true:=by decide +kernel
 have bm3:b1 [(-3:Rat)]=true:=by decide +kernel
 refine zb (λv h'=>NV h' v (-3) 3) (λK1 cy=>?_) λv h2 l2 hv=>?_
 . unfold F.zff;refine Z01 (hp.le l1) zD zD λr1 h2 l2 n1=>?_
   have hb:Zo6 [-2,0,1]=3:=by decide +kernel
   rw[hb]at n1;exact LV n1 (Z8c b3) zD λr2 h3 l3 n2=>cy _ _ (Ja l2 l3) ⟨n2,n1.qR l3⟩
 refine zg1 (n:=2) (hc.le l2) hv.1 bm3 zD (by decide +kernel) (by decide +kernel) λh3 l3=>?_
 refine zg1 (n:=0) (hc.le (Ja l2 l3)) (hv.2.qR l3) b3 zD (by decide +kernel) (by decide +kernel) λh4 l4=>?_
 have Aj:=Ja l2 (Ja l3 l4);have hv4:=hv.qR (Ja l3 l4);refine zb (λy h'=>∃i1 i2,Rd h' 8 y (mw i1++mw i2)/\NV h' i1 (-3) 0/\NV h' i2 0 3) (λK2 aG=>⟨2,?_⟩) λy h' hl hy=>hk _ _ (Ja l1 (Ja Aj hl)) hy
 unfold F.Qz;refine zc rfl (zc rfl ?_);refine zwl hv4 (Z8c bm3) (Z8c b3) zD λz h5 l5 hz=>?_
 have em:((-3:Rat)+3)*Jw 1 2=0:=by decide +kernel
 rw[em]at hz;refine zg1 (n:=1) (hc.le (Ja Aj l5)) hz (by decide +kernel) zD (by decide +kernel) (by decide +kernel) λh6 l6=>?_
 have IK:=Ja l5 l6;refine ztw (i:=⟨v.low,z⟩) rfl λy1 h7 o1=>?_
 refine o1.call (K1:=λy D'=>Own h6 D' 8 y (mw ⟨z,v.high⟩)) (ztw (i:=⟨z,v.high⟩) rfl λy2 h8 o2=>o2) λy2 D8 h8 l8 o1' o2=>?_
 have r2:=o2.rd.le o1'.1;refine⟨mw ⟨z,v.high⟩,by rw[r2.1];exact r2.2,?_⟩;have ly2:y2.len=1:=by
  have:=o2.2.1;simp[mw,qc]at this;omega
 have ly1:y1.len=1:=by
  have:=o1.2.1;simp[mw,qc]at this;omega
 refine pW o1' (n:=y2.len) (new:=mw ⟨z,v.high⟩) r2.1.symm rfl rfl zO zO λw h9 o9 lw=>?_
 have l69:=Ja l8 o9.1;exact aG _ _ (Ja IK l69) ⟨⟨v.low,z⟩,⟨z,v.high⟩,o9.rd,⟨hv4.1.qR (Ja IK l69),hz.qR (Ja l6 l69)⟩,⟨hz.qR (Ja l6 l69),hv4.2.qR (Ja IK l69)⟩⟩
def Zr1{K:Bool->Sl->Bool->Sl->Bool->Sl->Bool->Sl->Prop}{z:Int}{is:List aH}(k:Nat)(hr:Rd h 8 l (is.flatMap mw))(hi:z=k)(hk:k<is.length)
 (H:K is[k].low.num.neg is[k].low.num.ah is[k].low.den.neg is[k].low.den.ah is[k].high.num.neg is[k].high.num.ah is[k].high.den.neg is[k].high.den.ah) :
 zi l z 8 λa=>aB .bool (a.add 0) (λx0=>aB .sl (a.add 1) (λx1=>aB .bool (a.add 2) (λx2=>aB .sl (a.add 3) (λx3=>aB .bool (a.add 4) (λx4=>aB .sl (a.add 5) (λx5=>aB .bool (a.add 6) (λx6=>aB .sl (a.add 7) (λx7=>K x0 x1 x2 x3 x4 x5 x6 x7) h) h) h) h) h) h) h) h:=by
 have ll:l.len=is.length:=by
  have:=hr.1;rw[yr (c:=mw) (n:=8) (λ_=>rfl)]at this;omega
 refine C3 k hr hi zO zD λa ha=>?_
 have g:∀j v,j<8->(mw is[k])[j]?=some v->h.cell (a.add j)=some v:=λj v hj hv=>ha j v (by rw[Hz (c:=mw) (n:=8) (λ_=>rfl) hk hj];exact hv)
 exact⟨_,g 0 _ zD rfl,_,g 1 _ zD rfl,_,g 2 _ zD rfl,_,g 3 _ zD rfl,_,g 4 _ zD rfl,_,g 5 _ zD rfl,_,g 6 _ zD rfl,_,g 7 _ zD rfl,H⟩
def zke{Q:aC}{a:Addr}{t:Sl}{B:Nat}(hc:h.cell (a.add 0)=some (bO t))(ht:TW h B 300 t U2)(hx:NR h Q v)(bx:BR 300 v)(H:∀y h',h.le h'->EV h' 300 U2 (Jn v) 300 y->Ks y h'):za (F.Rg Q (some a)) Ks h:=by
 refine zb _ (λK' hk=>?_) H;unfold F.Rg;refine⟨t,hc,?_⟩;exact B1 ht hx bx zD λz h1 e1=>hk _ _ e1.hle e1.ev
def Znz(hx:NJ G 300 U2 h X (s2,300))(H:∀y h',h.le h'->y.len=3->KA ⟨y,1⟩ h'):za (F.z9i X) KA h:=by
 refine zb (λz h'=>z.FU.len=3/\z.root=1) (λK' hk=>?_) λz h' hl ⟨e1,e2⟩=>by
  obtain⟨z1,z2⟩:=z;simp only at e2;subst e2;exact H z1 h' hl e1
 unfold F.z9i;refine Zjt λa h1 l1 hc=>?_
 have c0:h1.cell (a.add 0)=some (bO X.ae):=hc 0 _ rfl;have c1:h1.cell (a.add 1)=some (bO X.af):=hc 1 _ rfl;refine⟨X.ae,c0,X.af,c1,?_⟩;have Eg:=NJ.le hx l1;refine zup (X:=⟨X.ae,X.af⟩) Eg λr3 h2 l2 hp=>?_
 refine zuo (hp.sO rfl (by decide +kernel)) λr4 i1 i2 h3 l3 hr v1 v2=>?_
 have hr:Rd h3 8 r4 ([i1,i2].flatMap mw):=hr;have l4:r4.len=2:=by
  have:=hr.1;simp[mw,qc]at this;omega
 have eY:=Ja l2 l3;rw[l4];refine Za (λst h'=>h3.le h'/\(st.2.1=0\/st.2.1=1)) (λst=>(1-st.2.1).toNat) ⟨Jf _,.inl rfl⟩ ?_;rintro⟨u0,j,u1⟩ h5 ⟨l5,hj⟩;have fE:=Ja eY l5;have EB:∀{h'},h5.le h'->h'.cell (a.add 0)=some (bO X.ae):=λl=>Lc (Ja fE l) c0
 have cc1:∀{h'},h5.le h'->h'.cell (a.add 1)=some (bO X.af):=λl=>Lc (Ja fE l) c1
 have tw:∀{h'},h5.le h'->TW h' (300+CO 300) 300 X.ae U2:=λl=>Eg.1.le (Ja fE l)
 have ev:∀{h'},h5.le h'->EV h' 300 U2 s2 300 X.af:=λl=>Eg.2.2.le (Ja fE l)
 have bq:∀q∈([-3,0,3]:List Rat),BR 300 q:=λq hq=>(Ey (p:=[-3,0,3]) (by decide +kernel) q hq).mono zD
 have aD:QS 300 (300+300+1)*32+15000*300+20000<=300000000000:=by rw[Yu];decide
 rcases hj with hj | hj
 . have hj:j=0:=hj;subst hj;refine zk rfl ?_;refine zj (λ_ h'=>h5.le h') (λst h6 l6=>⟨⟨Ja l5 l6,.inr rfl⟩,(by decide:(0:Nat)<1)⟩) ?_;refine Zr1 0 (hr.le l5) rfl zS ⟨X.ae,EB (Jf _),X.af,cc1 (Jf _),?_⟩;refine zke (v:=-3) (EB (Jf _)) (tw (Jf _)) (v1.1.qR l5) (bq _ zS) λy6 h6 l6 e6=>?_
   refine zi9 (tw l6) e6 (ev l6) aD λh7 l7=>?_
   have uG:=Ja l6 l7;refine zk (decide_eq_true (qk.2 (Re.sub_lt (Re.lt_trans (by rw[<-Ti,Re.of_lt];decide) zri)))) ?_;refine⟨X.ae,EB uG,X.af,cc1 uG,?_⟩;refine zke (v:=0) (EB uG) (tw uG) (v1.2.qR (Ja l5 uG)) (bq _ zS) λy8 h8 l8 e8=>?_
   have IS:=Ja uG l8;refine zi9 (tw IS) (ev IS) e8 aD λh9 l9=>?_
   refine zc (decide_eq_false λhh=>?_) (Ja IS l9);have e:cm (s2-Jn 0)=1:=by rw[Ti,Re.sub_zero];exact Ws zri
   rw[e]at hh;exact absurd hh zD
 . have hj:j=1:=hj;subst hj;refine zk rfl ?_;refine zj (λ_ _=>False) (λ_ _ hf=>hf.elim) ?_;refine Zr1 1 (hr.le l5) rfl zS ⟨X.ae,EB (Jf _),X.af,cc1 (Jf _),?_⟩;refine zke (v:=0) (EB (Jf _)) (tw (Jf _)) (v2.1.qR l5) (bq _ zS) λy6 h6 l6 e6=>?_
   refine zi9 (tw l6) e6 (ev l6) aD λh7 l7=>?_
   have uG:=Ja l6 l7;refine zk (decide_eq_true (qk.2 (Re.sub_lt (by rw[Ti];exact zri)))) ?_;refine⟨X.ae,EB uG,X.af,cc1 uG,?_⟩;refine zke (v:=3) (EB uG) (tw uG) (v2.2.qR (Ja l5 uG)) (bq _ zS) λy8 h8 l8 e8=>?_
   have IS:=Ja uG l8;refine zi9 (tw IS) (ev IS) e8 aD λh9 l9=>?_
   refine zk (decide_eq_true (Int.le_of_lt (qk.2 (Re.sub_lt (Zz6 (by decide +kernel) (by decide +kernel)))))) ?_;have l59:=Ja IS l9;refine Z06 (hp.le (Ja l3 (Ja l5 l59))) zD zD λy10 aZ us mX vb hlen _=>hk _ _ (Ja l1 (Ja fE (Ja l59 mX))) ⟨?_,rfl⟩
   show y10.len=3;rw[vb.len,hlen];decide +kernel
end
end Den
end

section
namespace Den
open Go Iv Pq
def scc(n:ag)(t:eR):List Value:=dN n++dN t.dir.x++dN t.dir.y++[.int .i64 t.full]
section
variable {W:aF}{w:Re}{s:Nat}{t t':eR}{KAE:zY (fT × Int)}{KA:zY fT}{KII:zY (Int × Int)}{p:Addr}
def Zyr:QS 300 9*32+15000*300+20000<=300000000000:=by rw[Yu];decide
def Zje:QS 300 9*32+(300*300+50)<=300000000000:=by rw[Yu];decide
def Zj5:0<Jn ((4:Int):Rat):=by rw[<-Ti,Re.of_lt];decide +kernel
def Z78(hv:VB G 300 h t.dir x y 9)(hf:t.full=0)(hy:0<y)(H:∀h',h.le h'->Kb false h'):za (F.zih t) Kb h:=by
 refine zb (λb h'=>b=false) (λK' hk=>?_) λb h' hl e=>by rw[e];exact H h' hl
 unfold F.zih;refine zk (by rw[hf];rfl) ?_;refine zb (λb h'=>b=false) (λK2 aG=>?_) λb h' hl e=>hk _ _ hl e
 unfold F.zn0;refine H7 hv.2 Zyr λh1 l1=>?_
 rw[Ws hy];exact zc rfl (aG _ _ l1 rfl)
def zr4(hx:NB G 300 h X x 9)(h0:0<x)(H:∀h',h.le h'->Kb true h'):za (F.z81 X) Kb h:=by
 refine zb (λb h'=>b=true) (λK' hk=>?_) λb h' hl e=>by rw[e];exact H h' hl
 unfold F.z81;refine H7 hx Zyr λh1 l1=>?_
 rw[Ws h0];exact hk _ _ l1 rfl
def Z34(hc:Ctx G 300 N)(hx:NB G 300 h X x 9)(H:∀Z h',h.le h'->NB G 300 h' Z (x*Jn (1/2)) 10->KE (Z,0) h'):za (F.zhh X) KE h:=by
 refine Y0 _ (λK' hk=>?_) H;unfold F.zhh;refine zeg (m:=1) (n:=2) zD zD zD zD zD λy1 h1 l1 n1=>?_
 have e:Jw 1 2=1/2:=by decide +kernel
 rw[e]at n1;refine z89 (G:=G) (S:=300) n1 Zd6 zD λy2 h2 l2 n2=>?_
 exact Iq hc (hx.le (Ja l1 l2)) n2 zD λZ h3 l3 n3=>hk _ _ (Ja l1 (Ja l2 l3)) n3
def zwz(hc:Ctx G 300 N)(hx:NB G 300 h X x 9)(H:∀Z h',h.le h'->NB G 300 h' Z (x*Jn (1/2)) 10->KN Z h'):za (F.zf0 X) KN h:=by
 refine zb _ (λK' hk=>?_) H;unfold F.zf0;refine zgz (m:=1) (n:=2) zD zD zD zD zD λy1 h1 l1 n1=>?_
 have e:Jw 1 2=1/2:=by decide +kernel
 rw[e]at n1;refine z79 (G:=G) (S:=300) n1 Zd6 λy2 h2 l2 n2=>?_
 exact Iz hc (hx.le (Ja l1 l2)) n2 zD λZ h3 l3 n3=>hk _ _ (Ja l1 (Ja l2 l3)) n3
def SR(G:Re->Prop)(h:Hp)(a:fT)(t:eR)(z:Re):Prop:=NB G 300 h a.part 0 2/\a.dC.len=1/\∃n,Rd h 7 a.dC (scc n t)/\NB G 300 h n z 10
def SR.le{a:fT}(ha:SR G h a t z)(hl:h.le h'):SR G h' a t z:=by
 obtain⟨h1,h2,n,h3,h4⟩:=ha;exact⟨h1.le hl,h2,n,h3.le hl,h4.le hl⟩
def zyd(hc:Ctx G 300 N)(hx:NB G 300 h X x 9)(h0:0<x)(hv:VB G 300 h t.dir z y 9)(hf:t.full=0)(hy:0<y)(H:∀a h',h.le h'->SR G h' a t (x*Jn (1/2))->KAE (a,0) h'):za (F.zbm X t) KAE h:=by
 refine Y0 _ (λK' hk=>?_) H;unfold F.zbm;refine zr4 hx h0 λh1 l1=>zc rfl ?_
 refine zit (G:=G) (S:=300) (n:=0) zD zD λy2 h2 l2 n2=>?_
 have bS:=Ja l1 l2;refine zw ⟨y2,zd⟩ (λK2 aG=>by unfold F.z97;exact aG) ?_;refine Z78 (hv.le bS) hf hy λh4 l4=>zc rfl ?_
 have gG:=Ja bS l4;refine Z34 hc (hx.le gG) λy5 h5 l5 n5=>zc rfl ?_
 refine Z5r (cells:=scc y5 t) 7 1 rfl λp6 h6 l6 hr=>hk _ _ (Ja gG (Ja l5 l6)) ⟨?_,rfl,y5,hr,n5.le l6⟩
 exact n2.le (Ja l4 (Ja l5 l6))
def zws(hc:Ctx G 300 N)(hx:NB G 300 h X x 9)(hv:VB G 300 h t.dir z y 9)(hf:t.full=0)(hy:0<y)(H:∀a h',h.le h'->SR G h' a t (x*Jn (1/2))->KA a h'):za (F.z9w X t) KA h:=by
 refine zb _ (λK' hk=>?_) H;unfold F.z9w;refine MT (G:=G) (S:=300) (n:=0) zD zD λy2 h2 l2 n2=>?_
 refine zj (λst h'=>h.le h'/\SR G h' ⟨⟨st.1.1,st.1.2.1⟩,st.1.2.2.1⟩ t (x*Jn (1/2))) (λst h3 ⟨l3,ha⟩=>hk _ _ l3 ha) ?_;refine zb (λb h'=>b=false) (λK2 aG=>?_) λb h4 l4 e=>?_
 . unfold F.zjv;refine zk (by rw[hf];rfl) ?_;refine Eo (hv.le l2).2 Zje λh1 l1=>?_
   rw[Ws hy];exact zc rfl (aG _ _ l1 rfl)
 . subst e;refine zk rfl ?_;refine zwz hc (hx.le (Ja l2 l4)) λy5 h5 l5 n5=>?_
   refine Z5r (cells:=scc y5 t) 7 1 rfl λp6 h6 l6 hr=>⟨Ja l2 (Ja l4 (Ja l5 l6)),n2.le (Ja l4 (Ja l5 l6)),rfl,y5,hr,n5.le l6⟩
def zl8(hc:Ctx G 300 N)(hx:NB G 300 h X x s)(hs:s<=100000)(H:∀h',h.le h'->Kb true h'):za (F.Ri X) Kb h:=by
 refine zb (λb h'=>b=true) (λK' hk=>?_) λb h' hl e=>by rw[e];exact H h' hl
 unfold F.Ri;obtain⟨B,T,h1,h2,h3⟩:=hx;have hn:=h1.high;have hl:=h1.len;refine zk (decide_eq_true zO) ?_;refine z9q h1 h3 (by unfold CO;omega) λh4 l4=>zk rfl ?_
 exact zix (h1.le l4) zD λh5 l5=>hk _ _ (Ja l4 l5) rfl
def zlk(hc:Ctx G 300 N)(hv:VB G 300 h V x y s)(hs:s<=100000)(H:∀h',h.le h'->Kb true h'):za (F.Rj V) Kb h:=by
 refine zb (λb h'=>b=true) (λK' hk=>?_) λb h' hl e=>by rw[e];exact H h' hl
 unfold F.Rj;refine zl8 hc hv.1 hs λh1 l1=>zk rfl ?_
 exact zl8 hc (hv.2.le l1) hs λh2 l2=>hk _ _ (Ja l1 l2) rfl
def zl7(hv:VB G 300 h V x y 9)(hy:0<y)(H:∀h',h.le h'->Ki 0 h'):za (F.GI V) Ki h:=by
 refine zb (λb h'=>b=0) (λK' hk=>?_) λb h' hl e=>by rw[e];exact H h' hl
 unfold F.GI;refine Eo hv.2 Zje λh1 l1=>?_
 rw[Ws hy];exact zk rfl (hk _ _ l1 rfl)
def zoe(hc:Ctx G 300 N)(hk:KC h p)(hv:VB G 300 h V x y 9)(hw:VB G 300 h W z w 9)(H:∀Z h',h.le h'->NB G 300 h' Z (-y*z+x*w) 37->KN Z h'):za (F.z1p (some p) V W) KN h:=by
 refine zb _ (λK' bP=>?_) H;unfold F.z1p;refine zlg hc hv hw zD λZ h1 l1 n1=>?_
 refine zb (λZ h'=>NB G 300 h' Z (-y*z+x*w) 37) (λK2 aG=>?_) λZ h' hl hz=>bP _ _ (Ja l1 hl) hz
 unfold F.z7h;have cy:=hk.le l1;refine zw () (λK3 cw=>?_) (zc rfl (aG _ _ (Jf _) n1));unfold F.z6z;exact cy.ld (zk rfl (cy.st cw))
def Z0p(hc:Ctx G 300 N)(hk:KC h p)(hv:VB G 300 h V x y 9)(hw:VB G 300 h W x y 9)(hy:0<y)(H:∀h',h.le h'->Ki 0 h'):za (F.zc1 (some p) V W) Ki h:=by
 refine zb (λb h'=>b=0) (λK' bP=>?_) λb h' hl e=>by rw[e];exact H h' hl
 unfold F.zc1;refine zl7 hv hy λh1 l1=>?_
 refine zl7 (hw.le l1) hy λh2 l2=>zc rfl ?_
 have bS:=Ja l1 l2;refine zoe hc (hk.le bS) (hv.le bS) (hw.le bS) λZ h3 l3 n3=>?_
 refine Eo n3 (by rw[Yu];decide) λh4 l4=>?_
 have e:-y*x+x*y=0:=by rw[Re.neg_mul,Re.mul_comm y x,Re.add_comm,Re.add_neg]
 rw[e,xk];exact bP _ _ (Ja bS (Ja l3 l4)) rfl
def Z0b(hc:Ctx G 300 N)(hv:VB G 300 h t.dir x y 9)(hw:VB G 300 h t'.dir x y 9)(hf:t.full=0)(dk:t'.full=0)(hy:0<y)(H:∀h',h.le h'->KII (0,0) h'):za (F.zi7 t t') KII h:=by
 refine zb (λb h'=>b=(0,0)) (λK' bP=>?_) λb h' hl e=>by rw[e];exact H h' hl
 unfold F.zi7;rw[hf,dk];refine zc rfl (zc rfl ?_);refine KC.new λp h1 l1 hk=>?_
 refine Z0p hc hk (hv.le l1) (hw.le l1) hy λh2 l2=>?_
 refine(hk.le l2).ld (zc rfl (bP _ _ (Ja l1 l2) rfl))
def ziz(hv:VB G 300 h t.dir x y 9)(hf:t.full=0)(hy:0<y)(H:∀h',h.le h'->Kb true h'):za (F.Rk t) Kb h:=by
 refine zb (λb h'=>b=true) (λK' hk=>?_) λb h' hl e=>by rw[e];exact H h' hl
 unfold F.Rk;rw[hf];refine zo6 hv Zje (λh1 l1 hz=>?_) λh1 l1 hz=>zk rfl (zk rfl (hk _ _ l1 rfl))
 rw[hz.2]at hy;exact absurd hy (Gn _)
def zwr(hc:Ctx G 300 N)(hv:VB G 300 h t.dir x y 9)(hw:VB G 300 h t'.dir x y 9)(hf:t.full=0)(dk:t'.full=0)(hy:0<y)(H:∀h',h.le h'->Kb true h'):za (F.zez t t') Kb h:=by
 refine zb (λb h'=>b=true) (λK' hk=>?_) λb h' hl e=>by rw[e];exact H h' hl
 unfold F.zez;refine zj (λ_ h'=>h.le h') (λ_ h1 l1=>?_) ?_;exact Z0b hc (hv.le l1) (hw.le l1) hf dk hy λh2 l2=>zk rfl (hk _ _ (Ja l1 l2) rfl)
 . refine zlk hc hv zD λh1 l1=>zc rfl ?_
   refine zlk hc (hw.le l1) zD λh2 l2=>zc rfl ?_
   have bS:=Ja l1 l2;refine ziz (hv.le bS) hf hy λh3 l3=>zc rfl ?_
   exact ziz (hw.le (Ja bS l3)) dk hy λh4 l4=>zc rfl (Ja bS (Ja l3 l4))
def Zke{K:Sl->Sl->Sl->Sl->Sl->Sl->Int->Prop}{l:Sl}{n:ag}(hr:Rd h 7 l (scc n t))(hl:l.len=1)(H:K n.ae n.af t.dir.x.ae t.dir.x.af t.dir.y.ae t.dir.y.af t.full) :
 zi l 0 7 λa=>aB .sl (a.add 0) (λx0=>aB .sl (a.add 1) (λx1=>aB .sl (a.add 2) (λx2=>aB .sl (a.add 3) (λx3=>aB .sl (a.add 4) (λx4=>aB .sl (a.add 5) (λx5=>aB (.int .i64) (a.add 6) (λx6=>K x0 x1 x2 x3 x4 x5 x6) h) h) h) h) h) h) h:=by
 refine C3 0 hr rfl zO zD λa ha=>?_
 exact⟨_,ha 0 (bO n.ae) rfl,_,ha 1 (bO n.af) rfl,_,ha 2 (bO t.dir.x.ae) rfl,_,ha 3 (bO t.dir.x.af) rfl,_,ha 4 (bO t.dir.y.ae) rfl,_,ha 5 (bO t.dir.y.af) rfl,_,ha 6 (.int .i64 t.full) rfl,H⟩
def zsu{a b:fT}(hc:Ctx G 300 N)(ha:SR G h a t z)(hb:SR G h b t z)(hv:VB G 300 h t.dir x y 9)(hf:t.full=0)(hy:0<y)(H:∀h',h.le h'->Kb true h'):za (F.zc2 a b) Kb h:=by
 refine zb (λb h'=>b=true) (λK' hk=>?_) λb h' hl e=>by rw[e];exact H h' hl
 unfold F.zc2;obtain⟨a1,a2,n,a3,a4⟩:=ha;obtain⟨b1,b2,m,b3,b4⟩:=hb;rw[a2,b2];refine zj (λ_ h'=>h.le h') (λ_ h1 l1=>?_) ?_
 . refine Za (λst h'=>h1.le h'/\(st.1=0\/st.1=1)) (λst=>(1-st.1).toNat) ⟨Jf _,.inl rfl⟩ ?_;rintro⟨i,u⟩ h2 ⟨l2,hi⟩;have bS:=Ja l1 l2;rcases hi with hi | hi
   . have hi:i=0:=hi;subst hi;refine zk rfl ?_;refine zj (λ_ h'=>h2.le h') (λ_ h3 l3=>⟨⟨Ja l2 l3,.inr rfl⟩,(by decide:(0:Nat)<1)⟩) ?_;refine Zke (a3.le bS) a2 (Zke (b3.le bS) b2 ?_);refine MR hc (X:=n) (Y:=m) (a4.le bS) (b4.le bS) zD λh3 l3=>zc rfl ?_
     have Bu:=hv.le (Ja bS l3);exact zwr (t:=⟨⟨⟨t.dir.x.ae,t.dir.x.af⟩,⟨t.dir.y.ae,t.dir.y.af⟩⟩,t.full⟩) (t':=⟨⟨⟨t.dir.x.ae,t.dir.x.af⟩,⟨t.dir.y.ae,t.dir.y.af⟩⟩,t.full⟩) hc Bu Bu hf hf hy λh4 l4=>zc rfl (Ja l3 l4)
   . have hi:i=1:=hi;subst hi;exact zc rfl (hk _ _ bS rfl)
 refine MR hc a1 b1 zD λh1 l1=>zc rfl (zc rfl l1)
end
end Den
end

section
namespace Den
open Go Iv Pq
def zuu{h:Hp}{K:Bool->Hp->Prop}(hp:P10 h)(H:∀h',h.le h'->K true h'):za F.Dv K h:=by
 refine zb (λb h'=>b=true) (λK' hk=>?_) λb h' hl e=>by rw[e];exact H h' hl
 unfold F.Dv;obtain⟨G,hc,hq,hg⟩:=Zyh;refine MT (G:=FQ) (S:=300) (n:=2) zD zD λy1 h1 l1 n1=>?_
 have n1':NJ G 300 [] h1 y1 (Jn 2,2):=n1.IJ zD;refine Z72 hc hg n1' λy2 h2 l2 n2=>?_
 have bS:=Ja l1 l2;refine zv6 (X:=⟨y2.ae,y2.af⟩) hc n2 (hp.le bS) λh3 l3=>?_
 refine Znz (X:=⟨y2.ae,y2.af⟩) (NJ.le n2 l3) λy4 h4 l4 cf=>?_
 refine zgu (G:=G) (S:=300) (m:=0) (n:=1) zD zD zD zD λV h5 l5 v5=>?_
 refine MT (G:=G) (S:=300) (n:=4) zD zD λy6 h6 l6 n6=>?_
 have hy:0<Jn ((1:Int):Rat):=by rw[<-Ti,Re.of_lt];decide +kernel
 have v6:=(v5.le l6).mono (u:=9) zD;refine zyd (t:=⟨V,0⟩) hc (n6.mono zD) Zj5 v6 rfl hy λa7 h7 l7 s7=>?_
 have l37:=Ja bS (Ja l3 (Ja l4 (Ja l5 (Ja l6 l7))));refine zk rfl (zk rfl (zk (beq_self_eq_true (ByteArray.toList ⟨#[49,46,52,49]⟩)) (zk ?_ (zk rfl ?_))))
 . show((y4.len:Int)==3)=true;rw[cf];rfl
 refine MT (G:=G) (S:=300) (n:=4) zD zD λy8 h8 l8 n8=>?_
 refine zws (t:=⟨V,0⟩) hc (n8.mono zD) (v6.le (Ja l7 l8)) rfl hy λa9 h9 l9 s9=>?_
 refine zsu (a:=⟨⟨a7.part.ae,a7.part.af⟩,a7.dC⟩) hc (s7.le (Ja l8 l9)) s9 (v6.le (Ja l7 (Ja l8 l9))) rfl hy λaZ mX=>hk _ _ (Ja l37 (Ja l8 (Ja l9 mX))) rfl
def zqk{P:Tsetsquareref13_Plot}{ops:List xY}{bs:List Int}{kind:Int}{h:Hp}{Kb:Bool->Hp->Prop}(hp:P10 h)
 (hr:Rd h 5 P.r (ops.flatMap xZ)) (iS:∀o∈ops,o.ok) (ha:AtR h P.at_ bs) (H:∀h',h.le h'->Kb true h'):F.Rl P kind Kb h:=
 zjg (λhl hk=>zuu (hp.le hl) hk) hr iS ha H
end Den
end

section
namespace Den
open Go Iv Lx Go.Proofs Go.Proofs.YtmmloncoopohfaaGreatDoor
open Go.ChangeShapes Go.WideShapes Go.ChangeAt Go.RowKit
def Zxw:laidOutB Tryz.prog=true:=by kernel_rfl
def Zt3:mapsRowed Tryz.prog=true:=by kernel_rfl
def Zt5:Z6y Tryz.prog=true:=by kernel_rfl
def Zy4:Tryz.prog.cellsOf 187=1:=by kernel_rfl
def Zy5:Tryz.prog.cellsOf 5=1:=by kernel_rfl
def Y0p:Tryz.prog.cellsOf 239=1:=by kernel_rfl
def Zy1:Tryz.prog.cellsOf 241=5:=by kernel_rfl
def Zy2:Tryz.prog.cellsOf 23=1:=by kernel_rfl
def Zy3:Tryz.prog.cellsOf 24=1:=by kernel_rfl
def Zs8:Tryz.prog.cellsOf 26=2:=by kernel_rfl
def zwe{α β:Type}{c:α->List Value}{Q:α->β->Prop}{R:List Value->Prop}(yO:∀cs,R cs->∃x b,cs=c x/\Q x b):∀{ga:List (List Value)},(∀d∈ga,R d) ->
 ∃(xs:List α) (ps:List β),ga.flatten=xs.flatMap c/\xs.length=ps.length/\ga.length=xs.length/\∀k (h1:k<xs.length) (h2:k<ps.length),Q xs[k] ps[k]
 | [],_=>⟨[],[],rfl,rfl,rfl,λk h1 _=>by simp at h1⟩
 | d :: r,h=>by
   obtain⟨xs,ps,h1,h2,h3,h4⟩:=zwe yO (ga:=r) λx hx=>h x (Gx _ hx)
   obtain⟨x,b,hx,hq⟩:=yO d (h d zS);refine⟨x :: xs,b :: ps,?_,by simp[h2],by simp[h3],λk k1 k2=>?_⟩;rw[List.flatten_cons,h1,hx];rfl
   . cases k with
     | zero=>exact hq
     | succ k=>exact h4 k (by simpa using k1) (by simpa using k2)
def IT{cs a r:List Value}{o k:Nat}(h1:(cs.drop o).take k=a)(h2:cs.drop (o+k)=r):cs.drop o=a++r:=by
 rw[<-h1,<-h2,<-List.drop_drop,Ge]
def ztd{cs:List Value}{n:Nat}(h:cs.length=n):cs.drop n=[]:=List.drop_of_length_le zO
def Y0o{P:Program}{W:World}{r:Reach}{b:Nat}{t:TypeId}{v:Value}(h:Value.okWide P W r b t v)(hu:fa P t=some true):∃c:List Value,v=.agg c.toArray/\v.cells.toList=c:=by
 unfold fa at hu;unfold Value.okWide at h;split at h;obtain⟨cs,rfl,_⟩:=h;exact⟨cs.toList,zS,by simp[Value.cells]⟩;obtain⟨cs,rfl,_⟩:=h;exact⟨cs.toList,zS,by simp[Value.cells]⟩
 . rename_i h1 h2;split at hu;rename_i hh;exact absurd hh (h1 _);rename_i hh;exact absurd hh (h2 _ _);cases hu;cases hu
def zkq{P:Program}{w:World}:∀{l:List (String×DataW Unit)} {ps:List MemPlace},DataW.LaidVars P w l ps->∀{n:String} {d:DataW Unit},(n,d)∈l ->
 ∃g t cs fuel p,P.globalNamed n=some g/\(P.globals[g]?).map (·.type)=some t/\w.var? P n=some cs/\DataW.trod (λ_=>()) P w 0 (λ_=>true) false fuel t cs.toList=some (d,p)
 | [],_,_,_,_,hm=>by simp at hm
 | (n0,d0) :: r,_,⟨g,t,cs,fuel,p,q,h1,h2,h3,h4,h5,_⟩,n,d,hm=>by
   rcases List.mem_cons.1 hm with e | hm
   . cases e;exact⟨g,t,cs,fuel,p,h1,h2,h3,h4⟩
   exact zkq h5 hm
section
variable {H:Type}{enc:TypeId × Value->H}{P:Program}{w:World}{base:Nat}{sp:Nat->Bool}{held:Bool}{t e:TypeId}{ps:List MemPlace}
def zw6{k:IntKind}{ns:List Int}{m:Nat}(ht:P.underlying t=some (.array m e))(he:P.underlying e=some (.int k))(hc:P.cellsOf e=1)
 (h:DataW.trod enc P w base sp held n t cs=some (.agg (ns.map λz=>.lit (.int k z)),ps)):∀i,i<ns.length->cs[i]?=some (.int k (ns.getD i 0)):=by
 obtain⟨xs,q,_,hx,hl,vK,hf⟩:=DataW.trod_array ht h;simp only[Prod.mk.injEq,DataW.agg.injEq]at hx;intro i hi;have AK:xs.length=ns.length:=by have:=congrArg List.length hx.1;simpa using this.symm
 have h1:=hf i zO;rw[hc,U6,Jp zO]at h1;have h2:xs[i].1=.lit (.int k ns[i]):=by
  have:=congrArg (λl:List (DataW H)=>l[i]?) hx.1;simp only[Gr]at this;rw[Jp hi,Jp zO]at this;exact(Gg this).symm
 obtain⟨z,e1,e2,_⟩:=DataW.trod_int he h1;rw[e2]at h2;have hz:z=ns[i]:=by simpa using h2
 have h3:((cs.drop i).take 1)[0]?=some (.int k z):=by rw[e1];rfl
 rw[hz]at h3;have e4:ns.getD i 0=ns[i]:=by rw[List.getD_eq_getElem?_getD,Jp hi];rfl
 rw[e4];simpa [Lp,List.getElem?_drop] using h3
end
def Zs4(g i:Nat):(⟨g,0,none⟩:Addr).add i=⟨g,i,none⟩:=by rw[sX,Uo]
def Y0s:Tryz.prog.globalNamed "internal/strconv.uint64pow10"=some 0:=by kernel_rfl
def Y0x:(Tryz.prog.globals[0]?).map (·.type)=some 325:=by kernel_rfl
def Zr0:List Int:=[1,10,100,1000,10000,100000,1000000,10000000,100000000,1000000000,10000000000,100000000000,1000000000000,10000000000000,100000000000000,1000000000000000,10000000000000000,100000000000000000,1000000000000000000,10000000000000000000]
def Zk7:∀i:Fin 20,Zr0.getD i 0=((10 ^ (i:Nat):Nat):Int):=zD
def Y0v{W:World}{l:List (String×DataW Unit)}(h:laidMet Tryz.prog l W)(h1:("internal/strconv.uint64pow10",Rows.laid_internal_strconv_uint64pow10)∈l):P10 (hpW W):=by
 obtain⟨ps,hv,_⟩:=h;intro i hi;obtain⟨g,t,cs,fuel,p,hg,ht,abM,hd⟩:=zkq hv h1;obtain rfl:=Gg (Y0s.symm.trans hg);obtain rfl:=Gg (Y0x.symm.trans ht);have de:DataW.trod (λ_=>()) Tryz.prog W 0 (λ_=>true) false fuel 325 cs.toList=some (.agg (Zr0.map λz=>.lit (.int .u64 z)),p):=hd;have:=zw6 Tryz.underlying325 Tryz.underlying187 Zy4 de i hi;rw[zzg,Zs4,World.var?_cell hg abM i,<-Array.getElem?_toList,this];have e:=Zk7 ⟨i,hi⟩;rw[<-e]
section
variable {H:Type}{enc:TypeId × Value->H}{w:World}
def Z2c{z:Int}(h:(Lit.int .u8 z).wf=true):0<=z/\z<256:=by
 simp[Lit.wf,IntKind.min,IntKind.max,T7,IntKind.bits]at h;omega
def Y0l{z:Int}(h:(Lit.int .i8 z).wf=true):-128<=z/\z<128:=by
 simp[Lit.wf,IntKind.min,IntKind.max,T7,IntKind.bits]at h;omega
set_option maxRecDepth 10000 in
def Zsz(h:kU enc Tryz.prog w 241 cs):∃(o:xY) (b:Unit),cs=xZ o/\o.ok:=by
 obtain⟨hl,hf⟩:=h.fields Tryz.underlying241;rw[Zy1]at hl;have h0:kU enc Tryz.prog w 5 ((cs.drop 0).take (Tryz.prog.cellsOf 5)):=hf 0 _ rfl;have h1:kU enc Tryz.prog w 5 ((cs.drop 1).take (Tryz.prog.cellsOf 5)):=hf 1 _ rfl;have h2:kU enc Tryz.prog w 5 ((cs.drop 2).take (Tryz.prog.cellsOf 5)):=hf 2 _ rfl;have h3:kU enc Tryz.prog w 239 ((cs.drop 3).take (Tryz.prog.cellsOf 239)):=hf 3 _ rfl;have h4:kU enc Tryz.prog w 5 ((cs.drop 4).take (Tryz.prog.cellsOf 5)):=hf 4 _ rfl;rw[Zy5]at h0 h1 h2 h4;rw[Y0p]at h3;obtain⟨k,e0,w0⟩:=h0.int Tryz.underlying5;obtain⟨a,e1,w1⟩:=h1.int Tryz.underlying5;obtain⟨b,e2,w2⟩:=h2.int Tryz.underlying5;obtain⟨n,e3,w3⟩:=h3.int Tryz.underlying239;obtain⟨d,e4,w4⟩:=h4.int Tryz.underlying5;have w0:=Z2c w0;have w1:=Z2c w1;have w2:=Z2c w2;have w3:=Y0l w3;have w4:=Z2c w4;exact⟨⟨k,a,b,n,d⟩,(),IT e0 (IT e1 (IT e2 (IT e3 (IT e4 (ztd hl))))),⟨w0.1,w1.1,w1.2,w2.1,w2.2,w3.1,w3.2,w4.1⟩⟩
def Zjx(h:kU enc Tryz.prog w 5 cs):∃(z:Int) (b:Unit),cs=[Pt .u8 z]/\(0<=z/\z<256):=by
 obtain⟨k,e0,w0⟩:=h.int Tryz.underlying5;exact⟨k,(),e0,Z2c w0⟩
def PLA(h:Hp)(P:Tsetsquareref13_Plot):Prop:=∃(ops:List xY) (bs:List Int),Rd h 5 P.r (ops.flatMap xZ)/\(∀o∈ops,o.ok)/\AtR h P.at_ bs
def Zyy(h:kU enc Tryz.prog w 26 cs):∃x:Tsetsquareref13_Plot,cs=[Lf.sl.up x.r,Lf.sl.up x.at_]/\PLA (hpW w) x:=by
 obtain⟨hl,hf⟩:=h.fields Tryz.underlying26;rw[Zs8]at hl;have h0:kU enc Tryz.prog w 23 ((cs.drop 0).take (Tryz.prog.cellsOf 23)):=hf 0 _ rfl;have h1:kU enc Tryz.prog w 24 ((cs.drop 1).take (Tryz.prog.cellsOf 24)):=hf 1 _ rfl;rw[Zy2]at h0;rw[Zy3]at h1;obtain⟨r,e0,_,_,ga,_,k4,k5⟩:=h0.slice Tryz.underlying23;obtain⟨xs,ps,g1,g2,g3,g4⟩:=zwe (c:=xZ) (Q:=λo (_:Unit)=>o.ok) (λ_ h=>Zsz h) (λd hd=>(k4 d hd).2);rw[Zy1,g1]at k5;obtain⟨a,e1,_,_,dss,_,j4,j5⟩:=h1.slice Tryz.underlying24;obtain⟨ys,qs,f1,f2,f3,f4⟩:=zwe (c:=λz=>[Pt .u8 z]) (Q:=λz (_:Unit)=>0<=z/\z<256) (λ_ h=>Zjx h) (λd hd=>(j4 d hd).2);rw[Zy5,f1]at j5;refine⟨⟨r,a⟩,IT e0 (IT e1 (ztd hl)),xs,ys,k5,λo ho=>?_,?_,λz hz=>?_⟩
 . obtain⟨i,hi,rfl⟩:=List.mem_iff_getElem.1 ho;exact g4 i hi zO
 rw[List.map_eq_flatMap];exact j5
 . obtain⟨i,hi,rfl⟩:=List.mem_iff_getElem.1 hz;exact f4 i hi zO
end
def Y12{P:Tsetsquareref13_Plot}{kind:Int}{h:Hp}{Kb:Bool->Hp->Prop}(hp:P10 h)(ha:PLA h P)(H:∀h',h.le h'->Kb true h'):F.Rl P kind Kb h:=by
 obtain⟨ops,bs,h1,h2,h3⟩:=ha;exact zqk hp h1 h2 h3 H
end Den
end

noncomputable section
namespace Den
open Go
namespace dp
abbrev i:dp:=.leaf (.int .i64)
abbrev s:dp:=.leaf .sl
abbrev b:dp:=.leaf .bool
end dp
abbrev t2{α β:Type}(a:Ty α)(b:Ty β):Ty (α×β):=Ty.Fx (.cons a (.cons b .nil)) (λx=>(x.1,x.2,())) (λy=>(y.1,y.2.1)) (λ_=>rfl) (λ_=>rfl)
abbrev t3{α β γ:Type}(a:Ty α)(b:Ty β)(c:Ty γ):Ty (α×β×γ):=Ty.Fx (.cons a (.cons b (.cons c .nil))) (λx=>(x.1,x.2.1,x.2.2,())) (λy=>(y.1,y.2.1,y.2.2.1)) (λ_=>rfl) (λ_=>rfl)
namespace An
abbrev l:An:=.leaf
abbrev q(a:An):An:=.seq .leaf a
abbrev w:An:=.seq .leaf .leaf
abbrev s(a b:An):An:=.seq a b
abbrev c(a b:An):An:=.cond a b
abbrev b(a:An):An:=.block a
end An
abbrev az:cn Unit:=cn.nil
abbrev ac{α β:Type}(t:Ty α)(r:cn β):cn (α×β):=cn.cons t r
abbrev ai{β:Type}(r:cn β):cn (Int×β):=cn.cons (Uw (.int .i64)) r
abbrev aJ{β:Type}(r:cn β):cn (Sl×β):=cn.cons (Uw .sl) r
abbrev ap{β:Type}(r:cn β):cn (Option Addr×β):=cn.cons (Uw .ptr) r
abbrev tb:Ty Bool:=Uw .bool
abbrev ti:Ty Int:=Uw (.int .i64)
abbrev ts:Ty Sl:=Uw .sl
abbrev tu:Ty Unit:=Ty.unit
abbrev cg(P:Program)(n:Nat)(fH:List (Nat×zh))(gn:List Nat:=[])(ES:List (Nat×Nat):=[])(kM:List Nat:=[]):bX:={ P:=P,n:=n,fH:=fH,gn:=gn,ES:=ES,kM:=kM }
def bd(fn:Func):Code:=match fn.body with | some c=>c | none=>.skip
section
variable {α ρ:Type}{A:cn α}{R:Ty ρ}{F:α->(ρ->Hp->Prop)->Hp->Prop}{g:Nat}{fn:Func}
def eo(C:bX)(an:An)(hf:C.P.funcs[g]?=some fn)(hC:tP C C.fH)(rj:uT C.P C.fk:=by exact trivial)
 (hb:fn.body=some (bd fn):=by exact rfl) (hn:fn.ntmps=C.n:=by exact rfl) (jX:(fn.name == "runtime.NumGoroutine")=false:=by decide) (ha:∀a,Nat.ble (A.up a).length C.n=true:=by exact λ_=>rfl)
 (hF:∀a K D,E3 C fn (bd fn) an (A.up a) (λv h=>R.dn v λr=>K r h) D=F a K D:=by intro a K D;kernel_rfl):Entry C.P g (ao A R F) false:=Zj2 hC rj hf hb hn jX ha hF
def MX(C:bX)(an:An)(hf:C.P.funcs[g]?=some fn)(hC:tP C C.fH)(rj:uT C.P C.fk:=by exact trivial)
 (hb:fn.body=some (bd fn):=by exact rfl) (hn:fn.ntmps=C.n:=by exact rfl) (jX:(fn.name == "runtime.NumGoroutine")=false:=by decide) (ha:∀a,Nat.ble (A.up a).length C.n=true:=by exact λ_=>rfl)
 (hF:∀a K D,E3 C fn (bd fn) an (A.up a) (λv h=>R.dn v λr=>K r h) D=F a K D:=by intro a K D;kernel_rfl):Entry C.P g (vO A R F) true:=Zaz hC rj hf hb hn jX ha hF
end
end Den
end

noncomputable section
set_option maxRecDepth 100000
namespace Den
open Go Go.Proofs.Tryz
noncomputable section
abbrev zR(a n:Nat):List Nat:=List.range' a n
abbrev zm:An:=.q (.c .w .l)
abbrev aq(g:Nat)(F:zh)(m:Bool:=false):Prop:=Entry prog g F m
noncomputable  abbrev av(n:Nat)(fH:List (Nat×zh))(gn:List Nat:=[])(ES:List (Nat×Nat):=[])(kM:List Nat:=[]):bX:=cg prog n fH gn ES kM
end
def tn:zh:=ao (aJ az) ts λa=>F.Zz a.1
def uH:aq 284 tn:=eo (av 21 []) (.q (.s (.b (.loop [(0,.s)] (.join [] (.q (.c .l .l)) (.b .l)))) .w)) func284 trivial
def Zsh:zh:=ao (ac (Uw (.int .u64)) az) ts λa=>F.A1 a.1
def Zzc:aq 216 Zsh:=eo (av 10 [(284,tn)]) (.q .w) func216 ⟨uH,trivial⟩
def Cy:zh:=ao (ac tb (aJ az)) Ze λa=>F.Yd a.1 a.2.1
def EC:aq 215 Cy:=eo (av 15 [(284,tn)] [] [] [4]) (.q (.q .w)) func215 ⟨uH,trivial⟩
def Zog:zh:=ao (ai az) Ze λa=>F.Wx a.1
def Zvo:aq 137 Zog:=eo (av 14 [(216,Zsh),(215,Cy)] [] [] [2]) (.q (.s zm .w)) func137 ⟨Zzc,EC,trivial⟩
def yC:zh:=ao (ai az) Zg λa=>F.yh a.1
def Aq:aq 72 yC:=eo (av 7 [(137,Zog)] [] [] [2]) (.q .w) func72 ⟨Zvo,trivial⟩
def Zio:zh:=ao (aJ (aJ az)) ti λa=>F.Wy a.1 a.2.1
def Zpg:aq 362 Zio:=eo (av 41 []) (.q (.s (.q (.c (.s zm .w) .l)) (.s (.q (.b (.loop [(5,.i)] (.s (.q (.c .l .l)) (.s (.b (.s (.s (.draw (zR 0 9)) (.c .w .l)) (.s (.draw (zR 0 9)) (.c .w .l)))) .l))))) .w))) func362 trivial
def Zye:zh:=ao (aJ az) (Uw (.int .u64)) λa=>F.Kj a.1
def Y0y:aq 375 Zye:=eo (av 21 []) (.q (.q (.s (.q (.b (.loop [(3,.leaf (.int .u64)),(4,.i)] (.s (.q (.c .l .l)) (.s (.b .l) .l))))) .w))) func375 trivial
def Zyf:zh:=ao (aJ (ac (Uw (.int .u32)) az)) (Ty.Fx (.cons ts (.cons (Uw (.int .u32)) .nil)) (λx=>(x.1,x.2,())) (λy=>(y.1,y.2.1)) (λ_=>rfl) (λ_=>rfl)) λa=>F.zl6 a.1 a.2.1
def Y0z:aq 376 Zyf:=eo (av 43 [(284,tn)]) (.q (.q (.q (.s (.q (.b (.loop [(7,.leaf (.int .u64)),(8,.i)] (.s (.q (.c .l .l)) (.s (.b (.q .w)) .l))))) .w)))) func376 ⟨uH,trivial⟩
def Zsi:zh:=ao (aJ az) ti λa=>F.Kk a.1
def Y09:aq 377 Zsi:=eo (av 26 []) (.q (.s zm (.q (.s (.q (.b (.loop [(3,.i),(4,.leaf (.int .u32))] (.s (.q (.c .l .l)) (.s (.b .l) .l))))) .w)))) func377 trivial
def Zyg:zh:=ao (aJ (ai az)) ts λa=>F.z8e a.1 a.2.1
def Y10:aq 378 Zyg:=eo (av 43 []) (.q (.q (.s (.q (.b (.loop [(6,.i)] (.s (.q (.c .l .l)) (.s (.b (.q .w)) .l))))) .w))) func378 trivial
def Z8p:zh:=ao (aJ (aJ az)) ts λa=>F.C9 a.1 a.2.1
def Zl6:aq 363 Z8p:=eo (av 67 [(284,tn)]) (.q (.q (.s (.q (.b (.loop [(6,.i)] (.s (.q (.c .l .l)) (.s (.b (.q (.s (.q (.b (.loop [(7,.leaf (.int .u64)),(8,.i)] (.s (.q (.c .l .l)) (.s (.b (.s (.draw (zR 0 22)) .w)) .l))))) .l))) .l))))) .w))) func363 ⟨uH,trivial⟩
def Z8q:zh:=ao (aJ (aJ az)) ts λa=>F.A0 a.1 a.2.1
def Zla:aq 380 Z8q:=eo (av 48 [(284,tn)]) (.q (.q (.q (.s (.q (.b (.loop [(6,.leaf (.int .u64)),(7,.i)] (.s (.q (.c .l .l)) (.s (.b (.q (.join [(8,.leaf (.int .u64))] (.q (.c .l .l)) (.q .w)))) .l))))) .w)))) func380 ⟨uH,trivial⟩
def Zpq:zh:=ao (aJ (aJ az)) (Ty.Fx (.cons (Uw (.int .u32)) (.cons ts .nil)) (λx=>(x.1,x.2,())) (λy=>(y.1,y.2.1)) (λ_=>rfl) (λ_=>rfl)) λa=>F.zbw a.1 a.2.1
def Zzd:aq 379 Zpq:=eo (av 51 [(363,Z8p),(284,tn),(362,Zio),(380,Z8q)]) (.q (.q (.s (.draw (zR 0 21)) (.join [(7,.leaf (.int .u64))] (.q (.c .l .l)) (.q (.s (.b (.loop [(7,.leaf (.int .u64)),(8,.s)] (.s (.q (.c .l .l)) (.b .w)))) .w)))))) func379 ⟨Zl6,uH,Zpg,Zla,trivial⟩
def Zpr:zh:=ao (aJ (ai az)) ts λa=>F.zel a.1 a.2.1
def Zze:aq 381 Zpr:=eo (av 45 [(284,tn)]) (.q (.q (.s (.q (.b (.loop [(6,.i)] (.s (.q (.c .l .l)) (.s (.b (.q (.join [(7,.leaf (.int .u64))] (.q (.c .l .l)) .l))) .l))))) .w))) func381 ⟨uH,trivial⟩
def Zef:zh:=ao (aJ (aJ az)) (t2 ts ts) λa=>F.Kl a.1 a.2.1
def Zr3:aq 355 Zef:=eo (av 128 [(362,Zio),(375,Zye),(216,Zsh),(376,Zyf),(377,Zsi),(378,Zyg),(284,tn),(379,Zpq),(380,Z8q),(381,Zpr)]) (.q (.s zm (.s (.q (.c (.q (.s (.draw [0,1,2,4,5,6,3,7,8,9]) .l)) .l)) (.s (.q (.c (.q .w) .l)) (.q (.q (.q (.s (.q (.b (.loop [(14,.i)] (.s (.q (.c .l .l)) (.s (.b (.q (.q (.q (.q (.q (.b (.loop [(19,.i)] (.s (.q (.c .l .l)) (.join [] (.b (.q (.q (.c .l .l)))) .l)))))))))) .l))))) .w)))))))) func355 ⟨Zpg,Y0y,Zzc,Y0z,Y09,Y10,uH,Zzd,Zla,Zze,trivial⟩
def zz3:zh:=ao (ac Ze (ac Ze az)) Ze λa=>F.yU a.1 a.2.1
def Z9x:aq 316 zz3:=eo (av 28 [(284,tn),(355,Zef),(215,Cy)] [] [(9,2),(12,3)] [2,3,4]) (.q (.s (.draw [0,1,3,4,2,5,6,7]) (.s (.b (.loop [(5,.s),(6,.s)] (.s (.q (.c .l .l)) (.b .w)))) .w))) func316 ⟨uH,Zr3,EC,trivial⟩
def MY:zh:=ao (ac Ze az) Ze λa=>F.Wc a.1
def Z1r:aq 356 MY:=eo (av 8 [(215,Cy)] [] [(3,1),(5,1)] [1,2]) (.q .w) func356 ⟨EC,trivial⟩
def MZ:zh:=ao (ac Ze (ac Ze az)) Ze λa=>F.Qi a.1 a.2.1
def Z1s:aq 334 MZ:=eo (av 20 [(356,MY),(363,Z8p),(215,Cy)] [] [(9,2),(11,3),(14,2),(16,3)] [2,3,4]) (.q (.s (.draw [0,2,1,3,4,5]) (.s (.draw (zR 0 12)) .l))) func334 ⟨Z1r,Zl6,EC,trivial⟩
def zz4:zh:=ao (ac Ze az) Ze λa=>F.C8 a.1
def Z9y:aq 318 zz4:=eo (av 9 [(215,Cy)] [] [(3,1),(6,1)] [1,2]) (.q .w) func318 ⟨EC,trivial⟩
def Zps:zh:=ao (aJ (aJ az)) ts λa=>F.OA a.1 a.2.1
def Zzf:aq 383 Zps:=eo (av 58 [(284,tn)]) (.q (.join [(0,.s),(1,.s)] (.q (.c .l .l)) (.q (.q (.s (.q (.b (.loop [(6,.leaf (.int .u64)),(7,.i)] (.s (.q (.c .l .l)) (.s (.b (.q (.join [(6,.leaf (.int .u64))] (.q (.c .l .l)) .w))) .l))))) (.q .w)))))) func383 ⟨uH,trivial⟩
def Z8r:zh:=ao (ac Ze (ac Ze az)) Ze λa=>F.Da a.1 a.2.1
def Zlr:aq 358 Z8r:=eo (av 44 [(356,MY),(383,Zps),(215,Cy),(362,Zio),(380,Z8q)] [] [(9,2),(11,3),(14,2),(16,2),(18,3),(22,2),(24,3),(28,2),(30,2),(32,3),(36,3),(38,3),(40,2)] [2,3,4]) (.q (.s (.draw [0,2,1,3,4,5]) (.s (.q (.c (.s (.draw (zR 0 9)) .l) .l)) (.s (.q (.c (.s (.draw (zR 0 9)) .l) .l)) (.s (.draw (zR 0 9)) .l))))) func358 ⟨Z1r,Zzf,EC,Zpg,Zla,trivial⟩
def Zf2:zh:=ao (ac Ze (ac Ze az)) Ze λa=>F.Kh a.1 a.2.1
def Zr4:aq 382 Zf2:=eo (av 9 [(318,zz4),(358,Z8r)] [] [] [2,3,4]) (.q (.s (.draw [0,1,2,3,4]) .l)) func382 ⟨Z9y,Zlr,trivial⟩
def M0:zh:=ao (ac Ze az) ti λa=>F.yT a.1
def Z1u:aq 317 M0:=eo (av 11 [(356,MY)] [] [(5,1),(9,1)] [1]) (.q (.q (.s zm (.s zm .w)))) func317 ⟨Z1r,trivial⟩
def Zpt:zh:=ao (ac Ze (ac Ze az)) (t3 Ze Ze ti) λa=>F.z9s a.1 a.2.1
def Zzg:aq 357 Zpt:=eo (av 55 [(356,MY),(355,Zef),(215,Cy),(334,MZ),(382,Zf2),(317,M0),(137,Zog),(358,Z8r)] [] [(15,3),(22,2),(24,3),(29,2),(31,3)] [2,3,4,5,9,10]) (.q (.s (.draw [0,2,1,3,4,5]) (.s zm (.q (.q (.s (.draw [0,1,2,5,3,4,6]) (.join [(9,.box [.bool,.sl]),(10,.box [.bool,.sl])] (.s (.draw [0,2,1,3,4,5]) (.c (.s (.draw [0,1,2,3]) .l) .l)) (.s (.draw [0,1,2,3,4]) .l)))))))) func357 ⟨Z1r,Zr3,EC,Z1s,Zr4,Z1u,Zvo,Zlr,trivial⟩
def Z8s:zh:=ao (ac Ze (ac Ze az)) Ze λa=>F.W5 a.1 a.2.1
def Zm0:aq 319 Z8s:=eo (av 16 [(357,Zpt)] [] [] [2,3,4,5,6]) (.q (.q .w)) func319 ⟨Zzg,trivial⟩
def Zpu:zh:=ao (ac Ze (ac Ze az)) Zg λa=>F.zem a.1 a.2.1
def Zzh:aq 263 Zpu:=eo (av 21 [(316,zz3),(319,Z8s),(317,M0),(318,zz4)] [] [] [2,3,4,5]) (.q (.q (.join [(5,.box [.bool,.sl])] (.q (.c .l .l)) (.s (.draw [0,1,3,4,2,5,6,7]) .l)))) func263 ⟨Z9x,Zm0,Z1u,Z9y,trivial⟩
def Z8t:zh:=ao (ai (ai az)) Zg λa=>F.Kn a.1 a.2.1
def Zm7:aq 175 Z8t:=eo (av 13 [(72,yC),(137,Zog),(263,Zpu)] [] [] [4]) (.q (.s zm .w)) func175 ⟨Aq,Zvo,Zzh,trivial⟩
def zz5:zh:=ao (ac Zg az) ze λa=>F.Xp a.1
def Z9z:aq 71 zz5:=eo (av 6 [] [] [] [1,2]) (.q .w) func71 trivial
def Zpv:zh:=ao (ai (ai az)) ze λa=>F.zet a.1 a.2.1
def Zzi:aq 197 Zpv:=eo (av 9 [(175,Z8t),(71,zz5)] [] [] [4]) (.q .w) func197 ⟨Zm7,Z9z,trivial⟩
def Zg9:zh:=ao (ac Zg az) ti λa=>F.OE a.1
def Zr5:aq 323 Zg9:=eo (av 6 [(317,M0)] [] [(3,1)] [1]) (.q .w) func323 ⟨Z1u,trivial⟩
def Zpw:zh:=ao (aJ (ai az)) tb λa=>F.Ko a.1 a.2.1
def Zzj:aq 275 Zpw:=eo (av 25 [(323,Zg9)]) (.q (.s (.q (.b (.loop [(5,.i)] (.s (.q (.c .l .l)) (.join [] (.b zm) .l))))) .w)) func275 ⟨Zr5,trivial⟩
def Zpx:zh:=ao (aJ (ai az)) ts λa=>F.FV a.1 a.2.1
def Zzk:aq 276 Zpx:=eo (av 26 [] [] [] [23]) (.q (.q (.s (.q (.b (.loop [(5,.s),(6,.i)] (.s (.q (.c .l .l)) (.join [(5,.s)] (.b (.q (.c .l .l))) .l))))) .w))) func276 trivial
def Zpy:zh:=ao (ac ze az) ze λa=>F.zev a.1
def Zzl:aq 201 Zpy:=eo (av 85 [(275,Zpw),(276,Zpx)] [] [(9,1),(12,1),(15,3),(23,3),(30,3),(38,3),(47,3),(51,3),(55,3),(61,3),(64,3),(72,3),(77,3),(83,3)] [1,2,3]) (.q (.s (.draw [1,2,4,5,7,0,3,6,8]) (.s (.q (.b (.loop [(3,.box [.sl,.sl]),(4,.i)] (.s (.q (.c .l .l)) (.join [(3,.box [.sl,.sl])] (.b (.q (.s (.q (.b (.loop [(5,.b),(6,.i)] (.s (.q (.c .l .l)) (.join [(5,.b)] (.b .l) .l))))) (.s (.q (.c .l .l)) (.q (.s (.q (.b (.loop [(7,.i)] (.s (.q (.c .l .l)) (.s (.b (.draw (zR 0 12))) .l))))) (.draw (zR 0 13)))))))) .l))))) .w))) func201 ⟨Zzj,Zzk,trivial⟩
def Zpz:zh:=ao (ac ze az) tb λa=>F.zew a.1
def Zzm:aq 200 Zpz:=eo (av 71 [] [] [(8,1),(14,1),(24,1),(35,1),(42,1),(51,1),(59,6),(60,6),(65,6),(66,6)] [1,6]) (.q (.s (.q (.b (.loop [(3,.i)] (.s (.q (.c .l .l)) (.join [] (.b zm) .l))))) (.s (.q (.b (.loop [(4,.i)] (.s (.q (.c .l .l)) (.s (.b (.q (.b (.loop [(5,.i)] (.s (.q (.c .l .l)) (.join [] (.b (.q zm)) .l)))))) .l))))) .w))) func200 trivial
def Zq0:zh:=ao (ac Ze (ac Ze az)) ti λa=>F.zhx a.1 a.2.1
def Zzn:aq 396 Zq0:=eo (av 9 [(382,Zf2),(317,M0)] [] [] [2,3]) (.q .w) func396 ⟨Zr4,Z1u,trivial⟩
def Zq1:zh:=ao (ac Zg (ac Zg az)) ti λa=>F.zhz a.1 a.2.1
def Zzo:aq 392 Zq1:=eo (av 16 [(334,MZ),(396,Zq0)] [] [(5,2),(7,3),(10,3),(12,2)] [2,3]) (.q (.s (.draw [0,1,2,3,5,6,7,8,4,9,10,11]) .l)) func392 ⟨Z1s,Zzn,trivial⟩
def Zq2:zh:=ao (aJ (aJ az)) tb λa=>F.zex a.1 a.2.1
def Zzp:aq 374 Zq2:=eo (av 27 [(392,Zq1)]) (.q (.s zm (.s (.q (.b (.loop [(5,.i)] (.s (.q (.c .l .l)) (.s (.b (.s (.draw (zR 0 10)) (.c .w .l))) .l))))) .w))) func374 ⟨Zzo,trivial⟩
def Zq3:zh:=ao (aJ (aJ az)) tb λa=>F.FX a.1 a.2.1
def Zzq:aq 351 Zq3:=eo (av 27 [(374,Zq2)]) (.q (.s zm (.s (.q (.b (.loop [(5,.i)] (.s (.q (.c .l .l)) (.s (.b (.s (.draw (zR 0 10)) (.c .w .l))) .l))))) .w))) func351 ⟨Zzp,trivial⟩
def M3:zh:=ao (aJ (ac Zg az)) ts λa=>F.Qn a.1 a.2.1
def Z1v:aq 279 M3:=eo (av 19 [(72,yC)] [] [] [3,16]) (.q (.q (.s (.b (.loop [(5,.s)] (.s (.q (.c .l .l)) (.b .l)))) .w))) func279 ⟨Aq,trivial⟩
def Zil:zh:=ao (aJ (aJ az)) ts λa=>F.O8 a.1 a.2.1
def Zr6:aq 353 Zil:=eo (av 20 [(72,yC)] [] [] [17]) (.q (.q (.s (.b (.loop [(5,.s)] (.s (.q (.c .l .l)) (.b .l)))) .w))) func353 ⟨Aq,trivial⟩
end Den
end

noncomputable section
set_option maxRecDepth 100000
namespace Den
open Go Go.Proofs.Tryz
def Z8u:zh:=ao (ac Ze az) tb λa=>F.A4 a.1
def Zmq:aq 336 Z8u:=eo (av 19 [] [] [(3,1),(8,1),(15,1)] [1]) (.q .w) func336 trivial
def Zq4:zh:=ao (ac Zg (ac Zg az)) Zg λa=>F.zi1 a.1 a.2.1
def Zzr:aq 315 Zq4:=eo (av 65 [(316,zz3),(319,Z8s),(334,MZ),(336,Z8u),(72,yC)] [] [(7,2),(8,2),(13,3),(14,3),(20,2),(24,3),(28,2),(30,3),(33,2),(36,2),(38,3),(41,3),(43,2),(46,2),(50,3),(55,2),(59,3)] [2,3,4,5,6]) (.q (.join [(4,.box [.bool,.sl,.bool,.sl])] zm (.join [(4,.box [.bool,.sl,.bool,.sl])] (.q (.c (.s (.draw [0,1,2,3,5,6,4,7,8]) .l) .l)) (.s (.draw [0,1,2,3,5,6,7,8,10,11,4,9,12,13]) (.s (.draw [0,1,2,4,5,6,9,10,11,13,14,15,3,7,8,12,16,17,18,19]) .l))))) func315 ⟨Z9x,Zm0,Z1s,Zmq,Aq,trivial⟩
def Z8v:zh:=ao (aJ az) tb λa=>F.Db a.1
def Zmr:aq 280 Z8v:=eo (av 18 []) (.q (.s (.q (.b (.loop [(3,.i)] (.s (.q (.c .l .l)) (.s (.b zm) .l))))) .w)) func280 trivial
def Zq5:zh:=ao (ac Zg (ac Zg az)) Zg λa=>F.zhy a.1 a.2.1
def Zzs:aq 321 Zq5:=eo (av 94 [(316,zz3),(336,Z8u),(334,MZ),(358,Z8r),(319,Z8s)] [] [(11,2),(12,2),(17,3),(18,3),(23,2),(27,3),(31,2),(33,3),(36,2),(39,2),(41,3),(46,2),(48,3),(51,3),(53,2),(58,2),(60,3),(64,2),(68,3),(72,2),(76,3),(88,3)] [2,3,4,5,6,7,8,9,10]) (.q (.s zm (.s zm (.join [(4,.box [.bool,.sl,.bool,.sl])] (.q (.c (.s (.draw [0,1,2,3,5,6,4,7,8]) .l) .l)) (.q (.s (.q (.c (.s (.draw [0,1,2,3,5,6,7,8,11,4,9,10,12]) (.s (.draw (zR 0 8)) .l)) .l)) (.s (.draw [0,1,2,4,5,6,8,9,3,7,10,11]) (.s (.draw [0,1,2,4,5,6,9,3,7,8,10]) (.q (.s (.draw [0,1,3,4,5,6,2,7,8,9,10]) .l)))))))))) func321 ⟨Z9x,Zmq,Z1s,Zlr,Zm0,trivial⟩
def M4:zh:=ao (aJ (aJ (aJ az))) ts λa=>F.yX a.1 a.2.1 a.2.2.1
def Z1w:aq 265 M4:=eo (av 28 [(321,Zq5)] [] [] [25]) (.q (.q (.s (.q (.b (.loop [(7,.s),(8,.i)] (.s (.q (.c .l .l)) (.s (.b (.draw (zR 0 13))) .l))))) .w))) func265 ⟨Zzs,trivial⟩
def Zck:cn (Sl×Sl×Sl×Unit):=(aJ (aJ (aJ az)))
def Zcu:Ty Sl:=ts
def M5:zh:=ao Zck Zcu λa=>F.Q4 a.1 a.2.1 a.2.2.1
def Zy6(n:Nat):bX:=(av 119 [(315,Zq4),(280,Z8v),(262,ao Zck Zcu (λa=>F.Qc n a.1 a.2.1 a.2.2.1)),(265,M4),(72,yC),(279,M3)])
def Zrn:∃fn,prog.funcs[262]?=some fn/\fn.body.isNone=false/\(fn.name == "runtime.NumGoroutine")=false:=⟨_,func262,rfl,by decide⟩
set_option maxHeartbeats 4000000 in
def Zrs:∀n a K D w,Sub D w->F.Qc n a.1 a.2.1 a.2.2.1 K D->Calls prog 262 (Zck.up a).toArray w (lS (λv h=>Zcu.dn v λr=>K r h) D w)
 | 0,_,_,_,_,_,h=>h.elim
 | n+1,a,K,D,w,hs,h=>sA (C:=Zy6 n) (F:=λa=>F.Qc (n+1) a.1 a.2.1 a.2.2.1) (fn:=f262) (c:=bd f262) (an:=(.seq .leaf (.seq (.seq .leaf (.cond (.seq (.draw (zR 0 9)) .leaf) .leaf)) (.seq .leaf (.seq (.draw (zR 0 13)) (.seq (.draw [0,1,2,4,5,6,3,7,8,9]) (.seq (.draw (zR 0 9)) (.join [] (.seq .leaf (.cond (.seq .leaf .leaf) .leaf)) (.seq (.seq .leaf (.cond (.seq (.draw (zR 0 11)) .leaf) .leaf)) (.seq (.seq .leaf (.cond (.seq (.draw (zR 0 11)) .leaf) .leaf)) (.seq (.draw (zR 0 10++[11,10,12,13,14])) (.seq (.draw (zR 0 9++zR 10 7++[9,17,18,19,20])) .leaf)))))))))))) ⟨Zzr,Zmr,(yq Zrn (Zrs n)),Z1w,Aq,Z1v,trivial⟩ trivial func262 rfl rfl (λ_=>rfl) (by intro a K D;kernel_rfl) a K D w hs h
def Z1x:aq 262 M5 false:=yq Zrn (λa K D w hs h=>h.elim λm h=>Zrs m a K D w hs h)
def Zcl:cn (Sl×Sl×Sl×Unit):=(aJ (aJ (aJ az)))
def Zcv:Ty Sl:=ts
def Zim:zh:=ao Zcl Zcv λa=>F.zc0 a.1 a.2.1 a.2.2.1
def Zy7(n:Nat):bX:=(av 54 [(279,M3),(354,ao Zcl Zcv (λa=>F.Wr n a.1 a.2.1 a.2.2.1)),(353,Zil),(262,M5),(265,M4)])
def Zro:∃fn,prog.funcs[354]?=some fn/\fn.body.isNone=false/\(fn.name == "runtime.NumGoroutine")=false:=⟨_,func354,rfl,by decide⟩
set_option maxHeartbeats 4000000 in
def Zrt:∀n a K D w,Sub D w->F.Wr n a.1 a.2.1 a.2.2.1 K D->Calls prog 354 (Zcl.up a).toArray w (lS (λv h=>Zcv.dn v λr=>K r h) D w)
 | 0,_,_,_,_,_,h=>h.elim
 | n+1,a,K,D,w,hs,h=>sA (C:=Zy7 n) (F:=λa=>F.Wr (n+1) a.1 a.2.1 a.2.2.1) (fn:=f354) (c:=bd f354) (an:=(.seq .leaf (.seq (.seq .leaf (.cond (.seq .leaf .leaf) .leaf)) (.seq .leaf (.seq .leaf (.seq (.block (.loop [(8,.i)] (.seq (.seq .leaf (.cond .leaf .leaf)) (.block .leaf)))) (.seq (.draw [0,1,2,3,4,6,7,8,9,10,5,11,12,13]) (.seq .leaf .leaf)))))))) ⟨Z1v,(yq Zro (Zrt n)),Zr6,Z1x,Z1w,trivial⟩ trivial func354 rfl rfl (λ_=>rfl) (by intro a K D;kernel_rfl) a K D w hs h
def Zr7:aq 354 Zim false:=yq Zro (λa K D w hs h=>h.elim λm h=>Zrt m a K D w hs h)
def Zq6:zh:=ao (ac Zg az) Zg λa=>F.zi2 a.1
def Zzt:aq 322 Zq6:=eo (av 9 [(318,zz4)] [] [(3,1),(6,1)] [1,2]) (.q (.s (.draw [0,1,3,4,2,5,6]) .l)) func322 ⟨Z9y,trivial⟩
def M6:zh:=ao (aJ (aJ az)) ts λa=>F.A8 a.1 a.2.1
def Z1y:aq 266 M6:=eo (av 22 [(322,Zq6)] [] [] [19]) (.q (.q (.s (.q (.b (.loop [(5,.s),(6,.i)] (.s (.q (.c .l .l)) (.s (.b .l) .l))))) .w))) func266 ⟨Zzt,trivial⟩
def Zin:zh:=ao (aJ (aJ (aJ az))) ts λa=>F.PC a.1 a.2.1 a.2.2.1
def Zr8:aq 282 Zin:=eo (av 13 [(266,M6),(265,M4)]) (.q .w) func282 ⟨Z1y,Z1w,trivial⟩
def Zip:zh:=ao (aJ (aJ az)) ts λa=>F.PD a.1 a.2.1
def Zr9:aq 324 Zip:=eo (av 43 [(262,M5),(282,Zin)]) (.q (.q (.s (.draw (zR 0 13)) (.s (.draw (zR 0 8++zR 9 8++[18,8,17,19,20,21])) .l)))) func324 ⟨Z1x,Zr8,trivial⟩
def Zcm:cn (Sl×Sl×Unit):=(aJ (aJ az))
def Zcw:Ty Int:=ti
def Z8w:zh:=ao Zcm Zcw λa=>F.PE a.1 a.2.1
def Zy8(n:Nat):bX:=(av 60 [(323,Zg9),(267,ao Zcm Zcw (λa=>F.Wz n a.1 a.2.1)),(324,Zip)])
def Zrp:∃fn,prog.funcs[267]?=some fn/\fn.body.isNone=false/\(fn.name == "runtime.NumGoroutine")=false:=⟨_,func267,rfl,by decide⟩
set_option maxHeartbeats 4000000 in
def Zru:∀n a K D w,Sub D w->F.Wz n a.1 a.2.1 K D->Calls prog 267 (Zcm.up a).toArray w (lS (λv h=>Zcw.dn v λr=>K r h) D w)
 | 0,_,_,_,_,_,h=>h.elim
 | n+1,a,K,D,w,hs,h=>sA (C:=Zy8 n) (F:=λa=>F.Wz (n+1) a.1 a.2.1) (fn:=f267) (c:=bd f267) (an:=(.seq .leaf (.seq (.seq .leaf (.cond (.seq .leaf .leaf) .leaf)) (.seq .leaf (.seq (.draw (zR 0 12)) (.seq (.draw [0,1,2,3,5,6,7,8,4,9,10,11]) (.join [] (.seq .leaf (.cond (.seq .leaf .leaf) .leaf)) (.seq (.seq .leaf (.cond (.seq .leaf .leaf) .leaf)) (.seq (.draw (zR 0 10)) .leaf))))))))) ⟨Zr5,(yq Zrp (Zru n)),Zr9,trivial⟩ trivial func267 rfl rfl (λ_=>rfl) (by intro a K D;kernel_rfl) a K D w hs h
def Zms:aq 267 Z8w false:=yq Zrp (λa K D w hs h=>h.elim λm h=>Zru m a K D w hs h)
def Zq7:zh:=ao (ac Ze az) tb λa=>F.OG a.1
def Zzu:aq 335 Zq7:=eo (av 22 [(284,tn)] [] [(3,1),(7,1),(12,1),(16,1)] [1]) (.q (.s (.draw ([0,1,4,5,6,2,3]++zR 7 13)) .l)) func335 ⟨uH,trivial⟩
def Zq8:zh:=ao (ac Zg az) tb λa=>F.zbx a.1
def Zzv:aq 283 Zq8:=eo (av 25 [(335,Zq7),(317,M0),(316,zz3),(336,Z8u)] [] [(3,1),(7,1),(12,1),(18,1),(20,1)] [1]) (.q .w) func283 ⟨Zzu,Z1u,Z9x,Zmq,trivial⟩
def Ziq:zh:=ao (aJ (ai az)) tb λa=>F.PF a.1 a.2.1
def Zra:aq 212 Ziq:=eo (av 22 [(283,Zq8)]) (.q (.s (.q (.b (.loop [(5,.i)] (.s (.q (.c .l .l)) (.s (.b zm) .l))))) .w)) func212 ⟨Zzv,trivial⟩
def Zir:zh:=ao (aJ az) tb λa=>F.PG a.1
def Zrb:aq 211 Zir:=eo (av 18 [(212,Ziq)]) (.q (.s (.q (.b (.loop [(3,.i)] (.s (.q (.c .l .l)) (.s (.b (.s (.draw (zR 0 8)) (.c .w .l))) .l))))) .w)) func211 ⟨Zra,trivial⟩
def zz6:zh:=ao (aJ (aJ az)) tb λa=>F.FY a.1 a.2.1
def Za0:aq 135 zz6:=eo (av 14 [(211,Zir),(212,Ziq)]) (.q .w) func135 ⟨Zrb,Zra,trivial⟩
def Zq9:zh:=ao (aJ az) tb λa=>F.zep a.1
def Zzw:aq 277 Zq9:=eo (av 22 [(211,Zir),(267,Z8w)]) (.q (.s zm (.s (.q (.b (.loop [(3,.i)] (.s (.q (.c .l .l)) (.s (.b (.s (.draw (zR 0 9)) (.c .w .l))) .l))))) .w))) func277 ⟨Zrb,Zms,trivial⟩
def zz7:zh:=ao (aJ (aJ az)) ti λa=>F.FZ a.1 a.2.1
def Za1:aq 209 zz7:=eo (av 17 [(267,Z8w),(135,zz6),(277,Zq9)]) (.q (.join [] zm .w)) func209 ⟨Zms,Za0,Zzw,trivial⟩
def Zqa:zh:=ao (ac Ze az) ti λa=>F.zek a.1
def Zzx:aq 361 Zqa:=eo (av 7 [(284,tn),(377,Zsi)] [] [(3,1)] [1]) (.q .w) func361 ⟨uH,Y09,trivial⟩
def Zqb:zh:=ao (ac Ze az) (t2 Ze ti) λa=>F.OH a.1
def Zzy:aq 332 Zqb:=eo (av 63 [(356,MY),(361,Zqa),(284,tn),(363,Z8p),(362,Zio),(215,Cy)] [] [(9,1),(44,1)] [1,2]) (.q (.q (.s zm (.q (.q (.s (.q (.b (.loop [(6,.i)] (.s (.q (.c .l .l)) (.join [] (.b (.s (.draw (zR 0 14)) (.s (.draw [0,2,5,6,1,3,4,7,8]) (.c (.draw (zR 0 14)) .l)))) .l))))) .w)))))) func332 ⟨Z1r,Zzx,uH,Zl6,Zpg,EC,trivial⟩
def Zqc:zh:=ao (ac Ze (ac Ze az)) tb λa=>F.OF a.1 a.2.1
def Zzz:aq 333 Zqc:=eo (av 38 [] [] [(6,2),(8,3),(12,2),(15,3),(21,2),(27,2),(32,3)] [2,3]) (.q (.join [] zm (.s (.q (.b (.loop [(5,.i)] (.s (.q (.c .l .l)) (.s (.b (.s (.draw (zR 0 11)) (.c .w .l))) .l))))) .w))) func333 trivial
def Zqd:zh:=ao (ac Zg az) (t2 Zg tb) λa=>F.zen a.1
def Y00:aq 278 Zqd:=eo (av 44 [(332,Zqb),(334,MZ),(333,Zqc)] [] [(8,1),(9,1),(13,1),(19,1),(27,1),(35,1)] [1,2,4,6]) (.q (.s zm (.q (.q (.join [(2,.box [.bool,.sl,.bool,.sl])] (.s (.draw [0,1,3,4,2,5,6,7,8,9,11,12,10,13,14,15]) (.c .w .l)) .w))))) func278 ⟨Zzy,Z1s,Zzz,trivial⟩
def Zqe:zh:=ao (aJ (aJ az)) ts λa=>F.Kr a.1 a.2.1
def Y01:aq 281 Zqe:=eo (av 10 []) (.q .w) func281 trivial
def Zqf:zh:=ao (ac Zg az) Zg λa=>F.zi0 a.1
def Y02:aq 331 Zqf:=eo (av 18 [(318,zz4)] [] [(3,1),(4,1),(6,1),(9,1),(13,1),(15,1)] [1,2]) (.q (.s (.q (.c (.s (.draw [0,1,3,4,2,5,6,7]) .l) .l)) .w)) func331 ⟨Z9y,trivial⟩
def Zcn:cn (Sl×Sl×Unit):=(aJ (aJ az))
def Zcx:Ty (Sl×Int):=(t2 ts ti)
def Zis:zh:=ao Zcn Zcx λa=>F.PH a.1 a.2.1
def Zy9(n:Nat):bX:=(av 81 [(331,Zqf),(280,Z8v),(274,ao Zcn Zcx (λa=>F.Vg n a.1 a.2.1)),(72,yC),(279,M3),(324,Zip),(262,M5),(266,M6)])
def Zrq:∃fn,prog.funcs[274]?=some fn/\fn.body.isNone=false/\(fn.name == "runtime.NumGoroutine")=false:=⟨_,func274,rfl,by decide⟩
set_option maxHeartbeats 4000000 in
def Zrv:∀n a K D w,Sub D w->F.Vg n a.1 a.2.1 K D->Calls prog 274 (Zcn.up a).toArray w (lS (λv h=>Zcx.dn v λr=>K r h) D w)
 | 0,_,_,_,_,_,h=>h.elim
 | n+1,a,K,D,w,hs,h=>sA (C:=Zy9 n) (F:=λa=>F.Vg (n+1) a.1 a.2.1) (fn:=f274) (c:=bd f274) (an:=(.seq .leaf (.seq (.seq .leaf (.cond (.seq (.seq .leaf (.cond (.seq .leaf .leaf) .leaf)) (.seq .leaf .leaf)) .leaf)) (.seq .leaf (.seq .leaf (.seq (.seq .leaf (.cond (.seq .leaf (.seq (.seq .leaf (.cond (.seq .leaf .leaf) .leaf)) (.seq .leaf .leaf))) .leaf)) (.seq .leaf (.seq (.seq .leaf (.cond (.seq .leaf .leaf) .leaf)) (.seq (.draw [0,1,2,3,4,6,7,8,9,10,12,5,11,13,14,15,16]) .leaf))))))))) ⟨Y02,Zmr,(yq Zrq (Zrv n)),Aq,Z1v,Zr9,Z1x,Z1y,trivial⟩ trivial func274 rfl rfl (λ_=>rfl) (by intro a K D;kernel_rfl) a K D w hs h
def Zrc:aq 274 Zis false:=yq Zrq (λa K D w hs h=>h.elim λm h=>Zrv m a K D w hs h)
def Zco:cn (Sl×Sl×Unit):=(aJ (aJ az))
def Zcy:Ty (Sl×Bool):=(t2 ts tb)
def Zit:zh:=ao Zco Zcy λa=>F.zes a.1 a.2.1
def Zya(n:Nat):bX:=(av 159 [(278,Zqd),(209,zz7),(72,yC),(279,M3),(280,Z8v),(210,ao Zco Zcy (λa=>F.qv n a.1 a.2.1)),(281,Zqe),(274,Zis),(262,M5),(282,Zin),(175,Z8t),(265,M4),(266,M6)] [] [] [6])
def Zrr:∃fn,prog.funcs[210]?=some fn/\fn.body.isNone=false/\(fn.name == "runtime.NumGoroutine")=false:=⟨_,func210,rfl,by decide⟩
set_option maxHeartbeats 4000000 in
def Zrw:∀n a K D w,Sub D w->F.qv n a.1 a.2.1 K D->Calls prog 210 (Zco.up a).toArray w (lS (λv h=>Zcy.dn v λr=>K r h) D w)
 | 0,_,_,_,_,_,h=>h.elim
 | n+1,a,K,D,w,hs,h=>sA (C:=Zya n) (F:=λa=>F.qv (n+1) a.1 a.2.1) (fn:=f210) (c:=bd f210) (an:=(.seq .leaf (.seq (.seq .leaf (.cond (.seq .leaf (.seq .leaf .leaf)) .leaf)) (.seq (.seq .leaf (.cond (.seq .leaf .leaf) .leaf)) (.seq .leaf (.seq (.draw (zR 0 9)) (.seq .leaf (.seq (.draw (zR 0 8)) (.seq .leaf (.seq (.seq .leaf (.cond (.seq (.seq .leaf (.seq .leaf (.cond (.seq .leaf .leaf) .leaf))) (.seq .leaf (.seq (.seq .leaf (.seq .leaf (.cond (.seq .leaf .leaf) .leaf))) (.seq .leaf .leaf)))) .leaf)) (.seq .leaf (.seq .leaf (.seq (.seq .leaf (.cond (.seq .leaf .leaf) .leaf)) (.seq .leaf (.seq (.seq .leaf (.block (.loop [(22,.s),(25,.i)] (.seq (.seq .leaf (.cond .leaf .leaf)) (.seq (.block (.seq (.seq .leaf (.seq .leaf (.cond (.seq .leaf (.seq .leaf .leaf)) .leaf))) .leaf)) .leaf))))) (.seq .leaf .leaf)))))))))))))))) ⟨Y00,Za1,Aq,Z1v,Zmr,(yq Zrr (Zrw n)),Y01,Zrc,Z1x,Zr8,Zm7,Z1w,Z1y,trivial⟩ trivial func210 rfl rfl (λ_=>rfl) (by intro a K D;kernel_rfl) a K D w hs h
def Zrd:aq 210 Zit false:=yq Zrr (λa K D w hs h=>h.elim λm h=>Zrw m a K D w hs h)
def Zqg:zh:=ao (aJ (aJ az)) (t2 ts tb) λa=>F.zer a.1 a.2.1
def Y03:aq 213 Zqg:=eo (av 24 [(210,Zit),(209,zz7),(266,M6)]) (.q (.q (.s zm (.join [(6,.s)] (.q (.c .l .l)) .w)))) func213 ⟨Zrd,Za1,Z1y,trivial⟩
def Zqh:zh:=ao (aJ (ai az)) ts λa=>F.zeo a.1 a.2.1
def Y04:aq 214 Zqh:=eo (av 15 [(72,yC),(279,M3)]) (.q (.q (.s (.draw (zR 0 6)) .w))) func214 ⟨Aq,Z1v,trivial⟩
def Zqi:zh:=ao (aJ (aJ az)) (t3 ts ts ti) λa=>F.zeq a.1 a.2.1
def Y05:aq 136 Zqi:=eo (av 37 [(209,zz7),(213,Zqg),(214,Zqh)] [] [] [30]) (.q (.s zm (.s (.q zm) (.s zm (.q .w))))) func136 ⟨Za1,Y03,Y04,trivial⟩
def Ziu:zh:=ao (aJ az) tb λa=>F.PJ a.1
def Zre:aq 134 Ziu:=eo (av 44 [(210,Zit),(135,zz6),(209,zz7)]) (.q (.s (.q (.b (.loop [(3,.i)] (.s (.q (.c .l .l)) (.s (.b (.join [] (.s (.draw (zR 0 20)) (.c .w .l)) (.s (.draw (zR 0 13)) zm))) .l))))) .w)) func134 ⟨Zrd,Za0,Za1,trivial⟩
def Ziv:zh:=ao (aJ (aJ az)) (t3 ts ts ti) λa=>F.PK a.1 a.2.1
def Zrf:aq 70 Ziv:=eo (av 22 [(136,Zqi),(134,Ziu),(135,zz6)]) (.q (.join [] zm .w)) func70 ⟨Y05,Zre,Za0,trivial⟩
def Zqj:zh:=ao (aJ (aJ az)) (t3 ts ts ti) λa=>F.Kw a.1 a.2.1
def Y06:aq 352 Zqj:=eo (av 41 [(354,Zim),(70,Ziv)] [] [] [37]) (.q (.q (.s (.q (.b (.loop [(0,.s),(7,.s),(8,.i)] (.s (.q (.c .l .l)) (.s (.b (.q (.s zm .l))) .l))))) .w))) func352 ⟨Zr7,Zrf,trivial⟩
def Zqk:zh:=ao (aJ az) (t2 ts ti) λa=>F.zeu a.1
def Y07:aq 314 Zqk:=eo (av 115 [(351,Zq3),(352,Zqj),(353,Zil),(354,Zim)] [] [(89,11),(109,11)] [11,112]) (.q (.q (.s (.q (.b (.loop [(4,.s),(5,.i)] (.s (.q (.c .l .l)) (.join [(4,.s)] (.b (.q (.c .l (.q (.c (.q (.s zm .l)) .l))))) .l))))) (.q (.s (.q (.b (.loop [(9,.s),(10,.i)] (.s (.q (.c .l .l)) (.s (.b (.q (.join [(11,.box [.sl,.sl])] (.q (.c .l .w)) .l))) .l))))) .w))))) func314 ⟨Zzq,Y06,Zr6,Zr7,trivial⟩
def Ziw:zh:=ao (ac ze (ac ze az)) (t3 ze ze ti) λa=>F.PM a.1 a.2.1
def Zrg:aq 261 Ziw:=eo (av 27 [(314,Zqk)] [] [] [2,3,4,5]) (.q (.q (.s zm (.s (.draw (zR 0 9)) .l)))) func261 ⟨Y07,trivial⟩
def zz8:zh:=ao (ac ze (ac ze az)) (t2 ze ti) λa=>F.Dc a.1 a.2.1
def Za2:aq 179 zz8:=eo (av 28 [(261,Ziw),(265,M4)] [] [(18,2),(20,2),(22,2),(24,3)] [2,3,4]) (.q (.q (.s zm (.s (.draw (zR 0 12)) .l)))) func179 ⟨Zrg,Z1w,trivial⟩
def Zql:zh:=ao (ac ze (ai (ac ze az))) ze λa=>F.zA a.1 a.2.1 a.2.2.1
def Y08:aq 198 Zql:=eo (av 11 [] [] [] [3,5,6]) (.q (.s zm .w)) func198 trivial
def M7:zh:=ao (ac ze az) ze λa=>F.Bb a.1
def Z1z:aq 180 M7:=eo (av 11 [(266,M6)] [] [(3,1),(5,1),(7,1)] [1,2]) (.q (.s (.draw (zR 0 9)) .l)) func180 ⟨Z1y,trivial⟩
def Zix:zh:=ao (ac ze (ac ze az)) (t2 ze ti) λa=>F.PN a.1 a.2.1
def Zrh:aq 96 Zix:=eo (av 12 [(180,M7),(179,zz8)] [] [] [2,3,4]) (.q (.s (.draw (zR 0 8)) .l)) func96 ⟨Z1z,Za2,trivial⟩
def M8:zh:=ao (ac ze (ac ze az)) (t2 ze ti) λa=>F.zB a.1 a.2.1
def Z21:aq 174 M8:=eo (av 28 [(261,Ziw),(262,M5)] [] [(18,2),(20,2),(22,2),(24,3)] [2,3,4]) (.q (.q (.s zm (.s (.draw (zR 0 12)) .l)))) func174 ⟨Zrg,Z1x,trivial⟩
end Den
end
