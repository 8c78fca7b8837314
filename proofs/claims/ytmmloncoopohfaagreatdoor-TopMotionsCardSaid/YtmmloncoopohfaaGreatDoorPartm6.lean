/- Part 6 of the tools of the proof. -/
import Derived.Test.YtmmloncoopohfaaGreatDoorPartm5
set_option linter.all false
open Go.IntKind
open Den (zO zD zS zV)
open Den.Hp renaming le_trans→Ja,le_refl→Jf
open List renaming take_succ_eq_append_getElem→Jc,take_of_length_le→Je,length_cons→Ji,length_take→Jk,getElem?_eq_getElem→Jp,length_append→Jq,length_eq_zero_iff→Ju,mem_append_left→Jv,getElem_mem→Jy,all_eq_true→J1,getElem_append_left→J2,getElem_append_right→J3,take_length→J5,append_assoc→J8,getElem_cons_zero→Ud,mem_append_right→Ue,mem_singleton→Uz,length_eq_one_iff→U0,take_append_drop→Ge,reverse_cons→Gj,getElem?_map→Gr,length_pos_iff→Gw,length_reverse→Tg,append_nil→Tm,replicate_succ→Tu,getElem_take→Ps
open Nat renaming le_refl→Jd,mul_le_mul_right→Jm,le_trans→Jo,mul_le_mul_left→Jr,zero_le→Jt,lt_or_ge→Jx,pow_le_pow_right→Jz,two_pow_pos→J7,pow_succ→Uc,min_eq_left→Gh,lt_succ_self→G5,pow_lt_pow_right→G8,not_lt_zero→Te
open Int renaming natAbs_natCast→Jh,natCast_mul→Ug
open Den.Re renaming of→Jn,mul_zero→J0,add_zero→Ua,sub_def→Ub,sub_eq_zero→U9,lt_irrefl→Gn,bJ→Gq,mul_eq_zero→Gv,cq→G4
open Rat renaming divInt→Jw,mul_nonneg→U8,div_mul_cancel→Tr,mul_pos→T5,zero_mul→Po,le_refl→Ls
open Bool renaming and_eq_true→Uh
open Classical renaming byContradiction→Uu
open Go Den
variable {D h h' h0:Hp}{U ss:zV}{V:aF}{X Y:ag}{a m t:Sl}{x y z:Re}{A C N S k n u:Nat}{v:Rat}{K:zY Sl}{K1:zY aF}{KN:zY ag}{Ki:zY Int}{Kb:zY Bool}{G:Re->Prop}{p r:List Rat}{KE:zY (ag × Int)}{KV:zY (aF × Int)}{KB:zY (Sl × Bool)}{KI:zY (Int × Int)}
section
namespace Den
open Go Iv Pq
namespace PS
def ps(p:List Rat):PS:=⟨co p⟩
def xJ(p:List Rat)(n:Nat):(ps p).c n=co p n:=rfl
def mono(s:Nat)(r:Rat):PS:=⟨λi=>if i=s then r else 0⟩
def Cb(s:Nat)(r:Rat):Fs (mono s r):=⟨s+1,λi hi=>by show(if i=s then r else 0)=0;rw[if_neg zO]⟩
def xK(s:Nat)(r:Rat)(b:PS)(j:Nat):(mono s r*b).c j=if s<=j then r*b.c (j-s)else 0:=by
 rw[tg];by_cases h:s<=j
 . rw[if_pos h];have e:r*b.c (j-s)=(mono s r).c s*b.c (j-s):=by show _=(if s=s then r else 0)*_;rw[if_pos rfl]
   rw[e];unfold conv;refine kn (k:=s) (f:=λi=>(mono s r).c i*b.c (j-i)) zO λi _ hi=>?_
   show(if i=s then r else 0)*_=0;rw[if_neg hi,Po]
 . rw[if_neg h];unfold conv;refine fU λi hi=>?_
   show(if i=s then r else 0)*_=0;rw[if_neg zO,Po]
def kC{b f:Nat->Rat}{dd N:Nat}(hb:b dd≠0)(je:∀i,dd<i->b i=0)(hf:∀j,N+dd<=j->f j=0):∀{k:Nat},k<=N->∀j,N-k+dd<=j->iD b dd N f k j=0
 | 0,_,j,hj=>hf j zO
 | k+1,hk,j,hj=>by
   have ih:=kC hb je hf (k:=k) zO;show pA b dd (N-1-k) (iD b dd N f k) j=0;unfold pA;rw[if_pos zO];by_cases he:j=N-1-k+dd
   . rw[he,Nat.add_sub_cancel_left,Tr hb]
     grind
   . rw[ih j zO,je (j-(N-1-k)) zO]
     grind
def mq{b f:Nat->Rat}{dd N:Nat}:∀{k:Nat},∃q:PS,Fs q/\(⟨f⟩:PS)=q*⟨b⟩+⟨iD b dd N f k⟩
 | 0=>⟨0,⟨0,λi _=>gW i⟩,by
    show(⟨f⟩:PS)=0*⟨b⟩+⟨f⟩;exact lk.gA ([{ c:=f },{ c:=b }]:List PS) (.v 0) (.a (.m .o (.v 1)) (.v 0)) [] (by decide +kernel) trivial⟩
 | k+1=>by
   obtain⟨q,h1,h2⟩:=mq (b:=b) (f:=f) (dd:=dd) (N:=N) (k:=k);refine⟨q+mono (N-1-k) (iD b dd N f k (N-1-k+dd)/b dd),h1.add (Cb _ _),?_⟩;have e:(⟨iD b dd N f k⟩:PS)=mono (N-1-k) (iD b dd N f k (N-1-k+dd)/b dd)*⟨b⟩+⟨iD b dd N f (k+1)⟩:=ext λj=>by
    rw[xH,xK];show iD b dd N f k j=_+pA b dd (N-1-k) (iD b dd N f k) j;unfold pA;split<;>grind
   rw[h2];exact lk.gA ([q,{ c:=b },{ c:=iD b dd N f k },mono (N-1-k) (iD b dd N f k (N-1-k+dd)/b dd),{ c:=iD b dd N f (k+1) }]:List PS) (.a (.m (.v 0) (.v 1)) (.v 2)) (.a (.m (.a (.v 0) (.v 3)) (.v 1)) (.v 4)) [(.i,(.v 2),(.a (.m (.v 3) (.v 1)) (.v 4)))] (by decide +kernel) ⟨e,trivial⟩
def Ib{p q:List Rat}(hq:trim q≠[]):∃u:PS,Fs u/\ps p=u*ps q+ps (rU p q):=by
 have h0:co q ((trim q).length-1)≠0:=by
  have:=mT dx hq
  rwa [bA]at this
 have hl:=Gw.2 hq;obtain⟨u,h1,h2⟩:=mq (b:=co q) (f:=co p) (dd:=(trim q).length-1) (N:=HZ p q) (k:=HZ p q);refine⟨u,h1,?_⟩;have e:ps (rU p q)=⟨iD (co q) ((trim q).length-1) (HZ p q) (co p) (HZ p q)⟩:=ext λj=>by
  rw[xJ];unfold rU;rw[bA,Zdi];split;rfl
  . refine(kC h0 (λi hi=>by rw[<-bA,eC zO]) (λj hj=>?_) (Jd _) j zO).symm;rw[<-bA,eC];unfold HZ at hj;omega
 rw[e];exact h2
def Cc(p:List Rat):ps (trim p)=ps p:=ext λj=>bA
def rX:ps []=0:=ext λj=>by rw[gW];rfl
def Ic{p:List Rat}(h:trim p≠[]):∃k:Rat,k≠0/\ps (ft p)=dW k*ps p/\ps p=dW (1/k)*ps (ft p):=by
 have hl:=Ac h;have hk:=zjf hl;refine⟨(((1:Int):Rat))/lead p,hk,ext λj=>?_,ext λj=>?_⟩;rw[rW,xJ,xJ,zoj];rw[rW,xJ,xJ,zoj,<-Rat.mul_assoc,Tr hk,Rat.one_mul]
def rY{p:List Rat}(h:trim p=[]):ft p=[]:=by unfold ft;rw[h];rfl
def xL:∀{n:Nat} {x y:List Rat},nf y->y.length<n->∃a b x' y':PS,Fs a/\Fs b/\Fs x'/\Fs y'/\ps (Mq n x y)=a*ps x+b*ps y/\ps x=ps (Mq n x y)*x'/\ps y=ps (Mq n x y)*y'
 | n+1,x,y,hy,hn=>by
   unfold Mq;by_cases h0:y=[]
   . rw[if_pos h0,h0,rX];exact⟨1,0,1,0,Fs.dW 1,Fs.dW 0,Fs.dW 1,Fs.dW 0,by exact lk.gA ([ps x]:List PS) (.v 0) (.a (.m .i (.v 0)) (.m .o .o)) [] (by decide +kernel) trivial,by exact lk.gA ([ps x]:List PS) (.v 0) (.m (.v 0) .i) [] (by decide +kernel) trivial,by exact lk.gA ([ps x]:List PS) .o (.m (.v 0) .o) [] (by decide +kernel) trivial⟩
   . rw[if_neg h0];have ht:trim y≠[]:=by rw[gk hy];exact h0
     obtain⟨u,hu,hr⟩:=Ib (p:=x) ht;have hl:(ft (rU x y)).length<n:=by
      rw[WI,gk Zov];have:=Zkf (p:=x) (q:=y);rw[gk hy]at this;have:=Gw.2 h0;omega
     obtain⟨a,b,x',y',ha,hb,oi,oo,e1,e2,e3⟩:=xL (n:=n) (x:=y) (y:=ft (rU x y)) Z9g hl;obtain⟨G,hG⟩:∃G,G=ps (Mq n y (ft (rU x y))):=⟨_,rfl⟩;rw[<-hG]at e1 e2 e3 |-
     by_cases hz:trim (rU x y)=[]
     . have po:ps (rU x y)=0:=by rw[<-Cc,hz,rX]
       have WA:ps (ft (rU x y))=0:=by rw[rY hz,rX]
       rw[po]at hr;rw[WA]at e1;exact⟨0,a,u*x',x',Fs.dW 0,ha,hu.mul oi,oi,by exact lk.gA ([G,ps x,a,ps y,b]:List PS) (.v 0) (.a (.m .o (.v 1)) (.m (.v 2) (.v 3))) [(.i,(.v 0),(.a (.m (.v 2) (.v 3)) (.m (.v 4) .o)))] (by decide +kernel) ⟨e1,trivial⟩,by exact lk.gA ([ps x,G,u,x',ps y]:List PS) (.v 0) (.m (.v 1) (.m (.v 2) (.v 3))) [(.i,(.v 0),(.a (.m (.v 2) (.v 4)) .o)),((.v 2),(.v 4),(.m (.v 1) (.v 3)))] (by decide +kernel) ⟨hr,e2,trivial⟩,by grind⟩
     . obtain⟨k,hk,m1,m2⟩:=Ic hz;rw[m1]at e1;rw[m2]at hr;exact⟨b*dW k,a-b*dW k*u,u*x'+dW (1/k)*y',x',hb.mul (Fs.dW k),ha.sub ((hb.mul (Fs.dW k)).mul hu),(hu.mul oi).add ((Fs.dW _).mul oo),oi,by rw[m2]at e1;rw[m1]at e1;exact lk.gA ([G,b,dW k,ps x,a,u,ps y,dW (1/k),ps (ft (rU x y)),ps (rU x y)]:List PS) (.v 0) (.a (.m (.m (.v 1) (.v 2)) (.v 3)) (.m (.s (.v 4) (.m (.m (.v 1) (.v 2)) (.v 5))) (.v 6))) [((.n (.m (.v 1) (.v 2))),(.v 3),(.a (.m (.v 5) (.v 6)) (.m (.v 7) (.v 8)))),(.i,(.v 0),(.a (.m (.v 4) (.v 6)) (.m (.v 1) (.m (.v 2) (.m (.v 7) (.m (.v 2) (.v 9))))))),((.n (.m (.m (.v 1) (.v 2)) (.v 7))),(.v 8),(.m (.v 2) (.v 9)))] (by decide +kernel) ⟨hr,e1,m1,trivial⟩,by exact lk.gA ([ps x,G,u,x',dW (1/k),y',ps (ft (rU x y)),ps y]:List PS) (.v 0) (.m (.v 1) (.a (.m (.v 2) (.v 3)) (.m (.v 4) (.v 5)))) [((.v 4),(.v 6),(.m (.v 1) (.v 5))),((.v 2),(.v 7),(.m (.v 1) (.v 3))),(.i,(.v 0),(.a (.m (.v 2) (.v 7)) (.m (.v 4) (.v 6))))] (by decide +kernel) ⟨e3,e2,hr,trivial⟩,by grind⟩
def Ef(a:PS):∀n:Nat,a*d (a ^ n)=dW n*(a ^ n)*d a
 | 0=>by
   have:d (a ^ 0)=0:=ext λj=>by
    show BG (dW 1).c j=_;unfold BG;rw[gH,if_neg zO,gW,Rat.mul_zero]
   rw[this];have:dW ((0:Nat):Rat)=0:=rfl;rw[this];exact lk.gA ([a,a ^ 0,a.d]:List PS) (.m (.v 0) .o) (.m (.m .o (.v 1)) (.v 2)) [] (by decide +kernel) trivial
 | n+1=>by
   have e:a ^ (n+1)=a ^ n*a:=rfl;rw[e,th];have ih:=Ef a n;have hc:dW ((n+1:Nat):Rat)=dW (n:Rat)+1:=ext λj=>by
    rw[xH,gH,gH,YE];split;exact Rat.natCast_add n 1;exact(Rat.add_zero 0).symm
   rw[hc];exact lk.gA ([a,(a ^ n).d,a ^ n,a.d,dW ↑n]:List PS) (.m (.v 0) (.a (.m (.v 1) (.v 0)) (.m (.v 2) (.v 3)))) (.m (.m (.a (.v 4) .i) (.m (.v 2) (.v 0))) (.v 3)) [((.v 0),(.m (.v 0) (.v 1)),(.m (.m (.v 4) (.v 2)) (.v 3)))] (by decide +kernel) ⟨ih,trivial⟩
def xN{a:PS}(h:a≠0):∀n:Nat,a ^ n≠0
 | 0,hh=>by
   have:=congrArg (λx:PS=>x.c 0) hh;have e:(a ^ 0).c 0=1:=rfl;simp only[e,gW]at this;exact absurd this zD
 | n+1,hh=>by
   have e:a ^ (n+1)=a ^ n*a:=rfl;rw[e]at hh;rcases mul_eq_zero hh with h1 | h1
   exact xN h n h1;exact h h1
def Cd{g A B s t q P Q:PS}(fD:q≠0)(hs:Fs s)(ht:Fs t)(YF:Fs A)(hB:Fs B)(hg:Fs g)(hP:Fs P)(hQ:Fs Q)(h1:d (g*A)=g*B)(h2:s*A+t*B=1)(hA:A=q*P)(hd:d A=q*Q):∀j:Nat,∃h,Fs h/\g=q ^ j*h
 | 0=>⟨g,hg,by
                   have e:q ^ 0=(1:PS):=rfl;rw[e];exact lk.gA ([g]:List PS) (.v 0) (.m .i (.v 0)) [] (by decide +kernel) trivial⟩
 | j+1=>by
   obtain⟨h,hh,e⟩:=Cd fD hs ht YF hB hg hP hQ h1 h2 hA hd j;have hj:=xN fD j;obtain⟨X,hX⟩:∃X,X=q ^ j:=⟨_,rfl⟩;have dX:=Ef q j;rw[<-hX]at e hj dX;have dq:=th q P;rw[<-hA,hd]at dq;have dg:=th X h;rw[<-e]at dg;rw[th]at h1;have k1:(dW (j:Rat)*d q*h+q*d h)*P=h*(B-q*Q):=by
    refine cancel hj ?_;have:q*d g=X*(dW (j:Rat)*d q*h+q*d h):=by rw[dg];exact lk.gA ([q,X.d,h,X,h.d,dW ↑j,q.d]:List PS) (.m (.v 0) (.a (.m (.v 1) (.v 2)) (.m (.v 3) (.v 4)))) (.m (.v 3) (.a (.m (.m (.v 5) (.v 6)) (.v 2)) (.m (.v 0) (.v 4)))) [((.v 2),(.m (.v 0) (.v 1)),(.m (.m (.v 5) (.v 3)) (.v 6)))] (by decide +kernel) ⟨dX,trivial⟩
    have h3:q*d g*P=g*(B-q*Q):=by rw[hd]at h1;exact lk.gA ([q,g.d,P,g,B,Q,A]:List PS) (.m (.m (.v 0) (.v 1)) (.v 2)) (.m (.v 3) (.s (.v 4) (.m (.v 0) (.v 5)))) [(.i,(.a (.m (.v 1) (.v 6)) (.m (.v 3) (.m (.v 0) (.v 5)))),(.m (.v 3) (.v 4))),((.n (.v 1)),(.v 6),(.m (.v 0) (.v 2)))] (by decide +kernel) ⟨h1,hA,trivial⟩
    exact lk.gA ([X,dW ↑j,q.d,h,q,h.d,P,B,Q,g,g.d]:List PS) (.m (.v 0) (.m (.a (.m (.m (.v 1) (.v 2)) (.v 3)) (.m (.v 4) (.v 5))) (.v 6))) (.m (.v 0) (.m (.v 3) (.s (.v 7) (.m (.v 4) (.v 8))))) [((.a (.n (.m (.v 4) (.v 8))) (.v 7)),(.v 9),(.m (.v 0) (.v 3))),((.n (.v 6)),(.m (.v 4) (.v 10)),(.m (.v 0) (.a (.m (.m (.v 1) (.v 2)) (.v 3)) (.m (.v 4) (.v 5))))),(.i,(.m (.m (.v 4) (.v 10)) (.v 6)),(.m (.v 9) (.s (.v 7) (.m (.v 4) (.v 8)))))] (by decide +kernel) ⟨e,this,h3,trivial⟩
   have k2:h*B=q*(dW (j:Rat)*h*(Q-d P)+d h*P+h*Q):=by exact lk.gA ([h,B,q,dW ↑j,Q,P.d,h.d,P,q.d]:List PS) (.m (.v 0) (.v 1)) (.m (.v 2) (.a (.a (.m (.m (.v 3) (.v 0)) (.s (.v 4) (.v 5))) (.m (.v 6) (.v 7))) (.m (.v 0) (.v 4)))) [((.n (.m (.v 0) (.v 3))),(.m (.v 2) (.v 4)),(.a (.m (.v 8) (.v 7)) (.m (.v 2) (.v 5)))),((.n .i),(.m (.a (.m (.m (.v 3) (.v 8)) (.v 0)) (.m (.v 2) (.v 6))) (.v 7)),(.m (.v 0) (.s (.v 1) (.m (.v 2) (.v 4)))))] (by decide +kernel) ⟨dq,k1,trivial⟩
   refine⟨h*s*P+t*(dW (j:Rat)*h*(Q-d P)+d h*P+h*Q),?_,?_⟩;exact((hh.mul hs).mul hP).add (ht.mul ((((((Fs.dW _).mul hh).mul (hQ.sub hP.d)).add (hh.d.mul hP))).add (hh.mul hQ)))
   . have e2:q ^ (j+1)=X*q:=by rw[hX];rfl
     rw[e2];have h4:h=h*s*A+t*(h*B):=by exact lk.gA ([h,s,A,t,B]:List PS) (.v 0) (.a (.m (.m (.v 0) (.v 1)) (.v 2)) (.m (.v 3) (.m (.v 0) (.v 4)))) [((.n (.v 0)),(.a (.m (.v 1) (.v 2)) (.m (.v 3) (.v 4))),.i)] (by decide +kernel) ⟨h2,trivial⟩
     rw[e];exact lk.gA ([X,h,q,s,P,t,dW ↑j,Q,P.d,h.d,A,B]:List PS) (.m (.v 0) (.v 1)) (.m (.m (.v 0) (.v 2)) (.a (.m (.m (.v 1) (.v 3)) (.v 4)) (.m (.v 5) (.a (.a (.m (.m (.v 6) (.v 1)) (.s (.v 7) (.v 8))) (.m (.v 9) (.v 4))) (.m (.v 1) (.v 7)))))) [((.n (.m (.v 0) (.v 1))),(.a (.m (.v 3) (.v 10)) (.m (.v 5) (.v 11))),.i),((.m (.m (.v 0) (.v 1)) (.v 3)),(.v 10),(.m (.v 2) (.v 4))),((.m (.v 0) (.v 5)),(.m (.v 1) (.v 11)),(.m (.v 2) (.a (.a (.m (.m (.v 6) (.v 1)) (.s (.v 7) (.v 8))) (.m (.v 9) (.v 4))) (.m (.v 1) (.v 7)))))] (by decide +kernel) ⟨h2,hA,k2,trivial⟩
def Ce{a b:PS}{k j:Nat}(h1:a.c k≠0)(h2:∀i,k<i->a.c i=0)(h3:b.c j≠0)(h4:∀i,j<i->b.c i=0):(a*b).c (k+j)≠0/\∀i,k+j<i->(a*b).c i=0:=by
 refine⟨?_,λi hi=>?_⟩
 . rw[tg,pt h2 h4];intro hh;rcases Rat.mul_eq_zero.1 hh with h | h
   exact h1 h;exact h3 h
 exact iC (a:=k+1) (b:=j+1) (λi hi=>h2 i zO) (λi hi=>h4 i zO) zO
def Cf{a:PS}{k:Nat}(h1:a.c k≠0)(h2:∀i,k<i->a.c i=0):∀n:Nat,(a ^ n).c (n*k)≠0/\∀i,n*k<i->(a ^ n).c i=0
 | 0=>by
   refine⟨?_,λi hi=>?_⟩;rw[Nat.zero_mul];show(dW 1).c 0≠0;decide
   show(dW 1).c i=0;rw[gH,if_neg zO]
 | n+1=>by
   obtain⟨h3,h4⟩:=Cf h1 h2 n;have:=Ce h3 h4 h1 h2;rw[Nat.succ_mul];exact this
end PS
end Den
end

section
namespace Den
open Go Iv Pq
def YG{a b:Rat}(h:a<=b):a<b\/a=b:=by
 by_cases h1:a<b;exact .inl h1;exact .inr (Rat.le_antisymm h (Rat.not_lt.1 h1))
def tri(a b:Rat):a<b\/a=b\/b<a:=by
 by_cases h:a<b;exact .inl h
 . rcases YG (Rat.not_lt.1 h)with h1 | h1
   exact .inr (.inr h1);exact .inr (.inl h1.symm)
def YH{a b:Rat}:0<a*b->(0<a/\0<b)\/(a<0/\b<0):=λh=>by
 rcases tri a 0 with h1 | h1 | h1
 . right;refine⟨h1,Rat.not_le.1 λh2=>?_⟩;have:=U8 (a:=-a) (b:=b) (by grind) h2
   grind
 rw[h1,Po]at h;exact absurd h (Rat.lt_irrefl)
 . left;refine⟨h1,Rat.not_le.1 λh2=>?_⟩;have:=U8 (a:=a) (b:=-b) (by grind) (by grind)
   grind
def Bd(B x:Rat):Prop:=-B<=x/\x<=B
def Bd.nn{B x:Rat}(h:Bd B x):0<=B:=by have h1:=h.1;have h2:=h.2;grind
def Bd.add{A B x y:Rat}(h1:Bd A x)(h2:Bd B y):Bd (A+B) (x+y):=by
 obtain⟨a,b⟩:=h1;obtain⟨c,d⟩:=h2;constructor<;>grind
def Bd.mul{A B x y:Rat}(h1:Bd A x)(h2:Bd B y):Bd (A*B) (x*y):=by
 obtain⟨a,b⟩:=h1;obtain⟨c,e⟩:=h2;have k1:=U8 (a:=A-x) (b:=B+y) (by grind) (by grind);have k2:=U8 (a:=A+x) (b:=B-y) (by grind) (by grind);have k3:=U8 (a:=A-x) (b:=B-y) (by grind) (by grind);have k4:=U8 (a:=A+x) (b:=B+y) (by grind) (by grind);constructor<;>grind
def Bd.self(x:Rat):∃B,0<=B/\Bd B x:=by
 rcases Rat.le_total (a:=0) (b:=x)with h | h
 exact⟨x,h,by constructor<;>grind⟩;exact⟨-x,by grind,by constructor<;>grind⟩
def Z90(R:Rat):∀p:List Rat,∃B,0<=B/\∀x,Bd R x->Bd B (ev p x)
 | []=>⟨0,Ls,λx _=>by show Bd 0 0;constructor<;>grind⟩
 | c :: r=>by
   obtain⟨B,hB,h⟩:=Z90 R r;obtain⟨C,hC,hc⟩:=Bd.self c;by_cases hR:0<=R
   . refine⟨C+B*R,?_,λx hx=>hc.add ((h x hx).mul hx)⟩;have:=U8 hB hR
     grind
   exact⟨0,Ls,λx hx=>absurd hx.nn hR⟩
def dq:List Rat->Rat->Rat->Rat
 | [],_,_=>0
 | c :: r,x,y=>ev r y+x*dq r x y
def YI:∀(p:List Rat) (x y:Rat),ev p y-ev p x=(y-x)*dq p x y
 | [],x,y=>by show(0:Rat)-0=(y-x)*0;grind
 | c :: r,x,y=>by
   have ih:=YI r x y;show(c+ev r y*y)-(c+ev r x*x)=(y-x)*(ev r y+x*dq r x y)
   grind
def Z8o(R:Rat):∀p:List Rat,∃B,0<=B/\∀x y,Bd R x->Bd R y->Bd B (dq p x y)
 | []=>⟨0,Ls,λx y _ _=>by show Bd 0 0;constructor<;>grind⟩
 | c :: r=>by
   obtain⟨B,hB,h⟩:=Z8o R r;obtain⟨C,hC,hc⟩:=Z90 R r;by_cases hR:0<=R
   . refine⟨C+R*B,?_,λx y hx hy=>(hc y hy).add (hx.mul (h x y hx hy))⟩;have:=U8 hR hB
     grind
   exact⟨0,Ls,λx y hx=>absurd hx.nn hR⟩
def YJ:List Rat->Rat->Rat->Rat
 | [],_,_=>0
 | c :: r,x,y=>dq r x y+x*YJ r x y
def Zdr:∀(p:List Rat) (x y:Rat),dq p x y-dq p x x=(y-x)*YJ p x y
 | [],x,y=>by show(0:Rat)-0=(y-x)*0;grind
 | c :: r,x,y=>by
   have ih:=Zdr r x y;have h2:=YI r x y;show(ev r y+x*dq r x y)-(ev r x+x*dq r x x)=(y-x)*(dq r x y+x*YJ r x y)
   grind
def Zdq(R:Rat):∀p:List Rat,∃B,0<=B/\∀x y,Bd R x->Bd R y->Bd B (YJ p x y)
 | []=>⟨0,Ls,λx y _ _=>by show Bd 0 0;constructor<;>grind⟩
 | c :: r=>by
   obtain⟨B,hB,h⟩:=Zdq R r;obtain⟨C,hC,hc⟩:=Z8o R r;by_cases hR:0<=R
   . refine⟨C+R*B,?_,λx y hx hy=>(hc x y hx hy).add (hx.mul (h x y hx hy))⟩;have:=U8 hR hB
     grind
   exact⟨0,Ls,λx y hx=>absurd hx.nn hR⟩
end Den
end

section
namespace Den
open Go Iv Pq
def Zz8{x y δ l L bx b2:Rat}(jC:¬0<bx*b2)(h:b2-bx=(y-x)*l)(hl:Bd L l)(h0:x<=y)(hd:y-x<=δ):Bd (δ*L) bx/\Bd (δ*L) b2:=by
 have hb:Bd δ (y-x):=⟨by grind,hd⟩;have k:=hb.mul hl;rw[<-h]at k;obtain⟨k1,k2⟩:=k;rcases Rat.le_total (a:=0) (b:=bx)with s1 | s1<;>rcases Rat.le_total (a:=0) (b:=b2)with s2 | s2
 . rcases YG s1 with t1 | t1
   . rcases YG s2 with t2 | t2
     exact absurd (T5 t1 t2) jC;constructor<;>constructor<;>grind
   constructor<;>constructor<;>grind
 constructor<;>constructor<;>grind
 constructor<;>constructor<;>grind
 . rcases YG s1 with t1 | t1
   . rcases YG s2 with t2 | t2
     exact absurd (by have:=T5 (a:=-bx) (b:=-b2) (by grind) (by grind);grind) jC;constructor<;>constructor<;>grind
   constructor<;>constructor<;>grind
def Z5e{E L:Rat}(hE:0<=E)(hL:0<=L):∃δ:Rat,0<δ/\∀e,0<=e->e<=E->e*(δ*L)<=1/4:=by
 have hp:0<4*((1+E)*(1+L)):=by
  have:=T5 (a:=1+E) (b:=1+L) (by grind) (by grind)
  grind
 refine⟨(4*((1+E)*(1+L)))⁻¹,Rat.inv_pos.2 hp,λe h0 he=>?_⟩;have hi:=Rat.mul_inv_cancel _ (show 4*((1+E)*(1+L))≠0 by grind);have hd:=Rat.inv_pos.2 hp;generalize (4*((1+E)*(1+L)))⁻¹=δ at *;have k1:0<=(1+E)*(1+L)-e*L:=by
  have h1:=U8 (a:=E-e) (b:=L) (by grind) hL
  grind
 have k2:=U8 k1 (Rat.le_of_lt hd)
 grind
def Zji{a b:Rat}(ha:0<a)(hb:0<b):∃c,0<c/\c<=a/\c<=b:=by
 rcases Rat.le_total (a:=a) (b:=b)with h | h
 exact⟨a,ha,Ls,h⟩;exact⟨b,hb,h,Ls⟩
def first{p d u v:List Rat}(R:Rat)(h1:∀x,dq p x x=ev d x)(h2:∀x,ev u x*ev p x+ev v x*ev d x=1) :
 ∃δ:Rat,0<δ/\∀x y,Bd R x->Bd R y->x<y->y-x<=δ->0<ev p x*ev p y\/(0<ev d x/\0<ev d y/\ev p x<ev p y)\/(ev d x<0/\ev d y<0/\ev p y<ev p x):=by
 obtain⟨U,hU,bu⟩:=Z90 R u;obtain⟨V,hV,bv⟩:=Z90 R v;obtain⟨L,hL,bl⟩:=Z8o R p;obtain⟨M,hM,bm⟩:=Zdq R p;obtain⟨N,hN,bn⟩:=Z8o R d;obtain⟨δ1,HK,NU⟩:=Z5e hU hL;obtain⟨δ2,hd2,E4⟩:=Z5e hV hM;obtain⟨δ3,hd3,he3⟩:=Z5e hV hN;obtain⟨δ4,hd4,l1,l2⟩:=Zji HK hd2;obtain⟨δ,hd,l3,l4⟩:=Zji hd4 hd3;refine⟨δ,hd,λx y hx hy jC hs=>?_⟩;by_cases hp:0<ev p x*ev p y;exact .inl hp
 . right;have abr:x<=y:=Rat.le_of_lt jC;obtain⟨k1,_⟩:=Zz8 hp (YI p x y) (bl x y hx hy) abr (δ:=δ1) (by grind);have e1:=NU U hU Ls;have e2:=E4 V hV Ls;have e3:=he3 V hV Ls;have w:3/4<=ev v x*ev d x:=by
    have:=((bu x hx).mul k1).2;have:=h2 x
    grind
   have b2:Bd δ2 (y-x):=⟨by grind,by grind⟩;have b3:Bd δ3 (y-x):=⟨by grind,by grind⟩;have w2:1/2<=ev v x*dq p x y:=by
    have g1:=((bv x hx).mul (b2.mul (bm x y hx hy))).1;have g2:=Zdr p x y;rw[h1]at g2;have g3:ev v x*dq p x y=ev v x*ev d x+ev v x*((y-x)*YJ p x y):=by rw[<-g2];grind
    grind
   have w3:1/2<=ev v x*ev d y:=by
    have g1:=((bv x hx).mul (b3.mul (bn x y hx hy))).1;have g2:=YI d x y;have g3:ev v x*ev d y=ev v x*ev d x+ev v x*((y-x)*dq d x y):=by rw[<-g2];grind
    grind
   have g:=YI p x y;rcases YH (a:=ev v x) (b:=ev d x) (by grind)with ⟨s1,s2⟩ | ⟨s1,s2⟩
   . left;rcases YH (a:=ev v x) (b:=dq p x y) (by grind)with ⟨_,s3⟩ | ⟨s3,_⟩
     . rcases YH (a:=ev v x) (b:=ev d y) (by grind)with ⟨_,s4⟩ | ⟨s4,_⟩
       . have:=T5 (a:=y-x) (b:=dq p x y) (by grind) s3;exact⟨s2,s4,by grind⟩
       grind
     grind
   . right;rcases YH (a:=ev v x) (b:=dq p x y) (by grind)with ⟨s3,_⟩ | ⟨_,s3⟩
     grind
     . rcases YH (a:=ev v x) (b:=ev d y) (by grind)with ⟨s4,_⟩ | ⟨_,s4⟩
       grind
       . have:=T5 (a:=y-x) (b:=-(dq p x y)) (by grind) (by grind);exact⟨s2,s4,by grind⟩
end Den
end

section
namespace Den
open Go Iv Pq PS
end Den
end

section
namespace Den
open Go Iv Pq
def b1(p:List Rat):Bool:=p.all λv=>decide (v.num.natAbs<4294967296/\v.den<4294967296)
def Z9t(P M D E q1 r1 c1 q2 Q W:List Rat):Bool:=
 decide (ft P=M)&&decide (trim (Zoe M)=D)&&decide (ft D=E)&&decide (trim (jx (mulL q1 E) r1)=trim M)&&decide (ft (trim r1)=c1)&&decide (trim (mulL q2 c1)=trim E)&&decide (trim (mulL Q c1)=trim M)&&decide (ft (trim Q)=W)
  && decide (P.length<=7)&&decide (M.length<=7)&&decide (D.length<=7)&&decide (E.length<=7)&&decide (c1.length<=7)&&decide (q1.length<=7)&&decide (q2.length<=7)&&decide (Q.length<=7)&&decide (r1.length<=(trim E).length-1)&&decide (r1.length<=7)
  && decide (trim E≠[])&&decide (trim c1≠[])&&decide (0<M.length)&&decide (E.length<=M.length)&&decide (c1.length<E.length)&&decide (0<c1.length)
  && b1 M&&b1 D&&b1 E&&b1 c1&&b1 W&&b1 (trim q1)&&b1 (trim r1)&&b1 (trim q2)&&b1 (trim Q)
section
variable {l:Sl}{q:List Rat}{c:Rat}{x:aC}
def YK{p:List Rat}{i:Nat}(hp:p.length<=i):(trim p).length<=i:=Jo cF hp
def zp4{p:List Rat}:trim (jx p [])=trim p:=Yj λi=>by rw[jK,mS,Rat.add_zero]
def Zpb{P M D E q1 r1 c1 q2 Q W:List Rat}(iS:Z9t P M D E q1 r1 c1 q2 Q W=true)(hp:PL h 1 l P)(H:∀y h',h.le h'->PL h' 1 y W->K y h'):za (F.Vm l) K h:=by
 unfold Z9t at iS;simp only[Uh,decide_eq_true_eq]at iS;obtain⟨⟨⟨⟨⟨⟨⟨⟨⟨⟨⟨⟨⟨⟨⟨⟨⟨⟨⟨⟨⟨⟨⟨⟨⟨⟨⟨⟨⟨⟨⟨⟨e1,e2⟩,e3⟩,e4⟩,e5⟩,e6⟩,e7⟩,e8⟩,f1⟩,f2⟩,f3⟩,f4⟩,f5⟩,f6⟩,f7⟩,f8⟩,f9⟩,f10⟩,g1⟩,g2⟩,g3⟩,g4⟩,g5⟩,g6⟩,k1⟩,k2⟩,k3⟩,k4⟩,k5⟩,k6⟩,k7⟩,k8⟩,k9⟩:=iS;refine zb _ (λK' hk=>?_) H;unfold F.Vm;refine DR hp zO zD λs1 h1 aP eF=>?_
 have eF:=eF.sO e1 k1;refine Zs (λh2=>absurd h2 (by rw[eF.len];omega)) (λh2=>?_);refine zd5 eF zO zD λs2 h3 ei=>?_
 have bj:=ei.hle;have ei:=ei.pl.sO e2 k2;have abt:∀{K3:Sl->Hp->Prop},(∀y h',h3.le h'->PL h' 1 y c1->K3 y h')->za (F.z72 s1 s2) K3 h3:=by
  intro K3 H3;refine zb (λy h'=>PL h' 1 y c1) (λK4 jP=>?_) λy h' hl hy=>H3 y h' hl hy
  unfold F.z72;refine DR (eF.le bj) zO zD λa h4 cf ha=>?_
  have ha:PL h4 (1+(1+1)) a (ft M):=ha;have eM:ft M=M:=by
   have hl:=Z9g (p:=P);rw[e1]at hl;have hM0:M≠[]:=Gw.1 g3;have hP0:trim P≠[]:=λhh=>by
    have:=WI (p:=P);rw[e1,hh]at this;exact hM0 (List.eq_nil_of_length_eq_zero this)
   have YL:lead M=1:=by
    unfold lead;rw[gk hl];obtain⟨hn,e⟩:=zzr hP0;simp only[e1]at hn e;rw[dM hn,e]
   unfold ft;rw[gk hl,YL];have:(λx:Rat=>(((1:Int):Rat))/1*x)=id:=by
    funext x;have:(((1:Int):Rat))/1=1:=by decide +kernel
    rw[this];exact Rat.one_mul x
   rw[this,List.map_id]
  have ha:=ha.sO eM k1;refine DR (ei.le cf) zO zD λb h5 cj hb=>?_
  have hb:=hb.sO e3 k3;refine Za (λst h'=>h3.le h'/\∃x y,PL h' 1 st.1 x/\PL h' 1 st.2.1 y/\((x=M/\y=E)\/(x=E/\y=c1)\/(x=c1/\y=[]))) (λst=>st.2.1.len)
   ⟨Ja cf cj,_,_,ha.le cj,hb,.inl ⟨rfl,rfl⟩⟩ ?_
  rintro⟨s,t,_⟩ h6 ⟨db,x,y,hx,hy,jC⟩;simp only at hx hy;have ly:=hy.len;refine zg (λh7=>?_) (λh7=>?_)
  . rcases jC with ⟨rfl,rfl⟩ | ⟨rfl,rfl⟩ | ⟨rfl,rfl⟩
    . refine zjb q1 r1 hx hy f2 f4 g1 e4 f9 f6 k6 k7 λu v h8 gR hu hv=>?_
      refine DR hv (YK zO) zD λw h9 nM hw=>?_
      have hw:=hw.sO e5 k4;exact⟨⟨Ja db (Ja gR nM),_,_,(hy.le gR).le nM,hw,.inr (.inl ⟨rfl,rfl⟩)⟩,by rw[hw.len,ly];exact g5⟩
    . refine zjb q2 [] hx hy f4 f5 g2 (by rw[zp4];exact e6) (Jt _) f7 k8 zD λu v h8 gR hu hv=>?_
      refine DR hv zD zD λw h9 nM hw=>?_
      have hw:=hw.sO (q:=[]) (by decide +kernel) zD;exact⟨⟨Ja db (Ja gR nM),_,_,(hy.le gR).le nM,hw,.inr (.inr ⟨rfl,rfl⟩)⟩,by rw[hw.len,ly];exact g6⟩
    rw[ly]at h7;exact absurd h7 zD
  . rcases jC with ⟨rfl,rfl⟩ | ⟨rfl,rfl⟩ | ⟨rfl,rfl⟩
    exact absurd (by rw[ly];omega) h7;exact absurd (by rw[ly];omega) h7;exact jP _ _ db hx
 refine abt λs3 h4 cf nE=>?_
 refine zjb Q [] ((eF.le bj).le cf) nE f2 f5 g2 (by rw[zp4];exact e7) (Jt _) f8 k9 zD λu v h5 cj hu hv=>?_
 refine DR hu (YK zO) zD λw h6 db hw=>?_
 exact hk _ _ (Ja aP (Ja bj (Ja cf (Ja cj db)))) (hw.sO e8 k5)
def zuz(P W E q1 r1 c q2:List Rat):Bool:=
 decide (2<=(trim P).length)&&decide (trim (Zoe W)=E)&&decide (trim (jx (mulL q1 E) r1)=trim W)&&decide (trim ((trim r1).map ((((-1:Int):Rat))*·))=c)&&decide (trim (mulL q2 c)=trim E)
  && decide (P.length<=7)&&decide (W.length<=7)&&decide (E.length<=7)&&decide (c.length<=7)&&decide (q1.length<=7)&&decide (q2.length<=7)&&decide (r1.length<=(trim E).length-1)&&decide (r1.length<=7)&&decide (trim E≠[])&&decide (trim c≠[])&&decide (trim r1≠[])&&decide (c.length<E.length)
  && b1 E&&b1 c&&b1 (trim q1)&&b1 (trim r1)&&b1 (trim q2)
def Zam{P M D E0 XM bY nI q20 Q W E q1 r1 c q2:List Rat}(iS:Z9t P M D E0 XM bY nI q20 Q W=true)(Ie:zuz P W E q1 r1 c q2=true)(hp:PL h 1 l P)(H:∀y h',h.le h'->lh h' 1 y [W,E,c]->K y h'):za (F.zc8 l) K h:=by
 unfold zuz at Ie;simp only[Uh,decide_eq_true_eq]at Ie;obtain⟨⟨⟨⟨⟨⟨⟨⟨⟨⟨⟨⟨⟨⟨⟨⟨⟨⟨⟨⟨⟨e1,e2⟩,e3⟩,e4⟩,e5⟩,f1⟩,f2⟩,f3⟩,f4⟩,f5⟩,f6⟩,f7⟩,f8⟩,g1⟩,g2⟩,g3⟩,g4⟩,k1⟩,k2⟩,k3⟩,k4⟩,k5⟩:=Ie;refine zb _ (λK' hk=>?_) H;unfold F.zc8;refine zl0 hp zO zD λh1 aP=>?_
 refine zc (decide_eq_false zO) ?_;refine Zpb iS (hp.le aP) λr2 h2 bH ei=>?_
 refine zd5 ei zO zD λr3 h3 nE=>?_
 have bj:=nE.hle;have nE:=nE.pl.sO e2 k1;have ei:=ei.le bj;refine Qv (n:=2) (size:=1) rfl λb4 h4 hb4 ho=>?_
 refine Za (λst h'=>∃Dh,h3.le Dh/\((∃ss:List Sl,ss=[r2,r3]/\st.1=r2/\st.2.1=r3/\Own Dh h' 1 st.2.2.1 (ss.map bO))\/(∃cB,PL Dh 1 cB c/\st.1=r3/\st.2.1=cB/\Own Dh h' 1 st.2.2.1 ([r2,r3,cB].map bO)))) (λst=>st.2.1.len)
  ⟨h3,Jf _,.inl ⟨_,rfl,rfl,rfl,ho⟩⟩ ?_
 rintro⟨s,t,w,_⟩ h5 ⟨Dh,hD,xO⟩;rcases xO with ⟨ss,rfl,es,et,cV⟩ | ⟨cB,Ig,es,et,cV⟩
 . simp only at es et cV;subst es et;refine cV.call (K1:=λr D'=>r.2.2=0/\PL D' 1 r.2.1 (trim r1)) (ziv (ei.le hD) (nE.le hD) zO zO zD (C:=2000) (λk j fD hk=>zwx (ei.le hD) (nE.le hD) fD (by have:=YK f2;have:0<(trim E).length:=Gw.2 fD;omega)) zD (λhh=>absurd hh g1) λfD y z h' qs rs hl hy hz lq lr hc fB=>⟨rfl,?_⟩) λr D1 h6 db wD ⟨er,hz⟩=>?_
   . obtain⟨_,d2⟩:=zme (q':=q1) (r':=r1) fD hc fB lq zO e3 f7;exact hz.sO d2 k4
   refine zj (λ_ h'=>h'=h6) ?_ ?_
   . rintro _ h7 rfl;refine wD.call (K1:=λv D'=>NR D' v (((-1:Int):Rat))) (Zr zD zD λv D' _ hv=>hv) λv D2 h8 gR ho8 hv=>?_
     refine ho8.call (K1:=λu D'=>PL D' 1 u c) (znp (hz.le gR) hv Zxy (Jo (YK f8) zD) zD zD λu D' hu=>hu.pl.sO e4 k2) λu D3 h9 nM qE hu=>?_
     have hlw:=qE.2.1;simp at hlw;refine pW qE (n:=1) (new:=[bO u]) rfl rfl rfl (by simp only;omega) (by simp only;omega) λy aZ hy _=>⟨⟨D3,Ja hD (Ja db (Ja gR nM)),.inr ⟨u,hu,rfl,rfl,hy⟩⟩,?_⟩
     rw[hu.len,nE.len];exact g4
   . have ez:r.2.1.len=(trim r1).length:=hz.len;have:0<(trim r1).length:=Gw.2 g3;rw[er];refine zc rfl (Zs (λh7=>by omega) (λh7=>rfl))
 . simp only at es et cV;subst es et;refine cV.call (K1:=λr D'=>r.2.2=0/\PL D' 1 r.2.1 []) (ziv (nE.le hD) Ig zO zO zD (C:=2000) (λk j fD hk=>zwx (nE.le hD) Ig fD (by have:=YK f3;have:0<(trim c).length:=Gw.2 fD;omega)) zD (λhh=>absurd hh g2) λfD y z h' qs rs hl hy hz lq lr hc fB=>⟨rfl,?_⟩) λr D1 h6 db wD ⟨er,hz⟩=>?_
   . obtain⟨_,d2⟩:=zme (q':=q2) (r':=[]) fD hc fB lq zO (by rw[zp4];exact e5) (Jt _);exact hz.sO d2 zD
   refine zj (λ_ _=>False) (λ_ _ hh=>hh.elim) ?_;rw[er];refine zc rfl (zk (by rw[hz.len];rfl) ?_);refine hk _ _ (Ja aP (Ja bH (Ja bj (Ja hD (Ja db wD.1))))) ⟨[r2,s,t],wD.rd,rfl,λk g1 g2=>?_⟩;have hd6:=Ja db wD.1
   match k,g1 with
   | 0,_=>exact(ei.le hD).le hd6
   | 1,_=>exact(nE.le hD).le hd6
   | 2,_=>exact Ig.le hd6
def Zz9:Z9t [-2,0,1] [-2,0,1] [0,2] [0,1] [0,1] [-2] [1] [0,1] [-2,0,1] [-2,0,1]=true:=by decide +kernel
def Zoa:zuz [-2,0,1] [-2,0,1] [0,2] [0,(1:Rat)/2] [-2] [2] [0,1]=true:=by decide +kernel
end
end Den
end

section
namespace Den
open Go Iv Pq
def Z8c{c:Rat}(h:b1 [c]=true):BR 1 c:=by
 have h3:=of_decide_eq_true (J1.1 h c zS);refine⟨?_,?_⟩;unfold Lt;rw[Nat.pow_one,Dw];exact h3.1;unfold Lt;rw[Nat.pow_one,Dw];show((c).den:Int).natAbs<4294967296;omega
def Zl0(ps:zV)(c:Rat):Bool:=ps.all λp=>decide (p.length<=7)&&b1 ((List.range 8).map λi=>ev (p.drop i) c)
def zud{ps:zV}{c:Rat}(h:Zl0 ps c=true):(∀p∈ps,p.length<=1000)/\∀p∈ps,∀i,BR 1 (ev (p.drop i) c):=by
 have key:∀p∈ps,p.length<=7/\∀i,i<8->BR 1 (ev (p.drop i) c):=by
  intro p hp;have h1:=J1.1 h p hp;rw[Uh,decide_eq_true_eq]at h1;refine⟨h1.1,λi hi=>?_⟩;have h2:=J1.1 h1.2 (ev (p.drop i) c) (List.mem_map.2 ⟨i,List.mem_range.2 hi,rfl⟩);have h3:=of_decide_eq_true h2;refine⟨?_,?_⟩;unfold Lt;rw[Nat.pow_one,Dw];exact h3.1;unfold Lt;rw[Nat.pow_one,Dw];show((ev (p.drop i) c).den:Int).natAbs<4294967296;omega
 refine⟨λp hp=>Jo (key p hp).1 zD,λp hp i=>?_⟩;rcases Jx i 8 with hi | hi
 exact(key p hp).2 i hi
 . have:=(key p hp).2 7 zD;have e:∀j,p.length<=j->p.drop j=[]:=λj hj=>List.drop_of_length_le hj
   rw[e 7 (key p hp).1]at this;rw[e i (Jo (key p hp).1 zO)];exact this
section
variable {l:Sl}{ps:zV}{c:Rat}{x:aC}
def zg1{n:Nat}(hq:lh h 1 l ps)(hx:NR h x c)(bc:b1 [c]=true)(hlen:ps.length<=1000)(hs:Zl0 ps c=true)(hn:chN ps c=n)(H:∀h',h.le h'->Ki (n:Int) h'):za (F.FR l x) Ki h:=
 zss hq hx (Z8c bc) hlen zD zD (zud hs).1 (zud hs).2 zD λh' hl=>by rw[hn];exact H h' hl
end
end Den
end

section
namespace Den
open Go Iv Pq
section
end
end Den
end

section
namespace Den
open Go Iv Pq
section
end
end Den
end

section
namespace Den
open Go Iv Pq
section
end
end Den
end

section
namespace Den
open Go Iv Pq PS
end Den
end

section
namespace Den
open Go Iv Pq
section
end
end Den
end

section
namespace Den
open Go Iv Pq PS
end Den
end

section
namespace Den
open Go Iv Pq PS
def Znv:BR 1 (Jw 1 2):=by
 refine BR.divInt (k:=1) ?_ ?_ zD<;>(unfold Lt;rw[Nat.pow_one,Dw];decide)
section
variable {j:Nat}{KR:zY aC}{i:aH}{u:Rat}
def zeg{m n:Int}(h1:-9223372036854775808<=m)(h2:m<=9223372036854775807)(h3:-9223372036854775808<=n)(h4:n<=9223372036854775807)(h0:n≠0)(H:∀z h',h.le h'->NR h' z (Jw m n)->KR z h'):za (F.FT m n) KR h:=by
 refine zb _ (λK' hk=>?_) H;unfold F.FT;refine Qq h1 h2 λa g1 l1 ha=>Qq h3 h4 λb g2 l2 hb=>?_
 refine Hs (k:=2) (ha.le l2) hb (Lt.Bq zO zO) (Lt.Bq zO zO) zD h0 λz g3 l3 hz=>?_
 exact oB (λhh=>absurd rfl hh) (λ_=>hk _ _ (Ja l1 (Ja l2 l3)) hz)
def zwl(ha:NV h i u v)(b1:BR j u)(b2:BR j v)(hj:j<=10000000000)(H:∀z h',h.le h'->NR h' z ((u+v)*Jw 1 2)->KR z h'):za (F.z9z i) KR h:=by
 refine zb _ (λK' hk=>?_) H;unfold F.z9z;refine zX ha.1 ha.2 b1 b2 zO zO λa g1 l1 h1=>?_
 refine zeg zD zD zD zD zD λb g2 l2 h2=>?_
 exact wR (h1.le l2) h2 (b1.add b2) Znv zO zD λc g3 l3 h3=>hk _ _ (Ja l1 (Ja l2 l3)) h3
end
end Den
end

section
namespace Den
open Iv
def eS(k:Nat):Nat->Nat
 | 0=>k
 | n+1=>3*eS k n+1
def zv7{k:Nat}:∀{n m:Nat},n<=m->eS k n<=eS k m
 | n,0,h=>by
   have:n=0:=zO;subst this;exact Jd _
 | n,m+1,h=>by
   rcases Jx n (m+1)with h1 | h1
   . have:=zv7 (k:=k) (show n<=m by omega);show _<=3*eS k m+1;omega
   . have:n=m+1:=zO;subst this;exact Jd _
def TC(k:Nat):zV->Prop
 | []=>True
 | r :: T=>TC k T/\∀q∈r,Sz (Jn q) k
def YM{k:Nat}:∀{T:zV} {a:List Rat},RT T->TC k T->a.length=2 ^ T.length->(∀q∈a,Sz (Jn q) k)->Sz (tv T a) (eS k T.length)
 | [],[q],_,_,_,h=>h q zS
 | [],[],_,_,h,_=>by simp at h
 | [],_ :: _ :: _,_,_,h,_=>by simp at h
 | r :: T,a,hT,hC,ha,h=>by
   rw[BV];have h1:=YM hT.1 hC.1 (Xa ha) λq hq=>h q (List.mem_of_mem_take hq)
   have h2:=YM hT.1 hC.1 (Xs ha) λq hq=>h q (List.mem_of_mem_drop hq)
   have h3:=(YM hT.1 hC.1 hT.2.1 hC.2).root (Gq (.inr hT.2.2.1));refine(h1.add (h3.mul h2)).mono ?_;show _<=3*eS k T.length+1;omega
def Z25{k:Nat}:∀{T:zV} {m:Nat},RT T->TC k T->T.length<=m+1->TS (eS k m) T
 | [],_,_,_,_=>trivial
 | r :: T,m,hT,hC,hm=>by
   have LU:T.length<=m:=by simpa using hm
   exact⟨Z25 hT.1 hC.1 zO,(YM hT.1 hC.1 hT.2.1 hC.2).mono (zv7 LU)⟩
def wo:Nat->Nat->List Rat->List Rat
 | 0,_,a=>a
 | n+1,i,a=>if n=i then a.take (2 ^ n)else wo n i (a.take (2 ^ n))++wo n i (a.drop (2 ^ n))
def wz:Nat->Nat->List Rat->Prop
 | 0,_,_=>True
 | n+1,i,a=>if n=i then a.drop (2 ^ n)=Zt (2 ^ n)else wz n i (a.take (2 ^ n))/\wz n i (a.drop (2 ^ n))
def wT(i:Nat):zV->zV
 | []=>[]
 | r :: T=>if T.length=i then T else wo T.length i r :: wT i T
def vn(i:Nat):zV->Prop
 | []=>True
 | r :: T=>if T.length=i then True else wz T.length i r/\vn i T
def Zrz{n i:Nat}{a:List Rat}(h:n=i):wo (n+1) i a=a.take (2 ^ n):=by
 show(if n=i then _ else _)=_;rw[if_pos h]
def Zs0{n i:Nat}{a:List Rat}(h:¬n=i):wo (n+1) i a=wo n i (a.take (2 ^ n))++wo n i (a.drop (2 ^ n)):=by
 show(if n=i then _ else _)=_;rw[if_neg h]
def Zrx{i:Nat}{r:List Rat}{T:zV}(h:T.length=i):wT i (r :: T)=T:=by
 show(if T.length=i then _ else _)=_;rw[if_pos h]
def Zry{i:Nat}{r:List Rat}{T:zV}(h:¬T.length=i):wT i (r :: T)=wo T.length i r :: wT i T:=by
 show(if T.length=i then _ else _)=_;rw[if_neg h]
def zy3{i:Nat}:∀{T:zV},i<T.length->(wT i T).length+1=T.length
 | [],h=>by simp at h
 | r :: T,h=>by
   unfold wT;split;rw[Ji]
   . rename_i cd;rw[Ji,Ji,zy3 (by simp at h;omega)]
def YN{i:Nat}:∀{n:Nat} {a:List Rat},i<n->a.length=2 ^ n->(wo n i a).length=2 ^ (n-1)
 | 0,_,h,_=>by omega
 | n+1,a,h,ha=>by
   unfold wo;rw[Zm]at ha;split;simp only[Jk,ha];rw[Nat.add_sub_cancel];omega
   . have hn:i<n:=zO;rw[Jq,YN hn (by simp only[Jk,ha];omega),YN hn (by simp only[List.length_drop,ha];omega)];rw[Nat.add_sub_cancel];have:n=n-1+1:=zO
     conv=>rhs;rw[this,Zm]
def Ih{i:Nat}:∀{T:zV} {a:List Rat},i<T.length->RT T->vn i T->a.length=2 ^ T.length->wz T.length i a->tv (wT i T) (wo T.length i a)=tv T a
 | [],_,h,_,_,_,_=>by simp at h
 | r :: T,a,hi,hT,hz,ha,Ii=>by
   have pg:=Xa ha;have sL:=Xs ha;rw[Ji]at Ii |-
   unfold wz at Ii;unfold vn at hz;by_cases h1:T.length=i
   . rw[if_pos h1]at Ii;rw[Zrx h1,Zrz h1,BV,Ii,uq,J0,Ua]
   . rw[if_neg h1]at hz Ii;rw[Zry h1,Zs0 h1];have aA:i<T.length:=by simp at hi;omega
     have l1:=YN (i:=i) aA pg;have l2:=zy3 (i:=i) (T:=T) aA;have l3:(wo T.length i (a.take (2 ^ T.length))).length=2 ^ (wT i T).length:=by rw[l1];congr 1;omega
     rw[vj l3,Ih aA hT.1 hz.2 hT.2.1 hz.1,Ih aA hT.1 hz.2 pg Ii.1,Ih aA hT.1 hz.2 sL Ii.2];rfl
def Zcq{i:Nat}:∀{T:zV},i<T.length->RT T->vn i T->∀{x:Re},KT (wT i T) x->KT T x
 | [],h,_,_,_,_=>by simp at h
 | r :: T,hi,hT,hz,x,hx=>by
   unfold wT at hx;unfold vn at hz;by_cases h1:T.length=i
   . rw[if_pos h1]at hx;exact hx.up
   . rw[if_neg h1]at hx hz;have aA:i<T.length:=by simp at hi;omega
     obtain⟨u,v,hu,hv,rfl⟩:=hx.cut;rw[Ih aA hT.1 hz.2 hT.2.1 hz.1];exact(Zcq aA hT.1 hz.2 hu).join (Zcq aA hT.1 hz.2 hv)
def Zpn{i:Nat}:∀{T:zV},i<T.length->RT T->vn i T->RT (wT i T)
 | [],h,_,_=>by simp at h
 | r :: T,hi,hT,hz=>by
   unfold wT;unfold vn at hz;by_cases h1:T.length=i;rw[if_pos h1];exact hT.1
   . rw[if_neg h1]at hz |-
     have aA:i<T.length:=by simp at hi;omega
     have l2:=zy3 (i:=i) (T:=T) aA;have e:=Ih aA hT.1 hz.2 hT.2.1 hz.1;refine⟨Zpn aA hT.1 hz.2,?_,by rw[e];exact hT.2.2.1,λw hw hh=>?_⟩;rw[YN aA hT.2.1];congr 1;omega
     . obtain⟨w',hw',h2⟩:=Zcq aA hT.1 hz.2 ⟨w,hw,rfl⟩;exact hT.2.2.2 w' hw' (by rw[h2,hh,e])
def Zpp{G:Re->Prop}{i:Nat}:∀{T:zV},i<T.length->RT T->vn i T->TF G T->TF G (wT i T)
 | [],h,_,_,_=>by simp at h
 | r :: T,hi,hT,hz,hf=>by
   unfold wT;unfold vn at hz;by_cases h1:T.length=i;rw[if_pos h1];exact hf.1
   . rw[if_neg h1]at hz |-
     have aA:i<T.length:=by simp at hi;omega
     exact⟨Zpp aA hT.1 hz.2 hf.1,by rw[Ih aA hT.1 hz.2 hT.2.1 hz.1];exact hf.2⟩
end Den
end

section
namespace Den
def vo:Rng.RL Re 0 1:=⟨Re.add_comm,Re.add_assoc,Ua,Re.add_neg,Re.mul_comm,Re.mul_assoc,Re.mul_one,Re.mul_add,Ub⟩
section
variable {C S m a b c d p q w v t k:Re}
def Zsq(N:C*C+S*S=1)(M:m*m=1):(C*a-S*(m*b))*(C*c-S*(m*d))+(S*a+C*(m*b))*(S*c+C*(m*d))=a*c+b*d:=by exact vo.gA ([C,a,S,m,b,c,d]:List Re) (.a (.m (.s (.m (.v 0) (.v 1)) (.m (.v 2) (.m (.v 3) (.v 4)))) (.s (.m (.v 0) (.v 5)) (.m (.v 2) (.m (.v 3) (.v 6))))) (.m (.a (.m (.v 2) (.v 1)) (.m (.v 0) (.m (.v 3) (.v 4)))) (.a (.m (.v 2) (.v 5)) (.m (.v 0) (.m (.v 3) (.v 6)))))) (.a (.m (.v 1) (.v 5)) (.m (.v 4) (.v 6))) [((.a (.m (.m (.m (.v 3) (.v 3)) (.v 4)) (.v 6)) (.m (.v 1) (.v 5))),(.a (.m (.v 0) (.v 0)) (.m (.v 2) (.v 2))),.i),((.m (.v 4) (.v 6)),(.m (.v 3) (.v 3)),.i)] (by decide +kernel) ⟨N,M,trivial⟩
def Zja(N:C*C+S*S=1):(C*a-S*(m*b))*(S*c+C*(m*d))-(S*a+C*(m*b))*(C*c-S*(m*d))=m*(a*d-b*c):=by exact vo.gA ([C,a,S,m,b,c,d]:List Re) (.s (.m (.s (.m (.v 0) (.v 1)) (.m (.v 2) (.m (.v 3) (.v 4)))) (.a (.m (.v 2) (.v 5)) (.m (.v 0) (.m (.v 3) (.v 6))))) (.m (.a (.m (.v 2) (.v 1)) (.m (.v 0) (.m (.v 3) (.v 4)))) (.s (.m (.v 0) (.v 5)) (.m (.v 2) (.m (.v 3) (.v 6)))))) (.m (.v 3) (.s (.m (.v 1) (.v 6)) (.m (.v 4) (.v 5)))) [((.a (.n (.m (.m (.v 3) (.v 4)) (.v 5))) (.m (.m (.v 1) (.v 3)) (.v 6))),(.a (.m (.v 0) (.v 0)) (.m (.v 2) (.v 2))),.i)] (by decide +kernel) ⟨N,trivial⟩
def Zok:C*a-S*(m*b)+x-(C*c-S*(m*d)+x)=C*(a-c)-S*(m*(b-d)):=by exact vo.gA ([C,a,S,m,b,x,c,d]:List Re) (.s (.a (.s (.m (.v 0) (.v 1)) (.m (.v 2) (.m (.v 3) (.v 4)))) (.v 5)) (.a (.s (.m (.v 0) (.v 6)) (.m (.v 2) (.m (.v 3) (.v 7)))) (.v 5))) (.s (.m (.v 0) (.s (.v 1) (.v 6))) (.m (.v 2) (.m (.v 3) (.s (.v 4) (.v 7))))) [] (by decide +kernel) trivial
def Zol:S*a+C*(m*b)+y-(S*c+C*(m*d)+y)=S*(a-c)+C*(m*(b-d)):=by exact vo.gA ([S,a,C,m,b,y,c,d]:List Re) (.s (.a (.a (.m (.v 0) (.v 1)) (.m (.v 2) (.m (.v 3) (.v 4)))) (.v 5)) (.a (.a (.m (.v 0) (.v 6)) (.m (.v 2) (.m (.v 3) (.v 7)))) (.v 5))) (.a (.m (.v 0) (.s (.v 1) (.v 6))) (.m (.v 2) (.m (.v 3) (.s (.v 4) (.v 7))))) [] (by decide +kernel) trivial
def Zoi:C*(a+c)-S*(m*(b+d))+x=C*a-S*(m*b)+x+(C*c-S*(m*d)):=by exact vo.gA ([C,a,c,S,m,b,d,x]:List Re) (.a (.s (.m (.v 0) (.a (.v 1) (.v 2))) (.m (.v 3) (.m (.v 4) (.a (.v 5) (.v 6))))) (.v 7)) (.a (.a (.s (.m (.v 0) (.v 1)) (.m (.v 3) (.m (.v 4) (.v 5)))) (.v 7)) (.s (.m (.v 0) (.v 2)) (.m (.v 3) (.m (.v 4) (.v 6))))) [] (by decide +kernel) trivial
def Zoj:S*(a+c)+C*(m*(b+d))+y=S*a+C*(m*b)+y+(S*c+C*(m*d)):=by exact vo.gA ([S,a,c,C,m,b,d,y]:List Re) (.a (.a (.m (.v 0) (.a (.v 1) (.v 2))) (.m (.v 3) (.m (.v 4) (.a (.v 5) (.v 6))))) (.v 7)) (.a (.a (.a (.m (.v 0) (.v 1)) (.m (.v 3) (.m (.v 4) (.v 5)))) (.v 7)) (.a (.m (.v 0) (.v 2)) (.m (.v 3) (.m (.v 4) (.v 6))))) [] (by decide +kernel) trivial
def Zoc(h1:a*x+b*y=a*z+b*w)(h2:c*x+d*y=c*z+d*w):(a*d-b*c)*x=(a*d-b*c)*z:=by exact vo.gA ([a,d,b,c,x,z,y,w]:List Re) (.m (.s (.m (.v 0) (.v 1)) (.m (.v 2) (.v 3))) (.v 4)) (.m (.s (.m (.v 0) (.v 1)) (.m (.v 2) (.v 3))) (.v 5)) [((.v 1),(.a (.m (.v 0) (.v 4)) (.m (.v 2) (.v 6))),(.a (.m (.v 0) (.v 5)) (.m (.v 2) (.v 7)))),((.n (.v 2)),(.a (.m (.v 3) (.v 4)) (.m (.v 1) (.v 6))),(.a (.m (.v 3) (.v 5)) (.m (.v 1) (.v 7))))] (by decide +kernel) ⟨h1,h2,trivial⟩
def Zod(h1:a*x+b*y=a*z+b*w)(h2:c*x+d*y=c*z+d*w):(a*d-b*c)*y=(a*d-b*c)*w:=by exact vo.gA ([a,d,b,c,y,w,x,z]:List Re) (.m (.s (.m (.v 0) (.v 1)) (.m (.v 2) (.v 3))) (.v 4)) (.m (.s (.m (.v 0) (.v 1)) (.m (.v 2) (.v 3))) (.v 5)) [((.n (.v 3)),(.a (.m (.v 0) (.v 6)) (.m (.v 2) (.v 4))),(.a (.m (.v 0) (.v 7)) (.m (.v 2) (.v 5)))),((.v 0),(.a (.m (.v 3) (.v 6)) (.m (.v 1) (.v 4))),(.a (.m (.v 3) (.v 7)) (.m (.v 1) (.v 5))))] (by decide +kernel) ⟨h1,h2,trivial⟩
def Zsg(h0:a*d-b*c≠0)(h1:a*x+b*y=a*z+b*w)(h2:c*x+d*y=c*z+d*w):x=z/\y=w:=
 ⟨Re.cancel h0 (Zoc h1 h2),Re.cancel h0 (Zod h1 h2)⟩
def Y0q(hi:(a*d-b*c+(a*d-b*c))*k=1):(a*((d*p-b*q)*k)+b*((a*q-c*p)*k))+(a*((d*p-b*q)*k)+b*((a*q-c*p)*k))=p:=by exact vo.gA ([a,d,p,b,q,k,c]:List Re) (.a (.a (.m (.v 0) (.m (.s (.m (.v 1) (.v 2)) (.m (.v 3) (.v 4))) (.v 5))) (.m (.v 3) (.m (.s (.m (.v 0) (.v 4)) (.m (.v 6) (.v 2))) (.v 5)))) (.a (.m (.v 0) (.m (.s (.m (.v 1) (.v 2)) (.m (.v 3) (.v 4))) (.v 5))) (.m (.v 3) (.m (.s (.m (.v 0) (.v 4)) (.m (.v 6) (.v 2))) (.v 5))))) (.v 2) [((.v 2),(.m (.a (.s (.m (.v 0) (.v 1)) (.m (.v 3) (.v 6))) (.s (.m (.v 0) (.v 1)) (.m (.v 3) (.v 6)))) (.v 5)),.i)] (by decide +kernel) ⟨hi,trivial⟩
def Y0r(hi:(a*d-b*c+(a*d-b*c))*k=1):(c*((d*p-b*q)*k)+d*((a*q-c*p)*k))+(c*((d*p-b*q)*k)+d*((a*q-c*p)*k))=q:=by exact vo.gA ([c,d,p,b,q,k,a]:List Re) (.a (.a (.m (.v 0) (.m (.s (.m (.v 1) (.v 2)) (.m (.v 3) (.v 4))) (.v 5))) (.m (.v 1) (.m (.s (.m (.v 6) (.v 4)) (.m (.v 0) (.v 2))) (.v 5)))) (.a (.m (.v 0) (.m (.s (.m (.v 1) (.v 2)) (.m (.v 3) (.v 4))) (.v 5))) (.m (.v 1) (.m (.s (.m (.v 6) (.v 4)) (.m (.v 0) (.v 2))) (.v 5))))) (.v 4) [((.v 4),(.m (.a (.s (.m (.v 6) (.v 1)) (.m (.v 3) (.v 0))) (.s (.m (.v 6) (.v 1)) (.m (.v 3) (.v 0)))) (.v 5)),.i)] (by decide +kernel) ⟨hi,trivial⟩
def Z94(h:x+x=y+y):x=y:=by
 have h1:Jn 2*x=Jn 2*y:=by rw[Re.two_mul,Re.two_mul,h]
 refine Re.cancel (x:=Jn 2) (λhh=>?_) h1;have:=Re.dh (hh.trans Re.cC.symm);exact absurd this zD
def zo8(h:a*a+b*b=0):a=0/\b=0:=by
 have h1:=Re.bG a;have h2:=Re.bG b;have key:∀s t:Re,0<=s*s->0<=t*t->s*s+t*t=0->s=0:=by
  intro s t hs ht ic;refine Uu λcd=>?_
  have h3:=Re.iG cd;have h4:0<s*s+t*t:=by
   have:=Re.add_lt_left (z:=t*t) h3;rw[Re.zero_add]at this;exact Re.lt_of_le_of_lt ht this
  rw[ic]at h4;exact Gn _ h4
 exact⟨key a b h1 h2 h,key b a h2 h1 (by rw[Re.add_comm];exact h)⟩
def Ms(h:¬(a=0/\b=0)):a*a+b*b≠0:=λhh=>h (zo8 hh)
def Zyk(h1:a*y-b*x=0)(h2:a*(c-x)+b*(d-y)=0)(h3:a*w-b*z=0)(h4:a*(c-z)+b*(d-w)=0):(a*a+b*b)*x=(a*a+b*b)*z:=by exact vo.gA ([a,b,x,z,y,c,d,w]:List Re) (.m (.a (.m (.v 0) (.v 0)) (.m (.v 1) (.v 1))) (.v 2)) (.m (.a (.m (.v 0) (.v 0)) (.m (.v 1) (.v 1))) (.v 3)) [((.n (.v 1)),(.s (.m (.v 0) (.v 4)) (.m (.v 1) (.v 2))),.o),((.n (.v 0)),(.a (.m (.v 0) (.s (.v 5) (.v 2))) (.m (.v 1) (.s (.v 6) (.v 4)))),.o),((.v 1),(.s (.m (.v 0) (.v 7)) (.m (.v 1) (.v 3))),.o),((.v 0),(.a (.m (.v 0) (.s (.v 5) (.v 3))) (.m (.v 1) (.s (.v 6) (.v 7)))),.o)] (by decide +kernel) ⟨h1,h2,h3,h4,trivial⟩
def Zyl(h1:a*y-b*x=0)(h2:a*(c-x)+b*(d-y)=0)(h3:a*w-b*z=0)(h4:a*(c-z)+b*(d-w)=0):(a*a+b*b)*y=(a*a+b*b)*w:=by exact vo.gA ([a,b,y,w,x,c,d,z]:List Re) (.m (.a (.m (.v 0) (.v 0)) (.m (.v 1) (.v 1))) (.v 2)) (.m (.a (.m (.v 0) (.v 0)) (.m (.v 1) (.v 1))) (.v 3)) [((.v 0),(.s (.m (.v 0) (.v 2)) (.m (.v 1) (.v 4))),.o),((.n (.v 1)),(.a (.m (.v 0) (.s (.v 5) (.v 4))) (.m (.v 1) (.s (.v 6) (.v 2)))),.o),((.n (.v 0)),(.s (.m (.v 0) (.v 3)) (.m (.v 1) (.v 7))),.o),((.v 1),(.a (.m (.v 0) (.s (.v 5) (.v 7))) (.m (.v 1) (.s (.v 6) (.v 3)))),.o)] (by decide +kernel) ⟨h1,h2,h3,h4,trivial⟩
def zzd(h0:¬(a=0/\b=0))(h1:a*y-b*x=0)(h2:a*(c-x)+b*(d-y)=0)(h3:a*w-b*z=0)(h4:a*(c-z)+b*(d-w)=0):x=z/\y=w:=
 ⟨Re.cancel (Ms h0) (Zyk h1 h2 h3 h4),Re.cancel (Ms h0) (Zyl h1 h2 h3 h4)⟩
end
end Den
end

section
namespace Den
section
variable {T T':zV}
def KT.rZ(hT:RT T):∀{U:zV},TF (KT T) U->∀{x:Re},KT U x->KT T x
 | [],_,x,⟨a,_,hx⟩=>by rw[<-hx];exact KT.of _
 | r :: U,hU,x,hx=>by
   obtain⟨u,v,hu,hv,rfl⟩:=hx.cut;exact(KT.rZ hT hU.1 hu).add (hU.2.mul hT (KT.rZ hT hU.1 hv))
def KT.ext{X:zV}(h:KT T x):KT (X++T) x:=by
 induction X with
 | nil=>exact h
 | cons r X ih=>exact ih.up
def TF.ext{X:zV}:∀{U:zV},TF (KT T) U->TF (KT (X++T)) U
 | [],_=>trivial
 | r :: U,h=>⟨TF.ext h.1,h.2.ext⟩
def TF.self:∀{T:zV},TF (KT T) T
 | []=>trivial
 | r :: T=>⟨TF.ext (X:=[r]) TF.self,KT.root⟩
def AJ(T:zV)(x:Re)(T':zV):Prop:=(Sq T x/\T'=T)\/(¬Sq T x/\∃p:List Rat,T'=p :: T/\p.length=2 ^ T.length/\tv T p=x)
def Sq.Cg(h0:0<=x)(h:KT T x.sqrt):Sq T x:=⟨_,h,Gq h0⟩
def Sq.zero:Sq T 0:=⟨0,KT.zero,Re.zero_mul 0⟩
def zqu(h0:0<=x)(h:¬Sq T x):0<x:=by
 rcases h0 with h1 | h1
 exact absurd (by rw[<-h1];exact Sq.zero) h;exact h1
def AJ.pre(h:AJ T x T'):∃X,T'=X++T:=by
 rcases h with ⟨_,h⟩ | ⟨_,p,h,_⟩
 exact⟨[],h⟩;exact⟨[p],h⟩
def AJ.same(h0:0<=x)(hk:KT T x.sqrt)(h:AJ T x T'):T'=T:=by
 rcases h with ⟨_,h1⟩ | ⟨h1,_⟩
 exact h1;exact absurd (Sq.Cg h0 hk) h1
def FL.ext{X:zV}{s:List Rat}(h:FL T x s):FL (X++T) x s:=by
 obtain⟨Y,Z,rfl,h1,h2⟩:=h;exact⟨X++Y,Z,by rw[J8],h1,h2⟩
def EM.ext{X:zV}:∀{U ss:zV},EM T U ss->EM (X++T) U ss
 | [],[],_=>trivial
 | _ :: _,_ :: _,⟨h,k⟩=>⟨h.ext,k.ext⟩
 | [],_ :: _,h=>h.elim
 | _ :: _,[],h=>h.elim
end
end Den
end

section
namespace Den
open Go Iv Pq
section
variable {B s:Nat}{b c l:Sl}{q:List Rat}{T:zV}{w:Re}
def zw8(hT:RT (r :: T))(hS:TS S (r :: T))(hn:(r :: T).length<=4)(hl:Rd h 1 l [bO a,bO b])(ha:EV h S T x s a)(hb:EV h S T y u b)(hz:Sz (x+(tv T r).sqrt*y) n)
 (H:∀z h',bQ h h' S (r :: T) (x+(tv T r).sqrt*y) n z->K z h'):za (F.Z0 l) K h:=by
 obtain⟨p,⟨xs,hx,hxq,_⟩,lp,rfl,sp⟩:=ha;obtain⟨q,⟨ys,hy,hyq,_⟩,lq,rfl,sq⟩:=hb;have pU:=Xn (n:=T.length) (by simp at hn;omega);have uQ:=J7 T.length;have e1:=hxq.1;have e2:=hyq.1;refine zkk hl hx hy zO zO zO λz h1 ho=>H z h1 ?_
 have fl:(p++q).length=2 ^ (r :: T).length:=Mh lp lq;have fv:tv (r :: T) (p++q)=tv T p+(tv T r).sqrt*tv T q:=vj lp;have VI:QL h (max (s+CO S) (u+CO S)) (xs++ys) (p++q):=by
  have k1:=hxq.mono (Nat.le_max_left (s+CO S) (u+CO S));have k2:=hyq.mono (Nat.le_max_right (s+CO S) (u+CO S));refine⟨by simp[e1,e2],λk g1 g2=>?_⟩;rcases Jx k xs.length with h3 | h3
  . rw[J2 h3,J2 zO];exact k1.2 k h3 zO
  . rw[J3 h3,J3 zO];have:=k2.2 (k-xs.length) (by simp at g1;omega) (by simp at g2;omega);simpa only[e1] using this
 rw[<-fv]at hz |-
 exact Mn hT hS hn ⟨h,Jf _,xs++ys,ho,VI⟩ fl hz
def EV.Ij{P:Prop}(hP:P){K:Sl->Sl->Prop}(hT:RT (r :: T))(hS:TS S (r :: T))(hn:(r :: T).length<=4)(ha:EV h S (r :: T) x s a)
 (H:∀c d u v,KT T u->KT T v->x=u+(tv T r).sqrt*v->EV h S T u (s+CL S) c->EV h S T v (s+CL S) d->K c d) :
 ca a 0 (i64.wrap (((a.len:Int):Int).tdiv 2)) 4 λc=>(P/\ca a (i64.wrap (((a.len:Int):Int).tdiv 2)) (a.len:Int) 4 λd=>K c d):=by
 have:=ha.Ea (K:=K) hT hS hn H;obtain⟨h1,h2,h3,h4⟩:=this;exact⟨h1,h2,h3,hP,h4⟩
def Z6a(ht:TW h B S t T)(ha:EV h S T x s a)(aD:s+(200*S+20)<=300000000000)(H:∀z h',bQ h h' S T (Jn (1/2)*x) (s+1) z->K z h'):za (F.zi8 t a) K h:=by
 refine zb (λz h'=>bQ h h' S T (Jn (1/2)*x) (s+1) z) (λK' hk=>?_) λz h' _ hz=>H z h' hz
 unfold F.zi8;refine zeg (m:=1) (n:=2) zD zD zD zD zD λw h1 l1 hw=>?_
 have e:Jw 1 2=1/2:=by rw[Rat.divInt_eq_div];rfl
 rw[e]at hw;have b1:BR 1 (1/2:Rat):=by refine⟨?_,?_⟩<;>unfold Lt W<;>decide +kernel
 refine B1 (s:=1) (ht.le l1) hw b1 zO λz h2 e2=>?_
 have l2:=Ja l1 e2.hle;refine Af (ht.le l2) (ha.le l2) e2.ev zO λz3 h3 e3=>?_
 rw[Re.mul_comm]at e3;exact hk _ _ (Ja l2 e3.hle) (e3.base l2)
end
end Den
end

section
namespace Den
open Go Iv Pq
@[irreducible] def PQ (S s:Nat):Nat:=s+16*S+2
def xP(S s:Nat):PQ S s=s+16*S+2:=by unfold PQ;rfl
def Ik(h:Hp)(n:Nat)(z:Sl):Prop:=∃xs,qH h z xs/\xs.length<=2 ^ n
def Ik.nil{h:Hp}{n:Nat}:Ik h n zd:=⟨[],Rd.nil,Jt _⟩
section
variable {B s:Nat}{b c:Sl}{T:zV}{w:Re}
def Z1o(ht:TW h B S t (r :: T))(ha:EV h S (r :: T) x s a)(aD:2*s+(300*S+50)<=300000000000)
 (H:∀u v z h',KT T u->KT T v->x=u+(tv T r).sqrt*v->bQ h h' S T (u*u-tv T r*(v*v)) (s+s) z->K z h'):za (F.zfk t a) K h:=by
 refine zb (λz h'=>∃u v,KT T u/\KT T v/\x=u+(tv T r).sqrt*v/\bQ h h' S T (u*u-tv T r*(v*v)) (s+s) z) (λK' hk=>?_) λz h' _ ⟨u,v,h1,h2,h3,h4⟩=>H u v z h' h1 h2 h3 h4
 unfold F.zfk;have fA:=ht.bound;have hn:=ht.high;have hl:=ht.len;have hc:CO S<=200*S+13:=by unfold CO;omega
 refine zj (λ_ h'=>h.le h') (λ_ h1 l1=>?_) ?_;exact zrz (ht.le l1) (ha.le l1) aD λu v z h2 k1 k2 k3 k4=>hk _ _ (Ja l1 k4.hle) ⟨u,v,k1,k2,k3,k4.base l1⟩
 . obtain⟨p,hp,lp,_,_⟩:=ha;refine Vv ht.mem ht.red zO zO hp lp zO λh1 l1=>zc rfl (Zs (λhh=>?_) λ_=>l1)
   rw[hl,Ji]at hh;omega
def YO{K:Addr->Hp->Prop}(H:∀A h',h.le h'->Rd h' 1 ⟨some A,2,2⟩ [bO a,bO b]->K A h'):Ys [.slice a.a a.len a.cap,.slice b.a b.len b.cap] K h:=
 Qv (n:=2) (size:=1) rfl λbb h1 _ ho=>H _ h1 ho.1 ho.rd
def EV.rdq(he:EV h S T x s a)(hn:T.length<=4):∃xs,qH h a xs/\0<xs.length/\xs.length=2 ^ T.length:=by
 obtain⟨p,⟨xs,h1,h2,_⟩,lp,_⟩:=he;have:=h2.1;have:=ja hn;have:=J7 T.length;exact⟨xs,h1,zO,zO⟩
end
def zms:∀(fuel:Nat) {T:zV} {h:Hp} {B S s:Nat} {t a:Sl} {x:Re} {K':Sl×Bool->Hp->Prop},T.length<fuel->TW h B S t T->EV h S T x s a->PQ S s*(200*4 ^ T.length)<=300000000000 ->
 (∀z h' w,h.le h'->KT T w->w*w=x->bQ h h' S T w s z->K' (z,true) h')->(∀z h',h.le h'->¬Sq T x->Ik h' T.length z->K' (z,false) h')->F.Qx fuel t a K' h
 | 0,_,_,_,_,_,_,_,_,_,h0,_,_,_,_,_=>absurd h0 (Te _)
 | fuel+1,T,h,B,S,s,t,a,x,K',hf,ht,ha,aD,cy,gI=>by
   have key:∀{T:zV} {h:Hp} {B S s:Nat} {t a:Sl} {x:Re} {K:Sl×Bool->Hp->Prop},T.length<fuel->TW h B S t T->EV h S T x s a->PQ S s*(200*4 ^ T.length)<=300000000000 ->
    (∀z h' w,h.le h'->KT T w->w*w=x->bQ h h' S T w s z->K (z,true) h')->(∀z h',h.le h'->¬Sq T x->Ik h' T.length z->K (z,false) h')->za (F.Qx fuel t a) K h:=λ{T h B S s t a x K} g1 g2 g3 g4 g5 g6=>
    zb (λz h'=>(z.2=true/\∃w,KT T w/\w*w=x/\bQ h h' S T w s z.1)\/(z.2=false/\¬Sq T x/\Ik h' T.length z.1))
     (λK' hk=>zms fuel g1 g2 g3 g4 (λz h' w hl k1 k2 k3=>hk _ _ hl (.inl ⟨rfl,w,k1,k2,k3⟩)) λz h' hl k1 k2=>hk _ _ hl (.inr ⟨rfl,k1,k2⟩)) λz h' hl hz=>by
     obtain⟨z1,z2⟩:=z;rcases hz with ⟨e,w,k1,k2,k3⟩ | ⟨e,k1,k2⟩
     simp only at e;subst e;exact g5 z1 h' w hl k1 k2 k3;simp only at e;subst e;exact g6 z1 h' hl k1 k2
   unfold F.Qx;have hts:=ht.len;have jr:=xP S s;have jf:CL S=16*S+1:=rfl;have gu:CO S=64*S+5:=rfl;refine Zs (λh0=>?_) (λh0=>?_)
   . have jS:T=[]:=Ju.1 zO;subst jS;have e0:PQ S s*(200*4 ^ ([]:zV).length)=PQ S s*200:=rfl;rw[e0]at aD;obtain⟨p,hp,lp,rfl,sp⟩:=ha;obtain⟨c,rfl⟩:∃c,p=[c]:=U0.1 lp;refine hp.get 0 rfl zS λv hv bv=>?_
     simp only[Ud]at hv bv;refine Z60 hv bv zO (λz h1 w l1 hw hz=>?_) (λz h1 l1 cW=>?_)
     . have ew:Jn w*Jn w=tv [] [c]:=by rw[<-G4,hw];rfl
       have sw:Sz (Jn w) s:=sp.root ew;refine Qv (n:=1) (size:=4) (cells:=qc z) rfl λbb h2 _ ho=>cy _ _ (Jn w) (Ja l1 ho.1) ⟨[w],rfl,rfl⟩ ew ⟨[w],⟨h1,l1,[z],by simpa using ho,rfl,λk k1 k2=>?_⟩,rfl,rfl,sw⟩
       have:k=0:=by simp at k1;omega
       subst this;exact⟨hz,Sz.br (k:=s+CO S) sw zO⟩
     . refine Mc (xs:=[z]) 1 rfl λA h2 l2 hr=>gI _ _ (Ja l1 l2) ?_ ⟨[z],hr,zS⟩
       rintro⟨w,⟨b,lb,hb⟩,hw⟩;obtain⟨d,rfl⟩:∃d,b=[d]:=U0.1 lb;refine cW ⟨d,Re.dh ?_⟩;rw[G4];have e:Jn d=w:=hb;rw[e,hw];rfl
   . cases T with
     | nil=>exact absurd (by rw[hts];rfl) h0
     | cons r T=>
     have hn:=ht.high;have jk:T.length<=3:=by simpa using hn
     have dk:T.length<fuel:=by simp at hf;omega
     have e4:PQ S s*(200*4 ^ (r :: T).length)=4*PQ S s*(200*4 ^ T.length):=by
      rw[Ji,Uc];ac_rfl
     rw[e4]at aD;have uQ:1<=4 ^ T.length:=Nat.pow_pos zD;have pU:4*PQ S s*200<=4*PQ S s*(200*4 ^ T.length):=Jr _ zO;have Ch:∀k,PQ S k<=4*PQ S s->PQ S k*(200*4 ^ T.length)<=300000000000:=λk hk=>Jo (Jm _ hk) aD
     have d1:=xP S (s+CL S);have d2:=xP S (s+CL S+S*15);have d3:=xP S (s+s);have d4:=xP S (s+CL S+(s+s)+1+1);have hK:KT T (tv T r):=⟨r,ht.red.2.1,rfl⟩;have po:=zxz ht.red;refine ht.kz λtw=>?_
     refine ht.mm λr' er=>?_
     refine⟨zD,?_⟩;refine ha.Ij zD ht.red ht.small hn λc d u v ku kv hx ec ed=>?_
     refine Z88 tw ed zO (λgU=>zk rfl ?_) (λgU=>zc rfl ?_)
     . have sb:x=u:=by rw[hx,gU,J0,Ua]
       refine key dk tw ec (Ch _ zO) (λxr h4 w l4 kw hw sV=>zk rfl ?_) (λxr h4 l4 cW _=>zc rfl ?_)
       . refine Zr zD zD λw5 h5 l5 YP=>?_
         refine B1 (s:=1) (tw.le (Ja l4 l5)) YP Vk zO λxz h6 mY=>?_
         have l6:=Ja l5 mY.hle;refine YO λbb h7 l7 eh=>?_
         have lx:=Ja (Ja l4 l6) l7;have ew:w+(tv T r).sqrt*Jn ((0:Int):Rat)=w:=by
          have:Jn ((0:Int):Rat)=0:=rfl;rw[this,J0,Ua]
         have sw:Sz w s:=ha.sz.root (by rw[hw,sb]);refine zw8 (n:=s) ht.red ht.small hn eh (sV.ev.le (Ja l6 l7)) (mY.ev.le l7) (by rw[ew];exact sw) λz8 h8 e8=>?_
         rw[ew]at e8;exact cy _ _ w (Ja lx e8.hle) kw.up (by rw[hw,sb]) (e8.base lx)
       . refine zmu (N:=3) (tw.le l4) jk (er.le l4) po zO λuy h9 gz=>zc rfl ?_
         have l9:=Ja l4 gz.hle;have mZ:S*(2 ^ (3+1)-1)=S*15:=rfl;rw[mZ]at gz;refine Af (tw.le l9) (ec.le l9) gz.ev zO λYQ aZ Mt=>?_
         have mX:=Ja l9 Mt.hle;refine key dk (tw.le mX) Mt.ev (Ch _ zO) (λIl bV w BX kw hw e18=>?_) (λIl bV BX m0 hj=>?_)
         . have xQ:=Ja mX BX;refine Zr zD zD λw5 h5 l5 YP=>?_
           refine B1 (s:=1) (tw.le (Ja xQ l5)) YP Vk zO λxz h6 mY=>?_
           have l6:=Ja l5 mY.hle;refine YO λbb h7 l7 eh=>?_
           have lx:=Ja (Ja xQ l6) l7;have ew:Jn ((0:Int):Rat)+(tv T r).sqrt*w=(tv T r).sqrt*w:=by
            have:Jn ((0:Int):Rat)=0:=rfl;rw[this,Re.zero_add]
           have YR:=Z9r ht.red hw;have sw:Sz ((tv T r).sqrt*w) s:=ha.sz.root (by rw[YR,sb]);refine zw8 (n:=s) ht.red ht.small hn eh (mY.ev.le l7) (e18.ev.le (Ja l6 l7)) (by rw[ew];exact sw) λz8 h8 e8=>?_
           rw[ew]at e8;refine cy _ _ _ (Ja lx e8.hle) ?_ (by rw[YR,sb]) (e8.base lx);have:=(KT.zero (T:=T)).join (r:=r) kw
           rwa [Re.zero_add]at this
         . have xQ:=Ja mX BX;refine Zr zD zD λw5 h5 l5 YP=>?_
           refine B1 (s:=1) (tw.le (Ja xQ l5)) YP Vk zO λxz h6 mY=>?_
           have l6:=Ja l5 mY.hle;refine YO λbb h7 l7 eh=>?_
           have lx:=Ja (Ja xQ l6) l7;obtain⟨xs,AK,iX,Eg⟩:=(mY.ev.le l7).rdq zO;obtain⟨ys,hys,GU⟩:=hj;have l8:=Xn (n:=T.length) zO;refine zkk eh AK (hys.le (Ja l6 l7)) iX zO zO λz8 h8 ho=>gI _ _ (Ja lx ho.1) ?_ ⟨_,ho.rd,?_⟩
           . intro jn;rw[sb]at jn;rcases Z1h ht.red ku jn with h1 | h1
             exact cW h1;exact m0 h1
           . have l8:=Xn (n:=T.length) zO;rw[Jq,Ji,Zm];omega
     . refine Z1o ht ha zO λu' v' z23 gi HW HX oi YS=>?_
       obtain⟨q1,q2⟩:=KT.parts ht.red ku kv HW HX (hx.symm.trans oi);subst q1 q2;have eO:=YS.hle;refine key dk (tw.le eO) YS.ev (Ch _ zO) (λz24 dF m B4 km hm Mu=>zc rfl ?_) (λz24 dF B4 cW _=>zk rfl (gI _ _ (Ja eO B4) ?_ Ik.nil))
       . have lA:=Ja eO B4;refine XP (tw.le lA) (ec.le lA) Mu.ev zO (k:=s+CL S+(s+s)+1) (ec.sz.add Mu.ev.sz) λz25 fN e25=>?_
         have lB:=Ja lA e25.hle;refine XQ (tw.le lB) (ec.le lB) (Mu.ev.le e25.hle) zO (k:=s+CL S+(s+s)+1) (ec.sz.sub Mu.ev.sz) λz26 iV Ci=>?_
         have lC:=Ja lB Ci.hle;refine YO λbb gX Cj eh=>?_
         have lD:=Ja lC Cj;have abu:=e25.ev.le (Ja Ci.hle Cj);have abv:=Ci.ev.le Cj;refine Y8 (n:=2) zD (λi h'=>gX.le h'/\(1<=i->¬∃p,KT T p/\p≠0/\p*p=Jn (1/2)*(u+m))/\(2<=i->¬∃p,KT T p/\p≠0/\p*p=Jn (1/2)*(u-m))) ⟨Jf _,λhh=>absurd hh zD,λhh=>absurd hh zD⟩ ?_;rintro i me hi ⟨DG,YT,HQ⟩ k ck;refine zg (λh3=>?_) (λh3=>?_)
         . have aA:i<2:=by have:(i:Int)<((2:Nat):Int):=h3;omega
           have lE:=Ja lD DG;obtain⟨y,Mv,bp,ey,hy⟩:∃y Mv,[bO z25,bO z26][i]?=some (bO Mv)/\EV me S T y (s+CL S+(s+s)+1) Mv/\((i=0/\y=u+m)\/(i=1/\y=u-m)):=by
            rcases Jx i 1 with h5 | h5
            . have:i=0:=zO;subst this;exact⟨_,z25,rfl,abu.le DG,.inl ⟨rfl,rfl⟩⟩
            . have:i=1:=zO;subst this;exact⟨_,z26,rfl,abv.le DG,.inr ⟨rfl,rfl⟩⟩
           refine zj (λ_ u6=>gX.le u6/\¬∃p,KT T p/\p≠0/\p*p=Jn (1/2)*y) (λ_ u6 hj=>ck _ aA ⟨hj.1,λ_=>?_,λ_=>?_⟩) ?_
           . rcases hy with ⟨_,rfl⟩ | ⟨nB,rfl⟩
             exact hj.2;exact YT zO
           . rcases hy with ⟨nB,rfl⟩ | ⟨_,rfl⟩
             omega;exact hj.2
           . refine rn i (eh.le DG) rfl bp λad hc=>⟨Mv,hc,?_⟩
             refine Z6a (tw.le lE) ey zO λz34 A9 Ai=>?_
             have lF:=Ja lE Ai.hle;refine key dk (tw.le lF) Ai.ev (Ch _ zO) (λz35 js p Aj kp hp Ck=>?_) (λz35 js Aj cW _=>?_)
             . have lG:=Ja lF Aj;refine zj (λ_ u7=>js.le u7/\p≠0) (λ_ u7 hj=>?_) ?_
               . obtain⟨Im,nz⟩:=hj;have lH:=Ja lG Im;have hpp:p+p≠0:=λhh=>nz (Re.fX hh)
                 refine XP (tw.le lH) (Ck.ev.le Im) (Ck.ev.le Im) zO (Ck.ev.sz.add Ck.ev.sz) λz38 Bj YU=>?_
                 have lI:=Ja lH YU.hle;refine zmu (N:=3) (tw.le lI) jk YU.ev hpp zO λz39 Ba Mw=>?_
                 have lJ:=Ja lI Mw.hle;have mZ:∀k,k*(2 ^ (3+1)-1)=k*15:=λ_=>rfl
                 rw[mZ]at Mw;refine Af (tw.le lJ) (ed.le lJ) Mw.ev zO λz40 pY e40=>?_
                 have lK:=Ja lJ e40.hle;refine YO λbb2 Rb l29 abw=>?_
                 have lx:=Ja lK l29;have hw:(p+(tv T r).sqrt*(v*(p+p).inv))*(p+(tv T r).sqrt*(v*(p+p).inv))=x:=by
                  rw[hx];rcases hy with ⟨_,rfl⟩ | ⟨_,rfl⟩
                  exact zru (Gq (.inr ht.red.2.2.1)) hm hp (Re.bI hpp)
                  . refine zru (n:=-m) (Gq (.inr ht.red.2.2.1)) (by rw[Re.ct];exact hm) ?_ (Re.bI hpp);rw[<-Ub];exact hp
                 refine zw8 (n:=s) ht.red ht.small hn abw (Ck.ev.le (Ja Im (Ja (Ja YU.hle Mw.hle) (Ja e40.hle l29)))) (e40.ev.le l29) (ha.sz.root hw) λz42 Bf e42=>?_
                 exact cy _ _ _ (Ja lx e42.hle) (kp.join e40.ev.kt) hw (e42.base lx)
               . refine zc rfl ?_;refine Z88 (tw.le lG) Ck.ev zO (λhz=>zk rfl ⟨Ja DG (Ja Ai.hle Aj),?_⟩) (λhz=>zc rfl ⟨Jf _,hz⟩);rintro⟨p',_,nz,pU⟩;rw[hz,Re.zero_mul]at hp;rw[<-hp]at pU;exact nz ((Gv pU).elim id id)
             exact zj (λ_ _=>False) (λ_ _ hj=>hj.elim) (zk rfl ⟨Ja DG (Ja Ai.hle Aj),λ⟨p',k1,_,k2⟩=>cW ⟨p',k1,k2⟩⟩)
         . have:i=2:=by have:¬(i:Int)<((2:Nat):Int):=h3;omega
           subst this;refine gI _ _ (Ja lD DG) (λjn=>?_) Ik.nil;rw[hx]at jn;obtain⟨p,kp,nz,hp⟩:=Z9q ht.red ku kv gU hm jn;rcases hp with hp | hp
           exact YT zD ⟨p,kp,nz,hp⟩;exact HQ zD ⟨p,kp,nz,hp⟩
       . intro jn;rw[hx]at jn;exact cW (Z9s ht.red ku kv jn)
end Den
end

section
namespace Den
open Go Iv Pq
def Cl(h0 h:Hp)(B:Nat)(l:Sl)(n:Nat)(ps:zV):Prop:=
 ∃D,h0.le D/\∃ss:List Sl,ss.length=n/\ps.length<=n/\Own D h 1 l (ss.map bO)/\∀k (h1:k<ss.length) (h2:k<ps.length),PL D B ss[k] ps[k]
def Zpa(x:Sl):([bO x]:List Value).length=1:=rfl
def Z99(ss:List Sl):ss.map bO=ss.flatMap λs=>[bO s]:=List.map_eq_flatMap
def Z1i{w x:Re}(h:w*w=x):(0<=w->w=x.sqrt)/\(w<0->-w=x.sqrt):=by
 refine⟨λh1=>zh4 h1 h,λh1=>zh4 (.inr (Re.neg_pos.2 h1)) ?_⟩;rw[Re.ct,h]
section
variable {B s:Nat}{b c l:Sl}{q:List Rat}{T:zV}
def OL.le(ho:OL h0 h B l p)(hl:h.le h'):OL h0 h' B l p:=by
 obtain⟨D,h1,xs,h2,h3⟩:=ho;exact⟨D,h1,xs,h2.le hl,h3⟩
def bQ.le(he:bQ h0 h S T x s l)(hl:h.le h'):bQ h0 h' S T x s l:=by
 obtain⟨p,h1,h2⟩:=he;exact⟨p,h1.le hl,h2⟩
end
section
variable {B s:Nat}{b c l:Sl}{ps:zV}{T:zV}{w:Re}
def Cl.hle(hp:Cl h0 h B l n ps):h0.le h:=by
 obtain⟨D,h1,ss,h2,h3,h4,h5⟩:=hp;exact Ja h1 h4.1
def Cl.fill{G:(Sl->Hp->Prop)->Hp->Prop}{K:Hp->Prop}{i:Int}(hp:Cl h0 h B l n ps)(hi:i=ps.length)(hk:ps.length<n)
 (hc:∀D,h0.le D->za G (λz D'=>PL D' B z p) D) (H:∀h',Cl h0 h' B l n (ps++[p])->K h') :
 za G (λz h1=>zi l i 1 λa=>bD a [.slice z.a z.len z.cap] K h1) h:=by
 obtain⟨D,h1,ss,h2,h3,h4,h5⟩:=hp;rw[Z99]at h4;refine h4.call (hc D h1) λz D' h' g1 g2 g3=>?_
 refine Ma (c:=λs=>[bO s]) Zpa zD (x:=z) ps.length g2 hi zO rfl λh6 ho _=>H h6 ⟨D',Ja h1 g1,ss.set ps.length z,by simpa using h2,by simp;omega,by rw[Z99];exact ho,λk k1 k2=>?_⟩
 rw[List.getElem_set];by_cases ck:ps.length=k
 . rw[if_pos ck];subst ck;simpa using g3
 . rw[if_neg ck];have k3:k<ps.length:=by simp at k2;omega
   rw[J2 k3];exact(h5 k (by simpa using k1) k3).le g1
def Cl.done(hp:Cl h0 h B l n ps)(hn:ps.length=n):∃D,h0.le D/\QD D h B l ps:=by
 obtain⟨D,h1,ss,h2,h3,h4,h5⟩:=hp;exact⟨D,h1,ss,h4,zO,λk k1 k2=>h5 k k1 k2⟩
def Zkg{n:Nat}:Yi n [Value.slice zd.a zd.len zd.cap]=(List.replicate n zd).map bO:=by
 unfold Yi;rw[List.map_replicate];induction n with
 | zero=>rfl
 | succ n ih=>rw[Tu,Tu,List.flatten_cons,ih];rfl
def Zsv{len cap:Int}(hl:len=n)(hc:cap=n)(hn:n<=65536)(H:∀m h',m.len=n->Cl h h' B m n []->K m h') :
 eW len cap 24 [zN] K h:=by
 refine J' (size:=1) n n hl hc (Jd _) zO zO rfl λm h1 ml mc ho=>H m h1 ml ?_
 rw[Zkg]at ho;exact⟨h,Jf _,List.replicate n zd,zS,Jt _,ho,λk _ k1=>by simp at k1⟩
def QD.cap{D:Hp}(hq:QD D h B l ps):l.len<=l.cap:=by
 obtain⟨ss,h1,_⟩:=hq;exact h1.2.2.1
def zoa(ht:TM h B t T)(hT:RT T)(hn:T.length<=4)(H:∀y h',h.le h'->(∃D,h.le D/\QD D h' B y T.reverse)->K y h'):za (F.QM t) K h:=by
 refine zb _ (λK' hk=>?_) H;unfold F.QM;rw[ht.len];refine Zsv (B:=B) (n:=T.length) rfl rfl zO λm h1 ml ho=>?_
 refine Y8 (n:=T.length) zO (λi h'=>Cl h h' B m T.length (T.reverse.take i)) ho ?_;rintro i h2 hi hI k ck;have l1:(T.reverse.take i).length=i:=by rw[Jk,Tg];omega
 refine zg (λh3=>?_) (λh3=>?_)
 . have aA:i<T.length:=by have:(i:Int)<(T.length:Int):=h3;omega
   obtain⟨ss,g1,g2,g3⟩:=ht.1;have bP:i<ss.length:=by rw[g2,Tg];exact aA
   refine rn i (g1.le hI.hle) rfl (v:=bO ss[i]) (by rw[Gr,Jp bP];rfl) λad bp=>⟨ss[i],bp,?_⟩
   have jL:=g3 i bP (by simpa using aA);have B5:=hT.short hn (T.reverse[i]'(by simpa using aA)) (Jy _);refine hI.fill (p:=T.reverse[i]'(by simpa using aA)) (by rw[l1]) (by rw[l1];exact aA) (λD hD=>WD (jL.le hD) zO λz h' o=>o.pl) λh4 ho=>ck _ aA ?_
   rw[Jc (by simpa using aA)];exact ho
 . have:i=T.length:=by have:¬(i:Int)<(T.length:Int):=h3;omega
   subst this;rw[Je zS]at hI;exact hk _ _ hI.hle (hI.done zS)
def Z0o(n:Nat):(Zt (2 ^ (n+1))).set (2 ^ n) 1=XG n:=by
 have hp:=J7 n;have e:Zt (2 ^ (n+1))=Zt (2 ^ n)++0 :: Zt (2 ^ n-1):=by
  have e2:(0:Rat) :: Zt (2 ^ n-1)=Zt (2 ^ n):=by
   unfold Zt;have:2 ^ n=2 ^ n-1+1:=zO
   conv=>rhs;rw[this,Tu]
  rw[e2];unfold Zt;rw[List.replicate_append_replicate,Zm]
 rw[e,List.set_append_right _ _ (by rw[Yh];exact Jd _),Yh,Nat.sub_self];rfl
def Z77{i:Int}(ht:TW h B S t (p :: T))(hi:i=T.length)(hS:S<=100000)(H:∀z h',bQ h h' S (p :: T) (tv T p).sqrt S z->K z h'):za (F.zfl t i) K h:=by
 refine zb (λz h'=>bQ h h' S (p :: T) (tv T p).sqrt S z) (λK' hk=>?_) λz h' hl hz=>H z h' hz
 unfold F.zfl;have hn:=ht.high;have fA:=ht.bound;have hl:=ht.len;have jk:T.length<=3:=by simpa using hn
 have aP:t.len=T.length+1:=by rw[hl,Ji]
 have pr:=Xn (n:=T.length+1) zO;have pr2:=G8 (a:=2) zD (G5 T.length);refine zj (λ_ h'=>h.le h') (λ_ h1 l1=>?_) ?_
 . refine⟨zO,?_⟩;rw[aP,uu zO];refine zca rfl pr λz h2 hz=>?_
   obtain⟨D,hD,od⟩:=hz;refine⟨zO,?_⟩;rw[hi,uu zO];refine od.call (K1:=λw D'=>NR D' w 1) (Zr zD zD λw h' _ hw=>hw) λw D' h3 g1 HY hw=>?_
   have b1:BR 1 (1:Rat):=by refine⟨?_,?_⟩<;>unfold Lt<;>decide
   refine HY.set (2 ^ T.length) rfl (by rw[Yh];exact pr2) hw b1 λh4 Io _=>hk _ _ (Ja l1 (Ja (Ja hD g1) Io.dT)) ?_
   rw[Z0o]at Io;have e:=Za6 (T:=T) (a:=p);rw[<-e];refine Mn ht.red ht.small hn ⟨D',Ja l1 (Ja hD g1),Io⟩ (zu8 _) ?_;rw[e];exact ht.small.2.root (Gq (.inr ht.red.2.2.1))
 refine zb1 ht.mem ht.red zO zO λh1 l1=>zc rfl (zg (λhh=>absurd hh zO) λ_=>zg (λhh=>absurd hh zO) λ_=>l1)
def zwd(hS:S<=100000)(hs:s<=S)(hn:n<=4):PQ S s*(200*4 ^ n)<=300000000000:=by
 have h1:=xP S s;have h2:200*4 ^ n<=200*4 ^ 4:=Jr _ (Jz zD hn);have h3:PQ S s<=1700002:=zO;exact Jo (Nat.mul_le_mul h3 h2) zD
def zst(ht:TW h B S t T)(ha:EV h S T x s a)(hS:S<=100000)(hs:s<=S)(H1:∀z h',h.le h'->0<=x->Sq T x->bQ h h' S T x.sqrt s z->KB (z,true) h')(H0:∀z h',h.le h'->¬Sq T x->KB (z,false) h'):za (F.z8g t a) KB h:=by
 refine zb (λz h'=>(z.2=true/\0<=x/\Sq T x/\bQ h h' S T x.sqrt s z.1)\/(z.2=false/\¬Sq T x)) (λK' hk=>?_) λz h' hl hz=>?_
 . unfold F.z8g;have hq:=Yu S s;refine zb (λz h'=>(z.2=true/\∃w,KT T w/\w*w=x/\bQ h h' S T w s z.1)\/(z.2=false/\¬Sq T x)) (λK2 aG=>?_) λz h1 l1 hz=>?_
   exact⟨T.length+1,zms _ (G5 _) ht ha (zwd hS hs ht.high) (λz h' w hl k1 k2 k3=>aG _ _ hl (.inl ⟨rfl,w,k1,k2,k3⟩)) λz h' hl k1 _=>aG _ _ hl (.inr ⟨rfl,k1⟩)⟩
   . obtain⟨z1,z2⟩:=z;rcases hz with ⟨e,w,kw,hw,ew⟩ | ⟨e,cW⟩
     . simp only at e ew;subst e;have iX:0<=x:=by rw[<-hw];exact Re.bG w
       obtain⟨s1,s2⟩:=Z1i hw;refine zc rfl (zj (λst h2=>bQ h h2 S T x.sqrt s st.1) (λst h2 hj=>hk _ _ hj.hle (.inl ⟨rfl,iX,⟨w,kw,hw⟩,hj⟩)) ?_);refine zfh (ht.le l1) ew.ev zO λh3 l3=>zg (λhlt=>?_) (λnD=>?_)
       . refine zry (ht.le (Ja l1 l3)) (ew.ev.le l3) zO λz5 h4 e5=>?_
         rw[s2 (qk.1 hlt)]at e5;exact e5.base (Ja l1 l3)
       . have:w=x.sqrt:=by
          rcases Xf w with ⟨g,_⟩ | ⟨g,_⟩ | ⟨g,_⟩
          exact s1 (.inr g);exact s1 (by rw[g];exact Re.le_refl _);exact absurd (qk.2 g) nD
         rw[this]at ew;have:=(ew.le l3).base (Jf h);exact this
     . simp only at e;subst e;exact zk rfl (hk _ _ l1 (.inr ⟨rfl,cW⟩))
 . obtain⟨z1,z2⟩:=z;rcases hz with ⟨e,k1,k2,k3⟩ | ⟨e,k1⟩
   simp only at e;subst e;exact H1 z1 h' hl k1 k2 k3;simp only at e;subst e;exact H0 z1 h' hl k1
def RT.nsq(hT:RT (r :: T)):¬Sq T (tv T r):=by
 rintro⟨w,⟨b,lb,hb⟩,hw⟩;refine hT.2.2.2 b lb ?_;rw[hb];exact hw
def zuq(ht:TW h B S t T)(hS:S<=100000)(H:∀h',h.le h'->Kb true h'):za (F.z9x t) Kb h:=by
 refine zb (λz h'=>z=true) (λK' hk=>?_) λz h' hl e=>by rw[e];exact H h' hl
 unfold F.z9x;have hn:=ht.high;have fA:=ht.bound;have hq:=Yu S S;rw[ht.len];refine Y8 (n:=T.length) zO (λi h'=>h.le h') (Jf _) ?_;rintro i h4 hi hle k ck;refine zg (λh5=>?_) (λh5=>?_)
 . have aA:i<T.length:=by have:(i:Int)<(T.length:Int):=h5;omega
   obtain⟨X,r,Y,hT,hY,hr⟩:=DZ (T:=T) (i:=i) (by simpa using aA);have rT:=ht.le hle;refine rT.mem.get i rfl aA λs hs=>?_
   rw[hr]at hs;subst hT;have hc:=ht.mem.2;have hl:=ht.len;have tr:TW h4 B S (t.cut 0 (r :: Y).length 1) (r :: Y):=rT.below;have tw:TW h4 B S (t.cut 0 Y.length 1) Y:=TW.below (X:=X++[r]) (by rw[J8];exact rT);have er:=tr.D0 hs;have cY:∀{P:Sl->Prop},P (t.cut 0 Y.length 1)->ca t 0 (i:Int) 1 P:=λhP=>Xg 0 Y.length rfl zO (Jt _) (by simp at hl;omega) hP
   refine zj (λ_ h'=>h4.le h') (λ_ h6 l6=>?_) ?_
   . refine cY ?_;refine zb (λz h'=>z.2=false) (λK2 aG=>?_) λz h7 l7 e=>by
      obtain⟨z1,z2⟩:=z;simp only at e;subst e;exact zc rfl (ck _ aA (Ja hle (Ja l6 l7)))
     exact⟨Y.length+1,zms _ (G5 _) (tw.le l6) (er.le l6) (zwd hS (Jd _) tw.high) (λz h' w hl k1 k2 k3=>absurd ⟨w,k1,k2⟩ tr.red.nsq) λz h' hl k1 _=>aG _ _ hl rfl⟩
   . refine cY ?_;obtain⟨p,hp,lp,_,_⟩:=id er;refine Vv tw.mem tw.red (by have:=tw.high;omega) zO hp lp (by unfold CO;omega) λh6 l6=>zc rfl (cY ?_)
     refine zfh (tw.le l6) (er.le l6) zO λh7 l7=>?_
     rw[Ws tr.red.2.2.1];exact zc rfl (Ja l6 l7)
 exact hk _ _ hle rfl
def zlp(hq:lh h B t T.reverse)(hc:t.len<=t.cap)(hT:RT T)(hS:TS S T)(hn:T.length<=4)(hS2:S<=100000):TW h (S+CO S) S t T:=by
 refine⟨⟨?_,hc⟩,hT,hS,hn,by unfold CO;omega⟩;obtain⟨ss,h1,h2,h3⟩:=hq;refine⟨ss,h1,h2,λk k1 k2=>?_⟩;obtain⟨X,r,Y,e,hY,hr⟩:=DZ (T:=T) k2;have:=h3 k k1 k2;rw[hr]at this |-
 rw[e]at hT hS hn;have h4:RT (r :: Y):=hT.below;have h5:TS S (r :: Y):=hS.below;exact this.re (xm h4.1 h5.1 (by simp at hn;omega) h4.2.1 h5.2)
def zy7{G:Re->Prop}{N:Nat}{KA:Sl×Sl×Int->Hp->Prop}(hF:eV G N)(hN:N<=4)(ht:TW h B S t T)(hf:TF G T)(ha:EV h S T x s a)(hx:0<=x)(hg:G x.sqrt)(hS:S<=100000)(hs:s<=S)
 (H:∀T' t' z h',h.le h'->AJ T x T'->TW h' (S+CO S) S t' T'->TF G T'->EV h' S T' x.sqrt S z->KA (t',z,0) h'):za (F.zc3 t a) KA h:=by
 refine zb (λz h'=>z.2.2=0/\∃T',AJ T x T'/\TW h' (S+CO S) S z.1 T'/\TF G T'/\EV h' S T' x.sqrt S z.2.1) (λK' hk=>?_) λz h' hl hz=>by
  obtain⟨z1,z2,z3⟩:=z;obtain⟨e,T',k1,k2,k3,k4⟩:=hz;simp only at e;subst e;exact H T' z1 z2 h' hl k1 k2 k3 k4
 unfold F.zc3;have hn:=ht.high;have fA:=ht.bound;have hq:=Yu S s;have gu:CO S=64*S+5:=rfl;refine zj (λ_ h'=>h.le h') (λ_ h1 l1=>?_) ?_
 . refine zst (ht.le l1) (ha.le l1) hS hs (λz h2 l2 _ jn e2=>zk rfl ?_) (λz h2 l2 cW=>zc rfl ?_)
   . have bS:=Ja l1 l2;refine zoa (ht.le bS).mem ht.red hn λy h3 l3 hy=>hk _ _ (Ja bS l3) ⟨rfl,T,.inl ⟨jn,rfl⟩,?_,hf,(e2.ev.le l3).mono hs⟩
     obtain⟨D,_,hq⟩:=hy;exact zlp hq.qql hq.cap ht.red ht.small hn hS
   . have bS:=Ja l1 l2;have hl:=ht.len;refine zg (λhh=>absurd hh zO) λ_=>?_
     refine zoa (ht.le bS).mem ht.red hn λy h3 l3 hy=>?_
     obtain⟨D,hD,hq⟩:=hy;obtain⟨p,hp,lp,rfl,sp⟩:=ha;have eO:=ja hn;refine hq.call (K1:=λz D'=>PL D' (max B (s+CO S)) z p) (WD (hp.le (Ja bS hD)) zO λz h' o=>o.pl.mono (Nat.le_max_right _ _)) λz D' h4 g1 hq4 hz=>?_
     have LS:QD D' h4 (max B (s+CO S)) y T.reverse:=by
      obtain⟨ss,k1,k2,k3⟩:=hq4;exact⟨ss,k1,k2,λk j1 j2=>(k3 k j1 j2).mono (Nat.le_max_left _ _)⟩
     refine LS.app hz (by simp;omega) λw h5 VM=>?_
     have cI:=zqu hx cW;have YV:RT (p :: T):=ht.red.extend lp cI cW;have hS':TS S (p :: T):=⟨ht.small,sp.mono hs⟩;have dk:TF G (p :: T):=⟨hf,hg⟩;have jk:(p :: T).length<=4:=Jo (TF.i9 hF YV dk) hN;have lx:=Ja (Ja bS (Ja hD g1)) VM.dT;have xR:TW h5 (S+CO S) S w (p :: T):=zlp (by rw[Gj];exact VM.qql) VM.cap YV hS' jk hS;rw[hl];refine Z77 xR rfl hS λz6 h6 e6=>hk _ _ (Ja lx e6.hle) ⟨rfl,p :: T,.inr ⟨cW,p,rfl,lp,rfl⟩,xR.le e6.hle,dk,e6.ev⟩
 . obtain⟨p,hp,lp,_,_⟩:=id ha;refine Vv ht.mem ht.red zO zO hp lp zO λh1 l1=>zc rfl ?_
   refine zuq (ht.le l1) hS λh2 l2=>zc rfl ?_
   refine zfh (ht.le (Ja l1 l2)) (ha.le (Ja l1 l2)) zO λh3 l3=>zg (λhh=>?_) λ_=>Ja (Ja l1 l2) l3
   have:=qk.1 hh;rcases hx with hx | hx
   rw[<-hx]at this;exact absurd this (Gn _);exact absurd (Re.lt_trans hx this) (Gn _)
end
end Den
end

section
namespace Den
open Go Iv
def YW{α:Type}{c:α->List Value}{n:Nat}{h:Hp}{l:Sl}{xs:List α}{i:Int}{K:Addr->Prop}(hc:∀x,(c x).length=n)(hn:0<n)(hr:Rd h n l (xs.flatMap c))(k:Nat)(hi:i=k)(hk:k<xs.length)
 (H:∀a,(∀j v,j<n->(c xs[k])[j]?=some v->h.cell (a.add j)=some v)->K a):zi l i n K:=by
 have hl:l.len=xs.length:=by
  have:=hr.1;rw[yr hc]at this;exact Nat.eq_of_mul_eq_mul_right hn this
 exact C3 k hr hi zO hn λa ha=>H a λj v hj hv=>ha j v (by rw[Hz hc hk hj];exact hv)
def Zjt{cells:List Value}{K:Addr->Hp->Prop}{h:Hp}
 (H:∀a h',h.le h'->(∀i v,cells[i]?=some v->h'.cell (a.add i)=some v)->K a h'):Ys cells K h:=by
 intro b e hb;refine H _ _ (Hp.cH hb) λi v hv=>?_
 unfold Hp.cell;rw[Qf,Fz rfl,tQ];simpa [Hp.cD] using hv
def zg0{h:Hp}{a:Addr}{cells:List Value}(hc:∀i v,cells[i]?=some v->h.cell (a.add i)=some v):∀n,n<=cells.length->Zp h a n=some (cells.take n)
 | 0,_=>by simp[Zp]
 | n+1,hn=>by
   unfold Zp;rw[zg0 hc n zO];simp only;rw[hc n _ (Jp zO)];simp only;rw[List.take_add_one,Jp zO];rfl
def Zkc{h:Hp}{a:Addr}{cells:List Value}{size n c:Nat}(hc:∀i v,cells[i]?=some v->h.cell (a.add i)=some v)(hn:n*size=cells.length):Rd h size ⟨some a,n,c⟩ cells:=by
 refine⟨hn,?_⟩;show Zp h a cells.length=_;rw[zg0 hc _ (Jd _),J5]
def Z5r{cells:List Value}{K:Addr->Hp->Prop}{h:Hp}(size n:Nat)(hn:n*size=cells.length)(H:∀a h',h.le h'->Rd h' size ⟨some a,n,n⟩ cells->K a h'):Ys cells K h:=
 Zjt λa h' hl hc=>H a h' hl (Zkc hc hn)
section
variable {α β:Type}
def LR(c:α->List Value)(n:Nat)(P:Hp->α->β->Prop)(h:Hp)(l:Sl)(ps:List β):Prop:=
 ∃xs:List α,Rd h n l (xs.flatMap c)/\l.len<=l.cap/\xs.length=ps.length/\∀k (h1:k<xs.length) (h2:k<ps.length),P h xs[k] ps[k]
def LO(c:α->List Value)(n:Nat)(P:Hp->α->β->Prop)(D h:Hp)(l:Sl)(ps:List β):Prop:=
 ∃xs:List α,Own D h n l (xs.flatMap c)/\xs.length=ps.length/\∀k (h1:k<xs.length) (h2:k<ps.length),P D xs[k] ps[k]
structure Rec(c:α->List Value)(n:Nat)(P:Hp->α->β->Prop):Prop where
 len:∀x,(c x).length=n
 pos:0<n
 leaf:∀x,(c x).all Value.leaf=true
 mono:∀{h h':Hp} {x:α} {b:β},P h x b->h.le h'->P h' x b
variable {c:α->List Value}{P:Hp->α->β->Prop}{l:Sl}{ps:List β}
def LR.le(hR:Rec c n P)(hx:LR c n P h l ps)(hl:h.le h'):LR c n P h' l ps:=by
 obtain⟨xs,h1,h2,h3,h4⟩:=hx;exact⟨xs,h1.le hl,h2,h3,λk k1 k2=>hR.mono (h4 k k1 k2) hl⟩
def LR.len(hR:Rec c n P)(hx:LR c n P h l ps):l.len=ps.length:=by
 obtain⟨xs,h1,h2,h3,h4⟩:=hx;have:=h1.1;rw[yr hR.len]at this;rw[<-h3];exact Nat.eq_of_mul_eq_mul_right hR.pos this
def LR.cap(hx:LR c n P h l ps):l.len<=l.cap:=by obtain⟨xs,h1,h2,h3,h4⟩:=hx;exact h2
def LR.get{i:Int}{K:Addr->Prop}(hR:Rec c n P)(hx:LR c n P h l ps)(k:Nat)(hi:i=k)(hk:k<ps.length)
 (H:∀a x,P h x ps[k]->(∀j v,(c x)[j]?=some v->h.cell (a.add j)=some v)->K a):zi l i n K:=by
 obtain⟨xs,h1,h2,h3,h4⟩:=hx;refine YW hR.len hR.pos h1 k hi zO λa ha=>H a xs[k] (h4 k zO hk) λj v hv=>ha j v ?_ hv
 have:=(List.getElem?_eq_some_iff.1 hv).1
 rwa [hR.len]at this
def LO.lr(hR:Rec c n P)(hx:LO c n P D h l ps):LR c n P h l ps:=by
 obtain⟨xs,h1,h3,h4⟩:=hx;exact⟨xs,h1.rd,h1.2.2.1,h3,λk k1 k2=>hR.mono (h4 k k1 k2) h1.1⟩
def LO.dT(hx:LO c n P D h l ps):D.le h:=by obtain⟨xs,h1,_⟩:=hx;exact h1.1
def LO.nil:LO c n P h h zd []:=⟨[],Own.nil (Jf _),rfl,λk h1 _=>by simp at h1⟩
def LO.len(hR:Rec c n P)(hx:LO c n P D h l ps):l.len=ps.length:=(hx.lr hR).len hR
def LO.call{γ:Type}{G:(γ->Hp->Prop)->Hp->Prop}{K1 K:γ->Hp->Prop}(hR:Rec c n P)(hx:LO c n P D h l ps)(H:za G K1 D)
 (k:∀v D' h',D.le D'->LO c n P D' h' l ps->K1 v D'->K v h'):za G K h:=by
 obtain⟨xs,h1,h3,h4⟩:=hx;exact h1.call H λv D' h' g1 g2 g3=>k v D' h' g1 ⟨xs,g2,h3,λk k1 k2=>hR.mono (h4 k k1 k2) g1⟩ g3
def LO.app{Ks:Sl->Hp->Prop}{x:α}{b:β}{bytes:Nat}{zero:List Value}(hR:Rec c n P)(hx:LO c n P D h l ps)(hz:zero.length=n)(hlen:(ps.length+1)*bytes<=140737488355328)(gF:ps.length+1<=140737488355328)
 (hp:P D x b) (H:∀y h',LO c n P D h' y (ps++[b])->Ks y h'):Qg n bytes zero l 1 (c x) Ks h:=by
 have hl:=hx.len hR;obtain⟨xs,h1,h3,h4⟩:=hx;refine pW h1 (n:=1) (new:=c x) (by rw[hR.len];omega) hz (hR.leaf x) (by rw[hl];exact hlen) (by rw[hl];exact gF) λy h' hy va=>H y h' ⟨xs++[x],?_,by simp[h3],λk k1 k2=>?_⟩
 . rw[List.flatMap_append];simp only[List.flatMap_cons,List.flatMap_nil,Tm];exact hy
 . rcases Jx k xs.length with h5 | h5
   . rw[J2 h5,J2 zO];exact h4 k h5 zO
   . have h6:k=xs.length:=by simp at k1;omega
     subst h6;rw[J3 (Jd _),J3 zO];simp only[Nat.sub_self,Ud];have:xs.length-ps.length=0:=zO;simp only[this,Ud];exact hp
end
def LR.cut{α β:Type}{c:α->List Value}{n:Nat}{P:Hp->α->β->Prop}{h:Hp}{l:Sl}{ps:List β}(hR:Rec c n P)(hx:LR c n P h l ps){k:Nat}(hk:k<=ps.length):LR c n P h (l.cut 0 k n) (ps.take k):=by
 have hl:=hx.len hR;obtain⟨xs,h1,h2,h3,h4⟩:=hx;refine⟨xs.take k,⟨?_,?_⟩,?_,by simp;omega,λj k1 k2=>?_⟩
 . show(k-0)*n=_;rw[yr hR.len,Jk,Gh zO,Nat.sub_zero]
 . rw[yr hR.len,Jk,Gh zO];have h5:=h1.2;rw[yr hR.len]at h5;have ea:(l.cut 0 k n).a=l.a:=by
    show(if l.cap=0 then l.a else l.a.map (·.add (0*n)))=l.a;split;rfl
    . cases l.a with
      | none=>rfl
      | some a=>simp only[Option.map_some,Nat.zero_mul,qo]
   rw[ea];have e:(xs.take k).flatMap c=(xs.flatMap c).take (k*n):=by
    have e1:xs.flatMap c=(xs.take k).flatMap c++(xs.drop k).flatMap c:=by rw[<-List.flatMap_append,Ge]
    have e2:((xs.take k).flatMap c).length=k*n:=by rw[yr hR.len,Jk,Gh zO]
    rw[e1,<-e2,List.take_left]
   rw[e];cases ha:l.a with
   | some a=>
     rw[ha]at h5;exact zki h5 _ (Jm _ zO)
   | none=>
     rw[ha]at h5;simp only[Zi]at h5 |-
     split at h5
     . rename_i h6;have:xs.length=0:=by
        rcases Nat.eq_zero_or_pos xs.length with h7 | h7
        exact h7;have:=Nat.mul_pos h7 hR.pos;omega
       have gI:k=0:=zO;subst gI;simp
     cases h5
 show k-0<=l.cap-0;omega
 . rw[Ps,Ps];exact h4 j (by simp at k1;omega) (by simp at k2;omega)
def LR.xS{α β:Type}{c:α->List Value}{n:Nat}{P:Hp->α->β->Prop}{D h:Hp}{l:Sl}{ps:List β}{i:Int}{K:Addr->Prop}(hR:Rec c n P)(hx:LR c n P D l ps)(hl:D.le h)(k:Nat)(hi:i=k)(hk:k<ps.length)
 (H:∀a x,P D x ps[k]->(∀j v,(c x)[j]?=some v->h.cell (a.add j)=some v)->K a):zi l i n K:=by
 obtain⟨xs,h1,h2,h3,h4⟩:=hx;refine YW hR.len hR.pos (h1.le hl) k hi zO λa ha=>H a xs[k] (h4 k zO hk) λj v hv=>ha j v ?_ hv
 have:=(List.getElem?_eq_some_iff.1 hv).1
 rwa [hR.len]at this
section
variable {l:Sl}
end
section
end
end Den
end

section
namespace Den
open Go Iv Pq
def TW.canon{h:Hp}{B S:Nat}{t:Sl}{T:zV}(ht:TW h B S t T)(hS:S<=100000):TW h (S+CO S) S t T:=
 zlp ht.mem.1 ht.mem.2 ht.red ht.small ht.high hS
structure Ctx(G:Re->Prop)(S N:Nat):Prop where
 vq:eV G N
 deg:N<=4
 small:S<=100000
section
variable {B s:Nat}{b l w:Sl}{T:zV}
def znh{KE:aR×Int->Hp->Prop}(hc:Ctx G S N)(ht:TW h B S t T)(hf:TF G T)(hu:TW h C S w U)(hg:TF G U)
 (H:∀m X ss D h',h.le D->h.le h'->TW D (S+CO S) S m.ir (X++T)->TF G (X++T)->EM (X++T) U ss->QD D h' (S+CO S) m.roots ss.reverse->TF (KT (X++T)) U->(TF (KT T) U->X=[])->KE (m,0) h') :
 za (F.QN t w) KE h:=by
 refine zb (λz h'=>z.2=0/\∃X ss D,h.le D/\TW D (S+CO S) S z.1.ir (X++T)/\TF G (X++T)/\EM (X++T) U ss/\QD D h' (S+CO S) z.1.roots ss.reverse/\TF (KT (X++T)) U/\(TF (KT T) U->X=[])) (λK' hk=>?_) λz h' hl hz=>by
  obtain⟨z1,z2⟩:=z;obtain⟨e,X,ss,D,k0,k1,k2,k3,k4,k5,k6⟩:=hz;simp only at e;subst e;exact H z1 X ss D h' k0 hl k1 k2 k3 k4 k5 k6
 unfold F.QN;have hul:=hu.len;have tV:=hu.high;have hub:=hu.bound;have hS:=hc.small;have gu:CO S=64*S+5:=rfl;rw[hul];refine Za (λst h'=>∃i:Nat,st.2.2.1=(i:Int)/\i<=U.length/\∃D X ss Z Y,h.le D/\h.le h'/\U=Z++Y/\Y.length=i/\TW D (S+CO S) S st.2.1.1 (X++T)/\TF G (X++T)/\EM (X++T) Y ss/\QD D h' (S+CO S) st.2.1.2.1 ss.reverse/\TF (KT (X++T)) Y/\(TF (KT T) U->X=[]))
  (λst=>(U.length-st.2.2.1).toNat) ⟨0,rfl,Jt _,h,[],[],U,[],Jf _,Jf _,zS,rfl,ht.canon hS,hf,trivial,⟨[],Own.nil (Jf _),rfl,λk k1 _=>by simp at k1⟩,trivial,λ_=>rfl⟩ ?_
 rintro⟨⟨d1,d2,u1⟩,⟨ir,roots,u2⟩,i0,u3⟩ h2 ⟨i,hi,da,D,X,ss,Z,Y,hD,bH,hU,hY,tw,tf,em,hq,tk,hX⟩;have hi:i0=(i:Int):=hi;have tw:TW D (S+CO S) S ir (X++T):=tw;have hq:QD D h2 (S+CO S) roots ss.reverse:=hq;subst hi;refine zg (λh3=>?_) (λh3=>?_)
 . have aA:i<U.length:=by have:(i:Int)<(U.length:Int):=h3;omega
   obtain⟨X',r,Y',sc,Mz,hr⟩:=DZ (T:=U) (i:=i) (by simpa using aA);have hYY:Z=X'++[r]/\Y=Y':=by
    refine List.append_inj' (t₁:=Y) (t₂:=Y') ?_ (by rw[hY,Mz]);rw[J8];exact hU.symm.trans sc
   obtain⟨hZ,hYe⟩:=hYY;subst hYe;have dr:RT (r :: Y):=by have:=hu.red;rw[sc]at this;exact this.below
   have kJ:TS S (r :: Y):=by have:=hu.small;rw[sc]at this;exact this.below
   have hg2:TF G (r :: Y):=by have:=hg;rw[sc]at this;exact this.below
   have cI:=dr.2.2.1;obtain⟨ws,g1,g2,g3⟩:=hu.mem.1;have bP:i<ws.length:=by rw[g2,Tg];exact aA
   refine rn i (g1.le bH) rfl (v:=bO ws[i]) (by rw[Gr,Jp bP];rfl) λad bp=>⟨ws[i],bp,?_⟩
   have jL:=g3 i bP (by simpa using aA);rw[hr]at jL;have hYn:Y.length<=3:=by rw[sc]at tV;simp at tV;omega
   refine zqg tw hq em dr.1 kJ.1 zO (jL.le hD) hub dr.2.1 kJ.2 zO zO λz D1 h4 k1 l4 qF e1=>?_
   refine qF.call2 (K1:=λz D'=>z.2.2=0/\D1.le D'/\∃T',AJ (X++T) (tv Y r) T'/\TW D' (S+CO S) S z.1 T'/\TF G T'/\EV D' S T' (tv Y r).sqrt S z.2.1)
    (zy7 hc.vq hc.deg (tw.le k1) tf e1.ev (.inr cI) hg2.2 hS (Jd _) λT' t' z h' hl a1 a2 a3 a4=>⟨rfl,hl,T',a1,a2,a3,a4⟩) λz6 D2 h5 k2 l5 pd U'=>?_
   obtain⟨t',s',e'⟩:=z6;obtain⟨he,_,T',aj,xR,tf',YX⟩:=U';simp only at he xR YX;subst he;obtain⟨X2,lz⟩:=aj.pre;obtain⟨P,hP,lP,vP,_⟩:=YX;refine zc rfl ?_;refine pd.app hP (by have:=em.len;simp;omega) λw7 h7 YY=>⟨⟨i+1,?_,aA,D2,X2++X,P :: ss,X',r :: Y,Ja hD (Ja k1 k2),?_,sc,by rw[Ji,hY],?_,?_,?_,?_,?_,?_⟩,?_⟩
   . show i64.wrap ((i:Int)+1)=_;rw[aM zO];rfl
   exact Ja (Ja hD (Ja k1 k2)) YY.dT;rw[J8,<-lz];exact xR;rw[J8,<-lz];exact tf'
   . rw[J8,<-lz];refine⟨?_,FL.same lP vP⟩;rw[lz];exact em.ext
   rw[Gj];exact YY
   . rw[J8,<-lz];refine⟨?_,⟨P,lP,vP⟩⟩;rw[lz];exact TF.ext tk
   . intro hk;have DD:=hX hk;subst DD;have vN:TF (KT T) (r :: Y):=by have:=hk;rw[sc]at this;exact this.below
     have h8:T'=T:=aj.same (.inr cI) vN.2;have lz:T'=X2++T:=lz;rw[h8]at lz;have:X2=[]:=List.self_eq_append_left.1 lz;rw[this];rfl
   . show(U.length-i64.wrap ((i:Int)+1)).toNat<_;rw[aM zO];show _<((U.length:Int)-(i:Int)).toNat;omega
 . have:i=U.length:=by have:¬(i:Int)<(U.length:Int):=h3;omega
   subst this;have hZ:Z=[]:=by
    have:=congrArg List.length hU;rw[Jq,hY]at this;exact Ju.1 zO
   subst hZ;rw[List.nil_append]at hU;subst hU;exact hk _ _ bH ⟨rfl,X,ss,D,hD,tw,tf,em,hq,tk,hX⟩
def NJ(G:Re->Prop)(S:Nat)(T:zV)(h:Hp)(X:ag)(b:Re×Nat):Prop:=TW h (S+CO S) S X.ae T/\TF G T/\EV h S T b.1 b.2 X.af
def NX(G:Re->Prop)(S:Nat)(h:Hp)(X:ag)(b:(Re×Nat)×zV):Prop:=NJ G S b.2 h X b.1
def NJ.le{X:ag}{b:Re×Nat}(hx:NJ G S T h X b)(hl:h.le h'):NJ G S T h' X b:=⟨hx.1.le hl,hx.2.1,hx.2.2.le hl⟩
def mu:Rec dN 2 (NJ G S T):=⟨λ_=>rfl,zD,λ_=>rfl,λh hl=>h.le hl⟩
def Ve:Rec dN 2 (NX G S):=⟨λ_=>rfl,zD,λ_=>rfl,λh hl=>NJ.le h hl⟩
def NB.nj{X:ag}(hx:NB G S h X x s)(hS:S<=100000):∃T,NX G S h X ((x,s),T):=by
 obtain⟨B,T,h1,h2,h3⟩:=hx;exact⟨T,h1.canon hS,h2,h3⟩
def TF.trans(hT:RT T):∀{V:zV},TF (KT U) V->TF (KT T) U->TF (KT T) V
 | [],_,_=>trivial
 | r :: V,h1,h2=>⟨TF.trans hT h1.1 h2,KT.rZ hT h2 h1.2⟩
variable {bs:List ((Re × Nat) × zV)}
def zwi{KE:Sl×Int->Hp->Prop}(hc:Ctx G S N)(hl:LR dN 2 (NX G S) h l bs)(hlen:bs.length<=1000)
 (H:∀t T h',h.le h'->TW h' (S+CO S) S t T->TF G T->(∀b∈bs,TF (KT T) b.2)->KE (t,0) h'):za (F.KY l) KE h:=by
 refine zb (λz h'=>z.2=0/\∃T,TW h' (S+CO S) S z.1 T/\TF G T/\∀b∈bs,TF (KT T) b.2) (λK' hk=>?_) λz h' hl hz=>by
  obtain⟨z1,z2⟩:=z;obtain⟨e,T,k1,k2,k3⟩:=hz;simp only at e;subst e;exact H z1 T h' hl k1 k2 k3
 unfold F.KY;have hS:=hc.small;rw[hl.len Ve];refine ur (n:=bs.length) zO (λi t h'=>h.le h'/\∃T,TW h' (S+CO S) S t T/\TF G T/\∀b∈bs.take i,TF (KT T) b.2) ⟨Jf _,[],zy0 rfl (by unfold CO;omega),trivial,λb hb=>by simp at hb⟩ ?_;rintro i t h2 hi ⟨hle,T,tw,tf,cr⟩ k ck;refine zg (λh3=>?_) (λh3=>?_)
 . have aA:i<bs.length:=by have:(i:Int)<(bs.length:Int):=h3;omega
   refine zj (λst h'=>h.le h'/\∃T,TW h' (S+CO S) S st.1 T/\TF G T/\∀b∈bs.take (i+1),TF (KT T) b.2) (λst h' hj=>ck _ _ aA hj) ?_;refine(hl.le Ve hle).get Ve i rfl aA λad X hX bp=>⟨X.ae,bp 0 _ rfl,X.af,bp 1 _ rfl,?_⟩
   obtain⟨xw,xf,xe⟩:=hX;have add:∀{V:zV},RT V->TF (KT V) T->TF (KT V) bs[i].2->∀b∈bs.take (i+1),TF (KT V) b.2:=λhV h5 h6 b hb=>by
    rw[Jc aA,List.mem_append,Uz]at hb;rcases hb with hb | rfl
    exact TF.trans hV (cr b hb) h5;exact h6
   refine Eb tw xw (λY h4 l4 hY=>zk rfl ⟨Ja hle l4,T,tw.le l4,tf,add tw.red TF.self ?_⟩) (λh4 l4 cW=>zc rfl ?_);rw[hY];exact TF.ext TF.self
   . refine Eb (xw.le l4) (tw.le l4) (λY h5 l5 hY=>zk rfl ⟨Ja hle (Ja l4 l5),_,xw.le (Ja l4 l5),xf,add xw.red ?_ TF.self⟩) (λh5 l5 m0=>zc rfl ?_);rw[hY];exact TF.ext TF.self
     . have MA:=Ja l4 l5;refine znh hc (tw.le MA) tf (xw.le MA) xf λm Y ss D h6 hD l6 k1 k2 k3 k4 k5 k6=>zc rfl ⟨Ja hle (Ja MA l6),Y++T,k1.le k4.dT,k2,add k1.red (TF.ext TF.self) k5⟩
 . have:i=bs.length:=by have:¬(i:Int)<(bs.length:Int):=h3;omega
   subst this;rw[J5]at cr;exact hk _ _ hle ⟨rfl,T,tw,tf,cr⟩
def zeb{KE:Sl×Int->Hp->Prop}(hc:Ctx G S N)(hl:LR dN 2 (NX G S) h l bs)(hlen:bs.length<=1000)(dO:∀b∈bs,2*b.1.2+(430*S+60)<=300000000000)
 (H:∀r T h',h.le h'->LR dN 2 (NJ G S T) h' r (bs.map (·.1))->KE (r,0) h'):za (F.V2 l) KE h:=by
 refine zb (λz h'=>z.2=0/\∃T,LR dN 2 (NJ G S T) h' z.1 (bs.map (·.1))) (λK' hk=>?_) λz h' hl hz=>by
  obtain⟨z1,z2⟩:=z;obtain⟨e,T,k1⟩:=hz;simp only at e;subst e;exact H z1 T h' hl k1
 unfold F.V2;have hS:=hc.small;have gu:CO S=64*S+5:=rfl;refine zwi hc hl hlen λt T h1 l1 tw tf cr=>zc rfl ?_
 have aP:=hl.le Ve l1;rw[hl.len Ve];refine ur (n:=bs.length) zO (λi w h'=>∃D,h1.le D/\LO dN 2 (NJ G S T) D h' w ((bs.map (·.1)).take i)) ⟨h1,Jf _,by simpa using LO.nil⟩ ?_;rintro i w h2 hi ⟨D,hD,ho⟩ k ck;refine zg (λh3=>?_) (λh3=>?_)
 . have aA:i<bs.length:=by have:(i:Int)<(bs.length:Int):=h3;omega
   refine(aP.le Ve hD).xS Ve ho.dT i rfl aA λad X hX bp=>⟨X.ae,bp 0 _ rfl,X.af,bp 1 _ rfl,?_⟩
   obtain⟨xw,xf,xe⟩:=hX;have hz:=dO _ (Jy aA);have dz:TF (KT T) bs[i].2:=cr _ (Jy aA);have hn:=tw.high;have eO:=ja hn;obtain⟨J,hJ⟩:∃J:(Sl×Sl×Unit)×Unit->Hp->Prop,∀s' h',J s' h'↔∃D',h1.le D'/\LO dN 2 (NJ G S T) D' h' w ((bs.map (·.1)).take i)/\TW D' (S+CO S) S s'.1.1 T/\∃p,PL D' (bs[i].1.2+CO S) s'.1.2.1 p/\p.length=2 ^ T.length/\tv T p=bs[i].1.1/\Sz bs[i].1.1 bs[i].1.2:=⟨_,λ_ _=>Iff.rfl⟩;refine zj J (λst h' hj=>?_) ?_
   . obtain⟨D',q1,q2,q3,p,q4,q5,q6,q7⟩:=(hJ st h').1 hj;refine q2.call mu (K1:=λY D2=>NJ G S T D2 Y bs[i].1) (zg3 (X:=⟨st.1.1,st.1.2.1⟩) q3 q4 (by rw[q5];omega) zO λY h8 l8 y1 y2=>⟨y1,tf,p,y2,q5,q6,q7⟩) λY D2 h9 d9 q9 hY=>?_
     refine q9.app mu (bytes:=48) (zero:=[zN,zN]) (x:=Y) (b:=bs[i].1) rfl (by rw[Jk];omega) (by rw[Jk];omega) hY λy aZ hy=>ck _ _ aA ⟨D2,Ja q1 d9,?_⟩
     rw[Jc (by simpa using aA),List.getElem_map];exact hy
   . refine ho.call mu (K1:=λb D'=>D.le D'/\((b=true/\∃Y,T=Y++bs[i].2)\/b=false)) (Eb (tw.le hD) xw (λY h' hl hY=>⟨hl,.inl ⟨rfl,Y,hY⟩⟩) λh' hl cW=>⟨hl,.inr rfl⟩) λb D2 h4 d2 dA hb=>?_
     obtain⟨_,hb⟩:=hb;obtain⟨p,hp,lp,vp,sp⟩:=xe;rcases hb with ⟨rfl,Y,hY⟩ | rfl
     . refine zk rfl ?_;have hle:p.length<=2 ^ T.length:=by
        rw[lp,hY];exact Jz zD zS
       refine dA.call mu (K1:=λz D'=>PL D' (bs[i].1.2+CO S) z (kL (2 ^ T.length) p)) (zqx tw.len zO (hp.le d2) zO hle λz h' o=>o.pl) λz D3 h5 d3 eX hz=>?_
       refine(hJ _ _).2 ⟨D3,Ja hD (Ja d2 d3),eX,tw.le (Ja hD (Ja d2 d3)),_,hz,Ml hle,?_,sp⟩;rw[hY,XF lp,vp]
     . refine zc rfl ?_;refine dA.call mu (K1:=λz D'=>z.2=0/\∃ss D3,D2.le D3/\TW D3 (S+CO S) S z.1.ir T/\EM T bs[i].2 ss/\QD D3 D' (S+CO S) z.1.roots ss.reverse)
        (znh hc (tw.le (Ja hD d2)) tf (xw.le d2) xf λm Y ss D3 h6 rk l6 k1 k2 k3 k4 k5 k6=>⟨rfl,ss,D3,rk,?_⟩) λz D4 h5 d4 gQ LN=>?_
       . have:=k6 dz;subst this;exact⟨k1,k3,k4⟩
       . obtain⟨m,e⟩:=z;obtain⟨he,ss,D3,rk,k1,k3,k4⟩:=LN;simp only at he k1 k4;subst he;refine zc rfl ?_;have hbn:=xw.high;refine gQ.call mu (K1:=λz D'=>EV D' S T bs[i].1.1 bs[i].1.2 z) (zqg (A:=bs[i].1.2+CO S) k1 k4 k3 xw.red xw.small hbn (hp.le (Ja d2 rk)) zO lp (by rw[vp];exact sp) zO zO λz D5 h6 d5 l6 q5 e5=>?_) λz D5 h6 d5 cV YZ=>?_
         . rw[vp]at e5;exact e5.ev.le q5.dT
         . obtain⟨p',a1,a2,a3,a4⟩:=YZ;exact(hJ _ _).2 ⟨D5,Ja hD (Ja d2 (Ja d4 d5)),cV,tw.le (Ja hD (Ja d2 (Ja d4 d5))),p',a1,a2,a3,a4⟩
 . have:i=bs.length:=by have:¬(i:Int)<(bs.length:Int):=h3;omega
   subst this;rw[Je zS]at ho;exact hk _ _ (Ja l1 (Ja hD ho.dT)) ⟨rfl,T,ho.lr mu⟩
end
end Den
end

section
namespace Den
open Go Iv Pq
section
variable {B s:Nat}{b l:Sl}{q:List Rat}{T:zV}
def Ip{K:Addr->Hp->Prop}{T1 T2:zV}(hx:NX G S h X ((x,s),T1))(hy:NX G S h Y ((y,u),T2))(H:∀A h',h.le h'->LR dN 2 (NX G S) h' ⟨some A,2,2⟩ [((x,s),T1),((y,u),T2)]->K A h') :
 Ys [.slice X.ae.a X.ae.len X.ae.cap,.slice X.af.a X.af.len X.af.cap,.slice Y.ae.a Y.ae.len Y.ae.cap,.slice Y.af.a Y.af.len Y.af.cap] K h:=by
 refine Z5r (cells:=[X,Y].flatMap dN) 2 2 rfl λA h1 aP hr=>H A h1 aP ⟨[X,Y],hr,Jd _,rfl,λk k1 k2=>?_⟩
 have:k<2:=k1
 match k,this with
 | 0,_=>exact NJ.le hx aP
 | 1,_=>exact NJ.le hy aP
def MC{T:zV}(hl:LR dN 2 (NJ G S T) h l [(x,s),(y,u)]):∃X Y:ag,Rd h 2 l (dN X++dN Y)/\NJ G S T h X (x,s)/\NJ G S T h Y (y,u):=by
 obtain⟨xs,h1,h2,h3,h4⟩:=hl
 match xs,h3 with
 | [X,Y],_=>exact⟨X,Y,h1,h4 0 zS zS,h4 1 zS zS⟩
def pM{X Y:ag}(hr:Rd h 2 l (dN X++dN Y)){i:Int}(k j:Nat)(v:Sl){K:Sl->Prop}(hi:i=k)(hk:k<2)(hj:j<2)(hv:(dN X++dN Y)[k*2+j]?=some (bO v))(H:K v):zi l i 2 λa=>aB .sl (a.add j) (λx=>K x) h:=by
 have hl:l.len=2:=by have:=hr.1;simp[dN]at this;omega
 refine C3 k hr hi zO zD λa ha=>⟨v,ha j _ hv,H⟩
def Iq(hc:Ctx G S N)(hx:NB G S h X x s)(hy:NB G S h Y y u)(aD:2*(s+u)+(500*S+60)<=300000000000)(H:∀Z h',h.le h'->NB G S h' Z (x*y) (s+u)->KE (Z,0) h'):za (F.Xb X Y) KE h:=by
 refine zb (λz h'=>z.2=0/\NB G S h' z.1 (x*y) (s+u)) (λK' hk=>?_) λz h' hl hz=>by
  obtain⟨z1,z2⟩:=z;obtain⟨e,k1⟩:=hz;simp only at e;subst e;exact H z1 h' hl k1
 unfold F.Xb;refine zb (λz h'=>z.2=0/\NB G S h' z.1 (x*y) (s+u)) (λK2 aG=>?_) λz h' hl hz=>hk _ _ hl hz
 unfold F.Xm;obtain⟨T1,hx⟩:=hx.nj hc.small;obtain⟨T2,hy⟩:=hy.nj hc.small;refine Ip hx hy λA h1 l1 hl=>?_
 refine zeb hc hl zS (λb hb=>by simp at hb;rcases hb with rfl | rfl<;>(simp only;omega)) λr T h2 l2 hr=>zc rfl ?_
 obtain⟨P,Q,eh,hP,hQ⟩:=MC hr;refine pM eh 0 0 P.ae rfl zD zD rfl (pM eh 0 1 P.af rfl zD zD rfl (pM eh 1 1 Q.af rfl zD zD rfl ?_));refine Af hP.1 hP.2.2 hQ.2.2 (by simp only;omega) λz h3 e3=>aG _ _ (Ja l1 (Ja l2 e3.hle)) ⟨rfl,_,T,hP.1.le e3.hle,hP.2.1,e3.ev⟩
def ZA(hc:Ctx G S N)(hx:NB G S h X x s)(hy:NB G S h Y y u)(aD:2*(s+u)+(500*S+60)<=300000000000)(hs:Sz (x+y) k)(H:∀Z h',h.le h'->NB G S h' Z (x+y) k->KE (Z,0) h'):za (F.Vc X Y) KE h:=by
 refine zb (λz h'=>z.2=0/\NB G S h' z.1 (x+y) k) (λK' hk=>?_) λz h' hl hz=>by
  obtain⟨z1,z2⟩:=z;obtain⟨e,k1⟩:=hz;simp only at e;subst e;exact H z1 h' hl k1
 unfold F.Vc;refine zb (λz h'=>z.2=0/\NB G S h' z.1 (x+y) k) (λK2 aG=>?_) λz h' hl hz=>hk _ _ hl hz
 unfold F.Xl;obtain⟨T1,hx⟩:=hx.nj hc.small;obtain⟨T2,hy⟩:=hy.nj hc.small;refine Ip hx hy λA h1 l1 hl=>?_
 refine zeb hc hl zS (λb hb=>by simp at hb;rcases hb with rfl | rfl<;>(simp only;omega)) λr T h2 l2 hr=>zc rfl ?_
 obtain⟨P,Q,eh,hP,hQ⟩:=MC hr;refine pM eh 0 0 P.ae rfl zD zD rfl (pM eh 0 1 P.af rfl zD zD rfl (pM eh 1 1 Q.af rfl zD zD rfl ?_));refine XP hP.1 hP.2.2 hQ.2.2 (by simp only;omega) hs λz h3 e3=>aG _ _ (Ja l1 (Ja l2 e3.hle)) ⟨rfl,_,T,hP.1.le e3.hle,hP.2.1,e3.ev⟩
def ZB(hc:Ctx G S N)(hx:NB G S h X x s)(hy:NB G S h Y y u)(aD:2*(s+u)+(500*S+60)<=300000000000)(hs:Sz (x-y) k)(H:∀Z h',h.le h'->NB G S h' Z (x-y) k->KE (Z,0) h'):za (F.Dr X Y) KE h:=by
 refine zb (λz h'=>z.2=0/\NB G S h' z.1 (x-y) k) (λK' hk=>?_) λz h' hl hz=>by
  obtain⟨z1,z2⟩:=z;obtain⟨e,k1⟩:=hz;simp only at e;subst e;exact H z1 h' hl k1
 unfold F.Dr;refine zb (λz h'=>z.2=0/\NB G S h' z.1 (x-y) k) (λK2 aG=>?_) λz h' hl hz=>hk _ _ hl hz
 unfold F.z0f;obtain⟨T1,hx⟩:=hx.nj hc.small;obtain⟨T2,hy⟩:=hy.nj hc.small;refine Ip hx hy λA h1 l1 hl=>?_
 refine zeb hc hl zS (λb hb=>by simp at hb;rcases hb with rfl | rfl<;>(simp only;omega)) λr T h2 l2 hr=>zc rfl ?_
 obtain⟨P,Q,eh,hP,hQ⟩:=MC hr;refine pM eh 0 0 P.ae rfl zD zD rfl (pM eh 0 1 P.af rfl zD zD rfl (pM eh 1 1 Q.af rfl zD zD rfl ?_));refine XQ hP.1 hP.2.2 hQ.2.2 (by simp only;omega) hs λz h3 e3=>aG _ _ (Ja l1 (Ja l2 e3.hle)) ⟨rfl,_,T,hP.1.le e3.hle,hP.2.1,e3.ev⟩
def Zbr(hc:Ctx G S N)(hx:NB G S h X x s)(hy:NB G S h Y y u)(ov:y≠0)(aD:2*(s+u*2 ^ (N+1))+(500*S+60)<=300000000000)(H:∀Z h',h.le h'->NB G S h' Z (x*y.inv) (s+u*(2 ^ (N+1)-1))->KE (Z,0) h'):za (F.Bh X Y) KE h:=by
 refine zb (λz h'=>z.2=0/\NB G S h' z.1 (x*y.inv) (s+u*(2 ^ (N+1)-1))) (λK' hk=>?_) λz h' hl hz=>by
  obtain⟨z1,z2⟩:=z;obtain⟨e,k1⟩:=hz;simp only at e;subst e;exact H z1 h' hl k1
 unfold F.Bh;obtain⟨B,T,h1,h2,h3⟩:=hy;have hn:T.length<=N:=TF.i9 hc.vq h1.red h2;have hle:u*(2 ^ (N+1)-1)<=u*2 ^ (N+1):=Jr _ (Nat.sub_le _ _);refine zmu h1 hn h3 ov zO λz h4 e4=>zc rfl ?_
 refine Iq hc (hx.le e4.hle) (Y:=⟨Y.ae,z⟩) ⟨B,T,h1.le e4.hle,h2,e4.ev⟩ zO λZ h5 l5 hZ=>hk _ _ (Ja e4.hle l5) ⟨rfl,hZ⟩
def Z0y(hT:RT T)(hn:T.length<=4)(ha:EV h S T x s a)(hb:EV h S T y u b)(hs:s+CO S<=1000000000000)(hu:u+CO S<=1000000000000)(H1:∀h',h.le h'->x=y->Kb true h')(H0:∀h',h.le h'->x≠y->Kb false h'):za (F.Qa a b) Kb h:=by
 obtain⟨p,hp,lp,rfl,_⟩:=ha;obtain⟨q,hq,lq,rfl,_⟩:=hb;have eO:=ja hn;refine zrj hp hq hs hu zO zO λh1 l1=>?_
 by_cases e:p=q;rw[decide_eq_true e];exact H1 _ l1 (by rw[e]);rw[decide_eq_false e];exact H0 _ l1 λhh=>e (HN hT lp lq hh)
def zgq(hc:Ctx G S N)(hx:NB G S h X x s)(hy:NB G S h Y y u)(aD:2*(s+u)+(500*S+60)<=300000000000)(H1:∀h',h.le h'->x=y->Kb true h')(H0:∀h',h.le h'->x≠y->Kb false h'):za (F.K7 X Y) Kb h:=by
 refine zb (λz h'=>(z=true/\x=y)\/(z=false/\x≠y)) (λK' hk=>?_) λz h' hl hz=>by
  rcases hz with ⟨rfl,e⟩ | ⟨rfl,e⟩
  exact H1 h' hl e;exact H0 h' hl e
 unfold F.K7;have hS:=hc.small;have gu:CO S=64*S+5:=rfl;obtain⟨T1,hx⟩:=hx.nj hS;obtain⟨T2,hy⟩:=hy.nj hS;refine zj (λ_ h'=>h.le h') (λ_ h1 l1=>?_) ?_
 . refine Ip (NJ.le hx l1) (NJ.le hy l1) λA h2 l2 hl=>?_
   refine zeb hc hl zS (λb hb=>by simp at hb;rcases hb with rfl | rfl<;>(simp only;omega)) λr T h3 l3 hr=>zk rfl ?_
   obtain⟨P,Q,eh,hP,hQ⟩:=MC hr;refine pM eh 0 1 P.af rfl zD zD rfl (pM eh 1 1 Q.af rfl zD zD rfl ?_);have eY:=Ja l1 (Ja l2 l3);exact Z0y hP.1.red hP.1.high hP.2.2 hQ.2.2 (by simp only;omega) (by simp only;omega) (λh4 l4 e=>hk _ _ (Ja eY l4) (.inl ⟨rfl,e⟩)) λh4 l4 e=>hk _ _ (Ja eY l4) (.inr ⟨rfl,e⟩)
 . refine Eb hx.1 hy.1 (λV h1 l1 e1=>zk rfl ?_) (λh1 l1 _=>zc rfl l1);refine Eb (hy.1.le l1) (hx.1.le l1) (λW h2 l2 e2=>zk rfl ?_) (λh2 l2 _=>zc rfl (Ja l1 l2));have eT:T1=T2:=by
    have h3:=congrArg List.length e1;have h4:=congrArg List.length e2;simp only[Jq]at h3 h4;have:V=[]:=Ju.1 zO;rw[this]at e1;exact e1
   subst eT;have bS:=Ja l1 l2;exact Z0y hx.1.red hx.1.high (hx.2.2.le bS) (hy.2.2.le bS) (by simp only;omega) (by simp only;omega) (λh4 l4 e=>hk _ _ (Ja bS l4) (.inl ⟨rfl,e⟩)) λh4 l4 e=>hk _ _ (Ja bS l4) (.inr ⟨rfl,e⟩)
end
end Den
end

section
namespace Den
open Go Iv Pq
def Y0{α:Type}{G:(α×Int->Hp->Prop)->Hp->Prop}{K:α×Int->Hp->Prop}{h:Hp}(R:α->Hp->Prop)(H:∀K':α×Int->Hp->Prop,(∀v h',h.le h'->R v h'->K' (v,0) h')->G K' h)(k:∀v h',h.le h'->R v h'->K (v,0) h'):za G K h:=
 zb (λz h'=>z.2=0/\R z.1 h') (λK' hk=>H K' λv h' hl hr=>hk _ _ hl ⟨rfl,hr⟩) λz h' hl hz=>by
  obtain⟨z1,z2⟩:=z;obtain⟨e,hr⟩:=hz;simp only at e;subst e;exact k z1 h' hl hr
def VB(G:Re->Prop)(S:Nat)(h:Hp)(V:aF)(x y:Re)(s:Nat):Prop:=NB G S h V.x x s/\NB G S h V.y y s
def KC(h:Hp)(p:Addr):Prop:=p.off=0/\p.spot=none/\∃e,h p.block=some ⟨[.int .i64 0],e,(0,0)⟩
def KC.le{h h':Hp}{p:Addr}(hp:KC h p)(hl:h.le h'):KC h' p:=by
 obtain⟨h1,h2,e,h3⟩:=hp;exact⟨h1,h2,e,hl _ _ h3⟩
def KC.new{h:Hp}{K:Addr->Hp->Prop}(H:∀p h',h.le h'->KC h' p->K p h'):Ys [.int .i64 0] K h:=by
 intro b e hb;exact H _ _ (Hp.cH hb) ⟨rfl,rfl,e,Hp.cD _ _ _⟩
def KC.ld{h:Hp}{p:Addr}{K:Int->Prop}(hp:KC h p)(H:K 0):aB (.int .i64) (p.add 0) K h:=by
 obtain⟨h1,h2,e,h3⟩:=hp;refine⟨(0:Int),?_,H⟩;rw[qo];unfold Hp.cell;rw[h2,h1];simp only[h3];rfl
def KC.st{h:Hp}{p:Addr}{K:Hp->Prop}(hp:KC h p)(H:K h):bD (p.add 0) [.int .i64 0] K h:=by
 obtain⟨h1,h2,e,h3⟩:=hp;rw[qo];refine⟨_,h3,h2,rfl,by rw[h1];exact Jd _,rfl,?_⟩;have:h.ins p.block { cells:=Zn [Value.int .i64 0] p.off [.int .i64 0],elem:=e,fz:=(0,0) }=h:=by
  funext j;unfold Hp.ins;split
  . rename_i hj;rw[hj,h3,h1];rfl
  rfl
 rw[this];exact H
section
variable {s:Nat}{W:aF}{w:Re}
def VB.le(hv:VB G S h V x y s)(hl:h.le h'):VB G S h' V x y s:=⟨hv.1.le hl,hv.2.le hl⟩
def VB.mono(hv:VB G S h V x y s)(hs:s<=u):VB G S h V x y u:=⟨hv.1.mono hs,hv.2.mono hs⟩
def Zce(hc:Ctx G S N)(hv:VB G S h V x y s)(hw:VB G S h W z w u)(aD:2*(s+u)+(500*S+60)<=300000000000)(H:∀Z h',h.le h'->VB G S h' Z (x+z) (y+w) (s+u+1)->KV (Z,0) h'):za (F.zfp V W) KV h:=by
 refine Y0 _ (λK' hk=>?_) H;unfold F.zfp;refine Y0 (λZ h'=>VB G S h' Z (x+z) (y+w) (s+u+1)) (λK2 aG=>?_) λZ h' hl hZ=>hk _ _ hl hZ
 unfold F.z27;refine ZA hc hv.1 hw.1 aD (hv.1.sz.add hw.1.sz) λZ1 h1 l1 z1=>zc rfl ?_
 refine ZA hc (hv.2.le l1) (hw.2.le l1) aD (hv.2.sz.add hw.2.sz) λZ2 h2 l2 z2=>zc rfl (aG _ _ (Ja l1 l2) ⟨z1.le l2,z2⟩)
def Eh(hc:Ctx G S N)(hv:VB G S h V x y s)(hw:VB G S h W z w u)(aD:2*(s+u)+(500*S+60)<=300000000000)(H:∀Z h',h.le h'->VB G S h' Z (x-z) (y-w) (s+u+1)->KV (Z,0) h'):za (F.Vj V W) KV h:=by
 refine Y0 _ (λK' hk=>?_) H;unfold F.Vj;refine Y0 (λZ h'=>VB G S h' Z (x-z) (y-w) (s+u+1)) (λK2 aG=>?_) λZ h' hl hZ=>hk _ _ hl hZ
 unfold F.z28;refine ZB hc hv.1 hw.1 aD (hv.1.sz.sub hw.1.sz) λZ1 h1 l1 z1=>zc rfl ?_
 refine ZB hc (hv.2.le l1) (hw.2.le l1) aD (hv.2.sz.sub hw.2.sz) λZ2 h2 l2 z2=>zc rfl (aG _ _ (Ja l1 l2) ⟨z1.le l2,z2⟩)
def zui(hc:Ctx G S N)(hv:VB G S h V x y s)(hw:VB G S h W z w u)(aD:2*(s+u)+(500*S+60)<=300000000000)(H:∀Z h',h.le h'->VB G S h' Z (x*z) (y*w) (s+u)->KV (Z,0) h'):za (F.Q2 V W) KV h:=by
 refine Y0 _ (λK2 aG=>?_) H;unfold F.Q2;refine Iq hc hv.1 hw.1 aD λZ1 h1 l1 z1=>zc rfl ?_
 refine Iq hc (hv.2.le l1) (hw.2.le l1) aD λZ2 h2 l2 z2=>zc rfl (aG _ _ (Ja l1 l2) ⟨z1.le l2,z2⟩)
def Z28(hc:Ctx G S N)(hv:VB G S h V x y s)(hw:NB G S h X z u)(aD:2*(s+u)+(500*S+60)<=300000000000)(H:∀Z h',h.le h'->VB G S h' Z (x*z) (y*z) (s+u)->KV (Z,0) h'):za (F.za4 V X) KV h:=by
 refine Y0 _ (λK' hk=>?_) H;unfold F.za4;exact zui hc hv (W:=⟨X,X⟩) ⟨hw,hw⟩ aD λZ h1 l1 z1=>hk _ _ l1 z1
def MD(hc:Ctx G S N)(hv:VB G S h V x y s)(hw:VB G S h W z w u)(aD:4*(s+u)+(500*S+60)<=300000000000)(H:∀Z h',h.le h'->NB G S h' Z (x*z+y*w) (s+u+(s+u)+1)->KE (Z,0) h'):za (F.Bg V W) KE h:=by
 refine Y0 _ (λK' hk=>?_) H;unfold F.Bg;refine zui hc hv hw zO λZ1 h1 l1 z1=>zc rfl ?_
 exact ZA hc z1.1 z1.2 zO (z1.1.sz.add z1.2.sz) λZ2 h2 l2 z2=>hk _ _ (Ja l1 l2) z2
def zfn(hc:Ctx G S N)(hv:VB G S h V x y s)(aD:8*s+(500*S+60)<=300000000000)(H:∀Z h',h.le h'->NB G S h' Z (x*x+y*y) (s+s+(s+s)+1)->KE (Z,0) h'):za (F.KZ V) KE h:=by
 refine Y0 _ (λK' hk=>?_) H;unfold F.KZ;exact MD hc hv hv zO λZ h1 l1 z1=>hk _ _ l1 z1
def Z83(hv:VB G S h V x y s)(aD:s+(200*S+13)<=300000000000)(H:∀Z h',h.le h'->VB G S h' Z (-y) x s->K1 Z h'):za (F.zcc V) K1 h:=by
 refine zb _ (λK' hk=>?_) H;unfold F.zcc;refine XT hv.2 aD λZ1 h1 l1 z1=>?_
 refine zb (λZ h'=>NB G S h' Z x s) (λK2 aG=>?_) λZ2 h2 l2 z2=>hk _ _ (Ja l1 l2) ⟨z1.le l2,z2⟩
 unfold F.zcm;refine XT (hv.1.le l1) aD λZ3 h3 l3 z3=>?_
 refine XT z3 aD λZ4 h4 l4 z4=>aG _ _ (Ja l3 l4) ?_
 rwa [Re.neg_neg]at z4
def Z27(hc:Ctx G S N)(hv:VB G S h V x y s)(hw:VB G S h W z w u)(aD:4*(s+u)+(500*S+60)<=300000000000)(H:∀Z h',h.le h'->NB G S h' Z (-y*z+x*w) (s+u+(s+u)+1)->KE (Z,0) h'):za (F.za3 V W) KE h:=by
 refine Y0 _ (λK' hk=>?_) H;unfold F.za3;refine Z83 hv zO λZ1 h1 l1 z1=>?_
 exact MD hc z1 (hw.le l1) zO λZ h2 l2 z2=>hk _ _ (Ja l1 l2) z2
def zhf(hc:Ctx G S N)(hv:VB G S h V x y s)(hw:VB G S h W z w u)(aD:2*(s+u)+(500*S+60)<=300000000000)(H1:∀h',h.le h'->x=z/\y=w->Kb true h')(H0:∀h',h.le h'->¬(x=z/\y=w)->Kb false h'):za (F.K8 V W) Kb h:=by
 refine zb (λb h'=>(b=true/\x=z/\y=w)\/(b=false/\¬(x=z/\y=w))) (λK' hk=>?_) λb h' hl hb=>by
  rcases hb with ⟨rfl,e⟩ | ⟨rfl,e⟩
  exact H1 h' hl e;exact H0 h' hl e
 unfold F.K8;refine zgq hc hv.1 hw.1 aD (λh1 l1 e1=>zk rfl ?_) λh1 l1 e1=>zc rfl (hk _ _ l1 (.inr ⟨rfl,λhh=>e1 hh.1⟩))
 exact zgq hc (hv.2.le l1) (hw.2.le l1) aD (λh2 l2 e2=>hk _ _ (Ja l1 l2) (.inl ⟨rfl,e1,e2⟩)) λh2 l2 e2=>hk _ _ (Ja l1 l2) (.inr ⟨rfl,λhh=>e2 hh.2⟩)
def ZC(hc:Ctx G S N)(hx:NB G S h X x s)(hy:NB G S h Y y u)(ov:y≠0)(aD:2*(s+u*32)+(500*S+60)<=300000000000)(H:∀Z h',h.le h'->NB G S h' Z (x*y.inv) (s+u*31)->KE (Z,0) h'):za (F.Bh X Y) KE h:=by
 have h1:2 ^ (N+1)<=2 ^ (4+1):=Jz zD (by have:=hc.deg;omega);have h2:u*2 ^ (N+1)<=u*32:=Jr _ h1;have h3:u*(2 ^ (N+1)-1)<=u*31:=Jr _ (Nat.sub_le_sub_right h1 1);exact Zbr hc hx hy ov zO λZ h' hl hZ=>H Z h' hl (hZ.mono zO)
end
end Den
end

section
namespace Den
open Go Iv Pq
def MB(G:Re->Prop)(S:Nat)(h:Hp)(M:aU)(c d x y:Re)(s u:Nat):Prop:=NB G S h M.c c s/\NB G S h M.s d s/\NB G S h M.x x u/\NB G S h M.y y u
def lL(b:Bool):Re:=if b then -1 else 1
section
variable {s:Nat}{W U:aF}{M:aU}{p:Addr}{w c d a b:Re}
def MB.le(hm:MB G S h M c d x y s u)(hl:h.le h'):MB G S h' M c d x y s u:=⟨hm.1.le hl,hm.2.1.le hl,hm.2.2.1.le hl,hm.2.2.2.le hl⟩
def zhs(hc:Ctx G S N)(hp:KC h p)(hx:NB G S h X x s)(hy:NB G S h Y y u)(aD:2*(s+u)+(500*S+60)<=300000000000)(H:∀Z h',h.le h'->NB G S h' Z (x*y) (s+u)->KN Z h'):za (F.Qt (some p) X Y) KN h:=by
 refine zb _ (λK' hk=>?_) H;unfold F.Qt;refine zb (λZ h'=>NB G S h' Z (x*y) (s+u)) (λK2 aG=>?_) λZ h' hl hZ=>hk _ _ hl hZ
 unfold F.Wm;refine hp.ld (zc rfl ?_);refine Iq hc hx hy aD λZ h1 l1 z1=>?_
 exact(hp.le l1).st (aG _ _ l1 z1)
def Zbp(hc:Ctx G S N)(hp:KC h p)(hx:NB G S h X x s)(hy:NB G S h Y y u)(aD:2*(s+u)+(500*S+60)<=300000000000)(H:∀Z h',h.le h'->NB G S h' Z (x-y) (s+u+1)->KN Z h'):za (F.z2z (some p) X Y) KN h:=by
 refine zb _ (λK' hk=>?_) H;unfold F.z2z;refine zb (λZ h'=>NB G S h' Z (x-y) (s+u+1)) (λK2 aG=>?_) λZ h' hl hZ=>hk _ _ hl hZ
 unfold F.Wn;refine hp.ld (zc rfl ?_);refine ZB hc hx hy aD (hx.sz.sub hy.sz) λZ h1 l1 z1=>?_
 exact(hp.le l1).st (aG _ _ l1 z1)
def Zbh(hc:Ctx G S N)(hp:KC h p)(hx:NB G S h X x s)(hy:NB G S h Y y u)(aD:2*(s+u)+(500*S+60)<=300000000000)(H:∀Z h',h.le h'->NB G S h' Z (x+y) (s+u+1)->KN Z h'):za (F.z2y (some p) X Y) KN h:=by
 refine zb _ (λK' hk=>?_) H;unfold F.z2y;refine zb (λZ h'=>NB G S h' Z (x+y) (s+u+1)) (λK2 aG=>?_) λZ h' hl hZ=>hk _ _ hl hZ
 unfold F.Wl;refine hp.ld (zc rfl ?_);refine ZA hc hx hy aD (hx.sz.add hy.sz) λZ h1 l1 z1=>?_
 exact(hp.le l1).st (aG _ _ l1 z1)
def Z26(hc:Ctx G S N)(hp:KC h p)(hm:MB G S h M c d x y s u)(hv:VB G S h V z w k)(aD:4*(s+k)+(500*S+60)<=300000000000)
 (H:∀Z h',h.le h'->VB G S h' Z (c*z-d*(lL M.aS*w)) (d*z+c*(lL M.aS*w)) (s+k+(s+k)+1)->K1 Z h'):za (F.Vz (some p) M V) K1 h:=by
 refine zb _ (λK' hk=>?_) H;unfold F.Vz;refine zj (λst h'=>h.le h'/\NB G S h' ⟨st.1.1,st.1.2.1⟩ (lL M.aS*w) k) (λst h1 hj=>?_) ?_
 . obtain⟨l1,hw⟩:=hj;refine zhs hc (hp.le l1) (hm.1.le l1) (hv.1.le l1) zO λZ3 h2 l2 z3=>?_
   have bS:=Ja l1 l2;refine zhs hc (hp.le bS) (hm.2.1.le bS) (hw.le l2) zO λZ4 h3 l3 z4=>?_
   have eY:=Ja bS l3;refine Zbp hc (hp.le eY) (z3.le l3) z4 zO λZ5 h4 l4 z5=>?_
   have gG:=Ja eY l4;refine zhs hc (hp.le gG) (hm.2.1.le gG) (hv.1.le gG) zO λZ6 h5 l5 z6=>?_
   have fE:=Ja gG l5;refine zhs hc (hp.le fE) (hm.1.le fE) (hw.le (Ja l2 (Ja l3 (Ja l4 l5)))) zO λZ7 h6 l6 z7=>?_
   have eO:=Ja fE l6;refine Zbh hc (hp.le eO) (z6.le l6) z7 zO λZ8 h7 l7 z8=>hk _ _ (Ja eO l7) ⟨z5.le (Ja l5 (Ja l6 l7)),z8⟩
 . refine Zw (λhb=>?_) (λhb=>?_)
   . refine XT hv.2 zO λZ h1 l1 z1=>⟨l1,?_⟩
     have e:lL M.aS*w=-w:=by
      rw[hb];show -1*w=-w;rw[Re.neg_mul,Re.one_mul]
     rw[e];exact z1
   . have e:lL M.aS*w=w:=by
      rw[hb];show 1*w=w;rw[Re.one_mul]
     exact⟨Jf _,by rw[e];exact hv.2⟩
def zou(hc:Ctx G S N)(hm:MB G S h M c d x y s u)(hv:VB G S h V z w k)(aD:4*(s+k)+2*u+(500*S+70)<=300000000000)
 (H:∀Z h',h.le h'->VB G S h' Z (c*z-d*(lL M.aS*w)+x) (d*z+c*(lL M.aS*w)+y) (s+k+(s+k)+1+u+1)->KV (Z,0) h'):za (F.GD M V) KV h:=by
 refine Y0 _ (λK' hk=>?_) H;unfold F.GD;refine KC.new λp h1 l1 hp=>?_
 refine Z26 hc hp (hm.le l1) (hv.le l1) zO λZ2 h2 l2 z2=>?_
 have bS:=Ja l1 l2;refine zb (λZ h'=>VB G S h' Z (c*z-d*(lL M.aS*w)+x) (d*z+c*(lL M.aS*w)+y) (s+k+(s+k)+1+u+1)) (λK2 aG=>?_) λZ3 h3 l3 z3=>?_
 . unfold F.X7;refine(hp.le l2).ld (zc rfl ?_);refine Zce hc z2 (W:=⟨M.x,M.y⟩) ⟨hm.2.2.1.le bS,hm.2.2.2.le bS⟩ zO λZ h4 l4 z4=>?_
   exact(hp.le (Ja l2 l4)).st (aG _ _ l4 z4)
 exact(hp.le (Ja l2 l3)).ld (zc rfl (hk _ _ (Ja bS l3) z3))
def vr(x y z w a b:Re):Re:=-(w-y)*(a-x)+(z-x)*(b-y)
def zfx(hc:Ctx G S N)(hv:VB G S h V x y s)(hw:VB G S h W z w s)(hu:VB G S h U a b s)(aD:1000*s+20000*S+40000<=300000000000)(H:∀h',h.le h'->KI (cm (vr x y z w a b),0) h'):za (F.K5 V W U) KI h:=by
 refine Y0 (λv h'=>v=cm (vr x y z w a b)) (λK' hk=>?_) λv h' hl e=>by rw[e];exact H h' hl
 unfold F.K5;refine Eh hc hw hv zO λZ1 h1 l1 z1=>zc rfl ?_
 refine Eh hc (hu.le l1) (hv.le l1) zO λZ2 h2 l2 z2=>zc rfl ?_
 refine Z27 hc (z1.le l2) z2 zO λZ3 h3 l3 z3=>zc rfl ?_
 have hq:=Yu S (s+s+1+(s+s+1)+(s+s+1+(s+s+1))+1);exact H7 z3 zO λh4 l4=>hk _ _ (Ja l1 (Ja l2 (Ja l3 l4))) rfl
def ME(x y z w a b:Re):Re:=(x-a)*(z-a)+(y-b)*(w-b)
def zsr(hc:Ctx G S N)(hv:VB G S h V x y s)(hw:VB G S h W z w s)(hu:VB G S h U a b s)(aD:1000*s+20000*S+40000<=300000000000)(H:∀h',h.le h'->Kb (decide (cm (ME x y z w a b)<0)) h'):za (F.z71 V W U) Kb h:=by
 refine zb (λv h'=>v=decide (cm (ME x y z w a b)<0)) (λK' hk=>?_) λv h' hl e=>by rw[e];exact H h' hl
 unfold F.z71;refine Eh hc hv hu zO λZ1 h1 l1 z1=>?_
 refine Eh hc (hw.le l1) (hu.le l1) zO λZ2 h2 l2 z2=>?_
 refine MD hc (z1.le l2) z2 zO λZ3 h3 l3 z3=>?_
 have hq:=Yu S (s+s+1+(s+s+1)+(s+s+1+(s+s+1))+1);exact H7 z3 zO λh4 l4=>hk _ _ (Ja l1 (Ja l2 (Ja l3 l4))) rfl
def btw(x y z w a b:Re):Prop:=(x=a/\y=b)\/(z=a/\w=b)\/(cm (vr x y z w a b)=0/\cm (ME x y z w a b)<0)
def zkd(hc:Ctx G S N)(hv:VB G S h V x y s)(hw:VB G S h W z w s)(hu:VB G S h U a b s)(aD:1000*s+20000*S+40000<=300000000000)(H:∀r h',h.le h'->(r=true↔btw x y z w a b)->Kb r h'):za (F.QY V W U) Kb h:=by
 refine zb _ (λK' hk=>?_) H;unfold F.QY;refine zj (λ_ h'=>h.le h'/\¬(x=a/\y=b)/\¬(z=a/\w=b)) (λ_ h1 hj=>?_) ?_
 . obtain⟨l1,n1,n2⟩:=hj;refine zfx hc (hv.le l1) (hw.le l1) (hu.le l1) aD λh2 l2=>zk rfl ?_
   have bS:=Ja l1 l2;refine Zs (λh0=>?_) (λh0=>?_)
   . refine zsr hc (hv.le bS) (hw.le bS) (hu.le bS) aD λh3 l3=>hk _ _ (Ja bS l3) ?_
     rw[decide_eq_true_iff];exact⟨λhh=>.inr (.inr ⟨h0,hh⟩),λhh=>by
      rcases hh with hh | hh | hh
      exact absurd hh n1;exact absurd hh n2;exact hh.2⟩
   . refine hk _ _ bS ⟨λhh=>absurd hh zD,λhh=>?_⟩;rcases hh with hh | hh | hh
     exact absurd hh n1;exact absurd hh n2;exact absurd hh.1 h0
 . refine zhf hc hv hu zO (λh1 l1 e1=>zk rfl (hk _ _ l1 ⟨λ_=>.inl e1,λ_=>rfl⟩)) λh1 l1 e1=>zc rfl ?_
   exact zhf hc (hw.le l1) (hu.le l1) zO (λh2 l2 e2=>zk rfl (hk _ _ (Ja l1 l2) ⟨λ_=>.inr (.inl e2),λ_=>rfl⟩)) λh2 l2 e2=>zc rfl ⟨Ja l1 l2,e1,e2⟩
end
end Den
end

noncomputable section
namespace Den
open Go Iv Pq
def CB(G:Re->Prop)(h:Hp)(C:fg)(x y q:Re):Prop:=VB G 300 h C.bW x y 830000000/\NB G 300 h C.cS q 3310000000
def pN(p p' q q':Re):Re:=p*q'-p'*q
def ctx(p p' q q':Re):Re:=(q'*(p*p+p'*p')-p'*(q*q+q'*q'))*(pN p p' q q'+pN p p' q q').inv
def sd(p p' q q':Re):Re:=(p*(q*q+q'*q')-q*(p*p+p'*p'))*(pN p p' q q'+pN p p' q q').inv
section
variable {s:Nat}{W U:aF}{C:fg}{p:Addr}{w a b q:Re}{KC':zY (fg × Int)}
def CB.le(hx:CB G h C x y q)(hl:h.le h'):CB G h' C x y q:=⟨hx.1.le hl,hx.2.le hl⟩
def zht(hp:KC h p)(H:Kb true h):za (F.q8 (some p) 0) Kb h:=by
 refine zw _ (λK' hk=>?_) H;unfold F.q8;refine zj (λ_ h'=>h'=h) (λ_ h' e=>by rw[e];exact hp.ld hk) ?_;exact hp.ld (zk rfl (hp.st rfl))
def Ei(hc:Ctx G S N)(hp:KC h p)(hx:NB G S h X x s)(hy:NB G S h Y y u)(aD:2*(s+u)+(500*S+60)<=300000000000)(H:∀Z h',h.le h'->NB G S h' Z (x*y) (s+u)->KN Z h'):za (F.yt (some p) X Y) KN h:=by
 refine zb _ (λK' hk=>?_) H;unfold F.yt;refine zb (λZ h'=>NB G S h' Z (x*y) (s+u)) (λK2 aG=>?_) λZ h' hl hZ=>hk _ _ hl hZ
 unfold F.X4;refine hp.ld (zc rfl ?_);refine Iq hc hx hy aD λZ h1 l1 z1=>?_
 exact zht (hp.le l1) (aG _ _ l1 z1)
def MF(hc:Ctx G S N)(hp:KC h p)(hx:NB G S h X x s)(hy:NB G S h Y y u)(aD:2*(s+u)+(500*S+60)<=300000000000)(H:∀Z h',h.le h'->NB G S h' Z (x-y) (s+u+1)->KN Z h'):za (F.Yt (some p) X Y) KN h:=by
 refine zb _ (λK' hk=>?_) H;unfold F.Yt;refine zb (λZ h'=>NB G S h' Z (x-y) (s+u+1)) (λK2 aG=>?_) λZ h' hl hZ=>hk _ _ hl hZ
 unfold F.X5;refine hp.ld (zc rfl ?_);refine ZB hc hx hy aD (hx.sz.sub hy.sz) λZ h1 l1 z1=>?_
 exact zht (hp.le l1) (aG _ _ l1 z1)
def zhq(hc:Ctx G S N)(hp:KC h p)(hx:NB G S h X x s)(hy:NB G S h Y y u)(aD:2*(s+u)+(500*S+60)<=300000000000)(H:∀Z h',h.le h'->NB G S h' Z (x+y) (s+u+1)->KN Z h'):za (F.Qs (some p) X Y) KN h:=by
 refine zb _ (λK' hk=>?_) H;unfold F.Qs;refine zb (λZ h'=>NB G S h' Z (x+y) (s+u+1)) (λK2 aG=>?_) λZ h' hl hZ=>hk _ _ hl hZ
 unfold F.X1;refine hp.ld (zc rfl ?_);refine ZA hc hx hy aD (hx.sz.add hy.sz) λZ h1 l1 z1=>?_
 exact zht (hp.le l1) (aG _ _ l1 z1)
def ztx(hc:Ctx G S N)(hp:KC h p)(hx:NB G S h X x s)(hy:NB G S h Y y u)(ov:y≠0)(aD:2*(s+u*32)+(500*S+60)<=300000000000)(H:∀Z h',h.le h'->NB G S h' Z (x*y.inv) (s+u*31)->KN Z h'):za (F.Vy (some p) X Y) KN h:=by
 refine zb _ (λK' hk=>?_) H;unfold F.Vy;refine zb (λZ h'=>NB G S h' Z (x*y.inv) (s+u*31)) (λK2 aG=>?_) λZ h' hl hZ=>hk _ _ hl hZ
 unfold F.X3;refine hp.ld (zc rfl ?_);refine ZC hc hx hy ov aD λZ h1 l1 z1=>?_
 exact zht (hp.le l1) (aG _ _ l1 z1)
def zgk(hc:Ctx G S N)(hp:KC h p)(hv:VB G S h V x y s)(hw:VB G S h W z w u)(aD:2*(s+u)+(500*S+60)<=300000000000)(H:∀Z h',h.le h'->VB G S h' Z (x-z) (y-w) (s+u+1)->K1 Z h'):za (F.Q3 (some p) V W) K1 h:=by
 refine zb _ (λK' hk=>?_) H;unfold F.Q3;refine MF hc hp hv.1 hw.1 aD λZ1 h1 l1 z1=>?_
 exact MF hc (hp.le l1) (hv.2.le l1) (hw.2.le l1) aD λZ2 h2 l2 z2=>hk _ _ (Ja l1 l2) ⟨z1.le l2,z2⟩
def Z5g(hc:Ctx G S N)(hp:KC h p)(hv:VB G S h V x y s)(hw:VB G S h W z w u)(aD:2*(s+u)+(500*S+60)<=300000000000)(H:∀Z h',h.le h'->VB G S h' Z (x+z) (y+w) (s+u+1)->K1 Z h'):za (F.z1o (some p) V W) K1 h:=by
 refine zb _ (λK' hk=>?_) H;unfold F.z1o;refine zhq hc hp hv.1 hw.1 aD λZ1 h1 l1 z1=>?_
 exact zhq hc (hp.le l1) (hv.2.le l1) (hw.2.le l1) aD λZ2 h2 l2 z2=>hk _ _ (Ja l1 l2) ⟨z1.le l2,z2⟩
def z9p(hc:Ctx G S N)(hp:KC h p)(hv:VB G S h V x y s)(aD:8*s+(500*S+60)<=300000000000)(H:∀Z h',h.le h'->NB G S h' Z (x*x+y*y) (s+s+(s+s)+1)->KN Z h'):za (F.Y1 (some p) V) KN h:=by
 refine zb _ (λK' hk=>?_) H;unfold F.Y1;refine Ei hc hp hv.1 hv.1 zO λZ1 h1 l1 z1=>?_
 refine Ei hc (hp.le l1) (hv.2.le l1) (hv.2.le l1) zO λZ2 h2 l2 z2=>?_
 exact zhq hc (hp.le (Ja l1 l2)) (z1.le l2) z2 zO λZ3 h3 l3 z3=>hk _ _ (Ja l1 (Ja l2 l3)) z3
def zzn(hc:Ctx G S N)(hp:KC h p)(hv:VB G S h V x y s)(hw:VB G S h W z w s)(aD:8*s+(500*S+60)<=300000000000)(H:∀Z h',h.le h'->NB G S h' Z (pN x y z w) (s+s+(s+s)+1)->KN Z h'):za (F.z0o (some p) V W) KN h:=by
 refine zb _ (λK' hk=>?_) H;unfold F.z0o;refine Ei hc hp hv.1 hw.2 zO λZ1 h1 l1 z1=>?_
 refine Ei hc (hp.le l1) (hv.2.le l1) (hw.1.le l1) zO λZ2 h2 l2 z2=>?_
 exact MF hc (hp.le (Ja l1 l2)) (z1.le l2) z2 zO λZ3 h3 l3 z3=>hk _ _ (Ja l1 (Ja l2 l3)) z3
def zls{x:Re}(h:x≠0):x+x≠0:=λhh=>h (Re.fX hh)
def zin(hc:Ctx G 300 N)(hv:VB G 300 h V x y 1600000)(hw:VB G 300 h W z w 1600000)(hu:VB G 300 h U a b 1600000)(h0:pN (z-x) (w-y) (a-x) (b-y)≠0)
 (H:∀C h',h.le h'->CB G h' C (x+ctx (z-x) (w-y) (a-x) (b-y)) (y+sd (z-x) (w-y) (a-x) (b-y))
   (ctx (z-x) (w-y) (a-x) (b-y)*ctx (z-x) (w-y) (a-x) (b-y)+sd (z-x) (w-y) (a-x) (b-y)*sd (z-x) (w-y) (a-x) (b-y))->KC' (C,0) h') :
 za (F.QW V W U) KC' h:=by
 refine Y0 _ (λK' hk=>?_) H;unfold F.QW;refine KC.new λp h1 l1 hp=>?_
 refine zgk hc hp (hw.le l1) (hv.le l1) zD λZ2 h2 m2 z2=>?_
 have l2:=Ja l1 m2;have z2:=z2.mono (u:=3200001) zD;refine zgk hc (hp.le m2) (hu.le l2) (hv.le l2) zD λZ3 h3 m3 z3=>?_
 have l3:=Ja l2 m3;have p3:=hp.le (Ja m2 m3);have z3:=z3.mono (u:=3200001) zD;have z2:=z2.le m3;generalize e1:z-x=p1 at z2 h0 hk |-
 generalize e2:w-y=p2 at z2 h0 hk |-
 generalize e3:a-x=q1 at z3 h0 hk |-
 generalize e4:b-y=q2 at z3 h0 hk |-
 refine zzn hc p3 z2 z3 zD λZ4 h4 m4 z4=>?_
 have l4:=Ja l3 m4;have p4:=p3.le m4;have z4:=z4.mono (k:=12800005) zD;refine p4.ld (zc rfl ?_);refine H7 z4 (by rw[Yu];decide) λh5 m5=>Zs (λhh=>absurd (Qj.1 hh) h0) λ_=>?_
 have l5:=Ja l4 m5;have p5:=p4.le m5;refine zhq hc p5 (z4.le m5) (z4.le m5) zD λZ8 h6 m6 z8=>?_
 have l6:=Ja l5 m6;have p6:=p5.le m6;have z8:=z8.mono (k:=25600011) zD;have z2:=z2.le (Ja m4 (Ja m5 m6));have z3:=z3.le (Ja m4 (Ja m5 m6));refine z9p hc p6 z2 zD λZ9 h7 m7 z9=>?_
 have z9:=z9.mono (k:=12800005) zD;refine z9p hc (p6.le m7) (z3.le m7) zD λZ10 h8 m8 qK=>?_
 have qK:=qK.mono (k:=12800005) zD;have l8:=Ja l6 (Ja m7 m8);have p8:=p6.le (Ja m7 m8);have z2:=z2.le (Ja m7 m8);have z3:=z3.le (Ja m7 m8);have z8:=z8.le (Ja m7 m8);have z9:=z9.le m8;refine Ei hc p8 z3.2 z9 zD λZ11 h9 m9 xr=>?_
 refine Ei hc (p8.le m9) (z2.2.le m9) (qK.le m9) zD λZ12 aZ oJ XN=>?_
 have ZD:=Ja m9 oJ;refine MF hc (p8.le ZD) (xr.le oJ) XN zD λZ13 bV se xz=>?_
 have xz:=xz.mono (k:=32000013) zD;have se:=Ja ZD se;refine ztx hc (p8.le se) xz (z8.le se) (zls h0) zD λZ14 cu Ak qM=>?_
 have qM:NB G 300 cu Z14 (ctx p1 p2 q1 q2) 825600354:=qM.mono zD;have Ak:=Ja se Ak;refine Ei hc (p8.le Ak) (z2.1.le Ak) (qK.le Ak) zD λZ15 cO MG B3=>?_
 have Cm:=Ja Ak MG;refine Ei hc (p8.le Cm) (z3.1.le Cm) (z9.le Cm) zD λZ16 eG A2 uy=>?_
 have ZE:=Ja Cm A2;refine MF hc (p8.le ZE) (B3.le A2) uy zD λZ17 gh ZF YQ=>?_
 have YQ:=YQ.mono (k:=32000013) zD;have Ir:=Ja ZE ZF;refine ztx hc (p8.le Ir) YQ (z8.le Ir) (zls h0) zD λZ18 gi AU Il=>?_
 have Il:NB G 300 gi Z18 (sd p1 p2 q1 q2) 825600354:=Il.mono zD;have Cn:=Ja Ir AU;have eO:=Ja l8 Cn;have zv:VB G 300 gi ⟨Z14,Z18⟩ (ctx p1 p2 q1 q2) (sd p1 p2 q1 q2) 825600354:=⟨qM.le (Ja MG (Ja A2 (Ja ZF AU))),Il⟩;refine Z5g hc (p8.le Cn) (hv.le eO) zv zD λZ19 dF Al z19=>?_
 refine z9p hc (p8.le (Ja Cn Al)) (zv.le Al) zD λZ20 fN MH z20=>?_
 have p18:=p8.le (Ja Cn (Ja Al MH));refine p18.ld (zc rfl (hk _ _ (Ja eO (Ja Al MH)) ⟨(z19.le MH).mono zD,z20.mono zD⟩))
def zt7(hc:Ctx G 300 N)(hC:CB G h C x y q)(hv:VB G 300 h V z w 1600000)(H:∀h',h.le h'->KI (cm ((z-x)*(z-x)+(w-y)*(w-y)-q),0) h'):za (F.QX C V) KI h:=by
 refine Y0 (λv h'=>v=cm ((z-x)*(z-x)+(w-y)*(w-y)-q)) (λK' hk=>?_) λv h' hl e=>by rw[e];exact H h' hl
 unfold F.QX;refine Y0 (λZ h'=>NB G 300 h' Z ((z-x)*(z-x)+(w-y)*(w-y)-q) 6640000000) (λK2 aG=>?_) λZ h1 l1 z1=>?_
 . unfold F.zdz;refine KC.new λp h1 l1 hp=>?_
   refine zgk hc hp (hv.le l1) (hC.1.le l1) zD λZ2 h2 m2 z2=>?_
   have l2:=Ja l1 m2;refine z9p hc (hp.le m2) z2 zD λZ3 h3 m3 z3=>?_
   have l3:=Ja l2 m3;refine MF hc (hp.le (Ja m2 m3)) z3 (hC.2.le l3) zD λZ4 h4 m4 z4=>?_
   exact(hp.le (Ja m2 (Ja m3 m4))).ld (zc rfl (aG _ _ (Ja l3 m4) (z4.mono zD)))
 exact zc rfl (H7 z1 (by rw[Yu];decide) λh2 l2=>hk _ _ (Ja l1 l2) rfl)
end
end Den
end

section
namespace Den
open Go Iv Pq
def LB(G:Re->Prop)(h:Hp)(L:ee)(a b c:Re):Prop:=NB G 300 h L.a a 102500000/\NB G 300 h L.b b 102500000/\NB G 300 h L.c c 109000000
def Re.nu:(1:Re)≠0:=λh=>absurd (Re.dh (h:Jn 1=Jn 0)) zD
def Re.sf{x:Re}(h:x≠0):x.inv≠0:=λhh=>by
 have:=Re.bI h;rw[hh,J0]at this;exact Re.nu this.symm
section
variable {W:aF}{L:ee}{p:Addr}{w a b c:Re}{KL:zY (ee × Int)}
def LB.le(hx:LB G h L a b c)(hl:h.le h'):LB G h' L a b c:=⟨hx.1.le hl,hx.2.1.le hl,hx.2.2.le hl⟩
def Am(hp:KC h p)(H:KN X h):za (F.Zx (some p) X 0) KN h:=by
 refine zw _ (λK' hk=>?_) H;unfold F.Zx;refine zj (λ_ h'=>h'=h) (λ_ h' e=>by rw[e];exact hp.ld (zc rfl hk)) ?_;exact hp.ld (zk rfl (hp.st rfl))
def zm1(hp:KC h p)(H:K1 V h):za (F.Vs (some p) V 0) K1 h:=by
 refine zw _ (λK' hk=>?_) H;unfold F.Vs;refine zj (λ_ h'=>h'=h) (λ_ h' e=>by rw[e];exact hp.ld (zc rfl hk)) ?_;exact hp.ld (zk rfl (hp.st rfl))
def Z3u(hc:Ctx G 300 N)(hp:KC h p)(hv:VB G 300 h V x y 1600000)(hw:VB G 300 h W z w 3200001)(h0:¬(z=0/\w=0))
 (H:∀L f h',h.le h'->f≠0->LB G h' L (z*f) (w*f) ((x*z+y*w)*f)->KL (L,0) h'):za (F.z47 (some p) V W) KL h:=by
 refine Y0 (λL h'=>∃f,f≠0/\LB G h' L (z*f) (w*f) ((x*z+y*w)*f)) (λK' hk=>?_) λL h' hl ⟨f,hf,hL⟩=>H L f h' hl hf hL
 unfold F.z47;refine MD hc hv hw zD λZ1 h1 l1 z1=>?_
 have z1:=z1.mono (k:=9600003) zD;refine Am (hp.le l1) ?_;refine zj (λst h'=>h1.le h'/\∃t,t≠0/\NB G 300 h' ⟨st.1.1,st.1.2.1⟩ t 3200001) (λst h2 hj=>?_) ?_
 . obtain⟨m2,t,ht,zt⟩:=hj;have l2:=Ja l1 m2;refine ZC hc (hw.1.le l2) zt ht zD λZ5 h3 m3 z5=>?_
   have l3:=Ja l2 m3;refine Am (hp.le l3) ?_;refine ZC hc (hw.2.le l3) (zt.le m3) ht zD λZ7 h4 m4 z7=>?_
   have l4:=Ja l3 m4;refine Am (hp.le l4) ?_;refine ZC hc (z1.le (Ja m2 (Ja m3 m4))) (zt.le (Ja m3 m4)) ht zD λZ9 h5 m5 z9=>?_
   have l5:=Ja l4 m5;refine Am (hp.le l5) ?_;refine(hp.le l5).ld (zc rfl (hk _ _ l5 ⟨t.inv,Re.sf ht,?_⟩));exact⟨(z5.le (Ja m4 m5)).mono zD,(z7.le m5).mono zD,z9.mono zD⟩
 . refine H7 (hw.1.le l1) (by rw[Yu];decide) λh2 m2=>Zs (λhh=>?_) λhh=>?_
   . have hz:z=0:=Qj.1 hh;exact⟨m2,w,λhw0=>h0 ⟨hz,hw0⟩,hw.2.le (Ja l1 m2)⟩
   exact⟨m2,z,λjd=>hh (by rw[jd];exact xk),hw.1.le (Ja l1 m2)⟩
def zir(hc:Ctx G 300 N)(hv:VB G 300 h V x y 1600000)(hw:VB G 300 h W z w 1600000)(h0:¬(x=z/\y=w))
 (H:∀L f h',h.le h'->f≠0->LB G h' L ((w-y)*f) (-(z-x)*f) ((x*(w-y)+y*-(z-x))*f)->KL (L,0) h'):za (F.QU V W) KL h:=by
 refine Y0 (λL h'=>∃f,f≠0/\LB G h' L ((w-y)*f) (-(z-x)*f) ((x*(w-y)+y*-(z-x))*f)) (λK' hk=>?_) λL h' hl ⟨f,hf,hL⟩=>H L f h' hl hf hL
 unfold F.QU;refine zhf hc hv hw zD (λh1 l1 e=>absurd e h0) λh1 l1 _=>zc rfl ?_
 refine KC.new λp h2 m2 hp=>?_
 have l2:=Ja l1 m2;refine Eh hc (hw.le l2) (hv.le l2) zD λZ3 h3 m3 z3=>?_
 have l3:=Ja l2 m3;refine zm1 (hp.le m3) ?_;have z3:=z3.mono (u:=3200001) zD;refine zb (λZ h'=>VB G 300 h' Z (w-y) (-(z-x)) 3200001) (λK2 aG=>?_) λZ5 h5 m5 z5=>?_
 . unfold F.zjj;exact XT z3.1 zD λZ h4 m4 z4=>aG _ _ m4 ⟨z3.2.le m4,z4⟩
 . refine Z3u hc (hp.le (Ja m3 m5)) (hv.le (Ja l3 m5)) z5 (λhh=>h0 ?_) λL f h6 m6 hf hL=>hk _ _ (Ja l3 (Ja m5 m6)) ⟨f,hf,hL⟩
   have e1:=U9.1 hh.1;have e2:=U9.1 (Re.neg_eq_zero hh.2);exact⟨e2.symm,e1.symm⟩
def zt4(hc:Ctx G 300 N)(hL:LB G h L a b c)(hv:VB G 300 h V x y 1600000)(h0:a*a+b*b≠0)
 (H:∀Z h',h.le h'->VB G 300 h' Z (x-a*((a*x+b*y-c)*(a*a+b*b).inv)) (y-b*((a*x+b*y-c)*(a*a+b*b).inv)) 13200000000->KV (Z,0) h'):za (F.QV L V) KV h:=by
 refine Y0 _ (λK' hk=>?_) H;unfold F.QV;refine Y0 (λZ h'=>VB G 300 h' Z (x-a*((a*x+b*y-c)*(a*a+b*b).inv)) (y-b*((a*x+b*y-c)*(a*a+b*b).inv)) 13200000000) (λK2 aG=>?_) λZ h1 l1 z1=>hk _ _ l1 z1
 unfold F.zea;refine KC.new λp h1 l1 hp=>?_
 have nrm:∀{h':Hp} {KV':aF->Hp->Prop},KV' ⟨L.a,L.b⟩ h'->za (F.GF L) KV' h':=λcw=>zw _ (λK3 cw=>by unfold F.GF;exact cw) cw
 refine zb (λZ h'=>NB G 300 h' Z ((a*x+b*y-c)*(a*a+b*b).inv) 13028000000) (λK3 cw=>?_) λZ2 h2 m2 z2=>?_
 . unfold F.z5r;refine nrm ?_;have nb:VB G 300 h1 ⟨L.a,L.b⟩ a b 102500000:=⟨hL.1.le l1,hL.2.1.le l1⟩;refine MD hc nb (hv.le l1) zD λZ2 h2 m2 z2=>?_
   refine Am (hp.le m2) ?_;refine ZB hc z2 (hL.2.2.le (Ja l1 m2)) zD (z2.sz.sub hL.2.2.sz) λZ4 h4 m4 z4=>?_
   have n4:=Ja m2 m4;refine Am (hp.le n4) ?_;refine zfn hc (nb.le n4) zD λZ6 h6 m6 z6=>?_
   have n6:=Ja n4 m6;refine Am (hp.le n6) ?_;refine ZC hc (z4.le m6) z6 h0 zD λZ8 h8 m8 z8=>?_
   have n8:=Ja n6 m8;exact Am (hp.le n8) (cw _ _ n8 (z8.mono zD))
 . have l2:=Ja l1 m2;refine zit (G:=G) (S:=300) zD zD λZ3 h3 m3 z3=>?_
   refine Iq hc (z2.le m3) z3 zD λZ4 h4 m4 z4=>?_
   have n4:=Ja m2 (Ja m3 m4);have e1:∀t:Re,t*Jn ((1:Int):Rat)=t:=λt=>Re.mul_one t
   rw[e1]at z4;refine Am (hp.le n4) (nrm ?_);have l4:=Ja l1 n4;refine Z28 hc (V:=⟨L.a,L.b⟩) ⟨hL.1.le l4,hL.2.1.le l4⟩ z4 zD λZ7 h7 m7 z7=>?_
   have n7:=Ja n4 m7;refine zm1 (hp.le n7) ?_;refine Eh hc (hv.le (Ja l1 n7)) z7 zD λZ9 h9 m9 z9=>?_
   have n9:=Ja n7 m9;refine zm1 (hp.le n9) ?_;refine Y0 (λZ h'=>VB G 300 h' Z (x-a*((a*x+b*y-c)*(a*a+b*b).inv)) (y-b*((a*x+b*y-c)*(a*a+b*b).inv)) 13200000000) (λK4 jP=>?_) λZ aZ oJ qK=>aG _ _ (Ja l1 (Ja n9 oJ)) qK
   unfold F.z6y;exact(hp.le n9).ld (zc rfl (jP _ _ (Jf _) (z9.mono zD)))
def Zo0(hc:Ctx G 300 N)(hL:LB G h L a b c)(hv:VB G 300 h V x y 26500000000)(H:∀r h',h.le h'->(r=true↔a*x+b*y=c)->Kb r h'):za (F.zol L V) Kb h:=by
 refine zb _ (λK' hk=>?_) H;unfold F.zol;refine KC.new λp h1 l1 hp=>?_
 refine zw (⟨L.a,L.b⟩:aF) (λK3 cw=>by unfold F.GF;exact cw) ?_;refine MD hc (V:=⟨L.a,L.b⟩) ⟨hL.1.le l1,hL.2.1.le l1⟩ (hv.le l1) zD λZ2 h2 m2 z2=>?_
 refine Am (hp.le m2) ((hp.le m2).ld (zk rfl ?_));have l2:=Ja l1 m2;exact zgq hc z2 (hL.2.2.le l2) zD (λh3 m3 e=>hk _ _ (Ja l2 m3) ⟨λ_=>e,λ_=>rfl⟩) λh3 m3 e=>hk _ _ (Ja l2 m3) ⟨λhh=>absurd hh zD,λhh=>absurd hh e⟩
end
end Den
end

section
namespace Den
open Go Iv Pq
section
variable {B s:Nat}{b l:Sl}{q:List Rat}{T:zV}{X:aC}
def OL.push{G:(aC->Hp->Prop)->Hp->Prop}(ho:OL h0 h B l p)(hlen:p.length<=65536)(hv:BR B v)(hc:∀D,h0.le D->za G (λz D'=>NR D' z v) D)(H:∀y h',OL h0 h' B y (p++[v])->K y h') :
 za G (λz h1=>Qg 4 64 [.bool false,zN,.bool false,zN] l 1 [.bool z.num.neg,.slice z.num.ah.a z.num.ah.len z.num.ah.cap,.bool z.den.neg,.slice z.den.ah.a z.den.ah.len z.den.ah.cap] K h1) h:=by
 obtain⟨D,hD,od⟩:=ho;refine od.call (K1:=λz D'=>NR D' z v) (hc D hD) λz D' h4 g1 HY hz=>?_
 exact HY.app zO hz hv λy h5 o5=>H y h5 ⟨D',Ja hD g1,o5⟩
def OL.nil:OL h h B zd []:=⟨h,Jf _,OD.nil⟩
def zon{K:Addr->Hp->Prop}(hx:NR h X v)(hv:BR B v)(H:∀A h',OL h h' B ⟨some A,1,1⟩ [v]->K A h') :
 Ys [.bool X.num.neg,.slice X.num.ah.a X.num.ah.len X.num.ah.cap,.bool X.den.neg,.slice X.den.ah.a X.den.ah.len X.den.ah.cap] K h:=by
 refine Qv (n:=1) (size:=4) (cells:=qc X) rfl λbb h2 _ ho=>H _ _ ⟨h,Jf _,[X],by simpa using ho,rfl,λk k1 k2=>?_⟩
 have:k=0:=by simp at k1;omega
 subst this;exact⟨hx,hv⟩
def Z9e{K:Addr->Hp->Prop}(H:∀A h',OD h h' B ⟨some A,0,0⟩ []->K A h'):Ys [] K h:=
 Qv (n:=0) (size:=4) rfl λbb h2 _ ho=>H _ _ ⟨[],ho,rfl,λk k1 _=>by simp at k1⟩
def Zz1{t:Sl}{p:List Rat}{m:Sl}(ht:t.len=n)(hn:n<=16)(hB:1<=B)(ho:OL h0 h B m p)(hp:p.length<=2 ^ n)(H:∀y h',OL h0 h' B y (kL (2 ^ n) p)->K y h') :
 zx (S:=Sl×Unit) (λs2 k3 h2=>(0<=((t.len:Int):Int)/\(ak (decide ((s2.1.len:Int)<(i64.wrap (1*2 ^ (min ((t.len:Int):Int).toNat i64.bits)))))
  (za (F.yh 0) (λr4 h3=>(Qg 4 64 [.bool false,zN,.bool false,zN] s2.1 1 [.bool r4.num.neg,.slice r4.num.ah.a r4.num.ah.len r4.num.ah.cap,.bool r4.den.neg,.slice r4.den.ah.a r4.den.ah.len r4.den.ah.cap] (λw5 h4=>(k3 (w5,()) h4)) h3)) h2)
  (K s2.1 h2)))) (m,()) h:=by
 have hr:=Xn hn;rw[ht,uu hn];refine Za (λst h'=>∃k:Nat,OL h0 h' B st.1 (p++Zt k)/\p.length+k<=2 ^ n) (λst=>2 ^ n-st.1.len) ⟨0,by simpa [Zt] using ho,hp⟩ ?_;rintro⟨l,_⟩ h2 ⟨k,ho,aG⟩;have hl:l.len=p.length+k:=by
  have:=ho.len;rw[Jq,Yh]at this;exact this
 refine⟨zO,zg (λh3=>?_) (λh3=>?_)⟩
 . simp only at h3;refine ho.push (v:=0) (by rw[Jq,Yh];omega) (Vk.mono hB) (λD hD=>Y3 zD zD λz h' _ hz=>hz) λy2 h5 o5=>⟨⟨k+1,?_,zO⟩,?_⟩
   . have e:p++Zt (k+1)=p++Zt k++[0]:=by simp only[Zt];rw[List.replicate_succ',J8]
     rw[e];exact o5
   . have:=o5.len;simp only[Jq,Yh,List.length_singleton]at this |-
     omega
 . simp only at h3;refine H _ _ ?_;have e:kL (2 ^ n) p=p++Zt k:=by unfold kL;congr 2;omega
   rw[e];exact ho
def ziw(ht:t.len=n)(hn:n<=16)(hx:NR h X v)(bx:BR B v)(hB:1<=B)(H:∀y h',OL h h' B y (rR (2 ^ n) v)->K y h'):za (F.Qn t X) K h:=by
 refine zb (λy h'=>OL h h' B y (rR (2 ^ n) v)) (λK' hk=>?_) λy h' _ hy=>H y h' hy
 unfold F.Qn;refine zon hx bx λA h1 o1=>?_
 exact Zz1 ht hn hB o1 (J7 n) λy h2 o2=>hk _ _ o2.hle o2
def zrf(ht:t.len=n)(hn:n<=16)(ha:PL h B a p)(hB:1<=B)(hp:p.length<=2 ^ n)(H:∀y h',OL h h' B y (kL (2 ^ n) p)->K y h'):za (F.O8 t a) K h:=by
 refine zb (λy h'=>OL h h' B y (kL (2 ^ n) p)) (λK' hk=>?_) λy h' _ hy=>H y h' hy
 unfold F.O8;have hr:=Xn hn;refine Z9e (B:=B) λA h1 o1=>?_
 refine o1.rS (ha.le (Jf _)) rfl (by simp;omega) λw h2 o2=>?_
 exact Zz1 ht hn hB ⟨h,Jf _,by simpa using o2⟩ hp λy h3 o3=>hk _ _ o3.hle o3
def PL.getM{i:Int}{K:Sl->Prop}(k:Nat)(hp:PL h B l p)(hi:i=k)(hk:k<p.length)(H:∀x:aC,NR h x p[k]->K x.num.ah):zi l i 4 λa=>aB .sl ((a.add 0).add 1) (λx=>K x) h:=by
 have:=hp.get (K:=λ_ x1 _ _=>K x1) k hi hk λx hx _=>H x hx
 obtain⟨h1,h2,h3⟩:=this;refine⟨h1,h2,?_⟩;cases ha:l.a with
 | none=>rw[ha]at h3;exact h3
 | some a=>
   rw[ha]at h3;obtain⟨_,_,x1,h4,_,_,x3,_,h5⟩:=h3;refine⟨x1,?_,h5⟩;rw[Vw (a.add _) 0 1,Nat.zero_add];exact h4
def zwc{x:aC}(hx:NR h x v):0<x.num.ah.len↔v≠0:=by
 have:=hx.1.rF;constructor
 . intro h1 h2;rw[h2]at this;simp at this;omega
 . intro h1;have h2:v.num≠0:=λhh=>h1 (Rat.num_eq_zero.1 hh)
   rw[decide_eq_false h2]at this;simp at this;have h3:=hx.1.len;have h4:(dg v.num.natAbs).length≠0:=λhh=>h2 (Int.natAbs_eq_zero.1 (sH.1 (Ju.1 hh)))
   omega
def pO(ha:PL h B a p)(hlen:p.length<=65536)(H:Kb (qJ p) h):za (F.Db a) Kb h:=by
 refine zw _ (λK' hk=>?_) H;unfold F.Db;rw[ha.len];refine Y8 (n:=p.length) zO (λi h'=>h'=h/\qJ (p.take i)=true) ⟨rfl,rfl⟩ ?_;rintro i h2 hi ⟨hh,hz⟩ k ck;subst hh;refine zg (λh3=>?_) (λh3=>?_)
 . have aA:i<p.length:=by have:(i:Int)<(p.length:Int):=h3;omega
   refine ha.getM i rfl aA λu hu=>?_
   have hlp:=zwc hu;refine zg (λh4=>?_) (λh4=>?_)
   . have:qJ p=false:=by
      cases hb:qJ p with
      | false=>rfl
      | true=>exact absurd (by simpa using (J1.1 hb) _ (Jy aA)) (hlp.1 zO)
     rw[this]at hk;exact hk
   . refine ck _ aA ⟨rfl,?_⟩;unfold qJ at hz |-
     rw[Jc aA,List.all_append,hz];have:p[i]=0:=Uu λhh=>h4 (by have:=hlp.2 hh;omega)
     simp[this]
 . have:i=p.length:=by have:¬(i:Int)<(p.length:Int):=h3;omega
   subst this;rw[J5]at hz;rw[hz]at hk;exact hk
def MJ(ht:TW h B S t T)(ha:EV h S T x s a)(H1:x=0->Kb true h)(H0:x≠0->Kb false h):za (F.Db a) Kb h:=by
 obtain⟨p,hp,lp,rfl,sp⟩:=ha;have eO:=ja ht.high;refine pO hp (by rw[lp];omega) ?_;cases hz:qJ p with
 | true=>exact H1 (by rw[HS.1 hz,uq])
 | false=>
   refine H0 λhh=>?_
   have:=Mj ht.red lp hh;rw[<-lp]at this;rw[HS.2 this]at hz;cases hz
def zk0(ha:PL h A a p)(hb:PL h B b q)(fC:p.length=q.length)(hlen:p.length<=65536)(hA:A<=400000000000)(hB:B<=400000000000)(hC:∀v∈ef p q,BR C v)
 (H:∀y h',OL h h' C y (ef p q)->K y h'):za (F.yX t a b) K h:=by
 refine zb (λy h'=>OL h h' C y (ef p q)) (λK' hk=>?_) λy h' _ hy=>H y h' hy
 unfold F.yX;have lp:(ef p q).length=p.length:=Ye rfl fC.symm;rw[ha.len];refine ur (n:=p.length) zO (λi l h'=>OL h h' C l ((ef p q).take i)) OL.nil ?_;rintro i l h2 hi hI k aG;have l1:((ef p q).take i).length=i:=by rw[Jk,lp];omega
 refine zg (λh3=>?_) (λh3=>?_)
 . have aA:i<p.length:=by have:(i:Int)<(p.length:Int):=h3;omega
   refine ha.cT i hI.hle rfl aA λu hu bu=>?_
   refine hb.cT i hI.hle rfl zO λv hv bv=>?_
   refine hI.push (v:=p[i]+q[i]'zO) (by rw[l1];omega) (hC _ (by
    have:(ef p q)[i]'zO=p[i]+q[i]'zO:=by simp[ef]
    rw[<-this];exact Jy _)) (λD hD=>Z6h (hu.le hD) (hv.le hD) bu bv hA hB λz h' _ hz=>hz) λy h' hp=>aG _ _ aA ?_
   rw[zuh fC aA];exact hp
 . have:i=p.length:=by have:¬(i:Int)<(p.length:Int):=h3;omega
   subst this;rw[<-lp,J5]at hI;exact hk _ _ hI.hle hI
def Z6q(ha:PL h A a p)(hlen:p.length<=65536)(hA:A<=400000000000)(H:∀y h',OL h h' A y (kK p)->K y h'):za (F.A8 t a) K h:=by
 refine zb (λy h'=>OL h h' A y (kK p)) (λK' hk=>?_) λy h' _ hy=>H y h' hy
 unfold F.A8;have lp:(kK p).length=p.length:=DW rfl;rw[ha.len];refine ur (n:=p.length) zO (λi l h'=>OL h h' A l ((kK p).take i)) OL.nil ?_;rintro i l h2 hi hI k aG;have l1:((kK p).take i).length=i:=by rw[Jk,lp];omega
 refine zg (λh3=>?_) (λh3=>?_)
 . have aA:i<p.length:=by have:(i:Int)<(p.length:Int):=h3;omega
   refine ha.cT i hI.hle rfl aA λu hu bu=>?_
   refine hI.push (v:=-p[i]) (by rw[l1];omega) bu.neg (λD hD=>Z6l (hu.le hD) bu zO λz hz=>hz) λy h' hp=>aG _ _ aA ?_
   have e:(kK p).take (i+1)=(kK p).take i++[-p[i]]:=by
    rw[Jc zO];simp[kK]
   rw[e];exact hp
 . have:i=p.length:=by have:¬(i:Int)<(p.length:Int):=h3;omega
   subst this;rw[<-lp,J5]at hI;exact hk _ _ hI.hle hI
def ZG(ht:TW h B S t T)(hx:NR h X v)(bx:BR s v)(H:∀z h',bQ h h' S T (Jn v) s z->K z h'):za (F.Qn t X) K h:=by
 have hn:=ht.high;exact ziw ht.len zO hx (bx.mono (Nat.le_add_right _ (CO S))) (by unfold CO;omega) λz h2 o=>H _ _ ⟨_,o,WX (J7 _) _,WY v,bx.sz⟩
def zld(ht:TW h B S t T)(ha:EV h S T x s a)(hb:EV h S T y u b)(aD:s+u+(200*S+13)<=300000000000){k:Nat}(hk:Sz (x+y) k){t':Sl}(H:∀z h',bQ h h' S T (x+y) k z->K z h'):za (F.yX t' a b) K h:=by
 have eO:=ja ht.high;obtain⟨p,hp,lp,rfl,sp⟩:=ha;obtain⟨q,hq,lq,rfl,sq⟩:=hb;have hc:CO S<=200*S+13:=by unfold CO;omega
 have e:=sU lp lq;exact zk0 hp hq (by rw[lp,lq]) (by rw[lp];omega) zO zO (C:=k+CO S) (xm ht.red ht.small ht.high (Ye lp lq) (by rw[e];exact hk)) λz h2 o=>H _ _ ⟨_,o,Ye lp lq,e,hk⟩
def ZH(hn:T.length<=4)(ha:EV h S T x s a)(aD:s+(200*S+13)<=300000000000){t':Sl}(H:∀z h',bQ h h' S T (-x) s z->K z h'):za (F.A8 t' a) K h:=by
 obtain⟨p,hp,lp,rfl,sp⟩:=ha;have eO:=ja hn;have hc:CO S<=200*S+13:=by unfold CO;omega
 exact Z6q hp (by rw[lp];omega) zO λz h2 o=>H _ _ ⟨_,o,DW lp,zxy lp,sp.neg⟩
def Z0u(ht:TW h B S t T)(ha:EV h S T x s a)(hb:EV h S T y u b)(aD:s+u+(200*S+13)<=300000000000){k:Nat}(hk:Sz (x-y) k){t':Sl}(H:∀z h',bQ h h' S T (x-y) k z->K z h'):za (F.PC t' a b) K h:=by
 refine zb (λz h'=>bQ h h' S T (x-y) k z) (λK' bP=>?_) λz h' hl hz=>H z h' hz
 unfold F.PC;refine ZH ht.high hb zO λz1 h1 e1=>?_
 refine zld (ht.le e1.hle) (ha.le e1.hle) e1.ev zO (by rw[<-Ub];exact hk) λz2 h2 e2=>bP _ _ (Ja e1.hle e2.hle) ?_
 rw[<-Ub]at e2;exact e2.base e1.hle
end
end Den
end

section
namespace Den
open Go Iv Pq
section
variable {B s:Nat}{b l:Sl}{q P Q:List Rat}{T:zV}
def EV.split(hT:RT (r :: T))(hS:TS S (r :: T))(hn:(r :: T).length<=4)(ha:EV h S (r :: T) x s a) :
 ∃u v,KT T u/\KT T v/\x=u+(tv T r).sqrt*v/\EV h S T u (s+CL S) (a.cut 0 (2 ^ T.length) 4)/\EV h S T v (s+CL S) (a.cut (2 ^ T.length) a.len 4) /\
  i64.wrap (((a.len:Int):Int).tdiv 2)=((2 ^ T.length:Nat):Int)/\(∀K:Sl->Prop,K (a.cut 0 (2 ^ T.length) 4)->ca a 0 ((2 ^ T.length:Nat):Int) 4 K) /\
  (∀K:Sl->Prop,K (a.cut (2 ^ T.length) a.len 4)->ca a ((2 ^ T.length:Nat):Int) (a.len:Int) 4 K):=by
 obtain⟨p,hp,lp,rfl,sp⟩:=ha;obtain⟨s1,s2⟩:=HT hT hS hn lp sp;have hl:=hp.len;have hc:=hp.cap;have jk:T.length<=3:=by simpa using hn
 have pU:=Xn (n:=T.length) zO;have xy:p.length=2 ^ (T.length+1):=by rw[lp,Ji]
 have hp3:p.length=2 ^ T.length+2 ^ T.length:=by rw[xy,Zm]
 have h9:∀N:Nat,N<=65536->i64.wrap (N:Int)=N:=λN hN=>aM zO
 refine⟨_,_,⟨_,Xa lp,rfl⟩,⟨_,Xs lp,rfl⟩,rfl,?_,?_,?_,λK hK=>Xg 0 (2 ^ T.length) rfl rfl (Jt _) zO hK,λK hK=>Xg (2 ^ T.length) a.len rfl rfl zO hc hK⟩
 . have:=hp.part (Jt (2 ^ T.length)) zO;exact pG hT.1 hS.1 zO (by simpa using this) (Xa lp) s1
 . have:=hp.part (lo:=2 ^ T.length) (hi:=a.len) zO zO;rw[Je (by simp;omega)]at this;exact pG hT.1 hS.1 zO this (Xs lp) s2
 rw[XI zO xy hl,h9 _ pU]
def Is(hT:RT (r :: T))(hS:TS S (r :: T))(hn:(r :: T).length<=4)(od:OD D h B l P)(hq:PL D C m Q)(l1:P.length=2 ^ T.length)(l2:Q.length=2 ^ T.length)(hv:tv T P+(tv T r).sqrt*tv T Q=z)(hz:Sz z k)(hD:h0.le D)
 (H:∀y h',bQ h0 h' S (r :: T) z k y->K y h'):iO m.a (m.len*4) (λvs=>Qg 4 64 [.bool false,zN,.bool false,zN] l m.len vs K h) h:=by
 have fl:(P++Q).length=2 ^ (r :: T).length:=Mh l1 l2;have fv:tv (r :: T) (P++Q)=z:=by rw[vj l1,hv]
 have fb:=xm hT hS hn fl (by rw[fv];exact hz);have eO:=ja (n:=T.length) (by simp at hn;omega);refine(od.re λv hv=>fb v (Jv _ hv)).rS (hq.re λv hv=>fb v (Ue _ hv)) rfl (by rw[l1,l2];omega) λw h' o=>H w h' ⟨_,⟨D,hD,o⟩,fl,fv,hz⟩
end
def Z0v:∀(fuel:Nat) {T:zV} {h:Hp} {B S s u:Nat} {t a b:Sl} {x y:Re} {K':Sl->Hp->Prop},T.length<fuel->TW h B S t T->EV h S T x s a->EV h S T y u b->s+u+KM S T.length<=300000000000 ->
 (∀z h',h.le h'->bQ h h' S T (x*y) (s+u) z->K' z h')->F.Qc fuel t a b K' h
 | 0,_,_,_,_,_,_,_,_,_,_,_,_,h0,_,_,_,_,_=>absurd h0 (Te _)
 | fuel+1,T,h,B,S,s,u,t,a,b,x,y,K',hf,ht,ha,hb,aD,hk=>by
   have key:∀{T:zV} {h:Hp} {B S s u:Nat} {t a b:Sl} {x y:Re} {K:Sl->Hp->Prop},T.length<fuel->TW h B S t T->EV h S T x s a->EV h S T y u b->s+u+KM S T.length<=300000000000 ->
    (∀z h',bQ h h' S T (x*y) (s+u) z->K z h')->za (F.Qc fuel t a b) K h:=λ{T h B S s u t a b x y K} g1 g2 g3 g4 g5 g6=>
    zb (λz h'=>bQ h h' S T (x*y) (s+u) z) (λK' hk=>Z0v fuel g1 g2 g3 g4 g5 hk) λz h' _ hz=>g6 z h' hz
   unfold F.Qc;have lY:Sz (x*y) (s+u):=ha.sz.mul hb.sz;have hts:=ht.len;have gu:CO S=64*S+5:=rfl;have fY:s+u+CO S<=300000000000:=by unfold KM at aD;omega
   refine Zs (λh0=>?_) (λh0=>?_)
   . have jS:T=[]:=Ju.1 zO;subst jS;obtain⟨p,hp,lp,rfl,sp⟩:=ha;obtain⟨q,hq,lq,rfl,sq⟩:=hb;obtain⟨c,rfl⟩:∃c,p=[c]:=U0.1 lp;obtain⟨d,rfl⟩:∃d,q=[d]:=U0.1 lq;refine hp.get 0 rfl zS λv hv bv=>?_
     refine hq.get 0 rfl zS λw hw bw=>?_
     simp only[Ud]at hv bv hw bw;refine Z6k hv hw bv bw zO zO λz h1 aP hz=>?_
     refine zon (B:=s+u+CO S) hz (Sz.br (q:=c*d) (s:=s+u) (by rw[G4];exact lY) (by unfold CO;omega)) λA h2 o2=>hk _ _ (Ja aP o2.hle) ⟨[c*d],o2.ky aP,rfl,G4 c d,lY⟩
   . cases T with
     | nil=>exact absurd (by rw[hts];rfl) h0
     | cons r T=>
     have hT:=ht.red;have hn:=ht.high;have jk:T.length<=3:=by simpa using hn
     have dk:T.length<fuel:=by simp at hf;omega
     have XJ:KM S (r :: T).length=KM S T.length+(33*S+2):=by
      unfold KM;rw[Ji,Nat.add_mul,Nat.one_mul];omega
     have jf:CL S=16*S+1:=rfl;have hcm:KM S T.length>=CO S:=Nat.le_add_right _ _;have hq:=Gq (.inr hT.2.2.1);obtain⟨u1,v1,ku1,kv1,hx,BY,DY,kD,MK,hiA⟩:=ha.split hT ht.small hn;obtain⟨u2,v2,ku2,kv2,hy,HV,BZ,abR,ML,hiB⟩:=hb.split hT ht.small hn;rw[kD];refine⟨zD,ht.kz λtw=>ht.mm λr' er=>hiA _ (hiB _ ?_)⟩;have er:EV h S T (tv T r) S r':=er;have HO:=Re.id6 _ _ u1 v1 u2 v2 hq;rw[<-hx,<-hy]at HO;have low:∀{K:Sl->Hp->Prop},(∀z h',bQ h h' S T (u1*u2) (s+CL S+(u+CL S)) z->K z h')->za (F.Qc fuel (t.cut 0 T.length 1) (a.cut 0 (2 ^ T.length) 4) (b.cut 0 (2 ^ T.length) 4)) K h:=λhK=>key dk tw BY HV zO hK
     refine MJ tw DY (λqC=>?_) (λqC=>?_)
     . refine MJ tw BZ (λjh=>?_) (λjh=>?_)
       . refine MK _ (ML _ (low λuy h5 gz=>?_));refine zj (λ_ _=>False) (λ_ _ hj=>hj.elim) (zk rfl (zk rfl ?_));obtain⟨P,⟨D,hD,od⟩,nP,vP,_⟩:=gz;refine od.call (K1:=λw D'=>NR D' w 0) (Y3 zD zD λw h' _ hw=>hw) λw D1 h6 d1 Co hw=>?_
         have l1:=Ja hD d1;refine Co.call (K1:=λz D'=>bQ D1 D' S T (Jn 0) 1 z) (ZG (s:=1) (tw.le l1) hw Vk λz h' e=>e) λz44 D2 h7 d2 ZI e44=>?_
         obtain⟨Q,oQ,nQ,vQ,_⟩:=e44;refine Is hT ht.small hn ZI oQ.pl nP nQ (z:=x*y) ?_ lY (Ja l1 d2) λy h8 e8=>hk _ _ e8.hle e8
         rw[vP,vQ,<-HO,qC,jh];simp only[Re.cC,J0,Re.zero_mul,Ua]
       . refine MK _ (ML _ (low λuy h5 gz=>?_));refine zj (λ_ h'=>h'=h5) (λ_ h6 hj=>?_) (zk rfl (zc rfl rfl));subst hj;refine zk rfl (MK _ (hiB _ ?_));obtain⟨P,⟨D,hD,od⟩,nP,vP,_⟩:=gz;refine od.call (K1:=λz D'=>bQ D D' S T _ _ z) (key dk (tw.le hD) (BY.le hD) (BZ.le hD) zO λz h' e=>e) λz21 D1 h7 d1 Co ZJ=>?_
         obtain⟨Q,oQ,nQ,vQ,_⟩:=ZJ;refine Is hT ht.small hn Co oQ.pl nP nQ (z:=x*y) ?_ lY (Ja hD d1) λy h8 e8=>hk _ _ e8.hle e8
         rw[vP,vQ,<-HO,qC];simp only[J0,Re.zero_mul,Ua]
     . refine MJ tw BZ (λjh=>?_) (λjh=>?_)
       . refine MK _ (ML _ (low λuy h5 gz=>?_));refine zj (λ_ h'=>h'=h5) (λ_ h6 hj=>?_) (zc rfl rfl);subst hj;refine zc rfl (zk rfl (hiA _ (ML _ ?_)));obtain⟨P,⟨D,hD,od⟩,nP,vP,_⟩:=gz;refine od.call (K1:=λz D'=>bQ D D' S T _ _ z) (key dk (tw.le hD) (DY.le hD) (HV.le hD) zO λz h' e=>e) λz26 D1 h7 d1 Co Ci=>?_
         obtain⟨Q,oQ,nQ,vQ,_⟩:=Ci;refine Is hT ht.small hn Co oQ.pl nP nQ (z:=x*y) ?_ lY (Ja hD d1) λy h8 e8=>hk _ _ e8.hle e8
         rw[vP,vQ,<-HO,jh];simp only[J0,Re.zero_mul,Ua,Re.zero_add]
       . refine MK _ (ML _ (low λuy h5 gz=>?_));have l5:=gz.hle;refine zj (λ_ h'=>h'=h5) (λ_ h6 hj=>?_) (zc rfl rfl);subst hj;refine zc rfl (zc rfl (hiA _ (hiB _ ?_)));refine key dk (tw.le l5) (DY.le l5) (BZ.le l5) zO λz31 h7 MM=>?_
         have l7:=Ja l5 MM.hle;refine key dk (tw.le l7) MM.ev (er.le l7) zO λz32 h8 Ej=>?_
         have l8:=Ja l7 Ej.hle;obtain⟨FE,uv,xn⟩:=KT.mul hT.1 ku1 kv2;obtain⟨Du,uw,xo⟩:=KT.mul hT.1 kv1 ku2;obtain⟨P16,o16,mv,v16,_⟩:=gz;obtain⟨P32,o32,MN,v32,_⟩:=Ej;have fl:(ef P16 P32++ef FE Du).length=2 ^ (r :: T).length:=Mh (Ye mv MN) (Ye uv uw);have fv:tv (r :: T) (ef P16 P32++ef FE Du)=x*y:=by
          rw[vj (Ye mv MN),sU mv MN,sU uv uw,v16,v32,xn,xo,<-HO]
         have fb:=xm hT ht.small hn fl (by rw[fv];exact lY);have eO:=ja (n:=T.length) zO;refine zk0 (o16.pl.le (Ja MM.hle o32.hle)) o32.pl (by rw[mv,MN]) (by rw[mv];omega) zO zO (C:=s+u+CO S) (λv hv=>fb v (Jv _ hv)) λMv h9 o33=>?_
         obtain⟨D,hD,od⟩:=o33;have lD:=Ja l8 hD;refine MK _ (hiB _ (hiA _ (ML _ ?_)));refine od.call (K1:=λz D'=>bQ D D' S T _ _ z) (key dk (tw.le lD) (BY.le lD) (BZ.le lD) zO λz h' e=>e) λz38 D1 aZ d1 Co YU=>?_
         have It:=Ja lD d1;refine Co.call (K1:=λz D'=>bQ D1 D' S T _ _ z) (key dk (tw.le It) (DY.le It) (HV.le It) zO λz h' e=>e) λz39 D2 bV d2 ZI Mw=>?_
         obtain⟨P38,o38,n38,v38,_⟩:=YU;obtain⟨P39,o39,n39,v39,_⟩:=Mw;have XM:P38=FE:=HN hT.1 n38 uv (v38.trans xn.symm);have q11:P39=Du:=HN hT.1 n39 uw (v39.trans xo.symm);subst XM q11;refine ZI.call (K1:=λz D'=>OL D2 D' (s+u+CO S) z (ef P38 P39)) (zk0 (o38.pl.le d2) o39.pl (by rw[n38,n39]) (by rw[n38];omega) zO zO (λv hv=>fb v (Ue _ hv)) λz h' o=>o) λz40 D3 cu d3 od3 o40=>?_
         refine Is hT ht.small hn od3 o40.pl (Ye mv MN) (Ye n38 n39) (z:=x*y) ?_ lY (Ja It (Ja d2 d3)) λy h8 e8=>hk _ _ e8.hle e8
         rw[<-fv,vj (Ye mv MN)]
section
variable {B s:Nat}{b:Sl}{T:zV}
def tj(ht:TW h B S t T)(ha:EV h S T x s a)(hb:EV h S T y u b)(aD:s+u+(200*S+13)<=300000000000)(H:∀z h',bQ h h' S T (x*y) (s+u) z->K z h'):za (F.Q4 t a b) K h:=by
 refine zb (λz h'=>bQ h h' S T (x*y) (s+u) z) (λK' hk=>?_) λz h' hl hz=>H z h' hz
 have XJ:=Z87 (S:=S) ht.high;exact⟨T.length+1,Z0v _ (G5 _) ht ha hb zO hk⟩
def zo3(ht:TW h B S t (r :: T))(ha:EV h S (r :: T) x s a)(aD:4*s+(300*S+50)<=300000000000)
 (H:∀u v z h',KT T u->KT T v->x=u+(tv T r).sqrt*v->bQ h h' S T (u*u-tv T r*(v*v)) (s+s) z->K z h'):za (F.PD t a) K h:=by
 refine zb (λz h'=>∃u v,KT T u/\KT T v/\x=u+(tv T r).sqrt*v/\bQ h h' S T (u*u-tv T r*(v*v)) (s+s) z) (λK' hk=>?_) λz h' _ ⟨u,v,h1,h2,h3,h4⟩=>H u v z h' h1 h2 h3 h4
 unfold F.PD;have hn:=ht.high;have jf:CL S=16*S+1:=rfl;obtain⟨u,v,ku,kv,hx,ec,ed,kD,lo,hi⟩:=ha.split ht.red ht.small hn;have hN:=Mp ht.red ku kv (hx▸ha.sz);rw[kD];refine⟨zD,ht.kz λtw=>ht.mm λr' er=>lo _ (lo _ (hi _ (hi _ ?_)))⟩;refine tj tw ec ec zO λz8 h1 e8=>?_
 have l1:=e8.hle;refine tj (tw.le l1) (ed.le l1) (ed.le l1) zO λz9 h2 e9=>?_
 have l2:=Ja l1 e9.hle;refine tj (tw.le l2) e9.ev (er.le l2) zO λqK h3 lg=>?_
 have l3:=Ja l2 lg.hle;have ec:v*v*tv T r=tv T r*(v*v):=Re.mul_comm _ _;rw[ec]at lg;refine Z0u (tw.le l3) (e8.ev.le (Ja e9.hle lg.hle)) lg.ev zO hN.2 λxr h4 sV=>hk _ _ (Ja l3 sV.hle) ⟨u,v,ku,kv,hx,sV.base l3⟩
end
end Den
end

section
namespace Den
open Go Iv Pq
section
variable {B s:Nat}{T:zV}
def EV.abx(hT:RT T)(hS:TS S T)(hn:T.length<=4)(he:EV h S T x s a)(hk:Sz x k):EV h S T x k a:=by
 obtain⟨p,hp,lp,rfl,sp⟩:=he;exact pG hT hS hn hp lp hk
end
def Z9n:∀(fuel:Nat) {T:zV} {h:Hp} {B S s:Nat} {t a:Sl} {x:Re} {K':Sl×Int->Hp->Prop},T.length<fuel->TW h B S t T->EV h S T x s a->x≠0->s*2 ^ (T.length+1)+(300*S+50)<=300000000000 ->
 (∀z h',h.le h'->bQ h h' S T x.inv (s*(2 ^ (T.length+1)-1)) z->K' (z,0) h')->F.Vg fuel t a K' h
 | 0,_,_,_,_,_,_,_,_,_,h0,_,_,_,_,_=>absurd h0 (Te _)
 | fuel+1,T,h,B,S,s,t,a,x,K',hf,ht,ha,iX,aD,hk=>by
   have key:∀{T:zV} {h:Hp} {B S s:Nat} {t a:Sl} {x:Re} {K:Sl×Int->Hp->Prop},T.length<fuel->TW h B S t T->EV h S T x s a->x≠0->s*2 ^ (T.length+1)+(300*S+50)<=300000000000 ->
    (∀z h',bQ h h' S T x.inv (s*(2 ^ (T.length+1)-1)) z->K (z,0) h')->za (F.Vg fuel t a) K h:=λ{T h B S s t a x K} g1 g2 g3 g4 g5 g6=>
    Y0 (λz h'=>bQ h h' S T x.inv (s*(2 ^ (T.length+1)-1)) z) (λK' hk=>Z9n fuel g1 g2 g3 g4 g5 λz h' hl e=>hk _ _ hl e) λz h' _ hz=>g6 z h' hz
   unfold F.Vg;have hts:=ht.len;have hinv:=Sz.inv ht.red ha.kt iX ha.sz;have gu:CO S=64*S+5:=rfl;refine Zs (λh0=>?_) (λh0=>?_)
   . have jS:T=[]:=Ju.1 zO;subst jS;obtain⟨p,hp,lp,rfl,sp⟩:=ha;obtain⟨c,rfl⟩:∃c,p=[c]:=U0.1 lp;have mD:c≠0:=λhh=>iX (by rw[hh];rfl)
     have e0:s*2 ^ (([]:zV).length+1)=s*2:=rfl;rw[e0]at aD;refine hp.getM 0 rfl zS λu hu=>Zs (λhh=>?_) λ_=>?_
     . have:=(zwc hu).2 (by simpa using mD);omega
     . refine hp.get 0 rfl zS λv hv bv=>?_
       simp only[Ud]at hv bv;refine Z6j hv bv zO (λhh=>mD (Rat.num_eq_zero.1 hh)) λz hz=>?_
       have ev:Jn c⁻¹=(Jn c).inv:=(Re.mV mD).symm;refine zon (B:=s*(2 ^ (([]:zV).length+1)-1)+CO S) hz (Sz.br (q:=c⁻¹) (s:=s*(2 ^ (([]:zV).length+1)-1)) (by rw[ev];exact hinv) zO) λA h2 o2=>hk _ _ o2.hle ⟨[c⁻¹],o2,rfl,ev,hinv⟩
   . cases T with
     | nil=>exact absurd (by rw[hts];rfl) h0
     | cons r T=>
     have hn:=ht.high;have jk:T.length<=3:=by simpa using hn
     have dk:T.length<fuel:=by simp at hf;omega
     have jf:CL S=16*S+1:=rfl;have e2:s*2 ^ ((r :: T).length+1)=2*s*2 ^ (T.length+1):=by rw[Ji,Uc 2 (T.length+1)];ac_rfl
     rw[e2]at aD;have uQ:2<=2 ^ (T.length+1):=(Jz zD (show 1<=T.length+1 by omega):2 ^ 1<=2 ^ (T.length+1));have h2s:2*s*2<=2*s*2 ^ (T.length+1):=Jr _ uQ;obtain⟨u,v,ku,kv,hx,ec,ed,kD,lo,hi⟩:=ha.split ht.red ht.small hn;have hN:=Mp ht.red ku kv (hx▸ha.sz);have rJ:=Z9h ht.red ku kv (hx▸iX);rw[kD];refine⟨zD,ht.kz λtw=>hi _ ?_⟩;refine MJ tw ed (λgU=>zk rfl (lo _ ?_)) (λgU=>zc rfl ?_)
     . have sb:x=u:=by rw[hx,gU,J0,Ua]
       have ec':=ec.abx (k:=s) tw.red tw.small tw.high (by rw[<-sb];exact ha.sz);have h3s:s*2 ^ (T.length+1)<=2*s*2 ^ (T.length+1):=Jm _ zO;refine key dk tw ec' (by rw[<-sb];exact iX) zO λxr h4 sV=>zc rfl ?_
       obtain⟨P,⟨D,hD,od⟩,nP,vP,_⟩:=sV;refine od.call (K1:=λw D'=>NR D' w 0) (Y3 zD zD λw h' _ hw=>hw) λw D1 h6 d1 Co hw=>?_
       have l1:=Ja hD d1;refine Co.call (K1:=λz D'=>bQ D1 D' S T (Jn 0) 1 z) (ZG (s:=1) (tw.le l1) hw Vk λz h' e=>e) λz44 D2 h7 d2 ZI e44=>?_
       obtain⟨Q,oQ,nQ,vQ,_⟩:=e44;refine Is ht.red ht.small hn ZI oQ.pl nP nQ (z:=x.inv) ?_ hinv (Ja l1 d2) λy h8 e8=>hk _ _ e8.hle e8
       rw[vP,vQ,<-sb];simp only[Re.cC,J0,Ua]
     . refine zo3 ht ha zO λu' v' z7 h7 HW HX oi e7=>?_
       obtain⟨q1,q2⟩:=KT.parts ht.red ku kv HW HX (hx.symm.trans oi);subst q1 q2;have l7:=e7.hle;have e3:(s+s)*2 ^ (T.length+1)=2*s*2 ^ (T.length+1):=by rw[Nat.two_mul]
       refine key dk (tw.le l7) e7.ev rJ (by rw[e3];exact aD) λz8 h8 e8=>zc rfl ?_
       have l8:=Ja l7 e8.hle;have e4:(s+s)*(2 ^ (T.length+1)-1)+(s+s)=2*s*2 ^ (T.length+1):=by
        rw[<-Nat.mul_succ,<-e3];congr 1;omega
       refine lo _ (hi _ ?_);refine tj (tw.le l8) (ec.le l8) e8.ev zO λqK aZ lg=>?_
       obtain⟨P10,⟨D,hD,xp⟩,qL,v10,_⟩:=lg;have lD:=Ja l8 hD;refine xp.call (K1:=λz D'=>bQ D D' S T _ _ z) (ZH tw.high (ed.le lD) zO λz h' e=>e) λxr XK bV g1 xt sV=>?_
       have It:=Ja lD g1;refine xt.call (K1:=λz D'=>bQ XK D' S T _ _ z) (tj (tw.le It) sV.ev (e8.ev.le (Ja hD g1)) zO λz h' e=>e) λXN D12 cu g2 xu D9=>?_
       obtain⟨P12,XO,tR,v12,_⟩:=D9;refine Is ht.red ht.small hn xu XO.pl qL tR (z:=x.inv) ?_ hinv (Ja It g2) λy cO mY=>hk _ _ mY.hle mY
       rw[v10,v12,hx,Re.neg_mul];exact ztv ht.red (hx▸iX) hN.1 rJ rfl
def Z0s:∀(fuel:Nat) {T:zV} {h:Hp} {B S s:Nat} {t a:Sl} {x:Re} {K':Int->Hp->Prop},T.length<fuel->TW h B S t T->EV h S T x s a->QS S s*2 ^ (T.length+1)+(300*S+50)<=300000000000 ->
 (∀h',h.le h'->K' (cm x) h')->F.Wz fuel t a K' h
 | 0,_,_,_,_,_,_,_,_,_,h0,_,_,_,_=>absurd h0 (Te _)
 | fuel+1,T,h,B,S,s,t,a,x,K',hf,ht,ha,aD,hk=>by
   have key:∀{T:zV} {h:Hp} {B S s:Nat} {t a:Sl} {x:Re} {K:Int->Hp->Prop},T.length<fuel->TW h B S t T->EV h S T x s a->QS S s*2 ^ (T.length+1)+(300*S+50)<=300000000000 ->
    (∀h',h.le h'->K (cm x) h')->za (F.Wz fuel t a) K h:=λ{T h B S s t a x K} g1 g2 g3 g4 g5=>
    zb (λz h'=>z=cm x) (λK' hk=>Z0s fuel g1 g2 g3 g4 λh' hl=>hk _ _ hl rfl) λz h' hl e=>by rw[e];exact g5 h' hl
   unfold F.Wz;have hts:=ht.len;refine Zs (λh0=>?_) (λh0=>?_)
   . have jS:T=[]:=Ju.1 zO;subst jS;obtain⟨p,hp,lp,rfl,sp⟩:=ha;obtain⟨c,rfl⟩:∃c,p=[c]:=U0.1 lp;have gu:CO S=64*S+5:=rfl;have hq:=Yu S s;have e0:QS S s*2 ^ (([]:zV).length+1)=QS S s*2:=rfl;rw[e0]at aD;refine hp.get 0 rfl zS λv hv bv=>?_
     simp only[Ud]at hv bv;refine zo1 hv bv zO ?_;have:=hk h (Jf _)
     rwa [show tv [] [c]=Jn c from rfl,Zkt]at this
   . cases T with
     | nil=>exact absurd (by rw[hts];rfl) h0
     | cons r T=>
     have hn:=ht.high;have jk:T.length<=3:=by simpa using hn
     have jf:CL S=16*S+1:=rfl;have hq:=Yu S s;have qF:=Yu S (s+CL S);have pd:=Yu S (s+s);have e2:QS S s*2 ^ ((r :: T).length+1)=2*QS S s*2 ^ (T.length+1):=by
      rw[Ji,Uc 2 (T.length+1)];ac_rfl
     rw[e2]at aD;have uQ:2<=2 ^ (T.length+1):=(Jz zD (show 1<=T.length+1 by omega):2 ^ 1<=2 ^ (T.length+1));have h4:2*QS S s*2<=2*QS S s*2 ^ (T.length+1):=Jr _ uQ;have h5:QS S (s+CL S)*2 ^ (T.length+1)<=2*QS S s*2 ^ (T.length+1):=Jm _ zO;have h6:QS S (s+s)*2 ^ (T.length+1)<=2*QS S s*2 ^ (T.length+1):=Jm _ zO;obtain⟨u,v,ku,kv,hx,ec,ed,kD,lo,hi⟩:=ha.split ht.red ht.small hn;have dk:T.length<fuel:=by simp at hf;omega
     have hs:=Re.iH ht.red.2.2.1;have kJ:=Gq (.inr ht.red.2.2.1);rw[kD];refine⟨zD,lo _ ⟨zD,hi _ (ht.kz λtw=>ht.kz λ_=>?_)⟩⟩;refine key dk tw ec zO λh7 l7=>?_
     refine key dk (tw.le l7) (ed.le l7) zO λh8 l8'=>?_
     have l8:=Ja l7 l8';refine zj (λ_ h9=>h9=h8/\cm v≠0/\cm u≠cm v) (λ_ h9 hj=>?_) ?_
     . obtain⟨e9,j1,j2⟩:=hj;subst e9;refine Zs (λcu=>?_) (λj3=>?_)
       . have:=hk h9 l8
         rwa [hx,zj2 hs cu]at this
       . refine ht.kz λ_=>?_
         refine zo3 (ht.le l8) (ha.le l8) zO λu' v' uy gi HW HX oi gz=>?_
         obtain⟨q1,q2⟩:=KT.parts ht.red ku kv HW HX (hx.symm.trans oi);subst q1 q2;have eO:=Ja l8 gz.hle;refine key dk (tw.le eO) gz.ev zO λdF B4=>?_
         have hr:=zlo hs kJ j1 j2 j3;have b3:=XD x;rw[<-hx]at hr;rw[<-hr,aM zO];exact hk _ (Ja eO B4)
     . refine Zs (λaZ=>?_) (λaZ=>?_)
       . have:=hk h8 l8
         rwa [hx,zj4 aZ]at this
       . refine Zs (λbV=>?_) (λbV=>⟨rfl,aZ,bV⟩);have:=hk h8 l8
         rwa [hx,zj3 hs bV]at this
section
variable {B s:Nat}{q:List Rat}{T:zV}{KE:zY (Sl × Int)}
def zjz{N:Nat}(ht:TW h B S t T)(hN:T.length<=N)(ha:EV h S T x s a)(iX:x≠0)(aD:s*2 ^ (N+1)+(300*S+50)<=300000000000)
 (H:∀z h',bQ h h' S T x.inv (s*(2 ^ (N+1)-1)) z->KE (z,0) h'):za (F.PH t a) KE h:=by
 refine Y0 (λz h'=>bQ h h' S T x.inv (s*(2 ^ (N+1)-1)) z) (λK' hk=>?_) λz h' _ hz=>H z h' hz
 have hp:2 ^ (T.length+1)<=2 ^ (N+1):=Jz zD zO;have pU:s*2 ^ (T.length+1)<=s*2 ^ (N+1):=Jr _ hp;refine⟨T.length+1,Z9n _ (G5 _) ht ha iX zO λz h2 bH e=>hk _ _ bH ?_⟩;obtain⟨P,o,n,v,sz⟩:=e;have hle:s*(2 ^ (T.length+1)-1)<=s*(2 ^ (N+1)-1):=Jr _ zO;exact⟨P,o.up zO,n,v,sz.mono hle⟩
def zjx(ht:TW h B S t T)(ha:EV h S T x s a)(aD:QS S s*32+(300*S+50)<=300000000000)(H:∀h',h.le h'->Ki (cm x) h'):za (F.PE t a) Ki h:=by
 refine zb (λz h'=>z=cm x) (λK' hk=>?_) λz h' hl e=>by rw[e];exact H h' hl
 have hn:=ht.high;have hp:2 ^ (T.length+1)<=2 ^ 5:=Jz zD zO;have:=Jr (QS S s) hp;have e:(2:Nat) ^ 5=32:=rfl;rw[e]at this;exact⟨T.length+1,Z0s _ (G5 _) ht ha zO λh' hl=>hk _ _ hl rfl⟩
def zo2{i:Int}(ha:PL h B a p)(hlen:p.length<=65536)(hB:B<=1000000000000)(hi:i=p.length)(H:∀h',h.le h'->Kb true h'):za (F.PF a i) Kb h:=by
 refine zb (λv h'=>v=true) (λK' hk=>?_) λv h' hl e=>by rw[e];exact H h' hl
 unfold F.PF;rw[ha.len,hi];refine Y8 (n:=p.length) zO (λi h'=>h.le h') (Jf _) ?_;rintro i h2 hi hle k ck;refine zg (λh3=>?_) (λh3=>?_)
 . have aA:i<p.length:=by have:(i:Int)<(p.length:Int):=h3;omega
   refine ha.cT i hle rfl aA λu hu bu=>?_
   have e1:=hu.1.len;have e2:=hu.2.len;have d1:=yj.2 bu.1;have d2:=yj.2 bu.2;exact zx1 (hu.ar.le hle) (by show u.num.ah.len<=_;omega) (by show u.den.ah.len<=_;omega) (λq h' hl _=>zc rfl (ck _ aA (Ja hle hl))) (λh' hl cW=>absurd ⟨_,hu.le hle⟩ cW)
 exact hk _ _ hle zS
def znu(ht:TW h B S t T)(H:∀h',h.le h'->Kb true h'):za (F.PG t) Kb h:=by
 refine zb (λv h'=>v=true) (λK' hk=>?_) λv h' hl e=>by rw[e];exact H h' hl
 unfold F.PG;have hn:=ht.high;have fA:=ht.bound;rw[ht.len];refine Y8 (n:=T.length) zO (λi h'=>h.le h') (Jf _) ?_;rintro i h2 hi hle k ck;refine zg (λh3=>?_) (λh3=>?_)
 . have aA:i<T.length:=by have:(i:Int)<(T.length:Int):=h3;omega
   refine(ht.mem.le hle).get i rfl aA λs hs=>?_
   have hl:=ht.red.lens i (by simpa using aA);have:=Xn (n:=i) zO;refine⟨zO,?_⟩;rw[uu zO];exact zo2 hs (by rw[hl];exact this) zO (by rw[hl]) λh' hl=>zc rfl (ck _ aA (Ja hle hl))
 exact hk _ _ hle rfl
def z9q(ht:TW h B S t T)(ha:EV h S T x s a)(hs:s+CO S<=1000000000000)(H:∀h',h.le h'->Kb true h'):za (F.FY t a) Kb h:=by
 refine zb (λv h'=>v=true) (λK' hk=>?_) λv h' hl e=>by rw[e];exact H h' hl
 unfold F.FY;have hn:=ht.high;obtain⟨p,hp,lp,_,_⟩:=ha;refine znu ht λh1 aP=>zk rfl ⟨zO,?_⟩
 rw[ht.len,uu zO];exact zo2 (hp.le aP) (by rw[lp];exact Xn zO) hs (by rw[lp]) λh2 bH=>hk _ _ (Ja aP bH) rfl
def Z64(ht:TW h B S t T)(hS:S<=100000)(H:∀h',h.le h'->Kb true h'):za (F.zep t) Kb h:=by
 refine zb (λz h'=>z=true) (λK' hk=>?_) λz h' hl e=>by rw[e];exact H h' hl
 unfold F.zep;have hn:=ht.high;have hq:=Yu S S;refine znu ht λh1 l1=>zc rfl ?_
 rw[ht.len];refine Y8 (n:=T.length) zO (λi h'=>h.le h') l1 ?_;rintro i h4 hi hle k ck;refine zg (λh5=>?_) (λh5=>?_)
 . have aA:i<T.length:=by have:(i:Int)<(T.length:Int):=h5;omega
   obtain⟨X,r,Y,hT,hY,hr⟩:=DZ (T:=T) (i:=i) (by simpa using aA);have rT:=ht.le hle;subst hT;have hc:=ht.mem.2;have hl:=ht.len;have tr:TW h4 B S (t.cut 0 (r :: Y).length 1) (r :: Y):=rT.below;have tw:TW h4 B S (t.cut 0 Y.length 1) Y:=TW.below (X:=X++[r]) (by rw[J8];exact rT);refine Xg 0 Y.length rfl zO (Jt _) (by simp at hl;omega) ?_;refine rT.mem.get i rfl aA λs hs=>?_
   rw[hr]at hs;refine zjx tw (tr.D0 hs) zO λh6 l6=>?_
   rw[Ws tr.red.2.2.1];exact zc rfl (ck _ aA (Ja hle l6))
 exact hk _ _ hle rfl
def zc4(ht:TW h B S t T)(ha:EV h S T x s a)(hS:S<=100000)(aD:QS S s*32+(300*S+50)<=300000000000)(H:∀h',h.le h'->Ki (cm x) h'):za (F.FZ t a) Ki h:=by
 refine zb (λz h'=>z=cm x) (λK' hk=>?_) λz h' hl e=>by rw[e];exact H h' hl
 unfold F.FZ;have hq:=Yu S s;refine zj (λ_ h'=>h.le h') (λ_ h1 l1=>?_) ?_;exact zjx (ht.le l1) (ha.le l1) aD λh2 l2=>hk _ _ (Ja l1 l2) rfl
 exact z9q ht ha (by unfold CO;omega) λh1 l1=>zc rfl (Z64 (ht.le l1) hS λh2 l2=>zc rfl (Ja l1 l2))
end
end Den
end

section
namespace Den
open Go Iv Pq
section
variable {B s:Nat}{b l:Sl}{q:List Rat}{T:zV}{KR:zY (aC × Bool)}{X:aC}
def Z0r(hx:NR h X v)(hq:BR k v)(hk:k<=1000000000000)(H1:∀z h' w,h.le h'->w*w=v->NR h' z w->KR (z,true) h')(H0:∀z h',h.le h'->(¬∃w:Rat,w*w=v)->KR (z,false) h') :
 za (F.zen X) KR h:=by
 refine zb (λz h'=>(z.2=true/\∃w,w*w=v/\NR h' z.1 w)\/(z.2=false/\¬∃w:Rat,w*w=v)) (λK' bP=>?_) λz h' hl e=>by
  obtain⟨z1,z2⟩:=z;rcases e with ⟨e,s,h1,h2⟩ | ⟨e,h1⟩
  simp only at e;subst e;exact H1 z1 h' s hl h1 h2;simp only at e;subst e;exact H0 z1 h' hl h1
 unfold F.zen;refine Zw (λgS=>?_) (λcI=>?_)
 . refine bP _ _ (Jf _) (.inr ⟨rfl,?_⟩);rintro⟨w,hw⟩;have h1:=(Wo hw).1;have h2:0<=w.num*w.num:=by rw[<-Int.natAbs_mul_self' w.num];exact Int.mul_nonneg (Int.natCast_nonneg _) (Int.natCast_nonneg _)
   have h3:=hx.1.2;rw[gS]at h3;have:=of_decide_eq_true h3.symm;omega
 . have lX:0<=v.num:=by
    have h3:=hx.1.2;rw[cI]at h3;have:=of_decide_eq_false h3.symm;omega
   obtain⟨N,hN⟩:∃N:Nat,v.num=(N:Int):=⟨v.num.toNat,zO⟩;have ZK:(dg v.num.natAbs).length<=1000000000000:=Jo (yj.2 hq.1) hk;have ok2:(dg v.den).length<=1000000000000:=by
    have:=yj.2 hq.2;rw[Jh]at this;exact Jo this hk
   have Eg:=hx.1;rw[hN,Jh]at ZK;rw[hN]at Eg;refine zrb Eg ZK λz1 h1 s l1 rH hs=>?_
   refine zrb (hx.2.le l1) ok2 λz2 h2 t l2 fB ht=>?_
   have bS:=Ja l1 l2;have okk:∀{s M:Nat},DJ M s->(dg M).length<=1000000000000->Ok (s:Int):=λ{s M} hs hM=>by
    have h5:s<=M:=Jo (Nat.le_mul_self s) hs.1;have:=qz h5;show(dg (Int.natAbs (s:Int))).length<=_;rw[Jh];omega
   have LI:∀{s M:Nat},DJ M s->(dg M).length<=1000000000000->Ok ((s:Int)*(s:Int)):=λ{s M} hs hM=>by
    have:=qz hs.1;show(dg (Int.natAbs ((s:Int)*(s:Int)))).length<=_;rw[<-Ug,Jh];omega
   refine zj (λ_ h'=>h.le h'/\h2.le h'/\s*s=N/\t*t=v.den) (λ_ h3 hj=>?_) ?_
   . obtain⟨l3,l3',hsN,htN⟩:=hj;refine bP _ _ l3 (.inl ⟨rfl,?_⟩);have t0:t≠0:=λhh=>by rw[hh]at htN;have:=v.den_pos;omega
     have gu:Nat.Coprime s t:=by
      have hr:=v.reduced;rw[hN,Jh,<-htN,<-hsN]at hr;exact Nat.Coprime.coprime_mul_right (Nat.Coprime.coprime_mul_right_right hr)
     refine⟨⟨(s:Int),t,t0,by rw[Jh];exact gu⟩,?_,rH.le (Ja l2 l3'),fB.le l3'⟩;obtain⟨p1,p2⟩:=Wo (w:=⟨(s:Int),t,t0,by rw[Jh];exact gu⟩) rfl;refine Rat.ext (p1.trans ?_) (p2.trans ?_)
     . show(s:Int)*(s:Int)=v.num;rw[hN,<-hsN,Ug]
     exact htN
   . refine X0 (rH.le l2) (rH.le l2) (okk hs ZK) (okk hs ZK) λy5 h4 l4 hy5=>?_
     refine ziy hy5 (Eg.le (Ja bS l4)) (LI hs ZK) ?_;by_cases e1:(s:Int)*(s:Int)=(N:Int)
     . rw[decide_eq_true e1];refine zc rfl ?_;refine X0 (fB.le l4) (fB.le l4) (okk ht ok2) (okk ht ok2) λy7 h6 l6 hy7=>?_
       refine ziy hy7 (hx.2.le (Ja bS (Ja l4 l6))) (LI ht ok2) ?_;by_cases e2:(t:Int)*(t:Int)=(v.den:Int)
       . rw[decide_eq_true e2];exact zc rfl ⟨Ja bS (Ja l4 l6),Ja l4 l6,by rw[<-Ug]at e1;exact Int.ofNat_inj.1 e1,by rw[<-Ug]at e2;exact Int.ofNat_inj.1 e2⟩
       . rw[decide_eq_false e2];refine zk rfl (bP _ _ (Ja bS (Ja l4 l6)) (.inr ⟨rfl,?_⟩));rintro⟨w,hw⟩;have h8:=Z71 ht (Wo hw).2.symm;exact e2 (by rw[h8,<-Ug,<-(Wo hw).2])
     . rw[decide_eq_false e1];refine zk rfl (bP _ _ (Ja bS l4) (.inr ⟨rfl,?_⟩));rintro⟨w,hw⟩;have h7:w.num.natAbs*w.num.natAbs=N:=by
        have:=(Wo hw).1;rw[hN,<-Int.natAbs_mul_self' w.num]at this
        exact_mod_cast this.symm
       have h8:=Z71 hs h7;exact e1 (by rw[h8,<-Ug,h7])
def zre(hT:RT (r :: T))(hS:TS S (r :: T))(hn:(r :: T).length<=4)(ha:EV h S T x s a)(hb:EV h S T y u b)(hz:Sz (x+(tv T r).sqrt*y) n)
 (H:∀z h',bQ h h' S (r :: T) (x+(tv T r).sqrt*y) n z->K z h'):za (F.Kr a b) K h:=by
 refine zb (λz h'=>bQ h h' S (r :: T) (x+(tv T r).sqrt*y) n z) (λK' hk=>?_) λz h' _ hz=>H z h' hz
 unfold F.Kr;obtain⟨p,hp,lp,rfl,sp⟩:=ha;obtain⟨q,hq,lq,rfl,sq⟩:=hb;have eO:=ja (n:=T.length) (by simp at hn;omega);refine Z9e (B:=s+CO S) λA h1 o1=>?_
 refine o1.rS hp rfl (by simp;omega) λw3 h2 o2=>?_
 exact Is hT hS hn (by simpa using o2) hq lp lq rfl hz (Jf _) λy h3 e3=>hk _ _ e3.hle e3
def Re.pP(a b c d:Re):a*b*(c*d)=a*c*(b*d):=by rw[Re.mul_assoc,Re.mul_left_comm b,<-Re.mul_assoc]
def Re.lN{w x:Re}(h:w*w=x):0<=x:=by rw[<-h];exact Re.bG w
end
def zjy:∀(fuel:Nat) {T:zV} {h:Hp} {B S s:Nat} {t a:Sl} {x:Re} {K':Sl×Bool->Hp->Prop},T.length<fuel->TW h B S t T->EV h S T x s a->S<=100000->PQ S s*(200*4 ^ T.length)<=300000000000 ->
 (∀z h' w,h.le h'->KT T w->w*w=x->bQ h h' S T w s z->K' (z,true) h')->(∀z h',h.le h'->¬Sq T x->K' (z,false) h')->F.qv fuel t a K' h
 | 0,_,_,_,_,_,_,_,_,_,h0,_,_,_,_,_,_=>absurd h0 (Te _)
 | fuel+1,T,h,B,S,s,t,a,x,K',hf,ht,ha,hS,aD,cy,gI=>by
   have key:∀{T:zV} {h:Hp} {B S s:Nat} {t a:Sl} {x:Re} {K:Sl×Bool->Hp->Prop},T.length<fuel->TW h B S t T->EV h S T x s a->S<=100000->PQ S s*(200*4 ^ T.length)<=300000000000 ->
    (∀z h' w,h.le h'->KT T w->w*w=x->bQ h h' S T w s z->K (z,true) h')->(∀z h',h.le h'->¬Sq T x->K (z,false) h')->za (F.qv fuel t a) K h:=λ{T h B S s t a x K} g1 g2 g3 g3' g4 g5 g6=>
    zb (λz h'=>(z.2=true/\∃w,KT T w/\w*w=x/\bQ h h' S T w s z.1)\/(z.2=false/\¬Sq T x))
     (λK' hk=>zjy fuel g1 g2 g3 g3' g4 (λz h' w hl k1 k2 k3=>hk _ _ hl (.inl ⟨rfl,w,k1,k2,k3⟩)) λz h' hl k1=>hk _ _ hl (.inr ⟨rfl,k1⟩)) λz h' hl hz=>by
     obtain⟨z1,z2⟩:=z;rcases hz with ⟨e,w,k1,k2,k3⟩ | ⟨e,k1⟩
     simp only at e;subst e;exact g5 z1 h' w hl k1 k2 k3;simp only at e;subst e;exact g6 z1 h' hl k1
   unfold F.qv;have hts:=ht.len;have jr:=xP S s;have jf:CL S=16*S+1:=rfl;have gu:CO S=64*S+5:=rfl;refine Zs (λh0=>?_) (λh0=>?_)
   . have jS:T=[]:=Ju.1 zO;subst jS;have e0:PQ S s*(200*4 ^ ([]:zV).length)=PQ S s*200:=rfl;rw[e0]at aD;obtain⟨p,hp,lp,rfl,sp⟩:=ha;obtain⟨c,rfl⟩:∃c,p=[c]:=U0.1 lp;refine hp.get 0 rfl zS λv hv bv=>?_
     simp only[Ud]at hv bv;refine Z0r hv bv zO (λz h1 w l1 hw hz=>?_) (λz h1 l1 cW=>?_)
     . have ew:Jn w*Jn w=tv [] [c]:=by rw[<-G4,hw];rfl
       have sw:Sz (Jn w) s:=sp.root ew;refine zon (B:=s+CO S) hz (Sz.br sw zO) λA h2 o2=>cy _ _ (Jn w) (Ja l1 o2.hle) ⟨[w],rfl,rfl⟩ ew ⟨[w],o2.ky l1,rfl,rfl,sw⟩
     . refine Mc (xs:=[z]) 1 rfl λA h2 l2 hr=>gI _ _ (Ja l1 l2) ?_
       rintro⟨w,⟨b,lb,hb⟩,hw⟩;obtain⟨d,rfl⟩:∃d,b=[d]:=U0.1 lb;refine cW ⟨d,Re.dh ?_⟩;rw[G4];have e:Jn d=w:=hb;rw[e,hw];rfl
   . cases T with
     | nil=>exact absurd (by rw[hts];rfl) h0
     | cons r T=>
     have hn:=ht.high;have jk:T.length<=3:=by simpa using hn
     have dk:T.length<fuel:=by simp at hf;omega
     have e4:PQ S s*(200*4 ^ (r :: T).length)=4*PQ S s*(200*4 ^ T.length):=by
      rw[Ji,Uc];ac_rfl
     rw[e4]at aD;have uQ:1<=4 ^ T.length:=Nat.pow_pos zD;have pU:4*PQ S s*200<=4*PQ S s*(200*4 ^ T.length):=Jr _ zO;have Ch:∀k,PQ S k<=4*PQ S s->PQ S k*(200*4 ^ T.length)<=300000000000:=λk hk=>Jo (Jm _ hk) aD
     have d1:=xP S (s+CL S);have d2:=xP S (s+CL S+S*15);have d3:=xP S (s+s);have d4:=xP S (1+(s+CL S+(s+s)+1));have dq:=Yu S s;have hK:KT T (tv T r):=⟨r,ht.red.2.1,rfl⟩;have po:=zxz ht.red;have hq:=Gq (.inr ht.red.2.2.1);obtain⟨u,v,ku,kv,hx,ec,ed,kD,lo,hi⟩:=ha.split ht.red ht.small hn;rw[kD];refine zc4 ht ha hS zO λh3 l3=>zg (λgS=>?_) (λ_=>?_)
     . refine gI _ _ l3 ?_;rintro⟨w,_,hw⟩;have h5:=qk.1 gS;rcases Re.lN hw with h6 | h6
       rw[<-h6]at h5;exact Gn _ h5;exact Gn _ (Re.lt_trans h6 h5)
     refine(ht.le l3).kz λtw=>(ht.le l3).mm λr' er=>⟨zD,lo _ (hi _ ?_)⟩
     have ec:=ec.le l3;have ed:=ed.le l3;refine Y3 zD zD λDu h4 l4 aby=>?_
     refine ZG (s:=1) (tw.le l4) aby Vk λXN h5 D9=>?_
     have m5:=Ja l4 D9.hle;have l5:=Ja l3 m5;have e0r:Jn ((0:Int):Rat)=0:=rfl;rw[e0r]at D9;refine MJ (tw.le m5) (ed.le m5) (λgU=>zk rfl ?_) (λgU=>zc rfl ?_)
     . have sb:x=u:=by rw[hx,gU,J0,Ua]
       refine key dk (tw.le m5) (ec.le m5) hS (Ch _ zO) (λqM h7 w m7 kw hw Ag=>zk rfl ?_) (λqM h7 m7 cW=>zc rfl ?_)
       . have ew:w+(tv T r).sqrt*0=w:=by rw[J0,Ua]
         have sw:Sz w s:=ha.sz.root (by rw[hw,sb]);have lx:=Ja l5 m7;refine zre (n:=s) ht.red ht.small hn Ag.ev (D9.ev.le m7) (by rw[ew];exact sw) λz8 h8 e8=>?_
         rw[ew]at e8;exact cy _ _ w (Ja lx e8.hle) kw.up (by rw[hw,sb]) (e8.base lx)
       . have n7:=Ja m5 m7;refine zjz (N:=3) (tw.le n7) jk (er.le n7) po zO λuy h9 gz=>?_
         have n9:=Ja n7 gz.hle;have mZ:S*(2 ^ (3+1)-1)=S*15:=rfl;rw[mZ]at gz;refine tj (tw.le n9) (ec.le n9) gz.ev zO λYQ aZ Mt=>?_
         have qL:=Ja n9 Mt.hle;refine key dk (tw.le qL) Mt.ev hS (Ch _ zO) (λIl bV w se kw hw e18=>zk rfl ?_) (λIl bV se m0=>zc rfl (gI _ _ (Ja l3 (Ja qL se)) ?_))
         . have lx:=Ja l3 (Ja qL se);have ew:(0:Re)+(tv T r).sqrt*w=(tv T r).sqrt*w:=Re.zero_add _;have YR:=Z9r ht.red hw;have sw:Sz ((tv T r).sqrt*w) s:=ha.sz.root (by rw[YR,sb]);refine zre (n:=s) ht.red ht.small hn (D9.ev.le (Ja m7 (Ja gz.hle (Ja Mt.hle se)))) e18.ev (by rw[ew];exact sw) λz8 h8 e8=>?_
           rw[ew]at e8;refine cy _ _ _ (Ja lx e8.hle) ?_ (by rw[YR,sb]) (e8.base lx);have:=(KT.zero (T:=T)).join (r:=r) kw
           rwa [Re.zero_add]at this
         . intro jn;rw[sb]at jn;rcases Z1h ht.red ku jn with h1 | h1
           exact cW h1;exact m0 h1
     . have hN:=Mp ht.red ku kv (hx▸ha.sz);refine tj (tw.le m5) (ec.le m5) (ec.le m5) zO λz20 cO e20=>?_
       have Ek:=Ja m5 e20.hle;refine tj (tw.le Ek) (ed.le Ek) (ed.le Ek) zO λz21 eG ZJ=>?_
       have El:=Ja Ek ZJ.hle;refine tj (tw.le El) (er.le El) ZJ.ev zO λz22 gh e22=>?_
       have Cp:=Ja El e22.hle;refine Z0u (tw.le Cp) (e20.ev.le (Ja ZJ.hle e22.hle)) e22.ev zO hN.2 λz23 gi YS=>?_
       have mv:=Ja Cp YS.hle;refine key dk (tw.le mv) YS.ev hS (Ch _ zO) (λz24 dF m Al km hm Mu=>zc rfl ?_) (λz24 dF Al cW=>zk rfl (gI _ _ (Ja l3 (Ja mv Al)) ?_))
       . have Em:=Ja mv Al;refine zgz (m:=1) (n:=2) zD zD zD zD zD λw25 fN MH ZL=>?_
         have abz:Jw 1 2=1/2:=by rw[Rat.divInt_eq_div];rfl
         rw[abz]at ZL;have b1:BR 1 (1/2:Rat):=by refine⟨?_,?_⟩<;>unfold Lt W<;>decide +kernel
         refine ZG (s:=1) (tw.le (Ja Em MH)) ZL b1 λz26 iV Ci=>?_
         have m19:=Ja MH Ci.hle;have n19:=Ja Em m19;have Iu:=Ja l3 n19;refine ur (n:=2) zD (λi l h'=>iV.le h'/\(∃y,EV h' S T y (s+s) l/\(i=0->y=m)/\(i=1->y=-m))/\(1<=i->¬Sq T (Jn (1/2)*(u+m)))/\(2<=i->¬Sq T (Jn (1/2)*(u-m))))
          ⟨Jf _,⟨m,Mu.ev.le m19,λ_=>rfl,λhh=>absurd hh zD⟩,λhh=>absurd hh zD,λhh=>absurd hh zD⟩ ?_
         rintro i l27 gX aA ⟨Cj,⟨y,ey,ov,GU⟩,YT,HQ⟩ k ck;refine zg (λh3=>?_) (λh3=>?_)
         . have da:i<2:=by have:(i:Int)<((2:Nat):Int):=h3;omega
           have tl:=Ja n19 Cj;have hyy:y*y=u*u-tv T r*(v*v):=by
            rcases Jx i 1 with h5 | h5
            rw[ov zO];exact hm;rw[GU zO,Re.ct];exact hm
           refine zld (tw.le tl) (ec.le tl) ey zO (k:=s+CL S+(s+s)+1) (ec.sz.add ey.sz) λz29 me MO=>?_
           have ZM:=Ja tl MO.hle;refine tj (tw.le ZM) (Ci.ev.le (Ja Cj MO.hle)) MO.ev zO λz30 u6 ZN=>?_
           have vw:=Ja ZM ZN.hle;refine key dk (tw.le vw) ZN.ev hS (Ch _ zO) (λz31 A9 p Cq kp hp MM=>zk rfl ?_) (λz31 A9 Cq cW=>zc rfl ?_)
           . have Iw:=Ja vw Cq;have nz:p≠0:=by
              intro hh;rw[hh,Re.zero_mul]at hp;have h7:u+y=0:=by
               rcases Gv hp.symm with h8 | h8
               exact absurd (Re.dh (h8.trans Re.cC.symm)) (by decide +kernel);exact h8
              have h9:y=-u:=Re.lj h7;rw[h9,Re.ct]at hyy;have aZ:tv T r*(v*v)=0:=by
               have bV:=U9.2 hyy;have cu:u*u-(u*u-tv T r*(v*v))=tv T r*(v*v):=by
                rw[Ub,Ub,Re.neg_add,Re.neg_neg,<-Re.add_assoc,Re.add_neg,Re.zero_add]
               rw[cu]at bV;exact bV
              rcases Gv aZ with cO | cO
              exact po cO;rcases Gv cO with eG | eG<;>exact gU eG
             have hj:(p+p)*(Jn (1/2)*p.inv)=1:=by
              rw[<-Re.two_mul,Re.pP,Re.bI nz,<-G4,Re.mul_one];have:(2:Rat)*(1/2)=1:=by decide +kernel
              rw[this];rfl
             refine zjz (N:=3) (tw.le Iw) jk MM.ev nz zO λz32 js Ej=>?_
             have mZ:∀k,k*(2 ^ (3+1)-1)=k*15:=λ_=>rfl
             rw[mZ]at Ej;have En:=Ja Iw Ej.hle;refine tj (tw.le En) (ed.le En) Ej.ev zO λMv u7 e33=>?_
             have MP:=Ja En e33.hle;refine tj (tw.le MP) (Ci.ev.le (Ja Cj (Ja MO.hle (Ja ZN.hle (Ja Cq (Ja Ej.hle e33.hle)))))) e33.ev zO λz34 Bj Ai=>?_
             have n26:=Ja MP Ai.hle;have eq1:Jn (1/2)*(v*p.inv)=v*(Jn (1/2)*p.inv):=Re.mul_left_comm _ _ _;rw[eq1]at Ai;have hw:(p+(tv T r).sqrt*(v*(Jn (1/2)*p.inv)))*(p+(tv T r).sqrt*(v*(Jn (1/2)*p.inv)))=x:=by
              rw[hx];exact zru hq hyy hp hj
             have lx:=Ja l3 n26;refine zre (n:=s) ht.red ht.small hn (MM.ev.le (Ja Ej.hle (Ja e33.hle Ai.hle))) Ai.ev (ha.sz.root hw) λz35 Ba Ck=>?_
             exact cy _ _ _ (Ja lx Ck.hle) (kp.join Ai.ev.kt) hw (Ck.base lx)
           . have Iw:=Ja vw Cq;have l23:=Ja Cj (Ja MO.hle (Ja ZN.hle Cq));refine ZH tw.high (ey.le (Ja MO.hle (Ja ZN.hle Cq))) zO λz36 pY e36=>ck _ _ da ⟨Ja l23 e36.hle,⟨-y,e36.ev,λhh=>absurd hh zO,λhh=>by rw[ov zO]⟩,λ_=>?_,λ_=>?_⟩
             . rcases Jx i 1 with h5 | h5
               rw[ov zO]at cW;exact cW;exact YT zO
             . rcases Jx i 1 with h5 | h5
               omega;rw[GU zO,<-Ub]at cW;exact cW
         . have:i=2:=by have:¬(i:Int)<((2:Nat):Int):=h3;omega
           subst this;refine gI _ _ (Ja Iu Cj) λjn=>?_
           rw[hx]at jn;obtain⟨p,kp,nz,hp⟩:=Z9q ht.red ku kv gU hm jn;rcases hp with hp | hp
           exact YT zD ⟨p,kp,hp⟩;exact HQ zD ⟨p,kp,hp⟩
       . intro jn;rw[hx]at jn;exact cW (Z9s ht.red ku kv jn)
end Den
end

section
namespace Den
open Go Iv Pq
section
variable {B s:Nat}{b l w:Sl}{q:List Rat}{ps qs:zV}{T:zV}
def Z6m(ht:TW h B S t T)(ha:EV h S T x s a)(hS:S<=100000)(hs:s<=S)(H1:∀z h',h.le h'->0<=x->Sq T x->bQ h h' S T x.sqrt s z->KB (z,true) h')(H0:∀z h',h.le h'->¬Sq T x->KB (z,false) h'):za (F.zer t a) KB h:=by
 refine zb (λz h'=>(z.2=true/\0<=x/\Sq T x/\bQ h h' S T x.sqrt s z.1)\/(z.2=false/\¬Sq T x)) (λK' hk=>?_) λz h' hl hz=>?_
 . unfold F.zer;have hq:=Yu S s;refine zb (λz h'=>(z.2=true/\∃w,KT T w/\w*w=x/\bQ h h' S T w s z.1)\/(z.2=false/\¬Sq T x)) (λK2 aG=>?_) λz h1 l1 hz=>?_
   exact⟨T.length+1,zjy _ (G5 _) ht ha hS (zwd hS hs ht.high) (λz h' w hl k1 k2 k3=>aG _ _ hl (.inl ⟨rfl,w,k1,k2,k3⟩)) λz h' hl k1=>aG _ _ hl (.inr ⟨rfl,k1⟩)⟩
   . obtain⟨z1,z2⟩:=z;rcases hz with ⟨e,w,kw,hw,ew⟩ | ⟨e,cW⟩
     . simp only at e ew;subst e;have iX:0<=x:=by rw[<-hw];exact Re.bG w
       obtain⟨s1,s2⟩:=Z1i hw;refine zc rfl (zj (λst h2=>bQ h h2 S T x.sqrt s st.1) (λst h2 hj=>hk _ _ hj.hle (.inl ⟨rfl,iX,⟨w,kw,hw⟩,hj⟩)) ?_);refine zc4 (ht.le l1) ew.ev hS zO λh3 l3=>zg (λhlt=>?_) (λnD=>?_)
       . refine ZH ht.high (ew.ev.le l3) zO λz5 h4 e5=>?_
         rw[s2 (qk.1 hlt)]at e5;exact e5.base (Ja l1 l3)
       . have:w=x.sqrt:=by
          rcases Xf w with ⟨g,_⟩ | ⟨g,_⟩ | ⟨g,_⟩
          exact s1 (.inr g);exact s1 (by rw[g];exact Re.le_refl _);exact absurd (qk.2 g) nD
         rw[this]at ew;exact(ew.le l3).base (Jf h)
     . simp only at e;subst e;exact zk rfl (hk _ _ l1 (.inr ⟨rfl,cW⟩))
 . obtain⟨z1,z2⟩:=z;rcases hz with ⟨e,k1,k2,k3⟩ | ⟨e,k1⟩
   simp only at e;subst e;exact H1 z1 h' hl k1 k2 k3;simp only at e;subst e;exact H0 z1 h' hl k1
def Z0t{i:Int}(ht:TW h B S t (p :: T))(hi:i=T.length)(H:∀z h',bQ h h' S (p :: T) (tv T p).sqrt S z->K z h'):za (F.zeo t i) K h:=by
 refine zb (λz h'=>bQ h h' S (p :: T) (tv T p).sqrt S z) (λK' hk=>?_) λz h' hl hz=>H z h' hz
 unfold F.zeo;have hn:=ht.high;have hl:=ht.len;have jk:T.length<=3:=by simpa using hn
 have aP:t.len=T.length+1:=by rw[hl,Ji]
 have pr:=Xn (n:=T.length+1) zO;have pr2:=G8 (a:=2) zD (G5 T.length);have cI:=J7 (T.length+1);refine Y3 zD zD λw1 h1 l1 oY=>?_
 refine ziw (B:=1) aP zO oY Vk zD λz h2 hz=>?_
 have ez:rR (2 ^ (T.length+1)) ((0:Int):Rat)=Zt (2 ^ (T.length+1)):=by
  unfold rR Zt;have:2 ^ (T.length+1)=2 ^ (T.length+1)-1+1:=zO
  conv=>rhs;rw[this,Tu]
  rfl
 rw[ez]at hz;obtain⟨D,hD,od⟩:=hz;refine⟨zO,?_⟩;rw[hi,uu zO];refine od.call (K1:=λw D'=>NR D' w 1) (Y3 zD zD λw h' _ hw=>hw) λw D' h3 g1 HY hw=>?_
 have b1:BR 1 (1:Rat):=by refine⟨?_,?_⟩<;>unfold Lt<;>decide
 refine HY.set (2 ^ T.length) rfl (by rw[Yh];exact pr2) hw b1 λh4 Io _=>hk _ _ (Ja l1 (Ja (Ja hD g1) Io.dT)) ?_
 rw[Z0o]at Io;have e:=Za6 (T:=T) (a:=p);rw[<-e];refine Mn ht.red ht.small hn ⟨D',Ja l1 (Ja hD g1),Io⟩ (zu8 _) ?_;rw[e];exact ht.small.2.root (Gq (.inr ht.red.2.2.1))
def QD.rS(ho:QD D h B l ps)(hq:lh D B m qs)(hlen:ps.length+qs.length<=1000)(H:∀y h',QD D h' B y (ps++qs)->K y h') :
 iO m.a (m.len*1) (λvs=>Qg 1 24 [zN] l m.len vs K h) h:=by
 have kQ:=hq.len;obtain⟨ss,h1,h2,h3⟩:=ho;obtain⟨us,g1,g2,g3⟩:=hq;have hl:=h1.2.1;simp at hl;have e:(us.map bO).length=m.len*1:=by simp[g2,kQ]
 refine⟨us.map bO,?_,?_⟩;rw[<-e];exact EP h1.1 g1.2
 . refine pW h1 (n:=m.len) (new:=us.map bO) e rfl ?_ zO zO λy h' hy _=>H y h' ⟨ss++us,by rw[List.map_append];exact hy,by simp[h2,g2],λk k1 k2=>?_⟩
   rw[List.all_map,J1];intro x _;rfl
   . rcases Jx k ss.length with h5 | h5
     . rw[J2 h5,J2 zO];exact h3 k h5 zO
     . rw[J3 h5,J3 zO];have:=g3 (k-ss.length) (by simp at k1;omega) (by simp at k2;omega);simpa only[h2] using this
def zix(ht:TW h B S t T)(hS:S<=100000)(H:∀h',h.le h'->Kb true h'):za (F.PJ t) Kb h:=by
 refine zb (λz h'=>z=true) (λK' hk=>?_) λz h' hl e=>by rw[e];exact H h' hl
 unfold F.PJ;have hn:=ht.high;have hq:=Yu S S;rw[ht.len];refine Y8 (n:=T.length) zO (λi h'=>h.le h') (Jf _) ?_;rintro i h4 hi hle k ck;refine zg (λh5=>?_) (λh5=>?_)
 . have aA:i<T.length:=by have:(i:Int)<(T.length:Int):=h5;omega
   obtain⟨X,r,Y,hT,hY,hr⟩:=DZ (T:=T) (i:=i) (by simpa using aA);have rT:=ht.le hle;have rd:∀{h6:Hp} {P:Sl->Prop},h4.le h6->(∀s,PL h6 B s r->P s)->zi t (i:Int) 1 λad=>aB .sl ad (λx=>P x) h6:=λl6 hP=>
    (rT.le l6).mem.get i rfl aA λs hs=>by rw[hr]at hs;exact hP s hs
   subst hT;have hc:=ht.mem.2;have hl:=ht.len;have tr:TW h4 B S (t.cut 0 (r :: Y).length 1) (r :: Y):=rT.below;have tw:TW h4 B S (t.cut 0 Y.length 1) Y:=TW.below (X:=X++[r]) (by rw[J8];exact rT);have cY:∀{P:Sl->Prop},P (t.cut 0 Y.length 1)->ca t 0 (i:Int) 1 P:=λhP=>Xg 0 Y.length rfl zO (Jt _) (by simp at hl;omega) hP
   refine zj (λ_ h'=>h4.le h') (λ_ h6 l6=>?_) ?_
   . refine cY (rd l6 λs7 hs7=>?_);refine zb (λz h'=>z.2=false) (λK2 aG=>?_) λz h7 l7 e=>by
      obtain⟨z1,z2⟩:=z;simp only at e;subst e;exact zc rfl (ck _ aA (Ja hle (Ja l6 l7)))
     exact⟨Y.length+1,zjy _ (G5 _) (tw.le l6) ((tr.le l6).D0 hs7) hS (zwd hS (Jd _) tw.high) (λz h' w hl k1 k2 k3=>absurd ⟨w,k1,k2⟩ tr.red.nsq) λz h' hl k1=>aG _ _ hl rfl⟩
   . refine cY (rd (Jf _) λeu abA=>?_);refine z9q tw (tr.D0 abA) (by unfold CO;omega) λh6 l6=>zc rfl (cY (rd l6 λAY abB=>?_))
     refine zc4 (tw.le l6) ((tr.le l6).D0 abB) hS zO λh7 l7=>?_
     rw[Ws tr.red.2.2.1];exact zc rfl (Ja l6 l7)
 exact hk _ _ hle rfl
def zeh{G:Re->Prop}{N:Nat}{KA:Sl×Sl×Int->Hp->Prop}(hc:Ctx G S N)(ht:TW h B S t T)(hf:TF G T)(ha:EV h S T x s a)(hx:0<=x)(hg:G x.sqrt)(hs:s<=S)
 (H:∀T' t' z h',h.le h'->AJ T x T'->TW h' (S+CO S) S t' T'->TF G T'->EV h' S T' x.sqrt S z->KA (t',z,0) h'):za (F.PK t a) KA h:=by
 refine zb (λz h'=>z.2.2=0/\∃T',AJ T x T'/\TW h' (S+CO S) S z.1 T'/\TF G T'/\EV h' S T' x.sqrt S z.2.1) (λK' hk=>?_) λz h' hl hz=>by
  obtain⟨z1,z2,z3⟩:=z;obtain⟨e,T',k1,k2,k3,k4⟩:=hz;simp only at e;subst e;exact H T' z1 z2 h' hl k1 k2 k3 k4
 unfold F.PK;have hS:=hc.small;have hn:=ht.high;have hq:=Yu S s;have gu:CO S=64*S+5:=rfl;refine zj (λ_ h'=>h.le h') (λ_ h1 l1=>?_) ?_
 . refine zb (λz h'=>z.2.2=0/\∃T',AJ T x T'/\TW h' (S+CO S) S z.1 T'/\TF G T'/\EV h' S T' x.sqrt S z.2.1) (λK2 aG=>?_) λz h' hl hz=>hk _ _ (Ja l1 hl) hz
   unfold F.zeq;refine zc4 (ht.le l1) (ha.le l1) hS zO λh2 l2=>zg (λhh=>?_) λ_=>?_
   . have:=qk.1 hh;rcases hx with hx | hx
     rw[<-hx]at this;exact absurd this (Gn _);exact absurd (Re.lt_trans hx this) (Gn _)
   have bS:=Ja l1 l2;refine Z6m (ht.le bS) (ha.le bS) hS hs (λz h3 l3 _ jn e2=>zk rfl ?_) (λz h3 l3 cW=>zc rfl ?_)
   . have eY:=Ja bS l3;exact aG _ _ (Ja l2 l3) ⟨rfl,T,.inl ⟨jn,rfl⟩,(ht.le eY).canon hS,hf,e2.ev.mono hs⟩
   . have eY:=Ja bS l3;have hl:=ht.len;refine zg (λhh=>absurd hh zO) λ_=>?_
     refine Qv (n:=0) (size:=1) rfl λbb h4 _ ho=>?_
     have q0:QD h3 h4 (max B (s+CO S)) ⟨some ⟨bb,0,none⟩,0,0⟩ []:=⟨[],ho,rfl,λk k1 _=>by simp at k1⟩;have ht3:=(ht.le eY).mem.1;have vf:lh h3 (max B (s+CO S)) t T.reverse:=by
      obtain⟨ss,k1,k2,k3⟩:=ht3;exact⟨ss,k1,k2,λk j1 j2=>(k3 k j1 j2).mono (Nat.le_max_left _ _)⟩
     refine q0.rS vf (by simp;omega) λw5 h5 q5=>?_
     obtain⟨p,hp,lp,rfl,sp⟩:=ha;refine q5.app ((hp.le eY).mono (Nat.le_max_right _ _)) (by simp;omega) λw6 h6 q6=>?_
     have cI:=zqu hx cW;have YV:RT (p :: T):=ht.red.extend lp cI cW;have hS':TS S (p :: T):=⟨ht.small,sp.mono hs⟩;have dk:TF G (p :: T):=⟨hf,hg⟩;have jk:(p :: T).length<=4:=Jo (TF.i9 hc.vq YV dk) hc.deg;have xR:TW h6 (S+CO S) S w6 (p :: T):=zlp (by rw[Gj];simpa using q6.qql) q6.cap YV hS' jk hS;rw[hl];refine Z0t xR rfl λz6 h7 e6=>aG _ _ (Ja (Ja l2 l3) (Ja q6.dT e6.hle)) ⟨rfl,p :: T,.inr ⟨cW,p,rfl,lp,rfl⟩,xR.le e6.hle,dk,e6.ev⟩
 . refine zix ht hS λh1 l1=>zc rfl ?_
   exact z9q (ht.le l1) (ha.le l1) zO λh2 l2=>zc rfl (Ja l1 l2)
def Z6n(ha:PL h A a p)(hb:PL h B b q)(hA:A<=1000000000000)(hB:B<=1000000000000)(hp:p.length<=65536)(hq:q.length<=65536)(H:∀h',h.le h'->Kb (decide (p=q)) h'):za (F.zex a b) Kb h:=by
 refine zb (λv h'=>v=decide (p=q)) (λK2 aG=>?_) λv h' hl e=>by rw[e];exact H h' hl
 unfold F.zex;rw[ha.len,hb.len];refine oB (λcd=>?_) (λheq=>?_);refine aG _ _ (Jf _) (decide_eq_false λhh=>cd (by rw[hh])).symm
 . have hlen:p.length=q.length:=zO;refine Y8 (n:=p.length) zO (λi h'=>h.le h'/\p.take i=q.take i) ⟨Jf _,rfl⟩ ?_;rintro i h2 hi ⟨hle,he⟩ k ck;refine zg (λh3=>?_) (λh3=>?_)
   . have aA:i<p.length:=by have:(i:Int)<(p.length:Int):=h3;omega
     refine ha.cT i hle rfl aA λu hu bu=>?_
     refine hb.cT i hle rfl zO λv hv bv=>?_
     refine Z6i (hu.le hle) (hv.le hle) bu bv hA hB λh3 l3=>?_
     by_cases fC:p[i]=q[i]'zO
     . refine zc (by simp[zhm.2 fC]) (ck _ aA ⟨Ja hle l3,?_⟩);rw[Jc aA,Jc zO,he,fC]
     . have cd:qG p[i] (q[i]'zO)≠0:=λhh=>fC (zhm.1 hh)
       refine zk (by simp[cd]) (aG _ _ (Ja hle l3) (decide_eq_false λhh=>fC ?_).symm);simp only[hh]
   . have:i=p.length:=by have:¬(i:Int)<(p.length:Int):=h3;omega
     subst this;rw[J5,hlen,J5]at he;exact aG _ _ hle (decide_eq_true he).symm
def z9r(ht:TW h B S t T)(hw:TW h B S w U)(H1:∀X h',h.le h'->T=X++U->Kb true h')(H0:∀h',h.le h'->(¬∃X,T=X++U)->Kb false h'):za (F.FX t w) Kb h:=by
 refine zb (λv h'=>(v=true/\∃X,T=X++U)\/(v=false/\¬∃X,T=X++U)) (λK' hk=>?_) λv h' hl e=>by
  rcases e with ⟨e,X,h1⟩ | ⟨e,h1⟩
  rw[e];exact H1 X h' hl h1;rw[e];exact H0 h' hl h1
 unfold F.FX;have l1:=ht.len;have l2:=hw.len;have hn:=ht.high;have fA:=ht.bound;rw[l1,l2];refine zg (λh3=>?_) (λh3=>?_)
 . refine hk _ _ (Jf _) (.inr ⟨rfl,?_⟩);rintro⟨X,rfl⟩;simp at h3;omega
 . have hle:U.length<=T.length:=zO;have ZO:T.reverse.take U.length=U.reverse↔∃X,T=X++U:=by
    constructor
    . intro he;refine⟨(T.reverse.drop U.length).reverse,?_⟩;have:=congrArg List.reverse (Ge U.length T.reverse);rw[List.reverse_append,he,List.reverse_reverse,List.reverse_reverse]at this;exact this.symm
    . rintro⟨X,rfl⟩;rw[List.reverse_append,List.take_left' zS]
   refine Y8 (n:=U.length) zO (λi h'=>h.le h'/\T.reverse.take i=U.reverse.take i) ⟨Jf _,rfl⟩ ?_;rintro i h2 hi ⟨pQ,he⟩ k ck;refine zg (λh4=>?_) (λh4=>?_)
   . have aA:i<U.length:=by have:(i:Int)<(U.length:Int):=h4;omega
     refine(ht.le pQ).mem.get i rfl zO λs1 vh=>?_
     refine(hw.le pQ).mem.get i rfl aA λs2 kJ=>?_
     refine Z6n vh kJ zO zO (ht.red.short hn _ (Jy _)) (hw.red.short hw.high _ (Jy _)) λh5 l5=>?_
     by_cases fC:T.reverse[i]'(by simp;omega)=U.reverse[i]'(by simp;omega)
     . rw[decide_eq_true fC];refine zc rfl (ck _ aA ⟨Ja pQ l5,?_⟩);rw[Jc (by simp;omega),Jc (by simp;omega),he,fC]
     . rw[decide_eq_false fC];refine zk rfl (hk _ _ (Ja pQ l5) (.inr ⟨rfl,?_⟩));intro hex;have h6:=ZO.2 hex;refine fC ?_;have h7:(T.reverse.take U.length)[i]'(by simp;omega)=U.reverse[i]'(by simp;omega):=by simp only[h6]
       rwa [Ps]at h7
   . have:i=U.length:=by have:¬(i:Int)<(U.length:Int):=h4;omega
     subst this;rw[Je (l:=U.reverse) zS]at he;exact hk _ _ pQ (.inl ⟨rfl,ZO.1 he⟩)
end
end Den
end

section
namespace Den
open Go Iv Pq
def zu6:∀(fuel:Nat) {U ss T Z:zV} {D h:Hp} {A B R S s:Nat} {t w a:Sl} {p:List Rat} {K':Sl->Hp->Prop},U.length<fuel->TW D B S t T->QD D h R w (ss.reverse++Z)->EM T U ss->RT U->TS S U->U.length<=4 ->
 PL D A a p->A<=300000000000->p.length=2 ^ U.length->Sz (tv U p) s->2*(s+U.length*CL S)+(300*S+50)<=300000000000->1<=R ->
 (∀z D' h',D.le D'->h.le h'->QD D' h' R w (ss.reverse++Z)->bQ D D' S T (tv U p) s z->K' z h')->F.Wr fuel t w a K' h
 | 0,_,_,_,_,_,_,_,_,_,_,_,_,_,_,_,_,h0,_,_,_,_,_,_,_,_,_,_,_,_,_=>absurd h0 (Te _)
 | fuel+1,U,ss,T,Z,D,h,A,B,R,S,s,t,w,a,p,K',hf,ht,hw,hE,hU,uz,uA,ha,hA,lp,sp,aD,hR,hk=>by
   have key:∀{U ss T Z:zV} {D h:Hp} {A B R S s:Nat} {t w a:Sl} {p:List Rat} {K:Sl->Hp->Prop},U.length<fuel->TW D B S t T->QD D h R w (ss.reverse++Z)->EM T U ss->RT U->TS S U->U.length<=4 ->
    PL D A a p->A<=300000000000->p.length=2 ^ U.length->Sz (tv U p) s->2*(s+U.length*CL S)+(300*S+50)<=300000000000->1<=R ->
    (∀z D' h',D.le D'->h.le h'->QD D' h' R w (ss.reverse++Z)->bQ D D' S T (tv U p) s z->K z h')->za (F.Wr fuel t w a) K h:=λ{U ss T Z D h A B R S s t w a p K} g1 g2 g3 g4 g5 g6 g7 g8 g9 XR g11 g12 g13 g14=>
    zb (λz h'=>∃D',D.le D'/\QD D' h' R w (ss.reverse++Z)/\bQ D D' S T (tv U p) s z) (λK' hk=>zu6 fuel g1 g2 g3 g4 g5 g6 g7 g8 g9 XR g11 g12 g13 λz D' h' k1 k2 k3 k4=>hk _ _ k2 ⟨D',k1,k3,k4⟩) λz h' hl ⟨D',k1,k3,k4⟩=>g14 z D' h' k1 hl k3 k4
   unfold F.Wr;have hl:=ha.len;have jf:CL S=16*S+1:=rfl;have gu:CO S=64*S+5:=rfl;have eO:=ja uA;have fA:=ht.bound;rw[hl,lp];refine Zs (λh1=>?_) (λh1=>?_)
   . have hU0:U=[]:=by
      cases U with
      | nil=>rfl
      | cons r U=>
        rw[Ji,Zm]at h1;have:=J7 U.length;omega
     subst hU0;obtain⟨c,rfl⟩:∃c,p=[c]:=U0.1 lp;refine ha.cT 0 hw.dT rfl zS λv hv bv=>?_
     simp only[Ud]at hv bv;have bs:BR (s+1) c:=Sz.br (s:=s) sp (Jd _);refine hw.call2 (K1:=λz D'=>bQ D D' S T (Jn c) (s+1) z) (ZG (s:=s+1) ht hv bs λz h2 e2=>e2) λz D' h2 g1 l2 pd e2=>hk _ D' _ g1 l2 pd ?_
     obtain⟨P,oP,nP,vP,_⟩:=e2;have e:tv [] [c]=tv T P:=by rw[vP];rfl
     rw[e];exact Mn ht.red ht.small ht.high oP nP (by rw[<-e];exact sp)
   . cases U with
     | nil=>exact absurd rfl h1
     | cons r U=>
     have hn:U.length<=3:=by simpa using uA
     cases ss with
     | nil=>exact hE.elim
     | cons s0 ss=>
     have jr:=Xn (n:=U.length) zO;have xy:p.length=2 ^ (U.length+1):=by rw[lp,Ji]
     have lp3:p.length=2 ^ U.length+2 ^ U.length:=by rw[xy,Zm]
     have ie:=ha.cap;have h9:∀N:Nat,N<=65536->i64.wrap (N:Int)=N:=λN hN=>aM zO
     have bN:(((2 ^ (r :: U).length:Nat):Int)).tdiv 2=((2 ^ U.length:Nat):Int):=by
      have:=XI (n:=U.length) (p:=p) (a:=a) zO xy hl
      rwa [hl,lp]at this
     obtain⟨s1,s2⟩:=HT hU uz uA lp sp;have vS:(r :: U).length*CL S=U.length*CL S+CL S:=by rw[Ji,Nat.add_mul,Nat.one_mul]
     rw[vS]at aD;refine⟨zD,Za (λst h'=>h'=h/\∃k:Nat,st.1=(k:Int)/\k<=U.length) (λst=>U.length-st.1.toNat) ⟨rfl,0,rfl,Jt _⟩ ?_⟩;rintro⟨_,_⟩ h2 ⟨hh,k,cy,aG⟩;simp only at cy;subst cy;obtain rfl:h=h2:=hh.symm;have ek:i64.wrap ((k:Int)+1)=((k+1:Nat):Int):=by rw[aM zO];rfl
     rw[ek,uu zO];refine⟨zO,zg (λh3=>?_) (λh3=>?_)⟩
     . have hlt:k<U.length:=by
        have h4:2 ^ (k+1)<2 ^ (U.length+1):=by
         have:(((2 ^ (k+1):Nat):Int))<((2 ^ (U.length+1):Nat):Int):=h3;exact Int.ofNat_lt.1 this
        have:=(Nat.pow_lt_pow_iff_right (by decide:1<2)).1 h4;omega
       exact⟨⟨rfl,k+1,rfl,hlt⟩,by simp only[Int.toNat_natCast];omega⟩
     . have hkU:k=U.length:=by
        have h4:¬2 ^ (k+1)<2 ^ (U.length+1):=λhh=>h3 (by
         show(((2 ^ (k+1):Nat):Int))<((2 ^ (U.length+1):Nat):Int);exact Int.ofNat_lt.2 hh)
        have h5:¬k+1<U.length+1:=λhh=>h4 (G8 zD hh)
        omega
       subst hkU;rw[bN,h9 _ jr];have pg:=ha.part (lo:=0) (hi:=2 ^ U.length) (Jt _) zO;simp only[List.drop_zero,Nat.sub_zero]at pg;have sL:=ha.part (lo:=2 ^ U.length) (hi:=p.length) zO (Jd _);rw[Je zS]at sL;have llo:=Xa (r:=r) (T:=U) lp;have lhi:=Xs (r:=r) (T:=U) lp;have xA:((2 ^ (r :: U).length:Nat):Int)=(p.length:Int):=by rw[lp]
       rw[xA];refine Xg 0 (2 ^ U.length) rfl rfl (Jt _) zO (Xg (2 ^ U.length) p.length rfl rfl zO zO ?_);have dk:U.length<fuel:=by simp at hf;omega
       have hwz:QD D h R w (ss.reverse++s0 :: Z):=by
        have e:(s0 :: ss).reverse++Z=ss.reverse++s0 :: Z:=by rw[Gj,J8];rfl
        rw[<-e];exact hw
       have lss:ss.length=U.length:=hE.1.len;have ew:∀D' h',QD D' h' R w (ss.reverse++s0 :: Z)->QD D' h' R w ((s0 :: ss).reverse++Z):=λD' h' hh=>by
        have e:(s0 :: ss).reverse++Z=ss.reverse++s0 :: Z:=by rw[Gj,J8];rfl
        rw[e];exact hh
       refine key dk ht hwz hE.1 hU.1 uz.1 zO pg hA llo s1 zO hR λz7 D7 h7 d7 l7 q7 e7=>?_
       refine key dk (ht.le d7) q7 hE.1 hU.1 uz.1 zO (sL.le d7) hA lhi s2 zO hR λxz D13 cO uB H2 q13 mY=>?_
       have d13:=Ja d7 uB;have eY:=Ja l7 H2;refine q13.get U.length rfl (by simp;omega) λsl sW=>?_
       have es:(ss.reverse++s0 :: Z)[U.length]'(by simp;omega)=s0:=by
        rw[J3 (by simp;omega)];simp[lss]
       rw[es]at sW;obtain⟨f1,f2⟩:=hE.2.pad;refine q13.call2 (K1:=λz D'=>OL D13 D' R z (kL (2 ^ T.length) s0)) (zrf ht.len (by have:=ht.high;omega) sW hR f1 λqM eG ux=>ux) λqM XS eG rV H4 q14 ux=>?_
       have d14:=Ja d13 rV;have gG:=Ja eY H4;have uU:Sz (tv U r).sqrt S:=uz.2.root (Gq (.inr hU.2.2.1));have Ag:EV XS S T (tv U r).sqrt S qM:=by
        have:=pG ht.red ht.small ht.high ux.pl (Ml f1) (by rw[f2];exact uU)
        rwa [f2]at this
       refine q14.call2 (K1:=λz D'=>bQ XS D' S T _ _ z) (tj (ht.le d14) (mY.ev.le rV) Ag zO λB3 gh mZ=>mZ) λB3 D15 gh xB H5 q15 mZ=>?_
       have d15:=Ja d14 xB;have fE:=Ja gG H5;have ez:tv U (p.take (2 ^ U.length))+tv U (p.drop (2 ^ U.length))*(tv U r).sqrt=tv (r :: U) p:=by rw[BV,Re.mul_comm (tv U r).sqrt]
       refine q15.call2 (K1:=λz D'=>bQ D15 D' S T (tv (r :: U) p) s z) (zld (ht.le d15) (e7.ev.le (Ja uB (Ja rV xB))) mZ.ev zO (k:=s) (by rw[ez];exact sp) λuy gi gz=>by rw[ez]at gz;exact gz) λuy D16 gi H6 B0 q16 gz=>?_
       exact hk _ D16 _ (Ja d15 H6) (Ja fE B0) (ew _ _ q16) (gz.base d15)
section
variable {B R s:Nat}{w:Sl}{T:zV}
def zny(ht:TW D B S t T)(hw:QD D h R w ss.reverse)(hE:EM T U ss)(hU:RT U)(uz:TS S U)(uA:U.length<=4)(ha:PL D A a p)(hA:A<=300000000000)(lp:p.length=2 ^ U.length)(sp:Sz (tv U p) s)(aD:2*s+(430*S+60)<=300000000000)(hR:1<=R)
 (H:∀z D' h',D.le D'->h.le h'->QD D' h' R w ss.reverse->bQ D D' S T (tv U p) s z->K z h'):za (F.zc0 t w a) K h:=by
 refine zb (λz h'=>∃D',D.le D'/\QD D' h' R w ss.reverse/\bQ D D' S T (tv U p) s z) (λK' hk=>?_) λz h' hl ⟨D',k1,k3,k4⟩=>H z D' h' k1 hl k3 k4
 have jf:CL S=16*S+1:=rfl;have:=Jm (CL S) uA;refine⟨U.length+1,zu6 (Z:=[]) _ (G5 _) ht (by rw[Tm];exact hw) hE hU uz uA ha hA lp sp zO hR λz D' h' k1 k2 k3 k4=>hk _ _ k2 ⟨D',k1,?_,k4⟩⟩
 rwa [Tm]at k3
end
section
variable {B:Nat}{b c l w:Sl}{T:zV}
def zf3{KE:Sl×Sl×Int->Hp->Prop}(hc:Ctx G S N)(ht:TW h B S t T)(hf:TF G T)(hu:TW h C S w U)(hg:TF G U)
 (H:∀z1 z2 X ss D h',h.le D->h.le h'->TW D (S+CO S) S z1 (X++T)->TF G (X++T)->EM (X++T) U ss->QD D h' (S+CO S) z2 ss.reverse->TF (KT (X++T)) U->(TF (KT T) U->X=[])->KE (z1,z2,0) h') :
 za (F.Kw t w) KE h:=by
 refine zb (λz h'=>z.2.2=0/\∃X ss D,h.le D/\TW D (S+CO S) S z.1 (X++T)/\TF G (X++T)/\EM (X++T) U ss/\QD D h' (S+CO S) z.2.1 ss.reverse/\TF (KT (X++T)) U/\(TF (KT T) U->X=[])) (λK' hk=>?_) λz h' hl hz=>by
  obtain⟨z1,z2,z3⟩:=z;obtain⟨e,X,ss,D,k0,k1,k2,k3,k4,k5,k6⟩:=hz;simp only at e;subst e;exact H z1 z2 X ss D h' k0 hl k1 k2 k3 k4 k5 k6
 unfold F.Kw;have hul:=hu.len;have tV:=hu.high;have hub:=hu.bound;have hS:=hc.small;have gu:CO S=64*S+5:=rfl;rw[hul];refine Za (λst h'=>∃i:Nat,st.2.2.1=(i:Int)/\i<=U.length/\∃D X ss Z Y,h.le D/\h.le h'/\U=Z++Y/\Y.length=i/\TW D (S+CO S) S st.1 (X++T)/\TF G (X++T)/\EM (X++T) Y ss/\QD D h' (S+CO S) st.2.1 ss.reverse/\TF (KT (X++T)) Y/\(TF (KT T) U->X=[]))
  (λst=>(U.length-st.2.2.1).toNat) ⟨0,rfl,Jt _,h,[],[],U,[],Jf _,Jf _,zS,rfl,ht.canon hS,hf,trivial,⟨[],Own.nil (Jf _),rfl,λk k1 _=>by simp at k1⟩,trivial,λ_=>rfl⟩ ?_
 rintro⟨ir,roots,i0,u3⟩ h2 ⟨i,hi,da,D,X,ss,Z,Y,hD,bH,hU,hY,tw,tf,em,hq,tk,hX⟩;have hi:i0=(i:Int):=hi;have tw:TW D (S+CO S) S ir (X++T):=tw;have hq:QD D h2 (S+CO S) roots ss.reverse:=hq;subst hi;refine zg (λh3=>?_) (λh3=>?_)
 . have aA:i<U.length:=by have:(i:Int)<(U.length:Int):=h3;omega
   obtain⟨X',r,Y',sc,Mz,hr⟩:=DZ (T:=U) (i:=i) (by simpa using aA);have hYY:Z=X'++[r]/\Y=Y':=by
    refine List.append_inj' (t₁:=Y) (t₂:=Y') ?_ (by rw[hY,Mz]);rw[J8];exact hU.symm.trans sc
   obtain⟨hZ,hYe⟩:=hYY;subst hYe;have dr:RT (r :: Y):=by have:=hu.red;rw[sc]at this;exact this.below
   have kJ:TS S (r :: Y):=by have:=hu.small;rw[sc]at this;exact this.below
   have hg2:TF G (r :: Y):=by have:=hg;rw[sc]at this;exact this.below
   have cI:=dr.2.2.1;obtain⟨ws,g1,g2,g3⟩:=hu.mem.1;have bP:i<ws.length:=by rw[g2,Tg];exact aA
   refine rn i (g1.le bH) rfl (v:=bO ws[i]) (by rw[Gr,Jp bP];rfl) λad bp=>⟨ws[i],bp,?_⟩
   have jL:=g3 i bP (by simpa using aA);rw[hr]at jL;have hYn:Y.length<=3:=by rw[sc]at tV;simp at tV;omega
   refine zny tw hq em dr.1 kJ.1 zO (jL.le hD) hub dr.2.1 kJ.2 zO zO λz D1 h4 k1 l4 qF e1=>?_
   refine qF.call2 (K1:=λz D'=>z.2.2=0/\D1.le D'/\∃T',AJ (X++T) (tv Y r) T'/\TW D' (S+CO S) S z.1 T'/\TF G T'/\EV D' S T' (tv Y r).sqrt S z.2.1)
    (zeh hc (tw.le k1) tf e1.ev (.inr cI) hg2.2 (Jd _) λT' t' z h' hl a1 a2 a3 a4=>⟨rfl,hl,T',a1,a2,a3,a4⟩) λz6 D2 h5 k2 l5 pd U'=>?_
   obtain⟨t',s',e'⟩:=z6;obtain⟨he,_,T',aj,xR,tf',YX⟩:=U';simp only at he xR YX;subst he;obtain⟨X2,lz⟩:=aj.pre;obtain⟨P,hP,lP,vP,_⟩:=YX;refine zc rfl ?_;refine pd.app hP (by have:=em.len;simp;omega) λw7 h7 YY=>⟨⟨i+1,?_,aA,D2,X2++X,P :: ss,X',r :: Y,Ja hD (Ja k1 k2),?_,sc,by rw[Ji,hY],?_,?_,?_,?_,?_,?_⟩,?_⟩
   . show i64.wrap ((i:Int)+1)=_;rw[aM zO];rfl
   exact Ja (Ja hD (Ja k1 k2)) YY.dT;rw[J8,<-lz];exact xR;rw[J8,<-lz];exact tf'
   . rw[J8,<-lz];refine⟨?_,FL.same lP vP⟩;rw[lz];exact em.ext
   rw[Gj];exact YY
   . rw[J8,<-lz];refine⟨?_,⟨P,lP,vP⟩⟩;rw[lz];exact TF.ext tk
   . intro hk;have DD:=hX hk;subst DD;have vN:TF (KT T) (r :: Y):=by have:=hk;rw[sc]at this;exact this.below
     have h8:T'=T:=aj.same (.inr cI) vN.2;have lz:T'=X2++T:=lz;rw[h8]at lz;have:X2=[]:=List.self_eq_append_left.1 lz;rw[this];rfl
   . show(U.length-i64.wrap ((i:Int)+1)).toNat<_;rw[aM zO];show _<((U.length:Int)-(i:Int)).toNat;omega
 . have:i=U.length:=by have:¬(i:Int)<(U.length:Int):=h3;omega
   subst this;have hZ:Z=[]:=by
    have:=congrArg List.length hU;rw[Jq,hY]at this;exact Ju.1 zO
   subst hZ;rw[List.nil_append]at hU;subst hU;exact hk _ _ bH ⟨rfl,X,ss,D,hD,tw,tf,em,hq,tk,hX⟩
variable {bs:List ((Re × Nat) × zV)}
def Z62{KE:Sl×Int->Hp->Prop}(hc:Ctx G S N)(hl:LR dN 2 (NX G S) h l bs)(hlen:bs.length<=1000)(dO:∀b∈bs,2*b.1.2+(430*S+60)<=300000000000)
 (H:∀r T h',h.le h'->LR dN 2 (NJ G S T) h' r (bs.map (·.1))->KE (r,0) h'):za (F.zeu l) KE h:=by
 refine Y0 (λz h'=>∃T,LR dN 2 (NJ G S T) h' z (bs.map (·.1))) (λK' hk=>?_) λz h' hl ⟨T,k1⟩=>H z T h' hl k1
 unfold F.zeu;have hS:=hc.small;have gu:CO S=64*S+5:=rfl;rw[hl.len Ve];refine ur (n:=bs.length) zO (λi t h'=>h.le h'/\∃T,TW h' (S+CO S) S t T/\TF G T/\∀b∈bs.take i,TF (KT T) b.2) ⟨Jf _,[],zy0 rfl (by unfold CO;omega),trivial,λb hb=>by simp at hb⟩ ?_;rintro i t h2 hi ⟨hle,T,tw,tf,cr⟩ k ck;refine zg (λh3=>?_) (λh3=>?_)
 . have aA:i<bs.length:=by have:(i:Int)<(bs.length:Int):=h3;omega
   refine zj (λst h'=>h.le h'/\∃T,TW h' (S+CO S) S st.1 T/\TF G T/\∀b∈bs.take (i+1),TF (KT T) b.2) (λst h' hj=>ck _ _ aA hj) ?_;have rd:∀{h6:Hp} {P:Sl->Prop},h2.le h6->(∀X,NX G S h6 X bs[i]->P X.ae)->zi l (i:Int) 2 λad=>aB .sl (ad.add 0) (λx=>P x) h6:=λl6 hP=>
    (hl.le Ve (Ja hle l6)).get Ve i rfl aA λad X hX bp=>⟨X.ae,bp 0 _ rfl,hP X hX⟩
   have add:∀{V:zV},RT V->TF (KT V) T->TF (KT V) bs[i].2->∀b∈bs.take (i+1),TF (KT V) b.2:=λhV h5 h6 b hb=>by
    rw[Jc aA,List.mem_append,Uz]at hb;rcases hb with hb | rfl
    exact TF.trans hV (cr b hb) h5;exact h6
   refine rd (Jf _) λX6 hX6=>zg (λhlt=>?_) (λnD=>?_)
   . refine rd (Jf _) λX8 hX8=>?_
     refine z9r hX8.1 tw (λY h4 l4 hY=>zk rfl (rd l4 λX11 Ix=>⟨Ja hle l4,_,Ix.1,Ix.2.1,add Ix.1.red (by rw[hY];exact TF.ext TF.self) TF.self⟩)) (λh4 l4 cW=>zc rfl (rd l4 λX13 Iy=>?_));refine z9r (tw.le l4) Iy.1 (λY h5 l5 hY=>zc rfl ⟨Ja hle (Ja l4 l5),T,tw.le (Ja l4 l5),tf,add tw.red TF.self (by rw[hY];exact TF.ext TF.self)⟩) (λh5 l5 m0=>zk rfl (rd (Ja l4 l5) λX16 xT=>?_));have MA:=Ja l4 l5;refine zf3 hc (tw.le MA) tf xT.1 xT.2.1 λz1 z2 Y ss D h6 hD l6 k1 k2 k3 k4 k5 k6=>zc rfl ⟨Ja hle (Ja MA l6),Y++T,k1.le k4.dT,k2,add k1.red (TF.ext TF.self) k5⟩
   . refine rd (Jf _) λX13 Iy=>?_
     refine z9r tw Iy.1 (λY h5 l5 hY=>zc rfl ⟨Ja hle l5,T,tw.le l5,tf,add tw.red TF.self (by rw[hY];exact TF.ext TF.self)⟩) (λh5 l5 m0=>zk rfl (rd l5 λX16 xT=>?_));refine zf3 hc (tw.le l5) tf xT.1 xT.2.1 λz1 z2 Y ss D h6 hD l6 k1 k2 k3 k4 k5 k6=>zc rfl ⟨Ja hle (Ja l5 l6),Y++T,k1.le k4.dT,k2,add k1.red (TF.ext TF.self) k5⟩
 . have:i=bs.length:=by have:¬(i:Int)<(bs.length:Int):=h3;omega
   subst this;rw[J5]at cr;have aP:=hl.le Ve hle;refine ur (n:=bs.length) zO (λi w h'=>∃D,h2.le D/\LO dN 2 (NJ G S T) D h' w ((bs.map (·.1)).take i)) ⟨h2,Jf _,by simpa using LO.nil⟩ ?_;rintro i w h4 da ⟨D,hD,ho⟩ k2 xU;refine zg (λh3=>?_) (λh3=>?_)
   . have aA:i<bs.length:=by have:(i:Int)<(bs.length:Int):=h3;omega
     have hz:=dO _ (Jy aA);have dz:TF (KT T) bs[i].2:=cr _ (Jy aA);have hn:=tw.high;have eO:=ja hn;have XX:∀{D' h6:Hp} {P:Sl->Prop},h2.le D'->D'.le h6->(∀X,NX G S D' X bs[i]->P X.ae)->zi l (i:Int) 2 λad=>aB .sl (ad.add 0) (λx=>P x) h6:=λl5 l6 hP=>
      (aP.le Ve l5).xS Ve l6 i rfl aA λad X hX bp=>⟨X.ae,bp 0 _ rfl,hP X hX⟩
     have rd1:∀{D' h6:Hp} {P:Sl->Prop},h2.le D'->D'.le h6->(∀X,NX G S D' X bs[i]->P X.af)->zi l (i:Int) 2 λad=>aB .sl (ad.add 1) (λx=>P x) h6:=λl5 l6 hP=>
      (aP.le Ve l5).xS Ve l6 i rfl aA λad X hX bp=>⟨X.af,bp 1 _ rfl,hP X hX⟩
     obtain⟨J,hJ⟩:∃J:(Sl×Sl×Unit)×Unit->Hp->Prop,∀s' h',J s' h'↔∃D',h2.le D'/\LO dN 2 (NJ G S T) D' h' w ((bs.map (·.1)).take i)/\NJ G S T D' ⟨s'.1.1,s'.1.2.1⟩ bs[i].1:=⟨_,λ_ _=>Iff.rfl⟩;refine zj J (λst h' hj=>?_) ?_
     . obtain⟨D',q1,q2,q3⟩:=(hJ st h').1 hj;refine q2.app mu (bytes:=48) (zero:=[zN,zN]) (x:=⟨st.1.1,st.1.2.1⟩) (b:=bs[i].1) rfl (by rw[Jk];omega) (by rw[Jk];omega) q3 λy aZ hy=>xU _ _ aA ⟨D',q1,?_⟩
       rw[Jc (by simpa using aA),List.getElem_map];exact hy
     . refine XX hD ho.dT λX30 abC=>?_
       refine ho.call mu (K1:=λb D'=>D.le D'/\((b=true/\∃Y,T=Y++bs[i].2)\/b=false)) (z9r (tw.le hD) abC.1 (λY h' hl hY=>⟨hl,.inl ⟨rfl,Y,hY⟩⟩) λh' hl cW=>⟨hl,.inr rfl⟩) λb D2 h5 d2 dA hb=>?_
       obtain⟨_,hb⟩:=hb;have uV:=Ja hD d2;rcases hb with ⟨rfl,Y,hY⟩ | rfl
       . refine zk rfl (rd1 uV dA.dT λX33 abD=>?_);obtain⟨xw,xf,p,hp,lp,vp,sp⟩:=abD;have pQ:p.length<=2 ^ T.length:=by
          rw[lp,hY];exact Jz zD zS
         refine dA.call mu (K1:=λz D'=>PL D' (bs[i].1.2+CO S) z (kL (2 ^ T.length) p)) (zrf tw.len zO hp zO pQ λz h' o=>o.pl) λz D3 h5 d3 eX hz=>?_
         refine(hJ _ _).2 ⟨D3,Ja uV d3,eX,tw.le (Ja uV d3),tf,_,hz,Ml pQ,?_,sp⟩;rw[hY,XF lp,vp]
       . refine zc rfl (XX uV dA.dT λX36 ZP=>?_);refine dA.call mu (K1:=λz D'=>D2.le D'/\z.2.2=0/\∃ss D3,D2.le D3/\TW D3 (S+CO S) S z.1 T/\EM T bs[i].2 ss/\QD D3 D' (S+CO S) z.2.1 ss.reverse)
          (zf3 hc (tw.le uV) tf ZP.1 ZP.2.1 λz1 z2 Y ss D3 h6 rk l6 k1 k2 k3 k4 k5 k6=>⟨l6,rfl,ss,D3,rk,?_⟩) λz D4 h5 d4 gQ LN=>?_
         . have:=k6 dz;subst this;exact⟨k1,k3,k4⟩
         . obtain⟨z1,z2,e⟩:=z;obtain⟨_,he,ss,D3,rk,k1,k3,k4⟩:=LN;simp only at he k1 k4;subst he;have HH:=Ja uV d4;obtain⟨xs,g1,g2,g3,g4⟩:=aP.le Ve (Ja uV rk);have uL:i<xs.length:=zO;have hX:=g4 i uL aA;refine YW (c:=dN) (λ_=>rfl) zD (g1.le (Ja k4.dT gQ.dT)) i rfl uL λad bp=>⟨xs[i].af,bp 1 _ zD rfl,?_⟩
           obtain⟨xw,xf,p,hp,lp,vp,sp⟩:=hX;refine gQ.call mu (K1:=λz D'=>EV D' S T bs[i].1.1 bs[i].1.2 z) (zny (A:=bs[i].1.2+CO S) (tw.le (Ja uV rk)) k4 k3 xw.red xw.small xw.high hp zO lp (by rw[vp];exact sp) zO zO λz D5 h6 d5 l6 q5 e5=>?_) λz D5 h6 d5 cV YZ=>?_
           . rw[vp]at e5;exact e5.ev.le q5.dT
           exact(hJ _ _).2 ⟨D5,Ja HH d5,cV,tw.le (Ja HH d5),tf,YZ⟩
   . have:i=bs.length:=by have:¬(i:Int)<(bs.length:Int):=h3;omega
     subst this;rw[Je zS]at ho;exact hk _ _ (Ja hle (Ja hD ho.dT)) ⟨T,ho.lr mu⟩
end
end Den
end

section
namespace Den
open Go Iv Pq
section
variable {B s:Nat}{b:Sl}{T:zV}{W:aF}{w:Re}{Q:aC}
def zua{K:ag×ag×Int->Hp->Prop}(hc:Ctx G S N)(hx:NB G S h X x s)(hy:NB G S h Y y u)(aD:2*(s+u)+(500*S+60)<=300000000000)(H:∀P Q T h',h.le h'->NJ G S T h' P (x,s)->NJ G S T h' Q (y,u)->K (P,Q,0) h'):za (F.PM X Y) K h:=by
 refine zb (λz h'=>z.2.2=0/\∃T,NJ G S T h' z.1 (x,s)/\NJ G S T h' z.2.1 (y,u)) (λK' hk=>?_) λz h' hl hz=>by
  obtain⟨z1,z2,z3⟩:=z;obtain⟨e,T,k1,k2⟩:=hz;simp only at e;subst e;exact H z1 z2 T h' hl k1 k2
 unfold F.PM;obtain⟨T1,hx⟩:=hx.nj hc.small;obtain⟨T2,hy⟩:=hy.nj hc.small;refine Ip hx hy λA h1 l1 hl=>?_
 refine Z62 hc hl zS (λb hb=>by simp at hb;rcases hb with rfl | rfl<;>(simp only;omega)) λr T h2 l2 hr=>zc rfl ?_
 have e0:=hr.get mu (i:=0) (K:=λa3=>aB .sl (a3.add 0) (λdu=>aB .sl (a3.add 1) (λdv=>zi r 1 2 λa5=>aB .sl (a5.add 0) (λdw=>aB .sl (a5.add 1) (λdZ=>K' (⟨du,dv⟩,⟨dw,dZ⟩,0) h2) h2) h2) h2) h2) 0 rfl zS λa3 P hP wS=>
  ⟨P.ae,wS 0 _ rfl,P.af,wS 1 _ rfl,hr.get mu 1 rfl zS λa5 Q hQ hc5=>⟨Q.ae,hc5 0 _ rfl,Q.af,hc5 1 _ rfl,hk _ _ (Ja l1 l2) ⟨rfl,T,hP,hQ⟩⟩⟩
 exact e0
def Iz(hc:Ctx G S N)(hx:NB G S h X x s)(hy:NB G S h Y y u)(aD:2*(s+u)+(500*S+60)<=300000000000)(H:∀Z h',h.le h'->NB G S h' Z (x*y) (s+u)->KE (Z,0) h'):za (F.zB X Y) KE h:=by
 refine Y0 _ (λK' hk=>?_) H;unfold F.zB;refine zua hc hx hy aD λP Q T h1 l1 hP hQ=>zc rfl ?_
 refine tj hP.1 hP.2.2 hQ.2.2 (by simp only;omega) λz h3 e3=>hk _ _ (Ja l1 e3.hle) ⟨_,T,hP.1.le e3.hle,hP.2.1,e3.ev⟩
def ZQ(hc:Ctx G S N)(hx:NB G S h X x s)(hy:NB G S h Y y u)(aD:2*(s+u)+(500*S+60)<=300000000000)(hs:Sz (x+y) k)(H:∀Z h',h.le h'->NB G S h' Z (x+y) k->KE (Z,0) h'):za (F.Dc X Y) KE h:=by
 refine Y0 _ (λK' hk=>?_) H;unfold F.Dc;refine zua hc hx hy aD λP Q T h1 l1 hP hQ=>zc rfl ?_
 refine zld hP.1 hP.2.2 hQ.2.2 (by simp only;omega) hs λz h3 e3=>hk _ _ (Ja l1 e3.hle) ⟨_,T,hP.1.le e3.hle,hP.2.1,e3.ev⟩
def MQ(hx:NB G S h X x s)(aD:s+(200*S+13)<=300000000000)(H:∀Z h',h.le h'->NB G S h' Z (-x) s->KN Z h'):za (F.Bb X) KN h:=by
 refine zb _ (λK' hk=>?_) H;unfold F.Bb;obtain⟨B,T,h1,h2,h3⟩:=hx;exact ZH h1.high h3 aD λz h4 e4=>hk _ _ e4.hle ⟨B,T,h1.le e4.hle,h2,e4.ev⟩
def zrh(hc:Ctx G S N)(hx:NB G S h X x s)(hy:NB G S h Y y u)(aD:2*(s+u)+(500*S+60)<=300000000000)(hs:Sz (x-y) k)(H:∀Z h',h.le h'->NB G S h' Z (x-y) k->KE (Z,0) h'):za (F.PN X Y) KE h:=by
 refine Y0 _ (λK' hk=>?_) H;unfold F.PN;refine MQ hy zO λZ1 h1 l1 z1=>?_
 refine ZQ hc (hx.le l1) z1 aD (by rw[<-Ub];exact hs) λZ2 h2 l2 z2=>hk _ _ (Ja l1 l2) ?_
 rw[<-Ub]at z2;exact z2
def zrg(hc:Ctx G S N)(hx:NB G S h X x s)(hy:NB G S h Y y u)(ov:y≠0)(aD:2*(s+u*2 ^ (N+1))+(500*S+60)<=300000000000)(H:∀Z h',h.le h'->NB G S h' Z (x*y.inv) (s+u*(2 ^ (N+1)-1))->KE (Z,0) h'):za (F.F1 X Y) KE h:=by
 refine Y0 _ (λK' hk=>?_) H;unfold F.F1;obtain⟨B,T,h1,h2,h3⟩:=hy;have hn:T.length<=N:=TF.i9 hc.vq h1.red h2;have hle:u*(2 ^ (N+1)-1)<=u*2 ^ (N+1):=Jr _ (Nat.sub_le _ _);refine zjz h1 hn h3 ov zO λz h4 e4=>zc rfl ?_
 exact Iz hc (hx.le e4.hle) (Y:=⟨Y.ae,z⟩) ⟨B,T,h1.le e4.hle,h2,e4.ev⟩ zO λZ h5 l5 hZ=>hk _ _ (Ja e4.hle l5) hZ
def zo0(hc:Ctx G S N)(hx:NB G S h X x s)(h0:0<=x)(hg:G x.sqrt)(hs:s<=S)(H:∀Z h',h.le h'->NB G S h' Z x.sqrt S->KE (Z,0) h'):za (F.Dd X) KE h:=by
 refine Y0 _ (λK' hk=>?_) H;unfold F.Dd;obtain⟨B,T,h1,h2,h3⟩:=hx;exact zeh hc h1 h2 h3 h0 hg hs λT' t' z h' hl a1 a2 a3 a4=>zc rfl (hk _ _ hl ⟨_,T',a2,a3,a4⟩)
def Eo(hx:NB G S h X x s)(aD:QS S s*32+(300*S+50)<=300000000000)(H:∀h',h.le h'->Ki (cm x) h'):za (F.Xd X) Ki h:=by
 refine zb (λz h'=>z=cm x) (λK' hk=>?_) λz h' hl e=>by rw[e];exact H h' hl
 unfold F.Xd;obtain⟨B,T,h1,h2,h3⟩:=hx;refine zb (λz h'=>z=cm x) (λK2 aG=>?_) λz h' hl e=>hk _ _ hl e
 unfold F.zjt;exact zjx h1 h3 aD λh' hl=>aG _ _ hl rfl
def Z6d(hc:Ctx G S N)(hx:NB G S h X x s)(hy:NB G S h Y y u)(aD:2*(s+u)+(500*S+60)<=300000000000)(hs:Sz (x-y) k)(fY:QS S k*32+(300*S+50)<=300000000000)(H:∀h',h.le h'->KI (cm (x-y),0) h'):za (F.zi4 X Y) KI h:=by
 refine Y0 (λz h'=>z=cm (x-y)) (λK' hk=>?_) λz h' hl e=>by rw[e];exact H h' hl
 unfold F.zi4;refine zrh hc hx hy aD hs λZ1 h1 l1 z1=>zc rfl ?_
 exact Eo z1 fY λh2 l2=>hk _ _ (Ja l1 l2) rfl
def zf5(hc:Ctx G S N)(hx:NB G S h X x s)(hy:NB G S h Y y u)(aD:2*(s+u)+(500*S+60)<=300000000000)(hs:Sz (x-y) k)(fY:QS S k*32+(300*S+50)<=300000000000)(H1:∀h',h.le h'->x=y->Kb true h')(H0:∀h',h.le h'->x≠y->Kb false h'):za (F.W0 X Y) Kb h:=by
 refine zb (λb h'=>(b=true/\x=y)\/(b=false/\x≠y)) (λK' hk=>?_) λb h' hl hb=>by
  rcases hb with ⟨rfl,e⟩ | ⟨rfl,e⟩
  exact H1 h' hl e;exact H0 h' hl e
 unfold F.W0;refine Z6d hc hx hy aD hs fY λh1 l1=>zk rfl ?_
 by_cases e:x=y
 . have:cm (x-y)=0:=Qj.2 (U9.2 e);exact hk _ _ l1 (.inl ⟨by rw[this];rfl,e⟩)
 . have:cm (x-y)≠0:=λhh=>e (U9.1 (Qj.1 hh))
   exact hk _ _ l1 (.inr ⟨by simpa using this,e⟩)
def Sz.zero:Sz 0 0:=by
 have:=Sz.int (n:=0) (s:=0) zD;exact this
def MR(hc:Ctx G S N)(hx:NB G S h X x s)(hy:NB G S h Y x u)(aD:2*(s+u)+(500*S+60)<=300000000000)(H:∀h',h.le h'->Kb true h'):za (F.W0 X Y) Kb h:=by
 have hS:=hc.small;refine zf5 hc hx hy aD (k:=0) (by rw[Re.sub_self];exact Sz.zero) (by rw[Yu];omega) (λh1 l1 _=>H h1 l1) λh1 l1 cd=>absurd rfl cd
def z79(hx:NR h Q v)(hq:BR s v)(H:∀z h',h.le h'->NB G S h' z (Jn v) s->KN z h'):za (F.Xp Q) KN h:=by
 refine zb _ (λK' hk=>?_) H;unfold F.Xp;exact Z5q hx hq λA h2 bH hp=>hk _ _ bH (Zjq rfl hp hq.sz)
def MT{n:Int}(h1:-9223372036854775808<=n)(h2:n<=9223372036854775807)(H:∀z h',h.le h'->NB G S h' z (Jn (n:Rat)) 2->KN z h'):za (F.Y4 n) KN h:=by
 refine zb _ (λK' hk=>?_) H;unfold F.Y4;refine Y3 h1 h2 λz h3 bj hz=>?_
 exact z79 hz (zul h1 h2) λw h4 cf hw=>hk _ _ (Ja bj cf) hw
def znx(H:Ki 0 h):za (F.F3 0 0) Ki h:=zw _ (λK' hk=>by unfold F.F3;exact zc rfl hk) H
def zub(H:KV (⟨X,Y⟩,0) h):za (F.PX X Y 0) KV h:=zw _ (λK' hk=>by unfold F.PX;exact zc rfl hk) H
def zf9(hc:Ctx G S N)(hv:VB G S h V x y s)(hw:VB G S h W z w u)(aD:4*(s+u)+(500*S+60)<=300000000000)(H:∀Z h',h.le h'->NB G S h' Z (x*z+y*w) (s+u+(s+u)+1)->KE (Z,0) h'):za (F.F4 V W) KE h:=by
 refine Y0 _ (λK' hk=>?_) H;unfold F.F4;refine Iz hc hv.1 hw.1 zO λZ1 h1 l1 z1=>?_
 refine Iz hc (hv.2.le l1) (hw.2.le l1) zO λZ2 h2 l2 z2=>?_
 have bS:=Ja l1 l2;refine zj (λ_ h'=>h2.le h') (λ_ h3 l3=>?_) (zc rfl (zc rfl (Jf _)));exact ZQ hc (z1.le (Ja l2 l3)) (z2.le l3) zO (z1.sz.add z2.sz) λZ3 h4 l4 z3=>hk _ _ (Ja bS (Ja l3 l4)) z3
def zj0(hc:Ctx G S N)(hv:VB G S h V x y s)(aD:8*s+(500*S+60)<=300000000000)(H:∀Z h',h.le h'->NB G S h' Z (x*x+y*y) (s+s+(s+s)+1)->KE (Z,0) h'):za (F.PV V) KE h:=by
 refine Y0 _ (λK' hk=>?_) H;unfold F.PV;exact zf9 hc hv hv zO λZ h1 l1 z1=>hk _ _ l1 z1
def zsw(hc:Ctx G S N)(hv:VB G S h V x y s)(aD:8*s+(500*S+60)<=300000000000)(hs:s+s+(s+s)+1<=S)(hg:G (x*x+y*y).sqrt)(h0:0<=x*x+y*y)(H:∀Z h',h.le h'->NB G S h' Z (x*x+y*y).sqrt S->KE (Z,0) h'):za (F.z9t V) KE h:=by
 refine Y0 _ (λK' hk=>?_) H;unfold F.z9t;refine zj0 hc hv aD λZ1 h1 l1 z1=>zc rfl ?_
 exact zo0 hc z1 h0 hg hs λZ2 h2 l2 z2=>hk _ _ (Ja l1 l2) z2
def zlj(hc:Ctx G S N)(hv:VB G S h V x y s)(hw:NB G S h X z u)(aD:2*(s+u)+(500*S+60)<=300000000000)(H:∀Z h',h.le h'->VB G S h' Z (x*z) (y*z) (s+u)->KV (Z,0) h'):za (F.PY V X) KV h:=by
 refine Y0 _ (λK' hk=>?_) H;unfold F.PY;refine Iz hc hv.1 hw aD λZ1 h1 l1 z1=>?_
 refine Iz hc (hv.2.le l1) (hw.le l1) aD λZ2 h2 l2 z2=>?_
 exact znx (zub (hk _ _ (Ja l1 l2) ⟨z1.le l2,z2⟩))
def Z6r(hc:Ctx G S N)(hv:VB G S h V x y s)(hw:VB G S h W z w u)(aD:2*(s+u)+(500*S+60)<=300000000000)(H:∀Z h',h.le h'->VB G S h' Z (x+z) (y+w) (s+u+1)->KV (Z,0) h'):za (F.zi5 V W) KV h:=by
 refine Y0 _ (λK' hk=>?_) H;unfold F.zi5;refine ZQ hc hv.1 hw.1 aD (hv.1.sz.add hw.1.sz) λZ1 h1 l1 z1=>?_
 refine ZQ hc (hv.2.le l1) (hw.2.le l1) aD (hv.2.sz.add hw.2.sz) λZ2 h2 l2 z2=>?_
 exact znx (zub (hk _ _ (Ja l1 l2) ⟨z1.le l2,z2⟩))
def Z6s(hv:VB G S h V x y s)(aD:s+(200*S+13)<=300000000000)(H:∀Z h',h.le h'->VB G S h' Z (-x) (-y) s->K1 Z h'):za (F.zi6 V) K1 h:=by
 refine zb _ (λK' hk=>?_) H;unfold F.zi6;refine MQ hv.1 aD λZ1 h1 l1 z1=>?_
 exact MQ (hv.2.le l1) aD λZ2 h2 l2 z2=>hk _ _ (Ja l1 l2) ⟨z1.le l2,z2⟩
def zh2(hv:VB G S h V x y s)(aD:s+(200*S+13)<=300000000000)(H:∀Z h',h.le h'->VB G S h' Z (-y) x s->K1 Z h'):za (F.KF V) K1 h:=by
 refine zb _ (λK' hk=>?_) H;unfold F.KF;exact MQ hv.2 aD λZ1 h1 l1 z1=>hk _ _ l1 ⟨z1,hv.1.le l1⟩
def zlg(hc:Ctx G S N)(hv:VB G S h V x y s)(hw:VB G S h W z w u)(aD:4*(s+u)+(500*S+60)<=300000000000)(H:∀Z h',h.le h'->NB G S h' Z (-y*z+x*w) (s+u+(s+u)+1)->KE (Z,0) h'):za (F.PZ V W) KE h:=by
 refine Y0 _ (λK' hk=>?_) H;unfold F.PZ;refine zh2 hv zO λZ1 h1 l1 z1=>?_
 exact zf9 hc z1 (hw.le l1) zO λZ h2 l2 z2=>hk _ _ (Ja l1 l2) z2
def zli(hc:Ctx G S N)(hv:VB G S h V x y s)(hw:VB G S h W x y u)(aD:2*(s+u)+(500*S+60)<=300000000000)(H:∀h',h.le h'->Kb true h'):za (F.Bc V W) Kb h:=by
 refine zb (λb h'=>b=true) (λK' hk=>?_) λb h' hl hb=>by rw[hb];exact H h' hl
 unfold F.Bc;refine MR hc hv.1 hw.1 aD λh1 l1=>zk rfl ?_
 exact MR hc (hv.2.le l1) (hw.2.le l1) aD λh2 l2=>hk _ _ (Ja l1 l2) rfl
def zlh(hc:Ctx G S N)(hv:VB G S h V x y s)(hw:VB G S h W z w u)(aD:2*(s+u)+(500*S+60)<=300000000000)(fY:QS S (s+u+1)*32+(300*S+50)<=300000000000)(H1:∀h',h.le h'->x=z/\y=w->Kb true h')(H0:∀h',h.le h'->¬(x=z/\y=w)->Kb false h'):za (F.Bc V W) Kb h:=by
 refine zb (λb h'=>(b=true/\x=z/\y=w)\/(b=false/\¬(x=z/\y=w))) (λK' hk=>?_) λb h' hl hb=>by
  rcases hb with ⟨rfl,e⟩ | ⟨rfl,e⟩
  exact H1 h' hl e;exact H0 h' hl e
 unfold F.Bc;refine zf5 hc hv.1 hw.1 aD (hv.1.sz.sub hw.1.sz) fY (λh1 l1 e1=>zk rfl ?_) λh1 l1 e1=>zc rfl (hk _ _ l1 (.inr ⟨rfl,λhh=>e1 hh.1⟩))
 exact zf5 hc (hv.2.le l1) (hw.2.le l1) aD (hv.2.sz.sub hw.2.sz) fY (λh2 l2 e2=>hk _ _ (Ja l1 l2) (.inl ⟨rfl,e1,e2⟩)) λh2 l2 e2=>hk _ _ (Ja l1 l2) (.inr ⟨rfl,λhh=>e2 hh.2⟩)
def zo6(hv:VB G S h V x y s)(fY:QS S s*32+(300*S+50)<=300000000000)(H1:∀h',h.le h'->x=0/\y=0->Kb true h')(H0:∀h',h.le h'->¬(x=0/\y=0)->Kb false h'):za (F.PU V) Kb h:=by
 refine zb (λb h'=>(b=true/\x=0/\y=0)\/(b=false/\¬(x=0/\y=0))) (λK' hk=>?_) λb h' hl hb=>by
  rcases hb with ⟨rfl,e⟩ | ⟨rfl,e⟩
  exact H1 h' hl e;exact H0 h' hl e
 unfold F.PU;refine Eo hv.1 fY λh1 l1=>Zs (λe1=>?_) λe1=>hk _ _ l1 (.inr ⟨rfl,λhh=>e1 (by rw[hh.1];exact xk)⟩)
 refine Eo (hv.2.le l1) fY λh2 l2=>?_
 by_cases e2:y=0;exact hk _ _ (Ja l1 l2) (.inl ⟨by rw[e2,xk];rfl,Qj.1 e1,e2⟩);exact hk _ _ (Ja l1 l2) (.inr ⟨by simpa using λhh=>e2 (Qj.1 hh),λhh=>e2 hh.2⟩)
end
end Den
end
