/- Part 5 of the tools of the proof. -/
import Derived.Test.YtmmloncoopohfaaGreatDoorPartm4
set_option linter.all false
open Go.IntKind
open Den (zO zD zS zV)
open Den.Hp renaming le_trans→Ja,le_refl→Jf,cD→Uy,cl→Gc
open List renaming take_succ_eq_append_getElem→Jc,take_of_length_le→Je,length_cons→Ji,length_take→Jk,replicate→Jl,getElem?_eq_getElem→Jp,length_append→Jq,length_eq_zero_iff→Ju,mem_append_left→Jv,getElem_mem→Jy,all_eq_true→J1,getElem_append_left→J2,getElem_append_right→J3,take_length→J5,append_assoc→J8,getElem_cons_zero→Ud,mem_append_right→Ue,mem_append→Ul,length_drop→Uv,mem_singleton→Uz,length_eq_one_iff→U0,take_append_of_le_length→U4,take_append_drop→Ge,reverse_cons→Gj,mem_cons→Gk,getElem?_map→Gr,length_pos_iff→Gw,mem_cons_of_mem→Gx,replicate_append_replicate→Gy,drop_zero→Tf,length_reverse→Tg,append_nil→Tm,zipWith→To,replicate_succ→Tu,flatMap_cons→T3,length_map→Ph,getElem_take→Ps,mem_replicate→Lo
open Nat renaming le_refl→Jd,mul_le_mul_right→Jm,le_trans→Jo,mul_le_mul_left→Jr,zero_le→Jt,lt_or_ge→Jx,pow_le_pow_right→Jz,mul_comm→J4,mul_assoc→J6,two_pow_pos→J7,add_mul→J9,pow_succ→Uc,mul_add→U5,mul_one→U6,lt_of_le_of_lt→U7,pow_add→Gm,eq_zero_or_pos→Gs,mul_le_mul→Gt,add_sub_cancel_left→Gz,lt_succ_self→G5,div_le_self→G6,pow_lt_pow_right→G8,not_lt_zero→Te,zero_mul→Pm,le_of_dvd→Pu,le_mul_of_pos_right→P7,le_of_not_lt→P9,one_mul→La
open Int renaming natAbs_natCast→Jh,natCast_mul→Ug,sign_eq_neg_one_of_neg→Us,natAbs_mul→Gf,sign_eq_one_of_pos→Gi,one_mul→L5
open Classical renaming byContradiction→Uu,em→Pp,choose_spec→Ll
open Rat renaming mul_nonneg→U8,intCast_natCast→Gb,num_eq_zero→Td,div_mul_cancel→Tr,mul_pos→T5,mul_inv_cancel→Pg,intCast_mul→Pz
open Den.Value renaming leaf→Tb
open Nat.Coprime renaming mul_right→Lm
section
namespace Den
open Go Iv Pq
def zI:aE:=⟨false,zd⟩
def Zp6{n:Nat}:Yi n (nc zI)=(Jl n zI).flatMap nc:=by
 unfold Yi;induction n with
 | zero=>rfl
 | succ n ih=>rw[Tu,Tu,List.flatten_cons,T3,ih]
def ui(d:Int)(o:List Int)(i:Nat):List Int:=(o.take i).map (·/d)++o.drop i
def zpi{d:Int}{o:List Int}{i:Nat}:(ui d o i).length=o.length:=by unfold ui;simp;omega
def Zdv{d:Int}{o:List Int}{i:Nat}(hi:i<o.length):(ui d o i)[i]'(by rw[zpi];exact hi)=o[i]:=by
 unfold ui;rw[J3 (by simp;omega)];simp only[Ph,Jk];rw[List.getElem_drop];congr 1;omega
def Zav{d:Int}{o:List Int}{i:Nat}(hi:i<o.length):(ui d o i).set i (o[i]/d)=ui d o (i+1):=by
 unfold ui;have hl:((o.take i).map (·/d)).length=i:=by simp;omega
 rw[List.set_append_right _ _ zO,hl,Nat.sub_self,List.drop_eq_getElem_cons hi,List.set_cons_zero,Jc hi,List.map_append];simp
def Zaw{d:Int}{o:List Int}:ui d o 0=o:=by unfold ui;simp
def Zdu{d:Int}{o:List Int}:ui d o o.length=o.map (·/d):=by unfold ui;simp
def zzr{p:List Rat}(h:trim p≠[]):∃hn:(ft p).length-1<(ft p).length,(ft p)[(ft p).length-1]=1:=by
 have cI:0<(trim p).length:=Gw.2 h;have hl:=WI (p:=p);refine⟨zO,?_⟩;rw[<-dM (show(ft p).length-1<(ft p).length by omega),zoj,hl];show(((1:Int):Rat))/lead p*lead p=1;rw[Tr (Ac h)];rfl
section
variable {h:Hp}{A:Nat}{l:Sl}{p:List Rat}{K:zY Sl}
def Z06(hp:PL h A l p)(hlen:p.length<=100)(hA:1<=A/\A<=1000)(H:∀y h' us,h.le h'->IL h' 300000 y us->us.length=(trim p).length->(trim p≠[]->Prim us (trim p))->K y h'):za (F.V7 l) K h:=by
 refine zb (λy h'=>∃us,IL h' 300000 y us/\us.length=(trim p).length/\(trim p≠[]->Prim us (trim p))) (λK' hk=>?_) λy h' hl ⟨us,g1,g2,g3⟩=>H y h' us hl g1 g2 g3
 unfold F.V7;refine DR hp zO zO λr1 h1 aP eF=>?_
 obtain⟨M,hM⟩:∃M,M=ft p:=⟨_,rfl⟩;have lM:M.length=(trim p).length:=by rw[hM,WI]
 have lM2:M.length<=100:=by rw[lM];exact Jo cF hlen
 have DT:trim p≠[]->∃hn:M.length-1<M.length,M[M.length-1]=1:=λhh=>by rw[hM];exact zzr hh
 have hmul:∀i (h1:i<(trim p).length) (h2:i<M.length),(trim p)[i]=lead p*M[i]:=λi g1 g2=>by
  simp only[hM];by_cases h0:trim p=[];rw[h0]at g1;simp at g1
  . rw[<-dM g1,<-dM (show i<(ft p).length by rw[<-hM];exact g2),zoj,bA];have:=Tr (a:=(((1:Int):Rat))) (Ac h0);have e1:lead p*((((1:Int):Rat))/lead p)=1:=by rw[Rat.mul_comm,this];rfl
    rw[<-Rat.mul_assoc,e1,Rat.one_mul]
 rw[<-hM]at eF;have gT:=eF.len;have bM:=eF.bound;have abi:∀x∈M,x.den<W ^ (A+(1+A)):=λx hx=>by
  have:=(bM x hx).2;unfold Lt at this;simpa using this
 have lcb:∀i,Lt (1+100*(A+(1+A))) ((fi 1 (M.take i):Nat):Int):=λi=>by
  unfold Lt;rw[Jh];refine Nat.lt_of_lt_of_le (Z95 (k:=A+(1+A)) (j:=1) (λx hx=>abi x (List.mem_of_mem_take hx)) zD) (Jz Xi ?_);have:(M.take i).length<=100:=by rw[Jk];omega
  have:=Jm (A+(1+A)) this;omega
 have lcp:∀i,0<fi 1 (M.take i):=λi=>(iY (l:=M.take i) (m:=1) zD).1
 refine Qq zD zD λo h2 bH ho=>?_
 have jL:=eF.le bH;refine Za (λst h'=>h2.le h'/\∃i:Nat,st.2.1=(i:Int)/\i<=M.length/\NI h' (tI2 st.1) ((fi 1 (M.take i):Nat):Int)) (λst=>(M.length-st.2.1).toNat)
  ⟨Jf _,0,rfl,Jt _,ho⟩ ?_
 rintro⟨s,_,_⟩ h3 ⟨bj,i,hi,da,hc⟩;simp only at hi hc;subst hi;refine zg (λh4=>?_) (λh4=>?_)
 . simp only at h4;have aA:i<M.length:=zO;refine(jL.le bj).get i rfl aA λx hx bx=>?_
   have okc:Ok ((fi 1 (M.take i):Nat):Int):=(lcb i).ok zO;have DU:Ok ((M[i].den:Nat):Int):=bx.2.ok zO;refine zoz hc hx.2 okc DU λg h5 cj hg=>?_
   rw[Jh,Jh]at hg;obtain⟨G,hG⟩:∃G,G=Nat.gcd (fi 1 (M.take i)) M[i].den:=⟨_,rfl⟩;rw[<-hG]at hg;have hGp:0<G:=by rw[hG];exact Nat.gcd_pos_of_pos_left _ (lcp i)
   have abj:G<=M[i].den:=by rw[hG];exact Pu M[i].den_pos (Nat.gcd_dvd_right _ _)
   have okg:Ok ((G:Nat):Int):=DU.le (by rw[Jh,Jh];exact abj);refine Hl (hx.2.le cj) hg DU okg zO λz w h6 q r db hz hw ub=>?_
   have eq:q=((M[i].den/G:Nat):Int):=by rw[ub.div zO (.inl zO)];exact Zyw
   have VJ:Ok q:=by rw[eq];exact DU.le (by rw[Jh,Jh];exact G6 _ _)
   refine Xq ((hc.le cj).le db) hz okc VJ λv h7 gj hv=>⟨⟨Ja bj (Ja cj (Ja db gj)),i+1,?_,aA,?_⟩,?_⟩
   simp only;rw[aM zO];rfl
   . rw[Zmw aA,<-hG];rw[eq,<-Ug]at hv;exact hv
   simp only;rw[aM zO];omega
 . simp only at h4;have aA:i=M.length:=zO;subst aA;rw[J5]at hc;obtain⟨L,hL⟩:∃L,L=fi 1 M:=⟨_,rfl⟩;have hLp:0<L:=by have:=lcp M.length;rw[J5]at this;rw[hL];exact this
   have hLb:Lt (1+100*(A+(1+A))) ((L:Nat):Int):=by have:=lcb M.length;rw[J5]at this;rw[hL];exact this
   have hLd:∀x∈M,x.den ∣ L:=by rw[hL];exact(iY (l:=M) (m:=1) zD).2.2
   rw[<-hL]at hc;obtain⟨o2,dA⟩:∃o2,o2=Mb L M:=⟨_,rfl⟩;have lo:o2.length=M.length:=by rw[dA,Zpl]
   have og:∀i (g:i<M.length),o2[i]'zO=M[i].num*((L/M[i].den:Nat):Int):=λi g=>by simp only[dA];exact Zpk g
   have ob:∀x∈o2,Lt 300000 x:=λx hx=>by
    obtain⟨i,hi,rfl⟩:=List.mem_iff_getElem.1 hx;have hiM:i<M.length:=zO;rw[og i hiM];have b1:=(bM _ (Jy hiM)).1;have b2:Lt (1+100*(A+(1+A))) ((L/M[i].den:Nat):Int):=by
     unfold Lt at hLb |-
     rw[Jh]at hLb |-
     exact U7 (G6 _ _) hLb
    exact(b1.mul b2).mono zO
   obtain⟨d,hd⟩:∃d,d=fj 0 o2:=⟨_,rfl⟩;have hdp:0<M.length->0<d:=λcI=>by
    have h0:trim p≠[]:=λhh=>by rw[hh,List.length_nil]at lM;omega
    obtain⟨hn,e1⟩:=DT h0;rw[hd];refine zw2 (x:=o2[M.length-1]'zO) (Jy _) ?_;rw[og _ hn,e1];show(1:Int)*((L/1:Nat):Int)≠0;rw[Nat.div_one];omega
   have gb:∀i,Ok ((fj 0 (o2.take i):Nat):Int):=λi=>by
    rcases Gs (fj 0 (o2.take i))with h0 | h0
    rw[h0];unfold Ok;rw[show((0:Nat):Int).natAbs=0 from rfl,qe];decide
    . have cd:∃x∈o2.take i,x≠0:=by
       by_cases cr:∀x∈o2.take i,x=0
       . have:fj 0 (o2.take i)=0:=by
          have key:∀(t:List Int),(∀x∈t,x=0)->fj 0 t=0:=by
           intro t;induction t with
           | nil=>intro _;rfl
           | cons a t ih=>
             intro ht;have ha:=ht a zS;subst ha;show fj (Nat.gcd 0 0) t=0;exact ih λx hx=>ht x (by simp[hx])
          exact key _ cr
         omega
       exact Uu λhn=>cr λx hx=>Uu λh1=>hn ⟨x,hx,h1⟩
      obtain⟨x,hx,iX⟩:=cd;have Hx:=(fV (l:=o2.take i) (g:=0)).2 x hx;have iS:Ok x:=(ob x (List.mem_of_mem_take hx)).ok zD;refine iS.le ?_;rw[Jh];exact Pu (Int.natAbs_pos.2 iX) (Int.ofNat_dvd_left.1 Hx)
   refine J' (size:=2) M.length M.length (by rw[gT]) (by rw[gT]) (Jd _) zO zO rfl λm h5 ml mc how=>?_
   have hzr:Yi M.length [Value.bool false,zN]=(Jl M.length zI).flatMap nc:=Zp6;rw[hzr]at how;have abk:=jL.le bj;refine Za (λst h'=>∃D,h3.le D/\∃i:Nat,st.2.1=(i:Int)/\i<=M.length/\NI D (tI2 st.1) ((fj 0 (o2.take i):Nat):Int)/\∃xs:List aE,xs.length=M.length/\Own D h' 2 m (xs.flatMap nc)/\NL D 300000 (xs.take i) (o2.take i)) (λst=>(M.length-st.2.1).toNat)
    ⟨h3,Jf _,0,rfl,Jt _,NI.zero,_,zS,how,⟨rfl,λk g1 _=>by simp at g1⟩⟩ ?_
   rintro⟨s2,_,_⟩ h6 ⟨D,hD,i,hi,da,hg,xs,AK,vI,hnl⟩;simp only at hi hg;subst hi;refine zg (λh7=>?_) (λh7=>?_)
   . simp only at h7;have aA:i<M.length:=zO;refine abk.cT i (Ja hD vI.1) rfl aA λx hx bx=>?_
     have DU:Ok ((M[i].den:Nat):Int):=bx.2.ok zO;have iN:Ok ((L:Nat):Int):=hLb.ok zO;have Zyd:=M[i].den_pos;refine vI.call (K1:=λv D'=>NI D' v.1 ((L/M[i].den:Nat):Int)) (Hl (hc.le hD) (hx.2.le hD) iN DU zO λz w h8 q r gR hz hw ub=>by
      have eq:q=((L/M[i].den:Nat):Int):=by rw[ub.div zO (.inl zO)];exact Zyw
      rw[eq]at hz;exact hz) λv D1 h8 gR WK hv=>?_
     have VJ:Ok ((L/M[i].den:Nat):Int):=iN.le (by rw[Jh,Jh];exact G6 _ _);refine WK.call (K1:=λv D'=>NI D' v (o2[i]'zO)) (Xq ((hx.1.le hD).le gR) hv (bx.1.ok zO) VJ λz h9 _ hz=>by rw[og i aA];exact hz) λz D2 h9 nM WL hz=>?_
     refine Ma WJ zD (x:=z) i WL rfl zO (Z9d z) λaZ DV _=>?_
     refine Zkd i DV.rd rfl (by simp;omega) ?_;have ez:(xs.set i z)[i]'(by simp;omega)=z:=zS;rw[ez];have VK:Ok (o2[i]'zO):=(ob _ (Jy _)).ok zD;refine DV.call (K1:=λv D'=>NI D' v ((fj 0 (o2.take (i+1)):Nat):Int)) (zoz ((hg.le gR).le nM) hz (gb i) VK λy bV _ hy=>by
      rw[Jh]at hy;rw[Jc (show i<o2.length by omega),jm];exact hy) λy D3 bV rI WM hy=>?_
     refine⟨⟨D3,Ja hD (Ja gR (Ja nM rI)),i+1,?_,aA,hy,xs.set i z,by simpa using AK,WM,?_⟩,?_⟩;simp only;rw[aM zO];rfl
     . have e1:(xs.set i z).take (i+1)=xs.take i++[z]:=by
        rw[Jc (by simp;omega),List.take_set_of_le (Jd _)];simp
       rw[e1,Jc (show i<o2.length by omega)];exact NL.snoc (hnl.le (Ja gR (Ja nM rI))) (hz.le rI) (ob _ (Jy _))
     simp only;rw[aM zO];omega
   . simp only at h7;have aA:i=M.length:=zO;subst aA;rw[<-lo,J5,<-hd]at hg;rw[Je zO,Je zO]at hnl;have hoi:OI D h6 300000 m (ui (d:Int) o2 0):=by rw[Zaw];exact⟨xs,vI,hnl⟩
     refine Za (λst h'=>∃D',D.le D'/\∃i:Nat,st.1=(i:Int)/\i<=M.length/\OI D' h' 300000 m (ui (d:Int) o2 i)) (λst=>(M.length-st.1).toNat) ⟨D,Jf _,0,rfl,Jt _,hoi⟩ ?_;rintro⟨_,_⟩ h8 ⟨D',wZ,i,hi,da,xb⟩;simp only at hi;subst hi;refine zg (λh9=>?_) (λh9=>?_)
     . simp only[ml]at h9;have aA:i<M.length:=zO;have WN:i<o2.length:=zO;refine xb.get i rfl (by rw[zpi];omega) λx hx bx=>?_
       rw[Zdv WN]at hx bx;have abQ:=hdp zO;have DU:Ok ((d:Nat):Int):=by have:=gb o2.length;rw[J5,<-hd]at this;exact this
       have ddvd:((d:Nat):Int) ∣ o2[i]:=by rw[hd];exact(fV (l:=o2) (g:=0)).2 _ (Jy _)
       refine xb.call (K1:=λv Ae=>NI Ae v.1 (o2[i]/(d:Int))) (Hl hx (hg.le wZ) (bx.ok zD) DU zO λz w aZ q r _ hz _ ub=>by
        rw[ub.div zO (.inl zO)]at hz;exact hz) λv D2 aZ jw abl hv=>?_
       have bq:Lt 300000 (o2[i]/(d:Int)):=by
        unfold Lt at bx |-
        exact U7 (Int.natAbs_ediv_le_natAbs _ _) bx
       refine abl.set i rfl (by rw[zpi];omega) hv bq λbV WO=>⟨⟨D2,Ja wZ jw,i+1,?_,aA,?_⟩,?_⟩
       simp only;rw[aM zO];rfl;rw[Zav WN]at WO;exact WO;simp only;rw[aM zO];omega
     . simp only[ml]at h9;have aA:i=o2.length:=zO;subst aA;rw[Zdu]at xb;refine hk _ _ (Ja aP (Ja bH (Ja bj (Ja hD (Ja wZ xb.dT))))) ⟨_,xb.il,by simp;omega,λh0=>?_⟩;obtain⟨hn,e1⟩:=DT h0;have hM0:M≠[]:=Gw.1 zO;have lY:Prim (o2.map (·/(d:Int))) M:=by
        refine BJ hM0 hLp lo (λi g1 g2=>?_) (by rw[Jh];exact hd) λh1=>?_
        rw[og i g2];exact BI (hLd _ (Jy g2))
        . rw[zzf];have e2:o2[o2.length-1]'zO=((L:Nat):Int):=by
           have:=og (M.length-1) hn;rw[e1]at this;have e3:o2[o2.length-1]'zO=o2[M.length-1]'zO:=by congr 1;omega
           rw[e3,this];show(1:Int)*((L/1:Nat):Int)=_;rw[Nat.div_one,L5]
          rw[e2];have:=hdp zO;exact Int.mul_pos zO zO
       exact lY.scale (Ac h0) zO hmul
end
end Den
end

section
namespace Den
open Go Iv Pq
section
end
end Den
end

section
namespace Den
open Go Iv Pq
section
variable {h h0:Hp}{A B C:Nat}{l:Sl}{p q:List Rat}{f:Nat->Rat}
def PL.re(hp:PL h B l p)(hb:∀v∈p,BR C v):PL h C l p:=by
 obtain⟨xs,h1,h2,h3⟩:=hp;exact⟨xs,h1,⟨h2.1,λk g1 g2=>⟨(h2.2 k g1 g2).1,hb _ (Jy g2)⟩⟩,h3⟩
def gB(A B:Nat):Nat->Nat
 | 0=>A
 | k+1=>2*gB A B k+2*B+1
def Z93{A B k:Nat}:gB A B (k+1)=2*gB A B k+2*B+1:=rfl
def Z92{A B:Nat}:∀{k j:Nat},k<=j->gB A B k<=gB A B j
 | k,0,h=>by
                 have:k=0:=zO;subst this;exact Jd _
 | k,j+1,h=>by
   by_cases hk:k=j+1;subst hk;exact Jd _
   . have:=Z92 (A:=A) (B:=B) (k:=k) (j:=j) zO;rw[Z93];omega
def Z0h{b:Nat->Rat}{d N:Nat}(hf:∀j,BR A (f j))(hb:∀j,BR B (b j))(h0:b d≠0):∀{k j:Nat},BR (gB A B k) (iD b d N f k j)
 | 0,j=>hf j
 | k+1,j=>by
   have ih:=λj=>Z0h (N:=N) hf hb h0 (k:=k) (j:=j)
   show BR (gB A B (k+1)) (pA b d (N-1-k) (iD b d N f k) j);rw[Z93];unfold pA;split
   . have h1:=((ih (N-1-k+d)).div (hb d) (NR.kq (y:=zT) h0)).mul (hb (j-(N-1-k)));exact((ih j).sub h1).mono zO
   exact(ih j).mono zO
def zme{q' r' qs rs:List Rat}(fD:trim q≠[])(hc:∀j,conv (co qs) (co q) j+co rs j=co p j)(hz:∀j,(trim q).length-1<=j->co rs j=0)(hlen:qs.length<=1001)(gF:q'.length<=1001)
 (hk:trim (jx (mulL q' q) r')=trim p) (hr:r'.length<=(trim q).length-1):trim qs=trim q'/\trim rs=trim r':=by
 have hb:co q ((trim q).length-1)≠0:=Ac fD;have cI:0<(trim q).length:=Gw.2 fD;have:=rP (q:=co qs) (q':=co q') (b:=co q) (r:=co rs) (r':=co r') (d:=(trim q).length-1) (n:=1001) hb (λi hi=>by rw[<-bA,eC zO]) (λi hi=>eC zO) (λi hi=>eC zO) hz (λi hi=>eC zO) λi=>by
  rw[hc];have e:co (trim (jx (mulL q' q) r')) i=co (trim p) i:=by rw[hk]
  rw[bA,bA,jK,sN]at e;exact e.symm
 exact⟨Yj this.1,Yj this.2⟩
end
end Den
end

section
namespace Den
open Go Iv Pq
section
variable {h:Hp}{B C:Nat}{l m:Sl}{p q:List Rat}
def br1{p:List Rat}(h:(p.all λv=>decide (v.num.natAbs<4294967296/\v.den<4294967296))=true):∀v∈p,BR 1 v:=λv hv=>by
 have:=of_decide_eq_true (J1.1 h v hv);refine⟨?_,?_⟩;unfold Lt;rw[Nat.pow_one,Dw];exact this.1;unfold Lt;rw[Nat.pow_one,Dw,Jh];exact this.2
def PL.sO(hp:PL h B l p)(hq:p=q)(hb:(q.all λv=>decide (v.num.natAbs<4294967296/\v.den<4294967296))=true):PL h 1 l q:=by
 subst hq;exact hp.re (br1 hb)
def zwx{k j N:Nat}(hp:PL h 1 l p)(hq:PL h 1 m q)(fD:trim q≠[])(hk:k<=8):BR 2000 (iD (co q) ((trim q).length-1) N (co p) k j):=
 (Z0h (λj=>BR.co hp.bound zD j) (λj=>BR.co hq.bound zD j) (Ac fD)).mono (Jo (Z92 hk) zD)
def zjb{KK:Sl×Sl->Hp->Prop}(q' r':List Rat)(hp:PL h 1 l p)(hq:PL h 1 m q)(hlen:p.length<=7)(gF:q.length<=7)(fD:trim q≠[])(hk:trim (jx (mulL q' q) r')=trim p)(hr:r'.length<=(trim q).length-1)(VI:q'.length<=7)
 (hb:((trim q').all λv=>decide (v.num.natAbs<4294967296/\v.den<4294967296))=true) (je:((trim r').all λv=>decide (v.num.natAbs<4294967296/\v.den<4294967296))=true)
 (H:∀y z h',h.le h'->PL h' 1 y (trim q')->PL h' 1 z (trim r')->KK (y,z) h'):za (F.qj l m) KK h:=by
 have tp:=cF (p:=p);refine zwm hp hq zO zO zD fD (C:=2000) (λk j hk=>zwx hp hq fD zO) zD λy z h' qs rs hl hy hz lq lr hc fB=>?_
 obtain⟨e1,e2⟩:=zme fD hc fB lq zO hk hr;exact H y z h' hl (hy.sO e1 hb) (hz.sO e2 je)
end
end Den
end

section
namespace Den
open Go Iv Pq
section
end
end Den
end

section
namespace Den
open Go Iv Pq
def pB(st:Nat×Int)(v:Rat):Nat×Int:=if v.num.sign=0 then st else if st.2=- v.num.sign then (st.1+1,v.num.sign)else (st.1,v.num.sign)
def sP(ps:zV)(c:Rat):Nat×Int:=ps.foldl (λst p=>pB st (ev p c)) (0,0)
def chN(ps:zV)(c:Rat):Nat:=(sP ps c).1
def Zdg{ps:zV}{p:List Rat}{c:Rat}:sP (ps++[p]) c=pB (sP ps c) (ev p c):=by unfold sP;rw[List.foldl_append];rfl
def Zal{ps:zV}{c:Rat}:(sP ps c).1<=ps.length/\-1<=(sP ps c).2/\(sP ps c).2<=1:=by
 have key:∀(qs:zV) (st:Nat×Int),(-1<=st.2/\st.2<=1)->(qs.foldl (λst p=>pB st (ev p c)) st).1<=st.1+qs.length/\-1<=(qs.foldl (λst p=>pB st (ev p c)) st).2/\(qs.foldl (λst p=>pB st (ev p c)) st).2<=1:=by
  intro qs;induction qs with
  | nil=>intro st h;exact⟨Jd _,h⟩
  | cons q qs ih=>
    intro st h;have hs:-1<=(ev q c).num.sign/\(ev q c).num.sign<=1:=by
     rcases Int.lt_trichotomy (ev q c).num 0 with h1 | h1 | h1
     rw[Us h1];omega;rw[h1];decide;rw[Gi h1];omega
    have h2:(pB st (ev q c)).1<=st.1+1/\-1<=(pB st (ev q c)).2/\(pB st (ev q c)).2<=1:=by
     unfold pB;split;omega;split<;>(simp only;omega)
    have h3:=ih (pB st (ev q c)) h2.2;simp only[List.foldl_cons,Ji];omega
 have:=key ps (0,0) zD;unfold sP;omega
def lh(h:Hp)(B:Nat)(l:Sl)(ps:zV):Prop:=∃ss:List Sl,Rd h 1 l (ss.map bO)/\ss.length=ps.length/\∀k (h1:k<ss.length) (h2:k<ps.length),PL h B ss[k] ps[k]
def lh.le{h h':Hp}{B:Nat}{l:Sl}{ps:zV}(hq:lh h B l ps)(hl:h.le h'):lh h' B l ps:=by
 obtain⟨ss,h1,h2,h3⟩:=hq;exact⟨ss,h1.le hl,h2,λk g1 g2=>(h3 k g1 g2).le hl⟩
def lh.len{h:Hp}{B:Nat}{l:Sl}{ps:zV}(hq:lh h B l ps):l.len=ps.length:=by
 obtain⟨ss,h1,h2,h3⟩:=hq;have:=h1.1;simp at this;omega
section
variable {h:Hp}{A B C:Nat}{l:Sl}{p:List Rat}{ps:zV}{K:zY Sl}{Ki:zY Int}{c:Rat}{x:aC}
def lh.get{i:Int}{K:Sl->Prop}(k:Nat)(hq:lh h B l ps)(hi:i=k)(hk:k<ps.length)(H:∀s,PL h B s ps[k]->K s):zi l i 1 λa=>aB .sl a (λx=>K x) h:=by
 obtain⟨ss,h1,h2,h3⟩:=hq;have bP:k<ss.length:=zO;refine rn k h1 hi (v:=bO ss[k]) (by rw[Gr,Jp bP];rfl) λa hc=>⟨ss[k],hc,H _ (h3 k bP hk)⟩
def zwt{v:Rat}:-1<=v.num.sign/\v.num.sign<=1:=by
 rcases Int.lt_trichotomy v.num 0 with h1 | h1 | h1
 rw[Us h1];omega;rw[h1];decide;rw[Gi h1];omega
def zss(hq:lh h B l ps)(hx:NR h x c)(bc:BR A c)(hlen:ps.length<=1000)(hB:B<=100000000000)(hA:A<=100000000000)(jL:∀p∈ps,p.length<=1000)(hC:∀p∈ps,∀i,BR C (ev (p.drop i) c))(Ab:C<=200000000000)(H:∀h',h.le h'->Ki (chN ps c:Int) h'):za (F.FR l x) Ki h:=by
 refine zb (λv h'=>v=(chN ps c:Int)) (λK' hk=>?_) λv h' hl hv=>by subst hv;exact H h' hl
 unfold F.FR;have hl:=hq.len;refine Za (λst h'=>h.le h'/\∃i:Nat,st.2.2.1=(i:Int)/\i<=ps.length/\st.1=((sP (ps.take i) c).1:Int)/\st.2.1=(sP (ps.take i) c).2) (λst=>(ps.length-st.2.2.1).toNat)
  ⟨Jf _,0,rfl,Jt _,rfl,rfl⟩ ?_
 rintro⟨n,t,_,_⟩ h1 ⟨aP,i,hi,da,hn,ht⟩;simp only at hi hn ht;subst hi hn ht;refine zg (λh2=>?_) (λh2=>?_)
 . simp only at h2;have aA:i<ps.length:=zO;have hb:=Zal (ps:=ps.take i) (c:=c);have hlt:(ps.take i).length=i:=by rw[Jk];omega
   refine zj (λs h'=>h1.le h'/\s.1=((sP (ps.take (i+1)) c).1:Int)/\s.2.1=(sP (ps.take (i+1)) c).2) ?_ ?_
   . rintro⟨s1,s2,_⟩ h3 ⟨bj,e1,e2⟩;refine⟨⟨Ja aP bj,i+1,?_,aA,e1,e2⟩,?_⟩;simp only;rw[aM zO];rfl;simp only;rw[aM zO];omega
   . refine(hq.le aP).get i rfl aA λs hs=>?_
     have hm:=Jy aA;refine Z5w hs (hx.le aP) bc (by have:=jL _ hm;omega) hB hA (hC _ hm) Ab λz h3 bj hz=>?_
     have bz:BR C (ev ps[i] c):=by have:=hC _ hm 0;rwa [Tf]at this
     refine zU hz bz zO ?_;have hsr:=zwt (v:=ev ps[i] c);have en:i64.wrap (0-(ev ps[i] c).num.sign)=- (ev ps[i] c).num.sign:=by rw[aM zO];omega
     have WQ:sP (ps.take (i+1)) c=pB (sP (ps.take i) c) (ev ps[i] c):=by rw[Jc aA,Zdg]
     rw[WQ,en];refine Zs (λh4=>⟨bj,?_,?_⟩) (λh4=>Zs (λh5=>⟨bj,?_,?_⟩) (λh5=>⟨bj,?_,?_⟩));unfold pB;rw[if_pos h4];unfold pB;rw[if_pos h4];unfold pB;rw[if_neg h4,if_pos h5];simp only;rw[aM zO];rfl;unfold pB;rw[if_neg h4,if_pos h5];unfold pB;rw[if_neg h4,if_neg h5];unfold pB;rw[if_neg h4,if_neg h5]
 . simp only at h2;have aA:i=ps.length:=zO;subst aA;refine hk _ _ aP ?_;rw[J5];rfl
end
end Den
end

section
namespace Den
def Mf{a d B e:Rat}(h1:-B<a)(h2:a<B)(h3:-e<d)(h4:d<e):a*d<B*e:=by
 have g1:0<(B-a)*(e+d):=T5 (by grind) (by grind);have g2:0<(B+a)*(e-d):=T5 (by grind) (by grind)
 grind
def V8{a b:Rat}(h1:0<a)(h2:0<b):0<a/b:=by
 rw[Rat.div_def];exact T5 h1 (Rat.inv_pos.2 h2)
def V9{a b:Rat}(h:0<b):b*(a/b)=a:=by
 have:b≠0:=by grind
 grind
structure CS where
 f:Nat->Rat
 c:∀e:Rat,0<e->∃N,∀m n,N<=m->N<=n->f m-f n<e
def CS.ext{a b:CS}(h:a.f=b.f):a=b:=by cases a;cases b;cases h;rfl
def CS.bound(a:CS):∃B:Rat,0<B/\∃N,∀n,N<=n->-B<a.f n/\a.f n<B:=by
 obtain⟨N,hN⟩:=a.c 1 zD;refine⟨(if 0<=a.f N then a.f N else-a.f N)+1,by split<;>grind,N,λn hn=>?_⟩;have h1:=hN n N hn (Jd _);have h2:=hN N n (Jd _) hn;split<;>grind
def CS.const(q:Rat):CS:=⟨λ_=>q,λe he=>⟨0,λ_ _ _ _=>by grind⟩⟩
instance:Add CS:=⟨λa b=>⟨λn=>a.f n+b.f n,λe he=>by
 obtain⟨N,hN⟩:=a.c (e/2) (by grind);obtain⟨M,hM⟩:=b.c (e/2) (by grind);refine⟨max N M,λm n hm hn=>?_⟩;have:=hN m n zO zO;have:=hM m n zO zO
 grind⟩⟩
instance:Neg CS:=⟨λa=>⟨λn=>- a.f n,λe he=>by
 obtain⟨N,hN⟩:=a.c e he;refine⟨N,λm n hm hn=>?_⟩;have:=hN n m hn hm
 grind⟩⟩
instance:Mul CS:=⟨λa b=>⟨λn=>a.f n*b.f n,λe he=>by
 obtain⟨B,hB,K,hK⟩:=a.bound;obtain⟨C,hC,L,hL⟩:=b.bound;have e1:0<e/2:=by grind
 obtain⟨N,hN⟩:=a.c (e/2/C) (V8 e1 hC);obtain⟨M,hM⟩:=b.c (e/2/B) (V8 e1 hB);refine⟨max (max N M) (max K L),λm n hm hn=>?_⟩;have k1:=hK m zO;have l1:=hL n zO;have n1:=hN m n zO zO;have n2:=hN n m zO zO;have m1:=hM m n zO zO;have m2:=hM n m zO zO;have q1:=Mf k1.1 k1.2 (d:=b.f m-b.f n) (e:=e/2/B) (by grind) m1;have q2:=Mf l1.1 l1.2 (d:=a.f m-a.f n) (e:=e/2/C) (by grind) n1;rw[V9 hB]at q1;rw[V9 hC]at q2
 grind⟩⟩
def CS.aV(a b:CS)(n:Nat):(a+b).f n=a.f n+b.f n:=rfl
def CS.bB(a:CS)(n:Nat):(-a).f n=- a.f n:=rfl
def CS.bf(a b:CS)(n:Nat):(a*b).f n=a.f n*b.f n:=rfl
def CS.bC(q:Rat)(n:Nat):(CS.const q).f n=q:=rfl
def CS.eqv(a b:CS):Prop:=∀e:Rat,0<e->∃N,∀n,N<=n->a.f n-b.f n<e/\b.f n-a.f n<e
def CS.xd(a:CS):CS.eqv a a:=λe he=>⟨0,λn _=>by grind⟩
def CS.pC{a b:CS}(h:CS.eqv a b):CS.eqv b a:=λe he=>by
 obtain⟨N,hN⟩:=h e he;exact⟨N,λn hn=>(hN n hn).symm⟩
def CS.uj{a b c:CS}(h:CS.eqv a b)(k:CS.eqv b c):CS.eqv a c:=λe he=>by
 obtain⟨N,hN⟩:=h (e/2) (by grind);obtain⟨M,hM⟩:=k (e/2) (by grind);refine⟨max N M,λn hn=>?_⟩;have:=hN n zO;have:=hM n zO
 grind
instance CS.HI:Setoid CS:=⟨CS.eqv,CS.xd,CS.pC,CS.uj⟩
def CS.BL{a b c d:CS}(h:CS.eqv a b)(k:CS.eqv c d):CS.eqv (a+c) (b+d):=λe he=>by
 obtain⟨N,hN⟩:=h (e/2) (by grind);obtain⟨M,hM⟩:=k (e/2) (by grind);refine⟨max N M,λn hn=>?_⟩;have:=hN n zO;have:=hM n zO;simp only[CS.aV]
 grind
def CS.BN{a b:CS}(h:CS.eqv a b):CS.eqv (-a) (-b):=λe he=>by
 obtain⟨N,hN⟩:=h e he;refine⟨N,λn hn=>?_⟩;have:=hN n hn;simp only[CS.bB]
 grind
def CS.BO{a b c d:CS}(h:CS.eqv a b)(k:CS.eqv c d):CS.eqv (a*c) (b*d):=λe he=>by
 obtain⟨B,hB,K,hK⟩:=a.bound;obtain⟨C,hC,L,hL⟩:=d.bound;have e1:0<e/2:=by grind
 obtain⟨N,hN⟩:=h (e/2/C) (V8 e1 hC);obtain⟨M,hM⟩:=k (e/2/B) (V8 e1 hB);refine⟨max (max N M) (max K L),λn hn=>?_⟩;have k1:=hK n zO;have l1:=hL n zO;have n1:=hN n zO;have m1:=hM n zO;have q1:=Mf k1.1 k1.2 (d:=c.f n-d.f n) (e:=e/2/B) (by grind) m1.1;have q2:=Mf l1.1 l1.2 (d:=a.f n-b.f n) (e:=e/2/C) (by grind) n1.1;have q3:=Mf k1.1 k1.2 (d:=d.f n-c.f n) (e:=e/2/B) (by grind) m1.2;have q4:=Mf l1.1 l1.2 (d:=b.f n-a.f n) (e:=e/2/C) (by grind) n1.2;rw[V9 hB]at q1 q3;rw[V9 hC]at q2 q4;simp only[CS.bf]
 grind
def CS.pos(a:CS):Prop:=∃e:Rat,0<e/\∃N,∀n,N<=n->e<=a.f n
def CS.sQ{a b:CS}(h:CS.eqv a b)(k:a.pos):b.pos:=by
 obtain⟨e,he,N,hN⟩:=k;obtain⟨M,hM⟩:=h (e/2) (by grind);refine⟨e/2,by grind,max N M,λn hn=>?_⟩;have:=hN n zO;have:=hM n zO
 grind
def CS.tri(a:CS):CS.eqv a (CS.const 0)\/a.pos\/(-a).pos:=by
 rcases Pp a.pos with h | h
 exact .inr (.inl h)
 . rcases Pp (-a).pos with k | k
   exact .inr (.inr k)
   . refine .inl λe he=>?_
     obtain⟨N,hN⟩:=a.c (e/2) (by grind);have h1:∃n,N<=n/\a.f n<e/2:=Uu λhh=>h ⟨e/2,by grind,N,λn hn=>by
      rcases Pp (a.f n<e/2)with g | g
      exact absurd ⟨n,hn,g⟩ hh
      grind⟩
     have h2:∃n,N<=n/\- a.f n<e/2:=Uu λhh=>k ⟨e/2,by grind,N,λn hn=>by
      rcases Pp (- a.f n<e/2)with g | g
      exact absurd ⟨n,hn,g⟩ hh;simp only[CS.bB];grind⟩
     obtain⟨p,hp,gp⟩:=h1;obtain⟨q,hq,gq⟩:=h2;refine⟨N,λn hn=>?_⟩;have:=hN n p hn hp;have:=hN q n hq hn;simp only[CS.bC]
     grind
def Re:Type:=Quotient CS.HI
def Re.mk(a:CS):Re:=Quotient.mk _ a
def Re.rep(x:Re):∃a,x=Re.mk a:=by
 refine Quotient.inductionOn x λa=>⟨a,rfl⟩
def Re.sound{a b:CS}(h:CS.eqv a b):Re.mk a=Re.mk b:=Quotient.sound h
instance:Add Re:=⟨Quotient.lift₂ (λa b=>Re.mk (a+b)) λ_ _ _ _ h k=>Re.sound (CS.BL h k)⟩
instance:Mul Re:=⟨Quotient.lift₂ (λa b=>Re.mk (a*b)) λ_ _ _ _ h k=>Re.sound (CS.BO h k)⟩
instance:Neg Re:=⟨Quotient.lift (λa=>Re.mk (-a)) λ_ _ h=>Re.sound (CS.BN h)⟩
def Re.of(q:Rat):Re:=Re.mk (CS.const q)
instance{n}:OfNat Re n:=⟨Re.of (OfNat.ofNat n)⟩
instance:_root_.Sub Re:=⟨λa b=>a+-b⟩
def Re.pos:Re->Prop:=Quotient.lift CS.pos λ_ _ h=>propext ⟨CS.sQ h,CS.sQ (CS.pC h)⟩
instance:_root_.LT Re:=⟨λx y=>Re.pos (y-x)⟩
instance:_root_.LE Re:=⟨λx y=>x=y\/x<y⟩
def Re.aO(a b:CS):Re.mk a+Re.mk b=Re.mk (a+b):=rfl
def Re.aQ(a b:CS):Re.mk a*Re.mk b=Re.mk (a*b):=rfl
def Re.aT(a:CS):- Re.mk a=Re.mk (-a):=rfl
def Re.iE(q:Rat):Re.of q=Re.mk (CS.const q):=rfl
def Re.kr(n:Nat):(OfNat.ofNat n:Re)=Re.mk (CS.const (OfNat.ofNat n)):=rfl
def Re.sub_def(x y:Re):x-y=x+-y:=rfl
def Re.lt_def(x y:Re):x<y↔Re.pos (y-x):=Iff.rfl
def Re.id{a b:CS}(h:∀n,a.f n=b.f n):Re.mk a=Re.mk b:=congrArg Re.mk (CS.ext (funext h))
end Den
end

noncomputable section
namespace Den
namespace Re
def add_comm(x y:Re):x+y=y+x:=by
 obtain⟨a,rfl⟩:=x.rep;obtain⟨b,rfl⟩:=y.rep;simp only[aO];exact Re.id λn=>by simp only[CS.aV];grind
def add_assoc(x y z:Re):x+y+z=x+(y+z):=by
 obtain⟨a,rfl⟩:=x.rep;obtain⟨b,rfl⟩:=y.rep;obtain⟨c,rfl⟩:=z.rep;simp only[aO];exact Re.id λn=>by simp only[CS.aV];grind
def mul_comm(x y:Re):x*y=y*x:=by
 obtain⟨a,rfl⟩:=x.rep;obtain⟨b,rfl⟩:=y.rep;simp only[aQ];exact Re.id λn=>by simp only[CS.bf];grind
def mul_assoc(x y z:Re):x*y*z=x*(y*z):=by
 obtain⟨a,rfl⟩:=x.rep;obtain⟨b,rfl⟩:=y.rep;obtain⟨c,rfl⟩:=z.rep;simp only[aQ];exact Re.id λn=>by simp only[CS.bf];grind
def mul_add(x y z:Re):x*(y+z)=x*y+x*z:=by
 obtain⟨a,rfl⟩:=x.rep;obtain⟨b,rfl⟩:=y.rep;obtain⟨c,rfl⟩:=z.rep;simp only[aQ,aO];exact Re.id λn=>by simp only[CS.bf,CS.aV];grind
def add_mul(x y z:Re):(x+y)*z=x*z+y*z:=by rw[mul_comm,mul_add,mul_comm z,mul_comm z]
def add_zero(x:Re):x+0=x:=by
 obtain⟨a,rfl⟩:=x.rep;rw[kr,aO];exact Re.id λn=>by simp only[CS.aV,CS.bC];grind
def zero_add(x:Re):0+x=x:=by rw[add_comm,add_zero]
def mul_one(x:Re):x*1=x:=by
 obtain⟨a,rfl⟩:=x.rep;rw[kr,aQ];exact Re.id λn=>by simp only[CS.bf,CS.bC];grind
def one_mul(x:Re):1*x=x:=by rw[mul_comm,mul_one]
def mul_zero(x:Re):x*0=0:=by
 obtain⟨a,rfl⟩:=x.rep;rw[kr,aQ];exact Re.id λn=>by simp only[CS.bf,CS.bC];grind
def zero_mul(x:Re):0*x=0:=by rw[mul_comm,mul_zero]
def add_neg(x:Re):x+-x=0:=by
 obtain⟨a,rfl⟩:=x.rep;rw[kr,aT,aO];exact Re.id λn=>by simp only[CS.aV,CS.bB,CS.bC];grind
def eL(p q:Rat):of (p+q)=of p+of q:=Re.id λn=>by simp only[CS.aV,CS.bC]
def cq(p q:Rat):of (p*q)=of p*of q:=Re.id λn=>by simp only[CS.bf,CS.bC]
def mU(p:Rat):of (-p)=- of p:=Re.id λn=>by simp only[CS.bB,CS.bC]
def rQ(p q:Rat):of (p-q)=of p-of q:=by rw[sub_def,<-mU,<-eL];congr 1;grind
def cC:of 0=0:=rfl
def iZ:of 1=1:=rfl
def sub_self(x:Re):x-x=0:=add_neg x
def neg_zero:-(0:Re)=0:=by rw[kr,aT];exact Re.id λn=>by simp only[CS.bB,CS.bC];grind
def neg_neg(x:Re):- -x=x:=by
 obtain⟨a,rfl⟩:=x.rep;simp only[aT];exact Re.id λn=>by simp only[CS.bB];grind
def neg_mul(x y:Re):-x*y=-(x*y):=by
 obtain⟨a,rfl⟩:=x.rep;obtain⟨b,rfl⟩:=y.rep;simp only[aT,aQ];exact Re.id λn=>by simp only[CS.bB,CS.bf];grind
def mul_neg(x y:Re):x*-y=-(x*y):=by rw[mul_comm,neg_mul,mul_comm]
def neg_add(x y:Re):-(x+y)=-x+-y:=by
 obtain⟨a,rfl⟩:=x.rep;obtain⟨b,rfl⟩:=y.rep;simp only[aT,aO];exact Re.id λn=>by simp only[CS.bB,CS.aV];grind
def sub_eq_zero{x y:Re}:x-y=0↔x=y:=by
 constructor
 . intro h;have:x-y+y=0+y:=by rw[h]
   rwa [sub_def,add_assoc,add_comm (-y),add_neg,add_zero,zero_add]at this
 rintro rfl;exact sub_self x
def sub_zero(x:Re):x-0=x:=by rw[sub_def,neg_zero,add_zero]
def zero_sub(x:Re):0-x=-x:=by rw[sub_def,zero_add]
def neg_sub(x y:Re):-(x-y)=y-x:=by rw[sub_def,neg_add,neg_neg,sub_def,add_comm]
def pD(x y z:Re):x-z=(x-y)+(y-z):=by
 rw[sub_def,sub_def,sub_def,add_assoc,<-add_assoc (-y),add_comm (-y),add_neg,zero_add]
def mul_sub(x y z:Re):x*(y-z)=x*y-x*z:=by rw[sub_def,mul_add,mul_neg,sub_def]
def gl{x y:Re}(h:x+y=0):x=-y:=by
 have:x+y+-y=0+-y:=by rw[h]
 rwa [add_assoc,add_neg,add_zero,zero_add]at this
def uk{x y z:Re}(h:x+z=y+z):x=y:=by
 have:x+z+-z=y+z+-z:=by rw[h]
 rwa [add_assoc,add_neg,add_zero,add_assoc,add_neg,add_zero]at this
def sR{x y:Re}(h:x.pos)(k:y.pos):(x+y).pos:=by
 obtain⟨a,rfl⟩:=x.rep;obtain⟨b,rfl⟩:=y.rep;obtain⟨e,he,N,hN⟩:=h;obtain⟨d,hd,M,hM⟩:=k;refine⟨e,he,max N M,λn hn=>?_⟩;have:=hN n zO;have:=hM n zO;simp only[CS.aV];grind
def jM{x y:Re}(h:x.pos)(k:y.pos):(x*y).pos:=by
 obtain⟨a,rfl⟩:=x.rep;obtain⟨b,rfl⟩:=y.rep;obtain⟨e,he,N,hN⟩:=h;obtain⟨d,hd,M,hM⟩:=k;refine⟨e*d,T5 he hd,max N M,λn hn=>?_⟩;have h1:=hN n zO;have h2:=hM n zO;have h3:0<=(a.f n-e)*b.f n:=U8 (by grind) (by grind);have h4:0<=e*(b.f n-d):=U8 (by grind) (by grind);simp only[CS.bf];grind
def iF:¬(0:Re).pos:=by
 rintro⟨e,he,N,hN⟩;have:=hN N (Jd _);simp only[CS.bC]at this
 grind
def BP(x:Re):x=0\/x.pos\/(-x).pos:=by
 obtain⟨a,rfl⟩:=x.rep;rcases a.tri with h | h | h
 exact .inl (Re.sound h);exact .inr (.inl h);exact .inr (.inr h)
def HJ(q:Rat):(of q).pos↔0<q:=by
 constructor
 . rintro⟨e,he,N,hN⟩;have:=hN N (Jd _);simp only[CS.bC]at this
   grind
 exact λh=>⟨q,h,0,λn _=>by simp only[CS.bC];grind⟩
def dU{x:Re}:x.pos↔0<x:=by rw[lt_def,sub_zero]
def lt_irrefl(x:Re):¬x<x:=by rw[lt_def,sub_self];exact iF
def lt_trans{x y z:Re}(h:x<y)(k:y<z):x<z:=by
 rw[lt_def]at h k |-
 rw[pD z y x];exact sR k h
def ks(x y:Re):x<y\/x=y\/y<x:=by
 rcases BP (y-x)with h | h | h
 exact .inr (.inl (sub_eq_zero.1 h).symm);exact .inl h;rw[neg_sub]at h;exact .inr (.inr h)
def le_refl(x:Re):x<=x:=.inl rfl
def le_of_lt{x y:Re}(h:x<y):x<=y:=.inr h
def lt_of_lt_of_le{x y z:Re}(h:x<y)(k:y<=z):x<z:=by
 rcases k with rfl | k
 exact h;exact lt_trans h k
def lt_of_le_of_lt{x y z:Re}(h:x<=y)(k:y<z):x<z:=by
 rcases h with rfl | h
 exact k;exact lt_trans h k
def add_lt_add{x y z w:Re}(h:x<y)(k:z<w):x+z<y+w:=by
 rw[lt_def]at *;have:y+w-(x+z)=(y-x)+(w-z):=by
  rw[sub_def,neg_add,sub_def,sub_def,add_assoc,add_assoc,<-add_assoc w,add_comm w,add_assoc]
 rw[this];exact sR h k
def add_lt_left{x y z:Re}(h:x<y):x+z<y+z:=by
 rw[lt_def]at *;have:y+z-(x+z)=y-x:=by
  rw[sub_def,neg_add,add_assoc,add_comm (-x),<-add_assoc z,add_neg,zero_add,sub_def]
 rw[this];exact h
def mul_pos{x y:Re}(h:0<x)(k:0<y):0<x*y:=dU.1 (jM (dU.2 h) (dU.2 k))
def neg_pos{x:Re}:0 < -x↔x<0:=by rw[lt_def,lt_def,sub_zero,zero_sub]
def pE{x:Re}:-x<0↔0<x:=by rw[lt_def,lt_def,sub_zero,zero_sub,neg_neg]
def of_lt(p q:Rat):of p<of q↔p<q:=by
 rw[lt_def,<-rQ,HJ];exact⟨λh=>by grind,λh=>by grind⟩
def dh{p q:Rat}(h:of p=of q):p=q:=by
 refine Rat.le_antisymm (Rat.not_lt.1 λk=>?_) (Rat.not_lt.1 λk=>?_);all_goals rw[<-of_lt,h]at k;exact absurd k (lt_irrefl _)
def one_pos:(0:Re)<1:=(of_lt 0 1).2 zD
def mul_eq_zero{x y:Re}(h:x*y=0):x=0\/y=0:=by
 rcases BP x with hx | hx | hx
 exact .inl hx;all_goals
  rcases BP y with hy | hy | hy
  exact .inr hy;all_goals
   have:=jM hx hy;simp only[neg_mul,mul_neg,neg_neg,h,neg_zero]at this;exact absurd this iF
def iG{x:Re}(h:x≠0):0<x*x:=by
 rcases BP x with hx | hx | hx
 exact absurd hx h;exact dU.1 (jM hx hx)
 . have:=jM hx hx;rw[neg_mul,mul_neg,neg_neg]at this;exact dU.1 this
def bG(x:Re):0<=x*x:=by
 rcases Pp (x=0)with h | h
 rw[h,zero_mul];exact le_refl _;exact .inr (iG h)
def below(x:Re):∃n:Nat,x<of n:=by
 obtain⟨a,rfl⟩:=x.rep;obtain⟨B,hB,N,hN⟩:=a.bound;refine⟨(B.ceil+1).toNat,1,zD,N,λn hn=>?_⟩;have h1:=(hN n hn).2;have h2:=Rat.le_ceil (x:=B);have h3:0<=B.ceil+1:=by
  have:(0:Rat)<((B.ceil:Int):Rat):=by grind
  have:=(Rat.intCast_lt_intCast (a:=0) (b:=B.ceil)).1 this;omega
 have h4:(((B.ceil+1).toNat:Nat):Rat)=((B.ceil:Int):Rat)+1:=by
  have:(((B.ceil+1).toNat:Int):Rat)=((B.ceil+1:Int):Rat):=by rw[Int.toNat_of_nonneg h3]
  rw[Gb]at this;rw[this,Rat.intCast_add];rfl
 simp only[CS.aV,CS.bB,CS.bC]
 grind
def kx{a:CS}(h:a.pos):∃y:Re,Re.mk a*y=1:=by
 obtain⟨e,he,N,hN⟩:=h;have key:∀m n,N<=m->N<=n->∀d,0<d->a.f n-a.f m<d*(e*e)->(a.f m)⁻¹-(a.f n)⁻¹<d:=by
  intro m n hm hn d hd hlt;have h1:=hN m hm;have h2:=hN n hn;have p1:0<a.f m:=by grind
  have p2:0<a.f n:=by grind
  have i1:=Rat.inv_pos.2 p1;have i2:=Rat.inv_pos.2 p2;have u1:a.f m*(a.f m)⁻¹=1:=Pg _ (by grind);have u2:a.f n*(a.f n)⁻¹=1:=Pg _ (by grind);refine Rat.not_le.1 λhc=>?_
  have q1:0<=((a.f m)⁻¹-(a.f n)⁻¹-d)*(a.f m*a.f n):=U8 (by grind) (Rat.le_of_lt (T5 p1 p2));have q2:((a.f m)⁻¹-(a.f n)⁻¹-d)*(a.f m*a.f n)=a.f n-a.f m-d*(a.f m*a.f n):=by grind
  have q3:0<=(a.f m-e)*a.f n:=U8 (by grind) (by grind);have q4:0<=e*(a.f n-e):=U8 (by grind) (by grind);have q5:0<=d*(a.f m*a.f n-e*e):=U8 (by grind) (by grind)
  grind
 refine⟨Re.mk ⟨λn=>(a.f n)⁻¹,λd hd=>?_⟩,?_⟩
 . obtain⟨M,hM⟩:=a.c (d*(e*e)) (T5 hd (T5 he he));exact⟨max N M,λm n hm hn=>key m n zO zO d hd (hM n m zO zO)⟩
 . refine Re.sound λd hd=>⟨N,λn hn=>?_⟩
   have h1:=hN n hn;have u1:a.f n*(a.f n)⁻¹=1:=Pg _ (by grind);simp only[CS.bf,CS.bC,u1];constructor<;>grind
def xg{x:Re}(h:x≠0):∃y:Re,x*y=1:=by
 obtain⟨a,rfl⟩:=x.rep;rcases a.tri with k | k | k
 exact absurd (Re.sound k) h;exact kx k
 . obtain⟨y,hy⟩:=kx k;exact⟨-y,by rw[mul_neg,<-neg_mul,aT,hy]⟩
def inv(x:Re):Re:=by classical exact if h:∃y:Re,x*y=1 then Classical.choose h else 0
def bI{x:Re}(h:x≠0):x*x.inv=1:=by
 unfold inv;rw[dif_pos (xg h)];exact Ll (xg h)
def cancel{x y z:Re}(h:x≠0)(k:x*y=x*z):y=z:=by
 have:x*(y-z)=0:=by rw[mul_sub,k,sub_self]
 rcases mul_eq_zero this with h1 | h1
 exact absurd h1 h;exact sub_eq_zero.1 h1
def mV{q:Rat}(h:q≠0):(of q).inv=of q⁻¹:=by
 have h1:of q≠0:=λhh=>h (dh hh)
 refine cancel h1 ?_;rw[bI h1,<-cq,Pg _ h,iZ]
def sS{P:Nat->Prop}(h0:¬P 0):∀{K:Nat},P K->∃k,¬P k/\P (k+1)
 | 0,h=>absurd h h0
 | K+1,h=>by
   rcases Pp (P K)with k | k
   exact sS h0 k;exact⟨K,k,h⟩
def xh{q:Rat}(hq:0<=q){d:Rat}(hd:0<d):∃s:Rat,0<=s/\s*s<=q/\q<(s+d)*(s+d):=by
 have h0:¬(λk:Nat=>q<(k:Rat)*d*((k:Rat)*d)) 0:=by
  show ¬q<((0:Nat):Rat)*d*(((0:Nat):Rat)*d);have:((0:Nat):Rat)=0:=rfl;rw[this];grind
 have hK:∃K:Nat,q<(K:Rat)*d*((K:Rat)*d):=by
  obtain⟨K,hK⟩:=below (of ((q+1)/d/d+1));rw[of_lt]at hK;have e1:d*(d*((q+1)/d/d))=q+1:=by rw[V9 hd,V9 hd]
  have g0:0<(q+1)/d/d:=V8 (V8 (by grind) hd) hd;refine⟨K,?_⟩;have g1:0<=((K:Rat)-1)*(K:Rat):=U8 (by grind) (by grind);have g2:0<=((K:Rat)*K-(q+1)/d/d)*(d*d):=U8 (by grind) (Rat.le_of_lt (T5 hd hd))
  grind
 obtain⟨K,hK⟩:=hK;obtain⟨k,h1,h2⟩:=sS (P:=λk:Nat=>q<(k:Rat)*d*((k:Rat)*d)) h0 hK;refine⟨(k:Rat)*d,U8 Rat.natCast_nonneg (Rat.le_of_lt hd),Rat.not_lt.1 h1,?_⟩;have:((k+1:Nat):Rat)=(k:Rat)+1:=by rw[Rat.natCast_add];rfl
 have mC:q<((k+1:Nat):Rat)*d*(((k+1:Nat):Rat)*d):=h2;rw[this]at mC
 grind
def small(e:Rat)(he:0<e):∃N:Nat,∀n,N<=n->(1:Rat)/((n:Rat)+1)<e:=by
 obtain⟨K,hK⟩:=below (of (1/e));rw[of_lt]at hK;refine⟨K,λn hn=>?_⟩;have h1:(K:Rat)<=n:=by
  have:=(Rat.intCast_le_intCast (a:=(K:Int)) (b:=(n:Int))).2 zO
  rwa [Gb,Gb]at this
 have h2:0<(n:Rat)+1:=by have:=Rat.natCast_nonneg (a:=n);grind
 have h3:e*(1/e)=1:=V9 he;have h4:((n:Rat)+1)*(1/((n:Rat)+1))=1:=V9 h2;have h5:0<1/((n:Rat)+1):=V8 zD h2;have h6:0<((n:Rat)+1-1/e)*e:=T5 (by grind) he;have h7:0<((n:Rat)+1)*e-1:=by grind
 have h8:0<(((n:Rat)+1)*e-1)*(1/((n:Rat)+1)):=T5 h7 h5;revert h4 h8;generalize (1:Rat)/((n:Rat)+1)=t;generalize (n:Rat)+1=m;intro h4 h8;have:(m*e-1)*t=e*(m*t)-t:=by grind
 rw[this,h4]at h8
 grind
def mW{x:Re}(h:0<x):∃y:Re,0<y/\y*y=x:=by
 obtain⟨a,rfl⟩:=x.rep;have hp:CS.pos a:=dU.2 h;obtain⟨e,he,N,hN⟩:=hp;have hd:∀n:Nat,(0:Rat)<1/((n:Rat)+1):=λn=>V8 zD (by have:=Rat.natCast_nonneg (a:=n);grind)
 have ex:∀n,∃s:Rat,0<=s/\(N<=n->s*s<=a.f n/\a.f n<(s+1/((n:Rat)+1))*(s+1/((n:Rat)+1))):=by
  intro n;rcases Pp (N<=n)with hn | hn
  . obtain⟨s,h1,h2,h3⟩:=xh (q:=a.f n) (by have:=hN n hn;grind) (hd n);exact⟨s,h1,λ_=>⟨h2,h3⟩⟩
  exact⟨0,zD,λhh=>absurd hh hn⟩
 let s:Nat->Rat:=λn=>Classical.choose (ex n)
 have hs:∀n,0<=s n/\(N<=n->s n*s n<=a.f n/\a.f n<(s n+1/((n:Rat)+1))*(s n+1/((n:Rat)+1))):=λn=>Ll (ex n)
 have hc:∀d:Rat,0<d->∃N,∀m n,N<=m->N<=n->s m-s n<d:=by
  intro d HK;obtain⟨K,hK⟩:=small (d/2) (by grind);obtain⟨M,hM⟩:=a.c (d*d/2) (by have:=T5 HK HK;grind);refine⟨max (max N K) M,λm n hm hn=>Rat.not_le.1 λhcon=>?_⟩;obtain⟨p1,p2⟩:=hs m;obtain⟨q1,q2⟩:=hs n;have p3:=(p2 zO).1;have q3:=(q2 zO).2;have k1:=hK n zO;have k2:=hd n;have m1:=hM m n zO zO;revert q3 k1 k2;generalize (1:Rat)/((n:Rat)+1)=t;intro q3 k1 k2;have g1:0<=(s m-s n-d)*(s m+s n+d):=U8 (by grind) (by grind);have g2:0<=(d-t-d/2)*(2*s n+d+t):=U8 (by grind) (by grind);have g3:0<=d/2*(2*s n+t):=U8 (by grind) (by grind)
  grind
 let S:CS:=⟨s,hc⟩
 have jn:Re.mk S*Re.mk S=Re.mk a:=by
  refine Re.sound λd HK=>?_
  obtain⟨B,hB,K,hK⟩:=S.bound;have pV:0<2*B+1:=by grind
  obtain⟨L,hL⟩:=small (d/(2*B+1)) (V8 HK pV);obtain⟨L1,hL1⟩:=small 1 zD;refine⟨max (max N K) (max L L1),λn hn=>?_⟩;obtain⟨q1,q2⟩:=hs n;obtain⟨q3,q4⟩:=q2 zO;have l1:=hL n zO;have l2:=hL1 n zO;have l0:=hd n;have b1:=(hK n zO).2;have b2:s n<B:=b1;have e1:=V9 (a:=d) pV;show s n*s n-a.f n<d/\a.f n-s n*s n<d;revert q4 l0 l1 l2;generalize (1:Rat)/((n:Rat)+1)=t;intro q4 l1 l2 l0;have g1:0<(d/(2*B+1)-t)*(2*B+1):=T5 (by grind) pV;have g2:0<t*(2*(B-s n)+(1-t)):=T5 l0 (by grind);constructor<;>grind
 rcases ks 0 (Re.mk S)with k | k | k
 exact⟨_,k,jn⟩
 . rw[<-k,mul_zero]at jn;rw[<-jn]at h;exact absurd h (lt_irrefl _)
 exact⟨- Re.mk S,neg_pos.2 k,by rw[neg_mul,mul_neg,neg_neg,jn]⟩
def sqrt(x:Re):Re:=by classical exact if h:0<x then Classical.choose (mW h)else 0
def iH{x:Re}(h:0<x):0<x.sqrt:=by
 unfold sqrt;rw[dif_pos h];exact(Ll (mW h)).1
def bJ{x:Re}(h:0<=x):x.sqrt*x.sqrt=x:=by
 rcases h with rfl | h
 unfold sqrt;rw[dif_neg (lt_irrefl 0),mul_zero];unfold sqrt;rw[dif_pos h];exact(Ll (mW h)).2
end Re
end Den
end

section
namespace Den
def Re.pw(x:Re):Nat->Re
 | 0=>1
 | k+1=>x.pw k*x
def Re.mul_left_comm(x y z:Re):x*(y*z)=y*(x*z):=by rw[<-Re.mul_assoc,Re.mul_comm x y,Re.mul_assoc]
def Re.add_left_comm(x y z:Re):x+(y+z)=y+(x+z):=by rw[<-Re.add_assoc,Re.add_comm x y,Re.add_assoc]
def Re.xi(x y:Re):∀k,(x*y).pw k=x.pw k*y.pw k
 | 0=>(Re.mul_one 1).symm
 | k+1=>by
   show(x*y).pw k*(x*y)=x.pw k*x*(y.pw k*y);rw[Re.xi x y k,Re.mul_assoc,Re.mul_assoc,Re.mul_left_comm (y.pw k)]
def Re.xj(q:Rat):∀k:Nat,(Re.of q).pw k=Re.of (q ^ k)
 | 0=>by rw[Rat.pow_zero];rfl
 | k+1=>by
   show(Re.of q).pw k*Re.of q=_;rw[Re.xj q k,<-Re.cq,Rat.pow_succ]
def lc:List Rat->List Re->Re
 | q :: l,g :: r=>Re.of q*g+lc l r
 | _,_=>0
def HL{g:List Re}:lc [] g=0:=by cases g<;>rfl
def WR:∀{g:List Re} {l l':List Rat},l.length=g.length->l'.length=g.length->lc (To (·+·) l l') g=lc l g+lc l' g
 | [],[],[],_,_=>(Re.add_zero 0).symm
 | a :: g,p :: l,q :: l',h,k=>by
   have ih:=WR (g:=g) (l:=l) (l':=l') (by simpa using h) (by simpa using k);show Re.of (p+q)*a+lc (To (·+·) l l') g=_;rw[ih,Re.eL,Re.add_mul];show _=Re.of p*a+lc l g+(Re.of q*a+lc l' g);rw[Re.add_assoc,Re.add_assoc,Re.add_left_comm (lc l g)]
def WS(c:Rat):∀{g:List Re} {l:List Rat},lc (l.map (c*·)) g=Re.of c*lc l g
 | g,[]=>by rw[List.map_nil,HL,Re.mul_zero]
 | [],q :: l=>by
   show(0:Re)=Re.of c*0;rw[Re.mul_zero]
 | a :: g,q :: l=>by
   show Re.of (c*q)*a+lc (l.map (c*·)) g=Re.of c*(Re.of q*a+lc l g);rw[WS c,Re.cq,Re.mul_add,Re.mul_assoc]
def BQ:∀{g g':List Re} {l l':List Rat},l.length=g.length->lc (l++l') (g++g')=lc l g+lc l' g'
 | [],g',[],l',_=>by
   show lc l' g'=0+lc l' g';rw[Re.zero_add]
 | a :: g,g',q :: l,l',h=>by
   show Re.of q*a+lc (l++l') (g++g')=Re.of q*a+lc l g+lc l' g';rw[BQ (by simpa using h),Re.add_assoc]
def zks(w:Re):∀{g:List Re} {l:List Rat},lc l (g.map (w*·))=w*lc l g
 | g,[]=>by rw[HL,HL,Re.mul_zero]
 | [],q :: l=>by
   show(0:Re)=w*0;rw[Re.mul_zero]
 | a :: g,q :: l=>by
   show Re.of q*(w*a)+lc l (g.map (w*·))=w*(Re.of q*a+lc l g);rw[zks w,Re.mul_add,Re.mul_left_comm]
def WT:∀{g:List Re} (n:Nat),lc (Jl n 0) g=0
 | g,0=>HL
 | [],n+1=>rfl
 | a :: g,n+1=>by
   show Re.of 0*a+lc (Jl n 0) g=0;rw[WT n,Re.cC,Re.zero_mul,Re.add_zero]
abbrev ri(l:List Int):List Rat:=l.map λ(n:Int)=>(n:Rat)
def Sp(G:List Re)(M:Nat)(x:Re):Prop:=∃n:List Int,n.length=G.length/\(∀m∈n,m.natAbs<=M)/\x=lc (ri n) G
def Sp.mono{G:List Re}{M N:Nat}{x:Re}(h:Sp G M x)(hm:M<=N):Sp G N x:=by
 obtain⟨n,h1,h2,h3⟩:=h;exact⟨n,h1,λm hh=>Jo (h2 m hh) hm,h3⟩
def Zkj:∀(l l':List Int),ri (To (·+·) l l')=To (·+·) (ri l) (ri l')
 | [],_=>rfl
 | _ :: _,[]=>rfl
 | a :: l,b :: l'=>by
   show((a+b:Int):Rat) :: ri (To (·+·) l l')=((a:Rat)+b) :: _;rw[Zkj l l',Rat.intCast_add]
def zuk{M N:Nat}:∀{l l':List Int},(∀m∈l,m.natAbs<=M)->(∀m∈l',m.natAbs<=N)->∀m∈To (·+·) l l',m.natAbs<=M+N
 | [],_,_,_,m,h=>by simp at h
 | _ :: _,[],_,_,m,h=>by simp at h
 | a :: l,b :: l',h1,h2,m,h=>by
   rw[List.zipWith_cons_cons,Gk]at h;rcases h with rfl | h
   . have:=h1 a zS;have:=h2 b zS;omega
   exact zuk (λx hx=>h1 x (by simp[hx])) (λx hx=>h2 x (by simp[hx])) m h
def Sp.add{G:List Re}{M N:Nat}{x y:Re}(h:Sp G M x)(k:Sp G N y):Sp G (M+N) (x+y):=by
 obtain⟨n,h1,h2,rfl⟩:=h;obtain⟨p,k1,k2,rfl⟩:=k;refine⟨To (·+·) n p,by simp[h1,k1],zuk h2 k2,?_⟩;rw[Zkj,WR (by simp[h1]) (by simp[k1])]
def Sp.zero{G:List Re}{M:Nat}:Sp G M 0:=by
 refine⟨Jl G.length 0,zS,λm hm=>by rw[(Lo.1 hm).2];exact Jt _,?_⟩;have:ri (Jl G.length 0)=Jl G.length 0:=by simp[ri]
 rw[this,WT]
def zx0(l:List Int):(ri l).length=l.length:=Ph ..
def Sp.left{G G':List Re}{M:Nat}{x:Re}(h:Sp G M x):Sp (G++G') M x:=by
 obtain⟨n,h1,h2,rfl⟩:=h;refine⟨n++Jl G'.length 0,by simp[h1],λm hm=>?_,?_⟩
 . rcases Ul.1 hm with hm | hm
   exact h2 m hm;rw[(Lo.1 hm).2];exact Jt _
 . have:ri (n++Jl G'.length 0)=ri n++Jl G'.length 0:=by simp[ri]
   rw[this,BQ (by rw[zx0,h1]),WT,Re.add_zero]
def Sp.right{G G':List Re}{M:Nat}{x:Re}(h:Sp G' M x):Sp (G++G') M x:=by
 obtain⟨n,h1,h2,rfl⟩:=h;refine⟨Jl G.length 0++n,by simp[h1],λm hm=>?_,?_⟩
 . rcases Ul.1 hm with hm | hm
   rw[(Lo.1 hm).2];exact Jt _;exact h2 m hm
 . have:ri (Jl G.length 0++n)=Jl G.length 0++ri n:=by simp[ri]
   rw[this,BQ zS,WT,Re.zero_add]
def Sp.times{G:List Re}{M:Nat}{x:Re}(w:Re)(h:Sp G M x):Sp (G.map (w*·)) M (w*x):=by
 obtain⟨n,h1,h2,rfl⟩:=h;exact⟨n,by simp[h1],h2,(zks w).symm⟩
def Sp.scale{G:List Re}{M:Nat}{x:Re}(c:Int)(h:Sp G M x):Sp G (c.natAbs*M) (Re.of (c:Rat)*x):=by
 obtain⟨n,h1,h2,rfl⟩:=h;refine⟨n.map (c*·),by simp[h1],λm hm=>?_,?_⟩
 . obtain⟨a,ha,rfl⟩:=List.mem_map.1 hm;rw[Gf];exact Jr _ (h2 a ha)
 . have:ri (n.map (c*·))=(ri n).map ((c:Rat)*·):=by
    simp only[ri,List.map_map];exact List.map_congr_left λa _=>by simp[Pz]
   rw[this,WS]
def Sp.mul{G':List Re}{M':Nat}{y:Re}(k:Sp G' M' y):∀{G:List Re} {M:Nat} {x:Re},Sp G M x->Sp (G.flatMap λa=>G'.map (a*·)) (M*M') (x*y)
 | [],M,x,h=>by
   obtain⟨n,h1,h2,rfl⟩:=h;have:lc (ri n) []=0:=by cases n<;>rfl
   rw[this,Re.zero_mul];exact Sp.zero
 | a :: G,M,x,h=>by
   obtain⟨n,h1,h2,rfl⟩:=h;cases n with
   | nil=>simp at h1
   | cons c n=>
     show Sp (G'.map (a*·)++G.flatMap λa=>G'.map (a*·)) _ ((Re.of (c:Rat)*a+lc (ri n) G)*y);have g1:Sp (G'.map (a*·)) (c.natAbs*M') (Re.of (c:Rat)*(a*y)):=(k.times a).scale c;have g2:=Sp.mul k (G:=G) (M:=M) ⟨n,by simpa using h1,λm hm=>h2 m (by simp[hm]),rfl⟩;obtain⟨p,p1,p2,p3⟩:=g1;obtain⟨q,q1,q2,q3⟩:=g2;refine⟨p++q,by rw[Jq,Jq,p1,q1],λm hm=>?_,?_⟩
     . rcases Ul.1 hm with hm | hm
       exact Jo (p2 m hm) (Jm _ (h2 c zS));exact q2 m hm
     . have:ri (p++q)=ri p++ri q:=by simp[ri]
       rw[this,BQ (by rw[zx0,p1]),<-p3,<-q3,Re.add_mul,Re.mul_assoc]
def cx(y:Re)(B:Nat):Prop:=∃(G:List Re) (C:Nat),∀k:Nat,Sp G (C*B ^ k) (y.pw k)
def cx.mono{y:Re}{A B:Nat}(h:cx y A)(tI:A<=B):cx y B:=by
 obtain⟨G,C,h⟩:=h;exact⟨G,C,λk=>(h k).mono (Jr _ (Nat.pow_le_pow_left tI k))⟩
def cx.mul{y z:Re}{A B:Nat}(h:cx y A)(k:cx z B):cx (y*z) (A*B):=by
 obtain⟨G,C,h⟩:=h;obtain⟨G',C',k⟩:=k;refine⟨G.flatMap λa=>G'.map (a*·),C*C',λn=>?_⟩;rw[Re.xi];refine(Sp.mul (k n) (h n)).mono (Nat.le_of_eq ?_);rw[Nat.mul_pow];ac_rfl
def cx.add{y z:Re}{A B:Nat}(h:cx y A)(k:cx z B):cx (y+z) (A+B):=by
 obtain⟨G,C,h⟩:=h;obtain⟨G',C',k⟩:=k;have key:∀n i j,Sp (G.flatMap λa=>G'.map (a*·)) (C*C'*((A+B) ^ n*(A ^ i*B ^ j))) ((y+z).pw n*(y.pw i*z.pw j)):=by
  intro n;induction n with
  | zero=>
    intro i j;show Sp _ _ (1*(y.pw i*z.pw j));rw[Re.one_mul];refine(Sp.mul (k j) (h i)).mono (Nat.le_of_eq ?_);rw[Nat.pow_zero,La];ac_rfl
  | succ n ih=>
    intro i j;have e:(y+z).pw (n+1)*(y.pw i*z.pw j)=(y+z).pw n*(y.pw (i+1)*z.pw j)+(y+z).pw n*(y.pw i*z.pw (j+1)):=by
     show(y+z).pw n*(y+z)*(y.pw i*z.pw j)=(y+z).pw n*(y.pw i*y*z.pw j)+(y+z).pw n*(y.pw i*(z.pw j*z));rw[<-Re.mul_add,Re.mul_assoc];congr 1;rw[Re.add_mul,Re.mul_assoc (y.pw i),Re.mul_left_comm (y.pw i) y];congr 1;rw[Re.mul_comm z,Re.mul_assoc]
    rw[e];refine((ih (i+1) j).add (ih i (j+1))).mono (Nat.le_of_eq ?_);rw[<-U5,<-U5,Uc (A+B),Uc A,Uc B,J6 ((A+B) ^ n),J9];congr 2;congr 1<;>ac_rfl
 refine⟨G.flatMap λa=>G'.map (a*·),C*C',λn=>?_⟩;have:=key n 0 0;simp only[Re.pw,Re.mul_one,Nat.pow_zero,U6]at this;exact this
def cx.of(n:Int):cx (Re.of (n:Rat)) n.natAbs:=by
 refine⟨[1],1,λk=>⟨[n ^ k],rfl,λm hm=>?_,?_⟩⟩;rw[Uz.1 hm,Int.natAbs_pow,La];exact Jd _
 . rw[Re.xj];show _=Re.of ((n ^ k:Int):Rat)*1+0;rw[Re.add_zero,Re.mul_one,Rat.intCast_pow]
def cx.neg{y:Re}{A:Nat}(h:cx y A):cx (-y) A:=by
 have:=(cx.of (-1)).mul h;rw[show Re.of ((-1:Int):Rat)*y=-y by
  have:Re.of ((-1:Int):Rat)=-1:=by rw[<-Re.iZ,<-Re.mU];rfl
  rw[this,Re.neg_mul,Re.one_mul]]at this
 exact this.mono zS
def cx.sub{y z:Re}{A B:Nat}(h:cx y A)(k:cx z B):cx (y-z) (A+B):=by
 rw[Re.sub_def];exact h.add k.neg
def cx.root{w y:Re}{A B:Nat}(h:cx y A)(hw:w*w=y)(tI:A<=B*B)(hB:0<B):cx w B:=by
 obtain⟨G,C,h⟩:=h.mono tI;have even:∀k,w.pw (2*k)=y.pw k:=by
  intro k;induction k with
  | zero=>rfl
  | succ k ih=>
    show w.pw (2*k)*w*w=y.pw k*y;rw[ih,Re.mul_assoc,hw]
 refine⟨G++G.map (w*·),C*(B+1),λk=>?_⟩;rcases Nat.mod_two_eq_zero_or_one k with hk | hk
 . obtain⟨j,rfl⟩:∃j,k=2*j:=⟨k/2,zO⟩;rw[even];refine((h j).mono ?_).left;rw[Nat.pow_mul,Nat.pow_two];exact Jm _ (P7 _ zO)
 . obtain⟨j,rfl⟩:∃j,k=2*j+1:=⟨k/2,zO⟩;show Sp _ _ (w.pw (2*j)*w);rw[even,Re.mul_comm];refine(((h j).times w).mono ?_).right;rw[Uc,Nat.pow_mul,Nat.pow_two];have:C*(B+1)*((B*B) ^ j*B)=C*(B*B) ^ j*((B+1)*B):=by ac_rfl
   rw[this];exact P7 _ (Nat.mul_pos zO hB)
end Den
end

section
namespace Den
def Zyq{P:Re->Prop}(p0:P 0)(um:∀x y,P x->P y->P (x+y))(HM:∀q x,P x->P (Re.of q*x)):∀{q:List Rat} {g:List Re},(∀a∈g,P a)->P (lc q g)
 | [],g,_=>by rw[HL];exact p0
 | _ :: _,[],_=>p0
 | q :: l,a :: g,h=>um _ _ (HM _ _ (h a zS)) (Zyq p0 um HM λb hb=>h b (by simp[hb]))
def Re.fW(x:Re):Re.of (-1)*x=-x:=by rw[Re.mU,Re.iZ,Re.neg_mul,Re.one_mul]
def Z91(p0 q0 i:Rat)(hi:q0*i=1)(a L M X:Re) :
 Re.of p0*a+L+Re.of (-(p0*i))*(Re.of q0*a+M)=L+Re.of (-(p0*i))*M:=by
 obtain⟨a,rfl⟩:=a.rep;obtain⟨L,rfl⟩:=L.rep;obtain⟨M,rfl⟩:=M.rep;simp only[Re.iE,Re.aO,Re.aQ,Re.aT];exact Re.id λn=>by simp only[CS.aV,CS.bf,CS.bB,CS.bC];grind
def Zj3(p0 i:Rat)(Y X L M:Re)(h:Y+Re.of (-(p0*i))*X=L+Re.of (-(p0*i))*M):Y=Re.of p0*(Re.of i*(X-M))+L:=by
 have e:Y+Re.of (-(p0*i))*X=(Re.of p0*(Re.of i*(X-M))+L)+Re.of (-(p0*i))*X:=by
  rw[h];clear h;obtain⟨X,rfl⟩:=X.rep;obtain⟨L,rfl⟩:=L.rep;obtain⟨M,rfl⟩:=M.rep;simp only[Re.sub_def,Re.iE,Re.aO,Re.aQ,Re.aT];exact Re.id λn=>by simp only[CS.aV,CS.bf,CS.bB,CS.bC];grind
 exact Re.uk e
def zw1{K P:Re->Prop}{σ:Re->Re}(k0:K 0)(BT:∀x y,K x->K y->K (x+y))(WU:∀q x,K x->K (Re.of q*x))
 (BU:∀x y,K x->K y->σ (x+y)=σ x+σ y) (WV:∀q x,K x->σ (Re.of q*x)=Re.of q*σ x)
 (p0:P 0) (um:∀x y,P x->P y->P (x+y)) (HM:∀q x,P x->P (Re.of q*x)) (hP:∀x,K x->P (σ x)) :
 ∀g:List Re,∃g':List Re,g'.length=g.length/\(∀a∈g',P a)/\∀q:List Rat,q.length=g.length->K (lc q g)->σ (lc q g)=lc q g'
 | []=>⟨[],rfl,zS,λq hq _=>by
    obtain rfl:q=[]:=Ju.1 hq;show σ 0=0;have:=WV 0 0 k0;rw[Re.mul_zero,Re.cC,Re.zero_mul]at this;exact this⟩
 | a :: g=>by
   obtain⟨g',h1,h2,h3⟩:=zw1 k0 BT WU BU WV p0 um HM hP g;rcases Pp (∃q0 q,q0≠0/\q.length=g.length/\K (Re.of q0*a+lc q g))with ⟨q0,q,fD,hq,hK⟩ | cW
   . have hi:q0*q0⁻¹=1:=Pg _ fD;refine⟨Re.of q0⁻¹*(σ (Re.of q0*a+lc q g)-lc q g') :: g',by simp[h1],λb hb=>?_,λp hp hKp=>?_⟩
     . rcases Gk.1 hb with rfl | hb
       . refine HM _ _ ?_;rw[Re.sub_def,<-Re.fW];exact um _ _ (hP _ hK) (HM _ _ (Zyq p0 um HM h2))
       exact h2 b hb
     . cases p with
       | nil=>simp at hp
       | cons sT ps=>
         have jr:ps.length=g.length:=by simpa using hp
         have uo:K (Re.of sT*a+lc ps g):=hKp;show σ (Re.of sT*a+lc ps g)=Re.of sT*_+lc ps g';have l1:(List.map (-(sT*q0⁻¹)*·) q).length=g.length:=by simp[hq]
         have e1:lc (To (·+·) ps (q.map (-(sT*q0⁻¹)*·))) g=Re.of sT*a+lc ps g+Re.of (-(sT*q0⁻¹))*(Re.of q0*a+lc q g):=by
          rw[WR jr l1,WS,Z91 sT q0 q0⁻¹ hi a _ _ 0]
         have hK2:=BT _ _ uo (WU (-(sT*q0⁻¹)) _ hK);have h4:=h3 (To (·+·) ps (q.map (-(sT*q0⁻¹)*·))) (by simp[jr,hq]) (by rw[e1];exact hK2);rw[e1,BU _ _ uo (WU _ _ hK),WV _ _ hK,WR (by rw[jr,h1]) (by rw[l1,h1]),WS]at h4;exact Zj3 _ _ _ _ _ _ h4
   . refine⟨0 :: g',by simp[h1],λb hb=>?_,λp hp hKp=>?_⟩
     . rcases Gk.1 hb with rfl | hb
       exact p0;exact h2 b hb
     . cases p with
       | nil=>simp at hp
       | cons sT ps=>
         have jr:ps.length=g.length:=by simpa using hp
         have uo:K (Re.of sT*a+lc ps g):=hKp;have hz:sT=0:=Uu λhh=>cW ⟨sT,ps,hh,jr,uo⟩
         subst hz;show σ (Re.of 0*a+lc ps g)=Re.of 0*0+lc ps g';rw[Re.cC,Re.zero_mul,Re.zero_add]at uo;rw[Re.cC,Re.zero_mul,Re.zero_mul,Re.zero_add,Re.zero_add];exact h3 ps jr uo
def cx.map{K:Re->Prop}{σ:Re->Re}(k1:K 1)(k0:K 0)(BT:∀x y,K x->K y->K (x+y))(WU:∀q x,K x->K (Re.of q*x))(abm:∀x y,K x->K y->K (x*y))
 (BU:∀x y,K x->K y->σ (x+y)=σ x+σ y) (WV:∀q x,K x->σ (Re.of q*x)=Re.of q*σ x) (s1:σ 1=1) (smul:∀x y,K x->K y->σ (x*y)=σ x*σ y)
 {y:Re} {B:Nat} (hy:K y) (h:cx y B):cx (σ y) B:=by
 obtain⟨G,C,h⟩:=h;obtain⟨G',h1,_,h3⟩:=zw1 (P:=λ_=>True) k0 BT WU BU WV trivial (λ_ _ _ _=>trivial) (λ_ _ _=>trivial) (λ_ _=>trivial) G;have hk:∀k,K (y.pw k)/\σ (y.pw k)=(σ y).pw k:=by
  intro k;induction k with
  | zero=>exact⟨k1,s1⟩
  | succ k ih=>exact⟨abm _ _ ih.1 hy,by show σ (y.pw k*y)=_;rw[smul _ _ ih.1 hy,ih.2];rfl⟩
 refine⟨G',C,λk=>?_⟩;obtain⟨n,n1,n2,n3⟩:=h k;refine⟨n,by rw[n1,h1],n2,?_⟩;rw[<-(hk k).2,n3];exact h3 _ (by rw[zx0,n1]) (by rw[<-n3];exact(hk k).1)
def Mg(q:Rat):q*q.den=q.num:=by
 have h1:=Rat.num_divInt_den q;have h2:(q.den:Rat)≠0:=by
  have:(q.den:Rat)=((q.den:Int):Rat):=(Gb _).symm;rw[this];intro h;have:=Rat.intCast_inj.1 (h.trans (show(0:Rat)=((0:Int):Rat) from rfl));have:=q.den_pos;omega
 have h3:(q.num:Rat)/(q.den:Rat)=q:=by
  rwa [Rat.divInt_eq_div,Gb]at h1
 have h4:(q.num:Rat)/(q.den:Rat)*q.den=q.num:=by grind
 rwa [h3]at h4
def qs:List Rat->List Rat->Rat
 | p :: l,q :: r=>p*q+qs l r
 | _,_=>0
def Zqw:∀(l a:List Rat),lc l (a.map Re.of)=Re.of (qs l a)
 | [],a=>by rw[HL];rfl
 | _ :: _,[]=>rfl
 | p :: l,q :: a=>by
   show Re.of p*Re.of q+lc l (a.map Re.of)=Re.of (p*q+qs l a);rw[Zqw l a,Re.eL,Re.cq]
def Zk9:∀(a:List Rat),∃e A:Nat,0<e/\∀(n:List Int) (M:Nat),(∀m∈n,m.natAbs<=M)->∃z:Int,(e:Rat)*qs (ri n) a=z/\z.natAbs<=M*A
 | []=>⟨1,0,zD,λn M _=>⟨0,by
    have:qs (ri n) []=0:=by cases n<;>rfl
    rw[this,Rat.mul_zero];rfl,Jt _⟩⟩
 | q :: a=>by
   obtain⟨e,A,he,h⟩:=Zk9 a;refine⟨e*q.den,e*q.num.natAbs+q.den*A,Nat.mul_pos he q.den_pos,λn M hn=>?_⟩;cases n with
   | nil=>exact⟨0,by show _*(0:Rat)=_;rw[Rat.mul_zero];rfl,Jt _⟩
   | cons c n=>
     obtain⟨z,z1,z2⟩:=h n M λm hm=>hn m (by simp[hm])
     have hc:=hn c zS;refine⟨e*(c*q.num)+q.den*z,?_,?_⟩
     . show((e*q.den:Nat):Rat)*((c:Rat)*q+qs (ri n) a)=_;have hq:(q.den:Rat)*q=q.num:=by
        rw[Rat.mul_comm];exact Mg q
       rw[Rat.natCast_mul,Rat.intCast_add,Pz,Pz,Pz,Gb,Gb,<-z1,<-hq]
       grind
     . have h1:(e*(c*q.num)+q.den*z:Int).natAbs<=e*(c.natAbs*q.num.natAbs)+q.den*z.natAbs:=by
        refine Jo (Int.natAbs_add_le _ _) (Nat.le_of_eq ?_);simp only[Gf,Jh]
       refine Jo h1 ?_;rw[U5];refine Nat.add_le_add ?_ ?_
       . have:M*(e*q.num.natAbs)=e*(M*q.num.natAbs):=by ac_rfl
         rw[this];exact Jr _ (Jm _ hc)
       . have:M*(q.den*A)=q.den*(M*A):=by ac_rfl
         rw[this];exact Jr _ z2
def Zbw{q e:Nat}(he:0<e)(h:∀k:Nat,q ^ k<=e):q<=1:=by
 refine P9 λhq=>?_
 have h1:=h e;have h2:e<2 ^ e:=Nat.lt_two_pow_self;have h3:=Nat.pow_le_pow_left hq e;have h3':2 ^ e<=q ^ e:=h3;omega
def Zk8{p B M:Nat}(hB:0<B)(h:∀k:Nat,p ^ k<=M*B ^ k):p<=B:=by
 refine P9 λhp=>?_
 have key:∀k:Nat,(B+k)*B ^ k<=B*(B+1) ^ k:=by
  intro k;induction k with
  | zero=>simp
  | succ k ih=>
    have h1:(B+(k+1))*B ^ (k+1)<=(B+1)*((B+k)*B ^ k):=by
     rw[Uc];have e1:(B+(k+1))*(B ^ k*B)=(B*(B+(k+1)))*B ^ k:=by ac_rfl
     have e2:(B+1)*((B+k)*B ^ k)=((B+1)*(B+k))*B ^ k:=by ac_rfl
     rw[e1,e2];refine Jm _ ?_;rw[J9,U5,U5,U5];omega
    refine Jo h1 (Jo (Jr _ ih) (Nat.le_of_eq ?_));rw[Uc];ac_rfl
 have h1:=key (M*B+1);have h2:(B+1) ^ (M*B+1)<=M*B ^ (M*B+1):=Jo (Nat.pow_le_pow_left hp _) (h _);have h3:(B+(M*B+1))*B ^ (M*B+1)<=(B*M)*B ^ (M*B+1):=by
  refine Jo h1 (Jo (Jr B h2) (Nat.le_of_eq ?_))
  ac_rfl
 have h4:=Nat.le_of_mul_le_mul_right h3 (Nat.pow_pos hB);have:B*M=M*B:=J4 _ _;omega
def cx.rat{c:Rat}{B:Nat}(hB:0<B)(h:cx (Re.of c) B):c.den=1/\c.num.natAbs<=B:=by
 obtain⟨G,C,h⟩:=h;obtain⟨G',h1,h2,h3⟩:=zw1 (K:=λx=>∃q,x=Re.of q) (P:=λx=>∃q,x=Re.of q) (σ:=λx=>x) ⟨0,rfl⟩ (λx y ⟨p,hp⟩ ⟨q,hq⟩=>⟨p+q,by rw[hp,hq,Re.eL]⟩) (λq x ⟨p,hp⟩=>⟨q*p,by rw[hp,Re.cq]⟩)
  (λ_ _ _ _=>rfl) (λ_ _ _=>rfl) ⟨0,rfl⟩ (λx y ⟨p,hp⟩ ⟨q,hq⟩=>⟨p+q,by rw[hp,hq,Re.eL]⟩) (λq x ⟨p,hp⟩=>⟨q*p,by rw[hp,Re.cq]⟩) (λ_ h=>h) G
 obtain⟨a,rfl⟩:∃a:List Rat,G'=a.map Re.of:=by
  clear h1 h3;induction G' with
  | nil=>exact⟨[],rfl⟩
  | cons x G' ih=>
    obtain⟨q,rfl⟩:=h2 x zS;obtain⟨a,rfl⟩:=ih λb hb=>h2 b (by simp[hb])
    exact⟨q :: a,rfl⟩
 obtain⟨e,A,he,hA⟩:=Zk9 a;have key:∀k:Nat,∃z:Int,(e:Rat)*c ^ k=z/\z.natAbs<=C*B ^ k*A:=by
  intro k;obtain⟨n,n1,n2,n3⟩:=h k;obtain⟨z,z1,z2⟩:=hA n _ n2;refine⟨z,?_,z2⟩;rw[Re.xj]at n3;have h4:=h3 (ri n) (by rw[zx0,n1]) ⟨_,n3.symm⟩;have h5:Re.of (c ^ k)=Re.of (qs (ri n) a):=by rw[<-Zqw,<-h4];exact n3
  rw[Re.dh h5,z1]
 have nat:∀k:Nat,∃z:Int,e*c.num.natAbs ^ k=z.natAbs*c.den ^ k/\z.natAbs<=C*B ^ k*A:=by
  intro k;obtain⟨z,z1,z2⟩:=key k;refine⟨z,?_,z2⟩;have h1:(e:Int)*c.num ^ k=z*(c.den:Int) ^ k:=by
   have hc:c*c.den=c.num:=Mg c;have:((e*c.num ^ k:Int):Rat)=((z*(c.den:Int) ^ k:Int):Rat):=by
    rw[Pz,Pz,Rat.intCast_pow,Rat.intCast_pow,Gb,Gb,<-z1,<-hc];have hm:∀(x y:Rat) (k:Nat),(x*y) ^ k=x ^ k*y ^ k:=by
     intro x y k;induction k with
     | zero=>simp
     | succ k ih=>rw[Rat.pow_succ,Rat.pow_succ,Rat.pow_succ,ih];grind
    rw[hm,Rat.mul_assoc]
   exact Rat.intCast_inj.1 this
  have h2:=congrArg Int.natAbs h1;rw[Gf,Gf,Jh,Int.natAbs_pow,Int.natAbs_pow,Jh]at h2;exact h2
 have WW:c.den=1:=by
  have:c.den<=1:=Zbw he λk=>by
   obtain⟨z,z1,_⟩:=nat k;have hd:c.den ^ k ∣ e*c.num.natAbs ^ k:=⟨z.natAbs,by rw[z1,J4]⟩;have gu:Nat.Coprime (c.den ^ k) (c.num.natAbs ^ k):=Nat.Coprime.pow _ _ c.reduced.symm;exact Pu he (gu.dvd_of_dvd_mul_right hd)
  have:=c.den_pos;omega
 refine⟨WW,Zk8 (M:=C*A) hB λk=>?_⟩;obtain⟨z,z1,z2⟩:=nat k;rw[WW,Nat.one_pow,U6]at z1;have:c.num.natAbs ^ k<=e*c.num.natAbs ^ k:=Nat.le_mul_of_pos_left _ he;rw[z1]at this;refine Jo this (Jo z2 (Nat.le_of_eq ?_))
 ac_rfl
end Den
end

noncomputable section
namespace Den
def tv:zV->List Rat->Re
 | [],a=>Re.of (a.headD 0)
 | r :: T,a=>tv T (a.take (2 ^ T.length))+(tv T r).sqrt*tv T (a.drop (2 ^ T.length))
def RT:zV->Prop
 | []=>True
 | r :: T=>RT T/\r.length=2 ^ T.length/\0<tv T r/\∀w:List Rat,w.length=2 ^ T.length->tv T w*tv T w≠tv T r
def ef(a b:List Rat):List Rat:=To (·+·) a b
def kK(a:List Rat):List Rat:=a.map (- ·)
def Ye{a b:List Rat}{n:Nat}(ha:a.length=n)(hb:b.length=n):(ef a b).length=n:=by simp[ef,ha,hb]
def DW{a:List Rat}{n:Nat}(ha:a.length=n):(kK a).length=n:=by simp[kK,ha]
def Zm(n:Nat):2 ^ (n+1)=2 ^ n+2 ^ n:=by rw[Uc];omega
section
variable {T:zV}{r a b:List Rat}
def Xa(ha:a.length=2 ^ (r :: T).length):(a.take (2 ^ T.length)).length=2 ^ T.length:=by
 rw[Ji,Zm]at ha;simp only[Jk,ha];omega
def Xs(ha:a.length=2 ^ (r :: T).length):(a.drop (2 ^ T.length)).length=2 ^ T.length:=by
 rw[Ji,Zm]at ha;simp only[Uv,ha];omega
def vj{u v:List Rat}(hu:u.length=2 ^ T.length):tv (r :: T) (u++v)=tv T u+(tv T r).sqrt*tv T v:=by
 show tv T ((u++v).take (2 ^ T.length))+(tv T r).sqrt*tv T ((u++v).drop (2 ^ T.length))=_;rw[<-hu,List.take_left,List.drop_left]
def Mh{u v:List Rat}(hu:u.length=2 ^ T.length)(hv:v.length=2 ^ T.length):(u++v).length=2 ^ (r :: T).length:=by
 rw[Jq,hu,hv,Ji,Zm]
def BV(a:List Rat):tv (r :: T) a=tv T (a.take (2 ^ T.length))+(tv T r).sqrt*tv T (a.drop (2 ^ T.length)):=rfl
def Zai(n:Nat):(ef a b).take n=ef (a.take n) (b.take n):=by simp[ef,List.take_zipWith]
def Zah(n:Nat):(ef a b).drop n=ef (a.drop n) (b.drop n):=by simp[ef,List.drop_zipWith]
end
def Re.id5(s u v x y:Re):u+x+s*(v+y)=u+s*v+(x+s*y):=by
 rw[Re.mul_add,Re.add_assoc,Re.add_assoc,Re.add_left_comm x]
def sU:∀{T:zV} {a b:List Rat},a.length=2 ^ T.length->b.length=2 ^ T.length->tv T (ef a b)=tv T a+tv T b
 | [],[p],[q],_,_=>Re.eL p q
 | [],[],_,h,_=>by simp at h
 | [],_ :: _ :: _,_,h,_=>by simp at h
 | [],[_],[],_,h=>by simp at h
 | [],[_],_ :: _ :: _,_,h=>by simp at h
 | r :: T,a,b,ha,hb=>by
   rw[BV,Zai,Zah,sU (Xa ha) (Xa hb),sU (Xs ha) (Xs hb),Re.id5];rfl
def zxx{f:Rat->Rat}{F:Re->Re}(h0:∀q,Re.of (f q)=F (Re.of q))(hF:∀s u v:Re,F u+s*F v=F (u+s*v)):∀{T:zV} {a:List Rat},a.length=2 ^ T.length->tv T (a.map f)=F (tv T a)
 | [],[q],_=>h0 q
 | [],[],h=>by simp at h
 | [],_ :: _ :: _,h=>by simp at h
 | r :: T,a,ha=>by
   rw[BV,<-List.map_take,<-List.map_drop,zxx h0 hF (Xa ha),zxx h0 hF (Xs ha),hF];rfl
def zxy{T:zV}{a:List Rat}(ha:a.length=2 ^ T.length):tv T (kK a)=- tv T a:=
 zxx (F:=λx=>-x) Re.mU (λs u v=>by rw[Re.mul_neg,Re.neg_add]) ha
def Zpj(c:Rat){T:zV}{a:List Rat}(ha:a.length=2 ^ T.length):tv T (a.map (c*·))=Re.of c*tv T a:=
 zxx (F:=λx=>Re.of c*x) (Re.cq c) (λs u v=>by rw[Re.mul_add,Re.mul_left_comm]) ha
def Zt(n:Nat):List Rat:=Jl n 0
def Yh(n:Nat):(Zt n).length=n:=List.length_replicate ..
def uq:∀{T:zV} {n:Nat},tv T (Zt n)=0
 | [],0=>rfl
 | [],n+1=>rfl
 | r :: T,n=>by
   rw[BV];simp only[Zt,List.take_replicate,List.drop_replicate];have h1:=uq (T:=T) (n:=min (2 ^ T.length) n);have h2:=uq (T:=T) (n:=n-2 ^ T.length);simp only[Zt]at h1 h2;rw[h1,h2,Re.mul_zero,Re.add_zero]
def rR(n:Nat)(q:Rat):List Rat:=q :: Zt (n-1)
def WX{n:Nat}(hn:0<n)(q:Rat):(rR n q).length=n:=by
 simp only[rR,Ji,Yh];omega
def WY:∀{T:zV} (q:Rat),tv T (rR (2 ^ T.length) q)=Re.of q
 | [],q=>rfl
 | r :: T,q=>by
   have hp:0<2 ^ T.length:=J7 _;have e:rR (2 ^ (r :: T).length) q=rR (2 ^ T.length) q++Zt (2 ^ T.length):=by
    unfold rR Zt;rw[List.cons_append,Gy,Ji,Zm];congr 2;omega
   rw[e,vj (WX hp q),uq,Re.mul_zero,Re.add_zero,WY]
def BW:zV->List Rat->List Rat->List Rat
 | [],a,b=>[a.headD 0*b.headD 0]
 | r :: T,a,b=>
   ef (BW T (a.take (2 ^ T.length)) (b.take (2 ^ T.length))) (BW T (BW T (a.drop (2 ^ T.length)) (b.drop (2 ^ T.length))) r) ++
    ef (BW T (a.take (2 ^ T.length)) (b.drop (2 ^ T.length))) (BW T (a.drop (2 ^ T.length)) (b.take (2 ^ T.length)))
def vk:∀{T:zV} {a b:List Rat},(BW T a b).length=2 ^ T.length
 | [],_,_=>rfl
 | r :: T,a,b=>by
   unfold BW;rw[Jq,Ye vk vk,Ye vk vk,Ji,Zm]
def Re.id6(s q x y u v:Re)(h:s*s=q):x*u+y*v*q+s*(x*v+y*u)=(x+s*y)*(u+s*v):=by
 subst h;obtain⟨s,rfl⟩:=s.rep;obtain⟨x,rfl⟩:=x.rep;obtain⟨y,rfl⟩:=y.rep;obtain⟨u,rfl⟩:=u.rep;obtain⟨v,rfl⟩:=v.rep;simp only[Re.aO,Re.aQ];exact Re.id λn=>by simp only[CS.aV,CS.bf];grind
def Mi:∀{T:zV} {a b:List Rat},RT T->a.length=2 ^ T.length->b.length=2 ^ T.length->tv T (BW T a b)=tv T a*tv T b
 | [],[p],[q],_,_,_=>Re.cq p q
 | [],[],_,_,h,_=>by simp at h
 | [],_ :: _ :: _,_,_,h,_=>by simp at h
 | [],[_],[],_,_,h=>by simp at h
 | [],[_],_ :: _ :: _,_,_,h=>by simp at h
 | r :: T,a,b,⟨hT,hr,h0,_⟩,ha,hb=>by
   unfold BW;rw[vj (Ye vk vk),sU vk vk,sU vk vk,Mi hT vk hr,Mi hT (Xa ha) (Xa hb),Mi hT (Xs ha) (Xs hb),
    Mi hT (Xa ha) (Xs hb),Mi hT (Xs ha) (Xa hb),Re.id6 _ _ _ _ _ _ (Re.bJ (.inr h0))]
   rfl
def KT(T:zV)(x:Re):Prop:=∃a:List Rat,a.length=2 ^ T.length/\tv T a=x
section
variable {T:zV}{r:List Rat}{x y:Re}
def KT.of(q:Rat):KT T (Re.of q):=⟨_,WX (J7 _) q,WY q⟩
def KT.zero:KT T 0:=KT.of 0
def KT.one:KT T 1:=KT.of 1
def KT.add(h:KT T x)(k:KT T y):KT T (x+y):=by
 obtain⟨a,ha,rfl⟩:=h;obtain⟨b,hb,rfl⟩:=k;exact⟨_,Ye ha hb,sU ha hb⟩
def KT.neg(h:KT T x):KT T (-x):=by
 obtain⟨a,ha,rfl⟩:=h;exact⟨_,DW ha,zxy ha⟩
def KT.sub(h:KT T x)(k:KT T y):KT T (x-y):=by rw[Re.sub_def];exact h.add k.neg
def KT.smul(q:Rat)(h:KT T x):KT T (Re.of q*x):=by
 obtain⟨a,ha,rfl⟩:=h;exact⟨_,by rw[Ph,ha],Zpj q ha⟩
def KT.mul(hT:RT T)(h:KT T x)(k:KT T y):KT T (x*y):=by
 obtain⟨a,ha,rfl⟩:=h;obtain⟨b,hb,rfl⟩:=k;exact⟨_,vk,Mi hT ha hb⟩
def KT.cut(h:KT (r :: T) x):∃u v,KT T u/\KT T v/\x=u+(tv T r).sqrt*v:=by
 obtain⟨a,ha,rfl⟩:=h;exact⟨_,_,⟨_,Xa ha,rfl⟩,⟨_,Xs ha,rfl⟩,rfl⟩
def KT.join(h:KT T x)(k:KT T y):KT (r :: T) (x+(tv T r).sqrt*y):=by
 obtain⟨a,ha,rfl⟩:=h;obtain⟨b,hb,rfl⟩:=k;exact⟨_,Mh ha hb,vj ha⟩
def KT.up(h:KT T x):KT (r :: T) x:=by
 have:=h.join (r:=r) KT.zero
 rwa [Re.mul_zero,Re.add_zero]at this
def KT.root:KT (r :: T) (tv T r).sqrt:=by
 have:=(KT.zero (T:=T)).join (r:=r) KT.one
 rwa [Re.mul_one,Re.zero_add]at this
end
def Re.lj{x y:Re}(h:x+y=0):y=-x:=by rw[Re.add_comm]at h;exact Re.gl h
def Re.ct(x:Re):-x*-x=x*x:=by rw[Re.neg_mul,Re.mul_neg,Re.neg_neg]
def Re.cU(x y:Re):x*y*(x*y)=x*x*(y*y):=by rw[Re.mul_assoc,Re.mul_left_comm y,<-Re.mul_assoc]
def KT.field:∀{T:zV},RT T->∀{x:Re},KT T x->x≠0->∃y,KT T y/\x*y=1
 | [],_,x,⟨a,ha,hx⟩,h0=>by
   subst hx;refine⟨Re.of (a.headD 0)⁻¹,KT.of _,?_⟩;show Re.of (a.headD 0)*Re.of (a.headD 0)⁻¹=1;have:a.headD 0≠0:=λhh=>h0 (by show Re.of (a.headD 0)=0;rw[hh];rfl)
   rw[<-Re.cq,Pg _ this,Re.iZ]
 | r :: T,⟨hT,hr,hp,hn⟩,x,hx,h0=>by
   obtain⟨u,v,hu,hv,e⟩:=hx.cut;have hs:=Re.bJ (.inr hp);have hK:KT T (tv T r):=⟨r,hr,rfl⟩;have hN:u*u-tv T r*(v*v)≠0:=by
    intro hh;rcases Pp (v=0)with gU | gU
    . rw[gU,Re.mul_zero,Re.mul_zero,Re.sub_zero]at hh;have tM:u=0:=(Re.mul_eq_zero hh).elim id id;rw[tM,gU,Re.mul_zero,Re.add_zero]at e;exact h0 e
    . obtain⟨i,hi,h1⟩:=KT.field hT hv gU;obtain⟨w,hw,oY⟩:=KT.mul hT hu hi;refine hn w hw ?_;rw[oY,Re.cU];have h2:u*u=tv T r*(v*v):=Re.sub_eq_zero.1 hh;rw[h2,Re.mul_assoc,<-Re.cU,h1,Re.mul_one,Re.mul_one]
   obtain⟨i,hi,h1⟩:=KT.field hT ((hu.mul hT hu).sub (hK.mul hT (hv.mul hT hv))) hN;refine⟨u*i+(tv T r).sqrt*(-(v*i)),(hu.mul hT hi).join (hv.mul hT hi).neg,?_⟩;rw[e];have:(u+(tv T r).sqrt*v)*(u*i+(tv T r).sqrt*(-(v*i)))=(u*u-(tv T r).sqrt*(tv T r).sqrt*(v*v))*i:=by
    generalize (tv T r).sqrt=s;clear h1 e hN hs hK hu hv hi;obtain⟨s,rfl⟩:=s.rep;obtain⟨u,rfl⟩:=u.rep;obtain⟨v,rfl⟩:=v.rep;obtain⟨i,rfl⟩:=i.rep;simp only[Re.sub_def,Re.aO,Re.aQ,Re.aT];exact Re.id λn=>by simp only[CS.aV,CS.bf,CS.bB];grind
   rw[this,hs,h1]
section
variable {T:zV}{r:List Rat}{x y u v u' v':Re}
def KT.inv(hT:RT T)(h:KT T x)(h0:x≠0):KT T x.inv:=by
 obtain⟨y,hy,h1⟩:=KT.field hT h h0;have:y=x.inv:=Re.cancel h0 (by rw[h1,Re.bI h0])
 rwa [<-this]
def KT.pF(hT:RT (r :: T))(hu:KT T u)(hv:KT T v)(h:u+(tv T r).sqrt*v=0):u=0/\v=0:=by
 obtain⟨hT,hr,hp,hn⟩:=hT;have hs:=Re.bJ (.inr hp);rcases Pp (v=0)with gU | gU
 . subst gU;rw[Re.mul_zero,Re.add_zero]at h;exact⟨h,rfl⟩
 . exfalso;have h1:=Re.bI gU;obtain⟨w,hw,oY⟩:=KT.mul hT hu (hv.inv hT gU);refine hn w hw ?_;have h2:u=-((tv T r).sqrt*v):=Re.gl h;rw[oY,h2,Re.neg_mul,Re.mul_assoc,h1,Re.mul_one,Re.ct,hs]
def KT.parts(hT:RT (r :: T))(hu:KT T u)(hv:KT T v)(AD:KT T u')(nZ:KT T v')(h:u+(tv T r).sqrt*v=u'+(tv T r).sqrt*v'):u=u'/\v=v':=by
 have:(u-u')+(tv T r).sqrt*(v-v')=0:=by
  rw[Re.mul_sub];have e:u-u'+((tv T r).sqrt*v-(tv T r).sqrt*v')=(u+(tv T r).sqrt*v)-(u'+(tv T r).sqrt*v'):=by
   rw[Re.sub_def,Re.sub_def,Re.sub_def,Re.neg_add,Re.add_assoc,Re.add_assoc,Re.add_left_comm (-u')]
  rw[e,h,Re.sub_self]
 obtain⟨h1,h2⟩:=KT.pF hT (hu.sub AD) (hv.sub nZ) this;exact⟨Re.sub_eq_zero.1 h1,Re.sub_eq_zero.1 h2⟩
end
def Mj:∀{T:zV} {a:List Rat},RT T->a.length=2 ^ T.length->tv T a=0->a=Zt (2 ^ T.length)
 | [],[q],_,_,h=>by
   have:q=0:=Re.dh h;rw[this];rfl
 | [],[],_,h,_=>by simp at h
 | [],_ :: _ :: _,_,h,_=>by simp at h
 | r :: T,a,hT,ha,h=>by
   obtain⟨h1,h2⟩:=KT.pF hT ⟨_,Xa ha,rfl⟩ ⟨_,Xs ha,rfl⟩ h;have e1:=Mj hT.1 (Xa ha) h1;have e2:=Mj hT.1 (Xs ha) h2;rw[<-Ge (2 ^ T.length) a,e1,e2];simp[Zt,Gy,<-Zm]
def HN{T:zV}{a b:List Rat}(hT:RT T)(ha:a.length=2 ^ T.length)(hb:b.length=2 ^ T.length)(h:tv T a=tv T b):a=b:=by
 have h1:tv T (ef a (kK b))=0:=by rw[sU ha (DW hb),zxy hb,h,Re.add_neg]
 have h2:=Mj hT (Ye ha (DW hb)) h1;apply List.ext_getElem (by rw[ha,hb]);intro i h3 h4;have h5:(ef a (kK b))[i]'(by rw[Ye ha (DW hb)];omega)=0:=by
  simp only[h2,Zt,List.getElem_replicate]
 simp only[ef,kK,List.getElem_zipWith,List.getElem_map]at h5
 grind
end Den
end

section
namespace Den
open Iv
def Sz(x:Re)(s:Nat):Prop:=∃d B:Nat,0<d/\0<B/\d<=W ^ s/\B<=W ^ s/\cx (Re.of d*x) B
def Xi:0<W:=zD
def Wp(s:Nat):0<W ^ s:=Nat.pow_pos Xi
def Zrm(s:Nat):2*W ^ s<=W ^ (s+1):=by
 rw[Uc,J4];exact Jr _ zD
section
variable {x y w:Re}{s t:Nat}
def Sz.mono(h:Sz x s)(hs:s<=t):Sz x t:=by
 obtain⟨d,B,h1,h2,h3,h4,h5⟩:=h;exact⟨d,B,h1,h2,Jo h3 (Jz Xi hs),Jo h4 (Jz Xi hs),h5⟩
def Sz.mul(h:Sz x s)(k:Sz y t):Sz (x*y) (s+t):=by
 obtain⟨d,B,h1,h2,h3,h4,h5⟩:=h;obtain⟨e,C,k1,k2,k3,k4,k5⟩:=k;refine⟨d*e,B*C,Nat.mul_pos h1 k1,Nat.mul_pos h2 k2,by rw[Gm];exact Gt h3 k3,by rw[Gm];exact Gt h4 k4,?_⟩;have:=h5.mul k5
 rwa [show Re.of d*x*(Re.of e*y)=Re.of ((d*e:Nat):Rat)*(x*y)by
  rw[Rat.natCast_mul,Re.cq,Re.mul_assoc,Re.mul_assoc,Re.mul_left_comm x]]at this
def cx.scale{A:Nat}(d:Nat)(h:cx x A):cx (Re.of d*x) (d*A):=by
 have:=(cx.of d).mul h
 rwa [Gb,Jh]at this
def Sz.add(h:Sz x s)(k:Sz y t):Sz (x+y) (s+t+1):=by
 obtain⟨d,B,h1,h2,h3,h4,h5⟩:=h;obtain⟨e,C,k1,k2,k3,k4,k5⟩:=k;have g1:e*B<=W ^ (s+t):=by rw[Gm,J4];exact Gt h4 k3
 have g2:d*C<=W ^ (s+t):=by rw[Gm];exact Gt h3 k4
 have g3:=Zrm (s+t);refine⟨d*e,e*B+d*C,Nat.mul_pos h1 k1,Nat.add_pos_left (Nat.mul_pos k1 h2) _,?_,zO,?_⟩
 . have:d*e<=W ^ (s+t):=by rw[Gm];exact Gt h3 k3
   omega
 . have:=(h5.scale e).add (k5.scale d)
   rwa [show Re.of e*(Re.of d*x)+Re.of d*(Re.of e*y)=Re.of ((d*e:Nat):Rat)*(x+y)by
    rw[Rat.natCast_mul,Re.cq,Re.mul_add,Re.mul_assoc,Re.mul_assoc,Re.mul_left_comm (Re.of e)]]at this
def Sz.neg(h:Sz x s):Sz (-x) s:=by
 obtain⟨d,B,h1,h2,h3,h4,h5⟩:=h;refine⟨d,B,h1,h2,h3,h4,?_⟩;rw[Re.mul_neg];exact h5.neg
def Sz.sub(h:Sz x s)(k:Sz y t):Sz (x-y) (s+t+1):=by rw[Re.sub_def];exact h.add k.neg
def Sz.rat{q:Rat}(h1:q.num.natAbs<=W ^ s)(h2:q.den<=W ^ s):Sz (Re.of q) s:=by
 refine⟨q.den,W ^ s,q.den_pos,Wp s,h2,Jd _,?_⟩;rw[<-Re.cq,Rat.mul_comm,Mg];exact(cx.of q.num).mono h1
def Sz.int{n:Int}(h1:n.natAbs<=W ^ s):Sz (Re.of (n:Rat)) s:=
 Sz.rat (by rw[Rat.num_intCast];exact h1) (by rw[Rat.den_intCast];exact Wp s)
def Sz.root(h:Sz x s)(hw:w*w=x):Sz w s:=by
 obtain⟨d,B,h1,h2,h3,h4,h5⟩:=h;refine⟨d,W ^ s,h1,Wp s,h3,Jd _,(h5.scale d).root (w:=Re.of d*w) ?_ (Gt h3 h4) (Wp s)⟩;rw[Re.cU,hw,Re.mul_assoc]
def Sz.toRat{q:Rat}(h:Sz (Re.of q) s):q.num.natAbs<=W ^ s/\q.den<=W ^ s:=by
 obtain⟨d,B,h1,h2,h3,h4,h5⟩:=h;rw[<-Re.cq]at h5;obtain⟨g1,g2⟩:=h5.rat h2;have hm:((d:Rat)*q)=(((d:Rat)*q).num:Rat):=by
  have:=Mg ((d:Rat)*q);rw[g1]at this;rw[<-this];exact(Rat.mul_one _).symm
 revert g2 hm;generalize ((d:Rat)*q).num=m;intro g2 hm;have hq:=Mg q;have e:(d:Int)*q.num=m*q.den:=by
  have:(((d:Int)*q.num:Int):Rat)=((m*(q.den:Int):Int):Rat):=by
   rw[Pz,Pz,Gb,Gb,<-hm,<-hq,Rat.mul_assoc]
  exact Rat.intCast_inj.1 this
 have e2:=congrArg Int.natAbs e;rw[Gf,Gf,Jh,Jh]at e2;have hd:q.den ∣ d:=(q.reduced.symm).dvd_of_dvd_mul_right (k:=q.den) ⟨m.natAbs,by rw[e2,J4]⟩;obtain⟨c,hc⟩:=hd;have hcp:0<c:=by
  rcases Gs c with hh | hh
  rw[hh,Nat.mul_zero]at hc;omega;exact hh
 refine⟨?_,Jo (Pu h1 ⟨c,hc⟩) h3⟩;have e3:c*q.num.natAbs=m.natAbs:=by
  have:q.den*(c*q.num.natAbs)=q.den*m.natAbs:=by
   rw[<-J6,<-hc,e2,J4]
  exact Nat.eq_of_mul_eq_mul_left q.den_pos this
 have:q.num.natAbs<=c*q.num.natAbs:=Nat.le_mul_of_pos_left _ hcp;omega
end
section
variable {T:zV}{r:List Rat}{x u v:Re}{s S:Nat}
def Zob(hT:RT (r :: T)):∃σ:Re->Re,∀u v,KT T u->KT T v->σ (u+(tv T r).sqrt*v)=u-(tv T r).sqrt*v:=by
 classical
 refine⟨λx=>if h:∃p:Re×Re,KT T p.1/\KT T p.2/\x=p.1+(tv T r).sqrt*p.2 then (Classical.choose h).1-(tv T r).sqrt*(Classical.choose h).2 else 0,λu v hu hv=>?_⟩;have h:∃p:Re×Re,KT T p.1/\KT T p.2/\u+(tv T r).sqrt*v=p.1+(tv T r).sqrt*p.2:=⟨(u,v),hu,hv,rfl⟩;simp only[dif_pos h];obtain⟨h1,h2,h3⟩:=Ll h;obtain⟨e1,e2⟩:=KT.parts hT hu hv h1 h2 h3;rw[<-e1,<-e2]
def Re.HO(s x y u v:Re):x-s*y+(u-s*v)=x+u-s*(y+v):=by
 obtain⟨s,rfl⟩:=s.rep;obtain⟨x,rfl⟩:=x.rep;obtain⟨y,rfl⟩:=y.rep;obtain⟨u,rfl⟩:=u.rep;obtain⟨v,rfl⟩:=v.rep;simp only[Re.sub_def,Re.aO,Re.aQ,Re.aT];exact Re.id λn=>by simp only[CS.aV,CS.bf,CS.bB];grind
def Re.id8(s q x y u v:Re)(h:s*s=q):(x-s*y)*(u-s*v)=x*u+q*(y*v)-s*(x*v+y*u):=by
 subst h;obtain⟨s,rfl⟩:=s.rep;obtain⟨x,rfl⟩:=x.rep;obtain⟨y,rfl⟩:=y.rep;obtain⟨u,rfl⟩:=u.rep;obtain⟨v,rfl⟩:=v.rep;simp only[Re.sub_def,Re.aO,Re.aQ,Re.aT];exact Re.id λn=>by simp only[CS.aV,CS.bf,CS.bB];grind
def Re.id9(s q x y u v:Re)(h:s*s=q):(x+s*y)*(u+s*v)=x*u+q*(y*v)+s*(x*v+y*u):=by
 subst h;obtain⟨s,rfl⟩:=s.rep;obtain⟨x,rfl⟩:=x.rep;obtain⟨y,rfl⟩:=y.rep;obtain⟨u,rfl⟩:=u.rep;obtain⟨v,rfl⟩:=v.rep;simp only[Re.aO,Re.aQ];exact Re.id λn=>by simp only[CS.aV,CS.bf];grind
def Zdj{B:Nat}(hT:RT (r :: T))(hu:KT T u)(hv:KT T v)(h:cx (u+(tv T r).sqrt*v) B):cx (u-(tv T r).sqrt*v) B:=by
 obtain⟨σ,hσ⟩:=Zob hT;have hs:=Re.bJ (.inr hT.2.2.1);have hK:KT T (tv T r):=⟨r,hT.2.1,rfl⟩;have:=cx.map (K:=KT (r :: T)) (σ:=σ) KT.one KT.zero (λ_ _=>KT.add) (λq _=>KT.smul q) (λ_ _ h k=>KT.mul hT h k) ?_ ?_ ?_ ?_ (hu.join hv) h
 rwa [hσ u v hu hv]at this
 . intro x y hx hy;obtain⟨a,b,ha,hb,rfl⟩:=hx.cut;obtain⟨c,d,hc,hd,rfl⟩:=hy.cut;rw[hσ a b ha hb,hσ c d hc hd,<-Re.id5,hσ _ _ (ha.add hc) (hb.add hd),Re.HO]
 . intro q x hx;obtain⟨a,b,ha,hb,rfl⟩:=hx.cut;rw[hσ a b ha hb,Re.mul_add,Re.mul_left_comm,hσ _ _ (ha.smul q) (hb.smul q),Re.mul_sub,Re.mul_left_comm (tv T r).sqrt]
 . have:=hσ 1 0 KT.one KT.zero
   rwa [Re.mul_zero,Re.add_zero,Re.sub_zero]at this
 . intro x y hx hy;obtain⟨a,b,ha,hb,rfl⟩:=hx.cut;obtain⟨c,d,hc,hd,rfl⟩:=hy.cut;rw[hσ a b ha hb,hσ c d hc hd,Re.id8 _ _ _ _ _ _ hs,Re.id9 _ _ _ _ _ _ hs,hσ _ _ ((ha.mul hT.1 hc).add (hK.mul hT.1 (hb.mul hT.1 hd))) ((ha.mul hT.1 hd).add (hb.mul hT.1 hc))]
def zyt(hT:RT (r :: T))(hu:KT T u)(hv:KT T v)(d:Nat){B:Nat}(h:cx (Re.of d*(u+(tv T r).sqrt*v)) B):cx (Re.of d*(u-(tv T r).sqrt*v)) B:=by
 rw[Re.mul_add,Re.mul_left_comm]at h;have:=Zdj hT (hu.smul d) (hv.smul d) h
 rwa [Re.mul_left_comm,<-Re.mul_sub]at this
def Sz.WZ(hT:RT (r :: T))(hu:KT T u)(hv:KT T v)(h:Sz (u+(tv T r).sqrt*v) s):Sz (u-(tv T r).sqrt*v) s:=by
 obtain⟨d,B,h1,h2,h3,h4,h5⟩:=h;exact⟨d,B,h1,h2,h3,h4,zyt hT hu hv d h5⟩
end
def Re.two_mul(x:Re):Re.of 2*x=x+x:=by
 have:Re.of 2=Re.of 1+Re.of 1:=by rw[<-Re.eL];congr 1;grind
 rw[this,Re.add_mul,Re.iZ,Re.one_mul]
def Re.neg_eq_zero{x:Re}(h:-x=0):x=0:=by rw[<-Re.neg_neg x,h,Re.neg_zero]
def Sz.inv:∀{T:zV} {x:Re} {s:Nat},RT T->KT T x->x≠0->Sz x s->Sz x.inv (s*(2 ^ (T.length+1)-1))
 | [],x,s,_,⟨a,ha,hx⟩,h0,h=>by
   obtain⟨q,rfl⟩:∃q,x=Re.of q:=⟨_,hx.symm⟩;have hq:q≠0:=λhh=>h0 (by rw[hh];rfl)
   rw[Re.mV hq];obtain⟨h1,h2⟩:=h.toRat;have hn:q.num.natAbs≠0:=λhh=>hq (Td.1 zO)
   have e:=Mg q;refine⟨q.num.natAbs,W ^ s,zO,Wp s,?_,?_,?_⟩;show _<=W ^ (s*1);rw[U6];exact h1;show _<=W ^ (s*1);rw[U6];exact Jd _
   . have hi:q*q⁻¹=1:=Pg _ hq;rw[<-Re.cq];rcases Int.natAbs_eq q.num with hh | hh
     . have:((q.num.natAbs:Nat):Rat)*q⁻¹=((q.den:Int):Rat):=by
        have h3:((q.num.natAbs:Nat):Rat)=((q.num:Int):Rat):=by rw[<-Gb,<-hh]
        rw[h3,<-e,Gb]
        grind
       rw[this];exact(cx.of (q.den:Int)).mono (by simpa using h2)
     . have:((q.num.natAbs:Nat):Rat)*q⁻¹=((-(q.den:Int):Int):Rat):=by
        have h3:((q.num.natAbs:Nat):Rat)=((-q.num:Int):Rat):=by
         rw[<-Gb];congr 1;omega
        rw[h3,Rat.intCast_neg,Rat.intCast_neg,<-e,Gb]
        grind
       rw[this];exact(cx.of (-(q.den:Int))).mono (by simpa using h2)
 | r :: T,x,s,hT,hx,h0,h=>by
   obtain⟨u,v,hu,hv,rfl⟩:=hx.cut;have hs:=Re.bJ (.inr hT.2.2.1);have hK:KT T (tv T r):=⟨r,hT.2.1,rfl⟩;have hc:=h.WZ hT hu hv;have hN:(u+(tv T r).sqrt*v)*(u-(tv T r).sqrt*v)=u*u-tv T r*(v*v):=by
    conv=>rhs;rw[<-hs]
    generalize (tv T r).sqrt=q;clear hc hK hs hu hv h h0 hx;obtain⟨q,rfl⟩:=q.rep;obtain⟨u,rfl⟩:=u.rep;obtain⟨v,rfl⟩:=v.rep;simp only[Re.sub_def,Re.aO,Re.aQ,Re.aT];exact Re.id λn=>by simp only[CS.aV,CS.bf,CS.bB];grind
   have mD:u-(tv T r).sqrt*v≠0:=by
    intro hh;rw[Re.sub_def,<-Re.mul_neg]at hh;obtain⟨h1,h2⟩:=KT.pF hT hu hv.neg hh;rw[h1,Re.neg_eq_zero h2,Re.mul_zero,Re.add_zero]at h0;exact h0 rfl
   have XA:KT T (u*u-tv T r*(v*v)):=(hu.mul hT.1 hu).sub (hK.mul hT.1 (hv.mul hT.1 hv));have rJ:u*u-tv T r*(v*v)≠0:=λhh=>by
    rw[<-hN]at hh;exact(Re.mul_eq_zero hh).elim h0 mD
   have hSN:Sz (u*u-tv T r*(v*v)) (s+s):=by rw[<-hN];exact h.mul hc
   have ih:=Sz.inv hT.1 XA rJ hSN;have e:(u+(tv T r).sqrt*v).inv=(u-(tv T r).sqrt*v)*(u*u-tv T r*(v*v)).inv:=by
    refine Re.cancel h0 ?_;rw[Re.bI h0,<-Re.mul_assoc,hN,Re.bI rJ]
   rw[e];refine(hc.mul ih).mono ?_;rw[Ji];have:2 ^ (T.length+1+1)-1=1+2*(2 ^ (T.length+1)-1):=by
    have:=J7 (T.length+1);rw[Uc 2 (T.length+1)];omega
   rw[this,U5,U6,<-Nat.mul_two,J6];exact Jd _
def TS(S:Nat):zV->Prop
 | []=>True
 | r :: T=>TS S T/\Sz (tv T r) S
section
variable {T:zV}{r a:List Rat}{u v:Re}{s S:Nat}
def Sz.parts(hT:RT (r :: T))(hS:Sz (tv T r) S)(hu:KT T u)(hv:KT T v)(h:Sz (u+(tv T r).sqrt*v) s):Sz u (s+1)/\Sz v (s+1+S*2 ^ (T.length+1)):=by
 have hK:KT T (tv T r):=⟨r,hT.2.1,rfl⟩;have hs:=Re.bJ (.inr hT.2.2.1);have po:tv T r≠0:=λhh=>by have:=hT.2.2.1;rw[hh]at this;exact Re.lt_irrefl _ this
 obtain⟨d,B,h1,h2,h3,h4,h5⟩:=h;have h6:=zyt hT hu hv d h5;have g1:=Zrm s;have XB:Sz u (s+1):=by
  refine⟨2*d,B+B,zO,zO,zO,zO,?_⟩;have:=h5.add h6
  rwa [show Re.of d*(u+(tv T r).sqrt*v)+Re.of d*(u-(tv T r).sqrt*v)=Re.of ((2*d:Nat):Rat)*u by
   rw[Rat.natCast_mul,Re.cq,Re.mul_assoc];show _=Re.of 2*_;rw[Re.two_mul,<-Re.mul_add,<-Re.mul_add];congr 1;generalize (tv T r).sqrt*v=q;clear this h6 h5 hs hK hu hv po;obtain⟨q,rfl⟩:=q.rep;obtain⟨u,rfl⟩:=u.rep;simp only[Re.sub_def,Re.aO,Re.aT];exact Re.id λn=>by simp only[CS.aV,CS.bB];grind]at this
 refine⟨XB,?_⟩;have hy:Sz ((tv T r).sqrt*v) (s+1):=by
  refine⟨2*d,B+B,zO,zO,zO,zO,?_⟩;have:=h5.sub h6
  rwa [show Re.of d*(u+(tv T r).sqrt*v)-Re.of d*(u-(tv T r).sqrt*v)=Re.of ((2*d:Nat):Rat)*((tv T r).sqrt*v)by
   rw[Rat.natCast_mul,Re.cq,Re.mul_assoc];show _=Re.of 2*_;rw[Re.two_mul,<-Re.mul_sub,<-Re.mul_add];congr 1;generalize (tv T r).sqrt*v=q;clear this h6 h5 hs hK hu hv po XB;obtain⟨q,rfl⟩:=q.rep;obtain⟨u,rfl⟩:=u.rep;simp only[Re.sub_def,Re.aO,Re.aT];exact Re.id λn=>by simp only[CS.aV,CS.bB];grind]at this
 have hi:=Sz.inv hT.1 hK po hS;have e:v=(tv T r).sqrt*v*(tv T r).sqrt*(tv T r).inv:=by
  rw[Re.mul_comm ((tv T r).sqrt*v),<-Re.mul_assoc,hs,Re.mul_comm (tv T r),Re.mul_assoc,Re.bI po,Re.mul_one]
 rw[e];refine((hy.mul (hS.root hs)).mul hi).mono ?_;have hp:=J7 (T.length+1);have:S*2 ^ (T.length+1)=S+S*(2 ^ (T.length+1)-1):=by
  conv=>lhs;rw[show 2 ^ (T.length+1)=1+(2 ^ (T.length+1)-1)by omega]
  rw[U5,U6]
 omega
end
def OV(S n:Nat):Nat:=n*(1+S*2 ^ n)
def Sz.HP:∀{T:zV} {a:List Rat} {s S:Nat},RT T->TS S T->a.length=2 ^ T.length->Sz (tv T a) s->∀q∈a,Sz (Re.of q) (s+OV S T.length)
 | [],[p],s,S,_,_,_,h,q,hq=>by
   rw[Uz.1 hq];exact h.mono (Nat.le_add_right _ _)
 | [],[],_,_,_,_,h,_,_,_=>by simp at h
 | [],_ :: _ :: _,_,_,_,_,h,_,_,_=>by simp at h
 | r :: T,a,s,S,hT,hS,ha,h,q,hq=>by
   obtain⟨h1,h2⟩:=Sz.parts hT hS.2 ⟨_,Xa ha,rfl⟩ ⟨_,Xs ha,rfl⟩ h;have hov:S*2 ^ (T.length+1)+1+OV S T.length<=OV S (r :: T).length:=by
    unfold OV;rw[Ji,J9,La];have:T.length*(1+S*2 ^ T.length)<=T.length*(1+S*2 ^ (T.length+1)):=
     Jr _ (Nat.add_le_add_left (Jr _ (Jz zD (Nat.le_succ _))) _)
    omega
   rw[<-Ge (2 ^ T.length) a,Ul]at hq;rcases hq with hq | hq
   exact(Sz.HP hT.1 hS.1 (Xa ha) h1 q hq).mono zO;exact(Sz.HP hT.1 hS.1 (Xs ha) h2 q hq).mono zO
end Den
end

noncomputable section
namespace Den
open Iv
def Z86(x:Re):∀{l:List Re} {t c:List Rat},t.length=l.length->c.length=l.length->lc c (To (λy p=>y+Re.of p*x) l t)=lc c l+Re.of (qs c t)*x
 | [],[],[],_,_=>by
   show(0:Re)=0+Re.of 0*x;rw[Re.cC,Re.zero_mul,Re.add_zero]
 | y :: l,p :: t,q :: c,h,k=>by
   have ih:=Z86 x (l:=l) (t:=t) (c:=c) (by simpa using h) (by simpa using k);show Re.of q*(y+Re.of p*x)+lc c (To _ l t)=Re.of q*y+lc c l+Re.of (q*p+qs c t)*x;rw[ih,Re.mul_add,Re.eL,Re.cq,Re.add_mul,Re.add_assoc,Re.add_assoc,Re.add_left_comm _ (lc c l),Re.mul_assoc]
def znk:∀{c:List Rat} {l:List Re},(∀x∈l,x=0)->lc c l=0
 | [],_,_=>HL
 | _ :: _,[],_=>rfl
 | q :: c,y :: l,h=>by
   show Re.of q*y+lc c l=0;rw[h y zS,Re.mul_zero,Re.zero_add,znk λx hx=>h x (by simp[hx])]
def pick{P:Re->Rat->Prop}:∀{l:List Re},(∀y∈l,∃t,P y t)->∃ts:List Rat,ts.length=l.length/\∀(x:Re) (Q:Re->Prop),(∀y t,P y t->Q (y+Re.of t*x))->∀z∈To (λy p=>y+Re.of p*x) l ts,Q z
 | [],_=>⟨[],rfl,λ_ _ _ z hz=>by simp at hz⟩
 | y :: l,h=>by
   obtain⟨t,ht⟩:=h y zS;obtain⟨ts,h1,h2⟩:=pick (l:=l) λz hz=>h z (by simp[hz])
   refine⟨t :: ts,by simp[h1],λx Q hQ z hz=>?_⟩;rw[List.zipWith_cons_cons,Gk]at hz;rcases hz with rfl | hz
   exact hQ y t ht;exact h2 x Q hQ z hz
def Z3r:∀(g xs:List Re),g.length<xs.length->(∀x∈xs,∃q:List Rat,q.length=g.length/\x=lc q g)->∃c:List Rat,c.length=xs.length/\(∃q∈c,q≠0)/\lc c xs=0
 | [],xs,hl,h=>by
   refine⟨Jl xs.length 1,zS,⟨1,?_,zD⟩,znk λx hx=>?_⟩;rw[Lo];exact⟨by simp at hl;omega,rfl⟩
   . obtain⟨q,h1,h2⟩:=h x hx;rw[h2];cases q<;>rfl
 | g0 :: g,xs,hl,h=>by
   rcases Pp (∀x∈xs,∃q:List Rat,q.length=g.length/\x=lc q g)with cr | cW
   exact Z3r g xs (by simp at hl;omega) cr
   . obtain⟨x,hx,hxn⟩:∃x,x∈xs/\¬∃q:List Rat,q.length=g.length/\x=lc q g:=Uu λhh=>cW λx hx=>Uu λhn=>hh ⟨x,hx,hn⟩
     obtain⟨l1,l2,rfl⟩:=List.append_of_mem hx;obtain⟨qx,qF,pd⟩:=h x hx;cases qx with
     | nil=>simp at qF
     | cons q0 q=>
     have hq:q.length=g.length:=by simpa using qF
     have XC:x=Re.of q0*g0+lc q g:=pd;have h0:q0≠0:=λhh=>hxn ⟨q,hq,by rw[XC,hh,Re.cC,Re.zero_mul,Re.zero_add]⟩
     have hi:q0*q0⁻¹=1:=Pg _ h0;have hsp:∀y∈l1++l2,∃t,∃p:List Rat,p.length=g.length/\y+Re.of t*x=lc p g:=by
      intro y hy;obtain⟨qy,h1,h2⟩:=h y (by
       rcases Ul.1 hy with hy | hy
       exact Jv _ hy;exact Ue _ (Gx _ hy))
      cases qy with
      | nil=>simp at h1
      | cons p0 p=>
        have hp:p.length=g.length:=by simpa using h1
        have mC:y=Re.of p0*g0+lc p g:=h2;refine⟨-(p0*q0⁻¹),To (·+·) p (q.map (-(p0*q0⁻¹)*·)),by simp[hp,hq],?_⟩;rw[WR hp (by simp[hq]),WS,mC,XC,Z91 p0 q0 q0⁻¹ hi _ _ _ 0]
     obtain⟨t1,e1,f1⟩:=pick (l:=l1) (P:=λy t=>∃p:List Rat,p.length=g.length/\y+Re.of t*x=lc p g) λy hy=>hsp y (Jv _ hy)
     obtain⟨t2,e2,f2⟩:=pick (l:=l2) (P:=λy t=>∃p:List Rat,p.length=g.length/\y+Re.of t*x=lc p g) λy hy=>hsp y (Ue _ hy)
     obtain⟨c,c1,c2,c3⟩:=Z3r g (To (λy p=>y+Re.of p*x) l1 t1++To (λy p=>y+Re.of p*x) l2 t2) (by
      simp at hl |-;omega) (λz hz=>by
      rcases Ul.1 hz with hz | hz
      exact f1 x (λz=>∃p:List Rat,p.length=g.length/\z=lc p g) (λy t ht=>ht) z hz;exact f2 x (λz=>∃p:List Rat,p.length=g.length/\z=lc p g) (λy t ht=>ht) z hz)
     have lz1:(To (λy p=>y+Re.of p*x) l1 t1).length=l1.length:=by simp[e1]
     have lz2:(To (λy p=>y+Re.of p*x) l2 t2).length=l2.length:=by simp[e2]
     rw[Jq,lz1,lz2]at c1;have lt:(c.take l1.length).length=l1.length:=by simp[c1]
     have ld:(c.drop l1.length).length=l2.length:=by simp[c1]
     refine⟨c.take l1.length++(qs (c.take l1.length) t1+qs (c.drop l1.length) t2) :: c.drop l1.length,by simp[c1],?_,?_⟩
     . obtain⟨q',Aa,fD⟩:=c2;rw[<-Ge l1.length c,Ul]at Aa;refine⟨q',?_,fD⟩;rcases Aa with Aa | Aa
       exact Jv _ Aa;exact Ue _ (Gx _ Aa)
     . rw[<-Ge l1.length c,BQ (by rw[lt,lz1]),Z86 x e1 lt,Z86 x e2 ld]at c3;rw[BQ lt];show _+(Re.of (qs (c.take l1.length) t1+qs (c.drop l1.length) t2)*x+lc (c.drop l1.length) l2)=0;rw[<-c3,Re.eL,Re.add_mul];generalize lc (c.take l1.length) l1=A;generalize lc (c.drop l1.length) l2=C;generalize Re.of (qs (c.take l1.length) t1)*x=Y;generalize Re.of (qs (c.drop l1.length) t2)*x=Z;rw[Re.add_assoc A,Re.add_assoc Y,Re.add_comm Z]
def bs:zV->List Re
 | []=>[1]
 | r :: T=>bs T++(bs T).map ((tv T r).sqrt*·)
def zux:∀{T:zV},(bs T).length=2 ^ T.length
 | []=>rfl
 | r :: T=>by
   unfold bs;rw[Jq,Ph,zux,Ji,Zm]
def Zn2:∀{T:zV} {a:List Rat},a.length=2 ^ T.length->tv T a=lc a (bs T)
 | [],[q],_=>by
   show Re.of q=Re.of q*1+0;rw[Re.mul_one,Re.add_zero]
 | [],[],h=>by simp at h
 | [],_ :: _ :: _,h=>by simp at h
 | r :: T,a,ha=>by
   rw[BV,Zn2 (Xa ha),Zn2 (Xs ha),<-zks,<-BQ (by rw[zux,Xa ha]),Ge];rfl
def Zdc:∀{T:zV},∀x∈bs T,KT T x
 | [],x,hx=>by
   rw[Uz.1 hx];exact KT.one
 | r :: T,x,hx=>by
   unfold bs at hx;rcases Ul.1 hx with hx | hx
   exact(Zdc x hx).up
   . obtain⟨y,hy,rfl⟩:=List.mem_map.1 hx;have:=(KT.zero (T:=T)).join (r:=r) (Zdc y hy)
     rwa [Re.zero_add]at this
structure eV(F:Re->Prop)(n:Nat):Prop where
 of:∀q,F (Re.of q)
 add:∀x y,F x->F y->F (x+y)
 mul:∀x y,F x->F y->F (x*y)
 inv:∀x,F x->x≠0->F x.inv
 span:∃g:List Re,g.length=2 ^ n/\∀x,F x->∃q:List Rat,q.length=g.length/\x=lc q g
def eV.neg{F:Re->Prop}{n:Nat}(hF:eV F n){x:Re}(h:F x):F (-x):=by
 rw[<-Re.fW];exact hF.mul _ _ (hF.of _) h
def eV.sub{F:Re->Prop}{n:Nat}(hF:eV F n){x y:Re}(h:F x)(k:F y):F (x-y):=by
 rw[Re.sub_def];exact hF.add _ _ h (hF.neg k)
def eV.rat:eV (λx=>∃q,x=Re.of q) 0 where
 of q:=⟨q,rfl⟩
 add:=λx y ⟨p,hp⟩ ⟨q,hq⟩=>⟨p+q,by rw[hp,hq,Re.eL]⟩
 mul:=λx y ⟨p,hp⟩ ⟨q,hq⟩=>⟨p*q,by rw[hp,hq,Re.cq]⟩
 inv:=λx ⟨p,hp⟩ h0=>⟨p⁻¹,by rw[hp,Re.mV λhh=>h0 (by rw[hp,hh];rfl)]⟩
 span:=⟨[1],rfl,λx ⟨q,hq⟩=>⟨[q],rfl,by
  rw[hq];show Re.of q=Re.of q*1+0;rw[Re.mul_one,Re.add_zero]⟩⟩
def eV.wide{F:Re->Prop}{n:Nat}(hF:eV F n):eV F (n+1):=by
 refine⟨hF.of,hF.add,hF.mul,hF.inv,?_⟩;obtain⟨g,h1,h2⟩:=hF.span;refine⟨g++g,by rw[Jq,h1,Zm],λx hx=>?_⟩;obtain⟨q,h3,h4⟩:=h2 x hx;exact⟨q++Jl g.length 0,by simp[h3],by rw[BQ h3,WT,Re.add_zero,h4]⟩
def eV.root{F:Re->Prop}{n:Nat}(hF:eV F n){α:Re}(hα:F α)(hp:0<α):∃F':Re->Prop,eV F' (n+1)/\(∀x,F x->F' x)/\F' α.sqrt:=by
 rcases Pp (F α.sqrt)with h | h
 exact⟨F,hF.wide,λ_ h=>h,h⟩
 . have hs:=Re.bJ (.inr hp);have f0:F 0:=hF.of 0;have f1:F 1:=hF.of 1;refine⟨λx=>∃u v,F u/\F v/\x=u+α.sqrt*v,⟨?_,?_,?_,?_,?_⟩,?_,?_⟩
   . intro q;exact⟨Re.of q,0,hF.of q,f0,by rw[Re.mul_zero,Re.add_zero]⟩
   . rintro x y ⟨a,b,ha,hb,rfl⟩ ⟨c,d,hc,hd,rfl⟩;exact⟨a+c,b+d,hF.add _ _ ha hc,hF.add _ _ hb hd,(Re.id5 _ _ _ _ _).symm⟩
   . rintro x y ⟨a,b,ha,hb,rfl⟩ ⟨c,d,hc,hd,rfl⟩;exact⟨a*c+α*(b*d),a*d+b*c,hF.add _ _ (hF.mul _ _ ha hc) (hF.mul _ _ hα (hF.mul _ _ hb hd)),hF.add _ _ (hF.mul _ _ ha hd) (hF.mul _ _ hb hc),Re.id9 _ _ _ _ _ _ hs⟩
   . rintro x ⟨u,v,hu,hv,rfl⟩ h0;have hN:u*u-α*(v*v)≠0:=by
      intro hh;rcases Pp (v=0)with gU | gU
      . rw[gU,Re.mul_zero,Re.mul_zero,Re.sub_zero]at hh;have tM:u=0:=(Re.mul_eq_zero hh).elim id id;rw[tM,gU,Re.mul_zero,Re.add_zero]at h0;exact h0 rfl
      . have h1:=Re.bI gU;have hw:F (u*v.inv):=hF.mul _ _ hu (hF.inv _ hv gU);have dE:(u*v.inv)*(u*v.inv)=α:=by
         rw[Re.cU,Re.sub_eq_zero.1 hh,Re.mul_assoc,<-Re.cU,h1,Re.mul_one,Re.mul_one]
        have h2:(u*v.inv-α.sqrt)*(u*v.inv+α.sqrt)=0:=by
         have:(u*v.inv-α.sqrt)*(u*v.inv+α.sqrt)=(u*v.inv)*(u*v.inv)-α.sqrt*α.sqrt:=by
          generalize u*v.inv=w;generalize α.sqrt=s;clear dE hw h1 hh h0;obtain⟨s,rfl⟩:=s.rep;obtain⟨w,rfl⟩:=w.rep;simp only[Re.sub_def,Re.aO,Re.aQ,Re.aT];exact Re.id λn=>by simp only[CS.aV,CS.bf,CS.bB];grind
         rw[this,dE,hs,Re.sub_self]
        rcases Re.mul_eq_zero h2 with h3 | h3
        rw[Re.sub_eq_zero.1 h3]at hw;exact h hw
        . rw[Re.gl h3]at hw;have:=hF.neg hw;rw[Re.neg_neg]at this;exact h this
     have XA:F (u*u-α*(v*v)).inv:=hF.inv _ (hF.sub (hF.mul _ _ hu hu) (hF.mul _ _ hα (hF.mul _ _ hv hv))) hN;refine⟨u*(u*u-α*(v*v)).inv,-(v*(u*u-α*(v*v)).inv),hF.mul _ _ hu XA,hF.neg (hF.mul _ _ hv XA),?_⟩;refine Re.cancel h0 ?_;rw[Re.bI h0];have h1:=Re.bI hN;revert h1;generalize (u*u-α*(v*v)).inv=i;intro h1;rw[<-h1]
     conv=>lhs;rw[<-hs]
     generalize α.sqrt=s;clear h1 XA hN h0 hu hv;obtain⟨s,rfl⟩:=s.rep;obtain⟨u,rfl⟩:=u.rep;obtain⟨v,rfl⟩:=v.rep;obtain⟨i,rfl⟩:=i.rep;simp only[Re.sub_def,Re.aO,Re.aQ,Re.aT];exact Re.id λn=>by simp only[CS.aV,CS.bf,CS.bB];grind
   . obtain⟨g,h1,h2⟩:=hF.span;refine⟨g++g.map (α.sqrt*·),by rw[Jq,Ph,h1,Zm],?_⟩;rintro x ⟨u,v,hu,hv,rfl⟩;obtain⟨p,p1,p2⟩:=h2 u hu;obtain⟨q,q1,q2⟩:=h2 v hv;exact⟨p++q,by simp[p1,q1],by rw[BQ p1,zks,<-p2,<-q2]⟩
   exact λx hx=>⟨x,0,hx,f0,by rw[Re.mul_zero,Re.add_zero]⟩
   exact⟨0,1,f0,f1,by rw[Re.mul_one,Re.zero_add]⟩
def TF(F:Re->Prop):zV->Prop
 | []=>True
 | r :: T=>TF F T/\F (tv T r).sqrt
def TF.mono{F G:Re->Prop}(h:∀x,F x->G x):∀{T:zV},TF F T->TF G T
 | [],_=>trivial
 | r :: T,hT=>⟨TF.mono h hT.1,h _ hT.2⟩
def TF.mem{F:Re->Prop}{n:Nat}(hF:eV F n):∀{T:zV} {x:Re},TF F T->KT T x->F x
 | [],x,_,⟨a,_,hx⟩=>by rw[<-hx];exact hF.of _
 | r :: T,x,hT,hx=>by
   obtain⟨u,v,hu,hv,rfl⟩:=hx.cut;exact hF.add _ _ (TF.mem hF hT.1 hu) (hF.mul _ _ hT.2 (TF.mem hF hT.1 hv))
def TF.i9{F:Re->Prop}{n:Nat}(hF:eV F n){T:zV}(hT:RT T)(h:TF F T):T.length<=n:=by
 refine P9 λhn=>?_
 obtain⟨g,h1,h2⟩:=hF.span;have hlt:g.length<(bs T).length:=by rw[zux,h1];exact G8 zD hn
 obtain⟨c,c1,⟨q,hq,fD⟩,c3⟩:=Z3r g (bs T) hlt λx hx=>h2 x (TF.mem hF h (Zdc x hx))
 rw[zux]at c1;rw[<-Zn2 c1]at c3;have:=Mj hT c1 c3;rw[this]at hq;exact fD (Lo.1 hq).2
end Den
end

noncomputable section
namespace Den
open Iv
open Classical in
def cm(x:Re):Int:=if 0<x then 1 else if x=0 then 0 else -1
section
variable {x y:Re}
def Ws(h:0<x):cm x=1:=by unfold cm;rw[if_pos h]
def xk:cm 0=0:=by unfold cm;rw[if_neg (Re.lt_irrefl 0),if_pos rfl]
def Mk(h:x<0):cm x=-1:=by
 unfold cm;rw[if_neg λhh=>Re.lt_irrefl _ (Re.lt_trans hh h),if_neg λhh=>by rw[hh]at h;exact Re.lt_irrefl _ h]
def Xf(x:Re):(0<x/\cm x=1)\/(x=0/\cm x=0)\/(x<0/\cm x=-1):=by
 rcases Re.ks 0 x with h | h | h
 exact .inl ⟨h,Ws h⟩;exact .inr (.inl ⟨h.symm,by rw[<-h];exact xk⟩);exact .inr (.inr ⟨h,Mk h⟩)
def Qj:cm x=0↔x=0:=by
 rcases Xf x with ⟨h,k⟩ | ⟨h,k⟩ | ⟨h,k⟩
 rw[k];exact⟨λhh=>by omega,λhh=>by rw[hh]at h;exact absurd h (Re.lt_irrefl _)⟩;rw[k];exact⟨λ_=>h,λ_=>rfl⟩;rw[k];exact⟨λhh=>by omega,λhh=>by rw[hh]at h;exact absurd h (Re.lt_irrefl _)⟩
def Z6u:cm x=1↔0<x:=by
 rcases Xf x with ⟨h,k⟩ | ⟨h,k⟩ | ⟨h,k⟩
 rw[k];exact⟨λ_=>h,λ_=>rfl⟩;rw[k];exact⟨λhh=>by omega,λhh=>by rw[h]at hh;exact absurd hh (Re.lt_irrefl _)⟩;rw[k];exact⟨λhh=>by omega,λhh=>absurd (Re.lt_trans h hh) (Re.lt_irrefl _)⟩
def qk:cm x<0↔x<0:=by
 rcases Xf x with ⟨h,k⟩ | ⟨h,k⟩ | ⟨h,k⟩
 rw[k];exact⟨λhh=>by omega,λhh=>absurd (Re.lt_trans h hh) (Re.lt_irrefl _)⟩;rw[k];exact⟨λhh=>by omega,λhh=>by rw[h]at hh;exact absurd hh (Re.lt_irrefl _)⟩;rw[k];exact⟨λ_=>h,λ_=>by omega⟩
def XD(x:Re):-1<=cm x/\cm x<=1:=by rcases Xf x with ⟨_,k⟩ | ⟨_,k⟩ | ⟨_,k⟩<;>rw[k]<;>decide
def zrp(x:Re):cm (-x)=- cm x:=by
 rcases Xf x with ⟨h,k⟩ | ⟨h,k⟩ | ⟨h,k⟩
 rw[k,Mk (Re.pE.2 h)];rw[k,h,Re.neg_zero,xk];rfl;rw[k,Ws (Re.neg_pos.2 h)];rfl
def XE(x y:Re):cm (x*y)=cm x*cm y:=by
 rcases Xf x with ⟨h,k⟩ | ⟨h,k⟩ | ⟨h,k⟩
 . rcases Xf y with ⟨h',k'⟩ | ⟨h',k'⟩ | ⟨h',k'⟩
   rw[k,k',Ws (Re.mul_pos h h')];rfl;rw[h',Re.mul_zero,xk,Int.mul_zero]
   . have:=Re.mul_pos h (Re.neg_pos.2 h');rw[Re.mul_neg]at this;rw[k,k',Mk (Re.neg_pos.1 this)];rfl
 rw[h,Re.zero_mul,xk,Int.zero_mul]
 . rcases Xf y with ⟨h',k'⟩ | ⟨h',k'⟩ | ⟨h',k'⟩
   . have:=Re.mul_pos (Re.neg_pos.2 h) h';rw[Re.neg_mul]at this;rw[k,k',Mk (Re.neg_pos.1 this)];rfl
   rw[h',Re.mul_zero,xk,Int.mul_zero]
   . have:=Re.mul_pos (Re.neg_pos.2 h) (Re.neg_pos.2 h');rw[Re.neg_mul,Re.mul_neg,Re.neg_neg]at this;rw[k,k',Ws this];rfl
def zll(h:cm x=cm y):cm (x+y)=cm x:=by
 rcases Xf x with ⟨h1,k⟩ | ⟨h1,k⟩ | ⟨h1,k⟩
 . have:=Z6u.1 (h▸k);have g:=Re.add_lt_add h1 this;rw[Re.add_zero]at g;rw[k,Ws g]
 . have:=Qj.1 (h▸k);rw[h1,this,Re.add_zero]
 . have h2:y<0:=qk.1 (by rw[<-h,k];decide);have g:=Re.add_lt_add h1 h2;rw[Re.add_zero]at g;rw[k,Mk g]
end
end Den
end

section
namespace Den
open Iv
section
variable {x y s q u v:Re}
def zlo(hs:0<s)(hq:s*s=q)(h1:cm v≠0)(h2:cm u≠cm v)(h3:cm u≠0):cm (u+s*v)=cm u*cm (u*u-q*(v*v)):=by
 have e:u*u-q*(v*v)=(u+s*v)*(u-s*v):=by
  rw[<-hq];clear hs hq h1 h2 h3;obtain⟨s,rfl⟩:=s.rep;obtain⟨u,rfl⟩:=u.rep;obtain⟨v,rfl⟩:=v.rep;simp only[Re.sub_def,Re.aO,Re.aQ,Re.aT];exact Re.id λn=>by simp only[CS.aV,CS.bf,CS.bB];grind
 have LM:cm (s*v)=cm v:=by rw[XE,Ws hs,L5]
 have abn:cm (-(s*v))=cm u:=by
  rw[zrp,LM];rcases Xf u with ⟨_,k⟩ | ⟨_,k⟩ | ⟨_,k⟩<;>rcases Xf v with ⟨_,k'⟩ | ⟨_,k'⟩ | ⟨_,k'⟩<;>rw[k,k']<;>rw[k,k']at h2<;>first | rfl | exact absurd rfl h2 | exact absurd k h3 | exact absurd k' h1
 have h4:cm (u-s*v)=cm u:=by rw[Re.sub_def];exact zll abn.symm
 rw[e,XE,h4];rcases Xf u with ⟨_,k⟩ | ⟨_,k⟩ | ⟨_,k⟩
 rw[k];omega;exact absurd k h3;rw[k];omega
def zj3(hs:0<s)(h:cm u=cm v):cm (u+s*v)=cm u:=
 zll (by rw[XE,Ws hs,L5,h])
def zj4(h:cm v=0):cm (u+s*v)=cm u:=by rw[Qj.1 h,Re.mul_zero,Re.add_zero]
def zj2(hs:0<s)(h:cm u=0):cm (u+s*v)=cm v:=by rw[Qj.1 h,Re.zero_add,XE,Ws hs,L5]
def Zkt(q:Rat):cm (Re.of q)=q.num.sign:=by
 rcases Int.lt_trichotomy q.num 0 with h | h | h
 . rw[Us h];refine Mk ?_;rw[<-Re.cC,Re.of_lt];exact Rat.not_le.1 λhh=>by have:=Rat.num_nonneg.2 hh;omega
 . have:q=0:=Td.1 h;rw[this];exact xk
 . rw[Gi h];refine Ws ?_;rw[<-Re.cC,Re.of_lt];refine Rat.not_le.1 λhh=>?_
   have h1:=Rat.num_nonneg.1 (Int.le_of_lt h);have h2:q=0:=Rat.le_antisymm hh h1;rw[h2]at h;exact absurd h zD
def Re.DX{x y:Re}(h:x*x=y*y):x=y\/x=-y:=by
 have:(x-y)*(x+y)=0:=by
  have e:(x-y)*(x+y)=x*x-y*y:=by
   clear h;obtain⟨x,rfl⟩:=x.rep;obtain⟨y,rfl⟩:=y.rep;simp only[Re.sub_def,Re.aO,Re.aQ,Re.aT];exact Re.id λn=>by simp only[CS.aV,CS.bf,CS.bB];grind
  rw[e,h,Re.sub_self]
 rcases Re.mul_eq_zero this with h1 | h1
 exact .inl (Re.sub_eq_zero.1 h1);exact .inr (Re.gl h1)
def Z1j(x:Re):0<=x.sqrt:=by
 rcases Pp (0<x)with h | h
 exact .inr (Re.iH h);unfold Re.sqrt;rw[dif_neg h];exact Re.le_refl _
def zh4(hx:0<=x)(h:x*x=y):x=y.sqrt:=by
 have hy:0<=y:=by rw[<-h];exact Re.bG x
 have h1:=Re.bJ hy;have h2:=Z1j y;rcases Re.DX (h.trans h1.symm)with h3 | h3
 exact h3
 . rcases hx with hx | hx
   rw[<-Re.neg_neg y.sqrt,<-h3,<-hx,Re.neg_zero]
   . exfalso;rw[h3]at hx;rcases h2 with h2 | h2
     rw[<-h2,Re.neg_zero]at hx;exact Re.lt_irrefl _ hx;exact Re.lt_irrefl _ (Re.lt_trans h2 (Re.neg_pos.1 hx))
end
def Sq(T:zV)(x:Re):Prop:=∃w,KT T w/\w*w=x
def Re.fX{x:Re}(h:x+x=0):x=0:=by
 rw[<-Re.two_mul]at h;exact(Re.mul_eq_zero h).resolve_left λhh=>by have:=Re.dh (hh.trans Re.cC.symm);exact absurd this zD
section
variable {T:zV}{r:List Rat}{u v n p:Re}
def zrt(hT:RT (r :: T))(hu:KT T u)(hv:KT T v)(h:Sq (r :: T) (u+(tv T r).sqrt*v)):∃a b,KT T a/\KT T b/\a*a+tv T r*(b*b)=u/\a*b+b*a=v:=by
 obtain⟨w,hw,h1⟩:=h;obtain⟨a,b,ha,hb,rfl⟩:=hw.cut;have hs:=Re.bJ (.inr hT.2.2.1);have hK:KT T (tv T r):=⟨r,hT.2.1,rfl⟩;rw[Re.id9 _ _ _ _ _ _ hs]at h1;obtain⟨e1,e2⟩:=KT.parts hT ((ha.mul hT.1 ha).add (hK.mul hT.1 (hb.mul hT.1 hb))) ((ha.mul hT.1 hb).add (hb.mul hT.1 ha)) hu hv h1;exact⟨a,b,ha,hb,e1,e2⟩
def zxz(hT:RT (r :: T)):tv T r≠0:=λhh=>by have:=hT.2.2.1;rw[hh]at this;exact Re.lt_irrefl _ this
def Z1h(hT:RT (r :: T))(hu:KT T u)(h:Sq (r :: T) u):Sq T u\/Sq T (u*(tv T r).inv):=by
 rw[<-Re.add_zero u,<-Re.mul_zero (tv T r).sqrt]at h;obtain⟨a,b,ha,hb,e1,e2⟩:=zrt hT hu KT.zero h;rw[Re.mul_comm b a]at e2;rcases Re.mul_eq_zero (Re.fX e2)with h1 | h1
 . refine .inr ⟨b,hb,?_⟩;rw[h1,Re.mul_zero,Re.zero_add]at e1;rw[<-e1,Re.mul_comm (tv T r),Re.mul_assoc,Re.bI (zxz hT),Re.mul_one]
 . refine .inl ⟨a,ha,?_⟩;rw[h1,Re.mul_zero,Re.mul_zero,Re.add_zero]at e1;exact e1
def Z9r(hT:RT (r :: T)){w:Re}(h:w*w=u*(tv T r).inv):((tv T r).sqrt*w)*((tv T r).sqrt*w)=u:=by
 rw[Re.cU,Re.bJ (.inr hT.2.2.1),h,Re.mul_left_comm,Re.bI (zxz hT),Re.mul_one]
def Z9s(hT:RT (r :: T))(hu:KT T u)(hv:KT T v)(h:Sq (r :: T) (u+(tv T r).sqrt*v)):Sq T (u*u-tv T r*(v*v)):=by
 obtain⟨a,b,ha,hb,e1,e2⟩:=zrt hT hu hv h;have hK:KT T (tv T r):=⟨r,hT.2.1,rfl⟩;refine⟨a*a-tv T r*(b*b),(ha.mul hT.1 ha).sub (hK.mul hT.1 (hb.mul hT.1 hb)),?_⟩;rw[<-e1,<-e2];generalize tv T r=q;clear e1 e2 h hK ha hb;obtain⟨q,rfl⟩:=q.rep;obtain⟨a,rfl⟩:=a.rep;obtain⟨b,rfl⟩:=b.rep;simp only[Re.sub_def,Re.aO,Re.aQ,Re.aT];exact Re.id λn=>by simp only[CS.aV,CS.bf,CS.bB];grind
def Z9q(hT:RT (r :: T))(hu:KT T u)(hv:KT T v)(gU:v≠0)(hn:n*n=u*u-tv T r*(v*v))(h:Sq (r :: T) (u+(tv T r).sqrt*v)) :
 ∃p,KT T p/\p≠0/\(p*p=Re.of (1/2)*(u+n)\/p*p=Re.of (1/2)*(u-n)):=by
 obtain⟨a,b,ha,hb,e1,e2⟩:=zrt hT hu hv h;have ha0:a≠0:=λhh=>gU (by rw[<-e2,hh,Re.zero_mul,Re.mul_zero,Re.add_zero])
 have h1:(a*a-tv T r*(b*b))*(a*a-tv T r*(b*b))=n*n:=by
  rw[hn,<-e1,<-e2];generalize tv T r=q;clear e1 e2 h ha hb hn ha0;obtain⟨q,rfl⟩:=q.rep;obtain⟨a,rfl⟩:=a.rep;obtain⟨b,rfl⟩:=b.rep;simp only[Re.sub_def,Re.aO,Re.aQ,Re.aT];exact Re.id λn=>by simp only[CS.aV,CS.bf,CS.bB];grind
 refine⟨a,ha,ha0,?_⟩;rcases Re.DX h1 with h2 | h2
 . refine .inl ?_;rw[<-e1,<-h2];generalize tv T r=q;clear e1 e2 h ha hb hn ha0 h1 h2;obtain⟨q,rfl⟩:=q.rep;obtain⟨a,rfl⟩:=a.rep;obtain⟨b,rfl⟩:=b.rep;simp only[Re.sub_def,Re.iE,Re.aO,Re.aQ,Re.aT];exact Re.id λn=>by simp only[CS.aV,CS.bf,CS.bB,CS.bC];grind
 . refine .inr ?_;have h3:n=-(a*a-tv T r*(b*b)):=by rw[h2,Re.neg_neg]
   rw[<-e1,h3];generalize tv T r=q;clear e1 e2 h ha hb hn ha0 h1 h2 h3;obtain⟨q,rfl⟩:=q.rep;obtain⟨a,rfl⟩:=a.rep;obtain⟨b,rfl⟩:=b.rep;simp only[Re.sub_def,Re.iE,Re.aO,Re.aQ,Re.aT];exact Re.id λn=>by simp only[CS.aV,CS.bf,CS.bB,CS.bC];grind
def zru{s q j:Re}(hs:s*s=q)(hn:n*n=u*u-q*(v*v))(hp:p*p=Re.of (1/2)*(u+n))(hj:(p+p)*j=1):(p+s*(v*j))*(p+s*(v*j))=u+s*v:=by
 rw[Re.id9 _ _ _ _ _ _ hs];have k1:p*(v*j)+v*j*p=v:=by
  have:p*(v*j)+v*j*p=v*((p+p)*j):=by
   clear hs hn hp hj;obtain⟨p,rfl⟩:=p.rep;obtain⟨v,rfl⟩:=v.rep;obtain⟨j,rfl⟩:=j.rep;simp only[Re.aO,Re.aQ];exact Re.id λn=>by simp only[CS.aV,CS.bf];grind
  rw[this,hj,Re.mul_one]
 have k2:p*p+q*(v*j*(v*j))=u:=by
  have e1:q*(v*v)=u*u-n*n:=by
   rw[hn];clear hs hn hp hj k1;obtain⟨q,rfl⟩:=q.rep;obtain⟨v,rfl⟩:=v.rep;obtain⟨u,rfl⟩:=u.rep;simp only[Re.sub_def,Re.aO,Re.aQ,Re.aT];exact Re.id λn=>by simp only[CS.aV,CS.bf,CS.bB];grind
  have e2:q*(v*j*(v*j))=q*(v*v)*(j*j):=by rw[Re.cU,Re.mul_assoc,Re.mul_assoc,Re.mul_assoc]
  have e3:u*u-n*n=(u-n)*(Re.of 2*(p*p)):=by
   rw[hp];clear hs hn hp hj k1 e1 e2;obtain⟨n,rfl⟩:=n.rep;obtain⟨u,rfl⟩:=u.rep;simp only[Re.sub_def,Re.iE,Re.aO,Re.aQ,Re.aT];exact Re.id λn=>by simp only[CS.aV,CS.bf,CS.bB,CS.bC];grind
  have e4:(u-n)*(Re.of 2*(p*p))*(j*j)=Re.of (1/2)*(u-n)*((p+p)*j*((p+p)*j)):=by
   clear hs hn hp hj k1 e1 e2 e3;obtain⟨n,rfl⟩:=n.rep;obtain⟨u,rfl⟩:=u.rep;obtain⟨p,rfl⟩:=p.rep;obtain⟨j,rfl⟩:=j.rep;simp only[Re.sub_def,Re.iE,Re.aO,Re.aQ,Re.aT];exact Re.id λn=>by simp only[CS.aV,CS.bf,CS.bB,CS.bC];grind
  rw[e2,e1,e3,e4,hj,Re.mul_one,Re.mul_one,hp];clear hs hn hp hj k1 e1 e2 e3 e4;obtain⟨n,rfl⟩:=n.rep;obtain⟨u,rfl⟩:=u.rep;simp only[Re.sub_def,Re.iE,Re.aO,Re.aQ,Re.aT];exact Re.id λn=>by simp only[CS.aV,CS.bf,CS.bB,CS.bC];grind
 rw[k1,k2]
end
def kL(n:Nat)(a:List Rat):List Rat:=a++Zt (n-a.length)
def Ml{n:Nat}{a:List Rat}(h:a.length<=n):(kL n a).length=n:=by
 rw[kL,Jq,Yh];omega
def XF:∀{X T:zV} {a:List Rat},a.length=2 ^ T.length->tv (X++T) (kL (2 ^ (X++T).length) a)=tv T a
 | [],T,a,ha=>by
   rw[List.nil_append,kL,ha,Nat.sub_self];show tv T (a++[])=_;rw[Tm]
 | r :: X,T,a,ha=>by
   have h1:a.length<=2 ^ (X++T).length:=by
    rw[ha];exact Jz zD zS
   have e:kL (2 ^ (r :: X++T).length) a=kL (2 ^ (X++T).length) a++Zt (2 ^ (X++T).length):=by
    simp only[kL,J8,Zt];rw[Gy];congr 2;show 2 ^ ((X++T).length+1)-a.length=_;rw[Zm];omega
   rw[e];show tv (r :: (X++T)) _=_;rw[vj (Ml h1),uq,Re.mul_zero,Re.add_zero,XF ha]
def RT.below:∀{X T:zV},RT (X++T)->RT T
 | [],_,h=>h
 | _ :: X,_,h=>RT.below (X:=X) h.1
def TS.below{S:Nat}:∀{X T:zV},TS S (X++T)->TS S T
 | [],_,h=>h
 | _ :: X,_,h=>TS.below (X:=X) h.1
def TF.below{F:Re->Prop}:∀{X T:zV},TF F (X++T)->TF F T
 | [],_,h=>h
 | _ :: X,_,h=>TF.below (X:=X) h.1
def RT.lens:∀{T:zV},RT T->∀i (h:i<T.reverse.length),(T.reverse[i]).length=2 ^ i
 | [],_,i,h=>by simp at h
 | r :: T,hT,i,h=>by
   have h':i<(T.reverse++[r]).length:=by rw[<-Gj];exact h
   have e:(r :: T).reverse[i]=(T.reverse++[r])[i]:=by simp only[Gj]
   rw[e];rcases Jx i T.length with hi | hi
   . rw[J2 (by simpa using hi)];exact RT.lens hT.1 i (by simpa using hi)
   . have:i=T.length:=by simp at h;omega
     subst this;rw[J3 zS];simp[hT.2.1]
end Den
end

section
namespace Den
open Iv
def FL(T:zV)(x:Re)(s:List Rat):Prop:=∃X Y,T=X++Y/\s.length=2 ^ Y.length/\tv Y s=x
def FL.up{T:zV}{x:Re}{s r:List Rat}(h:FL T x s):FL (r :: T) x s:=by
 obtain⟨X,Y,rfl,h1,h2⟩:=h;exact⟨r :: X,Y,rfl,h1,h2⟩
def FL.pad{T:zV}{x:Re}{s:List Rat}(h:FL T x s):s.length<=2 ^ T.length/\tv T (kL (2 ^ T.length) s)=x:=by
 obtain⟨X,Y,rfl,h1,h2⟩:=h;exact⟨by rw[h1];exact Jz zD zS,by rw[XF h1,h2]⟩
def FL.same{T:zV}{x:Re}{s:List Rat}(h1:s.length=2 ^ T.length)(h2:tv T s=x):FL T x s:=⟨[],T,rfl,h1,h2⟩
def EM(T:zV):zV->zV->Prop
 | [],[]=>True
 | r :: U,s :: ss=>EM T U ss/\FL T (tv U r).sqrt s
 | _,_=>False
def EM.up{T:zV}{r:List Rat}:∀{U ss:zV},EM T U ss->EM (r :: T) U ss
 | [],[],_=>trivial
 | _ :: _,_ :: _,⟨h,k⟩=>⟨h.up,k.up⟩
 | [],_ :: _,h=>h.elim
 | _ :: _,[],h=>h.elim
def EM.len{T:zV}:∀{U ss:zV},EM T U ss->ss.length=U.length
 | [],[],_=>rfl
 | _ :: _,_ :: _,⟨h,k⟩=>by rw[Ji,Ji,h.len]
 | [],_ :: _,h=>h.elim
 | _ :: _,[],h=>h.elim
def EM.below{T:zV}:∀{X U ss:zV},EM T (X++U) ss->EM T U (ss.drop X.length)
 | [],_,_,h=>h
 | _ :: X,U,s :: ss,h=>by
   show EM T U (ss.drop X.length);exact EM.below (X:=X) h.1
 | _ :: _,_,[],h=>h.elim
def RT.extend{T:zV}{a:List Rat}(hT:RT T)(ha:a.length=2 ^ T.length)(h0:0<tv T a)(hn:¬Sq T (tv T a)):RT (a :: T):=
 ⟨hT,ha,h0,λw hw hh=>hn ⟨_,⟨w,hw,rfl⟩,hh⟩⟩
def XG(n:Nat):List Rat:=Zt (2 ^ n)++rR (2 ^ n) 1
def zu8(n:Nat):(XG n).length=2 ^ (n+1):=by
 rw[XG,Jq,Yh,WX (J7 n),Zm]
def Za6{T:zV}{a:List Rat}:tv (a :: T) (XG T.length)=(tv T a).sqrt:=by
 unfold XG;rw[vj (Yh _),uq,Re.zero_add,WY,Re.iZ,Re.mul_one]
end Den
end

section
namespace Den
open Go Iv Pq
def Y8{body:(Int×Unit)->((Int×Unit)->Hp->Prop)->Hp->Prop}{h0:Hp}{n:Nat}(hn:n<=140737488355328)(I:Nat->Hp->Prop)(h:I 0 h0)
 (step:∀i h,i<=n->I i h->∀k,(∀h',i<n->I (i+1) h'->k (i64.wrap ((i:Int)+1),()) h')->body ((i:Int),()) k h):zx body (0,()) h0:=by
 refine Za (λst h'=>∃i:Nat,st.1=(i:Int)/\i<=n/\I i h') (λst=>(n-st.1).toNat) ⟨0,rfl,Jt _,h⟩ ?_;rintro⟨_,_⟩ h' ⟨i,rfl,hi,hI⟩;refine step i h' hi hI _ λh2 hlt HQ=>⟨⟨i+1,?_,hlt,HQ⟩,?_⟩
 simp only;rw[aM zO];rfl;simp only;rw[aM zO];omega
def ur{α:Type}{body:(α×Int×Unit)->((α×Int×Unit)->Hp->Prop)->Hp->Prop}{a0:α}{h0:Hp}{n:Nat}(hn:n<=140737488355328)(I:Nat->α->Hp->Prop)(h:I 0 a0 h0)
 (step:∀i a h,i<=n->I i a h->∀k,(∀a' h',i<n->I (i+1) a' h'->k (a',i64.wrap ((i:Int)+1),()) h')->body (a,(i:Int),()) k h):zx body (a0,0,()) h0:=by
 refine Za (λst h'=>∃i:Nat,st.2.1=(i:Int)/\i<=n/\I i st.1 h') (λst=>(n-st.2.1).toNat) ⟨0,rfl,Jt _,h⟩ ?_;rintro⟨a,_,_⟩ h' ⟨i,rfl,hi,hI⟩;refine step i a h' hi hI _ λa2 h2 hlt HQ=>⟨⟨i+1,?_,hlt,HQ⟩,?_⟩
 simp only;rw[aM zO];rfl;simp only;rw[aM zO];omega
def OP(h0 h:Hp)(B:Nat)(l:Sl)(n:Nat)(p:List Rat):Prop:=
 ∃D,h0.le D/\∃xs:List aC,xs.length=n/\p.length<=n/\Own D h 4 l (xs.flatMap qc)/\QL D B (xs.take p.length) p
section
variable {h0 h:Hp}{A B C n:Nat}{a b l m:Sl}{p q:List Rat}{x y:aC}{K:zY Sl}
def OP.hle(hp:OP h0 h B l n p):h0.le h:=by
 obtain⟨D,h1,xs,h2,h3,h4,h5⟩:=hp;exact Ja h1 h4.1
def Z9a{len cap:Int}(hl:len=n)(hc:cap=n)(hn:n<=65536)(H:∀m h',m.len=n->OP h h' B m n []->K m h') :
 eW len cap 64 [.bool false,zN,.bool false,zN] K h:=by
 refine J' (size:=4) n n hl hc (Jd _) zO zO rfl λm h1 ml mc ho=>H m h1 ml ?_
 have hz:Yi n [Value.bool false,zN,.bool false,zN]=(Jl n zT).flatMap qc:=zwv;rw[hz]at ho;exact⟨h,Jf _,Jl n zT,zS,Jt _,ho,⟨rfl,λk k1 _=>by simp at k1⟩⟩
def OP.fill{G:(aC->Hp->Prop)->Hp->Prop}{K:Hp->Prop}{v:Rat}{i:Int}(hp:OP h0 h B l n p)(hi:i=p.length)(hk:p.length<n)(hv:BR B v)
 (hc:∀D,h0.le D->za G (λz D'=>NR D' z v) D) (H:∀h',OP h0 h' B l n (p++[v])->K h') :
 za G (λz h1=>zi l i 4 λa=>bD a [.bool z.num.neg,.slice z.num.ah.a z.num.ah.len z.num.ah.cap,.bool z.den.neg,.slice z.den.ah.a z.den.ah.len z.den.ah.cap] K h1) h:=by
 obtain⟨D,h1,xs,h2,h3,h4,h5⟩:=hp;refine h4.call (hc D h1) λz D' h' g1 g2 g3=>?_
 refine Ma qu zD (x:=z) p.length g2 hi zO (zZ z) λh6 ho _=>H h6 ⟨D',Ja h1 g1,xs.set p.length z,by simpa using h2,by simp;omega,ho,?_⟩
 have e:(xs.set p.length z).take (p++[v]).length=xs.take p.length++[z]:=by
  rw[Jq,List.length_singleton,Jc (by simp;omega),List.take_set_of_le (Jd _)];simp
 rw[e];exact QL.snoc (h5.le g1) g3 hv
def OP.done(hp:OP h0 h B l n p)(hn:p.length=n):OL h0 h B l p:=by
 obtain⟨D,h1,xs,h2,h3,h4,h5⟩:=hp;refine⟨D,h1,xs,h4,?_⟩;rw[hn,<-h2,J5]at h5;exact h5
def OL.ky{h1:Hp}(ho:OL h1 h B l p)(hl:h0.le h1):OL h0 h B l p:=by
 obtain⟨D,g1,g2⟩:=ho;exact⟨D,Ja hl g1,g2⟩
def Z5q{K:Addr->Hp->Prop}{v:Rat}(hx:NR h x v)(hv:BR B v)(H:∀A h',h.le h'->PL h' B ⟨some A,1,1⟩ [v]->K A h') :
 Ys [.bool x.num.neg,.slice x.num.ah.a x.num.ah.len x.num.ah.cap,.bool x.den.neg,.slice x.den.ah.a x.den.ah.len x.den.ah.cap] K h:=by
 refine Mc (xs:=[x]) 1 rfl λA h' hl hr=>H A h' hl ⟨[x],hr,⟨rfl,λk k1 k2=>?_⟩,Jd _⟩
 have:k=0:=by simp at k1;omega
 subst this;exact⟨hx.le hl,hv⟩
def OD.rS{D:Hp}{N:Nat}(ho:OD D h B l p)(hq:PL D B m q)(hN:N=m.len*4)(hlen:p.length+q.length<=65536)(H:∀y h',OD D h' B y (p++q)->K y h') :
 iO m.a N (λvs=>Qg 4 64 [.bool false,zN,.bool false,zN] l m.len vs K h) h:=by
 have hl:=ho.len;have kQ:=hq.len;obtain⟨xs,h1,h2⟩:=ho;obtain⟨ys,g1,g2,g3⟩:=hq;have e:(ys.flatMap qc).length=m.len*4:=by rw[yr qu,g2.1,kQ]
 refine⟨ys.flatMap qc,?_,?_⟩;rw[hN,<-e];exact EP h1.1 g1.2
 . refine pW h1 (n:=m.len) e rfl ?_ zO zO λy h' hy _=>H y h' ⟨xs++ys,?_,?_⟩
   rw[List.all_flatMap,J1];intro x _;exact zZ x;rw[List.flatMap_append];exact hy
   . refine⟨by simp[h2.1,g2.1],λk k1 k2=>?_⟩;have bH:=h2.1;rcases Jx k xs.length with h3 | h3
     . rw[J2 h3,J2 zO];exact h2.2 k h3 zO
     . rw[J3 h3,J3 zO];have:=g2.2 (k-xs.length) (by simp at k1;omega) (by simp at k2;omega);simpa only[bH] using this
def zuh{i:Nat}(fC:p.length=q.length)(hi:i<p.length):(ef p q).take (i+1)=(ef p q).take i++[p[i]+q[i]'zO]:=by
 have h1:i<(ef p q).length:=by simp only[ef,List.length_zipWith];omega
 rw[Jc h1];simp[ef]
def zca{i:Int}(hi:i=n)(hn:n<=65536)(H:∀y h',OL h h' 1 y (Zt n)->K y h'):za (F.GA i) K h:=by
 refine zb (λy h'=>OL h h' 1 y (Zt n)) (λK' hk=>?_) λy h' _ hy=>H y h' hy
 unfold F.GA;refine Z9a (B:=1) hi hi hn λm h1 ml ho=>?_
 refine Y8 (n:=n) zO (λi h'=>OP h h' 1 m n (Zt i)) ho ?_;rintro i h2 hi hI k aG;refine zg (λh3=>?_) (λh3=>?_)
 . rw[ml]at h3;have aA:i<n:=by simp only at h3;omega
   refine hI.fill (v:=0) (by rw[Yh]) (by rw[Yh];exact aA) Vk (λD hD=>Zr zD zD λz h' _ hz=>hz) λh' hp=>aG _ aA ?_
   have e:Zt (i+1)=Zt i++[0]:=by simp only[Zt];rw[List.replicate_succ']
   rw[e];exact hp
 . rw[ml]at h3;have:i=n:=by simp only at h3;omega
   subst this;exact hk _ _ hI.hle (hI.done (Yh _))
def XH(ha:PL h A a p)(hb:PL h B b q)(fC:p.length=q.length)(hlen:p.length<=65536)(hA:A<=400000000000)(hB:B<=400000000000)(hC:∀v∈ef p q,BR C v)
 (H:∀y h',OL h h' C y (ef p q)->K y h'):za (F.Dk a b) K h:=by
 refine zb (λy h'=>OL h h' C y (ef p q)) (λK' hk=>?_) λy h' _ hy=>H y h' hy
 unfold F.Dk;have lp:(ef p q).length=p.length:=Ye rfl fC.symm;rw[ha.len];refine Z9a (B:=C) rfl rfl hlen λm h1 ml ho=>?_
 refine Y8 (n:=p.length) zO (λi h'=>OP h h' C m p.length ((ef p q).take i)) ho ?_;rintro i h2 hi hI k aG;have l1:((ef p q).take i).length=i:=by rw[Jk,lp];omega
 refine zg (λh3=>?_) (λh3=>?_)
 . rw[ml]at h3;have aA:i<p.length:=by simp only at h3;omega
   refine ha.cT i hI.hle rfl aA λu hu bu=>?_
   refine hb.cT i hI.hle rfl zO λv hv bv=>?_
   refine hI.fill (v:=p[i]+q[i]'zO) (by rw[l1]) (by rw[l1];exact aA) (hC _ (by
    have:(ef p q)[i]'zO=p[i]+q[i]'zO:=by simp[ef]
    rw[<-this];exact Jy _)) (λD hD=>zX (hu.le hD) (hv.le hD) bu bv hA hB λz h' _ hz=>hz) λh' hp=>aG _ aA ?_
   rw[zuh fC aA];exact hp
 . rw[ml]at h3;have:i=p.length:=by simp only at h3;omega
   subst this;rw[<-lp,J5,lp]at hI;exact hk _ _ hI.hle (hI.done lp)
def Zca(ha:PL h A a p)(hlen:p.length<=65536)(hA:A<=400000000000)(H:∀y h',OL h h' A y (kK p)->K y h'):za (F.Dn a) K h:=by
 refine zb (λy h'=>OL h h' A y (kK p)) (λK' hk=>?_) λy h' _ hy=>H y h' hy
 unfold F.Dn;have lp:(kK p).length=p.length:=DW rfl;rw[ha.len];refine Z9a (B:=A) rfl rfl hlen λm h1 ml ho=>?_
 refine Y8 (n:=p.length) zO (λi h'=>OP h h' A m p.length ((kK p).take i)) ho ?_;rintro i h2 hi hI k aG;have l1:((kK p).take i).length=i:=by rw[Jk,lp];omega
 refine zg (λh3=>?_) (λh3=>?_)
 . have aA:i<p.length:=by simp only at h3;omega
   refine ha.cT i hI.hle rfl aA λu hu bu=>?_
   refine hI.fill (v:=-p[i]) (by rw[l1]) (by rw[l1];exact aA) bu.neg (λD hD=>LV (hu.le hD) bu zO λz h' _ hz=>hz) λh' hp=>aG _ aA ?_
   have e:(kK p).take (i+1)=(kK p).take i++[-p[i]]:=by
    rw[Jc zO];simp[kK]
   rw[e];exact hp
 . have:i=p.length:=by simp only at h3;omega
   subst this;rw[<-lp,J5,lp]at hI;exact hk _ _ hI.hle (hI.done lp)
end
end Den
end

section
namespace Den
open Go Iv Pq
def Rd.HR{h:Hp}{size:Nat}{x:Sl}{cs:List Value}(hr:Rd h size x cs)(lo hi:Nat)(h1:lo<=hi)(h2:hi<=x.len)(h3:hi<=x.cap):Rd h size (x.cut lo hi size) ((cs.drop (lo*size)).take ((hi-lo)*size)):=by
 have hle:lo*size+(hi-lo)*size<=cs.length:=by
  rw[<-hr.1,<-J9];exact Jm _ zO
 have hlen:((cs.drop (lo*size)).take ((hi-lo)*size)).length=(hi-lo)*size:=by rw[Jk,Uv];omega
 refine⟨by rw[hlen];rfl,?_⟩;rw[hlen];by_cases h0:(hi-lo)*size=0
 . rw[h0];cases(x.cut lo hi size).a<;>simp[Zi,Zp]
 . have hlt:lo<hi:=by
    rcases Jx lo hi with h | h
    exact h
    . have:hi-lo=0:=zO;rw[this]at h0;simp at h0
   have cd:x.cap≠lo:=zO;have ha:(x.cut lo hi size).a=x.a.map (·.add (lo*size)):=by show(if x.cap=lo then _ else _)=_;rw[if_neg cd]
   rw[ha];have ei:=hr.2;cases kI:x.a with
   | none=>
     rw[kI]at ei;simp only[Zi]at ei;split at ei;omega;cases ei
   | some a=>
     rw[kI]at ei;simp only[Zi]at ei;show Zp h (a.add (lo*size)) ((hi-lo)*size)=_;exact zj8 (h:=h) (a:=a.add (lo*size)) (l:=cs.drop (lo*size)) (λi v hv=>by
      rw[Vw];refine C2 ei _ v ?_;rw[List.getElem?_drop]at hv;exact hv) ((hi-lo)*size) (by rw[Uv];omega)
def zqb{α:Type}{c:α->List Value}{n:Nat}(hc:∀x,(c x).length=n):∀{xs:List α} {k:Nat},(xs.flatMap c).drop (k*n)=(xs.drop k).flatMap c
 | xs,0=>by rw[Pm];rfl
 | [],k+1=>by simp
 | x :: xs,k+1=>by
   have e1:(k+1)*n=n+k*n:=by rw[J9];omega
   rw[T3,e1,<-List.drop_drop,List.drop_left' (hc x)];exact zqb hc
section
variable {h:Hp}{A B C n lo hi:Nat}{a b l t:Sl}{p q:List Rat}{x y:aC}{ps:zV}{K:zY Sl}{Kb:zY Bool}
def PL.part(hp:PL h B l p)(h1:lo<=hi)(h2:hi<=p.length):PL h B (l.cut lo hi 4) ((p.drop lo).take (hi-lo)):=by
 have hlen:=hp.len;obtain⟨xs,g1,g2,g3⟩:=hp;have hx:=g2.1;refine⟨(xs.drop lo).take (hi-lo),?_,?_,?_⟩
 . have:=g1.HR lo hi h1 zO zO;rw[zqb qu,zhp qu]at this;exact this
 . refine⟨by simp[hx],λk k1 k2=>?_⟩;simp only[Ps,List.getElem_drop];exact g2.2 (lo+k) (by simp at k1;omega) (by simp at k2;omega)
 . show hi-lo<=l.cap-lo;omega
def lh.part(hp:lh h B l ps)(hc:l.len<=l.cap)(h1:lo<=hi)(h2:hi<=ps.length):lh h B (l.cut lo hi 1) ((ps.drop lo).take (hi-lo)):=by
 have hlen:=hp.len;obtain⟨ss,g1,g2,g3⟩:=hp;refine⟨(ss.drop lo).take (hi-lo),?_,by simp[g2],λk k1 k2=>?_⟩
 . have:=g1.HR lo hi h1 zO zO;rw[U6,U6,<-List.map_drop,<-List.map_take]at this;exact this
 . simp only[Ps,List.getElem_drop];exact g3 (lo+k) (by simp at k1;omega) (by simp at k2;omega)
def TM(h:Hp)(B:Nat)(t:Sl)(T:zV):Prop:=lh h B t T.reverse/\t.len<=t.cap
def TM.le{h':Hp}{T:zV}(ht:TM h B t T)(hl:h.le h'):TM h' B t T:=⟨ht.1.le hl,ht.2⟩
def TM.len{T:zV}(ht:TM h B t T):t.len=T.length:=by rw[ht.1.len,Tg]
def TM.get{T:zV}{i:Int}{K:Sl->Prop}(k:Nat)(ht:TM h B t T)(hi:i=k)(hk:k<T.length)(H:∀s,PL h B s (T.reverse[k]'(by simpa using hk))->K s):zi t i 1 λa=>aB .sl a (λx=>K x) h:=
 ht.1.get k hi (by simpa using hk) H
def TM.tail{T:zV}{r:List Rat}(ht:TM h B t (r :: T)):TM h B (t.cut 0 T.length 1) T:=by
 have:=ht.1.part ht.2 (Jt T.length) zS;refine⟨?_,?_⟩
 . simp only[Tf,Nat.sub_zero,Gj]at this
   rwa [List.take_left' zS]at this
 . show T.length-0<=t.cap-0;have:=ht.len;have:=ht.2;simp at *;omega
def TM.below{T X:zV}(ht:TM h B t (X++T)):TM h B (t.cut 0 T.length 1) T:=by
 have:=ht.1.part ht.2 (Jt T.length) zS;refine⟨?_,?_⟩
 . simp only[Tf,Nat.sub_zero,List.reverse_append]at this
   rwa [List.take_left' zS]at this
 . show T.length-0<=t.cap-0;have:=ht.len;have:=ht.2;simp at *;omega
def Znl{k:Nat}(hk:1<=k)(aG:k<=65536):i64.wrap ((k:Int)-1)=((k-1:Nat):Int):=by rw[aM zO];omega
def zk2{T:zV}{r:List Rat}{K:(Sl×Sl)->Hp->Prop}(ht:TM h B t (r :: T))(hT:T.length<=64)(H:∀s u,TM h B s T->PL h B u r->K (s,u) h):za (F.KW t) K h:=by
 refine zb (λv h'=>h'=h/\TM h B v.1 T/\PL h B v.2 r) (λK' hk=>?_) λv h' _ ⟨e,h1,h2⟩=>by rw[e];exact H _ _ h1 h2
 unfold F.KW;have hl:t.len=T.length+1:=ht.len;rw[hl,Znl zO zO];have hc:=ht.2;refine Xg 0 T.length rfl zO (Jt _) zO ?_;refine ht.get T.length zO zS λs hs=>hk _ _ (Jf _) ⟨rfl,ht.tail,?_⟩
 have e:(r :: T).reverse[T.length]'zS=r:=zS
 rwa [e]at hs
def XI{n:Nat}(hn:n<=62)(hp:p.length=2 ^ (n+1))(hl:a.len=p.length):((a.len:Int):Int).tdiv 2=((2 ^ n:Nat):Int):=by
 rw[hl,hp,Uc];have:(((2 ^ n*2:Nat):Int)).tdiv 2=((2 ^ n*2/2:Nat):Int):=rfl;rw[this,Nat.mul_div_cancel _ zD]
def Xn{n:Nat}(hn:n<=16):2 ^ n<=65536:=Jz zD hn
def zgg{n:Nat}{K:(Sl×Sl)->Hp->Prop}(ha:PL h B a p)(hn:n<=15)(hp:p.length=2 ^ (n+1))(H:∀s u,PL h B s (p.take (2 ^ n))->PL h B u (p.drop (2 ^ n))->K (s,u) h):za (F.Dj a) K h:=by
 refine zb (λv h'=>h'=h/\PL h B v.1 (p.take (2 ^ n))/\PL h B v.2 (p.drop (2 ^ n))) (λK' hk=>?_) λv h' _ ⟨e,h1,h2⟩=>by rw[e];exact H _ _ h1 h2
 unfold F.Dj;have hl:=ha.len;have hc:=ha.cap;have pU:=Xn (n:=n) zO;have hp3:p.length=2 ^ n+2 ^ n:=by rw[hp,Zm]
 rw[XI zO hp hl,aM zO];refine⟨zD,Xg 0 (2 ^ n) rfl rfl (Jt _) zO ⟨zD,Xg (2 ^ n) a.len rfl rfl zO hc (hk _ _ (Jf _) ⟨rfl,?_,?_⟩)⟩⟩
 . have:=ha.part (Jt (2 ^ n)) zO;simpa using this
 . have:=ha.part (lo:=2 ^ n) (hi:=a.len) zO zO
   rwa [Je (by simp;omega)]at this
def qJ(p:List Rat):Bool:=p.all λq=>decide (q=0)
def HS:qJ p=true↔p=Zt p.length:=by
 unfold qJ;rw[J1];constructor
 . intro hh;exact List.eq_replicate_iff.2 ⟨rfl,λx hx=>by simpa using hh x hx⟩
 . intro hh x hx;rw[hh]at hx;simp[(Lo.1 hx).2]
def Z33{K:Bool->Hp->Prop}{v:Rat}(hx:NR h x v)(bx:BR B v)(hB:B<=1000000000000)(H:K (decide (v≠0)) h):za (F.za0 x) K h:=by
 refine zw _ (λK' hk=>?_) H;unfold F.za0;refine zU hx bx hB ?_;have:(v.num.sign != 0)=decide (v≠0):=by
  by_cases hv:v=0;subst hv;rfl
  . have h1:v.num≠0:=λhh=>hv (Td.1 hh)
    have h2:v.num.sign≠0:=λhh=>h1 (Int.sign_eq_zero_iff_zero.1 hh)
    simp[hv,h2]
 rw[this];exact hk
def Mm(ha:PL h B a p)(hlen:p.length<=65536)(hB:B<=1000000000000)(H:Kb (qJ p) h):za (F.Vi a) Kb h:=by
 refine zw _ (λK' hk=>?_) H;unfold F.Vi;refine zw (!(qJ p)) (λK2 aG=>?_) (by simpa using hk);unfold F.yo;refine zb (λv h'=>h'=h/\decide (v>=0)=!(qJ p)) (λK3 cw=>?_) λv h' _ ⟨e1,e2⟩=>by rw[e1,e2];exact aG
 unfold F.yx;rw[ha.len];refine Y8 (n:=p.length) zO (λi h'=>h'=h/\qJ (p.take i)=true) ⟨rfl,rfl⟩ ?_;rintro i h2 hi ⟨hh,hz⟩ k ck;subst hh;refine zg (λh3=>?_) (λh3=>?_)
 . have aA:i<p.length:=by simp only at h3;omega
   refine ha.get i rfl aA λu hu bu=>?_
   refine Z33 hu bu hB (zg (λh4=>?_) (λh4=>?_))
   . refine cw _ _ (Jf _) ⟨rfl,?_⟩;have:qJ p=false:=by
      cases hb:qJ p with
      | false=>rfl
      | true=>exact absurd (by simpa using (J1.1 hb) _ (Jy aA)) h4
     rw[this];simp
   . refine ck _ aA ⟨rfl,?_⟩;unfold qJ at hz |-
     rw[Jc aA,List.all_append,hz];have:p[i]=0:=Uu λhh=>h4 hh
     simp[this]
 . have:i=p.length:=by simp only at h3;omega
   subst this;rw[J5]at hz;refine cw _ _ (Jf _) ⟨rfl,?_⟩;rw[hz];rfl
def zec{i:Int}(ha:PL h B a p)(hlen:p.length<=65536)(hB:B<=1000000000000)(hi:i=p.length)(H:∀h',h.le h'->Kb true h'):za (F.KH a i) Kb h:=by
 refine zb (λv h'=>v=true) (λK' hk=>?_) λv h' hl e=>by rw[e];exact H h' hl
 unfold F.KH;rw[ha.len,hi];refine Zs (λ_=>?_) (λhh=>absurd rfl hh);refine zb (λv h'=>v=false) (λK2 aG=>?_) λv h' hl e=>by rw[e];exact hk _ _ hl rfl
 unfold F.yi;refine zb (λv h'=>v=-1) (λK3 cw=>?_) λv h' hl e=>by rw[e];exact aG _ _ hl rfl
 unfold F.yp;rw[ha.len];refine Y8 (n:=p.length) zO (λi h'=>h.le h') (Jf _) ?_;rintro i h2 hi hle k ck;refine zg (λh3=>?_) (λh3=>?_)
 . have aA:i<p.length:=by simp only at h3;omega
   refine ha.cT i hle rfl aA λu hu bu=>?_
   refine zb (λv h'=>v=false) (λK4 jP=>?_) λv h' hl e=>by
    subst e;exact zc rfl (ck _ aA (Ja hle hl))
   unfold F.z9f;have e1:=hu.1.len;have e2:=hu.2.len;have d1:=yj.2 bu.1;have d2:=yj.2 bu.2;exact znr (hu.ar.le hle) (by show u.num.ah.len<=_;omega) (by show u.den.ah.len<=_;omega) (λq h' hl _=>jP _ _ hl rfl) (λh' hl cW=>absurd ⟨_,hu.le hle⟩ cW)
 exact cw _ _ hle rfl
def uu{n:Nat}(hn:n<=16):i64.wrap (1*2 ^ (min ((n:Int)).toNat i64.bits))=((2 ^ n:Nat):Int):=by
 have e:min ((n:Int)).toNat i64.bits=n:=by
  show min n 64=n;omega
 have:=Xn hn;have c:(2:Int) ^ n=((2 ^ n:Nat):Int):=by rw[Int.natCast_pow];rfl
 have h9:∀N:Nat,N<=65536->i64.wrap (N:Int)=N:=λN hN=>aM zO
 rw[e,L5,c,h9 _ this]
def zb1{T:zV}(ht:TM h B t T)(hT:RT T)(hn:T.length<=16)(hB:B<=1000000000000)(H:∀h',h.le h'->Kb true h'):za (F.Vt t) Kb h:=by
 refine zb (λv h'=>v=true) (λK' hk=>?_) λv h' hl e=>by rw[e];exact H h' hl
 unfold F.Vt;rw[ht.len];refine Y8 (n:=T.length) zO (λi h'=>h.le h') (Jf _) ?_;rintro i h2 hi hle k ck;refine zg (λh3=>?_) (λh3=>?_)
 . have aA:i<T.length:=by simp only at h3;omega
   refine(ht.le hle).get i rfl aA λs hs=>?_
   have hl:=hT.lens i (by simpa using aA);have:=Xn (n:=i) zO;refine⟨zO,?_⟩;rw[uu zO];exact zec hs (by rw[hl];exact this) hB (by rw[hl]) λh' hl=>zc rfl (ck _ aA (Ja hle hl))
 exact hk _ _ hle rfl
def Vv{T:zV}(ht:TM h B t T)(hT:RT T)(hn:T.length<=16)(hB:B<=1000000000000)(ha:PL h A a p)(hp:p.length=2 ^ T.length)(hA:A<=1000000000000)(H:∀h',h.le h'->Kb true h'):za (F.Q0 t a) Kb h:=by
 refine zb (λv h'=>v=true) (λK' hk=>?_) λv h' hl e=>by rw[e];exact H h' hl
 unfold F.Q0;refine zb1 ht hT hn hB λh1 aP=>zk rfl ⟨zO,?_⟩
 rw[ht.len,uu hn];exact zec (ha.le aP) (by rw[hp];exact Xn hn) hA (by rw[hp]) λh2 bH=>hk _ _ (Ja aP bH) rfl
def ze6{T:zV}(ht:TM h B t T)(hT:RT T)(hn:T.length<=16)(hB:B<=1000000000000)(ha:PL h A a p)(hp:p.length=2 ^ T.length)(hA:A<=1000000000000)(hb:PL h C b q)(hq:q.length=2 ^ T.length)(hC:C<=1000000000000)
 (H:∀h',h.le h'->Kb true h'):za (F.KO t a b) Kb h:=by
 refine zb (λv h'=>v=true) (λK' hk=>?_) λv h' hl e=>by rw[e];exact H h' hl
 unfold F.KO;refine Vv ht hT hn hB ha hp hA λh1 aP=>zk rfl ⟨zO,?_⟩
 rw[ht.len,uu hn];exact zec (hb.le aP) (by rw[hq];exact Xn hn) hC (by rw[hq]) λh2 bH=>hk _ _ (Ja aP bH) rfl
def zt0{T:zV}{v:Rat}(ht:TM h B t T)(hT:RT T)(hn:T.length<=16)(hB:B<=1000000000000)(hx:NR h x v)(bx:BR C v)(hC1:1<=C)(hC:C<=1000000000000)
 (H:∀y h',OL h h' C y (rR (2 ^ T.length) v)->K y h'):za (F.Y5 t x) K h:=by
 refine zb (λy h'=>OL h h' C y (rR (2 ^ T.length) v)) (λK' hk=>?_) λy h' _ hy=>H y h' hy
 unfold F.Y5;refine zj (λ_ h'=>h.le h') (λ_ h1 aP=>?_) ?_
 . refine⟨zO,?_⟩;rw[ht.len,uu hn];have hp:=J7 T.length;refine zca rfl (Xn hn) λy h2 hy=>?_
   obtain⟨D,hD,ho⟩:=(hy.ky aP:OL h h2 1 y _);refine(ho.mono hC1).set (x:=x) (v:=v) 0 rfl (by rw[Yh];exact hp) (hx.le hD) bx λh3 eX _=>hk _ _ (Ja hD eX.dT) ⟨D,hD,?_⟩
   have e:(Zt (2 ^ T.length)).set 0 v=rR (2 ^ T.length) v:=by
    unfold Zt rR;cases h4:2 ^ T.length with
    | zero=>omega
    | succ n=>rfl
   rwa [e]at eX
 . refine zb1 ht hT hn hB λh1 aP=>zc rfl ?_
   have e1:=hx.1.len;have e2:=hx.2.len;have d1:=yj.2 bx.1;have d2:=yj.2 bx.2;exact znr (hx.ar.le aP) zO zO (λq h' hl _=>zc rfl (Ja aP hl)) (λh' hl cW=>absurd ⟨_,hx.le aP⟩ cW)
end
end Den
end

section
namespace Den
open Go Iv Pq
def BR.sz{k:Nat}{q:Rat}(h:BR k q):Sz (Re.of q) k:=
 Sz.rat (Nat.le_of_lt h.1) (by have:=h.2;unfold Lt at this;rw[Jh]at this;exact Nat.le_of_lt this)
def Sz.br{s k:Nat}{q:Rat}(h:Sz (Re.of q) s)(hk:s+1<=k):BR k q:=by
 obtain⟨h1,h2⟩:=h.toRat;have:W ^ s<W ^ (s+1):=G8 zD (G5 _);refine BR.mono (k:=s+1) ⟨?_,?_⟩ hk;show _<_;omega;show Int.natAbs _<_;rw[Jh];omega
def CO(S:Nat):Nat:=64*S+5
def CL(S:Nat):Nat:=16*S+1
def KM(S n:Nat):Nat:=CO S+n*(33*S+2)
def Zxz{S n:Nat}(hn:n<=4):OV S n+1<=CO S:=by
 unfold OV CO;have h1:2 ^ n<=2 ^ 4:=Jz zD hn;have h2:n*(1+S*2 ^ n)<=4*(1+S*2 ^ 4):=Gt hn (Nat.add_le_add_left (Jr _ h1) _);have h3:4*(1+S*2 ^ 4)=64*S+4:=by show 4*(1+S*16)=_;omega
 omega
def EV(h:Hp)(S:Nat)(T:zV)(z:Re)(s:Nat)(l:Sl):Prop:=∃p,PL h (s+CO S) l p/\p.length=2 ^ T.length/\tv T p=z/\Sz z s
def bQ(h0 h:Hp)(S:Nat)(T:zV)(z:Re)(s:Nat)(l:Sl):Prop:=∃p,OL h0 h (s+CO S) l p/\p.length=2 ^ T.length/\tv T p=z/\Sz z s
structure TW(h:Hp)(B S:Nat)(t:Sl)(T:zV):Prop where
 mem:TM h B t T
 red:RT T
 small:TS S T
 high:T.length<=4
 bound:B<=300000000000
def ja{n:Nat}(hn:n<=4):2 ^ n<=16:=Jz (n:=2) zD hn
section
variable {h0 h h':Hp}{A B C S n s u:Nat}{a b l m t:Sl}{p q r:List Rat}{T:zV}{x y z:Re}{K:zY Sl}{Kb:zY Bool}{Ki:zY Int}
def EV.le(he:EV h S T z s l)(hl:h.le h'):EV h' S T z s l:=by
 obtain⟨p,h1,h2⟩:=he;exact⟨p,h1.le hl,h2⟩
def EV.mono{k:Nat}(he:EV h S T z s l)(hk:s<=k):EV h S T z k l:=by
 obtain⟨p,h1,h2,h3,h4⟩:=he;exact⟨p,h1.mono zO,h2,h3,h4.mono hk⟩
def EV.sz(he:EV h S T z s l):Sz z s:=by obtain⟨p,h1,h2,h3,h4⟩:=he;exact h4
def EV.kt(he:EV h S T z s l):KT T z:=by obtain⟨p,h1,h2,h3,h4⟩:=he;exact⟨p,h2,h3⟩
def bQ.ev(he:bQ h0 h S T z s l):EV h S T z s l:=by
 obtain⟨p,h1,h2⟩:=he;exact⟨p,h1.pl,h2⟩
def bQ.hle(he:bQ h0 h S T z s l):h0.le h:=by obtain⟨p,h1,h2⟩:=he;exact h1.hle
def bQ.base{h1:Hp}(he:bQ h1 h S T z s l)(hl:h0.le h1):bQ h0 h S T z s l:=by
 obtain⟨p,h1,h2⟩:=he;exact⟨p,h1.ky hl,h2⟩
def TW.le(ht:TW h B S t T)(hl:h.le h'):TW h' B S t T:=⟨ht.mem.le hl,ht.red,ht.small,ht.high,ht.bound⟩
def TW.len(ht:TW h B S t T):t.len=T.length:=ht.mem.len
def TW.below{X:zV}(ht:TW h B S t (X++T)):TW h B S (t.cut 0 T.length 1) T:=
 ⟨ht.mem.below,ht.red.below,ht.small.below,by have:=ht.high;rw[Jq]at this;omega,ht.bound⟩
def TW.tail(ht:TW h B S t (r :: T)):TW h B S (t.cut 0 T.length 1) T:=TW.below (X:=[r]) ht
def xm(hT:RT T)(hS:TS S T)(hn:T.length<=4)(hp:p.length=2 ^ T.length)(hz:Sz (tv T p) s):∀q∈p,BR (s+CO S) q:=λq hq=>
 (Sz.HP hT hS hp hz q hq).br (by have:=Zxz (S:=S) hn;omega)
def pG(hT:RT T)(hS:TS S T)(hn:T.length<=4)(hl:PL h B l p)(hp:p.length=2 ^ T.length)(hz:Sz (tv T p) s):EV h S T (tv T p) s l:=
 ⟨p,hl.re (xm hT hS hn hp hz),hp,rfl,hz⟩
def OL.re(ho:OL h0 h B l p)(hb:∀v∈p,BR C v):OL h0 h C l p:=by
 obtain⟨D,h1,xs,h2,h3⟩:=ho;exact⟨D,h1,xs,h2,h3.1,λk k1 k2=>⟨(h3.2 k k1 k2).1,hb _ (Jy _)⟩⟩
def OL.up(ho:OL h0 h B l p)(hB:B<=C):OL h0 h C l p:=by
 obtain⟨D,h1,h2⟩:=ho;exact⟨D,h1,h2.mono hB⟩
def Mn(hT:RT T)(hS:TS S T)(hn:T.length<=4)(hl:OL h0 h B l p)(hp:p.length=2 ^ T.length)(hz:Sz (tv T p) s):bQ h0 h S T (tv T p) s l:=
 ⟨p,hl.re (xm hT hS hn hp hz),hp,rfl,hz⟩
def HT(hT:RT (r :: T))(hS:TS S (r :: T))(hn:(r :: T).length<=4)(hp:p.length=2 ^ (r :: T).length)(hz:Sz (tv (r :: T) p) s) :
 Sz (tv T (p.take (2 ^ T.length))) (s+CL S)/\Sz (tv T (p.drop (2 ^ T.length))) (s+CL S):=by
 obtain⟨h1,h2⟩:=Sz.parts hT hS.2 ⟨_,Xa hp,rfl⟩ ⟨_,Xs hp,rfl⟩ hz;have e:S*2 ^ (T.length+1)<=S*16:=Jr _ (ja hn);unfold CL;exact⟨h1.mono zO,h2.mono zO⟩
def Zbq{P6 P8 P10 HU:List Rat}(hT:RT (r :: T))(hp:p.length=2 ^ (r :: T).length)(hq:q.length=2 ^ (r :: T).length)
 (l6:P6.length=2 ^ T.length) (l8:P8.length=2 ^ T.length) (mX:P10.length=2 ^ T.length) (BX:HU.length=2 ^ T.length)
 (e6:tv T P6=tv T (p.take (2 ^ T.length))*tv T (q.take (2 ^ T.length))) (e8:tv T P8=tv T (p.drop (2 ^ T.length))*tv T (q.drop (2 ^ T.length))*tv T r)
 (lg:tv T P10=tv T (p.take (2 ^ T.length))*tv T (q.drop (2 ^ T.length))) (sV:tv T HU=tv T (p.drop (2 ^ T.length))*tv T (q.take (2 ^ T.length))) :
 (ef P6 P8++ef P10 HU).length=2 ^ (r :: T).length/\tv (r :: T) (ef P6 P8++ef P10 HU)=tv (r :: T) p*tv (r :: T) q:=by
 refine⟨Mh (Ye l6 l8) (Ye mX BX),?_⟩;rw[vj (Ye l6 l8),sU l6 l8,sU mX BX,e6,e8,lg,sV,Re.id6 _ _ _ _ _ _ (Re.bJ (.inr hT.2.2.1))];rfl
end
def Za5:∀(fuel:Nat) {T:zV} {h:Hp} {B S s u:Nat} {t a b:Sl} {x y:Re} {K':Sl->Hp->Prop},T.length<fuel->TW h B S t T->EV h S T x s a->EV h S T y u b->s+u+KM S T.length<=300000000000 ->
 (∀z h',h.le h'->bQ h h' S T (x*y) (s+u) z->K' z h')->F.Wd fuel t a b K' h
 | 0,_,_,_,_,_,_,_,_,_,_,_,_,h0,_,_,_,_,_=>absurd h0 (Te _)
 | fuel+1,T,h,B,S,s,u,t,a,b,x,y,K',hf,ht,ha,hb,aD,hk=>by
   have key:∀{T:zV} {h:Hp} {B S s u:Nat} {t a b:Sl} {x y:Re} {K:Sl->Hp->Prop},T.length<fuel->TW h B S t T->EV h S T x s a->EV h S T y u b->s+u+KM S T.length<=300000000000 ->
    (∀z h',bQ h h' S T (x*y) (s+u) z->K z h')->za (F.Wd fuel t a b) K h:=λ{T h B S s u t a b x y K} g1 g2 g3 g4 g5 g6=>
    zb (λz h'=>bQ h h' S T (x*y) (s+u) z) (λK' hk=>Za5 fuel g1 g2 g3 g4 g5 hk) λz h' _ hz=>g6 z h' hz
   unfold F.Wd;obtain⟨p,hp,lp,rfl,sp⟩:=ha;obtain⟨q,hq,lq,rfl,sq⟩:=hb;have lY:Sz (tv T p*tv T q) (s+u):=sp.mul sq;have fA:=ht.bound;have fY:s+u+CO S<=300000000000:=by unfold KM at aD;omega
   have eO:=ja ht.high;refine zj (λ_ h'=>h.le h'/\T≠[]) (λ_ h1 hj=>?_) ?_
   . obtain⟨aP,cd⟩:=hj;cases T with
     | nil=>exact absurd rfl cd
     | cons r T=>
     have hT:=ht.red;have hn:=ht.high;have jk:T.length<=3:=by simpa using hn
     have XJ:KM S (r :: T).length=KM S T.length+(33*S+2):=by
      unfold KM;rw[Ji,J9,La];omega
     have jf:CL S=16*S+1:=rfl;have gu:KM S T.length>=CO S:=Nat.le_add_right _ _;rw[Ji]at lp lq;obtain⟨sp1,sp2⟩:=HT hT ht.small hn (by rw[Ji];exact lp) sp;obtain⟨sq1,sq2⟩:=HT hT ht.small hn (by rw[Ji];exact lq) sq;refine zk2 (ht.mem.le aP) zO λt' r' jo vd=>?_
     have tw:TW h1 B S t' T:=⟨jo,hT.1,ht.small.1,zO,ht.bound⟩;have er:EV h1 S T (tv T r) S r':=pG hT.1 ht.small.1 zO vd hT.2.1 ht.small.2;refine zgg (hp.le aP) zO lp λa1 a2 rE gP=>?_
     refine zgg (hq.le aP) zO lq λb1 b2 sk je=>?_
     have BY:EV h1 S T _ (s+CL S) a1:=pG hT.1 ht.small.1 zO rE (Xa (r:=r) (by rw[Ji];exact lp)) sp1;have DY:EV h1 S T _ (s+CL S) a2:=pG hT.1 ht.small.1 zO gP (Xs (r:=r) (by rw[Ji];exact lp)) sp2;have HV:EV h1 S T _ (u+CL S) b1:=pG hT.1 ht.small.1 zO sk (Xa (r:=r) (by rw[Ji];exact lq)) sq1;have BZ:EV h1 S T _ (u+CL S) b2:=pG hT.1 ht.small.1 zO je (Xs (r:=r) (by rw[Ji];exact lq)) sq2;have dk:T.length<fuel:=by simp at hf;omega
     refine key dk tw BY HV zO λz6 h6 e6=>?_
     have l6:=e6.hle;refine key dk (tw.le l6) (DY.le l6) (BZ.le l6) zO λz7 h7 e7=>?_
     have l7:=Ja l6 e7.hle;refine key dk (tw.le l7) e7.ev (er.le l7) zO λz8 h8 e8=>?_
     have l8:=Ja l7 e8.hle;obtain⟨P6,o6,n6,v6,s6⟩:=e6;obtain⟨P8,o8,n8,v8,s8⟩:=e8;have o6':=o6.pl.le (Ja e7.hle o8.hle);obtain⟨FE,uv,xn⟩:=KT.mul hT.1 BY.kt BZ.kt;obtain⟨Du,uw,xo⟩:=KT.mul hT.1 DY.kt HV.kt;obtain⟨fl,fv⟩:=Zbq hT (by rw[Ji];exact lp) (by rw[Ji];exact lq) n6 n8 uv uw v6 v8 xn xo;have fb:=xm hT ht.small hn fl (by rw[fv];exact lY);have B0:=ja (n:=T.length) zO;refine XH o6' o8.pl (by rw[n6,n8]) (by rw[n6];omega) zO zO (C:=s+u+CO S) (λv hv=>fb v (Jv _ hv)) λz9 h9 o9=>?_
     obtain⟨D,hD,od9⟩:=o9;have lD:=Ja l8 hD;refine od9.call (K1:=λz D'=>bQ D D' S T _ _ z) (key dk (tw.le lD) (BY.le lD) (BZ.le lD) zO λz h' e=>e) λqK D10 aZ g1 xp lg=>?_
     have xq:=Ja lD g1;refine xp.call (K1:=λz D'=>bQ D10 D' S T _ _ z) (key dk (tw.le xq) (DY.le xq) (HV.le xq) zO λz h' e=>e) λxr XK bV g2 xt sV=>?_
     obtain⟨P10,o10,qL,v10,_⟩:=lg;obtain⟨HU,o11,XL,v11,_⟩:=sV;have XM:P10=FE:=HN hT.1 qL uv (v10.trans xn.symm);have q11:HU=Du:=HN hT.1 XL uw (v11.trans xo.symm);subst XM q11;refine xt.call (K1:=λz D'=>OL XK D' (s+u+CO S) z (ef P10 HU)) (XH (o10.pl.le g2) o11.pl (by rw[qL,XL]) (by rw[qL];omega) zO zO (λv hv=>fb v (Ue _ hv)) λz h' o=>o) λXN D12 cu g3 xu XO=>?_
     refine xu.rS XO.pl rfl (by rw[Ye n6 n8,Ye qL XL];omega) λqM eG ux=>hk _ _ (Ja (Ja aP xq) (Ja (Ja g2 g3) ux.dT)) ?_
     exact⟨_,⟨D12,Ja (Ja aP xq) (Ja g2 g3),ux⟩,fl,fv,lY⟩
   . rw[ht.len];refine Zs (λh0=>?_) (λh0=>?_)
     . have jS:T=[]:=Ju.1 zO;subst jS;obtain⟨c,rfl⟩:∃c,p=[c]:=U0.1 lp;obtain⟨d,rfl⟩:∃d,q=[d]:=U0.1 lq;refine hp.get 0 rfl zS λv hv bv=>?_
       refine hq.get 0 rfl zS λw hw bw=>?_
       simp only[Ud]at hv bv hw bw;refine wR hv hw bv bw zO zO λz h1 aP hz=>?_
       refine Qv (n:=1) (size:=4) (cells:=qc z) rfl λbb h2 _ ho=>hk _ _ (Ja aP ho.1) ⟨[c*d],⟨h1,aP,[z],?_,⟨rfl,λk k1 k2=>?_⟩⟩,rfl,Re.cq c d,lY⟩
       simpa using ho
       . have:k=0:=by simp at k1;omega
         subst this;refine⟨hz,Sz.br (q:=c*d) (s:=s+u) (by rw[Re.cq];exact lY) (by unfold CO;omega)⟩
     . refine Mm hp (by rw[lp];omega) zO (Zw (λhz=>?_) (λhz=>?_))
       . rw[hp.len];refine zca (n:=p.length) rfl (by rw[lp];omega) λz h1 o=>hk _ _ o.hle ⟨_,o.up (by unfold CO;omega),by rw[Yh,lp],?_,lY⟩
         have e:=HS.1 hz;rw[uq,e,uq,Re.zero_mul]
       . refine Mm hq (by rw[lq];omega) zO (Zw (λfB=>?_) (λfB=>?_))
         . rw[hp.len];refine zca (n:=p.length) rfl (by rw[lp];omega) λz h1 o=>hk _ _ o.hle ⟨_,o.up (by unfold CO;omega),by rw[Yh,lp],?_,lY⟩
           have e:=HS.1 fB;rw[uq,e,uq,Re.mul_zero]
         exact⟨Jf _,λhh=>h0 (by rw[hh];rfl)⟩
section
variable {h h':Hp}{B C S n s u:Nat}{a b t:Sl}{p q:List Rat}{T:zV}{x y z:Re}{K:zY Sl}{Kb:zY Bool}
def Mo(ht:TW h B S t T)(ha:EV h S T x s a)(hb:EV h S T y u b)(aD:s+u+KM S T.length<=300000000000)(H:∀z h',bQ h h' S T (x*y) (s+u) z->K z h'):za (F.Dl t a b) K h:=by
 refine zb (λz h'=>bQ h h' S T (x*y) (s+u) z) (λK' hk=>?_) λz h' hl hz=>H z h' hz
 exact⟨T.length+1,Za5 _ (G5 _) ht ha hb aD hk⟩
def Z87{n:Nat}(hn:n<=4):KM S n<=200*S+13:=by
 unfold KM CO;have:=Jm (33*S+2) hn;omega
def Af(ht:TW h B S t T)(ha:EV h S T x s a)(hb:EV h S T y u b)(aD:s+u+(200*S+13)<=300000000000)(H:∀z h',bQ h h' S T (x*y) (s+u) z->K z h'):za (F.W6 t a b) K h:=by
 refine zb (λz h'=>bQ h h' S T (x*y) (s+u) z) (λK' hk=>?_) λz h' hl hz=>H z h' hz
 unfold F.W6;have XJ:=Z87 (S:=S) ht.high;have fA:=ht.bound;have hn:=ht.high;obtain⟨p,hp,lp,rfl,sp⟩:=ha;obtain⟨q,hq,lq,rfl,sq⟩:=hb;have hc:CO S<=200*S+13:=by unfold CO;omega
 refine ze6 ht.mem ht.red zO zO hp lp zO hq lq zO λh1 aP=>zc rfl ?_
 exact Mo (ht.le aP) ⟨p,hp.le aP,lp,rfl,sp⟩ ⟨q,hq.le aP,lq,rfl,sq⟩ zO λz h2 e=>hk _ _ (Ja aP e.hle) (e.base aP)
def XP(ht:TW h B S t T)(ha:EV h S T x s a)(hb:EV h S T y u b)(aD:s+u+(200*S+13)<=300000000000){k:Nat}(hk:Sz (x+y) k)(H:∀z h',bQ h h' S T (x+y) k z->K z h'):za (F.Dm t a b) K h:=by
 refine zb (λz h'=>bQ h h' S T (x+y) k z) (λK' hk=>?_) λz h' hl hz=>H z h' hz
 unfold F.Dm;have fA:=ht.bound;have hn:=ht.high;have eO:=ja hn;obtain⟨p,hp,lp,rfl,sp⟩:=ha;obtain⟨q,hq,lq,rfl,sq⟩:=hb;have hc:CO S<=200*S+13:=by unfold CO;omega
 refine ze6 ht.mem ht.red zO zO hp lp zO hq lq zO λh1 aP=>zc rfl ?_
 have e:=sU lp lq;refine XH (hp.le aP) (hq.le aP) (by rw[lp,lq]) (by rw[lp];omega) zO zO (C:=k+CO S) (xm ht.red ht.small hn (Ye lp lq) (by rw[e];assumption)) λz h2 o=>hk _ _ (Ja aP o.hle) ⟨_,o.ky aP,Ye lp lq,e,by assumption⟩
def zwj(ht:TW h B S t T)(ha:EV h S T x s a)(aD:s+(200*S+13)<=300000000000)(H:∀z h',bQ h h' S T (-x) s z->K z h'):za (F.Dn a) K h:=by
 obtain⟨p,hp,lp,rfl,sp⟩:=ha;have eO:=ja ht.high;have hc:CO S<=200*S+13:=by unfold CO;omega
 exact Zca hp (by rw[lp];omega) zO λz h2 o=>H _ _ ⟨_,o,DW lp,zxy lp,sp.neg⟩
def XQ(ht:TW h B S t T)(ha:EV h S T x s a)(hb:EV h S T y u b)(aD:s+u+(200*S+13)<=300000000000){k:Nat}(hk:Sz (x-y) k)(H:∀z h',bQ h h' S T (x-y) k z->K z h'):za (F.Be t a b) K h:=by
 refine zb (λz h'=>bQ h h' S T (x-y) k z) (λK' hk=>?_) λz h' hl hz=>H z h' hz
 unfold F.Be;have fA:=ht.bound;have hn:=ht.high;have eO:=ja hn;obtain⟨p,hp,lp,rfl,sp⟩:=ha;have hc:CO S<=200*S+13:=by unfold CO;omega
 obtain⟨q,hq,lq,rfl,sq⟩:=hb;refine ze6 ht.mem ht.red zO zO hp lp zO hq lq zO λh1 aP=>zc rfl ?_
 refine zwj (ht.le aP) ⟨q,hq.le aP,lq,rfl,sq⟩ zO λz h2 e=>?_
 obtain⟨Q,oQ,lQ,vQ,_⟩:=e;have bH:=Ja aP oQ.hle;have e:tv T (ef p Q)=tv T p-tv T q:=by rw[sU lp lQ,vQ,Re.sub_def]
 refine XH (hp.le bH) oQ.pl (by rw[lp,lQ]) (by rw[lp];omega) zO zO (C:=k+CO S) (xm ht.red ht.small hn (Ye lp lQ) (by rw[e];assumption)) λz h2 o=>hk _ _ (Ja bH o.hle) ⟨_,o.ky bH,Ye lp lQ,e,by assumption⟩
def zry(ht:TW h B S t T)(ha:EV h S T x s a)(aD:s+(200*S+13)<=300000000000)(H:∀z h',bQ h h' S T (-x) s z->K z h'):za (F.QK t a) K h:=by
 refine zb (λz h'=>bQ h h' S T (-x) s z) (λK' hk=>?_) λz h' hl hz=>H z h' hz
 unfold F.QK;have fA:=ht.bound;have hn:=ht.high;obtain⟨p,hp,lp,rfl,sp⟩:=ha;have hc:CO S<=200*S+13:=by unfold CO;omega
 refine Vv ht.mem ht.red zO zO hp lp zO λh1 aP=>zc rfl ?_
 exact zwj (ht.le aP) ⟨p,hp.le aP,lp,rfl,sp⟩ aD λz h2 e=>hk _ _ (Ja aP e.hle) (e.base aP)
def B1{v:Rat}{X:aC}(ht:TW h B S t T)(hx:NR h X v)(bx:BR s v)(h1:s+(200*S+13)<=300000000000)(H:∀z h',bQ h h' S T (Re.of v) s z->K z h'):za (F.Y5 t X) K h:=by
 have fA:=ht.bound;have hn:=ht.high;have hc:CO S<=200*S+13:=by unfold CO;omega
 exact zt0 ht.mem ht.red zO zO hx (bx.mono (Nat.le_add_right _ (CO S))) (by unfold CO;omega) zO λz h2 o=>H _ _ ⟨_,o,WX (J7 _) _,WY v,bx.sz⟩
def Z88(ht:TW h B S t T)(ha:EV h S T x s a)(aD:s+(200*S+13)<=300000000000)(H1:x=0->Kb true h)(H0:x≠0->Kb false h):za (F.Vi a) Kb h:=by
 obtain⟨p,hp,lp,rfl,sp⟩:=ha;have eO:=ja ht.high;have hc:CO S<=200*S+13:=by unfold CO;omega
 refine Mm hp (by rw[lp];omega) zO ?_;cases hz:qJ p with
 | true=>exact H1 (by rw[HS.1 hz,uq])
 | false=>
   refine H0 λhh=>?_
   have:=Mj ht.red lp hh;rw[<-lp]at this;rw[HS.2 this]at hz;cases hz
end
end Den
end

section
namespace Den
open Go Iv Pq
def DZ:∀{T:zV} {i:Nat} (h:i<T.reverse.length),∃X r Y,T=X++r :: Y/\Y.length=i/\T.reverse[i]=r
 | [],i,h=>by simp at h
 | r :: T,i,h=>by
   have h':i<(T.reverse++[r]).length:=by rw[<-Gj];exact h
   have e:(r :: T).reverse[i]=(T.reverse++[r])[i]:=by simp only[Gj]
   rcases Jx i T.length with hi | hi
   . obtain⟨X,q,Y,h1,h2,h3⟩:=DZ (T:=T) (i:=i) (by simpa using hi);refine⟨r :: X,q,Y,by rw[h1];rfl,h2,?_⟩;rw[e,J2 (by simpa using hi)];exact h3
   . have:i=T.length:=by simp at h;omega
     subst this;refine⟨[],r,T,rfl,rfl,?_⟩;rw[e,J3 zS];simp
section
variable {h0 h h':Hp}{A B C S n s u:Nat}{a b l m t:Sl}{p q r:List Rat}{T:zV}{x y z:Re}{K:zY Sl}{Kb:zY Bool}{Ki:zY Int}{KE:zY (Sl × Int)}
def OD.re{D:Hp}(ho:OD D h B l p)(hb:∀v∈p,BR C v):OD D h C l p:=by
 obtain⟨xs,h2,h3⟩:=ho;exact⟨xs,h2,h3.1,λk k1 k2=>⟨(h3.2 k k1 k2).1,hb _ (Jy _)⟩⟩
def TW.D0{r':Sl}(ht:TW h B S t (r :: T))(hr:PL h A r' r):EV h S T (tv T r) S r':=
 pG ht.red.1 ht.small.1 (by have:=ht.high;simp at this;omega) hr ht.red.2.1 ht.small.2
def EV.xv{K:(Sl×Sl)->Hp->Prop}(hT:RT (r :: T))(hS:TS S (r :: T))(hn:(r :: T).length<=4)(ha:EV h S (r :: T) x s a)
 (H:∀c d u v,KT T u->KT T v->x=u+(tv T r).sqrt*v->EV h S T u (s+CL S) c->EV h S T v (s+CL S) d->K (c,d) h):za (F.Dj a) K h:=by
 obtain⟨p,hp,lp,rfl,sp⟩:=ha;obtain⟨s1,s2⟩:=HT hT hS hn lp sp;refine zgg (n:=T.length) hp (by simp at hn;omega) (by rw[lp,Ji]) λc d hc hd=>?_
 exact H c d _ _ ⟨_,Xa lp,rfl⟩ ⟨_,Xs lp,rfl⟩ rfl (pG hT.1 hS.1 (by simp at hn;omega) hc (Xa lp) s1) (pG hT.1 hS.1 (by simp at hn;omega) hd (Xs lp) s2)
def Mp{u v:Re}(hT:RT (r :: T))(hu:KT T u)(hv:KT T v)(hz:Sz (u+(tv T r).sqrt*v) s):(u+(tv T r).sqrt*v)*(u-(tv T r).sqrt*v)=u*u-tv T r*(v*v)/\Sz (u*u-tv T r*(v*v)) (s+s):=by
 have hs:=Re.bJ (.inr hT.2.2.1);have hN:(u+(tv T r).sqrt*v)*(u-(tv T r).sqrt*v)=u*u-tv T r*(v*v):=by
  conv=>rhs;rw[<-hs]
  have hc:=0;generalize (tv T r).sqrt=q;clear hc hs hz hu hv;obtain⟨q,rfl⟩:=q.rep;obtain⟨u,rfl⟩:=u.rep;obtain⟨v,rfl⟩:=v.rep;simp only[Re.sub_def,Re.aO,Re.aQ,Re.aT];exact Re.id λn=>by simp only[CS.aV,CS.bf,CS.bB];grind
 exact⟨hN,by rw[<-hN];exact hz.mul (hz.WZ hT hu hv)⟩
def zrz(ht:TW h B S t (r :: T))(ha:EV h S (r :: T) x s a)(aD:2*s+(300*S+50)<=300000000000)
 (H:∀u v z h',KT T u->KT T v->x=u+(tv T r).sqrt*v->bQ h h' S T (u*u-tv T r*(v*v)) (s+s) z->K z h'):za (F.QJ t a) K h:=by
 refine zb (λz h'=>∃u v,KT T u/\KT T v/\x=u+(tv T r).sqrt*v/\bQ h h' S T (u*u-tv T r*(v*v)) (s+s) z) (λK' hk=>?_) λz h' _ ⟨u,v,h1,h2,h3,h4⟩=>H u v z h' h1 h2 h3 h4
 unfold F.QJ;have hn:=ht.high;have jk:T.length<=3:=by simpa using hn
 have jf:CL S=16*S+1:=rfl;have XJ:=Z87 (S:=S) (n:=T.length) zO;refine zk2 ht.mem zO λt' r' jo vd=>?_
 have tw:TW h B S t' T:=⟨jo,ht.red.1,ht.small.1,zO,ht.bound⟩;have er:=ht.D0 vd;have dO:=ha.sz;refine ha.xv ht.red ht.small hn λc d u v ku kv hx ec ed=>?_
 have hN:=Mp ht.red ku kv (hx▸dO);refine Mo tw ec ec zO λz3 h3 e3=>?_
 have l3:=e3.hle;refine Mo (tw.le l3) (ed.le l3) (ed.le l3) zO λz4 h4 e4=>?_
 have l4:=Ja l3 e4.hle;refine Mo (tw.le l4) e4.ev (er.le l4) zO λz5 h5 e5=>?_
 have l5:=Ja l4 e5.hle;refine zwj (tw.le l5) e5.ev zO λz6 h6 e6=>?_
 have l6:=Ja l5 e6.hle;obtain⟨P3,o3,n3,v3,_⟩:=e3;obtain⟨P6,o6,n6,v6,_⟩:=e6;have eO:=ja (n:=T.length) zO;have ev:tv T (ef P3 P6)=u*u-tv T r*(v*v):=by
  rw[sU n3 n6,v3,v6,Re.sub_def,Re.mul_comm (v*v)]
 have gu:CO S=64*S+5:=rfl;refine XH (o3.pl.le (Ja (Ja e4.hle e5.hle) o6.hle)) o6.pl (by rw[n3,n6]) (by rw[n3];omega) zO zO (C:=s+s+CO S) (xm tw.red tw.small tw.high (Ye n3 n6) (by rw[ev];exact hN.2)) λz7 h7 o7=>hk _ _ (Ja l6 o7.hle) ⟨u,v,ku,kv,hx,_,o7.ky l6,Ye n3 n6,ev,hN.2⟩
def ztv{u v i:Re}(hT:RT (r :: T))(h0:u+(tv T r).sqrt*v≠0)(hN:(u+(tv T r).sqrt*v)*(u-(tv T r).sqrt*v)=u*u-tv T r*(v*v))(rJ:u*u-tv T r*(v*v)≠0)
 (hi:i=(u*u-tv T r*(v*v)).inv):u*i+(tv T r).sqrt*-(v*i)=(u+(tv T r).sqrt*v).inv:=by
 refine Re.cancel h0 ?_;rw[Re.bI h0,hi];have h1:=Re.bI rJ;revert h1;generalize (u*u-tv T r*(v*v)).inv=j;intro h1;rw[<-h1,<-hN];generalize (tv T r).sqrt=q;clear h1 hi rJ hN h0;obtain⟨q,rfl⟩:=q.rep;obtain⟨u,rfl⟩:=u.rep;obtain⟨v,rfl⟩:=v.rep;obtain⟨j,rfl⟩:=j.rep;simp only[Re.sub_def,Re.aO,Re.aQ,Re.aT];exact Re.id λn=>by simp only[CS.aV,CS.bf,CS.bB];grind
def Z9h{u v:Re}(hT:RT (r :: T))(hu:KT T u)(hv:KT T v)(h0:u+(tv T r).sqrt*v≠0):u*u-tv T r*(v*v)≠0:=by
 have hs:=Re.bJ (.inr hT.2.2.1);have hN:(u+(tv T r).sqrt*v)*(u-(tv T r).sqrt*v)=u*u-tv T r*(v*v):=by
  conv=>rhs;rw[<-hs]
  generalize (tv T r).sqrt=q;clear hs h0 hu hv;obtain⟨q,rfl⟩:=q.rep;obtain⟨u,rfl⟩:=u.rep;obtain⟨v,rfl⟩:=v.rep;simp only[Re.sub_def,Re.aO,Re.aQ,Re.aT];exact Re.id λn=>by simp only[CS.aV,CS.bf,CS.bB];grind
 rw[<-hN];intro hh;rcases Re.mul_eq_zero hh with h1 | h1
 exact h0 h1
 . rw[Re.sub_def,<-Re.mul_neg]at h1;obtain⟨h2,h3⟩:=KT.pF hT hu hv.neg h1;rw[h2,Re.neg_eq_zero h3,Re.mul_zero,Re.add_zero]at h0;exact h0 rfl
end
def Zjb:∀(fuel:Nat) {T:zV} {h:Hp} {B S s:Nat} {t a:Sl} {x:Re} {K':Sl×Bool->Hp->Prop},T.length<fuel->TW h B S t T->EV h S T x s a->x≠0->s*2 ^ (T.length+1)+(300*S+50)<=300000000000 ->
 (∀z h',h.le h'->bQ h h' S T x.inv (s*(2 ^ (T.length+1)-1)) z->K' (z,true) h')->F.Xx fuel t a K' h
 | 0,_,_,_,_,_,_,_,_,_,h0,_,_,_,_,_=>absurd h0 (Te _)
 | fuel+1,T,h,B,S,s,t,a,x,K',hf,ht,ha,iX,aD,hk=>by
   have key:∀{T:zV} {h:Hp} {B S s:Nat} {t a:Sl} {x:Re} {K:Sl×Bool->Hp->Prop},T.length<fuel->TW h B S t T->EV h S T x s a->x≠0->s*2 ^ (T.length+1)+(300*S+50)<=300000000000 ->
    (∀z h',bQ h h' S T x.inv (s*(2 ^ (T.length+1)-1)) z->K (z,true) h')->za (F.Xx fuel t a) K h:=λ{T h B S s t a x K} g1 g2 g3 g4 g5 g6=>
    zb (λz h'=>z.2=true/\bQ h h' S T x.inv (s*(2 ^ (T.length+1)-1)) z.1) (λK' hk=>Zjb fuel g1 g2 g3 g4 g5 λz h' hl e=>hk _ _ hl ⟨rfl,e⟩) λz h' _ hz=>by
     obtain⟨z1,z2⟩:=z;obtain⟨e,h2⟩:=hz;simp only at e;subst e;exact g6 z1 h' h2
   unfold F.Xx;rw[ht.len];refine Zs (λh0=>?_) (λh0=>?_)
   . have jS:T=[]:=Ju.1 zO;subst jS;have dO:=ha.sz;have hinv:=Sz.inv ht.red ha.kt iX dO;obtain⟨p,hp,lp,rfl,sp⟩:=ha;obtain⟨c,rfl⟩:∃c,p=[c]:=U0.1 lp;have mD:c≠0:=λhh=>iX (by rw[hh];rfl)
     have gu:CO S=64*S+5:=rfl;have e0:s*2 ^ (([]:zV).length+1)=s*2:=rfl;rw[e0]at aD;refine hp.get 0 rfl zS λv hv bv=>?_
     simp only[Ud]at hv bv;refine Zr zD zD λw h1 aP hw=>?_
     have b1:BR 2 ((1:Int):Rat):=by refine⟨?_,?_⟩<;>unfold Lt<;>decide
     refine zhv hw (hv.le aP) b1 bv zD zO (λhh=>mD (Td.1 hh)) λz h2 bH hz=>?_
     have ez:((1:Int):Rat)/c=c⁻¹:=by
      have:((1:Int):Rat)=1:=rfl;rw[this];grind
     rw[ez]at hz;have ev:Re.of c⁻¹=(Re.of c).inv:=(Re.mV mD).symm;refine Qv (n:=1) (size:=4) (cells:=qc z) rfl λbb h3 _ ho=>hk _ _ (Ja aP (Ja bH ho.1)) ⟨[c⁻¹],⟨h2,Ja aP bH,[z],?_,⟨rfl,λk k1 k2=>?_⟩⟩,rfl,ev,hinv⟩
     simpa using ho
     . have:k=0:=by simp at k1;omega
       subst this;refine⟨hz,Sz.br (q:=c⁻¹) (s:=s*(2 ^ (([]:zV).length+1)-1)) (by rw[ev];exact hinv) zO⟩
   . cases T with
     | nil=>exact absurd rfl h0
     | cons r T=>
     have hn:=ht.high;have jk:T.length<=3:=by simpa using hn
     have jf:CL S=16*S+1:=rfl;have gu:CO S=64*S+5:=rfl;have XJ:=Z87 (S:=S) (n:=T.length) zO;have e2:s*2 ^ ((r :: T).length+1)=2*s*2 ^ (T.length+1):=by rw[Ji,Uc 2 (T.length+1)];ac_rfl
     rw[e2]at aD;have uQ:=J7 (T.length+1);have h2s:2*s<=2*s*2 ^ (T.length+1):=P7 _ uQ;refine zk2 ht.mem zO λt' r' jo vd=>?_
     have tw:TW h B S t' T:=⟨jo,ht.red.1,ht.small.1,zO,ht.bound⟩;have dO:=ha.sz;have lW:=ha.kt;have hinv:=Sz.inv ht.red lW iX dO;refine zrz ht ha zO λu v z7 h7 ku kv hx e7=>?_
     have hN:=Mp ht.red ku kv (hx▸dO);have rJ:=Z9h ht.red ku kv (hx▸iX);have l7:=e7.hle;have e3:(s+s)*2 ^ (T.length+1)=2*s*2 ^ (T.length+1):=by rw[Nat.two_mul]
     refine key (by simp at hf;omega) (tw.le l7) e7.ev rJ (by rw[e3];exact aD) λz8 h8 e8=>zc rfl ?_
     have l8:=Ja l7 e8.hle;have e4:(s+s)*(2 ^ (T.length+1)-1)+(s+s)=2*s*2 ^ (T.length+1):=by
      rw[<-Nat.mul_succ,<-e3];congr 1;omega
     refine(ha.le l8).xv ht.red ht.small hn λc d u' v' HW HX oi ec ed=>?_
     obtain⟨q1,q2⟩:=KT.parts ht.red ku kv HW HX (hx.symm.trans oi);subst q1 q2;refine Mo (tw.le l8) ec e8.ev zO λqK aZ lg=>?_
     have mX:=Ja l8 lg.hle;obtain⟨P10,o10,qL,v10,_⟩:=lg;obtain⟨D,hD,xp⟩:=o10;have lD:=Ja l8 hD;refine xp.call (K1:=λz D'=>bQ D D' S T _ _ z) (Mo (tw.le lD) (ed.le hD) (e8.ev.le hD) zO λz h' e=>e) λxr XK bV g1 xt sV=>?_
     refine xt.call (K1:=λz D'=>bQ XK D' S T _ _ z) (zwj (tw.le (Ja lD g1)) sV.ev zO λz h' e=>e) λXN D12 cu g2 xu D9=>?_
     obtain⟨P12,XO,tR,v12,_⟩:=D9;have fl:(P10++P12).length=2 ^ (r :: T).length:=Mh qL tR;have fv:tv (r :: T) (P10++P12)=x.inv:=by
      rw[vj qL,v10,v12,hx];exact ztv ht.red (hx▸iX) hN.1 rJ rfl
     have fb:=xm ht.red ht.small hn fl (by rw[fv];exact hinv);have eO:=ja (n:=T.length) zO;have fo:=xu.re (λv hv=>fb v (Jv _ hv));have fp:=(XO.re (λv hv=>fb v (Ue _ hv))).pl;refine fo.rS fp rfl (by rw[qL,tR];omega) λqM eG ux=>hk _ _ (Ja lD (Ja (Ja g1 g2) ux.dT)) ⟨_,⟨D12,Ja lD (Ja g1 g2),ux⟩,fl,fv,hinv⟩
section
variable {h h':Hp}{B S n s:Nat}{a t:Sl}{p:List Rat}{T:zV}{x z:Re}{KE:zY (Sl × Int)}
def zmu{N:Nat}(ht:TW h B S t T)(hN:T.length<=N)(ha:EV h S T x s a)(iX:x≠0)(aD:s*2 ^ (N+1)+(300*S+50)<=300000000000)
 (H:∀z h',bQ h h' S T x.inv (s*(2 ^ (N+1)-1)) z->KE (z,0) h'):za (F.KX t a) KE h:=by
 refine zb (λz h'=>z.2=0/\bQ h h' S T x.inv (s*(2 ^ (N+1)-1)) z.1) (λK' hk=>?_) λz h' _ hz=>by
  obtain⟨z1,z2⟩:=z;obtain⟨e,h2⟩:=hz;simp only at e;subst e;exact H z1 h' h2
 unfold F.KX;have fA:=ht.bound;have hn:=ht.high;have gu:CO S=64*S+5:=rfl;have hp:2 ^ (T.length+1)<=2 ^ (N+1):=Jz zD zO;have pU:s*2 ^ (T.length+1)<=s*2 ^ (N+1):=Jr _ hp;have hp3:s<=s*2 ^ (N+1):=P7 _ (J7 _);have j':=ha;obtain⟨p,hp',lp,rfl,sp⟩:=ha;refine Vv ht.mem ht.red zO zO hp' lp zO λh1 aP=>zc rfl ?_
 refine zb (λz h'=>z.2=true/\bQ h1 h' S T (tv T p).inv (s*(2 ^ (N+1)-1)) z.1) (λK2 aG=>?_) λz h2 bH hz=>?_
 . unfold F.zck;refine⟨T.length+1,Zjb _ (G5 _) (ht.le aP) (j'.le aP) iX zO λz h2 bH e=>aG _ _ bH ⟨rfl,?_⟩⟩;obtain⟨P,o,n,v,sz⟩:=e;have hle:s*(2 ^ (T.length+1)-1)<=s*(2 ^ (N+1)-1):=Jr _ zO;exact⟨P,o.up zO,n,v,sz.mono hle⟩
 . obtain⟨z1,z2⟩:=z;obtain⟨e,h3⟩:=hz;simp only at e;subst e;exact zc rfl (hk _ _ (Ja aP bH) ⟨rfl,h3.base aP⟩)
end
end Den
end

section
namespace Den
open Go Iv Pq
@[irreducible] def QS (S s:Nat):Nat:=s+64*S+64
def Yu(S s:Nat):QS S s=s+64*S+64:=by unfold QS;rfl
section
variable {h0 h h':Hp}{A B C S n s u:Nat}{a b l m t:Sl}{p q r:List Rat}{T:zV}{x y z:Re}{K:zY Sl}{Kb:zY Bool}{Ki:zY Int}{KE:zY (Sl × Int)}
def TW.kz{K:Sl->Prop}(ht:TW h B S t (r :: T))(H:TW h B S (t.cut 0 T.length 1) T->K (t.cut 0 T.length 1)):ca t 0 (i64.wrap ((t.len:Int)-1)) 1 K:=by
 have hl:t.len=T.length+1:=ht.len;have hn:T.length<=3:=by simpa using ht.high
 have hc:=ht.mem.2;rw[hl,Znl zO zO];exact Xg 0 T.length rfl zO (Jt _) zO (H ht.tail)
def TW.mm{K:Sl->Prop}(ht:TW h B S t (r :: T))(H:∀s,EV h S T (tv T r) S s->K s):zi t (i64.wrap ((t.len:Int)-1)) 1 λa=>aB .sl a (λx=>K x) h:=by
 have hl:t.len=T.length+1:=ht.len;have hn:T.length<=3:=by simpa using ht.high
 rw[hl,Znl zO zO];refine ht.mem.get T.length zO zS λs hs=>H s (ht.D0 (A:=B) ?_)
 have e:(r :: T).reverse[T.length]'zS=r:=zS
 rwa [e]at hs
def EV.Ea{K:Sl->Sl->Prop}(hT:RT (r :: T))(hS:TS S (r :: T))(hn:(r :: T).length<=4)(ha:EV h S (r :: T) x s a)
 (H:∀c d u v,KT T u->KT T v->x=u+(tv T r).sqrt*v->EV h S T u (s+CL S) c->EV h S T v (s+CL S) d->K c d) :
 ca a 0 (i64.wrap (((a.len:Int):Int).tdiv 2)) 4 λc=>ca a (i64.wrap (((a.len:Int):Int).tdiv 2)) (a.len:Int) 4 λd=>K c d:=by
 obtain⟨p,hp,lp,rfl,sp⟩:=ha;obtain⟨s1,s2⟩:=HT hT hS hn lp sp;have hl:=hp.len;have hc:=hp.cap;have jk:T.length<=3:=by simpa using hn
 have pU:=Xn (n:=T.length) zO;have xy:p.length=2 ^ (T.length+1):=by rw[lp,Ji]
 have hp3:p.length=2 ^ T.length+2 ^ T.length:=by rw[xy,Zm]
 have h9:∀N:Nat,N<=65536->i64.wrap (N:Int)=N:=λN hN=>aM zO
 rw[XI zO xy hl,h9 _ pU];refine Xg 0 (2 ^ T.length) rfl rfl (Jt _) zO (Xg (2 ^ T.length) a.len rfl rfl zO hc (H _ _ _ _ ⟨_,Xa lp,rfl⟩ ⟨_,Xs lp,rfl⟩ rfl ?_ ?_))
 . have:=hp.part (Jt (2 ^ T.length)) zO;exact pG hT.1 hS.1 zO (by simpa using this) (Xa lp) s1
 . have:=hp.part (lo:=2 ^ T.length) (hi:=a.len) zO zO;rw[Je (by simp;omega)]at this;exact pG hT.1 hS.1 zO this (Xs lp) s2
end
def Z29:∀(fuel:Nat) {T:zV} {h:Hp} {B S s:Nat} {t a:Sl} {x:Re} {K':Int->Hp->Prop},T.length<fuel->TW h B S t T->EV h S T x s a->QS S s*2 ^ (T.length+1)+(300*S+50)<=300000000000 ->
 (∀h',h.le h'->K' (cm x) h')->F.W4 fuel t a K' h
 | 0,_,_,_,_,_,_,_,_,_,h0,_,_,_,_=>absurd h0 (Te _)
 | fuel+1,T,h,B,S,s,t,a,x,K',hf,ht,ha,aD,hk=>by
   have key:∀{T:zV} {h:Hp} {B S s:Nat} {t a:Sl} {x:Re} {K:Int->Hp->Prop},T.length<fuel->TW h B S t T->EV h S T x s a->QS S s*2 ^ (T.length+1)+(300*S+50)<=300000000000 ->
    (∀h',h.le h'->K (cm x) h')->za (F.W4 fuel t a) K h:=λ{T h B S s t a x K} g1 g2 g3 g4 g5=>
    zb (λz h'=>z=cm x) (λK' hk=>Z29 fuel g1 g2 g3 g4 λh' hl=>hk _ _ hl rfl) λz h' hl e=>by rw[e];exact g5 h' hl
   unfold F.W4;rw[ht.len];refine Zs (λh0=>?_) (λh0=>?_)
   . have jS:T=[]:=Ju.1 zO;subst jS;obtain⟨p,hp,lp,rfl,sp⟩:=ha;obtain⟨c,rfl⟩:∃c,p=[c]:=U0.1 lp;have gu:CO S=64*S+5:=rfl;have hq:=Yu S s;have e0:QS S s*2 ^ (([]:zV).length+1)=QS S s*2:=rfl;rw[e0]at aD;refine hp.get 0 rfl zS λv hv bv=>?_
     simp only[Ud]at hv bv;refine zU hv bv zO ?_;have:=hk h (Jf _)
     rwa [show tv [] [c]=Re.of c from rfl,Zkt]at this
   . cases T with
     | nil=>exact absurd rfl h0
     | cons r T=>
     have hn:=ht.high;have jk:T.length<=3:=by simpa using hn
     have jf:CL S=16*S+1:=rfl;have hq:=Yu S s;have qF:=Yu S (s+CL S);have pd:=Yu S (s+s);have e2:QS S s*2 ^ ((r :: T).length+1)=2*QS S s*2 ^ (T.length+1):=by
      rw[Ji,Uc 2 (T.length+1)];ac_rfl
     rw[e2]at aD;have uQ:2<=2 ^ (T.length+1):=(Jz zD (show 1<=T.length+1 by omega):2 ^ 1<=2 ^ (T.length+1));have h4:2*QS S s*2<=2*QS S s*2 ^ (T.length+1):=Jr _ uQ;have h5:QS S (s+CL S)*2 ^ (T.length+1)<=2*QS S s*2 ^ (T.length+1):=Jm _ zO;have h6:QS S (s+s)*2 ^ (T.length+1)<=2*QS S s*2 ^ (T.length+1):=Jm _ zO;refine⟨zD,?_⟩;have hts:t.len=T.length+1:=ht.len;have et:(((r :: T).length:Nat):Int)=(t.len:Int):=by rw[hts];rfl
     rw[et];refine ht.kz λtw=>?_
     refine ha.Ea ht.red ht.small hn λc d u v ku kv hx ec ed=>?_
     have dk:T.length<fuel:=by simp at hf;omega
     have hs:=Re.iH ht.red.2.2.1;have kJ:=Re.bJ (.inr ht.red.2.2.1);refine key dk tw ec zO λh7 l7=>?_
     refine key dk (tw.le l7) (ed.le l7) zO λh8 l8'=>?_
     have l8:=Ja l7 l8';refine zj (λ_ h9=>h9=h8/\cm v≠0/\cm u≠cm v/\cm u≠0) (λ_ h9 hj=>?_) ?_
     . obtain⟨e9,j1,j2,j3⟩:=hj;subst e9;refine(ht.le l8).mm λr' er=>?_
       refine Af (tw.le l8) (ec.le l8) (ec.le l8) zO λxz cO mY=>?_
       have eY:=Ja l8 mY.hle;refine Af (tw.le eY) (ed.le eY) (ed.le eY) zO λqM eG Ag=>?_
       have gG:=Ja eY Ag.hle;refine Af (tw.le gG) (er.le (Ja mY.hle Ag.hle)) Ag.ev zO λB3 gh mZ=>?_
       have fE:=Ja gG mZ.hle;have hN:=Mp ht.red ku kv (hx▸ha.sz);refine XQ (tw.le fE) (mY.ev.le (Ja Ag.hle mZ.hle)) mZ.ev zO hN.2 λuy gi gz=>?_
       have eO:=Ja fE gz.hle;refine key dk (tw.le eO) gz.ev zO λdF B4=>?_
       have hr:=zlo hs kJ j1 j2 j3;have b1:=XD u;have b2:=XD (u*u-tv T r*(v*v));have b3:=XD x;rw[<-hx]at hr;rw[<-hr,aM zO];exact hk _ (Ja eO B4)
     . refine Zs (λaZ=>?_) (λaZ=>?_)
       . have:=hk h8 l8
         rwa [hx,zj4 aZ]at this
       . refine Zs (λbV=>?_) (λbV=>?_)
         . have:=hk h8 l8
           rwa [hx,zj3 hs bV]at this
         . refine Zs (λcu=>?_) (λcu=>?_)
           . have:=hk h8 l8
             rwa [hx,zj2 hs cu]at this
           exact⟨rfl,aZ,bV,cu⟩
section
variable {h h':Hp}{B S n s:Nat}{a t:Sl}{p r:List Rat}{T:zV}{x z:Re}{Kb:zY Bool}{Ki:zY Int}
def zfo(ht:TW h B S t T)(ha:EV h S T x s a)(aD:QS S s*32+(300*S+50)<=300000000000)(H:∀h',h.le h'->Ki (cm x) h'):za (F.GC t a) Ki h:=by
 refine zb (λz h'=>z=cm x) (λK' hk=>?_) λz h' hl e=>by rw[e];exact H h' hl
 unfold F.GC;have hn:=ht.high;have hp:2 ^ (T.length+1)<=2 ^ 5:=Jz zD zO;have:=Jr (QS S s) hp;have e:(2:Nat) ^ 5=32:=rfl;rw[e]at this;exact⟨T.length+1,Z29 _ (G5 _) ht ha zO λh' hl=>hk _ _ hl rfl⟩
def zt6(ht:TW h B S t T)(aD:15000*S+20000<=300000000000)(H:∀h',h.le h'->Kb true h'):za (F.zid t) Kb h:=by
 refine zb (λz h'=>z=true) (λK' hk=>?_) λz h' hl e=>by rw[e];exact H h' hl
 unfold F.zid;have hn:=ht.high;have fA:=ht.bound;have hq:=Yu S S;refine Zr zD zD λw h1 l1 hw=>?_
 refine B1 (s:=1) (ht.le l1) hw Vk zO λz h2 e2=>?_
 have l2:=Ja l1 e2.hle;obtain⟨P,oP,nP,_,_⟩:=e2;refine Vv (ht.le l2).mem ht.red zO zO oP.pl nP (by unfold CO;omega) λh3 l3'=>zc rfl ?_
 have l3:=Ja l2 l3';rw[ht.len];refine Y8 (n:=T.length) zO (λi h'=>h.le h') l3 ?_;rintro i h4 hi hle k ck;refine zg (λh5=>?_) (λh5=>?_)
 . have aA:i<T.length:=by simp only at h5;omega
   obtain⟨X,r,Y,hT,hY,hr⟩:=DZ (T:=T) (i:=i) (by simpa using aA);have rT:=ht.le hle;refine rT.mem.get i rfl aA λs hs=>?_
   rw[hr]at hs;subst hT;have hc:=ht.mem.2;have hl:=ht.len;have tr:TW h4 B S (t.cut 0 (r :: Y).length 1) (r :: Y):=rT.below;have tw:TW h4 B S (t.cut 0 Y.length 1) Y:=TW.below (X:=X++[r]) (by rw[J8];exact rT);refine Xg 0 Y.length rfl zO (Jt _) (by simp at hl;omega) ?_;refine zfo tw (tr.D0 hs) zO λh6 l6=>?_
   rw[Ws tr.red.2.2.1];exact zc rfl (ck _ aA (Ja hle l6))
 exact hk _ _ hle rfl
def zfh(ht:TW h B S t T)(ha:EV h S T x s a)(aD:QS S s*32+15000*S+20000<=300000000000)(H:∀h',h.le h'->Ki (cm x) h'):za (F.Dq t a) Ki h:=by
 refine zb (λz h'=>z=cm x) (λK' hk=>?_) λz h' hl e=>by rw[e];exact H h' hl
 unfold F.Dq;have fA:=ht.bound;have hn:=ht.high;have hq:=Yu S s;refine Qv (n:=1) (size:=1) (cells:=[.slice a.a a.len a.cap]) rfl λbb h1 _ ho=>?_
 have l1:=ho.1;have rE:=ha.le l1;refine zb (λv h'=>v=true) (λK2 aG=>?_) λv h2 l2 e=>by
  subst e;exact zc rfl (zfo (ht.le (Ja l1 l2)) (ha.le (Ja l1 l2)) zO λh3 l3=>hk _ _ (Ja l1 (Ja l2 l3)) rfl)
 unfold F.Dp;refine Y8 (n:=1) zO (λi h'=>h1.le h') (Jf _) ?_;rintro i h2 hi hle k ck;refine zg (λh5=>?_) (λh5=>?_)
 . have aA:i=0:=by have:(i:Int)<((1:Nat):Int):=h5;omega
   subst aA;refine rn 0 (ho.rd.le hle) rfl (v:=.slice a.a a.len a.cap) rfl λad hc=>⟨⟨a.a,a.len,a.cap⟩,hc,?_⟩
   obtain⟨p,hp,lp,_,_⟩:=ha.le (Ja l1 hle);refine Vv (ht.le (Ja l1 hle)).mem ht.red zO zO hp lp (by unfold CO;omega) λh3 l3=>zc rfl (ck _ zO (Ja hle l3))
 exact zt6 (ht.le (Ja l1 hle)) zO λh3 l3=>aG _ _ (Ja hle l3) rfl
end
end Den
end

section
namespace Den
open Go Iv Pq
def zhm{p q:Rat}:qG p q=0↔p=q:=by
 constructor
 . intro h;refine Rat.le_antisymm (Z8l.1 zO) (Rat.not_lt.1 λhh=>?_);have:=zoi.2 hh;omega
 . rintro rfl;have h1:¬qG p p<0:=λhh=>absurd (zoi.1 hh) Rat.lt_irrefl
   have h2:=Z8l.2 (Rat.le_refl (a:=p));omega
section
variable {h h':Hp}{A B S n u:Nat}{a b l t w:Sl}{p q r:List Rat}{T U:zV}{ps qs:zV}{y z:Re}{K:zY Sl}{Kb:zY Bool}
def zrj(ha:PL h A a p)(hb:PL h B b q)(hA:A<=1000000000000)(hB:B<=1000000000000)(hp:p.length<=65536)(hq:q.length<=65536)(H:∀h',h.le h'->Kb (decide (p=q)) h'):za (F.Qa a b) Kb h:=by
 refine zb (λv h'=>v=decide (p=q)) (λK' hk=>?_) λv h' hl e=>by rw[e];exact H h' hl
 unfold F.Qa;refine zb (λv h'=>v=decide (p=q)) (λK2 aG=>?_) λv h' hl e=>by rw[e];exact hk _ _ hl rfl
 unfold F.Zj;rw[ha.len,hb.len];refine oB (λcd=>?_) (λheq=>?_);refine aG _ _ (Jf _) (decide_eq_false λhh=>cd (by rw[hh])).symm
 . have hlen:p.length=q.length:=zO;refine Y8 (n:=p.length) zO (λi h'=>h.le h'/\p.take i=q.take i) ⟨Jf _,rfl⟩ ?_;rintro i h2 hi ⟨hle,he⟩ k ck;refine zg (λh3=>?_) (λh3=>?_)
   . have aA:i<p.length:=by simp only at h3;omega
     refine ha.cT i hle rfl aA λu hu bu=>?_
     refine hb.cT i hle rfl zO λv hv bv=>?_
     refine zb (λc h'=>c=decide (p[i]=q[i]'zO)) (λK3 cw=>?_) λc h' hl e=>?_
     . unfold F.z3m;refine VT (hu.le hle) (hv.le hle) bu bv hA hB λh3 l3=>cw _ _ l3 ?_
       by_cases fC:p[i]=q[i]'zO;rw[decide_eq_true fC];simp[zhm.2 fC]
       . rw[decide_eq_false fC];have:qG p[i] (q[i]'zO)≠0:=λhh=>fC (zhm.1 hh)
         simp[this]
     . subst e;by_cases fC:p[i]=q[i]'zO
       . rw[decide_eq_true fC];refine zc rfl (ck _ aA ⟨Ja hle hl,?_⟩);rw[Jc aA,Jc zO,he,fC]
       . rw[decide_eq_false fC];refine zk rfl (aG _ _ (Ja hle hl) (decide_eq_false λhh=>fC ?_).symm);simp only[hh]
   . have:i=p.length:=by simp only at h3;omega
     subst this;rw[J5,hlen,J5]at he;exact aG _ _ hle (decide_eq_true he).symm
def Z0z(ha:lh h A a ps)(hb:lh h B b qs)(hA:A<=1000000000000)(hB:B<=1000000000000)(hlen:ps.length<=16)(hp:∀p∈ps,p.length<=65536)(hq:∀p∈qs,p.length<=65536)(H:∀h',h.le h'->Kb (decide (ps=qs)) h') :
 za (F.Zf a b) Kb h:=by
 refine zb (λv h'=>v=decide (ps=qs)) (λK2 aG=>?_) λv h' hl e=>by rw[e];exact H h' hl
 unfold F.Zf;rw[ha.len,hb.len];refine oB (λcd=>?_) (λheq=>?_);refine aG _ _ (Jf _) (decide_eq_false λhh=>cd (by rw[hh])).symm
 . have bH:ps.length=qs.length:=zO;refine Y8 (n:=ps.length) zO (λi h'=>h.le h'/\ps.take i=qs.take i) ⟨Jf _,rfl⟩ ?_;rintro i h2 hi ⟨hle,he⟩ k ck;refine zg (λh3=>?_) (λh3=>?_)
   . have aA:i<ps.length:=by simp only at h3;omega
     refine(ha.le hle).get i rfl aA λu hu=>?_
     refine(hb.le hle).get i rfl zO λv hv=>?_
     refine zrj hu hv hA hB (hp _ (Jy _)) (hq _ (Jy _)) λh4 l4=>?_
     by_cases fC:ps[i]=qs[i]'zO
     . rw[decide_eq_true fC];refine zc rfl (ck _ aA ⟨Ja hle l4,?_⟩);rw[Jc aA,Jc zO,he,fC]
     . rw[decide_eq_false fC];refine zk rfl (aG _ _ (Ja hle l4) (decide_eq_false λhh=>fC ?_).symm);simp only[hh]
   . have:i=ps.length:=by simp only at h3;omega
     subst this;rw[J5,bH,J5]at he;exact aG _ _ hle (decide_eq_true he).symm
def RT.short:∀{T:zV},RT T->T.length<=4->∀p∈T.reverse,p.length<=65536
 | [],_,_,p,hp=>by simp at hp
 | r :: T,hT,hn,p,hp=>by
   rw[Gj,Ul,Uz]at hp;rcases hp with hp | rfl
   exact RT.short hT.1 (by simp at hn;omega) p hp;rw[hT.2.1];exact Xn (by simp at hn;omega)
def Eb(ht:TW h B S t T)(hw:TW h B S w U)(H1:∀X h',h.le h'->T=X++U->Kb true h')(H0:∀h',h.le h'->(¬∃X,T=X++U)->Kb false h'):za (F.Ww t w) Kb h:=by
 refine zb (λv h'=>(v=true/\∃X,T=X++U)\/(v=false/\¬∃X,T=X++U)) (λK' hk=>?_) λv h' hl e=>by
  rcases e with ⟨e,X,h1⟩ | ⟨e,h1⟩
  rw[e];exact H1 X h' hl h1;rw[e];exact H0 h' hl h1
 unfold F.Ww;have l1:=ht.len;have l2:=hw.len;have hc:=ht.mem.2;have hn:=ht.high;have fA:=ht.bound;rw[l1,l2];refine zg (λh3=>?_) (λh3=>?_)
 . have hle:U.length<=T.length:=zO;refine Xg 0 U.length rfl rfl (Jt _) zO ?_;have hq:=ht.mem.1.part hc (Jt U.length) (by simpa using hle);simp only[Tf,Nat.sub_zero]at hq;refine Z0z hq hw.mem.1 zO zO (by simp;omega) (λp hp=>ht.red.short ht.high p (List.mem_of_mem_take hp)) (hw.red.short hw.high) λh4 l4=>?_
   by_cases he:T.reverse.take U.length=U.reverse
   . rw[decide_eq_true he];refine hk _ _ l4 (.inl ⟨rfl,(T.reverse.drop U.length).reverse,?_⟩);have:=congrArg List.reverse (Ge U.length T.reverse);rw[List.reverse_append,he,List.reverse_reverse,List.reverse_reverse]at this;exact this.symm
   . rw[decide_eq_false he];refine hk _ _ l4 (.inr ⟨rfl,?_⟩);rintro⟨X,rfl⟩;exact he (by rw[List.reverse_append,List.take_left' zS])
 . refine hk _ _ (Jf _) (.inr ⟨rfl,?_⟩);rintro⟨X,rfl⟩;simp at h3;omega
def zqx(ht:t.len=n)(hn:n<=16)(ha:PL h B a p)(hB:1<=B)(hp:p.length<=2 ^ n)(H:∀y h',OL h h' B y (kL (2 ^ n) p)->K y h'):za (F.KJ t a) K h:=by
 refine zb (λy h'=>OL h h' B y (kL (2 ^ n) p)) (λK' hk=>?_) λy h' _ hy=>H y h' hy
 unfold F.KJ;have hr:=Xn hn;rw[ht,uu hn];refine WD ha zO λy h1 oy=>?_
 refine Za (λst h'=>∃k:Nat,OL h h' B st.1 (p++Zt k)/\p.length+k<=2 ^ n) (λst=>2 ^ n-st.1.len) ⟨0,by simpa [Zt] using oy,hp⟩ ?_;rintro⟨l,_⟩ h2 ⟨k,ho,aG⟩;have hl:l.len=p.length+k:=by
  have:=ho.len;rw[Jq,Yh]at this;exact this
 refine⟨zO,zg (λh3=>?_) (λh3=>?_)⟩
 . simp only at h3;obtain⟨D,hD,od⟩:=ho;refine od.call (K1:=λz D'=>NR D' z 0) (Zr zD zD λz h' _ hz=>hz) λz D' h4 g1 HY hz=>?_
   refine HY.app (by rw[Jq,Yh];omega) hz (Vk.mono hB) λy2 h5 o5=>⟨⟨k+1,⟨D',Ja hD g1,?_⟩,zO⟩,?_⟩
   . have e:p++Zt (k+1)=p++Zt k++[0]:=by simp only[Zt];rw[List.replicate_succ',J8]
     rw[e];exact o5
   . have:=o5.len;simp only[Jq,Yh,List.length_singleton]at this |-
     omega
 . simp only at h3;refine hk _ _ ho.hle ?_;have e:kL (2 ^ n) p=p++Zt k:=by unfold kL;congr 2;omega
   rw[e];exact ho
end
end Den
end

section
namespace Den
open Go Iv Pq
end Den
end

section
namespace Den
open Go Iv Pq
def HZ(p q:List Rat):Nat:=(trim p).length+1-(trim q).length
def rU(p q:List Rat):List Rat:=trim ((List.range ((trim q).length-1)).map λj=>iD (co q) ((trim q).length-1) (HZ p q) (co p) (HZ p q) j)
def Zkf{p q:List Rat}:(rU p q).length<=(trim q).length-1:=Jo cF zS
def Zov{p q:List Rat}:nf (rU p q):=dx
def Mq:Nat->List Rat->List Rat->List Rat
 | 0,a,_=>a
 | n+1,a,b=>if b=[]then a else Mq n b (ft (rU a b))
end Den
end

section
namespace Den
open Go Iv Pq
section
end
end Den
end

section
namespace Den
open Go Iv Pq
section
end
end Den
end

section
namespace Den
open Go Iv Pq
def QD(D h:Hp)(B:Nat)(l:Sl)(ps:zV):Prop:=∃ss:List Sl,Own D h 1 l (ss.map bO)/\ss.length=ps.length/\∀k (h1:k<ss.length) (h2:k<ps.length),PL D B ss[k] ps[k]
section
variable {D h:Hp}{B:Nat}{l:Sl}{p:List Rat}{ps:zV}{K:zY Sl}
def QD.qql(hq:QD D h B l ps):lh h B l ps:=by
 obtain⟨ss,h1,h2,h3⟩:=hq;exact⟨ss,h1.rd,h2,λk g1 g2=>(h3 k g1 g2).le h1.1⟩
def QD.dT(hq:QD D h B l ps):D.le h:=by
 obtain⟨ss,h1,h2,h3⟩:=hq;exact h1.1
def QD.call{α:Type}{G:(α->Hp->Prop)->Hp->Prop}{K1 K:α->Hp->Prop}(hq:QD D h B l ps)(H:za G K1 D)
 (k:∀v D' h',D.le D'->QD D' h' B l ps->K1 v D'->K v h'):za G K h:=by
 obtain⟨ss,h1,h2,h3⟩:=hq;exact h1.call H λv D' h' g1 g2 g3=>k v D' h' g1 ⟨ss,g2,h2,λj j1 j2=>(h3 j j1 j2).le g1⟩ g3
def QD.app{s:Sl}(hq:QD D h B l ps)(hx:PL D B s p)(hlen:ps.length<=1000)(H:∀y h',QD D h' B y (ps++[p])->K y h'):Qg 1 24 [zN] l 1 [.slice s.a s.len s.cap] K h:=by
 obtain⟨ss,h1,h2,h3⟩:=hq;have hl:=h1.2.1;simp at hl;refine pW h1 (n:=1) (new:=[bO s]) rfl rfl rfl zO zO λy h' hy _=>H y h' ⟨ss++[s],?_,by simp[h2],λk g1 g2=>?_⟩
 rw[List.map_append];exact hy
 . rcases Jx k ss.length with g | g
   rw[J2 g,J2 zO];exact h3 k g zO
   . have e1:k=ss.length:=by simp at g1;omega
     subst e1;have a1:(ss++[s])[ss.length]'g1=s:=zS;have a2:(ps++[p])[ss.length]'g2=p:=by simp[h2]
     rw[a1,a2];exact hx
end
end Den
end

section
namespace Den
open Go Iv Pq
section
variable {D h:Hp}{B:Nat}{l:Sl}{ps:zV}
def zp7{α:Type}{G:(α->Hp->Prop)->Hp->Prop}{K1 K:α->Hp->Prop}{D h:Hp}(hD:D.le h)(H:za G K1 D)
 (k:∀v D' h',D.le D'->D'.le h'->h.le h'->(∀j,D j=none->h j≠none->D' j=none/\h' j=h j)->K1 v D'->K v h'):za G K h:=
 WC hD H λv D' h' h1 h2 h3 h4=>k v D' h' h1 h2 (λj b hj=>by
  cases hd:D j with
  | none=>rw[(h3 j hd (by rw[hj];simp)).2];exact hj
  | some c=>
    have e1:=hD j c hd;rw[hj]at e1;cases e1;exact h2 j b (h1 j b hd)) h3 h4
def QD.call2{α:Type}{G:(α->Hp->Prop)->Hp->Prop}{K1 K:α->Hp->Prop}(hq:QD D h B l ps)(H:za G K1 D)
 (k:∀v D' h',D.le D'->h.le h'->QD D' h' B l ps->K1 v D'->K v h'):za G K h:=by
 obtain⟨ss,h1,h2,h3⟩:=hq;exact zp7 h1.1 H λv D' h' g1 g2 g3 g4 g5=>k v D' h' g1 g3 ⟨ss,h1.move g2 g4,h2,λj j1 j2=>(h3 j j1 j2).le g1⟩ g5
def QD.get{i:Int}{K:Sl->Prop}(k:Nat)(hq:QD D h B l ps)(hi:i=k)(hk:k<ps.length)(H:∀s,PL D B s ps[k]->K s):zi l i 1 λa=>aB .sl a (λx=>K x) h:=by
 obtain⟨ss,h1,h2,h3⟩:=hq;have bP:k<ss.length:=zO;exact rn k h1.rd hi (v:=bO ss[k]) (by rw[Gr,Jp bP];rfl) λa hc=>⟨ss[k],hc,H _ (h3 k bP hk)⟩
end
def zzl:∀(fuel:Nat) {U ss T Z:zV} {D h:Hp} {A B R S s:Nat} {t w a:Sl} {p:List Rat} {K':Sl->Hp->Prop},U.length<fuel->TW D B S t T->QD D h R w (ss.reverse++Z)->EM T U ss->RT U->TS S U->U.length<=4 ->
 PL D A a p->A<=300000000000->p.length=2 ^ U.length->Sz (tv U p) s->2*(s+U.length*CL S)+(300*S+50)<=300000000000->1<=R ->
 (∀z D' h',D.le D'->h.le h'->QD D' h' R w (ss.reverse++Z)->bQ D D' S T (tv U p) s z->K' z h')->F.Zv fuel (⟨t,w⟩:aR) a K' h
 | 0,_,_,_,_,_,_,_,_,_,_,_,_,_,_,_,_,h0,_,_,_,_,_,_,_,_,_,_,_,_,_=>absurd h0 (Te _)
 | fuel+1,U,ss,T,Z,D,h,A,B,R,S,s,t,w,a,p,K',hf,ht,hw,hE,hU,uz,uA,ha,hA,lp,sp,aD,hR,hk=>by
   have key:∀{U ss T Z:zV} {D h:Hp} {A B R S s:Nat} {t w a:Sl} {p:List Rat} {K:Sl->Hp->Prop},U.length<fuel->TW D B S t T->QD D h R w (ss.reverse++Z)->EM T U ss->RT U->TS S U->U.length<=4 ->
    PL D A a p->A<=300000000000->p.length=2 ^ U.length->Sz (tv U p) s->2*(s+U.length*CL S)+(300*S+50)<=300000000000->1<=R ->
    (∀z D' h',D.le D'->h.le h'->QD D' h' R w (ss.reverse++Z)->bQ D D' S T (tv U p) s z->K z h')->za (F.Zv fuel (⟨t,w⟩:aR) a) K h:=λ{U ss T Z D h A B R S s t w a p K} g1 g2 g3 g4 g5 g6 g7 g8 g9 XR g11 g12 g13 g14=>
    zb (λz h'=>∃D',D.le D'/\QD D' h' R w (ss.reverse++Z)/\bQ D D' S T (tv U p) s z) (λK' hk=>zzl fuel g1 g2 g3 g4 g5 g6 g7 g8 g9 XR g11 g12 g13 λz D' h' k1 k2 k3 k4=>hk _ _ k2 ⟨D',k1,k3,k4⟩) λz h' hl ⟨D',k1,k3,k4⟩=>g14 z D' h' k1 hl k3 k4
   unfold F.Zv;have hl:=ha.len;have jf:CL S=16*S+1:=rfl;have gu:CO S=64*S+5:=rfl;have eO:=ja uA;have fA:=ht.bound;rw[hl,lp];refine Zs (λh1=>?_) (λh1=>?_)
   . have hU0:U=[]:=by
      cases U with
      | nil=>rfl
      | cons r U=>
        rw[Ji,Zm]at h1;have:=J7 U.length;omega
     subst hU0;obtain⟨c,rfl⟩:∃c,p=[c]:=U0.1 lp;refine ha.cT 0 hw.dT rfl zS λv hv bv=>?_
     simp only[Ud]at hv bv;have bs:BR (s+1) c:=Sz.br (s:=s) sp (Jd _);refine hw.call2 (K1:=λz D'=>bQ D D' S T (Re.of c) (s+1) z) (B1 (s:=s+1) ht hv bs (by simp at aD;omega) λz h2 e2=>e2) λz D' h2 g1 l2 pd e2=>hk _ D' _ g1 l2 pd ?_
     obtain⟨P,oP,nP,vP,_⟩:=e2;have e:tv [] [c]=tv T P:=by rw[vP];rfl
     rw[e];exact Mn ht.red ht.small ht.high oP nP (by rw[<-e];exact sp)
   . cases U with
     | nil=>exact absurd rfl h1
     | cons r U=>
     have hn:U.length<=3:=by simpa using uA
     cases ss with
     | nil=>exact hE.elim
     | cons s0 ss=>
     have jr:=Xn (n:=U.length) zO;have xy:p.length=2 ^ (U.length+1):=by rw[lp,Ji]
     have lp3:p.length=2 ^ U.length+2 ^ U.length:=by rw[xy,Zm]
     have ie:=ha.cap;have h9:∀N:Nat,N<=65536->i64.wrap (N:Int)=N:=λN hN=>aM zO
     have bN:(((2 ^ (r :: U).length:Nat):Int)).tdiv 2=((2 ^ U.length:Nat):Int):=by
      have:=XI (n:=U.length) (p:=p) (a:=a) zO xy hl
      rwa [hl,lp]at this
     obtain⟨s1,s2⟩:=HT hU uz uA lp sp;have vS:(r :: U).length*CL S=U.length*CL S+CL S:=by rw[Ji,J9,La]
     rw[vS]at aD;refine⟨zD,Za (λst h'=>h'=h/\∃k:Nat,st.1=(k:Int)/\k<=U.length) (λst=>U.length-st.1.toNat) ⟨rfl,0,rfl,Jt _⟩ ?_⟩;rintro⟨_,_⟩ h2 ⟨hh,k,cy,aG⟩;simp only at cy;subst cy;obtain rfl:h=h2:=hh.symm;have ek:i64.wrap ((k:Int)+1)=((k+1:Nat):Int):=by rw[aM zO];rfl
     rw[ek,uu zO];refine⟨zO,zg (λh3=>?_) (λh3=>?_)⟩
     . have hlt:k<U.length:=by
        have h4:2 ^ (k+1)<2 ^ (U.length+1):=by
         have:(((2 ^ (k+1):Nat):Int))<((2 ^ (U.length+1):Nat):Int):=h3;exact Int.ofNat_lt.1 this
        have:=(Nat.pow_lt_pow_iff_right (by decide:1<2)).1 h4;omega
       exact⟨⟨rfl,k+1,rfl,hlt⟩,by simp only[Int.toNat_natCast];omega⟩
     . have hkU:k=U.length:=by
        have h4:¬2 ^ (k+1)<2 ^ (U.length+1):=λhh=>h3 (by
         show(((2 ^ (k+1):Nat):Int))<((2 ^ (U.length+1):Nat):Int);exact Int.ofNat_lt.2 hh)
        have h5:¬k+1<U.length+1:=λhh=>h4 (G8 zD hh)
        omega
       subst hkU;rw[bN,h9 _ jr];have pg:=ha.part (lo:=0) (hi:=2 ^ U.length) (Jt _) zO;simp only[Tf,Nat.sub_zero]at pg;have sL:=ha.part (lo:=2 ^ U.length) (hi:=p.length) zO (Jd _);rw[Je zS]at sL;have llo:=Xa (r:=r) (T:=U) lp;have lhi:=Xs (r:=r) (T:=U) lp;have xA:((2 ^ (r :: U).length:Nat):Int)=(p.length:Int):=by rw[lp]
       rw[xA];refine Xg 0 (2 ^ U.length) rfl rfl (Jt _) zO ?_;have dk:U.length<fuel:=by simp at hf;omega
       have hwz:QD D h R w (ss.reverse++s0 :: Z):=by
        have e:(s0 :: ss).reverse++Z=ss.reverse++s0 :: Z:=by rw[Gj,J8];rfl
        rw[<-e];exact hw
       have lss:ss.length=U.length:=hE.1.len;have ew:∀D' h',QD D' h' R w (ss.reverse++s0 :: Z)->QD D' h' R w ((s0 :: ss).reverse++Z):=λD' h' hh=>by
        have e:(s0 :: ss).reverse++Z=ss.reverse++s0 :: Z:=by rw[Gj,J8];rfl
        rw[e];exact hh
       refine key dk ht hwz hE.1 hU.1 uz.1 zO pg hA llo s1 zO hR λz7 D7 h7 d7 l7 q7 e7=>?_
       refine Xg (2 ^ U.length) p.length rfl rfl zO zO ?_;refine Mm (sL.le (Ja d7 q7.dT)) (by rw[lhi];exact jr) zO (Zw (λhz=>?_) (λhz=>?_))
       . refine hk _ D7 _ d7 l7 (ew _ _ q7) ?_;obtain⟨P,oP,nP,vP,_⟩:=e7;have e0:tv U (p.drop (2 ^ U.length))=0:=by rw[HS.1 hz,uq]
         have e:tv (r :: U) p=tv T P:=by rw[BV,e0,Re.mul_zero,Re.add_zero,vP]
         rw[e];exact Mn ht.red ht.small ht.high oP nP (by rw[<-e];exact sp)
       . refine Xg (2 ^ U.length) p.length rfl rfl zO zO ?_;refine q7.get U.length rfl (by simp;omega) λsl sW=>?_
         have es:(ss.reverse++s0 :: Z)[U.length]'(by simp;omega)=s0:=by
          rw[J3 (by simp;omega)];simp[lss]
         rw[es]at sW;refine key dk (ht.le d7) q7 hE.1 hU.1 uz.1 zO (sL.le d7) hA lhi s2 zO hR λxz D13 cO uB H2 q13 mY=>?_
         have d13:=Ja d7 uB;have eY:=Ja l7 H2;obtain⟨f1,f2⟩:=hE.2.pad;refine q13.call2 (K1:=λz D'=>OL D13 D' R z (kL (2 ^ T.length) s0)) (zqx ht.len (by have:=ht.high;omega) (sW.le uB) hR f1 λqM eG ux=>ux) λqM XS eG rV H4 q14 ux=>?_
         have d14:=Ja d13 rV;have gG:=Ja eY H4;have uU:Sz (tv U r).sqrt S:=uz.2.root (Re.bJ (.inr hU.2.2.1));have Ag:EV XS S T (tv U r).sqrt S qM:=by
          have:=pG ht.red ht.small ht.high ux.pl (Ml f1) (by rw[f2];exact uU)
          rwa [f2]at this
         refine q14.call2 (K1:=λz D'=>bQ XS D' S T _ _ z) (Af (ht.le d14) (mY.ev.le rV) Ag zO λB3 gh mZ=>mZ) λB3 D15 gh xB H5 q15 mZ=>?_
         have d15:=Ja d14 xB;have fE:=Ja gG H5;have ez:tv U (p.take (2 ^ U.length))+tv U (p.drop (2 ^ U.length))*(tv U r).sqrt=tv (r :: U) p:=by rw[BV,Re.mul_comm (tv U r).sqrt]
         refine q15.call2 (K1:=λz D'=>bQ D15 D' S T (tv (r :: U) p) s z) (XP (ht.le d15) (e7.ev.le (Ja uB (Ja rV xB))) mZ.ev zO (k:=s) (by rw[ez];exact sp) λuy gi gz=>by rw[ez]at gz;exact gz) λuy D16 gi H6 B0 q16 gz=>?_
         exact hk _ D16 _ (Ja d15 H6) (Ja fE B0) (ew _ _ q16) (gz.base d15)
section
variable {D h:Hp}{A B R S s:Nat}{a t w:Sl}{p:List Rat}{T U ss:zV}{K:zY Sl}
def zqg(ht:TW D B S t T)(hw:QD D h R w ss.reverse)(hE:EM T U ss)(hU:RT U)(uz:TS S U)(uA:U.length<=4)(ha:PL D A a p)(hA:A<=300000000000)(lp:p.length=2 ^ U.length)(sp:Sz (tv U p) s)(aD:2*s+(430*S+60)<=300000000000)(hR:1<=R)
 (H:∀z D' h',D.le D'->h.le h'->QD D' h' R w ss.reverse->bQ D D' S T (tv U p) s z->K z h'):za (F.qr (⟨t,w⟩:aR) a) K h:=by
 refine zb (λz h'=>∃D',D.le D'/\QD D' h' R w ss.reverse/\bQ D D' S T (tv U p) s z) (λK' hk=>?_) λz h' hl ⟨D',k1,k3,k4⟩=>H z D' h' k1 hl k3 k4
 unfold F.qr;have jf:CL S=16*S+1:=rfl;have:=Jm (CL S) uA;refine⟨U.length+1,zzl (Z:=[]) _ (G5 _) ht (by rw[Tm];exact hw) hE hU uz uA ha hA lp sp zO hR λz D' h' k1 k2 k3 k4=>hk _ _ k2 ⟨D',k1,?_,k4⟩⟩
 rwa [Tm]at k3
end
end Den
end

section
namespace Den
open Go Iv Pq
section
variable {h h':Hp}{A B S n u:Nat}{a b l m:Sl}{p:List Rat}{T ss:zV}{x y z:Re}{K:zY Sl}{X:aC}{v:Rat}{KR:zY aC}{KN:zY ag}
def zna{l:List Nat}{x:Sl}(hr:aL h x l)(hl:l.length<=35184372088800)(H:∀y h',Yz h h' y l->K y h'):za (F.Zd x) K h:=by
 refine zb (λy h'=>Yz h h' y l) (λK' hk=>?_) λy h' _ hy=>H y h' hy
 unfold F.Zd;have hlen:=hr.len;refine Zw (λh1=>?_) (λh1=>?_)
 . have hn:x.a=none:=by cases hx:x.a with | none=>rfl | some a=>rw[hx]at h1;cases h1
   have:l=[]:=by
    have h2:=hr.1.2;rw[hn]at h2;simp only[Zi]at h2;split at h2;rename_i h3;rw[Bl]at h3;exact Ju.1 h3;cases h2
   subst this;exact hk _ _ (Jf _) (Own.nil (Jf _))
 . refine Qv (n:=0) (size:=1) rfl λb h1 hb ho=>?_
   have eF:=hr.le ho.1;refine⟨wc l,?_,?_⟩
   . have:=eF.1.2;rw[Bl]at this;rw[hlen,U6];exact this
   . refine pW ho (n:=x.len) (by rw[Bl];omega) rfl ?_ (by simp only;omega) (by simp only;omega) λy h2 hy _=>hk _ _ hy.1 hy
     simp[wc,Tb]
def zkm(hx:NR h X v)(hq:BR B v)(hB:B<=1000000000000)(H:∀z h',h.le h'->NR h' z v->KR z h'):za (F.QO X) KR h:=by
 refine zb _ (λK' hk=>?_) H;unfold F.QO;have e1:=hx.1.len;have e2:=hx.2.len;have d1:=yj.2 hq.1;have d2:=yj.2 hq.2;refine zna hx.1.1 zO λy1 h1 ib=>?_
 refine zna (hx.2.1.le ib.1) zO λy2 h2 dA=>hk _ _ (Ja ib.1 dA.1) ?_
 exact⟨⟨ib.ep.le dA.1,hx.1.2⟩,⟨dA.ep,hx.2.2⟩⟩
def zio(ha:PL h B a p)(hlen:p.length<=65536)(hB:B<=1000000000000)(H:∀y h',OL h h' B y p->K y h'):za (F.QP a) K h:=by
 refine zb (λy h'=>OL h h' B y p) (λK' hk=>?_) λy h' _ hy=>H y h' hy
 unfold F.QP;rw[ha.len];refine Z9a (B:=B) rfl rfl hlen λm h1 ml ho=>?_
 refine Y8 (n:=p.length) zO (λi h'=>OP h h' B m p.length (p.take i)) ho ?_;rintro i h2 hi hI k aG;have l1:(p.take i).length=i:=by rw[Jk];omega
 refine zg (λh3=>?_) (λh3=>?_)
 . have aA:i<p.length:=by simp only at h3;omega
   refine ha.cT i hI.hle rfl aA λu hu bu=>?_
   refine hI.fill (v:=p[i]) (by rw[l1]) (by rw[l1];exact aA) bu (λD hD=>zkm (hu.le hD) bu hB λz h' _ hz=>hz) λh' hp=>aG _ aA ?_
   rw[Jc aA];exact hp
 . have:i=p.length:=by simp only at h3;omega
   subst this;rw[J5]at hI;exact hk _ _ hI.hle (hI.done rfl)
def zg3{X:ag}(ht:TW h B S X.ae T)(ha:PL h A X.af p)(hlp:p.length<=65536)(hA:A<=1000000000000)(H:∀Y h',h.le h'->TW h' B S Y.ae T->PL h' A Y.af p->KN Y h'):za (F.QQ X) KN h:=by
 refine zb (λY h'=>TW h' B S Y.ae T/\PL h' A Y.af p) (λK' hk=>?_) λY h' hl hY=>H Y h' hl hY.1 hY.2
 unfold F.QQ;have hn:=ht.high;have fA:=ht.bound;refine zio ha hlp hA λr1 h1 o1=>?_
 rw[ht.len];refine Za (λst h'=>∃D,h1.le D/\∃i:Nat,st.2.1=(i:Int)/\i<=T.length/\st.1.2.1=r1/\QD D h' B st.1.1 (T.reverse.take i)/\st.1.1.len<=st.1.1.cap) (λst=>(T.length-st.2.1).toNat)
  ⟨h1,Jf _,0,rfl,Jt _,rfl,⟨[],Own.nil (Jf _),rfl,λk k1 _=>by simp at k1⟩,Jd _⟩ ?_
 rintro⟨⟨l,r1',_⟩,_,_⟩ h2 ⟨D,hD,i,hi,da,hr,hq,hc⟩;simp only at hi hr hq hc;subst hi;subst hr;refine zg (λh3=>?_) (λh3=>?_)
 . have aA:i<T.length:=by simp only at h3;omega
   have bH:=Ja o1.hle (Ja hD hq.dT);obtain⟨ss,g1,g2,g3⟩:=ht.mem.1;have bP:i<ss.length:=by rw[g2,Tg];exact aA
   refine rn i (g1.le bH) rfl (v:=bO ss[i]) (by rw[Gr,Jp bP];rfl) λad bp=>⟨ss[i],bp,?_⟩
   have jL:=g3 i bP (by simpa using aA);have B5:=ht.red.short hn (T.reverse[i]'(by simpa using aA)) (Jy _);refine hq.call (K1:=λz D'=>PL D' B z (T.reverse[i]'(by simpa using aA))) (zio (jL.le (Ja o1.hle hD)) B5 zO λz h' o=>o.pl) λz D' h4 k1 hq4 hz=>?_
   refine hq4.app hz (by simp;omega) λy h5 LS=>⟨⟨D',Ja hD k1,i+1,?_,aA,rfl,?_,?_⟩,?_⟩
   simp only;rw[aM zO];rfl;rw[Jc (by simpa using aA)];exact LS;obtain⟨_,go,_⟩:=LS;exact go.2.2.1;simp only;rw[aM zO];omega
 . have:i=T.length:=by simp only at h3;omega
   subst this;refine hk _ _ (Ja o1.hle (Ja hD hq.dT)) ⟨⟨⟨?_,hc⟩,ht.red,ht.small,ht.high,ht.bound⟩,o1.pl.le (Ja hD hq.dT)⟩;have:=hq.qql
   rwa [Je zS]at this
end
end Den
end

section
namespace Den
open Go Iv Pq
def NB(G:Re->Prop)(S:Nat)(h:Hp)(x:ag)(z:Re)(s:Nat):Prop:=∃B T,TW h B S x.ae T/\TF G T/\EV h S T z s x.af
def dN(x:ag):List Value:=[.slice x.ae.a x.ae.len x.ae.cap,.slice x.af.a x.af.len x.af.cap]
section
variable {G:Re->Prop}{h h':Hp}{A B S n s:Nat}{a t w:Sl}{p r:List Rat}{T:zV}{X Y:ag}{x z:Re}{Ki:zY Int}{v:Rat}{V:aC}{KN:zY ag}
def NB.le(hx:NB G S h X x s)(hl:h.le h'):NB G S h' X x s:=by
 obtain⟨B,T,h1,h2,h3⟩:=hx;exact⟨B,T,h1.le hl,h2,h3.le hl⟩
def NB.mono{k:Nat}(hx:NB G S h X x s)(hk:s<=k):NB G S h X x k:=by
 obtain⟨B,T,h1,h2,h3⟩:=hx;exact⟨B,T,h1,h2,h3.mono hk⟩
def NB.sz(hx:NB G S h X x s):Sz x s:=by obtain⟨B,T,h1,h2,h3⟩:=hx;exact h3.sz
def NB.mem{n:Nat}(hF:eV G n)(hx:NB G S h X x s):G x:=by
 obtain⟨B,T,h1,h2,h3⟩:=hx;exact TF.mem hF h2 h3.kt
def NB.field{G':Re->Prop}(hx:NB G S h X x s)(hG:∀x,G x->G' x):NB G' S h X x s:=by
 obtain⟨B,T,h1,h2,h3⟩:=hx;exact⟨B,T,h1,h2.mono hG,h3⟩
def TS.mono{R:Nat}(hS:S<=R):∀{T:zV},TS S T->TS R T
 | [],_=>trivial
 | r :: T,h=>⟨TS.mono hS h.1,h.2.mono hS⟩
def zy0{R:Nat}(hl:t.len=0)(hR:R<=300000000000):TW h R S t []:=by
 refine⟨⟨⟨[],⟨by simp[hl],?_⟩,rfl,λk k1 _=>by simp at k1⟩,zO⟩,trivial,trivial,Jt _,hR⟩;cases t.a<;>simp[Zi,Zp]
def Zjq(hr:X.ae.len=0)(hp:PL h A X.af [v])(hs:Sz (Re.of v) s):NB G S h X (Re.of v) s:=
 ⟨0,[],zy0 hr zD,trivial,pG (T:=[]) (p:=[v]) trivial trivial zD hp rfl hs⟩
def z89(hx:NR h V v)(hq:BR s v)(hB:s<=1000000000000)(H:∀z h',h.le h'->NB G S h' z (Re.of v) s->KN z h'):za (F.Vd V) KN h:=by
 refine zb _ (λK' hk=>?_) H;unfold F.Vd;refine zkm hx hq hB λz h1 aP hz=>?_
 exact Z5q hz hq λA h2 bH hp=>hk _ _ (Ja aP bH) (Zjq rfl hp hq.sz)
def zul{n:Int}(h1:-9223372036854775808<=n)(h2:n<=9223372036854775807):BR 2 (n:Rat):=by
 refine⟨?_,?_⟩;rw[Rat.num_intCast];unfold Lt W;omega;rw[Rat.den_intCast];unfold Lt;decide
def zit{n:Int}(h1:-9223372036854775808<=n)(h2:n<=9223372036854775807)(H:∀z h',h.le h'->NB G S h' z (Re.of (n:Rat)) 2->KN z h'):za (F.Xv n) KN h:=by
 refine zb _ (λK' hk=>?_) H;unfold F.Xv;refine Zr h1 h2 λz h3 bj hz=>?_
 exact z89 hz (zul h1 h2) zD λw h4 cf hw=>hk _ _ (Ja bj cf) hw
def H7(hx:NB G S h X x s)(aD:QS S s*32+15000*S+20000<=300000000000)(H:∀h',h.le h'->Ki (cm x) h'):za (F.Xw X) Ki h:=by
 refine zb (λz h'=>z=cm x) (λK' hk=>?_) λz h' hl e=>by rw[e];exact H h' hl
 unfold F.Xw;obtain⟨B,T,h1,h2,h3⟩:=hx;exact zfh h1 h3 aD λh' hl=>hk _ _ hl rfl
def XT(hx:NB G S h X x s)(aD:s+(200*S+13)<=300000000000)(H:∀z h',h.le h'->NB G S h' z (-x) s->KN z h'):za (F.Ds X) KN h:=by
 refine zb _ (λK' hk=>?_) H;unfold F.Ds;obtain⟨B,T,h1,h2,p,hp,lp,e,sp⟩:=hx;have eO:=ja h1.high;have gu:CO S=64*S+5:=rfl;refine zg3 h1 hp (by rw[lp];omega) zO λY h3 l3 ht hc=>?_
 refine zry (x:=x) (s:=s) ht ⟨p,hc,lp,e,sp⟩ aD λz h4 e4=>hk _ _ (Ja l3 e4.hle) ⟨B,T,ht.le e4.hle,h2,e4.ev⟩
end
end Den
end

section
namespace Den
open Go Iv Pq
def Wo{q w:Rat}(h:w*w=q):q.num=w.num*w.num/\q.den=w.den*w.den:=by
 have h1:Nat.gcd (w.num*w.num).natAbs (w.den*w.den)=1:=by
  rw[Gf];have hc:=w.reduced;exact Nat.Coprime.mul_left (Lm hc hc) (Lm hc hc)
 rw[<-h];refine⟨?_,?_⟩;rw[Rat.num_mul,h1];simp;rw[Rat.den_mul,h1];simp
def Z71{m s t:Nat}(h:DJ m s)(ht:t*t=m):s=t:=by
 obtain⟨h1,h2⟩:=h;subst ht;have a1:s<=t:=P9 λhh=>by
  have:=Nat.mul_lt_mul'' hh hh;omega
 have a2:t<s+1:=Nat.lt_of_not_le λhh=>by
  have:=Gt hh hh;omega
 omega
section
variable {h:Hp}{n k:Nat}{a:aE}{m:Int}{X:aC}{q:Rat}{KI:zY (aE × Bool)}{KR:zY (aC × Bool)}
def zjq(ha:NI h a m)(om:Lt k m)(hkl:k<=1000000000000)(H1:∀z h' (s:Nat),h.le h'->((s*s:Nat):Int)=m->NI h' z (s:Int)->KI (z,true) h')(H0:∀z h',h.le h'->(¬∃s:Nat,((s*s:Nat):Int)=m)->KI (z,false) h') :
 za (F.QI a) KI h:=by
 refine zb (λz h'=>(z.2=true/\∃s:Nat,((s*s:Nat):Int)=m/\NI h' z.1 (s:Int))\/(z.2=false/\¬∃s:Nat,((s*s:Nat):Int)=m)) (λK' hk=>?_) λz h' hl e=>by
  obtain⟨z1,z2⟩:=z;rcases e with ⟨e,s,h1,h2⟩ | ⟨e,h1⟩
  simp only at e;subst e;exact H1 z1 h' s hl h1 h2;simp only at e;subst e;exact H0 z1 h' hl h1
 unfold F.QI;have hlen:(dg m.natAbs).length<=1000000000000:=Jo (yj.2 om) hkl;rcases Int.lt_or_le m 0 with hm | hm
 . refine zsj ha (show(dg m.natAbs).length<=_ by omega) hm (zc rfl (hk _ _ (Jf _) (.inr ⟨rfl,?_⟩)));rintro⟨s,hs⟩;omega
 . obtain⟨N,rfl⟩:∃N:Nat,m=(N:Int):=⟨m.toNat,zO⟩;rw[Jh]at hlen;refine zt8 ha hlen λz h1 s l1 hz hs=>zk rfl ?_
   have sW:(dg s).length<=8796093022208:=by
    have:s<=N:=Jo (Nat.le_mul_self s) hs.1;exact Jo (qz this) zO
   refine Xq (m:=(s:Int)) (n:=(s:Int)) hz hz sW sW λy h2 l2 hy=>?_
   refine zy8 hy (ha.le (Ja l1 l2)) ?_ (show(dg (Int.natAbs (N:Int))).length<=_ by rw[Jh];omega) ?_
   . have e:Int.natAbs ((s:Int)*(s:Int))=s*s:=by rw[<-Ug,Jh]
     show(dg (Int.natAbs ((s:Int)*(s:Int)))).length<=_;rw[e];exact Jo (qz hs.1) zO
   . by_cases he:s*s=N
     . have e:(((s:Int)*(s:Int)-(N:Int)).sign==0)=true:=by
        rw[<-Ug,he,Int.sub_self];rfl
       rw[e];refine hk _ _ (Ja l1 l2) (.inl ⟨rfl,s,by rw[he],?_⟩);exact hz.le l2
     . have e:(((s:Int)*(s:Int)-(N:Int)).sign==0)=false:=by
        have h3:(s:Int)*(s:Int)-(N:Int)≠0:=by
         rw[<-Ug];omega
        have h4:((s:Int)*(s:Int)-(N:Int)).sign≠0:=λhh=>h3 (Int.sign_eq_zero_iff_zero.1 hh)
        simpa using h4
       rw[e];refine hk _ _ (Ja l1 l2) (.inr ⟨rfl,?_⟩);rintro⟨t,ht⟩;have jo:t*t=N:=zO;exact he (by rw[Z71 hs jo];exact jo)
def Z60(hx:NR h X q)(hq:BR k q)(hk:k<=1000000000000)(H1:∀z h' w,h.le h'->w*w=q->NR h' z w->KR (z,true) h')(H0:∀z h',h.le h'->(¬∃w:Rat,w*w=q)->KR (z,false) h') :
 za (F.z8c X) KR h:=by
 refine zb (λz h'=>(z.2=true/\∃w,w*w=q/\NR h' z.1 w)\/(z.2=false/\¬∃w:Rat,w*w=q)) (λK' bP=>?_) λz h' hl e=>by
  obtain⟨z1,z2⟩:=z;rcases e with ⟨e,s,h1,h2⟩ | ⟨e,h1⟩
  simp only at e;subst e;exact H1 z1 h' s hl h1 h2;simp only at e;subst e;exact H0 z1 h' hl h1
 unfold F.z8c;have XU:(¬∃s:Nat,((s*s:Nat):Int)=q.num)->¬∃w:Rat,w*w=q:=by
  rintro cW ⟨w,hw⟩;refine cW ⟨w.num.natAbs,?_⟩;rw[(Wo hw).1,Ug,Int.natAbs_mul_self']
 have abo:(¬∃s:Nat,((s*s:Nat):Int)=(q.den:Int))->¬∃w:Rat,w*w=q:=by
  rintro cW ⟨w,hw⟩;exact cW ⟨w.den,by rw[(Wo hw).2]⟩
 refine zjq hx.1 hq.1 hk (λz1 h1 s l1 hs rH=>?_) (λz1 h1 l1 cW=>?_)
 . refine zjq (hx.2.le l1) hq.2 hk (λz2 h2 t l2 ht fB=>?_) (λz2 h2 l2 cW=>?_)
   . refine Wf (zc rfl (zc rfl (bP _ _ (Ja l1 l2) (.inl ⟨rfl,?_⟩))));have jo:t*t=q.den:=Int.ofNat_inj.1 ht;have t0:t≠0:=λhh=>by rw[hh]at jo;have:=q.den_pos;omega
     have gu:Nat.Coprime s t:=by
      have hr:=q.reduced;rw[<-hs,Jh,<-jo]at hr;exact Nat.Coprime.coprime_mul_right (Nat.Coprime.coprime_mul_right_right hr)
     refine⟨⟨(s:Int),t,t0,by rw[Jh];exact gu⟩,?_,rH.le l2,fB⟩;obtain⟨p1,p2⟩:=Wo (w:=⟨(s:Int),t,t0,by rw[Jh];exact gu⟩) rfl;refine Rat.ext (p1.trans ?_) (p2.trans ?_);rw[<-hs,Ug];exact jo
   exact Wf (zc rfl (zk rfl (bP _ _ (Ja l1 l2) (.inr ⟨rfl,abo cW⟩))))
 . refine zjq (hx.2.le l1) hq.2 hk (λz2 h2 t l2 ht fB=>?_) (λz2 h2 l2 m0=>?_);exact Wf (zk rfl (bP _ _ (Ja l1 l2) (.inr ⟨rfl,XU cW⟩)));exact Wf (zk rfl (bP _ _ (Ja l1 l2) (.inr ⟨rfl,XU cW⟩)))
end
end Den
end

section
namespace Den
open Go Iv
abbrev BM:=Nat->Option (List Value)
def mn(f:BM)(b:Nat)(cs:List Value):BM:=λk=>if k=b then some cs else f k
def Zjw:BM:=λ_=>none
def Ah{f:BM}{b:Nat}{cs:List Value}:mn f b cs b=some cs:=by simp[mn]
def Ec{f:BM}{b k:Nat}{cs:List Value}(h:k≠b):mn f b cs k=f k:=by simp[mn,h]
def Zcd{f:BM}{b:Nat}{cs ds:List Value}:mn (mn f b cs) b ds=mn f b ds:=by
 funext k;unfold mn;by_cases h:k=b<;>simp[h]
structure Bk(D h:Hp)(f:BM):Prop where
 le:D.le h
 own:∀b cs,f b=some cs->D b=none/\∃e,h b=some ⟨cs,e,(0,0)⟩
def sX(b o i:Nat):(⟨b,o,none⟩:Addr).add i=⟨b,o+i,none⟩:=by
 unfold Addr.add;split;rename_i h;subst h;rfl;rfl
section
variable {D h:Hp}{f:BM}{b o i:Nat}{cs vs:List Value}{v:Value}
def Bk.start:Bk h h Zjw:=⟨Jf _,λb cs hb=>by cases hb⟩
def Bk.fresh(hB:Bk D h f)(hb:h b=none):f b=none/\D b=none:=by
 constructor
 . cases hf:f b with
   | none=>rfl
   | some cs=>obtain⟨_,e,he⟩:=hB.own b cs hf;rw[hb]at he;cases he
 . cases hd:D b with
   | none=>rfl
   | some B=>have:=hB.le b B hd;rw[hb]at this;cases this
def Bk.cell(hB:Bk D h f)(hf:f b=some cs)(hv:cs[i]?=some v):h.cell ⟨b,i,none⟩=some v:=by
 obtain⟨_,e,he⟩:=hB.own b cs hf;unfold Hp.cell;simp only[he];exact hv
def Bk.ld{l:Lf}{x:l.T}{K:l.T->Prop}(hB:Bk D h f)(hf:f b=some cs)(hv:cs[i]?=some (l.up x))(H:K x):aB l ⟨b,i,none⟩ K h:=⟨x,hB.cell hf hv,H⟩
def Bk.st{K:Hp->Prop}(hB:Bk D h f)(hf:f b=some cs)(hlen:o+vs.length<=cs.length)(dt:vs.all Tb=true)(H:∀h',Bk D h' (mn f b (Zn cs o vs))->K h'):bD ⟨b,o,none⟩ vs K h:=by
 obtain⟨hd,e,he⟩:=hB.own b cs hf;refine⟨_,he,rfl,rfl,hlen,dt,H _ ⟨λk B hk=>?_,λk ds hk=>?_⟩⟩;rw[Gc (λhh=>by rw[hh,hd]at hk;cases hk)];exact hB.le k B hk
 . by_cases dH:k=b
   . subst dH;rw[Ah]at hk;cases hk;exact⟨hd,e,Uy _ _ _⟩
   . rw[Ec dH]at hk;rw[Gc dH];exact hB.own k ds hk
def Bk.abp{e:TypeId}(hB:Bk D h f)(hb:h b=none):Bk (D.ins b ⟨cs,e,(0,0)⟩) (h.ins b ⟨cs,e,(0,0)⟩) f:=by
 refine⟨λk B hk=>?_,λk ds hk=>?_⟩
 . by_cases dH:k=b;subst dH;rw[Uy]at hk |-;exact hk
   rw[Gc dH]at hk |-;exact hB.le k B hk
 . have dH:k≠b:=λhh=>by subst hh;rw[(hB.fresh hb).1]at hk;cases hk
   rw[Gc dH,Gc dH];exact hB.own k ds hk
def Bk.XV{e:TypeId}(hB:Bk D h f)(hb:h b=none):Bk D (h.ins b ⟨cs,e,(0,0)⟩) (mn f b cs):=by
 refine⟨λk B hk=>?_,λk ds hk=>?_⟩;rw[Gc (λhh=>by rw[hh,(hB.fresh hb).2]at hk;cases hk)];exact hB.le k B hk
 . by_cases dH:k=b
   . subst dH;rw[Ah]at hk;cases hk;exact⟨(hB.fresh hb).2,e,Uy _ _ _⟩
   rw[Ec dH]at hk;rw[Gc dH];exact hB.own k ds hk
def Bk.abq{K:Addr->Hp->Prop}(hB:Bk D h f)(H:∀b D' h',h b=none->D.le D'->(∀i v,cs[i]?=some v->D'.cell ⟨b,i,none⟩=some v)->Bk D' h' f->K ⟨b,0,none⟩ h'):Ys cs K h:=by
 intro b e hb;refine H b (D.ins b ⟨cs,e,(0,0)⟩) _ hb (Hp.cH (hB.fresh hb).2) (λi v hv=>?_) (hB.abp hb);unfold Hp.cell;simp only[Uy];exact hv
def Bk.XW{K:Addr->Hp->Prop}(hB:Bk D h f)(H:∀b h',f b=none->D b=none->Bk D h' (mn f b cs)->K ⟨b,0,none⟩ h'):Ys cs K h:=by
 intro b e hb;exact H b _ (hB.fresh hb).1 (hB.fresh hb).2 (hB.XV hb)
def Bk.mkF{K:Sl->Hp->Prop}{len cap:Int}{bytes:Nat}{zero:List Value}(l c:Nat)(hB:Bk D h f)(hl:len=l)(hc:cap=c)(vS:l<=c)(hb:bytes*c<=140737488355328)(je:c<=140737488355328)
 (H:∀b h',f b=none->D b=none->Bk D h' (mn f b (Yi c zero))->K ⟨some ⟨b,0,none⟩,l,c⟩ h'):eW len cap bytes zero K h:=by
 subst hl hc;refine⟨zO,zO,(Ug bytes c)▸(Int.ofNat_le.2 hb),zO,?_⟩;exact hB.XW λb h' h1 h2 h3=>H b h' h1 h2 h3
def Bk.call{α:Type}{G:(α->Hp->Prop)->Hp->Prop}{K1 K:α->Hp->Prop}(hB:Bk D h f)(H:za G K1 D)(k:∀v D' h',D.le D'->Bk D' h' f->K1 v D'->K v h'):za G K h:=
 WC hB.le H λv D' h' h1 h2 h3 h4=>k v D' h' h1 ⟨h2,λb cs hb=>by
  obtain⟨g1,e,g2⟩:=hB.own b cs hb;have:=h3 b g1 (by rw[g2];simp);exact⟨this.1,e,by rw[this.2];exact g2⟩⟩ h4
def OS(f:BM)(size:Nat)(x:Sl)(cs:List Value):Prop:=x.len*size=cs.length/\x.len<=x.cap /\
 match x.a with
 | none=>x.cap=0
 | some a=>a.off=0/\a.spot=none/\∃bs,f a.block=some bs/\bs.length=x.cap*size/\bs.take cs.length=cs
def eP(x:Sl)(b:Nat):Prop:=∃a,x.a=some a/\a.block=b
variable {size:Nat}{x:Sl}
def OS.nil:OS f size zd []:=⟨by simp[zd],Jd _,rfl⟩
def OS.congr{g:BM}(ho:OS f size x cs)(h:∀b,eP x b->g b=f b):OS g size x cs:=by
 obtain⟨h1,h2,h3⟩:=ho;refine⟨h1,h2,?_⟩;cases ha:x.a with
 | none=>rw[ha]at h3;exact h3
 | some a=>
   rw[ha]at h3;obtain⟨g1,g2,bs,g3,g4⟩:=h3;exact⟨g1,g2,bs,by rw[h a.block ⟨a,ha,rfl⟩];exact g3,g4⟩
def OS.cJ{jD:List Value}(ho:OS f size x cs)(h:¬eP x b):OS (mn f b jD) size x cs:=ho.congr λk hk=>Ec λhh=>h (hh▸hk)
def OS.there(ho:OS f size x cs)(h:eP x b):f b≠none:=by
 obtain⟨a,ha,rfl⟩:=h;obtain⟨_,_,h3⟩:=ho;rw[ha]at h3;obtain⟨_,_,bs,g3,_⟩:=h3;rw[g3];simp
def OS.own(ho:OS f size x cs)(hB:Bk D h f):Own D h size x cs:=by
 obtain⟨h1,h2,h3⟩:=ho;refine⟨hB.le,h1,h2,?_⟩;cases ha:x.a with
 | none=>rw[ha]at h3;exact h3
 | some a=>
   rw[ha]at h3;obtain⟨g1,g2,bs,g3,g4,g5⟩:=h3;obtain⟨k1,e,k2⟩:=hB.own _ _ g3;exact⟨g1,g2,k1,_,k2,rfl,g4,g5⟩
def OS.rd(ho:OS f size x cs)(hB:Bk D h f):Rd h size x cs:=(ho.own hB).rd
def OS.st{K:Hp->Prop}{z:Int}(k:Nat)(ho:OS f size x cs)(hB:Bk D h f)(hi:z=k)(hk:k<x.len)(hv:vs.length=size)(dO:0<size)(dt:vs.all Tb=true)
 (H:∀f' h',Bk D h' f'->OS f' size x (Zn cs (k*size) vs)->(∀b,¬eP x b->f' b=f b)->K h'):zi x z size λa=>bD a vs K h:=by
 subst hi;have mh:=ho;obtain⟨h1,h2,h3⟩:=ho;refine⟨zO,zO,?_⟩;cases ha:x.a with
 | none=>rw[ha]at h3;simp only at h3;omega
 | some a=>
   rw[ha]at h3;obtain⟨g1,g2,bs,g3,g4,g5⟩:=h3;have ea:a=⟨a.block,0,none⟩:=by cases a;simp only at g1 g2;rw[g1,g2]
   have e1:k*size+size<=cs.length:=by
    rw[<-h1];have:=Jm size (show k+1<=x.len by omega);rw[J9]at this;omega
   have e2:cs.length<=bs.length:=by rw[g4,<-h1];exact Jm _ h2
   show Yv (some a) _;simp only[Yv];rw[ea,sX,Nat.zero_add,show((k:Int).toNat)=k from rfl];refine hB.st g3 zO dt λh' B6=>H _ h' B6 ⟨?_,h2,?_⟩ λb hb=>Ec λhh=>hb ⟨a,ha,hh.symm⟩
   rw[qd zO];exact h1
   . rw[ha];refine⟨g1,g2,_,Ah,?_,?_⟩;rw[qd zO];exact g4
     . rw[qd zO];exact zc7 zO g5
def OS.app{K:Sl->Hp->Prop}{bytes n:Nat}{zero new:List Value}(ho:OS f size x cs)(hB:Bk D h f)(hn:new.length=n*size)(hz:zero.length=size)(dt:new.all Tb=true)
 (hb:(x.len+n)*bytes<=140737488355328) (je:x.len+n<=140737488355328)
 (H:∀y f' h',Bk D h' f'->OS f' size y (cs++new)->(∀b,¬eP x b->f b≠none->f' b=f b)->(∀b,eP y b->eP x b\/f b=none/\D b=none)->K y h'):Qg size bytes zero x n new K h:=by
 have eh:=ho.rd hB;obtain⟨h1,h2,h3⟩:=ho;refine⟨hb,je,λdQ=>?_,λvR=>?_⟩
 . cases ha:x.a with
   | none=>
     rw[ha]at h3;simp only at h3;have lX:n=0:=zO;have gr:new=[]:=by
      cases new with
      | nil=>rfl
      | cons a b=>rw[lX]at hn;simp at hn
     subst gr lX;simp only[pS];refine H _ f _ hB ⟨by simpa using h1,by show x.len+0<=x.cap;omega,h3⟩ (λ_ _ _=>rfl) (λb hb=>?_);obtain⟨a,h5,_⟩:=hb;cases h5
   | some a=>
     rw[ha]at h3;obtain⟨g1,g2,bs,g3,g4,g5⟩:=h3;have ea:a=⟨a.block,0,none⟩:=by cases a;simp only at g1 g2;rw[g1,g2]
     have e1:(x.len+n)*size=cs.length+new.length:=by rw[J9,h1,hn]
     have e2:cs.length+new.length<=bs.length:=by rw[g4,<-e1];exact Jm _ dQ
     simp only[pS];have mI:x.len*size=cs.length:=h1;have key:∀K':Hp->Prop,(∀h',Bk D h' (mn f a.block (Zn bs (x.len*size) new))->K' h')->bD (a.add (x.len*size)) new K' h:=by
      intro K' hK;rw[ea,sX,Nat.zero_add];exact hB.st g3 zO dt hK
     refine key _ λh' B6=>H _ _ h' B6 ⟨?_,dQ,?_⟩ (λb hb _=>Ec λhh=>hb ⟨a,ha,hh.symm⟩) (λb hb=>?_)
     show(x.len+n)*size=_;rw[Jq];exact e1
     . refine⟨g1,g2,_,Ah,?_,?_⟩;rw[qd zO];exact g4
       . unfold Zn;rw[mI,g5,J8,Jq,List.take_append];simp only[Gz];rw[Je zO,List.take_append,Je (Jd _)];simp
     . obtain⟨a',h5,h6⟩:=hb;cases h5;exact .inl ⟨a,ha,h6⟩
 . refine⟨cs,?_,λbk e c hc fJ=>?_⟩;rw[h1];exact eh.2
   . refine H _ _ _ (hB.XV fJ) ⟨?_,hc,?_⟩ (λb hb je=>Ec λhh=>je (by rw[hh];exact(hB.fresh fJ).1)) (λb hb=>?_);show(x.len+n)*size=_;rw[Jq,J9,h1,hn]
     . refine⟨rfl,rfl,_,Ah,?_,?_⟩
       . have hr:(Yi (c-(x.len+n)) zero).length=(c-(x.len+n))*size:=by rw[C4,hz]
         rw[Jq,Jq,hr,hn,<-h1,<-J9,<-J9];show _=c*size;congr 1;omega
       . rw[U4 zS];exact Je (Jd _)
     . obtain⟨a',h5,h6⟩:=hb;cases h5;subst h6;exact .inr (hB.fresh fJ)
def OS.mk{n c:Nat}{zero:List Value}(hz:zero.length=size)(AB:n<=c):OS (mn f b (Yi c zero)) size ⟨some ⟨b,0,none⟩,n,c⟩ (Yi n zero):=by
 refine⟨by rw[C4,hz],AB,rfl,rfl,_,Ah,by rw[C4,hz],?_⟩;have:Yi c zero=Yi n zero++Yi (c-n) zero:=by
  unfold Yi;rw[<-List.flatten_append,Gy];congr 2;omega
 rw[this,U4 (Jd _),Je (Jd _)]
def OS.cut{n:Nat}(ho:OS f size x cs)(hn:n<=x.len):OS f size (x.cut 0 n size) (cs.take (n*size)):=by
 obtain⟨h1,h2,h3⟩:=ho;have hle:n*size<=cs.length:=by rw[<-h1];exact Jm _ hn
 have ea:(x.cut 0 n size).a=x.a:=by
  show(if x.cap=0 then x.a else x.a.map (·.add (0*size)))=x.a;split;rfl
  . cases x.a with
    | none=>rfl
    | some a=>simp only[Option.map_some,Pm,qo]
 refine⟨?_,?_,?_⟩
 . show(n-0)*size=_;rw[Jk];simp;omega
 show n-0<=x.cap-0;omega
 . rw[ea];cases ha:x.a with
   | none=>rw[ha]at h3;show x.cap-0=0;simp only at h3;omega
   | some a=>
     rw[ha]at h3;obtain⟨g1,g2,bs,g3,g4,g5⟩:=h3;refine⟨g1,g2,bs,g3,?_,?_⟩;show _=(x.cap-0)*size;rw[Nat.sub_zero];exact g4
     . rw[Jk,Nat.min_eq_left hle];rw[<-g5,List.take_take,Nat.min_eq_left hle]
def Z70{α:Type}{c:α->Value}{l:List α}{k:Nat}{v:α}(hk:k<l.length):Zn (l.map c) k [c v]=(l.set k v).map c:=by
 rw[zk1,List.map_set];have bP:k<(l.map c).length:=by simpa using hk
 rw[List.set_eq_take_append_cons_drop,if_pos bP]
end
end Den
end

section
namespace Den
open Go Iv Pq
def Zz5{h:Hp}{l:Sl}{xs:List aC}(hr:qH h l xs):l.len=xs.length:=qH.len hr
section
variable {h:Hp}{a b l:Sl}{xs ys:List aC}{K:zY Sl}
def Z5f{n:Nat}(hn:0<n)(HF:n<=1000000)(H:∀y h',Own h h' 4 y []->K y h'):za (F.Qk zd (n:Int)) K h:=by
 refine zb (λy h'=>Own h h' 4 y []) (λK' hk=>?_) λy h' _ hy=>H y h' hy
 unfold F.Qk;refine zj (λ_ h'=>h'=h) (λ_ h1 hh=>?_) (zg (λhh=>absurd hh zO) λ_=>rfl);subst hh;have e1:i64.wrap ((zd.cap:Int)-(zd.len:Int))=0:=rfl;rw[e1];have e2:i64.wrap ((n:Int)-0)=n:=by rw[aM zO];omega
 rw[e2];refine zg (λ_=>?_) (λhh=>absurd hh zO);refine⟨Int.le_refl _,Int.le_refl _,Int.le_refl _,zO,?_⟩;have e3:zd.cut ((0:Int)).toNat ((zd.cap:Int)).toNat 4=zd:=rfl;rw[e3];have e4:((n:Int)).toNat=n:=rfl;rw[e4];have hz:(Yi n [Value.bool false,zN,.bool false,zN]).length=n*4:=by rw[C4];rfl
 refine(OS.nil (f:=Zjw) (size:=4)).app Bk.start (n:=n) hz rfl ?_ ?_ ?_ λy f1 h2 pV dA _ _=>?_
 . unfold Yi;rw[List.all_flatten,List.all_replicate];simp[Tb]
 show(0+n)*64<=_;omega;show 0+n<=_;omega
 . have h3:=dA.2.1;refine⟨zO,by show(0:Int)<=((zd.len:Nat):Int);omega,by show((zd.len:Nat):Int)<=(y.cap:Int);show((0:Nat):Int)<=_;omega,hk _ _ pV.le ?_⟩;have:=(dA.cut (n:=0) (Jt _)).own pV;rw[Pm,List.take_zero]at this;exact this
def zkk(hl:Rd h 1 l [bO a,bO b])(ha:qH h a xs)(hb:qH h b ys)(h0:0<xs.length)(h1:xs.length<=65536)(h2:ys.length<=65536)(H:∀y h',Own h h' 4 y ((xs++ys).flatMap qc)->K y h') :
 za (F.Z0 l) K h:=by
 refine zb (λy h'=>Own h h' 4 y ((xs++ys).flatMap qc)) (λK' hk=>?_) λy h' _ hy=>H y h' hy
 unfold F.Z0;have ll:l.len=2:=by have:=hl.1;simp at this;omega
 have la:=Zz5 ha;have lb:=Zz5 hb;have XX:∀{h':Hp} {i:Int} {Kx:Sl->Prop},h.le h'->i=0->Kx a->zi l i 1 λad=>aB .sl ad (λx=>Kx x) h':=λg e k=>
  rn 0 (hl.le g) e (v:=bO a) rfl λad hc=>⟨a,hc,k⟩
 have rd1:∀{h':Hp} {i:Int} {Kx:Sl->Prop},h.le h'->i=1->Kx b->zi l i 1 λad=>aB .sl ad (λx=>Kx x) h':=λg e k=>
  rn 1 (hl.le g) e (v:=bO b) rfl λad hc=>⟨b,hc,k⟩
 rw[ll];refine ur (n:=2) zD (λi s h'=>h'=h/\s=((if i=0 then 0 else if i=1 then xs.length else xs.length+ys.length:Nat):Int)) ⟨rfl,rfl⟩ ?_;rintro i s h3 hi ⟨rfl,hs⟩ k ck;refine zg (λh4=>?_) (λh4=>?_)
 . have aA:i<2:=by have:(i:Int)<((2:Nat):Int):=h4;omega
   refine zj (λs h'=>h'=h3/\s.1=((if i+1=0 then 0 else if i+1=1 then xs.length else xs.length+ys.length:Nat):Int)) (λs h' hj=>ck _ _ aA hj) ?_;rcases Jx i 1 with h5 | h5
   . have:i=0:=zO;subst this;refine XX (Jf _) rfl ?_;have e:i64.wrap (s+(a.len:Int))=((xs.length:Nat):Int):=by rw[hs,la,aM (by simp;omega)];simp
     simp only[e];exact zg (λhh=>absurd hh zO) λ_=>⟨by trivial,rfl⟩
   . have:i=1:=zO;subst this;refine rd1 (Jf _) rfl ?_;have e:i64.wrap (s+(b.len:Int))=((xs.length+ys.length:Nat):Int):=by rw[hs,lb,aM (by simp;omega)];simp
     simp only[e];exact zg (λhh=>absurd hh zO) λ_=>⟨by trivial,rfl⟩
 . have:i=2:=by have:¬(i:Int)<((2:Nat):Int):=h4;omega
   subst this;have kJ:s=((xs.length+ys.length:Nat):Int):=hs;rw[kJ];refine Z5f zO zO λy h6 hy=>?_
   refine ur (n:=2) zD (λj s h'=>Own h3 h' 4 s ((if j=0 then []else if j=1 then xs else xs++ys).flatMap qc)) (by simpa using hy) ?_;intro j s h7 hj ho k9 hk9;refine zg (λh8=>?_) (λh8=>?_)
   . have vm:j<2:=by have:(j:Int)<((2:Nat):Int):=h8;omega
     rcases Jx j 1 with h5 | h5
     . have:j=0:=zO;subst this;refine XX ho.1 rfl ⟨xs.flatMap qc,?_,?_⟩
       . have:=EP ho.1 ha.2;rw[yr qu]at this;rw[la];exact this
       . have sW:s.len=0:=by have:=ho.2.1;simp at this;omega
         refine pW ho (n:=a.len) (by rw[yr qu,la]) rfl ?_ (by rw[sW];omega) (by rw[sW];omega) λw h9 hw _=>hk9 _ _ vm ?_
         rw[List.all_flatMap,J1];intro x _;exact zZ x;simpa using hw
     . have:j=1:=zO;subst this;refine rd1 ho.1 rfl ⟨ys.flatMap qc,?_,?_⟩
       . have:=EP ho.1 hb.2;rw[yr qu]at this;rw[lb];exact this
       . have sW:s.len=xs.length:=by
          have h9:s.len*4=(xs.flatMap qc).length:=ho.2.1;rw[yr qu]at h9;omega
         refine pW ho (n:=b.len) (by rw[yr qu,lb]) rfl ?_ (by rw[sW];omega) (by rw[sW];omega) λw h9 hw _=>hk9 _ _ vm ?_
         rw[List.all_flatMap,J1];intro x _;exact zZ x
         . have e:((if 1+1=0 then []else if 1+1=1 then xs else xs++ys):List aC).flatMap qc=xs.flatMap qc++ys.flatMap qc:=by rw[<-List.flatMap_append];rfl
           rw[e];exact hw
   . have:j=2:=by have:¬(j:Int)<((2:Nat):Int):=h8;omega
     subst this;exact hk _ _ ho.1 ho
end
end Den
end

section
namespace Rng
structure RL(α:Type)[Add α][Mul α][Neg α][Sub α](z o:α):Prop where
 pH:∀a b:α,a+b=b+a
 kA:∀a b c:α,a+b+c=a+(b+c)
 jb:∀a:α,a+z=a
 jy:∀a:α,a+-a=z
 kB:∀a b:α,a*b=b*a
 B7:∀a b c:α,a*b*c=a*(b*c)
 H8:∀a:α,a*o=a
 xC:∀a b c:α,a*(b+c)=a*b+a*c
 B8:∀a b:α,a-b=a+-b
inductive Ex where
 | v (n:Nat)
 | o
 | i
 | a (x y:Ex)
 | m (x y:Ex)
 | n (x:Ex)
 | s (x y:Ex)
def uC(n:Nat):List Nat->List Nat
 | []=>[n]
 | k :: r=>if n<=k then n :: k :: r else k :: uC n r
def xD:List Nat->List Nat->List Nat
 | [],q=>q
 | n :: p,q=>uC n (xD p q)
def mLt:List Nat->List Nat->Bool
 | [],[]=>false
 | [],_ :: _=>true
 | _ :: _,[]=>false
 | a :: p,b :: q=>if a<b then true else if a=b then mLt p q else false
abbrev Pn:=List (List Nat×Int)
def ng(p:List Nat)(c:Int):Pn->Pn
 | []=>if c=0 then []else [(p,c)]
 | (q,d) :: r=>if p=q then (if c+d=0 then r else (q,c+d) :: r)else if mLt p q then (if c=0 then (q,d) :: r else (p,c) :: (q,d) :: r)else (q,d) :: ng p c r
def nh:Pn->Pn->Pn
 | [],b=>b
 | (p,c) :: a,b=>ng p c (nh a b)
def uD(a:Pn):Pn:=a.map λt=>(t.1,-t.2)
def pI(p:List Nat)(c:Int):Pn->Pn
 | []=>[]
 | (q,d) :: r=>ng (xD p q) (c*d) (pI p c r)
def xE:Pn->Pn->Pn
 | [],_=>[]
 | (p,c) :: a,b=>nh (pI p c b) (xE a b)
def Ex.nf:Ex->Pn
 | .v k=>[([k],1)]
 | .o=>[]
 | .i=>[([],1)]
 | .a x y=>nh x.nf y.nf
 | .m x y=>xE x.nf y.nf
 | .n x=>uD x.nf
 | .s x y=>nh x.nf (uD y.nf)
section
variable {α:Type}[Add α][Mul α][Neg α][Sub α]{z o:α}
def Ex.ev(z o:α)(ρ:List α):Ex->α
 | .v k=>ρ.getD k z
 | .o=>z
 | .i=>o
 | .a x y=>x.ev z o ρ+y.ev z o ρ
 | .m x y=>x.ev z o ρ*y.ev z o ρ
 | .n x=>- x.ev z o ρ
 | .s x y=>x.ev z o ρ-y.ev z o ρ
def fu(z:α)(a:α):Nat->α
 | 0=>z
 | k+1=>fu z a k+a
def gY(z:α)(a:α):Int->α
 | .ofNat k=>fu z a k
 | .negSucc k=>- fu z a (k+1)
def gZ(z o:α)(ρ:List α):List Nat->α
 | []=>o
 | n :: p=>ρ.getD n z*gZ z o ρ p
def gV(z o:α)(ρ:List α):Pn->α
 | []=>z
 | (p,c) :: r=>gY z (gZ z o ρ p) c+gV z o ρ r
def XY{β:Type}[Add β][Neg β](z a:β):gY z a 0=z:=rfl
namespace RL
variable (L:RL α z o){a b c d:α}{ρ:List α}
include L
def uE(a:α):z+a=a:=by rw[L.pH,L.jb]
def Ed(a b c:α):a+(b+c)=b+(a+c):=by rw[<-L.kA,L.pH a,L.kA]
def XZ(a b c:α):a*(b*c)=b*(a*c):=by rw[<-L.B7,L.kB a,L.B7]
def cancel(h:a+c=b+c):a=b:=by
 have:a+c+-c=b+c+-c:=by rw[h]
 rwa [L.kA,L.jy,L.jb,L.kA,L.jy,L.jb]at this
def B9(a:α):a*z=z:=by
 refine L.cancel (c:=a*z) ?_;rw[<-L.xC,L.jb,L.uE]
def YA(a:α):z*a=z:=by rw[L.kB,L.B9]
def Ee(a b c:α):(a+b)*c=a*c+b*c:=by rw[L.kB,L.xC,L.kB c,L.kB c]
def pJ(h:a+b=z):b=-a:=by
 refine L.cancel (c:=a) ?_;rw[L.pH b,h,L.pH,L.jy]
def YB:-z=z:=(L.pJ (L.jb z)).symm
def H9(a:α):- -a=a:=(L.pJ (by rw[L.pH,L.jy])).symm
def ni(a b:α):-(a+b)=-a+-b:=by
 refine(L.pJ ?_).symm;rw[L.kA,L.Ed b,L.jy,L.jb,L.jy]
def H'(a b:α):a*-b=-(a*b):=by
 refine L.pJ ?_;rw[<-L.xC,L.jy,L.B9]
def Ia(a b:α):-a*b=-(a*b):=by rw[L.kB,L.H',L.kB]
def gm(a:α)(m:Nat):∀n:Nat,fu z a (m+n)=fu z a m+fu z a n
 | 0=>(L.jb _).symm
 | n+1=>by
   show fu z a (m+n)+a=fu z a m+(fu z a n+a);rw[gm a m n,L.kA]
def nk(a b:α):∀n:Nat,fu z a n*b=fu z (a*b) n
 | 0=>L.YA b
 | n+1=>by
   show(fu z a n+a)*b=fu z (a*b) n+a*b;rw[L.Ee,nk a b n]
def iI(a:α)(m:Nat):∀n:Nat,fu z (fu z a m) n=fu z a (m*n)
 | 0=>rfl
 | n+1=>by
   show fu z (fu z a m) n+fu z a m=fu z a (m*(n+1));rw[iI a m n,Nat.mul_succ,L.gm]
def nm(a:α):∀n:Nat,fu z (-a) n=- fu z a n
 | 0=>L.YB.symm
 | n+1=>by
   show fu z (-a) n+-a=-(fu z a n+a);rw[nm a n,L.ni]
def sY(a:α)(m n:Nat):gY z a (Int.subNatNat m n)=fu z a m+- fu z a n:=by
 rcases Jx m n with h | h
 . obtain⟨k,rfl⟩:∃k,n=m+(k+1):=⟨n-m-1,zO⟩;have e:Int.subNatNat m (m+(k+1))=Int.negSucc k:=by rw[Int.subNatNat_eq_coe];omega
   rw[e,L.gm,L.ni,<-L.kA,L.jy,L.uE];rfl
 . obtain⟨k,rfl⟩:∃k,m=n+k:=⟨m-n,zO⟩;have e:Int.subNatNat (n+k) n=Int.ofNat k:=by rw[Int.subNatNat_eq_coe,Int.ofNat_eq_natCast];omega
   rw[e,L.gm,L.pH (fu z a n),L.kA,L.jy,L.jb];rfl
def sZ(a:α):∀m n:Int,gY z a (m+n)=gY z a m+gY z a n
 | .ofNat m,.ofNat n=>L.gm a m n
 | .ofNat m,.negSucc n=>L.sY a m (n+1)
 | .negSucc m,.ofNat n=>by
   rw[L.pH];exact L.sY a n (m+1)
 | .negSucc m,.negSucc n=>by
   show-fu z a (m+n+1+1)=- fu z a (m+1)+- fu z a (n+1);rw[<-L.ni,<-L.gm];congr 2;omega
def np(a:α)(m:Int):gY z a (-m)=- gY z a m:=by
 refine L.pJ ?_;rw[<-L.sZ];have:m+-m=0:=zO;rw[this];rfl
def ta(a:α):gY z a 1=a:=L.uE a
def pK(a b:α):∀m:Int,gY z a m*b=gY z (a*b) m
 | .ofNat m=>L.nk a b m
 | .negSucc m=>by
   show-fu z a (m+1)*b=- fu z (a*b) (m+1);rw[L.Ia,L.nk]
def Ca(a:α):∀m n:Int,gY z (gY z a m) n=gY z a (m*n)
 | .ofNat m,.ofNat n=>L.iI a m n
 | .ofNat m,.negSucc n=>by
   show-fu z (fu z a m) (n+1)=_;have e:Int.ofNat m*Int.negSucc n=-((m*(n+1):Nat):Int):=by
    rw[Int.negSucc_eq,Int.ofNat_eq_natCast,Int.mul_neg,Ug];rfl
   rw[e,L.np,L.iI];rfl
 | .negSucc m,.ofNat n=>by
   show fu z (- fu z a (m+1)) n=_;have e:Int.negSucc m*Int.ofNat n=-(((m+1)*n:Nat):Int):=by
    rw[Int.negSucc_eq,Int.ofNat_eq_natCast,Int.neg_mul,Ug];rfl
   rw[e,L.np,L.nm,L.iI];rfl
 | .negSucc m,.negSucc n=>by
   show-fu z (- fu z a (m+1)) (n+1)=_;have e:Int.negSucc m*Int.negSucc n=(((m+1)*(n+1):Nat):Int):=by
    rw[Int.negSucc_eq,Int.negSucc_eq,Int.neg_mul_neg,Ug];rfl
   rw[e,L.nm,L.H9,L.iI];rfl
def tc(n:Nat):∀p:List Nat,gZ z o ρ (uC n p)=ρ.getD n z*gZ z o ρ p
 | []=>rfl
 | k :: p=>by
   unfold uC;split;rfl
   . show ρ.getD k z*gZ z o ρ (uC n p)=ρ.getD n z*(ρ.getD k z*gZ z o ρ p);rw[tc n p,L.XZ]
def td(q:List Nat):∀p:List Nat,gZ z o ρ (xD p q)=gZ z o ρ p*gZ z o ρ q
 | []=>by
   show gZ z o ρ q=o*gZ z o ρ q;rw[L.kB,L.H8]
 | n :: p=>by
   show gZ z o ρ (uC n (xD p q))=ρ.getD n z*gZ z o ρ p*gZ z o ρ q;rw[L.tc,td q p,L.B7]
def nr(p:List Nat)(c:Int):∀a:Pn,gV z o ρ (ng p c a)=gY z (gZ z o ρ p) c+gV z o ρ a
 | []=>by
   unfold ng;split;rename_i h;subst h;show z=z+z;rw[L.jb]
   rfl
 | (q,d) :: r=>by
   unfold ng;split
   . rename_i h;subst h;show _=gY z (gZ z o ρ p) c+(gY z (gZ z o ρ p) d+gV z o ρ r);rw[<-L.kA,<-L.sZ];split;rename_i h;rw[h,XY,L.uE];rfl
   . split
     . split;rename_i h;subst h;rw[XY,L.uE];rfl
     . show gY z (gZ z o ρ q) d+gV z o ρ (ng p c r)=gY z (gZ z o ρ p) c+(gY z (gZ z o ρ q) d+gV z o ρ r);rw[nr p c r,L.Ed]
def jN(b:Pn):∀a:Pn,gV z o ρ (nh a b)=gV z o ρ a+gV z o ρ b
 | []=>(L.uE _).symm
 | (p,c) :: a=>by
   show gV z o ρ (ng p c (nh a b))=gY z (gZ z o ρ p) c+gV z o ρ a+gV z o ρ b;rw[L.nr,jN b a,L.kA]
def nt:∀a:Pn,gV z o ρ (uD a)=- gV z o ρ a
 | []=>L.YB.symm
 | (p,c) :: a=>by
   show gY z (gZ z o ρ p) (-c)+gV z o ρ (uD a)=-(gY z (gZ z o ρ p) c+gV z o ρ a);rw[L.np,nt a,L.ni]
def pL(p:List Nat)(c:Int):∀a:Pn,gV z o ρ (pI p c a)=gY z (gZ z o ρ p) c*gV z o ρ a
 | []=>(L.B9 _).symm
 | (q,d) :: r=>by
   show gV z o ρ (ng (xD p q) (c*d) (pI p c r))=gY z (gZ z o ρ p) c*(gY z (gZ z o ρ q) d+gV z o ρ r);rw[L.nr,pL p c r,L.xC,L.td];congr 1;rw[L.pK,L.kB (gZ z o ρ p) (gY z (gZ z o ρ q) d),L.pK,L.Ca,L.kB (gZ z o ρ q),Int.mul_comm]
def te(b:Pn):∀a:Pn,gV z o ρ (xE a b)=gV z o ρ a*gV z o ρ b
 | []=>(L.YA _).symm
 | (p,c) :: a=>by
   show gV z o ρ (nh (pI p c b) (xE a b))=(gY z (gZ z o ρ p) c+gV z o ρ a)*gV z o ρ b;rw[L.jN,L.pL,te b a,L.Ee]
def iJ:∀e:Ex,gV z o ρ e.nf=e.ev z o ρ
 | .v k=>by
   show gY z (ρ.getD k z*o) 1+z=ρ.getD k z;rw[L.jb,L.ta,L.H8]
 | .o=>rfl
 | .i=>by
   show gY z o 1+z=o;rw[L.jb,L.ta]
 | .a x y=>by
   show gV z o ρ (nh x.nf y.nf)=x.ev z o ρ+y.ev z o ρ;rw[L.jN,iJ x,iJ y]
 | .m x y=>by
   show gV z o ρ (xE x.nf y.nf)=x.ev z o ρ*y.ev z o ρ;rw[L.te,iJ x,iJ y]
 | .n x=>by
   show gV z o ρ (uD x.nf)=- x.ev z o ρ;rw[L.nt,iJ x]
 | .s x y=>by
   show gV z o ρ (nh x.nf (uD y.nf))=x.ev z o ρ-y.ev z o ρ;rw[L.jN,L.nt,iJ x,iJ y,L.B8]
end RL
def cmb:List (Ex×Ex×Ex)->Ex
 | []=>.o
 | (q,l,r) :: t=>.a (.m q (.s l r)) (cmb t)
def Hyp(z o:α)(ρ:List α):List (Ex×Ex×Ex)->Prop
 | []=>True
 | (_,l,r) :: t=>l.ev z o ρ=r.ev z o ρ/\Hyp z o ρ t
def Mr:Pn->Pn->Bool
 | [],[]=>true
 | (p,c) :: a,(q,d) :: b=>p==q&&c==d&&Mr a b
 | _,_=>false
def xF:∀{a b:Pn},Mr a b=true->a=b
 | [],[],_=>rfl
 | (p,c) :: a,(q,d) :: b,h=>by
   unfold Mr at h;simp only[Bool.and_eq_true,beq_iff_eq]at h;rw[h.1.1,h.1.2,xF h.2]
 | [],_ :: _,h=>by simp[Mr]at h
 | _ :: _,[],h=>by simp[Mr]at h
def RL.xG(L:RL α z o){ρ:List α}:∀{t:List (Ex×Ex×Ex)},Hyp z o ρ t->(cmb t).ev z o ρ=z
 | [],_=>rfl
 | (q,l,r) :: t,h=>by
   show q.ev z o ρ*(l.ev z o ρ-r.ev z o ρ)+(cmb t).ev z o ρ=z;rw[h.1,L.B8,L.jy,L.B9,L.xG h.2,L.jb]
def RL.gA(L:RL α z o)(ρ:List α)(x y:Ex)(t:List (Ex×Ex×Ex))(hc:Mr (Ex.s x y).nf (cmb t).nf=true)(h:Hyp z o ρ t):x.ev z o ρ=y.ev z o ρ:=by
 have h1:(Ex.s x y).ev z o ρ=z:=by
  rw[<-L.iJ,xF hc,L.iJ,L.xG h]
 have h2:x.ev z o ρ+- y.ev z o ρ=z:=by rw[<-L.B8];exact h1
 refine L.cancel (c:=- y.ev z o ρ) ?_;rw[h2,L.jy]
end
end Rng
end

section
namespace Den
open Go Iv Pq
def YC{f g:Nat->Rat}:conv f g 0=f 0*g 0:=by
 unfold conv;rw[dc,iA,Rat.zero_add]
def zv1{f g:Nat->Rat}{n:Nat}:conv f g (n+1)=f 0*g (n+1)+conv (λi=>f (i+1)) g n:=by
 unfold conv;rw[jJ];congr 1;exact cG λi _=>by rw[Nat.add_sub_add_right]
def Zdk{a:Rat}{f g h:Nat->Rat}:∀{n:Nat},conv (λi=>a*f i+g i) h n=a*conv f h n+conv g h n:=by
 intro n;rw[di,di (f:=f),di (f:=g)];unfold conv;rw[<-rL,<-mR];exact cG λi _=>by grind
def zpc:∀{n:Nat} {f g h:Nat->Rat},conv (conv f g) h n=conv f (conv g h) n
 | 0,f,g,h=>by rw[YC,YC,YC,YC,Rat.mul_assoc]
 | n+1,f,g,h=>by
   rw[zv1,zv1 (f:=f),zv1 (f:=g),YC];have e:(λi=>conv f g (i+1))=λi=>f 0*g (i+1)+conv (λi=>f (i+1)) g i:=by
    funext i;exact zv1
   rw[e,Zdk (f:=λi=>g (i+1)),zpc (n:=n)]
   grind
structure PS where
 c:Nat->Rat
namespace PS
def ext{a b:PS}(h:∀n,a.c n=b.c n):a=b:=by
 obtain⟨f⟩:=a;obtain⟨g⟩:=b;congr 1;funext n;exact h n
def dW(r:Rat):PS:=⟨λn=>if n=0 then r else 0⟩
instance:Add PS:=⟨λa b=>⟨λn=>a.c n+b.c n⟩⟩
instance:Mul PS:=⟨λa b=>⟨conv a.c b.c⟩⟩
instance:Neg PS:=⟨λa=>⟨λn=>-(a.c n)⟩⟩
instance:_root_.Sub PS:=⟨λa b=>⟨λn=>a.c n-b.c n⟩⟩
instance:NatCast PS:=⟨λn=>dW n⟩
instance:IntCast PS:=⟨λn=>dW n⟩
instance (n:Nat):OfNat PS n:=⟨dW (n:Rat)⟩
def pw(a:PS):Nat->PS
 | 0=>dW 1
 | n+1=>pw a n*a
instance:HPow PS Nat PS:=⟨pw⟩
instance:SMul Nat PS:=⟨λn a=>dW n*a⟩
instance:SMul Int PS:=⟨λn a=>dW n*a⟩
def xH(a b:PS)(n:Nat):(a+b).c n=a.c n+b.c n:=rfl
def tg(a b:PS)(n:Nat):(a*b).c n=conv a.c b.c n:=rfl
def YD(a:PS)(n:Nat):(-a).c n=-(a.c n):=rfl
def gH(r:Rat)(n:Nat):(dW r).c n=if n=0 then r else 0:=rfl
def rW(r:Rat)(a:PS)(n:Nat):(dW r*a).c n=r*a.c n:=by
 rw[tg];have e:r*a.c n=(dW r).c 0*a.c (n-0):=by rw[gH,if_pos rfl,Nat.sub_zero]
 rw[e];unfold conv;exact kn (k:=0) zO λi _ hi=>by rw[gH,if_neg hi,Rat.zero_mul]
def mo(a b:PS):a*b=b*a:=ext λn=>di
def lk:Rng.RL PS 0 1 where
 jb a:=ext λn=>by
  show a.c n+(dW ((0:Nat):Rat)).c n=a.c n;rw[gH];split<;>exact Rat.add_zero _
 pH a b:=ext λn=>Rat.add_comm _ _
 kA a b c:=ext λn=>Rat.add_assoc _ _ _
 B7 a b c:=ext λn=>zpc
 H8 a:=by rw[mo];exact ext λn=>by
                   show(dW ((1:Nat):Rat)*a).c n=a.c n;rw[rW];exact Rat.one_mul _
 xC a b c:=ext λn=>pq
 jy a:=ext λn=>by
  show a.c n+-(a.c n)=(dW ((0:Nat):Rat)).c n;rw[gH];have:((0:Nat):Rat)=0:=rfl;rw[this];split<;>exact Rat.add_neg_cancel _
 B8 a b:=ext λn=>Rat.sub_eq_add_neg _ _
 kB:=mo
def gW(n:Nat):(0:PS).c n=0:=by
 show(dW ((0:Nat):Rat)).c n=0;rw[gH];split<;>rfl
def YE(n:Nat):(1:PS).c n=if n=0 then 1 else 0:=rfl
def d(a:PS):PS:=⟨BG a.c⟩
def th(a b:PS):d (a*b)=d a*b+a*d b:=ext λn=>wX
def xI{f:Nat->Rat}(h:∃n,f n≠0):∃k,f k≠0/\∀i,i<k->f i=0:=by
 obtain⟨n,hn⟩:=h;induction n using Nat.strongRecOn with
 | _ n ih=>
   by_cases hh:∃m,m<n/\f m≠0;obtain⟨m,h1,h2⟩:=hh;exact ih m h1 h2;exact⟨n,hn,λi hi=>Uu λh=>hh ⟨i,hi,h⟩⟩
def mul_eq_zero{a b:PS}(h:a*b=0):a=0\/b=0:=by
 by_cases ha:∃n,a.c n≠0
 . by_cases hb:∃n,b.c n≠0
   . exfalso;obtain⟨i,h1,h2⟩:=xI ha;obtain⟨j,h3,h4⟩:=xI hb;have e:(a*b).c (i+j)=a.c i*b.c j:=by
      rw[tg];have e2:a.c i*b.c j=a.c i*b.c (i+j-i):=by rw[Gz]
      rw[e2];unfold conv;refine kn (k:=i) (f:=λk=>a.c k*b.c (i+j-k)) zO λk hk cd=>?_
      rcases Jx k i with hlt | nD
      rw[h2 k hlt,Rat.zero_mul];rw[h4 (i+j-k) zO,Rat.mul_zero]
     rw[h,gW]at e;rcases Rat.mul_eq_zero.1 e.symm with h5 | h5
     exact h1 h5;exact h3 h5
   right;exact ext λn=>by rw[gW];exact Uu λhh=>hb ⟨n,hh⟩
 left;exact ext λn=>by rw[gW];exact Uu λhh=>ha ⟨n,hh⟩
def cancel{a b c:PS}(ha:a≠0)(h:a*b=a*c):b=c:=by
 have:a*(b-c)=0:=by exact lk.gA ([a,b,c]:List PS) (.m (.v 0) (.s (.v 1) (.v 2))) .o [(.i,(.m (.v 0) (.v 1)),(.m (.v 0) (.v 2)))] (by decide +kernel) ⟨h,trivial⟩
 rcases mul_eq_zero this with h1 | h1
 exact absurd h1 ha;exact lk.gA ([b,c]:List PS) (.v 0) (.v 1) [(.i,(.s (.v 0) (.v 1)),.o)] (by decide +kernel) ⟨h1,trivial⟩
def Dg(n:Nat)(a:PS):Prop:=∀i,n<=i->a.c i=0
def Fs(a:PS):Prop:=∃n,Dg n a
def Fs.add{a b:PS}(ha:Fs a)(hb:Fs b):Fs (a+b):=by
 obtain⟨n,hn⟩:=ha;obtain⟨m,hm⟩:=hb;exact⟨n+m,λi hi=>by rw[xH,hn i zO,hm i zO,Rat.add_zero]⟩
def Fs.neg{a:PS}(ha:Fs a):Fs (-a):=by
 obtain⟨n,hn⟩:=ha;exact⟨n,λi hi=>by rw[YD,hn i hi,Rat.neg_zero]⟩
def Fs.sub{a b:PS}(ha:Fs a)(hb:Fs b):Fs (a-b):=by
 have:a-b=a+-b:=by exact lk.gA ([a,b]:List PS) (.s (.v 0) (.v 1)) (.a (.v 0) (.n (.v 1))) [] (by decide +kernel) trivial
 rw[this];exact ha.add hb.neg
def Fs.mul{a b:PS}(ha:Fs a)(hb:Fs b):Fs (a*b):=by
 obtain⟨n,hn⟩:=ha;obtain⟨m,hm⟩:=hb;exact⟨n+m,λi hi=>iC hn hm zO⟩
def Fs.dW(r:Rat):Fs (dW r):=⟨1,λi hi=>by rw[gH,if_neg zO]⟩
def Fs.d{a:PS}(ha:Fs a):Fs (d a):=by
 obtain⟨n,hn⟩:=ha;exact⟨n,λi hi=>by show BG _ i=0;unfold BG;rw[hn (i+1) zO,Rat.mul_zero]⟩
end PS
end Den
end
