/-
  Part 4 of the tools and contracts from which the statement is proved.
-/
import Derived.Test.YtijmjfcnjfnpgaaGreatDoorPartq3
import Derived.Test.YtijmjfcnjfnpgaaGreatDoorChecked
import Derived.Test.YtijmjfcnjfnpgaaGreatDoorTie
import Derived.LaidMore
import Derived.MakeChecks
import Derived.SevenTiedAt
import Derived.Lib.Bytealg
set_option linter.all false
open Go.IntKind
section
namespace Den
open Go Iv Lx
section
variable {h0 h : Hp} {x y : Sl} {l : List Nat} {Ks : Sl → Hp → Prop} {Kt : ByteArray → Hp → Prop} {n : Nat}
theorem BLD.rebase{h':Hp}(hb:BLD h0 h n [])(hl:h.le h'):BLD (h'.del n) h' n []:=by
 obtain⟨q,x,h1,h2,h3,h4,h5,h6⟩:=hb
 have ha:x.a=none:=h6.elim id λhh=>absurd rfl hh
 refine⟨q,x,hl _ _ h1,h2,Hp.del_same _ _,⟨⟨Hp.del_le _ _,h4.1.2.1,h4.1.2.2.1,?_⟩,λa b hh=>by rw[ha]at hh;cases hh⟩,h5,h6⟩
 have:=h4.1.2.2.2
 rw[ha]at this |-;exact this
theorem BLD.beside{α:Type}{D:Hp}{l:List UInt8}{G:(α->Hp->Prop)->Hp->Prop}{K1 K:α->Hp->Prop}(hb:BLD D h n l)(H:zc G K1 D)(k:∀v D' h',D.le D'->BLD D h' n l->K1 v D'->K v h'):zc G K h:=by
 refine ze2 hb.hle H λv D' h' l1 l2 hfr hv=>k v D' h' l1 ?_ hv
 obtain⟨q,x,h1,h2,h3,h4,h5,h6⟩:=hb
 have hn:=hfr n h3 (by rw[h1];simp)
 refine⟨q,x,by rw[hn.2];exact h1,h2,h3,⟨(h4.1.move l2 hfr).base l1,λa b ha hab=>?_⟩,h5,h6⟩
 obtain⟨_,_,_,g4⟩:=h4.1
 rw[ha]at g4
 obtain⟨k1,k2,k3,b2,k4,k5⟩:=g4
 have:=(hfr a.block k3 (by rw[k4];simp)).2
 rw[this]at hab
 exact h4.2 a b ha hab
theorem Zd5{b:Nat}{h h':Hp}(hl:h.le h')(hb:h b=none):h.le (h'.del b):=λk c hk=>by
 have hn:k≠b:=λhh=>by rw[hh,hb]at hk;cases hk
 unfold Hp.del
 rw[if_neg hn];exact hl k c hk
def chl(cs:List Nat):Nat:=match cs.getLast? with
 | none=>0
 | some c=>dg9 c+9*(cs.length-1)
theorem zyh(cs:List Nat)(c:Nat):chl (cs++[c])=dg9 c+9*cs.length:=by unfold chl;simp
theorem zkx{C:Sl}{cs:List Nat}{p:Nat}(hC:RdW h C cs)(hcs:∀c∈cs,c<1000000000)(hlen:cs.length<=2000)(hne:cs≠[])(ht:P10 h)(hb:BLD h h0 p [])
 (H:∀s h',h.le h'->s.size=chl cs->Kt s h') :
 zc (F.yt C) (λr15 h10=>
 (zu6 (S:=Unit) (.leaf (.int .u32)) r15 (λi16 v17 s18 k19 h11=>
 (zc (F.Wh (u64.wrap (v17)) 10) (λr21 h13=>
 (z8 (S:=Unit) (λs22 h14=>
 (Y3 (F.Zs (some ⟨p,0,none⟩) r21) (λr24 h15=>
 (k19 () h15)) h14))
 (λk23=>
 (ifP (decide (i16<(i64.wrap ((C.len:Int)-1))))
 (zc (F.Vg ⟨#[48]⟩ (i64.wrap (9-((r21:ByteArray).size:Int)))) (λr25 h16=>
 (Y3 (F.Zs (some ⟨p,0,none⟩) r25) (λr26 h17=>
 (k23 () h17)) h16)) h13)
 (k23 () h13))))) h11))
 () (λs20 h12=>
 (Y3 (F.X1 (some ⟨p,0,none⟩)) (λr27 h18=>
 (Kt r27 h18)) h12)) h10)) h0:=by
  have hCl:=hC.len
  refine zd (λ(a:Addr) h'=>h'.cell a=some (.slice C.a C.len C.cap)/\a.block≠p) (λK' hk=>?_) λa h1 l1 ⟨ha,han⟩=>?_
  . unfold F.yt
    intro b e hbf
    refine hk _ _ (Hp.le_ins hbf) ⟨?_,λhh=>?_⟩
    . unfold Hp.cell
      simp[Hp.ins_same]
    . obtain⟨q,x,g1,_⟩:=hb
      have hh2:b=p:=hh
      rw[<-hh2,hbf]at g1;cases g1
  . have hp0:h p=none:=by obtain⟨q,x,g1,g2,g3,_⟩:=hb;exact g3
    have hb1:=hb.rebase l1
    have hD:h.le (h1.del p):=Zd5 (Hp.le_trans hb.hle l1) hp0
    obtain⟨D,hDe⟩:∃D,D=h1.del p:=⟨_,rfl⟩
    rw[<-hDe]at hb1 hD
    have hCD:=hC.le hD
    have htD:=ht.le hD
    have haD:D.cell a=some (.slice C.a C.len C.cap):=by
     rw[hDe]
     unfold Hp.cell Hp.del at *
     simp only[if_neg han]
     exact ha
    obtain⟨f,hf⟩:∃f:Nat->Nat,f=λk=>if k=cs.length then 0 else dg9 (cs.getLastD 0)+9*(cs.length-1-k):=⟨_,rfl⟩
    refine⟨C,λk s h'=>k<=cs.length/\∃l,BLD D h' p l/\l.length=f k,by omega,⟨by omega,[],hb1,by rw[hf];simp[hCl]⟩,λi s h' hI=>?_,λi s h' hi hI=>?_,λs h' hI=>?_⟩
    . obtain⟨_,l,hl,_⟩:=hI
      exact Hp.cell_le hl.hle haD
    . obtain⟨hk,l,hl,hll⟩:=hI
      have hi':i<cs.length:=by omega
      have hr':=hCD.le hl.hle
      have h2:=hr'.1.2
      cases hxa:C.a with
      | none=>
        rw[hxa]at h2
        simp only[Z0]at h2
        split at h2
        . rename_i h3;rw[z7l]at h3;omega
        . cases h2
      | some ad=>
        rw[hxa]at h2
        simp only[Z0]at h2
        have hc9:=hcs _ (List.getElem_mem hi')
        refine⟨ad,(cs[i]:Int),rfl,λj u hj=>?_,?_⟩
        . have hj0:j=0:=by
           rcases Nat.eq_zero_or_pos j with h3 | h3
           . exact h3
           . exfalso
             have:((STy.leaf (.int .u32)).cells (cs[i]:Int))[j]?=none:=by
              apply List.getElem?_eq_none
              simp only[STy.cells,List.length_singleton];omega
             rw[this]at hj;cases hj
          subst hj0
          simp only[STy.cells,List.getElem?_cons_zero,Option.some.injEq]at hj
          subst hj
          refine z2c h2 _ _ ?_
          simp[wc,STy.size,hi',Lf.up]
        . have hfs:l.length<=20000:=by
           rw[hll,hf]
           have:=ze7 (cs.getLastD 0)
           simp only
           split<;>omega
          simp only
          rw[show u64.wrap (cs[i]:Int)=((cs[i]:Nat):Int) from z84 (by omega)]
          refine hl.beside (K1:=λ(s:ByteArray) _=>s.size=dg9 cs[i]) (zfz htD hc9 λs h' _ hs=>hs) λs D3 h3 _ hb3 hs=>?_
          . have d9:=ze7 cs[i]
            refine zk (λ_ h''=>∃l2,BLD D h'' p l2/\l2.length+dg9 cs[i]=f i) ?_ ?_
            . rintro _ h4 ⟨l2,hb4,hl4⟩
              refine zgj hb4 (by rw[hf]at hl4;have:=ze7 (cs.getLastD 0);simp only at hl4;split at hl4<;>omega) (λhh=>by have:=z3k s;rw[hh]at this;simp at this;omega) (by omega) λh5 hb5=>⟨by omega,_,hb5,?_⟩
              rw[List.length_append,z3k,hs];exact hl4
            . have e1:i64.wrap ((C.len:Int)-1)=(cs.length:Int)-1:=by rw[hCl,w64 (by omega)]
              rw[e1]
              have elast:i+1=cs.length->cs.getLastD 0=cs[i]:=λhh=>by
               rw[List.getLastD_eq_getLast?,List.getLast?_eq_getElem?]
               have:cs.length-1=i:=by omega
               rw[this,List.getElem?_eq_getElem hi'];rfl
              refine ze (λh5=>?_) (λh5=>?_)
              . rw[show i64.wrap (9-((s.size:Nat):Int))=((9-s.size:Nat):Int) from by rw[w64 (by omega)];omega]
                refine hb3.beside (K1:=λ(t:ByteArray) _=>t.size=9-s.size) (zf1 (by omega) λs h' _ hs=>hs) λt D6 h6 _ hb6 ht6=>?_
                . refine zg0 hb6 (by omega) (.inr λhh=>?_) (by omega) λh7 hb7=>⟨_,hb7,?_⟩
                  . subst hh
                    rw[hf]at hll
                    simp only[List.length_nil]at hll
                    rw[if_neg (by omega)]at hll
                    have:=ze7 (cs.getLastD 0);omega
                  . rw[List.length_append,z3k,hll,ht6,hs,hf]
                    simp only
                    rw[if_neg (by omega),if_neg (by omega)];omega
              . refine⟨l,hb3,?_⟩
                have hi1:i+1=cs.length:=by omega
                rw[hll,hf]
                simp only
                rw[if_pos hi1,if_neg (by omega),elast hi1];omega
    . obtain⟨_,l,hl,hll⟩:=hI
      have hfs:l.length=chl cs:=by
       rw[hll,hf]
       simp only
       have hne0:¬0=cs.length:=λhh=>hne (List.eq_nil_of_length_eq_zero hh.symm)
       rw[if_neg hne0]
       unfold chl
       rw[List.getLastD_eq_getLast?]
       cases hg:cs.getLast? with
       | none=>exact absurd (List.getLast?_eq_none_iff.1 hg) hne
       | some c=>simp
      refine zvn hl (by rw[hll,hf];have:=ze7 (cs.getLastD 0);simp only;split<;>omega) λh5 hl5=>H _ _ (Hp.le_trans hD hl5) ?_
      show l.toArray.size=_
      simpa using hfs
end
end Den
end

section
namespace Den
open Go Iv Lx
theorem Zix(e:Nat):W ^ e=2 ^ (32*e):=by rw[Ziv,Nat.pow_mul]
theorem Ziw(e:Nat):W ^ e<=10 ^ (10*e):=by
 rw[Nat.pow_mul]
 exact Nat.pow_le_pow_left (by rw[Ziv];decide) e
theorem Zc6{n E:Nat}(hE:E=32*50)(h:(dg n).length<=50):n<2 ^ E:=by
 have h1:=Xp.1 h
 have h2:=Zix 50
 rw[<-hE]at h2
 rw[h2]at h1
 exact h1
theorem Zc4{n:Nat}(h:(dg n).length<=50):dgt n<=1000:=by
 obtain⟨E,hE⟩:∃E,E+1=10*50:=⟨499,rfl⟩
 have h1:=Xp.1 h
 have h2:=Ziw 50
 rw[<-hE]at h2
 have:=zyu (n:=n) (k:=E) (Nat.lt_of_lt_of_le h1 h2)
 omega
section
variable {h0 h : Hp} {x y : Sl} {l : List Nat} {Ks : Sl → Hp → Prop} {Kt : ByteArray → Hp → Prop} {n : Nat} {a : TInt}
theorem zn1(ha:NI h a (n:Int))(hl:(dg n).length<=50)(ht:P10 h)(H:∀s h',h.le h'->s.size=dgt n->Kt s h'):zc (F.z2x a) Kt h:=by
 refine zd (λs h'=>s.size=dgt n) (λK' hk=>?_) λs h' hl hs=>H s h' hl hs
 unfold F.z2x
 have hneg:=ha.2
 rw[decide_eq_false (by omega)]at hneg
 have ha1:=ha.1
 rw[Int.natAbs_natCast]at ha1
 refine zce ha1 (by omega) λr1 hr1=>?_
 refine z9g hr1 (by omega) λr2 h2 ho2=>?_
 have hl2:=ho2.1
 have len2:=qi.len ho2
 refine zz (λh3=>hk _ _ hl2 ?_) (λh3=>?_)
 . have:n=0:=by
    rw[<-z2r]
    exact List.eq_nil_of_length_eq_zero (by omega)
   subst this
   rw[z3m (by decide)];rfl
 . have hn0:n≠0:=λhh=>h3 (by rw[len2,z2r.2 hh];rfl)
   refine zd3 (λV st h'=>∃cs:List Nat,qi h h' st.1 (dg V)/\qi h h' st.2.1.1 cs/\Apt st.1 st.2.1.1/\(∀c∈cs,c<1000000000)/\(dg V).length<=50/\cs.length<=2000/\V*2 ^ cs.length<=n /\
    ((0<V/\dgt n=dgt V+9*cs.length)\/(V=0/\cs≠[]/\dgt n=chl cs))) (n0:=n)
    ⟨[],ho2,Own.nil hl2,(λa b h1 h2=>by cases h2),by simp,hl,by simp,by simp,.inl ⟨by omega,by simp⟩⟩ ?_
   rintro V ⟨m,⟨C,_⟩,_⟩ h4 ⟨cs,hm,hC,hap,hcs,hlen,hlen2,hpw,hcase⟩ K2 hK2
   simp only at hm hC hap
   have lm:=qi.len hm
   refine ze (λh5=>?_) (λh5=>?_)
   . simp only at h5
     have hV:0<V:=by
      rcases Nat.eq_zero_or_pos V with h6 | h6
      . rw[h6,Q0]at lm;simp at lm;omega
      . exact h6
     obtain⟨_,hd⟩:0<V/\dgt n=dgt V+9*cs.length:=hcase.resolve_right λhh=>by omega
     refine Z8c (C:=C) (cc:=wc cs) hm (qu V) (by omega) hC hap (Kf:=λs h4=>zc (F.zv m) (λr10 h6=>Y5 1 4 [.int .u32 0] C 1 [.int .u32 (u32.wrap s)] (λw11 h7=>K2 (r10,(w11,()),()) h7) h6) h4) λh6 ws hw okw hwl hv hC6=>?_
     rw[Yz]at hv
     rw[Yz]
     refine ztw hw (by omega) λr hr hra=>?_
     rw[V4 okw,hv]at hr
     have hr9:V % 1000000000<1000000000:=Nat.mod_lt _ (by decide)
     rw[show u32.wrap ((V % 1000000000:Nat):Int)=((V % 1000000000:Nat):Int) from Zkm (by omega)]
     have lC:=qi.len hC6
     refine zcj hC6 (n:=1) (new:=[Value.int .u32 ((V % 1000000000:Nat):Int)]) rfl rfl rfl (by omega) (by omega) λw h7 hw7 _ hs7 hb7=>?_
     have hap2:Apt w r:=λc d hc hd=>by
      rw[hra]at hd
      rcases hb7 c hc with ⟨a',h8,h9⟩ | h8
      . rw[<-h9];exact(hap d a' hd h8).symm
      . intro hh
        obtain⟨_,_,_,g4⟩:=hw
        rw[hd]at g4
        obtain⟨_,_,_,b,g5,_⟩:=g4
        rw[<-hh,h8]at g5;cases g5
     have hapC:Apt C r:=λc d hc hd=>by rw[hra]at hd;exact(hap d c hd hc).symm
     obtain⟨E,hE⟩:∃E,E=32*50:=⟨_,rfl⟩
     have hk960:cs.length<E:=Nat.not_le.1 λhh=>by
      have g1:=Zc6 hE hl
      have g3:2 ^ E<=2 ^ cs.length:=Nat.pow_le_pow_right (by decide) hh
      have g4:2 ^ cs.length<=V*2 ^ cs.length:=Nat.le_mul_of_pos_left _ hV
      exact absurd (Nat.le_trans g3 (Nat.le_trans g4 hpw)) (Nat.not_le.2 g1)
     have hlt:V/1000000000<V:=Nat.div_lt_self hV (by decide)
     refine hK2 (V/1000000000) _ _ hlt ⟨cs++[V % 1000000000],zor hr hapC hs7 hw7.1,?_,hap2.symm,?_,?_,?_,?_,?_⟩
     . show qi _ _ _ _
       unfold qi
       rw[show wc (cs++[V % 1000000000])=wc cs++[Value.int .u32 ((V % 1000000000:Nat):Int)]by unfold wc;rw[List.map_append];rfl]
       exact hw7
     . intro c hc
       rcases List.mem_append.1 hc with hc | hc
       . exact hcs c hc
       . rw[List.mem_singleton.1 hc];exact hr9
     . rw[Xp]at hlen |-
       exact Nat.lt_of_le_of_lt (Nat.le_of_lt hlt) hlen
     . simp;omega
     . rw[List.length_append,List.length_singleton,Nat.pow_succ]
       have h8:V/1000000000*2<=V:=by omega
       have h9:=Nat.mul_le_mul_right (2 ^ cs.length) h8
       have h10:V/1000000000*(2 ^ cs.length*2)=V/1000000000*2*2 ^ cs.length:=by rw[Nat.mul_comm (2 ^ cs.length) 2,Nat.mul_assoc]
       rw[h10];omega
     . by_cases h8:1000000000<=V
       . left
         refine⟨Nat.div_pos h8 (by decide),?_⟩
         rw[hd,Z8a h8,List.length_append,List.length_singleton];omega
       . right
         refine⟨Nat.div_eq_of_lt (by omega),by simp,?_⟩
         rw[hd,zyh,Nat.mod_eq_of_lt (by omega),Zj2 (by omega)]
   . simp only at h5
     have hV:V=0:=by
      rw[<-z2r]
      exact List.eq_nil_of_length_eq_zero (by omega)
     obtain⟨_,hne,hd⟩:=hcase.resolve_left λhh=>by omega
     refine Z8t λp h6 hb6=>?_
     refine zk (λ_ h'=>h'=h6) ?_ ?_
     . rintro _ h7 rfl
       exact zkx (h:=h4) (qi.rdW hC) hcs hlen2 hne (ht.le hC.1) hb6 λs h8 hl8 hs=>hk _ _ (Hp.le_trans hC.1 hl8) (by rw[hs,hd])
     . rw[hneg]
       exact zt rfl rfl
end
end Den
end

section
namespace Den
open Go Iv Lx
theorem z8m{cells:List Value}{K:Addr->Hp->Prop}{h:Hp}
 (H:∀a h',h.le h'->(∀i v,cells[i]?=some v->h'.cell (a.add i)=some v)->K a h'):Yo cells K h:=by
 intro b e hb
 refine H _ _ (Hp.le_ins hb) λi v hv=>?_
 unfold Hp.cell
 rw[Yg,V6 rfl,Xv]
 simpa [Hp.ins_same] using hv
theorem Xy{v:Value}{K:Addr->Hp->Prop}{h:Hp}(H:∀a h',h.le h'->h'.cell a=some v->K a h'):Yo [v] K h:=
 z8m λa h' hl hc=>H a h' hl (by have:=hc 0 v rfl;rwa [Zv]at this)
theorem zf8{h:Hp}{a:Addr}{cells:List Value}(hc:∀i v,cells[i]?=some v->h.cell (a.add i)=some v):∀n,n<=cells.length->Zw h a n=some (cells.take n)
 | 0,_=>by simp[Zw]
 | n+1,hn=>by
   unfold Zw
   rw[zf8 hc n (by omega)]
   simp only
   rw[hc n _ (List.getElem?_eq_getElem (by omega))]
   simp only
   rw[List.take_add_one,List.getElem?_eq_getElem (by omega)]
   rfl
theorem z0g{h:Hp}{a:Addr}{cells:List Value}{size n c:Nat}(hc:∀i v,cells[i]?=some v->h.cell (a.add i)=some v)(hn:n*size=cells.length):Rd h size ⟨some a,n,c⟩ cells:=by
 refine⟨hn,?_⟩
 show Zw h a cells.length=_
 rw[zf8 hc _ (Nat.le_refl _),List.take_length]
theorem zc4{cells:List Value}{K:Addr->Hp->Prop}{h:Hp}(size n:Nat)(hn:n*size=cells.length)(H:∀a h',h.le h'->Rd h' size ⟨some a,n,n⟩ cells->K a h'):Yo cells K h:=
 z8m λa h' hl hc=>H a h' hl (z0g hc hn)
section
variable {α β : Type}
def LR(c:α->List Value)(n:Nat)(P:Hp->α->β->Prop)(h:Hp)(l:Sl)(ps:List β):Prop:=
 ∃xs:List α,Rd h n l (xs.flatMap c)/\l.len<=l.cap/\xs.length=ps.length/\∀k (h1:k<xs.length) (h2:k<ps.length),P h xs[k] ps[k]
def LO(c:α->List Value)(n:Nat)(P:Hp->α->β->Prop)(D h:Hp)(l:Sl)(ps:List β):Prop:=
 ∃xs:List α,Own D h n l (xs.flatMap c)/\xs.length=ps.length/\∀k (h1:k<xs.length) (h2:k<ps.length),P D xs[k] ps[k]
structure Rec(c:α->List Value)(n:Nat)(P:Hp->α->β->Prop):Prop where
 len:∀x,(c x).length=n
 pos:0<n
 leaf:∀x,(c x).all Value.leaf=true
 mono:∀{h h':Hp} {x:α} {b:β},P h x b->h.le h'->P h' x b
variable {c : α → List Value} {n : Nat} {P : Hp → α → β → Prop} {D h h' : Hp} {l : Sl} {ps : List β}
theorem LR.le(hR:Rec c n P)(hx:LR c n P h l ps)(hl:h.le h'):LR c n P h' l ps:=by
 obtain⟨xs,h1,h2,h3,h4⟩:=hx
 exact⟨xs,h1.le hl,h2,h3,λk k1 k2=>hR.mono (h4 k k1 k2) hl⟩
theorem LR.len(hR:Rec c n P)(hx:LR c n P h l ps):l.len=ps.length:=by
 obtain⟨xs,h1,h2,h3,h4⟩:=hx
 have:=h1.1
 rw[Y4 hR.len]at this
 rw[<-h3]
 exact Nat.eq_of_mul_eq_mul_right hR.pos this
theorem LR.nil:LR c n P h zf []:=⟨[],Rd.nil,Nat.le_refl _,rfl,λk h1 _=>by simp at h1⟩
theorem LR.get{i:Int}{K:Addr->Prop}(hR:Rec c n P)(hx:LR c n P h l ps)(k:Nat)(hi:i=k)(hk:k<ps.length)
 (H:∀a x,P h x ps[k]->(∀j v,(c x)[j]?=some v->h.cell (a.add j)=some v)->K a):zg l i n K:=by
 obtain⟨xs,h1,h2,h3,h4⟩:=hx
 refine zde hR.len hR.pos h1 k hi (by omega) λa ha=>H a xs[k] (h4 k (by omega) hk) λj v hv=>ha j v ?_ hv
 have:=(List.getElem?_eq_some_iff.1 hv).1
 rwa [hR.len]at this
theorem LO.lr(hR:Rec c n P)(hx:LO c n P D h l ps):LR c n P h l ps:=by
 obtain⟨xs,h1,h3,h4⟩:=hx
 exact⟨xs,h1.rd,h1.2.2.1,h3,λk k1 k2=>hR.mono (h4 k k1 k2) h1.1⟩
theorem LO.dle(hx:LO c n P D h l ps):D.le h:=by obtain⟨xs,h1,_⟩:=hx;exact h1.1
theorem LO.nil:LO c n P h h zf []:=⟨[],Own.nil (Hp.le_refl _),rfl,λk h1 _=>by simp at h1⟩
theorem LO.len(hR:Rec c n P)(hx:LO c n P D h l ps):l.len=ps.length:=(hx.lr hR).len hR
theorem LO.call{γ:Type}{G:(γ->Hp->Prop)->Hp->Prop}{K1 K:γ->Hp->Prop}(hR:Rec c n P)(hx:LO c n P D h l ps)(H:zc G K1 D)
 (k:∀v D' h',D.le D'->LO c n P D' h' l ps->K1 v D'->K v h'):zc G K h:=by
 obtain⟨xs,h1,h3,h4⟩:=hx
 exact h1.call H λv D' h' g1 g2 g3=>k v D' h' g1 ⟨xs,g2,h3,λk k1 k2=>hR.mono (h4 k k1 k2) g1⟩ g3
theorem LO.app{Ks:Sl->Hp->Prop}{x:α}{b:β}{bytes:Nat}{zero:List Value}(hR:Rec c n P)(hx:LO c n P D h l ps)(hz:zero.length=n)(hlen:(ps.length+1)*bytes<=140737488355328)(hlen2:ps.length+1<=140737488355328)
 (hp:P D x b) (H:∀y h',LO c n P D h' y (ps++[b])->Ks y h'):Y5 n bytes zero l 1 (c x) Ks h:=by
 have hl:=hx.len hR
 obtain⟨xs,h1,h3,h4⟩:=hx
 refine z43 h1 (n:=1) (new:=c x) (by rw[hR.len];omega) hz (hR.leaf x) (by rw[hl];exact hlen) (by rw[hl];exact hlen2) λy h' hy hyl=>H y h' ⟨xs++[x],?_,by simp[h3],λk k1 k2=>?_⟩
 . rw[List.flatMap_append]
   simp only[List.flatMap_cons,List.flatMap_nil,List.append_nil]
   exact hy
 . rcases Nat.lt_or_ge k xs.length with h5 | h5
   . rw[List.getElem_append_left h5,List.getElem_append_left (by omega)]
     exact h4 k h5 (by omega)
   . have h6:k=xs.length:=by simp at k1;omega
     subst h6
     rw[List.getElem_append_right (Nat.le_refl _),List.getElem_append_right (by omega)]
     simp only[Nat.sub_self,List.getElem_cons_zero]
     have:xs.length-ps.length=0:=by omega
     simp only[this,List.getElem_cons_zero]
     exact hp
end
theorem zun{n:Int}{len:Nat}{p:Prop}(h0:0<=n)(h1:n<len)(hp:p):zba n len p:=by
 unfold zba
 rw[decide_eq_true ⟨h0,h1⟩];exact hp
def Fnd(g:Int->Prop)(xs:List Int)(r:Int):Prop:=(r=-1/\∀x∈xs,¬g x)\/∃k,∃hk:k<xs.length,r=(k:Int)/\g xs[k]/\∀j (hj:j<xs.length),j<k->¬g xs[j]
theorem Fnd.iff{g:Int->Prop}{xs:List Int}{r:Int}(hf:Fnd g xs r):0<=r↔∃x∈xs,g x:=by
 rcases hf with ⟨rfl,h1⟩ | ⟨k,hk,rfl,h1,_⟩
 . exact⟨λhh=>by omega,λ⟨x,hx,hg⟩=>absurd hg (h1 x hx)⟩
 . exact⟨λ_=>⟨_,List.getElem_mem hk,h1⟩,λ_=>by omega⟩
theorem zd0{h:Hp}{Ki:Int->Hp->Prop}{s:Sl}{xs:List Int}{g:Int->Prop}{G:Int->(Bool->Hp->Prop)->Hp->Prop}(hx:IL h s xs)(hlen:xs.length<=1000000)
 (hG:∀x∈xs,∀h',h.le h'->∀K:Bool->Hp->Prop,(∀b h'',h'.le h''->(b=true↔g x)->K b h'')->zc (G x) K h') (H:∀r h',h.le h'->Fnd g xs r->Ki r h') :
 (zr (S:=Int×Unit) (λs1 k2 h1=>
 (ifP (decide (s1.1<(s.len:Int)))
 (zg s s1.1 1 λa3=>
 (ldL (.int .i64) a3 (λx4=>
 (zc (G x4) (λr5 h2=>
 (ifP r5
 (Ki s1.1 h2)
 (k2 ((i64.wrap (s1.1+1)),()) h2))) h1)) h1))
 (Ki (-1) h1)))
 (0,()) h):=by
  have hl:=hx.len
  refine Y0 (n:=xs.length) (by omega) (λi h'=>h.le h'/\∀j (hj:j<xs.length),j<i->¬g xs[j]) ⟨Hp.le_refl _,λj _ hj=>by omega⟩ ?_
  rintro i h1 hi ⟨hl1,hno⟩ k hk2
  refine ze (λh2=>?_) (λh2=>?_)
  . have hi':i<xs.length:=by simp only at h2;omega
    refine(hx.le hl1).get i rfl hi' ?_
    refine hG _ (List.getElem_mem _) _ hl1 _ λb h3 hl3 hb=>?_
    refine zp (λh4=>H _ _ (Hp.le_trans hl1 hl3) (.inr ⟨i,hi',rfl,hb.1 h4,hno⟩)) (λh4=>hk2 _ hi' ⟨Hp.le_trans hl1 hl3,λj hj hji=>?_⟩)
    rcases Nat.lt_or_ge j i with h5 | h5
    . exact hno j hj h5
    . have:j=i:=by omega
      subst this
      intro hg
      rw[hb.2 hg]at h4;cases h4
  . refine H _ _ hl1 (.inl ⟨rfl,λx hx hg=>?_⟩)
    obtain⟨j,hj,rfl⟩:=List.mem_iff_getElem.1 hx
    exact hno j hj (by simp only at h2;omega) hg
theorem NI.back{h h':Hp}{a:TInt}{n:Int}(ha:AI h a)(hl:h.le h')(hn:NI h' a n):NI h a n:=by
 obtain⟨l,h1,_⟩:=ha
 have:=(h1.le hl).uniq hn.1
 exact⟨by rw[<-this];exact h1,hn.2⟩
def OR(h:Hp)(x:TRat)(v:Option Rat):Prop:=AR h x/\x.num.mag.len<=35184372087808/\x.den.mag.len<=35184372087808/\∀q,NR h x q↔v=some q
theorem OR.le{h h':Hp}{x:TRat}{v:Option Rat}(hx:OR h x v)(hl:h.le h'):OR h' x v:=
 ⟨hx.1.le hl,hx.2.1,hx.2.2.1,λq=>⟨λhq=>(hx.2.2.2 q).1 ⟨hq.1.back hx.1.1 hl,hq.2.back hx.1.2 hl⟩,λhq=>((hx.2.2.2 q).2 hq).le hl⟩⟩
theorem NR.inj{h:Hp}{x:TRat}{p q:Rat}(h1:NR h x p)(h2:NR h x q):p=q:=Rat.ext (h1.1.inj h2.1) (by have:=h1.2.inj h2.2;omega)
theorem NR.ar{h:Hp}{x:TRat}{q:Rat}(hq:NR h x q):AR h x:=⟨⟨_,hq.1.1,qu _⟩,⟨_,hq.2.1,qu _⟩⟩
theorem OR.br{h:Hp}{x:TRat}{q:Rat}{k:Nat}(hx:OR h x (some q))(h1:x.num.mag.len<=k)(h2:x.den.mag.len<=k):BR k q:=Zit ((hx.2.2.2 q).2 rfl) h1 h2
theorem OR.nr{h:Hp}{x:TRat}{q:Rat}(hx:OR h x (some q)):NR h x q:=(hx.2.2.2 q).2 rfl
section
variable {h : Hp} {x : TRat} {v : Option Rat} {Kb : Bool → Hp → Prop}
theorem zgc(hx:OR h x v)(H:∀h',h.le h'->Kb v.isSome h'):zc (F.qv x) Kb h:=
 za5 hx.1 hx.2.1 hx.2.2.1 (λq h' hl hq=>by have:=(hx.2.2.2 q).1 hq;subst this;exact H h' hl)
  (λh' hl hq=>by
    cases v with
    | none=>exact H h' hl
    | some q=>exact absurd ⟨q,(hx.2.2.2 q).2 rfl⟩ hq)
end
end Den
end

section
namespace Den
open Go Iv Lx
def siz(p d:Nat):Nat:=if p=0 then d else max d (p+1)+1
def zja:Nat->Nat->Rat->Bool
 | 0,_,_=>false
 | f+1,p,q=>if q.den=1 then decide (siz p (dgt q.num.natAbs)<=40)else zja f (p+1) (q*((10:Int):Rat))
def zfd(v:Option Rat):Bool:=match v with | none=>false | some q=>decide (0<=q.num)&&zja 40 0 q
theorem zx2{q:Rat}(h:0<=q.num):0<=(q*((10:Int):Rat)).num:=by
 rw[Rat.num_nonneg]at h |-
 exact Rat.mul_nonneg h (by decide)
theorem Z9o:BR 1 ((10:Int):Rat):=⟨by unfold Lt;decide,by unfold Lt;decide⟩
theorem Z56{z:Int}:0<=z.sign↔0<=z:=by
 constructor
 . intro h
   apply Classical.byContradiction
   intro hn
   rw[Int.sign_eq_neg_one_of_neg (by omega)]at h
   omega
 . intro h
   rcases Int.lt_or_eq_of_le h with h | h
   . rw[Int.sign_eq_one_of_pos h];decide
   . rw[<-h];decide
theorem ok_one':Ok 1:=(show Lt 1 1 by unfold Lt;decide).ok (by decide)
section
variable {h : Hp} {x : TRat} {v : Option Rat} {q : Rat} {K : (ByteArray × Bool) → Hp → Prop}
theorem zle(hx:OR h x v)(hb:∀q,v=some q->BR 4 q)(ht:P10 h)(H:∀s h',h.le h'->K (s,zfd v) h'):zc (F.z1v x) K h:=by
 refine zd (λr h'=>r.2=zfd v) (λK' hk=>?_) λr h' hl hs=>by
  obtain⟨s,b⟩:=r
  simp only at hs
  subst hs
  exact H s h' hl
 unfold F.z1v
 refine zk (λ_ h1=>h.le h1/\∃q,v=some q/\0<=q.num) ?_ ?_
 . rintro _ h1 ⟨hl1,q,rfl,hq0⟩
   have hbq:=hb q rfl
   have hq:=hx.nr.le hl1
   have hv:zfd (some q)=zja 40 0 q:=by unfold zfd;simp[hq0]
   refine z1o (by decide) (by decide) λr3 h2 hl2 hr3=>?_
   refine z87 (by decide) (by decide) λr4 h3 hl3 hr4=>?_
   refine yx (λst h'=>∃(i:Nat) (y:TRat) (p:Rat),st=((y.num.neg,y.num.mag,y.den.neg,y.den.mag,()),(i:Int),())/\i<=40/\h3.le h'/\NR h' y p/\BR (4+i) p/\0<=p.num/\zja (40-i) i p=zja 40 0 q)
    (λst=>(40-st.2.1).toNat) ⟨0,x,q,rfl,by omega,Hp.le_refl _,hq.le (Hp.le_trans hl2 hl3),hbq,hq0,rfl⟩ ?_
   rintro _ h4 ⟨i,y,p,rfl,hi,hl4,hy,by4,hp0,hd⟩
   refine ze (λh5=>?_) (λh5=>?_)
   . simp only at h5
     obtain⟨f,hf⟩:∃f,40-i=f+1:=⟨39-i,by omega⟩
     rw[hf]at hd
     refine zy2 (m:=p.den) (n:=1) hy.2 (hr4.le hl4) (by4.2.ok (by omega)) ok_one' ?_
     refine yk (λh6=>?_) (λh6=>?_)
     . have hden:¬p.den=1:=λhh=>h6 (by rw[hh];rfl)
       refine zkj hy ((hr3.le hl3).le hl4) by4 Z9o (by omega) (by omega) λr8 h7 hl7 hr8=>?_
       refine⟨⟨i+1,r8,_,by simp only;rw[w64 (by omega)];rfl,by omega,Hp.le_trans hl4 hl7,hr8,(by4.mul Z9o).mono (by omega),zx2 hp0,?_⟩,by simp only;rw[w64 (by omega)];omega⟩
       rw[<-hd,show 40-(i+1)=f by omega]
       conv=>rhs;unfold zja
       rw[if_neg hden]
     . have hden:p.den=1:=by
        rw[Int.sign_eq_zero_iff_zero]at h6
        omega
       have hd1:zja (f+1) i p=decide (siz i (dgt p.num.natAbs)<=40):=by unfold zja;rw[if_pos hden]
       have hnn:p.num=(p.num.natAbs:Int):=by omega
       have hnum:NI h4 y.num (p.num.natAbs:Int):=by have:=hy.1;rwa [hnn]at this
       refine zn1 hnum (Nat.le_trans (Xp.2 by4.1) (by omega)) (ht.le (Hp.le_trans hl1 (Hp.le_trans hl2 (Hp.le_trans hl3 hl4)))) λs h6 hl6 hs=>?_
       have hle:=Hp.le_trans hl1 (Hp.le_trans hl2 (Hp.le_trans hl3 (Hp.le_trans hl4 hl6)))
       have d0:=Z8b p.num.natAbs
       have d1:dgt p.num.natAbs<=1000:=Zc4 (Nat.le_trans (Xp.2 by4.1) (by omega))
       refine zk (λs h'=>h.le h'/\s.1.size=siz i (dgt p.num.natAbs)) ?_ ?_
       . rintro⟨s,_⟩ h8 ⟨hl8,hs8⟩
         refine hk _ _ hl8 ?_
         simp only at hs8 |-
         rw[hv,<-hd,hd1,hs8]
         exact decide_eq_decide.2 (by omega)
       . refine ze (λh7=>?_) (λh7=>?_)
         . simp only at h7
           refine zk (λs h'=>h.le h'/\s.1.size=max (dgt p.num.natAbs) (i+1)) ?_ ?_
           . rintro⟨t,_⟩ h8 ⟨hl8,hs8⟩
             simp only at hs8
             have e1:i64.wrap ((t.size:Int)-(i:Int))=((t.size-i:Nat):Int):=by rw[w64 (by omega)];omega
             simp only
             rw[e1]
             refine zas (by omega) (by omega) (by omega) λc hc _=>⟨?_,zas (by omega) (by omega) (by omega) λd hd _=>⟨?_,hl8,?_⟩⟩
             . have:(⟨#[46]⟩:ByteArray).size=1:=rfl
               rw[this];omega
             . have:(⟨#[46]⟩:ByteArray).size=1:=rfl
               rw[ByteArray.size_append,this];omega
             . try simp only
               rw[ByteArray.size_append,ByteArray.size_append]
               have:(⟨#[46]⟩:ByteArray).size=1:=rfl
               unfold siz
               rw[this,if_neg (by omega)];omega
           . refine ze (λh8=>?_) (λh8=>?_)
             . simp only at h8
               rw[w64 (show _ by rw[w64 (by omega)];omega),w64 (by omega)]at h8
               have e2:i64.wrap (i64.wrap ((i:Int)+1)-(s.size:Int))=((i+1-s.size:Nat):Int):=by rw[w64 (show _ by rw[w64 (by omega)];omega),w64 (by omega)];omega
               rw[e2]
               refine zf1 (by omega) λr h9 hl9 hr=>⟨by omega,Hp.le_trans hle hl9,?_⟩
               simp only
               rw[ByteArray.size_append];omega
             . simp only at h8
               rw[w64 (show _ by rw[w64 (by omega)];omega),w64 (by omega)]at h8
               exact⟨hle,by simp only;omega⟩
         . simp only at h7
           refine⟨hle,?_⟩
           unfold siz
           rw[if_pos (by omega)];exact hs
   . simp only at h5
     have:i=40:=by omega
     subst this
     refine hk _ _ (Hp.le_trans hl1 (Hp.le_trans hl2 (Hp.le_trans hl3 hl4))) ?_
     rw[hv,<-hd];rfl
 . refine zgc hx λh1 hl1=>?_
   cases v with
   | none=>exact hk _ _ hl1 rfl
   | some q=>
     have hq:=hx.nr.le hl1
     refine zt rfl ?_
     refine zi7 hq (hb q rfl) (by decide) ?_
     refine ze (λh2=>hk _ _ hl1 ?_) (λh2=>⟨hl1,q,rfl,?_⟩)
     . have:¬0<=q.num:=by
        intro hh
        have:=Z56.2 hh
        omega
       unfold zfd;simp[this]
     . exact Z56.1 (by omega)
end
end Den
end

section
namespace Den
open Go Iv Lx
inductive PEx where
 | mk (op:Int) (x:TRat) (v:Option Rat) (name:ByteArray) (args:List PEx)
def PEx.args:PEx->List PEx | .mk _ _ _ _ l=>l
def ec(e:TExpr):List Value:=[.int .i64 e.op,.bool e.value.num.neg,Lf.sl.up e.value.num.mag,.bool e.value.den.neg,Lf.sl.up e.value.den.mag,.string e.name,Lf.sl.up e.args]
theorem Zd0(e:TExpr):(ec e).length=7:=rfl
inductive EX (h:Hp):TExpr->PEx->Prop
 | mk (e:TExpr) (v:Option Rat) (xs:List TExpr) (ps:List PEx):OR h e.value v->Rd h 7 e.args (xs.flatMap ec)->e.args.len<=e.args.cap->xs.length=ps.length->(∀k (h1:k<xs.length) (h2:k<ps.length),EX h xs[k] ps[k])->EX h e (.mk e.op e.value v e.name ps)
theorem EX.le{h h':Hp}(hl:h.le h'){e:TExpr}{p:PEx}(hx:EX h e p):EX h' e p:=by
 induction hx with
 | mk e v xs ps h1 h2 h3 h4 _ ih=>exact .mk e v xs ps (h1.le hl) (h2.le hl) h3 h4 ih
theorem z4w:Rec ec 7 EX:=⟨Zd0,by decide,λx=>rfl,λhx hl=>hx.le hl⟩
theorem EX.args{h:Hp}{e:TExpr}{p:PEx}(hx:EX h e p):LR ec 7 EX h e.args p.args:=by
 cases hx with
 | mk _ v xs ps h1 h2 h3 h4 h5=>exact⟨xs,h2,h3,h4,h5⟩
def zkb(x:TRat):Bool:=decide (x.num.mag.len=0)&&(decide (x.den.mag.len=0)&&(!x.num.neg&&!x.den.neg))
def shp(op:Int)(x:TRat)(v:Option Rat)(name:ByteArray)(n:Nat):Bool:=
 if op=1 then zfd v&&(decide (BS name=[])||Z42 (BS name))&&decide (n=0)
 else if op=2 then zkb x&&Z42 (BS name)&&decide (n=0)
 else if op=3 then zkb x&&decide (BS name=[])&&decide (n=1)
 else if 4<=op/\op<=7 then zkb x&&decide (BS name=[])&&decide (n=2)
 else false
mutual
def fmd:PEx->Bool
 | .mk op x v name args=>shp op x v name args.length&&zjb args
def zjb:List PEx->Bool
 | []=>true
 | a :: r=>fmd a&&zjb r
end
theorem zo4:∀l:List PEx,zjb l=l.all fmd
 | []=>rfl
 | a :: r=>by rw[zjb,zo4 r];rfl
mutual
def dep:PEx->Nat
 | .mk _ _ _ _ args=>zg2 args+1
def zg2:List PEx->Nat
 | []=>0
 | a :: r=>max (dep a) (zg2 r)
end
theorem zlf:∀{l:List PEx} {a:PEx},a∈l->dep a<=zg2 l
 | _ :: _,_,h=>by
   unfold zg2
   rcases List.mem_cons.1 h with rfl | h
   . omega
   . have:=zlf h;omega
theorem zjx:∀(l:List PEx) (a:PEx),zg2 (l++[a])=max (zg2 l) (dep a)
 | [],a=>by simp[zg2]
 | b :: r,a=>by rw[List.cons_append];unfold zg2;rw[zjx r a];omega
theorem zcs(p:PEx):dep p=zg2 p.args+1:=by cases p;rfl
mutual
def smE:PEx->Prop
 | .mk op x v name args=>args.length<=4/\name.size<=40/\x.num.mag.len<=4/\x.den.mag.len<=4/\Z9f args
def Z9f:List PEx->Prop
 | []=>True
 | a :: r=>smE a/\Z9f r
end
theorem zio:∀{l:List PEx} {a:PEx},Z9f l->a∈l->smE a
 | _ :: _,_,hs,h=>by
   unfold Z9f at hs
   rcases List.mem_cons.1 h with rfl | h
   . exact hs.1
   . exact zio hs.2 h
def vE(p:PEx):Bool:=fmd p&&decide (dep p<=40)
def sE(p:PEx):Prop:=smE p/\dep p<=61
def OPT(h:Hp):Prop:=∀i:Nat,i<8->h.cell ((⟨1,0,none⟩:Addr).add i)=some (.int .i64 (([0,0,0,1,2,2,2,2]:List Int).getD i 0))
theorem OPT.le{h h':Hp}(ht:OPT h)(hl:h.le h'):OPT h':=λi hi=>Hp.cell_le hl (ht i hi)
section
variable {h : Hp} {e : TExpr} {p : PEx} {Kb : Bool → Hp → Prop} {Ki : Int → Hp → Prop}
theorem zuw{x:TRat}(H:Kb (zkb x) h):zc (F.z2t x) Kb h:=by
 refine Zf _ (λK' hk=>?_) H
 unfold F.z2t
 unfold zkb at hk
 refine zz (λh1=>zz (λh2=>?_) (λh2=>?_)) (λh1=>?_)
 . rw[decide_eq_true (show x.num.mag.len=0 by omega),decide_eq_true (show x.den.mag.len=0 by omega)]at hk
   refine zp (λh3=>?_) (λh3=>?_)
   . rw[h3]at hk;exact hk
   . rw[h3]at hk;exact hk
 . rw[decide_eq_false (show ¬x.den.mag.len=0 by omega),Bool.false_and,Bool.and_false]at hk;exact hk
 . rw[decide_eq_false (show ¬x.num.mag.len=0 by omega),Bool.false_and]at hk;exact hk
theorem zfm{s:ByteArray}(H:Kb (Z42 (BS s)) h):zc (F.z0t s) Kb h:=Zf _ (λK' hk=>zvj hk) H
theorem zuo{A B:Prop}{s:ByteArray}(hA:BS s=[]->A)(hB:BS s≠[]->B):ifP ((s:ByteArray).toList==(X6:ByteArray).toList) A B:=by
 rw[zbf,z7m]
 refine zp (λhh=>hA ?_) (λhh=>hB ?_)
 . simpa using hh
 . intro h0;rw[h0]at hh;cases hh
theorem zuj{s:Sl}{g:PEx->Bool}{ps:List PEx}{G:TExpr->(Bool->Hp->Prop)->Hp->Prop}(hx:LR ec 7 EX h s ps)(hlen:ps.length<=1000000)
 (hG:∀e p h',h.le h'->EX h' e p->p∈ps->∀K:Bool->Hp->Prop,(∀h'',h'.le h''->K (g p) h'')->zc (G e) K h') (H:∀r h',h.le h'->(0<=r↔∃p∈ps,g p=true)->Ki r h') :
 (zr (S:=Int×Unit) (λs1 k2 h1=>
 (ifP (decide (s1.1<(s.len:Int)))
 (zg s s1.1 7 λa3=>
 (ldL (.int .i64) (a3.add 0) (λx4_0=>
 (ldL (.bool) (a3.add 1) (λx4_1=>
 (ldL (.sl) (a3.add 2) (λx4_2=>
 (ldL (.bool) (a3.add 3) (λx4_3=>
 (ldL (.sl) (a3.add 4) (λx4_4=>
 (ldL (.str) (a3.add 5) (λx4_5=>
 (ldL (.sl) (a3.add 6) (λx4_6=>
 (zc (G (⟨x4_0,(⟨(⟨x4_1,x4_2⟩:TInt),(⟨x4_3,x4_4⟩:TInt)⟩:TRat),x4_5,x4_6⟩:TExpr)) (λr5 h2=>
 (ifP r5
 (Ki s1.1 h2)
 (k2 ((i64.wrap (s1.1+1)),()) h2))) h1)) h1)) h1)) h1)) h1)) h1)) h1)) h1))
 (Ki (-1) h1)))
 (0,()) h):=by
  have hl:=hx.len z4w
  refine Y0 (n:=ps.length) (by omega) (λi h'=>h.le h'/\∀j (hj:j<ps.length),j<i->g ps[j]=false) ⟨Hp.le_refl _,λj _ hj=>by omega⟩ ?_
  rintro i h1 hi ⟨hl1,hno⟩ k hk2
  refine ze (λh2=>?_) (λh2=>?_)
  . have hi':i<ps.length:=by simp only at h2;omega
    refine(hx.le z4w hl1).get z4w i rfl hi' λa x hxx hc=>?_
    refine⟨_,hc 0 _ rfl,_,hc 1 _ rfl,_,hc 2 _ rfl,_,hc 3 _ rfl,_,hc 4 _ rfl,_,hc 5 _ rfl,_,hc 6 _ rfl,?_⟩
    refine hG _ _ _ hl1 hxx (List.getElem_mem _) _ λh3 hl3=>?_
    refine zp (λh4=>H _ _ (Hp.le_trans hl1 hl3) ⟨λ_=>⟨_,List.getElem_mem hi',h4⟩,λ_=>by simp only;omega⟩) (λh4=>hk2 _ hi' ⟨Hp.le_trans hl1 hl3,λj hj hji=>?_⟩)
    rcases Nat.lt_or_ge j i with h5 | h5
    . exact hno j hj h5
    . have:j=i:=by omega
      subst this;exact h4
  . refine H _ _ hl1 ⟨λhh=>by omega,λ⟨p,hp,hg⟩=>?_⟩
    obtain⟨j,hj,rfl⟩:=List.mem_iff_getElem.1 hp
    have:j<i:=by simp only at h2;omega
    rw[hno j hj this]at hg;cases hg
theorem Z8h{l:List PEx}:(∃p∈l,(!fmd p)=true)↔zjb l=false:=by
 rw[zo4,<-Bool.not_eq_true,List.all_eq_true]
 constructor
 . rintro⟨p,hp,h1⟩ hh
   rw[hh p hp]at h1;cases h1
 . intro hh
   apply Classical.byContradiction
   intro hn
   exact hh λp hp=>by
    cases hf:fmd p with
    | true=>rfl
    | false=>exact absurd ⟨p,hp,by rw[hf];rfl⟩ hn
theorem zo5(hx:EX h e p)(hs:sE p)(ht:P10 h)(ho:OPT h)(H:∀h',h.le h'->Kb (fmd p) h'):zc (F.z2s e) Kb h:=by
 have key:∀(fuel:Nat) (h:Hp) (e:TExpr) (p:PEx) (K:Bool->Hp->Prop),EX h e p->smE p->dep p<=fuel->P10 h->OPT h->(∀h',h.le h'->K (fmd p) h')->F.Qa fuel e K h:=by
  intro fuel
  induction fuel with
  | zero=>intro h e p K _ _ hd _ _ _;rw[zcs]at hd;omega
  | succ fuel ih=>
    intro h e p K hx hs hd ht ho H
    have hargs:=hx.args
    cases hx with
    | mk _ v xs ps g1 g2 g3 g4 g5=>
    simp only[PEx.args]at hargs
    have hal:=hargs.len z4w
    have hd':zg2 ps<=fuel:=by have:=zcs (PEx.mk e.op e.value v e.name ps);simp only[PEx.args]at this;omega
    unfold smE at hs
    obtain⟨s1,s2,s3,s4,s5⟩:=hs
    unfold fmd at H
    unfold F.Qa
    refine zk (λ_ h1=>h1=h/\1<=e.op/\e.op<=7/\(ps.length:Int)=([0,0,0,1,2,2,2,2]:List Int).getD e.op.toNat 0) ?_ ?_
    . rintro _ h ⟨rfl,o1,o2,hn⟩
      refine zz (λh1=>?_) (λh1=>zz (λh2=>?_) (λh2=>?_))
      . rw[h1]at hn
        have hn0:ps=[]:=List.eq_nil_of_length_eq_zero (by have:(ps.length:Int)=0:=hn;omega)
        subst hn0
        unfold shp zjb at H
        rw[if_pos h1,decide_eq_true (show([]:List PEx).length=0 from rfl),Bool.and_true,Bool.and_true]at H
        refine zle g1 (λq hq=>by subst hq;exact g1.br s3 s4) ht λs h2 hl2=>?_
        refine zp (λh3=>?_) (λh3=>?_)
        . simp only at h3
          rw[h3,Bool.true_and]at H
          refine zuo (λh4=>?_) (λh4=>?_)
          . rw[decide_eq_true h4]at H;exact H _ hl2
          . rw[decide_eq_false h4,Bool.false_or]at H
            exact zfm (H _ hl2)
        . simp only at h3
          rw[h3,Bool.false_and]at H;exact H _ hl2
      . rw[h2]at hn
        have hn0:ps=[]:=List.eq_nil_of_length_eq_zero (by have:(ps.length:Int)=0:=hn;omega)
        subst hn0
        unfold shp zjb at H
        rw[if_neg h1,if_pos h2,decide_eq_true (show([]:List PEx).length=0 from rfl),Bool.and_true,Bool.and_true]at H
        refine zuw ?_
        refine zp (λh3=>?_) (λh3=>?_)
        . rw[h3,Bool.true_and]at H
          exact zfm (H _ (Hp.le_refl _))
        . rw[h3,Bool.false_and]at H;exact H _ (Hp.le_refl _)
      . have hsh:shp e.op e.value v e.name ps.length=(zkb e.value&&decide (BS e.name=[])):=by
         unfold shp
         rw[if_neg h1,if_neg h2]
         rcases(by omega:e.op=3\/e.op=4\/e.op=5\/e.op=6\/e.op=7)with h3 | h3 | h3 | h3 | h3<;>rw[h3]at hn |-
         . have:ps.length=1:=by have:(ps.length:Int)=1:=hn;omega
           simp[this]
         all_goals
          have:ps.length=2:=by have:(ps.length:Int)=2:=hn;omega
          simp[this]
        rw[hsh]at H
        refine zuw ?_
        refine zp (λh3=>?_) (λh3=>?_)
        . rw[h3,Bool.true_and]at H
          refine zuo (λh4=>?_) (λh4=>?_)
          . rw[decide_eq_true h4,Bool.true_and]at H
            refine zd (λb h'=>b=!zjb ps) (λK' hk=>?_) λb h' hl hb=>by subst hb;rw[Bool.not_not];exact H _ hl
            unfold F.Z7
            refine zd (λr h'=>(0<=r↔∃p∈ps,(!fmd p)=true)) (λK2 hk2=>?_) λr h' hl hr=>hk _ _ hl ?_
            . unfold F.ym
              refine zuj (g:=λp=>!fmd p) (ps:=ps) (G:=F.z0q (F.Qa fuel)) hargs (by omega) ?_ λr h' hl hr=>hk2 _ _ hl hr
              intro e2 p2 h2 hl2 hx2 hm K3 hK3
              refine zd (λb h'=>b=!fmd p2) (λK' hk=>?_) λb h' hl hb=>by subst hb;exact hK3 _ hl
              unfold F.z0q
              refine zd (λb h'=>b=fmd p2) (λK' hk=>?_) λb h' hl hb=>hk _ _ hl (by rw[hb])
              exact ih _ _ _ _ hx2 (zio s5 hm) (by have:=zlf hm;omega) (ht.le hl2) (ho.le hl2) λh' hl=>hk _ _ hl rfl
            . rw[Z8h]at hr
              cases hf:zjb ps with
              | true=>rw[hf]at hr;exact decide_eq_false λhh=>by have:=hr.1 hh;cases this
              | false=>exact decide_eq_true (hr.2 hf)
          . rw[decide_eq_false h4,Bool.false_and]at H;exact H _ (Hp.le_refl _)
        . rw[h3,Bool.false_and,Bool.false_and]at H;exact H _ (Hp.le_refl _)
    . have hf:∀{q:Prop},(shp e.op e.value v e.name ps.length=true->False)->(K false h):=λhh=>by
       have:=H _ (Hp.le_refl _)
       rwa [Bool.eq_false_iff.2 hh,Bool.false_and]at this
      refine ze (λh1=>hf (q:=True) λhh=>?_) (λh1=>ze (λh2=>hf (q:=True) λhh=>?_) (λh2=>?_))
      . unfold shp at hh
        rw[if_neg (by omega),if_neg (by omega),if_neg (by omega),if_neg (by omega)]at hh;cases hh
      . unfold shp at hh
        rw[if_neg (by omega),if_neg (by omega),if_neg (by omega),if_neg (by omega)]at hh;cases hh
      . refine zun (by omega) (by omega) ?_
        have hc:=ho e.op.toNat (by omega)
        rw[Nat.mul_one]
        refine⟨_,hc,?_⟩
        refine yk (λh3=>hf (q:=True) λhh=>?_) (λh3=>⟨rfl,by omega,by omega,by rw[<-hal];exact h3⟩)
        unfold shp at hh
        rcases(by omega:e.op=1\/e.op=2\/e.op=3\/e.op=4\/e.op=5\/e.op=6\/e.op=7)with h4 | h4 | h4 | h4 | h4 | h4 | h4<;>rw[h4]at hh h3<;>simp at hh h3<;>first | omega | (have hz:=hh.2;rw[hz]at hal;simp at hal;omega)
 refine zd (λb h'=>b=fmd p) (λK' hk=>?_) λb h' hl hb=>by subst hb;exact H h' hl
 unfold F.z2s
 exact⟨61,key 61 h e p K' hx hs.1 hs.2 ht ho λh' hl=>hk _ _ hl rfl⟩
theorem Z49(a b:Nat):zje (a:Int) (b:Int)=((max a b:Nat):Int):=by unfold zje;split<;>omega
theorem zsq:∀(fuel:Nat) (h:Hp) (e:TExpr) (p:PEx) (K:Int->Hp->Prop),EX h e p->smE p->dep p<=fuel->dep p<=1000->(∀h',h.le h'->K (dep p:Nat) h')->F.z34 fuel e K h:=by
 intro fuel
 induction fuel with
 | zero=>intro h e p K _ _ hd _ _;rw[zcs]at hd;omega
 | succ fuel ih=>
   intro h e p K hx hs hd hd2 H
   have hargs:=hx.args
   have hda:=zcs p
   cases hx with
   | mk _ v xs ps g1 g2 g3 g4 g5=>
   simp only[PEx.args]at hargs hda
   have hal:=hargs.len z4w
   unfold smE at hs
   obtain⟨s1,s2,s3,s4,s5⟩:=hs
   unfold F.z34
   refine Yt (n:=ps.length) (by omega) (λi a h'=>h.le h'/\a=((zg2 (ps.take i):Nat):Int)) ⟨Hp.le_refl _,by simp[zg2]⟩ ?_
   rintro i a h3 hi ⟨hl3,ha⟩ k hk2
   refine ze (λh4=>?_) (λh4=>?_)
   . have hi':i<ps.length:=by simp only at h4;omega
     refine(hargs.le z4w hl3).get z4w i rfl hi' λa' x hxx hc=>?_
     refine⟨_,hc 0 _ rfl,_,hc 1 _ rfl,_,hc 2 _ rfl,_,hc 3 _ rfl,_,hc 4 _ rfl,_,hc 5 _ rfl,_,hc 6 _ rfl,?_⟩
     have hdm:=zlf (List.getElem_mem hi')
     refine zd (λb h'=>b=((dep ps[i]:Nat):Int)) (λK' hk=>ih _ _ _ _ hxx (zio s5 (List.getElem_mem _)) (by omega) (by omega) λh' hl=>hk _ _ hl rfl) λb h5 hl5 hb=>?_
     subst hb
     refine hk2 _ _ hi' ⟨Hp.le_trans hl3 hl5,?_⟩
     simp only
     rw[ha,Z49,<-List.take_append_getElem hi',zjx]
   . have hi':i=ps.length:=by simp only at h4;omega
     subst hi'
     rw[List.take_length]at ha
     have:=H _ hl3
     rw[hda]at this
     simp only
     rw[ha,w64 (by omega)]
     exact this
theorem zmz:∀fuel,F.X7 fuel=F.z34 fuel
 | 0=>rfl
 | fuel+1=>by
   funext e K h
   unfold F.X7 F.z34
   rw[zmz fuel]
theorem zpx(hx:EX h e p)(hs:sE p)(H:∀h',h.le h'->Ki (dep p:Nat) h'):zc (F.z48 e) Ki h:=by
 refine zd (λb h'=>b=((dep p:Nat):Int)) (λK' hk=>?_) λb h' hl hb=>by subst hb;exact H h' hl
 unfold F.z48
 have:=hs.2
 exact⟨61,by rw[zmz];exact zsq 61 h e p K' hx hs.1 hs.2 (by omega) λh' hl=>hk _ _ hl rfl⟩
theorem zo0(hx:EX h e p)(hs:sE p)(ht:P10 h)(ho:OPT h)(H:∀r h',h.le h'->(r=0↔vE p=true)->Ki r h'):zc (F.z49 e) Ki h:=by
 refine zd (λr h'=>r=0↔vE p=true) (λK' hk=>?_) λb h' hl hb=>H b h' hl hb
 unfold F.z49
 refine zo5 hx hs ht ho λh1 hl1=>?_
 unfold vE at hk
 cases hf:fmd p with
 | false=>exact y7 rfl (hk _ _ hl1 (by rw[hf];simp))
 | true=>
   refine zt rfl ?_
   refine zpx (hx.le hl1) hs λh2 hl2=>?_
   refine ze (λh3=>hk _ _ (Hp.le_trans hl1 hl2) ?_) (λh3=>hk _ _ (Hp.le_trans hl1 hl2) ?_)
   . rw[hf,decide_eq_false (by omega)];simp
   . rw[hf,decide_eq_true (by omega)];simp
end
end Den
end

section
namespace Den
open Go Iv Lx
def Z6l:List (Nat×Nat×Nat×Nat×Bool):=[(1,0,2,2,false),(2,0,1,1,false),(3,0,0,1,false),(3,0,1,1,true),(4,0,1,1,false),(4,0,0,1,false),(4,0,0,1,false),(4,0,0,1,false),(3,0,0,2,false),(4,0,0,2,false),(2,0,0,1,false),(2,0,0,1,false),(1,1,0,1,false),(0,1,1,1,false),(0,2,0,1,false),(2,1,0,1,true),(0,2,0,1,true)]
def shK(k:Int):Nat×Nat×Nat×Nat×Bool:=if 1<=k then Z6l.getD (k.toNat-1) (0,0,0,0,false)else (0,0,0,0,false)
def eqK(k:Int):Nat:=(shK k).2.2.2.1
structure PCon where
 kind:Int
 pts:List Int
 cir:List Int
 vals:List PEx
 side:Int
def cc(x:TConstraint):List Value:=[.int .i64 x.kind,Lf.sl.up x.points,Lf.sl.up x.circles,Lf.sl.up x.values,.int .i64 x.side]
def CO(h:Hp)(x:TConstraint)(c:PCon):Prop:=x.kind=c.kind/\IL h x.points c.pts/\IL h x.circles c.cir/\LR ec 7 EX h x.values c.vals/\x.side=c.side
theorem CO.le{h h':Hp}{x:TConstraint}{c:PCon}(hx:CO h x c)(hl:h.le h'):CO h' x c:=⟨hx.1,hx.2.1.le hl,hx.2.2.1.le hl,hx.2.2.2.1.le z4w hl,hx.2.2.2.2⟩
theorem Yx:Rec cc 5 CO:=⟨λ_=>rfl,by decide,λ_=>rfl,λhx hl=>hx.le hl⟩
def zbq:List Int->Prop
 | [a,b,c,d]=>a≠b/\c≠d/\¬(a=c/\b=d)/\¬(a=d/\b=c)
 | _=>False
def z58(k:Int):Prop:=k=5\/k=6\/k=7\/k=8
instance (k:Int):Decidable (z58 k):=by unfold z58;infer_instance
def VC(c:PCon)(n m:Int):Prop:=
 (1<=c.kind/\c.kind<=17)/\(c.pts.length=(shK c.kind).1/\∀x∈c.pts,0<=x/\x<n)/\(c.cir.length=(shK c.kind).2.1/\∀x∈c.cir,0<=x/\x<m)/\c.vals.length=(shK c.kind).2.2.1 /\
 (∀v∈c.vals,vE v=true)/\(if (shK c.kind).2.2.2.2=true then c.side=1\/c.side=-1 else c.side=0)/\(if z58 c.kind then zbq c.pts else c.pts.Nodup/\c.cir.Nodup)
def sC(c:PCon):Prop:=c.pts.length<=10/\c.cir.length<=10/\c.vals.length<=10/\∀v∈c.vals,sE v
def TBL(h:Hp):Prop:=∀k:Nat,1<=k->k<=17->∃ln ps:Bool,∀j v,([.int .i64 ((shK k).1:Int),.int .i64 ((shK k).2.1:Int),.int .i64 ((shK k).2.2.1:Int),.int .i64 ((shK k).2.2.2.1:Int),.bool (shK k).2.2.2.2,.bool ln,.bool ps]:List Value)[j]?=some v ->
 h.cell ((((⟨0,0,none⟩:Addr).add (k*8)).add 1).add j)=some v
theorem TBL.le{h h':Hp}(ht:TBL h)(hl:h.le h'):TBL h':=λk h1 h2=>by
 obtain⟨ln,ps,h3⟩:=ht k h1 h2
 exact⟨ln,ps,λj v hv=>Hp.cell_le hl (h3 j v hv)⟩
def GT(h:Hp):Prop:=P10 h/\OPT h/\TBL h
theorem GT.le{h h':Hp}(ht:GT h)(hl:h.le h'):GT h':=⟨ht.1.le hl,ht.2.1.le hl,ht.2.2.le hl⟩
section
variable {h : Hp} {x : TConstraint} {c : PCon} {l : Sl} {xs : List Int} {Kb : Bool → Hp → Prop} {Ki : Int → Hp → Prop}
theorem zch{kind:Int}{K:(Tconstraint_Shape×Bool)->Hp->Prop}(ht:TBL h)(H1:1<=kind->kind<=17->∀ln ps,K (⟨((shK kind).1:Int),((shK kind).2.1:Int),((shK kind).2.2.1:Int),((shK kind).2.2.2.1:Int),(shK kind).2.2.2.2,ln,ps⟩,true) h)
 (H0:¬(1<=kind/\kind<=17)->K (⟨0,0,0,0,false,false,false⟩,false) h):zc (F.X4 kind) K h:=by
 refine zd (λr h'=>h'=h/\((1<=kind/\kind<=17/\∃ln ps,r=(⟨((shK kind).1:Int),((shK kind).2.1:Int),((shK kind).2.2.1:Int),((shK kind).2.2.2.1:Int),(shK kind).2.2.2.2,ln,ps⟩,true))\/(¬(1<=kind/\kind<=17)/\r=(⟨0,0,0,0,false,false,false⟩,false)))) (λK' hk=>?_) λr h' _ hr=>by
  obtain⟨rfl,hr | hr⟩:=hr
  . obtain⟨h1,h2,ln,ps,rfl⟩:=hr
    exact H1 h1 h2 ln ps
  . rw[hr.2];exact H0 hr.1
 unfold F.X4
 refine zk (λ_ h1=>h1=h/\1<=kind/\kind<=17) ?_ ?_
 . rintro _ h ⟨rfl,h1,h2⟩
   obtain⟨k,rfl⟩:∃k:Nat,kind=k:=⟨kind.toNat,by omega⟩
   obtain⟨ln,ps,hc⟩:=ht k (by omega) (by omega)
   refine zun (by omega) (by omega) ?_
   exact⟨_,hc 0 _ rfl,_,hc 1 _ rfl,_,hc 2 _ rfl,_,hc 3 _ rfl,_,hc 4 _ rfl,_,hc 5 _ rfl,_,hc 6 _ rfl,hk _ _ (Hp.le_refl _) ⟨rfl,.inl ⟨h1,h2,ln,ps,rfl⟩⟩⟩
 . refine ze (λh1=>hk _ _ (Hp.le_refl _) ⟨rfl,.inr ⟨by omega,rfl⟩⟩) λh1=>ze (λh2=>hk _ _ (Hp.le_refl _) ⟨rfl,.inr ⟨by omega,rfl⟩⟩) λh2=>⟨rfl,by omega,by omega⟩
theorem zfk{n za0:Int}(hx:IL h l xs)(hlen:xs.length<=1000000)(H:∀b h',h.le h'->(b=true↔(xs.length:Int)=n/\∀x∈xs,0<=x/\x<za0)->Kb b h'):zc (F.Ws l n za0) Kb h:=by
 refine zd (λb h'=>b=true↔(xs.length:Int)=n/\∀x∈xs,0<=x/\x<za0) (λK' hk=>?_) λb h' hl hb=>H b h' hl hb
 unfold F.Ws
 have hl:=hx.len
 refine Xy λa h1 hl1 hc=>?_
 refine zz (λh2=>?_) (λh2=>hk _ _ hl1 ⟨λhh=>(by cases hh),λhh=>by omega⟩)
 refine zd (λb h'=>b=true↔∃x∈xs,¬(0<=x/\x<za0)) (λK' hk=>?_) λb h3 hl3 hb=>hk _ _ (Hp.le_trans hl1 hl3) ?_
 . unfold F.y8
   refine zd (λr h'=>Fnd (λx=>¬(0<=x/\x<za0)) xs r) (λK' hk=>?_) λr h4 hl4 hr=>hk _ _ hl4 (by rw[decide_eq_true_iff];exact hr.iff)
   unfold F.Yi
   refine zd0 (hx.le hl1) hlen (λx _ h5 hl5 K hK=>?_) λr h' hl hr=>hk _ _ hl hr
   refine Zf (decide (¬(0<=x/\x<za0))) (λK' hk=>?_) (hK _ _ (Hp.le_refl _) (by rw[decide_eq_true_iff]))
   unfold F.z18
   refine ze (λh6=>?_) (λh6=>?_)
   . rw[decide_eq_true (by omega)]at hk;exact hk
   . refine⟨_,Hp.cell_le hl5 hc,?_⟩
     have:decide (x>=za0)=decide (¬(0<=x/\x<za0)):=decide_eq_decide.2 (by omega)
     show K' (decide (x>=za0)) h5
     rw[this];exact hk
 . rw[Bool.not_eq_true',<-Bool.not_eq_true,hb]
   constructor
   . intro hh
     exact⟨by omega,λx hx=>Classical.byContradiction λhn=>hh ⟨x,hx,hn⟩⟩
   . rintro⟨_,h4⟩ ⟨x,hx,hn⟩
     exact hn (h4 x hx)
theorem zht{xs:List Int}{i:Nat}(hi:i<xs.length):(xs.take (i+1)).Nodup↔(xs.take i).Nodup/\xs[i]∉xs.take i:=by
 rw[<-List.take_append_getElem hi,List.nodup_append]
 constructor
 . rintro⟨h1,_,h3⟩
   exact⟨h1,λhm=>h3 _ hm _ (List.mem_singleton.2 rfl) rfl⟩
 . rintro⟨h1,h2⟩
   exact⟨h1,by simp,λa ha b hb hab=>by rw[List.mem_singleton.1 hb]at hab;subst hab;exact h2 ha⟩
theorem zjg{xs:List Int}{i:Nat}(h:xs.Nodup):(xs.take i).Nodup:=h.sublist (List.take_sublist _ _)
theorem z9k(hx:IL h l xs)(hlen:xs.length<=1000000)(H:∀b h',h.le h'->(b=true↔xs.Nodup)->Kb b h'):zc (F.Xh l) Kb h:=by
 refine zd (λb h'=>b=true↔xs.Nodup) (λK' hk=>?_) λb h' hl hb=>H b h' hl hb
 unfold F.Xh
 have hl:=hx.len
 have hcap:=hx.2
 refine Y0 (n:=xs.length) (by omega) (λi h'=>h.le h'/\(xs.take i).Nodup) ⟨Hp.le_refl _,by simp⟩ ?_
 rintro i h1 hi ⟨hl1,hno⟩ k hk2
 refine ze (λh2=>?_) (λh2=>?_)
 . have hi':i<xs.length:=by simp only at h2;omega
   refine(hx.le hl1).get i rfl hi' ?_
   refine⟨by omega,by simp only;omega,by simp only;omega,?_⟩
   refine Wy ((hx.le hl1).cut (n:=i) (by omega)) (by rw[List.length_take];omega) λh3 hl3=>?_
   refine ze (λh4=>hk _ _ (Hp.le_trans hl1 hl3) ⟨λhh=>(by cases hh),λhh=>?_⟩) (λh4=>hk2 _ hi' ⟨Hp.le_trans hl1 hl3,(zht hi').2 ⟨hno,h4⟩⟩)
   exact absurd h4 ((zht hi').1 (zjg hh)).2
 . have:i=xs.length:=by simp only at h2;omega
   subst this
   rw[List.take_length]at hno
   exact hk _ _ hl1 ⟨λ_=>hno,λ_=>rfl⟩
theorem zsm(hx:IL h l xs)(hlen:xs.length=4)(H:∀b h',h.le h'->(b=true↔zbq xs)->Kb b h'):zc (F.z0p l) Kb h:=by
 refine zd (λb h'=>b=true↔zbq xs) (λK' hk=>?_) λb h' hl hb=>H b h' hl hb
 unfold F.z0p
 match xs,hlen with
 | [a,b,c,d],_=>
 refine hx.get 0 rfl (by simp) (hx.get 1 rfl (by simp) (hx.get 2 rfl (by simp) (hx.get 3 rfl (by simp) ?_)))
 simp only[List.getElem_cons_zero,List.getElem_cons_succ]
 have fin:∀b',(b'=true↔zbq [a,b,c,d])->K' b' h:=λb' hb=>hk _ _ (Hp.le_refl _) hb
 unfold zbq at fin
 refine yk (λh1=>yk (λh2=>zz (λh3=>zp (λh4=>zz (λh5=>fin _ ?_) (λh5=>fin _ ?_)) (λh4=>fin _ ?_)) (λh3=>zz (λh5=>fin _ ?_) (λh5=>fin _ ?_))) (λh2=>fin _ ?_)) (λh1=>fin _ ?_)
 all_goals simp_all
theorem zxz{n:Sl}{ps:List PEx}(hx:LR ec 7 EX h n ps)(hlen:ps.length<=10)(hs:∀v∈ps,sE v)(ht:GT h)(H:∀b h',h.le h'->(b=true↔¬∀v∈ps,vE v=true)->Kb b h'):zc (F.Zn n) Kb h:=by
 refine zd (λb h'=>b=true↔¬∀v∈ps,vE v=true) (λK' hk=>?_) λb h' hl hb=>H b h' hl hb
 unfold F.Zn
 refine zd (λr h'=>(0<=r↔∃p∈ps,(!vE p)=true)) (λK2 hk2=>?_) λr h' hl hr=>hk _ _ hl ?_
 . unfold F.yf
   refine zuj (g:=λp=>!vE p) (ps:=ps) (G:=F.Vo) hx (by omega) ?_ λr h' hl hr=>hk2 _ _ hl hr
   intro e2 p2 h2 hl2 hx2 hm K3 hK3
   refine zd (λb h'=>b=!vE p2) (λK' hk=>?_) λb h' hl hb=>by subst hb;exact hK3 _ hl
   unfold F.Vo
   refine zo0 hx2 (hs _ hm) (ht.1.le hl2) (ht.2.1.le hl2) λr h' hl hr=>hk _ _ hl ?_
   cases hv:vE p2 with
   | true=>rw[hr.2 hv];rfl
   | false=>
     have:r≠0:=λhh=>by rw[hr.1 hh]at hv;cases hv
     simp[this]
 . rw[decide_eq_true_iff,ge_iff_le,hr]
   constructor
   . rintro⟨p,hp,h1⟩ hh
     rw[hh p hp]at h1;cases h1
   . intro hh
     apply Classical.byContradiction
     intro hn
     exact hh λp hp=>by
      cases hf:vE p with
      | true=>rfl
      | false=>exact absurd ⟨p,hp,by rw[hf];rfl⟩ hn
theorem Z9c{A B:Prop}{sd:Bool}{z:Int}(hA:¬(if sd=true then z=1\/z=-1 else z=0)->A)(hB:(if sd=true then z=1\/z=-1 else z=0)->B) :
 ifP sd (ifP (z != 1) (ifP (z != (-1)) A (ifP (!sd) (ifP (z != 0) A B) B)) (ifP (!sd) (ifP (z != 0) A B) B)) (ifP (!sd) (ifP (z != 0) A B) B):=by
 cases sd with
 | true=>
   simp only[if_true]at hA hB
   refine y7 rfl (yk (λh1=>yk (λh2=>hA (by omega)) (λh2=>zt rfl (hB (by omega)))) (λh1=>zt rfl (hB (by omega))))
 | false=>
   simp only[Bool.false_eq_true,if_false]at hA hB
   exact zt rfl (y7 rfl (yk (λh1=>hA h1) (λh1=>hB h1)))
theorem Z8i{k:Int}{T:Bool×Unit->Hp->Prop}(H:T (decide (z58 k),()) h):ifP (k==5) (T ((k==5),()) h) (ifP (k==6) (T ((k==6),()) h) (ifP (k==7) (T ((k==7),()) h) (T ((k==8),()) h))):=by
 refine zz (λh1=>?_) (λh1=>zz (λh2=>?_) (λh2=>zz (λh3=>?_) (λh3=>?_)))
 . subst h1;exact H
 . subst h2;exact H
 . subst h3;exact H
 . have:(k==8)=decide (z58 k):=by
    by_cases h4:k=8
    . subst h4;rfl
    . rw[decide_eq_false (show ¬z58 k by unfold z58;omega),beq_eq_false_iff_ne];exact h4
   rw[this];exact H
theorem znh{n m:Int}(hx:CO h x c)(hs:sC c)(ht:GT h)(H:∀b h',h.le h'->(b=true↔VC c n m)->Kb b h'):zc (F.z0o x n m) Kb h:=by
 refine zd (λb h'=>b=true↔VC c n m) (λK' hk=>?_) λb h' hl hb=>H b h' hl hb
 unfold F.z0o
 obtain⟨x1,x2,x3,x4,x5⟩:=hx
 obtain⟨s1,s2,s3,s4⟩:=hs
 have hvl:=x4.len z4w
 have no:∀h',h.le h'->¬VC c n m->K' false h':=λh' hl hn=>hk _ _ hl ⟨λhh=>(by cases hh),λhh=>absurd hh hn⟩
 rw[x1,x5]
 refine zch ht.2.2 (λk1 k2 ln ps=>?_) (λhn=>?_)
 . refine zk (λ_ h1=>h.le h1/\((c.pts.length:Int)=(shK c.kind).1/\∀x∈c.pts,0<=x/\x<n)/\((c.cir.length:Int)=(shK c.kind).2.1/\∀x∈c.cir,0<=x/\x<m)/\c.vals.length=(shK c.kind).2.2.1) ?_ ?_
   . rintro _ h1 ⟨hl1,g1,g2,g3⟩
     refine zxz (x4.le z4w hl1) s3 s4 (ht.le hl1) λb h2 hl2 hb=>?_
     have hle:=Hp.le_trans hl1 hl2
     refine zp (λh3=>no _ hle λhv=>hb.1 h3 hv.2.2.2.2.1) (λh3=>?_)
     have hv:∀v∈c.vals,vE v=true:=Classical.byContradiction λhn=>by rw[hb.2 hn]at h3;cases h3
     refine zk (λ_ h'=>h'=h2/\(if (shK c.kind).2.2.2.2=true then c.side=1\/c.side=-1 else c.side=0)) ?_ (Z9c (λhn=>no _ hle λhv=>hn hv.2.2.2.2.2.1) λhy=>⟨rfl,hy⟩)
     rintro _ h2 ⟨rfl,hsd⟩
     have vc:∀{b:Bool},(b=true↔(if z58 c.kind then zbq c.pts else c.pts.Nodup/\c.cir.Nodup))->(b=true↔VC c n m):=λhb=>by
      rw[hb]
      exact⟨λhh=>⟨⟨k1,k2⟩,⟨by omega,g1.2⟩,⟨by omega,g2.2⟩,g3,hv,hsd,hh⟩,λhh=>hh.2.2.2.2.2.2⟩
     refine zk (λs h'=>h'=h2/\s.1=decide (z58 c.kind)) ?_ (Z8i (T:=λs h'=>h'=h2/\s.1=decide (z58 c.kind)) ⟨rfl,rfl⟩)
     rintro⟨b,_⟩ h2 ⟨rfl,hbb⟩
     simp only at hbb
     subst hbb
     refine ze (λh4=>?_) (λh4=>?_)
     . rw[if_pos h4]at vc
       refine zsm (x2.le hle) ?_ λb h5 hl5 hb=>hk _ _ (Hp.le_trans hle hl5) (vc hb)
       have:(shK c.kind).1=4:=by unfold z58 at h4;rcases h4 with h4 | h4 | h4 | h4<;>rw[h4]<;>rfl
       omega
     . rw[if_neg h4]at vc
       refine z9k (x2.le hle) (by omega) λb h5 hl5 hb=>?_
       refine zp (λh6=>?_) (λh6=>hk _ _ (Hp.le_trans hle hl5) (vc ⟨λhh=>(by cases hh),λhh=>by rw[hb.2 hh.1]at h6;cases h6⟩))
       refine z9k ((x3.le hle).le hl5) (by omega) λb' h7 hl7 hb'=>hk _ _ (Hp.le_trans hle (Hp.le_trans hl5 hl7)) (vc ?_)
       rw[hb']
       exact⟨λhh=>⟨hb.1 h6,hh⟩,λhh=>hh.2⟩
   . refine zt rfl ?_
     refine zfk x2 (by omega) λb h1 hl1 hb=>?_
     refine zp (λh2=>no _ hl1 λhv=>?_) (λh2=>?_)
     . have:b=true:=hb.2 ⟨by rw[hv.2.1.1],hv.2.1.2⟩
       rw[this]at h2;cases h2
     have hb1:=hb.1 (by simpa using h2)
     refine zfk (x3.le hl1) (by omega) λb3 h3 hl3 hb3=>?_
     have hle:=Hp.le_trans hl1 hl3
     refine zp (λh4=>no _ hle λhv=>?_) (λh4=>?_)
     . have:b3=true:=hb3.2 ⟨by rw[hv.2.2.1.1],hv.2.2.1.2⟩
       rw[this]at h4;cases h4
     have hb4:=hb3.1 (by simpa using h4)
     refine yk (λh5=>no _ hle λhv=>h5 ?_) (λh5=>⟨hle,hb1,hb4,by simp only at h5;omega⟩)
     have:=hv.2.2.2.1
     simp only
     omega
 . exact zk (λ_ _=>False) (λ_ _ hh=>hh.elim) (y7 rfl (no _ (Hp.le_refl _) λhv=>hn hv.1))
end
end Den
end

section
namespace Den
open Go Iv Lx
theorem z9q{h:Hp}{Ki:Int->Hp->Prop}{body:(Int×Unit)->((Int×Unit)->Hp->Prop)->Hp->Prop}{n:Nat}{g:Nat->Prop}(hn:n<=140737488355328)
 (hb:∀(i:Nat) h' (k:(Int×Unit)->Hp->Prop),h.le h'->i<n->(∀b h'',h'.le h''->(b=true↔g i)->ifP b (Ki (i:Int) h'') (k (i64.wrap ((i:Int)+1),()) h''))->body ((i:Int),()) k h')
 (he:∀h' (k:(Int×Unit)->Hp->Prop),Ki (-1) h'->body ((n:Int),()) k h')
 (H:∀r h',h.le h'->(0<=r↔∃i,i<n/\g i)->Ki r h'):zr body (0,()) h:=by
 refine Y0 hn (λi h'=>h.le h'/\∀j,j<i->¬g j) ⟨Hp.le_refl _,λj hj=>by omega⟩ ?_
 rintro i h1 hi ⟨hl1,hno⟩ k hk2
 by_cases hi':i<n
 . refine hb i h1 k hl1 hi' λb h2 hl2 hbg=>?_
   refine zp (λh3=>H _ _ (Hp.le_trans hl1 hl2) ⟨λ_=>⟨i,hi',hbg.1 h3⟩,λ_=>by omega⟩) (λh3=>hk2 _ hi' ⟨Hp.le_trans hl1 hl2,λj hj=>?_⟩)
   rcases Nat.lt_or_ge j i with h5 | h5
   . exact hno j h5
   . have:j=i:=by omega
     subst this
     intro hg
     rw[hbg.2 hg]at h3;cases h3
 . obtain rfl:i=n:=by omega
   exact he h1 k (H _ _ hl1 ⟨λhh=>by omega,λ⟨j,hj,hg⟩=>absurd hg (hno j hj)⟩)
def eqP{α:Type}(h:Hp)(x b:α):Prop:=x=b
def ptc(x:TPoint):List Value:=[.bool x.x.num.neg,Lf.sl.up x.x.num.mag,.bool x.x.den.neg,Lf.sl.up x.x.den.mag,.bool x.y.num.neg,Lf.sl.up x.y.num.mag,.bool x.y.den.neg,Lf.sl.up x.y.den.mag]
def rdc(x:TRound):List Value:=[.int .i64 x.center,.bool x.radius.num.neg,Lf.sl.up x.radius.num.mag,.bool x.radius.den.neg,Lf.sl.up x.radius.den.mag]
def sgc(x:TSegment):List Value:=[.int .i64 x.a,.int .i64 x.b]
def Z80(x:TArc):List Value:=[.int .i64 x.circle,.int .i64 x.a,.int .i64 x.b,.bool x.cw]
def pic(x:TPiece):List Value:=[.bool x.arc,.int .i64 x.index,.bool x.back]
def slc(x:Sl):List Value:=[Lf.sl.up x]
def PTT(h:Hp)(x:TPoint)(b:Option Rat×Option Rat):Prop:=OR h x.x b.1/\OR h x.y b.2
def RN(h:Hp)(x:TRound)(b:Int×Option Rat):Prop:=x.center=b.1/\OR h x.radius b.2
def CHN(h:Hp)(x:Sl)(ps:List TPiece):Prop:=LR pic 3 eqP h x ps
theorem z3r:Rec ptc 8 PTT:=⟨λ_=>rfl,by decide,λ_=>rfl,λhx hl=>⟨hx.1.le hl,hx.2.le hl⟩⟩
theorem z6e:Rec rdc 5 RN:=⟨λ_=>rfl,by decide,λ_=>rfl,λhx hl=>⟨hx.1,hx.2.le hl⟩⟩
theorem zab:Rec sgc 2 eqP:=⟨λ_=>rfl,by decide,λ_=>rfl,λhx hl=>hx⟩
theorem z44:Rec Z80 4 eqP:=⟨λ_=>rfl,by decide,λ_=>rfl,λhx hl=>hx⟩
theorem zma:Rec pic 3 eqP:=⟨λ_=>rfl,by decide,λ_=>rfl,λhx hl=>hx⟩
theorem z89:Rec slc 1 CHN:=⟨λ_=>rfl,by decide,λ_=>rfl,λhx hl=>LR.le zma hx hl⟩
structure PSk where
 pts:List (Option Rat×Option Rat)
 cir:List (Int×Option Rat)
 seg:List TSegment
 arc:List TArc
 chn:List (List TPiece)
 con:List PCon
def SK(h:Hp)(s:TSketch)(S:PSk):Prop:=
 LR ptc 8 PTT h s.points S.pts/\LR rdc 5 RN h s.circles S.cir/\LR sgc 2 eqP h s.segments S.seg/\LR Z80 4 eqP h s.arcs S.arc/\LR slc 1 CHN h s.chains S.chn/\LR cc 5 CO h s.constraints S.con
theorem SK.le{h h':Hp}{s:TSketch}{S:PSk}(hx:SK h s S)(hl:h.le h'):SK h' s S:=
 ⟨hx.1.le z3r hl,hx.2.1.le z6e hl,hx.2.2.1.le zab hl,hx.2.2.2.1.le z44 hl,hx.2.2.2.2.1.le z89 hl,hx.2.2.2.2.2.le Yx hl⟩
def sSk(S:PSk):Prop:=S.pts.length<=10/\S.cir.length<=10/\S.seg.length<=10/\S.arc.length<=10/\S.chn.length<=10/\S.con.length<=20/\(∀c∈S.chn,c.length<=20)/\∀c∈S.con,sC c
def z9u(n:Nat)(i:Int):Prop:=0<=i/\i<n
def cen(S:PSk)(i:Int):Int:=(S.cir.getD i.toNat (0,none)).1
def z9n(S:PSk)(p:TPiece):Int×Int:=
 let q:=if p.arc=true then ((S.arc.getD p.index.toNat ⟨0,0,0,false⟩).a,(S.arc.getD p.index.toNat ⟨0,0,0,false⟩).b)else ((S.seg.getD p.index.toNat ⟨0,0⟩).a,(S.seg.getD p.index.toNat ⟨0,0⟩).b)
 if p.back=true then (q.2,q.1)else q
def okP(S:PSk)(p:TPiece):Prop:=z9u (if p.arc=true then S.arc.length else S.seg.length) p.index
def VCh(S:PSk)(c:List TPiece):Prop:=c≠[]/\(∀p∈c,okP S p)/\∀i (h:i+1<c.length),(z9n S c[i]).2=(z9n S c[i+1]).1
def VA(S:PSk)(a:TArc):Prop:=z9u S.cir.length a.circle/\z9u S.pts.length a.a/\z9u S.pts.length a.b/\a.a≠cen S a.circle/\a.b≠cen S a.circle
def VR(S:PSk)(c:Int×Option Rat):Prop:=z9u S.pts.length c.1/\∃q,c.2=some q/\0<q.num
def VG(S:PSk)(g:TSegment):Prop:=z9u S.pts.length g.a/\z9u S.pts.length g.b/\g.a≠g.b
def VP(p:Option Rat×Option Rat):Prop:=p.1.isSome=true/\p.2.isSome=true
def VS(S:PSk):Prop:=(∀p∈S.pts,VP p)/\(∀c∈S.cir,VR S c)/\(∀g∈S.seg,VG S g)/\(∀a∈S.arc,VA S a)/\(∀c∈S.chn,VCh S c)/\∀c∈S.con,VC c S.pts.length S.cir.length
theorem Q9{α:Type}{l:List α}{i:Nat}{d:α}(h:i<l.length):l.getD i d=l[i]:=by rw[List.getD_eq_getElem?_getD,List.getElem?_eq_getElem h];rfl
theorem zeb{α:Type}{l:List α}{P:α->Prop}:(∃i,i<l.length/\∃h:i<l.length,¬P l[i])↔¬∀x∈l,P x:=by
 constructor
 . rintro⟨i,hi,h,hn⟩ hh
   exact hn (hh _ (List.getElem_mem h))
 . intro hh
   apply Classical.byContradiction
   intro hn
   exact hh λx hx=>by
    obtain⟨i,hi,rfl⟩:=List.mem_iff_getElem.1 hx
    exact Classical.byContradiction λhp=>hn ⟨i,hi,hi,hp⟩
section
variable {h : Hp} {s : TSketch} {S : PSk} {Kb : Bool → Hp → Prop} {Ki : Int → Hp → Prop} {l : Sl}
theorem z60{n:Nat}{i:Int}(H:∀b,(b=true↔z9u n i)->Kb b h):zc (F.W8 (n:Int) i) Kb h:=by
 refine zd (λb h'=>h'=h/\(b=true↔z9u n i)) (λK' hk=>?_) λb h' _ hb=>by obtain⟨rfl,hb⟩:=hb;exact H b hb
 unfold F.W8
 refine ze (λh1=>hk _ _ (Hp.le_refl _) ⟨rfl,by rw[decide_eq_true_iff];exact⟨λhh=>⟨h1,hh⟩,λhh=>hh.2⟩⟩) (λh1=>hk _ _ (Hp.le_refl _) ⟨rfl,λhh=>(by cases hh),λhh=>absurd hh.1 h1⟩)
theorem zld(hx:SK h s S)(hs:sSk S)(H:∀h',h.le h'->Kb false h'):zc (F.z3a s) Kb h:=by
 refine zd (λb h'=>b=false) (λK' hk=>?_) λb h' hl hb=>by subst hb;exact H h' hl
 unfold F.z3a
 obtain⟨x1,x2,x3,x4,x5,x6⟩:=hx
 obtain⟨s1,s2,s3,s4,s5,s6,s7,s8⟩:=hs
 have l1:=x1.len z3r
 have l2:=x2.len z6e
 have l3:=x3.len zab
 have l4:=x4.len z44
 have l5:=x5.len z89
 have l6:=x6.len Yx
 refine z8m λa h1 hl1 hc=>?_
 have hr:IL h1 ⟨some a,6,6⟩ [(s.points.len:Int),s.circles.len,s.segments.len,s.arcs.len,s.chains.len,s.constraints.len]:=⟨z0g hc rfl,Nat.le_refl _⟩
 refine Y0 (n:=6) (by omega) (λi h'=>h'=h1) rfl ?_
 rintro i h1 hi rfl k hk2
 refine ze (λh2=>?_) (λh2=>?_)
 . have hi':i<6:=by have:(i:Int)<6:=h2;omega
   have hall:∀z∈([(s.points.len:Int),s.circles.len,s.segments.len,s.arcs.len,s.chains.len,s.constraints.len]:List Int),z<=20:=by
    simp only[List.mem_cons,List.not_mem_nil,or_false,forall_eq_or_imp,forall_eq]
    omega
   have h9:=hall _ (List.getElem_mem (show i<([(s.points.len:Int),s.circles.len,s.segments.len,s.arcs.len,s.chains.len,s.constraints.len]:List Int).length from hi'))
   refine hr.get i rfl hi' (ze (λh3=>?_) (λh3=>hk2 _ hi' rfl))
   exfalso
   have h3:_>(200:Int):=h3
   omega
 . refine zd (λb h'=>b=false) (λK2 hk3=>?_) λb h' hl hb=>hk _ _ (Hp.le_trans hl1 hl) hb
   unfold F.Z5
   refine zd (λr h'=>¬0<=r) (λK4 hk4=>?_) λr h' hl hr=>hk3 _ _ hl (decide_eq_false hr)
   unfold F.yh
   refine z9q (n:=S.chn.length) (g:=λi=>False) (by omega) (λi h' k hl hi' hb=>?_) (λh' k hk=>ze (λhh=>by simp only at hh;omega) (λ_=>hk)) (λr h' hl hr=>hk4 _ _ hl (λhh=>by obtain⟨_,_,hf⟩:=hr.1 hh;exact hf))
   refine ze (λ_=>?_) (λhh=>by simp only at hh;omega)
   refine(x5.le z89 (Hp.le_trans hl1 hl)).get z89 i rfl hi' λb x hxx hcc=>?_
   have e0:=hcc 0 _ rfl
   rw[Zv]at e0
   refine⟨_,e0,?_⟩
   have hxl:=LR.len zma hxx
   have:=s7 _ (List.getElem_mem hi')
   refine Zf false (λK' hk=>?_) (hb false _ (Hp.le_refl _) (by simp))
   unfold F.z3w
   rw[decide_eq_false (by omega)];exact hk
theorem Z55{p:TPiece}{K:(Int×Int)->Hp->Prop}(hx:SK h s S)(hp:okP S p)(H:K (z9n S p) h):F.z4t s p K h:=by
 unfold F.z4t
 obtain⟨x1,x2,x3,x4,x5,x6⟩:=hx
 unfold okP z9u at hp
 unfold z9n at H
 refine zk (λst h'=>h'=h/\(st.1,st.2.1)=(if p.arc=true then ((S.arc.getD p.index.toNat ⟨0,0,0,false⟩).a,(S.arc.getD p.index.toNat ⟨0,0,0,false⟩).b)else ((S.seg.getD p.index.toNat ⟨0,0⟩).a,(S.seg.getD p.index.toNat ⟨0,0⟩).b))) ?_ ?_
 . rintro⟨a,b,_⟩ h ⟨rfl,hab⟩
   simp only at hab H
   rw[<-hab]at H
   refine zp (λh1=>?_) (λh1=>?_)
   . rw[if_pos h1]at H;exact H
   . rw[h1]at H;exact H
 . refine zp (λh1=>?_) (λh1=>?_)
   . rw[if_pos h1]at hp
     have hk:p.index.toNat<S.arc.length:=by omega
     refine x4.get z44 p.index.toNat (by omega) hk λa x hxx hc=>⟨_,hc 1 _ rfl,x4.get z44 p.index.toNat (by omega) hk λb y hyy hc2=>⟨_,hc2 2 _ rfl,rfl,?_⟩⟩
     have e1:x=S.arc[p.index.toNat]:=hxx
     have e2:y=S.arc[p.index.toNat]:=hyy
     subst e1
     rw[if_pos h1,Q9 hk,e2]
   . rw[h1]at hp
     simp only[Bool.false_eq_true,if_false]at hp
     have hk:p.index.toNat<S.seg.length:=by omega
     refine x3.get zab p.index.toNat (by omega) hk λa x hxx hc=>⟨_,hc 0 _ rfl,x3.get zab p.index.toNat (by omega) hk λb y hyy hc2=>⟨_,hc2 1 _ rfl,rfl,?_⟩⟩
     have e1:x=S.seg[p.index.toNat]:=hxx
     have e2:y=S.seg[p.index.toNat]:=hyy
     subst e1
     rw[h1,Q9 hk,e2]
     rfl
theorem zsy{p:TPiece}{K:(Int×Int)->Hp->Prop}(hx:SK h s S)(hp:okP S p)(H:K (z9n S p) h):zc (F.z4t s p) K h:=Zf _ (λK' hk=>Z55 hx hp hk) H
end
end Den
end

section
namespace Den
open Go Iv Lx Go.Proofs
open Go.ChangeShapes Go.WideShapes Go.ChangeAt Go.RowKit
theorem Ziq:laidOutB Tryz.prog=true:=by kernel_rfl
theorem Zdm:mapsRowed Tryz.prog=true:=by kernel_rfl
theorem Zds:zt1 Tryz.prog=true:=by kernel_rfl
theorem Zbq:Tryz.prog.cellsOf 4=1:=by kernel_rfl
theorem Z9r:Tryz.prog.cellsOf 3=1:=by kernel_rfl
section
variable {H : Type} {enc : TypeId × Value → H} {P : Program} {w : World}
theorem Wb{cs a r:List Value}{o k:Nat}(h1:(cs.drop o).take k=a)(h2:cs.drop (o+k)=r):cs.drop o=a++r:=by
 rw[<-h1,<-h2,<-List.drop_drop,List.take_append_drop]
theorem zjs{cs:List Value}{n:Nat}(h:cs.length=n):cs.drop n=[]:=List.drop_of_length_le (by omega)
end
section
variable {H : Type} {enc : TypeId × Value → H} {w : World} {cs : List Value}
end
end Den
end

section
namespace Den
open Go Iv Lx Go.Proofs Go.Proofs.YtijmjfcnjfnpgaaGreatDoor
open Go.ChangeShapes Go.WideShapes Go.ChangeAt Go.RowKit
theorem z5f{P:Program}{w:World}:∀{l:List (String×DataW Unit)} {ps:List MemPlace},DataW.LaidVars P w l ps->∀{n:String} {d:DataW Unit},(n,d)∈l ->
 ∃g t cs fuel p,P.globalNamed n=some g/\(P.globals[g]?).map (·.type)=some t/\w.var? P n=some cs/\DataW.trod (λ_=>()) P w 0 (λ_=>true) false fuel t cs.toList=some (d,p)
 | [],_,_,_,_,hm=>by simp at hm
 | (n0,d0) :: r,_,⟨g,t,cs,fuel,p,q,h1,h2,h3,h4,h5,_⟩,n,d,hm=>by
   rcases List.mem_cons.1 hm with e | hm
   . cases e
     exact⟨g,t,cs,fuel,p,h1,h2,h3,h4⟩
   . exact z5f h5 hm
section
variable {H : Type} {enc : TypeId × Value → H} {P : Program} {w : World} {base : Nat} {sp : Nat → Bool} {held : Bool} {n : Nat} {t e : TypeId} {cs : List Value} {ps : List MemPlace}
theorem zd1{k:IntKind}{ns:List Int}{m:Nat}(ht:P.underlying t=some (.array m e))(he:P.underlying e=some (.int k))(hc:P.cellsOf e=1)
 (h:DataW.trod enc P w base sp held n t cs=some (.agg (ns.map λz=>.lit (.int k z)),ps)):∀i,i<ns.length->cs[i]?=some (.int k (ns.getD i 0)):=by
 obtain⟨xs,q,_,hx,hl,hxl,hf⟩:=DataW.trod_array ht h
 simp only[Prod.mk.injEq,DataW.agg.injEq]at hx
 intro i hi
 have hxs:xs.length=ns.length:=by have:=congrArg List.length hx.1;simpa using this.symm
 have h1:=hf i (by omega)
 rw[hc,Nat.mul_one,List.getElem?_eq_getElem (by omega)]at h1
 have h2:xs[i].1=.lit (.int k ns[i]):=by
  have:=congrArg (λl:List (DataW H)=>l[i]?) hx.1
  simp only[List.getElem?_map]at this
  rw[List.getElem?_eq_getElem hi,List.getElem?_eq_getElem (by omega)]at this
  exact(Option.some.inj this).symm
 obtain⟨z,e1,e2,_⟩:=DataW.trod_int he h1
 rw[e2]at h2
 have hz:z=ns[i]:=by simpa using h2
 have h3:((cs.drop i).take 1)[0]?=some (.int k z):=by rw[e1];rfl
 rw[hz]at h3
 have e4:ns.getD i 0=ns[i]:=by rw[List.getD_eq_getElem?_getD,List.getElem?_eq_getElem hi];rfl
 rw[e4]
 simpa [List.getElem?_take,List.getElem?_drop] using h3
theorem zpg{cs a:List Value}{o k j:Nat}{v:Value}(h:(cs.drop o).take k=a)(hv:a[j]?=some v):cs[o+j]?=some v:=by
 rw[<-h]at hv
 rw[List.getElem?_take]at hv
 split at hv
 . rw[List.getElem?_drop]at hv;exact hv
 . cases hv
theorem zax{k:IntKind}{z:Int}(he:P.underlying t=some (.int k))(h:DataW.trod enc P w base sp held n t cs=some (.lit (.int k z),ps)):cs=[.int k z]:=by
 obtain⟨y,e1,e2,_⟩:=DataW.trod_int he h
 simp only[Prod.mk.injEq,DataW.lit.injEq,Lit.int.injEq]at e2
 rw[e1,e2.1.2]
theorem zbs{b:Bool}(he:P.underlying t=some .bool)(h:DataW.trod enc P w base sp held n t cs=some (.lit (.bool b),ps)):cs=[.bool b]:=by
 obtain⟨y,e1,e2⟩:=DataW.trod_bool he h
 simp only[Prod.mk.injEq,DataW.lit.injEq,Lit.bool.injEq]at e2
 rw[e1,e2.1]
end
theorem zqd(g i:Nat):(⟨g,0,none⟩:Addr).add i=⟨g,i,none⟩:=by
 have h1:=Yg (⟨g,0,none⟩:Addr) i
 have h2:=Xv (⟨g,0,none⟩:Addr) i
 have h3:=V6 (a:=(⟨g,0,none⟩:Addr)) rfl i
 cases hh:(⟨g,0,none⟩:Addr).add i with
 | mk a b c=>
   rw[hh]at h1 h2 h3
   simp only at h1 h2 h3
   subst h1 h2 h3
   simp
theorem Zku:Tryz.prog.globalNamed "internal/strconv.uint64pow10"=some 2:=by kernel_rfl
theorem Zkt:Tryz.prog.globalNamed "setsquare/formula.operands"=some 1:=by kernel_rfl
theorem Zkv:Tryz.prog.globalNamed "setsquare/constraint.table"=some 0:=by kernel_rfl
theorem Zl4:(Tryz.prog.globals[2]?).map (·.type)=some 401:=by kernel_rfl
theorem Zl3:(Tryz.prog.globals[1]?).map (·.type)=some 309:=by kernel_rfl
theorem Zl5:(Tryz.prog.globals[0]?).map (·.type)=some 265:=by kernel_rfl
theorem Zj0:Tryz.prog.cellsOf 203=1:=by kernel_rfl
theorem Ziz:Tryz.prog.cellsOf 264=8:=by kernel_rfl
theorem Z9s:Tryz.prog.cellsOf 214=7:=by kernel_rfl
section
variable {W : World}
theorem Zd1{H:Type}{enc:TypeId×Value->H}{n:Nat}{c:List Value}{nm:DataW H}{a b d e:Int}{f g k:Bool}{ps:List MemPlace}
 (h:DataW.trod enc Tryz.prog W 0 (λ_=>true) false n 264 c=some (.agg [nm,.agg [.lit (.int .i64 a),.lit (.int .i64 b),.lit (.int .i64 d),.lit (.int .i64 e),.lit (.bool f),.lit (.bool g),.lit (.bool k)]],ps)) :
 ∀j v,([.int .i64 a,.int .i64 b,.int .i64 d,.int .i64 e,.bool f,.bool g,.bool k]:List Value)[j]?=some v->c[1+j]?=some v:=by
 obtain⟨xs,m,_,hx,hl,hxl,hf⟩:=DataW.trod_struct Tryz.underlying264 h
 simp only[Prod.mk.injEq,DataW.agg.injEq]at hx
 have h1:DataW.trod enc Tryz.prog W 0 (λ_=>true) false m 214 ((c.drop 1).take (Tryz.prog.cellsOf 214))=xs[1]?:=hf 1 _ rfl
 rw[Z9s]at h1
 match xs,hx with
 | [x0,x1],hx=>
   simp only[List.map_cons,List.map_nil,List.cons.injEq,and_true]at hx
   obtain⟨⟨_,hx1⟩,_⟩:=hx
   simp only[List.getElem?_cons_succ,List.getElem?_cons_zero]at h1
   obtain⟨d1,p1⟩:=x1
   simp only at hx1
   subst hx1
   obtain⟨ys,q,_,hy,hyl,hyl2,hg⟩:=DataW.trod_struct Tryz.underlying214 h1
   simp only[Prod.mk.injEq,DataW.agg.injEq]at hy
   match ys,hy with
   | [y0,y1,y2,y3,y4,y5,y6],hy=>
     simp only[List.map_cons,List.map_nil,List.cons.injEq,and_true]at hy
     obtain⟨⟨z0,z1,z2,z3,z4,z5,z6⟩,_⟩:=hy
     have g0:DataW.trod enc Tryz.prog W 0 (λ_=>true) false q 3 ((((c.drop 1).take 7).drop 0).take (Tryz.prog.cellsOf 3))=some y0:=hg 0 _ rfl
     have g1:DataW.trod enc Tryz.prog W 0 (λ_=>true) false q 3 ((((c.drop 1).take 7).drop 1).take (Tryz.prog.cellsOf 3))=some y1:=hg 1 _ rfl
     have g2:DataW.trod enc Tryz.prog W 0 (λ_=>true) false q 3 ((((c.drop 1).take 7).drop 2).take (Tryz.prog.cellsOf 3))=some y2:=hg 2 _ rfl
     have g3:DataW.trod enc Tryz.prog W 0 (λ_=>true) false q 3 ((((c.drop 1).take 7).drop 3).take (Tryz.prog.cellsOf 3))=some y3:=hg 3 _ rfl
     have g4:DataW.trod enc Tryz.prog W 0 (λ_=>true) false q 4 ((((c.drop 1).take 7).drop 4).take (Tryz.prog.cellsOf 4))=some y4:=hg 4 _ rfl
     have g5:DataW.trod enc Tryz.prog W 0 (λ_=>true) false q 4 ((((c.drop 1).take 7).drop 5).take (Tryz.prog.cellsOf 4))=some y5:=hg 5 _ rfl
     have g6:DataW.trod enc Tryz.prog W 0 (λ_=>true) false q 4 ((((c.drop 1).take 7).drop 6).take (Tryz.prog.cellsOf 4))=some y6:=hg 6 _ rfl
     rw[Z9r]at g0 g1 g2 g3
     rw[Zbq]at g4 g5 g6
     obtain⟨u0,w0⟩:=y0;obtain⟨u1,w1⟩:=y1;obtain⟨u2,w2⟩:=y2;obtain⟨u3,w3⟩:=y3;obtain⟨u4,w4⟩:=y4;obtain⟨u5,w5⟩:=y5;obtain⟨u6,w6⟩:=y6
     simp only at z0 z1 z2 z3 z4 z5 z6
     subst z0 z1 z2 z3 z4 z5 z6
     have r0:=zax Tryz.underlying3 g0
     have r1:=zax Tryz.underlying3 g1
     have r2:=zax Tryz.underlying3 g2
     have r3:=zax Tryz.underlying3 g3
     have r4:=zbs Tryz.underlying4 g4
     have r5:=zbs Tryz.underlying4 g5
     have r6:=zbs Tryz.underlying4 g6
     have hall:(c.drop 1).take 7=[.int .i64 a,.int .i64 b,.int .i64 d,.int .i64 e,.bool f,.bool g,.bool k]:=by
      have hl7:((c.drop 1).take 7).length=7:=by rw[Z9s]at hyl;exact hyl
      exact Wb r0 (Wb r1 (Wb r2 (Wb r3 (Wb r4 (Wb r5 (Wb r6 (zjs hl7)))))))
     intro j v hv
     exact zpg hall hv
def Zaz:List Int:=[1,10,100,1000,10000,100000,1000000,10000000,100000000,1000000000,10000000000,100000000000,1000000000000,10000000000000,100000000000000,1000000000000000,10000000000000000,100000000000000000,1000000000000000000,10000000000000000000]
theorem Z4z:∀i:Fin 20,Zaz.getD i 0=((10 ^ (i:Nat):Nat):Int):=by decide
theorem Zlb{l:List (String×DataW Unit)}(h:laidMet Tryz.prog l W)(h1:("internal/strconv.uint64pow10",Rows.laid_internal_strconv_uint64pow10)∈l)
 (h2:("setsquare/formula.operands",Rows.laid_setsquare_formula_operands)∈l) (h3:("setsquare/constraint.table",Rows.laid_setsquare_constraint_table)∈l):GT (hpW W):=by
 obtain⟨ps,hv,_⟩:=h
 refine⟨λi hi=>?_,λi hi=>?_,λk hk1 hk2=>?_⟩
 . obtain⟨g,t,cs,fuel,p,hg,ht,hvar,hd⟩:=z5f hv h1
   obtain rfl:=Option.some.inj (Zku.symm.trans hg)
   obtain rfl:=Option.some.inj (Zl4.symm.trans ht)
   have hd':DataW.trod (λ_=>()) Tryz.prog W 0 (λ_=>true) false fuel 401 cs.toList=some (.agg (Zaz.map λz=>.lit (.int .u64 z)),p):=hd
   have:=zd1 Tryz.underlying401 Tryz.underlying203 Zj0 hd' i hi
   rw[zcz,zqd,World.var?_cell hg hvar i,<-Array.getElem?_toList,this]
   have e:=Z4z ⟨i,hi⟩
   rw[<-e]
 . obtain⟨g,t,cs,fuel,p,hg,ht,hvar,hd⟩:=z5f hv h2
   obtain rfl:=Option.some.inj (Zkt.symm.trans hg)
   obtain rfl:=Option.some.inj (Zl3.symm.trans ht)
   have hd':DataW.trod (λ_=>()) Tryz.prog W 0 (λ_=>true) false fuel 309 cs.toList=some (.agg (([0,0,0,1,2,2,2,2]:List Int).map λz=>.lit (.int .i64 z)),p):=hd
   have:=zd1 Tryz.underlying309 Tryz.underlying3 Z9r hd' i hi
   rw[zcz,zqd,World.var?_cell hg hvar i,<-Array.getElem?_toList,this]
 . obtain⟨g,t,cs,fuel,p,hg,ht,hvar,hd⟩:=z5f hv h3
   obtain rfl:=Option.some.inj (Zkv.symm.trans hg)
   obtain rfl:=Option.some.inj (Zl5.symm.trans ht)
   obtain⟨xs,q,_,hx,hl,hxl,hf⟩:=DataW.trod_array Tryz.underlying265 hd
   simp only[Prod.mk.injEq]at hx
   have hk:=hf k (by omega)
   rw[Ziz]at hk
   rw[List.getElem?_eq_getElem (by omega)]at hk
   have hx1:(xs.map (·.1))=(match (Rows.laid_setsquare_constraint_table:DataW Unit)with | .agg l=>l | _=>[]):=by rw[hx.1]
   have hxk:(xs[k]'(by omega)).1=((match (Rows.laid_setsquare_constraint_table:DataW Unit)with | .agg l=>l | _=>[]):List (DataW Unit)).getD k .nil:=by
    rw[<-hx1,List.getD_eq_getElem?_getD,List.getElem?_map,List.getElem?_eq_getElem (by omega)]
    rfl
   have fin:∀(nm:DataW Unit) (a b d e:Int) (f g kk:Bool),(xs[k]'(by omega)).1=.agg [nm,.agg [.lit (.int .i64 a),.lit (.int .i64 b),.lit (.int .i64 d),.lit (.int .i64 e),.lit (.bool f),.lit (.bool g),.lit (.bool kk)]] ->
    ((shK k).1:Int)=a->((shK k).2.1:Int)=b->((shK k).2.2.1:Int)=d->((shK k).2.2.2.1:Int)=e->(shK k).2.2.2.2=f ->
    ∃ln ps:Bool,∀j v,([.int .i64 ((shK k).1:Int),.int .i64 ((shK k).2.1:Int),.int .i64 ((shK k).2.2.1:Int),.int .i64 ((shK k).2.2.2.1:Int),.bool (shK k).2.2.2.2,.bool ln,.bool ps]:List Value)[j]?=some v ->
     (hpW W).cell ((((⟨0,0,none⟩:Addr).add (k*8)).add 1).add j)=some v:=by
    intro nm a b d e f g kk he ea eb ed ee ef
    refine⟨g,kk,λj v hv=>?_⟩
    have hk':DataW.trod (λ_=>()) Tryz.prog W 0 (λ_=>true) false q 264 ((cs.toList.drop (k*8)).take 8)=some (.agg [nm,.agg [.lit (.int .i64 a),.lit (.int .i64 b),.lit (.int .i64 d),.lit (.int .i64 e),.lit (.bool f),.lit (.bool g),.lit (.bool kk)]],(xs[k]'(by omega)).2):=by
     rw[hk]
     congr 1
     exact Prod.ext he rfl
    rw[ea,eb,ed,ee,ef]at hv
    have h5:=Zd1 hk' j v hv
    have h6:cs.toList[k*8+(1+j)]?=some v:=zpg rfl h5
    rw[zcz,Wr,Wr,zqd,World.var?_cell hg hvar,<-Array.getElem?_toList]
    exact h6
   clear hd hf hk hl hx hx1
   rcases(by omega:k=1\/k=2\/k=3\/k=4\/k=5\/k=6\/k=7\/k=8\/k=9\/k=10\/k=11\/k=12\/k=13\/k=14\/k=15\/k=16\/k=17)with rfl | rfl | rfl | rfl | rfl | rfl | rfl | rfl | rfl | rfl | rfl | rfl | rfl | rfl | rfl | rfl | rfl <;>
    exact fin _ _ _ _ _ _ _ _ hxk rfl rfl rfl rfl rfl
end
end Den
end

section
namespace Den
open Go
def zac{α:Type}(enc:α->List Value)(size:Nat)(srt:List α->List α)(x:Sl)(K:Unit->Hp->Prop)(h:Hp):Prop:=(x.len=0/\K () h) \/ ∃(b o:Nat) (bl:Blk) (xs:List α),x.a=some ⟨b,o,none⟩/\x.len=xs.length/\xs.length<=140737488355328/\h b=some bl/\bl.fz=(0,0)/\o+xs.length*size<=bl.cells.length /\ (bl.cells.drop o).take (xs.length*size)=xs.flatMap enc/\K () (h.ins b { bl with cells:=Zb bl.cells o ((srt xs).flatMap enc) })
def Z8d(z:Int):List Value:=[.int .i64 z]
def Q8(e:Int×Int):List Value:=[.int .i64 e.1,.int .i64 e.2]
def Z9g(xs:List Int):List Int:=xs.mergeSort λx y=>decide (x<=y)
def z1e(a b:Int×Int):Int:=if a.1<b.1 then -1 else if b.1<a.1 then 1 else if a.2<b.2 then -1 else if b.2<a.2 then 1 else 0
def z6t(xs:List (Int×Int)):List (Int×Int):=xs.mergeSort λx y=>!(decide (z1e y x<0))
end Den
end

section
set_option maxRecDepth 10000
namespace Den
open Go
structure TNumber where
 radicands:Sl
 coefs:Sl
def Zq:Ty TNumber:=Ty.agg [.sl,.sl] (λx=>(x.radicands,x.coefs,())) (λy=>⟨y.1,y.2.1⟩) (λ_=>rfl) (λ_=>rfl)
structure Tnumber_embedding where
 into:Sl
 roots:Sl
def z5a:Ty Tnumber_embedding:=Ty.agg [.sl,.sl] (λx=>(x.into,x.roots,())) (λy=>⟨y.1,y.2.1⟩) (λ_=>rfl) (λ_=>rfl)
structure Tmatrix_reduced where
 rows:Sl
 pivots:Sl
 det:TNumber
def zdl:Ty Tmatrix_reduced:=Ty.agg [.sl,.sl,.sl,.sl] (λx=>(x.rows,x.pivots,x.det.radicands,x.det.coefs,())) (λy=>⟨y.1,y.2.1,⟨y.2.2.1,y.2.2.2.1⟩⟩) (λ_=>rfl) (λ_=>rfl)
structure TTree where
 a:Int
 b:Int
 c:Int
 parts:Sl
def z3g:Ty TTree:=Ty.agg [.int .i64,.int .i64,.int .i64,.sl] (λx=>(x.a,x.b,x.c,x.parts,())) (λy=>⟨y.1,y.2.1,y.2.2.1,y.2.2.2.1⟩) (λ_=>rfl) (λ_=>rfl)
namespace F
def z23(g:TGraph)(at_:Sl)(K:TSketch->Hp->Prop)(h:Hp):Prop:=(zr (S:=(Sl×Sl×Sl×Sl×Sl×Sl×Unit)×Int×Unit) (λs1 k2 h1=>(ifP (decide (s1.2.1<g.n)) (zg at_ s1.2.1 2 λa3=>(ldL (.int .i8) (a3.add 0) (λx4=>(zg at_ s1.2.1 2 λa5=>(ldL (.int .i8) (a5.add 1) (λx6=>(zc (W7 (i64.wrap (x4))) (λr7 h2=>(zc (W7 (i64.wrap (x6))) (λr8 h3=>(Y5 8 128 [.bool false,.slice zf.a zf.len zf.cap,.bool false,.slice zf.a zf.len zf.cap,.bool false,.slice zf.a zf.len zf.cap,.bool false,.slice zf.a zf.len zf.cap] s1.1.1 1 [.bool r7.num.neg,.slice r7.num.mag.a r7.num.mag.len r7.num.mag.cap,.bool r7.den.neg,.slice r7.den.mag.a r7.den.mag.len r7.den.mag.cap,.bool r8.num.neg,.slice r8.num.mag.a r8.num.mag.len r8.num.mag.cap,.bool r8.den.neg,.slice r8.den.mag.a r8.den.mag.len r8.den.mag.cap] (λw9 h4=>(k2 ((w9,s1.1.2.1,s1.1.2.2.1,s1.1.2.2.2.1,s1.1.2.2.2.2.1,s1.1.2.2.2.2.2.1,()),(i64.wrap (s1.2.1+1)),()) h4)) h3)) h2)) h1)) h1))) h1)) (zr (S:=(Sl×Sl×Sl×Sl×Sl×Sl×Unit)×Int×Unit) (λs10 k11 h5=>(ifP (decide (s10.2.1<(g.edges.len:Int))) (zg g.edges s10.2.1 2 λa12=>(ldL (.int .i64) (a12.add 0) (λx13_0=>(ldL (.int .i64) (a12.add 1) (λx13_1=>(zc (W7 5) (λr14 h6=>(Yo [.int .i64 x13_0,.int .i64 x13_1] (λp15 h7=>(Yo [.int .i64 1,.bool r14.num.neg,.slice r14.num.mag.a r14.num.mag.len r14.num.mag.cap,.bool r14.den.neg,.slice r14.den.mag.a r14.den.mag.len r14.den.mag.cap,.string X6,.slice zf.a zf.len zf.cap] (λp16 h8=>(Y5 5 88 [.int .i64 0,.slice zf.a zf.len zf.cap,.slice zf.a zf.len zf.cap,.slice zf.a zf.len zf.cap,.int .i64 0] s10.1.2.2.2.2.2.1 1 [.int .i64 2,.slice (⟨some p15,2,2⟩:Sl).a (⟨some p15,2,2⟩:Sl).len (⟨some p15,2,2⟩:Sl).cap,.slice zf.a zf.len zf.cap,.slice (⟨some p16,1,1⟩:Sl).a (⟨some p16,1,1⟩:Sl).len (⟨some p16,1,1⟩:Sl).cap,.int .i64 0] (λw17 h9=>(k11 ((s10.1.1,s10.1.2.1,s10.1.2.2.1,s10.1.2.2.2.1,s10.1.2.2.2.2.1,w17,()),(i64.wrap (s10.2.1+1)),()) h9)) h8)) h7)) h6)) h5)) h5)) h5)) (K (⟨s10.1.1,s10.1.2.1,s10.1.2.2.1,s10.1.2.2.2.1,s10.1.2.2.2.2.1,s10.1.2.2.2.2.2.1⟩:TSketch) h5))) ((s1.1.1,s1.1.2.1,s1.1.2.2.1,s1.1.2.2.2.1,s1.1.2.2.2.2.1,s1.1.2.2.2.2.2.1,()),0,()) h1))) ((zf,zf,zf,zf,zf,zf,()),0,()) h)
def z5i(n:Int)(K:(Option Addr)->Hp->Prop)(h:Hp):Prop:=(mkP n n 24 [.slice zf.a zf.len zf.cap] (λm1 h1=>(Yo [.slice m1.a m1.len m1.cap] (λp2 h2=>(K (some p2) h2)) h1)) h)
def y_pebble_game_free(g:(Option Addr))(a:Int)(K:Int->Hp->Prop)(h:Hp):Prop:=(yu g λp1=>(ldL (.sl) (p1.add 0) (λx2=>(zg x2 a 1 λa3=>(ldL (.sl) a3 (λx4=>(K (i64.wrap (2-(x4.len:Int))) h)) h))) h))
def qt(s:Sl)(i:Int)(j:Int)(K:Sl->Hp->Prop)(h:Hp):Prop:=(zxm s i j (s.len:Int) 1 λc1=>(ifP (i==j) (K s h) (slP s 0 i 1 λc2=>(slP s j (s.len:Int) 1 λc3=>(rdO c3.a (c3.len*1) (λvs4=>(Y5 1 8 [.int .i64 0] c2 c3.len vs4 (λw5 h1=>(slP w5 (w5.len:Int) (s.len:Int) 1 λc6=>(zgt c6 [.int .i64 0] (λh2=>(K w5 h2)) h1))) h)) h)))))
def y_pebble_game_fetch_:Nat->(Option Addr)->Int->Sl->(Bool->Hp->Prop)->Hp->Prop
 | 0,_,_,_,_,_=>False
 | fuel+1,g,a,visited,K,h=>(zg visited a 1 λa1=>(stP a1 [.bool true] (λh1=>(yu g λp2=>(ldL (.sl) (p2.add 0) (λx3=>(zg x3 a 1 λa4=>(ldL (.sl) a4 (λx5=>(zr (S:=Int×Unit) (λs6 k7 h2=>(ifP (decide (s6.1<(x5.len:Int))) (z8 (S:=Unit) (λs8 h3=>(k7 ((i64.wrap (s6.1+1)),()) h3)) (λk9=>(zg x5 s6.1 1 λa10=>(ldL (.int .i64) a10 (λx11=>(zg visited x11 1 λa12=>(ldL (.bool) a12 (λx13=>(ifP x13 (k9 () h2) (zc (y_pebble_game_free g x11) (λr14 h4=>(ifP (decide (r14>0)) (yu g λp15=>(ldL (.sl) (p15.add 0) (λx16=>(yu g λp17=>(ldL (.sl) (p17.add 0) (λx18=>(zg x18 a 1 λa19=>(ldL (.sl) a19 (λx20=>(Y3 (qt x20 s6.1 (i64.wrap (s6.1+1))) (λr21 h5=>((ldL (.sl) (p15.add 0) (λx22=>(((.slice x22.a x22.len x22.cap):Value)=((.slice x16.a x16.len x16.cap):Value))) h5) /\ (zg x16 a 1 λa23=>(stP a23 [.slice r21.a r21.len r21.cap] (λh6=>(yu g λp24=>(ldL (.sl) (p24.add 0) (λx25=>(yu g λp26=>(ldL (.sl) (p26.add 0) (λx27=>(zg x27 x11 1 λa28=>(ldL (.sl) a28 (λx29=>(Y5 1 8 [.int .i64 0] x29 1 [.int .i64 a] (λw30 h7=>((ldL (.sl) (p24.add 0) (λx31=>(((.slice x31.a x31.len x31.cap):Value)=((.slice x25.a x25.len x25.cap):Value))) h7) /\ (zg x25 x11 1 λa32=>(stP a32 [.slice w30.a w30.len w30.cap] (λh8=>(K true h8)) h7)))) h6)) h6))) h6))) h6))) h5)))) h4)) h4))) h4))) h4)) (Y3 ((y_pebble_game_fetch_ fuel) g x11 visited) (λr33 h9=>(ifP r33 (yu g λp34=>(ldL (.sl) (p34.add 0) (λx35=>(yu g λp36=>(ldL (.sl) (p36.add 0) (λx37=>(zg x37 a 1 λa38=>(ldL (.sl) a38 (λx39=>(Y3 (qt x39 s6.1 (i64.wrap (s6.1+1))) (λr40 h10=>((ldL (.sl) (p34.add 0) (λx41=>(((.slice x41.a x41.len x41.cap):Value)=((.slice x35.a x35.len x35.cap):Value))) h10) /\ (zg x35 a 1 λa42=>(stP a42 [.slice r40.a r40.len r40.cap] (λh11=>(yu g λp43=>(ldL (.sl) (p43.add 0) (λx44=>(yu g λp45=>(ldL (.sl) (p45.add 0) (λx46=>(zg x46 x11 1 λa47=>(ldL (.sl) a47 (λx48=>(Y5 1 8 [.int .i64 0] x48 1 [.int .i64 a] (λw49 h12=>((ldL (.sl) (p43.add 0) (λx50=>(((.slice x50.a x50.len x50.cap):Value)=((.slice x44.a x44.len x44.cap):Value))) h12) /\ (zg x44 x11 1 λa51=>(stP a51 [.slice w49.a w49.len w49.cap] (λh13=>(K true h13)) h12)))) h11)) h11))) h11))) h11))) h10)))) h9)) h9))) h9))) h9)) (k9 () h9))) h4))) h2))) h2))) h2)))) (K false h2))) (0,()) h1)) h1))) h1))) h))
def y_pebble_game_fetch(g:(Option Addr))(a:Int)(visited:Sl)(K:Bool->Hp->Prop)(h:Hp):Prop:=∃fuel,y_pebble_game_fetch_ fuel g a visited K h
def y_pebble_game_gather(g:(Option Addr))(a:Int)(b:Int)(K:Int->Hp->Prop)(h:Hp):Prop:=(Yo [.int .i64 a,.int .i64 b,.int .i64 b,.int .i64 a] (λp1 h1=>(zr (S:=Int×Unit) (λs2 k3 h2=>(ifP (decide (s2.1<((⟨some p1,2,2⟩:Sl).len:Int))) (z8 (S:=Unit) (λs4 h3=>(k3 ((i64.wrap (s2.1+1)),()) h3)) (λk5=>(zg (⟨some p1,2,2⟩:Sl) s2.1 2 λa6=>(ldL (.int .i64) (a6.add 0) (λx7_0=>(ldL (.int .i64) (a6.add 1) (λx7_1=>(zr (S:=Unit) (λs8 k9 h4=>(zc (y_pebble_game_free g x7_0) (λr10 h5=>(ifP (decide (r10<2)) (yu g λp11=>(ldL (.sl) (p11.add 0) (λx12=>(mkP (x12.len:Int) (x12.len:Int) 1 [.bool false] (λm13 h6=>(zg m13 x7_1 1 λa14=>(stP a14 [.bool true] (λh7=>(Y3 (y_pebble_game_fetch g x7_0 m13) (λr15 h8=>(ifP (!r15) (k5 () h8) (k9 () h8))) h7)) h6))) h5)) h5)) (k5 () h5))) h4)) () h2)) h2)) h2)))) (zc (y_pebble_game_free g a) (λr16 h9=>(zc (y_pebble_game_free g b) (λr17 h10=>(K (i64.wrap (r16+r17)) h10)) h9)) h2))) (0,()) h1)) h)
def y_pebble_game_accept(g:(Option Addr))(a:Int)(b:Int)(K:Bool->Hp->Prop)(h:Hp):Prop:=(Y3 (y_pebble_game_gather g a b) (λr1 h1=>(ifP (decide (r1<4)) (K false h1) (yu g λp2=>(ldL (.sl) (p2.add 0) (λx3=>(yu g λp4=>(ldL (.sl) (p4.add 0) (λx5=>(zg x5 a 1 λa6=>(ldL (.sl) a6 (λx7=>(Y5 1 8 [.int .i64 0] x7 1 [.int .i64 b] (λw8 h2=>((ldL (.sl) (p2.add 0) (λx9=>(((.slice x9.a x9.len x9.cap):Value)=((.slice x3.a x3.len x3.cap):Value))) h2) /\ (zg x3 a 1 λa10=>(stP a10 [.slice w8.a w8.len w8.cap] (λh3=>(K true h3)) h2)))) h1)) h1))) h1))) h1)))) h)
def z4p(n:Int)(edges:Sl)(K:(Sl×(Option Addr))->Hp->Prop)(h:Hp):Prop:=(zc (z5i n) (λr1 h1=>(zr (S:=Sl×Int×Unit) (λs2 k3 h2=>(ifP (decide (s2.2.1<(edges.len:Int))) (z8 (S:=Sl×Unit) (λs4 h3=>(k3 (s4.1,(i64.wrap (s2.2.1+1)),()) h3)) (λk5=>(zg edges s2.2.1 2 λa6=>(ldL (.int .i64) (a6.add 0) (λx7_0=>(ldL (.int .i64) (a6.add 1) (λx7_1=>(Y3 (y_pebble_game_accept r1 x7_0 x7_1) (λr8 h4=>(ifP r8 (Y5 1 8 [.int .i64 0] s2.1 1 [.int .i64 s2.2.1] (λw9 h5=>(k5 (w9,()) h5)) h4) (k5 (s2.1,()) h4))) h2)) h2)) h2)))) (K (s2.1,r1) h2))) (zf,0,()) h1)) h)
def Wf(g:TGraph)(K:Sl->Hp->Prop)(h:Hp):Prop:=(zc (Qw g) (λr1 h1=>(ifP (!r1) (K zf h1) (zc (z4p g.n g.edges) (λr2 h2=>(K r2.1 h2)) h1))) h)
def z13(K:TGraph->Hp->Prop)(h:Hp):Prop:=(Yo [.int .i64 0,.int .i64 1,.int .i64 0,.int .i64 2,.int .i64 1,.int .i64 2,.int .i64 1,.int .i64 3,.int .i64 2,.int .i64 3] (λp1 h1=>(K (⟨4,(⟨some p1,5,5⟩:Sl)⟩:TGraph) h1)) h)
def z7h(n:TRat)(K:TNumber->Hp->Prop)(h:Hp):Prop:=(Yo [.bool n.num.neg,.slice n.num.mag.a n.num.mag.len n.num.mag.cap,.bool n.den.neg,.slice n.den.mag.a n.den.mag.len n.den.mag.cap] (λp1 h1=>(K (⟨zf,(⟨some p1,1,1⟩:Sl)⟩:TNumber) h1)) h)
def z1q(n:Int)(K:TNumber->Hp->Prop)(h:Hp):Prop:=(zc (W7 n) (λr1 h1=>(zc (z7h r1) (λr2 h2=>(K r2 h2)) h1)) h)
def z8t(n:Int)(i:Int)(K:Sl->Hp->Prop)(h:Hp):Prop:=(zr (S:=Sl×Int×Unit) (λs1 k2 h1=>(ifP (decide (s1.2.1<n)) (zc (z1q 0) (λr3 h2=>(z8 (S:=(Sl×Sl×Unit)×Unit) (λs4 h3=>(Y5 2 48 [.slice zf.a zf.len zf.cap,.slice zf.a zf.len zf.cap] s1.1 1 [.slice s4.1.1.a s4.1.1.len s4.1.1.cap,.slice s4.1.2.1.a s4.1.2.1.len s4.1.2.1.cap] (λw6 h4=>(k2 (w6,(i64.wrap (s1.2.1+1)),()) h4)) h3)) (λk5=>(ifP (s1.2.1==i) (zc (z1q 1) (λr7 h5=>(k5 ((r7.radicands,r7.coefs,()),()) h5)) h2) (k5 ((r3.radicands,r3.coefs,()),()) h2))))) h1) (K s1.1 h1))) (zf,0,()) h)
def z0f(n:TRat)(K:TRat->Hp->Prop)(h:Hp):Prop:=(zc (Zh n.num.mag) (λr1 h1=>(zc (Zh n.den.mag) (λr2 h2=>(K (⟨(⟨n.num.neg,r1⟩:TInt),(⟨n.den.neg,r2⟩:TInt)⟩:TRat) h2)) h1)) h)
def z30(n:TRat)(K:TNumber->Hp->Prop)(h:Hp):Prop:=(zc (z0f n) (λr1 h1=>(Yo [.bool r1.num.neg,.slice r1.num.mag.a r1.num.mag.len r1.num.mag.cap,.bool r1.den.neg,.slice r1.den.mag.a r1.den.mag.len r1.den.mag.cap] (λp2 h2=>(K (⟨zf,(⟨some p2,1,1⟩:Sl)⟩:TNumber) h2)) h1)) h)
def We(n:Int)(K:TNumber->Hp->Prop)(h:Hp):Prop:=(zc (Y9 n) (λr1 h1=>(zc (z30 r1) (λr2 h2=>(K r2 h2)) h1)) h)
def z1r(g:TGraph)(at_:Sl)(K:Sl->Hp->Prop)(h:Hp):Prop:=(zr (S:=Sl×Int×Unit) (λs1 k2 h1=>(ifP (decide (s1.2.1<(g.edges.len:Int))) (zg g.edges s1.2.1 2 λa3=>(ldL (.int .i64) (a3.add 0) (λx4_0=>(ldL (.int .i64) (a3.add 1) (λx4_1=>(zc (z8t (i64.wrap (2*g.n)) (-1)) (λr5 h2=>(zr (S:=Int×Unit) (λs6 k7 h3=>(ifP (decide (s6.1<2)) (zg at_ x4_0 2 λa8=>(zba s6.1 2 (ldL (.int .i8) (a8.add ((s6.1:Int).toNat*1)) (λx9=>(zg at_ x4_1 2 λa10=>(zba s6.1 2 (ldL (.int .i8) (a10.add ((s6.1:Int).toNat*1)) (λx11=>(zc (We (i64.wrap ((i64.wrap (x9))-(i64.wrap (x11))))) (λr12 h4=>(zc (We (i64.wrap (0-(i64.wrap ((i64.wrap (x9))-(i64.wrap (x11))))))) (λr13 h5=>(zg r5 (i64.wrap ((i64.wrap (2*x4_0))+s6.1)) 2 λa14=>(stP a14 [.slice r12.radicands.a r12.radicands.len r12.radicands.cap,.slice r12.coefs.a r12.coefs.len r12.coefs.cap] (λh6=>(zg r5 (i64.wrap ((i64.wrap (2*x4_1))+s6.1)) 2 λa15=>(stP a15 [.slice r13.radicands.a r13.radicands.len r13.radicands.cap,.slice r13.coefs.a r13.coefs.len r13.coefs.cap] (λh7=>(k7 ((i64.wrap (s6.1+1)),()) h7)) h6))) h5))) h4)) h3)) h3)))) h3))) (Y5 1 24 [.slice zf.a zf.len zf.cap] s1.1 1 [.slice r5.a r5.len r5.cap] (λw16 h8=>(k2 (w16,(i64.wrap (s1.2.1+1)),()) h8)) h3))) (0,()) h2)) h1)) h1)) h1)) (K s1.1 h1))) (zf,0,()) h)
def Wc(m:Sl)(K:Int->Hp->Prop)(h:Hp):Prop:=(ifP ((m.len:Int)==0) (K 0 h) (zg m 0 1 λa1=>(ldL (.sl) a1 (λx2=>(K (x2.len:Int) h)) h)))
def z63(row:Sl)(v0:(Option Addr))(K:Bool->Hp->Prop)(h:Hp):Prop:=(yu v0 λp1=>(ldL (.sl) p1 (λx2=>(zc (Wc x2) (λr3 h1=>(K ((row.len:Int) != r3) h1)) h)) h))
def yg(s:Sl)(f1:(Option Addr×Unit))(K:Int->Hp->Prop)(h:Hp):Prop:=(zr (S:=Int×Unit) (λs1 k2 h1=>(ifP (decide (s1.1<(s.len:Int))) (zg s s1.1 1 λa3=>(ldL (.sl) a3 (λx4=>(zc (z63 x4 f1.1) (λr5 h2=>(ifP r5 (K s1.1 h2) (k2 ((i64.wrap (s1.1+1)),()) h2))) h1)) h1)) (K (-1) h1))) (0,()) h)
def Z4(s:Sl)(f1:(Option Addr×Unit))(K:Bool->Hp->Prop)(h:Hp):Prop:=(zc (yg s (f1.1,())) (λr1 h1=>(K (decide (r1>=0)) h1)) h)
def z2y(m:Sl)(K:Bool->Hp->Prop)(h:Hp):Prop:=(Yo [.slice m.a m.len m.cap] (λp1 h1=>(ldL (.sl) p1 (λx2=>(zc (Z4 x2 ((some p1),())) (λr3 h2=>(K (!r3) h2)) h1)) h1)) h)
def z0u(m:Sl)(K:Sl->Hp->Prop)(h:Hp):Prop:=(zc (z2y m) (λr1 h1=>(ifP (!r1) (K zf h1) (zc (Wc m) (λr2 h2=>(mkP r2 r2 24 [.slice zf.a zf.len zf.cap] (λm3 h3=>(zr (S:=Int×Unit) (λs4 k5 h4=>(ifP (decide (s4.1<(m3.len:Int))) (zr (S:=Int×Unit) (λs6 k7 h5=>(ifP (decide (s6.1<(m.len:Int))) (zg m s6.1 1 λa8=>(ldL (.sl) a8 (λx9=>(zg m3 s4.1 1 λa10=>(ldL (.sl) a10 (λx11=>(zg x9 s4.1 2 λa12=>(ldL (.sl) (a12.add 0) (λx13_0=>(ldL (.sl) (a12.add 1) (λx13_1=>(Y5 2 48 [.slice zf.a zf.len zf.cap,.slice zf.a zf.len zf.cap] x11 1 [.slice x13_0.a x13_0.len x13_0.cap,.slice x13_1.a x13_1.len x13_1.cap] (λw14 h6=>(zg m3 s4.1 1 λa15=>(stP a15 [.slice w14.a w14.len w14.cap] (λh7=>(k7 ((i64.wrap (s6.1+1)),()) h7)) h6))) h5)) h5)) h5))) h5))) h5)) (k5 ((i64.wrap (s4.1+1)),()) h5))) (0,()) h4) (K m3 h4))) (0,()) h3)) h2)) h1))) h)
def Yv(s:Sl)(n:Int)(K:Sl->Hp->Prop)(h:Hp):Prop:=(z8 (S:=Unit) (λs1 h1=>(ifP (decide ((i64.wrap (n-(i64.wrap ((s.cap:Int)-(s.len:Int)))))>0)) (slP s 0 (s.cap:Int) 2 λc3=>(0<=((i64.wrap (n-(i64.wrap ((s.cap:Int)-(s.len:Int))))):Int) /\ (Y5 2 48 [.slice zf.a zf.len zf.cap,.slice zf.a zf.len zf.cap] c3 (((i64.wrap (n-(i64.wrap ((s.cap:Int)-(s.len:Int))))):Int).toNat) (ye ((i64.wrap (n-(i64.wrap ((s.cap:Int)-(s.len:Int))))):Int).toNat [.slice zf.a zf.len zf.cap,.slice zf.a zf.len zf.cap]) (λw4 h2=>(slP w4 0 (s.len:Int) 2 λc5=>(K c5 h2))) h1))) (K s h1))) (λk2=>(ifP (decide (n<0)) False (k2 () h))))
def Ym(slices:Sl)(K:Sl->Hp->Prop)(h:Hp):Prop:=(zr (S:=Int×Int×Unit) (λs1 k2 h1=>(ifP (decide (s1.2.1<(slices.len:Int))) (z8 (S:=Int×Unit) (λs3 h2=>(k2 (s3.1,(i64.wrap (s1.2.1+1)),()) h2)) (λk4=>(zg slices s1.2.1 1 λa5=>(ldL (.sl) a5 (λx6=>(ifP (decide ((i64.wrap (s1.1+(x6.len:Int)))<0)) False (k4 ((i64.wrap (s1.1+(x6.len:Int))),()) h1))) h1)))) (zc (Yv zf s1.1) (λr7 h3=>(zr (S:=Sl×Int×Unit) (λs8 k9 h4=>(ifP (decide (s8.2.1<(slices.len:Int))) (zg slices s8.2.1 1 λa10=>(ldL (.sl) a10 (λx11=>(rdO x11.a (x11.len*2) (λvs12=>(Y5 2 48 [.slice zf.a zf.len zf.cap,.slice zf.a zf.len zf.cap] s8.1 x11.len vs12 (λw13 h5=>(k9 (w13,(i64.wrap (s8.2.1+1)),()) h5)) h4)) h4)) h4)) (K s8.1 h4))) (r7,0,()) h3)) h1))) (0,0,()) h)
def z4o(x:TRat)(y:TRat)(K:Bool->Hp->Prop)(h:Hp):Prop:=(zc (zdd x y) (λr1 h1=>(K (r1==0) h1)) h)
def yi(s1:Sl)(s2:Sl)(K:Bool->Hp->Prop)(h:Hp):Prop:=(ifP ((s1.len:Int) != (s2.len:Int)) (K false h) (zr (S:=Int×Unit) (λs3 k4 h1=>(ifP (decide (s3.1<(s1.len:Int))) (zg s1 s3.1 4 λa5=>(ldL (.bool) (a5.add 0) (λx6_0=>(ldL (.sl) (a5.add 1) (λx6_1=>(ldL (.bool) (a5.add 2) (λx6_2=>(ldL (.sl) (a5.add 3) (λx6_3=>(zg s2 s3.1 4 λa7=>(ldL (.bool) (a7.add 0) (λx8_0=>(ldL (.sl) (a7.add 1) (λx8_1=>(ldL (.bool) (a7.add 2) (λx8_2=>(ldL (.sl) (a7.add 3) (λx8_3=>(zc (z4o (⟨(⟨x6_0,x6_1⟩:TInt),(⟨x6_2,x6_3⟩:TInt)⟩:TRat) (⟨(⟨x8_0,x8_1⟩:TInt),(⟨x8_2,x8_3⟩:TInt)⟩:TRat)) (λr9 h2=>(ifP (!r9) (K false h2) (k4 ((i64.wrap (s3.1+1)),()) h2))) h1)) h1)) h1)) h1)) h1))) h1)) h1)) h1)) h1)) (K true h1))) (0,()) h))
def z68(a:Sl)(b:Sl)(K:Bool->Hp->Prop)(h:Hp):Prop:=(zc (yi a b) (λr1 h1=>(K r1 h1)) h)
def Zp(s1:Sl)(s2:Sl)(K:Bool->Hp->Prop)(h:Hp):Prop:=(ifP ((s1.len:Int) != (s2.len:Int)) (K false h) (zr (S:=Int×Unit) (λs3 k4 h1=>(ifP (decide (s3.1<(s1.len:Int))) (zg s1 s3.1 1 λa5=>(ldL (.sl) a5 (λx6=>(zg s2 s3.1 1 λa7=>(ldL (.sl) a7 (λx8=>(zc (z68 x6 x8) (λr9 h2=>(ifP (!r9) (K false h2) (k4 ((i64.wrap (s3.1+1)),()) h2))) h1)) h1))) h1)) (K true h1))) (0,()) h))
def z03(t:Sl)(u:Sl)(K:Bool->Hp->Prop)(h:Hp):Prop:=(ifP (decide ((u.len:Int)<=(t.len:Int))) (slP t 0 (u.len:Int) 1 λc1=>(zc (Zp c1 u) (λr2 h1=>(K r2 h1)) h)) (K false h))
def z2p(n:Int)(K:Sl->Hp->Prop)(h:Hp):Prop:=(mkP n n 64 [.bool false,.slice zf.a zf.len zf.cap,.bool false,.slice zf.a zf.len zf.cap] (λm1 h1=>(zr (S:=Int×Unit) (λs2 k3 h2=>(ifP (decide (s2.1<(m1.len:Int))) (zc (Y9 0) (λr4 h3=>(zg m1 s2.1 4 λa5=>(stP a5 [.bool r4.num.neg,.slice r4.num.mag.a r4.num.mag.len r4.num.mag.cap,.bool r4.den.neg,.slice r4.den.mag.a r4.den.mag.len r4.den.mag.cap] (λh4=>(k3 ((i64.wrap (s2.1+1)),()) h4)) h3))) h2) (K m1 h2))) (0,()) h1)) h)
def z57(x:TRat)(K:Bool->Hp->Prop)(h:Hp):Prop:=(zc (qv x) (λr1 h1=>(K (!r1) h1)) h)
def yz(s:Sl)(K:Int->Hp->Prop)(h:Hp):Prop:=(zr (S:=Int×Unit) (λs1 k2 h1=>(ifP (decide (s1.1<(s.len:Int))) (zg s s1.1 4 λa3=>(ldL (.bool) (a3.add 0) (λx4_0=>(ldL (.sl) (a3.add 1) (λx4_1=>(ldL (.bool) (a3.add 2) (λx4_2=>(ldL (.sl) (a3.add 3) (λx4_3=>(zc (z57 (⟨(⟨x4_0,x4_1⟩:TInt),(⟨x4_2,x4_3⟩:TInt)⟩:TRat)) (λr5 h2=>(ifP r5 (K s1.1 h2) (k2 ((i64.wrap (s1.1+1)),()) h2))) h1)) h1)) h1)) h1)) h1)) (K (-1) h1))) (0,()) h)
def yl(s:Sl)(K:Bool->Hp->Prop)(h:Hp):Prop:=(zc (yz s) (λr1 h1=>(K (decide (r1>=0)) h1)) h)
def z04(l:Sl)(n:Int)(K:Bool->Hp->Prop)(h:Hp):Prop:=(ifP ((l.len:Int)==n) (zc (yl l) (λr1 h1=>(K (!r1) h1)) h) (K false h))
def z00(t:Sl)(K:Bool->Hp->Prop)(h:Hp):Prop:=(zr (S:=Int×Unit) (λs1 k2 h1=>(ifP (decide (s1.1<(t.len:Int))) (zg t s1.1 1 λa3=>(ldL (.sl) a3 (λx4=>(0<=(s1.1:Int) /\ (zc (z04 x4 (i64.wrap (1*2 ^ (min (s1.1:Int).toNat i64.bits)))) (λr5 h2=>(ifP (!r5) (K false h2) (k2 ((i64.wrap (s1.1+1)),()) h2))) h1))) h1)) (K true h1))) (0,()) h)
def z4e(t:Sl)(n:TRat)(K:Sl->Hp->Prop)(h:Hp):Prop:=(z8 (S:=Unit) (λs1 h1=>(0<=((t.len:Int):Int) /\ (zc (z2p (i64.wrap (1*2 ^ (min ((t.len:Int):Int).toNat i64.bits)))) (λr3 h2=>(zg r3 0 4 λa4=>(stP a4 [.bool n.num.neg,.slice n.num.mag.a n.num.mag.len n.num.mag.cap,.bool n.den.neg,.slice n.den.mag.a n.den.mag.len n.den.mag.cap] (λh3=>(K r3 h3)) h2))) h1))) (λk2=>(zc (z00 t) (λr5 h4=>(ifP (!r5) (K zf h4) (zc (qv n) (λr6 h5=>(ifP (!r6) (K zf h5) (k2 () h5))) h4))) h)))
def zdk(x:TRat)(K:Bool->Hp->Prop)(h:Hp):Prop:=(zc (Qm x) (λr1 h1=>(K (r1 != 0) h1)) h)
def Qd(s:Sl)(K:Int->Hp->Prop)(h:Hp):Prop:=(zr (S:=Int×Unit) (λs1 k2 h1=>(ifP (decide (s1.1<(s.len:Int))) (zg s s1.1 4 λa3=>(ldL (.bool) (a3.add 0) (λx4_0=>(ldL (.sl) (a3.add 1) (λx4_1=>(ldL (.bool) (a3.add 2) (λx4_2=>(ldL (.sl) (a3.add 3) (λx4_3=>(zc (zdk (⟨(⟨x4_0,x4_1⟩:TInt),(⟨x4_2,x4_3⟩:TInt)⟩:TRat)) (λr5 h2=>(ifP r5 (K s1.1 h2) (k2 ((i64.wrap (s1.1+1)),()) h2))) h1)) h1)) h1)) h1)) h1)) (K (-1) h1))) (0,()) h)
def qk(s:Sl)(K:Bool->Hp->Prop)(h:Hp):Prop:=(zc (Qd s) (λr1 h1=>(K (decide (r1>=0)) h1)) h)
def z92(a:Sl)(K:Bool->Hp->Prop)(h:Hp):Prop:=(zc (qk a) (λr1 h1=>(K (!r1) h1)) h)
def Qc(s:Sl)(K:Sl->Hp->Prop)(h:Hp):Prop:=(ifP s.a.isNone (K zf h) (Yo [] (λp1 h1=>(rdO s.a (s.len*4) (λvs2=>(Y5 4 64 [.bool false,.slice zf.a zf.len zf.cap,.bool false,.slice zf.a zf.len zf.cap] (⟨some p1,0,0⟩:Sl) s.len vs2 (λw3 h2=>(K w3 h2)) h1)) h1)) h))
def z67(t:Sl)(a:Sl)(K:Sl->Hp->Prop)(h:Hp):Prop:=(zc (Qc a) (λr1 h1=>(zr (S:=Sl×Unit) (λs2 k3 h2=>(0<=((t.len:Int):Int) /\ (ifP (decide ((s2.1.len:Int)<(i64.wrap (1*2 ^ (min ((t.len:Int):Int).toNat i64.bits))))) (zc (Y9 0) (λr4 h3=>(Y5 4 64 [.bool false,.slice zf.a zf.len zf.cap,.bool false,.slice zf.a zf.len zf.cap] s2.1 1 [.bool r4.num.neg,.slice r4.num.mag.a r4.num.mag.len r4.num.mag.cap,.bool r4.den.neg,.slice r4.den.mag.a r4.den.mag.len r4.den.mag.cap] (λw5 h4=>(k3 (w5,()) h4)) h3)) h2) (K s2.1 h2)))) (r1,()) h1)) h)
def Wv(t:Sl)(a:Sl)(K:Bool->Hp->Prop)(h:Hp):Prop:=(zc (z00 t) (λr1 h1=>(ifP r1 (0<=((t.len:Int):Int) /\ (zc (z04 a (i64.wrap (1*2 ^ (min ((t.len:Int):Int).toNat i64.bits)))) (λr2 h2=>(K r2 h2)) h1)) (K false h1))) h)
def z14(t:Sl)(a:Sl)(b:Sl)(K:Bool->Hp->Prop)(h:Hp):Prop:=(zc (Wv t a) (λr1 h1=>(ifP r1 (0<=((t.len:Int):Int) /\ (zc (z04 b (i64.wrap (1*2 ^ (min ((t.len:Int):Int).toNat i64.bits)))) (λr2 h2=>(K r2 h2)) h1)) (K false h1))) h)
def z7a(t:Sl)(K:(Sl×Sl)->Hp->Prop)(h:Hp):Prop:=(slP t 0 (i64.wrap ((t.len:Int)-1)) 1 λc1=>(zg t (i64.wrap ((t.len:Int)-1)) 1 λa2=>(ldL (.sl) a2 (λx3=>(K (c1,x3) h)) h)))
def z3c(a:Sl)(K:(Sl×Sl)->Hp->Prop)(h:Hp):Prop:=((2:Int)≠0 /\ (slP a 0 (i64.wrap (((a.len:Int):Int).tdiv 2)) 4 λc1=>((2:Int)≠0 /\ (slP a (i64.wrap (((a.len:Int):Int).tdiv 2)) (a.len:Int) 4 λc2=>(K (c1,c2) h)))))
def z2n(a:Sl)(b:Sl)(K:Sl->Hp->Prop)(h:Hp):Prop:=(mkP (a.len:Int) (a.len:Int) 64 [.bool false,.slice zf.a zf.len zf.cap,.bool false,.slice zf.a zf.len zf.cap] (λm1 h1=>(zr (S:=Int×Unit) (λs2 k3 h2=>(ifP (decide (s2.1<(m1.len:Int))) (zg a s2.1 4 λa4=>(ldL (.bool) (a4.add 0) (λx5_0=>(ldL (.sl) (a4.add 1) (λx5_1=>(ldL (.bool) (a4.add 2) (λx5_2=>(ldL (.sl) (a4.add 3) (λx5_3=>(zg b s2.1 4 λa6=>(ldL (.bool) (a6.add 0) (λx7_0=>(ldL (.sl) (a6.add 1) (λx7_1=>(ldL (.bool) (a6.add 2) (λx7_2=>(ldL (.sl) (a6.add 3) (λx7_3=>(zc (z5j (⟨(⟨x5_0,x5_1⟩:TInt),(⟨x5_2,x5_3⟩:TInt)⟩:TRat) (⟨(⟨x7_0,x7_1⟩:TInt),(⟨x7_2,x7_3⟩:TInt)⟩:TRat)) (λr8 h3=>(zg m1 s2.1 4 λa9=>(stP a9 [.bool r8.num.neg,.slice r8.num.mag.a r8.num.mag.len r8.num.mag.cap,.bool r8.den.neg,.slice r8.den.mag.a r8.den.mag.len r8.den.mag.cap] (λh4=>(k3 ((i64.wrap (s2.1+1)),()) h4)) h3))) h2)) h2)) h2)) h2)) h2))) h2)) h2)) h2)) h2)) (K m1 h2))) (0,()) h1)) h)
def W9:Nat->Sl->Sl->Sl->(Sl->Hp->Prop)->Hp->Prop
 | 0,_,_,_,_,_=>False
 | fuel+1,t,a,b,K,h=>(z8 (S:=Unit) (λs1 h1=>(zc (z7a t) (λr3 h2=>(zc (z3c a) (λr4 h3=>(zc (z3c b) (λr5 h4=>(zc ((W9 fuel) r3.1 r4.1 r5.1) (λr6 h5=>(zc ((W9 fuel) r3.1 r4.2 r5.2) (λr7 h6=>(zc ((W9 fuel) r3.1 r7 r3.2) (λr8 h7=>(zc (z2n r6 r8) (λr9 h8=>(zc ((W9 fuel) r3.1 r4.1 r5.2) (λr10 h9=>(zc ((W9 fuel) r3.1 r4.2 r5.1) (λr11 h10=>(zc (z2n r10 r11) (λr12 h11=>(rdO r12.a (r12.len*4) (λvs13=>(Y5 4 64 [.bool false,.slice zf.a zf.len zf.cap,.bool false,.slice zf.a zf.len zf.cap] r9 r12.len vs13 (λw14 h12=>(K w14 h12)) h11)) h11)) h10)) h9)) h8)) h7)) h6)) h5)) h4)) h3)) h2)) h1)) (λk2=>(ifP ((t.len:Int)==0) (zg a 0 4 λa15=>(ldL (.bool) (a15.add 0) (λx16_0=>(ldL (.sl) (a15.add 1) (λx16_1=>(ldL (.bool) (a15.add 2) (λx16_2=>(ldL (.sl) (a15.add 3) (λx16_3=>(zg b 0 4 λa17=>(ldL (.bool) (a17.add 0) (λx18_0=>(ldL (.sl) (a17.add 1) (λx18_1=>(ldL (.bool) (a17.add 2) (λx18_2=>(ldL (.sl) (a17.add 3) (λx18_3=>(zc (z32 (⟨(⟨x16_0,x16_1⟩:TInt),(⟨x16_2,x16_3⟩:TInt)⟩:TRat) (⟨(⟨x18_0,x18_1⟩:TInt),(⟨x18_2,x18_3⟩:TInt)⟩:TRat)) (λr19 h13=>(Yo [.bool r19.num.neg,.slice r19.num.mag.a r19.num.mag.len r19.num.mag.cap,.bool r19.den.neg,.slice r19.den.mag.a r19.den.mag.len r19.den.mag.cap] (λp20 h14=>(K (⟨some p20,1,1⟩:Sl) h14)) h13)) h)) h)) h)) h)) h))) h)) h)) h)) h)) (zc (z92 a) (λr21 h15=>(ifP r21 (zc (z2p (a.len:Int)) (λr22 h16=>(K r22 h16)) h15) (zc (z92 b) (λr23 h17=>(ifP r23 (zc (z2p (a.len:Int)) (λr24 h18=>(K r24 h18)) h17) (k2 () h17))) h15))) h))))
def z2o(t:Sl)(a:Sl)(b:Sl)(K:Sl->Hp->Prop)(h:Hp):Prop:=∃fuel,W9 fuel t a b K h
def z2m(t:Sl)(a:Sl)(b:Sl)(K:Sl->Hp->Prop)(h:Hp):Prop:=(zc (z14 t a b) (λr1 h1=>(ifP (!r1) (K zf h1) (zc (z2o t a b) (λr2 h2=>(K r2 h2)) h1))) h)
def zkr(t:Sl)(a:Sl)(b:Sl)(K:Sl->Hp->Prop)(h:Hp):Prop:=(zc (z14 t a b) (λr1 h1=>(ifP (!r1) (K zf h1) (zc (z2n a b) (λr2 h2=>(K r2 h2)) h1))) h)
def y_number_embedding_image_:Nat->Tnumber_embedding->Sl->(Sl->Hp->Prop)->Hp->Prop
 | 0,_,_,_,_=>False
 | fuel+1,m,a,K,h=>(ifP ((a.len:Int)==1) (zg a 0 4 λa1=>(ldL (.bool) (a1.add 0) (λx2_0=>(ldL (.sl) (a1.add 1) (λx2_1=>(ldL (.bool) (a1.add 2) (λx2_2=>(ldL (.sl) (a1.add 3) (λx2_3=>(zc (z4e m.into (⟨(⟨x2_0,x2_1⟩:TInt),(⟨x2_2,x2_3⟩:TInt)⟩:TRat)) (λr3 h1=>(K r3 h1)) h)) h)) h)) h)) h)) ((2:Int)≠0 /\ (zr (S:=Int×Unit) (λs4 k5 h2=>(0<=((i64.wrap (s4.1+1)):Int) /\ (ifP (decide ((i64.wrap (1*2 ^ (min ((i64.wrap (s4.1+1)):Int).toNat i64.bits)))<(a.len:Int))) (k5 ((i64.wrap (s4.1+1)),()) h2) (slP a 0 (i64.wrap (((a.len:Int):Int).tdiv 2)) 4 λc6=>(zc ((y_number_embedding_image_ fuel) m c6) (λr7 h3=>(slP a (i64.wrap (((a.len:Int):Int).tdiv 2)) (a.len:Int) 4 λc8=>(zc (z92 c8) (λr9 h4=>(ifP r9 (K r7 h4) (slP a (i64.wrap (((a.len:Int):Int).tdiv 2)) (a.len:Int) 4 λc10=>(zg m.roots s4.1 1 λa11=>(ldL (.sl) a11 (λx12=>(zc ((y_number_embedding_image_ fuel) m c10) (λr13 h5=>(zc (z67 m.into x12) (λr14 h6=>(zc (z2m m.into r13 r14) (λr15 h7=>(zc (zkr m.into r7 r15) (λr16 h8=>(K r16 h8)) h7)) h6)) h5)) h4)) h4))))) h3))) h2))))) (0,()) h)))
def y_number_embedding_image(m:Tnumber_embedding)(a:Sl)(K:Sl->Hp->Prop)(h:Hp):Prop:=∃fuel,y_number_embedding_image_ fuel m a K h
def z7g(t:Sl)(u:Sl)(K:(Tnumber_embedding×Int)->Hp->Prop)(h:Hp):Prop:=(zr (S:=(Sl×Sl×Unit)×(Sl×Sl×Unit)×Int×Unit) (λs1 k2 h1=>(ifP (decide (s1.2.2.1<(u.len:Int))) (zg u s1.2.2.1 1 λa3=>(ldL (.sl) a3 (λx4=>(zc (y_number_embedding_image (⟨s1.2.1.1,s1.2.1.2.1⟩:Tnumber_embedding) x4) (λr5 h2=>False) h1)) h1)) (K ((⟨s1.2.1.1,s1.2.1.2.1⟩:Tnumber_embedding),0) h1))) ((zf,zf,()),(t,zf,()),0,()) h)
def z4c(l:Sl)(K:(Sl×Int)->Hp->Prop)(h:Hp):Prop:=(zr (S:=Sl×Int×Unit) (λs1 k2 h1=>(ifP (decide (s1.2.1<(l.len:Int))) (z8 (S:=Sl×Unit) (λs3 h2=>(k2 (s3.1,(i64.wrap (s1.2.1+1)),()) h2)) (λk4=>(zg l s1.2.1 2 λa5=>(ldL (.sl) (a5.add 0) (λx6_0=>(ldL (.sl) (a5.add 1) (λx6_1=>(zc (z03 s1.1 x6_0) (λr7 h3=>(ifP r7 (k4 (s1.1,()) h3) (zc (z03 x6_0 s1.1) (λr8 h4=>(ifP r8 (k4 (x6_0,()) h4) (zc (z7g s1.1 x6_0) (λr9 h5=>(ifP (r9.2 != 0) (K (zf,r9.2) h5) (k4 (r9.1.into,()) h5))) h4))) h3))) h1)) h1)) h1)))) (K (s1.1,0) h1))) (zf,0,()) h)
def V9(l:Sl)(K:Sl->Hp->Prop)(h:Hp):Prop:=(mkP (l.len:Int) (l.len:Int) 64 [.bool false,.slice zf.a zf.len zf.cap,.bool false,.slice zf.a zf.len zf.cap] (λm1 h1=>(zr (S:=Int×Unit) (λs2 k3 h2=>(ifP (decide (s2.1<(l.len:Int))) (zg l s2.1 4 λa4=>(ldL (.bool) (a4.add 0) (λx5_0=>(ldL (.sl) (a4.add 1) (λx5_1=>(ldL (.bool) (a4.add 2) (λx5_2=>(ldL (.sl) (a4.add 3) (λx5_3=>(zc (z0f (⟨(⟨x5_0,x5_1⟩:TInt),(⟨x5_2,x5_3⟩:TInt)⟩:TRat)) (λr6 h3=>(zg m1 s2.1 4 λa7=>(stP a7 [.bool r6.num.neg,.slice r6.num.mag.a r6.num.mag.len r6.num.mag.cap,.bool r6.den.neg,.slice r6.den.mag.a r6.den.mag.len r6.den.mag.cap] (λh4=>(k3 ((i64.wrap (s2.1+1)),()) h4)) h3))) h2)) h2)) h2)) h2)) h2)) (K m1 h2))) (0,()) h1)) h)
def z1n(a:TNumber)(K:TNumber->Hp->Prop)(h:Hp):Prop:=(zc (V9 a.coefs) (λr1 h1=>(zr (S:=(Sl×Sl×Unit)×Int×Unit) (λs2 k3 h2=>(ifP (decide (s2.2.1<(a.radicands.len:Int))) (zg a.radicands s2.2.1 1 λa4=>(ldL (.sl) a4 (λx5=>(zc (V9 x5) (λr6 h3=>(Y5 1 24 [.slice zf.a zf.len zf.cap] s2.1.1 1 [.slice r6.a r6.len r6.cap] (λw7 h4=>(k3 ((w7,s2.1.2.1,()),(i64.wrap (s2.2.1+1)),()) h4)) h3)) h2)) h2)) (K (⟨s2.1.1,s2.1.2.1⟩:TNumber) h2))) ((zf,r1,()),0,()) h1)) h)
def z2h(l:Sl)(K:(Sl×Int)->Hp->Prop)(h:Hp):Prop:=(zc (z4c l) (λr1 h1=>(ifP (r1.2 != 0) (K (zf,r1.2) h1) (zr (S:=Sl×Int×Unit) (λs2 k3 h2=>(ifP (decide (s2.2.1<(l.len:Int))) (zg l s2.2.1 2 λa4=>(ldL (.sl) (a4.add 0) (λx5_0=>(ldL (.sl) (a4.add 1) (λx5_1=>(z8 (S:=(Sl×Sl×Unit)×Unit) (λs6 h3=>(zc (z1n (⟨s6.1.1,s6.1.2.1⟩:TNumber)) (λr8 h4=>(Y5 2 48 [.slice zf.a zf.len zf.cap,.slice zf.a zf.len zf.cap] s2.1 1 [.slice r8.radicands.a r8.radicands.len r8.radicands.cap,.slice r8.coefs.a r8.coefs.len r8.coefs.cap] (λw9 h5=>(k3 (w9,(i64.wrap (s2.2.1+1)),()) h5)) h4)) h3)) (λk7=>(zc (z03 r1.1 x5_0) (λr10 h6=>(ifP r10 (zc (z67 r1.1 x5_1) (λr11 h7=>(k7 ((r1.1,r11,()),()) h7)) h6) (zc (z7g r1.1 x5_0) (λr12 h8=>(ifP (r12.2 != 0) (K (zf,r12.2) h8) (zc (y_number_embedding_image (⟨r12.1.into,r12.1.roots⟩:Tnumber_embedding) x5_1) (λr13 h9=>(k7 ((r1.1,r13,()),()) h9)) h8))) h6))) h2)))) h2)) h2)) (K (s2.1,0) h2))) (zf,0,()) h1))) h)
def z1m(m:Sl)(K:(Sl×Int)->Hp->Prop)(h:Hp):Prop:=(zc (Ym m) (λr1 h1=>(zc (z2h r1) (λr2 h2=>(ifP (r2.2 != 0) (K (zf,r2.2) h2) (mkP (m.len:Int) (m.len:Int) 24 [.slice zf.a zf.len zf.cap] (λm3 h3=>(zr (S:=Sl×Int×Unit) (λs4 k5 h4=>(ifP (decide (s4.2.1<(m.len:Int))) (zg m s4.2.1 1 λa6=>(ldL (.sl) a6 (λx7=>(zxm s4.1 0 (x7.len:Int) (x7.len:Int) 2 λc8=>(slP s4.1 (x7.len:Int) (s4.1.len:Int) 2 λc9=>(zg m3 s4.2.1 1 λa10=>(stP a10 [.slice c8.a c8.len c8.cap] (λh5=>(k5 (c9,(i64.wrap (s4.2.1+1)),()) h5)) h4))))) h4)) (K (m3,0) h4))) (r2.1,0,()) h3)) h2))) h1)) h)
def z40(a:Sl)(K:Sl->Hp->Prop)(h:Hp):Prop:=(mkP (a.len:Int) (a.len:Int) 64 [.bool false,.slice zf.a zf.len zf.cap,.bool false,.slice zf.a zf.len zf.cap] (λm1 h1=>(zr (S:=Int×Unit) (λs2 k3 h2=>(ifP (decide (s2.1<(a.len:Int))) (zg a s2.1 4 λa4=>(ldL (.bool) (a4.add 0) (λx5_0=>(ldL (.sl) (a4.add 1) (λx5_1=>(ldL (.bool) (a4.add 2) (λx5_2=>(ldL (.sl) (a4.add 3) (λx5_3=>(zc (z5l (⟨(⟨x5_0,x5_1⟩:TInt),(⟨x5_2,x5_3⟩:TInt)⟩:TRat)) (λr6 h3=>(zg m1 s2.1 4 λa7=>(stP a7 [.bool r6.num.neg,.slice r6.num.mag.a r6.num.mag.len r6.num.mag.cap,.bool r6.den.neg,.slice r6.den.mag.a r6.den.mag.len r6.den.mag.cap] (λh4=>(k3 ((i64.wrap (s2.1+1)),()) h4)) h3))) h2)) h2)) h2)) h2)) h2)) (K m1 h2))) (0,()) h1)) h)
def z82(t:Sl)(a:Sl)(b:Sl)(K:Sl->Hp->Prop)(h:Hp):Prop:=(zc (z14 t a b) (λr1 h1=>(ifP (!r1) (K zf h1) (zc (z40 b) (λr2 h2=>(zc (z2n a r2) (λr3 h3=>(K r3 h3)) h2)) h1))) h)
def Vm:Nat->Sl->Sl->(Int->Hp->Prop)->Hp->Prop
 | 0,_,_,_,_=>False
 | fuel+1,t,a,K,h=>(ifP ((t.len:Int)==0) (zg a 0 4 λa1=>(ldL (.bool) (a1.add 0) (λx2_0=>(ldL (.sl) (a1.add 1) (λx2_1=>(ldL (.bool) (a1.add 2) (λx2_2=>(ldL (.sl) (a1.add 3) (λx2_3=>(zc (Qm (⟨(⟨x2_0,x2_1⟩:TInt),(⟨x2_2,x2_3⟩:TInt)⟩:TRat)) (λr3 h1=>(K r3 h1)) h)) h)) h)) h)) h)) ((2:Int)≠0 /\ (slP t 0 (i64.wrap ((t.len:Int)-1)) 1 λc4=>(slP a 0 (i64.wrap (((a.len:Int):Int).tdiv 2)) 4 λc5=>(slP a (i64.wrap (((a.len:Int):Int).tdiv 2)) (a.len:Int) 4 λc6=>(zc ((Vm fuel) c4 c5) (λr7 h2=>(zc ((Vm fuel) c4 c6) (λr8 h3=>(z8 (S:=Unit) (λs9 h4=>(zg t (i64.wrap ((t.len:Int)-1)) 1 λa11=>(ldL (.sl) a11 (λx12=>(zc (z2m c4 c5 c5) (λr13 h5=>(zc (z2m c4 c6 c6) (λr14 h6=>(zc (z2m c4 x12 r14) (λr15 h7=>(zc (z82 c4 r13 r15) (λr16 h8=>(zc ((Vm fuel) c4 r16) (λr17 h9=>(K (i64.wrap (r7*r17)) h9)) h8)) h7)) h6)) h5)) h4)) h4))) (λk10=>(ifP (r8==0) (K r7 h3) (ifP (r7==r8) (K r7 h3) (ifP (r7==0) (K r8 h3) (k10 () h3))))))) h2)) h))))))
def z8y(t:Sl)(a:Sl)(K:Int->Hp->Prop)(h:Hp):Prop:=∃fuel,Vm fuel t a K h
def zb6(t:Sl)(K:Bool->Hp->Prop)(h:Hp):Prop:=(zc (Y9 0) (λr1 h1=>(zc (z4e t r1) (λr2 h2=>(zc (Wv t r2) (λr3 h3=>(ifP (!r3) (K false h3) (zr (S:=Int×Unit) (λs4 k5 h4=>(ifP (decide (s4.1<(t.len:Int))) (zg t s4.1 1 λa6=>(ldL (.sl) a6 (λx7=>(slP t 0 s4.1 1 λc8=>(zc (z8y c8 x7) (λr9 h5=>(ifP (decide (r9<=0)) (K false h5) (k5 ((i64.wrap (s4.1+1)),()) h5))) h4))) h4)) (K true h4))) (0,()) h3))) h2)) h1)) h)
def zet(t:Sl)(l:Sl)(K:Bool->Hp->Prop)(h:Hp):Prop:=(zr (S:=Int×Unit) (λs1 k2 h1=>(ifP (decide (s1.1<(l.len:Int))) (zg l s1.1 1 λa3=>(ldL (.sl) a3 (λx4=>(zc (Wv t x4) (λr5 h2=>(ifP (!r5) (K false h2) (k2 ((i64.wrap (s1.1+1)),()) h2))) h1)) h1)) (zc (zb6 t) (λr6 h3=>(K r6 h3)) h1))) (0,()) h)
def zes(t:Sl)(a:Sl)(K:Int->Hp->Prop)(h:Hp):Prop:=(Yo [.slice a.a a.len a.cap] (λp1 h1=>(zc (zet t (⟨some p1,1,1⟩:Sl)) (λr2 h2=>(ifP (!r2) (K 0 h2) (zc (z8y t a) (λr3 h3=>(K r3 h3)) h2))) h1)) h)
def z2i(a:TNumber)(K:Int->Hp->Prop)(h:Hp):Prop:=(zc (zes a.radicands a.coefs) (λr1 h1=>(K r1 h1)) h)
def Vv(row:Sl)(v0:(Option Addr))(K:Bool->Hp->Prop)(h:Hp):Prop:=(yu v0 λp1=>(ldL (.int .i64) p1 (λx2=>(zg row x2 2 λa3=>(ldL (.sl) (a3.add 0) (λx4_0=>(ldL (.sl) (a3.add 1) (λx4_1=>(zc (z2i (⟨x4_0,x4_1⟩:TNumber)) (λr5 h1=>(K (r5 != 0) h1)) h)) h)) h))) h))
def Zm(s:Sl)(f1:(Option Addr×Unit))(K:Int->Hp->Prop)(h:Hp):Prop:=(zr (S:=Int×Unit) (λs1 k2 h1=>(ifP (decide (s1.1<(s.len:Int))) (zg s s1.1 1 λa3=>(ldL (.sl) a3 (λx4=>(zc (Vv x4 f1.1) (λr5 h2=>(ifP r5 (K s1.1 h2) (k2 ((i64.wrap (s1.1+1)),()) h2))) h1)) h1)) (K (-1) h1))) (0,()) h)
def W5(a:TNumber)(b:TNumber)(K:(TNumber×Int)->Hp->Prop)(h:Hp):Prop:=(Yo [.slice a.radicands.a a.radicands.len a.radicands.cap,.slice a.coefs.a a.coefs.len a.coefs.cap,.slice b.radicands.a b.radicands.len b.radicands.cap,.slice b.coefs.a b.coefs.len b.coefs.cap] (λp1 h1=>(zc (z2h (⟨some p1,2,2⟩:Sl)) (λr2 h2=>(ifP (r2.2 != 0) (K ((⟨zf,zf⟩:TNumber),r2.2) h2) (zg r2.1 0 2 λa3=>(ldL (.sl) (a3.add 0) (λx4=>(zg r2.1 0 2 λa5=>(ldL (.sl) (a5.add 1) (λx6=>(zg r2.1 1 2 λa7=>(ldL (.sl) (a7.add 1) (λx8=>(zc (z2m x4 x6 x8) (λr9 h3=>(K ((⟨x4,r9⟩:TNumber),0) h3)) h2)) h2))) h2))) h2)))) h1)) h)
def z65(a:TNumber)(b:TNumber)(K:(TNumber×Int)->Hp->Prop)(h:Hp):Prop:=(zc (W5 a b) (λr1 h1=>(K ((⟨r1.1.radicands,r1.1.coefs⟩:TNumber),r1.2) h1)) h)
def y_matrix_calc_take(c:(Option Addr))(n:TNumber)(err:Int)(K:TNumber->Hp->Prop)(h:Hp):Prop:=(z8 (S:=Unit) (λs1 h1=>(ifP (err != 0) (zc (We 0) (λr3 h2=>(K r3 h2)) h1) (K n h1))) (λk2=>(ifP (err != 0) (yu c λp4=>(ldL (.int .i64) (p4.add 0) (λx5=>(ifP (x5==0) (yu c λp6=>(stP (p6.add 0) [.int .i64 err] (λh3=>(k2 () h3)) h)) (k2 () h))) h)) (k2 () h))))
def y_matrix_calc_mul(c:(Option Addr))(a:TNumber)(b:TNumber)(K:TNumber->Hp->Prop)(h:Hp):Prop:=(zc (z65 a b) (λr1 h1=>(zc (y_matrix_calc_take c (⟨r1.1.radicands,r1.1.coefs⟩:TNumber) r1.2) (λr2 h2=>(K r2 h2)) h1)) h)
def ziu(t:Sl)(a:Sl)(K:Sl->Hp->Prop)(h:Hp):Prop:=(zc (z7a t) (λr1 h1=>(zc (z3c a) (λr2 h2=>(zc (z2o r1.1 r2.1 r2.1) (λr3 h3=>(zc (z2o r1.1 r2.2 r2.2) (λr4 h4=>(zc (z2o r1.1 r4 r1.2) (λr5 h5=>(zc (z40 r5) (λr6 h6=>(zc (z2n r3 r6) (λr7 h7=>(K r7 h7)) h6)) h5)) h4)) h3)) h2)) h1)) h)
def Vh:Nat->Sl->Sl->((Sl×Bool)->Hp->Prop)->Hp->Prop
 | 0,_,_,_,_=>False
 | fuel+1,t,a,K,h=>(ifP ((t.len:Int)==0) (zg a 0 4 λa1=>(ldL (.bool) (a1.add 0) (λx2_0=>(ldL (.sl) (a1.add 1) (λx2_1=>(ldL (.bool) (a1.add 2) (λx2_2=>(ldL (.sl) (a1.add 3) (λx2_3=>(zc (Y9 1) (λr3 h1=>(zc (z5k r3 (⟨(⟨x2_0,x2_1⟩:TInt),(⟨x2_2,x2_3⟩:TInt)⟩:TRat)) (λr4 h2=>(Yo [.bool r4.1.num.neg,.slice r4.1.num.mag.a r4.1.num.mag.len r4.1.num.mag.cap,.bool r4.1.den.neg,.slice r4.1.den.mag.a r4.1.den.mag.len r4.1.den.mag.cap] (λp5 h3=>(K ((⟨some p5,1,1⟩:Sl),(r4.2==0)) h3)) h2)) h1)) h)) h)) h)) h)) h)) (zc (z7a t) (λr6 h4=>(zc (ziu t a) (λr7 h5=>(zc ((Vh fuel) r6.1 r7) (λr8 h6=>(ifP (!r8.2) (K (zf,false) h6) (zc (z3c a) (λr9 h7=>(zc (z2o r6.1 r9.1 r8.1) (λr10 h8=>(zc (z2o r6.1 r9.2 r8.1) (λr11 h9=>(zc (z40 r11) (λr12 h10=>(rdO r12.a (r12.len*4) (λvs13=>(Y5 4 64 [.bool false,.slice zf.a zf.len zf.cap,.bool false,.slice zf.a zf.len zf.cap] r10 r12.len vs13 (λw14 h11=>(K (w14,true) h11)) h10)) h10)) h9)) h8)) h7)) h6))) h5)) h4)) h))
def z7j(t:Sl)(a:Sl)(K:(Sl×Bool)->Hp->Prop)(h:Hp):Prop:=∃fuel,Vh fuel t a K h
def zex(t:Sl)(a:Sl)(K:(Sl×Int)->Hp->Prop)(h:Hp):Prop:=(zc (Wv t a) (λr1 h1=>(ifP (!r1) (K (zf,1) h1) (zc (z7j t a) (λr2 h2=>(ifP (!r2.2) (K (zf,6) h2) (K (r2.1,0) h2))) h1))) h)
def zc7(a:TNumber)(b:TNumber)(K:(TNumber×Int)->Hp->Prop)(h:Hp):Prop:=(zc (zex b.radicands b.coefs) (λr1 h1=>(ifP (r1.2 != 0) (K ((⟨zf,zf⟩:TNumber),r1.2) h1) (zc (z65 a (⟨b.radicands,r1.1⟩:TNumber)) (λr2 h2=>(K ((⟨r2.1.radicands,r2.1.coefs⟩:TNumber),r2.2) h2)) h1))) h)
def y_matrix_calc_div(c:(Option Addr))(a:TNumber)(b:TNumber)(K:TNumber->Hp->Prop)(h:Hp):Prop:=(zc (zc7 a b) (λr1 h1=>(zc (y_matrix_calc_take c (⟨r1.1.radicands,r1.1.coefs⟩:TNumber) r1.2) (λr2 h2=>(K r2 h2)) h1)) h)
def W6(a:TNumber)(b:TNumber)(K:(TNumber×Int)->Hp->Prop)(h:Hp):Prop:=(Yo [.slice a.radicands.a a.radicands.len a.radicands.cap,.slice a.coefs.a a.coefs.len a.coefs.cap,.slice b.radicands.a b.radicands.len b.radicands.cap,.slice b.coefs.a b.coefs.len b.coefs.cap] (λp1 h1=>(zc (z2h (⟨some p1,2,2⟩:Sl)) (λr2 h2=>(ifP (r2.2 != 0) (K ((⟨zf,zf⟩:TNumber),r2.2) h2) (zg r2.1 0 2 λa3=>(ldL (.sl) (a3.add 0) (λx4=>(zg r2.1 0 2 λa5=>(ldL (.sl) (a5.add 1) (λx6=>(zg r2.1 1 2 λa7=>(ldL (.sl) (a7.add 1) (λx8=>(zc (z82 x4 x6 x8) (λr9 h3=>(K ((⟨x4,r9⟩:TNumber),0) h3)) h2)) h2))) h2))) h2)))) h1)) h)
def z8o(a:TNumber)(b:TNumber)(K:(TNumber×Int)->Hp->Prop)(h:Hp):Prop:=(zc (W6 a b) (λr1 h1=>(K ((⟨r1.1.radicands,r1.1.coefs⟩:TNumber),r1.2) h1)) h)
def y_matrix_calc_sub(c:(Option Addr))(a:TNumber)(b:TNumber)(K:TNumber->Hp->Prop)(h:Hp):Prop:=(zc (z8o a b) (λr1 h1=>(zc (y_matrix_calc_take c (⟨r1.1.radicands,r1.1.coefs⟩:TNumber) r1.2) (λr2 h2=>(K r2 h2)) h1)) h)
def y_matrix_calc_subtract(c:(Option Addr))(to:Sl)(row:Sl)(n:TNumber)(from_:Int)(K:Unit->Hp->Prop)(h:Hp):Prop:=(zr (S:=Int×Unit) (λs1 k2 h1=>(ifP (decide (s1.1<(row.len:Int))) (z8 (S:=Unit) (λs3 h2=>(k2 ((i64.wrap (s1.1+1)),()) h2)) (λk4=>(zg row s1.1 2 λa5=>(ldL (.sl) (a5.add 0) (λx6_0=>(ldL (.sl) (a5.add 1) (λx6_1=>(zc (z2i (⟨x6_0,x6_1⟩:TNumber)) (λr7 h3=>(ifP (r7 != 0) (zg to s1.1 2 λa8=>(ldL (.sl) (a8.add 0) (λx9_0=>(ldL (.sl) (a8.add 1) (λx9_1=>(zg row s1.1 2 λa10=>(ldL (.sl) (a10.add 0) (λx11_0=>(ldL (.sl) (a10.add 1) (λx11_1=>(zc (y_matrix_calc_mul c n (⟨x11_0,x11_1⟩:TNumber)) (λr12 h4=>(zc (y_matrix_calc_sub c (⟨x9_0,x9_1⟩:TNumber) r12) (λr13 h5=>(zg to s1.1 2 λa14=>(stP a14 [.slice r13.radicands.a r13.radicands.len r13.radicands.cap,.slice r13.coefs.a r13.coefs.len r13.coefs.cap] (λh6=>(k4 () h6)) h5))) h4)) h3)) h3)) h3))) h3)) h3)) (k4 () h3))) h1)) h1)) h1)))) (K () h1))) (from_,()) h)
def zey(t:Sl)(a:Sl)(K:Sl->Hp->Prop)(h:Hp):Prop:=(zc (Wv t a) (λr1 h1=>(ifP (!r1) (K zf h1) (zc (z40 a) (λr2 h2=>(K r2 h2)) h1))) h)
def z8n(a:TNumber)(K:TNumber->Hp->Prop)(h:Hp):Prop:=(zc (z1n a) (λr1 h1=>(zc (zey r1.radicands r1.coefs) (λr2 h2=>(K (⟨r1.radicands,r2⟩:TNumber) h2)) h1)) h)
def z0v(m:Sl)(K:(Tmatrix_reduced×Int)->Hp->Prop)(h:Hp):Prop:=(zc (z1m m) (λr1 h1=>(ifP (r1.2 != 0) (K ((⟨zf,zf,(⟨zf,zf⟩:TNumber)⟩:Tmatrix_reduced),r1.2) h1) (Yo [.int .i64 0] (λp2 h2=>(zc (We 1) (λr3 h3=>(zc (Wc m) (λr4 h4=>(zr (S:=(Sl×Sl×Sl×Sl×Unit)×Int×Unit) (λs5 k6 h5=>(ifP (decide (s5.2.1<r4)) (z8 (S:=(Sl×Sl×Sl×Sl×Unit)×Unit) (λs7 h6=>(k6 ((s7.1.1,s7.1.2.1,s7.1.2.2.1,s7.1.2.2.2.1,()),(i64.wrap (s5.2.1+1)),()) h6)) (λk8=>(Yo [.int .i64 0] (λp9 h7=>(stP p9 [.int .i64 s5.2.1] (λh8=>(slP r1.1 (s5.1.2.1.len:Int) (r1.1.len:Int) 1 λc10=>(zc (Zm c10 ((some p9),())) (λr11 h9=>(ifP (decide (r11<0)) (k8 ((s5.1.1,s5.1.2.1,s5.1.2.2.1,s5.1.2.2.2.1,()),()) h9) (z8 (S:=(Sl×Sl×Sl×Sl×Unit)×Unit) (λs12 h10=>(zg r1.1 (s5.1.2.1.len:Int) 1 λa14=>(ldL (.sl) a14 (λx15=>(ldL (.int .i64) p9 (λx16=>(zg x15 x16 2 λa17=>(ldL (.sl) (a17.add 0) (λx18_0=>(ldL (.sl) (a17.add 1) (λx18_1=>(zc (y_matrix_calc_mul (some p2) (⟨s12.1.2.2.1,s12.1.2.2.2.1⟩:TNumber) (⟨x18_0,x18_1⟩:TNumber)) (λr19 h11=>(ldL (.int .i64) p9 (λx20=>(zr (S:=Int×Unit) (λs21 k22 h12=>(zg r1.1 (s5.1.2.1.len:Int) 1 λa23=>(ldL (.sl) a23 (λx24=>(ifP (decide (s21.1<(x24.len:Int))) (zg r1.1 (s5.1.2.1.len:Int) 1 λa25=>(ldL (.sl) a25 (λx26=>(zg r1.1 (s5.1.2.1.len:Int) 1 λa27=>(ldL (.sl) a27 (λx28=>(zg x28 s21.1 2 λa29=>(ldL (.sl) (a29.add 0) (λx30_0=>(ldL (.sl) (a29.add 1) (λx30_1=>(zc (y_matrix_calc_div (some p2) (⟨x30_0,x30_1⟩:TNumber) (⟨x18_0,x18_1⟩:TNumber)) (λr31 h13=>(zg x26 s21.1 2 λa32=>(stP a32 [.slice r31.radicands.a r31.radicands.len r31.radicands.cap,.slice r31.coefs.a r31.coefs.len r31.coefs.cap] (λh14=>(k22 ((i64.wrap (s21.1+1)),()) h14)) h13))) h12)) h12)) h12))) h12))) h12)) (zr (S:=Int×Unit) (λs33 k34 h15=>(ifP (decide (s33.1<(r1.1.len:Int))) (z8 (S:=Unit) (λs35 h16=>(k34 ((i64.wrap (s33.1+1)),()) h16)) (λk36=>(zg r1.1 s33.1 1 λa37=>(ldL (.sl) a37 (λx38=>(ldL (.int .i64) p9 (λx39=>(zg x38 x39 2 λa40=>(ldL (.sl) (a40.add 0) (λx41_0=>(ldL (.sl) (a40.add 1) (λx41_1=>(ifP (s33.1 != (s5.1.2.1.len:Int)) (zc (z2i (⟨x41_0,x41_1⟩:TNumber)) (λr42 h17=>(ifP (r42 != 0) (zg r1.1 (s5.1.2.1.len:Int) 1 λa43=>(ldL (.sl) a43 (λx44=>(ldL (.int .i64) p9 (λx45=>(Y3 (y_matrix_calc_subtract (some p2) x38 x44 (⟨x41_0,x41_1⟩:TNumber) x45) (λr46 h18=>(k36 () h18)) h17)) h17)) h17)) (k36 () h17))) h15) (k36 () h15))) h15)) h15))) h15)) h15)))) (ldL (.int .i64) p9 (λx47=>(Y5 1 8 [.int .i64 0] s12.1.2.1 1 [.int .i64 x47] (λw48 h19=>(k8 ((s12.1.1,w48,r19.radicands,r19.coefs,()),()) h19)) h15)) h15))) (0,()) h12))) h12))) (x20,()) h11)) h11)) h10)) h10)) h10))) h10)) h10))) (λk13=>(ifP (decide (r11>0)) (zg r1.1 (i64.wrap ((s5.1.2.1.len:Int)+r11)) 1 λa49=>(ldL (.sl) a49 (λx50=>(zg r1.1 (s5.1.2.1.len:Int) 1 λa51=>(ldL (.sl) a51 (λx52=>(zg r1.1 (s5.1.2.1.len:Int) 1 λa53=>(stP a53 [.slice x50.a x50.len x50.cap] (λh20=>(zg r1.1 (i64.wrap ((s5.1.2.1.len:Int)+r11)) 1 λa54=>(stP a54 [.slice x52.a x52.len x52.cap] (λh21=>(zc (z8n (⟨s5.1.2.2.1,s5.1.2.2.2.1⟩:TNumber)) (λr55 h22=>(k13 ((s5.1.1,s5.1.2.1,r55.radicands,r55.coefs,()),()) h22)) h21)) h20))) h9))) h9))) h9)) (k13 ((s5.1.1,s5.1.2.1,s5.1.2.2.1,s5.1.2.2.2.1,()),()) h9)))))) h8))) h7)) h5))) (ldL (.int .i64) (p2.add 0) (λx56=>(ifP (x56 != 0) (ldL (.int .i64) (p2.add 0) (λx57=>(K ((⟨zf,zf,(⟨zf,zf⟩:TNumber)⟩:Tmatrix_reduced),x57) h5)) h5) (K ((⟨s5.1.1,s5.1.2.1,(⟨s5.1.2.2.1,s5.1.2.2.2.1⟩:TNumber)⟩:Tmatrix_reduced),0) h5))) h5))) ((r1.1,zf,r3.radicands,r3.coefs,()),0,()) h4)) h3)) h2)) h1))) h)
def z4n(m:Sl)(K:(Sl×Int)->Hp->Prop)(h:Hp):Prop:=(zc (z2y m) (λr1 h1=>(ifP (!r1) (K (zf,1) h1) (zc (z0u m) (λr2 h2=>(zc (z0v r2) (λr3 h3=>(K (r3.1.pivots,r3.2) h3)) h2)) h1))) h)
def Wi:Nat->TTree->(Sl->Hp->Prop)->Hp->Prop
 | 0,_,_,_=>False
 | fuel+1,t,K,h=>(ifP ((t.parts.len:Int)==0) (Yo [.int .i64 t.a,.int .i64 t.b] (λp1 h1=>(K (⟨some p1,1,1⟩:Sl) h1)) h) (zr (S:=Sl×Int×Unit) (λs2 k3 h2=>(ifP (decide (s2.2.1<(t.parts.len:Int))) (zg t.parts s2.2.1 4 λa4=>(ldL (.int .i64) (a4.add 0) (λx5_0=>(ldL (.int .i64) (a4.add 1) (λx5_1=>(ldL (.int .i64) (a4.add 2) (λx5_2=>(ldL (.sl) (a4.add 3) (λx5_3=>(zc ((Wi fuel) (⟨x5_0,x5_1,x5_2,x5_3⟩:TTree)) (λr6 h3=>(rdO r6.a (r6.len*2) (λvs7=>(Y5 2 16 [.int .i64 0,.int .i64 0] s2.1 r6.len vs7 (λw8 h4=>(k3 (w8,(i64.wrap (s2.2.1+1)),()) h4)) h3)) h3)) h2)) h2)) h2)) h2)) h2)) (K s2.1 h2))) (zf,0,()) h))
def z1s(t:TTree)(K:Sl->Hp->Prop)(h:Hp):Prop:=∃fuel,Wi fuel t K h
def z59(x:Sl)(K:Unit->Hp->Prop)(h:Hp):Prop:=zac Z8d 1 Z9g x K h
def Xz(s:Sl)(K:Sl->Hp->Prop)(h:Hp):Prop:=(ifP (decide ((s.len:Int)<2)) (K s h) (zr (S:=Int×Unit) (λs1 k2 h1=>(ifP (decide (s1.1<(s.len:Int))) (zg s s1.1 1 λa3=>(ldL (.int .i64) a3 (λx4=>(zg s (i64.wrap (s1.1-1)) 1 λa5=>(ldL (.int .i64) a5 (λx6=>(ifP (x4==x6) (slP s s1.1 (s.len:Int) 1 λc7=>(zr (S:=Int×Int×Unit) (λs8 k9 h2=>(ifP (decide (s8.2.1<(c7.len:Int))) (z8 (S:=Int×Unit) (λs10 h3=>(k9 (s10.1,(i64.wrap (s8.2.1+1)),()) h3)) (λk11=>(zg c7 s8.2.1 1 λa12=>(ldL (.int .i64) a12 (λx13=>(zg c7 (i64.wrap (s8.2.1-1)) 1 λa14=>(ldL (.int .i64) a14 (λx15=>(ifP (x13 != x15) (zg c7 s8.2.1 1 λa16=>(ldL (.int .i64) a16 (λx17=>(zg s s8.1 1 λa18=>(stP a18 [.int .i64 x17] (λh4=>(k11 ((i64.wrap (s8.1+1)),()) h4)) h2))) h2)) (k11 (s8.1,()) h2))) h2))) h2)))) (slP s s8.1 (s.len:Int) 1 λc19=>(zgt c19 [.int .i64 0] (λh5=>(slP s 0 s8.1 1 λc20=>(K c20 h5))) h2)))) (s1.1,1,()) h1)) (k2 ((i64.wrap (s1.1+1)),()) h1))) h1))) h1)) (K s h1))) (1,()) h))
def Qx(t:TTree)(K:Sl->Hp->Prop)(h:Hp):Prop:=(zc (z1s t) (λr1 h1=>(zr (S:=Sl×Int×Unit) (λs2 k3 h2=>(ifP (decide (s2.2.1<(r1.len:Int))) (zg r1 s2.2.1 2 λa4=>(ldL (.int .i64) (a4.add 0) (λx5_0=>(ldL (.int .i64) (a4.add 1) (λx5_1=>(Y5 1 8 [.int .i64 0] s2.1 2 [.int .i64 x5_0,.int .i64 x5_1] (λw6 h3=>(k3 (w6,(i64.wrap (s2.2.1+1)),()) h3)) h2)) h2)) h2)) (Y3 (z59 s2.1) (λr7 h4=>(Y3 (Xz s2.1) (λr8 h5=>(K r8 h5)) h4)) h2))) (zf,0,()) h1)) h)
def Vc(a:Sl)(b:Sl)(K:(Int×Bool)->Hp->Prop)(h:Hp):Prop:=(zr (S:=Sl×Int×Unit) (λs1 k2 h1=>(ifP (decide (s1.2.1<(a.len:Int))) (z8 (S:=Sl×Unit) (λs3 h2=>(k2 (s3.1,(i64.wrap (s1.2.1+1)),()) h2)) (λk4=>(zg a s1.2.1 1 λa5=>(ldL (.int .i64) a5 (λx6=>(zc (Zz b x6) (λr7 h3=>(ifP r7 (Y5 1 8 [.int .i64 0] s1.1 1 [.int .i64 x6] (λw8 h4=>(k4 (w8,()) h4)) h3) (k4 (s1.1,()) h3))) h1)) h1)))) (ifP ((s1.1.len:Int) != 1) (K (0,false) h1) (zg s1.1 0 1 λa9=>(ldL (.int .i64) a9 (λx10=>(K (x10,true) h1)) h1))))) (zf,0,()) h)
def z0m(l:Sl)(K:Bool->Hp->Prop)(h:Hp):Prop:=(zr (S:=Int×Unit) (λs1 k2 h1=>(ifP (decide (s1.1<(l.len:Int))) (z8 (S:=Unit) (λs3 h2=>(k2 ((i64.wrap (s1.1+1)),()) h2)) (λk4=>(zg l s1.1 1 λa5=>(ldL (.int .i64) a5 (λx6=>(ifP (decide (x6<0)) (K false h1) (ifP (decide (s1.1>0)) (zg l (i64.wrap (s1.1-1)) 1 λa7=>(ldL (.int .i64) a7 (λx8=>(ifP (decide (x8>=x6)) (K false h1) (k4 () h1))) h1)) (k4 () h1)))) h1)))) (K true h1))) (0,()) h)
def z47(a:Sl)(b:Sl)(c:Sl)(K:(Int×Int×Int×Bool)->Hp->Prop)(h:Hp):Prop:=(zc (Vc a b) (λr1 h1=>(zc (Vc b c) (λr2 h2=>(zc (Vc a c) (λr3 h3=>(z8 (S:=Unit) (λs4 h4=>(K (r1.1,r2.1,r3.1,true) h4)) (λk5=>(ifP (!r1.2) (K (0,0,0,false) h3) (ifP (!r2.2) (K (0,0,0,false) h3) (ifP (!r3.2) (K (0,0,0,false) h3) (ifP (r1.1==r2.1) (K (0,0,0,false) h3) (ifP (r2.1==r3.1) (K (0,0,0,false) h3) (ifP (r1.1==r3.1) (K (0,0,0,false) h3) (zc (z0m a) (λr6 h5=>(ifP (!r6) (K (0,0,0,false) h5) (zc (z0m b) (λr7 h6=>(ifP (!r7) (K (0,0,0,false) h6) (zc (z0m c) (λr8 h7=>(ifP (!r8) (K (0,0,0,false) h7) (k5 () h7))) h6))) h5))) h3)))))))))) h2)) h1)) h)
def z0j(a:TTree)(b:TTree)(c:TTree)(K:(TTree×Bool)->Hp->Prop)(h:Hp):Prop:=(zc (Qx a) (λr1 h1=>(zc (Qx b) (λr2 h2=>(zc (Qx c) (λr3 h3=>(zc (z47 r1 r2 r3) (λr4 h4=>(Yo [.int .i64 a.a,.int .i64 a.b,.int .i64 a.c,.slice a.parts.a a.parts.len a.parts.cap,.int .i64 b.a,.int .i64 b.b,.int .i64 b.c,.slice b.parts.a b.parts.len b.parts.cap,.int .i64 c.a,.int .i64 c.b,.int .i64 c.c,.slice c.parts.a c.parts.len c.parts.cap] (λp5 h5=>(K ((⟨r4.2.2.1,r4.1,r4.2.1,(⟨some p5,3,3⟩:Sl)⟩:TTree),r4.2.2.2) h5)) h4)) h3)) h2)) h1)) h)
def z4f(l:Sl)(K:(Sl×Bool)->Hp->Prop)(h:Hp):Prop:=(zr (S:=Int×Unit) (λs1 k2 h1=>(ifP (decide (s1.1<(l.len:Int))) (zr (S:=Int×Unit) (λs3 k4 h2=>(ifP (decide (s3.1<(l.len:Int))) (zr (S:=Int×Unit) (λs5 k6 h3=>(ifP (decide (s5.1<(l.len:Int))) (zg l s1.1 4 λa7=>(ldL (.int .i64) (a7.add 0) (λx8_0=>(ldL (.int .i64) (a7.add 1) (λx8_1=>(ldL (.int .i64) (a7.add 2) (λx8_2=>(ldL (.sl) (a7.add 3) (λx8_3=>(zg l s3.1 4 λa9=>(ldL (.int .i64) (a9.add 0) (λx10_0=>(ldL (.int .i64) (a9.add 1) (λx10_1=>(ldL (.int .i64) (a9.add 2) (λx10_2=>(ldL (.sl) (a9.add 3) (λx10_3=>(zg l s5.1 4 λa11=>(ldL (.int .i64) (a11.add 0) (λx12_0=>(ldL (.int .i64) (a11.add 1) (λx12_1=>(ldL (.int .i64) (a11.add 2) (λx12_2=>(ldL (.sl) (a11.add 3) (λx12_3=>(zc (z0j (⟨x8_0,x8_1,x8_2,x8_3⟩:TTree) (⟨x10_0,x10_1,x10_2,x10_3⟩:TTree) (⟨x12_0,x12_1,x12_2,x12_3⟩:TTree)) (λr13 h4=>(ifP (!r13.2) (k6 ((i64.wrap (s5.1+1)),()) h4) (Yo [.int .i64 r13.1.a,.int .i64 r13.1.b,.int .i64 r13.1.c,.slice r13.1.parts.a r13.1.parts.len r13.1.parts.cap] (λp14 h5=>(zr (S:=Sl×Int×Unit) (λs15 k16 h6=>(ifP (decide (s15.2.1<(l.len:Int))) (z8 (S:=Sl×Unit) (λs17 h7=>(k16 (s17.1,(i64.wrap (s15.2.1+1)),()) h7)) (λk18=>(zg l s15.2.1 4 λa19=>(ldL (.int .i64) (a19.add 0) (λx20_0=>(ldL (.int .i64) (a19.add 1) (λx20_1=>(ldL (.int .i64) (a19.add 2) (λx20_2=>(ldL (.sl) (a19.add 3) (λx20_3=>(ifP (s15.2.1 != s1.1) (ifP (s15.2.1 != s3.1) (ifP (s15.2.1 != s5.1) (Y5 4 48 [.int .i64 0,.int .i64 0,.int .i64 0,.slice zf.a zf.len zf.cap] s15.1 1 [.int .i64 x20_0,.int .i64 x20_1,.int .i64 x20_2,.slice x20_3.a x20_3.len x20_3.cap] (λw21 h8=>(k18 (w21,()) h8)) h6) (k18 (s15.1,()) h6)) (k18 (s15.1,()) h6)) (k18 (s15.1,()) h6))) h6)) h6)) h6)) h6)))) (K (s15.1,true) h6))) ((⟨some p14,1,1⟩:Sl),0,()) h5)) h4))) h3)) h3)) h3)) h3)) h3))) h3)) h3)) h3)) h3))) h3)) h3)) h3)) h3)) (k4 ((i64.wrap (s3.1+1)),()) h3))) ((i64.wrap (s3.1+1)),()) h2) (k2 ((i64.wrap (s1.1+1)),()) h2))) ((i64.wrap (s1.1+1)),()) h1) (K (l,false) h1))) (0,()) h)
def z3d(g:TGraph)(K:(TTree×Int)->Hp->Prop)(h:Hp):Prop:=(zc (Qw g) (λr1 h1=>(ifP (!r1) (K ((⟨0,0,0,zf⟩:TTree),1) h1) (ifP (decide (g.n>12)) (K ((⟨0,0,0,zf⟩:TTree),3) h1) (zr (S:=Sl×Int×Unit) (λs2 k3 h2=>(ifP (decide (s2.2.1<(g.edges.len:Int))) (zg g.edges s2.2.1 2 λa4=>(ldL (.int .i64) (a4.add 0) (λx5_0=>(ldL (.int .i64) (a4.add 1) (λx5_1=>(Y5 4 48 [.int .i64 0,.int .i64 0,.int .i64 0,.slice zf.a zf.len zf.cap] s2.1 1 [.int .i64 x5_0,.int .i64 x5_1,.int .i64 0,.slice zf.a zf.len zf.cap] (λw6 h3=>(k3 (w6,(i64.wrap (s2.2.1+1)),()) h3)) h2)) h2)) h2)) (zr (S:=Sl×Bool×Unit) (λs7 k8 h4=>(ifP s7.2.1 (zc (z4f s7.1) (λr9 h5=>(k8 (r9.1,r9.2,()) h5)) h4) (z8 (S:=(Int×Int×Int×Sl×Unit)×Unit) (λs10 h6=>(zg s7.1 0 4 λa12=>(ldL (.int .i64) (a12.add 0) (λx13_0=>(ldL (.int .i64) (a12.add 1) (λx13_1=>(ldL (.int .i64) (a12.add 2) (λx13_2=>(ldL (.sl) (a12.add 3) (λx13_3=>(K ((⟨x13_0,x13_1,x13_2,x13_3⟩:TTree),0) h6)) h6)) h6)) h6)) h6))) (λk11=>(ifP ((s7.1.len:Int) != 1) (K ((⟨0,0,0,zf⟩:TTree),13) h4) (zg s7.1 0 4 λa14=>(ldL (.int .i64) (a14.add 0) (λx15_0=>(ldL (.int .i64) (a14.add 1) (λx15_1=>(ldL (.int .i64) (a14.add 2) (λx15_2=>(ldL (.sl) (a14.add 3) (λx15_3=>(zc (Qx (⟨x15_0,x15_1,x15_2,x15_3⟩:TTree)) (λr16 h7=>(ifP ((r16.len:Int) != g.n) (K ((⟨0,0,0,zf⟩:TTree),13) h7) (k11 ((0,0,0,zf,()),()) h7))) h4)) h4)) h4)) h4)) h4))))))) (s2.1,true,()) h2))) (zf,0,()) h1)))) h)
def z69(g:TGraph)(K:Int->Hp->Prop)(h:Hp):Prop:=(zc (Qw g) (λr1 h1=>(ifP (!r1) (K 0 h1) (zc (Wf g) (λr2 h2=>(K (i64.wrap ((i64.wrap (2*g.n))-(r2.len:Int))) h2)) h1))) h)
def z31(g:TGraph)(K:Bool->Hp->Prop)(h:Hp):Prop:=(zc (Qw g) (λr1 h1=>(ifP r1 (ifP (decide (g.n<=1)) (K true h1) (zc (z69 g) (λr2 h2=>(K (r2==3) h2)) h1)) (K false h1))) h)
def V1(s1:Sl)(s2:Sl)(K:Int->Hp->Prop)(h:Hp):Prop:=(zr (S:=Int×Unit) (λs3 k4 h1=>(ifP (decide (s3.1<(s1.len:Int))) (zg s1 s3.1 1 λa5=>(ldL (.int .i64) a5 (λx6=>(ifP (decide (s3.1>=(s2.len:Int))) (K 1 h1) (zg s2 s3.1 1 λa7=>(ldL (.int .i64) a7 (λx8=>(zc (Qv x6 x8) (λr9 h2=>(ifP (r9 != 0) (K r9 h2) (k4 ((i64.wrap (s3.1+1)),()) h2))) h1)) h1)))) h1)) (ifP (decide ((s1.len:Int)<(s2.len:Int))) (K (-1) h1) (K 0 h1)))) (0,()) h)
def z1a(a:A2_Int)(b:A2_Int)(K:Int->Hp->Prop)(h:Hp):Prop:=(Yo [.int .i64 a.c0,.int .i64 a.c1] (λp1 h1=>(Yo [.int .i64 b.c0,.int .i64 b.c1] (λp2 h2=>(slP (⟨some p1,2,2⟩:Sl) 0 2 1 λc3=>(slP (⟨some p2,2,2⟩:Sl) 0 2 1 λc4=>(zc (V1 c3 c4) (λr5 h3=>(K r5 h3)) h2)))) h1)) h)
def qp(x:Sl)(K:Unit->Hp->Prop)(h:Hp):Prop:=zac Q8 2 z6t x K h
def Xc(s1:Sl)(s2:Sl)(K:Bool->Hp->Prop)(h:Hp):Prop:=(ifP ((s1.len:Int) != (s2.len:Int)) (K false h) (zr (S:=Int×Unit) (λs3 k4 h1=>(ifP (decide (s3.1<(s1.len:Int))) (zg s1 s3.1 2 λa5=>(ldL (.int .i64) (a5.add 0) (λx6_0=>(ldL (.int .i64) (a5.add 1) (λx6_1=>(zg s2 s3.1 2 λa7=>(ldL (.int .i64) (a7.add 0) (λx8_0=>(ldL (.int .i64) (a7.add 1) (λx8_1=>(ifP (!(x6_0==x8_0&&x6_1==x8_1)) (K false h1) (k4 ((i64.wrap (s3.1+1)),()) h1))) h1)) h1))) h1)) h1)) (K true h1))) (0,()) h))
def z41(Zlg:TTree->(Bool->Hp->Prop)->Hp->Prop)(p:TTree)(K:Bool->Hp->Prop)(h:Hp):Prop:=(zc (Zlg p) (λr1 h1=>(K (!r1) h1)) h)
def yn(Zlg:TTree->(Bool->Hp->Prop)->Hp->Prop)(s:Sl)(K:Int->Hp->Prop)(h:Hp):Prop:=(zr (S:=Int×Unit) (λs1 k2 h1=>(ifP (decide (s1.1<(s.len:Int))) (zg s s1.1 4 λa3=>(ldL (.int .i64) (a3.add 0) (λx4_0=>(ldL (.int .i64) (a3.add 1) (λx4_1=>(ldL (.int .i64) (a3.add 2) (λx4_2=>(ldL (.sl) (a3.add 3) (λx4_3=>(zc ((z41 Zlg) (⟨x4_0,x4_1,x4_2,x4_3⟩:TTree)) (λr5 h2=>(ifP r5 (K s1.1 h2) (k2 ((i64.wrap (s1.1+1)),()) h2))) h1)) h1)) h1)) h1)) h1)) (K (-1) h1))) (0,()) h)
def Z8(Zlg:TTree->(Bool->Hp->Prop)->Hp->Prop)(s:Sl)(K:Bool->Hp->Prop)(h:Hp):Prop:=(zc ((yn Zlg) s) (λr1 h1=>(K (decide (r1>=0)) h1)) h)
def Qy:Nat->TTree->(Bool->Hp->Prop)->Hp->Prop
 | 0,_,_,_=>False
 | fuel+1,t,K,h=>(ifP ((t.parts.len:Int)==0) (K true h) (z8 (S:=Unit) (λs1 h1=>(zg t.parts 0 4 λa3=>(ldL (.int .i64) (a3.add 0) (λx4_0=>(ldL (.int .i64) (a3.add 1) (λx4_1=>(ldL (.int .i64) (a3.add 2) (λx4_2=>(ldL (.sl) (a3.add 3) (λx4_3=>(zg t.parts 1 4 λa5=>(ldL (.int .i64) (a5.add 0) (λx6_0=>(ldL (.int .i64) (a5.add 1) (λx6_1=>(ldL (.int .i64) (a5.add 2) (λx6_2=>(ldL (.sl) (a5.add 3) (λx6_3=>(zg t.parts 2 4 λa7=>(ldL (.int .i64) (a7.add 0) (λx8_0=>(ldL (.int .i64) (a7.add 1) (λx8_1=>(ldL (.int .i64) (a7.add 2) (λx8_2=>(ldL (.sl) (a7.add 3) (λx8_3=>(zc (z0j (⟨x4_0,x4_1,x4_2,x4_3⟩:TTree) (⟨x6_0,x6_1,x6_2,x6_3⟩:TTree) (⟨x8_0,x8_1,x8_2,x8_3⟩:TTree)) (λr9 h2=>(ifP r9.2 (ifP (r9.1.a==t.a) (ifP (r9.1.b==t.b) (K (r9.1.c==t.c) h2) (K false h2)) (K false h2)) (K false h2))) h1)) h1)) h1)) h1)) h1))) h1)) h1)) h1)) h1))) h1)) h1)) h1)) h1))) (λk2=>(ifP ((t.parts.len:Int) != 3) (K false h) (zc ((Z8 (Qy fuel)) t.parts) (λr10 h3=>(ifP r10 (K false h3) (k2 () h3))) h)))))
def z6n(t:TTree)(K:Bool->Hp->Prop)(h:Hp):Prop:=∃fuel,Qy fuel t K h
def z3f(g:TGraph)(t:TTree)(K:Bool->Hp->Prop)(h:Hp):Prop:=(zc (z1s t) (λr1 h1=>(Y3 (qp r1) (λr2 h2=>(zc (Xc r1 g.edges) (λr3 h3=>(ifP r3 (zc (Qx t) (λr4 h4=>(ifP ((r4.len:Int)==g.n) (zc (z6n t) (λr5 h5=>(K r5 h5)) h4) (K false h4))) h3) (K false h3))) h2)) h1)) h)
def z3e(g:TGraph)(t:TTree)(K:Bool->Hp->Prop)(h:Hp):Prop:=(zc (Qw g) (λr1 h1=>(ifP r1 (ifP (decide (g.n<=12)) (zc (z3f g t) (λr2 h2=>(K r2 h2)) h1) (K false h1)) (K false h1))) h)
def z2l(K:Bool->Hp->Prop)(h:Hp):Prop:=(zc (z13) (λr1 h1=>(Yo [.int .i8 0,.int .i8 0,.int .i8 2,.int .i8 0,.int .i8 1,.int .i8 2,.int .i8 3,.int .i8 2] (λp2 h2=>(zc (z1r r1 (⟨some p2,4,4⟩:Sl)) (λr3 h3=>(zc (z4n r3) (λr4 h4=>(zc (z3d r1) (λr5 h5=>(ifP (r4.2==0) (ifP ((r4.1.len:Int)==5) (zc (z31 r1) (λr6 h6=>(ifP r6 (ifP (r5.2==0) (zc (z3e r1 (⟨r5.1.a,r5.1.b,r5.1.c,r5.1.parts⟩:TTree)) (λr7 h7=>(ifP r7 (zc (z23 r1 (⟨some p2,4,4⟩:Sl)) (λr8 h8=>(zc (Vp r8) (λr9 h9=>(ifP r9 (zc (z8e r1) (λr10 h10=>(K ((r10.len:Int)==0) h10)) h9) (K false h9))) h8)) h7) (K false h7))) h6) (K false h6)) (K false h6))) h5) (K false h5)) (K false h5))) h4)) h3)) h2)) h1)) h)
def qx(s:Sl)(K:Sl->Hp->Prop)(h:Hp):Prop:=(ifP s.a.isNone (K zf h) (Yo [] (λp1 h1=>(rdO s.a (s.len*2) (λvs2=>(Y5 2 16 [.int .i64 0,.int .i64 0] (⟨some p1,0,0⟩:Sl) s.len vs2 (λw3 h2=>(K w3 h2)) h1)) h1)) h))
def Q1(s:Sl)(i:Int)(j:Int)(K:Sl->Hp->Prop)(h:Hp):Prop:=(zxm s i j (s.len:Int) 2 λc1=>(ifP (i==j) (K s h) (slP s 0 i 2 λc2=>(slP s j (s.len:Int) 2 λc3=>(rdO c3.a (c3.len*2) (λvs4=>(Y5 2 16 [.int .i64 0,.int .i64 0] c2 c3.len vs4 (λw5 h1=>(slP w5 (w5.len:Int) (s.len:Int) 2 λc6=>(zgt c6 [.int .i64 0,.int .i64 0] (λh2=>(K w5 h2)) h1))) h)) h)))))
def z0z(g:TGraph)(K:Sl->Hp->Prop)(h:Hp):Prop:=(zc (Qw g) (λr1 h1=>(ifP (!r1) (K zf h1) (zc (Wf g) (λr2 h2=>(zr (S:=Sl×Int×Unit) (λs3 k4 h3=>(ifP (decide (s3.2.1<(g.edges.len:Int))) (z8 (S:=Sl×Unit) (λs5 h4=>(k4 (s5.1,(i64.wrap (s3.2.1+1)),()) h4)) (λk6=>(zc (qx g.edges) (λr7 h5=>(Y3 (Q1 r7 s3.2.1 (i64.wrap (s3.2.1+1))) (λr8 h6=>(zc (z4p g.n r8) (λr9 h7=>(ifP ((r9.1.len:Int)==(r2.len:Int)) (Y5 1 8 [.int .i64 0] s3.1 1 [.int .i64 s3.2.1] (λw10 h8=>(k6 (w10,()) h8)) h7) (k6 (s3.1,()) h7))) h6)) h5)) h3))) (K s3.1 h3))) (zf,0,()) h2)) h1))) h)
def z5z(a:Int)(b:Int)(K:A2_Int->Hp->Prop)(h:Hp):Prop:=(K (⟨zws a b,zje a b⟩:A2_Int) h)
def Ys(x:Sl)(K:Unit->Hp->Prop)(h:Hp):Prop:=zac Q8 2 z6t x K h
def Qr(s:Sl)(K:Sl->Hp->Prop)(h:Hp):Prop:=(ifP (decide ((s.len:Int)<2)) (K s h) (zr (S:=Int×Unit) (λs1 k2 h1=>(ifP (decide (s1.1<(s.len:Int))) (zg s s1.1 2 λa3=>(ldL (.int .i64) (a3.add 0) (λx4_0=>(ldL (.int .i64) (a3.add 1) (λx4_1=>(zg s (i64.wrap (s1.1-1)) 2 λa5=>(ldL (.int .i64) (a5.add 0) (λx6_0=>(ldL (.int .i64) (a5.add 1) (λx6_1=>(ifP (x4_0==x6_0&&x4_1==x6_1) (slP s s1.1 (s.len:Int) 2 λc7=>(zr (S:=Int×Int×Unit) (λs8 k9 h2=>(ifP (decide (s8.2.1<(c7.len:Int))) (z8 (S:=Int×Unit) (λs10 h3=>(k9 (s10.1,(i64.wrap (s8.2.1+1)),()) h3)) (λk11=>(zg c7 s8.2.1 2 λa12=>(ldL (.int .i64) (a12.add 0) (λx13_0=>(ldL (.int .i64) (a12.add 1) (λx13_1=>(zg c7 (i64.wrap (s8.2.1-1)) 2 λa14=>(ldL (.int .i64) (a14.add 0) (λx15_0=>(ldL (.int .i64) (a14.add 1) (λx15_1=>(ifP (!(x13_0==x15_0&&x13_1==x15_1)) (zg c7 s8.2.1 2 λa16=>(ldL (.int .i64) (a16.add 0) (λx17_0=>(ldL (.int .i64) (a16.add 1) (λx17_1=>(zg s s8.1 2 λa18=>(stP a18 [.int .i64 x17_0,.int .i64 x17_1] (λh4=>(k11 ((i64.wrap (s8.1+1)),()) h4)) h2))) h2)) h2)) (k11 (s8.1,()) h2))) h2)) h2))) h2)) h2)))) (slP s s8.1 (s.len:Int) 2 λc19=>(zgt c19 [.int .i64 0,.int .i64 0] (λh5=>(slP s 0 s8.1 2 λc20=>(K c20 h5))) h2)))) (s1.1,1,()) h1)) (k2 ((i64.wrap (s1.1+1)),()) h1))) h1)) h1))) h1)) h1)) (K s h1))) (1,()) h))
def z8h(n:Int)(edges:Sl)(K:(TGraph×Int)->Hp->Prop)(h:Hp):Prop:=(z8 (S:=(Int×Sl×Unit)×Unit) (λs1 h1=>(zr (S:=(Int×Sl×Unit)×(Int×Sl×Unit)×Int×Unit) (λs3 k4 h2=>(ifP (decide (s3.2.2.1<(edges.len:Int))) (zg edges s3.2.2.1 2 λa5=>(ldL (.int .i64) (a5.add 0) (λx6_0=>(ldL (.int .i64) (a5.add 1) (λx6_1=>(z8 (S:=(Int×Sl×Unit)×Unit) (λs7 h3=>(zc (z5z x6_0 x6_1) (λr9 h4=>(Y5 2 16 [.int .i64 0,.int .i64 0] s3.2.1.2.1 1 [.int .i64 r9.c0,.int .i64 r9.c1] (λw10 h5=>(k4 ((s7.1.1,s7.1.2.1,()),(s3.2.1.1,w10,()),(i64.wrap (s3.2.2.1+1)),()) h5)) h4)) h3)) (λk8=>(zc (Wo n x6_0) (λr11 h6=>(ifP (!r11) (K ((⟨0,zf⟩:TGraph),1) h6) (zc (Wo n x6_1) (λr12 h7=>(ifP (!r12) (K ((⟨0,zf⟩:TGraph),1) h7) (ifP (x6_0==x6_1) (K ((⟨0,zf⟩:TGraph),1) h7) (k8 ((s3.1.1,s3.1.2.1,()),()) h7)))) h6))) h2)))) h2)) h2)) (Y3 (Ys s3.2.1.2.1) (λr13 h8=>(Y3 (Qr s3.2.1.2.1) (λr14 h9=>(K ((⟨s3.2.1.1,r14⟩:TGraph),0) h9)) h8)) h2))) ((s1.1.1,s1.1.2.1,()),(n,zf,()),0,()) h1)) (λk2=>(ifP (decide (n<0)) (K ((⟨0,zf⟩:TGraph),1) h) (ifP (decide (n>60)) (K ((⟨0,zf⟩:TGraph),1) h) (k2 ((0,zf,()),()) h)))))
def z2u(e:A2_Int)(v0:(Option Addr))(v1:(Option Addr))(K:Bool->Hp->Prop)(h:Hp):Prop:=(yu v0 λp1=>(ldL (.int .i64) p1 (λx2=>(yu v1 λp3=>(ldL (.int .i64) p3 (λx4=>(zc (z5z x2 x4) (λr5 h1=>(K (e.c0==r5.c0&&e.c1==r5.c1) h1)) h)) h))) h))
def qy(s:Sl)(f1:(Option Addr×Option Addr×Unit))(K:Int->Hp->Prop)(h:Hp):Prop:=(zr (S:=Int×Unit) (λs1 k2 h1=>(ifP (decide (s1.1<(s.len:Int))) (zg s s1.1 2 λa3=>(ldL (.int .i64) (a3.add 0) (λx4_0=>(ldL (.int .i64) (a3.add 1) (λx4_1=>(zc (z2u (⟨x4_0,x4_1⟩:A2_Int) f1.1 f1.2.1) (λr5 h2=>(ifP r5 (K s1.1 h2) (k2 ((i64.wrap (s1.1+1)),()) h2))) h1)) h1)) h1)) (K (-1) h1))) (0,()) h)
def qo(s:Sl)(f1:(Option Addr×Option Addr×Unit))(K:Sl->Hp->Prop)(h:Hp):Prop:=(zc (qy s (f1.1,f1.2.1,())) (λr1 h1=>(ifP (r1==(-1)) (K s h1) (zr (S:=Int×Int×Unit) (λs2 k3 h2=>(ifP (decide (s2.2.1<(s.len:Int))) (z8 (S:=Int×Unit) (λs4 h3=>(k3 (s4.1,(i64.wrap (s2.2.1+1)),()) h3)) (λk5=>(zg s s2.2.1 2 λa6=>(ldL (.int .i64) (a6.add 0) (λx7_0=>(ldL (.int .i64) (a6.add 1) (λx7_1=>(zc (z2u (⟨x7_0,x7_1⟩:A2_Int) f1.1 f1.2.1) (λr8 h4=>(ifP (!r8) (zg s s2.1 2 λa9=>(stP a9 [.int .i64 x7_0,.int .i64 x7_1] (λh5=>(k5 ((i64.wrap (s2.1+1)),()) h5)) h4)) (k5 (s2.1,()) h4))) h2)) h2)) h2)))) (slP s s2.1 (s.len:Int) 2 λc10=>(zgt c10 [.int .i64 0,.int .i64 0] (λh6=>(slP s 0 s2.1 2 λc11=>(K c11 h6))) h2)))) (r1,(i64.wrap (r1+1)),()) h1))) h)
def Yr(x:Sl)(target:A2_Int)(K:(Int×Bool)->Hp->Prop)(h:Hp):Prop:=(zr (S:=Int×Int×Unit) (λs1 k2 h1=>(ifP (decide (s1.1<s1.2.1)) (0<=(1:Int) /\ (zg x (i64.wrap (((u64.wrap ((i64.wrap (s1.1+s1.2.1)))):Int).fdiv (2 ^ (min (1:Int).toNat u64.bits)))) 2 λa3=>(ldL (.int .i64) (a3.add 0) (λx4_0=>(ldL (.int .i64) (a3.add 1) (λx4_1=>(zc (X3 (⟨x4_0,x4_1⟩:A2_Int) target) (λr5 h2=>(ifP (decide (r5<0)) (k2 ((i64.wrap ((i64.wrap (((u64.wrap ((i64.wrap (s1.1+s1.2.1)))):Int).fdiv (2 ^ (min (1:Int).toNat u64.bits))))+1)),s1.2.1,()) h2) (k2 (s1.1,(i64.wrap (((u64.wrap ((i64.wrap (s1.1+s1.2.1)))):Int).fdiv (2 ^ (min (1:Int).toNat u64.bits)))),()) h2))) h1)) h1)) h1))) (ifP (decide (s1.1<(x.len:Int))) (zg x s1.1 2 λa6=>(ldL (.int .i64) (a6.add 0) (λx7_0=>(ldL (.int .i64) (a6.add 1) (λx7_1=>(zc (X3 (⟨x7_0,x7_1⟩:A2_Int) target) (λr8 h3=>(K (s1.1,(r8==0)) h3)) h1)) h1)) h1)) (K (s1.1,false) h1)))) (0,(x.len:Int),()) h)
def zk6(g:TGraph)(a:Int)(b:Int)(K:Bool->Hp->Prop)(h:Hp):Prop:=(zc (Qw g) (λr1 h1=>(ifP (!r1) (K false h1) (zc (z5z a b) (λr2 h2=>(zc (Yr g.edges r2) (λr3 h3=>(K r3.2 h3)) h2)) h1))) h)
def z1w(g:TGraph)(a:Int)(b:Int)(split:Int)(K:(TGraph×Int)->Hp->Prop)(h:Hp):Prop:=(Yo [.int .i64 a] (λp1 h1=>(Yo [.int .i64 b] (λp2 h2=>(z8 (S:=(Int×Sl×Unit)×Unit) (λs3 h3=>(ldL (.int .i64) p1 (λx5=>(ldL (.int .i64) p2 (λx6=>(zc (qx g.edges) (λr7 h4=>(Y5 2 16 [.int .i64 0,.int .i64 0] r7 2 [.int .i64 x5,.int .i64 g.n,.int .i64 x6,.int .i64 g.n] (λw8 h5=>(z8 (S:=(Int×Sl×Unit)×Sl×Unit) (λs9 h6=>(ifP (g.n==60) (K ((⟨0,zf⟩:TGraph),3) h6) (zc (z8h (i64.wrap (g.n+1)) s9.2.1) (λr11 h7=>(K ((⟨r11.1.n,r11.1.edges⟩:TGraph),r11.2) h7)) h6))) (λk10=>(ifP (decide (split>=0)) (z8 (S:=(Int×Sl×Unit)×Unit) (λs12 h8=>(Y3 (qo w8 ((some p1),(some p2),())) (λr14 h9=>(Y5 2 16 [.int .i64 0,.int .i64 0] r14 1 [.int .i64 split,.int .i64 g.n] (λw15 h10=>(k10 ((s12.1.1,s12.1.2.1,()),w15,()) h10)) h9)) h8)) (λk13=>(zc (Wo g.n split) (λr16 h11=>(ifP (!r16) (K ((⟨0,zf⟩:TGraph),1) h11) (ldL (.int .i64) p1 (λx17=>(ifP (split==x17) (K ((⟨0,zf⟩:TGraph),1) h11) (ldL (.int .i64) p2 (λx18=>(ifP (split==x18) (K ((⟨0,zf⟩:TGraph),1) h11) (ldL (.int .i64) p1 (λx19=>(ldL (.int .i64) p2 (λx20=>(zc (zk6 g x19 x20) (λr21 h12=>(ifP (!r21) (K ((⟨0,zf⟩:TGraph),1) h12) (k13 ((s3.1.1,s3.1.2.1,()),()) h12))) h11)) h11)) h11))) h11))) h11))) h5))) (k10 ((s3.1.1,s3.1.2.1,()),w8,()) h5))))) h4)) h3)) h3)) h3)) (λk4=>(zc (Qw g) (λr22 h13=>(ifP (!r22) (K ((⟨0,zf⟩:TGraph),1) h13) (ldL (.int .i64) p1 (λx23=>(zc (Wo g.n x23) (λr24 h14=>(ifP (!r24) (K ((⟨0,zf⟩:TGraph),1) h14) (ldL (.int .i64) p2 (λx25=>(zc (Wo g.n x25) (λr26 h15=>(ifP (!r26) (K ((⟨0,zf⟩:TGraph),1) h15) (ldL (.int .i64) p1 (λx27=>(ldL (.int .i64) p2 (λx28=>(ifP (x27==x28) (K ((⟨0,zf⟩:TGraph),1) h15) (k4 ((0,zf,()),()) h15))) h15)) h15))) h14)) h14))) h13)) h13))) h2)))) h1)) h)
def z3z(steps:Sl)(K:Bool->Hp->Prop)(h:Hp):Prop:=(z8 (S:=Unit) (λs1 h1=>(Yo [.int .i64 0,.int .i64 1] (λp3 h2=>(Yo [.int .i8 0,.int .i8 0,.int .i8 3,.int .i8 1] (λp4 h3=>(zr (S:=(Int×Sl×Unit)×Sl×Int×Unit) (λs5 k6 h4=>(ifP (decide (s5.2.2.1<(steps.len:Int))) (z8 (S:=(Int×Sl×Unit)×Sl×Unit) (λs7 h5=>(k6 ((s7.1.1,s7.1.2.1,()),s7.2.1,(i64.wrap (s5.2.2.1+1)),()) h5)) (λk8=>(zg steps s5.2.2.1 4 λa9=>(ldL (.int .i8) (a9.add 0) (λx10_0=>(ldL (.int .i8) (a9.add 1) (λx10_1=>(ldL (.int .i8) (a9.add 2) (λx10_2=>(ldL (.int .i8) (a9.add 3) (λx10_3=>((s5.1.1:Int)≠0 /\ (((i64.wrap (s5.1.1-1)):Int)≠0 /\ ((s5.1.1:Int)≠0 /\ ((50:Int)≠0 /\ ((50:Int)≠0 /\ (zg s5.2.1 (((i64.wrap ((i64.wrap ((((i64.wrap ((u8.wrap (x10_0)))):Int).tmod s5.1.1)+1))+(((i64.wrap ((u8.wrap (x10_1)))):Int).tmod (i64.wrap (s5.1.1-1))))):Int).tmod s5.1.1) 2 λa11=>(ldL (.int .i8) (a11.add 0) (λx12=>(zg s5.2.1 (((i64.wrap ((u8.wrap (x10_0)))):Int).tmod s5.1.1) 2 λa13=>(ldL (.int .i8) (a13.add 0) (λx14=>(zg s5.2.1 (((i64.wrap ((u8.wrap (x10_0)))):Int).tmod s5.1.1) 2 λa15=>(ldL (.int .i8) (a15.add 1) (λx16=>(zg s5.2.1 (((i64.wrap ((i64.wrap ((((i64.wrap ((u8.wrap (x10_0)))):Int).tmod s5.1.1)+1))+(((i64.wrap ((u8.wrap (x10_1)))):Int).tmod (i64.wrap (s5.1.1-1))))):Int).tmod s5.1.1) 2 λa17=>(ldL (.int .i8) (a17.add 1) (λx18=>(zg s5.2.1 (((i64.wrap ((u8.wrap (x10_0)))):Int).tmod s5.1.1) 2 λa19=>(ldL (.int .i8) (a19.add 1) (λx20=>(zg s5.2.1 (((i64.wrap ((u8.wrap (x10_0)))):Int).tmod s5.1.1) 2 λa21=>(ldL (.int .i8) (a21.add 0) (λx22=>(ifP ((i64.wrap ((i64.wrap ((i64.wrap ((i64.wrap (x12))-(i64.wrap (x14))))*(i64.wrap ((i64.wrap ((x10_3:Int).tmod 50))-(i64.wrap (x16))))))-(i64.wrap ((i64.wrap ((i64.wrap (x18))-(i64.wrap (x20))))*(i64.wrap ((i64.wrap ((x10_2:Int).tmod 50))-(i64.wrap (x22))))))))==0) (k8 ((s5.1.1,s5.1.2.1,()),s5.2.1,()) h4) (zc (z1w (⟨s5.1.1,s5.1.2.1⟩:TGraph) (((i64.wrap ((u8.wrap (x10_0)))):Int).tmod s5.1.1) (((i64.wrap ((i64.wrap ((((i64.wrap ((u8.wrap (x10_0)))):Int).tmod s5.1.1)+1))+(((i64.wrap ((u8.wrap (x10_1)))):Int).tmod (i64.wrap (s5.1.1-1))))):Int).tmod s5.1.1) (-1)) (λr23 h6=>(ifP (r23.2 != 0) (K false h6) (Y5 2 2 [.int .i8 0,.int .i8 0] s5.2.1 1 [.int .i8 ((x10_2:Int).tmod 50),.int .i8 ((x10_3:Int).tmod 50)] (λw24 h7=>(k8 ((r23.1.n,r23.1.edges,()),w24,()) h7)) h6))) h4))) h4))) h4))) h4))) h4))) h4))) h4)))))))) h4)) h4)) h4)) h4)))) (zc (z1r (⟨s5.1.1,s5.1.2.1⟩:TGraph) s5.2.1) (λr25 h8=>(zc (z4n r25) (λr26 h9=>(ifP (r26.2==0) (ifP ((r26.1.len:Int)==(i64.wrap ((i64.wrap (2*s5.1.1))-3))) (ifP ((s5.1.2.1.len:Int)==(i64.wrap ((i64.wrap (2*s5.1.1))-3))) (zc (z31 (⟨s5.1.1,s5.1.2.1⟩:TGraph)) (λr27 h10=>(ifP r27 (zc (z0z (⟨s5.1.1,s5.1.2.1⟩:TGraph)) (λr28 h11=>(K ((r28.len:Int)==0) h11)) h10) (K false h10))) h9) (K false h9)) (K false h9)) (K false h9))) h8)) h4))) ((2,(⟨some p3,1,1⟩:Sl),()),(⟨some p4,2,2⟩:Sl),0,()) h3)) h2)) h1)) (λk2=>(zc (z2l) (λr29 h12=>(ifP (!r29) (zc (z2l) (λr30 h13=>(K r30 h13)) h12) (ifP (decide ((steps.len:Int)>5)) (zc (z2l) (λr31 h14=>(K r31 h14)) h12) (k2 () h12)))) h)))
end F
end Den
end

section
namespace Den
open Go Iv
abbrev BM:=Nat->Option (List Value)
def z06(f:BM)(b:Nat)(cs:List Value):BM:=λk=>if k=b then some cs else f k
def z73:BM:=λ_=>none
theorem Z3{f:BM}{b:Nat}{cs:List Value}:z06 f b cs b=some cs:=by simp[z06]
theorem Qu{f:BM}{b k:Nat}{cs:List Value}(h:k≠b):z06 f b cs k=f k:=by simp[z06,h]
theorem zf0{f:BM}{b:Nat}{cs ds:List Value}:z06 (z06 f b cs) b ds=z06 f b ds:=by
 funext k;unfold z06;by_cases h:k=b<;>simp[h]
structure Bk(D h:Hp)(f:BM):Prop where
 le:D.le h
 own:∀b cs,f b=some cs->D b=none/\∃e,h b=some ⟨cs,e,(0,0)⟩
theorem z0l(b o i:Nat):(⟨b,o,none⟩:Addr).add i=⟨b,o+i,none⟩:=by
 unfold Addr.add;split
 . rename_i h;subst h;rfl
 . rfl
section
variable {D h : Hp} {f : BM} {b o i : Nat} {cs vs : List Value} {v : Value}
theorem Bk.start:Bk h h z73:=⟨Hp.le_refl _,λb cs hb=>by cases hb⟩
theorem Bk.fresh(hB:Bk D h f)(hb:h b=none):f b=none/\D b=none:=by
 constructor
 . cases hf:f b with
   | none=>rfl
   | some cs=>obtain⟨_,e,he⟩:=hB.own b cs hf;rw[hb]at he;cases he
 . cases hd:D b with
   | none=>rfl
   | some B=>have:=hB.le b B hd;rw[hb]at this;cases this
theorem Bk.cell(hB:Bk D h f)(hf:f b=some cs)(hv:cs[i]?=some v):h.cell ⟨b,i,none⟩=some v:=by
 obtain⟨_,e,he⟩:=hB.own b cs hf
 unfold Hp.cell
 simp only[he];exact hv
theorem Bk.ld{l:Lf}{x:l.T}{K:l.T->Prop}(hB:Bk D h f)(hf:f b=some cs)(hv:cs[i]?=some (l.up x))(H:K x):ldL l ⟨b,i,none⟩ K h:=⟨x,hB.cell hf hv,H⟩
theorem Bk.st{K:Hp->Prop}(hB:Bk D h f)(hf:f b=some cs)(hlen:o+vs.length<=cs.length)(hleaf:vs.all Value.leaf=true)(H:∀h',Bk D h' (z06 f b (Zb cs o vs))->K h'):stP ⟨b,o,none⟩ vs K h:=by
 obtain⟨hd,e,he⟩:=hB.own b cs hf
 refine⟨_,he,rfl,rfl,hlen,hleaf,H _ ⟨λk B hk=>?_,λk ds hk=>?_⟩⟩
 . rw[Hp.ins_ne (λhh=>by rw[hh,hd]at hk;cases hk)];exact hB.le k B hk
 . by_cases hkb:k=b
   . subst hkb
     rw[Z3]at hk;cases hk
     exact⟨hd,e,Hp.ins_same _ _ _⟩
   . rw[Qu hkb]at hk
     rw[Hp.ins_ne hkb];exact hB.own k ds hk
theorem Bk.insD{e:TypeId}(hB:Bk D h f)(hb:h b=none):Bk (D.ins b ⟨cs,e,(0,0)⟩) (h.ins b ⟨cs,e,(0,0)⟩) f:=by
 refine⟨λk B hk=>?_,λk ds hk=>?_⟩
 . by_cases hkb:k=b
   . subst hkb;rw[Hp.ins_same]at hk |-;exact hk
   . rw[Hp.ins_ne hkb]at hk |-;exact hB.le k B hk
 . have hkb:k≠b:=λhh=>by subst hh;rw[(hB.fresh hb).1]at hk;cases hk
   rw[Hp.ins_ne hkb,Hp.ins_ne hkb];exact hB.own k ds hk
theorem Bk.insF{e:TypeId}(hB:Bk D h f)(hb:h b=none):Bk D (h.ins b ⟨cs,e,(0,0)⟩) (z06 f b cs):=by
 refine⟨λk B hk=>?_,λk ds hk=>?_⟩
 . rw[Hp.ins_ne (λhh=>by rw[hh,(hB.fresh hb).2]at hk;cases hk)];exact hB.le k B hk
 . by_cases hkb:k=b
   . subst hkb;rw[Z3]at hk;cases hk
     exact⟨(hB.fresh hb).2,e,Hp.ins_same _ _ _⟩
   . rw[Qu hkb]at hk;rw[Hp.ins_ne hkb];exact hB.own k ds hk
theorem Bk.newD{K:Addr->Hp->Prop}(hB:Bk D h f)(H:∀b D' h',h b=none->D.le D'->(∀i v,cs[i]?=some v->D'.cell ⟨b,i,none⟩=some v)->Bk D' h' f->K ⟨b,0,none⟩ h'):Yo cs K h:=by
 intro b e hb
 refine H b (D.ins b ⟨cs,e,(0,0)⟩) _ hb (Hp.le_ins (hB.fresh hb).2) (λi v hv=>?_) (hB.insD hb)
 unfold Hp.cell
 simp only[Hp.ins_same];exact hv
theorem Bk.newF{K:Addr->Hp->Prop}(hB:Bk D h f)(H:∀b h',f b=none->D b=none->Bk D h' (z06 f b cs)->K ⟨b,0,none⟩ h'):Yo cs K h:=by
 intro b e hb
 exact H b _ (hB.fresh hb).1 (hB.fresh hb).2 (hB.insF hb)
theorem Bk.mkF{K:Sl->Hp->Prop}{len cap:Int}{bytes:Nat}{zero:List Value}(l c:Nat)(hB:Bk D h f)(hl:len=l)(hc:cap=c)(hlc:l<=c)(hb:bytes*c<=140737488355328)(hb2:c<=140737488355328)
 (H:∀b h',f b=none->D b=none->Bk D h' (z06 f b (ye c zero))->K ⟨some ⟨b,0,none⟩,l,c⟩ h'):mkP len cap bytes zero K h:=by
 subst hl hc
 refine⟨by omega,by omega,(Int.natCast_mul bytes c)▸(Int.ofNat_le.2 hb),by omega,?_⟩
 exact hB.newF λb h' h1 h2 h3=>H b h' h1 h2 h3
theorem Bk.call{α:Type}{G:(α->Hp->Prop)->Hp->Prop}{K1 K:α->Hp->Prop}(hB:Bk D h f)(H:zc G K1 D)(k:∀v D' h',D.le D'->Bk D' h' f->K1 v D'->K v h'):zc G K h:=
 ze2 hB.le H λv D' h' h1 h2 h3 h4=>k v D' h' h1 ⟨h2,λb cs hb=>by
  obtain⟨g1,e,g2⟩:=hB.own b cs hb
  have:=h3 b g1 (by rw[g2];simp)
  exact⟨this.1,e,by rw[this.2];exact g2⟩⟩ h4
theorem Bk.mono{h':Hp}(hB:Bk D h f)(hl:h.le h'):Bk D h' f:=⟨Hp.le_trans hB.le hl,λb cs hb=>by
 obtain⟨g1,e,g2⟩:=hB.own b cs hb
 exact⟨g1,e,hl _ _ g2⟩⟩
def OS(f:BM)(size:Nat)(x:Sl)(cs:List Value):Prop:=x.len*size=cs.length/\x.len<=x.cap /\
 match x.a with
 | none=>x.cap=0
 | some a=>a.off=0/\a.spot=none/\∃bs,f a.block=some bs/\bs.length=x.cap*size/\bs.take cs.length=cs
def inB(x:Sl)(b:Nat):Prop:=∃a,x.a=some a/\a.block=b
variable {size : Nat} {x : Sl}
theorem OS.nil:OS f size zf []:=⟨by simp[zf],Nat.le_refl _,rfl⟩
theorem OS.congr{g:BM}(ho:OS f size x cs)(h:∀b,inB x b->g b=f b):OS g size x cs:=by
 obtain⟨h1,h2,h3⟩:=ho
 refine⟨h1,h2,?_⟩
 cases ha:x.a with
 | none=>rw[ha]at h3;exact h3
 | some a=>
   rw[ha]at h3
   obtain⟨g1,g2,bs,g3,g4⟩:=h3
   exact⟨g1,g2,bs,by rw[h a.block ⟨a,ha,rfl⟩];exact g3,g4⟩
theorem OS.upd{cs':List Value}(ho:OS f size x cs)(h:¬inB x b):OS (z06 f b cs') size x cs:=ho.congr λk hk=>Qu λhh=>h (hh▸hk)
theorem OS.there(ho:OS f size x cs)(h:inB x b):f b≠none:=by
 obtain⟨a,ha,rfl⟩:=h
 obtain⟨_,_,h3⟩:=ho
 rw[ha]at h3
 obtain⟨_,_,bs,g3,_⟩:=h3
 rw[g3];simp
theorem OS.own(ho:OS f size x cs)(hB:Bk D h f):Own D h size x cs:=by
 obtain⟨h1,h2,h3⟩:=ho
 refine⟨hB.le,h1,h2,?_⟩
 cases ha:x.a with
 | none=>rw[ha]at h3;exact h3
 | some a=>
   rw[ha]at h3
   obtain⟨g1,g2,bs,g3,g4,g5⟩:=h3
   obtain⟨k1,e,k2⟩:=hB.own _ _ g3
   exact⟨g1,g2,k1,_,k2,rfl,g4,g5⟩
theorem OS.rd(ho:OS f size x cs)(hB:Bk D h f):Rd h size x cs:=(ho.own hB).rd
theorem OS.st{K:Hp->Prop}{z:Int}(k:Nat)(ho:OS f size x cs)(hB:Bk D h f)(hi:z=k)(hk:k<x.len)(hv:vs.length=size)(hsz:0<size)(hleaf:vs.all Value.leaf=true)
 (H:∀f' h',Bk D h' f'->OS f' size x (Zb cs (k*size) vs)->(∀b,¬inB x b->f' b=f b)->K h'):zg x z size λa=>stP a vs K h:=by
 subst hi
 have ho':=ho
 obtain⟨h1,h2,h3⟩:=ho
 refine⟨by omega,by omega,?_⟩
 cases ha:x.a with
 | none=>rw[ha]at h3;simp only at h3;omega
 | some a=>
   rw[ha]at h3
   obtain⟨g1,g2,bs,g3,g4,g5⟩:=h3
   have ea:a=⟨a.block,0,none⟩:=by cases a;simp only at g1 g2;rw[g1,g2]
   have e1:k*size+size<=cs.length:=by
    rw[<-h1]
    have:=Nat.mul_le_mul_right size (show k+1<=x.len by omega)
    rw[Nat.add_mul]at this;omega
   have e2:cs.length<=bs.length:=by rw[g4,<-h1];exact Nat.mul_le_mul_right _ h2
   show yu (some a) _
   simp only[yu]
   rw[ea,z0l,Nat.zero_add,show((k:Int).toNat)=k from rfl]
   refine hB.st g3 (by omega) hleaf λh' hB'=>H _ h' hB' ⟨?_,h2,?_⟩ λb hb=>Qu λhh=>hb ⟨a,ha,hh.symm⟩
   . rw[Ya (by omega)];exact h1
   . rw[ha]
     refine⟨g1,g2,_,Z3,?_,?_⟩
     . rw[Ya (by omega)];exact g4
     . rw[Ya (by omega)]
       exact zad (by omega) g5
theorem OS.app{K:Sl->Hp->Prop}{bytes n:Nat}{zero new:List Value}(ho:OS f size x cs)(hB:Bk D h f)(hn:new.length=n*size)(hz:zero.length=size)(hleaf:new.all Value.leaf=true)
 (hb:(x.len+n)*bytes<=140737488355328) (hb2:x.len+n<=140737488355328)
 (H:∀y f' h',Bk D h' f'->OS f' size y (cs++new)->(∀b,¬inB x b->f b≠none->f' b=f b)->(∀b,inB y b->inB x b\/f b=none/\D b=none)->K y h'):Y5 size bytes zero x n new K h:=by
 have hrd:=ho.rd hB
 obtain⟨h1,h2,h3⟩:=ho
 refine⟨hb,hb2,λhfit=>?_,λhgrow=>?_⟩
 . cases ha:x.a with
   | none=>
     rw[ha]at h3
     simp only at h3
     have hn0:n=0:=by omega
     have hnew:new=[]:=by
      cases new with
      | nil=>rfl
      | cons a b=>rw[hn0]at hn;simp at hn
     subst hnew hn0
     simp only[stO]
     refine H _ f _ hB ⟨by simpa using h1,by show x.len+0<=x.cap;omega,h3⟩ (λ_ _ _=>rfl) (λb hb=>?_)
     obtain⟨a,h5,_⟩:=hb
     cases h5
   | some a=>
     rw[ha]at h3
     obtain⟨g1,g2,bs,g3,g4,g5⟩:=h3
     have ea:a=⟨a.block,0,none⟩:=by cases a;simp only at g1 g2;rw[g1,g2]
     have e1:(x.len+n)*size=cs.length+new.length:=by rw[Nat.add_mul,h1,hn]
     have e2:cs.length+new.length<=bs.length:=by rw[g4,<-e1];exact Nat.mul_le_mul_right _ hfit
     simp only[stO]
     have hoff:x.len*size=cs.length:=h1
     have key:∀K':Hp->Prop,(∀h',Bk D h' (z06 f a.block (Zb bs (x.len*size) new))->K' h')->stP (a.add (x.len*size)) new K' h:=by
      intro K' hK
      rw[ea,z0l,Nat.zero_add]
      exact hB.st g3 (by omega) hleaf hK
     refine key _ λh' hB'=>H _ _ h' hB' ⟨?_,hfit,?_⟩ (λb hb _=>Qu λhh=>hb ⟨a,ha,hh.symm⟩) (λb hb=>?_)
     . show(x.len+n)*size=_;rw[List.length_append];exact e1
     . refine⟨g1,g2,_,Z3,?_,?_⟩
       . rw[Ya (by omega)];exact g4
       . unfold Zb
         rw[hoff,g5,List.append_assoc,List.length_append,List.take_append]
         simp only[Nat.add_sub_cancel_left]
         rw[List.take_of_length_le (by omega),List.take_append,List.take_of_length_le (Nat.le_refl _)]
         simp
     . obtain⟨a',h5,h6⟩:=hb
       cases h5
       exact .inl ⟨a,ha,h6⟩
 . refine⟨cs,?_,λbk e c hc hfr=>?_⟩
   . rw[h1];exact hrd.2
   . refine H _ _ _ (hB.insF hfr) ⟨?_,hc,?_⟩ (λb hb hb2=>Qu λhh=>hb2 (by rw[hh];exact(hB.fresh hfr).1)) (λb hb=>?_)
     . show(x.len+n)*size=_;rw[List.length_append,Nat.add_mul,h1,hn]
     . refine⟨rfl,rfl,_,Z3,?_,?_⟩
       . have hr:(ye (c-(x.len+n)) zero).length=(c-(x.len+n))*size:=by rw[z35,hz]
         rw[List.length_append,List.length_append,hr,hn,<-h1,<-Nat.add_mul,<-Nat.add_mul]
         show _=c*size
         congr 1;omega
       . rw[List.take_append_of_le_length (by simp)]
         exact List.take_of_length_le (Nat.le_refl _)
     . obtain⟨a',h5,h6⟩:=hb
       cases h5
       subst h6
       exact .inr (hB.fresh hfr)
theorem OS.mk{n c:Nat}{zero:List Value}(hz:zero.length=size)(hnc:n<=c):OS (z06 f b (ye c zero)) size ⟨some ⟨b,0,none⟩,n,c⟩ (ye n zero):=by
 refine⟨by rw[z35,hz],hnc,rfl,rfl,_,Z3,by rw[z35,hz],?_⟩
 have:ye c zero=ye n zero++ye (c-n) zero:=by
  unfold ye
  rw[<-List.flatten_append,List.replicate_append_replicate]
  congr 2;omega
 rw[this,List.take_append_of_le_length (Nat.le_refl _),List.take_of_length_le (Nat.le_refl _)]
theorem OS.blk{n:Nat}(hn:cs.length=n*size):OS (z06 f b cs) size ⟨some ⟨b,0,none⟩,n,n⟩ cs:=⟨hn.symm,Nat.le_refl _,rfl,rfl,_,Z3,hn,List.take_of_length_le (Nat.le_refl _)⟩
theorem OS.appF{K:Sl->Hp->Prop}{bytes n:Nat}{zero new:List Value}(ho:OS f size x cs)(hB:Bk D h f)(hn:new.length=n*size)(hleaf:new.all Value.leaf=true)
 (hb:(x.len+n)*bytes<=140737488355328) (hb2:x.len+n<=140737488355328) (hfit:x.len+n<=x.cap)
 (H:∀f' h',Bk D h' f'->OS f' size ⟨x.a,x.len+n,x.cap⟩ (cs++new)->(∀b,¬inB x b->f' b=f b)->K ⟨x.a,x.len+n,x.cap⟩ h'):Y5 size bytes zero x n new K h:=by
 have ho':=ho
 obtain⟨h1,h2,h3⟩:=ho
 refine⟨hb,hb2,λ_=>?_,λhgrow=>by omega⟩
 cases ha:x.a with
 | none=>
   rw[ha]at h3
   simp only at h3
   have hn0:n=0:=by omega
   have hnew:new=[]:=by
    cases new with
    | nil=>rfl
    | cons a b=>rw[hn0]at hn;simp at hn
   subst hnew hn0
   simp only[stO]
   have:=H f _ hB ⟨by simpa using h1,by show x.len+0<=x.cap;omega,by rw[ha];exact h3⟩ (λ_ _=>rfl)
   rw[ha]at this
   exact this
 | some a=>
   rw[ha]at h3
   obtain⟨g1,g2,bs,g3,g4,g5⟩:=h3
   have ea:a=⟨a.block,0,none⟩:=by cases a;simp only at g1 g2;rw[g1,g2]
   have e1:(x.len+n)*size=cs.length+new.length:=by rw[Nat.add_mul,h1,hn]
   have e2:cs.length+new.length<=bs.length:=by rw[g4,<-e1];exact Nat.mul_le_mul_right _ hfit
   simp only[stO]
   have hoff:x.len*size=cs.length:=h1
   have key:∀K':Hp->Prop,(∀h',Bk D h' (z06 f a.block (Zb bs (x.len*size) new))->K' h')->stP (a.add (x.len*size)) new K' h:=by
    intro K' hK
    rw[ea,z0l,Nat.zero_add]
    exact hB.st g3 (by omega) hleaf hK
   refine key _ λh' hB'=>?_
   have:=H _ h' hB' ⟨?_,hfit,?_⟩ (λb hb=>Qu λhh=>hb ⟨a,ha,hh.symm⟩)
   . rw[ha]at this;exact this
   . show(x.len+n)*size=_;rw[List.length_append];exact e1
   . rw[ha]
     refine⟨g1,g2,_,Z3,?_,?_⟩
     . rw[Ya (by omega)];exact g4
     . unfold Zb
       rw[hoff,g5,List.append_assoc,List.length_append,List.take_append]
       simp only[Nat.add_sub_cancel_left]
       rw[List.take_of_length_le (by omega),List.take_append,List.take_of_length_le (Nat.le_refl _)]
       simp
theorem OS.spare{K:Hp->Prop}{k:Nat}(ho:OS f size x cs)(hB:Bk D h f)(hx:∃a,x.a=some a)(hk:cs.length<=k)(hlen:k+vs.length<=x.cap*size)(hleaf:vs.all Value.leaf=true)
 (H:∀f' h',Bk D h' f'->OS f' size x cs->(∀b,¬inB x b->f' b=f b)->K h'):stO x.a k vs K h:=by
 obtain⟨a,ha⟩:=hx
 obtain⟨h1,h2,h3⟩:=ho
 rw[ha]at h3 |-
 obtain⟨g1,g2,bs,g3,g4,g5⟩:=h3
 have ea:a=⟨a.block,0,none⟩:=by cases a;simp only at g1 g2;rw[g1,g2]
 simp only[stO]
 have key:∀K':Hp->Prop,(∀h',Bk D h' (z06 f a.block (Zb bs k vs))->K' h')->stP (a.add k) vs K' h:=by
  intro K' hK
  rw[ea,z0l,Nat.zero_add]
  exact hB.st g3 (by omega) hleaf hK
 refine key _ λh' hB'=>H _ h' hB' ⟨h1,h2,?_⟩ (λb hb=>Qu λhh=>hb ⟨a,ha,hh.symm⟩)
 rw[ha]
 refine⟨g1,g2,_,Z3,?_,?_⟩
 . rw[Ya (by omega)];exact g4
 . unfold Zb
   rw[List.append_assoc,List.take_append_of_le_length (by simp;omega),List.take_take,Nat.min_eq_left hk];exact g5
theorem OS.cut{n:Nat}(ho:OS f size x cs)(hn:n<=x.len):OS f size (x.cut 0 n size) (cs.take (n*size)):=by
 obtain⟨h1,h2,h3⟩:=ho
 have hle:n*size<=cs.length:=by rw[<-h1];exact Nat.mul_le_mul_right _ hn
 have ea:(x.cut 0 n size).a=x.a:=by
  show(if x.cap=0 then x.a else x.a.map (·.add (0*size)))=x.a
  split
  . rfl
  . cases x.a with
    | none=>rfl
    | some a=>simp only[Option.map_some,Nat.zero_mul,Zv]
 refine⟨?_,?_,?_⟩
 . show(n-0)*size=_
   rw[List.length_take];simp;omega
 . show n-0<=x.cap-0;omega
 . rw[ea]
   cases ha:x.a with
   | none=>rw[ha]at h3;show x.cap-0=0;simp only at h3;omega
   | some a=>
     rw[ha]at h3
     obtain⟨g1,g2,bs,g3,g4,g5⟩:=h3
     refine⟨g1,g2,bs,g3,?_,?_⟩
     . show _=(x.cap-0)*size;rw[Nat.sub_zero];exact g4
     . rw[List.length_take,Nat.min_eq_left hle]
       rw[<-g5,List.take_take,Nat.min_eq_left hle]
theorem zhf{l c k:Nat}{K:Addr->Prop}(hk:k<l)(H:K ⟨b,o+k*size,none⟩):zg ⟨some ⟨b,o,none⟩,l,c⟩ (k:Int) size K:=by
 refine⟨by omega,by show(k:Int)<(l:Int);omega,?_⟩
 show yu (some ⟨b,o,none⟩) _
 simp only[yu]
 rw[z0l];exact H
theorem zee{l c k:Nat}{K:Addr->Prop}(hk:k<l)(H:K ⟨b,k,none⟩):zg ⟨some ⟨b,0,none⟩,l,c⟩ (k:Int) 1 K:=by
 refine zhf hk ?_
 rw[Nat.zero_add,Nat.mul_one];exact H
theorem z2b{α:Type}{c:α->Value}{l:List α}{k:Nat}{v:α}(hk:k<l.length):Zb (l.map c) k [c v]=(l.set k v).map c:=by
 rw[z3x,List.map_set]
 have hk':k<(l.map c).length:=by simpa using hk
 rw[List.set_eq_take_append_cons_drop,if_pos hk']
theorem Bk.out{α:Type}{G:(α->Hp->Prop)->Hp->Prop}{K1 K:α->Hp->Prop}(hB:Bk D h f)(hf:f b=some cs)(H:Bk D (h.del b) (λk=>if k=b then none else f k)->G K1 (h.del b))
 (k:∀v h1,K1 v h1->(∀D' f',Bk D' h1 f'->Bk D' (h1.add (h.one b)) (z06 f' b cs)/\f' b=none/\D' b=none)->K v (h1.add (h.one b))):Y3 G K h:=by
 obtain⟨hd,e,he⟩:=hB.own b cs hf
 have h0:Bk D (h.del b) (λk=>if k=b then none else f k):=by
  refine⟨λk B hk=>?_,λk ds hk=>?_⟩
  . unfold Hp.del
    rw[if_neg (λhh=>by rw[hh,hd]at hk;cases hk)];exact hB.le k B hk
  . by_cases hkb:k=b
    . subst hkb;simp at hk
    . simp only[if_neg hkb]at hk
      unfold Hp.del
      rw[if_neg hkb];exact hB.own k ds hk
 refine⟨h.del b,h.one b,K1,Hp.del_dj h b,Hp.del_add h b,H h0,λv h1 hk hdj=>k v h1 hk λD' f' hB'=>?_⟩
 have hob:(h.one b) b=some ⟨cs,e,(0,0)⟩:=by simp[Hp.one,he]
 have h1b:h1 b=none:=by
  rcases hdj b with h2 | h2
  . exact h2
  . rw[hob]at h2;cases h2
 have hfr:=hB'.fresh h1b
 refine⟨⟨λk B hk=>Hp.le_add _ _ _ _ (hB'.le k B hk),λk ds hk=>?_⟩,hfr⟩
 by_cases hkb:k=b
 . subst hkb
   rw[Z3]at hk;cases hk
   exact⟨hfr.2,e,by unfold Hp.add;rw[h1b];exact hob⟩
 . rw[Qu hkb]at hk
   obtain⟨q1,e',q2⟩:=hB'.own k ds hk
   exact⟨q1,e',Hp.le_add _ _ _ _ q2⟩
end
end Den
end

section
namespace Den
open Go Iv Lx
section
variable {h : Hp} {s : TSketch} {S : PSk} {Kb : Bool → Hp → Prop} {Ki : Int → Hp → Prop} {l : Sl}
theorem zay{b:Bool}{P:Prop}(h:b=true↔¬P):(!b)=true↔P:=by
 rw[Bool.not_eq_true',<-Bool.not_eq_true,h]
 exact⟨λhh=>Classical.byContradiction hh,λhh hn=>hn hh⟩
theorem zn6{ps:List (Option Rat×Option Rat)}(hx:LR ptc 8 PTT h l ps)(hlen:ps.length<=1000000)(H:∀b h',h.le h'->(b=true↔∀p∈ps,VP p)->Kb b h'):zc (F.Yk l) Kb h:=by
 refine zd (λb h'=>(b=true↔∀p∈ps,VP p)) (λK' hk=>?_) λb h' hl hb=>H b h' hl hb
 unfold F.Yk
 refine Xy λa h1 hl1 hc1=>?_
 have hl:=hx.len z3r
 refine zd (λb h'=>(b=true↔¬∀p∈ps,VP p)) (λK2 hk2=>?_) λb h' hl hb=>hk _ _ (Hp.le_trans hl1 hl) (zay hb)
 unfold F.Zd
 refine zd (λr h'=>(0<=r↔¬∀p∈ps,VP p)) (λK3 hk3=>?_) λr h' hl hr=>hk2 _ _ hl (by rw[decide_eq_true_iff];exact hr)
 unfold F.Zj
 refine z9q (n:=ps.length) (g:=λi=>∃h:i<ps.length,¬VP ps[i]) (by omega) (λi h' k hl' hi' hb=>?_) (λh' k hk=>ze (λhh=>by simp only at hh;omega) (λ_=>hk)) (λr h' hl hr=>hk3 _ _ hl (by rw[hr,zeb]))
 refine ze (λ_=>?_) (λhh=>by simp only at hh;omega)
 refine(hx.le z3r (Hp.le_trans hl1 hl')).get z3r i rfl hi' λb x hxx hc=>?_
 refine⟨_,hc 0 _ rfl,_,hc 1 _ rfl,_,hc 2 _ rfl,_,hc 3 _ rfl,_,hc 4 _ rfl,_,hc 5 _ rfl,_,hc 6 _ rfl,_,hc 7 _ rfl,?_⟩
 refine zd (λb h'=>(b=true↔¬VP ps[i])) (λK4 hk4=>?_) λb h'' hl'' hbb=>hb b h'' hl'' (by rw[hbb];exact⟨λhh=>⟨hi',hh⟩,λ⟨_,hh⟩=>hh⟩)
 unfold F.qb
 refine⟨_,Hp.cell_le hl' hc1,rfl,?_⟩
 refine zd (λb h'=>(b=true↔VP ps[i])) (λK5 hk5=>?_) λb h'' hl'' hbb=>hk4 _ _ hl'' (by rw[Bool.not_eq_true',<-Bool.not_eq_true,hbb])
 unfold F.z6g
 refine zgc hxx.1 λh2 hl2=>?_
 refine zp (λh3=>zgc (hxx.2.le hl2) λh4 hl4=>hk5 _ _ (Hp.le_trans hl2 hl4) ⟨λhh=>⟨h3,hh⟩,λhh=>hh.2⟩) (λh3=>hk5 _ _ hl2 ⟨λhh=>(by cases hh),λhh=>by rw[hh.1]at h3;cases h3⟩)
theorem Zl1{q:Rat}:q.num.sign>0↔0<q.num:=by
 constructor
 . intro hh;exact Int.sign_pos_iff.1 hh
 . intro hh;exact Int.sign_pos_iff.2 hh
theorem zoy{x:TRat}{q:Rat}(hx:NR h x q)(hl1:x.num.mag.len<=35184372087808)(H:Ki q.num.sign h):zc (F.Qm x) Ki h:=
 Zf _ (λK' hk=>zbr hx.1 (zm6 hx.1 hl1) hk) H
theorem zn7{ps:List (Int×Option Rat)}{a0:Addr}(hx:LR rdc 5 RN h l ps)(hlen:ps.length<=1000000)(h0:h.cell a0=some (.int .i64 (S.pts.length:Int)))(H:∀b h',h.le h'->(b=true↔∀p∈ps,VR S p)->Kb b h'):zc (F.Yl l (some a0,())) Kb h:=by
 refine zd (λb h'=>(b=true↔∀p∈ps,VR S p)) (λK' hk=>?_) λb h' hl hb=>H b h' hl hb
 unfold F.Yl
 refine Xy λa h1 hl1 hc1=>?_
 have hl:=hx.len z6e
 refine zd (λb h'=>(b=true↔¬∀p∈ps,VR S p)) (λK2 hk2=>?_) λb h' hl hb=>hk _ _ (Hp.le_trans hl1 hl) (zay hb)
 unfold F.Ze
 refine zd (λr h'=>(0<=r↔¬∀p∈ps,VR S p)) (λK3 hk3=>?_) λr h' hl hr=>hk2 _ _ hl (by rw[decide_eq_true_iff];exact hr)
 unfold F.Zk
 refine z9q (n:=ps.length) (g:=λi=>∃h:i<ps.length,¬VR S ps[i]) (by omega) (λi h' k hl' hi' hb=>?_) (λh' k hk=>ze (λhh=>by simp only at hh;omega) (λ_=>hk)) (λr h' hl hr=>hk3 _ _ hl (by rw[hr,zeb]))
 refine ze (λ_=>?_) (λhh=>by simp only at hh;omega)
 refine(hx.le z6e (Hp.le_trans hl1 hl')).get z6e i rfl hi' λb x hxx hc=>?_
 refine⟨_,hc 0 _ rfl,_,hc 1 _ rfl,_,hc 2 _ rfl,_,hc 3 _ rfl,_,hc 4 _ rfl,?_⟩
 refine zd (λb h'=>(b=true↔¬VR S ps[i])) (λK4 hk4=>?_) λb h'' hl'' hbb=>hb b h'' hl'' (by rw[hbb];exact⟨λhh=>⟨hi',hh⟩,λ⟨_,hh⟩=>hh⟩)
 unfold F.qd
 refine⟨_,Hp.cell_le hl' hc1,some a0,rfl,?_⟩
 refine zd (λb h'=>(b=true↔VR S ps[i])) (λK5 hk5=>?_) λb h'' hl'' hbb=>hk4 _ _ hl'' (by rw[Bool.not_eq_true',<-Bool.not_eq_true,hbb])
 unfold F.z6h
 refine⟨_,Hp.cell_le (Hp.le_trans hl1 hl') h0,?_⟩
 have hx1:=hxx.1
 have hx2:=hxx.2
 have no:∀h'',h'.le h''->¬VR S ps[i]->K5 false h'':=λh'' hl hn=>hk5 _ _ hl ⟨λhh=>(by cases hh),λhh=>absurd hh hn⟩
 simp only
 rw[hx1]
 refine z60 λb hb=>?_
 refine zp (λh2=>?_) (λh2=>no _ (Hp.le_refl _) λhv=>by rw[hb.2 hv.1]at h2;cases h2)
 refine zgc hx2 λh3 hl3=>?_
 refine zp (λh4=>?_) (λh4=>no _ hl3 λhv=>by obtain⟨q,hq,_⟩:=hv.2;rw[hq]at h4;cases h4)
 obtain⟨q,hq⟩:=Option.isSome_iff_exists.1 h4
 rw[hq]at hx2
 refine zoy (hx2.nr.le hl3) hx2.2.1 (hk5 _ _ hl3 ?_)
 rw[decide_eq_true_iff,Zl1]
 exact⟨λhh=>⟨hb.1 h2,q,hq,hh⟩,λhh=>by obtain⟨q',hq',h5⟩:=hh.2;rw[hq]at hq';cases hq';exact h5⟩
theorem zn8{ps:List TSegment}{a0:Addr}(hx:LR sgc 2 eqP h l ps)(hlen:ps.length<=1000000)(h0:h.cell a0=some (.int .i64 (S.pts.length:Int)))(H:∀b h',h.le h'->(b=true↔∀p∈ps,VG S p)->Kb b h'):zc (F.Yb l (some a0,())) Kb h:=by
 refine zd (λb h'=>(b=true↔∀p∈ps,VG S p)) (λK' hk=>?_) λb h' hl hb=>H b h' hl hb
 unfold F.Yb
 refine Xy λa h1 hl1 hc1=>?_
 have hl:=hx.len zab
 refine zd (λb h'=>(b=true↔¬∀p∈ps,VG S p)) (λK2 hk2=>?_) λb h' hl hb=>hk _ _ (Hp.le_trans hl1 hl) (zay hb)
 unfold F.z7
 refine zd (λr h'=>(0<=r↔¬∀p∈ps,VG S p)) (λK3 hk3=>?_) λr h' hl hr=>hk2 _ _ hl (by rw[decide_eq_true_iff];exact hr)
 unfold F.Za
 refine z9q (n:=ps.length) (g:=λi=>∃h:i<ps.length,¬VG S ps[i]) (by omega) (λi h' k hl' hi' hb=>?_) (λh' k hk=>ze (λhh=>by simp only at hh;omega) (λ_=>hk)) (λr h' hl hr=>hk3 _ _ hl (by rw[hr,zeb]))
 refine ze (λ_=>?_) (λhh=>by simp only at hh;omega)
 refine(hx.le zab (Hp.le_trans hl1 hl')).get zab i rfl hi' λb x hxx hc=>?_
 refine⟨_,hc 0 _ rfl,_,hc 1 _ rfl,?_⟩
 have hxx:x=ps[i]:=hxx
 subst hxx
 refine zd (λb h'=>(b=true↔¬VG S ps[i])) (λK4 hk4=>?_) λb h'' hl'' hbb=>hb b h'' hl'' (by rw[hbb];exact⟨λhh=>⟨hi',hh⟩,λ⟨_,hh⟩=>hh⟩)
 unfold F.Y1
 refine⟨_,Hp.cell_le hl' hc1,some a0,rfl,?_⟩
 refine zd (λb h'=>(b=true↔VG S ps[i])) (λK5 hk5=>?_) λb h'' hl'' hbb=>hk4 _ _ hl'' (by rw[Bool.not_eq_true',<-Bool.not_eq_true,hbb])
 unfold F.z6i
 have c0:=Hp.cell_le (Hp.le_trans hl1 hl') h0
 have no:¬VG S ps[i]->K5 false h':=λhn=>hk5 _ _ (Hp.le_refl _) ⟨λhh=>(by cases hh),λhh=>absurd hh hn⟩
 refine⟨_,c0,?_⟩
 refine z60 λb hb=>?_
 refine zp (λh2=>?_) (λh2=>no λhv=>by rw[hb.2 hv.1]at h2;cases h2)
 refine⟨_,c0,?_⟩
 refine z60 λb3 hb3=>?_
 refine zp (λh4=>?_) (λh4=>no λhv=>by rw[hb3.2 hv.2.1]at h4;cases h4)
 refine hk5 _ _ (Hp.le_refl _) ?_
 rw[bne_iff_ne]
 exact⟨λhh=>⟨hb.1 h2,hb3.1 h4,hh⟩,λhh=>hh.2.2⟩
theorem Z85{i:Int}{K:Int->Prop}(hx:SK h s S)(hi:z9u S.cir.length i)(H:K (cen S i)):zg s.circles i 5 λa=>ldL (.int .i64) (a.add 0) K h:=by
 obtain⟨h0,h1⟩:=hi
 have hk:i.toNat<S.cir.length:=by omega
 refine hx.2.1.get z6e i.toNat (by omega) hk λa x hxx hc=>⟨_,hc 0 _ rfl,?_⟩
 rw[hxx.1]
 unfold cen at H
 rw[List.getD_eq_getElem?_getD,List.getElem?_eq_getElem hk]at H
 exact H
theorem zjl{a:TArc}(hx:SK h s S)(H:∀b,(b=true↔VA S a)->Kb b h):zc (F.z21 s a) Kb h:=by
 refine zd (λb h'=>h'=h/\(b=true↔VA S a)) (λK' hk=>?_) λb h' _ hb=>by obtain⟨rfl,hb⟩:=hb;exact H b hb
 unfold F.z21
 have l1:=hx.1.len z3r
 have l2:=hx.2.1.len z6e
 have no:¬VA S a->K' false h:=λhn=>hk _ _ (Hp.le_refl _) ⟨rfl,λhh=>(by cases hh),λhh=>absurd hh hn⟩
 refine zk (λ_ h'=>h'=h/\z9u S.cir.length a.circle/\z9u S.pts.length a.a/\z9u S.pts.length a.b) ?_ ?_
 . rintro _ h ⟨rfl,g1,g2,g3⟩
   refine Z85 hx g1 ?_
   refine yk (λh1=>hk _ _ (Hp.le_refl _) ⟨rfl,?_⟩) (λh1=>no λhv=>hv.2.2.2.1 h1)
   rw[bne_iff_ne]
   exact⟨λhh=>⟨g1,g2,g3,h1,hh⟩,λhh=>hh.2.2.2.2⟩
 . rw[l1,l2]
   refine z60 λb hb=>zp (λh2=>no λhv=>by rw[hb.2 hv.1]at h2;cases h2) λh2=>?_
   refine z60 λb3 hb3=>zp (λh4=>no λhv=>by rw[hb3.2 hv.2.1]at h4;cases h4) λh4=>?_
   refine z60 λb5 hb5=>zp (λh6=>no λhv=>by rw[hb5.2 hv.2.2.1]at h6;cases h6) λh6=>?_
   exact⟨rfl,hb.1 (by simpa using h2),hb3.1 (by simpa using h4),hb5.1 (by simpa using h6)⟩
def SKC(h:Hp)(a:Addr)(s:TSketch):Prop:=∀i v,([Lf.sl.up s.points,Lf.sl.up s.circles,Lf.sl.up s.segments,Lf.sl.up s.arcs,Lf.sl.up s.chains,Lf.sl.up s.constraints]:List Value)[i]?=some v->h.cell (a.add i)=some v
theorem SKC.le{h h':Hp}{a:Addr}{s:TSketch}(hx:SKC h a s)(hl:h.le h'):SKC h' a s:=λi v hv=>Hp.cell_le hl (hx i v hv)
theorem zn3{ps:List TArc}{a0:Addr}(hx:LR Z80 4 eqP h l ps)(hlen:ps.length<=1000000)(h0:SKC h a0 s)(hS:SK h s S)(H:∀b h',h.le h'->(b=true↔∀p∈ps,VA S p)->Kb b h'):zc (F.Yu l (some a0,())) Kb h:=by
 refine zd (λb h'=>(b=true↔∀p∈ps,VA S p)) (λK' hk=>?_) λb h' hl hb=>H b h' hl hb
 unfold F.Yu
 refine Xy λa h1 hl1 hc1=>?_
 have hl:=hx.len z44
 refine zd (λb h'=>(b=true↔¬∀p∈ps,VA S p)) (λK2 hk2=>?_) λb h' hl hb=>hk _ _ (Hp.le_trans hl1 hl) (zay hb)
 unfold F.Zl
 refine zd (λr h'=>(0<=r↔¬∀p∈ps,VA S p)) (λK3 hk3=>?_) λr h' hl hr=>hk2 _ _ hl (by rw[decide_eq_true_iff];exact hr)
 unfold F.Zo
 refine z9q (n:=ps.length) (g:=λi=>∃h:i<ps.length,¬VA S ps[i]) (by omega) (λi h' k hl' hi' hb=>?_) (λh' k hk=>ze (λhh=>by simp only at hh;omega) (λ_=>hk)) (λr h' hl hr=>hk3 _ _ hl (by rw[hr,zeb]))
 refine ze (λ_=>?_) (λhh=>by simp only at hh;omega)
 refine(hx.le z44 (Hp.le_trans hl1 hl')).get z44 i rfl hi' λb x hxx hc=>?_
 refine⟨_,hc 0 _ rfl,_,hc 1 _ rfl,_,hc 2 _ rfl,_,hc 3 _ rfl,?_⟩
 have hxx:x=ps[i]:=hxx
 subst hxx
 refine zd (λb h'=>(b=true↔¬VA S ps[i])) (λK4 hk4=>?_) λb h'' hl'' hbb=>hb b h'' hl'' (by rw[hbb];exact⟨λhh=>⟨hi',hh⟩,λ⟨_,hh⟩=>hh⟩)
 unfold F.qw
 refine⟨_,Hp.cell_le hl' hc1,some a0,rfl,?_⟩
 refine zd (λb h'=>(b=true↔VA S ps[i])) (λK5 hk5=>?_) λb h'' hl'' hbb=>hk4 _ _ hl'' (by rw[Bool.not_eq_true',<-Bool.not_eq_true,hbb])
 unfold F.z6j
 have c0:=h0.le (Hp.le_trans hl1 hl')
 refine⟨_,c0 0 _ rfl,_,c0 1 _ rfl,_,c0 2 _ rfl,_,c0 3 _ rfl,_,c0 4 _ rfl,_,c0 5 _ rfl,?_⟩
 exact zjl (s:=s) (hS.le (Hp.le_trans hl1 hl')) λb hb=>hk5 _ _ (Hp.le_refl _) hb
theorem zg5{ps:List TPiece}(hx:SK h s S)(hc:LR pic 3 eqP h l ps)(hlen:ps.length<=1000)(hs:sSk S)(H:∀b,(b=true↔VCh S ps)->Kb b h):zc (F.z08 s l) Kb h:=by
 refine zd (λb h'=>h'=h/\(b=true↔VCh S ps)) (λK' hk=>?_) λb h' _ hb=>by obtain⟨rfl,hb⟩:=hb;exact H b hb
 unfold F.z08
 have l3:=hx.2.2.1.len zab
 have l4:=hx.2.2.2.1.len z44
 have lc:=hc.len zma
 have no:¬VCh S ps->K' false h:=λhn=>hk _ _ (Hp.le_refl _) ⟨rfl,λhh=>(by cases hh),λhh=>absurd hh hn⟩
 refine Yt (n:=ps.length) (by omega) (λi a h'=>h'=h/\(∀j (hj:j<ps.length),j<i->okP S ps[j])/\(∀j (hj:j+1<ps.length),j+1<i->(z9n S ps[j]).2=(z9n S ps[j+1]).1)/\∀j (hj:j<ps.length),j+1=i->a=(z9n S ps[j]).2) ⟨rfl,λj _ hj=>by omega,λj _ hj=>by omega,λj _ hj=>by omega⟩ ?_
 rintro i a h hi ⟨rfl,g1,g2,g3⟩ k hk2
 refine ze (λh2=>?_) (λh2=>?_)
 . have hi':i<ps.length:=by simp only at h2;omega
   refine zk (λst h'=>h'=h/\okP S ps[i]/\(∀j (hj:j<ps.length),j+1=i->(z9n S ps[j]).2=(z9n S ps[i]).1)/\st.1=(z9n S ps[i]).2) ?_ ?_
   . rintro⟨z,_⟩ h ⟨rfl,k1,k2,k3⟩
     refine hk2 _ _ hi' ⟨rfl,λj hj hji=>?_,λj hj hji=>?_,λj hj hji=>?_⟩
     . rcases Nat.lt_or_ge j i with h5 | h5
       . exact g1 j hj h5
       . have:j=i:=by omega
         subst this;exact k1
     . rcases Nat.lt_or_ge (j+1) i with h5 | h5
       . exact g2 j hj h5
       . have:j+1=i:=by omega
         subst this;exact k2 j (by omega) rfl
     . have:j=i:=by omega
       subst this;exact k3
   . refine hc.get zma i rfl hi' λb x hxx hcc=>?_
     refine⟨_,hcc 0 _ rfl,_,hcc 1 _ rfl,_,hcc 2 _ rfl,?_⟩
     have hxx:x=ps[i]:=hxx
     rw[<-hxx]
     refine zk (λst h'=>h'=h/\st.1=(((if x.arc=true then S.arc.length else S.seg.length):Nat):Int)) ?_ ?_
     . rintro⟨z,_⟩ h ⟨rfl,hz⟩
       simp only at hz
       subst hz
       refine z60 λb hb=>zp (λh4=>no λhv=>?_) λh4=>?_
       . have:=hv.2.1 _ (List.getElem_mem hi')
         rw[<-hxx]at this
         rw[hb.2 this]at h4;cases h4
       have hok:okP S x:=hb.1 (by simpa using h4)
       refine zsy hx (p:=x) hok ?_
       refine ze (λh5=>?_) (λh5=>⟨rfl,hok,λj hj hji=>by simp only at h5;omega,rfl⟩)
       simp only at h5
       obtain⟨j,rfl⟩:∃j,i=j+1:=⟨i-1,by omega⟩
       have ha:=g3 j (by omega) rfl
       refine yk (λh6=>no λhv=>?_) (λh6=>⟨rfl,hok,λj' hj' hji=>?_,rfl⟩)
       . have:=hv.2.2 j hi'
         rw[<-hxx]at this
         simp only at h6
         rw[ha]at h6
         exact h6 this.symm
       . have:j'=j:=by omega
         subst this
         simp only at h6
         rw[<-ha,h6]
     . refine zp (λh3=>⟨rfl,?_⟩) (λh3=>⟨rfl,?_⟩)
       . simp only;rw[if_pos h3,l4]
       . simp only;rw[h3,l3];rfl
 . have hi':i=ps.length:=by simp only at h2;omega
   subst hi'
   refine hk _ _ (Hp.le_refl _) ⟨rfl,?_⟩
   rw[decide_eq_true_iff]
   constructor
   . intro hh
     refine⟨λh0=>by rw[h0]at lc;simp at lc;omega,λp hp=>?_,λj hj=>g2 j hj (by omega)⟩
     obtain⟨j,hj,rfl⟩:=List.mem_iff_getElem.1 hp
     exact g1 j hj hj
   . intro hh
     have:=List.length_pos_iff.2 hh.1
     omega
theorem zn4{ps:List (List TPiece)}{a0:Addr}(hx:LR slc 1 CHN h l ps)(hlen:ps.length<=1000000)(hp20:∀c∈ps,c.length<=20)(h0:SKC h a0 s)(hS:SK h s S)(hs:sSk S)(H:∀b h',h.le h'->(b=true↔∀p∈ps,VCh S p)->Kb b h'):zc (F.Yj l (some a0,())) Kb h:=by
 refine zd (λb h'=>(b=true↔∀p∈ps,VCh S p)) (λK' hk=>?_) λb h' hl hb=>H b h' hl hb
 unfold F.Yj
 refine Xy λa h1 hl1 hc1=>?_
 have hl:=hx.len z89
 refine zd (λb h'=>(b=true↔¬∀p∈ps,VCh S p)) (λK2 hk2=>?_) λb h' hl hb=>hk _ _ (Hp.le_trans hl1 hl) (zay hb)
 unfold F.Zc
 refine zd (λr h'=>(0<=r↔¬∀p∈ps,VCh S p)) (λK3 hk3=>?_) λr h' hl hr=>hk2 _ _ hl (by rw[decide_eq_true_iff];exact hr)
 unfold F.Zi
 refine z9q (n:=ps.length) (g:=λi=>∃h:i<ps.length,¬VCh S ps[i]) (by omega) (λi h' k hl' hi' hb=>?_) (λh' k hk=>ze (λhh=>by simp only at hh;omega) (λ_=>hk)) (λr h' hl hr=>hk3 _ _ hl (by rw[hr,zeb]))
 refine ze (λ_=>?_) (λhh=>by simp only at hh;omega)
 refine(hx.le z89 (Hp.le_trans hl1 hl')).get z89 i rfl hi' λb x hxx hc=>?_
 have e0:=hc 0 _ rfl
 rw[Zv]at e0
 refine⟨_,e0,?_⟩
 refine zd (λb h'=>(b=true↔¬VCh S ps[i])) (λK4 hk4=>?_) λb h'' hl'' hbb=>hb b h'' hl'' (by rw[hbb];exact⟨λhh=>⟨hi',hh⟩,λ⟨_,hh⟩=>hh⟩)
 unfold F.qa
 refine⟨_,Hp.cell_le hl' hc1,some a0,rfl,?_⟩
 refine zd (λb h'=>(b=true↔VCh S ps[i])) (λK5 hk5=>?_) λb h'' hl'' hbb=>hk4 _ _ hl'' (by rw[Bool.not_eq_true',<-Bool.not_eq_true,hbb])
 unfold F.z6k
 have c0:=h0.le (Hp.le_trans hl1 hl')
 refine⟨_,c0 0 _ rfl,_,c0 1 _ rfl,_,c0 2 _ rfl,_,c0 3 _ rfl,_,c0 4 _ rfl,_,c0 5 _ rfl,?_⟩
 exact zg5 (s:=s) (hS.le (Hp.le_trans hl1 hl')) hxx (by have:=hp20 _ (List.getElem_mem hi');omega) hs λb hb=>hk5 _ _ (Hp.le_refl _) hb
theorem zn5{ps:List PCon}{a0 a1:Addr}{n m:Int}(hx:LR cc 5 CO h l ps)(hlen:ps.length<=1000000)(hps:∀c∈ps,sC c)(h0:h.cell a0=some (.int .i64 n))(h1:h.cell a1=some (.int .i64 m))(ht:GT h)(H:∀b h',h.le h'->(b=true↔∀p∈ps,VC p n m)->Kb b h'):zc (F.yr l (some a0,some a1,())) Kb h:=by
 refine zd (λb h'=>(b=true↔∀p∈ps,VC p n m)) (λK' hk=>?_) λb h' hl hb=>H b h' hl hb
 unfold F.yr
 refine Xy λa h2 hl2 hc1=>?_
 have hl:=hx.len Yx
 refine zd (λb h'=>(b=true↔¬∀p∈ps,VC p n m)) (λK2 hk2=>?_) λb h' hl hb=>hk _ _ (Hp.le_trans hl2 hl) (zay hb)
 unfold F.zx
 refine zd (λr h'=>(0<=r↔¬∀p∈ps,VC p n m)) (λK3 hk3=>?_) λr h' hl hr=>hk2 _ _ hl (by rw[decide_eq_true_iff];exact hr)
 unfold F.zy
 refine z9q (n:=ps.length) (g:=λi=>∃h:i<ps.length,¬VC ps[i] n m) (by omega) (λi h' k hl' hi' hb=>?_) (λh' k hk=>ze (λhh=>by simp only at hh;omega) (λ_=>hk)) (λr h' hl hr=>hk3 _ _ hl (by rw[hr];exact zeb (P:=λc=>VC c n m)))
 refine ze (λ_=>?_) (λhh=>by simp only at hh;omega)
 refine(hx.le Yx (Hp.le_trans hl2 hl')).get Yx i rfl hi' λb x hxx hc=>?_
 refine⟨_,hc 0 _ rfl,_,hc 1 _ rfl,_,hc 2 _ rfl,_,hc 3 _ rfl,_,hc 4 _ rfl,?_⟩
 refine zd (λb h'=>(b=true↔¬VC ps[i] n m)) (λK4 hk4=>?_) λb h'' hl'' hbb=>hb b h'' hl'' (by rw[hbb];exact⟨λhh=>⟨hi',hh⟩,λ⟨_,hh⟩=>hh⟩)
 unfold F.Yp
 refine⟨_,Hp.cell_le hl' hc1,some a0,some a1,rfl,?_⟩
 refine zd (λb h'=>(b=true↔VC ps[i] n m)) (λK5 hk5=>?_) λb h'' hl'' hbb=>hk4 _ _ hl'' (by rw[Bool.not_eq_true',<-Bool.not_eq_true,hbb])
 unfold F.z6l
 have hle:=Hp.le_trans hl2 hl'
 refine⟨_,Hp.cell_le hle h0,_,Hp.cell_le hle h1,?_⟩
 exact znh hxx (hps _ (List.getElem_mem hi')) (ht.le hle) λb h'' hl hb=>hk5 _ _ hl hb
theorem zmj(hx:SK h s S)(hs:sSk S)(ht:GT h)(H:∀r h',h.le h'->(r=0↔VS S)->(r=0\/r=1)->Ki r h'):zc (F.z12 s) Ki h:=by
 refine zd (λr h'=>(r=0↔VS S)/\(r=0\/r=1)) (λK' hk0=>?_) λb h' hl hb=>H b h' hl hb.1 hb.2
 have hk:∀v h',h.le h'->(v=0↔VS S)->(v=0\/v=1)->K' v h':=λv h' hl h1 h2=>hk0 v h' hl ⟨h1,h2⟩
 unfold F.z12
 refine z8m λp1 h1 hl1 hc=>?_
 have c0:SKC h1 p1 s:=hc
 have hx1:=hx.le hl1
 refine⟨_,c0 0 _ rfl,_,c0 1 _ rfl,_,c0 2 _ rfl,_,c0 3 _ rfl,_,c0 4 _ rfl,_,c0 5 _ rfl,?_⟩
 refine zld (s:=s) hx1 hs λh2 hl2=>zt rfl ?_
 have c2:=c0.le hl2
 refine⟨_,c2 0 _ rfl,_,c2 1 _ rfl,?_⟩
 refine Xy λp6 h3 hl3 e6=>Xy λp7 h4 hl4 e7=>?_
 have hle4:=Hp.le_trans hl1 (Hp.le_trans hl2 (Hp.le_trans hl3 hl4))
 have hx4:=hx.le hle4
 have c4:=(c2.le hl3).le hl4
 have l1:=hx.1.len z3r
 have l2:=hx.2.1.len z6e
 obtain⟨s1,s2,s3,s4,s5,s6,s7,s8⟩:=hs
 have e64:h4.cell p6=some (.int .i64 (S.pts.length:Int)):=by have:=Hp.cell_le hl4 e6;rw[l1]at this;exact this
 have e74:h4.cell p7=some (.int .i64 (S.cir.length:Int)):=by rw[l2]at e7;exact e7
 refine zk (λst h'=>h.le h'/\(st.1=true↔VS S)) ?_ ?_
 . rintro⟨b,_⟩ h5 ⟨hl5,hb⟩
   simp only at hb
   refine zp (λh6=>hk _ _ hl5 ⟨λhh=>(by cases hh),λhh=>?_⟩ (.inr rfl)) (λh6=>hk _ _ hl5 ⟨λ_=>hb.1 (by simpa using h6),λ_=>rfl⟩ (.inl rfl))
   simp only at h6
   rw[hb.2 hh]at h6;cases h6
 . have fl:∀(b:Bool) {P:Prop},(b=true↔P)->b=false->¬P:=λb P hb h0 hp=>by rw[hb.2 hp]at h0;cases h0
   refine⟨_,c4 0 _ rfl,?_⟩
   refine zn6 hx4.1 (by omega) λb1 h5 hl5 hb1=>zp (λt1=>?_) (λt1=>⟨Hp.le_trans hle4 hl5,λhh=>(by cases hh),λhv=>absurd hv.1 (fl _ hb1 t1)⟩)
   refine⟨_,c4.le hl5 1 _ rfl,?_⟩
   refine zn7 (S:=S) (hx4.le hl5).2.1 (by omega) (Hp.cell_le hl5 e64) λb2 h6 hl6 hb2=>zp (λt2=>?_) (λt2=>⟨Hp.le_trans hle4 (Hp.le_trans hl5 hl6),λhh=>(by cases hh),λhv=>absurd hv.2.1 (fl _ hb2 t2)⟩)
   have l56:=Hp.le_trans hl5 hl6
   refine⟨_,c4.le l56 2 _ rfl,?_⟩
   refine zn8 (S:=S) (hx4.le l56).2.2.1 (by omega) (Hp.cell_le l56 e64) λb3 h7 hl7 hb3=>zp (λt3=>?_) (λt3=>⟨Hp.le_trans hle4 (Hp.le_trans l56 hl7),λhh=>(by cases hh),λhv=>absurd hv.2.2.1 (fl _ hb3 t3)⟩)
   have l57:=Hp.le_trans l56 hl7
   refine⟨_,c4.le l57 3 _ rfl,?_⟩
   refine zn3 (s:=s) (S:=S) (hx4.le l57).2.2.2.1 (by omega) (c4.le l57) (hx4.le l57) λb4 h8 hl8 hb4=>zp (λt4=>?_) (λt4=>⟨Hp.le_trans hle4 (Hp.le_trans l57 hl8),λhh=>(by cases hh),λhv=>absurd hv.2.2.2.1 (fl _ hb4 t4)⟩)
   have l58:=Hp.le_trans l57 hl8
   refine⟨_,c4.le l58 4 _ rfl,?_⟩
   refine zn4 (s:=s) (S:=S) (hx4.le l58).2.2.2.2.1 (by omega) s7 (c4.le l58) (hx4.le l58) ⟨s1,s2,s3,s4,s5,s6,s7,s8⟩ λb5 h9 hl9 hb5=>zp (λt5=>?_) (λt5=>⟨Hp.le_trans hle4 (Hp.le_trans l58 hl9),λhh=>(by cases hh),λhv=>absurd hv.2.2.2.2.1 (fl _ hb5 t5)⟩)
   have l59:=Hp.le_trans l58 hl9
   refine⟨_,c4.le l59 5 _ rfl,?_⟩
   refine zn5 (hx4.le l59).2.2.2.2.2 (by omega) s8 (Hp.cell_le l59 e64) (Hp.cell_le l59 e74) (ht.le (Hp.le_trans hle4 l59)) λb6 h10 hl10 hb6=>⟨Hp.le_trans hle4 (Hp.le_trans l59 hl10),?_⟩
   rw[hb6]
   exact⟨λhh=>⟨hb1.1 t1,hb2.1 t2,hb3.1 t3,hb4.1 t4,hb5.1 t5,hh⟩,λhh=>hh.2.2.2.2.2⟩
theorem zfs(hx:SK h s S)(hs:sSk S)(ht:GT h)(H:∀r h',h.le h'->(r=0↔VS S)->Ki r h'):zc (F.z12 s) Ki h:=zmj hx hs ht λr h' h1 h2 _=>H r h' h1 h2
end
end Den
end

section
namespace Den
open Go Iv Lx
section
variable {h : Hp} {s : TSketch} {S : PSk} {Kb : Bool → Hp → Prop} {Ki : Int → Hp → Prop} {l : Sl}
theorem Zkk{α:Type}{l:List α}{P:α->Prop}{i:Nat}(h:∀j (hj:j<l.length),j<i->P l[j])(hi:i<l.length)(hp:P l[i]):∀j (hj:j<l.length),j<i+1->P l[j]:=λj hj hji=>by
 rcases Nat.lt_or_ge j i with h5 | h5
 . exact h j hj h5
 . have:j=i:=by omega
   subst this;exact hp
theorem Zb5{α:Type}{l:List α}{P:α->Prop}{i:Nat}(h:∀j (hj:j<l.length),j<i->P l[j])(hi:l.length<=i):∀x∈l,P x:=λx hx=>by
 obtain⟨j,hj,rfl⟩:=List.mem_iff_getElem.1 hx
 exact h j hj (by omega)
end
end Den
end

section
namespace Den
open Go Iv Lx
section
variable {D h h' : Hp} {n : Nat} {l : Sl} {cs : List Value}
theorem Own.newb{K:Addr->Hp->Prop}{cells:List Value}(ho:Own D h n l cs)(H:∀a D' h',D.le D'->h.le h'->Own D' h' n l cs->(∀i v,cells[i]?=Option.some v->D'.cell (a.add i)=Option.some v)->K a h'):Yo cells K h:=by
 intro b e hb
 obtain⟨g1,g2,g3,g4⟩:=ho
 have hDb:D b=none:=by
  cases hd:D b with
  | none=>rfl
  | some x=>rw[g1 _ _ hd]at hb;cases hb
 refine H _ (D.ins b ⟨cells,e,(0,0)⟩) _ (Hp.le_ins hDb) (Hp.le_ins hb) ⟨?_,g2,g3,?_⟩ λi v hv=>?_
 . intro k x hk
   by_cases hkb:k=b
   . subst hkb;rw[Hp.ins_same]at hk |-;exact hk
   . rw[Hp.ins_ne hkb]at hk |-;exact g1 _ _ hk
 . cases ha:l.a with
   | none=>rw[ha]at g4;exact g4
   | some a=>
     rw[ha]at g4
     obtain⟨k1,k2,k3,x,k4,k5⟩:=g4
     have hne:a.block≠b:=λhh=>by rw[hh,hb]at k4;cases k4
     exact⟨k1,k2,by rw[Hp.ins_ne hne];exact k3,x,by rw[Hp.ins_ne hne];exact k4,k5⟩
 . unfold Hp.cell
   rw[Yg,V6 rfl,Xv]
   simpa [Hp.ins_same] using hv
theorem Own.preN{x:Sl}{k:Nat}(ho:Own D h n x cs)(hk:k<=x.len):Own D h n (x.cut 0 k n) (cs.take (k*n)):=by
 have hc:=ho.2.2.1
 obtain⟨g1,g2,g3,g4⟩:=ho
 have hkl:k*n<=cs.length:=by rw[<-g2];exact Nat.mul_le_mul_right _ hk
 have el:(cs.take (k*n)).length=k*n:=by rw[List.length_take];omega
 refine⟨g1,?_,?_,?_⟩
 . show(k-0)*n=_
   rw[el,Nat.sub_zero]
 . show k-0<=x.cap-0;omega
 . rw[zgz]
   cases ha:x.a with
   | none=>
     rw[ha]at g4
     simp only at g4 |-
     show x.cap-0=0;omega
   | some a=>
     rw[ha]at g4
     obtain⟨k1,k2,k3,b,k4,k5,k6,k7⟩:=g4
     refine⟨k1,k2,k3,b,k4,k5,k6,?_⟩
     rw[el]
     have:=congrArg (List.take (k*n)) k7
     rw[List.take_take,Nat.min_eq_left (by omega)]at this
     exact this
end
section
variable {α β : Type} {c : α → List Value} {n : Nat} {P : Hp → α → β → Prop} {D h h' : Hp} {l : Sl} {ps : List β}
theorem LO.newb{K:Addr->Hp->Prop}{cells:List Value}(hR:Rec c n P)(hx:LO c n P D h l ps)(H:∀a D' h',D.le D'->h.le h'->LO c n P D' h' l ps->(∀i v,cells[i]?=Option.some v->D'.cell (a.add i)=Option.some v)->K a h'):Yo cells K h:=by
 obtain⟨xs,h1,h3,h4⟩:=hx
 exact h1.newb λa D' h' g1 g2 g3 g4=>H a D' h' g1 g2 ⟨xs,g3,h3,λk k1 k2=>hR.mono (h4 k k1 k2) g1⟩ g4
theorem LO.le(hx:LO c n P D h l ps)(hl:h.le h'):LO c n P D h' l ps:=by
 obtain⟨xs,h1,h3,h4⟩:=hx
 exact⟨xs,h1.le hl,h3,h4⟩
theorem LO.appAll{K:Sl->Hp->Prop}{m:Sl}{qs:List β}{bytes:Nat}{zero:List Value}(hR:Rec c n P)(hx:LO c n P D h l ps)(hm:LR c n P D m qs)(hz:zero.length=n)(hlen:(ps.length+qs.length)*bytes<=140737488355328)(hlen2:ps.length+qs.length<=140737488355328)
 (H:∀y h',LO c n P D h' y (ps++qs)->K y h'):rdO m.a (m.len*n) (λvs=>Y5 n bytes zero l m.len vs K h) h:=by
 have hl:=hx.len hR
 have hml:=hm.len hR
 obtain⟨ys,g1,g2,g3,g4⟩:=hm
 obtain⟨xs,h1,h3,h4⟩:=hx
 refine⟨ys.flatMap c,?_,?_⟩
 . have:=(g1.le h1.1).2
   rwa [<-g1.1]at this
 . refine z43 h1 (n:=m.len) (new:=ys.flatMap c) g1.1.symm hz ?_ (by rw[hl,hml];exact hlen) (by rw[hl,hml];exact hlen2) λy h' hy hyl=>H y h' ⟨xs++ys,by rw[List.flatMap_append];exact hy,by simp[h3,g3],λk k1 k2=>?_⟩
   . rw[List.all_flatMap,List.all_eq_true]
     exact λx _=>hR.leaf x
   . rcases Nat.lt_or_ge k xs.length with h5 | h5
     . rw[List.getElem_append_left h5,List.getElem_append_left (by omega)]
       exact h4 k h5 (by omega)
     . rw[List.getElem_append_right h5,List.getElem_append_right (by omega)]
       have e:k-xs.length=k-ps.length:=by omega
       have k1':k-xs.length<ys.length:=by simp at k1;omega
       have:=g4 (k-xs.length) k1' (by omega)
       simp only[e]at this |-
       exact this
end
section
variable {D h h' : Hp} {l m : Sl} {xs ys : List Int} {K : Sl → Hp → Prop}
theorem OI.le(ho:OI D h l xs)(hl:h.le h'):OI D h' l xs:=Own.le ho hl
theorem OI.base{h0:Hp}(ho:OI D h l xs)(hl:h0.le D):OI h0 h l xs:=Own.base ho hl
end
theorem Zda{z vs:List Value}{K:Addr->Hp->Prop}{h:Hp}(hlen:vs.length=z.length)(hleaf:vs.all Value.leaf=true)(H:Yo vs K h):Yo z (λa h'=>stP a vs (K a) h') h:=by
 intro b e hb
 refine⟨_,Hp.ins_same _ _ _,rfl,rfl,by simp[hlen],hleaf,?_⟩
 have e2:Zb z 0 vs=vs:=by unfold Zb;simp[hlen]
 simp only[e2]
 rw[Hp.ins_ins]
 exact H b e hb
def onC(c:PCon)(p k:Int):Prop:=c.kind=13/\c.pts=[p]/\c.cir=[k]
instance (c:PCon) (p k:Int):Decidable (onC c p k):=by unfold onC;infer_instance
def z0w(p k:Int):PCon:=⟨13,[p],[k],[],0⟩
def z3i(con out:List PCon)(p k:Int):List PCon:=if (∃c∈con++out,onC c p k)then out else out++[z0w p k]
def zgk(con out:List PCon)(a:TArc):List PCon:=z3i con (z3i con out a.a a.circle) a.b a.circle
def zef(con:List PCon)(l:List TArc):List PCon:=l.foldl (zgk con) []
def imp(S:PSk):List PCon:=zef S.con S.arc
def Qz(S:PSk):List PCon:=S.con++imp S
def Xo(S:PSk):List Int:=S.cir.map (·.1)
theorem zeg{con:List PCon}{l:List TArc}{i:Nat}(hi:i<l.length):zef con (l.take (i+1))=zgk con (zef con (l.take i)) l[i]:=by
 unfold zef
 rw[<-List.take_append_getElem hi,List.foldl_append]
 rfl
theorem zdz(con out:List PCon)(p k:Int):(z3i con out p k).length<=out.length+1:=by
 unfold z3i;split<;>simp
theorem zhh(con:List PCon)(l:List TArc):∀i,i<=l.length->(zef con (l.take i)).length<=2*i
 | 0,_=>by simp[zef]
 | i+1,hi=>by
   rw[zeg (by omega)]
   have:=zhh con l i (by omega)
   unfold zgk
   have h1:=zdz con (z3i con (zef con (l.take i)) l[i].a l[i].circle) l[i].b l[i].circle
   have h2:=zdz con (zef con (l.take i)) l[i].a l[i].circle
   omega
theorem zup(S:PSk):(imp S).length<=2*S.arc.length:=by
 have:=zhh S.con S.arc S.arc.length (Nat.le_refl _)
 rwa [List.take_length]at this
def VC1(c:PCon):Prop:=c.pts.length<=10/\c.cir.length<=10/\(c.kind=13->c.pts.length=1/\c.cir.length=1/\c.vals=[]/\c.side=0)
theorem VC.one{c:PCon}{n m:Int}(hv:VC c n m)(hs:sC c):VC1 c:=⟨hs.1,hs.2.1,λhk=>by
 obtain⟨_,h2,h3,h4,_,h6,_⟩:=hv
 rw[hk]at h2 h3 h4 h6
 exact⟨h2.1,h3.1,List.eq_nil_of_length_eq_zero h4,by simpa [shK,Z6l] using h6⟩⟩
theorem Zb6{n m:Nat}{p k:Int}(hp:z9u n p)(hk:z9u m k):VC (z0w p k) n m:=by
 unfold z9u at hp hk
 refine⟨⟨by simp[z0w],by simp[z0w]⟩,⟨rfl,?_⟩,⟨rfl,?_⟩,rfl,by simp[z0w],by simp[z0w,shK,Z6l],?_⟩
 . intro x hx
   have:x=p:=by simpa [z0w] using hx
   omega
 . intro x hx
   have:x=k:=by simpa [z0w] using hx
   omega
 . rw[if_neg (show ¬z58 (z0w p k).kind by unfold z58 z0w;simp only;omega)]
   exact⟨by simp[z0w],by simp[z0w]⟩
theorem Zb0{p k:Int}:sC (z0w p k):=⟨by simp[z0w],by simp[z0w],by simp[z0w],by simp[z0w]⟩
theorem zdy{P:PCon->Prop}{con out:List PCon}{p k:Int}(ho:∀c∈out,P c)(hp:P (z0w p k)):∀c∈z3i con out p k,P c:=by
 unfold z3i
 split
 . exact ho
 . intro c hc
   rcases List.mem_append.1 hc with hc | hc
   . exact ho c hc
   . rw[List.mem_singleton.1 hc];exact hp
theorem zhg{P:PCon->Prop}{con:List PCon}{l:List TArc}(hp:∀a∈l,P (z0w a.a a.circle)/\P (z0w a.b a.circle)):∀i,i<=l.length->∀c∈zef con (l.take i),P c
 | 0,_=>by simp[zef]
 | i+1,hi=>by
   rw[zeg (by omega)]
   have h1:=zhg (con:=con) hp i (by omega)
   have h2:=hp _ (List.getElem_mem (show i<l.length by omega))
   exact zdy (zdy h1 h2.1) h2.2
theorem Z8k{P:PCon->Prop}{S:PSk}(hp:∀a∈S.arc,P (z0w a.a a.circle)/\P (z0w a.b a.circle)):∀c∈imp S,P c:=by
 have:=zhg (con:=S.con) hp S.arc.length (Nat.le_refl _)
 rwa [List.take_length]at this
theorem zci{S:PSk}(hv:VS S)(hs:sSk S):∀c∈Qz S,VC c S.pts.length S.cir.length/\sC c:=by
 intro c hc
 rcases List.mem_append.1 hc with hc | hc
 . exact⟨hv.2.2.2.2.2 c hc,hs.2.2.2.2.2.2.2 c hc⟩
 . refine Z8k (P:=λc=>VC c S.pts.length S.cir.length/\sC c) (λa ha=>?_) c hc
   have:=hv.2.2.2.1 a ha
   exact⟨⟨Zb6 this.2.1 this.1,Zb0⟩,⟨Zb6 this.2.2.1 this.1,Zb0⟩⟩
theorem zgl{S:PSk}(hs:sSk S):(Qz S).length<=40:=by
 have h1:=zup S
 have h2:=hs.2.2.2.1
 have h3:=hs.2.2.2.2.2.1
 unfold Qz
 rw[List.length_append];omega
section
variable {h : Hp} {s : TSketch} {S : PSk} {Kb : Bool → Hp → Prop} {Ki : Int → Hp → Prop} {Ks : Sl → Hp → Prop} {l m : Sl} {xs ys : List Int}
theorem zym{s:Sl}{ps:List PCon}{g:PCon->Prop}{G:TConstraint->(Bool->Hp->Prop)->Hp->Prop}(hx:LR cc 5 CO h s ps)(hlen:ps.length<=1000000)
 (hG:∀x c h',h.le h'->CO h' x c->c∈ps->∀K:Bool->Hp->Prop,(∀b h'',h'.le h''->(b=true↔g c)->K b h'')->zc (G x) K h') (H:∀r h',h.le h'->(0<=r↔∃c∈ps,g c)->Ki r h') :
 (zr (S:=Int×Unit) (λs1 k2 h1=>
 (ifP (decide (s1.1<(s.len:Int)))
 (zg s s1.1 5 λa3=>
 (ldL (.int .i64) (a3.add 0) (λx4_0=>
 (ldL (.sl) (a3.add 1) (λx4_1=>
 (ldL (.sl) (a3.add 2) (λx4_2=>
 (ldL (.sl) (a3.add 3) (λx4_3=>
 (ldL (.int .i64) (a3.add 4) (λx4_4=>
 (zc (G (⟨x4_0,x4_1,x4_2,x4_3,x4_4⟩:TConstraint)) (λr5 h2=>
 (ifP r5
 (Ki s1.1 h2)
 (k2 ((i64.wrap (s1.1+1)),()) h2))) h1)) h1)) h1)) h1)) h1)) h1))
 (Ki (-1) h1)))
 (0,()) h):=by
  have hl:=hx.len Yx
  refine z9q (n:=ps.length) (g:=λi=>∃h:i<ps.length,g ps[i]) (by omega) (λi h' k hl' hi' hb=>?_) (λh' k hk=>ze (λhh=>by simp only at hh;omega) (λ_=>hk)) (λr h' hl hr=>H _ _ hl (by
   rw[hr]
   constructor
   . rintro⟨i,hi,hi2,hg⟩;exact⟨_,List.getElem_mem hi2,hg⟩
   . rintro⟨c,hc,hg⟩
     obtain⟨i,hi,rfl⟩:=List.mem_iff_getElem.1 hc
     exact⟨i,hi,hi,hg⟩))
  refine ze (λ_=>?_) (λhh=>by simp only at hh;omega)
  refine(hx.le Yx hl').get Yx i rfl hi' λa x hxx hc=>?_
  refine⟨_,hc 0 _ rfl,_,hc 1 _ rfl,_,hc 2 _ rfl,_,hc 3 _ rfl,_,hc 4 _ rfl,?_⟩
  exact hG _ _ _ hl' hxx (List.getElem_mem _) _ λb h3 hl3 hbb=>hb b h3 hl3 (by rw[hbb];exact⟨λhh=>⟨hi',hh⟩,λ⟨_,hh⟩=>hh⟩)
theorem zfj(hx:IL h l xs)(hy:IL h m ys)(hlen:xs.length<=1000000)(H:∀b h',h.le h'->(b=true↔xs=ys)->Kb b h'):zc (F.Xk l m) Kb h:=by
 refine zd (λb h'=>b=true↔xs=ys) (λK' hk=>?_) λb h' hl hb=>H b h' hl hb
 unfold F.Xk
 have hl:=hx.len
 have hm:=hy.len
 refine yk (λh1=>hk _ _ (Hp.le_refl _) ⟨λhh=>(by cases hh),λhh=>?_⟩) (λh1=>?_)
 . exfalso
   subst hh
   omega
 have hl2:xs.length=ys.length:=by omega
 refine Y0 (n:=xs.length) (by omega) (λi h'=>h'=h/\xs.take i=ys.take i) ⟨rfl,by simp⟩ ?_
 rintro i h hi ⟨rfl,heq⟩ k hk2
 refine ze (λh2=>?_) (λh2=>?_)
 . have hi':i<xs.length:=by simp only at h2;omega
   refine hx.get i rfl hi' (hy.get i rfl (by omega) ?_)
   refine yk (λh3=>hk _ _ (Hp.le_refl _) ⟨λhh=>(by cases hh),λhh=>?_⟩) (λh3=>hk2 _ hi' ⟨rfl,?_⟩)
   . subst hh
     exact absurd rfl h3
   . rw[<-List.take_append_getElem hi',<-List.take_append_getElem (show i<ys.length by omega),heq,h3]
 . have:i=xs.length:=by simp only at h2;omega
   subst this
   refine hk _ _ (Hp.le_refl _) ⟨λ_=>?_,λ_=>rfl⟩
   rw[List.take_length,hl2,List.take_length]at heq
   exact heq
theorem zng{x y:TConstraint}{c:PCon}{p k:Int}(hx:CO h x (z0w p k))(hy:CO h y c)(hv:VC1 c)(H:∀b h',h.le h'->(b=true↔onC c p k)->Kb b h'):zc (F.z0n x y) Kb h:=by
 refine zd (λb h'=>b=true↔onC c p k) (λK' hk=>?_) λb h' hl hb=>H b h' hl hb
 unfold F.z0n
 obtain⟨x1,x2,x3,x4,x5⟩:=hx
 obtain⟨y1,y2,y3,y4,y5⟩:=hy
 obtain⟨v1,v2,v3⟩:=hv
 have no:∀h',h.le h'->¬onC c p k->K' false h':=λh' hl hn=>hk _ _ hl ⟨λhh=>(by cases hh),λhh=>absurd hh hn⟩
 rw[x1,x5,y1,y5]
 refine zz (λh1=>?_) (λh1=>no _ (Hp.le_refl _) λhv=>h1 hv.1.symm)
 have hk13:c.kind=13:=h1.symm
 obtain⟨w1,w2,w3,w4⟩:=v3 hk13
 refine zz (λh2=>?_) (λh2=>absurd (show(z0w p k).side=c.side by rw[w4];rfl) h2)
 refine zfj x2 y2 (by simp[z0w]) λb h3 hl3 hb=>?_
 refine zp (λh4=>?_) (λh4=>no _ hl3 λhv=>by rw[hb.2 hv.2.1.symm]at h4;cases h4)
 refine zfj (x3.le hl3) (y3.le hl3) (by simp[z0w]) λb5 h5 hl5 hb5=>?_
 have hle:=Hp.le_trans hl3 hl5
 refine zp (λh6=>?_) (λh6=>no _ hle λhv=>by rw[hb5.2 hv.2.2.symm]at h6;cases h6)
 refine zd (λb h'=>b=true) (λK2 hk2=>?_) λb h7 hl7 hb7=>hk _ _ (Hp.le_trans hle hl7) ⟨λ_=>⟨hk13,(hb.1 h4).symm,(hb5.1 h6).symm⟩,λ_=>hb7⟩
 unfold F.Zr
 refine⟨1,?_⟩
 unfold F.zn
 have e1:=x4.len z4w
 have e2:=y4.len z4w
 rw[w3]at e2
 have e3:x.values.len=0:=e1
 have e4:y.values.len=0:=e2
 refine yk (λh8=>by rw[e3,e4]at h8;exact absurd rfl h8) (λ_=>?_)
 refine yx (λst h'=>h'=h5/\st=(0,())) (λ_=>0) ⟨rfl,rfl⟩ ?_
 rintro st h5 ⟨rfl,rfl⟩
 refine ze (λh8=>by rw[e3]at h8;exact absurd h8 (by decide)) (λ_=>hk2 _ _ (Hp.le_refl _) rfl)
def CKC(h:Hp)(a:Addr)(x:TConstraint):Prop:=∀i v,(cc x)[i]?=some v->h.cell (a.add i)=some v
theorem zbh{s:Sl}{ps:List PCon}{a:Addr}{x:TConstraint}{p k:Int}(hx:LR cc 5 CO h s ps)(hlen:ps.length<=1000000)(hv:∀c∈ps,VC1 c)(ha:CKC h a x)(hc:CO h x (z0w p k))(H:∀b h',h.le h'->(b=true↔∃c∈ps,onC c p k)->Kb b h') :
 zc (F.zo s (some a,())) Kb h:=by
 refine zd (λb h'=>(b=true↔∃c∈ps,onC c p k)) (λK2 hk2=>?_) λb h' hl hb=>H _ _ hl hb
 unfold F.zo
 refine zd (λr h'=>(0<=r↔∃c∈ps,onC c p k)) (λK3 hk3=>?_) λr h' hl hr=>hk2 _ _ hl (by rw[decide_eq_true_iff];exact hr)
 unfold F.Zu
 refine zym (g:=λc=>onC c p k) (G:=λx=>F.z11 x (some a,()).1) hx hlen (λy c h' hl' hy hm K hK=>?_) λr h' hl hr=>hk3 _ _ hl hr
 refine zd (λb h'=>(b=true↔onC c p k)) (λK4 hk4=>?_) λb h'' hl'' hbb=>hK b h'' hl'' hbb
 unfold F.z11
 have c0:CKC h' a x:=λi v hv=>Hp.cell_le hl' (ha i v hv)
 refine⟨_,c0 0 _ rfl,_,c0 1 _ rfl,_,c0 2 _ rfl,_,c0 3 _ rfl,_,c0 4 _ rfl,?_⟩
 exact zng (x:=x) (hc.le hl') hy (hv c hm) λb h'' hl hb=>hk4 _ _ hl hb
theorem Z41{a:Addr}{z:Int}{c:Nat}(hc:h.cell a=some (.int .i64 z))(hcap:1<=c):IL h ⟨some a,1,c⟩ [z]:=by
 refine⟨z0g (cells:=[ic z]) (λi v hv=>?_) rfl,hcap⟩
 cases i with
 | zero=>
   rw[Zv,hc]
   simpa [ic] using hv
 | succ i=>simp at hv
theorem VS.one{c:PCon}(hv:VS S)(hs:sSk S)(hc:c∈S.con):VC1 c:=(hv.2.2.2.2.2 c hc).one (hs.2.2.2.2.2.2.2 c hc)
theorem zsj{p k:Int}:VC1 (z0w p k):=⟨by simp[z0w],by simp[z0w],λ_=>⟨rfl,rfl,rfl,rfl⟩⟩
theorem Z8l:∀i,i<=S.arc.length->∀c∈zef S.con (S.arc.take i),VC1 c:=zhg λa _=>⟨zsj,zsj⟩
end
end Den
end

section
namespace Den
open Go Iv Lx
def itK(c:PCon)(cs:List Int)(k:Int):List Int:=if c.kind=13\/c.kind=16\/c.kind=17 then [-1-k,cs.getD k.toNat 0]else [-1-k]
def W0(c:PCon)(cs:List Int):List Int:=c.pts++c.cir.flatMap (itK c cs)
theorem zuq(c:PCon)(cs:List Int)(k:Int):(itK c cs k).length<=2:=by unfold itK;split<;>simp
theorem zs8{c:PCon}{cs:List Int}(hs:sC c):(W0 c cs).length<=30:=by
 unfold W0
 have:∀l:List Int,(l.flatMap (itK c cs)).length<=2*l.length:=by
  intro l
  induction l with
  | nil=>simp
  | cons a r ih=>
    have:=zuq c cs a
    simp only[List.flatMap_cons,List.length_append,List.length_cons]
    omega
 have h1:=this c.cir
 have h2:=hs.1
 have h3:=hs.2.1
 rw[List.length_append];omega
section
variable {h : Hp} {s : TSketch} {S : PSk} {Kb : Bool → Hp → Prop} {Ki : Int → Hp → Prop} {Ks : Sl → Hp → Prop} {l m : Sl} {xs ys : List Int}
theorem Zj1{a b:Addr}{p k:Int}{va vs:Sl}(ha:h.cell a=some (.int .i64 p))(hb:h.cell b=some (.int .i64 k)):CO h ⟨13,⟨some a,1,1⟩,⟨some b,1,1⟩,zf,0⟩ (z0w p k):=
 ⟨rfl,Z41 ha (by decide),Z41 hb (by decide),LR.nil,rfl⟩
theorem Z7z{i:Int}{K:Addr->Prop}(hx:SK h s S)(k:Nat)(hi:i=k)(hk:k<S.arc.length)(H:∀a,(∀j v,(Z80 S.arc[k])[j]?=some v->h.cell (a.add j)=some v)->K a):zg s.arcs i 4 K:=
 hx.2.2.2.1.get z44 k hi hk λa x hxx hc=>H a (by have hxx:x=S.arc[k]:=hxx;rw[<-hxx];exact hc)
theorem zob{A:TArc}{out:List PCon}{p:Int}{y:Sl}{D:Hp}{K:Sl×Unit->Hp->Prop}(hv:VS S)(hs:sSk S)(hlen:out.length<=100)(hone:∀c∈out,VC1 c)(hS:SK D s S)(ho:LO cc 5 CO D h y out)
 (hK:∀y' D' h',D.le D'->LO cc 5 CO D' h' y' (z3i S.con out p A.circle)->K (y',()) h') :
 Yo [.int .i64 p] (λp12 h5=>
 (Yo [.int .i64 A.circle] (λp13 h6=>
 (Yo [.int .i64 0,.slice zf.a zf.len zf.cap,.slice zf.a zf.len zf.cap,.slice zf.a zf.len zf.cap,.int .i64 0] (λp14 h7=>
 (stP p14 [.int .i64 13,.slice (⟨some p12,1,1⟩:Sl).a (⟨some p12,1,1⟩:Sl).len (⟨some p12,1,1⟩:Sl).cap,.slice (⟨some p13,1,1⟩:Sl).a (⟨some p13,1,1⟩:Sl).len (⟨some p13,1,1⟩:Sl).cap,.slice zf.a zf.len zf.cap,.int .i64 0] (λh8=>
 (zc (F.zo s.constraints ((some p14),())) (λr15 h9=>
 (ifP (!r15)
 (zc (F.zo y ((some p14),())) (λr16 h10=>
 (ifP (!r16)
 (ldL (.int .i64) (p14.add 0) (λx17_0=>
 (ldL (.sl) (p14.add 1) (λx17_1=>
 (ldL (.sl) (p14.add 2) (λx17_2=>
 (ldL (.sl) (p14.add 3) (λx17_3=>
 (ldL (.int .i64) (p14.add 4) (λx17_4=>
 (Y5 5 88 [.int .i64 0,.slice zf.a zf.len zf.cap,.slice zf.a zf.len zf.cap,.slice zf.a zf.len zf.cap,.int .i64 0] y 1 [.int .i64 x17_0,.slice x17_1.a x17_1.len x17_1.cap,.slice x17_2.a x17_2.len x17_2.cap,.slice x17_3.a x17_3.len x17_3.cap,.int .i64 x17_4] (λw18 h11=>
 (K (w18,()) h11)) h10)) h10)) h10)) h10)) h10)) h10)
 (K (y,()) h10))) h9)
 (K (y,()) h9))) h8)) h7)) h6)) h5)) h:=by
  refine ho.newb Yx λp12 D3 h4 d3 l4 ho4 c12=>ho4.newb Yx λp13 D4 h5 d4 l5 ho5 c13=>?_
  refine Zda (vs:=[.int .i64 13,.slice (⟨some p12,1,1⟩:Sl).a (⟨some p12,1,1⟩:Sl).len (⟨some p12,1,1⟩:Sl).cap,.slice (⟨some p13,1,1⟩:Sl).a (⟨some p13,1,1⟩:Sl).len (⟨some p13,1,1⟩:Sl).cap,.slice zf.a zf.len zf.cap,.int .i64 0]) rfl rfl ?_
  refine ho5.newb Yx λp14 D5 h6 d5 l6 ho6 c14=>?_
  have e12:D5.cell p12=some (.int .i64 p):=by
   have:=c12 0 _ rfl
   rw[Zv]at this
   exact Hp.cell_le (Hp.le_trans d4 d5) this
  have e13:D5.cell p13=some (.int .i64 A.circle):=by
   have:=c13 0 _ rfl
   rw[Zv]at this
   exact Hp.cell_le d5 this
  have hDD:D.le D5:=Hp.le_trans d3 (Hp.le_trans d4 d5)
  have hco:CO D5 ⟨13,⟨some p12,1,1⟩,⟨some p13,1,1⟩,zf,0⟩ (z0w p A.circle):=Zj1 (va:=zf) (vs:=zf) e12 e13
  have hck:CKC D5 p14 ⟨13,⟨some p12,1,1⟩,⟨some p13,1,1⟩,zf,0⟩:=c14
  refine ho6.call Yx (K1:=λb h'=>(b=true↔∃c∈S.con,onC c p A.circle)) ?_ λb D6 h7 d6 ho7 hb=>?_
  . exact zbh (hS.le hDD).2.2.2.2.2 (by have:=hs.2.2.2.2.2.1;omega) (λc hc=>hv.one hs hc) hck hco λb h' hl hb=>hb
  have hck6:CKC D6 p14 ⟨13,⟨some p12,1,1⟩,⟨some p13,1,1⟩,zf,0⟩:=λi v hv=>Hp.cell_le d6 (hck i v hv)
  refine zp (λh8=>?_) (λh8=>?_)
  . have hb':¬∃c∈S.con,onC c p A.circle:=λhh=>by rw[hb.2 hh]at h8;cases h8
    refine zbh (ho7.lr Yx) (by omega) hone (λi v hv=>Hp.cell_le ho7.dle (hck6 i v hv)) ((hco.le d6).le ho7.dle) λb9 h9 hl9 hb9=>?_
    have ho9:=ho7.le hl9
    refine zp (λh10=>?_) (λh10=>?_)
    . have hb9':¬∃c∈out,onC c p A.circle:=λhh=>by rw[hb9.2 hh]at h10;cases h10
      have c9:∀i v,(cc ⟨13,⟨some p12,1,1⟩,⟨some p13,1,1⟩,zf,0⟩)[i]?=some v->h9.cell (p14.add i)=some v:=λi v hv=>Hp.cell_le ho9.dle (hck6 i v hv)
      refine⟨_,c9 0 _ rfl,_,c9 1 _ rfl,_,c9 2 _ rfl,_,c9 3 _ rfl,_,c9 4 _ rfl,?_⟩
      refine ho9.app Yx (bytes:=88) (zero:=[.int .i64 0,.slice zf.a zf.len zf.cap,.slice zf.a zf.len zf.cap,.slice zf.a zf.len zf.cap,.int .i64 0]) (x:=⟨13,⟨some p12,1,1⟩,⟨some p13,1,1⟩,zf,0⟩) (b:=z0w p A.circle) (by rfl) (by omega) (by omega) (hco.le d6) λy' h11 ho11=>?_
      refine hK y' D6 h11 (Hp.le_trans hDD d6) ?_
      . have:z3i S.con out p A.circle=out++[z0w p A.circle]:=by
         unfold z3i
         rw[if_neg]
         rintro⟨c,hc,hon⟩
         rcases List.mem_append.1 hc with hc | hc
         . exact hb' ⟨c,hc,hon⟩
         . exact hb9' ⟨c,hc,hon⟩
        rw[this];exact ho11
    . have hb9':∃c∈out,onC c p A.circle:=hb9.1 (by simpa using h10)
      refine hK y D6 h9 (Hp.le_trans hDD d6) ?_
      . have:z3i S.con out p A.circle=out:=by
         unfold z3i
         rw[if_pos]
         obtain⟨c,hc,hon⟩:=hb9'
         exact⟨c,List.mem_append_right _ hc,hon⟩
        rw[this];exact ho9
  . have hb':∃c∈S.con,onC c p A.circle:=hb.1 (by simpa using h8)
    refine hK y D6 h7 (Hp.le_trans hDD d6) ?_
    . have:z3i S.con out p A.circle=out:=by
       unfold z3i
       rw[if_pos]
       obtain⟨c,hc,hon⟩:=hb'
       exact⟨c,List.mem_append_left _ hc,hon⟩
      rw[this];exact ho7
theorem zky(hx:SK h s S)(hv:VS S)(hs:sSk S)(H:∀y h',h.le h'->LR cc 5 CO h' y (imp S)->Ks y h'):zc (F.z38 s) Ks h:=by
 refine zd (λy h'=>LR cc 5 CO h' y (imp S)) (λK' hk=>?_) λb h' hl hb=>H b h' hl hb
 unfold F.z38
 have l4:=hx.2.2.2.1.len z44
 have s4:=hs.2.2.2.1
 refine Yt (n:=S.arc.length) (by omega) (λi y h'=>∃D,h.le D/\LO cc 5 CO D h' y (zef S.con (S.arc.take i))) ⟨h,Hp.le_refl _,LO.nil⟩ ?_
 rintro i y h1 hi ⟨D,hD,ho⟩ k hk2
 refine ze (λh2=>?_) (λh2=>?_)
 . have hi':i<S.arc.length:=by simp only at h2;omega
   have hlen:=zhh S.con S.arc i hi
   refine Z7z (hx.le (Hp.le_trans hD ho.dle)) i rfl hi' λa hc=>⟨_,hc 0 _ rfl,_,hc 1 _ rfl,_,hc 2 _ rfl,_,hc 3 _ rfl,?_⟩
   refine ho.newb Yx λp5 D2 h3 d2 l3 ho3 c5=>?_
   have hD2:=Hp.le_trans hD d2
   obtain⟨A,hA⟩:∃A,A=S.arc[i]:=⟨_,rfl⟩
   rw[<-hA]at c5 |-
   obtain⟨out,hout⟩:∃out,out=zef S.con (S.arc.take i):=⟨_,rfl⟩
   rw[<-hout]at ho3 hlen
   have hone:∀c∈out,VC1 c:=by rw[hout];exact Z8l i hi
   obtain⟨st,hst⟩:∃st:Nat->List PCon,st=λj=>if j=0 then out else if j=1 then z3i S.con out A.a A.circle else zgk S.con out A:=⟨_,rfl⟩
   have st0:st 0=out:=by rw[hst];rfl
   have st1:st 1=z3i S.con out A.a A.circle:=by rw[hst];rfl
   have st2:st 2=zgk S.con out A:=by rw[hst];rfl
   have a1:=zdz S.con out A.a A.circle
   have hl5:IL D2 ⟨some p5,2,2⟩ [A.a,A.b]:=⟨z0g c5 rfl,Nat.le_refl _⟩
   refine Yt (n:=2) (by omega) (λj y h'=>∃D,D2.le D/\LO cc 5 CO D h' y (st j)) ⟨D2,Hp.le_refl _,by rw[st0];exact ho3⟩ ?_
   rintro j z h4 hj ⟨D3,d3,ho4⟩ k2 hk3
   refine ze (λh5=>?_) (λh5=>?_)
   . have hj':j<2:=by have:(j:Int)<((2:Nat):Int):=h5;omega
     refine zk (λs h'=>∃D,D2.le D/\LO cc 5 CO D h' s.1 (st (j+1))) (λs h' hs=>hk3 _ _ hj' hs) ?_
     refine(hl5.le (Hp.le_trans d3 ho4.dle)).get j rfl hj' ?_
     have fin:∀(p:Int),st (j+1)=z3i S.con (st j) p A.circle->∀y' D' h',D3.le D'->LO cc 5 CO D' h' y' (z3i S.con (st j) p A.circle)->(λ(s:Sl×Unit) h'=>∃D,D2.le D/\LO cc 5 CO D h' s.1 (st (j+1))) (y',()) h':=
      λp hp y' D' h' hd hl=>⟨D',Hp.le_trans d3 hd,by rw[hp];exact hl⟩
     have hS3:SK D3 s S:=hx.le (Hp.le_trans hD2 d3)
     rcases(by omega:j=0\/j=1)with rfl | rfl
     . exact zob (A:=A) (K:=λ(s:Sl×Unit) h'=>∃D,D2.le D/\LO cc 5 CO D h' s.1 (st (0+1))) hv hs (by rw[st0];omega) (by rw[st0];exact hone) hS3 ho4 (fin A.a (by rw[st1,st0]))
     . exact zob (A:=A) (K:=λ(s:Sl×Unit) h'=>∃D,D2.le D/\LO cc 5 CO D h' s.1 (st (1+1))) hv hs (by rw[st1];omega) (by rw[st1];exact zdy hone zsj) hS3 ho4 (fin A.b (by rw[st2,st1];rfl))
   . have:j=2:=by have:¬(j:Int)<((2:Nat):Int):=h5;omega
     subst this
     refine hk2 _ _ hi' ⟨D3,Hp.le_trans hD2 d3,?_⟩
     rw[zeg hi',<-hout,<-hA,<-st2]
     exact ho4
 . have:i=S.arc.length:=by simp only at h2;omega
   subst this
   rw[List.take_length]at ho
   exact hk _ _ (Hp.le_trans hD ho.dle) (ho.lr Yx)
end
end Den
end

section
namespace Den
open Go Iv Lx
def zC:List Value:=[.int .i64 0,.slice zf.a zf.len zf.cap,.slice zf.a zf.len zf.cap,.slice zf.a zf.len zf.cap,.int .i64 0]
section
variable {h : Hp} {s : TSketch} {S : PSk} {Kb : Bool → Hp → Prop} {Ki : Int → Hp → Prop} {Ks : Sl → Hp → Prop} {l m : Sl} {xs ys : List Int}
theorem Z86{i:Int}{K:Addr->Prop}(hx:SK h s S)(k:Nat)(hi:i=k)(hk:k<S.cir.length)(H:∀a (x:TRound),x.center=(Xo S)[k]'(by unfold Xo;simpa using hk)->(∀j v,(rdc x)[j]?=some v->h.cell (a.add j)=some v)->K a):zg s.circles i 5 K:=
 hx.2.1.get z6e k hi hk λa x hxx hc=>H a x (by rw[hxx.1];simp[Xo]) hc
theorem znk:(Xo S).length=S.cir.length:=by simp[Xo]
end
end Den
end

section
namespace Den
open Go Iv Lx
def zcl(c:PCon)(cs:List Int):Prop:=∀k∈c.cir,0<=k/\k<cs.length
theorem VC.cirOk{c:PCon}{n:Int}{S:PSk}(hv:VC c n S.cir.length):zcl c (Xo S):=λk hk=>by
 have:=hv.2.2.1.2 k hk
 rw[znk];exact this
def zks(c:PCon):Prop:=c.kind=13\/c.kind=16\/c.kind=17
instance (c:PCon):Decidable (zks c):=by unfold zks;infer_instance
theorem Z8q{c:PCon}{cs:List Int}{k:Int}(h:zks c):itK c cs k=[-1-k,cs.getD k.toNat 0]:=by unfold itK;exact if_pos h
theorem Z8p{c:PCon}{cs:List Int}{k:Int}(h:¬zks c):itK c cs k=[-1-k]:=by unfold itK;exact if_neg h
theorem zh9{c:PCon}{cs:List Int}:∀l:List Int,(l.flatMap (itK c cs)).length<=2*l.length:=by
 intro l
 induction l with
 | nil=>simp
 | cons a r ih=>
   have:=zuq c cs a
   simp only[List.flatMap_cons,List.length_append,List.length_cons]
   omega
theorem zcw{c:PCon}{cs:List Int}{l:List Int}{i:Nat}(hi:i<l.length):(l.take (i+1)).flatMap (itK c cs)=(l.take i).flatMap (itK c cs)++itK c cs l[i]:=by
 rw[<-List.take_append_getElem hi,List.flatMap_append]
 simp
section
variable {h : Hp} {x : TConstraint} {c : PCon} {cs : List Int} {ce : Sl} {Kb : Bool → Hp → Prop} {Ki : Int → Hp → Prop} {Ks : Sl → Hp → Prop}
theorem Z4k{k:Int}{n:Nat}(h0:0<=k)(h1:k<n)(h2:n<=1000000):i64.wrap (-1-k)=-1-k:=w64 (by omega)
end
section
variable {h : Hp} {s : TSketch} {S : PSk} {Kb : Bool → Hp → Prop} {Ki : Int → Hp → Prop} {Ks : Sl → Hp → Prop} {l m : Sl} {xs ys : List Int}
theorem zvi{n:Nat}(hn:n<=1000000)(H:∀y h',h.le h'->LO cc 5 CO h h' y []->Ks y h'):zc (F.yo zf (n:Int)) Ks h:=by
 refine zd (λy h'=>LO cc 5 CO h h' y []) (λK' hk=>?_) λb h' hl hb=>H b h' hl hb
 unfold F.yo
 have e0:i64.wrap (((zf.cap:Nat):Int)-(zf.len:Int))=0:=by rw[show((zf.cap:Nat):Int)-(zf.len:Int)=0 from rfl];exact w64 (by omega)
 have e1:i64.wrap ((n:Int)-0)=(n:Int):=by rw[Int.sub_zero];exact w64 (by omega)
 refine zk (λ_ h'=>h'=h) ?_ (ze (λh1=>by omega) (λ_=>rfl))
 rintro _ h rfl
 rw[e0,e1]
 refine ze (λh1=>?_) (λh1=>hk _ _ (Hp.le_refl _) LO.nil)
 refine⟨by omega,by decide,by decide,by omega,?_⟩
 have hown:Own h h 5 (zf.cut 0 0 5) ([]:List Value):=⟨Hp.le_refl _,rfl,Nat.le_refl _,rfl⟩
 have ez:ye n zC=(List.replicate n (⟨0,zf,zf,zf,0⟩:TConstraint)).flatMap cc:=by
  unfold ye
  rw[List.flatMap_replicate]
  rfl
 have key:Y5 5 88 zC (zf.cut 0 0 5) n (ye n zC) (λw4 h2=>slP w4 0 ((zf.len:Nat):Int) 5 λc5=>K' c5 h2) h:=by
  refine z43 hown (n:=n) ?_ rfl ?_ (by show(0+n)*88<=_;omega) (by show 0+n<=_;omega) λy h' hy hyl=>?_
  . rw[z35];rfl
  . rw[ez,List.all_flatMap,List.all_eq_true]
    exact λx _=>rfl
  . have hcap:=hy.2.2.1
    have e9:zf.len=0:=rfl
    refine⟨by decide,by decide,by omega,hk _ _ hy.1 ?_⟩
    have hp:=hy.preN (k:=0) (by omega)
    refine⟨[],?_,rfl,λk h1 _=>by simp at h1⟩
    rw[Nat.zero_mul,List.take_zero]at hp
    exact hp
 exact key
theorem zmy{qs rs:List PCon}{p:Addr}(hl:LR cc 5 CO h l qs)(hm:LR cc 5 CO h m rs)(hlen:qs.length+rs.length<=1000)(hp:Rd h 1 ⟨some p,2,2⟩ [Lf.sl.up l,Lf.sl.up m])(H:∀y h',h.le h'->LR cc 5 CO h' y (qs++rs)->Ks y h') :
 zc (F.yd ⟨some p,2,2⟩) Ks h:=by
 refine zd (λy h'=>LR cc 5 CO h' y (qs++rs)) (λK' hk=>?_) λb h' hl hb=>H b h' hl hb
 unfold F.yd
 have ll:=hl.len Yx
 have ml:=hm.len Yx
 have g0:∀{h':Hp} {K:Sl->Prop},h.le h'->K l->zg (⟨some p,2,2⟩:Sl) ((0:Nat):Int) 1 λa=>ldL .sl a K h':=λ{h'} {K} hle hK=>zi9 0 (hp.le hle) rfl rfl λa ha=>⟨l,ha,hK⟩
 have g1:∀{h':Hp} {K:Sl->Prop},h.le h'->K m->zg (⟨some p,2,2⟩:Sl) ((1:Nat):Int) 1 λa=>ldL .sl a K h':=λ{h'} {K} hle hK=>zi9 1 (hp.le hle) rfl rfl λa ha=>⟨m,ha,hK⟩
 refine Yt (n:=2) (by omega) (λi a h'=>h'=h/\a=if i=0 then 0 else if i=1 then (qs.length:Int)else ((qs.length+rs.length:Nat):Int)) ⟨rfl,rfl⟩ ?_
 rintro i a h hi ⟨rfl,ha⟩ k hk2
 refine ze (λh1=>?_) (λh1=>?_)
 . have hi':i<2:=by have:(i:Int)<((2:Nat):Int):=h1;omega
   refine zk (λs h'=>h'=h/\s.1=if i+1=0 then 0 else if i+1=1 then (qs.length:Int)else ((qs.length+rs.length:Nat):Int)) (λs h' hs=>hk2 _ _ hi' hs) ?_
   rcases(by omega:i=0\/i=1)with rfl | rfl
   . refine g0 (Hp.le_refl _) ?_
     have ha:a=0:=ha
     have e:i64.wrap (a+(l.len:Int))=(qs.length:Int):=by rw[ha,ll,Int.zero_add];exact w64 (by omega)
     simp only
     rw[e]
     refine ze (λh2=>by omega) (λ_=>⟨by trivial,by trivial⟩)
   . refine g1 (Hp.le_refl _) ?_
     have ha:a=(qs.length:Int):=ha
     have e:i64.wrap (a+(m.len:Int))=((qs.length+rs.length:Nat):Int):=by rw[ha,ml];rw[w64 (by omega)];omega
     simp only
     rw[e]
     refine ze (λh2=>by omega) (λ_=>⟨by trivial,by trivial⟩)
 . have hi':i=2:=by have:¬(i:Int)<((2:Nat):Int):=h1;omega
   subst hi'
   have ha:a=((qs.length+rs.length:Nat):Int):=ha
   simp only
   rw[ha]
   refine zvi (by omega) λr7 h3 hl3 ho3=>?_
   refine Yt (n:=2) (by omega) (λi y h'=>LO cc 5 CO h h' y (if i=0 then []else if i=1 then qs else qs++rs)) ho3 ?_
   intro i y h4 hi ho4 k hk3
   refine ze (λh5=>?_) (λh5=>?_)
   . have hi':i<2:=by have:(i:Int)<((2:Nat):Int):=h5;omega
     rcases(by omega:i=0\/i=1)with rfl | rfl
     . refine g0 ho4.dle ?_
       have ho4:LO cc 5 CO h h4 y []:=ho4
       exact ho4.appAll Yx (bytes:=88) (zero:=zC) hl rfl (by simp;omega) (by simp;omega) λw h6 ho6=>hk3 _ _ (by decide) ho6
     . refine g1 ho4.dle ?_
       have ho4:LO cc 5 CO h h4 y qs:=ho4
       exact ho4.appAll Yx (bytes:=88) (zero:=zC) hm rfl (by omega) (by omega) λw h6 ho6=>hk3 _ _ (by decide) ho6
   . have hi':i=2:=by have:¬(i:Int)<((2:Nat):Int):=h5;omega
     subst hi'
     have ho4:LO cc 5 CO h h4 y (qs++rs):=ho4
     exact hk _ _ ho4.dle (ho4.lr Yx)
end
end Den
end

section
namespace Den
open Go Iv Lx
def ILP(h:Hp)(x:Sl)(xs:List Int):Prop:=IL h x xs
theorem z8i:Rec slc 1 ILP:=⟨λ_=>rfl,by decide,λ_=>rfl,λhx hl=>IL.le hx hl⟩
def zbz(s:TSketch)(lS itS ceS:Sl):List Value:=[Lf.sl.up s.points,Lf.sl.up s.circles,Lf.sl.up s.segments,Lf.sl.up s.arcs,Lf.sl.up s.chains,Lf.sl.up s.constraints,Lf.sl.up lS,Lf.sl.up itS,Lf.sl.up ceS]
def MB(h:Hp)(b:Nat)(cs:List Value):Prop:=∃e,h b=some ⟨cs,e,(0,0)⟩
theorem MB.ld{h:Hp}{b:Nat}{cs:List Value}(hb:MB h b cs)(j:Nat){v:Value}(hv:cs[j]?=some v):h.cell ((⟨b,0,none⟩:Addr).add j)=some v:=by
 obtain⟨e,hb⟩:=hb
 unfold Hp.cell
 rw[Yg,V6 rfl,Xv]
 simpa [hb] using hv
theorem MB.le{h h':Hp}{b:Nat}{cs:List Value}(hb:MB h b cs)(hl:h.le h'):MB h' b cs:=by
 obtain⟨e,hb⟩:=hb
 exact⟨e,hl _ _ hb⟩
theorem MB.st{h:Hp}{b j:Nat}{cs:List Value}{v:Value}{K:Hp->Prop}(hb:MB h b cs)(hj:j<cs.length)(hv:Value.leaf v=true)
 (H:∀h',MB h' b (cs.set j v)->(∀i,i≠b->h' i=h i)->K h'):stP ((⟨b,0,none⟩:Addr).add j) [v] K h:=by
 obtain⟨e,hb⟩:=hb
 refine⟨_,by rw[Yg];exact hb,V6 rfl _,rfl,?_,by simp[hv],?_⟩
 . rw[Xv];simp;omega
 . rw[Yg,Xv]
   refine H _ ⟨e,?_⟩ λi hi=>Hp.ins_ne hi
   rw[Hp.ins_same]
   simp only[Nat.zero_add]
   rw[z3x,List.set_eq_take_append_cons_drop,if_pos hj]
theorem zs6{h h':Hp}{b:Nat}{bl:Blk}(hb:h' b=some bl)(hs:∀i,i≠b->h' i=h i):h'=h.ins b bl:=by
 funext i
 by_cases hi:i=b
 . subst hi;rw[Hp.ins_same,hb]
 . rw[Hp.ins_ne hi,hs i hi]
theorem zhx{h0 h:Hp}{x:Sl}{cs:List Value}{n m:Nat}{bl:Blk}(ho:Own h0 h m x cs)(hn:h0 n=none)(hne:∀a,x.a=some a->a.block≠n):Own h0 (h.ins n bl) m x cs:=by
 obtain⟨h1,h2,h3,h4⟩:=ho
 refine⟨λk b hk=>?_,h2,h3,?_⟩
 . have:k≠n:=λhh=>by subst hh;rw[hn]at hk;cases hk
   rw[Hp.ins_ne this];exact h1 k b hk
 . cases ha:x.a with
   | none=>rw[ha]at h4;exact h4
   | some a=>
     rw[ha]at h4
     obtain⟨g1,g2,g3,b,g4,g5⟩:=h4
     exact⟨g1,g2,g3,b,by rw[Hp.ins_ne (hne a ha)];exact g4,g5⟩
theorem zos{h0 h D:Hp}{x:Sl}{cs:List Value}{m:Nat}(ho:Own h0 h m x cs)(hD:∀a,x.a=some a->D a.block=h a.block):Rd D m x cs:=by
 have hr:=ho.rd
 obtain⟨h1,h2,h3,h4⟩:=ho
 refine⟨hr.1,?_⟩
 cases ha:x.a with
 | none=>have:=hr.2;rw[ha]at this;exact this
 | some a=>
   rw[ha]at h4
   obtain⟨g1,g2,g3,b,g4,g5,g6,g7⟩:=h4
   have hle:cs.length<=b.cells.length:=by rw[g6,<-h2];exact Nat.mul_le_mul_right _ h3
   simp only[Z0]
   rw[z7d (by rw[hD a ha];exact g4) g2 (by omega),g1]
   simp[g7]
def PR(h:Hp)(p:Addr)(S:PSk):Prop:=∃s lS itS ceS,SK h s S/\(∀j v,(zbz s lS itS ceS)[j]?=some v->h.cell (p.add j)=some v)/\LR cc 5 CO h lS (Qz S)/\LR slc 1 ILP h itS ((Qz S).map λc=>W0 c (Xo S))/\IL h ceS (Xo S)
theorem PR.le{h h':Hp}{p:Addr}{S:PSk}(hp:PR h p S)(hl:h.le h'):PR h' p S:=by
 obtain⟨s,lS,itS,ceS,h1,h2,h3,h4,h5⟩:=hp
 exact⟨s,lS,itS,ceS,h1.le hl,λj v hv=>Hp.cell_le hl (h2 j v hv),h3.le Yx hl,h4.le z8i hl,h5.le hl⟩
section
variable {h : Hp} {s : TSketch} {S : PSk} {Kp : Option Addr → Hp → Prop}
theorem zmc(hx:SK h s S)(hv:VS S)(hs:sSk S)(H:∀p h',h.le h'->PR h' p S->Kp (some p) h'):zc (F.z07 s) Kp h:=by
 refine zd (λy h'=>∃p,y=some p/\PR h' p S) (λK' hk=>?_) λb h' hl ⟨p,hp,hb⟩=>by subst hp;exact H p h' hl hb
 unfold F.z07
 have hal:=zgl hs
 have hok:=zci hv hs
 have s6:=hs.2.2.2.2.2.1
 have hi:=zup S
 have s4:=hs.2.2.2.1
 have s2:=hs.2.1
 have cl:=znk (S:=S)
 refine zky hx hv hs λr1 h1 hl1 hr1=>?_
 refine zc4 (cells:=[Lf.sl.up s.constraints,Lf.sl.up r1]) 1 2 rfl λp2 h2 hl2 hp2=>?_
 refine zmy ((hx.le (Hp.le_trans hl1 hl2)).2.2.2.2.2) (hr1.le Yx hl2) (by omega) hp2 λlS h3 hl3 hL=>?_
 have hle3:=Hp.le_trans hl1 (Hp.le_trans hl2 hl3)
 have hx3:=hx.le hle3
 have hL:LR cc 5 CO h3 lS (Qz S):=hL
 intro b e hbf
 have l2:=hx.2.1.len z6e
 have lL:=hL.len Yx
 refine Y0 (n:=S.cir.length) (by omega) (λi h'=>∃y,MB h' b (zbz s lS zf y)/\OI h3 h' y ((Xo S).take i)/\∀a,y.a=some a->a.block≠b) ⟨zf,⟨e,Hp.ins_same _ _ _⟩,by rw[List.take_zero];exact Own.nil (Hp.le_ins hbf),λa ha=>by cases ha⟩ ?_
 rintro i h5 hi ⟨y,hm,ho,hab⟩ k hk2
 have h3b:h3 b=none:=hbf
 refine ze (λh6=>?_) (λh6=>?_)
 . have hi':i<S.cir.length:=by simp only at h6;omega
   refine Z86 (hx3.le ho.dle) i rfl hi' λa x hxx hc=>⟨_,hc 0 _ rfl,_,hc 1 _ rfl,_,hc 2 _ rfl,_,hc 3 _ rfl,_,hc 4 _ rfl,_,hm.ld 8 rfl,?_⟩
   have hyl:=ho.il.len
   rw[List.length_take]at hyl
   refine zcj ho (n:=1) (new:=[ic x.center]) rfl rfl rfl (by omega) (by omega) λz h7 hz _ hs7 hb7=>?_
   have hbb:h5 b≠none:=by obtain⟨e,hm⟩:=hm;rw[hm];simp
   have hm7:MB h7 b (zbz s lS zf y):=by
    obtain⟨e,hm⟩:=hm
    exact⟨e,by rw[hs7 b hbb λa ha=>(hab a ha).symm];exact hm⟩
   have hzb:∀a,z.a=some a->a.block≠b:=λa ha hh=>by
    rcases hb7 a ha with ⟨a',h8,h9⟩ | h8
    . exact hab a' h8 (by rw[h9];exact hh)
    . rw[hh]at h8;exact hbb h8
   refine hm7.st (j:=8) (v:=Lf.sl.up z) (by simp[zbz]) rfl λh8 hm8 hs8=>hk2 _ hi' ⟨z,hm8,?_,hzb⟩
   obtain⟨e8,hm8'⟩:=hm8
   rw[zs6 hm8' hs8]
   have:OI h3 h7 z ((Xo S).take (i+1)):=by
    unfold OI
    rw[<-List.take_append_getElem (show i<(Xo S).length by omega),List.map_append,<-hxx]
    exact hz
   exact zhx this h3b hzb
 . have hi':i=S.cir.length:=by simp only at h6;omega
   subst hi'
   rw[<-cl,List.take_length]at ho
   obtain⟨D0,hD0⟩:∃D0,D0=h5.del b:=⟨_,rfl⟩
   have hD0le:D0.le h5:=by rw[hD0];exact Hp.del_le _ _
   have h3D:h3.le D0:=λj bl hj=>by
    rw[hD0]
    unfold Hp.del
    rw[if_neg (λhh=>by subst hh;rw[h3b]at hj;cases hj)]
    exact ho.dle _ _ hj
   have hce:IL D0 y (Xo S):=⟨zos ho λa ha=>by rw[hD0];unfold Hp.del;rw[if_neg (hab a ha)],ho.2.2.1⟩
   refine⟨_,hm.ld 6 rfl,?_⟩
   have hLD:=hL.le Yx h3D
   refine Y0 (n:=(Qz S).length) (by omega) (λi h'=>∃z D,MB h' b (zbz s lS z y)/\D0.le D/\D b=none/\LO slc 1 ILP D h' z (((Qz S).map λc=>W0 c (Xo S)).take i)/\∀a,z.a=some a->a.block≠b)
    ⟨zf,D0,hm,Hp.le_refl _,by rw[hD0];exact Hp.del_same _ _,⟨[],Own.nil hD0le,by simp,λk k1 _=>by simp at k1⟩,λa ha=>by cases ha⟩ ?_
   clear hk2
   rintro i h8 hi ⟨z,D,hm8,hD,hDb,hz,hzb⟩ k hk2
   refine ze (λh9=>?_) (λh9=>?_)
   . have hi':i<(Qz S).length:=by simp only at h9;omega
     have hD8:=hz.dle
     refine(hLD.le Yx (Hp.le_trans hD hD8)).get Yx i rfl hi' λa x hxx hc=>?_
     refine⟨_,hc 0 _ rfl,_,hc 1 _ rfl,_,hc 2 _ rfl,_,hc 3 _ rfl,_,hc 4 _ rfl,?_⟩
     obtain⟨c,hcc⟩:∃c,c=(Qz S)[i]:=⟨_,rfl⟩
     rw[<-hcc]at hxx
     have hcok:=hok c (by rw[hcc];exact List.getElem_mem _)
     have hcir:zcl c (Xo S):=hcok.1.cirOk
     have hsc:=hcok.2
     obtain⟨x1,x2,x3,x4,x5⟩:=hxx
     obtain⟨c1,c2,c3,c4⟩:=hsc
     have cll:=x3.len
     refine zo9 x2 (by omega) λr16 h10 ho10=>?_
     rw[x1]
     refine Yt (n:=c.cir.length) (by omega) (λj w h'=>OI h8 h' w (c.pts++(c.cir.take j).flatMap (itK c (Xo S)))) (by simpa using ho10) ?_
     intro j w h11 hj ho11 k11 hk11
     have hfl:=zh9 (c:=c) (cs:=Xo S) (c.cir.take j)
     rw[List.length_take]at hfl
     refine ze (λh12=>?_) (λh12=>?_)
     . have hj':j<c.cir.length:=by simp only at h12;omega
       have hkk:=hcir _ (List.getElem_mem hj')
       refine zk (λs h'=>OI h8 h' s.1 (c.pts++(c.cir.take (j+1)).flatMap (itK c (Xo S)))) (λs h' hs=>hk11 _ _ hj' hs) ?_
       refine(x3.le ho11.dle).get j rfl hj' ?_
       rw[Z4k hkk.1 hkk.2 (by omega)]
       refine ho11.app (by rw[List.length_append];omega) λw2 h13 ho13=>?_
       have two:zks c->ldL .sl ((⟨b,0,none⟩:Addr).add 8) (λx24=>zg x24 c.cir[j] 1 λa25=>ldL (.int .i64) a25 (λx26=>Y5 1 8 [.int .i64 0] w2 1 [.int .i64 x26] (λw27 h13=>OI h8 h13 w27 (c.pts++(c.cir.take (j+1)).flatMap (itK c (Xo S)))) h13) h13) h13:=by
        intro hw
        refine⟨_,(hm8.le ho13.dle).ld 8 rfl,?_⟩
        refine(hce.le (Hp.le_trans hD (Hp.le_trans hD8 ho13.dle))).get c.cir[j].toNat (by omega) (by omega) ?_
        refine ho13.app (by rw[List.length_append,List.length_append,List.length_singleton];omega) λw3 h14 ho14=>?_
        rw[zcw hj',Z8q hw,Q9 (by omega)]
        simpa [List.append_assoc] using ho14
       refine zz (λh6=>two (.inl h6)) (λh6=>zz (λh7=>two (.inr (.inl h7))) (λh7=>zz (λh8=>two (.inr (.inr h8))) (λh8=>?_)))
       show OI _ _ _ _
       rw[zcw hj',Z8p (by unfold zks;omega),<-List.append_assoc]
       exact ho13
     . have hj':j=c.cir.length:=by simp only at h12;omega
       subst hj'
       rw[List.take_length]at ho11
       have ho11:OI h8 h11 w (W0 c (Xo S)):=ho11
       have hm11:=hm8.le ho11.dle
       refine⟨_,hm11.ld 7 rfl,?_⟩
       have hz11:=hz.le ho11.dle
       have hbb:h11 b≠none:=by obtain⟨e,hm⟩:=hm11;rw[hm];simp
       have hwb:∀a,w.a=some a->h8 a.block=none:=λa ha=>by
        obtain⟨_,_,_,g4⟩:=ho11
        rw[ha]at g4
        exact g4.2.2.1
       have h8b:h8 b≠none:=by obtain⟨e,hm⟩:=hm8;rw[hm];simp
       obtain⟨zs,q1,q2,q3⟩:=hz11
       have hz8:∀a,z.a=some a->h8 a.block≠none:=λa ha=>by
        obtain⟨ys,g1,_,_⟩:=hz
        obtain⟨_,_,_,g4⟩:=g1
        rw[ha]at g4
        obtain⟨_,_,_,bl,g5,_⟩:=g4
        rw[g5];simp
       have hzD:∀a,z.a=some a->D a.block=none:=λa ha=>by
        obtain⟨_,_,_,g4⟩:=q1
        rw[ha]at g4
        exact g4.2.2.1
       obtain⟨D1,hD1⟩:∃D1:Hp,D1=λj=>if j=b\/(∃a,z.a=some a/\j=a.block)then none else h11 j:=⟨_,rfl⟩
       have hD1h:D1.le h11:=λj bl hj=>by
        rw[hD1]at hj
        simp only at hj
        split at hj
        . cases hj
        . exact hj
       have hDD1:D.le D1:=λj bl hj=>by
        rw[hD1]
        simp only
        rw[if_neg]
        . exact Hp.le_trans hD8 ho11.dle _ _ hj
        . rintro(rfl | ⟨a,ha,rfl⟩)
          . rw[hDb]at hj;cases hj
          . rw[hzD a ha]at hj;cases hj
       have hD1b:D1 b=none:=by rw[hD1];simp
       have hw1:IL D1 w (W0 c (Xo S)):=⟨zos ho11 λa ha=>by
        rw[hD1]
        simp only
        rw[if_neg]
        rintro(hh | ⟨a',ha',hh⟩)
        . exact h8b (by rw[<-hh];exact hwb a ha)
        . exact hz8 a' ha' (by rw[<-hh];exact hwb a ha),ho11.2.2.1⟩
       have hz1:Own D1 h11 1 z (zs.flatMap slc):=by
        obtain⟨g1,g2,g3,g4⟩:=q1
        refine⟨hD1h,g2,g3,?_⟩
        cases ha:z.a with
        | none=>rw[ha]at g4;exact g4
        | some a=>
          rw[ha]at g4
          obtain⟨k1,k2,k3,k4⟩:=g4
          exact⟨k1,k2,by rw[hD1];simp only;rw[if_pos (.inr ⟨a,ha,rfl⟩)],k4⟩
       have hzl:=hz.len z8i
       rw[List.length_take,List.length_map]at hzl
       refine zcj hz1 (n:=1) (new:=slc w) rfl rfl rfl (by omega) (by omega) λz2 h15 hz2 _ hs15 hb15=>?_
       have hm15:MB h15 b (zbz s lS z y):=by
        obtain⟨e,hm⟩:=hm11
        exact⟨e,by rw[hs15 b hbb λa ha=>(hzb a ha).symm];exact hm⟩
       have hz2b:∀a,z2.a=some a->a.block≠b:=λa ha hh=>by
        rcases hb15 a ha with ⟨a',h8,h9⟩ | h8
        . exact hzb a' h8 (by rw[h9];exact hh)
        . rw[hh]at h8;exact hbb h8
       refine hm15.st (j:=7) (v:=Lf.sl.up z2) (by simp[zbz]) rfl λh16 hm16 hs16=>hk2 _ hi' ⟨z2,D1,hm16,Hp.le_trans hD hDD1,hD1b,⟨zs++[w],?_,?_,λj j1 j2=>?_⟩,hz2b⟩
       . obtain⟨e8,hm8'⟩:=hm16
         rw[zs6 hm8' hs16]
         refine zhx ?_ hD1b hz2b
         rw[List.flatMap_append]
         simpa using hz2
       . rw[List.length_append,q2,List.length_take,List.length_take]
         simp;omega
       . have hlz:zs.length=i:=by rw[q2];simp;omega
         rcases Nat.lt_or_ge j i with h5 | h5
         . rw[List.getElem_append_left (by omega),List.getElem_take]
           have:=q3 j (by omega) (by simp;omega)
           rw[List.getElem_take]at this
           exact z8i.mono this hDD1
         . have h6:j=i:=by simp at j1;omega
           subst h6
           rw[List.getElem_append_right (by omega),List.getElem_take]
           simp only[hlz,Nat.sub_self,List.getElem_cons_zero,List.getElem_map]
           rw[<-hcc]
           exact hw1
   . have hi':i=(Qz S).length:=by simp only at h9;omega
     subst hi'
     have hfull:((Qz S).map λc=>W0 c (Xo S)).take (Qz S).length=(Qz S).map λc=>W0 c (Xo S):=List.take_of_length_le (by simp)
     rw[hfull]at hz
     have hD8:=hz.dle
     have h38:h3.le h8:=Hp.le_trans h3D (Hp.le_trans hD hD8)
     refine hk _ _ (Hp.le_trans hle3 h38) ⟨⟨b,0,none⟩,rfl,s,lS,z,y,hx3.le h38,λj v hv=>hm8.ld j hv,hL.le Yx h38,hz.lr z8i,hce.le (Hp.le_trans hD hD8)⟩
end
end Den
end
