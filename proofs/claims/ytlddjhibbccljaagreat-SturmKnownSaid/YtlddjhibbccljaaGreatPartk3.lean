/-
  Part 3 of the tools and contracts from which the statement is proved.
-/
import Derived.Test.YtlddjhibbccljaaGreatPartk2
import Derived.Test.YtlddjhibbccljaaGreatChecked
import Derived.Lib.Bytealg
set_option linter.unusedVariables false
open Go.IntKind
section
namespace Den
open Go Iv
theorem wu64e(n:Int):u64.wrap n=n % 18446744073709551616:=by simp[IntKind.wrap,IntKind.signed,IntKind.bits]
theorem wu32e(n:Int):u32.wrap n=n % 4294967296:=by simp[IntKind.wrap,IntKind.signed,IntKind.bits]
theorem fd63(n:Int):n.fdiv (2 ^ (min (63:Int).toNat u64.bits))=n/9223372036854775808:=by
 have e:(2:Int) ^ (min (63:Int).toNat u64.bits)=9223372036854775808:=by decide
 rw[e,Int.fdiv_eq_ediv_of_nonneg _ (by decide)]
theorem fd32(n:Int):n.fdiv (2 ^ (min (32:Int).toNat u64.bits))=n/4294967296:=by
 have e:(2:Int) ^ (min (32:Int).toNat u64.bits)=4294967296:=by decide
 rw[e,Int.fdiv_eq_ediv_of_nonneg _ (by decide)]
theorem sub64{x c y:Nat}(hx:x<W)(hc:c<=1)(hy:y<W):∃r b:Nat,r<W/\b<=1/\x+W*b=r+c+y /\
 u32.wrap (u64.wrap (u64.wrap (u64.wrap (x:Int)-(c:Int))-u64.wrap (y:Int)))=(r:Int) /\
 (u64.wrap (u64.wrap (u64.wrap (x:Int)-(c:Int))-u64.wrap (y:Int))).fdiv (2 ^ (min (63:Int).toNat u64.bits))=(b:Int):=by
 unfold W at *
 rw[fd63]
 simp only[wu64e,wu32e]
 by_cases h:c+y<=x
 . exact⟨x-c-y,0,by omega,by omega,by omega,by omega,by omega⟩
 . exact⟨x+4294967296-c-y,1,by omega,by omega,by omega,by omega,by omega⟩
theorem sub64'{x c:Nat}(hx:x<W)(hc:c<=1):∃r b:Nat,r<W/\b<=1/\x+W*b=r+c+0 /\
 u32.wrap (u64.wrap (u64.wrap (x:Int)-(c:Int)))=(r:Int) /\
 (u64.wrap (u64.wrap (x:Int)-(c:Int))).fdiv (2 ^ (min (63:Int).toNat u64.bits))=(b:Int):=by
 unfold W at *
 rw[fd63]
 simp only[wu64e,wu32e]
 by_cases h:c<=x
 . exact⟨x-c,0,by omega,by omega,by omega,by omega,by omega⟩
 . exact⟨x+4294967296-c,1,by omega,by omega,by omega,by omega,by omega⟩
theorem sub32{x c y:Nat}(hx:x<W)(hc:c<=1)(hy:y<W):∃r b:Nat,r<W/\b<=1/\x+W*b=r+c+y /\
 u32.wrap (u64.wrap (u64.wrap (u64.wrap (u64.wrap (x:Int)+4294967296)-(y:Int))-(c:Int)))=(r:Int) /\
 u64.wrap (1-(u64.wrap (u64.wrap (u64.wrap (u64.wrap (x:Int)+4294967296)-(y:Int))-(c:Int))).fdiv (2 ^ (min (32:Int).toNat u64.bits)))=(b:Int):=by
 unfold W at *
 rw[fd32]
 simp only[wu64e,wu32e]
 by_cases h:c+y<=x
 . exact⟨x-c-y,0,by omega,by omega,by omega,by omega,by omega⟩
 . exact⟨x+4294967296-c-y,1,by omega,by omega,by omega,by omega,by omega⟩
def Fresh(h:Hp)(z:Sl):Prop:=∀a,z.a=some a->h a.block=none
theorem Fresh.of{h h':Hp}{w z:Sl}{cs:List Value}(ho:Own h h' 1 w cs)(hs:InM z w):Fresh h z:=λa ha=>by
 obtain⟨a',h1,h2⟩:=hs a ha
 have h4:=ho.2.2.2
 rw[h1]at h4
 rw[h2];exact h4.2.2.1
theorem Hp.none_of_le{h h':Hp}{b:Nat}(hl:h.le h')(hb:h' b=none):h b=none:=by
 cases hk:h b with
 | none=>rfl
 | some B=>rw[hl _ _ hk]at hb;cases hb
theorem Fresh.le{h h':Hp}{z:Sl}(hf:Fresh h' z)(hl:h.le h'):Fresh h z:=λa ha=>Hp.none_of_le hl (hf a ha)
theorem Fresh.ne{h:Hp}{z:Sl}{b:Nat}(hf:Fresh h z)(hb:h b≠none):∀a,z.a=some a->a.block≠b:=λa ha hh=>hb (by rw[<-hh];exact hf a ha)
theorem zcu{l:List Nat}(hl:okW l)(i:Nat):l.getD i 0<W:=by
 rw[List.getD_eq_getElem?_getD]
 rcases Nat.lt_or_ge i l.length with h | h
 . rw[List.getElem?_eq_getElem h];exact zbo hl h
 . rw[List.getElem?_eq_none h];exact W_pos
theorem zg5{l:List Nat}{i:Nat}(hi:i<l.length):l.getD i 0=l[i]:=by
 rw[List.getD_eq_getElem?_getD,List.getElem?_eq_getElem hi];rfl
theorem zel{l:List Nat}{i:Nat}(hi:l.length<=i):l.getD i 0=0:=by
 rw[List.getD_eq_getElem?_getD,List.getElem?_eq_none hi];rfl
theorem zi7(l:List Nat)(i:Nat):vl (l.take (i+1))=vl (l.take i)+W ^ i*l.getD i 0:=by
 rcases Nat.lt_or_ge i l.length with h | h
 . rw[zan h,zg5 h]
 . rw[zel h,List.take_of_length_le (by omega),List.take_of_length_le h];simp
theorem zdn{r:List Nat}{k v:Nat}(hk:k<r.length):vl ((r.set k v).take (k+1))=vl (r.take k)+W ^ k*v:=by
 rw[zan (by simpa using hk),List.getElem_set_self]
 congr 2
 apply List.ext_getElem
 . simp
 . intro i h1 h2
   simp only[List.length_take]at h1 h2
   simp only[List.getElem_take]
   rw[List.getElem_set_ne (by omega)]
section
variable {h : Hp} {x y : Sl} {l m : List Nat} {Ks : Sl → Hp → Prop} {Ki : Int → Hp → Prop} {Kb : Bool → Hp → Prop} {KI : TInt → Hp → Prop}
theorem zaoo(hx:RdW h x l)(hy:RdW h y m)(ol:okW l)(om:okW m)(hl:l.length<=17592186044400)(hm:m.length<=17592186044400)
 (H:∀z h' r,h.le h'->RdW h' z r->okW r->vl r=vl l+vl m->r.length<=l.length+m.length+1->Ks z h'):F.zem x y Ks h:=by
 unfold F.zem
 have lx:=hx.len
 have ly:=hy.len
 refine za9 (λst h'=>h'=h/\∃p q,RdW h st.1 p/\RdW h st.2.1 q/\okW p/\okW q/\q.length<=p.length/\p.length+q.length=l.length+m.length/\vl p+vl q=vl l+vl m) ?_ ?_
 . rintro⟨sx,sy,_⟩ h0 ⟨rfl,p,q,hp,hq,op,oq,hqp,hlen,hv⟩
   simp only at hp hq |-
   have lp:=hp.len
   have lq:=hq.len
   refine zeo 0 (p.length+1) rfl (by rw[lp,w64 (by omega)];omega) (by omega) (by omega) λw h1 hw hw2=>?_
   refine zaa (λst h'=>∃(w:Sl) (c i:Nat) (r:List Nat),st=(w,(c:Int),(i:Int),())/\i<=p.length/\c<=1/\OwnW h0 h' w r/\okW r/\r.length=i/\vl r+W ^ i*c=vl (p.take i)+vl (q.take i))
    (λst=>((p.length:Int)-st.2.2.1).toNat) ⟨w,0,0,[],rfl,Nat.zero_le _,by omega,hw2,zapn,rfl,by simp[vl]⟩ ?_
   rintro st h2 ⟨w,c,i,r,rfl,hi,hc,ho,okr,hrl,hv2⟩
   refine za5 (λh3=>?_) (λh3=>?_)
   . have hi':i<p.length:=by have:(i:Int)<(sx.len:Int):=h3;omega
     have hpx:=zbo op hi'
     have hqx:=zcu oq i
     refine zad i (hp.le ho.1) rfl hi' λa ha=>⟨_,ha,?_⟩
     refine za9 (λs h4=>h4=h2/\s=(((c+p[i]+q.getD i 0:Nat):Int),())) ?_ ?_
     . rintro _ h4 ⟨rfl,rfl⟩
       simp only
       refine zady _ ho (u32n _) (by omega) λw5 h5 ho5=>⟨by decide,?_⟩
       rw[shr32]
       refine⟨⟨w5,_,i+1,_,by rw[w64 (by omega)];rfl,by omega,?_,ho5,za91 okr (λd hd=>?_),by simp[hrl],?_⟩,by rw[w64 (by omega)];omega⟩
       . unfold W at *;omega
       . rw[List.mem_singleton.1 hd];exact Nat.mod_lt _ W_pos
       . rw[zmd,zan hi',zi7,hrl]
         have e2:=Nat.mod_add_div (c+p[i]+q.getD i 0) W
         simp only[vl,Nat.mul_zero,Nat.add_zero,Nat.pow_succ]
         generalize (c+p[i]+q.getD i 0) % W=rr at *
         generalize (c+p[i]+q.getD i 0)/W=qq at *
         generalize W ^ i=P at *
         generalize p[i]=pp at *
         generalize q.getD i 0=q0 at *
         generalize vl (p.take i)=A at *
         generalize vl (q.take i)=B at *
         generalize vl r=R at *
         clear H
         grind
     . refine za5 (λh4=>?_) (λh4=>?_)
       . have hi2:i<q.length:=by have:(i:Int)<(sy.len:Int):=h4;omega
         refine zad i (hq.le ho.1) rfl hi2 λa2 ha2=>⟨_,ha2,?_⟩
         refine⟨rfl,?_⟩
         rw[zg5 hi2]at hqx |-
         simp only
         unfold W at *
         congr 1
         simp only[wu64e];omega
       . have hi2:q.length<=i:=by have:¬(i:Int)<(sy.len:Int):=h4;omega
         refine⟨rfl,?_⟩
         rw[zel hi2]
         simp only
         unfold W at *
         congr 1
         simp only[wu64e];omega
   . have hi':i=p.length:=by have:¬(i:Int)<(sx.len:Int):=h3;omega
     rw[List.take_of_length_le (by omega),List.take_of_length_le (by omega)]at hv2
     refine za5 (λh4=>?_) (λh4=>?_)
     . have hc1:c=1:=by have:(c:Int)>0:=h4;omega
       subst hc1
       refine zady 1 ho (by simp only;decide) (by omega) λw5 h5 ho5=>?_
       refine H _ _ _ ho5.1 ho5.rdW (za91 okr (λd hd=>by rw[List.mem_singleton.1 hd];decide)) ?_ (by simp;omega)
       rw[zmd,hrl]
       simp only[vl,Nat.mul_zero,Nat.add_zero]
       omega
     . have hc0:c=0:=by have:¬(c:Int)>0:=h4;omega
       subst hc0
       exact H _ _ _ ho.1 ho.rdW okr (by omega) (by omega)
 . refine za5 (λh1=>?_) (λh1=>?_)
   . exact⟨rfl,m,l,hy,hx,om,ol,by omega,by omega,by omega⟩
   . exact⟨rfl,l,m,hx,hy,ol,om,by omega,by omega,by omega⟩
theorem za96(hx:RdW h x l)(hy:RdW h y m)(ol:okW l)(om:okW m)(hl:l.length<=17592186044400)(hm:m.length<=17592186044400)
 (H:∀z h' r,h.le h'->RdW h' z r->okW r->vl r=vl l+vl m->r.length<=l.length+m.length+1->Ks z h'):callP (F.zem x y) Ks h:=
 za3 (λz h'=>∃r,RdW h' z r/\okW r/\vl r=vl l+vl m/\r.length<=l.length+m.length+1)
  (λK' hk=>zaoo hx hy ol om hl hm λz h' r h1 h2 h3 h4 h5=>hk _ _ h1 ⟨r,h2,h3,h4,h5⟩) λz h' h1 ⟨r,h2,h3,h4,h5⟩=>H z h' r h1 h2 h3 h4 h5
theorem zan2(hx:RdW h x l)(hy:RdW h y m)(ol:okW l)(om:okW m)(hl:l.length<=17592186044400)(hm:m.length<=17592186044400)
 (H:∀z h',h.le h'->RdW h' z (dg (vl l+vl m))->Ks z h'):F.zk0 x y Ks h:=by
 unfold F.zk0
 have lx:=hx.len
 have ly:=hy.len
 refine za9 (λst h'=>h'=h/\∃p q,RdW h st.1 p/\RdW h st.2.1 q/\okW p/\okW q/\q.length<=p.length/\p.length+q.length=l.length+m.length/\vl p+vl q=vl l+vl m) ?_ ?_
 . rintro⟨sx,sy,_⟩ h0 ⟨rfl,p,q,hp,hq,op,oq,hqp,hlen,hv⟩
   simp only at hp hq |-
   have lp:=hp.len
   have lq:=hq.len
   refine zeo (p.length+1) (p.length+1) (by rw[lp,w64 (by omega)];omega) (by rw[lp,w64 (by omega)];omega) (by omega) (by omega) λw h1 hw hw2=>?_
   refine zaa (λst h'=>∃(c i:Nat) (r:List Nat),st=((c:Int),(i:Int),())/\i<=p.length/\c<=1/\OwnW h0 h' w r/\okW r/\r.length=p.length+1/\vl (r.take i)+W ^ i*c=vl (p.take i)+vl (q.take i))
    (λst=>((p.length:Int)-st.2.1).toNat) ⟨0,0,_,rfl,Nat.zero_le _,by omega,hw2,zjw _,by simp,by simp[vl]⟩ ?_
   rintro st h2 ⟨c,i,r,rfl,hi,hc,ho,okr,hrl,hv2⟩
   refine za5 (λh3=>?_) (λh3=>?_)
   . have hi':i<p.length:=by have:(i:Int)<(sx.len:Int):=h3;omega
     have hpx:=zbo op hi'
     have hqx:=zcu oq i
     refine zad i (hp.le ho.1) rfl hi' λa ha=>⟨_,ha,?_⟩
     refine za9 (λs h4=>h4=h2/\s=(((c+p[i]+q.getD i 0:Nat):Int),())) ?_ ?_
     . rintro _ h4 ⟨rfl,rfl⟩
       simp only
       refine zdx i _ ho rfl (by omega) (u32n _) λh5 b5 _ _ _ ho5=>⟨by decide,?_⟩
       rw[shr32]
       refine⟨⟨_,i+1,_,by rw[w64 (by omega)];rfl,by omega,?_,ho5,zdh okr (Nat.mod_lt _ W_pos),by simp[hrl],?_⟩,by rw[w64 (by omega)];omega⟩
       . unfold W at *;omega
       . rw[zdn (by omega),zan hi',zi7]
         have e2:=Nat.mod_add_div (c+p[i]+q.getD i 0) W
         simp only[Nat.pow_succ]
         generalize (c+p[i]+q.getD i 0) % W=rr at *
         generalize (c+p[i]+q.getD i 0)/W=qq at *
         generalize W ^ i=P at *
         generalize p[i]=pp at *
         generalize q.getD i 0=q0 at *
         generalize vl (p.take i)=A at *
         generalize vl (q.take i)=B at *
         generalize vl (r.take i)=R at *
         clear H
         grind
     . refine za5 (λh4=>?_) (λh4=>?_)
       . have hi2:i<q.length:=by have:(i:Int)<(sy.len:Int):=h4;omega
         refine zad i (hq.le ho.1) rfl hi2 λa2 ha2=>⟨_,ha2,?_⟩
         refine⟨rfl,?_⟩
         rw[zg5 hi2]at hqx |-
         simp only
         unfold W at *
         congr 1
         simp only[wu64e];omega
       . have hi2:q.length<=i:=by have:¬(i:Int)<(sy.len:Int):=h4;omega
         refine⟨rfl,?_⟩
         rw[zel hi2]
         simp only
         unfold W at *
         congr 1
         simp only[wu64e];omega
   . have hi':i=p.length:=by have:¬(i:Int)<(sx.len:Int):=h3;omega
     subst hi'
     rw[List.take_of_length_le (l:=p) (by omega),List.take_of_length_le (l:=q) (by omega)]at hv2
     refine zdx p.length c ho (by rw[lp]) (by omega) (by rw[u32n,Nat.mod_eq_of_lt (by unfold W;omega)]) λh5 b5 _ _ _ ho5=>?_
     have okr5:okW (r.set p.length c):=zdh okr (by unfold W;omega)
     refine zck ho5.rdW (by simp;omega) λz hz=>?_
     rw[zar okr5]at hz
     have e1:=zdn (r:=r) (k:=p.length) (v:=c) (by omega)
     rw[List.take_of_length_le (by simp;omega)]at e1
     rw[e1,hv2,hv]at hz
     exact H _ _ ho5.1 hz
 . refine za5 (λh1=>?_) (λh1=>?_)
   . exact⟨rfl,m,l,hy,hx,om,ol,by omega,by omega,by omega⟩
   . exact⟨rfl,l,m,hx,hy,ol,om,by omega,by omega,by omega⟩
theorem zaie(hx:RdW h x l)(hy:RdW h y m)(ol:okW l)(om:okW m)(hl:l.length<=17592186044400)(hm:m.length<=17592186044400)
 (H:∀z h',h.le h'->RdW h' z (dg (vl l+vl m))->Ks z h'):callP (F.zk0 x y) Ks h:=
 za3 _ (λK'=>zan2 hx hy ol om hl hm) H
theorem za8x{r:List Nat}{b:Nat}(hrl:r.length=l.length)(okr:okW r)(hml:m.length<=l.length)(hle:vl m<=vl l)(hb:b<=1)
 (hv:vl (r.take l.length)+vl (m.take l.length)=vl (l.take l.length)+W ^ l.length*b):vl r=vl l-vl m:=by
 rw[List.take_of_length_le (l:=r) (by omega),List.take_of_length_le hml,List.take_of_length_le (Nat.le_refl _)]at hv
 have h1:=vl_lt okr
 rw[hrl]at h1
 have:b=0:=by
  rcases Nat.eq_zero_or_pos b with h2 | h2
  . exact h2
  . obtain rfl:b=1:=by omega
    omega
 subst this
 omega
theorem zamn(hx:RdW h x l)(hy:RdW h y m)(ol:okW l)(om:okW m)(hl:l.length<=35184372088800)(hml:m.length<=l.length)(hle:vl m<=vl l)
 (H:∀z h',h.le h'->RdW h' z (dg (vl l-vl m))->Ks z h'):F.zd5 x y Ks h:=by
 unfold F.zd5
 have lx:=hx.len
 have ly:=hy.len
 refine zeo l.length l.length (by omega) (by omega) (by omega) (by omega) λw h1 hw hw2=>?_
 refine zaa (λst h'=>∃(c i:Nat) (r:List Nat),st=((c:Int),(i:Int),())/\i<=l.length/\c<=1/\OwnW h h' w r/\okW r/\r.length=l.length/\vl (r.take i)+vl (m.take i)=vl (l.take i)+W ^ i*c)
  (λst=>((l.length:Int)-st.2.1).toNat) ⟨0,0,_,rfl,Nat.zero_le _,by omega,hw2,zjw _,by simp,by simp[vl]⟩ ?_
 rintro st h2 ⟨c,i,r,rfl,hi,hc,ho,okr,hrl,hv2⟩
 refine za5 (λh3=>?_) (λh3=>?_)
 . have hi':i<l.length:=by have:(i:Int)<(x.len:Int):=h3;omega
   have hlx:=zbo ol hi'
   have hmx:=zcu om i
   refine zad i (hx.le ho.1) rfl hi' λa ha=>⟨_,ha,?_⟩
   refine za9 (λs h4=>h4=h2/\∃rr b:Nat,rr<W/\b<=1/\l[i]+W*b=rr+c+m.getD i 0/\u32.wrap s.1=(rr:Int)/\s.1.fdiv (2 ^ (min (63:Int).toNat u64.bits))=(b:Int)) ?_ ?_
   . rintro s h4 ⟨rfl,rr,b,hrr,hb,he,h5,h6⟩
     refine zdx i rr ho rfl (by omega) h5 λh5 b5 _ _ _ ho5=>⟨by decide,?_⟩
     rw[h6]
     refine⟨⟨b,i+1,_,by rw[w64 (by simp only;omega)];rfl,by omega,hb,ho5,zdh okr hrr,by simp[hrl],?_⟩,by simp only;rw[w64 (by omega)];omega⟩
     rw[zdn (by omega),zan hi',zi7,Nat.pow_succ]
     generalize W ^ i=P at *
     generalize l[i]=pp at *
     generalize m.getD i 0=q0 at *
     generalize vl (l.take i)=A at *
     generalize vl (m.take i)=B at *
     generalize vl (r.take i)=R at *
     have e:=congrArg (P*·) he
     simp only[Nat.mul_add]at e
     rw[Nat.mul_assoc]
     omega
   . refine za5 (λh4=>?_) (λh4=>?_)
     . have hi2:i<m.length:=by have:(i:Int)<(y.len:Int):=h4;omega
       refine zad i (hy.le ho.1) rfl hi2 λa2 ha2=>⟨_,ha2,?_⟩
       rw[zg5 hi2]at hmx |-
       exact⟨rfl,sub64 hlx hc hmx⟩
     . have hi2:m.length<=i:=by have:¬(i:Int)<(y.len:Int):=h4;omega
       rw[zel hi2]
       exact⟨rfl,sub64' hlx hc⟩
 . have hi':i=l.length:=by have:¬(i:Int)<(x.len:Int):=h3;omega
   subst hi'
   refine zf1 ho.rdW (by omega) λz hz=>?_
   rw[zar okr,za8x hrl okr hml hle hc hv2]at hz
   exact H _ _ ho.1 hz
theorem zsc(hx:RdW h x l)(hy:RdW h y m)(ol:okW l)(om:okW m)(hl:l.length<=35184372088800)(hml:m.length<=l.length)(hle:vl m<=vl l)
 (H:∀z h',h.le h'->RdW h' z (dg (vl l-vl m))->Ks z h'):callP (F.zd5 x y) Ks h:=
 za3 _ (λK'=>zamn hx hy ol om hl hml hle) H
theorem zaia(hx:RdW h x l)(hy:RdW h y m)(ol:okW l)(om:okW m)(hl:l.length<=35184372088800)(hml:m.length<=l.length)(hle:vl m<=vl l)
 (H:∀z h',h.le h'->RdW h' z (dg (vl l-vl m))->Fresh h z->Ks z h'):F.zd1 x y Ks h:=by
 unfold F.zd1
 have lx:=hx.len
 have ly:=hy.len
 refine zeo l.length l.length (by omega) (by omega) (by omega) (by omega) λw h1 hw hw2=>?_
 refine zaa (λst h'=>∃(c i:Nat) (r:List Nat),st=((c:Int),(i:Int),())/\i<=l.length/\c<=1/\OwnW h h' w r/\okW r/\r.length=l.length/\vl (r.take i)+vl (m.take i)=vl (l.take i)+W ^ i*c)
  (λst=>((l.length:Int)-st.2.1).toNat) ⟨0,0,_,rfl,Nat.zero_le _,by omega,hw2,zjw _,by simp,by simp[vl]⟩ ?_
 rintro st h2 ⟨c,i,r,rfl,hi,hc,ho,okr,hrl,hv2⟩
 refine za5 (λh3=>?_) (λh3=>?_)
 . have hi':i<l.length:=by have:(i:Int)<(x.len:Int):=h3;omega
   have hlx:=zbo ol hi'
   have hmx:=zcu om i
   refine za9 (λs h4=>h4=h2/\s=(((m.getD i 0:Nat):Int),())) ?_ ?_
   . rintro _ h4 ⟨rfl,rfl⟩
     refine zad i (hx.le ho.1) rfl hi' λa ha=>⟨_,ha,?_⟩
     simp only
     obtain⟨rr,b,hrr,hb,he,h5,h6⟩:=sub32 hlx hc hmx
     refine zdx i rr ho rfl (by omega) h5 λh5 b5 _ _ _ ho5=>⟨by decide,?_⟩
     rw[h6]
     refine⟨⟨b,i+1,_,by rw[w64 (by omega)];rfl,by omega,hb,ho5,zdh okr hrr,by simp[hrl],?_⟩,by rw[w64 (by omega)];omega⟩
     rw[zdn (by omega),zan hi',zi7,Nat.pow_succ]
     generalize W ^ i=P at *
     generalize l[i]=pp at *
     generalize m.getD i 0=q0 at *
     generalize vl (l.take i)=A at *
     generalize vl (m.take i)=B at *
     generalize vl (r.take i)=R at *
     have e:=congrArg (P*·) he
     simp only[Nat.mul_add]at e
     rw[Nat.mul_assoc]
     omega
   . refine za5 (λh4=>?_) (λh4=>?_)
     . have hi2:i<m.length:=by have:(i:Int)<(y.len:Int):=h4;omega
       refine zad i (hy.le ho.1) rfl hi2 λa2 ha2=>⟨_,ha2,?_⟩
       rw[zg5 hi2]at hmx |-
       exact⟨rfl,by rw[u64n (by unfold W at *;omega)]⟩
     . have hi2:m.length<=i:=by have:¬(i:Int)<(y.len:Int):=h4;omega
       rw[zel hi2]
       exact⟨rfl,rfl⟩
 . have hi':i=l.length:=by have:¬(i:Int)<(x.len:Int):=h3;omega
   subst hi'
   refine zou ho.rdW (by omega) λz hz hs=>?_
   rw[zar okr,za8x hrl okr hml hle hc hv2]at hz
   exact H _ _ ho.1 hz (Fresh.of ho hs)
theorem zn0(hx:RdW h x l)(hy:RdW h y m)(ol:okW l)(om:okW m)(hl:l.length<=35184372088800)(hml:m.length<=l.length)(hle:vl m<=vl l)
 (H:∀z h',h.le h'->RdW h' z (dg (vl l-vl m))->Fresh h z->Ks z h'):callP (F.zd1 x y) Ks h:=
 za3 (λz h'=>RdW h' z (dg (vl l-vl m))/\Fresh h z) (λK' hk=>zaia hx hy ol om hl hml hle λz h' h1 h2 h3=>hk z h' h1 ⟨h2,h3⟩) λz h' h1 ⟨h2,h3⟩=>H z h' h1 h2 h3
theorem zx7(hx:RdW h x l)(hy:RdW h y m)(ol:okW l)(om:okW m)(hl:l.length<=35184372088800)(hml:m.length<=l.length)(hle:vl m<=vl l)
 (H:∀z h',h.le h'->RdW h' z (dg (vl l-vl m))->Ks z h'):callP (F.zd1 x y) Ks h:=
 zn0 hx hy ol om hl hml hle λz h' h1 h2 _=>H z h' h1 h2
theorem zank(hx:RdW h x l)(hy:RdW h y m)(ol:okW l)(om:okW m)(hl:l.length+m.length<=35184372088800)
 (H:∀z h',h.le h'->RdW h' z (dg (vl l*vl m))->Ks z h'):F.zf9 x y Ks h:=by
 unfold F.zf9
 have lx:=hx.len
 have ly:=hy.len
 refine za9 (λ_ h'=>h'=h) ?_ ?_
 . rintro _ h' rfl
   refine zeo (l.length+m.length) (l.length+m.length) (by rw[w64 (by omega)];omega) (by rw[w64 (by omega)];omega) (by omega) (by omega) λw h1 hw hw2=>?_
   refine zaix (Kf:=λw h3=>callP (F.za8 w) (λr h7=>Ks r h7) h3) (hx) (hy) ol om hl hw2 λh3 r ho okr hrl hv=>?_
   refine zf1 ho.rdW (by omega) λz hz=>?_
   rw[zar okr,hv]at hz
   exact H _ _ ho.1 hz
 . refine zbl (λh1=>?_) (λh1=>zbl (λh2=>?_) (λh2=>rfl))
   . have:l=[]:=List.length_eq_zero_iff.1 (by omega)
     subst this
     refine H _ _ (Hp.le_refl _) ?_
     simp only[vl,Nat.zero_mul,zbg]
     exact RdW.nil
   . have:m=[]:=List.length_eq_zero_iff.1 (by omega)
     subst this
     refine H _ _ (Hp.le_refl _) ?_
     simp only[vl,Nat.mul_zero,zbg]
     exact RdW.nil
theorem zaiw(hx:RdW h x l)(hy:RdW h y m)(ol:okW l)(om:okW m)(hl:l.length+m.length<=35184372088800)
 (H:∀z h',h.le h'->RdW h' z (dg (vl l*vl m))->Ks z h'):callP (F.zf9 x y) Ks h:=
 za3 _ (λK'=>zank hx hy ol om hl) H
theorem rmac{c x y z:Nat}(hc:c<W)(hx:x<W)(hy:y<W)(hz:z<W) :
 u64.wrap (u64.wrap ((c:Int)+u64.wrap (z:Int))+u64.wrap (u64.wrap (x:Int)*u64.wrap (y:Int)))=((c+(x*y+z):Nat):Int):=by
 unfold W at *
 have hxy:x*y<=4294967295*4294967295:=Nat.mul_le_mul (by omega) (by omega)
 rw[u64n (n:=x) (by omega),u64n (n:=y) (by omega),u64n (n:=z) (by omega)]
 rw[show((x:Int)*(y:Int))=((x*y:Nat):Int)by simp,u64n (n:=x*y) (by omega)]
 rw[show((c:Int)+(z:Int))=((c+z:Nat):Int)by simp,u64n (n:=c+z) (by omega)]
 rw[show(((c+z:Nat):Int)+((x*y:Nat):Int))=((c+(x*y+z):Nat):Int)by omega,u64n (by omega)]
theorem zaij{a b:Sl}{la lb:List Nat}(ha:RdW h a la)(hb:RdW h b lb)(oa:okW la)(ob:okW lb)(hl:la.length+lb.length<=35184372088800)
 (H:∀z h',h.le h'->RdW h' z (dg (vl la*vl lb))->Fresh h z->Ks z h'):F.zeh a b Ks h:=by
 unfold F.zeh
 have hal:=ha.len
 have hbl:=hb.len
 refine zeo (la.length+lb.length) (la.length+lb.length) (by rw[w64 (by omega)];omega) (by rw[w64 (by omega)];omega) (by omega) (by omega) λx h1 hw ho=>?_
 refine zaa (λst h'=>∃(i:Nat) (l:List Nat),st=((i:Int),())/\i<=la.length/\OwnW h h' x l/\okW l/\l.length=la.length+lb.length/\vl l=vl (la.take i)*vl lb/\∀j (hj:j<l.length),i+lb.length<=j->l[j]=0)
  (λst=>((la.length:Int)-st.1).toNat) ⟨0,_,rfl,Nat.zero_le _,ho,zjw _,by simp,by rw[zaiy];simp[vl],λj hj _=>by simp⟩ ?_
 rintro st h1 ⟨i,l,rfl,hi,ho1,okl,hll,hv,hz⟩
 refine za5 (λh2=>?_) (λh2=>?_)
 . simp only at h2
   have hi':i<la.length:=by omega
   have hxi:=zbo oa hi'
   refine zaa (λst h'=>∃(k c:Nat) (l':List Nat),st=((c:Int),(k:Int),())/\k<=lb.length/\c<W/\OwnW h h' x l'/\okW l'/\l'.length=la.length+lb.length /\
    vl l'+W ^ (i+k)*c=vl l+W ^ i*(la[i]*vl (lb.take k))/\∀j (hj:j<l'.length),i+lb.length<=j->l'[j]=0)
    (λst=>((lb.length:Int)-st.2.1).toNat) ⟨0,0,l,rfl,Nat.zero_le _,by decide,ho1,okl,hll,by simp[vl],hz⟩ ?_
   rintro st h3 ⟨k,c,l',rfl,hk,hc,ho3,okl',hll',hv',hz'⟩
   refine za5 (λh4=>?_) (λh4=>?_)
   . simp only at h4
     have hk':k<lb.length:=by omega
     have hyk:=zbo ob hk'
     have hik:i+k<l'.length:=by omega
     have hzk:=zbo okl' hik
     have wik:i64.wrap ((i:Int)+(k:Int))=((i+k:Nat):Int):=by rw[w64 (by omega)];omega
     simp only
     rw[wik]
     refine zad (i+k) ho3.rdW rfl hik λa2 ha2=>⟨_,ha2,?_⟩
     refine zad i (ha.le ho3.1) rfl hi' λaa haa=>⟨_,haa,?_⟩
     refine zad k (hb.le ho3.1) rfl hk' λa1 ha1=>⟨_,ha1,?_⟩
     simp only
     rw[rmac hc hxi hyk hzk]
     refine zdx (i+k) _ ho3 rfl hik (u32n _) λh5 b5 _ _ _ ho5=>⟨by decide,?_⟩
     rw[shr32]
     refine⟨⟨k+1,_,_,by rw[w64 (by omega)];rfl,by omega,zamm hc hxi hyk hzk,ho5,zdh okl' (Nat.mod_lt _ W_pos),by simp[hll'],?_,?_⟩,by rw[w64 (by omega)];omega⟩
     . have e1:=zn6 (l:=l') (k:=i+k) (v:=(c+(la[i]*lb[k]+l'[i+k])) % W) hik
       have e2:=Nat.mod_add_div (c+(la[i]*lb[k]+l'[i+k])) W
       have e3:=zan hk'
       rw[e3]
       generalize vl (l'.set (i+k) ((c+(la[i]*lb[k]+l'[i+k])) % W))=V at e1 |-
       generalize hr:(c+(la[i]*lb[k]+l'[i+k])) % W=r at *
       generalize hq:(c+(la[i]*lb[k]+l'[i+k]))/W=q at *
       generalize vl l'=V' at *
       generalize vl l=V0 at *
       generalize l'[i+k]=z at *
       generalize la[i]=xx at *
       generalize lb[k]=yy at *
       generalize vl (lb.take k)=T at *
       have p1:W ^ (i+(k+1))=W ^ (i+k)*W:=by rw[<-Nat.add_assoc,Nat.pow_succ]
       have p2:W ^ (i+k)=W ^ i*W ^ k:=Nat.pow_add ..
       rw[p1]
       generalize W ^ (i+k)=P at *
       subst p2
       generalize W ^ i=Pi at *
       generalize W ^ k=Pk at *
       clear H
       grind
     . intro j hj hjl
       rw[List.length_set]at hj
       rw[List.getElem_set_ne (by omega)]
       exact hz' j hj hjl
   . simp only at h4
     have hk':k=lb.length:=by omega
     subst hk'
     have hil:i+lb.length<l'.length:=by omega
     have w1:i64.wrap ((i:Int)+(b.len:Int))=((i+lb.length:Nat):Int):=by rw[hbl,w64 (by omega)];omega
     simp only
     rw[w1]
     refine zdx (i+lb.length) c ho3 rfl hil (by rw[u32n,Nat.mod_eq_of_lt hc]) λh5 b5 _ _ _ ho5=>?_
     refine⟨⟨i+1,_,by rw[w64 (by omega)];rfl,by omega,ho5,zdh okl' hc,by simp[hll'],?_,?_⟩,by rw[w64 (by omega)];omega⟩
     . have e1:=zn6 (l:=l') (k:=i+lb.length) (v:=c) hil
       rw[hz' _ hil (Nat.le_refl _)]at e1
       rw[List.take_of_length_le (Nat.le_refl _)]at hv'
       rw[zan hi',Nat.add_mul]
       rw[Nat.mul_assoc]
       omega
     . intro j hj hjl
       rw[List.length_set]at hj
       rw[List.getElem_set_ne (by omega)]
       exact hz' j hj (by omega)
 . simp only at h2
   have:i=la.length:=by omega
   subst this
   rw[List.take_of_length_le (Nat.le_refl _)]at hv
   refine zou ho1.rdW (by omega) λz hz2 hs=>?_
   rw[zar okl,hv]at hz2
   exact H _ _ ho1.1 hz2 (Fresh.of ho1 hs)
theorem zut(hx:RdW h x l)(hy:RdW h y m)(ol:okW l)(om:okW m)(hl:l.length+m.length<=35184372088800)
 (H:∀z h',h.le h'->RdW h' z (dg (vl l*vl m))->Fresh h z->Ks z h'):callP (F.zeh x y) Ks h:=
 za3 (λz h'=>RdW h' z (dg (vl l*vl m))/\Fresh h z) (λK' hk=>zaij hx hy ol om hl λz h' h1 h2 h3=>hk z h' h1 ⟨h2,h3⟩) λz h' h1 ⟨h2,h3⟩=>H z h' h1 h2 h3
theorem zag6(hx:RdW h x l)(hy:RdW h y m)(ol:okW l)(om:okW m)(hl:l.length+m.length<=35184372088800)
 (H:∀z h',h.le h'->RdW h' z (dg (vl l*vl m))->Ks z h'):callP (F.zeh x y) Ks h:=
 zut hx hy ol om hl λz h' h1 h2 _=>H z h' h1 h2
end
end Den
end

section
namespace Den
open Go Iv
def Ok(n:Int):Prop:=(dg n.natAbs).length<=8796093022208
def Lt(k:Nat)(n:Int):Prop:=n.natAbs<W ^ k
theorem Lt.ok{k:Nat}{n:Int}(h:Lt k n)(hk:k<=8796093022208):Ok n:=Nat.le_trans (zbs.2 h) hk
theorem Lt.mono{k j:Nat}{n:Int}(h:Lt k n)(hk:k<=j):Lt j n:=Nat.lt_of_lt_of_le h (Nat.pow_le_pow_right W_pos hk)
theorem Lt.mul{k j:Nat}{m n:Int}(h:Lt k m)(h2:Lt j n):Lt (k+j) (m*n):=by
 unfold Lt at *
 rw[Int.natAbs_mul,Nat.pow_add]
 exact Nat.mul_lt_mul'' h h2
theorem Lt.neg{k:Nat}{n:Int}(h:Lt k n):Lt k (-n):=by unfold Lt at *;rw[Int.natAbs_neg];exact h
theorem Lt.le{k:Nat}{m n:Int}(h:Lt k m)(h2:n.natAbs<=m.natAbs):Lt k n:=Nat.lt_of_le_of_lt h2 h
theorem Lt.of64{n:Int}(h1:-18446744073709551616<n)(h2:n<18446744073709551616):Lt 2 n:=by
 unfold Lt
 have:W ^ 2=18446744073709551616:=by decide
 rw[this];omega
theorem NI.len{h:Hp}{x:TInt}{n:Int}(hx:NI h x n):x.mag.len=(dg n.natAbs).length:=hx.1.len
theorem NI.len0{h:Hp}{x:TInt}{n:Int}(hx:NI h x n):((x.mag.len:Int)==0)=decide (n=0):=by
 rw[hx.len]
 by_cases h0:n=0
 . subst h0;simp[zbg]
 . have:(dg n.natAbs).length≠0:=λhh=>h0 (by have:=zgz.1 (List.length_eq_zero_iff.1 hh);omega)
   rw[decide_eq_false h0]
   have h2:((dg n.natAbs).length:Int)≠0:=by omega
   simpa using λhh=>h0 (by have:=zgz.1 hh;omega)
theorem za3x{n:Int}:(dg n.natAbs).length=0↔n=0:=by
 rw[List.length_eq_zero_iff,zgz];omega
section
variable {h : Hp} {x y : Sl} {l : List Nat} {m n : Int} {a b : TInt} {Ks : Sl → Hp → Prop} {Ki : Int → Hp → Prop} {Kb : Bool → Hp → Prop} {KI : TInt → Hp → Prop} {KP : (TInt × TInt × Int) → Hp → Prop}
theorem zacf(n:Nat):trimL (dg n)=dg n:=by rw[zar (ok_dg n),vl_dg]
theorem za4w{n:Nat}(hr:RdW h x (dg n))(hl:(dg n).length<=35184372088800)(H:∀y,RdW h y (dg n)->Ks y h):callP (F.za8 x) Ks h:=
 zf1 hr (by omega) λy hy=>H y (by rw[zacf]at hy;exact hy)
theorem zag7{n:Nat}(hr:RdW h x (dg n))(hl:(dg n).length<=35184372088800)(H:∀y,RdW h y (dg n)->Ks y h):callP (F.zak x) Ks h:=
 zck hr (by omega) λy hy=>H y (by rw[zacf]at hy;exact hy)
theorem zp8(ha:NI h a m)(om:(dg m.natAbs).length<=35184372087808)(H:∀y,RdW h y (dg m.natAbs)->Ks y h):callP (F.za8 a.mag) Ks h:=
 za4w ha.1 (Nat.le_trans om (by decide)) H
theorem zuu(ha:NI h a m)(om:(dg m.natAbs).length<=35184372087808)(H:∀y,RdW h y (dg m.natAbs)->Ks y h):callP (F.zak a.mag) Ks h:=
 zag7 ha.1 (Nat.le_trans om (by decide)) H
theorem zd9(ha:NI h a m)(om:Ok m)(H:∀y,RdW h y (dg m.natAbs)->Ks y h):callP (F.za8 a.mag) Ks h:=
 za4w ha.1 (Nat.le_trans om (by decide)) H
theorem zd3{neg:Bool}{k:Nat}(hr:RdW h x (dg k))(hl:(dg k).length<=35184372088800)(H:∀y,NI h y (sg neg k)->KI y h):callP (F.zaf neg x) KI h:=
 zks hr (ok_dg k) (by omega) λy hy=>H y (by rw[vl_dg]at hy;exact hy)
theorem zbj{neg:Bool}{k:Nat}(hr:RdW h x (dg k))(hl:(dg k).length<=35184372088800)(H:∀y,NI h y (sg neg k)->KI y h):callP (F.zat neg x) KI h:=
 zac3 hr (ok_dg k) (by omega) λy hy=>H y (by rw[vl_dg]at hy;exact hy)
theorem sg_of(n:Int):sg (decide (n<0)) n.natAbs=n:=by
 unfold sg
 by_cases h:n<0
 . rw[if_pos (by simpa using h)];omega
 . rw[if_neg (by simpa using h)];omega
theorem zan7(n:Int):sg (!decide (n<0)) n.natAbs=-n:=by
 unfold sg
 by_cases h:n<0
 . rw[if_neg (by simpa using h)];omega
 . rw[if_pos (by simpa using h)];omega
theorem u64neg{n:Int}(h:n<0)(h2:-9223372036854775808<=n):u64.wrap (0-u64.wrap n)=((n.natAbs:Nat):Int):=by
 simp only[wu64e];omega
theorem u64pos{n:Int}(h:¬n<0)(h2:n<=9223372036854775807):u64.wrap n=((n.natAbs:Nat):Int):=by
 simp only[wu64e];omega
theorem dg2{n:Nat}(h:n<18446744073709551616):(dg n).length<=2:=by
 have h2:W ^ 2=18446744073709551616:=by decide
 exact zbs.2 (by rw[h2];exact h)
theorem ziq(h1:-9223372036854775808<=n)(h2:n<=9223372036854775807)(H:∀y h',h.le h'->NI h' y n->KI y h'):callP (F.zc8 n) KI h:=by
 refine za3 _ (λK' hk=>?_) H
 unfold F.zc8
 refine za9 (λs h'=>h'=h/\s=(((n.natAbs:Nat):Int),())) ?_ ?_
 . rintro _ h' ⟨rfl,rfl⟩
   refine zf7 rfl (by omega) λy h1 hl hy=>?_
   have:=dg2 (n:=n.natAbs) (by omega)
   refine zd3 hy (by omega) λz hz=>hk _ _ hl ?_
   rw[sg_of]at hz;exact hz
 . refine za5 (λh3=>⟨rfl,?_⟩) (λh3=>⟨rfl,?_⟩)
   . rw[u64neg h3 h1]
   . rw[u64pos h3 h2]
theorem zl7(h1:-9223372036854775808<=n)(h2:n<=9223372036854775807)(H:∀y h',h.le h'->NI h' y n->KI y h'):callP (F.ze8 n) KI h:=by
 refine za3 _ (λK' hk=>?_) H
 unfold F.ze8
 have h5:=dg2 (n:=n.natAbs) (by omega)
 refine za5 (λh3=>?_) (λh3=>?_)
 . rw[u64neg h3 h1]
   refine zk5 rfl (by omega) λy h1 hl hy=>?_
   refine zbj hy (by omega) λz hz=>hk _ _ hl ?_
   have:sg true n.natAbs=n:=by unfold sg;simp;omega
   rw[this]at hz;exact hz
 . rw[u64pos h3 h2]
   refine zk5 rfl (by omega) λy h1 hl hy=>?_
   refine zbj hy (by omega) λz hz=>hk _ _ hl ?_
   have:sg false n.natAbs=n:=by unfold sg;simp;omega
   rw[this]at hz;exact hz
theorem zagz(ha:NI h a m)(om:(dg m.natAbs).length<=35184372087808)(H:Ki m.sign h):callP (F.zdq a) Ki h:=by
 refine zao _ (λK' hk=>?_) H
 unfold F.zdq
 refine zp8 ha om λy hy=>?_
 have hl:=hy.len
 refine zbl (λh1=>?_) (λh1=>?_)
 . have:m=0:=za3x.1 (by omega)
   subst this;exact hk
 . have:m≠0:=λh0=>h1 (by subst h0;rw[hl];simp[zbg])
   rw[ha.2]
   refine za5 (λh2=>?_) (λh2=>?_)
   . rw[Int.sign_eq_neg_one_of_neg h2]at hk;exact hk
   . rw[Int.sign_eq_one_of_pos (by omega)]at hk;exact hk
theorem zx3(ha:NI h a m)(om:(dg m.natAbs).length<=35184372087808)(H:∀y,NI h y m->KI y h):callP (F.zci a) KI h:=by
 refine zlp _ (λK' hk=>?_) H
 unfold F.zci
 refine zbj ha.1 (Nat.le_trans om (by decide)) λy hy=>hk y ?_
 rw[ha.2,sg_of]at hy;exact hy
theorem zx5(ha:NI h a m)(om:(dg m.natAbs).length<=35184372087808)(H:Ki m.sign h):callP (F.zdw a) Ki h:=by
 refine zao _ (λK' hk=>?_) H
 unfold F.zdw
 refine zx3 ha om λy hy=>?_
 have hl:=hy.len
 refine zbl (λh1=>?_) (λh1=>?_)
 . have:m=0:=za3x.1 (by omega)
   subst this;exact hk
 . have:m≠0:=λh0=>h1 (by subst h0;rw[hl];simp[zbg])
   rw[hy.2]
   refine za5 (λh2=>?_) (λh2=>?_)
   . rw[Int.sign_eq_neg_one_of_neg h2]at hk;exact hk
   . rw[Int.sign_eq_one_of_pos (by omega)]at hk;exact hk
theorem zvg(ha:NI h a m)(om:Ok m)(H:Ki m.sign h):callP (F.zdq a) Ki h:=zagz ha (Nat.le_trans om (by decide)) H
theorem zh5(ha:NI h a m)(om:Ok m)(H:∀y,NI h y m->KI y h):callP (F.zci a) KI h:=zx3 ha (Nat.le_trans om (by decide)) H
theorem zmr(ha:NI h a m)(om:Ok m)(H:Ki m.sign h):callP (F.zdw a) Ki h:=zx5 ha (Nat.le_trans om (by decide)) H
theorem zad1(ha:NI h a m)(om:Ok m)(H:∀y h',h.le h'->NI h' y (-m)->KI y h'):callP (F.zhz a) KI h:=by
 refine za3 _ (λK' hk=>?_) H
 unfold F.zhz
 refine zd9 ha om λy hy=>zmg hy (Nat.le_trans om (by decide)) λz h1 hl hz=>zd3 hz (Nat.le_trans om (by decide)) λw hw=>hk _ _ hl ?_
 rw[ha.2,zan7]at hw;exact hw
theorem za8m(ha:NI h a m)(om:Ok m)(H:∀y h',h.le h'->NI h' y m->KI y h'):callP (F.zg7 a) KI h:=by
 refine za3 _ (λK' hk=>?_) H
 unfold F.zg7
 refine zd9 ha om λy hy=>zmg hy (Nat.le_trans om (by decide)) λz h1 hl hz=>zd3 hz (Nat.le_trans om (by decide)) λw hw=>hk _ _ hl ?_
 rw[ha.2,sg_of]at hw;exact hw
theorem za98(ha:NI h a m)(om:Ok m)(H:∀y,NI h y (-m)->KI y h):callP (F.zm0 a) KI h:=by
 refine zlp _ (λK' hk=>?_) H
 unfold F.zm0
 refine zbj ha.1 (Nat.le_trans om (by decide)) λy hy=>hk y ?_
 rw[ha.2,zan7]at hy;exact hy
theorem zan6(m n:Int):sg (!(decide (m<0)==decide (n<0))) (m.natAbs*n.natAbs)=m*n:=by
 unfold sg
 rw[<-Int.natAbs_mul]
 by_cases h1:m<0<;>by_cases h2:n<0<;>simp[h1,h2]
 . have:=Int.mul_pos_of_neg_of_neg h1 h2
   omega
 . have:=Int.mul_nonpos_of_nonpos_of_nonneg (a:=m) (b:=n) (by omega) (by omega)
   omega
 . have:=Int.mul_nonpos_of_nonneg_of_nonpos (a:=m) (b:=n) (by omega) (by omega)
   omega
 . have:=Int.mul_nonneg (a:=m) (b:=n) (by omega) (by omega)
   omega
theorem zaoh{m n k:Nat}(om:(dg m).length<=k)(on:(dg n).length<=k):(dg (m*n)).length<=k+k:=by
 refine zbs.2 ?_
 rw[Nat.pow_add]
 exact Nat.mul_lt_mul'' (zbs.1 om) (zbs.1 on)
theorem zamq{m n:Int}(om:Ok m)(on:Ok n):(dg (m.natAbs*n.natAbs)).length<=35184372088800:=
 Nat.le_trans (zaoh om on) (by decide)
theorem zf4(ha:NI h a m)(hb:NI h b n)(om:Ok m)(on:Ok n)(H:∀y h',h.le h'->NI h' y (m*n)->KI y h'):callP (F.zbf a b) KI h:=by
 refine za3 _ (λK' hk=>?_) H
 unfold F.zbf
 have om':(dg m.natAbs).length<=8796093022208:=om
 have on':(dg n.natAbs).length<=8796093022208:=on
 refine zd9 ha om λy hy=>zd9 hb on λz hz=>zaiw hy hz (ok_dg _) (ok_dg _) (by omega) λw h1 hl hw=>?_
 rw[vl_dg,vl_dg]at hw
 refine zd3 hw (zamq om on) λw2 hw2=>hk _ _ hl ?_
 rw[ha.2,hb.2,zan6]at hw2;exact hw2
theorem zcq(ha:NI h a m)(hb:NI h b n)(om:Ok m)(on:Ok n)(H:∀y h',h.le h'->NI h' y (m*n)->KI y h'):callP (F.zbw a b) KI h:=by
 refine za3 _ (λK' hk=>?_) H
 unfold F.zbw
 have om':(dg m.natAbs).length<=8796093022208:=om
 have on':(dg n.natAbs).length<=8796093022208:=on
 refine zh5 ha om λy hy=>zh5 hb on λz hz=>zag6 hy.1 hz.1 (ok_dg _) (ok_dg _) (by omega) λw h1 hl hw=>?_
 rw[vl_dg,vl_dg]at hw
 refine zbj hw (zamq om on) λw2 hw2=>hk _ _ hl ?_
 rw[hy.2,hz.2,zan6]at hw2;exact hw2
theorem zcs{m n:Nat}(h:m<=n):(dg m).length<=(dg n).length:=zbs.2 (Nat.lt_of_le_of_lt h (zbs.1 (Nat.le_refl _)))
theorem zanz{m n k:Nat}(om:(dg m).length<=k)(on:(dg n).length<=k):(dg (m+n)).length<=k+1:=by
 refine zbs.2 ?_
 have h1:=zbs.1 om
 have h2:=zbs.1 on
 rw[Nat.pow_succ]
 have:W ^ k*2<=W ^ k*W:=Nat.mul_le_mul_left _ (by decide)
 omega
theorem zap9{m n:Nat}(om:(dg m).length<=8796093022208)(on:(dg n).length<=8796093022208):(dg (m+n)).length<=35184372088800:=
 Nat.le_trans (zanz om on) (by decide)
theorem zajo{m n:Int}(h:decide (m<0)=decide (n<0)):sg (decide (m<0)) (m.natAbs+n.natAbs)=m+n:=by
 unfold sg
 by_cases h1:m<0<;>by_cases h2:n<0<;>simp[h1,h2]at h |-<;>omega
theorem za0i{m n:Int}(h:decide (m<0)≠decide (n<0))(hle:n.natAbs<=m.natAbs):sg (decide (m<0)) (m.natAbs-n.natAbs)=m+n:=by
 unfold sg
 by_cases h1:m<0<;>by_cases h2:n<0<;>simp[h1,h2]at h |-<;>omega
theorem za4n{m n:Nat}(om:(dg m).length<=8796093022208):(dg (m-n)).length<=35184372088800:=by
 have:=zcs (Nat.sub_le m n);omega
theorem zacz(ha:NI h a m)(hb:NI h b n)(om:Ok m)(on:Ok n)(H:∀y h',h.le h'->NI h' y (m+n)->KI y h'):callP (F.zhx a b) KI h:=by
 refine za3 _ (λK' hk=>?_) H
 unfold F.zhx
 have om':(dg m.natAbs).length<=8796093022208:=om
 have on':(dg n.natAbs).length<=8796093022208:=on
 refine zd9 ha om λy hy=>zd9 hb on λz hz=>?_
 rw[ha.2,hb.2]
 refine zcp (λh1=>?_) (λh1=>?_)
 . have h1':decide (m<0)=decide (n<0):=by simpa using h1
   refine za96 hy hz (ok_dg _) (ok_dg _) (by omega) (by omega) λw h1 r hl hw ok hv hlen=>?_
   rw[vl_dg,vl_dg]at hv
   refine zks hw ok (by omega) λw2 hw2=>hk _ _ hl ?_
   rw[hv,zajo h1']at hw2;exact hw2
 . have h1':decide (m<0)≠decide (n<0):=by simpa using h1
   refine zmi hy hz (by omega) (by omega) ?_
   unfold cmpN
   by_cases h2:m.natAbs<n.natAbs
   . rw[if_pos h2]
     refine zb1 rfl ?_
     refine zsc hz hy (ok_dg _) (ok_dg _) (by omega) (zcs (by omega)) (by rw[vl_dg,vl_dg];omega) λw h1 hl hw=>?_
     rw[vl_dg,vl_dg]at hw
     refine zd3 hw (za4n on') λw2 hw2=>hk _ _ hl ?_
     rw[za0i (λe=>h1' e.symm) (by omega),Int.add_comm]at hw2;exact hw2
   . rw[if_neg h2]
     refine zab (by split<;>rfl) ?_
     refine zsc hy hz (ok_dg _) (ok_dg _) (by omega) (zcs (by omega)) (by rw[vl_dg,vl_dg];omega) λw h1 hl hw=>?_
     rw[vl_dg,vl_dg]at hw
     refine zd3 hw (za4n om') λw2 hw2=>hk _ _ hl ?_
     rw[za0i h1' (by omega)]at hw2;exact hw2
theorem zlz(ha:NI h a m)(hb:NI h b n)(om:Ok m)(on:Ok n)(H:∀y h',h.le h'->NI h' y (m+n)->KI y h'):callP (F.zfn a b) KI h:=by
 refine za3 _ (λK' hk=>?_) H
 unfold F.zfn
 have om':(dg m.natAbs).length<=8796093022208:=om
 have on':(dg n.natAbs).length<=8796093022208:=on
 refine zh5 ha om λy hy=>zh5 hb on λz hz=>?_
 rw[hy.2,hz.2]
 refine zcp (λh1=>?_) (λh1=>?_)
 . have h1':decide (m<0)=decide (n<0):=by simpa using h1
   refine zaie hy.1 hz.1 (ok_dg _) (ok_dg _) (by omega) (by omega) λw h1 hl hw=>?_
   rw[vl_dg,vl_dg]at hw
   refine zbj hw (zap9 om' on') λw2 hw2=>hk _ _ hl ?_
   rw[zajo h1']at hw2;exact hw2
 . have h1':decide (m<0)≠decide (n<0):=by simpa using h1
   refine zl8 hy.1 hz.1 (by omega) (by omega) ?_
   unfold cmpN
   by_cases h2:m.natAbs<n.natAbs
   . rw[if_pos h2]
     refine zab rfl ?_
     refine zx7 hz.1 hy.1 (ok_dg _) (ok_dg _) (by omega) (zcs (by omega)) (by rw[vl_dg,vl_dg];omega) λw h1 hl hw=>?_
     rw[vl_dg,vl_dg]at hw
     refine zbj hw (za4n on') λw2 hw2=>hk _ _ hl ?_
     rw[za0i (λe=>h1' e.symm) (by omega),Int.add_comm]at hw2;exact hw2
   . rw[if_neg h2]
     refine zb1 (by split<;>rfl) ?_
     refine zx7 hy.1 hz.1 (ok_dg _) (ok_dg _) (by omega) (zcs (by omega)) (by rw[vl_dg,vl_dg];omega) λw h1 hl hw=>?_
     rw[vl_dg,vl_dg]at hw
     refine zbj hw (za4n om') λw2 hw2=>hk _ _ hl ?_
     rw[za0i h1' (by omega)]at hw2;exact hw2
theorem Ok.neg{n:Int}(h:Ok n):Ok (-n):=by unfold Ok at *;rw[Int.natAbs_neg];exact h
theorem zw8(ha:NI h a m)(hb:NI h b n)(om:Ok m)(on:Ok n)(H:∀y h',h.le h'->NI h' y (m-n)->KI y h'):callP (F.zj4 a b) KI h:=by
 refine za3 _ (λK' hk=>?_) H
 unfold F.zj4
 refine za98 hb on λy hy=>zlz ha hy om on.neg λz h1 hl hz=>hk _ _ hl ?_
 rw[<-Int.sub_eq_add_neg]at hz;exact hz
theorem zal2(ha:NI h a m)(hb:NI h b n)(om:Ok m)(on:Ok n)(os:Ok (m-n))(H:∀h',h.le h'->Ki (m-n).sign h'):callP (F.zpj a b) Ki h:=by
 refine za3 (λv _=>v=(m-n).sign) (λK' hk=>?_) λv h' hl hv=>by subst hv;exact H h' hl
 unfold F.zpj
 exact zw8 ha hb om on λz h1 hl hz=>zmr hz os (hk _ _ hl rfl)
theorem zanb{m n:Int}(h:m.sign=n.sign):m.sign*cmpN m.natAbs n.natAbs=(m-n).sign:=by
 unfold cmpN
 rcases Int.lt_trichotomy m 0 with h1 | h1 | h1
 . have h2:n<0:=Int.sign_eq_neg_one_iff_neg.1 (by rw[<-h];exact Int.sign_eq_neg_one_of_neg h1)
   rw[Int.sign_eq_neg_one_of_neg h1]
   split
   . rw[Int.sign_eq_one_of_pos (by omega)];rfl
   . split
     . rw[Int.sign_eq_neg_one_of_neg (by omega)];rfl
     . have:m=n:=by omega
       subst this;simp
 . subst h1
   have h2:n=0:=by rw[Int.sign_zero]at h;exact Int.sign_eq_zero_iff_zero.1 h.symm
   subst h2;rfl
 . have h2:0<n:=Int.sign_eq_one_iff_pos.1 (by rw[<-h];exact Int.sign_eq_one_of_pos h1)
   rw[Int.sign_eq_one_of_pos h1]
   split
   . rw[Int.sign_eq_neg_one_of_neg (by omega)];rfl
   . split
     . rw[Int.sign_eq_one_of_pos (by omega)];rfl
     . have:m=n:=by omega
       subst this;simp
theorem zb2(n:Int):n.sign=-1/\n<0\/n.sign=0/\n=0\/n.sign=1/\0<n:=by
 rcases Int.lt_trichotomy n 0 with h1 | h1 | h1
 . exact .inl ⟨Int.sign_eq_neg_one_of_neg h1,h1⟩
 . subst h1;exact .inr (.inl ⟨rfl,rfl⟩)
 . exact .inr (.inr ⟨Int.sign_eq_one_of_pos h1,h1⟩)
theorem zaoq{m n:Int}(h:m.sign≠n.sign):(if m.sign<n.sign then (-1:Int)else if n.sign<m.sign then 1 else 0)=(m-n).sign:=by
 have hm:=zb2 m
 have hn:=zb2 n
 have hd:=zb2 (m-n)
 split
 . omega
 . split<;>omega
theorem zaln(ha:NI h a m)(hb:NI h b n)(om:Ok m)(on:Ok n)(H:Ki (m-n).sign h):callP (F.zkj a b) Ki h:=by
 refine zao _ (λK' hk=>?_) H
 unfold F.zkj
 have om':(dg m.natAbs).length<=8796093022208:=om
 have on':(dg n.natAbs).length<=8796093022208:=on
 refine zvg ha om (zvg hb on ?_)
 refine zoj (λh1=>?_) (λh1=>?_)
 . refine zwm ?_
   rw[zaoq h1];exact hk
 . refine zd9 ha om λy hy=>zd9 hb on λz hz=>zmi hy hz (by omega) (by omega) ?_
   rw[zanb h1]
   have:=zb2 (m-n)
   rw[w64 (by omega)];exact hk
end
end Den
end

section
namespace Den
open Go Iv
theorem tdivn(a b:Nat):((a:Int)).tdiv (b:Int)=((a/b:Nat):Int):=(Int.ofNat_tdiv a b).symm
theorem tmodn(a b:Nat):((a:Int)).tmod (b:Int)=((a % b:Nat):Int):=(Int.ofNat_tmod a b).symm
theorem u32lt{n:Nat}(h:n<W):u32.wrap (n:Int)=(n:Int):=by rw[u32n,Nat.mod_eq_of_lt h]
theorem u64W{n:Nat}(h:n<W):u64.wrap (n:Int)=(n:Int):=u64n (by unfold W at h;omega)
theorem or32k{x y:Nat}(hx:x<W)(hy:y<W):ibits .or .u32 (x:Int) (y:Int)=((x ||| y:Nat):Int):=by
 unfold ibits
 simp only[IntKind.bits]
 have h1:(BitVec.ofInt 32 (x:Int) ||| BitVec.ofInt 32 (y:Int)).toNat=x ||| y:=by
  unfold W at *
  rw[BitVec.ofInt_natCast,BitVec.ofInt_natCast,BitVec.toNat_or,BitVec.toNat_ofNat,BitVec.toNat_ofNat,Nat.mod_eq_of_lt (by omega),Nat.mod_eq_of_lt (by omega)]
 have h2:x ||| y<W:=Nat.or_lt_two_pow (n:=32) hx hy
 exact(congrArg (λz:Nat=>u32.wrap (z:Int)) h1).trans (u32lt h2)
theorem or64k{x y:Nat}(hx:x<18446744073709551616)(hy:y<18446744073709551616):ibits .or .u64 (x:Int) (y:Int)=((x ||| y:Nat):Int):=by
 unfold ibits
 simp only[IntKind.bits]
 have h1:(BitVec.ofInt 64 (x:Int) ||| BitVec.ofInt 64 (y:Int)).toNat=x ||| y:=by
  rw[BitVec.ofInt_natCast,BitVec.ofInt_natCast,BitVec.toNat_or,BitVec.toNat_ofNat,BitVec.toNat_ofNat,Nat.mod_eq_of_lt (by omega),Nat.mod_eq_of_lt (by omega)]
 have h2:x ||| y<18446744073709551616:=Nat.or_lt_two_pow (n:=64) hx hy
 exact(congrArg (λz:Nat=>u64.wrap (z:Int)) h1).trans (u64n h2)
def bl(n:Nat):Nat:=if n=0 then 0 else n.log2+1
theorem bl_lt(n:Nat):n<2 ^ bl n:=by
 unfold bl
 split
 . rename_i h;subst h;decide
 . exact Nat.lt_log2_self
theorem bl_le{n:Nat}(h:n≠0):2 ^ (bl n-1)<=n:=by
 unfold bl
 rw[if_neg h]
 exact Nat.log2_self_le h
theorem zals{n:Nat}(h:n≠0):0<bl n:=by unfold bl;rw[if_neg h];omega
theorem zao2{n b:Nat}(h1:2 ^ b<=n)(h2:n<2 ^ (b+1)):bl n=b+1:=by
 have h0:n≠0:=by have:=Nat.two_pow_pos b;omega
 unfold bl
 rw[if_neg h0]
 have h3:=(Nat.le_log2 h0 (k:=b)).2 h1
 have h4:=(Nat.log2_lt h0 (k:=b+1)).2 h2
 omega
theorem zao3:bl 0=0:=rfl
theorem za2o{n k:Nat}(h:n<2 ^ k):bl n<=k:=by
 unfold bl
 split
 . omega
 . rename_i h0
   have:=(Nat.log2_lt h0 (k:=k)).2 h
   omega
theorem za2p{n k:Nat}(h:2 ^ k<=n):bl n=bl (n/2 ^ k)+k:=by
 have h0:n/2 ^ k≠0:=by
  have:=Nat.div_pos h (Nat.two_pow_pos k);omega
 have h1:=bl_le h0
 have h2:=bl_lt (n/2 ^ k)
 have h3:=zals h0
 obtain⟨b,hb⟩:∃b,bl (n/2 ^ k)=b+1:=⟨bl (n/2 ^ k)-1,by omega⟩
 rw[hb]at h1 h2 |-
 simp only[Nat.add_sub_cancel]at h1
 rw[Nat.le_div_iff_mul_le (Nat.two_pow_pos k),<-Nat.pow_add]at h1
 rw[Nat.div_lt_iff_lt_mul (Nat.two_pow_pos k),<-Nat.pow_add]at h2
 rw[zao2 (b:=b+k) h1 (by rw[show b+k+1=b+1+k by omega];exact h2)]
 omega
theorem zao1{n:Nat}(h:n≠0):bl n=bl (n/2)+1:=by
 by_cases h1:n=1
 . subst h1;decide
 . have:=za2p (n:=n) (k:=1) (by simp;omega)
   simpa using this
section
variable {h : Hp} {x y : Sl} {l m : List Nat} {b : Nat} {Ks : Sl → Hp → Prop} {Ki : Int → Hp → Prop} {Kb : Bool → Hp → Prop} {KI : TInt → Hp → Prop} {Kp : (Sl × Sl) → Hp → Prop} {Kq : (Sl × Int) → Hp → Prop}
theorem zali{r l:List Nat}{b rem j:Nat}(hj:j<l.length)(hrl:r.length=l.length)(hv:vl (l.drop (j+1))=b*vl (r.drop (j+1))+rem) :
 vl (l.drop j)=b*vl ((r.set j ((rem*W+l[j])/b)).drop j)+(rem*W+l[j]) % b:=by
 rw[List.drop_eq_getElem_cons (l:=l) hj,List.drop_eq_getElem_cons (l:=r.set j ((rem*W+l[j])/b)) (by simpa [hrl] using hj),List.getElem_set_self]
 simp only[vl]
 rw[List.drop_set_of_lt (by omega),hv]
 have e:=Nat.div_add_mod (rem*W+l[j]) b
 rw[Nat.mul_add,Nat.mul_add,Nat.mul_comm rem W]at *
 have:W*(b*vl (r.drop (j+1)))=b*(W*vl (r.drop (j+1))):=by rw[<-Nat.mul_assoc,Nat.mul_comm W b,Nat.mul_assoc]
 omega
theorem zaju{b rem w:Nat}(hr:rem<b)(hw:w<W):(rem*W+w)/b<W:=by
 rw[Nat.div_lt_iff_lt_mul (by omega)]
 have:(rem+1)*W<=b*W:=Nat.mul_le_mul_right _ hr
 rw[Nat.add_mul]at this
 rw[Nat.mul_comm W b];omega
theorem zalh{b rem w:Nat}(hr:rem<b)(hb:b<W)(hw:w<W) :
 u32.wrap (u64.wrap ((ibits .or .u64 (u64.wrap ((rem:Int)*2 ^ (min (32:Int).toNat u64.bits))) (u64.wrap (w:Int))).tdiv (u64.wrap (b:Int))))=(((rem*W+w)/b:Nat):Int):=by
 have h1:=zaju hr hw
 rw[or32 (by omega) hw,u64W hb,tdivn,u64W h1,u32lt h1]
theorem zaj3{x:Sl}{l:List Nat}{b:Nat}{m1:Sl}{h h1:Hp}{Kf:Int->Hp->Prop}(hx:RdW h x l)(ol:okW l)(hb:0<b)(hbW:b<W)(hl:l.length<=35184372088800)
 (ho:OwnW h h1 m1 (List.replicate l.length 0)) (H:∀h' r,OwnW h h' m1 r->okW r->r.length=l.length->vl r=vl l/b->Kf ((vl l % b:Nat):Int) h') :
 (loopP (S:=Int×Int×Unit) (λs2 k3 h2=>
   (ifP (decide (s2.2.1>=0))
   (0<=(32:Int) /\
   (idxP x s2.2.1 1 λa4=>
   (ldL (.int .u32) a4 (λx5=>
   (((u64.wrap ((b:Nat):Int)):Int)≠0 /\
   (idxP m1 s2.2.1 1 λa6=>
   (stP a6 [.int .u32 (u32.wrap ((u64.wrap (((ibits .or .u64 (u64.wrap (s2.1*2 ^ (min (32:Int).toNat u64.bits))) (u64.wrap (x5))):Int).tdiv (u64.wrap ((b:Nat):Int))))))] (λh3=>
   (((u64.wrap ((b:Nat):Int)):Int)≠0 /\
   (k3 (((ibits .or .u64 (u64.wrap (s2.1*2 ^ (min (32:Int).toNat u64.bits))) (u64.wrap (x5))):Int).tmod (u64.wrap ((b:Nat):Int)),(i64.wrap (s2.2.1-1)),()) h3))) h2)))) h2)))
   (Kf s2.1 h2)))
   (0,(i64.wrap ((x.len:Int)-1)),()) h1):=by
 have lx:=hx.len
 refine zaa (λst h'=>∃(k rem:Nat) (r:List Nat),st=((rem:Int),(k:Int)-1,())/\k<=l.length/\rem<b/\OwnW h h' m1 r/\okW r/\r.length=l.length/\vl (l.drop k)=b*vl (r.drop k)+rem)
  (λst=>(st.2.1+1).toNat) ⟨l.length,0,_,by rw[lx,w64 (by omega)];rfl,Nat.le_refl _,hb,ho,zjw _,by simp,by rw[List.drop_eq_nil_of_le (Nat.le_refl _),List.drop_eq_nil_of_le (by simp)];rfl⟩ ?_
 rintro st h2 ⟨k,rem,r,rfl,hk,hrem,ho2,okr,hrl,hv⟩
 refine za5 (λh3=>?_) (λh3=>?_)
 . obtain⟨j,rfl⟩:∃j,k=j+1:=⟨k-1,by have:(k:Int)-1>=0:=h3;omega⟩
   have hj:j<l.length:=by omega
   have hw:=zbo ol hj
   have hne:u64.wrap (b:Int)≠0:=by rw[u64W hbW];omega
   have hji:((j+1:Nat):Int)-1=(j:Int):=by omega
   simp only[hji]
   refine⟨by decide,zad j (hx.le ho2.1) rfl hj λa ha=>⟨_,ha,hne,?_⟩⟩
   refine zdx j _ ho2 rfl (by omega) (zalh hrem hbW hw) λh5 b5 _ _ _ ho5=>⟨hne,?_⟩
   rw[or32 (by omega) hw,u64W hbW,tmodn]
   refine⟨⟨j,_,_,by rw[w64 (by omega)],by omega,Nat.mod_lt _ hb,ho5,zdh okr (zaju hrem hw),by simp[hrl],zali hj hrl hv⟩,by rw[w64 (by omega)];omega⟩
 . obtain rfl:k=0:=by have:¬(k:Int)-1>=0:=h3;omega
   simp only[List.drop_zero]at hv
   have e1:vl l/b=vl r:=by rw[hv,Nat.mul_add_div hb,Nat.div_eq_of_lt hrem];omega
   have e2:vl l % b=rem:=by rw[hv,Nat.mul_add_mod,Nat.mod_eq_of_lt hrem]
   have:=H h2 r ho2 okr hrl e1.symm
   rw[e2]at this
   exact this
theorem zzs(hx:RdW h x l)(ol:okW l)(hb:0<b)(hbW:b<W)(hl:l.length<=35184372088800)
 (H:∀z w h',h.le h'->RdW h' z (dg (vl l/b))->RdW h' w (dg (vl l % b))->Kp (z,w) h'):callP (F.zdr x b) Kp h:=by
 refine za3 (λv h'=>RdW h' v.1 (dg (vl l/b))/\RdW h' v.2 (dg (vl l % b))) (λK' hk=>?_) λ⟨z,w⟩ h' hl hz=>H z w h' hl hz.1 hz.2
 unfold F.zdr
 have lx:=hx.len
 refine zeo l.length l.length (by omega) (by omega) (by omega) (by omega) λm1 h1 hw hw2=>?_
 refine zaj3 (Kf:=λ(s:Int) h2=>callP (F.za8 m1) (λr7 h4=>callP (F.zaw s) (λr8 h5=>K' (r7,r8) h5) h4) h2) hx ol hb hbW hl hw2 λh3 r ho okr hrl hv=>?_
 refine zf1 ho.rdW (by omega) λz hz=>?_
 rw[zar okr,hv]at hz
 have:=Nat.mod_lt (vl l) hb
 refine zf7 rfl (by unfold W at hbW;omega) λw h4 hl4 hw4=>hk _ _ (Hp.le_trans ho.1 hl4) ⟨hz.le hl4,hw4⟩
theorem zao4(hx:RdW h x l)(ol:okW l)(hb:0<b)(hbW:b<W)(hl:l.length<=35184372088800)
 (H:∀z h',h.le h'->RdW h' z (dg (vl l/b))->Kq (z,((vl l % b:Nat):Int)) h'):callP (F.zuq x b) Kq h:=by
 refine za3 (λv h'=>RdW h' v.1 (dg (vl l/b))/\v.2=((vl l % b:Nat):Int)) (λK' hk=>?_) λ⟨z,w⟩ h' hl hz=>by
  obtain⟨h1,h2⟩:=hz
  simp only at h1 h2
  subst h2
  exact H z h' hl h1
 unfold F.zuq
 have lx:=hx.len
 refine zeo l.length l.length (by omega) (by omega) (by omega) (by omega) λm1 h1 hw hw2=>?_
 refine zaj3 (Kf:=λ(s:Int) h2=>callP (F.zak m1) (λr7 h4=>K' (r7,u32.wrap s) h4) h2) hx ol hb hbW hl hw2 λh3 r ho okr hrl hv=>?_
 refine zck ho.rdW (by omega) λz hz=>?_
 rw[zar okr,hv]at hz
 have:=Nat.mod_lt (vl l) hb
 exact hk _ _ ho.1 ⟨hz,u32lt (by omega)⟩
theorem minpow{s:Nat}(hs:s<=32):(2:Int) ^ (min ((s:Int)).toNat u64.bits)=((2 ^ s:Nat):Int):=by
 have:min ((s:Int)).toNat u64.bits=s:=by show min s 64=s;omega
 rw[this];simp
theorem minpow32{s:Nat}(hs:s<=32):(2:Int) ^ (min ((s:Int)).toNat u32.bits)=((2 ^ s:Nat):Int):=by
 have:min ((s:Int)).toNat u32.bits=s:=by show min s 32=s;omega
 rw[this];simp
theorem za4b{s:Nat}(hs:s<=32):2 ^ s<=W:=by
 show 2 ^ s<=2 ^ 32
 exact Nat.pow_le_pow_right (by decide) hs
theorem zpf{s:Nat}(hs:s<=32):2 ^ s*2 ^ (32-s)=W:=by
 rw[<-Nat.pow_add,show s+(32-s)=32 by omega];rfl
theorem zac6{s w:Nat}(hs:s<=32)(hw:w<W):u64.wrap (u64.wrap (w:Int)*2 ^ (min ((s:Int)).toNat u64.bits))=((w*2 ^ s:Nat):Int):=by
 rw[minpow hs,u64W hw,show((w:Int)*((2 ^ s:Nat):Int))=((w*2 ^ s:Nat):Int)by simp]
 refine u64n ?_
 have h1:=za4b hs
 have:w*2 ^ s<W*W:=Nat.mul_lt_mul_of_lt_of_le hw h1 W_pos
 unfold W at this;omega
theorem zac5{s w:Nat}(hs:s<=32):w*2 ^ s % W=2 ^ s*(w % 2 ^ (32-s)):=by
 rw[<-zpf hs,Nat.mul_comm w,Nat.mul_mod_mul_left]
theorem zan8{s w:Nat}(hs:s<=32)(hw:w<W):w*2 ^ s/W<2 ^ s:=by
 rw[Nat.div_lt_iff_lt_mul W_pos,Nat.mul_comm]
 exact Nat.mul_lt_mul_of_pos_left hw (Nat.two_pow_pos s)
theorem zai2{s c w:Nat}(hs:s<=32)(hc:c<2 ^ s):c ||| (w*2 ^ s % W)=c+w*2 ^ s % W:=by
 rw[zac5 hs,Nat.or_comm,<-Nat.two_pow_add_eq_or_of_lt hc,Nat.add_comm]
theorem or_lt{s c w:Nat}(hs:s<=32)(hc:c<2 ^ s):c+w*2 ^ s % W<W:=by
 rw[<-zai2 hs hc]
 exact Nat.or_lt_two_pow (n:=32) (Nat.lt_of_lt_of_le hc (za4b hs)) (Nat.mod_lt _ W_pos)
theorem zaps{s:Nat}(hx:RdW h x l)(ol:okW l)(hs:s<=31)(hl:l.length<=35184372088800)
 (H:∀z h' r,OwnW h h' z r->okW r->r.length=l.length+1->vl r=vl l*2 ^ s->Ks z h'):F.zc6 x (s:Int) Ks h:=by
 unfold F.zc6
 have lx:=hx.len
 refine zeo (l.length+1) (l.length+1) (by rw[w64 (by omega)];omega) (by rw[w64 (by omega)];omega) (by omega) (by omega) λm1 h1 hw hw2=>?_
 refine zaa (λst h'=>∃(i:Nat) (r:List Nat),st=((i:Int),())/\i<=l.length/\OwnW h h' m1 r/\okW r/\r.length=l.length+1/\(∃hi:i<r.length,r[i]<2 ^ s)/\vl (r.take (i+1))=vl (l.take i)*2 ^ s)
  (λst=>((l.length:Int)-st.1).toNat) ⟨0,_,rfl,Nat.zero_le _,hw2,zjw _,by simp,⟨by simp,by simpa using Nat.two_pow_pos s⟩,by rw[zan (by simp)];simp[vl]⟩ ?_
 rintro st h2 ⟨i,r,rfl,hi,ho,okr,hrl,⟨hi1,hc⟩,hv⟩
 refine za5 (λh3=>?_) (λh3=>?_)
 . have hi':i<l.length:=by have:(i:Int)<(x.len:Int):=h3;omega
   have hw:=zbo ol hi'
   refine zad i (hx.le ho.1) rfl hi' λa ha=>⟨_,ha,by omega,?_⟩
   refine zad i ho.rdW rfl hi1 λa2 ha2=>⟨_,ha2,?_⟩
   rw[zac6 (by omega) hw,u32n]
   have e1:=zai2 (w:=l[i]) (by omega) hc
   have e2:=or_lt (w:=l[i]) (by omega) hc
   refine zdx i (r[i]+l[i]*2 ^ s % W) ho rfl hi1 ?_ λh5 b5 _ _ _ ho5=>⟨by decide,?_⟩
   . rw[or32k (zbo okr hi1) (Nat.mod_lt _ W_pos),e1]
   . rw[shr32]
     have e3:=zan8 (s:=s) (by omega) hw
     have e4:l[i]*2 ^ s/W<W:=Nat.lt_of_lt_of_le e3 (za4b (by omega))
     refine zdx (i+1) (l[i]*2 ^ s/W) ho5 (by rw[w64 (by omega)];rfl) (by simp;omega) (u32lt e4) λh6 b6 _ _ _ ho6=>?_
     have hlen:i+1<((r.set i (r[i]+l[i]*2 ^ s % W)).set (i+1) (l[i]*2 ^ s/W)).length:=by simp;omega
     refine⟨⟨i+1,_,by rw[w64 (by omega)];rfl,by omega,ho6,zdh (zdh okr e2) e4,by simp[hrl],⟨hlen,by rw[List.getElem_set_self];exact e3⟩,?_⟩,by rw[w64 (by omega)];omega⟩
     rw[zdn (by simp;omega),zdn hi1,zan hi',Nat.add_mul,<-hv,zan hi1,Nat.pow_succ,Nat.mul_add]
     have e:=Nat.mod_add_div (l[i]*2 ^ s) W
     have e5:=congrArg (W ^ i*·) e
     simp only[Nat.mul_add]at e5
     rw[Nat.mul_assoc,Nat.mul_assoc]
     omega
 . have hi':i=l.length:=by have:¬(i:Int)<(x.len:Int):=h3;omega
   subst hi'
   rw[List.take_of_length_le (l:=l) (Nat.le_refl _),List.take_of_length_le (by omega)]at hv
   exact H _ _ r ho okr hrl hv
theorem za4j{s:Nat}(hx:RdW h x l)(ol:okW l)(hs:s<=31)(hl:l.length<=35184372088800)
 (H:∀z h' r,OwnW h h' z r->okW r->r.length=l.length+1->vl r=vl l*2 ^ s->Ks z h'):callP (F.zc6 x (s:Int)) Ks h:=
 za3 (λz h'=>∃r,OwnW h h' z r/\okW r/\r.length=l.length+1/\vl r=vl l*2 ^ s) (λK' hk=>zaps hx ol hs hl λz h' r h1 h2 h3 h4=>hk z h' h1.1 ⟨r,h1,h2,h3,h4⟩) λz h' _ ⟨r,h1,h2,h3,h4⟩=>H z h' r h1 h2 h3 h4
theorem za99{s:Nat}(hx:RdW h x l)(ol:okW l)(hs:s<=31)(hl:l.length<=35184372088800)
 (H:∀z h' r,OwnW h h' z r->okW r->r.length=l.length+1->vl r=vl l*2 ^ s->Ks z h'):callP (F.zhl x (s:Int)) Ks h:=
 za4j hx ol hs hl H
theorem zagc{s u v:Nat}(hs:s<=32)(hu:u<W):(u/2 ^ s) ||| (v*2 ^ (32-s) % W)=u/2 ^ s+2 ^ (32-s)*(v % 2 ^ s):=by
 have h1:u/2 ^ s<2 ^ (32-s):=by
  rw[Nat.div_lt_iff_lt_mul (Nat.two_pow_pos s),Nat.mul_comm,zpf hs];exact hu
 rw[zai2 (by omega) h1,zac5 (by omega),show 32-(32-s)=s by omega]
theorem zaim{s u v:Nat}(hs:s<=32)(hu:u<W):u/2 ^ s+2 ^ (32-s)*(v % 2 ^ s)<W:=by
 rw[<-zagc hs hu]
 exact Nat.or_lt_two_pow (n:=32) (Nat.lt_of_le_of_lt (Nat.div_le_self _ _) hu) (Nat.mod_lt _ W_pos)
theorem zagb{r l:List Nat}{s i z0:Nat}(hs:s<=32)(hi:i<l.length)(hrl:r.length=l.length)
 (hv:2 ^ s*vl (r.take i)+z0=vl (l.take i)+W ^ i*(l.getD i 0 % 2 ^ s)) :
 2 ^ s*vl ((r.set i (l[i]/2 ^ s+2 ^ (32-s)*(l.getD (i+1) 0 % 2 ^ s))).take (i+1))+z0=vl (l.take (i+1))+W ^ (i+1)*(l.getD (i+1) 0 % 2 ^ s):=by
 rw[zdn (by omega),zan hi]
 rw[zg5 hi]at hv
 have e:=Nat.div_add_mod l[i] (2 ^ s)
 have p:=zpf hs
 rw[Nat.pow_succ]
 generalize l.getD (i+1) 0 % 2 ^ s=A at *
 generalize 2 ^ (32-s)=Q at *
 generalize 2 ^ s=S at *
 generalize W ^ i=P at *
 generalize l[i] % S=B at *
 generalize l[i]/S=C at *
 generalize l[i]=D at *
 generalize vl (r.take i)=R at *
 generalize vl (l.take i)=L at *
 rw[<-p,<-e]
 clear hrl hi hs e p
 grind
theorem zajp{r l:List Nat}{s:Nat}(hrl:r.length=l.length)(hv:2 ^ s*vl (r.take l.length)+l.getD 0 0 % 2 ^ s=vl (l.take l.length)+W ^ l.length*(l.getD l.length 0 % 2 ^ s)):vl r=vl l/2 ^ s:=by
 rw[List.take_of_length_le (l:=r) (by omega),List.take_of_length_le (Nat.le_refl _),zel (Nat.le_refl _),Nat.zero_mod,Nat.mul_zero,Nat.add_zero]at hv
 rw[<-hv,Nat.mul_add_div (Nat.two_pow_pos s),Nat.div_eq_of_lt (Nat.mod_lt _ (Nat.two_pow_pos s)),Nat.add_zero]
theorem zac7{s w:Nat}(hs:s<=32):((w:Int)).fdiv (2 ^ (min ((s:Int)).toNat u32.bits))=((w/2 ^ s:Nat):Int):=by
 rw[minpow32 hs]
 exact(Int.ofNat_fdiv w (2 ^ s)).symm
theorem zal6{s w:Nat}(hs:s<=32):((w:Int)).fdiv (2 ^ (min ((s:Int)).toNat u64.bits))=((w/2 ^ s:Nat):Int):=by
 rw[minpow hs]
 exact(Int.ofNat_fdiv w (2 ^ s)).symm
theorem zana{s:Nat}(hx:RdW h x l)(ol:okW l)(hs:s<=31)(hl:l.length<=35184372088800)
 (H:∀z h' r,h.le h'->RdW h' z r->okW r->r.length=l.length->vl r=vl l/2 ^ s->Ks z h'):callP (F.zds x (s:Int)) Ks h:=by
 refine za3 (λz h'=>∃r,RdW h' z r/\okW r/\r.length=l.length/\vl r=vl l/2 ^ s) (λK' hk=>?_) λz h' hl ⟨r,h1,h2,h3,h4⟩=>H z h' r hl h1 h2 h3 h4
 unfold F.zds
 have lx:=hx.len
 refine zeo l.length l.length (by omega) (by omega) (by omega) (by omega) λm1 h1 hw hw2=>?_
 refine zaa (λst h'=>∃(i:Nat) (r:List Nat),st=((i:Int),())/\i<=l.length/\OwnW h h' m1 r/\okW r/\r.length=l.length/\2 ^ s*vl (r.take i)+l.getD 0 0 % 2 ^ s=vl (l.take i)+W ^ i*(l.getD i 0 % 2 ^ s))
  (λst=>((l.length:Int)-st.1).toNat) ⟨0,_,rfl,Nat.zero_le _,hw2,zjw _,by simp,by simp[vl]⟩ ?_
 rintro st h2 ⟨i,r,rfl,hi,ho,okr,hrl,hv⟩
 refine za5 (λh3=>?_) (λh3=>?_)
 . have hi':i<l.length:=by have:(i:Int)<(x.len:Int):=h3;omega
   have hw:=zbo ol hi'
   have e2:=zaim (s:=s) (v:=l.getD (i+1) 0) (by omega) hw
   have e3:=zagb (by omega) hi' hrl hv
   refine za9 (λ_ h'=>∃r',OwnW h h' m1 r'/\r'=r.set i (l[i]/2 ^ s+2 ^ (32-s)*(l.getD (i+1) 0 % 2 ^ s))) ?_ ?_
   . rintro _ h4 ⟨r',ho4,rfl⟩
     exact⟨⟨i+1,_,by rw[w64 (by simp only;omega)];rfl,by omega,ho4,zdh okr e2,by simp[hrl],e3⟩,by simp only;rw[w64 (by omega)];omega⟩
   . refine zad i (hx.le ho.1) rfl hi' λa ha=>⟨_,ha,by omega,?_⟩
     refine zdx i (l[i]/2 ^ s) ho rfl (by omega) (zac7 (by omega)) λh5 b5 _ _ _ ho5=>?_
     have wi:i64.wrap ((i:Int)+1)=((i+1:Nat):Int):=by rw[w64 (by omega)];rfl
     have ws:i64.wrap (32-(s:Int))=((32-s:Nat):Int):=by rw[w64 (by omega)];omega
     simp only[wi,ws]
     refine za5 (λh6=>?_) (λh6=>?_)
     . have hi2:i+1<l.length:=by omega
       have hw2:=zbo ol hi2
       refine zad i ho5.rdW rfl (by simp;omega) λa2 ha2=>⟨_,ha2,?_⟩
       refine zad (i+1) (hx.le ho5.1) rfl hi2 λa3 ha3=>⟨_,ha3,by omega,?_⟩
       rw[zac6 (by omega) hw2,u32n,List.getElem_set_self,or32k (Nat.lt_of_le_of_lt (Nat.div_le_self _ _) hw) (Nat.mod_lt _ W_pos),zagc (by omega) hw]
       refine zdx i _ ho5 rfl (by simp;omega) rfl λh7 b7 _ _ _ ho7=>⟨_,ho7,?_⟩
       rw[List.set_set,zg5 hi2]
     . have hi2:l.length<=i+1:=by omega
       refine⟨_,ho5,?_⟩
       rw[zel hi2]
       simp
 . have hi':i=l.length:=by have:¬(i:Int)<(x.len:Int):=h3;omega
   subst hi'
   exact hk _ _ ho.1 ⟨r,ho.rdW,okr,hrl,zajp hrl hv⟩
theorem zalr{s u v:Nat}(hs:s<=31)(hu:u<W)(hv:v<W):u32.wrap ((((v*W+u:Nat):Int)).fdiv (2 ^ (min ((s:Int)).toNat u64.bits)))=((u/2 ^ s+2 ^ (32-s)*(v % 2 ^ s):Nat):Int):=by
 rw[zal6 (by omega),u32n]
 have e:(v*W+u)/2 ^ s=u/2 ^ s+v*2 ^ (32-s):=by
  rw[<-zpf (s:=s) (by omega)]
  rw[show v*(2 ^ s*2 ^ (32-s))=2 ^ s*(v*2 ^ (32-s))by rw[<-Nat.mul_assoc,Nat.mul_comm v,Nat.mul_assoc]]
  rw[Nat.mul_add_div (Nat.two_pow_pos s),Nat.add_comm]
 rw[e,Nat.add_mod,zac5 (by omega),show 32-(32-s)=s by omega]
 have h1:=zaim (s:=s) (v:=v) (by omega) hu
 rw[Nat.mod_eq_of_lt (a:=u/2 ^ s) (Nat.lt_of_le_of_lt (Nat.div_le_self _ _) hu),Nat.mod_eq_of_lt h1]
theorem zajw{s:Nat}(hx:RdW h x l)(ol:okW l)(hs:s<=31)(hl:l.length<=35184372088800)
 (H:∀z h',h.le h'->RdW h' z (dg (vl l/2 ^ s))->Ks z h'):callP (F.zmu x (s:Int)) Ks h:=by
 refine za3 _ (λK' hk=>?_) H
 unfold F.zmu
 have lx:=hx.len
 refine zeo l.length l.length (by omega) (by omega) (by omega) (by omega) λm1 h1 hw hw2=>?_
 refine zaa (λst h'=>∃(i:Nat) (r:List Nat),st=((i:Int),())/\i<=l.length/\OwnW h h' m1 r/\okW r/\r.length=l.length/\2 ^ s*vl (r.take i)+l.getD 0 0 % 2 ^ s=vl (l.take i)+W ^ i*(l.getD i 0 % 2 ^ s))
  (λst=>((l.length:Int)-st.1).toNat) ⟨0,_,rfl,Nat.zero_le _,hw2,zjw _,by simp,by simp[vl]⟩ ?_
 rintro st h2 ⟨i,r,rfl,hi,ho,okr,hrl,hv⟩
 refine za5 (λh3=>?_) (λh3=>?_)
 . have hi':i<l.length:=by have:(i:Int)<(x.len:Int):=h3;omega
   have hw:=zbo ol hi'
   have hw1:=zcu ol (i+1)
   have e2:=zaim (s:=s) (v:=l.getD (i+1) 0) (by omega) hw
   have e3:=zagb (by omega) hi' hrl hv
   have wi:i64.wrap ((i:Int)+1)=((i+1:Nat):Int):=by rw[w64 (by omega)];rfl
   refine zad i (hx.le ho.1) rfl hi' λa ha=>⟨_,ha,?_⟩
   refine za9 (λs h'=>h'=h2/\s=(((l.getD (i+1) 0*W+l[i]:Nat):Int),())) ?_ ?_
   . rintro _ h4 ⟨rfl,rfl⟩
     refine⟨by omega,?_⟩
     simp only
     rw[zalr hs hw hw1]
     refine zdx i _ ho rfl (by omega) rfl λh5 b5 _ _ _ ho5=>?_
     exact⟨⟨i+1,_,by rw[wi],by omega,ho5,zdh okr e2,by simp[hrl],e3⟩,by rw[wi];omega⟩
   . simp only[wi]
     refine za5 (λh6=>?_) (λh6=>?_)
     . have hi2:i+1<l.length:=by omega
       refine zad (i+1) (hx.le ho.1) rfl hi2 λa3 ha3=>⟨_,ha3,by omega,by trivial,?_⟩
       rw[zg5 hi2]at hw1 |-
       congr 1
       rw[u64W hw,show(u64.wrap (l[i+1]:Int))=(l[i+1]:Int) from u64W hw1]
       have e5:u64.wrap ((l[i+1]:Int)*2 ^ (min (32:Int).toNat u64.bits))=((l[i+1]*2 ^ 32:Nat):Int):=by
        have:=zac6 (s:=32) (by omega) hw1
        rw[u64W hw1]at this
        exact this
       rw[e5,or64k (by unfold W at *;omega) (by unfold W at *;omega),Nat.or_comm,Nat.mul_comm,<-Nat.two_pow_add_eq_or_of_lt hw]
       unfold W
       congr 1
       omega
     . have hi2:l.length<=i+1:=by omega
       refine⟨by trivial,?_⟩
       rw[zel hi2,u64W hw]
       simp
 . have hi':i=l.length:=by have:¬(i:Int)<(x.len:Int):=h3;omega
   subst hi'
   refine zck ho.rdW (by omega) λz hz=>?_
   rw[zar okr,zajp hrl hv]at hz
   exact hk _ _ ho.1 hz
end
end Den
end

section
namespace Iv
theorem za3t{X V P w v1 v2 u num qh rh:Nat}(hX:X<(num*w+u+1)*P)(hV:(v1*w+v2)*P<=V)(hV0:0<V)(hnum:qh*v1+rh=num)
 (hlt:X<V*w) (hc:w<=qh\/rh*w+u<qh*v2):X/V<qh:=by
 rw[Nat.div_lt_iff_lt_mul hV0]
 rcases hc with hc | hc
 . exact Nat.lt_of_lt_of_le hlt (by rw[Nat.mul_comm];exact Nat.mul_le_mul_right _ hc)
 . have h1:num*w+u+1<=qh*(v1*w+v2):=by
    rw[<-hnum,Nat.mul_add,Nat.add_mul,<-Nat.mul_assoc];omega
   have h2:(num*w+u+1)*P<=qh*((v1*w+v2)*P):=by
    rw[<-Nat.mul_assoc];exact Nat.mul_le_mul_right _ h1
   have h3:qh*((v1*w+v2)*P)<=qh*V:=Nat.mul_le_mul_left _ hV
   omega
theorem za3u{X V P w v1 v2 u num qh rh un un1:Nat}(hw:1<w)(hX:(num*w+u)*P<=X)(hV:V<(v1*w+v2+1)*P)(hV0:0<V)(hP:0<P)(hnum:qh*v1+rh=num)(hn:num=un*w+un1)
 (hv1:w<=2*v1) (hun:un<=v1) (hun1:un1<w) (hv2:v2<w) (hu:u<w)
 (hc:w<=rh\/(qh<w/\qh*v2<=rh*w+u)):qh<w/\qh<=X/V+1:=by
 have hv1p:0<v1:=by omega
 have h1:qh<w:=by
  rcases hc with hc | hc
  . have h2:un*w<=v1*w:=Nat.mul_le_mul_right _ hun
    have h3:qh*v1<w*v1:=by rw[Nat.mul_comm w v1];omega
    exact Nat.lt_of_mul_lt_mul_right h3
  . exact hc.1
 refine⟨h1,?_⟩
 have h2:qh*v2<=rh*w+u:=by
  rcases hc with hc | hc
  . have a1:qh*v2<=w*w:=Nat.mul_le_mul (by omega) (by omega)
    have a2:w*w<=rh*w:=Nat.mul_le_mul_right _ hc
    omega
  . exact hc.2
 have h3:qh*(v1*w+v2)<=num*w+u:=by
  rw[<-hnum,Nat.mul_add,Nat.add_mul,<-Nat.mul_assoc];omega
 rcases Nat.eq_zero_or_pos qh with h0 | h0
 . rw[h0];exact Nat.zero_le _
 obtain⟨q1,rfl⟩:∃q1,qh=q1+1:=⟨qh-1,by omega⟩
 have h4:q1*(v1*w+v2+1)<=num*w+u:=by
  rw[Nat.mul_add,Nat.mul_one]
  rw[Nat.add_mul]at h3
  have:w<=v1*w:=Nat.le_mul_of_pos_left _ hv1p
  omega
 have h5:q1*V<=X:=by
  have a1:q1*V<=q1*((v1*w+v2+1)*P):=Nat.mul_le_mul_left _ (Nat.le_of_lt hV)
  have a2:q1*((v1*w+v2+1)*P)<=(num*w+u)*P:=by
   rw[<-Nat.mul_assoc];exact Nat.mul_le_mul_right _ h4
  omega
 exact Nat.succ_le_succ ((Nat.le_div_iff_mul_le hV0).2 h5)
theorem top2{l:List Nat}(ok:okW l){n:Nat}(hl:l.length=n+2):∃P lo,P=W ^ n/\lo<P/\vl l=(l.getD (n+1) 0*W+l.getD n 0)*P+lo/\lo=vl (l.take n):=by
 refine⟨W ^ n,vl (l.take n),rfl,?_,?_,rfl⟩
 . have:=vl_lt (zhh ok n)
   rw[List.length_take,Nat.min_eq_left (by omega)]at this
   exact this
 . have e1:=Den.zi7 l n
   have e2:=Den.zi7 l (n+1)
   rw[List.take_of_length_le (by omega)]at e2
   rw[e2,e1,Nat.pow_succ,Nat.add_mul,Nat.mul_assoc (l.getD (n+1) 0),Nat.mul_comm (W ^ n) W,Nat.mul_comm (l.getD (n+1) 0),Nat.mul_comm (l.getD n 0)]
   omega
theorem top3{l:List Nat}(ok:okW l){n:Nat}(hl:l.length=n+3):∃P lo,P=W ^ n/\lo<P/\vl l=((l.getD (n+2) 0*W+l.getD (n+1) 0)*W+l.getD n 0)*P+lo:=by
 obtain⟨P,lo,h1,h2,h3,h4⟩:=top2 ok (n:=n+1) (by omega)
 refine⟨W ^ n,vl (l.take n),rfl,?_,?_⟩
 . have:=vl_lt (zhh ok n)
   rw[List.length_take,Nat.min_eq_left (by omega)]at this
   exact this
 . rw[h3,h4,Den.zi7,h1,Nat.pow_succ]
   have:(l.getD (n+2) 0*W+l.getD (n+1) 0)*(W ^ n*W)=(l.getD (n+2) 0*W+l.getD (n+1) 0)*W*W ^ n:=by
    rw[Nat.mul_comm (W ^ n) W,Nat.mul_assoc]
   rw[this,Nat.add_mul _ (l.getD n 0),Nat.mul_comm (l.getD n 0)]
   omega
theorem zn5{l:List Nat}(ok:okW l){a b:Nat}(h:vl (l.drop a)<W ^ b):vl (l.drop (a+b))=0:=by
 rcases Nat.lt_or_ge (l.drop a).length b with h1 | h1
 . rw[List.drop_eq_nil_of_le (by rw[List.length_drop]at h1;omega)];rfl
 . have:=zax (l:=l.drop a) (k:=b) h1
   rw[List.drop_drop]at this
   rcases Nat.eq_zero_or_pos (vl (l.drop (a+b)))with h2 | h2
   . exact h2
   . have:W ^ b<=W ^ b*vl (l.drop (a+b)):=Nat.le_mul_of_pos_right _ h2
     omega
end Iv
namespace Den
open Go Iv
theorem LeX.refl{b:Nat}{h:Hp}:LeX b h h:=λ_ _ _ hk=>hk
theorem LeX.trans{b:Nat}{h h1 h2:Hp}(x:LeX b h h1)(y:LeX b h1 h2):LeX b h h2:=λk B hne hk=>y k B hne (x k B hne hk)
theorem zf8{x:Sl}{j e:Nat}{i:Int}{k:Nat}{F:Addr->Prop}(hi:i=k)(hk:k<e-j)(he:e<=x.cap)(H:idxP x ((j+k:Nat):Int) 1 F):idxP (x.cut j e 1) i 1 F:=by
 subst hi
 obtain⟨_,_,h3⟩:=H
 refine⟨by omega,?_,?_⟩
 . show(k:Int)<((e-j:Nat):Int);omega
 . have:(x.cut j e 1).a=x.a.map (·.add (j*1)):=by show(if x.cap=j then _ else _)=_;rw[if_neg (by omega)]
   rw[this]
   cases ha:x.a with
   | none=>rw[ha]at h3;exact h3
   | some a=>
     rw[ha]at h3
     simp only[ptrK,Option.map_some]at h3 |-
     rw[zir]
     have e1:(((j+k:Nat):Int)).toNat=j+k:=rfl
     have e2:((k:Int)).toNat=k:=rfl
     rw[e1]at h3
     rw[e2]
     rw[show j*1+k*1=(j+k)*1 by omega]
     exact h3
theorem zac8{x:Sl}{lo hi:Int}{K:Sl->Prop}(a b:Nat)(ha:lo=a)(hb:hi=b)(hab:a<=b)(hc:b<=x.cap)(H:K (x.cut a b 1)):slP x lo hi 1 K:=by
 subst ha hb
 exact⟨by omega,by omega,by omega,H⟩
section
variable {h0 h : Hp} {u y : Sl} {L m : List Nat} {a0 : Addr} {j d : Nat} {Kb : Bool → Hp → Prop} {Ku : Unit → Hp → Prop}
theorem zi6{i:Int}{v:Int}{K:Hp->Prop}(k n:Nat)(ha0:u.a=some a0)(ho:OwnW h0 h u L)(hi:i=k)(hk:k<L.length)(hv:v=n)
 (H:∀h',LeX a0.block h h'->OwnW h0 h' u (L.set k n)->K h'):idxP u i 1 λa=>stP a [.int .u32 v] K h:=
 zdx k n ho hi hk hv λh' b h1 _ h3 h4=>H h' (by rw[h1 _ ha0];exact h3) h4
theorem zani{x d c z:Nat}(hx:x<W)(hd:d<W)(hc:c<=W)(hz:z<W):∃r b:Nat,r<W/\b<=W/\z+W*b=r+(x*d+c) /\
 u32.wrap (u64.wrap (u64.wrap (z:Int)-u64.wrap (u32.wrap (u64.wrap (u64.wrap (u64.wrap (x:Int)*(d:Int))+(c:Int))))))=(r:Int) /\
 u64.wrap ((u64.wrap (u64.wrap (u64.wrap (x:Int)*(d:Int))+(c:Int))).fdiv (2 ^ (min (32:Int).toNat u64.bits)) +
  (u64.wrap (u64.wrap (z:Int)-u64.wrap (u32.wrap (u64.wrap (u64.wrap (u64.wrap (x:Int)*(d:Int))+(c:Int)))))).fdiv (2 ^ (min (63:Int).toNat u64.bits)))=(b:Int):=by
 unfold W at *
 have hxd:x*d<=4294967295*4294967295:=Nat.mul_le_mul (by omega) (by omega)
 have e1:u64.wrap (u64.wrap (u64.wrap (x:Int)*(d:Int))+(c:Int))=((x*d+c:Nat):Int):=by
  rw[u64n (n:=x) (by omega),show((x:Int)*(d:Int))=((x*d:Nat):Int)by simp,u64n (n:=x*d) (by omega),show(((x*d:Nat):Int)+(c:Int))=((x*d+c:Nat):Int)by simp,u64n (by omega)]
 rw[e1,fd63,fd32]
 simp only[wu64e,wu32e]
 have ht:x*d+c<=4294967295*4294967295+4294967296:=by omega
 generalize x*d+c=t at *
 by_cases hb:t % 4294967296<=z
 . exact⟨z-t % 4294967296,t/4294967296,by omega,by omega,by omega,by omega,by omega⟩
 . exact⟨z+4294967296-t % 4294967296,t/4294967296+1,by omega,by omega,by omega,by omega,by omega⟩
theorem zm5{L:List Nat}{j k v:Nat}(hj:j<=k):(L.set k v).take j=L.take j:=by
 apply List.ext_getElem
 . simp
 . intro i h1 h2
   simp only[List.length_take]at h1 h2
   simp only[List.getElem_take]
   rw[List.getElem_set_ne (by omega)]
theorem zm4{L:List Nat}{k e v:Nat}(hk:k<e):(L.set k v).drop e=L.drop e:=by
 rw[List.drop_set_of_lt hk]
theorem zapu(ha0:u.a=some a0)(ho:OwnW h0 h u L)(okL:okW L)(hy:RdW h y m)(okm:okW m)(hne:∀a,y.a=some a->a.block≠a0.block)(hj:j+m.length<L.length)(hd:d<W)(hL:L.length<=35184372088800+1)
 (H:∀h' L' b,LeX a0.block h h'->OwnW h0 h' u L'->okW L'->L'.length=L.length->L'.take j=L.take j->L'.drop (j+m.length+1)=L.drop (j+m.length+1)->b<=1 ->
   vl L'+W ^ j*(d*vl m)=vl L+W ^ (j+m.length+1)*b->Kb ((b:Int)==1) h'):F.zen (u.cut j (j+m.length+1) 1) y (d:Int) Kb h:=by
 unfold F.zen
 have ly:=hy.len
 have lu:=ho.len
 have lc:=ho.2.2.1
 refine zaa (λst h'=>∃(c i:Nat) (L':List Nat),st=((c:Int),(i:Int),())/\i<=m.length/\c<=W/\LeX a0.block h h'/\OwnW h0 h' u L'/\okW L'/\L'.length=L.length/\L'.take j=L.take j/\L'.drop (j+m.length+1)=L.drop (j+m.length+1) /\
  vl L'+W ^ j*(d*vl (m.take i))=vl L+W ^ (j+i)*c) (λst=>((m.length:Int)-st.2.1).toNat) ⟨0,0,L,rfl,Nat.zero_le _,by omega,LeX.refl,ho,okL,rfl,rfl,rfl,by simp[vl]⟩ ?_
 rintro st h1 ⟨c,i,L',rfl,hi,hc,hle,ho1,okL',hLL,htk,hdr,hv⟩
 have hy1:=hy.leX hle hne
 refine za5 (λh3=>?_) (λh3=>?_)
 . have hi':i<m.length:=by have:(i:Int)<(y.len:Int):=h3;omega
   have hx:=zbo okm hi'
   have hz:=zbo okL' (k:=j+i) (by omega)
   refine zad i hy1 rfl hi' λa ha=>⟨_,ha,?_⟩
   refine zf8 rfl (by omega) (by omega) (zad (j+i) ho1.rdW rfl (by omega) λa2 ha2=>⟨_,ha2,?_⟩)
   obtain⟨r,b,hr,hb,he,e1,e2⟩:=zani hx hd hc hz
   refine zf8 rfl (by omega) (by omega) (zi6 (j+i) r ha0 ho1 rfl (by omega) e1 λh5 hl5 ho5=>⟨by decide,by decide,?_⟩)
   refine⟨⟨b,i+1,L'.set (j+i) r,?_,by omega,hb,hle.trans hl5,ho5,zdh okL' hr,by simp[hLL],by rw[zm5 (by omega)];exact htk,by rw[zm4 (by omega)];exact hdr,?_⟩,by simp only;rw[w64 (by omega)];omega⟩
   . rw[w64 (by simp only;omega)]
     simp only[Prod.mk.injEq,and_true]
     exact⟨e2,rfl⟩
   . have e3:=zn6 (l:=L') (k:=j+i) (v:=r) (by omega)
     rw[zan hi']
     generalize vl (L'.set (j+i) r)=V at *
     generalize L'[j+i]=z at *
     generalize m[i]=x at *
     generalize vl (m.take i)=T at *
     generalize vl L'=V' at *
     generalize vl L=V0 at *
     have p1:W ^ (j+(i+1))=W ^ (j+i)*W:=by rw[<-Nat.add_assoc,Nat.pow_succ]
     have p2:W ^ (j+i)=W ^ j*W ^ i:=Nat.pow_add ..
     rw[p1]
     generalize W ^ (j+i)=P at *
     subst p2
     generalize W ^ j=Pj at *
     generalize W ^ i=Pi at *
     clear H e1 e2 hdr htk hLL okL' okL
     grind
 . have hi':i=m.length:=by have:¬(i:Int)<(y.len:Int):=h3;omega
   subst hi'
   have hz:=zbo okL' (k:=j+m.length) (by omega)
   rw[List.take_of_length_le (Nat.le_refl _)]at hv
   refine zf8 (k:=m.length) (by omega) (by omega) (by omega) (zad (j+m.length) ho1.rdW rfl (by omega) λa2 ha2=>⟨_,ha2,?_⟩)
   have key:∃r b:Nat,r<W/\b<=1/\L'[j+m.length]+W*b=r+c/\u32.wrap (u64.wrap (u64.wrap (L'[j+m.length]:Int)-(c:Int)))=(r:Int) /\
    (u64.wrap (u64.wrap (L'[j+m.length]:Int)-(c:Int))).fdiv (2 ^ (min (63:Int).toNat u64.bits))=(b:Int):=by
    rw[fd63]
    simp only[wu64e,wu32e]
    unfold W at *
    generalize L'[j+m.length]=z at *
    clear H
    by_cases hb:c<=z
    . exact⟨z-c,0,by omega,by omega,by omega,by omega,by omega⟩
    . exact⟨z+4294967296-c,1,by omega,by omega,by omega,by omega,by omega⟩
   obtain⟨r,b,hr,hb,he,e1,e2⟩:=key
   refine zf8 (k:=m.length) (by omega) (by omega) (by omega) (zi6 (j+m.length) r ha0 ho1 rfl (by omega) e1 λh5 hl5 ho5=>⟨by decide,?_⟩)
   simp only
   rw[e2]
   refine H h5 _ b (hle.trans hl5) ho5 (zdh okL' hr) (by simp[hLL]) (by rw[zm5 (by omega)];exact htk) (by rw[zm4 (by omega)];exact hdr) hb ?_
   have e3:=zn6 (l:=L') (k:=j+m.length) (v:=r) (by omega)
   rw[Nat.pow_succ]
   generalize vl (L'.set (j+m.length) r)=V at *
   generalize L'[j+m.length]=z at *
   generalize W ^ (j+m.length)=P at *
   have e4:=congrArg (P*·) he
   simp only[Nat.mul_add]at e4
   rw[Nat.mul_assoc]
   omega
theorem zai8(ha0:u.a=some a0)(ho:OwnW h0 h u L)(okL:okW L)(hy:RdW h y m)(okm:okW m)(hne:∀a,y.a=some a->a.block≠a0.block)(hj:j+m.length<L.length)(hL:L.length<=35184372088800+1)
 (H:∀h' L' c,LeX a0.block h h'->OwnW h0 h' u L'->okW L'->L'.length=L.length->L'.take j=L.take j->L'.drop (j+m.length+1)=L.drop (j+m.length+1)->c<=1 ->
   vl L'+W ^ (j+m.length+1)*c=vl L+W ^ j*vl m->Ku () h'):F.zfc (u.cut j (j+m.length+1) 1) y Ku h:=by
 unfold F.zfc
 have ly:=hy.len
 have lu:=ho.len
 have lc:=ho.2.2.1
 refine zaa (λst h'=>∃(c i:Nat) (L':List Nat),st=((c:Int),(i:Int),())/\i<=m.length/\c<=1/\LeX a0.block h h'/\OwnW h0 h' u L'/\okW L'/\L'.length=L.length/\L'.take j=L.take j/\L'.drop (j+m.length+1)=L.drop (j+m.length+1) /\
  vl L'+W ^ (j+i)*c=vl L+W ^ j*vl (m.take i)) (λst=>((m.length:Int)-st.2.1).toNat) ⟨0,0,L,rfl,Nat.zero_le _,by omega,LeX.refl,ho,okL,rfl,rfl,rfl,by simp[vl]⟩ ?_
 rintro st h1 ⟨c,i,L',rfl,hi,hc,hle,ho1,okL',hLL,htk,hdr,hv⟩
 have hy1:=hy.leX hle hne
 refine za5 (λh3=>?_) (λh3=>?_)
 . have hi':i<m.length:=by have:(i:Int)<(y.len:Int):=h3;omega
   have hx:=zbo okm hi'
   have hz:=zbo okL' (k:=j+i) (by omega)
   refine zad i hy1 rfl hi' λa ha=>⟨_,ha,?_⟩
   refine zf8 rfl (by omega) (by omega) (zad (j+i) ho1.rdW rfl (by omega) λa2 ha2=>⟨_,ha2,?_⟩)
   have e0:u64.wrap ((c:Int)+u64.wrap (u64.wrap (L'[j+i]:Int)+u64.wrap (m[i]:Int)))=((c+(L'[j+i]+m[i]):Nat):Int):=by
    clear H
    unfold W at *
    simp only[wu64e]
    omega
   simp only
   rw[e0]
   refine zf8 rfl (by omega) (by omega) (zi6 (j+i) _ ha0 ho1 rfl (by omega) (u32n _) λh5 hl5 ho5=>⟨by decide,?_⟩)
   rw[shr32]
   refine⟨⟨_,i+1,_,by rw[w64 (by omega)];rfl,by omega,?_,hle.trans hl5,ho5,zdh okL' (Nat.mod_lt _ W_pos),by simp[hLL],by rw[zm5 (by omega)];exact htk,by rw[zm4 (by omega)];exact hdr,?_⟩,by rw[w64 (by omega)];omega⟩
   . clear H;unfold W at *;omega
   . have e3:=zn6 (l:=L') (k:=j+i) (v:=(c+(L'[j+i]+m[i])) % W) (by omega)
     have he:=Nat.mod_add_div (c+(L'[j+i]+m[i])) W
     rw[zan hi']
     generalize vl (L'.set (j+i) ((c+(L'[j+i]+m[i])) % W))=V at *
     generalize (c+(L'[j+i]+m[i])) % W=r at *
     generalize (c+(L'[j+i]+m[i]))/W=q at *
     generalize L'[j+i]=z at *
     generalize m[i]=x at *
     generalize vl (m.take i)=T at *
     generalize vl L'=V' at *
     generalize vl L=V0 at *
     have p1:W ^ (j+(i+1))=W ^ (j+i)*W:=by rw[<-Nat.add_assoc,Nat.pow_succ]
     have p2:W ^ (j+i)=W ^ j*W ^ i:=Nat.pow_add ..
     rw[p1]
     generalize W ^ (j+i)=P at *
     subst p2
     generalize W ^ j=Pj at *
     generalize W ^ i=Pi at *
     clear H e0 hdr htk hLL okL' okL
     grind
 . have hi':i=m.length:=by have:¬(i:Int)<(y.len:Int):=h3;omega
   subst hi'
   have hz:=zbo okL' (k:=j+m.length) (by omega)
   rw[List.take_of_length_le (Nat.le_refl _)]at hv
   refine zf8 (k:=m.length) (by omega) (by omega) (by omega) (zad (j+m.length) ho1.rdW rfl (by omega) λa2 ha2=>⟨_,ha2,?_⟩)
   have e1:u32.wrap ((L'[j+m.length]:Int)+u32.wrap (c:Int))=(((c+L'[j+m.length]) % W:Nat):Int):=by
    clear H
    unfold W at *
    simp only[wu32e]
    omega
   refine zf8 (k:=m.length) (by omega) (by omega) (by omega) (zi6 (j+m.length) _ ha0 ho1 rfl (by omega) e1 λh5 hl5 ho5=>?_)
   refine H h5 _ ((c+L'[j+m.length])/W) (hle.trans hl5) ho5 (zdh okL' (Nat.mod_lt _ W_pos)) (by simp[hLL]) (by rw[zm5 (by omega)];exact htk) (by rw[zm4 (by omega)];exact hdr) (by clear H;unfold W at *;omega) ?_
   have e3:=zn6 (l:=L') (k:=j+m.length) (v:=(c+L'[j+m.length]) % W) (by omega)
   have he:=Nat.mod_add_div (c+L'[j+m.length]) W
   rw[Nat.pow_succ]
   generalize vl (L'.set (j+m.length) ((c+L'[j+m.length]) % W))=V at *
   generalize (c+L'[j+m.length]) % W=r at *
   generalize (c+L'[j+m.length])/W=q at *
   generalize L'[j+m.length]=z at *
   generalize W ^ (j+m.length)=P at *
   have e4:=congrArg (P*·) he
   simp only[Nat.mul_add]at e4
   rw[Nat.mul_assoc]
   omega
end
end Den
end

section
set_option maxRecDepth 4000
namespace Iv
theorem za4y{l:List Nat}{n:Nat}(hl:l.length=n+1):vl l=vl (l.take n)+W ^ n*l[n]:=by
 have:=zan (l:=l) (k:=n) (by omega)
 rw[List.take_of_length_le (by omega)]at this
 exact this
theorem zaph{B n:Nat}(hn:(dg B).length=n+1):(dg B)[n]≠0:=by
 intro h0
 have h1:=za4y hn
 rw[h0,Nat.mul_zero,Nat.add_zero,vl_dg]at h1
 have h2:=vl_lt (zhh (ok_dg B) n)
 rw[List.length_take,Nat.min_eq_left (by omega)]at h2
 have:=zbs.2 (show B<W ^ n by omega)
 omega
theorem za0a{B:Nat}(h:(dg B).length=1):dg B=[B]:=by
 have h1:=vl_dg B
 match hd:dg B,h with
 | [x],_=>
   rw[hd]at h1
   simp only[vl,Nat.mul_zero,Nat.add_zero]at h1
   rw[h1]
open Den in
theorem zafp{B n:Nat}(hn:(dg B).length=n+1):∃s,s=32-bl (dg B)[n]/\bl (dg B)[n]<=32/\s<=31/\W ^ n*2147483648<=B*2 ^ s/\B*2 ^ s<W ^ (n+1):=by
 have h0:=zaph hn
 have h1:=zals h0
 have h2:bl (dg B)[n]<=32:=za2o (zbo (ok_dg B) (by omega))
 have h3:=bl_lt (dg B)[n]
 have h4:=bl_le h0
 have h5:=za4y hn
 rw[vl_dg]at h5
 have h6:=vl_lt (zhh (ok_dg B) n)
 rw[List.length_take,Nat.min_eq_left (by omega)]at h6
 generalize (dg B)[n]=t at *
 refine⟨32-bl t,rfl,h2,by omega,?_,?_⟩
 . have e1:2147483648=2 ^ (bl t-1)*2 ^ (32-bl t):=by
    rw[<-Nat.pow_add,show bl t-1+(32-bl t)=31 by omega]
   rw[e1,<-Nat.mul_assoc]
   refine Nat.mul_le_mul_right _ ?_
   have:=Nat.mul_le_mul_left (W ^ n) h4
   omega
 . have e1:W ^ (n+1)=W ^ n*2 ^ bl t*2 ^ (32-bl t):=by
    rw[Nat.mul_assoc,<-Nat.pow_add,show bl t+(32-bl t)=32 by omega,Nat.pow_succ];rfl
   rw[e1]
   refine Nat.mul_lt_mul_of_pos_right ?_ (Nat.two_pow_pos _)
   have:=Nat.mul_le_mul_left (W ^ n) h3
   rw[Nat.mul_succ]at this
   omega
theorem win{U U1:List Nat}{j e b Y:Nat}(hl:U1.length=U.length)(hj:j<=U.length)(ht:U1.take j=U.take j)(hv:vl U1+W ^ j*Y=vl U+W ^ (j+e)*b) :
 vl (U1.drop j)+Y=vl (U.drop j)+W ^ e*b:=by
 have h1:=zax hj
 have h2:=zax (l:=U1) (k:=j) (by omega)
 rw[ht]at h2
 rw[h1,h2,Nat.pow_add,Nat.mul_assoc]at hv
 have h3:W ^ j*(vl (U1.drop j)+Y)=W ^ j*(vl (U.drop j)+W ^ e*b):=by
  rw[Nat.mul_add,Nat.mul_add];omega
 exact Nat.eq_of_mul_eq_mul_left (Nat.pow_pos W_pos) h3
theorem zanp{U U1:List Nat}{j e:Nat}(ok:okW U1)(hj:j+e<=U1.length)(hd:U1.drop (j+e)=U.drop (j+e))(h0:vl (U.drop (j+e))=0):vl (U1.drop j)<W ^ e:=by
 have h1:=zax (l:=U1.drop j) (k:=e) (by rw[List.length_drop];omega)
 rw[List.drop_drop,hd,h0,Nat.mul_zero,Nat.add_zero]at h1
 rw[h1]
 have h2:=vl_lt (zhh (zmm ok j) e)
 rw[List.length_take,List.length_drop,Nat.min_eq_left (by omega)]at h2
 exact h2
theorem zajt{U:List Nat}{j n:Nat}(ok:okW U)(hj:j+n+3<=U.length)(h0:vl (U.drop (j+(n+3)))=0) :
 ∃lo,lo<W ^ n/\vl (U.drop j)=((U.getD (j+(n+2)) 0*W+U.getD (j+(n+1)) 0)*W+U.getD (j+n) 0)*W ^ n+lo:=by
 have h1:=zax (l:=U.drop j) (k:=n+3) (by rw[List.length_drop];omega)
 rw[List.drop_drop,h0,Nat.mul_zero,Nat.add_zero]at h1
 obtain⟨P,lo,e1,e2,e3⟩:=top3 (l:=(U.drop j).take (n+3)) (n:=n) (zhh (zmm ok j) _) (by rw[List.length_take,List.length_drop];omega)
 subst e1
 have g:∀i,i<n+3->((U.drop j).take (n+3)).getD i 0=U.getD (j+i) 0:=λi hi=>by
  simp only[List.getD_eq_getElem?_getD,List.getElem?_take,hi,if_true,List.getElem?_drop]
 rw[g _ (by omega),g _ (by omega),g _ (by omega)]at e3
 exact⟨lo,e2,h1.trans e3⟩
theorem un_le{X V P w v1 v2 un:Nat}(hX:un*w*w*P<=X)(hV:V<=(v1*w+v2+1)*P)(hlt:X<V*w)(hv2:v2<w):un<=v1:=by
 rcases Nat.lt_or_ge v1 un with h | h
 . exfalso
   have h1:v1*w+v2+1<=un*w:=by
    have:(v1+1)*w<=un*w:=Nat.mul_le_mul_right _ h
    rw[Nat.add_mul]at this;omega
   have h2:(v1*w+v2+1)*P<=un*w*P:=Nat.mul_le_mul_right _ h1
   have h3:V*w<=un*w*P*w:=Nat.mul_le_mul_right _ (Nat.le_trans hV h2)
   have h4:un*w*P*w=un*w*w*P:=by rw[Nat.mul_assoc (un*w),Nat.mul_comm P w,<-Nat.mul_assoc]
   omega
 . exact h
theorem zaf8{U:List Nat}{A s N n V:Nat}(hU:U.length=N+1)(hv:vl U=A*2 ^ s)(hA:A<W ^ N)(hs:s<=31)(hn:n+1<=N)(hV:W ^ n*2147483648<=V):vl (U.drop (N-n))<V:=by
 have h1:=zax (l:=U) (k:=N-n) (by omega)
 have h2:vl U<W ^ N*2147483648:=by
  rw[hv]
  exact Nat.mul_lt_mul_of_lt_of_le hA (Nat.pow_le_pow_right (n:=2) (by decide) hs) (by decide)
 have h3:W ^ N=W ^ (N-n)*W ^ n:=by rw[<-Nat.pow_add];congr 1;omega
 rw[h3,Nat.mul_assoc]at h2
 have h4:W ^ (N-n)*vl (U.drop (N-n))<W ^ (N-n)*V:=by
  have:=Nat.mul_le_mul_left (W ^ (N-n)) hV
  omega
 exact Nat.lt_of_mul_lt_mul_left h4
theorem ks0{L1:List Nat}{X V qh j e:Nat}(hV:0<V)(hq:X/V<=qh)(hw:vl (L1.drop j)+qh*V=X+W ^ e*0):qh=X/V/\vl (L1.drop j)<V:=by
 rw[Nat.mul_zero,Nat.add_zero]at hw
 have h1:qh*V<=X:=by omega
 have h2:=(Nat.le_div_iff_mul_le hV).2 h1
 obtain rfl:qh=X/V:=Nat.le_antisymm h2 hq
 refine⟨rfl,?_⟩
 have h3:=Nat.mod_add_div' X V
 have h4:=Nat.mod_lt X hV
 omega
theorem ks1{L L1 L2:List Nat}{X V qh j e c:Nat}(hV:0<V)(hq:X/V<=qh)(hq2:qh<=X/V+1)(hX:vl (L.drop j)=X)(hl1:L1.length=L.length)(hl2:L2.length=L1.length)(hj:j<=L.length)
 (ht1:L1.take j=L.take j) (ht2:L2.take j=L1.take j) (hw:vl (L1.drop j)+qh*V=X+W ^ e*1) (hlt1:vl (L1.drop j)<W ^ e) (hlt2:vl (L2.drop j)<W ^ e) (hc:c<=1)
 (hr:vl L2+W ^ (j+e)*c=vl L1+W ^ j*V):qh=X/V+1/\vl L2+W ^ j*(X/V*V)=vl L/\vl (L2.drop j)<V:=by
 rw[Nat.mul_one]at hw
 have hmd:=Nat.div_mul_le_self X V
 have h1:qh=X/V+1:=by
  rcases Nat.lt_or_ge (X/V) qh with h | h
  . omega
  . obtain rfl:qh=X/V:=Nat.le_antisymm h hq
    omega
 subst h1
 have k0:=zax hj
 have k1:=zax (l:=L1) (k:=j) (by omega)
 have k2:=zax (l:=L2) (k:=j) (by omega)
 rw[hX]at k0
 rw[ht2]at k2
 rw[ht1]at k1 k2
 have h3:vl (L2.drop j)+W ^ e*c=vl (L1.drop j)+V:=by
  have e1:W ^ j*(vl (L2.drop j)+W ^ e*c)=W ^ j*(vl (L1.drop j)+V):=by
   rw[Nat.mul_add,Nat.mul_add,<-Nat.mul_assoc (W ^ j),<-Nat.pow_add]
   rw[k1,k2]at hr
   omega
  exact Nat.eq_of_mul_eq_mul_left (Nat.pow_pos W_pos) e1
 rw[Nat.add_mul]at hw
 have hc1:c=1:=by
  rcases Nat.eq_zero_or_pos c with h | h
  . subst h;rw[Nat.mul_zero,Nat.add_zero]at h3;omega
  . omega
 subst hc1
 have hf:vl (L2.drop j)+X/V*V=X:=by omega
 refine⟨rfl,?_,?_⟩
 . rw[k2,k0]
   have:=congrArg (W ^ j*·) hf
   simp only[Nat.mul_add]at this
   omega
 . have h5:=Nat.mod_add_div' X V
   have h6:=Nat.mod_lt X hV
   omega
theorem za8u{X V P v1 v2 un un1 un2:Nat}(hP:0<P)(hv1:0<v1)(hV:(v1*W+v2)*P<=V)(hX:X<((un*W+un1)*W+un2+1)*P)(hu:un2<W):X/V<=(un*W+un1)/v1:=by
 rw[Nat.le_div_iff_mul_le hv1]
 have h5:X/V*V<=X:=Nat.div_mul_le_self X V
 have h6:X/V*(v1*W*P)<=X/V*V:=Nat.mul_le_mul_left _ (Nat.le_trans (Nat.mul_le_mul_right _ (Nat.le_add_right _ v2)) hV)
 have h7:X/V*v1*(W*P)<(un*W+un1+1)*(W*P):=by
  have e1:X/V*(v1*W*P)=X/V*v1*(W*P):=by rw[Nat.mul_assoc v1,<-Nat.mul_assoc]
  have e2:((un*W+un1)*W+un2+1)*P<=(un*W+un1+1)*(W*P):=by
   rw[<-Nat.mul_assoc]
   refine Nat.mul_le_mul_right _ ?_
   rw[Nat.add_mul _ 1];omega
  omega
 have:=Nat.lt_of_mul_lt_mul_right h7
 omega
theorem zagr{L:List Nat}{j V:Nat}(ok:okW L)(hj:j<L.length)(hlt:vl (L.drop (j+1))<V):vl (L.drop j)<V*W:=by
 rw[List.drop_eq_getElem_cons hj]
 simp only[vl]
 have:=zbo ok hj
 have h5:W*(vl (L.drop (j+1))+1)<=W*V:=Nat.mul_le_mul_left _ hlt
 rw[Nat.mul_add,Nat.mul_comm W V]at h5
 omega
theorem zagp{V v1 v2 lo n:Nat}(hV:W ^ (n+1)*2147483648<=V)(hV2:V=(v1*W+v2)*W ^ n+lo)(hlo:lo<W ^ n)(hv2:v2<W):W<=2*v1:=by
 have e1:W ^ (n+1)*2147483648<(v1+1)*W ^ (n+1):=by
  refine Nat.lt_of_le_of_lt hV ?_
  rw[hV2,Nat.pow_succ,Nat.add_mul,Nat.add_mul]
  have:v2*W ^ n+W ^ n<=W ^ n*W:=by
   rw[<-Nat.succ_mul,Nat.mul_comm];exact Nat.mul_le_mul_left _ hv2
  rw[Nat.mul_assoc _ W,Nat.mul_comm W]
  omega
 rw[Nat.mul_comm]at e1
 have:=Nat.lt_of_mul_lt_mul_right e1
 unfold W;omega
theorem zaf5{A V s k j q:Nat}{L L2 r:List Nat}(hk:k=j+1)(hval:A*2 ^ s=V*(W ^ k*vl (r.drop k))+vl L)(hv:vl L2+W ^ j*(q*V)=vl L)(hj:j<r.length) :
 A*2 ^ s=V*(W ^ j*vl ((r.set j q).drop j))+vl L2:=by
 subst hk
 rw[List.drop_eq_getElem_cons (l:=r.set j q) (by simpa using hj),List.getElem_set_self,List.drop_set_of_lt (by omega)]
 simp only[vl]
 rw[hval,<-hv,Nat.pow_succ,Nat.mul_add,Nat.mul_add,Nat.mul_assoc (W ^ j)]
 have e1:V*(W ^ j*q)=W ^ j*(q*V):=by
  rw[Nat.mul_comm V,Nat.mul_assoc]
 omega
theorem zafo{V n:Nat}(hVl:W ^ (n+1)*2147483648<=V)(hVu:V<W ^ (n+2)):(dg V).length=n+2:=by
 have e1:=zbs.2 hVu
 have e2:W ^ (n+1)<=V:=Nat.le_trans (Nat.le_mul_of_pos_right _ (by decide)) hVl
 rcases Nat.lt_or_ge (dg V).length (n+2)with h3 | h3
 . exfalso
   have:=(zbs (n:=V) (k:=n+1)).1 (by omega)
   omega
 . omega
end Iv
namespace Den
open Go Iv
def lenTab:ByteArray:=⟨#[0,1,2,2,3,3,3,3,4,4,4,4,4,4,4,4,5,5,5,5,5,5,5,5,5,5,5,5,5,5,5,5,6,6,6,6,6,6,6,6,6,6,6,6,6,6,6,6,6,6,6,6,6,6,6,6,6,6,6,6,6,6,6,6,7,7,7,7,7,7,7,7,7,7,7,7,7,7,7,7,7,7,7,7,7,7,7,7,7,7,7,7,7,7,7,7,7,7,7,7,7,7,7,7,7,7,7,7,7,7,7,7,7,7,7,7,7,7,7,7,7,7,7,7,7,7,7,7,8,8,8,8,8,8,8,8,8,8,8,8,8,8,8,8,8,8,8,8,8,8,8,8,8,8,8,8,8,8,8,8,8,8,8,8,8,8,8,8,8,8,8,8,8,8,8,8,8,8,8,8,8,8,8,8,8,8,8,8,8,8,8,8,8,8,8,8,8,8,8,8,8,8,8,8,8,8,8,8,8,8,8,8,8,8,8,8,8,8,8,8,8,8,8,8,8,8,8,8,8,8,8,8,8,8,8,8,8,8,8,8,8,8,8,8,8,8,8,8,8,8,8,8,8,8,8,8]⟩
theorem zahu:∀i:Fin 256,(BS lenTab)[i.val]?=some (bl i.val).toUInt8:=by decide +kernel
theorem bl8:∀i:Fin 256,((bl i.val).toUInt8).toNat=bl i.val:=by decide +kernel
theorem zahv{c:Nat}{K:Int->Prop}{i:Int}(hc:c<256)(hi:i=c)(H:K ((bl c:Nat):Int)):strIdx lenTab i K:=by
 have h1:=zahu ⟨c,hc⟩
 have h2:=bl8 ⟨c,hc⟩
 simp only at h1 h2
 have hlen:c<(BS lenTab).length:=by
  rcases Nat.lt_or_ge c (BS lenTab).length with h | h
  . exact h
  . rw[List.getElem?_eq_none h]at h1;cases h1
 have h3:(BS lenTab)[c]=(bl c).toUInt8:=by
  rw[List.getElem?_eq_getElem hlen]at h1
  exact Option.some.inj h1
 refine zagh (k:=c) (c:=(bl c).toUInt8) (r:=(BS lenTab).drop (c+1)) ?_ hi ?_
 . rw[List.drop_eq_getElem_cons hlen,h3]
 . rw[h2];exact H
section
variable {h : Hp} {x y : Sl} {l m : List Nat} {Ks : Sl → Hp → Prop} {Ki : Int → Hp → Prop}
theorem zagw{t:Nat}(ht:t<W)(H:Ki ((bl t:Nat):Int) h):callP (F.zfd (t:Int)) Ki h:=by
 refine zao _ (λK' hk=>?_) H
 unfold F.zfd
 have p8:∀n:Nat,((n:Int)).fdiv (2 ^ (min (8:Int).toNat u32.bits))=((n/2 ^ 8:Nat):Int):=λn=>zac7 (s:=8) (by omega)
 have p16:∀n:Nat,((n:Int)).fdiv (2 ^ (min (16:Int).toNat u32.bits))=((n/2 ^ 16:Nat):Int):=λn=>zac7 (s:=16) (by omega)
 refine za9 (λs h'=>h'=h/\∃a b:Nat,s=((a:Int),(b:Int),())/\a<65536/\b<=16/\bl t=bl a+b) ?_ ?_
 . rintro _ h' ⟨rfl,a,b,rfl,ha,hb,he⟩
   refine za9 (λs h2=>h2=h'/\∃c d:Nat,s=((c:Int),(d:Int),())/\c<256/\d<=24/\bl t=bl c+d) ?_ ?_
   . rintro _ h2 ⟨rfl,c,d,rfl,hc,hd,he2⟩
     have hbl:bl c<=32:=za2o (by omega)
     refine zahv (c:=c) hc ?_ ?_
     . simp[IntKind.wrap,IntKind.signed,IntKind.bits];omega
     . simp only
       rw[i64n (by omega),show(d:Int)+((bl c:Nat):Int)=((bl t:Nat):Int)by omega,i64n (by omega)]
       exact hk
   . refine za5 (λh1=>⟨by decide,?_⟩) (λh1=>?_)
     . have h2:a>=256:=by simp only at h1;omega
       refine⟨by trivial,a/2 ^ 8,b+8,?_,by omega,by omega,?_⟩
       . simp only
         rw[p8,w64 (by omega)];rfl
       . rw[he,za2p (n:=a) (k:=8) h2];omega
     . have h2:a<256:=by simp only at h1;omega
       exact⟨by trivial,a,b,rfl,h2,by omega,he⟩
 . refine za5 (λh1=>⟨by decide,?_⟩) (λh1=>?_)
   . have h2:t>=65536:=by omega
     refine⟨rfl,t/2 ^ 16,16,?_,by unfold W at ht;omega,by omega,?_⟩
     . rw[p16];rfl
     . rw[za2p (n:=t) (k:=16) h2]
   . have h2:t<65536:=by omega
     exact⟨rfl,t,0,rfl,h2,by omega,rfl⟩
theorem zpt{t:Nat}(ht:t<W)(hb:bl t<=32)(H:Ki ((32-bl t:Nat):Int) h):callP (F.zby (t:Int)) Ki h:=by
 refine zao _ (λK' hk=>?_) H
 unfold F.zby
 refine zagw ht ?_
 rw[w64 (by omega),show(32:Int)-((bl t:Nat):Int)=((32-bl t:Nat):Int)by omega]
 exact hk
theorem zafe{n:Nat}(hx:RdW h x (dg n))(hl:(dg n).length<=35184372088800)(H:Ki (if h0:(dg n).length=0 then 0 else ((32*((dg n).length-1)+bl (dg n)[(dg n).length-1]:Nat):Int)) h):callP (F.zgd x) Ki h:=by
 refine zao _ (λK' hk=>?_) H
 unfold F.zgd
 have lx:=hx.len
 refine zbl (λh1=>?_) (λh1=>?_)
 . rw[dif_pos (by omega)]at hk;exact hk
 . obtain⟨N,hN⟩:∃N,(dg n).length=N+1:=⟨(dg n).length-1,by omega⟩
   rw[dif_neg (by omega)]at hk
   have ht:=zbo (ok_dg n) (k:=N) (by omega)
   have hbt:bl (dg n)[N]<=32:=za2o ht
   have e1:(dg n)[(dg n).length-1]'(by omega)=(dg n)[N]'(by omega):=by congr 1;omega
   rw[e1]at hk
   refine zad N hx (by rw[lx,hN,w64 (by omega)];omega) (by omega) λa ha=>⟨_,ha,?_⟩
   refine zaa (λst h'=>h'=h/\∃c t:Nat,st=((c:Int),(t:Int),())/\t<W/\c+bl t=bl (dg n)[N]) (λst=>st.2.1.toNat) ⟨rfl,0,_,rfl,ht,by omega⟩ ?_
   rintro st h' ⟨rfl,c,t,rfl,htW,he⟩
   refine za5 (λh3=>⟨by decide,?_⟩) (λh3=>?_)
   . simp only at h3 |-
     have h4:t≠0:=by omega
     have h5:=zao1 h4
     have e2:((t:Int)).tdiv 2=((t/2:Nat):Int):=tdivn t 2
     rw[e2,u32lt (by omega)]
     exact⟨⟨by trivial,c+1,t/2,by rw[w64 (by omega)];rfl,by omega,by omega⟩,by omega⟩
   . have h4:t=0:=by simp only at h3;omega
     subst h4
     have h5:c=bl (dg n)[N]:=by rw[zao3]at he;omega
     simp only[h5]
     clear H he h5
     generalize bl (dg n)[N]=q at *
     have e3:i64.wrap (i64.wrap (32*i64.wrap ((x.len:Int)-1))+((q:Nat):Int))=((32*((dg n).length-1)+q:Nat):Int):=by
      rw[lx,hN,w64 (n:=((N+1:Nat):Int)-1) (by omega),w64 (n:=32*(((N+1:Nat):Int)-1)) (by omega),w64 (by omega)]
      omega
     rw[e3];exact hk
end
end Den
end

section
set_option maxHeartbeats 4000000
namespace Den
open Go Iv
theorem Own.some{h0 h:Hp}{x:Sl}{l:List Nat}(ho:OwnW h0 h x l)(hl:0<l.length):∃a,x.a=some a/\h0 a.block=none/\h a.block≠none:=by
 have hlen:=ho.len
 obtain⟨h1,h2,h3,h4⟩:=ho
 cases ha:x.a with
 | none=>rw[ha]at h4;simp only at h4;omega
 | some a=>
   rw[ha]at h4
   obtain⟨_,_,g3,b,g4,_⟩:=h4
   exact⟨a,rfl,g3,by rw[g4];exact λhh=>by cases hh⟩
section
variable {h : Hp} {x y : Sl} {l m : List Nat} {Ks : Sl → Hp → Prop} {Ki : Int → Hp → Prop} {Kp : (Sl × Sl) → Hp → Prop}
theorem zal0(q:Nat):(((q+1:Nat):Int)-1)=(q:Int):=by omega
theorem zdk{i:Int}{Ka:Addr->Prop}(k:Nat)(hr:RdW h x l)(hi:i=k)(hk:k<l.length)
 (H:∀a,h.cell a=some (.int .u32 ((l.getD k 0:Nat):Int))->Ka a):idxP x i 1 Ka:=
 zad k hr hi hk λa ha=>H a (by rw[zg5 hk];exact ha)
theorem zak8{A B:Nat}(hx:RdW h x (dg A))(hy:RdW h y (dg B))(hB:B≠0)(hl:(dg A).length<=35184372088000)(hl2:(dg B).length<=35184372088000)
 (H:∀q r h',h.le h'->RdW h' q (dg (A/B))->RdW h' r (dg (A % B))->Kp (q,r) h'):F.zcg x y Kp h:=by
 unfold F.zcg
 have lx:=hx.len
 have ly:=hy.len
 refine zmi hx hy (by omega) (by omega) ?_
 unfold cmpN
 by_cases hAB:A<B
 . rw[if_pos hAB]
   refine zb1 rfl ?_
   refine zmg hx (by omega) λz h1 hl1 hz=>H _ _ _ hl1 ?_ ?_
   . rw[Nat.div_eq_of_lt hAB,zbg];exact RdW.nil
   . rw[Nat.mod_eq_of_lt hAB];exact hz
 rw[if_neg hAB]
 refine zab (by split<;>rfl) ?_
 have hBl:=zcs (Nat.le_of_not_lt hAB)
 have hB0:(dg B).length≠0:=λh0=>hB (zgz.1 (List.length_eq_zero_iff.1 h0))
 refine za5 (λh1=>?_) (λh1=>?_)
 . refine zkx hx (ok_dg A) (by omega) λh2 hl2=>?_
   refine zkx (hy.le hl2) (ok_dg B) (by omega) λh3 hl3=>?_
   rw[vl_dg,vl_dg]
   have hA64:A<18446744073709551616:=by
    have:=(zbs (n:=A) (k:=2)).1 (by omega)
    have e:W ^ 2=18446744073709551616:=by decide
    omega
   have hq:A/B<=A:=Nat.div_le_self A B
   have hr:A % B<=A:=Nat.mod_le A B
   refine⟨by omega,by omega,?_⟩
   rw[tdivn,tmodn,u64n (by omega)]
   refine zf7 rfl (by omega) λz h4 hl4 hz=>zf7 rfl (by omega) λw h5 hl5 hw=>?_
   exact H _ _ _ (Hp.le_trans hl2 (Hp.le_trans hl3 (Hp.le_trans hl4 hl5))) (hz.le hl5) hw
 refine zbl (λh2=>?_) (λh2=>?_)
 . have hB1:=za0a (B:=B) (by omega)
   have hBW:B<W:=by
    have:=ok_dg B B (by rw[hB1];exact List.mem_singleton.2 rfl)
    exact this
   refine zdk 0 hy rfl (by omega) λa ha=>⟨_,ha,?_⟩
   have e0:(dg B).getD 0 0=B:=by rw[hB1];rfl
   rw[e0]
   refine zzs hx (ok_dg A) (Nat.pos_of_ne_zero hB) hBW (by omega) λz w h3 hl3 hz hw=>?_
   rw[vl_dg]at hz hw
   exact H _ _ _ hl3 hz hw
 obtain⟨n,hn⟩:∃n,(dg B).length=n+2:=⟨(dg B).length-2,by omega⟩
 obtain⟨N,hN⟩:∃N,(dg A).length=N:=⟨_,rfl⟩
 obtain⟨s,hs,hbl,hs31,hVl,hVu⟩:=zafp (B:=B) (n:=n+1) hn
 refine zad (n+1) hy (by rw[ly,hn,w64 (by omega)];omega) (by omega) λa ha=>⟨_,ha,?_⟩
 have htW:=zbo (ok_dg B) (k:=n+1) (by omega)
 refine zpt htW hbl ?_
 rw[<-hs]
 refine za4j hx (ok_dg A) hs31 (by omega) λu h9 U ho9 okU hUl hUv=>?_
 rw[vl_dg]at hUv
 refine za4j (hy.le ho9.1) (ok_dg B) hs31 (by omega) λv0 h10 V0 ho10 okV0 hV0l hV0v=>?_
 rw[vl_dg]at hV0v
 refine za4u ho10.rdW (by omega) λv hv hsub=>?_
 rw[zar okV0,hV0v]at hv
 generalize hV:B*2 ^ s=V at *
 have hVpos:0<V:=Nat.lt_of_lt_of_le (Nat.mul_pos (Nat.pow_pos W_pos) (by decide)) hVl
 have hVn:(dg V).length=n+2:=zafo hVl hVu
 have lu:=ho9.len
 have lv:=hv.len
 have hN2:n+2<=N:=by omega
 refine zeo (N-n-1) (N-n-1) (by rw[lu,lv,w64 (by omega)];omega) (by rw[lu,lv,w64 (by omega)];omega) (by omega) (by omega) λq h12 hq ho12=>?_
 obtain⟨a13,ha13,hb13,hc13⟩:=Own.some ho9 (by omega)
 obtain⟨a16,ha16,hb16,hc16⟩:=Own.some ho12 (by simp;omega)
 have hlh:h.le h10:=Hp.le_trans ho9.1 ho10.1
 have hb16h:h a16.block=none:=Hp.none_of_le hlh hb16
 have ne16:a13.block≠a16.block:=λhh=>by
  have h3:=Hp.none_of_le ho10.1 hb16
  rw[<-hh]at h3;exact hc13 h3
 have hvne:∀a,v.a=some a->a.block≠a13.block/\a.block≠a16.block:=λa ha=>by
  obtain⟨a',h3,h4⟩:=hsub a ha
  rw[h4]
  constructor
  . exact ztm ho9 ho10 a13 a' ha13 h3 |>.symm
  . exact ztm ho10 ho12 a' a16 h3 ha16
 have hne13:∀a,v.a=some a->a.block≠a13.block:=λa ha=>(hvne a ha).1
 have hne16:∀a,v.a=some a->a.block≠a16.block:=λa ha=>(hvne a ha).2
 have hu16:∀a,u.a=some a->a.block≠a16.block:=λa ha=>by rw[ha13]at ha;cases ha;exact ne16
 have hq13:∀a,q.a=some a->a.block≠a13.block:=λa ha=>by rw[ha16]at ha;cases ha;exact ne16.symm
 have hou:OwnW h h12 u U:=(ho9.le ho10.1).le ho12.1
 have hoq:OwnW h h12 q (List.replicate (N-n-1) 0):=ho12.base hlh
 have hv12:RdW h12 v (dg V):=hv.le ho12.1
 obtain⟨P,lo2,hP,hlo2,hVtop,_⟩:=top2 (ok_dg V) (n:=n) hVn
 rw[vl_dg]at hVtop
 have hv1:(dg V).getD (n+1) 0<W:=zcu (ok_dg V) _
 have hv2:(dg V).getD n 0<W:=zcu (ok_dg V) _
 refine zdk (n+1) hv12 (by rw[lv,hVn,w64 (by omega)];omega) (by omega) λa1 ha1=>⟨_,ha1,?_⟩
 refine zdk n hv12 (by rw[lv,hVn,w64 (by omega)];omega) (by omega) λa2 ha2=>⟨_,ha2,?_⟩
 generalize hgv1:(dg V).getD (n+1) 0=v1 at *
 generalize hgv2:(dg V).getD n 0=v2 at *
 subst hP
 have hv1b:W<=2*v1:=zagp hVl hVtop hlo2 hv2
 have hAl:A<W ^ N:=zbs.1 (by omega)
 have hfirst:vl (U.drop (N-(n+1)))<V:=zaf8 (n:=n+1) (by omega) hUv hAl hs31 (by omega) hVl
 refine zaa (λst h'=>∃(k:Nat) (L r:List Nat),st=((k:Int)-1,())/\k<=N-n-1/\OwnW h h' u L/\okW L/\L.length=N+1/\OwnW h h' q r/\okW r/\r.length=N-n-1/\RdW h' v (dg V) /\
  vl (L.drop k)<V/\A*2 ^ s=V*(W ^ k*vl (r.drop k))+vl L) (λst=>(st.1+1).toNat)
  ⟨N-n-1,U,_,by rw[hq,w64 (by omega)],Nat.le_refl _,hou,okU,by omega,hoq,zjw _,by simp,hv12,by rw[show N-n-1=N-(n+1)by omega];exact hfirst,by rw[List.drop_eq_nil_of_le (by simp),hUv];simp[vl]⟩ ?_
 rintro st h3 ⟨k,L,r,rfl,hk,hoL,okL,hLl,hor,okr,hrl,hv3,hlt,hval⟩
 have llu:=hoL.len
 have hucap:=hoL.2.2.1
 refine za5 (λh4=>?_) (λh4=>?_)
 . obtain⟨j,rfl⟩:∃j,k=j+1:=⟨k-1,by have:(k:Int)-1>=0:=h4;omega⟩
   have hji:((j+1:Nat):Int)-1=(j:Int):=by omega
   have wj:i64.wrap ((j:Int)+(v.len:Int))=((j+(n+2):Nat):Int):=by rw[lv,hVn,w64 (by omega)];omega
   have wj1:i64.wrap (((j+(n+2):Nat):Int)-1)=((j+(n+1):Nat):Int):=by rw[w64 (by omega)];omega
   have wj2:i64.wrap (((j+(n+2):Nat):Int)-2)=((j+n:Nat):Int):=by rw[w64 (by omega)];omega
   have wj3:i64.wrap (((j+(n+2):Nat):Int)+1)=((j+(n+2)+1:Nat):Int):=by rw[w64 (by omega)];omega
   simp only[hji,wj,wj1,wj2,wj3]
   have hlt2:vl (L.drop (j+1))<W ^ (n+2):=Nat.lt_trans hlt hVu
   have hz0:vl (L.drop (j+(n+3)))=0:=by
    have:=zn5 okL hlt2
    rw[show j+1+(n+2)=j+(n+3)by omega]at this
    exact this
   obtain⟨lo,hlo,hX⟩:=zajt (n:=n) okL (j:=j) (by omega) hz0
   have hun:L.getD (j+(n+2)) 0<W:=zcu okL _
   have hun1:L.getD (j+(n+1)) 0<W:=zcu okL _
   have hun2:L.getD (j+n) 0<W:=zcu okL _
   have hXV:vl (L.drop j)<V*W:=zagr okL (by omega) hlt
   refine zdk (j+(n+2)) hoL.rdW rfl (by omega) λa3 ha3=>⟨_,ha3,by decide,?_⟩
   refine zdk (j+(n+1)) hoL.rdW rfl (by omega) λa4 ha4=>⟨_,ha4,?_⟩
   generalize hX0:vl (L.drop j)=X at *
   generalize L.getD (j+(n+2)) 0=un at *
   generalize L.getD (j+(n+1)) 0=un1 at *
   generalize hun2e:L.getD (j+n) 0=un2 at *
   have hv1p:0<v1:=by unfold W at hv1b;omega
   have hv1ne:u64.wrap (v1:Int)≠0:=by rw[u64W hv1];omega
   have hnum:un*W+un1<18446744073709551616:=by unfold W at *;omega
   rw[u64W hun,or32 hun hun1,u64W hv1,tdivn,tmodn,u64n (n:=(un*W+un1)/v1) (Nat.lt_of_le_of_lt (Nat.div_le_self _ _) hnum)]
   refine⟨by omega,by omega,?_⟩
   have hPpos:0<W ^ n:=Nat.pow_pos W_pos
   have hVle:(v1*W+v2)*W ^ n<=V:=by rw[hVtop];omega
   have hVlt:V<(v1*W+v2+1)*W ^ n:=by rw[hVtop,Nat.add_mul _ 1];omega
   have hXle:((un*W+un1)*W+un2)*W ^ n<=X:=by omega
   have hXlt:X<((un*W+un1)*W+un2+1)*W ^ n:=by rw[Nat.add_mul _ 1];omega
   have hunv:un<=v1:=by
    refine un_le (X:=X) (V:=V) (P:=W ^ n) (w:=W) (v1:=v1) (v2:=v2) ?_ (Nat.le_of_lt hVlt) hXV hv2
    refine Nat.le_trans (Nat.mul_le_mul_right _ ?_) hXle
    rw[Nat.add_mul];omega
   have hqW:X/V<W:=(Nat.div_lt_iff_lt_mul hVpos).2 (by rw[Nat.mul_comm];exact hXV)
   refine za9 (λst h'=>h'=h3/\∃qh:Nat,st=((qh:Int),())/\qh<W/\X/V<=qh/\qh<=X/V+1) ?_ ?_
   . rintro _ h' ⟨rfl,qh,rfl,hqh,hq1,hq2⟩
     refine za9 (λst h5=>st=(((X/V:Nat):Int),())/\∃L2,LeX a13.block h' h5/\OwnW h h5 u L2/\okW L2/\L2.length=N+1/\vl L2+W ^ j*(X/V*V)=vl L/\vl (L2.drop j)<V) ?_ ?_
     . rintro _ h5 ⟨rfl,L2,hle5,hoL2,okL2,hL2l,hv2L,hL2V⟩
       have hor5:OwnW h h5 q r:=hor.leX hle5 hb13 hq13
       refine zi6 j (X/V) ha16 hor5 rfl (by omega) (u32lt hqW) λh6 hl6 ho6=>?_
       exact⟨⟨j,L2,_,by rw[w64 (by omega)],by omega,hoL2.leX hl6 hb16h hu16,okL2,hL2l,ho6,zdh okr hqW,by simp[hrl],(hv3.leX hle5 hne13).leX hl6 hne16,hL2V,zaf5 rfl hval hv2L (by omega)⟩,by rw[w64 (by omega)];omega⟩
     . refine zac8 j (j+(n+2)+1) rfl rfl (by omega) (by omega) ?_
       refine zaew ?_
       have e0:j+(n+2)+1=j+(dg V).length+1:=by omega
       rw[e0]
       refine zapu ha13 hoL okL hv3 (ok_dg V) hne13 (by omega) hqh (by omega) λh6 L1 b hle6 hoL1 okL1 hL1l htk hdr hb hsv=>?_
       rw[vl_dg,hVn]at hsv
       rw[hVn]at hdr
       have hwin:=win (e:=n+2+1) hL1l (by omega) htk (by rw[<-Nat.add_assoc];exact hsv)
       rw[hX0]at hwin
       have hlt1:vl (L1.drop j)<W ^ (n+2+1):=zanp okL1 (by omega) (by rw[<-Nat.add_assoc];exact hdr) hz0
       refine zbl (λhb1=>?_) (λhb1=>?_)
       . obtain rfl:b=1:=by omega
         refine zac8 j (j+(dg V).length+1) rfl (by rw[hVn]) (by omega) (by have:=hoL1.2.2.1;have:=hoL1.len;omega) ?_
         refine zaew ?_
         refine zai8 ha13 hoL1 okL1 (hv3.leX hle6 hne13) (ok_dg V) hne13 (by omega) (by omega) λh7 L2 c hle7 hoL2 okL2 hL2l htk2 hdr2 hc hrv=>?_
         rw[vl_dg,hVn]at hrv
         rw[hVn]at hdr2
         have hz1:vl (L1.drop (j+(n+2+1)))=0:=by rw[<-Nat.add_assoc,hdr,Nat.add_assoc];exact hz0
         have hlt2:vl (L2.drop j)<W ^ (n+2+1):=zanp okL2 (by omega) (by rw[<-Nat.add_assoc];exact hdr2) hz1
         obtain⟨rfl,g2,g3⟩:=ks1 hVpos hq1 hq2 hX0 hL1l hL2l (by omega) htk htk2 hwin hlt1 hlt2 hc (by rw[<-Nat.add_assoc];exact hrv)
         refine⟨?_,L2,hle6.trans hle7,hoL2,okL2,by rw[hL2l,hL1l,hLl],g2,g3⟩
         simp only
         rw[zal0,u64W hqW]
       . obtain rfl:b=0:=by omega
         obtain⟨rfl,g2⟩:=ks0 hVpos hq1 hwin
         refine⟨rfl,L1,hle6,hoL1,okL1,by rw[hL1l,hLl],?_,g2⟩
         rw[Nat.mul_zero,Nat.add_zero]at hsv;exact hsv
   . 
    refine zaa (λst h'=>h'=h3/\∃qh rh:Nat,st=((qh:Int),(rh:Int),())/\qh*v1+rh=un*W+un1/\rh<W/\X/V<=qh/\qh<18446744073709551616) (λst=>st.1.toNat) ⟨rfl,_,_,rfl,by rw[Nat.mul_comm];exact Nat.div_add_mod _ _,Nat.lt_of_lt_of_le (Nat.mod_lt _ hv1p) (Nat.le_of_lt hv1),?_,Nat.lt_of_le_of_lt (Nat.div_le_self _ _) hnum⟩ ?_
    . exact za8u hPpos hv1p hVle hXlt hun2
    . rintro _ h' ⟨rfl,qh,rh,rfl,hqr,hrh,hq1,hq64⟩
      refine za9 (λ_ h5=>h5=h'/\X/V<qh) ?_ ?_
      . rintro _ h5 ⟨rfl,hlt5⟩
        have hqp:0<qh:=Nat.lt_of_le_of_lt (Nat.zero_le _) hlt5
        have hqm:X/V<=qh-1:=Nat.le_sub_one_of_lt hlt5
        have e1:u64.wrap ((rh:Int)+(v1:Int))=((rh+v1:Nat):Int):=by
         rw[show(rh:Int)+(v1:Int)=((rh+v1:Nat):Int)by omega,u64n (by unfold W at *;omega)]
        have e2:u64.wrap ((qh:Int)-1)=((qh-1:Nat):Int):=by
         rw[show(qh:Int)-1=((qh-1:Nat):Int)by omega,u64n (by omega)]
        have e3:(qh-1)*v1+(rh+v1)=un*W+un1:=by
         obtain⟨q1,rfl⟩:∃q1,qh=q1+1:=⟨qh-1,by omega⟩
         rw[Nat.add_mul]at hqr
         simp only[Nat.add_sub_cancel]
         omega
        simp only
        rw[e1,e2]
        refine za5 (λh6=>?_) (λh6=>?_)
        . have h7:=za3u (w:=W) (by decide) hXle hVlt hVpos hPpos e3 rfl hv1b hunv hun1 hv2 hun2 (.inl (by unfold W;omega))
          exact⟨by trivial,qh-1,rfl,h7.1,hqm,h7.2⟩
        . exact⟨⟨by trivial,qh-1,rh+v1,rfl,e3,by unfold W;omega,hqm,by omega⟩,by omega⟩
      . refine za5 (λh6=>?_) (λh6=>?_)
        . refine⟨by trivial,?_⟩
          simp only at h6
          exact za3t hXlt hVle hVpos hqr hXV (.inl (by unfold W;omega))
        . simp only at h6
          refine⟨by decide,zdk (j+n) hoL.rdW rfl (by omega) λa5 ha5=>⟨_,ha5,?_⟩⟩
          have hqW2:qh<W:=by unfold W;omega
          have e1:u64.wrap ((qh:Int)*u64.wrap (v2:Int))=((qh*v2:Nat):Int):=by
           rw[u64W hv2,show(qh:Int)*(v2:Int)=((qh*v2:Nat):Int)by simp]
           refine u64n ?_
           have:qh*v2<=4294967295*4294967295:=Nat.mul_le_mul (by unfold W at *;omega) (by unfold W at *;omega)
           omega
          rw[hun2e]
          simp only
          rw[e1,or32 hrh hun2]
          refine za5 (λh7=>?_) (λh7=>?_)
          . refine⟨by trivial,?_⟩
            exact za3t hXlt hVle hVpos hqr hXV (.inr (by omega))
          . have h8:=za3u (w:=W) (by decide) hXle hVlt hVpos hPpos hqr rfl hv1b hunv hun1 hv2 hun2 (.inr ⟨hqW2,by omega⟩)
            exact⟨by trivial,qh,rfl,h8.1,hq1,h8.2⟩
 . obtain rfl:k=0:=by have:¬(k:Int)-1>=0:=h4;omega
   simp only[List.drop_zero,Nat.pow_zero,Nat.one_mul]at hlt hval
   have hVq:A/B=vl r:=by
    have h5:A*2 ^ s/(B*2 ^ s)=A/B:=Nat.mul_div_mul_right _ _ (Nat.two_pow_pos s)
    rw[hV,hval,Nat.mul_add_div hVpos,Nat.div_eq_of_lt hlt,Nat.add_zero]at h5
    exact h5.symm
   have hVr:vl L=A % B*2 ^ s:=by
    have h5:A*2 ^ s % (B*2 ^ s)=A % B*2 ^ s:=Nat.mul_mod_mul_right _ _ _
    rw[hV,hval,Nat.mul_add_mod,Nat.mod_eq_of_lt hlt]at h5
    exact h5
   refine zac8 0 (n+2) rfl (by omega) (by omega) (by omega) ?_
   have hcut:=hoL.rdW.cut 0 (n+2) (by omega) (by omega)
   rw[List.drop_zero,Nat.sub_zero]at hcut
   have hcv:vl (L.take (n+2))=vl L:=by
    have e1:=zax (l:=L) (k:=n+2) (by omega)
    have e2:=zn5 (a:=0) (b:=n+2) okL (by rw[List.drop_zero];exact Nat.lt_trans hlt hVu)
    rw[Nat.zero_add]at e2
    rw[e2]at e1;omega
   refine zf1 hor.rdW (by omega) λz1 hz1=>?_
   rw[zar okr,<-hVq]at hz1
   refine zf1 hcut (by rw[List.length_take];omega) λz2 hz2=>?_
   rw[zar (zhh okL _),hcv]at hz2
   have hz2l:(dg (vl L)).length<=n+2:=zbs.2 (Nat.lt_trans hlt hVu)
   refine zana hz2 (ok_dg _) hs31 (by omega) λz3 h5 r3 hl5 hz3 okr3 hr3l hr3v=>?_
   rw[vl_dg,hVr,Nat.mul_div_cancel _ (Nat.two_pow_pos s)]at hr3v
   refine zf1 hz3 (by omega) λz4 hz4=>?_
   rw[zar okr3,hr3v]at hz4
   exact H _ _ _ (Hp.le_trans hoL.1 hl5) (hz1.le hl5) hz4
theorem zwn{A B:Nat}(hx:RdW h x (dg A))(hy:RdW h y (dg B))(hB:B≠0)(hl:(dg A).length<=35184372088000)(hl2:(dg B).length<=35184372088000)
 (H:∀q r h',h.le h'->RdW h' q (dg (A/B))->RdW h' r (dg (A % B))->Kp (q,r) h'):callP (F.zcg x y) Kp h:=
 za3 (λv h'=>RdW h' v.1 (dg (A/B))/\RdW h' v.2 (dg (A % B))) (λK' hk=>zak8 hx hy hB hl hl2 λq r h' h1 h2 h3=>hk _ _ h1 ⟨h2,h3⟩) λv h' h1 ⟨h2,h3⟩=>H v.1 v.2 h' h1 h2 h3
end
end Den
end

section
set_option maxHeartbeats 4000000
namespace Iv
theorem zan5{L:List Nat}{j i v:Nat}:(L.set (j+i) v).drop j=(L.drop j).set i v:=by
 rw[List.drop_set,if_neg (by omega)]
 congr 1;omega
theorem zanl{L L2:List Nat}{X V j:Nat}(hV:0<V)(hX:vl (L.drop j)=X)(hl:L2.length=L.length)(hj:j<=L.length)(ht:L2.take j=L.take j)(h:vl (L2.drop j)=X-X/V*V) :
 vl L2+W ^ j*(X/V*V)=vl L/\vl (L2.drop j)<V:=by
 have hmd:=Nat.div_mul_le_self X V
 have h5:=Nat.mod_add_div' X V
 have h6:=Nat.mod_lt X hV
 refine⟨?_,by omega⟩
 have k0:=zax hj
 have k2:=zax (l:=L2) (k:=j) (by omega)
 rw[hX]at k0
 rw[ht]at k2
 rw[k2,k0,h]
 have:W ^ j*(X-X/V*V)+W ^ j*(X/V*V)=W ^ j*X:=by
  rw[<-Nat.mul_add];congr 1;omega
 omega
end Iv
namespace Den
open Go Iv
section
variable {h : Hp} {x y : Sl} {l m : List Nat} {Ks : Sl → Hp → Prop} {Ki : Int → Hp → Prop} {Kp : (Sl × Sl) → Hp → Prop} {Kq : (Int × Sl) → Hp → Prop}
theorem za87{n X V v1 v2 un un1 un2:Nat}(hx:RdW h x l)(ol:okW l)(hll:l.length=n+3)(hlX:vl l=X)(hy:RdW h y (dg V))(hVn:(dg V).length=n+2)(hn:n<=35184372088000)
 (eun:l.getD (n+2) 0=un) (eun1:l.getD (n+1) 0=un1) (ev1:(dg V).getD (n+1) 0=v1) (hV0:0<V) (hv1p:0<v1) (hVle:(v1*W+v2)*W ^ n<=V) (hXlt:X<((un*W+un1)*W+un2+1)*W ^ n) (hu2:un2<W) (hqW:X/V<W)
 (H:∀z h',h.le h'->RdW h' z (dg (X/V*V))->Fresh h z->Kq (((X/V:Nat):Int),z) h'):callP (F.zkn x y) Kq h:=by
 refine za3 (λv h'=>v.1=((X/V:Nat):Int)/\RdW h' v.2 (dg (X/V*V))/\Fresh h v.2) (λK' hk=>?_) λ⟨v,z⟩ h' hl ⟨h1,h2,h3⟩=>by
  simp only at h1;subst h1
  exact H z h' hl h2 h3
 unfold F.zkn
 have lx:=hx.len
 have ly:=hy.len
 have hun:un<W:=by rw[<-eun];exact zcu ol _
 have hun1:un1<W:=by rw[<-eun1];exact zcu ol _
 have hv1:v1<W:=by rw[<-ev1];exact zcu (ok_dg V) _
 refine zdk (n+2) hx (by rw[ly,hVn]) (by omega) λa1 ha1=>⟨_,ha1,by decide,?_⟩
 refine zdk (n+1) hx (by rw[ly,hVn,w64 (by omega)];omega) (by omega) λa2 ha2=>⟨_,ha2,?_⟩
 refine zdk (n+1) hy (by rw[ly,hVn,w64 (by omega)];omega) (by omega) λa3 ha3=>⟨_,ha3,?_⟩
 rw[eun,eun1,ev1]
 have hnum:un*W+un1<18446744073709551616:=by unfold W at *;omega
 simp only
 rw[u64W hun,or32 hun hun1,u64W hv1,tdivn,u64n (n:=(un*W+un1)/v1) (Nat.lt_of_le_of_lt (Nat.div_le_self _ _) hnum)]
 refine⟨by omega,?_⟩
 have hfe:=za8u (Nat.pow_pos W_pos) hv1p hVle hXlt hu2
 refine za9 (λst h'=>h'=h/\∃e:Nat,st=((e:Int),())/\e<W/\X/V<=e) ?_ ?_
 . rintro _ h' ⟨rfl,e,rfl,heW,hqe⟩
   simp only
   rw[u32lt heW]
   refine zeq (n:=1) (size:=1) rfl λb h2 hb ho=>?_
   have ho':OwnW h' h2 ⟨some ⟨b,0,none⟩,1,1⟩ [e]:=ho
   refine zut (hy.le ho.1) ho'.rdW (ok_dg V) (λd hd=>by rw[List.mem_singleton.1 hd];exact heW) (by simp;omega) λz h3 hl3 hz hf=>?_
   rw[vl_dg]at hz
   have ez:V*vl [e]=e*V:=by simp[vl,Nat.mul_comm]
   rw[ez]at hz
   refine zaa (λst h4=>∃(e:Nat) (z:Sl),st=((e:Int),z,())/\e<W/\X/V<=e/\h'.le h4/\RdW h4 z (dg (e*V))/\Fresh h' z) (λst=>st.1.toNat) ⟨e,z,rfl,heW,hqe,Hp.le_trans ho.1 hl3,hz,hf.le ho.1⟩ ?_
   rintro _ h4 ⟨e,z,rfl,heW,hqe,hl4,hz,hf⟩
   refine zck (hx.le hl4) (by omega) λw hw=>?_
   rw[zar ol,hlX]at hw
   have hXl:(dg X).length<=n+3:=zbs.2 (by rw[<-hlX,<-hll];exact vl_lt ol)
   have heVl:(dg (e*V)).length<=n+3:=by
    refine zbs.2 ?_
    have h5:V<W ^ (n+2):=by rw[<-hVn];exact zbs.1 (Nat.le_refl _)
    rw[Nat.pow_succ,Nat.mul_comm]
    exact Nat.mul_lt_mul'' h5 heW
   refine zl8 hw hz (by omega) (by omega) ?_
   unfold cmpN
   by_cases hc:X<e*V
   . rw[if_pos hc]
     refine zb1 rfl ?_
     have hlt:X/V<e:=(Nat.div_lt_iff_lt_mul hV0).2 hc
     have hep:0<e:=Nat.lt_of_le_of_lt (Nat.zero_le _) hlt
     have hVe:V<=e*V:=Nat.le_mul_of_pos_left _ hep
     refine zn0 hz (hy.le hl4) (ok_dg _) (ok_dg V) (by omega) (zcs hVe) (by rw[vl_dg,vl_dg];exact hVe) λz2 h5 hl5 hz2 hf2=>?_
     rw[vl_dg,vl_dg]at hz2
     have e6:e*V-V=(e-1)*V:=by rw[Nat.sub_mul,Nat.one_mul]
     rw[e6]at hz2
     have e7:u64.wrap ((e:Int)-1)=((e-1:Nat):Int):=by
      rw[show(e:Int)-1=((e-1:Nat):Int)by omega,u64W (by omega)]
     simp only
     rw[e7]
     exact⟨⟨e-1,z2,rfl,by omega,Nat.le_sub_one_of_lt hlt,Hp.le_trans hl4 hl5,hz2,hf2.le hl4⟩,by omega⟩
   . rw[if_neg hc]
     refine zab (by split<;>rfl) ?_
     have h5:e*V<=X:=Nat.le_of_not_lt hc
     have h6:=(Nat.le_div_iff_mul_le hV0).2 h5
     have h7:e=X/V:=Nat.le_antisymm h6 hqe
     simp only
     rw[h7]at hz |-
     exact hk _ _ hl4 ⟨u32lt hqW,hz,hf⟩
 . refine za5 (λh1=>?_) (λh1=>?_)
   . exact⟨rfl,4294967295,rfl,by decide,by unfold W at hqW;exact Nat.le_of_lt_succ hqW⟩
   . have h2:(un*W+un1)/v1<=4294967295:=by
      clear H hfe hXlt hVle hqW
      generalize (un*W+un1)/v1=z at *
      omega
     exact⟨rfl,_,rfl,Nat.lt_of_le_of_lt h2 (by decide),hfe⟩
theorem zabl{n N:Nat}(hx:RdW h x (dg n))(hN:(dg n).length=N+1)(hl:(dg n).length<=35184372088800)(H:Ki ((32*N+bl ((dg n)[N]'(by omega)):Nat):Int) h):callP (F.zgd x) Ki h:=by
 refine zafe hx hl ?_
 rw[dif_neg (by omega)]
 have e1:(dg n)[(dg n).length-1]'(by omega)=(dg n)[N]'(by omega):=by congr 1;omega
 rw[e1]
 have e2:(dg n).length-1=N:=by omega
 generalize hq:bl ((dg n)[N]'(by omega))=q at *
 rw[e2];exact H
theorem zai7{A B:Nat}(hx:RdW h x (dg A))(hy:RdW h y (dg B))(hB:B≠0)(hl:(dg A).length<=35184372088000)(hl2:(dg B).length<=35184372088000)
 (H:∀q r h',h.le h'->RdW h' q (dg (A/B))->RdW h' r (dg (A % B))->Kp (q,r) h'):F.zey x y Kp h:=by
 unfold F.zey
 have lx:=hx.len
 have ly:=hy.len
 refine zl8 hx hy (by omega) (by omega) ?_
 unfold cmpN
 by_cases hAB:A<B
 . rw[if_pos hAB]
   refine zb1 rfl ?_
   refine H _ _ _ (Hp.le_refl _) ?_ ?_
   . rw[Nat.div_eq_of_lt hAB,zbg];exact RdW.nil
   . rw[Nat.mod_eq_of_lt hAB];exact hx
 rw[if_neg hAB]
 refine zab (by split<;>rfl) ?_
 have hBl:=zcs (Nat.le_of_not_lt hAB)
 have hB0:(dg B).length≠0:=λh0=>hB (zgz.1 (List.length_eq_zero_iff.1 h0))
 refine za5 (λh1=>?_) (λh1=>?_)
 . refine za4k hx (ok_dg A) (by omega) (za4k hy (ok_dg B) (by omega) ?_)
   rw[vl_dg,vl_dg]
   have hA64:A<18446744073709551616:=by
    have:=(zbs (n:=A) (k:=2)).1 (by omega)
    have e:W ^ 2=18446744073709551616:=by decide
    omega
   have hq:A/B<=A:=Nat.div_le_self A B
   have hr:A % B<=A:=Nat.mod_le A B
   refine⟨by omega,by omega,?_⟩
   rw[tdivn,tmodn,u64n (by omega)]
   refine zk5 rfl (by omega) λz h4 hl4 hz=>zk5 rfl (by omega) λw h5 hl5 hw=>?_
   exact H _ _ _ (Hp.le_trans hl4 hl5) (hz.le hl5) hw
 refine zbl (λh2=>?_) (λh2=>?_)
 . have hB1:=za0a (B:=B) (by omega)
   have hBW:B<W:=ok_dg B B (by rw[hB1];exact List.mem_singleton.2 rfl)
   refine zdk 0 hy rfl (by omega) λa ha=>⟨_,ha,?_⟩
   have e0:(dg B).getD 0 0=B:=by rw[hB1];rfl
   rw[e0]
   refine zao4 hx (ok_dg A) (Nat.pos_of_ne_zero hB) hBW (by omega) λz h3 hl3 hz=>?_
   rw[vl_dg]at hz |-
   have:=Nat.mod_lt A (Nat.pos_of_ne_zero hB)
   simp only
   rw[u64W (Nat.lt_trans this hBW)]
   refine zk5 rfl (by unfold W at hBW;omega) λw h5 hl5 hw=>H _ _ _ (Hp.le_trans hl3 hl5) (hz.le hl5) hw
 obtain⟨n,hn⟩:∃n,(dg B).length=n+2:=⟨(dg B).length-2,by omega⟩
 obtain⟨N,hN⟩:∃N,(dg A).length=N:=⟨_,rfl⟩
 obtain⟨s,hs,hbl,hs31,hVl,hVu⟩:=zafp (B:=B) (n:=n+1) hn
 refine zabl hy hn (by omega) ?_
 have es:i64.wrap (i64.wrap (32*(y.len:Int))-((32*(n+1)+bl (dg B)[n+1]:Nat):Int))=(s:Int):=by
  rw[hs]
  generalize bl (dg B)[n+1]=z at *
  rw[ly,hn,w64 (n:=32*((n+2:Nat):Int)) (by omega),w64 (by omega)]
  omega
 rw[es]
 refine za99 hx (ok_dg A) hs31 (by omega) λu h9 U ho9 okU hUl hUv=>?_
 rw[vl_dg]at hUv
 refine za99 (hy.le ho9.1) (ok_dg B) hs31 (by omega) λv0 h10 V0 ho10 okV0 hV0l hV0v=>?_
 rw[vl_dg]at hV0v
 refine zou ho10.rdW (by omega) λv hv hsub=>?_
 rw[zar okV0,hV0v]at hv
 generalize hV:B*2 ^ s=V at *
 have hVpos:0<V:=Nat.lt_of_lt_of_le (Nat.mul_pos (Nat.pow_pos W_pos) (by decide)) hVl
 have hVn:(dg V).length=n+2:=zafo hVl hVu
 have lu:=ho9.len
 have lv:=hv.len
 have hN2:n+2<=N:=by omega
 refine zeo N N (by omega) (by omega) (by omega) (by omega) λq h12 hq ho12=>?_
 obtain⟨a13,ha13,hb13,hc13⟩:=Own.some ho9 (by omega)
 obtain⟨a16,ha16,hb16,hc16⟩:=Own.some ho12 (by simp;omega)
 have hlh:h.le h10:=Hp.le_trans ho9.1 ho10.1
 have hb16h:h a16.block=none:=Hp.none_of_le hlh hb16
 have ne16:a13.block≠a16.block:=λhh=>by
  have h3:=Hp.none_of_le ho10.1 hb16
  rw[<-hh]at h3;exact hc13 h3
 have hvne:∀a,v.a=some a->a.block≠a13.block/\a.block≠a16.block:=λa ha=>by
  obtain⟨a',h3,h4⟩:=hsub a ha
  rw[h4]
  constructor
  . exact ztm ho9 ho10 a13 a' ha13 h3 |>.symm
  . exact ztm ho10 ho12 a' a16 h3 ha16
 have hne13:∀a,v.a=some a->a.block≠a13.block:=λa ha=>(hvne a ha).1
 have hne16:∀a,v.a=some a->a.block≠a16.block:=λa ha=>(hvne a ha).2
 have hu16:∀a,u.a=some a->a.block≠a16.block:=λa ha=>by rw[ha13]at ha;cases ha;exact ne16
 have hq13:∀a,q.a=some a->a.block≠a13.block:=λa ha=>by rw[ha16]at ha;cases ha;exact ne16.symm
 have hou:OwnW h h12 u U:=(ho9.le ho10.1).le ho12.1
 have hoq:OwnW h h12 q (List.replicate N 0):=ho12.base hlh
 have hv12:RdW h12 v (dg V):=hv.le ho12.1
 obtain⟨P,lo2,hP,hlo2,hVtop,_⟩:=top2 (ok_dg V) (n:=n) hVn
 rw[vl_dg]at hVtop
 have hv1:(dg V).getD (n+1) 0<W:=zcu (ok_dg V) _
 have hv2:(dg V).getD n 0<W:=zcu (ok_dg V) _
 generalize hgv1:(dg V).getD (n+1) 0=v1 at *
 generalize hgv2:(dg V).getD n 0=v2 at *
 subst hP
 have hv1b:W<=2*v1:=zagp hVl hVtop hlo2 hv2
 have hAl:A<W ^ N:=zbs.1 (by omega)
 have hfirst:vl (U.drop (N-(n+1)))<V:=zaf8 (n:=n+1) (by omega) hUv hAl hs31 (by omega) hVl
 refine zaa (λst h'=>∃(k:Nat) (L r:List Nat),st=((k:Int)-1,())/\k<=N-n-1/\OwnW h h' u L/\okW L/\L.length=N+1/\OwnW h h' q r/\okW r/\r.length=N/\RdW h' v (dg V)/\h' a13.block≠none/\h' a16.block≠none /\
  vl (L.drop k)<V/\A*2 ^ s=V*(W ^ k*vl (r.drop k))+vl L) (λst=>(st.1+1).toNat)
  ⟨N-n-1,U,_,by rw[lv,hVn,lx,hN,w64 (by omega)];congr 1;omega,Nat.le_refl _,hou,okU,by omega,hoq,zjw _,by simp,hv12,?_,hc16,by rw[show N-n-1=N-(n+1)by omega];exact hfirst,by rw[List.drop_replicate,zaiy,hUv];simp⟩ ?_
 . have:h9.le h12:=Hp.le_trans ho10.1 ho12.1
   intro hh;exact hc13 (Hp.none_of_le this hh)
 rintro st h3 ⟨k,L,r,rfl,hk,hoL,okL,hLl,hor,okr,hrl,hv3,hn13,hn16,hlt,hval⟩
 have llu:=hoL.len
 have hucap:=hoL.2.2.1
 refine za5 (λh4=>?_) (λh4=>?_)
 . obtain⟨j,rfl⟩:∃j,k=j+1:=⟨k-1,by have:(k:Int)-1>=0:=h4;omega⟩
   have hji:((j+1:Nat):Int)-1=(j:Int):=by omega
   have wj:i64.wrap ((j:Int)+(v.len:Int))=((j+(n+2):Nat):Int):=by rw[lv,hVn,w64 (by omega)];omega
   have wj3:i64.wrap (((j+(n+2):Nat):Int)+1)=((j+(n+3):Nat):Int):=by rw[w64 (by omega)];omega
   simp only[hji,wj,wj3]
   have hlt2:vl (L.drop (j+1))<W ^ (n+2):=Nat.lt_trans hlt hVu
   have hz0:vl (L.drop (j+(n+3)))=0:=by
    have:=zn5 okL hlt2
    rw[show j+1+(n+2)=j+(n+3)by omega]at this
    exact this
   obtain⟨lo,hlo,hX⟩:=zajt (n:=n) okL (j:=j) (by omega) hz0
   have hun2:L.getD (j+n) 0<W:=zcu okL _
   have hXV:vl (L.drop j)<V*W:=zagr okL (by omega) hlt
   have hwX:vl ((L.drop j).take (n+3))=vl (L.drop j):=by
    have e1:=zax (l:=L.drop j) (k:=n+3) (by rw[List.length_drop];omega)
    rw[List.drop_drop,hz0]at e1;omega
   have hg:∀i,i<n+3->((L.drop j).take (n+3)).getD i 0=L.getD (j+i) 0:=λi hi=>by
    simp only[List.getD_eq_getElem?_getD,List.getElem?_take,hi,if_true,List.getElem?_drop]
   have hcut:=hoL.rdW.cut j (j+(n+3)) (by omega) (by omega)
   rw[show j+(n+3)-j=n+3 by omega]at hcut
   refine zac8 j (j+(n+3)) rfl rfl (by omega) (by omega) ?_
   generalize hX0:vl (L.drop j)=X at *
   have hv1p:0<v1:=by unfold W at hv1b;omega
   have hVle:(v1*W+v2)*W ^ n<=V:=by rw[hVtop];omega
   have hXlt:X<((L.getD (j+(n+2)) 0*W+L.getD (j+(n+1)) 0)*W+L.getD (j+n) 0+1)*W ^ n:=by rw[Nat.add_mul _ 1];omega
   have hqW:X/V<W:=(Nat.div_lt_iff_lt_mul hVpos).2 (by rw[Nat.mul_comm];exact hXV)
   have hwl:((L.drop j).take (n+3)).length=n+3:=by rw[List.length_take,List.length_drop];omega
   refine za87 (X:=X) hcut (zhh (zmm okL _) _) hwl hwX hv3 hVn (by omega) (hg _ (by omega)) (hg _ (by omega)) hgv1 hVpos hv1p hVle hXlt hun2 hqW λz h5 hl5 hz hfz=>?_
   have hoL5:OwnW h h5 u L:=hoL.le hl5
   have hor5:OwnW h h5 q r:=hor.le hl5
   have hz16:=hfz.ne hn16
   refine zi6 j (X/V) ha16 hor5 rfl (by omega) rfl λh6 hl6 hor6=>?_
   have hoL6:OwnW h h6 u L:=hoL5.leX hl6 hb16h hu16
   have hcut6:=hoL6.rdW.cut j (j+(n+3)) (by omega) (by omega)
   rw[show j+(n+3)-j=n+3 by omega]at hcut6
   have hz6:=hz.leX hl6 hz16
   have hn13':h6 a13.block≠none:=by
    cases hh:h5 a13.block with
    | none=>exact absurd (Hp.none_of_le hl5 hh) hn13
    | some B2=>rw[hl6 _ _ ne16 hh];exact λe=>by cases e
   refine zck hcut6 (by rw[hwl];omega) λw hw=>?_
   rw[zar (zhh (zmm okL _) _),hwX]at hw
   have hXl:(dg X).length<=n+3:=zbs.2 (by have:=vl_lt (zhh (zmm okL j) (n+3));rw[hwX,hwl]at this;exact this)
   have hmd:=Nat.div_mul_le_self X V
   refine zn0 hw hz6 (ok_dg X) (ok_dg _) (by omega) (zcs hmd) (by rw[vl_dg,vl_dg];exact hmd) λr21 h7 hl7 hr21 hf21=>?_
   rw[vl_dg,vl_dg]at hr21
   have hoL7:OwnW h h7 u L:=hoL6.le hl7
   have hne21:=hf21.ne hn13'
   have h21l:(dg (X-X/V*V)).length<=n+3:=by have:=zcs (Nat.sub_le X (X/V*V));omega
   have l21:=hr21.len
   refine zaa (λst h'=>∃(i:Nat) (L':List Nat),st=((i:Int),())/\i<=n+3/\LeX a13.block h7 h'/\OwnW h h' u L'/\okW L'/\L'.length=N+1/\L'.take j=L.take j/\L'.drop (j+(n+3))=L.drop (j+(n+3)) /\
    vl ((L'.drop j).take i)=vl ((dg (X-X/V*V)).take i)) (λst=>((n+3:Nat)-st.1).toNat) ⟨0,L,rfl,Nat.zero_le _,LeX.refl,hoL7,okL,hLl,rfl,rfl,by simp[vl]⟩ ?_
   rintro st h8 ⟨i,L',rfl,hi,hle8,hoL8,okL8,hL8l,ht8,hd8,hv8⟩
   have lc8:(u.cut j (j+(n+3)) 1).len=n+3:=by show j+(n+3)-j=n+3;omega
   have llu8:=hoL8.len
   have hucap8:=hoL8.2.2.1
   refine za5 (λh9=>?_) (λh9=>?_)
   . have hi':i<n+3:=by have:(i:Int)<((u.cut j (j+(n+3)) 1).len:Int):=h9;rw[lc8]at this;omega
     have hgw:=zcu (ok_dg (X-X/V*V)) i
     refine za9 (λ_ h'=>LeX a13.block h7 h'/\OwnW h h' u (L'.set (j+i) ((dg (X-X/V*V)).getD i 0))) ?_ ?_
     . rintro _ h' ⟨hle9,hoL9⟩
       refine⟨⟨i+1,_,by rw[w64 (by simp only;omega)];rfl,by omega,hle9,hoL9,zdh okL8 hgw,by simp[hL8l],by rw[zm5 (by omega)];exact ht8,by rw[zm4 (by omega)];exact hd8,?_⟩,by simp only;rw[w64 (by omega)];omega⟩
       rw[zan5,zdn (by rw[List.length_drop];omega),zi7,hv8]
     . refine zf8 rfl (by omega) (by omega) (zi6 (j+i) 0 ha13 hoL8 rfl (by omega) rfl λh10 hl10 ho10'=>?_)
       refine za5 (λh11=>?_) (λh11=>?_)
       . have hi2:i<(dg (X-X/V*V)).length:=by have:(i:Int)<(r21.len:Int):=h11;omega
         refine zdk i ((hr21.leX hle8 hne21).leX hl10 hne21) rfl hi2 λa5 ha5=>⟨_,ha5,?_⟩
         refine zf8 rfl (by omega) (by omega) (zi6 (j+i) _ ha13 ho10' rfl (by simp;omega) rfl λh12 hl12 ho12'=>⟨(hle8.trans hl10).trans hl12,?_⟩)
         rw[List.set_set]at ho12'
         exact ho12'
       . have hi2:(dg (X-X/V*V)).length<=i:=by have:¬(i:Int)<(r21.len:Int):=h11;omega
         rw[zel hi2]
         exact⟨hle8.trans hl10,ho10'⟩
   . have hi':i=n+3:=by have:¬(i:Int)<((u.cut j (j+(n+3)) 1).len:Int):=h9;rw[lc8]at this;omega
     subst hi'
     rw[List.take_of_length_le h21l,vl_dg]at hv8
     have hv9:vl (L'.drop j)=X-X/V*V:=by
      have e1:=zax (l:=L'.drop j) (k:=n+3) (by rw[List.length_drop];omega)
      rw[List.drop_drop,hd8,hz0]at e1
      omega
     obtain⟨g2,g3⟩:=zanl hVpos hX0 (by omega) (by omega) ht8 hv9
     have hn13'':h8 a13.block≠none:=by
      obtain⟨a,e1,_,e3⟩:=Own.some hoL8 (by omega)
      rw[ha13]at e1;cases e1;exact e3
     have hor8:OwnW h h8 q (r.set j (X/V)):=(hor6.le hl7).leX hle8 hb13 hq13
     have hn16':h8 a16.block≠none:=by
      obtain⟨a,e1,_,e3⟩:=Own.some hor8 (by simp;omega)
      rw[ha16]at e1;cases e1;exact e3
     exact⟨⟨j,L',_,by rw[w64 (by omega)],by omega,hoL8,okL8,hL8l,hor8,zdh okr hqW,by simp[hrl],(((hv3.le hl5).leX hl6 hne16).le hl7).leX hle8 hne13,hn13'',hn16',g3,zaf5 rfl hval g2 (by omega)⟩,by rw[w64 (by omega)];omega⟩
 . obtain rfl:k=0:=by have:¬(k:Int)-1>=0:=h4;omega
   simp only[List.drop_zero,Nat.pow_zero,Nat.one_mul]at hlt hval
   have hVq:A/B=vl r:=by
    have h5:A*2 ^ s/(B*2 ^ s)=A/B:=Nat.mul_div_mul_right _ _ (Nat.two_pow_pos s)
    rw[hV,hval,Nat.mul_add_div hVpos,Nat.div_eq_of_lt hlt,Nat.add_zero]at h5
    exact h5.symm
   have hVr:vl L=A % B*2 ^ s:=by
    have h5:A*2 ^ s % (B*2 ^ s)=A % B*2 ^ s:=Nat.mul_mod_mul_right _ _ _
    rw[hV,hval,Nat.mul_add_mod,Nat.mod_eq_of_lt hlt]at h5
    exact h5
   refine zck hor.rdW (by omega) λz1 hz1=>?_
   rw[zar okr,<-hVq]at hz1
   refine zck hoL.rdW (by omega) λz2 hz2=>?_
   rw[zar okL]at hz2
   have hz2l:(dg (vl L)).length<=n+2:=zbs.2 (Nat.lt_trans hlt hVu)
   refine zajw hz2 (ok_dg _) hs31 (by omega) λz3 h5 hl5 hz3=>?_
   rw[vl_dg,hVr,Nat.mul_div_cancel _ (Nat.two_pow_pos s)]at hz3
   exact H _ _ _ (Hp.le_trans hoL.1 hl5) (hz1.le hl5) hz3
theorem zup{A B:Nat}(hx:RdW h x (dg A))(hy:RdW h y (dg B))(hB:B≠0)(hl:(dg A).length<=35184372088000)(hl2:(dg B).length<=35184372088000)
 (H:∀q r h',h.le h'->RdW h' q (dg (A/B))->RdW h' r (dg (A % B))->Kp (q,r) h'):callP (F.zey x y) Kp h:=
 za3 (λv h'=>RdW h' v.1 (dg (A/B))/\RdW h' v.2 (dg (A % B))) (λK' hk=>zai7 hx hy hB hl hl2 λq r h' h1 h2 h3=>hk _ _ h1 ⟨h2,h3⟩) λv h' h1 ⟨h2,h3⟩=>H v.1 v.2 h' h1 h2 h3
end
end Den
end

section
namespace Den
open Go Iv
theorem zafc{P:Nat->Prop}(h:∃n,P n):∃n,P n/\∀m,P m->n<=m:=by
 obtain⟨n,hn⟩:=h
 induction n using Nat.strongRecOn with
 | _ n ih=>
   by_cases hm:∃m,m<n/\P m
   . obtain⟨m,h1,h2⟩:=hm
     exact ih m h1 h2
   . exact⟨n,hn,λm h2=>by
      rcases Nat.lt_or_ge m n with h3 | h3
      . exact absurd ⟨m,h3,h2⟩ hm
      . exact h3⟩
open Classical in
noncomputable def leastN(P:Nat->Prop):Nat:=if h:∃n,P n then Classical.choose (zafc h)else 0
theorem zwz{P:Nat->Prop}{n:Nat}(h:P n):P (leastN P)/\leastN P<=n:=by
 have h1:∃n,P n:=⟨n,h⟩
 unfold leastN
 rw[dif_pos h1]
 have:=Classical.choose_spec (zafc h1)
 exact⟨this.1,this.2 n h⟩
theorem zaff{S:Type}{body:S->(S->Hp->Prop)->Hp->Prop}{s0:S}{h0:Hp}(I:Nat->S->Hp->Prop)(n0:Nat)(h1:I n0 s0 h0)
 (h2:∀n s h,I n s h->∀K:S->Hp->Prop,(∀s' h' n',n'<n->I n' s' h'->K s' h')->body s K h):loopP body s0 h0:=by
 refine⟨λs h=>∃n,I n s h,λs h=>leastN λn=>I n s h,⟨n0,h1⟩,λs h ⟨n,hI⟩=>?_⟩
 have h3:=zwz (P:=λn=>I n s h) hI
 refine h2 _ s h h3.1 _ λs' h' n' hn hI'=>⟨⟨n',hI'⟩,?_⟩
 have h4:=zwz (P:=λn=>I n s' h') hI'
 exact Nat.lt_of_le_of_lt h4.2 hn
section
variable {h : Hp} {x y : Sl} {l : List Nat} {m n : Int} {a b : TInt} {Ks : Sl → Hp → Prop} {Ki : Int → Hp → Prop} {Kb : Bool → Hp → Prop} {KI : TInt → Hp → Prop} {KP : (TInt × TInt × Int) → Hp → Prop}
theorem za3r(x y:Nat):Nat.gcd y (x % y)=Nat.gcd x y:=by
 rw[Nat.gcd_comm x y,Nat.gcd_rec y x,Nat.gcd_comm]
theorem zajv(ha:NI h a m)(hb:NI h b n)(om:(dg m.natAbs).length<=35184372087808)(on:(dg n.natAbs).length<=35184372087808)(H:∀z h',h.le h'->NI h' z (Nat.gcd m.natAbs n.natAbs:Nat)->KI z h'):callP (F.zhy a b) KI h:=by
 refine za3 _ (λK' hk=>?_) H
 unfold F.zhy
 refine zp8 ha om λx hx=>zp8 hb on λy hy=>?_
 have om':=om
 have on':=on
 refine za9 (λst h'=>h.le h'/\∃A B:Nat,RdW h' st.1 (dg A)/\RdW h' st.2.1 (dg B)/\(dg A).length<=35184372087808/\Nat.gcd A B=Nat.gcd m.natAbs n.natAbs/\(dg B).length<=2/\(B≠0->(dg A).length<=2)) ?_ ?_
 . rintro⟨x,y,_⟩ h1 ⟨hl1,A,B,hA,hB,hAl,hg,hB2,hA2⟩
   simp only at hA hB |-
   have lB:=hB.len
   refine zbl (λh2=>?_) (λh2=>?_)
   . have hB0:B=0:=zgz.1 (List.length_eq_zero_iff.1 (by omega))
     subst hB0
     rw[Nat.gcd_zero_right]at hg
     refine zmg hA (by omega) λz h3 hl3 hz=>zd3 hz (by omega) λw hw=>hk _ _ (Hp.le_trans hl1 hl3) ?_
     rw[<-hg]
     exact hw
   . have hB0:B≠0:=λh0=>h2 (by rw[lB,h0,zbg];rfl)
     have hA2':=hA2 hB0
     refine zkx hA (ok_dg A) hA2' λh3 hl3=>zkx (hB.le hl3) (ok_dg B) hB2 λh4 hl4=>?_
     rw[vl_dg,vl_dg]
     have lt2:∀{n:Nat},(dg n).length<=2->n<18446744073709551616:=λhn=>by
      have:=(zbs (k:=2)).1 hn
      have e:W ^ 2=18446744073709551616:=by decide
      omega
     refine zaa (λst h'=>h.le h'/\∃A B:Nat,st=((A:Int),(B:Int),())/\A<18446744073709551616/\B<18446744073709551616/\Nat.gcd A B=Nat.gcd m.natAbs n.natAbs) (λst=>st.2.1.toNat)
      ⟨Hp.le_trans hl1 (Hp.le_trans hl3 hl4),A,B,rfl,lt2 hA2',lt2 hB2,hg⟩ ?_
     rintro _ h5 ⟨hl5,A,B,rfl,hA3,hB3,hg3⟩
     refine zoj (λh6=>⟨h6,?_⟩) (λh6=>?_)
     . have hB4:B≠0:=λh0=>h6 (by rw[h0];rfl)
       have:=Nat.mod_lt A (Nat.pos_of_ne_zero hB4)
       simp only
       rw[tmodn]
       exact⟨⟨hl5,B,A % B,rfl,hB3,by omega,by rw[za3r];exact hg3⟩,by omega⟩
     . have hB4:B=0:=by simp only at h6;omega
       subst hB4
       rw[Nat.gcd_zero_right]at hg3
       have:=dg2 hA3
       refine zf7 rfl hA3 λz h7 hl7 hz=>zd3 hz (by omega) λw hw=>hk _ _ (Hp.le_trans hl5 hl7) ?_
       rw[<-hg3]
       exact hw
 . refine zaff (λN st h'=>h.le h'/\∃A:Nat,RdW h' st.1 (dg A)/\RdW h' st.2.1 (dg N)/\(dg A).length<=35184372087808/\(dg N).length<=35184372087808/\Nat.gcd A N=Nat.gcd m.natAbs n.natAbs) n.natAbs
    ⟨Hp.le_refl _,m.natAbs,hx,hy,om',on',rfl⟩ ?_
   rintro B ⟨x,y,_⟩ h1 ⟨hl1,A,hA,hB,hAl,hBl,hg⟩ K hK
   simp only at hA hB |-
   have lA:=hA.len
   have lB:=hB.len
   have step:B≠0->callP (F.zcg x y) (λr17 h13=>K (y,r17.2,()) h13) h1:=λhB0=>by
    refine zwn hA hB hB0 (by omega) (by omega) λq r h2 hl2 hq hr=>?_
    have:=Nat.mod_lt A (Nat.pos_of_ne_zero hB0)
    exact hK _ _ (A % B) this ⟨Hp.le_trans hl1 hl2,B,hB.le hl2,hr,hBl,by have:=zcs (Nat.le_of_lt this);omega,by rw[za3r];exact hg⟩
   have hB0:0<y.len->B≠0:=λh0 hh=>by rw[lB,hh,zbg]at h0;exact absurd h0 (by decide)
   refine zuf ?_
   refine za5 (λh2=>step (hB0 (by omega))) (λh2=>za5 (λh3=>za5 (λh4=>step (hB0 (by omega))) (λh4=>?_)) (λh3=>?_))
   . exact⟨hl1,A,B,hA,hB,hAl,hg,by omega,λh5=>absurd (zgz.1 (List.length_eq_zero_iff.1 (by omega))) h5⟩
   . exact⟨hl1,A,B,hA,hB,hAl,hg,by omega,λ_=>by omega⟩
theorem zalo(ha:NI h a m)(hb:NI h b n)(om:Ok m)(on:Ok n)(H:∀z h',h.le h'->NI h' z (Nat.gcd m.natAbs n.natAbs:Nat)->KI z h'):callP (F.zhy a b) KI h:=
 zajv ha hb (Nat.le_trans om (by decide)) (Nat.le_trans on (by decide)) H
theorem za4d(ha:NI h a m)(hb:NI h b n)(om:(dg m.natAbs).length<=35184372087808)(on:(dg n.natAbs).length<=35184372087808)(H:∀z h',h.le h'->NI h' z (Nat.gcd m.natAbs n.natAbs:Nat)->KI z h'):callP (F.zex a b) KI h:=by
 refine za3 _ (λK' hk=>?_) H
 unfold F.zex
 refine zuu ha om λx hx=>zuu hb on λy hy=>?_
 have om':=om
 have on':=on
 refine zaff (λN st h'=>h.le h'/\∃A:Nat,RdW h' st.1 (dg A)/\RdW h' st.2.1 (dg N)/\(dg A).length<=35184372087808/\(dg N).length<=35184372087808/\Nat.gcd A N=Nat.gcd m.natAbs n.natAbs) n.natAbs
  ⟨Hp.le_refl _,m.natAbs,hx,hy,om',on',rfl⟩ ?_
 rintro B ⟨x,y,_⟩ h1 ⟨hl1,A,hA,hB,hAl,hBl,hg⟩ K hK
 simp only at hA hB |-
 have lA:=hA.len
 have lB:=hB.len
 refine za5 (λh2=>?_) (λh2=>?_)
 . have hB0:B≠0:=λhh=>by rw[lB,hh,zbg]at h2;exact absurd h2 (by decide)
   refine zup hA hB hB0 (by omega) (by omega) λq r h2 hl2 hq hr=>?_
   have:=Nat.mod_lt A (Nat.pos_of_ne_zero hB0)
   exact hK _ _ (A % B) this ⟨Hp.le_trans hl1 hl2,B,hB.le hl2,hr,hBl,by have:=zcs (Nat.le_of_lt this);omega,by rw[za3r];exact hg⟩
 . have hB0:B=0:=zgz.1 (List.length_eq_zero_iff.1 (by omega))
   subst hB0
   rw[Nat.gcd_zero_right]at hg
   refine zbj hA (by omega) λw hw=>hk _ _ hl1 ?_
   rw[<-hg]
   exact hw
theorem zph(ha:NI h a m)(hb:NI h b n)(om:Ok m)(on:Ok n)(H:∀z h',h.le h'->NI h' z (Nat.gcd m.natAbs n.natAbs:Nat)->KI z h'):callP (F.zex a b) KI h:=
 za4d ha hb (Nat.le_trans om (by decide)) (Nat.le_trans on (by decide)) H
theorem zwy(ha:NI h a m)(H:Kb (decide (m=0)) h):callP (F.ze5 a) Kb h:=by
 refine zao _ (λK' hk=>?_) H
 unfold F.ze5
 rw[ha.len0];exact hk
theorem zahr:dg 1=[1]:=by rw[zvz (by decide),show 1/W=0 by decide,zbg];rfl
theorem zx0(G:(Bool->Hp->Prop)->Hp->Prop)(hG:∀K,((m=1)->K true h)->((m≠1)->K false h)->G K h)(H:Kb (decide (m=1)) h):callP G Kb h:=by
 refine zao (decide (m=1)) (λK' hk=>hG K' (λh1=>?_) (λh1=>?_)) H
 . rw[decide_eq_true h1]at hk;exact hk
 . rw[decide_eq_false h1]at hk;exact hk
theorem zjs(ha:NI h a m)(H:Kb (decide (m=1)) h):callP (F.zc2 a) Kb h:=by
 refine zx0 _ (λK' h1 h0=>?_) H
 unfold F.zc2
 have hl:=ha.len
 rw[ha.2]
 refine zcp (λh2=>?_) (λh2=>?_)
 . have hpos:¬m<0:=by simpa using h2
   refine zbl (λh3=>?_) (λh3=>?_)
   . have h4:=za0a (B:=m.natAbs) (by omega)
     refine zdk 0 ha.1 rfl (by omega) λp hp=>⟨_,hp,?_⟩
     rw[h4]
     by_cases h5:m=1
     . have:=h1 h5
       subst h5;exact this
     . have:=h0 h5
       have e:(((([m.natAbs]:List Nat).getD 0 0:Nat):Int)==1)=false:=by
        simp;omega
       simp only
       rw[e];exact this
   . refine h0 λh5=>h3 ?_
     subst h5
     rw[hl,show(1:Int).natAbs=1 from rfl,zahr];rfl
 . exact h0 λh5=>by subst h5;simp at h2
theorem zj6(ha:NI h a m)(H:Kb (decide (m=1)) h):callP (F.zez a) Kb h:=by
 refine zx0 _ (λK' h1 h0=>?_) H
 unfold F.zez
 have hl:=ha.len
 refine zbl (λh3=>?_) (λh3=>?_)
 . have h4:=za0a (B:=m.natAbs) (by omega)
   refine zdk 0 ha.1 rfl (by omega) λp hp=>⟨_,hp,?_⟩
   rw[h4]
   refine zbl (λh5=>?_) (λh5=>?_)
   . have h6:((m.natAbs:Nat):Int)=1:=h5
     rw[ha.2]
     by_cases h7:m<0
     . rw[decide_eq_true h7];exact h0 (by omega)
     . rw[decide_eq_false h7];exact h1 (by omega)
   . have h6:((m.natAbs:Nat):Int)≠1:=h5
     exact h0 (by omega)
 . refine h0 λh5=>h3 ?_
   subst h5
   rw[hl,show(1:Int).natAbs=1 from rfl,zahr];rfl
def DM(m n q r:Int):Prop:=m=n*q+r/\(0<n->0<=r/\r<n)/\(n<0->n<r/\r<=0)
theorem DM.div{m n q r:Int}(h:DM m n q r)(h0:n≠0)(hd:0<n\/n ∣ m):q=m/n:=by
 obtain⟨h1,h2,h3⟩:=h
 rcases hd with hd | hd
 . have h4:=h2 hd
   exact((Int.ediv_emod_unique hd).2 ⟨by omega,h4.1,h4.2⟩).1.symm
 . have hr:n ∣ r:=by
    have e:r=m-n*q:=by omega
    rw[e];exact Int.dvd_sub hd (Int.dvd_mul_right n q)
   have hr0:r=0:=by
    have h5:n.natAbs ∣ r.natAbs:=Int.natAbs_dvd_natAbs.2 hr
    have h6:r.natAbs<n.natAbs:=by
     rcases Int.lt_or_gt_of_ne h0 with h7 | h7
     . have:=h3 h7;omega
     . have:=h2 h7;omega
    have:=Nat.eq_zero_of_dvd_of_lt h5 h6
    omega
   rw[h1,hr0,Int.add_zero,Int.mul_ediv_cancel_left _ h0]
theorem zcw(m:Int):m=m.natAbs/\¬m<0\/m=-(m.natAbs:Int)/\m<0:=by omega
theorem zanx{m n:Int}(h0:n≠0)(h:decide (m<0)=decide (n<0)):DM m n (sg false (m.natAbs/n.natAbs)) (sg (decide (n<0)) (m.natAbs % n.natAbs)):=by
 have e:=Nat.div_add_mod m.natAbs n.natAbs
 have hlt:=Nat.mod_lt m.natAbs (y:=n.natAbs) (by omega)
 have h':m<0↔n<0:=by simpa using h
 have c1:=zcw m
 have c2:=zcw n
 clear h
 generalize m.natAbs/n.natAbs=q at *
 generalize m.natAbs % n.natAbs=r at *
 generalize m.natAbs=A at *
 generalize n.natAbs=B at *
 have e':(A:Int)=B*q+r:=by rw[<-e];simp
 unfold DM sg
 rcases c1 with ⟨h1,h2⟩ | ⟨h1,h2⟩<;>rcases c2 with ⟨h3,h4⟩ | ⟨h3,h4⟩
 . rw[decide_eq_false h4]
   simp only[Bool.false_eq_true,if_false]
   exact⟨by rw[h1,h3,e'],λ_=>by omega,λ_=>by omega⟩
 . omega
 . omega
 . rw[decide_eq_true h4]
   simp only[Bool.false_eq_true,if_false,if_true]
   exact⟨by rw[h1,h3,e',Int.neg_add,Int.neg_mul],λ_=>by omega,λ_=>by omega⟩
theorem zany{m n:Int}(h0:n≠0)(h:decide (m<0)≠decide (n<0))(hr:m.natAbs % n.natAbs=0):DM m n (sg true (m.natAbs/n.natAbs)) (sg (decide (n<0)) (m.natAbs % n.natAbs)):=by
 have e:=Nat.div_add_mod m.natAbs n.natAbs
 have h':¬(m<0↔n<0):=by simpa using h
 have c1:=zcw m
 have c2:=zcw n
 rw[hr]at e |-
 clear h hr
 generalize m.natAbs/n.natAbs=q at *
 generalize m.natAbs=A at *
 generalize n.natAbs=B at *
 have e':(A:Int)=B*q:=by rw[<-e];simp
 unfold DM sg
 rcases c1 with ⟨h1,h2⟩ | ⟨h1,h2⟩<;>rcases c2 with ⟨h3,h4⟩ | ⟨h3,h4⟩
 . omega
 . rw[decide_eq_true h4]
   simp only[if_true]
   exact⟨by rw[h1,h3,e',Int.neg_mul_neg];simp,λ_=>by omega,λ_=>by omega⟩
 . rw[decide_eq_false h4]
   simp only[Bool.false_eq_true,if_false,if_true]
   exact⟨by rw[h1,h3,e',Int.mul_neg];simp,λ_=>by omega,λ_=>by omega⟩
 . omega
theorem zanw{m n:Int}(h0:n≠0)(h:decide (m<0)≠decide (n<0))(hr:m.natAbs % n.natAbs≠0):DM m n (sg true (m.natAbs/n.natAbs+1)) (sg (decide (n<0)) (n.natAbs-m.natAbs % n.natAbs)):=by
 have e:=Nat.div_add_mod m.natAbs n.natAbs
 have hlt:=Nat.mod_lt m.natAbs (y:=n.natAbs) (by omega)
 have h':¬(m<0↔n<0):=by simpa using h
 have c1:=zcw m
 have c2:=zcw n
 clear h
 generalize m.natAbs/n.natAbs=q at *
 generalize m.natAbs % n.natAbs=r at *
 generalize m.natAbs=A at *
 generalize n.natAbs=B at *
 have e':(A:Int)=B*q+r:=by rw[<-e];simp
 have e2:((B-r:Nat):Int)=(B:Int)-r:=by omega
 have e3:(B:Int)*((q+1:Nat):Int)=B*q+B:=by
  rw[Int.natCast_add,Int.mul_add];simp
 unfold DM sg
 rw[e2]
 rcases c1 with ⟨h1,h2⟩ | ⟨h1,h2⟩<;>rcases c2 with ⟨h3,h4⟩ | ⟨h3,h4⟩
 . omega
 . rw[decide_eq_true h4]
   simp only[if_true]
   refine⟨?_,λ_=>by omega,λ_=>by omega⟩
   rw[h1,h3,e',Int.neg_mul_neg,e3];omega
 . rw[decide_eq_false h4]
   simp only[Bool.false_eq_true,if_false,if_true]
   refine⟨?_,λ_=>by omega,λ_=>by omega⟩
   rw[h1,h3,e',Int.mul_neg,e3];omega
 . omega
theorem zamr{p q:Bool}(h:p=q):(!(p==q))=false:=by subst h;simp
theorem zaje{p q:Bool}(h:p≠q):(!(p==q))=true:=by simpa using h
theorem zad0(ha:NI h a m)(hb:NI h b n)(om:Ok m)(on:Ok n)(h0:n≠0)
 (H:∀z w h' q r,h.le h'->NI h' z q->NI h' w r->DM m n q r->KP (z,w,0) h'):callP (F.zg6 a b) KP h:=by
 refine za3 (λv h'=>∃q r,NI h' v.1 q/\NI h' v.2.1 r/\DM m n q r/\v.2.2=0) (λK' hk=>?_) λ⟨z,w,c⟩ h' hl ⟨q,r,h1,h2,h3,h4⟩=>by
  simp only at h4;subst h4
  exact H z w h' q r hl h1 h2 h3
 unfold F.zg6
 have om':(dg m.natAbs).length<=8796093022208:=om
 have on':(dg n.natAbs).length<=8796093022208:=on
 refine zd9 hb on λy hy=>?_
 have ly:=hy.len
 refine zbl (λh1=>absurd (za3x.1 (by omega)) h0) (λh1=>?_)
 refine zd9 ha om λx hx=>?_
 refine zwn hx hy (by omega) (by omega) (by omega) λq r h2 hl2 hq hr=>?_
 have hql:(dg (m.natAbs/n.natAbs)).length<=8796093022208:=Nat.le_trans (zcs (Nat.div_le_self _ _)) om'
 have hrl:(dg (m.natAbs % n.natAbs)).length<=8796093022208:=Nat.le_trans (zcs (Nat.mod_le _ _)) om'
 have lr:=hr.len
 rw[ha.2,hb.2]
 refine za9 (λst h'=>h.le h'/\∃q r:List Nat,okW q/\okW r/\RdW h' st.1 q/\RdW h' st.2.1 r/\q.length<=35184372088800/\r.length<=35184372088800/\DM m n (sg (!(decide (m<0)==decide (n<0))) (vl q)) (sg (decide (n<0)) (vl r))) ?_ ?_
 . rintro⟨x,y,_⟩ h3 ⟨hl3,q,r,okq,okr,hx3,hy3,hq3,hr3,hdm⟩
   refine zks hx3 okq (by omega) λz hz=>zks hy3 okr (by omega) λw hw=>hk _ _ hl3 ⟨_,_,hz,hw,hdm,rfl⟩
 . have stay:DM m n (sg (!(decide (m<0)==decide (n<0))) (m.natAbs/n.natAbs)) (sg (decide (n<0)) (m.natAbs % n.natAbs)) ->
    h.le h2/\∃q' r':List Nat,okW q'/\okW r'/\RdW h2 q q'/\RdW h2 r r'/\q'.length<=35184372088800/\r'.length<=35184372088800/\DM m n (sg (!(decide (m<0)==decide (n<0))) (vl q')) (sg (decide (n<0)) (vl r')):=λhd=>
    ⟨hl2,dg _,dg _,ok_dg _,ok_dg _,hq,hr,by omega,by omega,by rw[vl_dg,vl_dg];exact hd⟩
   refine zcp (λh3=>?_) (λh3=>?_)
   . have hd:decide (m<0)≠decide (n<0):=by simpa using h3
     refine za5 (λh4=>?_) (λh4=>?_)
     . have hr0:m.natAbs % n.natAbs≠0:=λhh=>by rw[lr,hh,zbg]at h4;exact absurd h4 (by decide)
       have hlt:=Nat.mod_lt m.natAbs (y:=n.natAbs) (by omega)
       refine zeq (n:=1) (size:=1) rfl λb1 h5 hb1 ho=>?_
       have ho':OwnW h2 h5 ⟨some ⟨b1,0,none⟩,1,1⟩ [1]:=ho
       refine za96 (hq.le ho.1) ho'.rdW (ok_dg _) (λd hd=>by rw[List.mem_singleton.1 hd];decide) (by omega) (by simp) λz h6 rr hl6 hz okz hv hzl=>?_
       rw[vl_dg]at hv
       have hl26:=Hp.le_trans ho.1 hl6
       refine zsc (hy.le (Hp.le_trans hl2 hl26)) (hr.le hl26) (ok_dg _) (ok_dg _) (by omega) (zcs (Nat.le_of_lt hlt)) (by rw[vl_dg,vl_dg];exact Nat.le_of_lt hlt) λw h7 hl7 hw=>?_
       rw[vl_dg,vl_dg]at hw
       refine⟨Hp.le_trans hl2 (Hp.le_trans hl26 hl7),rr,_,okz,ok_dg _,hz.le hl7,hw,by simp at hzl;omega,by have:=za4n (n:=m.natAbs % n.natAbs) on';omega,?_⟩
       rw[vl_dg,hv,zaje hd]
       have:=zanw h0 hd hr0
       simpa [vl] using this
     . have hr0:m.natAbs % n.natAbs=0:=zgz.1 (List.length_eq_zero_iff.1 (by have h5:¬(r.len:Int)>0:=h4;omega))
       exact stay (by rw[zaje hd];exact zany h0 hd hr0)
   . have hd:decide (m<0)=decide (n<0):=by simpa using h3
     exact stay (by rw[zamr hd];exact zanx h0 hd)
end
end Den
end

section
namespace Den
open Go Iv
section
variable {h : Hp} {x y : Sl} {l : List Nat} {m n : Int} {a b : TInt} {Ks : Sl → Hp → Prop} {Ki : Int → Hp → Prop} {Kb : Bool → Hp → Prop} {KI : TInt → Hp → Prop} {KP : (TInt × TInt × Int) → Hp → Prop}
def tq(m n:Int):Int:=sg (!(decide (m<0)==decide (n<0))) (m.natAbs/n.natAbs)
theorem zace{m n:Int}(h0:n≠0):m-tq m n*n=sg (decide (m<0)) (m.natAbs % n.natAbs):=by
 have e:=Nat.div_add_mod m.natAbs n.natAbs
 have c1:=zcw m
 have c2:=zcw n
 unfold tq
 generalize m.natAbs/n.natAbs=q at *
 generalize m.natAbs % n.natAbs=r at *
 generalize m.natAbs=A at *
 generalize n.natAbs=B at *
 have e':(A:Int)=B*q+r:=by rw[<-e];simp
 unfold sg
 rcases c1 with ⟨h1,h2⟩ | ⟨h1,h2⟩<;>rcases c2 with ⟨h3,h4⟩ | ⟨h3,h4⟩
 . rw[decide_eq_false h2,decide_eq_false h4]
   simp only[BEq.rfl,Bool.not_true,Bool.false_eq_true,if_false]
   rw[h1,h3,e',Int.mul_comm];omega
 . rw[decide_eq_false h2,decide_eq_true h4]
   simp only[Bool.false_eq_true,if_false]
   rw[if_pos (by decide),h1,h3,e',Int.neg_mul_neg,Int.mul_comm];omega
 . rw[decide_eq_true h2,decide_eq_false h4]
   simp only[if_true]
   rw[if_pos (by decide),h1,h3,e',Int.neg_mul,Int.mul_comm];omega
 . rw[decide_eq_true h2,decide_eq_true h4]
   simp only[BEq.rfl,Bool.not_true,Bool.false_eq_true,if_false,if_true]
   rw[h1,h3,e',Int.mul_neg,Int.mul_comm];omega
theorem tq_DM{m n:Int}(h0:n≠0)(h:¬(m-tq m n*n).sign*n.sign<0):DM m n (tq m n) (m-tq m n*n):=by
 have hr:=zace (m:=m) h0
 have hlt:=Nat.mod_lt m.natAbs (y:=n.natAbs) (by omega)
 have hb:(m-tq m n*n).natAbs<n.natAbs:=by rw[hr,zn3];exact hlt
 have s1:=zb2 (m-tq m n*n)
 have s2:=zb2 n
 refine⟨by rw[Int.mul_comm n];omega,λh1=>?_,λh1=>?_⟩
 . generalize m-tq m n*n=r at *
   rcases s1 with ⟨e1,s1⟩ | ⟨e1,s1⟩ | ⟨e1,s1⟩<;>rcases s2 with ⟨e2,s2⟩ | ⟨e2,s2⟩ | ⟨e2,s2⟩<;>(rw[e1,e2]at h)<;>omega
 . generalize m-tq m n*n=r at *
   rcases s1 with ⟨e1,s1⟩ | ⟨e1,s1⟩ | ⟨e1,s1⟩<;>rcases s2 with ⟨e2,s2⟩ | ⟨e2,s2⟩ | ⟨e2,s2⟩<;>(rw[e1,e2]at h)<;>omega
theorem tq_DM'{m n:Int}(h0:n≠0)(h:(m-tq m n*n).sign*n.sign<0):DM m n (tq m n-1) (m-tq m n*n+n):=by
 have hr:=zace (m:=m) h0
 have hlt:=Nat.mod_lt m.natAbs (y:=n.natAbs) (by omega)
 have hb:(m-tq m n*n).natAbs<n.natAbs:=by rw[hr,zn3];exact hlt
 have s1:=zb2 (m-tq m n*n)
 have s2:=zb2 n
 refine⟨by rw[Int.mul_sub,Int.mul_comm n (tq m n)];omega,λh1=>?_,λh1=>?_⟩
 . generalize m-tq m n*n=r at *
   rcases s1 with ⟨e1,s1⟩ | ⟨e1,s1⟩ | ⟨e1,s1⟩<;>rcases s2 with ⟨e2,s2⟩ | ⟨e2,s2⟩ | ⟨e2,s2⟩<;>(rw[e1,e2]at h)<;>omega
 . generalize m-tq m n*n=r at *
   rcases s1 with ⟨e1,s1⟩ | ⟨e1,s1⟩ | ⟨e1,s1⟩<;>rcases s2 with ⟨e2,s2⟩ | ⟨e2,s2⟩ | ⟨e2,s2⟩<;>(rw[e1,e2]at h)<;>omega
theorem Ok.le{m n:Int}(hm:Ok m)(h:n.natAbs<=m.natAbs):Ok n:=Nat.le_trans (zcs h) hm
theorem zap7:Ok 1:=by unfold Ok;rw[show(1:Int).natAbs=1 from rfl,zahr];decide
theorem zapw(m n:Int):(tq m n).natAbs<=m.natAbs:=by unfold tq;rw[zn3];exact Nat.div_le_self _ _
theorem zaoz(m n:Int):(tq m n*n).natAbs<=m.natAbs:=by
 rw[Int.natAbs_mul];unfold tq;rw[zn3];exact Nat.div_mul_le_self _ _
theorem zabu(ha:NI h a m)(hb:NI h b n)(om:Ok m)(on:Ok n)(h0:n≠0)
 (H:∀z w h' q r,h.le h'->NI h' z q->NI h' w r->DM m n q r->KP (z,w,0) h'):callP (F.ziv a b) KP h:=by
 refine za3 (λv h'=>∃q r,NI h' v.1 q/\NI h' v.2.1 r/\DM m n q r/\v.2.2=0) (λK' hk=>?_) λ⟨z,w,c⟩ h' hl ⟨q,r,h1,h2,h3,h4⟩=>by
  simp only at h4;subst h4
  exact H z w h' q r hl h1 h2 h3
 unfold F.ziv
 have om':(dg m.natAbs).length<=8796093022208:=om
 have on':(dg n.natAbs).length<=8796093022208:=on
 refine zh5 ha om λx hx=>zh5 hb on λy hy=>?_
 refine zcp (λh1=>?_) (λ_=>?_)
 . rw[hy.len0]at h1;exact absurd (of_decide_eq_true h1) h0
 refine zup hx.1 hy.1 (by omega) (by omega) (by omega) λq r h2 hl2 hq hr=>?_
 have hql:(dg (m.natAbs/n.natAbs)).length<=8796093022208:=Nat.le_trans (zcs (Nat.div_le_self _ _)) om'
 rw[hx.2,hy.2]
 refine zbj hq (by omega) λz hz=>?_
 have hz':NI h2 z (tq m n):=hz
 have oq:Ok (tq m n):=om.le (zapw m n)
 refine zcq hz' (hy.le hl2) oq on λw h3 hl3 hw=>?_
 have hl23:=Hp.le_trans hl2 hl3
 refine zw8 (hx.le hl23) hw om (om.le (zaoz m n)) λv h4 hl4 hv=>?_
 have hl24:=Hp.le_trans hl23 hl4
 have hb:(m-tq m n*n).natAbs<n.natAbs:=by rw[zace h0,zn3];exact Nat.mod_lt _ (by omega)
 have or':Ok (m-tq m n*n):=on.le (Nat.le_of_lt hb)
 refine za9 (λst h'=>h.le h'/\∃q r,NI h' ⟨st.1.1,st.1.2.1⟩ q/\NI h' ⟨st.2.1.1,st.2.1.2.1⟩ r/\DM m n q r) ?_ ?_
 . rintro st h5 ⟨hl5,q,r,hq5,hr5,hdm⟩
   exact hk _ _ hl5 ⟨q,r,hq5,hr5,hdm,rfl⟩
 . refine zmr hv or' (zmr (hy.le hl24) on ?_)
   have s1:=zb2 (m-tq m n*n)
   have s2:=zb2 n
   have es:i64.wrap ((m-tq m n*n).sign*n.sign)=(m-tq m n*n).sign*n.sign:=by
    rcases s1 with ⟨e1,s1⟩ | ⟨e1,s1⟩ | ⟨e1,s1⟩<;>rcases s2 with ⟨e2,s2⟩ | ⟨e2,s2⟩ | ⟨e2,s2⟩<;>rw[e1,e2]<;>rfl
   rw[es]
   refine za5 (λh5=>?_) (λh5=>?_)
   . refine zl7 (by decide) (by decide) λo h6 hl6 ho=>?_
     have hq6:NI h6 z (tq m n):=((hz'.le hl3).le hl4).le hl6
     refine zw8 hq6 ho oq zap7 λu h7 hl7 hu=>?_
     have hl47:=Hp.le_trans hl6 hl7
     refine zlz (hv.le hl47) (hy.le (Hp.le_trans hl24 hl47)) or' on λt h8 hl8 ht=>?_
     exact⟨Hp.le_trans hl24 (Hp.le_trans hl47 hl8),_,_,hu.le hl8,ht,tq_DM' h0 h5⟩
   . exact⟨hl24,_,_,(hz'.le hl3).le hl4,hv,tq_DM h0 h5⟩
theorem zafv(ha:NI h a m)(hb:NI h b n)(om:Ok m)(on:Ok n)(h0:n≠0)(hd:0<n\/n ∣ m)(H:∀z h',h.le h'->NI h' z (m/n)->KI z h'):callP (F.zgc a b) KI h:=by
 refine za3 _ (λK' hk=>?_) H
 unfold F.zgc
 refine zjs hb ?_
 refine za5 (λh1=>?_) (λh1=>?_)
 . subst h1
   exact hk _ _ (Hp.le_refl _) (by rw[Int.ediv_one];exact ha)
 . refine zad0 ha hb om on h0 λz w h' q r hl hz hw hdm=>hk _ _ hl ?_
   have:=hdm.div h0 hd
   subst this
   exact hz
theorem zfq(ha:NI h a m)(hb:NI h b n)(om:Ok m)(on:Ok n)(h0:n≠0)(hd:0<n\/n ∣ m)(H:∀z h',h.le h'->NI h' z (m/n)->KI z h'):callP (F.zdl a b) KI h:=by
 refine za3 _ (λK' hk=>?_) H
 unfold F.zdl
 refine zabu ha hb om on h0 λz w h' q r hl hz hw hdm=>hk _ _ hl ?_
 have:=hdm.div h0 hd
 subst this
 exact hz
end
end Den
end

section
namespace Iv
theorem zcb(q:Rat):((q.den:Nat):Int)≠0:=by have:=q.den_pos;omega
theorem zeu{n d:Int}{q:Rat}(hd:d≠0):Rat.divInt n d=q↔n*q.den=q.num*d:=by
 have h:=Rat.divInt_eq_divInt_iff (n₁:=n) (n₂:=q.num) hd (zcb q)
 rw[Rat.num_divInt_den]at h
 exact h
theorem zsh{n d:Int}{q:Rat}(hd:0<d)(hc:Nat.Coprime n.natAbs d.natAbs)(h:n*q.den=q.num*d):n=q.num/\d=q.den:=by
 have hq:(⟨n,d.toNat,by omega,by rw[show d.toNat=d.natAbs by omega];exact hc⟩:Rat)=q:=by
  have h1:Rat.divInt n d=q:=(zeu (by omega)).2 h
  rw[<-h1]
  symm
  refine(zeu (by omega)).2 ?_
  show n*((d.toNat:Nat):Int)=n*d
  rw[Int.toNat_of_nonneg (by omega)]
 refine⟨congrArg Rat.num hq,?_⟩
 have:=congrArg Rat.den hq
 show d=((q.den:Nat):Int)
 have h2:d.toNat=q.den:=this
 omega
theorem zaml{m n g:Int}(hn:n≠0)(hg:g=n.sign*(Nat.gcd m.natAbs n.natAbs:Nat)):g≠0/\g ∣ m/\g ∣ n/\m/g=(Rat.divInt m n).num/\n/g=(Rat.divInt m n).den:=by
 have hG:Nat.gcd m.natAbs n.natAbs≠0:=λh=>by have:=(Nat.gcd_eq_zero_iff.1 h).2;omega
 have hgabs:g.natAbs=Nat.gcd m.natAbs n.natAbs:=by
  rw[hg,Int.natAbs_mul,Int.natAbs_sign_of_ne_zero hn,Nat.one_mul];rfl
 have hg0:g≠0:=λh=>by rw[h]at hgabs;exact hG hgabs.symm
 have hgm:g ∣ m:=Int.natAbs_dvd_natAbs.1 (by rw[hgabs];exact Nat.gcd_dvd_left _ _)
 have hgn:g ∣ n:=Int.natAbs_dvd_natAbs.1 (by rw[hgabs];exact Nat.gcd_dvd_right _ _)
 obtain⟨m',hm'⟩:=id hgm
 obtain⟨n',hn'⟩:=id hgn
 have e1:m/g=m':=by rw[hm'];exact Int.mul_ediv_cancel_left _ hg0
 have e2:n/g=n':=by rw[hn'];exact Int.mul_ediv_cancel_left _ hg0
 have hGp:0<((Nat.gcd m.natAbs n.natAbs:Nat):Int):=by omega
 have hpos:0<n':=by
  generalize ((Nat.gcd m.natAbs n.natAbs:Nat):Int)=G at *
  clear hgabs hgm hgn e1 e2 hm' hG
  rcases Int.lt_or_gt_of_ne hn with h | h
  . have hgneg:g<0:=by
     rw[hg,Int.sign_eq_neg_one_of_neg h];omega
    rcases Int.lt_trichotomy n' 0 with h1 | h1 | h1
    . have:=Int.mul_pos_of_neg_of_neg hgneg h1;omega
    . rw[h1]at hn';omega
    . exact h1
  . have hgpos:0<g:=by
     rw[hg,Int.sign_eq_one_of_pos h];omega
    rcases Int.lt_trichotomy n' 0 with h1 | h1 | h1
    . have:=Int.mul_neg_of_pos_of_neg hgpos h1;omega
    . rw[h1]at hn';omega
    . exact h1
 have hcop:Nat.Coprime m'.natAbs n'.natAbs:=by
  have h1:m.natAbs=g.natAbs*m'.natAbs:=(congrArg Int.natAbs hm').trans (Int.natAbs_mul _ _)
  have h2:n.natAbs=g.natAbs*n'.natAbs:=(congrArg Int.natAbs hn').trans (Int.natAbs_mul _ _)
  rw[h1,h2,Nat.gcd_mul_left]at hgabs
  have h3:g.natAbs*1=g.natAbs*Nat.gcd m'.natAbs n'.natAbs:=by rw[Nat.mul_one];exact hgabs
  exact(Nat.eq_of_mul_eq_mul_left (by omega) h3).symm
 have hx:m'*(Rat.divInt m n).den=(Rat.divInt m n).num*n':=by
  have h1:=(zeu (q:=Rat.divInt m n) hn).1 rfl
  generalize (Rat.divInt m n).den=D at *
  generalize (Rat.divInt m n).num=N at *
  rw[hm',hn']at h1
  refine Int.eq_of_mul_eq_mul_left hg0 ?_
  rw[<-Int.mul_assoc,h1,Int.mul_comm g n',<-Int.mul_assoc,Int.mul_comm]
 have:=zsh hpos hcop hx
 exact⟨hg0,hgm,hgn,by rw[e1];exact this.1,by rw[e2];exact this.2⟩
theorem radd(a b:Rat):a+b=Rat.divInt (a.num*b.den+b.num*a.den) (a.den*b.den):=by
 have:=Rat.divInt_add_divInt a.num b.num (zcb a) (zcb b)
 rw[Rat.num_divInt_den,Rat.num_divInt_den]at this
 exact this
theorem rmul(a b:Rat):a*b=Rat.divInt (a.num*b.num) (a.den*b.den):=by
 have:=Rat.divInt_mul_divInt a.num b.num (d₁:=a.den) (d₂:=b.den)
 rw[Rat.num_divInt_den,Rat.num_divInt_den]at this
 exact this
theorem rdiv(a b:Rat):a/b=Rat.divInt (a.num*b.den) (a.den*b.num):=by
 rw[Rat.div_def,Rat.inv_def]
 have:=Rat.divInt_mul_divInt a.num b.den (d₁:=a.den) (d₂:=b.num)
 rw[Rat.num_divInt_den]at this
 exact this
def cmpQ(a b:Rat):Int:=(a.num*b.den-b.num*a.den).sign
theorem za05{a b:Rat}:cmpQ a b<=0↔a<=b:=by
 unfold cmpQ
 rw[Rat.le_iff]
 have:=Den.zb2 (a.num*b.den-b.num*a.den)
 omega
theorem za06{a b:Rat}:cmpQ a b<0↔a<b:=by
 unfold cmpQ
 rw[Rat.lt_iff]
 have:=Den.zb2 (a.num*b.den-b.num*a.den)
 omega
theorem zaj8{a b:Rat}:cmpQ a b>0↔b<a:=by
 unfold cmpQ
 rw[Rat.lt_iff]
 have:=Den.zb2 (a.num*b.den-b.num*a.den)
 omega
theorem zai0{q:Rat}:q.num<0↔q<0:=by
 have:=Rat.num_nonneg (q:=q)
 rw[<-Rat.not_le,<-this];omega
end Iv
namespace Den
open Go Iv
def NR(h:Hp)(x:TRat)(q:Rat):Prop:=NI h x.num q.num/\NI h x.den q.den
theorem NR.le{h h':Hp}{x:TRat}{q:Rat}(hx:NR h x q)(hl:h.le h'):NR h' x q:=⟨hx.1.le hl,hx.2.le hl⟩
def BR(k:Nat)(q:Rat):Prop:=Lt k q.num/\Lt k q.den
theorem BR.mono{k j:Nat}{q:Rat}(h:BR k q)(hk:k<=j):BR j q:=⟨h.1.mono hk,h.2.mono hk⟩
theorem Lt.addm{k:Nat}{m n:Int}(h:Lt k m)(h2:Lt k n):Lt (k+1) (m+n):=by
 unfold Lt at *
 have h3:=Int.natAbs_add_le m n
 rw[Nat.pow_succ]
 have:W ^ k*2<=W ^ k*W:=Nat.mul_le_mul_left _ (by decide)
 omega
theorem BR.divInt{k:Nat}{m n:Int}(hm:Lt k m)(hn:Lt k n)(h0:n≠0):BR k (Rat.divInt m n):=by
 obtain⟨_,_,_,h1,h2⟩:=zaml (m:=m) (n:=n) h0 rfl
 exact⟨by rw[<-h1];exact hm.le (Int.natAbs_ediv_le_natAbs _ _),by rw[<-h2];exact hn.le (Int.natAbs_ediv_le_natAbs _ _)⟩
theorem BR.mul{k j:Nat}{a b:Rat}(ha:BR k a)(hb:BR j b):BR (k+j) (a*b):=by
 rw[rmul]
 exact BR.divInt (ha.1.mul hb.1) (ha.2.mul hb.2) (Int.mul_ne_zero (zcb a) (zcb b))
theorem BR.add{k j:Nat}{a b:Rat}(ha:BR k a)(hb:BR j b):BR (k+j+1) (a+b):=by
 rw[radd]
 exact BR.divInt ((ha.1.mul hb.2).addm ((hb.1.mul ha.2).mono (by omega))) ((ha.2.mul hb.2).mono (by omega)) (Int.mul_ne_zero (zcb a) (zcb b))
theorem BR.neg{k:Nat}{a:Rat}(ha:BR k a):BR k (-a):=⟨by rw[Rat.neg_num];exact ha.1.neg,by rw[Rat.neg_den];exact ha.2⟩
theorem BR.sub{k j:Nat}{a b:Rat}(ha:BR k a)(hb:BR j b):BR (k+j+1) (a-b):=by rw[Rat.sub_eq_add_neg];exact ha.add hb.neg
theorem BR.div{k j:Nat}{a b:Rat}(ha:BR k a)(hb:BR j b)(h0:b.num≠0):BR (k+j) (a/b):=by
 rw[rdiv]
 exact BR.divInt (ha.1.mul hb.2) (ha.2.mul hb.1) (Int.mul_ne_zero (zcb a) h0)
section
variable {h : Hp} {m n : Int} {a b : TInt} {x y : TRat} {p q : Rat} {j k : Nat} {Ki : Int → Hp → Prop} {Kb : Bool → Hp → Prop} {KI : TInt → Hp → Prop} {KR : TRat → Hp → Prop} {KE : (TRat × Int) → Hp → Prop}
theorem za42(H:∀z h',h.le h'->NI h' z 1->KI z h'):callP F.zew KI h:=
 za3 _ (λK' hk=>by unfold F.zew;exact ziq (by decide) (by decide) λz h' hl hz=>hk _ _ hl hz) H
theorem zbz(h1:-9223372036854775808<=n)(h2:n<=9223372036854775807)(H:∀z h',h.le h'->NR h' z (n:Rat)->KR z h'):callP (F.zal n) KR h:=by
 refine za3 _ (λK' hk=>?_) H
 unfold F.zal
 refine ziq h1 h2 λz h3 hl3 hz=>za42 λw h4 hl4 hw=>hk _ _ (Hp.le_trans hl3 hl4) ⟨?_,?_⟩
 . exact hz.le hl4
 . exact hw
theorem zjz(hx:NR h x p)(op:BR k p)(hk:k<=1000000000000)(H:Ki p.num.sign h):callP (F.zcc x) Ki h:=
 zao _ (λK' hk=>by unfold F.zcc;exact zvg hx.1 (op.1.ok (by omega)) hk) H
theorem zw7(hx:NR h x p)(hy:NR h y q)(op:BR k p)(oq:BR j q)(hk:k<=1000000000000)(hj:j<=1000000000000)(H:∀h',h.le h'->Ki (cmpQ p q) h'):callP (F.zga x y) Ki h:=by
 refine za3 (λv _=>v=cmpQ p q) (λK' hk=>?_) λv h' hl hv=>by subst hv;exact H h' hl
 unfold F.zga
 refine zjz hx op (by omega) (zjz hy oq (by omega) ?_)
 have s1:=zb2 p.num
 have s2:=zb2 q.num
 have d1:0<(p.den:Int):=by have:=p.den_pos;omega
 have d2:0<(q.den:Int):=by have:=q.den_pos;omega
 refine zoj (λh1=>?_) (λh1=>?_)
 . have key:∀s:Int,(s=1/\q.num.sign<p.num.sign\/s=-1/\p.num.sign<q.num.sign)->s=cmpQ p q:=λs hs=>by
    unfold cmpQ
    have e1:0<p.num->0<p.num*q.den:=λh=>Int.mul_pos h d2
    have e2:p.num<0->p.num*q.den<0:=λh=>Int.mul_neg_of_neg_of_pos h d2
    have e3:0<q.num->0<q.num*p.den:=λh=>Int.mul_pos h d1
    have e4:q.num<0->q.num*p.den<0:=λh=>Int.mul_neg_of_neg_of_pos h d1
    have e5:p.num=0->p.num*q.den=0:=λh=>by rw[h,Int.zero_mul]
    have e6:q.num=0->q.num*p.den=0:=λh=>by rw[h,Int.zero_mul]
    have s3:=zb2 (p.num*q.den-q.num*p.den)
    omega
   refine za5 (λh2=>hk _ _ (Hp.le_refl _) (key _ (.inr ⟨rfl,h2⟩))) (λh2=>hk _ _ (Hp.le_refl _) (key _ (.inl ⟨rfl,by omega⟩)))
 . have o1:=(op.1.mul oq.2).ok (by omega)
   have o2:=(oq.1.mul op.2).ok (by omega)
   refine zf4 hx.1 hy.2 (op.1.ok (by omega)) (oq.2.ok (by omega)) λz h3 hl3 hz=>?_
   refine zf4 (hy.1.le hl3) (hx.2.le hl3) (oq.1.ok (by omega)) (op.2.ok (by omega)) λw h4 hl4 hw=>?_
   exact zaln (hz.le hl4) hw o1 o2 (hk _ _ (Hp.le_trans hl3 hl4) rfl)
theorem zkl(ha:NI h a m)(hb:NI h b n)(om:Lt k m)(on:Lt k n)(hk:k<=1000000000000)(h0:n≠0)(H:∀z h',h.le h'->NR h' z (Rat.divInt m n)->KR z h'):callP (F.zca a b) KR h:=by
 refine za3 _ (λK' hk=>?_) H
 unfold F.zca
 have om':=om.ok (by omega)
 have on':=on.ok (by omega)
 refine zalo ha hb om' on' λg h1 hl1 hg=>?_
 have og:Ok (Nat.gcd m.natAbs n.natAbs:Nat):=on'.le (by
  rw[Int.natAbs_natCast]
  exact Nat.le_of_dvd (by omega) (Nat.gcd_dvd_right _ _))
 obtain⟨e0,e1,e2,e3,e4⟩:=zaml (m:=m) (n:=n) h0 rfl
 have oG:Ok (n.sign*(Nat.gcd m.natAbs n.natAbs:Nat)):=og.le (by
  rw[Int.natAbs_mul,Int.natAbs_sign_of_ne_zero h0,Nat.one_mul];exact Nat.le_refl _)
 refine za9 (λst h'=>h.le h'/\NI h' ⟨st.1.1,st.1.2.1⟩ (n.sign*(Nat.gcd m.natAbs n.natAbs:Nat))) ?_ ?_
 . rintro st h2 ⟨hl2,hG⟩
   refine zafv (ha.le hl2) hG om' oG e0 (.inr e1) λu h3 hl3 hu=>?_
   refine zafv (hb.le (Hp.le_trans hl2 hl3)) (hG.le hl3) on' oG e0 (.inr e2) λv h4 hl4 hv=>?_
   refine hk _ _ (Hp.le_trans hl2 (Hp.le_trans hl3 hl4)) ⟨?_,?_⟩
   . rw[<-e3];exact hu.le hl4
   . rw[<-e4];exact hv
 . rw[hb.2]
   refine za5 (λh2=>?_) (λh2=>?_)
   . refine zad1 hg og λw h3 hl3 hw=>⟨Hp.le_trans hl1 hl3,?_⟩
     rw[Int.sign_eq_neg_one_of_neg h2,Int.neg_mul,Int.one_mul];exact hw
   . refine⟨hl1,?_⟩
     rw[Int.sign_eq_one_of_pos (by omega),Int.one_mul];exact hg
theorem zlx(hx:NR h x p)(hy:NR h y q)(op:BR k p)(oq:BR j q)(hk:k<=400000000000)(hj:j<=400000000000)(H:∀z h',h.le h'->NR h' z (p*q)->KR z h'):callP (F.zd0 x y) KR h:=by
 refine za3 _ (λK' hk=>?_) H
 unfold F.zd0
 have hd:((p.den:Nat):Int)*q.den≠0:=Int.mul_ne_zero (zcb p) (zcb q)
 refine za9 (λ_ h'=>h'=h) ?_ ?_
 . rintro _ h' rfl
   refine zf4 hx.1 hy.1 (op.1.ok (by omega)) (oq.1.ok (by omega)) λz h3 hl3 hz=>?_
   refine zf4 (hx.2.le hl3) (hy.2.le hl3) (op.2.ok (by omega)) (oq.2.ok (by omega)) λw h4 hl4 hw=>?_
   refine zkl (hz.le hl4) hw (op.1.mul oq.1) (op.2.mul oq.2) (by omega) hd λv h5 hl5 hv=>hk _ _ (Hp.le_trans hl3 (Hp.le_trans hl4 hl5)) ?_
   rw[rmul];exact hv
 . refine zjs hx.2 (za5 (λh1=>zjs hy.2 (za5 (λh2=>?_) (λ_=>rfl))) (λ_=>rfl))
   refine zf4 hx.1 hy.1 (op.1.ok (by omega)) (oq.1.ok (by omega)) λz h3 hl3 hz=>?_
   refine za42 λw h4 hl4 hw=>hk _ _ (Hp.le_trans hl3 hl4) ?_
   have e:=zsh (n:=p.num*q.num) (d:=1) (q:=p*q) (by decide) (Nat.coprime_one_right _) (by
    have:=(zeu (n:=p.num*q.num) hd).1 (rmul p q).symm
    rw[h1,h2]at this;simpa using this)
   exact⟨by rw[<-e.1];exact hz.le hl4,by rw[<-e.2];exact hw⟩
theorem zpg(hx:NR h x p)(hy:NR h y q)(op:BR k p)(oq:BR j q)(hk:k<=400000000000)(hj:j<=400000000000)(H:∀z h',h.le h'->NR h' z (p+q)->KR z h'):callP (F.zdv x y) KR h:=by
 refine za3 _ (λK' hk=>?_) H
 unfold F.zdv
 have hd:((p.den:Nat):Int)*q.den≠0:=Int.mul_ne_zero (zcb p) (zcb q)
 refine za9 (λ_ h'=>h'=h) ?_ ?_
 . rintro _ h' rfl
   refine zf4 hx.1 hy.2 (op.1.ok (by omega)) (oq.2.ok (by omega)) λz h3 hl3 hz=>?_
   refine zf4 (hy.1.le hl3) (hx.2.le hl3) (oq.1.ok (by omega)) (op.2.ok (by omega)) λw h4 hl4 hw=>?_
   refine zacz (hz.le hl4) hw ((op.1.mul oq.2).ok (by omega)) ((oq.1.mul op.2).ok (by omega)) λs h5 hl5 hs=>?_
   have hl35:=Hp.le_trans hl3 (Hp.le_trans hl4 hl5)
   refine zf4 (hx.2.le hl35) (hy.2.le hl35) (op.2.ok (by omega)) (oq.2.ok (by omega)) λt h6 hl6 ht=>?_
   refine zkl (k:=k+j+1) (hs.le hl6) ht ((op.1.mul oq.2).addm ((oq.1.mul op.2).mono (by omega))) ((op.2.mul oq.2).mono (by omega)) (by omega) hd λv h7 hl7 hv=>hk _ _ (Hp.le_trans hl35 (Hp.le_trans hl6 hl7)) ?_
   rw[radd];exact hv
 . refine zjs hx.2 (za5 (λh1=>zjs hy.2 (za5 (λh2=>?_) (λ_=>rfl))) (λ_=>rfl))
   refine zacz hx.1 hy.1 (op.1.ok (by omega)) (oq.1.ok (by omega)) λz h3 hl3 hz=>?_
   refine za42 λw h4 hl4 hw=>hk _ _ (Hp.le_trans hl3 hl4) ?_
   have e:=zsh (n:=p.num+q.num) (d:=1) (q:=p+q) (by decide) (Nat.coprime_one_right _) (by
    have:=(zeu (n:=p.num*q.den+q.num*p.den) hd).1 (radd p q).symm
    rw[h1,h2]at this;simpa using this)
   exact⟨by rw[<-e.1];exact hz.le hl4,by rw[<-e.2];exact hw⟩
theorem zly(hx:NR h x p)(op:BR k p)(hk:k<=1000000000000)(H:∀z h',h.le h'->NR h' z (-p)->KR z h'):callP (F.zev x) KR h:=by
 refine za3 _ (λK' hk=>?_) H
 unfold F.zev
 refine zad1 hx.1 (op.1.ok (by omega)) λz h1 hl1 hz=>hk _ _ hl1 ⟨?_,?_⟩
 . rw[Rat.neg_num];exact hz
 . rw[Rat.neg_den];exact hx.2.le hl1
theorem zal1(hx:NR h x p)(hy:NR h y q)(op:BR k p)(oq:BR j q)(hk:k<=400000000000)(hj:j<=400000000000)(H:∀z h',h.le h'->NR h' z (p-q)->KR z h'):callP (F.ziu x y) KR h:=by
 refine za3 _ (λK' hk=>?_) H
 unfold F.ziu
 refine zly hy oq (by omega) λz h1 hl1 hz=>zpg (hx.le hl1) hz op oq.neg (by omega) (by omega) λw h2 hl2 hw=>hk _ _ (Hp.le_trans hl1 hl2) ?_
 rw[Rat.sub_eq_add_neg];exact hw
theorem za97(hx:NR h x p)(hy:NR h y q)(op:BR k p)(oq:BR j q)(hk:k<=400000000000)(hj:j<=400000000000)(h0:q.num≠0)(H:∀z h',h.le h'->NR h' z (p/q)->KE (z,0) h'):callP (F.zgb x y) KE h:=by
 refine za3 (λv h'=>NR h' v.1 (p/q)/\v.2=0) (λK' hk=>?_) λ⟨z,c⟩ h' hl ⟨hz,hc⟩=>by
  simp only at hc;subst hc;exact H z h' hl hz
 unfold F.zgb
 refine zwy hy.1 (za5 (λh1=>absurd h1 h0) (λ_=>?_))
 refine zf4 hx.1 hy.2 (op.1.ok (by omega)) (oq.2.ok (by omega)) λz h3 hl3 hz=>?_
 refine zf4 (hx.2.le hl3) (hy.1.le hl3) (op.2.ok (by omega)) (oq.1.ok (by omega)) λw h4 hl4 hw=>?_
 refine zkl (hz.le hl4) hw (op.1.mul oq.2) (op.2.mul oq.1) (by omega) (Int.mul_ne_zero (zcb p) h0) λv h5 hl5 hv=>hk _ _ (Hp.le_trans hl3 (Hp.le_trans hl4 hl5)) ⟨?_,rfl⟩
 rw[rdiv];exact hv
theorem zai6(ha:NI h a m)(hb:NI h b n)(om:Lt k m)(on:Lt k n)(hk:k<=1000000000000)(h0:n≠0)(H:∀z h',h.le h'->NR h' z (Rat.divInt m n)->KE (z,0) h'):callP (F.zhk a b) KE h:=by
 refine za3 (λv h'=>NR h' v.1 (Rat.divInt m n)/\v.2=0) (λK' hk=>?_) λ⟨z,c⟩ h' hl ⟨hz,hc⟩=>by
  simp only at hc;subst hc;exact H z h' hl hz
 unfold F.zhk
 refine za8m ha (om.ok (by omega)) λz h3 hl3 hz=>za8m (hb.le hl3) (on.ok (by omega)) λw h4 hl4 hw=>?_
 refine zwy hw (za5 (λh1=>absurd h1 h0) (λ_=>?_))
 exact zkl (hz.le hl4) hw om on (by omega) h0 λv h5 hl5 hv=>hk _ _ (Hp.le_trans hl3 (Hp.le_trans hl4 hl5)) ⟨hv,rfl⟩
end
end Den
end

section
namespace Iv
theorem ndvd{k:Nat}{m:Int}:(k:Int) ∣ m↔k ∣ m.natAbs:=by rw[<-Int.natAbs_dvd_natAbs,Int.natAbs_natCast]
theorem zu8{x y k:Nat}(h:Nat.Coprime x y)(h1:k ∣ x)(h2:k ∣ y):k=1:=Nat.eq_one_of_dvd_one (by rw[<-h];exact Nat.dvd_gcd h1 h2)
theorem zajr{A B:Int}{p q:Nat}{t':Int}(hAP:∀k,k ∣ A.natAbs->k ∣ p->k=1)(hpq:Nat.Coprime p q)(ht:t' ∣ A*q+B*p):Nat.Coprime t'.natAbs p:=by
 rw[Nat.coprime_iff_gcd_eq_one]
 have g1:Nat.gcd t'.natAbs p ∣ t'.natAbs:=Nat.gcd_dvd_left _ _
 have g2:Nat.gcd t'.natAbs p ∣ p:=Nat.gcd_dvd_right _ _
 generalize Nat.gcd t'.natAbs p=x at *
 have h1:(x:Int) ∣ A*q+B*p:=Int.dvd_trans (ndvd.2 g1) ht
 have h2:(x:Int) ∣ B*p:=Int.dvd_trans (Int.natCast_dvd_natCast.2 g2) (Int.dvd_mul_left _ _)
 have h3:(x:Int) ∣ A*q:=by
  have:=Int.dvd_sub h1 h2
  rwa [Int.add_sub_cancel]at this
 have h4:x ∣ A.natAbs*q:=by
  have:=ndvd.1 h3
  rwa [Int.natAbs_mul,Int.natAbs_natCast]at this
 have h5:Nat.Coprime x A.natAbs:=by
  have e:=hAP (Nat.gcd x A.natAbs) (Nat.gcd_dvd_right _ _) (Nat.dvd_trans (Nat.gcd_dvd_left _ _) g2)
  exact e
 exact zu8 hpq g2 (h5.dvd_of_dvd_mul_left h4)
theorem zaj0{a b:Rat}{G E:Nat}{t:Int}(hG:G=Nat.gcd a.den b.den)(ht:t=a.num*((b.den:Int)/G)+b.num*((a.den:Int)/G))(hE:E=Nat.gcd t.natAbs G) :
 0<G/\G ∣ a.den/\G ∣ b.den/\0<E/\(E:Int) ∣ t/\E ∣ b.den/\t/E=(a+b).num/\(a.den:Int)/G*((b.den:Int)/E)=(a+b).den:=by
 have hG0:0<G:=by rw[hG];exact Nat.gcd_pos_of_pos_left _ a.den_pos
 obtain⟨p,hp⟩:G ∣ a.den:=by rw[hG];exact Nat.gcd_dvd_left _ _
 obtain⟨q,hq⟩:G ∣ b.den:=by rw[hG];exact Nat.gcd_dvd_right _ _
 have hpq:Nat.Coprime p q:=by
  have:G*1=G*Nat.gcd p q:=by rw[Nat.mul_one,<-Nat.gcd_mul_left,<-hp,<-hq];exact hG
  exact(Nat.eq_of_mul_eq_mul_left hG0 this).symm
 have hGi:(G:Int)≠0:=by omega
 have e1:(a.den:Int)/G=p:=by rw[hp,Int.natCast_mul];exact Int.mul_ediv_cancel_left _ hGi
 have e2:(b.den:Int)/G=q:=by rw[hq,Int.natCast_mul];exact Int.mul_ediv_cancel_left _ hGi
 rw[e1,e2]at ht
 rw[e1]
 have hE0:0<E:=by rw[hE];exact Nat.gcd_pos_of_pos_right _ hG0
 obtain⟨g',hg'⟩:E ∣ G:=by rw[hE];exact Nat.gcd_dvd_right _ _
 have hEt:(E:Int) ∣ t:=ndvd.2 (by rw[hE];exact Nat.gcd_dvd_left _ _)
 obtain⟨t',ht'⟩:=id hEt
 have hEi:(E:Int)≠0:=by omega
 have e3:t/E=t':=by rw[ht'];exact Int.mul_ediv_cancel_left _ hEi
 have hbd:b.den=E*(g'*q):=by rw[hq,hg',Nat.mul_assoc]
 have e4:(b.den:Int)/E=((g'*q:Nat):Int):=by rw[hbd,Int.natCast_mul];exact Int.mul_ediv_cancel_left _ hEi
 have hc1:Nat.Coprime t'.natAbs g':=by
  have h1:t.natAbs=E*t'.natAbs:=by rw[ht',Int.natAbs_mul,Int.natAbs_natCast]
  rw[h1,hg',Nat.gcd_mul_left]at hE
  have:E*1=E*Nat.gcd t'.natAbs g':=by rw[Nat.mul_one];exact hE
  exact(Nat.eq_of_mul_eq_mul_left hE0 this).symm
 have htt:t' ∣ a.num*q+b.num*p:=by rw[<-ht,ht'];exact Int.dvd_mul_left _ _
 have hc2:Nat.Coprime t'.natAbs p:=zajr (λk h1 h2=>zu8 a.reduced h1 (Nat.dvd_trans h2 ⟨G,by rw[hp,Nat.mul_comm]⟩)) hpq htt
 have hc3:Nat.Coprime t'.natAbs q:=zajr (A:=b.num) (B:=a.num) (λk h1 h2=>zu8 b.reduced h1 (Nat.dvd_trans h2 ⟨G,by rw[hq,Nat.mul_comm]⟩)) hpq.symm (by rw[Int.add_comm];exact htt)
 have hcop:Nat.Coprime t'.natAbs ((p:Int)*((g'*q:Nat):Int)).natAbs:=by
  rw[<-Int.natCast_mul,Int.natAbs_natCast]
  exact Nat.Coprime.mul_right hc2 (Nat.Coprime.mul_right hc1 hc3)
 have hpos:0<(p:Int)*((g'*q:Nat):Int):=by
  have h1:=a.den_pos
  have h2:=b.den_pos
  rw[hp]at h1
  rw[hbd]at h2
  have h3:0<p:=Nat.pos_of_mul_pos_left h1
  have h4:0<g'*q:=Nat.pos_of_mul_pos_left h2
  exact Int.mul_pos (by omega) (by omega)
 have hx:t'*(a+b).den=(a+b).num*((p:Int)*((g'*q:Nat):Int)):=by
  have h1:=(zeu (n:=a.num*b.den+b.num*a.den) (q:=a+b) (Int.mul_ne_zero (zcb a) (zcb b))).1 (radd a b).symm
  generalize (a+b).den=D at *
  generalize (a+b).num=N at *
  have k1:a.num*(b.den:Int)+b.num*(a.den:Int)=G*(E*t'):=by
   rw[<-ht',ht,hp,hq]
   simp only[Int.natCast_mul]
   rw[Int.mul_add,<-Int.mul_assoc,<-Int.mul_assoc,<-Int.mul_assoc,<-Int.mul_assoc,Int.mul_comm a.num,Int.mul_comm b.num]
  have k2:(a.den:Int)*(b.den:Int)=G*(E*((p:Int)*((g'*q:Nat):Int))):=by
   rw[hbd,hp]
   simp only[Int.natCast_mul]
   rw[Int.mul_assoc,Int.mul_left_comm (p:Int)]
  rw[k1,k2]at h1
  refine Int.eq_of_mul_eq_mul_left hEi (Int.eq_of_mul_eq_mul_left hGi ?_)
  rw[<-Int.mul_assoc,<-Int.mul_assoc,Int.mul_assoc (G:Int),h1,Int.mul_left_comm N,Int.mul_left_comm N]
 have:=zsh hpos hcop hx
 exact⟨hG0,⟨p,hp⟩,⟨q,hq⟩,hE0,hEt,⟨_,hbd⟩,by rw[e3];exact this.1,by rw[e4];exact this.2⟩
theorem zao0{a b:Rat}(hG:Nat.gcd a.den b.den=1):a.num*b.den+b.num*a.den=(a+b).num/\(a.den:Int)*b.den=(a+b).den:=by
 have h:=zaj0 (a:=a) (b:=b) (G:=1) (E:=1) (t:=a.num*b.den+b.num*a.den) hG.symm (by simp) (by simp)
 obtain⟨_,_,_,_,_,_,h1,h2⟩:=h
 refine⟨by simpa using h1,by simpa using h2⟩
theorem zaoi{a b:Rat}{G1 G2:Nat}(h1:G1=Nat.gcd a.num.natAbs b.den)(h2:G2=Nat.gcd b.num.natAbs a.den) :
 0<G1/\0<G2/\(G1:Int) ∣ a.num/\(G2:Int) ∣ b.num/\G2 ∣ a.den/\G1 ∣ b.den/\a.num/G1*(b.num/G2)=(a*b).num/\(a.den:Int)/G2*((b.den:Int)/G1)=(a*b).den:=by
 have h10:0<G1:=by rw[h1];exact Nat.gcd_pos_of_pos_right _ b.den_pos
 have h20:0<G2:=by rw[h2];exact Nat.gcd_pos_of_pos_right _ a.den_pos
 have d1:(G1:Int) ∣ a.num:=ndvd.2 (by rw[h1];exact Nat.gcd_dvd_left _ _)
 have d2:(G2:Int) ∣ b.num:=ndvd.2 (by rw[h2];exact Nat.gcd_dvd_left _ _)
 have d3:G2 ∣ a.den:=by rw[h2];exact Nat.gcd_dvd_right _ _
 have d4:G1 ∣ b.den:=by rw[h1];exact Nat.gcd_dvd_right _ _
 refine⟨h10,h20,d1,d2,d3,d4,?_⟩
 obtain⟨A,hA⟩:=d1
 obtain⟨B,hB⟩:=d2
 obtain⟨P,hP⟩:=d3
 obtain⟨Q,hQ⟩:=d4
 have i1:(G1:Int)≠0:=by omega
 have i2:(G2:Int)≠0:=by omega
 have e1:a.num/G1=A:=by rw[hA];exact Int.mul_ediv_cancel_left _ i1
 have e2:b.num/G2=B:=by rw[hB];exact Int.mul_ediv_cancel_left _ i2
 have e3:(a.den:Int)/G2=P:=by rw[hP,Int.natCast_mul];exact Int.mul_ediv_cancel_left _ i2
 have e4:(b.den:Int)/G1=Q:=by rw[hQ,Int.natCast_mul];exact Int.mul_ediv_cancel_left _ i1
 rw[e1,e2,e3,e4]
 have n1:a.num.natAbs=G1*A.natAbs:=by rw[hA,Int.natAbs_mul,Int.natAbs_natCast]
 have n2:b.num.natAbs=G2*B.natAbs:=by rw[hB,Int.natAbs_mul,Int.natAbs_natCast]
 have c1:Nat.Coprime A.natAbs Q:=by
  rw[n1,hQ,Nat.gcd_mul_left]at h1
  have:G1*1=G1*Nat.gcd A.natAbs Q:=by rw[Nat.mul_one];exact h1
  exact(Nat.eq_of_mul_eq_mul_left h10 this).symm
 have c2:Nat.Coprime B.natAbs P:=by
  rw[n2,hP,Nat.gcd_mul_left]at h2
  have:G2*1=G2*Nat.gcd B.natAbs P:=by rw[Nat.mul_one];exact h2
  exact(Nat.eq_of_mul_eq_mul_left h20 this).symm
 have c3:Nat.Coprime A.natAbs P:=zu8 a.reduced (Nat.dvd_trans (Nat.gcd_dvd_left _ _) ⟨G1,by rw[n1,Nat.mul_comm]⟩) (Nat.dvd_trans (Nat.gcd_dvd_right _ _) ⟨G2,by rw[hP,Nat.mul_comm]⟩)
 have c4:Nat.Coprime B.natAbs Q:=zu8 b.reduced (Nat.dvd_trans (Nat.gcd_dvd_left _ _) ⟨G2,by rw[n2,Nat.mul_comm]⟩) (Nat.dvd_trans (Nat.gcd_dvd_right _ _) ⟨G1,by rw[hQ,Nat.mul_comm]⟩)
 have hpos:0<(P:Int)*(Q:Int):=by
  have k1:=a.den_pos
  have k2:=b.den_pos
  rw[hP]at k1
  rw[hQ]at k2
  have k3:=Nat.pos_of_mul_pos_left k1
  have k4:=Nat.pos_of_mul_pos_left k2
  exact Int.mul_pos (by omega) (by omega)
 refine zsh hpos ?_ ?_
 . rw[<-Int.natCast_mul,Int.natAbs_natCast,Int.natAbs_mul]
   exact Nat.Coprime.mul_left (Nat.Coprime.mul_right c3 c1) (Nat.Coprime.mul_right c2 c4)
 . have h5:=(zeu (n:=a.num*b.num) (q:=a*b) (Int.mul_ne_zero (zcb a) (zcb b))).1 (rmul a b).symm
   generalize (a*b).den=D at *
   generalize (a*b).num=N at *
   rw[hA,hB,hP,hQ]at h5
   simp only[Int.natCast_mul]at h5
   have k1:(G1:Int)*A*(G2*B)=G1*(G2*(A*B)):=by rw[Int.mul_assoc,Int.mul_left_comm A]
   have k2:(G2:Int)*P*(G1*Q)=G1*(G2*((P:Int)*Q)):=by
    rw[Int.mul_assoc,Int.mul_left_comm (P:Int),Int.mul_left_comm (G2:Int) (G1:Int)]
   rw[k1,k2]at h5
   refine Int.eq_of_mul_eq_mul_left i2 (Int.eq_of_mul_eq_mul_left i1 ?_)
   rw[<-Int.mul_assoc,<-Int.mul_assoc,Int.mul_assoc (G1:Int),h5,Int.mul_left_comm N,Int.mul_left_comm N]
end Iv
end

section
namespace Den
open Go Iv
section
variable {h : Hp} {m n : Int} {a b : TInt} {x y : TRat} {p q : Rat} {j k : Nat} {Ki : Int → Hp → Prop} {Kb : Bool → Hp → Prop} {KI : TInt → Hp → Prop} {KR : TRat → Hp → Prop} {KE : (TRat × Int) → Hp → Prop}
theorem dpos(q:Rat):0<(q.den:Int):=by have:=q.den_pos;omega
theorem zfk(q:Rat):((q.den:Nat):Int).natAbs=q.den:=Int.natAbs_natCast _
theorem zcj(h1:-9223372036854775808<=n)(h2:n<=9223372036854775807)(H:∀z h',h.le h'->NR h' z (n:Rat)->KR z h'):callP (F.zbi n) KR h:=by
 refine za3 _ (λK' hk=>?_) H
 unfold F.zbi
 refine zl7 h1 h2 λz h3 hl3 hz=>zl7 (by decide) (by decide) λw h4 hl4 hw=>hk _ _ (Hp.le_trans hl3 hl4) ⟨?_,?_⟩
 . exact hz.le hl4
 . exact hw
theorem zag5(hx:NR h x p)(op:BR k p)(hk:k<=1000000000000)(H:Ki p.num.sign h):callP (F.zmv x) Ki h:=
 zao _ (λK' hk=>by unfold F.zmv;exact zmr hx.1 (op.1.ok (by omega)) hk) H
theorem zsi(hx:NR h x p)(hy:NR h y q)(op:BR k p)(oq:BR j q)(hk:k<=1000000000000)(hj:j<=1000000000000)(H:∀h',h.le h'->Ki (cmpQ p q) h'):callP (F.zj5 x y) Ki h:=by
 refine za3 (λv _=>v=cmpQ p q) (λK' hk=>?_) λv h' hl hv=>by subst hv;exact H h' hl
 unfold F.zj5
 have l1:=op.1.mul oq.2
 have l2:=(oq.1.mul op.2).mono (show j+k<=k+j by omega)
 refine zcq hx.1 hy.2 (op.1.ok (by omega)) (oq.2.ok (by omega)) λz h3 hl3 hz=>?_
 refine zcq (hy.1.le hl3) (hx.2.le hl3) (oq.1.ok (by omega)) (op.2.ok (by omega)) λw h4 hl4 hw=>?_
 have os:Ok (p.num*q.den-q.num*p.den):=by
  rw[Int.sub_eq_add_neg]
  exact(l1.addm l2.neg).ok (by omega)
 refine zal2 (hz.le hl4) hw (l1.ok (by omega)) (l2.ok (by omega)) os λh5 hl5=>hk _ _ (Hp.le_trans hl3 (Hp.le_trans hl4 hl5)) rfl
theorem zaih(hx:NR h x p)(op:BR k p)(hk:k<=1000000000000)(H:∀z,NR h z (-p)->KR z h):callP (F.zpm x) KR h:=by
 refine zlp _ (λK' hk=>?_) H
 unfold F.zpm
 refine za98 hx.1 (op.1.ok (by omega)) λz hz=>hk _ ⟨?_,?_⟩
 . rw[Rat.neg_num];exact hz
 . rw[Rat.neg_den];exact hx.2
theorem zjg{P G:Nat}:((P:Int)/G).natAbs<=((P:Int)).natAbs:=Int.natAbs_ediv_le_natAbs _ _
theorem zaif(hx:NR h x p)(hy:NR h y q)(op:BR k p)(oq:BR j q)(hk:k<=400000000000)(hj:j<=400000000000)(H:∀z h',h.le h'->NR h' z (p+q)->KR z h'):callP (F.zpk x y) KR h:=by
 refine za3 _ (λK' hk=>?_) H
 unfold F.zpk
 have op2:=op.2.ok (by omega)
 have oq2:=oq.2.ok (by omega)
 rw[hx.1.len0,hy.1.len0]
 refine za5 (λh1=>hk _ _ (Hp.le_refl _) ?_) (λh1=>za5 (λh2=>hk _ _ (Hp.le_refl _) ?_) (λh2=>?_))
 . rw[Rat.num_eq_zero.1 h1,Rat.zero_add];exact hy
 . rw[Rat.num_eq_zero.1 h2,Rat.add_zero];exact hx
 refine za9 (λ_ h'=>h'=h) ?_ ?_
 . rintro _ h' rfl
   refine zph hx.2 hy.2 op2 oq2 λg h3 hl3 hg=>?_
   rw[zfk,zfk]at hg
   refine zj6 hg (za5 (λh4=>?_) (λh4=>?_))
   . have e:=zao0 (a:=p) (b:=q) (by omega)
     refine zcq (hx.1.le hl3) (hy.2.le hl3) (op.1.ok (by omega)) oq2 λu h5 hl5 hu=>?_
     have hl35:=Hp.le_trans hl3 hl5
     refine zcq (hy.1.le hl35) (hx.2.le hl35) (oq.1.ok (by omega)) op2 λv h6 hl6 hv=>?_
     refine zlz (hu.le hl6) hv ((op.1.mul oq.2).ok (by omega)) ((oq.1.mul op.2).ok (by omega)) λs h7 hl7 hs=>?_
     have hl37:=Hp.le_trans hl35 (Hp.le_trans hl6 hl7)
     refine zcq (hx.2.le hl37) (hy.2.le hl37) op2 oq2 λt h8 hl8 ht=>hk _ _ (Hp.le_trans hl37 hl8) ⟨?_,?_⟩
     . rw[<-e.1];exact hs.le hl8
     . rw[<-e.2];exact ht
   . obtain⟨g0,g1,g2,e0,e1,e2,e3,e4⟩:=zaj0 (a:=p) (b:=q) rfl rfl rfl
     generalize hG:Nat.gcd p.den q.den=G at *
     have oG:Ok (G:Int):=oq2.le (by rw[Int.natAbs_natCast,zfk];exact Nat.le_of_dvd q.den_pos g2)
     have hGi:(G:Int)≠0:=by omega
     refine zfq (hx.2.le hl3) hg op2 oG hGi (.inr (Int.natCast_dvd_natCast.2 g1)) λu h5 hl5 hu=>?_
     have hl35:=Hp.le_trans hl3 hl5
     refine zfq (hy.2.le hl35) (hg.le hl5) oq2 oG hGi (.inr (Int.natCast_dvd_natCast.2 g2)) λv h6 hl6 hv=>?_
     have hl36:=Hp.le_trans hl35 hl6
     have l1:Lt k ((p.den:Int)/G):=op.2.le zjg
     have l2:Lt j ((q.den:Int)/G):=oq.2.le zjg
     refine zcq (hx.1.le hl36) hv (op.1.ok (by omega)) (l2.ok (by omega)) λs h7 hl7 hs=>?_
     have hl37:=Hp.le_trans hl36 hl7
     refine zcq (hy.1.le hl37) (hu.le (Hp.le_trans hl6 hl7)) (oq.1.ok (by omega)) (l1.ok (by omega)) λt h8 hl8 ht=>?_
     have l3:=op.1.mul l2
     have l4:=(oq.1.mul l1).mono (show j+k<=k+j by omega)
     refine zlz (hs.le hl8) ht (l3.ok (by omega)) (l4.ok (by omega)) λr h9 hl9 hr=>?_
     have hl39:=Hp.le_trans hl37 (Hp.le_trans hl8 hl9)
     have or':=(l3.addm l4).ok (by omega)
     have hl69:h6.le h9:=Hp.le_trans hl7 (Hp.le_trans hl8 hl9)
     refine zph hr (hg.le (Hp.le_trans hl5 (Hp.le_trans hl6 hl69))) or' oG λe h10 hl10 he=>?_
     rw[Int.natAbs_natCast]at he
     generalize ht':p.num*((q.den:Int)/G)+q.num*((p.den:Int)/G)=T at *
     generalize hE:Nat.gcd T.natAbs G=E at *
     have oE:Ok (E:Int):=oG.le (by rw[Int.natAbs_natCast,Int.natAbs_natCast,<-hE];exact Nat.le_of_dvd g0 (Nat.gcd_dvd_right _ _))
     have hEi:(E:Int)≠0:=by omega
     refine zfq (hr.le hl10) he or' oE hEi (.inr e1) λf h11 hl11 hf=>?_
     refine zfq (hy.2.le (Hp.le_trans hl39 (Hp.le_trans hl10 hl11))) (he.le hl11) oq2 oE hEi (.inr (Int.natCast_dvd_natCast.2 e2)) λw h12 hl12 hw=>?_
     have hl10_12:=Hp.le_trans hl10 (Hp.le_trans hl11 hl12)
     refine zcq (hu.le (Hp.le_trans hl6 (Hp.le_trans hl69 hl10_12))) hw (l1.ok (by omega)) (oq2.le zjg) λo h13 hl13 ho=>hk _ _ (Hp.le_trans hl39 (Hp.le_trans hl10_12 hl13)) ⟨?_,?_⟩
     . rw[<-e3];exact hf.le (Hp.le_trans hl12 hl13)
     . rw[<-e4];exact ho
 . refine zj6 hx.2 (za5 (λh1=>zj6 hy.2 (za5 (λh2=>?_) (λ_=>rfl))) (λ_=>rfl))
   refine zlz hx.1 hy.1 (op.1.ok (by omega)) (oq.1.ok (by omega)) λz h3 hl3 hz=>hk _ _ hl3 ?_
   have hd:((p.den:Nat):Int)*q.den≠0:=Int.mul_ne_zero (zcb p) (zcb q)
   have e:=zsh (n:=p.num+q.num) (d:=1) (q:=p+q) (by decide) (Nat.coprime_one_right _) (by
    have:=(zeu (n:=p.num*q.den+q.num*p.den) hd).1 (radd p q).symm
    rw[h1,h2]at this;simpa using this)
   exact⟨by rw[<-e.1];exact hz,by rw[<-e.2,<-h1];exact hx.2.le hl3⟩
theorem zaig(hx:NR h x p)(hy:NR h y q)(op:BR k p)(oq:BR j q)(hk:k<=400000000000)(hj:j<=400000000000)(H:∀z h',h.le h'->NR h' z (p*q)->KR z h'):callP (F.zpl x y) KR h:=by
 refine za3 _ (λK' hk=>?_) H
 unfold F.zpl
 have op1:=op.1.ok (by omega)
 have oq1:=oq.1.ok (by omega)
 have op2:=op.2.ok (by omega)
 have oq2:=oq.2.ok (by omega)
 refine za9 (λ_ h'=>h'=h) ?_ ?_
 . rintro _ h' rfl
   refine za9 (λ_ h2=>h2=h') ?_ ?_
   . rintro _ h2 rfl
     obtain⟨g1,g2,d1,d2,d3,d4,e1,e2⟩:=zaoi (a:=p) (b:=q) rfl rfl
     refine zph hx.1 hy.2 op1 oq2 λu h3 hl3 hu=>?_
     refine zph (hy.1.le hl3) (hx.2.le hl3) oq1 op2 λv h4 hl4 hv=>?_
     rw[zfk]at hu hv
     generalize hG1:Nat.gcd p.num.natAbs q.den=G1 at *
     generalize hG2:Nat.gcd q.num.natAbs p.den=G2 at *
     have oG1:Ok (G1:Int):=oq2.le (by rw[Int.natAbs_natCast,zfk];exact Nat.le_of_dvd q.den_pos d4)
     have oG2:Ok (G2:Int):=op2.le (by rw[Int.natAbs_natCast,zfk];exact Nat.le_of_dvd p.den_pos d3)
     have i1:(G1:Int)≠0:=by omega
     have i2:(G2:Int)≠0:=by omega
     have hl34:=Hp.le_trans hl3 hl4
     refine zfq (hx.1.le hl34) (hu.le hl4) op1 oG1 i1 (.inr d1) λr h5 hl5 hr=>?_
     refine zfq (hy.1.le (Hp.le_trans hl34 hl5)) (hv.le hl5) oq1 oG2 i2 (.inr d2) λs h6 hl6 hs=>?_
     have hl56:=Hp.le_trans hl5 hl6
     refine zcq (hr.le hl6) hs (op1.le (Int.natAbs_ediv_le_natAbs _ _)) (oq1.le (Int.natAbs_ediv_le_natAbs _ _)) λt h7 hl7 ht=>?_
     have hl57:=Hp.le_trans hl56 hl7
     refine zfq (hx.2.le (Hp.le_trans hl34 hl57)) (hv.le hl57) op2 oG2 i2 (.inr (Int.natCast_dvd_natCast.2 d3)) λw h8 hl8 hw=>?_
     have hl58:=Hp.le_trans hl57 hl8
     refine zfq (hy.2.le (Hp.le_trans hl34 hl58)) (hu.le (Hp.le_trans hl4 hl58)) oq2 oG1 i1 (.inr (Int.natCast_dvd_natCast.2 d4)) λo h9 hl9 ho=>?_
     refine zcq (hw.le hl9) ho (op2.le zjg) (oq2.le zjg) λe h10 hl10 he=>hk _ _ (Hp.le_trans hl34 (Hp.le_trans hl58 (Hp.le_trans hl9 hl10))) ⟨?_,?_⟩
     . rw[<-e1];exact ht.le (Hp.le_trans hl8 (Hp.le_trans hl9 hl10))
     . rw[<-e2];exact he
   . refine zj6 hx.2 (za5 (λh1=>zj6 hy.2 (za5 (λh2=>?_) (λ_=>rfl))) (λ_=>rfl))
     refine zcq hx.1 hy.1 op1 oq1 λz h3 hl3 hz=>hk _ _ hl3 ?_
     have hd:((p.den:Nat):Int)*q.den≠0:=Int.mul_ne_zero (zcb p) (zcb q)
     have e:=zsh (n:=p.num*q.num) (d:=1) (q:=p*q) (by decide) (Nat.coprime_one_right _) (by
      have:=(zeu (n:=p.num*q.num) hd).1 (rmul p q).symm
      rw[h1,h2]at this;simpa using this)
     exact⟨by rw[<-e.1];exact hz,by rw[<-e.2,<-h1];exact hx.2.le hl3⟩
 . rw[hx.1.len0,hy.1.len0]
   refine za5 (λh1=>?_) (λh1=>za5 (λh2=>?_) (λh2=>rfl))
   . refine zcj (by decide) (by decide) λz h3 hl3 hz=>hk _ _ hl3 ?_
     rw[Rat.num_eq_zero.1 h1,Rat.zero_mul];exact hz
   . refine zcj (by decide) (by decide) λz h3 hl3 hz=>hk _ _ hl3 ?_
     rw[Rat.num_eq_zero.1 h2,Rat.mul_zero];exact hz
theorem zapg{m n:Nat}(h:dg m=dg n):m=n:=by rw[<-vl_dg m,<-vl_dg n,h]
end
end Den
end

section
namespace Iv
open Den
end Iv
namespace Den
open Go Iv
section
variable {h : Hp} {m n : Int} {a b : TInt} {x y : Sl} {l : List Nat} {j k : Nat} {Ks : Sl → Hp → Prop} {Ki : Int → Hp → Prop} {Kb : Bool → Hp → Prop} {KI : TInt → Hp → Prop} {KE : (TInt × Int) → Hp → Prop}
end
end Den
end

section
namespace Iv
open Den
end Iv
namespace Den
open Go Iv
section
variable {h : Hp} {a : TInt} {KE : (TInt × Int) → Hp → Prop}
end
end Den
end

section
namespace Den
open Go Iv
theorem za3o{α:Type}{c:α->List Value}{n:Nat}(hc:∀x,(c x).length=n):∀{xs:List α} {k j:Nat} (hk:k<xs.length),j<n->(xs.flatMap c)[k*n+j]?=(c xs[k])[j]?
 | [],k,j,hk,_=>by simp at hk
 | x :: r,0,j,hk,hj=>by
   rw[List.flatMap_cons,Nat.zero_mul,Nat.zero_add,List.getElem?_append_left (by rw[hc];exact hj)]
   rfl
 | x :: r,k+1,j,hk,hj=>by
   rw[List.flatMap_cons,List.getElem?_append_right (by rw[hc,Nat.add_mul];omega),hc]
   have:(k+1)*n+j-n=k*n+j:=by rw[Nat.add_mul];omega
   rw[this,za3o hc (by simpa using hk) hj]
   rfl
theorem ze4{α:Type}{c:α->List Value}{n:Nat}(hc:∀x,(c x).length=n)(xs:List α):(xs.flatMap c).length=xs.length*n:=by
 induction xs with
 | nil=>simp
 | cons x r ih=>rw[List.flatMap_cons,List.length_append,hc,ih,List.length_cons,Nat.add_mul];omega
def qc(x:TRat):List Value:=[.bool x.num.neg,.slice x.num.mag.a x.num.mag.len x.num.mag.cap,.bool x.den.neg,.slice x.den.mag.a x.den.mag.len x.den.mag.cap]
theorem zdu(x:TRat):(qc x).length=4:=rfl
abbrev RdQ(h:Hp)(l:Sl)(xs:List TRat):Prop:=Rd h 4 l (xs.flatMap qc)
theorem RdQ.len{h:Hp}{l:Sl}{xs:List TRat}(hr:RdQ h l xs):l.len=xs.length:=by
 have:=hr.1
 rw[ze4 zdu]at this;omega
theorem zaby{h:Hp}{l:Sl}{xs:List TRat}{i:Int}{K:Bool->Sl->Bool->Sl->Prop}(k:Nat)(hr:RdQ h l xs)(hi:i=k)(hk:k<xs.length)
 (H:K xs[k].num.neg xs[k].num.mag xs[k].den.neg xs[k].den.mag) :
 idxP l i 4 λa=>ldL .bool (a.add 0) (λx0=>ldL .sl (a.add 1) (λx1=>ldL .bool (a.add 2) (λx2=>ldL .sl (a.add 3) (λx3=>K x0 x1 x2 x3) h) h) h) h:=by
 refine zajc k hr hi (by rw[hr.len];exact hk) (by decide) λa ha=>?_
 have g:∀j v,j<4->(qc xs[k])[j]?=some v->h.cell (a.add j)=some v:=λj v hj hv=>ha j v (by rw[za3o zdu hk hj];exact hv)
 exact⟨_,g 0 _ (by decide) rfl,_,g 1 _ (by decide) rfl,_,g 2 _ (by decide) rfl,_,g 3 _ (by decide) rfl,H⟩
def QL(h:Hp)(B:Nat)(xs:List TRat)(vs:List Rat):Prop:=xs.length=vs.length/\∀k (h1:k<xs.length) (h2:k<vs.length),NR h xs[k] vs[k]/\BR B vs[k]
theorem QL.le{h h':Hp}{B:Nat}{xs:List TRat}{vs:List Rat}(hq:QL h B xs vs)(hl:h.le h'):QL h' B xs vs:=⟨hq.1,λk h1 h2=>⟨(hq.2 k h1 h2).1.le hl,(hq.2 k h1 h2).2⟩⟩
def hiS(m x:Rat):Rat:=if m<x then x else m
def NV(h:Hp)(x:TInterval)(l u:Rat):Prop:=NR h x.low l/\NR h x.high u
abbrev q4(s:Bool×Sl×Bool×Sl×Unit):TRat:=⟨⟨s.1,s.2.1⟩,⟨s.2.2.1,s.2.2.2.1⟩⟩
theorem zaiu{f:Rat->Rat->Rat}{q:Rat}{l:List Rat}{i:Nat}(hi:i<l.length):(l.take (i+1)).foldl f q=f ((l.take i).foldl f q) l[i]:=by
 rw[List.take_succ_eq_append_getElem hi,List.foldl_append];rfl
section
variable {h : Hp} {l : Sl} {B : Nat} {xs : List TRat} {vs : List Rat} {v0 : Rat} {KV : TInterval → Hp → Prop}
theorem zme:BR 1 0:=⟨by unfold Lt;decide,by unfold Lt;decide⟩
end
end Den
end

section
namespace Den
open Go Iv
namespace Hp
def del(h:Hp)(b:Nat):Hp:=λk=>if k=b then none else h k
def one(h:Hp)(b:Nat):Hp:=λk=>if k=b then h k else none
theorem add_assoc'(a b c:Hp):(a.add b).add c=a.add (b.add c):=by
 funext k;unfold add;cases a k<;>rfl
end Hp
theorem zaex{α:Type}{G:(α->Hp->Prop)->Hp->Prop}{K1 K:α->Hp->Prop}{D O:Hp}(hd:D.dj O)(H:callP G K1 D)(k:∀v D',D.le D'->D'.dj O->K1 v D'->K v (D'.add O)):callP G K (D.add O):=by
 obtain⟨D1,O1,Q,h1,h2,h3,h4⟩:=H
 refine⟨D1,O1.add O,Q,?_,?_,h3,λv D' hq=>⟨(h4 v D' hq).1,λhdj hfin=>?_⟩⟩
 . intro k
   rcases h1 k with h5 | h5
   . exact .inl h5
   . rcases hd k with h6 | h6
     . rw[h2]at h6;exact .inl (Hp.add_none.1 h6).1
     . exact .inr (Hp.add_none.2 ⟨h5,h6⟩)
 . rw[h2,Hp.add_assoc']
 . have h5:=h4 v D' hq
   have hdj1:D'.dj O1:=λk=>by
    rcases hdj k with h6 | h6
    . exact .inl h6
    . exact .inr (Hp.add_none.1 h6).1
   have hdj2:(D'.add O1).dj O:=λk=>by
    rcases hdj k with h6 | h6
    . rcases hd k with h7 | h7
      . rw[h2]at h7;exact .inl (Hp.add_none.2 ⟨h6,(Hp.add_none.1 h7).2⟩)
      . exact .inr h7
    . exact .inr (Hp.add_none.1 h6).2
   have hfin1:(D'.add O1).Fin:=Hp.Fin.sub hfin λk hk=>by
    rw[<-Hp.add_assoc']at hk;exact(Hp.add_none.1 hk).1
   have h6:=h5.2 hdj1 hfin1
   rw[<-Hp.add_assoc']
   refine k v _ ?_ hdj2 h6
   rw[h2]
   exact Hp.add_mono h5.1 hdj1
end Den
end

section
namespace Den
open Go Iv
section
variable {h : Hp} {l : Sl} {B : Nat} {xs : List TRat} {vs : List Rat} {v0 : Rat} {KV : TInterval → Hp → Prop} {Ks : Sl → Hp → Prop}
theorem QL.snoc{x:TRat}{v:Rat}(hq:QL h B xs vs)(h1:NR h x v)(h2:BR B v):QL h B (xs++[x]) (vs++[v]):=by
 refine⟨by simp[hq.1],λk k1 k2=>?_⟩
 have hl:=hq.1
 rcases Nat.lt_or_ge k xs.length with h3 | h3
 . rw[List.getElem_append_left h3,List.getElem_append_left (by omega)]
   exact hq.2 k h3 (by omega)
 . have h4:k=xs.length:=by simp at k1;omega
   subst h4
   rw[List.getElem_append_right (Nat.le_refl _),List.getElem_append_right (by omega)]
   simp only[Nat.sub_self,List.getElem_cons_zero]
   have:xs.length-vs.length=0:=by omega
   simp only[this,List.getElem_cons_zero]
   exact⟨h1,h2⟩
theorem zafn{K:Addr->Hp->Prop}(n:Nat)(hn:xs.length=n)(H:∀a h',h.le h'->RdQ h' ⟨some a,n,n⟩ xs->K a h'):newP (xs.flatMap qc) K h:=
 zeq (n:=n) (size:=4) (by rw[ze4 zdu,hn]) λb h' hb ho=>H _ h' ho.1 ho.rd
end
end Den
end

section
namespace Iv
open Den
def hi4(a b c d:Rat):Rat:=[b,c,d].foldl hiS a
end Iv
namespace Den
open Go Iv
section
variable {h : Hp} {a b : TInterval} {x : TRat} {p al au bl bu : Rat} {j k : Nat} {Ki : Int → Hp → Prop} {Kb : Bool → Hp → Prop} {KR : TRat → Hp → Prop} {KV : TInterval → Hp → Prop} {KVE : (TInterval × Int) → Hp → Prop} {KIB : (Int × Bool) → Hp → Prop} {KVB : (TInterval × Bool) → Hp → Prop}
theorem za14:BR 1 ((1:Int):Rat):=⟨by unfold Lt;decide,by unfold Lt;decide⟩
end
end Den
end

section
namespace Iv
open Den
end Iv
end

section
namespace Den
open Go Iv
section
variable {h : Hp} {a b : TInterval} {x : TRat} {y : TInt} {p al au bl bu : Rat} {N : Int} {j k : Nat} {Ki : Int → Hp → Prop} {Kb : Bool → Hp → Prop} {KI : TInt → Hp → Prop} {KR : TRat → Hp → Prop} {KV : TInterval → Hp → Prop} {KVE : (TInterval × Int) → Hp → Prop} {KIB : (Int × Bool) → Hp → Prop} {KVB : (TInterval × Bool) → Hp → Prop}
end
end Den
end

section
namespace Iv
end Iv
namespace Den
open Go Iv
section
variable {h : Hp} {a b : TInterval} {x : TRat} {y : TInt} {p al au bl bu : Rat} {j k : Nat} {KVE : (TInterval × Int) → Hp → Prop}
end
end Den
end

section
namespace Den
open Go Iv
def AI(h:Hp)(a:TInt):Prop:=∃l,RdW h a.mag l/\okW l
def AR(h:Hp)(x:TRat):Prop:=AI h x.num/\AI h x.den
theorem AI.le{h h':Hp}{a:TInt}(ha:AI h a)(hl:h.le h'):AI h' a:=by obtain⟨l,h1,h2⟩:=ha;exact⟨l,h1.le hl,h2⟩
theorem AR.le{h h':Hp}{x:TRat}(hx:AR h x)(hl:h.le h'):AR h' x:=⟨hx.1.le hl,hx.2.le hl⟩
theorem zano:∀{l m:List Nat},wc l=wc m->l=m
 | [],[],_=>rfl
 | [],_ :: _,h=>by simp[wc]at h
 | _ :: _,[],h=>by simp[wc]at h
 | x :: r,y :: t,h=>by
   simp only[wc,List.map_cons,List.cons.injEq,Value.int.injEq,true_and]at h
   rw[zano (l:=r) (m:=t) h.2,show x=y by omega]
theorem RdW.uniq{h:Hp}{x:Sl}{l m:List Nat}(h1:RdW h x l)(h2:RdW h x m):l=m:=by
 have a1:=h1.1
 have a2:=h2.1
 have e:(wc l).length=(wc m).length:=by rw[<-a1.1,<-a2.1]
 have b1:=a1.2
 have b2:=a2.2
 rw[e,b2]at b1
 exact(zano (Option.some.inj b1)).symm
theorem NI.inj{h:Hp}{a:TInt}{m n:Int}(h1:NI h a m)(h2:NI h a n):m=n:=by
 have e:=zapg (h1.1.uniq h2.1)
 have e2:decide (m<0)=decide (n<0):=by rw[<-h1.2,<-h2.2]
 have e3:m<0↔n<0:=by simpa using e2
 omega
theorem zap5{h:Hp}{a:TInt}{l:List Nat}(hr:RdW h a.mag l)(ok:okW l):(∃n,NI h a n)↔trimL l=l/\(a.neg=true->l≠[]):=by
 constructor
 . rintro⟨n,hn⟩
   have e:=hr.uniq hn.1
   subst e
   refine⟨zacf _,λhneg he=>?_⟩
   rw[hn.2]at hneg
   have h1:n<0:=by simpa using hneg
   have:=zgz.1 he
   omega
 . rintro⟨h1,h2⟩
   have e:=zak7 ok h1
   refine⟨sg a.neg (vl l),?_,?_⟩
   . rw[zn3,<-e];exact hr
   . cases hb:a.neg with
     | false=>simp[sg]
     | true=>
       have h3:=h2 hb
       have h4:vl l≠0:=λh0=>h3 (by rw[e,h0,zbg])
       simp[sg];omega
theorem zap6{h:Hp}{x:TRat}{m n:Int}(h1:NI h x.num m)(h2:NI h x.den n):(∃q,NR h x q)↔0<n/\Nat.gcd m.natAbs n.natAbs=1:=by
 constructor
 . rintro⟨q,hq⟩
   have e1:=h1.inj hq.1
   have e2:=h2.inj hq.2
   subst e1 e2
   exact⟨dpos q,by rw[zfk];exact q.reduced⟩
 . rintro⟨h3,h4⟩
   have hnn:n.toNat=n.natAbs:=by omega
   refine⟨⟨m,n.toNat,by omega,by rw[hnn];exact h4⟩,h1,?_⟩
   show NI h x.den ((n.toNat:Nat):Int)
   rw[Int.toNat_of_nonneg (by omega)];exact h2
section
variable {h : Hp} {a : TInt} {x : TRat} {v : TInterval} {Kb : Bool → Hp → Prop}
theorem zx6(ha:AI h a)(hl:a.mag.len<=35184372087808)(H1:∀n,NI h a n->Kb true h)(H0:(¬∃n,NI h a n)->Kb false h):callP (F.zi2 a) Kb h:=by
 obtain⟨l,hr,ok⟩:=ha
 have ll:=hr.len
 have hiff:=zap5 hr ok
 refine za3 (λb h'=>h'=h/\(b=true/\(∃n,NI h a n)\/b=false/\¬∃n,NI h a n)) (λK' hk=>?_) λb h' _ ⟨e,hv⟩=>by
  subst e
  rcases hv with ⟨rfl,n,hn⟩ | ⟨rfl,hn⟩
  . exact H1 n hn
  . exact H0 hn
 unfold F.zi2
 refine zck hr (by omega) λy hy=>?_
 have ly:=hy.len
 refine zbl (λh1=>?_) (λh1=>?_)
 . have hlen:(trimL l).length=l.length:=by omega
   have ht:trimL l=l:=by
    have:=zj8 l
    rw[hlen,List.take_of_length_le (Nat.le_refl _)]at this
    exact this
   refine zcp (λh2=>?_) (λh2=>?_)
   . refine hk _ _ (Hp.le_refl _) ⟨rfl,.inl ⟨rfl,hiff.2 ⟨ht,λhn=>?_⟩⟩⟩
     rw[hn]at h2;cases h2
   . refine hk _ _ (Hp.le_refl _) ⟨rfl,?_⟩
     have hneg:a.neg=true:=by simpa using h2
     by_cases h3:(a.mag.len:Int)>0
     . exact .inl ⟨decide_eq_true h3,hiff.2 ⟨ht,λ_ he=>by rw[he]at ll;simp at ll;omega⟩⟩
     . refine .inr ⟨decide_eq_false h3,λhn=>(hiff.1 hn).2 hneg (List.length_eq_zero_iff.1 (by omega))⟩
 . refine hk _ _ (Hp.le_refl _) ⟨rfl,.inr ⟨rfl,λhn=>h1 ?_⟩⟩
   have:=(hiff.1 hn).1
   rw[this]at ly
   omega
theorem zahw{n:Int}(ha:NI h a n)(hl:a.mag.len<=35184372087808):(dg n.natAbs).length<=35184372087808:=by have:=ha.len;omega
theorem zac2(hx:AR h x)(hl1:x.num.mag.len<=35184372087808)(hl2:x.den.mag.len<=35184372087808)(H1:∀q h',h.le h'->NR h x q->Kb true h')(H0:∀h',h.le h'->(¬∃q,NR h x q)->Kb false h'):callP (F.zko x) Kb h:=by
 refine za3 (λb h'=>b=true/\(∃q,NR h x q)\/b=false/\¬∃q,NR h x q) (λK' hk=>?_) λb h' hl hv=>by
  rcases hv with ⟨rfl,n,hn⟩ | ⟨rfl,hn⟩
  . exact H1 n h' hl hn
  . exact H0 h' hl hn
 unfold F.zko
 refine zx6 hx.1 hl1 (λm hm=>zb1 rfl (zx6 hx.2 hl2 (λn hn=>zb1 rfl ?_) (λhn=>zab rfl (hk _ _ (Hp.le_refl _) (.inr ⟨rfl,λ⟨q,hq⟩=>hn ⟨_,hq.2⟩⟩))))) (λhn=>zab rfl (hk _ _ (Hp.le_refl _) (.inr ⟨rfl,λ⟨q,hq⟩=>hn ⟨_,hq.1⟩⟩)))
 have hiff:=zap6 hm hn
 have s:=zb2 n
 refine zx5 hn (zahw hn hl2) (za5 (λh1=>?_) (λh1=>hk _ _ (Hp.le_refl _) (.inr ⟨rfl,λhh=>by have:=(hiff.1 hh).1;omega⟩)))
 refine za4d hm hn (zahw hm hl1) (zahw hn hl2) λz h2 hl hz=>zj6 hz (hk _ _ hl ?_)
 by_cases h3:Nat.gcd m.natAbs n.natAbs=1
 . exact .inl ⟨decide_eq_true (by rw[h3];rfl),hiff.2 ⟨by omega,h3⟩⟩
 . exact .inr ⟨decide_eq_false (λhh=>h3 (by omega)),λhh=>h3 (hiff.1 hh).2⟩
theorem NR_BR{q:Rat}{k:Nat}(hq:NR h x q)(h1:x.num.mag.len<=k)(h2:x.den.mag.len<=k):BR k q:=by
 have e1:=hq.1.len
 have e2:=hq.2.len
 exact⟨zbs.1 (by omega),zbs.1 (by omega)⟩
end
end Den
end

section
namespace Den
open Go Iv Go.Proofs
open Go.ChangeShapes Go.WideShapes Go.ChangeAt Go.RowKit
theorem zapz:laidOutB Tryz.prog=true:=by kernel_rfl
theorem zapr:mapsRowed Tryz.prog=true:=by kernel_rfl
theorem zapt:sizedB Tryz.prog=true:=by kernel_rfl
theorem zapd:Tryz.prog.cellsOf 4=1:=by kernel_rfl
theorem zapc:Tryz.prog.bytesOf 122=4:=by kernel_rfl
theorem c_u32:Tryz.prog.cellsOf 122=1:=by kernel_rfl
theorem c_W:Tryz.prog.cellsOf 35=1:=by kernel_rfl
theorem c_I:Tryz.prog.cellsOf 37=2:=by kernel_rfl
theorem c_R:Tryz.prog.cellsOf 39=4:=by kernel_rfl
section
variable {H : Type} {enc : TypeId × Value → H} {w : World} {cs : List Value}
theorem wc_of:∀{css:List (List Value)},(∀c∈css,c.length=1/\Okt enc Tryz.prog w 122 c)->∃l:List Nat,css.flatten=wc l/\okW l
 | [],_=>⟨[],rfl,λd hd=>by simp at hd⟩
 | c :: r,h=>by
   obtain⟨l,h1,h2⟩:=wc_of (css:=r) λx hx=>h x (List.mem_cons_of_mem _ hx)
   obtain⟨m,rfl,hw⟩:=(h c (by simp)).2.int Tryz.underlying122
   simp[Lit.wf,IntKind.min,IntKind.max,IntKind.signed,IntKind.bits]at hw
   refine⟨m.toNat :: l,?_,λd hd=>?_⟩
   . rw[List.flatten_cons,h1]
     simp only[wc,List.map_cons,List.cons_append,List.nil_append]
     rw[Int.toNat_of_nonneg (by omega)]
   . rcases List.mem_cons.1 hd with rfl | hd
     . rw[W_eq];omega
     . exact h2 d hd
theorem okt_W(h:Okt enc Tryz.prog w 35 cs):∃s:Sl,cs=[Lf.sl.up s]/\s.len<=35184372087808/\∃l,RdW (hpW w) s l/\okW l:=by
 obtain⟨s,rfl,h1,h2,css,h3,h4,h5⟩:=h.slice Tryz.underlying35
 rw[c_u32]at h4 h5
 rw[zapc,show reachBytes=140737488351232 from rfl]at h2
 obtain⟨l,hl,ok⟩:=wc_of h4
 rw[hl]at h5
 exact⟨s,rfl,by omega,l,⟨h5,h1⟩,ok⟩
theorem okt_I(h:Okt enc Tryz.prog w 37 cs):∃x:TInt,cs=[.bool x.neg,Lf.sl.up x.mag]/\x.mag.len<=35184372087808/\AI (hpW w) x:=by
 obtain⟨hl,hf⟩:=h.fields Tryz.underlying37
 rw[c_I]at hl
 have h0:Okt enc Tryz.prog w 4 ((cs.drop 0).take (Tryz.prog.cellsOf 4)):=hf 0 _ rfl
 have h1:Okt enc Tryz.prog w 35 ((cs.drop 1).take (Tryz.prog.cellsOf 35)):=hf 1 _ rfl
 rw[zapd,List.drop_zero]at h0
 rw[c_W]at h1
 obtain⟨b,hb⟩:=h0.bool Tryz.underlying4
 obtain⟨s,hs,hm,hr⟩:=okt_W h1
 refine⟨⟨b,s⟩,?_,hm,hr⟩
 rw[<-List.take_append_drop 1 cs,hb,<-List.take_of_length_le (l:=cs.drop 1) (i:=1) (by simp[hl]),hs]
 rfl
theorem zapo(h:Okt enc Tryz.prog w 39 cs):∃x:TRat,cs=[.bool x.num.neg,Lf.sl.up x.num.mag,.bool x.den.neg,Lf.sl.up x.den.mag]/\(x.num.mag.len<=35184372087808/\x.den.mag.len<=35184372087808)/\AR (hpW w) x:=by
 obtain⟨hl,hf⟩:=h.fields Tryz.underlying39
 rw[c_R]at hl
 have h0:Okt enc Tryz.prog w 37 ((cs.drop 0).take (Tryz.prog.cellsOf 37)):=hf 0 _ rfl
 have h1:Okt enc Tryz.prog w 37 ((cs.drop 2).take (Tryz.prog.cellsOf 37)):=hf 1 _ rfl
 rw[c_I,List.drop_zero]at h0
 rw[c_I]at h1
 obtain⟨x,hx,mx,ax⟩:=okt_I h0
 obtain⟨y,hy,my,ay⟩:=okt_I h1
 refine⟨⟨x,y⟩,?_,⟨mx,my⟩,ax,ay⟩
 rw[<-List.take_append_drop 2 cs,hx,<-List.take_of_length_le (l:=cs.drop 2) (i:=2) (by simp[hl]),hy]
 rfl
end
theorem zaq3{P:Program}{W:World}{r:Reach}{b:Nat}{t:TypeId}{v:Value}(h:Value.okWide P W r b t v)(hu:isAgg? P t=some true):∃c:List Value,v=.agg c.toArray/\v.cells.toList=c:=by
 unfold isAgg? at hu
 unfold Value.okWide at h
 split at h
 . obtain⟨cs,rfl,_⟩:=h;exact⟨cs.toList,by simp,by simp[Value.cells]⟩
 . obtain⟨cs,rfl,_⟩:=h;exact⟨cs.toList,by simp,by simp[Value.cells]⟩
 . rename_i h1 h2
   split at hu
   . rename_i hh;exact absurd hh (h1 _)
   . rename_i hh;exact absurd hh (h2 _ _)
   . cases hu
   . cases hu
end Den
end

section
set_option maxRecDepth 10000
namespace Den
open Go
namespace F
def zbb(s:Sl)(K:Sl->Hp->Prop)(h:Hp):Prop:=
 (ifP s.a.isNone
 (K nilS h)
 (newP [] (λp1 h1=>
 (rdO s.a (s.len*4) (λvs2=>
 (appP 4 64 [.bool false,.slice nilS.a nilS.len nilS.cap,.bool false,.slice nilS.a nilS.len nilS.cap] (⟨some p1,0,0⟩:Sl) s.len vs2 (λw3 h2=>
 (K w3 h2)) h1)) h1)) h))
def zav(a:Sl)(K:Sl->Hp->Prop)(h:Hp):Prop:=
 (joinP (S:=Int×Unit) (λs1 h1=>
 (slP a 0 s1.1 4 λc3=>
 (callP (zbb c3) (λr4 h2=>
 (K r4 h2)) h1)))
 (λk2=>
 (loopP (S:=Int×Unit) (λs5 k6 h3=>
 (joinP (S:=Unit) (λs7 h4=>
 (k6 ((i64.wrap (s5.1-1)),()) h4))
 (λk8=>
 (ifP (decide (s5.1>0))
 (idxP a (i64.wrap (s5.1-1)) 4 λa9=>
 (ldL (.bool) (a9.add 0) (λx10_0=>
 (ldL (.sl) (a9.add 1) (λx10_1=>
 (ldL (.bool) (a9.add 2) (λx10_2=>
 (ldL (.sl) (a9.add 3) (λx10_3=>
 (callP (zcc (⟨(⟨x10_0,x10_1⟩:TInt),(⟨x10_2,x10_3⟩:TInt)⟩:TRat)) (λr11 h5=>
 (ifP (r11==0)
 (k8 () h5)
 (k2 (s5.1,()) h5))) h3)) h3)) h3)) h3)) h3))
 (k2 (s5.1,()) h3)))))
 ((a.len:Int),()) h)))
def zcx(a:Sl)(K:Int->Hp->Prop)(h:Hp):Prop:=
 (callP (zav a) (λr1 h1=>
 (K (i64.wrap ((r1.len:Int)-1)) h1)) h)
def zih(x:Int)(y:Int)(K:(Int×Int)->Hp->Prop)(h:Hp):Prop:=
 (0<=(32:Int) /\
 (0<=(32:Int) /\
 (0<=(32:Int) /\
 (0<=(32:Int) /\
 (0<=(32:Int) /\
 (K ((u64.wrap ((u64.wrap ((u64.wrap (((x:Int).fdiv (2 ^ (min (32:Int).toNat u64.bits)))*((y:Int).fdiv (2 ^ (min (32:Int).toNat u64.bits)))))+(((u64.wrap ((u64.wrap (((x:Int).fdiv (2 ^ (min (32:Int).toNat u64.bits)))*(ibits .and .u64 y 4294967295)))+(((u64.wrap ((ibits .and .u64 x 4294967295)*(ibits .and .u64 y 4294967295))):Int).fdiv (2 ^ (min (32:Int).toNat u64.bits))))):Int).fdiv (2 ^ (min (32:Int).toNat u64.bits)))))+(((u64.wrap ((ibits .and .u64 (u64.wrap ((u64.wrap (((x:Int).fdiv (2 ^ (min (32:Int).toNat u64.bits)))*(ibits .and .u64 y 4294967295)))+(((u64.wrap ((ibits .and .u64 x 4294967295)*(ibits .and .u64 y 4294967295))):Int).fdiv (2 ^ (min (32:Int).toNat u64.bits))))) 4294967295)+(u64.wrap ((ibits .and .u64 x 4294967295)*((y:Int).fdiv (2 ^ (min (32:Int).toNat u64.bits))))))):Int).fdiv (2 ^ (min (32:Int).toNat u64.bits))))),(u64.wrap (x*y))) h))))))
def zhg(x:Int)(y:Int)(K:(Int×Int)->Hp->Prop)(h:Hp):Prop:=
 (callP (zih x y) (λr1 h1=>
 (K (r1.1,r1.2) h1)) h)
def zb7(x:Sl)(count:Int)(K:Sl->Hp->Prop)(h:Hp):Prop:=
 (joinP (S:=Unit) (λs1 h1=>
 (callP (zhg (u64.wrap ((x.len:Int))) (u64.wrap (count))) (λr3 h2=>
 (joinP (S:=Unit) (λs4 h3=>
 (mkP (i64.wrap (r3.2)) (i64.wrap (r3.2)) 64 [.bool false,.slice nilS.a nilS.len nilS.cap,.bool false,.slice nilS.a nilS.len nilS.cap] (λm6 h4=>
 (cpP 4 m6 x (λn7 h5=>
 (loopP (S:=Int×Unit) (λs8 k9 h6=>
 (ifP (decide (s8.1<(m6.len:Int)))
 (slP m6 s8.1 (m6.len:Int) 4 λc10=>
 (slP m6 0 s8.1 4 λc11=>
 (cpP 4 c10 c11 (λn12 h7=>
 (k9 ((i64.wrap (s8.1+(n12:Int))),()) h7)) h6)))
 (K m6 h6)))
 ((n7:Int),()) h5)) h4)) h3))
 (λk5=>
 (ifP (decide (r3.1>0))
 False
 (ifP (decide (r3.2>9223372036854775807))
 False
 (k5 () h2)))))) h1))
 (λk2=>
 (ifP (decide (count<0))
 False
 (k2 () h))))
def zet(n:Int)(K:Sl->Hp->Prop)(h:Hp):Prop:=
 (callP (zal 0) (λr1 h1=>
 (newP [.bool r1.num.neg,.slice r1.num.mag.a r1.num.mag.len r1.num.mag.cap,.bool r1.den.neg,.slice r1.den.mag.a r1.den.mag.len r1.den.mag.cap] (λp2 h2=>
 (callP (zb7 (⟨some p2,1,1⟩:Sl) n) (λr3 h3=>
 (K r3 h3)) h2)) h1)) h)
def zb6(a:Sl)(b:Sl)(K:(Sl×Sl)->Hp->Prop)(h:Hp):Prop:=
 (callP (zav b) (λr1 h1=>
 (callP (zav a) (λr2 h2=>
 (callP (zet (maxI 0 (i64.wrap ((i64.wrap ((r2.len:Int)-(r1.len:Int)))+1)))) (λr3 h3=>
 (loopP (S:=Int×Unit) (λs4 k5 h4=>
 (ifP (decide (s4.1>=0))
 (idxP r2 (i64.wrap ((i64.wrap (s4.1+(r1.len:Int)))-1)) 4 λa6=>
 (ldL (.bool) (a6.add 0) (λx7_0=>
 (ldL (.sl) (a6.add 1) (λx7_1=>
 (ldL (.bool) (a6.add 2) (λx7_2=>
 (ldL (.sl) (a6.add 3) (λx7_3=>
 (idxP r1 (i64.wrap ((r1.len:Int)-1)) 4 λa8=>
 (ldL (.bool) (a8.add 0) (λx9_0=>
 (ldL (.sl) (a8.add 1) (λx9_1=>
 (ldL (.bool) (a8.add 2) (λx9_2=>
 (ldL (.sl) (a8.add 3) (λx9_3=>
 (callP (zgb (⟨(⟨x7_0,x7_1⟩:TInt),(⟨x7_2,x7_3⟩:TInt)⟩:TRat) (⟨(⟨x9_0,x9_1⟩:TInt),(⟨x9_2,x9_3⟩:TInt)⟩:TRat)) (λr10 h5=>
 (idxP r3 s4.1 4 λa11=>
 (stP a11 [.bool r10.1.num.neg,.slice r10.1.num.mag.a r10.1.num.mag.len r10.1.num.mag.cap,.bool r10.1.den.neg,.slice r10.1.den.mag.a r10.1.den.mag.len r10.1.den.mag.cap] (λh6=>
 (loopP (S:=Int×Unit) (λs12 k13 h7=>
 (ifP (decide (s12.1<(r1.len:Int)))
 (idxP r1 s12.1 4 λa14=>
 (ldL (.bool) (a14.add 0) (λx15_0=>
 (ldL (.sl) (a14.add 1) (λx15_1=>
 (ldL (.bool) (a14.add 2) (λx15_2=>
 (ldL (.sl) (a14.add 3) (λx15_3=>
 (idxP r2 (i64.wrap (s4.1+s12.1)) 4 λa16=>
 (ldL (.bool) (a16.add 0) (λx17_0=>
 (ldL (.sl) (a16.add 1) (λx17_1=>
 (ldL (.bool) (a16.add 2) (λx17_2=>
 (ldL (.sl) (a16.add 3) (λx17_3=>
 (idxP r3 s4.1 4 λa18=>
 (ldL (.bool) (a18.add 0) (λx19_0=>
 (ldL (.sl) (a18.add 1) (λx19_1=>
 (ldL (.bool) (a18.add 2) (λx19_2=>
 (ldL (.sl) (a18.add 3) (λx19_3=>
 (callP (zd0 (⟨(⟨x19_0,x19_1⟩:TInt),(⟨x19_2,x19_3⟩:TInt)⟩:TRat) (⟨(⟨x15_0,x15_1⟩:TInt),(⟨x15_2,x15_3⟩:TInt)⟩:TRat)) (λr20 h8=>
 (callP (ziu (⟨(⟨x17_0,x17_1⟩:TInt),(⟨x17_2,x17_3⟩:TInt)⟩:TRat) r20) (λr21 h9=>
 (idxP r2 (i64.wrap (s4.1+s12.1)) 4 λa22=>
 (stP a22 [.bool r21.num.neg,.slice r21.num.mag.a r21.num.mag.len r21.num.mag.cap,.bool r21.den.neg,.slice r21.den.mag.a r21.den.mag.len r21.den.mag.cap] (λh10=>
 (k13 ((i64.wrap (s12.1+1)),()) h10)) h9))) h8)) h7)) h7)) h7)) h7)) h7))) h7)) h7)) h7)) h7))) h7)) h7)) h7)) h7))
 (k5 ((i64.wrap (s4.1-1)),()) h7)))
 (0,()) h6)) h5))) h4)) h4)) h4)) h4)) h4))) h4)) h4)) h4)) h4))
 (callP (zav r3) (λr23 h11=>
 (callP (zav r2) (λr24 h12=>
 (K (r23,r24) h12)) h11)) h4)))
 ((i64.wrap ((r2.len:Int)-(r1.len:Int))),()) h3)) h2)) h1)) h)
def zcy(a:Sl)(b:Sl)(K:(Sl×Sl×Int)->Hp->Prop)(h:Hp):Prop:=
 (callP (zcx b) (λr1 h1=>
 (ifP (decide (r1<0))
 (K (nilS,nilS,6) h1)
 (callP (zb6 a b) (λr2 h2=>
 (K (r2.1,r2.2,0) h2)) h1))) h)
def zdj(a:Sl)(n:TRat)(K:Sl->Hp->Prop)(h:Hp):Prop:=
 (mkP (a.len:Int) (a.len:Int) 64 [.bool false,.slice nilS.a nilS.len nilS.cap,.bool false,.slice nilS.a nilS.len nilS.cap] (λm1 h1=>
 (loopP (S:=Int×Unit) (λs2 k3 h2=>
 (ifP (decide (s2.1<(a.len:Int)))
 (idxP a s2.1 4 λa4=>
 (ldL (.bool) (a4.add 0) (λx5_0=>
 (ldL (.sl) (a4.add 1) (λx5_1=>
 (ldL (.bool) (a4.add 2) (λx5_2=>
 (ldL (.sl) (a4.add 3) (λx5_3=>
 (callP (zd0 (⟨(⟨x5_0,x5_1⟩:TInt),(⟨x5_2,x5_3⟩:TInt)⟩:TRat) n) (λr6 h3=>
 (idxP m1 s2.1 4 λa7=>
 (stP a7 [.bool r6.num.neg,.slice r6.num.mag.a r6.num.mag.len r6.num.mag.cap,.bool r6.den.neg,.slice r6.den.mag.a r6.den.mag.len r6.den.mag.cap] (λh4=>
 (k3 ((i64.wrap (s2.1+1)),()) h4)) h3))) h2)) h2)) h2)) h2)) h2))
 (callP (zav m1) (λr8 h5=>
 (K r8 h5)) h2)))
 (0,()) h1)) h)
def zb3(a:Sl)(K:Sl->Hp->Prop)(h:Hp):Prop:=
 (callP (zav a) (λr1 h1=>
 (ifP ((r1.len:Int)==0)
 (K nilS h1)
 (idxP r1 (i64.wrap ((r1.len:Int)-1)) 4 λa2=>
 (ldL (.bool) (a2.add 0) (λx3_0=>
 (ldL (.sl) (a2.add 1) (λx3_1=>
 (ldL (.bool) (a2.add 2) (λx3_2=>
 (ldL (.sl) (a2.add 3) (λx3_3=>
 (callP (zal 1) (λr4 h2=>
 (callP (zgb r4 (⟨(⟨x3_0,x3_1⟩:TInt),(⟨x3_2,x3_3⟩:TInt)⟩:TRat)) (λr5 h3=>
 (callP (zdj r1 (⟨(⟨r5.1.num.neg,r5.1.num.mag⟩:TInt),(⟨r5.1.den.neg,r5.1.den.mag⟩:TInt)⟩:TRat)) (λr6 h4=>
 (K r6 h4)) h3)) h2)) h1)) h1)) h1)) h1)) h1)))) h)
def zbt(a:Sl)(K:Sl->Hp->Prop)(h:Hp):Prop:=
 (loopP (S:=Sl×Int×Unit) (λs1 k2 h1=>
 (ifP (decide (s1.2.1<(a.len:Int)))
 (joinP (S:=Sl×Unit) (λs3 h2=>
 (k2 (s3.1,(i64.wrap (s1.2.1+1)),()) h2))
 (λk4=>
 (idxP a s1.2.1 4 λa5=>
 (ldL (.bool) (a5.add 0) (λx6_0=>
 (ldL (.sl) (a5.add 1) (λx6_1=>
 (ldL (.bool) (a5.add 2) (λx6_2=>
 (ldL (.sl) (a5.add 3) (λx6_3=>
 (ifP (decide (s1.2.1>0))
 (callP (zal s1.2.1) (λr7 h3=>
 (callP (zd0 (⟨(⟨x6_0,x6_1⟩:TInt),(⟨x6_2,x6_3⟩:TInt)⟩:TRat) r7) (λr8 h4=>
 (appP 4 64 [.bool false,.slice nilS.a nilS.len nilS.cap,.bool false,.slice nilS.a nilS.len nilS.cap] s1.1 1 [.bool r8.num.neg,.slice r8.num.mag.a r8.num.mag.len r8.num.mag.cap,.bool r8.den.neg,.slice r8.den.mag.a r8.den.mag.len r8.den.mag.cap] (λw9 h5=>
 (k4 (w9,()) h5)) h4)) h3)) h1)
 (k4 (s1.1,()) h1))) h1)) h1)) h1)) h1))))
 (callP (zav s1.1) (λr10 h6=>
 (K r10 h6)) h1)))
 (nilS,0,()) h)
def zdi(a:Sl)(b:Sl)(K:Sl->Hp->Prop)(h:Hp):Prop:=
 (callP (zb3 a) (λr1 h1=>
 (callP (zb3 b) (λr2 h2=>
 (loopP (S:=Sl×Sl×Unit) (λs3 k4 h3=>
 (ifP (decide ((s3.2.1.len:Int)>0))
 (callP (zb6 s3.1 s3.2.1) (λr5 h4=>
 (callP (zb3 r5.2) (λr6 h5=>
 (k4 (s3.2.1,r6,()) h5)) h4)) h3)
 (K s3.1 h3)))
 (r1,r2,()) h2)) h1)) h)
def zb8(a:Sl)(K:Sl->Hp->Prop)(h:Hp):Prop:=
 (callP (zb3 a) (λr1 h1=>
 (ifP ((r1.len:Int)==0)
 (K nilS h1)
 (callP (zbt r1) (λr2 h2=>
 (callP (zdi r1 r2) (λr3 h3=>
 (callP (zb6 r1 r3) (λr4 h4=>
 (callP (zb3 r4.1) (λr5 h5=>
 (K r5 h5)) h4)) h3)) h2)) h1))) h)
def zes(a:Sl)(K:TRat->Hp->Prop)(h:Hp):Prop:=
 (callP (zb3 a) (λr1 h1=>
 (ifP (decide ((r1.len:Int)<2))
 (callP (zal 0) (λr2 h2=>
 (K r2 h2)) h1)
 (callP (zal 0) (λr3 h3=>
 (slP r1 0 (i64.wrap ((r1.len:Int)-1)) 4 λc4=>
 (loopP (S:=(Bool×Sl×Bool×Sl×Unit)×Int×Unit) (λs5 k6 h4=>
 (ifP (decide (s5.2.1<(c4.len:Int)))
 (joinP (S:=(Bool×Sl×Bool×Sl×Unit)×Unit) (λs7 h5=>
 (k6 ((s7.1.1,s7.1.2.1,s7.1.2.2.1,s7.1.2.2.2.1,()),(i64.wrap (s5.2.1+1)),()) h5))
 (λk8=>
 (idxP c4 s5.2.1 4 λa9=>
 (ldL (.bool) (a9.add 0) (λx10_0=>
 (ldL (.sl) (a9.add 1) (λx10_1=>
 (ldL (.bool) (a9.add 2) (λx10_2=>
 (ldL (.sl) (a9.add 3) (λx10_3=>
 (joinP (S:=(Bool×Sl×Bool×Sl×Unit)×Unit) (λs11 h6=>
 (callP (zga (⟨(⟨s11.1.1,s11.1.2.1⟩:TInt),(⟨s11.1.2.2.1,s11.1.2.2.2.1⟩:TInt)⟩:TRat) (⟨(⟨s5.1.1,s5.1.2.1⟩:TInt),(⟨s5.1.2.2.1,s5.1.2.2.2.1⟩:TInt)⟩:TRat)) (λr13 h7=>
 (ifP (decide (r13>0))
 (k8 ((s11.1.1,s11.1.2.1,s11.1.2.2.1,s11.1.2.2.2.1,()),()) h7)
 (k8 ((s5.1.1,s5.1.2.1,s5.1.2.2.1,s5.1.2.2.2.1,()),()) h7))) h6))
 (λk12=>
 (callP (zcc (⟨(⟨x10_0,x10_1⟩:TInt),(⟨x10_2,x10_3⟩:TInt)⟩:TRat)) (λr14 h8=>
 (ifP (decide (r14<0))
 (callP (zev (⟨(⟨x10_0,x10_1⟩:TInt),(⟨x10_2,x10_3⟩:TInt)⟩:TRat)) (λr15 h9=>
 (k12 ((r15.num.neg,r15.num.mag,r15.den.neg,r15.den.mag,()),()) h9)) h8)
 (k12 ((x10_0,x10_1,x10_2,x10_3,()),()) h8))) h4)))) h4)) h4)) h4)) h4))))
 (callP (zal 1) (λr16 h10=>
 (callP (zdv (⟨(⟨s5.1.1,s5.1.2.1⟩:TInt),(⟨s5.1.2.2.1,s5.1.2.2.2.1⟩:TInt)⟩:TRat) r16) (λr17 h11=>
 (K r17 h11)) h10)) h4)))
 ((r3.num.neg,r3.num.mag,r3.den.neg,r3.den.mag,()),0,()) h3))) h1))) h)
def zaz(s:Sl)(K:Addr->Hp->Prop)(h:Hp):Prop:=
 (newP [.slice s.a s.len s.cap] (λp1 h1=>
 (K p1 h1)) h)
def zh6(a:Sl)(K:Sl->Hp->Prop)(h:Hp):Prop:=
 (joinP (S:=Int×Unit) (λs1 h1=>
 (newP [] (λp3 h2=>
 (slP a 0 s1.1 4 λc4=>
 (rdO c4.a (c4.len*4) (λvs5=>
 (appP 4 64 [.bool false,.slice nilS.a nilS.len nilS.cap,.bool false,.slice nilS.a nilS.len nilS.cap] (⟨some p3,0,0⟩:Sl) c4.len vs5 (λw6 h3=>
 (K w6 h3)) h2)) h2))) h1))
 (λk2=>
 (loopP (S:=Int×Unit) (λs7 k8 h4=>
 (joinP (S:=Unit) (λs9 h5=>
 (k8 ((i64.wrap (s7.1-1)),()) h5))
 (λk10=>
 (ifP (decide (s7.1>0))
 (idxP a (i64.wrap (s7.1-1)) 4 λa11=>
 (ldL (.bool) (a11.add 0) (λx12_0=>
 (ldL (.sl) (a11.add 1) (λx12_1=>
 (ldL (.bool) (a11.add 2) (λx12_2=>
 (ldL (.sl) (a11.add 3) (λx12_3=>
 (callP (zmv (⟨(⟨x12_0,x12_1⟩:TInt),(⟨x12_2,x12_3⟩:TInt)⟩:TRat)) (λr13 h6=>
 (ifP (r13==0)
 (k10 () h6)
 (k2 (s7.1,()) h6))) h4)) h4)) h4)) h4)) h4))
 (k2 (s7.1,()) h4)))))
 ((a.len:Int),()) h)))
def zi4(a:Sl)(n:TRat)(K:Sl->Hp->Prop)(h:Hp):Prop:=
 (loopP (S:=Sl×Int×Unit) (λs1 k2 h1=>
 (ifP (decide (s1.2.1<(a.len:Int)))
 (idxP a s1.2.1 4 λa3=>
 (ldL (.bool) (a3.add 0) (λx4_0=>
 (ldL (.sl) (a3.add 1) (λx4_1=>
 (ldL (.bool) (a3.add 2) (λx4_2=>
 (ldL (.sl) (a3.add 3) (λx4_3=>
 (callP (zpl (⟨(⟨x4_0,x4_1⟩:TInt),(⟨x4_2,x4_3⟩:TInt)⟩:TRat) n) (λr5 h2=>
 (appP 4 64 [.bool false,.slice nilS.a nilS.len nilS.cap,.bool false,.slice nilS.a nilS.len nilS.cap] s1.1 1 [.bool r5.num.neg,.slice r5.num.mag.a r5.num.mag.len r5.num.mag.cap,.bool r5.den.neg,.slice r5.den.mag.a r5.den.mag.len r5.den.mag.cap] (λw6 h3=>
 (k2 (w6,(i64.wrap (s1.2.1+1)),()) h3)) h2)) h1)) h1)) h1)) h1)) h1))
 (callP (zh6 s1.1) (λr7 h4=>
 (K r7 h4)) h1)))
 (nilS,0,()) h)
def zh7(K:TRat->Hp->Prop)(h:Hp):Prop:=
 (callP (zbi 0) (λr1 h1=>
 (K r1 h1)) h)
def zos(a:Sl)(i:Int)(K:TRat->Hp->Prop)(h:Hp):Prop:=
 (joinP (S:=(Bool×Sl×Bool×Sl×Unit)×Unit) (λs1 h1=>
 (idxP a i 4 λa3=>
 (ldL (.bool) (a3.add 0) (λx4_0=>
 (ldL (.sl) (a3.add 1) (λx4_1=>
 (ldL (.bool) (a3.add 2) (λx4_2=>
 (ldL (.sl) (a3.add 3) (λx4_3=>
 (K (⟨(⟨x4_0,x4_1⟩:TInt),(⟨x4_2,x4_3⟩:TInt)⟩:TRat) h1)) h1)) h1)) h1)) h1)))
 (λk2=>
 (ifP (decide (i<0))
 (callP (zh7) (λr5 h2=>
 (K r5 h2)) h)
 (ifP (decide (i>=(a.len:Int)))
 (callP (zh7) (λr6 h3=>
 (K r6 h3)) h)
 (k2 ((false,nilS,false,nilS,()),()) h)))))
def zm1(a:Sl)(b:Sl)(K:Sl->Hp->Prop)(h:Hp):Prop:=
 (joinP (S:=Sl×Unit) (λs1 h1=>
 (callP (zh6 s1.1) (λr3 h2=>
 (K r3 h2)) h1))
 (λk2=>
 (loopP (S:=Sl×Int×Unit) (λs4 k5 h3=>
 (joinP (S:=Unit) (λs6 h4=>
 (callP (zos a s4.2.1) (λr8 h5=>
 (callP (zos b s4.2.1) (λr9 h6=>
 (callP (zpk r8 r9) (λr10 h7=>
 (appP 4 64 [.bool false,.slice nilS.a nilS.len nilS.cap,.bool false,.slice nilS.a nilS.len nilS.cap] s4.1 1 [.bool r10.num.neg,.slice r10.num.mag.a r10.num.mag.len r10.num.mag.cap,.bool r10.den.neg,.slice r10.den.mag.a r10.den.mag.len r10.den.mag.cap] (λw11 h8=>
 (k5 (w11,(i64.wrap (s4.2.1+1)),()) h8)) h7)) h6)) h5)) h4))
 (λk7=>
 (ifP (decide (s4.2.1<(a.len:Int)))
 (k7 () h3)
 (ifP (decide (s4.2.1<(b.len:Int)))
 (k7 () h3)
 (k2 (s4.1,()) h3))))))
 (nilS,0,()) h)))
def zpn(a:Sl)(b:Sl)(K:Sl->Hp->Prop)(h:Hp):Prop:=
 (callP (zbi (-1)) (λr1 h1=>
 (callP (zi4 b r1) (λr2 h2=>
 (callP (zm1 a r2) (λr3 h3=>
 (K r3 h3)) h2)) h1)) h)
def zmw(a:Sl)(b:Sl)(K:Bool->Hp->Prop)(h:Hp):Prop:=
 (callP (zpn a b) (λr1 h1=>
 (K ((r1.len:Int)==0) h1)) h)
def zi3(a:Sl)(b:Sl)(K:Bool->Hp->Prop)(h:Hp):Prop:=
 (ifP ((a.len:Int)==(b.len:Int))
 (callP (zmw a b) (λr1 h1=>
 (K r1 h1)) h)
 (K false h))
def zkp(a:Sl)(n:Int)(K:Sl->Hp->Prop)(h:Hp):Prop:=
 (loopP (S:=Sl×Int×Unit) (λs1 k2 h1=>
 (ifP (decide (s1.2.1<n))
 (callP (zh7) (λr3 h2=>
 (appP 4 64 [.bool false,.slice nilS.a nilS.len nilS.cap,.bool false,.slice nilS.a nilS.len nilS.cap] s1.1 1 [.bool r3.num.neg,.slice r3.num.mag.a r3.num.mag.len r3.num.mag.cap,.bool r3.den.neg,.slice r3.den.mag.a r3.den.mag.len r3.den.mag.cap] (λw4 h3=>
 (k2 (w4,(i64.wrap (s1.2.1+1)),()) h3)) h2)) h1)
 (rdO a.a (a.len*4) (λvs5=>
 (appP 4 64 [.bool false,.slice nilS.a nilS.len nilS.cap,.bool false,.slice nilS.a nilS.len nilS.cap] s1.1 a.len vs5 (λw6 h4=>
 (callP (zh6 w6) (λr7 h5=>
 (K r7 h5)) h4)) h1)) h1)))
 (nilS,0,()) h)
def zm2(a:Sl)(b:Sl)(K:Sl->Hp->Prop)(h:Hp):Prop:=
 (loopP (S:=Sl×Int×Unit) (λs1 k2 h1=>
 (ifP (decide (s1.2.1<(b.len:Int)))
 (idxP b s1.2.1 4 λa3=>
 (ldL (.bool) (a3.add 0) (λx4_0=>
 (ldL (.sl) (a3.add 1) (λx4_1=>
 (ldL (.bool) (a3.add 2) (λx4_2=>
 (ldL (.sl) (a3.add 3) (λx4_3=>
 (callP (zi4 a (⟨(⟨x4_0,x4_1⟩:TInt),(⟨x4_2,x4_3⟩:TInt)⟩:TRat)) (λr5 h2=>
 (callP (zkp r5 s1.2.1) (λr6 h3=>
 (callP (zm1 s1.1 r6) (λr7 h4=>
 (k2 (r7,(i64.wrap (s1.2.1+1)),()) h4)) h3)) h2)) h1)) h1)) h1)) h1)) h1))
 (K s1.1 h1)))
 (nilS,0,()) h)
def zfe(a:Sl)(x:TRat)(K:TRat->Hp->Prop)(h:Hp):Prop:=
 (callP (zal 0) (λr1 h1=>
 (callP (zaz a) (λr2 h2=>
 (backP (S:=(Bool×Sl×Bool×Sl×Unit)×Unit) (.agg [.bool,.sl,.bool,.sl]) r2 (λi3 v4 s5 k6 h3=>
 (callP (zd0 (⟨(⟨s5.1.1,s5.1.2.1⟩:TInt),(⟨s5.1.2.2.1,s5.1.2.2.2.1⟩:TInt)⟩:TRat) x) (λr8 h5=>
 (callP (zdv r8 (⟨(⟨v4.1,v4.2.1⟩:TInt),(⟨v4.2.2.1,v4.2.2.2.1⟩:TInt)⟩:TRat)) (λr9 h6=>
 (k6 ((r9.num.neg,r9.num.mag,r9.den.neg,r9.den.mag,()),()) h6)) h5)) h3))
 ((r1.num.neg,r1.num.mag,r1.den.neg,r1.den.mag,()),()) (λs7 h4=>
 (K (⟨(⟨s7.1.1,s7.1.2.1⟩:TInt),(⟨s7.1.2.2.1,s7.1.2.2.2.1⟩:TInt)⟩:TRat) h4)) h2)) h1)) h)
def zbk(chain:Sl)(x:TRat)(K:Int->Hp->Prop)(h:Hp):Prop:=
 (loopP (S:=Int×Int×Int×Unit) (λs1 k2 h1=>
 (ifP (decide (s1.2.2.1<(chain.len:Int)))
 (joinP (S:=Int×Int×Unit) (λs3 h2=>
 (k2 (s3.1,s3.2.1,(i64.wrap (s1.2.2.1+1)),()) h2))
 (λk4=>
 (idxP chain s1.2.2.1 1 λa5=>
 (ldL (.sl) a5 (λx6=>
 (callP (zfe x6 x) (λr7 h3=>
 (callP (zcc r7) (λr8 h4=>
 (ifP (r8==0)
 (k4 (s1.1,s1.2.1,()) h4)
 (ifP (s1.2.1==(i64.wrap (0-r8)))
 (k4 ((i64.wrap (s1.1+1)),r8,()) h4)
 (k4 (s1.1,r8,()) h4)))) h3)) h1)) h1))))
 (K s1.1 h1)))
 (0,0,0,()) h)
def zd6(l:Sl)(K:Sl->Hp->Prop)(h:Hp):Prop:=
 (loopP (S:=Sl×Int×Unit) (λs1 k2 h1=>
 (ifP (decide (s1.2.1<(l.len:Int)))
 (idxP l s1.2.1 1 λa3=>
 (ldL (.int .i64) a3 (λx4=>
 (callP (zbi x4) (λr5 h2=>
 (appP 4 64 [.bool false,.slice nilS.a nilS.len nilS.cap,.bool false,.slice nilS.a nilS.len nilS.cap] s1.1 1 [.bool r5.num.neg,.slice r5.num.mag.a r5.num.mag.len r5.num.mag.cap,.bool r5.den.neg,.slice r5.den.mag.a r5.den.mag.len r5.den.mag.cap] (λw6 h3=>
 (k2 (w6,(i64.wrap (s1.2.1+1)),()) h3)) h2)) h1)) h1))
 (K s1.1 h1)))
 (nilS,0,()) h)
def zdm(a:Sl)(K:Sl->Hp->Prop)(h:Hp):Prop:=
 (callP (zcx a) (λr1 h1=>
 (ifP (decide (r1<1))
 (K nilS h1)
 (callP (zb8 a) (λr2 h2=>
 (callP (zbt r2) (λr3 h3=>
 (newP [.slice r2.a r2.len r2.cap,.slice r3.a r3.len r3.cap] (λp4 h4=>
 (loopP (S:=Sl×Sl×Sl×Unit) (λs5 k6 h5=>
 (callP (zcy s5.1 s5.2.1) (λr7 h6=>
 (joinP (S:=Unit) (λs8 h7=>
 (callP (zal (-1)) (λr10 h8=>
 (callP (zdj r7.2.1 r10) (λr11 h9=>
 (appP 1 24 [.slice nilS.a nilS.len nilS.cap] s5.2.2.1 1 [.slice r11.a r11.len r11.cap] (λw12 h10=>
 (k6 (s5.2.1,r11,w12,()) h10)) h9)) h8)) h7))
 (λk9=>
 (ifP (r7.2.2 != 0)
 (K s5.2.2.1 h6)
 (ifP ((r7.2.1.len:Int)==0)
 (K s5.2.2.1 h6)
 (k9 () h6)))))) h5))
 (r2,r3,(⟨some p4,2,2⟩:Sl),()) h4)) h3)) h2)) h1))) h)
def zmx(a:Sl)(b:Sl)(K:Bool->Hp->Prop)(h:Hp):Prop:=
 (ifP ((a.len:Int) != (b.len:Int))
 (K false h)
 (loopP (S:=Int×Unit) (λs1 k2 h1=>
 (ifP (decide (s1.1<(a.len:Int)))
 (idxP a s1.1 1 λa3=>
 (ldL (.sl) a3 (λx4=>
 (idxP b s1.1 1 λa5=>
 (ldL (.sl) a5 (λx6=>
 (callP (zi3 x4 x6) (λr7 h2=>
 (ifP (!r7)
 (K false h2)
 (k2 ((i64.wrap (s1.1+1)),()) h2))) h1)) h1))) h1))
 (K true h1)))
 (0,()) h))
def zfa(x:Int)(v0:(Option Addr))(K:Int->Hp->Prop)(h:Hp):Prop:=
 (ptrK v0 λp1=>
 (ldL (.sl) p1 (λx2=>
 (callP (zbi x) (λr3 h1=>
 (callP (zbk x2 r3) (λr4 h2=>
 (K r4 h2)) h1)) h)) h))
def zf0(a:Sl)(K:TInterval->Hp->Prop)(h:Hp):Prop:=
 (callP (zes a) (λr1 h1=>
 (callP (zev r1) (λr2 h2=>
 (K (⟨r2,r1⟩:TInterval) h2)) h1)) h)
def zho(chain:Sl)(low:TRat)(high:TRat)(K:Int->Hp->Prop)(h:Hp):Prop:=
 (callP (zbk chain low) (λr1 h1=>
 (callP (zbk chain high) (λr2 h2=>
 (K (i64.wrap (r1-r2)) h2)) h1)) h)
def zfr(a:Sl)(low:TRat)(high:TRat)(K:Int->Hp->Prop)(h:Hp):Prop:=
 (callP (zga low high) (λr1 h1=>
 (ifP (decide (r1>=0))
 (K 0 h1)
 (callP (zdm a) (λr2 h2=>
 (callP (zho r2 low high) (λr3 h3=>
 (K r3 h3)) h2)) h1))) h)
def zei(a:Sl)(K:Int->Hp->Prop)(h:Hp):Prop:=
 (callP (zf0 a) (λr1 h1=>
 (callP (zfr a r1.low r1.high) (λr2 h2=>
 (K r2 h2)) h1)) h)
def zcv(K:Bool->Hp->Prop)(h:Hp):Prop:=
 (newP [.int .i64 (-2),.int .i64 0,.int .i64 1] (λp1 h1=>
 (callP (zd6 (⟨some p1,3,3⟩:Sl)) (λr2 h2=>
 (callP (zdm r2) (λr3 h3=>
 (newP [.slice nilS.a nilS.len nilS.cap] (λp4 h4=>
 (stP p4 [.slice r3.a r3.len r3.cap] (λh5=>
 (ldL (.sl) p4 (λx5=>
 (newP [.int .i64 (-2),.int .i64 0,.int .i64 1] (λp6 h6=>
 (callP (zd6 (⟨some p6,3,3⟩:Sl)) (λr7 h7=>
 (newP [.int .i64 0,.int .i64 2] (λp8 h8=>
 (callP (zd6 (⟨some p8,2,2⟩:Sl)) (λr9 h9=>
 (newP [.int .i64 2] (λp10 h10=>
 (callP (zd6 (⟨some p10,1,1⟩:Sl)) (λr11 h11=>
 (newP [.slice r7.a r7.len r7.cap,.slice r9.a r9.len r9.cap,.slice r11.a r11.len r11.cap] (λp12 h12=>
 (callP (zmx x5 (⟨some p12,3,3⟩:Sl)) (λr13 h13=>
 (ifP r13
 (callP (zfa 0 (some p4)) (λr14 h14=>
 (ifP (r14==1)
 (callP (zfa 2 (some p4)) (λr15 h15=>
 (ifP (r15==0)
 (newP [.int .i64 3,.int .i64 (-5),.int .i64 1,.int .i64 1] (λp16 h16=>
 (callP (zd6 (⟨some p16,4,4⟩:Sl)) (λr17 h17=>
 (callP (zei r17) (λr18 h18=>
 (K (r18==2) h18)) h17)) h16)) h15)
 (K false h15))) h14)
 (K false h14))) h13)
 (K false h13))) h12)) h11)) h10)) h9)) h8)) h7)) h6)) h5)) h5)) h4)) h3)) h2)) h1)) h)
def zfp(a:TRat)(K:Bool->Hp->Prop)(h:Hp):Prop:=
 (callP (zko a) (λr1 h1=>
 (ifP r1
 (ifP (decide ((a.num.mag.len:Int)<=3))
 (K (decide ((a.den.mag.len:Int)<=3)) h1)
 (K false h1))
 (K false h1))) h)
def zkq(a:Sl)(K:Bool->Hp->Prop)(h:Hp):Prop:=
 (loopP (S:=Int×Unit) (λs1 k2 h1=>
 (ifP (decide (s1.1<(a.len:Int)))
 (idxP a s1.1 4 λa3=>
 (ldL (.bool) (a3.add 0) (λx4_0=>
 (ldL (.sl) (a3.add 1) (λx4_1=>
 (ldL (.bool) (a3.add 2) (λx4_2=>
 (ldL (.sl) (a3.add 3) (λx4_3=>
 (callP (zfp (⟨(⟨x4_0,x4_1⟩:TInt),(⟨x4_2,x4_3⟩:TInt)⟩:TRat)) (λr5 h2=>
 (ifP (!r5)
 (K false h2)
 (k2 ((i64.wrap (s1.1+1)),()) h2))) h1)) h1)) h1)) h1)) h1))
 (K (decide ((a.len:Int)<=8)) h1)))
 (0,()) h)
def zkk(l:Sl)(K:Bool->Hp->Prop)(h:Hp):Prop:=
 (loopP (S:=Int×Unit) (λs1 k2 h1=>
 (ifP (decide (s1.1<(l.len:Int)))
 (idxP l s1.1 1 λa3=>
 (ldL (.sl) a3 (λx4=>
 (callP (zkq x4) (λr5 h2=>
 (ifP (!r5)
 (K false h2)
 (k2 ((i64.wrap (s1.1+1)),()) h2))) h1)) h1))
 (K true h1)))
 (0,()) h)
def zhm(roots:Sl)(a:Sl)(K:Sl->Hp->Prop)(h:Hp):Prop:=
 (loopP (S:=Sl×Int×Unit) (λs1 k2 h1=>
 (ifP (decide (s1.2.1<(roots.len:Int)))
 (idxP roots s1.2.1 4 λa3=>
 (ldL (.bool) (a3.add 0) (λx4_0=>
 (ldL (.sl) (a3.add 1) (λx4_1=>
 (ldL (.bool) (a3.add 2) (λx4_2=>
 (ldL (.sl) (a3.add 3) (λx4_3=>
 (callP (zpm (⟨(⟨x4_0,x4_1⟩:TInt),(⟨x4_2,x4_3⟩:TInt)⟩:TRat)) (λr5 h2=>
 (callP (zbi 1) (λr6 h3=>
 (newP [.bool r5.num.neg,.slice r5.num.mag.a r5.num.mag.len r5.num.mag.cap,.bool r5.den.neg,.slice r5.den.mag.a r5.den.mag.len r5.den.mag.cap,.bool r6.num.neg,.slice r6.num.mag.a r6.num.mag.len r6.num.mag.cap,.bool r6.den.neg,.slice r6.den.mag.a r6.den.mag.len r6.den.mag.cap] (λp7 h4=>
 (callP (zm2 s1.1 (⟨some p7,2,2⟩:Sl)) (λr8 h5=>
 (k2 (r8,(i64.wrap (s1.2.1+1)),()) h5)) h4)) h3)) h2)) h1)) h1)) h1)) h1)) h1))
 (K s1.1 h1)))
 (a,0,()) h)
def zhj(num:Int)(den:Int)(K:TRat->Hp->Prop)(h:Hp):Prop:=
 (callP (zc8 num) (λr1 h1=>
 (callP (zc8 den) (λr2 h2=>
 (callP (zhk r1 r2) (λr3 h3=>
 (ifP (r3.2 != 0)
 (callP (zal 0) (λr4 h4=>
 (K r4 h4)) h3)
 (K (⟨(⟨r3.1.num.neg,r3.1.num.mag⟩:TInt),(⟨r3.1.den.neg,r3.1.den.mag⟩:TInt)⟩:TRat) h3))) h2)) h1)) h)
def ziw(i:TInterval)(K:TRat->Hp->Prop)(h:Hp):Prop:=
 (callP (zdv i.low i.high) (λr1 h1=>
 (callP (zhj 1 2) (λr2 h2=>
 (callP (zd0 r1 r2) (λr3 h3=>
 (K r3 h3)) h2)) h1)) h)
def zc4:Nat->Sl->TInterval->Int->Int->(Sl->Hp->Prop)->Hp->Prop
 | 0,_,_,_,_,_,_=>False
 | fuel+1,chain,i,low,high,K,h=>
 (ifP ((i64.wrap (low-high))==0)
 (K nilS h)
 (ifP ((i64.wrap (low-high))==1)
 (newP [.bool i.low.num.neg,.slice i.low.num.mag.a i.low.num.mag.len i.low.num.mag.cap,.bool i.low.den.neg,.slice i.low.den.mag.a i.low.den.mag.len i.low.den.mag.cap,.bool i.high.num.neg,.slice i.high.num.mag.a i.high.num.mag.len i.high.num.mag.cap,.bool i.high.den.neg,.slice i.high.den.mag.a i.high.den.mag.len i.high.den.mag.cap] (λp1 h1=>
 (K (⟨some p1,1,1⟩:Sl) h1)) h)
 (callP (ziw i) (λr2 h2=>
 (callP (zbk chain r2) (λr3 h3=>
 (callP ((zc4 fuel) chain (⟨i.low,r2⟩:TInterval) low r3) (λr4 h4=>
 (callP ((zc4 fuel) chain (⟨r2,i.high⟩:TInterval) r3 high) (λr5 h5=>
 (rdO r5.a (r5.len*8) (λvs6=>
 (appP 8 128 [.bool false,.slice nilS.a nilS.len nilS.cap,.bool false,.slice nilS.a nilS.len nilS.cap,.bool false,.slice nilS.a nilS.len nilS.cap,.bool false,.slice nilS.a nilS.len nilS.cap] r4 r5.len vs6 (λw7 h6=>
 (K w7 h6)) h5)) h5)) h4)) h3)) h2)) h)))
def zl9(chain:Sl)(i:TInterval)(low:Int)(high:Int)(K:Sl->Hp->Prop)(h:Hp):Prop:=∃fuel,zc4 fuel chain i low high K h
def zhn(a:Sl)(K:Sl->Hp->Prop)(h:Hp):Prop:=
 (callP (zdm a) (λr1 h1=>
 (ifP ((r1.len:Int)==0)
 (K nilS h1)
 (callP (zf0 a) (λr2 h2=>
 (callP (zbk r1 r2.low) (λr3 h3=>
 (callP (zbk r1 r2.high) (λr4 h4=>
 (callP (zl9 r1 r2 r3 r4) (λr5 h5=>
 (K r5 h5)) h4)) h3)) h2)) h1))) h)
def zh2(roots:Sl)(complex:Bool)(x:A2_TRat)(K:Bool->Hp->Prop)(h:Hp):Prop:=
 (joinP (S:=Unit) (λs1 h1=>
 (newP [.int .i64 1] (λp3 h2=>
 (callP (zd6 (⟨some p3,1,1⟩:Sl)) (λr4 h3=>
 (joinP (S:=Sl×Unit) (λs5 h4=>
 (callP (zhm roots s5.1) (λr7 h5=>
 (loopP (S:=Int×Int×Int×Unit) (λs8 k9 h6=>
 (ifP (decide (s8.2.2.1<(roots.len:Int)))
 (joinP (S:=Int×Int×Unit) (λs10 h7=>
 (k9 (s10.1,s10.2.1,(i64.wrap (s8.2.2.1+1)),()) h7))
 (λk11=>
 (idxP roots s8.2.2.1 4 λa12=>
 (ldL (.bool) (a12.add 0) (λx13_0=>
 (ldL (.sl) (a12.add 1) (λx13_1=>
 (ldL (.bool) (a12.add 2) (λx13_2=>
 (ldL (.sl) (a12.add 3) (λx13_3=>
 (slP roots 0 s8.2.2.1 4 λc14=>
 (loopP (S:=Bool×Int×Unit) (λs15 k16 h8=>
 (ifP (decide (s15.2.1<(c14.len:Int)))
 (joinP (S:=Bool×Unit) (λs17 h9=>
 (k16 (s17.1,(i64.wrap (s15.2.1+1)),()) h9))
 (λk18=>
 (idxP c14 s15.2.1 4 λa19=>
 (ldL (.bool) (a19.add 0) (λx20_0=>
 (ldL (.sl) (a19.add 1) (λx20_1=>
 (ldL (.bool) (a19.add 2) (λx20_2=>
 (ldL (.sl) (a19.add 3) (λx20_3=>
 (ifP s15.1
 (k18 (true,()) h8)
 (callP (zj5 (⟨(⟨x13_0,x13_1⟩:TInt),(⟨x13_2,x13_3⟩:TInt)⟩:TRat) (⟨(⟨x20_0,x20_1⟩:TInt),(⟨x20_2,x20_3⟩:TInt)⟩:TRat)) (λr21 h10=>
 (k18 ((r21==0),()) h10)) h8))) h8)) h8)) h8)) h8))))
 (ifP s15.1
 (k11 (s8.1,s8.2.1,()) h8)
 (callP (zj5 x.c0 (⟨(⟨x13_0,x13_1⟩:TInt),(⟨x13_2,x13_3⟩:TInt)⟩:TRat)) (λr22 h11=>
 (ifP (decide (r22<0))
 (callP (zj5 (⟨(⟨x13_0,x13_1⟩:TInt),(⟨x13_2,x13_3⟩:TInt)⟩:TRat) x.c1) (λr23 h12=>
 (ifP (decide (r23<=0))
 (k11 ((i64.wrap (s8.1+1)),(i64.wrap (s8.2.1+1)),()) h12)
 (k11 ((i64.wrap (s8.1+1)),s8.2.1,()) h12))) h11)
 (k11 ((i64.wrap (s8.1+1)),s8.2.1,()) h11))) h8))))
 (false,0,()) h6))) h6)) h6)) h6)) h6))))
 (callP (zei r7) (λr24 h13=>
 (ifP (r24==s8.1)
 (callP (zfr r7 x.c0 x.c1) (λr25 h14=>
 (ifP (r25==s8.2.1)
 (callP (zhn r7) (λr26 h15=>
 (K ((r26.len:Int)==s8.1) h15)) h14)
 (K false h14))) h13)
 (K false h13))) h6)))
 (0,0,0,()) h5)) h4))
 (λk6=>
 (ifP complex
 (newP [.int .i64 1,.int .i64 0,.int .i64 1] (λp27 h16=>
 (callP (zd6 (⟨some p27,3,3⟩:Sl)) (λr28 h17=>
 (k6 (r28,()) h17)) h16)) h3)
 (k6 (r4,()) h3))))) h2)) h1))
 (λk2=>
 (callP (zcv) (λr29 h18=>
 (ifP (!r29)
 (callP (zcv) (λr30 h19=>
 (K r30 h19)) h18)
 (ifP (decide ((roots.len:Int)>5))
 (callP (zcv) (λr31 h20=>
 (K r31 h20)) h18)
 (newP [.slice roots.a roots.len roots.cap] (λp32 h21=>
 (callP (zkk (⟨some p32,1,1⟩:Sl)) (λr33 h22=>
 (ifP (!r33)
 (callP (zcv) (λr34 h23=>
 (K r34 h23)) h22)
 (callP (zfp x.c0) (λr35 h24=>
 (ifP (!r35)
 (callP (zcv) (λr36 h25=>
 (K r36 h25)) h24)
 (callP (zfp x.c1) (λr37 h26=>
 (ifP (!r37)
 (callP (zcv) (λr38 h27=>
 (K r38 h27)) h26)
 (k2 () h26))) h24))) h22))) h21)) h18)))) h)))
end F
end Den
end

section
namespace Den
open Go Iv
theorem zpb{α:Type}{G:(α->Hp->Prop)->Hp->Prop}{K1 K:α->Hp->Prop}{D h:Hp}(hD:D.le h)(H:callP G K1 D)
 (k:∀v D' h',D.le D'->D'.le h'->(∀j,D j=none->h j≠none->D' j=none/\h' j=h j)->K1 v D'->K v h'):callP G K h:=by
 obtain⟨O,hO⟩:∃O:Hp,O=λj=>match D j with | none=>h j | some _=>none:=⟨_,rfl⟩
 have e:h=D.add O:=by
  funext j
  unfold Hp.add
  rw[hO]
  cases hj:D j with
  | none=>simp[hj]
  | some b=>simp[hD j b hj]
 have hdj:D.dj O:=λj=>by
  cases hj:D j with
  | none=>exact .inl rfl
  | some b=>right;rw[hO];simp[hj]
 rw[e]
 refine zaex hdj H λv D' hl hdj' hk=>k v D' _ hl (Hp.le_add _ _) (λj h1 h2=>?_) hk
 have e2:h j=O j:=by rw[hO];simp[h1]
 rw[e2]at h2 |-
 have h3:D' j=none:=by
  rcases hdj' j with h4 | h4
  . exact h4
  . exact absurd h4 h2
 exact⟨h3,by unfold Hp.add;rw[h3]⟩
theorem Own.move{D h D' h':Hp}{n:Nat}{l:Sl}{cs:List Value}(ho:Own D h n l cs)(h1:D'.le h')(hfr:∀j,D j=none->h j≠none->D' j=none/\h' j=h j):Own D' h' n l cs:=by
 obtain⟨g1,g2,g3,g4⟩:=ho
 refine⟨h1,g2,g3,?_⟩
 cases ha:l.a with
 | none=>rw[ha]at g4;exact g4
 | some a=>
   rw[ha]at g4
   obtain⟨k1,k2,k3,b,k4,k5⟩:=g4
   have:=hfr a.block k3 (by rw[k4];simp)
   exact⟨k1,k2,this.1,b,by rw[this.2];exact k4,k5⟩
theorem Own.call{α:Type}{G:(α->Hp->Prop)->Hp->Prop}{K1 K:α->Hp->Prop}{D h:Hp}{n:Nat}{l:Sl}{cs:List Value}(ho:Own D h n l cs)(H:callP G K1 D)
 (k:∀v D' h',D.le D'->Own D' h' n l cs->K1 v D'->K v h'):callP G K h:=
 zpb ho.1 H λv D' h' h1 h2 h3 h4=>k v D' h' h1 (ho.move h2 h3) h4
def Apt(x y:Sl):Prop:=∀a b,x.a=some a->y.a=some b->a.block≠b.block
theorem Apt.symm{x y:Sl}(h:Apt x y):Apt y x:=λa b h1 h2=>(h b a h2 h1).symm
theorem zamw{D h h':Hp}{n:Nat}{l x:Sl}{cs:List Value}(ho:Own D h n l cs)(hap:Apt x l)(hl:D.le h')(hs:∀j,(∀a,x.a=some a->j≠a.block)->h' j=h j):Own D h' n l cs:=by
 obtain⟨g1,g2,g3,g4⟩:=ho
 refine⟨hl,g2,g3,?_⟩
 cases ha:l.a with
 | none=>rw[ha]at g4;exact g4
 | some a=>
   rw[ha]at g4
   obtain⟨k1,k2,k3,b,k4,k5⟩:=g4
   exact⟨k1,k2,k3,b,by rw[hs a.block λc hc=>(hap c a hc ha).symm];exact k4,k5⟩
theorem zaov{h0 h:Hp}{size:Nat}{x:Sl}{cs vs:List Value}{i:Int}{K:Hp->Prop}(k:Nat)(ho:Own h0 h size x cs)(hi:i=k)(hk:k<x.len)(hv:vs.length=size)(hsz:0<size)(hleaf:vs.all Value.leaf=true)
 (H:∀h',Own h0 h' size x (splice cs (k*size) vs)->(∀j,(∀a,x.a=some a->j≠a.block)->h' j=h j)->K h'):idxP x i size λa=>stP a vs K h:=by
 subst hi
 obtain⟨h1,h2,h3,h4⟩:=ho
 refine⟨by omega,by omega,?_⟩
 cases ha:x.a with
 | none=>rw[ha]at h4;simp only at h4;omega
 | some a=>
   rw[ha]at h4
   obtain⟨g1,g2,g3,b,g4,g5,g6,g7⟩:=h4
   have e0:((k:Int).toNat)=k:=rfl
   have e1:k*size+size<=cs.length:=by
    rw[<-h2]
    have:=Nat.mul_le_mul_right size (show k+1<=x.len by omega)
    rw[Nat.add_mul]at this;omega
   have e2:cs.length<=b.cells.length:=by rw[g6,<-h2];exact Nat.mul_le_mul_right _ h3
   show ptrK (some a) _
   simp only[ptrK,e0]
   refine⟨b,by rw[zcd];exact g4,znw g2 _,g5,by rw[zhb];omega,hleaf,?_⟩
   rw[zcd,zhb,g1,Nat.zero_add]
   refine H _ ⟨?_,?_,h3,?_⟩ λj hj=>?_
   . intro kk bk hkk
     rw[Hp.ins_ne (λhh=>by subst hh;rw[g3]at hkk;cases hkk)]
     exact h1 kk bk hkk
   . rw[zcl (by omega)];exact h2
   . rw[ha]
     refine⟨g1,g2,g3,_,Hp.ins_same _ _ _,g5,?_,?_⟩
     . show(splice b.cells (k*size) vs).length=_
       rw[zcl (by omega)];exact g6
     . show(splice b.cells (k*size) vs).take _=_
       rw[zcl (by omega)]
       exact zov (by omega) g7
   . exact Hp.ins_ne (hj a ha)
section
variable {α : Type} {c : α → List Value} {n : Nat}
theorem zwx(hc:∀x,(c x).length=n){x:α}:∀{xs:List α} {k:Nat},k<xs.length->splice (xs.flatMap c) (k*n) (c x)=(xs.set k x).flatMap c
 | [],k,h=>by simp at h
 | y :: r,0,h=>by
   unfold splice
   simp only[Nat.zero_mul,List.take_zero,List.nil_append,Nat.zero_add,List.set_cons_zero,List.flatMap_cons,hc]
   congr 1
   rw[<-hc y,List.drop_left]
 | y :: r,k+1,h=>by
   have ih:=zwx hc (x:=x) (xs:=r) (k:=k) (by simpa using h)
   unfold splice at ih |-
   rw[hc]at ih |-
   have e1:(k+1)*n=n+k*n:=by rw[Nat.add_mul];omega
   have e2:n+k*n+n=n+(k*n+n):=by omega
   simp only[List.flatMap_cons,List.set_cons_succ]
   rw[e1,e2,<-ih]
   have e3:∀j,(c y++r.flatMap c).take (n+j)=c y++(r.flatMap c).take j:=λj=>by
    rw[List.take_append,hc,Nat.add_sub_cancel_left,List.take_of_length_le (by rw[hc];omega)]
   have e4:∀j,(c y++r.flatMap c).drop (n+j)=(r.flatMap c).drop j:=λj=>by
    rw[List.drop_append,hc,Nat.add_sub_cancel_left,List.drop_of_length_le (by rw[hc];omega),List.nil_append]
   rw[e3,e4]
   simp[List.append_assoc]
theorem Own.flen(hc:∀x,(c x).length=n)(hn:0<n){D h:Hp}{l:Sl}{xs:List α}(ho:Own D h n l (xs.flatMap c)):l.len=xs.length:=by
 have:=ho.2.1
 rw[ze4 hc]at this
 exact Nat.eq_of_mul_eq_mul_right hn this
theorem zajn(hc:∀x,(c x).length=n)(hn:0<n){D h:Hp}{l:Sl}{xs:List α}{x:α}{i:Int}{K:Hp->Prop}(k:Nat)(ho:Own D h n l (xs.flatMap c))(hi:i=k)(hk:k<xs.length)(hleaf:(c x).all Value.leaf=true)
 (H:∀h',Own D h' n l ((xs.set k x).flatMap c)->(∀j,(∀a,l.a=some a->j≠a.block)->h' j=h j)->K h'):idxP l i n λa=>stP a (c x) K h:=by
 refine zaov k ho hi (by rw[ho.flen hc hn];exact hk) (hc x) hn hleaf λh' h1 h2=>H h' ?_ h2
 rw[zwx hc hk]at h1
 exact h1
end
theorem zuo(x:TRat):(qc x).all Value.leaf=true:=rfl
theorem QL.set{h:Hp}{B:Nat}{xs:List TRat}{vs:List Rat}{x:TRat}{v:Rat}{k:Nat}(hq:QL h B xs vs)(h1:NR h x v)(h2:BR B v):QL h B (xs.set k x) (vs.set k v):=by
 refine⟨by simp[hq.1],λj j1 j2=>?_⟩
 rw[List.getElem_set,List.getElem_set]
 by_cases hj:k=j
 . rw[if_pos hj,if_pos hj];exact⟨h1,h2⟩
 . rw[if_neg hj,if_neg hj]
   exact hq.2 j (by simpa using j1) (by simpa using j2)
theorem QL.mono{h:Hp}{B C:Nat}{xs:List TRat}{vs:List Rat}(hq:QL h B xs vs)(hB:B<=C):QL h C xs vs:=⟨hq.1,λk h1 h2=>⟨(hq.2 k h1 h2).1,(hq.2 k h1 h2).2.mono hB⟩⟩
theorem QL.take{h:Hp}{B:Nat}{xs:List TRat}{vs:List Rat}{k:Nat}(hq:QL h B xs vs):QL h B (xs.take k) (vs.take k):=by
 refine⟨by simp[hq.1],λj j1 j2=>?_⟩
 rw[List.getElem_take,List.getElem_take]
 exact hq.2 j (by simp at j1;omega) (by simp at j2;omega)
theorem QL.bound{h:Hp}{B:Nat}{xs:List TRat}{vs:List Rat}(hq:QL h B xs vs):∀v∈vs,BR B v:=λv hv=>by
 obtain⟨i,hi,rfl⟩:=List.mem_iff_getElem.1 hv
 exact(hq.2 i (by rw[hq.1];exact hi) hi).2
def PL(h:Hp)(B:Nat)(l:Sl)(p:List Rat):Prop:=∃xs,RdQ h l xs/\QL h B xs p/\l.len<=l.cap
def OD(D h:Hp)(B:Nat)(l:Sl)(p:List Rat):Prop:=∃xs,Own D h 4 l (xs.flatMap qc)/\QL D B xs p
def OL(h0 h:Hp)(B:Nat)(l:Sl)(p:List Rat):Prop:=∃D,h0.le D/\OD D h B l p
section
variable {D h h' h0 : Hp} {B : Nat} {l : Sl} {p : List Rat}
theorem PL.le(hp:PL h B l p)(hl:h.le h'):PL h' B l p:=by
 obtain⟨xs,h1,h2,h3⟩:=hp
 exact⟨xs,h1.le hl,h2.le hl,h3⟩
theorem PL.mono{C:Nat}(hp:PL h B l p)(hB:B<=C):PL h C l p:=by
 obtain⟨xs,h1,h2,h3⟩:=hp
 exact⟨xs,h1,h2.mono hB,h3⟩
theorem PL.len(hp:PL h B l p):l.len=p.length:=by
 obtain⟨xs,h1,h2,h3⟩:=hp
 rw[RdQ.len h1,h2.1]
theorem PL.cap(hp:PL h B l p):l.len<=l.cap:=by obtain⟨xs,h1,h2,h3⟩:=hp;exact h3
theorem PL.bound(hp:PL h B l p):∀v∈p,BR B v:=by obtain⟨xs,h1,h2,h3⟩:=hp;exact h2.bound
theorem PL.nil:PL h B nilS []:=⟨[],Rd.nil,⟨rfl,λk h1 _=>by simp at h1⟩,Nat.le_refl _⟩
theorem PL.get{i:Int}{K:Bool->Sl->Bool->Sl->Prop}(k:Nat)(hp:PL h B l p)(hi:i=k)(hk:k<p.length)
 (H:∀x:TRat,NR h x p[k]->BR B p[k]->K x.num.neg x.num.mag x.den.neg x.den.mag) :
 idxP l i 4 λa=>ldL .bool (a.add 0) (λx0=>ldL .sl (a.add 1) (λx1=>ldL .bool (a.add 2) (λx2=>ldL .sl (a.add 3) (λx3=>K x0 x1 x2 x3) h) h) h) h:=by
 obtain⟨xs,h1,h2,h3⟩:=hp
 have hk':k<xs.length:=by rw[h2.1];exact hk
 have:=h2.2 k hk' hk
 exact zaby k h1 hi hk' (H _ this.1 this.2)
theorem OD.pl(ho:OD D h B l p):PL h B l p:=by
 obtain⟨xs,h1,h2⟩:=ho
 exact⟨xs,h1.rd,h2.le h1.1,h1.2.2.1⟩
theorem OD.dle(ho:OD D h B l p):D.le h:=by obtain⟨xs,h1,h2⟩:=ho;exact h1.1
theorem OD.len(ho:OD D h B l p):l.len=p.length:=ho.pl.len
theorem OD.mono{C:Nat}(hp:OD D h B l p)(hB:B<=C):OD D h C l p:=by
 obtain⟨xs,h1,h2⟩:=hp
 exact⟨xs,h1,h2.mono hB⟩
theorem OL.pl(ho:OL h0 h B l p):PL h B l p:=by obtain⟨D,_,h2⟩:=ho;exact h2.pl
theorem OL.hle(ho:OL h0 h B l p):h0.le h:=by obtain⟨D,h1,h2⟩:=ho;exact Hp.le_trans h1 h2.dle
theorem OL.len(ho:OL h0 h B l p):l.len=p.length:=ho.pl.len
theorem OD.nil:OD h h B nilS []:=⟨[],Own.nil (Hp.le_refl _),⟨rfl,λk h1 _=>by simp at h1⟩⟩
theorem OD.get{i:Int}{K:Bool->Sl->Bool->Sl->Prop}(k:Nat)(hp:OD D h B l p)(hi:i=k)(hk:k<p.length)
 (H:∀x:TRat,NR D x p[k]->BR B p[k]->K x.num.neg x.num.mag x.den.neg x.den.mag) :
 idxP l i 4 λa=>ldL .bool (a.add 0) (λx0=>ldL .sl (a.add 1) (λx1=>ldL .bool (a.add 2) (λx2=>ldL .sl (a.add 3) (λx3=>K x0 x1 x2 x3) h) h) h) h:=by
 obtain⟨xs,h1,h2⟩:=hp
 have hk':k<xs.length:=by rw[h2.1];exact hk
 have:=h2.2 k hk' hk
 exact zaby k h1.rd hi hk' (H _ this.1 this.2)
theorem OD.set{i:Int}{K:Hp->Prop}{x:TRat}{v:Rat}(k:Nat)(hp:OD D h B l p)(hi:i=k)(hk:k<p.length)(hx:NR D x v)(bx:BR B v)
 (H:∀h',OD D h' B l (p.set k v)->(∀j,(∀a,l.a=some a->j≠a.block)->h' j=h j)->K h') :
 idxP l i 4 λa=>stP a [.bool x.num.neg,.slice x.num.mag.a x.num.mag.len x.num.mag.cap,.bool x.den.neg,.slice x.den.mag.a x.den.mag.len x.den.mag.cap] K h:=by
 obtain⟨xs,h1,h2⟩:=hp
 exact zajn zdu (by decide) k h1 hi (by rw[h2.1];exact hk) (zuo x) λh' g1 g2=>H h' ⟨_,g1,h2.set hx bx⟩ g2
theorem OD.call{α:Type}{G:(α->Hp->Prop)->Hp->Prop}{K1 K:α->Hp->Prop}(hp:OD D h B l p)(H:callP G K1 D)
 (k:∀v D' h',D.le D'->OD D' h' B l p->K1 v D'->K v h'):callP G K h:=by
 obtain⟨xs,h1,h2⟩:=hp
 exact h1.call H λv D' h' g1 g2 g3=>k v D' h' g1 ⟨_,g2,h2.le g1⟩ g3
theorem OD.app{Ks:Sl->Hp->Prop}{x:TRat}{v:Rat}(hp:OD D h B l p)(hlen:p.length<=1000000000000)(hx:NR D x v)(bx:BR B v)(H:∀y h',OD D h' B y (p++[v])->Ks y h') :
 appP 4 64 [.bool false,.slice nilS.a nilS.len nilS.cap,.bool false,.slice nilS.a nilS.len nilS.cap] l 1 [.bool x.num.neg,.slice x.num.mag.a x.num.mag.len x.num.mag.cap,.bool x.den.neg,.slice x.den.mag.a x.den.mag.len x.den.mag.cap] Ks h:=by
 have hl:=hp.len
 obtain⟨xs,h1,h2⟩:=hp
 refine zk6 h1 (n:=1) (new:=qc x) rfl rfl rfl (by omega) (by omega) λy h' hy hyl=>H y h' ⟨xs++[x],?_,?_⟩
 . rw[List.flatMap_append]
   simp only[List.flatMap_cons,List.flatMap_nil,List.append_nil]
   exact hy
 . refine⟨by simp[h2.1],λk k1 k2=>?_⟩
   have hl2:=h2.1
   rcases Nat.lt_or_ge k xs.length with h3 | h3
   . rw[List.getElem_append_left h3,List.getElem_append_left (by omega)]
     exact h2.2 k h3 (by omega)
   . have h4:k=xs.length:=by simp at k1;omega
     subst h4
     rw[List.getElem_append_right (Nat.le_refl _),List.getElem_append_right (by omega)]
     simp only[Nat.sub_self,List.getElem_cons_zero]
     have:xs.length-p.length=0:=by omega
     simp only[this,List.getElem_cons_zero]
     exact⟨hx,bx⟩
end
end Den
end
