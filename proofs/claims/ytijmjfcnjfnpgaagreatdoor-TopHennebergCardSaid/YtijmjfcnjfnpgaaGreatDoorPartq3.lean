/-
  Part 3 of the tools and contracts from which the statement is proved.
-/
import Derived.Test.YtijmjfcnjfnpgaaGreatDoorPartq2
set_option linter.all false
open Go.IntKind
section
namespace Iv
def W:Nat:=4294967296
theorem V5:0<W:=by decide
theorem Ziv:W=4294967296:=rfl
def vl:List Nat->Nat
 | []=>0
 | x :: r=>x+W*vl r
def okW(l:List Nat):Prop:=∀d∈l,d<W
def Q7:List Nat->List Nat
 | []=>[]
 | x :: r=>match Q7 r with
   | []=>if x=0 then []else [x]
   | y :: t=>x :: y :: t
def dg(n:Nat):List Nat:=if h:n=0 then []else (n % W) :: dg (n/W)
termination_by n
decreasing_by exact Nat.div_lt_self (Nat.pos_of_ne_zero h) (by decide)
theorem Q0:dg 0=[]:=by unfold dg;simp
theorem ze8{n:Nat}(h:n≠0):dg n=(n % W) :: dg (n/W):=by conv=>lhs;unfold dg;rw[dif_neg h]
theorem Yz(n:Nat):vl (dg n)=n:=by
 induction n using Nat.strongRecOn with
 | _ n ih=>
   by_cases h:n=0
   . subst h;rw[Q0];rfl
   . rw[ze8 h]
     simp only[vl]
     rw[ih (n/W) (Nat.div_lt_self (Nat.pos_of_ne_zero h) (by decide))]
     exact Nat.mod_add_div n W
theorem qu(n:Nat):okW (dg n):=by
 induction n using Nat.strongRecOn with
 | _ n ih=>
   by_cases h:n=0
   . subst h;rw[Q0];intro d hd;cases hd
   . rw[ze8 h]
     intro d hd
     rcases List.mem_cons.1 hd with rfl | hd
     . exact Nat.mod_lt _ V5
     . exact ih (n/W) (Nat.div_lt_self (Nat.pos_of_ne_zero h) (by decide)) d hd
theorem z2r{n:Nat}:dg n=[]↔n=0:=by
 constructor
 . intro h
   have:=Yz n
   rw[h]at this
   exact this.symm
 . rintro rfl;exact Q0
theorem zg9{x:Nat}{r:List Nat}(h:okW (x :: r)):x<W/\okW r:=⟨h x List.mem_cons_self,λd hd=>h d (List.mem_cons_of_mem _ hd)⟩
theorem V4:∀{l:List Nat},okW l->Q7 l=dg (vl l)
 | [],_=>by simp[Q7,vl,Q0]
 | x :: r,h=>by
   obtain⟨hx,hr⟩:=zg9 h
   have ih:=V4 hr
   unfold Q7 vl
   rw[ih]
   by_cases hv:vl r=0
   . rw[hv,Q0]
     simp only[Nat.mul_zero,Nat.add_zero]
     by_cases h0:x=0
     . rw[if_pos h0,h0,Q0]
     . rw[if_neg h0,ze8 h0,Nat.mod_eq_of_lt hx,Nat.div_eq_of_lt hx,Q0]
   . have hne:dg (vl r)≠[]:=λhh=>hv (z2r.1 hh)
     have hpos:x+W*vl r≠0:=by
      have:0<W*vl r:=Nat.mul_pos V5 (Nat.pos_of_ne_zero hv)
      omega
     rw[ze8 hpos,Nat.add_mul_mod_self_left,Nat.mod_eq_of_lt hx,Nat.add_mul_div_left _ _ V5,Nat.div_eq_of_lt hx,Nat.zero_add]
     cases hd:dg (vl r)with
     | nil=>exact absurd hd hne
     | cons y t=>rfl
theorem zdo:∀{l:List Nat},okW l->vl l<W ^ l.length
 | [],_=>by simp[vl]
 | x :: r,h=>by
   obtain⟨hx,hr⟩:=zg9 h
   have ih:=zdo hr
   simp only[vl,List.length_cons,Nat.pow_succ]
   have:W*(vl r+1)<=W*W ^ r.length:=Nat.mul_le_mul_left _ ih
   rw[Nat.mul_comm (W ^ r.length)]
   rw[Nat.mul_add]at this
   omega
theorem Xp{n k:Nat}:(dg n).length<=k↔n<W ^ k:=by
 constructor
 . intro h
   have h1:=zdo (qu n)
   rw[Yz]at h1
   exact Nat.lt_of_lt_of_le h1 (Nat.pow_le_pow_right V5 h)
 . induction k generalizing n with
   | zero=>
     intro h
     have:n=0:=by simp at h;exact h
     subst this;rw[Q0];simp
   | succ k ih=>
     intro h
     by_cases hn:n=0
     . subst hn;rw[Q0];simp
     . rw[ze8 hn]
       simp only[List.length_cons]
       have:n/W<W ^ k:=by
        rw[Nat.div_lt_iff_lt_mul V5];rw[Nat.pow_succ]at h;exact h
       have:=ih this
       omega
theorem z86:∀(a b:List Nat),vl (a++b)=vl a+W ^ a.length*vl b
 | [],b=>by simp[vl]
 | x :: r,b=>by
   simp only[List.cons_append,vl,z86 r b,List.length_cons,Nat.pow_succ]
   rw[Nat.mul_add,Nat.mul_comm (W ^ r.length) W,Nat.mul_assoc];omega
theorem zvz{l:List Nat}(hok:okW l)(ht:Q7 l=l):l=dg (vl l):=ht.symm.trans (V4 hok)
theorem zcg:∀{l:List Nat} {k v:Nat} (hk:k<l.length),vl (l.set k v)+W ^ k*l[k]=vl l+W ^ k*v
 | [],k,v,hk=>by simp at hk
 | x :: r,0,v,hk=>by simp[vl];omega
 | x :: r,k+1,v,hk=>by
   have hk':k<r.length:=by simpa using hk
   have ih:=zcg (v:=v) hk'
   simp only[List.set_cons_succ,vl,List.getElem_cons_succ,Nat.pow_succ]
   have e1:W ^ k*W*r[k]=W*(W ^ k*r[k]):=by rw[Nat.mul_comm (W ^ k) W,Nat.mul_assoc]
   have e2:W ^ k*W*v=W*(W ^ k*v):=by rw[Nat.mul_comm (W ^ k) W,Nat.mul_assoc]
   rw[e1,e2]
   have:=congrArg (W*·) ih
   simp only[Nat.mul_add]at this
   omega
theorem z3p{l:List Nat}{k v:Nat}(hl:okW l)(hv:v<W):okW (l.set k v):=λd hd=>by
 rcases List.mem_or_eq_of_mem_set hd with h | h
 . exact hl d h
 . rw[h];exact hv
theorem qg{l:List Nat}{k:Nat}(hk:k<l.length):vl (l.take (k+1))=vl (l.take k)+W ^ k*l[k]:=by
 rw[List.take_succ_eq_append_getElem hk,z86,List.length_take,Nat.min_eq_left (by omega)]
 simp[vl]
theorem Wn{l:List Nat}(hl:okW l){k:Nat}(hk:k<l.length):l[k]<W:=hl _ (List.getElem_mem hk)
theorem z8p{l:List Nat}(hl:okW l)(k:Nat):okW (l.take k):=λd hd=>hl d (List.mem_of_mem_take hd)
theorem zm9{l:List Nat}(hl:okW l)(k:Nat):okW (l.drop k):=λd hd=>hl d (List.mem_of_mem_drop hd)
theorem zkc{a b:List Nat}(ha:okW a)(hb:okW b):okW (a++b):=λd hd=>(List.mem_append.1 hd).elim (ha d) (hb d)
theorem Xe{l:List Nat}{k:Nat}(hk:k<=l.length):vl l=vl (l.take k)+W ^ k*vl (l.drop k):=by
 have:=z86 (l.take k) (l.drop k)
 rw[List.take_append_drop,List.length_take,Nat.min_eq_left hk]at this;exact this
theorem Zim(n:Nat):vl (List.replicate n 0)=0:=by
 induction n with
 | zero=>rfl
 | succ n ih=>rw[List.replicate_succ];simp[vl,ih]
theorem zem(n:Nat):okW (List.replicate n 0):=λd hd=>by rw[(List.mem_replicate.1 hd).2];decide
theorem Zdc:okW []:=λd hd=>by cases hd
theorem Z6s(l:List Nat):(Q7 l).length<=l.length:=by
 induction l with
 | nil=>exact Nat.le_refl _
 | cons x r ih=>
   unfold Q7
   split
   . split<;>simp
   . rename_i y t h
     rw[h]at ih
     simp only[List.length_cons]at ih |-;omega
theorem z6o(l:List Nat):Q7 (l++[0])=Q7 l:=by
 induction l with
 | nil=>simp[Q7]
 | cons x r ih=>simp only[List.cons_append,Q7,ih]
theorem z7k(l:List Nat){x:Nat}(hx:x≠0):Q7 (l++[x])=l++[x]:=by
 induction l with
 | nil=>simp[Q7,hx]
 | cons y r ih=>
   simp only[List.cons_append,Q7,ih]
   cases h:r++[x]with
   | nil=>simp at h
   | cons a b=>rfl
end Iv
end

section
namespace Den
open Go Iv
def LeX(b:Nat)(h h':Hp):Prop:=∀k B,k≠b->h k=some B->h' k=some B
def zu5(x y:Sl):Prop:=∀a b,x.a=some a->y.a=some b->a.block≠b.block
theorem zn9{h1 h2 h3:Hp}{s s':Nat}{x y:Sl}{cs ds:List Value}(hx:Own h1 h2 s x cs)(hy:Own h2 h3 s' y ds):zu5 x y:=λa b ha hb hh=>by
 obtain⟨_,_,_,gx⟩:=hx
 obtain⟨_,_,_,gy⟩:=hy
 rw[ha]at gx;rw[hb]at gy
 obtain⟨_,_,_,B,g4,_⟩:=gx
 obtain⟨_,_,g3,_⟩:=gy
 rw[hh,g3]at g4;cases g4
theorem zf9{h h':Hp}{b:Nat}(hl:LeX b h h'){a:Addr}(ha:a.block≠b):∀{n:Nat} {l:List Value},Zw h a n=some l->Zw h' a n=some l
 | 0,_,e=>e
 | n+1,l,e=>by
   unfold Zw at *
   cases h1:Zw h a n with
   | none=>rw[h1]at e;cases e
   | some l1=>
     rw[h1]at e;rw[zf9 hl ha h1];simp only at e |-
     have hc:∀v,h.cell (a.add n)=some v->h'.cell (a.add n)=some v:=λv hv=>by
      unfold Hp.cell at *
      cases hs:(a.add n).spot with
      | some x=>rw[hs]at hv;cases hv
      | none=>
        rw[hs]at hv;simp only at hv |-
        rw[Yg]at hv |-
        cases hb:h a.block with
        | none=>rw[hb]at hv;cases hv
        | some B=>rw[hb]at hv;rw[hl _ _ ha hb];exact hv
     cases h2:h.cell (a.add n)with
     | none=>rw[h2]at e;cases e
     | some v=>rw[h2]at e;rw[hc v h2];exact e
theorem Rd.leX{h h':Hp}{b s:Nat}{y:Sl}{cs:List Value}(hr:Rd h s y cs)(hl:LeX b h h')(hne:∀a,y.a=some a->a.block≠b):Rd h' s y cs:=by
 refine⟨hr.1,?_⟩
 have h2:=hr.2
 cases ha:y.a with
 | none=>rw[ha]at h2;exact h2
 | some a=>rw[ha]at h2;exact zf9 hl (hne a ha) h2
theorem Own.leX{h0 h h':Hp}{b s:Nat}{y:Sl}{cs:List Value}(hr:Own h0 h s y cs)(hl:LeX b h h')(h0b:h0 b=none)(hne:∀a,y.a=some a->a.block≠b):Own h0 h' s y cs:=by
 obtain⟨h1,h2,h3,h4⟩:=hr
 refine⟨λk B hk=>?_,h2,h3,?_⟩
 . exact hl k B (λhh=>by rw[hh,h0b]at hk;cases hk) (h1 k B hk)
 . cases ha:y.a with
   | none=>rw[ha]at h4;exact h4
   | some a=>
     rw[ha]at h4
     obtain⟨g1,g2,g3,B,g4,g5⟩:=h4
     exact⟨g1,g2,g3,B,hl _ _ (hne a ha) g4,g5⟩
theorem Z9i{h0 h:Hp}{size:Nat}{x:Sl}{cs vs:List Value}{i:Int}{K:Hp->Prop}(k:Nat)(ho:Own h0 h size x cs)(hi:i=k)(hk:k<x.len)(hv:vs.length=size)(hsz:0<size)(hleaf:vs.all Value.leaf=true)
 (H:∀h' b,(∀a,x.a=some a->a.block=b)->h0 b=none->LeX b h h'->Own h0 h' size x (Zb cs (k*size) vs)->K h'):zg x i size λa=>stP a vs K h:=by
 have ho':=ho
 obtain⟨h1,h2,h3,h4⟩:=ho
 cases ha:x.a with
 | none=>rw[ha]at h4;simp only at h4;omega
 | some a=>
   rw[ha]at h4
   obtain⟨g1,g2,g3,b,g4,g5,g6,g7⟩:=h4
   have key:=zt6 (K:=λh'=>LeX a.block h h'->K h') k ho' hi hk hv hsz hleaf (λh' ho2 hl=>H h' a.block (λa' ha'=>by rw[ha]at ha';cases ha';rfl) g3 hl ho2)
   obtain⟨q1,q2,q3⟩:=key
   refine⟨q1,q2,?_⟩
   rw[ha]at q3 |-
   simp only[yu]at q3 |-
   obtain⟨B,r1,r2,r3,r4,r5,r6⟩:=q3
   refine⟨B,r1,r2,r3,r4,r5,r6 ?_⟩
   rw[Yg]
   intro kk BB hne hkk
   rw[Hp.ins_ne hne];exact hkk
def wc(l:List Nat):List Value:=l.map λ(n:Nat)=>Value.int .u32 (n:Int)
theorem z7l(l:List Nat):(wc l).length=l.length:=by simp[wc]
theorem Zip{l:List Nat}{k v:Nat}(hk:k<l.length):Zb (wc l) (k*1) [.int .u32 (v:Int)]=wc (l.set k v):=by
 rw[Nat.mul_one,z3x]
 unfold wc
 rw[List.map_set]
 have hk':k<(l.map λ(n:Nat)=>Value.int .u32 (n:Int)).length:=by simpa using hk
 rw[List.set_eq_take_append_cons_drop,if_pos hk']
theorem Zio(n:Nat):ye n [Value.int .u32 0]=wc (List.replicate n 0):=by
 unfold ye wc;simp
theorem zy0(a b:List Nat):wc (a++b)=wc a++wc b:=by simp[wc]
def RdW(h:Hp)(x:Sl)(l:List Nat):Prop:=Rd h 1 x (wc l)/\x.len<=x.cap
abbrev qi(h0 h:Hp)(x:Sl)(l:List Nat):Prop:=Own h0 h 1 x (wc l)
theorem RdW.len{h:Hp}{x:Sl}{l:List Nat}(hr:RdW h x l):x.len=l.length:=by have:=hr.1.1;rw[z7l]at this;omega
theorem qi.rdW{h0 h:Hp}{x:Sl}{l:List Nat}(hr:qi h0 h x l):RdW h x l:=⟨hr.rd,hr.2.2.1⟩
theorem qi.len{h0 h:Hp}{x:Sl}{l:List Nat}(hr:qi h0 h x l):x.len=l.length:=RdW.len hr.rdW
theorem RdW.le{h h':Hp}{x:Sl}{l:List Nat}(hr:RdW h x l)(hl:h.le h'):RdW h' x l:=⟨hr.1.le hl,hr.2⟩
theorem RdW.nil{h:Hp}:RdW h zf []:=⟨Rd.nil,Nat.le_refl _⟩
theorem RdW.leX{h h':Hp}{b:Nat}{y:Sl}{l:List Nat}(hr:RdW h y l)(hl:LeX b h h')(hne:∀a,y.a=some a->a.block≠b):RdW h' y l:=⟨hr.1.leX hl hne,hr.2⟩
theorem zbt{h:Hp}{a:Addr}{l:List Value}(H:∀i v,l[i]?=some v->h.cell (a.add i)=some v):∀n,n<=l.length->Zw h a n=some (l.take n)
 | 0,_=>by simp[Zw]
 | n+1,hn=>by
   unfold Zw
   rw[zbt H n (by omega)]
   have h1:l[n]?=some l[n]:=List.getElem?_eq_getElem (by omega)
   simp only[H n _ h1]
   rw[List.take_succ_eq_append_getElem (by omega)]
theorem Rd.cut{h:Hp}{x:Sl}{cs:List Value}(hr:Rd h 1 x cs)(lo hi:Nat)(h1:lo<=hi)(h2:hi<=cs.length)(h3:hi<=x.cap):Rd h 1 (x.cut lo hi 1) ((cs.drop lo).take (hi-lo)):=by
 have hlen:((cs.drop lo).take (hi-lo)).length=hi-lo:=by rw[List.length_take,List.length_drop];omega
 refine⟨by rw[hlen];show(hi-lo)*1=_;omega,?_⟩
 rw[hlen]
 by_cases h0:hi=lo
 . have:hi-lo=0:=by omega
   rw[this]
   cases(x.cut lo hi 1).a<;>simp[Z0,Zw]
 . have hne:x.cap≠lo:=by omega
   have ha:(x.cut lo hi 1).a=x.a.map (·.add (lo*1)):=by show(if x.cap=lo then _ else _)=_;rw[if_neg hne]
   rw[ha]
   have hr2:=hr.2
   cases hxa:x.a with
   | none=>
     rw[hxa]at hr2
     simp only[Z0]at hr2
     split at hr2
     . omega
     . cases hr2
   | some a=>
     rw[hxa]at hr2
     simp only[Z0]at hr2
     show Zw h (a.add (lo*1)) (hi-lo)=_
     have key:=zbt (h:=h) (a:=a.add (lo*1)) (l:=cs.drop lo) (λi v hv=>by
      rw[Wr]
      refine z2c hr2 _ v ?_
      rw[List.getElem?_drop]at hv
      rw[Nat.mul_one];exact hv) (hi-lo) (by rw[List.length_drop];omega)
     exact key
theorem RdW.cut{h:Hp}{x:Sl}{l:List Nat}(hr:RdW h x l)(lo hi:Nat)(h1:lo<=hi)(h2:hi<=l.length):RdW h (x.cut lo hi 1) ((l.drop lo).take (hi-lo)):=by
 have hl:=hr.len
 have hc:=hr.2
 refine⟨?_,?_⟩
 . have:=hr.1.cut lo hi h1 (by rw[z7l];exact h2) (by omega)
   unfold wc at *
   rw[List.map_take,List.map_drop];exact this
 . show hi-lo<=x.cap-lo;omega
theorem Z9e{h:Hp}{x:Sl}{l:List Nat}{lo hi:Int}{K:Sl->Prop}(a b:Nat)(hr:RdW h x l)(ha:lo=a)(hb:hi=b)(hab:a<=b)(hbl:b<=l.length)
 (H:RdW h (x.cut a b 1) ((l.drop a).take (b-a))->K (x.cut a b 1)):slP x lo hi 1 K:=by
 subst ha hb
 have hl:=hr.len
 have hc:=hr.2
 exact⟨by omega,by omega,by omega,H (hr.cut a b hab hbl)⟩
theorem Yy{h:Hp}{x:Sl}{l:List Nat}{i:Int}{Ka:Addr->Prop}(k:Nat)(hr:RdW h x l)(hi:i=k)(hk:k<l.length)
 (H:∀a,h.cell a=some (.int .u32 (l[k]:Int))->Ka a):zg x i 1 Ka:=
 zi9 k hr.1 hi (v:=.int .u32 (l[k]:Int)) (by simp[wc,hk]) H
theorem z5m{h0 h:Hp}{x:Sl}{l:List Nat}{i:Int}{v:Int}{K:Hp->Prop}(k n:Nat)(ho:qi h0 h x l)(hi:i=k)(hk:k<l.length)(hv:v=n)
 (H:∀h' b,(∀a,x.a=some a->a.block=b)->h0 b=none->LeX b h h'->qi h0 h' x (l.set k n)->K h'):zg x i 1 λa=>stP a [.int .u32 v] K h:=by
 subst hv
 refine Z9i k ho hi (by rw[ho.len];exact hk) rfl (by decide) rfl λh' b h1 h2 h3 h4=>H h' b h1 h2 h3 ?_
 rw[Zip hk]at h4;exact h4
theorem z8l{h:Hp}{len cap:Int}{K:Sl->Hp->Prop}(l c:Nat)(hl:len=l)(hc:cap=c)(hlc:l<=c)(hb:c<=35184372088832)
 (H:∀x h',x.len=l->qi h h' x (List.replicate l 0)->K x h'):mkP len cap 4 [.int .u32 0] K h:=by
 refine zse (size:=1) l c hl hc hlc (by omega) (by omega) rfl λx h' hx _ ho=>H x h' hx ?_
 rw[Zio]at ho;exact ho
theorem zna{h0 h:Hp}{x:Sl}{l:List Nat}{v:Int}{K:Sl->Hp->Prop}(n:Nat)(ho:qi h0 h x l)(hv:v=n)(hb:l.length<35184372088832)
 (H:∀y h',qi h0 h' y (l++[n])->K y h'):Y5 1 4 [.int .u32 0] x 1 [.int .u32 v] K h:=by
 subst hv
 have hl:=ho.len
 refine z43 ho (n:=1) rfl rfl rfl (by omega) (by omega) λy h' hy hyl=>H y h' ?_
 unfold qi
 rw[zy0];exact hy
theorem z84{n:Nat}(h:n<18446744073709551616):u64.wrap (n:Int)=(n:Int):=Zkn (by omega)
theorem zix(n:Nat):u32.wrap (n:Int)=((n % W:Nat):Int):=by
 simp[IntKind.wrap,IntKind.signed,IntKind.bits,W]
theorem Zj9{n:Nat}(h:n<9223372036854775808):i64.wrap (n:Int)=(n:Int):=w64 (by omega)
theorem zkm(n:Nat):((n:Int)).fdiv (2 ^ (min (32:Int).toNat u64.bits))=((n/W:Nat):Int):=by
 have:(2:Int) ^ (min (32:Int).toNat u64.bits)=((4294967296:Nat):Int):=by decide
 rw[this]
 show((n:Int)).fdiv ((4294967296:Nat):Int)=((n/4294967296:Nat):Int)
 exact Int.ofNat_fdiv n 4294967296 |>.symm
theorem mac{c x y z:Nat}(hc:c<W)(hx:x<W)(hy:y<W)(hz:z<W) :
 u64.wrap ((c:Int)+u64.wrap (u64.wrap (u64.wrap (x:Int)*u64.wrap (y:Int))+u64.wrap (z:Int)))=((c+(x*y+z):Nat):Int):=by
 unfold W at *
 have hxy:x*y<=4294967295*4294967295:=Nat.mul_le_mul (by omega) (by omega)
 rw[z84 (n:=x) (by omega),z84 (n:=y) (by omega),z84 (n:=z) (by omega)]
 rw[show((x:Int)*(y:Int))=((x*y:Nat):Int)by simp,z84 (n:=x*y) (by omega)]
 rw[show(((x*y:Nat):Int)+(z:Int))=((x*y+z:Nat):Int)by simp,z84 (n:=x*y+z) (by omega)]
 rw[show((c:Int)+((x*y+z:Nat):Int))=((c+(x*y+z):Nat):Int)by simp,z84 (by omega)]
theorem Zd6{c x y z:Nat}(hc:c<W)(hx:x<W)(hy:y<W)(hz:z<W):(c+(x*y+z))/W<W:=by
 rw[Nat.div_lt_iff_lt_mul V5]
 unfold W at *
 have hxy:x*y<=4294967295*4294967295:=Nat.mul_le_mul (by omega) (by omega)
 omega
end Den
end

section
namespace Den
open Go Iv
namespace Hp
def del(h:Hp)(b:Nat):Hp:=λk=>if k=b then none else h k
def one(h:Hp)(b:Nat):Hp:=λk=>if k=b then h k else none
theorem del_dj(h:Hp)(b:Nat):(h.del b).dj (h.one b):=λk=>by
 by_cases hk:k=b
 . exact .inl (by simp[del,hk])
 . exact .inr (by simp[one,hk])
theorem del_add(h:Hp)(b:Nat):h=(h.del b).add (h.one b):=by
 funext k
 unfold add del one
 by_cases hk:k=b
 . simp[hk]
 . simp[hk];cases h k<;>rfl
theorem del_le(h:Hp)(b:Nat):(h.del b).le h:=λk B hk=>by
 unfold del at hk;split at hk
 . cases hk
 . exact hk
theorem del_same(h:Hp)(b:Nat):(h.del b) b=none:=by simp[del]
theorem add_assoc'(a b c:Hp):(a.add b).add c=a.add (b.add c):=by
 funext k;unfold add;cases a k<;>rfl
end Hp
theorem zni{α:Type}{G:(α->Hp->Prop)->Hp->Prop}{K1 K:α->Hp->Prop}{D O:Hp}(hd:D.dj O)(H:zc G K1 D)(k:∀v D',D.le D'->D'.dj O->K1 v D'->K v (D'.add O)):zc G K (D.add O):=by
 obtain⟨D1,O1,Q,h1,h2,h3,h4⟩:=H
 refine⟨D1,O1.add O,Q,?_,?_,h3,λv D' hq=>⟨(h4 v D' hq).1,λhdj hfin=>?_⟩⟩
 . intro k
   rcases h1 k with h5 | h5
   . exact .inl h5
   . rcases hd k with h6 | h6
     . rw[h2]at h6;exact .inl (Hp.add_none.1 h6).1
     . exact .inr (Hp.add_none.2 ⟨h5,h6⟩)
 . rw[h2,Hp.add_assoc']
 . have h5:=h4 v D' hq
   have hdj1:D'.dj O1:=λk=>by
    rcases hdj k with h6 | h6
    . exact .inl h6
    . exact .inr (Hp.add_none.1 h6).1
   have hdj2:(D'.add O1).dj O:=λk=>by
    rcases hdj k with h6 | h6
    . rcases hd k with h7 | h7
      . rw[h2]at h7;exact .inl (Hp.add_none.2 ⟨h6,(Hp.add_none.1 h7).2⟩)
      . exact .inr h7
    . exact .inr (Hp.add_none.1 h6).2
   have hfin1:(D'.add O1).Fin:=Hp.Fin.sub hfin λk hk=>by
    rw[<-Hp.add_assoc']at hk;exact(Hp.add_none.1 hk).1
   have h6:=h5.2 hdj1 hfin1
   rw[<-Hp.add_assoc']
   refine k v _ ?_ hdj2 h6
   rw[h2]
   exact Hp.add_mono h5.1 hdj1
end Den
end

section
namespace Den
open Go Iv
section
variable {h : Hp} {x y : Sl} {l m : List Nat} {Ks : Sl → Hp → Prop} {Ki : Int → Hp → Prop} {Kb : Bool → Hp → Prop}
def InM(y x:Sl):Prop:=∀a,y.a=some a->∃a',x.a=some a'/\a.block=a'.block
theorem InM.rfl{x:Sl}:InM x x:=λa ha=>⟨a,ha,Eq.refl _⟩
theorem InM.trans{x y z:Sl}(h1:InM x y)(h2:InM y z):InM x z:=λa ha=>by
 obtain⟨a',h3,h4⟩:=h1 a ha
 obtain⟨a2,h5,h6⟩:=h2 a' h3
 exact⟨a2,h5,h4.trans h6⟩
theorem InM.cut{x:Sl}{lo hi n:Nat}:InM (x.cut lo hi n) x:=λa ha=>by
 have ha':(if x.cap=lo then x.a else x.a.map (·.add (lo*n)))=some a:=ha
 split at ha'
 . exact⟨a,ha',Eq.refl _⟩
 . cases hx:x.a with
   | none=>rw[hx]at ha';cases ha'
   | some a'=>
     rw[hx]at ha'
     simp only[Option.map_some,Option.some.injEq]at ha'
     subst ha'
     exact⟨a',Eq.refl _,Yg _ _⟩
theorem zez{Kf:Sl->Hp->Prop}(hr:RdW h x l)(hl:l.length<4611686018427387904)(H:∀y,RdW h y (Q7 l)->InM y x->Kf y h) :
 zr (S:=Sl×Unit) (λs1 k2 h1=>
  (z8 (S:=Unit) (λs3 h2=>(slP s1.1 0 (i64.wrap ((s1.1.len:Int)-1)) 1 λc5=>(k2 (c5,()) h2)))
  (λk4=>(ifP (decide ((s1.1.len:Int)>0)) (zg s1.1 (i64.wrap ((s1.1.len:Int)-1)) 1 λa6=>(ldL (.int .u32) a6 (λx7=>(ifP (x7==0) (k4 () h1) (Kf s1.1 h1))) h1)) (Kf s1.1 h1)))))
  (x,()) h:=by
 refine yx (λst h'=>h'=h/\∃(y:Sl) (k:Nat),st=(y,())/\k<=l.length/\RdW h y (l.take k)/\Q7 (l.take k)=Q7 l/\InM y x) (λst=>st.1.len)
  ⟨rfl,x,l.length,rfl,Nat.le_refl _,by rw[List.take_of_length_le (Nat.le_refl _)];exact hr,by rw[List.take_of_length_le (Nat.le_refl _)],InM.rfl⟩ ?_
 rintro st h' ⟨rfl,y,k,rfl,hk,hy,ht,hsub⟩
 have hyl:=hy.len
 rw[List.length_take,Nat.min_eq_left hk]at hyl
 refine zk (λ_ h1=>h1=h'/\∃j,k=j+1/\∃hj:j<l.length,l[j]=0) ?_ ?_
 . rintro _ h1 ⟨rfl,j,rfl,hj,h0⟩
   refine Z9e 0 j hy rfl (by simp only;rw[hyl,w64 (by omega)];omega) (Nat.zero_le _) (by rw[List.length_take];omega) λhc=>?_
   have e:((l.take (j+1)).drop 0).take (j-0)=l.take j:=by
    rw[List.drop_zero,Nat.sub_zero,List.take_take];congr 1;omega
   rw[e]at hc
   refine⟨⟨rfl,_,j,rfl,by omega,hc,?_,InM.cut.trans hsub⟩,?_⟩
   . rw[<-ht,List.take_succ_eq_append_getElem hj,h0,z6o]
   . show j-0<y.len;omega
 . refine ze (λh1=>?_) (λh1=>?_)
   . simp only at h1
     obtain⟨j,rfl⟩:∃j,k=j+1:=⟨k-1,by omega⟩
     have hj:j<l.length:=by omega
     refine Yy j hy (by simp only;rw[hyl,w64 (by omega)];omega) (by rw[List.length_take];omega) λa ha=>⟨_,ha,?_⟩
     have e:(l.take (j+1))[j]'(by rw[List.length_take];omega)=l[j]:=by simp
     rw[e]
     refine zz (λh2=>⟨rfl,j,rfl,hj,by omega⟩) (λh2=>?_)
     have h3:l[j]≠0:=by omega
     have:Q7 (l.take (j+1))=l.take (j+1):=by
      rw[List.take_succ_eq_append_getElem hj,z7k _ h3]
     rw[<-ht,this]at H
     exact H y hy hsub
   . simp only at h1
     have:k=0:=by omega
     subst this
     rw[<-ht]at H
     exact H y hy hsub
theorem Z9k(hr:RdW h x l)(hl:l.length<4611686018427387904)(H:∀y,RdW h y (Q7 l)->Ks y h):F.zv x Ks h:=zez hr hl λy hy _=>H y hy
theorem Z53(hr:RdW h x l)(hl:l.length<4611686018427387904)(H:∀y,RdW h y (Q7 l)->Ks y h):F.z6d x Ks h:=zez hr hl λy hy _=>H y hy
theorem ztx(hr:RdW h x l)(hl:l.length<4611686018427387904)(H:∀y,RdW h y (Q7 l)->InM y x->Ks y h):zc (F.zv x) Ks h:=
 zd (λy h'=>h'=h/\RdW h y (Q7 l)/\InM y x) (λK' hk=>zez hr hl λy hy hs=>hk y h (Hp.le_refl _) ⟨rfl,hy,hs⟩) λy h' _ ⟨e,hy,hs⟩=>by subst e;exact H y hy hs
theorem z15(hr:RdW h x l)(hl:l.length<4611686018427387904)(H:∀y,RdW h y (Q7 l)->Ks y h):zc (F.zv x) Ks h:=
 zd (λy h'=>h'=h/\RdW h y (Q7 l)) (λK' hk=>Z9k hr hl λy hy=>hk y h (Hp.le_refl _) ⟨rfl,hy⟩) λy h' _ ⟨e,hy⟩=>by subst e;exact H y hy
theorem zik(hr:RdW h x l)(hl:l.length<4611686018427387904)(H:∀y,RdW h y (Q7 l)->Ks y h):zc (F.z6d x) Ks h:=
 zd (λy h'=>h'=h/\RdW h y (Q7 l)) (λK' hk=>Z53 hr hl λy hy=>hk y h (Hp.le_refl _) ⟨rfl,hy⟩) λy h' _ ⟨e,hy⟩=>by subst e;exact H y hy
theorem ztv{Kf:Sl->Hp->Prop}{h0:Hp}{a b:Sl}{la lb:List Nat}(ha:RdW h0 a la)(hb:RdW h0 b lb)(oa:okW la)(ob:okW lb)(hl:la.length+lb.length<=35184372088800)
 (ho:qi h0 h x (List.replicate (la.length+lb.length) 0)) (H:∀h' l,qi h0 h' x l->okW l->l.length=la.length+lb.length->vl l=vl la*vl lb->Kf x h') :
 zr (S:=Int×Unit) (λs4 k5 h3=>
  (ifP (decide (s4.1<(a.len:Int)))
  (zg a s4.1 1 λa6=>
  (ldL (.int .u32) a6 (λx7=>
  (zr (S:=Int×Int×Unit) (λs8 k9 h4=>
  (ifP (decide (s8.2.1<(b.len:Int)))
  (zg b s8.2.1 1 λa10=>
  (ldL (.int .u32) a10 (λx11=>
  (zg x (i64.wrap (s4.1+s8.2.1)) 1 λa12=>
  (ldL (.int .u32) a12 (λx13=>
  (zg x (i64.wrap (s4.1+s8.2.1)) 1 λa14=>
  (stP a14 [.int .u32 (u32.wrap ((u64.wrap (s8.1+(u64.wrap ((u64.wrap ((u64.wrap (x7))*(u64.wrap (x11))))+(u64.wrap (x13))))))))] (λh5=>
  (0<=(32:Int) /\
  (k9 (((u64.wrap (s8.1+(u64.wrap ((u64.wrap ((u64.wrap (x7))*(u64.wrap (x11))))+(u64.wrap (x13)))))):Int).fdiv (2 ^ (min (32:Int).toNat u64.bits)),(i64.wrap (s8.2.1+1)),()) h5))) h4))) h4))) h4))
  (zg x (i64.wrap (s4.1+(b.len:Int))) 1 λa15=>
  (stP a15 [.int .u32 (u32.wrap (s8.1))] (λh6=>
  (k5 ((i64.wrap (s4.1+1)),()) h6)) h4))))
  (0,0,()) h3)) h3))
  (Kf x h3)))
  (0,()) h:=by
 have hal:=ha.len
 have hbl:=hb.len
 refine yx (λst h'=>∃(i:Nat) (l:List Nat),st=((i:Int),())/\i<=la.length/\qi h0 h' x l/\okW l/\l.length=la.length+lb.length/\vl l=vl (la.take i)*vl lb/\∀j (hj:j<l.length),i+lb.length<=j->l[j]=0)
  (λst=>((la.length:Int)-st.1).toNat) ⟨0,_,rfl,Nat.zero_le _,ho,zem _,by simp,by rw[Zim];simp[vl],λj hj _=>by simp⟩ ?_
 rintro st h1 ⟨i,l,rfl,hi,ho1,okl,hll,hv,hz⟩
 refine ze (λh2=>?_) (λh2=>?_)
 . simp only at h2
   have hi':i<la.length:=by omega
   have hxi:=Wn oa hi'
   refine Yy i (ha.le ho1.1) rfl hi' λaa haa=>⟨_,haa,?_⟩
   refine yx (λst h'=>∃(k c:Nat) (l':List Nat),st=((c:Int),(k:Int),())/\k<=lb.length/\c<W/\qi h0 h' x l'/\okW l'/\l'.length=la.length+lb.length /\
    vl l'+W ^ (i+k)*c=vl l+W ^ i*(la[i]*vl (lb.take k))/\∀j (hj:j<l'.length),i+lb.length<=j->l'[j]=0)
    (λst=>((lb.length:Int)-st.2.1).toNat) ⟨0,0,l,rfl,Nat.zero_le _,by decide,ho1,okl,hll,by simp[vl],hz⟩ ?_
   rintro st h3 ⟨k,c,l',rfl,hk,hc,ho3,okl',hll',hv',hz'⟩
   refine ze (λh4=>?_) (λh4=>?_)
   . simp only at h4
     have hk':k<lb.length:=by omega
     have hyk:=Wn ob hk'
     have hik:i+k<l'.length:=by omega
     have hzk:=Wn okl' hik
     have wik:i64.wrap ((i:Int)+(k:Int))=((i+k:Nat):Int):=by rw[w64 (by omega)];omega
     refine Yy k (hb.le ho3.1) rfl hk' λa1 ha1=>⟨_,ha1,?_⟩
     simp only
     rw[wik]
     refine Yy (i+k) ho3.rdW rfl hik λa2 ha2=>⟨_,ha2,?_⟩
     simp only
     rw[mac hc hxi hyk hzk]
     refine z5m (i+k) _ ho3 rfl hik (zix _) λh5 b5 _ _ _ ho5=>⟨by decide,?_⟩
     rw[zkm]
     refine⟨⟨k+1,_,_,by rw[w64 (by omega)];rfl,by omega,Zd6 hc hxi hyk hzk,ho5,z3p okl' (Nat.mod_lt _ V5),by simp[hll'],?_,?_⟩,by rw[w64 (by omega)];omega⟩
     . have e1:=zcg (l:=l') (k:=i+k) (v:=(c+(la[i]*lb[k]+l'[i+k])) % W) hik
       have e2:=Nat.mod_add_div (c+(la[i]*lb[k]+l'[i+k])) W
       have e3:=qg hk'
       rw[e3]
       generalize vl (l'.set (i+k) ((c+(la[i]*lb[k]+l'[i+k])) % W))=V at e1 |-
       generalize hr:(c+(la[i]*lb[k]+l'[i+k])) % W=r at *
       generalize hq:(c+(la[i]*lb[k]+l'[i+k]))/W=q at *
       generalize vl l'=V' at *
       generalize vl l=V0 at *
       generalize l'[i+k]=z at *
       generalize la[i]=xx at *
       generalize lb[k]=yy at *
       generalize vl (lb.take k)=T at *
       have p1:W ^ (i+(k+1))=W ^ (i+k)*W:=by rw[<-Nat.add_assoc,Nat.pow_succ]
       have p2:W ^ (i+k)=W ^ i*W ^ k:=Nat.pow_add ..
       rw[p1]
       generalize W ^ (i+k)=P at *
       subst p2
       generalize W ^ i=Pi at *
       generalize W ^ k=Pk at *
       grind
     . intro j hj hjl
       rw[List.length_set]at hj
       rw[List.getElem_set_ne (by omega)]
       exact hz' j hj hjl
   . simp only at h4
     have hk':k=lb.length:=by omega
     subst hk'
     have hil:i+lb.length<l'.length:=by omega
     have w1:i64.wrap ((i:Int)+(b.len:Int))=((i+lb.length:Nat):Int):=by rw[hbl,w64 (by omega)];omega
     simp only
     rw[w1]
     refine z5m (i+lb.length) c ho3 rfl hil (by rw[zix,Nat.mod_eq_of_lt hc]) λh5 b5 _ _ _ ho5=>?_
     refine⟨⟨i+1,_,by rw[w64 (by omega)];rfl,by omega,ho5,z3p okl' hc,by simp[hll'],?_,?_⟩,by rw[w64 (by omega)];omega⟩
     . have e1:=zcg (l:=l') (k:=i+lb.length) (v:=c) hil
       rw[hz' _ hil (Nat.le_refl _)]at e1
       rw[List.take_of_length_le (Nat.le_refl _)]at hv'
       rw[qg hi',Nat.add_mul]
       rw[Nat.mul_assoc]
       omega
     . intro j hj hjl
       rw[List.length_set]at hj
       rw[List.getElem_set_ne (by omega)]
       exact hz' j hj (by omega)
 . simp only at h2
   have:i=la.length:=by omega
   subst this
   rw[List.take_of_length_le (Nat.le_refl _)]at hv
   exact H h1 l ho1 okl hll hv
end
end Den
end

section
namespace Den
open Go Iv
theorem ze1{α:Type}{G:(α->Hp->Prop)->Hp->Prop}{K:α->Hp->Prop}{h:Hp}(R:α->Prop)(H:∀K':α->Hp->Prop,(∀v,R v->K' v h)->G K' h)(k:∀v,R v->K v h):zc G K h:=
 zd (λv h'=>h'=h/\R v) (λK' hk=>H K' λv hv=>hk v h (Hp.le_refl _) ⟨rfl,hv⟩) λv h' _ ⟨e,hv⟩=>by subst e;exact k v hv
def zl6(m n:Nat):Int:=if m<n then -1 else if n<m then 1 else 0
def sg(neg:Bool)(n:Nat):Int:=if neg=true then -(n:Int)else n
def NI(h:Hp)(x:TInt)(n:Int):Prop:=RdW h x.mag (dg n.natAbs)/\x.neg=decide (n<0)
theorem NI.le{h h':Hp}{x:TInt}{n:Int}(hx:NI h x n)(hl:h.le h'):NI h' x n:=⟨hx.1.le hl,hx.2⟩
theorem NI.zero{h:Hp}:NI h ⟨false,zf⟩ 0:=⟨by rw[show(0:Int).natAbs=0 from rfl,Q0];exact RdW.nil,by simp⟩
theorem zu3:∀{a b:List Nat} (i:Nat),okW a->okW b->a.length=b.length->(hi:i<a.length)->(hi':i<b.length)->a.drop (i+1)=b.drop (i+1)->a[i]<b[i]->vl a<vl b
 | [],_,i,_,_,_,hi,_,_,_=>by simp at hi
 | x :: r,[],i,_,_,hl,_,_,_,_=>by simp at hl
 | x :: r,y :: t,0,ha,hb,hl,hi,hi',hd,hlt=>by
   simp only[Nat.zero_add,List.drop_succ_cons,List.drop_zero]at hd
   subst hd
   simp only[List.getElem_cons_zero]at hlt
   simp only[vl];omega
 | x :: r,y :: t,i+1,ha,hb,hl,hi,hi',hd,hlt=>by
   obtain⟨hx,hr⟩:=zg9 ha
   obtain⟨hy,ht⟩:=zg9 hb
   have:=zu3 (a:=r) (b:=t) i hr ht (by simpa using hl) (by simpa using hi) (by simpa using hi') (by simpa using hd) (by simpa using hlt)
   simp only[vl]
   have h2:W*(vl r+1)<=W*vl t:=Nat.mul_le_mul_left _ this
   rw[Nat.mul_add]at h2;omega
theorem zjy{m n:Nat}(h:(dg m).length<(dg n).length):m<n:=by
 rcases Nat.lt_or_ge m n with h1 | h1
 . exact h1
 . exfalso
   have h2:=Xp.1 (Nat.le_refl (dg m).length)
   have h3:(dg n).length<=(dg m).length:=Xp.2 (Nat.lt_of_le_of_lt h1 h2)
   omega
section
variable {h : Hp} {x y : Sl} {l m : List Nat} {Ks : Sl → Hp → Prop} {Ki : Int → Hp → Prop} {Kb : Bool → Hp → Prop} {KI : TInt → Hp → Prop}
theorem zmk(neg:Bool)(n:Nat):(sg neg n).natAbs=n:=by unfold sg;split<;>simp
theorem zxl{neg:Bool}(hr:RdW h x l)(ok:okW l)(hl:l.length<4611686018427387904)(H:∀y,NI h y (sg neg (vl l))->KI y h):F.yp neg x KI h:=by
 unfold F.yp
 refine z15 hr hl λy hy=>?_
 rw[V4 ok]at hy
 have hyl:=hy.len
 refine zz (λh1=>?_) (λh1=>?_)
 . have h0:vl l=0:=z2r.1 (List.length_eq_zero_iff.1 (by omega))
   refine H _ ?_
   rw[h0]
   have:sg neg 0=0:=by unfold sg;split<;>rfl
   rw[this];exact NI.zero
 . refine H _ ⟨by rw[zmk];exact hy,?_⟩
   have hpos:vl l≠0:=λh0=>by rw[h0,Q0]at hyl;exact h1 (by rw[hyl];rfl)
   unfold sg
   cases neg
   . simp
   . simp;omega
theorem zsw{neg:Bool}(hr:RdW h x l)(ok:okW l)(hl:l.length<4611686018427387904)(H:∀y,NI h y (sg neg (vl l))->KI y h):F.Vy neg x KI h:=by
 unfold F.Vy
 refine zik hr hl λy hy=>?_
 rw[V4 ok]at hy
 have hyl:=hy.len
 have hz:(vl l=0)↔(dg (vl l)).length=0:=by rw[List.length_eq_zero_iff,z2r]
 refine zp (λh1=>?_) (λh1=>?_)
 . refine H _ ⟨by rw[zmk];exact hy,?_⟩
   rw[h1]
   unfold sg
   simp only[if_true]
   congr 1
   apply propext
   omega
 . refine H _ ⟨by rw[zmk];exact hy,?_⟩
   rw[h1]
   unfold sg
   simp
theorem z74{neg:Bool}(hr:RdW h x l)(ok:okW l)(hl:l.length<4611686018427387904)(H:∀y,NI h y (sg neg (vl l))->KI y h):zc (F.yp neg x) KI h:=
 ze1 _ (λK'=>zxl hr ok hl) H
theorem zmi{neg:Bool}(hr:RdW h x l)(ok:okW l)(hl:l.length<4611686018427387904)(H:∀y,NI h y (sg neg (vl l))->KI y h):zc (F.Vy neg x) KI h:=
 ze1 _ (λK'=>zsw hr ok hl) H
theorem zbv(hr:RdW h x l)(hl:l.length<=35184372088800)(H:∀y h',h.le h'->RdW h' y l->Ks y h'):zc (F.Zh x) Ks h:=by
 refine zd (λy h'=>RdW h' y l) (λK' hk=>?_) H
 unfold F.Zh
 have hlen:=hr.len
 refine zp (λh1=>?_) (λh1=>?_)
 . have hn:x.a=none:=by cases hx:x.a with | none=>rfl | some a=>rw[hx]at h1;cases h1
   have:l=[]:=by
    have h2:=hr.1.2
    rw[hn]at h2
    simp only[Z0]at h2
    split at h2
    . rename_i h3;rw[z7l]at h3;exact List.length_eq_zero_iff.1 h3
    . cases h2
   subst this
   exact hk _ _ (Hp.le_refl _) RdW.nil
 . refine z72 (n:=0) (size:=1) rfl λb h1 hb ho=>?_
   have hr1:=hr.le ho.1
   refine⟨wc l,?_,?_⟩
   . have:=hr1.1.2
     rw[z7l]at this
     rw[hlen,Nat.mul_one];exact this
   . refine z43 ho (n:=x.len) (by rw[z7l];omega) rfl ?_ (by simp only;omega) (by simp only;omega) λy h2 hy _=>hk _ _ hy.1 ⟨hy.rd,hy.2.2.1⟩
     simp[wc,Value.leaf]
theorem zo6{n:Nat}(hn:n<18446744073709551616)(H:∀y h',h.le h'->RdW h' y (dg n)->Ks y h'):F.Yw n Ks h:=by
 unfold F.Yw
 refine⟨by decide,?_⟩
 rw[zix,zkm,zix]
 have hq:n/W<W:=by unfold W;omega
 rw[Nat.mod_eq_of_lt hq]
 refine z72 (n:=2) (size:=1) rfl λb h1 hb ho=>?_
 have ho':qi h h1 ⟨some ⟨b,0,none⟩,2,2⟩ [n % W,n/W]:=ho
 have ok:okW [n % W,n/W]:=λd hd=>by
  simp only[List.mem_cons,List.not_mem_nil,or_false]at hd
  rcases hd with rfl | rfl
  . exact Nat.mod_lt _ V5
  . exact hq
 refine z15 ho'.rdW (by simp) λy hy=>?_
 rw[V4 ok]at hy
 have:vl [n % W,n/W]=n:=by simp only[vl,Nat.mul_zero,Nat.add_zero];exact Nat.mod_add_div n W
 rw[this]at hy
 exact H _ _ ho.1 hy
theorem z1i{n:Nat}{i:Int}(hi:i=n)(hn:n<18446744073709551616)(H:∀y h',h.le h'->RdW h' y (dg n)->Ks y h'):zc (F.Yw i) Ks h:=by
 subst hi
 exact zd _ (λK'=>zo6 hn) H
theorem Z7n{n:Nat}(hn:n<18446744073709551616)(H:∀y h',h.le h'->RdW h' y (dg n)->Ks y h'):F.z2j n Ks h:=by
 unfold F.z2j
 refine⟨by decide,?_⟩
 rw[zix,zkm,zix]
 have hq:n/W<W:=by unfold W;omega
 rw[Nat.mod_eq_of_lt hq]
 refine z72 (n:=2) (size:=1) rfl λb h1 hb ho=>?_
 have ho':qi h h1 ⟨some ⟨b,0,none⟩,2,2⟩ [n % W,n/W]:=ho
 have ok:okW [n % W,n/W]:=λd hd=>by
  simp only[List.mem_cons,List.not_mem_nil,or_false]at hd
  rcases hd with rfl | rfl
  . exact Nat.mod_lt _ V5
  . exact hq
 refine zik ho'.rdW (by simp) λy hy=>?_
 rw[V4 ok]at hy
 have:vl [n % W,n/W]=n:=by simp only[vl,Nat.mul_zero,Nat.add_zero];exact Nat.mod_add_div n W
 rw[this]at hy
 exact H _ _ ho.1 hy
theorem ziz{n:Nat}{i:Int}(hi:i=n)(hn:n<18446744073709551616)(H:∀y h',h.le h'->RdW h' y (dg n)->Ks y h'):zc (F.z2j i) Ks h:=by
 subst hi
 exact zd _ (λK'=>Z7n hn) H
theorem zx4{a b:Nat}(ha:a<W)(hb:b<W):Q6 .or .u64 (u64.wrap ((a:Int)*2 ^ (min (32:Int).toNat u64.bits))) (u64.wrap (b:Int))=((a*W+b:Nat):Int):=by
 have e1:((a:Int)*2 ^ (min (32:Int).toNat u64.bits))=((a*W:Nat):Int):=by
  have:(2:Int) ^ (min (32:Int).toNat u64.bits)=((W:Nat):Int):=by decide
  rw[this];simp
 unfold W at *
 rw[e1,z84 (n:=a*4294967296) (by omega),z84 (n:=b) (by omega)]
 unfold Q6
 simp only[IntKind.bits]
 have h1:(BitVec.ofInt 64 ((a*4294967296:Nat):Int) ||| BitVec.ofInt 64 (b:Int)).toNat=a*4294967296+b:=by
  rw[BitVec.ofInt_natCast,BitVec.ofInt_natCast,BitVec.toNat_or,BitVec.toNat_ofNat,BitVec.toNat_ofNat,Nat.mod_eq_of_lt (by omega),Nat.mod_eq_of_lt (by omega)]
  have:=Nat.two_pow_add_eq_or_of_lt (i:=32) (b:=b) (by omega) a
  rw[Nat.mul_comm (2 ^ 32) a]at this
  exact this.symm
 exact(congrArg (λz:Nat=>u64.wrap (z:Int)) h1).trans (z84 (by omega))
theorem zxx(hr:RdW h x l)(ok:okW l)(hl:l.length<=2)(H:∀h',h.le h'->Ki (vl l:Int) h'):F.Xi x Ki h:=by
 unfold F.Xi
 refine zd (λ(a:Addr) h'=>h'.cell a=some (.slice x.a x.len x.cap)) (λK' hk=>?_) λa h1 l1 ha=>?_
 . unfold F.yt
   intro b e hb
   refine hk _ _ (Hp.le_ins hb) ?_
   unfold Hp.cell
   simp[Hp.ins_same]
 . have hlen:=hr.len
   refine⟨x,λk s h'=>h1.le h'/\k<=l.length/\s=((((vl (l.drop k):Nat):Int),()),()),by omega,⟨Hp.le_refl _,by omega,?_⟩,λi s h' hI=>?_,λi s h' hi hI=>?_,λs h' hI=>?_⟩
   . rw[hlen,List.drop_eq_nil_of_le (Nat.le_refl _)];rfl
   . exact Hp.cell_le hI.1 ha
   . obtain⟨hl',hk,rfl⟩:=hI
     have hi':i<l.length:=by omega
     have hr':=(hr.le l1).le hl'
     have h2:=hr'.1.2
     cases hxa:x.a with
     | none=>
       rw[hxa]at h2
       simp only[Z0]at h2
       split at h2
       . rename_i h3;rw[z7l]at h3;omega
       . cases h2
     | some ad=>
       rw[hxa]at h2
       simp only[Z0]at h2
       have hxi:=Wn ok hi'
       refine⟨ad,(l[i]:Int),rfl,λj u hj=>?_,by decide,hl',by omega,?_⟩
       . have hj0:j=0:=by
          rcases Nat.eq_zero_or_pos j with h3 | h3
          . exact h3
          . exfalso
            have:((STy.leaf (.int .u32)).cells (l[i]:Int))[j]?=none:=by
             apply List.getElem?_eq_none
             simp only[STy.cells,List.length_singleton];omega
            rw[this]at hj;cases hj
         subst hj0
         simp only[STy.cells,List.getElem?_cons_zero,Option.some.injEq]at hj
         subst hj
         refine z2c h2 _ _ ?_
         simp[wc,STy.size,hi',Lf.up]
       . have hd:l.drop i=l[i] :: l.drop (i+1):=List.drop_eq_getElem_cons hi'
         rw[hd]
         simp only[vl]
         have hsm:vl (l.drop (i+1))<W:=by
          have:=zdo (zm9 ok (i+1))
          rw[List.length_drop]at this
          refine Nat.lt_of_lt_of_le this ?_
          have h3:l.length-(i+1)<=1:=by omega
          exact Nat.le_trans (Nat.pow_le_pow_right V5 h3) (by simp)
         rw[zx4 hsm hxi]
         congr 2
         congr 1
         rw[Nat.mul_comm];omega
   . obtain⟨hl',hk,rfl⟩:=hI
     exact H _ (Hp.le_trans l1 hl')
theorem z79(hr:RdW h x l)(ok:okW l)(hl:l.length<=2)(H:∀h',h.le h'->Ki (vl l:Int) h'):zc (F.Xi x) Ki h:=
 zd (λv _=>v=(vl l:Int)) (λK' hk=>zxx hr ok hl λh' hl'=>hk _ _ hl' rfl) λv h' hl' hv=>by subst hv;exact H h' hl'
theorem Vj{a b:Int}(H:Ki (if a<b then -1 else if b<a then 1 else 0) h):zc (F.Qv a b) Ki h:=by
 refine Zf _ (λK' hk=>?_) H
 unfold F.Qv
 have e:∀z:Int,(z != z)=false:=λz=>by simp
 refine Zf false (λK' hk=>by unfold F.z1f;rw[e];exact hk) (Zf false (λK' hk=>by unfold F.z1f;rw[e];exact hk) ?_)
 refine zt rfl (zt rfl (ze (λh1=>?_) (λh1=>ze (λh2=>?_) (λh2=>?_))))
 . rw[if_pos h1]at hk;exact hk
 . rw[if_neg h1,if_pos h2]at hk;exact hk
 . rw[if_neg h1,if_neg h2]at hk;exact hk
theorem znl{a b:Int}(H:Ki (if a<b then -1 else if b<a then 1 else 0) h):zc (F.Vn a b) Ki h:=by
 refine Zf _ (λK' hk=>?_) H
 unfold F.Vn
 have e:∀z:Int,(z != z)=false:=λz=>by simp
 refine Zf false (λK' hk=>by unfold F.Vd;rw[e];exact hk) (Zf false (λK' hk=>by unfold F.Vd;rw[e];exact hk) ?_)
 refine zt rfl (zt rfl (ze (λh1=>?_) (λh1=>ze (λh2=>?_) (λh2=>?_))))
 . rw[if_pos h1]at hk;exact hk
 . rw[if_neg h1,if_pos h2]at hk;exact hk
 . rw[if_neg h1,if_neg h2]at hk;exact hk
theorem zqo{m n:Nat}(hx:RdW h x (dg m))(hy:RdW h y (dg n))(hl:(dg m).length<4611686018427387904)(hl2:(dg n).length<4611686018427387904)(H:Ki (zl6 m n) h):F.Xq x y Ki h:=by
 unfold F.Xq
 have lx:=hx.len
 have ly:=hy.len
 refine yk (λh1=>?_) (λh1=>?_)
 . refine Vj ?_
   unfold zl6 at H
   by_cases h2:(dg m).length<(dg n).length
   . rw[if_pos (zjy h2)]at H
     rw[if_pos (by omega)];exact H
   . have h3:(dg n).length<(dg m).length:=by omega
     have h4:=zjy h3
     rw[if_neg (by omega),if_pos h4]at H
     rw[if_neg (by omega),if_pos (by omega)];exact H
 . have hll:(dg m).length=(dg n).length:=by omega
   refine yx (λst h'=>h'=h/\∃k:Nat,st=((k:Int)-1,())/\k<=(dg m).length/\(dg m).drop k=(dg n).drop k) (λst=>(st.1+1).toNat)
    ⟨rfl,(dg m).length,by rw[lx,w64 (by omega)],Nat.le_refl _,by rw[List.drop_eq_nil_of_le (Nat.le_refl _),List.drop_eq_nil_of_le (by omega)]⟩ ?_
   rintro st h' ⟨rfl,k,rfl,hk,hd⟩
   refine ze (λh2=>?_) (λh2=>?_)
   . simp only at h2
     obtain⟨i,rfl⟩:∃i,k=i+1:=⟨k-1,by omega⟩
     have hi:i<(dg m).length:=by omega
     have hi':i<(dg n).length:=by omega
     refine Yy i hx (by simp only;omega) hi λa ha=>⟨_,ha,?_⟩
     refine Yy i hy (by simp only;omega) hi' λa ha=>⟨_,ha,?_⟩
     refine yk (λh3=>?_) (λh3=>?_)
     . refine Yy i hx (by simp only;omega) hi λa ha=>⟨_,ha,?_⟩
       refine Yy i hy (by simp only;omega) hi' λa ha=>⟨_,ha,?_⟩
       refine znl ?_
       unfold zl6 at H
       by_cases h4:(dg m)[i]<(dg n)[i]
       . have:=zu3 i (qu m) (qu n) hll hi hi' hd h4
         rw[Yz,Yz]at this
         rw[if_pos this]at H
         rw[if_pos (by omega)];exact H
       . have h5:(dg n)[i]<(dg m)[i]:=by omega
         have:=zu3 i (qu n) (qu m) hll.symm hi' hi hd.symm h5
         rw[Yz,Yz]at this
         rw[if_neg (by omega),if_pos this]at H
         rw[if_neg (by omega),if_pos (by omega)];exact H
     . refine⟨⟨rfl,i,by simp only;rw[w64 (by omega)];congr 1;omega,by omega,?_⟩,by simp only;rw[w64 (by omega)];omega⟩
       rw[List.drop_eq_getElem_cons hi,List.drop_eq_getElem_cons hi',hd]
       congr 1;omega
   . simp only at h2
     obtain rfl:k=0:=by omega
     simp only[List.drop_zero]at hd
     have:m=n:=by rw[<-Yz m,<-Yz n,hd]
     subst this
     unfold zl6 at H
     rw[if_neg (Nat.lt_irrefl _),if_neg (Nat.lt_irrefl _)]at H
     exact H
theorem z8d{m n:Nat}(hx:RdW h x (dg m))(hy:RdW h y (dg n))(hl:(dg m).length<4611686018427387904)(hl2:(dg n).length<4611686018427387904)(H:Ki (zl6 m n) h):zc (F.Xq x y) Ki h:=
 Zf _ (λK'=>zqo hx hy hl hl2) H
end
end Den
end

section
namespace Den
open Go Iv
theorem zdr(n:Int):u64.wrap n=n % 18446744073709551616:=by simp[IntKind.wrap,IntKind.signed,IntKind.bits]
theorem zpm(n:Int):u32.wrap n=n % 4294967296:=by simp[IntKind.wrap,IntKind.signed,IntKind.bits]
theorem Z8f(n:Int):n.fdiv (2 ^ (min (63:Int).toNat u64.bits))=n/9223372036854775808:=by
 have e:(2:Int) ^ (min (63:Int).toNat u64.bits)=9223372036854775808:=by decide
 rw[e,Int.fdiv_eq_ediv_of_nonneg _ (by decide)]
theorem Zks(n:Int):n.fdiv (2 ^ (min (32:Int).toNat u64.bits))=n/4294967296:=by
 have e:(2:Int) ^ (min (32:Int).toNat u64.bits)=4294967296:=by decide
 rw[e,Int.fdiv_eq_ediv_of_nonneg _ (by decide)]
theorem Zje{x c y:Nat}(hx:x<W)(hc:c<=1)(hy:y<W):∃r b:Nat,r<W/\b<=1/\x+W*b=r+c+y /\
 u32.wrap (u64.wrap (u64.wrap (u64.wrap (x:Int)-(c:Int))-u64.wrap (y:Int)))=(r:Int) /\
 (u64.wrap (u64.wrap (u64.wrap (x:Int)-(c:Int))-u64.wrap (y:Int))).fdiv (2 ^ (min (63:Int).toNat u64.bits))=(b:Int):=by
 unfold W at *
 rw[Z8f]
 simp only[zdr,zpm]
 by_cases h:c+y<=x
 . exact⟨x-c-y,0,by omega,by omega,by omega,by omega,by omega⟩
 . exact⟨x+4294967296-c-y,1,by omega,by omega,by omega,by omega,by omega⟩
theorem sub64'{x c:Nat}(hx:x<W)(hc:c<=1):∃r b:Nat,r<W/\b<=1/\x+W*b=r+c+0 /\
 u32.wrap (u64.wrap (u64.wrap (x:Int)-(c:Int)))=(r:Int) /\
 (u64.wrap (u64.wrap (x:Int)-(c:Int))).fdiv (2 ^ (min (63:Int).toNat u64.bits))=(b:Int):=by
 unfold W at *
 rw[Z8f]
 simp only[zdr,zpm]
 by_cases h:c<=x
 . exact⟨x-c,0,by omega,by omega,by omega,by omega,by omega⟩
 . exact⟨x+4294967296-c,1,by omega,by omega,by omega,by omega,by omega⟩
theorem Hp.none_of_le{h h':Hp}{b:Nat}(hl:h.le h')(hb:h' b=none):h b=none:=by
 cases hk:h b with
 | none=>rfl
 | some B=>rw[hl _ _ hk]at hb;cases hb
theorem z8g{l:List Nat}(hl:okW l)(i:Nat):l.getD i 0<W:=by
 rw[List.getD_eq_getElem?_getD]
 rcases Nat.lt_or_ge i l.length with h | h
 . rw[List.getElem?_eq_getElem h];exact Wn hl h
 . rw[List.getElem?_eq_none h];exact V5
theorem z7q{l:List Nat}{i:Nat}(hi:i<l.length):l.getD i 0=l[i]:=by
 rw[List.getD_eq_getElem?_getD,List.getElem?_eq_getElem hi];rfl
theorem z7r{l:List Nat}{i:Nat}(hi:l.length<=i):l.getD i 0=0:=by
 rw[List.getD_eq_getElem?_getD,List.getElem?_eq_none hi];rfl
theorem zaj(l:List Nat)(i:Nat):vl (l.take (i+1))=vl (l.take i)+W ^ i*l.getD i 0:=by
 rcases Nat.lt_or_ge i l.length with h | h
 . rw[qg h,z7q h]
 . rw[z7r h,List.take_of_length_le (by omega),List.take_of_length_le h];simp
theorem z7b{r:List Nat}{k v:Nat}(hk:k<r.length):vl ((r.set k v).take (k+1))=vl (r.take k)+W ^ k*v:=by
 rw[qg (by simpa using hk),List.getElem_set_self]
 congr 2
 apply List.ext_getElem
 . simp
 . intro i h1 h2
   simp only[List.length_take]at h1 h2
   simp only[List.getElem_take]
   rw[List.getElem_set_ne (by omega)]
section
variable {h : Hp} {x y : Sl} {l m : List Nat} {Ks : Sl → Hp → Prop} {Ki : Int → Hp → Prop} {Kb : Bool → Hp → Prop} {KI : TInt → Hp → Prop}
theorem Z92(hx:RdW h x l)(hy:RdW h y m)(ol:okW l)(om:okW m)(hl:l.length<=17592186044400)(hm:m.length<=17592186044400)
 (H:∀z h' r,h.le h'->RdW h' z r->okW r->vl r=vl l+vl m->r.length<=l.length+m.length+1->Ks z h'):F.z0r x y Ks h:=by
 unfold F.z0r
 have lx:=hx.len
 have ly:=hy.len
 refine zk (λst h'=>h'=h/\∃p q,RdW h st.1 p/\RdW h st.2.1 q/\okW p/\okW q/\q.length<=p.length/\p.length+q.length=l.length+m.length/\vl p+vl q=vl l+vl m) ?_ ?_
 . rintro⟨sx,sy,_⟩ h0 ⟨rfl,p,q,hp,hq,op,oq,hqp,hlen,hv⟩
   simp only at hp hq |-
   have lp:=hp.len
   have lq:=hq.len
   refine z8l 0 (p.length+1) rfl (by rw[lp,w64 (by omega)];omega) (by omega) (by omega) λw h1 hw hw2=>?_
   refine yx (λst h'=>∃(w:Sl) (c i:Nat) (r:List Nat),st=(w,(c:Int),(i:Int),())/\i<=p.length/\c<=1/\qi h0 h' w r/\okW r/\r.length=i/\vl r+W ^ i*c=vl (p.take i)+vl (q.take i))
    (λst=>((p.length:Int)-st.2.2.1).toNat) ⟨w,0,0,[],rfl,Nat.zero_le _,by omega,hw2,Zdc,rfl,by simp[vl]⟩ ?_
   rintro st h2 ⟨w,c,i,r,rfl,hi,hc,ho,okr,hrl,hv2⟩
   refine ze (λh3=>?_) (λh3=>?_)
   . have hi':i<p.length:=by have:(i:Int)<(sx.len:Int):=h3;omega
     have hpx:=Wn op hi'
     have hqx:=z8g oq i
     refine Yy i (hp.le ho.1) rfl hi' λa ha=>⟨_,ha,?_⟩
     refine zk (λs h4=>h4=h2/\s=(((c+p[i]+q.getD i 0:Nat):Int),())) ?_ ?_
     . rintro _ h4 ⟨rfl,rfl⟩
       simp only
       refine zna _ ho (zix _) (by omega) λw5 h5 ho5=>⟨by decide,?_⟩
       rw[zkm]
       refine⟨⟨w5,_,i+1,_,by rw[w64 (by omega)];rfl,by omega,?_,ho5,zkc okr (λd hd=>?_),by simp[hrl],?_⟩,by rw[w64 (by omega)];omega⟩
       . unfold W at *;omega
       . rw[List.mem_singleton.1 hd];exact Nat.mod_lt _ V5
       . rw[z86,qg hi',zaj,hrl]
         have e2:=Nat.mod_add_div (c+p[i]+q.getD i 0) W
         simp only[vl,Nat.mul_zero,Nat.add_zero,Nat.pow_succ]
         generalize (c+p[i]+q.getD i 0) % W=rr at *
         generalize (c+p[i]+q.getD i 0)/W=qq at *
         generalize W ^ i=P at *
         generalize p[i]=pp at *
         generalize q.getD i 0=q0 at *
         generalize vl (p.take i)=A at *
         generalize vl (q.take i)=B at *
         generalize vl r=R at *
         clear H
         grind
     . refine ze (λh4=>?_) (λh4=>?_)
       . have hi2:i<q.length:=by have:(i:Int)<(sy.len:Int):=h4;omega
         refine Yy i (hq.le ho.1) rfl hi2 λa2 ha2=>⟨_,ha2,?_⟩
         refine⟨rfl,?_⟩
         rw[z7q hi2]at hqx |-
         simp only
         unfold W at *
         congr 1
         simp only[zdr];omega
       . have hi2:q.length<=i:=by have:¬(i:Int)<(sy.len:Int):=h4;omega
         refine⟨rfl,?_⟩
         rw[z7r hi2]
         simp only
         unfold W at *
         congr 1
         simp only[zdr];omega
   . have hi':i=p.length:=by have:¬(i:Int)<(sx.len:Int):=h3;omega
     rw[List.take_of_length_le (by omega),List.take_of_length_le (by omega)]at hv2
     refine ze (λh4=>?_) (λh4=>?_)
     . have hc1:c=1:=by have:(c:Int)>0:=h4;omega
       subst hc1
       refine zna 1 ho (by simp only;decide) (by omega) λw5 h5 ho5=>?_
       refine H _ _ _ ho5.1 ho5.rdW (zkc okr (λd hd=>by rw[List.mem_singleton.1 hd];decide)) ?_ (by simp;omega)
       rw[z86,hrl]
       simp only[vl,Nat.mul_zero,Nat.add_zero]
       omega
     . have hc0:c=0:=by have:¬(c:Int)>0:=h4;omega
       subst hc0
       exact H _ _ _ ho.1 ho.rdW okr (by omega) (by omega)
 . refine ze (λh1=>?_) (λh1=>?_)
   . exact⟨rfl,m,l,hy,hx,om,ol,by omega,by omega,by omega⟩
   . exact⟨rfl,l,m,hx,hy,ol,om,by omega,by omega,by omega⟩
theorem zkg(hx:RdW h x l)(hy:RdW h y m)(ol:okW l)(om:okW m)(hl:l.length<=17592186044400)(hm:m.length<=17592186044400)
 (H:∀z h' r,h.le h'->RdW h' z r->okW r->vl r=vl l+vl m->r.length<=l.length+m.length+1->Ks z h'):zc (F.z0r x y) Ks h:=
 zd (λz h'=>∃r,RdW h' z r/\okW r/\vl r=vl l+vl m/\r.length<=l.length+m.length+1)
  (λK' hk=>Z92 hx hy ol om hl hm λz h' r h1 h2 h3 h4 h5=>hk _ _ h1 ⟨r,h2,h3,h4,h5⟩) λz h' h1 ⟨r,h2,h3,h4,h5⟩=>H z h' r h1 h2 h3 h4 h5
theorem zwt{r:List Nat}{b:Nat}(hrl:r.length=l.length)(okr:okW r)(hml:m.length<=l.length)(hle:vl m<=vl l)(hb:b<=1)
 (hv:vl (r.take l.length)+vl (m.take l.length)=vl (l.take l.length)+W ^ l.length*b):vl r=vl l-vl m:=by
 rw[List.take_of_length_le (l:=r) (by omega),List.take_of_length_le hml,List.take_of_length_le (Nat.le_refl _)]at hv
 have h1:=zdo okr
 rw[hrl]at h1
 have:b=0:=by
  rcases Nat.eq_zero_or_pos b with h2 | h2
  . exact h2
  . obtain rfl:b=1:=by omega
    omega
 subst this
 omega
theorem Z4f(hx:RdW h x l)(hy:RdW h y m)(ol:okW l)(om:okW m)(hl:l.length<=35184372088800)(hml:m.length<=l.length)(hle:vl m<=vl l)
 (H:∀z h',h.le h'->RdW h' z (dg (vl l-vl m))->Ks z h'):F.Wz x y Ks h:=by
 unfold F.Wz
 have lx:=hx.len
 have ly:=hy.len
 refine z8l l.length l.length (by omega) (by omega) (by omega) (by omega) λw h1 hw hw2=>?_
 refine yx (λst h'=>∃(c i:Nat) (r:List Nat),st=((c:Int),(i:Int),())/\i<=l.length/\c<=1/\qi h h' w r/\okW r/\r.length=l.length/\vl (r.take i)+vl (m.take i)=vl (l.take i)+W ^ i*c)
  (λst=>((l.length:Int)-st.2.1).toNat) ⟨0,0,_,rfl,Nat.zero_le _,by omega,hw2,zem _,by simp,by simp[vl]⟩ ?_
 rintro st h2 ⟨c,i,r,rfl,hi,hc,ho,okr,hrl,hv2⟩
 refine ze (λh3=>?_) (λh3=>?_)
 . have hi':i<l.length:=by have:(i:Int)<(x.len:Int):=h3;omega
   have hlx:=Wn ol hi'
   have hmx:=z8g om i
   refine Yy i (hx.le ho.1) rfl hi' λa ha=>⟨_,ha,?_⟩
   refine zk (λs h4=>h4=h2/\∃rr b:Nat,rr<W/\b<=1/\l[i]+W*b=rr+c+m.getD i 0/\u32.wrap s.1=(rr:Int)/\s.1.fdiv (2 ^ (min (63:Int).toNat u64.bits))=(b:Int)) ?_ ?_
   . rintro s h4 ⟨rfl,rr,b,hrr,hb,he,h5,h6⟩
     refine z5m i rr ho rfl (by omega) h5 λh5 b5 _ _ _ ho5=>⟨by decide,?_⟩
     rw[h6]
     refine⟨⟨b,i+1,_,by rw[w64 (by simp only;omega)];rfl,by omega,hb,ho5,z3p okr hrr,by simp[hrl],?_⟩,by simp only;rw[w64 (by omega)];omega⟩
     rw[z7b (by omega),qg hi',zaj,Nat.pow_succ]
     generalize W ^ i=P at *
     generalize l[i]=pp at *
     generalize m.getD i 0=q0 at *
     generalize vl (l.take i)=A at *
     generalize vl (m.take i)=B at *
     generalize vl (r.take i)=R at *
     have e:=congrArg (P*·) he
     simp only[Nat.mul_add]at e
     rw[Nat.mul_assoc]
     omega
   . refine ze (λh4=>?_) (λh4=>?_)
     . have hi2:i<m.length:=by have:(i:Int)<(y.len:Int):=h4;omega
       refine Yy i (hy.le ho.1) rfl hi2 λa2 ha2=>⟨_,ha2,?_⟩
       rw[z7q hi2]at hmx |-
       exact⟨rfl,Zje hlx hc hmx⟩
     . have hi2:m.length<=i:=by have:¬(i:Int)<(y.len:Int):=h4;omega
       rw[z7r hi2]
       exact⟨rfl,sub64' hlx hc⟩
 . have hi':i=l.length:=by have:¬(i:Int)<(x.len:Int):=h3;omega
   subst hi'
   refine z15 ho.rdW (by omega) λz hz=>?_
   rw[V4 okr,zwt hrl okr hml hle hc hv2]at hz
   exact H _ _ ho.1 hz
theorem zc2(hx:RdW h x l)(hy:RdW h y m)(ol:okW l)(om:okW m)(hl:l.length<=35184372088800)(hml:m.length<=l.length)(hle:vl m<=vl l)
 (H:∀z h',h.le h'->RdW h' z (dg (vl l-vl m))->Ks z h'):zc (F.Wz x y) Ks h:=
 zd _ (λK'=>Z4f hx hy ol om hl hml hle) H
theorem Z6n(hx:RdW h x l)(hy:RdW h y m)(ol:okW l)(om:okW m)(hl:l.length+m.length<=35184372088800)
 (H:∀z h',h.le h'->RdW h' z (dg (vl l*vl m))->Ks z h'):F.z1k x y Ks h:=by
 unfold F.z1k
 have lx:=hx.len
 have ly:=hy.len
 refine zk (λ_ h'=>h'=h) ?_ ?_
 . rintro _ h' rfl
   refine z8l (l.length+m.length) (l.length+m.length) (by rw[w64 (by omega)];omega) (by rw[w64 (by omega)];omega) (by omega) (by omega) λw h1 hw hw2=>?_
   refine ztv (Kf:=λw h3=>zc (F.zv w) (λr h7=>Ks r h7) h3) (hx) (hy) ol om hl hw2 λh3 r ho okr hrl hv=>?_
   refine z15 ho.rdW (by omega) λz hz=>?_
   rw[V4 okr,hv]at hz
   exact H _ _ ho.1 hz
 . refine zz (λh1=>?_) (λh1=>zz (λh2=>?_) (λh2=>rfl))
   . have:l=[]:=List.length_eq_zero_iff.1 (by omega)
     subst this
     refine H _ _ (Hp.le_refl _) ?_
     simp only[vl,Nat.zero_mul,Q0]
     exact RdW.nil
   . have:m=[]:=List.length_eq_zero_iff.1 (by omega)
     subst this
     refine H _ _ (Hp.le_refl _) ?_
     simp only[vl,Nat.mul_zero,Q0]
     exact RdW.nil
theorem ztu(hx:RdW h x l)(hy:RdW h y m)(ol:okW l)(om:okW m)(hl:l.length+m.length<=35184372088800)
 (H:∀z h',h.le h'->RdW h' z (dg (vl l*vl m))->Ks z h'):zc (F.z1k x y) Ks h:=
 zd _ (λK'=>Z6n hx hy ol om hl) H
end
end Den
end

section
namespace Den
open Go Iv
def Ok(n:Int):Prop:=(dg n.natAbs).length<=8796093022208
def Lt(k:Nat)(n:Int):Prop:=n.natAbs<W ^ k
theorem Lt.ok{k:Nat}{n:Int}(h:Lt k n)(hk:k<=8796093022208):Ok n:=Nat.le_trans (Xp.2 h) hk
theorem Lt.mono{k j:Nat}{n:Int}(h:Lt k n)(hk:k<=j):Lt j n:=Nat.lt_of_lt_of_le h (Nat.pow_le_pow_right V5 hk)
theorem Lt.mul{k j:Nat}{m n:Int}(h:Lt k m)(h2:Lt j n):Lt (k+j) (m*n):=by
 unfold Lt at *
 rw[Int.natAbs_mul,Nat.pow_add]
 exact Nat.mul_lt_mul'' h h2
theorem Lt.neg{k:Nat}{n:Int}(h:Lt k n):Lt k (-n):=by unfold Lt at *;rw[Int.natAbs_neg];exact h
theorem Lt.le{k:Nat}{m n:Int}(h:Lt k m)(h2:n.natAbs<=m.natAbs):Lt k n:=Nat.lt_of_le_of_lt h2 h
theorem NI.len{h:Hp}{x:TInt}{n:Int}(hx:NI h x n):x.mag.len=(dg n.natAbs).length:=hx.1.len
theorem NI.len0{h:Hp}{x:TInt}{n:Int}(hx:NI h x n):((x.mag.len:Int)==0)=decide (n=0):=by
 rw[hx.len]
 by_cases h0:n=0
 . subst h0;simp[Q0]
 . have:(dg n.natAbs).length≠0:=λhh=>h0 (by have:=z2r.1 (List.length_eq_zero_iff.1 hh);omega)
   rw[decide_eq_false h0]
   have h2:((dg n.natAbs).length:Int)≠0:=by omega
   simpa using λhh=>h0 (by have:=z2r.1 hh;omega)
theorem zoh{n:Int}:(dg n.natAbs).length=0↔n=0:=by
 rw[List.length_eq_zero_iff,z2r];omega
section
variable {h : Hp} {x y : Sl} {l : List Nat} {m n : Int} {a b : TInt} {Ks : Sl → Hp → Prop} {Ki : Int → Hp → Prop} {Kb : Bool → Hp → Prop} {KI : TInt → Hp → Prop} {KP : (TInt × TInt × Int) → Hp → Prop}
theorem zvd(n:Nat):Q7 (dg n)=dg n:=by rw[V4 (qu n),Yz]
theorem zce{n:Nat}(hr:RdW h x (dg n))(hl:(dg n).length<=35184372088800)(H:∀y,RdW h y (dg n)->Ks y h):zc (F.zv x) Ks h:=
 z15 hr (by omega) λy hy=>H y (by rw[zvd]at hy;exact hy)
theorem zah(ha:NI h a m)(om:(dg m.natAbs).length<=35184372087808)(H:∀y,RdW h y (dg m.natAbs)->Ks y h):zc (F.zv a.mag) Ks h:=
 zce ha.1 (Nat.le_trans om (by decide)) H
theorem V3(ha:NI h a m)(om:Ok m)(H:∀y,RdW h y (dg m.natAbs)->Ks y h):zc (F.zv a.mag) Ks h:=
 zce ha.1 (Nat.le_trans om (by decide)) H
theorem Vz{neg:Bool}{k:Nat}(hr:RdW h x (dg k))(hl:(dg k).length<=35184372088800)(H:∀y,NI h y (sg neg k)->KI y h):zc (F.yp neg x) KI h:=
 z74 hr (qu k) (by omega) λy hy=>H y (by rw[Yz]at hy;exact hy)
theorem zbm{neg:Bool}{k:Nat}(hr:RdW h x (dg k))(hl:(dg k).length<=35184372088800)(H:∀y,NI h y (sg neg k)->KI y h):zc (F.Vy neg x) KI h:=
 zmi hr (qu k) (by omega) λy hy=>H y (by rw[Yz]at hy;exact hy)
theorem Zjd(n:Int):sg (decide (n<0)) n.natAbs=n:=by
 unfold sg
 by_cases h:n<0
 . rw[if_pos (by simpa using h)];omega
 . rw[if_neg (by simpa using h)];omega
theorem Zdo(n:Int):sg (!decide (n<0)) n.natAbs=-n:=by
 unfold sg
 by_cases h:n<0
 . rw[if_neg (by simpa using h)];omega
 . rw[if_pos (by simpa using h)];omega
theorem Z6v{n:Int}(h:n<0)(h2:-9223372036854775808<=n):u64.wrap (0-u64.wrap n)=((n.natAbs:Nat):Int):=by
 simp only[zdr];omega
theorem Z6w{n:Int}(h:¬n<0)(h2:n<=9223372036854775807):u64.wrap n=((n.natAbs:Nat):Int):=by
 simp only[zdr];omega
theorem dg2{n:Nat}(h:n<18446744073709551616):(dg n).length<=2:=by
 have h2:W ^ 2=18446744073709551616:=by decide
 exact Xp.2 (by rw[h2];exact h)
theorem z87(h1:-9223372036854775808<=n)(h2:n<=9223372036854775807)(H:∀y h',h.le h'->NI h' y n->KI y h'):zc (F.Wp n) KI h:=by
 refine zd _ (λK' hk=>?_) H
 unfold F.Wp
 refine zk (λs h'=>h'=h/\s=(((n.natAbs:Nat):Int),())) ?_ ?_
 . rintro _ h' ⟨rfl,rfl⟩
   refine z1i rfl (by omega) λy h1 hl hy=>?_
   have:=dg2 (n:=n.natAbs) (by omega)
   refine Vz hy (by omega) λz hz=>hk _ _ hl ?_
   rw[Zjd]at hz;exact hz
 . refine ze (λh3=>⟨rfl,?_⟩) (λh3=>⟨rfl,?_⟩)
   . rw[Z6v h3 h1]
   . rw[Z6w h3 h2]
theorem zbl(h1:-9223372036854775808<=n)(h2:n<=9223372036854775807)(H:∀y h',h.le h'->NI h' y n->KI y h'):zc (F.z1p n) KI h:=by
 refine zd _ (λK' hk=>?_) H
 unfold F.z1p
 have h5:=dg2 (n:=n.natAbs) (by omega)
 refine ze (λh3=>?_) (λh3=>?_)
 . rw[Z6v h3 h1]
   refine ziz rfl (by omega) λy h1 hl hy=>?_
   refine zbm hy (by omega) λz hz=>hk _ _ hl ?_
   have:sg true n.natAbs=n:=by unfold sg;simp;omega
   rw[this]at hz;exact hz
 . rw[Z6w h3 h2]
   refine ziz rfl (by omega) λy h1 hl hy=>?_
   refine zbm hy (by omega) λz hz=>hk _ _ hl ?_
   have:sg false n.natAbs=n:=by unfold sg;simp;omega
   rw[this]at hz;exact hz
theorem zbr(ha:NI h a m)(om:(dg m.natAbs).length<=35184372087808)(H:Ki m.sign h):zc (F.Wt a) Ki h:=by
 refine Zf _ (λK' hk=>?_) H
 unfold F.Wt
 refine zah ha om λy hy=>?_
 have hl:=hy.len
 refine zz (λh1=>?_) (λh1=>?_)
 . have:m=0:=zoh.1 (by omega)
   subst this;exact hk
 . have:m≠0:=λh0=>h1 (by subst h0;rw[hl];simp[Q0])
   rw[ha.2]
   refine ze (λh2=>?_) (λh2=>?_)
   . rw[Int.sign_eq_neg_one_of_neg h2]at hk;exact hk
   . rw[Int.sign_eq_one_of_pos (by omega)]at hk;exact hk
theorem zdx(ha:NI h a m)(om:Ok m)(H:Ki m.sign h):zc (F.Wt a) Ki h:=zbr ha (Nat.le_trans om (by decide)) H
theorem zn2(ha:NI h a m)(om:Ok m)(H:∀y h',h.le h'->NI h' y (-m)->KI y h'):zc (F.z4m a) KI h:=by
 refine zd _ (λK' hk=>?_) H
 unfold F.z4m
 refine V3 ha om λy hy=>zbv hy (Nat.le_trans om (by decide)) λz h1 hl hz=>Vz hz (Nat.le_trans om (by decide)) λw hw=>hk _ _ hl ?_
 rw[ha.2,Zdo]at hw;exact hw
theorem Zdn(m n:Int):sg (!(decide (m<0)==decide (n<0))) (m.natAbs*n.natAbs)=m*n:=by
 unfold sg
 rw[<-Int.natAbs_mul]
 by_cases h1:m<0<;>by_cases h2:n<0<;>simp[h1,h2]
 . have:=Int.mul_pos_of_neg_of_neg h1 h2
   omega
 . have:=Int.mul_nonpos_of_nonpos_of_nonneg (a:=m) (b:=n) (by omega) (by omega)
   omega
 . have:=Int.mul_nonpos_of_nonneg_of_nonpos (a:=m) (b:=n) (by omega) (by omega)
   omega
 . have:=Int.mul_nonneg (a:=m) (b:=n) (by omega) (by omega)
   omega
theorem Z8s{m n k:Nat}(om:(dg m).length<=k)(on:(dg n).length<=k):(dg (m*n)).length<=k+k:=by
 refine Xp.2 ?_
 rw[Nat.pow_add]
 exact Nat.mul_lt_mul'' (Xp.1 om) (Xp.1 on)
theorem Zd9{m n:Int}(om:Ok m)(on:Ok n):(dg (m.natAbs*n.natAbs)).length<=35184372088800:=
 Nat.le_trans (Z8s om on) (by decide)
theorem z4i(ha:NI h a m)(hb:NI h b n)(om:Ok m)(on:Ok n)(H:∀y h',h.le h'->NI h' y (m*n)->KI y h'):zc (F.Qj a b) KI h:=by
 refine zd _ (λK' hk=>?_) H
 unfold F.Qj
 have om':(dg m.natAbs).length<=8796093022208:=om
 have on':(dg n.natAbs).length<=8796093022208:=on
 refine V3 ha om λy hy=>V3 hb on λz hz=>ztu hy hz (qu _) (qu _) (by omega) λw h1 hl hw=>?_
 rw[Yz,Yz]at hw
 refine Vz hw (Zd9 om on) λw2 hw2=>hk _ _ hl ?_
 rw[ha.2,hb.2,Zdn]at hw2;exact hw2
theorem z5d{m n:Nat}(h:m<=n):(dg m).length<=(dg n).length:=Xp.2 (Nat.lt_of_le_of_lt h (Xp.1 (Nat.le_refl _)))
theorem Z99{m n:Int}(h:decide (m<0)=decide (n<0)):sg (decide (m<0)) (m.natAbs+n.natAbs)=m+n:=by
 unfold sg
 by_cases h1:m<0<;>by_cases h2:n<0<;>simp[h1,h2]at h |-<;>omega
theorem zv4{m n:Int}(h:decide (m<0)≠decide (n<0))(hle:n.natAbs<=m.natAbs):sg (decide (m<0)) (m.natAbs-n.natAbs)=m+n:=by
 unfold sg
 by_cases h1:m<0<;>by_cases h2:n<0<;>simp[h1,h2]at h |-<;>omega
theorem zt9{m n:Nat}(om:(dg m).length<=8796093022208):(dg (m-n)).length<=35184372088800:=by
 have:=z5d (Nat.sub_le m n);omega
theorem zmx(ha:NI h a m)(hb:NI h b n)(om:Ok m)(on:Ok n)(H:∀y h',h.le h'->NI h' y (m+n)->KI y h'):zc (F.z4k a b) KI h:=by
 refine zd _ (λK' hk=>?_) H
 unfold F.z4k
 have om':(dg m.natAbs).length<=8796093022208:=om
 have on':(dg n.natAbs).length<=8796093022208:=on
 refine V3 ha om λy hy=>V3 hb on λz hz=>?_
 rw[ha.2,hb.2]
 refine zp (λh1=>?_) (λh1=>?_)
 . have h1':decide (m<0)=decide (n<0):=by simpa using h1
   refine zkg hy hz (qu _) (qu _) (by omega) (by omega) λw h1 r hl hw ok hv hlen=>?_
   rw[Yz,Yz]at hv
   refine z74 hw ok (by omega) λw2 hw2=>hk _ _ hl ?_
   rw[hv,Z99 h1']at hw2;exact hw2
 . have h1':decide (m<0)≠decide (n<0):=by simpa using h1
   refine z8d hy hz (by omega) (by omega) ?_
   unfold zl6
   by_cases h2:m.natAbs<n.natAbs
   . rw[if_pos h2]
     refine y7 rfl ?_
     refine zc2 hz hy (qu _) (qu _) (by omega) (z5d (by omega)) (by rw[Yz,Yz];omega) λw h1 hl hw=>?_
     rw[Yz,Yz]at hw
     refine Vz hw (zt9 on') λw2 hw2=>hk _ _ hl ?_
     rw[zv4 (λe=>h1' e.symm) (by omega),Int.add_comm]at hw2;exact hw2
   . rw[if_neg h2]
     refine zt (by split<;>rfl) ?_
     refine zc2 hy hz (qu _) (qu _) (by omega) (z5d (by omega)) (by rw[Yz,Yz];omega) λw h1 hl hw=>?_
     rw[Yz,Yz]at hw
     refine Vz hw (zt9 om') λw2 hw2=>hk _ _ hl ?_
     rw[zv4 h1' (by omega)]at hw2;exact hw2
theorem Z5a{m n:Int}(h:m.sign=n.sign):m.sign*zl6 m.natAbs n.natAbs=(m-n).sign:=by
 unfold zl6
 rcases Int.lt_trichotomy m 0 with h1 | h1 | h1
 . have h2:n<0:=Int.sign_eq_neg_one_iff_neg.1 (by rw[<-h];exact Int.sign_eq_neg_one_of_neg h1)
   rw[Int.sign_eq_neg_one_of_neg h1]
   split
   . rw[Int.sign_eq_one_of_pos (by omega)];rfl
   . split
     . rw[Int.sign_eq_neg_one_of_neg (by omega)];rfl
     . have:m=n:=by omega
       subst this;simp
 . subst h1
   have h2:n=0:=by rw[Int.sign_zero]at h;exact Int.sign_eq_zero_iff_zero.1 h.symm
   subst h2;rfl
 . have h2:0<n:=Int.sign_eq_one_iff_pos.1 (by rw[<-h];exact Int.sign_eq_one_of_pos h1)
   rw[Int.sign_eq_one_of_pos h1]
   split
   . rw[Int.sign_eq_neg_one_of_neg (by omega)];rfl
   . split
     . rw[Int.sign_eq_one_of_pos (by omega)];rfl
     . have:m=n:=by omega
       subst this;simp
theorem z6f(n:Int):n.sign=-1/\n<0\/n.sign=0/\n=0\/n.sign=1/\0<n:=by
 rcases Int.lt_trichotomy n 0 with h1 | h1 | h1
 . exact .inl ⟨Int.sign_eq_neg_one_of_neg h1,h1⟩
 . subst h1;exact .inr (.inl ⟨rfl,rfl⟩)
 . exact .inr (.inr ⟨Int.sign_eq_one_of_pos h1,h1⟩)
theorem Z9d{m n:Int}(h:m.sign≠n.sign):(if m.sign<n.sign then (-1:Int)else if n.sign<m.sign then 1 else 0)=(m-n).sign:=by
 have hm:=z6f m
 have hn:=z6f n
 have hd:=z6f (m-n)
 split
 . omega
 . split<;>omega
theorem zy2(ha:NI h a m)(hb:NI h b n)(om:Ok m)(on:Ok n)(H:Ki (m-n).sign h):zc (F.z4l a b) Ki h:=by
 refine Zf _ (λK' hk=>?_) H
 unfold F.z4l
 have om':(dg m.natAbs).length<=8796093022208:=om
 have on':(dg n.natAbs).length<=8796093022208:=on
 refine zdx ha om (zdx hb on ?_)
 refine yk (λh1=>?_) (λh1=>?_)
 . refine Vj ?_
   rw[Z9d h1];exact hk
 . refine V3 ha om λy hy=>V3 hb on λz hz=>z8d hy hz (by omega) (by omega) ?_
   rw[Z5a h1]
   have:=z6f (m-n)
   rw[w64 (by omega)];exact hk
end
end Den
end

section
namespace Den
open Go Iv
theorem Z6m(a b:Nat):((a:Int)).tdiv (b:Int)=((a/b:Nat):Int):=(Int.ofNat_tdiv a b).symm
theorem zph(a b:Nat):((a:Int)).tmod (b:Int)=((a % b:Nat):Int):=(Int.ofNat_tmod a b).symm
theorem zvf{n:Nat}(h:n<W):u32.wrap (n:Int)=(n:Int):=by rw[zix,Nat.mod_eq_of_lt h]
theorem zjk{n:Nat}(h:n<W):u64.wrap (n:Int)=(n:Int):=z84 (by unfold W at h;omega)
theorem Zax{x y:Nat}(hx:x<W)(hy:y<W):Q6 .or .u32 (x:Int) (y:Int)=((x ||| y:Nat):Int):=by
 unfold Q6
 simp only[IntKind.bits]
 have h1:(BitVec.ofInt 32 (x:Int) ||| BitVec.ofInt 32 (y:Int)).toNat=x ||| y:=by
  unfold W at *
  rw[BitVec.ofInt_natCast,BitVec.ofInt_natCast,BitVec.toNat_or,BitVec.toNat_ofNat,BitVec.toNat_ofNat,Nat.mod_eq_of_lt (by omega),Nat.mod_eq_of_lt (by omega)]
 have h2:x ||| y<W:=Nat.or_lt_two_pow (n:=32) hx hy
 exact(congrArg (λz:Nat=>u32.wrap (z:Int)) h1).trans (zvf h2)
def bl(n:Nat):Nat:=if n=0 then 0 else n.log2+1
theorem Z9q(n:Nat):n<2 ^ bl n:=by
 unfold bl
 split
 . rename_i h;subst h;decide
 . exact Nat.lt_log2_self
theorem Z9p{n:Nat}(h:n≠0):2 ^ (bl n-1)<=n:=by
 unfold bl
 rw[if_neg h]
 exact Nat.log2_self_le h
theorem zyb{n:Nat}(h:n≠0):0<bl n:=by unfold bl;rw[if_neg h];omega
theorem Z82{n b:Nat}(h1:2 ^ b<=n)(h2:n<2 ^ (b+1)):bl n=b+1:=by
 have h0:n≠0:=by have:=Nat.two_pow_pos b;omega
 unfold bl
 rw[if_neg h0]
 have h3:=(Nat.le_log2 h0 (k:=b)).2 h1
 have h4:=(Nat.log2_lt h0 (k:=b+1)).2 h2
 omega
theorem zne{n k:Nat}(h:n<2 ^ k):bl n<=k:=by
 unfold bl
 split
 . omega
 . rename_i h0
   have:=(Nat.log2_lt h0 (k:=k)).2 h
   omega
theorem znf{n k:Nat}(h:2 ^ k<=n):bl n=bl (n/2 ^ k)+k:=by
 have h0:n/2 ^ k≠0:=by
  have:=Nat.div_pos h (Nat.two_pow_pos k);omega
 have h1:=Z9p h0
 have h2:=Z9q (n/2 ^ k)
 have h3:=zyb h0
 obtain⟨b,hb⟩:∃b,bl (n/2 ^ k)=b+1:=⟨bl (n/2 ^ k)-1,by omega⟩
 rw[hb]at h1 h2 |-
 simp only[Nat.add_sub_cancel]at h1
 rw[Nat.le_div_iff_mul_le (Nat.two_pow_pos k),<-Nat.pow_add]at h1
 rw[Nat.div_lt_iff_lt_mul (Nat.two_pow_pos k),<-Nat.pow_add]at h2
 rw[Z82 (b:=b+k) h1 (by rw[show b+k+1=b+1+k by omega];exact h2)]
 omega
section
variable {h : Hp} {x y : Sl} {l m : List Nat} {b : Nat} {Ks : Sl → Hp → Prop} {Ki : Int → Hp → Prop} {Kb : Bool → Hp → Prop} {KI : TInt → Hp → Prop} {Kp : (Sl × Sl) → Hp → Prop} {Kq : (Sl × Int) → Hp → Prop}
theorem zku{r l:List Nat}{b rem j:Nat}(hj:j<l.length)(hrl:r.length=l.length)(hv:vl (l.drop (j+1))=b*vl (r.drop (j+1))+rem) :
 vl (l.drop j)=b*vl ((r.set j ((rem*W+l[j])/b)).drop j)+(rem*W+l[j]) % b:=by
 rw[List.drop_eq_getElem_cons (l:=l) hj,List.drop_eq_getElem_cons (l:=r.set j ((rem*W+l[j])/b)) (by simpa [hrl] using hj),List.getElem_set_self]
 simp only[vl]
 rw[List.drop_set_of_lt (by omega),hv]
 have e:=Nat.div_add_mod (rem*W+l[j]) b
 rw[Nat.mul_add,Nat.mul_add,Nat.mul_comm rem W]at *
 have:W*(b*vl (r.drop (j+1)))=b*(W*vl (r.drop (j+1))):=by rw[<-Nat.mul_assoc,Nat.mul_comm W b,Nat.mul_assoc]
 omega
theorem zmv{b rem w:Nat}(hr:rem<b)(hw:w<W):(rem*W+w)/b<W:=by
 rw[Nat.div_lt_iff_lt_mul (by omega)]
 have:(rem+1)*W<=b*W:=Nat.mul_le_mul_right _ hr
 rw[Nat.add_mul]at this
 rw[Nat.mul_comm W b];omega
theorem zkt{b rem w:Nat}(hr:rem<b)(hb:b<W)(hw:w<W) :
 u32.wrap (u64.wrap ((Q6 .or .u64 (u64.wrap ((rem:Int)*2 ^ (min (32:Int).toNat u64.bits))) (u64.wrap (w:Int))).tdiv (u64.wrap (b:Int))))=(((rem*W+w)/b:Nat):Int):=by
 have h1:=zmv hr hw
 rw[zx4 (by omega) hw,zjk hb,Z6m,zjk h1,zvf h1]
theorem Z83{x:Sl}{l:List Nat}{b:Nat}{m1:Sl}{h h1:Hp}{Kf:Int->Hp->Prop}(hx:RdW h x l)(ol:okW l)(hb:0<b)(hbW:b<W)(hl:l.length<=35184372088800)
 (ho:qi h h1 m1 (List.replicate l.length 0)) (H:∀h' r,qi h h' m1 r->okW r->r.length=l.length->vl r=vl l/b->Kf ((vl l % b:Nat):Int) h') :
 (zr (S:=Int×Int×Unit) (λs2 k3 h2=>
   (ifP (decide (s2.2.1>=0))
   (0<=(32:Int) /\
   (zg x s2.2.1 1 λa4=>
   (ldL (.int .u32) a4 (λx5=>
   (((u64.wrap ((b:Nat):Int)):Int)≠0 /\
   (zg m1 s2.2.1 1 λa6=>
   (stP a6 [.int .u32 (u32.wrap ((u64.wrap (((Q6 .or .u64 (u64.wrap (s2.1*2 ^ (min (32:Int).toNat u64.bits))) (u64.wrap (x5))):Int).tdiv (u64.wrap ((b:Nat):Int))))))] (λh3=>
   (((u64.wrap ((b:Nat):Int)):Int)≠0 /\
   (k3 (((Q6 .or .u64 (u64.wrap (s2.1*2 ^ (min (32:Int).toNat u64.bits))) (u64.wrap (x5))):Int).tmod (u64.wrap ((b:Nat):Int)),(i64.wrap (s2.2.1-1)),()) h3))) h2)))) h2)))
   (Kf s2.1 h2)))
   (0,(i64.wrap ((x.len:Int)-1)),()) h1):=by
 have lx:=hx.len
 refine yx (λst h'=>∃(k rem:Nat) (r:List Nat),st=((rem:Int),(k:Int)-1,())/\k<=l.length/\rem<b/\qi h h' m1 r/\okW r/\r.length=l.length/\vl (l.drop k)=b*vl (r.drop k)+rem)
  (λst=>(st.2.1+1).toNat) ⟨l.length,0,_,by rw[lx,w64 (by omega)];rfl,Nat.le_refl _,hb,ho,zem _,by simp,by rw[List.drop_eq_nil_of_le (Nat.le_refl _),List.drop_eq_nil_of_le (by simp)];rfl⟩ ?_
 rintro st h2 ⟨k,rem,r,rfl,hk,hrem,ho2,okr,hrl,hv⟩
 refine ze (λh3=>?_) (λh3=>?_)
 . obtain⟨j,rfl⟩:∃j,k=j+1:=⟨k-1,by have:(k:Int)-1>=0:=h3;omega⟩
   have hj:j<l.length:=by omega
   have hw:=Wn ol hj
   have hne:u64.wrap (b:Int)≠0:=by rw[zjk hbW];omega
   have hji:((j+1:Nat):Int)-1=(j:Int):=by omega
   simp only[hji]
   refine⟨by decide,Yy j (hx.le ho2.1) rfl hj λa ha=>⟨_,ha,hne,?_⟩⟩
   refine z5m j _ ho2 rfl (by omega) (zkt hrem hbW hw) λh5 b5 _ _ _ ho5=>⟨hne,?_⟩
   rw[zx4 (by omega) hw,zjk hbW,zph]
   refine⟨⟨j,_,_,by rw[w64 (by omega)],by omega,Nat.mod_lt _ hb,ho5,z3p okr (zmv hrem hw),by simp[hrl],zku hj hrl hv⟩,by rw[w64 (by omega)];omega⟩
 . obtain rfl:k=0:=by have:¬(k:Int)-1>=0:=h3;omega
   simp only[List.drop_zero]at hv
   have e1:vl l/b=vl r:=by rw[hv,Nat.mul_add_div hb,Nat.div_eq_of_lt hrem];omega
   have e2:vl l % b=rem:=by rw[hv,Nat.mul_add_mod,Nat.mod_eq_of_lt hrem]
   have:=H h2 r ho2 okr hrl e1.symm
   rw[e2]at this
   exact this
theorem zg3(hx:RdW h x l)(ol:okW l)(hb:0<b)(hbW:b<W)(hl:l.length<=35184372088800)
 (H:∀z w h',h.le h'->RdW h' z (dg (vl l/b))->RdW h' w (dg (vl l % b))->Kp (z,w) h'):zc (F.Vr x b) Kp h:=by
 refine zd (λv h'=>RdW h' v.1 (dg (vl l/b))/\RdW h' v.2 (dg (vl l % b))) (λK' hk=>?_) λ⟨z,w⟩ h' hl hz=>H z w h' hl hz.1 hz.2
 unfold F.Vr
 have lx:=hx.len
 refine z8l l.length l.length (by omega) (by omega) (by omega) (by omega) λm1 h1 hw hw2=>?_
 refine Z83 (Kf:=λ(s:Int) h2=>zc (F.zv m1) (λr7 h4=>zc (F.Yw s) (λr8 h5=>K' (r7,r8) h5) h4) h2) hx ol hb hbW hl hw2 λh3 r ho okr hrl hv=>?_
 refine z15 ho.rdW (by omega) λz hz=>?_
 rw[V4 okr,hv]at hz
 have:=Nat.mod_lt (vl l) hb
 refine z1i rfl (by unfold W at hbW;omega) λw h4 hl4 hw4=>hk _ _ (Hp.le_trans ho.1 hl4) ⟨hz.le hl4,hw4⟩
theorem Zd7{s:Nat}(hs:s<=32):(2:Int) ^ (min ((s:Int)).toNat u64.bits)=((2 ^ s:Nat):Int):=by
 have:min ((s:Int)).toNat u64.bits=s:=by show min s 64=s;omega
 rw[this];simp
theorem Z4e{s:Nat}(hs:s<=32):(2:Int) ^ (min ((s:Int)).toNat u32.bits)=((2 ^ s:Nat):Int):=by
 have:min ((s:Int)).toNat u32.bits=s:=by show min s 32=s;omega
 rw[this];simp
theorem zi4{s:Nat}(hs:s<=32):2 ^ s<=W:=by
 show 2 ^ s<=2 ^ 32
 exact Nat.pow_le_pow_right (by decide) hs
theorem zeq{s:Nat}(hs:s<=32):2 ^ s*2 ^ (32-s)=W:=by
 rw[<-Nat.pow_add,show s+(32-s)=32 by omega];rfl
theorem zv6{s w:Nat}(hs:s<=32)(hw:w<W):u64.wrap (u64.wrap (w:Int)*2 ^ (min ((s:Int)).toNat u64.bits))=((w*2 ^ s:Nat):Int):=by
 rw[Zd7 hs,zjk hw,show((w:Int)*((2 ^ s:Nat):Int))=((w*2 ^ s:Nat):Int)by simp]
 refine z84 ?_
 have h1:=zi4 hs
 have:w*2 ^ s<W*W:=Nat.mul_lt_mul_of_lt_of_le hw h1 V5
 unfold W at this;omega
theorem zv5{s w:Nat}(hs:s<=32):w*2 ^ s % W=2 ^ s*(w % 2 ^ (32-s)):=by
 rw[<-zeq hs,Nat.mul_comm w,Nat.mul_mod_mul_left]
theorem Z57{s w:Nat}(hs:s<=32)(hw:w<W):w*2 ^ s/W<2 ^ s:=by
 rw[Nat.div_lt_iff_lt_mul V5,Nat.mul_comm]
 exact Nat.mul_lt_mul_of_pos_left hw (Nat.two_pow_pos s)
theorem zsk{s c w:Nat}(hs:s<=32)(hc:c<2 ^ s):c ||| (w*2 ^ s % W)=c+w*2 ^ s % W:=by
 rw[zv5 hs,Nat.or_comm,<-Nat.two_pow_add_eq_or_of_lt hc,Nat.add_comm]
theorem Zjc{s c w:Nat}(hs:s<=32)(hc:c<2 ^ s):c+w*2 ^ s % W<W:=by
 rw[<-zsk hs hc]
 exact Nat.or_lt_two_pow (n:=32) (Nat.lt_of_lt_of_le hc (zi4 hs)) (Nat.mod_lt _ V5)
theorem Zdp{s:Nat}(hx:RdW h x l)(ol:okW l)(hs:s<=31)(hl:l.length<=35184372088800)
 (H:∀z h' r,qi h h' z r->okW r->r.length=l.length+1->vl r=vl l*2 ^ s->Ks z h'):F.Xm x (s:Int) Ks h:=by
 unfold F.Xm
 have lx:=hx.len
 refine z8l (l.length+1) (l.length+1) (by rw[w64 (by omega)];omega) (by rw[w64 (by omega)];omega) (by omega) (by omega) λm1 h1 hw hw2=>?_
 refine yx (λst h'=>∃(i:Nat) (r:List Nat),st=((i:Int),())/\i<=l.length/\qi h h' m1 r/\okW r/\r.length=l.length+1/\(∃hi:i<r.length,r[i]<2 ^ s)/\vl (r.take (i+1))=vl (l.take i)*2 ^ s)
  (λst=>((l.length:Int)-st.1).toNat) ⟨0,_,rfl,Nat.zero_le _,hw2,zem _,by simp,⟨by simp,by simpa using Nat.two_pow_pos s⟩,by rw[qg (by simp)];simp[vl]⟩ ?_
 rintro st h2 ⟨i,r,rfl,hi,ho,okr,hrl,⟨hi1,hc⟩,hv⟩
 refine ze (λh3=>?_) (λh3=>?_)
 . have hi':i<l.length:=by have:(i:Int)<(x.len:Int):=h3;omega
   have hw:=Wn ol hi'
   refine Yy i (hx.le ho.1) rfl hi' λa ha=>⟨_,ha,by omega,?_⟩
   refine Yy i ho.rdW rfl hi1 λa2 ha2=>⟨_,ha2,?_⟩
   rw[zv6 (by omega) hw,zix]
   have e1:=zsk (w:=l[i]) (by omega) hc
   have e2:=Zjc (w:=l[i]) (by omega) hc
   refine z5m i (r[i]+l[i]*2 ^ s % W) ho rfl hi1 ?_ λh5 b5 _ _ _ ho5=>⟨by decide,?_⟩
   . rw[Zax (Wn okr hi1) (Nat.mod_lt _ V5),e1]
   . rw[zkm]
     have e3:=Z57 (s:=s) (by omega) hw
     have e4:l[i]*2 ^ s/W<W:=Nat.lt_of_lt_of_le e3 (zi4 (by omega))
     refine z5m (i+1) (l[i]*2 ^ s/W) ho5 (by rw[w64 (by omega)];rfl) (by simp;omega) (zvf e4) λh6 b6 _ _ _ ho6=>?_
     have hlen:i+1<((r.set i (r[i]+l[i]*2 ^ s % W)).set (i+1) (l[i]*2 ^ s/W)).length:=by simp;omega
     refine⟨⟨i+1,_,by rw[w64 (by omega)];rfl,by omega,ho6,z3p (z3p okr e2) e4,by simp[hrl],⟨hlen,by rw[List.getElem_set_self];exact e3⟩,?_⟩,by rw[w64 (by omega)];omega⟩
     rw[z7b (by simp;omega),z7b hi1,qg hi',Nat.add_mul,<-hv,qg hi1,Nat.pow_succ,Nat.mul_add]
     have e:=Nat.mod_add_div (l[i]*2 ^ s) W
     have e5:=congrArg (W ^ i*·) e
     simp only[Nat.mul_add]at e5
     rw[Nat.mul_assoc,Nat.mul_assoc]
     omega
 . have hi':i=l.length:=by have:¬(i:Int)<(x.len:Int):=h3;omega
   subst hi'
   rw[List.take_of_length_le (l:=l) (Nat.le_refl _),List.take_of_length_le (by omega)]at hv
   exact H _ _ r ho okr hrl hv
theorem zp7{s:Nat}(hx:RdW h x l)(ol:okW l)(hs:s<=31)(hl:l.length<=35184372088800)
 (H:∀z h' r,qi h h' z r->okW r->r.length=l.length+1->vl r=vl l*2 ^ s->Ks z h'):zc (F.Xm x (s:Int)) Ks h:=
 zd (λz h'=>∃r,qi h h' z r/\okW r/\r.length=l.length+1/\vl r=vl l*2 ^ s) (λK' hk=>Zdp hx ol hs hl λz h' r h1 h2 h3 h4=>hk z h' h1.1 ⟨r,h1,h2,h3,h4⟩) λz h' _ ⟨r,h1,h2,h3,h4⟩=>H z h' r h1 h2 h3 h4
theorem zp8{s u v:Nat}(hs:s<=32)(hu:u<W):(u/2 ^ s) ||| (v*2 ^ (32-s) % W)=u/2 ^ s+2 ^ (32-s)*(v % 2 ^ s):=by
 have h1:u/2 ^ s<2 ^ (32-s):=by
  rw[Nat.div_lt_iff_lt_mul (Nat.two_pow_pos s),Nat.mul_comm,zeq hs];exact hu
 rw[zsk (by omega) h1,zv5 (by omega),show 32-(32-s)=s by omega]
theorem Zdr{s u v:Nat}(hs:s<=32)(hu:u<W):u/2 ^ s+2 ^ (32-s)*(v % 2 ^ s)<W:=by
 rw[<-zp8 hs hu]
 exact Nat.or_lt_two_pow (n:=32) (Nat.lt_of_le_of_lt (Nat.div_le_self _ _) hu) (Nat.mod_lt _ V5)
theorem Z59{r l:List Nat}{s i z0:Nat}(hs:s<=32)(hi:i<l.length)(hrl:r.length=l.length)
 (hv:2 ^ s*vl (r.take i)+z0=vl (l.take i)+W ^ i*(l.getD i 0 % 2 ^ s)) :
 2 ^ s*vl ((r.set i (l[i]/2 ^ s+2 ^ (32-s)*(l.getD (i+1) 0 % 2 ^ s))).take (i+1))+z0=vl (l.take (i+1))+W ^ (i+1)*(l.getD (i+1) 0 % 2 ^ s):=by
 rw[z7b (by omega),qg hi]
 rw[z7q hi]at hv
 have e:=Nat.div_add_mod l[i] (2 ^ s)
 have p:=zeq hs
 rw[Nat.pow_succ]
 generalize l.getD (i+1) 0 % 2 ^ s=A at *
 generalize 2 ^ (32-s)=Q at *
 generalize 2 ^ s=S at *
 generalize W ^ i=P at *
 generalize l[i] % S=B at *
 generalize l[i]/S=C at *
 generalize l[i]=D at *
 generalize vl (r.take i)=R at *
 generalize vl (l.take i)=L at *
 rw[<-p,<-e]
 clear hrl hi hs e p
 grind
theorem Z9b{r l:List Nat}{s:Nat}(hrl:r.length=l.length)(hv:2 ^ s*vl (r.take l.length)+l.getD 0 0 % 2 ^ s=vl (l.take l.length)+W ^ l.length*(l.getD l.length 0 % 2 ^ s)):vl r=vl l/2 ^ s:=by
 rw[List.take_of_length_le (l:=r) (by omega),List.take_of_length_le (Nat.le_refl _),z7r (Nat.le_refl _),Nat.zero_mod,Nat.mul_zero,Nat.add_zero]at hv
 rw[<-hv,Nat.mul_add_div (Nat.two_pow_pos s),Nat.div_eq_of_lt (Nat.mod_lt _ (Nat.two_pow_pos s)),Nat.add_zero]
theorem zml{s w:Nat}(hs:s<=32):((w:Int)).fdiv (2 ^ (min ((s:Int)).toNat u32.bits))=((w/2 ^ s:Nat):Int):=by
 rw[Z4e hs]
 exact(Int.ofNat_fdiv w (2 ^ s)).symm
theorem Z58{s:Nat}(hx:RdW h x l)(ol:okW l)(hs:s<=31)(hl:l.length<=35184372088800)
 (H:∀z h' r,h.le h'->RdW h' z r->okW r->r.length=l.length->vl r=vl l/2 ^ s->Ks z h'):zc (F.Vs x (s:Int)) Ks h:=by
 refine zd (λz h'=>∃r,RdW h' z r/\okW r/\r.length=l.length/\vl r=vl l/2 ^ s) (λK' hk=>?_) λz h' hl ⟨r,h1,h2,h3,h4⟩=>H z h' r hl h1 h2 h3 h4
 unfold F.Vs
 have lx:=hx.len
 refine z8l l.length l.length (by omega) (by omega) (by omega) (by omega) λm1 h1 hw hw2=>?_
 refine yx (λst h'=>∃(i:Nat) (r:List Nat),st=((i:Int),())/\i<=l.length/\qi h h' m1 r/\okW r/\r.length=l.length/\2 ^ s*vl (r.take i)+l.getD 0 0 % 2 ^ s=vl (l.take i)+W ^ i*(l.getD i 0 % 2 ^ s))
  (λst=>((l.length:Int)-st.1).toNat) ⟨0,_,rfl,Nat.zero_le _,hw2,zem _,by simp,by simp[vl]⟩ ?_
 rintro st h2 ⟨i,r,rfl,hi,ho,okr,hrl,hv⟩
 refine ze (λh3=>?_) (λh3=>?_)
 . have hi':i<l.length:=by have:(i:Int)<(x.len:Int):=h3;omega
   have hw:=Wn ol hi'
   have e2:=Zdr (s:=s) (v:=l.getD (i+1) 0) (by omega) hw
   have e3:=Z59 (by omega) hi' hrl hv
   refine zk (λ_ h'=>∃r',qi h h' m1 r'/\r'=r.set i (l[i]/2 ^ s+2 ^ (32-s)*(l.getD (i+1) 0 % 2 ^ s))) ?_ ?_
   . rintro _ h4 ⟨r',ho4,rfl⟩
     exact⟨⟨i+1,_,by rw[w64 (by simp only;omega)];rfl,by omega,ho4,z3p okr e2,by simp[hrl],e3⟩,by simp only;rw[w64 (by omega)];omega⟩
   . refine Yy i (hx.le ho.1) rfl hi' λa ha=>⟨_,ha,by omega,?_⟩
     refine z5m i (l[i]/2 ^ s) ho rfl (by omega) (zml (by omega)) λh5 b5 _ _ _ ho5=>?_
     have wi:i64.wrap ((i:Int)+1)=((i+1:Nat):Int):=by rw[w64 (by omega)];rfl
     have ws:i64.wrap (32-(s:Int))=((32-s:Nat):Int):=by rw[w64 (by omega)];omega
     simp only[wi,ws]
     refine ze (λh6=>?_) (λh6=>?_)
     . have hi2:i+1<l.length:=by omega
       have hw2:=Wn ol hi2
       refine Yy i ho5.rdW rfl (by simp;omega) λa2 ha2=>⟨_,ha2,?_⟩
       refine Yy (i+1) (hx.le ho5.1) rfl hi2 λa3 ha3=>⟨_,ha3,by omega,?_⟩
       rw[zv6 (by omega) hw2,zix,List.getElem_set_self,Zax (Nat.lt_of_le_of_lt (Nat.div_le_self _ _) hw) (Nat.mod_lt _ V5),zp8 (by omega) hw]
       refine z5m i _ ho5 rfl (by simp;omega) rfl λh7 b7 _ _ _ ho7=>⟨_,ho7,?_⟩
       rw[List.set_set,z7q hi2]
     . have hi2:l.length<=i+1:=by omega
       refine⟨_,ho5,?_⟩
       rw[z7r hi2]
       simp
 . have hi':i=l.length:=by have:¬(i:Int)<(x.len:Int):=h3;omega
   subst hi'
   exact hk _ _ ho.1 ⟨r,ho.rdW,okr,hrl,Z9b hrl hv⟩
end
end Den
end

section
namespace Iv
theorem zhl{X V P w v1 v2 u num qh rh:Nat}(hX:X<(num*w+u+1)*P)(hV:(v1*w+v2)*P<=V)(hV0:0<V)(hnum:qh*v1+rh=num)
 (hlt:X<V*w) (hc:w<=qh\/rh*w+u<qh*v2):X/V<qh:=by
 rw[Nat.div_lt_iff_lt_mul hV0]
 rcases hc with hc | hc
 . exact Nat.lt_of_lt_of_le hlt (by rw[Nat.mul_comm];exact Nat.mul_le_mul_right _ hc)
 . have h1:num*w+u+1<=qh*(v1*w+v2):=by
    rw[<-hnum,Nat.mul_add,Nat.add_mul,<-Nat.mul_assoc];omega
   have h2:(num*w+u+1)*P<=qh*((v1*w+v2)*P):=by
    rw[<-Nat.mul_assoc];exact Nat.mul_le_mul_right _ h1
   have h3:qh*((v1*w+v2)*P)<=qh*V:=Nat.mul_le_mul_left _ hV
   omega
theorem zhm{X V P w v1 v2 u num qh rh un un1:Nat}(hw:1<w)(hX:(num*w+u)*P<=X)(hV:V<(v1*w+v2+1)*P)(hV0:0<V)(hP:0<P)(hnum:qh*v1+rh=num)(hn:num=un*w+un1)
 (hv1:w<=2*v1) (hun:un<=v1) (hun1:un1<w) (hv2:v2<w) (hu:u<w)
 (hc:w<=rh\/(qh<w/\qh*v2<=rh*w+u)):qh<w/\qh<=X/V+1:=by
 have hv1p:0<v1:=by omega
 have h1:qh<w:=by
  rcases hc with hc | hc
  . have h2:un*w<=v1*w:=Nat.mul_le_mul_right _ hun
    have h3:qh*v1<w*v1:=by rw[Nat.mul_comm w v1];omega
    exact Nat.lt_of_mul_lt_mul_right h3
  . exact hc.1
 refine⟨h1,?_⟩
 have h2:qh*v2<=rh*w+u:=by
  rcases hc with hc | hc
  . have a1:qh*v2<=w*w:=Nat.mul_le_mul (by omega) (by omega)
    have a2:w*w<=rh*w:=Nat.mul_le_mul_right _ hc
    omega
  . exact hc.2
 have h3:qh*(v1*w+v2)<=num*w+u:=by
  rw[<-hnum,Nat.mul_add,Nat.add_mul,<-Nat.mul_assoc];omega
 rcases Nat.eq_zero_or_pos qh with h0 | h0
 . rw[h0];exact Nat.zero_le _
 obtain⟨q1,rfl⟩:∃q1,qh=q1+1:=⟨qh-1,by omega⟩
 have h4:q1*(v1*w+v2+1)<=num*w+u:=by
  rw[Nat.mul_add,Nat.mul_one]
  rw[Nat.add_mul]at h3
  have:w<=v1*w:=Nat.le_mul_of_pos_left _ hv1p
  omega
 have h5:q1*V<=X:=by
  have a1:q1*V<=q1*((v1*w+v2+1)*P):=Nat.mul_le_mul_left _ (Nat.le_of_lt hV)
  have a2:q1*((v1*w+v2+1)*P)<=(num*w+u)*P:=by
   rw[<-Nat.mul_assoc];exact Nat.mul_le_mul_right _ h4
  omega
 exact Nat.succ_le_succ ((Nat.le_div_iff_mul_le hV0).2 h5)
theorem Zkg{l:List Nat}(ok:okW l){n:Nat}(hl:l.length=n+2):∃P lo,P=W ^ n/\lo<P/\vl l=(l.getD (n+1) 0*W+l.getD n 0)*P+lo/\lo=vl (l.take n):=by
 refine⟨W ^ n,vl (l.take n),rfl,?_,?_,rfl⟩
 . have:=zdo (z8p ok n)
   rw[List.length_take,Nat.min_eq_left (by omega)]at this
   exact this
 . have e1:=Den.zaj l n
   have e2:=Den.zaj l (n+1)
   rw[List.take_of_length_le (by omega)]at e2
   rw[e2,e1,Nat.pow_succ,Nat.add_mul,Nat.mul_assoc (l.getD (n+1) 0),Nat.mul_comm (W ^ n) W,Nat.mul_comm (l.getD (n+1) 0),Nat.mul_comm (l.getD n 0)]
   omega
theorem Zla{l:List Nat}(ok:okW l){n:Nat}(hl:l.length=n+3):∃P lo,P=W ^ n/\lo<P/\vl l=((l.getD (n+2) 0*W+l.getD (n+1) 0)*W+l.getD n 0)*P+lo:=by
 obtain⟨P,lo,h1,h2,h3,h4⟩:=Zkg ok (n:=n+1) (by omega)
 refine⟨W ^ n,vl (l.take n),rfl,?_,?_⟩
 . have:=zdo (z8p ok n)
   rw[List.length_take,Nat.min_eq_left (by omega)]at this
   exact this
 . rw[h3,h4,Den.zaj,h1,Nat.pow_succ]
   have:(l.getD (n+2) 0*W+l.getD (n+1) 0)*(W ^ n*W)=(l.getD (n+2) 0*W+l.getD (n+1) 0)*W*W ^ n:=by
    rw[Nat.mul_comm (W ^ n) W,Nat.mul_assoc]
   rw[this,Nat.add_mul _ (l.getD n 0),Nat.mul_comm (l.getD n 0)]
   omega
theorem zdn{l:List Nat}(ok:okW l){a b:Nat}(h:vl (l.drop a)<W ^ b):vl (l.drop (a+b))=0:=by
 rcases Nat.lt_or_ge (l.drop a).length b with h1 | h1
 . rw[List.drop_eq_nil_of_le (by rw[List.length_drop]at h1;omega)];rfl
 . have:=Xe (l:=l.drop a) (k:=b) h1
   rw[List.drop_drop]at this
   rcases Nat.eq_zero_or_pos (vl (l.drop (a+b)))with h2 | h2
   . exact h2
   . have:W ^ b<=W ^ b*vl (l.drop (a+b)):=Nat.le_mul_of_pos_right _ h2
     omega
end Iv
namespace Den
open Go Iv
theorem LeX.refl{b:Nat}{h:Hp}:LeX b h h:=λ_ _ _ hk=>hk
theorem LeX.trans{b:Nat}{h h1 h2:Hp}(x:LeX b h h1)(y:LeX b h1 h2):LeX b h h2:=λk B hne hk=>y k B hne (x k B hne hk)
theorem z4j{x:Sl}{j e:Nat}{i:Int}{k:Nat}{F:Addr->Prop}(hi:i=k)(hk:k<e-j)(he:e<=x.cap)(H:zg x ((j+k:Nat):Int) 1 F):zg (x.cut j e 1) i 1 F:=by
 subst hi
 obtain⟨_,_,h3⟩:=H
 refine⟨by omega,?_,?_⟩
 . show(k:Int)<((e-j:Nat):Int);omega
 . have:(x.cut j e 1).a=x.a.map (·.add (j*1)):=by show(if x.cap=j then _ else _)=_;rw[if_neg (by omega)]
   rw[this]
   cases ha:x.a with
   | none=>rw[ha]at h3;exact h3
   | some a=>
     rw[ha]at h3
     simp only[yu,Option.map_some]at h3 |-
     rw[Wr]
     have e1:(((j+k:Nat):Int)).toNat=j+k:=rfl
     have e2:((k:Int)).toNat=k:=rfl
     rw[e1]at h3
     rw[e2]
     rw[show j*1+k*1=(j+k)*1 by omega]
     exact h3
theorem zt2{x:Sl}{lo hi:Int}{K:Sl->Prop}(a b:Nat)(ha:lo=a)(hb:hi=b)(hab:a<=b)(hc:b<=x.cap)(H:K (x.cut a b 1)):slP x lo hi 1 K:=by
 subst ha hb
 exact⟨by omega,by omega,by omega,H⟩
section
variable {h0 h : Hp} {u y : Sl} {L m : List Nat} {a0 : Addr} {j d : Nat} {Kb : Bool → Hp → Prop} {Ku : Unit → Hp → Prop}
theorem zae{i:Int}{v:Int}{K:Hp->Prop}(k n:Nat)(ha0:u.a=some a0)(ho:qi h0 h u L)(hi:i=k)(hk:k<L.length)(hv:v=n)
 (H:∀h',LeX a0.block h h'->qi h0 h' u (L.set k n)->K h'):zg u i 1 λa=>stP a [.int .u32 v] K h:=
 z5m k n ho hi hk hv λh' b h1 _ h3 h4=>H h' (by rw[h1 _ ha0];exact h3) h4
theorem Z5g{x d c z:Nat}(hx:x<W)(hd:d<W)(hc:c<=W)(hz:z<W):∃r b:Nat,r<W/\b<=W/\z+W*b=r+(x*d+c) /\
 u32.wrap (u64.wrap (u64.wrap (z:Int)-u64.wrap (u32.wrap (u64.wrap (u64.wrap (u64.wrap (x:Int)*(d:Int))+(c:Int))))))=(r:Int) /\
 u64.wrap ((u64.wrap (u64.wrap (u64.wrap (x:Int)*(d:Int))+(c:Int))).fdiv (2 ^ (min (32:Int).toNat u64.bits)) +
  (u64.wrap (u64.wrap (z:Int)-u64.wrap (u32.wrap (u64.wrap (u64.wrap (u64.wrap (x:Int)*(d:Int))+(c:Int)))))).fdiv (2 ^ (min (63:Int).toNat u64.bits)))=(b:Int):=by
 unfold W at *
 have hxd:x*d<=4294967295*4294967295:=Nat.mul_le_mul (by omega) (by omega)
 have e1:u64.wrap (u64.wrap (u64.wrap (x:Int)*(d:Int))+(c:Int))=((x*d+c:Nat):Int):=by
  rw[z84 (n:=x) (by omega),show((x:Int)*(d:Int))=((x*d:Nat):Int)by simp,z84 (n:=x*d) (by omega),show(((x*d:Nat):Int)+(c:Int))=((x*d+c:Nat):Int)by simp,z84 (by omega)]
 rw[e1,Z8f,Zks]
 simp only[zdr,zpm]
 have ht:x*d+c<=4294967295*4294967295+4294967296:=by omega
 generalize x*d+c=t at *
 by_cases hb:t % 4294967296<=z
 . exact⟨z-t % 4294967296,t/4294967296,by omega,by omega,by omega,by omega,by omega⟩
 . exact⟨z+4294967296-t % 4294967296,t/4294967296+1,by omega,by omega,by omega,by omega,by omega⟩
theorem zb5{L:List Nat}{j k v:Nat}(hj:j<=k):(L.set k v).take j=L.take j:=by
 apply List.ext_getElem
 . simp
 . intro i h1 h2
   simp only[List.length_take]at h1 h2
   simp only[List.getElem_take]
   rw[List.getElem_set_ne (by omega)]
theorem zb4{L:List Nat}{k e v:Nat}(hk:k<e):(L.set k v).drop e=L.drop e:=by
 rw[List.drop_set_of_lt hk]
theorem Zdt(ha0:u.a=some a0)(ho:qi h0 h u L)(okL:okW L)(hy:RdW h y m)(okm:okW m)(hne:∀a,y.a=some a->a.block≠a0.block)(hj:j+m.length<L.length)(hd:d<W)(hL:L.length<=35184372088800+1)
 (H:∀h' L' b,LeX a0.block h h'->qi h0 h' u L'->okW L'->L'.length=L.length->L'.take j=L.take j->L'.drop (j+m.length+1)=L.drop (j+m.length+1)->b<=1 ->
   vl L'+W ^ j*(d*vl m)=vl L+W ^ (j+m.length+1)*b->Kb ((b:Int)==1) h'):F.z0s (u.cut j (j+m.length+1) 1) y (d:Int) Kb h:=by
 unfold F.z0s
 have ly:=hy.len
 have lu:=ho.len
 have lc:=ho.2.2.1
 refine yx (λst h'=>∃(c i:Nat) (L':List Nat),st=((c:Int),(i:Int),())/\i<=m.length/\c<=W/\LeX a0.block h h'/\qi h0 h' u L'/\okW L'/\L'.length=L.length/\L'.take j=L.take j/\L'.drop (j+m.length+1)=L.drop (j+m.length+1) /\
  vl L'+W ^ j*(d*vl (m.take i))=vl L+W ^ (j+i)*c) (λst=>((m.length:Int)-st.2.1).toNat) ⟨0,0,L,rfl,Nat.zero_le _,by omega,LeX.refl,ho,okL,rfl,rfl,rfl,by simp[vl]⟩ ?_
 rintro st h1 ⟨c,i,L',rfl,hi,hc,hle,ho1,okL',hLL,htk,hdr,hv⟩
 have hy1:=hy.leX hle hne
 refine ze (λh3=>?_) (λh3=>?_)
 . have hi':i<m.length:=by have:(i:Int)<(y.len:Int):=h3;omega
   have hx:=Wn okm hi'
   have hz:=Wn okL' (k:=j+i) (by omega)
   refine Yy i hy1 rfl hi' λa ha=>⟨_,ha,?_⟩
   refine z4j rfl (by omega) (by omega) (Yy (j+i) ho1.rdW rfl (by omega) λa2 ha2=>⟨_,ha2,?_⟩)
   obtain⟨r,b,hr,hb,he,e1,e2⟩:=Z5g hx hd hc hz
   refine z4j rfl (by omega) (by omega) (zae (j+i) r ha0 ho1 rfl (by omega) e1 λh5 hl5 ho5=>⟨by decide,by decide,?_⟩)
   refine⟨⟨b,i+1,L'.set (j+i) r,?_,by omega,hb,hle.trans hl5,ho5,z3p okL' hr,by simp[hLL],by rw[zb5 (by omega)];exact htk,by rw[zb4 (by omega)];exact hdr,?_⟩,by simp only;rw[w64 (by omega)];omega⟩
   . rw[w64 (by simp only;omega)]
     simp only[Prod.mk.injEq,and_true]
     exact⟨e2,rfl⟩
   . have e3:=zcg (l:=L') (k:=j+i) (v:=r) (by omega)
     rw[qg hi']
     generalize vl (L'.set (j+i) r)=V at *
     generalize L'[j+i]=z at *
     generalize m[i]=x at *
     generalize vl (m.take i)=T at *
     generalize vl L'=V' at *
     generalize vl L=V0 at *
     have p1:W ^ (j+(i+1))=W ^ (j+i)*W:=by rw[<-Nat.add_assoc,Nat.pow_succ]
     have p2:W ^ (j+i)=W ^ j*W ^ i:=Nat.pow_add ..
     rw[p1]
     generalize W ^ (j+i)=P at *
     subst p2
     generalize W ^ j=Pj at *
     generalize W ^ i=Pi at *
     clear H e1 e2 hdr htk hLL okL' okL
     grind
 . have hi':i=m.length:=by have:¬(i:Int)<(y.len:Int):=h3;omega
   subst hi'
   have hz:=Wn okL' (k:=j+m.length) (by omega)
   rw[List.take_of_length_le (Nat.le_refl _)]at hv
   refine z4j (k:=m.length) (by omega) (by omega) (by omega) (Yy (j+m.length) ho1.rdW rfl (by omega) λa2 ha2=>⟨_,ha2,?_⟩)
   have key:∃r b:Nat,r<W/\b<=1/\L'[j+m.length]+W*b=r+c/\u32.wrap (u64.wrap (u64.wrap (L'[j+m.length]:Int)-(c:Int)))=(r:Int) /\
    (u64.wrap (u64.wrap (L'[j+m.length]:Int)-(c:Int))).fdiv (2 ^ (min (63:Int).toNat u64.bits))=(b:Int):=by
    rw[Z8f]
    simp only[zdr,zpm]
    unfold W at *
    generalize L'[j+m.length]=z at *
    clear H
    by_cases hb:c<=z
    . exact⟨z-c,0,by omega,by omega,by omega,by omega,by omega⟩
    . exact⟨z+4294967296-c,1,by omega,by omega,by omega,by omega,by omega⟩
   obtain⟨r,b,hr,hb,he,e1,e2⟩:=key
   refine z4j (k:=m.length) (by omega) (by omega) (by omega) (zae (j+m.length) r ha0 ho1 rfl (by omega) e1 λh5 hl5 ho5=>⟨by decide,?_⟩)
   simp only
   rw[e2]
   refine H h5 _ b (hle.trans hl5) ho5 (z3p okL' hr) (by simp[hLL]) (by rw[zb5 (by omega)];exact htk) (by rw[zb4 (by omega)];exact hdr) hb ?_
   have e3:=zcg (l:=L') (k:=j+m.length) (v:=r) (by omega)
   rw[Nat.pow_succ]
   generalize vl (L'.set (j+m.length) r)=V at *
   generalize L'[j+m.length]=z at *
   generalize W ^ (j+m.length)=P at *
   have e4:=congrArg (P*·) he
   simp only[Nat.mul_add]at e4
   rw[Nat.mul_assoc]
   omega
theorem zss(ha0:u.a=some a0)(ho:qi h0 h u L)(okL:okW L)(hy:RdW h y m)(okm:okW m)(hne:∀a,y.a=some a->a.block≠a0.block)(hj:j+m.length<L.length)(hL:L.length<=35184372088800+1)
 (H:∀h' L' c,LeX a0.block h h'->qi h0 h' u L'->okW L'->L'.length=L.length->L'.take j=L.take j->L'.drop (j+m.length+1)=L.drop (j+m.length+1)->c<=1 ->
   vl L'+W ^ (j+m.length+1)*c=vl L+W ^ j*vl m->Ku () h'):F.z1x (u.cut j (j+m.length+1) 1) y Ku h:=by
 unfold F.z1x
 have ly:=hy.len
 have lu:=ho.len
 have lc:=ho.2.2.1
 refine yx (λst h'=>∃(c i:Nat) (L':List Nat),st=((c:Int),(i:Int),())/\i<=m.length/\c<=1/\LeX a0.block h h'/\qi h0 h' u L'/\okW L'/\L'.length=L.length/\L'.take j=L.take j/\L'.drop (j+m.length+1)=L.drop (j+m.length+1) /\
  vl L'+W ^ (j+i)*c=vl L+W ^ j*vl (m.take i)) (λst=>((m.length:Int)-st.2.1).toNat) ⟨0,0,L,rfl,Nat.zero_le _,by omega,LeX.refl,ho,okL,rfl,rfl,rfl,by simp[vl]⟩ ?_
 rintro st h1 ⟨c,i,L',rfl,hi,hc,hle,ho1,okL',hLL,htk,hdr,hv⟩
 have hy1:=hy.leX hle hne
 refine ze (λh3=>?_) (λh3=>?_)
 . have hi':i<m.length:=by have:(i:Int)<(y.len:Int):=h3;omega
   have hx:=Wn okm hi'
   have hz:=Wn okL' (k:=j+i) (by omega)
   refine Yy i hy1 rfl hi' λa ha=>⟨_,ha,?_⟩
   refine z4j rfl (by omega) (by omega) (Yy (j+i) ho1.rdW rfl (by omega) λa2 ha2=>⟨_,ha2,?_⟩)
   have e0:u64.wrap ((c:Int)+u64.wrap (u64.wrap (L'[j+i]:Int)+u64.wrap (m[i]:Int)))=((c+(L'[j+i]+m[i]):Nat):Int):=by
    clear H
    unfold W at *
    simp only[zdr]
    omega
   simp only
   rw[e0]
   refine z4j rfl (by omega) (by omega) (zae (j+i) _ ha0 ho1 rfl (by omega) (zix _) λh5 hl5 ho5=>⟨by decide,?_⟩)
   rw[zkm]
   refine⟨⟨_,i+1,_,by rw[w64 (by omega)];rfl,by omega,?_,hle.trans hl5,ho5,z3p okL' (Nat.mod_lt _ V5),by simp[hLL],by rw[zb5 (by omega)];exact htk,by rw[zb4 (by omega)];exact hdr,?_⟩,by rw[w64 (by omega)];omega⟩
   . clear H;unfold W at *;omega
   . have e3:=zcg (l:=L') (k:=j+i) (v:=(c+(L'[j+i]+m[i])) % W) (by omega)
     have he:=Nat.mod_add_div (c+(L'[j+i]+m[i])) W
     rw[qg hi']
     generalize vl (L'.set (j+i) ((c+(L'[j+i]+m[i])) % W))=V at *
     generalize (c+(L'[j+i]+m[i])) % W=r at *
     generalize (c+(L'[j+i]+m[i]))/W=q at *
     generalize L'[j+i]=z at *
     generalize m[i]=x at *
     generalize vl (m.take i)=T at *
     generalize vl L'=V' at *
     generalize vl L=V0 at *
     have p1:W ^ (j+(i+1))=W ^ (j+i)*W:=by rw[<-Nat.add_assoc,Nat.pow_succ]
     have p2:W ^ (j+i)=W ^ j*W ^ i:=Nat.pow_add ..
     rw[p1]
     generalize W ^ (j+i)=P at *
     subst p2
     generalize W ^ j=Pj at *
     generalize W ^ i=Pi at *
     clear H e0 hdr htk hLL okL' okL
     grind
 . have hi':i=m.length:=by have:¬(i:Int)<(y.len:Int):=h3;omega
   subst hi'
   have hz:=Wn okL' (k:=j+m.length) (by omega)
   rw[List.take_of_length_le (Nat.le_refl _)]at hv
   refine z4j (k:=m.length) (by omega) (by omega) (by omega) (Yy (j+m.length) ho1.rdW rfl (by omega) λa2 ha2=>⟨_,ha2,?_⟩)
   have e1:u32.wrap ((L'[j+m.length]:Int)+u32.wrap (c:Int))=(((c+L'[j+m.length]) % W:Nat):Int):=by
    clear H
    unfold W at *
    simp only[zpm]
    omega
   refine z4j (k:=m.length) (by omega) (by omega) (by omega) (zae (j+m.length) _ ha0 ho1 rfl (by omega) e1 λh5 hl5 ho5=>?_)
   refine H h5 _ ((c+L'[j+m.length])/W) (hle.trans hl5) ho5 (z3p okL' (Nat.mod_lt _ V5)) (by simp[hLL]) (by rw[zb5 (by omega)];exact htk) (by rw[zb4 (by omega)];exact hdr) (by clear H;unfold W at *;omega) ?_
   have e3:=zcg (l:=L') (k:=j+m.length) (v:=(c+L'[j+m.length]) % W) (by omega)
   have he:=Nat.mod_add_div (c+L'[j+m.length]) W
   rw[Nat.pow_succ]
   generalize vl (L'.set (j+m.length) ((c+L'[j+m.length]) % W))=V at *
   generalize (c+L'[j+m.length]) % W=r at *
   generalize (c+L'[j+m.length])/W=q at *
   generalize L'[j+m.length]=z at *
   generalize W ^ (j+m.length)=P at *
   have e4:=congrArg (P*·) he
   simp only[Nat.mul_add]at e4
   rw[Nat.mul_assoc]
   omega
end
end Den
end

section
set_option maxRecDepth 4000
namespace Iv
theorem ziy{l:List Nat}{n:Nat}(hl:l.length=n+1):vl l=vl (l.take n)+W ^ n*l[n]:=by
 have:=qg (l:=l) (k:=n) (by omega)
 rw[List.take_of_length_le (by omega)]at this
 exact this
theorem Zc5{B n:Nat}(hn:(dg B).length=n+1):(dg B)[n]≠0:=by
 intro h0
 have h1:=ziy hn
 rw[h0,Nat.mul_zero,Nat.add_zero,Yz]at h1
 have h2:=zdo (z8p (qu B) n)
 rw[List.length_take,Nat.min_eq_left (by omega)]at h2
 have:=Xp.2 (show B<W ^ n by omega)
 omega
theorem zuf{B:Nat}(h:(dg B).length=1):dg B=[B]:=by
 have h1:=Yz B
 match hd:dg B,h with
 | [x],_=>
   rw[hd]at h1
   simp only[vl,Nat.mul_zero,Nat.add_zero]at h1
   rw[h1]
open Den in
theorem Z4n{B n:Nat}(hn:(dg B).length=n+1):∃s,s=32-bl (dg B)[n]/\bl (dg B)[n]<=32/\s<=31/\W ^ n*2147483648<=B*2 ^ s/\B*2 ^ s<W ^ (n+1):=by
 have h0:=Zc5 hn
 have h1:=zyb h0
 have h2:bl (dg B)[n]<=32:=zne (Wn (qu B) (by omega))
 have h3:=Z9q (dg B)[n]
 have h4:=Z9p h0
 have h5:=ziy hn
 rw[Yz]at h5
 have h6:=zdo (z8p (qu B) n)
 rw[List.length_take,Nat.min_eq_left (by omega)]at h6
 generalize (dg B)[n]=t at *
 refine⟨32-bl t,rfl,h2,by omega,?_,?_⟩
 . have e1:2147483648=2 ^ (bl t-1)*2 ^ (32-bl t):=by
    rw[<-Nat.pow_add,show bl t-1+(32-bl t)=31 by omega]
   rw[e1,<-Nat.mul_assoc]
   refine Nat.mul_le_mul_right _ ?_
   have:=Nat.mul_le_mul_left (W ^ n) h4
   omega
 . have e1:W ^ (n+1)=W ^ n*2 ^ bl t*2 ^ (32-bl t):=by
    rw[Nat.mul_assoc,<-Nat.pow_add,show bl t+(32-bl t)=32 by omega,Nat.pow_succ];rfl
   rw[e1]
   refine Nat.mul_lt_mul_of_pos_right ?_ (Nat.two_pow_pos _)
   have:=Nat.mul_le_mul_left (W ^ n) h3
   rw[Nat.mul_succ]at this
   omega
theorem win{U U1:List Nat}{j e b Y:Nat}(hl:U1.length=U.length)(hj:j<=U.length)(ht:U1.take j=U.take j)(hv:vl U1+W ^ j*Y=vl U+W ^ (j+e)*b) :
 vl (U1.drop j)+Y=vl (U.drop j)+W ^ e*b:=by
 have h1:=Xe hj
 have h2:=Xe (l:=U1) (k:=j) (by omega)
 rw[ht]at h2
 rw[h1,h2,Nat.pow_add,Nat.mul_assoc]at hv
 have h3:W ^ j*(vl (U1.drop j)+Y)=W ^ j*(vl (U.drop j)+W ^ e*b):=by
  rw[Nat.mul_add,Nat.mul_add];omega
 exact Nat.eq_of_mul_eq_mul_left (Nat.pow_pos V5) h3
theorem Z7l{U U1:List Nat}{j e:Nat}(ok:okW U1)(hj:j+e<=U1.length)(hd:U1.drop (j+e)=U.drop (j+e))(h0:vl (U.drop (j+e))=0):vl (U1.drop j)<W ^ e:=by
 have h1:=Xe (l:=U1.drop j) (k:=e) (by rw[List.length_drop];omega)
 rw[List.drop_drop,hd,h0,Nat.mul_zero,Nat.add_zero]at h1
 rw[h1]
 have h2:=zdo (z8p (zm9 ok j) e)
 rw[List.length_take,List.length_drop,Nat.min_eq_left (by omega)]at h2
 exact h2
theorem Z9m{U:List Nat}{j n:Nat}(ok:okW U)(hj:j+n+3<=U.length)(h0:vl (U.drop (j+(n+3)))=0) :
 ∃lo,lo<W ^ n/\vl (U.drop j)=((U.getD (j+(n+2)) 0*W+U.getD (j+(n+1)) 0)*W+U.getD (j+n) 0)*W ^ n+lo:=by
 have h1:=Xe (l:=U.drop j) (k:=n+3) (by rw[List.length_drop];omega)
 rw[List.drop_drop,h0,Nat.mul_zero,Nat.add_zero]at h1
 obtain⟨P,lo,e1,e2,e3⟩:=Zla (l:=(U.drop j).take (n+3)) (n:=n) (z8p (zm9 ok j) _) (by rw[List.length_take,List.length_drop];omega)
 subst e1
 have g:∀i,i<n+3->((U.drop j).take (n+3)).getD i 0=U.getD (j+i) 0:=λi hi=>by
  simp only[List.getD_eq_getElem?_getD,List.getElem?_take,hi,if_true,List.getElem?_drop]
 rw[g _ (by omega),g _ (by omega),g _ (by omega)]at e3
 exact⟨lo,e2,h1.trans e3⟩
theorem Zkj{X V P w v1 v2 un:Nat}(hX:un*w*w*P<=X)(hV:V<=(v1*w+v2+1)*P)(hlt:X<V*w)(hv2:v2<w):un<=v1:=by
 rcases Nat.lt_or_ge v1 un with h | h
 . exfalso
   have h1:v1*w+v2+1<=un*w:=by
    have:(v1+1)*w<=un*w:=Nat.mul_le_mul_right _ h
    rw[Nat.add_mul]at this;omega
   have h2:(v1*w+v2+1)*P<=un*w*P:=Nat.mul_le_mul_right _ h1
   have h3:V*w<=un*w*P*w:=Nat.mul_le_mul_right _ (Nat.le_trans hV h2)
   have h4:un*w*P*w=un*w*w*P:=by rw[Nat.mul_assoc (un*w),Nat.mul_comm P w,<-Nat.mul_assoc]
   omega
 . exact h
theorem Z3w{U:List Nat}{A s N n V:Nat}(hU:U.length=N+1)(hv:vl U=A*2 ^ s)(hA:A<W ^ N)(hs:s<=31)(hn:n+1<=N)(hV:W ^ n*2147483648<=V):vl (U.drop (N-n))<V:=by
 have h1:=Xe (l:=U) (k:=N-n) (by omega)
 have h2:vl U<W ^ N*2147483648:=by
  rw[hv]
  exact Nat.mul_lt_mul_of_lt_of_le hA (Nat.pow_le_pow_right (n:=2) (by decide) hs) (by decide)
 have h3:W ^ N=W ^ (N-n)*W ^ n:=by rw[<-Nat.pow_add];congr 1;omega
 rw[h3,Nat.mul_assoc]at h2
 have h4:W ^ (N-n)*vl (U.drop (N-n))<W ^ (N-n)*V:=by
  have:=Nat.mul_le_mul_left (W ^ (N-n)) hV
  omega
 exact Nat.lt_of_mul_lt_mul_left h4
theorem ks0{L1:List Nat}{X V qh j e:Nat}(hV:0<V)(hq:X/V<=qh)(hw:vl (L1.drop j)+qh*V=X+W ^ e*0):qh=X/V/\vl (L1.drop j)<V:=by
 rw[Nat.mul_zero,Nat.add_zero]at hw
 have h1:qh*V<=X:=by omega
 have h2:=(Nat.le_div_iff_mul_le hV).2 h1
 obtain rfl:qh=X/V:=Nat.le_antisymm h2 hq
 refine⟨rfl,?_⟩
 have h3:=Nat.mod_add_div' X V
 have h4:=Nat.mod_lt X hV
 omega
theorem ks1{L L1 L2:List Nat}{X V qh j e c:Nat}(hV:0<V)(hq:X/V<=qh)(hq2:qh<=X/V+1)(hX:vl (L.drop j)=X)(hl1:L1.length=L.length)(hl2:L2.length=L1.length)(hj:j<=L.length)
 (ht1:L1.take j=L.take j) (ht2:L2.take j=L1.take j) (hw:vl (L1.drop j)+qh*V=X+W ^ e*1) (hlt1:vl (L1.drop j)<W ^ e) (hlt2:vl (L2.drop j)<W ^ e) (hc:c<=1)
 (hr:vl L2+W ^ (j+e)*c=vl L1+W ^ j*V):qh=X/V+1/\vl L2+W ^ j*(X/V*V)=vl L/\vl (L2.drop j)<V:=by
 rw[Nat.mul_one]at hw
 have hmd:=Nat.div_mul_le_self X V
 have h1:qh=X/V+1:=by
  rcases Nat.lt_or_ge (X/V) qh with h | h
  . omega
  . obtain rfl:qh=X/V:=Nat.le_antisymm h hq
    omega
 subst h1
 have k0:=Xe hj
 have k1:=Xe (l:=L1) (k:=j) (by omega)
 have k2:=Xe (l:=L2) (k:=j) (by omega)
 rw[hX]at k0
 rw[ht2]at k2
 rw[ht1]at k1 k2
 have h3:vl (L2.drop j)+W ^ e*c=vl (L1.drop j)+V:=by
  have e1:W ^ j*(vl (L2.drop j)+W ^ e*c)=W ^ j*(vl (L1.drop j)+V):=by
   rw[Nat.mul_add,Nat.mul_add,<-Nat.mul_assoc (W ^ j),<-Nat.pow_add]
   rw[k1,k2]at hr
   omega
  exact Nat.eq_of_mul_eq_mul_left (Nat.pow_pos V5) e1
 rw[Nat.add_mul]at hw
 have hc1:c=1:=by
  rcases Nat.eq_zero_or_pos c with h | h
  . subst h;rw[Nat.mul_zero,Nat.add_zero]at h3;omega
  . omega
 subst hc1
 have hf:vl (L2.drop j)+X/V*V=X:=by omega
 refine⟨rfl,?_,?_⟩
 . rw[k2,k0]
   have:=congrArg (W ^ j*·) hf
   simp only[Nat.mul_add]at this
   omega
 . have h5:=Nat.mod_add_div' X V
   have h6:=Nat.mod_lt X hV
   omega
theorem zwb{X V P v1 v2 un un1 un2:Nat}(hP:0<P)(hv1:0<v1)(hV:(v1*W+v2)*P<=V)(hX:X<((un*W+un1)*W+un2+1)*P)(hu:un2<W):X/V<=(un*W+un1)/v1:=by
 rw[Nat.le_div_iff_mul_le hv1]
 have h5:X/V*V<=X:=Nat.div_mul_le_self X V
 have h6:X/V*(v1*W*P)<=X/V*V:=Nat.mul_le_mul_left _ (Nat.le_trans (Nat.mul_le_mul_right _ (Nat.le_add_right _ v2)) hV)
 have h7:X/V*v1*(W*P)<(un*W+un1+1)*(W*P):=by
  have e1:X/V*(v1*W*P)=X/V*v1*(W*P):=by rw[Nat.mul_assoc v1,<-Nat.mul_assoc]
  have e2:((un*W+un1)*W+un2+1)*P<=(un*W+un1+1)*(W*P):=by
   rw[<-Nat.mul_assoc]
   refine Nat.mul_le_mul_right _ ?_
   rw[Nat.add_mul _ 1];omega
  omega
 have:=Nat.lt_of_mul_lt_mul_right h7
 omega
theorem Z7m{L:List Nat}{j V:Nat}(ok:okW L)(hj:j<L.length)(hlt:vl (L.drop (j+1))<V):vl (L.drop j)<V*W:=by
 rw[List.drop_eq_getElem_cons hj]
 simp only[vl]
 have:=Wn ok hj
 have h5:W*(vl (L.drop (j+1))+1)<=W*V:=Nat.mul_le_mul_left _ hlt
 rw[Nat.mul_add,Nat.mul_comm W V]at h5
 omega
theorem Z6q{V v1 v2 lo n:Nat}(hV:W ^ (n+1)*2147483648<=V)(hV2:V=(v1*W+v2)*W ^ n+lo)(hlo:lo<W ^ n)(hv2:v2<W):W<=2*v1:=by
 have e1:W ^ (n+1)*2147483648<(v1+1)*W ^ (n+1):=by
  refine Nat.lt_of_le_of_lt hV ?_
  rw[hV2,Nat.pow_succ,Nat.add_mul,Nat.add_mul]
  have:v2*W ^ n+W ^ n<=W ^ n*W:=by
   rw[<-Nat.succ_mul,Nat.mul_comm];exact Nat.mul_le_mul_left _ hv2
  rw[Nat.mul_assoc _ W,Nat.mul_comm W]
  omega
 rw[Nat.mul_comm]at e1
 have:=Nat.lt_of_mul_lt_mul_right e1
 unfold W;omega
theorem zyz{A V s k j q:Nat}{L L2 r:List Nat}(hk:k=j+1)(hval:A*2 ^ s=V*(W ^ k*vl (r.drop k))+vl L)(hv:vl L2+W ^ j*(q*V)=vl L)(hj:j<r.length) :
 A*2 ^ s=V*(W ^ j*vl ((r.set j q).drop j))+vl L2:=by
 subst hk
 rw[List.drop_eq_getElem_cons (l:=r.set j q) (by simpa using hj),List.getElem_set_self,List.drop_set_of_lt (by omega)]
 simp only[vl]
 rw[hval,<-hv,Nat.pow_succ,Nat.mul_add,Nat.mul_add,Nat.mul_assoc (W ^ j)]
 have e1:V*(W ^ j*q)=W ^ j*(q*V):=by
  rw[Nat.mul_comm V,Nat.mul_assoc]
 omega
theorem Z4m{V n:Nat}(hVl:W ^ (n+1)*2147483648<=V)(hVu:V<W ^ (n+2)):(dg V).length=n+2:=by
 have e1:=Xp.2 hVu
 have e2:W ^ (n+1)<=V:=Nat.le_trans (Nat.le_mul_of_pos_right _ (by decide)) hVl
 rcases Nat.lt_or_ge (dg V).length (n+2)with h3 | h3
 . exfalso
   have:=(Xp (n:=V) (k:=n+1)).1 (by omega)
   omega
 . omega
end Iv
namespace Den
open Go Iv
def zei:ByteArray:=zL4
theorem zsb:∀i:Fin 256,(BS zei)[i.val]?=some (bl i.val).toUInt8:=by decide +kernel
theorem bl8:∀i:Fin 256,((bl i.val).toUInt8).toNat=bl i.val:=by decide +kernel
theorem zsc{c:Nat}{K:Int->Prop}{i:Int}(hc:c<256)(hi:i=c)(H:K ((bl c:Nat):Int)):Qs zei i K:=by
 have h1:=zsb ⟨c,hc⟩
 have h2:=bl8 ⟨c,hc⟩
 simp only at h1 h2
 have hlen:c<(BS zei).length:=by
  rcases Nat.lt_or_ge c (BS zei).length with h | h
  . exact h
  . rw[List.getElem?_eq_none h]at h1;cases h1
 have h3:(BS zei)[c]=(bl c).toUInt8:=by
  rw[List.getElem?_eq_getElem hlen]at h1
  exact Option.some.inj h1
 refine zaf (k:=c) (c:=(bl c).toUInt8) (r:=(BS zei).drop (c+1)) ?_ hi ?_
 . rw[List.drop_eq_getElem_cons hlen,h3]
 . rw[h2];exact H
section
variable {h : Hp} {x y : Sl} {l m : List Nat} {Ks : Sl → Hp → Prop} {Ki : Int → Hp → Prop}
theorem zpz{t:Nat}(ht:t<W)(H:Ki ((bl t:Nat):Int) h):zc (F.z1y (t:Int)) Ki h:=by
 refine Zf _ (λK' hk=>?_) H
 unfold F.z1y
 have p8:∀n:Nat,((n:Int)).fdiv (2 ^ (min (8:Int).toNat u32.bits))=((n/2 ^ 8:Nat):Int):=λn=>zml (s:=8) (by omega)
 have p16:∀n:Nat,((n:Int)).fdiv (2 ^ (min (16:Int).toNat u32.bits))=((n/2 ^ 16:Nat):Int):=λn=>zml (s:=16) (by omega)
 refine zk (λs h'=>h'=h/\∃a b:Nat,s=((a:Int),(b:Int),())/\a<65536/\b<=16/\bl t=bl a+b) ?_ ?_
 . rintro _ h' ⟨rfl,a,b,rfl,ha,hb,he⟩
   refine zk (λs h2=>h2=h'/\∃c d:Nat,s=((c:Int),(d:Int),())/\c<256/\d<=24/\bl t=bl c+d) ?_ ?_
   . rintro _ h2 ⟨rfl,c,d,rfl,hc,hd,he2⟩
     have hbl:bl c<=32:=zne (by omega)
     refine zsc (c:=c) hc ?_ ?_
     . simp[IntKind.wrap,IntKind.signed,IntKind.bits];omega
     . simp only
       rw[Zj9 (by omega),show(d:Int)+((bl c:Nat):Int)=((bl t:Nat):Int)by omega,Zj9 (by omega)]
       exact hk
   . refine ze (λh1=>⟨by decide,?_⟩) (λh1=>?_)
     . have h2:a>=256:=by simp only at h1;omega
       refine⟨by trivial,a/2 ^ 8,b+8,?_,by omega,by omega,?_⟩
       . simp only
         rw[p8,w64 (by omega)];rfl
       . rw[he,znf (n:=a) (k:=8) h2];omega
     . have h2:a<256:=by simp only at h1;omega
       exact⟨by trivial,a,b,rfl,h2,by omega,he⟩
 . refine ze (λh1=>⟨by decide,?_⟩) (λh1=>?_)
   . have h2:t>=65536:=by omega
     refine⟨rfl,t/2 ^ 16,16,?_,by unfold W at ht;omega,by omega,?_⟩
     . rw[p16];rfl
     . rw[znf (n:=t) (k:=16) h2]
   . have h2:t<65536:=by omega
     exact⟨rfl,t,0,rfl,h2,by omega,rfl⟩
theorem zb8{t:Nat}(ht:t<W)(hb:bl t<=32)(H:Ki ((32-bl t:Nat):Int) h):zc (F.Xa (t:Int)) Ki h:=by
 refine Zf _ (λK' hk=>?_) H
 unfold F.Xa
 refine zpz ht ?_
 rw[w64 (by omega),show(32:Int)-((bl t:Nat):Int)=((32-bl t:Nat):Int)by omega]
 exact hk
end
end Den
end

section
set_option maxHeartbeats 4000000
namespace Den
open Go Iv
theorem Own.some{h0 h:Hp}{x:Sl}{l:List Nat}(ho:qi h0 h x l)(hl:0<l.length):∃a,x.a=some a/\h0 a.block=none/\h a.block≠none:=by
 have hlen:=ho.len
 obtain⟨h1,h2,h3,h4⟩:=ho
 cases ha:x.a with
 | none=>rw[ha]at h4;simp only at h4;omega
 | some a=>
   rw[ha]at h4
   obtain⟨_,_,g3,b,g4,_⟩:=h4
   exact⟨a,rfl,g3,by rw[g4];exact λhh=>by cases hh⟩
section
variable {h : Hp} {x y : Sl} {l m : List Nat} {Ks : Sl → Hp → Prop} {Ki : Int → Hp → Prop} {Kp : (Sl × Sl) → Hp → Prop}
theorem zx8(q:Nat):(((q+1:Nat):Int)-1)=(q:Int):=by omega
theorem z6c{i:Int}{Ka:Addr->Prop}(k:Nat)(hr:RdW h x l)(hi:i=k)(hk:k<l.length)
 (H:∀a,h.cell a=some (.int .u32 ((l.getD k 0:Nat):Int))->Ka a):zg x i 1 Ka:=
 Yy k hr hi hk λa ha=>H a (by rw[z7q hk];exact ha)
theorem zw1{A B:Nat}(hx:RdW h x (dg A))(hy:RdW h y (dg B))(hB:B≠0)(hl:(dg A).length<=35184372088000)(hl2:(dg B).length<=35184372088000)
 (H:∀q r h',h.le h'->RdW h' q (dg (A/B))->RdW h' r (dg (A % B))->Kp (q,r) h'):F.X8 x y Kp h:=by
 unfold F.X8
 have lx:=hx.len
 have ly:=hy.len
 refine z8d hx hy (by omega) (by omega) ?_
 unfold zl6
 by_cases hAB:A<B
 . rw[if_pos hAB]
   refine y7 rfl ?_
   refine zbv hx (by omega) λz h1 hl1 hz=>H _ _ _ hl1 ?_ ?_
   . rw[Nat.div_eq_of_lt hAB,Q0];exact RdW.nil
   . rw[Nat.mod_eq_of_lt hAB];exact hz
 rw[if_neg hAB]
 refine zt (by split<;>rfl) ?_
 have hBl:=z5d (Nat.le_of_not_lt hAB)
 have hB0:(dg B).length≠0:=λh0=>hB (z2r.1 (List.length_eq_zero_iff.1 h0))
 refine ze (λh1=>?_) (λh1=>?_)
 . refine z79 hx (qu A) (by omega) λh2 hl2=>?_
   refine z79 (hy.le hl2) (qu B) (by omega) λh3 hl3=>?_
   rw[Yz,Yz]
   have hA64:A<18446744073709551616:=by
    have:=(Xp (n:=A) (k:=2)).1 (by omega)
    have e:W ^ 2=18446744073709551616:=by decide
    omega
   have hq:A/B<=A:=Nat.div_le_self A B
   have hr:A % B<=A:=Nat.mod_le A B
   refine⟨by omega,by omega,?_⟩
   rw[Z6m,zph,z84 (by omega)]
   refine z1i rfl (by omega) λz h4 hl4 hz=>z1i rfl (by omega) λw h5 hl5 hw=>?_
   exact H _ _ _ (Hp.le_trans hl2 (Hp.le_trans hl3 (Hp.le_trans hl4 hl5))) (hz.le hl5) hw
 refine zz (λh2=>?_) (λh2=>?_)
 . have hB1:=zuf (B:=B) (by omega)
   have hBW:B<W:=by
    have:=qu B B (by rw[hB1];exact List.mem_singleton.2 rfl)
    exact this
   refine z6c 0 hy rfl (by omega) λa ha=>⟨_,ha,?_⟩
   have e0:(dg B).getD 0 0=B:=by rw[hB1];rfl
   rw[e0]
   refine zg3 hx (qu A) (Nat.pos_of_ne_zero hB) hBW (by omega) λz w h3 hl3 hz hw=>?_
   rw[Yz]at hz hw
   exact H _ _ _ hl3 hz hw
 obtain⟨n,hn⟩:∃n,(dg B).length=n+2:=⟨(dg B).length-2,by omega⟩
 obtain⟨N,hN⟩:∃N,(dg A).length=N:=⟨_,rfl⟩
 obtain⟨s,hs,hbl,hs31,hVl,hVu⟩:=Z4n (B:=B) (n:=n+1) hn
 refine Yy (n+1) hy (by rw[ly,hn,w64 (by omega)];omega) (by omega) λa ha=>⟨_,ha,?_⟩
 have htW:=Wn (qu B) (k:=n+1) (by omega)
 refine zb8 htW hbl ?_
 rw[<-hs]
 refine zp7 hx (qu A) hs31 (by omega) λu h9 U ho9 okU hUl hUv=>?_
 rw[Yz]at hUv
 refine zp7 (hy.le ho9.1) (qu B) hs31 (by omega) λv0 h10 V0 ho10 okV0 hV0l hV0v=>?_
 rw[Yz]at hV0v
 refine ztx ho10.rdW (by omega) λv hv hsub=>?_
 rw[V4 okV0,hV0v]at hv
 generalize hV:B*2 ^ s=V at *
 have hVpos:0<V:=Nat.lt_of_lt_of_le (Nat.mul_pos (Nat.pow_pos V5) (by decide)) hVl
 have hVn:(dg V).length=n+2:=Z4m hVl hVu
 have lu:=ho9.len
 have lv:=hv.len
 have hN2:n+2<=N:=by omega
 refine z8l (N-n-1) (N-n-1) (by rw[lu,lv,w64 (by omega)];omega) (by rw[lu,lv,w64 (by omega)];omega) (by omega) (by omega) λq h12 hq ho12=>?_
 obtain⟨a13,ha13,hb13,hc13⟩:=Own.some ho9 (by omega)
 obtain⟨a16,ha16,hb16,hc16⟩:=Own.some ho12 (by simp;omega)
 have hlh:h.le h10:=Hp.le_trans ho9.1 ho10.1
 have hb16h:h a16.block=none:=Hp.none_of_le hlh hb16
 have ne16:a13.block≠a16.block:=λhh=>by
  have h3:=Hp.none_of_le ho10.1 hb16
  rw[<-hh]at h3;exact hc13 h3
 have hvne:∀a,v.a=some a->a.block≠a13.block/\a.block≠a16.block:=λa ha=>by
  obtain⟨a',h3,h4⟩:=hsub a ha
  rw[h4]
  constructor
  . exact zn9 ho9 ho10 a13 a' ha13 h3 |>.symm
  . exact zn9 ho10 ho12 a' a16 h3 ha16
 have hne13:∀a,v.a=some a->a.block≠a13.block:=λa ha=>(hvne a ha).1
 have hne16:∀a,v.a=some a->a.block≠a16.block:=λa ha=>(hvne a ha).2
 have hu16:∀a,u.a=some a->a.block≠a16.block:=λa ha=>by rw[ha13]at ha;cases ha;exact ne16
 have hq13:∀a,q.a=some a->a.block≠a13.block:=λa ha=>by rw[ha16]at ha;cases ha;exact ne16.symm
 have hou:qi h h12 u U:=(ho9.le ho10.1).le ho12.1
 have hoq:qi h h12 q (List.replicate (N-n-1) 0):=ho12.base hlh
 have hv12:RdW h12 v (dg V):=hv.le ho12.1
 obtain⟨P,lo2,hP,hlo2,hVtop,_⟩:=Zkg (qu V) (n:=n) hVn
 rw[Yz]at hVtop
 have hv1:(dg V).getD (n+1) 0<W:=z8g (qu V) _
 have hv2:(dg V).getD n 0<W:=z8g (qu V) _
 refine z6c (n+1) hv12 (by rw[lv,hVn,w64 (by omega)];omega) (by omega) λa1 ha1=>⟨_,ha1,?_⟩
 refine z6c n hv12 (by rw[lv,hVn,w64 (by omega)];omega) (by omega) λa2 ha2=>⟨_,ha2,?_⟩
 generalize hgv1:(dg V).getD (n+1) 0=v1 at *
 generalize hgv2:(dg V).getD n 0=v2 at *
 subst hP
 have hv1b:W<=2*v1:=Z6q hVl hVtop hlo2 hv2
 have hAl:A<W ^ N:=Xp.1 (by omega)
 have hfirst:vl (U.drop (N-(n+1)))<V:=Z3w (n:=n+1) (by omega) hUv hAl hs31 (by omega) hVl
 refine yx (λst h'=>∃(k:Nat) (L r:List Nat),st=((k:Int)-1,())/\k<=N-n-1/\qi h h' u L/\okW L/\L.length=N+1/\qi h h' q r/\okW r/\r.length=N-n-1/\RdW h' v (dg V) /\
  vl (L.drop k)<V/\A*2 ^ s=V*(W ^ k*vl (r.drop k))+vl L) (λst=>(st.1+1).toNat)
  ⟨N-n-1,U,_,by rw[hq,w64 (by omega)],Nat.le_refl _,hou,okU,by omega,hoq,zem _,by simp,hv12,by rw[show N-n-1=N-(n+1)by omega];exact hfirst,by rw[List.drop_eq_nil_of_le (by simp),hUv];simp[vl]⟩ ?_
 rintro st h3 ⟨k,L,r,rfl,hk,hoL,okL,hLl,hor,okr,hrl,hv3,hlt,hval⟩
 have llu:=hoL.len
 have hucap:=hoL.2.2.1
 refine ze (λh4=>?_) (λh4=>?_)
 . obtain⟨j,rfl⟩:∃j,k=j+1:=⟨k-1,by have:(k:Int)-1>=0:=h4;omega⟩
   have hji:((j+1:Nat):Int)-1=(j:Int):=by omega
   have wj:i64.wrap ((j:Int)+(v.len:Int))=((j+(n+2):Nat):Int):=by rw[lv,hVn,w64 (by omega)];omega
   have wj1:i64.wrap (((j+(n+2):Nat):Int)-1)=((j+(n+1):Nat):Int):=by rw[w64 (by omega)];omega
   have wj2:i64.wrap (((j+(n+2):Nat):Int)-2)=((j+n:Nat):Int):=by rw[w64 (by omega)];omega
   have wj3:i64.wrap (((j+(n+2):Nat):Int)+1)=((j+(n+2)+1:Nat):Int):=by rw[w64 (by omega)];omega
   simp only[hji,wj,wj1,wj2,wj3]
   have hlt2:vl (L.drop (j+1))<W ^ (n+2):=Nat.lt_trans hlt hVu
   have hz0:vl (L.drop (j+(n+3)))=0:=by
    have:=zdn okL hlt2
    rw[show j+1+(n+2)=j+(n+3)by omega]at this
    exact this
   obtain⟨lo,hlo,hX⟩:=Z9m (n:=n) okL (j:=j) (by omega) hz0
   have hun:L.getD (j+(n+2)) 0<W:=z8g okL _
   have hun1:L.getD (j+(n+1)) 0<W:=z8g okL _
   have hun2:L.getD (j+n) 0<W:=z8g okL _
   have hXV:vl (L.drop j)<V*W:=Z7m okL (by omega) hlt
   refine z6c (j+(n+2)) hoL.rdW rfl (by omega) λa3 ha3=>⟨_,ha3,by decide,?_⟩
   refine z6c (j+(n+1)) hoL.rdW rfl (by omega) λa4 ha4=>⟨_,ha4,?_⟩
   generalize hX0:vl (L.drop j)=X at *
   generalize L.getD (j+(n+2)) 0=un at *
   generalize L.getD (j+(n+1)) 0=un1 at *
   generalize hun2e:L.getD (j+n) 0=un2 at *
   have hv1p:0<v1:=by unfold W at hv1b;omega
   have hv1ne:u64.wrap (v1:Int)≠0:=by rw[zjk hv1];omega
   have hnum:un*W+un1<18446744073709551616:=by unfold W at *;omega
   rw[zjk hun,zx4 hun hun1,zjk hv1,Z6m,zph,z84 (n:=(un*W+un1)/v1) (Nat.lt_of_le_of_lt (Nat.div_le_self _ _) hnum)]
   refine⟨by omega,by omega,?_⟩
   have hPpos:0<W ^ n:=Nat.pow_pos V5
   have hVle:(v1*W+v2)*W ^ n<=V:=by rw[hVtop];omega
   have hVlt:V<(v1*W+v2+1)*W ^ n:=by rw[hVtop,Nat.add_mul _ 1];omega
   have hXle:((un*W+un1)*W+un2)*W ^ n<=X:=by omega
   have hXlt:X<((un*W+un1)*W+un2+1)*W ^ n:=by rw[Nat.add_mul _ 1];omega
   have hunv:un<=v1:=by
    refine Zkj (X:=X) (V:=V) (P:=W ^ n) (w:=W) (v1:=v1) (v2:=v2) ?_ (Nat.le_of_lt hVlt) hXV hv2
    refine Nat.le_trans (Nat.mul_le_mul_right _ ?_) hXle
    rw[Nat.add_mul];omega
   have hqW:X/V<W:=(Nat.div_lt_iff_lt_mul hVpos).2 (by rw[Nat.mul_comm];exact hXV)
   refine zk (λst h'=>h'=h3/\∃qh:Nat,st=((qh:Int),())/\qh<W/\X/V<=qh/\qh<=X/V+1) ?_ ?_
   . rintro _ h' ⟨rfl,qh,rfl,hqh,hq1,hq2⟩
     refine zk (λst h5=>st=(((X/V:Nat):Int),())/\∃L2,LeX a13.block h' h5/\qi h h5 u L2/\okW L2/\L2.length=N+1/\vl L2+W ^ j*(X/V*V)=vl L/\vl (L2.drop j)<V) ?_ ?_
     . rintro _ h5 ⟨rfl,L2,hle5,hoL2,okL2,hL2l,hv2L,hL2V⟩
       have hor5:qi h h5 q r:=hor.leX hle5 hb13 hq13
       refine zae j (X/V) ha16 hor5 rfl (by omega) (zvf hqW) λh6 hl6 ho6=>?_
       exact⟨⟨j,L2,_,by rw[w64 (by omega)],by omega,hoL2.leX hl6 hb16h hu16,okL2,hL2l,ho6,z3p okr hqW,by simp[hrl],(hv3.leX hle5 hne13).leX hl6 hne16,hL2V,zyz rfl hval hv2L (by omega)⟩,by rw[w64 (by omega)];omega⟩
     . refine zt2 j (j+(n+2)+1) rfl rfl (by omega) (by omega) ?_
       refine Qh ?_
       have e0:j+(n+2)+1=j+(dg V).length+1:=by omega
       rw[e0]
       refine Zdt ha13 hoL okL hv3 (qu V) hne13 (by omega) hqh (by omega) λh6 L1 b hle6 hoL1 okL1 hL1l htk hdr hb hsv=>?_
       rw[Yz,hVn]at hsv
       rw[hVn]at hdr
       have hwin:=win (e:=n+2+1) hL1l (by omega) htk (by rw[<-Nat.add_assoc];exact hsv)
       rw[hX0]at hwin
       have hlt1:vl (L1.drop j)<W ^ (n+2+1):=Z7l okL1 (by omega) (by rw[<-Nat.add_assoc];exact hdr) hz0
       refine zz (λhb1=>?_) (λhb1=>?_)
       . obtain rfl:b=1:=by omega
         refine zt2 j (j+(dg V).length+1) rfl (by rw[hVn]) (by omega) (by have:=hoL1.2.2.1;have:=hoL1.len;omega) ?_
         refine Qh ?_
         refine zss ha13 hoL1 okL1 (hv3.leX hle6 hne13) (qu V) hne13 (by omega) (by omega) λh7 L2 c hle7 hoL2 okL2 hL2l htk2 hdr2 hc hrv=>?_
         rw[Yz,hVn]at hrv
         rw[hVn]at hdr2
         have hz1:vl (L1.drop (j+(n+2+1)))=0:=by rw[<-Nat.add_assoc,hdr,Nat.add_assoc];exact hz0
         have hlt2:vl (L2.drop j)<W ^ (n+2+1):=Z7l okL2 (by omega) (by rw[<-Nat.add_assoc];exact hdr2) hz1
         obtain⟨rfl,g2,g3⟩:=ks1 hVpos hq1 hq2 hX0 hL1l hL2l (by omega) htk htk2 hwin hlt1 hlt2 hc (by rw[<-Nat.add_assoc];exact hrv)
         refine⟨?_,L2,hle6.trans hle7,hoL2,okL2,by rw[hL2l,hL1l,hLl],g2,g3⟩
         simp only
         rw[zx8,zjk hqW]
       . obtain rfl:b=0:=by omega
         obtain⟨rfl,g2⟩:=ks0 hVpos hq1 hwin
         refine⟨rfl,L1,hle6,hoL1,okL1,by rw[hL1l,hLl],?_,g2⟩
         rw[Nat.mul_zero,Nat.add_zero]at hsv;exact hsv
   . 
    refine yx (λst h'=>h'=h3/\∃qh rh:Nat,st=((qh:Int),(rh:Int),())/\qh*v1+rh=un*W+un1/\rh<W/\X/V<=qh/\qh<18446744073709551616) (λst=>st.1.toNat) ⟨rfl,_,_,rfl,by rw[Nat.mul_comm];exact Nat.div_add_mod _ _,Nat.lt_of_lt_of_le (Nat.mod_lt _ hv1p) (Nat.le_of_lt hv1),?_,Nat.lt_of_le_of_lt (Nat.div_le_self _ _) hnum⟩ ?_
    . exact zwb hPpos hv1p hVle hXlt hun2
    . rintro _ h' ⟨rfl,qh,rh,rfl,hqr,hrh,hq1,hq64⟩
      refine zk (λ_ h5=>h5=h'/\X/V<qh) ?_ ?_
      . rintro _ h5 ⟨rfl,hlt5⟩
        have hqp:0<qh:=Nat.lt_of_le_of_lt (Nat.zero_le _) hlt5
        have hqm:X/V<=qh-1:=Nat.le_sub_one_of_lt hlt5
        have e1:u64.wrap ((rh:Int)+(v1:Int))=((rh+v1:Nat):Int):=by
         rw[show(rh:Int)+(v1:Int)=((rh+v1:Nat):Int)by omega,z84 (by unfold W at *;omega)]
        have e2:u64.wrap ((qh:Int)-1)=((qh-1:Nat):Int):=by
         rw[show(qh:Int)-1=((qh-1:Nat):Int)by omega,z84 (by omega)]
        have e3:(qh-1)*v1+(rh+v1)=un*W+un1:=by
         obtain⟨q1,rfl⟩:∃q1,qh=q1+1:=⟨qh-1,by omega⟩
         rw[Nat.add_mul]at hqr
         simp only[Nat.add_sub_cancel]
         omega
        simp only
        rw[e1,e2]
        refine ze (λh6=>?_) (λh6=>?_)
        . have h7:=zhm (w:=W) (by decide) hXle hVlt hVpos hPpos e3 rfl hv1b hunv hun1 hv2 hun2 (.inl (by unfold W;omega))
          exact⟨by trivial,qh-1,rfl,h7.1,hqm,h7.2⟩
        . exact⟨⟨by trivial,qh-1,rh+v1,rfl,e3,by unfold W;omega,hqm,by omega⟩,by omega⟩
      . refine ze (λh6=>?_) (λh6=>?_)
        . refine⟨by trivial,?_⟩
          simp only at h6
          exact zhl hXlt hVle hVpos hqr hXV (.inl (by unfold W;omega))
        . simp only at h6
          refine⟨by decide,z6c (j+n) hoL.rdW rfl (by omega) λa5 ha5=>⟨_,ha5,?_⟩⟩
          have hqW2:qh<W:=by unfold W;omega
          have e1:u64.wrap ((qh:Int)*u64.wrap (v2:Int))=((qh*v2:Nat):Int):=by
           rw[zjk hv2,show(qh:Int)*(v2:Int)=((qh*v2:Nat):Int)by simp]
           refine z84 ?_
           have:qh*v2<=4294967295*4294967295:=Nat.mul_le_mul (by unfold W at *;omega) (by unfold W at *;omega)
           omega
          rw[hun2e]
          simp only
          rw[e1,zx4 hrh hun2]
          refine ze (λh7=>?_) (λh7=>?_)
          . refine⟨by trivial,?_⟩
            exact zhl hXlt hVle hVpos hqr hXV (.inr (by omega))
          . have h8:=zhm (w:=W) (by decide) hXle hVlt hVpos hPpos hqr rfl hv1b hunv hun1 hv2 hun2 (.inr ⟨hqW2,by omega⟩)
            exact⟨by trivial,qh,rfl,h8.1,hq1,h8.2⟩
 . obtain rfl:k=0:=by have:¬(k:Int)-1>=0:=h4;omega
   simp only[List.drop_zero,Nat.pow_zero,Nat.one_mul]at hlt hval
   have hVq:A/B=vl r:=by
    have h5:A*2 ^ s/(B*2 ^ s)=A/B:=Nat.mul_div_mul_right _ _ (Nat.two_pow_pos s)
    rw[hV,hval,Nat.mul_add_div hVpos,Nat.div_eq_of_lt hlt,Nat.add_zero]at h5
    exact h5.symm
   have hVr:vl L=A % B*2 ^ s:=by
    have h5:A*2 ^ s % (B*2 ^ s)=A % B*2 ^ s:=Nat.mul_mod_mul_right _ _ _
    rw[hV,hval,Nat.mul_add_mod,Nat.mod_eq_of_lt hlt]at h5
    exact h5
   refine zt2 0 (n+2) rfl (by omega) (by omega) (by omega) ?_
   have hcut:=hoL.rdW.cut 0 (n+2) (by omega) (by omega)
   rw[List.drop_zero,Nat.sub_zero]at hcut
   have hcv:vl (L.take (n+2))=vl L:=by
    have e1:=Xe (l:=L) (k:=n+2) (by omega)
    have e2:=zdn (a:=0) (b:=n+2) okL (by rw[List.drop_zero];exact Nat.lt_trans hlt hVu)
    rw[Nat.zero_add]at e2
    rw[e2]at e1;omega
   refine z15 hor.rdW (by omega) λz1 hz1=>?_
   rw[V4 okr,<-hVq]at hz1
   refine z15 hcut (by rw[List.length_take];omega) λz2 hz2=>?_
   rw[V4 (z8p okL _),hcv]at hz2
   have hz2l:(dg (vl L)).length<=n+2:=Xp.2 (Nat.lt_trans hlt hVu)
   refine Z58 hz2 (qu _) hs31 (by omega) λz3 h5 r3 hl5 hz3 okr3 hr3l hr3v=>?_
   rw[Yz,hVr,Nat.mul_div_cancel _ (Nat.two_pow_pos s)]at hr3v
   refine z15 hz3 (by omega) λz4 hz4=>?_
   rw[V4 okr3,hr3v]at hz4
   exact H _ _ _ (Hp.le_trans hoL.1 hl5) (hz1.le hl5) hz4
theorem zff{A B:Nat}(hx:RdW h x (dg A))(hy:RdW h y (dg B))(hB:B≠0)(hl:(dg A).length<=35184372088000)(hl2:(dg B).length<=35184372088000)
 (H:∀q r h',h.le h'->RdW h' q (dg (A/B))->RdW h' r (dg (A % B))->Kp (q,r) h'):zc (F.X8 x y) Kp h:=
 zd (λv h'=>RdW h' v.1 (dg (A/B))/\RdW h' v.2 (dg (A % B))) (λK' hk=>zw1 hx hy hB hl hl2 λq r h' h1 h2 h3=>hk _ _ h1 ⟨h2,h3⟩) λv h' h1 ⟨h2,h3⟩=>H v.1 v.2 h' h1 h2 h3
end
end Den
end

section
set_option maxHeartbeats 4000000
namespace Iv
end Iv
namespace Den
open Go Iv
section
variable {h : Hp} {x y : Sl} {l m : List Nat} {Ks : Sl → Hp → Prop} {Ki : Int → Hp → Prop} {Kp : (Sl × Sl) → Hp → Prop} {Kq : (Int × Sl) → Hp → Prop}
end
end Den
end

noncomputable section
namespace Den
open Go Iv
theorem zof{P:Nat->Prop}(h:∃n,P n):∃n,P n/\∀m,P m->n<=m:=by
 obtain⟨n,hn⟩:=h
 induction n using Nat.strongRecOn with
 | _ n ih=>
   by_cases hm:∃m,m<n/\P m
   . obtain⟨m,h1,h2⟩:=hm
     exact ih m h1 h2
   . exact⟨n,hn,λm h2=>by
      rcases Nat.lt_or_ge m n with h3 | h3
      . exact absurd ⟨m,h3,h2⟩ hm
      . exact h3⟩
open Classical in
def zm4(P:Nat->Prop):Nat:=if h:∃n,P n then Classical.choose (zof h)else 0
theorem zfo{P:Nat->Prop}{n:Nat}(h:P n):P (zm4 P)/\zm4 P<=n:=by
 have h1:∃n,P n:=⟨n,h⟩
 unfold zm4
 rw[dif_pos h1]
 have:=Classical.choose_spec (zof h1)
 exact⟨this.1,this.2 n h⟩
theorem Z47{S:Type}{body:S->(S->Hp->Prop)->Hp->Prop}{s0:S}{h0:Hp}(I:Nat->S->Hp->Prop)(n0:Nat)(h1:I n0 s0 h0)
 (h2:∀n s h,I n s h->∀K:S->Hp->Prop,(∀s' h' n',n'<n->I n' s' h'->K s' h')->body s K h):zr body s0 h0:=by
 refine⟨λs h=>∃n,I n s h,λs h=>zm4 λn=>I n s h,⟨n0,h1⟩,λs h ⟨n,hI⟩=>?_⟩
 have h3:=zfo (P:=λn=>I n s h) hI
 refine h2 _ s h h3.1 _ λs' h' n' hn hI'=>⟨⟨n',hI'⟩,?_⟩
 have h4:=zfo (P:=λn=>I n s' h') hI'
 exact Nat.lt_of_le_of_lt h4.2 hn
section
variable {h : Hp} {x y : Sl} {l : List Nat} {m n : Int} {a b : TInt} {Ks : Sl → Hp → Prop} {Ki : Int → Hp → Prop} {Kb : Bool → Hp → Prop} {KI : TInt → Hp → Prop} {KP : (TInt × TInt × Int) → Hp → Prop}
theorem zo8(x y:Nat):Nat.gcd y (x % y)=Nat.gcd x y:=by
 rw[Nat.gcd_comm x y,Nat.gcd_rec y x,Nat.gcd_comm]
theorem zjm(ha:NI h a m)(hb:NI h b n)(om:(dg m.natAbs).length<=35184372087808)(on:(dg n.natAbs).length<=35184372087808)(H:∀z h',h.le h'->NI h' z (Nat.gcd m.natAbs n.natAbs:Nat)->KI z h'):zc (F.z2e a b) KI h:=by
 refine zd _ (λK' hk=>?_) H
 unfold F.z2e
 refine zah ha om λx hx=>zah hb on λy hy=>?_
 have om':=om
 have on':=on
 refine zk (λst h'=>h.le h'/\∃A B:Nat,RdW h' st.1 (dg A)/\RdW h' st.2.1 (dg B)/\(dg A).length<=35184372087808/\Nat.gcd A B=Nat.gcd m.natAbs n.natAbs/\(dg B).length<=2/\(B≠0->(dg A).length<=2)) ?_ ?_
 . rintro⟨x,y,_⟩ h1 ⟨hl1,A,B,hA,hB,hAl,hg,hB2,hA2⟩
   simp only at hA hB |-
   have lB:=hB.len
   refine zz (λh2=>?_) (λh2=>?_)
   . have hB0:B=0:=z2r.1 (List.length_eq_zero_iff.1 (by omega))
     subst hB0
     rw[Nat.gcd_zero_right]at hg
     refine zbv hA (by omega) λz h3 hl3 hz=>Vz hz (by omega) λw hw=>hk _ _ (Hp.le_trans hl1 hl3) ?_
     rw[<-hg]
     exact hw
   . have hB0:B≠0:=λh0=>h2 (by rw[lB,h0,Q0];rfl)
     have hA2':=hA2 hB0
     refine z79 hA (qu A) hA2' λh3 hl3=>z79 (hB.le hl3) (qu B) hB2 λh4 hl4=>?_
     rw[Yz,Yz]
     have lt2:∀{n:Nat},(dg n).length<=2->n<18446744073709551616:=λhn=>by
      have:=(Xp (k:=2)).1 hn
      have e:W ^ 2=18446744073709551616:=by decide
      omega
     refine yx (λst h'=>h.le h'/\∃A B:Nat,st=((A:Int),(B:Int),())/\A<18446744073709551616/\B<18446744073709551616/\Nat.gcd A B=Nat.gcd m.natAbs n.natAbs) (λst=>st.2.1.toNat)
      ⟨Hp.le_trans hl1 (Hp.le_trans hl3 hl4),A,B,rfl,lt2 hA2',lt2 hB2,hg⟩ ?_
     rintro _ h5 ⟨hl5,A,B,rfl,hA3,hB3,hg3⟩
     refine yk (λh6=>⟨h6,?_⟩) (λh6=>?_)
     . have hB4:B≠0:=λh0=>h6 (by rw[h0];rfl)
       have:=Nat.mod_lt A (Nat.pos_of_ne_zero hB4)
       simp only
       rw[zph]
       exact⟨⟨hl5,B,A % B,rfl,hB3,by omega,by rw[zo8];exact hg3⟩,by omega⟩
     . have hB4:B=0:=by simp only at h6;omega
       subst hB4
       rw[Nat.gcd_zero_right]at hg3
       have:=dg2 hA3
       refine z1i rfl hA3 λz h7 hl7 hz=>Vz hz (by omega) λw hw=>hk _ _ (Hp.le_trans hl5 hl7) ?_
       rw[<-hg3]
       exact hw
 . refine Z47 (λN st h'=>h.le h'/\∃A:Nat,RdW h' st.1 (dg A)/\RdW h' st.2.1 (dg N)/\(dg A).length<=35184372087808/\(dg N).length<=35184372087808/\Nat.gcd A N=Nat.gcd m.natAbs n.natAbs) n.natAbs
    ⟨Hp.le_refl _,m.natAbs,hx,hy,om',on',rfl⟩ ?_
   rintro B ⟨x,y,_⟩ h1 ⟨hl1,A,hA,hB,hAl,hBl,hg⟩ K hK
   simp only at hA hB |-
   have lA:=hA.len
   have lB:=hB.len
   have step:B≠0->zc (F.X8 x y) (λr17 h13=>K (y,r17.2,()) h13) h1:=λhB0=>by
    refine zff hA hB hB0 (by omega) (by omega) λq r h2 hl2 hq hr=>?_
    have:=Nat.mod_lt A (Nat.pos_of_ne_zero hB0)
    exact hK _ _ (A % B) this ⟨Hp.le_trans hl1 hl2,B,hB.le hl2,hr,hBl,by have:=z5d (Nat.le_of_lt this);omega,by rw[zo8];exact hg⟩
   have hB0:0<y.len->B≠0:=λh0 hh=>by rw[lB,hh,Q0]at h0;exact absurd h0 (by decide)
   refine zod ?_
   refine ze (λh2=>step (hB0 (by omega))) (λh2=>ze (λh3=>ze (λh4=>step (hB0 (by omega))) (λh4=>?_)) (λh3=>?_))
   . exact⟨hl1,A,B,hA,hB,hAl,hg,by omega,λh5=>absurd (z2r.1 (List.length_eq_zero_iff.1 (by omega))) h5⟩
   . exact⟨hl1,A,B,hA,hB,hAl,hg,by omega,λ_=>by omega⟩
theorem zy3(ha:NI h a m)(hb:NI h b n)(om:Ok m)(on:Ok n)(H:∀z h',h.le h'->NI h' z (Nat.gcd m.natAbs n.natAbs:Nat)->KI z h'):zc (F.z2e a b) KI h:=
 zjm ha hb (Nat.le_trans om (by decide)) (Nat.le_trans on (by decide)) H
theorem zoc(ha:NI h a m)(H:Kb (decide (m=0)) h):zc (F.z20 a) Kb h:=by
 refine Zf _ (λK' hk=>?_) H
 unfold F.z20
 rw[ha.len0];exact hk
theorem Zc3:dg 1=[1]:=by rw[ze8 (by decide),show 1/W=0 by decide,Q0];rfl
theorem zoq(G:(Bool->Hp->Prop)->Hp->Prop)(hG:∀K,((m=1)->K true h)->((m≠1)->K false h)->G K h)(H:Kb (decide (m=1)) h):zc G Kb h:=by
 refine Zf (decide (m=1)) (λK' hk=>hG K' (λh1=>?_) (λh1=>?_)) H
 . rw[decide_eq_true h1]at hk;exact hk
 . rw[decide_eq_false h1]at hk;exact hk
theorem z3o(ha:NI h a m)(H:Kb (decide (m=1)) h):zc (F.Qp a) Kb h:=by
 refine zoq _ (λK' h1 h0=>?_) H
 unfold F.Qp
 have hl:=ha.len
 rw[ha.2]
 refine zp (λh2=>?_) (λh2=>?_)
 . have hpos:¬m<0:=by simpa using h2
   refine zz (λh3=>?_) (λh3=>?_)
   . have h4:=zuf (B:=m.natAbs) (by omega)
     refine z6c 0 ha.1 rfl (by omega) λp hp=>⟨_,hp,?_⟩
     rw[h4]
     by_cases h5:m=1
     . have:=h1 h5
       subst h5;exact this
     . have:=h0 h5
       have e:(((([m.natAbs]:List Nat).getD 0 0:Nat):Int)==1)=false:=by
        simp;omega
       simp only
       rw[e];exact this
   . refine h0 λh5=>h3 ?_
     subst h5
     rw[hl,show(1:Int).natAbs=1 from rfl,Zc3];rfl
 . exact h0 λh5=>by subst h5;simp at h2
def DM(m n q r:Int):Prop:=m=n*q+r/\(0<n->0<=r/\r<n)/\(n<0->n<r/\r<=0)
theorem DM.div{m n q r:Int}(h:DM m n q r)(h0:n≠0)(hd:0<n\/n ∣ m):q=m/n:=by
 obtain⟨h1,h2,h3⟩:=h
 rcases hd with hd | hd
 . have h4:=h2 hd
   exact((Int.ediv_emod_unique hd).2 ⟨by omega,h4.1,h4.2⟩).1.symm
 . have hr:n ∣ r:=by
    have e:r=m-n*q:=by omega
    rw[e];exact Int.dvd_sub hd (Int.dvd_mul_right n q)
   have hr0:r=0:=by
    have h5:n.natAbs ∣ r.natAbs:=Int.natAbs_dvd_natAbs.2 hr
    have h6:r.natAbs<n.natAbs:=by
     rcases Int.lt_or_gt_of_ne h0 with h7 | h7
     . have:=h3 h7;omega
     . have:=h2 h7;omega
    have:=Nat.eq_zero_of_dvd_of_lt h5 h6
    omega
   rw[h1,hr0,Int.add_zero,Int.mul_ediv_cancel_left _ h0]
theorem z0y(m:Int):m=m.natAbs/\¬m<0\/m=-(m.natAbs:Int)/\m<0:=by omega
theorem Z7s{m n:Int}(h0:n≠0)(h:decide (m<0)=decide (n<0)):DM m n (sg false (m.natAbs/n.natAbs)) (sg (decide (n<0)) (m.natAbs % n.natAbs)):=by
 have e:=Nat.div_add_mod m.natAbs n.natAbs
 have hlt:=Nat.mod_lt m.natAbs (y:=n.natAbs) (by omega)
 have h':m<0↔n<0:=by simpa using h
 have c1:=z0y m
 have c2:=z0y n
 clear h
 generalize m.natAbs/n.natAbs=q at *
 generalize m.natAbs % n.natAbs=r at *
 generalize m.natAbs=A at *
 generalize n.natAbs=B at *
 have e':(A:Int)=B*q+r:=by rw[<-e];simp
 unfold DM sg
 rcases c1 with ⟨h1,h2⟩ | ⟨h1,h2⟩<;>rcases c2 with ⟨h3,h4⟩ | ⟨h3,h4⟩
 . rw[decide_eq_false h4]
   simp only[Bool.false_eq_true,if_false]
   exact⟨by rw[h1,h3,e'],λ_=>by omega,λ_=>by omega⟩
 . omega
 . omega
 . rw[decide_eq_true h4]
   simp only[Bool.false_eq_true,if_false,if_true]
   exact⟨by rw[h1,h3,e',Int.neg_add,Int.neg_mul],λ_=>by omega,λ_=>by omega⟩
theorem Z7t{m n:Int}(h0:n≠0)(h:decide (m<0)≠decide (n<0))(hr:m.natAbs % n.natAbs=0):DM m n (sg true (m.natAbs/n.natAbs)) (sg (decide (n<0)) (m.natAbs % n.natAbs)):=by
 have e:=Nat.div_add_mod m.natAbs n.natAbs
 have h':¬(m<0↔n<0):=by simpa using h
 have c1:=z0y m
 have c2:=z0y n
 rw[hr]at e |-
 clear h hr
 generalize m.natAbs/n.natAbs=q at *
 generalize m.natAbs=A at *
 generalize n.natAbs=B at *
 have e':(A:Int)=B*q:=by rw[<-e];simp
 unfold DM sg
 rcases c1 with ⟨h1,h2⟩ | ⟨h1,h2⟩<;>rcases c2 with ⟨h3,h4⟩ | ⟨h3,h4⟩
 . omega
 . rw[decide_eq_true h4]
   simp only[if_true]
   exact⟨by rw[h1,h3,e',Int.neg_mul_neg];simp,λ_=>by omega,λ_=>by omega⟩
 . rw[decide_eq_false h4]
   simp only[Bool.false_eq_true,if_false,if_true]
   exact⟨by rw[h1,h3,e',Int.mul_neg];simp,λ_=>by omega,λ_=>by omega⟩
 . omega
theorem Z7r{m n:Int}(h0:n≠0)(h:decide (m<0)≠decide (n<0))(hr:m.natAbs % n.natAbs≠0):DM m n (sg true (m.natAbs/n.natAbs+1)) (sg (decide (n<0)) (n.natAbs-m.natAbs % n.natAbs)):=by
 have e:=Nat.div_add_mod m.natAbs n.natAbs
 have hlt:=Nat.mod_lt m.natAbs (y:=n.natAbs) (by omega)
 have h':¬(m<0↔n<0):=by simpa using h
 have c1:=z0y m
 have c2:=z0y n
 clear h
 generalize m.natAbs/n.natAbs=q at *
 generalize m.natAbs % n.natAbs=r at *
 generalize m.natAbs=A at *
 generalize n.natAbs=B at *
 have e':(A:Int)=B*q+r:=by rw[<-e];simp
 have e2:((B-r:Nat):Int)=(B:Int)-r:=by omega
 have e3:(B:Int)*((q+1:Nat):Int)=B*q+B:=by
  rw[Int.natCast_add,Int.mul_add];simp
 unfold DM sg
 rw[e2]
 rcases c1 with ⟨h1,h2⟩ | ⟨h1,h2⟩<;>rcases c2 with ⟨h3,h4⟩ | ⟨h3,h4⟩
 . omega
 . rw[decide_eq_true h4]
   simp only[if_true]
   refine⟨?_,λ_=>by omega,λ_=>by omega⟩
   rw[h1,h3,e',Int.neg_mul_neg,e3];omega
 . rw[decide_eq_false h4]
   simp only[Bool.false_eq_true,if_false,if_true]
   refine⟨?_,λ_=>by omega,λ_=>by omega⟩
   rw[h1,h3,e',Int.mul_neg,e3];omega
 . omega
theorem Z4j{p q:Bool}(h:p=q):(!(p==q))=false:=by subst h;simp
theorem zuu{p q:Bool}(h:p≠q):(!(p==q))=true:=by simpa using h
theorem zn0(ha:NI h a m)(hb:NI h b n)(om:Ok m)(on:Ok n)(h0:n≠0)
 (H:∀z w h' q r,h.le h'->NI h' z q->NI h' w r->DM m n q r->KP (z,w,0) h'):zc (F.z2w a b) KP h:=by
 refine zd (λv h'=>∃q r,NI h' v.1 q/\NI h' v.2.1 r/\DM m n q r/\v.2.2=0) (λK' hk=>?_) λ⟨z,w,c⟩ h' hl ⟨q,r,h1,h2,h3,h4⟩=>by
  simp only at h4;subst h4
  exact H z w h' q r hl h1 h2 h3
 unfold F.z2w
 have om':(dg m.natAbs).length<=8796093022208:=om
 have on':(dg n.natAbs).length<=8796093022208:=on
 refine V3 hb on λy hy=>?_
 have ly:=hy.len
 refine zz (λh1=>absurd (zoh.1 (by omega)) h0) (λh1=>?_)
 refine V3 ha om λx hx=>?_
 refine zff hx hy (by omega) (by omega) (by omega) λq r h2 hl2 hq hr=>?_
 have hql:(dg (m.natAbs/n.natAbs)).length<=8796093022208:=Nat.le_trans (z5d (Nat.div_le_self _ _)) om'
 have hrl:(dg (m.natAbs % n.natAbs)).length<=8796093022208:=Nat.le_trans (z5d (Nat.mod_le _ _)) om'
 have lr:=hr.len
 rw[ha.2,hb.2]
 refine zk (λst h'=>h.le h'/\∃q r:List Nat,okW q/\okW r/\RdW h' st.1 q/\RdW h' st.2.1 r/\q.length<=35184372088800/\r.length<=35184372088800/\DM m n (sg (!(decide (m<0)==decide (n<0))) (vl q)) (sg (decide (n<0)) (vl r))) ?_ ?_
 . rintro⟨x,y,_⟩ h3 ⟨hl3,q,r,okq,okr,hx3,hy3,hq3,hr3,hdm⟩
   refine z74 hx3 okq (by omega) λz hz=>z74 hy3 okr (by omega) λw hw=>hk _ _ hl3 ⟨_,_,hz,hw,hdm,rfl⟩
 . have stay:DM m n (sg (!(decide (m<0)==decide (n<0))) (m.natAbs/n.natAbs)) (sg (decide (n<0)) (m.natAbs % n.natAbs)) ->
    h.le h2/\∃q' r':List Nat,okW q'/\okW r'/\RdW h2 q q'/\RdW h2 r r'/\q'.length<=35184372088800/\r'.length<=35184372088800/\DM m n (sg (!(decide (m<0)==decide (n<0))) (vl q')) (sg (decide (n<0)) (vl r')):=λhd=>
    ⟨hl2,dg _,dg _,qu _,qu _,hq,hr,by omega,by omega,by rw[Yz,Yz];exact hd⟩
   refine zp (λh3=>?_) (λh3=>?_)
   . have hd:decide (m<0)≠decide (n<0):=by simpa using h3
     refine ze (λh4=>?_) (λh4=>?_)
     . have hr0:m.natAbs % n.natAbs≠0:=λhh=>by rw[lr,hh,Q0]at h4;exact absurd h4 (by decide)
       have hlt:=Nat.mod_lt m.natAbs (y:=n.natAbs) (by omega)
       refine z72 (n:=1) (size:=1) rfl λb1 h5 hb1 ho=>?_
       have ho':qi h2 h5 ⟨some ⟨b1,0,none⟩,1,1⟩ [1]:=ho
       refine zkg (hq.le ho.1) ho'.rdW (qu _) (λd hd=>by rw[List.mem_singleton.1 hd];decide) (by omega) (by simp) λz h6 rr hl6 hz okz hv hzl=>?_
       rw[Yz]at hv
       have hl26:=Hp.le_trans ho.1 hl6
       refine zc2 (hy.le (Hp.le_trans hl2 hl26)) (hr.le hl26) (qu _) (qu _) (by omega) (z5d (Nat.le_of_lt hlt)) (by rw[Yz,Yz];exact Nat.le_of_lt hlt) λw h7 hl7 hw=>?_
       rw[Yz,Yz]at hw
       refine⟨Hp.le_trans hl2 (Hp.le_trans hl26 hl7),rr,_,okz,qu _,hz.le hl7,hw,by simp at hzl;omega,by have:=zt9 (n:=m.natAbs % n.natAbs) on';omega,?_⟩
       rw[Yz,hv,zuu hd]
       have:=Z7r h0 hd hr0
       simpa [vl] using this
     . have hr0:m.natAbs % n.natAbs=0:=z2r.1 (List.length_eq_zero_iff.1 (by have h5:¬(r.len:Int)>0:=h4;omega))
       exact stay (by rw[zuu hd];exact Z7t h0 hd hr0)
   . have hd:decide (m<0)=decide (n<0):=by simpa using h3
     exact stay (by rw[Z4j hd];exact Z7s h0 hd)
end
end Den
end

section
namespace Den
open Go Iv
section
variable {h : Hp} {x y : Sl} {l : List Nat} {m n : Int} {a b : TInt} {Ks : Sl → Hp → Prop} {Ki : Int → Hp → Prop} {Kb : Bool → Hp → Prop} {KI : TInt → Hp → Prop} {KP : (TInt × TInt × Int) → Hp → Prop}
theorem Ok.le{m n:Int}(hm:Ok m)(h:n.natAbs<=m.natAbs):Ok n:=Nat.le_trans (z5d h) hm
theorem zoz(ha:NI h a m)(hb:NI h b n)(om:Ok m)(on:Ok n)(h0:n≠0)(hd:0<n\/n ∣ m)(H:∀z h',h.le h'->NI h' z (m/n)->KI z h'):zc (F.z33 a b) KI h:=by
 refine zd _ (λK' hk=>?_) H
 unfold F.z33
 refine z3o hb ?_
 refine ze (λh1=>?_) (λh1=>?_)
 . subst h1
   exact hk _ _ (Hp.le_refl _) (by rw[Int.ediv_one];exact ha)
 . refine zn0 ha hb om on h0 λz w h' q r hl hz hw hdm=>hk _ _ hl ?_
   have:=hdm.div h0 hd
   subst this
   exact hz
end
end Den
end

section
namespace Iv
theorem z4u(q:Rat):((q.den:Nat):Int)≠0:=by have:=q.den_pos;omega
theorem z5t{n d:Int}{q:Rat}(hd:d≠0):Rat.divInt n d=q↔n*q.den=q.num*d:=by
 have h:=Rat.divInt_eq_divInt_iff (n₁:=n) (n₂:=q.num) hd (z4u q)
 rw[Rat.num_divInt_den]at h
 exact h
theorem zi8{n d:Int}{q:Rat}(hd:0<d)(hc:Nat.Coprime n.natAbs d.natAbs)(h:n*q.den=q.num*d):n=q.num/\d=q.den:=by
 have hq:(⟨n,d.toNat,by omega,by rw[show d.toNat=d.natAbs by omega];exact hc⟩:Rat)=q:=by
  have h1:Rat.divInt n d=q:=(z5t (by omega)).2 h
  rw[<-h1]
  symm
  refine(z5t (by omega)).2 ?_
  show n*((d.toNat:Nat):Int)=n*d
  rw[Int.toNat_of_nonneg (by omega)]
 refine⟨congrArg Rat.num hq,?_⟩
 have:=congrArg Rat.den hq
 show d=((q.den:Nat):Int)
 have h2:d.toNat=q.den:=this
 omega
theorem Z48{m n g:Int}(hn:n≠0)(hg:g=n.sign*(Nat.gcd m.natAbs n.natAbs:Nat)):g≠0/\g ∣ m/\g ∣ n/\m/g=(Rat.divInt m n).num/\n/g=(Rat.divInt m n).den:=by
 have hG:Nat.gcd m.natAbs n.natAbs≠0:=λh=>by have:=(Nat.gcd_eq_zero_iff.1 h).2;omega
 have hgabs:g.natAbs=Nat.gcd m.natAbs n.natAbs:=by
  rw[hg,Int.natAbs_mul,Int.natAbs_sign_of_ne_zero hn,Nat.one_mul];rfl
 have hg0:g≠0:=λh=>by rw[h]at hgabs;exact hG hgabs.symm
 have hgm:g ∣ m:=Int.natAbs_dvd_natAbs.1 (by rw[hgabs];exact Nat.gcd_dvd_left _ _)
 have hgn:g ∣ n:=Int.natAbs_dvd_natAbs.1 (by rw[hgabs];exact Nat.gcd_dvd_right _ _)
 obtain⟨m',hm'⟩:=id hgm
 obtain⟨n',hn'⟩:=id hgn
 have e1:m/g=m':=by rw[hm'];exact Int.mul_ediv_cancel_left _ hg0
 have e2:n/g=n':=by rw[hn'];exact Int.mul_ediv_cancel_left _ hg0
 have hGp:0<((Nat.gcd m.natAbs n.natAbs:Nat):Int):=by omega
 have hpos:0<n':=by
  generalize ((Nat.gcd m.natAbs n.natAbs:Nat):Int)=G at *
  clear hgabs hgm hgn e1 e2 hm' hG
  rcases Int.lt_or_gt_of_ne hn with h | h
  . have hgneg:g<0:=by
     rw[hg,Int.sign_eq_neg_one_of_neg h];omega
    rcases Int.lt_trichotomy n' 0 with h1 | h1 | h1
    . have:=Int.mul_pos_of_neg_of_neg hgneg h1;omega
    . rw[h1]at hn';omega
    . exact h1
  . have hgpos:0<g:=by
     rw[hg,Int.sign_eq_one_of_pos h];omega
    rcases Int.lt_trichotomy n' 0 with h1 | h1 | h1
    . have:=Int.mul_neg_of_pos_of_neg hgpos h1;omega
    . rw[h1]at hn';omega
    . exact h1
 have hcop:Nat.Coprime m'.natAbs n'.natAbs:=by
  have h1:m.natAbs=g.natAbs*m'.natAbs:=(congrArg Int.natAbs hm').trans (Int.natAbs_mul _ _)
  have h2:n.natAbs=g.natAbs*n'.natAbs:=(congrArg Int.natAbs hn').trans (Int.natAbs_mul _ _)
  rw[h1,h2,Nat.gcd_mul_left]at hgabs
  have h3:g.natAbs*1=g.natAbs*Nat.gcd m'.natAbs n'.natAbs:=by rw[Nat.mul_one];exact hgabs
  exact(Nat.eq_of_mul_eq_mul_left (by omega) h3).symm
 have hx:m'*(Rat.divInt m n).den=(Rat.divInt m n).num*n':=by
  have h1:=(z5t (q:=Rat.divInt m n) hn).1 rfl
  generalize (Rat.divInt m n).den=D at *
  generalize (Rat.divInt m n).num=N at *
  rw[hm',hn']at h1
  refine Int.eq_of_mul_eq_mul_left hg0 ?_
  rw[<-Int.mul_assoc,h1,Int.mul_comm g n',<-Int.mul_assoc,Int.mul_comm]
 have:=zi8 hpos hcop hx
 exact⟨hg0,hgm,hgn,by rw[e1];exact this.1,by rw[e2];exact this.2⟩
theorem Zdj(a b:Rat):a+b=Rat.divInt (a.num*b.den+b.num*a.den) (a.den*b.den):=by
 have:=Rat.divInt_add_divInt a.num b.num (z4u a) (z4u b)
 rw[Rat.num_divInt_den,Rat.num_divInt_den]at this
 exact this
theorem Zdk(a b:Rat):a*b=Rat.divInt (a.num*b.num) (a.den*b.den):=by
 have:=Rat.divInt_mul_divInt a.num b.num (d₁:=a.den) (d₂:=b.den)
 rw[Rat.num_divInt_den,Rat.num_divInt_den]at this
 exact this
theorem Zl2(a b:Rat):a/b=Rat.divInt (a.num*b.den) (a.den*b.num):=by
 rw[Rat.div_def,Rat.inv_def]
 have:=Rat.divInt_mul_divInt a.num b.den (d₁:=a.den) (d₂:=b.num)
 rw[Rat.num_divInt_den]at this
 exact this
end Iv
namespace Den
open Go Iv
def NR(h:Hp)(x:TRat)(q:Rat):Prop:=NI h x.num q.num/\NI h x.den q.den
theorem NR.le{h h':Hp}{x:TRat}{q:Rat}(hx:NR h x q)(hl:h.le h'):NR h' x q:=⟨hx.1.le hl,hx.2.le hl⟩
def BR(k:Nat)(q:Rat):Prop:=Lt k q.num/\Lt k q.den
theorem BR.mono{k j:Nat}{q:Rat}(h:BR k q)(hk:k<=j):BR j q:=⟨h.1.mono hk,h.2.mono hk⟩
theorem Lt.addm{k:Nat}{m n:Int}(h:Lt k m)(h2:Lt k n):Lt (k+1) (m+n):=by
 unfold Lt at *
 have h3:=Int.natAbs_add_le m n
 rw[Nat.pow_succ]
 have:W ^ k*2<=W ^ k*W:=Nat.mul_le_mul_left _ (by decide)
 omega
theorem BR.divInt{k:Nat}{m n:Int}(hm:Lt k m)(hn:Lt k n)(h0:n≠0):BR k (Rat.divInt m n):=by
 obtain⟨_,_,_,h1,h2⟩:=Z48 (m:=m) (n:=n) h0 rfl
 exact⟨by rw[<-h1];exact hm.le (Int.natAbs_ediv_le_natAbs _ _),by rw[<-h2];exact hn.le (Int.natAbs_ediv_le_natAbs _ _)⟩
theorem BR.mul{k j:Nat}{a b:Rat}(ha:BR k a)(hb:BR j b):BR (k+j) (a*b):=by
 rw[Zdk]
 exact BR.divInt (ha.1.mul hb.1) (ha.2.mul hb.2) (Int.mul_ne_zero (z4u a) (z4u b))
theorem BR.add{k j:Nat}{a b:Rat}(ha:BR k a)(hb:BR j b):BR (k+j+1) (a+b):=by
 rw[Zdj]
 exact BR.divInt ((ha.1.mul hb.2).addm ((hb.1.mul ha.2).mono (by omega))) ((ha.2.mul hb.2).mono (by omega)) (Int.mul_ne_zero (z4u a) (z4u b))
theorem BR.neg{k:Nat}{a:Rat}(ha:BR k a):BR k (-a):=⟨by rw[Rat.neg_num];exact ha.1.neg,by rw[Rat.neg_den];exact ha.2⟩
section
variable {h : Hp} {m n : Int} {a b : TInt} {x y : TRat} {p q : Rat} {j k : Nat} {Ki : Int → Hp → Prop} {Kb : Bool → Hp → Prop} {KI : TInt → Hp → Prop} {KR : TRat → Hp → Prop} {KE : (TRat × Int) → Hp → Prop}
theorem zhv(H:∀z h',h.le h'->NI h' z 1->KI z h'):zc F.z10 KI h:=
 zd _ (λK' hk=>by unfold F.z10;exact z87 (by decide) (by decide) λz h' hl hz=>hk _ _ hl hz) H
theorem z1o(h1:-9223372036854775808<=n)(h2:n<=9223372036854775807)(H:∀z h',h.le h'->NR h' z (n:Rat)->KR z h'):zc (F.Y9 n) KR h:=by
 refine zd _ (λK' hk=>?_) H
 unfold F.Y9
 refine z87 h1 h2 λz h3 hl3 hz=>zhv λw h4 hl4 hw=>hk _ _ (Hp.le_trans hl3 hl4) ⟨?_,?_⟩
 . exact hz.le hl4
 . exact hw
theorem zi7(hx:NR h x p)(op:BR k p)(hk:k<=1000000000000)(H:Ki p.num.sign h):zc (F.Qm x) Ki h:=
 Zf _ (λK' hk=>by unfold F.Qm;exact zdx hx.1 (op.1.ok (by omega)) hk) H
theorem z9y(ha:NI h a m)(hb:NI h b n)(om:Lt k m)(on:Lt k n)(hk:k<=1000000000000)(h0:n≠0)(H:∀z h',h.le h'->NR h' z (Rat.divInt m n)->KR z h'):zc (F.Wq a b) KR h:=by
 refine zd _ (λK' hk=>?_) H
 unfold F.Wq
 have om':=om.ok (by omega)
 have on':=on.ok (by omega)
 refine zy3 ha hb om' on' λg h1 hl1 hg=>?_
 have og:Ok (Nat.gcd m.natAbs n.natAbs:Nat):=on'.le (by
  rw[Int.natAbs_natCast]
  exact Nat.le_of_dvd (by omega) (Nat.gcd_dvd_right _ _))
 obtain⟨e0,e1,e2,e3,e4⟩:=Z48 (m:=m) (n:=n) h0 rfl
 have oG:Ok (n.sign*(Nat.gcd m.natAbs n.natAbs:Nat)):=og.le (by
  rw[Int.natAbs_mul,Int.natAbs_sign_of_ne_zero h0,Nat.one_mul];exact Nat.le_refl _)
 refine zk (λst h'=>h.le h'/\NI h' ⟨st.1.1,st.1.2.1⟩ (n.sign*(Nat.gcd m.natAbs n.natAbs:Nat))) ?_ ?_
 . rintro st h2 ⟨hl2,hG⟩
   refine zoz (ha.le hl2) hG om' oG e0 (.inr e1) λu h3 hl3 hu=>?_
   refine zoz (hb.le (Hp.le_trans hl2 hl3)) (hG.le hl3) on' oG e0 (.inr e2) λv h4 hl4 hv=>?_
   refine hk _ _ (Hp.le_trans hl2 (Hp.le_trans hl3 hl4)) ⟨?_,?_⟩
   . rw[<-e3];exact hu.le hl4
   . rw[<-e4];exact hv
 . rw[hb.2]
   refine ze (λh2=>?_) (λh2=>?_)
   . refine zn2 hg og λw h3 hl3 hw=>⟨Hp.le_trans hl1 hl3,?_⟩
     rw[Int.sign_eq_neg_one_of_neg h2,Int.neg_mul,Int.one_mul];exact hw
   . refine⟨hl1,?_⟩
     rw[Int.sign_eq_one_of_pos (by omega),Int.one_mul];exact hg
theorem zkj(hx:NR h x p)(hy:NR h y q)(op:BR k p)(oq:BR j q)(hk:k<=400000000000)(hj:j<=400000000000)(H:∀z h',h.le h'->NR h' z (p*q)->KR z h'):zc (F.z32 x y) KR h:=by
 refine zd _ (λK' hk=>?_) H
 unfold F.z32
 have hd:((p.den:Nat):Int)*q.den≠0:=Int.mul_ne_zero (z4u p) (z4u q)
 refine zk (λ_ h'=>h'=h) ?_ ?_
 . rintro _ h' rfl
   refine z4i hx.1 hy.1 (op.1.ok (by omega)) (oq.1.ok (by omega)) λz h3 hl3 hz=>?_
   refine z4i (hx.2.le hl3) (hy.2.le hl3) (op.2.ok (by omega)) (oq.2.ok (by omega)) λw h4 hl4 hw=>?_
   refine z9y (hz.le hl4) hw (op.1.mul oq.1) (op.2.mul oq.2) (by omega) hd λv h5 hl5 hv=>hk _ _ (Hp.le_trans hl3 (Hp.le_trans hl4 hl5)) ?_
   rw[Zdk];exact hv
 . refine z3o hx.2 (ze (λh1=>z3o hy.2 (ze (λh2=>?_) (λ_=>rfl))) (λ_=>rfl))
   refine z4i hx.1 hy.1 (op.1.ok (by omega)) (oq.1.ok (by omega)) λz h3 hl3 hz=>?_
   refine zhv λw h4 hl4 hw=>hk _ _ (Hp.le_trans hl3 hl4) ?_
   have e:=zi8 (n:=p.num*q.num) (d:=1) (q:=p*q) (by decide) (Nat.coprime_one_right _) (by
    have:=(z5t (n:=p.num*q.num) hd).1 (Zdk p q).symm
    rw[h1,h2]at this;simpa using this)
   exact⟨by rw[<-e.1];exact hz.le hl4,by rw[<-e.2];exact hw⟩
theorem zx9(hx:NR h x p)(hy:NR h y q)(op:BR k p)(oq:BR j q)(hk:k<=400000000000)(hj:j<=400000000000)(H:∀z h',h.le h'->NR h' z (p+q)->KR z h'):zc (F.z5j x y) KR h:=by
 refine zd _ (λK' hk=>?_) H
 unfold F.z5j
 have hd:((p.den:Nat):Int)*q.den≠0:=Int.mul_ne_zero (z4u p) (z4u q)
 refine zk (λ_ h'=>h'=h) ?_ ?_
 . rintro _ h' rfl
   refine z4i hx.1 hy.2 (op.1.ok (by omega)) (oq.2.ok (by omega)) λz h3 hl3 hz=>?_
   refine z4i (hy.1.le hl3) (hx.2.le hl3) (oq.1.ok (by omega)) (op.2.ok (by omega)) λw h4 hl4 hw=>?_
   refine zmx (hz.le hl4) hw ((op.1.mul oq.2).ok (by omega)) ((oq.1.mul op.2).ok (by omega)) λs h5 hl5 hs=>?_
   have hl35:=Hp.le_trans hl3 (Hp.le_trans hl4 hl5)
   refine z4i (hx.2.le hl35) (hy.2.le hl35) (op.2.ok (by omega)) (oq.2.ok (by omega)) λt h6 hl6 ht=>?_
   refine z9y (k:=k+j+1) (hs.le hl6) ht ((op.1.mul oq.2).addm ((oq.1.mul op.2).mono (by omega))) ((op.2.mul oq.2).mono (by omega)) (by omega) hd λv h7 hl7 hv=>hk _ _ (Hp.le_trans hl35 (Hp.le_trans hl6 hl7)) ?_
   rw[Zdj];exact hv
 . refine z3o hx.2 (ze (λh1=>z3o hy.2 (ze (λh2=>?_) (λ_=>rfl))) (λ_=>rfl))
   refine zmx hx.1 hy.1 (op.1.ok (by omega)) (oq.1.ok (by omega)) λz h3 hl3 hz=>?_
   refine zhv λw h4 hl4 hw=>hk _ _ (Hp.le_trans hl3 hl4) ?_
   have e:=zi8 (n:=p.num+q.num) (d:=1) (q:=p+q) (by decide) (Nat.coprime_one_right _) (by
    have:=(z5t (n:=p.num*q.den+q.num*p.den) hd).1 (Zdj p q).symm
    rw[h1,h2]at this;simpa using this)
   exact⟨by rw[<-e.1];exact hz.le hl4,by rw[<-e.2];exact hw⟩
theorem zxb(hx:NR h x p)(op:BR k p)(hk:k<=1000000000000)(H:∀z h',h.le h'->NR h' z (-p)->KR z h'):zc (F.z5l x) KR h:=by
 refine zd _ (λK' hk=>?_) H
 unfold F.z5l
 refine zn2 hx.1 (op.1.ok (by omega)) λz h1 hl1 hz=>hk _ _ hl1 ⟨?_,?_⟩
 . rw[Rat.neg_num];exact hz
 . rw[Rat.neg_den];exact hx.2.le hl1
theorem zxa(hx:NR h x p)(hy:NR h y q)(op:BR k p)(oq:BR j q)(hk:k<=400000000000)(hj:j<=400000000000)(h0:q.num≠0)(H:∀z h',h.le h'->NR h' z (p/q)->KE (z,0) h'):zc (F.z5k x y) KE h:=by
 refine zd (λv h'=>NR h' v.1 (p/q)/\v.2=0) (λK' hk=>?_) λ⟨z,c⟩ h' hl ⟨hz,hc⟩=>by
  simp only at hc;subst hc;exact H z h' hl hz
 unfold F.z5k
 refine zoc hy.1 (ze (λh1=>absurd h1 h0) (λ_=>?_))
 refine z4i hx.1 hy.2 (op.1.ok (by omega)) (oq.2.ok (by omega)) λz h3 hl3 hz=>?_
 refine z4i (hx.2.le hl3) (hy.1.le hl3) (op.2.ok (by omega)) (oq.1.ok (by omega)) λw h4 hl4 hw=>?_
 refine z9y (hz.le hl4) hw (op.1.mul oq.2) (op.2.mul oq.1) (by omega) (Int.mul_ne_zero (z4u p) h0) λv h5 hl5 hv=>hk _ _ (Hp.le_trans hl3 (Hp.le_trans hl4 hl5)) ⟨?_,rfl⟩
 rw[Zl2];exact hv
end
end Den
end

section
namespace Iv
end Iv
end

section
namespace Den
open Go Iv
section
variable {h : Hp} {m n : Int} {a b : TInt} {x y : TRat} {p q : Rat} {j k : Nat} {Ki : Int → Hp → Prop} {Kb : Bool → Hp → Prop} {KI : TInt → Hp → Prop} {KR : TRat → Hp → Prop} {KE : (TRat × Int) → Hp → Prop}
theorem Zkr(q:Rat):0<(q.den:Int):=by have:=q.den_pos;omega
theorem zsh(q:Rat):((q.den:Nat):Int).natAbs=q.den:=Int.natAbs_natCast _
theorem z37(h1:-9223372036854775808<=n)(h2:n<=9223372036854775807)(H:∀z h',h.le h'->NR h' z (n:Rat)->KR z h'):zc (F.W7 n) KR h:=by
 refine zd _ (λK' hk=>?_) H
 unfold F.W7
 refine zbl h1 h2 λz h3 hl3 hz=>zbl (by decide) (by decide) λw h4 hl4 hw=>hk _ _ (Hp.le_trans hl3 hl4) ⟨?_,?_⟩
 . exact hz.le hl4
 . exact hw
theorem Z8m{q:Rat}(h0:q.num≠0):(q.num<0->-(q.den:Int)=(q⁻¹).num/\-q.num=(q⁻¹).den)/\(¬q.num<0->(q.den:Int)=(q⁻¹).num/\q.num=(q⁻¹).den):=by
 have h1:=(z5t (n:=q.den) (q:=q⁻¹) h0).1 (Rat.inv_def q).symm
 constructor
 . intro h2
   refine zi8 (by omega) ?_ ?_
   . rw[Int.natAbs_neg,Int.natAbs_neg,Int.natAbs_natCast];exact Nat.Coprime.symm q.reduced
   . rw[Int.neg_mul,Int.mul_neg,h1]
 . intro h2
   refine zi8 (by omega) ?_ h1
   rw[Int.natAbs_natCast];exact Nat.Coprime.symm q.reduced
theorem BR.inv{q:Rat}(oq:BR k q)(h0:q.num≠0):BR k q⁻¹:=by
 have h1:=Z8m h0
 by_cases h2:q.num<0
 . have:=h1.1 h2
   exact⟨by rw[<-this.1];exact oq.2.neg,by rw[<-this.2];exact oq.1.neg⟩
 . have:=h1.2 h2
   exact⟨by rw[<-this.1];exact oq.2,by rw[<-this.2];exact oq.1⟩
theorem Zc2{m n:Nat}(h:dg m=dg n):m=n:=by rw[<-Yz m,<-Yz n,h]
end
end Den
end

section
namespace Iv
open Den
end Iv
namespace Den
open Go Iv
section
variable {h : Hp} {m n : Int} {a b : TInt} {x y : Sl} {l : List Nat} {j k : Nat} {Ks : Sl → Hp → Prop} {Ki : Int → Hp → Prop} {Kb : Bool → Hp → Prop} {KI : TInt → Hp → Prop} {KE : (TInt × Int) → Hp → Prop}
end
end Den
end

section
namespace Iv
open Den
end Iv
namespace Den
open Go Iv
section
variable {h : Hp} {a : TInt} {KE : (TInt × Int) → Hp → Prop}
end
end Den
end

section
namespace Den
open Go Iv
theorem z9r{α:Type}{c:α->List Value}{n:Nat}(hc:∀x,(c x).length=n):∀{xs:List α} {k j:Nat} (hk:k<xs.length),j<n->(xs.flatMap c)[k*n+j]?=(c xs[k])[j]?
 | [],k,j,hk,_=>by simp at hk
 | x :: r,0,j,hk,hj=>by
   rw[List.flatMap_cons,Nat.zero_mul,Nat.zero_add,List.getElem?_append_left (by rw[hc];exact hj)]
   rfl
 | x :: r,k+1,j,hk,hj=>by
   rw[List.flatMap_cons,List.getElem?_append_right (by rw[hc,Nat.add_mul];omega),hc]
   have:(k+1)*n+j-n=k*n+j:=by rw[Nat.add_mul];omega
   rw[this,z9r hc (by simpa using hk) hj]
   rfl
theorem Y4{α:Type}{c:α->List Value}{n:Nat}(hc:∀x,(c x).length=n)(xs:List α):(xs.flatMap c).length=xs.length*n:=by
 induction xs with
 | nil=>simp
 | cons x r ih=>rw[List.flatMap_cons,List.length_append,hc,ih,List.length_cons,Nat.add_mul];omega
def qc(x:TRat):List Value:=[.bool x.num.neg,.slice x.num.mag.a x.num.mag.len x.num.mag.cap,.bool x.den.neg,.slice x.den.mag.a x.den.mag.len x.den.mag.cap]
theorem zsp(x:TRat):(qc x).length=4:=rfl
abbrev RdQ(h:Hp)(l:Sl)(xs:List TRat):Prop:=Rd h 4 l (xs.flatMap qc)
theorem RdQ.len{h:Hp}{l:Sl}{xs:List TRat}(hr:RdQ h l xs):l.len=xs.length:=by
 have:=hr.1
 rw[Y4 zsp]at this;omega
theorem zia{h:Hp}{l:Sl}{xs:List TRat}{i:Int}{K:Bool->Sl->Bool->Sl->Prop}(k:Nat)(hr:RdQ h l xs)(hi:i=k)(hk:k<xs.length)
 (H:K xs[k].num.neg xs[k].num.mag xs[k].den.neg xs[k].den.mag) :
 zg l i 4 λa=>ldL .bool (a.add 0) (λx0=>ldL .sl (a.add 1) (λx1=>ldL .bool (a.add 2) (λx2=>ldL .sl (a.add 3) (λx3=>K x0 x1 x2 x3) h) h) h) h:=by
 refine zlz k hr hi (by rw[hr.len];exact hk) (by decide) λa ha=>?_
 have g:∀j v,j<4->(qc xs[k])[j]?=some v->h.cell (a.add j)=some v:=λj v hj hv=>ha j v (by rw[z9r zsp hk hj];exact hv)
 exact⟨_,g 0 _ (by decide) rfl,_,g 1 _ (by decide) rfl,_,g 2 _ (by decide) rfl,_,g 3 _ (by decide) rfl,H⟩
def QL(h:Hp)(B:Nat)(xs:List TRat)(vs:List Rat):Prop:=xs.length=vs.length/\∀k (h1:k<xs.length) (h2:k<vs.length),NR h xs[k] vs[k]/\BR B vs[k]
theorem QL.le{h h':Hp}{B:Nat}{xs:List TRat}{vs:List Rat}(hq:QL h B xs vs)(hl:h.le h'):QL h' B xs vs:=⟨hq.1,λk h1 h2=>⟨(hq.2 k h1 h2).1.le hl,(hq.2 k h1 h2).2⟩⟩
def hiS(m x:Rat):Rat:=if m<x then x else m
abbrev q4(s:Bool×Sl×Bool×Sl×Unit):TRat:=⟨⟨s.1,s.2.1⟩,⟨s.2.2.1,s.2.2.2.1⟩⟩
section
variable {h : Hp} {l : Sl} {B : Nat} {xs : List TRat} {vs : List Rat} {v0 : Rat} {KV : TInterval → Hp → Prop}
end
end Den
end

section
namespace Den
open Go Iv
theorem ze2{α:Type}{G:(α->Hp->Prop)->Hp->Prop}{K1 K:α->Hp->Prop}{D h:Hp}(hD:D.le h)(H:zc G K1 D)
 (k:∀v D' h',D.le D'->D'.le h'->(∀j,D j=none->h j≠none->D' j=none/\h' j=h j)->K1 v D'->K v h'):zc G K h:=by
 obtain⟨O,hO⟩:∃O:Hp,O=λj=>match D j with | none=>h j | some _=>none:=⟨_,rfl⟩
 have e:h=D.add O:=by
  funext j
  unfold Hp.add
  rw[hO]
  cases hj:D j with
  | none=>simp[hj]
  | some b=>simp[hD j b hj]
 have hdj:D.dj O:=λj=>by
  cases hj:D j with
  | none=>exact .inl rfl
  | some b=>right;rw[hO];simp[hj]
 rw[e]
 refine zni hdj H λv D' hl hdj' hk=>k v D' _ hl (Hp.le_add _ _) (λj h1 h2=>?_) hk
 have e2:h j=O j:=by rw[hO];simp[h1]
 rw[e2]at h2 |-
 have h3:D' j=none:=by
  rcases hdj' j with h4 | h4
  . exact h4
  . exact absurd h4 h2
 exact⟨h3,by unfold Hp.add;rw[h3]⟩
theorem Own.move{D h D' h':Hp}{n:Nat}{l:Sl}{cs:List Value}(ho:Own D h n l cs)(h1:D'.le h')(hfr:∀j,D j=none->h j≠none->D' j=none/\h' j=h j):Own D' h' n l cs:=by
 obtain⟨g1,g2,g3,g4⟩:=ho
 refine⟨h1,g2,g3,?_⟩
 cases ha:l.a with
 | none=>rw[ha]at g4;exact g4
 | some a=>
   rw[ha]at g4
   obtain⟨k1,k2,k3,b,k4,k5⟩:=g4
   have:=hfr a.block k3 (by rw[k4];simp)
   exact⟨k1,k2,this.1,b,by rw[this.2];exact k4,k5⟩
theorem Own.call{α:Type}{G:(α->Hp->Prop)->Hp->Prop}{K1 K:α->Hp->Prop}{D h:Hp}{n:Nat}{l:Sl}{cs:List Value}(ho:Own D h n l cs)(H:zc G K1 D)
 (k:∀v D' h',D.le D'->Own D' h' n l cs->K1 v D'->K v h'):zc G K h:=
 ze2 ho.1 H λv D' h' h1 h2 h3 h4=>k v D' h' h1 (ho.move h2 h3) h4
def Apt(x y:Sl):Prop:=∀a b,x.a=some a->y.a=some b->a.block≠b.block
theorem Apt.symm{x y:Sl}(h:Apt x y):Apt y x:=λa b h1 h2=>(h b a h2 h1).symm
theorem Z4s{D h h':Hp}{n:Nat}{l x:Sl}{cs:List Value}(ho:Own D h n l cs)(hap:Apt x l)(hl:D.le h')(hs:∀j,(∀a,x.a=some a->j≠a.block)->h' j=h j):Own D h' n l cs:=by
 obtain⟨g1,g2,g3,g4⟩:=ho
 refine⟨hl,g2,g3,?_⟩
 cases ha:l.a with
 | none=>rw[ha]at g4;exact g4
 | some a=>
   rw[ha]at g4
   obtain⟨k1,k2,k3,b,k4,k5⟩:=g4
   exact⟨k1,k2,k3,b,by rw[hs a.block λc hc=>(hap c a hc ha).symm];exact k4,k5⟩
theorem zv7{h0 h:Hp}{size:Nat}{x:Sl}{cs vs:List Value}{i:Int}{K:Hp->Prop}(k:Nat)(ho:Own h0 h size x cs)(hi:i=k)(hk:k<x.len)(hv:vs.length=size)(hsz:0<size)(hleaf:vs.all Value.leaf=true)
 (H:∀h',Own h0 h' size x (Zb cs (k*size) vs)->(∀j,(∀a,x.a=some a->j≠a.block)->h' j=h j)->K h'):zg x i size λa=>stP a vs K h:=by
 subst hi
 obtain⟨h1,h2,h3,h4⟩:=ho
 refine⟨by omega,by omega,?_⟩
 cases ha:x.a with
 | none=>rw[ha]at h4;simp only at h4;omega
 | some a=>
   rw[ha]at h4
   obtain⟨g1,g2,g3,b,g4,g5,g6,g7⟩:=h4
   have e0:((k:Int).toNat)=k:=rfl
   have e1:k*size+size<=cs.length:=by
    rw[<-h2]
    have:=Nat.mul_le_mul_right size (show k+1<=x.len by omega)
    rw[Nat.add_mul]at this;omega
   have e2:cs.length<=b.cells.length:=by rw[g6,<-h2];exact Nat.mul_le_mul_right _ h3
   show yu (some a) _
   simp only[yu,e0]
   refine⟨b,by rw[Yg];exact g4,V6 g2 _,g5,by rw[Xv];omega,hleaf,?_⟩
   rw[Yg,Xv,g1,Nat.zero_add]
   refine H _ ⟨?_,?_,h3,?_⟩ λj hj=>?_
   . intro kk bk hkk
     rw[Hp.ins_ne (λhh=>by subst hh;rw[g3]at hkk;cases hkk)]
     exact h1 kk bk hkk
   . rw[Ya (by omega)];exact h2
   . rw[ha]
     refine⟨g1,g2,g3,_,Hp.ins_same _ _ _,g5,?_,?_⟩
     . show(Zb b.cells (k*size) vs).length=_
       rw[Ya (by omega)];exact g6
     . show(Zb b.cells (k*size) vs).take _=_
       rw[Ya (by omega)]
       exact zad (by omega) g7
   . exact Hp.ins_ne (hj a ha)
section
variable {α : Type} {c : α → List Value} {n : Nat}
theorem zfi(hc:∀x,(c x).length=n){x:α}:∀{xs:List α} {k:Nat},k<xs.length->Zb (xs.flatMap c) (k*n) (c x)=(xs.set k x).flatMap c
 | [],k,h=>by simp at h
 | y :: r,0,h=>by
   unfold Zb
   simp only[Nat.zero_mul,List.take_zero,List.nil_append,Nat.zero_add,List.set_cons_zero,List.flatMap_cons,hc]
   congr 1
   rw[<-hc y,List.drop_left]
 | y :: r,k+1,h=>by
   have ih:=zfi hc (x:=x) (xs:=r) (k:=k) (by simpa using h)
   unfold Zb at ih |-
   rw[hc]at ih |-
   have e1:(k+1)*n=n+k*n:=by rw[Nat.add_mul];omega
   have e2:n+k*n+n=n+(k*n+n):=by omega
   simp only[List.flatMap_cons,List.set_cons_succ]
   rw[e1,e2,<-ih]
   have e3:∀j,(c y++r.flatMap c).take (n+j)=c y++(r.flatMap c).take j:=λj=>by
    rw[List.take_append,hc,Nat.add_sub_cancel_left,List.take_of_length_le (by rw[hc];omega)]
   have e4:∀j,(c y++r.flatMap c).drop (n+j)=(r.flatMap c).drop j:=λj=>by
    rw[List.drop_append,hc,Nat.add_sub_cancel_left,List.drop_of_length_le (by rw[hc];omega),List.nil_append]
   rw[e3,e4]
   simp[List.append_assoc]
theorem Own.flen(hc:∀x,(c x).length=n)(hn:0<n){D h:Hp}{l:Sl}{xs:List α}(ho:Own D h n l (xs.flatMap c)):l.len=xs.length:=by
 have:=ho.2.1
 rw[Y4 hc]at this
 exact Nat.eq_of_mul_eq_mul_right hn this
theorem zv3(hc:∀x,(c x).length=n)(hn:0<n){D h:Hp}{l:Sl}{xs:List α}{x:α}{i:Int}{K:Hp->Prop}(k:Nat)(ho:Own D h n l (xs.flatMap c))(hi:i=k)(hk:k<xs.length)(hleaf:(c x).all Value.leaf=true)
 (H:∀h',Own D h' n l ((xs.set k x).flatMap c)->(∀j,(∀a,l.a=some a->j≠a.block)->h' j=h j)->K h'):zg l i n λa=>stP a (c x) K h:=by
 refine zv7 k ho hi (by rw[ho.flen hc hn];exact hk) (hc x) hn hleaf λh' h1 h2=>H h' ?_ h2
 rw[zfi hc hk]at h1
 exact h1
end
theorem QL.mono{h:Hp}{B C:Nat}{xs:List TRat}{vs:List Rat}(hq:QL h B xs vs)(hB:B<=C):QL h C xs vs:=⟨hq.1,λk h1 h2=>⟨(hq.2 k h1 h2).1,(hq.2 k h1 h2).2.mono hB⟩⟩
theorem QL.bound{h:Hp}{B:Nat}{xs:List TRat}{vs:List Rat}(hq:QL h B xs vs):∀v∈vs,BR B v:=λv hv=>by
 obtain⟨i,hi,rfl⟩:=List.mem_iff_getElem.1 hv
 exact(hq.2 i (by rw[hq.1];exact hi) hi).2
def PL(h:Hp)(B:Nat)(l:Sl)(p:List Rat):Prop:=∃xs,RdQ h l xs/\QL h B xs p/\l.len<=l.cap
section
variable {D h h' h0 : Hp} {B : Nat} {l : Sl} {p : List Rat}
theorem PL.le(hp:PL h B l p)(hl:h.le h'):PL h' B l p:=by
 obtain⟨xs,h1,h2,h3⟩:=hp
 exact⟨xs,h1.le hl,h2.le hl,h3⟩
theorem PL.mono{C:Nat}(hp:PL h B l p)(hB:B<=C):PL h C l p:=by
 obtain⟨xs,h1,h2,h3⟩:=hp
 exact⟨xs,h1,h2.mono hB,h3⟩
theorem PL.len(hp:PL h B l p):l.len=p.length:=by
 obtain⟨xs,h1,h2,h3⟩:=hp
 rw[RdQ.len h1,h2.1]
theorem PL.bound(hp:PL h B l p):∀v∈p,BR B v:=by obtain⟨xs,h1,h2,h3⟩:=hp;exact h2.bound
theorem PL.get{i:Int}{K:Bool->Sl->Bool->Sl->Prop}(k:Nat)(hp:PL h B l p)(hi:i=k)(hk:k<p.length)
 (H:∀x:TRat,NR h x p[k]->BR B p[k]->K x.num.neg x.num.mag x.den.neg x.den.mag) :
 zg l i 4 λa=>ldL .bool (a.add 0) (λx0=>ldL .sl (a.add 1) (λx1=>ldL .bool (a.add 2) (λx2=>ldL .sl (a.add 3) (λx3=>K x0 x1 x2 x3) h) h) h) h:=by
 obtain⟨xs,h1,h2,h3⟩:=hp
 have hk':k<xs.length:=by rw[h2.1];exact hk
 have:=h2.2 k hk' hk
 exact zia k h1 hi hk' (H _ this.1 this.2)
end
end Den
end

section
namespace Den
open Go Iv
theorem Y0{body:(Int×Unit)->((Int×Unit)->Hp->Prop)->Hp->Prop}{h0:Hp}{n:Nat}(hn:n<=140737488355328)(I:Nat->Hp->Prop)(h:I 0 h0)
 (step:∀i h,i<=n->I i h->∀k,(∀h',i<n->I (i+1) h'->k (i64.wrap ((i:Int)+1),()) h')->body ((i:Int),()) k h):zr body (0,()) h0:=by
 refine yx (λst h'=>∃i:Nat,st.1=(i:Int)/\i<=n/\I i h') (λst=>(n-st.1).toNat) ⟨0,rfl,Nat.zero_le _,h⟩ ?_
 rintro⟨_,_⟩ h' ⟨i,rfl,hi,hI⟩
 refine step i h' hi hI _ λh2 hlt hI2=>⟨⟨i+1,?_,hlt,hI2⟩,?_⟩
 . simp only;rw[w64 (by omega)];rfl
 . simp only;rw[w64 (by omega)];omega
theorem Yt{α:Type}{body:(α×Int×Unit)->((α×Int×Unit)->Hp->Prop)->Hp->Prop}{a0:α}{h0:Hp}{n:Nat}(hn:n<=140737488355328)(I:Nat->α->Hp->Prop)(h:I 0 a0 h0)
 (step:∀i a h,i<=n->I i a h->∀k,(∀a' h',i<n->I (i+1) a' h'->k (a',i64.wrap ((i:Int)+1),()) h')->body (a,(i:Int),()) k h):zr body (a0,0,()) h0:=by
 refine yx (λst h'=>∃i:Nat,st.2.1=(i:Int)/\i<=n/\I i st.1 h') (λst=>(n-st.2.1).toNat) ⟨0,rfl,Nat.zero_le _,h⟩ ?_
 rintro⟨a,_,_⟩ h' ⟨i,rfl,hi,hI⟩
 refine step i a h' hi hI _ λa2 h2 hlt hI2=>⟨⟨i+1,?_,hlt,hI2⟩,?_⟩
 . simp only;rw[w64 (by omega)];rfl
 . simp only;rw[w64 (by omega)];omega
theorem zoj{α β:Type}{body:(α×β×Int×Unit)->((α×β×Int×Unit)->Hp->Prop)->Hp->Prop}{a0:α}{b0:β}{h0:Hp}{n:Nat}(hn:n<=140737488355328)(I:Nat->α->β->Hp->Prop)(h:I 0 a0 b0 h0)
 (step:∀i a b h,i<=n->I i a b h->∀k,(∀a' b' h',i<n->I (i+1) a' b' h'->k (a',b',i64.wrap ((i:Int)+1),()) h')->body (a,b,(i:Int),()) k h):zr body (a0,b0,0,()) h0:=by
 refine yx (λst h'=>∃i:Nat,st.2.2.1=(i:Int)/\i<=n/\I i st.1 st.2.1 h') (λst=>(n-st.2.2.1).toNat) ⟨0,rfl,Nat.zero_le _,h⟩ ?_
 rintro⟨a,b,_,_⟩ h' ⟨i,rfl,hi,hI⟩
 refine step i a b h' hi hI _ λa2 b2 h2 hlt hI2=>⟨⟨i+1,?_,hlt,hI2⟩,?_⟩
 . simp only;rw[w64 (by omega)];rfl
 . simp only;rw[w64 (by omega)];omega
theorem zde{α:Type}{c:α->List Value}{n:Nat}{h:Hp}{l:Sl}{xs:List α}{i:Int}{K:Addr->Prop}(hc:∀x,(c x).length=n)(hn:0<n)(hr:Rd h n l (xs.flatMap c))(k:Nat)(hi:i=k)(hk:k<xs.length)
 (H:∀a,(∀j v,j<n->(c xs[k])[j]?=some v->h.cell (a.add j)=some v)->K a):zg l i n K:=by
 have hl:l.len=xs.length:=by
  have:=hr.1
  rw[Y4 hc]at this
  exact Nat.eq_of_mul_eq_mul_right hn this
 exact zlz k hr hi (by omega) hn λa ha=>H a λj v hj hv=>ha j v (by rw[z9r hc hk hj];exact hv)
def ic(z:Int):Value:=.int .i64 z
def IL(h:Hp)(l:Sl)(xs:List Int):Prop:=Rd h 1 l (xs.map ic)/\l.len<=l.cap
def OI(D h:Hp)(l:Sl)(xs:List Int):Prop:=Own D h 1 l (xs.map ic)
section
variable {D h h' : Hp} {l m : Sl} {xs ys : List Int} {n : Int} {Kb : Bool → Hp → Prop} {Ki : Int → Hp → Prop} {Ks : Sl → Hp → Prop}
theorem IL.le(hx:IL h l xs)(hl:h.le h'):IL h' l xs:=⟨hx.1.le hl,hx.2⟩
theorem IL.len(hx:IL h l xs):l.len=xs.length:=by have:=hx.1.1;simp at this;omega
theorem IL.nil:IL h zf []:=⟨Rd.nil,Nat.le_refl _⟩
theorem IL.get{i:Int}{K:Int->Prop}(hx:IL h l xs)(k:Nat)(hi:i=k)(hk:k<xs.length)(H:K xs[k]):zg l i 1 λa=>ldL (.int .i64) a K h:=by
 refine zi9 k hx.1 hi (v:=ic xs[k]) (by rw[List.getElem?_map,List.getElem?_eq_getElem hk];rfl) λa ha=>⟨xs[k],ha,H⟩
theorem IL.cut(hx:IL h l xs){n:Nat}(hn:n<=xs.length):IL h (l.cut 0 n 1) (xs.take n):=by
 have hl:=hx.len
 have hc:=hx.2
 refine⟨⟨?_,?_⟩,?_⟩
 . show(n-0)*1=_
   simp;omega
 . have e:((xs.take n).map ic).length=n:=by simp;omega
   rw[e]
   have h2:=hx.1.2
   have ea:(l.cut 0 n 1).a=l.a:=by
    show(if l.cap=0 then l.a else l.a.map (·.add (0*1)))=l.a
    split
    . rfl
    . cases l.a with
      | none=>rfl
      | some a=>simp only[Option.map_some,Nat.zero_mul,Zv]
   rw[ea]
   cases ha:l.a with
   | some a=>
     rw[ha]at h2
     have key:∀{m n:Nat} {L:List Value},Zw h a m=some L->n<=m->Zw h a n=some (L.take n):=by
      intro m
      induction m with
      | zero=>
        intro n L e hn
        have:n=0:=by omega
        subst this;simp[Zw]
      | succ m ih=>
        intro n L e hn
        have hl:=z2d e
        by_cases h1:n=m+1
        . subst h1;rw[e,List.take_of_length_le (by omega)]
        . unfold Zw at e
          split at e
          . rename_i l1 h2
            split at e
            . rename_i v hv
              simp only[Option.some.injEq]at e
              subst e
              have h3:=z2d h2
              rw[ih h2 (show n<=m by omega),List.take_append_of_le_length (by omega)]
            . cases e
          . cases e
     have:=key h2 (n:=n) (by simp;omega)
     show Zw h a n=_
     rw[this,List.map_take]
   | none=>
     rw[ha]at h2
     simp only[Z0]at h2 |-
     split at h2
     . rename_i h5
       simp only[Option.some.injEq]at h2
       have:n=0:=by simp at h5;subst h5;simp at hn;omega
       subst this
       simp
     . cases h2
 . show n-0<=l.cap-0;omega
theorem OI.il(ho:OI D h l xs):IL h l xs:=⟨ho.rd,ho.2.2.1⟩
theorem OI.dle(ho:OI D h l xs):D.le h:=ho.1
theorem OI.nil:OI h h zf []:=Own.nil (Hp.le_refl _)
theorem OI.app{x:Int}(ho:OI D h l xs)(hlen:xs.length<=1000000)(H:∀y h',OI D h' y (xs++[x])->Ks y h'):Y5 1 8 [.int .i64 0] l 1 [.int .i64 x] Ks h:=by
 have hl:=ho.il.len
 refine z43 ho (n:=1) (new:=[ic x]) rfl rfl rfl (by omega) (by omega) λy h' hy _=>H y h' ?_
 unfold OI;rw[List.map_append];exact hy
theorem zhi(hx:IL h l xs)(hlen:xs.length<=1000000)(H:∀r h',h.le h'->(0<=r↔n∈xs)->Ki r h'):zc (F.Xl l n) Ki h:=by
 refine zd (λr h'=>(0<=r↔n∈xs)) (λK' hk=>?_) λb h' hl hb=>H b h' hl hb
 unfold F.Xl
 have hl:=hx.len
 refine Y0 (n:=xs.length) (by omega) (λi h'=>h'=h/\n∉xs.take i) ⟨rfl,by simp⟩ ?_
 rintro i _ hi ⟨rfl,hno⟩ k hk2
 refine ze (λh1=>?_) (λh1=>?_)
 . have hi':i<xs.length:=by simp only at h1;omega
   refine hx.get i rfl hi' ?_
   refine zz (λh2=>hk _ _ (Hp.le_refl _) ⟨λ_=>?_,λ_=>by simp only;omega⟩) (λh2=>hk2 _ hi' ⟨rfl,?_⟩)
   . rw[h2];exact List.getElem_mem _
   . rw[<-List.take_append_getElem hi',List.mem_append,List.mem_singleton]
     rintro(h3 | h3)
     . exact hno h3
     . exact h2 h3
 . refine hk _ _ (Hp.le_refl _) ⟨λhh=>by omega,λhh=>?_⟩
   have:i=xs.length:=by simp only at h1;omega
   subst this
   rw[List.take_length]at hno
   exact absurd hh hno
theorem Wy(hx:IL h l xs)(hlen:xs.length<=1000000)(H:∀h',h.le h'->Kb (decide (n∈xs)) h'):zc (F.Zz l n) Kb h:=by
 refine zd (λb h'=>b=decide (n∈xs)) (λK' hk=>?_) λb h' hl hb=>by subst hb;exact H h' hl
 unfold F.Zz
 refine zhi hx hlen λr h' hl hr=>hk _ _ hl ?_
 by_cases hm:n∈xs
 . rw[decide_eq_true hm,decide_eq_true (hr.2 hm)]
 . rw[decide_eq_false hm,decide_eq_false λhh=>hm (hr.1 hh)]
theorem zo9(hx:IL h l xs)(hlen:xs.length<=1000000)(H:∀y h',OI h h' y xs->Ks y h'):zc (F.Wu l) Ks h:=by
 refine zd (λy h'=>OI h h' y xs) (λK' hk=>?_) λb h' _ hb=>H b h' hb
 unfold F.Wu
 have hl:=hx.len
 cases ha:l.a with
 | none=>
   refine y7 rfl ?_
   have h2:=hx.1.2
   rw[ha]at h2
   simp only[Z0]at h2
   split at h2
   . rename_i h5
     have:xs=[]:=by simpa using h5
     subst this
     exact hk _ _ (Hp.le_refl _) OI.nil
   . cases h2
 | some a=>
   refine zt rfl ?_
   rw[<-ha]
   intro b el hb
   refine⟨xs.map ic,?_,?_⟩
   . have:=z6v (Hp.le_ins hb (b:=⟨[],el,(0,0)⟩)) hx.1.2
     rw[List.length_map]at this
     rw[hl,Nat.mul_one];exact this
   . have ho:Own h (h.ins b ⟨[],el,(0,0)⟩) 1 ⟨some ⟨b,0,none⟩,0,0⟩ []:=⟨Hp.le_ins hb,rfl,Nat.le_refl _,rfl,rfl,hb,_,Hp.ins_same _ _ _,rfl,rfl,rfl⟩
     refine z43 ho (n:=l.len) (new:=xs.map ic) (by simp[hl]) rfl (by simp[ic,Value.leaf]) (by simp only;omega) (by simp only;omega) λy h' hy _=>?_
     rw[List.nil_append]at hy
     exact hk _ _ hy.1 hy
end
end Den
end

section
namespace Lx
abbrev B:=List UInt8
def isL(c:UInt8):Bool:=(97<=c&&c<=122)||(65<=c&&c<=90)
def isD(c:UInt8):Bool:=48<=c&&c<=57
def isW(c:UInt8):Bool:=isL c||isD c||c==95
def spn(p:UInt8->Bool):B->Nat
 | []=>0
 | c :: r=>if p c=true then spn p r+1 else 0
def num(l:B):Nat:=
 match l.drop (spn isD l)with
 | []=>spn isD l
 | c :: r=>if c=46/\0<spn isD r then spn isD l+1+spn isD r else spn isD l
def qs:Nat->B->Option (Nat×B)
 | 0,_=>none
 | _,[]=>none
 | f+1,c :: r=>
   if c<32 then none else if c=34 then some (1,[])
   else if c=92 then
    match r with
    | []=>none
    | d :: r'=>if d=34\/d=92\/d=110 then (qs f r').map λp=>(p.1+2,(if d=110 then 10 else d) :: p.2)else none
   else (qs f r).map λp=>(p.1+1,c :: p.2)
def quo(l:B):Option (Nat×B):=
 match l with
 | []=>none
 | c :: r=>if c=34 then (qs (r.length+1) r).map λp=>(p.1+1,p.2)else none
def Z42(l:B):Bool:=
 match l with
 | []=>false
 | c :: r=>decide ((c :: r).length<=24)&&isL c&&(spn isW (c :: r)==(c :: r).length)
end Lx
end

section
namespace Den
open Go Lx
theorem zw3{l:List UInt8}{k:Nat}{c:UInt8}{r:List UInt8}(h:l.drop k=c :: r):l.drop (k+1)=r/\k<l.length:=by
 have h2:(l.drop k).length=r.length+1:=by rw[h];rfl
 rw[List.length_drop]at h2
 refine⟨?_,by omega⟩
 rw[<-List.drop_drop,h];rfl
theorem Z8o(c:UInt8):isL c=((decide ((c.toNat:Int)>=97)&&decide ((c.toNat:Int)<=122))||(decide ((c.toNat:Int)>=65)&&decide ((c.toNat:Int)<=90))):=by
 rw[Bool.eq_iff_iff]
 simp[isL,UInt8.le_iff_toNat_le]
 omega
theorem Z8n(c:UInt8):isD c=(decide ((c.toNat:Int)>=48)&&decide ((c.toNat:Int)<=57)):=by
 rw[Bool.eq_iff_iff]
 simp[isD,UInt8.le_iff_toNat_le]
 omega
theorem Zki{c:UInt8}{n:Nat}(hn:n<256):(c.toNat:Int)=(n:Int)↔c=UInt8.ofNat n:=by
 rw[<-UInt8.toNat_inj]
 simp
 omega
section
variable {K : Bool → Hp → Prop} {Ki : Int → Hp → Prop} {h : Hp} {c : UInt8} {s : ByteArray}
theorem zfl(H:K (isL c) h):F.z0c c.toNat K h:=by
 rw[Z8o]at H
 unfold F.z0c
 generalize decide ((c.toNat:Int)>=97)=a1 at H |-
 generalize decide ((c.toNat:Int)<=122)=a2 at H |-
 generalize decide ((c.toNat:Int)>=65)=a3 at H |-
 cases a1<;>cases a2<;>cases a3<;>exact H
theorem zs7(H:K (isD c) h):F.z1l c.toNat K h:=by
 rw[Z8n]at H
 unfold F.z1l
 generalize decide ((c.toNat:Int)>=48)=a1 at H |-
 cases a1<;>exact H
theorem zwm(H:K (isW c) h):F.z5g c.toNat K h:=by
 unfold F.z5g
 refine Zf (isL c) (λK'=>zfl) ?_
 unfold isW at H
 cases h1:isL c
 . show zc (F.z1l ↑c.toNat) (λr2 h2=>ifP r2 (K true h2) (K ((c.toNat:Int)==95) h2)) h
   refine Zf (isD c) (λK'=>zs7) ?_
   rw[h1]at H
   cases h2:isD c
   . rw[h2]at H
     have:((c.toNat:Int)==95)=(c==95):=by
      rw[Bool.eq_iff_iff]
      simp only[beq_iff_eq]
      exact Zki (n:=95) (by decide)
     show K ((c.toNat:Int)==95) h
     rw[this];exact H
   . rw[h2]at H;exact H
 . rw[h1]at H;exact H
theorem zmm(hs:s.size<=1000000)(H:Ki (spn isW (BS s)) h):F.Xn s Ki h:=by
 unfold F.Xn
 refine yx (λst h'=>h'=h/\∃k:Nat,st=((k:Int),())/\spn isW (BS s)=k+spn isW ((BS s).drop k)) (λst=>((s.size:Int)-st.1).toNat) ⟨rfl,0,rfl,by simp⟩ ?_
 rintro st h' ⟨rfl,k,rfl,hk⟩
 refine zod (ze (λh1=>?_) (λh1=>?_))
 . cases hd:(BS s).drop k with
   | nil=>have:=List.drop_eq_nil_iff.1 hd;rw[z3k]at this;simp only at h1;omega
   | cons c r=>
     obtain⟨h2,h3⟩:=zw3 hd
     rw[z3k]at h3
     refine zaf hd rfl (Zf (isW c) (λK'=>zwm) (zp (λh4=>?_) (λh4=>?_)))
     . simp only at h1
       refine⟨⟨rfl,k+1,by simp only;rw[w64 (by omega)];rfl,?_⟩,by simp only;rw[w64 (by omega)];omega⟩
       rw[h2,hk,hd];simp only[spn,h4,if_true];omega
     . rw[hk,hd]at H
       simp only[spn,h4]at H
       simpa using H
 . have hd:(BS s).drop k=[]:=by apply List.drop_eq_nil_of_le;rw[z3k];simp only at h1;omega
   rw[hk,hd]at H
   simpa [spn] using H
end
end Den
end

section
namespace Den
open Go Lx
section
variable {Kp : Int × Int → Hp → Prop} {Kt : Sl × Int × Int → Hp → Prop} {K : Bool → Hp → Prop} {h : Hp} {s : ByteArray}
theorem zbf:(X6:ByteArray).toList=[]:=by rw[z7m];rfl
theorem zwk{A B:Prop}(hA:BS s≠[]->A)(hB:BS s=[]->B):ifP (!((s:ByteArray).toList==(X6:ByteArray).toList)) A B:=by
 rw[zbf,z7m]
 refine zp (λhh=>hA ?_) (λhh=>hB ?_)
 . intro h0;rw[h0]at hh;cases hh
 . simpa using hh
theorem zvj(H:K (Z42 (BS s)) h):F.z0t s K h:=by
 unfold F.z0t
 refine zwk (λh1=>?_) (λh1=>by rw[h1]at H;exact H)
 cases hd:BS s with
 | nil=>exact absurd hd h1
 | cons c r=>
   have hl:s.size=(c :: r).length:=by rw[<-z3k,hd]
   rw[hd]at H
   unfold Z42 at H
   simp only at H
   refine ze (λh2=>?_) (λh2=>?_)
   . rw[decide_eq_true (show(c :: r).length<=24 by omega)]at H
     refine zaf (k:=0) (by rw[List.drop_zero];exact hd) rfl (Zf (isL c) (λK'=>zfl) (zp (λh3=>?_) (λh3=>?_)))
     . rw[h3]at H
       refine Zf _ (λK'=>zmm (by omega)) ?_
       have:((spn isW (BS s):Int)==(s.size:Int))=(spn isW (c :: r)==(c :: r).length):=by
        rw[Bool.eq_iff_iff];simp only[beq_iff_eq];rw[hd,hl];omega
       rw[this];simpa using H
     . rw[h3]at H;simpa using H
   . rw[decide_eq_false (show ¬(c :: r).length<=24 by omega)]at H
     exact H
end
end Den
end

section
namespace Den
open Go Lx
section
variable {Kp : Int × ByteArray → Hp → Prop} {Kt : Sl × Int × Int → Hp → Prop} {K : Bool → Hp → Prop} {Ki : Int → Hp → Prop} {h : Hp} {s : ByteArray} {c : UInt8} {p : Nat}
def Xf(l:List UInt8):List Value:=l.map λb=>.int .u8 b.toNat
end
end Den
end

section
namespace Den
open Go Lx
section
variable {Kt : Sl × Int × Int → Hp → Prop} {K : Bool → Hp → Prop} {h : Hp} {s : ByteArray}
end
end Den
end

section
namespace Den
open Go Lx
section
variable {K : Bool → Hp → Prop} {h : Hp} {s : ByteArray}
end
end Den
end

section
namespace Den
open Go Lx
def zq3(t:TypeId)(h0 h:Hp)(x:Sl)(cs:List Value):Prop:=Own h0 h 1 x cs/\∀a b,x.a=some a->h a.block=some b->b.elem=t
theorem Z8x{h0 h:Hp}{x:Sl}{cs:List Value}{n:Nat}{bl:Blk}(ho:Own h0 h 1 x cs)(hn:h0 n=none)(hne:∀a,x.a=some a->a.block≠n):Own h0 (h.ins n bl) 1 x cs:=by
 obtain⟨h1,h2,h3,h4⟩:=ho
 refine⟨λk b hk=>?_,h2,h3,?_⟩
 . rw[Hp.ins_ne (λhh=>by rw[hh,hn]at hk;cases hk)]
   exact h1 k b hk
 . cases ha:x.a with
   | none=>rw[ha]at h4;exact h4
   | some a=>
     rw[ha]at h4
     obtain⟨g1,g2,g3,b,g4,g5⟩:=h4
     exact⟨g1,g2,g3,b,by rw[Hp.ins_ne (hne a ha)];exact g4,g5⟩
theorem zq3.ins{t:TypeId}{h0 h:Hp}{x:Sl}{cs:List Value}{n:Nat}{bl:Blk}(ho:zq3 t h0 h x cs)(hn:h0 n=none)(hne:∀a,x.a=some a->a.block≠n):zq3 t h0 (h.ins n bl) x cs:=
 ⟨Z8x ho.1 hn hne,λa b ha hb=>ho.2 a b ha (by rwa [Hp.ins_ne (hne a ha)]at hb)⟩
theorem zy7{t:TypeId}{h0 h:Hp}{n N:Nat}{zero new cs:List Value}{x:Sl}{K:Sl->Hp->Prop}(hN:h N≠none)(hNx:∀a,x.a=some a->a.block≠N)(ho:zq3 t h0 h x cs)(hn:new.length=n)(hz:zero.length=1)
 (hleaf:new.all Value.leaf=true) (hb:x.len+n<=140737488355328)
 (H:∀y h',zq3 t h0 h' y (cs++new)->(∀a,y.a=some a->a.block≠N)->h' N=h N->y.len=x.len+n->(y.a=none->x.a=none/\n=0)->K y h'):zl0 t 1 1 zero x n new K h:=by
 obtain⟨ho,hel⟩:=ho
 have hrd:=ho.rd
 obtain⟨h1,h2,h3,h4⟩:=ho
 rw[Nat.mul_one]at h2
 refine⟨by rw[Nat.mul_one];exact hb,hb,λhfit=>?_,λhgrow=>?_⟩
 . cases ha:x.a with
   | none=>
     rw[ha]at h4
     simp only at h4
     have hn0:n=0:=by omega
     have hnew:new=[]:=List.eq_nil_of_length_eq_zero (by omega)
     subst hnew hn0
     simp only[stO]
     refine H _ _ ⟨⟨h1,?_,?_,?_⟩,λa b hh=>by cases hh⟩ (λa hh=>by cases hh) rfl rfl (λ_=>⟨ha,rfl⟩)
     . simpa using h2
     . show x.len+0<=x.cap;omega
     . show x.cap=0;exact h4
   | some a=>
     rw[ha]at h4
     obtain⟨g1,g2,g3,b,g4,g5,g6,g7⟩:=h4
     rw[Nat.mul_one]at g6
     simp only[stO]
     refine⟨b,by rw[Yg];exact g4,V6 g2 _,g5,?_,hleaf,?_⟩
     . rw[Xv];omega
     . rw[Yg,Xv]
       have hne:=hNx a ha
       refine H _ _ ⟨⟨?_,?_,hfit,?_⟩,?_⟩ (λa' hh=>by cases hh;exact hne) ?_ rfl (λhh=>by cases hh)
       . intro k bk hk
         rw[Hp.ins_ne (λhh=>by subst hh;rw[g3]at hk;cases hk)]
         exact h1 k bk hk
       . show(x.len+n)*1=_;rw[List.length_append];omega
       . refine⟨g1,g2,g3,_,Hp.ins_same _ _ _,g5,?_,?_⟩
         . show(Zb b.cells (a.off+x.len*1) new).length=_
           unfold Zb
           simp only[List.length_append,List.length_take,List.length_drop]
           show _=x.cap*1
           omega
         . show(Zb b.cells (a.off+x.len*1) new).take _=_
           have hoff:a.off+x.len*1=cs.length:=by omega
           unfold Zb
           rw[hoff,g7,List.append_assoc,List.length_append,List.take_append]
           simp only[Nat.add_sub_cancel_left]
           rw[List.take_of_length_le (by omega),List.take_append,List.take_of_length_le (Nat.le_refl _)]
           simp
       . intro a' b' ha' hb'
         cases ha'
         rw[Hp.ins_same]at hb'
         cases hb'
         exact hel a b ha g4
       . rw[Hp.ins_ne (Ne.symm hne)]
 . refine⟨cs,?_,λbk c hc hfr=>?_⟩
   . rw[Nat.mul_one,h2];exact hrd.2
   . have hbN:bk≠N:=λhh=>by rw[hh]at hfr;exact hN hfr
     refine H _ _ ⟨⟨Hp.le_trans h1 (Hp.le_ins hfr),?_,hc,?_⟩,?_⟩ (λa hh=>by cases hh;exact hbN) (Hp.ins_ne (Ne.symm hbN)) rfl (λhh=>by cases hh)
     . show(x.len+n)*1=_;rw[List.length_append];omega
     . refine⟨rfl,rfl,?_,_,Hp.ins_same _ _ _,rfl,?_,?_⟩
       . cases hk:h0 bk with
         | none=>rfl
         | some b=>have:=h1 _ _ hk;rw[hfr]at this;cases this
       . show(cs++new++ye (c-(x.len+n)) zero).length=c*1
         have hr:(ye (c-(x.len+n)) zero).length=(c-(x.len+n)):=by
          unfold ye
          simp[hz]
         rw[List.length_append,List.length_append,hr]
         omega
       . show(cs++new++ye (c-(x.len+n)) zero).take _=cs++new
         rw[List.take_append_of_le_length (by simp)]
         exact List.take_of_length_le (Nat.le_refl _)
     . intro a' b' ha' hb'
       cases ha'
       have hb'':(h.ins bk ⟨cs++new++ye (c-(x.len+n)) zero,t,(0,0)⟩) bk=some b':=hb'
       rw[Hp.ins_same]at hb''
       cases hb''
       rfl
def BLD(h0 h:Hp)(n:Nat)(l:List UInt8):Prop:=
 ∃q x,h n=some ⟨[q,.slice x.a x.len x.cap],364,(0,0)⟩/\(q=.pointer none\/q=.pointer (some ⟨n,0,none⟩))/\h0 n=none /\
  zq3 5 h0 h x (Xf l)/\(∀a,x.a=some a->a.block≠n)/\(x.a=none\/l≠[])
def BLU(h0 h:Hp)(n:Nat)(l:List UInt8):Prop:=
 ∃x,h n=some ⟨[.pointer (some ⟨n,0,none⟩),.slice x.a x.len x.cap],364,(0,0)⟩/\h0 n=none /\
  zq3 5 h0 h x (Xf l)/\(∀a,x.a=some a->a.block≠n)/\(x.a=none\/l≠[])
theorem BLD.hle{h0 h:Hp}{n:Nat}{l:List UInt8}(hb:BLD h0 h n l):h0.le h:=by
 obtain⟨q,x,h1,h2,h3,h4,h5⟩:=hb
 exact h4.1.1
theorem z3l{l:List UInt8}:(Xf l).length=l.length:=by simp[Xf]
theorem zqi{l m:List UInt8}:Xf (l++m)=Xf l++Xf m:=by simp[Xf]
theorem znd{l:List UInt8}:(Xf l).all Value.leaf=true:=by simp[Xf,Value.leaf]
section
variable {h0 h : Hp} {n : Nat} {l : List UInt8}
theorem Z8t{K:Addr->Hp->Prop}(H:∀n h',BLD h h' n []->K ⟨n,0,none⟩ h'):zx0 364 [.pointer none,.slice zf.a zf.len zf.cap] K h:=by
 intro b hb
 refine H b _ ⟨.pointer none,zf,Hp.ins_same _ _ _,.inl rfl,hb,⟨Own.nil (Hp.le_ins hb),(λa b' ha=>by cases ha)⟩,(λa ha=>by cases ha),.inl rfl⟩
theorem zcp{K:Unit->Hp->Prop}(hb:BLD h0 h n l)(H:∀h',BLU h0 h' n l->K () h'):Y3 (F.Q2 (some ⟨n,0,none⟩)) K h:=by
 refine Qh ?_
 obtain⟨q,x,h1,h2,h3,h4,h5,h6⟩:=hb
 refine⟨n,_,rfl,h1,rfl,rfl,rfl,?_⟩
 rcases h2 with rfl | rfl
 . exact .inl ⟨rfl,H _ ⟨x,Hp.ins_same _ _ _,h3,h4.ins h3 h5,h5,h6⟩⟩
 . exact .inr ⟨rfl,H _ ⟨x,h1,h3,h4,h5,h6⟩⟩
theorem zu7{m:List UInt8}{k:Nat}{K:Hp->Prop}(hb:BLU h0 h n l)(hk:m.length=k)(hlen:l.length+k<=140737488355328)(hm:m≠[]\/l≠[])(H:∀h',BLD h0 h' n (l++m)->K h') :
 ldL (.sl) ((⟨n,0,none⟩:Addr).add 1) (λx3=>zl0 5 1 1 [.int .u8 0] x3 k (Xf m) (λw4 h2=>yu (some ⟨n,0,none⟩) λp5=>stP (p5.add 1) [.slice w4.a w4.len w4.cap] (λh3=>K h3) h2) h) h:=by
 obtain⟨x,h1,h3,h4,h5,h6⟩:=hb
 have hl:x.len=l.length:=by have:=h4.1.2.1;rw[z3l]at this;omega
 refine⟨x,?_,?_⟩
 . rw[z1b]
   unfold Hp.cell
   simp only[h1]
   rfl
 . refine zy7 (N:=n) (by rw[h1];simp) h5 h4 (by rw[z3l];exact hk) rfl znd (by omega) λy h' hy hyn hn hlen' hya=>?_
   rw[h1]at hn
   refine⟨_,by rw[Yg];exact hn,by rw[z1b],rfl,by rw[z1b];exact Nat.le_refl _,rfl,H _ ⟨_,y,Hp.ins_same _ _ _,.inr rfl,h3,?_,hyn,?_⟩⟩
   . rw[zqi];exact hy.ins h3 hyn
   . right
     cases l with
     | nil=>exact hm.elim id λhh=>absurd rfl hh
     | cons a b=>simp
theorem zgj{s:ByteArray}{K:(Int×Value)->Hp->Prop}(hb:BLD h0 h n l)(hlen:l.length<=1000000)(hs:BS s≠[])(hs2:s.size<=1000000)(H:∀h',BLD h0 h' n (l++BS s)->K ((s.size:Int),.nilIface) h'):Y3 (F.Zs (some ⟨n,0,none⟩) s) K h:=by
 refine Qh ?_
 unfold F.Zs
 exact zcp hb λh1 hb1=>zu7 (m:=BS s) hb1 (z3k s) (by omega) (.inl hs) λh' hb'=>H _ hb'
theorem zg0{s:ByteArray}{K:(Int×Value)->Hp->Prop}(hb:BLD h0 h n l)(hlen:l.length<=1000000)(hs:BS s≠[]\/l≠[])(hs2:s.size<=1000000)(H:∀h',BLD h0 h' n (l++BS s)->K ((s.size:Int),.nilIface) h'):Y3 (F.Zs (some ⟨n,0,none⟩) s) K h:=by
 refine Qh ?_
 unfold F.Zs
 exact zcp hb λh1 hb1=>zu7 (m:=BS s) hb1 (z3k s) (by omega) hs λh' hb'=>H _ hb'
theorem zvn{K:ByteArray->Hp->Prop}(hb:BLD h0 h n l)(hlen:l.length<=1000000)(H:∀h',h0.le h'->K ⟨l.toArray⟩ h'):Y3 (F.X1 (some ⟨n,0,none⟩)) K h:=by
 refine Qh ?_
 obtain⟨q,x,h1,h2,h3,h4,h5,h6⟩:=hb
 obtain⟨⟨g0,g1,g2,g3⟩,hel⟩:=h4
 rw[z3l]at g1
 refine⟨n,_,q,rfl,h1,rfl,rfl,?_⟩
 cases ha:x.a with
 | none=>
   rw[ha]at g3
   simp only at g3
   have hl0:l=[]:=List.eq_nil_of_length_eq_zero (by omega)
   subst hl0
   refine .inl ⟨?_,H h g0⟩
   have e1:x.len=0:=by omega
   rw[e1,g3]
 | some a=>
   rw[ha]at g3
   obtain⟨i1,i2,i3,b,i4,i5,i6,i7⟩:=g3
   have hne:l≠[]:=by
    rcases h6 with h6 | h6
    . rw[ha]at h6;cases h6
    . exact h6
   obtain⟨g,off,sp⟩:=a
   simp only at i1 i2
   subst i1 i2
   refine .inr ⟨g,x.cap,l,b,hne,?_,by omega,i4,hel _ _ ha i4,by omega,by omega,λj y hj=>?_,H _ λk c hk=>?_⟩
   . have e1:x.len=l.length:=by omega
     rw[e1]
   . have hlt:j<l.length:=by
      rcases Nat.lt_or_ge j l.length with hh | hh
      . exact hh
      . rw[List.getElem?_eq_none hh]at hj;cases hj
     have:(b.cells.take (Xf l).length)[j]?=(Xf l)[j]?:=by rw[i7]
     rw[z3l,List.getElem?_take_of_lt hlt]at this
     rw[this]
     unfold Xf
     rw[List.getElem?_map,hj]
     rfl
   . have hkg:k≠g:=λhh=>by
      subst hh
      have i3':h0 k=none:=i3
      rw[i3']at hk;cases hk
     simp only[if_neg hkg]
     exact g0 k c hk
end
end Den
end

section
namespace Den
open Go Iv Lx
def dgt(n:Nat):Nat:=if h:n<10 then 1 else dgt (n/10)+1
termination_by n
decreasing_by omega
theorem z3m{n:Nat}(h:n<10):dgt n=1:=by unfold dgt;rw[dif_pos h]
theorem Vq{n:Nat}(h:10<=n):dgt n=dgt (n/10)+1:=by
 conv=>lhs;unfold dgt
 rw[dif_neg (by omega)]
theorem Z8b(n:Nat):1<=dgt n:=by
 by_cases h:n<10
 . rw[z3m h];exact Nat.le_refl _
 . rw[Vq (by omega)];omega
def dg9(n:Nat):Nat:=if n<10 then 1 else if n<100 then 2 else if n<1000 then 3 else if n<10000 then 4 else if n<100000 then 5 else if n<1000000 then 6 else if n<10000000 then 7 else if n<100000000 then 8 else 9
theorem Zj2{n:Nat}(h:n<1000000000):dgt n=dg9 n:=by
 unfold dg9
 by_cases h1:n<10
 . rw[if_pos h1,z3m h1]
 rw[if_neg h1,Vq (by omega)]
 by_cases h2:n<100
 . rw[if_pos h2,z3m (by omega)]
 rw[if_neg h2,Vq (by omega)]
 by_cases h3:n<1000
 . rw[if_pos h3,z3m (by omega)]
 rw[if_neg h3,Vq (by omega)]
 by_cases h4:n<10000
 . rw[if_pos h4,z3m (by omega)]
 rw[if_neg h4,Vq (by omega)]
 by_cases h5:n<100000
 . rw[if_pos h5,z3m (by omega)]
 rw[if_neg h5,Vq (by omega)]
 by_cases h6:n<1000000
 . rw[if_pos h6,z3m (by omega)]
 rw[if_neg h6,Vq (by omega)]
 by_cases h7:n<10000000
 . rw[if_pos h7,z3m (by omega)]
 rw[if_neg h7,Vq (by omega)]
 by_cases h8:n<100000000
 . rw[if_pos h8,z3m (by omega)]
 rw[if_neg h8,Vq (by omega),z3m (by omega)]
theorem Z8a{n:Nat}(h:1000000000<=n):dgt n=dgt (n/1000000000)+9:=by
 rw[Vq (n:=n) (by omega),Vq (n:=n/10) (by omega),Vq (n:=n/10/10) (by omega),Vq (n:=n/10/10/10) (by omega),Vq (n:=n/10/10/10/10) (by omega),
  Vq (n:=n/10/10/10/10/10) (by omega),Vq (n:=n/10/10/10/10/10/10) (by omega),Vq (n:=n/10/10/10/10/10/10/10) (by omega),Vq (n:=n/10/10/10/10/10/10/10/10) (by omega)]
 have:n/10/10/10/10/10/10/10/10/10=n/1000000000:=by omega
 rw[this]
theorem zyu{n k:Nat}:∀{k n:Nat},n<10 ^ (k+1)->dgt n<=k+1
 | 0,n,h=>by rw[z3m (by simpa using h)];exact Nat.le_refl _
 | k+1,n,h=>by
   by_cases h1:n<10
   . rw[z3m h1];omega
   . rw[Vq (by omega)]
     have:n/10<10 ^ (k+1):=by rw[Nat.div_lt_iff_lt_mul (by decide),<-Nat.pow_succ];exact h
     have:=zyu (n:=n) (k:=k) this
     omega
section
variable {h : Hp} {s : ByteArray} {i lo hi : Int}
theorem Z8j{K:Int->Prop}(h0:0<=i)(h1:i<s.size)(H:∀b:UInt8,s[i.toNat]?=some b->K (b.toNat:Int)):Qs s i K:=by
 have:i.toNat<s.size:=by omega
 exact⟨h0,s[i.toNat],by simp[this],H _ (by simp[this])⟩
theorem zas{K:ByteArray->Prop}(h0:0<=lo)(h1:lo<=hi)(h2:hi<=s.size)(H:∀t:ByteArray,(t.size:Int)=hi-lo->BS t=((BS s).drop lo.toNat).take (hi.toNat-lo.toNat)->K t):Yq s lo hi K:=by
 refine⟨h0,h1,h2,H _ ?_ zpv⟩
 rw[ByteArray.size_extract];omega
end
theorem Zin{n:Nat}(h:n<=9223372036854775807):i64.wrap (n:Int)=n:=w64 (by omega)
section
variable {h : Hp} {Kt : ByteArray → Hp → Prop} {Ki : Int → Hp → Prop} {Kb : Bool → Hp → Prop}
theorem za1{s t:ByteArray}(hs:t.size=1)(hs0:1<=s.size)(H:∀h',h.le h'->Kb (decide ((BS s)[0]?=(BS t)[0]?)) h'):zc (F.zm s t) Kb h:=by
 refine zd (λb h'=>b=decide ((BS s)[0]?=(BS t)[0]?)) (λK' hk=>?_) λb h' hl hb=>by subst hb;exact H h' hl
 unfold F.zm
 refine zd (λb h'=>b=decide ((BS s)[0]?=(BS t)[0]?)) (λK2 hk2=>?_) λb h' hl hb=>hk _ _ hl hb
 unfold F.Q4
 refine ze (λ_=>?_) (λh1=>absurd (by omega) h1)
 refine zas (by decide) (by omega) (by omega) λc hc hb=>hk2 _ _ (Hp.le_refl _) ?_
 rw[z7m,z7m,hb]
 have l1:=z3k s
 have l2:=z3k t
 cases hS:BS s with
 | nil=>rw[hS]at l1;simp at l1;omega
 | cons a r=>
   cases hT:BS t with
   | nil=>rw[hT]at l2;simp at l2;omega
   | cons b q=>
     have:q=[]:=by rw[hT]at l2;simp at l2;exact List.eq_nil_of_length_eq_zero (by omega)
     subst this
     rw[hs]
     simp
     by_cases hab:a=b<;>simp[hab]
theorem Z7v{n:Nat}(hn:n<=64){K:(Int×Int)->Hp->Prop}(H:∀h',h.le h'->K (0,(n:Int)) h'):zc (F.z4b 1 (n:Int)) K h:=by
 refine zd (λv h'=>v=(0,(n:Int))) (λK' hk=>?_) λb h' hl hb=>by subst hb;exact H h' hl
 unfold F.z4b
 refine zd (λv h'=>v=(0,(n:Int))) (λK2 hk2=>?_) λb h' hl hb=>by subst hb;exact hk _ _ hl rfl
 unfold F.z4x
 refine⟨by decide,by decide,by decide,by decide,by decide,?_⟩
 refine hk2 _ _ (Hp.le_refl _) ?_
 clear hk hk2 H K' K2
 revert n
 decide +kernel
theorem zf1{n:Nat}(hn:n<=64)(H:∀s h',h.le h'->s.size=n->Kt s h'):zc (F.Vg ⟨#[48]⟩ (n:Int)) Kt h:=by
 refine zd (λs h'=>s.size=n) (λK' hk=>?_) λb h' hl hb=>H b h' hl hb
 unfold F.Vg
 refine zz (λh1=>hk _ _ (Hp.le_refl _) ?_) (λh1=>?_)
 . have:n=0:=by omega
   subst this;rfl
 refine zz (λh2=>hk _ _ (Hp.le_refl _) ?_) (λh2=>?_)
 . have:n=1:=by omega
   subst this;rfl
 refine zk (λ_ h'=>h.le h') ?_ (ze (λhh=>absurd hh (by omega)) λ_=>Hp.le_refl _)
 intro _ h1' hl1
 have e1:u64.wrap (((⟨#[48]⟩:ByteArray).size:Int))=1:=by decide
 have e2:u64.wrap (n:Int)=(n:Int):=Zkn (by omega)
 rw[e1,e2]
 refine Z7v hn λh2 hl2=>?_
 have l2:=Hp.le_trans hl1 hl2
 refine zk (λ_ h'=>h.le h') ?_ (ze (λhh=>absurd hh (by simp)) λ_=>ze (λhh=>absurd hh (by simp only;omega)) λ_=>l2)
 intro _ h3 hl3
 refine zz (λhh=>absurd hh (by decide)) (λ_=>?_)
 have e3:i64.wrap (n:Int)=(n:Int):=Zin (by omega)
 simp only[e3]
 refine zk (λ_ _=>False) (λ_ _ hh=>hh.elim) ?_
 refine⟨by decide,48,rfl,?_⟩
 refine zk (λs h'=>s.1=true/\h.le h') ?_ ?_
 . rintro⟨b,_⟩ h4 ⟨rfl,hl4⟩
   refine y7 rfl ?_
   refine ze (λ_=>?_) (λhh=>absurd (by omega) hh)
   refine za1 rfl (by decide +kernel) λh5 hl5=>zt (by decide +kernel) ?_
   refine ze (λ_=>?_) (λhh=>absurd (by omega) hh)
   refine za1 rfl (by decide +kernel) λh6 hl6=>zt (by decide +kernel) ?_
   refine ze (λ_=>?_) (λhh=>absurd (by omega) hh)
   refine za1 rfl (by decide +kernel) λh7 hl7=>y7 (by decide +kernel) ?_
   refine zas (by decide) (by omega) (by have:(zL3:ByteArray).size=64:=rfl;rw[this];omega) λt ht _=>hk _ _ (Hp.le_trans hl4 (Hp.le_trans hl5 (Hp.le_trans hl6 hl7))) ?_
   omega
 . refine zz (λhh=>absurd hh (by decide)) (λ_=>?_)
   refine zz (λhh=>absurd hh (by decide)) (λ_=>?_)
   refine zz (λ_=>⟨by decide,hl3⟩) (λhh=>absurd rfl hh)
def P10(h:Hp):Prop:=∀i:Nat,i<20->h.cell ((⟨2,0,none⟩:Addr).add i)=some (.int .u64 ((10 ^ i:Nat):Int))
theorem P10.le{h':Hp}(ht:P10 h)(hl:h.le h'):P10 h':=λi hi=>Hp.cell_le hl (ht i hi)
theorem wu8{n:Int}(h:0<=n/\n<=255):u8.wrap n=n:=by
 unfold IntKind.wrap
 simp only[IntKind.signed,IntKind.bits]
 exact Int.emod_eq_of_lt h.1 (by omega)
theorem Zl9{K:Int->Prop}{x:Nat}(hx:x<256)(H:∀r:Nat,(x=0->r=0)->(0<x->1<=r/\2 ^ (r-1)<=x/\x<2 ^ r)->r<=8->K (r:Int)):Qs zL4 (x:Int) K:=by
 have key:∀x:Nat,x<256->((zL4:ByteArray)[x]?).any (λb=>decide ((x=0->b.toNat=0)/\(0<x->1<=b.toNat/\2 ^ (b.toNat-1)<=x/\x<2 ^ b.toNat)/\b.toNat<=8))=true:=by decide +kernel
 have k:=key x hx
 refine⟨by omega,?_⟩
 rw[Int.toNat_natCast]
 cases hb:(zL4:ByteArray)[x]? with
 | none=>rw[hb]at k;cases k
 | some b=>
   rw[hb]at k
   obtain⟨k1,k2,k3⟩:=of_decide_eq_true (show decide _=true from k)
   exact⟨b,rfl,H _ k1 k2 k3⟩
theorem fd{x k:Nat}:(x:Int).fdiv ((2:Int) ^ k)=((x/2 ^ k:Nat):Int):=by
 have e:((2:Int) ^ k)=((2 ^ k:Nat):Int):=by simp
 rw[e,Int.fdiv_eq_ediv_of_nonneg _ (Int.natCast_nonneg _)];rfl
theorem zq0{x:Nat}(hx:x<4294967296)(H:∀(r:Nat) h',h.le h'->(x=0->r=0)->(0<x->1<=r/\2 ^ (r-1)<=x/\x<2 ^ r)->r<=32->Ki (r:Int) h'):zc (F.z1z (x:Int)) Ki h:=by
 refine zd (λv h'=>∃r:Nat,v=(r:Int)/\(x=0->r=0)/\(0<x->1<=r/\2 ^ (r-1)<=x/\x<2 ^ r)/\r<=32) (λK' hk=>?_) λb h' hl ⟨r,hb,a1,a2,a3⟩=>by subst hb;exact H r h' hl a1 a2 a3
 unfold F.z1z
 refine zk (λs h'=>h.le h'/\s=((x:Int),0,())) ?_ (ze (λhh=>absurd hh (by omega)) λ_=>⟨Hp.le_refl _,rfl⟩)
 rintro _ g1 ⟨l1,rfl⟩
 refine zk (λs h'=>h.le h'/\∃a y:Nat,s=((y:Int),(a:Int),())/\y<65536/\a<=16/\(a=16->0<y)/\(a=0\/a=16)/\y=x/2 ^ a) ?_ ?_
 . rintro _ g2 ⟨l2,a,y,rfl,hy,ha,hay,ha2,e⟩
   refine zk (λs h'=>h.le h'/\∃a y:Nat,s=((y:Int),(a:Int),())/\y<256/\a<=24/\(0<a->0<y)/\y=x/2 ^ a) ?_ ?_
   . rintro _ g3 ⟨l3,a,y,rfl,hy,ha,hay,e⟩
     have e1:u8.wrap (y:Int)=(y:Int):=wu8 (by omega)
     rw[e1]
     refine Zl9 hy λr r0 r1 r8=>hk _ _ l3 ⟨a+r,?_,λhx0=>?_,λhx0=>?_,by omega⟩
     . show i64.wrap ((a:Int)+i64.wrap (r:Int))=_
       rw[Zin (n:=r) (by omega),w64 (by omega)];omega
     . subst hx0
       have hy0:y=0:=by rw[e];simp
       have ha0:a=0:=Classical.byContradiction λhh=>by have:=hay (by omega);omega
       rw[r0 hy0,ha0]
     . by_cases hy0:0<y
       . obtain⟨k1,k2,k3⟩:=r1 hy0
         rw[e,Nat.le_div_iff_mul_le (Nat.two_pow_pos a),<-Nat.pow_add]at k2
         rw[e,Nat.div_lt_iff_lt_mul (Nat.two_pow_pos a),<-Nat.pow_add]at k3
         refine⟨by omega,?_,?_⟩
         . rw[show a+r-1=r-1+a by omega];exact k2
         . rw[Nat.add_comm a r];exact k3
       . exfalso
         have ha0:a=0:=Classical.byContradiction λhh=>by have:=hay (by omega);omega
         rw[ha0]at e
         simp at e
         omega
   . simp only
     refine ze (λh2=>⟨by decide,l2,a+8,y/2 ^ 8,?_,by omega,by omega,λ_=>by omega,?_⟩) (λh2=>⟨l2,a,y,rfl,by omega,by omega,λh0=>by rcases ha2 with rfl | rfl;omega;exact hay rfl,e⟩)
     . have:(min (8:Int).toNat u64.bits)=8:=rfl
       rw[this,fd,w64 (by omega)];rfl
     . rw[e,Nat.div_div_eq_div_mul,<-Nat.pow_add]
 . simp only
   refine ze (λh2=>⟨by decide,l1,16,x/2 ^ 16,?_,by omega,by decide,λ_=>by omega,.inr rfl,rfl⟩) (λh2=>⟨l1,0,x,rfl,by omega,by decide,λhh=>absurd hh (by decide),.inl rfl,by simp⟩)
   have:(min (16:Int).toNat u64.bits)=16:=rfl
   rw[this,fd,w64 (by omega)];rfl
theorem Zj3{x:Nat}(h3:x<1000000000)(h1:2 ^ (7-1)<=x)(h2:x<2 ^ 7):7*78913/262144+(if 10 ^ (7*78913/262144)<=x then 1 else 0)=dg9 x:=by
 simp only[Nat.reduceSub,Nat.reducePow,Nat.reduceMul,Nat.reduceDiv]at h1 h2 |-
 unfold dg9
 (repeat' split)<;>omega
theorem Zj4{x:Nat}(h3:x<1000000000)(h1:2 ^ (8-1)<=x)(h2:x<2 ^ 8):8*78913/262144+(if 10 ^ (8*78913/262144)<=x then 1 else 0)=dg9 x:=by
 simp only[Nat.reduceSub,Nat.reducePow,Nat.reduceMul,Nat.reduceDiv]at h1 h2 |-
 unfold dg9
 (repeat' split)<;>omega
theorem Zj5{x:Nat}(h3:x<1000000000)(h1:2 ^ (9-1)<=x)(h2:x<2 ^ 9):9*78913/262144+(if 10 ^ (9*78913/262144)<=x then 1 else 0)=dg9 x:=by
 simp only[Nat.reduceSub,Nat.reducePow,Nat.reduceMul,Nat.reduceDiv]at h1 h2 |-
 unfold dg9
 (repeat' split)<;>omega
theorem Zcb{x:Nat}(h3:x<1000000000)(h1:2 ^ (10-1)<=x)(h2:x<2 ^ 10):10*78913/262144+(if 10 ^ (10*78913/262144)<=x then 1 else 0)=dg9 x:=by
 simp only[Nat.reduceSub,Nat.reducePow,Nat.reduceMul,Nat.reduceDiv]at h1 h2 |-
 unfold dg9
 (repeat' split)<;>omega
theorem Zcc{x:Nat}(h3:x<1000000000)(h1:2 ^ (11-1)<=x)(h2:x<2 ^ 11):11*78913/262144+(if 10 ^ (11*78913/262144)<=x then 1 else 0)=dg9 x:=by
 simp only[Nat.reduceSub,Nat.reducePow,Nat.reduceMul,Nat.reduceDiv]at h1 h2 |-
 unfold dg9
 (repeat' split)<;>omega
theorem Zcd{x:Nat}(h3:x<1000000000)(h1:2 ^ (12-1)<=x)(h2:x<2 ^ 12):12*78913/262144+(if 10 ^ (12*78913/262144)<=x then 1 else 0)=dg9 x:=by
 simp only[Nat.reduceSub,Nat.reducePow,Nat.reduceMul,Nat.reduceDiv]at h1 h2 |-
 unfold dg9
 (repeat' split)<;>omega
theorem Zce{x:Nat}(h3:x<1000000000)(h1:2 ^ (13-1)<=x)(h2:x<2 ^ 13):13*78913/262144+(if 10 ^ (13*78913/262144)<=x then 1 else 0)=dg9 x:=by
 simp only[Nat.reduceSub,Nat.reducePow,Nat.reduceMul,Nat.reduceDiv]at h1 h2 |-
 unfold dg9
 (repeat' split)<;>omega
theorem Zcf{x:Nat}(h3:x<1000000000)(h1:2 ^ (14-1)<=x)(h2:x<2 ^ 14):14*78913/262144+(if 10 ^ (14*78913/262144)<=x then 1 else 0)=dg9 x:=by
 simp only[Nat.reduceSub,Nat.reducePow,Nat.reduceMul,Nat.reduceDiv]at h1 h2 |-
 unfold dg9
 (repeat' split)<;>omega
theorem Zcg{x:Nat}(h3:x<1000000000)(h1:2 ^ (15-1)<=x)(h2:x<2 ^ 15):15*78913/262144+(if 10 ^ (15*78913/262144)<=x then 1 else 0)=dg9 x:=by
 simp only[Nat.reduceSub,Nat.reducePow,Nat.reduceMul,Nat.reduceDiv]at h1 h2 |-
 unfold dg9
 (repeat' split)<;>omega
theorem Zch{x:Nat}(h3:x<1000000000)(h1:2 ^ (16-1)<=x)(h2:x<2 ^ 16):16*78913/262144+(if 10 ^ (16*78913/262144)<=x then 1 else 0)=dg9 x:=by
 simp only[Nat.reduceSub,Nat.reducePow,Nat.reduceMul,Nat.reduceDiv]at h1 h2 |-
 unfold dg9
 (repeat' split)<;>omega
theorem Zci{x:Nat}(h3:x<1000000000)(h1:2 ^ (17-1)<=x)(h2:x<2 ^ 17):17*78913/262144+(if 10 ^ (17*78913/262144)<=x then 1 else 0)=dg9 x:=by
 simp only[Nat.reduceSub,Nat.reducePow,Nat.reduceMul,Nat.reduceDiv]at h1 h2 |-
 unfold dg9
 (repeat' split)<;>omega
theorem Zcj{x:Nat}(h3:x<1000000000)(h1:2 ^ (18-1)<=x)(h2:x<2 ^ 18):18*78913/262144+(if 10 ^ (18*78913/262144)<=x then 1 else 0)=dg9 x:=by
 simp only[Nat.reduceSub,Nat.reducePow,Nat.reduceMul,Nat.reduceDiv]at h1 h2 |-
 unfold dg9
 (repeat' split)<;>omega
theorem Zck{x:Nat}(h3:x<1000000000)(h1:2 ^ (19-1)<=x)(h2:x<2 ^ 19):19*78913/262144+(if 10 ^ (19*78913/262144)<=x then 1 else 0)=dg9 x:=by
 simp only[Nat.reduceSub,Nat.reducePow,Nat.reduceMul,Nat.reduceDiv]at h1 h2 |-
 unfold dg9
 (repeat' split)<;>omega
theorem Zcl{x:Nat}(h3:x<1000000000)(h1:2 ^ (20-1)<=x)(h2:x<2 ^ 20):20*78913/262144+(if 10 ^ (20*78913/262144)<=x then 1 else 0)=dg9 x:=by
 simp only[Nat.reduceSub,Nat.reducePow,Nat.reduceMul,Nat.reduceDiv]at h1 h2 |-
 unfold dg9
 (repeat' split)<;>omega
theorem Zcm{x:Nat}(h3:x<1000000000)(h1:2 ^ (21-1)<=x)(h2:x<2 ^ 21):21*78913/262144+(if 10 ^ (21*78913/262144)<=x then 1 else 0)=dg9 x:=by
 simp only[Nat.reduceSub,Nat.reducePow,Nat.reduceMul,Nat.reduceDiv]at h1 h2 |-
 unfold dg9
 (repeat' split)<;>omega
theorem Zcn{x:Nat}(h3:x<1000000000)(h1:2 ^ (22-1)<=x)(h2:x<2 ^ 22):22*78913/262144+(if 10 ^ (22*78913/262144)<=x then 1 else 0)=dg9 x:=by
 simp only[Nat.reduceSub,Nat.reducePow,Nat.reduceMul,Nat.reduceDiv]at h1 h2 |-
 unfold dg9
 (repeat' split)<;>omega
theorem Zco{x:Nat}(h3:x<1000000000)(h1:2 ^ (23-1)<=x)(h2:x<2 ^ 23):23*78913/262144+(if 10 ^ (23*78913/262144)<=x then 1 else 0)=dg9 x:=by
 simp only[Nat.reduceSub,Nat.reducePow,Nat.reduceMul,Nat.reduceDiv]at h1 h2 |-
 unfold dg9
 (repeat' split)<;>omega
theorem Zcp{x:Nat}(h3:x<1000000000)(h1:2 ^ (24-1)<=x)(h2:x<2 ^ 24):24*78913/262144+(if 10 ^ (24*78913/262144)<=x then 1 else 0)=dg9 x:=by
 simp only[Nat.reduceSub,Nat.reducePow,Nat.reduceMul,Nat.reduceDiv]at h1 h2 |-
 unfold dg9
 (repeat' split)<;>omega
theorem Zcq{x:Nat}(h3:x<1000000000)(h1:2 ^ (25-1)<=x)(h2:x<2 ^ 25):25*78913/262144+(if 10 ^ (25*78913/262144)<=x then 1 else 0)=dg9 x:=by
 simp only[Nat.reduceSub,Nat.reducePow,Nat.reduceMul,Nat.reduceDiv]at h1 h2 |-
 unfold dg9
 (repeat' split)<;>omega
theorem Zcr{x:Nat}(h3:x<1000000000)(h1:2 ^ (26-1)<=x)(h2:x<2 ^ 26):26*78913/262144+(if 10 ^ (26*78913/262144)<=x then 1 else 0)=dg9 x:=by
 simp only[Nat.reduceSub,Nat.reducePow,Nat.reduceMul,Nat.reduceDiv]at h1 h2 |-
 unfold dg9
 (repeat' split)<;>omega
theorem Zcs{x:Nat}(h3:x<1000000000)(h1:2 ^ (27-1)<=x)(h2:x<2 ^ 27):27*78913/262144+(if 10 ^ (27*78913/262144)<=x then 1 else 0)=dg9 x:=by
 simp only[Nat.reduceSub,Nat.reducePow,Nat.reduceMul,Nat.reduceDiv]at h1 h2 |-
 unfold dg9
 (repeat' split)<;>omega
theorem Zct{x:Nat}(h3:x<1000000000)(h1:2 ^ (28-1)<=x)(h2:x<2 ^ 28):28*78913/262144+(if 10 ^ (28*78913/262144)<=x then 1 else 0)=dg9 x:=by
 simp only[Nat.reduceSub,Nat.reducePow,Nat.reduceMul,Nat.reduceDiv]at h1 h2 |-
 unfold dg9
 (repeat' split)<;>omega
theorem Zcu{x:Nat}(h3:x<1000000000)(h1:2 ^ (29-1)<=x)(h2:x<2 ^ 29):29*78913/262144+(if 10 ^ (29*78913/262144)<=x then 1 else 0)=dg9 x:=by
 simp only[Nat.reduceSub,Nat.reducePow,Nat.reduceMul,Nat.reduceDiv]at h1 h2 |-
 unfold dg9
 (repeat' split)<;>omega
theorem Zcv{x:Nat}(h3:x<1000000000)(h1:2 ^ (30-1)<=x)(h2:x<2 ^ 30):30*78913/262144+(if 10 ^ (30*78913/262144)<=x then 1 else 0)=dg9 x:=by
 simp only[Nat.reduceSub,Nat.reducePow,Nat.reduceMul,Nat.reduceDiv]at h1 h2 |-
 unfold dg9
 (repeat' split)<;>omega
theorem Zcw{r x:Nat}(h3:x<1000000000)(h7:7<=r)(h30:r<=30)(h1:2 ^ (r-1)<=x)(h2:x<2 ^ r):r*78913/262144+(if 10 ^ (r*78913/262144)<=x then 1 else 0)=dg9 x:=by
 have hr:r=7\/r=8\/r=9\/r=10\/r=11\/r=12\/r=13\/r=14\/r=15\/r=16\/r=17\/r=18\/r=19\/r=20\/r=21\/r=22\/r=23\/r=24\/r=25\/r=26\/r=27\/r=28\/r=29\/r=30:=by omega
 rcases hr with rfl | rfl | rfl | rfl | rfl | rfl | rfl | rfl | rfl | rfl | rfl | rfl | rfl | rfl | rfl | rfl | rfl | rfl | rfl | rfl | rfl | rfl | rfl | rfl
 . exact Zj3 h3 h1 h2
 . exact Zj4 h3 h1 h2
 . exact Zj5 h3 h1 h2
 . exact Zcb h3 h1 h2
 . exact Zcc h3 h1 h2
 . exact Zcd h3 h1 h2
 . exact Zce h3 h1 h2
 . exact Zcf h3 h1 h2
 . exact Zcg h3 h1 h2
 . exact Zch h3 h1 h2
 . exact Zci h3 h1 h2
 . exact Zcj h3 h1 h2
 . exact Zck h3 h1 h2
 . exact Zcl h3 h1 h2
 . exact Zcm h3 h1 h2
 . exact Zcn h3 h1 h2
 . exact Zco h3 h1 h2
 . exact Zcp h3 h1 h2
 . exact Zcq h3 h1 h2
 . exact Zcr h3 h1 h2
 . exact Zcs h3 h1 h2
 . exact Zct h3 h1 h2
 . exact Zcu h3 h1 h2
 . exact Zcv h3 h1 h2
theorem zhu{x:Nat}(ht:P10 h)(h0:100<=x)(hx:x<1000000000)(H:∀h',h.le h'->Ki ((dg9 x:Nat):Int) h'):zc (F.Qn (x:Int)) Ki h:=by
 refine zd (λv h'=>v=((dg9 x:Nat):Int)) (λK' hk=>?_) λb h' hl hb=>by subst hb;exact H h' hl
 unfold F.Qn
 refine zq0 (by omega) λr h1 hl1 _ hr _=>?_
 obtain⟨r1,r2,r3⟩:=hr (by omega)
 have rl:7<=r:=Nat.not_lt.1 λhh=>by
  have:2 ^ r<=2 ^ 6:=Nat.pow_le_pow_right (by decide) (by omega)
  omega
 have ru:r<=30:=Nat.not_lt.1 λhh=>by
  have:2 ^ 30<=2 ^ (r-1):=Nat.pow_le_pow_right (by decide) (by omega)
  omega
 refine zd (λv h'=>v=((r*78913/262144:Nat):Int)) (λK2 hk2=>?_) λv h2 hl2 hv=>?_
 . unfold F.Wa
   refine⟨by decide,hk2 _ _ (Hp.le_refl _) ?_⟩
   have e1:i64.wrap ((r:Int)*78913)=((r*78913:Nat):Int):=by rw[w64 (by omega)];omega
   have e2:(min (18:Int).toNat i64.bits)=18:=rfl
   rw[e1,e2,fd]
 . subst hv
   obtain⟨d,hd⟩:∃d,d=r*78913/262144:=⟨_,rfl⟩
   rw[<-hd]
   have hd20:d<20:=by omega
   have hc:=(ht.le (Hp.le_trans hl1 hl2)) d hd20
   unfold zba
   rw[decide_eq_true (p:=0<=(d:Int)/\(d:Int)<(20:Nat)) (by omega)]
   simp only
   refine⟨((10 ^ d:Nat):Int),by rw[Int.toNat_natCast,Nat.mul_one];exact hc,?_⟩
   refine zd (λv h'=>v=if (x:Int)>=((10 ^ d:Nat):Int)then 1 else 0) (λK2 hk2=>?_) λv h3 hl3 hv=>?_
   . unfold F.X9
     refine ze (λhh=>hk2 _ _ (Hp.le_refl _) (by rw[if_pos hh])) (λhh=>hk2 _ _ (Hp.le_refl _) (by rw[if_neg hh]))
   . subst hv
     refine hk _ _ (Hp.le_trans hl1 (Hp.le_trans hl2 hl3)) ?_
     have hw:i64.wrap ((d:Int)+if (x:Int)>=((10 ^ d:Nat):Int)then 1 else 0)=(d:Int)+if (x:Int)>=((10 ^ d:Nat):Int)then 1 else 0:=w64 (by split<;>omega)
     rw[hw,<-Zcw hx rl ru r2 r3,<-hd]
     split<;>split<;>omega
end
end Den
end

section
namespace Den
open Go Iv Lx
theorem Z9l(z:Int):0<=u32.wrap z/\u32.wrap z<=4294967295:=by
 unfold IntKind.wrap
 simp only[IntKind.signed,IntKind.bits]
 have h1:=Int.emod_nonneg z (show((2:Int) ^ 32)≠0 by decide)
 have h2:=Int.emod_lt_of_pos z (show(0:Int)<2 ^ 32 by decide)
 exact⟨h1,by simp at h2 |-;omega⟩
theorem u8r(z:Int):∃b:UInt8,u8.wrap z=(b.toNat:Int):=by
 have h1:=Int.emod_nonneg z (show(256:Int)≠0 by decide)
 have h2:=Int.emod_lt_of_pos z (show(0:Int)<256 by decide)
 have e:u8.wrap z=z % 256:=by
  unfold IntKind.wrap
  simp only[IntKind.signed,IntKind.bits]
  rfl
 refine⟨UInt8.ofNat (z % 256).toNat,?_⟩
 rw[e,UInt8.toNat_ofNat']
 omega
theorem tm{z m:Int}(h:0<=z)(hm:0<m):0<=z.tmod m/\z.tmod m<m:=⟨Int.tmod_nonneg _ h,Int.tmod_lt_of_pos _ hm⟩
theorem td{z m k:Int}(h:0<=z)(hm:0<m)(hz:z<m*k):0<=z.tdiv m/\z.tdiv m<k:=by
 rw[Int.tdiv_eq_ediv_of_nonneg h]
 exact⟨Int.ediv_nonneg h (Int.le_of_lt hm),Int.ediv_lt_of_lt_mul hm (by rw[Int.mul_comm];exact hz)⟩
theorem w32{z:Int}(h:0<=z)(h2:z<=4294967295):u32.wrap z=z:=Zkm ⟨h,h2⟩
theorem Z5c{X:Int}{K:Int->Prop}(h:0<=X)(h2:X<=199)(H:∀b:UInt8,K (b.toNat:Int)):Qs zL1 X K:=
 Z8j h (by have:(zL1:ByteArray).size=200:=rfl;rw[this];omega) λb _=>H b
theorem zca{X:Int}{K:Int->Prop}(h:0<=X/\X<100)(H:∀b:UInt8,K (b.toNat:Int)):Qs zL1 (u32.wrap (u32.wrap (X*2)+1)) K:=by
 refine Z5c (Z9l _).1 ?_ H
 rw[w32 (z:=X*2) (by omega) (by omega),w32 (by omega) (by omega)];omega
theorem z8z{X:Int}{K:Int->Prop}(h:0<=X/\X<100)(H:∀b:UInt8,K (b.toNat:Int)):Qs zL1 (u32.wrap (X*2)) K:=by
 refine Z5c (Z9l _).1 ?_ H
 rw[w32 (by omega) (by omega)];omega
section
variable {D h : Hp} {arr a : Sl} {bs : List UInt8} {Kt : ByteArray → Hp → Prop}
theorem V2{i v:Int}{K:Hp->Prop}(ho:Own D h 1 arr (Xf bs))(ha:a.a=arr.a)(hal:a.len<=arr.len)(h0:0<=i)(h1:i<a.len)(hv:∃b:UInt8,v=(b.toNat:Int))
 (H:∀h' bs',Own D h' 1 arr (Xf bs')->bs'.length=bs.length->K h'):zg a i 1 λp=>stP p [.int .u8 v] K h:=by
 obtain⟨b,rfl⟩:=hv
 have hl:=ho.2.1
 rw[z3l,Nat.mul_one]at hl
 have key:zg arr i 1 λp=>stP p [.int .u8 (b.toNat:Int)] K h:=by
  refine zt6 i.toNat ho (by omega) (by omega) rfl (by decide) rfl λh' ho'=>H h' (bs.set i.toNat b) ?_ (by simp)
  rw[Nat.mul_one,z3x]at ho'
  have e:Xf (bs.set i.toNat b)=(Xf bs).take i.toNat++.int .u8 (b.toNat:Int) :: (Xf bs).drop (i.toNat+1):=by
   unfold Xf
   rw[List.map_set,List.set_eq_take_append_cons_drop,if_pos (by simp;omega)]
  rw[e];exact ho'
 obtain⟨k1,k2,k3⟩:=key
 refine⟨h0,h1,?_⟩
 rw[ha];exact k3
theorem Z8e{u:Int}{K:Unit->Hp->Prop}(ho:Own D h 1 arr (Xf bs))(ha:a.a=arr.a)(hal:a.len<=arr.len)(hlen:a.len<=1000)(hu:0<=u)(H:∀h' bs',Own D h' 1 arr (Xf bs')->bs'.length=bs.length->K () h'):F.qm a u K h:=by
 unfold F.qm
 refine yx (λst h'=>0<=st.1/\0<=st.2.1/\st.2.1<=a.len/\∃cs,Own D h' 1 arr (Xf cs)/\cs.length=bs.length) (λst=>st.2.1.toNat) ⟨hu,by simp only;omega,Int.le_refl _,bs,ho,rfl⟩ ?_
 rintro⟨u,i,_⟩ g ⟨hu0,hi0,hi1,cs,ho,hcs⟩
 simp only at hu0 hi0 hi1
 have w:∀k:Int,0<=k->k<=8->i64.wrap (i-k)=i-k:=λk _ _=>w64 (by omega)
 refine ze (λh8=>?_) (λh8=>?_)
 . simp only at h8 |-
   refine⟨by decide,by decide,by decide,by decide,by decide,by decide,by decide,by decide,?_⟩
   obtain⟨A,hA⟩:∃A,A=u32.wrap (u.tmod 100000000):=⟨_,rfl⟩
   have a1:=tm (m:=100000000) hu0 (by decide)
   have eA:A=u.tmod 100000000:=by rw[hA,w32 (by omega) (by omega)]
   rw[<-hA]
   have A0:0<=A:=by omega
   have b1:=tm (m:=10000) A0 (by decide)
   have c1:=tm (m:=100) b1.1 (by decide)
   have d1:=td (m:=100) (k:=100) b1.1 (by decide) (by omega)
   have e1:=td (m:=10000) (k:=10000) A0 (by decide) (by omega)
   rw[w32 (z:=(A.tmod 10000).tdiv 100) (by omega) (by omega),w32 (z:=A.tdiv 10000) (by omega) (by omega)]
   have f1:=tm (m:=100) e1.1 (by decide)
   have g1:=td (m:=100) (k:=100) e1.1 (by decide) (by omega)
   rw[w32 (z:=(A.tdiv 10000).tdiv 100) (by omega) (by omega)]
   refine zca c1 λx1=>z8z c1 λx2=>?_
   refine V2 ho ha hal (by rw[w _ (by decide) (by decide)];omega) (by rw[w _ (by decide) (by decide)];omega) ⟨_,rfl⟩ λh1 s1 o1 q1=>?_
   refine V2 o1 ha hal (by rw[w _ (by decide) (by decide)];omega) (by rw[w _ (by decide) (by decide)];omega) ⟨_,rfl⟩ λh2 s2 o2 q2=>?_
   refine zca d1 λx3=>z8z d1 λx4=>?_
   refine V2 o2 ha hal (by rw[w _ (by decide) (by decide)];omega) (by rw[w _ (by decide) (by decide)];omega) ⟨_,rfl⟩ λh3 s3 o3 q3=>?_
   refine V2 o3 ha hal (by rw[w _ (by decide) (by decide)];omega) (by rw[w _ (by decide) (by decide)];omega) ⟨_,rfl⟩ λh4 s4 o4 q4=>?_
   refine zca f1 λx5=>z8z f1 λx6=>?_
   refine V2 o4 ha hal (by rw[w _ (by decide) (by decide)];omega) (by rw[w _ (by decide) (by decide)];omega) ⟨_,rfl⟩ λh5 s5 o5 q5=>?_
   refine V2 o5 ha hal (by rw[w _ (by decide) (by decide)];omega) (by rw[w _ (by decide) (by decide)];omega) ⟨_,rfl⟩ λh6 s6 o6 q6=>?_
   refine zca g1 λx7=>z8z g1 λx8=>?_
   refine V2 o6 ha hal (by rw[w _ (by decide) (by decide)];omega) (by rw[w _ (by decide) (by decide)];omega) ⟨_,rfl⟩ λh7 s7 o7 q7=>?_
   refine V2 o7 ha hal (by rw[w _ (by decide) (by decide)];omega) (by rw[w _ (by decide) (by decide)];omega) ⟨_,rfl⟩ λh9 s9 o9 q9=>?_
   refine⟨⟨?_,?_,?_,s9,o9,by omega⟩,?_⟩
   . show 0<=u64.wrap _
     unfold IntKind.wrap
     simp only[IntKind.signed,IntKind.bits]
     exact Int.emod_nonneg _ (by decide)
   . show 0<=i64.wrap _;rw[w _ (by decide) (by decide)];omega
   . show i64.wrap _<=_;rw[w _ (by decide) (by decide)];omega
   . show(i64.wrap _).toNat<i.toNat;rw[w _ (by decide) (by decide)];omega
 . simp only at h8 |-
   obtain⟨U,hU⟩:∃U,U=u32.wrap u:=⟨_,rfl⟩
   have uU:=Z9l u
   rw[<-hU]at uU |-
   refine zk (λs h'=>0<=s.1/\s.1<=a.len/\s.1<4/\0<=s.2.1/\∃cs,Own D h' 1 arr (Xf cs)/\cs.length=bs.length) ?_ ?_
   . rintro⟨j,v,_⟩ g2 ⟨j0,j1,j4,v0,cs2,o2,q2⟩
     simp only at j0 j1 j4 v0 |-
     have w2:∀k:Int,0<=k->k<=8->i64.wrap (j-k)=j-k:=λk _ _=>w64 (by omega)
     refine zk (λs h'=>s.1<=a.len/\∃cs,Own D h' 1 arr (Xf cs)/\cs.length=bs.length) ?_ ?_
     . rintro⟨m,v,_⟩ g3 ⟨m1,cs3,o3,q3⟩
       simp only at m1 |-
       refine ze (λh5=>?_) (λ_=>H _ _ o3 q3)
       exact V2 o3 ha hal (by decide) (by omega) (u8r _) λh6 s6 o6 q6=>H _ _ o6 (by omega)
     . refine ze (λh5=>?_) (λ_=>⟨j1,cs2,o2,q2⟩)
       have c1:=tm (m:=100) v0 (by decide)
       refine⟨by decide,by decide,zca c1 λx1=>z8z c1 λx2=>?_⟩
       refine V2 o2 ha hal (by rw[w2 _ (by decide) (by decide)];omega) (by rw[w2 _ (by decide) (by decide)];omega) ⟨_,rfl⟩ λh6 s6 o6 q6=>?_
       refine V2 o6 ha hal (by rw[w2 _ (by decide) (by decide)];omega) (by rw[w2 _ (by decide) (by decide)];omega) ⟨_,rfl⟩ λh7 s7 o7 q7=>?_
       exact⟨by show i64.wrap _<=_;rw[w2 _ (by decide) (by decide)];omega,s7,o7,by omega⟩
   . refine ze (λh4=>?_) (λh4=>⟨hi0,hi1,by simp only;omega,uU.1,cs,ho,hcs⟩)
     have b1:=tm (m:=10000) uU.1 (by decide)
     have c1:=tm (m:=100) b1.1 (by decide)
     have d1:=td (m:=100) (k:=100) b1.1 (by decide) (by omega)
     refine⟨by decide,by decide,by decide,by decide,?_⟩
     rw[w32 (z:=(U.tmod 10000).tdiv 100) (by omega) (by omega)]
     refine zca c1 λx1=>z8z c1 λx2=>?_
     refine V2 ho ha hal (by rw[w _ (by decide) (by decide)];omega) (by rw[w _ (by decide) (by decide)];omega) ⟨_,rfl⟩ λh1 s1 o1 q1=>?_
     refine V2 o1 ha hal (by rw[w _ (by decide) (by decide)];omega) (by rw[w _ (by decide) (by decide)];omega) ⟨_,rfl⟩ λh2 s2 o2 q2=>?_
     refine zca d1 λx3=>z8z d1 λx4=>?_
     refine V2 o2 ha hal (by rw[w _ (by decide) (by decide)];omega) (by rw[w _ (by decide) (by decide)];omega) ⟨_,rfl⟩ λh3 s3 o3 q3=>?_
     refine V2 o3 ha hal (by rw[w _ (by decide) (by decide)];omega) (by rw[w _ (by decide) (by decide)];omega) ⟨_,rfl⟩ λh5 s5 o5 q5=>?_
     refine⟨?_,?_,?_,(Z9l _).1,s5,o5,by omega⟩
     . show 0<=i64.wrap _;rw[w _ (by decide) (by decide)];omega
     . show i64.wrap _<=_;rw[w _ (by decide) (by decide)];omega
     . show i64.wrap _<4;rw[w _ (by decide) (by decide)];omega
theorem ze7(n:Nat):1<=dg9 n/\dg9 n<=9:=by
 unfold dg9
 (repeat' split)<;>omega
theorem zfz{x:Nat}(ht:P10 h)(hx:x<1000000000)(H:∀s h',h.le h'->s.size=dg9 x->Kt s h'):zc (F.Wh (x:Int) 10) Kt h:=by
 refine zd (λs h'=>s.size=dg9 x) (λK' hk=>?_) λb h' hl hb=>H b h' hl hb
 unfold F.Wh
 refine zd (λs h'=>s.size=dg9 x) (λK2 hk2=>?_) λb h' hl hb=>hk _ _ hl hb
 unfold F.Xx
 refine y7 rfl ?_
 refine ze (λh1=>?_) (λh1=>?_)
 . rw[Zin (by omega)]
   refine zd (λs h'=>s.size=dg9 x) (λK3 hk3=>?_) λb h' hl hb=>hk2 _ _ hl hb
   unfold F.Vt
   refine ze (λh2=>?_) (λh2=>?_)
   . rw[w64 (by omega)]
     refine zas (by omega) (by omega) (by have:(zL6:ByteArray).size=36:=rfl;rw[this];omega) λt ht _=>hk3 _ _ (Hp.le_refl _) ?_
     unfold dg9
     rw[if_pos (by omega)];omega
   . rw[w64 (n:=(x:Int)*2) (by omega),w64 (by omega)]
     refine zas (by omega) (by omega) (by have:(zL1:ByteArray).size=200:=rfl;rw[this];omega) λt ht _=>hk3 _ _ (Hp.le_refl _) ?_
     unfold dg9
     rw[if_neg (by omega),if_pos (by omega)];omega
 . have d9:=ze7 x
   refine z72 (n:=24) (size:=1) rfl λb h2 hb ho=>?_
   refine zhu (ht.le ho.1) (by omega) hx λh3 hl3=>?_
   have ho3:=ho.le hl3
   refine⟨by decide,by omega,by simp only;omega,?_⟩
   refine Qh ?_
   obtain⟨arr,harr⟩:∃arr:Sl,arr=⟨some ⟨b,0,none⟩,24,24⟩:=⟨_,rfl⟩
   rw[<-harr]at ho3 |-
   have ea:(arr.cut (0:Int).toNat ((dg9 x:Nat):Int).toNat 1).a=arr.a:=by rw[harr];rfl
   have el:(arr.cut (0:Int).toNat ((dg9 x:Nat):Int).toNat 1).len=dg9 x:=by show((dg9 x:Nat):Int).toNat-0=_;omega
   have al:arr.len=24:=by rw[harr]
   refine Z8e (bs:=List.replicate 24 0) ho3 ea (by omega) (by omega) (by omega) λh4 bs ho4 hbs=>?_
   rw[List.length_replicate]at hbs
   refine⟨by decide,by omega,by rw[harr];simp only;omega,bs.take (dg9 x),?_,hk2 _ _ ho4.1 ?_⟩
   . rw[ea,el,harr]
     have hr:=ho4.rd.2
     rw[z3l,hbs,harr]at hr
     have key:∀{m n:Nat} {L:List Value} {a:Addr},Zw h4 a m=some L->n<=m->Zw h4 a n=some (L.take n):=by
      intro m
      induction m with
      | zero=>
        intro n L a e hn
        have:n=0:=by omega
        subst this;simp[Zw]
      | succ m ih=>
        intro n L a e hn
        have hl:=z2d e
        by_cases h1:n=m+1
        . subst h1;rw[e,List.take_of_length_le (by omega)]
        . unfold Zw at e
          split at e
          . rename_i l1 h2
            split at e
            . rename_i v hv
              simp only[Option.some.injEq]at e
              subst e
              have h3:=z2d h2
              rw[ih h2 (show n<=m by omega),List.take_append_of_le_length (by omega)]
            . cases e
          . cases e
     have:=key hr (n:=dg9 x) (by omega)
     unfold Xf at this
     rw[List.map_take];exact this
   . show(bs.take (dg9 x)).toArray.size=_
     simp;omega
end
end Den
end

section
namespace Den
open Go Iv
section
variable {h : Hp} {l : Sl} {B : Nat} {xs : List TRat} {vs : List Rat} {v0 : Rat} {KV : TInterval → Hp → Prop} {Ks : Sl → Hp → Prop}
abbrev q8(s:Bool×Sl×Bool×Sl×Bool×Sl×Bool×Sl×Unit):TInterval:=⟨⟨⟨s.1,s.2.1⟩,⟨s.2.2.1,s.2.2.2.1⟩⟩,⟨⟨s.2.2.2.2.1,s.2.2.2.2.2.1⟩,⟨s.2.2.2.2.2.2.1,s.2.2.2.2.2.2.2.1⟩⟩⟩
end
end Den
end

section
namespace Iv
open Den
def hi4(a b c d:Rat):Rat:=[b,c,d].foldl hiS a
end Iv
namespace Den
open Go Iv
section
variable {h : Hp} {a b : TInterval} {x : TRat} {p al au bl bu : Rat} {j k : Nat} {Ki : Int → Hp → Prop} {Kb : Bool → Hp → Prop} {KR : TRat → Hp → Prop} {KV : TInterval → Hp → Prop} {KVE : (TInterval × Int) → Hp → Prop} {KIB : (Int × Bool) → Hp → Prop} {KVB : (TInterval × Bool) → Hp → Prop}
theorem Zbe:BR 1 ((1:Int):Rat):=⟨by unfold Lt;decide,by unfold Lt;decide⟩
end
end Den
end

section
namespace Iv
open Den
end Iv
end

section
namespace Den
open Go Iv
section
variable {h : Hp} {a b : TInterval} {x : TRat} {y : TInt} {p al au bl bu : Rat} {N : Int} {j k : Nat} {Ki : Int → Hp → Prop} {Kb : Bool → Hp → Prop} {KI : TInt → Hp → Prop} {KR : TRat → Hp → Prop} {KV : TInterval → Hp → Prop} {KVE : (TInterval × Int) → Hp → Prop} {KIB : (Int × Bool) → Hp → Prop} {KVB : (TInterval × Bool) → Hp → Prop}
end
end Den
end

section
namespace Iv
end Iv
namespace Den
open Go Iv
section
variable {h : Hp} {a b : TInterval} {x : TRat} {y : TInt} {p al au bl bu : Rat} {j k : Nat} {KVE : (TInterval × Int) → Hp → Prop}
end
end Den
end

section
namespace Den
open Go Iv
def AI(h:Hp)(a:TInt):Prop:=∃l,RdW h a.mag l/\okW l
def AR(h:Hp)(x:TRat):Prop:=AI h x.num/\AI h x.den
theorem AI.le{h h':Hp}{a:TInt}(ha:AI h a)(hl:h.le h'):AI h' a:=by obtain⟨l,h1,h2⟩:=ha;exact⟨l,h1.le hl,h2⟩
theorem AR.le{h h':Hp}{x:TRat}(hx:AR h x)(hl:h.le h'):AR h' x:=⟨hx.1.le hl,hx.2.le hl⟩
theorem Z7k:∀{l m:List Nat},wc l=wc m->l=m
 | [],[],_=>rfl
 | [],_ :: _,h=>by simp[wc]at h
 | _ :: _,[],h=>by simp[wc]at h
 | x :: r,y :: t,h=>by
   simp only[wc,List.map_cons,List.cons.injEq,Value.int.injEq,true_and]at h
   rw[Z7k (l:=r) (m:=t) h.2,show x=y by omega]
theorem RdW.uniq{h:Hp}{x:Sl}{l m:List Nat}(h1:RdW h x l)(h2:RdW h x m):l=m:=by
 have a1:=h1.1
 have a2:=h2.1
 have e:(wc l).length=(wc m).length:=by rw[<-a1.1,<-a2.1]
 have b1:=a1.2
 have b2:=a2.2
 rw[e,b2]at b1
 exact(Z7k (Option.some.inj b1)).symm
theorem NI.inj{h:Hp}{a:TInt}{m n:Int}(h1:NI h a m)(h2:NI h a n):m=n:=by
 have e:=Zc2 (h1.1.uniq h2.1)
 have e2:decide (m<0)=decide (n<0):=by rw[<-h1.2,<-h2.2]
 have e3:m<0↔n<0:=by simpa using e2
 omega
theorem Zbf{h:Hp}{a:TInt}{l:List Nat}(hr:RdW h a.mag l)(ok:okW l):(∃n,NI h a n)↔Q7 l=l/\(a.neg=true->l≠[]):=by
 constructor
 . rintro⟨n,hn⟩
   have e:=hr.uniq hn.1
   subst e
   refine⟨zvd _,λhneg he=>?_⟩
   rw[hn.2]at hneg
   have h1:n<0:=by simpa using hneg
   have:=z2r.1 he
   omega
 . rintro⟨h1,h2⟩
   have e:=zvz ok h1
   refine⟨sg a.neg (vl l),?_,?_⟩
   . rw[zmk,<-e];exact hr
   . cases hb:a.neg with
     | false=>simp[sg]
     | true=>
       have h3:=h2 hb
       have h4:vl l≠0:=λh0=>h3 (by rw[e,h0,Q0])
       simp[sg];omega
theorem Zbg{h:Hp}{x:TRat}{m n:Int}(h1:NI h x.num m)(h2:NI h x.den n):(∃q,NR h x q)↔0<n/\Nat.gcd m.natAbs n.natAbs=1:=by
 constructor
 . rintro⟨q,hq⟩
   have e1:=h1.inj hq.1
   have e2:=h2.inj hq.2
   subst e1 e2
   exact⟨Zkr q,by rw[zsh];exact q.reduced⟩
 . rintro⟨h3,h4⟩
   have hnn:n.toNat=n.natAbs:=by omega
   refine⟨⟨m,n.toNat,by omega,by rw[hnn];exact h4⟩,h1,?_⟩
   show NI h x.den ((n.toNat:Nat):Int)
   rw[Int.toNat_of_nonneg (by omega)];exact h2
section
variable {h : Hp} {a : TInt} {x : TRat} {v : TInterval} {Kb : Bool → Hp → Prop}
theorem Z6r{l:List Nat}{n:Nat}(hn:l.length=n+1):Q7 l=l↔l[n]≠0:=by
 have e:l=l.take n++[l[n]]:=by
  have:=List.take_succ_eq_append_getElem (l:=l) (i:=n) (by omega)
  rw[List.take_of_length_le (by omega)]at this
  exact this
 constructor
 . intro h1 h0
   have h2:Q7 l=Q7 (l.take n):=by
    conv=>lhs;rw[e,h0]
    exact z6o _
   have h3:=Z6s (l.take n)
   rw[<-h2,h1,List.length_take]at h3
   omega
 . intro h0
   conv=>lhs;rw[e]
   rw[z7k _ h0]
   exact e.symm
theorem zgi(ha:AI h a)(hl:a.mag.len<=35184372087808)(H1:∀n,NI h a n->Kb true h)(H0:(¬∃n,NI h a n)->Kb false h):zc (F.z1j a) Kb h:=by
 obtain⟨l,hr,ok⟩:=ha
 have ll:=hr.len
 have hiff:=Zbf hr ok
 refine zd (λb h'=>h'=h/\(b=true/\(∃n,NI h a n)\/b=false/\¬∃n,NI h a n)) (λK' hk=>?_) λb h' _ ⟨e,hv⟩=>by
  subst e
  rcases hv with ⟨rfl,n,hn⟩ | ⟨rfl,hn⟩
  . exact H1 n hn
  . exact H0 hn
 unfold F.z1j
 refine zz (λh1=>?_) (λh1=>?_)
 . have hnil:l=[]:=List.length_eq_zero_iff.1 (by omega)
   refine zp (λh2=>?_) (λh2=>?_)
   . refine hk _ _ (Hp.le_refl _) ⟨rfl,.inl ⟨rfl,hiff.2 ⟨by rw[hnil];rfl,λhn=>?_⟩⟩⟩
     rw[hn]at h2;cases h2
   . have hneg:a.neg=true:=by simpa using h2
     refine ze (λh3=>by omega) (λh3=>hk _ _ (Hp.le_refl _) ⟨rfl,.inr ⟨rfl,λhn=>(hiff.1 hn).2 hneg hnil⟩⟩)
 . obtain⟨n,hn⟩:∃n,l.length=n+1:=⟨l.length-1,by omega⟩
   refine ze (λh3=>?_) (λh3=>by omega)
   refine Yy n hr (by rw[ll,hn,w64 (by omega)];omega) (by omega) λu hu=>⟨_,hu,hk _ _ (Hp.le_refl _) ⟨rfl,?_⟩⟩
   have htt:=Z6r hn
   by_cases h4:l[n]=0
   . refine .inr ⟨by rw[h4];rfl,λhh=>(htt.1 (hiff.1 hh).1) h4⟩
   . refine .inl ⟨by simp;omega,hiff.2 ⟨htt.2 h4,λ_ he=>by rw[he]at hn;simp at hn⟩⟩
theorem zm6{n:Int}(ha:NI h a n)(hl:a.mag.len<=35184372087808):(dg n.natAbs).length<=35184372087808:=by have:=ha.len;omega
theorem za5(hx:AR h x)(hl1:x.num.mag.len<=35184372087808)(hl2:x.den.mag.len<=35184372087808)(H1:∀q h',h.le h'->NR h x q->Kb true h')(H0:∀h',h.le h'->(¬∃q,NR h x q)->Kb false h'):zc (F.qv x) Kb h:=by
 refine zd (λb h'=>b=true/\(∃q,NR h x q)\/b=false/\¬∃q,NR h x q) (λK' hk=>?_) λb h' hl hv=>by
  rcases hv with ⟨rfl,n,hn⟩ | ⟨rfl,hn⟩
  . exact H1 n h' hl hn
  . exact H0 h' hl hn
 unfold F.qv
 refine zgi hx.1 hl1 (λm hm=>y7 rfl (zgi hx.2 hl2 (λn hn=>y7 rfl ?_) (λhn=>zt rfl (hk _ _ (Hp.le_refl _) (.inr ⟨rfl,λ⟨q,hq⟩=>hn ⟨_,hq.2⟩⟩))))) (λhn=>zt rfl (hk _ _ (Hp.le_refl _) (.inr ⟨rfl,λ⟨q,hq⟩=>hn ⟨_,hq.1⟩⟩)))
 have hiff:=Zbg hm hn
 have s:=z6f n
 refine zbr hn (zm6 hn hl2) (ze (λh1=>?_) (λh1=>hk _ _ (Hp.le_refl _) (.inr ⟨rfl,λhh=>by have:=(hiff.1 hh).1;omega⟩)))
 refine zjm hm hn (zm6 hm hl1) (zm6 hn hl2) λz h2 hl hz=>z3o hz (hk _ _ hl ?_)
 by_cases h3:Nat.gcd m.natAbs n.natAbs=1
 . exact .inl ⟨decide_eq_true (by rw[h3];rfl),hiff.2 ⟨by omega,h3⟩⟩
 . exact .inr ⟨decide_eq_false (λhh=>h3 (by omega)),λhh=>h3 (hiff.1 hh).2⟩
theorem Zit{q:Rat}{k:Nat}(hq:NR h x q)(h1:x.num.mag.len<=k)(h2:x.den.mag.len<=k):BR k q:=by
 have e1:=hq.1.len
 have e2:=hq.2.len
 exact⟨Xp.1 (by omega),Xp.1 (by omega)⟩
end
end Den
end

section
namespace Den
open Go Iv Lx
theorem zd3{S:Type}{body:S->(S->Hp->Prop)->Hp->Prop}{s0:S}{h0:Hp}(J:Nat->S->Hp->Prop){n0:Nat}(h1:J n0 s0 h0)
 (h2:∀n s h,J n s h->∀K:S->Hp->Prop,(∀n' s' h',n'<n->J n' s' h'->K s' h')->body s K h):zr body s0 h0:=by
 have least:∀s h,(∃n,J n s h)->∃n,J n s h/\∀m,J m s h->n<=m:=by
  rintro s h ⟨n,hn⟩
  induction n using Nat.strongRecOn with
  | _ n ih=>
    by_cases hh:∃m,m<n/\J m s h
    . obtain⟨m,g1,g2⟩:=hh;exact ih m g1 g2
    . exact⟨n,hn,λm hm=>Nat.not_lt.1 λhlt=>hh ⟨m,hlt,hm⟩⟩
 classical
 obtain⟨μ,hμ⟩:∃μ:S->Hp->Nat,∀s h,(∃n,J n s h)->J (μ s h) s h/\∀m,J m s h->μ s h<=m:=
  ⟨λs h=>if hh:∃n,J n s h then (least s h hh).choose else 0,λs h hh=>by
   simp only[dif_pos hh]
   exact(least s h hh).choose_spec⟩
 refine⟨λs h=>∃n,J n s h,μ,⟨n0,h1⟩,λs h hI=>?_⟩
 obtain⟨g1,g2⟩:=hμ s h hI
 exact h2 _ s h g1 _ λn' s' h' hlt hJ=>⟨⟨n',hJ⟩,Nat.lt_of_le_of_lt ((hμ s' h' ⟨n',hJ⟩).2 n' hJ) hlt⟩
section
variable {h0 h : Hp} {x y : Sl} {l : List Nat} {Ks : Sl → Hp → Prop} {Kt : ByteArray → Hp → Prop}
theorem zgz(x:Sl)(n size:Nat):(x.cut 0 n size).a=x.a:=by
 show(if x.cap=0 then x.a else x.a.map (·.add (0*size)))=x.a
 split
 . rfl
 . cases x.a with
   | none=>rfl
   | some a=>simp only[Option.map_some,Nat.zero_mul,Zv]
theorem Own.pre{cs:List Value}(ho:Own h0 h 1 x cs){n:Nat}(hn:n<=x.len):Own h0 h 1 (x.cut 0 n 1) (cs.take n):=by
 have hc:=ho.2.2.1
 obtain⟨g1,g2,g3,g4⟩:=ho
 refine⟨g1,?_,?_,?_⟩
 . show(n-0)*1=_
   rw[List.length_take];omega
 . show n-0<=x.cap-0;omega
 . rw[zgz]
   cases ha:x.a with
   | none=>
     rw[ha]at g4
     simp only at g4 |-
     show x.cap-0=0;omega
   | some a=>
     rw[ha]at g4
     obtain⟨k1,k2,k3,b,k4,k5,k6,k7⟩:=g4
     refine⟨k1,k2,k3,b,k4,k5,k6,?_⟩
     have e:(cs.take n).length=n:=by rw[List.length_take];omega
     rw[e]
     have:=congrArg (List.take n) k7
     rw[List.take_take,Nat.min_eq_left (by omega)]at this
     exact this
theorem ztw(ho:qi h0 h x l)(hl:l.length<4611686018427387904)(H:∀y,qi h0 h y (Q7 l)->y.a=x.a->Ks y h):zc (F.zv x) Ks h:=by
 refine zd (λy h'=>h'=h/\qi h0 h y (Q7 l)/\y.a=x.a) (λK' hk=>?_) λy h' _ ⟨e,hy,ha⟩=>by subst e;exact H y hy ha
 unfold F.zv
 refine yx (λst h'=>h'=h/\∃(y:Sl) (k:Nat),st=(y,())/\k<=l.length/\qi h0 h y (l.take k)/\Q7 (l.take k)=Q7 l/\y.a=x.a) (λst=>st.1.len)
  ⟨rfl,x,l.length,rfl,Nat.le_refl _,by rw[List.take_of_length_le (Nat.le_refl _)];exact ho,by rw[List.take_of_length_le (Nat.le_refl _)],rfl⟩ ?_
 rintro st h' ⟨rfl,y,k,rfl,hk2,hy,ht,ha⟩
 have hyl:=qi.len hy
 rw[List.length_take,Nat.min_eq_left hk2]at hyl
 refine zk (λ_ h1=>h1=h'/\∃j,k=j+1/\∃hj:j<l.length,l[j]=0) ?_ ?_
 . rintro _ h1 ⟨rfl,j,rfl,hj,h0⟩
   have hc:=hy.2.2.1
   refine⟨by decide,by simp only;rw[hyl,w64 (by omega)];omega,by simp only;rw[hyl,w64 (by omega)];omega,?_⟩
   have e:(i64.wrap ((y.len:Int)-1)).toNat=j:=by rw[hyl,w64 (by omega)];omega
   show((_/\_)/\_)
   rw[e]
   have hp:=hy.pre (n:=j) (by omega)
   have e2:(wc (l.take (j+1))).take j=wc (l.take j):=by
    unfold wc;rw[<-List.map_take,List.take_take];congr 2;omega
   rw[e2]at hp
   refine⟨⟨rfl,_,j,rfl,by omega,hp,?_,by rw[<-ha];exact zgz _ _ _⟩,?_⟩
   . rw[<-ht,List.take_succ_eq_append_getElem hj,h0,z6o]
   . show j-0<y.len;omega
 . refine ze (λh1=>?_) (λh1=>?_)
   . simp only at h1
     obtain⟨j,rfl⟩:∃j,k=j+1:=⟨k-1,by omega⟩
     have hj:j<l.length:=by omega
     refine Yy j (qi.rdW hy) (by simp only;rw[hyl,w64 (by omega)];omega) (by rw[List.length_take];omega) λa ha2=>⟨_,ha2,?_⟩
     have e:(l.take (j+1))[j]'(by rw[List.length_take];omega)=l[j]:=by simp
     rw[e]
     refine zz (λh2=>⟨rfl,j,rfl,hj,by omega⟩) (λh2=>?_)
     have h3:l[j]≠0:=by omega
     have:Q7 (l.take (j+1))=l.take (j+1):=by
      rw[List.take_succ_eq_append_getElem hj,z7k _ h3]
     refine hk _ _ (Hp.le_refl _) ⟨rfl,?_,ha⟩
     rw[<-ht,this];exact hy
   . simp only at h1
     have:k=0:=by omega
     subst this
     refine hk _ _ (Hp.le_refl _) ⟨rfl,?_,ha⟩
     rw[<-ht];exact hy
theorem z9g(hr:RdW h x l)(hl:l.length<=35184372088800)(H:∀y h',qi h h' y l->Ks y h'):zc (F.Zh x) Ks h:=by
 refine zd (λy h'=>qi h h' y l) (λK' hk=>?_) λy h' _ hy=>H y h' hy
 unfold F.Zh
 have hlen:=hr.len
 refine zp (λh1=>?_) (λh1=>?_)
 . have hn:x.a=none:=by cases hx:x.a with | none=>rfl | some a=>rw[hx]at h1;cases h1
   have:l=[]:=by
    have h2:=hr.1.2
    rw[hn]at h2
    simp only[Z0]at h2
    split at h2
    . rename_i h3;rw[z7l]at h3;exact List.length_eq_zero_iff.1 h3
    . cases h2
   subst this
   exact hk _ _ (Hp.le_refl _) (Own.nil (Hp.le_refl _))
 . refine z72 (n:=0) (size:=1) rfl λb h1 hb ho=>?_
   have hr1:=hr.le ho.1
   refine⟨wc l,?_,?_⟩
   . have:=hr1.1.2
     rw[z7l]at this
     rw[hlen,Nat.mul_one];exact this
   . refine z43 ho (n:=x.len) (by rw[z7l];omega) rfl ?_ (by simp only;omega) (by simp only;omega) λy h2 hy _=>hk _ _ hy.1 hy
     simp[wc,Value.leaf]
theorem zcj{h0 h:Hp}{size bytes n:Nat}{zero new cs:List Value}{x:Sl}{K:Sl->Hp->Prop}(ho:Own h0 h size x cs)(hn:new.length=n*size)(hz:zero.length=size)
 (hleaf:new.all Value.leaf=true) (hb:(x.len+n)*bytes<=140737488355328) (hb2:x.len+n<=140737488355328)
 (H:∀y h',Own h0 h' size y (cs++new)->y.len=x.len+n->(∀j,h j≠none->(∀a,x.a=some a->j≠a.block)->h' j=h j)->(∀a,y.a=some a->(∃a',x.a=some a'/\a'.block=a.block)\/h a.block=none)->K y h'):Y5 size bytes zero x n new K h:=by
 have hrd:=ho.rd
 obtain⟨h1,h2,h3,h4⟩:=ho
 refine⟨hb,hb2,λhfit=>?_,λhgrow=>?_⟩
 . cases ha:x.a with
   | none=>
     rw[ha]at h4
     simp only at h4
     have hn0:n=0:=by omega
     have hnew:new=[]:=by
      cases new with
      | nil=>rfl
      | cons a b=>rw[hn0]at hn;simp at hn
     subst hnew hn0
     simp only[stO]
     refine H _ _ ⟨h1,?_,?_,?_⟩ rfl (λj _ _=>rfl) (λa hh=>by cases hh)
     . simpa using h2
     . show x.len+0<=x.cap;omega
     . show x.cap=0;exact h4
   | some a=>
     rw[ha]at h4
     obtain⟨g1,g2,g3,b,g4,g5,g6,g7⟩:=h4
     have e1:(x.len+n)*size=cs.length+new.length:=by rw[Nat.add_mul,h2,hn]
     have e2:cs.length+new.length<=b.cells.length:=by rw[g6,<-e1];exact Nat.mul_le_mul_right _ hfit
     simp only[stO]
     refine⟨b,by rw[Yg];exact g4,V6 g2 _,g5,?_,hleaf,?_⟩
     . rw[Xv];omega
     . rw[Yg,Xv,g1,Nat.zero_add,h2]
       refine H _ _ ⟨?_,?_,hfit,?_⟩ rfl (λj hj hne=>Hp.ins_ne (hne a ha)) (λa' hh=>by cases hh;exact .inl ⟨a,ha,rfl⟩)
       . intro k bk hk
         rw[Hp.ins_ne (λhh=>by subst hh;rw[g3]at hk;cases hk)]
         exact h1 k bk hk
       . show(x.len+n)*size=_;rw[List.length_append];exact e1
       . refine⟨g1,g2,g3,_,Hp.ins_same _ _ _,g5,?_,?_⟩
         . show(Zb b.cells cs.length new).length=_
           rw[Ya (by omega)];exact g6
         . show(Zb b.cells cs.length new).take _=cs++new
           unfold Zb
           rw[g7,List.length_append,List.take_append_of_le_length (by rw[List.length_append];exact Nat.le_refl _),List.take_of_length_le (by rw[List.length_append];exact Nat.le_refl _)]
 . refine⟨cs,?_,λbk e c hc hfr=>?_⟩
   . rw[h2];exact hrd.2
   . refine H _ _ ⟨Hp.le_trans h1 (Hp.le_ins hfr),?_,hc,?_⟩ rfl (λj hj _=>Hp.ins_ne λhh=>hj (by rw[hh];exact hfr)) (λa' hh=>by cases hh;exact .inr hfr)
     . show(x.len+n)*size=_;rw[List.length_append,Nat.add_mul,h2,hn]
     . refine⟨rfl,rfl,?_,_,Hp.ins_same _ _ _,rfl,?_,?_⟩
       . cases hk:h0 bk with
         | none=>rfl
         | some b=>have:=h1 _ _ hk;rw[hfr]at this;cases this
       . show(cs++new++ye (c-(x.len+n)) zero).length=c*size
         have hr:(ye (c-(x.len+n)) zero).length=(c-(x.len+n))*size:=by
          unfold ye
          simp[hz]
         rw[List.length_append,List.length_append,hr,hn,<-h2,<-Nat.add_mul,<-Nat.add_mul]
         congr 1;omega
       . show(cs++new++ye (c-(x.len+n)) zero).take _=cs++new
         rw[List.take_append_of_le_length (by simp)]
         exact List.take_of_length_le (Nat.le_refl _)
theorem Z5e{l:List Nat}{i v:Int}{K:Hp->Prop}(k n:Nat)(ho:qi h0 h x l)(hi:i=k)(hk:k<l.length)(hv:v=n)
 (H:∀h',qi h0 h' x (l.set k n)->(∀j,(∀a,x.a=some a->j≠a.block)->h' j=h j)->K h'):zg x i 1 λa=>stP a [.int .u32 v] K h:=by
 subst hv
 refine zv7 k ho hi (by rw[qi.len ho];exact hk) rfl (by decide) rfl λh' h1 h2=>H h' ?_ h2
 rw[Nat.mul_one]at h1
 have e:wc (l.set k n)=Zb (wc l) k [Value.int .u32 (n:Int)]:=by
  rw[z3x]
  unfold wc
  rw[List.map_set,List.set_eq_take_append_cons_drop,if_pos (by simpa using hk)]
 unfold qi
 rw[e];exact h1
theorem zor{h':Hp}{size:Nat}{cs:List Value}(ho:Own h0 h size y cs)(hap:Apt x y)(hs:∀j,h j≠none->(∀a,x.a=some a->j≠a.block)->h' j=h j)(hl:h0.le h'):Own h0 h' size y cs:=by
 obtain⟨g1,g2,g3,g4⟩:=ho
 refine⟨hl,g2,g3,?_⟩
 cases ha:y.a with
 | none=>rw[ha]at g4;exact g4
 | some a=>
   rw[ha]at g4
   obtain⟨k1,k2,k3,b,k4,k5⟩:=g4
   refine⟨k1,k2,k3,b,?_,k5⟩
   rw[hs a.block (by rw[k4];simp) λc hc=>(hap c a hc ha).symm];exact k4
theorem Zkl{r w:Nat}(hr:r<1000000000)(hw:w<W) :
 u32.wrap (u64.wrap ((Q6 .or .u64 (u64.wrap ((r:Int)*2 ^ (min (32:Int).toNat u64.bits))) (u64.wrap (w:Int))).tdiv 1000000000))=(((r*W+w)/1000000000:Nat):Int):=by
 have:=zkt (b:=1000000000) hr (by decide) hw
 rw[show u64.wrap ((1000000000:Nat):Int)=1000000000 from by decide]at this
 exact this
theorem Z8c{C:Sl}{cc:List Value}{ls:List Nat}{Kf:Int->Hp->Prop}(ho:qi h0 h x ls)(okl:okW ls)(hl:ls.length<=35184372088800)(hc:Own h0 h 1 C cc)(hap:Apt x C)
 (H:∀h' ws,qi h0 h' x ws->okW ws->ws.length=ls.length->vl ws=vl ls/1000000000->Own h0 h' 1 C cc->Kf ((vl ls % 1000000000:Nat):Int) h') :
 (zr (S:=Int×Int×Unit) (λs5 k6 h4=>
 (ifP (decide (s5.2.1>=0))
 (0<=(32:Int) /\
 (zg x s5.2.1 1 λa7=>
 (ldL (.int .u32) a7 (λx8=>
 ((1000000000:Int)≠0 /\
 (zg x s5.2.1 1 λa9=>
 (stP a9 [.int .u32 (u32.wrap ((u64.wrap (((Q6 .or .u64 (u64.wrap (s5.1*2 ^ (min (32:Int).toNat u64.bits))) (u64.wrap (x8))):Int).tdiv 1000000000))))] (λh5=>
 ((1000000000:Int)≠0 /\
 (k6 (((Q6 .or .u64 (u64.wrap (s5.1*2 ^ (min (32:Int).toNat u64.bits))) (u64.wrap (x8))):Int).tmod 1000000000,(i64.wrap (s5.2.1-1)),()) h5))) h4)))) h4)))
 (Kf s5.1 h4)))
 (0,(i64.wrap ((x.len:Int)-1)),()) h):=by
  have lx:=qi.len ho
  refine yx (λst h'=>∃(k rem:Nat) (r:List Nat),st=((rem:Int),(k:Int)-1,())/\k<=ls.length/\rem<1000000000/\qi h0 h' x r/\okW r/\r.length=ls.length/\r.take k=ls.take k/\vl (ls.drop k)=1000000000*vl (r.drop k)+rem/\Own h0 h' 1 C cc)
   (λst=>(st.2.1+1).toNat) ⟨ls.length,0,ls,by rw[lx,w64 (by omega)];rfl,Nat.le_refl _,by decide,ho,okl,rfl,rfl,by rw[List.drop_eq_nil_of_le (Nat.le_refl _)];rfl,hc⟩ ?_
  rintro st h2 ⟨k,rem,r,rfl,hk,hrem,ho2,okr,hrl,htk,hv,hc2⟩
  refine ze (λh3=>?_) (λh3=>?_)
  . obtain⟨j,rfl⟩:∃j,k=j+1:=⟨k-1,by have:(k:Int)-1>=0:=h3;omega⟩
    have hj:j<ls.length:=by omega
    have hjr:j<r.length:=by omega
    have hw:=Wn okl hj
    have hji:((j+1:Nat):Int)-1=(j:Int):=by omega
    have ejr:r[j]=ls[j]:=by
     have:=congrArg (λl:List Nat=>l[j]?) htk
     simp only[List.getElem?_take,Nat.lt_succ_self,if_true]at this
     rw[List.getElem?_eq_getElem hjr,List.getElem?_eq_getElem hj]at this
     exact Option.some.inj this
    simp only[hji]
    refine⟨by decide,Yy j (qi.rdW ho2) rfl hjr λa ha=>⟨_,ha,by decide,?_⟩⟩
    rw[ejr]
    refine Z5e j _ ho2 rfl hjr (Zkl hrem hw) λh5 ho5 hs5=>⟨by decide,?_⟩
    rw[zx4 (by unfold W;omega) hw]
    have em:(((rem*W+ls[j]:Nat):Int)).tmod 1000000000=(((rem*W+ls[j]) % 1000000000:Nat):Int):=zph (rem*W+ls[j]) 1000000000
    rw[em]
    refine⟨⟨j,_,_,by rw[w64 (by omega)],by omega,Nat.mod_lt _ (by decide),ho5,z3p okr (zmv hrem hw),by simp[hrl],?_,zku hj hrl hv,zor hc2 hap (λi hi hne=>hs5 i hne) ho5.1⟩,by rw[w64 (by omega)];omega⟩
    rw[List.take_set_of_le (Nat.le_refl _)]
    have:=congrArg (List.take j) htk
    rw[List.take_take,List.take_take,Nat.min_eq_left (by omega)]at this
    exact this
  . obtain rfl:k=0:=by have:¬(k:Int)-1>=0:=h3;omega
    simp only[List.drop_zero]at hv
    have e1:vl ls/1000000000=vl r:=by rw[hv,Nat.mul_add_div (by decide),Nat.div_eq_of_lt hrem];omega
    have e2:vl ls % 1000000000=rem:=by rw[hv,Nat.mul_add_mod,Nat.mod_eq_of_lt hrem]
    have:=H h2 r ho2 okr hrl e1.symm hc2
    rw[e2]at this
    exact this
end
end Den
end
