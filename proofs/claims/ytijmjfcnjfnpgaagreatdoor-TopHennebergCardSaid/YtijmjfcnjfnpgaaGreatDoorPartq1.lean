/-
  Part 1 of the tools and contracts from which the statement is proved.
-/
import Derived.Calls
import Derived.Orders
import Derived.OrdersIn
import Derived.ControlIn
import Derived.RangeFuncIn
import Derived.KernelRfl
import Derived.Laws.Tables
import Derived.WalkKit
import Derived.Laws.IdiomStrings
set_option linter.all false
open Go.IntKind
section
namespace Den
abbrev zL0:ByteArray:=⟨#[9,9,9,9,9,9,9,9,9,9,9,9,9,9,9,9,9,9,9,9,9,9,9,9,9,9,9,9,9,9,9,9,9,9,9,9,9,9,9,9,9,9,9,9,9,9,9,9,9,9,9,9,9,9,9,9,9,9,9,9,9,9,9,9]⟩
abbrev zL1:ByteArray:=⟨#[48,48,48,49,48,50,48,51,48,52,48,53,48,54,48,55,48,56,48,57,49,48,49,49,49,50,49,51,49,52,49,53,49,54,49,55,49,56,49,57,50,48,50,49,50,50,50,51,50,52,50,53,50,54,50,55,50,56,50,57,51,48,51,49,51,50,51,51,51,52,51,53,51,54,51,55,51,56,51,57,52,48,52,49,52,50,52,51,52,52,52,53,52,54,52,55,52,56,52,57,53,48,53,49,53,50,53,51,53,52,53,53,53,54,53,55,53,56,53,57,54,48,54,49,54,50,54,51,54,52,54,53,54,54,54,55,54,56,54,57,55,48,55,49,55,50,55,51,55,52,55,53,55,54,55,55,55,56,55,57,56,48,56,49,56,50,56,51,56,52,56,53,56,54,56,55,56,56,56,57,57,48,57,49,57,50,57,51,57,52,57,53,57,54,57,55,57,56,57,57]⟩
abbrev zL2:ByteArray:=⟨#[61,61,61,61,61,61,61,61,61,61,61,61,61,61,61,61,61,61,61,61,61,61,61,61,61,61,61,61,61,61,61,61,61,61,61,61,61,61,61,61,61,61,61,61,61,61,61,61,61,61,61,61,61,61,61,61,61,61,61,61,61,61,61,61,61,61,61,61,61,61,61,61,61,61,61,61,61,61,61,61,61,61,61,61,61,61,61,61,61,61,61,61,61,61,61,61,61,61,61,61,61,61,61,61,61,61,61,61,61,61,61,61,61,61,61,61,61,61,61,61,61,61,61,61,61,61,61,61]⟩
abbrev zL3:ByteArray:=⟨#[48,48,48,48,48,48,48,48,48,48,48,48,48,48,48,48,48,48,48,48,48,48,48,48,48,48,48,48,48,48,48,48,48,48,48,48,48,48,48,48,48,48,48,48,48,48,48,48,48,48,48,48,48,48,48,48,48,48,48,48,48,48,48,48]⟩
abbrev zL4:ByteArray:=⟨#[0,1,2,2,3,3,3,3,4,4,4,4,4,4,4,4,5,5,5,5,5,5,5,5,5,5,5,5,5,5,5,5,6,6,6,6,6,6,6,6,6,6,6,6,6,6,6,6,6,6,6,6,6,6,6,6,6,6,6,6,6,6,6,6,7,7,7,7,7,7,7,7,7,7,7,7,7,7,7,7,7,7,7,7,7,7,7,7,7,7,7,7,7,7,7,7,7,7,7,7,7,7,7,7,7,7,7,7,7,7,7,7,7,7,7,7,7,7,7,7,7,7,7,7,7,7,7,7,8,8,8,8,8,8,8,8,8,8,8,8,8,8,8,8,8,8,8,8,8,8,8,8,8,8,8,8,8,8,8,8,8,8,8,8,8,8,8,8,8,8,8,8,8,8,8,8,8,8,8,8,8,8,8,8,8,8,8,8,8,8,8,8,8,8,8,8,8,8,8,8,8,8,8,8,8,8,8,8,8,8,8,8,8,8,8,8,8,8,8,8,8,8,8,8,8,8,8,8,8,8,8,8,8,8,8,8,8,8,8,8,8,8,8,8,8,8,8,8,8,8,8,8,8,8,8,8]⟩
abbrev zL5:ByteArray:=⟨#[45,45,45,45,45,45,45,45,45,45,45,45,45,45,45,45,45,45,45,45,45,45,45,45,45,45,45,45,45,45,45,45,45,45,45,45,45,45,45,45,45,45,45,45,45,45,45,45,45,45,45,45,45,45,45,45,45,45,45,45,45,45,45,45,45,45,45,45,45,45,45,45,45,45,45,45,45,45,45,45,45,45,45,45,45,45,45,45,45,45,45,45,45,45,45,45,45,45,45,45,45,45,45,45,45,45,45,45,45,45,45,45,45,45,45,45,45,45,45,45,45,45,45,45,45,45,45,45]⟩
abbrev zL6:ByteArray:=⟨#[48,49,50,51,52,53,54,55,56,57,97,98,99,100,101,102,103,104,105,106,107,108,109,110,111,112,113,114,115,116,117,118,119,120,121,122]⟩
abbrev zL7:ByteArray:=⟨#[32,32,32,32,32,32,32,32,32,32,32,32,32,32,32,32,32,32,32,32,32,32,32,32,32,32,32,32,32,32,32,32,32,32,32,32,32,32,32,32,32,32,32,32,32,32,32,32,32,32,32,32,32,32,32,32,32,32,32,32,32,32,32,32,32,32,32,32,32,32,32,32,32,32,32,32,32,32,32,32,32,32,32,32,32,32,32,32,32,32,32,32,32,32,32,32,32,32,32,32,32,32,32,32,32,32,32,32,32,32,32,32,32,32,32,32,32,32,32,32,32,32,32,32,32,32,32,32]⟩
end Den
namespace Den
open Go
structure Blk where
 cells:List Value
 elem:TypeId
 fz:Nat×Nat
abbrev Hp:=Nat->Option Blk
structure Sl where
 a:Option Addr
 len:Nat
 cap:Nat
inductive Lf where
 | int (k:IntKind) | bool | str | sl | ptr | val
abbrev Lf.T:Lf->Type
 | .int _=>Int
 | .bool=>Bool
 | .str=>ByteArray
 | .sl=>Sl
 | .ptr=>Option Addr
 | .val=>Value
def Lf.up:(l:Lf)->l.T->Value
 | .int k,n=>.int k n
 | .bool,b=>.bool b
 | .str,s=>.string s
 | .sl,s=>.slice s.a s.len s.cap
 | .ptr,p=>.pointer p
 | .val,v=>v
def z0h(k k':IntKind)(p:Prop):Prop:=match decide (k=k')with | true=>p | false=>False
def Lf.dn:(l:Lf)->Value->(l.T->Prop)->Prop
 | .int k,.int k' n,K=>z0h k k' (K n)
 | .bool,.bool b,K=>K b
 | .str,.string s,K=>K s
 | .sl,.slice a l c,K=>K ⟨a,l,c⟩
 | .ptr,.pointer p,K=>K p
 | .val,v,K=>K v
 | _,_,_=>False
theorem qr{k k':IntKind}{p:Prop}:z0h k k' p↔k=k'/\p:=by
 unfold z0h;by_cases h:k=k'<;>simp[h]
theorem Lf.dn_iff{l:Lf}{v:Value}{K:l.T->Prop}:l.dn v K↔∃x,v=l.up x/\K x:=by
 cases l<;>cases v<;>simp[Lf.dn,Lf.up,qr]
 case int.int k k' n=>exact⟨λ⟨h,hk⟩=>⟨n,⟨h.symm,rfl⟩,hk⟩,λ⟨x,⟨h,hx⟩,hk⟩=>⟨h.symm,hx▸hk⟩⟩
 case sl.slice a l c=>exact⟨λh=>⟨⟨a,l,c⟩,⟨rfl,rfl,rfl⟩,h⟩,λ⟨⟨a',l',c'⟩,⟨h1,h2,h3⟩,h⟩=>by subst h1 h2 h3;exact h⟩
namespace Hp
def le(h h':Hp):Prop:=∀k b,h k=some b->h' k=some b
def cell(h:Hp)(a:Addr):Option Value:=
 match a.spot with
 | none=>(match h a.block with | some b=>b.cells[a.off]? | none=>none)
 | some _=>none
def add(h g:Hp):Hp:=λk=>match h k with | some b=>some b | none=>g k
def dj(h g:Hp):Prop:=∀k,h k=none\/g k=none
def ins(h:Hp)(k:Nat)(b:Blk):Hp:=λj=>if j=k then some b else h j
def emp:Hp:=λ_=>none
theorem le_refl(h:Hp):h.le h:=λ_ _ e=>e
theorem le_trans{a b c:Hp}(h:a.le b)(h':b.le c):a.le c:=λk x e=>h' k x (h k x e)
theorem le_add(h g:Hp):h.le (h.add g):=λk b e=>by simp[add,e]
theorem le_add_right{h g:Hp}(hd:h.dj g):g.le (h.add g):=λk b e=>by
 rcases hd k with h1 | h1
 . simp[add,h1,e]
 . rw[h1]at e;cases e
theorem add_mono{a b g:Hp}(h:a.le b)(hd:b.dj g):(a.add g).le (b.add g):=by
 intro k x e
 unfold add at *
 cases ha:a k with
 | some y=>rw[ha]at e;simp only at e;rw[h k y ha];exact e
 | none=>
   rw[ha]at e;simp only at e
   rcases hd k with h1 | h1
   . rw[h1];exact e
   . rw[h1]at e;cases e
theorem add_emp(h:Hp):h.add emp=h:=by funext k;unfold add emp;cases h k<;>rfl
theorem dj_emp(h:Hp):h.dj emp:=λ_=>.inr rfl
theorem ins_same(h:Hp)(k:Nat)(b:Blk):h.ins k b k=some b:=by simp[ins]
theorem ins_ne{h:Hp}{k j:Nat}{b:Blk}(e:j≠k):h.ins k b j=h j:=by simp[ins,e]
theorem le_ins{h:Hp}{k:Nat}{b:Blk}(e:h k=none):h.le (h.ins k b):=λj x hx=>by
 by_cases hj:j=k
 . subst hj;rw[e]at hx;cases hx
 . rw[ins_ne hj];exact hx
theorem add_ins{h g:Hp}{k:Nat}{b:Blk}(e:h k=none):(h.add g).ins k b=h.add (g.ins k b):=by
 funext j;unfold ins add;by_cases hj:j=k
 . subst hj;simp[e]
 . simp[hj]
theorem ins_ins{h:Hp}{k:Nat}{b c:Blk}:(h.ins k b).ins k c=h.ins k c:=by
 funext j;unfold ins;by_cases hj:j=k<;>simp[hj]
theorem ins_comm{h:Hp}{k j:Nat}{b c:Blk}(e:k≠j):(h.ins k b).ins j c=(h.ins j c).ins k b:=by
 funext i;unfold ins;by_cases h1:i=j
 . subst h1;have:i≠k:=λh=>e h.symm;simp[this]
 . simp[h1]
theorem dj_ins{h g:Hp}{k:Nat}{b:Blk}(hd:h.dj g)(e:h k=none):h.dj (g.ins k b):=λj=>by
 by_cases hj:j=k
 . subst hj;exact .inl e
 . rw[ins_ne hj];exact hd j
theorem add_none{h g:Hp}{k:Nat}:(h.add g) k=none↔h k=none/\g k=none:=by
 unfold add;cases h k<;>simp
def Fin(h:Hp):Prop:=∃n,∀k,n<=k->h k=none
theorem Fin.ins{h:Hp}(hf:h.Fin){k:Nat}{b:Blk}:(h.ins k b).Fin:=by
 obtain⟨n,hn⟩:=hf
 refine⟨n+k+1,λj hj=>?_⟩
 rw[ins_ne (by omega)];exact hn j (by omega)
theorem Fin.fresh{h:Hp}(hf:h.Fin):∃b,h b=none:=by
 obtain⟨n,hn⟩:=hf
 exact⟨n,hn n (Nat.le_refl _)⟩
theorem Fin.sub{h h':Hp}(hf:h'.Fin)(H:∀k,h' k=none->h k=none):h.Fin:=by
 obtain⟨n,hn⟩:=hf
 exact⟨n,λk hk=>H k (hn k hk)⟩
theorem cell_le{h h':Hp}(hl:h.le h'){a:Addr}{v:Value}(e:h.cell a=some v):h'.cell a=some v:=by
 unfold cell at *
 cases hs:a.spot with
 | some x=>rw[hs]at e;cases e
 | none=>
   rw[hs]at e;simp only at e |-
   cases hb:h a.block with
   | none=>rw[hb]at e;cases e
   | some b=>rw[hb]at e;rw[hl _ _ hb];exact e
end Hp
def Zw(h:Hp)(a:Addr):Nat->Option (List Value)
 | 0=>some []
 | n+1=>match Zw h a n with
   | some l=>(match h.cell (a.add n)with | some v=>some (l++[v]) | none=>none)
   | none=>none
def Z0(h:Hp)(a:Option Addr)(n:Nat):Option (List Value):=
 match a with
 | some a=>Zw h a n
 | none=>if n=0 then some []else none
theorem zgp{h h':Hp}(hl:h.le h'){a:Addr}:∀{n:Nat} {l:List Value},Zw h a n=some l->Zw h' a n=some l
 | 0,_,e=>e
 | n+1,l,e=>by
   unfold Zw at *
   cases h1:Zw h a n with
   | none=>rw[h1]at e;cases e
   | some l1=>
     rw[h1]at e;rw[zgp hl h1];simp only at e |-
     cases h2:h.cell (a.add n)with
     | none=>rw[h2]at e;cases e
     | some v=>rw[h2]at e;rw[Hp.cell_le hl h2];exact e
theorem z6v{h h':Hp}(hl:h.le h'){a:Option Addr}{n:Nat}{l:List Value}(e:Z0 h a n=some l):Z0 h' a n=some l:=by
 cases a with
 | none=>exact e
 | some a=>exact zgp hl e
def Zb(cs:List Value)(off:Nat)(vs:List Value):List Value:=cs.take off++vs++cs.drop (off+vs.length)
def ye(n:Nat)(zero:List Value):List Value:=(List.replicate n zero).flatten
def Sl.cut(s:Sl)(l h size:Nat):Sl:=⟨if s.cap=l then s.a else s.a.map (·.add (l*size)),h-l,s.cap-l⟩
def Q6(op:BinOp)(k:IntKind)(x y:Int):Int:=
 let a:=BitVec.ofInt k.bits x
 let b:=BitVec.ofInt k.bits y
 match op with
 | .and=>k.wrap (a &&& b).toNat
 | .or=>k.wrap (a ||| b).toNat
 | .xor=>k.wrap (a ^^^ b).toNat
 | _=>k.wrap (a &&& ~~~b).toNat
def zsd:List (Int×Bool)->Int->Bool
 | [],_=>false
 | p :: r,k=>bif decide (k=p.1)then p.2 else zsd r k
def zm8:List (Int×Bool)->Int->Bool->List (Int×Bool)
 | [],k,v=>[(k,v)]
 | p :: r,k,v=>bif decide (k=p.1)then (k,v) :: r else p :: zm8 r k v
def ifP(t:Bool)(A B:Prop):Prop:=match t with | true=>A | false=>B
theorem zp{t:Bool}{A B:Prop}(ha:t=true->A)(hb:t=false->B):ifP t A B:=by
 cases t
 . exact hb rfl
 . exact ha rfl
def ldL(l:Lf)(a:Addr)(K:l.T->Prop)(h:Hp):Prop:=∃x:l.T,h.cell a=some (l.up x)/\K x
def yu(p:Option Addr)(K:Addr->Prop):Prop:=match p with | some a=>K a | none=>False
def zg(x:Sl)(i:Int)(size:Nat)(K:Addr->Prop):Prop:=0<=i/\i<x.len/\yu x.a λa=>K (a.add (i.toNat*size))
def slP(x:Sl)(lo hi:Int)(size:Nat)(K:Sl->Prop):Prop:=0<=lo/\lo<=hi/\hi<=x.cap/\K (x.cut lo.toNat hi.toNat size)
def zxm(x:Sl)(lo hi mx:Int)(size:Nat)(K:Sl->Prop):Prop:=0<=lo/\lo<=hi/\hi<=mx/\mx<=x.cap/\K (Sl.cut ⟨x.a,x.len,mx.toNat⟩ lo.toNat hi.toNat size)
def Qs(s:ByteArray)(i:Int)(K:Int->Prop):Prop:=0<=i/\∃b,s[i.toNat]?=some b/\K (b.toNat:Int)
def Yq(s:ByteArray)(lo hi:Int)(K:ByteArray->Prop):Prop:=0<=lo/\lo<=hi/\hi<=s.size/\K (s.extract lo.toNat hi.toNat)
def Value.leaf:Value->Bool
 | .agg _ | .tuple _=>false
 | _=>true
def stP(a:Addr)(vs:List Value)(K:Hp->Prop)(h:Hp):Prop:=
 ∃b,h a.block=some b/\a.spot=none/\b.fz=(0,0)/\a.off+vs.length<=b.cells.length/\vs.all Value.leaf=true/\K (h.ins a.block { b with cells:=Zb b.cells a.off vs })
def Yo(cells:List Value)(K:Addr->Hp->Prop)(h:Hp):Prop:=
 ∀b e,h b=none->K ⟨b,0,none⟩ (h.ins b ⟨cells,e,(0,0)⟩)
def zx0(t:TypeId)(cells:List Value)(K:Addr->Hp->Prop)(h:Hp):Prop:=
 ∀b,h b=none->K ⟨b,0,none⟩ (h.ins b ⟨cells,t,(0,0)⟩)
def mkP(len cap:Int)(bytes:Nat)(zero:List Value)(K:Sl->Hp->Prop)(h:Hp):Prop:=
 0<=len/\len<=cap/\bytes*cap<=140737488355328/\cap<=140737488355328/\Yo (ye cap.toNat zero) (λa=>K ⟨some a,len.toNat,cap.toNat⟩) h
def stO(a:Option Addr)(off:Nat)(vs:List Value)(K:Hp->Prop)(h:Hp):Prop:=
 match a with
 | some a=>stP (a.add off) vs K h
 | none=>K h
def zgt(s:Sl)(z:List Value)(K:Hp->Prop)(h:Hp):Prop:=(s.len=0->K h)/\(s.len≠0->stO s.a 0 (ye s.len z) K h)
def Y5(size bytes:Nat)(zero:List Value)(x:Sl)(n:Nat)(new:List Value)(K:Sl->Hp->Prop)(h:Hp):Prop:=
 (x.len+n)*bytes<=140737488355328/\x.len+n<=140737488355328 /\
 (x.len+n<=x.cap->stO x.a (x.len*size) new (K ⟨x.a,x.len+n,x.cap⟩) h) /\
 (x.cap<x.len+n->∃old,Z0 h x.a (x.len*size)=some old/\∀b e c,x.len+n<=c->h b=none ->
   K ⟨some ⟨b,0,none⟩,x.len+n,c⟩ (h.ins b ⟨old++new++ye (c-(x.len+n)) zero,e,(0,0)⟩))
def zl0(t:TypeId)(size bytes:Nat)(zero:List Value)(x:Sl)(n:Nat)(new:List Value)(K:Sl->Hp->Prop)(h:Hp):Prop:=
 (x.len+n)*bytes<=140737488355328/\x.len+n<=140737488355328 /\
 (x.len+n<=x.cap->stO x.a (x.len*size) new (K ⟨x.a,x.len+n,x.cap⟩) h) /\
 (x.cap<x.len+n->∃old,Z0 h x.a (x.len*size)=some old/\∀b c,x.len+n<=c->h b=none ->
   K ⟨some ⟨b,0,none⟩,x.len+n,c⟩ (h.ins b ⟨old++new++ye (c-(x.len+n)) zero,t,(0,0)⟩))
def Z7y(ty:Option Nat)(size bytes:Nat)(zero:List Value)(x:Sl)(n:Nat)(new:List Value)(K:Sl->Hp->Prop)(h:Hp):Prop:=
 match ty with
 | none=>Y5 size bytes zero x n new K h
 | some t=>zl0 t size bytes zero x n new K h
theorem zqe{ty:Option Nat}{el:TypeId}{size bytes:Nat}{zero:List Value}{x:Sl}{n:Nat}{new:List Value}{K:Sl->Hp->Prop}{h:Hp}(hty:∀t,ty=some t->el=t)(hk:Z7y ty size bytes zero x n new K h):zl0 el size bytes zero x n new K h:=by
 cases ty with
 | none=>
   obtain⟨h1,h2,h3,h4⟩:=hk
   refine⟨h1,h2,h3,λhc=>?_⟩
   obtain⟨old,h5,h6⟩:=h4 hc
   exact⟨old,h5,λb c h7 h8=>h6 b el c h7 h8⟩
 | some t=>rw[hty t rfl];exact hk
def zm3:Nat->(List Value->Prop)->Prop
 | 0,K=>K []
 | n+1,K=>∃c:Option Addr,zm3 n λl=>K (.pointer c :: l)
def zsz(hint:Option (Nat×Nat))(v:Value)(K:Value->Prop):Prop:=
 match hint with
 | none=>K v
 | some (g,k)=>zm3 k λl=>v=.func (.func g) #[] l.toArray/\K (.func (.func g) #[] l.toArray)
theorem zhn:∀{n:Nat} {K:List Value->Prop},zm3 n K->∃l,K l
 | 0,_,h=>⟨_,h⟩
 | n+1,_,⟨_,h⟩=>by
   obtain⟨l,hl⟩:=zhn h
   exact⟨_,hl⟩
theorem zt0{hint:Option (Nat×Nat)}{v:Value}{K:Value->Prop}(h:zsz hint v K):K v:=by
 cases hint with
 | none=>exact h
 | some p=>
   obtain⟨l,h1,h2⟩:=zhn h
   rw[h1];exact h2
def cpP(size:Nat)(x y:Sl)(K:Nat->Hp->Prop)(h:Hp):Prop:=
 ∃l,Z0 h y.a (Nat.min y.len x.len*size)=some l/\stO x.a 0 l (K (Nat.min y.len x.len)) h
def rdO(a:Option Addr)(n:Nat)(K:List Value->Prop)(h:Hp):Prop:=∃l,Z0 h a n=some l/\K l
def Z6p(x:Sl)(K:ByteArray->Prop)(h:Hp):Prop:=∃bs:List UInt8,Z0 h x.a x.len=some (bs.map λb=>.int .u8 b.toNat)/\K ⟨bs.toArray⟩
def Vb(s:ByteArray):List Value:=s.data.toList.map λb=>.int .u8 b.toNat
def zyc(s:ByteArray)(K:Sl->Hp->Prop)(h:Hp):Prop:=
 ∀b e c fz,s.size<=c->h b=none->K ⟨some ⟨b,0,none⟩,s.size,c⟩ (h.ins b ⟨Vb s++List.replicate (c-s.size) (.int .u8 0),e,fz⟩)
def zc{α:Type}(G:(α->Hp->Prop)->Hp->Prop)(K:α->Hp->Prop)(h:Hp):Prop:=
 ∃(D O:Hp) (Q:α->Hp->Prop),D.dj O/\h=D.add O/\G Q D/\∀v D',Q v D'->D.le D'/\(D'.dj O->(D'.add O).Fin->K v (D'.add O))
def Y3{α:Type}(G:(α->Hp->Prop)->Hp->Prop)(K:α->Hp->Prop)(h:Hp):Prop:=
 ∃(D O:Hp) (Q:α->Hp->Prop),D.dj O/\h=D.add O/\G Q D/\∀v D',Q v D'->D'.dj O->K v (D'.add O)
def z8{S:Type}(k:S->Hp->Prop)(body:(S->Hp->Prop)->Prop):Prop:=
 ∃J:S->Hp->Prop,(∀s h,J s h->k s h)/\body J
def zr{S:Type}(body:S->(S->Hp->Prop)->Hp->Prop)(s0:S)(h0:Hp):Prop:=
 ∃(I:S->Hp->Prop) (μ:S->Hp->Nat),I s0 h0/\∀s h,I s h->body s (λs' h'=>I s' h'/\μ s' h'<μ s h) h
end Den
end

section
namespace Den
open Go
inductive Slot where
 | val (v:Value)
 | box (cs:List Value)
 | lit (cs:List Value) (n:Nat)
 | ref (off:Nat)
 | mp (m:List (Int×Bool))
 | mr
 | junk
abbrev Env:=Nat->Slot
inductive Up where
 | none
 | set (d:Nat) (s:Slot)
 | alloc (d:Nat) (s:Slot)
abbrev zl:=List Value->(Value->Hp->Prop)->Hp->Prop
def Vw(t:Nat):List Nat->Bool
 | []=>false
 | x :: r=>bif Nat.beq t x then true else Vw t r
def Zav(t:Nat):List (Nat×Nat)->Nat
 | []=>t
 | (x,y) :: r=>bif Nat.beq t x then y else Zav t r
def zbj(g:Nat):List (Nat×zl)->zl
 | []=>λ_ _ _=>False
 | (x,y) :: r=>bif Nat.beq g x then y else zbj g r
inductive STy where
 | leaf (l:Lf)
 | agg (ls:List Lf)
 | box (ls:List Lf)
 | mp
def LT:List Lf->Type
 | []=>Unit
 | l :: r=>l.T×LT r
abbrev STy.T:STy->Type
 | .leaf l=>l.T
 | .agg ls=>LT ls
 | .box ls=>LT ls
 | .mp=>List (Int×Bool)
structure Cfg where
 P:Program
 n:Nat
 tab:List (Nat×zl)
 mutL:List Nat:=[]
 rtL:List (Nat×Nat):=[]
 locL:List Nat:=[]
 backs:List (Nat×STy):=[]
 tyL:List Nat:=[]
 fnL:List (Nat×Nat×Nat):=[]
 mapL:List Nat:=[]
def zus(g:Nat):List (Nat×STy)->Option STy
 | []=>none
 | (x,y) :: r=>bif Nat.beq g x then some y else zus g r
def Cfg.f(C:Cfg)(g:FuncId):zl:=zbj g C.tab
def Cfg.muts(C:Cfg)(g:FuncId):Bool:=Vw g C.mutL
def Cfg.rt(C:Cfg)(t:Nat):Nat:=Zav t C.rtL
def Cfg.loc(C:Cfg)(t:Nat):Bool:=Vw t C.locL
def Zau:Nat->List (Nat×Nat×Nat)->Option (Nat×Nat)
 | _,[]=>none
 | t,(x,y) :: r=>bif Nat.beq t x then some y else Zau t r
def Cfg.hint(C:Cfg)(dst:Option Nat):Option (Nat×Nat):=match dst with | some d=>Zau d C.fnL | none=>none
def Cfg.tyO(C:Cfg)(t:Nat):Option Nat:=bif Vw t C.tyL then some t else none
def Env.set(e:Env)(d:Nat)(s:Slot):Env:=λj=>bif Nat.beq j d then s else e j
def Env.alloc(rt:Nat->Nat)(e:Env)(d:Nat)(s:Slot):Env:=λj=>
 bif Nat.beq j d then s else match e j with
  | .ref o=>bif Nat.beq (rt j) d then .junk else .ref o
  | x=>x
def Env.upd(rt:Nat->Nat)(e:Env):Up->Env
 | .none=>e
 | .set d s=>e.set d s
 | .alloc d s=>e.alloc rt d s
def opv(e:Env)(x:Operand)(K:Value->Prop):Prop:=
 match x with
 | .const v=>K v
 | .func f=>K (.func (.func f) #[] #[])
 | .global g=>K (.pointer (some ⟨g,0,none⟩))
 | .tmp t=>match e t with
   | .val v=>K v
   | _=>False
def z7v(e:Env):List Operand->(List Value->Prop)->Prop
 | [],K=>K []
 | x :: r,K=>opv e x λv=>z7v e r λvs=>K (v :: vs)
def zm0(op:BinOp)(k k':IntKind)(a b:Int)(K:Value->Prop):Prop:=
 match op with
 | .shl=>0<=b/\K (.int k (k.wrap (a*2 ^ (min b.toNat k.bits))))
 | .shr=>0<=b/\K (.int k (a.fdiv (2 ^ (min b.toNat k.bits))))
 | .add=>z0h k k' (K (.int k (k.wrap (a+b))))
 | .sub=>z0h k k' (K (.int k (k.wrap (a-b))))
 | .mul=>z0h k k' (K (.int k (k.wrap (a*b))))
 | .quo=>z0h k k' (b≠0/\K (.int k (k.wrap (a.tdiv b))))
 | .rem=>z0h k k' (b≠0/\K (.int k (a.tmod b)))
 | .and=>z0h k k' (K (.int k (Q6 .and k a b)))
 | .or=>z0h k k' (K (.int k (Q6 .or k a b)))
 | .xor=>z0h k k' (K (.int k (Q6 .xor k a b)))
 | .andNot=>z0h k k' (K (.int k (Q6 .andNot k a b)))
 | .eql=>z0h k k' (K (.bool (a==b)))
 | .neq=>z0h k k' (K (.bool (a != b)))
 | .lss=>z0h k k' (K (.bool (decide (a<b))))
 | .leq=>z0h k k' (K (.bool (decide (a<=b))))
 | .gtr=>z0h k k' (K (.bool (decide (a>b))))
 | .geq=>z0h k k' (K (.bool (decide (a>=b))))
def Zd2(P:Program)(t:TypeId)(op:BinOp)(xs ys:List Value)(K:Value->Prop):Prop:=
 match P.underlying t with
 | some (.array 2 el)=>(match P.underlying el,Nat.beq (P.cellsOf el) 1,P.eqGuardType P.depth t with
   | some (.int _),true,false=>(match xs,ys with
     | [.int k a,.int k2 b],[.int k3 c,.int k4 d]=>z0h k k3 <| z0h k2 k4 <| (match op with
       | .eql=>K (.bool (a==c&&b==d))
       | .neq=>K (.bool (!(a==c&&b==d)))
       | _=>False)
     | _,_=>False)
   | _,_,_=>False)
 | _=>False
def zy9(P:Program)(t:TypeId)(op:BinOp)(x y:Value)(K:Value->Prop):Prop:=
 match x,y with
 | .int k a,.int k' b=>zm0 op k k' a b K
 | .string a,.string b=>
   (match op with
   | .add=>((a.size+b.size:Nat):Int)<=9223372036854775807/\K (.string (a++b))
   | .eql=>K (.bool (a.toList==b.toList))
   | .neq=>K (.bool (!(a.toList==b.toList)))
   | _=>False)
 | .bool a,.bool b=>
   (match P.underlying t,op with
   | some .bool,.eql=>K (.bool (a==b))
   | some .bool,.neq=>K (.bool (!(a==b)))
   | _,_=>False)
 | .slice a _ _,.slice none _ _=>
   (match P.underlying t,op with
   | some (.slice _),.eql=>K (.bool a.isNone)
   | some (.slice _),.neq=>K (.bool (!a.isNone))
   | _,_=>False)
 | .agg xs,.agg ys=>Zd2 P t op xs.toList ys.toList K
 | _,_=>False
def unP(op:UnOp)(x:Value)(K:Value->Prop):Prop:=
 match op,x with
 | .not,.bool b=>K (.bool (!b))
 | .neg,.int k n=>K (.int k (k.wrap (0-n)))
 | _,_=>False
def isAgg?(P:Program)(t:TypeId):Option Bool:=
 match P.underlying t with
 | some (.struct _) | some (.array _ _)=>some true
 | some _=>some false
 | none=>none
def zc0(P:Program):Nat->TypeId->Option (List Lf)
 | 0,_=>none
 | d+1,t=>
   match P.underlying t with
   | some .bool=>some [.bool]
   | some (.int k)=>some [.int k]
   | some .string=>some [.str]
   | some (.slice _)=>some [.sl]
   | some (.pointer _)=>some [.ptr]
   | some (.struct fs)=>fs.toList.foldr (λf acc=>match zc0 P d f.type,acc with | some l,some r=>some (l++r) | _,_=>none) (some [])
   | some (.array n t')=>(match zc0 P d t' with | some l=>some ((List.replicate n l).flatten) | none=>none)
   | some (.func _ _ _)=>some [.val]
   | _=>none
def Z43:List Lf->Addr->Nat->(List Value->Prop)->Hp->Prop
 | [],_,_,K,_=>K []
 | l :: r,a,i,K,h=>ldL l (a.add i) (λx=>Z43 r a (i+1) (λvs=>K (l.up x :: vs)) h) h
def ldT(P:Program)(t:TypeId)(a:Addr)(K:Value->Prop)(h:Hp):Prop:=
 match zc0 P 8 t with
 | some ls=>(match isAgg? P t with
   | none=>False
   | some true=>(match Nat.beq ls.length (P.cellsOf t)with
     | true=>Z43 ls a 0 (λvs=>K (.agg vs.toArray)) h
     | false=>False)
   | some false=>(match ls with
     | [l]=>ldL l a (λx=>K (l.up x)) h
     | _=>False))
 | none=>False
def z7x(P:Program)(t:TypeId)(cs:List Value)(off:Nat)(K:Value->Prop):Prop:=
 match isAgg? P t with
 | none=>False
 | some true=>(match Nat.ble (off+P.cellsOf t) cs.length with
   | true=>K (.agg ((cs.drop off).take (P.cellsOf t)).toArray)
   | false=>False)
 | some false=>(match cs[off]? with
   | some v=>K v
   | none=>False)
def zot(P:Program)(ix:Operand)(t:TypeId)(cs:List Value)(off:Nat)(K:Value->Prop):Prop:=
 match ix with
 | .tmp _=>(match isAgg? P t,zc0 P 8 t with
   | some false,some [l]=>∃x:l.T,cs[off]?=some (l.up x)/\K (l.up x)
   | _,_=>False)
 | _=>z7x P t cs off K
def z9b(P:Program)(t:TypeId)(K:List Value->Prop):Prop:=
 match P.info? t with
 | some i=>(match i.zero with
   | some z=>K z.cells.toList
   | none=>False)
 | none=>False
def Qb(C:Cfg)(dst:Option Nat)(v:Value)(h:Hp)(K:Up->Hp->Prop):Prop:=
 match dst with
 | none=>K .none h
 | some d=>match C.loc d,Nat.blt d C.n with
   | false,true=>K (.set d (.val v)) h
   | _,_=>False
def zbn(C:Cfg)(dst:Option Nat)(h:Hp)(K:Up->Hp->Prop):Prop:=
 match dst with
 | none=>K .none h
 | some d=>match C.loc d,Vw d C.mapL with
   | true,false=>K (.alloc d .junk) h
   | true,true=>False
   | false,_=>Qb C dst undef h K
def zp3(C:Cfg)(dst:Option Nat)(root off:Nat)(h:Hp)(K:Up->Hp->Prop):Prop:=
 match dst with
 | none=>False
 | some d=>match C.loc d,Nat.beq (C.rt d) root,Nat.blt d C.n with
   | false,true,true=>K (.set d (.ref off)) h
   | _,_,_=>False
def z36(C:Cfg)(dst:Option Nat)(cs:List Value)(mk:Addr->Value)(hid:Slot)(ty:Option Nat)(h:Hp)(K:Up->Hp->Prop):Prop:=
 match dst with
 | none=>False
 | some d=>match C.loc d,Nat.blt d C.n,Vw d C.mapL with
   | true,true,false=>K (.alloc d hid) h
   | false,true,_=>(match ty with
     | none=>Yo cs (λa h'=>K (.set d (.val (mk a))) h') h
     | some t=>zx0 t cs (λa h'=>K (.set d (.val (mk a))) h') h)
   | _,_,_=>False
def zak(P:Program)(s:TypeId)(f:Nat)(K:Nat->Prop):Prop:=
 match P.underlying s with
 | some (.struct fs)=>(match fs[f]? with
   | some fd=>(match Nat.beq (P.cellsOf fd.type) 0 with
     | true=>False
     | false=>K fd.offset)
   | none=>False)
 | _=>False
def zk4(place:Nat->Option (Nat×Nat))(zero:List Value)(parts:List (Nat×Value))(K:List Value->Prop):Prop:=
 match Instr.fill place zero.toArray parts with
 | some cs=>K cs.toList
 | none=>False
def elemOf?(P:Program)(t:TypeId)(K:TypeId->Prop):Prop:=
 match P.underlying t with
 | some (.slice e)=>(match (P.info? e).isSome with
   | true=>K e
   | false=>False)
 | _=>False
def zop(P:Program)(t:TypeId)(p:Prop):Prop:=
 match P.underlying t with
 | some (.slice _)=>p
 | some .string=>p
 | _=>False
def Z98(P:Program)(t:TypeId)(p q:Prop):Prop:=
 match P.underlying t with
 | some (.int _)=>p
 | _=>q
def okT(P:Program)(t:TypeId)(p:Prop):Prop:=
 match (P.info? t).isSome with
 | true=>p
 | false=>False
def zba(n:Int)(len:Nat)(p:Prop):Prop:=match decide (0<=n/\n<len)with | true=>p | false=>False
def Zbo:Value->(List Value->Prop)->Prop
 | .agg cs,K=>K cs.toList
 | _,_=>False
def zje(a b:Int):Int:=if b>a then b else a
def zws(a b:Int):Int:=if b<a then b else a
def Zja:List Value->(Value->Prop)->Prop
 | [.int k a,.int k' b],K=>z0h k k' (K (.int k (zje a b)))
 | _,_=>False
def Zjb:List Value->(Value->Prop)->Prop
 | [.int k a,.int k' b],K=>z0h k k' (K (.int k (zws a b)))
 | _,_=>False
def boP(e:Env)(lo:Option Operand)(dflt:Int)(K:Int->Prop):Prop:=
 match lo with
 | none=>K dflt
 | some x=>opv e x λv=>match v with
   | .int _ n=>K n
   | _=>False
def zji(e:Env)(x:Operand)(size:Nat)(K:Nat->List Value->Prop)(h:Hp):Prop:=
 match x with
 | .tmp t=>(match e t with
   | .lit cs n=>(match Nat.beq cs.length (n*size)with | true=>K n cs | false=>False)
   | .val (.slice a l _)=>rdO a (l*size) (λvs=>K l vs) h
   | .val (.string s)=>(match Nat.beq size 1 with | true=>K s.size (Vb s) | false=>False)
   | _=>False)
 | .const (.slice a l _)=>rdO a (l*size) (λvs=>K l vs) h
 | .const (.string s)=>(match Nat.beq size 1 with | true=>K s.size (Vb s) | false=>False)
 | _=>False
def zc1(C:Cfg)(e:Env)(x:Operand)(A:Nat->List (Int×Bool)->Prop)(B:Prop):Prop:=
 match x with
 | .tmp s=>(match e s with
   | .mp m=>(match Nat.beq (C.rt s) s with
     | true=>A s m
     | false=>False)
   | .mr=>(match e (C.rt s)with
     | .mp m=>A (C.rt s) m
     | _=>False)
   | _=>B)
 | _=>B
def Zkw:Slot->Bool
 | .mr=>true
 | _=>false
def zst(C:Cfg)(dst:Option Nat)(root:Nat)(h:Hp)(K:Up->Hp->Prop):Prop:=
 match dst with
 | none=>False
 | some d=>match C.loc d,Nat.beq (C.rt d) root,Nat.blt d C.n with
   | false,true,true=>K (.set d .mr) h
   | _,_,_=>False
def zm7(P:Program)(t:TypeId)(p:Prop):Prop:=
 match P.underlying t with
 | some (.map k v)=>(match P.underlying k,P.info? v with
   | some (.int .i64),some i=>(match i.zero with
     | some (.bool false)=>p
     | _=>False)
   | _,_=>False)
 | _=>False
def zmg(C:Cfg)(e:Env)(dst:Option Nat)(h:Hp)(K:Up->Hp->Prop):Prop:=
 match dst with
 | none=>False
 | some d=>(match C.loc d,Nat.blt d C.n,Vw d C.mapL,(List.range C.n).all (λt=>!Zkw (e t))with
   | true,true,true,true=>K (.alloc d (.mp [])) h
   | _,_,_,_=>False)
def Qg(C:Cfg)(b:Builtin)(argTypes:List TypeId)(args:List Operand)(e:Env)(h:Hp)(dst:Option Nat)(K:Up->Hp->Prop):Prop:=
 match b,args with
 | .len,[x]=>zc1 C e x (λ_ m=>(match argTypes with
   | [t]=>zm7 C.P t (Qb C dst (.int .i64 m.length) h K)
   | _=>False)) <| opv e x λv=>(match v,argTypes with
   | .string s,[t]=>(match C.P.underlying t with
     | some .string=>Qb C dst (.int .i64 s.size) h K
     | _=>False)
   | .slice _ n _,[t]=>(match C.P.underlying t with
     | some (.slice _)=>Qb C dst (.int .i64 n) h K
     | _=>False)
   | _,_=>False)
 | .max,[x,y]=>opv e x λu=>opv e y λv=>Zja [u,v] λr=>Qb C dst r h K
 | .min,[x,y]=>opv e x λu=>opv e y λv=>Zjb [u,v] λr=>Qb C dst r h K
 | .append,[x,y]=>(match argTypes with
   | [t,t2]=>Z98 C.P t2 (elemOf? C.P t λel=>z9b C.P el λz=>(match Nat.beq z.length (C.P.cellsOf el),Nat.beq z.length 0 with
     | true,false=>opv e x λv=>opv e y λu=>(match v,u with
       | .slice a l c,.int _ m=>0<=m/\Z7y (C.tyO el) z.length (C.P.bytesOf el) z ⟨a,l,c⟩ m.toNat (ye m.toNat z) (λs h'=>Qb C dst (.slice s.a s.len s.cap) h' K) h
       | _,_=>False)
     | _,_=>False)) <| zop C.P t2 <| elemOf? C.P t λel=>z9b C.P el λz=>(match Nat.beq z.length (C.P.cellsOf el),Nat.beq z.length 0 with
     | true,false=>opv e x λv=>(match v with
       | .slice a l c=>zji e y z.length (λn new=>Z7y (C.tyO el) z.length (C.P.bytesOf el) z ⟨a,l,c⟩ n new (λs h'=>Qb C dst (.slice s.a s.len s.cap) h' K) h) h
       | _=>False)
     | _,_=>False)
   | _=>False)
 | .copy,[x,y]=>(match argTypes with
   | [t,_]=>elemOf? C.P t λel=>opv e x λv=>opv e y λu=>(match v,u with
     | .slice a l c,.slice a2 l2 c2=>cpP (C.P.cellsOf el) ⟨a,l,c⟩ ⟨a2,l2,c2⟩ (λn h'=>Qb C dst (.int .i64 (n:Int)) h' K) h
     | _,_=>False)
   | _=>False)
 | .clear,[x]=>(match argTypes with
   | [t]=>elemOf? C.P t λel=>z9b C.P el λz=>opv e x λv=>(match v with
     | .slice a l c=>zgt ⟨a,l,c⟩ z (λh'=>Qb C dst (.tuple #[]) h' K) h
     | _=>False)
   | _=>False)
 | .cap,[x]=>opv e x λv=>(match v,argTypes with
   | .slice _ _ n,[t]=>(match C.P.underlying t with
     | some (.slice _)=>Qb C dst (.int .i64 n) h K
     | _=>False)
   | _,_=>False)
 | _,_=>False
def Zg(C:Cfg)(o:Oper)(e:Env)(h:Hp)(K:Up->Hp->Prop):Prop:=
 match o.op with
 | .move x | .assign x=>zc1 C e x (λs _=>(match Vw s C.mapL with
   | true=>zst C o.dst s h K
   | false=>False)) <| opv e x λv=>Qb C o.dst v h K
 | .pick c a b=>opv e c λv=>(match v with
   | .bool t=>ifP t (opv e a λv=>Qb C o.dst v h K) (opv e b λv=>Qb C o.dst v h K)
   | _=>False)
 | .alloc t=>z9b C.P t λcs=>z36 C o.dst cs (λa=>.pointer (some a)) (.box cs) (C.tyO t) h K
 | .box _ x=>opv e x λv=>z36 C o.dst v.cells.toList (λa=>.pointer (some a)) (.box v.cells.toList) none h K
 | .build t parts=>z7v e (parts.toList.map (·.2)) λvs=>(match C.P.built t ((parts.toList.map (·.1)).zip vs)with
   | some cs=>Qb C o.dst (.agg cs) h K
   | none=>False)
 | .buildSlice t n parts=>z7v e (parts.toList.map (·.2)) λvs=>elemOf? C.P t λel=>z9b C.P el λz=>(match Nat.beq z.length (C.P.cellsOf el),Nat.ble (n*C.P.cellsOf el) 16777216 with
   | true,true=>zk4 (λi=>some (i*z.length,z.length)) (ye n z) ((parts.toList.map (·.1)).zip vs) λcs=>
     z36 C o.dst cs (λa=>.slice (some a) n n) (.lit cs n) none h K
   | _,_=>False)
 | .load t a=>(match a with
   | .tmp s=>(match e s with
     | .box cs=>z7x C.P t cs 0 λv=>Qb C o.dst v h K
     | .ref off=>(match e (C.rt s)with
       | .box cs=>z7x C.P t cs off λv=>Qb C o.dst v h K
       | _=>False)
     | .val (.pointer p)=>(match C.loc (C.rt s)with
       | true=>False
       | false=>yu p λad=>ldT C.P t ad (λv=>zsz (C.hint o.dst) v λv=>Qb C o.dst v h K) h)
     | _=>False)
   | _=>False)
 | .store t a x=>opv e x λv=>(match Nat.beq v.cells.toList.length (C.P.cellsOf t),v.cells.toList.all Value.leaf with
   | true,true=>(match a with
     | .tmp s=>(match e s with
       | .box cs=>(match (C.P.info? t).isSome,o.dst,Nat.ble v.cells.toList.length cs.length with
         | true,none,true=>K (.set s (.box (Zb cs 0 v.cells.toList))) h
         | _,_,_=>False)
       | .ref off=>(match e (C.rt s)with
         | .box cs=>(match (C.P.info? t).isSome,o.dst,Nat.ble (off+v.cells.toList.length) cs.length with
           | true,none,true=>K (.set (C.rt s) (.box (Zb cs off v.cells.toList))) h
           | _,_,_=>False)
         | _=>False)
       | .val (.pointer p)=>(match C.loc (C.rt s)with
         | true=>False
         | false=>yu p λad=>(match (C.P.info? t).isSome,o.dst with
           | true,none=>stP ad v.cells.toList (λh'=>K .none h') h
           | _,_=>False))
       | _=>False)
     | _=>False)
   | _,_=>False)
 | .nilCheck x=>opv e x λv=>(match v with
   | .pointer p=>yu p λad=>Qb C o.dst (.pointer (some ad)) h K
   | .func (.func g) a b=>Qb C o.dst (.func (.func g) a b) h K
   | _=>False)
 | .binOp op t x y _=>opv e x λu=>opv e y λv=>zy9 C.P t op u v λr=>Qb C o.dst r h K
 | .unOp op _ x=>opv e x λu=>unP op u λr=>Qb C o.dst r h K
 | .convert src dst x=>opv e x λv=>(match C.P.underlying dst,v with
   | some (.int k),.int _ n=>(match (C.P.underlying src).isSome with
     | true=>Qb C o.dst (.int k (k.wrap n)) h K
     | false=>False)
   | some .string,.slice a l c=>(match C.P.underlying src with
     | some (.slice el)=>(match C.P.underlying el with
       | some (.int .u8)=>Z6p ⟨a,l,c⟩ (λs=>Qb C o.dst (.string s) h K) h
       | _=>False)
     | _=>False)
   | some (.slice el),.string s=>(match C.P.underlying src,C.P.underlying el with
     | some .string,some (.int .u8)=>zyc s (λx h'=>Qb C o.dst (.slice x.a x.len x.cap) h' K) h
     | _,_=>False)
   | _,_=>False)
 | .makeFunc (.func g) first captured=>z7v e first.toList λus=>z7v e captured.toList λvs=>Qb C o.dst (.func (.func g) us.toArray vs.toArray) h K
 | .makeSlice t l c=>opv e l λlv=>opv e c λcv=>(match lv,cv with
   | .int _ len,.int _ cap=>elemOf? C.P t λel=>z9b C.P el λz=>(match Nat.beq z.length (C.P.cellsOf el),Nat.beq z.length 0 with
     | true,false=>mkP len cap (C.P.bytesOf el) z (λs h'=>Qb C o.dst (.slice s.a s.len s.cap) h' K) h
     | _,_=>False)
   | _,_=>False)
 | .slice t x lo hi none=>opv e x λv=>(match v with
   | .string s=>(match C.P.underlying t with
     | some .string=>boP e lo 0 λl=>boP e hi s.size λu=>Yq s l u λr=>Qb C o.dst (.string r) h K
     | _=>False)
   | .slice a n c=>elemOf? C.P t λel=>boP e lo 0 λl=>boP e hi n λu=>slP ⟨a,n,c⟩ l u (C.P.cellsOf el) λs=>Qb C o.dst (.slice s.a s.len s.cap) h K
   | .pointer p=>(match C.P.underlying t with
     | some (.array n el)=>okT C.P el <| yu p λad=>boP e lo 0 λl=>boP e hi n λu=>slP ⟨some ad,n,n⟩ l u (C.P.cellsOf el) λs=>Qb C o.dst (.slice s.a s.len s.cap) h K
     | _=>False)
   | _=>False)
 | .slice t x lo (some hi) (some mx)=>opv e x λv=>(match v with
   | .slice a n c=>elemOf? C.P t λel=>boP e lo 0 λl=>boP e (some hi) 0 λu=>boP e (some mx) 0 λm=>zxm ⟨a,n,c⟩ l u m (C.P.cellsOf el) λs=>Qb C o.dst (.slice s.a s.len s.cap) h K
   | _=>False)
 | .fieldAddr t x f=>zak C.P t f λoff=>(match x with
   | .tmp s=>(match e s with
     | .box _=>zp3 C o.dst s off h K
     | .ref o'=>zp3 C o.dst (C.rt s) (o'+off) h K
     | .val (.pointer p)=>yu p λad=>Qb C o.dst (.pointer (some (ad.add off))) h K
     | _=>False)
   | _=>False)
 | .field t x f=>zak C.P t f λoff=>opv e x λv=>Zbo v λcs=>(match C.P.underlying t with
   | some (.struct fs)=>(match fs[f]? with
     | some fd=>z7x C.P fd.type cs off λr=>Qb C o.dst r h K
     | none=>False)
   | _=>False)
 | .indexAddr t x ix=>opv e ix λiv=>(match iv with
   | .int _ n=>(match C.P.underlying t with
     | some (.slice el)=>okT C.P el <| opv e x λv=>(match v with
       | .slice a l c=>zg ⟨a,l,c⟩ n (C.P.cellsOf el) λad=>Qb C o.dst (.pointer (some ad)) h K
       | _=>False)
     | some (.array len el)=>okT C.P el <| zba n len (match x with
       | .tmp s=>(match e s with
         | .box _=>zp3 C o.dst s (n.toNat*C.P.cellsOf el) h K
         | .ref o'=>zp3 C o.dst (C.rt s) (o'+n.toNat*C.P.cellsOf el) h K
         | .val (.pointer p)=>yu p λad=>Qb C o.dst (.pointer (some (ad.add (n.toNat*C.P.cellsOf el)))) h K
         | _=>False)
       | .global g=>Qb C o.dst (.pointer (some ((⟨g,0,none⟩:Addr).add (n.toNat*C.P.cellsOf el)))) h K
       | _=>False)
     | _=>False)
   | _=>False)
 | .index t x ix=>opv e ix λiv=>opv e x λv=>(match iv,v with
   | .int _ n,.string s=>(match C.P.underlying t with
     | some .string=>Qs s n λb=>Qb C o.dst (.int .u8 b) h K
     | _=>False)
   | .int _ n,.agg cs=>(match C.P.underlying t with
     | some (.array len el)=>okT C.P el <| zba n len (zot C.P ix el cs.toList (n.toNat*C.P.cellsOf el) λr=>Qb C o.dst r h K)
     | _=>False)
   | _,_=>False)
 | .makeMap _ none=>zmg C e o.dst h K
 | .lookup t x ix false=>opv e ix λiv=>zm7 C.P t <| zc1 C e x (λ_ m=>(match iv with
   | .int .i64 n=>Qb C o.dst (.bool (zsd m n)) h K
   | _=>False)) False
 | .mapUpdate t x k y=>opv e k λkv=>opv e y λyv=>zm7 C.P t <| zc1 C e x (λs m=>(match kv,yv,o.dst with
   | .int .i64 n,.bool b,none=>K (.set s (.mp (zm8 m n b))) h
   | _,_,_=>False)) False
 | .extract x i=>opv e x λv=>(match v with
   | .tuple vs=>(match vs.toList[i]? with
     | some u=>Qb C o.dst u h K
     | none=>False)
   | _=>False)
 | .call c=>(match c.callee with
   | .builtin b=>Qg C b c.argTypes.toList c.args.toList e h o.dst K
   | .value f=>opv e f λfv=>(match fv with
     | .func (.func g) first cap=>z7v e c.args.toList λvs=>
       C.f g (first.toList++vs++cap.toList) (λr h'=>Qb C o.dst r h' K) h
     | _=>False)
   | _=>False)
 | _=>False
def Wm(C:Cfg)(ops:Array Oper)(K:Env->Hp->Prop):List Nat->Env->Hp->Prop
 | [],e,h=>K e h
 | i :: r,e,h=>
   match ops[i]? with
   | none=>False
   | some o=>
     match o.guard with
     | none=>Zg C o e h λu h'=>Wm C ops K r (e.upd C.rt u) h'
     | some (j,want)=>
       match (ops[j]?).bind (·.dst)with
       | none=>False
       | some d=>
         match C.loc d,e d with
         | false,.val (.bool t)=>
           ifP t
            (match want with
              | true=>Zg C o (e.set d (.val (.bool true))) h λu h'=>Wm C ops K r ((e.set d (.val (.bool true))).upd C.rt u) h'
              | false=>zbn C o.dst h λu h'=>Wm C ops K r ((e.set d (.val (.bool true))).upd C.rt u) h')
            (match want with
              | false=>Zg C o (e.set d (.val (.bool false))) h λu h'=>Wm C ops K r ((e.set d (.val (.bool false))).upd C.rt u) h'
              | true=>zbn C o.dst h λu h'=>Wm C ops K r ((e.set d (.val (.bool false))).upd C.rt u) h')
         | false,.val (.tuple _)=>zbn C o.dst h λu h'=>Wm C ops K r (e.upd C.rt u) h'
         | _,_=>False
def Yh(C:Cfg)(o:Oper):List Nat:=
 (match o.dst with | some d=>[d] | none=>[])++(match o.op with | .store _ (.tmp s) _=>[s,C.rt s] | .mapUpdate _ (.tmp s) _ _=>[C.rt s] | _=>[])++(match o.guard with | some _=>[] | none=>[])
def zly(ops:Array Oper)(o:Oper):List Nat:=
 match o.guard with
 | some (j,_)=>(match (ops[j]?).bind (·.dst)with | some d=>[d] | none=>[])
 | none=>[]
def Y7(C:Cfg):Code->List Nat
 | .region _ ops _=>ops.toList.flatMap λo=>Yh C o++zly ops o
 | .seq a b=>Y7 C a++Y7 C b
 | .cond _ a b=>Y7 C a++Y7 C b
 | .block _ a=>Y7 C a
 | .loop a=>Y7 C a
 | .rangeFunc _ ps a b=>ps.toList++Y7 C a++Y7 C b
 | .scope a=>Y7 C a
 | _=>[]
def z9f:List (Nat×STy)->Type
 | []=>Unit
 | (_,s) :: r=>s.T×z9f r
def LT.up:(ls:List Lf)->LT ls->List Value
 | [],_=>[]
 | l :: r,x=>l.up x.1 :: LT.up r x.2
def LT.dn:(ls:List Lf)->List Value->(LT ls->Prop)->Prop
 | [],[],K=>K ()
 | l :: r,v :: vs,K=>l.dn v λx=>LT.dn r vs λxs=>K (x,xs)
 | _,_,_=>False
def STy.up:(s:STy)->s.T->Slot
 | .leaf l,x=>.val (l.up x)
 | .agg ls,x=>.val (.agg (LT.up ls x).toArray)
 | .box ls,x=>.box (LT.up ls x)
 | .mp,x=>.mp x
def STy.dn:(s:STy)->Slot->(s.T->Prop)->Prop
 | .leaf l,.val v,K=>l.dn v K
 | .agg ls,.val (.agg cs),K=>LT.dn ls cs.toList K
 | .box ls,.box cs,K=>LT.dn ls cs K
 | .mp,.mp m,K=>K m
 | _,_,_=>False
def zfq:(L:List (Nat×STy))->Env->(z9f L->Prop)->Prop
 | [],_,K=>K ()
 | (t,s) :: r,e,K=>s.dn (e t) λx=>zfq r e λxs=>K (x,xs)
def Qk:(L:List (Nat×STy))->z9f L->Nat->Option Slot
 | [],_,_=>none
 | (t',s) :: r,x,t=>bif Nat.beq t t' then some (s.up x.1)else Qk r x.2 t
def qn(e:Env)(mods:List Nat)(L:List (Nat×STy))(s:z9f L):Env:=λt=>
 match Qk L s t with
 | some x=>x
 | none=>bif Vw t mods then .junk else match e t with
   | .ref _=>.junk
   | .lit _ _=>.junk
   | x=>x
inductive Ex where
 | normal
 | exit (id:Nat)
 | ret
inductive An where
 | leaf
 | draw (order:List Nat)
 | drawP (order pubs:List Nat)
 | drawC (p:List Nat) (b:Nat) (q as:List Nat)
 | seq (a b:An)
 | join (L:List (Nat×STy)) (a b:An)
 | cond (a b:An)
 | block (a:An)
 | loop (L:List (Nat×STy)) (a:An)
 | back (L:List (Nat×STy)) (a b:An)
inductive Cls where
 | pure | load | call | new | other
 deriving DecidableEq
def Wx(C:Cfg)(o:Oper):Cls:=
 match o.op with
 | .move _ | .assign _ | .pick .. | .build .. | .binOp .. | .unOp .. | .makeFunc .. | .slice .. | .fieldAddr .. | .field .. | .indexAddr .. | .index .. | .extract .. | .nilCheck _=>.pure
 | .convert _ dst _=>(match C.P.underlying dst with | some (.int _)=>.pure | _=>.other)
 | .alloc _ | .box .. | .buildSlice ..=>(match o.dst with
   | some d=>(match C.loc d with | true=>.pure | false=>.new)
   | none=>.other)
 | .load _ (.tmp s)=>(match C.loc (C.rt s)with | true=>.pure | false=>.load)
 | .load ..=>.load
 | .store _ (.tmp s) _=>(match C.loc (C.rt s)with | true=>.pure | false=>.other)
 | .makeSlice ..=>(match o.dst with
   | some d=>(match C.loc d with
     | true=>.other
     | false=>(match Nat.blt d C.n with
       | true=>.new
       | false=>.other))
   | none=>.other)
 | .call c=>(match c.callee with
   | .builtin .len | .builtin .max | .builtin .min | .builtin .cap=>.pure
   | .value (.func g)=>(match C.muts g with | true=>.other | false=>.call)
   | _=>.other)
 | _=>.other
def z3t(C:Cfg):Operand->List Nat
 | .tmp t=>[t,C.rt t]
 | _=>[]
def z54(C:Cfg)(ops:Array Oper)(o:Oper):List Nat:=
 o.op.operands.toList.flatMap (z3t C)++zly ops o++(match o.dst with | some d=>[C.rt d] | none=>[])
def z3s(C:Cfg)(ops:Array Oper)(o:Oper):List Nat:=z54 C ops o++(z54 C ops o).map C.rt
def z16(a b:List Nat):Bool:=a.all λx=>!Vw x b
def zb3:Option (Nat×Bool)->Option (Nat×Bool)->Bool
 | _,none=>true
 | some (i,a),some (j,b)=>Nat.beq i j&&(match a,b with | true,true=>true | false,false=>true | _,_=>false)
 | none,some _=>false
def z90(C:Cfg)(ox oy:Oper):Bool:=
 match Wx C ox,Wx C oy with
 | .pure,_=>true
 | .load,.pure | .load,.load | .load,.call | .load,.new=>true
 | .call,.new=>zb3 ox.guard oy.guard
 | .new,.new=>zb3 ox.guard oy.guard
 | _,_=>false
def z19(ops:Array Oper):Nat->Nat->Nat->Bool
 | 0,_,_=>false
 | d+1,x,y=>match ops[y]? with
   | some o=>o.after.toList.any (λe=>Region.binds .any e&&Nat.beq e.on x)||o.after.toList.any (λe=>Region.binds .any e&&(Nat.blt x e.on&&z19 ops d x e.on))
   | none=>false
def z9w(o:Oper):Bool:=
 match o.op with
 | .makeMap ..=>true
 | _=>false
def z3y(C:Cfg)(ops:Array Oper)(x y:Nat):Bool:=
 match ops[x]?,ops[y]? with
 | some ox,some oy=>
   z90 C ox oy&&!z9w ox&&!z9w oy&&z16 (Yh C ox) (z3s C ops oy)&&z16 (Yh C oy) (z3s C ops ox)&&z16 (Yh C ox) (Yh C oy)
 | _,_=>false
def z4d(C:Cfg)(ops:Array Oper):List Nat->Bool
 | []=>true
 | x :: r=>r.all (λy=>z19 ops ops.size x y||z3y C ops x y)&&z4d C ops r
def zc6:List Nat->Bool
 | []=>true
 | x :: r=>!Vw x r&&zc6 r
def zat(ops:Array Oper):Bool:=
 (List.range ops.size).all λi=>match ops[i]? with
   | some o=>o.after.toList.all λe=>!Region.binds .any e||Nat.blt e.on i
   | none=>true
def zan(C:Cfg)(ops:Array Oper)(order:List Nat):Bool:=
 C.P.follows .mixedOrders&&zat ops&&Nat.ble order.length ops.size&&zc6 order&&order.all (λi=>Nat.blt i ops.size)&&(List.range ops.size).all (λi=>Vw i order)&&z4d C ops order
def zir(C:Cfg)(ops:Array Oper)(as:List Nat)(b x:Nat):Bool:=
 match ops[x]?,ops[b]? with
 | some ox,some ob=>(match Vw x as with
   | true=>(match Wx C ox with | .load=>true | _=>false)&&ox.guard.isNone&&!z9w ob&&z16 (Yh C ox) (z3s C ops ob)&&z16 (Yh C ob) (z3s C ops ox)&&z16 (Yh C ox) (Yh C ob)&&z16 (Yh C ox) (ox.op.operands.toList.flatMap (z3t C)++(ox.op.operands.toList.flatMap (z3t C)).map C.rt)
   | false=>z3y C ops x b)
 | _,_=>false
def zjq(C:Cfg)(ops:Array Oper)(x:Nat):Bool:=
 match ops[x]? with
 | some ox=>(match Wx C ox with | .pure | .load=>true | _=>false)
 | none=>false
def zf6(C:Cfg)(ops:Array Oper)(a x:Nat):Bool:=
 match ops[x]?,ops[a]? with
 | some ox,some oa=>z16 (Yh C ox) (z3s C ops oa)&&z16 (Yh C ox) (Yh C oa)&&!z9w oa
 | _,_=>false
def zua(C:Cfg)(ops:Array Oper)(as:List Nat)(b:Nat):List Nat->Bool
 | []=>true
 | a :: r=>(!Vw a as||r.all λx=>z19 ops ops.size x b||zf6 C ops a x)&&zua C ops as b r
def zgq(C:Cfg)(ops:Array Oper)(p:List Nat)(b:Nat)(q as:List Nat):Bool:=
 C.P.follows .mixedOrders&&zat ops&&Nat.ble (p++b :: q).length ops.size&&zc6 (p++b :: q)&&(p++b :: q).all (λi=>Nat.blt i ops.size)&&(List.range ops.size).all (λi=>Vw i (p++b :: q)) &&
  z4d C ops (p++q)&&q.all (λy=>z19 ops ops.size b y)&&p.all (λx=>z19 ops ops.size x b||(zir C ops as b x&&zjq C ops x))&&zua C ops as b p&&as.all (λa=>match ops[a]? with | some oa=>(match Wx C oa with | .load=>true | _=>false) | none=>false)&&(ops[b]?).isSome
def zil(C:Cfg)(ops:Array Oper)(as:List Nat)(e:Env)(h:Hp)(P:Prop):Prop:=
 match as with
 | []=>P
 | a :: r=>(match ops[a]? with
   | some o=>Zg C o e h λu _=>(match u with
     | .set d (.val v)=>(match e d with
       | .val v'=>v=v'
       | _=>False)
     | _=>False)
   | none=>False)/\zil C ops r e h P
def STy.val:(s:STy)->s.T->Value
 | .leaf l,x=>l.up x
 | .agg ls,x=>.agg (LT.up ls x).toArray
 | .box _,_=>.tuple #[]
 | .mp,_=>.tuple #[]
def STy.cells:(s:STy)->s.T->List Value
 | .leaf l,x=>[l.up x]
 | .agg ls,x=>LT.up ls x
 | .box _,_=>[]
 | .mp,_=>[]
def STy.size:STy->Nat
 | .leaf _=>1
 | .agg ls=>ls.length
 | .box _=>0
 | .mp=>0
def zu6{S:Type}(T:STy)(a:Addr)(body:Int->T.T->S->(S->Hp->Prop)->Hp->Prop)(s0:S)(K:S->Hp->Prop)(h:Hp):Prop:=
 ∃(x:Sl) (I:Nat->S->Hp->Prop),x.len<=140737488355328/\I x.len s0 h /\
  (∀i s h',I i s h'->h'.cell a=some (.slice x.a x.len x.cap)) /\
  (∀i s h',i<x.len->I (i+1) s h'->∃(ad:Addr) (v:T.T),x.a=some ad/\(∀j u,(T.cells v)[j]?=some u->h'.cell (ad.add (i*T.size+j))=some u)/\body i v s (λs' h''=>I i s' h'') h') /\
  ∀s h',I 0 s h'->K s h'
def z1g:Code->List Nat
 | .region _ ops _=>ops.toList.flatMap λo=>match o.dst with | some d=>[d] | none=>[]
 | .seq a b=>z1g a++z1g b
 | .cond _ a b=>z1g a++z1g b
 | .block _ a=>z1g a
 | .loop a=>z1g a
 | .scope a=>z1g a
 | _=>[]
def Xb:Code->Bool
 | .seq a b=>Xb a&&Xb b
 | .cond _ a b=>Xb a&&Xb b
 | .block _ a=>Xb a
 | .loop a=>Xb a
 | .scope a=>Xb a
 | .rangeFunc ..=>false
 | _=>true
def zm2:STy->Bool
 | .box _=>true
 | _=>false
def zl2(C:Cfg)(L:List (Nat×STy))(p0 p1:Nat)(x y:Code):Bool:=
 L.all (λq=>zm2 q.2&&Vw q.1 (Y7 C x++Y7 C y)&&!Vw q.1 (p0 :: p1 :: (z1g x++z1g y))&&C.loc q.1)&&Xb x&&Xb y&&!C.loc p0&&!C.loc p1&&Nat.blt p0 C.n&&Nat.blt p1 C.n&&!Nat.beq p0 p1
def Z94(C:Cfg):List Nat->(Env->Hp->Prop)->Env->Hp->Prop
 | [],K,e,h=>K e h
 | d :: r,K,e,h=>match e d with
   | .box cs=>Yo cs (λa h'=>Z94 C r K (e.alloc C.rt d (.val (.pointer (some a)))) h') h
   | _=>False
def den(C:Cfg):Code->An->(Ex->Env->Hp->Prop)->Env->Hp->Prop
 | .skip,_,K,e,h=>K .normal e h
 | .exit j,_,K,e,h=>K (.exit j) e h
 | .ret,_,K,e,h=>K .ret e h
 | .region _ ops false,_,K,e,h=>Wm C ops (K .normal) (List.range ops.size) e h
 | .region _ ops true,.draw order,K,e,h=>(match zan C ops order with
   | true=>Wm C ops (K .normal) order e h
   | false=>False)
 | .region id ops true,.drawP order pubs,K,e,h=>(match zan C ops order&&pubs.all (λd=>Vw d (Y7 C (.region id ops true)))with
   | true=>Wm C ops (Z94 C pubs (K .normal)) order e h
   | false=>False)
 | .region _ ops true,.drawC p b q as,K,e,h=>(match zgq C ops p b q as with
   | true=>Wm C ops (λe1 h1=>Wm C ops (λe2 h2=>zil C ops as e2 h2 (Wm C ops (K .normal) q e2 h2)) [b] e1 h1) p e h
   | false=>False)
 | .seq x y,.seq a b,K,e,h=>den C x a (λex e' h'=>match ex with
   | .normal=>den C y b K e' h'
   | ex=>K ex e' h') e h
 | .seq x y,.join L a b,K,e,h=>z8 (S:=z9f L) (λs h'=>den C y b K (qn e (Y7 C x) L s) h')
   (λk=>den C x a (λex e' h'=>match ex with
     | .normal=>zfq L e' λs=>k s h'
     | ex=>K ex e' h') e h)
 | .cond c x y,.cond a b,K,e,h=>opv e c λv=>(match v with
   | .bool t=>ifP t (den C x a K e h) (den C y b K e h)
   | _=>False)
 | .block id x,.block a,K,e,h=>den C x a (λex e' h'=>match ex with
   | .exit j=>(match Nat.beq j id with
     | true=>K .normal e' h'
     | false=>K (.exit j) e' h')
   | ex=>K ex e' h') e h
 | .loop x,.loop L a,K,e,h=>zfq L e λs0=>zr (S:=z9f L) (λs k h1=>den C x a (λex e' h'=>match ex with
    | .normal=>zfq L e' λs=>k s h'
    | ex=>K ex e' h') (qn e (Y7 C x) L s) h1) s0 h
 | .rangeFunc g ⟨[p0,p1]⟩ x y,.back L a b,K,e,h=>(match zl2 C L p0 p1 x y with
   | true=>opv e g λgv=>(match gv with
     | .func (.func gf) ⟨[]⟩ ⟨[.pointer (some ad)]⟩=>(match zus gf C.backs with
       | some T=>zfq L e λs0=>zu6 (S:=z9f L) T ad (λi v s k h1=>den C x a (λex e1 h2=>match ex with
          | .normal=>den C y b (λex e2 h3=>match ex with
            | .normal=>zfq L e2 λs'=>k s' h3
            | _=>False) e1 h2
          | _=>False) (((qn e ([p0,p1]++Y7 C x++Y7 C y) L s).set p0 (.val (.int .i64 i))).set p1 (.val (T.val v))) h1)
          s0 (λs h'=>K .normal (qn e ([p0,p1]++Y7 C x++Y7 C y) L s) h') h
       | none=>False)
     | _=>False)
   | false=>False)
 | _,_,_,_,_=>False
def zsr(C:Cfg)(rs:List ResultVar)(e:Env)(K:List Value->Prop):Prop:=
 match rs with
 | []=>K []
 | .tmp t :: r=>(match e t with
   | .val v=>zsr C r e λvs=>K (v :: vs)
   | _=>False)
 | .cell t ty :: r=>(match e t with
   | .box cs=>z7x C.P ty cs 0 λv=>zsr C r e λvs=>K (v :: vs)
   | _=>False)
def Z52(vs:List Value):Value:=match vs with | [v]=>v | vs=>.tuple vs.toArray
def zs2(args:List Value):Env:=λt=>match args[t]? with | some v=>.val v | none=>.junk
def zqz(C:Cfg)(fn:Func)(c:Code)(an:An)(args:List Value)(K:Value->Hp->Prop)(h:Hp):Prop:=
 den C c an (λex e h'=>match ex with
  | .exit _=>False
  | _=>zsr C fn.results.toList e λvs=>K (Z52 vs) h') (zs2 args) h
end Den
end

section
namespace Den
open Go
def Sub(h:Hp)(w:World):Prop:=∀k b,h k=some b->w.heap[k]?=some (.cells b.cells.toArray b.elem b.fz)
theorem Sub.cell{h:Hp}{w:World}(hs:Sub h w){a:Addr}{v:Value}(e:h.cell a=some v):w.cell? a=some v:=by
 unfold Hp.cell at e
 unfold World.cell?
 cases hsp:a.spot with
 | some x=>rw[hsp]at e;cases e
 | none=>
   rw[hsp]at e;simp only at e
   cases hb:h a.block with
   | none=>rw[hb]at e;cases e
   | some b=>rw[hb]at e;simp only at e;rw[hs _ _ hb];simpa using e
theorem Sub.mono{h h':Hp}{w:World}(hs:Sub h' w)(hl:h.le h'):Sub h w:=λk b e=>hs k b (hl k b e)
theorem Sub.lt{h:Hp}{w:World}(hs:Sub h w){k:Nat}{b:Blk}(e:h k=some b):k<w.heap.size:=by
 rcases Nat.lt_or_ge k w.heap.size with h' | h'
 . exact h'
 . have:=hs k b e;rw[Array.getElem?_eq_none h']at this;cases this
theorem Sub.fresh{h:Hp}{w:World}(hs:Sub h w){k:Nat}(e:w.heap.size<=k):h k=none:=by
 cases hk:h k with
 | none=>rfl
 | some b=>have:=hs.lt hk;omega
section
variable {P : Program} {w : World}
theorem Sub.fin{h:Hp}{w:World}(hs:Sub h w):h.Fin:=⟨w.heap.size,λ_ hk=>hs.fresh hk⟩
theorem zm1{op:BinOp}{k k':IntKind}{a b:Int}{K:Value->Prop}(h:zm0 op k k' a b K)(t:TypeId) :
 ∃r,K r/\(binOp op t (.int k a) (.int k' b)).run P w=.ok r w:=by
 cases op
 case shl=>
  obtain⟨hb,hK⟩:0<=b/\K (.int k (k.wrap (a*2 ^ (min b.toNat k.bits)))):=h
  refine⟨_,hK,?_⟩
  show(Op.shift .shl k a k' b).run P w=_
  unfold Op.shift
  rw[if_neg (by omega)]
  rfl
 case shr=>
  obtain⟨hb,hK⟩:0<=b/\K (.int k (a.fdiv (2 ^ (min b.toNat k.bits)))):=h
  refine⟨_,hK,?_⟩
  show(Op.shift .shr k a k' b).run P w=_
  unfold Op.shift
  rw[if_neg (by omega)]
  rfl
 case quo=>
  obtain⟨rfl,hb,hK⟩:k=k'/\b≠0/\K (.int k (k.wrap (a.tdiv b))):=qr.1 h
  refine⟨_,hK,?_⟩
  show(if k≠k then stuck "BinOp: operands of different kinds" else Op.intDiv .quo k a b).run P w=_
  rw[if_neg (by simp)];unfold Op.intDiv;rw[if_neg hb];rfl
 case rem=>
  obtain⟨rfl,hb,hK⟩:k=k'/\b≠0/\K (.int k (a.tmod b)):=qr.1 h
  refine⟨_,hK,?_⟩
  show(if k≠k then stuck "BinOp: operands of different kinds" else Op.intDiv .rem k a b).run P w=_
  rw[if_neg (by simp)];unfold Op.intDiv;rw[if_neg hb];rfl
 case add=>
  obtain⟨rfl,hK⟩:k=k'/\K (.int k (k.wrap (a+b))):=qr.1 h
  refine⟨_,hK,?_⟩
  show(if k≠k then stuck "BinOp: operands of different kinds" else Op.intArith .add k a b).run P w=_
  rw[if_neg (by simp)];rfl
 case sub=>
  obtain⟨rfl,hK⟩:k=k'/\K (.int k (k.wrap (a-b))):=qr.1 h
  refine⟨_,hK,?_⟩
  show(if k≠k then stuck "BinOp: operands of different kinds" else Op.intArith .sub k a b).run P w=_
  rw[if_neg (by simp)];rfl
 case mul=>
  obtain⟨rfl,hK⟩:k=k'/\K (.int k (k.wrap (a*b))):=qr.1 h
  refine⟨_,hK,?_⟩
  show(if k≠k then stuck "BinOp: operands of different kinds" else Op.intArith .mul k a b).run P w=_
  rw[if_neg (by simp)];rfl
 case and=>
  obtain⟨rfl,hK⟩:k=k'/\K (.int k (Q6 .and k a b)):=qr.1 h
  refine⟨_,hK,?_⟩
  show(if k≠k then stuck "BinOp: operands of different kinds" else Op.intBits .and k a b).run P w=_
  rw[if_neg (by simp)];rfl
 case or=>
  obtain⟨rfl,hK⟩:k=k'/\K (.int k (Q6 .or k a b)):=qr.1 h
  refine⟨_,hK,?_⟩
  show(if k≠k then stuck "BinOp: operands of different kinds" else Op.intBits .or k a b).run P w=_
  rw[if_neg (by simp)];rfl
 case xor=>
  obtain⟨rfl,hK⟩:k=k'/\K (.int k (Q6 .xor k a b)):=qr.1 h
  refine⟨_,hK,?_⟩
  show(if k≠k then stuck "BinOp: operands of different kinds" else Op.intBits .xor k a b).run P w=_
  rw[if_neg (by simp)];rfl
 case andNot=>
  obtain⟨rfl,hK⟩:k=k'/\K (.int k (Q6 .andNot k a b)):=qr.1 h
  refine⟨_,hK,?_⟩
  show(if k≠k then stuck "BinOp: operands of different kinds" else Op.intBits .andNot k a b).run P w=_
  rw[if_neg (by simp)];rfl
 all_goals
  obtain⟨rfl,hK⟩:=qr.1 h
  refine⟨_,hK,?_⟩
  show(if k≠k then stuck "BinOp: operands of different kinds" else Op.intCmp _ a b).run P w=_
  rw[if_neg (by simp)];rfl
theorem zi{t:TypeId}{d:TypeDesc}(h:P.underlying t=some d):(underlying t).run P w=.ok d w:=by
 unfold Go.underlying
 simp only[Sem.run_bind,run_program,Result.andThen_ok,h,Sem.run_pure]
theorem zlx(d:Nat){t:TypeId}{a b:Bool}(hu:P.underlying t=some .bool):(Op.equalIn (d+1) t (.bool a) (.bool b)).run P w=.ok (a==b) w:=by
 unfold Op.equalIn
 simp only[Sem.run_bind,zi hu,Result.andThen_ok,Sem.run_pure]
theorem zh7{t:TypeId}{a b:Bool}(hu:P.underlying t=some .bool):(Op.equal t (.bool a) (.bool b)).run P w=.ok (a==b) w:=
 zlx 9999 hu
theorem znz(d:Nat){t e:TypeId}{a:Option Addr}{l c l' c':Nat}(hu:P.underlying t=some (.slice e)) :
 (Op.equalIn (d+1) t (.slice a l c) (.slice none l' c')).run P w=.ok a.isNone w:=by
 unfold Op.equalIn
 cases a<;>simp only[Sem.run_bind,zi hu,Result.andThen_ok,Sem.run_pure]<;>rfl
theorem zk3{t e:TypeId}{a:Option Addr}{l c l' c':Nat}(hu:P.underlying t=some (.slice e)) :
 (Op.equal t (.slice a l c) (.slice none l' c')).run P w=.ok a.isNone w:=
 znz 9999 hu
theorem zfh(d:Nat){t:TypeId}{k k':IntKind}{a b:Int}(hu:P.underlying t=some (.int k')):(Op.equalIn (d+1) t (.int k a) (.int k b)).run P w=.ok (a==b) w:=by
 unfold Op.equalIn
 simp only[Sem.run_bind,zi hu,Result.andThen_ok]
 rfl
theorem zwl{t:TypeId}{k:IntKind}(hu:P.underlying t=some (.int k)):(isAgg t).run P w=.ok false w:=by
 simp only[isAgg,Sem.run_bind,zi hu,Result.andThen_ok,Sem.run_pure]
theorem zda{t:TypeId}{k:IntKind}(hu:P.underlying t=some (.int k)){cs:Array Value}{i:Nat}{v:Value}(hv:cs[i]?=some v):(part t cs i).run P w=.ok v w:=by
 unfold part
 simp only[Sem.run_bind,zwl hu,Result.andThen_ok,hv]
 rfl
theorem zw6{t el:TypeId}{kk k k2:IntKind}{a b c d:Int}(hu:P.underlying t=some (.array 2 el))(he:P.underlying el=some (.int kk))(hc:∀w,(Go.sizeOf el).run P w=.ok 1 w) :
 (Op.equal t (.agg #[.int k a,.int k2 b]) (.agg #[.int k c,.int k2 d])).run P w=.ok (a==c&&b==d) w:=by
 show(Op.equalIn (9999+1) t _ _).run P w=_
 unfold Op.equalIn
 simp only[Sem.run_bind,zi hu,Result.andThen_ok,hc]
 simp only[Std.Legacy.Range.forIn_eq_forIn_range',Std.Legacy.Range.size,Nat.sub_zero,Nat.add_sub_cancel,Nat.div_one,List.range'_succ,List.range'_zero,List.forIn_cons,List.forIn_nil]
 have p1:∀w,(part el #[Value.int k a,Value.int k2 b] (0*1)).run P w=.ok (.int k a) w:=λw=>zda he rfl
 have p2:∀w,(part el #[Value.int k c,Value.int k2 d] (0*1)).run P w=.ok (.int k c) w:=λw=>zda he rfl
 have p3:∀w,(part el #[Value.int k a,Value.int k2 b] ((0+1)*1)).run P w=.ok (.int k2 b) w:=λw=>zda he rfl
 have p4:∀w,(part el #[Value.int k c,Value.int k2 d] ((0+1)*1)).run P w=.ok (.int k2 d) w:=λw=>zda he rfl
 have q1:∀w,(Op.equalIn 9999 el (.int k a) (.int k c)).run P w=.ok (a==c) w:=λw=>zfh 9998 he
 have q2:∀w,(Op.equalIn 9999 el (.int k2 b) (.int k2 d)).run P w=.ok (b==d) w:=λw=>zfh 9998 he
 simp only[Sem.run_bind,p1,p2,q1,Result.andThen_ok]
 cases h1:(a==c)
 . simp
 . simp only[Bool.not_true,Bool.false_eq_true,if_false,Sem.run_pure,Result.andThen_ok,Sem.run_bind,p3,p4,q2]
   cases h2:(b==d)<;>simp
theorem zqk{op:BinOp}{t:TypeId}{x y:Value}{K:Value->Prop}(h:zy9 P t op x y K)(ox oy:Operand) :
 ∃r,K r/\(eqGuard op t ox oy x y >>= λ_=>binOp op t x y).run P w=.ok r w:=by
 unfold zy9 at h
 split at h
 . rename_i k a k' b
   obtain⟨r,hK,hr⟩:=zm1 (P:=P) (w:=w) h t
   refine⟨r,hK,?_⟩
   have:(eqGuard op t ox oy (.int k a) (.int k' b)).run P w=.ok () w:=by
    unfold eqGuard;split<;>simp
   simp[this,hr]
 . rename_i a b
   have hg:(eqGuard op t ox oy (.string a) (.string b)).run P w=.ok () w:=by
    unfold eqGuard;split<;>simp
   split at h
   . refine⟨_,h.2,?_⟩
     simp only[Sem.run_bind,hg,Result.andThen_ok,binOp,Op.stringOp]
     rw[if_neg (by have:=h.1;simp[IntKind.max,IntKind.signed,IntKind.bits];omega)]
     rfl
   . exact⟨_,h,by simp[hg,binOp,Op.stringOp]⟩
   . exact⟨_,h,by simp[hg,binOp,Op.stringOp]⟩
   . exact h.elim
 . rename_i a b
   have hg:(eqGuard op t ox oy (.bool a) (.bool b)).run P w=.ok () w:=by
    unfold eqGuard;split<;>simp
   split at h
   . rename_i hu
     refine⟨_,h,?_⟩
     simp only[Sem.run_bind,hg,Result.andThen_ok]
     show(Op.equal t (.bool a) (.bool b) >>= λr=>Pure.pure (Value.bool r)).run P w=_
     simp only[Sem.run_bind,zh7 hu,Result.andThen_ok,Sem.run_pure]
   . rename_i hu
     refine⟨_,h,?_⟩
     simp only[Sem.run_bind,hg,Result.andThen_ok]
     show(Op.equal t (.bool a) (.bool b) >>= λr=>Pure.pure (Value.bool (!r))).run P w=_
     simp only[Sem.run_bind,zh7 hu,Result.andThen_ok,Sem.run_pure]
   . exact h.elim
 . rename_i a l c l' c'
   have hg:(eqGuard op t ox oy (.slice a l c) (.slice none l' c')).run P w=.ok () w:=by
    unfold eqGuard;split<;>simp
   split at h
   . rename_i hu
     refine⟨_,h,?_⟩
     simp only[Sem.run_bind,hg,Result.andThen_ok]
     show(Op.equal t (.slice a l c) (.slice none l' c') >>= λr=>Pure.pure (Value.bool r)).run P w=_
     simp only[Sem.run_bind,zk3 hu,Result.andThen_ok,Sem.run_pure]
   . rename_i hu
     refine⟨_,h,?_⟩
     simp only[Sem.run_bind,hg,Result.andThen_ok]
     show(Op.equal t (.slice a l c) (.slice none l' c') >>= λr=>Pure.pure (Value.bool (!r))).run P w=_
     simp only[Sem.run_bind,zk3 hu,Result.andThen_ok,Sem.run_pure]
   . exact h.elim
 . rename_i xs ys
   unfold Zd2 at h
   split at h
   . rename_i el hu
     split at h
     . rename_i kk he hc hg0
       have hc:=Nat.eq_of_beq_eq_true hc
       split at h
       . rename_i k a k2 b k3 c k4 d hx hy
         obtain⟨e1,h'⟩:=qr.1 h
         obtain⟨e2,h''⟩:=qr.1 h'
         clear h h'
         subst e1 e2
         have h:=h''
         clear h''
         have ex:xs=#[.int k a,.int k2 b]:=by rw[<-Array.toArray_toList (xs:=xs),hx]
         have ey:ys=#[.int k c,.int k2 d]:=by rw[<-Array.toArray_toList (xs:=ys),hy]
         subst ex ey
         have hz:∀w,(Go.sizeOf el).run P w=.ok 1 w:=λw=>by
          cases hi:P.info? el with
          | none=>simp[Program.cellsOf,hi]at hc
          | some i=>
            have:i.size=1:=by simpa [Program.cellsOf,hi] using hc
            simp[Go.sizeOf,typeInfo,hi,this]
         have hg:(eqGuard op t ox oy (.agg #[.int k a,.int k2 b]) (.agg #[.int k c,.int k2 d])).run P w=.ok () w:=by
          cases op<;>simp[eqGuard,run_program,hg0]
         have he2:(Op.equal t (.agg #[.int k a,.int k2 b]) (.agg #[.int k c,.int k2 d])).run P w=.ok (a==c&&b==d) w:=zw6 hu he hz
         split at h
         . refine⟨_,h,?_⟩
           simp only[Sem.run_bind,hg,Result.andThen_ok]
           show(Op.equal t (.agg #[.int k a,.int k2 b]) (.agg #[.int k c,.int k2 d]) >>= λr=>Pure.pure (Value.bool r)).run P w=_
           simp only[Sem.run_bind,he2,Result.andThen_ok,Sem.run_pure]
         . refine⟨_,h,?_⟩
           simp only[Sem.run_bind,hg,Result.andThen_ok]
           show(Op.equal t (.agg #[.int k a,.int k2 b]) (.agg #[.int k c,.int k2 d]) >>= λr=>Pure.pure (Value.bool (!r))).run P w=_
           simp only[Sem.run_bind,he2,Result.andThen_ok,Sem.run_pure]
         . exact h.elim
       . exact h.elim
     . exact h.elim
   . exact h.elim
 . exact h.elim
theorem zxy{op:UnOp}{x:Value}{K:Value->Prop}(h:unP op x K):∃r,K r/\(Op.unary op x).run P w=.ok r w:=by
 unfold unP at h
 split at h
 . exact⟨_,h,by simp[Op.unary]⟩
 . exact⟨_,h,by simp[Op.unary,Op.intArith]⟩
 . exact h.elim
theorem z5o{t:TypeId}{b:Bool}(h:isAgg? P t=some b):(isAgg t).run P w=.ok b w:=by
 unfold isAgg? at h
 cases hd:P.underlying t with
 | none=>rw[hd]at h;cases h
 | some d=>
   rw[hd]at h
   simp only[isAgg,Sem.run_bind,zi hd,Result.andThen_ok]
   cases d<;>simp_all
theorem yj{t:TypeId}{i:TypeInfo}(h:P.info? t=some i):(Go.sizeOf t).run P w=.ok i.size w:=by
 simp[Go.sizeOf,typeInfo,h]
theorem Yf{t:TypeId}{i:TypeInfo}(h:P.info? t=some i):P.cellsOf t=i.size:=by simp[Program.cellsOf,h]
theorem z88{t:TypeId}{i:TypeInfo}(h:P.info? t=some i):P.bytesOf t=i.bytes:=by simp[Program.bytesOf,h]
theorem z29{t:TypeId}{d:TypeDesc}(h:P.underlying t=some d):∃i,P.info? t=some i:=by
 cases hi:P.info? t with
 | none=>simp[Program.underlying,hi]at h
 | some i=>exact⟨i,rfl⟩
theorem zm5{n:Nat}{t:TypeId}{ls:List Lf}(h:zc0 P n t=some ls):∃d,P.underlying t=some d:=by
 cases n with
 | zero=>simp[zc0]at h
 | succ n=>
   cases hd:P.underlying t with
   | none=>simp[zc0,hd]at h
   | some d=>exact⟨d,rfl⟩
theorem zho{h:Hp}(hs:Sub h w):∀{ls:List Lf} {a:Addr} {i:Nat} {K:List Value->Prop},Z43 ls a i K h ->
 ∃vs,K vs/\vs.length=ls.length/\∀acc,(loadCellsFrom a i ls.length acc).run P w=.ok (acc++vs.toArray) w
 | [],a,i,K,hk=>⟨[],hk,rfl,λacc=>by simp[loadCellsFrom]⟩
 | l :: r,a,i,K,hk=>by
   obtain⟨x,hx,hk⟩:=hk
   obtain⟨vs,h1,h2,h3⟩:=zho hs hk
   refine⟨l.up x :: vs,h1,by simp[h2],λacc=>?_⟩
   have hc:=hs.cell hx
   simp only[List.length_cons,loadCellsFrom,Sem.run_bind,run_load,hc,Result.andThen_ok]
   rw[h3]
   simp
theorem zwo{h:Hp}(hs:Sub h w){t:TypeId}{a:Addr}{K:Value->Prop}(hk:ldT P t a K h) :
 ∃v,K v/\(loadVar t a).run P w=.ok v w:=by
 unfold ldT at hk
 split at hk
 . rename_i ls hl
   obtain⟨d,hd⟩:=zm5 hl
   obtain⟨i,hi⟩:=z29 hd
   split at hk
   . exact hk.elim
   . rename_i hagg
     split at hk
     . rename_i hlen
       obtain⟨vs,h1,h2,h3⟩:=zho (P:=P) hs hk
       refine⟨_,h1,?_⟩
       have hlen':ls.length=i.size:=by have:=Nat.eq_of_beq_eq_true hlen;rw[this,Yf hi]
       simp only[loadVar,Sem.run_bind,z5o hagg,Result.andThen_ok,if_true,yj hi,loadCells,<-hlen',h3,Sem.run_pure]
       simp
     . exact hk.elim
   . rename_i hagg
     split at hk
     . rename_i l
       obtain⟨x,hx,hk⟩:=hk
       refine⟨_,hk,?_⟩
       simp[loadVar,z5o hagg,hs.cell hx]
     . exact hk.elim
 . exact hk.elim
end
end Den
end

section
namespace Den
open Go
def Fr(D:Hp)(w w':World):Prop:=
 w.heap.size<=w'.heap.size/\(∀k,k<w.heap.size->D k=none->w'.heap[k]?=w.heap[k]?)/\w'.tape=w.tape/\w'.os=w.os/\w'.output=w.output/\w.drawn<=w'.drawn
theorem Fr.refl(D:Hp)(w:World):Fr D w w:=⟨Nat.le_refl _,λ_ _ _=>rfl,rfl,rfl,rfl,Nat.le_refl _⟩
def z5w(K:Value->Hp->Prop)(D:Hp)(w:World):Ending->World->Prop:=λe w'=>
 ∃v h',e=.returned v/\K v h'/\Sub h' w'/\Fr D w w'/\∀k,h' k≠none->D k=none->w.heap.size<=k
def z2f:Slot->Bool
 | .box _ | .lit _ _ | .mp _=>true
 | _=>false
def z5e(b:Nat):Slot->Value
 | .lit _ n=>.slice (some ⟨b,0,none⟩) n n
 | .mp _=>.map (some b)
 | _=>.pointer (some ⟨b,0,none⟩)
def Zd4:Slot->List Value
 | .box cs=>cs
 | .lit cs _=>cs
 | _=>[]
def z95(w:World)(b:Nat)(el:TypeId):Slot->Prop
 | .mp m=>∃es clock,w.heap[b]?=some (.map es clock)/\es.toList.map (λx=>(x.key,x.val))=m.map λp=>(.int .i64 p.1,.bool p.2)
 | s=>w.heap[b]?=some (.cells (Zd4 s).toArray el (0,0))
def zi3:Obj->Prop
 | .cells ..=>True
 | .map ..=>True
 | _=>False
theorem z95.obj{w:World}{b:Nat}{el:TypeId}{s:Slot}(h:z95 w b el s):∃o,zi3 o/\w.heap[b]?=some o:=by
 cases s
 case mp m=>obtain⟨es,c,h1,_⟩:=h;exact⟨.map es c,trivial,h1⟩
 all_goals exact⟨.cells _ _ _,trivial,h⟩
theorem z95.mono{w w':World}{b:Nat}{el:TypeId}{s:Slot}(h:z95 w b el s)(hw:∀o,zi3 o->w.heap[b]?=some o->w'.heap[b]?=some o):z95 w' b el s:=by
 cases s
 case mp m=>obtain⟨es,c,h1,h2⟩:=h;exact⟨es,c,hw _ trivial h1,h2⟩
 all_goals exact hw _ trivial h
theorem z95.lt{w:World}{b:Nat}{el:TypeId}{s:Slot}(h:z95 w b el s):b<w.heap.size:=by
 obtain⟨o,_,h1⟩:=h.obj
 rcases Nat.lt_or_ge b w.heap.size with h' | h'
 . exact h'
 . rw[Array.getElem?_eq_none h']at h1;cases h1
def z4h(N:Nat)(w:World):List Deferred->Prop
 | []=>True
 | d :: ds=>(∃r,d={ target:=.collected r,args:=#[] }/\N<=r/\w.heap[r]?=some (.deferred (some []))/\∀d'∈ds,d'≠d)/\z4h N w ds
theorem z4h.mono{N N':Nat}{w w':World}(hN:N'<=N)(hw:∀r:Nat,w.heap[r]?=some (.deferred (some []))->w'.heap[r]?=some (.deferred (some []))):∀{ds:List Deferred},z4h N w ds->z4h N' w' ds
 | [],_=>trivial
 | _ :: _,⟨⟨r,h1,h2,h3,h4⟩,h⟩=>⟨⟨r,h1,Nat.le_trans hN h2,hw r h3,h4⟩,z4h.mono hN hw h⟩
structure Base where
 D:Hp
 w:World
 nb:Nat:=0
structure Rel(C:Cfg)(B:Base)(e:Env)(h:Hp)(a:Act)(w:World):Prop where
 sub:Sub h w
 sz:a.tmps.size=C.n
 defers:z4h B.nb w a.defers
 fr:Fr B.D B.w w
 dom:∀k,h k≠none->B.D k=none->B.w.heap.size<=k
 vals:∀t v,e t=.val v->a.tmps[t]?=some v
 hid:∀t,z2f (e t)=true->C.loc t=true/\∃b el,a.tmps[t]?=some (z5e b (e t))/\z95 w b el (e t)/\h b=none/\(B.w.heap.size<=b\/B.D b≠none)
 inj:∀t t' b,z2f (e t)=true->z2f (e t')=true->a.tmps[t]?=some (z5e b (e t))->a.tmps[t']?=some (z5e b (e t'))->t=t'
 refs:∀t off,e t=.ref off->∃cs b,e (C.rt t)=.box cs/\a.tmps[C.rt t]?=some (.pointer (some ⟨b,0,none⟩))/\a.tmps[t]?=some (.pointer (some ⟨b,off,none⟩))
 mrs:∀t,e t=.mr->t<C.n/\C.loc (C.rt t)=true/\Vw (C.rt t) C.mapL=true/\a.tmps[t]?=a.tmps[C.rt t]?
section
variable {C : Cfg} {B : Base} {e : Env} {h : Hp} {a : Act} {w : World}
theorem z5c{t d:Nat}(hn:t≠d):Nat.beq t d=false:=by
 cases hb:Nat.beq t d with
 | false=>rfl
 | true=>exact absurd (Nat.eq_of_beq_eq_true hb) hn
theorem zgo(t:Nat):Nat.beq t t=true:=Nat.beq_refl t
@[simp] theorem Env.set_same (e:Env) (d:Nat) (s:Slot):e.set d s d=s:=by simp[Env.set]
theorem Env.set_ne{e:Env}{d t:Nat}{s:Slot}(hn:t≠d):e.set d s t=e t:=by simp[Env.set,z5c hn]
theorem za2{d:Nat}{v:Value}(hd:d<a.tmps.size):(a.put (some d) v).tmps[d]?=some v:=by
 simp[Act.put,hd]
theorem Yd{d t:Nat}{v:Value}(hn:t≠d):(a.put (some d) v).tmps[t]?=a.tmps[t]?:=by
 simp[Act.put,Ne.symm hn]
theorem za3{d:Option Nat}{v:Value}:(a.put d v).tmps.size=a.tmps.size:=by cases d<;>simp[Act.put]
theorem z6b{d:Option Nat}{v:Value}:(a.put d v).defers=a.defers:=by cases d<;>simp[Act.put]
theorem z9v{b b':Nat}{s:Slot}(h:z5e b s=z5e b' s):b=b':=by
 cases s<;>simp[z5e]at h<;>exact h
theorem Rel.setVal(hR:Rel C B e h a w){d:Nat}{v:Value}(hl:C.loc d=false)(hd:d<C.n):Rel C B (e.set d (.val v)) h (a.put (some d) v) w where
 sub:=hR.sub
 sz:=by rw[za3];exact hR.sz
 defers:=by rw[z6b];exact hR.defers
 fr:=hR.fr
 dom:=hR.dom
 vals:=λt u ht=>by
  by_cases htd:t=d
  . subst htd;rw[Env.set_same]at ht;cases ht;exact za2 (by rw[hR.sz];exact hd)
  . rw[Env.set_ne htd]at ht;rw[Yd htd];exact hR.vals t u ht
 hid:=λt ht=>by
  by_cases htd:t=d
  . subst htd;rw[Env.set_same]at ht;cases ht
  . rw[Env.set_ne htd]at ht |-;rw[Yd htd];exact hR.hid t ht
 inj:=λt t' b h1 h2 h3 h4=>by
  by_cases htd:t=d
  . subst htd;rw[Env.set_same]at h1;cases h1
  . by_cases htd':t'=d
    . subst htd';rw[Env.set_same]at h2;cases h2
    . rw[Env.set_ne htd]at h1 h3;rw[Env.set_ne htd']at h2 h4;rw[Yd htd]at h3;rw[Yd htd']at h4
      exact hR.inj t t' b h1 h2 h3 h4
 refs:=λt off ht=>by
  by_cases htd:t=d
  . subst htd;rw[Env.set_same]at ht;cases ht
  . rw[Env.set_ne htd]at ht
    obtain⟨cs,b,h1,h2,h3⟩:=hR.refs t off ht
    have hr:C.rt t≠d:=λhh=>by
     have:=(hR.hid (C.rt t) (by rw[h1];rfl)).1
     rw[hh,hl]at this;cases this
    exact⟨cs,b,by rw[Env.set_ne hr];exact h1,by rw[Yd hr];exact h2,by rw[Yd htd];exact h3⟩
 mrs:=λt ht=>by
  by_cases htd:t=d
  . subst htd;rw[Env.set_same]at ht;cases ht
  . rw[Env.set_ne htd]at ht
    obtain⟨g0,g1,g2,g3⟩:=hR.mrs t ht
    have hr:C.rt t≠d:=λhh=>by rw[hh,hl]at g1;cases g1
    exact⟨g0,g1,g2,by rw[Yd htd,Yd hr];exact g3⟩
theorem Rel.setRef(hR:Rel C B e h a w){d b off:Nat}{cs:List Value}(hl:C.loc d=false)(hd:d<C.n)(hb:e (C.rt d)=.box cs)
 (hp:a.tmps[C.rt d]?=some (.pointer (some ⟨b,0,none⟩))):Rel C B (e.set d (.ref off)) h (a.put (some d) (.pointer (some ⟨b,off,none⟩))) w where
 sub:=hR.sub
 sz:=by rw[za3];exact hR.sz
 defers:=by rw[z6b];exact hR.defers
 fr:=hR.fr
 dom:=hR.dom
 vals:=λt u ht=>by
  by_cases htd:t=d
  . subst htd;rw[Env.set_same]at ht;cases ht
  . rw[Env.set_ne htd]at ht;rw[Yd htd];exact hR.vals t u ht
 hid:=λt ht=>by
  by_cases htd:t=d
  . subst htd;rw[Env.set_same]at ht;cases ht
  . rw[Env.set_ne htd]at ht |-;rw[Yd htd];exact hR.hid t ht
 inj:=λt t' b h1 h2 h3 h4=>by
  by_cases htd:t=d
  . subst htd;rw[Env.set_same]at h1;cases h1
  . by_cases htd':t'=d
    . subst htd';rw[Env.set_same]at h2;cases h2
    . rw[Env.set_ne htd]at h1 h3;rw[Env.set_ne htd']at h2 h4;rw[Yd htd]at h3;rw[Yd htd']at h4
      exact hR.inj t t' b h1 h2 h3 h4
 refs:=λt off' ht=>by
  have hrd:∀t',(∃cs,e t'=.box cs)->t'≠d:=λt' ⟨cs,h1⟩ hh=>by
   have:=(hR.hid t' (by rw[h1];rfl)).1
   rw[hh,hl]at this;cases this
  by_cases htd:t=d
  . subst htd;rw[Env.set_same]at ht;cases ht
    have hr:=hrd _ ⟨cs,hb⟩
    exact⟨cs,b,by rw[Env.set_ne hr];exact hb,by rw[Yd hr];exact hp,za2 (by rw[hR.sz];exact hd)⟩
  . rw[Env.set_ne htd]at ht
    obtain⟨cs,b,h1,h2,h3⟩:=hR.refs t off' ht
    have hr:=hrd _ ⟨cs,h1⟩
    exact⟨cs,b,by rw[Env.set_ne hr];exact h1,by rw[Yd hr];exact h2,by rw[Yd htd];exact h3⟩
 mrs:=λt ht=>by
  by_cases htd:t=d
  . subst htd;rw[Env.set_same]at ht;cases ht
  . rw[Env.set_ne htd]at ht
    obtain⟨g0,g1,g2,g3⟩:=hR.mrs t ht
    have hr:C.rt t≠d:=λhh=>by rw[hh,hl]at g1;cases g1
    exact⟨g0,g1,g2,by rw[Yd htd,Yd hr];exact g3⟩
theorem Rel.setMr(hR:Rel C B e h a w){d r:Nat}{v:Value}(hl:C.loc d=false)(hd:d<C.n)(hr:C.rt d=r)(hlr:C.loc r=true)(hm:Vw r C.mapL=true)(hp:a.tmps[r]?=some v):Rel C B (e.set d .mr) h (a.put (some d) v) w where
 sub:=hR.sub
 sz:=by rw[za3];exact hR.sz
 defers:=by rw[z6b];exact hR.defers
 fr:=hR.fr
 dom:=hR.dom
 vals:=λt u ht=>by
  by_cases htd:t=d
  . subst htd;rw[Env.set_same]at ht;cases ht
  . rw[Env.set_ne htd]at ht;rw[Yd htd];exact hR.vals t u ht
 hid:=λt ht=>by
  by_cases htd:t=d
  . subst htd;rw[Env.set_same]at ht;cases ht
  . rw[Env.set_ne htd]at ht |-;rw[Yd htd];exact hR.hid t ht
 inj:=λt t' b h1 h2 h3 h4=>by
  by_cases htd:t=d
  . subst htd;rw[Env.set_same]at h1;cases h1
  . by_cases htd':t'=d
    . subst htd';rw[Env.set_same]at h2;cases h2
    . rw[Env.set_ne htd]at h1 h3;rw[Env.set_ne htd']at h2 h4;rw[Yd htd]at h3;rw[Yd htd']at h4
      exact hR.inj t t' b h1 h2 h3 h4
 refs:=λt off ht=>by
  by_cases htd:t=d
  . subst htd;rw[Env.set_same]at ht;cases ht
  . rw[Env.set_ne htd]at ht
    obtain⟨cs,b,h1,h2,h3⟩:=hR.refs t off ht
    have hr:C.rt t≠d:=λhh=>by
     have:=(hR.hid (C.rt t) (by rw[h1];rfl)).1
     rw[hh,hl]at this;cases this
    exact⟨cs,b,by rw[Env.set_ne hr];exact h1,by rw[Yd hr];exact h2,by rw[Yd htd];exact h3⟩
 mrs:=λt ht=>by
  have hrd:r≠d:=λhh=>by rw[hh,hl]at hlr;cases hlr
  by_cases htd:t=d
  . subst htd;exact⟨hd,by rw[hr];exact hlr,by rw[hr];exact hm,by rw[hr,za2 (by rw[hR.sz];exact hd),Yd hrd];exact hp.symm⟩
  . rw[Env.set_ne htd]at ht
    obtain⟨g0,g1,g2,g3⟩:=hR.mrs t ht
    have hr:C.rt t≠d:=λhh=>by rw[hh,hl]at g1;cases g1
    exact⟨g0,g1,g2,by rw[Yd htd,Yd hr];exact g3⟩
theorem Xg{o:Obj}{b:Nat}(hb:w.heap[b]?=some o):b<w.heap.size:=by
 rcases Nat.lt_or_ge b w.heap.size with h' | h'
 . exact h'
 . rw[Array.getElem?_eq_none h']at hb;cases hb
theorem Rel.step(hR:Rel C B e h a w){h':Hp}{w':World}(hs:Sub h' w')(hf:Fr h w w')(hd:∀k,h' k≠none->h k=none->w.heap.size<=k):Rel C B e h' a w' where
 sub:=hs
 sz:=hR.sz
 defers:=hR.defers.mono (Nat.le_refl _) λr hr=>by
  have hh:h r=none:=by
   cases hh:h r with
   | none=>rfl
   | some b=>rw[hR.sub r b hh]at hr;cases hr
  rw[hf.2.1 r (Xg hr) hh];exact hr
 fr:=by
  obtain⟨a1,a2,a3,a4,a5,a6⟩:=hR.fr
  obtain⟨b1,b2,b3,b4,b5,b6⟩:=hf
  refine⟨Nat.le_trans a1 b1,λk hk hD=>?_,b3.trans a3,b4.trans a4,b5.trans a5,Nat.le_trans a6 b6⟩
  have hk':h k=none:=by
   cases hh:h k with
   | none=>rfl
   | some x=>have:=hR.dom k (by simp[hh]) hD;omega
  rw[b2 k (by omega) hk',a2 k hk hD]
 dom:=λk hk hD=>by
  cases hh:h k with
  | none=>have:=hd k hk hh;have:=hR.fr.1;omega
  | some x=>exact hR.dom k (by simp[hh]) hD
 vals:=hR.vals
 hid:=λt ht=>by
  obtain⟨h1,b,el,h2,h3,h4,h5⟩:=hR.hid t ht
  have hlt:=h3.lt
  refine⟨h1,b,el,h2,h3.mono λo _ ho=>by rw[hf.2.1 b hlt h4];exact ho,?_,h5⟩
  cases hh:h' b with
  | none=>rfl
  | some x=>have:=hd b (by simp[hh]) h4;omega
 inj:=hR.inj
 refs:=hR.refs
 mrs:=hR.mrs
theorem Env.alloc_same(rt:Nat->Nat)(e:Env)(d:Nat)(s:Slot):e.alloc rt d s d=s:=by simp[Env.alloc]
theorem Env.alloc_ne{rt:Nat->Nat}{e:Env}{d t:Nat}{s:Slot}(hn:t≠d)(hx:∀o,e t≠.ref o):e.alloc rt d s t=e t:=by
 unfold Env.alloc;rw[z5c hn]
 show(match e t with | .ref o=>bif Nat.beq (rt t) d then Slot.junk else .ref o | x=>x)=e t
 cases he:e t with
 | ref o=>exact absurd he (hx o)
 | _=>rfl
theorem Env.alloc_val{rt:Nat->Nat}{e:Env}{d t:Nat}{s x:Slot}(hn:t≠d)(hx:e.alloc rt d s t=x)(hj:x≠.junk):e t=x/\(∀o,x=.ref o->rt t≠d):=by
 unfold Env.alloc at hx;simp only[z5c hn,cond_false]at hx
 cases he:e t with
 | ref o=>
   rw[he]at hx;simp only at hx
   by_cases hr:rt t=d
   . have:Nat.beq (rt t) d=true:=by simp[hr]
     rw[this]at hx;simp at hx;exact absurd hx.symm hj
   . rw[z5c hr]at hx;simp at hx;exact⟨hx,λ_ _=>hr⟩
 | _=>rw[he]at hx;simp only at hx;exact⟨hx,λo ho=>by rw[ho]at hx;cases hx⟩
theorem z7p{o:Obj}{k:Nat}(hk:k<w.heap.size):(w.alloc o).heap[k]?=w.heap[k]?:=by
 show(w.heap.push o)[k]?=_
 rw[Array.getElem?_push,if_neg (Nat.ne_of_lt hk)]
theorem z7o{o:Obj}:(w.alloc o).heap[w.heap.size]?=some o:=by
 show(w.heap.push o)[w.heap.size]?=_
 simp
theorem Fr.alloc(D:Hp)(w:World)(o:Obj):Fr D w (w.alloc o):=
 ⟨by simp,λk hk _=>z7p hk,rfl,rfl,rfl,Nat.le_refl _⟩
theorem Sub.alloc(hs:Sub h w)(o:Obj):Sub h (w.alloc o):=λk b hk=>by rw[z7p (hs.lt hk)];exact hs k b hk
theorem Rel.allocHid(hR:Rel C B e h a w){d:Nat}{s:Slot}{el:TypeId}{o:Obj}(hl:C.loc d=true)(hd:d<C.n)(hs:z2f s=true)(hat:z95 (w.alloc o) w.heap.size el s)(hnm:∀t,e t=.mr->C.rt t≠d) :
 Rel C B (e.alloc C.rt d s) h (a.put (some d) (z5e w.heap.size s)) (w.alloc o) where
 sub:=hR.sub.alloc _
 sz:=by rw[za3];exact hR.sz
 defers:=by rw[z6b];exact hR.defers.mono (Nat.le_refl _) λr hr=>by rw[z7p (Xg hr)];exact hr
 fr:=(hR.step (hR.sub.alloc _) (Fr.alloc h w _) (λk h1 h2=>absurd h2 h1)).fr
 dom:=hR.dom
 vals:=λt u ht=>by
  by_cases htd:t=d
  . subst htd;rw[Env.alloc_same]at ht;subst ht;cases hs
  . rw[Yd htd];exact hR.vals t u (Env.alloc_val htd ht (by simp)).1
 hid:=λt ht=>by
  by_cases htd:t=d
  . subst htd
    rw[Env.alloc_same]
    refine⟨hl,w.heap.size,el,za2 (by rw[hR.sz];exact hd),hat,?_,.inl hR.fr.1⟩
    exact hR.sub.fresh (Nat.le_refl _)
  . have he:=Env.alloc_val htd (rfl:e.alloc C.rt d s t=_) (by intro hh;rw[hh]at ht;cases ht)
    rw[<-he.1]at ht |-
    obtain⟨h1,b,el',h2,h3,h4,h5⟩:=hR.hid t ht
    exact⟨h1,b,el',by rw[Yd htd];exact h2,h3.mono λo _ ho=>by rw[z7p (Xg ho)];exact ho,h4,h5⟩
 inj:=λt t' b h1 h2 h3 h4=>by
  have old:∀t b,t≠d->z2f (e.alloc C.rt d s t)=true->(a.put (some d) (z5e w.heap.size s)).tmps[t]?=some (z5e b (e.alloc C.rt d s t)) ->
   z2f (e t)=true/\a.tmps[t]?=some (z5e b (e t))/\b<w.heap.size:=λt b htd i1 i2=>by
   have he:=Env.alloc_val htd (rfl:e.alloc C.rt d s t=_) (by intro hh;rw[hh]at i1;cases i1)
   rw[<-he.1]at i1 i2;rw[Yd htd]at i2
   obtain⟨_,b',el',j2,j3,_,_⟩:=hR.hid t i1
   rw[i2]at j2
   have:=z9v (Option.some.inj j2)
   subst this
   exact⟨i1,i2,j3.lt⟩
  have new:∀b,(a.put (some d) (z5e w.heap.size s)).tmps[d]?=some (z5e b (e.alloc C.rt d s d))->b=w.heap.size:=λb i2=>by
   rw[za2 (by rw[hR.sz];exact hd),Env.alloc_same]at i2
   exact(z9v (Option.some.inj i2)).symm
  by_cases htd:t=d
  . by_cases htd':t'=d
    . rw[htd,htd']
    . subst htd;have:=new b h3;have:=(old t' b htd' h2 h4).2.2;omega
  . by_cases htd':t'=d
    . subst htd';have:=new b h4;have:=(old t b htd h1 h3).2.2;omega
    . obtain⟨i1,i2,_⟩:=old t b htd h1 h3
      obtain⟨j1,j2,_⟩:=old t' b htd' h2 h4
      exact hR.inj t t' b i1 j1 i2 j2
 refs:=λt off ht=>by
  by_cases htd:t=d
  . subst htd;rw[Env.alloc_same]at ht;subst ht;cases hs
  . obtain⟨he,hr⟩:=Env.alloc_val htd ht (by simp)
    have hr:=hr off rfl
    obtain⟨cs,b,h1,h2,h3⟩:=hR.refs t off he
    refine⟨cs,b,?_,by rw[Yd hr];exact h2,by rw[Yd htd];exact h3⟩
    rw[Env.alloc_ne hr (by intro o ho;rw[h1]at ho;cases ho)];exact h1
 mrs:=λt ht=>by
  by_cases htd:t=d
  . subst htd;rw[Env.alloc_same]at ht;subst ht;cases hs
  . obtain⟨he,_⟩:=Env.alloc_val htd ht (by simp)
    obtain⟨g0,g1,g2,g3⟩:=hR.mrs t he
    exact⟨g0,g1,g2,by rw[Yd htd,Yd (hnm t he)];exact g3⟩
theorem Rel.allocJunk(hR:Rel C B e h a w){d:Nat}{v:Value}(hl:C.loc d=true)(hnm:∀t,e t=.mr->C.rt t≠d):Rel C B (e.alloc C.rt d .junk) h (a.put (some d) v) w where
 sub:=hR.sub
 sz:=by rw[za3];exact hR.sz
 defers:=by rw[z6b];exact hR.defers
 fr:=hR.fr
 dom:=hR.dom
 vals:=λt u ht=>by
  by_cases htd:t=d
  . subst htd;rw[Env.alloc_same]at ht;cases ht
  . rw[Yd htd];exact hR.vals t u (Env.alloc_val htd ht (by simp)).1
 hid:=λt ht=>by
  by_cases htd:t=d
  . subst htd;rw[Env.alloc_same]at ht;cases ht
  . have he:=Env.alloc_val htd (rfl:e.alloc C.rt d .junk t=_) (by intro hh;rw[hh]at ht;cases ht)
    rw[<-he.1]at ht |-
    rw[Yd htd];exact hR.hid t ht
 inj:=λt t' b h1 h2 h3 h4=>by
  by_cases htd:t=d
  . subst htd;rw[Env.alloc_same]at h1;cases h1
  . by_cases htd':t'=d
    . subst htd';rw[Env.alloc_same]at h2;cases h2
    . have he:=Env.alloc_val htd (rfl:e.alloc C.rt d .junk t=_) (by intro hh;rw[hh]at h1;cases h1)
      have he':=Env.alloc_val htd' (rfl:e.alloc C.rt d .junk t'=_) (by intro hh;rw[hh]at h2;cases h2)
      rw[<-he.1]at h1 h3;rw[<-he'.1]at h2 h4;rw[Yd htd]at h3;rw[Yd htd']at h4
      exact hR.inj t t' b h1 h2 h3 h4
 refs:=λt off ht=>by
  by_cases htd:t=d
  . subst htd;rw[Env.alloc_same]at ht;cases ht
  . obtain⟨he,hr⟩:=Env.alloc_val htd ht (by simp)
    have hr:=hr off rfl
    obtain⟨cs,b,h1,h2,h3⟩:=hR.refs t off he
    refine⟨cs,b,?_,by rw[Yd hr];exact h2,by rw[Yd htd];exact h3⟩
    rw[Env.alloc_ne hr (by intro o ho;rw[h1]at ho;cases ho)];exact h1
 mrs:=λt ht=>by
  by_cases htd:t=d
  . subst htd;rw[Env.alloc_same]at ht;cases ht
  . obtain⟨he,_⟩:=Env.alloc_val htd ht (by simp)
    obtain⟨g0,g1,g2,g3⟩:=hR.mrs t he
    exact⟨g0,g1,g2,by rw[Yd htd,Yd (hnm t he)];exact g3⟩
theorem Rel.setHid(hR:Rel C B e h a w){s b:Nat}{x y:Slot}{el:TypeId}(hb:e s=x)(hx:z2f x=true)(hy:z2f y=true)(hxy:∀b,z5e b y=z5e b x)(hbx:∀cs,x=.box cs->∃cs',y=.box cs')(hyr:∀o,y≠.ref o)
 (hp:a.tmps[s]?=some (z5e b x)) {w':World}
 (hn:z95 w' b el y) (ho:∀k,k≠b->w'.heap[k]?=w.heap[k]?) (hz:w'.heap.size=w.heap.size)
 (ht:w'.tape=w.tape) (hos:w'.os=w.os) (hout:w'.output=w.output) (hdr:w.drawn<=w'.drawn):Rel C B (e.set s y) h a w':=by
 obtain⟨hl,b',el',h2,h3,h4,h5⟩:=hR.hid s (by rw[hb];exact hx)
 rw[hb]at h2 h3
 have hbb:b'=b:=by rw[hp]at h2;exact(z9v (Option.some.inj h2)).symm
 subst hbb
 have hsub:Sub h w':=λk x hk=>by
  have hne:k≠b':=λhh=>by rw[hh,h4]at hk;cases hk
  rw[ho k hne];exact hR.sub k x hk
 have hval:∀v,y≠.val v:=λv hh=>by rw[hh]at hy;cases hy
 refine⟨hsub,hR.sz,hR.defers.mono (Nat.le_refl _) (λr hr=>?_),?_,hR.dom,?_,?_,?_,?_,?_⟩
 . rw[ho r (λhh=>by
    subst hh
    obtain⟨o,ho1,ho2⟩:=h3.obj
    rw[hr]at ho2;cases ho2;exact ho1)];exact hr
 . obtain⟨a1,a2,a3,a4,a5,a6⟩:=hR.fr
   refine⟨by omega,λk hk hD=>?_,ht.trans a3,hos.trans a4,hout.trans a5,Nat.le_trans a6 hdr⟩
   have hne:k≠b':=λhh=>by
    subst hh
    rcases h5 with h5 | h5
    . omega
    . exact h5 hD
   rw[ho k hne];exact a2 k hk hD
 . intro t u htu
   by_cases hts:t=s
   . subst hts;rw[Env.set_same]at htu;exact absurd htu (hval u)
   . rw[Env.set_ne hts]at htu;exact hR.vals t u htu
 . intro t hh
   by_cases hts:t=s
   . subst hts;rw[Env.set_same];exact⟨hl,b',el,by rw[hxy];exact hp,hn,h4,h5⟩
   . rw[Env.set_ne hts]at hh |-
     obtain⟨i1,c,el2,i2,i3,i4,i5⟩:=hR.hid t hh
     refine⟨i1,c,el2,i2,i3.mono λo _ hoo=>?_,i4,i5⟩
     rw[ho c ?_];exact hoo
     intro hcb;subst hcb
     exact hts (hR.inj t s c hh (by rw[hb];exact hx) i2 (by rw[hb];exact hp))
 . intro t t' c i1 i2 i3 i4
   have back:∀t c,z2f (e.set s y t)=true->a.tmps[t]?=some (z5e c (e.set s y t))->z2f (e t)=true/\a.tmps[t]?=some (z5e c (e t)):=λt c j1 j2=>by
    by_cases hts:t=s
    . subst hts;rw[Env.set_same]at j1 j2;rw[hb];exact⟨hx,by rw[<-hxy];exact j2⟩
    . rw[Env.set_ne hts]at j1 j2;exact⟨j1,j2⟩
   obtain⟨k1,k2⟩:=back t c i1 i3
   obtain⟨l1,l2⟩:=back t' c i2 i4
   exact hR.inj t t' c k1 l1 k2 l2
 . intro t off hto
   have hts:t≠s:=λhh=>by subst hh;rw[Env.set_same]at hto;exact absurd hto (hyr off)
   rw[Env.set_ne hts]at hto
   obtain⟨cs2,c,i1,i2,i3⟩:=hR.refs t off hto
   by_cases hrs:C.rt t=s
   . obtain⟨cs',hcs⟩:=hbx cs2 (by rw[<-hb,<-hrs];exact i1)
     exact⟨cs',c,by rw[hrs,Env.set_same];exact hcs,i2,i3⟩
   . exact⟨cs2,c,by rw[Env.set_ne hrs];exact i1,i2,i3⟩
 . intro t hto
   have hts:t≠s:=λhh=>by subst hh;rw[Env.set_same]at hto;rw[hto]at hy;cases hy
   rw[Env.set_ne hts]at hto
   exact hR.mrs t hto
theorem Rel.setBox(hR:Rel C B e h a w){s b:Nat}{cs cs':List Value}{el:TypeId}(hb:e s=.box cs)(hp:a.tmps[s]?=some (.pointer (some ⟨b,0,none⟩))){w':World}
 (hn:w'.heap[b]?=some (.cells cs'.toArray el (0,0))) (ho:∀k,k≠b->w'.heap[k]?=w.heap[k]?) (hz:w'.heap.size=w.heap.size)
 (ht:w'.tape=w.tape) (hos:w'.os=w.os) (hout:w'.output=w.output) (hdr:w.drawn<=w'.drawn):Rel C B (e.set s (.box cs')) h a w':=
 hR.setHid (y:=.box cs') (el:=el) hb rfl rfl (λ_=>rfl) (λ_ _=>⟨_,rfl⟩) (λ_ hh=>by cases hh) hp hn ho hz ht hos hout hdr
theorem Rel.setSame(hR:Rel C B e h a w){d:Nat}{s:Slot}(hs:e d=s):e.set d s=e:=by
 funext t;by_cases ht:t=d
 . subst ht;rw[Env.set_same,hs]
 . rw[Env.set_ne ht]
end
end Den
end

section
namespace Den
open Go
def Vf(w:World)(b:Nat)(o:Obj):World:={ w with heap:=w.heap.setIfInBounds b o }
section
variable {P : Program} {w : World}
theorem z4s{b:Nat}{o:Obj}:(Vf w b o).heap.size=w.heap.size:=by simp[Vf]
theorem z2k{b:Nat}{o:Obj}(h:b<w.heap.size):(Vf w b o).heap[b]?=some o:=by simp[Vf,h]
theorem z3v{b k:Nat}{o:Obj}(h:k≠b):(Vf w b o).heap[k]?=w.heap[k]?:=by simp[Vf,Ne.symm h]
theorem zjh{b:Nat}{o o':Obj}:Vf (Vf w b o) b o'=Vf w b o':=by
 simp[Vf]
theorem zp6{b:Nat}{o:Obj}(h:w.heap[b]?=some o):Vf w b o=w:=by
 have hlt:=Xg h
 unfold Vf
 have:w.heap.setIfInBounds b o=w.heap:=by
  apply Array.ext_getElem?
  intro i
  rw[Array.getElem?_setIfInBounds]
  by_cases hi:b=i
  . subst hi;simp only[if_true,hlt];exact h.symm
  . simp[hi]
 rw[this]
theorem zaa{b off:Nat}{c:Array Value}{el:TypeId}{fz:Nat×Nat}{v:Value}(h:w.heap[b]?=some (.cells c el fz)) :
 w.setCell ⟨b,off,none⟩ v=Vf w b (.cells (c.setIfInBounds off v) el fz):=by
 have hlt:=Xg h
 unfold World.setCell Vf
 have:∀f:Obj->Obj,w.heap.modify b f=w.heap.setIfInBounds b (f (.cells c el fz)):=by
  intro f
  apply Array.ext_getElem?
  intro i
  rw[Array.getElem?_setIfInBounds,Array.getElem?_modify]
  by_cases hi:b=i
  . subst hi;simp only[if_true,hlt,h,Option.map_some]
  . simp[hi]
 simp[this]
theorem z1b{b off i:Nat}:(⟨b,off,none⟩:Addr).add i=⟨b,off+i,none⟩:=by
 unfold Addr.add;by_cases h:i=0<;>simp[h]
theorem Z44{v:Value}(h:Value.leaf v=true):v.oneCell'=true:=by cases v<;>simp_all [Value.leaf,Value.oneCell']
theorem zp9{c:List Value}{off:Nat}{v:Value}{rest:List Value}(h:off<c.length) :
 Zb (c.set off v) (off+1) rest=Zb c off (v :: rest):=by
 unfold Zb
 have h1:(c.set off v).take (off+1)=c.take off++[v]:=by
  rw[List.take_succ_eq_append_getElem (by simpa using h)]
  have:(c.set off v).take off=c.take off:=by rw[List.take_set_of_le (Nat.le_refl _)]
  simp[this]
 have h2:(c.set off v).drop (off+1+rest.length)=c.drop (off+(v :: rest).length):=by
  rw[List.drop_set_of_lt (by omega)];simp;congr 1;omega
 rw[h1,h2];simp
theorem zt4{c:List Value}{off:Nat}:Zb c off []=c:=by simp[Zb]
theorem z3b:∀{vs:List Value} {b off i:Nat} {c:Array Value} {el:TypeId} {w:World},
 w.heap[b]?=some (.cells c el (0,0))->off+i+vs.length<=c.size->vs.all Value.leaf=true ->
 (storeCells ⟨b,off,none⟩ vs i).run P w=.ok () (Vf w b (.cells (Zb c.toList (off+i) vs).toArray el (0,0)))
 | [],b,off,i,c,el,w,h,_,_=>by simp[storeCells,zt4,zp6 h]
 | v :: rest,b,off,i,c,el,w,h,hlen,hl=>by
   simp only[List.all_cons,Bool.and_eq_true]at hl
   simp only[List.length_cons]at hlen
   have hc:w.cell? ⟨b,off+i,none⟩=some c[off+i]:=by
    unfold World.cell?;simp only[h];simp[show off+i<c.size by omega]
   have hf:w.frozen? ⟨b,off+i,none⟩=false:=by
    unfold World.frozen?;simp only[h];simp
   simp only[storeCells,Sem.run_bind,z1b,run_store P w _ v .plain (Z44 hl.1),hc,hf,zaa h]
   simp only[Bool.false_eq_true,if_false,Result.andThen_ok]
   have hn:=z2k (w:=w) (o:=.cells (c.setIfInBounds (off+i) v) el (0,0)) (Xg h)
   rw[z3b hn (by simp;omega) hl.2,zjh]
   congr 4
   have:=zp9 (c:=c.toList) (v:=v) (rest:=rest) (show off+i<c.toList.length by simp;omega)
   rw[<-this]
   simp[Nat.add_assoc]
theorem z61:∀{n:Nat} {b off i:Nat} {c:List Value} {el:TypeId} {fz:Nat×Nat} {acc:Array Value},
 w.heap[b]?=some (.cells c.toArray el fz)->off+i+n<=c.length ->
 (loadCellsFrom ⟨b,off,none⟩ i n acc).run P w=.ok (acc++((c.drop (off+i)).take n).toArray) w
 | 0,b,off,i,c,el,fz,acc,h,hl=>by simp[loadCellsFrom]
 | n+1,b,off,i,c,el,fz,acc,h,hl=>by
   have hc:w.cell? ⟨b,off+i,none⟩=some c[off+i]:=by
    unfold World.cell?;simp only[h];simp[show off+i<c.length by omega]
   simp only[loadCellsFrom,Sem.run_bind,z1b,run_load,hc,Result.andThen_ok]
   rw[z61 h (by omega)]
   congr 1
   have:(c.drop (off+i)).take (n+1)=c[off+i] :: (c.drop (off+(i+1))).take n:=by
    rw[List.drop_eq_getElem_cons (show off+i<c.length by omega),List.take_succ_cons];rfl
   rw[this];simp
theorem zc8{t:TypeId}{cs:List Value}{off b:Nat}{el:TypeId}{fz:Nat×Nat}{K:Value->Prop}
 (hb:w.heap[b]?=some (.cells cs.toArray el fz)) (hk:z7x P t cs off K):∃v,K v/\(loadVar t ⟨b,off,none⟩).run P w=.ok v w:=by
 unfold z7x at hk
 split at hk
 . exact hk.elim
 . rename_i hagg
   split at hk
   . rename_i hlen
     have hlen:=Nat.le_of_ble_eq_true hlen
     refine⟨_,hk,?_⟩
     have hi:∃i,P.info? t=some i:=by
      cases hd:P.underlying t with
      | none=>simp[isAgg?,hd]at hagg
      | some d=>exact z29 hd
     obtain⟨i,hi⟩:=hi
     rw[Yf hi]at hlen |-
     simp only[loadVar,Sem.run_bind,z5o hagg,Result.andThen_ok,if_true,yj hi,loadCells]
     rw[z61 hb (by omega)]
     simp
   . exact hk.elim
 . rename_i hagg
   split at hk
   . rename_i v hv
     refine⟨_,hk,?_⟩
     have hc:w.cell? ⟨b,off,none⟩=some v:=by
      unfold World.cell?;simp only[hb];simpa using hv
     simp[loadVar,z5o hagg,hc]
   . exact hk.elim
theorem zhz{t:TypeId}{cs:List Value}{off:Nat}{K:Value->Prop}(hk:z7x P t cs off K) :
 ∃v,K v/\(part t cs.toArray off).run P w=.ok v w:=by
 unfold z7x at hk
 split at hk
 . exact hk.elim
 . rename_i hagg
   split at hk
   . rename_i hlen
     refine⟨_,hk,?_⟩
     have hi:∃i,P.info? t=some i:=by
      cases hd:P.underlying t with
      | none=>simp[isAgg?,hd]at hagg
      | some d=>exact z29 hd
     obtain⟨i,hi⟩:=hi
     rw[Yf hi]
     simp only[part,Sem.run_bind,z5o hagg,Result.andThen_ok,if_true,yj hi,Sem.run_pure]
     congr 2
     simp
   . exact hk.elim
 . rename_i hagg
   split at hk
   . rename_i v hv
     exact⟨_,hk,by simp[part,z5o hagg,hv]⟩
   . exact hk.elim
theorem z5v{t:TypeId}{K:List Value->Prop}(hk:z9b P t K) :
 ∃i z,P.info? t=some i/\i.zero=some z/\K z.cells.toList/\∀w,(zeroValue t).run P w=.ok z w:=by
 unfold z9b at hk
 split at hk
 . rename_i i hi
   split at hk
   . rename_i z hz
     exact⟨i,z,hi,hz,hk,λw=>by simp[zeroValue,typeInfo,hi,hz]⟩
   . exact hk.elim
 . exact hk.elim
theorem z0a{t:TypeId}{K:TypeId->Prop}(hk:elemOf? P t K):∃el i,P.underlying t=some (.slice el)/\P.info? el=some i/\K el:=by
 unfold elemOf? at hk
 split at hk
 . rename_i el he
   split at hk
   . rename_i hi
     obtain⟨i,hi⟩:=Option.isSome_iff_exists.1 hi
     exact⟨el,i,he,hi,hk⟩
   . exact hk.elim
 . exact hk.elim
theorem zg8{t:TypeId}{p:Prop}(hk:okT P t p):(∃i,P.info? t=some i)/\p:=by
 unfold okT at hk
 split at hk
 . rename_i hi;exact⟨Option.isSome_iff_exists.1 hi,hk⟩
 . exact hk.elim
theorem Vx{el:TypeId}{cs:Array Value}:(newRow el cs).run P w=.ok ⟨w.heap.size,0,none⟩ (w.alloc (.cells cs el (0,0))):=by
 simp[newRow]
theorem z6w{h:Hp}(hs:Sub h w){a:Addr}:∀{n:Nat} {l:List Value},Zw h a n=some l->l.length=n/\∀i,i<n->w.cell? (a.add i)=l[i]?
 | 0,l,e=>by simp only[Zw,Option.some.injEq]at e;subst e;simp
 | n+1,l,e=>by
   unfold Zw at e
   cases h1:Zw h a n with
   | none=>rw[h1]at e;cases e
   | some l1=>
     rw[h1]at e;simp only at e
     cases h2:h.cell (a.add n)with
     | none=>rw[h2]at e;cases e
     | some v=>
       rw[h2]at e;simp only[Option.some.injEq]at e;subst e
       obtain⟨i1,i2⟩:=z6w hs h1
       refine⟨by simp[i1],λi hi=>?_⟩
       by_cases hin:i=n
       . subst hin;rw[hs.cell h2];simp[<-i1]
       . rw[i2 i (by omega),List.getElem?_append_left (by omega)]
theorem z9x{a:Addr}{l:List Value}:∀{n i:Nat} {acc:Array Value},i+n=l.length->(∀j,j<l.length->w.cell? (a.add j)=l[j]?) ->
 (loadCellsFrom a i n acc).run P w=.ok (acc++(l.drop i).toArray) w
 | 0,i,acc,hl,_=>by
   have:l.drop i=[]:=List.drop_eq_nil_of_le (by omega)
   simp[loadCellsFrom,this]
 | n+1,i,acc,hl,hc=>by
   have hi:i<l.length:=by omega
   have h1:w.cell? (a.add i)=some l[i]:=by rw[hc i hi];simp
   simp only[loadCellsFrom,Sem.run_bind,run_load,h1,Result.andThen_ok]
   rw[z9x (by omega) hc,List.drop_eq_getElem_cons hi]
   simp
theorem W4{h:Hp}(hs:Sub h w){a:Addr}{n:Nat}{l:List Value}(e:Zw h a n=some l):(loadCells a n).run P w=.ok l.toArray w:=by
 obtain⟨h1,h2⟩:=z6w hs e
 unfold loadCells
 rw[z9x (l:=l) (by omega) (λj hj=>h2 j (by omega))]
 simp
theorem zxg(n:Nat)(z:List Value):ye (n+1) z=z++ye n z:=by simp[ye,List.replicate_succ]
theorem za8(n:Nat)(z:List Value):(ye n z).length=n*z.length:=by simp[ye,List.length_flatten,List.sum_replicate_nat]
theorem zp2{zero:Array Value}:∀{n i:Nat},i<n*zero.size->(ye n zero.toList)[i]?=some (zero[i % zero.size]!)
 | 0,i,h=>by omega
 | n+1,i,h=>by
   rw[zxg]
   by_cases hi:i<zero.size
   . rw[List.getElem?_append_left (by simpa using hi)]
     simp[Nat.mod_eq_of_lt hi,hi]
   . have h':i-zero.size<n*zero.size:=by rw[Nat.succ_mul]at h;omega
     rw[List.getElem?_append_right (by simpa using hi),Array.length_toList,zp2 h',Nat.mod_eq_sub_mod (show i>=zero.size by omega)]
theorem z3u{zero:Array Value}{n:Nat}:(Array.range (n*zero.size)).map (λi=>zero[i % zero.size]!)=(ye n zero.toList).toArray:=by
 apply Array.ext_getElem?
 intro i
 by_cases hi:i<n*zero.size
 . simp[zp2 hi,hi]
 . have hl:=za8 n zero.toList
   simp only[Array.length_toList]at hl
   rw[Array.getElem?_eq_none (by simp;omega),Array.getElem?_eq_none (by simp;omega)]
theorem zk7(m:Nat)(hm:257<=m):∀(r c:Nat),c<=2*m->Builtin.growBy m r c<=2*m
 | 0,c,h=>h
 | r+1,c,h=>by
   unfold Builtin.growBy
   split
   . exact h
   . exact zk7 m hm r _ (by omega)
theorem zc5{m o:Nat}(h:o<m):Builtin.nextslicecap m o<=2*m:=by
 unfold Builtin.nextslicecap
 split
 . omega
 . split
   . omega
   . exact zk7 m (by omega) 4 o (by omega)
end
end Den
end

section
namespace Den
open Go
variable {ro : Option Nat} {nn : Nat}
abbrev Ye(r:Option Nat):Fence:={ Fence.wide with round:=r }
theorem zj3{P:Program}{f:FuncId}{args:Array Value}{w:World}{R:Ending->World->Prop}(h:Calls P f args w R):CallsIn (Ye ro) nn P f args w R:=
 callsIn_wide (n:=nn).2 h
theorem Yn{P:Program}{c:Code}{Q Q':Exit->Act->World->Prop}{a:Act}{w:World}(hq:∀e a w,Q e a w->Q' e a w)
 (h:c.wpIn (Ye ro) nn P Q a w):c.wpIn (Ye ro) nn P Q' a w:=wpIn_mono h hq
def Up.dst:Up->Option Nat
 | .none=>Option.none
 | .set d _=>some d
 | .alloc d _=>some d
def zgh(T:(Value->Hp->Prop)->Hp->Prop):Prop:=
 (∃(α:Type) (G:(α->Hp->Prop)->Hp->Prop) (up:α->Value),∀K h,T K h↔zc G (λr=>K (up r)) h)\/∀K h,¬T K h
def Z7u(P:Program)(g:FuncId)(F:zl):Prop:=
 (∃fn,P.funcs[g]?=some fn/\fn.body.isNone=false/\(fn.name == "runtime.NumGoroutine")=false) /\
 (∀args K h w,Sub h w->F args K h->Calls P g args.toArray w (z5w K h w))
def z96(C:Cfg):List (Nat×zl)->Prop
 | []=>True
 | (g,F) :: r=>Z7u C.P g F/\(Vw g C.mutL=false->∀args,zgh (F args))/\z96 C r
theorem z96.get{C:Cfg}:∀{l:List (Nat×zl)},z96 C l->∀g,(Z7u C.P g (zbj g l)/\(Vw g C.mutL=false->∀args,zgh (zbj g l args)))\/(∀args K h,¬zbj g l args K h)
 | [],_,g=>.inr λ_ _ _ hh=>hh
 | (g',F) :: r,ht,g=>by
   unfold zbj
   by_cases hg:g=g'
   . subst hg;rw[zgo];exact .inl ⟨ht.1,ht.2.1⟩
   . rw[z5c hg];exact z96.get ht.2.2 g
section
variable {C : Cfg} {B : Base} {e : Env} {h : Hp} {a : Act} {w : World} {K : Up → Hp → Prop} {o : Oper}
def Qe(C:Cfg)(B:Base)(o:Oper)(e:Env)(K:Up->Hp->Prop):Act->World->Prop:=λa' w'=>
 ∃u h',K u h'/\Rel C B (e.upd C.rt u) h' a' w'/\∀d,u.dst=some d->d∈Yh C o
theorem zim{P:Program}{ro:Option Nat}{o:Oper}{a:Act}{w w':World}{x:Next}(hr:(execOp a.eval o).run P w=.ok x w')(hx:∀d,x≠.defer d) :
 Oper.semAt ro a.eval o=execOp a.eval o:=
 Oper.semAt_eq _ _ _ λc hc=>by
  unfold execOp at hr
  rw[hc]at hr
  simp only[Sem.run_bind,Sem.run_pure]at hr
  cases hz:(resolve a.eval c o.type).run P w with
  | ok d w1=>rw[hz]at hr;simp only[Result.andThen_ok,Result.ok.injEq]at hr;exact hx d hr.1.symm
  | _=>rw[hz]at hr;simp[Result.andThen]at hr
theorem yc{P:Program}{o:Oper}{a:Act}{w w':World}{v:Value}{next:Act->World->Prop}{Q:Exit->Act->World->Prop}
 (hr:(execOp a.eval o).run P w=.ok (.value v) w') (hn:next (a.put o.dst v) w'):o.wpIn (Ye ro) nn P a w next Q:=by
 unfold Oper.wpIn;rw[zim hr (by intro d hd;cases hd),hr];exact⟨λ_ _=>trivial,hn⟩
theorem zgf{P:Program}{o:Oper}{a:Act}{w w':World}{next:Act->World->Prop}{Q:Exit->Act->World->Prop}
 (hr:(execOp a.eval o).run P w=.ok .skip w') (hn:next (a.put o.dst undef) w'):o.wpIn (Ye ro) nn P a w next Q:=by
 unfold Oper.wpIn;rw[zim hr (by intro d hd;cases hd),hr];exact⟨λ_ _=>trivial,hn⟩
theorem Z9n{P:Program}{o:Oper}{a:Act}{w w':World}{f:FuncId}{args:Array Value}{next:Act->World->Prop}{Q:Exit->Act->World->Prop}
 {R:Ending->World->Prop} (hr:(execOp a.eval o).run P w=.ok (.enter f args) w') (hc:Calls P f args w' R) (hn:∀e w'',R e w''->∃v,e=.returned v/\next (a.put o.dst v) w'') :
 o.wpIn (Ye ro) nn P a w next Q:=by
 unfold Oper.wpIn;rw[zim hr (by intro d hd;cases hd),hr,Oper.uponIn_enter]
 refine⟨λ_ _=>trivial,(λh=>by cases h),(zj3 hc).mono λe w'' hR=>?_⟩
 obtain⟨v,rfl,hn⟩:=hn e w'' hR;exact hn
theorem qj{t:Nat}{v:Value}(ht:a.tmps[t]?=some v):a.eval (.tmp t)=v:=by
 simp only[Act.eval];rw[Array.getD_eq_getD_getElem?,ht];rfl
theorem Z6(hR:Rel C B e h a w){x:Operand}{K:Value->Prop}(hk:opv e x K):K (a.eval x):=by
 unfold opv at hk
 split at hk
 . exact hk
 . exact hk
 . exact hk
 . rename_i t
   split at hk
   . rename_i v hv;rw[qj (hR.vals t v hv)];exact hk
   . exact hk.elim
theorem z7w(hR:Rel C B e h a w):∀{l:List Operand} {K:List Value->Prop},z7v e l K->K (l.map a.eval)
 | [],_,hk=>hk
 | x :: r,K,hk=>by
   have:=Z6 hR hk
   exact z7w (l:=r) (K:=λvs=>K (a.eval x :: vs)) hR this
theorem zw(hR:Rel C B e h a w){v:Value}(hk:Qb C o.dst v h K):Qe C B o e K (a.put o.dst v) w:=by
 unfold Qb at hk
 split at hk
 . rename_i hd
   exact⟨.none,h,hk,by rw[hd];exact hR,λd hd'=>by cases hd'⟩
 . rename_i d hd
   split at hk
   . rename_i hl hn
     refine⟨.set d (.val v),h,hk,?_,λd' hd'=>?_⟩
     . rw[hd];exact hR.setVal hl (by have:=hn;unfold Nat.blt at this;have:=Nat.le_of_ble_eq_true this;omega)
     . simp only[Up.dst,Option.some.injEq]at hd';subst hd';simp[Yh,hd]
   . exact hk.elim
theorem z75(hR:Rel C B e h a w)(hk:zbn C o.dst h K):Qe C B o e K (a.put o.dst undef) w:=by
 unfold zbn at hk
 split at hk
 . rename_i hd
   exact⟨.none,h,hk,by rw[hd];exact hR,λd hd'=>by cases hd'⟩
 . rename_i d hd
   split at hk
   . rename_i hl hml
     refine⟨.alloc d .junk,h,hk,?_,λd' hd'=>?_⟩
     . rw[hd];exact hR.allocJunk hl λt ht hh=>by have:=(hR.mrs t ht).2.2.1;rw[hh,hml]at this;cases this
     . simp only[Up.dst,Option.some.injEq]at hd';subst hd';simp[Yh,hd]
   . exact hk.elim
   . exact zw hR hk
theorem z8v(hR:Rel C B e h a w){root off b:Nat}{cs:List Value}(hb:e root=.box cs)(hp:a.tmps[root]?=some (.pointer (some ⟨b,0,none⟩)))
 (hk:zp3 C o.dst root off h K):Qe C B o e K (a.put o.dst (.pointer (some ⟨b,off,none⟩))) w:=by
 unfold zp3 at hk
 split at hk
 . exact hk.elim
 . rename_i d hd
   split at hk
   . rename_i hl hr hn
     have hr:=Nat.eq_of_beq_eq_true hr
     refine⟨.set d (.ref off),h,hk,?_,λd' hd'=>?_⟩
     . rw[hd];exact hR.setRef hl (by have:=hn;unfold Nat.blt at this;have:=Nat.le_of_ble_eq_true this;omega) (cs:=cs) (by rw[hr];exact hb) (by rw[hr];exact hp)
     . simp only[Up.dst,Option.some.injEq]at hd';subst hd';simp[Yh,hd]
   . exact hk.elim
theorem Rel.alloc(hR:Rel C B e h a w)(cs:List Value)(el:TypeId)(fz:Nat×Nat:=(0,0)) :
 Rel C B e (h.ins w.heap.size ⟨cs,el,fz⟩) a (w.alloc (.cells cs.toArray el fz)):=by
 refine hR.step (λk b hk=>?_) (Fr.alloc h w _) (λk hk hh=>?_)
 . by_cases hkb:k=w.heap.size
   . subst hkb;rw[Hp.ins_same]at hk;cases hk;exact z7o
   . rw[Hp.ins_ne hkb]at hk;exact hR.sub.alloc _ k b hk
 . by_cases hkb:k=w.heap.size
   . omega
   . rw[Hp.ins_ne hkb]at hk;exact absurd hh hk
theorem z8u(hR:Rel C B e h a w){cs:List Value}{mk:Addr->Value}{hid:Slot}{el:TypeId}{ty:Option Nat}(hty:∀t,ty=some t->el=t)(hk:z36 C o.dst cs mk hid ty h K)
 (hm:mk ⟨w.heap.size,0,none⟩=z5e w.heap.size hid) (hc:Zd4 hid=cs) (hh:z2f hid=true) (hmp:∀m,hid≠.mp m) :
 Qe C B o e K (a.put o.dst (mk ⟨w.heap.size,0,none⟩)) (w.alloc (.cells cs.toArray el (0,0))):=by
 unfold z36 at hk
 split at hk
 . exact hk.elim
 . rename_i d hd
   split at hk
   . rename_i hl hn hml
     refine⟨.alloc d hid,h,hk,?_,λd' hd'=>?_⟩
     . rw[hd,hm,<-hc]
       refine hR.allocHid (el:=el) hl (by have:=hn;unfold Nat.blt at this;have:=Nat.le_of_ble_eq_true this;omega) hh ?_ λt ht hq=>by have:=(hR.mrs t ht).2.2.1;rw[hq,hml]at this;cases this
       cases hid
       case mp m=>exact absurd rfl (hmp m)
       all_goals exact z7o
     . simp only[Up.dst,Option.some.injEq]at hd';subst hd';simp[Yh,hd]
   . rename_i hl hn
     have:K (.set d (.val (mk ⟨w.heap.size,0,none⟩))) (h.ins w.heap.size ⟨cs,el,(0,0)⟩):=by
      split at hk
      . exact hk w.heap.size el (hR.sub.fresh (Nat.le_refl _))
      . rename_i t
        rw[hty t rfl]
        exact hk w.heap.size (hR.sub.fresh (Nat.le_refl _))
     refine⟨_,_,this,?_,λd' hd'=>?_⟩
     . rw[hd];exact(hR.alloc cs el).setVal hl (by have:=hn;unfold Nat.blt at this;have:=Nat.le_of_ble_eq_true this;omega)
     . simp only[Up.dst,Option.some.injEq]at hd';subst hd';simp[Yh,hd]
   . exact hk.elim
theorem zb7(hs:Sub h w){ad:Addr}{vs:List Value}{K:Hp->Prop}(hk:stP ad vs K h) :
 ∃h' w',K h'/\(storeCells ad vs).run C.P w=.ok () w'/\Sub h' w'/\Fr h w w'/\(∀k,h' k≠none->h k=none->w.heap.size<=k):=by
 obtain⟨b,hb,hsp,hfz,hlen,hl,hK⟩:=hk
 obtain⟨bl,off,sp⟩:=ad
 simp only at hb hsp hlen hK
 subst hsp
 have hw:=hs _ _ hb
 rw[hfz]at hw
 have hlt:=Xg hw
 refine⟨_,_,hK,z3b hw (by simpa using hlen) hl,?_,?_,?_⟩
 . intro k c hkc
   by_cases hkb:k=bl
   . subst hkb;rw[Hp.ins_same]at hkc;cases hkc
     rw[z2k hlt];simp[hfz]
   . rw[Hp.ins_ne hkb]at hkc;rw[z3v hkb];exact hs k c hkc
 . refine⟨by rw[z4s];exact Nat.le_refl _,λk hk1 hk2=>?_,rfl,rfl,rfl,Nat.le_refl _⟩
   have hkb:k≠bl:=λhh=>by rw[hh,hb]at hk2;cases hk2
   exact z3v hkb
 . intro k hk1 hk2
   have hkb:k≠bl:=λhh=>by rw[hh,hb]at hk2;cases hk2
   rw[Hp.ins_ne hkb]at hk1;exact absurd hk2 hk1
theorem zct(D:Hp)(w:World):Fr D w { w with drawn:=w.drawn+1 }:=⟨Nat.le_refl _,λ_ _ _=>rfl,rfl,rfl,rfl,Nat.le_succ _⟩
theorem Rel.drew(hR:Rel C B e h a w):Rel C B e h a { w with drawn:=w.drawn+1 }:=hR.step hR.sub (zct h w) (λk h1 h2=>absurd h2 h1)
end
end Den
end

section
namespace Den
open Go
variable {ro : Option Nat} {nn : Nat}
section
variable {C : Cfg} {B : Base} {e : Env} {h : Hp} {a : Act} {w : World} {K : Up → Hp → Prop} {o : Oper} {Q : Exit → Act → World → Prop}
theorem z6a{p:Option Addr}{K:Addr->Prop}(hk:yu p K):∃ad,p=some ad/\K ad:=by
 cases p with
 | none=>exact hk.elim
 | some ad=>exact⟨ad,rfl,hk⟩
theorem zdj(hR:Rel C B e h a w){s:Nat}{cs:List Value}(hb:e s=.box cs) :
 ∃b el,a.tmps[s]?=some (.pointer (some ⟨b,0,none⟩))/\w.heap[b]?=some (.cells cs.toArray el (0,0)):=by
 obtain⟨_,b,el,h1,h2,_,_⟩:=hR.hid s (by rw[hb];rfl)
 rw[hb]at h1 h2
 exact⟨b,el,h1,h2⟩
theorem zge(hR:Rel C B e h a w){s off:Nat}(hb:e s=.ref off):∃cs b el,e (C.rt s)=.box cs /\
 a.tmps[C.rt s]?=some (.pointer (some ⟨b,0,none⟩))/\a.tmps[s]?=some (.pointer (some ⟨b,off,none⟩))/\w.heap[b]?=some (.cells cs.toArray el (0,0)):=by
 obtain⟨cs,b,h1,h2,h3⟩:=hR.refs s off hb
 obtain⟨b',el,h4,h5⟩:=zdj hR h1
 rw[h2]at h4
 simp only[Option.some.injEq,Value.pointer.injEq,Addr.mk.injEq]at h4
 obtain rfl:=h4.1
 exact⟨cs,b,el,h1,h2,h3,h5⟩
theorem zvs(hR:Rel C B e h a w){t:TypeId}{x:Operand}(ho:o.op=.load t x)(hk:Zg C o e h K):o.wpIn (Ye ro) nn C.P a w (Qe C B o e K) Q:=by
 unfold Zg at hk;rw[ho]at hk;simp only at hk
 split at hk
 . rename_i s
   split at hk
   . rename_i cs hb
     obtain⟨b,el,h1,h2⟩:=zdj hR hb
     obtain⟨v,hv,hrun⟩:=zc8 (P:=C.P) h2 hk
     refine yc (w':=w) (v:=v) ?_ (zw hR hv)
     simp only[execOp,ho,qj h1,Instr.loadAt,Instr.sureAddr,Sem.run_bind,Sem.run_pure,Result.andThen_ok,hrun]
   . rename_i off hb
     obtain⟨cs,b,el,h1,h2,h3,h4⟩:=zge hR hb
     rw[h1]at hk;simp only at hk
     obtain⟨v,hv,hrun⟩:=zc8 (P:=C.P) h4 hk
     refine yc (w':=w) (v:=v) ?_ (zw hR hv)
     simp only[execOp,ho,qj h3,Instr.loadAt,Instr.sureAddr,Sem.run_bind,Sem.run_pure,Result.andThen_ok,hrun]
   . rename_i p hb
     split at hk
     . exact hk.elim
     obtain⟨ad,rfl,hk2⟩:=z6a hk
     obtain⟨v,hv,hrun⟩:=zwo (P:=C.P) hR.sub hk2
     replace hv:=zt0 hv
     refine yc (w':=w) (v:=v) ?_ (zw hR hv)
     simp only[execOp,ho,qj (hR.vals s _ hb),Instr.loadAt,Instr.sureAddr,Sem.run_bind,Sem.run_pure,Result.andThen_ok,hrun]
   . exact hk.elim
 . exact hk.elim
theorem zbu{v:Value}{t:TypeId}(h1:Nat.beq v.cells.toList.length (C.P.cellsOf t)=true)(h2:v.cells.toList.all Value.leaf=true)(hi:∃i,C.P.info? t=some i) :
 ∃n,(Go.sizeOf t).run C.P w=.ok n w/\v.cells.size=n:=by
 obtain⟨i,hi⟩:=hi
 refine⟨i.size,yj hi,?_⟩
 have:=Nat.eq_of_beq_eq_true h1
 rw[Yf hi]at this
 simpa using this
theorem zjd{t:TypeId}{n:Nat}(h:C.P.cellsOf t=n)(hn:n≠0):∃i,C.P.info? t=some i:=by
 cases hi:C.P.info? t with
 | none=>simp[Program.cellsOf,hi]at h;omega
 | some i=>exact⟨i,rfl⟩
theorem zqx(hR:Rel C B e h a w){t:TypeId}{x y:Operand}(ho:o.op=.store t x y)(hk:Zg C o e h K):o.wpIn (Ye ro) nn C.P a w (Qe C B o e K) Q:=by
 unfold Zg at hk;rw[ho]at hk;simp only at hk
 replace hk:=Z6 hR hk
 split at hk
 . rename_i hsz hl
   split at hk
   . rename_i s
     split at hk
     . rename_i cs hb
       split at hk
       . rename_i hi hdst hle
         have hle:=Nat.le_of_ble_eq_true hle
         obtain⟨n,hn,hsn⟩:=zbu (w:=w) hsz hl (Option.isSome_iff_exists.1 hi)
         obtain⟨b,el,h1,h2⟩:=zdj hR hb
         have hrun:=z3b (P:=C.P) (i:=0) (off:=0) h2 (by simpa using hle) hl
         refine zgf (w':=Vf w b (.cells (Zb cs 0 (a.eval y).cells.toList).toArray el (0,0))) ?_ ⟨_,_,hk,?_,?_⟩
         rotate_left
         . rw[hdst]
           exact hR.setBox hb h1 (z2k (Xg h2)) (λk hkb=>z3v hkb) z4s rfl rfl rfl (Nat.le_refl _)
         . intro d hd;simp only[Up.dst,Option.some.injEq]at hd;subst hd;simp[Yh,ho]
         . simp only[execOp,ho,qj h1,Instr.storeAt,Instr.sureAddr,Sem.run_bind,Sem.run_pure,Result.andThen_ok,storeVar,hn,hsn,ne_eq,not_true_eq_false,if_false,hrun]
       . exact hk.elim
     . rename_i off hb
       obtain⟨cs,b,el,h1,h2,h3,h4⟩:=zge hR hb
       rw[h1]at hk;simp only at hk
       split at hk
       . rename_i hi hdst hle
         have hle:=Nat.le_of_ble_eq_true hle
         obtain⟨n,hn,hsn⟩:=zbu (w:=w) hsz hl (Option.isSome_iff_exists.1 hi)
         have hrun:=z3b (P:=C.P) (i:=0) (off:=off) h4 (by simpa using hle) hl
         refine zgf (w':=Vf w b (.cells (Zb cs off (a.eval y).cells.toList).toArray el (0,0))) ?_ ⟨_,_,hk,?_,?_⟩
         rotate_left
         . rw[hdst]
           exact hR.setBox h1 h2 (z2k (Xg h4)) (λk hkb=>z3v hkb) z4s rfl rfl rfl (Nat.le_refl _)
         . intro d hd;simp only[Up.dst,Option.some.injEq]at hd;subst hd;simp[Yh,ho]
         . simp only[execOp,ho,qj h3,Instr.storeAt,Instr.sureAddr,Sem.run_bind,Sem.run_pure,Result.andThen_ok,storeVar,hn,hsn,ne_eq,not_true_eq_false,if_false,hrun]
           simp
       . exact hk.elim
     . rename_i p hb
       split at hk
       . exact hk.elim
       obtain⟨ad,rfl,hk2⟩:=z6a hk
       split at hk2
       . rename_i hi hdst
         obtain⟨n,hn,hsn⟩:=zbu (w:=w) hsz hl (Option.isSome_iff_exists.1 hi)
         obtain⟨h',w',hK,hrun,hs',hf,hd⟩:=zb7 (C:=C) hR.sub hk2
         refine zgf (w':=w') ?_ ⟨_,_,hK,?_,?_⟩
         rotate_left
         . rw[hdst]
           exact hR.step hs' hf hd
         . intro d hd;cases hd
         . simp only[execOp,ho,qj (hR.vals s _ hb),Instr.storeAt,Instr.sureAddr,Sem.run_bind,Sem.run_pure,Result.andThen_ok,storeVar,hn,hsn,ne_eq,not_true_eq_false,if_false,hrun]
       . exact hk2.elim
     . exact hk.elim
   . exact hk.elim
 . exact hk.elim
theorem zf3{t:TypeId}{f:Nat}{K:Nat->Prop}(hk:zak C.P t f K) :
 ∃fs fd i,C.P.underlying t=some (.struct fs)/\fs[f]?=some fd/\C.P.info? fd.type=some i/\i.size≠0/\K fd.offset:=by
 unfold zak at hk
 split at hk
 . rename_i fs hu
   split at hk
   . rename_i fd hf
     split at hk
     . exact hk.elim
     . rename_i hz
       have hz:C.P.cellsOf fd.type≠0:=λhh=>by rw[hh]at hz;cases hz
       obtain⟨i,hi⟩:=zjd (C:=C) rfl hz
       exact⟨fs,fd,i,hu,hf,hi,by rw[Yf hi]at hz;exact hz,hk⟩
   . exact hk.elim
 . exact hk.elim
theorem z9p{t:TypeId}{f:Nat}{fs:Array Field}{fd:Field}{i:TypeInfo}(hu:C.P.underlying t=some (.struct fs))(hf:fs[f]?=some fd)
 (hi:C.P.info? fd.type=some i) (hz:i.size≠0) (ad:Addr):(Instr.fieldAt t (.pointer (some ad)) f).run C.P w=.ok (.pointer (some (ad.add fd.offset))) w:=by
 simp only[Instr.fieldAt,Sem.run_bind,zi hu,Result.andThen_ok,hf,Instr.sureAddr,Sem.run_pure,fieldPlace,yj hi,if_neg hz]
theorem zgv(hR:Rel C B e h a w){t:TypeId}{x:Operand}{f:Nat}(ho:o.op=.fieldAddr t x f)(hk:Zg C o e h K):o.wpIn (Ye ro) nn C.P a w (Qe C B o e K) Q:=by
 unfold Zg at hk;rw[ho]at hk;simp only at hk
 obtain⟨fs,fd,i,hu,hf,hi,hz,hk2⟩:=zf3 hk
 clear hk
 split at hk2
 . rename_i s
   split at hk2
   . rename_i cs hb
     obtain⟨b,el,h1,h2⟩:=zdj hR hb
     refine yc (w':=w) ?_ (z8v hR hb h1 hk2)
     simp only[execOp,ho,qj h1,Sem.run_bind,z9p hu hf hi hz,Result.andThen_ok,Sem.run_pure,z1b,Nat.zero_add]
   . rename_i off hb
     obtain⟨cs,b,el,h1,h2,h3,h4⟩:=zge hR hb
     refine yc (w':=w) ?_ (z8v hR h1 h2 hk2)
     simp only[execOp,ho,qj h3,Sem.run_bind,z9p hu hf hi hz,Result.andThen_ok,Sem.run_pure,z1b]
   . rename_i p hb
     obtain⟨ad,rfl,hk3⟩:=z6a hk2
     refine yc (w':=w) ?_ (zw hR hk3)
     simp only[execOp,ho,qj (hR.vals s _ hb),Sem.run_bind,z9p hu hf hi hz,Result.andThen_ok,Sem.run_pure]
   . exact hk2.elim
 . exact hk2.elim
theorem zoa{n:Int}{len:Nat}{p:Prop}(hk:zba n len p):(0<=n/\n<len)/\p:=by
 unfold zba at hk
 split at hk
 . rename_i hd;exact⟨of_decide_eq_true hd,hk⟩
 . exact hk.elim
theorem z4a{t el:TypeId}{len:Nat}{k:IntKind}{n:Int}{i:TypeInfo}(hu:C.P.underlying t=some (.array len el))(hi:C.P.info? el=some i)
 (hn:0<=n/\n<len) (ad:Addr):(Instr.indexAt t (.pointer (some ad)) (.int k n)).run C.P w=.ok (.pointer (some (ad.add (n.toNat*C.P.cellsOf el)))) w:=by
 simp only[Instr.indexAt,asIntOf,Instr.sureAddr,Sem.run_bind,Sem.run_pure,zi hu,Result.andThen_ok]
 rw[if_pos hn]
 simp[yj hi,Yf hi]
theorem zgw(hR:Rel C B e h a w){t:TypeId}{x ix:Operand}(ho:o.op=.indexAddr t x ix)(hk:Zg C o e h K):o.wpIn (Ye ro) nn C.P a w (Qe C B o e K) Q:=by
 unfold Zg at hk;rw[ho]at hk;simp only at hk
 replace hk:=Z6 hR hk
 split at hk
 . rename_i k n hix
   split at hk
   . rename_i el hu
     obtain⟨⟨i,hi⟩,hk2⟩:=zg8 hk
     clear hk
     replace hk2:=Z6 hR hk2
     split at hk2
     . rename_i ba l c hx
       obtain⟨h0,h1,hk3⟩:=hk2
       obtain⟨ad,hba,hk4⟩:=z6a hk3
       simp only at hba h1
       subst hba
       refine yc (w':=w) ?_ (zw hR hk4)
       simp only[execOp,ho,hix,hx,Instr.indexAt,asIntOf,Sem.run_bind,Sem.run_pure,zi hu,Result.andThen_ok,Yf hi]
       rw[if_pos ⟨h0,h1⟩]
       simp[yj hi]
     . exact hk2.elim
   . rename_i len el hu
     obtain⟨⟨i,hi⟩,hk2⟩:=zg8 hk
     clear hk
     obtain⟨hn,hk3⟩:=zoa hk2
     clear hk2
     split at hk3
     . rename_i s
       split at hk3
       . rename_i cs hb
         obtain⟨b,el',h1,h2⟩:=zdj hR hb
         refine yc (w':=w) ?_ (z8v hR hb h1 hk3)
         simp only[execOp,ho,hix,qj h1,Sem.run_bind,z4a hu hi hn,Result.andThen_ok,Sem.run_pure,z1b,Nat.zero_add]
       . rename_i off hb
         obtain⟨cs,b,el',h1,h2,h3,h4⟩:=zge hR hb
         refine yc (w':=w) ?_ (z8v hR h1 h2 hk3)
         simp only[execOp,ho,hix,qj h3,Sem.run_bind,z4a hu hi hn,Result.andThen_ok,Sem.run_pure,z1b]
       . rename_i p hb
         obtain⟨ad,rfl,hk4⟩:=z6a hk3
         refine yc (w':=w) ?_ (zw hR hk4)
         simp only[execOp,ho,hix,qj (hR.vals s _ hb),Sem.run_bind,z4a hu hi hn,Result.andThen_ok,Sem.run_pure]
       . exact hk3.elim
     . rename_i g
       refine yc (w':=w) ?_ (zw hR hk3)
       have hg:a.eval (.global g)=.pointer (some ⟨g,0,none⟩):=rfl
       simp only[execOp,ho,hix,hg,Sem.run_bind,z4a hu hi hn,Result.andThen_ok,Sem.run_pure]
     . exact hk3.elim
   . exact hk.elim
 . exact hk.elim
theorem zt8{s:ByteArray}{n:Int}{K:Int->Prop}(hk:Qs s n K){t:TypeId}{k:IntKind}(hu:C.P.underlying t=some .string) :
 ∃b:Int,K b/\(Instr.index t (.string s) (.int k n)).run C.P w=.ok (.int .u8 b) w:=by
 obtain⟨h0,b,hb,hk⟩:=hk
 refine⟨_,hk,?_⟩
 simp only[Instr.index,asIntOf,Sem.run_bind,Sem.run_pure,zi hu,Result.andThen_ok,if_pos h0,hb]
theorem zso{P:Program}{ix:Operand}{t:TypeId}{cs:List Value}{off:Nat}{K:Value->Prop}(hk:zot P ix t cs off K):z7x P t cs off K:=by
 unfold zot at hk
 split at hk
 . split at hk
   . rename_i l h1 h2
     obtain⟨x,h3,h4⟩:=hk
     unfold z7x
     rw[h1]
     simp only[h3];exact h4
   . exact hk.elim
 . exact hk
theorem zqv(hR:Rel C B e h a w){t:TypeId}{x ix:Operand}(ho:o.op=.index t x ix)(hk:Zg C o e h K):o.wpIn (Ye ro) nn C.P a w (Qe C B o e K) Q:=by
 unfold Zg at hk;rw[ho]at hk;simp only at hk
 replace hk:=Z6 hR (Z6 hR hk)
 split at hk
 . rename_i k n s hix hx
   split at hk
   . rename_i hu
     obtain⟨b,hb,hrun⟩:=zt8 (C:=C) (w:=w) (k:=k) hk hu
     refine yc (w':=w) ?_ (zw hR hb)
     simp only[execOp,ho,hix,hx,Sem.run_bind,hrun,Result.andThen_ok,Sem.run_pure]
   . exact hk.elim
 . rename_i k n cs hix hx
   split at hk
   . rename_i len el hu
     obtain⟨⟨i,hi⟩,hk2⟩:=zg8 hk
     obtain⟨hn,hk3⟩:=zoa hk2
     obtain⟨v,hv,hrun⟩:=zhz (P:=C.P) (w:=w) (zso hk3)
     refine yc (w':=w) ?_ (zw hR hv)
     rw[Yf hi]at hrun
     have hrun':(part el cs (n.toNat*i.size)).run C.P w=.ok v w:=by simpa using hrun
     simp only[execOp,ho,hix,hx,Instr.index,asIntOf,Sem.run_bind,Sem.run_pure,zi hu,Result.andThen_ok]
     rw[if_pos hn]
     simp only[Sem.run_bind,yj hi,Result.andThen_ok,hrun']
   . exact hk.elim
 . exact hk.elim
theorem zqu(hR:Rel C B e h a w){t:TypeId}{x:Operand}{f:Nat}(ho:o.op=.field t x f)(hk:Zg C o e h K):o.wpIn (Ye ro) nn C.P a w (Qe C B o e K) Q:=by
 unfold Zg at hk;rw[ho]at hk;simp only at hk
 obtain⟨fs,fd,i,hu,hf,hi,hz,hk2⟩:=zf3 hk
 clear hk
 replace hk2:=Z6 hR hk2
 cases hx:a.eval x with
 | agg cs=>
   rw[hx]at hk2
   simp only[Zbo,hu,hf]at hk2
   obtain⟨v,hv,hrun⟩:=zhz (P:=C.P) (w:=w) hk2
   refine yc (w':=w) ?_ (zw hR hv)
   have hrun':(part fd.type cs fd.offset).run C.P w=.ok v w:=by simpa using hrun
   simp only[execOp,ho,hx,Instr.field,Sem.run_bind,Sem.run_pure,zi hu,Result.andThen_ok,hf,asAgg,hrun']
 | _=>rw[hx]at hk2;exact hk2.elim
theorem z6u(hR:Rel C B e h a w){lo:Option Operand}{d:Int}{K:Int->Prop}(hk:boP e lo d K) :
 ∃n,K n/\((lo=none/\n=d)\/∃x k,lo=some x/\a.eval x=.int k n):=by
 unfold boP at hk
 split at hk
 . exact⟨_,hk,.inl ⟨rfl,rfl⟩⟩
 . rename_i x
   replace hk:=Z6 hR hk
   split at hk
   . rename_i k n hx;exact⟨n,hk,.inr ⟨x,k,rfl,hx⟩⟩
   . exact hk.elim
theorem Qq{k:IntKind}{n:Int}{y:Nat}{c:BoundsCode}(hn:0<=n/\n<=y):(Instr.sliceBound (.int k n) y c).run C.P w=.ok n.toNat w:=by
 simp only[Instr.sliceBound,asIntOf,Sem.run_bind,Sem.run_pure,Result.andThen_ok]
 rw[if_pos hn];rfl
theorem z56(hR:Rel C B e h a w){lo hi:Option Operand}{isS:Bool}{len cap:Nat}{l u:Int}(h0:0<=l)(h1:l<=u)(h2:u<=cap)
 (hl:(lo=none/\l=0)\/∃x k,lo=some x/\a.eval x=.int k l) (hu:(hi=none/\u=len)\/∃x k,hi=some x/\a.eval x=.int k u) :
 (Instr.sliceBounds isS len cap (lo.map a.eval) (hi.map a.eval) none).run C.P w=.ok (l.toNat,u.toNat,cap) w:=by
 rcases hu with ⟨rfl,rfl⟩ | ⟨x,k,rfl,hx⟩
 . rcases hl with ⟨rfl,rfl⟩ | ⟨y,k',rfl,hy⟩
   . simp[Instr.sliceBounds]
   . simp only[Instr.sliceBounds,Option.map_none,Option.map_some,hy,Sem.run_bind,Sem.run_pure,Result.andThen_ok]
     rw[Qq ⟨h0,h1⟩];simp
 . rcases hl with ⟨rfl,rfl⟩ | ⟨y,k',rfl,hy⟩
   . simp only[Instr.sliceBounds,Option.map_none,Option.map_some,hx,Sem.run_bind,Sem.run_pure,Result.andThen_ok]
     rw[Qq ⟨by omega,h2⟩];simp
   . simp only[Instr.sliceBounds,Option.map_some,hx,hy,Sem.run_bind,Sem.run_pure,Result.andThen_ok]
     rw[Qq ⟨by omega,h2⟩];simp only[Result.andThen_ok]
     rw[Qq ⟨h0,by omega⟩];simp
theorem zeu(hR:Rel C B e h a w){lo:Option Operand}{hi mx:Operand}{isS:Bool}{len cap:Nat}{l u m:Int}(h0:0<=l)(h1:l<=u)(h2:u<=m)(h3:m<=cap)
 (hl:(lo=none/\l=0)\/∃x k,lo=some x/\a.eval x=.int k l) (hu:∃k,a.eval hi=.int k u) (hm:∃k,a.eval mx=.int k m) :
 (Instr.sliceBounds isS len cap (lo.map a.eval) ((some hi).map a.eval) ((some mx).map a.eval)).run C.P w=.ok (l.toNat,u.toNat,m.toNat) w:=by
 obtain⟨k1,hu⟩:=hu
 obtain⟨k2,hm⟩:=hm
 rcases hl with ⟨rfl,rfl⟩ | ⟨y,k',rfl,hy⟩
 . simp only[Instr.sliceBounds,Option.map_none,Option.map_some,hu,hm,Sem.run_bind,Sem.run_pure]
   rw[Qq ⟨by omega,h3⟩];simp only[Result.andThen_ok]
   rw[Qq ⟨by omega,by omega⟩];simp
 . simp only[Instr.sliceBounds,Option.map_some,hu,hm,hy,Sem.run_bind,Sem.run_pure]
   rw[Qq ⟨by omega,h3⟩];simp only[Result.andThen_ok]
   rw[Qq ⟨by omega,by omega⟩];simp only[Result.andThen_ok]
   rw[Qq ⟨h0,by omega⟩];simp
theorem zck(hR:Rel C B e h a w){x:Operand}{d:Int}{K:Int->Prop}(hk:boP e (some x) d K):∃n,K n/\∃k,a.eval x=.int k n:=by
 obtain⟨n,hn,⟨h1,_⟩ | ⟨y,k,h1,h2⟩⟩:=z6u hR hk
 . cases h1
 . cases h1;exact⟨n,hn,k,h2⟩
theorem znq(hR:Rel C B e h a w){t:TypeId}{x hi mx:Operand}{lo:Option Operand}(ho:o.op=.slice t x lo (some hi) (some mx))(hk:Zg C o e h K):o.wpIn (Ye ro) nn C.P a w (Qe C B o e K) Q:=by
 unfold Zg at hk;rw[ho]at hk;simp only at hk
 replace hk:=Z6 hR hk
 split at hk
 . rename_i ad n c hx
   obtain⟨el,i,hu,hi,hk1⟩:=z0a hk
   obtain⟨l,hk2,hl⟩:=z6u hR hk1
   obtain⟨u,hk3,hu2⟩:=zck hR hk2
   obtain⟨m,hk4,hm2⟩:=zck hR hk3
   obtain⟨h0,h1,h2,h3,hk5⟩:=hk4
   refine yc (w':=w) ?_ (zw hR hk5)
   simp only[execOp,ho,hx,Instr.sliceAt,Sem.run_bind,zi hu,Result.andThen_ok,Instr.slice,Sem.run_pure,
    zeu hR h0 h1 h2 h3 hl hu2 hm2,yj hi,Sl.cut,Yf hi]
 . exact hk.elim
theorem zqw(hR:Rel C B e h a w){t:TypeId}{x:Operand}{lo hi:Option Operand}(ho:o.op=.slice t x lo hi none)(hk:Zg C o e h K):o.wpIn (Ye ro) nn C.P a w (Qe C B o e K) Q:=by
 unfold Zg at hk;rw[ho]at hk;simp only at hk
 replace hk:=Z6 hR hk
 split at hk
 . rename_i s hx
   split at hk
   . rename_i hu
     obtain⟨l,hk1,hl⟩:=z6u hR hk
     obtain⟨u,hk2,hu2⟩:=z6u hR hk1
     obtain⟨h0,h1,h2,hk3⟩:=hk2
     refine yc (w':=w) ?_ (zw hR hk3)
     simp only[execOp,ho,hx,Instr.sliceAt,Sem.run_bind,zi hu,Result.andThen_ok,Instr.slice,Option.map_none,Option.isSome_none,Bool.false_eq_true,if_false,Sem.run_pure,
      z56 hR h0 h1 h2 hl hu2]
   . exact hk.elim
 . rename_i ad n c hx
   obtain⟨el,i,hu,hi,hk1⟩:=z0a hk
   obtain⟨l,hk2,hl⟩:=z6u hR hk1
   obtain⟨u,hk3,hu2⟩:=z6u hR hk2
   obtain⟨h0,h1,h2,hk4⟩:=hk3
   refine yc (w':=w) ?_ (zw hR hk4)
   simp only[execOp,ho,hx,Instr.sliceAt,Sem.run_bind,zi hu,Result.andThen_ok,Instr.slice,Option.map_none,Sem.run_pure,
    z56 hR h0 h1 h2 hl hu2,yj hi,Sl.cut,Yf hi]
 . rename_i p hx
   split at hk
   . rename_i n el hu
     obtain⟨⟨i,hi⟩,hk1⟩:=zg8 hk
     obtain⟨ad,rfl,hk2⟩:=z6a hk1
     obtain⟨l,hk3,hl⟩:=z6u hR hk2
     obtain⟨u,hk4,hu2⟩:=z6u hR hk3
     obtain⟨h0,h1,h2,hk5⟩:=hk4
     refine yc (w':=w) ?_ (zw hR hk5)
     have e1:(Sl.cut ⟨some ad,n,n⟩ l.toNat u.toNat (C.P.cellsOf el)).a=some (if n=l.toNat then ad else ad.add (l.toNat*i.size)):=by
      unfold Sl.cut
      simp only[Yf hi]
      split<;>rfl
     rw[e1]
     simp only[execOp,ho,hx,Instr.sliceAt,Instr.sureAddr,Sem.run_bind,zi hu,Result.andThen_ok,Option.map_none,Sem.run_pure,
      z56 hR h0 h1 h2 hl hu2,yj hi,Sl.cut]
   . exact hk.elim
 . exact hk.elim
end
end Den
end

section
namespace Den
open Go
variable {ro : Option Nat} {nn : Nat}
section
variable {C : Cfg} {B : Base} {e : Env} {h : Hp} {a : Act} {w : World} {K : Up → Hp → Prop} {o : Oper} {Q : Exit → Act → World → Prop}
theorem zd4(hR:Rel C B e h a w){x:Operand}{A:Nat->List (Int×Bool)->Prop}{D:Prop}(hk:zc1 C e x A D) :
 (∃s m b el,x=.tmp s/\e (C.rt s)=.mp m/\A (C.rt s) m/\a.tmps[s]?=some (.map (some b))/\a.tmps[C.rt s]?=some (.map (some b))/\z95 w b el (.mp m)/\C.loc (C.rt s)=true)\/D:=by
 unfold zc1 at hk
 split at hk
 . rename_i s
   split at hk
   . rename_i m hm
     split at hk
     . rename_i hr
       have hr:=Nat.eq_of_beq_eq_true hr
       obtain⟨hl,b,el,h1,h2,_,_⟩:=hR.hid s (by rw[hm];rfl)
       rw[hm]at h1 h2
       exact .inl ⟨s,m,b,el,rfl,by rw[hr];exact hm,by rw[hr];exact hk,h1,by rw[hr];exact h1,h2,by rw[hr];exact hl⟩
     . exact hk.elim
   . rename_i hm
     split at hk
     . rename_i m hm2
       obtain⟨hl,b,el,h1,h2,_,_⟩:=hR.hid (C.rt s) (by rw[hm2];rfl)
       rw[hm2]at h1 h2
       obtain⟨_,_,_,g3⟩:=hR.mrs s hm
       exact .inl ⟨s,m,b,el,rfl,hm2,hk,by rw[g3];exact h1,h1,h2,hl⟩
     . exact hk.elim
   . exact .inr hk
 . exact .inr hk
theorem zsu(hR:Rel C B e h a w){r:Nat}{v:Value}(hk:zst C o.dst r h K)(hlr:C.loc r=true)(hm:Vw r C.mapL=true)(hp:a.tmps[r]?=some v):Qe C B o e K (a.put o.dst v) w:=by
 unfold zst at hk
 split at hk
 . exact hk.elim
 . rename_i d hd
   split at hk
   . rename_i hl hr hn
     have hr:=Nat.eq_of_beq_eq_true hr
     refine⟨.set d .mr,h,hk,?_,λd' hd'=>?_⟩
     . rw[hd];exact hR.setMr hl (by have:=hn;unfold Nat.blt at this;have:=Nat.le_of_ble_eq_true this;omega) hr hlr hm hp
     . simp only[Up.dst,Option.some.injEq]at hd';subst hd';simp[Yh,hd]
   . exact hk.elim
theorem zjv(hR:Rel C B e h a w){x:Operand}(ho:o.op=.move x\/o.op=.assign x)(hk:Zg C o e h K):o.wpIn (Ye ro) nn C.P a w (Qe C B o e K) Q:=by
 unfold Zg at hk
 rcases ho with ho | ho
 all_goals
  rw[ho]at hk;simp only at hk
  rcases zd4 hR hk with ⟨s,m,b,el,rfl,hm,hk,h1,h1',_,hl⟩ | hk
  . split at hk
    . rename_i hml
      refine yc (w':=w) (v:=.map (some b)) ?_ (zsu hR hk hl hml h1')
      simp only[execOp,ho,Sem.run_pure,qj h1]
    . exact hk.elim
  . replace hk:=Z6 hR hk
    refine yc (w':=w) ?_ (zw hR hk)
    simp only[execOp,ho,Sem.run_pure]
theorem zvt(hR:Rel C B e h a w){c x y:Operand}(ho:o.op=.pick c x y)(hk:Zg C o e h K):o.wpIn (Ye ro) nn C.P a w (Qe C B o e K) Q:=by
 unfold Zg at hk;rw[ho]at hk;simp only at hk
 replace hk:=Z6 hR hk
 split at hk
 . rename_i t hc
   cases t
   . have hk2:opv e y λv=>Qb C o.dst v h K:=hk
     replace hk2:=Z6 hR hk2
     refine yc (w':=w) ?_ (zw hR hk2)
     simp[execOp,ho,hc,asBool]
   . have hk2:opv e x λv=>Qb C o.dst v h K:=hk
     replace hk2:=Z6 hR hk2
     refine yc (w':=w) ?_ (zw hR hk2)
     simp[execOp,ho,hc,asBool]
 . exact hk.elim
theorem zmt{C:Cfg}{t t':Nat}(h:C.tyO t=some t'):t=t':=by
 unfold Cfg.tyO at h
 cases hm:Vw t C.tyL with
 | true=>rw[hm]at h;simpa using h
 | false=>rw[hm]at h;cases h
theorem zqp(hR:Rel C B e h a w){t:TypeId}(ho:o.op=.alloc t)(hk:Zg C o e h K):o.wpIn (Ye ro) nn C.P a w (Qe C B o e K) Q:=by
 unfold Zg at hk;rw[ho]at hk;simp only at hk
 obtain⟨i,z,hi,hz,hk2,hrun⟩:=z5v hk
 refine yc ?_ (z8u (el:=t) hR (λt' ht=>zmt ht) hk2 rfl rfl rfl (λ_ hh=>by cases hh))
 simp only[execOp,ho,Instr.alloc,Sem.run_bind,hrun,Result.andThen_ok,newVar,Vx,Sem.run_pure,Array.toArray_toList]
theorem zyn(hR:Rel C B e h a w){t:TypeId}{x:Operand}(ho:o.op=.box t x)(hk:Zg C o e h K):o.wpIn (Ye ro) nn C.P a w (Qe C B o e K) Q:=by
 unfold Zg at hk;rw[ho]at hk;simp only at hk
 replace hk:=Z6 hR hk
 refine yc ?_ (z8u (el:=t) hR (λ_ ht=>by cases ht) hk rfl rfl rfl (λ_ hh=>by cases hh))
 simp only[execOp,ho,Instr.box,Sem.run_bind,Result.andThen_ok,newVar,Vx,Sem.run_pure,Array.toArray_toList]
theorem zmw{α:Type}:∀(l:List (Nat×α)) (f:α->Value),(l.map (·.1)).zip ((l.map (·.2)).map f)=l.map λ(i,x)=>(i,f x)
 | [],_=>rfl
 | (i,x) :: r,f=>by simp only[List.map_cons,List.zip_cons_cons,zmw r f]
theorem zqr(hR:Rel C B e h a w){t:TypeId}{parts:Array (Nat×Operand)}(ho:o.op=.build t parts)(hk:Zg C o e h K):o.wpIn (Ye ro) nn C.P a w (Qe C B o e K) Q:=by
 unfold Zg at hk;rw[ho]at hk;simp only at hk
 replace hk:=z7w hR hk
 rw[zmw]at hk
 split at hk
 . rename_i cs hcs
   refine yc (w':=w) ?_ (zw hR hk)
   have:(parts.map λ(i,x)=>(i,a.eval x)).toList=parts.toList.map λ(i,x)=>(i,a.eval x):=by simp
   simp only[execOp,ho,Sem.run_bind,run_build w t _ cs (by rw[this];exact hcs),Result.andThen_ok,Sem.run_pure]
 . exact hk.elim
theorem zg1(hR:Rel C B e h a w){t:TypeId}{n:Nat}{parts:Array (Nat×Operand)}(ho:o.op=.buildSlice t n parts)(hk:Zg C o e h K):o.wpIn (Ye ro) nn C.P a w (Qe C B o e K) Q:=by
 unfold Zg at hk;rw[ho]at hk;simp only at hk
 replace hk:=z7w hR hk
 rw[zmw]at hk
 obtain⟨el,i,hu,hi,hk1⟩:=z0a hk
 obtain⟨i',z,hi',hz,hk2,hrun⟩:=z5v hk1
 obtain rfl:i=i':=by rw[hi]at hi';exact Option.some.inj hi'
 split at hk2
 . rename_i h1 h2
   have h1:=Nat.eq_of_beq_eq_true h1
   have h2:=Nat.le_of_ble_eq_true h2
   rw[Yf hi]at h1 h2
   simp only[Array.length_toList]at h1 hk2
   unfold zk4 at hk2
   split at hk2
   . rename_i cs hcs
     have hp:(parts.map λ(i,x)=>(i,a.eval x)).toList=parts.toList.map λ(i,x)=>(i,a.eval x):=by simp
     refine yc ?_ (z8u (el:=el) hR (λ_ ht=>by cases ht) hk2 rfl rfl rfl (λ_ hh=>by cases hh))
     simp only[execOp,ho,Instr.buildSlice,Sem.run_bind,zi hu,Result.andThen_ok,yj hi,hp]
     rw[if_neg (by omega)]
     simp only[Sem.run_pure]
     by_cases hz0:n*i.size=0
     . rw[if_pos hz0]
       simp only[Sem.run_bind,Sem.run_pure,Result.andThen_ok]
       have he:(Array.range (n*i.size)).map (λx=>(#[]:Array Value)[x % (#[]:Array Value).size]!)=(ye n z.cells.toList).toArray:=by
        have hl:=za8 n z.cells.toList
        have:(ye n z.cells.toList)=[]:=List.eq_nil_of_length_eq_zero (by rw[hl];simp[h1,hz0])
        rw[this,hz0];simp
       rw[he,<-h1,hcs]
       simp[Vx]
     . rw[if_neg hz0]
       simp only[Sem.run_bind,hrun,Sem.run_pure,Result.andThen_ok]
       rw[<-h1,z3u,hcs]
       simp[Vx]
   . exact hk2.elim
 . exact hk2.elim
theorem zj9(hR:Rel C B e h a w){x:Operand}(ho:o.op=.nilCheck x)(hk:Zg C o e h K):o.wpIn (Ye ro) nn C.P a w (Qe C B o e K) Q:=by
 unfold Zg at hk;rw[ho]at hk;simp only at hk
 replace hk:=Z6 hR hk
 split at hk
 . rename_i p hx
   obtain⟨ad,rfl,hk2⟩:=z6a hk
   refine yc (w':=w) ?_ (zw hR hk2)
   simp only[execOp,ho,hx,Sem.run_pure]
 . rename_i g u v hx
   refine yc (w':=w) ?_ (zw hR hk)
   simp only[execOp,ho,hx,Sem.run_pure]
 . exact hk.elim
theorem zqq(hR:Rel C B e h a w){op:BinOp}{t t':TypeId}{x y:Operand}(ho:o.op=.binOp op t x y t')(hk:Zg C o e h K):o.wpIn (Ye ro) nn C.P a w (Qe C B o e K) Q:=by
 unfold Zg at hk;rw[ho]at hk;simp only at hk
 replace hk:=Z6 hR (Z6 hR hk)
 obtain⟨r,hr,hrun⟩:=zqk (w:=w) hk x y
 refine yc (w':=w) ?_ (zw hR hr)
 simp only[execOp,ho]
 rw[Sem.run_bind]
 show((eqGuard op t x y (a.eval x) (a.eval y) >>= λ_=>binOp op t (a.eval x) (a.eval y)).run C.P w).andThen _=_
 rw[hrun];rfl
theorem zvu(hR:Rel C B e h a w){op:UnOp}{t:TypeId}{x:Operand}(ho:o.op=.unOp op t x)(hk:Zg C o e h K):o.wpIn (Ye ro) nn C.P a w (Qe C B o e K) Q:=by
 unfold Zg at hk;rw[ho]at hk;simp only at hk
 replace hk:=Z6 hR hk
 obtain⟨r,hr,hrun⟩:=zxy (P:=C.P) (w:=w) hk
 refine yc (w':=w) ?_ (zw hR hr)
 simp only[execOp,ho,Sem.run_bind,hrun,Result.andThen_ok,Sem.run_pure]
theorem zla(hR:Rel C B e h a w){s t:TypeId}{x:Operand}(ho:o.op=.convert s t x)(hk:Zg C o e h K):o.wpIn (Ye ro) nn C.P a w (Qe C B o e K) Q:=by
 unfold Zg at hk;rw[ho]at hk;simp only at hk
 replace hk:=Z6 hR hk
 split at hk
 . rename_i k k' n hu hx
   split at hk
   . rename_i hs
     obtain⟨ds,hs⟩:=Option.isSome_iff_exists.1 hs
     refine yc (w':=w) ?_ (zw hR hk)
     simp only[execOp,ho,hx,convert,Sem.run_bind,zi hu,zi hs,Result.andThen_ok,Conv.intToInt,Sem.run_pure]
   . exact hk.elim
 . rename_i ad l c hu hx
   split at hk
   . rename_i el hs
     split at hk
     . rename_i he
       obtain⟨bs,hcs,hk⟩:=hk
       refine yc (w':=w) ?_ (zw hR hk)
       have hrun:(Conv.bytesToString (.slice ad l c)).run C.P w=.ok (.string ⟨bs.toArray⟩) w:=by
        cases ad with
        | none=>
          simp only[Z0]at hcs
          split at hcs
          . simp only[Option.some.injEq]at hcs
            have:bs=[]:=by cases bs with | nil=>rfl | cons x r=>simp at hcs
            subst this
            simp[Conv.bytesToString];rfl
          . cases hcs
        | some ad=>
          have h1:=W4 (P:=C.P) hR.sub hcs
          have h2:(bs.map λb=>Value.int .u8 ((b.toNat:Nat):Int))=(bs.map λb=>((b.toNat:Nat):Int)).map (Value.int .u8):=by simp
          rw[h2]at h1
          rw[run_bytesToString w ad l c _ h1]
          have h3:∀(bs:List UInt8) (r:ByteArray),(bs.map λb=>((b.toNat:Nat):Int)).foldl (λr n=>r.push (UInt8.ofNat n.toNat)) r=⟨r.data++bs.toArray⟩:=by
           intro bs
           induction bs with
           | nil=>intro r;simp
           | cons x bs ih=>
             intro r
             simp only[List.map_cons,List.foldl_cons]
             rw[ih]
             simp[ByteArray.push]
          rw[h3]
          simp
       simp only[execOp,ho,hx,convert,Sem.run_bind,zi hu,zi hs,zi he,Result.andThen_ok,hrun,Sem.run_pure]
     . exact hk.elim
   . exact hk.elim
 . rename_i el st hu hx
   split at hk
   . rename_i hs he
     have hnc:st.size<=grownCap w st.size 0 el:=by
      have hcut:∀q,(Question.appendCap st.size 0 el).cut q=st.size+q % (2 ^ 63-st.size):=λq=>rfl
      have h1:grownCap w st.size 0 el=(Question.appendCap st.size 0 el).cut (w.tape w.drawn (.appendCap st.size 0 el)):=rfl
      rw[h1,hcut];omega
     have hrow:bytesRow st (grownCap w st.size 0 el)=(Vb st++List.replicate (grownCap w st.size 0 el-st.size) (Value.int .u8 0)).toArray:=by
      unfold bytesRow Vb
      apply Array.toList_inj.1;simp
     have hK:=hk w.heap.size el _ ((bytesRow st (grownCap w st.size 0 el)).size,(bytesRow st (grownCap w st.size 0 el)).size+1) hnc (hR.sub.fresh (Nat.le_refl _))
     have hR2:=hR.drew.alloc (Vb st++List.replicate (grownCap w st.size 0 el-st.size) (Value.int .u8 0)) el ((bytesRow st (grownCap w st.size 0 el)).size,(bytesRow st (grownCap w st.size 0 el)).size+1)
     rw[<-hrow]at hR2
     refine yc ?_ (zw hR2 hK)
     have hrun:=run_bytes_of_string (P:=C.P) w s t el st hs hu he
     simp only[execOp,ho,hx,Sem.run_bind,hrun,Result.andThen_ok,Sem.run_pure]
     rfl
   . exact hk.elim
 . exact hk.elim
theorem zj8(hR:Rel C B e h a w){g:FuncId}{u v:Array Operand}(ho:o.op=.makeFunc (.func g) u v)(hk:Zg C o e h K):o.wpIn (Ye ro) nn C.P a w (Qe C B o e K) Q:=by
 unfold Zg at hk;rw[ho]at hk;simp only at hk
 replace hk:=z7w hR (z7w hR hk)
 refine yc (w':=w) ?_ (zw hR hk)
 have hm:∀l:Array Operand,(l.toList.map a.eval).toArray=l.map a.eval:=λl=>by apply Array.toList_inj.1;simp
 simp only[execOp,ho,Instr.makeFunc,Sem.run_bind,Sem.run_pure,Result.andThen_ok,hm]
theorem zlb(hR:Rel C B e h a w){x:Operand}{i:Nat}(ho:o.op=.extract x i)(hk:Zg C o e h K):o.wpIn (Ye ro) nn C.P a w (Qe C B o e K) Q:=by
 unfold Zg at hk;rw[ho]at hk;simp only at hk
 replace hk:=Z6 hR hk
 split at hk
 . rename_i vs hx
   split at hk
   . rename_i u hu
     refine yc (w':=w) ?_ (zw hR hk)
     have hu':vs[i]?=some u:=by simpa using hu
     simp only[execOp,ho,hx,Instr.extract,hu',Sem.run_bind,Sem.run_pure,Result.andThen_ok]
   . exact hk.elim
 . exact hk.elim
theorem zpl{n:Int}(h0:0<=n)(h1:n<=140737488355328):i64.wrap n=n:=IntWalk.i64_in n ⟨by omega,by omega⟩
theorem zgx(hR:Rel C B e h a w){t:TypeId}{l c:Operand}(ho:o.op=.makeSlice t l c)(hk:Zg C o e h K):o.wpIn (Ye ro) nn C.P a w (Qe C B o e K) Q:=by
 unfold Zg at hk;rw[ho]at hk;simp only at hk
 replace hk:=Z6 hR (Z6 hR hk)
 split at hk
 . rename_i kl len kc cap hl hc
   obtain⟨el,i,hu,hi,hk1⟩:=z0a hk
   obtain⟨i',z,hi',hz,hk2,hrun⟩:=z5v hk1
   obtain rfl:i=i':=by rw[hi]at hi';exact Option.some.inj hi'
   split at hk2
   . rename_i h1 h2
     have h1:=Nat.eq_of_beq_eq_true h1
     have h2':z.cells.toList.length≠0:=λhh=>by rw[hh]at h2;cases h2
     rw[Yf hi]at h1
     simp only[Array.length_toList]at h1 h2'
     obtain⟨g0,g1,g2,g3,hk3⟩:=hk2
     rw[z88 hi]at g2
     have:=hk3 w.heap.size el (hR.sub.fresh (Nat.le_refl _))
     refine yc ?_ (zw (hR.alloc (ye cap.toNat z.cells.toList) el) this)
     simp only[execOp,ho,hl,hc,Instr.makeSlice,asInt,asIntOf,Sem.run_bind,zi hu,Sem.run_pure,Result.andThen_ok,typeInfo,run_program,hi,
      zpl (show 0<=len by omega) (show len<=140737488355328 by omega),zpl (show 0<=cap by omega) g3]
     have hnot:((decide (cap<0)||decide ((i.bytes:Int)*cap>2 ^ 48))||decide (len<0)||decide (len>cap))=false:=by
      simp;omega
     simp only[hnot,Bool.false_eq_true,if_false,Sem.run_bind,run_askRoom,Result.andThen_ok,yj hi]
     by_cases hz0:cap.toNat*i.size=0
     . rw[if_pos hz0]
       simp only[Sem.run_bind,Sem.run_pure,Result.andThen_ok]
       have he:(Array.range (cap.toNat*i.size)).map (λx=>(#[]:Array Value)[x % (#[]:Array Value).size]!)=(ye cap.toNat z.cells.toList).toArray:=by
        have hl:=za8 cap.toNat z.cells.toList
        have:(ye cap.toNat z.cells.toList)=[]:=List.eq_nil_of_length_eq_zero (by rw[hl];simp[h1,hz0])
        rw[this,hz0];simp
       rw[he]
       simp[Vx]
     . rw[if_neg hz0]
       simp only[Sem.run_bind,hrun,Sem.run_pure,Result.andThen_ok]
       rw[<-h1,z3u]
       simp[Vx]
   . exact hk2.elim
 . exact hk.elim
theorem zqs(hC:z96 C C.tab)(hR:Rel C B e h a w){c:Call}{f:Operand}(ho:o.op=.call c)(hf:c.callee=.value f)(hk:Zg C o e h K):o.wpIn (Ye ro) nn C.P a w (Qe C B o e K) Q:=by
 unfold Zg at hk;rw[ho]at hk;simp only[hf]at hk
 replace hk:=Z6 hR hk
 split at hk
 . rename_i g u v hx
   replace hk:=z7w hR hk
   rcases hC.get g with ⟨⟨⟨fn,hfn,hb,hn⟩,hcalls⟩,_⟩ | hno
   . have hc:=hcalls _ _ _ _ hR.sub hk
     refine Z9n (w':=w) (f:=g) (args:=(u.toList++c.args.toList.map a.eval++v.toList).toArray) ?_ hc ?_
     . have ha:(u++c.args.map a.eval)++v=(u.toList++c.args.toList.map a.eval++v.toList).toArray:=by
        apply Array.toList_inj.1;simp
       simp only[execOp,ho,resolve,hf,Sem.run_bind,hx,Deferred.ofValue,Sem.run_pure,Result.andThen_ok,invoke,callFunc,run_program,hfn,hb,hn,Bool.false_eq_true,if_false,ha]
     . rintro e' w'' ⟨r,h',rfl,hr,hs,hfr,hd⟩
       refine⟨r,rfl,zw (hR.step hs hfr λk h1 h2=>hd k h1 h2) hr⟩
   . exact(hno _ _ _ hk).elim
 . exact hk.elim
end
end Den
end

section
namespace Den
open Go
variable {ro : Option Nat} {nn : Nat}
section
variable {C : Cfg} {B : Base} {e : Env} {h : Hp} {a : Act} {w : World} {K : Up → Hp → Prop} {o : Oper} {Q : Exit → Act → World → Prop}
theorem zf5{P:Program}{st:ByteArray}{w':World}:(Builtin.firstCells 1 st.size (.string st)).run P w'=.ok (Vb st).toArray w':=by
 simp only[Builtin.firstCells,Sem.run_pure,Vb,Result.ok.injEq,and_true]
 apply Array.toList_inj.1;simp
theorem Z5d(hR:Rel C B e h a w){x:Operand}{size:Nat}{K:Nat->List Value->Prop}(hk:zji e x size K h) :
 ∃n vs,K n vs/\vs.length=n*size/\(∀w',(Builtin.lenOf (a.eval x)).run C.P w'=.ok n w')/\∀w',w'.heap=w.heap->(Builtin.firstCells size n (a.eval x)).run C.P w'=.ok vs.toArray w':=by
 have hsub:∀w',w'.heap=w.heap->Sub h w':=λw' hw k b hb=>by rw[hw];exact hR.sub k b hb
 unfold zji at hk
 split at hk
 . rename_i t
   split at hk
   . rename_i cs n hb
     split at hk
     . rename_i hl
       have hl:=Nat.eq_of_beq_eq_true hl
       obtain⟨_,b,el,h1,h2,_,_⟩:=hR.hid t (by rw[hb];rfl)
       rw[hb]at h1 h2
       simp only[z5e,Zd4,z95]at h1 h2
       refine⟨n,cs,hk,hl,λw'=>by rw[qj h1];rfl,λw' hw=>?_⟩
       rw[qj h1]
       rw[<-hw]at h2
       simp only[Builtin.firstCells,loadCells]
       rw[z61 h2 (by omega),<-hl]
       simp
     . exact hk.elim
   . rename_i ad n c hb
     obtain⟨vs,hvs,hk⟩:=hk
     rw[qj (hR.vals t _ hb)]
     cases ad with
     | none=>
       simp only[Z0]at hvs
       split at hvs
       . rename_i hz
         simp only[Option.some.injEq]at hvs;subst hvs
         exact⟨n,[],hk,by simp[hz],(λw'=>rfl),λw' _=>by simp[Builtin.firstCells]⟩
       . cases hvs
     | some ad=>
       simp only[Z0]at hvs
       exact⟨n,vs,hk,(z6w hR.sub hvs).1,(λw'=>rfl),λw' hw=>by simp only[Builtin.firstCells];exact W4 (hsub w' hw) hvs⟩
   . rename_i st hb
     split at hk
     . rename_i hsz
       obtain rfl:=Nat.eq_of_beq_eq_true hsz
       rw[qj (hR.vals t _ hb)]
       exact⟨st.size,Vb st,hk,(by simp[Vb]),(λw'=>rfl),λw' _=>zf5⟩
     . exact hk.elim
   . exact hk.elim
 . rename_i ad n c
   obtain⟨vs,hvs,hk⟩:=hk
   cases ad with
   | none=>
     simp only[Z0]at hvs
     split at hvs
     . rename_i hz
       simp only[Option.some.injEq]at hvs;subst hvs
       exact⟨n,[],hk,by simp[hz],(λw'=>rfl),λw' _=>by simp[Builtin.firstCells,Act.eval]⟩
     . cases hvs
   | some ad=>
     simp only[Z0]at hvs
     exact⟨n,vs,hk,(z6w hR.sub hvs).1,(λw'=>rfl),λw' hw=>by simp only[Builtin.firstCells,Act.eval];exact W4 (hsub w' hw) hvs⟩
 . rename_i st
   split at hk
   . rename_i hsz
     obtain rfl:=Nat.eq_of_beq_eq_true hsz
     exact⟨st.size,Vb st,hk,(by simp[Vb]),(λw'=>rfl),λw' _=>zf5⟩
   . exact hk.elim
 . exact hk.elim
theorem z8x{P:Program}{b:Nat}{es:Array MapEntry}{c:Nat}(hb:w.heap[b]?=some (.map es c)):(getObj b).run P w=.ok (.map es c) w:=by
 simp[getObj,Sem.run,hb]
theorem zhq{P:Program}{t:TypeId}{p:Prop}(hk:zm7 P t p):∃k v i,P.underlying t=some (.map k v)/\P.underlying k=some (.int .i64)/\P.info? v=some i/\i.zero=some (.bool false)/\p:=by
 unfold zm7 at hk
 split at hk
 . rename_i k v h1
   split at hk
   . rename_i i h2 h3
     split at hk
     . rename_i h4
       exact⟨k,v,i,h1,h2,h3,h4,hk⟩
     . exact hk.elim
   . exact hk.elim
 . exact hk.elim
theorem zyp(hR:Rel C B e h a w){c:Call}{x:Operand}(ho:o.op=.call c)(hf:c.callee=.builtin .len)(hx:c.args.toList=[x])
 (hk:Qg C .len c.argTypes.toList [x] e h o.dst K):o.wpIn (Ye ro) nn C.P a w (Qe C B o e K) Q:=by
 unfold Qg at hk
 simp only at hk
 have hargs:c.args=#[x]:=by rw[<-Array.toList_inj];exact hx
 rcases zd4 hR hk with ⟨s,m,b,el,rfl,hm,hk,h1,h1',⟨es,clock,h2,h3⟩,_⟩ | hk
 . split at hk
   . rename_i t ht
     have htypes:c.argTypes=#[t]:=by rw[<-Array.toList_inj];exact ht
     obtain⟨kt,vt,i,hu,_,_,_,hk⟩:=zhq hk
     have hlen:es.size=m.length:=by
      have:=congrArg List.length h3
      simpa using this
     refine yc (w':=w) ?_ (zw hR hk)
     simp only[execOp,ho,resolve,hf,hargs,htypes,Sem.run_bind,Sem.run_pure,Result.andThen_ok,invoke,builtin,Builtin.len_]
     simp[qj h1,zi hu,goInt,z8x h2,hlen]
   . exact hk.elim
 replace hk:=Z6 hR hk
 split at hk
 . rename_i s t hv ht
   have htypes:c.argTypes=#[t]:=by rw[<-Array.toList_inj];exact ht
   split at hk
   . rename_i hu
     refine yc (w':=w) ?_ (zw hR hk)
     simp only[execOp,ho,resolve,hf,hargs,htypes,Sem.run_bind,Sem.run_pure,Result.andThen_ok,invoke,builtin,Builtin.len_]
     simp[hv,zi hu,goInt]
   . exact hk.elim
 . rename_i ad n c' t hv ht
   have htypes:c.argTypes=#[t]:=by rw[<-Array.toList_inj];exact ht
   split at hk
   . rename_i hu
     refine yc (w':=w) ?_ (zw hR hk)
     simp only[execOp,ho,resolve,hf,hargs,htypes,Sem.run_bind,Sem.run_pure,Result.andThen_ok,invoke,builtin,Builtin.len_]
     simp[hv,zi hu,goInt]
   . exact hk.elim
 . exact hk.elim
theorem zlc(hR:Rel C B e h a w){t:TypeId}(ho:o.op=.makeMap t none)(hk:Zg C o e h K):o.wpIn (Ye ro) nn C.P a w (Qe C B o e K) Q:=by
 unfold Zg at hk;rw[ho]at hk;simp only at hk
 unfold zmg at hk
 split at hk
 . exact hk.elim
 . rename_i d hd
   split at hk
   . rename_i hl hn _ hno
     refine yc (w':=w.alloc (.map #[] 0)) (v:=.map (some w.heap.size)) (by simp only[execOp,ho];rfl) ⟨_,_,hk,?_,λd' hd'=>?_⟩
     . rw[hd]
       refine hR.allocHid (el:=0) (s:=.mp []) hl (by have:=hn;unfold Nat.blt at this;have:=Nat.le_of_ble_eq_true this;omega) rfl ⟨#[],0,z7o,rfl⟩ λt ht _=>?_
       have:=List.all_eq_true.1 hno t (List.mem_range.2 (hR.mrs t ht).1)
       rw[ht]at this;cases this
     . simp only[Up.dst,Option.some.injEq]at hd';subst hd';simp[Yh,hd]
   . exact hk.elim
theorem z8f:∀{es:List MapEntry} {m:List (Int×Bool)} {n:Int} {i:Nat},es.map (λx=>(x.key,x.val))=m.map (λp=>((.int .i64 p.1:Value),(.bool p.2:Value))) ->
 (Instr.findNow (.int .i64) (.int .i64 n) es i=some none/\zsd m n=false/\∀b,zm8 m n b=m++[(n,b)]) \/
 (∃j v,Instr.findNow (.int .i64) (.int .i64 n) es i=some (some (i+j,.bool v))/\zsd m n=v/\j<m.length/\(∃q,es[j]?=some q/\q.key=.int .i64 n)/\∀b,zm8 m n b=m.set j (n,b))
 | [],[],n,i,_=>.inl ⟨rfl,rfl,λ_=>rfl⟩
 | [],_ :: _,_,_,h=>by cases h
 | _ :: _,[],_,_,h=>by cases h
 | x :: es,p :: m,n,i,h=>by
   simp only[List.map_cons,List.cons.injEq,Prod.mk.injEq]at h
   obtain⟨⟨h1,h2⟩,h3⟩:=h
   unfold Instr.findNow
   have hs:Instr.sameNow (.int .i64) (.int .i64 n) x.key=some (n==p.1):=by rw[h1];simp[Instr.sameNow]
   rw[hs]
   by_cases hn:n=p.1
   . right
     refine⟨0,p.2,?_,?_,by simp,⟨x,rfl,by rw[h1,hn]⟩,λb=>?_⟩
     . simp[hn,h2]
     . unfold zsd;rw[decide_eq_true hn];rfl
     . unfold zm8;rw[decide_eq_true hn];rfl
   . have hb:(n==p.1)=false:=by simpa using hn
     rw[hb]
     simp only
     rcases z8f (n:=n) (i:=i+1) h3 with ⟨g1,g2,g3⟩ | ⟨j,v,g1,g2,g3,g4,g5⟩
     . refine .inl ⟨g1,?_,λb=>?_⟩
       . unfold zsd;rw[decide_eq_false hn];exact g2
       . unfold zm8;rw[decide_eq_false hn];simp only[cond_false,g3,List.cons_append]
     . refine .inr ⟨j+1,v,?_,?_,by simpa using g3,by simpa using g4,λb=>?_⟩
       . rw[g1];congr 3;omega
       . unfold zsd;rw[decide_eq_false hn];exact g2
       . unfold zm8;rw[decide_eq_false hn];simp only[cond_false,g5,List.set_cons_succ]
theorem run_findKey'{P:Program}{kt:TypeId}{d:TypeDesc}{k:Value}{l:List MapEntry}{a:Option (Nat×Value)}(hd:P.underlying kt=some d)(h:Instr.findNow d k l 0=some a):(Instr.findKey kt k l).run P w=.ok a w:=by
 unfold Instr.findKey
 simp only[Sem.run_bind,zi hd,Result.andThen_ok,h,Sem.run_pure]
theorem z8w{P:Program}{kt:TypeId}{b:Bool}{n:Int}(hd:P.underlying kt=some (.int .i64)):(Instr.checkKey b 10000 kt (.int .i64 n)).run P w=.ok () w:=by
 unfold Instr.checkKey
 simp only[Sem.run_bind,zi hd,Result.andThen_ok,Sem.run_pure]
theorem Z54{P:Program}{t:TypeId}{i:TypeInfo}{z:Value}(hi:P.info? t=some i)(hz:i.zero=some z):(zeroValue t).run P w=.ok z w:=by
 simp[zeroValue,typeInfo,hi,hz]
theorem znp(hR:Rel C B e h a w){t:TypeId}{x ix:Operand}(ho:o.op=.lookup t x ix false)(hk:Zg C o e h K):o.wpIn (Ye ro) nn C.P a w (Qe C B o e K) Q:=by
 unfold Zg at hk;rw[ho]at hk;simp only at hk
 replace hk:=Z6 hR hk
 obtain⟨kt,vt,i,hu,hkt,hi,hz,hk⟩:=zhq hk
 rcases zd4 hR hk with ⟨s,m,b,el,rfl,hm,hk,h1,h1',⟨es,clock,h2,h3⟩,_⟩ | hk
 . split at hk
   . rename_i n hn
     refine yc (w':=w) ?_ (zw hR hk)
     simp only[execOp,ho,qj h1,hn,Instr.lookup,Sem.run_bind,zi hu,Result.andThen_ok,z8x h2,Sem.run_pure,z8w hkt]
     rcases z8f (n:=n) (i:=0) h3 with ⟨g1,g2,_⟩ | ⟨j,v,g1,g2,_⟩
     . simp only[run_findKey' hkt g1,Result.andThen_ok,Sem.run_bind,Z54 hi hz,Sem.run_pure,g2]
       rfl
     . simp only[run_findKey' hkt g1,Result.andThen_ok,Sem.run_bind,Sem.run_pure,g2]
       rfl
   . exact hk.elim
 . exact hk.elim
theorem zin{b:Nat}{es:Array MapEntry}{c:Nat}{o':Obj}(hb:w.heap[b]?=some (.map es c)):(setObj b o').run C.P w=.ok () (Vf w b o'):=by
 have hlt:=Xg hb
 simp[setObj,Sem.run,hb,Vf]
theorem zgy(hR:Rel C B e h a w){t:TypeId}{x k y:Operand}(ho:o.op=.mapUpdate t x k y)(hk:Zg C o e h K):o.wpIn (Ye ro) nn C.P a w (Qe C B o e K) Q:=by
 unfold Zg at hk;rw[ho]at hk;simp only at hk
 replace hk:=Z6 hR (Z6 hR hk)
 obtain⟨kt,vt,i,hu,hkt,hi,hz,hk⟩:=zhq hk
 rcases zd4 hR hk with ⟨s,m,b,el,rfl,hm,hk,h1,h1',⟨es,clock,h2,h3⟩,_⟩ | hk
 . split at hk
   . rename_i n v hn hv hd
     have hlt:=Xg h2
     have fin:∀es' clock',(execOp a.eval o).run C.P w=.ok .skip (Vf w b (.map es' clock'))->es'.toList.map (λx=>(x.key,x.val))=(zm8 m n v).map (λp=>((.int .i64 p.1:Value),(.bool p.2:Value))) ->
      o.wpIn (Ye ro) nn C.P a w (Qe C B o e K) Q:=λes' clock' hrun hes=>by
      refine zgf hrun ⟨_,_,hk,?_,λd' hd'=>?_⟩
      . rw[hd]
        exact hR.setHid (y:=.mp (zm8 m n v)) (el:=0) hm rfl rfl (λ_=>rfl) (λ_ hh=>by cases hh) (λ_ hh=>by cases hh) h1' ⟨es',clock',z2k hlt,hes⟩ (λq hq=>z3v hq) z4s rfl rfl rfl (Nat.le_refl _)
      . simp only[Up.dst,Option.some.injEq]at hd';subst hd';simp[Yh,ho]
     rcases z8f (n:=n) (i:=0) h3 with ⟨g1,_,g2⟩ | ⟨j,u,g1,_,g3,⟨q,g4,g5⟩,g6⟩
     . refine fin (es.push { key:=.int .i64 n,val:=.bool v,born:=clock }) (clock+1) ?_ ?_
       . simp only[execOp,ho,qj h1,hn,hv,Instr.mapUpdate,Sem.run_bind,zi hu,Result.andThen_ok,z8x h2,Sem.run_pure,z8w hkt,run_findKey' hkt g1,zin h2]
       . rw[g2,Array.toList_push,List.map_append,List.map_append,h3];rfl
     . rw[Nat.zero_add]at g1
       have hq:es[j]?=some q:=by rw[<-Array.getElem?_toList];exact g4
       refine fin (es.modify j λx=>{ x with key:=.int .i64 n,val:=.bool v }) clock ?_ ?_
       . have hst:∀W:World,(Instr.keyThatStays (.int .i64 n) (.int .i64 n)).run C.P W=.ok (.int .i64 n) W:=λW=>by
          unfold Instr.keyThatStays
          rw[if_pos (by simp[Instr.sameBits])]
          rfl
         simp only[execOp,ho,qj h1,hn,hv,Instr.mapUpdate,Sem.run_bind,zi hu,Result.andThen_ok,z8x h2,Sem.run_pure,z8w hkt,run_findKey' hkt g1,hq,Option.map_some,Option.getD_some,g5,hst,zin h2]
       . rw[g6]
         apply List.ext_getElem?
         intro z
         have h3z:=congrArg (λl=>l[z]?) h3
         simp only[List.getElem?_map,Array.getElem?_toList,Array.getElem?_modify,List.getElem?_set]at h3z |-
         by_cases hjz:j=z
         . subst hjz
           simp[hq,g3]
         . simp only[hjz,if_false]
           exact h3z
   . exact hk.elim
 . exact hk.elim
theorem zyo(hR:Rel C B e h a w){c:Call}{x:Operand}(ho:o.op=.call c)(hf:c.callee=.builtin .cap)(hx:c.args.toList=[x])
 (hk:Qg C .cap c.argTypes.toList [x] e h o.dst K):o.wpIn (Ye ro) nn C.P a w (Qe C B o e K) Q:=by
 unfold Qg at hk
 simp only at hk
 replace hk:=Z6 hR hk
 have hargs:c.args=#[x]:=by rw[<-Array.toList_inj];exact hx
 split at hk
 . rename_i ad n c' t hv ht
   have htypes:c.argTypes=#[t]:=by rw[<-Array.toList_inj];exact ht
   split at hk
   . rename_i hu
     refine yc (w':=w) ?_ (zw hR hk)
     simp only[execOp,ho,resolve,hf,hargs,htypes,Sem.run_bind,Sem.run_pure,Result.andThen_ok,invoke,builtin,Builtin.cap_]
     simp[hv,zi hu,goInt]
   . exact hk.elim
 . exact hk.elim
theorem zyq(hR:Rel C B e h a w){c:Call}{x y:Operand}(ho:o.op=.call c)(hf:c.callee=.builtin .max)(hx:c.args.toList=[x,y])
 (hk:Qg C .max c.argTypes.toList [x,y] e h o.dst K):o.wpIn (Ye ro) nn C.P a w (Qe C B o e K) Q:=by
 unfold Qg at hk
 simp only at hk
 replace hk:=Z6 hR (Z6 hR hk)
 have hargs:c.args=#[x,y]:=by rw[<-Array.toList_inj];exact hx
 generalize hu:a.eval x=u at hk
 generalize hv:a.eval y=v at hk
 unfold Zja at hk
 split at hk
 . rename_i k p k' q heq
   simp only[List.cons.injEq,and_true]at heq
   obtain⟨rfl,rfl⟩:=heq
   obtain⟨rfl,_⟩:=qr.1 hk
   refine yc (w':=w) ?_ (zw hR (qr.1 hk).2)
   simp[execOp,ho,resolve,hf,hargs,invoke,builtin,Builtin.max_,hu,hv,Builtin.max2,zje]
 . exact hk.elim
theorem zyr(hR:Rel C B e h a w){c:Call}{x y:Operand}(ho:o.op=.call c)(hf:c.callee=.builtin .min)(hx:c.args.toList=[x,y])
 (hk:Qg C .min c.argTypes.toList [x,y] e h o.dst K):o.wpIn (Ye ro) nn C.P a w (Qe C B o e K) Q:=by
 unfold Qg at hk
 simp only at hk
 replace hk:=Z6 hR (Z6 hR hk)
 have hargs:c.args=#[x,y]:=by rw[<-Array.toList_inj];exact hx
 generalize hu:a.eval x=u at hk
 generalize hv:a.eval y=v at hk
 unfold Zjb at hk
 split at hk
 . rename_i k p k' q heq
   simp only[List.cons.injEq,and_true]at heq
   obtain⟨rfl,rfl⟩:=heq
   obtain⟨rfl,_⟩:=qr.1 hk
   refine yc (w':=w) ?_ (zw hR (qr.1 hk).2)
   simp[execOp,ho,resolve,hf,hargs,invoke,builtin,Builtin.min_,hu,hv,Builtin.min2,zws]
 . exact hk.elim
theorem zqf(hR:Rel C B e h a w){t t2 ty el el2:TypeId}{i:TypeInfo}{z:Value}{s:Sl}{y:Value}{n:Nat}{new:List Value}
 (hu:C.P.underlying t=some (.slice el)) (hu2:C.P.underlying t2=some (.slice el2)) (hi:C.P.info? el=some i) (hz:∀w,(zeroValue el).run C.P w=.ok z w)
 (hsz:z.cells.size=i.size) (hy:∀w',(Builtin.lenOf y).run C.P w'=.ok n w')
 (hnew:∀w',w'.heap=w.heap->(Builtin.firstCells i.size n y).run C.P w'=.ok new.toArray w') {K:Sl->Hp->Prop}
 (hk:zl0 el i.size i.bytes z.cells.toList s n new K h) :
 ∃r h' w',K r h'/\(Builtin.append_ #[t,t2] ty #[.slice s.a s.len s.cap,y]).run C.P w=.ok (.slice r.a r.len r.cap) w'/\Sub h' w'/\Fr h w w' /\
  (∀k,h' k≠none->h k=none->w.heap.size<=k):=by
 obtain⟨g1,g2,g3,g4⟩:=hk
 by_cases hfit:s.len+n<=s.cap
 . have hst:=g3 hfit
   cases hsa:s.a with
   | none=>
     rw[hsa]at hst
     refine⟨_,h,w,hst,?_,hR.sub,Fr.refl h w,λk h1 h2=>absurd h2 h1⟩
     simp[Builtin.append_,zi hu,zi hu2,yj hi,hy,hfit,hnew w rfl]
   | some sa=>
     rw[hsa]at hst
     obtain⟨h',w',hK,hrun,hs',hf,hd⟩:=zb7 (C:=C) hR.sub hst
     refine⟨_,h',w',hK,?_,hs',hf,hd⟩
     simp[Builtin.append_,zi hu,zi hu2,yj hi,hy,hfit,hnew w rfl,hrun]
 . obtain⟨old,hold,hall⟩:=g4 (by omega)
   have hcut:∀q,(Question.appendCap (s.len+n) s.cap el).cut q=s.len+n+q % (2 ^ 63-(s.len+n)):=λq=>rfl
   generalize hncd:(Question.appendCap (s.len+n) s.cap el).cut (w.tape w.drawn (.appendCap (s.len+n) s.cap el))=nc
   have hnc:s.len+n<=nc:=by rw[<-hncd,hcut];omega
   have hR1:=hR.drew
   have hR2:=hR1.alloc (old++new++ye (nc-(s.len+n)) z.cells.toList) el
   have hfr:h w.heap.size=none:=hR.sub.fresh (Nat.le_refl _)
   refine⟨_,_,_,hall w.heap.size nc hnc hfr,?_,hR2.sub,?_,?_⟩
   . have hcap:=zc5 (show s.cap<s.len+n by omega)
     have hb:¬(Builtin.nextslicecap (s.len+n) s.cap*i.bytes>2 ^ 48):=by
      have:=Nat.mul_le_mul_right i.bytes hcap
      have h3:2*(s.len+n)*i.bytes=2*((s.len+n)*i.bytes):=by rw[Nat.mul_assoc]
      omega
     have hbig:¬(((s.len+n:Nat):Int)>i64.max):=by
      intro h1
      simp[IntKind.max,IntKind.signed,IntKind.bits]at h1
      omega
     have hold':∀w',w'.heap=w.heap->(Builtin.firstCells i.size s.len (.slice s.a s.len s.cap)).run C.P w'=.ok old.toArray w':=by
      intro w' hw
      have hsub:Sub h w':=λk b hb=>by rw[hw];exact hR.sub k b hb
      cases hsa:s.a with
      | none=>
        rw[hsa]at hold
        simp only[Z0]at hold
        split at hold
        . simp only[Option.some.injEq]at hold;subst hold;simp[Builtin.firstCells]
        . cases hold
      | some sa=>
        rw[hsa]at hold
        simp only[Builtin.firstCells]
        exact W4 hsub hold
     have hzc:Builtin.zeroCells z.cells (nc-(s.len+n))=(ye (nc-(s.len+n)) z.cells.toList).toArray:=z3u
     have hforced:(Question.appendCap (s.len+n) s.cap el).forced=false:=rfl
     have hty:(typeInfo el).run C.P w=.ok i w:=by simp[typeInfo,hi]
     have hty':(typeInfo el).run C.P { w with drawn:=w.drawn+1 }=.ok i { w with drawn:=w.drawn+1 }:=by simp[typeInfo,hi]
     simp only[Builtin.append_,Sem.run_bind,zi hu,zi hu2,yj hi,hy,Result.andThen_ok,List.getElem?_toArray,List.getElem?_cons_zero,List.getElem?_cons_succ,Sem.run_pure,
      Bool.false_eq_true,if_false,hfit,hty,false_or]
     rw[if_neg (by rintro⟨h1,_⟩;exact hbig h1)]
     simp only[Sem.run_bind,hty,Result.andThen_ok]
     rw[if_neg hb]
     simp only[Sem.run_bind,run_choose,hforced,Bool.false_eq_true,if_false,Result.andThen_ok,hncd,hty',run_askRoom,hold' { w with drawn:=w.drawn+1 } rfl,hnew { w with drawn:=w.drawn+1 } rfl,hz,hzc,Vx,Sem.run_pure,Bool.not_false,if_true]
     simp
   . have f1:=zct h w
     have f2:=Fr.alloc h { w with drawn:=w.drawn+1 } (.cells (old++new++ye (nc-(s.len+n)) z.cells.toList).toArray el (0,0))
     exact⟨Nat.le_trans f1.1 f2.1,λk hk1 hk2=>(f2.2.1 k hk1 hk2).trans (f1.2.1 k hk1 hk2),rfl,rfl,rfl,Nat.le_succ _⟩
   . intro k h1 h2
     by_cases hkb:k=w.heap.size
     . omega
     . rw[Hp.ins_ne hkb]at h1;exact absurd h2 h1
theorem znb(hR:Rel C B e h a w){t t2 ty el:TypeId}{i:TypeInfo}{z:Value}{s:Sl}{y:Value}{n:Nat}{new:List Value}
 (hu:C.P.underlying t=some (.slice el)) (hu2:C.P.underlying t2=some .string) (hi:C.P.info? el=some i) (hz:∀w,(zeroValue el).run C.P w=.ok z w)
 (hsz:z.cells.size=i.size) (hy:∀w',(Builtin.lenOf y).run C.P w'=.ok n w')
 (hnew:∀w',w'.heap=w.heap->(Builtin.firstCells i.size n y).run C.P w'=.ok new.toArray w') {K:Sl->Hp->Prop}
 (hk:zl0 el i.size i.bytes z.cells.toList s n new K h) :
 ∃r h' w',K r h'/\(Builtin.append_ #[t,t2] ty #[.slice s.a s.len s.cap,y]).run C.P w=.ok (.slice r.a r.len r.cap) w'/\Sub h' w'/\Fr h w w' /\
  (∀k,h' k≠none->h k=none->w.heap.size<=k):=by
 obtain⟨g1,g2,g3,g4⟩:=hk
 by_cases hfit:s.len+n<=s.cap
 . have hst:=g3 hfit
   cases hsa:s.a with
   | none=>
     rw[hsa]at hst
     refine⟨_,h,w,hst,?_,hR.sub,Fr.refl h w,λk h1 h2=>absurd h2 h1⟩
     simp[Builtin.append_,zi hu,zi hu2,yj hi,hy,hfit,hnew w rfl]
   | some sa=>
     rw[hsa]at hst
     obtain⟨h',w',hK,hrun,hs',hf,hd⟩:=zb7 (C:=C) hR.sub hst
     refine⟨_,h',w',hK,?_,hs',hf,hd⟩
     simp[Builtin.append_,zi hu,zi hu2,yj hi,hy,hfit,hnew w rfl,hrun]
 . obtain⟨old,hold,hall⟩:=g4 (by omega)
   have hcut:∀q,(Question.appendCap (s.len+n) s.cap el).cut q=s.len+n+q % (2 ^ 63-(s.len+n)):=λq=>rfl
   generalize hncd:(Question.appendCap (s.len+n) s.cap el).cut (w.tape w.drawn (.appendCap (s.len+n) s.cap el))=nc
   have hnc:s.len+n<=nc:=by rw[<-hncd,hcut];omega
   have hR1:=hR.drew
   have hR2:=hR1.alloc (old++new++ye (nc-(s.len+n)) z.cells.toList) el
   have hfr:h w.heap.size=none:=hR.sub.fresh (Nat.le_refl _)
   refine⟨_,_,_,hall w.heap.size nc hnc hfr,?_,hR2.sub,?_,?_⟩
   . have hcap:=zc5 (show s.cap<s.len+n by omega)
     have hb:¬(Builtin.nextslicecap (s.len+n) s.cap*i.bytes>2 ^ 48):=by
      have:=Nat.mul_le_mul_right i.bytes hcap
      have h3:2*(s.len+n)*i.bytes=2*((s.len+n)*i.bytes):=by rw[Nat.mul_assoc]
      omega
     have hbig:¬(((s.len+n:Nat):Int)>i64.max):=by
      intro h1
      simp[IntKind.max,IntKind.signed,IntKind.bits]at h1
      omega
     have hold':∀w',w'.heap=w.heap->(Builtin.firstCells i.size s.len (.slice s.a s.len s.cap)).run C.P w'=.ok old.toArray w':=by
      intro w' hw
      have hsub:Sub h w':=λk b hb=>by rw[hw];exact hR.sub k b hb
      cases hsa:s.a with
      | none=>
        rw[hsa]at hold
        simp only[Z0]at hold
        split at hold
        . simp only[Option.some.injEq]at hold;subst hold;simp[Builtin.firstCells]
        . cases hold
      | some sa=>
        rw[hsa]at hold
        simp only[Builtin.firstCells]
        exact W4 hsub hold
     have hzc:Builtin.zeroCells z.cells (nc-(s.len+n))=(ye (nc-(s.len+n)) z.cells.toList).toArray:=z3u
     have hforced:(Question.appendCap (s.len+n) s.cap el).forced=false:=rfl
     have hty:(typeInfo el).run C.P w=.ok i w:=by simp[typeInfo,hi]
     have hty':(typeInfo el).run C.P { w with drawn:=w.drawn+1 }=.ok i { w with drawn:=w.drawn+1 }:=by simp[typeInfo,hi]
     simp only[Builtin.append_,Sem.run_bind,zi hu,zi hu2,yj hi,hy,Result.andThen_ok,List.getElem?_toArray,List.getElem?_cons_zero,List.getElem?_cons_succ,Sem.run_pure,
      Bool.false_eq_true,if_false,hfit,hty,false_or]
     rw[if_neg (by rintro⟨h1,_⟩;exact hbig h1)]
     simp only[Sem.run_bind,hty,Result.andThen_ok]
     rw[if_neg hb]
     simp only[Sem.run_bind,run_choose,hforced,Bool.false_eq_true,if_false,Result.andThen_ok,hncd,hty',run_askRoom,hold' { w with drawn:=w.drawn+1 } rfl,hnew { w with drawn:=w.drawn+1 } rfl,hz,hzc,Vx,Sem.run_pure,Bool.not_false,if_true]
     simp
   . have f1:=zct h w
     have f2:=Fr.alloc h { w with drawn:=w.drawn+1 } (.cells (old++new++ye (nc-(s.len+n)) z.cells.toList).toArray el (0,0))
     exact⟨Nat.le_trans f1.1 f2.1,λk hk1 hk2=>(f2.2.1 k hk1 hk2).trans (f1.2.1 k hk1 hk2),rfl,rfl,rfl,Nat.le_succ _⟩
   . intro k h1 h2
     by_cases hkb:k=w.heap.size
     . omega
     . rw[Hp.ins_ne hkb]at h1;exact absurd h2 h1
theorem znc(hR:Rel C B e h a w){t t2 ty el:TypeId}{i:TypeInfo}{z:Value}{s:Sl}{k ik:IntKind}{m:Int}
 (hu:C.P.underlying t=some (.slice el)) (hu2:C.P.underlying t2=some (.int ik)) (hi:C.P.info? el=some i) (hz:∀w,(zeroValue el).run C.P w=.ok z w)
 (hsz:z.cells.size=i.size) (hne:i.size≠0) (hm:0<=m) {K:Sl->Hp->Prop}
 (hk:zl0 el i.size i.bytes z.cells.toList s m.toNat (ye m.toNat z.cells.toList) K h) :
 ∃r h' w',K r h'/\(Builtin.append_ #[t,t2] ty #[.slice s.a s.len s.cap,.int k m]).run C.P w=.ok (.slice r.a r.len r.cap) w'/\Sub h' w'/\Fr h w w' /\
  (∀k,h' k≠none->h k=none->w.heap.size<=k):=by
 obtain⟨n,rfl⟩:=Int.eq_ofNat_of_zero_le hm
 rw[Int.toNat_natCast]at hk
 obtain⟨g1,g2,g3,g4⟩:=hk
 have hwr:i64.wrap (n:Int)=n:=by
  simp only[IntKind.wrap,IntKind.bits,IntKind.signed]
  simp;omega
 have hnb:¬((n:Int)*(i.bytes:Int)>2 ^ 48):=by
  have:n*i.bytes<=(s.len+n)*i.bytes:=Nat.mul_le_mul_right _ (by omega)
  have h2:((n*i.bytes:Nat):Int)<=140737488355328:=by omega
  rw[Int.natCast_mul]at h2
  omega
 have hn0:¬((n:Int)<0):=by omega
 have hty:∀w',(typeInfo el).run C.P w'=.ok i w':=λw'=>by simp[typeInfo,hi]
 have hzc:∀n,Builtin.zeroCells z.cells n=(ye n z.cells.toList).toArray:=λn=>z3u
 have happ:∀w',((if n*i.size=0 then pure #[]else do pure (Builtin.zeroCells (<-zeroValue el).cells n)):Sem (Array Value)).run C.P w'=.ok (ye n z.cells.toList).toArray w':=λw'=>by
  split
  . rename_i h0
    have:n=0:=by
     rcases Nat.mul_eq_zero.1 h0 with h1 | h1
     . exact h1
     . exact absurd h1 hne
    subst this
    simp[ye]
  . simp[hz,hzc]
 have hint:∀w',(asInt (.int k (n:Int))).run C.P w'=.ok (n:Int) w':=λw'=>by simp[asInt,asIntOf]
 have hbig:¬(((s.len+n:Nat):Int)>i64.max):=by
  intro h1
  simp[IntKind.max,IntKind.signed,IntKind.bits]at h1
  omega
 by_cases hfit:s.len+n<=s.cap
 . have hst:=g3 hfit
   cases hsa:s.a with
   | none=>
     rw[hsa]at hst
     refine⟨_,h,w,hst,?_,hR.sub,Fr.refl h w,λk h1 h2=>absurd h2 h1⟩
     simp only[Builtin.append_,Sem.run_bind,zi hu,zi hu2,yj hi,Result.andThen_ok,List.getElem?_toArray,List.getElem?_cons_zero,List.getElem?_cons_succ,Sem.run_pure,hint,hwr,if_true,hty,if_neg hn0,if_neg hnb,Int.toNat_natCast,Bool.not_true,Bool.false_eq_true,if_false,hfit,happ]
   | some sa=>
     rw[hsa]at hst
     obtain⟨h',w',hK,hrun,hs',hf,hd⟩:=zb7 (C:=C) hR.sub hst
     refine⟨_,h',w',hK,?_,hs',hf,hd⟩
     simp only[Builtin.append_,Sem.run_bind,zi hu,zi hu2,yj hi,Result.andThen_ok,List.getElem?_toArray,List.getElem?_cons_zero,List.getElem?_cons_succ,Sem.run_pure,hint,hwr,if_true,hty,if_neg hn0,if_neg hnb,Int.toNat_natCast,Bool.not_true,Bool.false_eq_true,if_false,hfit,happ,hrun]
 . obtain⟨old,hold,hall⟩:=g4 (by omega)
   have hcut:∀q,(Question.appendCap (s.len+n) s.cap el).cut q=s.len+n+q % (2 ^ 63-(s.len+n)):=λq=>rfl
   generalize hncd:(Question.appendCap (s.len+n) s.cap el).cut (w.tape w.drawn (.appendCap (s.len+n) s.cap el))=nc
   have hnc:s.len+n<=nc:=by rw[<-hncd,hcut];omega
   have hR1:=hR.drew
   have hR2:=hR1.alloc (old++ye n z.cells.toList++ye (nc-(s.len+n)) z.cells.toList) el
   have hfr:h w.heap.size=none:=hR.sub.fresh (Nat.le_refl _)
   refine⟨_,_,_,hall w.heap.size nc hnc hfr,?_,hR2.sub,?_,?_⟩
   . have hcap:=zc5 (show s.cap<s.len+n by omega)
     have hb:¬(Builtin.nextslicecap (s.len+n) s.cap*i.bytes>2 ^ 48):=by
      have:=Nat.mul_le_mul_right i.bytes hcap
      have h3:2*(s.len+n)*i.bytes=2*((s.len+n)*i.bytes):=by rw[Nat.mul_assoc]
      omega
     have hold':∀w',w'.heap=w.heap->(Builtin.firstCells i.size s.len (.slice s.a s.len s.cap)).run C.P w'=.ok old.toArray w':=by
      intro w' hw
      have hsub:Sub h w':=λk b hb=>by rw[hw];exact hR.sub k b hb
      cases hsa:s.a with
      | none=>
        rw[hsa]at hold
        simp only[Z0]at hold
        split at hold
        . simp only[Option.some.injEq]at hold;subst hold;simp[Builtin.firstCells]
        . cases hold
      | some sa=>
        rw[hsa]at hold
        simp only[Builtin.firstCells]
        exact W4 hsub hold
     have hforced:(Question.appendCap (s.len+n) s.cap el).forced=false:=rfl
     simp only[Builtin.append_,Sem.run_bind,zi hu,zi hu2,yj hi,Result.andThen_ok,List.getElem?_toArray,List.getElem?_cons_zero,List.getElem?_cons_succ,Sem.run_pure,hint,hwr,if_true,hty,if_neg hn0,if_neg hnb,Int.toNat_natCast,Bool.not_true,Bool.false_eq_true,if_false,hfit]
     rw[if_neg (by rintro⟨h1,_⟩;exact hbig h1)]
     simp only[Sem.run_bind,hty,Result.andThen_ok]
     rw[if_neg hb]
     simp only[Sem.run_bind,run_choose,hforced,Bool.false_eq_true,if_false,Result.andThen_ok,hncd,hty,run_askRoom,hold' { w with drawn:=w.drawn+1 } rfl,happ,hz,hzc,Vx,Sem.run_pure]
     simp
   . have f1:=zct h w
     have f2:=Fr.alloc h { w with drawn:=w.drawn+1 } (.cells (old++ye n z.cells.toList++ye (nc-(s.len+n)) z.cells.toList).toArray el (0,0))
     exact⟨Nat.le_trans f1.1 f2.1,λk hk1 hk2=>(f2.2.1 k hk1 hk2).trans (f1.2.1 k hk1 hk2),rfl,rfl,rfl,Nat.le_succ _⟩
   . intro k h1 h2
     by_cases hkb:k=w.heap.size
     . omega
     . rw[Hp.ins_ne hkb]at h1;exact absurd h2 h1
end
end Den
end

section
namespace Den
open Go
variable {ro : Option Nat} {nn : Nat}
section
variable {C : Cfg} {B : Base} {e : Env} {h : Hp} {a : Act} {w : World} {K : Up → Hp → Prop} {o : Oper} {Q : Exit → Act → World → Prop}
theorem zx1{P:Program}{t:TypeId}{p:Prop}(hk:zop P t p):((∃e,P.underlying t=some (.slice e))\/P.underlying t=some .string)/\p:=by
 unfold zop at hk
 split at hk
 . rename_i e he;exact⟨.inl ⟨e,he⟩,hk⟩
 . rename_i he;exact⟨.inr he,hk⟩
 . exact hk.elim
theorem zno(hR:Rel C B e h a w){c:Call}{x y:Operand}(ho:o.op=.call c)(hf:c.callee=.builtin .append)(hx:c.args.toList=[x,y])
 (hk:Qg C .append c.argTypes.toList [x,y] e h o.dst K):o.wpIn (Ye ro) nn C.P a w (Qe C B o e K) Q:=by
 unfold Qg at hk
 simp only at hk
 have hargs:c.args=#[x,y]:=by rw[<-Array.toList_inj];exact hx
 split at hk
 . rename_i t t2 ht
   have htypes:c.argTypes=#[t,t2]:=by rw[<-Array.toList_inj];exact ht
   unfold Z98 at hk
   split at hk
   . rename_i ik hu2
     obtain⟨el,i,hu,hi,hk2⟩:=z0a hk
     obtain⟨i',z,hi',hz0,hk3,hz⟩:=z5v hk2
     obtain rfl:i=i':=by rw[hi]at hi';exact Option.some.inj hi'
     split at hk3
     . rename_i h1 h2
       have h1:=Nat.eq_of_beq_eq_true h1
       rw[Yf hi]at h1
       have h1':z.cells.size=i.size:=by simpa using h1
       have h2':i.size≠0:=λhh=>by rw[h1,hh]at h2;exact absurd h2 (by decide)
       replace hk3:=Z6 hR (Z6 hR hk3)
       split at hk3
       . rename_i ad n c' k m hv hu3
         rw[h1,z88 hi]at hk3
         obtain⟨r,h',w',hK,hrun,hs,hfr,hd⟩:=znc (ty:=o.type) hR hu hu2 hi hz h1' h2' hk3.1 (zqe (λ_ ht=>zmt ht) hk3.2) (k:=k)
         refine yc (w':=w') ?_ (zw (hR.step hs hfr hd) hK)
         simp only[execOp,ho,resolve,hf,hargs,htypes,Sem.run_bind,Sem.run_pure,Result.andThen_ok,invoke,builtin]
         have:(#[x,y].map a.eval)=#[.slice ad n c',.int k m]:=by simp[hv,hu3]
         rw[this,hrun]
         rfl
       . exact hk3.elim
     . exact hk3.elim
   obtain⟨hu2,hk1⟩:=zx1 hk
   obtain⟨el,i,hu,hi,hk2⟩:=z0a hk1
   obtain⟨i',z,hi',hz0,hk3,hz⟩:=z5v hk2
   obtain rfl:i=i':=by rw[hi]at hi';exact Option.some.inj hi'
   split at hk3
   . rename_i h1 h2
     have h1:=Nat.eq_of_beq_eq_true h1
     rw[Yf hi]at h1
     have h1':z.cells.size=i.size:=by simpa using h1
     replace hk3:=Z6 hR hk3
     split at hk3
     . rename_i ad n c' hv
       rw[h1,z88 hi]at hk3
       obtain⟨m,new,hk4,hl,hy,hnew⟩:=Z5d hR hk3
       obtain⟨r,h',w',hK,hrun,hs,hfr,hd⟩:=hu2.elim (λ⟨el2,hu2⟩=>zqf (ty:=o.type) hR hu hu2 hi hz h1' hy hnew (zqe (λ_ ht=>zmt ht) hk4)) (λhu2=>znb (ty:=o.type) hR hu hu2 hi hz h1' hy hnew (zqe (λ_ ht=>zmt ht) hk4))
       refine yc (w':=w') ?_ (zw (hR.step hs hfr hd) hK)
       simp only[execOp,ho,resolve,hf,hargs,htypes,Sem.run_bind,Sem.run_pure,Result.andThen_ok,invoke,builtin]
       have:(#[x,y].map a.eval)=#[.slice ad n c',a.eval y]:=by simp[hv]
       rw[this,hrun]
       rfl
     . exact hk3.elim
   . exact hk3.elim
 . exact hk.elim
theorem zvr(hR:Rel C B e h a w){c:Call}{x y:Operand}(ho:o.op=.call c)(hf:c.callee=.builtin .copy)(hx:c.args.toList=[x,y])
 (hk:Qg C .copy c.argTypes.toList [x,y] e h o.dst K):o.wpIn (Ye ro) nn C.P a w (Qe C B o e K) Q:=by
 unfold Qg at hk
 simp only at hk
 have hargs:c.args=#[x,y]:=by rw[<-Array.toList_inj];exact hx
 split at hk
 . rename_i t t2 ht
   have htypes:c.argTypes=#[t,t2]:=by rw[<-Array.toList_inj];exact ht
   obtain⟨el,i,hu,hi,hk2⟩:=z0a hk
   replace hk2:=Z6 hR (Z6 hR hk2)
   split at hk2
   . rename_i a1 l1 c1 a2 l2 c2 hv hu2
     obtain⟨l,hl,hst⟩:=hk2
     rw[Yf hi]at hl
     simp only at hl hst
     have hread:(Builtin.firstCells i.size (Nat.min l2 l1) (.slice a2 l2 c2)).run C.P w=.ok l.toArray w:=by
      cases a2 with
      | none=>
        simp only[Z0]at hl
        split at hl
        . simp only[Option.some.injEq]at hl;subst hl;simp[Builtin.firstCells]
        . cases hl
      | some sa=>
        simp only[Builtin.firstCells]
        exact W4 hR.sub hl
     have hev:(#[x,y].map a.eval)=#[.slice a1 l1 c1,.slice a2 l2 c2]:=by simp[hv,hu2]
     cases a1 with
     | none=>
       refine yc (w':=w) ?_ (zw hR hst)
       simp only[execOp,ho,resolve,hf,hargs,htypes,Sem.run_bind,Sem.run_pure,Result.andThen_ok,invoke,builtin,hev]
       simp[Builtin.copy_,zi hu,yj hi,Builtin.lenOf,hread,goInt]
     | some sa=>
       obtain⟨h',w',hK,hrun,hs',hf',hd⟩:=zb7 (C:=C) (ad:=sa.add 0) (vs:=l) (K:=λh'=>Qb C o.dst (.int .i64 ((Nat.min l2 l1:Nat):Int)) h' K) hR.sub hst
       refine yc (w':=w') ?_ (zw (hR.step hs' hf' hd) hK)
       have e0:sa.add 0=sa:=by cases sa;rfl
       rw[e0]at hrun
       simp only[execOp,ho,resolve,hf,hargs,htypes,Sem.run_bind,Sem.run_pure,Result.andThen_ok,invoke,builtin,hev]
       simp[Builtin.copy_,zi hu,yj hi,Builtin.lenOf,hread,goInt,hrun]
   . exact hk2.elim
 . exact hk.elim
theorem zqt(hR:Rel C B e h a w){c:Call}{x:Operand}(ho:o.op=.call c)(hf:c.callee=.builtin .clear)(hx:c.args.toList=[x])
 (hk:Qg C .clear c.argTypes.toList [x] e h o.dst K):o.wpIn (Ye ro) nn C.P a w (Qe C B o e K) Q:=by
 unfold Qg at hk
 simp only at hk
 have hargs:c.args=#[x]:=by rw[<-Array.toList_inj];exact hx
 split at hk
 . rename_i t ht
   have htypes:c.argTypes=#[t]:=by rw[<-Array.toList_inj];exact ht
   obtain⟨el,i,hu,hi,hk2⟩:=z0a hk
   obtain⟨i2,z,_,_,hk3,hz⟩:=z5v hk2
   replace hk3:=Z6 hR hk3
   split at hk3
   . rename_i ad l cp hv
     obtain⟨g0,g1⟩:=hk3
     have hev:(#[x].map a.eval)=#[.slice ad l cp]:=by simp[hv]
     by_cases hl:l=0
     . subst hl
       refine yc (w':=w) ?_ (zw hR (g0 rfl))
       simp only[execOp,ho,resolve,hf,hargs,htypes,Sem.run_bind,Sem.run_pure,Result.andThen_ok,invoke,builtin,hev]
       cases ad<;>simp[Builtin.clear_,zi hu]
     . have g2:=g1 hl
       obtain⟨m,rfl⟩:∃m,l=m+1:=⟨l-1,by omega⟩
       cases ad with
       | none=>
         refine yc (w':=w) ?_ (zw hR g2)
         simp only[execOp,ho,resolve,hf,hargs,htypes,Sem.run_bind,Sem.run_pure,Result.andThen_ok,invoke,builtin,hev]
         simp[Builtin.clear_,zi hu]
       | some sa=>
         obtain⟨h',w',hK,hrun,hs',hf',hd⟩:=zb7 (C:=C) (ad:=sa.add 0) (K:=λh'=>Qb C o.dst (.tuple #[]) h' K) hR.sub g2
         refine yc (w':=w') ?_ (zw (hR.step hs' hf' hd) hK)
         have e0:sa.add 0=sa:=by cases sa;rfl
         rw[e0]at hrun
         have hzc:Builtin.zeroCells z.cells (m+1)=(ye (m+1) z.cells.toList).toArray:=z3u
         simp only[execOp,ho,resolve,hf,hargs,htypes,Sem.run_bind,Sem.run_pure,Result.andThen_ok,invoke,builtin,hev]
         simp[Builtin.clear_,zi hu,hz,hzc,hrun]
   . exact hk3.elim
 . exact hk.elim
theorem z6x(hC:z96 C C.tab)(hR:Rel C B e h a w)(hk:Zg C o e h K):o.wpIn (Ye ro) nn C.P a w (Qe C B o e K) Q:=by
 cases ho:o.op with
 | move x=>exact zjv hR (.inl ho) hk
 | assign x=>exact zjv hR (.inr ho) hk
 | pick c x y=>exact zvt hR ho hk
 | alloc t=>exact zqp hR ho hk
 | box t x=>exact zyn hR ho hk
 | build t p=>exact zqr hR ho hk
 | buildSlice t n p=>exact zg1 hR ho hk
 | load t x=>exact zvs hR ho hk
 | store t x y=>exact zqx hR ho hk
 | nilCheck x=>exact zj9 hR ho hk
 | binOp op t x y t'=>exact zqq hR ho hk
 | unOp op t x=>exact zvu hR ho hk
 | convert s t x=>exact zla hR ho hk
 | makeFunc fn u v=>
   cases fn with
   | func g=>exact zj8 hR ho hk
   | _=>unfold Zg at hk;rw[ho]at hk;exact hk.elim
 | makeSlice t l c=>exact zgx hR ho hk
 | slice t x lo hi mx=>
   cases mx with
   | none=>exact zqw hR ho hk
   | some m=>
     cases hi with
     | none=>unfold Zg at hk;rw[ho]at hk;exact hk.elim
     | some u=>exact znq hR ho hk
 | fieldAddr t x f=>exact zgv hR ho hk
 | field t x f=>exact zqu hR ho hk
 | indexAddr t x ix=>exact zgw hR ho hk
 | index t x ix=>exact zqv hR ho hk
 | extract x i=>exact zlb hR ho hk
 | makeMap t r=>
   cases r with
   | none=>exact zlc hR ho hk
   | some m=>unfold Zg at hk;rw[ho]at hk;exact hk.elim
 | lookup t x ix ok=>
   cases ok with
   | false=>exact znp hR ho hk
   | true=>unfold Zg at hk;rw[ho]at hk;exact hk.elim
 | mapUpdate t x k y=>exact zgy hR ho hk
 | call c=>
   cases hc:c.callee with
   | value f=>exact zqs hC hR ho hc hk
   | invoke r m=>unfold Zg at hk;rw[ho]at hk;simp only[hc]at hk
   | builtin b=>
     unfold Zg at hk;rw[ho]at hk;simp only[hc]at hk
     have hk0:=hk
     unfold Qg at hk
     split at hk
     . rename_i x hx;rw[hx]at hk0;exact zyp hR ho hc hx hk0
     . rename_i x y hx;rw[hx]at hk0;exact zyq hR ho hc hx hk0
     . rename_i x y hx;rw[hx]at hk0;exact zyr hR ho hc hx hk0
     . rename_i x y hx;rw[hx]at hk0;exact zno hR ho hc hx hk0
     . rename_i x y hx;rw[hx]at hk0;exact zvr hR ho hc hx hk0
     . rename_i x hx;rw[hx]at hk0;exact zqt hR ho hc hx hk0
     . rename_i x hx;rw[hx]at hk0;exact zyo hR ho hc hx hk0
     . exact hk.elim
 | _=>unfold Zg at hk;rw[ho]at hk;exact hk.elim
end
def Zkp(s:Slot):Prop:=(∃cs,s=.box cs)\/(∃m,s=.mp m)\/s=.mr
def Wj(s s':Slot):Prop:=(Zkp s->s'=s)/\∀v,s=.val v->s'=.val v
theorem Wj.refl(s:Slot):Wj s s:=⟨λ_=>rfl,λ_ h=>h⟩
theorem Wj.trans{a b c:Slot}(h1:Wj a b)(h2:Wj b c):Wj a c:=by
 refine⟨λhh=>?_,λv hv=>h2.2 v (h1.2 v hv)⟩
 have:=h1.1 hh
 rw[this]at h2
 exact h2.1 hh
section
variable {C : Cfg} {B : Base}
theorem zd2{e:Env}{u:Up}{t:Nat}(ht:∀d,u.dst=some d->t≠d):Wj (e t) (e.upd C.rt u t):=by
 cases u with
 | none=>exact Wj.refl _
 | set d s=>simp only[Env.upd,Env.set_ne (ht d rfl)];exact Wj.refl _
 | alloc d s=>
   simp only[Env.upd]
   refine⟨λhb=>?_,λv hv=>?_⟩
   . rcases hb with ⟨cs,h2⟩ | ⟨m,h2⟩ | h2
     . exact Env.alloc_ne (ht d rfl) (by intro o ho;rw[h2]at ho;cases ho)
     . exact Env.alloc_ne (ht d rfl) (by intro o ho;rw[h2]at ho;cases ho)
     . exact Env.alloc_ne (ht d rfl) (by intro o ho;rw[h2]at ho;cases ho)
   . rw[Env.alloc_ne (ht d rfl) (by intro o ho;rw[hv]at ho;cases ho)];exact hv
def zgg(C:Cfg)(B:Base)(ms:List Nat)(e:Env)(K:Env->Hp->Prop):Exit->Act->World->Prop:=λx a' w'=>
 x=.normal/\∃e' h',K e' h'/\Rel C B e' h' a' w'/\∀t,t∉ms->Wj (e t) (e' t)
theorem zfw{ops:Array Oper}{o:Oper}{tmps:Array Value}(hg:o.guard=none):Region.wanted o (yielded ops tmps)=true:=by
 simp[Region.wanted,hg]
theorem zfv{ops:Array Oper}{o:Oper}{tmps:Array Value}{j d:Nat}{want t:Bool}(hg:o.guard=some (j,want))(hd:(ops[j]?).bind (·.dst)=some d)
 (ht:tmps[d]?=some (.bool t)):Region.wanted o (yielded ops tmps)=(t==want):=by
 simp only[Region.wanted,hg,yielded,hd,Option.bind_some,ht]
 cases t<;>cases want<;>rfl
theorem zdp{ops:Array Oper}{o:Oper}{tmps:Array Value}{j d:Nat}{want:Bool}{vs:Array Value}(hg:o.guard=some (j,want))(hd:(ops[j]?).bind (·.dst)=some d)
 (ht:tmps[d]?=some (.tuple vs)):Region.wanted o (yielded ops tmps)=false:=by
 simp only[Region.wanted,hg,yielded,hd,Option.bind_some,ht]
 rfl
theorem zh0(hC:z96 C C.tab){ops:Array Oper}{K:Env->Hp->Prop}:∀{l:List Nat} {e:Env} {h:Hp} {a:Act} {w:World} {ms:List Nat} {Q:Exit->Act->World->Prop},
 (∀(i:Nat) (o:Oper),ops[i]?=some o->∀d∈Yh C o,d∈ms)->(∀x a w,zgg C B ms e K x a w->Q x a w) ->
 Rel C B e h a w->Wm C ops K l e h->wpOpsIn (Ye ro) nn C.P ops Q l a w
 | [],e,h,a,w,ms,Q,_,hQ,hR,hk=>hQ _ _ _ ⟨rfl,e,h,hk,hR,λ_ _=>Wj.refl _⟩
 | i :: r,e,h,a,w,ms,Q,hms,hQ,hR,hk=>by
   rw[wpOpsIn_cons]
   unfold Wm at hk
   unfold wpOpIn
   cases hi:ops[i]? with
   | none=>rw[hi]at hk;exact hk.elim
   | some o=>
     rw[hi]at hk;simp only at hk |-
     have rest:∀e1:Env,(∀t,e1 t=e t)->∀a' w',Qe C B o e1 (λu h'=>Wm C ops K r (e1.upd C.rt u) h') a' w'->wpOpsIn (Ye ro) nn C.P ops Q r a' w':=by
      rintro e1 he1 a' w' ⟨u,h',hk',hR',hd'⟩
      refine zh0 hC hms (λx a w hb=>hQ x a w ?_) hR' hk'
      obtain⟨hx,e',h'',q1,q2,q3⟩:=hb
      refine⟨hx,e',h'',q1,q2,λt ht=>?_⟩
      rw[<-he1 t]
      exact(zd2 λd hd hh=>ht (by rw[hh];exact hms i o hi d (hd' d hd))).trans (q3 t ht)
     cases hg:o.guard with
     | none=>
       rw[hg]at hk;simp only at hk
       rw[if_pos (zfw hg)]
       exact Oper.wpIn_mono (λa w ha=>rest e (λ_=>rfl) a w ha) (z6x hC hR hk)
     | some g=>
       obtain⟨j,want⟩:=g
       rw[hg]at hk;simp only at hk
       cases hd:(ops[j]?).bind (·.dst)with
       | none=>rw[hd]at hk;exact hk.elim
       | some d=>
         rw[hd]at hk;simp only at hk
         cases hl:C.loc d with
         | true=>
           rw[hl]at hk
           split at hk
           . contradiction
           . contradiction
           . exact hk.elim
         | false=>
           rw[hl]at hk
           split at hk
           . rename_i t _ hv
             have hset:∀b,t=b->e.set d (.val (.bool b))=e:=λb hb=>by
              subst hb;exact hR.setSame hv
             rw[zfv hg hd (hR.vals d _ hv)]
             cases t<;>cases want<;>simp only[ifP]at hk
             . rw[hset false rfl]at hk
               rw[if_pos (by decide)]
               exact Oper.wpIn_mono (λa w ha=>rest e (λ_=>rfl) a w ha) (z6x hC hR hk)
             . rw[hset false rfl]at hk
               rw[if_neg (by simp)]
               exact⟨λ_ _=>trivial,rest e (λ_=>rfl) _ _ (z75 hR hk)⟩
             . rw[hset true rfl]at hk
               rw[if_neg (by simp)]
               exact⟨λ_ _=>trivial,rest e (λ_=>rfl) _ _ (z75 hR hk)⟩
             . rw[hset true rfl]at hk
               rw[if_pos (by decide)]
               exact Oper.wpIn_mono (λa w ha=>rest e (λ_=>rfl) a w ha) (z6x hC hR hk)
           . rename_i vs _ hv
             rw[zdp hg hd (hR.vals d _ hv),if_neg (by simp)]
             exact⟨λ_ _=>trivial,rest e (λ_=>rfl) _ _ (z75 hR hk)⟩
           . exact hk.elim
end
end Den
end

section
namespace Den
open Go
abbrev PT:=Hp->(Up->Hp->Prop)->Prop
abbrev rng(M:Up->Prop)(u:Up):Prop:=M u
def Wd(C:Cfg)(o:Oper)(u:Up):Prop:=(∀d,u.dst=some d->d∈Yh C o)/\(∀d off,u=.set d (.ref off)->o.dst=some d)/\∀d off,u≠.alloc d (.ref off)
def zj0(M:Up->Prop)(dst:Option Nat):Prop:=M .none/\∀d,dst=some d->∀s,M (.set d s)/\((∀o,s≠.ref o)->M (.alloc d s))
def zq(M:Up->Prop)(T:PT):Prop:=∃p:Up->Prop,(∀u,p u->rng M u)/\∀h K,T h K↔∃u,p u/\K u h
def Qf(M:Up->Prop)(T:PT):Prop:=∃p:Up->Hp->Prop,(∀u h,p u h->rng M u)/\(∀u h h',p u h->Hp.le h h'->p u h')/\∀h K,T h K↔∃u,p u h/\K u h
def z01(M:Up->Prop)(T:PT):Prop:=∃(α:Type) (G:(α->Hp->Prop)->Hp->Prop) (q:α->Up->Prop),(∀r u,q r u->rng M u) /\
 ((∀h K,T h K↔zc G (λr h'=>∃u,q r u/\K u h') h)\/∀h K,¬T h K)
def z42(M:Up->Prop)(T:PT):Prop:=∃(P0:Prop) (c:List Value) (f:Nat->Up) (q:TypeId->Prop),(∃el,q el)/\(∀b,rng M (f b))/\∀h K,T h K↔P0/\∀b el,q el->h b=none->K (f b) (h.ins b ⟨c,el,(0,0)⟩)
def Zt(M:Up->Prop)(T:PT):Prop:=∀h K K',(∀u h,M u->K u h->K' u h)->T h K->T h K'
section
variable {M : Up → Prop}
theorem zj:zq M λ_ _=>False:=⟨λ_=>False,λ_ hh=>hh.elim,λh K=>⟨λhh=>hh.elim,λ⟨_,hh,_⟩=>hh⟩⟩
theorem z3q{u:Up}(hu:rng M u):zq M λh K=>K u h:=⟨λv=>v=u,λv hv=>hv▸hu,λh K=>⟨λhh=>⟨u,rfl,hh⟩,λ⟨_,e,hh⟩=>e▸hh⟩⟩
theorem Z4u{ι:Type}{T:ι->PT}(hT:∀i,zq M (T i)):zq M λh K=>∃i,T i h K:=by
 refine⟨λu=>∃i,(hT i).choose u,λu ⟨i,hi⟩=>(hT i).choose_spec.1 u hi,λh K=>⟨λ⟨i,hi⟩=>?_,λ⟨u,⟨i,hi⟩,hk⟩=>⟨i,?_⟩⟩⟩
 . obtain⟨u,h1,h2⟩:=((hT i).choose_spec.2 h K).1 hi
   exact⟨u,⟨i,h1⟩,h2⟩
 . exact((hT i).choose_spec.2 h K).2 ⟨u,hi,hk⟩
theorem Wg{c:Prop}{T:PT}(hT:zq M T):zq M λh K=>c/\T h K:=by
 obtain⟨p,h1,h2⟩:=hT
 refine⟨λu=>c/\p u,λu hu=>h1 u hu.2,λh K=>⟨λ⟨hc,hh⟩=>?_,λ⟨u,⟨hc,hu⟩,hk⟩=>⟨hc,(h2 h K).2 ⟨u,hu,hk⟩⟩⟩⟩
 obtain⟨u,hu,hk⟩:=(h2 h K).1 hh
 exact⟨u,⟨hc,hu⟩,hk⟩
theorem z7z{k k':IntKind}{T:PT}(hT:zq M T):zq M λh K=>z0h k k' (T h K):=by
 have:=Wg (c:=k=k') hT
 obtain⟨p,h1,h2⟩:=this
 exact⟨p,h1,λh K=>qr.trans (h2 h K)⟩
theorem yq{C:Cfg}{dst:Option Nat}{v:Value}(hd:zj0 M dst):zq M λh K=>Qb C dst v h K:=by
 unfold Qb
 cases dst with
 | none=>exact z3q hd.1
 | some d=>
   simp only
   split
   . exact z3q (hd.2 _ rfl _).1
   . exact zj
theorem zga{C:Cfg}{dst:Option Nat}{root off:Nat}(hd:zj0 M dst):zq M λh K=>zp3 C dst root off h K:=by
 unfold zp3
 cases dst with
 | none=>exact zj
 | some d=>
   simp only
   split
   . exact z3q (hd.2 _ rfl _).1
   . exact zj
theorem Z4x{C:Cfg}{dst:Option Nat}(hd:zj0 M dst):zq M λh K=>zbn C dst h K:=by
 unfold zbn
 cases dst with
 | none=>exact z3q hd.1
 | some d=>
   simp only
   split
   . exact z3q ((hd.2 _ rfl _).2 (λ_ hh=>by cases hh))
   . exact zj
   . exact yq hd
theorem Q5{e:Env}{x:Operand}{T:Value->PT}(hT:∀v,zq M (T v)):zq M λh K=>opv e x λv=>T v h K:=by
 unfold opv
 split
 . exact hT _
 . exact hT _
 . exact hT _
 . split
   . exact hT _
   . exact zj
theorem zdb{e:Env}:∀{l:List Operand} {T:List Value->PT},(∀v,zq M (T v))->zq M λh K=>z7v e l λv=>T v h K
 | [],T,hT=>hT []
 | x :: r,T,hT=>by
   unfold z7v
   exact Q5 λv=>zdb (l:=r) (T:=λvs=>T (v :: vs)) λvs=>hT _
theorem zdc{p:Option Addr}{T:Addr->PT}(hT:∀a,zq M (T a)):zq M λh K=>yu p λa=>T a h K:=by
 cases p with
 | none=>exact zj
 | some a=>exact hT a
theorem zmb{P:Program}{t:TypeId}{T:PT}(hT:zq M T):zq M λh K=>okT P t (T h K):=by
 unfold okT
 split
 . exact hT
 . exact zj
theorem zuy{n:Int}{len:Nat}{T:PT}(hT:zq M T):zq M λh K=>zba n len (T h K):=by
 unfold zba
 split
 . exact hT
 . exact zj
theorem zou{P:Program}{t:TypeId}{T:List Value->PT}(hT:∀a,zq M (T a)):zq M λh K=>z9b P t λa=>T a h K:=by
 unfold z9b
 split
 . split
   . exact hT _
   . exact zj
 . exact zj
theorem zep{P:Program}{t:TypeId}{T:TypeId->PT}(hT:∀a,zq M (T a)):zq M λh K=>elemOf? P t λa=>T a h K:=by
 unfold elemOf?
 split
 . split
   . exact hT _
   . exact zj
 . exact zj
theorem zi1{P:Program}{t:TypeId}{f:Nat}{T:Nat->PT}(hT:∀a,zq M (T a)):zq M λh K=>zak P t f λa=>T a h K:=by
 unfold zak
 split
 . split
   . split
     . exact zj
     . exact hT _
   . exact zj
 . exact zj
theorem Z4v{pl:Nat->Option (Nat×Nat)}{z:List Value}{ps:List (Nat×Value)}{T:List Value->PT}(hT:∀a,zq M (T a)):zq M λh K=>zk4 pl z ps λa=>T a h K:=by
 unfold zk4
 split
 . exact hT _
 . exact zj
theorem z4q{P:Program}{t:TypeId}{cs:List Value}{off:Nat}{T:Value->PT}(hT:∀a,zq M (T a)):zq M λh K=>z7x P t cs off λa=>T a h K:=by
 unfold z7x
 split
 . exact zj
 . split
   . exact hT _
   . exact zj
 . split
   . exact hT _
   . exact zj
theorem zkd:∀{n:Nat} {T:List Value->PT},(∀l,zq M (T l))->zq M λh K=>zm3 n λl=>T l h K
 | 0,_,hT=>hT []
 | n+1,T,hT=>Z4u λc=>zkd (n:=n) (T:=λl=>T (.pointer c :: l)) λl=>hT _
theorem zke{hint:Option (Nat×Nat)}{v:Value}{T:Value->PT}(hT:∀a,zq M (T a)):zq M λh K=>zsz hint v λa=>T a h K:=by
 cases hint with
 | none=>exact hT v
 | some p=>exact zkd λl=>Wg (hT _)
theorem Z8y{v:Value}{T:List Value->PT}(hT:∀a,zq M (T a)):zq M λh K=>Zbo v λa=>T a h K:=by
 cases v<;>first | exact hT _ | exact zj
theorem z8q{e:Env}{lo:Option Operand}{d:Int}{T:Int->PT}(hT:∀a,zq M (T a)):zq M λh K=>boP e lo d λa=>T a h K:=by
 unfold boP
 split
 . exact hT _
 . refine Q5 λv=>?_
   split
   . exact hT _
   . exact zj
theorem Zde{t:Bool}{S T:PT}(hS:zq M S)(hT:zq M T):zq M λh K=>ifP t (S h K) (T h K):=by
 cases t
 . exact hT
 . exact hS
theorem zx7{op:BinOp}{k k':IntKind}{a b:Int}{T:Value->PT}(hT:∀a,zq M (T a)):zq M λh K=>zm0 op k k' a b λv=>T v h K:=by
 cases op<;>simp only[zm0]<;>first
  | exact Wg (hT _)
  | exact z7z (Wg (hT _))
  | exact z7z (hT _)
theorem Z8z{P:Program}{t:TypeId}{op:BinOp}{x y:Value}{T:Value->PT}(hT:∀a,zq M (T a)):zq M λh K=>zy9 P t op x y λv=>T v h K:=by
 unfold zy9
 split
 . exact zx7 hT
 . split<;>first | exact Wg (hT _) | exact hT _ | exact zj
 . split<;>first | exact hT _ | exact zj
 . split<;>first | exact hT _ | exact zj
 . unfold Zd2
   split
   . split
     . split
       . refine z7z (z7z ?_)
         split<;>first | exact hT _ | exact zj
       . exact zj
     . exact zj
   . exact zj
 . exact zj
theorem Z4w{P:Program}{ix:Operand}{t:TypeId}{cs:List Value}{off:Nat}{T:Value->PT}(hT:∀a,zq M (T a)):zq M λh K=>zot P ix t cs off λv=>T v h K:=by
 unfold zot
 split
 . split
   . exact Z4u λx=>Wg (hT _)
   . exact zj
 . exact z4q hT
theorem Zdf{op:UnOp}{x:Value}{T:Value->PT}(hT:∀a,zq M (T a)):zq M λh K=>unP op x λv=>T v h K:=by
 unfold unP
 split<;>first | exact hT _ | exact zj
end
section
variable {C : Cfg} {o : Oper} {e : Env}
theorem zu:zj0 (Wd C o) o.dst:=by
 refine⟨⟨(λd hd=>by cases hd),(λd off hd=>by cases hd),(λd off hd=>by cases hd)⟩,λd hd s=>⟨⟨λd' hd'=>?_,λd' off hd'=>?_,(λd' off hd'=>by cases hd')⟩,
  λhs=>⟨λd' hd'=>?_,(λd' off hd'=>by cases hd'),λd' off hd'=>?_⟩⟩⟩
 . simp only[Up.dst,Option.some.injEq]at hd';subst hd';simp[Yh,hd]
 . simp only[Up.set.injEq]at hd';rw[<-hd'.1];exact hd
 . simp only[Up.dst,Option.some.injEq]at hd';subst hd';simp[Yh,hd]
 . simp only[Up.alloc.injEq]at hd';exact hs _ hd'.2
theorem Z90{M:Up->Prop}{P:Program}{t:TypeId}{T:PT}(hT:zq M T):zq M λh K=>zm7 P t (T h K):=by
 unfold zm7
 split
 . split
   . split
     . exact hT
     . exact zj
   . exact zj
 . exact zj
theorem zuz{M:Up->Prop}{x:Operand}{T:Nat->List (Int×Bool)->PT}{D:PT}(hT:∀s m,zq M (T s m))(hD:zq M D):zq M λh K=>zc1 C e x (λs m=>T s m h K) (D h K):=by
 unfold zc1
 split
 . split
   . split
     . exact hT _ _
     . exact zj
   . split
     . exact hT _ _
     . exact zj
   . exact hD
 . exact hD
theorem Z91{M:Up->Prop}{dst:Option Nat}{root:Nat}(hd:zj0 M dst):zq M λh K=>zst C dst root h K:=by
 unfold zst
 cases dst with
 | none=>exact zj
 | some d=>
   simp only
   split
   . exact z3q (hd.2 _ rfl _).1
   . exact zj
theorem zv0{M:Up->Prop}{dst:Option Nat}{x:Operand}(hd:zj0 M dst):zq M λh K=>zc1 C e x (λs _=>(match Vw s C.mapL with
 | true=>zst C dst s h K
 | false=>False)) (opv e x λv=>Qb C dst v h K):=by
 refine zuz (T:=λs _ h K=>(match Vw s C.mapL with
  | true=>zst C dst s h K
  | false=>False)) (D:=λh K=>opv e x λv=>Qb C dst v h K) (λs _=>?_) (Q5 λv=>yq hd)
 cases Vw s C.mapL with
 | true=>exact Z91 hd
 | false=>exact zj
theorem z8r{b:Builtin}(hb:b=.len\/b=.max\/b=.min\/b=.cap){ts:List TypeId}{xs:List Operand} :
 zq (Wd C o) λh K=>Qg C b ts xs e h o.dst K:=by
 unfold Qg
 split
 . refine zuz (λs m=>?_) ?_
   . split
     . exact Z90 (yq zu)
     . exact zj
   refine Q5 λv=>?_
   split
   . split
     . exact yq zu
     . exact zj
   . split
     . exact yq zu
     . exact zj
   . exact zj
 . refine Q5 λu=>Q5 λv=>?_
   cases u<;>cases v<;>first
    | exact zj
    | exact z7z (T:=λh K=>Qb C o.dst (.int _ (zje _ _)) h K) (yq zu)
 . refine Q5 λu=>Q5 λv=>?_
   cases u<;>cases v<;>first
    | exact zj
    | exact z7z (T:=λh K=>Qb C o.dst (.int _ (zws _ _)) h K) (yq zu)
 . rcases hb with hb | hb | hb | hb<;>cases hb
 . rcases hb with hb | hb | hb | hb<;>cases hb
 . rcases hb with hb | hb | hb | hb<;>cases hb
 . refine Q5 λv=>?_
   split
   . split
     . exact yq zu
     . exact zj
   . exact zj
 . exact zj
theorem z5r(hc:Wx C o=.pure):zq (Wd C o) λh K=>Zg C o e h K:=by
 unfold Wx at hc
 unfold Zg
 cases ho:o.op<;>simp only[ho]at hc |-<;>try (cases hc;done)
 case makeSlice t l c=>
  exfalso
  revert hc
  repeat' split
  all_goals (intro hc;cases hc)
 case load t x=>
  split
  . rename_i s
    simp only at hc
    split
    . exact z4q λv=>yq zu
    . split
      . exact z4q λv=>yq zu
      . exact zj
    . cases hl:C.loc (C.rt s)with
      | true=>exact zj
      | false=>rw[hl]at hc;cases hc
    . exact zj
  . exact zj
 case store t x y=>
  refine Q5 λv=>?_
  split
  . split
    . rename_i s
      simp only at hc
      split
      . split
        . exact z3q ⟨(λd hd=>by simp only[Up.dst,Option.some.injEq]at hd;subst hd;simp[Yh,ho]),(λd off hd=>by cases hd),(λd off hd=>by cases hd)⟩
        . exact zj
      . split
        . split
          . exact z3q ⟨(λd hd=>by simp only[Up.dst,Option.some.injEq]at hd;subst hd;simp[Yh,ho]),(λd off hd=>by cases hd),(λd off hd=>by cases hd)⟩
          . exact zj
        . exact zj
      . cases hl:C.loc (C.rt s)with
        | true=>exact zj
        | false=>rw[hl]at hc;cases hc
      . exact zj
    . exact zj
  . exact zj
 case move x=>exact zv0 zu
 case assign x=>exact zv0 zu
 case pick c x y=>
  refine Q5 λv=>?_
  split
  . exact Zde (Q5 λv=>yq zu) (Q5 λv=>yq zu)
  . exact zj
 case alloc t=>
  refine zou λcs=>?_
  unfold z36
  cases hd:o.dst with
  | none=>exact zj
  | some d=>
    rw[hd]at hc;simp only at hc |-
    cases hl:C.loc d with
    | false=>rw[hl]at hc;cases hc
    | true=>
      split
      . exact z3q ((zu.2 _ hd _).2 (λ_ hh=>by cases hh))
      . contradiction
      . exact zj
 case box t x=>
  refine Q5 λv=>?_
  unfold z36
  cases hd:o.dst with
  | none=>exact zj
  | some d=>
    rw[hd]at hc;simp only at hc |-
    cases hl:C.loc d with
    | false=>rw[hl]at hc;cases hc
    | true=>
      split
      . exact z3q ((zu.2 _ hd _).2 (λ_ hh=>by cases hh))
      . contradiction
      . exact zj
 case build t p=>
  refine zdb λvs=>?_
  split
  . exact yq zu
  . exact zj
 case buildSlice t n p=>
  refine zdb λvs=>zep λel=>zou λz=>?_
  split
  . refine Z4v λcs=>?_
    unfold z36
    cases hd:o.dst with
    | none=>exact zj
    | some d=>
      rw[hd]at hc;simp only at hc |-
      cases hl:C.loc d with
      | false=>rw[hl]at hc;cases hc
      | true=>
        split
        . exact z3q ((zu.2 _ hd _).2 (λ_ hh=>by cases hh))
        . contradiction
        . exact zj
  . exact zj
 case nilCheck x=>
  refine Q5 λv=>?_
  split
  . exact zdc λad=>yq zu
  . exact yq zu
  . exact zj
 case binOp op t x y t'=>exact Q5 λu=>Q5 λv=>Z8z λr=>yq zu
 case unOp op t x=>exact Q5 λu=>Zdf λr=>yq zu
 case convert s t x=>
  refine Q5 λv=>?_
  split
  . split
    . exact yq zu
    . exact zj
  . rename_i hu
    rw[hu]at hc;cases hc
  . rename_i hu
    rw[hu]at hc;cases hc
  . exact zj
 case makeFunc fn u v=>
  cases fn with
  | func g=>exact zdb λus=>zdb λvs=>yq zu
  | _=>exact zj
 case slice t x lo hi mx=>
  cases mx with
  | some m=>
    cases hi with
    | none=>exact zj
    | some hi=>
      refine Q5 λv=>?_
      split
      . refine zep λel=>z8q λl=>z8q λu=>z8q λm=>?_
        unfold zxm
        exact Wg (Wg (Wg (Wg (yq zu))))
      . exact zj
  | none=>
    refine Q5 λv=>?_
    split
    . split
      . refine z8q λl=>z8q λu=>?_
        unfold Yq
        exact Wg (Wg (Wg (yq zu)))
      . exact zj
    . refine zep λel=>z8q λl=>z8q λu=>?_
      unfold slP
      exact Wg (Wg (Wg (yq zu)))
    . split
      . refine zmb (zdc λad=>z8q λl=>z8q λu=>?_)
        unfold slP
        exact Wg (Wg (Wg (yq zu)))
      . exact zj
    . exact zj
 case fieldAddr t x f=>
  refine zi1 λoff=>?_
  split
  . split
    . exact zga zu
    . exact zga zu
    . exact zdc λad=>yq zu
    . exact zj
  . exact zj
 case field t x f=>
  refine zi1 λoff=>Q5 λv=>Z8y λcs=>?_
  split
  . split
    . exact z4q λr=>yq zu
    . exact zj
  . exact zj
 case indexAddr t x ix=>
  refine Q5 λiv=>?_
  split
  . split
    . refine zmb (Q5 λv=>?_)
      split
      . unfold zg
        exact Wg (Wg (zdc λad=>yq zu))
      . exact zj
    . refine zmb (zuy ?_)
      split
      . split
        . exact zga zu
        . exact zga zu
        . exact zdc λad=>yq zu
        . exact zj
      . exact yq zu
      . exact zj
    . exact zj
  . exact zj
 case index t x ix=>
  refine Q5 λiv=>Q5 λv=>?_
  split
  . split
    . unfold Qs
      exact Wg (Z4u λb=>Wg (yq zu))
    . exact zj
  . split
    . exact zmb (zuy (Z4w λr=>yq zu))
    . exact zj
  . exact zj
 case extract x i=>
  refine Q5 λv=>?_
  split
  . split
    . exact yq zu
    . exact zj
  . exact zj
 case call c=>
  cases hcal:c.callee with
  | builtin b=>
    rw[hcal]at hc
    simp only
    cases b with
    | len=>exact z8r (.inl rfl)
    | max=>exact z8r (.inr (.inl rfl))
    | min=>exact z8r (.inr (.inr (.inl rfl)))
    | cap=>exact z8r (.inr (.inr (.inr rfl)))
    | _=>cases hc
  | value f=>
    exfalso
    rw[hcal]at hc
    cases f with
    | func g=>
      simp only at hc
      cases hm:C.muts g<;>rw[hm]at hc<;>cases hc
    | _=>cases hc
  | invoke r m=>rw[hcal]at hc;cases hc
end
end Den
end

section
namespace Den
open Go
def z7n(T:PT):Prop:=∀h K,T h K->T h λu h'=>K u h'/\h.le h'
section
variable {Φ : PT → Prop} (hF : Φ fun _ _ => False)
include hF
theorem Wl{e:Env}{x:Operand}{T:Value->PT}(hT:∀v,Φ (T v)):Φ λh K=>opv e x λv=>T v h K:=by
 unfold opv
 split
 . exact hT _
 . exact hT _
 . exact hT _
 . split
   . exact hT _
   . exact hF
theorem zao{e:Env}:∀{l:List Operand} {T:List Value->PT},(∀v,Φ (T v))->Φ λh K=>z7v e l λv=>T v h K
 | [],T,hT=>hT []
 | x :: r,T,hT=>by
   unfold z7v
   exact Wl hF λv=>zao (l:=r) (T:=λvs=>T (v :: vs)) λvs=>hT _
theorem zl5{p:Option Addr}{T:Addr->PT}(hT:∀a,Φ (T a)):Φ λh K=>yu p λa=>T a h K:=by
 cases p with
 | none=>exact hF
 | some a=>exact hT a
theorem V7{P:Program}{t:TypeId}{T:List Value->PT}(hT:∀a,Φ (T a)):Φ λh K=>z9b P t λa=>T a h K:=by
 unfold z9b
 split
 . split
   . exact hT _
   . exact hF
 . exact hF
theorem z02{P:Program}{t:TypeId}{T:TypeId->PT}(hT:∀a,Φ (T a)):Φ λh K=>elemOf? P t λa=>T a h K:=by
 unfold elemOf?
 split
 . split
   . exact hT _
   . exact hF
 . exact hF
theorem zgr{pl:Nat->Option (Nat×Nat)}{z:List Value}{ps:List (Nat×Value)}{T:List Value->PT}(hT:∀a,Φ (T a)):Φ λh K=>zk4 pl z ps λa=>T a h K:=by
 unfold zk4
 split
 . exact hT _
 . exact hF
end
theorem zh{M:Up->Prop}:Zt M λ_ _=>False:=λ_ _ _ _ h=>h
theorem ql:z7n λ_ _=>False:=λ_ _ h=>h
theorem zq.mono{M:Up->Prop}{T:PT}(hT:zq M T):Zt M T:=by
 obtain⟨p,h1,h2⟩:=hT
 intro h K K' hk ht
 obtain⟨u,h3,h4⟩:=(h2 h K).1 ht
 exact(h2 h K').2 ⟨u,h3,hk _ _ (h1 _ h3) h4⟩
theorem zq.grow{M:Up->Prop}{T:PT}(hT:zq M T):z7n T:=by
 obtain⟨p,_,h2⟩:=hT
 intro h K ht
 obtain⟨u,h3,h4⟩:=(h2 h K).1 ht
 exact(h2 h _).2 ⟨u,h3,h4,Hp.le_refl h⟩
theorem Qf.mono{M:Up->Prop}{T:PT}(hT:Qf M T):Zt M T:=by
 obtain⟨p,h1,_,h2⟩:=hT
 intro h K K' hk ht
 obtain⟨u,h3,h4⟩:=(h2 h K).1 ht
 exact(h2 h K').2 ⟨u,h3,hk _ _ (h1 _ _ h3) h4⟩
theorem Qf.grow{M:Up->Prop}{T:PT}(hT:Qf M T):z7n T:=by
 obtain⟨p,_,_,h2⟩:=hT
 intro h K ht
 obtain⟨u,h3,h4⟩:=(h2 h K).1 ht
 exact(h2 h _).2 ⟨u,h3,h4,Hp.le_refl h⟩
theorem z26{α:Type}{G:(α->Hp->Prop)->Hp->Prop}{K K':α->Hp->Prop}{h:Hp}(hk:∀v h',K v h'->h.le h'->h'.Fin->K' v h')(hc:zc G K h):zc G K' h:=by
 obtain⟨D,O,Q,h1,h2,h3,h4⟩:=hc
 refine⟨D,O,Q,h1,h2,h3,λv D' hQ=>⟨(h4 v D' hQ).1,λhd hfin=>hk _ _ ((h4 v D' hQ).2 hd hfin) ?_ hfin⟩⟩
 rw[h2]
 exact Hp.add_mono (h4 v D' hQ).1 hd
theorem zqm{α:Type}{G:(α->Hp->Prop)->Hp->Prop}{K K':α->Hp->Prop}{h:Hp}(hk:∀v h',K v h'->K' v h')(hc:Y3 G K h):Y3 G K' h:=by
 obtain⟨D,O,Q,h1,h2,h3,h4⟩:=hc
 exact⟨D,O,Q,h1,h2,h3,λv D' hQ hd=>hk _ _ (h4 v D' hQ hd)⟩
theorem z01.mono{M:Up->Prop}{T:PT}(hT:z01 M T):Zt M T:=by
 obtain⟨α,G,q,h1,h2⟩:=hT
 intro h K K' hk ht
 rcases h2 with h2 | h2
 . refine(h2 h K').2 (z26 ?_ ((h2 h K).1 ht))
   rintro v h' ⟨u,h3,h4⟩ _ _
   exact⟨u,h3,hk _ _ (h1 _ _ h3) h4⟩
 . exact(h2 _ _ ht).elim
theorem z01.grow{M:Up->Prop}{T:PT}(hT:z01 M T):z7n T:=by
 obtain⟨α,G,q,_,h2⟩:=hT
 intro h K ht
 rcases h2 with h2 | h2
 . refine(h2 h _).2 (z26 ?_ ((h2 h K).1 ht))
   rintro v h' ⟨u,h3,h4⟩ hl _
   exact⟨u,h3,h4,hl⟩
 . exact(h2 _ _ ht).elim
def zvh(T:PT):Prop:=∀h K,h.Fin->T h K->T h λu h'=>K u h'/\h'.Fin
theorem zw8:zvh λ_ _=>False:=λ_ _ _ h=>h
theorem zq.fin{M:Up->Prop}{T:PT}(hT:zq M T):zvh T:=by
 obtain⟨p,_,h2⟩:=hT
 intro h K hf ht
 obtain⟨u,h3,h4⟩:=(h2 h K).1 ht
 exact(h2 h _).2 ⟨u,h3,h4,hf⟩
theorem Qf.fin{M:Up->Prop}{T:PT}(hT:Qf M T):zvh T:=by
 obtain⟨p,_,_,h2⟩:=hT
 intro h K hf ht
 obtain⟨u,h3,h4⟩:=(h2 h K).1 ht
 exact(h2 h _).2 ⟨u,h3,h4,hf⟩
theorem z01.fin{M:Up->Prop}{T:PT}(hT:z01 M T):zvh T:=by
 obtain⟨α,G,q,_,h2⟩:=hT
 intro h K _ ht
 rcases h2 with h2 | h2
 . refine(h2 h _).2 (z26 ?_ ((h2 h K).1 ht))
   rintro v h' ⟨u,h3,h4⟩ _ hf
   exact⟨u,h3,h4,hf⟩
 . exact(h2 _ _ ht).elim
theorem z42.fin{M:Up->Prop}{T:PT}(hT:z42 M T):zvh T:=by
 obtain⟨P0,c,f,q,_,_,h2⟩:=hT
 intro h K hf ht
 obtain⟨h3,h4⟩:=(h2 h K).1 ht
 exact(h2 h _).2 ⟨h3,λb el hq hb=>⟨h4 b el hq hb,hf.ins⟩⟩
theorem zhs{M:Up->Prop}(hM:M .none):z42 M λ_ _=>False:=⟨False,[],λ_=>.none,λ_=>True,⟨0,trivial⟩,λ_=>hM,λ_ _=>⟨λh=>h.elim,λh=>h.1.elim⟩⟩
section
variable {C : Cfg} {o : Oper} {e : Env}
theorem zq.load{M:Up->Prop}{T:PT}(hT:zq M T):Qf M T:=by
 obtain⟨p,h1,h2⟩:=hT
 exact⟨λu _=>p u,λu _ hu=>h1 u hu,λ_ _ _ hu _=>hu,h2⟩
theorem Z45{M:Up->Prop}{l:Lf}{a:Addr}{T:l.T->PT}(hT:∀x,Qf M (T x)):Qf M λh K=>ldL l a (λx=>T x h K) h:=by
 refine⟨λu h=>∃x,h.cell a=some (l.up x)/\(hT x).choose u h,λu h ⟨x,_,hx⟩=>(hT x).choose_spec.1 u h hx,
  λu h h' ⟨x,h1,h2⟩ hl=>⟨x,Hp.cell_le hl h1,(hT x).choose_spec.2.1 u h h' h2 hl⟩,λh K=>⟨?_,?_⟩⟩
 . rintro⟨x,h1,h2⟩
   obtain⟨u,h3,h4⟩:=((hT x).choose_spec.2.2 h K).1 h2
   exact⟨u,⟨x,h1,h3⟩,h4⟩
 . rintro⟨u,⟨x,h1,h2⟩,h3⟩
   exact⟨x,h1,((hT x).choose_spec.2.2 h K).2 ⟨u,h2,h3⟩⟩
theorem zur{M:Up->Prop}:∀{ls:List Lf} {a:Addr} {i:Nat} {T:List Value->PT},(∀x,Qf M (T x))->Qf M λh K=>Z43 ls a i (λx=>T x h K) h
 | [],_,_,_,hT=>hT []
 | l :: r,a,i,T,hT=>by
   unfold Z43
   exact Z45 λx=>zur (ls:=r) (T:=λvs=>T (l.up x :: vs)) λvs=>hT _
theorem Z46{M:Up->Prop}{P:Program}{t:TypeId}{a:Addr}{T:Value->PT}(hT:∀x,Qf M (T x)):Qf M λh K=>ldT P t a (λx=>T x h K) h:=by
 unfold ldT
 split
 . split
   . exact zj.load
   . split
     . exact zur λvs=>hT _
     . exact zj.load
   . split
     . exact Z45 λx=>hT _
     . exact zj.load
 . exact zj.load
theorem z5p(hc:Wx C o=.load):Qf (Wd C o) λh K=>Zg C o e h K:=by
 unfold Wx at hc
 unfold Zg
 cases ho:o.op<;>simp only[ho]at hc |-<;>try (cases hc;done)
 case load t x=>
  split
  . split
    . exact(z4q λv=>yq zu).load
    . split
      . exact(z4q λv=>yq zu).load
      . exact zj.load
    . split
      . exact zj.load
      exact zl5 (Φ:=Qf _) zj.load λad=>Z46 λv=>(zke λv=>yq zu).load
    . exact zj.load
  . exact zj.load
 all_goals
  exfalso
  revert hc
  repeat' split
  all_goals (intro hc;first | (cases hc;done) | (cases hc;contradiction))
theorem zu9(hc:Wx C o=.call):∃c g,o.op=.call c/\c.callee=.value (.func g)/\C.muts g=false:=by
 unfold Wx at hc
 cases ho:o.op<;>simp only[ho]at hc<;>try (cases hc;done)
 case call c=>
  cases hcal:c.callee with
  | builtin b=>rw[hcal]at hc;cases b<;>cases hc
  | invoke r m=>rw[hcal]at hc;cases hc
  | value f=>
    rw[hcal]at hc
    cases f with
    | func g=>
      simp only at hc
      cases hm:C.muts g with
      | true=>rw[hm]at hc;cases hc
      | false=>exact⟨c,g,rfl,hcal,hm⟩
    | _=>cases hc
 all_goals
  exfalso
  revert hc
  repeat' split
  all_goals (intro hc;first | (cases hc;done) | (cases hc;contradiction))
theorem zgs{M:Up->Prop}{T:PT}(hT:∀h K,¬T h K):z01 M T:=⟨Unit,λ_ _=>False,λ_ _=>False,λ_ _ hh=>hh.elim,.inr hT⟩
theorem zal(hC:z96 C C.tab)(hc:Wx C o=.call):z01 (Wd C o) λh K=>Zg C o e h K:=by
 obtain⟨c,g,ho,hcal,hm⟩:=zu9 hc
 unfold Zg
 simp only[ho,hcal,opv]
 refine zao (Φ:=z01 _) (zgs λ_ _ hh=>hh) λvs=>?_
 rcases hC.get g with ⟨_,hl⟩ | hno
 . rcases hl hm ((#[]:Array Value).toList++vs++(#[]:Array Value).toList)with ⟨α,G,up,hG⟩ | hno
   . have hp:∀r,zq (Wd C o) λh K=>Qb C o.dst (up r) h K:=λr=>yq zu
     refine⟨α,G,λr=>(hp r).choose,λr u hu=>(hp r).choose_spec.1 u hu,.inl λh K=>?_⟩
     have:∀r h',Qb C o.dst (up r) h' K↔∃u,(hp r).choose u/\K u h':=λr h'=>(hp r).choose_spec.2 h' K
     show zbj g C.tab _ (λr h'=>Qb C o.dst r h' K) h↔_
     rw[hG]
     constructor
     . exact z26 λr h' hh _ _=>(this r h').1 hh
     . exact z26 λr h' hh _ _=>(this r h').2 hh
   . exact zgs λh K=>hno _ _
 . exact zgs λh K=>hno _ _ _
theorem zwg{M:Up->Prop}{cs:List Value}{T:Addr->PT}(hm:∀a,Zt M (T a))(hg:∀a,z7n (T a)):z7n λh K=>Yo cs (λa h'=>T a h' K) h:=by
 intro h K ht b el hb
 refine hm _ _ _ _ ?_ (hg _ _ _ (ht b el hb))
 rintro u h' _ ⟨h1,h2⟩
 exact⟨h1,Hp.le_trans (Hp.le_ins hb) h2⟩
theorem zwh{M:Up->Prop}{t:TypeId}{cs:List Value}{T:Addr->PT}(hm:∀a,Zt M (T a))(hg:∀a,z7n (T a)):z7n λh K=>zx0 t cs (λa h'=>T a h' K) h:=by
 intro h K ht b hb
 refine hm _ _ _ _ ?_ (hg _ _ _ (ht b hb))
 rintro u h' _ ⟨h1,h2⟩
 exact⟨h1,Hp.le_trans (Hp.le_ins hb) h2⟩
theorem zwx{M:Up->Prop}{t:TypeId}{cs:List Value}{T:Addr->PT}(hm:∀a,Zt M (T a)):Zt M λh K=>zx0 t cs (λa h'=>T a h' K) h:=
 λh K K' hk ht b hb=>hm _ _ _ _ hk (ht b hb)
theorem zka{M:Up->Prop}{cs:List Value}{T:Addr->PT}(hm:∀a,Zt M (T a)):Zt M λh K=>Yo cs (λa h'=>T a h' K) h:=
 λh K K' hk ht b el hb=>hm _ _ _ _ hk (ht b el hb)
theorem z0x{M:Up->Prop}{dst:Option Nat}{v:Value}(hd:zj0 M dst):Zt M λh K=>Qb C dst v h K:=(yq hd).mono
theorem z0e{M:Up->Prop}{u:Up}(hu:M u):Zt M λh K=>K u h:=λ_ _ _ hk ht=>hk _ _ hu ht
theorem zhd{u:Up}:z7n λh K=>K u h:=λh _ ht=>⟨ht,Hp.le_refl h⟩
theorem z9z{M:Up->Prop}{dst:Option Nat}{cs:List Value}{mk:Addr->Value}{hid:Slot}{ty:Option Nat}(hd:zj0 M dst)(hh:∀o,hid≠.ref o):Zt M λh K=>z36 C dst cs mk hid ty h K:=by
 unfold z36
 cases dst with
 | none=>exact zh
 | some d=>
   simp only
   split
   . exact z0e ((hd.2 _ rfl _).2 hh)
   . split
     . exact zka λa=>z0e (hd.2 _ rfl _).1
     . exact zwx λa=>z0e (hd.2 _ rfl _).1
   . exact zh
theorem z9t{dst:Option Nat}{cs:List Value}{mk:Addr->Value}{hid:Slot}{ty:Option Nat}:z7n λh K=>z36 C dst cs mk hid ty h K:=by
 unfold z36
 cases dst with
 | none=>exact ql
 | some d=>
   simp only
   split
   . exact zhd
   . split
     . exact zwg (M:=λ_=>True) (λa=>z0e trivial) (λa=>zhd)
     . exact zwh (M:=λ_=>True) (λa=>z0e trivial) (λa=>zhd)
   . exact ql
theorem Zaw{t:TypeId}{l c:Operand}(ho:o.op=.makeSlice t l c)(hc:Wx C o=.new):∃d,o.dst=some d/\C.loc d=false/\Nat.blt d C.n=true:=by
 unfold Wx at hc
 simp only[ho]at hc
 cases hd:o.dst with
 | none=>rw[hd]at hc;cases hc
 | some d=>
   rw[hd]at hc
   simp only at hc
   refine⟨d,rfl,?_⟩
   cases hl:C.loc d with
   | true=>rw[hl]at hc;cases hc
   | false=>
     rw[hl]at hc
     simp only at hc
     cases hb:Nat.blt d C.n with
     | true=>exact⟨rfl,rfl⟩
     | false=>rw[hb]at hc;cases hc
theorem zig{d:Nat}{v:Value}{h:Hp}{K:Up->Hp->Prop}(hd:o.dst=some d)(hl:C.loc d=false)(hb:Nat.blt d C.n=true):Qb C o.dst v h K=K (.set d (.val v)) h:=by
 unfold Qb
 rw[hd]
 simp only
 rw[hl,hb]
theorem Z40{len cap:Int}{bytes:Nat}{z:List Value}{d:Nat}(hd:o.dst=some d)(hl:C.loc d=false)(hb:Nat.blt d C.n=true):z7n λh K=>mkP len cap bytes z (λs h'=>Qb C o.dst (.slice s.a s.len s.cap) h' K) h:=by
 rintro h K ⟨h1,h2,h3,h4,h5⟩
 refine⟨h1,h2,h3,h4,λb e hn=>?_⟩
 have:=h5 b e hn
 simp only[zig hd hl hb]at this |-
 exact⟨this,Hp.le_ins hn⟩
theorem Zdb{len cap:Int}{bytes:Nat}{z:List Value}{d:Nat}(hd:o.dst=some d)(hl:C.loc d=false)(hb:Nat.blt d C.n=true):z42 (Wd C o) λh K=>mkP len cap bytes z (λs h'=>Qb C o.dst (.slice s.a s.len s.cap) h' K) h:=by
 refine⟨0<=len/\len<=cap/\bytes*cap<=140737488355328/\cap<=140737488355328,ye cap.toNat z,λb=>.set d (.val (.slice (some ⟨b,0,none⟩) len.toNat cap.toNat)),λ_=>True,⟨0,trivial⟩,λb=>(zu.2 d hd _).1,λh K=>⟨?_,?_⟩⟩
 . rintro⟨h1,h2,h3,h4,h5⟩
   refine⟨⟨h1,h2,h3,h4⟩,λb el _ hn=>?_⟩
   have:=h5 b el hn
   simp only[zig hd hl hb]at this
   exact this
 . rintro⟨⟨h1,h2,h3,h4⟩,h5⟩
   refine⟨h1,h2,h3,h4,λb el hn=>?_⟩
   simp only[zig hd hl hb]
   exact h5 b el trivial hn
theorem Z4l(hc:Wx C o=.new):z7n λh K=>Zg C o e h K:=by
 have hc0:=hc
 unfold Wx at hc
 unfold Zg
 cases ho:o.op<;>simp only[ho]at hc |-<;>try (cases hc;done)
 case alloc t=>exact V7 ql λcs=>z9t
 case box t x=>exact Wl ql λv=>z9t
 case makeSlice t l c=>
  obtain⟨d,hd,hl,hb⟩:=Zaw ho hc0
  refine Wl ql λlv=>Wl ql λcv=>?_
  split
  . refine z02 ql λel=>V7 ql λz=>?_
    split
    . exact Z40 hd hl hb
    . exact ql
  . exact ql
 case buildSlice t n p=>
  refine zao ql λvs=>z02 ql λel=>V7 ql λz=>?_
  split
  . exact zgr ql λcs=>z9t
  . exact ql
 all_goals
  exfalso
  revert hc
  repeat' split
  all_goals (intro hc;first | (cases hc;done) | (cases hc;contradiction))
theorem zel{dst:Option Nat}{cs:List Value}{mk:Addr->Value}{hid:Slot}{ty:Option Nat}(hd:zj0 (Wd C o) dst)(hc:∀d,dst=some d->C.loc d=false) :
 z42 (Wd C o) λh K=>z36 C dst cs mk hid ty h K:=by
 unfold z36
 cases dst with
 | none=>exact zhs hd.1
 | some d=>
   simp only
   rw[hc d rfl]
   split
   . contradiction
   . split
     . exact⟨True,cs,λb=>.set d (.val (mk ⟨b,0,none⟩)),λ_=>True,⟨0,trivial⟩,λb=>(hd.2 d rfl _).1,λh K=>⟨λh1=>⟨trivial,λb el _=>h1 b el⟩,λh1 b el=>h1.2 b el trivial⟩⟩
     . rename_i t
       exact⟨True,cs,λb=>.set d (.val (mk ⟨b,0,none⟩)),λx=>x=t,⟨t,rfl⟩,λb=>(hd.2 d rfl _).1,λh K=>⟨λh1=>⟨trivial,λb el he=>by subst he;exact h1 b⟩,λh1 b=>h1.2 b t rfl⟩⟩
   . exact zhs hd.1
theorem zd8(hc:Wx C o=.new):z42 (Wd C o) λh K=>Zg C o e h K:=by
 have hl:∀d,o.dst=some d->C.loc d=false:=by
  intro d hd
  unfold Wx at hc
  cases ho:o.op<;>simp only[ho]at hc<;>try (cases hc;done)
  all_goals first
   | (rw[hd]at hc;simp only at hc;cases hl:C.loc d with
      | false=>rfl
      | true=>rw[hl]at hc;cases hc)
   | (exfalso;revert hc;repeat' split
      all_goals (intro hc;first | (cases hc;done) | (cases hc;contradiction)))
 have hF:z42 (Wd C o) λ_ _=>False:=zhs (zu (C:=C) (o:=o)).1
 have hc0:=hc
 unfold Wx at hc
 unfold Zg
 cases ho:o.op<;>simp only[ho]at hc |-<;>try (cases hc;done)
 case alloc t=>exact V7 hF λcs=>zel zu hl
 case box t x=>exact Wl hF λv=>zel zu hl
 case makeSlice t l c=>
  obtain⟨d,hd,hl,hb⟩:=Zaw ho hc0
  refine Wl hF λlv=>Wl hF λcv=>?_
  split
  . refine z02 hF λel=>V7 hF λz=>?_
    split
    . exact Zdb hd hl hb
    . exact hF
  . exact hF
 case buildSlice t n p=>
  refine zao hF λvs=>z02 hF λel=>V7 hF λz=>?_
  split
  . exact zgr hF λcs=>zel zu hl
  . exact hF
 all_goals
  exfalso
  revert hc
  repeat' split
  all_goals (intro hc;first | (cases hc;done) | (cases hc;contradiction))
theorem zoo{M:Up->Prop}{a:Addr}{vs:List Value}{T:PT}(hT:Zt M T):Zt M λh K=>stP a vs (λh'=>T h' K) h:=by
 rintro h K K' hk ⟨b,h1,h2,h3,h4,h5,h6⟩
 exact⟨b,h1,h2,h3,h4,h5,hT _ _ _ hk h6⟩
theorem zd7{M:Up->Prop}{a:Option Addr}{off:Nat}{vs:List Value}{T:PT}(hT:Zt M T):Zt M λh K=>stO a off vs (λh'=>T h' K) h:=by
 cases a with
 | none=>exact hT
 | some a=>exact zoo hT
theorem zwu{M:Up->Prop}{size bytes:Nat}{z:List Value}{x:Sl}{n:Nat}{new:List Value}{T:Sl->PT}(hT:∀s,Zt M (T s)) :
 Zt M λh K=>Y5 size bytes z x n new (λs h'=>T s h' K) h:=by
 rintro h K K' hk ⟨h1,h2,h3,h4⟩
 refine⟨h1,h2,λhh=>zd7 (hT _) h K K' hk (h3 hh),λhh=>?_⟩
 obtain⟨old,h5,h6⟩:=h4 hh
 exact⟨old,h5,λb el c hc hb=>hT _ _ _ _ hk (h6 b el c hc hb)⟩
theorem zk8{M:Up->Prop}{ty:Option Nat}{size bytes:Nat}{z:List Value}{x:Sl}{n:Nat}{new:List Value}{T:Sl->PT}(hT:∀s,Zt M (T s)) :
 Zt M λh K=>Z7y ty size bytes z x n new (λs h'=>T s h' K) h:=by
 cases ty with
 | none=>exact zwu hT
 | some t=>
   rintro h K K' hk ⟨h1,h2,h3,h4⟩
   refine⟨h1,h2,λhh=>zd7 (hT _) h K K' hk (h3 hh),λhh=>?_⟩
   obtain⟨old,h5,h6⟩:=h4 hh
   exact⟨old,h5,λb c hc hb=>hT _ _ _ _ hk (h6 b c hc hb)⟩
theorem Z4g{M:Up->Prop}{size:Nat}{x y:Sl}{T:Nat->PT}(hT:∀n,Zt M (T n)):Zt M λh K=>cpP size x y (λn h'=>T n h' K) h:=by
 rintro h K K' hk ⟨l,h1,h2⟩
 exact⟨l,h1,zd7 (hT _) h K K' hk h2⟩
theorem zwv{M:Up->Prop}{x:Sl}{z:List Value}{T:PT}(hT:Zt M T):Zt M λh K=>zgt x z (λh'=>T h' K) h:=by
 rintro h K K' hk ⟨h1,h2⟩
 exact⟨λe=>hT _ _ _ hk (h1 e),λe=>zd7 hT h K K' hk (h2 e)⟩
theorem Z4h{M:Up->Prop}{len cap:Int}{bytes:Nat}{z:List Value}{T:Sl->PT}(hT:∀s,Zt M (T s)):Zt M λh K=>mkP len cap bytes z (λs h'=>T s h' K) h:=by
 rintro h K K' hk ⟨h1,h2,h3,h4,h5⟩
 exact⟨h1,h2,h3,h4,zka (T:=λa=>T ⟨some a,len.toNat,cap.toNat⟩) (λa=>hT _) h K K' hk h5⟩
theorem zom{M:Up->Prop}{a:Option Addr}{n:Nat}{T:List Value->PT}(hT:∀vs,Zt M (T vs)):Zt M λh K=>rdO a n (λvs=>T vs h K) h:=by
 rintro h K K' hk ⟨l,h1,h2⟩
 exact⟨l,h1,hT _ _ _ _ hk h2⟩
theorem zwz{M:Up->Prop}{x:Operand}{size:Nat}{T:Nat->List Value->PT}(hT:∀n vs,Zt M (T n vs)):Zt M λh K=>zji e x size (λn vs=>T n vs h K) h:=by
 unfold zji
 split
 . split
   . split
     . exact hT _ _
     . exact zh
   . exact zom λvs=>hT _ _
   . split
     . exact hT _ _
     . exact zh
   . exact zh
 . exact zom λvs=>hT _ _
 . split
   . exact hT _ _
   . exact zh
 . exact zh
theorem zsg{M:Up->Prop}{x:Sl}{T:ByteArray->PT}(hT:∀vs,Zt M (T vs)):Zt M λh K=>Z6p x (λvs=>T vs h K) h:=by
 rintro h K K' hk ⟨l,h1,h2⟩
 exact⟨l,h1,hT _ _ _ _ hk h2⟩
theorem zol{M:Up->Prop}{s:ByteArray}{T:Sl->PT}(hT:∀s,Zt M (T s)):Zt M λh K=>zyc s (λs h'=>T s h' K) h:=by
 intro h K K' hk hh b el c fz hc hb
 exact hT _ _ _ _ hk (hh b el c fz hc hb)
theorem zwy{M:Up->Prop}{P:Program}{t:TypeId}{T T2:PT}(hT:Zt M T)(hT2:Zt M T2):Zt M λh K=>Z98 P t (T h K) (T2 h K):=by
 unfold Z98
 split
 . exact hT
 . exact hT2
theorem zsf{M:Up->Prop}{P:Program}{t:TypeId}{T:PT}(hT:Zt M T):Zt M λh K=>zop P t (T h K):=by
 unfold zop
 split
 . exact hT
 . exact hT
 . exact zh
theorem zon{M:Up->Prop}{dst:Option Nat}(hd:zj0 M dst):Zt M λh K=>zmg C e dst h K:=by
 unfold zmg
 split
 . exact zh
 . rename_i d
   split
   . exact z0e ((hd.2 d rfl _).2 (λ_ hh=>by cases hh))
   . exact zh
theorem zk9{M:Up->Prop}{P:Program}{t:TypeId}{T:PT}(hT:Zt M T):Zt M λh K=>zm7 P t (T h K):=by
 unfold zm7
 split
 . split
   . split
     . exact hT
     . exact zh
   . exact zh
 . exact zh
theorem zww{M:Up->Prop}{x:Operand}{T:Nat->List (Int×Bool)->PT}{D:PT}(hT:∀s m,Zt M (T s m))(hD:Zt M D):Zt M λh K=>zc1 C e x (λs m=>T s m h K) (D h K):=by
 unfold zc1
 split
 . split
   . split
     . exact hT _ _
     . exact zh
   . split
     . exact hT _ _
     . exact zh
   . exact hD
 . exact hD
theorem zqy(hC:z96 C C.tab)(hmt:∀g args K K' h,(∀v h,K v h->K' v h)->C.f g args K h->C.f g args K' h):Zt (Wd C o) λh K=>Zg C o e h K:=by
 cases hc:Wx C o with
 | pure=>exact(z5r hc).mono
 | load=>exact(z5p hc).mono
 | call=>exact(zal hC hc).mono
 | _=>
   clear hc
   by_cases hp:Wx C o=.pure
   . exact(z5r hp).mono
   by_cases hl:Wx C o=.load
   . exact(z5p hl).mono
   unfold Zg
   unfold Wx at hp hl
   cases ho:o.op<;>simp only[ho]at hp hl |-<;>try (first | exact absurd trivial hp | exact absurd trivial hl | exact absurd rfl hp | exact absurd rfl hl | exact zh)
   case alloc t=>exact V7 (Φ:=Zt _) zh λcs=>z9z zu (λ_ hh=>by cases hh)
   case box t x=>exact Wl (Φ:=Zt _) zh λv=>z9z zu (λ_ hh=>by cases hh)
   case buildSlice t n p=>
    refine zao (Φ:=Zt _) zh λvs=>z02 (Φ:=Zt _) zh λel=>V7 (Φ:=Zt _) zh λz=>?_
    split
    . exact zgr (Φ:=Zt _) zh λcs=>z9z zu (λ_ hh=>by cases hh)
    . exact zh
   case load t x=>
    exfalso
    cases x with
    | tmp s=>cases hl':C.loc (C.rt s)with
      | true=>exact hp (by simp only[hl'])
      | false=>exact hl (by simp only[hl'])
    | _=>exact hl rfl
   case store t x y=>
    refine Wl (Φ:=Zt _) zh λv=>?_
    split
    . split
      . split
        . split
          . exact z0e ⟨(λd hd=>by simp only[Up.dst,Option.some.injEq]at hd;subst hd;simp[Yh,ho]),(λd off hd=>by cases hd),(λd off hd=>by cases hd)⟩
          . exact zh
        . split
          . split
            . exact z0e ⟨(λd hd=>by simp only[Up.dst,Option.some.injEq]at hd;subst hd;simp[Yh,ho]),(λd off hd=>by cases hd),(λd off hd=>by cases hd)⟩
            . exact zh
          . exact zh
        . split
          . exact zh
          refine zl5 (Φ:=Zt _) zh λad=>?_
          split
          . exact zoo (z0e zu.1)
          . exact zh
        . exact zh
      . exact zh
    . exact zh
   case convert s t x=>
    refine Wl (Φ:=Zt _) zh λv=>?_
    split
    . rename_i hu
      exfalso;exact hp (by rw[hu])
    . split
      . split
        . exact zsg λs=>z0x zu
        . exact zh
      . exact zh
    . split
      . exact zol λs=>z0x zu
      . exact zh
    . exact zh
   case makeMap t r=>
    cases r with
    | some m=>exact zh
    | none=>exact zon zu
   case lookup t x ix ok=>
    cases ok with
    | true=>exact zh
    | false=>
      refine Wl (Φ:=Zt _) zh λiv=>zk9 (zww (λs m=>?_) zh)
      split
      . exact z0x zu
      . exact zh
   case mapUpdate t x k y=>
    refine Wl (Φ:=Zt _) zh λkv=>Wl (Φ:=Zt _) zh λyv=>?_
    refine zk9 ?_
    unfold zc1
    split
    . rename_i s
      split
      . split
        . rename_i hr
          split
          . exact z0e ⟨(λd hd=>by simp only[Up.dst,Option.some.injEq]at hd;subst hd;simp[Yh,ho,Nat.eq_of_beq_eq_true hr]),(λd off hd=>by cases hd),(λd off hd=>by cases hd)⟩
          . exact zh
        . exact zh
      . split
        . split
          . exact z0e ⟨(λd hd=>by simp only[Up.dst,Option.some.injEq]at hd;subst hd;simp[Yh,ho]),(λd off hd=>by cases hd),(λd off hd=>by cases hd)⟩
          . exact zh
        . exact zh
      . exact zh
    . exact zh
   case makeSlice t l c=>
    refine Wl (Φ:=Zt _) zh λlv=>Wl (Φ:=Zt _) zh λcv=>?_
    split
    . refine z02 (Φ:=Zt _) zh λel=>V7 (Φ:=Zt _) zh λz=>?_
      split
      . exact Z4h λs=>z0x zu
      . exact zh
    . exact zh
   case call c=>
    split
    . rename_i b hb
      unfold Qg
      split
      . exact absurd (by rw[hb]) hp
      . exact absurd (by rw[hb]) hp
      . exact absurd (by rw[hb]) hp
      . split
        . refine zwy ?_ ?_
          . refine z02 (Φ:=Zt _) zh λel=>V7 (Φ:=Zt _) zh λz=>?_
            split
            . refine Wl (Φ:=Zt _) zh λv=>Wl (Φ:=Zt _) zh λu=>?_
              split
              . exact λh K K' hk ⟨g1,g2⟩=>⟨g1,zk8 (λs=>z0x zu) h K K' hk g2⟩
              . exact zh
            . exact zh
          refine zsf <| z02 (Φ:=Zt _) zh λel=>V7 (Φ:=Zt _) zh λz=>?_
          split
          . refine Wl (Φ:=Zt _) zh λv=>?_
            split
            . exact zwz λn vs=>zk8 λs=>z0x zu
            . exact zh
          . exact zh
        . exact zh
      . split
        . refine z02 (Φ:=Zt _) zh λel=>Wl (Φ:=Zt _) zh λv=>Wl (Φ:=Zt _) zh λu=>?_
          split
          . exact Z4g λn=>z0x zu
          . exact zh
        . exact zh
      . split
        . refine z02 (Φ:=Zt _) zh λel=>V7 (Φ:=Zt _) zh λz=>Wl (Φ:=Zt _) zh λv=>?_
          split
          . exact zwv (z0x zu)
          . exact zh
        . exact zh
      . exact absurd (by rw[hb]) hp
      . exact zh
    . rename_i f hf
      refine Wl (Φ:=Zt _) zh λfv=>?_
      split
      . refine zao (Φ:=Zt _) zh λvs=>?_
        intro h K K' hk ht
        exact hmt _ _ _ _ _ (λr h' hr=>z0x zu h' K K' hk hr) ht
      . exact zh
    . exact zh
end
end Den
end

section
namespace Den
open Go
section
variable {C : Cfg} {o : Oper} {e e' : Env}
theorem zen{x:Operand}(hx:∀t,x=.tmp t->e t=e' t):opv e x=opv e' x:=by
 funext K
 unfold opv
 cases x<;>try rfl
 rename_i t
 simp only[hx t rfl]
theorem zhw:∀{l:List Operand},(∀x∈l,∀t,x=.tmp t->e t=e' t)->z7v e l=z7v e' l
 | [],_=>rfl
 | x :: r,hx=>by
   funext K
   unfold z7v
   rw[zen (hx x (by simp)),zhw (l:=r) λy hy=>hx y (by simp[hy])]
theorem zjo{lo:Option Operand}{d:Int}(hx:∀x,lo=some x->∀t,x=.tmp t->e t=e' t):boP e lo d=boP e' lo d:=by
 funext K
 unfold boP
 cases lo with
 | none=>rfl
 | some x=>simp only;rw[zen (hx x rfl)]
theorem zt5{x:Operand}{size:Nat}(hx:∀t,x=.tmp t->e t=e' t):zji e x size=zji e' x size:=by
 funext K h
 unfold zji
 cases x with
 | tmp t=>simp only[hx t rfl]
 | const v=>cases v<;>rfl
 | _=>rfl
theorem z62{x:Operand}(hx:∀t,x=.tmp t->e t=e' t/\e (C.rt t)=e' (C.rt t)):zc1 C e x=zc1 C e' x:=by
 funext A D
 unfold zc1
 split
 . rename_i s
   rw[(hx s rfl).1,(hx s rfl).2]
 . rfl
theorem z9j(hmk:z9w o=false)(H:∀x∈o.op.operands.toList,∀t,x=.tmp t->e t=e' t/\e (C.rt t)=e' (C.rt t)):Zg C o e=Zg C o e':=by
 funext h K
 have hv:∀x∈o.op.operands.toList,opv e x=opv e' x:=λx hx=>zen λt ht=>(H x hx t ht).1
 have hvs:∀l:List Operand,(∀x∈l,x∈o.op.operands.toList)->z7v e l=z7v e' l:=λl hl=>zhw λx hx t ht=>(H x (hl x hx) t ht).1
 unfold Zg
 cases ho:o.op<;>simp only[ho,Op.operands]at H hv hvs |-
 case move x=>rw[hv x (by simp),z62 λt ht=>H x (by simp) t ht]
 case assign x=>rw[hv x (by simp),z62 λt ht=>H x (by simp) t ht]
 case pick c x y=>rw[hv c (by simp),hv x (by simp),hv y (by simp)]
 case box t x=>rw[hv x (by simp)]
 case build t p=>rw[hvs _ (by simp)]
 case buildSlice t n p=>rw[hvs _ (by simp)]
 case load t x=>
  cases x<;>try rfl
  rename_i s
  have:=H (.tmp s) (by simp) s rfl
  simp only[this.1,this.2]
 case store t x y=>
  rw[hv y (by simp)]
  cases x<;>try rfl
  rename_i s
  have:=H (.tmp s) (by simp) s rfl
  simp only[this.1,this.2]
 case nilCheck x=>rw[hv x (by simp)]
 case binOp op t x y t'=>rw[hv x (by simp),hv y (by simp)]
 case unOp op t x=>rw[hv x (by simp)]
 case convert s t x=>rw[hv x (by simp)]
 case makeFunc fn u v=>
  cases fn<;>try rfl
  simp only
  rw[hvs _ (by simp;intro x hx;exact .inl hx),hvs _ (by simp;intro x hx;exact .inr hx)]
 case makeSlice t l c=>rw[hv l (by simp),hv c (by simp)]
 case slice t x lo hi mx=>
  cases mx with
  | some m=>
    cases hi with
    | none=>rfl
    | some u=>
      simp only
      have hb:∀(q:Option Operand) (d:Int),(q=lo\/q=some u\/q=some m)->boP e q d=boP e' q d:=λq d hq=>zjo λy hy t ht=>by
       refine(H y ?_ t ht).1
       rcases hq with rfl | rfl | rfl
       . simp[hy]
       . cases hy;simp
       . cases hy;simp
      rw[hv x (by simp)]
      simp only[hb lo _ (.inl rfl),hb (some u) _ (.inr (.inl rfl)),hb (some m) _ (.inr (.inr rfl))]
  | none=>
    simp only
    have hb:∀(q:Option Operand) (d:Int),(q=lo\/q=hi)->boP e q d=boP e' q d:=λq d hq=>zjo λy hy t ht=>by
     refine(H y ?_ t ht).1
     rcases hq with rfl | rfl<;>simp[hy]
    rw[hv x (by simp)]
    simp only[hb lo _ (.inl rfl),hb hi _ (.inr rfl)]
 case fieldAddr t x f=>
  cases x<;>try rfl
  rename_i s
  have:=H (.tmp s) (by simp) s rfl
  simp only[this.1]
 case field t x f=>rw[hv x (by simp)]
 case indexAddr t x ix=>
  rw[hv ix (by simp),hv x (by simp)]
  cases x<;>try rfl
  rename_i s
  have:=H (.tmp s) (by simp) s rfl
  simp only[this.1]
 case index t x ix=>rw[hv ix (by simp),hv x (by simp)]
 case extract x i=>rw[hv x (by simp)]
 case makeMap t r=>unfold z9w at hmk;rw[ho]at hmk;cases hmk
 case lookup t x ix ok=>
  cases ok with
  | true=>rfl
  | false=>simp only;rw[hv ix (by simp),z62 λt ht=>H x (by simp) t ht]
 case mapUpdate t x k y=>rw[hv k (by simp),hv y (by simp),z62 λt ht=>H x (by simp) t ht]
 case call c=>
  split
  . rename_i b hb
    have hv':∀x∈c.args.toList,opv e x=opv e' x:=λx hx=>hv x (by simp[Call.operands,hb];simpa using hx)
    unfold Qg
    split
    . rename_i x hxx
      have hxm:x∈c.operands.toList:=by
       have:x∈c.args.toList:=by simp[hxx]
       simp[Call.operands,hb];simpa using this
      rw[hv' _ (by simp[*]),z62 λt ht=>H x hxm t ht]
    . rw[hv' _ (by simp[*])];congr;funext u;rw[hv' _ (by simp[*])]
    . rw[hv' _ (by simp[*])];congr;funext u;rw[hv' _ (by simp[*])]
    . rename_i x y hxy
      have hy:y∈c.operands.toList:=by
       have:y∈c.args.toList:=by simp[hxy]
       simp[Call.operands,hb];simpa using this
      have hs:∀n,zji e y n=zji e' y n:=λn=>zt5 λt ht=>(H y hy t ht).1
      rw[hv' x (by simp[hxy]),hv' y (by simp[hxy])]
      simp only[hs]
    . rename_i x y hxy
      rw[hv' x (by simp[hxy]),hv' y (by simp[hxy])]
    . rw[hv' _ (by simp[*])]
    . rw[hv' _ (by simp[*])]
    . rfl
  . rename_i f hf
    rw[hv f (by simp[Call.operands,hf]),hvs c.args.toList (by intro x hx;simp[Call.operands,hf];exact .inr (by simpa using hx))]
  . rfl
end
end Den
end
