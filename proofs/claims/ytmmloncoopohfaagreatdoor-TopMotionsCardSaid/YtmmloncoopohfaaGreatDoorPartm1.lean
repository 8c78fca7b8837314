/- Part 1 of the tools of the proof. -/
import Derived.Calls
import Derived.Orders
import Derived.OrdersIn
import Derived.ControlIn
import Derived.RangeFuncIn
import Derived.KernelRfl
import Derived.Laws.Tables
import Derived.WalkKit
import Derived.Laws.IdiomStrings
set_option linter.all false
open Go.IntKind
open Go.Result renaming andThen_ok→Jb
open Nat renaming le_refl→Jd,mul_le_mul_right→Jm,le_trans→Jo,lt_or_ge→Jx,mul_assoc→J6,le_of_ble_eq_true→Un,zero_add→Uo,eq_of_beq_eq_true→Ut,beq→G9,blt→Pc
open Go.Sem renaming run_bind→Jg,run_pure→Jj
open List renaming replicate→Jl,mem_append_left→Jv,drop_eq_getElem_cons→Uf,eq_nil_of_length_eq_zero→U3,getElem?_cons_zero→Tj,getElem?_cons_succ→P5,getElem?_toArray→Lw
open Option.some renaming injEq→Js,inj→Gg
open Bool renaming and_eq_true→Uh,false_eq_true→Ur
open Go.Builtin renaming firstCells→Uk,append_→T8,nextslicecap→L0
open Array renaming toList_inj→Gd,getElem?_eq_none→Tn
open Option renaming map_some→Gp,isSome_iff_exists→T9,map_none→L9
open Go.Question renaming appendCap→Tp
open Go.Region renaming binds→Ts
open Go.IntKind renaming bits→Tt,signed→T7
open Go.Value renaming int→Pt
open Go.Instr renaming sliceBounds→Le,sureAddr→Lr
open Go.Op renaming equalIn→L7
section
namespace Den
abbrev zV:Type:=List (List Rat)
theorem zO{p:Prop}(h:p:=by omega):p:=h
theorem zD{p:Prop}(h:p:=by decide):p:=h
theorem zS{p:Prop}(h:p:=by simp):p:=h
end Den
open Den (zO zD zS zV)
namespace Den
abbrev qS:ByteArray:=⟨#[48,48,48,49,48,50,48,51,48,52,48,53,48,54,48,55,48,56,48,57,49,48,49,49,49,50,49,51,49,52,49,53,49,54,49,55,49,56,49,57,50,48,50,49,50,50,50,51,50,52,50,53,50,54,50,55,50,56,50,57,51,48,51,49,51,50,51,51,51,52,51,53,51,54,51,55,51,56,51,57,52,48,52,49,52,50,52,51,52,52,52,53,52,54,52,55,52,56,52,57,53,48,53,49,53,50,53,51,53,52,53,53,53,54,53,55,53,56,53,57,54,48,54,49,54,50,54,51,54,52,54,53,54,54,54,55,54,56,54,57,55,48,55,49,55,50,55,51,55,52,55,53,55,54,55,55,55,56,55,57,56,48,56,49,56,50,56,51,56,52,56,53,56,54,56,55,56,56,56,57,57,48,57,49,57,50,57,51,57,52,57,53,57,54,57,55,57,56,57,57]⟩
abbrev zL1:ByteArray:=⟨#[0,1,2,2,3,3,3,3,4,4,4,4,4,4,4,4,5,5,5,5,5,5,5,5,5,5,5,5,5,5,5,5,6,6,6,6,6,6,6,6,6,6,6,6,6,6,6,6,6,6,6,6,6,6,6,6,6,6,6,6,6,6,6,6,7,7,7,7,7,7,7,7,7,7,7,7,7,7,7,7,7,7,7,7,7,7,7,7,7,7,7,7,7,7,7,7,7,7,7,7,7,7,7,7,7,7,7,7,7,7,7,7,7,7,7,7,7,7,7,7,7,7,7,7,7,7,7,7,8,8,8,8,8,8,8,8,8,8,8,8,8,8,8,8,8,8,8,8,8,8,8,8,8,8,8,8,8,8,8,8,8,8,8,8,8,8,8,8,8,8,8,8,8,8,8,8,8,8,8,8,8,8,8,8,8,8,8,8,8,8,8,8,8,8,8,8,8,8,8,8,8,8,8,8,8,8,8,8,8,8,8,8,8,8,8,8,8,8,8,8,8,8,8,8,8,8,8,8,8,8,8,8,8,8,8,8,8,8,8,8,8,8,8,8,8,8,8,8,8,8,8,8,8,8,8,8]⟩
end Den
namespace Den
open Go
structure qT where
 cells:List Value
 elem:TypeId
 fz:Nat×Nat
abbrev Hp:=Nat->Option qT
structure Sl where
 a:Option Addr
 len:Nat
 cap:Nat
inductive Lf where
 | int (k:IntKind) | bool | str | sl | ptr | val
abbrev Lf.T:Lf->Type
 | .int _=>Int
 | .bool=>Bool
 | .str=>ByteArray
 | .sl=>Sl
 | .ptr=>Option Addr
 | .val=>Value
def Lf.up:(l:Lf)->l.T->Value
 | .int k,n=>.int k n
 | .bool,b=>.bool b
 | .str,s=>.string s
 | .sl,s=>.slice s.a s.len s.cap
 | .ptr,p=>.pointer p
 | .val,v=>v
def jO(k k':IntKind)(p:Prop):Prop:=match decide (k=k')with | true=>p | false=>False
def Lf.dn:(l:Lf)->Value->(l.T->Prop)->Prop
 | .int k,.int k' n,K=>jO k k' (K n)
 | .bool,.bool b,K=>K b
 | .str,.string s,K=>K s
 | .sl,.slice a l c,K=>K ⟨a,l,c⟩
 | .ptr,.pointer p,K=>K p
 | .val,v,K=>K v
 | _,_,_=>False
def qn{k k':IntKind}{p:Prop}:jO k k' p↔k=k'/\p:=by
 unfold jO;by_cases h:k=k'<;>simp[h]
def Lf.cX{l:Lf}{v:Value}{K:l.T->Prop}:l.dn v K↔∃x,v=l.up x/\K x:=by
 cases l<;>cases v<;>simp[Lf.dn,Lf.up,qn]
 case int.int k k' n=>exact⟨λ⟨h,hk⟩=>⟨n,⟨h.symm,rfl⟩,hk⟩,λ⟨x,⟨h,hx⟩,hk⟩=>⟨h.symm,hx▸hk⟩⟩
 case sl.slice a l c=>exact⟨λh=>⟨⟨a,l,c⟩,⟨rfl,rfl,rfl⟩,h⟩,λ⟨⟨a',l',c'⟩,⟨h1,h2,h3⟩,h⟩=>by subst h1 h2 h3;exact h⟩
namespace Hp
def le(h h':Hp):Prop:=∀k b,h k=some b->h' k=some b
def cell(h:Hp)(a:Addr):Option Value:=
 match a.spot with
 | none=>(match h a.block with | some b=>b.cells[a.off]? | none=>none)
 | some _=>none
def add(h g:Hp):Hp:=λk=>match h k with | some b=>some b | none=>g k
def dj(h g:Hp):Prop:=∀k,h k=none\/g k=none
def ins(h:Hp)(k:Nat)(b:qT):Hp:=λj=>if j=k then some b else h j
def emp:Hp:=λ_=>none
def le_refl(h:Hp):h.le h:=λ_ _ e=>e
def le_trans{a b c:Hp}(h:a.le b)(h':b.le c):a.le c:=λk x e=>h' k x (h k x e)
def qU(h g:Hp):h.le (h.add g):=λk b e=>by simp[add,e]
def nR{a b g:Hp}(h:a.le b)(hd:b.dj g):(a.add g).le (b.add g):=by
 intro k x e;unfold add at *;cases ha:a k with
 | some y=>rw[ha]at e;simp only at e;rw[h k y ha];exact e
 | none=>
   rw[ha]at e;simp only at e;rcases hd k with h1 | h1
   rw[h1];exact e;rw[h1]at e;cases e
def fZ(h:Hp):h.add emp=h:=by funext k;unfold add emp;cases h k<;>rfl
def qV(h:Hp):h.dj emp:=λ_=>.inr rfl
def cD(h:Hp)(k:Nat)(b:qT):h.ins k b k=some b:=by simp[ins]
def cl{h:Hp}{k j:Nat}{b:qT}(e:j≠k):h.ins k b j=h j:=by simp[ins,e]
def cH{h:Hp}{k:Nat}{b:qT}(e:h k=none):h.le (h.ins k b):=λj x hx=>by
 by_cases hj:j=k;subst hj;rw[e]at hx;cases hx;rw[cl hj];exact hx
def si{h g:Hp}{k:Nat}{b:qT}(e:h k=none):(h.add g).ins k b=h.add (g.ins k b):=by
 funext j;unfold ins add;by_cases hj:j=k;subst hj;simp[e];simp[hj]
def vx{h:Hp}{k j:Nat}{b c:qT}(e:k≠j):(h.ins k b).ins j c=(h.ins j c).ins k b:=by
 funext i;unfold ins;by_cases h1:i=j;subst h1;have:i≠k:=λh=>e h.symm;simp[this]
 simp[h1]
def EO{h g:Hp}{k:Nat}{b:qT}(hd:h.dj g)(e:h k=none):h.dj (g.ins k b):=λj=>by
 by_cases hj:j=k;subst hj;exact .inl e;rw[cl hj];exact hd j
def fF{h g:Hp}{k:Nat}:(h.add g) k=none↔h k=none/\g k=none:=by
 unfold add;cases h k<;>simp
def Fin(h:Hp):Prop:=∃n,∀k,n<=k->h k=none
def Fin.ins{h:Hp}(hf:h.Fin){k:Nat}{b:qT}:(h.ins k b).Fin:=by
 obtain⟨n,hn⟩:=hf;refine⟨n+k+1,λj hj=>?_⟩;rw[cl zO];exact hn j zO
def Fin.fresh{h:Hp}(hf:h.Fin):∃b,h b=none:=by
 obtain⟨n,hn⟩:=hf;exact⟨n,hn n (Jd _)⟩
def Fin.sub{h h':Hp}(hf:h'.Fin)(H:∀k,h' k=none->h k=none):h.Fin:=by
 obtain⟨n,hn⟩:=hf;exact⟨n,λk hk=>H k (hn k hk)⟩
def ia{h h':Hp}(hl:h.le h'){a:Addr}{v:Value}(e:h.cell a=some v):h'.cell a=some v:=by
 unfold cell at *;cases hs:a.spot with
 | some x=>rw[hs]at e;cases e
 | none=>
   rw[hs]at e;simp only at e |-
   cases hb:h a.block with
   | none=>rw[hb]at e;cases e
   | some b=>rw[hb]at e;rw[hl _ _ hb];exact e
end Hp
def Zp(h:Hp)(a:Addr):Nat->Option (List Value)
 | 0=>some []
 | n+1=>match Zp h a n with
   | some l=>(match h.cell (a.add n)with | some v=>some (l++[v]) | none=>none)
   | none=>none
def Zi(h:Hp)(a:Option Addr)(n:Nat):Option (List Value):=
 match a with
 | some a=>Zp h a n
 | none=>if n=0 then some []else none
def zp9{h h':Hp}(hl:h.le h'){a:Addr}:∀{n:Nat} {l:List Value},Zp h a n=some l->Zp h' a n=some l
 | 0,_,e=>e
 | n+1,l,e=>by
   unfold Zp at *;cases h1:Zp h a n with
   | none=>rw[h1]at e;cases e
   | some l1=>
     rw[h1]at e;rw[zp9 hl h1];simp only at e |-
     cases h2:h.cell (a.add n)with
     | none=>rw[h2]at e;cases e
     | some v=>rw[h2]at e;rw[Hp.ia hl h2];exact e
def EP{h h':Hp}(hl:h.le h'){a:Option Addr}{n:Nat}{l:List Value}(e:Zi h a n=some l):Zi h' a n=some l:=by
 cases a with
 | none=>exact e
 | some a=>exact zp9 hl e
def Zn(cs:List Value)(off:Nat)(vs:List Value):List Value:=cs.take off++vs++cs.drop (off+vs.length)
def Yi(n:Nat)(zero:List Value):List Value:=(Jl n zero).flatten
def Sl.cut(s:Sl)(l h size:Nat):Sl:=⟨if s.cap=l then s.a else s.a.map (·.add (l*size)),h-l,s.cap-l⟩
def Yw(op:BinOp)(k:IntKind)(x y:Int):Int:=
 let a:=BitVec.ofInt k.bits x
 let b:=BitVec.ofInt k.bits y
 match op with
 | .and=>k.wrap (a &&& b).toNat
 | .or=>k.wrap (a ||| b).toNat
 | .xor=>k.wrap (a ^^^ b).toNat
 | _=>k.wrap (a &&& ~~~b).toNat
def ER:List (Int×Bool)->Int->Bool
 | [],_=>false
 | p :: r,k=>bif decide (k=p.1)then p.2 else ER r k
def Au:List (Int×Bool)->Int->Bool->List (Int×Bool)
 | [],k,v=>[(k,v)]
 | p :: r,k,v=>bif decide (k=p.1)then (k,v) :: r else p :: Au r k v
def ak(t:Bool)(A B:Prop):Prop:=match t with | true=>A | false=>B
def Zw{t:Bool}{A B:Prop}(ha:t=true->A)(hb:t=false->B):ak t A B:=by
 cases t;exact hb rfl;exact ha rfl
def aB(l:Lf)(a:Addr)(K:l.T->Prop)(h:Hp):Prop:=∃x:l.T,h.cell a=some (l.up x)/\K x
def Yv(p:Option Addr)(K:Addr->Prop):Prop:=match p with | some a=>K a | none=>False
def zi(x:Sl)(i:Int)(size:Nat)(K:Addr->Prop):Prop:=0<=i/\i<x.len/\Yv x.a λa=>K (a.add (i.toNat*size))
def ca(x:Sl)(lo hi:Int)(size:Nat)(K:Sl->Prop):Prop:=0<=lo/\lo<=hi/\hi<=x.cap/\K (x.cut lo.toNat hi.toNat size)
def Nm(x:Sl)(lo hi mx:Int)(size:Nat)(K:Sl->Prop):Prop:=0<=lo/\lo<=hi/\hi<=mx/\mx<=x.cap/\K (Sl.cut ⟨x.a,x.len,mx.toNat⟩ lo.toNat hi.toNat size)
def Vq(s:ByteArray)(i:Int)(K:Int->Prop):Prop:=0<=i/\∃b,s[i.toNat]?=some b/\K (b.toNat:Int)
def Yl(s:ByteArray)(lo hi:Int)(K:ByteArray->Prop):Prop:=0<=lo/\lo<=hi/\hi<=s.size/\K (s.extract lo.toNat hi.toNat)
def Value.leaf:Value->Bool
 | .agg _ | .tuple _=>false
 | _=>true
def bD(a:Addr)(vs:List Value)(K:Hp->Prop)(h:Hp):Prop:=
 ∃b,h a.block=some b/\a.spot=none/\b.fz=(0,0)/\a.off+vs.length<=b.cells.length/\vs.all Value.leaf=true/\K (h.ins a.block { b with cells:=Zn b.cells a.off vs })
def Ys(cells:List Value)(K:Addr->Hp->Prop)(h:Hp):Prop:=
 ∀b e,h b=none->K ⟨b,0,none⟩ (h.ins b ⟨cells,e,(0,0)⟩)
def I5(t:TypeId)(cells:List Value)(K:Addr->Hp->Prop)(h:Hp):Prop:=
 ∀b,h b=none->K ⟨b,0,none⟩ (h.ins b ⟨cells,t,(0,0)⟩)
def eW(len cap:Int)(bytes:Nat)(zero:List Value)(K:Sl->Hp->Prop)(h:Hp):Prop:=
 0<=len/\len<=cap/\bytes*cap<=140737488355328/\cap<=140737488355328/\Ys (Yi cap.toNat zero) (λa=>K ⟨some a,len.toNat,cap.toNat⟩) h
def pS(a:Option Addr)(off:Nat)(vs:List Value)(K:Hp->Prop)(h:Hp):Prop:=
 match a with
 | some a=>bD (a.add off) vs K h
 | none=>K h
def Zyb(s:Sl)(z:List Value)(K:Hp->Prop)(h:Hp):Prop:=(s.len=0->K h)/\(s.len≠0->pS s.a 0 (Yi s.len z) K h)
def Qg(size bytes:Nat)(zero:List Value)(x:Sl)(n:Nat)(new:List Value)(K:Sl->Hp->Prop)(h:Hp):Prop:=
 (x.len+n)*bytes<=140737488355328/\x.len+n<=140737488355328 /\
 (x.len+n<=x.cap->pS x.a (x.len*size) new (K ⟨x.a,x.len+n,x.cap⟩) h) /\
 (x.cap<x.len+n->∃iK,Zi h x.a (x.len*size)=some iK/\∀b e c,x.len+n<=c->h b=none ->
   K ⟨some ⟨b,0,none⟩,x.len+n,c⟩ (h.ins b ⟨iK++new++Yi (c-(x.len+n)) zero,e,(0,0)⟩))
def Av(t:TypeId)(size bytes:Nat)(zero:List Value)(x:Sl)(n:Nat)(new:List Value)(K:Sl->Hp->Prop)(h:Hp):Prop:=
 (x.len+n)*bytes<=140737488355328/\x.len+n<=140737488355328 /\
 (x.len+n<=x.cap->pS x.a (x.len*size) new (K ⟨x.a,x.len+n,x.cap⟩) h) /\
 (x.cap<x.len+n->∃iK,Zi h x.a (x.len*size)=some iK/\∀b c,x.len+n<=c->h b=none ->
   K ⟨some ⟨b,0,none⟩,x.len+n,c⟩ (h.ins b ⟨iK++new++Yi (c-(x.len+n)) zero,t,(0,0)⟩))
def Zo2(ty:Option Nat)(size bytes:Nat)(zero:List Value)(x:Sl)(n:Nat)(new:List Value)(K:Sl->Hp->Prop)(h:Hp):Prop:=
 match ty with
 | none=>Qg size bytes zero x n new K h
 | some t=>Av t size bytes zero x n new K h
def Z36{ty:Option Nat}{el:TypeId}{size bytes:Nat}{zero:List Value}{x:Sl}{n:Nat}{new:List Value}{K:Sl->Hp->Prop}{h:Hp}(qW:∀t,ty=some t->el=t)(hk:Zo2 ty size bytes zero x n new K h):Av el size bytes zero x n new K h:=by
 cases ty with
 | none=>
   obtain⟨h1,h2,h3,h4⟩:=hk;refine⟨h1,h2,h3,λhc=>?_⟩;obtain⟨iK,h5,h6⟩:=h4 hc;exact⟨iK,h5,λb c h7 h8=>h6 b el c h7 h8⟩
 | some t=>rw[qW t rfl];exact hk
def zw9:Nat->(List Value->Prop)->Prop
 | 0,K=>K []
 | n+1,K=>∃c:Option Addr,zw9 n λl=>K (.pointer c :: l)
def Z6v(hint:Option (Nat×Nat))(v:Value)(K:Value->Prop):Prop:=
 match hint with
 | none=>K v
 | some (g,k)=>zw9 k λl=>v=.func (.func g) #[] l.toArray/\K (.func (.func g) #[] l.toArray)
def zqm:∀{n:Nat} {K:List Value->Prop},zw9 n K->∃l,K l
 | 0,_,h=>⟨_,h⟩
 | n+1,_,⟨_,h⟩=>by
   obtain⟨l,hl⟩:=zqm h;exact⟨_,hl⟩
def Z6w{hint:Option (Nat×Nat)}{v:Value}{K:Value->Prop}(h:Z6v hint v K):K v:=by
 cases hint with
 | none=>exact h
 | some p=>
   obtain⟨l,h1,h2⟩:=zqm h;rw[h1];exact h2
def cpP(size:Nat)(x y:Sl)(K:Nat->Hp->Prop)(h:Hp):Prop:=
 ∃l,Zi h y.a (Nat.min y.len x.len*size)=some l/\pS x.a 0 l (K (Nat.min y.len x.len)) h
def iO(a:Option Addr)(n:Nat)(K:List Value->Prop)(h:Hp):Prop:=∃l,Zi h a n=some l/\K l
def Zmy(x:Sl)(K:ByteArray->Prop)(h:Hp):Prop:=∃bs:List UInt8,Zi h x.a x.len=some (bs.map λb=>.int .u8 b.toNat)/\K ⟨bs.toArray⟩
def tt(s:ByteArray):List Value:=s.data.toList.map λb=>.int .u8 b.toNat
def Zdd(s:ByteArray)(K:Sl->Hp->Prop)(h:Hp):Prop:=
 ∀b e c fz,s.size<=c->h b=none->K ⟨some ⟨b,0,none⟩,s.size,c⟩ (h.ins b ⟨tt s++Jl (c-s.size) (.int .u8 0),e,fz⟩)
def za{α:Type}(G:(α->Hp->Prop)->Hp->Prop)(K:α->Hp->Prop)(h:Hp):Prop:=
 ∃(D O:Hp) (Q:α->Hp->Prop),D.dj O/\h=D.add O/\G Q D/\∀v D',Q v D'->D.le D'/\(D'.dj O->(D'.add O).Fin->K v (D'.add O))
def kE{α:Type}(G:(α->Hp->Prop)->Hp->Prop)(K:α->Hp->Prop)(h:Hp):Prop:=
 ∃(D O:Hp) (Q:α->Hp->Prop),D.dj O/\h=D.add O/\G Q D/\∀v D',Q v D'->D'.dj O->K v (D'.add O)
def zy{S:Type}(k:S->Hp->Prop)(body:(S->Hp->Prop)->Prop):Prop:=
 ∃J:S->Hp->Prop,(∀s h,J s h->k s h)/\body J
def zx{S:Type}(body:S->(S->Hp->Prop)->Hp->Prop)(s0:S)(h0:Hp):Prop:=
 ∃(I:S->Hp->Prop) (μ:S->Hp->Nat),I s0 h0/\∀s h,I s h->body s (λs' h'=>I s' h'/\μ s' h'<μ s h) h
end Den
end

section
namespace Den
open Go
inductive Slot where
 | val (v:Value)
 | box (cs:List Value)
 | lit (cs:List Value) (n:Nat)
 | ref (off:Nat)
 | mp (m:List (Int×Bool))
 | mr
 | fG
abbrev Env:=Nat->Slot
inductive Up where
 | none
 | set (d:Nat) (s:Slot)
 | alloc (d:Nat) (s:Slot)
abbrev zh:=List Value->(Value->Hp->Prop)->Hp->Prop
def eZ(t:Nat):List Nat->Bool
 | []=>false
 | x :: r=>bif G9 t x then true else eZ t r
def Zqy(t:Nat):List (Nat×Nat)->Nat
 | []=>t
 | (x,y) :: r=>bif G9 t x then y else Zqy t r
def yE(g:Nat):List (Nat×zh)->zh
 | []=>λ_ _ _=>False
 | (x,y) :: r=>bif G9 g x then y else yE g r
inductive dp where
 | leaf (l:Lf)
 | agg (ls:List Lf)
 | box (ls:List Lf)
 | mp
def LT:List Lf->Type
 | []=>Unit
 | l :: r=>l.T×LT r
abbrev dp.T:dp->Type
 | .leaf l=>l.T
 | .agg ls=>LT ls
 | .box ls=>LT ls
 | .mp=>List (Int×Bool)
structure bX where
 P:Program
 n:Nat
 fH:List (Nat×zh)
 gn:List Nat:=[]
 ES:List (Nat×Nat):=[]
 kM:List Nat:=[]
 fk:List (Nat×dp):=[]
 I6:List Nat:=[]
 fnL:List (Nat×Nat×Nat):=[]
 kN:List Nat:=[]
def Z98(g:Nat):List (Nat×dp)->Option dp
 | []=>none
 | (x,y) :: r=>bif G9 g x then some y else Z98 g r
def bX.f(C:bX)(g:FuncId):zh:=yE g C.fH
def bX.tz(C:bX)(g:FuncId):Bool:=eZ g C.gn
def bX.rt(C:bX)(t:Nat):Nat:=Zqy t C.ES
def bX.loc(C:bX)(t:Nat):Bool:=eZ t C.kM
def Zqx:Nat->List (Nat×Nat×Nat)->Option (Nat×Nat)
 | _,[]=>none
 | t,(x,y) :: r=>bif G9 t x then some y else Zqx t r
def bX.hint(C:bX)(dst:Option Nat):Option (Nat×Nat):=match dst with | some d=>Zqx d C.fnL | none=>none
def bX.Nn(C:bX)(t:Nat):Option Nat:=bif eZ t C.I6 then some t else none
def Env.set(e:Env)(d:Nat)(s:Slot):Env:=λj=>bif G9 j d then s else e j
def Env.alloc(rt:Nat->Nat)(e:Env)(d:Nat)(s:Slot):Env:=λj=>
 bif G9 j d then s else match e j with
  | .ref o=>bif G9 (rt j) d then .fG else .ref o
  | x=>x
def Env.cJ(rt:Nat->Nat)(e:Env):Up->Env
 | .none=>e
 | .set d s=>e.set d s
 | .alloc d s=>e.alloc rt d s
def cZ(e:Env)(x:Operand)(K:Value->Prop):Prop:=
 match x with
 | .const v=>K v
 | .func f=>K (.func (.func f) #[] #[])
 | .global g=>K (.pointer (some ⟨g,0,none⟩))
 | .tmp t=>match e t with
   | .val v=>K v
   | _=>False
def kF(e:Env):List Operand->(List Value->Prop)->Prop
 | [],K=>K []
 | x :: r,K=>cZ e x λv=>kF e r λvs=>K (v :: vs)
def zw4(op:BinOp)(k k':IntKind)(a b:Int)(K:Value->Prop):Prop:=
 match op with
 | .shl=>0<=b/\K (.int k (k.wrap (a*2 ^ (min b.toNat k.bits))))
 | .shr=>0<=b/\K (.int k (a.fdiv (2 ^ (min b.toNat k.bits))))
 | .add=>jO k k' (K (.int k (k.wrap (a+b))))
 | .sub=>jO k k' (K (.int k (k.wrap (a-b))))
 | .mul=>jO k k' (K (.int k (k.wrap (a*b))))
 | .quo=>jO k k' (b≠0/\K (.int k (k.wrap (a.tdiv b))))
 | .rem=>jO k k' (b≠0/\K (.int k (a.tmod b)))
 | .and=>jO k k' (K (.int k (Yw .and k a b)))
 | .or=>jO k k' (K (.int k (Yw .or k a b)))
 | .xor=>jO k k' (K (.int k (Yw .xor k a b)))
 | .andNot=>jO k k' (K (.int k (Yw .andNot k a b)))
 | .eql=>jO k k' (K (.bool (a==b)))
 | .neq=>jO k k' (K (.bool (a != b)))
 | .lss=>jO k k' (K (.bool (decide (a<b))))
 | .leq=>jO k k' (K (.bool (decide (a<=b))))
 | .gtr=>jO k k' (K (.bool (decide (a>b))))
 | .geq=>jO k k' (K (.bool (decide (a>=b))))
def Zsj(P:Program)(t:TypeId)(op:BinOp)(xs ys:List Value)(K:Value->Prop):Prop:=
 match P.underlying t with
 | some (.array 2 el)=>(match P.underlying el,G9 (P.cellsOf el) 1,P.eqGuardType P.depth t with
   | some (.int _),true,false=>(match xs,ys with
     | [.int k a,.int k2 b],[.int k3 c,.int k4 d]=>jO k k3 <| jO k2 k4 <| (match op with
       | .eql=>K (.bool (a==c&&b==d))
       | .neq=>K (.bool (!(a==c&&b==d)))
       | _=>False)
     | _,_=>False)
   | _,_,_=>False)
 | _=>False
def No(P:Program)(t:TypeId)(op:BinOp)(x y:Value)(K:Value->Prop):Prop:=
 match x,y with
 | .int k a,.int k' b=>zw4 op k k' a b K
 | .string a,.string b=>
   (match op with
   | .add=>((a.size+b.size:Nat):Int)<=9223372036854775807/\K (.string (a++b))
   | .eql=>K (.bool (a.toList==b.toList))
   | .neq=>K (.bool (!(a.toList==b.toList)))
   | _=>False)
 | .bool a,.bool b=>
   (match P.underlying t,op with
   | some .bool,.eql=>K (.bool (a==b))
   | some .bool,.neq=>K (.bool (!(a==b)))
   | _,_=>False)
 | .slice a _ _,.slice none _ _=>
   (match P.underlying t,op with
   | some (.slice _),.eql=>K (.bool a.isNone)
   | some (.slice _),.neq=>K (.bool (!a.isNone))
   | _,_=>False)
 | .agg xs,.agg ys=>Zsj P t op xs.toList ys.toList K
 | _,_=>False
def Np(op:UnOp)(x:Value)(K:Value->Prop):Prop:=
 match op,x with
 | .not,.bool b=>K (.bool (!b))
 | .neg,.int k n=>K (.int k (k.wrap (0-n)))
 | _,_=>False
def fa(P:Program)(t:TypeId):Option Bool:=
 match P.underlying t with
 | some (.struct _) | some (.array _ _)=>some true
 | some _=>some false
 | none=>none
def ET(P:Program):Nat->TypeId->Option (List Lf)
 | 0,_=>none
 | d+1,t=>
   match P.underlying t with
   | some .bool=>some [.bool]
   | some (.int k)=>some [.int k]
   | some .string=>some [.str]
   | some (.slice _)=>some [.sl]
   | some (.pointer _)=>some [.ptr]
   | some (.struct fs)=>fs.toList.foldr (λf acc=>match ET P d f.type,acc with | some l,some r=>some (l++r) | _,_=>none) (some [])
   | some (.array n t')=>(match ET P d t' with | some l=>some ((Jl n l).flatten) | none=>none)
   | some (.func _ _ _)=>some [.val]
   | _=>none
def Nq:List Lf->Addr->Nat->(List Value->Prop)->Hp->Prop
 | [],_,_,K,_=>K []
 | l :: r,a,i,K,h=>aB l (a.add i) (λx=>Nq r a (i+1) (λvs=>K (l.up x :: vs)) h) h
def Nr(P:Program)(t:TypeId)(a:Addr)(K:Value->Prop)(h:Hp):Prop:=
 match ET P 8 t with
 | some ls=>(match fa P t with
   | none=>False
   | some true=>(match G9 ls.length (P.cellsOf t)with
     | true=>Nq ls a 0 (λvs=>K (.agg vs.toArray)) h
     | false=>False)
   | some false=>(match ls with
     | [l]=>aB l a (λx=>K (l.up x)) h
     | _=>False))
 | none=>False
def tA(P:Program)(t:TypeId)(cs:List Value)(off:Nat)(K:Value->Prop):Prop:=
 match fa P t with
 | none=>False
 | some true=>(match Nat.ble (off+P.cellsOf t) cs.length with
   | true=>K (.agg ((cs.drop off).take (P.cellsOf t)).toArray)
   | false=>False)
 | some false=>(match cs[off]? with
   | some v=>K v
   | none=>False)
def Ns(P:Program)(ix:Operand)(t:TypeId)(cs:List Value)(off:Nat)(K:Value->Prop):Prop:=
 match ix with
 | .tmp _=>(match fa P t,ET P 8 t with
   | some false,some [l]=>∃x:l.T,cs[off]?=some (l.up x)/\K (l.up x)
   | _,_=>False)
 | _=>tA P t cs off K
def uI(P:Program)(t:TypeId)(K:List Value->Prop):Prop:=
 match P.info? t with
 | some i=>(match i.zero with
   | some z=>K z.cells.toList
   | none=>False)
 | none=>False
def qm(C:bX)(dst:Option Nat)(v:Value)(h:Hp)(K:Up->Hp->Prop):Prop:=
 match dst with
 | none=>K .none h
 | some d=>match C.loc d,Pc d C.n with
   | false,true=>K (.set d (.val v)) h
   | _,_=>False
def yF(C:bX)(dst:Option Nat)(h:Hp)(K:Up->Hp->Prop):Prop:=
 match dst with
 | none=>K .none h
 | some d=>match C.loc d,eZ d C.kN with
   | true,false=>K (.alloc d .fG) h
   | true,true=>False
   | false,_=>qm C dst undef h K
def CG(C:bX)(dst:Option Nat)(root off:Nat)(h:Hp)(K:Up->Hp->Prop):Prop:=
 match dst with
 | none=>False
 | some d=>match C.loc d,G9 (C.rt d) root,Pc d C.n with
   | false,true,true=>K (.set d (.ref off)) h
   | _,_,_=>False
def sj(C:bX)(dst:Option Nat)(cs:List Value)(mk:Addr->Value)(dy:Slot)(ty:Option Nat)(h:Hp)(K:Up->Hp->Prop):Prop:=
 match dst with
 | none=>False
 | some d=>match C.loc d,Pc d C.n,eZ d C.kN with
   | true,true,false=>K (.alloc d dy) h
   | false,true,_=>(match ty with
     | none=>Ys cs (λa h'=>K (.set d (.val (mk a))) h') h
     | some t=>I5 t cs (λa h'=>K (.set d (.val (mk a))) h') h)
   | _,_,_=>False
def I7(P:Program)(s:TypeId)(f:Nat)(K:Nat->Prop):Prop:=
 match P.underlying s with
 | some (.struct fs)=>(match fs[f]? with
   | some fd=>(match G9 (P.cellsOf fd.type) 0 with
     | true=>False
     | false=>K fd.offset)
   | none=>False)
 | _=>False
def I8(place:Nat->Option (Nat×Nat))(zero:List Value)(parts:List (Nat×Value))(K:List Value->Prop):Prop:=
 match Instr.fill place zero.toArray parts with
 | some cs=>K cs.toList
 | none=>False
def cK(P:Program)(t:TypeId)(K:TypeId->Prop):Prop:=
 match P.underlying t with
 | some (.slice e)=>(match (P.info? e).isSome with
   | true=>K e
   | false=>False)
 | _=>False
def Nt(P:Program)(t:TypeId)(p:Prop):Prop:=
 match P.underlying t with
 | some (.slice _)=>p
 | some .string=>p
 | _=>False
def Zp7(P:Program)(t:TypeId)(p q:Prop):Prop:=
 match P.underlying t with
 | some (.int _)=>p
 | _=>q
def CH(P:Program)(t:TypeId)(p:Prop):Prop:=
 match (P.info? t).isSome with
 | true=>p
 | false=>False
def CI(n:Int)(len:Nat)(p:Prop):Prop:=match decide (0<=n/\n<len)with | true=>p | false=>False
def Zs6:Value->(List Value->Prop)->Prop
 | .agg cs,K=>K cs.toList
 | _,_=>False
def I9(a b:Int):Int:=if b>a then b else a
def Zss(a b:Int):Int:=if b<a then b else a
def Zyt:List Value->(Value->Prop)->Prop
 | [.int k a,.int k' b],K=>jO k k' (K (.int k (I9 a b)))
 | _,_=>False
def Zyu:List Value->(Value->Prop)->Prop
 | [.int k a,.int k' b],K=>jO k k' (K (.int k (Zss a b)))
 | _,_=>False
def kO(e:Env)(lo:Option Operand)(aaj:Int)(K:Int->Prop):Prop:=
 match lo with
 | none=>K aaj
 | some x=>cZ e x λv=>match v with
   | .int _ n=>K n
   | _=>False
def yG(e:Env)(x:Operand)(size:Nat)(K:Nat->List Value->Prop)(h:Hp):Prop:=
 match x with
 | .tmp t=>(match e t with
   | .lit cs n=>(match G9 cs.length (n*size)with | true=>K n cs | false=>False)
   | .val (.slice a l _)=>iO a (l*size) (λvs=>K l vs) h
   | .val (.string s)=>(match G9 size 1 with | true=>K s.size (tt s) | false=>False)
   | _=>False)
 | .const (.slice a l _)=>iO a (l*size) (λvs=>K l vs) h
 | .const (.string s)=>(match G9 size 1 with | true=>K s.size (tt s) | false=>False)
 | _=>False
def qX(C:bX)(e:Env)(x:Operand)(A:Nat->List (Int×Bool)->Prop)(B:Prop):Prop:=
 match x with
 | .tmp s=>(match e s with
   | .mp m=>(match G9 (C.rt s) s with
     | true=>A s m
     | false=>False)
   | .mr=>(match e (C.rt s)with
     | .mp m=>A (C.rt s) m
     | _=>False)
   | _=>B)
 | _=>B
def Y0t:Slot->Bool
 | .mr=>true
 | _=>false
def EU(C:bX)(dst:Option Nat)(root:Nat)(h:Hp)(K:Up->Hp->Prop):Prop:=
 match dst with
 | none=>False
 | some d=>match C.loc d,G9 (C.rt d) root,Pc d C.n with
   | false,true,true=>K (.set d .mr) h
   | _,_,_=>False
def Aw(P:Program)(t:TypeId)(p:Prop):Prop:=
 match P.underlying t with
 | some (.map k v)=>(match P.underlying k,P.info? v with
   | some (.int .i64),some i=>(match i.zero with
     | some (.bool false)=>p
     | _=>False)
   | _,_=>False)
 | _=>False
def zwy(C:bX)(e:Env)(dst:Option Nat)(h:Hp)(K:Up->Hp->Prop):Prop:=
 match dst with
 | none=>False
 | some d=>(match C.loc d,Pc d C.n,eZ d C.kN,(List.range C.n).all (λt=>!Y0t (e t))with
   | true,true,true,true=>K (.alloc d (.mp [])) h
   | _,_,_,_=>False)
def Qh(C:bX)(b:Builtin)(argTypes:List TypeId)(args:List Operand)(e:Env)(h:Hp)(dst:Option Nat)(K:Up->Hp->Prop):Prop:=
 match b,args with
 | .len,[x]=>qX C e x (λ_ m=>(match argTypes with
   | [t]=>Aw C.P t (qm C dst (.int .i64 m.length) h K)
   | _=>False)) <| cZ e x λv=>(match v,argTypes with
   | .string s,[t]=>(match C.P.underlying t with
     | some .string=>qm C dst (.int .i64 s.size) h K
     | _=>False)
   | .slice _ n _,[t]=>(match C.P.underlying t with
     | some (.slice _)=>qm C dst (.int .i64 n) h K
     | _=>False)
   | _,_=>False)
 | .max,[x,y]=>cZ e x λu=>cZ e y λv=>Zyt [u,v] λr=>qm C dst r h K
 | .min,[x,y]=>cZ e x λu=>cZ e y λv=>Zyu [u,v] λr=>qm C dst r h K
 | .append,[x,y]=>(match argTypes with
   | [t,t2]=>Zp7 C.P t2 (cK C.P t λel=>uI C.P el λz=>(match G9 z.length (C.P.cellsOf el),G9 z.length 0 with
     | true,false=>cZ e x λv=>cZ e y λu=>(match v,u with
       | .slice a l c,.int _ m=>0<=m/\Zo2 (C.Nn el) z.length (C.P.bytesOf el) z ⟨a,l,c⟩ m.toNat (Yi m.toNat z) (λs h'=>qm C dst (.slice s.a s.len s.cap) h' K) h
       | _,_=>False)
     | _,_=>False)) <| Nt C.P t2 <| cK C.P t λel=>uI C.P el λz=>(match G9 z.length (C.P.cellsOf el),G9 z.length 0 with
     | true,false=>cZ e x λv=>(match v with
       | .slice a l c=>yG e y z.length (λn new=>Zo2 (C.Nn el) z.length (C.P.bytesOf el) z ⟨a,l,c⟩ n new (λs h'=>qm C dst (.slice s.a s.len s.cap) h' K) h) h
       | _=>False)
     | _,_=>False)
   | _=>False)
 | .copy,[x,y]=>(match argTypes with
   | [t,_]=>cK C.P t λel=>cZ e x λv=>cZ e y λu=>(match v,u with
     | .slice a l c,.slice a2 l2 c2=>cpP (C.P.cellsOf el) ⟨a,l,c⟩ ⟨a2,l2,c2⟩ (λn h'=>qm C dst (.int .i64 (n:Int)) h' K) h
     | _,_=>False)
   | _=>False)
 | .clear,[x]=>(match argTypes with
   | [t]=>cK C.P t λel=>uI C.P el λz=>cZ e x λv=>(match v with
     | .slice a l c=>Zyb ⟨a,l,c⟩ z (λh'=>qm C dst (.tuple #[]) h' K) h
     | _=>False)
   | _=>False)
 | .cap,[x]=>cZ e x λv=>(match v,argTypes with
   | .slice _ _ n,[t]=>(match C.P.underlying t with
     | some (.slice _)=>qm C dst (.int .i64 n) h K
     | _=>False)
   | _,_=>False)
 | _,_=>False
def Zh(C:bX)(o:Oper)(e:Env)(h:Hp)(K:Up->Hp->Prop):Prop:=
 match o.op with
 | .move x | .assign x=>qX C e x (λs _=>(match eZ s C.kN with
   | true=>EU C o.dst s h K
   | false=>False)) <| cZ e x λv=>qm C o.dst v h K
 | .pick c a b=>cZ e c λv=>(match v with
   | .bool t=>ak t (cZ e a λv=>qm C o.dst v h K) (cZ e b λv=>qm C o.dst v h K)
   | _=>False)
 | .alloc t=>uI C.P t λcs=>sj C o.dst cs (λa=>.pointer (some a)) (.box cs) (C.Nn t) h K
 | .box _ x=>cZ e x λv=>sj C o.dst v.cells.toList (λa=>.pointer (some a)) (.box v.cells.toList) none h K
 | .build t parts=>kF e (parts.toList.map (·.2)) λvs=>(match C.P.built t ((parts.toList.map (·.1)).zip vs)with
   | some cs=>qm C o.dst (.agg cs) h K
   | none=>False)
 | .buildSlice t n parts=>kF e (parts.toList.map (·.2)) λvs=>cK C.P t λel=>uI C.P el λz=>(match G9 z.length (C.P.cellsOf el),Nat.ble (n*C.P.cellsOf el) 16777216 with
   | true,true=>I8 (λi=>some (i*z.length,z.length)) (Yi n z) ((parts.toList.map (·.1)).zip vs) λcs=>
     sj C o.dst cs (λa=>.slice (some a) n n) (.lit cs n) none h K
   | _,_=>False)
 | .load t a=>(match a with
   | .tmp s=>(match e s with
     | .box cs=>tA C.P t cs 0 λv=>qm C o.dst v h K
     | .ref off=>(match e (C.rt s)with
       | .box cs=>tA C.P t cs off λv=>qm C o.dst v h K
       | _=>False)
     | .val (.pointer p)=>(match C.loc (C.rt s)with
       | true=>False
       | false=>Yv p λad=>Nr C.P t ad (λv=>Z6v (C.hint o.dst) v λv=>qm C o.dst v h K) h)
     | _=>False)
   | _=>False)
 | .store t a x=>cZ e x λv=>(match G9 v.cells.toList.length (C.P.cellsOf t),v.cells.toList.all Value.leaf with
   | true,true=>(match a with
     | .tmp s=>(match e s with
       | .box cs=>(match (C.P.info? t).isSome,o.dst,Nat.ble v.cells.toList.length cs.length with
         | true,none,true=>K (.set s (.box (Zn cs 0 v.cells.toList))) h
         | _,_,_=>False)
       | .ref off=>(match e (C.rt s)with
         | .box cs=>(match (C.P.info? t).isSome,o.dst,Nat.ble (off+v.cells.toList.length) cs.length with
           | true,none,true=>K (.set (C.rt s) (.box (Zn cs off v.cells.toList))) h
           | _,_,_=>False)
         | _=>False)
       | .val (.pointer p)=>(match C.loc (C.rt s)with
         | true=>False
         | false=>Yv p λad=>(match (C.P.info? t).isSome,o.dst with
           | true,none=>bD ad v.cells.toList (λh'=>K .none h') h
           | _,_=>False))
       | _=>False)
     | _=>False)
   | _,_=>False)
 | .nilCheck x=>cZ e x λv=>(match v with
   | .pointer p=>Yv p λad=>qm C o.dst (.pointer (some ad)) h K
   | .func (.func g) a b=>qm C o.dst (.func (.func g) a b) h K
   | _=>False)
 | .binOp op t x y _=>cZ e x λu=>cZ e y λv=>No C.P t op u v λr=>qm C o.dst r h K
 | .unOp op _ x=>cZ e x λu=>Np op u λr=>qm C o.dst r h K
 | .convert src dst x=>cZ e x λv=>(match C.P.underlying dst,v with
   | some (.int k),.int _ n=>(match (C.P.underlying src).isSome with
     | true=>qm C o.dst (.int k (k.wrap n)) h K
     | false=>False)
   | some .string,.slice a l c=>(match C.P.underlying src with
     | some (.slice el)=>(match C.P.underlying el with
       | some (.int .u8)=>Zmy ⟨a,l,c⟩ (λs=>qm C o.dst (.string s) h K) h
       | _=>False)
     | _=>False)
   | some (.slice el),.string s=>(match C.P.underlying src,C.P.underlying el with
     | some .string,some (.int .u8)=>Zdd s (λx h'=>qm C o.dst (.slice x.a x.len x.cap) h' K) h
     | _,_=>False)
   | _,_=>False)
 | .makeFunc (.func g) first captured=>kF e first.toList λus=>kF e captured.toList λvs=>qm C o.dst (.func (.func g) us.toArray vs.toArray) h K
 | .makeSlice t l c=>cZ e l λlv=>cZ e c λcv=>(match lv,cv with
   | .int _ len,.int _ cap=>cK C.P t λel=>uI C.P el λz=>(match G9 z.length (C.P.cellsOf el),G9 z.length 0 with
     | true,false=>eW len cap (C.P.bytesOf el) z (λs h'=>qm C o.dst (.slice s.a s.len s.cap) h' K) h
     | _,_=>False)
   | _,_=>False)
 | .slice t x lo hi none=>cZ e x λv=>(match v with
   | .string s=>(match C.P.underlying t with
     | some .string=>kO e lo 0 λl=>kO e hi s.size λu=>Yl s l u λr=>qm C o.dst (.string r) h K
     | _=>False)
   | .slice a n c=>cK C.P t λel=>kO e lo 0 λl=>kO e hi n λu=>ca ⟨a,n,c⟩ l u (C.P.cellsOf el) λs=>qm C o.dst (.slice s.a s.len s.cap) h K
   | .pointer p=>(match C.P.underlying t with
     | some (.array n el)=>CH C.P el <| Yv p λad=>kO e lo 0 λl=>kO e hi n λu=>ca ⟨some ad,n,n⟩ l u (C.P.cellsOf el) λs=>qm C o.dst (.slice s.a s.len s.cap) h K
     | _=>False)
   | _=>False)
 | .slice t x lo (some hi) (some mx)=>cZ e x λv=>(match v with
   | .slice a n c=>cK C.P t λel=>kO e lo 0 λl=>kO e (some hi) 0 λu=>kO e (some mx) 0 λm=>Nm ⟨a,n,c⟩ l u m (C.P.cellsOf el) λs=>qm C o.dst (.slice s.a s.len s.cap) h K
   | _=>False)
 | .fieldAddr t x f=>I7 C.P t f λoff=>(match x with
   | .tmp s=>(match e s with
     | .box _=>CG C o.dst s off h K
     | .ref o'=>CG C o.dst (C.rt s) (o'+off) h K
     | .val (.pointer p)=>Yv p λad=>qm C o.dst (.pointer (some (ad.add off))) h K
     | _=>False)
   | _=>False)
 | .field t x f=>I7 C.P t f λoff=>cZ e x λv=>Zs6 v λcs=>(match C.P.underlying t with
   | some (.struct fs)=>(match fs[f]? with
     | some fd=>tA C.P fd.type cs off λr=>qm C o.dst r h K
     | none=>False)
   | _=>False)
 | .indexAddr t x ix=>cZ e ix λiv=>(match iv with
   | .int _ n=>(match C.P.underlying t with
     | some (.slice el)=>CH C.P el <| cZ e x λv=>(match v with
       | .slice a l c=>zi ⟨a,l,c⟩ n (C.P.cellsOf el) λad=>qm C o.dst (.pointer (some ad)) h K
       | _=>False)
     | some (.array len el)=>CH C.P el <| CI n len (match x with
       | .tmp s=>(match e s with
         | .box _=>CG C o.dst s (n.toNat*C.P.cellsOf el) h K
         | .ref o'=>CG C o.dst (C.rt s) (o'+n.toNat*C.P.cellsOf el) h K
         | .val (.pointer p)=>Yv p λad=>qm C o.dst (.pointer (some (ad.add (n.toNat*C.P.cellsOf el)))) h K
         | _=>False)
       | .global g=>qm C o.dst (.pointer (some ((⟨g,0,none⟩:Addr).add (n.toNat*C.P.cellsOf el)))) h K
       | _=>False)
     | _=>False)
   | _=>False)
 | .index t x ix=>cZ e ix λiv=>cZ e x λv=>(match iv,v with
   | .int _ n,.string s=>(match C.P.underlying t with
     | some .string=>Vq s n λb=>qm C o.dst (.int .u8 b) h K
     | _=>False)
   | .int _ n,.agg cs=>(match C.P.underlying t with
     | some (.array len el)=>CH C.P el <| CI n len (Ns C.P ix el cs.toList (n.toNat*C.P.cellsOf el) λr=>qm C o.dst r h K)
     | _=>False)
   | _,_=>False)
 | .makeMap _ none=>zwy C e o.dst h K
 | .lookup t x ix false=>cZ e ix λiv=>Aw C.P t <| qX C e x (λ_ m=>(match iv with
   | .int .i64 n=>qm C o.dst (.bool (ER m n)) h K
   | _=>False)) False
 | .mapUpdate t x k y=>cZ e k λkv=>cZ e y λyv=>Aw C.P t <| qX C e x (λs m=>(match kv,yv,o.dst with
   | .int .i64 n,.bool b,none=>K (.set s (.mp (Au m n b))) h
   | _,_,_=>False)) False
 | .extract x i=>cZ e x λv=>(match v with
   | .tuple vs=>(match vs.toList[i]? with
     | some u=>qm C o.dst u h K
     | none=>False)
   | _=>False)
 | .call c=>(match c.callee with
   | .builtin b=>Qh C b c.argTypes.toList c.args.toList e h o.dst K
   | .value f=>cZ e f λfv=>(match fv with
     | .func (.func g) first cap=>kF e c.args.toList λvs=>
       C.f g (first.toList++vs++cap.toList) (λr h'=>qm C o.dst r h' K) h
     | _=>False)
   | _=>False)
 | _=>False
def Vp(C:bX)(ops:Array Oper)(K:Env->Hp->Prop):List Nat->Env->Hp->Prop
 | [],e,h=>K e h
 | i :: r,e,h=>
   match ops[i]? with
   | none=>False
   | some o=>
     match o.guard with
     | none=>Zh C o e h λu h'=>Vp C ops K r (e.cJ C.rt u) h'
     | some (j,want)=>
       match (ops[j]?).bind (·.dst)with
       | none=>False
       | some d=>
         match C.loc d,e d with
         | false,.val (.bool t)=>
           ak t
            (match want with
              | true=>Zh C o (e.set d (.val (.bool true))) h λu h'=>Vp C ops K r ((e.set d (.val (.bool true))).cJ C.rt u) h'
              | false=>yF C o.dst h λu h'=>Vp C ops K r ((e.set d (.val (.bool true))).cJ C.rt u) h')
            (match want with
              | false=>Zh C o (e.set d (.val (.bool false))) h λu h'=>Vp C ops K r ((e.set d (.val (.bool false))).cJ C.rt u) h'
              | true=>yF C o.dst h λu h'=>Vp C ops K r ((e.set d (.val (.bool false))).cJ C.rt u) h')
         | false,.val (.tuple _)=>yF C o.dst h λu h'=>Vp C ops K r (e.cJ C.rt u) h'
         | _,_=>False
def Yf(C:bX)(o:Oper):List Nat:=
 (match o.dst with | some d=>[d] | none=>[])++(match o.op with | .store _ (.tmp s) _=>[s,C.rt s] | .mapUpdate _ (.tmp s) _ _=>[C.rt s] | _=>[])++(match o.guard with | some _=>[] | none=>[])
def zw3(ops:Array Oper)(o:Oper):List Nat:=
 match o.guard with
 | some (j,_)=>(match (ops[j]?).bind (·.dst)with | some d=>[d] | none=>[])
 | none=>[]
def Y6(C:bX):Code->List Nat
 | .region _ ops _=>ops.toList.flatMap λo=>Yf C o++zw3 ops o
 | .seq a b=>Y6 C a++Y6 C b
 | .cond _ a b=>Y6 C a++Y6 C b
 | .block _ a=>Y6 C a
 | .loop a=>Y6 C a
 | .rangeFunc _ ps a b=>ps.toList++Y6 C a++Y6 C b
 | .scope a=>Y6 C a
 | _=>[]
def nS:List (Nat×dp)->Type
 | []=>Unit
 | (_,s) :: r=>s.T×nS r
def LT.up:(ls:List Lf)->LT ls->List Value
 | [],_=>[]
 | l :: r,x=>l.up x.1 :: LT.up r x.2
def LT.dn:(ls:List Lf)->List Value->(LT ls->Prop)->Prop
 | [],[],K=>K ()
 | l :: r,v :: vs,K=>l.dn v λx=>LT.dn r vs λxs=>K (x,xs)
 | _,_,_=>False
def dp.up:(s:dp)->s.T->Slot
 | .leaf l,x=>.val (l.up x)
 | .agg ls,x=>.val (.agg (LT.up ls x).toArray)
 | .box ls,x=>.box (LT.up ls x)
 | .mp,x=>.mp x
def dp.dn:(s:dp)->Slot->(s.T->Prop)->Prop
 | .leaf l,.val v,K=>l.dn v K
 | .agg ls,.val (.agg cs),K=>LT.dn ls cs.toList K
 | .box ls,.box cs,K=>LT.dn ls cs K
 | .mp,.mp m,K=>K m
 | _,_,_=>False
def CJ:(L:List (Nat×dp))->Env->(nS L->Prop)->Prop
 | [],_,K=>K ()
 | (t,s) :: r,e,K=>s.dn (e t) λx=>CJ r e λxs=>K (x,xs)
def Ql:(L:List (Nat×dp))->nS L->Nat->Option Slot
 | [],_,_=>none
 | (t',s) :: r,x,t=>bif G9 t t' then some (s.up x.1)else Ql r x.2 t
def qg(e:Env)(aak:List Nat)(L:List (Nat×dp))(s:nS L):Env:=λt=>
 match Ql L s t with
 | some x=>x
 | none=>bif eZ t aak then .fG else match e t with
   | .ref _=>.fG
   | .lit _ _=>.fG
   | x=>x
inductive Ex where
 | normal
 | exit (id:Nat)
 | ret
inductive An where
 | leaf
 | draw (order:List Nat)
 | CK (order Ax:List Nat)
 | CM (p:List Nat) (b:Nat) (q as:List Nat)
 | seq (a b:An)
 | join (L:List (Nat×dp)) (a b:An)
 | cond (a b:An)
 | block (a:An)
 | loop (L:List (Nat×dp)) (a:An)
 | back (L:List (Nat×dp)) (a b:An)
inductive Cls where
 | pure | load | call | new | other
 deriving DecidableEq
def eD(C:bX)(o:Oper):Cls:=
 match o.op with
 | .move _ | .assign _ | .pick .. | .build .. | .binOp .. | .unOp .. | .makeFunc .. | .slice .. | .fieldAddr .. | .field .. | .indexAddr .. | .index .. | .extract .. | .nilCheck _=>.pure
 | .convert _ dst _=>(match C.P.underlying dst with | some (.int _)=>.pure | _=>.other)
 | .alloc _ | .box .. | .buildSlice ..=>(match o.dst with
   | some d=>(match C.loc d with | true=>.pure | false=>.new)
   | none=>.other)
 | .load _ (.tmp s)=>(match C.loc (C.rt s)with | true=>.pure | false=>.load)
 | .load ..=>.load
 | .store _ (.tmp s) _=>(match C.loc (C.rt s)with | true=>.pure | false=>.other)
 | .makeSlice ..=>(match o.dst with
   | some d=>(match C.loc d with
     | true=>.other
     | false=>(match Pc d C.n with
       | true=>.new
       | false=>.other))
   | none=>.other)
 | .call c=>(match c.callee with
   | .builtin .len | .builtin .max | .builtin .min | .builtin .cap=>.pure
   | .value (.func g)=>(match C.tz g with | true=>.other | false=>.call)
   | .value (.tmp _)=>(match C.gn with | []=>.call | _=>.other)
   | _=>.other)
 | _=>.other
def tB(C:bX):Operand->List Nat
 | .tmp t=>[t,C.rt t]
 | _=>[]
def uJ(C:bX)(ops:Array Oper)(o:Oper):List Nat:=
 o.op.operands.toList.flatMap (tB C)++zw3 ops o++(match o.dst with | some d=>[C.rt d] | none=>[])
def tC(C:bX)(ops:Array Oper)(o:Oper):List Nat:=uJ C ops o++(uJ C ops o).map C.rt
def kG(a b:List Nat):Bool:=a.all λx=>!eZ x b
def zia:Option (Nat×Bool)->Option (Nat×Bool)->Bool
 | _,none=>true
 | some (i,a),some (j,b)=>G9 i j&&(match a,b with | true,true=>true | false,false=>true | _,_=>false)
 | none,some _=>false
def EW(C:bX)(ox oy:Oper):Bool:=
 match eD C ox,eD C oy with
 | .pure,_=>true
 | .load,.pure | .load,.load | .load,.call | .load,.new=>true
 | .call,.new=>zia ox.guard oy.guard
 | .new,.new=>zia ox.guard oy.guard
 | _,_=>false
def pT(ops:Array Oper):Nat->Nat->Nat->Bool
 | 0,_,_=>false
 | d+1,x,y=>match ops[y]? with
   | some o=>o.after.toList.any (λe=>Ts .any e&&G9 e.on x)||o.after.toList.any (λe=>Ts .any e&&(Pc x e.on&&pT ops d x e.on))
   | none=>false
def nT(o:Oper):Bool:=
 match o.op with
 | .makeMap ..=>true
 | _=>false
def tD(C:bX)(ops:Array Oper)(x y:Nat):Bool:=
 match ops[x]?,ops[y]? with
 | some ox,some oy=>
   EW C ox oy&&!nT ox&&!nT oy&&kG (Yf C ox) (tC C ops oy)&&kG (Yf C oy) (tC C ops ox)&&kG (Yf C ox) (Yf C oy)
 | _,_=>false
def yH(C:bX)(ops:Array Oper):List Nat->Bool
 | []=>true
 | x :: r=>r.all (λy=>pT ops ops.size x y||tD C ops x y)&&yH C ops r
def EX:List Nat->Bool
 | []=>true
 | x :: r=>!eZ x r&&EX r
def zho(ops:Array Oper):Bool:=
 (List.range ops.size).all λi=>match ops[i]? with
   | some o=>o.after.toList.all λe=>!Ts .any e||Pc e.on i
   | none=>true
def zhk(C:bX)(ops:Array Oper)(order:List Nat):Bool:=
 C.P.follows .mixedOrders&&zho ops&&Nat.ble order.length ops.size&&EX order&&order.all (λi=>Pc i ops.size)&&(List.range ops.size).all (λi=>eZ i order)&&yH C ops order
def EY(C:bX)(ops:Array Oper)(as:List Nat)(b x:Nat):Bool:=
 match ops[x]?,ops[b]? with
 | some ox,some ob=>(match eZ x as with
   | true=>(match eD C ox with | .load=>true | _=>false)&&ox.guard.isNone&&!nT ob&&kG (Yf C ox) (tC C ops ob)&&kG (Yf C ob) (tC C ops ox)&&kG (Yf C ox) (Yf C ob)&&kG (Yf C ox) (ox.op.operands.toList.flatMap (tB C)++(ox.op.operands.toList.flatMap (tB C)).map C.rt)
   | false=>tD C ops x b)
 | _,_=>false
def I'(C:bX)(ops:Array Oper)(x:Nat):Bool:=
 match ops[x]? with
 | some ox=>(match eD C ox with | .pure | .load=>true | _=>false)
 | none=>false
def CN(C:bX)(ops:Array Oper)(a x:Nat):Bool:=
 match ops[x]?,ops[a]? with
 | some ox,some oa=>kG (Yf C ox) (tC C ops oa)&&kG (Yf C ox) (Yf C oa)&&!nT oa
 | _,_=>false
def Z8i(C:bX)(ops:Array Oper)(as:List Nat)(b:Nat):List Nat->Bool
 | []=>true
 | a :: r=>(!eZ a as||r.all λx=>pT ops ops.size x b||CN C ops a x)&&Z8i C ops as b r
def zpa(C:bX)(ops:Array Oper)(p:List Nat)(b:Nat)(q as:List Nat):Bool:=
 C.P.follows .mixedOrders&&zho ops&&Nat.ble (p++b :: q).length ops.size&&EX (p++b :: q)&&(p++b :: q).all (λi=>Pc i ops.size)&&(List.range ops.size).all (λi=>eZ i (p++b :: q)) &&
  yH C ops (p++q)&&q.all (λy=>pT ops ops.size b y)&&p.all (λx=>pT ops ops.size x b||(EY C ops as b x&&I' C ops x))&&Z8i C ops as b p&&as.all (λa=>match ops[a]? with | some oa=>(match eD C oa with | .load=>true | _=>false) | none=>false)&&(ops[b]?).isSome
def EZ(C:bX)(ops:Array Oper)(as:List Nat)(e:Env)(h:Hp)(P:Prop):Prop:=
 match as with
 | []=>P
 | a :: r=>(match ops[a]? with
   | some o=>Zh C o e h λu _=>(match u with
     | .set d (.val v)=>(match e d with
       | .val v'=>v=v'
       | _=>False)
     | _=>False)
   | none=>False)/\EZ C ops r e h P
def dp.val:(s:dp)->s.T->Value
 | .leaf l,x=>l.up x
 | .agg ls,x=>.agg (LT.up ls x).toArray
 | .box _,_=>.tuple #[]
 | .mp,_=>.tuple #[]
def dp.cells:(s:dp)->s.T->List Value
 | .leaf l,x=>[l.up x]
 | .agg ls,x=>LT.up ls x
 | .box _,_=>[]
 | .mp,_=>[]
def dp.size:dp->Nat
 | .leaf _=>1
 | .agg ls=>ls.length
 | .box _=>0
 | .mp=>0
def Nu{S:Type}(T:dp)(a:Addr)(body:Int->T.T->S->(S->Hp->Prop)->Hp->Prop)(s0:S)(K:S->Hp->Prop)(h:Hp):Prop:=
 ∃(x:Sl) (I:Nat->S->Hp->Prop),x.len<=140737488355328/\I x.len s0 h /\
  (∀i s h',I i s h'->h'.cell a=some (.slice x.a x.len x.cap)) /\
  (∀i s h',i<x.len->I (i+1) s h'->∃(ad:Addr) (v:T.T),x.a=some ad/\(∀j u,(T.cells v)[j]?=some u->h'.cell (ad.add (i*T.size+j))=some u)/\body i v s (λs' kP=>I i s' kP) h') /\
  ∀s h',I 0 s h'->K s h'
def gD:Code->List Nat
 | .region _ ops _=>ops.toList.flatMap λo=>match o.dst with | some d=>[d] | none=>[]
 | .seq a b=>gD a++gD b
 | .cond _ a b=>gD a++gD b
 | .block _ a=>gD a
 | .loop a=>gD a
 | .scope a=>gD a
 | _=>[]
def Xk:Code->Bool
 | .seq a b=>Xk a&&Xk b
 | .cond _ a b=>Xk a&&Xk b
 | .block _ a=>Xk a
 | .loop a=>Xk a
 | .scope a=>Xk a
 | .rangeFunc ..=>false
 | _=>true
def zw7:dp->Bool
 | .box _=>true
 | _=>false
def zuv(C:bX)(L:List (Nat×dp))(p0 p1:Nat)(x y:Code):Bool:=
 L.all (λq=>zw7 q.2&&eZ q.1 (Y6 C x++Y6 C y)&&!eZ q.1 (p0 :: p1 :: (gD x++gD y))&&C.loc q.1)&&Xk x&&Xk y&&!C.loc p0&&!C.loc p1&&Pc p0 C.n&&Pc p1 C.n&&!G9 p0 p1
def Zp5(C:bX):List Nat->(Env->Hp->Prop)->Env->Hp->Prop
 | [],K,e,h=>K e h
 | d :: r,K,e,h=>match e d with
   | .box cs=>Ys cs (λa h'=>Zp5 C r K (e.alloc C.rt d (.val (.pointer (some a)))) h') h
   | _=>False
def den(C:bX):Code->An->(Ex->Env->Hp->Prop)->Env->Hp->Prop
 | .skip,_,K,e,h=>K .normal e h
 | .exit j,_,K,e,h=>K (.exit j) e h
 | .ret,_,K,e,h=>K .ret e h
 | .region _ ops false,_,K,e,h=>Vp C ops (K .normal) (List.range ops.size) e h
 | .region _ ops true,.draw order,K,e,h=>(match zhk C ops order with
   | true=>Vp C ops (K .normal) order e h
   | false=>False)
 | .region id ops true,.CK order Ax,K,e,h=>(match zhk C ops order&&Ax.all (λd=>eZ d (Y6 C (.region id ops true)))with
   | true=>Vp C ops (Zp5 C Ax (K .normal)) order e h
   | false=>False)
 | .region _ ops true,.CM p b q as,K,e,h=>(match zpa C ops p b q as with
   | true=>Vp C ops (λe1 h1=>Vp C ops (λe2 h2=>EZ C ops as e2 h2 (Vp C ops (K .normal) q e2 h2)) [b] e1 h1) p e h
   | false=>False)
 | .seq x y,.seq a b,K,e,h=>den C x a (λex e' h'=>match ex with
   | .normal=>den C y b K e' h'
   | ex=>K ex e' h') e h
 | .seq x y,.join L a b,K,e,h=>zy (S:=nS L) (λs h'=>den C y b K (qg e (Y6 C x) L s) h')
   (λk=>den C x a (λex e' h'=>match ex with
     | .normal=>CJ L e' λs=>k s h'
     | ex=>K ex e' h') e h)
 | .cond c x y,.cond a b,K,e,h=>cZ e c λv=>(match v with
   | .bool t=>ak t (den C x a K e h) (den C y b K e h)
   | _=>False)
 | .block id x,.block a,K,e,h=>den C x a (λex e' h'=>match ex with
   | .exit j=>(match G9 j id with
     | true=>K .normal e' h'
     | false=>K (.exit j) e' h')
   | ex=>K ex e' h') e h
 | .loop x,.loop L a,K,e,h=>CJ L e λs0=>zx (S:=nS L) (λs k h1=>den C x a (λex e' h'=>match ex with
    | .normal=>CJ L e' λs=>k s h'
    | ex=>K ex e' h') (qg e (Y6 C x) L s) h1) s0 h
 | .rangeFunc g ⟨[p0,p1]⟩ x y,.back L a b,K,e,h=>(match zuv C L p0 p1 x y with
   | true=>cZ e g λgv=>(match gv with
     | .func (.func gf) ⟨[]⟩ ⟨[.pointer (some ad)]⟩=>(match Z98 gf C.fk with
       | some T=>CJ L e λs0=>Nu (S:=nS L) T ad (λi v s k h1=>den C x a (λex e1 h2=>match ex with
          | .normal=>den C y b (λex e2 h3=>match ex with
            | .normal=>CJ L e2 λs'=>k s' h3
            | _=>False) e1 h2
          | _=>False) (((qg e ([p0,p1]++Y6 C x++Y6 C y) L s).set p0 (.val (.int .i64 i))).set p1 (.val (T.val v))) h1)
          s0 (λs h'=>K .normal (qg e ([p0,p1]++Y6 C x++Y6 C y) L s) h') h
       | none=>False)
     | _=>False)
   | false=>False)
 | _,_,_,_,_=>False
def E1(C:bX)(rs:List ResultVar)(e:Env)(K:List Value->Prop):Prop:=
 match rs with
 | []=>K []
 | .tmp t :: r=>(match e t with
   | .val v=>E1 C r e λvs=>K (v :: vs)
   | _=>False)
 | .cell t ty :: r=>(match e t with
   | .box cs=>tA C.P ty cs 0 λv=>E1 C r e λvs=>K (v :: vs)
   | _=>False)
def Nv(vs:List Value):Value:=match vs with | [v]=>v | vs=>.tuple vs.toArray
def E2(args:List Value):Env:=λt=>match args[t]? with | some v=>.val v | none=>.fG
def E3(C:bX)(fn:Func)(c:Code)(an:An)(args:List Value)(K:Value->Hp->Prop)(h:Hp):Prop:=
 den C c an (λex e h'=>match ex with
  | .exit _=>False
  | _=>E1 C fn.results.toList e λvs=>K (Nv vs) h') (E2 args) h
end Den
end

section
namespace Den
open Go
def Sub(h:Hp)(w:World):Prop:=∀k b,h k=some b->w.heap[k]?=some (.cells b.cells.toArray b.elem b.fz)
def Sub.cell{h:Hp}{w:World}(hs:Sub h w){a:Addr}{v:Value}(e:h.cell a=some v):w.cell? a=some v:=by
 unfold Hp.cell at e;unfold World.cell?;cases hsp:a.spot with
 | some x=>rw[hsp]at e;cases e
 | none=>
   rw[hsp]at e;simp only at e;cases hb:h a.block with
   | none=>rw[hb]at e;cases e
   | some b=>rw[hb]at e;simp only at e;rw[hs _ _ hb];simpa using e
def Sub.mono{h h':Hp}{w:World}(hs:Sub h' w)(hl:h.le h'):Sub h w:=λk b e=>hs k b (hl k b e)
def Sub.lt{h:Hp}{w:World}(hs:Sub h w){k:Nat}{b:qT}(e:h k=some b):k<w.heap.size:=by
 rcases Jx k w.heap.size with h' | h'
 exact h';have:=hs k b e;rw[Tn h']at this;cases this
def Sub.fresh{h:Hp}{w:World}(hs:Sub h w){k:Nat}(e:w.heap.size<=k):h k=none:=by
 cases hk:h k with
 | none=>rfl
 | some b=>have:=hs.lt hk;omega
section
variable {P:Program}{w:World}
def Sub.fin{h:Hp}{w:World}(hs:Sub h w):h.Fin:=⟨w.heap.size,λ_ hk=>hs.fresh hk⟩
def zw5{op:BinOp}{k k':IntKind}{a b:Int}{K:Value->Prop}(h:zw4 op k k' a b K)(t:TypeId) :
 ∃r,K r/\(binOp op t (.int k a) (.int k' b)).run P w=.ok r w:=by
 cases op
 case shl=>
  obtain⟨hb,hK⟩:0<=b/\K (.int k (k.wrap (a*2 ^ (min b.toNat k.bits)))):=h;refine⟨_,hK,?_⟩;show(Op.shift .shl k a k' b).run P w=_;unfold Op.shift;rw[if_neg zO];rfl
 case shr=>
  obtain⟨hb,hK⟩:0<=b/\K (.int k (a.fdiv (2 ^ (min b.toNat k.bits)))):=h;refine⟨_,hK,?_⟩;show(Op.shift .shr k a k' b).run P w=_;unfold Op.shift;rw[if_neg zO];rfl
 case quo=>
  obtain⟨rfl,hb,hK⟩:k=k'/\b≠0/\K (.int k (k.wrap (a.tdiv b))):=qn.1 h;refine⟨_,hK,?_⟩;show(if k≠k then stuck "BinOp: operands of different kinds" else Op.intDiv .quo k a b).run P w=_;rw[if_neg zS];unfold Op.intDiv;rw[if_neg hb];rfl
 case rem=>
  obtain⟨rfl,hb,hK⟩:k=k'/\b≠0/\K (.int k (a.tmod b)):=qn.1 h;refine⟨_,hK,?_⟩;show(if k≠k then stuck "BinOp: operands of different kinds" else Op.intDiv .rem k a b).run P w=_;rw[if_neg zS];unfold Op.intDiv;rw[if_neg hb];rfl
 case add=>
  obtain⟨rfl,hK⟩:k=k'/\K (.int k (k.wrap (a+b))):=qn.1 h;refine⟨_,hK,?_⟩;show(if k≠k then stuck "BinOp: operands of different kinds" else Op.intArith .add k a b).run P w=_;rw[if_neg zS];rfl
 case sub=>
  obtain⟨rfl,hK⟩:k=k'/\K (.int k (k.wrap (a-b))):=qn.1 h;refine⟨_,hK,?_⟩;show(if k≠k then stuck "BinOp: operands of different kinds" else Op.intArith .sub k a b).run P w=_;rw[if_neg zS];rfl
 case mul=>
  obtain⟨rfl,hK⟩:k=k'/\K (.int k (k.wrap (a*b))):=qn.1 h;refine⟨_,hK,?_⟩;show(if k≠k then stuck "BinOp: operands of different kinds" else Op.intArith .mul k a b).run P w=_;rw[if_neg zS];rfl
 case and=>
  obtain⟨rfl,hK⟩:k=k'/\K (.int k (Yw .and k a b)):=qn.1 h;refine⟨_,hK,?_⟩;show(if k≠k then stuck "BinOp: operands of different kinds" else Op.intBits .and k a b).run P w=_;rw[if_neg zS];rfl
 case or=>
  obtain⟨rfl,hK⟩:k=k'/\K (.int k (Yw .or k a b)):=qn.1 h;refine⟨_,hK,?_⟩;show(if k≠k then stuck "BinOp: operands of different kinds" else Op.intBits .or k a b).run P w=_;rw[if_neg zS];rfl
 case xor=>
  obtain⟨rfl,hK⟩:k=k'/\K (.int k (Yw .xor k a b)):=qn.1 h;refine⟨_,hK,?_⟩;show(if k≠k then stuck "BinOp: operands of different kinds" else Op.intBits .xor k a b).run P w=_;rw[if_neg zS];rfl
 case andNot=>
  obtain⟨rfl,hK⟩:k=k'/\K (.int k (Yw .andNot k a b)):=qn.1 h;refine⟨_,hK,?_⟩;show(if k≠k then stuck "BinOp: operands of different kinds" else Op.intBits .andNot k a b).run P w=_;rw[if_neg zS];rfl
 all_goals
  obtain⟨rfl,hK⟩:=qn.1 h;refine⟨_,hK,?_⟩;show(if k≠k then stuck "BinOp: operands of different kinds" else Op.intCmp _ a b).run P w=_;rw[if_neg zS];rfl
def zn{t:TypeId}{d:TypeDesc}(h:P.underlying t=some d):(underlying t).run P w=.ok d w:=by
 unfold Go.underlying;simp only[Jg,run_program,Jb,h,Jj]
def zw0(d:Nat){t:TypeId}{a b:Bool}(hu:P.underlying t=some .bool):(L7 (d+1) t (.bool a) (.bool b)).run P w=.ok (a==b) w:=by
 unfold L7;simp only[Jg,zn hu,Jb,Jj]
def zqa{t:TypeId}{a b:Bool}(hu:P.underlying t=some .bool):(Op.equal t (.bool a) (.bool b)).run P w=.ok (a==b) w:=
 zw0 9999 hu
def zzb(d:Nat){t e:TypeId}{a:Option Addr}{l c l' c':Nat}(hu:P.underlying t=some (.slice e)) :
 (L7 (d+1) t (.slice a l c) (.slice none l' c')).run P w=.ok a.isNone w:=by
 unfold L7;cases a<;>simp only[Jg,zn hu,Jb,Jj]<;>rfl
def ztp{t e:TypeId}{a:Option Addr}{l c l' c':Nat}(hu:P.underlying t=some (.slice e)) :
 (Op.equal t (.slice a l c) (.slice none l' c')).run P w=.ok a.isNone w:=
 zzb 9999 hu
def zng(d:Nat){t:TypeId}{k k':IntKind}{a b:Int}(hu:P.underlying t=some (.int k')):(L7 (d+1) t (.int k a) (.int k b)).run P w=.ok (a==b) w:=by
 unfold L7;simp only[Jg,zn hu,Jb];rfl
def Zbf{t:TypeId}{k:IntKind}(hu:P.underlying t=some (.int k)):(isAgg t).run P w=.ok false w:=by
 simp only[isAgg,Jg,zn hu,Jb,Jj]
def zl1{t:TypeId}{k:IntKind}(hu:P.underlying t=some (.int k)){cs:Array Value}{i:Nat}{v:Value}(hv:cs[i]?=some v):(part t cs i).run P w=.ok v w:=by
 unfold part;simp only[Jg,Zbf hu,Jb,hv];rfl
def Zb0{t el:TypeId}{kk k k2:IntKind}{a b c d:Int}(hu:P.underlying t=some (.array 2 el))(he:P.underlying el=some (.int kk))(hc:∀w,(Go.sizeOf el).run P w=.ok 1 w) :
 (Op.equal t (.agg #[.int k a,.int k2 b]) (.agg #[.int k c,.int k2 d])).run P w=.ok (a==c&&b==d) w:=by
 show(L7 (9999+1) t _ _).run P w=_;unfold L7;simp only[Jg,zn hu,Jb,hc];simp only[Std.Legacy.Range.forIn_eq_forIn_range',Std.Legacy.Range.size,Nat.sub_zero,Nat.add_sub_cancel,Nat.div_one,List.range'_succ,List.range'_zero,List.forIn_cons,List.forIn_nil];have p1:∀w,(part el #[Pt k a,Pt k2 b] (0*1)).run P w=.ok (.int k a) w:=λw=>zl1 he rfl
 have p2:∀w,(part el #[Pt k c,Pt k2 d] (0*1)).run P w=.ok (.int k c) w:=λw=>zl1 he rfl
 have p3:∀w,(part el #[Pt k a,Pt k2 b] ((0+1)*1)).run P w=.ok (.int k2 b) w:=λw=>zl1 he rfl
 have p4:∀w,(part el #[Pt k c,Pt k2 d] ((0+1)*1)).run P w=.ok (.int k2 d) w:=λw=>zl1 he rfl
 have q1:∀w,(L7 9999 el (.int k a) (.int k c)).run P w=.ok (a==c) w:=λw=>zng 9998 he
 have q2:∀w,(L7 9999 el (.int k2 b) (.int k2 d)).run P w=.ok (b==d) w:=λw=>zng 9998 he
 simp only[Jg,p1,p2,q1,Jb];cases h1:(a==c);simp
 . simp only[Bool.not_true,Ur,if_false,Jj,Jb,Jg,p3,p4,q2];cases h2:(b==d)<;>simp
def Z3b{op:BinOp}{t:TypeId}{x y:Value}{K:Value->Prop}(h:No P t op x y K)(ox oy:Operand) :
 ∃r,K r/\(eqGuard op t ox oy x y >>= λ_=>binOp op t x y).run P w=.ok r w:=by
 unfold No at h;split at h
 . rename_i k a k' b;obtain⟨r,hK,hr⟩:=zw5 (P:=P) (w:=w) h t;refine⟨r,hK,?_⟩;have:(eqGuard op t ox oy (.int k a) (.int k' b)).run P w=.ok () w:=by
    unfold eqGuard;split<;>simp
   simp[this,hr]
 . rename_i a b;have hg:(eqGuard op t ox oy (.string a) (.string b)).run P w=.ok () w:=by
    unfold eqGuard;split<;>simp
   split at h
   . refine⟨_,h.2,?_⟩;simp only[Jg,hg,Jb,binOp,Op.stringOp];rw[if_neg (by have:=h.1;simp[IntKind.max,T7,Tt];omega)];rfl
   exact⟨_,h,by simp[hg,binOp,Op.stringOp]⟩;exact⟨_,h,by simp[hg,binOp,Op.stringOp]⟩;exact h.elim
 . rename_i a b;have hg:(eqGuard op t ox oy (.bool a) (.bool b)).run P w=.ok () w:=by
    unfold eqGuard;split<;>simp
   split at h
   . rename_i hu;refine⟨_,h,?_⟩;simp only[Jg,hg,Jb];show(Op.equal t (.bool a) (.bool b) >>= λr=>Pure.pure (Value.bool r)).run P w=_;simp only[Jg,zqa hu,Jb,Jj]
   . rename_i hu;refine⟨_,h,?_⟩;simp only[Jg,hg,Jb];show(Op.equal t (.bool a) (.bool b) >>= λr=>Pure.pure (Value.bool (!r))).run P w=_;simp only[Jg,zqa hu,Jb,Jj]
   exact h.elim
 . rename_i a l c l' c';have hg:(eqGuard op t ox oy (.slice a l c) (.slice none l' c')).run P w=.ok () w:=by
    unfold eqGuard;split<;>simp
   split at h
   . rename_i hu;refine⟨_,h,?_⟩;simp only[Jg,hg,Jb];show(Op.equal t (.slice a l c) (.slice none l' c') >>= λr=>Pure.pure (Value.bool r)).run P w=_;simp only[Jg,ztp hu,Jb,Jj]
   . rename_i hu;refine⟨_,h,?_⟩;simp only[Jg,hg,Jb];show(Op.equal t (.slice a l c) (.slice none l' c') >>= λr=>Pure.pure (Value.bool (!r))).run P w=_;simp only[Jg,ztp hu,Jb,Jj]
   exact h.elim
 . rename_i xs ys;unfold Zsj at h;split at h
   . rename_i el hu;split at h
     . rename_i kk he hc JA;have hc:=Ut hc;split at h
       . rename_i k a k2 b k3 c k4 d hx hy;obtain⟨e1,h'⟩:=qn.1 h;obtain⟨e2,kP⟩:=qn.1 h';clear h h';subst e1 e2;have h:=kP;clear kP;have ex:xs=#[.int k a,.int k2 b]:=by rw[<-Array.toArray_toList (xs:=xs),hx]
         have ey:ys=#[.int k c,.int k2 d]:=by rw[<-Array.toArray_toList (xs:=ys),hy]
         subst ex ey;have hz:∀w,(Go.sizeOf el).run P w=.ok 1 w:=λw=>by
          cases hi:P.info? el with
          | none=>simp[Program.cellsOf,hi]at hc
          | some i=>
            have:i.size=1:=by simpa [Program.cellsOf,hi] using hc
            simp[Go.sizeOf,typeInfo,hi,this]
         have hg:(eqGuard op t ox oy (.agg #[.int k a,.int k2 b]) (.agg #[.int k c,.int k2 d])).run P w=.ok () w:=by
          cases op<;>simp[eqGuard,run_program,JA]
         have E4:(Op.equal t (.agg #[.int k a,.int k2 b]) (.agg #[.int k c,.int k2 d])).run P w=.ok (a==c&&b==d) w:=Zb0 hu he hz;split at h
         . refine⟨_,h,?_⟩;simp only[Jg,hg,Jb];show(Op.equal t (.agg #[.int k a,.int k2 b]) (.agg #[.int k c,.int k2 d]) >>= λr=>Pure.pure (Value.bool r)).run P w=_;simp only[Jg,E4,Jb,Jj]
         . refine⟨_,h,?_⟩;simp only[Jg,hg,Jb];show(Op.equal t (.agg #[.int k a,.int k2 b]) (.agg #[.int k c,.int k2 d]) >>= λr=>Pure.pure (Value.bool (!r))).run P w=_;simp only[Jg,E4,Jb,Jj]
         exact h.elim
       exact h.elim
     exact h.elim
   exact h.elim
 exact h.elim
def Zcc{op:UnOp}{x:Value}{K:Value->Prop}(h:Np op x K):∃r,K r/\(Op.unary op x).run P w=.ok r w:=by
 unfold Np at h;split at h;exact⟨_,h,by simp[Op.unary]⟩;exact⟨_,h,by simp[Op.unary,Op.intArith]⟩;exact h.elim
def JB{t:TypeId}{b:Bool}(h:fa P t=some b):(isAgg t).run P w=.ok b w:=by
 unfold fa at h;cases hd:P.underlying t with
 | none=>rw[hd]at h;cases h
 | some d=>
   rw[hd]at h;simp only[isAgg,Jg,zn hd,Jb];cases d<;>simp_all
def yf{t:TypeId}{i:TypeInfo}(h:P.info? t=some i):(Go.sizeOf t).run P w=.ok i.size w:=by
 simp[Go.sizeOf,typeInfo,h]
def Yc{t:TypeId}{i:TypeInfo}(h:P.info? t=some i):P.cellsOf t=i.size:=by simp[Program.cellsOf,h]
def zdy{t:TypeId}{i:TypeInfo}(h:P.info? t=some i):P.bytesOf t=i.bytes:=by simp[Program.bytesOf,h]
def z5p{t:TypeId}{d:TypeDesc}(h:P.underlying t=some d):∃i,P.info? t=some i:=by
 cases hi:P.info? t with
 | none=>simp[Program.underlying,hi]at h
 | some i=>exact⟨i,rfl⟩
def zwb{n:Nat}{t:TypeId}{ls:List Lf}(h:ET P n t=some ls):∃d,P.underlying t=some d:=by
 cases n with
 | zero=>simp[ET]at h
 | succ n=>
   cases hd:P.underlying t with
   | none=>simp[ET,hd]at h
   | some d=>exact⟨d,rfl⟩
def zqn{h:Hp}(hs:Sub h w):∀{ls:List Lf} {a:Addr} {i:Nat} {K:List Value->Prop},Nq ls a i K h ->
 ∃vs,K vs/\vs.length=ls.length/\∀acc,(loadCellsFrom a i ls.length acc).run P w=.ok (acc++vs.toArray) w
 | [],a,i,K,hk=>⟨[],hk,rfl,λacc=>by simp[loadCellsFrom]⟩
 | l :: r,a,i,K,hk=>by
   obtain⟨x,hx,hk⟩:=hk;obtain⟨vs,h1,h2,h3⟩:=zqn hs hk;refine⟨l.up x :: vs,h1,by simp[h2],λacc=>?_⟩;have hc:=hs.cell hx;simp only[List.length_cons,loadCellsFrom,Jg,run_load,hc,Jb];rw[h3];simp
def Zbg{h:Hp}(hs:Sub h w){t:TypeId}{a:Addr}{K:Value->Prop}(hk:Nr P t a K h) :
 ∃v,K v/\(loadVar t a).run P w=.ok v w:=by
 unfold Nr at hk;split at hk
 . rename_i ls hl;obtain⟨d,hd⟩:=zwb hl;obtain⟨i,hi⟩:=z5p hd;split at hk;exact hk.elim
   . rename_i iP;split at hk
     . rename_i hlen;obtain⟨vs,h1,h2,h3⟩:=zqn (P:=P) hs hk;refine⟨_,h1,?_⟩;have CP:ls.length=i.size:=by have:=Ut hlen;rw[this,Yc hi]
       simp only[loadVar,Jg,JB iP,Jb,if_true,yf hi,loadCells,<-CP,h3,Jj];simp
     exact hk.elim
   . rename_i iP;split at hk
     . rename_i l;obtain⟨x,hx,hk⟩:=hk;refine⟨_,hk,?_⟩;simp[loadVar,JB iP,hs.cell hx]
     exact hk.elim
 exact hk.elim
end
end Den
end

section
namespace Den
open Go
def Fr(D:Hp)(w w':World):Prop:=
 w.heap.size<=w'.heap.size/\(∀k,k<w.heap.size->D k=none->w'.heap[k]?=w.heap[k]?)/\w'.tape=w.tape/\w'.os=w.os/\w'.output=w.output/\w.drawn<=w'.drawn
def Fr.refl(D:Hp)(w:World):Fr D w w:=⟨Jd _,λ_ _ _=>rfl,rfl,rfl,rfl,Jd _⟩
def lS(K:Value->Hp->Prop)(D:Hp)(w:World):Ending->World->Prop:=λe w'=>
 ∃v h',e=.returned v/\K v h'/\Sub h' w'/\Fr D w w'/\∀k,h' k≠none->D k=none->w.heap.size<=k
def lU:Slot->Bool
 | .box _ | .lit _ _ | .mp _=>true
 | _=>false
def jA(b:Nat):Slot->Value
 | .lit _ n=>.slice (some ⟨b,0,none⟩) n n
 | .mp _=>.map (some b)
 | _=>.pointer (some ⟨b,0,none⟩)
def Zsl:Slot->List Value
 | .box cs=>cs
 | .lit cs _=>cs
 | _=>[]
def uK(w:World)(b:Nat)(el:TypeId):Slot->Prop
 | .mp m=>∃es clock,w.heap[b]?=some (.map es clock)/\es.toList.map (λx=>(x.key,x.val))=m.map λp=>(.int .i64 p.1,.bool p.2)
 | s=>w.heap[b]?=some (.cells (Zsl s).toArray el (0,0))
def Nw:Obj->Prop
 | .cells ..=>True
 | .map ..=>True
 | _=>False
def uK.obj{w:World}{b:Nat}{el:TypeId}{s:Slot}(h:uK w b el s):∃o,Nw o/\w.heap[b]?=some o:=by
 cases s
 case mp m=>obtain⟨es,c,h1,_⟩:=h;exact⟨.map es c,trivial,h1⟩
 all_goals exact⟨.cells _ _ _,trivial,h⟩
def uK.mono{w w':World}{b:Nat}{el:TypeId}{s:Slot}(h:uK w b el s)(hw:∀o,Nw o->w.heap[b]?=some o->w'.heap[b]?=some o):uK w' b el s:=by
 cases s
 case mp m=>obtain⟨es,c,h1,h2⟩:=h;exact⟨es,c,hw _ trivial h1,h2⟩
 all_goals exact hw _ trivial h
def uK.lt{w:World}{b:Nat}{el:TypeId}{s:Slot}(h:uK w b el s):b<w.heap.size:=by
 obtain⟨o,_,h1⟩:=h.obj;rcases Jx b w.heap.size with h' | h'
 exact h';rw[Tn h']at h1;cases h1
def nU(N:Nat)(w:World):List Deferred->Prop
 | []=>True
 | d :: ds=>(∃r,d={ target:=.collected r,args:=#[] }/\N<=r/\w.heap[r]?=some (.deferred (some []))/\∀d'∈ds,d'≠d)/\nU N w ds
def nU.mono{N N':Nat}{w w':World}(hN:N'<=N)(hw:∀r:Nat,w.heap[r]?=some (.deferred (some []))->w'.heap[r]?=some (.deferred (some []))):∀{ds:List Deferred},nU N w ds->nU N' w' ds
 | [],_=>trivial
 | _ :: _,⟨⟨r,h1,h2,h3,h4⟩,h⟩=>⟨⟨r,h1,Jo hN h2,hw r h3,h4⟩,nU.mono hN hw h⟩
structure fI where
 D:Hp
 w:World
 nb:Nat:=0
structure Rel(C:bX)(B:fI)(e:Env)(h:Hp)(a:Act)(w:World):Prop where
 sub:Sub h w
 sz:a.tmps.size=C.n
 defers:nU B.nb w a.defers
 fr:Fr B.D B.w w
 jc:∀k,h k≠none->B.D k=none->B.w.heap.size<=k
 cL:∀t v,e t=.val v->a.tmps[t]?=some v
 dy:∀t,lU (e t)=true->C.loc t=true/\∃b el,a.tmps[t]?=some (jA b (e t))/\uK w b el (e t)/\h b=none/\(B.w.heap.size<=b\/B.D b≠none)
 inj:∀t t' b,lU (e t)=true->lU (e t')=true->a.tmps[t]?=some (jA b (e t))->a.tmps[t']?=some (jA b (e t'))->t=t'
 refs:∀t off,e t=.ref off->∃cs b,e (C.rt t)=.box cs/\a.tmps[C.rt t]?=some (.pointer (some ⟨b,0,none⟩))/\a.tmps[t]?=some (.pointer (some ⟨b,off,none⟩))
 iL:∀t,e t=.mr->t<C.n/\C.loc (C.rt t)=true/\eZ (C.rt t) C.kN=true/\a.tmps[t]?=a.tmps[C.rt t]?
section
variable {C:bX}{B:fI}{e:Env}{h:Hp}{a:Act}{w:World}
def jB{t d:Nat}(hn:t≠d):G9 t d=false:=by
 cases hb:G9 t d with
 | false=>rfl
 | true=>exact absurd (Ut hb) hn
def vy(t:Nat):G9 t t=true:=Nat.beq_refl t
@[simp] theorem Env.aK (e:Env) (d:Nat) (s:Slot):e.set d s d=s:=by simp[Env.set]
def Env.aN{e:Env}{d t:Nat}{s:Slot}(hn:t≠d):e.set d s t=e t:=by simp[Env.set,jB hn]
def Nx{d:Nat}{v:Value}(hd:d<a.tmps.size):(a.put (some d) v).tmps[d]?=some v:=by
 simp[Act.put,hd]
def yw{d t:Nat}{v:Value}(hn:t≠d):(a.put (some d) v).tmps[t]?=a.tmps[t]?:=by
 simp[Act.put,Ne.symm hn]
def Ny{d:Option Nat}{v:Value}:(a.put d v).tmps.size=a.tmps.size:=by cases d<;>simp[Act.put]
def Nz{d:Option Nat}{v:Value}:(a.put d v).defers=a.defers:=by cases d<;>simp[Act.put]
def NA{b b':Nat}{s:Slot}(h:jA b s=jA b' s):b=b':=by
 cases s<;>simp[jA]at h<;>exact h
def Rel.mz(hR:Rel C B e h a w){d:Nat}{v:Value}(hl:C.loc d=false)(hd:d<C.n):Rel C B (e.set d (.val v)) h (a.put (some d) v) w where
 sub:=hR.sub
 sz:=by rw[Ny];exact hR.sz
 defers:=by rw[Nz];exact hR.defers
 fr:=hR.fr
 jc:=hR.jc
 cL:=λt u ht=>by
  by_cases bN:t=d;subst bN;rw[Env.aK]at ht;cases ht;exact Nx (by rw[hR.sz];exact hd);rw[Env.aN bN]at ht;rw[yw bN];exact hR.cL t u ht
 dy:=λt ht=>by
  by_cases bN:t=d;subst bN;rw[Env.aK]at ht;cases ht;rw[Env.aN bN]at ht |-;rw[yw bN];exact hR.dy t ht
 inj:=λt t' b h1 h2 h3 h4=>by
  by_cases bN:t=d;subst bN;rw[Env.aK]at h1;cases h1
  . by_cases eE:t'=d;subst eE;rw[Env.aK]at h2;cases h2
    . rw[Env.aN bN]at h1 h3;rw[Env.aN eE]at h2 h4;rw[yw bN]at h3;rw[yw eE]at h4;exact hR.inj t t' b h1 h2 h3 h4
 refs:=λt off ht=>by
  by_cases bN:t=d;subst bN;rw[Env.aK]at ht;cases ht
  . rw[Env.aN bN]at ht;obtain⟨cs,b,h1,h2,h3⟩:=hR.refs t off ht;have hr:C.rt t≠d:=λhh=>by
     have:=(hR.dy (C.rt t) (by rw[h1];rfl)).1;rw[hh,hl]at this;cases this
    exact⟨cs,b,by rw[Env.aN hr];exact h1,by rw[yw hr];exact h2,by rw[yw bN];exact h3⟩
 iL:=λt ht=>by
  by_cases bN:t=d;subst bN;rw[Env.aK]at ht;cases ht
  . rw[Env.aN bN]at ht;obtain⟨g0,g1,g2,g3⟩:=hR.iL t ht;have hr:C.rt t≠d:=λhh=>by rw[hh,hl]at g1;cases g1
    exact⟨g0,g1,g2,by rw[yw bN,yw hr];exact g3⟩
def Rel.setRef(hR:Rel C B e h a w){d b off:Nat}{cs:List Value}(hl:C.loc d=false)(hd:d<C.n)(hb:e (C.rt d)=.box cs)
 (hp:a.tmps[C.rt d]?=some (.pointer (some ⟨b,0,none⟩))):Rel C B (e.set d (.ref off)) h (a.put (some d) (.pointer (some ⟨b,off,none⟩))) w where
 sub:=hR.sub
 sz:=by rw[Ny];exact hR.sz
 defers:=by rw[Nz];exact hR.defers
 fr:=hR.fr
 jc:=hR.jc
 cL:=λt u ht=>by
  by_cases bN:t=d;subst bN;rw[Env.aK]at ht;cases ht;rw[Env.aN bN]at ht;rw[yw bN];exact hR.cL t u ht
 dy:=λt ht=>by
  by_cases bN:t=d;subst bN;rw[Env.aK]at ht;cases ht;rw[Env.aN bN]at ht |-;rw[yw bN];exact hR.dy t ht
 inj:=λt t' b h1 h2 h3 h4=>by
  by_cases bN:t=d;subst bN;rw[Env.aK]at h1;cases h1
  . by_cases eE:t'=d;subst eE;rw[Env.aK]at h2;cases h2
    . rw[Env.aN bN]at h1 h3;rw[Env.aN eE]at h2 h4;rw[yw bN]at h3;rw[yw eE]at h4;exact hR.inj t t' b h1 h2 h3 h4
 refs:=λt aal ht=>by
  have eh:∀t',(∃cs,e t'=.box cs)->t'≠d:=λt' ⟨cs,h1⟩ hh=>by
   have:=(hR.dy t' (by rw[h1];rfl)).1;rw[hh,hl]at this;cases this
  by_cases bN:t=d
  . subst bN;rw[Env.aK]at ht;cases ht;have hr:=eh _ ⟨cs,hb⟩;exact⟨cs,b,by rw[Env.aN hr];exact hb,by rw[yw hr];exact hp,Nx (by rw[hR.sz];exact hd)⟩
  . rw[Env.aN bN]at ht;obtain⟨cs,b,h1,h2,h3⟩:=hR.refs t aal ht;have hr:=eh _ ⟨cs,h1⟩;exact⟨cs,b,by rw[Env.aN hr];exact h1,by rw[yw hr];exact h2,by rw[yw bN];exact h3⟩
 iL:=λt ht=>by
  by_cases bN:t=d;subst bN;rw[Env.aK]at ht;cases ht
  . rw[Env.aN bN]at ht;obtain⟨g0,g1,g2,g3⟩:=hR.iL t ht;have hr:C.rt t≠d:=λhh=>by rw[hh,hl]at g1;cases g1
    exact⟨g0,g1,g2,by rw[yw bN,yw hr];exact g3⟩
def Rel.NC(hR:Rel C B e h a w){d r:Nat}{v:Value}(hl:C.loc d=false)(hd:d<C.n)(hr:C.rt d=r)(NF:C.loc r=true)(hm:eZ r C.kN=true)(hp:a.tmps[r]?=some v):Rel C B (e.set d .mr) h (a.put (some d) v) w where
 sub:=hR.sub
 sz:=by rw[Ny];exact hR.sz
 defers:=by rw[Nz];exact hR.defers
 fr:=hR.fr
 jc:=hR.jc
 cL:=λt u ht=>by
  by_cases bN:t=d;subst bN;rw[Env.aK]at ht;cases ht;rw[Env.aN bN]at ht;rw[yw bN];exact hR.cL t u ht
 dy:=λt ht=>by
  by_cases bN:t=d;subst bN;rw[Env.aK]at ht;cases ht;rw[Env.aN bN]at ht |-;rw[yw bN];exact hR.dy t ht
 inj:=λt t' b h1 h2 h3 h4=>by
  by_cases bN:t=d;subst bN;rw[Env.aK]at h1;cases h1
  . by_cases eE:t'=d;subst eE;rw[Env.aK]at h2;cases h2
    . rw[Env.aN bN]at h1 h3;rw[Env.aN eE]at h2 h4;rw[yw bN]at h3;rw[yw eE]at h4;exact hR.inj t t' b h1 h2 h3 h4
 refs:=λt off ht=>by
  by_cases bN:t=d;subst bN;rw[Env.aK]at ht;cases ht
  . rw[Env.aN bN]at ht;obtain⟨cs,b,h1,h2,h3⟩:=hR.refs t off ht;have hr:C.rt t≠d:=λhh=>by
     have:=(hR.dy (C.rt t) (by rw[h1];rfl)).1;rw[hh,hl]at this;cases this
    exact⟨cs,b,by rw[Env.aN hr];exact h1,by rw[yw hr];exact h2,by rw[yw bN];exact h3⟩
 iL:=λt ht=>by
  have eh:r≠d:=λhh=>by rw[hh,hl]at NF;cases NF
  by_cases bN:t=d;subst bN;exact⟨hd,by rw[hr];exact NF,by rw[hr];exact hm,by rw[hr,Nx (by rw[hR.sz];exact hd),yw eh];exact hp.symm⟩
  . rw[Env.aN bN]at ht;obtain⟨g0,g1,g2,g3⟩:=hR.iL t ht;have hr:C.rt t≠d:=λhh=>by rw[hh,hl]at g1;cases g1
    exact⟨g0,g1,g2,by rw[yw bN,yw hr];exact g3⟩
def Xr{o:Obj}{b:Nat}(hb:w.heap[b]?=some o):b<w.heap.size:=by
 rcases Jx b w.heap.size with h' | h'
 exact h';rw[Tn h']at hb;cases hb
def Rel.step(hR:Rel C B e h a w){h':Hp}{w':World}(hs:Sub h' w')(hf:Fr h w w')(hd:∀k,h' k≠none->h k=none->w.heap.size<=k):Rel C B e h' a w' where
 sub:=hs
 sz:=hR.sz
 defers:=hR.defers.mono (Jd _) λr hr=>by
  have hh:h r=none:=by
   cases hh:h r with
   | none=>rfl
   | some b=>rw[hR.sub r b hh]at hr;cases hr
  rw[hf.2.1 r (Xr hr) hh];exact hr
 fr:=by
  obtain⟨a1,a2,a3,a4,a5,a6⟩:=hR.fr;obtain⟨b1,b2,b3,b4,b5,b6⟩:=hf;refine⟨Jo a1 b1,λk hk hD=>?_,b3.trans a3,b4.trans a4,b5.trans a5,Jo a6 b6⟩;have bP:h k=none:=by
   cases hh:h k with
   | none=>rfl
   | some x=>have:=hR.jc k (by simp[hh]) hD;omega
  rw[b2 k zO bP,a2 k hk hD]
 jc:=λk hk hD=>by
  cases hh:h k with
  | none=>have:=hd k hk hh;have:=hR.fr.1;omega
  | some x=>exact hR.jc k (by simp[hh]) hD
 cL:=hR.cL
 dy:=λt ht=>by
  obtain⟨h1,b,el,h2,h3,h4,h5⟩:=hR.dy t ht;have hlt:=h3.lt;refine⟨h1,b,el,h2,h3.mono λo _ ho=>by rw[hf.2.1 b hlt h4];exact ho,?_,h5⟩;cases hh:h' b with
  | none=>rfl
  | some x=>have:=hd b (by simp[hh]) h4;omega
 inj:=hR.inj
 refs:=hR.refs
 iL:=hR.iL
def Env.aY(rt:Nat->Nat)(e:Env)(d:Nat)(s:Slot):e.alloc rt d s d=s:=by simp[Env.alloc]
def Env.cE{rt:Nat->Nat}{e:Env}{d t:Nat}{s:Slot}(hn:t≠d)(hx:∀o,e t≠.ref o):e.alloc rt d s t=e t:=by
 unfold Env.alloc;rw[jB hn];show(match e t with | .ref o=>bif G9 (rt t) d then Slot.fG else .ref o | x=>x)=e t;cases he:e t with
 | ref o=>exact absurd he (hx o)
 | _=>rfl
def Env.bU{rt:Nat->Nat}{e:Env}{d t:Nat}{s x:Slot}(hn:t≠d)(hx:e.alloc rt d s t=x)(hj:x≠.fG):e t=x/\(∀o,x=.ref o->rt t≠d):=by
 unfold Env.alloc at hx;simp only[jB hn,cond_false]at hx;cases he:e t with
 | ref o=>
   rw[he]at hx;simp only at hx;by_cases hr:rt t=d
   . have:G9 (rt t) d=true:=by simp[hr]
     rw[this]at hx;simp at hx;exact absurd hx.symm hj
   rw[jB hr]at hx;simp at hx;exact⟨hx,λ_ _=>hr⟩
 | _=>rw[he]at hx;simp only at hx;exact⟨hx,λo ho=>by rw[ho]at hx;cases hx⟩
def NG{o:Obj}{k:Nat}(hk:k<w.heap.size):(w.alloc o).heap[k]?=w.heap[k]?:=by
 show(w.heap.push o)[k]?=_;rw[Array.getElem?_push,if_neg (Nat.ne_of_lt hk)]
def NH{o:Obj}:(w.alloc o).heap[w.heap.size]?=some o:=by
 show(w.heap.push o)[w.heap.size]?=_;simp
def Fr.alloc(D:Hp)(w:World)(o:Obj):Fr D w (w.alloc o):=
 ⟨zS,λk hk _=>NG hk,rfl,rfl,rfl,Jd _⟩
def Sub.alloc(hs:Sub h w)(o:Obj):Sub h (w.alloc o):=λk b hk=>by rw[NG (hs.lt hk)];exact hs k b hk
def Rel.nV(hR:Rel C B e h a w){d:Nat}{s:Slot}{el:TypeId}{o:Obj}(hl:C.loc d=true)(hd:d<C.n)(hs:lU s=true)(hat:uK (w.alloc o) w.heap.size el s)(JC:∀t,e t=.mr->C.rt t≠d) :
 Rel C B (e.alloc C.rt d s) h (a.put (some d) (jA w.heap.size s)) (w.alloc o) where
 sub:=hR.sub.alloc _
 sz:=by rw[Ny];exact hR.sz
 defers:=by rw[Nz];exact hR.defers.mono (Jd _) λr hr=>by rw[NG (Xr hr)];exact hr
 fr:=(hR.step (hR.sub.alloc _) (Fr.alloc h w _) (λk h1 h2=>absurd h2 h1)).fr
 jc:=hR.jc
 cL:=λt u ht=>by
  by_cases bN:t=d;subst bN;rw[Env.aY]at ht;subst ht;cases hs;rw[yw bN];exact hR.cL t u (Env.bU bN ht zS).1
 dy:=λt ht=>by
  by_cases bN:t=d
  . subst bN;rw[Env.aY];refine⟨hl,w.heap.size,el,Nx (by rw[hR.sz];exact hd),hat,?_,.inl hR.fr.1⟩;exact hR.sub.fresh (Jd _)
  . have he:=Env.bU bN (rfl:e.alloc C.rt d s t=_) (by intro hh;rw[hh]at ht;cases ht);rw[<-he.1]at ht |-
    obtain⟨h1,b,E5,h2,h3,h4,h5⟩:=hR.dy t ht;exact⟨h1,b,E5,by rw[yw bN];exact h2,h3.mono λo _ ho=>by rw[NG (Xr ho)];exact ho,h4,h5⟩
 inj:=λt t' b h1 h2 h3 h4=>by
  have iK:∀t b,t≠d->lU (e.alloc C.rt d s t)=true->(a.put (some d) (jA w.heap.size s)).tmps[t]?=some (jA b (e.alloc C.rt d s t)) ->
   lU (e t)=true/\a.tmps[t]?=some (jA b (e t))/\b<w.heap.size:=λt b bN i1 i2=>by
   have he:=Env.bU bN (rfl:e.alloc C.rt d s t=_) (by intro hh;rw[hh]at i1;cases i1);rw[<-he.1]at i1 i2;rw[yw bN]at i2;obtain⟨_,b',E5,j2,j3,_,_⟩:=hR.dy t i1;rw[i2]at j2;have:=NA (Gg j2);subst this;exact⟨i1,i2,j3.lt⟩
  have new:∀b,(a.put (some d) (jA w.heap.size s)).tmps[d]?=some (jA b (e.alloc C.rt d s d))->b=w.heap.size:=λb i2=>by
   rw[Nx (by rw[hR.sz];exact hd),Env.aY]at i2;exact(NA (Gg i2)).symm
  by_cases bN:t=d
  . by_cases eE:t'=d;rw[bN,eE];subst bN;have:=new b h3;have:=(iK t' b eE h2 h4).2.2;omega
  . by_cases eE:t'=d;subst eE;have:=new b h4;have:=(iK t b bN h1 h3).2.2;omega
    . obtain⟨i1,i2,_⟩:=iK t b bN h1 h3;obtain⟨j1,j2,_⟩:=iK t' b eE h2 h4;exact hR.inj t t' b i1 j1 i2 j2
 refs:=λt off ht=>by
  by_cases bN:t=d;subst bN;rw[Env.aY]at ht;subst ht;cases hs
  . obtain⟨he,hr⟩:=Env.bU bN ht zS;have hr:=hr off rfl;obtain⟨cs,b,h1,h2,h3⟩:=hR.refs t off he;refine⟨cs,b,?_,by rw[yw hr];exact h2,by rw[yw bN];exact h3⟩;rw[Env.cE hr (by intro o ho;rw[h1]at ho;cases ho)];exact h1
 iL:=λt ht=>by
  by_cases bN:t=d;subst bN;rw[Env.aY]at ht;subst ht;cases hs
  . obtain⟨he,_⟩:=Env.bU bN ht zS;obtain⟨g0,g1,g2,g3⟩:=hR.iL t he;exact⟨g0,g1,g2,by rw[yw bN,yw (JC t he)];exact g3⟩
def Rel.tE(hR:Rel C B e h a w){d:Nat}{v:Value}(hl:C.loc d=true)(JC:∀t,e t=.mr->C.rt t≠d):Rel C B (e.alloc C.rt d .fG) h (a.put (some d) v) w where
 sub:=hR.sub
 sz:=by rw[Ny];exact hR.sz
 defers:=by rw[Nz];exact hR.defers
 fr:=hR.fr
 jc:=hR.jc
 cL:=λt u ht=>by
  by_cases bN:t=d;subst bN;rw[Env.aY]at ht;cases ht;rw[yw bN];exact hR.cL t u (Env.bU bN ht zS).1
 dy:=λt ht=>by
  by_cases bN:t=d;subst bN;rw[Env.aY]at ht;cases ht
  . have he:=Env.bU bN (rfl:e.alloc C.rt d .fG t=_) (by intro hh;rw[hh]at ht;cases ht);rw[<-he.1]at ht |-
    rw[yw bN];exact hR.dy t ht
 inj:=λt t' b h1 h2 h3 h4=>by
  by_cases bN:t=d;subst bN;rw[Env.aY]at h1;cases h1
  . by_cases eE:t'=d;subst eE;rw[Env.aY]at h2;cases h2
    . have he:=Env.bU bN (rfl:e.alloc C.rt d .fG t=_) (by intro hh;rw[hh]at h1;cases h1);have NK:=Env.bU eE (rfl:e.alloc C.rt d .fG t'=_) (by intro hh;rw[hh]at h2;cases h2);rw[<-he.1]at h1 h3;rw[<-NK.1]at h2 h4;rw[yw bN]at h3;rw[yw eE]at h4;exact hR.inj t t' b h1 h2 h3 h4
 refs:=λt off ht=>by
  by_cases bN:t=d;subst bN;rw[Env.aY]at ht;cases ht
  . obtain⟨he,hr⟩:=Env.bU bN ht zS;have hr:=hr off rfl;obtain⟨cs,b,h1,h2,h3⟩:=hR.refs t off he;refine⟨cs,b,?_,by rw[yw hr];exact h2,by rw[yw bN];exact h3⟩;rw[Env.cE hr (by intro o ho;rw[h1]at ho;cases ho)];exact h1
 iL:=λt ht=>by
  by_cases bN:t=d;subst bN;rw[Env.aY]at ht;cases ht
  . obtain⟨he,_⟩:=Env.bU bN ht zS;obtain⟨g0,g1,g2,g3⟩:=hR.iL t he;exact⟨g0,g1,g2,by rw[yw bN,yw (JC t he)];exact g3⟩
def Rel.vz(hR:Rel C B e h a w){s b:Nat}{x y:Slot}{el:TypeId}(hb:e s=x)(hx:lU x=true)(hy:lU y=true)(jC:∀b,jA b y=jA b x)(hbx:∀cs,x=.box cs->∃jD,y=.box jD)(hyr:∀o,y≠.ref o)
 (hp:a.tmps[s]?=some (jA b x)) {w':World}
 (hn:uK w' b el y) (ho:∀k,k≠b->w'.heap[k]?=w.heap[k]?) (hz:w'.heap.size=w.heap.size)
 (ht:w'.tape=w.tape) (hos:w'.os=w.os) (E6:w'.output=w.output) (qY:w.drawn<=w'.drawn):Rel C B (e.set s y) h a w':=by
 obtain⟨hl,b',E5,h2,h3,h4,h5⟩:=hR.dy s (by rw[hb];exact hx);rw[hb]at h2 h3;have hbb:b'=b:=by rw[hp]at h2;exact(NA (Gg h2)).symm
 subst hbb;have dz:Sub h w':=λk x hk=>by
  have cd:k≠b':=λhh=>by rw[hh,h4]at hk;cases hk
  rw[ho k cd];exact hR.sub k x hk
 have hval:∀v,y≠.val v:=λv hh=>by rw[hh]at hy;cases hy
 refine⟨dz,hR.sz,hR.defers.mono (Jd _) (λr hr=>?_),?_,hR.jc,?_,?_,?_,?_,?_⟩
 . rw[ho r (λhh=>by
    subst hh;obtain⟨o,ib,dA⟩:=h3.obj;rw[hr]at dA;cases dA;exact ib)];exact hr
 . obtain⟨a1,a2,a3,a4,a5,a6⟩:=hR.fr;refine⟨zO,λk hk hD=>?_,ht.trans a3,hos.trans a4,E6.trans a5,Jo a6 qY⟩;have cd:k≠b':=λhh=>by
    subst hh;rcases h5 with h5 | h5
    omega;exact h5 hD
   rw[ho k cd];exact a2 k hk hD
 . intro t u htu;by_cases hts:t=s;subst hts;rw[Env.aK]at htu;exact absurd htu (hval u);rw[Env.aN hts]at htu;exact hR.cL t u htu
 . intro t hh;by_cases hts:t=s;subst hts;rw[Env.aK];exact⟨hl,b',el,by rw[jC];exact hp,hn,h4,h5⟩
   . rw[Env.aN hts]at hh |-
     obtain⟨i1,c,JD,i2,i3,i4,i5⟩:=hR.dy t hh;refine⟨i1,c,JD,i2,i3.mono λo _ E7=>?_,i4,i5⟩;rw[ho c ?_];exact E7;intro NM;subst NM;exact hts (hR.inj t s c hh (by rw[hb];exact hx) i2 (by rw[hb];exact hp))
 . intro t t' c i1 i2 i3 i4;have back:∀t c,lU (e.set s y t)=true->a.tmps[t]?=some (jA c (e.set s y t))->lU (e t)=true/\a.tmps[t]?=some (jA c (e t)):=λt c j1 j2=>by
    by_cases hts:t=s;subst hts;rw[Env.aK]at j1 j2;rw[hb];exact⟨hx,by rw[<-jC];exact j2⟩;rw[Env.aN hts]at j1 j2;exact⟨j1,j2⟩
   obtain⟨k1,k2⟩:=back t c i1 i3;obtain⟨l1,l2⟩:=back t' c i2 i4;exact hR.inj t t' c k1 l1 k2 l2
 . intro t off Ay;have hts:t≠s:=λhh=>by subst hh;rw[Env.aK]at Ay;exact absurd Ay (hyr off)
   rw[Env.aN hts]at Ay;obtain⟨cs2,c,i1,i2,i3⟩:=hR.refs t off Ay;by_cases hrs:C.rt t=s
   . obtain⟨jD,mA⟩:=hbx cs2 (by rw[<-hb,<-hrs];exact i1);exact⟨jD,c,by rw[hrs,Env.aK];exact mA,i2,i3⟩
   exact⟨cs2,c,by rw[Env.aN hrs];exact i1,i2,i3⟩
 . intro t Ay;have hts:t≠s:=λhh=>by subst hh;rw[Env.aK]at Ay;rw[Ay]at hy;cases hy
   rw[Env.aN hts]at Ay;exact hR.iL t Ay
def Rel.vA(hR:Rel C B e h a w){s b:Nat}{cs jD:List Value}{el:TypeId}(hb:e s=.box cs)(hp:a.tmps[s]?=some (.pointer (some ⟨b,0,none⟩))){w':World}
 (hn:w'.heap[b]?=some (.cells jD.toArray el (0,0))) (ho:∀k,k≠b->w'.heap[k]?=w.heap[k]?) (hz:w'.heap.size=w.heap.size)
 (ht:w'.tape=w.tape) (hos:w'.os=w.os) (E6:w'.output=w.output) (qY:w.drawn<=w'.drawn):Rel C B (e.set s (.box jD)) h a w':=
 hR.vz (y:=.box jD) (el:=el) hb rfl rfl (λ_=>rfl) (λ_ _=>⟨_,rfl⟩) (λ_ hh=>by cases hh) hp hn ho hz ht hos E6 qY
def Rel.Az(hR:Rel C B e h a w){d:Nat}{s:Slot}(hs:e d=s):e.set d s=e:=by
 funext t;by_cases ht:t=d;subst ht;rw[Env.aK,hs];rw[Env.aN ht]
end
end Den
end

section
namespace Den
open Go
def lV(w:World)(b:Nat)(o:Obj):World:={ w with heap:=w.heap.setIfInBounds b o }
section
variable {P:Program}{w:World}
def NN{b:Nat}{o:Obj}:(lV w b o).heap.size=w.heap.size:=by simp[lV]
def JE{b:Nat}{o:Obj}(h:b<w.heap.size):(lV w b o).heap[b]?=some o:=by simp[lV,h]
def E8{b k:Nat}{o:Obj}(h:k≠b):(lV w b o).heap[k]?=w.heap[k]?:=by simp[lV,Ne.symm h]
def zsx{b:Nat}{o o':Obj}:lV (lV w b o) b o'=lV w b o':=by
 simp[lV]
def Z1b{b:Nat}{o:Obj}(h:w.heap[b]?=some o):lV w b o=w:=by
 have hlt:=Xr h;unfold lV;have:w.heap.setIfInBounds b o=w.heap:=by
  apply Array.ext_getElem?;intro i;rw[Array.getElem?_setIfInBounds];by_cases hi:b=i;subst hi;simp only[if_true,hlt];exact h.symm;simp[hi]
 rw[this]
def zh3{b off:Nat}{c:Array Value}{el:TypeId}{fz:Nat×Nat}{v:Value}(h:w.heap[b]?=some (.cells c el fz)) :
 w.setCell ⟨b,off,none⟩ v=lV w b (.cells (c.setIfInBounds off v) el fz):=by
 have hlt:=Xr h;unfold World.setCell lV;have:∀f:Obj->Obj,w.heap.modify b f=w.heap.setIfInBounds b (f (.cells c el fz)):=by
  intro f;apply Array.ext_getElem?;intro i;rw[Array.getElem?_setIfInBounds,Array.getElem?_modify];by_cases hi:b=i;subst hi;simp only[if_true,hlt,h,Gp];simp[hi]
 simp[this]
def yI{b off i:Nat}:(⟨b,off,none⟩:Addr).add i=⟨b,off+i,none⟩:=by
 unfold Addr.add;by_cases h:i=0<;>simp[h]
def Zjd{v:Value}(h:Value.leaf v=true):v.oneCell'=true:=by cases v<;>simp_all [Value.leaf,Value.oneCell']
def Z1g{c:List Value}{off:Nat}{v:Value}{rest:List Value}(h:off<c.length) :
 Zn (c.set off v) (off+1) rest=Zn c off (v :: rest):=by
 unfold Zn;have h1:(c.set off v).take (off+1)=c.take off++[v]:=by
  rw[List.take_succ_eq_append_getElem (by simpa using h)];have:(c.set off v).take off=c.take off:=by rw[List.take_set_of_le (Jd _)]
  simp[this]
 have h2:(c.set off v).drop (off+1+rest.length)=c.drop (off+(v :: rest).length):=by
  rw[List.drop_set_of_lt zO];simp;congr 1;omega
 rw[h1,h2];simp
def Z6z{c:List Value}{off:Nat}:Zn c off []=c:=by simp[Zn]
def z7a:∀{vs:List Value} {b off i:Nat} {c:Array Value} {el:TypeId} {w:World},
 w.heap[b]?=some (.cells c el (0,0))->off+i+vs.length<=c.size->vs.all Value.leaf=true ->
 (storeCells ⟨b,off,none⟩ vs i).run P w=.ok () (lV w b (.cells (Zn c.toList (off+i) vs).toArray el (0,0)))
 | [],b,off,i,c,el,w,h,_,_=>by simp[storeCells,Z6z,Z1b h]
 | v :: rest,b,off,i,c,el,w,h,hlen,hl=>by
   simp only[List.all_cons,Uh]at hl;simp only[List.length_cons]at hlen;have hc:w.cell? ⟨b,off+i,none⟩=some c[off+i]:=by
    unfold World.cell?;simp only[h];simp[show off+i<c.size by omega]
   have hf:w.frozen? ⟨b,off+i,none⟩=false:=by
    unfold World.frozen?;simp only[h];simp
   simp only[storeCells,Jg,yI,run_store P w _ v .plain (Zjd hl.1),hc,hf,zh3 h];simp only[Ur,if_false,Jb];have hn:=JE (w:=w) (o:=.cells (c.setIfInBounds (off+i) v) el (0,0)) (Xr h);rw[z7a hn (by simp;omega) hl.2,zsx];congr 4;have:=Z1g (c:=c.toList) (v:=v) (rest:=rest) (show off+i<c.toList.length by simp;omega);rw[<-this];simp[Nat.add_assoc]
def zav:∀{n:Nat} {b off i:Nat} {c:List Value} {el:TypeId} {fz:Nat×Nat} {acc:Array Value},
 w.heap[b]?=some (.cells c.toArray el fz)->off+i+n<=c.length ->
 (loadCellsFrom ⟨b,off,none⟩ i n acc).run P w=.ok (acc++((c.drop (off+i)).take n).toArray) w
 | 0,b,off,i,c,el,fz,acc,h,hl=>by simp[loadCellsFrom]
 | n+1,b,off,i,c,el,fz,acc,h,hl=>by
   have hc:w.cell? ⟨b,off+i,none⟩=some c[off+i]:=by
    unfold World.cell?;simp only[h];simp[show off+i<c.length by omega]
   simp only[loadCellsFrom,Jg,yI,run_load,hc,Jb];rw[zav h zO];congr 1;have:(c.drop (off+i)).take (n+1)=c[off+i] :: (c.drop (off+(i+1))).take n:=by
    rw[Uf (show off+i<c.length by omega),List.take_succ_cons];rfl
   rw[this];simp
def zjp{t:TypeId}{cs:List Value}{off b:Nat}{el:TypeId}{fz:Nat×Nat}{K:Value->Prop}
 (hb:w.heap[b]?=some (.cells cs.toArray el fz)) (hk:tA P t cs off K):∃v,K v/\(loadVar t ⟨b,off,none⟩).run P w=.ok v w:=by
 unfold tA at hk;split at hk;exact hk.elim
 . rename_i iP;split at hk
   . rename_i hlen;have hlen:=Un hlen;refine⟨_,hk,?_⟩;have hi:∃i,P.info? t=some i:=by
      cases hd:P.underlying t with
      | none=>simp[fa,hd]at iP
      | some d=>exact z5p hd
     obtain⟨i,hi⟩:=hi;rw[Yc hi]at hlen |-
     simp only[loadVar,Jg,JB iP,Jb,if_true,yf hi,loadCells];rw[zav hb zO];simp
   exact hk.elim
 . rename_i iP;split at hk
   . rename_i v hv;refine⟨_,hk,?_⟩;have hc:w.cell? ⟨b,off,none⟩=some v:=by
      unfold World.cell?;simp only[hb];simpa using hv
     simp[loadVar,JB iP,hc]
   exact hk.elim
def zr0{t:TypeId}{cs:List Value}{off:Nat}{K:Value->Prop}(hk:tA P t cs off K) :
 ∃v,K v/\(part t cs.toArray off).run P w=.ok v w:=by
 unfold tA at hk;split at hk;exact hk.elim
 . rename_i iP;split at hk
   . rename_i hlen;refine⟨_,hk,?_⟩;have hi:∃i,P.info? t=some i:=by
      cases hd:P.underlying t with
      | none=>simp[fa,hd]at iP
      | some d=>exact z5p hd
     obtain⟨i,hi⟩:=hi;rw[Yc hi];simp only[part,Jg,JB iP,Jb,if_true,yf hi,Jj];congr 2;simp
   exact hk.elim
 . rename_i iP;split at hk
   . rename_i v hv;exact⟨_,hk,by simp[part,JB iP,hv]⟩
   exact hk.elim
def JF{t:TypeId}{K:List Value->Prop}(hk:uI P t K) :
 ∃i z,P.info? t=some i/\i.zero=some z/\K z.cells.toList/\∀w,(zeroValue t).run P w=.ok z w:=by
 unfold uI at hk;split at hk
 . rename_i i hi;split at hk
   . rename_i z hz;exact⟨i,z,hi,hz,hk,λw=>by simp[zeroValue,typeInfo,hi,hz]⟩
   exact hk.elim
 exact hk.elim
def CQ{t:TypeId}{K:TypeId->Prop}(hk:cK P t K):∃el i,P.underlying t=some (.slice el)/\P.info? el=some i/\K el:=by
 unfold cK at hk;split at hk
 . rename_i el he;split at hk
   . rename_i hi;obtain⟨i,hi⟩:=T9.1 hi;exact⟨el,i,he,hi,hk⟩
   exact hk.elim
 exact hk.elim
def zoo{t:TypeId}{p:Prop}(hk:CH P t p):(∃i,P.info? t=some i)/\p:=by
 unfold CH at hk;split at hk;rename_i hi;exact⟨T9.1 hi,hk⟩;exact hk.elim
def AA{el:TypeId}{cs:Array Value}:(newRow el cs).run P w=.ok ⟨w.heap.size,0,none⟩ (w.alloc (.cells cs el (0,0))):=by
 simp[newRow]
def zbo{h:Hp}(hs:Sub h w){a:Addr}:∀{n:Nat} {l:List Value},Zp h a n=some l->l.length=n/\∀i,i<n->w.cell? (a.add i)=l[i]?
 | 0,l,e=>by simp only[Zp,Js]at e;subst e;simp
 | n+1,l,e=>by
   unfold Zp at e;cases h1:Zp h a n with
   | none=>rw[h1]at e;cases e
   | some l1=>
     rw[h1]at e;simp only at e;cases h2:h.cell (a.add n)with
     | none=>rw[h2]at e;cases e
     | some v=>
       rw[h2]at e;simp only[Js]at e;subst e;obtain⟨i1,i2⟩:=zbo hs h1;refine⟨by simp[i1],λi hi=>?_⟩;by_cases hin:i=n;subst hin;rw[hs.cell h2];simp[<-i1];rw[i2 i zO,List.getElem?_append_left zO]
def zgm{a:Addr}{l:List Value}:∀{n i:Nat} {acc:Array Value},i+n=l.length->(∀j,j<l.length->w.cell? (a.add j)=l[j]?) ->
 (loadCellsFrom a i n acc).run P w=.ok (acc++(l.drop i).toArray) w
 | 0,i,acc,hl,_=>by
   have:l.drop i=[]:=List.drop_eq_nil_of_le zO;simp[loadCellsFrom,this]
 | n+1,i,acc,hl,hc=>by
   have hi:i<l.length:=zO;have h1:w.cell? (a.add i)=some l[i]:=by rw[hc i hi];simp
   simp only[loadCellsFrom,Jg,run_load,h1,Jb];rw[zgm zO hc,Uf hi];simp
def E9{h:Hp}(hs:Sub h w){a:Addr}{n:Nat}{l:List Value}(e:Zp h a n=some l):(loadCells a n).run P w=.ok l.toArray w:=by
 obtain⟨h1,h2⟩:=zbo hs e;unfold loadCells;rw[zgm (l:=l) zO (λj hj=>h2 j zO)];simp
def Zc3(n:Nat)(z:List Value):Yi (n+1) z=z++Yi n z:=by simp[Yi,List.replicate_succ]
def zgx(n:Nat)(z:List Value):(Yi n z).length=n*z.length:=by simp[Yi,List.length_flatten,List.sum_replicate_nat]
def Z0g{zero:Array Value}:∀{n i:Nat},i<n*zero.size->(Yi n zero.toList)[i]?=some (zero[i % zero.size]!)
 | 0,i,h=>by omega
 | n+1,i,h=>by
   rw[Zc3];by_cases hi:i<zero.size
   . rw[List.getElem?_append_left (by simpa using hi)];simp[Nat.mod_eq_of_lt hi,hi]
   . have h':i-zero.size<n*zero.size:=by rw[Nat.succ_mul]at h;omega
     rw[List.getElem?_append_right (by simpa using hi),Array.length_toList,Z0g h',Nat.mod_eq_sub_mod (show i>=zero.size by omega)]
def JG{zero:Array Value}{n:Nat}:(Array.range (n*zero.size)).map (λi=>zero[i % zero.size]!)=(Yi n zero.toList).toArray:=by
 apply Array.ext_getElem?;intro i;by_cases hi:i<n*zero.size;simp[Z0g hi,hi]
 . have hl:=zgx n zero.toList;simp only[Array.length_toList]at hl;rw[Tn (by simp;omega),Tn (by simp;omega)]
def ztt(m:Nat)(hm:257<=m):∀(r c:Nat),c<=2*m->Builtin.growBy m r c<=2*m
 | 0,c,h=>h
 | r+1,c,h=>by
   unfold Builtin.growBy;split;exact h;exact ztt m hm r _ zO
def zjn{m o:Nat}(h:o<m):L0 m o<=2*m:=by
 unfold L0;split;omega
 . split;omega;exact ztt m zO 4 o zO
end
end Den
end

section
namespace Den
open Go
variable {ro:Option Nat}{nn:Nat}
abbrev Yb(r:Option Nat):Fence:={ Fence.wide with round:=r }
def zsk{P:Program}{f:FuncId}{args:Array Value}{w:World}{R:Ending->World->Prop}(h:Calls P f args w R):CallsIn (Yb ro) nn P f args w R:=
 callsIn_wide (n:=nn).2 h
def Yk{P:Program}{c:Code}{Q Q':Exit->Act->World->Prop}{a:Act}{w:World}(hq:∀e a w,Q e a w->Q' e a w)
 (h:c.wpIn (Yb ro) nn P Q a w):c.wpIn (Yb ro) nn P Q' a w:=wpIn_mono h hq
def Up.dst:Up->Option Nat
 | .none=>Option.none
 | .set d _=>some d
 | .alloc d _=>some d
def zow(T:(Value->Hp->Prop)->Hp->Prop):Prop:=
 (∃(α:Type) (G:(α->Hp->Prop)->Hp->Prop) (up:α->Value),∀K h,T K h↔za G (λr=>K (up r)) h)\/∀K h,¬T K h
def Zs1(P:Program)(g:FuncId)(F:zh):Prop:=
 (∃fn,P.funcs[g]?=some fn/\fn.body.isNone=false/\(fn.name == "runtime.NumGoroutine")=false) /\
 (∀args K h w,Sub h w->F args K h->Calls P g args.toArray w (lS K h w))
def tF(C:bX):List (Nat×zh)->Prop
 | []=>True
 | (g,F) :: r=>Zs1 C.P g F/\(eZ g C.gn=false->∀args,zow (F args))/\tF C r
def tF.get{C:bX}:∀{l:List (Nat×zh)},tF C l->∀g,(Zs1 C.P g (yE g l)/\(eZ g C.gn=false->∀args,zow (yE g l args)))\/(∀args K h,¬yE g l args K h)
 | [],_,g=>.inr λ_ _ _ hh=>hh
 | (g',F) :: r,ht,g=>by
   unfold yE;by_cases hg:g=g';subst hg;rw[vy];exact .inl ⟨ht.1,ht.2.1⟩;rw[jB hg];exact tF.get ht.2.2 g
section
variable {C:bX}{B:fI}{e:Env}{h:Hp}{a:Act}{w:World}{K:Up->Hp->Prop}{o:Oper}
def Qd(C:bX)(B:fI)(o:Oper)(e:Env)(K:Up->Hp->Prop):Act->World->Prop:=λa' w'=>
 ∃u h',K u h'/\Rel C B (e.cJ C.rt u) h' a' w'/\∀d,u.dst=some d->d∈Yf C o
def zrn{P:Program}{ro:Option Nat}{o:Oper}{a:Act}{w w':World}{x:Next}(hr:(execOp a.eval o).run P w=.ok x w')(hx:∀d,x≠.defer d) :
 Oper.semAt ro a.eval o=execOp a.eval o:=
 Oper.semAt_eq _ _ _ λc hc=>by
  unfold execOp at hr;rw[hc]at hr;simp only[Jg,Jj]at hr;cases hz:(resolve a.eval c o.type).run P w with
  | ok d w1=>rw[hz]at hr;simp only[Jb,Result.ok.injEq]at hr;exact hx d hr.1.symm
  | _=>rw[hz]at hr;simp[Result.andThen]at hr
def ye{P:Program}{o:Oper}{a:Act}{w w':World}{v:Value}{next:Act->World->Prop}{Q:Exit->Act->World->Prop}
 (hr:(execOp a.eval o).run P w=.ok (.value v) w') (hn:next (a.put o.dst v) w'):o.wpIn (Yb ro) nn P a w next Q:=by
 unfold Oper.wpIn;rw[zrn hr (by intro d hd;cases hd),hr];exact⟨λ_ _=>trivial,hn⟩
def zot{P:Program}{o:Oper}{a:Act}{w w':World}{next:Act->World->Prop}{Q:Exit->Act->World->Prop}
 (hr:(execOp a.eval o).run P w=.ok .skip w') (hn:next (a.put o.dst undef) w'):o.wpIn (Yb ro) nn P a w next Q:=by
 unfold Oper.wpIn;rw[zrn hr (by intro d hd;cases hd),hr];exact⟨λ_ _=>trivial,hn⟩
def Zpm{P:Program}{o:Oper}{a:Act}{w w':World}{f:FuncId}{args:Array Value}{next:Act->World->Prop}{Q:Exit->Act->World->Prop}
 {R:Ending->World->Prop} (hr:(execOp a.eval o).run P w=.ok (.enter f args) w') (hc:Calls P f args w' R) (hn:∀e yJ,R e yJ->∃v,e=.returned v/\next (a.put o.dst v) yJ) :
 o.wpIn (Yb ro) nn P a w next Q:=by
 unfold Oper.wpIn;rw[zrn hr (by intro d hd;cases hd),hr,Oper.uponIn_enter];refine⟨λ_ _=>trivial,(λh=>by cases h),(zsk hc).mono λe yJ hR=>?_⟩;obtain⟨v,rfl,hn⟩:=hn e yJ hR;exact hn
def qa{t:Nat}{v:Value}(ht:a.tmps[t]?=some v):a.eval (.tmp t)=v:=by
 simp only[Act.eval];rw[Array.getD_eq_getD_getElem?,ht];rfl
def yb(hR:Rel C B e h a w){x:Operand}{K:Value->Prop}(hk:cZ e x K):K (a.eval x):=by
 unfold cZ at hk;split at hk;exact hk;exact hk;exact hk
 . rename_i t;split at hk;rename_i v hv;rw[qa (hR.cL t v hv)];exact hk;exact hk.elim
def JH(hR:Rel C B e h a w):∀{l:List Operand} {K:List Value->Prop},kF e l K->K (l.map a.eval)
 | [],_,hk=>hk
 | x :: r,K,hk=>by
   have:=yb hR hk;exact JH (l:=r) (K:=λvs=>K (a.eval x :: vs)) hR this
def Zc(hR:Rel C B e h a w){v:Value}(hk:qm C o.dst v h K):Qd C B o e K (a.put o.dst v) w:=by
 unfold qm at hk;split at hk
 . rename_i hd;exact⟨.none,h,hk,by rw[hd];exact hR,λd de=>by cases de⟩
 . rename_i d hd;split at hk
   . rename_i hl hn;refine⟨.set d (.val v),h,hk,?_,λd' de=>?_⟩;rw[hd];exact hR.mz hl (by have:=hn;unfold Pc at this;have:=Un this;omega);simp only[Up.dst,Js]at de;subst de;simp[Yf,hd]
   exact hk.elim
def zc6(hR:Rel C B e h a w)(hk:yF C o.dst h K):Qd C B o e K (a.put o.dst undef) w:=by
 unfold yF at hk;split at hk
 . rename_i hd;exact⟨.none,h,hk,by rw[hd];exact hR,λd de=>by cases de⟩
 . rename_i d hd;split at hk
   . rename_i hl kQ;refine⟨.alloc d .fG,h,hk,?_,λd' de=>?_⟩;rw[hd];exact hR.tE hl λt ht hh=>by have:=(hR.iL t ht).2.2.1;rw[hh,kQ]at this;cases this
     simp only[Up.dst,Js]at de;subst de;simp[Yf,hd]
   exact hk.elim;exact Zc hR hk
def zf2(hR:Rel C B e h a w){root off b:Nat}{cs:List Value}(hb:e root=.box cs)(hp:a.tmps[root]?=some (.pointer (some ⟨b,0,none⟩)))
 (hk:CG C o.dst root off h K):Qd C B o e K (a.put o.dst (.pointer (some ⟨b,off,none⟩))) w:=by
 unfold CG at hk;split at hk;exact hk.elim
 . rename_i d hd;split at hk
   . rename_i hl hr hn;have hr:=Ut hr;refine⟨.set d (.ref off),h,hk,?_,λd' de=>?_⟩;rw[hd];exact hR.setRef hl (by have:=hn;unfold Pc at this;have:=Un this;omega) (cs:=cs) (by rw[hr];exact hb) (by rw[hr];exact hp);simp only[Up.dst,Js]at de;subst de;simp[Yf,hd]
   exact hk.elim
def Rel.alloc(hR:Rel C B e h a w)(cs:List Value)(el:TypeId)(fz:Nat×Nat:=(0,0)) :
 Rel C B e (h.ins w.heap.size ⟨cs,el,fz⟩) a (w.alloc (.cells cs.toArray el fz)):=by
 refine hR.step (λk b hk=>?_) (Fr.alloc h w _) (λk hk hh=>?_)
 . by_cases dH:k=w.heap.size;subst dH;rw[Hp.cD]at hk;cases hk;exact NH;rw[Hp.cl dH]at hk;exact hR.sub.alloc _ k b hk
 . by_cases dH:k=w.heap.size;omega;rw[Hp.cl dH]at hk;exact absurd hh hk
def zf1(hR:Rel C B e h a w){cs:List Value}{mk:Addr->Value}{dy:Slot}{el:TypeId}{ty:Option Nat}(qW:∀t,ty=some t->el=t)(hk:sj C o.dst cs mk dy ty h K)
 (hm:mk ⟨w.heap.size,0,none⟩=jA w.heap.size dy) (hc:Zsl dy=cs) (hh:lU dy=true) (hmp:∀m,dy≠.mp m) :
 Qd C B o e K (a.put o.dst (mk ⟨w.heap.size,0,none⟩)) (w.alloc (.cells cs.toArray el (0,0))):=by
 unfold sj at hk;split at hk;exact hk.elim
 . rename_i d hd;split at hk
   . rename_i hl hn kQ;refine⟨.alloc d dy,h,hk,?_,λd' de=>?_⟩
     . rw[hd,hm,<-hc];refine hR.nV (el:=el) hl (by have:=hn;unfold Pc at this;have:=Un this;omega) hh ?_ λt ht hq=>by have:=(hR.iL t ht).2.2.1;rw[hq,kQ]at this;cases this
       cases dy
       case mp m=>exact absurd rfl (hmp m)
       all_goals exact NH
     simp only[Up.dst,Js]at de;subst de;simp[Yf,hd]
   . rename_i hl hn;have:K (.set d (.val (mk ⟨w.heap.size,0,none⟩))) (h.ins w.heap.size ⟨cs,el,(0,0)⟩):=by
      split at hk;exact hk w.heap.size el (hR.sub.fresh (Jd _))
      . rename_i t;rw[qW t rfl];exact hk w.heap.size (hR.sub.fresh (Jd _))
     refine⟨_,_,this,?_,λd' de=>?_⟩;rw[hd];exact(hR.alloc cs el).mz hl (by have:=hn;unfold Pc at this;have:=Un this;omega);simp only[Up.dst,Js]at de;subst de;simp[Yf,hd]
   exact hk.elim
def JI(hs:Sub h w){ad:Addr}{vs:List Value}{K:Hp->Prop}(hk:bD ad vs K h) :
 ∃h' w',K h'/\(storeCells ad vs).run C.P w=.ok () w'/\Sub h' w'/\Fr h w w'/\(∀k,h' k≠none->h k=none->w.heap.size<=k):=by
 obtain⟨b,hb,hsp,hfz,hlen,hl,hK⟩:=hk;obtain⟨bl,off,sp⟩:=ad;simp only at hb hsp hlen hK;subst hsp;have hw:=hs _ _ hb;rw[hfz]at hw;have hlt:=Xr hw;refine⟨_,_,hK,z7a hw (by simpa using hlen) hl,?_,?_,?_⟩
 . intro k c hkc;by_cases dH:k=bl
   . subst dH;rw[Hp.cD]at hkc;cases hkc;rw[JE hlt];simp[hfz]
   rw[Hp.cl dH]at hkc;rw[E8 dH];exact hs k c hkc
 . refine⟨by rw[NN];exact Jd _,λk cy aG=>?_,rfl,rfl,rfl,Jd _⟩;have dH:k≠bl:=λhh=>by rw[hh,hb]at aG;cases aG
   exact E8 dH
 . intro k cy aG;have dH:k≠bl:=λhh=>by rw[hh,hb]at aG;cases aG
   rw[Hp.cl dH]at cy;exact absurd aG cy
def NO(D:Hp)(w:World):Fr D w { w with drawn:=w.drawn+1 }:=⟨Jd _,λ_ _ _=>rfl,rfl,rfl,rfl,Nat.le_succ _⟩
def Rel.drew(hR:Rel C B e h a w):Rel C B e h a { w with drawn:=w.drawn+1 }:=hR.step hR.sub (NO h w) (λk h1 h2=>absurd h2 h1)
end
end Den
end

section
namespace Den
open Go
variable {ro:Option Nat}{nn:Nat}
section
variable {C:bX}{B:fI}{e:Env}{h:Hp}{a:Act}{w:World}{K:Up->Hp->Prop}{o:Oper}{Q:Exit->Act->World->Prop}
def Fa{p:Option Addr}{K:Addr->Prop}(hk:Yv p K):∃ad,p=some ad/\K ad:=by
 cases p with
 | none=>exact hk.elim
 | some ad=>exact⟨ad,rfl,hk⟩
def NP(hR:Rel C B e h a w){s:Nat}{cs:List Value}(hb:e s=.box cs) :
 ∃b el,a.tmps[s]?=some (.pointer (some ⟨b,0,none⟩))/\w.heap[b]?=some (.cells cs.toArray el (0,0)):=by
 obtain⟨_,b,el,h1,h2,_,_⟩:=hR.dy s (by rw[hb];rfl);rw[hb]at h1 h2;exact⟨b,el,h1,h2⟩
def zos(hR:Rel C B e h a w){s off:Nat}(hb:e s=.ref off):∃cs b el,e (C.rt s)=.box cs /\
 a.tmps[C.rt s]?=some (.pointer (some ⟨b,0,none⟩))/\a.tmps[s]?=some (.pointer (some ⟨b,off,none⟩))/\w.heap[b]?=some (.cells cs.toArray el (0,0)):=by
 obtain⟨cs,b,h1,h2,h3⟩:=hR.refs s off hb;obtain⟨b',el,h4,h5⟩:=NP hR h1;rw[h2]at h4;simp only[Js,Value.pointer.injEq,Addr.mk.injEq]at h4;obtain rfl:=h4.1;exact⟨cs,b,el,h1,h2,h3,h5⟩
def Zao(hR:Rel C B e h a w){t:TypeId}{x:Operand}(ho:o.op=.load t x)(hk:Zh C o e h K):o.wpIn (Yb ro) nn C.P a w (Qd C B o e K) Q:=by
 unfold Zh at hk;rw[ho]at hk;simp only at hk;split at hk
 . rename_i s;split at hk
   . rename_i cs hb;obtain⟨b,el,h1,h2⟩:=NP hR hb;obtain⟨v,hv,bR⟩:=zjp (P:=C.P) h2 hk;refine ye (w':=w) (v:=v) ?_ (Zc hR hv);simp only[execOp,ho,qa h1,Instr.loadAt,Lr,Jg,Jj,Jb,bR]
   . rename_i off hb;obtain⟨cs,b,el,h1,h2,h3,h4⟩:=zos hR hb;rw[h1]at hk;simp only at hk;obtain⟨v,hv,bR⟩:=zjp (P:=C.P) h4 hk;refine ye (w':=w) (v:=v) ?_ (Zc hR hv);simp only[execOp,ho,qa h3,Instr.loadAt,Lr,Jg,Jj,Jb,bR]
   . rename_i p hb;split at hk;exact hk.elim;obtain⟨ad,rfl,aG⟩:=Fa hk;obtain⟨v,hv,bR⟩:=Zbg (P:=C.P) hR.sub aG;replace hv:=Z6w hv;refine ye (w':=w) (v:=v) ?_ (Zc hR hv);simp only[execOp,ho,qa (hR.cL s _ hb),Instr.loadAt,Lr,Jg,Jj,Jb,bR]
   exact hk.elim
 exact hk.elim
def zj9{v:Value}{t:TypeId}(h1:G9 v.cells.toList.length (C.P.cellsOf t)=true)(h2:v.cells.toList.all Value.leaf=true)(hi:∃i,C.P.info? t=some i) :
 ∃n,(Go.sizeOf t).run C.P w=.ok n w/\v.cells.size=n:=by
 obtain⟨i,hi⟩:=hi;refine⟨i.size,yf hi,?_⟩;have:=Ut h1;rw[Yc hi]at this;simpa using this
def zso{t:TypeId}{n:Nat}(h:C.P.cellsOf t=n)(hn:n≠0):∃i,C.P.info? t=some i:=by
 cases hi:C.P.info? t with
 | none=>simp[Program.cellsOf,hi]at h;omega
 | some i=>exact⟨i,rfl⟩
def Z3o(hR:Rel C B e h a w){t:TypeId}{x y:Operand}(ho:o.op=.store t x y)(hk:Zh C o e h K):o.wpIn (Yb ro) nn C.P a w (Qd C B o e K) Q:=by
 unfold Zh at hk;rw[ho]at hk;simp only at hk;replace hk:=yb hR hk;split at hk
 . rename_i dO hl;split at hk
   . rename_i s;split at hk
     . rename_i cs hb;split at hk
       . rename_i hi mB hle;have hle:=Un hle;obtain⟨n,hn,NQ⟩:=zj9 (w:=w) dO hl (T9.1 hi);obtain⟨b,el,h1,h2⟩:=NP hR hb;have bR:=z7a (P:=C.P) (i:=0) (off:=0) h2 (by simpa using hle) hl;refine zot (w':=lV w b (.cells (Zn cs 0 (a.eval y).cells.toList).toArray el (0,0))) ?_ ⟨_,_,hk,?_,?_⟩
         rotate_left
         . rw[mB];exact hR.vA hb h1 (JE (Xr h2)) (λk dH=>E8 dH) NN rfl rfl rfl (Jd _)
         intro d hd;simp only[Up.dst,Js]at hd;subst hd;simp[Yf,ho];simp only[execOp,ho,qa h1,Instr.storeAt,Lr,Jg,Jj,Jb,storeVar,hn,NQ,ne_eq,not_true_eq_false,if_false,bR]
       exact hk.elim
     . rename_i off hb;obtain⟨cs,b,el,h1,h2,h3,h4⟩:=zos hR hb;rw[h1]at hk;simp only at hk;split at hk
       . rename_i hi mB hle;have hle:=Un hle;obtain⟨n,hn,NQ⟩:=zj9 (w:=w) dO hl (T9.1 hi);have bR:=z7a (P:=C.P) (i:=0) (off:=off) h4 (by simpa using hle) hl;refine zot (w':=lV w b (.cells (Zn cs off (a.eval y).cells.toList).toArray el (0,0))) ?_ ⟨_,_,hk,?_,?_⟩
         rotate_left
         . rw[mB];exact hR.vA h1 h2 (JE (Xr h4)) (λk dH=>E8 dH) NN rfl rfl rfl (Jd _)
         intro d hd;simp only[Up.dst,Js]at hd;subst hd;simp[Yf,ho]
         . simp only[execOp,ho,qa h3,Instr.storeAt,Lr,Jg,Jj,Jb,storeVar,hn,NQ,ne_eq,not_true_eq_false,if_false,bR];simp
       exact hk.elim
     . rename_i p hb;split at hk;exact hk.elim;obtain⟨ad,rfl,aG⟩:=Fa hk;split at aG
       . rename_i hi mB;obtain⟨n,hn,NQ⟩:=zj9 (w:=w) dO hl (T9.1 hi);obtain⟨h',w',hK,bR,iQ,hf,hd⟩:=JI (C:=C) hR.sub aG;refine zot (w':=w') ?_ ⟨_,_,hK,?_,?_⟩
         rotate_left
         . rw[mB];exact hR.step iQ hf hd
         intro d hd;cases hd;simp only[execOp,ho,qa (hR.cL s _ hb),Instr.storeAt,Lr,Jg,Jj,Jb,storeVar,hn,NQ,ne_eq,not_true_eq_false,if_false,bR]
       exact aG.elim
     exact hk.elim
   exact hk.elim
 exact hk.elim
def zn5{t:TypeId}{f:Nat}{K:Nat->Prop}(hk:I7 C.P t f K) :
 ∃fs fd i,C.P.underlying t=some (.struct fs)/\fs[f]?=some fd/\C.P.info? fd.type=some i/\i.size≠0/\K fd.offset:=by
 unfold I7 at hk;split at hk
 . rename_i fs hu;split at hk
   . rename_i fd hf;split at hk;exact hk.elim
     . rename_i hz;have hz:C.P.cellsOf fd.type≠0:=λhh=>by rw[hh]at hz;cases hz
       obtain⟨i,hi⟩:=zso (C:=C) rfl hz;exact⟨fs,fd,i,hu,hf,hi,by rw[Yc hi]at hz;exact hz,hk⟩
   exact hk.elim
 exact hk.elim
def zgc{t:TypeId}{f:Nat}{fs:Array Field}{fd:Field}{i:TypeInfo}(hu:C.P.underlying t=some (.struct fs))(hf:fs[f]?=some fd)
 (hi:C.P.info? fd.type=some i) (hz:i.size≠0) (ad:Addr):(Instr.fieldAt t (.pointer (some ad)) f).run C.P w=.ok (.pointer (some (ad.add fd.offset))) w:=by
 simp only[Instr.fieldAt,Jg,zn hu,Jb,hf,Lr,Jj,fieldPlace,yf hi,if_neg hz]
def zpe(hR:Rel C B e h a w){t:TypeId}{x:Operand}{f:Nat}(ho:o.op=.fieldAddr t x f)(hk:Zh C o e h K):o.wpIn (Yb ro) nn C.P a w (Qd C B o e K) Q:=by
 unfold Zh at hk;rw[ho]at hk;simp only at hk;obtain⟨fs,fd,i,hu,hf,hi,hz,aG⟩:=zn5 hk;clear hk;split at aG
 . rename_i s;split at aG
   . rename_i cs hb;obtain⟨b,el,h1,h2⟩:=NP hR hb;refine ye (w':=w) ?_ (zf2 hR hb h1 aG);simp only[execOp,ho,qa h1,Jg,zgc hu hf hi hz,Jb,Jj,yI,Uo]
   . rename_i off hb;obtain⟨cs,b,el,h1,h2,h3,h4⟩:=zos hR hb;refine ye (w':=w) ?_ (zf2 hR h1 h2 aG);simp only[execOp,ho,qa h3,Jg,zgc hu hf hi hz,Jb,Jj,yI]
   . rename_i p hb;obtain⟨ad,rfl,cw⟩:=Fa aG;refine ye (w':=w) ?_ (Zc hR cw);simp only[execOp,ho,qa (hR.cL s _ hb),Jg,zgc hu hf hi hz,Jb,Jj]
   exact aG.elim
 exact aG.elim
def zzk{n:Int}{len:Nat}{p:Prop}(hk:CI n len p):(0<=n/\n<len)/\p:=by
 unfold CI at hk;split at hk;rename_i hd;exact⟨of_decide_eq_true hd,hk⟩;exact hk.elim
def z87{t el:TypeId}{len:Nat}{k:IntKind}{n:Int}{i:TypeInfo}(hu:C.P.underlying t=some (.array len el))(hi:C.P.info? el=some i)
 (hn:0<=n/\n<len) (ad:Addr):(Instr.indexAt t (.pointer (some ad)) (.int k n)).run C.P w=.ok (.pointer (some (ad.add (n.toNat*C.P.cellsOf el)))) w:=by
 simp only[Instr.indexAt,asIntOf,Lr,Jg,Jj,zn hu,Jb];rw[if_pos hn];simp[yf hi,Yc hi]
def zpf(hR:Rel C B e h a w){t:TypeId}{x ix:Operand}(ho:o.op=.indexAddr t x ix)(hk:Zh C o e h K):o.wpIn (Yb ro) nn C.P a w (Qd C B o e K) Q:=by
 unfold Zh at hk;rw[ho]at hk;simp only at hk;replace hk:=yb hR hk;split at hk
 . rename_i k n uL;split at hk
   . rename_i el hu;obtain⟨⟨i,hi⟩,aG⟩:=zoo hk;clear hk;replace aG:=yb hR aG;split at aG
     . rename_i ba l c hx;obtain⟨h0,h1,cw⟩:=aG;obtain⟨ad,hba,jP⟩:=Fa cw;simp only at hba h1;subst hba;refine ye (w':=w) ?_ (Zc hR jP);simp only[execOp,ho,uL,hx,Instr.indexAt,asIntOf,Jg,Jj,zn hu,Jb,Yc hi];rw[if_pos ⟨h0,h1⟩];simp[yf hi]
     exact aG.elim
   . rename_i len el hu;obtain⟨⟨i,hi⟩,aG⟩:=zoo hk;clear hk;obtain⟨hn,cw⟩:=zzk aG;clear aG;split at cw
     . rename_i s;split at cw
       . rename_i cs hb;obtain⟨b,E5,h1,h2⟩:=NP hR hb;refine ye (w':=w) ?_ (zf2 hR hb h1 cw);simp only[execOp,ho,uL,qa h1,Jg,z87 hu hi hn,Jb,Jj,yI,Uo]
       . rename_i off hb;obtain⟨cs,b,E5,h1,h2,h3,h4⟩:=zos hR hb;refine ye (w':=w) ?_ (zf2 hR h1 h2 cw);simp only[execOp,ho,uL,qa h3,Jg,z87 hu hi hn,Jb,Jj,yI]
       . rename_i p hb;obtain⟨ad,rfl,jP⟩:=Fa cw;refine ye (w':=w) ?_ (Zc hR jP);simp only[execOp,ho,uL,qa (hR.cL s _ hb),Jg,z87 hu hi hn,Jb,Jj]
       exact cw.elim
     . rename_i g;refine ye (w':=w) ?_ (Zc hR cw);have hg:a.eval (.global g)=.pointer (some ⟨g,0,none⟩):=rfl;simp only[execOp,ho,uL,hg,Jg,z87 hu hi hn,Jb,Jj]
     exact cw.elim
   exact hk.elim
 exact hk.elim
def Z76{s:ByteArray}{n:Int}{K:Int->Prop}(hk:Vq s n K){t:TypeId}{k:IntKind}(hu:C.P.underlying t=some .string) :
 ∃b:Int,K b/\(Instr.index t (.string s) (.int k n)).run C.P w=.ok (.int .u8 b) w:=by
 obtain⟨h0,b,hb,hk⟩:=hk;refine⟨_,hk,?_⟩;simp only[Instr.index,asIntOf,Jg,Jj,zn hu,Jb,if_pos h0,hb]
def Z5x{P:Program}{ix:Operand}{t:TypeId}{cs:List Value}{off:Nat}{K:Value->Prop}(hk:Ns P ix t cs off K):tA P t cs off K:=by
 unfold Ns at hk;split at hk
 . split at hk
   . rename_i l h1 h2;obtain⟨x,h3,h4⟩:=hk;unfold tA;rw[h1];simp only[h3];exact h4
   exact hk.elim
 exact hk
def Z3m(hR:Rel C B e h a w){t:TypeId}{x ix:Operand}(ho:o.op=.index t x ix)(hk:Zh C o e h K):o.wpIn (Yb ro) nn C.P a w (Qd C B o e K) Q:=by
 unfold Zh at hk;rw[ho]at hk;simp only at hk;replace hk:=yb hR (yb hR hk);split at hk
 . rename_i k n s uL hx;split at hk
   . rename_i hu;obtain⟨b,hb,bR⟩:=Z76 (C:=C) (w:=w) (k:=k) hk hu;refine ye (w':=w) ?_ (Zc hR hb);simp only[execOp,ho,uL,hx,Jg,bR,Jb,Jj]
   exact hk.elim
 . rename_i k n cs uL hx;split at hk
   . rename_i len el hu;obtain⟨⟨i,hi⟩,aG⟩:=zoo hk;obtain⟨hn,cw⟩:=zzk aG;obtain⟨v,hv,bR⟩:=zr0 (P:=C.P) (w:=w) (Z5x cw);refine ye (w':=w) ?_ (Zc hR hv);rw[Yc hi]at bR;have vB:(part el cs (n.toNat*i.size)).run C.P w=.ok v w:=by simpa using bR
     simp only[execOp,ho,uL,hx,Instr.index,asIntOf,Jg,Jj,zn hu,Jb];rw[if_pos hn];simp only[Jg,yf hi,Jb,vB]
   exact hk.elim
 exact hk.elim
def Z3l(hR:Rel C B e h a w){t:TypeId}{x:Operand}{f:Nat}(ho:o.op=.field t x f)(hk:Zh C o e h K):o.wpIn (Yb ro) nn C.P a w (Qd C B o e K) Q:=by
 unfold Zh at hk;rw[ho]at hk;simp only at hk;obtain⟨fs,fd,i,hu,hf,hi,hz,aG⟩:=zn5 hk;clear hk;replace aG:=yb hR aG;cases hx:a.eval x with
 | agg cs=>
   rw[hx]at aG;simp only[Zs6,hu,hf]at aG;obtain⟨v,hv,bR⟩:=zr0 (P:=C.P) (w:=w) aG;refine ye (w':=w) ?_ (Zc hR hv);have vB:(part fd.type cs fd.offset).run C.P w=.ok v w:=by simpa using bR
   simp only[execOp,ho,hx,Instr.field,Jg,Jj,zn hu,Jb,hf,asAgg,vB]
 | _=>rw[hx]at aG;exact aG.elim
def CR(hR:Rel C B e h a w){lo:Option Operand}{d:Int}{K:Int->Prop}(hk:kO e lo d K) :
 ∃n,K n/\((lo=none/\n=d)\/∃x k,lo=some x/\a.eval x=.int k n):=by
 unfold kO at hk;split at hk;exact⟨_,hk,.inl ⟨rfl,rfl⟩⟩
 . rename_i x;replace hk:=yb hR hk;split at hk;rename_i k n hx;exact⟨n,hk,.inr ⟨x,k,rfl,hx⟩⟩;exact hk.elim
def Qy{k:IntKind}{n:Int}{y:Nat}{c:BoundsCode}(hn:0<=n/\n<=y):(Instr.sliceBound (.int k n) y c).run C.P w=.ok n.toNat w:=by
 simp only[Instr.sliceBound,asIntOf,Jg,Jj,Jb];rw[if_pos hn];rfl
def z9e(hR:Rel C B e h a w){lo hi:Option Operand}{isS:Bool}{len cap:Nat}{l u:Int}(h0:0<=l)(h1:l<=u)(h2:u<=cap)
 (hl:(lo=none/\l=0)\/∃x k,lo=some x/\a.eval x=.int k l) (hu:(hi=none/\u=len)\/∃x k,hi=some x/\a.eval x=.int k u) :
 (Le isS len cap (lo.map a.eval) (hi.map a.eval) none).run C.P w=.ok (l.toNat,u.toNat,cap) w:=by
 rcases hu with ⟨rfl,rfl⟩ | ⟨x,k,rfl,hx⟩
 . rcases hl with ⟨rfl,rfl⟩ | ⟨y,k',rfl,hy⟩
   simp[Le]
   . simp only[Le,L9,Gp,hy,Jg,Jj,Jb];rw[Qy ⟨h0,h1⟩];simp
 . rcases hl with ⟨rfl,rfl⟩ | ⟨y,k',rfl,hy⟩
   . simp only[Le,L9,Gp,hx,Jg,Jj,Jb];rw[Qy ⟨zO,h2⟩];simp
   . simp only[Le,Gp,hx,hy,Jg,Jj,Jb];rw[Qy ⟨zO,h2⟩];simp only[Jb];rw[Qy ⟨h0,zO⟩];simp
def zmr(hR:Rel C B e h a w){lo:Option Operand}{hi mx:Operand}{isS:Bool}{len cap:Nat}{l u m:Int}(h0:0<=l)(h1:l<=u)(h2:u<=m)(h3:m<=cap)
 (hl:(lo=none/\l=0)\/∃x k,lo=some x/\a.eval x=.int k l) (hu:∃k,a.eval hi=.int k u) (hm:∃k,a.eval mx=.int k m) :
 (Le isS len cap (lo.map a.eval) ((some hi).map a.eval) ((some mx).map a.eval)).run C.P w=.ok (l.toNat,u.toNat,m.toNat) w:=by
 obtain⟨k1,hu⟩:=hu;obtain⟨k2,hm⟩:=hm;rcases hl with ⟨rfl,rfl⟩ | ⟨y,k',rfl,hy⟩
 . simp only[Le,L9,Gp,hu,hm,Jg,Jj];rw[Qy ⟨zO,h3⟩];simp only[Jb];rw[Qy ⟨zO,zO⟩];simp
 . simp only[Le,Gp,hu,hm,hy,Jg,Jj];rw[Qy ⟨zO,h3⟩];simp only[Jb];rw[Qy ⟨zO,zO⟩];simp only[Jb];rw[Qy ⟨h0,zO⟩];simp
def zkh(hR:Rel C B e h a w){x:Operand}{d:Int}{K:Int->Prop}(hk:kO e (some x) d K):∃n,K n/\∃k,a.eval x=.int k n:=by
 obtain⟨n,hn,⟨h1,_⟩ | ⟨y,k,h1,h2⟩⟩:=CR hR hk;cases h1;cases h1;exact⟨n,hn,k,h2⟩
def zyw(hR:Rel C B e h a w){t:TypeId}{x hi mx:Operand}{lo:Option Operand}(ho:o.op=.slice t x lo (some hi) (some mx))(hk:Zh C o e h K):o.wpIn (Yb ro) nn C.P a w (Qd C B o e K) Q:=by
 unfold Zh at hk;rw[ho]at hk;simp only at hk;replace hk:=yb hR hk;split at hk
 . rename_i ad n c hx;obtain⟨el,i,hu,hi,cy⟩:=CQ hk;obtain⟨l,aG,hl⟩:=CR hR cy;obtain⟨u,cw,dr⟩:=zkh hR aG;obtain⟨m,jP,uM⟩:=zkh hR cw;obtain⟨h0,h1,h2,h3,hk5⟩:=jP;refine ye (w':=w) ?_ (Zc hR hk5);simp only[execOp,ho,hx,Instr.sliceAt,Jg,zn hu,Jb,Instr.slice,Jj,
    zmr hR h0 h1 h2 h3 hl dr uM,yf hi,Sl.cut,Yc hi]
 exact hk.elim
def Z3n(hR:Rel C B e h a w){t:TypeId}{x:Operand}{lo hi:Option Operand}(ho:o.op=.slice t x lo hi none)(hk:Zh C o e h K):o.wpIn (Yb ro) nn C.P a w (Qd C B o e K) Q:=by
 unfold Zh at hk;rw[ho]at hk;simp only at hk;replace hk:=yb hR hk;split at hk
 . rename_i s hx;split at hk
   . rename_i hu;obtain⟨l,cy,hl⟩:=CR hR hk;obtain⟨u,aG,dr⟩:=CR hR cy;obtain⟨h0,h1,h2,cw⟩:=aG;refine ye (w':=w) ?_ (Zc hR cw);simp only[execOp,ho,hx,Instr.sliceAt,Jg,zn hu,Jb,Instr.slice,L9,Option.isSome_none,Ur,if_false,Jj,
      z9e hR h0 h1 h2 hl dr]
   exact hk.elim
 . rename_i ad n c hx;obtain⟨el,i,hu,hi,cy⟩:=CQ hk;obtain⟨l,aG,hl⟩:=CR hR cy;obtain⟨u,cw,dr⟩:=CR hR aG;obtain⟨h0,h1,h2,jP⟩:=cw;refine ye (w':=w) ?_ (Zc hR jP);simp only[execOp,ho,hx,Instr.sliceAt,Jg,zn hu,Jb,Instr.slice,L9,Jj,
    z9e hR h0 h1 h2 hl dr,yf hi,Sl.cut,Yc hi]
 . rename_i p hx;split at hk
   . rename_i n el hu;obtain⟨⟨i,hi⟩,cy⟩:=zoo hk;obtain⟨ad,rfl,aG⟩:=Fa cy;obtain⟨l,cw,hl⟩:=CR hR aG;obtain⟨u,jP,dr⟩:=CR hR cw;obtain⟨h0,h1,h2,hk5⟩:=jP;refine ye (w':=w) ?_ (Zc hR hk5);have e1:(Sl.cut ⟨some ad,n,n⟩ l.toNat u.toNat (C.P.cellsOf el)).a=some (if n=l.toNat then ad else ad.add (l.toNat*i.size)):=by
      unfold Sl.cut;simp only[Yc hi];split<;>rfl
     rw[e1];simp only[execOp,ho,hx,Instr.sliceAt,Lr,Jg,zn hu,Jb,L9,Jj,
      z9e hR h0 h1 h2 hl dr,yf hi,Sl.cut]
   exact hk.elim
 exact hk.elim
end
end Den
end

section
namespace Den
open Go
variable {ro:Option Nat}{nn:Nat}
section
variable {C:bX}{B:fI}{e:Env}{h:Hp}{a:Act}{w:World}{K:Up->Hp->Prop}{o:Oper}{Q:Exit->Act->World->Prop}
def zkw(hR:Rel C B e h a w){x:Operand}{A:Nat->List (Int×Bool)->Prop}{D:Prop}(hk:qX C e x A D) :
 (∃s m b el,x=.tmp s/\e (C.rt s)=.mp m/\A (C.rt s) m/\a.tmps[s]?=some (.map (some b))/\a.tmps[C.rt s]?=some (.map (some b))/\uK w b el (.mp m)/\C.loc (C.rt s)=true)\/D:=by
 unfold qX at hk;split at hk
 . rename_i s;split at hk
   . rename_i m hm;split at hk
     . rename_i hr;have hr:=Ut hr;obtain⟨hl,b,el,h1,h2,_,_⟩:=hR.dy s (by rw[hm];rfl);rw[hm]at h1 h2;exact .inl ⟨s,m,b,el,rfl,by rw[hr];exact hm,by rw[hr];exact hk,h1,by rw[hr];exact h1,h2,by rw[hr];exact hl⟩
     exact hk.elim
   . rename_i hm;split at hk
     . rename_i m uM;obtain⟨hl,b,el,h1,h2,_,_⟩:=hR.dy (C.rt s) (by rw[uM];rfl);rw[uM]at h1 h2;obtain⟨_,_,_,g3⟩:=hR.iL s hm;exact .inl ⟨s,m,b,el,rfl,uM,hk,by rw[g3];exact h1,h1,h2,hl⟩
     exact hk.elim
   exact .inr hk
 exact .inr hk
def Z69(hR:Rel C B e h a w){r:Nat}{v:Value}(hk:EU C o.dst r h K)(NF:C.loc r=true)(hm:eZ r C.kN=true)(hp:a.tmps[r]?=some v):Qd C B o e K (a.put o.dst v) w:=by
 unfold EU at hk;split at hk;exact hk.elim
 . rename_i d hd;split at hk
   . rename_i hl hr hn;have hr:=Ut hr;refine⟨.set d .mr,h,hk,?_,λd' de=>?_⟩;rw[hd];exact hR.NC hl (by have:=hn;unfold Pc at this;have:=Un this;omega) hr NF hm hp;simp only[Up.dst,Js]at de;subst de;simp[Yf,hd]
   exact hk.elim
def zte(hR:Rel C B e h a w){x:Operand}(ho:o.op=.move x\/o.op=.assign x)(hk:Zh C o e h K):o.wpIn (Yb ro) nn C.P a w (Qd C B o e K) Q:=by
 unfold Zh at hk;rcases ho with ho | ho
 all_goals
  rw[ho]at hk;simp only at hk;rcases zkw hR hk with ⟨s,m,b,el,rfl,hm,hk,h1,jQ,_,hl⟩ | hk
  . split at hk
    . rename_i kQ;refine ye (w':=w) (v:=.map (some b)) ?_ (Z69 hR hk hl kQ jQ);simp only[execOp,ho,Jj,qa h1]
    exact hk.elim
  . replace hk:=yb hR hk;refine ye (w':=w) ?_ (Zc hR hk);simp only[execOp,ho,Jj]
def Zap(hR:Rel C B e h a w){c x y:Operand}(ho:o.op=.pick c x y)(hk:Zh C o e h K):o.wpIn (Yb ro) nn C.P a w (Qd C B o e K) Q:=by
 unfold Zh at hk;rw[ho]at hk;simp only at hk;replace hk:=yb hR hk;split at hk
 . rename_i t hc;cases t
   . have aG:cZ e y λv=>qm C o.dst v h K:=hk
     replace aG:=yb hR aG;refine ye (w':=w) ?_ (Zc hR aG);simp[execOp,ho,hc,asBool]
   . have aG:cZ e x λv=>qm C o.dst v h K:=hk
     replace aG:=yb hR aG;refine ye (w':=w) ?_ (Zc hR aG);simp[execOp,ho,hc,asBool]
 exact hk.elim
def zy1{C:bX}{t t':Nat}(h:C.Nn t=some t'):t=t':=by
 unfold bX.Nn at h;cases hm:eZ t C.I6 with
 | true=>rw[hm]at h;simpa using h
 | false=>rw[hm]at h;cases h
def Z3g(hR:Rel C B e h a w){t:TypeId}(ho:o.op=.alloc t)(hk:Zh C o e h K):o.wpIn (Yb ro) nn C.P a w (Qd C B o e K) Q:=by
 unfold Zh at hk;rw[ho]at hk;simp only at hk;obtain⟨i,z,hi,hz,aG,bR⟩:=JF hk;refine ye ?_ (zf1 (el:=t) hR (λt' ht=>zy1 ht) aG rfl rfl rfl (λ_ hh=>by cases hh));simp only[execOp,ho,Instr.alloc,Jg,bR,Jb,newVar,AA,Jj,Array.toArray_toList]
def Zdl(hR:Rel C B e h a w){t:TypeId}{x:Operand}(ho:o.op=.box t x)(hk:Zh C o e h K):o.wpIn (Yb ro) nn C.P a w (Qd C B o e K) Q:=by
 unfold Zh at hk;rw[ho]at hk;simp only at hk;replace hk:=yb hR hk;refine ye ?_ (zf1 (el:=t) hR (λ_ ht=>by cases ht) hk rfl rfl rfl (λ_ hh=>by cases hh));simp only[execOp,ho,Instr.box,Jg,Jb,newVar,AA,Jj,Array.toArray_toList]
def zy5{α:Type}:∀(l:List (Nat×α)) (f:α->Value),(l.map (·.1)).zip ((l.map (·.2)).map f)=l.map λ(i,x)=>(i,f x)
 | [],_=>rfl
 | (i,x) :: r,f=>by simp only[List.map_cons,List.zip_cons_cons,zy5 r f]
def Z3i(hR:Rel C B e h a w){t:TypeId}{parts:Array (Nat×Operand)}(ho:o.op=.build t parts)(hk:Zh C o e h K):o.wpIn (Yb ro) nn C.P a w (Qd C B o e K) Q:=by
 unfold Zh at hk;rw[ho]at hk;simp only at hk;replace hk:=JH hR hk;rw[zy5]at hk;split at hk
 . rename_i cs mA;refine ye (w':=w) ?_ (Zc hR hk);have:(parts.map λ(i,x)=>(i,a.eval x)).toList=parts.toList.map λ(i,x)=>(i,a.eval x):=zS
   simp only[execOp,ho,Jg,run_build w t _ cs (by rw[this];exact mA),Jb,Jj]
 exact hk.elim
def zof(hR:Rel C B e h a w){t:TypeId}{n:Nat}{parts:Array (Nat×Operand)}(ho:o.op=.buildSlice t n parts)(hk:Zh C o e h K):o.wpIn (Yb ro) nn C.P a w (Qd C B o e K) Q:=by
 unfold Zh at hk;rw[ho]at hk;simp only at hk;replace hk:=JH hR hk;rw[zy5]at hk;obtain⟨el,i,hu,hi,cy⟩:=CQ hk;obtain⟨i',z,aA,hz,aG,bR⟩:=JF cy;obtain rfl:i=i':=by rw[hi]at aA;exact Gg aA
 split at aG
 . rename_i h1 h2;have h1:=Ut h1;have h2:=Un h2;rw[Yc hi]at h1 h2;simp only[Array.length_toList]at h1 aG;unfold I8 at aG;split at aG
   . rename_i cs mA;have hp:(parts.map λ(i,x)=>(i,a.eval x)).toList=parts.toList.map λ(i,x)=>(i,a.eval x):=zS
     refine ye ?_ (zf1 (el:=el) hR (λ_ ht=>by cases ht) aG rfl rfl rfl (λ_ hh=>by cases hh));simp only[execOp,ho,Instr.buildSlice,Jg,zn hu,Jb,yf hi,hp];rw[if_neg zO];simp only[Jj];by_cases jd:n*i.size=0
     . rw[if_pos jd];simp only[Jg,Jj,Jb];have he:(Array.range (n*i.size)).map (λx=>(#[]:Array Value)[x % (#[]:Array Value).size]!)=(Yi n z.cells.toList).toArray:=by
        have hl:=zgx n z.cells.toList;have:(Yi n z.cells.toList)=[]:=U3 (by rw[hl];simp[h1,jd]);rw[this,jd];simp
       rw[he,<-h1,mA];simp[AA]
     . rw[if_neg jd];simp only[Jg,bR,Jj,Jb];rw[<-h1,JG,mA];simp[AA]
   exact aG.elim
 exact aG.elim
def zsn(hR:Rel C B e h a w){x:Operand}(ho:o.op=.nilCheck x)(hk:Zh C o e h K):o.wpIn (Yb ro) nn C.P a w (Qd C B o e K) Q:=by
 unfold Zh at hk;rw[ho]at hk;simp only at hk;replace hk:=yb hR hk;split at hk
 . rename_i p hx;obtain⟨ad,rfl,aG⟩:=Fa hk;refine ye (w':=w) ?_ (Zc hR aG);simp only[execOp,ho,hx,Jj]
 . rename_i g u v hx;refine ye (w':=w) ?_ (Zc hR hk);simp only[execOp,ho,hx,Jj]
 exact hk.elim
def Z3h(hR:Rel C B e h a w){op:BinOp}{t t':TypeId}{x y:Operand}(ho:o.op=.binOp op t x y t')(hk:Zh C o e h K):o.wpIn (Yb ro) nn C.P a w (Qd C B o e K) Q:=by
 unfold Zh at hk;rw[ho]at hk;simp only at hk;replace hk:=yb hR (yb hR hk);obtain⟨r,hr,bR⟩:=Z3b (w:=w) hk x y;refine ye (w':=w) ?_ (Zc hR hr);simp only[execOp,ho];rw[Jg];show((eqGuard op t x y (a.eval x) (a.eval y) >>= λ_=>binOp op t (a.eval x) (a.eval y)).run C.P w).andThen _=_;rw[bR];rfl
def Zaq(hR:Rel C B e h a w){op:UnOp}{t:TypeId}{x:Operand}(ho:o.op=.unOp op t x)(hk:Zh C o e h K):o.wpIn (Yb ro) nn C.P a w (Qd C B o e K) Q:=by
 unfold Zh at hk;rw[ho]at hk;simp only at hk;replace hk:=yb hR hk;obtain⟨r,hr,bR⟩:=Zcc (P:=C.P) (w:=w) hk;refine ye (w':=w) ?_ (Zc hR hr);simp only[execOp,ho,Jg,bR,Jb,Jj]
def zv3(hR:Rel C B e h a w){s t:TypeId}{x:Operand}(ho:o.op=.convert s t x)(hk:Zh C o e h K):o.wpIn (Yb ro) nn C.P a w (Qd C B o e K) Q:=by
 unfold Zh at hk;rw[ho]at hk;simp only at hk;replace hk:=yb hR hk;split at hk
 . rename_i k k' n hu hx;split at hk
   . rename_i hs;obtain⟨ds,hs⟩:=T9.1 hs;refine ye (w':=w) ?_ (Zc hR hk);simp only[execOp,ho,hx,convert,Jg,zn hu,zn hs,Jb,Conv.intToInt,Jj]
   exact hk.elim
 . rename_i ad l c hu hx;split at hk
   . rename_i el hs;split at hk
     . rename_i he;obtain⟨bs,mA,hk⟩:=hk;refine ye (w':=w) ?_ (Zc hR hk);have bR:(Conv.bytesToString (.slice ad l c)).run C.P w=.ok (.string ⟨bs.toArray⟩) w:=by
        cases ad with
        | none=>
          simp only[Zi]at mA;split at mA
          . simp only[Js]at mA;have:bs=[]:=by cases bs with | nil=>rfl | cons x r=>simp at mA
            subst this;simp[Conv.bytesToString];rfl
          cases mA
        | some ad=>
          have h1:=E9 (P:=C.P) hR.sub mA;have h2:(bs.map λb=>Pt .u8 ((b.toNat:Nat):Int))=(bs.map λb=>((b.toNat:Nat):Int)).map (Pt .u8):=zS;rw[h2]at h1;rw[run_bytesToString w ad l c _ h1];have h3:∀(bs:List UInt8) (r:ByteArray),(bs.map λb=>((b.toNat:Nat):Int)).foldl (λr n=>r.push (UInt8.ofNat n.toNat)) r=⟨r.data++bs.toArray⟩:=by
           intro bs;induction bs with
           | nil=>intro r;simp
           | cons x bs ih=>
             intro r;simp only[List.map_cons,List.foldl_cons];rw[ih];simp[ByteArray.push]
          rw[h3];simp
       simp only[execOp,ho,hx,convert,Jg,zn hu,zn hs,zn he,Jb,bR,Jj]
     exact hk.elim
   exact hk.elim
 . rename_i el st hu hx;split at hk
   . rename_i hs he;have AB:st.size<=grownCap w st.size 0 el:=by
      have cY:∀q,(Tp st.size 0 el).cut q=st.size+q % (2 ^ 63-st.size):=λq=>rfl
      have h1:grownCap w st.size 0 el=(Tp st.size 0 el).cut (w.tape w.drawn (.appendCap st.size 0 el)):=rfl;rw[h1,cY];omega
     have aam:bytesRow st (grownCap w st.size 0 el)=(tt st++Jl (grownCap w st.size 0 el-st.size) (Pt .u8 0)).toArray:=by
      unfold bytesRow tt;apply Gd.1;simp
     have hK:=hk w.heap.size el _ ((bytesRow st (grownCap w st.size 0 el)).size,(bytesRow st (grownCap w st.size 0 el)).size+1) AB (hR.sub.fresh (Jd _));have yK:=hR.drew.alloc (tt st++Jl (grownCap w st.size 0 el-st.size) (Pt .u8 0)) el ((bytesRow st (grownCap w st.size 0 el)).size,(bytesRow st (grownCap w st.size 0 el)).size+1);rw[<-aam]at yK;refine ye ?_ (Zc yK hK);have bR:=run_bytes_of_string (P:=C.P) w s t el st hs hu he;simp only[execOp,ho,hx,Jg,bR,Jb,Jj];rfl
   exact hk.elim
 exact hk.elim
def zsl(hR:Rel C B e h a w){g:FuncId}{u v:Array Operand}(ho:o.op=.makeFunc (.func g) u v)(hk:Zh C o e h K):o.wpIn (Yb ro) nn C.P a w (Qd C B o e K) Q:=by
 unfold Zh at hk;rw[ho]at hk;simp only at hk;replace hk:=JH hR (JH hR hk);refine ye (w':=w) ?_ (Zc hR hk);have hm:∀l:Array Operand,(l.toList.map a.eval).toArray=l.map a.eval:=λl=>by apply Gd.1;simp
 simp only[execOp,ho,Instr.makeFunc,Jg,Jj,Jb,hm]
def zv4(hR:Rel C B e h a w){x:Operand}{i:Nat}(ho:o.op=.extract x i)(hk:Zh C o e h K):o.wpIn (Yb ro) nn C.P a w (Qd C B o e K) Q:=by
 unfold Zh at hk;rw[ho]at hk;simp only at hk;replace hk:=yb hR hk;split at hk
 . rename_i vs hx;split at hk
   . rename_i u hu;refine ye (w':=w) ?_ (Zc hR hk);have AD:vs[i]?=some u:=by simpa using hu
     simp only[execOp,ho,hx,Instr.extract,AD,Jg,Jj,Jb]
   exact hk.elim
 exact hk.elim
def Z2e{n:Int}(h0:0<=n)(h1:n<=140737488355328):i64.wrap n=n:=IntWalk.i64_in n ⟨zO,zO⟩
def zpg(hR:Rel C B e h a w){t:TypeId}{l c:Operand}(ho:o.op=.makeSlice t l c)(hk:Zh C o e h K):o.wpIn (Yb ro) nn C.P a w (Qd C B o e K) Q:=by
 unfold Zh at hk;rw[ho]at hk;simp only at hk;replace hk:=yb hR (yb hR hk);split at hk
 . rename_i kl len kc cap hl hc;obtain⟨el,i,hu,hi,cy⟩:=CQ hk;obtain⟨i',z,aA,hz,aG,bR⟩:=JF cy;obtain rfl:i=i':=by rw[hi]at aA;exact Gg aA
   split at aG
   . rename_i h1 h2;have h1:=Ut h1;have mC:z.cells.toList.length≠0:=λhh=>by rw[hh]at h2;cases h2
     rw[Yc hi]at h1;simp only[Array.length_toList]at h1 mC;obtain⟨g0,g1,g2,g3,cw⟩:=aG;rw[zdy hi]at g2;have:=cw w.heap.size el (hR.sub.fresh (Jd _));refine ye ?_ (Zc (hR.alloc (Yi cap.toNat z.cells.toList) el) this);simp only[execOp,ho,hl,hc,Instr.makeSlice,asInt,asIntOf,Jg,zn hu,Jj,Jb,typeInfo,run_program,hi,
      Z2e (show 0<=len by omega) (show len<=140737488355328 by omega),Z2e (show 0<=cap by omega) g3]
     have AE:((decide (cap<0)||decide ((i.bytes:Int)*cap>2 ^ 48))||decide (len<0)||decide (len>cap))=false:=by
      simp;omega
     simp only[AE,Ur,if_false,Jg,run_askRoom,Jb,yf hi];by_cases jd:cap.toNat*i.size=0
     . rw[if_pos jd];simp only[Jg,Jj,Jb];have he:(Array.range (cap.toNat*i.size)).map (λx=>(#[]:Array Value)[x % (#[]:Array Value).size]!)=(Yi cap.toNat z.cells.toList).toArray:=by
        have hl:=zgx cap.toNat z.cells.toList;have:(Yi cap.toNat z.cells.toList)=[]:=U3 (by rw[hl];simp[h1,jd]);rw[this,jd];simp
       rw[he];simp[AA]
     . rw[if_neg jd];simp only[Jg,bR,Jj,Jb];rw[<-h1,JG];simp[AA]
   exact aG.elim
 exact hk.elim
def Z3j(hC:tF C C.fH)(hR:Rel C B e h a w){c:Call}{f:Operand}(ho:o.op=.call c)(hf:c.callee=.value f)(hk:Zh C o e h K):o.wpIn (Yb ro) nn C.P a w (Qd C B o e K) Q:=by
 unfold Zh at hk;rw[ho]at hk;simp only[hf]at hk;replace hk:=yb hR hk;split at hk
 . rename_i g u v hx;replace hk:=JH hR hk;rcases hC.get g with ⟨⟨⟨fn,hfn,hb,hn⟩,Fb⟩,_⟩ | cW
   . have hc:=Fb _ _ _ _ hR.sub hk;refine Zpm (w':=w) (f:=g) (args:=(u.toList++c.args.toList.map a.eval++v.toList).toArray) ?_ hc ?_
     . have ha:(u++c.args.map a.eval)++v=(u.toList++c.args.toList.map a.eval++v.toList).toArray:=by
        apply Gd.1;simp
       simp only[execOp,ho,resolve,hf,Jg,hx,Deferred.ofValue,Jj,Jb,invoke,callFunc,run_program,hfn,hb,hn,Ur,if_false,ha]
     . rintro e' yJ ⟨r,h',rfl,hr,hs,fJ,hd⟩;refine⟨r,rfl,Zc (hR.step hs fJ λk h1 h2=>hd k h1 h2) hr⟩
   exact(cW _ _ _ hk).elim
 exact hk.elim
end
end Den
end

section
namespace Den
open Go
variable {ro:Option Nat}{nn:Nat}
section
variable {C:bX}{B:fI}{e:Env}{h:Hp}{a:Act}{w:World}{K:Up->Hp->Prop}{o:Oper}{Q:Exit->Act->World->Prop}
def zn6{P:Program}{st:ByteArray}{w':World}:(Uk 1 st.size (.string st)).run P w'=.ok (tt st).toArray w':=by
 simp only[Uk,Jj,tt,Result.ok.injEq,and_true];apply Gd.1;simp
def Zl2(hR:Rel C B e h a w){x:Operand}{size:Nat}{K:Nat->List Value->Prop}(hk:yG e x size K h) :
 ∃n vs,K n vs/\vs.length=n*size/\(∀w',(Builtin.lenOf (a.eval x)).run C.P w'=.ok n w')/\∀w',w'.heap=w.heap->(Uk size n (a.eval x)).run C.P w'=.ok vs.toArray w':=by
 have dz:∀w',w'.heap=w.heap->Sub h w':=λw' hw k b hb=>by rw[hw];exact hR.sub k b hb
 unfold yG at hk;split at hk
 . rename_i t;split at hk
   . rename_i cs n hb;split at hk
     . rename_i hl;have hl:=Ut hl;obtain⟨_,b,el,h1,h2,_,_⟩:=hR.dy t (by rw[hb];rfl);rw[hb]at h1 h2;simp only[jA,Zsl,uK]at h1 h2;refine⟨n,cs,hk,hl,λw'=>by rw[qa h1];rfl,λw' hw=>?_⟩;rw[qa h1];rw[<-hw]at h2;simp only[Uk,loadCells];rw[zav h2 zO,<-hl];simp
     exact hk.elim
   . rename_i ad n c hb;obtain⟨vs,jE,hk⟩:=hk;rw[qa (hR.cL t _ hb)];cases ad with
     | none=>
       simp only[Zi]at jE;split at jE
       . rename_i hz;simp only[Js]at jE;subst jE;exact⟨n,[],hk,by simp[hz],(λw'=>rfl),λw' _=>by simp[Uk]⟩
       cases jE
     | some ad=>
       simp only[Zi]at jE;exact⟨n,vs,hk,(zbo hR.sub jE).1,(λw'=>rfl),λw' hw=>by simp only[Uk];exact E9 (dz w' hw) jE⟩
   . rename_i st hb;split at hk
     . rename_i dO;obtain rfl:=Ut dO;rw[qa (hR.cL t _ hb)];exact⟨st.size,tt st,hk,(by simp[tt]),(λw'=>rfl),λw' _=>zn6⟩
     exact hk.elim
   exact hk.elim
 . rename_i ad n c;obtain⟨vs,jE,hk⟩:=hk;cases ad with
   | none=>
     simp only[Zi]at jE;split at jE
     . rename_i hz;simp only[Js]at jE;subst jE;exact⟨n,[],hk,by simp[hz],(λw'=>rfl),λw' _=>by simp[Uk,Act.eval]⟩
     cases jE
   | some ad=>
     simp only[Zi]at jE;exact⟨n,vs,hk,(zbo hR.sub jE).1,(λw'=>rfl),λw' hw=>by simp only[Uk,Act.eval];exact E9 (dz w' hw) jE⟩
 . rename_i st;split at hk
   . rename_i dO;obtain rfl:=Ut dO;exact⟨st.size,tt st,hk,(by simp[tt]),(λw'=>rfl),λw' _=>zn6⟩
   exact hk.elim
 exact hk.elim
def zf8{P:Program}{b:Nat}{es:Array MapEntry}{c:Nat}(hb:w.heap[b]?=some (.map es c)):(getObj b).run P w=.ok (.map es c) w:=by
 simp[getObj,Sem.run,hb]
def zqq{P:Program}{t:TypeId}{p:Prop}(hk:Aw P t p):∃k v i,P.underlying t=some (.map k v)/\P.underlying k=some (.int .i64)/\P.info? v=some i/\i.zero=some (.bool false)/\p:=by
 unfold Aw at hk;split at hk
 . rename_i k v h1;split at hk
   . rename_i i h2 h3;split at hk
     . rename_i h4;exact⟨k,v,i,h1,h2,h3,h4,hk⟩
     exact hk.elim
   exact hk.elim
 exact hk.elim
def Zdn(hR:Rel C B e h a w){c:Call}{x:Operand}(ho:o.op=.call c)(hf:c.callee=.builtin .len)(hx:c.args.toList=[x])
 (hk:Qh C .len c.argTypes.toList [x] e h o.dst K):o.wpIn (Yb ro) nn C.P a w (Qd C B o e K) Q:=by
 unfold Qh at hk;simp only at hk;have hargs:c.args=#[x]:=by rw[<-Gd];exact hx
 rcases zkw hR hk with ⟨s,m,b,el,rfl,hm,hk,h1,jQ,⟨es,clock,h2,h3⟩,_⟩ | hk
 . split at hk
   . rename_i t ht;have cP:c.argTypes=#[t]:=by rw[<-Gd];exact ht
     obtain⟨kt,vt,i,hu,_,_,_,hk⟩:=zqq hk;have hlen:es.size=m.length:=by
      have:=congrArg List.length h3;simpa using this
     refine ye (w':=w) ?_ (Zc hR hk);simp only[execOp,ho,resolve,hf,hargs,cP,Jg,Jj,Jb,invoke,builtin,Builtin.len_];simp[qa h1,zn hu,goInt,zf8 h2,hlen]
   exact hk.elim
 replace hk:=yb hR hk;split at hk
 . rename_i s t hv ht;have cP:c.argTypes=#[t]:=by rw[<-Gd];exact ht
   split at hk
   . rename_i hu;refine ye (w':=w) ?_ (Zc hR hk);simp only[execOp,ho,resolve,hf,hargs,cP,Jg,Jj,Jb,invoke,builtin,Builtin.len_];simp[hv,zn hu,goInt]
   exact hk.elim
 . rename_i ad n c' t hv ht;have cP:c.argTypes=#[t]:=by rw[<-Gd];exact ht
   split at hk
   . rename_i hu;refine ye (w':=w) ?_ (Zc hR hk);simp only[execOp,ho,resolve,hf,hargs,cP,Jg,Jj,Jb,invoke,builtin,Builtin.len_];simp[hv,zn hu,goInt]
   exact hk.elim
 exact hk.elim
def zv5(hR:Rel C B e h a w){t:TypeId}(ho:o.op=.makeMap t none)(hk:Zh C o e h K):o.wpIn (Yb ro) nn C.P a w (Qd C B o e K) Q:=by
 unfold Zh at hk;rw[ho]at hk;simp only at hk;unfold zwy at hk;split at hk;exact hk.elim
 . rename_i d hd;split at hk
   . rename_i hl hn _ cW;refine ye (w':=w.alloc (.map #[] 0)) (v:=.map (some w.heap.size)) (by simp only[execOp,ho];rfl) ⟨_,_,hk,?_,λd' de=>?_⟩
     . rw[hd];refine hR.nV (el:=0) (s:=.mp []) hl (by have:=hn;unfold Pc at this;have:=Un this;omega) rfl ⟨#[],0,NH,rfl⟩ λt ht _=>?_
       have:=List.all_eq_true.1 cW t (List.mem_range.2 (hR.iL t ht).1);rw[ht]at this;cases this
     simp only[Up.dst,Js]at de;subst de;simp[Yf,hd]
   exact hk.elim
def ze5:∀{es:List MapEntry} {m:List (Int×Bool)} {n:Int} {i:Nat},es.map (λx=>(x.key,x.val))=m.map (λp=>((.int .i64 p.1:Value),(.bool p.2:Value))) ->
 (Instr.findNow (.int .i64) (.int .i64 n) es i=some none/\ER m n=false/\∀b,Au m n b=m++[(n,b)]) \/
 (∃j v,Instr.findNow (.int .i64) (.int .i64 n) es i=some (some (i+j,.bool v))/\ER m n=v/\j<m.length/\(∃q,es[j]?=some q/\q.key=.int .i64 n)/\∀b,Au m n b=m.set j (n,b))
 | [],[],n,i,_=>.inl ⟨rfl,rfl,λ_=>rfl⟩
 | [],_ :: _,_,_,h=>by cases h
 | _ :: _,[],_,_,h=>by cases h
 | x :: es,p :: m,n,i,h=>by
   simp only[List.map_cons,List.cons.injEq,Prod.mk.injEq]at h;obtain⟨⟨h1,h2⟩,h3⟩:=h;unfold Instr.findNow;have hs:Instr.sameNow (.int .i64) (.int .i64 n) x.key=some (n==p.1):=by rw[h1];simp[Instr.sameNow]
   rw[hs];by_cases hn:n=p.1
   . right;refine⟨0,p.2,?_,?_,zS,⟨x,rfl,by rw[h1,hn]⟩,λb=>?_⟩;simp[hn,h2];unfold ER;rw[decide_eq_true hn];rfl;unfold Au;rw[decide_eq_true hn];rfl
   . have hb:(n==p.1)=false:=by simpa using hn
     rw[hb];simp only;rcases ze5 (n:=n) (i:=i+1) h3 with ⟨g1,g2,g3⟩ | ⟨j,v,g1,g2,g3,g4,g5⟩
     . refine .inl ⟨g1,?_,λb=>?_⟩;unfold ER;rw[decide_eq_false hn];exact g2;unfold Au;rw[decide_eq_false hn];simp only[cond_false,g3,List.cons_append]
     . refine .inr ⟨j+1,v,?_,?_,by simpa using g3,by simpa using g4,λb=>?_⟩;rw[g1];congr 3;omega;unfold ER;rw[decide_eq_false hn];exact g2;unfold Au;rw[decide_eq_false hn];simp only[cond_false,g5,List.set_cons_succ]
def dP{P:Program}{kt:TypeId}{d:TypeDesc}{k:Value}{l:List MapEntry}{a:Option (Nat×Value)}(hd:P.underlying kt=some d)(h:Instr.findNow d k l 0=some a):(Instr.findKey kt k l).run P w=.ok a w:=by
 unfold Instr.findKey;simp only[Jg,zn hd,Jb,h,Jj]
def zf7{P:Program}{kt:TypeId}{b:Bool}{n:Int}(hd:P.underlying kt=some (.int .i64)):(Instr.checkKey b 10000 kt (.int .i64 n)).run P w=.ok () w:=by
 unfold Instr.checkKey;simp only[Jg,zn hd,Jb,Jj]
def Zko{P:Program}{t:TypeId}{i:TypeInfo}{z:Value}(hi:P.info? t=some i)(hz:i.zero=some z):(zeroValue t).run P w=.ok z w:=by
 simp[zeroValue,typeInfo,hi,hz]
def zyv(hR:Rel C B e h a w){t:TypeId}{x ix:Operand}(ho:o.op=.lookup t x ix false)(hk:Zh C o e h K):o.wpIn (Yb ro) nn C.P a w (Qd C B o e K) Q:=by
 unfold Zh at hk;rw[ho]at hk;simp only at hk;replace hk:=yb hR hk;obtain⟨kt,vt,i,hu,lW,hi,hz,hk⟩:=zqq hk;rcases zkw hR hk with ⟨s,m,b,el,rfl,hm,hk,h1,jQ,⟨es,clock,h2,h3⟩,_⟩ | hk
 . split at hk
   . rename_i n hn;refine ye (w':=w) ?_ (Zc hR hk);simp only[execOp,ho,qa h1,hn,Instr.lookup,Jg,zn hu,Jb,zf8 h2,Jj,zf7 lW];rcases ze5 (n:=n) (i:=0) h3 with ⟨g1,g2,_⟩ | ⟨j,v,g1,g2,_⟩
     . simp only[dP lW g1,Jb,Jg,Zko hi hz,Jj,g2];rfl
     . simp only[dP lW g1,Jb,Jg,Jj,g2];rfl
   exact hk.elim
 exact hk.elim
def zro{b:Nat}{es:Array MapEntry}{c:Nat}{o':Obj}(hb:w.heap[b]?=some (.map es c)):(setObj b o').run C.P w=.ok () (lV w b o'):=by
 have hlt:=Xr hb;simp[setObj,Sem.run,hb,lV]
def zph(hR:Rel C B e h a w){t:TypeId}{x k y:Operand}(ho:o.op=.mapUpdate t x k y)(hk:Zh C o e h K):o.wpIn (Yb ro) nn C.P a w (Qd C B o e K) Q:=by
 unfold Zh at hk;rw[ho]at hk;simp only at hk;replace hk:=yb hR (yb hR hk);obtain⟨kt,vt,i,hu,lW,hi,hz,hk⟩:=zqq hk;rcases zkw hR hk with ⟨s,m,b,el,rfl,hm,hk,h1,jQ,⟨es,clock,h2,h3⟩,_⟩ | hk
 . split at hk
   . rename_i n v hn hv hd;have hlt:=Xr h2;have fin:∀es' qZ,(execOp a.eval o).run C.P w=.ok .skip (lV w b (.map es' qZ))->es'.toList.map (λx=>(x.key,x.val))=(Au m n v).map (λp=>((.int .i64 p.1:Value),(.bool p.2:Value))) ->
      o.wpIn (Yb ro) nn C.P a w (Qd C B o e K) Q:=λes' qZ bR NS=>by
      refine zot bR ⟨_,_,hk,?_,λd' de=>?_⟩
      . rw[hd];exact hR.vz (y:=.mp (Au m n v)) (el:=0) hm rfl rfl (λ_=>rfl) (λ_ hh=>by cases hh) (λ_ hh=>by cases hh) jQ ⟨es',qZ,JE hlt,NS⟩ (λq hq=>E8 hq) NN rfl rfl rfl (Jd _)
      simp only[Up.dst,Js]at de;subst de;simp[Yf,ho]
     rcases ze5 (n:=n) (i:=0) h3 with ⟨g1,_,g2⟩ | ⟨j,u,g1,_,g3,⟨q,g4,g5⟩,g6⟩
     . refine fin (es.push { key:=.int .i64 n,val:=.bool v,born:=clock }) (clock+1) ?_ ?_;simp only[execOp,ho,qa h1,hn,hv,Instr.mapUpdate,Jg,zn hu,Jb,zf8 h2,Jj,zf7 lW,dP lW g1,zro h2];rw[g2,Array.toList_push,List.map_append,List.map_append,h3];rfl
     . rw[Uo]at g1;have hq:es[j]?=some q:=by rw[<-Array.getElem?_toList];exact g4
       refine fin (es.modify j λx=>{ x with key:=.int .i64 n,val:=.bool v }) clock ?_ ?_
       . have ic:∀W:World,(Instr.keyThatStays (.int .i64 n) (.int .i64 n)).run C.P W=.ok (.int .i64 n) W:=λW=>by
          unfold Instr.keyThatStays;rw[if_pos (by simp[Instr.sameBits])];rfl
         simp only[execOp,ho,qa h1,hn,hv,Instr.mapUpdate,Jg,zn hu,Jb,zf8 h2,Jj,zf7 lW,dP lW g1,hq,Gp,Option.getD_some,g5,ic,zro h2]
       . rw[g6];apply List.ext_getElem?;intro z;have h3z:=congrArg (λl=>l[z]?) h3;simp only[List.getElem?_map,Array.getElem?_toList,Array.getElem?_modify,List.getElem?_set]at h3z |-
         by_cases hjz:j=z
         . subst hjz;simp[hq,g3]
         . simp only[hjz,if_false];exact h3z
   exact hk.elim
 exact hk.elim
def Zdm(hR:Rel C B e h a w){c:Call}{x:Operand}(ho:o.op=.call c)(hf:c.callee=.builtin .cap)(hx:c.args.toList=[x])
 (hk:Qh C .cap c.argTypes.toList [x] e h o.dst K):o.wpIn (Yb ro) nn C.P a w (Qd C B o e K) Q:=by
 unfold Qh at hk;simp only at hk;replace hk:=yb hR hk;have hargs:c.args=#[x]:=by rw[<-Gd];exact hx
 split at hk
 . rename_i ad n c' t hv ht;have cP:c.argTypes=#[t]:=by rw[<-Gd];exact ht
   split at hk
   . rename_i hu;refine ye (w':=w) ?_ (Zc hR hk);simp only[execOp,ho,resolve,hf,hargs,cP,Jg,Jj,Jb,invoke,builtin,Builtin.cap_];simp[hv,zn hu,goInt]
   exact hk.elim
 exact hk.elim
def Zdo(hR:Rel C B e h a w){c:Call}{x y:Operand}(ho:o.op=.call c)(hf:c.callee=.builtin .max)(hx:c.args.toList=[x,y])
 (hk:Qh C .max c.argTypes.toList [x,y] e h o.dst K):o.wpIn (Yb ro) nn C.P a w (Qd C B o e K) Q:=by
 unfold Qh at hk;simp only at hk;replace hk:=yb hR (yb hR hk);have hargs:c.args=#[x,y]:=by rw[<-Gd];exact hx
 generalize hu:a.eval x=u at hk;generalize hv:a.eval y=v at hk;unfold Zyt at hk;split at hk
 . rename_i k p k' q heq;simp only[List.cons.injEq,and_true]at heq;obtain⟨rfl,rfl⟩:=heq;obtain⟨rfl,_⟩:=qn.1 hk;refine ye (w':=w) ?_ (Zc hR (qn.1 hk).2);simp[execOp,ho,resolve,hf,hargs,invoke,builtin,Builtin.max_,hu,hv,Builtin.max2,I9]
 exact hk.elim
def Zdp(hR:Rel C B e h a w){c:Call}{x y:Operand}(ho:o.op=.call c)(hf:c.callee=.builtin .min)(hx:c.args.toList=[x,y])
 (hk:Qh C .min c.argTypes.toList [x,y] e h o.dst K):o.wpIn (Yb ro) nn C.P a w (Qd C B o e K) Q:=by
 unfold Qh at hk;simp only at hk;replace hk:=yb hR (yb hR hk);have hargs:c.args=#[x,y]:=by rw[<-Gd];exact hx
 generalize hu:a.eval x=u at hk;generalize hv:a.eval y=v at hk;unfold Zyu at hk;split at hk
 . rename_i k p k' q heq;simp only[List.cons.injEq,and_true]at heq;obtain⟨rfl,rfl⟩:=heq;obtain⟨rfl,_⟩:=qn.1 hk;refine ye (w':=w) ?_ (Zc hR (qn.1 hk).2);simp[execOp,ho,resolve,hf,hargs,invoke,builtin,Builtin.min_,hu,hv,Builtin.min2,Zss]
 exact hk.elim
def Z37(hR:Rel C B e h a w){t t2 ty el JD:TypeId}{i:TypeInfo}{z:Value}{s:Sl}{y:Value}{n:Nat}{new:List Value}
 (hu:C.P.underlying t=some (.slice el)) (dr:C.P.underlying t2=some (.slice JD)) (hi:C.P.info? el=some i) (hz:∀w,(zeroValue el).run C.P w=.ok z w)
 (dO:z.cells.size=i.size) (hy:∀w',(Builtin.lenOf y).run C.P w'=.ok n w')
 (gr:∀w',w'.heap=w.heap->(Uk i.size n y).run C.P w'=.ok new.toArray w') {K:Sl->Hp->Prop}
 (hk:Av el i.size i.bytes z.cells.toList s n new K h) :
 ∃r h' w',K r h'/\(T8 #[t,t2] ty #[.slice s.a s.len s.cap,y]).run C.P w=.ok (.slice r.a r.len r.cap) w'/\Sub h' w'/\Fr h w w' /\
  (∀k,h' k≠none->h k=none->w.heap.size<=k):=by
 obtain⟨g1,g2,g3,g4⟩:=hk;by_cases dQ:s.len+n<=s.cap
 . have ic:=g3 dQ;cases nW:s.a with
   | none=>
     rw[nW]at ic;refine⟨_,h,w,ic,?_,hR.sub,Fr.refl h w,λk h1 h2=>absurd h2 h1⟩;simp[T8,zn hu,zn dr,yf hi,hy,dQ,gr w rfl]
   | some sa=>
     rw[nW]at ic;obtain⟨h',w',hK,bR,iQ,hf,hd⟩:=JI (C:=C) hR.sub ic;refine⟨_,h',w',hK,?_,iQ,hf,hd⟩;simp[T8,zn hu,zn dr,yf hi,hy,dQ,gr w rfl,bR]
 . obtain⟨iK,hold,cr⟩:=g4 zO;have cY:∀q,(Tp (s.len+n) s.cap el).cut q=s.len+n+q % (2 ^ 63-(s.len+n)):=λq=>rfl
   generalize nX:(Tp (s.len+n) s.cap el).cut (w.tape w.drawn (.appendCap (s.len+n) s.cap el))=nc;have AB:s.len+n<=nc:=by rw[<-nX,cY];omega
   have fK:=hR.drew;have yK:=fK.alloc (iK++new++Yi (nc-(s.len+n)) z.cells.toList) el;have fJ:h w.heap.size=none:=hR.sub.fresh (Jd _);refine⟨_,_,_,cr w.heap.size nc AB fJ,?_,yK.sub,?_,?_⟩
   . have ie:=zjn (show s.cap<s.len+n by omega);have hb:¬(L0 (s.len+n) s.cap*i.bytes>2 ^ 48):=by
      have:=Jm i.bytes ie;have h3:2*(s.len+n)*i.bytes=2*((s.len+n)*i.bytes):=by rw[J6]
      omega
     have vC:¬(((s.len+n:Nat):Int)>i64.max):=by
      intro h1;simp[IntKind.max,T7,Tt]at h1;omega
     have nY:∀w',w'.heap=w.heap->(Uk i.size s.len (.slice s.a s.len s.cap)).run C.P w'=.ok iK.toArray w':=by
      intro w' hw;have dz:Sub h w':=λk b hb=>by rw[hw];exact hR.sub k b hb
      cases nW:s.a with
      | none=>
        rw[nW]at hold;simp only[Zi]at hold;split at hold;simp only[Js]at hold;subst hold;simp[Uk];cases hold
      | some sa=>
        rw[nW]at hold;simp only[Uk];exact E9 dz hold
     have CT:Builtin.zeroCells z.cells (nc-(s.len+n))=(Yi (nc-(s.len+n)) z.cells.toList).toArray:=JG;have ig:(Tp (s.len+n) s.cap el).forced=false:=rfl;have qW:(typeInfo el).run C.P w=.ok i w:=by simp[typeInfo,hi]
     have Fc:(typeInfo el).run C.P { w with drawn:=w.drawn+1 }=.ok i { w with drawn:=w.drawn+1 }:=by simp[typeInfo,hi]
     simp only[T8,Jg,zn hu,zn dr,yf hi,hy,Jb,Lw,Tj,P5,Jj,
      Ur,if_false,dQ,qW,false_or]
     rw[if_neg (by rintro⟨h1,_⟩;exact vC h1)];simp only[Jg,qW,Jb];rw[if_neg hb];simp only[Jg,run_choose,ig,Ur,if_false,Jb,nX,Fc,run_askRoom,nY { w with drawn:=w.drawn+1 } rfl,gr { w with drawn:=w.drawn+1 } rfl,hz,CT,AA,Jj,Bool.not_false,if_true];simp
   . have f1:=NO h w;have f2:=Fr.alloc h { w with drawn:=w.drawn+1 } (.cells (iK++new++Yi (nc-(s.len+n)) z.cells.toList).toArray el (0,0));exact⟨Jo f1.1 f2.1,λk cy aG=>(f2.2.1 k cy aG).trans (f1.2.1 k cy aG),rfl,rfl,rfl,Nat.le_succ _⟩
   . intro k h1 h2;by_cases dH:k=w.heap.size;omega;rw[Hp.cl dH]at h1;exact absurd h2 h1
def zyi(hR:Rel C B e h a w){t t2 ty el:TypeId}{i:TypeInfo}{z:Value}{s:Sl}{y:Value}{n:Nat}{new:List Value}
 (hu:C.P.underlying t=some (.slice el)) (dr:C.P.underlying t2=some .string) (hi:C.P.info? el=some i) (hz:∀w,(zeroValue el).run C.P w=.ok z w)
 (dO:z.cells.size=i.size) (hy:∀w',(Builtin.lenOf y).run C.P w'=.ok n w')
 (gr:∀w',w'.heap=w.heap->(Uk i.size n y).run C.P w'=.ok new.toArray w') {K:Sl->Hp->Prop}
 (hk:Av el i.size i.bytes z.cells.toList s n new K h) :
 ∃r h' w',K r h'/\(T8 #[t,t2] ty #[.slice s.a s.len s.cap,y]).run C.P w=.ok (.slice r.a r.len r.cap) w'/\Sub h' w'/\Fr h w w' /\
  (∀k,h' k≠none->h k=none->w.heap.size<=k):=by
 obtain⟨g1,g2,g3,g4⟩:=hk;by_cases dQ:s.len+n<=s.cap
 . have ic:=g3 dQ;cases nW:s.a with
   | none=>
     rw[nW]at ic;refine⟨_,h,w,ic,?_,hR.sub,Fr.refl h w,λk h1 h2=>absurd h2 h1⟩;simp[T8,zn hu,zn dr,yf hi,hy,dQ,gr w rfl]
   | some sa=>
     rw[nW]at ic;obtain⟨h',w',hK,bR,iQ,hf,hd⟩:=JI (C:=C) hR.sub ic;refine⟨_,h',w',hK,?_,iQ,hf,hd⟩;simp[T8,zn hu,zn dr,yf hi,hy,dQ,gr w rfl,bR]
 . obtain⟨iK,hold,cr⟩:=g4 zO;have cY:∀q,(Tp (s.len+n) s.cap el).cut q=s.len+n+q % (2 ^ 63-(s.len+n)):=λq=>rfl
   generalize nX:(Tp (s.len+n) s.cap el).cut (w.tape w.drawn (.appendCap (s.len+n) s.cap el))=nc;have AB:s.len+n<=nc:=by rw[<-nX,cY];omega
   have fK:=hR.drew;have yK:=fK.alloc (iK++new++Yi (nc-(s.len+n)) z.cells.toList) el;have fJ:h w.heap.size=none:=hR.sub.fresh (Jd _);refine⟨_,_,_,cr w.heap.size nc AB fJ,?_,yK.sub,?_,?_⟩
   . have ie:=zjn (show s.cap<s.len+n by omega);have hb:¬(L0 (s.len+n) s.cap*i.bytes>2 ^ 48):=by
      have:=Jm i.bytes ie;have h3:2*(s.len+n)*i.bytes=2*((s.len+n)*i.bytes):=by rw[J6]
      omega
     have vC:¬(((s.len+n:Nat):Int)>i64.max):=by
      intro h1;simp[IntKind.max,T7,Tt]at h1;omega
     have nY:∀w',w'.heap=w.heap->(Uk i.size s.len (.slice s.a s.len s.cap)).run C.P w'=.ok iK.toArray w':=by
      intro w' hw;have dz:Sub h w':=λk b hb=>by rw[hw];exact hR.sub k b hb
      cases nW:s.a with
      | none=>
        rw[nW]at hold;simp only[Zi]at hold;split at hold;simp only[Js]at hold;subst hold;simp[Uk];cases hold
      | some sa=>
        rw[nW]at hold;simp only[Uk];exact E9 dz hold
     have CT:Builtin.zeroCells z.cells (nc-(s.len+n))=(Yi (nc-(s.len+n)) z.cells.toList).toArray:=JG;have ig:(Tp (s.len+n) s.cap el).forced=false:=rfl;have qW:(typeInfo el).run C.P w=.ok i w:=by simp[typeInfo,hi]
     have Fc:(typeInfo el).run C.P { w with drawn:=w.drawn+1 }=.ok i { w with drawn:=w.drawn+1 }:=by simp[typeInfo,hi]
     simp only[T8,Jg,zn hu,zn dr,yf hi,hy,Jb,Lw,Tj,P5,Jj,
      Ur,if_false,dQ,qW,false_or]
     rw[if_neg (by rintro⟨h1,_⟩;exact vC h1)];simp only[Jg,qW,Jb];rw[if_neg hb];simp only[Jg,run_choose,ig,Ur,if_false,Jb,nX,Fc,run_askRoom,nY { w with drawn:=w.drawn+1 } rfl,gr { w with drawn:=w.drawn+1 } rfl,hz,CT,AA,Jj,Bool.not_false,if_true];simp
   . have f1:=NO h w;have f2:=Fr.alloc h { w with drawn:=w.drawn+1 } (.cells (iK++new++Yi (nc-(s.len+n)) z.cells.toList).toArray el (0,0));exact⟨Jo f1.1 f2.1,λk cy aG=>(f2.2.1 k cy aG).trans (f1.2.1 k cy aG),rfl,rfl,rfl,Nat.le_succ _⟩
   . intro k h1 h2;by_cases dH:k=w.heap.size;omega;rw[Hp.cl dH]at h1;exact absurd h2 h1
def zyj(hR:Rel C B e h a w){t t2 ty el:TypeId}{i:TypeInfo}{z:Value}{s:Sl}{k ik:IntKind}{m:Int}
 (hu:C.P.underlying t=some (.slice el)) (dr:C.P.underlying t2=some (.int ik)) (hi:C.P.info? el=some i) (hz:∀w,(zeroValue el).run C.P w=.ok z w)
 (dO:z.cells.size=i.size) (cd:i.size≠0) (hm:0<=m) {K:Sl->Hp->Prop}
 (hk:Av el i.size i.bytes z.cells.toList s m.toNat (Yi m.toNat z.cells.toList) K h) :
 ∃r h' w',K r h'/\(T8 #[t,t2] ty #[.slice s.a s.len s.cap,.int k m]).run C.P w=.ok (.slice r.a r.len r.cap) w'/\Sub h' w'/\Fr h w w' /\
  (∀k,h' k≠none->h k=none->w.heap.size<=k):=by
 obtain⟨n,rfl⟩:=Int.eq_ofNat_of_zero_le hm;rw[Int.toNat_natCast]at hk;obtain⟨g1,g2,g3,g4⟩:=hk;have hwr:i64.wrap (n:Int)=n:=by
  simp only[IntKind.wrap,Tt,T7];simp;omega
 have hnb:¬((n:Int)*(i.bytes:Int)>2 ^ 48):=by
  have:n*i.bytes<=(s.len+n)*i.bytes:=Jm _ zO;have h2:((n*i.bytes:Nat):Int)<=140737488355328:=zO;rw[Int.natCast_mul]at h2;omega
 have lX:¬((n:Int)<0):=zO;have qW:∀w',(typeInfo el).run C.P w'=.ok i w':=λw'=>by simp[typeInfo,hi]
 have CT:∀n,Builtin.zeroCells z.cells n=(Yi n z.cells.toList).toArray:=λn=>JG
 have Fe:∀w',((if n*i.size=0 then pure #[]else do pure (Builtin.zeroCells (<-zeroValue el).cells n)):Sem (Array Value)).run C.P w'=.ok (Yi n z.cells.toList).toArray w':=λw'=>by
  split
  . rename_i h0;have:n=0:=by
     rcases Nat.mul_eq_zero.1 h0 with h1 | h1
     exact h1;exact absurd h1 cd
    subst this;simp[Yi]
  simp[hz,CT]
 have hint:∀w',(asInt (.int k (n:Int))).run C.P w'=.ok (n:Int) w':=λw'=>by simp[asInt,asIntOf]
 have vC:¬(((s.len+n:Nat):Int)>i64.max):=by
  intro h1;simp[IntKind.max,T7,Tt]at h1;omega
 by_cases dQ:s.len+n<=s.cap
 . have ic:=g3 dQ;cases nW:s.a with
   | none=>
     rw[nW]at ic;refine⟨_,h,w,ic,?_,hR.sub,Fr.refl h w,λk h1 h2=>absurd h2 h1⟩;simp only[T8,Jg,zn hu,zn dr,yf hi,Jb,Lw,Tj,P5,Jj,hint,hwr,if_true,qW,if_neg lX,if_neg hnb,Int.toNat_natCast,Bool.not_true,Ur,if_false,dQ,Fe]
   | some sa=>
     rw[nW]at ic;obtain⟨h',w',hK,bR,iQ,hf,hd⟩:=JI (C:=C) hR.sub ic;refine⟨_,h',w',hK,?_,iQ,hf,hd⟩;simp only[T8,Jg,zn hu,zn dr,yf hi,Jb,Lw,Tj,P5,Jj,hint,hwr,if_true,qW,if_neg lX,if_neg hnb,Int.toNat_natCast,Bool.not_true,Ur,if_false,dQ,Fe,bR]
 . obtain⟨iK,hold,cr⟩:=g4 zO;have cY:∀q,(Tp (s.len+n) s.cap el).cut q=s.len+n+q % (2 ^ 63-(s.len+n)):=λq=>rfl
   generalize nX:(Tp (s.len+n) s.cap el).cut (w.tape w.drawn (.appendCap (s.len+n) s.cap el))=nc;have AB:s.len+n<=nc:=by rw[<-nX,cY];omega
   have fK:=hR.drew;have yK:=fK.alloc (iK++Yi n z.cells.toList++Yi (nc-(s.len+n)) z.cells.toList) el;have fJ:h w.heap.size=none:=hR.sub.fresh (Jd _);refine⟨_,_,_,cr w.heap.size nc AB fJ,?_,yK.sub,?_,?_⟩
   . have ie:=zjn (show s.cap<s.len+n by omega);have hb:¬(L0 (s.len+n) s.cap*i.bytes>2 ^ 48):=by
      have:=Jm i.bytes ie;have h3:2*(s.len+n)*i.bytes=2*((s.len+n)*i.bytes):=by rw[J6]
      omega
     have nY:∀w',w'.heap=w.heap->(Uk i.size s.len (.slice s.a s.len s.cap)).run C.P w'=.ok iK.toArray w':=by
      intro w' hw;have dz:Sub h w':=λk b hb=>by rw[hw];exact hR.sub k b hb
      cases nW:s.a with
      | none=>
        rw[nW]at hold;simp only[Zi]at hold;split at hold;simp only[Js]at hold;subst hold;simp[Uk];cases hold
      | some sa=>
        rw[nW]at hold;simp only[Uk];exact E9 dz hold
     have ig:(Tp (s.len+n) s.cap el).forced=false:=rfl;simp only[T8,Jg,zn hu,zn dr,yf hi,Jb,Lw,Tj,P5,Jj,hint,hwr,if_true,qW,if_neg lX,if_neg hnb,Int.toNat_natCast,Bool.not_true,Ur,if_false,dQ];rw[if_neg (by rintro⟨h1,_⟩;exact vC h1)];simp only[Jg,qW,Jb];rw[if_neg hb];simp only[Jg,run_choose,ig,Ur,if_false,Jb,nX,qW,run_askRoom,nY { w with drawn:=w.drawn+1 } rfl,Fe,hz,CT,AA,Jj];simp
   . have f1:=NO h w;have f2:=Fr.alloc h { w with drawn:=w.drawn+1 } (.cells (iK++Yi n z.cells.toList++Yi (nc-(s.len+n)) z.cells.toList).toArray el (0,0));exact⟨Jo f1.1 f2.1,λk cy aG=>(f2.2.1 k cy aG).trans (f1.2.1 k cy aG),rfl,rfl,rfl,Nat.le_succ _⟩
   . intro k h1 h2;by_cases dH:k=w.heap.size;omega;rw[Hp.cl dH]at h1;exact absurd h2 h1
end
end Den
end

section
namespace Den
open Go
variable {ro:Option Nat}{nn:Nat}
section
variable {C:bX}{B:fI}{e:Env}{h:Hp}{a:Act}{w:World}{K:Up->Hp->Prop}{o:Oper}{Q:Exit->Act->World->Prop}
def Zbt{P:Program}{t:TypeId}{p:Prop}(hk:Nt P t p):((∃e,P.underlying t=some (.slice e))\/P.underlying t=some .string)/\p:=by
 unfold Nt at hk;split at hk;rename_i e he;exact⟨.inl ⟨e,he⟩,hk⟩;rename_i he;exact⟨.inr he,hk⟩;exact hk.elim
def zyu(hR:Rel C B e h a w){c:Call}{x y:Operand}(ho:o.op=.call c)(hf:c.callee=.builtin .append)(hx:c.args.toList=[x,y])
 (hk:Qh C .append c.argTypes.toList [x,y] e h o.dst K):o.wpIn (Yb ro) nn C.P a w (Qd C B o e K) Q:=by
 unfold Qh at hk;simp only at hk;have hargs:c.args=#[x,y]:=by rw[<-Gd];exact hx
 split at hk
 . rename_i t t2 ht;have cP:c.argTypes=#[t,t2]:=by rw[<-Gd];exact ht
   unfold Zp7 at hk;split at hk
   . rename_i ik dr;obtain⟨el,i,hu,hi,aG⟩:=CQ hk;obtain⟨i',z,aA,jd,cw,hz⟩:=JF aG;obtain rfl:i=i':=by rw[hi]at aA;exact Gg aA
     split at cw
     . rename_i h1 h2;have h1:=Ut h1;rw[Yc hi]at h1;have jQ:z.cells.size=i.size:=by simpa using h1
       have mC:i.size≠0:=λhh=>by rw[h1,hh]at h2;exact absurd h2 zD
       replace cw:=yb hR (yb hR cw);split at cw
       . rename_i ad n c' k m hv hu3;rw[h1,zdy hi]at cw;obtain⟨r,h',w',hK,bR,hs,fJ,hd⟩:=zyj (ty:=o.type) hR hu dr hi hz jQ mC cw.1 (Z36 (λ_ ht=>zy1 ht) cw.2) (k:=k);refine ye (w':=w') ?_ (Zc (hR.step hs fJ hd) hK);simp only[execOp,ho,resolve,hf,hargs,cP,Jg,Jj,Jb,invoke,builtin];have:(#[x,y].map a.eval)=#[.slice ad n c',.int k m]:=by simp[hv,hu3]
         rw[this,bR];rfl
       exact cw.elim
     exact cw.elim
   obtain⟨dr,cy⟩:=Zbt hk;obtain⟨el,i,hu,hi,aG⟩:=CQ cy;obtain⟨i',z,aA,jd,cw,hz⟩:=JF aG;obtain rfl:i=i':=by rw[hi]at aA;exact Gg aA
   split at cw
   . rename_i h1 h2;have h1:=Ut h1;rw[Yc hi]at h1;have jQ:z.cells.size=i.size:=by simpa using h1
     replace cw:=yb hR cw;split at cw
     . rename_i ad n c' hv;rw[h1,zdy hi]at cw;obtain⟨m,new,jP,hl,hy,gr⟩:=Zl2 hR cw;obtain⟨r,h',w',hK,bR,hs,fJ,hd⟩:=dr.elim (λ⟨JD,dr⟩=>Z37 (ty:=o.type) hR hu dr hi hz jQ hy gr (Z36 (λ_ ht=>zy1 ht) jP)) (λdr=>zyi (ty:=o.type) hR hu dr hi hz jQ hy gr (Z36 (λ_ ht=>zy1 ht) jP));refine ye (w':=w') ?_ (Zc (hR.step hs fJ hd) hK);simp only[execOp,ho,resolve,hf,hargs,cP,Jg,Jj,Jb,invoke,builtin];have:(#[x,y].map a.eval)=#[.slice ad n c',a.eval y]:=by simp[hv]
       rw[this,bR];rfl
     exact cw.elim
   exact cw.elim
 exact hk.elim
def Zan(hR:Rel C B e h a w){c:Call}{x y:Operand}(ho:o.op=.call c)(hf:c.callee=.builtin .copy)(hx:c.args.toList=[x,y])
 (hk:Qh C .copy c.argTypes.toList [x,y] e h o.dst K):o.wpIn (Yb ro) nn C.P a w (Qd C B o e K) Q:=by
 unfold Qh at hk;simp only at hk;have hargs:c.args=#[x,y]:=by rw[<-Gd];exact hx
 split at hk
 . rename_i t t2 ht;have cP:c.argTypes=#[t,t2]:=by rw[<-Gd];exact ht
   obtain⟨el,i,hu,hi,aG⟩:=CQ hk;replace aG:=yb hR (yb hR aG);split at aG
   . rename_i a1 l1 c1 a2 l2 c2 hv dr;obtain⟨l,hl,ic⟩:=aG;rw[Yc hi]at hl;simp only at hl ic;have CU:(Uk i.size (Nat.min l2 l1) (.slice a2 l2 c2)).run C.P w=.ok l.toArray w:=by
      cases a2 with
      | none=>
        simp only[Zi]at hl;split at hl;simp only[Js]at hl;subst hl;simp[Uk];cases hl
      | some sa=>
        simp only[Uk];exact E9 hR.sub hl
     have vD:(#[x,y].map a.eval)=#[.slice a1 l1 c1,.slice a2 l2 c2]:=by simp[hv,dr]
     cases a1 with
     | none=>
       refine ye (w':=w) ?_ (Zc hR ic);simp only[execOp,ho,resolve,hf,hargs,cP,Jg,Jj,Jb,invoke,builtin,vD];simp[Builtin.copy_,zn hu,yf hi,Builtin.lenOf,CU,goInt]
     | some sa=>
       obtain⟨h',w',hK,bR,iQ,dk,hd⟩:=JI (C:=C) (ad:=sa.add 0) (vs:=l) (K:=λh'=>qm C o.dst (.int .i64 ((Nat.min l2 l1:Nat):Int)) h' K) hR.sub ic;refine ye (w':=w') ?_ (Zc (hR.step iQ dk hd) hK);have e0:sa.add 0=sa:=by cases sa;rfl
       rw[e0]at bR;simp only[execOp,ho,resolve,hf,hargs,cP,Jg,Jj,Jb,invoke,builtin,vD];simp[Builtin.copy_,zn hu,yf hi,Builtin.lenOf,CU,goInt,bR]
   exact aG.elim
 exact hk.elim
def Z3k(hR:Rel C B e h a w){c:Call}{x:Operand}(ho:o.op=.call c)(hf:c.callee=.builtin .clear)(hx:c.args.toList=[x])
 (hk:Qh C .clear c.argTypes.toList [x] e h o.dst K):o.wpIn (Yb ro) nn C.P a w (Qd C B o e K) Q:=by
 unfold Qh at hk;simp only at hk;have hargs:c.args=#[x]:=by rw[<-Gd];exact hx
 split at hk
 . rename_i t ht;have cP:c.argTypes=#[t]:=by rw[<-Gd];exact ht
   obtain⟨el,i,hu,hi,aG⟩:=CQ hk;obtain⟨i2,z,_,_,cw,hz⟩:=JF aG;replace cw:=yb hR cw;split at cw
   . rename_i ad l cp hv;obtain⟨g0,g1⟩:=cw;have vD:(#[x].map a.eval)=#[.slice ad l cp]:=by simp[hv]
     by_cases hl:l=0
     . subst hl;refine ye (w':=w) ?_ (Zc hR (g0 rfl));simp only[execOp,ho,resolve,hf,hargs,cP,Jg,Jj,Jb,invoke,builtin,vD];cases ad<;>simp[Builtin.clear_,zn hu]
     . have g2:=g1 hl;obtain⟨m,rfl⟩:∃m,l=m+1:=⟨l-1,zO⟩;cases ad with
       | none=>
         refine ye (w':=w) ?_ (Zc hR g2);simp only[execOp,ho,resolve,hf,hargs,cP,Jg,Jj,Jb,invoke,builtin,vD];simp[Builtin.clear_,zn hu]
       | some sa=>
         obtain⟨h',w',hK,bR,iQ,dk,hd⟩:=JI (C:=C) (ad:=sa.add 0) (K:=λh'=>qm C o.dst (.tuple #[]) h' K) hR.sub g2;refine ye (w':=w') ?_ (Zc (hR.step iQ dk hd) hK);have e0:sa.add 0=sa:=by cases sa;rfl
         rw[e0]at bR;have CT:Builtin.zeroCells z.cells (m+1)=(Yi (m+1) z.cells.toList).toArray:=JG;simp only[execOp,ho,resolve,hf,hargs,cP,Jg,Jj,Jb,invoke,builtin,vD];simp[Builtin.clear_,zn hu,hz,CT,bR]
   exact cw.elim
 exact hk.elim
def zbp(hC:tF C C.fH)(hR:Rel C B e h a w)(hk:Zh C o e h K):o.wpIn (Yb ro) nn C.P a w (Qd C B o e K) Q:=by
 cases ho:o.op with
 | move x=>exact zte hR (.inl ho) hk
 | assign x=>exact zte hR (.inr ho) hk
 | pick c x y=>exact Zap hR ho hk
 | alloc t=>exact Z3g hR ho hk
 | box t x=>exact Zdl hR ho hk
 | build t p=>exact Z3i hR ho hk
 | buildSlice t n p=>exact zof hR ho hk
 | load t x=>exact Zao hR ho hk
 | store t x y=>exact Z3o hR ho hk
 | nilCheck x=>exact zsn hR ho hk
 | binOp op t x y t'=>exact Z3h hR ho hk
 | unOp op t x=>exact Zaq hR ho hk
 | convert s t x=>exact zv3 hR ho hk
 | makeFunc fn u v=>
   cases fn with
   | func g=>exact zsl hR ho hk
   | _=>unfold Zh at hk;rw[ho]at hk;exact hk.elim
 | makeSlice t l c=>exact zpg hR ho hk
 | slice t x lo hi mx=>
   cases mx with
   | none=>exact Z3n hR ho hk
   | some m=>
     cases hi with
     | none=>unfold Zh at hk;rw[ho]at hk;exact hk.elim
     | some u=>exact zyw hR ho hk
 | fieldAddr t x f=>exact zpe hR ho hk
 | field t x f=>exact Z3l hR ho hk
 | indexAddr t x ix=>exact zpf hR ho hk
 | index t x ix=>exact Z3m hR ho hk
 | extract x i=>exact zv4 hR ho hk
 | makeMap t r=>
   cases r with
   | none=>exact zv5 hR ho hk
   | some m=>unfold Zh at hk;rw[ho]at hk;exact hk.elim
 | lookup t x ix ok=>
   cases ok with
   | false=>exact zyv hR ho hk
   | true=>unfold Zh at hk;rw[ho]at hk;exact hk.elim
 | mapUpdate t x k y=>exact zph hR ho hk
 | call c=>
   cases hc:c.callee with
   | value f=>exact Z3j hC hR ho hc hk
   | invoke r m=>unfold Zh at hk;rw[ho]at hk;simp only[hc]at hk
   | builtin b=>
     unfold Zh at hk;rw[ho]at hk;simp only[hc]at hk;have gI:=hk;unfold Qh at hk;split at hk;rename_i x hx;rw[hx]at gI;exact Zdn hR ho hc hx gI;rename_i x y hx;rw[hx]at gI;exact Zdo hR ho hc hx gI;rename_i x y hx;rw[hx]at gI;exact Zdp hR ho hc hx gI;rename_i x y hx;rw[hx]at gI;exact zyu hR ho hc hx gI;rename_i x y hx;rw[hx]at gI;exact Zan hR ho hc hx gI;rename_i x hx;rw[hx]at gI;exact Z3k hR ho hc hx gI;rename_i x hx;rw[hx]at gI;exact Zdm hR ho hc hx gI;exact hk.elim
 | _=>unfold Zh at hk;rw[ho]at hk;exact hk.elim
end
def Y0n(s:Slot):Prop:=(∃cs,s=.box cs)\/(∃m,s=.mp m)\/s=.mr
def Vb(s s':Slot):Prop:=(Y0n s->s'=s)/\∀v,s=.val v->s'=.val v
def Vb.refl(s:Slot):Vb s s:=⟨λ_=>rfl,λ_ h=>h⟩
def Vb.trans{a b c:Slot}(h1:Vb a b)(h2:Vb b c):Vb a c:=by
 refine⟨λhh=>?_,λv hv=>h2.2 v (h1.2 v hv)⟩;have:=h1.1 hh;rw[this]at h2;exact h2.1 hh
section
variable {C:bX}{B:fI}
def zkp{e:Env}{u:Up}{t:Nat}(ht:∀d,u.dst=some d->t≠d):Vb (e t) (e.cJ C.rt u t):=by
 cases u with
 | none=>exact Vb.refl _
 | set d s=>simp only[Env.cJ,Env.aN (ht d rfl)];exact Vb.refl _
 | alloc d s=>
   simp only[Env.cJ];refine⟨λhb=>?_,λv hv=>?_⟩
   . rcases hb with ⟨cs,h2⟩ | ⟨m,h2⟩ | h2
     exact Env.cE (ht d rfl) (by intro o ho;rw[h2]at ho;cases ho);exact Env.cE (ht d rfl) (by intro o ho;rw[h2]at ho;cases ho);exact Env.cE (ht d rfl) (by intro o ho;rw[h2]at ho;cases ho)
   rw[Env.cE (ht d rfl) (by intro o ho;rw[hv]at ho;cases ho)];exact hv
def NT(C:bX)(B:fI)(ms:List Nat)(e:Env)(K:Env->Hp->Prop):Exit->Act->World->Prop:=λx a' w'=>
 x=.normal/\∃e' h',K e' h'/\Rel C B e' h' a' w'/\∀t,t∉ms->Vb (e t) (e' t)
def zoc{ops:Array Oper}{o:Oper}{tmps:Array Value}(hg:o.guard=none):Region.wanted o (yielded ops tmps)=true:=by
 simp[Region.wanted,hg]
def zob{ops:Array Oper}{o:Oper}{tmps:Array Value}{j d:Nat}{want t:Bool}(hg:o.guard=some (j,want))(hd:(ops[j]?).bind (·.dst)=some d)
 (ht:tmps[d]?=some (.bool t)):Region.wanted o (yielded ops tmps)=(t==want):=by
 simp only[Region.wanted,hg,yielded,hd,Option.bind_some,ht];cases t<;>cases want<;>rfl
def zlv{ops:Array Oper}{o:Oper}{tmps:Array Value}{j d:Nat}{want:Bool}{vs:Array Value}(hg:o.guard=some (j,want))(hd:(ops[j]?).bind (·.dst)=some d)
 (ht:tmps[d]?=some (.tuple vs)):Region.wanted o (yielded ops tmps)=false:=by
 simp only[Region.wanted,hg,yielded,hd,Option.bind_some,ht];rfl
def zpj(hC:tF C C.fH){ops:Array Oper}{K:Env->Hp->Prop}:∀{l:List Nat} {e:Env} {h:Hp} {a:Act} {w:World} {ms:List Nat} {Q:Exit->Act->World->Prop},
 (∀(i:Nat) (o:Oper),ops[i]?=some o->∀d∈Yf C o,d∈ms)->(∀x a w,NT C B ms e K x a w->Q x a w) ->
 Rel C B e h a w->Vp C ops K l e h->wpOpsIn (Yb ro) nn C.P ops Q l a w
 | [],e,h,a,w,ms,Q,_,hQ,hR,hk=>hQ _ _ _ ⟨rfl,e,h,hk,hR,λ_ _=>Vb.refl _⟩
 | i :: r,e,h,a,w,ms,Q,jR,hQ,hR,hk=>by
   rw[wpOpsIn_cons];unfold Vp at hk;unfold wpOpIn;cases hi:ops[i]? with
   | none=>rw[hi]at hk;exact hk.elim
   | some o=>
     rw[hi]at hk;simp only at hk |-
     have rest:∀e1:Env,(∀t,e1 t=e t)->∀a' w',Qd C B o e1 (λu h'=>Vp C ops K r (e1.cJ C.rt u) h') a' w'->wpOpsIn (Yb ro) nn C.P ops Q r a' w':=by
      rintro e1 NU a' w' ⟨u,h',bP,fc,de⟩;refine zpj hC jR (λx a w hb=>hQ x a w ?_) fc bP;obtain⟨hx,e',kP,q1,q2,q3⟩:=hb;refine⟨hx,e',kP,q1,q2,λt ht=>?_⟩;rw[<-NU t];exact(zkp λd hd hh=>ht (by rw[hh];exact jR i o hi d (de d hd))).trans (q3 t ht)
     cases hg:o.guard with
     | none=>
       rw[hg]at hk;simp only at hk;rw[if_pos (zoc hg)];exact Oper.wpIn_mono (λa w ha=>rest e (λ_=>rfl) a w ha) (zbp hC hR hk)
     | some g=>
       obtain⟨j,want⟩:=g;rw[hg]at hk;simp only at hk;cases hd:(ops[j]?).bind (·.dst)with
       | none=>rw[hd]at hk;exact hk.elim
       | some d=>
         rw[hd]at hk;simp only at hk;cases hl:C.loc d with
         | true=>
           rw[hl]at hk;split at hk;contradiction;contradiction;exact hk.elim
         | false=>
           rw[hl]at hk;split at hk
           . rename_i t _ hv;have fL:∀b,t=b->e.set d (.val (.bool b))=e:=λb hb=>by
              subst hb;exact hR.Az hv
             rw[zob hg hd (hR.cL d _ hv)];cases t<;>cases want<;>simp only[ak]at hk
             . rw[fL false rfl]at hk;rw[if_pos zD];exact Oper.wpIn_mono (λa w ha=>rest e (λ_=>rfl) a w ha) (zbp hC hR hk)
             . rw[fL false rfl]at hk;rw[if_neg zS];exact⟨λ_ _=>trivial,rest e (λ_=>rfl) _ _ (zc6 hR hk)⟩
             . rw[fL true rfl]at hk;rw[if_neg zS];exact⟨λ_ _=>trivial,rest e (λ_=>rfl) _ _ (zc6 hR hk)⟩
             . rw[fL true rfl]at hk;rw[if_pos zD];exact Oper.wpIn_mono (λa w ha=>rest e (λ_=>rfl) a w ha) (zbp hC hR hk)
           . rename_i vs _ hv;rw[zlv hg hd (hR.cL d _ hv),if_neg zS];exact⟨λ_ _=>trivial,rest e (λ_=>rfl) _ _ (zc6 hR hk)⟩
           exact hk.elim
end
end Den
end

section
namespace Den
open Go
abbrev PT:=Hp->(Up->Hp->Prop)->Prop
abbrev NW(M:Up->Prop)(u:Up):Prop:=M u
def Wg(C:bX)(o:Oper)(u:Up):Prop:=(∀d,u.dst=some d->d∈Yf C o)/\(∀d off,u=.set d (.ref off)->o.dst=some d)/\∀d off,u≠.alloc d (.ref off)
def yL(M:Up->Prop)(dst:Option Nat):Prop:=M .none/\∀d,dst=some d->∀s,M (.set d s)/\((∀o,s≠.ref o)->M (.alloc d s))
def zu(M:Up->Prop)(T:PT):Prop:=∃p:Up->Prop,(∀u,p u->NW M u)/\∀h K,T h K↔∃u,p u/\K u h
def Qe(M:Up->Prop)(T:PT):Prop:=∃p:Up->Hp->Prop,(∀u h,p u h->NW M u)/\(∀u h h',p u h->Hp.le h h'->p u h')/\∀h K,T h K↔∃u,p u h/\K u h
def Vr(M:Up->Prop)(T:PT):Prop:=∃(α:Type) (G:(α->Hp->Prop)->Hp->Prop) (q:α->Up->Prop),(∀r u,q r u->NW M u) /\
 ((∀h K,T h K↔za G (λr h'=>∃u,q r u/\K u h') h)\/∀h K,¬T h K)
def yM(M:Up->Prop)(T:PT):Prop:=∃(P0:Prop) (c:List Value) (f:Nat->Up) (q:TypeId->Prop),(∃el,q el)/\(∀b,NW M (f b))/\∀h K,T h K↔P0/\∀b el,q el->h b=none->K (f b) (h.ins b ⟨c,el,(0,0)⟩)
def Zo(M:Up->Prop)(T:PT):Prop:=∀h K K',(∀u h,M u->K u h->K' u h)->T h K->T h K'
section
variable {M:Up->Prop}
def zo:zu M λ_ _=>False:=⟨λ_=>False,λ_ hh=>hh.elim,λh K=>⟨λhh=>hh.elim,λ⟨_,hh,_⟩=>hh⟩⟩
def tG{u:Up}(hu:NW M u):zu M λh K=>K u h:=⟨λv=>v=u,λv hv=>hv▸hu,λh K=>⟨λhh=>⟨u,rfl,hh⟩,λ⟨_,e,hh⟩=>e▸hh⟩⟩
def Zk3{ι:Type}{T:ι->PT}(hT:∀i,zu M (T i)):zu M λh K=>∃i,T i h K:=by
 refine⟨λu=>∃i,(hT i).choose u,λu ⟨i,hi⟩=>(hT i).choose_spec.1 u hi,λh K=>⟨λ⟨i,hi⟩=>?_,λ⟨u,⟨i,hi⟩,hk⟩=>⟨i,?_⟩⟩⟩
 . obtain⟨u,h1,h2⟩:=((hT i).choose_spec.2 h K).1 hi;exact⟨u,⟨i,h1⟩,h2⟩
 exact((hT i).choose_spec.2 h K).2 ⟨u,hi,hk⟩
def Vf{c:Prop}{T:PT}(hT:zu M T):zu M λh K=>c/\T h K:=by
 obtain⟨p,h1,h2⟩:=hT;refine⟨λu=>c/\p u,λu hu=>h1 u hu.2,λh K=>⟨λ⟨hc,hh⟩=>?_,λ⟨u,⟨hc,hu⟩,hk⟩=>⟨hc,(h2 h K).2 ⟨u,hu,hk⟩⟩⟩⟩;obtain⟨u,hu,hk⟩:=(h2 h K).1 hh;exact⟨u,⟨hc,hu⟩,hk⟩
def JJ{k k':IntKind}{T:PT}(hT:zu M T):zu M λh K=>jO k k' (T h K):=by
 have:=Vf (c:=k=k') hT;obtain⟨p,h1,h2⟩:=this;exact⟨p,h1,λh K=>qn.trans (h2 h K)⟩
def yk{C:bX}{dst:Option Nat}{v:Value}(hd:yL M dst):zu M λh K=>qm C dst v h K:=by
 unfold qm;cases dst with
 | none=>exact tG hd.1
 | some d=>
   simp only;split;exact tG (hd.2 _ rfl _).1;exact zo
def zoq{C:bX}{dst:Option Nat}{root off:Nat}(hd:yL M dst):zu M λh K=>CG C dst root off h K:=by
 unfold CG;cases dst with
 | none=>exact zo
 | some d=>
   simp only;split;exact tG (hd.2 _ rfl _).1;exact zo
def Zk6{C:bX}{dst:Option Nat}(hd:yL M dst):zu M λh K=>yF C dst h K:=by
 unfold yF;cases dst with
 | none=>exact tG hd.1
 | some d=>
   simp only;split;exact tG ((hd.2 _ rfl _).2 (λ_ hh=>by cases hh));exact zo;exact yk hd
def Xc{e:Env}{x:Operand}{T:Value->PT}(hT:∀v,zu M (T v)):zu M λh K=>cZ e x λv=>T v h K:=by
 unfold cZ;split;exact hT _;exact hT _;exact hT _
 . split;exact hT _;exact zo
def NY{e:Env}:∀{l:List Operand} {T:List Value->PT},(∀v,zu M (T v))->zu M λh K=>kF e l λv=>T v h K
 | [],T,hT=>hT []
 | x :: r,T,hT=>by
   unfold kF;exact Xc λv=>NY (l:=r) (T:=λvs=>T (v :: vs)) λvs=>hT _
def NZ{p:Option Addr}{T:Addr->PT}(hT:∀a,zu M (T a)):zu M λh K=>Yv p λa=>T a h K:=by
 cases p with
 | none=>exact zo
 | some a=>exact hT a
def zwn{P:Program}{t:TypeId}{T:PT}(hT:zu M T):zu M λh K=>CH P t (T h K):=by
 unfold CH;split;exact hT;exact zo
def Z9j{n:Int}{len:Nat}{T:PT}(hT:zu M T):zu M λh K=>CI n len (T h K):=by
 unfold CI;split;exact hT;exact zo
def Z04{P:Program}{t:TypeId}{T:List Value->PT}(hT:∀a,zu M (T a)):zu M λh K=>uI P t λa=>T a h K:=by
 unfold uI;split
 . split;exact hT _;exact zo
 exact zo
def zmm{P:Program}{t:TypeId}{T:TypeId->PT}(hT:∀a,zu M (T a)):zu M λh K=>cK P t λa=>T a h K:=by
 unfold cK;split
 . split;exact hT _;exact zo
 exact zo
def zr1{P:Program}{t:TypeId}{f:Nat}{T:Nat->PT}(hT:∀a,zu M (T a)):zu M λh K=>I7 P t f λa=>T a h K:=by
 unfold I7;split
 . split
   . split;exact zo;exact hT _
   exact zo
 exact zo
def Zk4{pl:Nat->Option (Nat×Nat)}{z:List Value}{ps:List (Nat×Value)}{T:List Value->PT}(hT:∀a,zu M (T a)):zu M λh K=>I8 pl z ps λa=>T a h K:=by
 unfold I8;split;exact hT _;exact zo
def CV{P:Program}{t:TypeId}{cs:List Value}{off:Nat}{T:Value->PT}(hT:∀a,zu M (T a)):zu M λh K=>tA P t cs off λa=>T a h K:=by
 unfold tA;split;exact zo
 . split;exact hT _;exact zo
 . split;exact hT _;exact zo
def zu3:∀{n:Nat} {T:List Value->PT},(∀l,zu M (T l))->zu M λh K=>zw9 n λl=>T l h K
 | 0,_,hT=>hT []
 | n+1,T,hT=>Zk3 λc=>zu3 (n:=n) (T:=λl=>T (.pointer c :: l)) λl=>hT _
def zu4{hint:Option (Nat×Nat)}{v:Value}{T:Value->PT}(hT:∀a,zu M (T a)):zu M λh K=>Z6v hint v λa=>T a h K:=by
 cases hint with
 | none=>exact hT v
 | some p=>exact zu3 λl=>Vf (hT _)
def Zp0{v:Value}{T:List Value->PT}(hT:∀a,zu M (T a)):zu M λh K=>Zs6 v λa=>T a h K:=by
 cases v<;>first | exact hT _ | exact zo
def AF{e:Env}{lo:Option Operand}{d:Int}{T:Int->PT}(hT:∀a,zu M (T a)):zu M λh K=>kO e lo d λa=>T a h K:=by
 unfold kO;split;exact hT _
 . refine Xc λv=>?_
   split;exact hT _;exact zo
def Zt0{t:Bool}{S T:PT}(hS:zu M S)(hT:zu M T):zu M λh K=>ak t (S h K) (T h K):=by
 cases t;exact hT;exact hS
def Zbv{op:BinOp}{k k':IntKind}{a b:Int}{T:Value->PT}(hT:∀a,zu M (T a)):zu M λh K=>zw4 op k k' a b λv=>T v h K:=by
 cases op<;>simp only[zw4]<;>first
  | exact Vf (hT _)
  | exact JJ (Vf (hT _))
  | exact JJ (hT _)
def Zp1{P:Program}{t:TypeId}{op:BinOp}{x y:Value}{T:Value->PT}(hT:∀a,zu M (T a)):zu M λh K=>No P t op x y λv=>T v h K:=by
 unfold No;split;exact Zbv hT
 . split<;>first | exact Vf (hT _) | exact hT _ | exact zo
 . split<;>first | exact hT _ | exact zo
 . split<;>first | exact hT _ | exact zo
 . unfold Zsj;split
   . split
     . split
       . refine JJ (JJ ?_);split<;>first | exact hT _ | exact zo
       exact zo
     exact zo
   exact zo
 exact zo
def Zk5{P:Program}{ix:Operand}{t:TypeId}{cs:List Value}{off:Nat}{T:Value->PT}(hT:∀a,zu M (T a)):zu M λh K=>Ns P ix t cs off λv=>T v h K:=by
 unfold Ns;split
 . split;exact Zk3 λx=>Vf (hT _)
   exact zo
 exact CV hT
def Zt1{op:UnOp}{x:Value}{T:Value->PT}(hT:∀a,zu M (T a)):zu M λh K=>Np op x λv=>T v h K:=by
 unfold Np;split<;>first | exact hT _ | exact zo
end
section
variable {C:bX}{o:Oper}{e:Env}
def zz:yL (Wg C o) o.dst:=by
 refine⟨⟨(λd hd=>by cases hd),(λd off hd=>by cases hd),(λd off hd=>by cases hd)⟩,λd hd s=>⟨⟨λd' de=>?_,λd' off de=>?_,(λd' off de=>by cases de)⟩,
  λhs=>⟨λd' de=>?_,(λd' off de=>by cases de),λd' off de=>?_⟩⟩⟩
 simp only[Up.dst,Js]at de;subst de;simp[Yf,hd];simp only[Up.set.injEq]at de;rw[<-de.1];exact hd;simp only[Up.dst,Js]at de;subst de;simp[Yf,hd];simp only[Up.alloc.injEq]at de;exact hs _ de.2
def Zp2{M:Up->Prop}{P:Program}{t:TypeId}{T:PT}(hT:zu M T):zu M λh K=>Aw P t (T h K):=by
 unfold Aw;split
 . split
   . split;exact hT;exact zo
   exact zo
 exact zo
def Z9k{M:Up->Prop}{x:Operand}{T:Nat->List (Int×Bool)->PT}{D:PT}(hT:∀s m,zu M (T s m))(hD:zu M D):zu M λh K=>qX C e x (λs m=>T s m h K) (D h K):=by
 unfold qX;split
 . split
   . split;exact hT _ _;exact zo
   . split;exact hT _ _;exact zo
   exact hD
 exact hD
def Zp3{M:Up->Prop}{dst:Option Nat}{root:Nat}(hd:yL M dst):zu M λh K=>EU C dst root h K:=by
 unfold EU;cases dst with
 | none=>exact zo
 | some d=>
   simp only;split;exact tG (hd.2 _ rfl _).1;exact zo
def Z9l{M:Up->Prop}{dst:Option Nat}{x:Operand}(hd:yL M dst):zu M λh K=>qX C e x (λs _=>(match eZ s C.kN with
 | true=>EU C dst s h K
 | false=>False)) (cZ e x λv=>qm C dst v h K):=by
 refine Z9k (T:=λs _ h K=>(match eZ s C.kN with
  | true=>EU C dst s h K
  | false=>False)) (D:=λh K=>cZ e x λv=>qm C dst v h K) (λs _=>?_) (Xc λv=>yk hd)
 cases eZ s C.kN with
 | true=>exact Zp3 hd
 | false=>exact zo
def zef{b:Builtin}(hb:b=.len\/b=.max\/b=.min\/b=.cap){ts:List TypeId}{xs:List Operand} :
 zu (Wg C o) λh K=>Qh C b ts xs e h o.dst K:=by
 unfold Qh;split
 . refine Z9k (λs m=>?_) ?_
   . split;exact Zp2 (yk zz);exact zo
   refine Xc λv=>?_
   split
   . split;exact yk zz;exact zo
   . split;exact yk zz;exact zo
   exact zo
 . refine Xc λu=>Xc λv=>?_
   cases u<;>cases v<;>first
    | exact zo
    | exact JJ (T:=λh K=>qm C o.dst (.int _ (I9 _ _)) h K) (yk zz)
 . refine Xc λu=>Xc λv=>?_
   cases u<;>cases v<;>first
    | exact zo
    | exact JJ (T:=λh K=>qm C o.dst (.int _ (Zss _ _)) h K) (yk zz)
 rcases hb with hb | hb | hb | hb<;>cases hb
 rcases hb with hb | hb | hb | hb<;>cases hb
 rcases hb with hb | hb | hb | hb<;>cases hb
 . refine Xc λv=>?_
   split
   . split;exact yk zz;exact zo
   exact zo
 exact zo
def JK(hc:eD C o=.pure):zu (Wg C o) λh K=>Zh C o e h K:=by
 unfold eD at hc;unfold Zh;cases ho:o.op<;>simp only[ho]at hc |-<;>try (cases hc;done)
 case makeSlice t l c=>
  exfalso;revert hc
  repeat' split
  all_goals (intro hc;cases hc)
 case load t x=>
  split
  . rename_i s;simp only at hc;split;exact CV λv=>yk zz
    . split;exact CV λv=>yk zz
      exact zo
    . cases hl:C.loc (C.rt s)with
      | true=>exact zo
      | false=>rw[hl]at hc;cases hc
    exact zo
  exact zo
 case store t x y=>
  refine Xc λv=>?_
  split
  . split
    . rename_i s;simp only at hc;split
      . split;exact tG ⟨(λd hd=>by simp only[Up.dst,Js]at hd;subst hd;simp[Yf,ho]),(λd off hd=>by cases hd),(λd off hd=>by cases hd)⟩;exact zo
      . split
        . split;exact tG ⟨(λd hd=>by simp only[Up.dst,Js]at hd;subst hd;simp[Yf,ho]),(λd off hd=>by cases hd),(λd off hd=>by cases hd)⟩;exact zo
        exact zo
      . cases hl:C.loc (C.rt s)with
        | true=>exact zo
        | false=>rw[hl]at hc;cases hc
      exact zo
    exact zo
  exact zo
 case move x=>exact Z9l zz
 case assign x=>exact Z9l zz
 case pick c x y=>
  refine Xc λv=>?_
  split;exact Zt0 (Xc λv=>yk zz) (Xc λv=>yk zz);exact zo
 case alloc t=>
  refine Z04 λcs=>?_
  unfold sj;cases hd:o.dst with
  | none=>exact zo
  | some d=>
    rw[hd]at hc;simp only at hc |-
    cases hl:C.loc d with
    | false=>rw[hl]at hc;cases hc
    | true=>
      split;exact tG ((zz.2 _ hd _).2 (λ_ hh=>by cases hh));contradiction;exact zo
 case box t x=>
  refine Xc λv=>?_
  unfold sj;cases hd:o.dst with
  | none=>exact zo
  | some d=>
    rw[hd]at hc;simp only at hc |-
    cases hl:C.loc d with
    | false=>rw[hl]at hc;cases hc
    | true=>
      split;exact tG ((zz.2 _ hd _).2 (λ_ hh=>by cases hh));contradiction;exact zo
 case build t p=>
  refine NY λvs=>?_
  split;exact yk zz;exact zo
 case buildSlice t n p=>
  refine NY λvs=>zmm λel=>Z04 λz=>?_
  split
  . refine Zk4 λcs=>?_
    unfold sj;cases hd:o.dst with
    | none=>exact zo
    | some d=>
      rw[hd]at hc;simp only at hc |-
      cases hl:C.loc d with
      | false=>rw[hl]at hc;cases hc
      | true=>
        split;exact tG ((zz.2 _ hd _).2 (λ_ hh=>by cases hh));contradiction;exact zo
  exact zo
 case nilCheck x=>
  refine Xc λv=>?_
  split;exact NZ λad=>yk zz
  exact yk zz;exact zo
 case binOp op t x y t'=>exact Xc λu=>Xc λv=>Zp1 λr=>yk zz
 case unOp op t x=>exact Xc λu=>Zt1 λr=>yk zz
 case convert s t x=>
  refine Xc λv=>?_
  split
  . split;exact yk zz;exact zo
  . rename_i hu;rw[hu]at hc;cases hc
  . rename_i hu;rw[hu]at hc;cases hc
  exact zo
 case makeFunc fn u v=>
  cases fn with
  | func g=>exact NY λus=>NY λvs=>yk zz
  | _=>exact zo
 case slice t x lo hi mx=>
  cases mx with
  | some m=>
    cases hi with
    | none=>exact zo
    | some hi=>
      refine Xc λv=>?_
      split
      . refine zmm λel=>AF λl=>AF λu=>AF λm=>?_
        unfold Nm;exact Vf (Vf (Vf (Vf (yk zz))))
      exact zo
  | none=>
    refine Xc λv=>?_
    split
    . split
      . refine AF λl=>AF λu=>?_
        unfold Yl;exact Vf (Vf (Vf (yk zz)))
      exact zo
    . refine zmm λel=>AF λl=>AF λu=>?_
      unfold ca;exact Vf (Vf (Vf (yk zz)))
    . split
      . refine zwn (NZ λad=>AF λl=>AF λu=>?_);unfold ca;exact Vf (Vf (Vf (yk zz)))
      exact zo
    exact zo
 case fieldAddr t x f=>
  refine zr1 λoff=>?_
  split
  . split;exact zoq zz;exact zoq zz;exact NZ λad=>yk zz
    exact zo
  exact zo
 case field t x f=>
  refine zr1 λoff=>Xc λv=>Zp0 λcs=>?_
  split
  . split;exact CV λr=>yk zz
    exact zo
  exact zo
 case indexAddr t x ix=>
  refine Xc λiv=>?_
  split
  . split
    . refine zwn (Xc λv=>?_);split
      . unfold zi;exact Vf (Vf (NZ λad=>yk zz))
      exact zo
    . refine zwn (Z9j ?_);split
      . split;exact zoq zz;exact zoq zz;exact NZ λad=>yk zz
        exact zo
      exact yk zz;exact zo
    exact zo
  exact zo
 case index t x ix=>
  refine Xc λiv=>Xc λv=>?_
  split
  . split
    . unfold Vq;exact Vf (Zk3 λb=>Vf (yk zz))
    exact zo
  . split;exact zwn (Z9j (Zk5 λr=>yk zz));exact zo
  exact zo
 case extract x i=>
  refine Xc λv=>?_
  split
  . split;exact yk zz;exact zo
  exact zo
 case call c=>
  cases gJ:c.callee with
  | builtin b=>
    rw[gJ]at hc;simp only;cases b with
    | len=>exact zef (.inl rfl)
    | max=>exact zef (.inr (.inl rfl))
    | min=>exact zef (.inr (.inr (.inl rfl)))
    | cap=>exact zef (.inr (.inr (.inr rfl)))
    | _=>cases hc
  | value f=>
    exfalso;rw[gJ]at hc;cases f with
    | func g=>
      simp only at hc;cases hm:C.tz g<;>rw[hm]at hc<;>cases hc
    | tmp t=>
      simp only at hc;cases hm:C.gn<;>rw[hm]at hc<;>cases hc
    | _=>cases hc
  | invoke r m=>rw[gJ]at hc;cases hc
end
end Den
end

section
namespace Den
open Go
def tH(T:PT):Prop:=∀h K,T h K->T h λu h'=>K u h'/\h.le h'
section
variable {Φ : PT → Prop}(hF:Φ fun _ _ => False)
include hF
def Vo{e:Env}{x:Operand}{T:Value->PT}(hT:∀v,Φ (T v)):Φ λh K=>cZ e x λv=>T v h K:=by
 unfold cZ;split;exact hT _;exact hT _;exact hT _
 . split;exact hT _;exact hF
def JL{e:Env}:∀{l:List Operand} {T:List Value->PT},(∀v,Φ (T v))->Φ λh K=>kF e l λv=>T v h K
 | [],T,hT=>hT []
 | x :: r,T,hT=>by
   unfold kF;exact Vo hF λv=>JL (l:=r) (T:=λvs=>T (v :: vs)) λvs=>hT _
def zv0{p:Option Addr}{T:Addr->PT}(hT:∀a,Φ (T a)):Φ λh K=>Yv p λa=>T a h K:=by
 cases p with
 | none=>exact hF
 | some a=>exact hT a
def uN{P:Program}{t:TypeId}{T:List Value->PT}(hT:∀a,Φ (T a)):Φ λh K=>uI P t λa=>T a h K:=by
 unfold uI;split
 . split;exact hT _;exact hF
 exact hF
def yN{P:Program}{t:TypeId}{T:TypeId->PT}(hT:∀a,Φ (T a)):Φ λh K=>cK P t λa=>T a h K:=by
 unfold cK;split
 . split;exact hT _;exact hF
 exact hF
def zpb{pl:Nat->Option (Nat×Nat)}{z:List Value}{ps:List (Nat×Value)}{T:List Value->PT}(hT:∀a,Φ (T a)):Φ λh K=>I8 pl z ps λa=>T a h K:=by
 unfold I8;split;exact hT _;exact hF
end
def zl{M:Up->Prop}:Zo M λ_ _=>False:=λ_ _ _ _ h=>h
def qb:tH λ_ _=>False:=λ_ _ h=>h
def zu.mono{M:Up->Prop}{T:PT}(hT:zu M T):Zo M T:=by
 obtain⟨p,h1,h2⟩:=hT;intro h K K' hk ht;obtain⟨u,h3,h4⟩:=(h2 h K).1 ht;exact(h2 h K').2 ⟨u,h3,hk _ _ (h1 _ h3) h4⟩
def zu.grow{M:Up->Prop}{T:PT}(hT:zu M T):tH T:=by
 obtain⟨p,_,h2⟩:=hT;intro h K ht;obtain⟨u,h3,h4⟩:=(h2 h K).1 ht;exact(h2 h _).2 ⟨u,h3,h4,Hp.le_refl h⟩
def Qe.mono{M:Up->Prop}{T:PT}(hT:Qe M T):Zo M T:=by
 obtain⟨p,h1,_,h2⟩:=hT;intro h K K' hk ht;obtain⟨u,h3,h4⟩:=(h2 h K).1 ht;exact(h2 h K').2 ⟨u,h3,hk _ _ (h1 _ _ h3) h4⟩
def Qe.grow{M:Up->Prop}{T:PT}(hT:Qe M T):tH T:=by
 obtain⟨p,_,_,h2⟩:=hT;intro h K ht;obtain⟨u,h3,h4⟩:=(h2 h K).1 ht;exact(h2 h _).2 ⟨u,h3,h4,Hp.le_refl h⟩
def Ff{α:Type}{G:(α->Hp->Prop)->Hp->Prop}{K K':α->Hp->Prop}{h:Hp}(hk:∀v h',K v h'->h.le h'->h'.Fin->K' v h')(hc:za G K h):za G K' h:=by
 obtain⟨D,O,Q,h1,h2,h3,h4⟩:=hc;refine⟨D,O,Q,h1,h2,h3,λv D' hQ=>⟨(h4 v D' hQ).1,λhd dY=>hk _ _ ((h4 v D' hQ).2 hd dY) ?_ dY⟩⟩;rw[h2];exact Hp.nR (h4 v D' hQ).1 hd
def Z3d{α:Type}{G:(α->Hp->Prop)->Hp->Prop}{K K':α->Hp->Prop}{h:Hp}(hk:∀v h',K v h'->K' v h')(hc:kE G K h):kE G K' h:=by
 obtain⟨D,O,Q,h1,h2,h3,h4⟩:=hc;exact⟨D,O,Q,h1,h2,h3,λv D' hQ hd=>hk _ _ (h4 v D' hQ hd)⟩
def Vr.mono{M:Up->Prop}{T:PT}(hT:Vr M T):Zo M T:=by
 obtain⟨α,G,q,h1,h2⟩:=hT;intro h K K' hk ht;rcases h2 with h2 | h2
 . refine(h2 h K').2 (Ff ?_ ((h2 h K).1 ht));rintro v h' ⟨u,h3,h4⟩ _ _;exact⟨u,h3,hk _ _ (h1 _ _ h3) h4⟩
 exact(h2 _ _ ht).elim
def Vr.grow{M:Up->Prop}{T:PT}(hT:Vr M T):tH T:=by
 obtain⟨α,G,q,_,h2⟩:=hT;intro h K ht;rcases h2 with h2 | h2
 . refine(h2 h _).2 (Ff ?_ ((h2 h K).1 ht));rintro v h' ⟨u,h3,h4⟩ hl _;exact⟨u,h3,h4,hl⟩
 exact(h2 _ _ ht).elim
def JM(T:PT):Prop:=∀h K,h.Fin->T h K->T h λu h'=>K u h'/\h'.Fin
def Zb2:JM λ_ _=>False:=λ_ _ _ h=>h
def zu.fin{M:Up->Prop}{T:PT}(hT:zu M T):JM T:=by
 obtain⟨p,_,h2⟩:=hT;intro h K hf ht;obtain⟨u,h3,h4⟩:=(h2 h K).1 ht;exact(h2 h _).2 ⟨u,h3,h4,hf⟩
def Qe.fin{M:Up->Prop}{T:PT}(hT:Qe M T):JM T:=by
 obtain⟨p,_,_,h2⟩:=hT;intro h K hf ht;obtain⟨u,h3,h4⟩:=(h2 h K).1 ht;exact(h2 h _).2 ⟨u,h3,h4,hf⟩
def Vr.fin{M:Up->Prop}{T:PT}(hT:Vr M T):JM T:=by
 obtain⟨α,G,q,_,h2⟩:=hT;intro h K _ ht;rcases h2 with h2 | h2
 . refine(h2 h _).2 (Ff ?_ ((h2 h K).1 ht));rintro v h' ⟨u,h3,h4⟩ _ hf;exact⟨u,h3,h4,hf⟩
 exact(h2 _ _ ht).elim
def yM.fin{M:Up->Prop}{T:PT}(hT:yM M T):JM T:=by
 obtain⟨P0,c,f,q,_,_,h2⟩:=hT;intro h K hf ht;obtain⟨h3,h4⟩:=(h2 h K).1 ht;exact(h2 h _).2 ⟨h3,λb el hq hb=>⟨h4 b el hq hb,hf.ins⟩⟩
def zqt{M:Up->Prop}(hM:M .none):yM M λ_ _=>False:=⟨False,[],λ_=>.none,λ_=>True,⟨0,trivial⟩,λ_=>hM,λ_ _=>⟨λh=>h.elim,λh=>h.1.elim⟩⟩
section
variable {C:bX}{o:Oper}{e:Env}
def zu.load{M:Up->Prop}{T:PT}(hT:zu M T):Qe M T:=by
 obtain⟨p,h1,h2⟩:=hT;exact⟨λu _=>p u,λu _ hu=>h1 u hu,λ_ _ _ hu _=>hu,h2⟩
def Zjf{M:Up->Prop}{l:Lf}{a:Addr}{T:l.T->PT}(hT:∀x,Qe M (T x)):Qe M λh K=>aB l a (λx=>T x h K) h:=by
 refine⟨λu h=>∃x,h.cell a=some (l.up x)/\(hT x).choose u h,λu h ⟨x,_,hx⟩=>(hT x).choose_spec.1 u h hx,
  λu h h' ⟨x,h1,h2⟩ hl=>⟨x,Hp.ia hl h1,(hT x).choose_spec.2.1 u h h' h2 hl⟩,λh K=>⟨?_,?_⟩⟩
 . rintro⟨x,h1,h2⟩;obtain⟨u,h3,h4⟩:=((hT x).choose_spec.2.2 h K).1 h2;exact⟨u,⟨x,h1,h3⟩,h4⟩
 . rintro⟨u,⟨x,h1,h2⟩,h3⟩;exact⟨x,h1,((hT x).choose_spec.2.2 h K).2 ⟨u,h2,h3⟩⟩
def Z97{M:Up->Prop}:∀{ls:List Lf} {a:Addr} {i:Nat} {T:List Value->PT},(∀x,Qe M (T x))->Qe M λh K=>Nq ls a i (λx=>T x h K) h
 | [],_,_,_,hT=>hT []
 | l :: r,a,i,T,hT=>by
   unfold Nq;exact Zjf λx=>Z97 (ls:=r) (T:=λvs=>T (l.up x :: vs)) λvs=>hT _
def Zjg{M:Up->Prop}{P:Program}{t:TypeId}{a:Addr}{T:Value->PT}(hT:∀x,Qe M (T x)):Qe M λh K=>Nr P t a (λx=>T x h K) h:=by
 unfold Nr;split
 . split;exact zo.load
   . split;exact Z97 λvs=>hT _
     exact zo.load
   . split;exact Zjf λx=>hT _
     exact zo.load
 exact zo.load
def JN(hc:eD C o=.load):Qe (Wg C o) λh K=>Zh C o e h K:=by
 unfold eD at hc;unfold Zh;cases ho:o.op<;>simp only[ho]at hc |-<;>try (cases hc;done)
 case load t x=>
  split
  . split;exact(CV λv=>yk zz).load
    . split;exact(CV λv=>yk zz).load;exact zo.load
    . split;exact zo.load;exact zv0 (Φ:=Qe _) zo.load λad=>Zjg λv=>(zu4 λv=>yk zz).load
    exact zo.load
  exact zo.load
 all_goals
  exfalso;revert hc
  repeat' split
  all_goals (intro hc;first | (cases hc;done) | (cases hc;contradiction))
def Z8h(hc:eD C o=.call):∃c f,o.op=.call c/\c.callee=.value f/\((∃g,f=.func g/\C.tz g=false)\/∃t,f=.tmp t/\C.gn=[]):=by
 unfold eD at hc;cases ho:o.op<;>simp only[ho]at hc<;>try (cases hc;done)
 case call c=>
  cases gJ:c.callee with
  | builtin b=>rw[gJ]at hc;cases b<;>cases hc
  | invoke r m=>rw[gJ]at hc;cases hc
  | value f=>
    rw[gJ]at hc;cases f with
    | func g=>
      simp only at hc;cases hm:C.tz g with
      | true=>rw[hm]at hc;cases hc
      | false=>exact⟨c,_,rfl,gJ,.inl ⟨g,rfl,hm⟩⟩
    | tmp t=>
      simp only at hc;cases hm:C.gn with
      | nil=>exact⟨c,_,rfl,gJ,.inr ⟨t,rfl,rfl⟩⟩
      | cons a b=>rw[hm]at hc;cases hc
    | _=>cases hc
 all_goals
  exfalso;revert hc
  repeat' split
  all_goals (intro hc;first | (cases hc;done) | (cases hc;contradiction))
def zkj{M:Up->Prop}{T:PT}(hT:∀h K,¬T h K):Vr M T:=⟨Unit,λ_ _=>False,λ_ _=>False,λ_ _ hh=>hh.elim,.inr hT⟩
def zp8(hC:tF C C.fH){g:FuncId}(hm:C.tz g=false){c:Call}{first cap:Array Value}:Vr (Wg C o) λh K=>kF e c.args.toList λvs=>C.f g (first.toList++vs++cap.toList) (λr h'=>qm C o.dst r h' K) h:=by
 refine JL (Φ:=Vr _) (zkj λ_ _ hh=>hh) λvs=>?_
 rcases hC.get g with ⟨_,hl⟩ | cW
 . rcases hl hm (first.toList++vs++cap.toList)with ⟨α,G,up,hG⟩ | cW
   . have hp:∀r,zu (Wg C o) λh K=>qm C o.dst (up r) h K:=λr=>yk zz
     refine⟨α,G,λr=>(hp r).choose,λr u hu=>(hp r).choose_spec.1 u hu,.inl λh K=>?_⟩;have:∀r h',qm C o.dst (up r) h' K↔∃u,(hp r).choose u/\K u h':=λr h'=>(hp r).choose_spec.2 h' K
     show yE g C.fH _ (λr h'=>qm C o.dst r h' K) h↔_;rw[hG];constructor;exact Ff λr h' hh _ _=>(this r h').1 hh
     exact Ff λr h' hh _ _=>(this r h').2 hh
   exact zkj λh K=>cW _ _
 exact zkj λh K=>cW _ _ _
def zhj(hC:tF C C.fH)(hc:eD C o=.call):Vr (Wg C o) λh K=>Zh C o e h K:=by
 obtain⟨c,f,ho,gJ,hf⟩:=Z8h hc;unfold Zh;rcases hf with ⟨g,rfl,hm⟩ | ⟨t,rfl,hm⟩
 . simp only[ho,gJ,cZ];exact zp8 hC hm
 . simp only[ho,gJ,cZ];have never:∀{P:PT},(∀h K,P h K↔False)->Vr (Wg C o) P:=λhP=>zkj λh K hk=>(hP h K).1 hk
   cases het:e t with
   | val v=>
     simp only;cases v with
     | func fr first cap=>
       cases fr with
       | func g=>exact zp8 hC (by unfold bX.tz;rw[hm];rfl)
       | _=>exact never λ_ _=>Iff.rfl
     | _=>exact never λ_ _=>Iff.rfl
   | _=>exact never λ_ _=>Iff.rfl
def Zb8{M:Up->Prop}{cs:List Value}{T:Addr->PT}(hm:∀a,Zo M (T a))(hg:∀a,tH (T a)):tH λh K=>Ys cs (λa h'=>T a h' K) h:=by
 intro h K ht b el hb;refine hm _ _ _ _ ?_ (hg _ _ _ (ht b el hb));rintro u h' _ ⟨h1,h2⟩;exact⟨h1,Hp.le_trans (Hp.cH hb) h2⟩
def Zb9{M:Up->Prop}{t:TypeId}{cs:List Value}{T:Addr->PT}(hm:∀a,Zo M (T a))(hg:∀a,tH (T a)):tH λh K=>I5 t cs (λa h'=>T a h' K) h:=by
 intro h K ht b hb;refine hm _ _ _ _ ?_ (hg _ _ _ (ht b hb));rintro u h' _ ⟨h1,h2⟩;exact⟨h1,Hp.le_trans (Hp.cH hb) h2⟩
def Zbm{M:Up->Prop}{t:TypeId}{cs:List Value}{T:Addr->PT}(hm:∀a,Zo M (T a)):Zo M λh K=>I5 t cs (λa h'=>T a h' K) h:=
 λh K K' hk ht b hb=>hm _ _ _ _ hk (ht b hb)
def zu1{M:Up->Prop}{cs:List Value}{T:Addr->PT}(hm:∀a,Zo M (T a)):Zo M λh K=>Ys cs (λa h'=>T a h' K) h:=
 λh K K' hk ht b el hb=>hm _ _ _ _ hk (ht b el hb)
def AG{M:Up->Prop}{dst:Option Nat}{v:Value}(hd:yL M dst):Zo M λh K=>qm C dst v h K:=(yk hd).mono
def vE{M:Up->Prop}{u:Up}(hu:M u):Zo M λh K=>K u h:=λ_ _ _ hk ht=>hk _ _ hu ht
def zqf{u:Up}:tH λh K=>K u h:=λh _ ht=>⟨ht,Hp.le_refl h⟩
def zgp{M:Up->Prop}{dst:Option Nat}{cs:List Value}{mk:Addr->Value}{dy:Slot}{ty:Option Nat}(hd:yL M dst)(hh:∀o,dy≠.ref o):Zo M λh K=>sj C dst cs mk dy ty h K:=by
 unfold sj;cases dst with
 | none=>exact zl
 | some d=>
   simp only;split;exact vE ((hd.2 _ rfl _).2 hh)
   . split;exact zu1 λa=>vE (hd.2 _ rfl _).1
     exact Zbm λa=>vE (hd.2 _ rfl _).1
   exact zl
def zge{dst:Option Nat}{cs:List Value}{mk:Addr->Value}{dy:Slot}{ty:Option Nat}:tH λh K=>sj C dst cs mk dy ty h K:=by
 unfold sj;cases dst with
 | none=>exact qb
 | some d=>
   simp only;split;exact zqf
   . split;exact Zb8 (M:=λ_=>True) (λa=>vE trivial) (λa=>zqf);exact Zb9 (M:=λ_=>True) (λa=>vE trivial) (λa=>zqf)
   exact qb
def Zqz{t:TypeId}{l c:Operand}(ho:o.op=.makeSlice t l c)(hc:eD C o=.new):∃d,o.dst=some d/\C.loc d=false/\Pc d C.n=true:=by
 unfold eD at hc;simp only[ho]at hc;cases hd:o.dst with
 | none=>rw[hd]at hc;cases hc
 | some d=>
   rw[hd]at hc;simp only at hc;refine⟨d,rfl,?_⟩;cases hl:C.loc d with
   | true=>rw[hl]at hc;cases hc
   | false=>
     rw[hl]at hc;simp only at hc;cases hb:Pc d C.n with
     | true=>exact⟨rfl,rfl⟩
     | false=>rw[hb]at hc;cases hc
def zrd{d:Nat}{v:Value}{h:Hp}{K:Up->Hp->Prop}(hd:o.dst=some d)(hl:C.loc d=false)(hb:Pc d C.n=true):qm C o.dst v h K=K (.set d (.val v)) h:=by
 unfold qm;rw[hd];simp only;rw[hl,hb]
def Zj7{len cap:Int}{bytes:Nat}{z:List Value}{d:Nat}(hd:o.dst=some d)(hl:C.loc d=false)(hb:Pc d C.n=true):tH λh K=>eW len cap bytes z (λs h'=>qm C o.dst (.slice s.a s.len s.cap) h' K) h:=by
 rintro h K ⟨h1,h2,h3,h4,h5⟩;refine⟨h1,h2,h3,h4,λb e hn=>?_⟩;have:=h5 b e hn;simp only[zrd hd hl hb]at this |-
 exact⟨this,Hp.cH hn⟩
def Zsw{len cap:Int}{bytes:Nat}{z:List Value}{d:Nat}(hd:o.dst=some d)(hl:C.loc d=false)(hb:Pc d C.n=true):yM (Wg C o) λh K=>eW len cap bytes z (λs h'=>qm C o.dst (.slice s.a s.len s.cap) h' K) h:=by
 refine⟨0<=len/\len<=cap/\bytes*cap<=140737488355328/\cap<=140737488355328,Yi cap.toNat z,λb=>.set d (.val (.slice (some ⟨b,0,none⟩) len.toNat cap.toNat)),λ_=>True,⟨0,trivial⟩,λb=>(zz.2 d hd _).1,λh K=>⟨?_,?_⟩⟩
 . rintro⟨h1,h2,h3,h4,h5⟩;refine⟨⟨h1,h2,h3,h4⟩,λb el _ hn=>?_⟩;have:=h5 b el hn;simp only[zrd hd hl hb]at this;exact this
 . rintro⟨⟨h1,h2,h3,h4⟩,h5⟩;refine⟨h1,h2,h3,h4,λb el hn=>?_⟩;simp only[zrd hd hl hb];exact h5 b el trivial hn
def Zjs(hc:eD C o=.new):tH λh K=>Zh C o e h K:=by
 have mD:=hc;unfold eD at hc;unfold Zh;cases ho:o.op<;>simp only[ho]at hc |-<;>try (cases hc;done)
 case alloc t=>exact uN qb λcs=>zge
 case box t x=>exact Vo qb λv=>zge
 case makeSlice t l c=>
  obtain⟨d,hd,hl,hb⟩:=Zqz ho mD;refine Vo qb λlv=>Vo qb λcv=>?_
  split
  . refine yN qb λel=>uN qb λz=>?_
    split;exact Zj7 hd hl hb;exact qb
  exact qb
 case buildSlice t n p=>
  refine JL qb λvs=>yN qb λel=>uN qb λz=>?_
  split;exact zpb qb λcs=>zge
  exact qb
 all_goals
  exfalso;revert hc
  repeat' split
  all_goals (intro hc;first | (cases hc;done) | (cases hc;contradiction))
def zmj{dst:Option Nat}{cs:List Value}{mk:Addr->Value}{dy:Slot}{ty:Option Nat}(hd:yL (Wg C o) dst)(hc:∀d,dst=some d->C.loc d=false) :
 yM (Wg C o) λh K=>sj C dst cs mk dy ty h K:=by
 unfold sj;cases dst with
 | none=>exact zqt hd.1
 | some d=>
   simp only;rw[hc d rfl];split;contradiction
   . split;exact⟨True,cs,λb=>.set d (.val (mk ⟨b,0,none⟩)),λ_=>True,⟨0,trivial⟩,λb=>(hd.2 d rfl _).1,λh K=>⟨λh1=>⟨trivial,λb el _=>h1 b el⟩,λh1 b el=>h1.2 b el trivial⟩⟩
     . rename_i t;exact⟨True,cs,λb=>.set d (.val (mk ⟨b,0,none⟩)),λx=>x=t,⟨t,rfl⟩,λb=>(hd.2 d rfl _).1,λh K=>⟨λh1=>⟨trivial,λb el he=>by subst he;exact h1 b⟩,λh1 b=>h1.2 b t rfl⟩⟩
   exact zqt hd.1
def zkz(hc:eD C o=.new):yM (Wg C o) λh K=>Zh C o e h K:=by
 have hl:∀d,o.dst=some d->C.loc d=false:=by
  intro d hd;unfold eD at hc;cases ho:o.op<;>simp only[ho]at hc<;>try (cases hc;done)
  all_goals first
   | (rw[hd]at hc;simp only at hc;cases hl:C.loc d with
      | false=>rfl
      | true=>rw[hl]at hc;cases hc)
   | (exfalso;revert hc;repeat' split
      all_goals (intro hc;first | (cases hc;done) | (cases hc;contradiction)))
 have hF:yM (Wg C o) λ_ _=>False:=zqt (zz (C:=C) (o:=o)).1
 have mD:=hc;unfold eD at hc;unfold Zh;cases ho:o.op<;>simp only[ho]at hc |-<;>try (cases hc;done)
 case alloc t=>exact uN hF λcs=>zmj zz hl
 case box t x=>exact Vo hF λv=>zmj zz hl
 case makeSlice t l c=>
  obtain⟨d,hd,hl,hb⟩:=Zqz ho mD;refine Vo hF λlv=>Vo hF λcv=>?_
  split
  . refine yN hF λel=>uN hF λz=>?_
    split;exact Zsw hd hl hb;exact hF
  exact hF
 case buildSlice t n p=>
  refine JL hF λvs=>yN hF λel=>uN hF λz=>?_
  split;exact zpb hF λcs=>zmj zz hl
  exact hF
 all_goals
  exfalso;revert hc
  repeat' split
  all_goals (intro hc;first | (cases hc;done) | (cases hc;contradiction))
def zzv{M:Up->Prop}{a:Addr}{vs:List Value}{T:PT}(hT:Zo M T):Zo M λh K=>bD a vs (λh'=>T h' K) h:=by
 rintro h K K' hk ⟨b,h1,h2,h3,h4,h5,h6⟩;exact⟨b,h1,h2,h3,h4,h5,hT _ _ _ hk h6⟩
def zky{M:Up->Prop}{a:Option Addr}{off:Nat}{vs:List Value}{T:PT}(hT:Zo M T):Zo M λh K=>pS a off vs (λh'=>T h' K) h:=by
 cases a with
 | none=>exact hT
 | some a=>exact zzv hT
def Zbj{M:Up->Prop}{size bytes:Nat}{z:List Value}{x:Sl}{n:Nat}{new:List Value}{T:Sl->PT}(hT:∀s,Zo M (T s)) :
 Zo M λh K=>Qg size bytes z x n new (λs h'=>T s h' K) h:=by
 rintro h K K' hk ⟨h1,h2,h3,h4⟩;refine⟨h1,h2,λhh=>zky (hT _) h K K' hk (h3 hh),λhh=>?_⟩;obtain⟨iK,h5,h6⟩:=h4 hh;exact⟨iK,h5,λb el c hc hb=>hT _ _ _ _ hk (h6 b el c hc hb)⟩
def ztz{M:Up->Prop}{ty:Option Nat}{size bytes:Nat}{z:List Value}{x:Sl}{n:Nat}{new:List Value}{T:Sl->PT}(hT:∀s,Zo M (T s)) :
 Zo M λh K=>Zo2 ty size bytes z x n new (λs h'=>T s h' K) h:=by
 cases ty with
 | none=>exact Zbj hT
 | some t=>
   rintro h K K' hk ⟨h1,h2,h3,h4⟩;refine⟨h1,h2,λhh=>zky (hT _) h K K' hk (h3 hh),λhh=>?_⟩;obtain⟨iK,h5,h6⟩:=h4 hh;exact⟨iK,h5,λb c hc hb=>hT _ _ _ _ hk (h6 b c hc hb)⟩
def Zjm{M:Up->Prop}{size:Nat}{x y:Sl}{T:Nat->PT}(hT:∀n,Zo M (T n)):Zo M λh K=>cpP size x y (λn h'=>T n h' K) h:=by
 rintro h K K' hk ⟨l,h1,h2⟩;exact⟨l,h1,zky (hT _) h K K' hk h2⟩
def Zbk{M:Up->Prop}{x:Sl}{z:List Value}{T:PT}(hT:Zo M T):Zo M λh K=>Zyb x z (λh'=>T h' K) h:=by
 rintro h K K' hk ⟨h1,h2⟩;exact⟨λe=>hT _ _ _ hk (h1 e),λe=>zky hT h K K' hk (h2 e)⟩
def Zjn{M:Up->Prop}{len cap:Int}{bytes:Nat}{z:List Value}{T:Sl->PT}(hT:∀s,Zo M (T s)):Zo M λh K=>eW len cap bytes z (λs h'=>T s h' K) h:=by
 rintro h K K' hk ⟨h1,h2,h3,h4,h5⟩;exact⟨h1,h2,h3,h4,zu1 (T:=λa=>T ⟨some a,len.toNat,cap.toNat⟩) (λa=>hT _) h K K' hk h5⟩
def zzt{M:Up->Prop}{a:Option Addr}{n:Nat}{T:List Value->PT}(hT:∀vs,Zo M (T vs)):Zo M λh K=>iO a n (λvs=>T vs h K) h:=by
 rintro h K K' hk ⟨l,h1,h2⟩;exact⟨l,h1,hT _ _ _ _ hk h2⟩
def Zbo{M:Up->Prop}{x:Operand}{size:Nat}{T:Nat->List Value->PT}(hT:∀n vs,Zo M (T n vs)):Zo M λh K=>yG e x size (λn vs=>T n vs h K) h:=by
 unfold yG;split
 . split
   . split;exact hT _ _;exact zl
   exact zzt λvs=>hT _ _
   . split;exact hT _ _;exact zl
   exact zl
 exact zzt λvs=>hT _ _
 . split;exact hT _ _;exact zl
 exact zl
def Z5m{M:Up->Prop}{x:Sl}{T:ByteArray->PT}(hT:∀vs,Zo M (T vs)):Zo M λh K=>Zmy x (λvs=>T vs h K) h:=by
 rintro h K K' hk ⟨l,h1,h2⟩;exact⟨l,h1,hT _ _ _ _ hk h2⟩
def zzs{M:Up->Prop}{s:ByteArray}{T:Sl->PT}(hT:∀s,Zo M (T s)):Zo M λh K=>Zdd s (λs h'=>T s h' K) h:=by
 intro h K K' hk hh b el c fz hc hb;exact hT _ _ _ _ hk (hh b el c fz hc hb)
def Zbn{M:Up->Prop}{P:Program}{t:TypeId}{T T2:PT}(hT:Zo M T)(hT2:Zo M T2):Zo M λh K=>Zp7 P t (T h K) (T2 h K):=by
 unfold Zp7;split;exact hT;exact hT2
def Z5l{M:Up->Prop}{P:Program}{t:TypeId}{T:PT}(hT:Zo M T):Zo M λh K=>Nt P t (T h K):=by
 unfold Nt;split;exact hT;exact hT;exact zl
def zzu{M:Up->Prop}{dst:Option Nat}(hd:yL M dst):Zo M λh K=>zwy C e dst h K:=by
 unfold zwy;split;exact zl
 . rename_i d;split;exact vE ((hd.2 d rfl _).2 (λ_ hh=>by cases hh));exact zl
def zu0{M:Up->Prop}{P:Program}{t:TypeId}{T:PT}(hT:Zo M T):Zo M λh K=>Aw P t (T h K):=by
 unfold Aw;split
 . split
   . split;exact hT;exact zl
   exact zl
 exact zl
def Zbl{M:Up->Prop}{x:Operand}{T:Nat->List (Int×Bool)->PT}{D:PT}(hT:∀s m,Zo M (T s m))(hD:Zo M D):Zo M λh K=>qX C e x (λs m=>T s m h K) (D h K):=by
 unfold qX;split
 . split
   . split;exact hT _ _;exact zl
   . split;exact hT _ _;exact zl
   exact hD
 exact hD
def Z3p(hC:tF C C.fH)(hmt:∀g args K K' h,(∀v h,K v h->K' v h)->C.f g args K h->C.f g args K' h):Zo (Wg C o) λh K=>Zh C o e h K:=by
 cases hc:eD C o with
 | pure=>exact(JK hc).mono
 | load=>exact(JN hc).mono
 | call=>exact(zhj hC hc).mono
 | _=>
   clear hc;by_cases hp:eD C o=.pure;exact(JK hp).mono;by_cases hl:eD C o=.load;exact(JN hl).mono;unfold Zh;unfold eD at hp hl;cases ho:o.op<;>simp only[ho]at hp hl |-<;>try (first | exact absurd trivial hp | exact absurd trivial hl | exact absurd rfl hp | exact absurd rfl hl | exact zl)
   case alloc t=>exact uN (Φ:=Zo _) zl λcs=>zgp zz (λ_ hh=>by cases hh)
   case box t x=>exact Vo (Φ:=Zo _) zl λv=>zgp zz (λ_ hh=>by cases hh)
   case buildSlice t n p=>
    refine JL (Φ:=Zo _) zl λvs=>yN (Φ:=Zo _) zl λel=>uN (Φ:=Zo _) zl λz=>?_
    split;exact zpb (Φ:=Zo _) zl λcs=>zgp zz (λ_ hh=>by cases hh)
    exact zl
   case load t x=>
    exfalso;cases x with
    | tmp s=>cases rb:C.loc (C.rt s)with
      | true=>exact hp (by simp only[rb])
      | false=>exact hl (by simp only[rb])
    | _=>exact hl rfl
   case store t x y=>
    refine Vo (Φ:=Zo _) zl λv=>?_
    split
    . split
      . split
        . split;exact vE ⟨(λd hd=>by simp only[Up.dst,Js]at hd;subst hd;simp[Yf,ho]),(λd off hd=>by cases hd),(λd off hd=>by cases hd)⟩;exact zl
        . split
          . split;exact vE ⟨(λd hd=>by simp only[Up.dst,Js]at hd;subst hd;simp[Yf,ho]),(λd off hd=>by cases hd),(λd off hd=>by cases hd)⟩;exact zl
          exact zl
        . split;exact zl;refine zv0 (Φ:=Zo _) zl λad=>?_
          split;exact zzv (vE zz.1);exact zl
        exact zl
      exact zl
    exact zl
   case convert s t x=>
    refine Vo (Φ:=Zo _) zl λv=>?_
    split
    . rename_i hu;exfalso;exact hp (by rw[hu])
    . split
      . split;exact Z5m λs=>AG zz
        exact zl
      exact zl
    . split;exact zzs λs=>AG zz
      exact zl
    exact zl
   case makeMap t r=>
    cases r with
    | some m=>exact zl
    | none=>exact zzu zz
   case lookup t x ix ok=>
    cases ok with
    | true=>exact zl
    | false=>
      refine Vo (Φ:=Zo _) zl λiv=>zu0 (Zbl (λs m=>?_) zl)
      split;exact AG zz;exact zl
   case mapUpdate t x k y=>
    refine Vo (Φ:=Zo _) zl λkv=>Vo (Φ:=Zo _) zl λyv=>?_
    refine zu0 ?_;unfold qX;split
    . rename_i s;split
      . split
        . rename_i hr;split;exact vE ⟨(λd hd=>by simp only[Up.dst,Js]at hd;subst hd;simp[Yf,ho,Ut hr]),(λd off hd=>by cases hd),(λd off hd=>by cases hd)⟩;exact zl
        exact zl
      . split
        . split;exact vE ⟨(λd hd=>by simp only[Up.dst,Js]at hd;subst hd;simp[Yf,ho]),(λd off hd=>by cases hd),(λd off hd=>by cases hd)⟩;exact zl
        exact zl
      exact zl
    exact zl
   case makeSlice t l c=>
    refine Vo (Φ:=Zo _) zl λlv=>Vo (Φ:=Zo _) zl λcv=>?_
    split
    . refine yN (Φ:=Zo _) zl λel=>uN (Φ:=Zo _) zl λz=>?_
      split;exact Zjn λs=>AG zz
      exact zl
    exact zl
   case call c=>
    split
    . rename_i b hb;unfold Qh;split;exact absurd (by rw[hb]) hp;exact absurd (by rw[hb]) hp;exact absurd (by rw[hb]) hp
      . split
        . refine Zbn ?_ ?_
          . refine yN (Φ:=Zo _) zl λel=>uN (Φ:=Zo _) zl λz=>?_
            split
            . refine Vo (Φ:=Zo _) zl λv=>Vo (Φ:=Zo _) zl λu=>?_
              split;exact λh K K' hk ⟨g1,g2⟩=>⟨g1,ztz (λs=>AG zz) h K K' hk g2⟩
              exact zl
            exact zl
          refine Z5l <| yN (Φ:=Zo _) zl λel=>uN (Φ:=Zo _) zl λz=>?_
          split
          . refine Vo (Φ:=Zo _) zl λv=>?_
            split;exact Zbo λn vs=>ztz λs=>AG zz
            exact zl
          exact zl
        exact zl
      . split
        . refine yN (Φ:=Zo _) zl λel=>Vo (Φ:=Zo _) zl λv=>Vo (Φ:=Zo _) zl λu=>?_
          split;exact Zjm λn=>AG zz
          exact zl
        exact zl
      . split
        . refine yN (Φ:=Zo _) zl λel=>uN (Φ:=Zo _) zl λz=>Vo (Φ:=Zo _) zl λv=>?_
          split;exact Zbk (AG zz);exact zl
        exact zl
      exact absurd (by rw[hb]) hp;exact zl
    . rename_i f hf;refine Vo (Φ:=Zo _) zl λfv=>?_
      split
      . refine JL (Φ:=Zo _) zl λvs=>?_
        intro h K K' hk ht;exact hmt _ _ _ _ _ (λr h' hr=>AG zz h' K K' hk hr) ht
      exact zl
    exact zl
end
end Den
end

section
namespace Den
open Go
section
variable {C:bX}{o:Oper}{e e':Env}
def zml{x:Operand}(hx:∀t,x=.tmp t->e t=e' t):cZ e x=cZ e' x:=by
 funext K;unfold cZ;cases x<;>try rfl
 rename_i t;simp only[hx t rfl]
def zqw:∀{l:List Operand},(∀x∈l,∀t,x=.tmp t->e t=e' t)->kF e l=kF e' l
 | [],_=>rfl
 | x :: r,hx=>by
   funext K;unfold kF;rw[zml (hx x zS),zqw (l:=r) λy hy=>hx y (by simp[hy])]
def zt9{lo:Option Operand}{d:Int}(hx:∀x,lo=some x->∀t,x=.tmp t->e t=e' t):kO e lo d=kO e' lo d:=by
 funext K;unfold kO;cases lo with
 | none=>rfl
 | some x=>simp only;rw[zml (hx x rfl)]
def Z73{x:Operand}{size:Nat}(hx:∀t,x=.tmp t->e t=e' t):yG e x size=yG e' x size:=by
 funext K h;unfold yG;cases x with
 | tmp t=>simp only[hx t rfl]
 | const v=>cases v<;>rfl
 | _=>rfl
def N0{x:Operand}(hx:∀t,x=.tmp t->e t=e' t/\e (C.rt t)=e' (C.rt t)):qX C e x=qX C e' x:=by
 funext A D;unfold qX;split
 . rename_i s;rw[(hx s rfl).1,(hx s rfl).2]
 rfl
def zg2(iR:nT o=false)(H:∀x∈o.op.operands.toList,∀t,x=.tmp t->e t=e' t/\e (C.rt t)=e' (C.rt t)):Zh C o e=Zh C o e':=by
 funext h K;have hv:∀x∈o.op.operands.toList,cZ e x=cZ e' x:=λx hx=>zml λt ht=>(H x hx t ht).1
 have jE:∀l:List Operand,(∀x∈l,x∈o.op.operands.toList)->kF e l=kF e' l:=λl hl=>zqw λx hx t ht=>(H x (hl x hx) t ht).1
 unfold Zh;cases ho:o.op<;>simp only[ho,Op.operands]at H hv jE |-
 case move x=>rw[hv x zS,N0 λt ht=>H x zS t ht]
 case assign x=>rw[hv x zS,N0 λt ht=>H x zS t ht]
 case pick c x y=>rw[hv c zS,hv x zS,hv y zS]
 case box t x=>rw[hv x zS]
 case build t p=>rw[jE _ zS]
 case buildSlice t n p=>rw[jE _ zS]
 case load t x=>
  cases x<;>try rfl
  rename_i s;have:=H (.tmp s) zS s rfl;simp only[this.1,this.2]
 case store t x y=>
  rw[hv y zS];cases x<;>try rfl
  rename_i s;have:=H (.tmp s) zS s rfl;simp only[this.1,this.2]
 case nilCheck x=>rw[hv x zS]
 case binOp op t x y t'=>rw[hv x zS,hv y zS]
 case unOp op t x=>rw[hv x zS]
 case convert s t x=>rw[hv x zS]
 case makeFunc fn u v=>
  cases fn<;>try rfl
  simp only;rw[jE _ (by simp;intro x hx;exact .inl hx),jE _ (by simp;intro x hx;exact .inr hx)]
 case makeSlice t l c=>rw[hv l zS,hv c zS]
 case slice t x lo hi mx=>
  cases mx with
  | some m=>
    cases hi with
    | none=>rfl
    | some u=>
      simp only;have hb:∀(q:Option Operand) (d:Int),(q=lo\/q=some u\/q=some m)->kO e q d=kO e' q d:=λq d hq=>zt9 λy hy t ht=>by
       refine(H y ?_ t ht).1;rcases hq with rfl | rfl | rfl
       simp[hy];cases hy;simp;cases hy;simp
      rw[hv x zS];simp only[hb lo _ (.inl rfl),hb (some u) _ (.inr (.inl rfl)),hb (some m) _ (.inr (.inr rfl))]
  | none=>
    simp only;have hb:∀(q:Option Operand) (d:Int),(q=lo\/q=hi)->kO e q d=kO e' q d:=λq d hq=>zt9 λy hy t ht=>by
     refine(H y ?_ t ht).1;rcases hq with rfl | rfl<;>simp[hy]
    rw[hv x zS];simp only[hb lo _ (.inl rfl),hb hi _ (.inr rfl)]
 case fieldAddr t x f=>
  cases x<;>try rfl
  rename_i s;have:=H (.tmp s) zS s rfl;simp only[this.1]
 case field t x f=>rw[hv x zS]
 case indexAddr t x ix=>
  rw[hv ix zS,hv x zS];cases x<;>try rfl
  rename_i s;have:=H (.tmp s) zS s rfl;simp only[this.1]
 case index t x ix=>rw[hv ix zS,hv x zS]
 case extract x i=>rw[hv x zS]
 case makeMap t r=>unfold nT at iR;rw[ho]at iR;cases iR
 case lookup t x ix ok=>
  cases ok with
  | true=>rfl
  | false=>simp only;rw[hv ix zS,N0 λt ht=>H x zS t ht]
 case mapUpdate t x k y=>rw[hv k zS,hv y zS,N0 λt ht=>H x zS t ht]
 case call c=>
  split
  . rename_i b hb;have nZ:∀x∈c.args.toList,cZ e x=cZ e' x:=λx hx=>hv x (by simp[Call.operands,hb];simpa using hx)
    unfold Qh;split
    . rename_i x hxx;have hxm:x∈c.operands.toList:=by
       have:x∈c.args.toList:=by simp[hxx]
       simp[Call.operands,hb];simpa using this
      rw[nZ _ (by simp[*]),N0 λt ht=>H x hxm t ht]
    rw[nZ _ (by simp[*])];congr;funext u;rw[nZ _ (by simp[*])];rw[nZ _ (by simp[*])];congr;funext u;rw[nZ _ (by simp[*])]
    . rename_i x y jC;have hy:y∈c.operands.toList:=by
       have:y∈c.args.toList:=by simp[jC]
       simp[Call.operands,hb];simpa using this
      have hs:∀n,yG e y n=yG e' y n:=λn=>Z73 λt ht=>(H y hy t ht).1
      rw[nZ x (by simp[jC]),nZ y (by simp[jC])];simp only[hs]
    . rename_i x y jC;rw[nZ x (by simp[jC]),nZ y (by simp[jC])]
    rw[nZ _ (by simp[*])];rw[nZ _ (by simp[*])];rfl
  . rename_i f hf;rw[hv f (by simp[Call.operands,hf]),jE c.args.toList (by intro x hx;simp[Call.operands,hf];exact .inr (by simpa using hx))]
  rfl
end
end Den
end

section
namespace Den
open Go
section
variable {C:bX}
def Qu{t:Nat}:∀{l:List Nat},eZ t l=true↔t∈l
 | []=>by simp[eZ]
 | x :: r=>by
   unfold eZ;by_cases h:t=x;subst h;simp;rw[jB h];simp[h,Qu (l:=r)]
def JO{a b:List Nat}:kG a b=true↔∀x∈a,x∉b:=by
 unfold kG;rw[List.all_eq_true];constructor
 . intro h x hx hb;have:=h x hx;rw[(Qu (t:=x) (l:=b)).2 hb]at this;cases this
 . intro h x hx;cases hm:eZ x b with
   | false=>rfl
   | true=>exact absurd (Qu.1 hm) (h x hx)
def N1{e:Env}{u:Up}{t:Nat}(ht:∀d,u.dst=some d->t≠d)(hr:∀d,u.dst=some d->C.rt t≠d):e.cJ C.rt u t=e t:=by
 cases u with
 | none=>rfl
 | set d s=>exact Env.aN (ht d rfl)
 | alloc d s=>
   show(bif G9 t d then s else match e t with | .ref o=>bif G9 (C.rt t) d then Slot.fG else .ref o | x=>x)=e t;rw[jB (ht d rfl),jB (hr d rfl)];cases e t<;>rfl
def Znc{e:Env}{u v:Up}(h1:∀d d',u.dst=some d->v.dst=some d'->d≠d')(hu:∀d off,u=.set d (.ref off)->∀d',v.dst=some d'->C.rt d≠d')
 (hv:∀d off,v=.set d (.ref off)->∀d',u.dst=some d'->C.rt d≠d')
 (ha:∀d off,u≠.alloc d (.ref off)) (hb:∀d off,v≠.alloc d (.ref off)):(e.cJ C.rt u).cJ C.rt v=(e.cJ C.rt v).cJ C.rt u:=by
 cases u with
 | none=>rfl
 | set d s=>
   cases v with
   | none=>rfl
   | set d' s'=>
     have hd:=h1 d d' rfl rfl;funext t;simp only[Env.cJ];by_cases ht:t=d;subst ht;rw[Env.aN hd,Env.aK,Env.aK]
     . by_cases jo:t=d';subst jo;rw[Env.aK,Env.aN ht,Env.aK];rw[Env.aN jo,Env.aN ht,Env.aN ht,Env.aN jo]
   | alloc d' s'=>
     have hd:=h1 d d' rfl rfl;funext t;simp only[Env.cJ];by_cases ht:t=d
     . subst ht;rw[Env.aK];unfold Env.alloc;rw[jB hd,Env.aK];cases s with
       | ref o=>rw[jB (hu t o rfl d' rfl)];rfl
       | _=>rfl
     . rw[Env.aN ht];unfold Env.alloc;rw[Env.aN ht]
 | alloc d s=>
   cases v with
   | none=>rfl
   | set d' s'=>
     have hd:=h1 d d' rfl rfl;funext t;simp only[Env.cJ];by_cases ht:t=d'
     . subst ht;rw[Env.aK];unfold Env.alloc;rw[jB (Ne.symm hd),Env.aK];cases s' with
       | ref o=>rw[jB (hv t o rfl d rfl)];rfl
       | _=>rfl
     . rw[Env.aN ht];unfold Env.alloc;rw[Env.aN ht]
   | alloc d' s'=>
     have hd:=h1 d d' rfl rfl;funext t;simp only[Env.cJ];unfold Env.alloc;by_cases ht:t=d
     . subst ht;rw[jB hd,vy];simp only[cond_true,cond_false];cases s with
       | ref o=>exact absurd rfl (ha t o)
       | _=>rfl
     . rw[jB ht];by_cases jo:t=d'
       . subst jo;rw[vy];simp only[cond_true,cond_false];cases s' with
         | ref o=>exact absurd rfl (hb t o)
         | _=>rfl
       . rw[jB jo];simp only[cond_false];cases e t with
         | ref o=>
           simp only;cases G9 (C.rt t) d<;>cases G9 (C.rt t) d'<;>rfl
         | _=>rfl
def mE(C:bX)(ops:Array Oper)(o:Oper)(e:Env):Option Bool:=
 match o.guard with
 | none=>some true
 | some (j,want)=>match (ops[j]?).bind (·.dst)with
   | none=>none
   | some d=>match C.loc d,e d with
     | false,.val (.bool t)=>some (t==want)
     | false,.val (.tuple _)=>some false
     | _,_=>none
def qw(C:bX)(ops:Array Oper)(o:Oper)(e:Env):PT:=λh K=>
 match mE C ops o e with
 | some true=>Zh C o e h K
 | some false=>yF C o.dst h K
 | none=>False
def Q8{ops:Array Oper}{i:Nat}{r:List Nat}{K:Env->Hp->Prop}{e:Env}{h:Hp}{o:Oper}(hi:ops[i]?=some o) :
 Vp C ops K (i :: r) e h↔qw C ops o e h λu h'=>Vp C ops K r (e.cJ C.rt u) h':=by
 conv=>lhs;unfold Vp
 rw[hi];unfold qw mE;simp only;cases hg:o.guard with
 | none=>exact Iff.rfl
 | some g=>
   obtain⟨j,want⟩:=g;simp only;cases hd:(ops[j]?).bind (·.dst)with
   | none=>exact Iff.rfl
   | some d=>
     simp only;cases hl:C.loc d with
     | true=>
       cases he:e d with
       | val v=>cases v<;>exact Iff.rfl
       | _=>exact Iff.rfl
     | false=>
       cases he:e d with
       | val v=>
         cases v with
         | bool t=>
           have fL:e.set d (.val (.bool t))=e:=by
            funext x;by_cases hx:x=d;subst hx;rw[Env.aK,he];rw[Env.aN hx]
           cases t<;>cases want<;>simp only[ak]<;>rw[fL]<;>exact Iff.rfl
         | _=>exact Iff.rfl
       | _=>exact Iff.rfl
def Z2a{ops:Array Oper}{o:Oper}{e e':Env}(H:∀d∈zw3 ops o,e d=e' d):mE C ops o e=mE C ops o e':=by
 unfold mE;unfold zw3 at H;cases hg:o.guard with
 | none=>rfl
 | some g=>
   obtain⟨j,want⟩:=g;rw[hg]at H;simp only at H |-
   cases hd:(ops[j]?).bind (·.dst)with
   | none=>rfl
   | some d=>
     rw[hd]at H;simp only at H |-
     rw[H d zS]
def Z1l{ops:Array Oper}{o:Oper}{e e':Env}(iR:nT o=false)(H:∀t∈uJ C ops o,e t=e' t):qw C ops o e=qw C ops o e':=by
 have h1:mE C ops o e=mE C ops o e':=Z2a λd hd=>H d (by simp[uJ,hd])
 have h2:Zh C o e=Zh C o e':=zg2 iR λx hx t ht=>by
  subst ht;have hr:∀s∈tB C (.tmp t),s∈uJ C ops o:=λs hs=>by
   unfold uJ;exact Jv _ (Jv _ (List.mem_flatMap.2 ⟨_,hx,hs⟩))
  exact⟨H _ (hr _ (by simp[tB])),H _ (hr _ (by simp[tB]))⟩
 funext h K;unfold qw;rw[h1,h2]
def Zb3{h:Hp}(hf:h.Fin):∃w:World,Sub h w:=by
 obtain⟨n,hn⟩:=hf;refine⟨{ (default:World)with heap:=Array.ofFn (n:=n) λi=>match h i.1 with | some b=>.cells b.cells.toArray b.elem b.fz | none=>.deferred none },λk b hk=>?_⟩;have uO:k<n:=by
  rcases Jx k n with h1 | h1
  exact h1;rw[hn k h1]at hk;cases hk
 simp only[Array.getElem?_ofFn,uO,dite_true,hk]
def Z9i{e:Env}:∀{xs:List Operand} {K:List Value->Prop},kF e xs K->∃vs,K vs/\∀K':List Value->Prop,K' vs->kF e xs K'
 | [],K,h=>⟨[],h,λ_ h=>h⟩
 | x :: r,K,h=>by
   unfold kF at h;have key:∀K1:Value->Prop,cZ e x K1->∃v,K1 v/\∀K2:Value->Prop,K2 v->cZ e x K2:=λK1 h1=>by
    unfold cZ at h1 |-
    split at h1;exact⟨_,h1,λ_ h=>h⟩;exact⟨_,h1,λ_ h=>h⟩;exact⟨_,h1,λ_ h=>h⟩
    . split at h1;exact⟨_,h1,λ_ h=>h⟩;exact h1.elim
   obtain⟨v,h1,h2⟩:=key _ h;obtain⟨vs,h3,h4⟩:=Z9i h1;exact⟨v :: vs,h3,λK' hk=>by unfold kF;exact h2 _ (h4 _ hk)⟩
def Zde(hC:tF C C.fH){o:Oper}{e:Env}(hc:eD C o=.call){h:Hp}{K:Up->Hp->Prop}(dY:h.Fin)(hk:Zh C o e h K):∃u h',K u h':=by
 obtain⟨c,f,ho,gJ,hf⟩:=Z8h hc;have key:∀(g:FuncId) (first cap:Array Value),(kF e c.args.toList λvs=>C.f g (first.toList++vs++cap.toList) (λr h'=>qm C o.dst r h' K) h)->∃u h',K u h':=by
  intro g first cap hk
  obtain⟨vs,hk,_⟩:=Z9i hk;rcases hC.get g with ⟨hf,_⟩ | cW
  . obtain⟨w,hs⟩:=Zb3 dY;obtain⟨_,_,_,⟨v,h',_,hv,_⟩,_⟩:=hf.2 _ _ _ w hs hk [];have hp:zu (Wg C o) λh K=>qm C o.dst v h K:=yk zz
    obtain⟨p,_,h2⟩:=hp;obtain⟨u,_,hu⟩:=(h2 _ _).1 hv;exact⟨u,h',hu⟩
  exact(cW _ _ _ hk).elim
 unfold Zh at hk;rcases hf with ⟨g,rfl,hm⟩ | ⟨t,rfl,hm⟩
 . simp only[ho,gJ,cZ]at hk;exact key g #[] #[] hk
 . simp only[ho,gJ,cZ]at hk;cases het:e t with
   | val v=>
     rw[het]at hk;simp only at hk;cases v with
     | func fr first cap=>
       cases fr with
       | func g=>exact key g first cap hk
       | _=>exact hk.elim
     | _=>exact hk.elim
   | _=>rw[het]at hk;exact hk.elim
def zug{Mx My:Up->Prop}{Tx Ty:PT}(hx:zu Mx Tx)(hy:Zo My Ty){h:Hp}{F:Up->Up->Hp->Prop}
 (hk:Tx h λu1 h1=>Ty h1 λu2 h2=>F u1 u2 h2):Ty h λu2 h2=>Tx h2 λu1 h1=>F u1 u2 h1:=by
 obtain⟨p,_,h2⟩:=hx;obtain⟨u1,hp,hF⟩:=(h2 _ _).1 hk;exact hy _ _ _ (λu h' _ hh=>(h2 _ _).2 ⟨u1,hp,hh⟩) hF
def Zc8{Mx My:Up->Prop}{Tx Ty:PT}(hx:Qe Mx Tx)(hy:Zo My Ty)(hg:tH Ty){h:Hp}{F:Up->Up->Hp->Prop}
 (hk:Tx h λu1 h1=>Ty h1 λu2 h2=>F u1 u2 h2):Ty h λu2 h2=>Tx h2 λu1 h1=>F u1 u2 h1:=by
 obtain⟨p,_,hm,h2⟩:=hx;obtain⟨u1,hp,hF⟩:=(h2 _ _).1 hk;exact hy _ _ _ (λu h' _ hh=>(h2 _ _).2 ⟨u1,hm _ _ _ hp hh.2,hh.1⟩) (hg _ _ hF)
def Zak{α:Type}{G:(α->Hp->Prop)->Hp->Prop}{K:α->Hp->Prop}{h:Hp}{b:Nat}{x:qT}(hb:h b=none)
 (hc:za G (λr h1=>h1 b=none->K r (h1.ins b x)) h):za G K (h.ins b x):=by
 obtain⟨D,O,Q,h1,h2,h3,h4⟩:=hc;subst h2;rw[Hp.fF]at hb;refine⟨D,O.ins b x,Q,Hp.EO h1 hb.1,Hp.si hb.1,h3,λv D' hQ=>⟨(h4 v D' hQ).1,λhd dY=>?_⟩⟩;have hdb:D' b=none:=by
  rcases hd b with h5 | h5
  exact h5;rw[Hp.cD]at h5;cases h5
 have CW:D'.dj O:=λj=>by
  by_cases hj:j=b;subst hj;exact .inl hdb;have:=hd j;rw[Hp.cl hj]at this;exact this
 have:=(h4 v D' hQ).2 CW (dY.sub λk hk=>by
  rw[Hp.fF]at hk |-
  refine⟨hk.1,?_⟩;by_cases dH:k=b;subst dH;exact hb.2;rw[Hp.cl dH]at hk;exact hk.2) (Hp.fF.2 ⟨hdb,hb.2⟩)
 rw[Hp.si hdb]at this;exact this
def Zc7{Mx My:Up->Prop}{Tx Ty:PT}(hx:Vr Mx Tx)(hy:yM My Ty){h:Hp}(aan:∀K,Tx h K->∃u h',K u h'){F:Up->Up->Hp->Prop}
 (hk:Tx h λu1 h1=>Ty h1 λu2 h2=>F u1 u2 h2):Ty h λu2 h2=>Tx h2 λu1 h1=>F u1 u2 h1:=by
 obtain⟨α,G,q,_,hG⟩:=hx;obtain⟨P0,c,f,q2,_,_,hN⟩:=hy;obtain⟨u0,h0,jS⟩:=aan _ hk;have nz:=((hN _ _).1 jS).1;rcases hG with hG | hG
 . refine(hN _ _).2 ⟨nz,λb el yO hb=>(hG _ _).2 ?_⟩;have h1:=(hG _ _).1 hk;refine Zak (x:=⟨c,el,(0,0)⟩) hb (Ff ?_ h1);rintro r h' ⟨u,hq,hT⟩ _ _ uP;exact⟨u,hq,((hN _ _).1 hT).2 b el yO uP⟩
 exact(hG _ _ hk).elim
def Zl5{Mx My:Up->Prop}{Tx Ty:PT}(hx:yM Mx Tx)(hy:yM My Ty){h:Hp}(dY:h.Fin){F:Up->Up->Hp->Prop}
 (hk:Tx h λu1 h1=>Ty h1 λu2 h2=>F u1 u2 h2):Ty h λu2 h2=>Tx h2 λu1 h1=>F u1 u2 h1:=by
 obtain⟨P1,c1,f1,q1,⟨e1,NU⟩,_,h1⟩:=hx;obtain⟨P2,c2,f2,q2,_,_,h2⟩:=hy;obtain⟨uQ,cy⟩:=(h1 _ _).1 hk;obtain⟨b0,hb0⟩:=dY.fresh;have pU:=((h2 _ _).1 (cy b0 e1 NU hb0)).1;refine(h2 _ _).2 ⟨pU,λb2 JD g2 je=>(h1 _ _).2 ⟨uQ,λb1 el1 g1 sk=>?_⟩⟩;have cd:b1≠b2:=λhh=>by subst hh;rw[Hp.cD]at sk;cases sk
 rw[Hp.cl cd]at sk;have:=((h2 _ _).1 (cy b1 el1 g1 sk)).2 b2 JD g2 (by rw[Hp.cl (Ne.symm cd)];exact je);rw[Hp.vx (Ne.symm cd)];exact this
structure dK(C:bX):Prop where
 fH:tF C C.fH
 mono:∀g args K K' h,(∀v h,K v h->K' v h)->C.f g args K h->C.f g args K' h
def N2{o:Oper}:zu (Wg C o) λh K=>yF C o.dst h K:=Zk6 zz
def Yx(hC:dK C){ops:Array Oper}{o:Oper}{e:Env}:Zo (Wg C o) (qw C ops o e):=by
 unfold qw;cases mE C ops o e with
 | none=>exact zl
 | some b=>
   cases b;exact N2.mono;exact Z3p hC.fH hC.mono
def zue(hC:dK C){ops:Array Oper}{ox oy:Oper}{e:Env}(hs:EW C ox oy=true){h:Hp}(dY:h.Fin){F:Up->Up->Hp->Prop}
 (hk:qw C ops ox e h λu1 h1=>qw C ops oy e h1 λu2 h2=>F u1 u2 h2) :
 qw C ops oy e h λu2 h2=>qw C ops ox e h2 λu1 h1=>F u1 u2 h1:=by
 cases JP:mE C ops ox e with
 | none=>unfold qw at hk;rw[JP]at hk;exact hk.elim
 | some bx=>
   cases bx with
   | false=>
     have ex:qw C ops ox e=λh K=>yF C ox.dst h K:=by funext h K;unfold qw;rw[JP]
     have hp:zu (Wg C ox) (qw C ops ox e):=by rw[ex];exact N2
     exact zug hp (Yx hC) hk
   | true=>
     have N3:qw C ops ox e=λh K=>Zh C ox e h K:=by funext h K;unfold qw;rw[JP]
     have same:zia ox.guard oy.guard=true->mE C ops oy e=some true:=λhg=>by
      unfold zia at hg;cases hgy:oy.guard with
      | none=>unfold mE;rw[hgy]
      | some gy=>
        cases hgx:ox.guard with
        | none=>rw[hgx,hgy]at hg;cases hg
        | some gx=>
          rw[hgx,hgy]at hg;obtain⟨i,a⟩:=gx;obtain⟨j,b⟩:=gy;simp only[Uh]at hg;have nA:=Ut hg.1;have tI:a=b:=by have:=hg.2;cases a<;>cases b<;>simp_all
          subst nA tI;unfold mE at JP |-
          rw[hgx]at JP;rw[hgy];exact JP
     unfold EW at hs;cases uR:eD C ox with
     | pure=>exact zug (by rw[N3];exact JK uR) (Yx hC) hk
     | load=>
       rw[uR]at hs;refine Zc8 (by rw[N3];exact JN uR) (Yx hC) ?_ hk;unfold qw;cases mE C ops oy e with
       | none=>exact qb
       | some b=>
         cases b with
         | false=>exact(N2 (o:=oy)).grow
         | true=>
           simp only;cases tJ:eD C oy with
           | pure=>exact(JK tJ).grow
           | load=>exact(JN tJ).grow
           | call=>exact(zhj hC.fH tJ).grow
           | new=>exact Zjs tJ
           | other=>rw[tJ]at hs;cases hs
     | call=>
       rw[uR]at hs;cases tJ:eD C oy with
       | new=>
         rw[tJ]at hs;have hwy:=same hs;have ey:qw C ops oy e=λh K=>Zh C oy e h K:=by funext h K;unfold qw;rw[hwy]
         exact Zc7 (by rw[N3];exact zhj hC.fH uR) (by rw[ey];exact zkz tJ) (λK hh=>by rw[N3]at hh;exact Zde hC.fH uR dY hh) hk
       | _=>rw[tJ]at hs;cases hs
     | new=>
       rw[uR]at hs;cases tJ:eD C oy with
       | new=>
         rw[tJ]at hs;have hwy:=same hs;have ey:qw C ops oy e=λh K=>Zh C oy e h K:=by funext h K;unfold qw;rw[hwy]
         exact Zl5 (by rw[N3];exact zkz uR) (by rw[ey];exact zkz tJ) dY hk
       | _=>rw[tJ]at hs;cases hs
     | other=>rw[uR]at hs;cases hs
def JQ{ops:Array Oper}{ox oy:Oper}{e:Env}{u:Up}(iR:nT oy=false)(hu:Wg C ox u)(hd:kG (Yf C ox) (tC C ops oy)=true) :
 qw C ops oy (e.cJ C.rt u)=qw C ops oy e:=by
 rw[JO]at hd;refine Z1l iR λt ht=>N1 (λd jF hh=>?_) (λd jF hh=>?_)
 exact hd d (hu.1 d jF) (by rw[<-hh];exact Jv _ ht);exact hd d (hu.1 d jF) (by rw[<-hh];exact List.mem_append_right _ (List.mem_map.2 ⟨t,ht,rfl⟩))
def N4{ops:Array Oper}{ox oy:Oper}{e:Env}{u v:Up}(hu:Wg C ox u)(hv:Wg C oy v)(h1:kG (Yf C ox) (tC C ops oy)=true)
 (h2:kG (Yf C oy) (tC C ops ox)=true) (h3:kG (Yf C ox) (Yf C oy)=true):(e.cJ C.rt u).cJ C.rt v=(e.cJ C.rt v).cJ C.rt u:=by
 rw[JO]at h1 h2 h3;have root:∀(o:Oper) (u:Up),Wg C o u->∀d off,u=.set d (.ref off)->C.rt d∈tC C ops o:=λo u hu d off hh=>by
  refine Jv _ ?_;unfold uJ;rw[hu.2.1 d off hh];simp
 refine Znc (λd d' hd de hh=>?_) (λd off hh d' de hr=>?_) (λd off hh d' de hr=>?_) hu.2.2 hv.2.2;subst hh;exact h3 d (hu.1 d hd) (hv.1 d de);exact h2 d' (hv.1 d' de) (by rw[<-hr];exact root ox u hu d off hh);exact h1 d' (hu.1 d' de) (by rw[<-hr];exact root oy v hv d off hh)
def Zax(hC:dK C){ops:Array Oper}{K:Env->Hp->Prop}{x y:Nat}{r:List Nat}{e:Env}{h:Hp}(dY:h.Fin)(hs:tD C ops x y=true)
 (hk:Vp C ops K (x :: y :: r) e h):Vp C ops K (y :: x :: r) e h:=by
 unfold tD at hs;split at hs
 . rename_i ox oy hx hy;simp only[Uh]at hs;obtain⟨⟨⟨⟨⟨hc,CX⟩,uM⟩,h1⟩,h2⟩,h3⟩:=hs;have CX:nT ox=false:=by simpa using CX
   have uM:nT oy=false:=by simpa using uM
   rw[Q8 hx]at hk;rw[Q8 hy];have k1:qw C ops ox e h λu1 h1=>qw C ops oy e h1 λu2 h2=>Wg C ox u1/\Wg C oy u2/\Vp C ops K r ((e.cJ C.rt u1).cJ C.rt u2) h2:=by
    refine Yx hC _ _ _ (λu1 h' kR cy=>?_) hk;rw[Q8 hy,JQ uM kR h1]at cy;exact Yx hC _ _ _ (λu2 kP dr aG=>⟨kR,dr,aG⟩) cy
   refine Yx hC _ _ _ (λu2 h' dr aG=>?_) (zue hC hc dY k1);rw[Q8 hx,JQ CX dr h2];refine Yx hC _ _ _ (λu1 kP kR cw=>?_) aG;rw[<-N4 kR dr h1 h2 h3];exact cw.2.2
 cases hs
def zm0(hC:dK C){ops:Array Oper}{K K':Env->Hp->Prop}(hK:∀e h,K e h->K' e h):∀{l:List Nat} {e:Env} {h:Hp},Vp C ops K l e h->Vp C ops K' l e h
 | [],e,h,hk=>hK e h hk
 | i :: r,e,h,hk=>by
   cases hi:ops[i]? with
   | none=>unfold Vp at hk;rw[hi]at hk;exact hk.elim
   | some o=>
     rw[Q8 hi]at hk |-
     exact Yx hC _ _ _ (λu h' _ hh=>zm0 hC hK hh) hk
def Zl3(hC:dK C){ops:Array Oper}{ox oy:Oper}{e:Env}(hs:EW C ox oy=true):JM (qw C ops ox e):=by
 unfold qw;cases mE C ops ox e with
 | none=>exact Zb2
 | some b=>
   cases b with
   | false=>exact(N2 (o:=ox)).fin
   | true=>
     simp only;unfold EW at hs;cases hc:eD C ox with
     | pure=>exact(JK hc).fin
     | load=>exact(JN hc).fin
     | call=>exact(zhj hC.fH hc).fin
     | new=>exact(zkz hc).fin
     | other=>rw[hc]at hs;cases hs
def zg6(hC:dK C){ops:Array Oper}{K:Env->Hp->Prop}{y:Nat}{r:List Nat}:∀{p:List Nat} {e:Env} {h:Hp},h.Fin->(∀x∈p,tD C ops x y=true) ->
 Vp C ops K (p++y :: r) e h->Vp C ops K (y :: (p++r)) e h
 | [],e,h,_,_,hk=>hk
 | x :: p,e,h,dY,hp,hk=>by
   have hs:=hp x zS;have h1:Vp C ops K (x :: (y :: (p++r))) e h:=by
    cases hx:ops[x]? with
    | none=>unfold tD at hs;rw[hx]at hs;cases hs
    | some ox=>
      rw[List.cons_append,Q8 hx]at hk;rw[Q8 hx];have jf:∃oy,EW C ox oy=true:=by
       unfold tD at hs;rw[hx]at hs;split at hs
       . rename_i o1 o2 h1 h2;cases h1;simp only[Uh]at hs;exact⟨o2,hs.1.1.1.1.1⟩
       cases hs
      obtain⟨oy,jf⟩:=jf;refine Yx hC _ _ _ (λu h' _ hh=>?_) (Zl3 hC jf _ _ dY hk);exact zg6 hC hh.2 (λz hz=>hp z (by simp[hz])) hh.1
   exact Zax hC dY hs h1
end
end Den
end
