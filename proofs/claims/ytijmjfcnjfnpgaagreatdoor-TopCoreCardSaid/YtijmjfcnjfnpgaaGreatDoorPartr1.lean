/-
  Part 1 of the tools and contracts from which the statement is proved.
-/
import Derived.Calls
import Derived.Orders
import Derived.OrdersIn
import Derived.ControlIn
import Derived.RangeFuncIn
import Derived.KernelRfl
import Derived.Laws.Tables
import Derived.WalkKit
import Derived.Laws.IdiomStrings
set_option linter.all false
open Go.IntKind
open Nat renaming le_refl→Ja,mul_le_mul_right→Jj,lt_or_ge→Jo,le_trans→Jt,mul_assoc→J4,le_of_ble_eq_true→Ui,eq_of_beq_eq_true→Um,zero_add→Gi,beq→Gv,blt→T5
open Go.Result renaming andThen_ok→Jb
open Go.Sem renaming run_bind→Jg,run_pure→Ji
open Option.some renaming injEq→Jm,inj→J9
open List renaming eq_nil_of_length_eq_zero→Jn,range→Jp,mem_append_left→Jq,replicate→Jr,getElem?_append_left→Uh,drop_eq_getElem_cons→Ux,map_cons→U3,getElem?_cons_zero→Gw,getElem?_cons_succ→T4,getElem?_toArray→Pu
open Bool renaming and_eq_true→Jv,false_eq_true→J0
open Go.Builtin renaming firstCells→Ue,append_→Tv,nextslicecap→Le
open Option renaming map_some→U0,isSome_iff_exists→G8,map_none→Lm
open Go.Value renaming int→Ge,bool→T6
open Array renaming toList_inj→Gf,getElem?_eq_none→Tg,getElem?_toList→Tl,length_toList→Pa
open Go.IntKind renaming signed→G0,bits→G6
open Go.Question renaming appendCap→Tj
open Go.Region renaming binds→Tm
open Iff renaming rfl→Pc
open Go.Instr renaming sliceBounds→Pm,sureAddr→P4
open Go.Op renaming equalIn→Ll
section
namespace Den
abbrev zL0:ByteArray:=⟨#[9,9,9,9,9,9,9,9,9,9,9,9,9,9,9,9,9,9,9,9,9,9,9,9,9,9,9,9,9,9,9,9,9,9,9,9,9,9,9,9,9,9,9,9,9,9,9,9,9,9,9,9,9,9,9,9,9,9,9,9,9,9,9,9]⟩
abbrev zL1:ByteArray:=⟨#[48,48,48,49,48,50,48,51,48,52,48,53,48,54,48,55,48,56,48,57,49,48,49,49,49,50,49,51,49,52,49,53,49,54,49,55,49,56,49,57,50,48,50,49,50,50,50,51,50,52,50,53,50,54,50,55,50,56,50,57,51,48,51,49,51,50,51,51,51,52,51,53,51,54,51,55,51,56,51,57,52,48,52,49,52,50,52,51,52,52,52,53,52,54,52,55,52,56,52,57,53,48,53,49,53,50,53,51,53,52,53,53,53,54,53,55,53,56,53,57,54,48,54,49,54,50,54,51,54,52,54,53,54,54,54,55,54,56,54,57,55,48,55,49,55,50,55,51,55,52,55,53,55,54,55,55,55,56,55,57,56,48,56,49,56,50,56,51,56,52,56,53,56,54,56,55,56,56,56,57,57,48,57,49,57,50,57,51,57,52,57,53,57,54,57,55,57,56,57,57]⟩
abbrev zL2:ByteArray:=⟨#[61,61,61,61,61,61,61,61,61,61,61,61,61,61,61,61,61,61,61,61,61,61,61,61,61,61,61,61,61,61,61,61,61,61,61,61,61,61,61,61,61,61,61,61,61,61,61,61,61,61,61,61,61,61,61,61,61,61,61,61,61,61,61,61,61,61,61,61,61,61,61,61,61,61,61,61,61,61,61,61,61,61,61,61,61,61,61,61,61,61,61,61,61,61,61,61,61,61,61,61,61,61,61,61,61,61,61,61,61,61,61,61,61,61,61,61,61,61,61,61,61,61,61,61,61,61,61,61]⟩
abbrev zL3:ByteArray:=⟨#[48,48,48,48,48,48,48,48,48,48,48,48,48,48,48,48,48,48,48,48,48,48,48,48,48,48,48,48,48,48,48,48,48,48,48,48,48,48,48,48,48,48,48,48,48,48,48,48,48,48,48,48,48,48,48,48,48,48,48,48,48,48,48,48]⟩
abbrev zL4:ByteArray:=⟨#[0,1,2,2,3,3,3,3,4,4,4,4,4,4,4,4,5,5,5,5,5,5,5,5,5,5,5,5,5,5,5,5,6,6,6,6,6,6,6,6,6,6,6,6,6,6,6,6,6,6,6,6,6,6,6,6,6,6,6,6,6,6,6,6,7,7,7,7,7,7,7,7,7,7,7,7,7,7,7,7,7,7,7,7,7,7,7,7,7,7,7,7,7,7,7,7,7,7,7,7,7,7,7,7,7,7,7,7,7,7,7,7,7,7,7,7,7,7,7,7,7,7,7,7,7,7,7,7,8,8,8,8,8,8,8,8,8,8,8,8,8,8,8,8,8,8,8,8,8,8,8,8,8,8,8,8,8,8,8,8,8,8,8,8,8,8,8,8,8,8,8,8,8,8,8,8,8,8,8,8,8,8,8,8,8,8,8,8,8,8,8,8,8,8,8,8,8,8,8,8,8,8,8,8,8,8,8,8,8,8,8,8,8,8,8,8,8,8,8,8,8,8,8,8,8,8,8,8,8,8,8,8,8,8,8,8,8,8,8,8,8,8,8,8,8,8,8,8,8,8,8,8,8,8,8,8]⟩
abbrev zL5:ByteArray:=⟨#[45,45,45,45,45,45,45,45,45,45,45,45,45,45,45,45,45,45,45,45,45,45,45,45,45,45,45,45,45,45,45,45,45,45,45,45,45,45,45,45,45,45,45,45,45,45,45,45,45,45,45,45,45,45,45,45,45,45,45,45,45,45,45,45,45,45,45,45,45,45,45,45,45,45,45,45,45,45,45,45,45,45,45,45,45,45,45,45,45,45,45,45,45,45,45,45,45,45,45,45,45,45,45,45,45,45,45,45,45,45,45,45,45,45,45,45,45,45,45,45,45,45,45,45,45,45,45,45]⟩
abbrev zL6:ByteArray:=⟨#[48,49,50,51,52,53,54,55,56,57,97,98,99,100,101,102,103,104,105,106,107,108,109,110,111,112,113,114,115,116,117,118,119,120,121,122]⟩
abbrev zL7:ByteArray:=⟨#[32,32,32,32,32,32,32,32,32,32,32,32,32,32,32,32,32,32,32,32,32,32,32,32,32,32,32,32,32,32,32,32,32,32,32,32,32,32,32,32,32,32,32,32,32,32,32,32,32,32,32,32,32,32,32,32,32,32,32,32,32,32,32,32,32,32,32,32,32,32,32,32,32,32,32,32,32,32,32,32,32,32,32,32,32,32,32,32,32,32,32,32,32,32,32,32,32,32,32,32,32,32,32,32,32,32,32,32,32,32,32,32,32,32,32,32,32,32,32,32,32,32,32,32,32,32,32,32]⟩
end Den
namespace Den
open Go
structure Blk where
 cells:List Value
 elem:TypeId
 fz:Nat×Nat
abbrev Hp:=Nat->Option Blk
structure Sl where
 a:Option Addr
 len:Nat
 cap:Nat
inductive Lf where
 | int (k:IntKind) | bool | str | sl | ptr | val
abbrev Lf.T:Lf->Type
 | .int _=>Int
 | .bool=>Bool
 | .str=>ByteArray
 | .sl=>Sl
 | .ptr=>Option Addr
 | .val=>Value
def Lf.up:(l:Lf)->l.T->Value
 | .int k,n=>.int k n
 | .bool,b=>.bool b
 | .str,s=>.string s
 | .sl,s=>.slice s.a s.len s.cap
 | .ptr,p=>.pointer p
 | .val,v=>v
def z16(k k':IntKind)(p:Prop):Prop:=match decide (k=k')with | true=>p | false=>False
def Lf.dn:(l:Lf)->Value->(l.T->Prop)->Prop
 | .int k,.int k' n,K=>z16 k k' (K n)
 | .bool,.bool b,K=>K b
 | .str,.string s,K=>K s
 | .sl,.slice a l c,K=>K ⟨a,l,c⟩
 | .ptr,.pointer p,K=>K p
 | .val,v,K=>K v
 | _,_,_=>False
theorem Qd{k k':IntKind}{p:Prop}:z16 k k' p↔k=k'/\p:=by
 unfold z16;by_cases h:k=k'<;>simp[h]
theorem Lf.dn_iff{l:Lf}{v:Value}{K:l.T->Prop}:l.dn v K↔∃x,v=l.up x/\K x:=by
 cases l<;>cases v<;>simp[Lf.dn,Lf.up,Qd]
 case int.int k k' n=>exact⟨λ⟨h,hk⟩=>⟨n,⟨h.symm,rfl⟩,hk⟩,λ⟨x,⟨h,hx⟩,hk⟩=>⟨h.symm,hx▸hk⟩⟩
 case sl.slice a l c=>exact⟨λh=>⟨⟨a,l,c⟩,⟨rfl,rfl,rfl⟩,h⟩,λ⟨⟨a',l',c'⟩,⟨h1,h2,h3⟩,h⟩=>by subst h1 h2 h3;exact h⟩
namespace Hp
def le(h h':Hp):Prop:=∀k b,h k=some b->h' k=some b
def cell(h:Hp)(a:Addr):Option Value:=
 match a.spot with
 | none=>(match h a.block with | some b=>b.cells[a.off]? | none=>none)
 | some _=>none
def add(h g:Hp):Hp:=λk=>match h k with | some b=>some b | none=>g k
def dj(h g:Hp):Prop:=∀k,h k=none\/g k=none
def ins(h:Hp)(k:Nat)(b:Blk):Hp:=λj=>if j=k then some b else h j
def emp:Hp:=λ_=>none
theorem le_refl(h:Hp):h.le h:=λ_ _ e=>e
theorem le_trans{a b c:Hp}(h:a.le b)(h':b.le c):a.le c:=λk x e=>h' k x (h k x e)
theorem le_add(h g:Hp):h.le (h.add g):=λk b e=>by simp[add,e]
theorem le_add_right{h g:Hp}(hd:h.dj g):g.le (h.add g):=λk b e=>by
 rcases hd k with h1 | h1
 . simp[add,h1,e]
 . rw[h1]at e;cases e
theorem add_mono{a b g:Hp}(h:a.le b)(hd:b.dj g):(a.add g).le (b.add g):=by
 intro k x e;unfold add at *;cases ha:a k with
 | some y=>rw[ha]at e;simp only at e;rw[h k y ha];exact e
 | none=>
   rw[ha]at e;simp only at e;rcases hd k with h1 | h1
   . rw[h1];exact e
   . rw[h1]at e;cases e
theorem add_emp(h:Hp):h.add emp=h:=by funext k;unfold add emp;cases h k<;>rfl
theorem dj_emp(h:Hp):h.dj emp:=λ_=>.inr rfl
theorem ins_same(h:Hp)(k:Nat)(b:Blk):h.ins k b k=some b:=by simp[ins]
theorem ins_ne{h:Hp}{k j:Nat}{b:Blk}(e:j≠k):h.ins k b j=h j:=by simp[ins,e]
theorem le_ins{h:Hp}{k:Nat}{b:Blk}(e:h k=none):h.le (h.ins k b):=λj x hx=>by
 by_cases hj:j=k
 . subst hj;rw[e]at hx;cases hx
 . rw[ins_ne hj];exact hx
theorem add_ins{h g:Hp}{k:Nat}{b:Blk}(e:h k=none):(h.add g).ins k b=h.add (g.ins k b):=by
 funext j;unfold ins add;by_cases hj:j=k
 . subst hj;simp[e]
 . simp[hj]
theorem ins_ins{h:Hp}{k:Nat}{b c:Blk}:(h.ins k b).ins k c=h.ins k c:=by
 funext j;unfold ins;by_cases hj:j=k<;>simp[hj]
theorem ins_comm{h:Hp}{k j:Nat}{b c:Blk}(e:k≠j):(h.ins k b).ins j c=(h.ins j c).ins k b:=by
 funext i;unfold ins;by_cases h1:i=j
 . subst h1;have:i≠k:=λh=>e h.symm;simp[this]
 . simp[h1]
theorem dj_ins{h g:Hp}{k:Nat}{b:Blk}(hd:h.dj g)(e:h k=none):h.dj (g.ins k b):=λj=>by
 by_cases hj:j=k
 . subst hj;exact .inl e
 . rw[ins_ne hj];exact hd j
theorem add_none{h g:Hp}{k:Nat}:(h.add g) k=none↔h k=none/\g k=none:=by
 unfold add;cases h k<;>simp
def Fin(h:Hp):Prop:=∃n,∀k,n<=k->h k=none
theorem Fin.ins{h:Hp}(hf:h.Fin){k:Nat}{b:Blk}:(h.ins k b).Fin:=by
 obtain⟨n,hn⟩:=hf;refine⟨n+k+1,λj hj=>?_⟩;rw[ins_ne (by omega)];exact hn j (by omega)
theorem Fin.fresh{h:Hp}(hf:h.Fin):∃b,h b=none:=by
 obtain⟨n,hn⟩:=hf;exact⟨n,hn n (Ja _)⟩
theorem Fin.sub{h h':Hp}(hf:h'.Fin)(H:∀k,h' k=none->h k=none):h.Fin:=by
 obtain⟨n,hn⟩:=hf;exact⟨n,λk hk=>H k (hn k hk)⟩
theorem cell_le{h h':Hp}(hl:h.le h'){a:Addr}{v:Value}(e:h.cell a=some v):h'.cell a=some v:=by
 unfold cell at *;cases hs:a.spot with
 | some x=>rw[hs]at e;cases e
 | none=>
   rw[hs]at e;simp only at e |-
   cases hb:h a.block with
   | none=>rw[hb]at e;cases e
   | some b=>rw[hb]at e;rw[hl _ _ hb];exact e
end Hp
def Z3(h:Hp)(a:Addr):Nat->Option (List Value)
 | 0=>some []
 | n+1=>match Z3 h a n with
   | some l=>(match h.cell (a.add n)with | some v=>some (l++[v]) | none=>none)
   | none=>none
def yc(h:Hp)(a:Option Addr)(n:Nat):Option (List Value):=
 match a with
 | some a=>Z3 h a n
 | none=>if n=0 then some []else none
theorem zjo{h h':Hp}(hl:h.le h'){a:Addr}:∀{n:Nat} {l:List Value},Z3 h a n=some l->Z3 h' a n=some l
 | 0,_,e=>e
 | n+1,l,e=>by
   unfold Z3 at *;cases h1:Z3 h a n with
   | none=>rw[h1]at e;cases e
   | some l1=>
     rw[h1]at e;rw[zjo hl h1];simp only at e |-
     cases h2:h.cell (a.add n)with
     | none=>rw[h2]at e;cases e
     | some v=>rw[h2]at e;rw[Hp.cell_le hl h2];exact e
theorem zbq{h h':Hp}(hl:h.le h'){a:Option Addr}{n:Nat}{l:List Value}(e:yc h a n=some l):yc h' a n=some l:=by
 cases a with
 | none=>exact e
 | some a=>exact zjo hl e
def Zc(cs:List Value)(off:Nat)(vs:List Value):List Value:=cs.take off++vs++cs.drop (off+vs.length)
def yn(n:Nat)(zero:List Value):List Value:=(Jr n zero).flatten
def Sl.cut(s:Sl)(l h size:Nat):Sl:=⟨if s.cap=l then s.a else s.a.map (·.add (l*size)),h-l,s.cap-l⟩
def qu(op:BinOp)(k:IntKind)(x y:Int):Int:=
 let a:=BitVec.ofInt k.bits x
 let b:=BitVec.ofInt k.bits y
 match op with
 | .and=>k.wrap (a &&& b).toNat
 | .or=>k.wrap (a ||| b).toNat
 | .xor=>k.wrap (a ^^^ b).toNat
 | _=>k.wrap (a &&& ~~~b).toNat
def zwq:List (Int×Bool)->Int->Bool
 | [],_=>false
 | p :: r,k=>bif decide (k=p.1)then p.2 else zwq r k
def zpq:List (Int×Bool)->Int->Bool->List (Int×Bool)
 | [],k,v=>[(k,v)]
 | p :: r,k,v=>bif decide (k=p.1)then (k,v) :: r else p :: zpq r k v
def ifP(t:Bool)(A B:Prop):Prop:=match t with | true=>A | false=>B
theorem zi{t:Bool}{A B:Prop}(ha:t=true->A)(hb:t=false->B):ifP t A B:=by
 cases t
 . exact hb rfl
 . exact ha rfl
def ldL(l:Lf)(a:Addr)(K:l.T->Prop)(h:Hp):Prop:=∃x:l.T,h.cell a=some (l.up x)/\K x
def Ye(p:Option Addr)(K:Addr->Prop):Prop:=match p with | some a=>K a | none=>False
def zg(x:Sl)(i:Int)(size:Nat)(K:Addr->Prop):Prop:=0<=i/\i<x.len/\Ye x.a λa=>K (a.add (i.toNat*size))
def slP(x:Sl)(lo hi:Int)(size:Nat)(K:Sl->Prop):Prop:=0<=lo/\lo<=hi/\hi<=x.cap/\K (x.cut lo.toNat hi.toNat size)
def Zep(x:Sl)(lo hi mx:Int)(size:Nat)(K:Sl->Prop):Prop:=0<=lo/\lo<=hi/\hi<=mx/\mx<=x.cap/\K (Sl.cut ⟨x.a,x.len,mx.toNat⟩ lo.toNat hi.toNat size)
def qy(s:ByteArray)(i:Int)(K:Int->Prop):Prop:=0<=i/\∃b,s[i.toNat]?=some b/\K (b.toNat:Int)
def Yv(s:ByteArray)(lo hi:Int)(K:ByteArray->Prop):Prop:=0<=lo/\lo<=hi/\hi<=s.size/\K (s.extract lo.toNat hi.toNat)
def Value.leaf:Value->Bool
 | .agg _ | .tuple _=>false
 | _=>true
def stP(a:Addr)(vs:List Value)(K:Hp->Prop)(h:Hp):Prop:=
 ∃b,h a.block=some b/\a.spot=none/\b.fz=(0,0)/\a.off+vs.length<=b.cells.length/\vs.all Value.leaf=true/\K (h.ins a.block { b with cells:=Zc b.cells a.off vs })
def Y2(cells:List Value)(K:Addr->Hp->Prop)(h:Hp):Prop:=
 ∀b e,h b=none->K ⟨b,0,none⟩ (h.ins b ⟨cells,e,(0,0)⟩)
def Z1k(t:TypeId)(cells:List Value)(K:Addr->Hp->Prop)(h:Hp):Prop:=
 ∀b,h b=none->K ⟨b,0,none⟩ (h.ins b ⟨cells,t,(0,0)⟩)
def mkP(len cap:Int)(bytes:Nat)(zero:List Value)(K:Sl->Hp->Prop)(h:Hp):Prop:=
 0<=len/\len<=cap/\bytes*cap<=140737488355328/\cap<=140737488355328/\Y2 (yn cap.toNat zero) (λa=>K ⟨some a,len.toNat,cap.toNat⟩) h
def stO(a:Option Addr)(off:Nat)(vs:List Value)(K:Hp->Prop)(h:Hp):Prop:=
 match a with
 | some a=>stP (a.add off) vs K h
 | none=>K h
def zv0(s:Sl)(z:List Value)(K:Hp->Prop)(h:Hp):Prop:=(s.len=0->K h)/\(s.len≠0->stO s.a 0 (yn s.len z) K h)
def ql(size bytes:Nat)(zero:List Value)(x:Sl)(n:Nat)(new:List Value)(K:Sl->Hp->Prop)(h:Hp):Prop:=
 (x.len+n)*bytes<=140737488355328/\x.len+n<=140737488355328 /\
 (x.len+n<=x.cap->stO x.a (x.len*size) new (K ⟨x.a,x.len+n,x.cap⟩) h) /\
 (x.cap<x.len+n->∃old,yc h x.a (x.len*size)=some old/\∀b e c,x.len+n<=c->h b=none ->
   K ⟨some ⟨b,0,none⟩,x.len+n,c⟩ (h.ins b ⟨old++new++yn (c-(x.len+n)) zero,e,(0,0)⟩))
def zoe(t:TypeId)(size bytes:Nat)(zero:List Value)(x:Sl)(n:Nat)(new:List Value)(K:Sl->Hp->Prop)(h:Hp):Prop:=
 (x.len+n)*bytes<=140737488355328/\x.len+n<=140737488355328 /\
 (x.len+n<=x.cap->stO x.a (x.len*size) new (K ⟨x.a,x.len+n,x.cap⟩) h) /\
 (x.cap<x.len+n->∃old,yc h x.a (x.len*size)=some old/\∀b c,x.len+n<=c->h b=none ->
   K ⟨some ⟨b,0,none⟩,x.len+n,c⟩ (h.ins b ⟨old++new++yn (c-(x.len+n)) zero,t,(0,0)⟩))
def Zdc(ty:Option Nat)(size bytes:Nat)(zero:List Value)(x:Sl)(n:Nat)(new:List Value)(K:Sl->Hp->Prop)(h:Hp):Prop:=
 match ty with
 | none=>ql size bytes zero x n new K h
 | some t=>zoe t size bytes zero x n new K h
theorem zuq{ty:Option Nat}{el:TypeId}{size bytes:Nat}{zero:List Value}{x:Sl}{n:Nat}{new:List Value}{K:Sl->Hp->Prop}{h:Hp}(hty:∀t,ty=some t->el=t)(hk:Zdc ty size bytes zero x n new K h):zoe el size bytes zero x n new K h:=by
 cases ty with
 | none=>
   obtain⟨h1,h2,h3,h4⟩:=hk;refine⟨h1,h2,h3,λhc=>?_⟩;obtain⟨old,h5,h6⟩:=h4 hc;exact⟨old,h5,λb c h7 h8=>h6 b el c h7 h8⟩
 | some t=>rw[hty t rfl];exact hk
def zpk:Nat->(List Value->Prop)->Prop
 | 0,K=>K []
 | n+1,K=>∃c:Option Addr,zpk n λl=>K (.pointer c :: l)
def zxf(hint:Option (Nat×Nat))(v:Value)(K:Value->Prop):Prop:=
 match hint with
 | none=>K v
 | some (g,k)=>zpk k λl=>v=.func (.func g) #[] l.toArray/\K (.func (.func g) #[] l.toArray)
theorem zkq:∀{n:Nat} {K:List Value->Prop},zpk n K->∃l,K l
 | 0,_,h=>⟨_,h⟩
 | n+1,_,⟨_,h⟩=>by
   obtain⟨l,hl⟩:=zkq h;exact⟨_,hl⟩
theorem zxg{hint:Option (Nat×Nat)}{v:Value}{K:Value->Prop}(h:zxf hint v K):K v:=by
 cases hint with
 | none=>exact h
 | some p=>
   obtain⟨l,h1,h2⟩:=zkq h;rw[h1];exact h2
def cpP(size:Nat)(x y:Sl)(K:Nat->Hp->Prop)(h:Hp):Prop:=
 ∃l,yc h y.a (Nat.min y.len x.len*size)=some l/\stO x.a 0 l (K (Nat.min y.len x.len)) h
def rdO(a:Option Addr)(n:Nat)(K:List Value->Prop)(h:Hp):Prop:=∃l,yc h a n=some l/\K l
def zzz(x:Sl)(K:ByteArray->Prop)(h:Hp):Prop:=∃bs:List UInt8,yc h x.a x.len=some (bs.map λb=>.int .u8 b.toNat)/\K ⟨bs.toArray⟩
def Vs(s:ByteArray):List Value:=s.data.toList.map λb=>.int .u8 b.toNat
def Z37(s:ByteArray)(K:Sl->Hp->Prop)(h:Hp):Prop:=
 ∀b e c fz,s.size<=c->h b=none->K ⟨some ⟨b,0,none⟩,s.size,c⟩ (h.ins b ⟨Vs s++Jr (c-s.size) (.int .u8 0),e,fz⟩)
def zc{α:Type}(G:(α->Hp->Prop)->Hp->Prop)(K:α->Hp->Prop)(h:Hp):Prop:=
 ∃(D O:Hp) (Q:α->Hp->Prop),D.dj O/\h=D.add O/\G Q D/\∀v D',Q v D'->D.le D'/\(D'.dj O->(D'.add O).Fin->K v (D'.add O))
def Qu{α:Type}(G:(α->Hp->Prop)->Hp->Prop)(K:α->Hp->Prop)(h:Hp):Prop:=
 ∃(D O:Hp) (Q:α->Hp->Prop),D.dj O/\h=D.add O/\G Q D/\∀v D',Q v D'->D'.dj O->K v (D'.add O)
def zv{S:Type}(k:S->Hp->Prop)(body:(S->Hp->Prop)->Prop):Prop:=
 ∃J:S->Hp->Prop,(∀s h,J s h->k s h)/\body J
def zn{S:Type}(body:S->(S->Hp->Prop)->Hp->Prop)(s0:S)(h0:Hp):Prop:=
 ∃(I:S->Hp->Prop) (μ:S->Hp->Nat),I s0 h0/\∀s h,I s h->body s (λs' h'=>I s' h'/\μ s' h'<μ s h) h
end Den
end

section
namespace Den
open Go
inductive Slot where
 | val (v:Value)
 | box (cs:List Value)
 | lit (cs:List Value) (n:Nat)
 | ref (off:Nat)
 | mp (m:List (Int×Bool))
 | mr
 | junk
abbrev Env:=Nat->Slot
inductive Up where
 | none
 | set (d:Nat) (s:Slot)
 | alloc (d:Nat) (s:Slot)
abbrev zj:=List Value->(Value->Hp->Prop)->Hp->Prop
def z06(t:Nat):List Nat->Bool
 | []=>false
 | x :: r=>bif Gv t x then true else z06 t r
def Zgz(t:Nat):List (Nat×Nat)->Nat
 | []=>t
 | (x,y) :: r=>bif Gv t x then y else Zgz t r
def ze9(g:Nat):List (Nat×zj)->zj
 | []=>λ_ _ _=>False
 | (x,y) :: r=>bif Gv g x then y else ze9 g r
inductive STy where
 | leaf (l:Lf)
 | agg (ls:List Lf)
 | box (ls:List Lf)
 | mp
def LT:List Lf->Type
 | []=>Unit
 | l :: r=>l.T×LT r
abbrev STy.T:STy->Type
 | .leaf l=>l.T
 | .agg ls=>LT ls
 | .box ls=>LT ls
 | .mp=>List (Int×Bool)
structure Cfg where
 P:Program
 n:Nat
 tab:List (Nat×zj)
 mutL:List Nat:=[]
 rtL:List (Nat×Nat):=[]
 locL:List Nat:=[]
 backs:List (Nat×STy):=[]
 tyL:List Nat:=[]
 fnL:List (Nat×Nat×Nat):=[]
 mapL:List Nat:=[]
def zzf(g:Nat):List (Nat×STy)->Option STy
 | []=>none
 | (x,y) :: r=>bif Gv g x then some y else zzf g r
def Cfg.f(C:Cfg)(g:FuncId):zj:=ze9 g C.tab
def Cfg.muts(C:Cfg)(g:FuncId):Bool:=z06 g C.mutL
def Cfg.rt(C:Cfg)(t:Nat):Nat:=Zgz t C.rtL
def Cfg.loc(C:Cfg)(t:Nat):Bool:=z06 t C.locL
def Zgy:Nat->List (Nat×Nat×Nat)->Option (Nat×Nat)
 | _,[]=>none
 | t,(x,y) :: r=>bif Gv t x then some y else Zgy t r
def Cfg.hint(C:Cfg)(dst:Option Nat):Option (Nat×Nat):=match dst with | some d=>Zgy d C.fnL | none=>none
def Cfg.tyO(C:Cfg)(t:Nat):Option Nat:=bif z06 t C.tyL then some t else none
def Env.set(e:Env)(d:Nat)(s:Slot):Env:=λj=>bif Gv j d then s else e j
def Env.alloc(rt:Nat->Nat)(e:Env)(d:Nat)(s:Slot):Env:=λj=>
 bif Gv j d then s else match e j with
  | .ref o=>bif Gv (rt j) d then .junk else .ref o
  | x=>x
def Env.upd(rt:Nat->Nat)(e:Env):Up->Env
 | .none=>e
 | .set d s=>e.set d s
 | .alloc d s=>e.alloc rt d s
def opv(e:Env)(x:Operand)(K:Value->Prop):Prop:=
 match x with
 | .const v=>K v
 | .func f=>K (.func (.func f) #[] #[])
 | .global g=>K (.pointer (some ⟨g,0,none⟩))
 | .tmp t=>match e t with
   | .val v=>K v
   | _=>False
def z9p(e:Env):List Operand->(List Value->Prop)->Prop
 | [],K=>K []
 | x :: r,K=>opv e x λv=>z9p e r λvs=>K (v :: vs)
def zph(op:BinOp)(k k':IntKind)(a b:Int)(K:Value->Prop):Prop:=
 match op with
 | .shl=>0<=b/\K (.int k (k.wrap (a*2 ^ (min b.toNat k.bits))))
 | .shr=>0<=b/\K (.int k (a.fdiv (2 ^ (min b.toNat k.bits))))
 | .add=>z16 k k' (K (.int k (k.wrap (a+b))))
 | .sub=>z16 k k' (K (.int k (k.wrap (a-b))))
 | .mul=>z16 k k' (K (.int k (k.wrap (a*b))))
 | .quo=>z16 k k' (b≠0/\K (.int k (k.wrap (a.tdiv b))))
 | .rem=>z16 k k' (b≠0/\K (.int k (a.tmod b)))
 | .and=>z16 k k' (K (.int k (qu .and k a b)))
 | .or=>z16 k k' (K (.int k (qu .or k a b)))
 | .xor=>z16 k k' (K (.int k (qu .xor k a b)))
 | .andNot=>z16 k k' (K (.int k (qu .andNot k a b)))
 | .eql=>z16 k k' (K (.bool (a==b)))
 | .neq=>z16 k k' (K (.bool (a != b)))
 | .lss=>z16 k k' (K (.bool (decide (a<b))))
 | .leq=>z16 k k' (K (.bool (decide (a<=b))))
 | .gtr=>z16 k k' (K (.bool (decide (a>b))))
 | .geq=>z16 k k' (K (.bool (decide (a>=b))))
def Zjj(P:Program)(t:TypeId)(op:BinOp)(xs ys:List Value)(K:Value->Prop):Prop:=
 match P.underlying t with
 | some (.array 2 el)=>(match P.underlying el,Gv (P.cellsOf el) 1,P.eqGuardType P.depth t with
   | some (.int _),true,false=>(match xs,ys with
     | [.int k a,.int k2 b],[.int k3 c,.int k4 d]=>z16 k k3 <| z16 k2 k4 <| (match op with
       | .eql=>K (.bool (a==c&&b==d))
       | .neq=>K (.bool (!(a==c&&b==d)))
       | _=>False)
     | _,_=>False)
   | _,_,_=>False)
 | _=>False
def Z33(P:Program)(t:TypeId)(op:BinOp)(x y:Value)(K:Value->Prop):Prop:=
 match x,y with
 | .int k a,.int k' b=>zph op k k' a b K
 | .string a,.string b=>
   (match op with
   | .add=>((a.size+b.size:Nat):Int)<=9223372036854775807/\K (.string (a++b))
   | .eql=>K (.bool (a.toList==b.toList))
   | .neq=>K (.bool (!(a.toList==b.toList)))
   | _=>False)
 | .bool a,.bool b=>
   (match P.underlying t,op with
   | some .bool,.eql=>K (.bool (a==b))
   | some .bool,.neq=>K (.bool (!(a==b)))
   | _,_=>False)
 | .slice a _ _,.slice none _ _=>
   (match P.underlying t,op with
   | some (.slice _),.eql=>K (.bool a.isNone)
   | some (.slice _),.neq=>K (.bool (!a.isNone))
   | _,_=>False)
 | .agg xs,.agg ys=>Zjj P t op xs.toList ys.toList K
 | _,_=>False
def unP(op:UnOp)(x:Value)(K:Value->Prop):Prop:=
 match op,x with
 | .not,.bool b=>K (.bool (!b))
 | .neg,.int k n=>K (.int k (k.wrap (0-n)))
 | _,_=>False
def isAgg?(P:Program)(t:TypeId):Option Bool:=
 match P.underlying t with
 | some (.struct _) | some (.array _ _)=>some true
 | some _=>some false
 | none=>none
def zeo(P:Program):Nat->TypeId->Option (List Lf)
 | 0,_=>none
 | d+1,t=>
   match P.underlying t with
   | some .bool=>some [.bool]
   | some (.int k)=>some [.int k]
   | some .string=>some [.str]
   | some (.slice _)=>some [.sl]
   | some (.pointer _)=>some [.ptr]
   | some (.struct fs)=>fs.toList.foldr (λf acc=>match zeo P d f.type,acc with | some l,some r=>some (l++r) | _,_=>none) (some [])
   | some (.array n t')=>(match zeo P d t' with | some l=>some ((Jr n l).flatten) | none=>none)
   | some (.func _ _ _)=>some [.val]
   | _=>none
def Z9e:List Lf->Addr->Nat->(List Value->Prop)->Hp->Prop
 | [],_,_,K,_=>K []
 | l :: r,a,i,K,h=>ldL l (a.add i) (λx=>Z9e r a (i+1) (λvs=>K (l.up x :: vs)) h) h
def ldT(P:Program)(t:TypeId)(a:Addr)(K:Value->Prop)(h:Hp):Prop:=
 match zeo P 8 t with
 | some ls=>(match isAgg? P t with
   | none=>False
   | some true=>(match Gv ls.length (P.cellsOf t)with
     | true=>Z9e ls a 0 (λvs=>K (.agg vs.toArray)) h
     | false=>False)
   | some false=>(match ls with
     | [l]=>ldL l a (λx=>K (l.up x)) h
     | _=>False))
 | none=>False
def z9r(P:Program)(t:TypeId)(cs:List Value)(off:Nat)(K:Value->Prop):Prop:=
 match isAgg? P t with
 | none=>False
 | some true=>(match Nat.ble (off+P.cellsOf t) cs.length with
   | true=>K (.agg ((cs.drop off).take (P.cellsOf t)).toArray)
   | false=>False)
 | some false=>(match cs[off]? with
   | some v=>K v
   | none=>False)
def zst(P:Program)(ix:Operand)(t:TypeId)(cs:List Value)(off:Nat)(K:Value->Prop):Prop:=
 match ix with
 | .tmp _=>(match isAgg? P t,zeo P 8 t with
   | some false,some [l]=>∃x:l.T,cs[off]?=some (l.up x)/\K (l.up x)
   | _,_=>False)
 | _=>z9r P t cs off K
def zbh(P:Program)(t:TypeId)(K:List Value->Prop):Prop:=
 match P.info? t with
 | some i=>(match i.zero with
   | some z=>K z.cells.toList
   | none=>False)
 | none=>False
def Ql(C:Cfg)(dst:Option Nat)(v:Value)(h:Hp)(K:Up->Hp->Prop):Prop:=
 match dst with
 | none=>K .none h
 | some d=>match C.loc d,T5 d C.n with
   | false,true=>K (.set d (.val v)) h
   | _,_=>False
def zeb(C:Cfg)(dst:Option Nat)(h:Hp)(K:Up->Hp->Prop):Prop:=
 match dst with
 | none=>K .none h
 | some d=>match C.loc d,z06 d C.mapL with
   | true,false=>K (.alloc d .junk) h
   | true,true=>False
   | false,_=>Ql C dst undef h K
def zt5(C:Cfg)(dst:Option Nat)(root off:Nat)(h:Hp)(K:Up->Hp->Prop):Prop:=
 match dst with
 | none=>False
 | some d=>match C.loc d,Gv (C.rt d) root,T5 d C.n with
   | false,true,true=>K (.set d (.ref off)) h
   | _,_,_=>False
def z41(C:Cfg)(dst:Option Nat)(cs:List Value)(mk:Addr->Value)(hid:Slot)(ty:Option Nat)(h:Hp)(K:Up->Hp->Prop):Prop:=
 match dst with
 | none=>False
 | some d=>match C.loc d,T5 d C.n,z06 d C.mapL with
   | true,true,false=>K (.alloc d hid) h
   | false,true,_=>(match ty with
     | none=>Y2 cs (λa h'=>K (.set d (.val (mk a))) h') h
     | some t=>Z1k t cs (λa h'=>K (.set d (.val (mk a))) h') h)
   | _,_,_=>False
def zd5(P:Program)(s:TypeId)(f:Nat)(K:Nat->Prop):Prop:=
 match P.underlying s with
 | some (.struct fs)=>(match fs[f]? with
   | some fd=>(match Gv (P.cellsOf fd.type) 0 with
     | true=>False
     | false=>K fd.offset)
   | none=>False)
 | _=>False
def znb(place:Nat->Option (Nat×Nat))(zero:List Value)(parts:List (Nat×Value))(K:List Value->Prop):Prop:=
 match Instr.fill place zero.toArray parts with
 | some cs=>K cs.toList
 | none=>False
def elemOf?(P:Program)(t:TypeId)(K:TypeId->Prop):Prop:=
 match P.underlying t with
 | some (.slice e)=>(match (P.info? e).isSome with
   | true=>K e
   | false=>False)
 | _=>False
def zsm(P:Program)(t:TypeId)(p:Prop):Prop:=
 match P.underlying t with
 | some (.slice _)=>p
 | some .string=>p
 | _=>False
def Zem(P:Program)(t:TypeId)(p q:Prop):Prop:=
 match P.underlying t with
 | some (.int _)=>p
 | _=>q
def okT(P:Program)(t:TypeId)(p:Prop):Prop:=
 match (P.info? t).isSome with
 | true=>p
 | false=>False
def ze0(n:Int)(len:Nat)(p:Prop):Prop:=match decide (0<=n/\n<len)with | true=>p | false=>False
def Zi7:Value->(List Value->Prop)->Prop
 | .agg cs,K=>K cs.toList
 | _,_=>False
def zwp(a b:Int):Int:=if b>a then b else a
def Zjn(a b:Int):Int:=if b<a then b else a
def Zq2:List Value->(Value->Prop)->Prop
 | [.int k a,.int k' b],K=>z16 k k' (K (.int k (zwp a b)))
 | _,_=>False
def Zq3:List Value->(Value->Prop)->Prop
 | [.int k a,.int k' b],K=>z16 k k' (K (.int k (Zjn a b)))
 | _,_=>False
def boP(e:Env)(lo:Option Operand)(dflt:Int)(K:Int->Prop):Prop:=
 match lo with
 | none=>K dflt
 | some x=>opv e x λv=>match v with
   | .int _ n=>K n
   | _=>False
def zmq(e:Env)(x:Operand)(size:Nat)(K:Nat->List Value->Prop)(h:Hp):Prop:=
 match x with
 | .tmp t=>(match e t with
   | .lit cs n=>(match Gv cs.length (n*size)with | true=>K n cs | false=>False)
   | .val (.slice a l _)=>rdO a (l*size) (λvs=>K l vs) h
   | .val (.string s)=>(match Gv size 1 with | true=>K s.size (Vs s) | false=>False)
   | _=>False)
 | .const (.slice a l _)=>rdO a (l*size) (λvs=>K l vs) h
 | .const (.string s)=>(match Gv size 1 with | true=>K s.size (Vs s) | false=>False)
 | _=>False
def zep(C:Cfg)(e:Env)(x:Operand)(A:Nat->List (Int×Bool)->Prop)(B:Prop):Prop:=
 match x with
 | .tmp s=>(match e s with
   | .mp m=>(match Gv (C.rt s) s with
     | true=>A s m
     | false=>False)
   | .mr=>(match e (C.rt s)with
     | .mp m=>A (C.rt s) m
     | _=>False)
   | _=>B)
 | _=>B
def Zsg:Slot->Bool
 | .mr=>true
 | _=>false
def zx5(C:Cfg)(dst:Option Nat)(root:Nat)(h:Hp)(K:Up->Hp->Prop):Prop:=
 match dst with
 | none=>False
 | some d=>match C.loc d,Gv (C.rt d) root,T5 d C.n with
   | false,true,true=>K (.set d .mr) h
   | _,_,_=>False
def zpo(P:Program)(t:TypeId)(p:Prop):Prop:=
 match P.underlying t with
 | some (.map k v)=>(match P.underlying k,P.info? v with
   | some (.int .i64),some i=>(match i.zero with
     | some (.bool false)=>p
     | _=>False)
   | _,_=>False)
 | _=>False
def zq1(C:Cfg)(e:Env)(dst:Option Nat)(h:Hp)(K:Up->Hp->Prop):Prop:=
 match dst with
 | none=>False
 | some d=>(match C.loc d,T5 d C.n,z06 d C.mapL,(Jp C.n).all (λt=>!Zsg (e t))with
   | true,true,true,true=>K (.alloc d (.mp [])) h
   | _,_,_,_=>False)
def Qt(C:Cfg)(b:Builtin)(argTypes:List TypeId)(args:List Operand)(e:Env)(h:Hp)(dst:Option Nat)(K:Up->Hp->Prop):Prop:=
 match b,args with
 | .len,[x]=>zep C e x (λ_ m=>(match argTypes with
   | [t]=>zpo C.P t (Ql C dst (.int .i64 m.length) h K)
   | _=>False)) <| opv e x λv=>(match v,argTypes with
   | .string s,[t]=>(match C.P.underlying t with
     | some .string=>Ql C dst (.int .i64 s.size) h K
     | _=>False)
   | .slice _ n _,[t]=>(match C.P.underlying t with
     | some (.slice _)=>Ql C dst (.int .i64 n) h K
     | _=>False)
   | _,_=>False)
 | .max,[x,y]=>opv e x λu=>opv e y λv=>Zq2 [u,v] λr=>Ql C dst r h K
 | .min,[x,y]=>opv e x λu=>opv e y λv=>Zq3 [u,v] λr=>Ql C dst r h K
 | .append,[x,y]=>(match argTypes with
   | [t,t2]=>Zem C.P t2 (elemOf? C.P t λel=>zbh C.P el λz=>(match Gv z.length (C.P.cellsOf el),Gv z.length 0 with
     | true,false=>opv e x λv=>opv e y λu=>(match v,u with
       | .slice a l c,.int _ m=>0<=m/\Zdc (C.tyO el) z.length (C.P.bytesOf el) z ⟨a,l,c⟩ m.toNat (yn m.toNat z) (λs h'=>Ql C dst (.slice s.a s.len s.cap) h' K) h
       | _,_=>False)
     | _,_=>False)) <| zsm C.P t2 <| elemOf? C.P t λel=>zbh C.P el λz=>(match Gv z.length (C.P.cellsOf el),Gv z.length 0 with
     | true,false=>opv e x λv=>(match v with
       | .slice a l c=>zmq e y z.length (λn new=>Zdc (C.tyO el) z.length (C.P.bytesOf el) z ⟨a,l,c⟩ n new (λs h'=>Ql C dst (.slice s.a s.len s.cap) h' K) h) h
       | _=>False)
     | _,_=>False)
   | _=>False)
 | .copy,[x,y]=>(match argTypes with
   | [t,_]=>elemOf? C.P t λel=>opv e x λv=>opv e y λu=>(match v,u with
     | .slice a l c,.slice a2 l2 c2=>cpP (C.P.cellsOf el) ⟨a,l,c⟩ ⟨a2,l2,c2⟩ (λn h'=>Ql C dst (.int .i64 (n:Int)) h' K) h
     | _,_=>False)
   | _=>False)
 | .clear,[x]=>(match argTypes with
   | [t]=>elemOf? C.P t λel=>zbh C.P el λz=>opv e x λv=>(match v with
     | .slice a l c=>zv0 ⟨a,l,c⟩ z (λh'=>Ql C dst (.tuple #[]) h' K) h
     | _=>False)
   | _=>False)
 | .cap,[x]=>opv e x λv=>(match v,argTypes with
   | .slice _ _ n,[t]=>(match C.P.underlying t with
     | some (.slice _)=>Ql C dst (.int .i64 n) h K
     | _=>False)
   | _,_=>False)
 | _,_=>False
def Zg(C:Cfg)(o:Oper)(e:Env)(h:Hp)(K:Up->Hp->Prop):Prop:=
 match o.op with
 | .move x | .assign x=>zep C e x (λs _=>(match z06 s C.mapL with
   | true=>zx5 C o.dst s h K
   | false=>False)) <| opv e x λv=>Ql C o.dst v h K
 | .pick c a b=>opv e c λv=>(match v with
   | .bool t=>ifP t (opv e a λv=>Ql C o.dst v h K) (opv e b λv=>Ql C o.dst v h K)
   | _=>False)
 | .alloc t=>zbh C.P t λcs=>z41 C o.dst cs (λa=>.pointer (some a)) (.box cs) (C.tyO t) h K
 | .box _ x=>opv e x λv=>z41 C o.dst v.cells.toList (λa=>.pointer (some a)) (.box v.cells.toList) none h K
 | .build t parts=>z9p e (parts.toList.map (·.2)) λvs=>(match C.P.built t ((parts.toList.map (·.1)).zip vs)with
   | some cs=>Ql C o.dst (.agg cs) h K
   | none=>False)
 | .buildSlice t n parts=>z9p e (parts.toList.map (·.2)) λvs=>elemOf? C.P t λel=>zbh C.P el λz=>(match Gv z.length (C.P.cellsOf el),Nat.ble (n*C.P.cellsOf el) 16777216 with
   | true,true=>znb (λi=>some (i*z.length,z.length)) (yn n z) ((parts.toList.map (·.1)).zip vs) λcs=>
     z41 C o.dst cs (λa=>.slice (some a) n n) (.lit cs n) none h K
   | _,_=>False)
 | .load t a=>(match a with
   | .tmp s=>(match e s with
     | .box cs=>z9r C.P t cs 0 λv=>Ql C o.dst v h K
     | .ref off=>(match e (C.rt s)with
       | .box cs=>z9r C.P t cs off λv=>Ql C o.dst v h K
       | _=>False)
     | .val (.pointer p)=>(match C.loc (C.rt s)with
       | true=>False
       | false=>Ye p λad=>ldT C.P t ad (λv=>zxf (C.hint o.dst) v λv=>Ql C o.dst v h K) h)
     | _=>False)
   | _=>False)
 | .store t a x=>opv e x λv=>(match Gv v.cells.toList.length (C.P.cellsOf t),v.cells.toList.all Value.leaf with
   | true,true=>(match a with
     | .tmp s=>(match e s with
       | .box cs=>(match (C.P.info? t).isSome,o.dst,Nat.ble v.cells.toList.length cs.length with
         | true,none,true=>K (.set s (.box (Zc cs 0 v.cells.toList))) h
         | _,_,_=>False)
       | .ref off=>(match e (C.rt s)with
         | .box cs=>(match (C.P.info? t).isSome,o.dst,Nat.ble (off+v.cells.toList.length) cs.length with
           | true,none,true=>K (.set (C.rt s) (.box (Zc cs off v.cells.toList))) h
           | _,_,_=>False)
         | _=>False)
       | .val (.pointer p)=>(match C.loc (C.rt s)with
         | true=>False
         | false=>Ye p λad=>(match (C.P.info? t).isSome,o.dst with
           | true,none=>stP ad v.cells.toList (λh'=>K .none h') h
           | _,_=>False))
       | _=>False)
     | _=>False)
   | _,_=>False)
 | .nilCheck x=>opv e x λv=>(match v with
   | .pointer p=>Ye p λad=>Ql C o.dst (.pointer (some ad)) h K
   | .func (.func g) a b=>Ql C o.dst (.func (.func g) a b) h K
   | _=>False)
 | .binOp op t x y _=>opv e x λu=>opv e y λv=>Z33 C.P t op u v λr=>Ql C o.dst r h K
 | .unOp op _ x=>opv e x λu=>unP op u λr=>Ql C o.dst r h K
 | .convert src dst x=>opv e x λv=>(match C.P.underlying dst,v with
   | some (.int k),.int _ n=>(match (C.P.underlying src).isSome with
     | true=>Ql C o.dst (.int k (k.wrap n)) h K
     | false=>False)
   | some .string,.slice a l c=>(match C.P.underlying src with
     | some (.slice el)=>(match C.P.underlying el with
       | some (.int .u8)=>zzz ⟨a,l,c⟩ (λs=>Ql C o.dst (.string s) h K) h
       | _=>False)
     | _=>False)
   | some (.slice el),.string s=>(match C.P.underlying src,C.P.underlying el with
     | some .string,some (.int .u8)=>Z37 s (λx h'=>Ql C o.dst (.slice x.a x.len x.cap) h' K) h
     | _,_=>False)
   | _,_=>False)
 | .makeFunc (.func g) first captured=>z9p e first.toList λus=>z9p e captured.toList λvs=>Ql C o.dst (.func (.func g) us.toArray vs.toArray) h K
 | .makeSlice t l c=>opv e l λlv=>opv e c λcv=>(match lv,cv with
   | .int _ len,.int _ cap=>elemOf? C.P t λel=>zbh C.P el λz=>(match Gv z.length (C.P.cellsOf el),Gv z.length 0 with
     | true,false=>mkP len cap (C.P.bytesOf el) z (λs h'=>Ql C o.dst (.slice s.a s.len s.cap) h' K) h
     | _,_=>False)
   | _,_=>False)
 | .slice t x lo hi none=>opv e x λv=>(match v with
   | .string s=>(match C.P.underlying t with
     | some .string=>boP e lo 0 λl=>boP e hi s.size λu=>Yv s l u λr=>Ql C o.dst (.string r) h K
     | _=>False)
   | .slice a n c=>elemOf? C.P t λel=>boP e lo 0 λl=>boP e hi n λu=>slP ⟨a,n,c⟩ l u (C.P.cellsOf el) λs=>Ql C o.dst (.slice s.a s.len s.cap) h K
   | .pointer p=>(match C.P.underlying t with
     | some (.array n el)=>okT C.P el <| Ye p λad=>boP e lo 0 λl=>boP e hi n λu=>slP ⟨some ad,n,n⟩ l u (C.P.cellsOf el) λs=>Ql C o.dst (.slice s.a s.len s.cap) h K
     | _=>False)
   | _=>False)
 | .slice t x lo (some hi) (some mx)=>opv e x λv=>(match v with
   | .slice a n c=>elemOf? C.P t λel=>boP e lo 0 λl=>boP e (some hi) 0 λu=>boP e (some mx) 0 λm=>Zep ⟨a,n,c⟩ l u m (C.P.cellsOf el) λs=>Ql C o.dst (.slice s.a s.len s.cap) h K
   | _=>False)
 | .fieldAddr t x f=>zd5 C.P t f λoff=>(match x with
   | .tmp s=>(match e s with
     | .box _=>zt5 C o.dst s off h K
     | .ref o'=>zt5 C o.dst (C.rt s) (o'+off) h K
     | .val (.pointer p)=>Ye p λad=>Ql C o.dst (.pointer (some (ad.add off))) h K
     | _=>False)
   | _=>False)
 | .field t x f=>zd5 C.P t f λoff=>opv e x λv=>Zi7 v λcs=>(match C.P.underlying t with
   | some (.struct fs)=>(match fs[f]? with
     | some fd=>z9r C.P fd.type cs off λr=>Ql C o.dst r h K
     | none=>False)
   | _=>False)
 | .indexAddr t x ix=>opv e ix λiv=>(match iv with
   | .int _ n=>(match C.P.underlying t with
     | some (.slice el)=>okT C.P el <| opv e x λv=>(match v with
       | .slice a l c=>zg ⟨a,l,c⟩ n (C.P.cellsOf el) λad=>Ql C o.dst (.pointer (some ad)) h K
       | _=>False)
     | some (.array len el)=>okT C.P el <| ze0 n len (match x with
       | .tmp s=>(match e s with
         | .box _=>zt5 C o.dst s (n.toNat*C.P.cellsOf el) h K
         | .ref o'=>zt5 C o.dst (C.rt s) (o'+n.toNat*C.P.cellsOf el) h K
         | .val (.pointer p)=>Ye p λad=>Ql C o.dst (.pointer (some (ad.add (n.toNat*C.P.cellsOf el)))) h K
         | _=>False)
       | .global g=>Ql C o.dst (.pointer (some ((⟨g,0,none⟩:Addr).add (n.toNat*C.P.cellsOf el)))) h K
       | _=>False)
     | _=>False)
   | _=>False)
 | .index t x ix=>opv e ix λiv=>opv e x λv=>(match iv,v with
   | .int _ n,.string s=>(match C.P.underlying t with
     | some .string=>qy s n λb=>Ql C o.dst (.int .u8 b) h K
     | _=>False)
   | .int _ n,.agg cs=>(match C.P.underlying t with
     | some (.array len el)=>okT C.P el <| ze0 n len (zst C.P ix el cs.toList (n.toNat*C.P.cellsOf el) λr=>Ql C o.dst r h K)
     | _=>False)
   | _,_=>False)
 | .makeMap _ none=>zq1 C e o.dst h K
 | .lookup t x ix false=>opv e ix λiv=>zpo C.P t <| zep C e x (λ_ m=>(match iv with
   | .int .i64 n=>Ql C o.dst (.bool (zwq m n)) h K
   | _=>False)) False
 | .mapUpdate t x k y=>opv e k λkv=>opv e y λyv=>zpo C.P t <| zep C e x (λs m=>(match kv,yv,o.dst with
   | .int .i64 n,.bool b,none=>K (.set s (.mp (zpq m n b))) h
   | _,_,_=>False)) False
 | .extract x i=>opv e x λv=>(match v with
   | .tuple vs=>(match vs.toList[i]? with
     | some u=>Ql C o.dst u h K
     | none=>False)
   | _=>False)
 | .call c=>(match c.callee with
   | .builtin b=>Qt C b c.argTypes.toList c.args.toList e h o.dst K
   | .value f=>opv e f λfv=>(match fv with
     | .func (.func g) first cap=>z9p e c.args.toList λvs=>
       C.f g (first.toList++vs++cap.toList) (λr h'=>Ql C o.dst r h' K) h
     | _=>False)
   | _=>False)
 | _=>False
def W4(C:Cfg)(ops:Array Oper)(K:Env->Hp->Prop):List Nat->Env->Hp->Prop
 | [],e,h=>K e h
 | i :: r,e,h=>
   match ops[i]? with
   | none=>False
   | some o=>
     match o.guard with
     | none=>Zg C o e h λu h'=>W4 C ops K r (e.upd C.rt u) h'
     | some (j,want)=>
       match (ops[j]?).bind (·.dst)with
       | none=>False
       | some d=>
         match C.loc d,e d with
         | false,.val (.bool t)=>
           ifP t
            (match want with
              | true=>Zg C o (e.set d (.val (.bool true))) h λu h'=>W4 C ops K r ((e.set d (.val (.bool true))).upd C.rt u) h'
              | false=>zeb C o.dst h λu h'=>W4 C ops K r ((e.set d (.val (.bool true))).upd C.rt u) h')
            (match want with
              | false=>Zg C o (e.set d (.val (.bool false))) h λu h'=>W4 C ops K r ((e.set d (.val (.bool false))).upd C.rt u) h'
              | true=>zeb C o.dst h λu h'=>W4 C ops K r ((e.set d (.val (.bool false))).upd C.rt u) h')
         | false,.val (.tuple _)=>zeb C o.dst h λu h'=>W4 C ops K r (e.upd C.rt u) h'
         | _,_=>False
def Yt(C:Cfg)(o:Oper):List Nat:=
 (match o.dst with | some d=>[d] | none=>[])++(match o.op with | .store _ (.tmp s) _=>[s,C.rt s] | .mapUpdate _ (.tmp s) _ _=>[C.rt s] | _=>[])++(match o.guard with | some _=>[] | none=>[])
def zpe(ops:Array Oper)(o:Oper):List Nat:=
 match o.guard with
 | some (j,_)=>(match (ops[j]?).bind (·.dst)with | some d=>[d] | none=>[])
 | none=>[]
def qk(C:Cfg):Code->List Nat
 | .region _ ops _=>ops.toList.flatMap λo=>Yt C o++zpe ops o
 | .seq a b=>qk C a++qk C b
 | .cond _ a b=>qk C a++qk C b
 | .block _ a=>qk C a
 | .loop a=>qk C a
 | .rangeFunc _ ps a b=>ps.toList++qk C a++qk C b
 | .scope a=>qk C a
 | _=>[]
def zbp:List (Nat×STy)->Type
 | []=>Unit
 | (_,s) :: r=>s.T×zbp r
def LT.up:(ls:List Lf)->LT ls->List Value
 | [],_=>[]
 | l :: r,x=>l.up x.1 :: LT.up r x.2
def LT.dn:(ls:List Lf)->List Value->(LT ls->Prop)->Prop
 | [],[],K=>K ()
 | l :: r,v :: vs,K=>l.dn v λx=>LT.dn r vs λxs=>K (x,xs)
 | _,_,_=>False
def STy.up:(s:STy)->s.T->Slot
 | .leaf l,x=>.val (l.up x)
 | .agg ls,x=>.val (.agg (LT.up ls x).toArray)
 | .box ls,x=>.box (LT.up ls x)
 | .mp,x=>.mp x
def STy.dn:(s:STy)->Slot->(s.T->Prop)->Prop
 | .leaf l,.val v,K=>l.dn v K
 | .agg ls,.val (.agg cs),K=>LT.dn ls cs.toList K
 | .box ls,.box cs,K=>LT.dn ls cs K
 | .mp,.mp m,K=>K m
 | _,_,_=>False
def zie:(L:List (Nat×STy))->Env->(zbp L->Prop)->Prop
 | [],_,K=>K ()
 | (t,s) :: r,e,K=>s.dn (e t) λx=>zie r e λxs=>K (x,xs)
def Qy:(L:List (Nat×STy))->zbp L->Nat->Option Slot
 | [],_,_=>none
 | (t',s) :: r,x,t=>bif Gv t t' then some (s.up x.1)else Qy r x.2 t
def Qb(e:Env)(mods:List Nat)(L:List (Nat×STy))(s:zbp L):Env:=λt=>
 match Qy L s t with
 | some x=>x
 | none=>bif z06 t mods then .junk else match e t with
   | .ref _=>.junk
   | .lit _ _=>.junk
   | x=>x
inductive Ex where
 | normal
 | exit (id:Nat)
 | ret
inductive An where
 | leaf
 | draw (order:List Nat)
 | drawP (order pubs:List Nat)
 | drawC (p:List Nat) (b:Nat) (q as:List Nat)
 | seq (a b:An)
 | join (L:List (Nat×STy)) (a b:An)
 | cond (a b:An)
 | block (a:An)
 | loop (L:List (Nat×STy)) (a:An)
 | back (L:List (Nat×STy)) (a b:An)
inductive Cls where
 | pure | load | call | new | other
 deriving DecidableEq
def Vi(C:Cfg)(o:Oper):Cls:=
 match o.op with
 | .move _ | .assign _ | .pick .. | .build .. | .binOp .. | .unOp .. | .makeFunc .. | .slice .. | .fieldAddr .. | .field .. | .indexAddr .. | .index .. | .extract .. | .nilCheck _=>.pure
 | .convert _ dst _=>(match C.P.underlying dst with | some (.int _)=>.pure | _=>.other)
 | .alloc _ | .box .. | .buildSlice ..=>(match o.dst with
   | some d=>(match C.loc d with | true=>.pure | false=>.new)
   | none=>.other)
 | .load _ (.tmp s)=>(match C.loc (C.rt s)with | true=>.pure | false=>.load)
 | .load ..=>.load
 | .store _ (.tmp s) _=>(match C.loc (C.rt s)with | true=>.pure | false=>.other)
 | .makeSlice ..=>(match o.dst with
   | some d=>(match C.loc d with
     | true=>.other
     | false=>(match T5 d C.n with
       | true=>.new
       | false=>.other))
   | none=>.other)
 | .call c=>(match c.callee with
   | .builtin .len | .builtin .max | .builtin .min | .builtin .cap=>.pure
   | .value (.func g)=>(match C.muts g with | true=>.other | false=>.call)
   | _=>.other)
 | _=>.other
def z4o(C:Cfg):Operand->List Nat
 | .tmp t=>[t,C.rt t]
 | _=>[]
def z6g(C:Cfg)(ops:Array Oper)(o:Oper):List Nat:=
 o.op.operands.toList.flatMap (z4o C)++zpe ops o++(match o.dst with | some d=>[C.rt d] | none=>[])
def z4n(C:Cfg)(ops:Array Oper)(o:Oper):List Nat:=z6g C ops o++(z6g C ops o).map C.rt
def z1x(a b:List Nat):Bool:=a.all λx=>!z06 x b
def zdv:Option (Nat×Bool)->Option (Nat×Bool)->Bool
 | _,none=>true
 | some (i,a),some (j,b)=>Gv i j&&(match a,b with | true,true=>true | false,false=>true | _,_=>false)
 | none,some _=>false
def zb2(C:Cfg)(ox oy:Oper):Bool:=
 match Vi C ox,Vi C oy with
 | .pure,_=>true
 | .load,.pure | .load,.load | .load,.call | .load,.new=>true
 | .call,.new=>zdv ox.guard oy.guard
 | .new,.new=>zdv ox.guard oy.guard
 | _,_=>false
def z21(ops:Array Oper):Nat->Nat->Nat->Bool
 | 0,_,_=>false
 | d+1,x,y=>match ops[y]? with
   | some o=>o.after.toList.any (λe=>Tm .any e&&Gv e.on x)||o.after.toList.any (λe=>Tm .any e&&(T5 x e.on&&z21 ops d x e.on))
   | none=>false
def zc7(o:Oper):Bool:=
 match o.op with
 | .makeMap ..=>true
 | _=>false
def z4x(C:Cfg)(ops:Array Oper)(x y:Nat):Bool:=
 match ops[x]?,ops[y]? with
 | some ox,some oy=>
   zb2 C ox oy&&!zc7 ox&&!zc7 oy&&z1x (Yt C ox) (z4n C ops oy)&&z1x (Yt C oy) (z4n C ops ox)&&z1x (Yt C ox) (Yt C oy)
 | _,_=>false
def z5f(C:Cfg)(ops:Array Oper):List Nat->Bool
 | []=>true
 | x :: r=>r.all (λy=>z21 ops ops.size x y||z4x C ops x y)&&z5f C ops r
def zet:List Nat->Bool
 | []=>true
 | x :: r=>!z06 x r&&zet r
def zdd(ops:Array Oper):Bool:=
 (Jp ops.size).all λi=>match ops[i]? with
   | some o=>o.after.toList.all λe=>!Tm .any e||T5 e.on i
   | none=>true
def zd8(C:Cfg)(ops:Array Oper)(order:List Nat):Bool:=
 C.P.follows .mixedOrders&&zdd ops&&Nat.ble order.length ops.size&&zet order&&order.all (λi=>T5 i ops.size)&&(Jp ops.size).all (λi=>z06 i order)&&z5f C ops order
def zly(C:Cfg)(ops:Array Oper)(as:List Nat)(b x:Nat):Bool:=
 match ops[x]?,ops[b]? with
 | some ox,some ob=>(match z06 x as with
   | true=>(match Vi C ox with | .load=>true | _=>false)&&ox.guard.isNone&&!zc7 ob&&z1x (Yt C ox) (z4n C ops ob)&&z1x (Yt C ob) (z4n C ops ox)&&z1x (Yt C ox) (Yt C ob)&&z1x (Yt C ox) (ox.op.operands.toList.flatMap (z4o C)++(ox.op.operands.toList.flatMap (z4o C)).map C.rt)
   | false=>z4x C ops x b)
 | _,_=>false
def zmy(C:Cfg)(ops:Array Oper)(x:Nat):Bool:=
 match ops[x]? with
 | some ox=>(match Vi C ox with | .pure | .load=>true | _=>false)
 | none=>false
def zhv(C:Cfg)(ops:Array Oper)(a x:Nat):Bool:=
 match ops[x]?,ops[a]? with
 | some ox,some oa=>z1x (Yt C ox) (z4n C ops oa)&&z1x (Yt C ox) (Yt C oa)&&!zc7 oa
 | _,_=>false
def zyr(C:Cfg)(ops:Array Oper)(as:List Nat)(b:Nat):List Nat->Bool
 | []=>true
 | a :: r=>(!z06 a as||r.all λx=>z21 ops ops.size x b||zhv C ops a x)&&zyr C ops as b r
def zjq(C:Cfg)(ops:Array Oper)(p:List Nat)(b:Nat)(q as:List Nat):Bool:=
 C.P.follows .mixedOrders&&zdd ops&&Nat.ble (p++b :: q).length ops.size&&zet (p++b :: q)&&(p++b :: q).all (λi=>T5 i ops.size)&&(Jp ops.size).all (λi=>z06 i (p++b :: q)) &&
  z5f C ops (p++q)&&q.all (λy=>z21 ops ops.size b y)&&p.all (λx=>z21 ops ops.size x b||(zly C ops as b x&&zmy C ops x))&&zyr C ops as b p&&as.all (λa=>match ops[a]? with | some oa=>(match Vi C oa with | .load=>true | _=>false) | none=>false)&&(ops[b]?).isSome
def zlq(C:Cfg)(ops:Array Oper)(as:List Nat)(e:Env)(h:Hp)(P:Prop):Prop:=
 match as with
 | []=>P
 | a :: r=>(match ops[a]? with
   | some o=>Zg C o e h λu _=>(match u with
     | .set d (.val v)=>(match e d with
       | .val v'=>v=v'
       | _=>False)
     | _=>False)
   | none=>False)/\zlq C ops r e h P
def STy.val:(s:STy)->s.T->Value
 | .leaf l,x=>l.up x
 | .agg ls,x=>.agg (LT.up ls x).toArray
 | .box _,_=>.tuple #[]
 | .mp,_=>.tuple #[]
def STy.cells:(s:STy)->s.T->List Value
 | .leaf l,x=>[l.up x]
 | .agg ls,x=>LT.up ls x
 | .box _,_=>[]
 | .mp,_=>[]
def STy.size:STy->Nat
 | .leaf _=>1
 | .agg ls=>ls.length
 | .box _=>0
 | .mp=>0
def zyk{S:Type}(T:STy)(a:Addr)(body:Int->T.T->S->(S->Hp->Prop)->Hp->Prop)(s0:S)(K:S->Hp->Prop)(h:Hp):Prop:=
 ∃(x:Sl) (I:Nat->S->Hp->Prop),x.len<=140737488355328/\I x.len s0 h /\
  (∀i s h',I i s h'->h'.cell a=some (.slice x.a x.len x.cap)) /\
  (∀i s h',i<x.len->I (i+1) s h'->∃(ad:Addr) (v:T.T),x.a=some ad/\(∀j u,(T.cells v)[j]?=some u->h'.cell (ad.add (i*T.size+j))=some u)/\body i v s (λs' h''=>I i s' h'') h') /\
  ∀s h',I 0 s h'->K s h'
def z2b:Code->List Nat
 | .region _ ops _=>ops.toList.flatMap λo=>match o.dst with | some d=>[d] | none=>[]
 | .seq a b=>z2b a++z2b b
 | .cond _ a b=>z2b a++z2b b
 | .block _ a=>z2b a
 | .loop a=>z2b a
 | .scope a=>z2b a
 | _=>[]
def Xi:Code->Bool
 | .seq a b=>Xi a&&Xi b
 | .cond _ a b=>Xi a&&Xi b
 | .block _ a=>Xi a
 | .loop a=>Xi a
 | .scope a=>Xi a
 | .rangeFunc ..=>false
 | _=>true
def zpj:STy->Bool
 | .box _=>true
 | _=>false
def zog(C:Cfg)(L:List (Nat×STy))(p0 p1:Nat)(x y:Code):Bool:=
 L.all (λq=>zpj q.2&&z06 q.1 (qk C x++qk C y)&&!z06 q.1 (p0 :: p1 :: (z2b x++z2b y))&&C.loc q.1)&&Xi x&&Xi y&&!C.loc p0&&!C.loc p1&&T5 p0 C.n&&T5 p1 C.n&&!Gv p0 p1
def Zeg(C:Cfg):List Nat->(Env->Hp->Prop)->Env->Hp->Prop
 | [],K,e,h=>K e h
 | d :: r,K,e,h=>match e d with
   | .box cs=>Y2 cs (λa h'=>Zeg C r K (e.alloc C.rt d (.val (.pointer (some a)))) h') h
   | _=>False
def den(C:Cfg):Code->An->(Ex->Env->Hp->Prop)->Env->Hp->Prop
 | .skip,_,K,e,h=>K .normal e h
 | .exit j,_,K,e,h=>K (.exit j) e h
 | .ret,_,K,e,h=>K .ret e h
 | .region _ ops false,_,K,e,h=>W4 C ops (K .normal) (Jp ops.size) e h
 | .region _ ops true,.draw order,K,e,h=>(match zd8 C ops order with
   | true=>W4 C ops (K .normal) order e h
   | false=>False)
 | .region id ops true,.drawP order pubs,K,e,h=>(match zd8 C ops order&&pubs.all (λd=>z06 d (qk C (.region id ops true)))with
   | true=>W4 C ops (Zeg C pubs (K .normal)) order e h
   | false=>False)
 | .region _ ops true,.drawC p b q as,K,e,h=>(match zjq C ops p b q as with
   | true=>W4 C ops (λe1 h1=>W4 C ops (λe2 h2=>zlq C ops as e2 h2 (W4 C ops (K .normal) q e2 h2)) [b] e1 h1) p e h
   | false=>False)
 | .seq x y,.seq a b,K,e,h=>den C x a (λex e' h'=>match ex with
   | .normal=>den C y b K e' h'
   | ex=>K ex e' h') e h
 | .seq x y,.join L a b,K,e,h=>zv (S:=zbp L) (λs h'=>den C y b K (Qb e (qk C x) L s) h')
   (λk=>den C x a (λex e' h'=>match ex with
     | .normal=>zie L e' λs=>k s h'
     | ex=>K ex e' h') e h)
 | .cond c x y,.cond a b,K,e,h=>opv e c λv=>(match v with
   | .bool t=>ifP t (den C x a K e h) (den C y b K e h)
   | _=>False)
 | .block id x,.block a,K,e,h=>den C x a (λex e' h'=>match ex with
   | .exit j=>(match Gv j id with
     | true=>K .normal e' h'
     | false=>K (.exit j) e' h')
   | ex=>K ex e' h') e h
 | .loop x,.loop L a,K,e,h=>zie L e λs0=>zn (S:=zbp L) (λs k h1=>den C x a (λex e' h'=>match ex with
    | .normal=>zie L e' λs=>k s h'
    | ex=>K ex e' h') (Qb e (qk C x) L s) h1) s0 h
 | .rangeFunc g ⟨[p0,p1]⟩ x y,.back L a b,K,e,h=>(match zog C L p0 p1 x y with
   | true=>opv e g λgv=>(match gv with
     | .func (.func gf) ⟨[]⟩ ⟨[.pointer (some ad)]⟩=>(match zzf gf C.backs with
       | some T=>zie L e λs0=>zyk (S:=zbp L) T ad (λi v s k h1=>den C x a (λex e1 h2=>match ex with
          | .normal=>den C y b (λex e2 h3=>match ex with
            | .normal=>zie L e2 λs'=>k s' h3
            | _=>False) e1 h2
          | _=>False) (((Qb e ([p0,p1]++qk C x++qk C y) L s).set p0 (.val (.int .i64 i))).set p1 (.val (T.val v))) h1)
          s0 (λs h'=>K .normal (Qb e ([p0,p1]++qk C x++qk C y) L s) h') h
       | none=>False)
     | _=>False)
   | false=>False)
 | _,_,_,_,_=>False
def zx3(C:Cfg)(rs:List ResultVar)(e:Env)(K:List Value->Prop):Prop:=
 match rs with
 | []=>K []
 | .tmp t :: r=>(match e t with
   | .val v=>zx3 C r e λvs=>K (v :: vs)
   | _=>False)
 | .cell t ty :: r=>(match e t with
   | .box cs=>z9r C.P ty cs 0 λv=>zx3 C r e λvs=>K (v :: vs)
   | _=>False)
def Zab(vs:List Value):Value:=match vs with | [v]=>v | vs=>.tuple vs.toArray
def zwf(args:List Value):Env:=λt=>match args[t]? with | some v=>.val v | none=>.junk
def zvc(C:Cfg)(fn:Func)(c:Code)(an:An)(args:List Value)(K:Value->Hp->Prop)(h:Hp):Prop:=
 den C c an (λex e h'=>match ex with
  | .exit _=>False
  | _=>zx3 C fn.results.toList e λvs=>K (Zab vs) h') (zwf args) h
end Den
end

section
namespace Den
open Go
def Sub(h:Hp)(w:World):Prop:=∀k b,h k=some b->w.heap[k]?=some (.cells b.cells.toArray b.elem b.fz)
theorem Sub.cell{h:Hp}{w:World}(hs:Sub h w){a:Addr}{v:Value}(e:h.cell a=some v):w.cell? a=some v:=by
 unfold Hp.cell at e;unfold World.cell?;cases hsp:a.spot with
 | some x=>rw[hsp]at e;cases e
 | none=>
   rw[hsp]at e;simp only at e;cases hb:h a.block with
   | none=>rw[hb]at e;cases e
   | some b=>rw[hb]at e;simp only at e;rw[hs _ _ hb];simpa using e
theorem Sub.mono{h h':Hp}{w:World}(hs:Sub h' w)(hl:h.le h'):Sub h w:=λk b e=>hs k b (hl k b e)
theorem Sub.lt{h:Hp}{w:World}(hs:Sub h w){k:Nat}{b:Blk}(e:h k=some b):k<w.heap.size:=by
 rcases Jo k w.heap.size with h' | h'
 . exact h'
 . have:=hs k b e;rw[Tg h']at this;cases this
theorem Sub.fresh{h:Hp}{w:World}(hs:Sub h w){k:Nat}(e:w.heap.size<=k):h k=none:=by
 cases hk:h k with
 | none=>rfl
 | some b=>have:=hs.lt hk;omega
section
variable {P : Program} {w : World}
theorem Sub.fin{h:Hp}{w:World}(hs:Sub h w):h.Fin:=⟨w.heap.size,λ_ hk=>hs.fresh hk⟩
theorem zpi{op:BinOp}{k k':IntKind}{a b:Int}{K:Value->Prop}(h:zph op k k' a b K)(t:TypeId) :
 ∃r,K r/\(binOp op t (.int k a) (.int k' b)).run P w=.ok r w:=by
 cases op
 case shl=>
  obtain⟨hb,hK⟩:0<=b/\K (.int k (k.wrap (a*2 ^ (min b.toNat k.bits)))):=h;refine⟨_,hK,?_⟩;show(Op.shift .shl k a k' b).run P w=_;unfold Op.shift;rw[if_neg (by omega)];rfl
 case shr=>
  obtain⟨hb,hK⟩:0<=b/\K (.int k (a.fdiv (2 ^ (min b.toNat k.bits)))):=h;refine⟨_,hK,?_⟩;show(Op.shift .shr k a k' b).run P w=_;unfold Op.shift;rw[if_neg (by omega)];rfl
 case quo=>
  obtain⟨rfl,hb,hK⟩:k=k'/\b≠0/\K (.int k (k.wrap (a.tdiv b))):=Qd.1 h;refine⟨_,hK,?_⟩;show(if k≠k then stuck "BinOp: operands of different kinds" else Op.intDiv .quo k a b).run P w=_;rw[if_neg (by simp)];unfold Op.intDiv;rw[if_neg hb];rfl
 case rem=>
  obtain⟨rfl,hb,hK⟩:k=k'/\b≠0/\K (.int k (a.tmod b)):=Qd.1 h;refine⟨_,hK,?_⟩;show(if k≠k then stuck "BinOp: operands of different kinds" else Op.intDiv .rem k a b).run P w=_;rw[if_neg (by simp)];unfold Op.intDiv;rw[if_neg hb];rfl
 case add=>
  obtain⟨rfl,hK⟩:k=k'/\K (.int k (k.wrap (a+b))):=Qd.1 h;refine⟨_,hK,?_⟩;show(if k≠k then stuck "BinOp: operands of different kinds" else Op.intArith .add k a b).run P w=_;rw[if_neg (by simp)];rfl
 case sub=>
  obtain⟨rfl,hK⟩:k=k'/\K (.int k (k.wrap (a-b))):=Qd.1 h;refine⟨_,hK,?_⟩;show(if k≠k then stuck "BinOp: operands of different kinds" else Op.intArith .sub k a b).run P w=_;rw[if_neg (by simp)];rfl
 case mul=>
  obtain⟨rfl,hK⟩:k=k'/\K (.int k (k.wrap (a*b))):=Qd.1 h;refine⟨_,hK,?_⟩;show(if k≠k then stuck "BinOp: operands of different kinds" else Op.intArith .mul k a b).run P w=_;rw[if_neg (by simp)];rfl
 case and=>
  obtain⟨rfl,hK⟩:k=k'/\K (.int k (qu .and k a b)):=Qd.1 h;refine⟨_,hK,?_⟩;show(if k≠k then stuck "BinOp: operands of different kinds" else Op.intBits .and k a b).run P w=_;rw[if_neg (by simp)];rfl
 case or=>
  obtain⟨rfl,hK⟩:k=k'/\K (.int k (qu .or k a b)):=Qd.1 h;refine⟨_,hK,?_⟩;show(if k≠k then stuck "BinOp: operands of different kinds" else Op.intBits .or k a b).run P w=_;rw[if_neg (by simp)];rfl
 case xor=>
  obtain⟨rfl,hK⟩:k=k'/\K (.int k (qu .xor k a b)):=Qd.1 h;refine⟨_,hK,?_⟩;show(if k≠k then stuck "BinOp: operands of different kinds" else Op.intBits .xor k a b).run P w=_;rw[if_neg (by simp)];rfl
 case andNot=>
  obtain⟨rfl,hK⟩:k=k'/\K (.int k (qu .andNot k a b)):=Qd.1 h;refine⟨_,hK,?_⟩;show(if k≠k then stuck "BinOp: operands of different kinds" else Op.intBits .andNot k a b).run P w=_;rw[if_neg (by simp)];rfl
 all_goals
  obtain⟨rfl,hK⟩:=Qd.1 h;refine⟨_,hK,?_⟩;show(if k≠k then stuck "BinOp: operands of different kinds" else Op.intCmp _ a b).run P w=_;rw[if_neg (by simp)];rfl
theorem zl{t:TypeId}{d:TypeDesc}(h:P.underlying t=some d):(underlying t).run P w=.ok d w:=by
 unfold Go.underlying;simp only[Jg,run_program,Jb,h,Ji]
theorem zpd(d:Nat){t:TypeId}{a b:Bool}(hu:P.underlying t=some .bool):(Ll (d+1) t (.bool a) (.bool b)).run P w=.ok (a==b) w:=by
 unfold Ll;simp only[Jg,zl hu,Jb,Ji]
theorem zk7{t:TypeId}{a b:Bool}(hu:P.underlying t=some .bool):(Op.equal t (.bool a) (.bool b)).run P w=.ok (a==b) w:=
 zpd 9999 hu
theorem zrx(d:Nat){t e:TypeId}{a:Option Addr}{l c l' c':Nat}(hu:P.underlying t=some (.slice e)) :
 (Ll (d+1) t (.slice a l c) (.slice none l' c')).run P w=.ok a.isNone w:=by
 unfold Ll;cases a<;>simp only[Jg,zl hu,Jb,Ji]<;>rfl
theorem zna{t e:TypeId}{a:Option Addr}{l c l' c':Nat}(hu:P.underlying t=some (.slice e)) :
 (Op.equal t (.slice a l c) (.slice none l' c')).run P w=.ok a.isNone w:=
 zrx 9999 hu
theorem zi4(d:Nat){t:TypeId}{k k':IntKind}{a b:Int}(hu:P.underlying t=some (.int k')):(Ll (d+1) t (.int k a) (.int k b)).run P w=.ok (a==b) w:=by
 unfold Ll;simp only[Jg,zl hu,Jb];rfl
theorem Z18{t:TypeId}{k:IntKind}(hu:P.underlying t=some (.int k)):(isAgg t).run P w=.ok false w:=by
 simp only[isAgg,Jg,zl hu,Jb,Ji]
theorem zfz{t:TypeId}{k:IntKind}(hu:P.underlying t=some (.int k)){cs:Array Value}{i:Nat}{v:Value}(hv:cs[i]?=some v):(part t cs i).run P w=.ok v w:=by
 unfold part;simp only[Jg,Z18 hu,Jb,hv];rfl
theorem Z0u{t el:TypeId}{kk k k2:IntKind}{a b c d:Int}(hu:P.underlying t=some (.array 2 el))(he:P.underlying el=some (.int kk))(hc:∀w,(Go.sizeOf el).run P w=.ok 1 w) :
 (Op.equal t (.agg #[.int k a,.int k2 b]) (.agg #[.int k c,.int k2 d])).run P w=.ok (a==c&&b==d) w:=by
 show(Ll (9999+1) t _ _).run P w=_;unfold Ll;simp only[Jg,zl hu,Jb,hc];simp only[Std.Legacy.Range.forIn_eq_forIn_range',Std.Legacy.Range.size,Nat.sub_zero,Nat.add_sub_cancel,Nat.div_one,List.range'_succ,List.range'_zero,List.forIn_cons,List.forIn_nil];have p1:∀w,(part el #[Ge k a,Ge k2 b] (0*1)).run P w=.ok (.int k a) w:=λw=>zfz he rfl
 have p2:∀w,(part el #[Ge k c,Ge k2 d] (0*1)).run P w=.ok (.int k c) w:=λw=>zfz he rfl
 have p3:∀w,(part el #[Ge k a,Ge k2 b] ((0+1)*1)).run P w=.ok (.int k2 b) w:=λw=>zfz he rfl
 have p4:∀w,(part el #[Ge k c,Ge k2 d] ((0+1)*1)).run P w=.ok (.int k2 d) w:=λw=>zfz he rfl
 have q1:∀w,(Ll 9999 el (.int k a) (.int k c)).run P w=.ok (a==c) w:=λw=>zi4 9998 he
 have q2:∀w,(Ll 9999 el (.int k2 b) (.int k2 d)).run P w=.ok (b==d) w:=λw=>zi4 9998 he
 simp only[Jg,p1,p2,q1,Jb];cases h1:(a==c)
 . simp
 . simp only[Bool.not_true,J0,if_false,Ji,Jb,Jg,p3,p4,q2];cases h2:(b==d)<;>simp
theorem zuw{op:BinOp}{t:TypeId}{x y:Value}{K:Value->Prop}(h:Z33 P t op x y K)(ox oy:Operand) :
 ∃r,K r/\(eqGuard op t ox oy x y >>= λ_=>binOp op t x y).run P w=.ok r w:=by
 unfold Z33 at h;split at h
 . rename_i k a k' b;obtain⟨r,hK,hr⟩:=zpi (P:=P) (w:=w) h t;refine⟨r,hK,?_⟩;have:(eqGuard op t ox oy (.int k a) (.int k' b)).run P w=.ok () w:=by
    unfold eqGuard;split<;>simp
   simp[this,hr]
 . rename_i a b;have hg:(eqGuard op t ox oy (.string a) (.string b)).run P w=.ok () w:=by
    unfold eqGuard;split<;>simp
   split at h
   . refine⟨_,h.2,?_⟩;simp only[Jg,hg,Jb,binOp,Op.stringOp];rw[if_neg (by have:=h.1;simp[IntKind.max,G0,G6];omega)];rfl
   . exact⟨_,h,by simp[hg,binOp,Op.stringOp]⟩
   . exact⟨_,h,by simp[hg,binOp,Op.stringOp]⟩
   . exact h.elim
 . rename_i a b;have hg:(eqGuard op t ox oy (.bool a) (.bool b)).run P w=.ok () w:=by
    unfold eqGuard;split<;>simp
   split at h
   . rename_i hu;refine⟨_,h,?_⟩;simp only[Jg,hg,Jb];show(Op.equal t (.bool a) (.bool b) >>= λr=>Pure.pure (T6 r)).run P w=_;simp only[Jg,zk7 hu,Jb,Ji]
   . rename_i hu;refine⟨_,h,?_⟩;simp only[Jg,hg,Jb];show(Op.equal t (.bool a) (.bool b) >>= λr=>Pure.pure (T6 (!r))).run P w=_;simp only[Jg,zk7 hu,Jb,Ji]
   . exact h.elim
 . rename_i a l c l' c';have hg:(eqGuard op t ox oy (.slice a l c) (.slice none l' c')).run P w=.ok () w:=by
    unfold eqGuard;split<;>simp
   split at h
   . rename_i hu;refine⟨_,h,?_⟩;simp only[Jg,hg,Jb];show(Op.equal t (.slice a l c) (.slice none l' c') >>= λr=>Pure.pure (T6 r)).run P w=_;simp only[Jg,zna hu,Jb,Ji]
   . rename_i hu;refine⟨_,h,?_⟩;simp only[Jg,hg,Jb];show(Op.equal t (.slice a l c) (.slice none l' c') >>= λr=>Pure.pure (T6 (!r))).run P w=_;simp only[Jg,zna hu,Jb,Ji]
   . exact h.elim
 . rename_i xs ys;unfold Zjj at h;split at h
   . rename_i el hu;split at h
     . rename_i kk he hc hg0;have hc:=Um hc;split at h
       . rename_i k a k2 b k3 c k4 d hx hy;obtain⟨e1,h'⟩:=Qd.1 h;obtain⟨e2,h''⟩:=Qd.1 h';clear h h';subst e1 e2;have h:=h'';clear h'';have ex:xs=#[.int k a,.int k2 b]:=by rw[<-Array.toArray_toList (xs:=xs),hx]
         have ey:ys=#[.int k c,.int k2 d]:=by rw[<-Array.toArray_toList (xs:=ys),hy]
         subst ex ey;have hz:∀w,(Go.sizeOf el).run P w=.ok 1 w:=λw=>by
          cases hi:P.info? el with
          | none=>simp[Program.cellsOf,hi]at hc
          | some i=>
            have:i.size=1:=by simpa [Program.cellsOf,hi] using hc
            simp[Go.sizeOf,typeInfo,hi,this]
         have hg:(eqGuard op t ox oy (.agg #[.int k a,.int k2 b]) (.agg #[.int k c,.int k2 d])).run P w=.ok () w:=by
          cases op<;>simp[eqGuard,run_program,hg0]
         have he2:(Op.equal t (.agg #[.int k a,.int k2 b]) (.agg #[.int k c,.int k2 d])).run P w=.ok (a==c&&b==d) w:=Z0u hu he hz;split at h
         . refine⟨_,h,?_⟩;simp only[Jg,hg,Jb];show(Op.equal t (.agg #[.int k a,.int k2 b]) (.agg #[.int k c,.int k2 d]) >>= λr=>Pure.pure (T6 r)).run P w=_;simp only[Jg,he2,Jb,Ji]
         . refine⟨_,h,?_⟩;simp only[Jg,hg,Jb];show(Op.equal t (.agg #[.int k a,.int k2 b]) (.agg #[.int k c,.int k2 d]) >>= λr=>Pure.pure (T6 (!r))).run P w=_;simp only[Jg,he2,Jb,Ji]
         . exact h.elim
       . exact h.elim
     . exact h.elim
   . exact h.elim
 . exact h.elim
theorem Z2m{op:UnOp}{x:Value}{K:Value->Prop}(h:unP op x K):∃r,K r/\(Op.unary op x).run P w=.ok r w:=by
 unfold unP at h;split at h
 . exact⟨_,h,by simp[Op.unary]⟩
 . exact⟨_,h,by simp[Op.unary,Op.intArith]⟩
 . exact h.elim
theorem z7b{t:TypeId}{b:Bool}(h:isAgg? P t=some b):(isAgg t).run P w=.ok b w:=by
 unfold isAgg? at h;cases hd:P.underlying t with
 | none=>rw[hd]at h;cases h
 | some d=>
   rw[hd]at h;simp only[isAgg,Jg,zl hd,Jb];cases d<;>simp_all
theorem yt{t:TypeId}{i:TypeInfo}(h:P.info? t=some i):(Go.sizeOf t).run P w=.ok i.size w:=by
 simp[Go.sizeOf,typeInfo,h]
theorem Yp{t:TypeId}{i:TypeInfo}(h:P.info? t=some i):P.cellsOf t=i.size:=by simp[Program.cellsOf,h]
theorem za4{t:TypeId}{i:TypeInfo}(h:P.info? t=some i):P.bytesOf t=i.bytes:=by simp[Program.bytesOf,h]
theorem z2z{t:TypeId}{d:TypeDesc}(h:P.underlying t=some d):∃i,P.info? t=some i:=by
 cases hi:P.info? t with
 | none=>simp[Program.underlying,hi]at h
 | some i=>exact⟨i,rfl⟩
theorem zpm{n:Nat}{t:TypeId}{ls:List Lf}(h:zeo P n t=some ls):∃d,P.underlying t=some d:=by
 cases n with
 | zero=>simp[zeo]at h
 | succ n=>
   cases hd:P.underlying t with
   | none=>simp[zeo,hd]at h
   | some d=>exact⟨d,rfl⟩
theorem zkr{h:Hp}(hs:Sub h w):∀{ls:List Lf} {a:Addr} {i:Nat} {K:List Value->Prop},Z9e ls a i K h ->
 ∃vs,K vs/\vs.length=ls.length/\∀acc,(loadCellsFrom a i ls.length acc).run P w=.ok (acc++vs.toArray) w
 | [],a,i,K,hk=>⟨[],hk,rfl,λacc=>by simp[loadCellsFrom]⟩
 | l :: r,a,i,K,hk=>by
   obtain⟨x,hx,hk⟩:=hk;obtain⟨vs,h1,h2,h3⟩:=zkr hs hk;refine⟨l.up x :: vs,h1,by simp[h2],λacc=>?_⟩;have hc:=hs.cell hx;simp only[List.length_cons,loadCellsFrom,Jg,run_load,hc,Jb];rw[h3];simp
theorem Z1a{h:Hp}(hs:Sub h w){t:TypeId}{a:Addr}{K:Value->Prop}(hk:ldT P t a K h) :
 ∃v,K v/\(loadVar t a).run P w=.ok v w:=by
 unfold ldT at hk;split at hk
 . rename_i ls hl;obtain⟨d,hd⟩:=zpm hl;obtain⟨i,hi⟩:=z2z hd;split at hk
   . exact hk.elim
   . rename_i hagg;split at hk
     . rename_i hlen;obtain⟨vs,h1,h2,h3⟩:=zkr (P:=P) hs hk;refine⟨_,h1,?_⟩;have hlen':ls.length=i.size:=by have:=Um hlen;rw[this,Yp hi]
       simp only[loadVar,Jg,z7b hagg,Jb,if_true,yt hi,loadCells,<-hlen',h3,Ji];simp
     . exact hk.elim
   . rename_i hagg;split at hk
     . rename_i l;obtain⟨x,hx,hk⟩:=hk;refine⟨_,hk,?_⟩;simp[loadVar,z7b hagg,hs.cell hx]
     . exact hk.elim
 . exact hk.elim
end
end Den
end

section
namespace Den
open Go
def Fr(D:Hp)(w w':World):Prop:=
 w.heap.size<=w'.heap.size/\(∀k,k<w.heap.size->D k=none->w'.heap[k]?=w.heap[k]?)/\w'.tape=w.tape/\w'.os=w.os/\w'.output=w.output/\w.drawn<=w'.drawn
theorem Fr.refl(D:Hp)(w:World):Fr D w w:=⟨Ja _,λ_ _ _=>rfl,rfl,rfl,rfl,Ja _⟩
def z6a(K:Value->Hp->Prop)(D:Hp)(w:World):Ending->World->Prop:=λe w'=>
 ∃v h',e=.returned v/\K v h'/\Sub h' w'/\Fr D w w'/\∀k,h' k≠none->D k=none->w.heap.size<=k
def z36:Slot->Bool
 | .box _ | .lit _ _ | .mp _=>true
 | _=>false
def z6s(b:Nat):Slot->Value
 | .lit _ n=>.slice (some ⟨b,0,none⟩) n n
 | .mp _=>.map (some b)
 | _=>.pointer (some ⟨b,0,none⟩)
def Zjl:Slot->List Value
 | .box cs=>cs
 | .lit cs _=>cs
 | _=>[]
def zb8(w:World)(b:Nat)(el:TypeId):Slot->Prop
 | .mp m=>∃es clock,w.heap[b]?=some (.map es clock)/\es.toList.map (λx=>(x.key,x.val))=m.map λp=>(.int .i64 p.1,.bool p.2)
 | s=>w.heap[b]?=some (.cells (Zjl s).toArray el (0,0))
def zl6:Obj->Prop
 | .cells ..=>True
 | .map ..=>True
 | _=>False
theorem zb8.obj{w:World}{b:Nat}{el:TypeId}{s:Slot}(h:zb8 w b el s):∃o,zl6 o/\w.heap[b]?=some o:=by
 cases s
 case mp m=>obtain⟨es,c,h1,_⟩:=h;exact⟨.map es c,trivial,h1⟩
 all_goals exact⟨.cells _ _ _,trivial,h⟩
theorem zb8.mono{w w':World}{b:Nat}{el:TypeId}{s:Slot}(h:zb8 w b el s)(hw:∀o,zl6 o->w.heap[b]?=some o->w'.heap[b]?=some o):zb8 w' b el s:=by
 cases s
 case mp m=>obtain⟨es,c,h1,h2⟩:=h;exact⟨es,c,hw _ trivial h1,h2⟩
 all_goals exact hw _ trivial h
theorem zb8.lt{w:World}{b:Nat}{el:TypeId}{s:Slot}(h:zb8 w b el s):b<w.heap.size:=by
 obtain⟨o,_,h1⟩:=h.obj;rcases Jo b w.heap.size with h' | h'
 . exact h'
 . rw[Tg h']at h1;cases h1
def z5o(N:Nat)(w:World):List Deferred->Prop
 | []=>True
 | d :: ds=>(∃r,d={ target:=.collected r,args:=#[] }/\N<=r/\w.heap[r]?=some (.deferred (some []))/\∀d'∈ds,d'≠d)/\z5o N w ds
theorem z5o.mono{N N':Nat}{w w':World}(hN:N'<=N)(hw:∀r:Nat,w.heap[r]?=some (.deferred (some []))->w'.heap[r]?=some (.deferred (some []))):∀{ds:List Deferred},z5o N w ds->z5o N' w' ds
 | [],_=>trivial
 | _ :: _,⟨⟨r,h1,h2,h3,h4⟩,h⟩=>⟨⟨r,h1,Jt hN h2,hw r h3,h4⟩,z5o.mono hN hw h⟩
structure Base where
 D:Hp
 w:World
 nb:Nat:=0
structure Rel(C:Cfg)(B:Base)(e:Env)(h:Hp)(a:Act)(w:World):Prop where
 sub:Sub h w
 sz:a.tmps.size=C.n
 defers:z5o B.nb w a.defers
 fr:Fr B.D B.w w
 dom:∀k,h k≠none->B.D k=none->B.w.heap.size<=k
 vals:∀t v,e t=.val v->a.tmps[t]?=some v
 hid:∀t,z36 (e t)=true->C.loc t=true/\∃b el,a.tmps[t]?=some (z6s b (e t))/\zb8 w b el (e t)/\h b=none/\(B.w.heap.size<=b\/B.D b≠none)
 inj:∀t t' b,z36 (e t)=true->z36 (e t')=true->a.tmps[t]?=some (z6s b (e t))->a.tmps[t']?=some (z6s b (e t'))->t=t'
 refs:∀t off,e t=.ref off->∃cs b,e (C.rt t)=.box cs/\a.tmps[C.rt t]?=some (.pointer (some ⟨b,0,none⟩))/\a.tmps[t]?=some (.pointer (some ⟨b,off,none⟩))
 mrs:∀t,e t=.mr->t<C.n/\C.loc (C.rt t)=true/\z06 (C.rt t) C.mapL=true/\a.tmps[t]?=a.tmps[C.rt t]?
section
variable {C : Cfg} {B : Base} {e : Env} {h : Hp} {a : Act} {w : World}
theorem z6o{t d:Nat}(hn:t≠d):Gv t d=false:=by
 cases hb:Gv t d with
 | false=>rfl
 | true=>exact absurd (Um hb) hn
theorem zjl(t:Nat):Gv t t=true:=Nat.beq_refl t
@[simp] theorem Env.set_same (e:Env) (d:Nat) (s:Slot):e.set d s d=s:=by simp[Env.set]
theorem Env.set_ne{e:Env}{d t:Nat}{s:Slot}(hn:t≠d):e.set d s t=e t:=by simp[Env.set,z6o hn]
theorem zck{d:Nat}{v:Value}(hd:d<a.tmps.size):(a.put (some d) v).tmps[d]?=some v:=by
 simp[Act.put,hd]
theorem Yn{d t:Nat}{v:Value}(hn:t≠d):(a.put (some d) v).tmps[t]?=a.tmps[t]?:=by
 simp[Act.put,Ne.symm hn]
theorem zcl{d:Option Nat}{v:Value}:(a.put d v).tmps.size=a.tmps.size:=by cases d<;>simp[Act.put]
theorem z7z{d:Option Nat}{v:Value}:(a.put d v).defers=a.defers:=by cases d<;>simp[Act.put]
theorem zc5{b b':Nat}{s:Slot}(h:z6s b s=z6s b' s):b=b':=by
 cases s<;>simp[z6s]at h<;>exact h
theorem Rel.setVal(hR:Rel C B e h a w){d:Nat}{v:Value}(hl:C.loc d=false)(hd:d<C.n):Rel C B (e.set d (.val v)) h (a.put (some d) v) w where
 sub:=hR.sub
 sz:=by rw[zcl];exact hR.sz
 defers:=by rw[z7z];exact hR.defers
 fr:=hR.fr
 dom:=hR.dom
 vals:=λt u ht=>by
  by_cases htd:t=d
  . subst htd;rw[Env.set_same]at ht;cases ht;exact zck (by rw[hR.sz];exact hd)
  . rw[Env.set_ne htd]at ht;rw[Yn htd];exact hR.vals t u ht
 hid:=λt ht=>by
  by_cases htd:t=d
  . subst htd;rw[Env.set_same]at ht;cases ht
  . rw[Env.set_ne htd]at ht |-;rw[Yn htd];exact hR.hid t ht
 inj:=λt t' b h1 h2 h3 h4=>by
  by_cases htd:t=d
  . subst htd;rw[Env.set_same]at h1;cases h1
  . by_cases htd':t'=d
    . subst htd';rw[Env.set_same]at h2;cases h2
    . rw[Env.set_ne htd]at h1 h3;rw[Env.set_ne htd']at h2 h4;rw[Yn htd]at h3;rw[Yn htd']at h4;exact hR.inj t t' b h1 h2 h3 h4
 refs:=λt off ht=>by
  by_cases htd:t=d
  . subst htd;rw[Env.set_same]at ht;cases ht
  . rw[Env.set_ne htd]at ht;obtain⟨cs,b,h1,h2,h3⟩:=hR.refs t off ht;have hr:C.rt t≠d:=λhh=>by
     have:=(hR.hid (C.rt t) (by rw[h1];rfl)).1;rw[hh,hl]at this;cases this
    exact⟨cs,b,by rw[Env.set_ne hr];exact h1,by rw[Yn hr];exact h2,by rw[Yn htd];exact h3⟩
 mrs:=λt ht=>by
  by_cases htd:t=d
  . subst htd;rw[Env.set_same]at ht;cases ht
  . rw[Env.set_ne htd]at ht;obtain⟨g0,g1,g2,g3⟩:=hR.mrs t ht;have hr:C.rt t≠d:=λhh=>by rw[hh,hl]at g1;cases g1
    exact⟨g0,g1,g2,by rw[Yn htd,Yn hr];exact g3⟩
theorem Rel.setRef(hR:Rel C B e h a w){d b off:Nat}{cs:List Value}(hl:C.loc d=false)(hd:d<C.n)(hb:e (C.rt d)=.box cs)
 (hp:a.tmps[C.rt d]?=some (.pointer (some ⟨b,0,none⟩))):Rel C B (e.set d (.ref off)) h (a.put (some d) (.pointer (some ⟨b,off,none⟩))) w where
 sub:=hR.sub
 sz:=by rw[zcl];exact hR.sz
 defers:=by rw[z7z];exact hR.defers
 fr:=hR.fr
 dom:=hR.dom
 vals:=λt u ht=>by
  by_cases htd:t=d
  . subst htd;rw[Env.set_same]at ht;cases ht
  . rw[Env.set_ne htd]at ht;rw[Yn htd];exact hR.vals t u ht
 hid:=λt ht=>by
  by_cases htd:t=d
  . subst htd;rw[Env.set_same]at ht;cases ht
  . rw[Env.set_ne htd]at ht |-;rw[Yn htd];exact hR.hid t ht
 inj:=λt t' b h1 h2 h3 h4=>by
  by_cases htd:t=d
  . subst htd;rw[Env.set_same]at h1;cases h1
  . by_cases htd':t'=d
    . subst htd';rw[Env.set_same]at h2;cases h2
    . rw[Env.set_ne htd]at h1 h3;rw[Env.set_ne htd']at h2 h4;rw[Yn htd]at h3;rw[Yn htd']at h4;exact hR.inj t t' b h1 h2 h3 h4
 refs:=λt off' ht=>by
  have hrd:∀t',(∃cs,e t'=.box cs)->t'≠d:=λt' ⟨cs,h1⟩ hh=>by
   have:=(hR.hid t' (by rw[h1];rfl)).1;rw[hh,hl]at this;cases this
  by_cases htd:t=d
  . subst htd;rw[Env.set_same]at ht;cases ht;have hr:=hrd _ ⟨cs,hb⟩;exact⟨cs,b,by rw[Env.set_ne hr];exact hb,by rw[Yn hr];exact hp,zck (by rw[hR.sz];exact hd)⟩
  . rw[Env.set_ne htd]at ht;obtain⟨cs,b,h1,h2,h3⟩:=hR.refs t off' ht;have hr:=hrd _ ⟨cs,h1⟩;exact⟨cs,b,by rw[Env.set_ne hr];exact h1,by rw[Yn hr];exact h2,by rw[Yn htd];exact h3⟩
 mrs:=λt ht=>by
  by_cases htd:t=d
  . subst htd;rw[Env.set_same]at ht;cases ht
  . rw[Env.set_ne htd]at ht;obtain⟨g0,g1,g2,g3⟩:=hR.mrs t ht;have hr:C.rt t≠d:=λhh=>by rw[hh,hl]at g1;cases g1
    exact⟨g0,g1,g2,by rw[Yn htd,Yn hr];exact g3⟩
theorem Rel.setMr(hR:Rel C B e h a w){d r:Nat}{v:Value}(hl:C.loc d=false)(hd:d<C.n)(hr:C.rt d=r)(hlr:C.loc r=true)(hm:z06 r C.mapL=true)(hp:a.tmps[r]?=some v):Rel C B (e.set d .mr) h (a.put (some d) v) w where
 sub:=hR.sub
 sz:=by rw[zcl];exact hR.sz
 defers:=by rw[z7z];exact hR.defers
 fr:=hR.fr
 dom:=hR.dom
 vals:=λt u ht=>by
  by_cases htd:t=d
  . subst htd;rw[Env.set_same]at ht;cases ht
  . rw[Env.set_ne htd]at ht;rw[Yn htd];exact hR.vals t u ht
 hid:=λt ht=>by
  by_cases htd:t=d
  . subst htd;rw[Env.set_same]at ht;cases ht
  . rw[Env.set_ne htd]at ht |-;rw[Yn htd];exact hR.hid t ht
 inj:=λt t' b h1 h2 h3 h4=>by
  by_cases htd:t=d
  . subst htd;rw[Env.set_same]at h1;cases h1
  . by_cases htd':t'=d
    . subst htd';rw[Env.set_same]at h2;cases h2
    . rw[Env.set_ne htd]at h1 h3;rw[Env.set_ne htd']at h2 h4;rw[Yn htd]at h3;rw[Yn htd']at h4;exact hR.inj t t' b h1 h2 h3 h4
 refs:=λt off ht=>by
  by_cases htd:t=d
  . subst htd;rw[Env.set_same]at ht;cases ht
  . rw[Env.set_ne htd]at ht;obtain⟨cs,b,h1,h2,h3⟩:=hR.refs t off ht;have hr:C.rt t≠d:=λhh=>by
     have:=(hR.hid (C.rt t) (by rw[h1];rfl)).1;rw[hh,hl]at this;cases this
    exact⟨cs,b,by rw[Env.set_ne hr];exact h1,by rw[Yn hr];exact h2,by rw[Yn htd];exact h3⟩
 mrs:=λt ht=>by
  have hrd:r≠d:=λhh=>by rw[hh,hl]at hlr;cases hlr
  by_cases htd:t=d
  . subst htd;exact⟨hd,by rw[hr];exact hlr,by rw[hr];exact hm,by rw[hr,zck (by rw[hR.sz];exact hd),Yn hrd];exact hp.symm⟩
  . rw[Env.set_ne htd]at ht;obtain⟨g0,g1,g2,g3⟩:=hR.mrs t ht;have hr:C.rt t≠d:=λhh=>by rw[hh,hl]at g1;cases g1
    exact⟨g0,g1,g2,by rw[Yn htd,Yn hr];exact g3⟩
theorem Xl{o:Obj}{b:Nat}(hb:w.heap[b]?=some o):b<w.heap.size:=by
 rcases Jo b w.heap.size with h' | h'
 . exact h'
 . rw[Tg h']at hb;cases hb
theorem Rel.step(hR:Rel C B e h a w){h':Hp}{w':World}(hs:Sub h' w')(hf:Fr h w w')(hd:∀k,h' k≠none->h k=none->w.heap.size<=k):Rel C B e h' a w' where
 sub:=hs
 sz:=hR.sz
 defers:=hR.defers.mono (Ja _) λr hr=>by
  have hh:h r=none:=by
   cases hh:h r with
   | none=>rfl
   | some b=>rw[hR.sub r b hh]at hr;cases hr
  rw[hf.2.1 r (Xl hr) hh];exact hr
 fr:=by
  obtain⟨a1,a2,a3,a4,a5,a6⟩:=hR.fr;obtain⟨b1,b2,b3,b4,b5,b6⟩:=hf;refine⟨Jt a1 b1,λk hk hD=>?_,b3.trans a3,b4.trans a4,b5.trans a5,Jt a6 b6⟩;have hk':h k=none:=by
   cases hh:h k with
   | none=>rfl
   | some x=>have:=hR.dom k (by simp[hh]) hD;omega
  rw[b2 k (by omega) hk',a2 k hk hD]
 dom:=λk hk hD=>by
  cases hh:h k with
  | none=>have:=hd k hk hh;have:=hR.fr.1;omega
  | some x=>exact hR.dom k (by simp[hh]) hD
 vals:=hR.vals
 hid:=λt ht=>by
  obtain⟨h1,b,el,h2,h3,h4,h5⟩:=hR.hid t ht;have hlt:=h3.lt;refine⟨h1,b,el,h2,h3.mono λo _ ho=>by rw[hf.2.1 b hlt h4];exact ho,?_,h5⟩;cases hh:h' b with
  | none=>rfl
  | some x=>have:=hd b (by simp[hh]) h4;omega
 inj:=hR.inj
 refs:=hR.refs
 mrs:=hR.mrs
theorem Env.alloc_same(rt:Nat->Nat)(e:Env)(d:Nat)(s:Slot):e.alloc rt d s d=s:=by simp[Env.alloc]
theorem Env.alloc_ne{rt:Nat->Nat}{e:Env}{d t:Nat}{s:Slot}(hn:t≠d)(hx:∀o,e t≠.ref o):e.alloc rt d s t=e t:=by
 unfold Env.alloc;rw[z6o hn];show(match e t with | .ref o=>bif Gv (rt t) d then Slot.junk else .ref o | x=>x)=e t;cases he:e t with
 | ref o=>exact absurd he (hx o)
 | _=>rfl
theorem Env.alloc_val{rt:Nat->Nat}{e:Env}{d t:Nat}{s x:Slot}(hn:t≠d)(hx:e.alloc rt d s t=x)(hj:x≠.junk):e t=x/\(∀o,x=.ref o->rt t≠d):=by
 unfold Env.alloc at hx;simp only[z6o hn,cond_false]at hx;cases he:e t with
 | ref o=>
   rw[he]at hx;simp only at hx;by_cases hr:rt t=d
   . have:Gv (rt t) d=true:=by simp[hr]
     rw[this]at hx;simp at hx;exact absurd hx.symm hj
   . rw[z6o hr]at hx;simp at hx;exact⟨hx,λ_ _=>hr⟩
 | _=>rw[he]at hx;simp only at hx;exact⟨hx,λo ho=>by rw[ho]at hx;cases hx⟩
theorem z9i{o:Obj}{k:Nat}(hk:k<w.heap.size):(w.alloc o).heap[k]?=w.heap[k]?:=by
 show(w.heap.push o)[k]?=_;rw[Array.getElem?_push,if_neg (Nat.ne_of_lt hk)]
theorem z9h{o:Obj}:(w.alloc o).heap[w.heap.size]?=some o:=by
 show(w.heap.push o)[w.heap.size]?=_;simp
theorem Fr.alloc(D:Hp)(w:World)(o:Obj):Fr D w (w.alloc o):=
 ⟨by simp,λk hk _=>z9i hk,rfl,rfl,rfl,Ja _⟩
theorem Sub.alloc(hs:Sub h w)(o:Obj):Sub h (w.alloc o):=λk b hk=>by rw[z9i (hs.lt hk)];exact hs k b hk
theorem Rel.allocHid(hR:Rel C B e h a w){d:Nat}{s:Slot}{el:TypeId}{o:Obj}(hl:C.loc d=true)(hd:d<C.n)(hs:z36 s=true)(hat:zb8 (w.alloc o) w.heap.size el s)(hnm:∀t,e t=.mr->C.rt t≠d) :
 Rel C B (e.alloc C.rt d s) h (a.put (some d) (z6s w.heap.size s)) (w.alloc o) where
 sub:=hR.sub.alloc _
 sz:=by rw[zcl];exact hR.sz
 defers:=by rw[z7z];exact hR.defers.mono (Ja _) λr hr=>by rw[z9i (Xl hr)];exact hr
 fr:=(hR.step (hR.sub.alloc _) (Fr.alloc h w _) (λk h1 h2=>absurd h2 h1)).fr
 dom:=hR.dom
 vals:=λt u ht=>by
  by_cases htd:t=d
  . subst htd;rw[Env.alloc_same]at ht;subst ht;cases hs
  . rw[Yn htd];exact hR.vals t u (Env.alloc_val htd ht (by simp)).1
 hid:=λt ht=>by
  by_cases htd:t=d
  . subst htd;rw[Env.alloc_same];refine⟨hl,w.heap.size,el,zck (by rw[hR.sz];exact hd),hat,?_,.inl hR.fr.1⟩;exact hR.sub.fresh (Ja _)
  . have he:=Env.alloc_val htd (rfl:e.alloc C.rt d s t=_) (by intro hh;rw[hh]at ht;cases ht);rw[<-he.1]at ht |-
    obtain⟨h1,b,el',h2,h3,h4,h5⟩:=hR.hid t ht;exact⟨h1,b,el',by rw[Yn htd];exact h2,h3.mono λo _ ho=>by rw[z9i (Xl ho)];exact ho,h4,h5⟩
 inj:=λt t' b h1 h2 h3 h4=>by
  have old:∀t b,t≠d->z36 (e.alloc C.rt d s t)=true->(a.put (some d) (z6s w.heap.size s)).tmps[t]?=some (z6s b (e.alloc C.rt d s t)) ->
   z36 (e t)=true/\a.tmps[t]?=some (z6s b (e t))/\b<w.heap.size:=λt b htd i1 i2=>by
   have he:=Env.alloc_val htd (rfl:e.alloc C.rt d s t=_) (by intro hh;rw[hh]at i1;cases i1);rw[<-he.1]at i1 i2;rw[Yn htd]at i2;obtain⟨_,b',el',j2,j3,_,_⟩:=hR.hid t i1;rw[i2]at j2;have:=zc5 (J9 j2);subst this;exact⟨i1,i2,j3.lt⟩
  have new:∀b,(a.put (some d) (z6s w.heap.size s)).tmps[d]?=some (z6s b (e.alloc C.rt d s d))->b=w.heap.size:=λb i2=>by
   rw[zck (by rw[hR.sz];exact hd),Env.alloc_same]at i2;exact(zc5 (J9 i2)).symm
  by_cases htd:t=d
  . by_cases htd':t'=d
    . rw[htd,htd']
    . subst htd;have:=new b h3;have:=(old t' b htd' h2 h4).2.2;omega
  . by_cases htd':t'=d
    . subst htd';have:=new b h4;have:=(old t b htd h1 h3).2.2;omega
    . obtain⟨i1,i2,_⟩:=old t b htd h1 h3;obtain⟨j1,j2,_⟩:=old t' b htd' h2 h4;exact hR.inj t t' b i1 j1 i2 j2
 refs:=λt off ht=>by
  by_cases htd:t=d
  . subst htd;rw[Env.alloc_same]at ht;subst ht;cases hs
  . obtain⟨he,hr⟩:=Env.alloc_val htd ht (by simp);have hr:=hr off rfl;obtain⟨cs,b,h1,h2,h3⟩:=hR.refs t off he;refine⟨cs,b,?_,by rw[Yn hr];exact h2,by rw[Yn htd];exact h3⟩;rw[Env.alloc_ne hr (by intro o ho;rw[h1]at ho;cases ho)];exact h1
 mrs:=λt ht=>by
  by_cases htd:t=d
  . subst htd;rw[Env.alloc_same]at ht;subst ht;cases hs
  . obtain⟨he,_⟩:=Env.alloc_val htd ht (by simp);obtain⟨g0,g1,g2,g3⟩:=hR.mrs t he;exact⟨g0,g1,g2,by rw[Yn htd,Yn (hnm t he)];exact g3⟩
theorem Rel.allocJunk(hR:Rel C B e h a w){d:Nat}{v:Value}(hl:C.loc d=true)(hnm:∀t,e t=.mr->C.rt t≠d):Rel C B (e.alloc C.rt d .junk) h (a.put (some d) v) w where
 sub:=hR.sub
 sz:=by rw[zcl];exact hR.sz
 defers:=by rw[z7z];exact hR.defers
 fr:=hR.fr
 dom:=hR.dom
 vals:=λt u ht=>by
  by_cases htd:t=d
  . subst htd;rw[Env.alloc_same]at ht;cases ht
  . rw[Yn htd];exact hR.vals t u (Env.alloc_val htd ht (by simp)).1
 hid:=λt ht=>by
  by_cases htd:t=d
  . subst htd;rw[Env.alloc_same]at ht;cases ht
  . have he:=Env.alloc_val htd (rfl:e.alloc C.rt d .junk t=_) (by intro hh;rw[hh]at ht;cases ht);rw[<-he.1]at ht |-
    rw[Yn htd];exact hR.hid t ht
 inj:=λt t' b h1 h2 h3 h4=>by
  by_cases htd:t=d
  . subst htd;rw[Env.alloc_same]at h1;cases h1
  . by_cases htd':t'=d
    . subst htd';rw[Env.alloc_same]at h2;cases h2
    . have he:=Env.alloc_val htd (rfl:e.alloc C.rt d .junk t=_) (by intro hh;rw[hh]at h1;cases h1);have he':=Env.alloc_val htd' (rfl:e.alloc C.rt d .junk t'=_) (by intro hh;rw[hh]at h2;cases h2);rw[<-he.1]at h1 h3;rw[<-he'.1]at h2 h4;rw[Yn htd]at h3;rw[Yn htd']at h4;exact hR.inj t t' b h1 h2 h3 h4
 refs:=λt off ht=>by
  by_cases htd:t=d
  . subst htd;rw[Env.alloc_same]at ht;cases ht
  . obtain⟨he,hr⟩:=Env.alloc_val htd ht (by simp);have hr:=hr off rfl;obtain⟨cs,b,h1,h2,h3⟩:=hR.refs t off he;refine⟨cs,b,?_,by rw[Yn hr];exact h2,by rw[Yn htd];exact h3⟩;rw[Env.alloc_ne hr (by intro o ho;rw[h1]at ho;cases ho)];exact h1
 mrs:=λt ht=>by
  by_cases htd:t=d
  . subst htd;rw[Env.alloc_same]at ht;cases ht
  . obtain⟨he,_⟩:=Env.alloc_val htd ht (by simp);obtain⟨g0,g1,g2,g3⟩:=hR.mrs t he;exact⟨g0,g1,g2,by rw[Yn htd,Yn (hnm t he)];exact g3⟩
theorem Rel.setHid(hR:Rel C B e h a w){s b:Nat}{x y:Slot}{el:TypeId}(hb:e s=x)(hx:z36 x=true)(hy:z36 y=true)(hxy:∀b,z6s b y=z6s b x)(hbx:∀cs,x=.box cs->∃cs',y=.box cs')(hyr:∀o,y≠.ref o)
 (hp:a.tmps[s]?=some (z6s b x)) {w':World}
 (hn:zb8 w' b el y) (ho:∀k,k≠b->w'.heap[k]?=w.heap[k]?) (hz:w'.heap.size=w.heap.size)
 (ht:w'.tape=w.tape) (hos:w'.os=w.os) (hout:w'.output=w.output) (hdr:w.drawn<=w'.drawn):Rel C B (e.set s y) h a w':=by
 obtain⟨hl,b',el',h2,h3,h4,h5⟩:=hR.hid s (by rw[hb];exact hx);rw[hb]at h2 h3;have hbb:b'=b:=by rw[hp]at h2;exact(zc5 (J9 h2)).symm
 subst hbb;have hsub:Sub h w':=λk x hk=>by
  have hne:k≠b':=λhh=>by rw[hh,h4]at hk;cases hk
  rw[ho k hne];exact hR.sub k x hk
 have hval:∀v,y≠.val v:=λv hh=>by rw[hh]at hy;cases hy
 refine⟨hsub,hR.sz,hR.defers.mono (Ja _) (λr hr=>?_),?_,hR.dom,?_,?_,?_,?_,?_⟩
 . rw[ho r (λhh=>by
    subst hh;obtain⟨o,ho1,ho2⟩:=h3.obj;rw[hr]at ho2;cases ho2;exact ho1)];exact hr
 . obtain⟨a1,a2,a3,a4,a5,a6⟩:=hR.fr;refine⟨by omega,λk hk hD=>?_,ht.trans a3,hos.trans a4,hout.trans a5,Jt a6 hdr⟩;have hne:k≠b':=λhh=>by
    subst hh;rcases h5 with h5 | h5
    . omega
    . exact h5 hD
   rw[ho k hne];exact a2 k hk hD
 . intro t u htu;by_cases hts:t=s
   . subst hts;rw[Env.set_same]at htu;exact absurd htu (hval u)
   . rw[Env.set_ne hts]at htu;exact hR.vals t u htu
 . intro t hh;by_cases hts:t=s
   . subst hts;rw[Env.set_same];exact⟨hl,b',el,by rw[hxy];exact hp,hn,h4,h5⟩
   . rw[Env.set_ne hts]at hh |-
     obtain⟨i1,c,el2,i2,i3,i4,i5⟩:=hR.hid t hh;refine⟨i1,c,el2,i2,i3.mono λo _ hoo=>?_,i4,i5⟩;rw[ho c ?_];exact hoo;intro hcb;subst hcb;exact hts (hR.inj t s c hh (by rw[hb];exact hx) i2 (by rw[hb];exact hp))
 . intro t t' c i1 i2 i3 i4;have back:∀t c,z36 (e.set s y t)=true->a.tmps[t]?=some (z6s c (e.set s y t))->z36 (e t)=true/\a.tmps[t]?=some (z6s c (e t)):=λt c j1 j2=>by
    by_cases hts:t=s
    . subst hts;rw[Env.set_same]at j1 j2;rw[hb];exact⟨hx,by rw[<-hxy];exact j2⟩
    . rw[Env.set_ne hts]at j1 j2;exact⟨j1,j2⟩
   obtain⟨k1,k2⟩:=back t c i1 i3;obtain⟨l1,l2⟩:=back t' c i2 i4;exact hR.inj t t' c k1 l1 k2 l2
 . intro t off hto;have hts:t≠s:=λhh=>by subst hh;rw[Env.set_same]at hto;exact absurd hto (hyr off)
   rw[Env.set_ne hts]at hto;obtain⟨cs2,c,i1,i2,i3⟩:=hR.refs t off hto;by_cases hrs:C.rt t=s
   . obtain⟨cs',hcs⟩:=hbx cs2 (by rw[<-hb,<-hrs];exact i1);exact⟨cs',c,by rw[hrs,Env.set_same];exact hcs,i2,i3⟩
   . exact⟨cs2,c,by rw[Env.set_ne hrs];exact i1,i2,i3⟩
 . intro t hto;have hts:t≠s:=λhh=>by subst hh;rw[Env.set_same]at hto;rw[hto]at hy;cases hy
   rw[Env.set_ne hts]at hto;exact hR.mrs t hto
theorem Rel.setBox(hR:Rel C B e h a w){s b:Nat}{cs cs':List Value}{el:TypeId}(hb:e s=.box cs)(hp:a.tmps[s]?=some (.pointer (some ⟨b,0,none⟩))){w':World}
 (hn:w'.heap[b]?=some (.cells cs'.toArray el (0,0))) (ho:∀k,k≠b->w'.heap[k]?=w.heap[k]?) (hz:w'.heap.size=w.heap.size)
 (ht:w'.tape=w.tape) (hos:w'.os=w.os) (hout:w'.output=w.output) (hdr:w.drawn<=w'.drawn):Rel C B (e.set s (.box cs')) h a w':=
 hR.setHid (y:=.box cs') (el:=el) hb rfl rfl (λ_=>rfl) (λ_ _=>⟨_,rfl⟩) (λ_ hh=>by cases hh) hp hn ho hz ht hos hout hdr
theorem Rel.setSame(hR:Rel C B e h a w){d:Nat}{s:Slot}(hs:e d=s):e.set d s=e:=by
 funext t;by_cases ht:t=d
 . subst ht;rw[Env.set_same,hs]
 . rw[Env.set_ne ht]
end
end Den
end

section
namespace Den
open Go
def V2(w:World)(b:Nat)(o:Obj):World:={ w with heap:=w.heap.setIfInBounds b o }
section
variable {P : Program} {w : World}
theorem z64{b:Nat}{o:Obj}:(V2 w b o).heap.size=w.heap.size:=by simp[V2]
theorem z3d{b:Nat}{o:Obj}(h:b<w.heap.size):(V2 w b o).heap[b]?=some o:=by simp[V2,h]
theorem z4u{b k:Nat}{o:Obj}(h:k≠b):(V2 w b o).heap[k]?=w.heap[k]?:=by simp[V2,Ne.symm h]
theorem zmp{b:Nat}{o o':Obj}:V2 (V2 w b o) b o'=V2 w b o':=by
 simp[V2]
theorem zte{b:Nat}{o:Obj}(h:w.heap[b]?=some o):V2 w b o=w:=by
 have hlt:=Xl h;unfold V2;have:w.heap.setIfInBounds b o=w.heap:=by
  apply Array.ext_getElem?;intro i;rw[Array.getElem?_setIfInBounds];by_cases hi:b=i
  . subst hi;simp only[if_true,hlt];exact h.symm
  . simp[hi]
 rw[this]
theorem zcy{b off:Nat}{c:Array Value}{el:TypeId}{fz:Nat×Nat}{v:Value}(h:w.heap[b]?=some (.cells c el fz)) :
 w.setCell ⟨b,off,none⟩ v=V2 w b (.cells (c.setIfInBounds off v) el fz):=by
 have hlt:=Xl h;unfold World.setCell V2;have:∀f:Obj->Obj,w.heap.modify b f=w.heap.setIfInBounds b (f (.cells c el fz)):=by
  intro f;apply Array.ext_getElem?;intro i;rw[Array.getElem?_setIfInBounds,Array.getElem?_modify];by_cases hi:b=i
  . subst hi;simp only[if_true,hlt,h,U0]
  . simp[hi]
 simp[this]
theorem z24{b off i:Nat}:(⟨b,off,none⟩:Addr).add i=⟨b,off+i,none⟩:=by
 unfold Addr.add;by_cases h:i=0<;>simp[h]
theorem Z9f{v:Value}(h:Value.leaf v=true):v.oneCell'=true:=by cases v<;>simp_all [Value.leaf,Value.oneCell']
theorem ztj{c:List Value}{off:Nat}{v:Value}{rest:List Value}(h:off<c.length) :
 Zc (c.set off v) (off+1) rest=Zc c off (v :: rest):=by
 unfold Zc;have h1:(c.set off v).take (off+1)=c.take off++[v]:=by
  rw[List.take_succ_eq_append_getElem (by simpa using h)];have:(c.set off v).take off=c.take off:=by rw[List.take_set_of_le (Ja _)]
  simp[this]
 have h2:(c.set off v).drop (off+1+rest.length)=c.drop (off+(v :: rest).length):=by
  rw[List.drop_set_of_lt (by omega)];simp;congr 1;omega
 rw[h1,h2];simp
theorem zxk{c:List Value}{off:Nat}:Zc c off []=c:=by simp[Zc]
theorem z43:∀{vs:List Value} {b off i:Nat} {c:Array Value} {el:TypeId} {w:World},
 w.heap[b]?=some (.cells c el (0,0))->off+i+vs.length<=c.size->vs.all Value.leaf=true ->
 (storeCells ⟨b,off,none⟩ vs i).run P w=.ok () (V2 w b (.cells (Zc c.toList (off+i) vs).toArray el (0,0)))
 | [],b,off,i,c,el,w,h,_,_=>by simp[storeCells,zxk,zte h]
 | v :: rest,b,off,i,c,el,w,h,hlen,hl=>by
   simp only[List.all_cons,Jv]at hl;simp only[List.length_cons]at hlen;have hc:w.cell? ⟨b,off+i,none⟩=some c[off+i]:=by
    unfold World.cell?;simp only[h];simp[show off+i<c.size by omega]
   have hf:w.frozen? ⟨b,off+i,none⟩=false:=by
    unfold World.frozen?;simp only[h];simp
   simp only[storeCells,Jg,z24,run_store P w _ v .plain (Z9f hl.1),hc,hf,zcy h];simp only[J0,if_false,Jb];have hn:=z3d (w:=w) (o:=.cells (c.setIfInBounds (off+i) v) el (0,0)) (Xl h);rw[z43 hn (by simp;omega) hl.2,zmp];congr 4;have:=ztj (c:=c.toList) (v:=v) (rest:=rest) (show off+i<c.toList.length by simp;omega);rw[<-this];simp[Nat.add_assoc]
theorem z7p:∀{n:Nat} {b off i:Nat} {c:List Value} {el:TypeId} {fz:Nat×Nat} {acc:Array Value},
 w.heap[b]?=some (.cells c.toArray el fz)->off+i+n<=c.length ->
 (loadCellsFrom ⟨b,off,none⟩ i n acc).run P w=.ok (acc++((c.drop (off+i)).take n).toArray) w
 | 0,b,off,i,c,el,fz,acc,h,hl=>by simp[loadCellsFrom]
 | n+1,b,off,i,c,el,fz,acc,h,hl=>by
   have hc:w.cell? ⟨b,off+i,none⟩=some c[off+i]:=by
    unfold World.cell?;simp only[h];simp[show off+i<c.length by omega]
   simp only[loadCellsFrom,Jg,z24,run_load,hc,Jb];rw[z7p h (by omega)];congr 1;have:(c.drop (off+i)).take (n+1)=c[off+i] :: (c.drop (off+(i+1))).take n:=by
    rw[Ux (show off+i<c.length by omega),List.take_succ_cons];rfl
   rw[this];simp
theorem zev{t:TypeId}{cs:List Value}{off b:Nat}{el:TypeId}{fz:Nat×Nat}{K:Value->Prop}
 (hb:w.heap[b]?=some (.cells cs.toArray el fz)) (hk:z9r P t cs off K):∃v,K v/\(loadVar t ⟨b,off,none⟩).run P w=.ok v w:=by
 unfold z9r at hk;split at hk
 . exact hk.elim
 . rename_i hagg;split at hk
   . rename_i hlen;have hlen:=Ui hlen;refine⟨_,hk,?_⟩;have hi:∃i,P.info? t=some i:=by
      cases hd:P.underlying t with
      | none=>simp[isAgg?,hd]at hagg
      | some d=>exact z2z hd
     obtain⟨i,hi⟩:=hi;rw[Yp hi]at hlen |-
     simp only[loadVar,Jg,z7b hagg,Jb,if_true,yt hi,loadCells];rw[z7p hb (by omega)];simp
   . exact hk.elim
 . rename_i hagg;split at hk
   . rename_i v hv;refine⟨_,hk,?_⟩;have hc:w.cell? ⟨b,off,none⟩=some v:=by
      unfold World.cell?;simp only[hb];simpa using hv
     simp[loadVar,z7b hagg,hc]
   . exact hk.elim
theorem zl2{t:TypeId}{cs:List Value}{off:Nat}{K:Value->Prop}(hk:z9r P t cs off K) :
 ∃v,K v/\(part t cs.toArray off).run P w=.ok v w:=by
 unfold z9r at hk;split at hk
 . exact hk.elim
 . rename_i hagg;split at hk
   . rename_i hlen;refine⟨_,hk,?_⟩;have hi:∃i,P.info? t=some i:=by
      cases hd:P.underlying t with
      | none=>simp[isAgg?,hd]at hagg
      | some d=>exact z2z hd
     obtain⟨i,hi⟩:=hi;rw[Yp hi];simp only[part,Jg,z7b hagg,Jb,if_true,yt hi,Ji];congr 2;simp
   . exact hk.elim
 . rename_i hagg;split at hk
   . rename_i v hv;exact⟨_,hk,by simp[part,z7b hagg,hv]⟩
   . exact hk.elim
theorem z7j{t:TypeId}{K:List Value->Prop}(hk:zbh P t K) :
 ∃i z,P.info? t=some i/\i.zero=some z/\K z.cells.toList/\∀w,(zeroValue t).run P w=.ok z w:=by
 unfold zbh at hk;split at hk
 . rename_i i hi;split at hk
   . rename_i z hz;exact⟨i,z,hi,hz,hk,λw=>by simp[zeroValue,typeInfo,hi,hz]⟩
   . exact hk.elim
 . exact hk.elim
theorem z0w{t:TypeId}{K:TypeId->Prop}(hk:elemOf? P t K):∃el i,P.underlying t=some (.slice el)/\P.info? el=some i/\K el:=by
 unfold elemOf? at hk;split at hk
 . rename_i el he;split at hk
   . rename_i hi;obtain⟨i,hi⟩:=G8.1 hi;exact⟨el,i,he,hi,hk⟩
   . exact hk.elim
 . exact hk.elim
theorem zj4{t:TypeId}{p:Prop}(hk:okT P t p):(∃i,P.info? t=some i)/\p:=by
 unfold okT at hk;split at hk
 . rename_i hi;exact⟨G8.1 hi,hk⟩
 . exact hk.elim
theorem z07{el:TypeId}{cs:Array Value}:(newRow el cs).run P w=.ok ⟨w.heap.size,0,none⟩ (w.alloc (.cells cs el (0,0))):=by
 simp[newRow]
theorem z8j{h:Hp}(hs:Sub h w){a:Addr}:∀{n:Nat} {l:List Value},Z3 h a n=some l->l.length=n/\∀i,i<n->w.cell? (a.add i)=l[i]?
 | 0,l,e=>by simp only[Z3,Jm]at e;subst e;simp
 | n+1,l,e=>by
   unfold Z3 at e;cases h1:Z3 h a n with
   | none=>rw[h1]at e;cases e
   | some l1=>
     rw[h1]at e;simp only at e;cases h2:h.cell (a.add n)with
     | none=>rw[h2]at e;cases e
     | some v=>
       rw[h2]at e;simp only[Jm]at e;subst e;obtain⟨i1,i2⟩:=z8j hs h1;refine⟨by simp[i1],λi hi=>?_⟩;by_cases hin:i=n
       . subst hin;rw[hs.cell h2];simp[<-i1]
       . rw[i2 i (by omega),Uh (by omega)]
theorem zcb{a:Addr}{l:List Value}:∀{n i:Nat} {acc:Array Value},i+n=l.length->(∀j,j<l.length->w.cell? (a.add j)=l[j]?) ->
 (loadCellsFrom a i n acc).run P w=.ok (acc++(l.drop i).toArray) w
 | 0,i,acc,hl,_=>by
   have:l.drop i=[]:=List.drop_eq_nil_of_le (by omega);simp[loadCellsFrom,this]
 | n+1,i,acc,hl,hc=>by
   have hi:i<l.length:=by omega
   have h1:w.cell? (a.add i)=some l[i]:=by rw[hc i hi];simp
   simp only[loadCellsFrom,Jg,run_load,h1,Jb];rw[zcb (by omega) hc,Ux hi];simp
theorem Vk{h:Hp}(hs:Sub h w){a:Addr}{n:Nat}{l:List Value}(e:Z3 h a n=some l):(loadCells a n).run P w=.ok l.toArray w:=by
 obtain⟨h1,h2⟩:=z8j hs e;unfold loadCells;rw[zcb (l:=l) (by omega) (λj hj=>h2 j (by omega))];simp
theorem Z23(n:Nat)(z:List Value):yn (n+1) z=z++yn n z:=by simp[yn,List.replicate_succ]
theorem zcu(n:Nat)(z:List Value):(yn n z).length=n*z.length:=by simp[yn,List.length_flatten,List.sum_replicate_nat]
theorem zt4{zero:Array Value}:∀{n i:Nat},i<n*zero.size->(yn n zero.toList)[i]?=some (zero[i % zero.size]!)
 | 0,i,h=>by omega
 | n+1,i,h=>by
   rw[Z23];by_cases hi:i<zero.size
   . rw[Uh (by simpa using hi)];simp[Nat.mod_eq_of_lt hi,hi]
   . have h':i-zero.size<n*zero.size:=by rw[Nat.succ_mul]at h;omega
     rw[List.getElem?_append_right (by simpa using hi),Pa,zt4 h',Nat.mod_eq_sub_mod (show i>=zero.size by omega)]
theorem z4t{zero:Array Value}{n:Nat}:(Array.range (n*zero.size)).map (λi=>zero[i % zero.size]!)=(yn n zero.toList).toArray:=by
 apply Array.ext_getElem?;intro i;by_cases hi:i<n*zero.size
 . simp[zt4 hi,hi]
 . have hl:=zcu n zero.toList;simp only[Pa]at hl;rw[Tg (by simp;omega),Tg (by simp;omega)]
theorem zng(m:Nat)(hm:257<=m):∀(r c:Nat),c<=2*m->Builtin.growBy m r c<=2*m
 | 0,c,h=>h
 | r+1,c,h=>by
   unfold Builtin.growBy;split
   . exact h
   . exact zng m hm r _ (by omega)
theorem zes{m o:Nat}(h:o<m):Le m o<=2*m:=by
 unfold Le;split
 . omega
 . split
   . omega
   . exact zng m (by omega) 4 o (by omega)
end
end Den
end

section
namespace Den
open Go
variable {ro : Option Nat} {nn : Nat}
abbrev Yo(r:Option Nat):Fence:={ Fence.wide with round:=r }
theorem zma{P:Program}{f:FuncId}{args:Array Value}{w:World}{R:Ending->World->Prop}(h:Calls P f args w R):CallsIn (Yo ro) nn P f args w R:=
 callsIn_wide (n:=nn).2 h
theorem Y1{P:Program}{c:Code}{Q Q':Exit->Act->World->Prop}{a:Act}{w:World}(hq:∀e a w,Q e a w->Q' e a w)
 (h:c.wpIn (Yo ro) nn P Q a w):c.wpIn (Yo ro) nn P Q' a w:=wpIn_mono h hq
def Up.dst:Up->Option Nat
 | .none=>Option.none
 | .set d _=>some d
 | .alloc d _=>some d
def zje(T:(Value->Hp->Prop)->Hp->Prop):Prop:=
 (∃(α:Type) (G:(α->Hp->Prop)->Hp->Prop) (up:α->Value),∀K h,T K h↔zc G (λr=>K (up r)) h)\/∀K h,¬T K h
def Zd6(P:Program)(g:FuncId)(F:zj):Prop:=
 (∃fn,P.funcs[g]?=some fn/\fn.body.isNone=false/\(fn.name == "runtime.NumGoroutine")=false) /\
 (∀args K h w,Sub h w->F args K h->Calls P g args.toArray w (z6a K h w))
def zb9(C:Cfg):List (Nat×zj)->Prop
 | []=>True
 | (g,F) :: r=>Zd6 C.P g F/\(z06 g C.mutL=false->∀args,zje (F args))/\zb9 C r
theorem zb9.get{C:Cfg}:∀{l:List (Nat×zj)},zb9 C l->∀g,(Zd6 C.P g (ze9 g l)/\(z06 g C.mutL=false->∀args,zje (ze9 g l args)))\/(∀args K h,¬ze9 g l args K h)
 | [],_,g=>.inr λ_ _ _ hh=>hh
 | (g',F) :: r,ht,g=>by
   unfold ze9;by_cases hg:g=g'
   . subst hg;rw[zjl];exact .inl ⟨ht.1,ht.2.1⟩
   . rw[z6o hg];exact zb9.get ht.2.2 g
section
variable {C : Cfg} {B : Base} {e : Env} {h : Hp} {a : Act} {w : World} {K : Up → Hp → Prop} {o : Oper}
def Qr(C:Cfg)(B:Base)(o:Oper)(e:Env)(K:Up->Hp->Prop):Act->World->Prop:=λa' w'=>
 ∃u h',K u h'/\Rel C B (e.upd C.rt u) h' a' w'/\∀d,u.dst=some d->d∈Yt C o
theorem zlr{P:Program}{ro:Option Nat}{o:Oper}{a:Act}{w w':World}{x:Next}(hr:(execOp a.eval o).run P w=.ok x w')(hx:∀d,x≠.defer d) :
 Oper.semAt ro a.eval o=execOp a.eval o:=
 Oper.semAt_eq _ _ _ λc hc=>by
  unfold execOp at hr;rw[hc]at hr;simp only[Jg,Ji]at hr;cases hz:(resolve a.eval c o.type).run P w with
  | ok d w1=>rw[hz]at hr;simp only[Jb,Result.ok.injEq]at hr;exact hx d hr.1.symm
  | _=>rw[hz]at hr;simp[Result.andThen]at hr
theorem yl{P:Program}{o:Oper}{a:Act}{w w':World}{v:Value}{next:Act->World->Prop}{Q:Exit->Act->World->Prop}
 (hr:(execOp a.eval o).run P w=.ok (.value v) w') (hn:next (a.put o.dst v) w'):o.wpIn (Yo ro) nn P a w next Q:=by
 unfold Oper.wpIn;rw[zlr hr (by intro d hd;cases hd),hr];exact⟨λ_ _=>trivial,hn⟩
theorem zjc{P:Program}{o:Oper}{a:Act}{w w':World}{next:Act->World->Prop}{Q:Exit->Act->World->Prop}
 (hr:(execOp a.eval o).run P w=.ok .skip w') (hn:next (a.put o.dst undef) w'):o.wpIn (Yo ro) nn P a w next Q:=by
 unfold Oper.wpIn;rw[zlr hr (by intro d hd;cases hd),hr];exact⟨λ_ _=>trivial,hn⟩
theorem Zf1{P:Program}{o:Oper}{a:Act}{w w':World}{f:FuncId}{args:Array Value}{next:Act->World->Prop}{Q:Exit->Act->World->Prop}
 {R:Ending->World->Prop} (hr:(execOp a.eval o).run P w=.ok (.enter f args) w') (hc:Calls P f args w' R) (hn:∀e w'',R e w''->∃v,e=.returned v/\next (a.put o.dst v) w'') :
 o.wpIn (Yo ro) nn P a w next Q:=by
 unfold Oper.wpIn;rw[zlr hr (by intro d hd;cases hd),hr,Oper.uponIn_enter];refine⟨λ_ _=>trivial,(λh=>by cases h),(zma hc).mono λe w'' hR=>?_⟩;obtain⟨v,rfl,hn⟩:=hn e w'' hR;exact hn
theorem qt{t:Nat}{v:Value}(ht:a.tmps[t]?=some v):a.eval (.tmp t)=v:=by
 simp only[Act.eval];rw[Array.getD_eq_getD_getElem?,ht];rfl
theorem yf(hR:Rel C B e h a w){x:Operand}{K:Value->Prop}(hk:opv e x K):K (a.eval x):=by
 unfold opv at hk;split at hk
 . exact hk
 . exact hk
 . exact hk
 . rename_i t;split at hk
   . rename_i v hv;rw[qt (hR.vals t v hv)];exact hk
   . exact hk.elim
theorem z9q(hR:Rel C B e h a w):∀{l:List Operand} {K:List Value->Prop},z9p e l K->K (l.map a.eval)
 | [],_,hk=>hk
 | x :: r,K,hk=>by
   have:=yf hR hk;exact z9q (l:=r) (K:=λvs=>K (a.eval x :: vs)) hR this
theorem zz(hR:Rel C B e h a w){v:Value}(hk:Ql C o.dst v h K):Qr C B o e K (a.put o.dst v) w:=by
 unfold Ql at hk;split at hk
 . rename_i hd;exact⟨.none,h,hk,by rw[hd];exact hR,λd hd'=>by cases hd'⟩
 . rename_i d hd;split at hk
   . rename_i hl hn;refine⟨.set d (.val v),h,hk,?_,λd' hd'=>?_⟩
     . rw[hd];exact hR.setVal hl (by have:=hn;unfold T5 at this;have:=Ui this;omega)
     . simp only[Up.dst,Jm]at hd';subst hd';simp[Yt,hd]
   . exact hk.elim
theorem z8y(hR:Rel C B e h a w)(hk:zeb C o.dst h K):Qr C B o e K (a.put o.dst undef) w:=by
 unfold zeb at hk;split at hk
 . rename_i hd;exact⟨.none,h,hk,by rw[hd];exact hR,λd hd'=>by cases hd'⟩
 . rename_i d hd;split at hk
   . rename_i hl hml;refine⟨.alloc d .junk,h,hk,?_,λd' hd'=>?_⟩
     . rw[hd];exact hR.allocJunk hl λt ht hh=>by have:=(hR.mrs t ht).2.2.1;rw[hh,hml]at this;cases this
     . simp only[Up.dst,Jm]at hd';subst hd';simp[Yt,hd]
   . exact hk.elim
   . exact zz hR hk
theorem zav(hR:Rel C B e h a w){root off b:Nat}{cs:List Value}(hb:e root=.box cs)(hp:a.tmps[root]?=some (.pointer (some ⟨b,0,none⟩)))
 (hk:zt5 C o.dst root off h K):Qr C B o e K (a.put o.dst (.pointer (some ⟨b,off,none⟩))) w:=by
 unfold zt5 at hk;split at hk
 . exact hk.elim
 . rename_i d hd;split at hk
   . rename_i hl hr hn;have hr:=Um hr;refine⟨.set d (.ref off),h,hk,?_,λd' hd'=>?_⟩
     . rw[hd];exact hR.setRef hl (by have:=hn;unfold T5 at this;have:=Ui this;omega) (cs:=cs) (by rw[hr];exact hb) (by rw[hr];exact hp)
     . simp only[Up.dst,Jm]at hd';subst hd';simp[Yt,hd]
   . exact hk.elim
theorem Rel.alloc(hR:Rel C B e h a w)(cs:List Value)(el:TypeId)(fz:Nat×Nat:=(0,0)) :
 Rel C B e (h.ins w.heap.size ⟨cs,el,fz⟩) a (w.alloc (.cells cs.toArray el fz)):=by
 refine hR.step (λk b hk=>?_) (Fr.alloc h w _) (λk hk hh=>?_)
 . by_cases hkb:k=w.heap.size
   . subst hkb;rw[Hp.ins_same]at hk;cases hk;exact z9h
   . rw[Hp.ins_ne hkb]at hk;exact hR.sub.alloc _ k b hk
 . by_cases hkb:k=w.heap.size
   . omega
   . rw[Hp.ins_ne hkb]at hk;exact absurd hh hk
theorem zau(hR:Rel C B e h a w){cs:List Value}{mk:Addr->Value}{hid:Slot}{el:TypeId}{ty:Option Nat}(hty:∀t,ty=some t->el=t)(hk:z41 C o.dst cs mk hid ty h K)
 (hm:mk ⟨w.heap.size,0,none⟩=z6s w.heap.size hid) (hc:Zjl hid=cs) (hh:z36 hid=true) (hmp:∀m,hid≠.mp m) :
 Qr C B o e K (a.put o.dst (mk ⟨w.heap.size,0,none⟩)) (w.alloc (.cells cs.toArray el (0,0))):=by
 unfold z41 at hk;split at hk
 . exact hk.elim
 . rename_i d hd;split at hk
   . rename_i hl hn hml;refine⟨.alloc d hid,h,hk,?_,λd' hd'=>?_⟩
     . rw[hd,hm,<-hc];refine hR.allocHid (el:=el) hl (by have:=hn;unfold T5 at this;have:=Ui this;omega) hh ?_ λt ht hq=>by have:=(hR.mrs t ht).2.2.1;rw[hq,hml]at this;cases this
       cases hid
       case mp m=>exact absurd rfl (hmp m)
       all_goals exact z9h
     . simp only[Up.dst,Jm]at hd';subst hd';simp[Yt,hd]
   . rename_i hl hn;have:K (.set d (.val (mk ⟨w.heap.size,0,none⟩))) (h.ins w.heap.size ⟨cs,el,(0,0)⟩):=by
      split at hk
      . exact hk w.heap.size el (hR.sub.fresh (Ja _))
      . rename_i t;rw[hty t rfl];exact hk w.heap.size (hR.sub.fresh (Ja _))
     refine⟨_,_,this,?_,λd' hd'=>?_⟩
     . rw[hd];exact(hR.alloc cs el).setVal hl (by have:=hn;unfold T5 at this;have:=Ui this;omega)
     . simp only[Up.dst,Jm]at hd';subst hd';simp[Yt,hd]
   . exact hk.elim
theorem zdx(hs:Sub h w){ad:Addr}{vs:List Value}{K:Hp->Prop}(hk:stP ad vs K h) :
 ∃h' w',K h'/\(storeCells ad vs).run C.P w=.ok () w'/\Sub h' w'/\Fr h w w'/\(∀k,h' k≠none->h k=none->w.heap.size<=k):=by
 obtain⟨b,hb,hsp,hfz,hlen,hl,hK⟩:=hk;obtain⟨bl,off,sp⟩:=ad;simp only at hb hsp hlen hK;subst hsp;have hw:=hs _ _ hb;rw[hfz]at hw;have hlt:=Xl hw;refine⟨_,_,hK,z43 hw (by simpa using hlen) hl,?_,?_,?_⟩
 . intro k c hkc;by_cases hkb:k=bl
   . subst hkb;rw[Hp.ins_same]at hkc;cases hkc;rw[z3d hlt];simp[hfz]
   . rw[Hp.ins_ne hkb]at hkc;rw[z4u hkb];exact hs k c hkc
 . refine⟨by rw[z64];exact Ja _,λk hk1 hk2=>?_,rfl,rfl,rfl,Ja _⟩;have hkb:k≠bl:=λhh=>by rw[hh,hb]at hk2;cases hk2
   exact z4u hkb
 . intro k hk1 hk2;have hkb:k≠bl:=λhh=>by rw[hh,hb]at hk2;cases hk2
   rw[Hp.ins_ne hkb]at hk1;exact absurd hk2 hk1
theorem zfk(D:Hp)(w:World):Fr D w { w with drawn:=w.drawn+1 }:=⟨Ja _,λ_ _ _=>rfl,rfl,rfl,rfl,Nat.le_succ _⟩
theorem Rel.drew(hR:Rel C B e h a w):Rel C B e h a { w with drawn:=w.drawn+1 }:=hR.step hR.sub (zfk h w) (λk h1 h2=>absurd h2 h1)
end
end Den
end

section
namespace Den
open Go
variable {ro : Option Nat} {nn : Nat}
section
variable {C : Cfg} {B : Base} {e : Env} {h : Hp} {a : Act} {w : World} {K : Up → Hp → Prop} {o : Oper} {Q : Exit → Act → World → Prop}
theorem z7y{p:Option Addr}{K:Addr->Prop}(hk:Ye p K):∃ad,p=some ad/\K ad:=by
 cases p with
 | none=>exact hk.elim
 | some ad=>exact⟨ad,rfl,hk⟩
theorem zgd(hR:Rel C B e h a w){s:Nat}{cs:List Value}(hb:e s=.box cs) :
 ∃b el,a.tmps[s]?=some (.pointer (some ⟨b,0,none⟩))/\w.heap[b]?=some (.cells cs.toArray el (0,0)):=by
 obtain⟨_,b,el,h1,h2,_,_⟩:=hR.hid s (by rw[hb];rfl);rw[hb]at h1 h2;exact⟨b,el,h1,h2⟩
theorem zjb(hR:Rel C B e h a w){s off:Nat}(hb:e s=.ref off):∃cs b el,e (C.rt s)=.box cs /\
 a.tmps[C.rt s]?=some (.pointer (some ⟨b,0,none⟩))/\a.tmps[s]?=some (.pointer (some ⟨b,off,none⟩))/\w.heap[b]?=some (.cells cs.toArray el (0,0)):=by
 obtain⟨cs,b,h1,h2,h3⟩:=hR.refs s off hb;obtain⟨b',el,h4,h5⟩:=zgd hR h1;rw[h2]at h4;simp only[Jm,Value.pointer.injEq,Addr.mk.injEq]at h4;obtain rfl:=h4.1;exact⟨cs,b,el,h1,h2,h3,h5⟩
theorem Z0i(hR:Rel C B e h a w){t:TypeId}{x:Operand}(ho:o.op=.load t x)(hk:Zg C o e h K):o.wpIn (Yo ro) nn C.P a w (Qr C B o e K) Q:=by
 unfold Zg at hk;rw[ho]at hk;simp only at hk;split at hk
 . rename_i s;split at hk
   . rename_i cs hb;obtain⟨b,el,h1,h2⟩:=zgd hR hb;obtain⟨v,hv,hrun⟩:=zev (P:=C.P) h2 hk;refine yl (w':=w) (v:=v) ?_ (zz hR hv);simp only[execOp,ho,qt h1,Instr.loadAt,P4,Jg,Ji,Jb,hrun]
   . rename_i off hb;obtain⟨cs,b,el,h1,h2,h3,h4⟩:=zjb hR hb;rw[h1]at hk;simp only at hk;obtain⟨v,hv,hrun⟩:=zev (P:=C.P) h4 hk;refine yl (w':=w) (v:=v) ?_ (zz hR hv);simp only[execOp,ho,qt h3,Instr.loadAt,P4,Jg,Ji,Jb,hrun]
   . rename_i p hb;split at hk
     . exact hk.elim
     obtain⟨ad,rfl,hk2⟩:=z7y hk;obtain⟨v,hv,hrun⟩:=Z1a (P:=C.P) hR.sub hk2;replace hv:=zxg hv;refine yl (w':=w) (v:=v) ?_ (zz hR hv);simp only[execOp,ho,qt (hR.vals s _ hb),Instr.loadAt,P4,Jg,Ji,Jb,hrun]
   . exact hk.elim
 . exact hk.elim
theorem zeh{v:Value}{t:TypeId}(h1:Gv v.cells.toList.length (C.P.cellsOf t)=true)(h2:v.cells.toList.all Value.leaf=true)(hi:∃i,C.P.info? t=some i) :
 ∃n,(Go.sizeOf t).run C.P w=.ok n w/\v.cells.size=n:=by
 obtain⟨i,hi⟩:=hi;refine⟨i.size,yt hi,?_⟩;have:=Um h1;rw[Yp hi]at this;simpa using this
theorem zmi{t:TypeId}{n:Nat}(h:C.P.cellsOf t=n)(hn:n≠0):∃i,C.P.info? t=some i:=by
 cases hi:C.P.info? t with
 | none=>simp[Program.cellsOf,hi]at h;omega
 | some i=>exact⟨i,rfl⟩
theorem zva(hR:Rel C B e h a w){t:TypeId}{x y:Operand}(ho:o.op=.store t x y)(hk:Zg C o e h K):o.wpIn (Yo ro) nn C.P a w (Qr C B o e K) Q:=by
 unfold Zg at hk;rw[ho]at hk;simp only at hk;replace hk:=yf hR hk;split at hk
 . rename_i hsz hl;split at hk
   . rename_i s;split at hk
     . rename_i cs hb;split at hk
       . rename_i hi hdst hle;have hle:=Ui hle;obtain⟨n,hn,hsn⟩:=zeh (w:=w) hsz hl (G8.1 hi);obtain⟨b,el,h1,h2⟩:=zgd hR hb;have hrun:=z43 (P:=C.P) (i:=0) (off:=0) h2 (by simpa using hle) hl;refine zjc (w':=V2 w b (.cells (Zc cs 0 (a.eval y).cells.toList).toArray el (0,0))) ?_ ⟨_,_,hk,?_,?_⟩
         rotate_left
         . rw[hdst];exact hR.setBox hb h1 (z3d (Xl h2)) (λk hkb=>z4u hkb) z64 rfl rfl rfl (Ja _)
         . intro d hd;simp only[Up.dst,Jm]at hd;subst hd;simp[Yt,ho]
         . simp only[execOp,ho,qt h1,Instr.storeAt,P4,Jg,Ji,Jb,storeVar,hn,hsn,ne_eq,not_true_eq_false,if_false,hrun]
       . exact hk.elim
     . rename_i off hb;obtain⟨cs,b,el,h1,h2,h3,h4⟩:=zjb hR hb;rw[h1]at hk;simp only at hk;split at hk
       . rename_i hi hdst hle;have hle:=Ui hle;obtain⟨n,hn,hsn⟩:=zeh (w:=w) hsz hl (G8.1 hi);have hrun:=z43 (P:=C.P) (i:=0) (off:=off) h4 (by simpa using hle) hl;refine zjc (w':=V2 w b (.cells (Zc cs off (a.eval y).cells.toList).toArray el (0,0))) ?_ ⟨_,_,hk,?_,?_⟩
         rotate_left
         . rw[hdst];exact hR.setBox h1 h2 (z3d (Xl h4)) (λk hkb=>z4u hkb) z64 rfl rfl rfl (Ja _)
         . intro d hd;simp only[Up.dst,Jm]at hd;subst hd;simp[Yt,ho]
         . simp only[execOp,ho,qt h3,Instr.storeAt,P4,Jg,Ji,Jb,storeVar,hn,hsn,ne_eq,not_true_eq_false,if_false,hrun];simp
       . exact hk.elim
     . rename_i p hb;split at hk
       . exact hk.elim
       obtain⟨ad,rfl,hk2⟩:=z7y hk;split at hk2
       . rename_i hi hdst;obtain⟨n,hn,hsn⟩:=zeh (w:=w) hsz hl (G8.1 hi);obtain⟨h',w',hK,hrun,hs',hf,hd⟩:=zdx (C:=C) hR.sub hk2;refine zjc (w':=w') ?_ ⟨_,_,hK,?_,?_⟩
         rotate_left
         . rw[hdst];exact hR.step hs' hf hd
         . intro d hd;cases hd
         . simp only[execOp,ho,qt (hR.vals s _ hb),Instr.storeAt,P4,Jg,Ji,Jb,storeVar,hn,hsn,ne_eq,not_true_eq_false,if_false,hrun]
       . exact hk2.elim
     . exact hk.elim
   . exact hk.elim
 . exact hk.elim
theorem zhs{t:TypeId}{f:Nat}{K:Nat->Prop}(hk:zd5 C.P t f K) :
 ∃fs fd i,C.P.underlying t=some (.struct fs)/\fs[f]?=some fd/\C.P.info? fd.type=some i/\i.size≠0/\K fd.offset:=by
 unfold zd5 at hk;split at hk
 . rename_i fs hu;split at hk
   . rename_i fd hf;split at hk
     . exact hk.elim
     . rename_i hz;have hz:C.P.cellsOf fd.type≠0:=λhh=>by rw[hh]at hz;cases hz
       obtain⟨i,hi⟩:=zmi (C:=C) rfl hz;exact⟨fs,fd,i,hu,hf,hi,by rw[Yp hi]at hz;exact hz,hk⟩
   . exact hk.elim
 . exact hk.elim
theorem zc0{t:TypeId}{f:Nat}{fs:Array Field}{fd:Field}{i:TypeInfo}(hu:C.P.underlying t=some (.struct fs))(hf:fs[f]?=some fd)
 (hi:C.P.info? fd.type=some i) (hz:i.size≠0) (ad:Addr):(Instr.fieldAt t (.pointer (some ad)) f).run C.P w=.ok (.pointer (some (ad.add fd.offset))) w:=by
 simp only[Instr.fieldAt,Jg,zl hu,Jb,hf,P4,Ji,fieldPlace,yt hi,if_neg hz]
theorem zju(hR:Rel C B e h a w){t:TypeId}{x:Operand}{f:Nat}(ho:o.op=.fieldAddr t x f)(hk:Zg C o e h K):o.wpIn (Yo ro) nn C.P a w (Qr C B o e K) Q:=by
 unfold Zg at hk;rw[ho]at hk;simp only at hk;obtain⟨fs,fd,i,hu,hf,hi,hz,hk2⟩:=zhs hk;clear hk;split at hk2
 . rename_i s;split at hk2
   . rename_i cs hb;obtain⟨b,el,h1,h2⟩:=zgd hR hb;refine yl (w':=w) ?_ (zav hR hb h1 hk2);simp only[execOp,ho,qt h1,Jg,zc0 hu hf hi hz,Jb,Ji,z24,Gi]
   . rename_i off hb;obtain⟨cs,b,el,h1,h2,h3,h4⟩:=zjb hR hb;refine yl (w':=w) ?_ (zav hR h1 h2 hk2);simp only[execOp,ho,qt h3,Jg,zc0 hu hf hi hz,Jb,Ji,z24]
   . rename_i p hb;obtain⟨ad,rfl,hk3⟩:=z7y hk2;refine yl (w':=w) ?_ (zz hR hk3);simp only[execOp,ho,qt (hR.vals s _ hb),Jg,zc0 hu hf hi hz,Jb,Ji]
   . exact hk2.elim
 . exact hk2.elim
theorem zs6{n:Int}{len:Nat}{p:Prop}(hk:ze0 n len p):(0<=n/\n<len)/\p:=by
 unfold ze0 at hk;split at hk
 . rename_i hd;exact⟨of_decide_eq_true hd,hk⟩
 . exact hk.elim
theorem z5b{t el:TypeId}{len:Nat}{k:IntKind}{n:Int}{i:TypeInfo}(hu:C.P.underlying t=some (.array len el))(hi:C.P.info? el=some i)
 (hn:0<=n/\n<len) (ad:Addr):(Instr.indexAt t (.pointer (some ad)) (.int k n)).run C.P w=.ok (.pointer (some (ad.add (n.toNat*C.P.cellsOf el)))) w:=by
 simp only[Instr.indexAt,asIntOf,P4,Jg,Ji,zl hu,Jb];rw[if_pos hn];simp[yt hi,Yp hi]
theorem zjv(hR:Rel C B e h a w){t:TypeId}{x ix:Operand}(ho:o.op=.indexAddr t x ix)(hk:Zg C o e h K):o.wpIn (Yo ro) nn C.P a w (Qr C B o e K) Q:=by
 unfold Zg at hk;rw[ho]at hk;simp only at hk;replace hk:=yf hR hk;split at hk
 . rename_i k n hix;split at hk
   . rename_i el hu;obtain⟨⟨i,hi⟩,hk2⟩:=zj4 hk;clear hk;replace hk2:=yf hR hk2;split at hk2
     . rename_i ba l c hx;obtain⟨h0,h1,hk3⟩:=hk2;obtain⟨ad,hba,hk4⟩:=z7y hk3;simp only at hba h1;subst hba;refine yl (w':=w) ?_ (zz hR hk4);simp only[execOp,ho,hix,hx,Instr.indexAt,asIntOf,Jg,Ji,zl hu,Jb,Yp hi];rw[if_pos ⟨h0,h1⟩];simp[yt hi]
     . exact hk2.elim
   . rename_i len el hu;obtain⟨⟨i,hi⟩,hk2⟩:=zj4 hk;clear hk;obtain⟨hn,hk3⟩:=zs6 hk2;clear hk2;split at hk3
     . rename_i s;split at hk3
       . rename_i cs hb;obtain⟨b,el',h1,h2⟩:=zgd hR hb;refine yl (w':=w) ?_ (zav hR hb h1 hk3);simp only[execOp,ho,hix,qt h1,Jg,z5b hu hi hn,Jb,Ji,z24,Gi]
       . rename_i off hb;obtain⟨cs,b,el',h1,h2,h3,h4⟩:=zjb hR hb;refine yl (w':=w) ?_ (zav hR h1 h2 hk3);simp only[execOp,ho,hix,qt h3,Jg,z5b hu hi hn,Jb,Ji,z24]
       . rename_i p hb;obtain⟨ad,rfl,hk4⟩:=z7y hk3;refine yl (w':=w) ?_ (zz hR hk4);simp only[execOp,ho,hix,qt (hR.vals s _ hb),Jg,z5b hu hi hn,Jb,Ji]
       . exact hk3.elim
     . rename_i g;refine yl (w':=w) ?_ (zz hR hk3);have hg:a.eval (.global g)=.pointer (some ⟨g,0,none⟩):=rfl;simp only[execOp,ho,hix,hg,Jg,z5b hu hi hn,Jb,Ji]
     . exact hk3.elim
   . exact hk.elim
 . exact hk.elim
theorem zxo{s:ByteArray}{n:Int}{K:Int->Prop}(hk:qy s n K){t:TypeId}{k:IntKind}(hu:C.P.underlying t=some .string) :
 ∃b:Int,K b/\(Instr.index t (.string s) (.int k n)).run C.P w=.ok (.int .u8 b) w:=by
 obtain⟨h0,b,hb,hk⟩:=hk;refine⟨_,hk,?_⟩;simp only[Instr.index,asIntOf,Jg,Ji,zl hu,Jb,if_pos h0,hb]
theorem zwz{P:Program}{ix:Operand}{t:TypeId}{cs:List Value}{off:Nat}{K:Value->Prop}(hk:zst P ix t cs off K):z9r P t cs off K:=by
 unfold zst at hk;split at hk
 . split at hk
   . rename_i l h1 h2;obtain⟨x,h3,h4⟩:=hk;unfold z9r;rw[h1];simp only[h3];exact h4
   . exact hk.elim
 . exact hk
theorem zv8(hR:Rel C B e h a w){t:TypeId}{x ix:Operand}(ho:o.op=.index t x ix)(hk:Zg C o e h K):o.wpIn (Yo ro) nn C.P a w (Qr C B o e K) Q:=by
 unfold Zg at hk;rw[ho]at hk;simp only at hk;replace hk:=yf hR (yf hR hk);split at hk
 . rename_i k n s hix hx;split at hk
   . rename_i hu;obtain⟨b,hb,hrun⟩:=zxo (C:=C) (w:=w) (k:=k) hk hu;refine yl (w':=w) ?_ (zz hR hb);simp only[execOp,ho,hix,hx,Jg,hrun,Jb,Ji]
   . exact hk.elim
 . rename_i k n cs hix hx;split at hk
   . rename_i len el hu;obtain⟨⟨i,hi⟩,hk2⟩:=zj4 hk;obtain⟨hn,hk3⟩:=zs6 hk2;obtain⟨v,hv,hrun⟩:=zl2 (P:=C.P) (w:=w) (zwz hk3);refine yl (w':=w) ?_ (zz hR hv);rw[Yp hi]at hrun;have hrun':(part el cs (n.toNat*i.size)).run C.P w=.ok v w:=by simpa using hrun
     simp only[execOp,ho,hix,hx,Instr.index,asIntOf,Jg,Ji,zl hu,Jb];rw[if_pos hn];simp only[Jg,yt hi,Jb,hrun']
   . exact hk.elim
 . exact hk.elim
theorem zv7(hR:Rel C B e h a w){t:TypeId}{x:Operand}{f:Nat}(ho:o.op=.field t x f)(hk:Zg C o e h K):o.wpIn (Yo ro) nn C.P a w (Qr C B o e K) Q:=by
 unfold Zg at hk;rw[ho]at hk;simp only at hk;obtain⟨fs,fd,i,hu,hf,hi,hz,hk2⟩:=zhs hk;clear hk;replace hk2:=yf hR hk2;cases hx:a.eval x with
 | agg cs=>
   rw[hx]at hk2;simp only[Zi7,hu,hf]at hk2;obtain⟨v,hv,hrun⟩:=zl2 (P:=C.P) (w:=w) hk2;refine yl (w':=w) ?_ (zz hR hv);have hrun':(part fd.type cs fd.offset).run C.P w=.ok v w:=by simpa using hrun
   simp only[execOp,ho,hx,Instr.field,Jg,Ji,zl hu,Jb,hf,asAgg,hrun']
 | _=>rw[hx]at hk2;exact hk2.elim
theorem z8i(hR:Rel C B e h a w){lo:Option Operand}{d:Int}{K:Int->Prop}(hk:boP e lo d K) :
 ∃n,K n/\((lo=none/\n=d)\/∃x k,lo=some x/\a.eval x=.int k n):=by
 unfold boP at hk;split at hk
 . exact⟨_,hk,.inl ⟨rfl,rfl⟩⟩
 . rename_i x;replace hk:=yf hR hk;split at hk
   . rename_i k n hx;exact⟨n,hk,.inr ⟨x,k,rfl,hx⟩⟩
   . exact hk.elim
theorem Q6{k:IntKind}{n:Int}{y:Nat}{c:BoundsCode}(hn:0<=n/\n<=y):(Instr.sliceBound (.int k n) y c).run C.P w=.ok n.toNat w:=by
 simp only[Instr.sliceBound,asIntOf,Jg,Ji,Jb];rw[if_pos hn];rfl
theorem z6i(hR:Rel C B e h a w){lo hi:Option Operand}{isS:Bool}{len cap:Nat}{l u:Int}(h0:0<=l)(h1:l<=u)(h2:u<=cap)
 (hl:(lo=none/\l=0)\/∃x k,lo=some x/\a.eval x=.int k l) (hu:(hi=none/\u=len)\/∃x k,hi=some x/\a.eval x=.int k u) :
 (Pm isS len cap (lo.map a.eval) (hi.map a.eval) none).run C.P w=.ok (l.toNat,u.toNat,cap) w:=by
 rcases hu with ⟨rfl,rfl⟩ | ⟨x,k,rfl,hx⟩
 . rcases hl with ⟨rfl,rfl⟩ | ⟨y,k',rfl,hy⟩
   . simp[Pm]
   . simp only[Pm,Lm,U0,hy,Jg,Ji,Jb];rw[Q6 ⟨h0,h1⟩];simp
 . rcases hl with ⟨rfl,rfl⟩ | ⟨y,k',rfl,hy⟩
   . simp only[Pm,Lm,U0,hx,Jg,Ji,Jb];rw[Q6 ⟨by omega,h2⟩];simp
   . simp only[Pm,U0,hx,hy,Jg,Ji,Jb];rw[Q6 ⟨by omega,h2⟩];simp only[Jb];rw[Q6 ⟨h0,by omega⟩];simp
theorem zhj(hR:Rel C B e h a w){lo:Option Operand}{hi mx:Operand}{isS:Bool}{len cap:Nat}{l u m:Int}(h0:0<=l)(h1:l<=u)(h2:u<=m)(h3:m<=cap)
 (hl:(lo=none/\l=0)\/∃x k,lo=some x/\a.eval x=.int k l) (hu:∃k,a.eval hi=.int k u) (hm:∃k,a.eval mx=.int k m) :
 (Pm isS len cap (lo.map a.eval) ((some hi).map a.eval) ((some mx).map a.eval)).run C.P w=.ok (l.toNat,u.toNat,m.toNat) w:=by
 obtain⟨k1,hu⟩:=hu;obtain⟨k2,hm⟩:=hm;rcases hl with ⟨rfl,rfl⟩ | ⟨y,k',rfl,hy⟩
 . simp only[Pm,Lm,U0,hu,hm,Jg,Ji];rw[Q6 ⟨by omega,h3⟩];simp only[Jb];rw[Q6 ⟨by omega,by omega⟩];simp
 . simp only[Pm,U0,hu,hm,hy,Jg,Ji];rw[Q6 ⟨by omega,h3⟩];simp only[Jb];rw[Q6 ⟨by omega,by omega⟩];simp only[Jb];rw[Q6 ⟨h0,by omega⟩];simp
theorem zfa(hR:Rel C B e h a w){x:Operand}{d:Int}{K:Int->Prop}(hk:boP e (some x) d K):∃n,K n/\∃k,a.eval x=.int k n:=by
 obtain⟨n,hn,⟨h1,_⟩ | ⟨y,k,h1,h2⟩⟩:=z8i hR hk
 . cases h1
 . cases h1;exact⟨n,hn,k,h2⟩
theorem zrm(hR:Rel C B e h a w){t:TypeId}{x hi mx:Operand}{lo:Option Operand}(ho:o.op=.slice t x lo (some hi) (some mx))(hk:Zg C o e h K):o.wpIn (Yo ro) nn C.P a w (Qr C B o e K) Q:=by
 unfold Zg at hk;rw[ho]at hk;simp only at hk;replace hk:=yf hR hk;split at hk
 . rename_i ad n c hx;obtain⟨el,i,hu,hi,hk1⟩:=z0w hk;obtain⟨l,hk2,hl⟩:=z8i hR hk1;obtain⟨u,hk3,hu2⟩:=zfa hR hk2;obtain⟨m,hk4,hm2⟩:=zfa hR hk3;obtain⟨h0,h1,h2,h3,hk5⟩:=hk4;refine yl (w':=w) ?_ (zz hR hk5);simp only[execOp,ho,hx,Instr.sliceAt,Jg,zl hu,Jb,Instr.slice,Ji,
    zhj hR h0 h1 h2 h3 hl hu2 hm2,yt hi,Sl.cut,Yp hi]
 . exact hk.elim
theorem zv9(hR:Rel C B e h a w){t:TypeId}{x:Operand}{lo hi:Option Operand}(ho:o.op=.slice t x lo hi none)(hk:Zg C o e h K):o.wpIn (Yo ro) nn C.P a w (Qr C B o e K) Q:=by
 unfold Zg at hk;rw[ho]at hk;simp only at hk;replace hk:=yf hR hk;split at hk
 . rename_i s hx;split at hk
   . rename_i hu;obtain⟨l,hk1,hl⟩:=z8i hR hk;obtain⟨u,hk2,hu2⟩:=z8i hR hk1;obtain⟨h0,h1,h2,hk3⟩:=hk2;refine yl (w':=w) ?_ (zz hR hk3);simp only[execOp,ho,hx,Instr.sliceAt,Jg,zl hu,Jb,Instr.slice,Lm,Option.isSome_none,J0,if_false,Ji,
      z6i hR h0 h1 h2 hl hu2]
   . exact hk.elim
 . rename_i ad n c hx;obtain⟨el,i,hu,hi,hk1⟩:=z0w hk;obtain⟨l,hk2,hl⟩:=z8i hR hk1;obtain⟨u,hk3,hu2⟩:=z8i hR hk2;obtain⟨h0,h1,h2,hk4⟩:=hk3;refine yl (w':=w) ?_ (zz hR hk4);simp only[execOp,ho,hx,Instr.sliceAt,Jg,zl hu,Jb,Instr.slice,Lm,Ji,
    z6i hR h0 h1 h2 hl hu2,yt hi,Sl.cut,Yp hi]
 . rename_i p hx;split at hk
   . rename_i n el hu;obtain⟨⟨i,hi⟩,hk1⟩:=zj4 hk;obtain⟨ad,rfl,hk2⟩:=z7y hk1;obtain⟨l,hk3,hl⟩:=z8i hR hk2;obtain⟨u,hk4,hu2⟩:=z8i hR hk3;obtain⟨h0,h1,h2,hk5⟩:=hk4;refine yl (w':=w) ?_ (zz hR hk5);have e1:(Sl.cut ⟨some ad,n,n⟩ l.toNat u.toNat (C.P.cellsOf el)).a=some (if n=l.toNat then ad else ad.add (l.toNat*i.size)):=by
      unfold Sl.cut;simp only[Yp hi];split<;>rfl
     rw[e1];simp only[execOp,ho,hx,Instr.sliceAt,P4,Jg,zl hu,Jb,Lm,Ji,
      z6i hR h0 h1 h2 hl hu2,yt hi,Sl.cut]
   . exact hk.elim
 . exact hk.elim
end
end Den
end

section
namespace Den
open Go
variable {ro : Option Nat} {nn : Nat}
section
variable {C : Cfg} {B : Base} {e : Env} {h : Hp} {a : Act} {w : World} {K : Up → Hp → Prop} {o : Oper} {Q : Exit → Act → World → Prop}
theorem zft(hR:Rel C B e h a w){x:Operand}{A:Nat->List (Int×Bool)->Prop}{D:Prop}(hk:zep C e x A D) :
 (∃s m b el,x=.tmp s/\e (C.rt s)=.mp m/\A (C.rt s) m/\a.tmps[s]?=some (.map (some b))/\a.tmps[C.rt s]?=some (.map (some b))/\zb8 w b el (.mp m)/\C.loc (C.rt s)=true)\/D:=by
 unfold zep at hk;split at hk
 . rename_i s;split at hk
   . rename_i m hm;split at hk
     . rename_i hr;have hr:=Um hr;obtain⟨hl,b,el,h1,h2,_,_⟩:=hR.hid s (by rw[hm];rfl);rw[hm]at h1 h2;exact .inl ⟨s,m,b,el,rfl,by rw[hr];exact hm,by rw[hr];exact hk,h1,by rw[hr];exact h1,h2,by rw[hr];exact hl⟩
     . exact hk.elim
   . rename_i hm;split at hk
     . rename_i m hm2;obtain⟨hl,b,el,h1,h2,_,_⟩:=hR.hid (C.rt s) (by rw[hm2];rfl);rw[hm2]at h1 h2;obtain⟨_,_,_,g3⟩:=hR.mrs s hm;exact .inl ⟨s,m,b,el,rfl,hm2,hk,by rw[g3];exact h1,h1,h2,hl⟩
     . exact hk.elim
   . exact .inr hk
 . exact .inr hk
theorem zx6(hR:Rel C B e h a w){r:Nat}{v:Value}(hk:zx5 C o.dst r h K)(hlr:C.loc r=true)(hm:z06 r C.mapL=true)(hp:a.tmps[r]?=some v):Qr C B o e K (a.put o.dst v) w:=by
 unfold zx5 at hk;split at hk
 . exact hk.elim
 . rename_i d hd;split at hk
   . rename_i hl hr hn;have hr:=Um hr;refine⟨.set d .mr,h,hk,?_,λd' hd'=>?_⟩
     . rw[hd];exact hR.setMr hl (by have:=hn;unfold T5 at this;have:=Ui this;omega) hr hlr hm hp
     . simp only[Up.dst,Jm]at hd';subst hd';simp[Yt,hd]
   . exact hk.elim
theorem zn2(hR:Rel C B e h a w){x:Operand}(ho:o.op=.move x\/o.op=.assign x)(hk:Zg C o e h K):o.wpIn (Yo ro) nn C.P a w (Qr C B o e K) Q:=by
 unfold Zg at hk;rcases ho with ho | ho
 all_goals
  rw[ho]at hk;simp only at hk;rcases zft hR hk with ⟨s,m,b,el,rfl,hm,hk,h1,h1',_,hl⟩ | hk
  . split at hk
    . rename_i hml;refine yl (w':=w) (v:=.map (some b)) ?_ (zx6 hR hk hl hml h1');simp only[execOp,ho,Ji,qt h1]
    . exact hk.elim
  . replace hk:=yf hR hk;refine yl (w':=w) ?_ (zz hR hk);simp only[execOp,ho,Ji]
theorem Z0j(hR:Rel C B e h a w){c x y:Operand}(ho:o.op=.pick c x y)(hk:Zg C o e h K):o.wpIn (Yo ro) nn C.P a w (Qr C B o e K) Q:=by
 unfold Zg at hk;rw[ho]at hk;simp only at hk;replace hk:=yf hR hk;split at hk
 . rename_i t hc;cases t
   . have hk2:opv e y λv=>Ql C o.dst v h K:=hk
     replace hk2:=yf hR hk2;refine yl (w':=w) ?_ (zz hR hk2);simp[execOp,ho,hc,asBool]
   . have hk2:opv e x λv=>Ql C o.dst v h K:=hk
     replace hk2:=yf hR hk2;refine yl (w':=w) ?_ (zz hR hk2);simp[execOp,ho,hc,asBool]
 . exact hk.elim
theorem zqo{C:Cfg}{t t':Nat}(h:C.tyO t=some t'):t=t':=by
 unfold Cfg.tyO at h;cases hm:z06 t C.tyL with
 | true=>rw[hm]at h;simpa using h
 | false=>rw[hm]at h;cases h
theorem zv2(hR:Rel C B e h a w){t:TypeId}(ho:o.op=.alloc t)(hk:Zg C o e h K):o.wpIn (Yo ro) nn C.P a w (Qr C B o e K) Q:=by
 unfold Zg at hk;rw[ho]at hk;simp only at hk;obtain⟨i,z,hi,hz,hk2,hrun⟩:=z7j hk;refine yl ?_ (zau (el:=t) hR (λt' ht=>zqo ht) hk2 rfl rfl rfl (λ_ hh=>by cases hh));simp only[execOp,ho,Instr.alloc,Jg,hrun,Jb,newVar,z07,Ji,Array.toArray_toList]
theorem Z3h(hR:Rel C B e h a w){t:TypeId}{x:Operand}(ho:o.op=.box t x)(hk:Zg C o e h K):o.wpIn (Yo ro) nn C.P a w (Qr C B o e K) Q:=by
 unfold Zg at hk;rw[ho]at hk;simp only at hk;replace hk:=yf hR hk;refine yl ?_ (zau (el:=t) hR (λ_ ht=>by cases ht) hk rfl rfl rfl (λ_ hh=>by cases hh));simp only[execOp,ho,Instr.box,Jg,Jb,newVar,z07,Ji,Array.toArray_toList]
theorem zqs{α:Type}:∀(l:List (Nat×α)) (f:α->Value),(l.map (·.1)).zip ((l.map (·.2)).map f)=l.map λ(i,x)=>(i,f x)
 | [],_=>rfl
 | (i,x) :: r,f=>by simp only[U3,List.zip_cons_cons,zqs r f]
theorem zv4(hR:Rel C B e h a w){t:TypeId}{parts:Array (Nat×Operand)}(ho:o.op=.build t parts)(hk:Zg C o e h K):o.wpIn (Yo ro) nn C.P a w (Qr C B o e K) Q:=by
 unfold Zg at hk;rw[ho]at hk;simp only at hk;replace hk:=z9q hR hk;rw[zqs]at hk;split at hk
 . rename_i cs hcs;refine yl (w':=w) ?_ (zz hR hk);have:(parts.map λ(i,x)=>(i,a.eval x)).toList=parts.toList.map λ(i,x)=>(i,a.eval x):=by simp
   simp only[execOp,ho,Jg,run_build w t _ cs (by rw[this];exact hcs),Jb,Ji]
 . exact hk.elim
theorem ziv(hR:Rel C B e h a w){t:TypeId}{n:Nat}{parts:Array (Nat×Operand)}(ho:o.op=.buildSlice t n parts)(hk:Zg C o e h K):o.wpIn (Yo ro) nn C.P a w (Qr C B o e K) Q:=by
 unfold Zg at hk;rw[ho]at hk;simp only at hk;replace hk:=z9q hR hk;rw[zqs]at hk;obtain⟨el,i,hu,hi,hk1⟩:=z0w hk;obtain⟨i',z,hi',hz,hk2,hrun⟩:=z7j hk1;obtain rfl:i=i':=by rw[hi]at hi';exact J9 hi'
 split at hk2
 . rename_i h1 h2;have h1:=Um h1;have h2:=Ui h2;rw[Yp hi]at h1 h2;simp only[Pa]at h1 hk2;unfold znb at hk2;split at hk2
   . rename_i cs hcs;have hp:(parts.map λ(i,x)=>(i,a.eval x)).toList=parts.toList.map λ(i,x)=>(i,a.eval x):=by simp
     refine yl ?_ (zau (el:=el) hR (λ_ ht=>by cases ht) hk2 rfl rfl rfl (λ_ hh=>by cases hh));simp only[execOp,ho,Instr.buildSlice,Jg,zl hu,Jb,yt hi,hp];rw[if_neg (by omega)];simp only[Ji];by_cases hz0:n*i.size=0
     . rw[if_pos hz0];simp only[Jg,Ji,Jb];have he:(Array.range (n*i.size)).map (λx=>(#[]:Array Value)[x % (#[]:Array Value).size]!)=(yn n z.cells.toList).toArray:=by
        have hl:=zcu n z.cells.toList;have:(yn n z.cells.toList)=[]:=Jn (by rw[hl];simp[h1,hz0]);rw[this,hz0];simp
       rw[he,<-h1,hcs];simp[z07]
     . rw[if_neg hz0];simp only[Jg,hrun,Ji,Jb];rw[<-h1,z4t,hcs];simp[z07]
   . exact hk2.elim
 . exact hk2.elim
theorem zme(hR:Rel C B e h a w){x:Operand}(ho:o.op=.nilCheck x)(hk:Zg C o e h K):o.wpIn (Yo ro) nn C.P a w (Qr C B o e K) Q:=by
 unfold Zg at hk;rw[ho]at hk;simp only at hk;replace hk:=yf hR hk;split at hk
 . rename_i p hx;obtain⟨ad,rfl,hk2⟩:=z7y hk;refine yl (w':=w) ?_ (zz hR hk2);simp only[execOp,ho,hx,Ji]
 . rename_i g u v hx;refine yl (w':=w) ?_ (zz hR hk);simp only[execOp,ho,hx,Ji]
 . exact hk.elim
theorem zv3(hR:Rel C B e h a w){op:BinOp}{t t':TypeId}{x y:Operand}(ho:o.op=.binOp op t x y t')(hk:Zg C o e h K):o.wpIn (Yo ro) nn C.P a w (Qr C B o e K) Q:=by
 unfold Zg at hk;rw[ho]at hk;simp only at hk;replace hk:=yf hR (yf hR hk);obtain⟨r,hr,hrun⟩:=zuw (w:=w) hk x y;refine yl (w':=w) ?_ (zz hR hr);simp only[execOp,ho];rw[Jg];show((eqGuard op t x y (a.eval x) (a.eval y) >>= λ_=>binOp op t (a.eval x) (a.eval y)).run C.P w).andThen _=_;rw[hrun];rfl
theorem Z0k(hR:Rel C B e h a w){op:UnOp}{t:TypeId}{x:Operand}(ho:o.op=.unOp op t x)(hk:Zg C o e h K):o.wpIn (Yo ro) nn C.P a w (Qr C B o e K) Q:=by
 unfold Zg at hk;rw[ho]at hk;simp only at hk;replace hk:=yf hR hk;obtain⟨r,hr,hrun⟩:=Z2m (P:=C.P) (w:=w) hk;refine yl (w':=w) ?_ (zz hR hr);simp only[execOp,ho,Jg,hrun,Jb,Ji]
theorem zoq(hR:Rel C B e h a w){s t:TypeId}{x:Operand}(ho:o.op=.convert s t x)(hk:Zg C o e h K):o.wpIn (Yo ro) nn C.P a w (Qr C B o e K) Q:=by
 unfold Zg at hk;rw[ho]at hk;simp only at hk;replace hk:=yf hR hk;split at hk
 . rename_i k k' n hu hx;split at hk
   . rename_i hs;obtain⟨ds,hs⟩:=G8.1 hs;refine yl (w':=w) ?_ (zz hR hk);simp only[execOp,ho,hx,convert,Jg,zl hu,zl hs,Jb,Conv.intToInt,Ji]
   . exact hk.elim
 . rename_i ad l c hu hx;split at hk
   . rename_i el hs;split at hk
     . rename_i he;obtain⟨bs,hcs,hk⟩:=hk;refine yl (w':=w) ?_ (zz hR hk);have hrun:(Conv.bytesToString (.slice ad l c)).run C.P w=.ok (.string ⟨bs.toArray⟩) w:=by
        cases ad with
        | none=>
          simp only[yc]at hcs;split at hcs
          . simp only[Jm]at hcs;have:bs=[]:=by cases bs with | nil=>rfl | cons x r=>simp at hcs
            subst this;simp[Conv.bytesToString];rfl
          . cases hcs
        | some ad=>
          have h1:=Vk (P:=C.P) hR.sub hcs;have h2:(bs.map λb=>Ge .u8 ((b.toNat:Nat):Int))=(bs.map λb=>((b.toNat:Nat):Int)).map (Ge .u8):=by simp
          rw[h2]at h1;rw[run_bytesToString w ad l c _ h1];have h3:∀(bs:List UInt8) (r:ByteArray),(bs.map λb=>((b.toNat:Nat):Int)).foldl (λr n=>r.push (UInt8.ofNat n.toNat)) r=⟨r.data++bs.toArray⟩:=by
           intro bs;induction bs with
           | nil=>intro r;simp
           | cons x bs ih=>
             intro r;simp only[U3,List.foldl_cons];rw[ih];simp[ByteArray.push]
          rw[h3];simp
       simp only[execOp,ho,hx,convert,Jg,zl hu,zl hs,zl he,Jb,hrun,Ji]
     . exact hk.elim
   . exact hk.elim
 . rename_i el st hu hx;split at hk
   . rename_i hs he;have hnc:st.size<=grownCap w st.size 0 el:=by
      have hcut:∀q,(Tj st.size 0 el).cut q=st.size+q % (2 ^ 63-st.size):=λq=>rfl
      have h1:grownCap w st.size 0 el=(Tj st.size 0 el).cut (w.tape w.drawn (.appendCap st.size 0 el)):=rfl;rw[h1,hcut];omega
     have hrow:bytesRow st (grownCap w st.size 0 el)=(Vs st++Jr (grownCap w st.size 0 el-st.size) (Ge .u8 0)).toArray:=by
      unfold bytesRow Vs;apply Gf.1;simp
     have hK:=hk w.heap.size el _ ((bytesRow st (grownCap w st.size 0 el)).size,(bytesRow st (grownCap w st.size 0 el)).size+1) hnc (hR.sub.fresh (Ja _));have hR2:=hR.drew.alloc (Vs st++Jr (grownCap w st.size 0 el-st.size) (Ge .u8 0)) el ((bytesRow st (grownCap w st.size 0 el)).size,(bytesRow st (grownCap w st.size 0 el)).size+1);rw[<-hrow]at hR2;refine yl ?_ (zz hR2 hK);have hrun:=run_bytes_of_string (P:=C.P) w s t el st hs hu he;simp only[execOp,ho,hx,Jg,hrun,Jb,Ji];rfl
   . exact hk.elim
 . exact hk.elim
theorem zmd(hR:Rel C B e h a w){g:FuncId}{u v:Array Operand}(ho:o.op=.makeFunc (.func g) u v)(hk:Zg C o e h K):o.wpIn (Yo ro) nn C.P a w (Qr C B o e K) Q:=by
 unfold Zg at hk;rw[ho]at hk;simp only at hk;replace hk:=z9q hR (z9q hR hk);refine yl (w':=w) ?_ (zz hR hk);have hm:∀l:Array Operand,(l.toList.map a.eval).toArray=l.map a.eval:=λl=>by apply Gf.1;simp
 simp only[execOp,ho,Instr.makeFunc,Jg,Ji,Jb,hm]
theorem zor(hR:Rel C B e h a w){x:Operand}{i:Nat}(ho:o.op=.extract x i)(hk:Zg C o e h K):o.wpIn (Yo ro) nn C.P a w (Qr C B o e K) Q:=by
 unfold Zg at hk;rw[ho]at hk;simp only at hk;replace hk:=yf hR hk;split at hk
 . rename_i vs hx;split at hk
   . rename_i u hu;refine yl (w':=w) ?_ (zz hR hk);have hu':vs[i]?=some u:=by simpa using hu
     simp only[execOp,ho,hx,Instr.extract,hu',Jg,Ji,Jb]
   . exact hk.elim
 . exact hk.elim
theorem zty{n:Int}(h0:0<=n)(h1:n<=140737488355328):i64.wrap n=n:=IntWalk.i64_in n ⟨by omega,by omega⟩
theorem zjw(hR:Rel C B e h a w){t:TypeId}{l c:Operand}(ho:o.op=.makeSlice t l c)(hk:Zg C o e h K):o.wpIn (Yo ro) nn C.P a w (Qr C B o e K) Q:=by
 unfold Zg at hk;rw[ho]at hk;simp only at hk;replace hk:=yf hR (yf hR hk);split at hk
 . rename_i kl len kc cap hl hc;obtain⟨el,i,hu,hi,hk1⟩:=z0w hk;obtain⟨i',z,hi',hz,hk2,hrun⟩:=z7j hk1;obtain rfl:i=i':=by rw[hi]at hi';exact J9 hi'
   split at hk2
   . rename_i h1 h2;have h1:=Um h1;have h2':z.cells.toList.length≠0:=λhh=>by rw[hh]at h2;cases h2
     rw[Yp hi]at h1;simp only[Pa]at h1 h2';obtain⟨g0,g1,g2,g3,hk3⟩:=hk2;rw[za4 hi]at g2;have:=hk3 w.heap.size el (hR.sub.fresh (Ja _));refine yl ?_ (zz (hR.alloc (yn cap.toNat z.cells.toList) el) this);simp only[execOp,ho,hl,hc,Instr.makeSlice,asInt,asIntOf,Jg,zl hu,Ji,Jb,typeInfo,run_program,hi,
      zty (show 0<=len by omega) (show len<=140737488355328 by omega),zty (show 0<=cap by omega) g3]
     have hnot:((decide (cap<0)||decide ((i.bytes:Int)*cap>2 ^ 48))||decide (len<0)||decide (len>cap))=false:=by
      simp;omega
     simp only[hnot,J0,if_false,Jg,run_askRoom,Jb,yt hi];by_cases hz0:cap.toNat*i.size=0
     . rw[if_pos hz0];simp only[Jg,Ji,Jb];have he:(Array.range (cap.toNat*i.size)).map (λx=>(#[]:Array Value)[x % (#[]:Array Value).size]!)=(yn cap.toNat z.cells.toList).toArray:=by
        have hl:=zcu cap.toNat z.cells.toList;have:(yn cap.toNat z.cells.toList)=[]:=Jn (by rw[hl];simp[h1,hz0]);rw[this,hz0];simp
       rw[he];simp[z07]
     . rw[if_neg hz0];simp only[Jg,hrun,Ji,Jb];rw[<-h1,z4t];simp[z07]
   . exact hk2.elim
 . exact hk.elim
theorem zv5(hC:zb9 C C.tab)(hR:Rel C B e h a w){c:Call}{f:Operand}(ho:o.op=.call c)(hf:c.callee=.value f)(hk:Zg C o e h K):o.wpIn (Yo ro) nn C.P a w (Qr C B o e K) Q:=by
 unfold Zg at hk;rw[ho]at hk;simp only[hf]at hk;replace hk:=yf hR hk;split at hk
 . rename_i g u v hx;replace hk:=z9q hR hk;rcases hC.get g with ⟨⟨⟨fn,hfn,hb,hn⟩,hcalls⟩,_⟩ | hno
   . have hc:=hcalls _ _ _ _ hR.sub hk;refine Zf1 (w':=w) (f:=g) (args:=(u.toList++c.args.toList.map a.eval++v.toList).toArray) ?_ hc ?_
     . have ha:(u++c.args.map a.eval)++v=(u.toList++c.args.toList.map a.eval++v.toList).toArray:=by
        apply Gf.1;simp
       simp only[execOp,ho,resolve,hf,Jg,hx,Deferred.ofValue,Ji,Jb,invoke,callFunc,run_program,hfn,hb,hn,J0,if_false,ha]
     . rintro e' w'' ⟨r,h',rfl,hr,hs,hfr,hd⟩;refine⟨r,rfl,zz (hR.step hs hfr λk h1 h2=>hd k h1 h2) hr⟩
   . exact(hno _ _ _ hk).elim
 . exact hk.elim
end
end Den
end

section
namespace Den
open Go
variable {ro : Option Nat} {nn : Nat}
section
variable {C : Cfg} {B : Base} {e : Env} {h : Hp} {a : Act} {w : World} {K : Up → Hp → Prop} {o : Oper} {Q : Exit → Act → World → Prop}
theorem zhu{P:Program}{st:ByteArray}{w':World}:(Ue 1 st.size (.string st)).run P w'=.ok (Vs st).toArray w':=by
 simp only[Ue,Ji,Vs,Result.ok.injEq,and_true];apply Gf.1;simp
theorem Zat(hR:Rel C B e h a w){x:Operand}{size:Nat}{K:Nat->List Value->Prop}(hk:zmq e x size K h) :
 ∃n vs,K n vs/\vs.length=n*size/\(∀w',(Builtin.lenOf (a.eval x)).run C.P w'=.ok n w')/\∀w',w'.heap=w.heap->(Ue size n (a.eval x)).run C.P w'=.ok vs.toArray w':=by
 have hsub:∀w',w'.heap=w.heap->Sub h w':=λw' hw k b hb=>by rw[hw];exact hR.sub k b hb
 unfold zmq at hk;split at hk
 . rename_i t;split at hk
   . rename_i cs n hb;split at hk
     . rename_i hl;have hl:=Um hl;obtain⟨_,b,el,h1,h2,_,_⟩:=hR.hid t (by rw[hb];rfl);rw[hb]at h1 h2;simp only[z6s,Zjl,zb8]at h1 h2;refine⟨n,cs,hk,hl,λw'=>by rw[qt h1];rfl,λw' hw=>?_⟩;rw[qt h1];rw[<-hw]at h2;simp only[Ue,loadCells];rw[z7p h2 (by omega),<-hl];simp
     . exact hk.elim
   . rename_i ad n c hb;obtain⟨vs,hvs,hk⟩:=hk;rw[qt (hR.vals t _ hb)];cases ad with
     | none=>
       simp only[yc]at hvs;split at hvs
       . rename_i hz;simp only[Jm]at hvs;subst hvs;exact⟨n,[],hk,by simp[hz],(λw'=>rfl),λw' _=>by simp[Ue]⟩
       . cases hvs
     | some ad=>
       simp only[yc]at hvs;exact⟨n,vs,hk,(z8j hR.sub hvs).1,(λw'=>rfl),λw' hw=>by simp only[Ue];exact Vk (hsub w' hw) hvs⟩
   . rename_i st hb;split at hk
     . rename_i hsz;obtain rfl:=Um hsz;rw[qt (hR.vals t _ hb)];exact⟨st.size,Vs st,hk,(by simp[Vs]),(λw'=>rfl),λw' _=>zhu⟩
     . exact hk.elim
   . exact hk.elim
 . rename_i ad n c;obtain⟨vs,hvs,hk⟩:=hk;cases ad with
   | none=>
     simp only[yc]at hvs;split at hvs
     . rename_i hz;simp only[Jm]at hvs;subst hvs;exact⟨n,[],hk,by simp[hz],(λw'=>rfl),λw' _=>by simp[Ue,Act.eval]⟩
     . cases hvs
   | some ad=>
     simp only[yc]at hvs;exact⟨n,vs,hk,(z8j hR.sub hvs).1,(λw'=>rfl),λw' hw=>by simp only[Ue,Act.eval];exact Vk (hsub w' hw) hvs⟩
 . rename_i st;split at hk
   . rename_i hsz;obtain rfl:=Um hsz;exact⟨st.size,Vs st,hk,(by simp[Vs]),(λw'=>rfl),λw' _=>zhu⟩
   . exact hk.elim
 . exact hk.elim
theorem zay{P:Program}{b:Nat}{es:Array MapEntry}{c:Nat}(hb:w.heap[b]?=some (.map es c)):(getObj b).run P w=.ok (.map es c) w:=by
 simp[getObj,Sem.run,hb]
theorem zku{P:Program}{t:TypeId}{p:Prop}(hk:zpo P t p):∃k v i,P.underlying t=some (.map k v)/\P.underlying k=some (.int .i64)/\P.info? v=some i/\i.zero=some (.bool false)/\p:=by
 unfold zpo at hk;split at hk
 . rename_i k v h1;split at hk
   . rename_i i h2 h3;split at hk
     . rename_i h4;exact⟨k,v,i,h1,h2,h3,h4,hk⟩
     . exact hk.elim
   . exact hk.elim
 . exact hk.elim
theorem Z3j(hR:Rel C B e h a w){c:Call}{x:Operand}(ho:o.op=.call c)(hf:c.callee=.builtin .len)(hx:c.args.toList=[x])
 (hk:Qt C .len c.argTypes.toList [x] e h o.dst K):o.wpIn (Yo ro) nn C.P a w (Qr C B o e K) Q:=by
 unfold Qt at hk;simp only at hk;have hargs:c.args=#[x]:=by rw[<-Gf];exact hx
 rcases zft hR hk with ⟨s,m,b,el,rfl,hm,hk,h1,h1',⟨es,clock,h2,h3⟩,_⟩ | hk
 . split at hk
   . rename_i t ht;have htypes:c.argTypes=#[t]:=by rw[<-Gf];exact ht
     obtain⟨kt,vt,i,hu,_,_,_,hk⟩:=zku hk;have hlen:es.size=m.length:=by
      have:=congrArg List.length h3;simpa using this
     refine yl (w':=w) ?_ (zz hR hk);simp only[execOp,ho,resolve,hf,hargs,htypes,Jg,Ji,Jb,invoke,builtin,Builtin.len_];simp[qt h1,zl hu,goInt,zay h2,hlen]
   . exact hk.elim
 replace hk:=yf hR hk;split at hk
 . rename_i s t hv ht;have htypes:c.argTypes=#[t]:=by rw[<-Gf];exact ht
   split at hk
   . rename_i hu;refine yl (w':=w) ?_ (zz hR hk);simp only[execOp,ho,resolve,hf,hargs,htypes,Jg,Ji,Jb,invoke,builtin,Builtin.len_];simp[hv,zl hu,goInt]
   . exact hk.elim
 . rename_i ad n c' t hv ht;have htypes:c.argTypes=#[t]:=by rw[<-Gf];exact ht
   split at hk
   . rename_i hu;refine yl (w':=w) ?_ (zz hR hk);simp only[execOp,ho,resolve,hf,hargs,htypes,Jg,Ji,Jb,invoke,builtin,Builtin.len_];simp[hv,zl hu,goInt]
   . exact hk.elim
 . exact hk.elim
theorem zos(hR:Rel C B e h a w){t:TypeId}(ho:o.op=.makeMap t none)(hk:Zg C o e h K):o.wpIn (Yo ro) nn C.P a w (Qr C B o e K) Q:=by
 unfold Zg at hk;rw[ho]at hk;simp only at hk;unfold zq1 at hk;split at hk
 . exact hk.elim
 . rename_i d hd;split at hk
   . rename_i hl hn _ hno;refine yl (w':=w.alloc (.map #[] 0)) (v:=.map (some w.heap.size)) (by simp only[execOp,ho];rfl) ⟨_,_,hk,?_,λd' hd'=>?_⟩
     . rw[hd];refine hR.allocHid (el:=0) (s:=.mp []) hl (by have:=hn;unfold T5 at this;have:=Ui this;omega) rfl ⟨#[],0,z9h,rfl⟩ λt ht _=>?_
       have:=List.all_eq_true.1 hno t (List.mem_range.2 (hR.mrs t ht).1);rw[ht]at this;cases this
     . simp only[Up.dst,Jm]at hd';subst hd';simp[Yt,hd]
   . exact hk.elim
theorem zaa:∀{es:List MapEntry} {m:List (Int×Bool)} {n:Int} {i:Nat},es.map (λx=>(x.key,x.val))=m.map (λp=>((.int .i64 p.1:Value),(.bool p.2:Value))) ->
 (Instr.findNow (.int .i64) (.int .i64 n) es i=some none/\zwq m n=false/\∀b,zpq m n b=m++[(n,b)]) \/
 (∃j v,Instr.findNow (.int .i64) (.int .i64 n) es i=some (some (i+j,.bool v))/\zwq m n=v/\j<m.length/\(∃q,es[j]?=some q/\q.key=.int .i64 n)/\∀b,zpq m n b=m.set j (n,b))
 | [],[],n,i,_=>.inl ⟨rfl,rfl,λ_=>rfl⟩
 | [],_ :: _,_,_,h=>by cases h
 | _ :: _,[],_,_,h=>by cases h
 | x :: es,p :: m,n,i,h=>by
   simp only[U3,List.cons.injEq,Prod.mk.injEq]at h;obtain⟨⟨h1,h2⟩,h3⟩:=h;unfold Instr.findNow;have hs:Instr.sameNow (.int .i64) (.int .i64 n) x.key=some (n==p.1):=by rw[h1];simp[Instr.sameNow]
   rw[hs];by_cases hn:n=p.1
   . right;refine⟨0,p.2,?_,?_,by simp,⟨x,rfl,by rw[h1,hn]⟩,λb=>?_⟩
     . simp[hn,h2]
     . unfold zwq;rw[decide_eq_true hn];rfl
     . unfold zpq;rw[decide_eq_true hn];rfl
   . have hb:(n==p.1)=false:=by simpa using hn
     rw[hb];simp only;rcases zaa (n:=n) (i:=i+1) h3 with ⟨g1,g2,g3⟩ | ⟨j,v,g1,g2,g3,g4,g5⟩
     . refine .inl ⟨g1,?_,λb=>?_⟩
       . unfold zwq;rw[decide_eq_false hn];exact g2
       . unfold zpq;rw[decide_eq_false hn];simp only[cond_false,g3,List.cons_append]
     . refine .inr ⟨j+1,v,?_,?_,by simpa using g3,by simpa using g4,λb=>?_⟩
       . rw[g1];congr 3;omega
       . unfold zwq;rw[decide_eq_false hn];exact g2
       . unfold zpq;rw[decide_eq_false hn];simp only[cond_false,g5,List.set_cons_succ]
theorem run_findKey'{P:Program}{kt:TypeId}{d:TypeDesc}{k:Value}{l:List MapEntry}{a:Option (Nat×Value)}(hd:P.underlying kt=some d)(h:Instr.findNow d k l 0=some a):(Instr.findKey kt k l).run P w=.ok a w:=by
 unfold Instr.findKey;simp only[Jg,zl hd,Jb,h,Ji]
theorem zax{P:Program}{kt:TypeId}{b:Bool}{n:Int}(hd:P.underlying kt=some (.int .i64)):(Instr.checkKey b 10000 kt (.int .i64 n)).run P w=.ok () w:=by
 unfold Instr.checkKey;simp only[Jg,zl hd,Jb,Ji]
theorem Zaf{P:Program}{t:TypeId}{i:TypeInfo}{z:Value}(hi:P.info? t=some i)(hz:i.zero=some z):(zeroValue t).run P w=.ok z w:=by
 simp[zeroValue,typeInfo,hi,hz]
theorem zrl(hR:Rel C B e h a w){t:TypeId}{x ix:Operand}(ho:o.op=.lookup t x ix false)(hk:Zg C o e h K):o.wpIn (Yo ro) nn C.P a w (Qr C B o e K) Q:=by
 unfold Zg at hk;rw[ho]at hk;simp only at hk;replace hk:=yf hR hk;obtain⟨kt,vt,i,hu,hkt,hi,hz,hk⟩:=zku hk;rcases zft hR hk with ⟨s,m,b,el,rfl,hm,hk,h1,h1',⟨es,clock,h2,h3⟩,_⟩ | hk
 . split at hk
   . rename_i n hn;refine yl (w':=w) ?_ (zz hR hk);simp only[execOp,ho,qt h1,hn,Instr.lookup,Jg,zl hu,Jb,zay h2,Ji,zax hkt];rcases zaa (n:=n) (i:=0) h3 with ⟨g1,g2,_⟩ | ⟨j,v,g1,g2,_⟩
     . simp only[run_findKey' hkt g1,Jb,Jg,Zaf hi hz,Ji,g2];rfl
     . simp only[run_findKey' hkt g1,Jb,Jg,Ji,g2];rfl
   . exact hk.elim
 . exact hk.elim
theorem zlt{b:Nat}{es:Array MapEntry}{c:Nat}{o':Obj}(hb:w.heap[b]?=some (.map es c)):(setObj b o').run C.P w=.ok () (V2 w b o'):=by
 have hlt:=Xl hb;simp[setObj,Sem.run,hb,V2]
theorem zjx(hR:Rel C B e h a w){t:TypeId}{x k y:Operand}(ho:o.op=.mapUpdate t x k y)(hk:Zg C o e h K):o.wpIn (Yo ro) nn C.P a w (Qr C B o e K) Q:=by
 unfold Zg at hk;rw[ho]at hk;simp only at hk;replace hk:=yf hR (yf hR hk);obtain⟨kt,vt,i,hu,hkt,hi,hz,hk⟩:=zku hk;rcases zft hR hk with ⟨s,m,b,el,rfl,hm,hk,h1,h1',⟨es,clock,h2,h3⟩,_⟩ | hk
 . split at hk
   . rename_i n v hn hv hd;have hlt:=Xl h2;have fin:∀es' clock',(execOp a.eval o).run C.P w=.ok .skip (V2 w b (.map es' clock'))->es'.toList.map (λx=>(x.key,x.val))=(zpq m n v).map (λp=>((.int .i64 p.1:Value),(.bool p.2:Value))) ->
      o.wpIn (Yo ro) nn C.P a w (Qr C B o e K) Q:=λes' clock' hrun hes=>by
      refine zjc hrun ⟨_,_,hk,?_,λd' hd'=>?_⟩
      . rw[hd];exact hR.setHid (y:=.mp (zpq m n v)) (el:=0) hm rfl rfl (λ_=>rfl) (λ_ hh=>by cases hh) (λ_ hh=>by cases hh) h1' ⟨es',clock',z3d hlt,hes⟩ (λq hq=>z4u hq) z64 rfl rfl rfl (Ja _)
      . simp only[Up.dst,Jm]at hd';subst hd';simp[Yt,ho]
     rcases zaa (n:=n) (i:=0) h3 with ⟨g1,_,g2⟩ | ⟨j,u,g1,_,g3,⟨q,g4,g5⟩,g6⟩
     . refine fin (es.push { key:=.int .i64 n,val:=.bool v,born:=clock }) (clock+1) ?_ ?_
       . simp only[execOp,ho,qt h1,hn,hv,Instr.mapUpdate,Jg,zl hu,Jb,zay h2,Ji,zax hkt,run_findKey' hkt g1,zlt h2]
       . rw[g2,Array.toList_push,List.map_append,List.map_append,h3];rfl
     . rw[Gi]at g1;have hq:es[j]?=some q:=by rw[<-Tl];exact g4
       refine fin (es.modify j λx=>{ x with key:=.int .i64 n,val:=.bool v }) clock ?_ ?_
       . have hst:∀W:World,(Instr.keyThatStays (.int .i64 n) (.int .i64 n)).run C.P W=.ok (.int .i64 n) W:=λW=>by
          unfold Instr.keyThatStays;rw[if_pos (by simp[Instr.sameBits])];rfl
         simp only[execOp,ho,qt h1,hn,hv,Instr.mapUpdate,Jg,zl hu,Jb,zay h2,Ji,zax hkt,run_findKey' hkt g1,hq,U0,Option.getD_some,g5,hst,zlt h2]
       . rw[g6];apply List.ext_getElem?;intro z;have h3z:=congrArg (λl=>l[z]?) h3;simp only[List.getElem?_map,Tl,Array.getElem?_modify,List.getElem?_set]at h3z |-
         by_cases hjz:j=z
         . subst hjz;simp[hq,g3]
         . simp only[hjz,if_false];exact h3z
   . exact hk.elim
 . exact hk.elim
theorem Z3i(hR:Rel C B e h a w){c:Call}{x:Operand}(ho:o.op=.call c)(hf:c.callee=.builtin .cap)(hx:c.args.toList=[x])
 (hk:Qt C .cap c.argTypes.toList [x] e h o.dst K):o.wpIn (Yo ro) nn C.P a w (Qr C B o e K) Q:=by
 unfold Qt at hk;simp only at hk;replace hk:=yf hR hk;have hargs:c.args=#[x]:=by rw[<-Gf];exact hx
 split at hk
 . rename_i ad n c' t hv ht;have htypes:c.argTypes=#[t]:=by rw[<-Gf];exact ht
   split at hk
   . rename_i hu;refine yl (w':=w) ?_ (zz hR hk);simp only[execOp,ho,resolve,hf,hargs,htypes,Jg,Ji,Jb,invoke,builtin,Builtin.cap_];simp[hv,zl hu,goInt]
   . exact hk.elim
 . exact hk.elim
theorem Z3k(hR:Rel C B e h a w){c:Call}{x y:Operand}(ho:o.op=.call c)(hf:c.callee=.builtin .max)(hx:c.args.toList=[x,y])
 (hk:Qt C .max c.argTypes.toList [x,y] e h o.dst K):o.wpIn (Yo ro) nn C.P a w (Qr C B o e K) Q:=by
 unfold Qt at hk;simp only at hk;replace hk:=yf hR (yf hR hk);have hargs:c.args=#[x,y]:=by rw[<-Gf];exact hx
 generalize hu:a.eval x=u at hk;generalize hv:a.eval y=v at hk;unfold Zq2 at hk;split at hk
 . rename_i k p k' q heq;simp only[List.cons.injEq,and_true]at heq;obtain⟨rfl,rfl⟩:=heq;obtain⟨rfl,_⟩:=Qd.1 hk;refine yl (w':=w) ?_ (zz hR (Qd.1 hk).2);simp[execOp,ho,resolve,hf,hargs,invoke,builtin,Builtin.max_,hu,hv,Builtin.max2,zwp]
 . exact hk.elim
theorem Z3l(hR:Rel C B e h a w){c:Call}{x y:Operand}(ho:o.op=.call c)(hf:c.callee=.builtin .min)(hx:c.args.toList=[x,y])
 (hk:Qt C .min c.argTypes.toList [x,y] e h o.dst K):o.wpIn (Yo ro) nn C.P a w (Qr C B o e K) Q:=by
 unfold Qt at hk;simp only at hk;replace hk:=yf hR (yf hR hk);have hargs:c.args=#[x,y]:=by rw[<-Gf];exact hx
 generalize hu:a.eval x=u at hk;generalize hv:a.eval y=v at hk;unfold Zq3 at hk;split at hk
 . rename_i k p k' q heq;simp only[List.cons.injEq,and_true]at heq;obtain⟨rfl,rfl⟩:=heq;obtain⟨rfl,_⟩:=Qd.1 hk;refine yl (w':=w) ?_ (zz hR (Qd.1 hk).2);simp[execOp,ho,resolve,hf,hargs,invoke,builtin,Builtin.min_,hu,hv,Builtin.min2,Zjn]
 . exact hk.elim
theorem zur(hR:Rel C B e h a w){t t2 ty el el2:TypeId}{i:TypeInfo}{z:Value}{s:Sl}{y:Value}{n:Nat}{new:List Value}
 (hu:C.P.underlying t=some (.slice el)) (hu2:C.P.underlying t2=some (.slice el2)) (hi:C.P.info? el=some i) (hz:∀w,(zeroValue el).run C.P w=.ok z w)
 (hsz:z.cells.size=i.size) (hy:∀w',(Builtin.lenOf y).run C.P w'=.ok n w')
 (hnew:∀w',w'.heap=w.heap->(Ue i.size n y).run C.P w'=.ok new.toArray w') {K:Sl->Hp->Prop}
 (hk:zoe el i.size i.bytes z.cells.toList s n new K h) :
 ∃r h' w',K r h'/\(Tv #[t,t2] ty #[.slice s.a s.len s.cap,y]).run C.P w=.ok (.slice r.a r.len r.cap) w'/\Sub h' w'/\Fr h w w' /\
  (∀k,h' k≠none->h k=none->w.heap.size<=k):=by
 obtain⟨g1,g2,g3,g4⟩:=hk;by_cases hfit:s.len+n<=s.cap
 . have hst:=g3 hfit;cases hsa:s.a with
   | none=>
     rw[hsa]at hst;refine⟨_,h,w,hst,?_,hR.sub,Fr.refl h w,λk h1 h2=>absurd h2 h1⟩;simp[Tv,zl hu,zl hu2,yt hi,hy,hfit,hnew w rfl]
   | some sa=>
     rw[hsa]at hst;obtain⟨h',w',hK,hrun,hs',hf,hd⟩:=zdx (C:=C) hR.sub hst;refine⟨_,h',w',hK,?_,hs',hf,hd⟩;simp[Tv,zl hu,zl hu2,yt hi,hy,hfit,hnew w rfl,hrun]
 . obtain⟨old,hold,hall⟩:=g4 (by omega);have hcut:∀q,(Tj (s.len+n) s.cap el).cut q=s.len+n+q % (2 ^ 63-(s.len+n)):=λq=>rfl
   generalize hncd:(Tj (s.len+n) s.cap el).cut (w.tape w.drawn (.appendCap (s.len+n) s.cap el))=nc;have hnc:s.len+n<=nc:=by rw[<-hncd,hcut];omega
   have hR1:=hR.drew;have hR2:=hR1.alloc (old++new++yn (nc-(s.len+n)) z.cells.toList) el;have hfr:h w.heap.size=none:=hR.sub.fresh (Ja _);refine⟨_,_,_,hall w.heap.size nc hnc hfr,?_,hR2.sub,?_,?_⟩
   . have hcap:=zes (show s.cap<s.len+n by omega);have hb:¬(Le (s.len+n) s.cap*i.bytes>2 ^ 48):=by
      have:=Jj i.bytes hcap;have h3:2*(s.len+n)*i.bytes=2*((s.len+n)*i.bytes):=by rw[J4]
      omega
     have hbig:¬(((s.len+n:Nat):Int)>i64.max):=by
      intro h1;simp[IntKind.max,G0,G6]at h1;omega
     have hold':∀w',w'.heap=w.heap->(Ue i.size s.len (.slice s.a s.len s.cap)).run C.P w'=.ok old.toArray w':=by
      intro w' hw;have hsub:Sub h w':=λk b hb=>by rw[hw];exact hR.sub k b hb
      cases hsa:s.a with
      | none=>
        rw[hsa]at hold;simp only[yc]at hold;split at hold
        . simp only[Jm]at hold;subst hold;simp[Ue]
        . cases hold
      | some sa=>
        rw[hsa]at hold;simp only[Ue];exact Vk hsub hold
     have hzc:Builtin.zeroCells z.cells (nc-(s.len+n))=(yn (nc-(s.len+n)) z.cells.toList).toArray:=z4t;have hforced:(Tj (s.len+n) s.cap el).forced=false:=rfl;have hty:(typeInfo el).run C.P w=.ok i w:=by simp[typeInfo,hi]
     have hty':(typeInfo el).run C.P { w with drawn:=w.drawn+1 }=.ok i { w with drawn:=w.drawn+1 }:=by simp[typeInfo,hi]
     simp only[Tv,Jg,zl hu,zl hu2,yt hi,hy,Jb,Pu,Gw,T4,Ji,
      J0,if_false,hfit,hty,false_or]
     rw[if_neg (by rintro⟨h1,_⟩;exact hbig h1)];simp only[Jg,hty,Jb];rw[if_neg hb];simp only[Jg,run_choose,hforced,J0,if_false,Jb,hncd,hty',run_askRoom,hold' { w with drawn:=w.drawn+1 } rfl,hnew { w with drawn:=w.drawn+1 } rfl,hz,hzc,z07,Ji,Bool.not_false,if_true];simp
   . have f1:=zfk h w;have f2:=Fr.alloc h { w with drawn:=w.drawn+1 } (.cells (old++new++yn (nc-(s.len+n)) z.cells.toList).toArray el (0,0));exact⟨Jt f1.1 f2.1,λk hk1 hk2=>(f2.2.1 k hk1 hk2).trans (f1.2.1 k hk1 hk2),rfl,rfl,rfl,Nat.le_succ _⟩
   . intro k h1 h2;by_cases hkb:k=w.heap.size
     . omega
     . rw[Hp.ins_ne hkb]at h1;exact absurd h2 h1
theorem zr7(hR:Rel C B e h a w){t t2 ty el:TypeId}{i:TypeInfo}{z:Value}{s:Sl}{y:Value}{n:Nat}{new:List Value}
 (hu:C.P.underlying t=some (.slice el)) (hu2:C.P.underlying t2=some .string) (hi:C.P.info? el=some i) (hz:∀w,(zeroValue el).run C.P w=.ok z w)
 (hsz:z.cells.size=i.size) (hy:∀w',(Builtin.lenOf y).run C.P w'=.ok n w')
 (hnew:∀w',w'.heap=w.heap->(Ue i.size n y).run C.P w'=.ok new.toArray w') {K:Sl->Hp->Prop}
 (hk:zoe el i.size i.bytes z.cells.toList s n new K h) :
 ∃r h' w',K r h'/\(Tv #[t,t2] ty #[.slice s.a s.len s.cap,y]).run C.P w=.ok (.slice r.a r.len r.cap) w'/\Sub h' w'/\Fr h w w' /\
  (∀k,h' k≠none->h k=none->w.heap.size<=k):=by
 obtain⟨g1,g2,g3,g4⟩:=hk;by_cases hfit:s.len+n<=s.cap
 . have hst:=g3 hfit;cases hsa:s.a with
   | none=>
     rw[hsa]at hst;refine⟨_,h,w,hst,?_,hR.sub,Fr.refl h w,λk h1 h2=>absurd h2 h1⟩;simp[Tv,zl hu,zl hu2,yt hi,hy,hfit,hnew w rfl]
   | some sa=>
     rw[hsa]at hst;obtain⟨h',w',hK,hrun,hs',hf,hd⟩:=zdx (C:=C) hR.sub hst;refine⟨_,h',w',hK,?_,hs',hf,hd⟩;simp[Tv,zl hu,zl hu2,yt hi,hy,hfit,hnew w rfl,hrun]
 . obtain⟨old,hold,hall⟩:=g4 (by omega);have hcut:∀q,(Tj (s.len+n) s.cap el).cut q=s.len+n+q % (2 ^ 63-(s.len+n)):=λq=>rfl
   generalize hncd:(Tj (s.len+n) s.cap el).cut (w.tape w.drawn (.appendCap (s.len+n) s.cap el))=nc;have hnc:s.len+n<=nc:=by rw[<-hncd,hcut];omega
   have hR1:=hR.drew;have hR2:=hR1.alloc (old++new++yn (nc-(s.len+n)) z.cells.toList) el;have hfr:h w.heap.size=none:=hR.sub.fresh (Ja _);refine⟨_,_,_,hall w.heap.size nc hnc hfr,?_,hR2.sub,?_,?_⟩
   . have hcap:=zes (show s.cap<s.len+n by omega);have hb:¬(Le (s.len+n) s.cap*i.bytes>2 ^ 48):=by
      have:=Jj i.bytes hcap;have h3:2*(s.len+n)*i.bytes=2*((s.len+n)*i.bytes):=by rw[J4]
      omega
     have hbig:¬(((s.len+n:Nat):Int)>i64.max):=by
      intro h1;simp[IntKind.max,G0,G6]at h1;omega
     have hold':∀w',w'.heap=w.heap->(Ue i.size s.len (.slice s.a s.len s.cap)).run C.P w'=.ok old.toArray w':=by
      intro w' hw;have hsub:Sub h w':=λk b hb=>by rw[hw];exact hR.sub k b hb
      cases hsa:s.a with
      | none=>
        rw[hsa]at hold;simp only[yc]at hold;split at hold
        . simp only[Jm]at hold;subst hold;simp[Ue]
        . cases hold
      | some sa=>
        rw[hsa]at hold;simp only[Ue];exact Vk hsub hold
     have hzc:Builtin.zeroCells z.cells (nc-(s.len+n))=(yn (nc-(s.len+n)) z.cells.toList).toArray:=z4t;have hforced:(Tj (s.len+n) s.cap el).forced=false:=rfl;have hty:(typeInfo el).run C.P w=.ok i w:=by simp[typeInfo,hi]
     have hty':(typeInfo el).run C.P { w with drawn:=w.drawn+1 }=.ok i { w with drawn:=w.drawn+1 }:=by simp[typeInfo,hi]
     simp only[Tv,Jg,zl hu,zl hu2,yt hi,hy,Jb,Pu,Gw,T4,Ji,
      J0,if_false,hfit,hty,false_or]
     rw[if_neg (by rintro⟨h1,_⟩;exact hbig h1)];simp only[Jg,hty,Jb];rw[if_neg hb];simp only[Jg,run_choose,hforced,J0,if_false,Jb,hncd,hty',run_askRoom,hold' { w with drawn:=w.drawn+1 } rfl,hnew { w with drawn:=w.drawn+1 } rfl,hz,hzc,z07,Ji,Bool.not_false,if_true];simp
   . have f1:=zfk h w;have f2:=Fr.alloc h { w with drawn:=w.drawn+1 } (.cells (old++new++yn (nc-(s.len+n)) z.cells.toList).toArray el (0,0));exact⟨Jt f1.1 f2.1,λk hk1 hk2=>(f2.2.1 k hk1 hk2).trans (f1.2.1 k hk1 hk2),rfl,rfl,rfl,Nat.le_succ _⟩
   . intro k h1 h2;by_cases hkb:k=w.heap.size
     . omega
     . rw[Hp.ins_ne hkb]at h1;exact absurd h2 h1
theorem zr8(hR:Rel C B e h a w){t t2 ty el:TypeId}{i:TypeInfo}{z:Value}{s:Sl}{k ik:IntKind}{m:Int}
 (hu:C.P.underlying t=some (.slice el)) (hu2:C.P.underlying t2=some (.int ik)) (hi:C.P.info? el=some i) (hz:∀w,(zeroValue el).run C.P w=.ok z w)
 (hsz:z.cells.size=i.size) (hne:i.size≠0) (hm:0<=m) {K:Sl->Hp->Prop}
 (hk:zoe el i.size i.bytes z.cells.toList s m.toNat (yn m.toNat z.cells.toList) K h) :
 ∃r h' w',K r h'/\(Tv #[t,t2] ty #[.slice s.a s.len s.cap,.int k m]).run C.P w=.ok (.slice r.a r.len r.cap) w'/\Sub h' w'/\Fr h w w' /\
  (∀k,h' k≠none->h k=none->w.heap.size<=k):=by
 obtain⟨n,rfl⟩:=Int.eq_ofNat_of_zero_le hm;rw[Int.toNat_natCast]at hk;obtain⟨g1,g2,g3,g4⟩:=hk;have hwr:i64.wrap (n:Int)=n:=by
  simp only[IntKind.wrap,G6,G0];simp;omega
 have hnb:¬((n:Int)*(i.bytes:Int)>2 ^ 48):=by
  have:n*i.bytes<=(s.len+n)*i.bytes:=Jj _ (by omega);have h2:((n*i.bytes:Nat):Int)<=140737488355328:=by omega
  rw[Int.natCast_mul]at h2;omega
 have hn0:¬((n:Int)<0):=by omega
 have hty:∀w',(typeInfo el).run C.P w'=.ok i w':=λw'=>by simp[typeInfo,hi]
 have hzc:∀n,Builtin.zeroCells z.cells n=(yn n z.cells.toList).toArray:=λn=>z4t
 have happ:∀w',((if n*i.size=0 then pure #[]else do pure (Builtin.zeroCells (<-zeroValue el).cells n)):Sem (Array Value)).run C.P w'=.ok (yn n z.cells.toList).toArray w':=λw'=>by
  split
  . rename_i h0;have:n=0:=by
     rcases Nat.mul_eq_zero.1 h0 with h1 | h1
     . exact h1
     . exact absurd h1 hne
    subst this;simp[yn]
  . simp[hz,hzc]
 have hint:∀w',(asInt (.int k (n:Int))).run C.P w'=.ok (n:Int) w':=λw'=>by simp[asInt,asIntOf]
 have hbig:¬(((s.len+n:Nat):Int)>i64.max):=by
  intro h1;simp[IntKind.max,G0,G6]at h1;omega
 by_cases hfit:s.len+n<=s.cap
 . have hst:=g3 hfit;cases hsa:s.a with
   | none=>
     rw[hsa]at hst;refine⟨_,h,w,hst,?_,hR.sub,Fr.refl h w,λk h1 h2=>absurd h2 h1⟩;simp only[Tv,Jg,zl hu,zl hu2,yt hi,Jb,Pu,Gw,T4,Ji,hint,hwr,if_true,hty,if_neg hn0,if_neg hnb,Int.toNat_natCast,Bool.not_true,J0,if_false,hfit,happ]
   | some sa=>
     rw[hsa]at hst;obtain⟨h',w',hK,hrun,hs',hf,hd⟩:=zdx (C:=C) hR.sub hst;refine⟨_,h',w',hK,?_,hs',hf,hd⟩;simp only[Tv,Jg,zl hu,zl hu2,yt hi,Jb,Pu,Gw,T4,Ji,hint,hwr,if_true,hty,if_neg hn0,if_neg hnb,Int.toNat_natCast,Bool.not_true,J0,if_false,hfit,happ,hrun]
 . obtain⟨old,hold,hall⟩:=g4 (by omega);have hcut:∀q,(Tj (s.len+n) s.cap el).cut q=s.len+n+q % (2 ^ 63-(s.len+n)):=λq=>rfl
   generalize hncd:(Tj (s.len+n) s.cap el).cut (w.tape w.drawn (.appendCap (s.len+n) s.cap el))=nc;have hnc:s.len+n<=nc:=by rw[<-hncd,hcut];omega
   have hR1:=hR.drew;have hR2:=hR1.alloc (old++yn n z.cells.toList++yn (nc-(s.len+n)) z.cells.toList) el;have hfr:h w.heap.size=none:=hR.sub.fresh (Ja _);refine⟨_,_,_,hall w.heap.size nc hnc hfr,?_,hR2.sub,?_,?_⟩
   . have hcap:=zes (show s.cap<s.len+n by omega);have hb:¬(Le (s.len+n) s.cap*i.bytes>2 ^ 48):=by
      have:=Jj i.bytes hcap;have h3:2*(s.len+n)*i.bytes=2*((s.len+n)*i.bytes):=by rw[J4]
      omega
     have hold':∀w',w'.heap=w.heap->(Ue i.size s.len (.slice s.a s.len s.cap)).run C.P w'=.ok old.toArray w':=by
      intro w' hw;have hsub:Sub h w':=λk b hb=>by rw[hw];exact hR.sub k b hb
      cases hsa:s.a with
      | none=>
        rw[hsa]at hold;simp only[yc]at hold;split at hold
        . simp only[Jm]at hold;subst hold;simp[Ue]
        . cases hold
      | some sa=>
        rw[hsa]at hold;simp only[Ue];exact Vk hsub hold
     have hforced:(Tj (s.len+n) s.cap el).forced=false:=rfl;simp only[Tv,Jg,zl hu,zl hu2,yt hi,Jb,Pu,Gw,T4,Ji,hint,hwr,if_true,hty,if_neg hn0,if_neg hnb,Int.toNat_natCast,Bool.not_true,J0,if_false,hfit];rw[if_neg (by rintro⟨h1,_⟩;exact hbig h1)];simp only[Jg,hty,Jb];rw[if_neg hb];simp only[Jg,run_choose,hforced,J0,if_false,Jb,hncd,hty,run_askRoom,hold' { w with drawn:=w.drawn+1 } rfl,happ,hz,hzc,z07,Ji];simp
   . have f1:=zfk h w;have f2:=Fr.alloc h { w with drawn:=w.drawn+1 } (.cells (old++yn n z.cells.toList++yn (nc-(s.len+n)) z.cells.toList).toArray el (0,0));exact⟨Jt f1.1 f2.1,λk hk1 hk2=>(f2.2.1 k hk1 hk2).trans (f1.2.1 k hk1 hk2),rfl,rfl,rfl,Nat.le_succ _⟩
   . intro k h1 h2;by_cases hkb:k=w.heap.size
     . omega
     . rw[Hp.ins_ne hkb]at h1;exact absurd h2 h1
end
end Den
end

section
namespace Den
open Go
variable {ro : Option Nat} {nn : Nat}
section
variable {C : Cfg} {B : Base} {e : Env} {h : Hp} {a : Act} {w : World} {K : Up → Hp → Prop} {o : Oper} {Q : Exit → Act → World → Prop}
theorem Z1l{P:Program}{t:TypeId}{p:Prop}(hk:zsm P t p):((∃e,P.underlying t=some (.slice e))\/P.underlying t=some .string)/\p:=by
 unfold zsm at hk;split at hk
 . rename_i e he;exact⟨.inl ⟨e,he⟩,hk⟩
 . rename_i he;exact⟨.inr he,hk⟩
 . exact hk.elim
theorem zrk(hR:Rel C B e h a w){c:Call}{x y:Operand}(ho:o.op=.call c)(hf:c.callee=.builtin .append)(hx:c.args.toList=[x,y])
 (hk:Qt C .append c.argTypes.toList [x,y] e h o.dst K):o.wpIn (Yo ro) nn C.P a w (Qr C B o e K) Q:=by
 unfold Qt at hk;simp only at hk;have hargs:c.args=#[x,y]:=by rw[<-Gf];exact hx
 split at hk
 . rename_i t t2 ht;have htypes:c.argTypes=#[t,t2]:=by rw[<-Gf];exact ht
   unfold Zem at hk;split at hk
   . rename_i ik hu2;obtain⟨el,i,hu,hi,hk2⟩:=z0w hk;obtain⟨i',z,hi',hz0,hk3,hz⟩:=z7j hk2;obtain rfl:i=i':=by rw[hi]at hi';exact J9 hi'
     split at hk3
     . rename_i h1 h2;have h1:=Um h1;rw[Yp hi]at h1;have h1':z.cells.size=i.size:=by simpa using h1
       have h2':i.size≠0:=λhh=>by rw[h1,hh]at h2;exact absurd h2 (by decide)
       replace hk3:=yf hR (yf hR hk3);split at hk3
       . rename_i ad n c' k m hv hu3;rw[h1,za4 hi]at hk3;obtain⟨r,h',w',hK,hrun,hs,hfr,hd⟩:=zr8 (ty:=o.type) hR hu hu2 hi hz h1' h2' hk3.1 (zuq (λ_ ht=>zqo ht) hk3.2) (k:=k);refine yl (w':=w') ?_ (zz (hR.step hs hfr hd) hK);simp only[execOp,ho,resolve,hf,hargs,htypes,Jg,Ji,Jb,invoke,builtin];have:(#[x,y].map a.eval)=#[.slice ad n c',.int k m]:=by simp[hv,hu3]
         rw[this,hrun];rfl
       . exact hk3.elim
     . exact hk3.elim
   obtain⟨hu2,hk1⟩:=Z1l hk;obtain⟨el,i,hu,hi,hk2⟩:=z0w hk1;obtain⟨i',z,hi',hz0,hk3,hz⟩:=z7j hk2;obtain rfl:i=i':=by rw[hi]at hi';exact J9 hi'
   split at hk3
   . rename_i h1 h2;have h1:=Um h1;rw[Yp hi]at h1;have h1':z.cells.size=i.size:=by simpa using h1
     replace hk3:=yf hR hk3;split at hk3
     . rename_i ad n c' hv;rw[h1,za4 hi]at hk3;obtain⟨m,new,hk4,hl,hy,hnew⟩:=Zat hR hk3;obtain⟨r,h',w',hK,hrun,hs,hfr,hd⟩:=hu2.elim (λ⟨el2,hu2⟩=>zur (ty:=o.type) hR hu hu2 hi hz h1' hy hnew (zuq (λ_ ht=>zqo ht) hk4)) (λhu2=>zr7 (ty:=o.type) hR hu hu2 hi hz h1' hy hnew (zuq (λ_ ht=>zqo ht) hk4));refine yl (w':=w') ?_ (zz (hR.step hs hfr hd) hK);simp only[execOp,ho,resolve,hf,hargs,htypes,Jg,Ji,Jb,invoke,builtin];have:(#[x,y].map a.eval)=#[.slice ad n c',a.eval y]:=by simp[hv]
       rw[this,hrun];rfl
     . exact hk3.elim
   . exact hk3.elim
 . exact hk.elim
theorem Z0h(hR:Rel C B e h a w){c:Call}{x y:Operand}(ho:o.op=.call c)(hf:c.callee=.builtin .copy)(hx:c.args.toList=[x,y])
 (hk:Qt C .copy c.argTypes.toList [x,y] e h o.dst K):o.wpIn (Yo ro) nn C.P a w (Qr C B o e K) Q:=by
 unfold Qt at hk;simp only at hk;have hargs:c.args=#[x,y]:=by rw[<-Gf];exact hx
 split at hk
 . rename_i t t2 ht;have htypes:c.argTypes=#[t,t2]:=by rw[<-Gf];exact ht
   obtain⟨el,i,hu,hi,hk2⟩:=z0w hk;replace hk2:=yf hR (yf hR hk2);split at hk2
   . rename_i a1 l1 c1 a2 l2 c2 hv hu2;obtain⟨l,hl,hst⟩:=hk2;rw[Yp hi]at hl;simp only at hl hst;have hread:(Ue i.size (Nat.min l2 l1) (.slice a2 l2 c2)).run C.P w=.ok l.toArray w:=by
      cases a2 with
      | none=>
        simp only[yc]at hl;split at hl
        . simp only[Jm]at hl;subst hl;simp[Ue]
        . cases hl
      | some sa=>
        simp only[Ue];exact Vk hR.sub hl
     have hev:(#[x,y].map a.eval)=#[.slice a1 l1 c1,.slice a2 l2 c2]:=by simp[hv,hu2]
     cases a1 with
     | none=>
       refine yl (w':=w) ?_ (zz hR hst);simp only[execOp,ho,resolve,hf,hargs,htypes,Jg,Ji,Jb,invoke,builtin,hev];simp[Builtin.copy_,zl hu,yt hi,Builtin.lenOf,hread,goInt]
     | some sa=>
       obtain⟨h',w',hK,hrun,hs',hf',hd⟩:=zdx (C:=C) (ad:=sa.add 0) (vs:=l) (K:=λh'=>Ql C o.dst (.int .i64 ((Nat.min l2 l1:Nat):Int)) h' K) hR.sub hst;refine yl (w':=w') ?_ (zz (hR.step hs' hf' hd) hK);have e0:sa.add 0=sa:=by cases sa;rfl
       rw[e0]at hrun;simp only[execOp,ho,resolve,hf,hargs,htypes,Jg,Ji,Jb,invoke,builtin,hev];simp[Builtin.copy_,zl hu,yt hi,Builtin.lenOf,hread,goInt,hrun]
   . exact hk2.elim
 . exact hk.elim
theorem zv6(hR:Rel C B e h a w){c:Call}{x:Operand}(ho:o.op=.call c)(hf:c.callee=.builtin .clear)(hx:c.args.toList=[x])
 (hk:Qt C .clear c.argTypes.toList [x] e h o.dst K):o.wpIn (Yo ro) nn C.P a w (Qr C B o e K) Q:=by
 unfold Qt at hk;simp only at hk;have hargs:c.args=#[x]:=by rw[<-Gf];exact hx
 split at hk
 . rename_i t ht;have htypes:c.argTypes=#[t]:=by rw[<-Gf];exact ht
   obtain⟨el,i,hu,hi,hk2⟩:=z0w hk;obtain⟨i2,z,_,_,hk3,hz⟩:=z7j hk2;replace hk3:=yf hR hk3;split at hk3
   . rename_i ad l cp hv;obtain⟨g0,g1⟩:=hk3;have hev:(#[x].map a.eval)=#[.slice ad l cp]:=by simp[hv]
     by_cases hl:l=0
     . subst hl;refine yl (w':=w) ?_ (zz hR (g0 rfl));simp only[execOp,ho,resolve,hf,hargs,htypes,Jg,Ji,Jb,invoke,builtin,hev];cases ad<;>simp[Builtin.clear_,zl hu]
     . have g2:=g1 hl;obtain⟨m,rfl⟩:∃m,l=m+1:=⟨l-1,by omega⟩;cases ad with
       | none=>
         refine yl (w':=w) ?_ (zz hR g2);simp only[execOp,ho,resolve,hf,hargs,htypes,Jg,Ji,Jb,invoke,builtin,hev];simp[Builtin.clear_,zl hu]
       | some sa=>
         obtain⟨h',w',hK,hrun,hs',hf',hd⟩:=zdx (C:=C) (ad:=sa.add 0) (K:=λh'=>Ql C o.dst (.tuple #[]) h' K) hR.sub g2;refine yl (w':=w') ?_ (zz (hR.step hs' hf' hd) hK);have e0:sa.add 0=sa:=by cases sa;rfl
         rw[e0]at hrun;have hzc:Builtin.zeroCells z.cells (m+1)=(yn (m+1) z.cells.toList).toArray:=z4t;simp only[execOp,ho,resolve,hf,hargs,htypes,Jg,Ji,Jb,invoke,builtin,hev];simp[Builtin.clear_,zl hu,hz,hzc,hrun]
   . exact hk3.elim
 . exact hk.elim
theorem z8m(hC:zb9 C C.tab)(hR:Rel C B e h a w)(hk:Zg C o e h K):o.wpIn (Yo ro) nn C.P a w (Qr C B o e K) Q:=by
 cases ho:o.op with
 | move x=>exact zn2 hR (.inl ho) hk
 | assign x=>exact zn2 hR (.inr ho) hk
 | pick c x y=>exact Z0j hR ho hk
 | alloc t=>exact zv2 hR ho hk
 | box t x=>exact Z3h hR ho hk
 | build t p=>exact zv4 hR ho hk
 | buildSlice t n p=>exact ziv hR ho hk
 | load t x=>exact Z0i hR ho hk
 | store t x y=>exact zva hR ho hk
 | nilCheck x=>exact zme hR ho hk
 | binOp op t x y t'=>exact zv3 hR ho hk
 | unOp op t x=>exact Z0k hR ho hk
 | convert s t x=>exact zoq hR ho hk
 | makeFunc fn u v=>
   cases fn with
   | func g=>exact zmd hR ho hk
   | _=>unfold Zg at hk;rw[ho]at hk;exact hk.elim
 | makeSlice t l c=>exact zjw hR ho hk
 | slice t x lo hi mx=>
   cases mx with
   | none=>exact zv9 hR ho hk
   | some m=>
     cases hi with
     | none=>unfold Zg at hk;rw[ho]at hk;exact hk.elim
     | some u=>exact zrm hR ho hk
 | fieldAddr t x f=>exact zju hR ho hk
 | field t x f=>exact zv7 hR ho hk
 | indexAddr t x ix=>exact zjv hR ho hk
 | index t x ix=>exact zv8 hR ho hk
 | extract x i=>exact zor hR ho hk
 | makeMap t r=>
   cases r with
   | none=>exact zos hR ho hk
   | some m=>unfold Zg at hk;rw[ho]at hk;exact hk.elim
 | lookup t x ix ok=>
   cases ok with
   | false=>exact zrl hR ho hk
   | true=>unfold Zg at hk;rw[ho]at hk;exact hk.elim
 | mapUpdate t x k y=>exact zjx hR ho hk
 | call c=>
   cases hc:c.callee with
   | value f=>exact zv5 hC hR ho hc hk
   | invoke r m=>unfold Zg at hk;rw[ho]at hk;simp only[hc]at hk
   | builtin b=>
     unfold Zg at hk;rw[ho]at hk;simp only[hc]at hk;have hk0:=hk;unfold Qt at hk;split at hk
     . rename_i x hx;rw[hx]at hk0;exact Z3j hR ho hc hx hk0
     . rename_i x y hx;rw[hx]at hk0;exact Z3k hR ho hc hx hk0
     . rename_i x y hx;rw[hx]at hk0;exact Z3l hR ho hc hx hk0
     . rename_i x y hx;rw[hx]at hk0;exact zrk hR ho hc hx hk0
     . rename_i x y hx;rw[hx]at hk0;exact Z0h hR ho hc hx hk0
     . rename_i x hx;rw[hx]at hk0;exact zv6 hR ho hc hx hk0
     . rename_i x hx;rw[hx]at hk0;exact Z3i hR ho hc hx hk0
     . exact hk.elim
 | _=>unfold Zg at hk;rw[ho]at hk;exact hk.elim
end
def Zs9(s:Slot):Prop:=(∃cs,s=.box cs)\/(∃m,s=.mp m)\/s=.mr
def Wx(s s':Slot):Prop:=(Zs9 s->s'=s)/\∀v,s=.val v->s'=.val v
theorem Wx.refl(s:Slot):Wx s s:=⟨λ_=>rfl,λ_ h=>h⟩
theorem Wx.trans{a b c:Slot}(h1:Wx a b)(h2:Wx b c):Wx a c:=by
 refine⟨λhh=>?_,λv hv=>h2.2 v (h1.2 v hv)⟩;have:=h1.1 hh;rw[this]at h2;exact h2.1 hh
section
variable {C : Cfg} {B : Base}
theorem zfs{e:Env}{u:Up}{t:Nat}(ht:∀d,u.dst=some d->t≠d):Wx (e t) (e.upd C.rt u t):=by
 cases u with
 | none=>exact Wx.refl _
 | set d s=>simp only[Env.upd,Env.set_ne (ht d rfl)];exact Wx.refl _
 | alloc d s=>
   simp only[Env.upd];refine⟨λhb=>?_,λv hv=>?_⟩
   . rcases hb with ⟨cs,h2⟩ | ⟨m,h2⟩ | h2
     . exact Env.alloc_ne (ht d rfl) (by intro o ho;rw[h2]at ho;cases ho)
     . exact Env.alloc_ne (ht d rfl) (by intro o ho;rw[h2]at ho;cases ho)
     . exact Env.alloc_ne (ht d rfl) (by intro o ho;rw[h2]at ho;cases ho)
   . rw[Env.alloc_ne (ht d rfl) (by intro o ho;rw[hv]at ho;cases ho)];exact hv
def zjd(C:Cfg)(B:Base)(ms:List Nat)(e:Env)(K:Env->Hp->Prop):Exit->Act->World->Prop:=λx a' w'=>
 x=.normal/\∃e' h',K e' h'/\Rel C B e' h' a' w'/\∀t,t∉ms->Wx (e t) (e' t)
theorem zio{ops:Array Oper}{o:Oper}{tmps:Array Value}(hg:o.guard=none):Region.wanted o (yielded ops tmps)=true:=by
 simp[Region.wanted,hg]
theorem zin{ops:Array Oper}{o:Oper}{tmps:Array Value}{j d:Nat}{want t:Bool}(hg:o.guard=some (j,want))(hd:(ops[j]?).bind (·.dst)=some d)
 (ht:tmps[d]?=some (.bool t)):Region.wanted o (yielded ops tmps)=(t==want):=by
 simp only[Region.wanted,hg,yielded,hd,Option.bind_some,ht];cases t<;>cases want<;>rfl
theorem zgi{ops:Array Oper}{o:Oper}{tmps:Array Value}{j d:Nat}{want:Bool}{vs:Array Value}(hg:o.guard=some (j,want))(hd:(ops[j]?).bind (·.dst)=some d)
 (ht:tmps[d]?=some (.tuple vs)):Region.wanted o (yielded ops tmps)=false:=by
 simp only[Region.wanted,hg,yielded,hd,Option.bind_some,ht];rfl
theorem zk0(hC:zb9 C C.tab){ops:Array Oper}{K:Env->Hp->Prop}:∀{l:List Nat} {e:Env} {h:Hp} {a:Act} {w:World} {ms:List Nat} {Q:Exit->Act->World->Prop},
 (∀(i:Nat) (o:Oper),ops[i]?=some o->∀d∈Yt C o,d∈ms)->(∀x a w,zjd C B ms e K x a w->Q x a w) ->
 Rel C B e h a w->W4 C ops K l e h->wpOpsIn (Yo ro) nn C.P ops Q l a w
 | [],e,h,a,w,ms,Q,_,hQ,hR,hk=>hQ _ _ _ ⟨rfl,e,h,hk,hR,λ_ _=>Wx.refl _⟩
 | i :: r,e,h,a,w,ms,Q,hms,hQ,hR,hk=>by
   rw[wpOpsIn_cons];unfold W4 at hk;unfold wpOpIn;cases hi:ops[i]? with
   | none=>rw[hi]at hk;exact hk.elim
   | some o=>
     rw[hi]at hk;simp only at hk |-
     have rest:∀e1:Env,(∀t,e1 t=e t)->∀a' w',Qr C B o e1 (λu h'=>W4 C ops K r (e1.upd C.rt u) h') a' w'->wpOpsIn (Yo ro) nn C.P ops Q r a' w':=by
      rintro e1 he1 a' w' ⟨u,h',hk',hR',hd'⟩;refine zk0 hC hms (λx a w hb=>hQ x a w ?_) hR' hk';obtain⟨hx,e',h'',q1,q2,q3⟩:=hb;refine⟨hx,e',h'',q1,q2,λt ht=>?_⟩;rw[<-he1 t];exact(zfs λd hd hh=>ht (by rw[hh];exact hms i o hi d (hd' d hd))).trans (q3 t ht)
     cases hg:o.guard with
     | none=>
       rw[hg]at hk;simp only at hk;rw[if_pos (zio hg)];exact Oper.wpIn_mono (λa w ha=>rest e (λ_=>rfl) a w ha) (z8m hC hR hk)
     | some g=>
       obtain⟨j,want⟩:=g;rw[hg]at hk;simp only at hk;cases hd:(ops[j]?).bind (·.dst)with
       | none=>rw[hd]at hk;exact hk.elim
       | some d=>
         rw[hd]at hk;simp only at hk;cases hl:C.loc d with
         | true=>
           rw[hl]at hk;split at hk
           . contradiction
           . contradiction
           . exact hk.elim
         | false=>
           rw[hl]at hk;split at hk
           . rename_i t _ hv;have hset:∀b,t=b->e.set d (.val (.bool b))=e:=λb hb=>by
              subst hb;exact hR.setSame hv
             rw[zin hg hd (hR.vals d _ hv)];cases t<;>cases want<;>simp only[ifP]at hk
             . rw[hset false rfl]at hk;rw[if_pos (by decide)];exact Oper.wpIn_mono (λa w ha=>rest e (λ_=>rfl) a w ha) (z8m hC hR hk)
             . rw[hset false rfl]at hk;rw[if_neg (by simp)];exact⟨λ_ _=>trivial,rest e (λ_=>rfl) _ _ (z8y hR hk)⟩
             . rw[hset true rfl]at hk;rw[if_neg (by simp)];exact⟨λ_ _=>trivial,rest e (λ_=>rfl) _ _ (z8y hR hk)⟩
             . rw[hset true rfl]at hk;rw[if_pos (by decide)];exact Oper.wpIn_mono (λa w ha=>rest e (λ_=>rfl) a w ha) (z8m hC hR hk)
           . rename_i vs _ hv;rw[zgi hg hd (hR.vals d _ hv),if_neg (by simp)];exact⟨λ_ _=>trivial,rest e (λ_=>rfl) _ _ (z8y hR hk)⟩
           . exact hk.elim
end
end Den
end

section
namespace Den
open Go
abbrev PT:=Hp->(Up->Hp->Prop)->Prop
abbrev rng(M:Up->Prop)(u:Up):Prop:=M u
def Wn(C:Cfg)(o:Oper)(u:Up):Prop:=(∀d,u.dst=some d->d∈Yt C o)/\(∀d off,u=.set d (.ref off)->o.dst=some d)/\∀d off,u≠.alloc d (.ref off)
def zm7(M:Up->Prop)(dst:Option Nat):Prop:=M .none/\∀d,dst=some d->∀s,M (.set d s)/\((∀o,s≠.ref o)->M (.alloc d s))
def zt(M:Up->Prop)(T:PT):Prop:=∃p:Up->Prop,(∀u,p u->rng M u)/\∀h K,T h K↔∃u,p u/\K u h
def Qs(M:Up->Prop)(T:PT):Prop:=∃p:Up->Hp->Prop,(∀u h,p u h->rng M u)/\(∀u h h',p u h->Hp.le h h'->p u h')/\∀h K,T h K↔∃u,p u h/\K u h
def z0k(M:Up->Prop)(T:PT):Prop:=∃(α:Type) (G:(α->Hp->Prop)->Hp->Prop) (q:α->Up->Prop),(∀r u,q r u->rng M u) /\
 ((∀h K,T h K↔zc G (λr h'=>∃u,q r u/\K u h') h)\/∀h K,¬T h K)
def z52(M:Up->Prop)(T:PT):Prop:=∃(P0:Prop) (c:List Value) (f:Nat->Up) (q:TypeId->Prop),(∃el,q el)/\(∀b,rng M (f b))/\∀h K,T h K↔P0/\∀b el,q el->h b=none->K (f b) (h.ins b ⟨c,el,(0,0)⟩)
def Zy(M:Up->Prop)(T:PT):Prop:=∀h K K',(∀u h,M u->K u h->K' u h)->T h K->T h K'
section
variable {M : Up → Prop}
theorem zm:zt M λ_ _=>False:=⟨λ_=>False,λ_ hh=>hh.elim,λh K=>⟨λhh=>hh.elim,λ⟨_,hh,_⟩=>hh⟩⟩
theorem z4l{u:Up}(hu:rng M u):zt M λh K=>K u h:=⟨λv=>v=u,λv hv=>hv▸hu,λh K=>⟨λhh=>⟨u,rfl,hh⟩,λ⟨_,e,hh⟩=>e▸hh⟩⟩
theorem Za3{ι:Type}{T:ι->PT}(hT:∀i,zt M (T i)):zt M λh K=>∃i,T i h K:=by
 refine⟨λu=>∃i,(hT i).choose u,λu ⟨i,hi⟩=>(hT i).choose_spec.1 u hi,λh K=>⟨λ⟨i,hi⟩=>?_,λ⟨u,⟨i,hi⟩,hk⟩=>⟨i,?_⟩⟩⟩
 . obtain⟨u,h1,h2⟩:=((hT i).choose_spec.2 h K).1 hi;exact⟨u,⟨i,h1⟩,h2⟩
 . exact((hT i).choose_spec.2 h K).2 ⟨u,hi,hk⟩
theorem Wq{c:Prop}{T:PT}(hT:zt M T):zt M λh K=>c/\T h K:=by
 obtain⟨p,h1,h2⟩:=hT;refine⟨λu=>c/\p u,λu hu=>h1 u hu.2,λh K=>⟨λ⟨hc,hh⟩=>?_,λ⟨u,⟨hc,hu⟩,hk⟩=>⟨hc,(h2 h K).2 ⟨u,hu,hk⟩⟩⟩⟩;obtain⟨u,hu,hk⟩:=(h2 h K).1 hh;exact⟨u,⟨hc,hu⟩,hk⟩
theorem z9t{k k':IntKind}{T:PT}(hT:zt M T):zt M λh K=>z16 k k' (T h K):=by
 have:=Wq (c:=k=k') hT;obtain⟨p,h1,h2⟩:=this;exact⟨p,h1,λh K=>Qd.trans (h2 h K)⟩
theorem Ya{C:Cfg}{dst:Option Nat}{v:Value}(hd:zm7 M dst):zt M λh K=>Ql C dst v h K:=by
 unfold Ql;cases dst with
 | none=>exact z4l hd.1
 | some d=>
   simp only;split
   . exact z4l (hd.2 _ rfl _).1
   . exact zm
theorem zj6{C:Cfg}{dst:Option Nat}{root off:Nat}(hd:zm7 M dst):zt M λh K=>zt5 C dst root off h K:=by
 unfold zt5;cases dst with
 | none=>exact zm
 | some d=>
   simp only;split
   . exact z4l (hd.2 _ rfl _).1
   . exact zm
theorem Za6{C:Cfg}{dst:Option Nat}(hd:zm7 M dst):zt M λh K=>zeb C dst h K:=by
 unfold zeb;cases dst with
 | none=>exact z4l hd.1
 | some d=>
   simp only;split
   . exact z4l ((hd.2 _ rfl _).2 (λ_ hh=>by cases hh))
   . exact zm
   . exact Ya hd
theorem Xg{e:Env}{x:Operand}{T:Value->PT}(hT:∀v,zt M (T v)):zt M λh K=>opv e x λv=>T v h K:=by
 unfold opv;split
 . exact hT _
 . exact hT _
 . exact hT _
 . split
   . exact hT _
   . exact zm
theorem zg0{e:Env}:∀{l:List Operand} {T:List Value->PT},(∀v,zt M (T v))->zt M λh K=>z9p e l λv=>T v h K
 | [],T,hT=>hT []
 | x :: r,T,hT=>by
   unfold z9p;exact Xg λv=>zg0 (l:=r) (T:=λvs=>T (v :: vs)) λvs=>hT _
theorem zg1{p:Option Addr}{T:Addr->PT}(hT:∀a,zt M (T a)):zt M λh K=>Ye p λa=>T a h K:=by
 cases p with
 | none=>exact zm
 | some a=>exact hT a
theorem zpr{P:Program}{t:TypeId}{T:PT}(hT:zt M T):zt M λh K=>okT P t (T h K):=by
 unfold okT;split
 . exact hT
 . exact zm
theorem zzk{n:Int}{len:Nat}{T:PT}(hT:zt M T):zt M λh K=>ze0 n len (T h K):=by
 unfold ze0;split
 . exact hT
 . exact zm
theorem zsu{P:Program}{t:TypeId}{T:List Value->PT}(hT:∀a,zt M (T a)):zt M λh K=>zbh P t λa=>T a h K:=by
 unfold zbh;split
 . split
   . exact hT _
   . exact zm
 . exact zm
theorem zhf{P:Program}{t:TypeId}{T:TypeId->PT}(hT:∀a,zt M (T a)):zt M λh K=>elemOf? P t λa=>T a h K:=by
 unfold elemOf?;split
 . split
   . exact hT _
   . exact zm
 . exact zm
theorem zl4{P:Program}{t:TypeId}{f:Nat}{T:Nat->PT}(hT:∀a,zt M (T a)):zt M λh K=>zd5 P t f λa=>T a h K:=by
 unfold zd5;split
 . split
   . split
     . exact zm
     . exact hT _
   . exact zm
 . exact zm
theorem Za4{pl:Nat->Option (Nat×Nat)}{z:List Value}{ps:List (Nat×Value)}{T:List Value->PT}(hT:∀a,zt M (T a)):zt M λh K=>znb pl z ps λa=>T a h K:=by
 unfold znb;split
 . exact hT _
 . exact zm
theorem z5z{P:Program}{t:TypeId}{cs:List Value}{off:Nat}{T:Value->PT}(hT:∀a,zt M (T a)):zt M λh K=>z9r P t cs off λa=>T a h K:=by
 unfold z9r;split
 . exact zm
 . split
   . exact hT _
   . exact zm
 . split
   . exact hT _
   . exact zm
theorem znp:∀{n:Nat} {T:List Value->PT},(∀l,zt M (T l))->zt M λh K=>zpk n λl=>T l h K
 | 0,_,hT=>hT []
 | n+1,T,hT=>Za3 λc=>znp (n:=n) (T:=λl=>T (.pointer c :: l)) λl=>hT _
theorem znq{hint:Option (Nat×Nat)}{v:Value}{T:Value->PT}(hT:∀a,zt M (T a)):zt M λh K=>zxf hint v λa=>T a h K:=by
 cases hint with
 | none=>exact hT v
 | some p=>exact znp λl=>Wq (hT _)
theorem Zea{v:Value}{T:List Value->PT}(hT:∀a,zt M (T a)):zt M λh K=>Zi7 v λa=>T a h K:=by
 cases v<;>first | exact hT _ | exact zm
theorem zak{e:Env}{lo:Option Operand}{d:Int}{T:Int->PT}(hT:∀a,zt M (T a)):zt M λh K=>boP e lo d λa=>T a h K:=by
 unfold boP;split
 . exact hT _
 . refine Xg λv=>?_
   split
   . exact hT _
   . exact zm
theorem Zjw{t:Bool}{S T:PT}(hS:zt M S)(hT:zt M T):zt M λh K=>ifP t (S h K) (T h K):=by
 cases t
 . exact hT
 . exact hS
theorem Z1r{op:BinOp}{k k':IntKind}{a b:Int}{T:Value->PT}(hT:∀a,zt M (T a)):zt M λh K=>zph op k k' a b λv=>T v h K:=by
 cases op<;>simp only[zph]<;>first
  | exact Wq (hT _)
  | exact z9t (Wq (hT _))
  | exact z9t (hT _)
theorem Zeb{P:Program}{t:TypeId}{op:BinOp}{x y:Value}{T:Value->PT}(hT:∀a,zt M (T a)):zt M λh K=>Z33 P t op x y λv=>T v h K:=by
 unfold Z33;split
 . exact Z1r hT
 . split<;>first | exact Wq (hT _) | exact hT _ | exact zm
 . split<;>first | exact hT _ | exact zm
 . split<;>first | exact hT _ | exact zm
 . unfold Zjj;split
   . split
     . split
       . refine z9t (z9t ?_);split<;>first | exact hT _ | exact zm
       . exact zm
     . exact zm
   . exact zm
 . exact zm
theorem Za5{P:Program}{ix:Operand}{t:TypeId}{cs:List Value}{off:Nat}{T:Value->PT}(hT:∀a,zt M (T a)):zt M λh K=>zst P ix t cs off λv=>T v h K:=by
 unfold zst;split
 . split
   . exact Za3 λx=>Wq (hT _)
   . exact zm
 . exact z5z hT
theorem Zjx{op:UnOp}{x:Value}{T:Value->PT}(hT:∀a,zt M (T a)):zt M λh K=>unP op x λv=>T v h K:=by
 unfold unP;split<;>first | exact hT _ | exact zm
end
section
variable {C : Cfg} {o : Oper} {e : Env}
theorem zw:zm7 (Wn C o) o.dst:=by
 refine⟨⟨(λd hd=>by cases hd),(λd off hd=>by cases hd),(λd off hd=>by cases hd)⟩,λd hd s=>⟨⟨λd' hd'=>?_,λd' off hd'=>?_,(λd' off hd'=>by cases hd')⟩,
  λhs=>⟨λd' hd'=>?_,(λd' off hd'=>by cases hd'),λd' off hd'=>?_⟩⟩⟩
 . simp only[Up.dst,Jm]at hd';subst hd';simp[Yt,hd]
 . simp only[Up.set.injEq]at hd';rw[<-hd'.1];exact hd
 . simp only[Up.dst,Jm]at hd';subst hd';simp[Yt,hd]
 . simp only[Up.alloc.injEq]at hd';exact hs _ hd'.2
theorem Zec{M:Up->Prop}{P:Program}{t:TypeId}{T:PT}(hT:zt M T):zt M λh K=>zpo P t (T h K):=by
 unfold zpo;split
 . split
   . split
     . exact hT
     . exact zm
   . exact zm
 . exact zm
theorem zzl{M:Up->Prop}{x:Operand}{T:Nat->List (Int×Bool)->PT}{D:PT}(hT:∀s m,zt M (T s m))(hD:zt M D):zt M λh K=>zep C e x (λs m=>T s m h K) (D h K):=by
 unfold zep;split
 . split
   . split
     . exact hT _ _
     . exact zm
   . split
     . exact hT _ _
     . exact zm
   . exact hD
 . exact hD
theorem Zed{M:Up->Prop}{dst:Option Nat}{root:Nat}(hd:zm7 M dst):zt M λh K=>zx5 C dst root h K:=by
 unfold zx5;cases dst with
 | none=>exact zm
 | some d=>
   simp only;split
   . exact z4l (hd.2 _ rfl _).1
   . exact zm
theorem zzm{M:Up->Prop}{dst:Option Nat}{x:Operand}(hd:zm7 M dst):zt M λh K=>zep C e x (λs _=>(match z06 s C.mapL with
 | true=>zx5 C dst s h K
 | false=>False)) (opv e x λv=>Ql C dst v h K):=by
 refine zzl (T:=λs _ h K=>(match z06 s C.mapL with
  | true=>zx5 C dst s h K
  | false=>False)) (D:=λh K=>opv e x λv=>Ql C dst v h K) (λs _=>?_) (Xg λv=>Ya hd)
 cases z06 s C.mapL with
 | true=>exact Zed hd
 | false=>exact zm
theorem zal{b:Builtin}(hb:b=.len\/b=.max\/b=.min\/b=.cap){ts:List TypeId}{xs:List Operand} :
 zt (Wn C o) λh K=>Qt C b ts xs e h o.dst K:=by
 unfold Qt;split
 . refine zzl (λs m=>?_) ?_
   . split
     . exact Zec (Ya zw)
     . exact zm
   refine Xg λv=>?_
   split
   . split
     . exact Ya zw
     . exact zm
   . split
     . exact Ya zw
     . exact zm
   . exact zm
 . refine Xg λu=>Xg λv=>?_
   cases u<;>cases v<;>first
    | exact zm
    | exact z9t (T:=λh K=>Ql C o.dst (.int _ (zwp _ _)) h K) (Ya zw)
 . refine Xg λu=>Xg λv=>?_
   cases u<;>cases v<;>first
    | exact zm
    | exact z9t (T:=λh K=>Ql C o.dst (.int _ (Zjn _ _)) h K) (Ya zw)
 . rcases hb with hb | hb | hb | hb<;>cases hb
 . rcases hb with hb | hb | hb | hb<;>cases hb
 . rcases hb with hb | hb | hb | hb<;>cases hb
 . refine Xg λv=>?_
   split
   . split
     . exact Ya zw
     . exact zm
   . exact zm
 . exact zm
theorem z7f(hc:Vi C o=.pure):zt (Wn C o) λh K=>Zg C o e h K:=by
 unfold Vi at hc;unfold Zg;cases ho:o.op<;>simp only[ho]at hc |-<;>try (cases hc;done)
 case makeSlice t l c=>
  exfalso;revert hc
  repeat' split
  all_goals (intro hc;cases hc)
 case load t x=>
  split
  . rename_i s;simp only at hc;split
    . exact z5z λv=>Ya zw
    . split
      . exact z5z λv=>Ya zw
      . exact zm
    . cases hl:C.loc (C.rt s)with
      | true=>exact zm
      | false=>rw[hl]at hc;cases hc
    . exact zm
  . exact zm
 case store t x y=>
  refine Xg λv=>?_
  split
  . split
    . rename_i s;simp only at hc;split
      . split
        . exact z4l ⟨(λd hd=>by simp only[Up.dst,Jm]at hd;subst hd;simp[Yt,ho]),(λd off hd=>by cases hd),(λd off hd=>by cases hd)⟩
        . exact zm
      . split
        . split
          . exact z4l ⟨(λd hd=>by simp only[Up.dst,Jm]at hd;subst hd;simp[Yt,ho]),(λd off hd=>by cases hd),(λd off hd=>by cases hd)⟩
          . exact zm
        . exact zm
      . cases hl:C.loc (C.rt s)with
        | true=>exact zm
        | false=>rw[hl]at hc;cases hc
      . exact zm
    . exact zm
  . exact zm
 case move x=>exact zzm zw
 case assign x=>exact zzm zw
 case pick c x y=>
  refine Xg λv=>?_
  split
  . exact Zjw (Xg λv=>Ya zw) (Xg λv=>Ya zw)
  . exact zm
 case alloc t=>
  refine zsu λcs=>?_
  unfold z41;cases hd:o.dst with
  | none=>exact zm
  | some d=>
    rw[hd]at hc;simp only at hc |-
    cases hl:C.loc d with
    | false=>rw[hl]at hc;cases hc
    | true=>
      split
      . exact z4l ((zw.2 _ hd _).2 (λ_ hh=>by cases hh))
      . contradiction
      . exact zm
 case box t x=>
  refine Xg λv=>?_
  unfold z41;cases hd:o.dst with
  | none=>exact zm
  | some d=>
    rw[hd]at hc;simp only at hc |-
    cases hl:C.loc d with
    | false=>rw[hl]at hc;cases hc
    | true=>
      split
      . exact z4l ((zw.2 _ hd _).2 (λ_ hh=>by cases hh))
      . contradiction
      . exact zm
 case build t p=>
  refine zg0 λvs=>?_
  split
  . exact Ya zw
  . exact zm
 case buildSlice t n p=>
  refine zg0 λvs=>zhf λel=>zsu λz=>?_
  split
  . refine Za4 λcs=>?_
    unfold z41;cases hd:o.dst with
    | none=>exact zm
    | some d=>
      rw[hd]at hc;simp only at hc |-
      cases hl:C.loc d with
      | false=>rw[hl]at hc;cases hc
      | true=>
        split
        . exact z4l ((zw.2 _ hd _).2 (λ_ hh=>by cases hh))
        . contradiction
        . exact zm
  . exact zm
 case nilCheck x=>
  refine Xg λv=>?_
  split
  . exact zg1 λad=>Ya zw
  . exact Ya zw
  . exact zm
 case binOp op t x y t'=>exact Xg λu=>Xg λv=>Zeb λr=>Ya zw
 case unOp op t x=>exact Xg λu=>Zjx λr=>Ya zw
 case convert s t x=>
  refine Xg λv=>?_
  split
  . split
    . exact Ya zw
    . exact zm
  . rename_i hu;rw[hu]at hc;cases hc
  . rename_i hu;rw[hu]at hc;cases hc
  . exact zm
 case makeFunc fn u v=>
  cases fn with
  | func g=>exact zg0 λus=>zg0 λvs=>Ya zw
  | _=>exact zm
 case slice t x lo hi mx=>
  cases mx with
  | some m=>
    cases hi with
    | none=>exact zm
    | some hi=>
      refine Xg λv=>?_
      split
      . refine zhf λel=>zak λl=>zak λu=>zak λm=>?_
        unfold Zep;exact Wq (Wq (Wq (Wq (Ya zw))))
      . exact zm
  | none=>
    refine Xg λv=>?_
    split
    . split
      . refine zak λl=>zak λu=>?_
        unfold Yv;exact Wq (Wq (Wq (Ya zw)))
      . exact zm
    . refine zhf λel=>zak λl=>zak λu=>?_
      unfold slP;exact Wq (Wq (Wq (Ya zw)))
    . split
      . refine zpr (zg1 λad=>zak λl=>zak λu=>?_);unfold slP;exact Wq (Wq (Wq (Ya zw)))
      . exact zm
    . exact zm
 case fieldAddr t x f=>
  refine zl4 λoff=>?_
  split
  . split
    . exact zj6 zw
    . exact zj6 zw
    . exact zg1 λad=>Ya zw
    . exact zm
  . exact zm
 case field t x f=>
  refine zl4 λoff=>Xg λv=>Zea λcs=>?_
  split
  . split
    . exact z5z λr=>Ya zw
    . exact zm
  . exact zm
 case indexAddr t x ix=>
  refine Xg λiv=>?_
  split
  . split
    . refine zpr (Xg λv=>?_);split
      . unfold zg;exact Wq (Wq (zg1 λad=>Ya zw))
      . exact zm
    . refine zpr (zzk ?_);split
      . split
        . exact zj6 zw
        . exact zj6 zw
        . exact zg1 λad=>Ya zw
        . exact zm
      . exact Ya zw
      . exact zm
    . exact zm
  . exact zm
 case index t x ix=>
  refine Xg λiv=>Xg λv=>?_
  split
  . split
    . unfold qy;exact Wq (Za3 λb=>Wq (Ya zw))
    . exact zm
  . split
    . exact zpr (zzk (Za5 λr=>Ya zw))
    . exact zm
  . exact zm
 case extract x i=>
  refine Xg λv=>?_
  split
  . split
    . exact Ya zw
    . exact zm
  . exact zm
 case call c=>
  cases hcal:c.callee with
  | builtin b=>
    rw[hcal]at hc;simp only;cases b with
    | len=>exact zal (.inl rfl)
    | max=>exact zal (.inr (.inl rfl))
    | min=>exact zal (.inr (.inr (.inl rfl)))
    | cap=>exact zal (.inr (.inr (.inr rfl)))
    | _=>cases hc
  | value f=>
    exfalso;rw[hcal]at hc;cases f with
    | func g=>
      simp only at hc;cases hm:C.muts g<;>rw[hm]at hc<;>cases hc
    | _=>cases hc
  | invoke r m=>rw[hcal]at hc;cases hc
end
end Den
end

section
namespace Den
open Go
def z9g(T:PT):Prop:=∀h K,T h K->T h λu h'=>K u h'/\h.le h'
section
variable {Φ : PT → Prop} (hF : Φ fun _ _ => False)
include hF
theorem W0{e:Env}{x:Operand}{T:Value->PT}(hT:∀v,Φ (T v)):Φ λh K=>opv e x λv=>T v h K:=by
 unfold opv;split
 . exact hT _
 . exact hT _
 . exact hT _
 . split
   . exact hT _
   . exact hF
theorem zd9{e:Env}:∀{l:List Operand} {T:List Value->PT},(∀v,Φ (T v))->Φ λh K=>z9p e l λv=>T v h K
 | [],T,hT=>hT []
 | x :: r,T,hT=>by
   unfold z9p;exact W0 hF λv=>zd9 (l:=r) (T:=λvs=>T (v :: vs)) λvs=>hT _
theorem zok{p:Option Addr}{T:Addr->PT}(hT:∀a,Φ (T a)):Φ λh K=>Ye p λa=>T a h K:=by
 cases p with
 | none=>exact hF
 | some a=>exact hT a
theorem z0f{P:Program}{t:TypeId}{T:List Value->PT}(hT:∀a,Φ (T a)):Φ λh K=>zbh P t λa=>T a h K:=by
 unfold zbh;split
 . split
   . exact hT _
   . exact hF
 . exact hF
theorem z0l{P:Program}{t:TypeId}{T:TypeId->PT}(hT:∀a,Φ (T a)):Φ λh K=>elemOf? P t λa=>T a h K:=by
 unfold elemOf?;split
 . split
   . exact hT _
   . exact hF
 . exact hF
theorem zjr{pl:Nat->Option (Nat×Nat)}{z:List Value}{ps:List (Nat×Value)}{T:List Value->PT}(hT:∀a,Φ (T a)):Φ λh K=>znb pl z ps λa=>T a h K:=by
 unfold znb;split
 . exact hT _
 . exact hF
end
theorem zk{M:Up->Prop}:Zy M λ_ _=>False:=λ_ _ _ _ h=>h
theorem qx:z9g λ_ _=>False:=λ_ _ h=>h
theorem zt.mono{M:Up->Prop}{T:PT}(hT:zt M T):Zy M T:=by
 obtain⟨p,h1,h2⟩:=hT;intro h K K' hk ht;obtain⟨u,h3,h4⟩:=(h2 h K).1 ht;exact(h2 h K').2 ⟨u,h3,hk _ _ (h1 _ h3) h4⟩
theorem zt.grow{M:Up->Prop}{T:PT}(hT:zt M T):z9g T:=by
 obtain⟨p,_,h2⟩:=hT;intro h K ht;obtain⟨u,h3,h4⟩:=(h2 h K).1 ht;exact(h2 h _).2 ⟨u,h3,h4,Hp.le_refl h⟩
theorem Qs.mono{M:Up->Prop}{T:PT}(hT:Qs M T):Zy M T:=by
 obtain⟨p,h1,_,h2⟩:=hT;intro h K K' hk ht;obtain⟨u,h3,h4⟩:=(h2 h K).1 ht;exact(h2 h K').2 ⟨u,h3,hk _ _ (h1 _ _ h3) h4⟩
theorem Qs.grow{M:Up->Prop}{T:PT}(hT:Qs M T):z9g T:=by
 obtain⟨p,_,_,h2⟩:=hT;intro h K ht;obtain⟨u,h3,h4⟩:=(h2 h K).1 ht;exact(h2 h _).2 ⟨u,h3,h4,Hp.le_refl h⟩
theorem z2w{α:Type}{G:(α->Hp->Prop)->Hp->Prop}{K K':α->Hp->Prop}{h:Hp}(hk:∀v h',K v h'->h.le h'->h'.Fin->K' v h')(hc:zc G K h):zc G K' h:=by
 obtain⟨D,O,Q,h1,h2,h3,h4⟩:=hc;refine⟨D,O,Q,h1,h2,h3,λv D' hQ=>⟨(h4 v D' hQ).1,λhd hfin=>hk _ _ ((h4 v D' hQ).2 hd hfin) ?_ hfin⟩⟩;rw[h2];exact Hp.add_mono (h4 v D' hQ).1 hd
theorem zuy{α:Type}{G:(α->Hp->Prop)->Hp->Prop}{K K':α->Hp->Prop}{h:Hp}(hk:∀v h',K v h'->K' v h')(hc:Qu G K h):Qu G K' h:=by
 obtain⟨D,O,Q,h1,h2,h3,h4⟩:=hc;exact⟨D,O,Q,h1,h2,h3,λv D' hQ hd=>hk _ _ (h4 v D' hQ hd)⟩
theorem z0k.mono{M:Up->Prop}{T:PT}(hT:z0k M T):Zy M T:=by
 obtain⟨α,G,q,h1,h2⟩:=hT;intro h K K' hk ht;rcases h2 with h2 | h2
 . refine(h2 h K').2 (z2w ?_ ((h2 h K).1 ht));rintro v h' ⟨u,h3,h4⟩ _ _;exact⟨u,h3,hk _ _ (h1 _ _ h3) h4⟩
 . exact(h2 _ _ ht).elim
theorem z0k.grow{M:Up->Prop}{T:PT}(hT:z0k M T):z9g T:=by
 obtain⟨α,G,q,_,h2⟩:=hT;intro h K ht;rcases h2 with h2 | h2
 . refine(h2 h _).2 (z2w ?_ ((h2 h K).1 ht));rintro v h' ⟨u,h3,h4⟩ hl _;exact⟨u,h3,h4,hl⟩
 . exact(h2 _ _ ht).elim
def Z05(T:PT):Prop:=∀h K,h.Fin->T h K->T h λu h'=>K u h'/\h'.Fin
theorem Z0w:Z05 λ_ _=>False:=λ_ _ _ h=>h
theorem zt.fin{M:Up->Prop}{T:PT}(hT:zt M T):Z05 T:=by
 obtain⟨p,_,h2⟩:=hT;intro h K hf ht;obtain⟨u,h3,h4⟩:=(h2 h K).1 ht;exact(h2 h _).2 ⟨u,h3,h4,hf⟩
theorem Qs.fin{M:Up->Prop}{T:PT}(hT:Qs M T):Z05 T:=by
 obtain⟨p,_,_,h2⟩:=hT;intro h K hf ht;obtain⟨u,h3,h4⟩:=(h2 h K).1 ht;exact(h2 h _).2 ⟨u,h3,h4,hf⟩
theorem z0k.fin{M:Up->Prop}{T:PT}(hT:z0k M T):Z05 T:=by
 obtain⟨α,G,q,_,h2⟩:=hT;intro h K _ ht;rcases h2 with h2 | h2
 . refine(h2 h _).2 (z2w ?_ ((h2 h K).1 ht));rintro v h' ⟨u,h3,h4⟩ _ hf;exact⟨u,h3,h4,hf⟩
 . exact(h2 _ _ ht).elim
theorem z52.fin{M:Up->Prop}{T:PT}(hT:z52 M T):Z05 T:=by
 obtain⟨P0,c,f,q,_,_,h2⟩:=hT;intro h K hf ht;obtain⟨h3,h4⟩:=(h2 h K).1 ht;exact(h2 h _).2 ⟨h3,λb el hq hb=>⟨h4 b el hq hb,hf.ins⟩⟩
theorem zkw{M:Up->Prop}(hM:M .none):z52 M λ_ _=>False:=⟨False,[],λ_=>.none,λ_=>True,⟨0,trivial⟩,λ_=>hM,λ_ _=>⟨λh=>h.elim,λh=>h.1.elim⟩⟩
section
variable {C : Cfg} {o : Oper} {e : Env}
theorem zt.load{M:Up->Prop}{T:PT}(hT:zt M T):Qs M T:=by
 obtain⟨p,h1,h2⟩:=hT;exact⟨λu _=>p u,λu _ hu=>h1 u hu,λ_ _ _ hu _=>hu,h2⟩
theorem Z9g{M:Up->Prop}{l:Lf}{a:Addr}{T:l.T->PT}(hT:∀x,Qs M (T x)):Qs M λh K=>ldL l a (λx=>T x h K) h:=by
 refine⟨λu h=>∃x,h.cell a=some (l.up x)/\(hT x).choose u h,λu h ⟨x,_,hx⟩=>(hT x).choose_spec.1 u h hx,
  λu h h' ⟨x,h1,h2⟩ hl=>⟨x,Hp.cell_le hl h1,(hT x).choose_spec.2.1 u h h' h2 hl⟩,λh K=>⟨?_,?_⟩⟩
 . rintro⟨x,h1,h2⟩;obtain⟨u,h3,h4⟩:=((hT x).choose_spec.2.2 h K).1 h2;exact⟨u,⟨x,h1,h3⟩,h4⟩
 . rintro⟨u,⟨x,h1,h2⟩,h3⟩;exact⟨x,h1,((hT x).choose_spec.2.2 h K).2 ⟨u,h2,h3⟩⟩
theorem zze{M:Up->Prop}:∀{ls:List Lf} {a:Addr} {i:Nat} {T:List Value->PT},(∀x,Qs M (T x))->Qs M λh K=>Z9e ls a i (λx=>T x h K) h
 | [],_,_,_,hT=>hT []
 | l :: r,a,i,T,hT=>by
   unfold Z9e;exact Z9g λx=>zze (ls:=r) (T:=λvs=>T (l.up x :: vs)) λvs=>hT _
theorem Z9h{M:Up->Prop}{P:Program}{t:TypeId}{a:Addr}{T:Value->PT}(hT:∀x,Qs M (T x)):Qs M λh K=>ldT P t a (λx=>T x h K) h:=by
 unfold ldT;split
 . split
   . exact zm.load
   . split
     . exact zze λvs=>hT _
     . exact zm.load
   . split
     . exact Z9g λx=>hT _
     . exact zm.load
 . exact zm.load
theorem z7c(hc:Vi C o=.load):Qs (Wn C o) λh K=>Zg C o e h K:=by
 unfold Vi at hc;unfold Zg;cases ho:o.op<;>simp only[ho]at hc |-<;>try (cases hc;done)
 case load t x=>
  split
  . split
    . exact(z5z λv=>Ya zw).load
    . split
      . exact(z5z λv=>Ya zw).load
      . exact zm.load
    . split
      . exact zm.load
      exact zok (Φ:=Qs _) zm.load λad=>Z9h λv=>(znq λv=>Ya zw).load
    . exact zm.load
  . exact zm.load
 all_goals
  exfalso;revert hc
  repeat' split
  all_goals (intro hc;first | (cases hc;done) | (cases hc;contradiction))
theorem zyq(hc:Vi C o=.call):∃c g,o.op=.call c/\c.callee=.value (.func g)/\C.muts g=false:=by
 unfold Vi at hc;cases ho:o.op<;>simp only[ho]at hc<;>try (cases hc;done)
 case call c=>
  cases hcal:c.callee with
  | builtin b=>rw[hcal]at hc;cases b<;>cases hc
  | invoke r m=>rw[hcal]at hc;cases hc
  | value f=>
    rw[hcal]at hc;cases f with
    | func g=>
      simp only at hc;cases hm:C.muts g with
      | true=>rw[hm]at hc;cases hc
      | false=>exact⟨c,g,rfl,hcal,hm⟩
    | _=>cases hc
 all_goals
  exfalso;revert hc
  repeat' split
  all_goals (intro hc;first | (cases hc;done) | (cases hc;contradiction))
theorem zjs{M:Up->Prop}{T:PT}(hT:∀h K,¬T h K):z0k M T:=⟨Unit,λ_ _=>False,λ_ _=>False,λ_ _ hh=>hh.elim,.inr hT⟩
theorem zd6(hC:zb9 C C.tab)(hc:Vi C o=.call):z0k (Wn C o) λh K=>Zg C o e h K:=by
 obtain⟨c,g,ho,hcal,hm⟩:=zyq hc;unfold Zg;simp only[ho,hcal,opv];refine zd9 (Φ:=z0k _) (zjs λ_ _ hh=>hh) λvs=>?_
 rcases hC.get g with ⟨_,hl⟩ | hno
 . rcases hl hm ((#[]:Array Value).toList++vs++(#[]:Array Value).toList)with ⟨α,G,up,hG⟩ | hno
   . have hp:∀r,zt (Wn C o) λh K=>Ql C o.dst (up r) h K:=λr=>Ya zw
     refine⟨α,G,λr=>(hp r).choose,λr u hu=>(hp r).choose_spec.1 u hu,.inl λh K=>?_⟩;have:∀r h',Ql C o.dst (up r) h' K↔∃u,(hp r).choose u/\K u h':=λr h'=>(hp r).choose_spec.2 h' K
     show ze9 g C.tab _ (λr h'=>Ql C o.dst r h' K) h↔_;rw[hG];constructor
     . exact z2w λr h' hh _ _=>(this r h').1 hh
     . exact z2w λr h' hh _ _=>(this r h').2 hh
   . exact zjs λh K=>hno _ _
 . exact zjs λh K=>hno _ _ _
theorem Z14{M:Up->Prop}{cs:List Value}{T:Addr->PT}(hm:∀a,Zy M (T a))(hg:∀a,z9g (T a)):z9g λh K=>Y2 cs (λa h'=>T a h' K) h:=by
 intro h K ht b el hb;refine hm _ _ _ _ ?_ (hg _ _ _ (ht b el hb));rintro u h' _ ⟨h1,h2⟩;exact⟨h1,Hp.le_trans (Hp.le_ins hb) h2⟩
theorem Z15{M:Up->Prop}{t:TypeId}{cs:List Value}{T:Addr->PT}(hm:∀a,Zy M (T a))(hg:∀a,z9g (T a)):z9g λh K=>Z1k t cs (λa h'=>T a h' K) h:=by
 intro h K ht b hb;refine hm _ _ _ _ ?_ (hg _ _ _ (ht b hb));rintro u h' _ ⟨h1,h2⟩;exact⟨h1,Hp.le_trans (Hp.le_ins hb) h2⟩
theorem Z1h{M:Up->Prop}{t:TypeId}{cs:List Value}{T:Addr->PT}(hm:∀a,Zy M (T a)):Zy M λh K=>Z1k t cs (λa h'=>T a h' K) h:=
 λh K K' hk ht b hb=>hm _ _ _ _ hk (ht b hb)
theorem znl{M:Up->Prop}{cs:List Value}{T:Addr->PT}(hm:∀a,Zy M (T a)):Zy M λh K=>Y2 cs (λa h'=>T a h' K) h:=
 λh K K' hk ht b el hb=>hm _ _ _ _ hk (ht b el hb)
theorem z1p{M:Up->Prop}{dst:Option Nat}{v:Value}(hd:zm7 M dst):Zy M λh K=>Ql C dst v h K:=(Ya hd).mono
theorem z10{M:Up->Prop}{u:Up}(hu:M u):Zy M λh K=>K u h:=λ_ _ _ hk ht=>hk _ _ hu ht
theorem zkf{u:Up}:z9g λh K=>K u h:=λh _ ht=>⟨ht,Hp.le_refl h⟩
theorem zcd{M:Up->Prop}{dst:Option Nat}{cs:List Value}{mk:Addr->Value}{hid:Slot}{ty:Option Nat}(hd:zm7 M dst)(hh:∀o,hid≠.ref o):Zy M λh K=>z41 C dst cs mk hid ty h K:=by
 unfold z41;cases dst with
 | none=>exact zk
 | some d=>
   simp only;split
   . exact z10 ((hd.2 _ rfl _).2 hh)
   . split
     . exact znl λa=>z10 (hd.2 _ rfl _).1
     . exact Z1h λa=>z10 (hd.2 _ rfl _).1
   . exact zk
theorem zc4{dst:Option Nat}{cs:List Value}{mk:Addr->Value}{hid:Slot}{ty:Option Nat}:z9g λh K=>z41 C dst cs mk hid ty h K:=by
 unfold z41;cases dst with
 | none=>exact qx
 | some d=>
   simp only;split
   . exact zkf
   . split
     . exact Z14 (M:=λ_=>True) (λa=>z10 trivial) (λa=>zkf)
     . exact Z15 (M:=λ_=>True) (λa=>z10 trivial) (λa=>zkf)
   . exact qx
theorem Zh0{t:TypeId}{l c:Operand}(ho:o.op=.makeSlice t l c)(hc:Vi C o=.new):∃d,o.dst=some d/\C.loc d=false/\T5 d C.n=true:=by
 unfold Vi at hc;simp only[ho]at hc;cases hd:o.dst with
 | none=>rw[hd]at hc;cases hc
 | some d=>
   rw[hd]at hc;simp only at hc;refine⟨d,rfl,?_⟩;cases hl:C.loc d with
   | true=>rw[hl]at hc;cases hc
   | false=>
     rw[hl]at hc;simp only at hc;cases hb:T5 d C.n with
     | true=>exact⟨rfl,rfl⟩
     | false=>rw[hb]at hc;cases hc
theorem zlm{d:Nat}{v:Value}{h:Hp}{K:Up->Hp->Prop}(hd:o.dst=some d)(hl:C.loc d=false)(hb:T5 d C.n=true):Ql C o.dst v h K=K (.set d (.val v)) h:=by
 unfold Ql;rw[hd];simp only;rw[hl,hb]
theorem Z99{len cap:Int}{bytes:Nat}{z:List Value}{d:Nat}(hd:o.dst=some d)(hl:C.loc d=false)(hb:T5 d C.n=true):z9g λh K=>mkP len cap bytes z (λs h'=>Ql C o.dst (.slice s.a s.len s.cap) h' K) h:=by
 rintro h K ⟨h1,h2,h3,h4,h5⟩;refine⟨h1,h2,h3,h4,λb e hn=>?_⟩;have:=h5 b e hn;simp only[zlm hd hl hb]at this |-
 exact⟨this,Hp.le_ins hn⟩
theorem Zjr{len cap:Int}{bytes:Nat}{z:List Value}{d:Nat}(hd:o.dst=some d)(hl:C.loc d=false)(hb:T5 d C.n=true):z52 (Wn C o) λh K=>mkP len cap bytes z (λs h'=>Ql C o.dst (.slice s.a s.len s.cap) h' K) h:=by
 refine⟨0<=len/\len<=cap/\bytes*cap<=140737488355328/\cap<=140737488355328,yn cap.toNat z,λb=>.set d (.val (.slice (some ⟨b,0,none⟩) len.toNat cap.toNat)),λ_=>True,⟨0,trivial⟩,λb=>(zw.2 d hd _).1,λh K=>⟨?_,?_⟩⟩
 . rintro⟨h1,h2,h3,h4,h5⟩;refine⟨⟨h1,h2,h3,h4⟩,λb el _ hn=>?_⟩;have:=h5 b el hn;simp only[zlm hd hl hb]at this;exact this
 . rintro⟨⟨h1,h2,h3,h4⟩,h5⟩;refine⟨h1,h2,h3,h4,λb el hn=>?_⟩;simp only[zlm hd hl hb];exact h5 b el trivial hn
theorem Z9w(hc:Vi C o=.new):z9g λh K=>Zg C o e h K:=by
 have hc0:=hc;unfold Vi at hc;unfold Zg;cases ho:o.op<;>simp only[ho]at hc |-<;>try (cases hc;done)
 case alloc t=>exact z0f qx λcs=>zc4
 case box t x=>exact W0 qx λv=>zc4
 case makeSlice t l c=>
  obtain⟨d,hd,hl,hb⟩:=Zh0 ho hc0;refine W0 qx λlv=>W0 qx λcv=>?_
  split
  . refine z0l qx λel=>z0f qx λz=>?_
    split
    . exact Z99 hd hl hb
    . exact qx
  . exact qx
 case buildSlice t n p=>
  refine zd9 qx λvs=>z0l qx λel=>z0f qx λz=>?_
  split
  . exact zjr qx λcs=>zc4
  . exact qx
 all_goals
  exfalso;revert hc
  repeat' split
  all_goals (intro hc;first | (cases hc;done) | (cases hc;contradiction))
theorem zhc{dst:Option Nat}{cs:List Value}{mk:Addr->Value}{hid:Slot}{ty:Option Nat}(hd:zm7 (Wn C o) dst)(hc:∀d,dst=some d->C.loc d=false) :
 z52 (Wn C o) λh K=>z41 C dst cs mk hid ty h K:=by
 unfold z41;cases dst with
 | none=>exact zkw hd.1
 | some d=>
   simp only;rw[hc d rfl];split
   . contradiction
   . split
     . exact⟨True,cs,λb=>.set d (.val (mk ⟨b,0,none⟩)),λ_=>True,⟨0,trivial⟩,λb=>(hd.2 d rfl _).1,λh K=>⟨λh1=>⟨trivial,λb el _=>h1 b el⟩,λh1 b el=>h1.2 b el trivial⟩⟩
     . rename_i t;exact⟨True,cs,λb=>.set d (.val (mk ⟨b,0,none⟩)),λx=>x=t,⟨t,rfl⟩,λb=>(hd.2 d rfl _).1,λh K=>⟨λh1=>⟨trivial,λb el he=>by subst he;exact h1 b⟩,λh1 b=>h1.2 b t rfl⟩⟩
   . exact zkw hd.1
theorem zfx(hc:Vi C o=.new):z52 (Wn C o) λh K=>Zg C o e h K:=by
 have hl:∀d,o.dst=some d->C.loc d=false:=by
  intro d hd;unfold Vi at hc;cases ho:o.op<;>simp only[ho]at hc<;>try (cases hc;done)
  all_goals first
   | (rw[hd]at hc;simp only at hc;cases hl:C.loc d with
      | false=>rfl
      | true=>rw[hl]at hc;cases hc)
   | (exfalso;revert hc;repeat' split
      all_goals (intro hc;first | (cases hc;done) | (cases hc;contradiction)))
 have hF:z52 (Wn C o) λ_ _=>False:=zkw (zw (C:=C) (o:=o)).1
 have hc0:=hc;unfold Vi at hc;unfold Zg;cases ho:o.op<;>simp only[ho]at hc |-<;>try (cases hc;done)
 case alloc t=>exact z0f hF λcs=>zhc zw hl
 case box t x=>exact W0 hF λv=>zhc zw hl
 case makeSlice t l c=>
  obtain⟨d,hd,hl,hb⟩:=Zh0 ho hc0;refine W0 hF λlv=>W0 hF λcv=>?_
  split
  . refine z0l hF λel=>z0f hF λz=>?_
    split
    . exact Zjr hd hl hb
    . exact hF
  . exact hF
 case buildSlice t n p=>
  refine zd9 hF λvs=>z0l hF λel=>z0f hF λz=>?_
  split
  . exact zjr hF λcs=>zhc zw hl
  . exact hF
 all_goals
  exfalso;revert hc
  repeat' split
  all_goals (intro hc;first | (cases hc;done) | (cases hc;contradiction))
theorem zsk{M:Up->Prop}{a:Addr}{vs:List Value}{T:PT}(hT:Zy M T):Zy M λh K=>stP a vs (λh'=>T h' K) h:=by
 rintro h K K' hk ⟨b,h1,h2,h3,h4,h5,h6⟩;exact⟨b,h1,h2,h3,h4,h5,hT _ _ _ hk h6⟩
theorem zfw{M:Up->Prop}{a:Option Addr}{off:Nat}{vs:List Value}{T:PT}(hT:Zy M T):Zy M λh K=>stO a off vs (λh'=>T h' K) h:=by
 cases a with
 | none=>exact hT
 | some a=>exact zsk hT
theorem Z1e{M:Up->Prop}{size bytes:Nat}{z:List Value}{x:Sl}{n:Nat}{new:List Value}{T:Sl->PT}(hT:∀s,Zy M (T s)) :
 Zy M λh K=>ql size bytes z x n new (λs h'=>T s h' K) h:=by
 rintro h K K' hk ⟨h1,h2,h3,h4⟩;refine⟨h1,h2,λhh=>zfw (hT _) h K K' hk (h3 hh),λhh=>?_⟩;obtain⟨old,h5,h6⟩:=h4 hh;exact⟨old,h5,λb el c hc hb=>hT _ _ _ _ hk (h6 b el c hc hb)⟩
theorem znj{M:Up->Prop}{ty:Option Nat}{size bytes:Nat}{z:List Value}{x:Sl}{n:Nat}{new:List Value}{T:Sl->PT}(hT:∀s,Zy M (T s)) :
 Zy M λh K=>Zdc ty size bytes z x n new (λs h'=>T s h' K) h:=by
 cases ty with
 | none=>exact Z1e hT
 | some t=>
   rintro h K K' hk ⟨h1,h2,h3,h4⟩;refine⟨h1,h2,λhh=>zfw (hT _) h K K' hk (h3 hh),λhh=>?_⟩;obtain⟨old,h5,h6⟩:=h4 hh;exact⟨old,h5,λb c hc hb=>hT _ _ _ _ hk (h6 b c hc hb)⟩
theorem Z9r{M:Up->Prop}{size:Nat}{x y:Sl}{T:Nat->PT}(hT:∀n,Zy M (T n)):Zy M λh K=>cpP size x y (λn h'=>T n h' K) h:=by
 rintro h K K' hk ⟨l,h1,h2⟩;exact⟨l,h1,zfw (hT _) h K K' hk h2⟩
theorem Z1f{M:Up->Prop}{x:Sl}{z:List Value}{T:PT}(hT:Zy M T):Zy M λh K=>zv0 x z (λh'=>T h' K) h:=by
 rintro h K K' hk ⟨h1,h2⟩;exact⟨λe=>hT _ _ _ hk (h1 e),λe=>zfw hT h K K' hk (h2 e)⟩
theorem Z9s{M:Up->Prop}{len cap:Int}{bytes:Nat}{z:List Value}{T:Sl->PT}(hT:∀s,Zy M (T s)):Zy M λh K=>mkP len cap bytes z (λs h'=>T s h' K) h:=by
 rintro h K K' hk ⟨h1,h2,h3,h4,h5⟩;exact⟨h1,h2,h3,h4,znl (T:=λa=>T ⟨some a,len.toNat,cap.toNat⟩) (λa=>hT _) h K K' hk h5⟩
theorem zsi{M:Up->Prop}{a:Option Addr}{n:Nat}{T:List Value->PT}(hT:∀vs,Zy M (T vs)):Zy M λh K=>rdO a n (λvs=>T vs h K) h:=by
 rintro h K K' hk ⟨l,h1,h2⟩;exact⟨l,h1,hT _ _ _ _ hk h2⟩
theorem Z1j{M:Up->Prop}{x:Operand}{size:Nat}{T:Nat->List Value->PT}(hT:∀n vs,Zy M (T n vs)):Zy M λh K=>zmq e x size (λn vs=>T n vs h K) h:=by
 unfold zmq;split
 . split
   . split
     . exact hT _ _
     . exact zk
   . exact zsi λvs=>hT _ _
   . split
     . exact hT _ _
     . exact zk
   . exact zk
 . exact zsi λvs=>hT _ _
 . split
   . exact hT _ _
   . exact zk
 . exact zk
theorem zws{M:Up->Prop}{x:Sl}{T:ByteArray->PT}(hT:∀vs,Zy M (T vs)):Zy M λh K=>zzz x (λvs=>T vs h K) h:=by
 rintro h K K' hk ⟨l,h1,h2⟩;exact⟨l,h1,hT _ _ _ _ hk h2⟩
theorem zsh{M:Up->Prop}{s:ByteArray}{T:Sl->PT}(hT:∀s,Zy M (T s)):Zy M λh K=>Z37 s (λs h'=>T s h' K) h:=by
 intro h K K' hk hh b el c fz hc hb;exact hT _ _ _ _ hk (hh b el c fz hc hb)
theorem Z1i{M:Up->Prop}{P:Program}{t:TypeId}{T T2:PT}(hT:Zy M T)(hT2:Zy M T2):Zy M λh K=>Zem P t (T h K) (T2 h K):=by
 unfold Zem;split
 . exact hT
 . exact hT2
theorem zwr{M:Up->Prop}{P:Program}{t:TypeId}{T:PT}(hT:Zy M T):Zy M λh K=>zsm P t (T h K):=by
 unfold zsm;split
 . exact hT
 . exact hT
 . exact zk
theorem zsj{M:Up->Prop}{dst:Option Nat}(hd:zm7 M dst):Zy M λh K=>zq1 C e dst h K:=by
 unfold zq1;split
 . exact zk
 . rename_i d;split
   . exact z10 ((hd.2 d rfl _).2 (λ_ hh=>by cases hh))
   . exact zk
theorem znk{M:Up->Prop}{P:Program}{t:TypeId}{T:PT}(hT:Zy M T):Zy M λh K=>zpo P t (T h K):=by
 unfold zpo;split
 . split
   . split
     . exact hT
     . exact zk
   . exact zk
 . exact zk
theorem Z1g{M:Up->Prop}{x:Operand}{T:Nat->List (Int×Bool)->PT}{D:PT}(hT:∀s m,Zy M (T s m))(hD:Zy M D):Zy M λh K=>zep C e x (λs m=>T s m h K) (D h K):=by
 unfold zep;split
 . split
   . split
     . exact hT _ _
     . exact zk
   . split
     . exact hT _ _
     . exact zk
   . exact hD
 . exact hD
theorem zvb(hC:zb9 C C.tab)(hmt:∀g args K K' h,(∀v h,K v h->K' v h)->C.f g args K h->C.f g args K' h):Zy (Wn C o) λh K=>Zg C o e h K:=by
 cases hc:Vi C o with
 | pure=>exact(z7f hc).mono
 | load=>exact(z7c hc).mono
 | call=>exact(zd6 hC hc).mono
 | _=>
   clear hc;by_cases hp:Vi C o=.pure
   . exact(z7f hp).mono
   by_cases hl:Vi C o=.load
   . exact(z7c hl).mono
   unfold Zg;unfold Vi at hp hl;cases ho:o.op<;>simp only[ho]at hp hl |-<;>try (first | exact absurd trivial hp | exact absurd trivial hl | exact absurd rfl hp | exact absurd rfl hl | exact zk)
   case alloc t=>exact z0f (Φ:=Zy _) zk λcs=>zcd zw (λ_ hh=>by cases hh)
   case box t x=>exact W0 (Φ:=Zy _) zk λv=>zcd zw (λ_ hh=>by cases hh)
   case buildSlice t n p=>
    refine zd9 (Φ:=Zy _) zk λvs=>z0l (Φ:=Zy _) zk λel=>z0f (Φ:=Zy _) zk λz=>?_
    split
    . exact zjr (Φ:=Zy _) zk λcs=>zcd zw (λ_ hh=>by cases hh)
    . exact zk
   case load t x=>
    exfalso;cases x with
    | tmp s=>cases hl':C.loc (C.rt s)with
      | true=>exact hp (by simp only[hl'])
      | false=>exact hl (by simp only[hl'])
    | _=>exact hl rfl
   case store t x y=>
    refine W0 (Φ:=Zy _) zk λv=>?_
    split
    . split
      . split
        . split
          . exact z10 ⟨(λd hd=>by simp only[Up.dst,Jm]at hd;subst hd;simp[Yt,ho]),(λd off hd=>by cases hd),(λd off hd=>by cases hd)⟩
          . exact zk
        . split
          . split
            . exact z10 ⟨(λd hd=>by simp only[Up.dst,Jm]at hd;subst hd;simp[Yt,ho]),(λd off hd=>by cases hd),(λd off hd=>by cases hd)⟩
            . exact zk
          . exact zk
        . split
          . exact zk
          refine zok (Φ:=Zy _) zk λad=>?_
          split
          . exact zsk (z10 zw.1)
          . exact zk
        . exact zk
      . exact zk
    . exact zk
   case convert s t x=>
    refine W0 (Φ:=Zy _) zk λv=>?_
    split
    . rename_i hu;exfalso;exact hp (by rw[hu])
    . split
      . split
        . exact zws λs=>z1p zw
        . exact zk
      . exact zk
    . split
      . exact zsh λs=>z1p zw
      . exact zk
    . exact zk
   case makeMap t r=>
    cases r with
    | some m=>exact zk
    | none=>exact zsj zw
   case lookup t x ix ok=>
    cases ok with
    | true=>exact zk
    | false=>
      refine W0 (Φ:=Zy _) zk λiv=>znk (Z1g (λs m=>?_) zk)
      split
      . exact z1p zw
      . exact zk
   case mapUpdate t x k y=>
    refine W0 (Φ:=Zy _) zk λkv=>W0 (Φ:=Zy _) zk λyv=>?_
    refine znk ?_;unfold zep;split
    . rename_i s;split
      . split
        . rename_i hr;split
          . exact z10 ⟨(λd hd=>by simp only[Up.dst,Jm]at hd;subst hd;simp[Yt,ho,Um hr]),(λd off hd=>by cases hd),(λd off hd=>by cases hd)⟩
          . exact zk
        . exact zk
      . split
        . split
          . exact z10 ⟨(λd hd=>by simp only[Up.dst,Jm]at hd;subst hd;simp[Yt,ho]),(λd off hd=>by cases hd),(λd off hd=>by cases hd)⟩
          . exact zk
        . exact zk
      . exact zk
    . exact zk
   case makeSlice t l c=>
    refine W0 (Φ:=Zy _) zk λlv=>W0 (Φ:=Zy _) zk λcv=>?_
    split
    . refine z0l (Φ:=Zy _) zk λel=>z0f (Φ:=Zy _) zk λz=>?_
      split
      . exact Z9s λs=>z1p zw
      . exact zk
    . exact zk
   case call c=>
    split
    . rename_i b hb;unfold Qt;split
      . exact absurd (by rw[hb]) hp
      . exact absurd (by rw[hb]) hp
      . exact absurd (by rw[hb]) hp
      . split
        . refine Z1i ?_ ?_
          . refine z0l (Φ:=Zy _) zk λel=>z0f (Φ:=Zy _) zk λz=>?_
            split
            . refine W0 (Φ:=Zy _) zk λv=>W0 (Φ:=Zy _) zk λu=>?_
              split
              . exact λh K K' hk ⟨g1,g2⟩=>⟨g1,znj (λs=>z1p zw) h K K' hk g2⟩
              . exact zk
            . exact zk
          refine zwr <| z0l (Φ:=Zy _) zk λel=>z0f (Φ:=Zy _) zk λz=>?_
          split
          . refine W0 (Φ:=Zy _) zk λv=>?_
            split
            . exact Z1j λn vs=>znj λs=>z1p zw
            . exact zk
          . exact zk
        . exact zk
      . split
        . refine z0l (Φ:=Zy _) zk λel=>W0 (Φ:=Zy _) zk λv=>W0 (Φ:=Zy _) zk λu=>?_
          split
          . exact Z9r λn=>z1p zw
          . exact zk
        . exact zk
      . split
        . refine z0l (Φ:=Zy _) zk λel=>z0f (Φ:=Zy _) zk λz=>W0 (Φ:=Zy _) zk λv=>?_
          split
          . exact Z1f (z1p zw)
          . exact zk
        . exact zk
      . exact absurd (by rw[hb]) hp
      . exact zk
    . rename_i f hf;refine W0 (Φ:=Zy _) zk λfv=>?_
      split
      . refine zd9 (Φ:=Zy _) zk λvs=>?_
        intro h K K' hk ht;exact hmt _ _ _ _ _ (λr h' hr=>z1p zw h' K K' hk hr) ht
      . exact zk
    . exact zk
end
end Den
end

section
namespace Den
open Go
section
variable {C : Cfg} {o : Oper} {e e' : Env}
theorem zhd{x:Operand}(hx:∀t,x=.tmp t->e t=e' t):opv e x=opv e' x:=by
 funext K;unfold opv;cases x<;>try rfl
 rename_i t;simp only[hx t rfl]
theorem zkz:∀{l:List Operand},(∀x∈l,∀t,x=.tmp t->e t=e' t)->z9p e l=z9p e' l
 | [],_=>rfl
 | x :: r,hx=>by
   funext K;unfold z9p;rw[zhd (hx x (by simp)),zkz (l:=r) λy hy=>hx y (by simp[hy])]
theorem zmw{lo:Option Operand}{d:Int}(hx:∀x,lo=some x->∀t,x=.tmp t->e t=e' t):boP e lo d=boP e' lo d:=by
 funext K;unfold boP;cases lo with
 | none=>rfl
 | some x=>simp only;rw[zhd (hx x rfl)]
theorem zxl{x:Operand}{size:Nat}(hx:∀t,x=.tmp t->e t=e' t):zmq e x size=zmq e' x size:=by
 funext K h;unfold zmq;cases x with
 | tmp t=>simp only[hx t rfl]
 | const v=>cases v<;>rfl
 | _=>rfl
theorem z7q{x:Operand}(hx:∀t,x=.tmp t->e t=e' t/\e (C.rt t)=e' (C.rt t)):zep C e x=zep C e' x:=by
 funext A D;unfold zep;split
 . rename_i s;rw[(hx s rfl).1,(hx s rfl).2]
 . rfl
theorem zbv(hmk:zc7 o=false)(H:∀x∈o.op.operands.toList,∀t,x=.tmp t->e t=e' t/\e (C.rt t)=e' (C.rt t)):Zg C o e=Zg C o e':=by
 funext h K;have hv:∀x∈o.op.operands.toList,opv e x=opv e' x:=λx hx=>zhd λt ht=>(H x hx t ht).1
 have hvs:∀l:List Operand,(∀x∈l,x∈o.op.operands.toList)->z9p e l=z9p e' l:=λl hl=>zkz λx hx t ht=>(H x (hl x hx) t ht).1
 unfold Zg;cases ho:o.op<;>simp only[ho,Op.operands]at H hv hvs |-
 case move x=>rw[hv x (by simp),z7q λt ht=>H x (by simp) t ht]
 case assign x=>rw[hv x (by simp),z7q λt ht=>H x (by simp) t ht]
 case pick c x y=>rw[hv c (by simp),hv x (by simp),hv y (by simp)]
 case box t x=>rw[hv x (by simp)]
 case build t p=>rw[hvs _ (by simp)]
 case buildSlice t n p=>rw[hvs _ (by simp)]
 case load t x=>
  cases x<;>try rfl
  rename_i s;have:=H (.tmp s) (by simp) s rfl;simp only[this.1,this.2]
 case store t x y=>
  rw[hv y (by simp)];cases x<;>try rfl
  rename_i s;have:=H (.tmp s) (by simp) s rfl;simp only[this.1,this.2]
 case nilCheck x=>rw[hv x (by simp)]
 case binOp op t x y t'=>rw[hv x (by simp),hv y (by simp)]
 case unOp op t x=>rw[hv x (by simp)]
 case convert s t x=>rw[hv x (by simp)]
 case makeFunc fn u v=>
  cases fn<;>try rfl
  simp only;rw[hvs _ (by simp;intro x hx;exact .inl hx),hvs _ (by simp;intro x hx;exact .inr hx)]
 case makeSlice t l c=>rw[hv l (by simp),hv c (by simp)]
 case slice t x lo hi mx=>
  cases mx with
  | some m=>
    cases hi with
    | none=>rfl
    | some u=>
      simp only;have hb:∀(q:Option Operand) (d:Int),(q=lo\/q=some u\/q=some m)->boP e q d=boP e' q d:=λq d hq=>zmw λy hy t ht=>by
       refine(H y ?_ t ht).1;rcases hq with rfl | rfl | rfl
       . simp[hy]
       . cases hy;simp
       . cases hy;simp
      rw[hv x (by simp)];simp only[hb lo _ (.inl rfl),hb (some u) _ (.inr (.inl rfl)),hb (some m) _ (.inr (.inr rfl))]
  | none=>
    simp only;have hb:∀(q:Option Operand) (d:Int),(q=lo\/q=hi)->boP e q d=boP e' q d:=λq d hq=>zmw λy hy t ht=>by
     refine(H y ?_ t ht).1;rcases hq with rfl | rfl<;>simp[hy]
    rw[hv x (by simp)];simp only[hb lo _ (.inl rfl),hb hi _ (.inr rfl)]
 case fieldAddr t x f=>
  cases x<;>try rfl
  rename_i s;have:=H (.tmp s) (by simp) s rfl;simp only[this.1]
 case field t x f=>rw[hv x (by simp)]
 case indexAddr t x ix=>
  rw[hv ix (by simp),hv x (by simp)];cases x<;>try rfl
  rename_i s;have:=H (.tmp s) (by simp) s rfl;simp only[this.1]
 case index t x ix=>rw[hv ix (by simp),hv x (by simp)]
 case extract x i=>rw[hv x (by simp)]
 case makeMap t r=>unfold zc7 at hmk;rw[ho]at hmk;cases hmk
 case lookup t x ix ok=>
  cases ok with
  | true=>rfl
  | false=>simp only;rw[hv ix (by simp),z7q λt ht=>H x (by simp) t ht]
 case mapUpdate t x k y=>rw[hv k (by simp),hv y (by simp),z7q λt ht=>H x (by simp) t ht]
 case call c=>
  split
  . rename_i b hb;have hv':∀x∈c.args.toList,opv e x=opv e' x:=λx hx=>hv x (by simp[Call.operands,hb];simpa using hx)
    unfold Qt;split
    . rename_i x hxx;have hxm:x∈c.operands.toList:=by
       have:x∈c.args.toList:=by simp[hxx]
       simp[Call.operands,hb];simpa using this
      rw[hv' _ (by simp[*]),z7q λt ht=>H x hxm t ht]
    . rw[hv' _ (by simp[*])];congr;funext u;rw[hv' _ (by simp[*])]
    . rw[hv' _ (by simp[*])];congr;funext u;rw[hv' _ (by simp[*])]
    . rename_i x y hxy;have hy:y∈c.operands.toList:=by
       have:y∈c.args.toList:=by simp[hxy]
       simp[Call.operands,hb];simpa using this
      have hs:∀n,zmq e y n=zmq e' y n:=λn=>zxl λt ht=>(H y hy t ht).1
      rw[hv' x (by simp[hxy]),hv' y (by simp[hxy])];simp only[hs]
    . rename_i x y hxy;rw[hv' x (by simp[hxy]),hv' y (by simp[hxy])]
    . rw[hv' _ (by simp[*])]
    . rw[hv' _ (by simp[*])]
    . rfl
  . rename_i f hf;rw[hv f (by simp[Call.operands,hf]),hvs c.args.toList (by intro x hx;simp[Call.operands,hf];exact .inr (by simpa using hx))]
  . rfl
end
end Den
end

section
namespace Den
open Go
section
variable {C : Cfg}
theorem Q4{t:Nat}:∀{l:List Nat},z06 t l=true↔t∈l
 | []=>by simp[z06]
 | x :: r=>by
   unfold z06;by_cases h:t=x
   . subst h;simp
   . rw[z6o h];simp[h,Q4 (l:=r)]
theorem z7a{a b:List Nat}:z1x a b=true↔∀x∈a,x∉b:=by
 unfold z1x;rw[List.all_eq_true];constructor
 . intro h x hx hb;have:=h x hx;rw[(Q4 (t:=x) (l:=b)).2 hb]at this;cases this
 . intro h x hx;cases hm:z06 x b with
   | false=>rfl
   | true=>exact absurd (Q4.1 hm) (h x hx)
theorem za1{e:Env}{u:Up}{t:Nat}(ht:∀d,u.dst=some d->t≠d)(hr:∀d,u.dst=some d->C.rt t≠d):e.upd C.rt u t=e t:=by
 cases u with
 | none=>rfl
 | set d s=>exact Env.set_ne (ht d rfl)
 | alloc d s=>
   show(bif Gv t d then s else match e t with | .ref o=>bif Gv (C.rt t) d then Slot.junk else .ref o | x=>x)=e t;rw[z6o (ht d rfl),z6o (hr d rfl)];cases e t<;>rfl
theorem Zcj{e:Env}{u v:Up}(h1:∀d d',u.dst=some d->v.dst=some d'->d≠d')(hu:∀d off,u=.set d (.ref off)->∀d',v.dst=some d'->C.rt d≠d')
 (hv:∀d off,v=.set d (.ref off)->∀d',u.dst=some d'->C.rt d≠d')
 (ha:∀d off,u≠.alloc d (.ref off)) (hb:∀d off,v≠.alloc d (.ref off)):(e.upd C.rt u).upd C.rt v=(e.upd C.rt v).upd C.rt u:=by
 cases u with
 | none=>rfl
 | set d s=>
   cases v with
   | none=>rfl
   | set d' s'=>
     have hd:=h1 d d' rfl rfl;funext t;simp only[Env.upd];by_cases ht:t=d
     . subst ht;rw[Env.set_ne hd,Env.set_same,Env.set_same]
     . by_cases ht':t=d'
       . subst ht';rw[Env.set_same,Env.set_ne ht,Env.set_same]
       . rw[Env.set_ne ht',Env.set_ne ht,Env.set_ne ht,Env.set_ne ht']
   | alloc d' s'=>
     have hd:=h1 d d' rfl rfl;funext t;simp only[Env.upd];by_cases ht:t=d
     . subst ht;rw[Env.set_same];unfold Env.alloc;rw[z6o hd,Env.set_same];cases s with
       | ref o=>rw[z6o (hu t o rfl d' rfl)];rfl
       | _=>rfl
     . rw[Env.set_ne ht];unfold Env.alloc;rw[Env.set_ne ht]
 | alloc d s=>
   cases v with
   | none=>rfl
   | set d' s'=>
     have hd:=h1 d d' rfl rfl;funext t;simp only[Env.upd];by_cases ht:t=d'
     . subst ht;rw[Env.set_same];unfold Env.alloc;rw[z6o (Ne.symm hd),Env.set_same];cases s' with
       | ref o=>rw[z6o (hv t o rfl d rfl)];rfl
       | _=>rfl
     . rw[Env.set_ne ht];unfold Env.alloc;rw[Env.set_ne ht]
   | alloc d' s'=>
     have hd:=h1 d d' rfl rfl;funext t;simp only[Env.upd];unfold Env.alloc;by_cases ht:t=d
     . subst ht;rw[z6o hd,zjl];simp only[cond_true,cond_false];cases s with
       | ref o=>exact absurd rfl (ha t o)
       | _=>rfl
     . rw[z6o ht];by_cases ht':t=d'
       . subst ht';rw[zjl];simp only[cond_true,cond_false];cases s' with
         | ref o=>exact absurd rfl (hb t o)
         | _=>rfl
       . rw[z6o ht'];simp only[cond_false];cases e t with
         | ref o=>
           simp only;cases Gv (C.rt t) d<;>cases Gv (C.rt t) d'<;>rfl
         | _=>rfl
def z4c(C:Cfg)(ops:Array Oper)(o:Oper)(e:Env):Option Bool:=
 match o.guard with
 | none=>some true
 | some (j,want)=>match (ops[j]?).bind (·.dst)with
   | none=>none
   | some d=>match C.loc d,e d with
     | false,.val (.bool t)=>some (t==want)
     | false,.val (.tuple _)=>some false
     | _,_=>none
def Qi(C:Cfg)(ops:Array Oper)(o:Oper)(e:Env):PT:=λh K=>
 match z4c C ops o e with
 | some true=>Zg C o e h K
 | some false=>zeb C o.dst h K
 | none=>False
theorem Xe{ops:Array Oper}{i:Nat}{r:List Nat}{K:Env->Hp->Prop}{e:Env}{h:Hp}{o:Oper}(hi:ops[i]?=some o) :
 W4 C ops K (i :: r) e h↔Qi C ops o e h λu h'=>W4 C ops K r (e.upd C.rt u) h':=by
 conv=>lhs;unfold W4
 rw[hi];unfold Qi z4c;simp only;cases hg:o.guard with
 | none=>exact Pc
 | some g=>
   obtain⟨j,want⟩:=g;simp only;cases hd:(ops[j]?).bind (·.dst)with
   | none=>exact Pc
   | some d=>
     simp only;cases hl:C.loc d with
     | true=>
       cases he:e d with
       | val v=>cases v<;>exact Pc
       | _=>exact Pc
     | false=>
       cases he:e d with
       | val v=>
         cases v with
         | bool t=>
           have hset:e.set d (.val (.bool t))=e:=by
            funext x;by_cases hx:x=d
            . subst hx;rw[Env.set_same,he]
            . rw[Env.set_ne hx]
           cases t<;>cases want<;>simp only[ifP]<;>rw[hset]<;>exact Pc
         | _=>exact Pc
       | _=>exact Pc
theorem ztv{ops:Array Oper}{o:Oper}{e e':Env}(H:∀d∈zpe ops o,e d=e' d):z4c C ops o e=z4c C ops o e':=by
 unfold z4c;unfold zpe at H;cases hg:o.guard with
 | none=>rfl
 | some g=>
   obtain⟨j,want⟩:=g;rw[hg]at H;simp only at H |-
   cases hd:(ops[j]?).bind (·.dst)with
   | none=>rfl
   | some d=>
     rw[hd]at H;simp only at H |-
     rw[H d (by simp)]
theorem ztk{ops:Array Oper}{o:Oper}{e e':Env}(hmk:zc7 o=false)(H:∀t∈z6g C ops o,e t=e' t):Qi C ops o e=Qi C ops o e':=by
 have h1:z4c C ops o e=z4c C ops o e':=ztv λd hd=>H d (by simp[z6g,hd])
 have h2:Zg C o e=Zg C o e':=zbv hmk λx hx t ht=>by
  subst ht;have hr:∀s∈z4o C (.tmp t),s∈z6g C ops o:=λs hs=>by
   unfold z6g;exact Jq _ (Jq _ (List.mem_flatMap.2 ⟨_,hx,hs⟩))
  exact⟨H _ (hr _ (by simp[z4o])),H _ (hr _ (by simp[z4o]))⟩
 funext h K;unfold Qi;rw[h1,h2]
theorem Z0x{h:Hp}(hf:h.Fin):∃w:World,Sub h w:=by
 obtain⟨n,hn⟩:=hf;refine⟨{ (default:World)with heap:=Array.ofFn (n:=n) λi=>match h i.1 with | some b=>.cells b.cells.toArray b.elem b.fz | none=>.deferred none },λk b hk=>?_⟩;have hkn:k<n:=by
  rcases Jo k n with h1 | h1
  . exact h1
  . rw[hn k h1]at hk;cases hk
 simp only[Array.getElem?_ofFn,hkn,dite_true,hk]
theorem zzj{e:Env}:∀{xs:List Operand} {K:List Value->Prop},z9p e xs K->∃vs,K vs/\∀K':List Value->Prop,K' vs->z9p e xs K'
 | [],K,h=>⟨[],h,λ_ h=>h⟩
 | x :: r,K,h=>by
   unfold z9p at h;have key:∀K1:Value->Prop,opv e x K1->∃v,K1 v/\∀K2:Value->Prop,K2 v->opv e x K2:=λK1 h1=>by
    unfold opv at h1 |-
    split at h1
    . exact⟨_,h1,λ_ h=>h⟩
    . exact⟨_,h1,λ_ h=>h⟩
    . exact⟨_,h1,λ_ h=>h⟩
    . split at h1
      . exact⟨_,h1,λ_ h=>h⟩
      . exact h1.elim
   obtain⟨v,h1,h2⟩:=key _ h;obtain⟨vs,h3,h4⟩:=zzj h1;exact⟨v :: vs,h3,λK' hk=>by unfold z9p;exact h2 _ (h4 _ hk)⟩
theorem Z38(hC:zb9 C C.tab){o:Oper}{e:Env}(hc:Vi C o=.call){h:Hp}{K:Up->Hp->Prop}(hfin:h.Fin)(hk:Zg C o e h K):∃u h',K u h':=by
 obtain⟨c,g,ho,hcal,hm⟩:=zyq hc;unfold Zg at hk;simp only[ho,hcal,opv]at hk;obtain⟨vs,hk,_⟩:=zzj hk;rcases hC.get g with ⟨hf,_⟩ | hno
 . obtain⟨w,hs⟩:=Z0x hfin;obtain⟨_,_,_,⟨v,h',_,hv,_⟩,_⟩:=hf.2 _ _ _ w hs hk [];have hp:zt (Wn C o) λh K=>Ql C o.dst v h K:=Ya zw
   obtain⟨p,_,h2⟩:=hp;obtain⟨u,_,hu⟩:=(h2 _ _).1 hv;exact⟨u,h',hu⟩
 . exact(hno _ _ _ hk).elim
theorem zo1{Mx My:Up->Prop}{Tx Ty:PT}(hx:zt Mx Tx)(hy:Zy My Ty){h:Hp}{F:Up->Up->Hp->Prop}
 (hk:Tx h λu1 h1=>Ty h1 λu2 h2=>F u1 u2 h2):Ty h λu2 h2=>Tx h2 λu1 h1=>F u1 u2 h1:=by
 obtain⟨p,_,h2⟩:=hx;obtain⟨u1,hp,hF⟩:=(h2 _ _).1 hk;exact hy _ _ _ (λu h' _ hh=>(h2 _ _).2 ⟨u1,hp,hh⟩) hF
theorem Z2f{Mx My:Up->Prop}{Tx Ty:PT}(hx:Qs Mx Tx)(hy:Zy My Ty)(hg:z9g Ty){h:Hp}{F:Up->Up->Hp->Prop}
 (hk:Tx h λu1 h1=>Ty h1 λu2 h2=>F u1 u2 h2):Ty h λu2 h2=>Tx h2 λu1 h1=>F u1 u2 h1:=by
 obtain⟨p,_,hm,h2⟩:=hx;obtain⟨u1,hp,hF⟩:=(h2 _ _).1 hk;exact hy _ _ _ (λu h' _ hh=>(h2 _ _).2 ⟨u1,hm _ _ _ hp hh.2,hh.1⟩) (hg _ _ hF)
theorem Z0f{α:Type}{G:(α->Hp->Prop)->Hp->Prop}{K:α->Hp->Prop}{h:Hp}{b:Nat}{x:Blk}(hb:h b=none)
 (hc:zc G (λr h1=>h1 b=none->K r (h1.ins b x)) h):zc G K (h.ins b x):=by
 obtain⟨D,O,Q,h1,h2,h3,h4⟩:=hc;subst h2;rw[Hp.add_none]at hb;refine⟨D,O.ins b x,Q,Hp.dj_ins h1 hb.1,Hp.add_ins hb.1,h3,λv D' hQ=>⟨(h4 v D' hQ).1,λhd hfin=>?_⟩⟩;have hdb:D' b=none:=by
  rcases hd b with h5 | h5
  . exact h5
  . rw[Hp.ins_same]at h5;cases h5
 have hdj:D'.dj O:=λj=>by
  by_cases hj:j=b
  . subst hj;exact .inl hdb
  . have:=hd j;rw[Hp.ins_ne hj]at this;exact this
 have:=(h4 v D' hQ).2 hdj (hfin.sub λk hk=>by
  rw[Hp.add_none]at hk |-
  refine⟨hk.1,?_⟩;by_cases hkb:k=b
  . subst hkb;exact hb.2
  . rw[Hp.ins_ne hkb]at hk;exact hk.2) (Hp.add_none.2 ⟨hdb,hb.2⟩)
 rw[Hp.add_ins hdb]at this;exact this
theorem Z2e{Mx My:Up->Prop}{Tx Ty:PT}(hx:z0k Mx Tx)(hy:z52 My Ty){h:Hp}(hinh:∀K,Tx h K->∃u h',K u h'){F:Up->Up->Hp->Prop}
 (hk:Tx h λu1 h1=>Ty h1 λu2 h2=>F u1 u2 h2):Ty h λu2 h2=>Tx h2 λu1 h1=>F u1 u2 h1:=by
 obtain⟨α,G,q,_,hG⟩:=hx;obtain⟨P0,c,f,q2,_,_,hN⟩:=hy;obtain⟨u0,h0,hT0⟩:=hinh _ hk;have hp0:=((hN _ _).1 hT0).1;rcases hG with hG | hG
 . refine(hN _ _).2 ⟨hp0,λb el hel hb=>(hG _ _).2 ?_⟩;have h1:=(hG _ _).1 hk;refine Z0f (x:=⟨c,el,(0,0)⟩) hb (z2w ?_ h1);rintro r h' ⟨u,hq,hT⟩ _ _ hb';exact⟨u,hq,((hN _ _).1 hT).2 b el hel hb'⟩
 . exact(hG _ _ hk).elim
theorem Zax{Mx My:Up->Prop}{Tx Ty:PT}(hx:z52 Mx Tx)(hy:z52 My Ty){h:Hp}(hfin:h.Fin){F:Up->Up->Hp->Prop}
 (hk:Tx h λu1 h1=>Ty h1 λu2 h2=>F u1 u2 h2):Ty h λu2 h2=>Tx h2 λu1 h1=>F u1 u2 h1:=by
 obtain⟨P1,c1,f1,q1,⟨e1,he1⟩,_,h1⟩:=hx;obtain⟨P2,c2,f2,q2,_,_,h2⟩:=hy;obtain⟨hp1,hk1⟩:=(h1 _ _).1 hk;obtain⟨b0,hb0⟩:=hfin.fresh;have hp2:=((h2 _ _).1 (hk1 b0 e1 he1 hb0)).1;refine(h2 _ _).2 ⟨hp2,λb2 el2 g2 hb2=>(h1 _ _).2 ⟨hp1,λb1 el1 g1 hb1=>?_⟩⟩;have hne:b1≠b2:=λhh=>by subst hh;rw[Hp.ins_same]at hb1;cases hb1
 rw[Hp.ins_ne hne]at hb1;have:=((h2 _ _).1 (hk1 b1 el1 g1 hb1)).2 b2 el2 g2 (by rw[Hp.ins_ne (Ne.symm hne)];exact hb2);rw[Hp.ins_comm (Ne.symm hne)];exact this
structure CfgOK(C:Cfg):Prop where
 tab:zb9 C C.tab
 mono:∀g args K K' h,(∀v h,K v h->K' v h)->C.f g args K h->C.f g args K' h
theorem z9y{o:Oper}:zt (Wn C o) λh K=>zeb C o.dst h K:=Za6 zw
theorem qe(hC:CfgOK C){ops:Array Oper}{o:Oper}{e:Env}:Zy (Wn C o) (Qi C ops o e):=by
 unfold Qi;cases z4c C ops o e with
 | none=>exact zk
 | some b=>
   cases b
   . exact z9y.mono
   . exact zvb hC.tab hC.mono
theorem zo0(hC:CfgOK C){ops:Array Oper}{ox oy:Oper}{e:Env}(hs:zb2 C ox oy=true){h:Hp}(hfin:h.Fin){F:Up->Up->Hp->Prop}
 (hk:Qi C ops ox e h λu1 h1=>Qi C ops oy e h1 λu2 h2=>F u1 u2 h2) :
 Qi C ops oy e h λu2 h2=>Qi C ops ox e h2 λu1 h1=>F u1 u2 h1:=by
 cases hwx:z4c C ops ox e with
 | none=>unfold Qi at hk;rw[hwx]at hk;exact hk.elim
 | some bx=>
   cases bx with
   | false=>
     have ex:Qi C ops ox e=λh K=>zeb C ox.dst h K:=by funext h K;unfold Qi;rw[hwx]
     have hp:zt (Wn C ox) (Qi C ops ox e):=by rw[ex];exact z9y
     exact zo1 hp (qe hC) hk
   | true=>
     have ex':Qi C ops ox e=λh K=>Zg C ox e h K:=by funext h K;unfold Qi;rw[hwx]
     have same:zdv ox.guard oy.guard=true->z4c C ops oy e=some true:=λhg=>by
      unfold zdv at hg;cases hgy:oy.guard with
      | none=>unfold z4c;rw[hgy]
      | some gy=>
        cases hgx:ox.guard with
        | none=>rw[hgx,hgy]at hg;cases hg
        | some gx=>
          rw[hgx,hgy]at hg;obtain⟨i,a⟩:=gx;obtain⟨j,b⟩:=gy;simp only[Jv]at hg;have hij:=Um hg.1;have hab:a=b:=by have:=hg.2;cases a<;>cases b<;>simp_all
          subst hij hab;unfold z4c at hwx |-
          rw[hgx]at hwx;rw[hgy];exact hwx
     unfold zb2 at hs;cases hcx:Vi C ox with
     | pure=>exact zo1 (by rw[ex'];exact z7f hcx) (qe hC) hk
     | load=>
       rw[hcx]at hs;refine Z2f (by rw[ex'];exact z7c hcx) (qe hC) ?_ hk;unfold Qi;cases z4c C ops oy e with
       | none=>exact qx
       | some b=>
         cases b with
         | false=>exact(z9y (o:=oy)).grow
         | true=>
           simp only;cases hcy:Vi C oy with
           | pure=>exact(z7f hcy).grow
           | load=>exact(z7c hcy).grow
           | call=>exact(zd6 hC.tab hcy).grow
           | new=>exact Z9w hcy
           | other=>rw[hcy]at hs;cases hs
     | call=>
       rw[hcx]at hs;cases hcy:Vi C oy with
       | new=>
         rw[hcy]at hs;have hwy:=same hs;have ey:Qi C ops oy e=λh K=>Zg C oy e h K:=by funext h K;unfold Qi;rw[hwy]
         exact Z2e (by rw[ex'];exact zd6 hC.tab hcx) (by rw[ey];exact zfx hcy) (λK hh=>by rw[ex']at hh;exact Z38 hC.tab hcx hfin hh) hk
       | _=>rw[hcy]at hs;cases hs
     | new=>
       rw[hcx]at hs;cases hcy:Vi C oy with
       | new=>
         rw[hcy]at hs;have hwy:=same hs;have ey:Qi C ops oy e=λh K=>Zg C oy e h K:=by funext h K;unfold Qi;rw[hwy]
         exact Zax (by rw[ex'];exact zfx hcx) (by rw[ey];exact zfx hcy) hfin hk
       | _=>rw[hcy]at hs;cases hs
     | other=>rw[hcx]at hs;cases hs
theorem z7i{ops:Array Oper}{ox oy:Oper}{e:Env}{u:Up}(hmk:zc7 oy=false)(hu:Wn C ox u)(hd:z1x (Yt C ox) (z4n C ops oy)=true) :
 Qi C ops oy (e.upd C.rt u)=Qi C ops oy e:=by
 rw[z7a]at hd;refine ztk hmk λt ht=>za1 (λd hdd hh=>?_) (λd hdd hh=>?_)
 . exact hd d (hu.1 d hdd) (by rw[<-hh];exact Jq _ ht)
 . exact hd d (hu.1 d hdd) (by rw[<-hh];exact List.mem_append_right _ (List.mem_map.2 ⟨t,ht,rfl⟩))
theorem zd3{ops:Array Oper}{ox oy:Oper}{e:Env}{u v:Up}(hu:Wn C ox u)(hv:Wn C oy v)(h1:z1x (Yt C ox) (z4n C ops oy)=true)
 (h2:z1x (Yt C oy) (z4n C ops ox)=true) (h3:z1x (Yt C ox) (Yt C oy)=true):(e.upd C.rt u).upd C.rt v=(e.upd C.rt v).upd C.rt u:=by
 rw[z7a]at h1 h2 h3;have root:∀(o:Oper) (u:Up),Wn C o u->∀d off,u=.set d (.ref off)->C.rt d∈z4n C ops o:=λo u hu d off hh=>by
  refine Jq _ ?_;unfold z6g;rw[hu.2.1 d off hh];simp
 refine Zcj (λd d' hd hd' hh=>?_) (λd off hh d' hd' hr=>?_) (λd off hh d' hd' hr=>?_) hu.2.2 hv.2.2
 . subst hh;exact h3 d (hu.1 d hd) (hv.1 d hd')
 . exact h2 d' (hv.1 d' hd') (by rw[<-hr];exact root ox u hu d off hh)
 . exact h1 d' (hu.1 d' hd') (by rw[<-hr];exact root oy v hv d off hh)
theorem Z0r(hC:CfgOK C){ops:Array Oper}{K:Env->Hp->Prop}{x y:Nat}{r:List Nat}{e:Env}{h:Hp}(hfin:h.Fin)(hs:z4x C ops x y=true)
 (hk:W4 C ops K (x :: y :: r) e h):W4 C ops K (y :: x :: r) e h:=by
 unfold z4x at hs;split at hs
 . rename_i ox oy hx hy;simp only[Jv]at hs;obtain⟨⟨⟨⟨⟨hc,hm1⟩,hm2⟩,h1⟩,h2⟩,h3⟩:=hs;have hm1:zc7 ox=false:=by simpa using hm1
   have hm2:zc7 oy=false:=by simpa using hm2
   rw[Xe hx]at hk;rw[Xe hy];have k1:Qi C ops ox e h λu1 h1=>Qi C ops oy e h1 λu2 h2=>Wn C ox u1/\Wn C oy u2/\W4 C ops K r ((e.upd C.rt u1).upd C.rt u2) h2:=by
    refine qe hC _ _ _ (λu1 h' hu1 hk1=>?_) hk;rw[Xe hy,z7i hm2 hu1 h1]at hk1;exact qe hC _ _ _ (λu2 h'' hu2 hk2=>⟨hu1,hu2,hk2⟩) hk1
   refine qe hC _ _ _ (λu2 h' hu2 hk2=>?_) (zo0 hC hc hfin k1);rw[Xe hx,z7i hm1 hu2 h2];refine qe hC _ _ _ (λu1 h'' hu1 hk3=>?_) hk2;rw[<-zd3 hu1 hu2 h1 h2 h3];exact hk3.2.2
 . cases hs
theorem zh2(hC:CfgOK C){ops:Array Oper}{K K':Env->Hp->Prop}(hK:∀e h,K e h->K' e h):∀{l:List Nat} {e:Env} {h:Hp},W4 C ops K l e h->W4 C ops K' l e h
 | [],e,h,hk=>hK e h hk
 | i :: r,e,h,hk=>by
   cases hi:ops[i]? with
   | none=>unfold W4 at hk;rw[hi]at hk;exact hk.elim
   | some o=>
     rw[Xe hi]at hk |-
     exact qe hC _ _ _ (λu h' _ hh=>zh2 hC hK hh) hk
theorem Zav(hC:CfgOK C){ops:Array Oper}{ox oy:Oper}{e:Env}(hs:zb2 C ox oy=true):Z05 (Qi C ops ox e):=by
 unfold Qi;cases z4c C ops ox e with
 | none=>exact Z0w
 | some b=>
   cases b with
   | false=>exact(z9y (o:=ox)).fin
   | true=>
     simp only;unfold zb2 at hs;cases hc:Vi C ox with
     | pure=>exact(z7f hc).fin
     | load=>exact(z7c hc).fin
     | call=>exact(zd6 hC.tab hc).fin
     | new=>exact(zfx hc).fin
     | other=>rw[hc]at hs;cases hs
theorem zbx(hC:CfgOK C){ops:Array Oper}{K:Env->Hp->Prop}{y:Nat}{r:List Nat}:∀{p:List Nat} {e:Env} {h:Hp},h.Fin->(∀x∈p,z4x C ops x y=true) ->
 W4 C ops K (p++y :: r) e h->W4 C ops K (y :: (p++r)) e h
 | [],e,h,_,_,hk=>hk
 | x :: p,e,h,hfin,hp,hk=>by
   have hs:=hp x (by simp);have h1:W4 C ops K (x :: (y :: (p++r))) e h:=by
    cases hx:ops[x]? with
    | none=>unfold z4x at hs;rw[hx]at hs;cases hs
    | some ox=>
      rw[List.cons_append,Xe hx]at hk;rw[Xe hx];have hcl:∃oy,zb2 C ox oy=true:=by
       unfold z4x at hs;rw[hx]at hs;split at hs
       . rename_i o1 o2 h1 h2;cases h1;simp only[Jv]at hs;exact⟨o2,hs.1.1.1.1.1⟩
       . cases hs
      obtain⟨oy,hcl⟩:=hcl;refine qe hC _ _ _ (λu h' _ hh=>?_) (Zav hC hcl _ _ hfin hk);exact zbx hC hh.2 (λz hz=>hp z (by simp[hz])) hh.1
   exact Z0r hC hfin hs h1
end
end Den
end
