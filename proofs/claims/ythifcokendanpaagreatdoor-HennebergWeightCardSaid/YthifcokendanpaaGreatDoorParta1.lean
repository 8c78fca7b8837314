/-
  Part 1 of the tools and contracts from which the statement is proved.
-/
import Derived.Calls
import Derived.Orders
import Derived.OrdersIn
import Derived.ControlIn
import Derived.RangeFuncIn
import Derived.KernelRfl
import Derived.Laws.Tables
import Derived.WalkKit
import Derived.Laws.IdiomStrings
set_option linter.all false
section
namespace Den
open Go
structure Blk where
 cells:List Value
 elem:TypeId
 fz:Nat×Nat
abbrev Hp:=Nat→Option Blk
structure Sl where
 a:Option Addr
 len:Nat
 cap:Nat
inductive Lf where
 | int (k:IntKind) | bool | str | sl | ptr | val
abbrev Lf.T:Lf→Type
 | .int _=>Int
 | .bool=>Bool
 | .str=>ByteArray
 | .sl=>Sl
 | .ptr=>Option Addr
 | .val=>Value
def Lf.up:(l:Lf)→l.T→Value
 | .int k,n=>.int k n
 | .bool,b=>.bool b
 | .str,s=>.string s
 | .sl,s=>.slice s.a s.len s.cap
 | .ptr,p=>.pointer p
 | .val,v=>v
def sameK (k k':IntKind) (p:Prop):Prop:=match decide (k=k') with | true=>p | false=>False
def Lf.dn:(l:Lf)→Value→(l.T→Prop)→Prop
 | .int k,.int k' n,K=>sameK k k' (K n)
 | .bool,.bool b,K=>K b
 | .str,.string s,K=>K s
 | .sl,.slice a l c,K=>K ⟨a,l,c⟩
 | .ptr,.pointer p,K=>K p
 | .val,v,K=>K v
 | _,_,_=>False
theorem zcm {k k':IntKind} {p:Prop}:sameK k k' p↔k=k'∧p:=by
 unfold sameK; by_cases h:k=k'<;>simp [h]
theorem Lf.dn_iff {l:Lf} {v:Value} {K:l.T→Prop}:l.dn v K↔∃x,v=l.up x∧K x:=by
 cases l<;>cases v<;>simp [Lf.dn,Lf.up,zcm]
 case int.int k k' n=>exact ⟨fun ⟨h,hk⟩=>⟨n,⟨h.symm,rfl⟩,hk⟩,fun ⟨x,⟨h,hx⟩,hk⟩=>⟨h.symm,hx▸hk⟩⟩
 case sl.slice a l c=>exact ⟨fun h=>⟨⟨a,l,c⟩,⟨rfl,rfl,rfl⟩,h⟩,fun ⟨⟨a',l',c'⟩,⟨h1,h2,h3⟩,h⟩=>by subst h1 h2 h3; exact h⟩
namespace Hp
def le (h h':Hp):Prop:=∀k b,h k=some b→h' k=some b
def cell (h:Hp) (a:Addr):Option Value:=
 match a.spot with
 | none=>(match h a.block with | some b=>b.cells[a.off]? | none=>none)
 | some _=>none
def add (h g:Hp):Hp:=fun k=>match h k with | some b=>some b | none=>g k
def dj (h g:Hp):Prop:=∀k,h k=none∨g k=none
def ins (h:Hp) (k:Nat) (b:Blk):Hp:=fun j=>if j=k then some b else h j
def emp:Hp:=fun _=>none
theorem le_refl (h:Hp):h.le h:=fun _ _ e=>e
theorem le_trans {a b c:Hp} (h:a.le b) (h':b.le c):a.le c:=fun k x e=>h' k x (h k x e)
theorem le_add (h g:Hp):h.le (h.add g):=fun k b e=>by simp [add,e]
theorem le_add_right {h g:Hp} (hd:h.dj g):g.le (h.add g):=fun k b e=>by
 rcases hd k with h1 | h1
 · simp [add,h1,e]
 · rw [h1] at e; cases e
theorem add_mono {a b g:Hp} (h:a.le b) (hd:b.dj g):(a.add g).le (b.add g):=by
 intro k x e
 unfold add at *
 cases ha:a k with
 | some y=>rw [ha] at e; simp only at e; rw [h k y ha]; exact e
 | none=>
   rw [ha] at e; simp only at e
   rcases hd k with h1 | h1
   · rw [h1]; exact e
   · rw [h1] at e; cases e
theorem add_emp (h:Hp):h.add emp=h:=by funext k; unfold add emp; cases h k<;>rfl
theorem dj_emp (h:Hp):h.dj emp:=fun _=>.inr rfl
theorem ins_same (h:Hp) (k:Nat) (b:Blk):h.ins k b k=some b:=by simp [ins]
theorem ins_ne {h:Hp} {k j:Nat} {b:Blk} (e:j≠k):h.ins k b j=h j:=by simp [ins,e]
theorem le_ins {h:Hp} {k:Nat} {b:Blk} (e:h k=none):h.le (h.ins k b):=fun j x hx=>by
 by_cases hj:j=k
 · subst hj; rw [e] at hx; cases hx
 · rw [ins_ne hj]; exact hx
theorem add_ins {h g:Hp} {k:Nat} {b:Blk} (e:h k=none):(h.add g).ins k b=h.add (g.ins k b):=by
 funext j; unfold ins add; by_cases hj:j=k
 · subst hj; simp [e]
 · simp [hj]
theorem ins_ins {h:Hp} {k:Nat} {b c:Blk}:(h.ins k b).ins k c=h.ins k c:=by
 funext j; unfold ins; by_cases hj:j=k<;>simp [hj]
theorem ins_comm {h:Hp} {k j:Nat} {b c:Blk} (e:k≠j):(h.ins k b).ins j c=(h.ins j c).ins k b:=by
 funext i; unfold ins; by_cases h1:i=j
 · subst h1; have:i≠k:=fun h=>e h.symm; simp [this]
 · simp [h1]
theorem dj_ins {h g:Hp} {k:Nat} {b:Blk} (hd:h.dj g) (e:h k=none):h.dj (g.ins k b):=fun j=>by
 by_cases hj:j=k
 · subst hj; exact .inl e
 · rw [ins_ne hj]; exact hd j
theorem add_none {h g:Hp} {k:Nat}:(h.add g) k=none↔h k=none∧g k=none:=by
 unfold add; cases h k<;>simp
def Fin (h:Hp):Prop:=∃n,∀k,n≤k→h k=none
theorem Fin.ins {h:Hp} (hf:h.Fin) {k:Nat} {b:Blk}:(h.ins k b).Fin:=by
 obtain ⟨n,hn⟩:=hf
 refine ⟨n+k+1,fun j hj=>?_⟩
 rw [ins_ne (by omega)]; exact hn j (by omega)
theorem Fin.fresh {h:Hp} (hf:h.Fin):∃b,h b=none:=by
 obtain ⟨n,hn⟩:=hf
 exact ⟨n,hn n (Nat.le_refl _)⟩
theorem Fin.sub {h h':Hp} (hf:h'.Fin) (H:∀k,h' k=none→h k=none):h.Fin:=by
 obtain ⟨n,hn⟩:=hf
 exact ⟨n,fun k hk=>H k (hn k hk)⟩
theorem cell_le {h h':Hp} (hl:h.le h') {a:Addr} {v:Value} (e:h.cell a=some v):h'.cell a=some v:=by
 unfold cell at *
 cases hs:a.spot with
 | some x=>rw [hs] at e; cases e
 | none=>
   rw [hs] at e; simp only at e ⊢
   cases hb:h a.block with
   | none=>rw [hb] at e; cases e
   | some b=>rw [hb] at e; rw [hl _ _ hb]; exact e
end Hp
def cellsAt (h:Hp) (a:Addr):Nat→Option (List Value)
 | 0=>some []
 | n+1=>match cellsAt h a n with
   | some l=>(match h.cell (a.add n) with | some v=>some (l++[v]) | none=>none)
   | none=>none
def cellsAtO (h:Hp) (a:Option Addr) (n:Nat):Option (List Value):=
 match a with
 | some a=>cellsAt h a n
 | none=>if n=0 then some [] else none
theorem zss {h h':Hp} (hl:h.le h') {a:Addr}:∀{n:Nat} {l:List Value},cellsAt h a n=some l→cellsAt h' a n=some l
 | 0,_,e=>e
 | n+1,l,e=>by
   unfold cellsAt at *
   cases h1:cellsAt h a n with
   | none=>rw [h1] at e; cases e
   | some l1=>
     rw [h1] at e; rw [zss hl h1]; simp only at e ⊢
     cases h2:h.cell (a.add n) with
     | none=>rw [h2] at e; cases e
     | some v=>rw [h2] at e; rw [Hp.cell_le hl h2]; exact e
theorem zrj {h h':Hp} (hl:h.le h') {a:Option Addr} {n:Nat} {l:List Value} (e:cellsAtO h a n=some l):cellsAtO h' a n=some l:=by
 cases a with
 | none=>exact e
 | some a=>exact zss hl e
def splice (cs:List Value) (off:Nat) (vs:List Value):List Value:=cs.take off++vs++cs.drop (off+vs.length)
def repl (n:Nat) (zero:List Value):List Value:=(List.replicate n zero).flatten
def Sl.cut (s:Sl) (l h size:Nat):Sl:=⟨if s.cap=l then s.a else s.a.map (·.add (l*size)),h-l,s.cap-l⟩
def ibits (op:BinOp) (k:IntKind) (x y:Int):Int:=
 let a:=BitVec.ofInt k.bits x
 let b:=BitVec.ofInt k.bits y
 match op with
 | .and=>k.wrap (a &&& b).toNat
 | .or=>k.wrap (a ||| b).toNat
 | .xor=>k.wrap (a ^^^ b).toNat
 | _=>k.wrap (a &&& ~~~b).toNat
def mget:List (Int×Bool)→Int→Bool
 | [],_=>false
 | p :: r,k=>bif decide (k=p.1) then p.2 else mget r k
def mput:List (Int×Bool)→Int→Bool→List (Int×Bool)
 | [],k,v=>[(k,v)]
 | p :: r,k,v=>bif decide (k=p.1) then (k,v) :: r else p :: mput r k v
def ifP (t:Bool) (A B:Prop):Prop:=match t with | true=>A | false=>B
theorem za2 {t:Bool} {A B:Prop} (ha:t=true→A) (hb:t=false→B):ifP t A B:=by
 cases t
 · exact hb rfl
 · exact ha rfl
def ldL (l:Lf) (a:Addr) (K:l.T→Prop) (h:Hp):Prop:=∃x:l.T,h.cell a=some (l.up x)∧K x
def ptrK (p:Option Addr) (K:Addr→Prop):Prop:=match p with | some a=>K a | none=>False
def idxP (x:Sl) (i:Int) (size:Nat) (K:Addr→Prop):Prop:=0≤i∧i<x.len∧ptrK x.a fun a=>K (a.add (i.toNat*size))
def slP (x:Sl) (lo hi:Int) (size:Nat) (K:Sl→Prop):Prop:=0≤lo∧lo≤hi∧hi≤x.cap∧K (x.cut lo.toNat hi.toNat size)
def strIdx (s:ByteArray) (i:Int) (K:Int→Prop):Prop:=0≤i∧∃b,s[i.toNat]?=some b∧K (b.toNat:Int)
def strCut (s:ByteArray) (lo hi:Int) (K:ByteArray→Prop):Prop:=0≤lo∧lo≤hi∧hi≤s.size∧K (s.extract lo.toNat hi.toNat)
def Value.leaf:Value→Bool
 | .agg _ | .tuple _=>false
 | _=>true
def stP (a:Addr) (vs:List Value) (K:Hp→Prop) (h:Hp):Prop:=
 ∃b,h a.block=some b∧a.spot=none∧b.fz=(0,0)∧a.off+vs.length≤b.cells.length∧vs.all Value.leaf=true∧K (h.ins a.block { b with cells:=splice b.cells a.off vs })
def newP (cells:List Value) (K:Addr→Hp→Prop) (h:Hp):Prop:=
 ∀b e,h b=none→K ⟨b,0,none⟩ (h.ins b ⟨cells,e,(0,0)⟩)
def newT (t:TypeId) (cells:List Value) (K:Addr→Hp→Prop) (h:Hp):Prop:=
 ∀b,h b=none→K ⟨b,0,none⟩ (h.ins b ⟨cells,t,(0,0)⟩)
def mkP (len cap:Int) (bytes:Nat) (zero:List Value) (K:Sl→Hp→Prop) (h:Hp):Prop:=
 0≤len∧len≤cap∧bytes*cap≤140737488355328∧cap≤140737488355328∧newP (repl cap.toNat zero) (fun a=>K ⟨some a,len.toNat,cap.toNat⟩) h
def stO (a:Option Addr) (off:Nat) (vs:List Value) (K:Hp→Prop) (h:Hp):Prop:=
 match a with
 | some a=>stP (a.add off) vs K h
 | none=>K h
def clrP (s:Sl) (z:List Value) (K:Hp→Prop) (h:Hp):Prop:=(s.len=0→K h)∧(s.len≠0→stO s.a 0 (repl s.len z) K h)
def appP (size bytes:Nat) (zero:List Value) (x:Sl) (n:Nat) (new:List Value) (K:Sl→Hp→Prop) (h:Hp):Prop:=
 (x.len+n)*bytes≤140737488355328∧x.len+n≤140737488355328 ∧
 (x.len+n≤x.cap→stO x.a (x.len*size) new (K ⟨x.a,x.len+n,x.cap⟩) h) ∧
 (x.cap<x.len+n→∃old,cellsAtO h x.a (x.len*size)=some old∧∀b e c,x.len+n≤c→h b=none →
   K ⟨some ⟨b,0,none⟩,x.len+n,c⟩ (h.ins b ⟨old++new++repl (c-(x.len+n)) zero,e,(0,0)⟩))
def appT (t:TypeId) (size bytes:Nat) (zero:List Value) (x:Sl) (n:Nat) (new:List Value) (K:Sl→Hp→Prop) (h:Hp):Prop:=
 (x.len+n)*bytes≤140737488355328∧x.len+n≤140737488355328 ∧
 (x.len+n≤x.cap→stO x.a (x.len*size) new (K ⟨x.a,x.len+n,x.cap⟩) h) ∧
 (x.cap<x.len+n→∃old,cellsAtO h x.a (x.len*size)=some old∧∀b c,x.len+n≤c→h b=none →
   K ⟨some ⟨b,0,none⟩,x.len+n,c⟩ (h.ins b ⟨old++new++repl (c-(x.len+n)) zero,t,(0,0)⟩))
def appC (ty:Option Nat) (size bytes:Nat) (zero:List Value) (x:Sl) (n:Nat) (new:List Value) (K:Sl→Hp→Prop) (h:Hp):Prop:=
 match ty with
 | none=>appP size bytes zero x n new K h
 | some t=>appT t size bytes zero x n new K h
theorem zwg {ty:Option Nat} {el:TypeId} {size bytes:Nat} {zero:List Value} {x:Sl} {n:Nat} {new:List Value} {K:Sl→Hp→Prop} {h:Hp} (hty:∀t,ty=some t→el=t) (hk:appC ty size bytes zero x n new K h):appT el size bytes zero x n new K h:=by
 cases ty with
 | none=>
   obtain ⟨h1,h2,h3,h4⟩:=hk
   refine ⟨h1,h2,h3,fun hc=>?_⟩
   obtain ⟨old,h5,h6⟩:=h4 hc
   exact ⟨old,h5,fun b c h7 h8=>h6 b el c h7 h8⟩
 | some t=>rw [hty t rfl]; exact hk
def ldCaps:Nat→(List Value→Prop)→Prop
 | 0,K=>K []
 | n+1,K=>∃c:Option Addr,ldCaps n fun l=>K (.pointer c :: l)
def shapeV (hint:Option (Nat×Nat)) (v:Value) (K:Value→Prop):Prop:=
 match hint with
 | none=>K v
 | some (g,k)=>ldCaps k fun l=>v=.func (.func g) #[] l.toArray∧K (.func (.func g) #[] l.toArray)
theorem zth:∀{n:Nat} {K:List Value→Prop},ldCaps n K→∃l,K l
 | 0,_,h=>⟨_,h⟩
 | n+1,_,⟨_,h⟩=>by
   obtain ⟨l,hl⟩:=zth h
   exact ⟨_,hl⟩
theorem za3m {hint:Option (Nat×Nat)} {v:Value} {K:Value→Prop} (h:shapeV hint v K):K v:=by
 cases hint with
 | none=>exact h
 | some p=>
   obtain ⟨l,h1,h2⟩:=zth h
   rw [h1]; exact h2
def cpP (size:Nat) (x y:Sl) (K:Nat→Hp→Prop) (h:Hp):Prop:=
 ∃l,cellsAtO h y.a (Nat.min y.len x.len*size)=some l∧stO x.a 0 l (K (Nat.min y.len x.len)) h
def rdO (a:Option Addr) (n:Nat) (K:List Value→Prop) (h:Hp):Prop:=∃l,cellsAtO h a n=some l∧K l
def toStr (x:Sl) (K:ByteArray→Prop) (h:Hp):Prop:=∃bs:List UInt8,cellsAtO h x.a x.len=some (bs.map fun b=>.int .u8 b.toNat)∧K ⟨bs.toArray⟩
def bytesOfS (s:ByteArray):List Value:=s.data.toList.map fun b=>.int .u8 b.toNat
def bytesP (s:ByteArray) (K:Sl→Hp→Prop) (h:Hp):Prop:=
 ∀b e c fz,s.size≤c→h b=none→K ⟨some ⟨b,0,none⟩,s.size,c⟩ (h.ins b ⟨bytesOfS s++List.replicate (c-s.size) (.int .u8 0),e,fz⟩)
def callP {α:Type} (G:(α→Hp→Prop)→Hp→Prop) (K:α→Hp→Prop) (h:Hp):Prop:=
 ∃(D O:Hp) (Q:α→Hp→Prop),D.dj O∧h=D.add O∧G Q D∧∀v D',Q v D'→D.le D'∧(D'.dj O→(D'.add O).Fin→K v (D'.add O))
def callM {α:Type} (G:(α→Hp→Prop)→Hp→Prop) (K:α→Hp→Prop) (h:Hp):Prop:=
 ∃(D O:Hp) (Q:α→Hp→Prop),D.dj O∧h=D.add O∧G Q D∧∀v D',Q v D'→D'.dj O→K v (D'.add O)
def joinP {S:Type} (k:S→Hp→Prop) (body:(S→Hp→Prop)→Prop):Prop:=
 ∃J:S→Hp→Prop,(∀s h,J s h→k s h)∧body J
def loopP {S:Type} (body:S→(S→Hp→Prop)→Hp→Prop) (s0:S) (h0:Hp):Prop:=
 ∃(I:S→Hp→Prop) (μ:S→Hp→Nat),I s0 h0∧∀s h,I s h→body s (fun s' h'=>I s' h'∧μ s' h'<μ s h) h
end Den
end

section
namespace Den
open Go
inductive Slot where
 | val (v:Value)
 | box (cs:List Value)
 | lit (cs:List Value) (n:Nat)
 | ref (off:Nat)
 | mp (m:List (Int×Bool))
 | mr
 | junk
abbrev Env:=Nat→Slot
inductive Up where
 | none
 | set (d:Nat) (s:Slot)
 | alloc (d:Nat) (s:Slot)
abbrev FSem:=List Value→(Value→Hp→Prop)→Hp→Prop
def memN (t:Nat):List Nat→Bool
 | []=>false
 | x :: r=>bif Nat.beq t x then true else memN t r
def lookN (t:Nat):List (Nat×Nat)→Nat
 | []=>t
 | (x,y) :: r=>bif Nat.beq t x then y else lookN t r
def lookF (g:Nat):List (Nat×FSem)→FSem
 | []=>fun _ _ _=>False
 | (x,y) :: r=>bif Nat.beq g x then y else lookF g r
inductive STy where
 | leaf (l:Lf)
 | agg (ls:List Lf)
 | box (ls:List Lf)
 | mp
def LT:List Lf→Type
 | []=>Unit
 | l :: r=>l.T×LT r
abbrev STy.T:STy→Type
 | .leaf l=>l.T
 | .agg ls=>LT ls
 | .box ls=>LT ls
 | .mp=>List (Int×Bool)
structure Cfg where
 P:Program
 n:Nat
 tab:List (Nat×FSem)
 mutL:List Nat:=[]
 rtL:List (Nat×Nat):=[]
 locL:List Nat:=[]
 backs:List (Nat×STy):=[]
 tyL:List Nat:=[]
 fnL:List (Nat×Nat×Nat):=[]
 mapL:List Nat:=[]
def lookB (g:Nat):List (Nat×STy)→Option STy
 | []=>none
 | (x,y) :: r=>bif Nat.beq g x then some y else lookB g r
def Cfg.f (C:Cfg) (g:FuncId):FSem:=lookF g C.tab
def Cfg.muts (C:Cfg) (g:FuncId):Bool:=memN g C.mutL
def Cfg.rt (C:Cfg) (t:Nat):Nat:=lookN t C.rtL
def Cfg.loc (C:Cfg) (t:Nat):Bool:=memN t C.locL
def lookH:Nat→List (Nat×Nat×Nat)→Option (Nat×Nat)
 | _,[]=>none
 | t,(x,y) :: r=>bif Nat.beq t x then some y else lookH t r
def Cfg.hint (C:Cfg) (dst:Option Nat):Option (Nat×Nat):=match dst with | some d=>lookH d C.fnL | none=>none
def Cfg.tyO (C:Cfg) (t:Nat):Option Nat:=bif memN t C.tyL then some t else none
def Env.set (e:Env) (d:Nat) (s:Slot):Env:=fun j=>bif Nat.beq j d then s else e j
def Env.alloc (rt:Nat→Nat) (e:Env) (d:Nat) (s:Slot):Env:=fun j=>
 bif Nat.beq j d then s else match e j with
  | .ref o=>bif Nat.beq (rt j) d then .junk else .ref o
  | x=>x
def Env.upd (rt:Nat→Nat) (e:Env):Up→Env
 | .none=>e
 | .set d s=>e.set d s
 | .alloc d s=>e.alloc rt d s
def opv (e:Env) (x:Operand) (K:Value→Prop):Prop:=
 match x with
 | .const v=>K v
 | .func f=>K (.func (.func f) #[] #[])
 | .global g=>K (.pointer (some ⟨g,0,none⟩))
 | .tmp t=>match e t with
   | .val v=>K v
   | _=>False
def opvs (e:Env):List Operand→(List Value→Prop)→Prop
 | [],K=>K []
 | x :: r,K=>opv e x fun v=>opvs e r fun vs=>K (v :: vs)
def intBin (op:BinOp) (k k':IntKind) (a b:Int) (K:Value→Prop):Prop:=
 match op with
 | .shl=>0≤b∧K (.int k (k.wrap (a*2 ^ (min b.toNat k.bits))))
 | .shr=>0≤b∧K (.int k (a.fdiv (2 ^ (min b.toNat k.bits))))
 | .add=>sameK k k' (K (.int k (k.wrap (a+b))))
 | .sub=>sameK k k' (K (.int k (k.wrap (a-b))))
 | .mul=>sameK k k' (K (.int k (k.wrap (a*b))))
 | .quo=>sameK k k' (b≠0∧K (.int k (k.wrap (a.tdiv b))))
 | .rem=>sameK k k' (b≠0∧K (.int k (a.tmod b)))
 | .and=>sameK k k' (K (.int k (ibits .and k a b)))
 | .or=>sameK k k' (K (.int k (ibits .or k a b)))
 | .xor=>sameK k k' (K (.int k (ibits .xor k a b)))
 | .andNot=>sameK k k' (K (.int k (ibits .andNot k a b)))
 | .eql=>sameK k k' (K (.bool (a==b)))
 | .neq=>sameK k k' (K (.bool (a != b)))
 | .lss=>sameK k k' (K (.bool (decide (a<b))))
 | .leq=>sameK k k' (K (.bool (decide (a≤b))))
 | .gtr=>sameK k k' (K (.bool (decide (a>b))))
 | .geq=>sameK k k' (K (.bool (decide (a≥b))))
def binP (P:Program) (t:TypeId) (op:BinOp) (x y:Value) (K:Value→Prop):Prop:=
 match x,y with
 | .int k a,.int k' b=>intBin op k k' a b K
 | .string a,.string b=>
   (match op with
   | .add=>((a.size+b.size:Nat):Int)≤9223372036854775807∧K (.string (a++b))
   | .eql=>K (.bool (a.toList==b.toList))
   | .neq=>K (.bool (!(a.toList==b.toList)))
   | _=>False)
 | .bool a,.bool b=>
   (match P.underlying t,op with
   | some .bool,.eql=>K (.bool (a==b))
   | some .bool,.neq=>K (.bool (!(a==b)))
   | _,_=>False)
 | .slice a _ _,.slice none _ _=>
   (match P.underlying t,op with
   | some (.slice _),.eql=>K (.bool a.isNone)
   | some (.slice _),.neq=>K (.bool (!a.isNone))
   | _,_=>False)
 | _,_=>False
def unP (op:UnOp) (x:Value) (K:Value→Prop):Prop:=
 match op,x with
 | .not,.bool b=>K (.bool (!b))
 | .neg,.int k n=>K (.int k (k.wrap (0-n)))
 | _,_=>False
def isAgg? (P:Program) (t:TypeId):Option Bool:=
 match P.underlying t with
 | some (.struct _) | some (.array _ _)=>some true
 | some _=>some false
 | none=>none
def leaves (P:Program):Nat→TypeId→Option (List Lf)
 | 0,_=>none
 | d+1,t=>
   match P.underlying t with
   | some .bool=>some [.bool]
   | some (.int k)=>some [.int k]
   | some .string=>some [.str]
   | some (.slice _)=>some [.sl]
   | some (.pointer _)=>some [.ptr]
   | some (.struct fs)=>fs.toList.foldr (fun f acc=>match leaves P d f.type,acc with | some l,some r=>some (l++r) | _,_=>none) (some [])
   | some (.array n t')=>(match leaves P d t' with | some l=>some ((List.replicate n l).flatten) | none=>none)
   | some (.func _ _ _)=>some [.val]
   | _=>none
def ldLs:List Lf→Addr→Nat→(List Value→Prop)→Hp→Prop
 | [],_,_,K,_=>K []
 | l :: r,a,i,K,h=>ldL l (a.add i) (fun x=>ldLs r a (i+1) (fun vs=>K (l.up x :: vs)) h) h
def ldT (P:Program) (t:TypeId) (a:Addr) (K:Value→Prop) (h:Hp):Prop:=
 match leaves P 8 t with
 | some ls=>(match isAgg? P t with
   | none=>False
   | some true=>(match Nat.beq ls.length (P.cellsOf t) with
     | true=>ldLs ls a 0 (fun vs=>K (.agg vs.toArray)) h
     | false=>False)
   | some false=>(match ls with
     | [l]=>ldL l a (fun x=>K (l.up x)) h
     | _=>False))
 | none=>False
def partT (P:Program) (t:TypeId) (cs:List Value) (off:Nat) (K:Value→Prop):Prop:=
 match isAgg? P t with
 | none=>False
 | some true=>(match Nat.ble (off+P.cellsOf t) cs.length with
   | true=>K (.agg ((cs.drop off).take (P.cellsOf t)).toArray)
   | false=>False)
 | some false=>(match cs[off]? with
   | some v=>K v
   | none=>False)
def zeroC (P:Program) (t:TypeId) (K:List Value→Prop):Prop:=
 match P.info? t with
 | some i=>(match i.zero with
   | some z=>K z.cells.toList
   | none=>False)
 | none=>False
def retV (C:Cfg) (dst:Option Nat) (v:Value) (h:Hp) (K:Up→Hp→Prop):Prop:=
 match dst with
 | none=>K .none h
 | some d=>match C.loc d,Nat.blt d C.n with
   | false,true=>K (.set d (.val v)) h
   | _,_=>False
def skipV (C:Cfg) (dst:Option Nat) (h:Hp) (K:Up→Hp→Prop):Prop:=
 match dst with
 | none=>K .none h
 | some d=>match C.loc d,memN d C.mapL with
   | true,false=>K (.alloc d .junk) h
   | true,true=>False
   | false,_=>retV C dst undef h K
def retR (C:Cfg) (dst:Option Nat) (root off:Nat) (h:Hp) (K:Up→Hp→Prop):Prop:=
 match dst with
 | none=>False
 | some d=>match C.loc d,Nat.beq (C.rt d) root,Nat.blt d C.n with
   | false,true,true=>K (.set d (.ref off)) h
   | _,_,_=>False
def retNew (C:Cfg) (dst:Option Nat) (cs:List Value) (mk:Addr→Value) (hid:Slot) (ty:Option Nat) (h:Hp) (K:Up→Hp→Prop):Prop:=
 match dst with
 | none=>False
 | some d=>match C.loc d,Nat.blt d C.n,memN d C.mapL with
   | true,true,false=>K (.alloc d hid) h
   | false,true,_=>(match ty with
     | none=>newP cs (fun a h'=>K (.set d (.val (mk a))) h') h
     | some t=>newT t cs (fun a h'=>K (.set d (.val (mk a))) h') h)
   | _,_,_=>False
def asField (P:Program) (s:TypeId) (f:Nat) (K:Nat→Prop):Prop:=
 match P.underlying s with
 | some (.struct fs)=>(match fs[f]? with
   | some fd=>(match Nat.beq (P.cellsOf fd.type) 0 with
     | true=>False
     | false=>K fd.offset)
   | none=>False)
 | _=>False
def fillP (place:Nat→Option (Nat×Nat)) (zero:List Value) (parts:List (Nat×Value)) (K:List Value→Prop):Prop:=
 match Instr.fill place zero.toArray parts with
 | some cs=>K cs.toList
 | none=>False
def elemOf? (P:Program) (t:TypeId) (K:TypeId→Prop):Prop:=
 match P.underlying t with
 | some (.slice e)=>(match (P.info? e).isSome with
   | true=>K e
   | false=>False)
 | _=>False
def noInt (P:Program) (t:TypeId) (p:Prop):Prop:=
 match P.underlying t with
 | some (.slice _)=>p
 | some .string=>p
 | _=>False
def selI (P:Program) (t:TypeId) (p q:Prop):Prop:=
 match P.underlying t with
 | some (.int _)=>p
 | _=>q
def okT (P:Program) (t:TypeId) (p:Prop):Prop:=
 match (P.info? t).isSome with
 | true=>p
 | false=>False
def idxC (n:Int) (len:Nat) (p:Prop):Prop:=match decide (0≤n∧n<len) with | true=>p | false=>False
def aggC:Value→(List Value→Prop)→Prop
 | .agg cs,K=>K cs.toList
 | _,_=>False
def maxI (a b:Int):Int:=if b>a then b else a
def minI (a b:Int):Int:=if b<a then b else a
def maxP:List Value→(Value→Prop)→Prop
 | [.int k a,.int k' b],K=>sameK k k' (K (.int k (maxI a b)))
 | _,_=>False
def minP:List Value→(Value→Prop)→Prop
 | [.int k a,.int k' b],K=>sameK k k' (K (.int k (minI a b)))
 | _,_=>False
def boP (e:Env) (lo:Option Operand) (dflt:Int) (K:Int→Prop):Prop:=
 match lo with
 | none=>K dflt
 | some x=>opv e x fun v=>match v with
   | .int _ n=>K n
   | _=>False
def srcP (e:Env) (x:Operand) (size:Nat) (K:Nat→List Value→Prop) (h:Hp):Prop:=
 match x with
 | .tmp t=>(match e t with
   | .lit cs n=>(match Nat.beq cs.length (n*size) with | true=>K n cs | false=>False)
   | .val (.slice a l _)=>rdO a (l*size) (fun vs=>K l vs) h
   | .val (.string s)=>(match Nat.beq size 1 with | true=>K s.size (bytesOfS s) | false=>False)
   | _=>False)
 | .const (.slice a l _)=>rdO a (l*size) (fun vs=>K l vs) h
 | .const (.string s)=>(match Nat.beq size 1 with | true=>K s.size (bytesOfS s) | false=>False)
 | _=>False
def mapS (C:Cfg) (e:Env) (x:Operand) (A:Nat→List (Int×Bool)→Prop) (B:Prop):Prop:=
 match x with
 | .tmp s=>(match e s with
   | .mp m=>(match Nat.beq (C.rt s) s with
     | true=>A s m
     | false=>False)
   | .mr=>(match e (C.rt s) with
     | .mp m=>A (C.rt s) m
     | _=>False)
   | _=>B)
 | _=>B
def isMr:Slot→Bool
 | .mr=>true
 | _=>false
def retM (C:Cfg) (dst:Option Nat) (root:Nat) (h:Hp) (K:Up→Hp→Prop):Prop:=
 match dst with
 | none=>False
 | some d=>match C.loc d,Nat.beq (C.rt d) root,Nat.blt d C.n with
   | false,true,true=>K (.set d .mr) h
   | _,_,_=>False
def mapT (P:Program) (t:TypeId) (p:Prop):Prop:=
 match P.underlying t with
 | some (.map k v)=>(match P.underlying k,P.info? v with
   | some (.int .i64),some i=>(match i.zero with
     | some (.bool false)=>p
     | _=>False)
   | _,_=>False)
 | _=>False
def retMap (C:Cfg) (e:Env) (dst:Option Nat) (h:Hp) (K:Up→Hp→Prop):Prop:=
 match dst with
 | none=>False
 | some d=>(match C.loc d,Nat.blt d C.n,memN d C.mapL,(List.range C.n).all (fun t=>!isMr (e t)) with
   | true,true,true,true=>K (.alloc d (.mp [])) h
   | _,_,_,_=>False)
def builtinP (C:Cfg) (b:Builtin) (argTypes:List TypeId) (args:List Operand) (e:Env) (h:Hp) (dst:Option Nat) (K:Up→Hp→Prop):Prop:=
 match b,args with
 | .len,[x]=>mapS C e x (fun _ m=>(match argTypes with
   | [t]=>mapT C.P t (retV C dst (.int .i64 m.length) h K)
   | _=>False)) <| opv e x fun v=>(match v,argTypes with
   | .string s,[t]=>(match C.P.underlying t with
     | some .string=>retV C dst (.int .i64 s.size) h K
     | _=>False)
   | .slice _ n _,[t]=>(match C.P.underlying t with
     | some (.slice _)=>retV C dst (.int .i64 n) h K
     | _=>False)
   | _,_=>False)
 | .max,[x,y]=>opv e x fun u=>opv e y fun v=>maxP [u,v] fun r=>retV C dst r h K
 | .min,[x,y]=>opv e x fun u=>opv e y fun v=>minP [u,v] fun r=>retV C dst r h K
 | .append,[x,y]=>(match argTypes with
   | [t,t2]=>selI C.P t2 (elemOf? C.P t fun el=>zeroC C.P el fun z=>(match Nat.beq z.length (C.P.cellsOf el),Nat.beq z.length 0 with
     | true,false=>opv e x fun v=>opv e y fun u=>(match v,u with
       | .slice a l c,.int _ m=>0≤m∧appC (C.tyO el) z.length (C.P.bytesOf el) z ⟨a,l,c⟩ m.toNat (repl m.toNat z) (fun s h'=>retV C dst (.slice s.a s.len s.cap) h' K) h
       | _,_=>False)
     | _,_=>False)) <| noInt C.P t2 <| elemOf? C.P t fun el=>zeroC C.P el fun z=>(match Nat.beq z.length (C.P.cellsOf el),Nat.beq z.length 0 with
     | true,false=>opv e x fun v=>(match v with
       | .slice a l c=>srcP e y z.length (fun n new=>appC (C.tyO el) z.length (C.P.bytesOf el) z ⟨a,l,c⟩ n new (fun s h'=>retV C dst (.slice s.a s.len s.cap) h' K) h) h
       | _=>False)
     | _,_=>False)
   | _=>False)
 | .copy,[x,y]=>(match argTypes with
   | [t,_]=>elemOf? C.P t fun el=>opv e x fun v=>opv e y fun u=>(match v,u with
     | .slice a l c,.slice a2 l2 c2=>cpP (C.P.cellsOf el) ⟨a,l,c⟩ ⟨a2,l2,c2⟩ (fun n h'=>retV C dst (.int .i64 (n:Int)) h' K) h
     | _,_=>False)
   | _=>False)
 | .clear,[x]=>(match argTypes with
   | [t]=>elemOf? C.P t fun el=>zeroC C.P el fun z=>opv e x fun v=>(match v with
     | .slice a l c=>clrP ⟨a,l,c⟩ z (fun h'=>retV C dst (.tuple #[]) h' K) h
     | _=>False)
   | _=>False)
 | .cap,[x]=>opv e x fun v=>(match v,argTypes with
   | .slice _ _ n,[t]=>(match C.P.underlying t with
     | some (.slice _)=>retV C dst (.int .i64 n) h K
     | _=>False)
   | _,_=>False)
 | _,_=>False
def dcore (C:Cfg) (o:Oper) (e:Env) (h:Hp) (K:Up→Hp→Prop):Prop:=
 match o.op with
 | .move x | .assign x=>mapS C e x (fun s _=>(match memN s C.mapL with
   | true=>retM C o.dst s h K
   | false=>False)) <| opv e x fun v=>retV C o.dst v h K
 | .pick c a b=>opv e c fun v=>(match v with
   | .bool t=>ifP t (opv e a fun v=>retV C o.dst v h K) (opv e b fun v=>retV C o.dst v h K)
   | _=>False)
 | .alloc t=>zeroC C.P t fun cs=>retNew C o.dst cs (fun a=>.pointer (some a)) (.box cs) (C.tyO t) h K
 | .box _ x=>opv e x fun v=>retNew C o.dst v.cells.toList (fun a=>.pointer (some a)) (.box v.cells.toList) none h K
 | .build t parts=>opvs e (parts.toList.map (·.2)) fun vs=>(match C.P.built t ((parts.toList.map (·.1)).zip vs) with
   | some cs=>retV C o.dst (.agg cs) h K
   | none=>False)
 | .buildSlice t n parts=>opvs e (parts.toList.map (·.2)) fun vs=>elemOf? C.P t fun el=>zeroC C.P el fun z=>(match Nat.beq z.length (C.P.cellsOf el),Nat.ble (n*C.P.cellsOf el) 16777216 with
   | true,true=>fillP (fun i=>some (i*z.length,z.length)) (repl n z) ((parts.toList.map (·.1)).zip vs) fun cs=>
     retNew C o.dst cs (fun a=>.slice (some a) n n) (.lit cs n) none h K
   | _,_=>False)
 | .load t a=>(match a with
   | .tmp s=>(match e s with
     | .box cs=>partT C.P t cs 0 fun v=>retV C o.dst v h K
     | .ref off=>(match e (C.rt s) with
       | .box cs=>partT C.P t cs off fun v=>retV C o.dst v h K
       | _=>False)
     | .val (.pointer p)=>(match C.loc (C.rt s) with
       | true=>False
       | false=>ptrK p fun ad=>ldT C.P t ad (fun v=>shapeV (C.hint o.dst) v fun v=>retV C o.dst v h K) h)
     | _=>False)
   | _=>False)
 | .store t a x=>opv e x fun v=>(match Nat.beq v.cells.toList.length (C.P.cellsOf t),v.cells.toList.all Value.leaf with
   | true,true=>(match a with
     | .tmp s=>(match e s with
       | .box cs=>(match (C.P.info? t).isSome,o.dst,Nat.ble v.cells.toList.length cs.length with
         | true,none,true=>K (.set s (.box (splice cs 0 v.cells.toList))) h
         | _,_,_=>False)
       | .ref off=>(match e (C.rt s) with
         | .box cs=>(match (C.P.info? t).isSome,o.dst,Nat.ble (off+v.cells.toList.length) cs.length with
           | true,none,true=>K (.set (C.rt s) (.box (splice cs off v.cells.toList))) h
           | _,_,_=>False)
         | _=>False)
       | .val (.pointer p)=>(match C.loc (C.rt s) with
         | true=>False
         | false=>ptrK p fun ad=>(match (C.P.info? t).isSome,o.dst with
           | true,none=>stP ad v.cells.toList (fun h'=>K .none h') h
           | _,_=>False))
       | _=>False)
     | _=>False)
   | _,_=>False)
 | .nilCheck x=>opv e x fun v=>(match v with
   | .pointer p=>ptrK p fun ad=>retV C o.dst (.pointer (some ad)) h K
   | .func (.func g) a b=>retV C o.dst (.func (.func g) a b) h K
   | _=>False)
 | .binOp op t x y _=>opv e x fun u=>opv e y fun v=>binP C.P t op u v fun r=>retV C o.dst r h K
 | .unOp op _ x=>opv e x fun u=>unP op u fun r=>retV C o.dst r h K
 | .convert src dst x=>opv e x fun v=>(match C.P.underlying dst,v with
   | some (.int k),.int _ n=>(match (C.P.underlying src).isSome with
     | true=>retV C o.dst (.int k (k.wrap n)) h K
     | false=>False)
   | some .string,.slice a l c=>(match C.P.underlying src with
     | some (.slice el)=>(match C.P.underlying el with
       | some (.int .u8)=>toStr ⟨a,l,c⟩ (fun s=>retV C o.dst (.string s) h K) h
       | _=>False)
     | _=>False)
   | some (.slice el),.string s=>(match C.P.underlying src,C.P.underlying el with
     | some .string,some (.int .u8)=>bytesP s (fun x h'=>retV C o.dst (.slice x.a x.len x.cap) h' K) h
     | _,_=>False)
   | _,_=>False)
 | .makeFunc (.func g) first captured=>opvs e first.toList fun us=>opvs e captured.toList fun vs=>retV C o.dst (.func (.func g) us.toArray vs.toArray) h K
 | .makeSlice t l c=>opv e l fun lv=>opv e c fun cv=>(match lv,cv with
   | .int _ len,.int _ cap=>elemOf? C.P t fun el=>zeroC C.P el fun z=>(match Nat.beq z.length (C.P.cellsOf el),Nat.beq z.length 0 with
     | true,false=>mkP len cap (C.P.bytesOf el) z (fun s h'=>retV C o.dst (.slice s.a s.len s.cap) h' K) h
     | _,_=>False)
   | _,_=>False)
 | .slice t x lo hi none=>opv e x fun v=>(match v with
   | .string s=>(match C.P.underlying t with
     | some .string=>boP e lo 0 fun l=>boP e hi s.size fun u=>strCut s l u fun r=>retV C o.dst (.string r) h K
     | _=>False)
   | .slice a n c=>elemOf? C.P t fun el=>boP e lo 0 fun l=>boP e hi n fun u=>slP ⟨a,n,c⟩ l u (C.P.cellsOf el) fun s=>retV C o.dst (.slice s.a s.len s.cap) h K
   | .pointer p=>(match C.P.underlying t with
     | some (.array n el)=>okT C.P el <| ptrK p fun ad=>boP e lo 0 fun l=>boP e hi n fun u=>slP ⟨some ad,n,n⟩ l u (C.P.cellsOf el) fun s=>retV C o.dst (.slice s.a s.len s.cap) h K
     | _=>False)
   | _=>False)
 | .fieldAddr t x f=>asField C.P t f fun off=>(match x with
   | .tmp s=>(match e s with
     | .box _=>retR C o.dst s off h K
     | .ref o'=>retR C o.dst (C.rt s) (o'+off) h K
     | .val (.pointer p)=>ptrK p fun ad=>retV C o.dst (.pointer (some (ad.add off))) h K
     | _=>False)
   | _=>False)
 | .field t x f=>asField C.P t f fun off=>opv e x fun v=>aggC v fun cs=>(match C.P.underlying t with
   | some (.struct fs)=>(match fs[f]? with
     | some fd=>partT C.P fd.type cs off fun r=>retV C o.dst r h K
     | none=>False)
   | _=>False)
 | .indexAddr t x ix=>opv e ix fun iv=>(match iv with
   | .int _ n=>(match C.P.underlying t with
     | some (.slice el)=>okT C.P el <| opv e x fun v=>(match v with
       | .slice a l c=>idxP ⟨a,l,c⟩ n (C.P.cellsOf el) fun ad=>retV C o.dst (.pointer (some ad)) h K
       | _=>False)
     | some (.array len el)=>okT C.P el <| idxC n len (match x with
       | .tmp s=>(match e s with
         | .box _=>retR C o.dst s (n.toNat*C.P.cellsOf el) h K
         | .ref o'=>retR C o.dst (C.rt s) (o'+n.toNat*C.P.cellsOf el) h K
         | .val (.pointer p)=>ptrK p fun ad=>retV C o.dst (.pointer (some (ad.add (n.toNat*C.P.cellsOf el)))) h K
         | _=>False)
       | .global g=>retV C o.dst (.pointer (some ((⟨g,0,none⟩:Addr).add (n.toNat*C.P.cellsOf el)))) h K
       | _=>False)
     | _=>False)
   | _=>False)
 | .index t x ix=>opv e ix fun iv=>opv e x fun v=>(match iv,v with
   | .int _ n,.string s=>(match C.P.underlying t with
     | some .string=>strIdx s n fun b=>retV C o.dst (.int .u8 b) h K
     | _=>False)
   | .int _ n,.agg cs=>(match C.P.underlying t with
     | some (.array len el)=>okT C.P el <| idxC n len (partT C.P el cs.toList (n.toNat*C.P.cellsOf el) fun r=>retV C o.dst r h K)
     | _=>False)
   | _,_=>False)
 | .makeMap _ none=>retMap C e o.dst h K
 | .lookup t x ix false=>opv e ix fun iv=>mapT C.P t <| mapS C e x (fun _ m=>(match iv with
   | .int .i64 n=>retV C o.dst (.bool (mget m n)) h K
   | _=>False)) False
 | .mapUpdate t x k y=>opv e k fun kv=>opv e y fun yv=>mapT C.P t <| mapS C e x (fun s m=>(match kv,yv,o.dst with
   | .int .i64 n,.bool b,none=>K (.set s (.mp (mput m n b))) h
   | _,_,_=>False)) False
 | .extract x i=>opv e x fun v=>(match v with
   | .tuple vs=>(match vs.toList[i]? with
     | some u=>retV C o.dst u h K
     | none=>False)
   | _=>False)
 | .call c=>(match c.callee with
   | .builtin b=>builtinP C b c.argTypes.toList c.args.toList e h o.dst K
   | .value f=>opv e f fun fv=>(match fv with
     | .func (.func g) first cap=>opvs e c.args.toList fun vs=>
       C.f g (first.toList++vs++cap.toList) (fun r h'=>retV C o.dst r h' K) h
     | _=>False)
   | _=>False)
 | _=>False
def dops (C:Cfg) (ops:Array Oper) (K:Env→Hp→Prop):List Nat→Env→Hp→Prop
 | [],e,h=>K e h
 | i :: r,e,h=>
   match ops[i]? with
   | none=>False
   | some o=>
     match o.guard with
     | none=>dcore C o e h fun u h'=>dops C ops K r (e.upd C.rt u) h'
     | some (j,want)=>
       match (ops[j]?).bind (·.dst) with
       | none=>False
       | some d=>
         match C.loc d,e d with
         | false,.val (.bool t)=>
           ifP t
            (match want with
              | true=>dcore C o (e.set d (.val (.bool true))) h fun u h'=>dops C ops K r ((e.set d (.val (.bool true))).upd C.rt u) h'
              | false=>skipV C o.dst h fun u h'=>dops C ops K r ((e.set d (.val (.bool true))).upd C.rt u) h')
            (match want with
              | false=>dcore C o (e.set d (.val (.bool false))) h fun u h'=>dops C ops K r ((e.set d (.val (.bool false))).upd C.rt u) h'
              | true=>skipV C o.dst h fun u h'=>dops C ops K r ((e.set d (.val (.bool false))).upd C.rt u) h')
         | false,.val (.tuple _)=>skipV C o.dst h fun u h'=>dops C ops K r (e.upd C.rt u) h'
         | _,_=>False
def modsO (C:Cfg) (o:Oper):List Nat:=
 (match o.dst with | some d=>[d] | none=>[])++(match o.op with | .store _ (.tmp s) _=>[s,C.rt s] | .mapUpdate _ (.tmp s) _ _=>[C.rt s] | _=>[])++(match o.guard with | some _=>[] | none=>[])
def guardD (ops:Array Oper) (o:Oper):List Nat:=
 match o.guard with
 | some (j,_)=>(match (ops[j]?).bind (·.dst) with | some d=>[d] | none=>[])
 | none=>[]
def modsC (C:Cfg):Code→List Nat
 | .region _ ops _=>ops.toList.flatMap fun o=>modsO C o++guardD ops o
 | .seq a b=>modsC C a++modsC C b
 | .cond _ a b=>modsC C a++modsC C b
 | .block _ a=>modsC C a
 | .loop a=>modsC C a
 | .rangeFunc _ ps a b=>ps.toList++modsC C a++modsC C b
 | .scope a=>modsC C a
 | _=>[]
def STup:List (Nat×STy)→Type
 | []=>Unit
 | (_,s) :: r=>s.T×STup r
def LT.up:(ls:List Lf)→LT ls→List Value
 | [],_=>[]
 | l :: r,x=>l.up x.1 :: LT.up r x.2
def LT.dn:(ls:List Lf)→List Value→(LT ls→Prop)→Prop
 | [],[],K=>K ()
 | l :: r,v :: vs,K=>l.dn v fun x=>LT.dn r vs fun xs=>K (x,xs)
 | _,_,_=>False
def STy.up:(s:STy)→s.T→Slot
 | .leaf l,x=>.val (l.up x)
 | .agg ls,x=>.val (.agg (LT.up ls x).toArray)
 | .box ls,x=>.box (LT.up ls x)
 | .mp,x=>.mp x
def STy.dn:(s:STy)→Slot→(s.T→Prop)→Prop
 | .leaf l,.val v,K=>l.dn v K
 | .agg ls,.val (.agg cs),K=>LT.dn ls cs.toList K
 | .box ls,.box cs,K=>LT.dn ls cs K
 | .mp,.mp m,K=>K m
 | _,_,_=>False
def packS:(L:List (Nat×STy))→Env→(STup L→Prop)→Prop
 | [],_,K=>K ()
 | (t,s) :: r,e,K=>s.dn (e t) fun x=>packS r e fun xs=>K (x,xs)
def unpack:(L:List (Nat×STy))→STup L→Nat→Option Slot
 | [],_,_=>none
 | (t',s) :: r,x,t=>bif Nat.beq t t' then some (s.up x.1) else unpack r x.2 t
def mkEnv (e:Env) (mods:List Nat) (L:List (Nat×STy)) (s:STup L):Env:=fun t=>
 match unpack L s t with
 | some x=>x
 | none=>bif memN t mods then .junk else match e t with
   | .ref _=>.junk
   | .lit _ _=>.junk
   | x=>x
inductive Ex where
 | normal
 | exit (id:Nat)
 | ret
inductive An where
 | leaf
 | draw (order:List Nat)
 | drawP (order pubs:List Nat)
 | seq (a b:An)
 | join (L:List (Nat×STy)) (a b:An)
 | cond (a b:An)
 | block (a:An)
 | loop (L:List (Nat×STy)) (a:An)
 | back (L:List (Nat×STy)) (a b:An)
inductive Cls where
 | pure | load | call | new | other
 deriving DecidableEq
def clsO (C:Cfg) (o:Oper):Cls:=
 match o.op with
 | .move _ | .assign _ | .pick .. | .build .. | .binOp .. | .unOp .. | .makeFunc .. | .slice .. | .fieldAddr .. | .field .. | .indexAddr .. | .index .. | .extract .. | .nilCheck _=>.pure
 | .convert _ dst _=>(match C.P.underlying dst with | some (.int _)=>.pure | _=>.other)
 | .alloc _ | .box .. | .buildSlice ..=>(match o.dst with
   | some d=>(match C.loc d with | true=>.pure | false=>.new)
   | none=>.other)
 | .load _ (.tmp s)=>(match C.loc (C.rt s) with | true=>.pure | false=>.load)
 | .load ..=>.load
 | .store _ (.tmp s) _=>(match C.loc (C.rt s) with | true=>.pure | false=>.other)
 | .makeSlice ..=>.other
 | .call c=>(match c.callee with
   | .builtin .len | .builtin .max | .builtin .min | .builtin .cap=>.pure
   | .value (.func g)=>(match C.muts g with | true=>.other | false=>.call)
   | _=>.other)
 | _=>.other
def readsX (C:Cfg):Operand→List Nat
 | .tmp t=>[t,C.rt t]
 | _=>[]
def readsO (C:Cfg) (ops:Array Oper) (o:Oper):List Nat:=
 o.op.operands.toList.flatMap (readsX C)++guardD ops o++(match o.dst with | some d=>[C.rt d] | none=>[])
def readsA (C:Cfg) (ops:Array Oper) (o:Oper):List Nat:=readsO C ops o++(readsO C ops o).map C.rt
def disjN (a b:List Nat):Bool:=a.all fun x=>!memN x b
def sameGuard:Option (Nat×Bool)→Option (Nat×Bool)→Bool
 | _,none=>true
 | some (i,a),some (j,b)=>Nat.beq i j&&(match a,b with | true,true=>true | false,false=>true | _,_=>false)
 | none,some _=>false
def swapCls (C:Cfg) (ox oy:Oper):Bool:=
 match clsO C ox,clsO C oy with
 | .pure,_=>true
 | .load,.pure | .load,.load | .load,.call | .load,.new=>true
 | .call,.new=>sameGuard ox.guard oy.guard
 | .new,.new=>sameGuard ox.guard oy.guard
 | _,_=>false
def reachB (ops:Array Oper):Nat→Nat→Nat→Bool
 | 0,_,_=>false
 | d+1,x,y=>match ops[y]? with
   | some o=>o.after.toList.any (fun e=>Region.binds .any e&&Nat.beq e.on x)||o.after.toList.any (fun e=>Region.binds .any e&&(Nat.blt x e.on&&reachB ops d x e.on))
   | none=>false
def isMk (o:Oper):Bool:=
 match o.op with
 | .makeMap ..=>true
 | _=>false
def swapOk (C:Cfg) (ops:Array Oper) (x y:Nat):Bool:=
 match ops[x]?,ops[y]? with
 | some ox,some oy=>
   swapCls C ox oy&&!isMk ox&&!isMk oy&&disjN (modsO C ox) (readsA C ops oy)&&disjN (modsO C oy) (readsA C ops ox)&&disjN (modsO C ox) (modsO C oy)
 | _,_=>false
def pairsOk (C:Cfg) (ops:Array Oper):List Nat→Bool
 | []=>true
 | x :: r=>r.all (fun y=>reachB ops ops.size x y||swapOk C ops x y)&&pairsOk C ops r
def nodupN:List Nat→Bool
 | []=>true
 | x :: r=>!memN x r&&nodupN r
def edgesBack (ops:Array Oper):Bool:=
 (List.range ops.size).all fun i=>match ops[i]? with
   | some o=>o.after.toList.all fun e=>!Region.binds .any e||Nat.blt e.on i
   | none=>true
def checkDraw (C:Cfg) (ops:Array Oper) (order:List Nat):Bool:=
 C.P.follows .mixedOrders&&edgesBack ops&&Nat.ble order.length ops.size&&nodupN order&&order.all (fun i=>Nat.blt i ops.size)&&(List.range ops.size).all (fun i=>memN i order)&&pairsOk C ops order
def STy.val:(s:STy)→s.T→Value
 | .leaf l,x=>l.up x
 | .agg ls,x=>.agg (LT.up ls x).toArray
 | .box _,_=>.tuple #[]
 | .mp,_=>.tuple #[]
def STy.cells:(s:STy)→s.T→List Value
 | .leaf l,x=>[l.up x]
 | .agg ls,x=>LT.up ls x
 | .box _,_=>[]
 | .mp,_=>[]
def STy.size:STy→Nat
 | .leaf _=>1
 | .agg ls=>ls.length
 | .box _=>0
 | .mp=>0
def backP {S:Type} (T:STy) (a:Addr) (body:Int→T.T→S→(S→Hp→Prop)→Hp→Prop) (s0:S) (K:S→Hp→Prop) (h:Hp):Prop:=
 ∃(x:Sl) (I:Nat→S→Hp→Prop),x.len≤140737488355328∧I x.len s0 h ∧
  (∀i s h',I i s h'→h'.cell a=some (.slice x.a x.len x.cap)) ∧
  (∀i s h',i<x.len→I (i+1) s h'→∃(ad:Addr) (v:T.T),x.a=some ad∧(∀j u,(T.cells v)[j]?=some u→h'.cell (ad.add (i*T.size+j))=some u)∧body i v s (fun s' h''=>I i s' h'') h') ∧
  ∀s h',I 0 s h'→K s h'
def dstC:Code→List Nat
 | .region _ ops _=>ops.toList.flatMap fun o=>match o.dst with | some d=>[d] | none=>[]
 | .seq a b=>dstC a++dstC b
 | .cond _ a b=>dstC a++dstC b
 | .block _ a=>dstC a
 | .loop a=>dstC a
 | .scope a=>dstC a
 | _=>[]
def noRange:Code→Bool
 | .seq a b=>noRange a&&noRange b
 | .cond _ a b=>noRange a&&noRange b
 | .block _ a=>noRange a
 | .loop a=>noRange a
 | .scope a=>noRange a
 | .rangeFunc ..=>false
 | _=>true
def isBoxT:STy→Bool
 | .box _=>true
 | _=>false
def backOk (C:Cfg) (L:List (Nat×STy)) (p0 p1:Nat) (x y:Code):Bool:=
 L.all (fun q=>isBoxT q.2&&memN q.1 (modsC C x++modsC C y)&&!memN q.1 (p0 :: p1 :: (dstC x++dstC y))&&C.loc q.1)&&noRange x&&noRange y&&!C.loc p0&&!C.loc p1&&Nat.blt p0 C.n&&Nat.blt p1 C.n&&!Nat.beq p0 p1
def pubS (C:Cfg):List Nat→(Env→Hp→Prop)→Env→Hp→Prop
 | [],K,e,h=>K e h
 | d :: r,K,e,h=>match e d with
   | .box cs=>newP cs (fun a h'=>pubS C r K (e.alloc C.rt d (.val (.pointer (some a)))) h') h
   | _=>False
def den (C:Cfg):Code→An→(Ex→Env→Hp→Prop)→Env→Hp→Prop
 | .skip,_,K,e,h=>K .normal e h
 | .exit j,_,K,e,h=>K (.exit j) e h
 | .ret,_,K,e,h=>K .ret e h
 | .region _ ops false,_,K,e,h=>dops C ops (K .normal) (List.range ops.size) e h
 | .region _ ops true,.draw order,K,e,h=>(match checkDraw C ops order with
   | true=>dops C ops (K .normal) order e h
   | false=>False)
 | .region id ops true,.drawP order pubs,K,e,h=>(match checkDraw C ops order&&pubs.all (fun d=>memN d (modsC C (.region id ops true))) with
   | true=>dops C ops (pubS C pubs (K .normal)) order e h
   | false=>False)
 | .seq x y,.seq a b,K,e,h=>den C x a (fun ex e' h'=>match ex with
   | .normal=>den C y b K e' h'
   | ex=>K ex e' h') e h
 | .seq x y,.join L a b,K,e,h=>joinP (S:=STup L) (fun s h'=>den C y b K (mkEnv e (modsC C x) L s) h')
   (fun k=>den C x a (fun ex e' h'=>match ex with
     | .normal=>packS L e' fun s=>k s h'
     | ex=>K ex e' h') e h)
 | .cond c x y,.cond a b,K,e,h=>opv e c fun v=>(match v with
   | .bool t=>ifP t (den C x a K e h) (den C y b K e h)
   | _=>False)
 | .block id x,.block a,K,e,h=>den C x a (fun ex e' h'=>match ex with
   | .exit j=>(match Nat.beq j id with
     | true=>K .normal e' h'
     | false=>K (.exit j) e' h')
   | ex=>K ex e' h') e h
 | .loop x,.loop L a,K,e,h=>packS L e fun s0=>loopP (S:=STup L) (fun s k h1=>den C x a (fun ex e' h'=>match ex with
    | .normal=>packS L e' fun s=>k s h'
    | ex=>K ex e' h') (mkEnv e (modsC C x) L s) h1) s0 h
 | .rangeFunc g ⟨[p0,p1]⟩ x y,.back L a b,K,e,h=>(match backOk C L p0 p1 x y with
   | true=>opv e g fun gv=>(match gv with
     | .func (.func gf) ⟨[]⟩ ⟨[.pointer (some ad)]⟩=>(match lookB gf C.backs with
       | some T=>packS L e fun s0=>backP (S:=STup L) T ad (fun i v s k h1=>den C x a (fun ex e1 h2=>match ex with
          | .normal=>den C y b (fun ex e2 h3=>match ex with
            | .normal=>packS L e2 fun s'=>k s' h3
            | _=>False) e1 h2
          | _=>False) (((mkEnv e ([p0,p1]++modsC C x++modsC C y) L s).set p0 (.val (.int .i64 i))).set p1 (.val (T.val v))) h1)
          s0 (fun s h'=>K .normal (mkEnv e ([p0,p1]++modsC C x++modsC C y) L s) h') h
       | none=>False)
     | _=>False)
   | false=>False)
 | _,_,_,_,_=>False
def resP (C:Cfg) (rs:List ResultVar) (e:Env) (K:List Value→Prop):Prop:=
 match rs with
 | []=>K []
 | .tmp t :: r=>(match e t with
   | .val v=>resP C r e fun vs=>K (v :: vs)
   | _=>False)
 | .cell t ty :: r=>(match e t with
   | .box cs=>partT C.P ty cs 0 fun v=>resP C r e fun vs=>K (v :: vs)
   | _=>False)
def resV (vs:List Value):Value:=match vs with | [v]=>v | vs=>.tuple vs.toArray
def env0 (args:List Value):Env:=fun t=>match args[t]? with | some v=>.val v | none=>.junk
def denF (C:Cfg) (fn:Func) (c:Code) (an:An) (args:List Value) (K:Value→Hp→Prop) (h:Hp):Prop:=
 den C c an (fun ex e h'=>match ex with
  | .exit _=>False
  | _=>resP C fn.results.toList e fun vs=>K (resV vs) h') (env0 args) h
end Den
end

section
namespace Den
open Go
def Sub (h:Hp) (w:World):Prop:=∀k b,h k=some b→w.heap[k]?=some (.cells b.cells.toArray b.elem b.fz)
theorem Sub.cell {h:Hp} {w:World} (hs:Sub h w) {a:Addr} {v:Value} (e:h.cell a=some v):w.cell? a=some v:=by
 unfold Hp.cell at e
 unfold World.cell?
 cases hsp:a.spot with
 | some x=>rw [hsp] at e; cases e
 | none=>
   rw [hsp] at e; simp only at e
   cases hb:h a.block with
   | none=>rw [hb] at e; cases e
   | some b=>rw [hb] at e; simp only at e; rw [hs _ _ hb]; simpa using e
theorem Sub.mono {h h':Hp} {w:World} (hs:Sub h' w) (hl:h.le h'):Sub h w:=fun k b e=>hs k b (hl k b e)
theorem Sub.lt {h:Hp} {w:World} (hs:Sub h w) {k:Nat} {b:Blk} (e:h k=some b):k<w.heap.size:=by
 rcases Nat.lt_or_ge k w.heap.size with h' | h'
 · exact h'
 · have:=hs k b e; rw [Array.getElem?_eq_none h'] at this; cases this
theorem Sub.fresh {h:Hp} {w:World} (hs:Sub h w) {k:Nat} (e:w.heap.size≤k):h k=none:=by
 cases hk:h k with
 | none=>rfl
 | some b=>have:=hs.lt hk; omega
section
variable {P : Program} {w : World}
theorem Sub.fin {h:Hp} {w:World} (hs:Sub h w):h.Fin:=⟨w.heap.size,fun _ hk=>hs.fresh hk⟩
theorem zxs {op:BinOp} {k k':IntKind} {a b:Int} {K:Value→Prop} (h:intBin op k k' a b K) (t:TypeId) :
 ∃r,K r∧(binOp op t (.int k a) (.int k' b)).run P w=.ok r w:=by
 cases op
 case shl=>
  obtain ⟨hb,hK⟩:0≤b∧K (.int k (k.wrap (a*2 ^ (min b.toNat k.bits)))):=h
  refine ⟨_,hK,?_⟩
  show (Op.shift .shl k a k' b).run P w=_
  unfold Op.shift
  rw [if_neg (by omega)]
  rfl
 case shr=>
  obtain ⟨hb,hK⟩:0≤b∧K (.int k (a.fdiv (2 ^ (min b.toNat k.bits)))):=h
  refine ⟨_,hK,?_⟩
  show (Op.shift .shr k a k' b).run P w=_
  unfold Op.shift
  rw [if_neg (by omega)]
  rfl
 case quo=>
  obtain ⟨rfl,hb,hK⟩:k=k'∧b≠0∧K (.int k (k.wrap (a.tdiv b))):=zcm.1 h
  refine ⟨_,hK,?_⟩
  show (if k≠k then stuck "BinOp: operands of different kinds" else Op.intDiv .quo k a b).run P w=_
  rw [if_neg (by simp)]; unfold Op.intDiv; rw [if_neg hb]; rfl
 case rem=>
  obtain ⟨rfl,hb,hK⟩:k=k'∧b≠0∧K (.int k (a.tmod b)):=zcm.1 h
  refine ⟨_,hK,?_⟩
  show (if k≠k then stuck "BinOp: operands of different kinds" else Op.intDiv .rem k a b).run P w=_
  rw [if_neg (by simp)]; unfold Op.intDiv; rw [if_neg hb]; rfl
 case add=>
  obtain ⟨rfl,hK⟩:k=k'∧K (.int k (k.wrap (a+b))):=zcm.1 h
  refine ⟨_,hK,?_⟩
  show (if k≠k then stuck "BinOp: operands of different kinds" else Op.intArith .add k a b).run P w=_
  rw [if_neg (by simp)]; rfl
 case sub=>
  obtain ⟨rfl,hK⟩:k=k'∧K (.int k (k.wrap (a-b))):=zcm.1 h
  refine ⟨_,hK,?_⟩
  show (if k≠k then stuck "BinOp: operands of different kinds" else Op.intArith .sub k a b).run P w=_
  rw [if_neg (by simp)]; rfl
 case mul=>
  obtain ⟨rfl,hK⟩:k=k'∧K (.int k (k.wrap (a*b))):=zcm.1 h
  refine ⟨_,hK,?_⟩
  show (if k≠k then stuck "BinOp: operands of different kinds" else Op.intArith .mul k a b).run P w=_
  rw [if_neg (by simp)]; rfl
 case and=>
  obtain ⟨rfl,hK⟩:k=k'∧K (.int k (ibits .and k a b)):=zcm.1 h
  refine ⟨_,hK,?_⟩
  show (if k≠k then stuck "BinOp: operands of different kinds" else Op.intBits .and k a b).run P w=_
  rw [if_neg (by simp)]; rfl
 case or=>
  obtain ⟨rfl,hK⟩:k=k'∧K (.int k (ibits .or k a b)):=zcm.1 h
  refine ⟨_,hK,?_⟩
  show (if k≠k then stuck "BinOp: operands of different kinds" else Op.intBits .or k a b).run P w=_
  rw [if_neg (by simp)]; rfl
 case xor=>
  obtain ⟨rfl,hK⟩:k=k'∧K (.int k (ibits .xor k a b)):=zcm.1 h
  refine ⟨_,hK,?_⟩
  show (if k≠k then stuck "BinOp: operands of different kinds" else Op.intBits .xor k a b).run P w=_
  rw [if_neg (by simp)]; rfl
 case andNot=>
  obtain ⟨rfl,hK⟩:k=k'∧K (.int k (ibits .andNot k a b)):=zcm.1 h
  refine ⟨_,hK,?_⟩
  show (if k≠k then stuck "BinOp: operands of different kinds" else Op.intBits .andNot k a b).run P w=_
  rw [if_neg (by simp)]; rfl
 all_goals
  obtain ⟨rfl,hK⟩:=zcm.1 h
  refine ⟨_,hK,?_⟩
  show (if k≠k then stuck "BinOp: operands of different kinds" else Op.intCmp _ a b).run P w=_
  rw [if_neg (by simp)]; rfl
theorem za6 {t:TypeId} {d:TypeDesc} (h:P.underlying t=some d):(underlying t).run P w=.ok d w:=by
 unfold Go.underlying
 simp only [Sem.run_bind,run_program,Result.andThen_ok,h,Sem.run_pure]
theorem zxm (d:Nat) {t:TypeId} {a b:Bool} (hu:P.underlying t=some .bool):(Op.equalIn (d+1) t (.bool a) (.bool b)).run P w=.ok (a==b) w:=by
 unfold Op.equalIn
 simp only [Sem.run_bind,za6 hu,Result.andThen_ok,Sem.run_pure]
theorem zta {t:TypeId} {a b:Bool} (hu:P.underlying t=some .bool):(Op.equal t (.bool a) (.bool b)).run P w=.ok (a==b) w:=
 zxm 9999 hu
theorem za0a (d:Nat) {t e:TypeId} {a:Option Addr} {l c l' c':Nat} (hu:P.underlying t=some (.slice e)) :
 (Op.equalIn (d+1) t (.slice a l c) (.slice none l' c')).run P w=.ok a.isNone w:=by
 unfold Op.equalIn
 cases a<;>simp only [Sem.run_bind,za6 hu,Result.andThen_ok,Sem.run_pure]<;>rfl
theorem zuz {t e:TypeId} {a:Option Addr} {l c l' c':Nat} (hu:P.underlying t=some (.slice e)) :
 (Op.equal t (.slice a l c) (.slice none l' c')).run P w=.ok a.isNone w:=
 za0a 9999 hu
theorem za2l {op:BinOp} {t:TypeId} {x y:Value} {K:Value→Prop} (h:binP P t op x y K) (ox oy:Operand) :
 ∃r,K r∧(eqGuard op t ox oy x y >>= fun _=>binOp op t x y).run P w=.ok r w:=by
 unfold binP at h
 split at h
 · rename_i k a k' b
   obtain ⟨r,hK,hr⟩:=zxs (P:=P) (w:=w) h t
   refine ⟨r,hK,?_⟩
   have:(eqGuard op t ox oy (.int k a) (.int k' b)).run P w=.ok () w:=by
    unfold eqGuard; split<;>simp
   simp [this,hr]
 · rename_i a b
   have hg:(eqGuard op t ox oy (.string a) (.string b)).run P w=.ok () w:=by
    unfold eqGuard; split<;>simp
   split at h
   · refine ⟨_,h.2,?_⟩
     simp only [Sem.run_bind,hg,Result.andThen_ok,binOp,Op.stringOp]
     rw [if_neg (by have:=h.1; simp [IntKind.max,IntKind.signed,IntKind.bits]; omega)]
     rfl
   · exact ⟨_,h,by simp [hg,binOp,Op.stringOp]⟩
   · exact ⟨_,h,by simp [hg,binOp,Op.stringOp]⟩
   · exact h.elim
 · rename_i a b
   have hg:(eqGuard op t ox oy (.bool a) (.bool b)).run P w=.ok () w:=by
    unfold eqGuard; split<;>simp
   split at h
   · rename_i hu
     refine ⟨_,h,?_⟩
     simp only [Sem.run_bind,hg,Result.andThen_ok]
     show (Op.equal t (.bool a) (.bool b) >>= fun r=>Pure.pure (Value.bool r)).run P w=_
     simp only [Sem.run_bind,zta hu,Result.andThen_ok,Sem.run_pure]
   · rename_i hu
     refine ⟨_,h,?_⟩
     simp only [Sem.run_bind,hg,Result.andThen_ok]
     show (Op.equal t (.bool a) (.bool b) >>= fun r=>Pure.pure (Value.bool (!r))).run P w=_
     simp only [Sem.run_bind,zta hu,Result.andThen_ok,Sem.run_pure]
   · exact h.elim
 · rename_i a l c l' c'
   have hg:(eqGuard op t ox oy (.slice a l c) (.slice none l' c')).run P w=.ok () w:=by
    unfold eqGuard; split<;>simp
   split at h
   · rename_i hu
     refine ⟨_,h,?_⟩
     simp only [Sem.run_bind,hg,Result.andThen_ok]
     show (Op.equal t (.slice a l c) (.slice none l' c') >>= fun r=>Pure.pure (Value.bool r)).run P w=_
     simp only [Sem.run_bind,zuz hu,Result.andThen_ok,Sem.run_pure]
   · rename_i hu
     refine ⟨_,h,?_⟩
     simp only [Sem.run_bind,hg,Result.andThen_ok]
     show (Op.equal t (.slice a l c) (.slice none l' c') >>= fun r=>Pure.pure (Value.bool (!r))).run P w=_
     simp only [Sem.run_bind,zuz hu,Result.andThen_ok,Sem.run_pure]
   · exact h.elim
 · exact h.elim
theorem za9c {op:UnOp} {x:Value} {K:Value→Prop} (h:unP op x K):∃r,K r∧(Op.unary op x).run P w=.ok r w:=by
 unfold unP at h
 split at h
 · exact ⟨_,h,by simp [Op.unary]⟩
 · exact ⟨_,h,by simp [Op.unary,Op.intArith]⟩
 · exact h.elim
theorem zjm {t:TypeId} {b:Bool} (h:isAgg? P t=some b):(isAgg t).run P w=.ok b w:=by
 unfold isAgg? at h
 cases hd:P.underlying t with
 | none=>rw [hd] at h; cases h
 | some d=>
   rw [hd] at h
   simp only [isAgg,Sem.run_bind,za6 hd,Result.andThen_ok]
   cases d<;>simp_all
theorem zbb {t:TypeId} {i:TypeInfo} (h:P.info? t=some i):(Go.sizeOf t).run P w=.ok i.size w:=by
 simp [Go.sizeOf,typeInfo,h]
theorem zbx {t:TypeId} {i:TypeInfo} (h:P.info? t=some i):P.cellsOf t=i.size:=by simp [Program.cellsOf,h]
theorem zmy {t:TypeId} {i:TypeInfo} (h:P.info? t=some i):P.bytesOf t=i.bytes:=by simp [Program.bytesOf,h]
theorem zi2 {t:TypeId} {d:TypeDesc} (h:P.underlying t=some d):∃i,P.info? t=some i:=by
 cases hi:P.info? t with
 | none=>simp [Program.underlying,hi] at h
 | some i=>exact ⟨i,rfl⟩
theorem zxw {n:Nat} {t:TypeId} {ls:List Lf} (h:leaves P n t=some ls):∃d,P.underlying t=some d:=by
 cases n with
 | zero=>simp [leaves] at h
 | succ n=>
   cases hd:P.underlying t with
   | none=>simp [leaves,hd] at h
   | some d=>exact ⟨d,rfl⟩
theorem zti {h:Hp} (hs:Sub h w):∀{ls:List Lf} {a:Addr} {i:Nat} {K:List Value→Prop},ldLs ls a i K h →
 ∃vs,K vs∧vs.length=ls.length∧∀acc,(loadCellsFrom a i ls.length acc).run P w=.ok (acc++vs.toArray) w
 | [],a,i,K,hk=>⟨[],hk,rfl,fun acc=>by simp [loadCellsFrom]⟩
 | l :: r,a,i,K,hk=>by
   obtain ⟨x,hx,hk⟩:=hk
   obtain ⟨vs,h1,h2,h3⟩:=zti hs hk
   refine ⟨l.up x :: vs,h1,by simp [h2],fun acc=>?_⟩
   have hc:=hs.cell hx
   simp only [List.length_cons,loadCellsFrom,Sem.run_bind,run_load,hc,Result.andThen_ok]
   rw [h3]
   simp
theorem za79 {h:Hp} (hs:Sub h w) {t:TypeId} {a:Addr} {K:Value→Prop} (hk:ldT P t a K h) :
 ∃v,K v∧(loadVar t a).run P w=.ok v w:=by
 unfold ldT at hk
 split at hk
 · rename_i ls hl
   obtain ⟨d,hd⟩:=zxw hl
   obtain ⟨i,hi⟩:=zi2 hd
   split at hk
   · exact hk.elim
   · rename_i hagg
     split at hk
     · rename_i hlen
       obtain ⟨vs,h1,h2,h3⟩:=zti (P:=P) hs hk
       refine ⟨_,h1,?_⟩
       have hlen':ls.length=i.size:=by have:=Nat.eq_of_beq_eq_true hlen; rw [this,zbx hi]
       simp only [loadVar,Sem.run_bind,zjm hagg,Result.andThen_ok,if_true,zbb hi,loadCells,←hlen',h3,Sem.run_pure]
       simp
     · exact hk.elim
   · rename_i hagg
     split at hk
     · rename_i l
       obtain ⟨x,hx,hk⟩:=hk
       refine ⟨_,hk,?_⟩
       simp [loadVar,zjm hagg,hs.cell hx]
     · exact hk.elim
 · exact hk.elim
end
end Den
end

section
namespace Den
open Go
def Fr (D:Hp) (w w':World):Prop:=
 w.heap.size≤w'.heap.size∧(∀k,k<w.heap.size→D k=none→w'.heap[k]?=w.heap[k]?)∧w'.tape=w.tape∧w'.os=w.os∧w'.output=w.output∧w.drawn≤w'.drawn
theorem Fr.refl (D:Hp) (w:World):Fr D w w:=⟨Nat.le_refl _,fun _ _ _=>rfl,rfl,rfl,rfl,Nat.le_refl _⟩
def Post (K:Value→Hp→Prop) (D:Hp) (w:World):Ending→World→Prop:=fun e w'=>
 ∃v h',e=.returned v∧K v h'∧Sub h' w'∧Fr D w w'∧∀k,h' k≠none→D k=none→w.heap.size≤k
def isHid:Slot→Bool
 | .box _ | .lit _ _ | .mp _=>true
 | _=>false
def hidV (b:Nat):Slot→Value
 | .lit _ n=>.slice (some ⟨b,0,none⟩) n n
 | .mp _=>.map (some b)
 | _=>.pointer (some ⟨b,0,none⟩)
def hidC:Slot→List Value
 | .box cs=>cs
 | .lit cs _=>cs
 | _=>[]
def HidAt (w:World) (b:Nat) (el:TypeId):Slot→Prop
 | .mp m=>∃es clock,w.heap[b]?=some (.map es clock)∧es.toList.map (fun x=>(x.key,x.val))=m.map fun p=>(.int .i64 p.1,.bool p.2)
 | s=>w.heap[b]?=some (.cells (hidC s).toArray el (0,0))
def plainO:Obj→Prop
 | .cells ..=>True
 | .map ..=>True
 | _=>False
theorem HidAt.obj {w:World} {b:Nat} {el:TypeId} {s:Slot} (h:HidAt w b el s):∃o,plainO o∧w.heap[b]?=some o:=by
 cases s
 case mp m=>obtain ⟨es,c,h1,_⟩:=h; exact ⟨.map es c,trivial,h1⟩
 all_goals exact ⟨.cells _ _ _,trivial,h⟩
theorem HidAt.mono {w w':World} {b:Nat} {el:TypeId} {s:Slot} (h:HidAt w b el s) (hw:∀o,plainO o→w.heap[b]?=some o→w'.heap[b]?=some o):HidAt w' b el s:=by
 cases s
 case mp m=>obtain ⟨es,c,h1,h2⟩:=h; exact ⟨es,c,hw _ trivial h1,h2⟩
 all_goals exact hw _ trivial h
theorem HidAt.lt {w:World} {b:Nat} {el:TypeId} {s:Slot} (h:HidAt w b el s):b<w.heap.size:=by
 obtain ⟨o,_,h1⟩:=h.obj
 rcases Nat.lt_or_ge b w.heap.size with h' | h'
 · exact h'
 · rw [Array.getElem?_eq_none h'] at h1; cases h1
def Marks (N:Nat) (w:World):List Deferred→Prop
 | []=>True
 | d :: ds=>(∃r,d={ target:=.collected r,args:=#[] }∧N≤r∧w.heap[r]?=some (.deferred (some []))∧∀d'∈ds,d'≠d)∧Marks N w ds
theorem Marks.mono {N N':Nat} {w w':World} (hN:N'≤N) (hw:∀r:Nat,w.heap[r]?=some (.deferred (some []))→w'.heap[r]?=some (.deferred (some []))):∀{ds:List Deferred},Marks N w ds→Marks N' w' ds
 | [],_=>trivial
 | _ :: _,⟨⟨r,h1,h2,h3,h4⟩,h⟩=>⟨⟨r,h1,Nat.le_trans hN h2,hw r h3,h4⟩,Marks.mono hN hw h⟩
structure Base where
 D:Hp
 w:World
 nb:Nat:=0
structure Rel (C:Cfg) (B:Base) (e:Env) (h:Hp) (a:Act) (w:World):Prop where
 sub:Sub h w
 sz:a.tmps.size=C.n
 defers:Marks B.nb w a.defers
 fr:Fr B.D B.w w
 dom:∀k,h k≠none→B.D k=none→B.w.heap.size≤k
 vals:∀t v,e t=.val v→a.tmps[t]?=some v
 hid:∀t,isHid (e t)=true→C.loc t=true∧∃b el,a.tmps[t]?=some (hidV b (e t))∧HidAt w b el (e t)∧h b=none∧(B.w.heap.size≤b∨B.D b≠none)
 inj:∀t t' b,isHid (e t)=true→isHid (e t')=true→a.tmps[t]?=some (hidV b (e t))→a.tmps[t']?=some (hidV b (e t'))→t=t'
 refs:∀t off,e t=.ref off→∃cs b,e (C.rt t)=.box cs∧a.tmps[C.rt t]?=some (.pointer (some ⟨b,0,none⟩))∧a.tmps[t]?=some (.pointer (some ⟨b,off,none⟩))
 mrs:∀t,e t=.mr→t<C.n∧C.loc (C.rt t)=true∧memN (C.rt t) C.mapL=true∧a.tmps[t]?=a.tmps[C.rt t]?
section
variable {C : Cfg} {B : Base} {e : Env} {h : Hp} {a : Act} {w : World}
theorem beqF {t d:Nat} (hn:t≠d):Nat.beq t d=false:=by
 cases hb:Nat.beq t d with
 | false=>rfl
 | true=>exact absurd (Nat.eq_of_beq_eq_true hb) hn
theorem beqT (t:Nat):Nat.beq t t=true:=Nat.beq_refl t
@[simp] theorem Env.set_same (e:Env) (d:Nat) (s:Slot):e.set d s d=s:=by simp [Env.set]
theorem Env.set_ne {e:Env} {d t:Nat} {s:Slot} (hn:t≠d):e.set d s t=e t:=by simp [Env.set,beqF hn]
theorem zn3 {d:Nat} {v:Value} (hd:d<a.tmps.size):(a.put (some d) v).tmps[d]?=some v:=by
 simp [Act.put,hd]
theorem zb6 {d t:Nat} {v:Value} (hn:t≠d):(a.put (some d) v).tmps[t]?=a.tmps[t]?:=by
 simp [Act.put,Ne.symm hn]
theorem zn4 {d:Option Nat} {v:Value}:(a.put d v).tmps.size=a.tmps.size:=by cases d<;>simp [Act.put]
theorem zk4 {d:Option Nat} {v:Value}:(a.put d v).defers=a.defers:=by cases d<;>simp [Act.put]
theorem zn2 {b b':Nat} {s:Slot} (h:hidV b s=hidV b' s):b=b':=by
 cases s<;>simp [hidV] at h<;>exact h
theorem Rel.setVal (hR:Rel C B e h a w) {d:Nat} {v:Value} (hl:C.loc d=false) (hd:d<C.n):Rel C B (e.set d (.val v)) h (a.put (some d) v) w where
 sub:=hR.sub
 sz:=by rw [zn4]; exact hR.sz
 defers:=by rw [zk4]; exact hR.defers
 fr:=hR.fr
 dom:=hR.dom
 vals:=fun t u ht=>by
  by_cases htd:t=d
  · subst htd; rw [Env.set_same] at ht; cases ht; exact zn3 (by rw [hR.sz]; exact hd)
  · rw [Env.set_ne htd] at ht; rw [zb6 htd]; exact hR.vals t u ht
 hid:=fun t ht=>by
  by_cases htd:t=d
  · subst htd; rw [Env.set_same] at ht; cases ht
  · rw [Env.set_ne htd] at ht ⊢; rw [zb6 htd]; exact hR.hid t ht
 inj:=fun t t' b h1 h2 h3 h4=>by
  by_cases htd:t=d
  · subst htd; rw [Env.set_same] at h1; cases h1
  · by_cases htd':t'=d
    · subst htd'; rw [Env.set_same] at h2; cases h2
    · rw [Env.set_ne htd] at h1 h3; rw [Env.set_ne htd'] at h2 h4; rw [zb6 htd] at h3; rw [zb6 htd'] at h4
      exact hR.inj t t' b h1 h2 h3 h4
 refs:=fun t off ht=>by
  by_cases htd:t=d
  · subst htd; rw [Env.set_same] at ht; cases ht
  · rw [Env.set_ne htd] at ht
    obtain ⟨cs,b,h1,h2,h3⟩:=hR.refs t off ht
    have hr:C.rt t≠d:=fun hh=>by
     have:=(hR.hid (C.rt t) (by rw [h1]; rfl)).1
     rw [hh,hl] at this; cases this
    exact ⟨cs,b,by rw [Env.set_ne hr]; exact h1,by rw [zb6 hr]; exact h2,by rw [zb6 htd]; exact h3⟩
 mrs:=fun t ht=>by
  by_cases htd:t=d
  · subst htd; rw [Env.set_same] at ht; cases ht
  · rw [Env.set_ne htd] at ht
    obtain ⟨g0,g1,g2,g3⟩:=hR.mrs t ht
    have hr:C.rt t≠d:=fun hh=>by rw [hh,hl] at g1; cases g1
    exact ⟨g0,g1,g2,by rw [zb6 htd,zb6 hr]; exact g3⟩
theorem Rel.setRef (hR:Rel C B e h a w) {d b off:Nat} {cs:List Value} (hl:C.loc d=false) (hd:d<C.n) (hb:e (C.rt d)=.box cs)
 (hp:a.tmps[C.rt d]?=some (.pointer (some ⟨b,0,none⟩))):Rel C B (e.set d (.ref off)) h (a.put (some d) (.pointer (some ⟨b,off,none⟩))) w where
 sub:=hR.sub
 sz:=by rw [zn4]; exact hR.sz
 defers:=by rw [zk4]; exact hR.defers
 fr:=hR.fr
 dom:=hR.dom
 vals:=fun t u ht=>by
  by_cases htd:t=d
  · subst htd; rw [Env.set_same] at ht; cases ht
  · rw [Env.set_ne htd] at ht; rw [zb6 htd]; exact hR.vals t u ht
 hid:=fun t ht=>by
  by_cases htd:t=d
  · subst htd; rw [Env.set_same] at ht; cases ht
  · rw [Env.set_ne htd] at ht ⊢; rw [zb6 htd]; exact hR.hid t ht
 inj:=fun t t' b h1 h2 h3 h4=>by
  by_cases htd:t=d
  · subst htd; rw [Env.set_same] at h1; cases h1
  · by_cases htd':t'=d
    · subst htd'; rw [Env.set_same] at h2; cases h2
    · rw [Env.set_ne htd] at h1 h3; rw [Env.set_ne htd'] at h2 h4; rw [zb6 htd] at h3; rw [zb6 htd'] at h4
      exact hR.inj t t' b h1 h2 h3 h4
 refs:=fun t off' ht=>by
  have hrd:∀t',(∃cs,e t'=.box cs)→t'≠d:=fun t' ⟨cs,h1⟩ hh=>by
   have:=(hR.hid t' (by rw [h1]; rfl)).1
   rw [hh,hl] at this; cases this
  by_cases htd:t=d
  · subst htd; rw [Env.set_same] at ht; cases ht
    have hr:=hrd _ ⟨cs,hb⟩
    exact ⟨cs,b,by rw [Env.set_ne hr]; exact hb,by rw [zb6 hr]; exact hp,zn3 (by rw [hR.sz]; exact hd)⟩
  · rw [Env.set_ne htd] at ht
    obtain ⟨cs,b,h1,h2,h3⟩:=hR.refs t off' ht
    have hr:=hrd _ ⟨cs,h1⟩
    exact ⟨cs,b,by rw [Env.set_ne hr]; exact h1,by rw [zb6 hr]; exact h2,by rw [zb6 htd]; exact h3⟩
 mrs:=fun t ht=>by
  by_cases htd:t=d
  · subst htd; rw [Env.set_same] at ht; cases ht
  · rw [Env.set_ne htd] at ht
    obtain ⟨g0,g1,g2,g3⟩:=hR.mrs t ht
    have hr:C.rt t≠d:=fun hh=>by rw [hh,hl] at g1; cases g1
    exact ⟨g0,g1,g2,by rw [zb6 htd,zb6 hr]; exact g3⟩
theorem Rel.setMr (hR:Rel C B e h a w) {d r:Nat} {v:Value} (hl:C.loc d=false) (hd:d<C.n) (hr:C.rt d=r) (hlr:C.loc r=true) (hm:memN r C.mapL=true) (hp:a.tmps[r]?=some v):Rel C B (e.set d .mr) h (a.put (some d) v) w where
 sub:=hR.sub
 sz:=by rw [zn4]; exact hR.sz
 defers:=by rw [zk4]; exact hR.defers
 fr:=hR.fr
 dom:=hR.dom
 vals:=fun t u ht=>by
  by_cases htd:t=d
  · subst htd; rw [Env.set_same] at ht; cases ht
  · rw [Env.set_ne htd] at ht; rw [zb6 htd]; exact hR.vals t u ht
 hid:=fun t ht=>by
  by_cases htd:t=d
  · subst htd; rw [Env.set_same] at ht; cases ht
  · rw [Env.set_ne htd] at ht ⊢; rw [zb6 htd]; exact hR.hid t ht
 inj:=fun t t' b h1 h2 h3 h4=>by
  by_cases htd:t=d
  · subst htd; rw [Env.set_same] at h1; cases h1
  · by_cases htd':t'=d
    · subst htd'; rw [Env.set_same] at h2; cases h2
    · rw [Env.set_ne htd] at h1 h3; rw [Env.set_ne htd'] at h2 h4; rw [zb6 htd] at h3; rw [zb6 htd'] at h4
      exact hR.inj t t' b h1 h2 h3 h4
 refs:=fun t off ht=>by
  by_cases htd:t=d
  · subst htd; rw [Env.set_same] at ht; cases ht
  · rw [Env.set_ne htd] at ht
    obtain ⟨cs,b,h1,h2,h3⟩:=hR.refs t off ht
    have hr:C.rt t≠d:=fun hh=>by
     have:=(hR.hid (C.rt t) (by rw [h1]; rfl)).1
     rw [hh,hl] at this; cases this
    exact ⟨cs,b,by rw [Env.set_ne hr]; exact h1,by rw [zb6 hr]; exact h2,by rw [zb6 htd]; exact h3⟩
 mrs:=fun t ht=>by
  have hrd:r≠d:=fun hh=>by rw [hh,hl] at hlr; cases hlr
  by_cases htd:t=d
  · subst htd; exact ⟨hd,by rw [hr]; exact hlr,by rw [hr]; exact hm,by rw [hr,zn3 (by rw [hR.sz]; exact hd),zb6 hrd]; exact hp.symm⟩
  · rw [Env.set_ne htd] at ht
    obtain ⟨g0,g1,g2,g3⟩:=hR.mrs t ht
    have hr:C.rt t≠d:=fun hh=>by rw [hh,hl] at g1; cases g1
    exact ⟨g0,g1,g2,by rw [zb6 htd,zb6 hr]; exact g3⟩
theorem zcu {o:Obj} {b:Nat} (hb:w.heap[b]?=some o):b<w.heap.size:=by
 rcases Nat.lt_or_ge b w.heap.size with h' | h'
 · exact h'
 · rw [Array.getElem?_eq_none h'] at hb; cases hb
theorem Rel.step (hR:Rel C B e h a w) {h':Hp} {w':World} (hs:Sub h' w') (hf:Fr h w w') (hd:∀k,h' k≠none→h k=none→w.heap.size≤k):Rel C B e h' a w' where
 sub:=hs
 sz:=hR.sz
 defers:=hR.defers.mono (Nat.le_refl _) fun r hr=>by
  have hh:h r=none:=by
   cases hh:h r with
   | none=>rfl
   | some b=>rw [hR.sub r b hh] at hr; cases hr
  rw [hf.2.1 r (zcu hr) hh]; exact hr
 fr:=by
  obtain ⟨a1,a2,a3,a4,a5,a6⟩:=hR.fr
  obtain ⟨b1,b2,b3,b4,b5,b6⟩:=hf
  refine ⟨Nat.le_trans a1 b1,fun k hk hD=>?_,b3.trans a3,b4.trans a4,b5.trans a5,Nat.le_trans a6 b6⟩
  have hk':h k=none:=by
   cases hh:h k with
   | none=>rfl
   | some x=>have:=hR.dom k (by simp [hh]) hD; omega
  rw [b2 k (by omega) hk',a2 k hk hD]
 dom:=fun k hk hD=>by
  cases hh:h k with
  | none=>have:=hd k hk hh; have:=hR.fr.1; omega
  | some x=>exact hR.dom k (by simp [hh]) hD
 vals:=hR.vals
 hid:=fun t ht=>by
  obtain ⟨h1,b,el,h2,h3,h4,h5⟩:=hR.hid t ht
  have hlt:=h3.lt
  refine ⟨h1,b,el,h2,h3.mono fun o _ ho=>by rw [hf.2.1 b hlt h4]; exact ho,?_,h5⟩
  cases hh:h' b with
  | none=>rfl
  | some x=>have:=hd b (by simp [hh]) h4; omega
 inj:=hR.inj
 refs:=hR.refs
 mrs:=hR.mrs
theorem Env.alloc_same (rt:Nat→Nat) (e:Env) (d:Nat) (s:Slot):e.alloc rt d s d=s:=by simp [Env.alloc]
theorem Env.alloc_ne {rt:Nat→Nat} {e:Env} {d t:Nat} {s:Slot} (hn:t≠d) (hx:∀o,e t≠.ref o):e.alloc rt d s t=e t:=by
 unfold Env.alloc; rw [beqF hn]
 show (match e t with | .ref o=>bif Nat.beq (rt t) d then Slot.junk else .ref o | x=>x)=e t
 cases he:e t with
 | ref o=>exact absurd he (hx o)
 | _=>rfl
theorem Env.alloc_val {rt:Nat→Nat} {e:Env} {d t:Nat} {s x:Slot} (hn:t≠d) (hx:e.alloc rt d s t=x) (hj:x≠.junk):e t=x∧(∀o,x=.ref o→rt t≠d):=by
 unfold Env.alloc at hx; simp only [beqF hn,cond_false] at hx
 cases he:e t with
 | ref o=>
   rw [he] at hx; simp only at hx
   by_cases hr:rt t=d
   · have:Nat.beq (rt t) d=true:=by simp [hr]
     rw [this] at hx; simp at hx; exact absurd hx.symm hj
   · rw [beqF hr] at hx; simp at hx; exact ⟨hx,fun _ _=>hr⟩
 | _=>rw [he] at hx; simp only at hx; exact ⟨hx,fun o ho=>by rw [ho] at hx; cases hx⟩
theorem zlp {o:Obj} {k:Nat} (hk:k<w.heap.size):(w.alloc o).heap[k]?=w.heap[k]?:=by
 show (w.heap.push o)[k]?=_
 rw [Array.getElem?_push,if_neg (Nat.ne_of_lt hk)]
theorem zlo {o:Obj}:(w.alloc o).heap[w.heap.size]?=some o:=by
 show (w.heap.push o)[w.heap.size]?=_
 simp
theorem Fr.alloc (D:Hp) (w:World) (o:Obj):Fr D w (w.alloc o):=
 ⟨by simp,fun k hk _=>zlp hk,rfl,rfl,rfl,Nat.le_refl _⟩
theorem Sub.alloc (hs:Sub h w) (o:Obj):Sub h (w.alloc o):=fun k b hk=>by rw [zlp (hs.lt hk)]; exact hs k b hk
theorem Rel.allocHid (hR:Rel C B e h a w) {d:Nat} {s:Slot} {el:TypeId} {o:Obj} (hl:C.loc d=true) (hd:d<C.n) (hs:isHid s=true) (hat:HidAt (w.alloc o) w.heap.size el s) (hnm:∀t,e t=.mr→C.rt t≠d) :
 Rel C B (e.alloc C.rt d s) h (a.put (some d) (hidV w.heap.size s)) (w.alloc o) where
 sub:=hR.sub.alloc _
 sz:=by rw [zn4]; exact hR.sz
 defers:=by rw [zk4]; exact hR.defers.mono (Nat.le_refl _) fun r hr=>by rw [zlp (zcu hr)]; exact hr
 fr:=(hR.step (hR.sub.alloc _) (Fr.alloc h w _) (fun k h1 h2=>absurd h2 h1)).fr
 dom:=hR.dom
 vals:=fun t u ht=>by
  by_cases htd:t=d
  · subst htd; rw [Env.alloc_same] at ht; subst ht; cases hs
  · rw [zb6 htd]; exact hR.vals t u (Env.alloc_val htd ht (by simp)).1
 hid:=fun t ht=>by
  by_cases htd:t=d
  · subst htd
    rw [Env.alloc_same]
    refine ⟨hl,w.heap.size,el,zn3 (by rw [hR.sz]; exact hd),hat,?_,.inl hR.fr.1⟩
    exact hR.sub.fresh (Nat.le_refl _)
  · have he:=Env.alloc_val htd (rfl:e.alloc C.rt d s t=_) (by intro hh; rw [hh] at ht; cases ht)
    rw [←he.1] at ht ⊢
    obtain ⟨h1,b,el',h2,h3,h4,h5⟩:=hR.hid t ht
    exact ⟨h1,b,el',by rw [zb6 htd]; exact h2,h3.mono fun o _ ho=>by rw [zlp (zcu ho)]; exact ho,h4,h5⟩
 inj:=fun t t' b h1 h2 h3 h4=>by
  have old:∀t b,t≠d→isHid (e.alloc C.rt d s t)=true→(a.put (some d) (hidV w.heap.size s)).tmps[t]?=some (hidV b (e.alloc C.rt d s t)) →
   isHid (e t)=true∧a.tmps[t]?=some (hidV b (e t))∧b<w.heap.size:=fun t b htd i1 i2=>by
   have he:=Env.alloc_val htd (rfl:e.alloc C.rt d s t=_) (by intro hh; rw [hh] at i1; cases i1)
   rw [←he.1] at i1 i2; rw [zb6 htd] at i2
   obtain ⟨_,b',el',j2,j3,_,_⟩:=hR.hid t i1
   rw [i2] at j2
   have:=zn2 (Option.some.inj j2)
   subst this
   exact ⟨i1,i2,j3.lt⟩
  have new:∀b,(a.put (some d) (hidV w.heap.size s)).tmps[d]?=some (hidV b (e.alloc C.rt d s d))→b=w.heap.size:=fun b i2=>by
   rw [zn3 (by rw [hR.sz]; exact hd),Env.alloc_same] at i2
   exact (zn2 (Option.some.inj i2)).symm
  by_cases htd:t=d
  · by_cases htd':t'=d
    · rw [htd,htd']
    · subst htd; have:=new b h3; have:=(old t' b htd' h2 h4).2.2; omega
  · by_cases htd':t'=d
    · subst htd'; have:=new b h4; have:=(old t b htd h1 h3).2.2; omega
    · obtain ⟨i1,i2,_⟩:=old t b htd h1 h3
      obtain ⟨j1,j2,_⟩:=old t' b htd' h2 h4
      exact hR.inj t t' b i1 j1 i2 j2
 refs:=fun t off ht=>by
  by_cases htd:t=d
  · subst htd; rw [Env.alloc_same] at ht; subst ht; cases hs
  · obtain ⟨he,hr⟩:=Env.alloc_val htd ht (by simp)
    have hr:=hr off rfl
    obtain ⟨cs,b,h1,h2,h3⟩:=hR.refs t off he
    refine ⟨cs,b,?_,by rw [zb6 hr]; exact h2,by rw [zb6 htd]; exact h3⟩
    rw [Env.alloc_ne hr (by intro o ho; rw [h1] at ho; cases ho)]; exact h1
 mrs:=fun t ht=>by
  by_cases htd:t=d
  · subst htd; rw [Env.alloc_same] at ht; subst ht; cases hs
  · obtain ⟨he,_⟩:=Env.alloc_val htd ht (by simp)
    obtain ⟨g0,g1,g2,g3⟩:=hR.mrs t he
    exact ⟨g0,g1,g2,by rw [zb6 htd,zb6 (hnm t he)]; exact g3⟩
theorem Rel.allocJunk (hR:Rel C B e h a w) {d:Nat} {v:Value} (hl:C.loc d=true) (hnm:∀t,e t=.mr→C.rt t≠d):Rel C B (e.alloc C.rt d .junk) h (a.put (some d) v) w where
 sub:=hR.sub
 sz:=by rw [zn4]; exact hR.sz
 defers:=by rw [zk4]; exact hR.defers
 fr:=hR.fr
 dom:=hR.dom
 vals:=fun t u ht=>by
  by_cases htd:t=d
  · subst htd; rw [Env.alloc_same] at ht; cases ht
  · rw [zb6 htd]; exact hR.vals t u (Env.alloc_val htd ht (by simp)).1
 hid:=fun t ht=>by
  by_cases htd:t=d
  · subst htd; rw [Env.alloc_same] at ht; cases ht
  · have he:=Env.alloc_val htd (rfl:e.alloc C.rt d .junk t=_) (by intro hh; rw [hh] at ht; cases ht)
    rw [←he.1] at ht ⊢
    rw [zb6 htd]; exact hR.hid t ht
 inj:=fun t t' b h1 h2 h3 h4=>by
  by_cases htd:t=d
  · subst htd; rw [Env.alloc_same] at h1; cases h1
  · by_cases htd':t'=d
    · subst htd'; rw [Env.alloc_same] at h2; cases h2
    · have he:=Env.alloc_val htd (rfl:e.alloc C.rt d .junk t=_) (by intro hh; rw [hh] at h1; cases h1)
      have he':=Env.alloc_val htd' (rfl:e.alloc C.rt d .junk t'=_) (by intro hh; rw [hh] at h2; cases h2)
      rw [←he.1] at h1 h3; rw [←he'.1] at h2 h4; rw [zb6 htd] at h3; rw [zb6 htd'] at h4
      exact hR.inj t t' b h1 h2 h3 h4
 refs:=fun t off ht=>by
  by_cases htd:t=d
  · subst htd; rw [Env.alloc_same] at ht; cases ht
  · obtain ⟨he,hr⟩:=Env.alloc_val htd ht (by simp)
    have hr:=hr off rfl
    obtain ⟨cs,b,h1,h2,h3⟩:=hR.refs t off he
    refine ⟨cs,b,?_,by rw [zb6 hr]; exact h2,by rw [zb6 htd]; exact h3⟩
    rw [Env.alloc_ne hr (by intro o ho; rw [h1] at ho; cases ho)]; exact h1
 mrs:=fun t ht=>by
  by_cases htd:t=d
  · subst htd; rw [Env.alloc_same] at ht; cases ht
  · obtain ⟨he,_⟩:=Env.alloc_val htd ht (by simp)
    obtain ⟨g0,g1,g2,g3⟩:=hR.mrs t he
    exact ⟨g0,g1,g2,by rw [zb6 htd,zb6 (hnm t he)]; exact g3⟩
theorem Rel.setHid (hR:Rel C B e h a w) {s b:Nat} {x y:Slot} {el:TypeId} (hb:e s=x) (hx:isHid x=true) (hy:isHid y=true) (hxy:∀b,hidV b y=hidV b x) (hbx:∀cs,x=.box cs→∃cs',y=.box cs') (hyr:∀o,y≠.ref o)
 (hp:a.tmps[s]?=some (hidV b x)) {w':World}
 (hn:HidAt w' b el y) (ho:∀k,k≠b→w'.heap[k]?=w.heap[k]?) (hz:w'.heap.size=w.heap.size)
 (ht:w'.tape=w.tape) (hos:w'.os=w.os) (hout:w'.output=w.output) (hdr:w.drawn≤w'.drawn):Rel C B (e.set s y) h a w':=by
 obtain ⟨hl,b',el',h2,h3,h4,h5⟩:=hR.hid s (by rw [hb]; exact hx)
 rw [hb] at h2 h3
 have hbb:b'=b:=by rw [hp] at h2; exact (zn2 (Option.some.inj h2)).symm
 subst hbb
 have hsub:Sub h w':=fun k x hk=>by
  have hne:k≠b':=fun hh=>by rw [hh,h4] at hk; cases hk
  rw [ho k hne]; exact hR.sub k x hk
 have hval:∀v,y≠.val v:=fun v hh=>by rw [hh] at hy; cases hy
 refine ⟨hsub,hR.sz,hR.defers.mono (Nat.le_refl _) (fun r hr=>?_),?_,hR.dom,?_,?_,?_,?_,?_⟩
 · rw [ho r (fun hh=>by
    subst hh
    obtain ⟨o,ho1,ho2⟩:=h3.obj
    rw [hr] at ho2; cases ho2; exact ho1)]; exact hr
 · obtain ⟨a1,a2,a3,a4,a5,a6⟩:=hR.fr
   refine ⟨by omega,fun k hk hD=>?_,ht.trans a3,hos.trans a4,hout.trans a5,Nat.le_trans a6 hdr⟩
   have hne:k≠b':=fun hh=>by
    subst hh
    rcases h5 with h5 | h5
    · omega
    · exact h5 hD
   rw [ho k hne]; exact a2 k hk hD
 · intro t u htu
   by_cases hts:t=s
   · subst hts; rw [Env.set_same] at htu; exact absurd htu (hval u)
   · rw [Env.set_ne hts] at htu; exact hR.vals t u htu
 · intro t hh
   by_cases hts:t=s
   · subst hts; rw [Env.set_same]; exact ⟨hl,b',el,by rw [hxy]; exact hp,hn,h4,h5⟩
   · rw [Env.set_ne hts] at hh ⊢
     obtain ⟨i1,c,el2,i2,i3,i4,i5⟩:=hR.hid t hh
     refine ⟨i1,c,el2,i2,i3.mono fun o _ hoo=>?_,i4,i5⟩
     rw [ho c ?_]; exact hoo
     intro hcb; subst hcb
     exact hts (hR.inj t s c hh (by rw [hb]; exact hx) i2 (by rw [hb]; exact hp))
 · intro t t' c i1 i2 i3 i4
   have back:∀t c,isHid (e.set s y t)=true→a.tmps[t]?=some (hidV c (e.set s y t))→isHid (e t)=true∧a.tmps[t]?=some (hidV c (e t)):=fun t c j1 j2=>by
    by_cases hts:t=s
    · subst hts; rw [Env.set_same] at j1 j2; rw [hb]; exact ⟨hx,by rw [←hxy]; exact j2⟩
    · rw [Env.set_ne hts] at j1 j2; exact ⟨j1,j2⟩
   obtain ⟨k1,k2⟩:=back t c i1 i3
   obtain ⟨l1,l2⟩:=back t' c i2 i4
   exact hR.inj t t' c k1 l1 k2 l2
 · intro t off hto
   have hts:t≠s:=fun hh=>by subst hh; rw [Env.set_same] at hto; exact absurd hto (hyr off)
   rw [Env.set_ne hts] at hto
   obtain ⟨cs2,c,i1,i2,i3⟩:=hR.refs t off hto
   by_cases hrs:C.rt t=s
   · obtain ⟨cs',hcs⟩:=hbx cs2 (by rw [←hb,←hrs]; exact i1)
     exact ⟨cs',c,by rw [hrs,Env.set_same]; exact hcs,i2,i3⟩
   · exact ⟨cs2,c,by rw [Env.set_ne hrs]; exact i1,i2,i3⟩
 · intro t hto
   have hts:t≠s:=fun hh=>by subst hh; rw [Env.set_same] at hto; rw [hto] at hy; cases hy
   rw [Env.set_ne hts] at hto
   exact hR.mrs t hto
theorem Rel.setBox (hR:Rel C B e h a w) {s b:Nat} {cs cs':List Value} {el:TypeId} (hb:e s=.box cs) (hp:a.tmps[s]?=some (.pointer (some ⟨b,0,none⟩))) {w':World}
 (hn:w'.heap[b]?=some (.cells cs'.toArray el (0,0))) (ho:∀k,k≠b→w'.heap[k]?=w.heap[k]?) (hz:w'.heap.size=w.heap.size)
 (ht:w'.tape=w.tape) (hos:w'.os=w.os) (hout:w'.output=w.output) (hdr:w.drawn≤w'.drawn):Rel C B (e.set s (.box cs')) h a w':=
 hR.setHid (y:=.box cs') (el:=el) hb rfl rfl (fun _=>rfl) (fun _ _=>⟨_,rfl⟩) (fun _ hh=>by cases hh) hp hn ho hz ht hos hout hdr
theorem Rel.setSame (hR:Rel C B e h a w) {d:Nat} {s:Slot} (hs:e d=s):e.set d s=e:=by
 funext t; by_cases ht:t=d
 · subst ht; rw [Env.set_same,hs]
 · rw [Env.set_ne ht]
end
end Den
end

section
namespace Den
open Go
def setBlk (w:World) (b:Nat) (o:Obj):World:={ w with heap:=w.heap.setIfInBounds b o }
section
variable {P : Program} {w : World}
theorem zj3 {b:Nat} {o:Obj}:(setBlk w b o).heap.size=w.heap.size:=by simp [setBlk]
theorem zhj {b:Nat} {o:Obj} (h:b<w.heap.size):(setBlk w b o).heap[b]?=some o:=by simp [setBlk,h]
theorem zif {b k:Nat} {o:Obj} (h:k≠b):(setBlk w b o).heap[k]?=w.heap[k]?:=by simp [setBlk,Ne.symm h]
theorem zw1 {b:Nat} {o o':Obj}:setBlk (setBlk w b o) b o'=setBlk w b o':=by
 simp [setBlk]
theorem za10 {b:Nat} {o:Obj} (h:w.heap[b]?=some o):setBlk w b o=w:=by
 have hlt:=zcu h
 unfold setBlk
 have:w.heap.setIfInBounds b o=w.heap:=by
  apply Array.ext_getElem?
  intro i
  rw [Array.getElem?_setIfInBounds]
  by_cases hi:b=i
  · subst hi; simp only [if_true,hlt]; exact h.symm
  · simp [hi]
 rw [this]
theorem zof {b off:Nat} {c:Array Value} {el:TypeId} {fz:Nat×Nat} {v:Value} (h:w.heap[b]?=some (.cells c el fz)) :
 w.setCell ⟨b,off,none⟩ v=setBlk w b (.cells (c.setIfInBounds off v) el fz):=by
 have hlt:=zcu h
 unfold World.setCell setBlk
 have:∀f:Obj→Obj,w.heap.modify b f=w.heap.setIfInBounds b (f (.cells c el fz)):=by
  intro f
  apply Array.ext_getElem?
  intro i
  rw [Array.getElem?_setIfInBounds,Array.getElem?_modify]
  by_cases hi:b=i
  · subst hi; simp only [if_true,hlt,h,Option.map_some]
  · simp [hi]
 simp [this]
theorem zg2 {b off i:Nat}:(⟨b,off,none⟩:Addr).add i=⟨b,off+i,none⟩:=by
 unfold Addr.add; by_cases h:i=0<;>simp [h]
theorem zaa7 {v:Value} (h:Value.leaf v=true):v.oneCell'=true:=by cases v<;>simp_all [Value.leaf,Value.oneCell']
theorem za11 {c:List Value} {off:Nat} {v:Value} {rest:List Value} (h:off<c.length) :
 splice (c.set off v) (off+1) rest=splice c off (v :: rest):=by
 unfold splice
 have h1:(c.set off v).take (off+1)=c.take off++[v]:=by
  rw [List.take_succ_eq_append_getElem (by simpa using h)]
  have:(c.set off v).take off=c.take off:=by rw [List.take_set_of_le (Nat.le_refl _)]
  simp [this]
 have h2:(c.set off v).drop (off+1+rest.length)=c.drop (off+(v :: rest).length):=by
  rw [List.drop_set_of_lt (by omega)]; simp; congr 1; omega
 rw [h1,h2]; simp
theorem za3n {c:List Value} {off:Nat}:splice c off []=c:=by simp [splice]
theorem ziy:∀{vs:List Value} {b off i:Nat} {c:Array Value} {el:TypeId} {w:World},
 w.heap[b]?=some (.cells c el (0,0))→off+i+vs.length≤c.size→vs.all Value.leaf=true →
 (storeCells ⟨b,off,none⟩ vs i).run P w=.ok () (setBlk w b (.cells (splice c.toList (off+i) vs).toArray el (0,0)))
 | [],b,off,i,c,el,w,h,_,_=>by simp [storeCells,za3n,za10 h]
 | v :: rest,b,off,i,c,el,w,h,hlen,hl=>by
   simp only [List.all_cons,Bool.and_eq_true] at hl
   simp only [List.length_cons] at hlen
   have hc:w.cell? ⟨b,off+i,none⟩=some c[off+i]:=by
    unfold World.cell?; simp only [h]; simp [show off+i<c.size by omega]
   have hf:w.frozen? ⟨b,off+i,none⟩=false:=by
    unfold World.frozen?; simp only [h]; simp
   simp only [storeCells,Sem.run_bind,zg2,run_store P w _ v .plain (zaa7 hl.1),hc,hf,zof h]
   simp only [Bool.false_eq_true,if_false,Result.andThen_ok]
   have hn:=zhj (w:=w) (o:=.cells (c.setIfInBounds (off+i) v) el (0,0)) (zcu h)
   rw [ziy hn (by simp; omega) hl.2,zw1]
   congr 4
   have:=za11 (c:=c.toList) (v:=v) (rest:=rest) (show off+i<c.toList.length by simp; omega)
   rw [←this]
   simp [Nat.add_assoc]
theorem zkp:∀{n:Nat} {b off i:Nat} {c:List Value} {el:TypeId} {fz:Nat×Nat} {acc:Array Value},
 w.heap[b]?=some (.cells c.toArray el fz)→off+i+n≤c.length →
 (loadCellsFrom ⟨b,off,none⟩ i n acc).run P w=.ok (acc++((c.drop (off+i)).take n).toArray) w
 | 0,b,off,i,c,el,fz,acc,h,hl=>by simp [loadCellsFrom]
 | n+1,b,off,i,c,el,fz,acc,h,hl=>by
   have hc:w.cell? ⟨b,off+i,none⟩=some c[off+i]:=by
    unfold World.cell?; simp only [h]; simp [show off+i<c.length by omega]
   simp only [loadCellsFrom,Sem.run_bind,zg2,run_load,hc,Result.andThen_ok]
   rw [zkp h (by omega)]
   congr 1
   have:(c.drop (off+i)).take (n+1)=c[off+i] :: (c.drop (off+(i+1))).take n:=by
    rw [List.drop_eq_getElem_cons (show off+i<c.length by omega),List.take_succ_cons]; rfl
   rw [this]; simp
theorem zpm {t:TypeId} {cs:List Value} {off b:Nat} {el:TypeId} {fz:Nat×Nat} {K:Value→Prop}
 (hb:w.heap[b]?=some (.cells cs.toArray el fz)) (hk:partT P t cs off K):∃v,K v∧(loadVar t ⟨b,off,none⟩).run P w=.ok v w:=by
 unfold partT at hk
 split at hk
 · exact hk.elim
 · rename_i hagg
   split at hk
   · rename_i hlen
     have hlen:=Nat.le_of_ble_eq_true hlen
     refine ⟨_,hk,?_⟩
     have hi:∃i,P.info? t=some i:=by
      cases hd:P.underlying t with
      | none=>simp [isAgg?,hd] at hagg
      | some d=>exact zi2 hd
     obtain ⟨i,hi⟩:=hi
     rw [zbx hi] at hlen ⊢
     simp only [loadVar,Sem.run_bind,zjm hagg,Result.andThen_ok,if_true,zbb hi,loadCells]
     rw [zkp hb (by omega)]
     simp
   · exact hk.elim
 · rename_i hagg
   split at hk
   · rename_i v hv
     refine ⟨_,hk,?_⟩
     have hc:w.cell? ⟨b,off,none⟩=some v:=by
      unfold World.cell?; simp only [hb]; simpa using hv
     simp [loadVar,zjm hagg,hc]
   · exact hk.elim
theorem ztm {t:TypeId} {cs:List Value} {off:Nat} {K:Value→Prop} (hk:partT P t cs off K) :
 ∃v,K v∧(part t cs.toArray off).run P w=.ok v w:=by
 unfold partT at hk
 split at hk
 · exact hk.elim
 · rename_i hagg
   split at hk
   · rename_i hlen
     refine ⟨_,hk,?_⟩
     have hi:∃i,P.info? t=some i:=by
      cases hd:P.underlying t with
      | none=>simp [isAgg?,hd] at hagg
      | some d=>exact zi2 hd
     obtain ⟨i,hi⟩:=hi
     rw [zbx hi]
     simp only [part,Sem.run_bind,zjm hagg,Result.andThen_ok,if_true,zbb hi,Sem.run_pure]
     congr 2
     simp
   · exact hk.elim
 · rename_i hagg
   split at hk
   · rename_i v hv
     exact ⟨_,hk,by simp [part,zjm hagg,hv]⟩
   · exact hk.elim
theorem zjt {t:TypeId} {K:List Value→Prop} (hk:zeroC P t K) :
 ∃i z,P.info? t=some i∧i.zero=some z∧K z.cells.toList∧∀w,(zeroValue t).run P w=.ok z w:=by
 unfold zeroC at hk
 split at hk
 · rename_i i hi
   split at hk
   · rename_i z hz
     exact ⟨i,z,hi,hz,hk,fun w=>by simp [zeroValue,typeInfo,hi,hz]⟩
   · exact hk.elim
 · exact hk.elim
theorem zgs {t:TypeId} {K:TypeId→Prop} (hk:elemOf? P t K):∃el i,P.underlying t=some (.slice el)∧P.info? el=some i∧K el:=by
 unfold elemOf? at hk
 split at hk
 · rename_i el he
   split at hk
   · rename_i hi
     obtain ⟨i,hi⟩:=Option.isSome_iff_exists.1 hi
     exact ⟨el,i,he,hi,hk⟩
   · exact hk.elim
 · exact hk.elim
theorem zr9 {t:TypeId} {p:Prop} (hk:okT P t p):(∃i,P.info? t=some i)∧p:=by
 unfold okT at hk
 split at hk
 · rename_i hi; exact ⟨Option.isSome_iff_exists.1 hi,hk⟩
 · exact hk.elim
theorem zf2 {el:TypeId} {cs:Array Value}:(newRow el cs).run P w=.ok ⟨w.heap.size,0,none⟩ (w.alloc (.cells cs el (0,0))):=by
 simp [newRow]
theorem zl6 {h:Hp} (hs:Sub h w) {a:Addr}:∀{n:Nat} {l:List Value},cellsAt h a n=some l→l.length=n∧∀i,i<n→w.cell? (a.add i)=l[i]?
 | 0,l,e=>by simp only [cellsAt,Option.some.injEq] at e; subst e; simp
 | n+1,l,e=>by
   unfold cellsAt at e
   cases h1:cellsAt h a n with
   | none=>rw [h1] at e; cases e
   | some l1=>
     rw [h1] at e; simp only at e
     cases h2:h.cell (a.add n) with
     | none=>rw [h2] at e; cases e
     | some v=>
       rw [h2] at e; simp only [Option.some.injEq] at e; subst e
       obtain ⟨i1,i2⟩:=zl6 hs h1
       refine ⟨by simp [i1],fun i hi=>?_⟩
       by_cases hin:i=n
       · subst hin; rw [hs.cell h2]; simp [←i1]
       · rw [i2 i (by omega),List.getElem?_append_left (by omega)]
theorem zow {a:Addr} {l:List Value}:∀{n i:Nat} {acc:Array Value},i+n=l.length→(∀j,j<l.length→w.cell? (a.add j)=l[j]?) →
 (loadCellsFrom a i n acc).run P w=.ok (acc++(l.drop i).toArray) w
 | 0,i,acc,hl,_=>by
   have:l.drop i=[]:=List.drop_eq_nil_of_le (by omega)
   simp [loadCellsFrom,this]
 | n+1,i,acc,hl,hc=>by
   have hi:i<l.length:=by omega
   have h1:w.cell? (a.add i)=some l[i]:=by rw [hc i hi]; simp
   simp only [loadCellsFrom,Sem.run_bind,run_load,h1,Result.andThen_ok]
   rw [zow (by omega) hc,List.drop_eq_getElem_cons hi]
   simp
theorem zew {h:Hp} (hs:Sub h w) {a:Addr} {n:Nat} {l:List Value} (e:cellsAt h a n=some l):(loadCells a n).run P w=.ok l.toArray w:=by
 obtain ⟨h1,h2⟩:=zl6 hs e
 unfold loadCells
 rw [zow (l:=l) (by omega) (fun j hj=>h2 j (by omega))]
 simp
theorem za82 (n:Nat) (z:List Value):repl (n+1) z=z++repl n z:=by simp [repl,List.replicate_succ]
theorem zoa (n:Nat) (z:List Value):(repl n z).length=n*z.length:=by simp [repl,List.length_flatten,List.sum_replicate_nat]
theorem zyq {zero:Array Value}:∀{n i:Nat},i<n*zero.size→(repl n zero.toList)[i]?=some (zero[i % zero.size]!)
 | 0,i,h=>by omega
 | n+1,i,h=>by
   rw [za82]
   by_cases hi:i<zero.size
   · rw [List.getElem?_append_left (by simpa using hi)]
     simp [Nat.mod_eq_of_lt hi,hi]
   · have h':i-zero.size<n*zero.size:=by rw [Nat.succ_mul] at h; omega
     rw [List.getElem?_append_right (by simpa using hi),Array.length_toList,zyq h',Nat.mod_eq_sub_mod (show i≥zero.size by omega)]
theorem ziu {zero:Array Value} {n:Nat}:(Array.range (n*zero.size)).map (fun i=>zero[i % zero.size]!)=(repl n zero.toList).toArray:=by
 apply Array.ext_getElem?
 intro i
 by_cases hi:i<n*zero.size
 · simp [zyq hi,hi]
 · have hl:=zoa n zero.toList
   simp only [Array.length_toList] at hl
   rw [Array.getElem?_eq_none (by simp; omega),Array.getElem?_eq_none (by simp; omega)]
theorem zv4 (m:Nat) (hm:257≤m):∀(r c:Nat),c≤2*m→Builtin.growBy m r c≤2*m
 | 0,c,h=>h
 | r+1,c,h=>by
   unfold Builtin.growBy
   split
   · exact h
   · exact zv4 m hm r _ (by omega)
theorem zpk {m o:Nat} (h:o<m):Builtin.nextslicecap m o≤2*m:=by
 unfold Builtin.nextslicecap
 split
 · omega
 · split
   · omega
   · exact zv4 m (by omega) 4 o (by omega)
end
end Den
end

section
namespace Den
open Go
variable {ro : Option Nat} {nn : Nat}
abbrev wideR (r:Option Nat):Fence:={ Fence.wide with round:=r }
theorem zvt {P:Program} {f:FuncId} {args:Array Value} {w:World} {R:Ending→World→Prop} (h:Calls P f args w R):CallsIn (wideR ro) nn P f args w R:=
 callsIn_wide (n:=nn).2 h
theorem zc7 {P:Program} {c:Code} {Q Q':Exit→Act→World→Prop} {a:Act} {w:World} (hq:∀e a w,Q e a w→Q' e a w)
 (h:c.wpIn (wideR ro) nn P Q a w):c.wpIn (wideR ro) nn P Q' a w:=wpIn_mono h hq
def Up.dst:Up→Option Nat
 | .none=>Option.none
 | .set d _=>some d
 | .alloc d _=>some d
def CallLike (T:(Value→Hp→Prop)→Hp→Prop):Prop:=
 (∃(α:Type) (G:(α→Hp→Prop)→Hp→Prop) (up:α→Value),∀K h,T K h↔callP G (fun r=>K (up r)) h)∨∀K h,¬T K h
def FnOK (P:Program) (g:FuncId) (F:FSem):Prop:=
 (∃fn,P.funcs[g]?=some fn∧fn.body.isNone=false∧(fn.name == "runtime.NumGoroutine")=false) ∧
 (∀args K h w,Sub h w→F args K h→Calls P g args.toArray w (Post K h w))
def TabOK (C:Cfg):List (Nat×FSem)→Prop
 | []=>True
 | (g,F) :: r=>FnOK C.P g F∧(memN g C.mutL=false→∀args,CallLike (F args))∧TabOK C r
theorem TabOK.get {C:Cfg}:∀{l:List (Nat×FSem)},TabOK C l→∀g,(FnOK C.P g (lookF g l)∧(memN g C.mutL=false→∀args,CallLike (lookF g l args)))∨(∀args K h,¬lookF g l args K h)
 | [],_,g=>.inr fun _ _ _ hh=>hh
 | (g',F) :: r,ht,g=>by
   unfold lookF
   by_cases hg:g=g'
   · subst hg; rw [beqT]; exact .inl ⟨ht.1,ht.2.1⟩
   · rw [beqF hg]; exact TabOK.get ht.2.2 g
section
variable {C : Cfg} {B : Base} {e : Env} {h : Hp} {a : Act} {w : World} {K : Up → Hp → Prop} {o : Oper}
def After (C:Cfg) (B:Base) (o:Oper) (e:Env) (K:Up→Hp→Prop):Act→World→Prop:=fun a' w'=>
 ∃u h',K u h'∧Rel C B (e.upd C.rt u) h' a' w'∧∀d,u.dst=some d→d∈modsO C o
theorem zsj {P:Program} {ro:Option Nat} {o:Oper} {a:Act} {w w':World} {x:Next} (hr:(execOp a.eval o).run P w=.ok x w') (hx:∀d,x≠.defer d) :
 Oper.semAt ro a.eval o=execOp a.eval o:=
 Oper.semAt_eq _ _ _ fun c hc=>by
  unfold execOp at hr
  rw [hc] at hr
  simp only [Sem.run_bind,Sem.run_pure] at hr
  cases hz:(resolve a.eval c o.type).run P w with
  | ok d w1=>rw [hz] at hr; simp only [Result.andThen_ok,Result.ok.injEq] at hr; exact hx d hr.1.symm
  | _=>rw [hz] at hr; simp [Result.andThen] at hr
theorem zar {P:Program} {o:Oper} {a:Act} {w w':World} {v:Value} {next:Act→World→Prop} {Q:Exit→Act→World→Prop}
 (hr:(execOp a.eval o).run P w=.ok (.value v) w') (hn:next (a.put o.dst v) w'):o.wpIn (wideR ro) nn P a w next Q:=by
 unfold Oper.wpIn; rw [zsj hr (by intro d hd; cases hd),hr]; exact ⟨fun _ _=>trivial,hn⟩
theorem zre {P:Program} {o:Oper} {a:Act} {w w':World} {next:Act→World→Prop} {Q:Exit→Act→World→Prop}
 (hr:(execOp a.eval o).run P w=.ok .skip w') (hn:next (a.put o.dst undef) w'):o.wpIn (wideR ro) nn P a w next Q:=by
 unfold Oper.wpIn; rw [zsj hr (by intro d hd; cases hd),hr]; exact ⟨fun _ _=>trivial,hn⟩
theorem zacb {P:Program} {o:Oper} {a:Act} {w w':World} {f:FuncId} {args:Array Value} {next:Act→World→Prop} {Q:Exit→Act→World→Prop}
 {R:Ending→World→Prop} (hr:(execOp a.eval o).run P w=.ok (.enter f args) w') (hc:Calls P f args w' R) (hn:∀e w'',R e w''→∃v,e=.returned v∧next (a.put o.dst v) w'') :
 o.wpIn (wideR ro) nn P a w next Q:=by
 unfold Oper.wpIn; rw [zsj hr (by intro d hd; cases hd),hr,Oper.uponIn_enter]
 refine ⟨fun _ _=>trivial,(fun h=>by cases h),(zvt hc).mono fun e w'' hR=>?_⟩
 obtain ⟨v,rfl,hn⟩:=hn e w'' hR; exact hn
theorem zc3 {t:Nat} {v:Value} (ht:a.tmps[t]?=some v):a.eval (.tmp t)=v:=by
 simp only [Act.eval]; rw [Array.getD_eq_getD_getElem?,ht]; rfl
theorem zav (hR:Rel C B e h a w) {x:Operand} {K:Value→Prop} (hk:opv e x K):K (a.eval x):=by
 unfold opv at hk
 split at hk
 · exact hk
 · exact hk
 · exact hk
 · rename_i t
   split at hk
   · rename_i v hv; rw [zc3 (hR.vals t v hv)]; exact hk
   · exact hk.elim
theorem zks (hR:Rel C B e h a w):∀{l:List Operand} {K:List Value→Prop},opvs e l K→K (l.map a.eval)
 | [],_,hk=>hk
 | x :: r,K,hk=>by
   have:=zav hR hk
   exact zks (l:=r) (K:=fun vs=>K (a.eval x :: vs)) hR this
theorem zad (hR:Rel C B e h a w) {v:Value} (hk:retV C o.dst v h K):After C B o e K (a.put o.dst v) w:=by
 unfold retV at hk
 split at hk
 · rename_i hd
   exact ⟨.none,h,hk,by rw [hd]; exact hR,fun d hd'=>by cases hd'⟩
 · rename_i d hd
   split at hk
   · rename_i hl hn
     refine ⟨.set d (.val v),h,hk,?_,fun d' hd'=>?_⟩
     · rw [hd]; exact hR.setVal hl (by have:=hn; unfold Nat.blt at this; have:=Nat.le_of_ble_eq_true this; omega)
     · simp only [Up.dst,Option.some.injEq] at hd'; subst hd'; simp [modsO,hd]
   · exact hk.elim
theorem zll (hR:Rel C B e h a w) (hk:skipV C o.dst h K):After C B o e K (a.put o.dst undef) w:=by
 unfold skipV at hk
 split at hk
 · rename_i hd
   exact ⟨.none,h,hk,by rw [hd]; exact hR,fun d hd'=>by cases hd'⟩
 · rename_i d hd
   split at hk
   · rename_i hl hml
     refine ⟨.alloc d .junk,h,hk,?_,fun d' hd'=>?_⟩
     · rw [hd]; exact hR.allocJunk hl fun t ht hh=>by have:=(hR.mrs t ht).2.2.1; rw [hh,hml] at this; cases this
     · simp only [Up.dst,Option.some.injEq] at hd'; subst hd'; simp [modsO,hd]
   · exact hk.elim
   · exact zad hR hk
theorem zmn (hR:Rel C B e h a w) {root off b:Nat} {cs:List Value} (hb:e root=.box cs) (hp:a.tmps[root]?=some (.pointer (some ⟨b,0,none⟩)))
 (hk:retR C o.dst root off h K):After C B o e K (a.put o.dst (.pointer (some ⟨b,off,none⟩))) w:=by
 unfold retR at hk
 split at hk
 · exact hk.elim
 · rename_i d hd
   split at hk
   · rename_i hl hr hn
     have hr:=Nat.eq_of_beq_eq_true hr
     refine ⟨.set d (.ref off),h,hk,?_,fun d' hd'=>?_⟩
     · rw [hd]; exact hR.setRef hl (by have:=hn; unfold Nat.blt at this; have:=Nat.le_of_ble_eq_true this; omega) (cs:=cs) (by rw [hr]; exact hb) (by rw [hr]; exact hp)
     · simp only [Up.dst,Option.some.injEq] at hd'; subst hd'; simp [modsO,hd]
   · exact hk.elim
theorem Rel.alloc (hR:Rel C B e h a w) (cs:List Value) (el:TypeId) (fz:Nat×Nat:=(0,0)) :
 Rel C B e (h.ins w.heap.size ⟨cs,el,fz⟩) a (w.alloc (.cells cs.toArray el fz)):=by
 refine hR.step (fun k b hk=>?_) (Fr.alloc h w _) (fun k hk hh=>?_)
 · by_cases hkb:k=w.heap.size
   · subst hkb; rw [Hp.ins_same] at hk; cases hk; exact zlo
   · rw [Hp.ins_ne hkb] at hk; exact hR.sub.alloc _ k b hk
 · by_cases hkb:k=w.heap.size
   · omega
   · rw [Hp.ins_ne hkb] at hk; exact absurd hh hk
theorem zna (hR:Rel C B e h a w) {cs:List Value} {mk:Addr→Value} {hid:Slot} {el:TypeId} {ty:Option Nat} (hty:∀t,ty=some t→el=t) (hk:retNew C o.dst cs mk hid ty h K)
 (hm:mk ⟨w.heap.size,0,none⟩=hidV w.heap.size hid) (hc:hidC hid=cs) (hh:isHid hid=true) (hmp:∀m,hid≠.mp m) :
 After C B o e K (a.put o.dst (mk ⟨w.heap.size,0,none⟩)) (w.alloc (.cells cs.toArray el (0,0))):=by
 unfold retNew at hk
 split at hk
 · exact hk.elim
 · rename_i d hd
   split at hk
   · rename_i hl hn hml
     refine ⟨.alloc d hid,h,hk,?_,fun d' hd'=>?_⟩
     · rw [hd,hm,←hc]
       refine hR.allocHid (el:=el) hl (by have:=hn; unfold Nat.blt at this; have:=Nat.le_of_ble_eq_true this; omega) hh ?_ fun t ht hq=>by have:=(hR.mrs t ht).2.2.1; rw [hq,hml] at this; cases this
       cases hid
       case mp m=>exact absurd rfl (hmp m)
       all_goals exact zlo
     · simp only [Up.dst,Option.some.injEq] at hd'; subst hd'; simp [modsO,hd]
   · rename_i hl hn
     have:K (.set d (.val (mk ⟨w.heap.size,0,none⟩))) (h.ins w.heap.size ⟨cs,el,(0,0)⟩):=by
      split at hk
      · exact hk w.heap.size el (hR.sub.fresh (Nat.le_refl _))
      · rename_i t
        rw [hty t rfl]
        exact hk w.heap.size (hR.sub.fresh (Nat.le_refl _))
     refine ⟨_,_,this,?_,fun d' hd'=>?_⟩
     · rw [hd]; exact (hR.alloc cs el).setVal hl (by have:=hn; unfold Nat.blt at this; have:=Nat.le_of_ble_eq_true this; omega)
     · simp only [Up.dst,Option.some.injEq] at hd'; subst hd'; simp [modsO,hd]
   · exact hk.elim
theorem zmu (hs:Sub h w) {ad:Addr} {vs:List Value} {K:Hp→Prop} (hk:stP ad vs K h) :
 ∃h' w',K h'∧(storeCells ad vs).run C.P w=.ok () w'∧Sub h' w'∧Fr h w w'∧(∀k,h' k≠none→h k=none→w.heap.size≤k):=by
 obtain ⟨b,hb,hsp,hfz,hlen,hl,hK⟩:=hk
 obtain ⟨bl,off,sp⟩:=ad
 simp only at hb hsp hlen hK
 subst hsp
 have hw:=hs _ _ hb
 rw [hfz] at hw
 have hlt:=zcu hw
 refine ⟨_,_,hK,ziy hw (by simpa using hlen) hl,?_,?_,?_⟩
 · intro k c hkc
   by_cases hkb:k=bl
   · subst hkb; rw [Hp.ins_same] at hkc; cases hkc
     rw [zhj hlt]; simp [hfz]
   · rw [Hp.ins_ne hkb] at hkc; rw [zif hkb]; exact hs k c hkc
 · refine ⟨by rw [zj3]; exact Nat.le_refl _,fun k hk1 hk2=>?_,rfl,rfl,rfl,Nat.le_refl _⟩
   have hkb:k≠bl:=fun hh=>by rw [hh,hb] at hk2; cases hk2
   exact zif hkb
 · intro k hk1 hk2
   have hkb:k≠bl:=fun hh=>by rw [hh,hb] at hk2; cases hk2
   rw [Hp.ins_ne hkb] at hk1; exact absurd hk2 hk1
theorem zon (D:Hp) (w:World):Fr D w { w with drawn:=w.drawn+1 }:=⟨Nat.le_refl _,fun _ _ _=>rfl,rfl,rfl,rfl,Nat.le_succ _⟩
theorem Rel.drew (hR:Rel C B e h a w):Rel C B e h a { w with drawn:=w.drawn+1 }:=hR.step hR.sub (zon h w) (fun k h1 h2=>absurd h2 h1)
end
end Den
end

section
namespace Den
open Go
variable {ro : Option Nat} {nn : Nat}
section
variable {C : Cfg} {B : Base} {e : Env} {h : Hp} {a : Act} {w : World} {K : Up → Hp → Prop} {o : Oper} {Q : Exit → Act → World → Prop}
theorem zji {p:Option Addr} {K:Addr→Prop} (hk:ptrK p K):∃ad,p=some ad∧K ad:=by
 cases p with
 | none=>exact hk.elim
 | some ad=>exact ⟨ad,rfl,hk⟩
theorem zp5 (hR:Rel C B e h a w) {s:Nat} {cs:List Value} (hb:e s=.box cs) :
 ∃b el,a.tmps[s]?=some (.pointer (some ⟨b,0,none⟩))∧w.heap[b]?=some (.cells cs.toArray el (0,0)):=by
 obtain ⟨_,b,el,h1,h2,_,_⟩:=hR.hid s (by rw [hb]; rfl)
 rw [hb] at h1 h2
 exact ⟨b,el,h1,h2⟩
theorem zrd (hR:Rel C B e h a w) {s off:Nat} (hb:e s=.ref off):∃cs b el,e (C.rt s)=.box cs ∧
 a.tmps[C.rt s]?=some (.pointer (some ⟨b,0,none⟩))∧a.tmps[s]?=some (.pointer (some ⟨b,off,none⟩))∧w.heap[b]?=some (.cells cs.toArray el (0,0)):=by
 obtain ⟨cs,b,h1,h2,h3⟩:=hR.refs s off hb
 obtain ⟨b',el,h4,h5⟩:=zp5 hR h1
 rw [h2] at h4
 simp only [Option.some.injEq,Value.pointer.injEq,Addr.mk.injEq] at h4
 obtain rfl:=h4.1
 exact ⟨cs,b,el,h1,h2,h3,h5⟩
theorem za48 (hR:Rel C B e h a w) {t:TypeId} {x:Operand} (ho:o.op=.load t x) (hk:dcore C o e h K):o.wpIn (wideR ro) nn C.P a w (After C B o e K) Q:=by
 unfold dcore at hk; rw [ho] at hk; simp only at hk
 split at hk
 · rename_i s
   split at hk
   · rename_i cs hb
     obtain ⟨b,el,h1,h2⟩:=zp5 hR hb
     obtain ⟨v,hv,hrun⟩:=zpm (P:=C.P) h2 hk
     refine zar (w':=w) (v:=v) ?_ (zad hR hv)
     simp only [execOp,ho,zc3 h1,Instr.loadAt,Instr.sureAddr,Sem.run_bind,Sem.run_pure,Result.andThen_ok,hrun]
   · rename_i off hb
     obtain ⟨cs,b,el,h1,h2,h3,h4⟩:=zrd hR hb
     rw [h1] at hk; simp only at hk
     obtain ⟨v,hv,hrun⟩:=zpm (P:=C.P) h4 hk
     refine zar (w':=w) (v:=v) ?_ (zad hR hv)
     simp only [execOp,ho,zc3 h3,Instr.loadAt,Instr.sureAddr,Sem.run_bind,Sem.run_pure,Result.andThen_ok,hrun]
   · rename_i p hb
     split at hk
     · exact hk.elim
     obtain ⟨ad,rfl,hk2⟩:=zji hk
     obtain ⟨v,hv,hrun⟩:=za79 (P:=C.P) hR.sub hk2
     replace hv:=za3m hv
     refine zar (w':=w) (v:=v) ?_ (zad hR hv)
     simp only [execOp,ho,zc3 (hR.vals s _ hb),Instr.loadAt,Instr.sureAddr,Sem.run_bind,Sem.run_pure,Result.andThen_ok,hrun]
   · exact hk.elim
 · exact hk.elim
theorem zpb {v:Value} {t:TypeId} (h1:Nat.beq v.cells.toList.length (C.P.cellsOf t)=true) (h2:v.cells.toList.all Value.leaf=true) (hi:∃i,C.P.info? t=some i) :
 ∃n,(Go.sizeOf t).run C.P w=.ok n w∧v.cells.size=n:=by
 obtain ⟨i,hi⟩:=hi
 refine ⟨i.size,zbb hi,?_⟩
 have:=Nat.eq_of_beq_eq_true h1
 rw [zbx hi] at this
 simpa using this
theorem zvw {t:TypeId} {n:Nat} (h:C.P.cellsOf t=n) (hn:n≠0):∃i,C.P.info? t=some i:=by
 cases hi:C.P.info? t with
 | none=>simp [Program.cellsOf,hi] at h; omega
 | some i=>exact ⟨i,rfl⟩
theorem za2w (hR:Rel C B e h a w) {t:TypeId} {x y:Operand} (ho:o.op=.store t x y) (hk:dcore C o e h K):o.wpIn (wideR ro) nn C.P a w (After C B o e K) Q:=by
 unfold dcore at hk; rw [ho] at hk; simp only at hk
 replace hk:=zav hR hk
 split at hk
 · rename_i hsz hl
   split at hk
   · rename_i s
     split at hk
     · rename_i cs hb
       split at hk
       · rename_i hi hdst hle
         have hle:=Nat.le_of_ble_eq_true hle
         obtain ⟨n,hn,hsn⟩:=zpb (w:=w) hsz hl (Option.isSome_iff_exists.1 hi)
         obtain ⟨b,el,h1,h2⟩:=zp5 hR hb
         have hrun:=ziy (P:=C.P) (i:=0) (off:=0) h2 (by simpa using hle) hl
         refine zre (w':=setBlk w b (.cells (splice cs 0 (a.eval y).cells.toList).toArray el (0,0))) ?_ ⟨_,_,hk,?_,?_⟩
         rotate_left
         · rw [hdst]
           exact hR.setBox hb h1 (zhj (zcu h2)) (fun k hkb=>zif hkb) zj3 rfl rfl rfl (Nat.le_refl _)
         · intro d hd; simp only [Up.dst,Option.some.injEq] at hd; subst hd; simp [modsO,ho]
         · simp only [execOp,ho,zc3 h1,Instr.storeAt,Instr.sureAddr,Sem.run_bind,Sem.run_pure,Result.andThen_ok,storeVar,hn,hsn,ne_eq,not_true_eq_false,if_false,hrun]
       · exact hk.elim
     · rename_i off hb
       obtain ⟨cs,b,el,h1,h2,h3,h4⟩:=zrd hR hb
       rw [h1] at hk; simp only at hk
       split at hk
       · rename_i hi hdst hle
         have hle:=Nat.le_of_ble_eq_true hle
         obtain ⟨n,hn,hsn⟩:=zpb (w:=w) hsz hl (Option.isSome_iff_exists.1 hi)
         have hrun:=ziy (P:=C.P) (i:=0) (off:=off) h4 (by simpa using hle) hl
         refine zre (w':=setBlk w b (.cells (splice cs off (a.eval y).cells.toList).toArray el (0,0))) ?_ ⟨_,_,hk,?_,?_⟩
         rotate_left
         · rw [hdst]
           exact hR.setBox h1 h2 (zhj (zcu h4)) (fun k hkb=>zif hkb) zj3 rfl rfl rfl (Nat.le_refl _)
         · intro d hd; simp only [Up.dst,Option.some.injEq] at hd; subst hd; simp [modsO,ho]
         · simp only [execOp,ho,zc3 h3,Instr.storeAt,Instr.sureAddr,Sem.run_bind,Sem.run_pure,Result.andThen_ok,storeVar,hn,hsn,ne_eq,not_true_eq_false,if_false,hrun]
           simp
       · exact hk.elim
     · rename_i p hb
       split at hk
       · exact hk.elim
       obtain ⟨ad,rfl,hk2⟩:=zji hk
       split at hk2
       · rename_i hi hdst
         obtain ⟨n,hn,hsn⟩:=zpb (w:=w) hsz hl (Option.isSome_iff_exists.1 hi)
         obtain ⟨h',w',hK,hrun,hs',hf,hd⟩:=zmu (C:=C) hR.sub hk2
         refine zre (w':=w') ?_ ⟨_,_,hK,?_,?_⟩
         rotate_left
         · rw [hdst]
           exact hR.step hs' hf hd
         · intro d hd; cases hd
         · simp only [execOp,ho,zc3 (hR.vals s _ hb),Instr.storeAt,Instr.sureAddr,Sem.run_bind,Sem.run_pure,Result.andThen_ok,storeVar,hn,hsn,ne_eq,not_true_eq_false,if_false,hrun]
       · exact hk2.elim
     · exact hk.elim
   · exact hk.elim
 · exact hk.elim
theorem zrh {t:TypeId} {f:Nat} {K:Nat→Prop} (hk:asField C.P t f K) :
 ∃fs fd i,C.P.underlying t=some (.struct fs)∧fs[f]?=some fd∧C.P.info? fd.type=some i∧i.size≠0∧K fd.offset:=by
 unfold asField at hk
 split at hk
 · rename_i fs hu
   split at hk
   · rename_i fd hf
     split at hk
     · exact hk.elim
     · rename_i hz
       have hz:C.P.cellsOf fd.type≠0:=fun hh=>by rw [hh] at hz; cases hz
       obtain ⟨i,hi⟩:=zvw (C:=C) rfl hz
       exact ⟨fs,fd,i,hu,hf,hi,by rw [zbx hi] at hz; exact hz,hk⟩
   · exact hk.elim
 · exact hk.elim
theorem zo2 {t:TypeId} {f:Nat} {fs:Array Field} {fd:Field} {i:TypeInfo} (hu:C.P.underlying t=some (.struct fs)) (hf:fs[f]?=some fd)
 (hi:C.P.info? fd.type=some i) (hz:i.size≠0) (ad:Addr):(Instr.fieldAt t (.pointer (some ad)) f).run C.P w=.ok (.pointer (some (ad.add fd.offset))) w:=by
 simp only [Instr.fieldAt,Sem.run_bind,za6 hu,Result.andThen_ok,hf,Instr.sureAddr,Sem.run_pure,fieldPlace,zbb hi,if_neg hz]
theorem zue (hR:Rel C B e h a w) {t:TypeId} {x:Operand} {f:Nat} (ho:o.op=.fieldAddr t x f) (hk:dcore C o e h K):o.wpIn (wideR ro) nn C.P a w (After C B o e K) Q:=by
 unfold dcore at hk; rw [ho] at hk; simp only at hk
 obtain ⟨fs,fd,i,hu,hf,hi,hz,hk2⟩:=zrh hk
 clear hk
 split at hk2
 · rename_i s
   split at hk2
   · rename_i cs hb
     obtain ⟨b,el,h1,h2⟩:=zp5 hR hb
     refine zar (w':=w) ?_ (zmn hR hb h1 hk2)
     simp only [execOp,ho,zc3 h1,Sem.run_bind,zo2 hu hf hi hz,Result.andThen_ok,Sem.run_pure,zg2,Nat.zero_add]
   · rename_i off hb
     obtain ⟨cs,b,el,h1,h2,h3,h4⟩:=zrd hR hb
     refine zar (w':=w) ?_ (zmn hR h1 h2 hk2)
     simp only [execOp,ho,zc3 h3,Sem.run_bind,zo2 hu hf hi hz,Result.andThen_ok,Sem.run_pure,zg2]
   · rename_i p hb
     obtain ⟨ad,rfl,hk3⟩:=zji hk2
     refine zar (w':=w) ?_ (zad hR hk3)
     simp only [execOp,ho,zc3 (hR.vals s _ hb),Sem.run_bind,zo2 hu hf hi hz,Result.andThen_ok,Sem.run_pure]
   · exact hk2.elim
 · exact hk2.elim
theorem zxp {n:Int} {len:Nat} {p:Prop} (hk:idxC n len p):(0≤n∧n<len)∧p:=by
 unfold idxC at hk
 split at hk
 · rename_i hd; exact ⟨of_decide_eq_true hd,hk⟩
 · exact hk.elim
theorem zj8 {t el:TypeId} {len:Nat} {k:IntKind} {n:Int} {i:TypeInfo} (hu:C.P.underlying t=some (.array len el)) (hi:C.P.info? el=some i)
 (hn:0≤n∧n<len) (ad:Addr):(Instr.indexAt t (.pointer (some ad)) (.int k n)).run C.P w=.ok (.pointer (some (ad.add (n.toNat*C.P.cellsOf el)))) w:=by
 simp only [Instr.indexAt,asIntOf,Instr.sureAddr,Sem.run_bind,Sem.run_pure,za6 hu,Result.andThen_ok]
 rw [if_pos hn]
 simp [zbb hi,zbx hi]
theorem zuf (hR:Rel C B e h a w) {t:TypeId} {x ix:Operand} (ho:o.op=.indexAddr t x ix) (hk:dcore C o e h K):o.wpIn (wideR ro) nn C.P a w (After C B o e K) Q:=by
 unfold dcore at hk; rw [ho] at hk; simp only at hk
 replace hk:=zav hR hk
 split at hk
 · rename_i k n hix
   split at hk
   · rename_i el hu
     obtain ⟨⟨i,hi⟩,hk2⟩:=zr9 hk
     clear hk
     replace hk2:=zav hR hk2
     split at hk2
     · rename_i ba l c hx
       obtain ⟨h0,h1,hk3⟩:=hk2
       obtain ⟨ad,hba,hk4⟩:=zji hk3
       simp only at hba h1
       subst hba
       refine zar (w':=w) ?_ (zad hR hk4)
       simp only [execOp,ho,hix,hx,Instr.indexAt,asIntOf,Sem.run_bind,Sem.run_pure,za6 hu,Result.andThen_ok,zbx hi]
       rw [if_pos ⟨h0,h1⟩]
       simp [zbb hi]
     · exact hk2.elim
   · rename_i len el hu
     obtain ⟨⟨i,hi⟩,hk2⟩:=zr9 hk
     clear hk
     obtain ⟨hn,hk3⟩:=zxp hk2
     clear hk2
     split at hk3
     · rename_i s
       split at hk3
       · rename_i cs hb
         obtain ⟨b,el',h1,h2⟩:=zp5 hR hb
         refine zar (w':=w) ?_ (zmn hR hb h1 hk3)
         simp only [execOp,ho,hix,zc3 h1,Sem.run_bind,zj8 hu hi hn,Result.andThen_ok,Sem.run_pure,zg2,Nat.zero_add]
       · rename_i off hb
         obtain ⟨cs,b,el',h1,h2,h3,h4⟩:=zrd hR hb
         refine zar (w':=w) ?_ (zmn hR h1 h2 hk3)
         simp only [execOp,ho,hix,zc3 h3,Sem.run_bind,zj8 hu hi hn,Result.andThen_ok,Sem.run_pure,zg2]
       · rename_i p hb
         obtain ⟨ad,rfl,hk4⟩:=zji hk3
         refine zar (w':=w) ?_ (zad hR hk4)
         simp only [execOp,ho,hix,zc3 (hR.vals s _ hb),Sem.run_bind,zj8 hu hi hn,Result.andThen_ok,Sem.run_pure]
       · exact hk3.elim
     · rename_i g
       refine zar (w':=w) ?_ (zad hR hk3)
       have hg:a.eval (.global g)=.pointer (some ⟨g,0,none⟩):=rfl
       simp only [execOp,ho,hix,hg,Sem.run_bind,zj8 hu hi hn,Result.andThen_ok,Sem.run_pure]
     · exact hk3.elim
   · exact hk.elim
 · exact hk.elim
theorem za3q {s:ByteArray} {n:Int} {K:Int→Prop} (hk:strIdx s n K) {t:TypeId} {k:IntKind} (hu:C.P.underlying t=some .string) :
 ∃b:Int,K b∧(Instr.index t (.string s) (.int k n)).run C.P w=.ok (.int .u8 b) w:=by
 obtain ⟨h0,b,hb,hk⟩:=hk
 refine ⟨_,hk,?_⟩
 simp only [Instr.index,asIntOf,Sem.run_bind,Sem.run_pure,za6 hu,Result.andThen_ok,if_pos h0,hb]
theorem za2u (hR:Rel C B e h a w) {t:TypeId} {x ix:Operand} (ho:o.op=.index t x ix) (hk:dcore C o e h K):o.wpIn (wideR ro) nn C.P a w (After C B o e K) Q:=by
 unfold dcore at hk; rw [ho] at hk; simp only at hk
 replace hk:=zav hR (zav hR hk)
 split at hk
 · rename_i k n s hix hx
   split at hk
   · rename_i hu
     obtain ⟨b,hb,hrun⟩:=za3q (C:=C) (w:=w) (k:=k) hk hu
     refine zar (w':=w) ?_ (zad hR hb)
     simp only [execOp,ho,hix,hx,Sem.run_bind,hrun,Result.andThen_ok,Sem.run_pure]
   · exact hk.elim
 · rename_i k n cs hix hx
   split at hk
   · rename_i len el hu
     obtain ⟨⟨i,hi⟩,hk2⟩:=zr9 hk
     obtain ⟨hn,hk3⟩:=zxp hk2
     obtain ⟨v,hv,hrun⟩:=ztm (P:=C.P) (w:=w) hk3
     refine zar (w':=w) ?_ (zad hR hv)
     rw [zbx hi] at hrun
     have hrun':(part el cs (n.toNat*i.size)).run C.P w=.ok v w:=by simpa using hrun
     simp only [execOp,ho,hix,hx,Instr.index,asIntOf,Sem.run_bind,Sem.run_pure,za6 hu,Result.andThen_ok]
     rw [if_pos hn]
     simp only [Sem.run_bind,zbb hi,Result.andThen_ok,hrun']
   · exact hk.elim
 · exact hk.elim
theorem za2t (hR:Rel C B e h a w) {t:TypeId} {x:Operand} {f:Nat} (ho:o.op=.field t x f) (hk:dcore C o e h K):o.wpIn (wideR ro) nn C.P a w (After C B o e K) Q:=by
 unfold dcore at hk; rw [ho] at hk; simp only at hk
 obtain ⟨fs,fd,i,hu,hf,hi,hz,hk2⟩:=zrh hk
 clear hk
 replace hk2:=zav hR hk2
 cases hx:a.eval x with
 | agg cs=>
   rw [hx] at hk2
   simp only [aggC,hu,hf] at hk2
   obtain ⟨v,hv,hrun⟩:=ztm (P:=C.P) (w:=w) hk2
   refine zar (w':=w) ?_ (zad hR hv)
   have hrun':(part fd.type cs fd.offset).run C.P w=.ok v w:=by simpa using hrun
   simp only [execOp,ho,hx,Instr.field,Sem.run_bind,Sem.run_pure,za6 hu,Result.andThen_ok,hf,asAgg,hrun']
 | _=>rw [hx] at hk2; exact hk2.elim
theorem zmp (hR:Rel C B e h a w) {lo:Option Operand} {d:Int} {K:Int→Prop} (hk:boP e lo d K) :
 ∃n,K n∧((lo=none∧n=d)∨∃x k,lo=some x∧a.eval x=.int k n):=by
 unfold boP at hk
 split at hk
 · exact ⟨_,hk,.inl ⟨rfl,rfl⟩⟩
 · rename_i x
   replace hk:=zav hR hk
   split at hk
   · rename_i k n hx; exact ⟨n,hk,.inr ⟨x,k,rfl,hx⟩⟩
   · exact hk.elim
theorem zix {k:IntKind} {n:Int} {y:Nat} {c:BoundsCode} (hn:0≤n∧n≤y):(Instr.sliceBound (.int k n) y c).run C.P w=.ok n.toNat w:=by
 simp only [Instr.sliceBound,asIntOf,Sem.run_bind,Sem.run_pure,Result.andThen_ok]
 rw [if_pos hn]; rfl
theorem zkh (hR:Rel C B e h a w) {lo hi:Option Operand} {isS:Bool} {len cap:Nat} {l u:Int} (h0:0≤l) (h1:l≤u) (h2:u≤cap)
 (hl:(lo=none∧l=0)∨∃x k,lo=some x∧a.eval x=.int k l) (hu:(hi=none∧u=len)∨∃x k,hi=some x∧a.eval x=.int k u) :
 (Instr.sliceBounds isS len cap (lo.map a.eval) (hi.map a.eval) none).run C.P w=.ok (l.toNat,u.toNat,cap) w:=by
 rcases hu with ⟨rfl,rfl⟩ | ⟨x,k,rfl,hx⟩
 · rcases hl with ⟨rfl,rfl⟩ | ⟨y,k',rfl,hy⟩
   · simp [Instr.sliceBounds]
   · simp only [Instr.sliceBounds,Option.map_none,Option.map_some,hy,Sem.run_bind,Sem.run_pure,Result.andThen_ok]
     rw [zix ⟨h0,h1⟩]; simp
 · rcases hl with ⟨rfl,rfl⟩ | ⟨y,k',rfl,hy⟩
   · simp only [Instr.sliceBounds,Option.map_none,Option.map_some,hx,Sem.run_bind,Sem.run_pure,Result.andThen_ok]
     rw [zix ⟨by omega,h2⟩]; simp
   · simp only [Instr.sliceBounds,Option.map_some,hx,hy,Sem.run_bind,Sem.run_pure,Result.andThen_ok]
     rw [zix ⟨by omega,h2⟩]; simp only [Result.andThen_ok]
     rw [zix ⟨h0,by omega⟩]; simp
theorem za2v (hR:Rel C B e h a w) {t:TypeId} {x:Operand} {lo hi:Option Operand} (ho:o.op=.slice t x lo hi none) (hk:dcore C o e h K):o.wpIn (wideR ro) nn C.P a w (After C B o e K) Q:=by
 unfold dcore at hk; rw [ho] at hk; simp only at hk
 replace hk:=zav hR hk
 split at hk
 · rename_i s hx
   split at hk
   · rename_i hu
     obtain ⟨l,hk1,hl⟩:=zmp hR hk
     obtain ⟨u,hk2,hu2⟩:=zmp hR hk1
     obtain ⟨h0,h1,h2,hk3⟩:=hk2
     refine zar (w':=w) ?_ (zad hR hk3)
     simp only [execOp,ho,hx,Instr.sliceAt,Sem.run_bind,za6 hu,Result.andThen_ok,Instr.slice,Option.map_none,Option.isSome_none,Bool.false_eq_true,if_false,Sem.run_pure,
      zkh hR h0 h1 h2 hl hu2]
   · exact hk.elim
 · rename_i ad n c hx
   obtain ⟨el,i,hu,hi,hk1⟩:=zgs hk
   obtain ⟨l,hk2,hl⟩:=zmp hR hk1
   obtain ⟨u,hk3,hu2⟩:=zmp hR hk2
   obtain ⟨h0,h1,h2,hk4⟩:=hk3
   refine zar (w':=w) ?_ (zad hR hk4)
   simp only [execOp,ho,hx,Instr.sliceAt,Sem.run_bind,za6 hu,Result.andThen_ok,Instr.slice,Option.map_none,Sem.run_pure,
    zkh hR h0 h1 h2 hl hu2,zbb hi,Sl.cut,zbx hi]
 · rename_i p hx
   split at hk
   · rename_i n el hu
     obtain ⟨⟨i,hi⟩,hk1⟩:=zr9 hk
     obtain ⟨ad,rfl,hk2⟩:=zji hk1
     obtain ⟨l,hk3,hl⟩:=zmp hR hk2
     obtain ⟨u,hk4,hu2⟩:=zmp hR hk3
     obtain ⟨h0,h1,h2,hk5⟩:=hk4
     refine zar (w':=w) ?_ (zad hR hk5)
     have e1:(Sl.cut ⟨some ad,n,n⟩ l.toNat u.toNat (C.P.cellsOf el)).a=some (if n=l.toNat then ad else ad.add (l.toNat*i.size)):=by
      unfold Sl.cut
      simp only [zbx hi]
      split<;>rfl
     rw [e1]
     simp only [execOp,ho,hx,Instr.sliceAt,Instr.sureAddr,Sem.run_bind,za6 hu,Result.andThen_ok,Option.map_none,Sem.run_pure,
      zkh hR h0 h1 h2 hl hu2,zbb hi,Sl.cut]
   · exact hk.elim
 · exact hk.elim
end
end Den
end

section
namespace Den
open Go
variable {ro : Option Nat} {nn : Nat}
section
variable {C : Cfg} {B : Base} {e : Env} {h : Hp} {a : Act} {w : World} {K : Up → Hp → Prop} {o : Oper} {Q : Exit → Act → World → Prop}
theorem zph (hR:Rel C B e h a w) {x:Operand} {A:Nat→List (Int×Bool)→Prop} {D:Prop} (hk:mapS C e x A D) :
 (∃s m b el,x=.tmp s∧e (C.rt s)=.mp m∧A (C.rt s) m∧a.tmps[s]?=some (.map (some b))∧a.tmps[C.rt s]?=some (.map (some b))∧HidAt w b el (.mp m)∧C.loc (C.rt s)=true)∨D:=by
 unfold mapS at hk
 split at hk
 · rename_i s
   split at hk
   · rename_i m hm
     split at hk
     · rename_i hr
       have hr:=Nat.eq_of_beq_eq_true hr
       obtain ⟨hl,b,el,h1,h2,_,_⟩:=hR.hid s (by rw [hm]; rfl)
       rw [hm] at h1 h2
       exact .inl ⟨s,m,b,el,rfl,by rw [hr]; exact hm,by rw [hr]; exact hk,h1,by rw [hr]; exact h1,h2,by rw [hr]; exact hl⟩
     · exact hk.elim
   · rename_i hm
     split at hk
     · rename_i m hm2
       obtain ⟨hl,b,el,h1,h2,_,_⟩:=hR.hid (C.rt s) (by rw [hm2]; rfl)
       rw [hm2] at h1 h2
       obtain ⟨_,_,_,g3⟩:=hR.mrs s hm
       exact .inl ⟨s,m,b,el,rfl,hm2,hk,by rw [g3]; exact h1,h1,h2,hl⟩
     · exact hk.elim
   · exact .inr hk
 · exact .inr hk
theorem za3d (hR:Rel C B e h a w) {r:Nat} {v:Value} (hk:retM C o.dst r h K) (hlr:C.loc r=true) (hm:memN r C.mapL=true) (hp:a.tmps[r]?=some v):After C B o e K (a.put o.dst v) w:=by
 unfold retM at hk
 split at hk
 · exact hk.elim
 · rename_i d hd
   split at hk
   · rename_i hl hr hn
     have hr:=Nat.eq_of_beq_eq_true hr
     refine ⟨.set d .mr,h,hk,?_,fun d' hd'=>?_⟩
     · rw [hd]; exact hR.setMr hl (by have:=hn; unfold Nat.blt at this; have:=Nat.le_of_ble_eq_true this; omega) hr hlr hm hp
     · simp only [Up.dst,Option.some.injEq] at hd'; subst hd'; simp [modsO,hd]
   · exact hk.elim
theorem zuw (hR:Rel C B e h a w) {x:Operand} (ho:o.op=.move x∨o.op=.assign x) (hk:dcore C o e h K):o.wpIn (wideR ro) nn C.P a w (After C B o e K) Q:=by
 unfold dcore at hk
 rcases ho with ho | ho
 all_goals
  rw [ho] at hk; simp only at hk
  rcases zph hR hk with ⟨s,m,b,el,rfl,hm,hk,h1,h1',_,hl⟩ | hk
  · split at hk
    · rename_i hml
      refine zar (w':=w) (v:=.map (some b)) ?_ (za3d hR hk hl hml h1')
      simp only [execOp,ho,Sem.run_pure,zc3 h1]
    · exact hk.elim
  · replace hk:=zav hR hk
    refine zar (w':=w) ?_ (zad hR hk)
    simp only [execOp,ho,Sem.run_pure]
theorem za49 (hR:Rel C B e h a w) {c x y:Operand} (ho:o.op=.pick c x y) (hk:dcore C o e h K):o.wpIn (wideR ro) nn C.P a w (After C B o e K) Q:=by
 unfold dcore at hk; rw [ho] at hk; simp only at hk
 replace hk:=zav hR hk
 split at hk
 · rename_i t hc
   cases t
   · have hk2:opv e y fun v=>retV C o.dst v h K:=hk
     replace hk2:=zav hR hk2
     refine zar (w':=w) ?_ (zad hR hk2)
     simp [execOp,ho,hc,asBool]
   · have hk2:opv e x fun v=>retV C o.dst v h K:=hk
     replace hk2:=zav hR hk2
     refine zar (w':=w) ?_ (zad hR hk2)
     simp [execOp,ho,hc,asBool]
 · exact hk.elim
theorem zu9 {C:Cfg} {t t':Nat} (h:C.tyO t=some t'):t=t':=by
 unfold Cfg.tyO at h
 cases hm:memN t C.tyL with
 | true=>rw [hm] at h; simpa using h
 | false=>rw [hm] at h; cases h
theorem za2o (hR:Rel C B e h a w) {t:TypeId} (ho:o.op=.alloc t) (hk:dcore C o e h K):o.wpIn (wideR ro) nn C.P a w (After C B o e K) Q:=by
 unfold dcore at hk; rw [ho] at hk; simp only at hk
 obtain ⟨i,z,hi,hz,hk2,hrun⟩:=zjt hk
 refine zar ?_ (zna (el:=t) hR (fun t' ht=>zu9 ht) hk2 rfl rfl rfl (fun _ hh=>by cases hh))
 simp only [execOp,ho,Instr.alloc,Sem.run_bind,hrun,Result.andThen_ok,newVar,zf2,Sem.run_pure,Array.toArray_toList]
theorem za9z (hR:Rel C B e h a w) {t:TypeId} {x:Operand} (ho:o.op=.box t x) (hk:dcore C o e h K):o.wpIn (wideR ro) nn C.P a w (After C B o e K) Q:=by
 unfold dcore at hk; rw [ho] at hk; simp only at hk
 replace hk:=zav hR hk
 refine zar ?_ (zna (el:=t) hR (fun _ ht=>by cases ht) hk rfl rfl rfl (fun _ hh=>by cases hh))
 simp only [execOp,ho,Instr.box,Sem.run_bind,Result.andThen_ok,newVar,zf2,Sem.run_pure,Array.toArray_toList]
theorem zut {α:Type}:∀(l:List (Nat×α)) (f:α→Value),(l.map (·.1)).zip ((l.map (·.2)).map f)=l.map fun (i,x)=>(i,f x)
 | [],_=>rfl
 | (i,x) :: r,f=>by simp only [List.map_cons,List.zip_cons_cons,zut r f]
theorem za2q (hR:Rel C B e h a w) {t:TypeId} {parts:Array (Nat×Operand)} (ho:o.op=.build t parts) (hk:dcore C o e h K):o.wpIn (wideR ro) nn C.P a w (After C B o e K) Q:=by
 unfold dcore at hk; rw [ho] at hk; simp only at hk
 replace hk:=zks hR hk
 rw [zut] at hk
 split at hk
 · rename_i cs hcs
   refine zar (w':=w) ?_ (zad hR hk)
   have:(parts.map fun (i,x)=>(i,a.eval x)).toList=parts.toList.map fun (i,x)=>(i,a.eval x):=by simp
   simp only [execOp,ho,Sem.run_bind,run_build w t _ cs (by rw [this]; exact hcs),Result.andThen_ok,Sem.run_pure]
 · exact hk.elim
theorem zsu (hR:Rel C B e h a w) {t:TypeId} {n:Nat} {parts:Array (Nat×Operand)} (ho:o.op=.buildSlice t n parts) (hk:dcore C o e h K):o.wpIn (wideR ro) nn C.P a w (After C B o e K) Q:=by
 unfold dcore at hk; rw [ho] at hk; simp only at hk
 replace hk:=zks hR hk
 rw [zut] at hk
 obtain ⟨el,i,hu,hi,hk1⟩:=zgs hk
 obtain ⟨i',z,hi',hz,hk2,hrun⟩:=zjt hk1
 obtain rfl:i=i':=by rw [hi] at hi'; exact Option.some.inj hi'
 split at hk2
 · rename_i h1 h2
   have h1:=Nat.eq_of_beq_eq_true h1
   have h2:=Nat.le_of_ble_eq_true h2
   rw [zbx hi] at h1 h2
   simp only [Array.length_toList] at h1 hk2
   unfold fillP at hk2
   split at hk2
   · rename_i cs hcs
     have hp:(parts.map fun (i,x)=>(i,a.eval x)).toList=parts.toList.map fun (i,x)=>(i,a.eval x):=by simp
     refine zar ?_ (zna (el:=el) hR (fun _ ht=>by cases ht) hk2 rfl rfl rfl (fun _ hh=>by cases hh))
     simp only [execOp,ho,Instr.buildSlice,Sem.run_bind,za6 hu,Result.andThen_ok,zbb hi,hp]
     rw [if_neg (by omega)]
     simp only [Sem.run_pure]
     by_cases hz0:n*i.size=0
     · rw [if_pos hz0]
       simp only [Sem.run_bind,Sem.run_pure,Result.andThen_ok]
       have he:(Array.range (n*i.size)).map (fun x=>(#[]:Array Value)[x % (#[]:Array Value).size]!)=(repl n z.cells.toList).toArray:=by
        have hl:=zoa n z.cells.toList
        have:(repl n z.cells.toList)=[]:=List.eq_nil_of_length_eq_zero (by rw [hl]; simp [h1,hz0])
        rw [this,hz0]; simp
       rw [he,←h1,hcs]
       simp [zf2]
     · rw [if_neg hz0]
       simp only [Sem.run_bind,hrun,Sem.run_pure,Result.andThen_ok]
       rw [←h1,ziu,hcs]
       simp [zf2]
   · exact hk2.elim
 · exact hk2.elim
theorem zvv (hR:Rel C B e h a w) {x:Operand} (ho:o.op=.nilCheck x) (hk:dcore C o e h K):o.wpIn (wideR ro) nn C.P a w (After C B o e K) Q:=by
 unfold dcore at hk; rw [ho] at hk; simp only at hk
 replace hk:=zav hR hk
 split at hk
 · rename_i p hx
   obtain ⟨ad,rfl,hk2⟩:=zji hk
   refine zar (w':=w) ?_ (zad hR hk2)
   simp only [execOp,ho,hx,Sem.run_pure]
 · rename_i g u v hx
   refine zar (w':=w) ?_ (zad hR hk)
   simp only [execOp,ho,hx,Sem.run_pure]
 · exact hk.elim
theorem za2p (hR:Rel C B e h a w) {op:BinOp} {t t':TypeId} {x y:Operand} (ho:o.op=.binOp op t x y t') (hk:dcore C o e h K):o.wpIn (wideR ro) nn C.P a w (After C B o e K) Q:=by
 unfold dcore at hk; rw [ho] at hk; simp only at hk
 replace hk:=zav hR (zav hR hk)
 obtain ⟨r,hr,hrun⟩:=za2l (w:=w) hk x y
 refine zar (w':=w) ?_ (zad hR hr)
 simp only [execOp,ho]
 rw [Sem.run_bind]
 show ((eqGuard op t x y (a.eval x) (a.eval y) >>= fun _=>binOp op t (a.eval x) (a.eval y)).run C.P w).andThen _=_
 rw [hrun]; rfl
theorem za4a (hR:Rel C B e h a w) {op:UnOp} {t:TypeId} {x:Operand} (ho:o.op=.unOp op t x) (hk:dcore C o e h K):o.wpIn (wideR ro) nn C.P a w (After C B o e K) Q:=by
 unfold dcore at hk; rw [ho] at hk; simp only at hk
 replace hk:=zav hR hk
 obtain ⟨r,hr,hrun⟩:=za9c (P:=C.P) (w:=w) hk
 refine zar (w':=w) ?_ (zad hR hr)
 simp only [execOp,ho,Sem.run_bind,hrun,Result.andThen_ok,Sem.run_pure]
theorem zwk (hR:Rel C B e h a w) {s t:TypeId} {x:Operand} (ho:o.op=.convert s t x) (hk:dcore C o e h K):o.wpIn (wideR ro) nn C.P a w (After C B o e K) Q:=by
 unfold dcore at hk; rw [ho] at hk; simp only at hk
 replace hk:=zav hR hk
 split at hk
 · rename_i k k' n hu hx
   split at hk
   · rename_i hs
     obtain ⟨ds,hs⟩:=Option.isSome_iff_exists.1 hs
     refine zar (w':=w) ?_ (zad hR hk)
     simp only [execOp,ho,hx,convert,Sem.run_bind,za6 hu,za6 hs,Result.andThen_ok,Conv.intToInt,Sem.run_pure]
   · exact hk.elim
 · rename_i ad l c hu hx
   split at hk
   · rename_i el hs
     split at hk
     · rename_i he
       obtain ⟨bs,hcs,hk⟩:=hk
       refine zar (w':=w) ?_ (zad hR hk)
       have hrun:(Conv.bytesToString (.slice ad l c)).run C.P w=.ok (.string ⟨bs.toArray⟩) w:=by
        cases ad with
        | none=>
          simp only [cellsAtO] at hcs
          split at hcs
          · simp only [Option.some.injEq] at hcs
            have:bs=[]:=by cases bs with | nil=>rfl | cons x r=>simp at hcs
            subst this
            simp [Conv.bytesToString]; rfl
          · cases hcs
        | some ad=>
          have h1:=zew (P:=C.P) hR.sub hcs
          have h2:(bs.map fun b=>Value.int .u8 ((b.toNat:Nat):Int))=(bs.map fun b=>((b.toNat:Nat):Int)).map (Value.int .u8):=by simp
          rw [h2] at h1
          rw [run_bytesToString w ad l c _ h1]
          have h3:∀(bs:List UInt8) (r:ByteArray),(bs.map fun b=>((b.toNat:Nat):Int)).foldl (fun r n=>r.push (UInt8.ofNat n.toNat)) r=⟨r.data++bs.toArray⟩:=by
           intro bs
           induction bs with
           | nil=>intro r; simp
           | cons x bs ih=>
             intro r
             simp only [List.map_cons,List.foldl_cons]
             rw [ih]
             simp [ByteArray.push]
          rw [h3]
          simp
       simp only [execOp,ho,hx,convert,Sem.run_bind,za6 hu,za6 hs,za6 he,Result.andThen_ok,hrun,Sem.run_pure]
     · exact hk.elim
   · exact hk.elim
 · rename_i el st hu hx
   split at hk
   · rename_i hs he
     have hnc:st.size≤grownCap w st.size 0 el:=by
      have hcut:∀q,(Question.appendCap st.size 0 el).cut q=st.size+q % (2 ^ 63-st.size):=fun q=>rfl
      have h1:grownCap w st.size 0 el=(Question.appendCap st.size 0 el).cut (w.tape w.drawn (.appendCap st.size 0 el)):=rfl
      rw [h1,hcut]; omega
     have hrow:bytesRow st (grownCap w st.size 0 el)=(bytesOfS st++List.replicate (grownCap w st.size 0 el-st.size) (Value.int .u8 0)).toArray:=by
      unfold bytesRow bytesOfS
      apply Array.toList_inj.1; simp
     have hK:=hk w.heap.size el _ ((bytesRow st (grownCap w st.size 0 el)).size,(bytesRow st (grownCap w st.size 0 el)).size+1) hnc (hR.sub.fresh (Nat.le_refl _))
     have hR2:=hR.drew.alloc (bytesOfS st++List.replicate (grownCap w st.size 0 el-st.size) (Value.int .u8 0)) el ((bytesRow st (grownCap w st.size 0 el)).size,(bytesRow st (grownCap w st.size 0 el)).size+1)
     rw [←hrow] at hR2
     refine zar ?_ (zad hR2 hK)
     have hrun:=run_bytes_of_string (P:=C.P) w s t el st hs hu he
     simp only [execOp,ho,hx,Sem.run_bind,hrun,Result.andThen_ok,Sem.run_pure]
     rfl
   · exact hk.elim
 · exact hk.elim
theorem zvu (hR:Rel C B e h a w) {g:FuncId} {u v:Array Operand} (ho:o.op=.makeFunc (.func g) u v) (hk:dcore C o e h K):o.wpIn (wideR ro) nn C.P a w (After C B o e K) Q:=by
 unfold dcore at hk; rw [ho] at hk; simp only at hk
 replace hk:=zks hR (zks hR hk)
 refine zar (w':=w) ?_ (zad hR hk)
 have hm:∀l:Array Operand,(l.toList.map a.eval).toArray=l.map a.eval:=fun l=>by apply Array.toList_inj.1; simp
 simp only [execOp,ho,Instr.makeFunc,Sem.run_bind,Sem.run_pure,Result.andThen_ok,hm]
theorem zwl (hR:Rel C B e h a w) {x:Operand} {i:Nat} (ho:o.op=.extract x i) (hk:dcore C o e h K):o.wpIn (wideR ro) nn C.P a w (After C B o e K) Q:=by
 unfold dcore at hk; rw [ho] at hk; simp only at hk
 replace hk:=zav hR hk
 split at hk
 · rename_i vs hx
   split at hk
   · rename_i u hu
     refine zar (w':=w) ?_ (zad hR hk)
     have hu':vs[i]?=some u:=by simpa using hu
     simp only [execOp,ho,hx,Instr.extract,hu',Sem.run_bind,Sem.run_pure,Result.andThen_ok]
   · exact hk.elim
 · exact hk.elim
theorem zzl {n:Int} (h0:0≤n) (h1:n≤140737488355328):IntKind.i64.wrap n=n:=IntWalk.i64_in n ⟨by omega,by omega⟩
theorem zug (hR:Rel C B e h a w) {t:TypeId} {l c:Operand} (ho:o.op=.makeSlice t l c) (hk:dcore C o e h K):o.wpIn (wideR ro) nn C.P a w (After C B o e K) Q:=by
 unfold dcore at hk; rw [ho] at hk; simp only at hk
 replace hk:=zav hR (zav hR hk)
 split at hk
 · rename_i kl len kc cap hl hc
   obtain ⟨el,i,hu,hi,hk1⟩:=zgs hk
   obtain ⟨i',z,hi',hz,hk2,hrun⟩:=zjt hk1
   obtain rfl:i=i':=by rw [hi] at hi'; exact Option.some.inj hi'
   split at hk2
   · rename_i h1 h2
     have h1:=Nat.eq_of_beq_eq_true h1
     have h2':z.cells.toList.length≠0:=fun hh=>by rw [hh] at h2; cases h2
     rw [zbx hi] at h1
     simp only [Array.length_toList] at h1 h2'
     obtain ⟨g0,g1,g2,g3,hk3⟩:=hk2
     rw [zmy hi] at g2
     have:=hk3 w.heap.size el (hR.sub.fresh (Nat.le_refl _))
     refine zar ?_ (zad (hR.alloc (repl cap.toNat z.cells.toList) el) this)
     simp only [execOp,ho,hl,hc,Instr.makeSlice,asInt,asIntOf,Sem.run_bind,za6 hu,Sem.run_pure,Result.andThen_ok,typeInfo,run_program,hi,
      zzl (show 0≤len by omega) (show len≤140737488355328 by omega),zzl (show 0≤cap by omega) g3]
     have hnot:((decide (cap<0)||decide ((i.bytes:Int)*cap>2 ^ 48))||decide (len<0)||decide (len>cap))=false:=by
      simp; omega
     simp only [hnot,Bool.false_eq_true,if_false,Sem.run_bind,run_askRoom,Result.andThen_ok,zbb hi]
     by_cases hz0:cap.toNat*i.size=0
     · rw [if_pos hz0]
       simp only [Sem.run_bind,Sem.run_pure,Result.andThen_ok]
       have he:(Array.range (cap.toNat*i.size)).map (fun x=>(#[]:Array Value)[x % (#[]:Array Value).size]!)=(repl cap.toNat z.cells.toList).toArray:=by
        have hl:=zoa cap.toNat z.cells.toList
        have:(repl cap.toNat z.cells.toList)=[]:=List.eq_nil_of_length_eq_zero (by rw [hl]; simp [h1,hz0])
        rw [this,hz0]; simp
       rw [he]
       simp [zf2]
     · rw [if_neg hz0]
       simp only [Sem.run_bind,hrun,Sem.run_pure,Result.andThen_ok]
       rw [←h1,ziu]
       simp [zf2]
   · exact hk2.elim
 · exact hk.elim
theorem za2r (hC:TabOK C C.tab) (hR:Rel C B e h a w) {c:Call} {f:Operand} (ho:o.op=.call c) (hf:c.callee=.value f) (hk:dcore C o e h K):o.wpIn (wideR ro) nn C.P a w (After C B o e K) Q:=by
 unfold dcore at hk; rw [ho] at hk; simp only [hf] at hk
 replace hk:=zav hR hk
 split at hk
 · rename_i g u v hx
   replace hk:=zks hR hk
   rcases hC.get g with ⟨⟨⟨fn,hfn,hb,hn⟩,hcalls⟩,_⟩ | hno
   · have hc:=hcalls _ _ _ _ hR.sub hk
     refine zacb (w':=w) (f:=g) (args:=(u.toList++c.args.toList.map a.eval++v.toList).toArray) ?_ hc ?_
     · have ha:(u++c.args.map a.eval)++v=(u.toList++c.args.toList.map a.eval++v.toList).toArray:=by
        apply Array.toList_inj.1; simp
       simp only [execOp,ho,resolve,hf,Sem.run_bind,hx,Deferred.ofValue,Sem.run_pure,Result.andThen_ok,invoke,callFunc,run_program,hfn,hb,hn,Bool.false_eq_true,if_false,ha]
     · rintro e' w'' ⟨r,h',rfl,hr,hs,hfr,hd⟩
       refine ⟨r,rfl,zad (hR.step hs hfr fun k h1 h2=>hd k h1 h2) hr⟩
   · exact (hno _ _ _ hk).elim
 · exact hk.elim
end
end Den
end

section
namespace Den
open Go
variable {ro : Option Nat} {nn : Nat}
section
variable {C : Cfg} {B : Base} {e : Env} {h : Hp} {a : Act} {w : World} {K : Up → Hp → Prop} {o : Oper} {Q : Exit → Act → World → Prop}
theorem zri {P:Program} {st:ByteArray} {w':World}:(Builtin.firstCells 1 st.size (.string st)).run P w'=.ok (bytesOfS st).toArray w':=by
 simp only [Builtin.firstCells,Sem.run_pure,bytesOfS,Result.ok.injEq,and_true]
 apply Array.toList_inj.1; simp
theorem zaaw (hR:Rel C B e h a w) {x:Operand} {size:Nat} {K:Nat→List Value→Prop} (hk:srcP e x size K h) :
 ∃n vs,K n vs∧vs.length=n*size∧(∀w',(Builtin.lenOf (a.eval x)).run C.P w'=.ok n w')∧∀w',w'.heap=w.heap→(Builtin.firstCells size n (a.eval x)).run C.P w'=.ok vs.toArray w':=by
 have hsub:∀w',w'.heap=w.heap→Sub h w':=fun w' hw k b hb=>by rw [hw]; exact hR.sub k b hb
 unfold srcP at hk
 split at hk
 · rename_i t
   split at hk
   · rename_i cs n hb
     split at hk
     · rename_i hl
       have hl:=Nat.eq_of_beq_eq_true hl
       obtain ⟨_,b,el,h1,h2,_,_⟩:=hR.hid t (by rw [hb]; rfl)
       rw [hb] at h1 h2
       simp only [hidV,hidC,HidAt] at h1 h2
       refine ⟨n,cs,hk,hl,fun w'=>by rw [zc3 h1]; rfl,fun w' hw=>?_⟩
       rw [zc3 h1]
       rw [←hw] at h2
       simp only [Builtin.firstCells,loadCells]
       rw [zkp h2 (by omega),←hl]
       simp
     · exact hk.elim
   · rename_i ad n c hb
     obtain ⟨vs,hvs,hk⟩:=hk
     rw [zc3 (hR.vals t _ hb)]
     cases ad with
     | none=>
       simp only [cellsAtO] at hvs
       split at hvs
       · rename_i hz
         simp only [Option.some.injEq] at hvs; subst hvs
         exact ⟨n,[],hk,by simp [hz],(fun w'=>rfl),fun w' _=>by simp [Builtin.firstCells]⟩
       · cases hvs
     | some ad=>
       simp only [cellsAtO] at hvs
       exact ⟨n,vs,hk,(zl6 hR.sub hvs).1,(fun w'=>rfl),fun w' hw=>by simp only [Builtin.firstCells]; exact zew (hsub w' hw) hvs⟩
   · rename_i st hb
     split at hk
     · rename_i hsz
       obtain rfl:=Nat.eq_of_beq_eq_true hsz
       rw [zc3 (hR.vals t _ hb)]
       exact ⟨st.size,bytesOfS st,hk,(by simp [bytesOfS]),(fun w'=>rfl),fun w' _=>zri⟩
     · exact hk.elim
   · exact hk.elim
 · rename_i ad n c
   obtain ⟨vs,hvs,hk⟩:=hk
   cases ad with
   | none=>
     simp only [cellsAtO] at hvs
     split at hvs
     · rename_i hz
       simp only [Option.some.injEq] at hvs; subst hvs
       exact ⟨n,[],hk,by simp [hz],(fun w'=>rfl),fun w' _=>by simp [Builtin.firstCells,Act.eval]⟩
     · cases hvs
   | some ad=>
     simp only [cellsAtO] at hvs
     exact ⟨n,vs,hk,(zl6 hR.sub hvs).1,(fun w'=>rfl),fun w' hw=>by simp only [Builtin.firstCells,Act.eval]; exact zew (hsub w' hw) hvs⟩
 · rename_i st
   split at hk
   · rename_i hsz
     obtain rfl:=Nat.eq_of_beq_eq_true hsz
     exact ⟨st.size,bytesOfS st,hk,(by simp [bytesOfS]),(fun w'=>rfl),fun w' _=>zri⟩
   · exact hk.elim
 · exact hk.elim
theorem zmo {P:Program} {b:Nat} {es:Array MapEntry} {c:Nat} (hb:w.heap[b]?=some (.map es c)):(getObj b).run P w=.ok (.map es c) w:=by
 simp [getObj,Sem.run,hb]
theorem zsb {P:Program} {t:TypeId} {p:Prop} (hk:mapT P t p):∃k v i,P.underlying t=some (.map k v)∧P.underlying k=some (.int .i64)∧P.info? v=some i∧i.zero=some (.bool false)∧p:=by
 unfold mapT at hk
 split at hk
 · rename_i k v h1
   split at hk
   · rename_i i h2 h3
     split at hk
     · rename_i h4
       exact ⟨k,v,i,h1,h2,h3,h4,hk⟩
     · exact hk.elim
   · exact hk.elim
 · exact hk.elim
theorem zaa1 (hR:Rel C B e h a w) {c:Call} {x:Operand} (ho:o.op=.call c) (hf:c.callee=.builtin .len) (hx:c.args.toList=[x])
 (hk:builtinP C .len c.argTypes.toList [x] e h o.dst K):o.wpIn (wideR ro) nn C.P a w (After C B o e K) Q:=by
 unfold builtinP at hk
 simp only at hk
 have hargs:c.args=#[x]:=by rw [←Array.toList_inj]; exact hx
 rcases zph hR hk with ⟨s,m,b,el,rfl,hm,hk,h1,h1',⟨es,clock,h2,h3⟩,_⟩ | hk
 · split at hk
   · rename_i t ht
     have htypes:c.argTypes=#[t]:=by rw [←Array.toList_inj]; exact ht
     obtain ⟨kt,vt,i,hu,_,_,_,hk⟩:=zsb hk
     have hlen:es.size=m.length:=by
      have:=congrArg List.length h3
      simpa using this
     refine zar (w':=w) ?_ (zad hR hk)
     simp only [execOp,ho,resolve,hf,hargs,htypes,Sem.run_bind,Sem.run_pure,Result.andThen_ok,invoke,builtin,Builtin.len_]
     simp [zc3 h1,za6 hu,goInt,zmo h2,hlen]
   · exact hk.elim
 replace hk:=zav hR hk
 split at hk
 · rename_i s t hv ht
   have htypes:c.argTypes=#[t]:=by rw [←Array.toList_inj]; exact ht
   split at hk
   · rename_i hu
     refine zar (w':=w) ?_ (zad hR hk)
     simp only [execOp,ho,resolve,hf,hargs,htypes,Sem.run_bind,Sem.run_pure,Result.andThen_ok,invoke,builtin,Builtin.len_]
     simp [hv,za6 hu,goInt]
   · exact hk.elim
 · rename_i ad n c' t hv ht
   have htypes:c.argTypes=#[t]:=by rw [←Array.toList_inj]; exact ht
   split at hk
   · rename_i hu
     refine zar (w':=w) ?_ (zad hR hk)
     simp only [execOp,ho,resolve,hf,hargs,htypes,Sem.run_bind,Sem.run_pure,Result.andThen_ok,invoke,builtin,Builtin.len_]
     simp [hv,za6 hu,goInt]
   · exact hk.elim
 · exact hk.elim
theorem zwm (hR:Rel C B e h a w) {t:TypeId} (ho:o.op=.makeMap t none) (hk:dcore C o e h K):o.wpIn (wideR ro) nn C.P a w (After C B o e K) Q:=by
 unfold dcore at hk; rw [ho] at hk; simp only at hk
 unfold retMap at hk
 split at hk
 · exact hk.elim
 · rename_i d hd
   split at hk
   · rename_i hl hn _ hno
     refine zar (w':=w.alloc (.map #[] 0)) (v:=.map (some w.heap.size)) (by simp only [execOp,ho]; rfl) ⟨_,_,hk,?_,fun d' hd'=>?_⟩
     · rw [hd]
       refine hR.allocHid (el:=0) (s:=.mp []) hl (by have:=hn; unfold Nat.blt at this; have:=Nat.le_of_ble_eq_true this; omega) rfl ⟨#[],0,zlo,rfl⟩ fun t ht _=>?_
       have:=List.all_eq_true.1 hno t (List.mem_range.2 (hR.mrs t ht).1)
       rw [ht] at this; cases this
     · simp only [Up.dst,Option.some.injEq] at hd'; subst hd'; simp [modsO,hd]
   · exact hk.elim
theorem zn1:∀{es:List MapEntry} {m:List (Int×Bool)} {n:Int} {i:Nat},es.map (fun x=>(x.key,x.val))=m.map (fun p=>((.int .i64 p.1:Value),(.bool p.2:Value))) →
 (Instr.findNow (.int .i64) (.int .i64 n) es i=some none∧mget m n=false∧∀b,mput m n b=m++[(n,b)]) ∨
 (∃j v,Instr.findNow (.int .i64) (.int .i64 n) es i=some (some (i+j,.bool v))∧mget m n=v∧j<m.length∧(∃q,es[j]?=some q∧q.key=.int .i64 n)∧∀b,mput m n b=m.set j (n,b))
 | [],[],n,i,_=>.inl ⟨rfl,rfl,fun _=>rfl⟩
 | [],_ :: _,_,_,h=>by cases h
 | _ :: _,[],_,_,h=>by cases h
 | x :: es,p :: m,n,i,h=>by
   simp only [List.map_cons,List.cons.injEq,Prod.mk.injEq] at h
   obtain ⟨⟨h1,h2⟩,h3⟩:=h
   unfold Instr.findNow
   have hs:Instr.sameNow (.int .i64) (.int .i64 n) x.key=some (n==p.1):=by rw [h1]; simp [Instr.sameNow]
   rw [hs]
   by_cases hn:n=p.1
   · right
     refine ⟨0,p.2,?_,?_,by simp,⟨x,rfl,by rw [h1,hn]⟩,fun b=>?_⟩
     · simp [hn,h2]
     · unfold mget; rw [decide_eq_true hn]; rfl
     · unfold mput; rw [decide_eq_true hn]; rfl
   · have hb:(n==p.1)=false:=by simpa using hn
     rw [hb]
     simp only
     rcases zn1 (n:=n) (i:=i+1) h3 with ⟨g1,g2,g3⟩ | ⟨j,v,g1,g2,g3,g4,g5⟩
     · refine .inl ⟨g1,?_,fun b=>?_⟩
       · unfold mget; rw [decide_eq_false hn]; exact g2
       · unfold mput; rw [decide_eq_false hn]; simp only [cond_false,g3,List.cons_append]
     · refine .inr ⟨j+1,v,?_,?_,by simpa using g3,by simpa using g4,fun b=>?_⟩
       · rw [g1]; congr 3; omega
       · unfold mget; rw [decide_eq_false hn]; exact g2
       · unfold mput; rw [decide_eq_false hn]; simp only [cond_false,g5,List.set_cons_succ]
theorem run_findKey' {P:Program} {kt:TypeId} {d:TypeDesc} {k:Value} {l:List MapEntry} {a:Option (Nat×Value)} (hd:P.underlying kt=some d) (h:Instr.findNow d k l 0=some a):(Instr.findKey kt k l).run P w=.ok a w:=by
 unfold Instr.findKey
 simp only [Sem.run_bind,za6 hd,Result.andThen_ok,h,Sem.run_pure]
theorem znd {P:Program} {kt:TypeId} {b:Bool} {n:Int} (hd:P.underlying kt=some (.int .i64)):(Instr.checkKey b 10000 kt (.int .i64 n)).run P w=.ok () w:=by
 unfold Instr.checkKey
 simp only [Sem.run_bind,za6 hd,Result.andThen_ok,Sem.run_pure]
theorem zaam {P:Program} {t:TypeId} {i:TypeInfo} {z:Value} (hi:P.info? t=some i) (hz:i.zero=some z):(zeroValue t).run P w=.ok z w:=by
 simp [zeroValue,typeInfo,hi,hz]
theorem za07 (hR:Rel C B e h a w) {t:TypeId} {x ix:Operand} (ho:o.op=.lookup t x ix false) (hk:dcore C o e h K):o.wpIn (wideR ro) nn C.P a w (After C B o e K) Q:=by
 unfold dcore at hk; rw [ho] at hk; simp only at hk
 replace hk:=zav hR hk
 obtain ⟨kt,vt,i,hu,hkt,hi,hz,hk⟩:=zsb hk
 rcases zph hR hk with ⟨s,m,b,el,rfl,hm,hk,h1,h1',⟨es,clock,h2,h3⟩,_⟩ | hk
 · split at hk
   · rename_i n hn
     refine zar (w':=w) ?_ (zad hR hk)
     simp only [execOp,ho,zc3 h1,hn,Instr.lookup,Sem.run_bind,za6 hu,Result.andThen_ok,zmo h2,Sem.run_pure,znd hkt]
     rcases zn1 (n:=n) (i:=0) h3 with ⟨g1,g2,_⟩ | ⟨j,v,g1,g2,_⟩
     · simp only [run_findKey' hkt g1,Result.andThen_ok,Sem.run_bind,zaam hi hz,Sem.run_pure,g2]
       rfl
     · simp only [run_findKey' hkt g1,Result.andThen_ok,Sem.run_bind,Sem.run_pure,g2]
       rfl
   · exact hk.elim
 · exact hk.elim
theorem ztz {b:Nat} {es:Array MapEntry} {c:Nat} {o':Obj} (hb:w.heap[b]?=some (.map es c)):(setObj b o').run C.P w=.ok () (setBlk w b o'):=by
 have hlt:=zcu hb
 simp [setObj,Sem.run,hb,setBlk]
theorem zuh (hR:Rel C B e h a w) {t:TypeId} {x k y:Operand} (ho:o.op=.mapUpdate t x k y) (hk:dcore C o e h K):o.wpIn (wideR ro) nn C.P a w (After C B o e K) Q:=by
 unfold dcore at hk; rw [ho] at hk; simp only at hk
 replace hk:=zav hR (zav hR hk)
 obtain ⟨kt,vt,i,hu,hkt,hi,hz,hk⟩:=zsb hk
 rcases zph hR hk with ⟨s,m,b,el,rfl,hm,hk,h1,h1',⟨es,clock,h2,h3⟩,_⟩ | hk
 · split at hk
   · rename_i n v hn hv hd
     have hlt:=zcu h2
     have fin:∀es' clock',(execOp a.eval o).run C.P w=.ok .skip (setBlk w b (.map es' clock'))→es'.toList.map (fun x=>(x.key,x.val))=(mput m n v).map (fun p=>((.int .i64 p.1:Value),(.bool p.2:Value))) →
      o.wpIn (wideR ro) nn C.P a w (After C B o e K) Q:=fun es' clock' hrun hes=>by
      refine zre hrun ⟨_,_,hk,?_,fun d' hd'=>?_⟩
      · rw [hd]
        exact hR.setHid (y:=.mp (mput m n v)) (el:=0) hm rfl rfl (fun _=>rfl) (fun _ hh=>by cases hh) (fun _ hh=>by cases hh) h1' ⟨es',clock',zhj hlt,hes⟩ (fun q hq=>zif hq) zj3 rfl rfl rfl (Nat.le_refl _)
      · simp only [Up.dst,Option.some.injEq] at hd'; subst hd'; simp [modsO,ho]
     rcases zn1 (n:=n) (i:=0) h3 with ⟨g1,_,g2⟩ | ⟨j,u,g1,_,g3,⟨q,g4,g5⟩,g6⟩
     · refine fin (es.push { key:=.int .i64 n,val:=.bool v,born:=clock }) (clock+1) ?_ ?_
       · simp only [execOp,ho,zc3 h1,hn,hv,Instr.mapUpdate,Sem.run_bind,za6 hu,Result.andThen_ok,zmo h2,Sem.run_pure,znd hkt,run_findKey' hkt g1,ztz h2]
       · rw [g2,Array.toList_push,List.map_append,List.map_append,h3]; rfl
     · rw [Nat.zero_add] at g1
       have hq:es[j]?=some q:=by rw [←Array.getElem?_toList]; exact g4
       refine fin (es.modify j fun x=>{ x with key:=.int .i64 n,val:=.bool v }) clock ?_ ?_
       · have hst:∀W:World,(Instr.keyThatStays (.int .i64 n) (.int .i64 n)).run C.P W=.ok (.int .i64 n) W:=fun W=>by
          unfold Instr.keyThatStays
          rw [if_pos (by simp [Instr.sameBits])]
          rfl
         simp only [execOp,ho,zc3 h1,hn,hv,Instr.mapUpdate,Sem.run_bind,za6 hu,Result.andThen_ok,zmo h2,Sem.run_pure,znd hkt,run_findKey' hkt g1,hq,Option.map_some,Option.getD_some,g5,hst,ztz h2]
       · rw [g6]
         apply List.ext_getElem?
         intro z
         have h3z:=congrArg (fun l=>l[z]?) h3
         simp only [List.getElem?_map,Array.getElem?_toList,Array.getElem?_modify,List.getElem?_set] at h3z ⊢
         by_cases hjz:j=z
         · subst hjz
           simp [hq,g3]
         · simp only [hjz,if_false]
           exact h3z
   · exact hk.elim
 · exact hk.elim
theorem zaa0 (hR:Rel C B e h a w) {c:Call} {x:Operand} (ho:o.op=.call c) (hf:c.callee=.builtin .cap) (hx:c.args.toList=[x])
 (hk:builtinP C .cap c.argTypes.toList [x] e h o.dst K):o.wpIn (wideR ro) nn C.P a w (After C B o e K) Q:=by
 unfold builtinP at hk
 simp only at hk
 replace hk:=zav hR hk
 have hargs:c.args=#[x]:=by rw [←Array.toList_inj]; exact hx
 split at hk
 · rename_i ad n c' t hv ht
   have htypes:c.argTypes=#[t]:=by rw [←Array.toList_inj]; exact ht
   split at hk
   · rename_i hu
     refine zar (w':=w) ?_ (zad hR hk)
     simp only [execOp,ho,resolve,hf,hargs,htypes,Sem.run_bind,Sem.run_pure,Result.andThen_ok,invoke,builtin,Builtin.cap_]
     simp [hv,za6 hu,goInt]
   · exact hk.elim
 · exact hk.elim
theorem zaa2 (hR:Rel C B e h a w) {c:Call} {x y:Operand} (ho:o.op=.call c) (hf:c.callee=.builtin .max) (hx:c.args.toList=[x,y])
 (hk:builtinP C .max c.argTypes.toList [x,y] e h o.dst K):o.wpIn (wideR ro) nn C.P a w (After C B o e K) Q:=by
 unfold builtinP at hk
 simp only at hk
 replace hk:=zav hR (zav hR hk)
 have hargs:c.args=#[x,y]:=by rw [←Array.toList_inj]; exact hx
 generalize hu:a.eval x=u at hk
 generalize hv:a.eval y=v at hk
 unfold maxP at hk
 split at hk
 · rename_i k p k' q heq
   simp only [List.cons.injEq,and_true] at heq
   obtain ⟨rfl,rfl⟩:=heq
   obtain ⟨rfl,_⟩:=zcm.1 hk
   refine zar (w':=w) ?_ (zad hR (zcm.1 hk).2)
   simp [execOp,ho,resolve,hf,hargs,invoke,builtin,Builtin.max_,hu,hv,Builtin.max2,maxI]
 · exact hk.elim
theorem zaa3 (hR:Rel C B e h a w) {c:Call} {x y:Operand} (ho:o.op=.call c) (hf:c.callee=.builtin .min) (hx:c.args.toList=[x,y])
 (hk:builtinP C .min c.argTypes.toList [x,y] e h o.dst K):o.wpIn (wideR ro) nn C.P a w (After C B o e K) Q:=by
 unfold builtinP at hk
 simp only at hk
 replace hk:=zav hR (zav hR hk)
 have hargs:c.args=#[x,y]:=by rw [←Array.toList_inj]; exact hx
 generalize hu:a.eval x=u at hk
 generalize hv:a.eval y=v at hk
 unfold minP at hk
 split at hk
 · rename_i k p k' q heq
   simp only [List.cons.injEq,and_true] at heq
   obtain ⟨rfl,rfl⟩:=heq
   obtain ⟨rfl,_⟩:=zcm.1 hk
   refine zar (w':=w) ?_ (zad hR (zcm.1 hk).2)
   simp [execOp,ho,resolve,hf,hargs,invoke,builtin,Builtin.min_,hu,hv,Builtin.min2,minI]
 · exact hk.elim
theorem za2h (hR:Rel C B e h a w) {t t2 ty el el2:TypeId} {i:TypeInfo} {z:Value} {s:Sl} {y:Value} {n:Nat} {new:List Value}
 (hu:C.P.underlying t=some (.slice el)) (hu2:C.P.underlying t2=some (.slice el2)) (hi:C.P.info? el=some i) (hz:∀w,(zeroValue el).run C.P w=.ok z w)
 (hsz:z.cells.size=i.size) (hy:∀w',(Builtin.lenOf y).run C.P w'=.ok n w')
 (hnew:∀w',w'.heap=w.heap→(Builtin.firstCells i.size n y).run C.P w'=.ok new.toArray w') {K:Sl→Hp→Prop}
 (hk:appT el i.size i.bytes z.cells.toList s n new K h) :
 ∃r h' w',K r h'∧(Builtin.append_ #[t,t2] ty #[.slice s.a s.len s.cap,y]).run C.P w=.ok (.slice r.a r.len r.cap) w'∧Sub h' w'∧Fr h w w' ∧
  (∀k,h' k≠none→h k=none→w.heap.size≤k):=by
 obtain ⟨g1,g2,g3,g4⟩:=hk
 by_cases hfit:s.len+n≤s.cap
 · have hst:=g3 hfit
   cases hsa:s.a with
   | none=>
     rw [hsa] at hst
     refine ⟨_,h,w,hst,?_,hR.sub,Fr.refl h w,fun k h1 h2=>absurd h2 h1⟩
     simp [Builtin.append_,za6 hu,za6 hu2,zbb hi,hy,hfit,hnew w rfl]
   | some sa=>
     rw [hsa] at hst
     obtain ⟨h',w',hK,hrun,hs',hf,hd⟩:=zmu (C:=C) hR.sub hst
     refine ⟨_,h',w',hK,?_,hs',hf,hd⟩
     simp [Builtin.append_,za6 hu,za6 hu2,zbb hi,hy,hfit,hnew w rfl,hrun]
 · obtain ⟨old,hold,hall⟩:=g4 (by omega)
   have hcut:∀q,(Question.appendCap (s.len+n) s.cap el).cut q=s.len+n+q % (2 ^ 63-(s.len+n)):=fun q=>rfl
   generalize hncd:(Question.appendCap (s.len+n) s.cap el).cut (w.tape w.drawn (.appendCap (s.len+n) s.cap el))=nc
   have hnc:s.len+n≤nc:=by rw [←hncd,hcut]; omega
   have hR1:=hR.drew
   have hR2:=hR1.alloc (old++new++repl (nc-(s.len+n)) z.cells.toList) el
   have hfr:h w.heap.size=none:=hR.sub.fresh (Nat.le_refl _)
   refine ⟨_,_,_,hall w.heap.size nc hnc hfr,?_,hR2.sub,?_,?_⟩
   · have hcap:=zpk (show s.cap<s.len+n by omega)
     have hb:¬(Builtin.nextslicecap (s.len+n) s.cap*i.bytes>2 ^ 48):=by
      have:=Nat.mul_le_mul_right i.bytes hcap
      have h3:2*(s.len+n)*i.bytes=2*((s.len+n)*i.bytes):=by rw [Nat.mul_assoc]
      omega
     have hbig:¬(((s.len+n:Nat):Int)>IntKind.i64.max):=by
      intro h1
      simp [IntKind.max,IntKind.signed,IntKind.bits] at h1
      omega
     have hold':∀w',w'.heap=w.heap→(Builtin.firstCells i.size s.len (.slice s.a s.len s.cap)).run C.P w'=.ok old.toArray w':=by
      intro w' hw
      have hsub:Sub h w':=fun k b hb=>by rw [hw]; exact hR.sub k b hb
      cases hsa:s.a with
      | none=>
        rw [hsa] at hold
        simp only [cellsAtO] at hold
        split at hold
        · simp only [Option.some.injEq] at hold; subst hold; simp [Builtin.firstCells]
        · cases hold
      | some sa=>
        rw [hsa] at hold
        simp only [Builtin.firstCells]
        exact zew hsub hold
     have hzc:Builtin.zeroCells z.cells (nc-(s.len+n))=(repl (nc-(s.len+n)) z.cells.toList).toArray:=ziu
     have hforced:(Question.appendCap (s.len+n) s.cap el).forced=false:=rfl
     have hty:(typeInfo el).run C.P w=.ok i w:=by simp [typeInfo,hi]
     have hty':(typeInfo el).run C.P { w with drawn:=w.drawn+1 }=.ok i { w with drawn:=w.drawn+1 }:=by simp [typeInfo,hi]
     simp only [Builtin.append_,Sem.run_bind,za6 hu,za6 hu2,zbb hi,hy,Result.andThen_ok,List.getElem?_toArray,List.getElem?_cons_zero,List.getElem?_cons_succ,Sem.run_pure,
      Bool.false_eq_true,if_false,hfit,hty,false_or]
     rw [if_neg (by rintro ⟨h1,_⟩; exact hbig h1)]
     simp only [Sem.run_bind,hty,Result.andThen_ok]
     rw [if_neg hb]
     simp only [Sem.run_bind,run_choose,hforced,Bool.false_eq_true,if_false,Result.andThen_ok,hncd,hty',run_askRoom,hold' { w with drawn:=w.drawn+1 } rfl,hnew { w with drawn:=w.drawn+1 } rfl,hz,hzc,zf2,Sem.run_pure,Bool.not_false,if_true]
     simp
   · have f1:=zon h w
     have f2:=Fr.alloc h { w with drawn:=w.drawn+1 } (.cells (old++new++repl (nc-(s.len+n)) z.cells.toList).toArray el (0,0))
     exact ⟨Nat.le_trans f1.1 f2.1,fun k hk1 hk2=>(f2.2.1 k hk1 hk2).trans (f1.2.1 k hk1 hk2),rfl,rfl,rfl,Nat.le_succ _⟩
   · intro k h1 h2
     by_cases hkb:k=w.heap.size
     · omega
     · rw [Hp.ins_ne hkb] at h1; exact absurd h2 h1
theorem zzy (hR:Rel C B e h a w) {t t2 ty el:TypeId} {i:TypeInfo} {z:Value} {s:Sl} {y:Value} {n:Nat} {new:List Value}
 (hu:C.P.underlying t=some (.slice el)) (hu2:C.P.underlying t2=some .string) (hi:C.P.info? el=some i) (hz:∀w,(zeroValue el).run C.P w=.ok z w)
 (hsz:z.cells.size=i.size) (hy:∀w',(Builtin.lenOf y).run C.P w'=.ok n w')
 (hnew:∀w',w'.heap=w.heap→(Builtin.firstCells i.size n y).run C.P w'=.ok new.toArray w') {K:Sl→Hp→Prop}
 (hk:appT el i.size i.bytes z.cells.toList s n new K h) :
 ∃r h' w',K r h'∧(Builtin.append_ #[t,t2] ty #[.slice s.a s.len s.cap,y]).run C.P w=.ok (.slice r.a r.len r.cap) w'∧Sub h' w'∧Fr h w w' ∧
  (∀k,h' k≠none→h k=none→w.heap.size≤k):=by
 obtain ⟨g1,g2,g3,g4⟩:=hk
 by_cases hfit:s.len+n≤s.cap
 · have hst:=g3 hfit
   cases hsa:s.a with
   | none=>
     rw [hsa] at hst
     refine ⟨_,h,w,hst,?_,hR.sub,Fr.refl h w,fun k h1 h2=>absurd h2 h1⟩
     simp [Builtin.append_,za6 hu,za6 hu2,zbb hi,hy,hfit,hnew w rfl]
   | some sa=>
     rw [hsa] at hst
     obtain ⟨h',w',hK,hrun,hs',hf,hd⟩:=zmu (C:=C) hR.sub hst
     refine ⟨_,h',w',hK,?_,hs',hf,hd⟩
     simp [Builtin.append_,za6 hu,za6 hu2,zbb hi,hy,hfit,hnew w rfl,hrun]
 · obtain ⟨old,hold,hall⟩:=g4 (by omega)
   have hcut:∀q,(Question.appendCap (s.len+n) s.cap el).cut q=s.len+n+q % (2 ^ 63-(s.len+n)):=fun q=>rfl
   generalize hncd:(Question.appendCap (s.len+n) s.cap el).cut (w.tape w.drawn (.appendCap (s.len+n) s.cap el))=nc
   have hnc:s.len+n≤nc:=by rw [←hncd,hcut]; omega
   have hR1:=hR.drew
   have hR2:=hR1.alloc (old++new++repl (nc-(s.len+n)) z.cells.toList) el
   have hfr:h w.heap.size=none:=hR.sub.fresh (Nat.le_refl _)
   refine ⟨_,_,_,hall w.heap.size nc hnc hfr,?_,hR2.sub,?_,?_⟩
   · have hcap:=zpk (show s.cap<s.len+n by omega)
     have hb:¬(Builtin.nextslicecap (s.len+n) s.cap*i.bytes>2 ^ 48):=by
      have:=Nat.mul_le_mul_right i.bytes hcap
      have h3:2*(s.len+n)*i.bytes=2*((s.len+n)*i.bytes):=by rw [Nat.mul_assoc]
      omega
     have hbig:¬(((s.len+n:Nat):Int)>IntKind.i64.max):=by
      intro h1
      simp [IntKind.max,IntKind.signed,IntKind.bits] at h1
      omega
     have hold':∀w',w'.heap=w.heap→(Builtin.firstCells i.size s.len (.slice s.a s.len s.cap)).run C.P w'=.ok old.toArray w':=by
      intro w' hw
      have hsub:Sub h w':=fun k b hb=>by rw [hw]; exact hR.sub k b hb
      cases hsa:s.a with
      | none=>
        rw [hsa] at hold
        simp only [cellsAtO] at hold
        split at hold
        · simp only [Option.some.injEq] at hold; subst hold; simp [Builtin.firstCells]
        · cases hold
      | some sa=>
        rw [hsa] at hold
        simp only [Builtin.firstCells]
        exact zew hsub hold
     have hzc:Builtin.zeroCells z.cells (nc-(s.len+n))=(repl (nc-(s.len+n)) z.cells.toList).toArray:=ziu
     have hforced:(Question.appendCap (s.len+n) s.cap el).forced=false:=rfl
     have hty:(typeInfo el).run C.P w=.ok i w:=by simp [typeInfo,hi]
     have hty':(typeInfo el).run C.P { w with drawn:=w.drawn+1 }=.ok i { w with drawn:=w.drawn+1 }:=by simp [typeInfo,hi]
     simp only [Builtin.append_,Sem.run_bind,za6 hu,za6 hu2,zbb hi,hy,Result.andThen_ok,List.getElem?_toArray,List.getElem?_cons_zero,List.getElem?_cons_succ,Sem.run_pure,
      Bool.false_eq_true,if_false,hfit,hty,false_or]
     rw [if_neg (by rintro ⟨h1,_⟩; exact hbig h1)]
     simp only [Sem.run_bind,hty,Result.andThen_ok]
     rw [if_neg hb]
     simp only [Sem.run_bind,run_choose,hforced,Bool.false_eq_true,if_false,Result.andThen_ok,hncd,hty',run_askRoom,hold' { w with drawn:=w.drawn+1 } rfl,hnew { w with drawn:=w.drawn+1 } rfl,hz,hzc,zf2,Sem.run_pure,Bool.not_false,if_true]
     simp
   · have f1:=zon h w
     have f2:=Fr.alloc h { w with drawn:=w.drawn+1 } (.cells (old++new++repl (nc-(s.len+n)) z.cells.toList).toArray el (0,0))
     exact ⟨Nat.le_trans f1.1 f2.1,fun k hk1 hk2=>(f2.2.1 k hk1 hk2).trans (f1.2.1 k hk1 hk2),rfl,rfl,rfl,Nat.le_succ _⟩
   · intro k h1 h2
     by_cases hkb:k=w.heap.size
     · omega
     · rw [Hp.ins_ne hkb] at h1; exact absurd h2 h1
theorem zzz (hR:Rel C B e h a w) {t t2 ty el:TypeId} {i:TypeInfo} {z:Value} {s:Sl} {k ik:IntKind} {m:Int}
 (hu:C.P.underlying t=some (.slice el)) (hu2:C.P.underlying t2=some (.int ik)) (hi:C.P.info? el=some i) (hz:∀w,(zeroValue el).run C.P w=.ok z w)
 (hsz:z.cells.size=i.size) (hne:i.size≠0) (hm:0≤m) {K:Sl→Hp→Prop}
 (hk:appT el i.size i.bytes z.cells.toList s m.toNat (repl m.toNat z.cells.toList) K h) :
 ∃r h' w',K r h'∧(Builtin.append_ #[t,t2] ty #[.slice s.a s.len s.cap,.int k m]).run C.P w=.ok (.slice r.a r.len r.cap) w'∧Sub h' w'∧Fr h w w' ∧
  (∀k,h' k≠none→h k=none→w.heap.size≤k):=by
 obtain ⟨n,rfl⟩:=Int.eq_ofNat_of_zero_le hm
 rw [Int.toNat_natCast] at hk
 obtain ⟨g1,g2,g3,g4⟩:=hk
 have hwr:IntKind.i64.wrap (n:Int)=n:=by
  simp only [IntKind.wrap,IntKind.bits,IntKind.signed]
  simp; omega
 have hnb:¬((n:Int)*(i.bytes:Int)>2 ^ 48):=by
  have:n*i.bytes≤(s.len+n)*i.bytes:=Nat.mul_le_mul_right _ (by omega)
  have h2:((n*i.bytes:Nat):Int)≤140737488355328:=by omega
  rw [Int.natCast_mul] at h2
  omega
 have hn0:¬((n:Int)<0):=by omega
 have hty:∀w',(typeInfo el).run C.P w'=.ok i w':=fun w'=>by simp [typeInfo,hi]
 have hzc:∀n,Builtin.zeroCells z.cells n=(repl n z.cells.toList).toArray:=fun n=>ziu
 have happ:∀w',((if n*i.size=0 then pure #[] else do pure (Builtin.zeroCells (←zeroValue el).cells n)):Sem (Array Value)).run C.P w'=.ok (repl n z.cells.toList).toArray w':=fun w'=>by
  split
  · rename_i h0
    have:n=0:=by
     rcases Nat.mul_eq_zero.1 h0 with h1 | h1
     · exact h1
     · exact absurd h1 hne
    subst this
    simp [repl]
  · simp [hz,hzc]
 have hint:∀w',(asInt (.int k (n:Int))).run C.P w'=.ok (n:Int) w':=fun w'=>by simp [asInt,asIntOf]
 have hbig:¬(((s.len+n:Nat):Int)>IntKind.i64.max):=by
  intro h1
  simp [IntKind.max,IntKind.signed,IntKind.bits] at h1
  omega
 by_cases hfit:s.len+n≤s.cap
 · have hst:=g3 hfit
   cases hsa:s.a with
   | none=>
     rw [hsa] at hst
     refine ⟨_,h,w,hst,?_,hR.sub,Fr.refl h w,fun k h1 h2=>absurd h2 h1⟩
     simp only [Builtin.append_,Sem.run_bind,za6 hu,za6 hu2,zbb hi,Result.andThen_ok,List.getElem?_toArray,List.getElem?_cons_zero,List.getElem?_cons_succ,Sem.run_pure,hint,hwr,if_true,hty,if_neg hn0,if_neg hnb,Int.toNat_natCast,Bool.not_true,Bool.false_eq_true,if_false,hfit,happ]
   | some sa=>
     rw [hsa] at hst
     obtain ⟨h',w',hK,hrun,hs',hf,hd⟩:=zmu (C:=C) hR.sub hst
     refine ⟨_,h',w',hK,?_,hs',hf,hd⟩
     simp only [Builtin.append_,Sem.run_bind,za6 hu,za6 hu2,zbb hi,Result.andThen_ok,List.getElem?_toArray,List.getElem?_cons_zero,List.getElem?_cons_succ,Sem.run_pure,hint,hwr,if_true,hty,if_neg hn0,if_neg hnb,Int.toNat_natCast,Bool.not_true,Bool.false_eq_true,if_false,hfit,happ,hrun]
 · obtain ⟨old,hold,hall⟩:=g4 (by omega)
   have hcut:∀q,(Question.appendCap (s.len+n) s.cap el).cut q=s.len+n+q % (2 ^ 63-(s.len+n)):=fun q=>rfl
   generalize hncd:(Question.appendCap (s.len+n) s.cap el).cut (w.tape w.drawn (.appendCap (s.len+n) s.cap el))=nc
   have hnc:s.len+n≤nc:=by rw [←hncd,hcut]; omega
   have hR1:=hR.drew
   have hR2:=hR1.alloc (old++repl n z.cells.toList++repl (nc-(s.len+n)) z.cells.toList) el
   have hfr:h w.heap.size=none:=hR.sub.fresh (Nat.le_refl _)
   refine ⟨_,_,_,hall w.heap.size nc hnc hfr,?_,hR2.sub,?_,?_⟩
   · have hcap:=zpk (show s.cap<s.len+n by omega)
     have hb:¬(Builtin.nextslicecap (s.len+n) s.cap*i.bytes>2 ^ 48):=by
      have:=Nat.mul_le_mul_right i.bytes hcap
      have h3:2*(s.len+n)*i.bytes=2*((s.len+n)*i.bytes):=by rw [Nat.mul_assoc]
      omega
     have hold':∀w',w'.heap=w.heap→(Builtin.firstCells i.size s.len (.slice s.a s.len s.cap)).run C.P w'=.ok old.toArray w':=by
      intro w' hw
      have hsub:Sub h w':=fun k b hb=>by rw [hw]; exact hR.sub k b hb
      cases hsa:s.a with
      | none=>
        rw [hsa] at hold
        simp only [cellsAtO] at hold
        split at hold
        · simp only [Option.some.injEq] at hold; subst hold; simp [Builtin.firstCells]
        · cases hold
      | some sa=>
        rw [hsa] at hold
        simp only [Builtin.firstCells]
        exact zew hsub hold
     have hforced:(Question.appendCap (s.len+n) s.cap el).forced=false:=rfl
     simp only [Builtin.append_,Sem.run_bind,za6 hu,za6 hu2,zbb hi,Result.andThen_ok,List.getElem?_toArray,List.getElem?_cons_zero,List.getElem?_cons_succ,Sem.run_pure,hint,hwr,if_true,hty,if_neg hn0,if_neg hnb,Int.toNat_natCast,Bool.not_true,Bool.false_eq_true,if_false,hfit]
     rw [if_neg (by rintro ⟨h1,_⟩; exact hbig h1)]
     simp only [Sem.run_bind,hty,Result.andThen_ok]
     rw [if_neg hb]
     simp only [Sem.run_bind,run_choose,hforced,Bool.false_eq_true,if_false,Result.andThen_ok,hncd,hty,run_askRoom,hold' { w with drawn:=w.drawn+1 } rfl,happ,hz,hzc,zf2,Sem.run_pure]
     simp
   · have f1:=zon h w
     have f2:=Fr.alloc h { w with drawn:=w.drawn+1 } (.cells (old++repl n z.cells.toList++repl (nc-(s.len+n)) z.cells.toList).toArray el (0,0))
     exact ⟨Nat.le_trans f1.1 f2.1,fun k hk1 hk2=>(f2.2.1 k hk1 hk2).trans (f1.2.1 k hk1 hk2),rfl,rfl,rfl,Nat.le_succ _⟩
   · intro k h1 h2
     by_cases hkb:k=w.heap.size
     · omega
     · rw [Hp.ins_ne hkb] at h1; exact absurd h2 h1
end
end Den
end

section
namespace Den
open Go
variable {ro : Option Nat} {nn : Nat}
section
variable {C : Cfg} {B : Base} {e : Env} {h : Hp} {a : Act} {w : World} {K : Up → Hp → Prop} {o : Oper} {Q : Exit → Act → World → Prop}
theorem za7p {P:Program} {t:TypeId} {p:Prop} (hk:noInt P t p):((∃e,P.underlying t=some (.slice e))∨P.underlying t=some .string)∧p:=by
 unfold noInt at hk
 split at hk
 · rename_i e he; exact ⟨.inl ⟨e,he⟩,hk⟩
 · rename_i he; exact ⟨.inr he,hk⟩
 · exact hk.elim
theorem za06 (hR:Rel C B e h a w) {c:Call} {x y:Operand} (ho:o.op=.call c) (hf:c.callee=.builtin .append) (hx:c.args.toList=[x,y])
 (hk:builtinP C .append c.argTypes.toList [x,y] e h o.dst K):o.wpIn (wideR ro) nn C.P a w (After C B o e K) Q:=by
 unfold builtinP at hk
 simp only at hk
 have hargs:c.args=#[x,y]:=by rw [←Array.toList_inj]; exact hx
 split at hk
 · rename_i t t2 ht
   have htypes:c.argTypes=#[t,t2]:=by rw [←Array.toList_inj]; exact ht
   unfold selI at hk
   split at hk
   · rename_i ik hu2
     obtain ⟨el,i,hu,hi,hk2⟩:=zgs hk
     obtain ⟨i',z,hi',hz0,hk3,hz⟩:=zjt hk2
     obtain rfl:i=i':=by rw [hi] at hi'; exact Option.some.inj hi'
     split at hk3
     · rename_i h1 h2
       have h1:=Nat.eq_of_beq_eq_true h1
       rw [zbx hi] at h1
       have h1':z.cells.size=i.size:=by simpa using h1
       have h2':i.size≠0:=fun hh=>by rw [h1,hh] at h2; exact absurd h2 (by decide)
       replace hk3:=zav hR (zav hR hk3)
       split at hk3
       · rename_i ad n c' k m hv hu3
         rw [h1,zmy hi] at hk3
         obtain ⟨r,h',w',hK,hrun,hs,hfr,hd⟩:=zzz (ty:=o.type) hR hu hu2 hi hz h1' h2' hk3.1 (zwg (fun _ ht=>zu9 ht) hk3.2) (k:=k)
         refine zar (w':=w') ?_ (zad (hR.step hs hfr hd) hK)
         simp only [execOp,ho,resolve,hf,hargs,htypes,Sem.run_bind,Sem.run_pure,Result.andThen_ok,invoke,builtin]
         have:(#[x,y].map a.eval)=#[.slice ad n c',.int k m]:=by simp [hv,hu3]
         rw [this,hrun]
         rfl
       · exact hk3.elim
     · exact hk3.elim
   obtain ⟨hu2,hk1⟩:=za7p hk
   obtain ⟨el,i,hu,hi,hk2⟩:=zgs hk1
   obtain ⟨i',z,hi',hz0,hk3,hz⟩:=zjt hk2
   obtain rfl:i=i':=by rw [hi] at hi'; exact Option.some.inj hi'
   split at hk3
   · rename_i h1 h2
     have h1:=Nat.eq_of_beq_eq_true h1
     rw [zbx hi] at h1
     have h1':z.cells.size=i.size:=by simpa using h1
     replace hk3:=zav hR hk3
     split at hk3
     · rename_i ad n c' hv
       rw [h1,zmy hi] at hk3
       obtain ⟨m,new,hk4,hl,hy,hnew⟩:=zaaw hR hk3
       obtain ⟨r,h',w',hK,hrun,hs,hfr,hd⟩:=hu2.elim (fun ⟨el2,hu2⟩=>za2h (ty:=o.type) hR hu hu2 hi hz h1' hy hnew (zwg (fun _ ht=>zu9 ht) hk4)) (fun hu2=>zzy (ty:=o.type) hR hu hu2 hi hz h1' hy hnew (zwg (fun _ ht=>zu9 ht) hk4))
       refine zar (w':=w') ?_ (zad (hR.step hs hfr hd) hK)
       simp only [execOp,ho,resolve,hf,hargs,htypes,Sem.run_bind,Sem.run_pure,Result.andThen_ok,invoke,builtin]
       have:(#[x,y].map a.eval)=#[.slice ad n c',a.eval y]:=by simp [hv]
       rw [this,hrun]
       rfl
     · exact hk3.elim
   · exact hk3.elim
 · exact hk.elim
theorem za47 (hR:Rel C B e h a w) {c:Call} {x y:Operand} (ho:o.op=.call c) (hf:c.callee=.builtin .copy) (hx:c.args.toList=[x,y])
 (hk:builtinP C .copy c.argTypes.toList [x,y] e h o.dst K):o.wpIn (wideR ro) nn C.P a w (After C B o e K) Q:=by
 unfold builtinP at hk
 simp only at hk
 have hargs:c.args=#[x,y]:=by rw [←Array.toList_inj]; exact hx
 split at hk
 · rename_i t t2 ht
   have htypes:c.argTypes=#[t,t2]:=by rw [←Array.toList_inj]; exact ht
   obtain ⟨el,i,hu,hi,hk2⟩:=zgs hk
   replace hk2:=zav hR (zav hR hk2)
   split at hk2
   · rename_i a1 l1 c1 a2 l2 c2 hv hu2
     obtain ⟨l,hl,hst⟩:=hk2
     rw [zbx hi] at hl
     simp only at hl hst
     have hread:(Builtin.firstCells i.size (Nat.min l2 l1) (.slice a2 l2 c2)).run C.P w=.ok l.toArray w:=by
      cases a2 with
      | none=>
        simp only [cellsAtO] at hl
        split at hl
        · simp only [Option.some.injEq] at hl; subst hl; simp [Builtin.firstCells]
        · cases hl
      | some sa=>
        simp only [Builtin.firstCells]
        exact zew hR.sub hl
     have hev:(#[x,y].map a.eval)=#[.slice a1 l1 c1,.slice a2 l2 c2]:=by simp [hv,hu2]
     cases a1 with
     | none=>
       refine zar (w':=w) ?_ (zad hR hst)
       simp only [execOp,ho,resolve,hf,hargs,htypes,Sem.run_bind,Sem.run_pure,Result.andThen_ok,invoke,builtin,hev]
       simp [Builtin.copy_,za6 hu,zbb hi,Builtin.lenOf,hread,goInt]
     | some sa=>
       obtain ⟨h',w',hK,hrun,hs',hf',hd⟩:=zmu (C:=C) (ad:=sa.add 0) (vs:=l) (K:=fun h'=>retV C o.dst (.int .i64 ((Nat.min l2 l1:Nat):Int)) h' K) hR.sub hst
       refine zar (w':=w') ?_ (zad (hR.step hs' hf' hd) hK)
       have e0:sa.add 0=sa:=by cases sa; rfl
       rw [e0] at hrun
       simp only [execOp,ho,resolve,hf,hargs,htypes,Sem.run_bind,Sem.run_pure,Result.andThen_ok,invoke,builtin,hev]
       simp [Builtin.copy_,za6 hu,zbb hi,Builtin.lenOf,hread,goInt,hrun]
   · exact hk2.elim
 · exact hk.elim
theorem za2s (hR:Rel C B e h a w) {c:Call} {x:Operand} (ho:o.op=.call c) (hf:c.callee=.builtin .clear) (hx:c.args.toList=[x])
 (hk:builtinP C .clear c.argTypes.toList [x] e h o.dst K):o.wpIn (wideR ro) nn C.P a w (After C B o e K) Q:=by
 unfold builtinP at hk
 simp only at hk
 have hargs:c.args=#[x]:=by rw [←Array.toList_inj]; exact hx
 split at hk
 · rename_i t ht
   have htypes:c.argTypes=#[t]:=by rw [←Array.toList_inj]; exact ht
   obtain ⟨el,i,hu,hi,hk2⟩:=zgs hk
   obtain ⟨i2,z,_,_,hk3,hz⟩:=zjt hk2
   replace hk3:=zav hR hk3
   split at hk3
   · rename_i ad l cp hv
     obtain ⟨g0,g1⟩:=hk3
     have hev:(#[x].map a.eval)=#[.slice ad l cp]:=by simp [hv]
     by_cases hl:l=0
     · subst hl
       refine zar (w':=w) ?_ (zad hR (g0 rfl))
       simp only [execOp,ho,resolve,hf,hargs,htypes,Sem.run_bind,Sem.run_pure,Result.andThen_ok,invoke,builtin,hev]
       cases ad<;>simp [Builtin.clear_,za6 hu]
     · have g2:=g1 hl
       obtain ⟨m,rfl⟩:∃m,l=m+1:=⟨l-1,by omega⟩
       cases ad with
       | none=>
         refine zar (w':=w) ?_ (zad hR g2)
         simp only [execOp,ho,resolve,hf,hargs,htypes,Sem.run_bind,Sem.run_pure,Result.andThen_ok,invoke,builtin,hev]
         simp [Builtin.clear_,za6 hu]
       | some sa=>
         obtain ⟨h',w',hK,hrun,hs',hf',hd⟩:=zmu (C:=C) (ad:=sa.add 0) (K:=fun h'=>retV C o.dst (.tuple #[]) h' K) hR.sub g2
         refine zar (w':=w') ?_ (zad (hR.step hs' hf' hd) hK)
         have e0:sa.add 0=sa:=by cases sa; rfl
         rw [e0] at hrun
         have hzc:Builtin.zeroCells z.cells (m+1)=(repl (m+1) z.cells.toList).toArray:=ziu
         simp only [execOp,ho,resolve,hf,hargs,htypes,Sem.run_bind,Sem.run_pure,Result.andThen_ok,invoke,builtin,hev]
         simp [Builtin.clear_,za6 hu,hz,hzc,hrun]
   · exact hk3.elim
 · exact hk.elim
theorem zl7 (hC:TabOK C C.tab) (hR:Rel C B e h a w) (hk:dcore C o e h K):o.wpIn (wideR ro) nn C.P a w (After C B o e K) Q:=by
 cases ho:o.op with
 | move x=>exact zuw hR (.inl ho) hk
 | assign x=>exact zuw hR (.inr ho) hk
 | pick c x y=>exact za49 hR ho hk
 | alloc t=>exact za2o hR ho hk
 | box t x=>exact za9z hR ho hk
 | build t p=>exact za2q hR ho hk
 | buildSlice t n p=>exact zsu hR ho hk
 | load t x=>exact za48 hR ho hk
 | store t x y=>exact za2w hR ho hk
 | nilCheck x=>exact zvv hR ho hk
 | binOp op t x y t'=>exact za2p hR ho hk
 | unOp op t x=>exact za4a hR ho hk
 | convert s t x=>exact zwk hR ho hk
 | makeFunc fn u v=>
   cases fn with
   | func g=>exact zvu hR ho hk
   | _=>unfold dcore at hk; rw [ho] at hk; exact hk.elim
 | makeSlice t l c=>exact zug hR ho hk
 | slice t x lo hi mx=>
   cases mx with
   | none=>exact za2v hR ho hk
   | some m=>unfold dcore at hk; rw [ho] at hk; exact hk.elim
 | fieldAddr t x f=>exact zue hR ho hk
 | field t x f=>exact za2t hR ho hk
 | indexAddr t x ix=>exact zuf hR ho hk
 | index t x ix=>exact za2u hR ho hk
 | extract x i=>exact zwl hR ho hk
 | makeMap t r=>
   cases r with
   | none=>exact zwm hR ho hk
   | some m=>unfold dcore at hk; rw [ho] at hk; exact hk.elim
 | lookup t x ix ok=>
   cases ok with
   | false=>exact za07 hR ho hk
   | true=>unfold dcore at hk; rw [ho] at hk; exact hk.elim
 | mapUpdate t x k y=>exact zuh hR ho hk
 | call c=>
   cases hc:c.callee with
   | value f=>exact za2r hC hR ho hc hk
   | invoke r m=>unfold dcore at hk; rw [ho] at hk; simp only [hc] at hk
   | builtin b=>
     unfold dcore at hk; rw [ho] at hk; simp only [hc] at hk
     have hk0:=hk
     unfold builtinP at hk
     split at hk
     · rename_i x hx; rw [hx] at hk0; exact zaa1 hR ho hc hx hk0
     · rename_i x y hx; rw [hx] at hk0; exact zaa2 hR ho hc hx hk0
     · rename_i x y hx; rw [hx] at hk0; exact zaa3 hR ho hc hx hk0
     · rename_i x y hx; rw [hx] at hk0; exact za06 hR ho hc hx hk0
     · rename_i x y hx; rw [hx] at hk0; exact za47 hR ho hc hx hk0
     · rename_i x hx; rw [hx] at hk0; exact za2s hR ho hc hx hk0
     · rename_i x hx; rw [hx] at hk0; exact zaa0 hR ho hc hx hk0
     · exact hk.elim
 | _=>unfold dcore at hk; rw [ho] at hk; exact hk.elim
end
def Boxy (s:Slot):Prop:=(∃cs,s=.box cs)∨(∃m,s=.mp m)∨s=.mr
def keep (s s':Slot):Prop:=(Boxy s→s'=s)∧∀v,s=.val v→s'=.val v
theorem keep.refl (s:Slot):keep s s:=⟨fun _=>rfl,fun _ h=>h⟩
theorem keep.trans {a b c:Slot} (h1:keep a b) (h2:keep b c):keep a c:=by
 refine ⟨fun hh=>?_,fun v hv=>h2.2 v (h1.2 v hv)⟩
 have:=h1.1 hh
 rw [this] at h2
 exact h2.1 hh
section
variable {C : Cfg} {B : Base}
theorem zxu {e:Env} {u:Up} {t:Nat} (ht:∀d,u.dst=some d→t≠d):keep (e t) (e.upd C.rt u t):=by
 cases u with
 | none=>exact keep.refl _
 | set d s=>simp only [Env.upd,Env.set_ne (ht d rfl)]; exact keep.refl _
 | alloc d s=>
   simp only [Env.upd]
   refine ⟨fun hb=>?_,fun v hv=>?_⟩
   · rcases hb with ⟨cs,h2⟩ | ⟨m,h2⟩ | h2
     · exact Env.alloc_ne (ht d rfl) (by intro o ho; rw [h2] at ho; cases ho)
     · exact Env.alloc_ne (ht d rfl) (by intro o ho; rw [h2] at ho; cases ho)
     · exact Env.alloc_ne (ht d rfl) (by intro o ho; rw [h2] at ho; cases ho)
   · rw [Env.alloc_ne (ht d rfl) (by intro o ho; rw [hv] at ho; cases ho)]; exact hv
def Behind (C:Cfg) (B:Base) (ms:List Nat) (e:Env) (K:Env→Hp→Prop):Exit→Act→World→Prop:=fun x a' w'=>
 x=.normal∧∃e' h',K e' h'∧Rel C B e' h' a' w'∧∀t,t∉ms→keep (e t) (e' t)
theorem zrz {ops:Array Oper} {o:Oper} {tmps:Array Value} (hg:o.guard=none):Region.wanted o (yielded ops tmps)=true:=by
 simp [Region.wanted,hg]
theorem zry {ops:Array Oper} {o:Oper} {tmps:Array Value} {j d:Nat} {want t:Bool} (hg:o.guard=some (j,want)) (hd:(ops[j]?).bind (·.dst)=some d)
 (ht:tmps[d]?=some (.bool t)):Region.wanted o (yielded ops tmps)=(t==want):=by
 simp only [Region.wanted,hg,yielded,hd,Option.bind_some,ht]
 cases t<;>cases want<;>rfl
theorem zr2 {ops:Array Oper} {o:Oper} {tmps:Array Value} {j d:Nat} {want:Bool} {vs:Array Value} (hg:o.guard=some (j,want)) (hd:(ops[j]?).bind (·.dst)=some d)
 (ht:tmps[d]?=some (.tuple vs)):Region.wanted o (yielded ops tmps)=false:=by
 simp only [Region.wanted,hg,yielded,hd,Option.bind_some,ht]
 rfl
theorem zsx (hC:TabOK C C.tab) {ops:Array Oper} {K:Env→Hp→Prop}:∀{l:List Nat} {e:Env} {h:Hp} {a:Act} {w:World} {ms:List Nat} {Q:Exit→Act→World→Prop},
 (∀(i:Nat) (o:Oper),ops[i]?=some o→∀d∈modsO C o,d∈ms)→(∀x a w,Behind C B ms e K x a w→Q x a w) →
 Rel C B e h a w→dops C ops K l e h→wpOpsIn (wideR ro) nn C.P ops Q l a w
 | [],e,h,a,w,ms,Q,_,hQ,hR,hk=>hQ _ _ _ ⟨rfl,e,h,hk,hR,fun _ _=>keep.refl _⟩
 | i :: r,e,h,a,w,ms,Q,hms,hQ,hR,hk=>by
   rw [wpOpsIn_cons]
   unfold dops at hk
   unfold wpOpIn
   cases hi:ops[i]? with
   | none=>rw [hi] at hk; exact hk.elim
   | some o=>
     rw [hi] at hk; simp only at hk ⊢
     have rest:∀e1:Env,(∀t,e1 t=e t)→∀a' w',After C B o e1 (fun u h'=>dops C ops K r (e1.upd C.rt u) h') a' w'→wpOpsIn (wideR ro) nn C.P ops Q r a' w':=by
      rintro e1 he1 a' w' ⟨u,h',hk',hR',hd'⟩
      refine zsx hC hms (fun x a w hb=>hQ x a w ?_) hR' hk'
      obtain ⟨hx,e',h'',q1,q2,q3⟩:=hb
      refine ⟨hx,e',h'',q1,q2,fun t ht=>?_⟩
      rw [←he1 t]
      exact (zxu fun d hd hh=>ht (by rw [hh]; exact hms i o hi d (hd' d hd))).trans (q3 t ht)
     cases hg:o.guard with
     | none=>
       rw [hg] at hk; simp only at hk
       rw [if_pos (zrz hg)]
       exact Oper.wpIn_mono (fun a w ha=>rest e (fun _=>rfl) a w ha) (zl7 hC hR hk)
     | some g=>
       obtain ⟨j,want⟩:=g
       rw [hg] at hk; simp only at hk
       cases hd:(ops[j]?).bind (·.dst) with
       | none=>rw [hd] at hk; exact hk.elim
       | some d=>
         rw [hd] at hk; simp only at hk
         cases hl:C.loc d with
         | true=>
           rw [hl] at hk
           split at hk
           · contradiction
           · contradiction
           · exact hk.elim
         | false=>
           rw [hl] at hk
           split at hk
           · rename_i t _ hv
             have hset:∀b,t=b→e.set d (.val (.bool b))=e:=fun b hb=>by
              subst hb; exact hR.setSame hv
             rw [zry hg hd (hR.vals d _ hv)]
             cases t<;>cases want<;>simp only [ifP] at hk
             · rw [hset false rfl] at hk
               rw [if_pos (by decide)]
               exact Oper.wpIn_mono (fun a w ha=>rest e (fun _=>rfl) a w ha) (zl7 hC hR hk)
             · rw [hset false rfl] at hk
               rw [if_neg (by simp)]
               exact ⟨fun _ _=>trivial,rest e (fun _=>rfl) _ _ (zll hR hk)⟩
             · rw [hset true rfl] at hk
               rw [if_neg (by simp)]
               exact ⟨fun _ _=>trivial,rest e (fun _=>rfl) _ _ (zll hR hk)⟩
             · rw [hset true rfl] at hk
               rw [if_pos (by decide)]
               exact Oper.wpIn_mono (fun a w ha=>rest e (fun _=>rfl) a w ha) (zl7 hC hR hk)
           · rename_i vs _ hv
             rw [zr2 hg hd (hR.vals d _ hv),if_neg (by simp)]
             exact ⟨fun _ _=>trivial,rest e (fun _=>rfl) _ _ (zll hR hk)⟩
           · exact hk.elim
end
end Den
end

section
namespace Den
open Go
abbrev PT:=Hp→(Up→Hp→Prop)→Prop
abbrev rng (M:Up→Prop) (u:Up):Prop:=M u
def modsU (C:Cfg) (o:Oper) (u:Up):Prop:=(∀d,u.dst=some d→d∈modsO C o)∧(∀d off,u=.set d (.ref off)→o.dst=some d)∧∀d off,u≠.alloc d (.ref off)
def DstM (M:Up→Prop) (dst:Option Nat):Prop:=M .none∧∀d,dst=some d→∀s,M (.set d s)∧((∀o,s≠.ref o)→M (.alloc d s))
def PureLike (M:Up→Prop) (T:PT):Prop:=∃p:Up→Prop,(∀u,p u→rng M u)∧∀h K,T h K↔∃u,p u∧K u h
def LoadLike (M:Up→Prop) (T:PT):Prop:=∃p:Up→Hp→Prop,(∀u h,p u h→rng M u)∧(∀u h h',p u h→Hp.le h h'→p u h')∧∀h K,T h K↔∃u,p u h∧K u h
def CallLikeU (M:Up→Prop) (T:PT):Prop:=∃(α:Type) (G:(α→Hp→Prop)→Hp→Prop) (q:α→Up→Prop),(∀r u,q r u→rng M u) ∧
 ((∀h K,T h K↔callP G (fun r h'=>∃u,q r u∧K u h') h)∨∀h K,¬T h K)
def NewLike (M:Up→Prop) (T:PT):Prop:=∃(P0:Prop) (c:List Value) (f:Nat→Up) (q:TypeId→Prop),(∃el,q el)∧(∀b,rng M (f b))∧∀h K,T h K↔P0∧∀b el,q el→h b=none→K (f b) (h.ins b ⟨c,el,(0,0)⟩)
def MonoU (M:Up→Prop) (T:PT):Prop:=∀h K K',(∀u h,M u→K u h→K' u h)→T h K→T h K'
section
variable {M : Up → Prop}
theorem za5:PureLike M fun _ _=>False:=⟨fun _=>False,fun _ hh=>hh.elim,fun h K=>⟨fun hh=>hh.elim,fun ⟨_,hh,_⟩=>hh⟩⟩
theorem zi5 {u:Up} (hu:rng M u):PureLike M fun h K=>K u h:=⟨fun v=>v=u,fun v hv=>hv▸hu,fun h K=>⟨fun hh=>⟨u,rfl,hh⟩,fun ⟨_,e,hh⟩=>e▸hh⟩⟩
theorem pl_ex {ι:Type} {T:ι→PT} (hT:∀i,PureLike M (T i)):PureLike M fun h K=>∃i,T i h K:=by
 refine ⟨fun u=>∃i,(hT i).choose u,fun u ⟨i,hi⟩=>(hT i).choose_spec.1 u hi,fun h K=>⟨fun ⟨i,hi⟩=>?_,fun ⟨u,⟨i,hi⟩,hk⟩=>⟨i,?_⟩⟩⟩
 · obtain ⟨u,h1,h2⟩:=((hT i).choose_spec.2 h K).1 hi
   exact ⟨u,⟨i,h1⟩,h2⟩
 · exact ((hT i).choose_spec.2 h K).2 ⟨u,hi,hk⟩
theorem zdv {c:Prop} {T:PT} (hT:PureLike M T):PureLike M fun h K=>c∧T h K:=by
 obtain ⟨p,h1,h2⟩:=hT
 refine ⟨fun u=>c∧p u,fun u hu=>h1 u hu.2,fun h K=>⟨fun ⟨hc,hh⟩=>?_,fun ⟨u,⟨hc,hu⟩,hk⟩=>⟨hc,(h2 h K).2 ⟨u,hu,hk⟩⟩⟩⟩
 obtain ⟨u,hu,hk⟩:=(h2 h K).1 hh
 exact ⟨u,⟨hc,hu⟩,hk⟩
theorem zpo {k k':IntKind} {T:PT} (hT:PureLike M T):PureLike M fun h K=>sameK k k' (T h K):=by
 have:=zdv (c:=k=k') hT
 obtain ⟨p,h1,h2⟩:=this
 exact ⟨p,h1,fun h K=>zcm.trans (h2 h K)⟩
theorem zb5 {C:Cfg} {dst:Option Nat} {v:Value} (hd:DstM M dst):PureLike M fun h K=>retV C dst v h K:=by
 unfold retV
 cases dst with
 | none=>exact zi5 hd.1
 | some d=>
   simp only
   split
   · exact zi5 (hd.2 _ rfl _).1
   · exact za5
theorem zrb {C:Cfg} {dst:Option Nat} {root off:Nat} (hd:DstM M dst):PureLike M fun h K=>retR C dst root off h K:=by
 unfold retR
 cases dst with
 | none=>exact za5
 | some d=>
   simp only
   split
   · exact zi5 (hd.2 _ rfl _).1
   · exact za5
theorem zaah {C:Cfg} {dst:Option Nat} (hd:DstM M dst):PureLike M fun h K=>skipV C dst h K:=by
 unfold skipV
 cases dst with
 | none=>exact zi5 hd.1
 | some d=>
   simp only
   split
   · exact zi5 ((hd.2 _ rfl _).2 (fun _ hh=>by cases hh))
   · exact za5
   · exact zb5 hd
theorem zci {e:Env} {x:Operand} {T:Value→PT} (hT:∀v,PureLike M (T v)):PureLike M fun h K=>opv e x fun v=>T v h K:=by
 unfold opv
 split
 · exact hT _
 · exact hT _
 · exact hT _
 · split
   · exact hT _
   · exact za5
theorem zoz {e:Env}:∀{l:List Operand} {T:List Value→PT},(∀v,PureLike M (T v))→PureLike M fun h K=>opvs e l fun v=>T v h K
 | [],T,hT=>hT []
 | x :: r,T,hT=>by
   unfold opvs
   exact zci fun v=>zoz (l:=r) (T:=fun vs=>T (v :: vs)) fun vs=>hT _
theorem zp0 {p:Option Addr} {T:Addr→PT} (hT:∀a,PureLike M (T a)):PureLike M fun h K=>ptrK p fun a=>T a h K:=by
 cases p with
 | none=>exact za5
 | some a=>exact hT a
theorem ztp {P:Program} {t:TypeId} {T:PT} (hT:PureLike M T):PureLike M fun h K=>okT P t (T h K):=by
 unfold okT
 split
 · exact hT
 · exact za5
theorem za1x {n:Int} {len:Nat} {T:PT} (hT:PureLike M T):PureLike M fun h K=>idxC n len (T h K):=by
 unfold idxC
 split
 · exact hT
 · exact za5
theorem zye {P:Program} {t:TypeId} {T:List Value→PT} (hT:∀a,PureLike M (T a)):PureLike M fun h K=>zeroC P t fun a=>T a h K:=by
 unfold zeroC
 split
 · split
   · exact hT _
   · exact za5
 · exact za5
theorem zvg {P:Program} {t:TypeId} {T:TypeId→PT} (hT:∀a,PureLike M (T a)):PureLike M fun h K=>elemOf? P t fun a=>T a h K:=by
 unfold elemOf?
 split
 · split
   · exact hT _
   · exact za5
 · exact za5
theorem zto {P:Program} {t:TypeId} {f:Nat} {T:Nat→PT} (hT:∀a,PureLike M (T a)):PureLike M fun h K=>asField P t f fun a=>T a h K:=by
 unfold asField
 split
 · split
   · split
     · exact za5
     · exact hT _
   · exact za5
 · exact za5
theorem zaag {pl:Nat→Option (Nat×Nat)} {z:List Value} {ps:List (Nat×Value)} {T:List Value→PT} (hT:∀a,PureLike M (T a)):PureLike M fun h K=>fillP pl z ps fun a=>T a h K:=by
 unfold fillP
 split
 · exact hT _
 · exact za5
theorem zkt {P:Program} {t:TypeId} {cs:List Value} {off:Nat} {T:Value→PT} (hT:∀a,PureLike M (T a)):PureLike M fun h K=>partT P t cs off fun a=>T a h K:=by
 unfold partT
 split
 · exact za5
 · split
   · exact hT _
   · exact za5
 · split
   · exact hT _
   · exact za5
theorem zvh:∀{n:Nat} {T:List Value→PT},(∀l,PureLike M (T l))→PureLike M fun h K=>ldCaps n fun l=>T l h K
 | 0,_,hT=>hT []
 | n+1,T,hT=>pl_ex fun c=>zvh (n:=n) (T:=fun l=>T (.pointer c :: l)) fun l=>hT _
theorem za7u {hint:Option (Nat×Nat)} {v:Value} {T:Value→PT} (hT:∀a,PureLike M (T a)):PureLike M fun h K=>shapeV hint v fun a=>T a h K:=by
 cases hint with
 | none=>exact hT v
 | some p=>exact zvh fun l=>zdv (hT _)
theorem zaby {v:Value} {T:List Value→PT} (hT:∀a,PureLike M (T a)):PureLike M fun h K=>aggC v fun a=>T a h K:=by
 cases v<;>first | exact hT _ | exact za5
theorem zoy {e:Env} {lo:Option Operand} {d:Int} {T:Int→PT} (hT:∀a,PureLike M (T a)):PureLike M fun h K=>boP e lo d fun a=>T a h K:=by
 unfold boP
 split
 · exact hT _
 · refine zci fun v=>?_
   split
   · exact hT _
   · exact za5
theorem zado {t:Bool} {S T:PT} (hS:PureLike M S) (hT:PureLike M T):PureLike M fun h K=>ifP t (S h K) (T h K):=by
 cases t
 · exact hT
 · exact hS
theorem za7t {op:BinOp} {k k':IntKind} {a b:Int} {T:Value→PT} (hT:∀a,PureLike M (T a)):PureLike M fun h K=>intBin op k k' a b fun v=>T v h K:=by
 cases op<;>simp only [intBin]<;>first
  | exact zdv (hT _)
  | exact zpo (zdv (hT _))
  | exact zpo (hT _)
theorem zabz {P:Program} {t:TypeId} {op:BinOp} {x y:Value} {T:Value→PT} (hT:∀a,PureLike M (T a)):PureLike M fun h K=>binP P t op x y fun v=>T v h K:=by
 unfold binP
 split
 · exact za7t hT
 · split<;>first | exact zdv (hT _) | exact hT _ | exact za5
 · split<;>first | exact hT _ | exact za5
 · split<;>first | exact hT _ | exact za5
 · exact za5
theorem zadp {op:UnOp} {x:Value} {T:Value→PT} (hT:∀a,PureLike M (T a)):PureLike M fun h K=>unP op x fun v=>T v h K:=by
 unfold unP
 split<;>first | exact hT _ | exact za5
end
section
variable {C : Cfg} {o : Oper} {e : Env}
theorem zab:DstM (modsU C o) o.dst:=by
 refine ⟨⟨(fun d hd=>by cases hd),(fun d off hd=>by cases hd),(fun d off hd=>by cases hd)⟩,fun d hd s=>⟨⟨fun d' hd'=>?_,fun d' off hd'=>?_,(fun d' off hd'=>by cases hd')⟩,
  fun hs=>⟨fun d' hd'=>?_,(fun d' off hd'=>by cases hd'),fun d' off hd'=>?_⟩⟩⟩
 · simp only [Up.dst,Option.some.injEq] at hd'; subst hd'; simp [modsO,hd]
 · simp only [Up.set.injEq] at hd'; rw [←hd'.1]; exact hd
 · simp only [Up.dst,Option.some.injEq] at hd'; subst hd'; simp [modsO,hd]
 · simp only [Up.alloc.injEq] at hd'; exact hs _ hd'.2
theorem zac0 {M:Up→Prop} {P:Program} {t:TypeId} {T:PT} (hT:PureLike M T):PureLike M fun h K=>mapT P t (T h K):=by
 unfold mapT
 split
 · split
   · split
     · exact hT
     · exact za5
   · exact za5
 · exact za5
theorem za1y {M:Up→Prop} {x:Operand} {T:Nat→List (Int×Bool)→PT} {D:PT} (hT:∀s m,PureLike M (T s m)) (hD:PureLike M D):PureLike M fun h K=>mapS C e x (fun s m=>T s m h K) (D h K):=by
 unfold mapS
 split
 · split
   · split
     · exact hT _ _
     · exact za5
   · split
     · exact hT _ _
     · exact za5
   · exact hD
 · exact hD
theorem zac1 {M:Up→Prop} {dst:Option Nat} {root:Nat} (hd:DstM M dst):PureLike M fun h K=>retM C dst root h K:=by
 unfold retM
 cases dst with
 | none=>exact za5
 | some d=>
   simp only
   split
   · exact zi5 (hd.2 _ rfl _).1
   · exact za5
theorem za1z {M:Up→Prop} {dst:Option Nat} {x:Operand} (hd:DstM M dst):PureLike M fun h K=>mapS C e x (fun s _=>(match memN s C.mapL with
 | true=>retM C dst s h K
 | false=>False)) (opv e x fun v=>retV C dst v h K):=by
 refine za1y (T:=fun s _ h K=>(match memN s C.mapL with
  | true=>retM C dst s h K
  | false=>False)) (D:=fun h K=>opv e x fun v=>retV C dst v h K) (fun s _=>?_) (zci fun v=>zb5 hd)
 cases memN s C.mapL with
 | true=>exact zac1 hd
 | false=>exact za5
theorem zmb {b:Builtin} (hb:b=.len∨b=.max∨b=.min∨b=.cap) {ts:List TypeId} {xs:List Operand} :
 PureLike (modsU C o) fun h K=>builtinP C b ts xs e h o.dst K:=by
 unfold builtinP
 split
 · refine za1y (fun s m=>?_) ?_
   · split
     · exact zac0 (zb5 zab)
     · exact za5
   refine zci fun v=>?_
   split
   · split
     · exact zb5 zab
     · exact za5
   · split
     · exact zb5 zab
     · exact za5
   · exact za5
 · refine zci fun u=>zci fun v=>?_
   cases u<;>cases v<;>first
    | exact za5
    | exact zpo (T:=fun h K=>retV C o.dst (.int _ (maxI _ _)) h K) (zb5 zab)
 · refine zci fun u=>zci fun v=>?_
   cases u<;>cases v<;>first
    | exact za5
    | exact zpo (T:=fun h K=>retV C o.dst (.int _ (minI _ _)) h K) (zb5 zab)
 · rcases hb with hb | hb | hb | hb<;>cases hb
 · rcases hb with hb | hb | hb | hb<;>cases hb
 · rcases hb with hb | hb | hb | hb<;>cases hb
 · refine zci fun v=>?_
   split
   · split
     · exact zb5 zab
     · exact za5
   · exact za5
 · exact za5
theorem zlv (hc:clsO C o=.pure):PureLike (modsU C o) fun h K=>dcore C o e h K:=by
 unfold clsO at hc
 unfold dcore
 cases ho:o.op<;>simp only [ho] at hc ⊢<;>try (cases hc; done)
 case load t x=>
  split
  · rename_i s
    simp only at hc
    split
    · exact zkt fun v=>zb5 zab
    · split
      · exact zkt fun v=>zb5 zab
      · exact za5
    · cases hl:C.loc (C.rt s) with
      | true=>exact za5
      | false=>rw [hl] at hc; cases hc
    · exact za5
  · exact za5
 case store t x y=>
  refine zci fun v=>?_
  split
  · split
    · rename_i s
      simp only at hc
      split
      · split
        · exact zi5 ⟨(fun d hd=>by simp only [Up.dst,Option.some.injEq] at hd; subst hd; simp [modsO,ho]),(fun d off hd=>by cases hd),(fun d off hd=>by cases hd)⟩
        · exact za5
      · split
        · split
          · exact zi5 ⟨(fun d hd=>by simp only [Up.dst,Option.some.injEq] at hd; subst hd; simp [modsO,ho]),(fun d off hd=>by cases hd),(fun d off hd=>by cases hd)⟩
          · exact za5
        · exact za5
      · cases hl:C.loc (C.rt s) with
        | true=>exact za5
        | false=>rw [hl] at hc; cases hc
      · exact za5
    · exact za5
  · exact za5
 case move x=>exact za1z zab
 case assign x=>exact za1z zab
 case pick c x y=>
  refine zci fun v=>?_
  split
  · exact zado (zci fun v=>zb5 zab) (zci fun v=>zb5 zab)
  · exact za5
 case alloc t=>
  refine zye fun cs=>?_
  unfold retNew
  cases hd:o.dst with
  | none=>exact za5
  | some d=>
    rw [hd] at hc; simp only at hc ⊢
    cases hl:C.loc d with
    | false=>rw [hl] at hc; cases hc
    | true=>
      split
      · exact zi5 ((zab.2 _ hd _).2 (fun _ hh=>by cases hh))
      · contradiction
      · exact za5
 case box t x=>
  refine zci fun v=>?_
  unfold retNew
  cases hd:o.dst with
  | none=>exact za5
  | some d=>
    rw [hd] at hc; simp only at hc ⊢
    cases hl:C.loc d with
    | false=>rw [hl] at hc; cases hc
    | true=>
      split
      · exact zi5 ((zab.2 _ hd _).2 (fun _ hh=>by cases hh))
      · contradiction
      · exact za5
 case build t p=>
  refine zoz fun vs=>?_
  split
  · exact zb5 zab
  · exact za5
 case buildSlice t n p=>
  refine zoz fun vs=>zvg fun el=>zye fun z=>?_
  split
  · refine zaag fun cs=>?_
    unfold retNew
    cases hd:o.dst with
    | none=>exact za5
    | some d=>
      rw [hd] at hc; simp only at hc ⊢
      cases hl:C.loc d with
      | false=>rw [hl] at hc; cases hc
      | true=>
        split
        · exact zi5 ((zab.2 _ hd _).2 (fun _ hh=>by cases hh))
        · contradiction
        · exact za5
  · exact za5
 case nilCheck x=>
  refine zci fun v=>?_
  split
  · exact zp0 fun ad=>zb5 zab
  · exact zb5 zab
  · exact za5
 case binOp op t x y t'=>exact zci fun u=>zci fun v=>zabz fun r=>zb5 zab
 case unOp op t x=>exact zci fun u=>zadp fun r=>zb5 zab
 case convert s t x=>
  refine zci fun v=>?_
  split
  · split
    · exact zb5 zab
    · exact za5
  · rename_i hu
    rw [hu] at hc; cases hc
  · rename_i hu
    rw [hu] at hc; cases hc
  · exact za5
 case makeFunc fn u v=>
  cases fn with
  | func g=>exact zoz fun us=>zoz fun vs=>zb5 zab
  | _=>exact za5
 case slice t x lo hi mx=>
  cases mx with
  | some m=>exact za5
  | none=>
    refine zci fun v=>?_
    split
    · split
      · refine zoy fun l=>zoy fun u=>?_
        unfold strCut
        exact zdv (zdv (zdv (zb5 zab)))
      · exact za5
    · refine zvg fun el=>zoy fun l=>zoy fun u=>?_
      unfold slP
      exact zdv (zdv (zdv (zb5 zab)))
    · split
      · refine ztp (zp0 fun ad=>zoy fun l=>zoy fun u=>?_)
        unfold slP
        exact zdv (zdv (zdv (zb5 zab)))
      · exact za5
    · exact za5
 case fieldAddr t x f=>
  refine zto fun off=>?_
  split
  · split
    · exact zrb zab
    · exact zrb zab
    · exact zp0 fun ad=>zb5 zab
    · exact za5
  · exact za5
 case field t x f=>
  refine zto fun off=>zci fun v=>zaby fun cs=>?_
  split
  · split
    · exact zkt fun r=>zb5 zab
    · exact za5
  · exact za5
 case indexAddr t x ix=>
  refine zci fun iv=>?_
  split
  · split
    · refine ztp (zci fun v=>?_)
      split
      · unfold idxP
        exact zdv (zdv (zp0 fun ad=>zb5 zab))
      · exact za5
    · refine ztp (za1x ?_)
      split
      · split
        · exact zrb zab
        · exact zrb zab
        · exact zp0 fun ad=>zb5 zab
        · exact za5
      · exact zb5 zab
      · exact za5
    · exact za5
  · exact za5
 case index t x ix=>
  refine zci fun iv=>zci fun v=>?_
  split
  · split
    · unfold strIdx
      exact zdv (pl_ex fun b=>zdv (zb5 zab))
    · exact za5
  · split
    · exact ztp (za1x (zkt fun r=>zb5 zab))
    · exact za5
  · exact za5
 case extract x i=>
  refine zci fun v=>?_
  split
  · split
    · exact zb5 zab
    · exact za5
  · exact za5
 case call c=>
  cases hcal:c.callee with
  | builtin b=>
    rw [hcal] at hc
    simp only
    cases b with
    | len=>exact zmb (.inl rfl)
    | max=>exact zmb (.inr (.inl rfl))
    | min=>exact zmb (.inr (.inr (.inl rfl)))
    | cap=>exact zmb (.inr (.inr (.inr rfl)))
    | _=>cases hc
  | value f=>
    exfalso
    rw [hcal] at hc
    cases f with
    | func g=>
      simp only at hc
      cases hm:C.muts g<;>rw [hm] at hc<;>cases hc
    | _=>cases hc
  | invoke r m=>rw [hcal] at hc; cases hc
end
end Den
end

section
namespace Den
open Go
def GrowU (T:PT):Prop:=∀h K,T h K→T h fun u h'=>K u h'∧h.le h'
section
variable {Φ : PT → Prop} (hF : Φ fun _ _ => False)
include hF
theorem zdu {e:Env} {x:Operand} {T:Value→PT} (hT:∀v,Φ (T v)):Φ fun h K=>opv e x fun v=>T v h K:=by
 unfold opv
 split
 · exact hT _
 · exact hT _
 · exact hT _
 · split
   · exact hT _
   · exact hF
theorem zmq {e:Env}:∀{l:List Operand} {T:List Value→PT},(∀v,Φ (T v))→Φ fun h K=>opvs e l fun v=>T v h K
 | [],T,hT=>hT []
 | x :: r,T,hT=>by
   unfold opvs
   exact zdu hF fun v=>zmq (l:=r) (T:=fun vs=>T (v :: vs)) fun vs=>hT _
theorem za1g {p:Option Addr} {T:Addr→PT} (hT:∀a,Φ (T a)):Φ fun h K=>ptrK p fun a=>T a h K:=by
 cases p with
 | none=>exact hF
 | some a=>exact hT a
theorem zg3 {P:Program} {t:TypeId} {T:List Value→PT} (hT:∀a,Φ (T a)):Φ fun h K=>zeroC P t fun a=>T a h K:=by
 unfold zeroC
 split
 · split
   · exact hT _
   · exact hF
 · exact hF
theorem zgj {P:Program} {t:TypeId} {T:TypeId→PT} (hT:∀a,Φ (T a)):Φ fun h K=>elemOf? P t fun a=>T a h K:=by
 unfold elemOf?
 split
 · split
   · exact hT _
   · exact hF
 · exact hF
theorem zs4 {pl:Nat→Option (Nat×Nat)} {z:List Value} {ps:List (Nat×Value)} {T:List Value→PT} (hT:∀a,Φ (T a)):Φ fun h K=>fillP pl z ps fun a=>T a h K:=by
 unfold fillP
 split
 · exact hT _
 · exact hF
end
theorem za4 {M:Up→Prop}:MonoU M fun _ _=>False:=fun _ _ _ _ h=>h
theorem ze5:GrowU fun _ _=>False:=fun _ _ h=>h
theorem PureLike.mono {M:Up→Prop} {T:PT} (hT:PureLike M T):MonoU M T:=by
 obtain ⟨p,h1,h2⟩:=hT
 intro h K K' hk ht
 obtain ⟨u,h3,h4⟩:=(h2 h K).1 ht
 exact (h2 h K').2 ⟨u,h3,hk _ _ (h1 _ h3) h4⟩
theorem PureLike.grow {M:Up→Prop} {T:PT} (hT:PureLike M T):GrowU T:=by
 obtain ⟨p,_,h2⟩:=hT
 intro h K ht
 obtain ⟨u,h3,h4⟩:=(h2 h K).1 ht
 exact (h2 h _).2 ⟨u,h3,h4,Hp.le_refl h⟩
theorem LoadLike.mono {M:Up→Prop} {T:PT} (hT:LoadLike M T):MonoU M T:=by
 obtain ⟨p,h1,_,h2⟩:=hT
 intro h K K' hk ht
 obtain ⟨u,h3,h4⟩:=(h2 h K).1 ht
 exact (h2 h K').2 ⟨u,h3,hk _ _ (h1 _ _ h3) h4⟩
theorem LoadLike.grow {M:Up→Prop} {T:PT} (hT:LoadLike M T):GrowU T:=by
 obtain ⟨p,_,_,h2⟩:=hT
 intro h K ht
 obtain ⟨u,h3,h4⟩:=(h2 h K).1 ht
 exact (h2 h _).2 ⟨u,h3,h4,Hp.le_refl h⟩
theorem zgo {α:Type} {G:(α→Hp→Prop)→Hp→Prop} {K K':α→Hp→Prop} {h:Hp} (hk:∀v h',K v h'→h.le h'→h'.Fin→K' v h') (hc:callP G K h):callP G K' h:=by
 obtain ⟨D,O,Q,h1,h2,h3,h4⟩:=hc
 refine ⟨D,O,Q,h1,h2,h3,fun v D' hQ=>⟨(h4 v D' hQ).1,fun hd hfin=>hk _ _ ((h4 v D' hQ).2 hd hfin) ?_ hfin⟩⟩
 rw [h2]
 exact Hp.add_mono (h4 v D' hQ).1 hd
theorem za2m {α:Type} {G:(α→Hp→Prop)→Hp→Prop} {K K':α→Hp→Prop} {h:Hp} (hk:∀v h',K v h'→K' v h') (hc:callM G K h):callM G K' h:=by
 obtain ⟨D,O,Q,h1,h2,h3,h4⟩:=hc
 exact ⟨D,O,Q,h1,h2,h3,fun v D' hQ hd=>hk _ _ (h4 v D' hQ hd)⟩
theorem CallLikeU.mono {M:Up→Prop} {T:PT} (hT:CallLikeU M T):MonoU M T:=by
 obtain ⟨α,G,q,h1,h2⟩:=hT
 intro h K K' hk ht
 rcases h2 with h2 | h2
 · refine (h2 h K').2 (zgo ?_ ((h2 h K).1 ht))
   rintro v h' ⟨u,h3,h4⟩ _ _
   exact ⟨u,h3,hk _ _ (h1 _ _ h3) h4⟩
 · exact (h2 _ _ ht).elim
theorem CallLikeU.grow {M:Up→Prop} {T:PT} (hT:CallLikeU M T):GrowU T:=by
 obtain ⟨α,G,q,_,h2⟩:=hT
 intro h K ht
 rcases h2 with h2 | h2
 · refine (h2 h _).2 (zgo ?_ ((h2 h K).1 ht))
   rintro v h' ⟨u,h3,h4⟩ hl _
   exact ⟨u,h3,h4,hl⟩
 · exact (h2 _ _ ht).elim
def FinU (T:PT):Prop:=∀h K,h.Fin→T h K→T h fun u h'=>K u h'∧h'.Fin
theorem za6z:FinU fun _ _=>False:=fun _ _ _ h=>h
theorem PureLike.fin {M:Up→Prop} {T:PT} (hT:PureLike M T):FinU T:=by
 obtain ⟨p,_,h2⟩:=hT
 intro h K hf ht
 obtain ⟨u,h3,h4⟩:=(h2 h K).1 ht
 exact (h2 h _).2 ⟨u,h3,h4,hf⟩
theorem LoadLike.fin {M:Up→Prop} {T:PT} (hT:LoadLike M T):FinU T:=by
 obtain ⟨p,_,_,h2⟩:=hT
 intro h K hf ht
 obtain ⟨u,h3,h4⟩:=(h2 h K).1 ht
 exact (h2 h _).2 ⟨u,h3,h4,hf⟩
theorem CallLikeU.fin {M:Up→Prop} {T:PT} (hT:CallLikeU M T):FinU T:=by
 obtain ⟨α,G,q,_,h2⟩:=hT
 intro h K _ ht
 rcases h2 with h2 | h2
 · refine (h2 h _).2 (zgo ?_ ((h2 h K).1 ht))
   rintro v h' ⟨u,h3,h4⟩ _ hf
   exact ⟨u,h3,h4,hf⟩
 · exact (h2 _ _ ht).elim
theorem NewLike.fin {M:Up→Prop} {T:PT} (hT:NewLike M T):FinU T:=by
 obtain ⟨P0,c,f,q,_,_,h2⟩:=hT
 intro h K hf ht
 obtain ⟨h3,h4⟩:=(h2 h K).1 ht
 exact (h2 h _).2 ⟨h3,fun b el hq hb=>⟨h4 b el hq hb,hf.ins⟩⟩
theorem zsd {M:Up→Prop} (hM:M .none):NewLike M fun _ _=>False:=⟨False,[],fun _=>.none,fun _=>True,⟨0,trivial⟩,fun _=>hM,fun _ _=>⟨fun h=>h.elim,fun h=>h.1.elim⟩⟩
section
variable {C : Cfg} {o : Oper} {e : Env}
theorem PureLike.load {M:Up→Prop} {T:PT} (hT:PureLike M T):LoadLike M T:=by
 obtain ⟨p,h1,h2⟩:=hT
 exact ⟨fun u _=>p u,fun u _ hu=>h1 u hu,fun _ _ _ hu _=>hu,h2⟩
theorem za7b {M:Up→Prop} {l:Lf} {a:Addr} {T:l.T→PT} (hT:∀x,LoadLike M (T x)):LoadLike M fun h K=>ldL l a (fun x=>T x h K) h:=by
 refine ⟨fun u h=>∃x,h.cell a=some (l.up x)∧(hT x).choose u h,fun u h ⟨x,_,hx⟩=>(hT x).choose_spec.1 u h hx,
  fun u h h' ⟨x,h1,h2⟩ hl=>⟨x,Hp.cell_le hl h1,(hT x).choose_spec.2.1 u h h' h2 hl⟩,fun h K=>⟨?_,?_⟩⟩
 · rintro ⟨x,h1,h2⟩
   obtain ⟨u,h3,h4⟩:=((hT x).choose_spec.2.2 h K).1 h2
   exact ⟨u,⟨x,h1,h3⟩,h4⟩
 · rintro ⟨u,⟨x,h1,h2⟩,h3⟩
   exact ⟨x,h1,((hT x).choose_spec.2.2 h K).2 ⟨u,h2,h3⟩⟩
theorem za1r {M:Up→Prop}:∀{ls:List Lf} {a:Addr} {i:Nat} {T:List Value→PT},(∀x,LoadLike M (T x))→LoadLike M fun h K=>ldLs ls a i (fun x=>T x h K) h
 | [],_,_,_,hT=>hT []
 | l :: r,a,i,T,hT=>by
   unfold ldLs
   exact za7b fun x=>za1r (ls:=r) (T:=fun vs=>T (l.up x :: vs)) fun vs=>hT _
theorem zadh {M:Up→Prop} {P:Program} {t:TypeId} {a:Addr} {T:Value→PT} (hT:∀x,LoadLike M (T x)):LoadLike M fun h K=>ldT P t a (fun x=>T x h K) h:=by
 unfold ldT
 split
 · split
   · exact za5.load
   · split
     · exact za1r fun vs=>hT _
     · exact za5.load
   · split
     · exact za7b fun x=>hT _
     · exact za5.load
 · exact za5.load
theorem zlt (hc:clsO C o=.load):LoadLike (modsU C o) fun h K=>dcore C o e h K:=by
 unfold clsO at hc
 unfold dcore
 cases ho:o.op<;>simp only [ho] at hc ⊢<;>try (cases hc; done)
 case load t x=>
  split
  · split
    · exact (zkt fun v=>zb5 zab).load
    · split
      · exact (zkt fun v=>zb5 zab).load
      · exact za5.load
    · split
      · exact za5.load
      exact za1g (Φ:=LoadLike _) za5.load fun ad=>zadh fun v=>(za7u fun v=>zb5 zab).load
    · exact za5.load
  · exact za5.load
 all_goals
  exfalso
  revert hc
  repeat' split
  all_goals (intro hc; first | (cases hc; done) | (cases hc; contradiction))
theorem za1b (hc:clsO C o=.call):∃c g,o.op=.call c∧c.callee=.value (.func g)∧C.muts g=false:=by
 unfold clsO at hc
 cases ho:o.op<;>simp only [ho] at hc<;>try (cases hc; done)
 case call c=>
  cases hcal:c.callee with
  | builtin b=>rw [hcal] at hc; cases b<;>cases hc
  | invoke r m=>rw [hcal] at hc; cases hc
  | value f=>
    rw [hcal] at hc
    cases f with
    | func g=>
      simp only at hc
      cases hm:C.muts g with
      | true=>rw [hm] at hc; cases hc
      | false=>exact ⟨c,g,rfl,hcal,hm⟩
    | _=>cases hc
 all_goals
  exfalso
  revert hc
  repeat' split
  all_goals (intro hc; first | (cases hc; done) | (cases hc; contradiction))
theorem zs5 {M:Up→Prop} {T:PT} (hT:∀h K,¬T h K):CallLikeU M T:=⟨Unit,fun _ _=>False,fun _ _=>False,fun _ _ hh=>hh.elim,.inr hT⟩
theorem znm (hC:TabOK C C.tab) (hc:clsO C o=.call):CallLikeU (modsU C o) fun h K=>dcore C o e h K:=by
 obtain ⟨c,g,ho,hcal,hm⟩:=za1b hc
 unfold dcore
 simp only [ho,hcal,opv]
 refine zmq (Φ:=CallLikeU _) (zs5 fun _ _ hh=>hh) fun vs=>?_
 rcases hC.get g with ⟨_,hl⟩ | hno
 · rcases hl hm ((#[]:Array Value).toList++vs++(#[]:Array Value).toList) with ⟨α,G,up,hG⟩ | hno
   · have hp:∀r,PureLike (modsU C o) fun h K=>retV C o.dst (up r) h K:=fun r=>zb5 zab
     refine ⟨α,G,fun r=>(hp r).choose,fun r u hu=>(hp r).choose_spec.1 u hu,.inl fun h K=>?_⟩
     have:∀r h',retV C o.dst (up r) h' K↔∃u,(hp r).choose u∧K u h':=fun r h'=>(hp r).choose_spec.2 h' K
     show lookF g C.tab _ (fun r h'=>retV C o.dst r h' K) h↔_
     rw [hG]
     constructor
     · exact zgo fun r h' hh _ _=>(this r h').1 hh
     · exact zgo fun r h' hh _ _=>(this r h').2 hh
   · exact zs5 fun h K=>hno _ _
 · exact zs5 fun h K=>hno _ _ _
theorem za73 {M:Up→Prop} {cs:List Value} {T:Addr→PT} (hm:∀a,MonoU M (T a)) (hg:∀a,GrowU (T a)):GrowU fun h K=>newP cs (fun a h'=>T a h' K) h:=by
 intro h K ht b el hb
 refine hm _ _ _ _ ?_ (hg _ _ _ (ht b el hb))
 rintro u h' _ ⟨h1,h2⟩
 exact ⟨h1,Hp.le_trans (Hp.le_ins hb) h2⟩
theorem za74 {M:Up→Prop} {t:TypeId} {cs:List Value} {T:Addr→PT} (hm:∀a,MonoU M (T a)) (hg:∀a,GrowU (T a)):GrowU fun h K=>newT t cs (fun a h'=>T a h' K) h:=by
 intro h K ht b hb
 refine hm _ _ _ _ ?_ (hg _ _ _ (ht b hb))
 rintro u h' _ ⟨h1,h2⟩
 exact ⟨h1,Hp.le_trans (Hp.le_ins hb) h2⟩
theorem za7i {M:Up→Prop} {t:TypeId} {cs:List Value} {T:Addr→PT} (hm:∀a,MonoU M (T a)):MonoU M fun h K=>newT t cs (fun a h'=>T a h' K) h:=
 fun h K K' hk ht b hb=>hm _ _ _ _ hk (ht b hb)
theorem zva {M:Up→Prop} {cs:List Value} {T:Addr→PT} (hm:∀a,MonoU M (T a)):MonoU M fun h K=>newP cs (fun a h'=>T a h' K) h:=
 fun h K K' hk ht b el hb=>hm _ _ _ _ hk (ht b el hb)
theorem zfx {M:Up→Prop} {dst:Option Nat} {v:Value} (hd:DstM M dst):MonoU M fun h K=>retV C dst v h K:=(zb5 hd).mono
theorem zfi {M:Up→Prop} {u:Up} (hu:M u):MonoU M fun h K=>K u h:=fun _ _ _ hk ht=>hk _ _ hu ht
theorem zs8 {u:Up}:GrowU fun h K=>K u h:=fun h _ ht=>⟨ht,Hp.le_refl h⟩
theorem zo5 {M:Up→Prop} {dst:Option Nat} {cs:List Value} {mk:Addr→Value} {hid:Slot} {ty:Option Nat} (hd:DstM M dst) (hh:∀o,hid≠.ref o):MonoU M fun h K=>retNew C dst cs mk hid ty h K:=by
 unfold retNew
 cases dst with
 | none=>exact za4
 | some d=>
   simp only
   split
   · exact zfi ((hd.2 _ rfl _).2 hh)
   · split
     · exact zva fun a=>zfi (hd.2 _ rfl _).1
     · exact za7i fun a=>zfi (hd.2 _ rfl _).1
   · exact za4
theorem zo3 {dst:Option Nat} {cs:List Value} {mk:Addr→Value} {hid:Slot} {ty:Option Nat}:GrowU fun h K=>retNew C dst cs mk hid ty h K:=by
 unfold retNew
 cases dst with
 | none=>exact ze5
 | some d=>
   simp only
   split
   · exact zs8
   · split
     · exact za73 (M:=fun _=>True) (fun a=>zfi trivial) (fun a=>zs8)
     · exact za74 (M:=fun _=>True) (fun a=>zfi trivial) (fun a=>zs8)
   · exact ze5
theorem zaad (hc:clsO C o=.new):GrowU fun h K=>dcore C o e h K:=by
 unfold clsO at hc
 unfold dcore
 cases ho:o.op<;>simp only [ho] at hc ⊢<;>try (cases hc; done)
 case alloc t=>exact zg3 ze5 fun cs=>zo3
 case box t x=>exact zdu ze5 fun v=>zo3
 case buildSlice t n p=>
  refine zmq ze5 fun vs=>zgj ze5 fun el=>zg3 ze5 fun z=>?_
  split
  · exact zs4 ze5 fun cs=>zo3
  · exact ze5
 all_goals
  exfalso
  revert hc
  repeat' split
  all_goals (intro hc; first | (cases hc; done) | (cases hc; contradiction))
theorem zql {dst:Option Nat} {cs:List Value} {mk:Addr→Value} {hid:Slot} {ty:Option Nat} (hd:DstM (modsU C o) dst) (hc:∀d,dst=some d→C.loc d=false) :
 NewLike (modsU C o) fun h K=>retNew C dst cs mk hid ty h K:=by
 unfold retNew
 cases dst with
 | none=>exact zsd hd.1
 | some d=>
   simp only
   rw [hc d rfl]
   split
   · contradiction
   · split
     · exact ⟨True,cs,fun b=>.set d (.val (mk ⟨b,0,none⟩)),fun _=>True,⟨0,trivial⟩,fun b=>(hd.2 d rfl _).1,fun h K=>⟨fun h1=>⟨trivial,fun b el _=>h1 b el⟩,fun h1 b el=>h1.2 b el trivial⟩⟩
     · rename_i t
       exact ⟨True,cs,fun b=>.set d (.val (mk ⟨b,0,none⟩)),fun x=>x=t,⟨t,rfl⟩,fun b=>(hd.2 d rfl _).1,fun h K=>⟨fun h1=>⟨trivial,fun b el he=>by subst he; exact h1 b⟩,fun h1 b=>h1.2 b t rfl⟩⟩
   · exact zsd hd.1
theorem zpj (hc:clsO C o=.new):NewLike (modsU C o) fun h K=>dcore C o e h K:=by
 have hl:∀d,o.dst=some d→C.loc d=false:=by
  intro d hd
  unfold clsO at hc
  cases ho:o.op<;>simp only [ho] at hc<;>try (cases hc; done)
  all_goals first
   | (rw [hd] at hc; simp only at hc; cases hl:C.loc d with
      | false=>rfl
      | true=>rw [hl] at hc; cases hc)
   | (exfalso; revert hc; repeat' split
      all_goals (intro hc; first | (cases hc; done) | (cases hc; contradiction)))
 have hF:NewLike (modsU C o) fun _ _=>False:=zsd (zab (C:=C) (o:=o)).1
 unfold clsO at hc
 unfold dcore
 cases ho:o.op<;>simp only [ho] at hc ⊢<;>try (cases hc; done)
 case alloc t=>exact zg3 hF fun cs=>zql zab hl
 case box t x=>exact zdu hF fun v=>zql zab hl
 case buildSlice t n p=>
  refine zmq hF fun vs=>zgj hF fun el=>zg3 hF fun z=>?_
  split
  · exact zs4 hF fun cs=>zql zab hl
  · exact hF
 all_goals
  exfalso
  revert hc
  repeat' split
  all_goals (intro hc; first | (cases hc; done) | (cases hc; contradiction))
theorem zy1 {M:Up→Prop} {a:Addr} {vs:List Value} {T:PT} (hT:MonoU M T):MonoU M fun h K=>stP a vs (fun h'=>T h' K) h:=by
 rintro h K K' hk ⟨b,h1,h2,h3,h4,h5,h6⟩
 exact ⟨b,h1,h2,h3,h4,h5,hT _ _ _ hk h6⟩
theorem zpi {M:Up→Prop} {a:Option Addr} {off:Nat} {vs:List Value} {T:PT} (hT:MonoU M T):MonoU M fun h K=>stO a off vs (fun h'=>T h' K) h:=by
 cases a with
 | none=>exact hT
 | some a=>exact zy1 hT
theorem za7f {M:Up→Prop} {size bytes:Nat} {z:List Value} {x:Sl} {n:Nat} {new:List Value} {T:Sl→PT} (hT:∀s,MonoU M (T s)) :
 MonoU M fun h K=>appP size bytes z x n new (fun s h'=>T s h' K) h:=by
 rintro h K K' hk ⟨h1,h2,h3,h4⟩
 refine ⟨h1,h2,fun hh=>zpi (hT _) h K K' hk (h3 hh),fun hh=>?_⟩
 obtain ⟨old,h5,h6⟩:=h4 hh
 exact ⟨old,h5,fun b el c hc hb=>hT _ _ _ _ hk (h6 b el c hc hb)⟩
theorem zv8 {M:Up→Prop} {ty:Option Nat} {size bytes:Nat} {z:List Value} {x:Sl} {n:Nat} {new:List Value} {T:Sl→PT} (hT:∀s,MonoU M (T s)) :
 MonoU M fun h K=>appC ty size bytes z x n new (fun s h'=>T s h' K) h:=by
 cases ty with
 | none=>exact za7f hT
 | some t=>
   rintro h K K' hk ⟨h1,h2,h3,h4⟩
   refine ⟨h1,h2,fun hh=>zpi (hT _) h K K' hk (h3 hh),fun hh=>?_⟩
   obtain ⟨old,h5,h6⟩:=h4 hh
   exact ⟨old,h5,fun b c hc hb=>hT _ _ _ _ hk (h6 b c hc hb)⟩
theorem zaaa {M:Up→Prop} {size:Nat} {x y:Sl} {T:Nat→PT} (hT:∀n,MonoU M (T n)):MonoU M fun h K=>cpP size x y (fun n h'=>T n h' K) h:=by
 rintro h K K' hk ⟨l,h1,h2⟩
 exact ⟨l,h1,zpi (hT _) h K K' hk h2⟩
theorem za7g {M:Up→Prop} {x:Sl} {z:List Value} {T:PT} (hT:MonoU M T):MonoU M fun h K=>clrP x z (fun h'=>T h' K) h:=by
 rintro h K K' hk ⟨h1,h2⟩
 exact ⟨fun e=>hT _ _ _ hk (h1 e),fun e=>zpi hT h K K' hk (h2 e)⟩
theorem zaab {M:Up→Prop} {len cap:Int} {bytes:Nat} {z:List Value} {T:Sl→PT} (hT:∀s,MonoU M (T s)):MonoU M fun h K=>mkP len cap bytes z (fun s h'=>T s h' K) h:=by
 rintro h K K' hk ⟨h1,h2,h3,h4,h5⟩
 exact ⟨h1,h2,h3,h4,zva (T:=fun a=>T ⟨some a,len.toNat,cap.toNat⟩) (fun a=>hT _) h K K' hk h5⟩
theorem zy0 {M:Up→Prop} {a:Option Addr} {n:Nat} {T:List Value→PT} (hT:∀vs,MonoU M (T vs)):MonoU M fun h K=>rdO a n (fun vs=>T vs h K) h:=by
 rintro h K K' hk ⟨l,h1,h2⟩
 exact ⟨l,h1,hT _ _ _ _ hk h2⟩
theorem za7k {M:Up→Prop} {x:Operand} {size:Nat} {T:Nat→List Value→PT} (hT:∀n vs,MonoU M (T n vs)):MonoU M fun h K=>srcP e x size (fun n vs=>T n vs h K) h:=by
 unfold srcP
 split
 · split
   · split
     · exact hT _ _
     · exact za4
   · exact zy0 fun vs=>hT _ _
   · split
     · exact hT _ _
     · exact za4
   · exact za4
 · exact zy0 fun vs=>hT _ _
 · split
   · exact hT _ _
   · exact za4
 · exact za4
theorem za34 {M:Up→Prop} {x:Sl} {T:ByteArray→PT} (hT:∀vs,MonoU M (T vs)):MonoU M fun h K=>toStr x (fun vs=>T vs h K) h:=by
 rintro h K K' hk ⟨l,h1,h2⟩
 exact ⟨l,h1,hT _ _ _ _ hk h2⟩
theorem za0k {M:Up→Prop} {s:ByteArray} {T:Sl→PT} (hT:∀s,MonoU M (T s)):MonoU M fun h K=>bytesP s (fun s h'=>T s h' K) h:=by
 intro h K K' hk hh b el c fz hc hb
 exact hT _ _ _ _ hk (hh b el c fz hc hb)
theorem za7j {M:Up→Prop} {P:Program} {t:TypeId} {T T2:PT} (hT:MonoU M T) (hT2:MonoU M T2):MonoU M fun h K=>selI P t (T h K) (T2 h K):=by
 unfold selI
 split
 · exact hT
 · exact hT2
theorem za33 {M:Up→Prop} {P:Program} {t:TypeId} {T:PT} (hT:MonoU M T):MonoU M fun h K=>noInt P t (T h K):=by
 unfold noInt
 split
 · exact hT
 · exact hT
 · exact za4
theorem za0l {M:Up→Prop} {dst:Option Nat} (hd:DstM M dst):MonoU M fun h K=>retMap C e dst h K:=by
 unfold retMap
 split
 · exact za4
 · rename_i d
   split
   · exact zfi ((hd.2 d rfl _).2 (fun _ hh=>by cases hh))
   · exact za4
theorem zv9 {M:Up→Prop} {P:Program} {t:TypeId} {T:PT} (hT:MonoU M T):MonoU M fun h K=>mapT P t (T h K):=by
 unfold mapT
 split
 · split
   · split
     · exact hT
     · exact za4
   · exact za4
 · exact za4
theorem za7h {M:Up→Prop} {x:Operand} {T:Nat→List (Int×Bool)→PT} {D:PT} (hT:∀s m,MonoU M (T s m)) (hD:MonoU M D):MonoU M fun h K=>mapS C e x (fun s m=>T s m h K) (D h K):=by
 unfold mapS
 split
 · split
   · split
     · exact hT _ _
     · exact za4
   · split
     · exact hT _ _
     · exact za4
   · exact hD
 · exact hD
theorem za2x (hC:TabOK C C.tab) (hmt:∀g args K K' h,(∀v h,K v h→K' v h)→C.f g args K h→C.f g args K' h):MonoU (modsU C o) fun h K=>dcore C o e h K:=by
 cases hc:clsO C o with
 | pure=>exact (zlv hc).mono
 | load=>exact (zlt hc).mono
 | call=>exact (znm hC hc).mono
 | _=>
   clear hc
   by_cases hp:clsO C o=.pure
   · exact (zlv hp).mono
   by_cases hl:clsO C o=.load
   · exact (zlt hl).mono
   unfold dcore
   unfold clsO at hp hl
   cases ho:o.op<;>simp only [ho] at hp hl ⊢<;>try (first | exact absurd trivial hp | exact absurd trivial hl | exact absurd rfl hp | exact absurd rfl hl | exact za4)
   case alloc t=>exact zg3 (Φ:=MonoU _) za4 fun cs=>zo5 zab (fun _ hh=>by cases hh)
   case box t x=>exact zdu (Φ:=MonoU _) za4 fun v=>zo5 zab (fun _ hh=>by cases hh)
   case buildSlice t n p=>
    refine zmq (Φ:=MonoU _) za4 fun vs=>zgj (Φ:=MonoU _) za4 fun el=>zg3 (Φ:=MonoU _) za4 fun z=>?_
    split
    · exact zs4 (Φ:=MonoU _) za4 fun cs=>zo5 zab (fun _ hh=>by cases hh)
    · exact za4
   case load t x=>
    exfalso
    cases x with
    | tmp s=>cases hl':C.loc (C.rt s) with
      | true=>exact hp (by simp only [hl'])
      | false=>exact hl (by simp only [hl'])
    | _=>exact hl rfl
   case store t x y=>
    refine zdu (Φ:=MonoU _) za4 fun v=>?_
    split
    · split
      · split
        · split
          · exact zfi ⟨(fun d hd=>by simp only [Up.dst,Option.some.injEq] at hd; subst hd; simp [modsO,ho]),(fun d off hd=>by cases hd),(fun d off hd=>by cases hd)⟩
          · exact za4
        · split
          · split
            · exact zfi ⟨(fun d hd=>by simp only [Up.dst,Option.some.injEq] at hd; subst hd; simp [modsO,ho]),(fun d off hd=>by cases hd),(fun d off hd=>by cases hd)⟩
            · exact za4
          · exact za4
        · split
          · exact za4
          refine za1g (Φ:=MonoU _) za4 fun ad=>?_
          split
          · exact zy1 (zfi zab.1)
          · exact za4
        · exact za4
      · exact za4
    · exact za4
   case convert s t x=>
    refine zdu (Φ:=MonoU _) za4 fun v=>?_
    split
    · rename_i hu
      exfalso; exact hp (by rw [hu])
    · split
      · split
        · exact za34 fun s=>zfx zab
        · exact za4
      · exact za4
    · split
      · exact za0k fun s=>zfx zab
      · exact za4
    · exact za4
   case makeMap t r=>
    cases r with
    | some m=>exact za4
    | none=>exact za0l zab
   case lookup t x ix ok=>
    cases ok with
    | true=>exact za4
    | false=>
      refine zdu (Φ:=MonoU _) za4 fun iv=>zv9 (za7h (fun s m=>?_) za4)
      split
      · exact zfx zab
      · exact za4
   case mapUpdate t x k y=>
    refine zdu (Φ:=MonoU _) za4 fun kv=>zdu (Φ:=MonoU _) za4 fun yv=>?_
    refine zv9 ?_
    unfold mapS
    split
    · rename_i s
      split
      · split
        · rename_i hr
          split
          · exact zfi ⟨(fun d hd=>by simp only [Up.dst,Option.some.injEq] at hd; subst hd; simp [modsO,ho,Nat.eq_of_beq_eq_true hr]),(fun d off hd=>by cases hd),(fun d off hd=>by cases hd)⟩
          · exact za4
        · exact za4
      · split
        · split
          · exact zfi ⟨(fun d hd=>by simp only [Up.dst,Option.some.injEq] at hd; subst hd; simp [modsO,ho]),(fun d off hd=>by cases hd),(fun d off hd=>by cases hd)⟩
          · exact za4
        · exact za4
      · exact za4
    · exact za4
   case makeSlice t l c=>
    refine zdu (Φ:=MonoU _) za4 fun lv=>zdu (Φ:=MonoU _) za4 fun cv=>?_
    split
    · refine zgj (Φ:=MonoU _) za4 fun el=>zg3 (Φ:=MonoU _) za4 fun z=>?_
      split
      · exact zaab fun s=>zfx zab
      · exact za4
    · exact za4
   case call c=>
    split
    · rename_i b hb
      unfold builtinP
      split
      · exact absurd (by rw [hb]) hp
      · exact absurd (by rw [hb]) hp
      · exact absurd (by rw [hb]) hp
      · split
        · refine za7j ?_ ?_
          · refine zgj (Φ:=MonoU _) za4 fun el=>zg3 (Φ:=MonoU _) za4 fun z=>?_
            split
            · refine zdu (Φ:=MonoU _) za4 fun v=>zdu (Φ:=MonoU _) za4 fun u=>?_
              split
              · exact fun h K K' hk ⟨g1,g2⟩=>⟨g1,zv8 (fun s=>zfx zab) h K K' hk g2⟩
              · exact za4
            · exact za4
          refine za33 <| zgj (Φ:=MonoU _) za4 fun el=>zg3 (Φ:=MonoU _) za4 fun z=>?_
          split
          · refine zdu (Φ:=MonoU _) za4 fun v=>?_
            split
            · exact za7k fun n vs=>zv8 fun s=>zfx zab
            · exact za4
          · exact za4
        · exact za4
      · split
        · refine zgj (Φ:=MonoU _) za4 fun el=>zdu (Φ:=MonoU _) za4 fun v=>zdu (Φ:=MonoU _) za4 fun u=>?_
          split
          · exact zaaa fun n=>zfx zab
          · exact za4
        · exact za4
      · split
        · refine zgj (Φ:=MonoU _) za4 fun el=>zg3 (Φ:=MonoU _) za4 fun z=>zdu (Φ:=MonoU _) za4 fun v=>?_
          split
          · exact za7g (zfx zab)
          · exact za4
        · exact za4
      · exact absurd (by rw [hb]) hp
      · exact za4
    · rename_i f hf
      refine zdu (Φ:=MonoU _) za4 fun fv=>?_
      split
      · refine zmq (Φ:=MonoU _) za4 fun vs=>?_
        intro h K K' hk ht
        exact hmt _ _ _ _ _ (fun r h' hr=>zfx zab h' K K' hk hr) ht
      · exact za4
    · exact za4
end
end Den
end

section
namespace Den
open Go
section
variable {C : Cfg} {o : Oper} {e e' : Env}
theorem zqm {x:Operand} (hx:∀t,x=.tmp t→e t=e' t):opv e x=opv e' x:=by
 funext K
 unfold opv
 cases x<;>try rfl
 rename_i t
 simp only [hx t rfl]
theorem ztl:∀{l:List Operand},(∀x∈l,∀t,x=.tmp t→e t=e' t)→opvs e l=opvs e' l
 | [],_=>rfl
 | x :: r,hx=>by
   funext K
   unfold opvs
   rw [zqm (hx x (by simp)),ztl (l:=r) fun y hy=>hx y (by simp [hy])]
theorem za45 {lo:Option Operand} {d:Int} (hx:∀x,lo=some x→∀t,x=.tmp t→e t=e' t):boP e lo d=boP e' lo d:=by
 funext K
 unfold boP
 cases lo with
 | none=>rfl
 | some x=>simp only; rw [zqm (hx x rfl)]
theorem za3o {x:Operand} {size:Nat} (hx:∀t,x=.tmp t→e t=e' t):srcP e x size=srcP e' x size:=by
 funext K h
 unfold srcP
 cases x with
 | tmp t=>simp only [hx t rfl]
 | const v=>cases v<;>rfl
 | _=>rfl
theorem zjz {x:Operand} (hx:∀t,x=.tmp t→e t=e' t∧e (C.rt t)=e' (C.rt t)):mapS C e x=mapS C e' x:=by
 funext A D
 unfold mapS
 split
 · rename_i s
   rw [(hx s rfl).1,(hx s rfl).2]
 · rfl
theorem za08 (hmk:isMk o=false) (H:∀x∈o.op.operands.toList,∀t,x=.tmp t→e t=e' t∧e (C.rt t)=e' (C.rt t)):dcore C o e=dcore C o e':=by
 funext h K
 have hv:∀x∈o.op.operands.toList,opv e x=opv e' x:=fun x hx=>zqm fun t ht=>(H x hx t ht).1
 have hvs:∀l:List Operand,(∀x∈l,x∈o.op.operands.toList)→opvs e l=opvs e' l:=fun l hl=>ztl fun x hx t ht=>(H x (hl x hx) t ht).1
 unfold dcore
 cases ho:o.op<;>simp only [ho,Op.operands] at H hv hvs ⊢
 case move x=>rw [hv x (by simp),zjz fun t ht=>H x (by simp) t ht]
 case assign x=>rw [hv x (by simp),zjz fun t ht=>H x (by simp) t ht]
 case pick c x y=>rw [hv c (by simp),hv x (by simp),hv y (by simp)]
 case box t x=>rw [hv x (by simp)]
 case build t p=>rw [hvs _ (by simp)]
 case buildSlice t n p=>rw [hvs _ (by simp)]
 case load t x=>
  cases x<;>try rfl
  rename_i s
  have:=H (.tmp s) (by simp) s rfl
  simp only [this.1,this.2]
 case store t x y=>
  rw [hv y (by simp)]
  cases x<;>try rfl
  rename_i s
  have:=H (.tmp s) (by simp) s rfl
  simp only [this.1,this.2]
 case nilCheck x=>rw [hv x (by simp)]
 case binOp op t x y t'=>rw [hv x (by simp),hv y (by simp)]
 case unOp op t x=>rw [hv x (by simp)]
 case convert s t x=>rw [hv x (by simp)]
 case makeFunc fn u v=>
  cases fn<;>try rfl
  simp only
  rw [hvs _ (by simp; intro x hx; exact .inl hx),hvs _ (by simp; intro x hx; exact .inr hx)]
 case makeSlice t l c=>rw [hv l (by simp),hv c (by simp)]
 case slice t x lo hi mx=>
  cases mx with
  | some m=>rfl
  | none=>
    simp only
    have hb:∀(q:Option Operand) (d:Int),(q=lo∨q=hi)→boP e q d=boP e' q d:=fun q d hq=>za45 fun y hy t ht=>by
     refine (H y ?_ t ht).1
     rcases hq with rfl | rfl<;>simp [hy]
    rw [hv x (by simp)]
    simp only [hb lo _ (.inl rfl),hb hi _ (.inr rfl)]
 case fieldAddr t x f=>
  cases x<;>try rfl
  rename_i s
  have:=H (.tmp s) (by simp) s rfl
  simp only [this.1]
 case field t x f=>rw [hv x (by simp)]
 case indexAddr t x ix=>
  rw [hv ix (by simp),hv x (by simp)]
  cases x<;>try rfl
  rename_i s
  have:=H (.tmp s) (by simp) s rfl
  simp only [this.1]
 case index t x ix=>rw [hv ix (by simp),hv x (by simp)]
 case extract x i=>rw [hv x (by simp)]
 case makeMap t r=>unfold isMk at hmk; rw [ho] at hmk; cases hmk
 case lookup t x ix ok=>
  cases ok with
  | true=>rfl
  | false=>simp only; rw [hv ix (by simp),zjz fun t ht=>H x (by simp) t ht]
 case mapUpdate t x k y=>rw [hv k (by simp),hv y (by simp),zjz fun t ht=>H x (by simp) t ht]
 case call c=>
  split
  · rename_i b hb
    have hv':∀x∈c.args.toList,opv e x=opv e' x:=fun x hx=>hv x (by simp [Call.operands,hb]; simpa using hx)
    unfold builtinP
    split
    · rename_i x hxx
      have hxm:x∈c.operands.toList:=by
       have:x∈c.args.toList:=by simp [hxx]
       simp [Call.operands,hb]; simpa using this
      rw [hv' _ (by simp [*]),zjz fun t ht=>H x hxm t ht]
    · rw [hv' _ (by simp [*])]; congr; funext u; rw [hv' _ (by simp [*])]
    · rw [hv' _ (by simp [*])]; congr; funext u; rw [hv' _ (by simp [*])]
    · rename_i x y hxy
      have hy:y∈c.operands.toList:=by
       have:y∈c.args.toList:=by simp [hxy]
       simp [Call.operands,hb]; simpa using this
      have hs:∀n,srcP e y n=srcP e' y n:=fun n=>za3o fun t ht=>(H y hy t ht).1
      rw [hv' x (by simp [hxy]),hv' y (by simp [hxy])]
      simp only [hs]
    · rename_i x y hxy
      rw [hv' x (by simp [hxy]),hv' y (by simp [hxy])]
    · rw [hv' _ (by simp [*])]
    · rw [hv' _ (by simp [*])]
    · rfl
  · rename_i f hf
    rw [hv f (by simp [Call.operands,hf]),hvs c.args.toList (by intro x hx; simp [Call.operands,hf]; exact .inr (by simpa using hx))]
  · rfl
end
end Den
end

section
namespace Den
open Go
section
variable {C : Cfg}
theorem zdh {t:Nat}:∀{l:List Nat},memN t l=true↔t∈l
 | []=>by simp [memN]
 | x :: r=>by
   unfold memN
   by_cases h:t=x
   · subst h; simp
   · rw [beqF h]; simp [h,zdh (l:=r)]
theorem zuy {a b:List Nat}:disjN a b=true↔∀x∈a,x∉b:=by
 unfold disjN
 rw [List.all_eq_true]
 constructor
 · intro h x hx hb
   have:=h x hx
   rw [(zdh (t:=x) (l:=b)).2 hb] at this; cases this
 · intro h x hx
   cases hm:memN x b with
   | false=>rfl
   | true=>exact absurd (zdh.1 hm) (h x hx)
theorem za9d {e:Env} {u:Up} {t:Nat} (ht:∀d,u.dst=some d→t≠d) (hr:∀d,u.dst=some d→C.rt t≠d):e.upd C.rt u t=e t:=by
 cases u with
 | none=>rfl
 | set d s=>exact Env.set_ne (ht d rfl)
 | alloc d s=>
   show (bif Nat.beq t d then s else match e t with | .ref o=>bif Nat.beq (C.rt t) d then Slot.junk else .ref o | x=>x)=e t
   rw [beqF (ht d rfl),beqF (hr d rfl)]
   cases e t<;>rfl
theorem zab5 {e:Env} {u v:Up} (h1:∀d d',u.dst=some d→v.dst=some d'→d≠d') (hu:∀d off,u=.set d (.ref off)→∀d',v.dst=some d'→C.rt d≠d')
 (hv:∀d off,v=.set d (.ref off)→∀d',u.dst=some d'→C.rt d≠d')
 (ha:∀d off,u≠.alloc d (.ref off)) (hb:∀d off,v≠.alloc d (.ref off)):(e.upd C.rt u).upd C.rt v=(e.upd C.rt v).upd C.rt u:=by
 cases u with
 | none=>rfl
 | set d s=>
   cases v with
   | none=>rfl
   | set d' s'=>
     have hd:=h1 d d' rfl rfl
     funext t
     simp only [Env.upd]
     by_cases ht:t=d
     · subst ht; rw [Env.set_ne hd,Env.set_same,Env.set_same]
     · by_cases ht':t=d'
       · subst ht'; rw [Env.set_same,Env.set_ne ht,Env.set_same]
       · rw [Env.set_ne ht',Env.set_ne ht,Env.set_ne ht,Env.set_ne ht']
   | alloc d' s'=>
     have hd:=h1 d d' rfl rfl
     funext t
     simp only [Env.upd]
     by_cases ht:t=d
     · subst ht
       rw [Env.set_same]
       unfold Env.alloc
       rw [beqF hd,Env.set_same]
       cases s with
       | ref o=>rw [beqF (hu t o rfl d' rfl)]; rfl
       | _=>rfl
     · rw [Env.set_ne ht]
       unfold Env.alloc
       rw [Env.set_ne ht]
 | alloc d s=>
   cases v with
   | none=>rfl
   | set d' s'=>
     have hd:=h1 d d' rfl rfl
     funext t
     simp only [Env.upd]
     by_cases ht:t=d'
     · subst ht
       rw [Env.set_same]
       unfold Env.alloc
       rw [beqF (Ne.symm hd),Env.set_same]
       cases s' with
       | ref o=>rw [beqF (hv t o rfl d rfl)]; rfl
       | _=>rfl
     · rw [Env.set_ne ht]
       unfold Env.alloc
       rw [Env.set_ne ht]
   | alloc d' s'=>
     have hd:=h1 d d' rfl rfl
     funext t
     simp only [Env.upd]
     unfold Env.alloc
     by_cases ht:t=d
     · subst ht
       rw [beqF hd,beqT]
       simp only [cond_true,cond_false]
       cases s with
       | ref o=>exact absurd rfl (ha t o)
       | _=>rfl
     · rw [beqF ht]
       by_cases ht':t=d'
       · subst ht'
         rw [beqT]
         simp only [cond_true,cond_false]
         cases s' with
         | ref o=>exact absurd rfl (hb t o)
         | _=>rfl
       · rw [beqF ht']
         simp only [cond_false]
         cases e t with
         | ref o=>
           simp only
           cases Nat.beq (C.rt t) d<;>cases Nat.beq (C.rt t) d'<;>rfl
         | _=>rfl
def wantE (C:Cfg) (ops:Array Oper) (o:Oper) (e:Env):Option Bool:=
 match o.guard with
 | none=>some true
 | some (j,want)=>match (ops[j]?).bind (·.dst) with
   | none=>none
   | some d=>match C.loc d,e d with
     | false,.val (.bool t)=>some (t==want)
     | false,.val (.tuple _)=>some false
     | _,_=>none
def stepT (C:Cfg) (ops:Array Oper) (o:Oper) (e:Env):PT:=fun h K=>
 match wantE C ops o e with
 | some true=>dcore C o e h K
 | some false=>skipV C o.dst h K
 | none=>False
theorem zhy {ops:Array Oper} {i:Nat} {r:List Nat} {K:Env→Hp→Prop} {e:Env} {h:Hp} {o:Oper} (hi:ops[i]?=some o) :
 dops C ops K (i :: r) e h↔stepT C ops o e h fun u h'=>dops C ops K r (e.upd C.rt u) h':=by
 conv=>lhs; unfold dops
 rw [hi]
 unfold stepT wantE
 simp only
 cases hg:o.guard with
 | none=>exact Iff.rfl
 | some g=>
   obtain ⟨j,want⟩:=g
   simp only
   cases hd:(ops[j]?).bind (·.dst) with
   | none=>exact Iff.rfl
   | some d=>
     simp only
     cases hl:C.loc d with
     | true=>
       cases he:e d with
       | val v=>cases v<;>exact Iff.rfl
       | _=>exact Iff.rfl
     | false=>
       cases he:e d with
       | val v=>
         cases v with
         | bool t=>
           have hset:e.set d (.val (.bool t))=e:=by
            funext x; by_cases hx:x=d
            · subst hx; rw [Env.set_same,he]
            · rw [Env.set_ne hx]
           cases t<;>cases want<;>simp only [ifP]<;>rw [hset]<;>exact Iff.rfl
         | _=>exact Iff.rfl
       | _=>exact Iff.rfl
theorem za14 {ops:Array Oper} {o:Oper} {e e':Env} (H:∀d∈guardD ops o,e d=e' d):wantE C ops o e=wantE C ops o e':=by
 unfold wantE
 unfold guardD at H
 cases hg:o.guard with
 | none=>rfl
 | some g=>
   obtain ⟨j,want⟩:=g
   rw [hg] at H
   simp only at H ⊢
   cases hd:(ops[j]?).bind (·.dst) with
   | none=>rfl
   | some d=>
     rw [hd] at H
     simp only at H ⊢
     rw [H d (by simp)]
theorem za12 {ops:Array Oper} {o:Oper} {e e':Env} (hmk:isMk o=false) (H:∀t∈readsO C ops o,e t=e' t):stepT C ops o e=stepT C ops o e':=by
 have h1:wantE C ops o e=wantE C ops o e':=za14 fun d hd=>H d (by simp [readsO,hd])
 have h2:dcore C o e=dcore C o e':=za08 hmk fun x hx t ht=>by
  subst ht
  have hr:∀s∈readsX C (.tmp t),s∈readsO C ops o:=fun s hs=>by
   unfold readsO
   exact List.mem_append_left _ (List.mem_append_left _ (List.mem_flatMap.2 ⟨_,hx,hs⟩))
  exact ⟨H _ (hr _ (by simp [readsX])),H _ (hr _ (by simp [readsX]))⟩
 funext h K
 unfold stepT
 rw [h1,h2]
theorem za70 {h:Hp} (hf:h.Fin):∃w:World,Sub h w:=by
 obtain ⟨n,hn⟩:=hf
 refine ⟨{ (default:World) with heap:=Array.ofFn (n:=n) fun i=>match h i.1 with | some b=>.cells b.cells.toArray b.elem b.fz | none=>.deferred none },fun k b hk=>?_⟩
 have hkn:k<n:=by
  rcases Nat.lt_or_ge k n with h1 | h1
  · exact h1
  · rw [hn k h1] at hk; cases hk
 simp only [Array.getElem?_ofFn,hkn,dite_true,hk]
theorem za1v {e:Env}:∀{xs:List Operand} {K:List Value→Prop},opvs e xs K→∃vs,K vs∧∀K':List Value→Prop,K' vs→opvs e xs K'
 | [],K,h=>⟨[],h,fun _ h=>h⟩
 | x :: r,K,h=>by
   unfold opvs at h
   have key:∀K1:Value→Prop,opv e x K1→∃v,K1 v∧∀K2:Value→Prop,K2 v→opv e x K2:=fun K1 h1=>by
    unfold opv at h1 ⊢
    split at h1
    · exact ⟨_,h1,fun _ h=>h⟩
    · exact ⟨_,h1,fun _ h=>h⟩
    · exact ⟨_,h1,fun _ h=>h⟩
    · split at h1
      · exact ⟨_,h1,fun _ h=>h⟩
      · exact h1.elim
   obtain ⟨v,h1,h2⟩:=key _ h
   obtain ⟨vs,h3,h4⟩:=za1v h1
   exact ⟨v :: vs,h3,fun K' hk=>by unfold opvs; exact h2 _ (h4 _ hk)⟩
theorem za9w (hC:TabOK C C.tab) {o:Oper} {e:Env} (hc:clsO C o=.call) {h:Hp} {K:Up→Hp→Prop} (hfin:h.Fin) (hk:dcore C o e h K):∃u h',K u h':=by
 obtain ⟨c,g,ho,hcal,hm⟩:=za1b hc
 unfold dcore at hk
 simp only [ho,hcal,opv] at hk
 obtain ⟨vs,hk,_⟩:=za1v hk
 rcases hC.get g with ⟨hf,_⟩ | hno
 · obtain ⟨w,hs⟩:=za70 hfin
   obtain ⟨_,_,_,⟨v,h',_,hv,_⟩,_⟩:=hf.2 _ _ _ w hs hk []
   have hp:PureLike (modsU C o) fun h K=>retV C o.dst v h K:=zb5 zab
   obtain ⟨p,_,h2⟩:=hp
   obtain ⟨u,_,hu⟩:=(h2 _ _).1 hv
   exact ⟨u,h',hu⟩
 · exact (hno _ _ _ hk).elim
theorem zvq {Mx My:Up→Prop} {Tx Ty:PT} (hx:PureLike Mx Tx) (hy:MonoU My Ty) {h:Hp} {F:Up→Up→Hp→Prop}
 (hk:Tx h fun u1 h1=>Ty h1 fun u2 h2=>F u1 u2 h2):Ty h fun u2 h2=>Tx h2 fun u1 h1=>F u1 u2 h1:=by
 obtain ⟨p,_,h2⟩:=hx
 obtain ⟨u1,hp,hF⟩:=(h2 _ _).1 hk
 exact hy _ _ _ (fun u h' _ hh=>(h2 _ _).2 ⟨u1,hp,hh⟩) hF
theorem za8c {Mx My:Up→Prop} {Tx Ty:PT} (hx:LoadLike Mx Tx) (hy:MonoU My Ty) (hg:GrowU Ty) {h:Hp} {F:Up→Up→Hp→Prop}
 (hk:Tx h fun u1 h1=>Ty h1 fun u2 h2=>F u1 u2 h2):Ty h fun u2 h2=>Tx h2 fun u1 h1=>F u1 u2 h1:=by
 obtain ⟨p,_,hm,h2⟩:=hx
 obtain ⟨u1,hp,hF⟩:=(h2 _ _).1 hk
 exact hy _ _ _ (fun u h' _ hh=>(h2 _ _).2 ⟨u1,hm _ _ _ hp hh.2,hh.1⟩) (hg _ _ hF)
theorem za46 {α:Type} {G:(α→Hp→Prop)→Hp→Prop} {K:α→Hp→Prop} {h:Hp} {b:Nat} {x:Blk} (hb:h b=none)
 (hc:callP G (fun r h1=>h1 b=none→K r (h1.ins b x)) h):callP G K (h.ins b x):=by
 obtain ⟨D,O,Q,h1,h2,h3,h4⟩:=hc
 subst h2
 rw [Hp.add_none] at hb
 refine ⟨D,O.ins b x,Q,Hp.dj_ins h1 hb.1,Hp.add_ins hb.1,h3,fun v D' hQ=>⟨(h4 v D' hQ).1,fun hd hfin=>?_⟩⟩
 have hdb:D' b=none:=by
  rcases hd b with h5 | h5
  · exact h5
  · rw [Hp.ins_same] at h5; cases h5
 have hdj:D'.dj O:=fun j=>by
  by_cases hj:j=b
  · subst hj; exact .inl hdb
  · have:=hd j; rw [Hp.ins_ne hj] at this; exact this
 have:=(h4 v D' hQ).2 hdj (hfin.sub fun k hk=>by
  rw [Hp.add_none] at hk ⊢
  refine ⟨hk.1,?_⟩
  by_cases hkb:k=b
  · subst hkb; exact hb.2
  · rw [Hp.ins_ne hkb] at hk; exact hk.2) (Hp.add_none.2 ⟨hdb,hb.2⟩)
 rw [Hp.add_ins hdb] at this
 exact this
theorem za8b {Mx My:Up→Prop} {Tx Ty:PT} (hx:CallLikeU Mx Tx) (hy:NewLike My Ty) {h:Hp} (hinh:∀K,Tx h K→∃u h',K u h') {F:Up→Up→Hp→Prop}
 (hk:Tx h fun u1 h1=>Ty h1 fun u2 h2=>F u1 u2 h2):Ty h fun u2 h2=>Tx h2 fun u1 h1=>F u1 u2 h1:=by
 obtain ⟨α,G,q,_,hG⟩:=hx
 obtain ⟨P0,c,f,q2,_,_,hN⟩:=hy
 obtain ⟨u0,h0,hT0⟩:=hinh _ hk
 have hp0:=((hN _ _).1 hT0).1
 rcases hG with hG | hG
 · refine (hN _ _).2 ⟨hp0,fun b el hel hb=>(hG _ _).2 ?_⟩
   have h1:=(hG _ _).1 hk
   refine za46 (x:=⟨c,el,(0,0)⟩) hb (zgo ?_ h1)
   rintro r h' ⟨u,hq,hT⟩ _ _ hb'
   exact ⟨u,hq,((hN _ _).1 hT).2 b el hel hb'⟩
 · exact (hG _ _ hk).elim
theorem zab0 {Mx My:Up→Prop} {Tx Ty:PT} (hx:NewLike Mx Tx) (hy:NewLike My Ty) {h:Hp} (hfin:h.Fin) {F:Up→Up→Hp→Prop}
 (hk:Tx h fun u1 h1=>Ty h1 fun u2 h2=>F u1 u2 h2):Ty h fun u2 h2=>Tx h2 fun u1 h1=>F u1 u2 h1:=by
 obtain ⟨P1,c1,f1,q1,⟨e1,he1⟩,_,h1⟩:=hx
 obtain ⟨P2,c2,f2,q2,_,_,h2⟩:=hy
 obtain ⟨hp1,hk1⟩:=(h1 _ _).1 hk
 obtain ⟨b0,hb0⟩:=hfin.fresh
 have hp2:=((h2 _ _).1 (hk1 b0 e1 he1 hb0)).1
 refine (h2 _ _).2 ⟨hp2,fun b2 el2 g2 hb2=>(h1 _ _).2 ⟨hp1,fun b1 el1 g1 hb1=>?_⟩⟩
 have hne:b1≠b2:=fun hh=>by subst hh; rw [Hp.ins_same] at hb1; cases hb1
 rw [Hp.ins_ne hne] at hb1
 have:=((h2 _ _).1 (hk1 b1 el1 g1 hb1)).2 b2 el2 g2 (by rw [Hp.ins_ne (Ne.symm hne)]; exact hb2)
 rw [Hp.ins_comm (Ne.symm hne)]
 exact this
structure CfgOK (C:Cfg):Prop where
 tab:TabOK C C.tab
 mono:∀g args K K' h,(∀v h,K v h→K' v h)→C.f g args K h→C.f g args K' h
theorem znz {o:Oper}:PureLike (modsU C o) fun h K=>skipV C o.dst h K:=zaah zab
theorem zgm (hC:CfgOK C) {ops:Array Oper} {o:Oper} {e:Env}:MonoU (modsU C o) (stepT C ops o e):=by
 unfold stepT
 cases wantE C ops o e with
 | none=>exact za4
 | some b=>
   cases b
   · exact znz.mono
   · exact za2x hC.tab hC.mono
theorem za8a (hC:CfgOK C) {ops:Array Oper} {ox oy:Oper} {e:Env} (hs:swapCls C ox oy=true) {h:Hp} (hfin:h.Fin) {F:Up→Up→Hp→Prop}
 (hk:stepT C ops ox e h fun u1 h1=>stepT C ops oy e h1 fun u2 h2=>F u1 u2 h2) :
 stepT C ops oy e h fun u2 h2=>stepT C ops ox e h2 fun u1 h1=>F u1 u2 h1:=by
 cases hwx:wantE C ops ox e with
 | none=>unfold stepT at hk; rw [hwx] at hk; exact hk.elim
 | some bx=>
   cases bx with
   | false=>
     have ex:stepT C ops ox e=fun h K=>skipV C ox.dst h K:=by funext h K; unfold stepT; rw [hwx]
     have hp:PureLike (modsU C ox) (stepT C ops ox e):=by rw [ex]; exact znz
     exact zvq hp (zgm hC) hk
   | true=>
     have ex':stepT C ops ox e=fun h K=>dcore C ox e h K:=by funext h K; unfold stepT; rw [hwx]
     have same:sameGuard ox.guard oy.guard=true→wantE C ops oy e=some true:=fun hg=>by
      unfold sameGuard at hg
      cases hgy:oy.guard with
      | none=>unfold wantE; rw [hgy]
      | some gy=>
        cases hgx:ox.guard with
        | none=>rw [hgx,hgy] at hg; cases hg
        | some gx=>
          rw [hgx,hgy] at hg
          obtain ⟨i,a⟩:=gx
          obtain ⟨j,b⟩:=gy
          simp only [Bool.and_eq_true] at hg
          have hij:=Nat.eq_of_beq_eq_true hg.1
          have hab:a=b:=by have:=hg.2; cases a<;>cases b<;>simp_all
          subst hij hab
          unfold wantE at hwx ⊢
          rw [hgx] at hwx
          rw [hgy]
          exact hwx
     unfold swapCls at hs
     cases hcx:clsO C ox with
     | pure=>exact zvq (by rw [ex']; exact zlv hcx) (zgm hC) hk
     | load=>
       rw [hcx] at hs
       refine za8c (by rw [ex']; exact zlt hcx) (zgm hC) ?_ hk
       unfold stepT
       cases wantE C ops oy e with
       | none=>exact ze5
       | some b=>
         cases b with
         | false=>exact (znz (o:=oy)).grow
         | true=>
           simp only
           cases hcy:clsO C oy with
           | pure=>exact (zlv hcy).grow
           | load=>exact (zlt hcy).grow
           | call=>exact (znm hC.tab hcy).grow
           | new=>exact zaad hcy
           | other=>rw [hcy] at hs; cases hs
     | call=>
       rw [hcx] at hs
       cases hcy:clsO C oy with
       | new=>
         rw [hcy] at hs
         have hwy:=same hs
         have ey:stepT C ops oy e=fun h K=>dcore C oy e h K:=by funext h K; unfold stepT; rw [hwy]
         exact za8b (by rw [ex']; exact znm hC.tab hcx) (by rw [ey]; exact zpj hcy) (fun K hh=>by rw [ex'] at hh; exact za9w hC.tab hcx hfin hh) hk
       | _=>rw [hcy] at hs; cases hs
     | new=>
       rw [hcx] at hs
       cases hcy:clsO C oy with
       | new=>
         rw [hcy] at hs
         have hwy:=same hs
         have ey:stepT C ops oy e=fun h K=>dcore C oy e h K:=by funext h K; unfold stepT; rw [hwy]
         exact zab0 (by rw [ex']; exact zpj hcx) (by rw [ey]; exact zpj hcy) hfin hk
       | _=>rw [hcy] at hs; cases hs
     | other=>rw [hcx] at hs; cases hs
theorem zvo {ops:Array Oper} {ox oy:Oper} {e:Env} {u:Up} (hmk:isMk oy=false) (hu:modsU C ox u) (hd:disjN (modsO C ox) (readsA C ops oy)=true) :
 stepT C ops oy (e.upd C.rt u)=stepT C ops oy e:=by
 rw [zuy] at hd
 refine za12 hmk fun t ht=>za9d (fun d hdd hh=>?_) (fun d hdd hh=>?_)
 · exact hd d (hu.1 d hdd) (by rw [←hh]; exact List.mem_append_left _ ht)
 · exact hd d (hu.1 d hdd) (by rw [←hh]; exact List.mem_append_right _ (List.mem_map.2 ⟨t,ht,rfl⟩))
theorem zab6 {ops:Array Oper} {ox oy:Oper} {e:Env} {u v:Up} (hu:modsU C ox u) (hv:modsU C oy v) (h1:disjN (modsO C ox) (readsA C ops oy)=true)
 (h2:disjN (modsO C oy) (readsA C ops ox)=true) (h3:disjN (modsO C ox) (modsO C oy)=true):(e.upd C.rt u).upd C.rt v=(e.upd C.rt v).upd C.rt u:=by
 rw [zuy] at h1 h2 h3
 have root:∀(o:Oper) (u:Up),modsU C o u→∀d off,u=.set d (.ref off)→C.rt d∈readsA C ops o:=fun o u hu d off hh=>by
  refine List.mem_append_left _ ?_
  unfold readsO
  rw [hu.2.1 d off hh]
  simp
 refine zab5 (fun d d' hd hd' hh=>?_) (fun d off hh d' hd' hr=>?_) (fun d off hh d' hd' hr=>?_) hu.2.2 hv.2.2
 · subst hh; exact h3 d (hu.1 d hd) (hv.1 d hd')
 · exact h2 d' (hv.1 d' hd') (by rw [←hr]; exact root ox u hu d off hh)
 · exact h1 d' (hu.1 d' hd') (by rw [←hr]; exact root oy v hv d off hh)
theorem za4g (hC:CfgOK C) {ops:Array Oper} {K:Env→Hp→Prop} {x y:Nat} {r:List Nat} {e:Env} {h:Hp} (hfin:h.Fin) (hs:swapOk C ops x y=true)
 (hk:dops C ops K (x :: y :: r) e h):dops C ops K (y :: x :: r) e h:=by
 unfold swapOk at hs
 split at hs
 · rename_i ox oy hx hy
   simp only [Bool.and_eq_true] at hs
   obtain ⟨⟨⟨⟨⟨hc,hm1⟩,hm2⟩,h1⟩,h2⟩,h3⟩:=hs
   have hm1:isMk ox=false:=by simpa using hm1
   have hm2:isMk oy=false:=by simpa using hm2
   rw [zhy hx] at hk
   rw [zhy hy]
   have k1:stepT C ops ox e h fun u1 h1=>stepT C ops oy e h1 fun u2 h2=>modsU C ox u1∧modsU C oy u2∧dops C ops K r ((e.upd C.rt u1).upd C.rt u2) h2:=by
    refine zgm hC _ _ _ (fun u1 h' hu1 hk1=>?_) hk
    rw [zhy hy,zvo hm2 hu1 h1] at hk1
    exact zgm hC _ _ _ (fun u2 h'' hu2 hk2=>⟨hu1,hu2,hk2⟩) hk1
   refine zgm hC _ _ _ (fun u2 h' hu2 hk2=>?_) (za8a hC hc hfin k1)
   rw [zhy hx,zvo hm1 hu2 h2]
   refine zgm hC _ _ _ (fun u1 h'' hu1 hk3=>?_) hk2
   rw [←zab6 hu1 hu2 h1 h2 h3]
   exact hk3.2.2
 · cases hs
theorem zaay (hC:CfgOK C) {ops:Array Oper} {ox oy:Oper} {e:Env} (hs:swapCls C ox oy=true):FinU (stepT C ops ox e):=by
 unfold stepT
 cases wantE C ops ox e with
 | none=>exact za6z
 | some b=>
   cases b with
   | false=>exact (znz (o:=ox)).fin
   | true=>
     simp only
     unfold swapCls at hs
     cases hc:clsO C ox with
     | pure=>exact (zlv hc).fin
     | load=>exact (zlt hc).fin
     | call=>exact (znm hC.tab hc).fin
     | new=>exact (zpj hc).fin
     | other=>rw [hc] at hs; cases hs
theorem zrn (hC:CfgOK C) {ops:Array Oper} {K:Env→Hp→Prop} {y:Nat} {r:List Nat}:∀{p:List Nat} {e:Env} {h:Hp},h.Fin→(∀x∈p,swapOk C ops x y=true) →
 dops C ops K (p++y :: r) e h→dops C ops K (y :: (p++r)) e h
 | [],e,h,_,_,hk=>hk
 | x :: p,e,h,hfin,hp,hk=>by
   have hs:=hp x (by simp)
   have h1:dops C ops K (x :: (y :: (p++r))) e h:=by
    cases hx:ops[x]? with
    | none=>unfold swapOk at hs; rw [hx] at hs; cases hs
    | some ox=>
      rw [List.cons_append,zhy hx] at hk
      rw [zhy hx]
      have hcl:∃oy,swapCls C ox oy=true:=by
       unfold swapOk at hs
       rw [hx] at hs
       split at hs
       · rename_i o1 o2 h1 h2
         cases h1
         simp only [Bool.and_eq_true] at hs
         exact ⟨o2,hs.1.1.1.1.1⟩
       · cases hs
      obtain ⟨oy,hcl⟩:=hcl
      refine zgm hC _ _ _ (fun u h' _ hh=>?_) (zaay hC hcl _ _ hfin hk)
      exact zrn hC hh.2 (fun z hz=>hp z (by simp [hz])) hh.1
   exact za4g hC hfin hs h1
end
end Den
end
