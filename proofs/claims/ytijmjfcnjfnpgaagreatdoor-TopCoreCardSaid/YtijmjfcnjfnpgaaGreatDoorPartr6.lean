/-
  Part 6 of the tools and contracts from which the statement is proved.
-/
import Derived.Test.YtijmjfcnjfnpgaaGreatDoorPartr5
import Derived.Lib.Bytealg
import Derived.Test.YtijmjfcnjfnpgaaGreatDoorProg
import Derived.Laws.Externs
import Derived.RangeFuncBox
import Derived.RangeFuncLeaves
import Derived.Shelf.Abstract
import Derived.WalkKit
import Derived.OwnWalkIn
import Derived.TacticsInMore
import Derived.LoopNIn
import Derived.LoopIn
import Derived.Lib.Builder
import Derived.Lib.UnsafeStr
import Derived.ProofKit
import Derived.Shelf.GgSortFunc.InsertionK
import Derived.Shelf.SlSortCmp.NoneTotal
import Derived.Shelf.SlGeneric
import Derived.Shelf.Lays
import Derived.Shelf.SlLaysF0
import Derived.Shelf.Sort.Plain
import Derived.Shelf.Slices.In.SortNone
import Derived.Calls
set_option linter.all false
open Go.IntKind
open Nat renaming le_refl→Ja,mul_le_mul_right→Jj,add_mul→Js,add_zero→Uy,zero_add→Gi,min_eq_left→Gk,add_sub_cancel_left→To
open List renaming getElem?_eq_getElem→Jc,take_of_length_le→Jd,length_append→Je,getD_eq_getElem?_getD→Jf,range→Jp,replicate→Jr,take_append_of_le_length→Jx,getElem?_eq_none→J5,mem_singleton→J6,countP_singleton→Uc,map_append→Uf,getElem?_append_left→Uh,countP_append→Uo,append_assoc→Uq,getElem?_map→Uw,getElem?_append_right→Uz,map_cons→U3,length_set→Gl,range_succ→Gp,length_singleton→Gr,getElem?_drop→Gy,map_nil→Pg,take_append→Ph
open Option.some renaming inj→J9
open Den.Ty renaming leaf→Ul
open Option renaming map_some→U0
open Go.Value renaming int→Ge
open Den.Value renaming leaf→Gq
open Den.ArgT renaming fnc→G3,fn→P6
open Array renaming getElem?_toList→Tl,length_toList→Pa
open Go.Proofs renaming ltOf→Lo
section
set_option maxRecDepth 10000
namespace Den
open Go
structure TNumber where
 radicands:Sl
 coefs:Sl
def Zs:Ty TNumber:=Ty.agg [.sl,.sl] (λx=>(x.radicands,x.coefs,())) (λy=>⟨y.1,y.2.1⟩) (λ_=>rfl) (λ_=>rfl)
structure Tnumber_embedding where
 into:Sl
 roots:Sl
def z6m:Ty Tnumber_embedding:=Ty.agg [.sl,.sl] (λx=>(x.into,x.roots,())) (λy=>⟨y.1,y.2.1⟩) (λ_=>rfl) (λ_=>rfl)
structure Tmatrix_reduced where
 rows:Sl
 pivots:Sl
 det:TNumber
def zgf:Ty Tmatrix_reduced:=Ty.agg [.sl,.sl,.sl,.sl] (λx=>(x.rows,x.pivots,x.det.radicands,x.det.coefs,())) (λy=>⟨y.1,y.2.1,⟨y.2.2.1,y.2.2.2.1⟩⟩) (λ_=>rfl) (λ_=>rfl)
structure TTree where
 a:Int
 b:Int
 c:Int
 parts:Sl
def z4b:Ty TTree:=Ty.agg [.int .i64,.int .i64,.int .i64,.sl] (λx=>(x.a,x.b,x.c,x.parts,())) (λy=>⟨y.1,y.2.1,y.2.2.1,y.2.2.2.1⟩) (λ_=>rfl) (λ_=>rfl)
namespace F
def z0i(g:TGraph)(at_:Sl)(K:TSketch->Hp->Prop)(h:Hp):Prop:=(zn (S:=(Sl×Sl×Sl×Sl×Sl×Sl×Unit)×Int×Unit) (λs1 k2 h1=>(ifP (decide (s1.2.1<g.n)) (zg at_ s1.2.1 2 λa3=>(ldL (.int .i8) (a3.add 0) (λx4=>(zg at_ s1.2.1 2 λa5=>(ldL (.int .i8) (a5.add 1) (λx6=>(zc (Q1 (i64.wrap (x4))) (λr7 h2=>(zc (Q1 (i64.wrap (x6))) (λr8 h3=>(ql 8 128 [.bool false,.slice zf.a zf.len zf.cap,.bool false,.slice zf.a zf.len zf.cap,.bool false,.slice zf.a zf.len zf.cap,.bool false,.slice zf.a zf.len zf.cap] s1.1.1 1 [.bool r7.num.neg,.slice r7.num.mag.a r7.num.mag.len r7.num.mag.cap,.bool r7.den.neg,.slice r7.den.mag.a r7.den.mag.len r7.den.mag.cap,.bool r8.num.neg,.slice r8.num.mag.a r8.num.mag.len r8.num.mag.cap,.bool r8.den.neg,.slice r8.den.mag.a r8.den.mag.len r8.den.mag.cap] (λw9 h4=>(k2 ((w9,s1.1.2.1,s1.1.2.2.1,s1.1.2.2.2.1,s1.1.2.2.2.2.1,s1.1.2.2.2.2.2.1,()),(i64.wrap (s1.2.1+1)),()) h4)) h3)) h2)) h1)) h1))) h1)) (zn (S:=(Sl×Sl×Sl×Sl×Sl×Sl×Unit)×Int×Unit) (λs10 k11 h5=>(ifP (decide (s10.2.1<(g.edges.len:Int))) (zg g.edges s10.2.1 2 λa12=>(ldL (.int .i64) (a12.add 0) (λx13_0=>(ldL (.int .i64) (a12.add 1) (λx13_1=>(zc (Q1 5) (λr14 h6=>(Y2 [.int .i64 x13_0,.int .i64 x13_1] (λp15 h7=>(Y2 [.int .i64 1,.bool r14.num.neg,.slice r14.num.mag.a r14.num.mag.len r14.num.mag.cap,.bool r14.den.neg,.slice r14.den.mag.a r14.den.mag.len r14.den.mag.cap,.string Y3,.slice zf.a zf.len zf.cap] (λp16 h8=>(ql 5 88 [.int .i64 0,.slice zf.a zf.len zf.cap,.slice zf.a zf.len zf.cap,.slice zf.a zf.len zf.cap,.int .i64 0] s10.1.2.2.2.2.2.1 1 [.int .i64 2,.slice (⟨some p15,2,2⟩:Sl).a (⟨some p15,2,2⟩:Sl).len (⟨some p15,2,2⟩:Sl).cap,.slice zf.a zf.len zf.cap,.slice (⟨some p16,1,1⟩:Sl).a (⟨some p16,1,1⟩:Sl).len (⟨some p16,1,1⟩:Sl).cap,.int .i64 0] (λw17 h9=>(k11 ((s10.1.1,s10.1.2.1,s10.1.2.2.1,s10.1.2.2.2.1,s10.1.2.2.2.2.1,w17,()),(i64.wrap (s10.2.1+1)),()) h9)) h8)) h7)) h6)) h5)) h5)) h5)) (K (⟨s10.1.1,s10.1.2.1,s10.1.2.2.1,s10.1.2.2.2.1,s10.1.2.2.2.2.1,s10.1.2.2.2.2.2.1⟩:TSketch) h5))) ((s1.1.1,s1.1.2.1,s1.1.2.2.1,s1.1.2.2.2.1,s1.1.2.2.2.2.1,s1.1.2.2.2.2.2.1,()),0,()) h1))) ((zf,zf,zf,zf,zf,zf,()),0,()) h)
def z6x(n:Int)(K:(Option Addr)->Hp->Prop)(h:Hp):Prop:=(mkP n n 24 [.slice zf.a zf.len zf.cap] (λm1 h1=>(Y2 [.slice m1.a m1.len m1.cap] (λp2 h2=>(K (some p2) h2)) h1)) h)
def y_pebble_game_free(g:(Option Addr))(a:Int)(K:Int->Hp->Prop)(h:Hp):Prop:=(Ye g λp1=>(ldL (.sl) (p1.add 0) (λx2=>(zg x2 a 1 λa3=>(ldL (.sl) a3 (λx4=>(K (i64.wrap (2-(x4.len:Int))) h)) h))) h))
def Qe(s:Sl)(i:Int)(j:Int)(K:Sl->Hp->Prop)(h:Hp):Prop:=(Zep s i j (s.len:Int) 1 λc1=>(ifP (i==j) (K s h) (slP s 0 i 1 λc2=>(slP s j (s.len:Int) 1 λc3=>(rdO c3.a (c3.len*1) (λvs4=>(ql 1 8 [.int .i64 0] c2 c3.len vs4 (λw5 h1=>(slP w5 (w5.len:Int) (s.len:Int) 1 λc6=>(zv0 c6 [.int .i64 0] (λh2=>(K w5 h2)) h1))) h)) h)))))
def y_pebble_game_fetch_:Nat->(Option Addr)->Int->Sl->(Bool->Hp->Prop)->Hp->Prop
 | 0,_,_,_,_,_=>False
 | fuel+1,g,a,visited,K,h=>(zg visited a 1 λa1=>(stP a1 [.bool true] (λh1=>(Ye g λp2=>(ldL (.sl) (p2.add 0) (λx3=>(zg x3 a 1 λa4=>(ldL (.sl) a4 (λx5=>(zn (S:=Int×Unit) (λs6 k7 h2=>(ifP (decide (s6.1<(x5.len:Int))) (zv (S:=Unit) (λs8 h3=>(k7 ((i64.wrap (s6.1+1)),()) h3)) (λk9=>(zg x5 s6.1 1 λa10=>(ldL (.int .i64) a10 (λx11=>(zg visited x11 1 λa12=>(ldL (.bool) a12 (λx13=>(ifP x13 (k9 () h2) (zc (y_pebble_game_free g x11) (λr14 h4=>(ifP (decide (r14>0)) (Ye g λp15=>(ldL (.sl) (p15.add 0) (λx16=>(Ye g λp17=>(ldL (.sl) (p17.add 0) (λx18=>(zg x18 a 1 λa19=>(ldL (.sl) a19 (λx20=>(Qu (Qe x20 s6.1 (i64.wrap (s6.1+1))) (λr21 h5=>((ldL (.sl) (p15.add 0) (λx22=>(((.slice x22.a x22.len x22.cap):Value)=((.slice x16.a x16.len x16.cap):Value))) h5) /\ (zg x16 a 1 λa23=>(stP a23 [.slice r21.a r21.len r21.cap] (λh6=>(Ye g λp24=>(ldL (.sl) (p24.add 0) (λx25=>(Ye g λp26=>(ldL (.sl) (p26.add 0) (λx27=>(zg x27 x11 1 λa28=>(ldL (.sl) a28 (λx29=>(ql 1 8 [.int .i64 0] x29 1 [.int .i64 a] (λw30 h7=>((ldL (.sl) (p24.add 0) (λx31=>(((.slice x31.a x31.len x31.cap):Value)=((.slice x25.a x25.len x25.cap):Value))) h7) /\ (zg x25 x11 1 λa32=>(stP a32 [.slice w30.a w30.len w30.cap] (λh8=>(K true h8)) h7)))) h6)) h6))) h6))) h6))) h5)))) h4)) h4))) h4))) h4)) (Qu ((y_pebble_game_fetch_ fuel) g x11 visited) (λr33 h9=>(ifP r33 (Ye g λp34=>(ldL (.sl) (p34.add 0) (λx35=>(Ye g λp36=>(ldL (.sl) (p36.add 0) (λx37=>(zg x37 a 1 λa38=>(ldL (.sl) a38 (λx39=>(Qu (Qe x39 s6.1 (i64.wrap (s6.1+1))) (λr40 h10=>((ldL (.sl) (p34.add 0) (λx41=>(((.slice x41.a x41.len x41.cap):Value)=((.slice x35.a x35.len x35.cap):Value))) h10) /\ (zg x35 a 1 λa42=>(stP a42 [.slice r40.a r40.len r40.cap] (λh11=>(Ye g λp43=>(ldL (.sl) (p43.add 0) (λx44=>(Ye g λp45=>(ldL (.sl) (p45.add 0) (λx46=>(zg x46 x11 1 λa47=>(ldL (.sl) a47 (λx48=>(ql 1 8 [.int .i64 0] x48 1 [.int .i64 a] (λw49 h12=>((ldL (.sl) (p43.add 0) (λx50=>(((.slice x50.a x50.len x50.cap):Value)=((.slice x44.a x44.len x44.cap):Value))) h12) /\ (zg x44 x11 1 λa51=>(stP a51 [.slice w49.a w49.len w49.cap] (λh13=>(K true h13)) h12)))) h11)) h11))) h11))) h11))) h10)))) h9)) h9))) h9))) h9)) (k9 () h9))) h4))) h2))) h2))) h2)))) (K false h2))) (0,()) h1)) h1))) h1))) h))
def y_pebble_game_fetch(g:(Option Addr))(a:Int)(visited:Sl)(K:Bool->Hp->Prop)(h:Hp):Prop:=∃fuel,y_pebble_game_fetch_ fuel g a visited K h
def y_pebble_game_gather(g:(Option Addr))(a:Int)(b:Int)(K:Int->Hp->Prop)(h:Hp):Prop:=(Y2 [.int .i64 a,.int .i64 b,.int .i64 b,.int .i64 a] (λp1 h1=>(zn (S:=Int×Unit) (λs2 k3 h2=>(ifP (decide (s2.1<((⟨some p1,2,2⟩:Sl).len:Int))) (zv (S:=Unit) (λs4 h3=>(k3 ((i64.wrap (s2.1+1)),()) h3)) (λk5=>(zg (⟨some p1,2,2⟩:Sl) s2.1 2 λa6=>(ldL (.int .i64) (a6.add 0) (λx7_0=>(ldL (.int .i64) (a6.add 1) (λx7_1=>(zn (S:=Unit) (λs8 k9 h4=>(zc (y_pebble_game_free g x7_0) (λr10 h5=>(ifP (decide (r10<2)) (Ye g λp11=>(ldL (.sl) (p11.add 0) (λx12=>(mkP (x12.len:Int) (x12.len:Int) 1 [.bool false] (λm13 h6=>(zg m13 x7_1 1 λa14=>(stP a14 [.bool true] (λh7=>(Qu (y_pebble_game_fetch g x7_0 m13) (λr15 h8=>(ifP (!r15) (k5 () h8) (k9 () h8))) h7)) h6))) h5)) h5)) (k5 () h5))) h4)) () h2)) h2)) h2)))) (zc (y_pebble_game_free g a) (λr16 h9=>(zc (y_pebble_game_free g b) (λr17 h10=>(K (i64.wrap (r16+r17)) h10)) h9)) h2))) (0,()) h1)) h)
def y_pebble_game_accept(g:(Option Addr))(a:Int)(b:Int)(K:Bool->Hp->Prop)(h:Hp):Prop:=(Qu (y_pebble_game_gather g a b) (λr1 h1=>(ifP (decide (r1<4)) (K false h1) (Ye g λp2=>(ldL (.sl) (p2.add 0) (λx3=>(Ye g λp4=>(ldL (.sl) (p4.add 0) (λx5=>(zg x5 a 1 λa6=>(ldL (.sl) a6 (λx7=>(ql 1 8 [.int .i64 0] x7 1 [.int .i64 b] (λw8 h2=>((ldL (.sl) (p2.add 0) (λx9=>(((.slice x9.a x9.len x9.cap):Value)=((.slice x3.a x3.len x3.cap):Value))) h2) /\ (zg x3 a 1 λa10=>(stP a10 [.slice w8.a w8.len w8.cap] (λh3=>(K true h3)) h2)))) h1)) h1))) h1))) h1)))) h)
def z8q(n:Int)(edges:Sl)(K:(Sl×(Option Addr))->Hp->Prop)(h:Hp):Prop:=(zc (z6x n) (λr1 h1=>(zn (S:=Sl×Int×Unit) (λs2 k3 h2=>(ifP (decide (s2.2.1<(edges.len:Int))) (zv (S:=Sl×Unit) (λs4 h3=>(k3 (s4.1,(i64.wrap (s2.2.1+1)),()) h3)) (λk5=>(zg edges s2.2.1 2 λa6=>(ldL (.int .i64) (a6.add 0) (λx7_0=>(ldL (.int .i64) (a6.add 1) (λx7_1=>(Qu (y_pebble_game_accept r1 x7_0 x7_1) (λr8 h4=>(ifP r8 (ql 1 8 [.int .i64 0] s2.1 1 [.int .i64 s2.2.1] (λw9 h5=>(k5 (w9,()) h5)) h4) (k5 (s2.1,()) h4))) h2)) h2)) h2)))) (K (s2.1,r1) h2))) (zf,0,()) h1)) h)
def Wp(g:TGraph)(K:Sl->Hp->Prop)(h:Hp):Prop:=(zc (Wc g) (λr1 h1=>(ifP (!r1) (K zf h1) (zc (z8q g.n g.edges) (λr2 h2=>(K r2.1 h2)) h1))) h)
def z3y(a:Sl)(b:Sl)(K:Bool->Hp->Prop)(h:Hp):Prop:=(ifP ((a.len:Int) != (b.len:Int)) (K false h) (zn (S:=Int×Unit) (λs1 k2 h1=>(ifP (decide (s1.1<(a.len:Int))) (zg a s1.1 1 λa3=>(ldL (.int .i64) a3 (λx4=>(zg b s1.1 1 λa5=>(ldL (.int .i64) a5 (λx6=>(ifP (x4 != x6) (K false h1) (k2 ((i64.wrap (s1.1+1)),()) h1))) h1))) h1)) (K true h1))) (0,()) h))
def z59(g:TGraph)(points:Sl)(K:Sl->Hp->Prop)(h:Hp):Prop:=(zc (Wc g) (λr1 h1=>(ifP (!r1) (K zf h1) (zn (S:=Sl×Int×Unit) (λs2 k3 h2=>(ifP (decide (s2.2.1<(g.edges.len:Int))) (zv (S:=Sl×Unit) (λs4 h3=>(k3 (s4.1,(i64.wrap (s2.2.1+1)),()) h3)) (λk5=>(zg g.edges s2.2.1 2 λa6=>(ldL (.int .i64) (a6.add 0) (λx7_0=>(ldL (.int .i64) (a6.add 1) (λx7_1=>(zc (Zh points x7_0) (λr8 h4=>(ifP r8 (zc (Zh points x7_1) (λr9 h5=>(ifP r9 (ql 2 16 [.int .i64 0,.int .i64 0] s2.1 1 [.int .i64 x7_0,.int .i64 x7_1] (λw10 h6=>(k5 (w10,()) h6)) h5) (k5 (s2.1,()) h5))) h4) (k5 (s2.1,()) h4))) h2)) h2)) h2)))) (K s2.1 h2))) (zf,0,()) h1))) h)
def z1u(K:TGraph->Hp->Prop)(h:Hp):Prop:=(Y2 [.int .i64 0,.int .i64 1,.int .i64 0,.int .i64 2,.int .i64 1,.int .i64 2,.int .i64 1,.int .i64 3,.int .i64 2,.int .i64 3] (λp1 h1=>(K (⟨4,(⟨some p1,5,5⟩:Sl)⟩:TGraph) h1)) h)
def z9b(n:TRat)(K:TNumber->Hp->Prop)(h:Hp):Prop:=(Y2 [.bool n.num.neg,.slice n.num.mag.a n.num.mag.len n.num.mag.cap,.bool n.den.neg,.slice n.den.mag.a n.den.mag.len n.den.mag.cap] (λp1 h1=>(K (⟨zf,(⟨some p1,1,1⟩:Sl)⟩:TNumber) h1)) h)
def z2m(n:Int)(K:TNumber->Hp->Prop)(h:Hp):Prop:=(zc (Q1 n) (λr1 h1=>(zc (z9b r1) (λr2 h2=>(K r2 h2)) h1)) h)
def zap(n:Int)(i:Int)(K:Sl->Hp->Prop)(h:Hp):Prop:=(zn (S:=Sl×Int×Unit) (λs1 k2 h1=>(ifP (decide (s1.2.1<n)) (zc (z2m 0) (λr3 h2=>(zv (S:=(Sl×Sl×Unit)×Unit) (λs4 h3=>(ql 2 48 [.slice zf.a zf.len zf.cap,.slice zf.a zf.len zf.cap] s1.1 1 [.slice s4.1.1.a s4.1.1.len s4.1.1.cap,.slice s4.1.2.1.a s4.1.2.1.len s4.1.2.1.cap] (λw6 h4=>(k2 (w6,(i64.wrap (s1.2.1+1)),()) h4)) h3)) (λk5=>(ifP (s1.2.1==i) (zc (z2m 1) (λr7 h5=>(k5 ((r7.radicands,r7.coefs,()),()) h5)) h2) (k5 ((r3.radicands,r3.coefs,()),()) h2))))) h1) (K s1.1 h1))) (zf,0,()) h)
def z11(n:TRat)(K:TRat->Hp->Prop)(h:Hp):Prop:=(zc (Zi n.num.mag) (λr1 h1=>(zc (Zi n.den.mag) (λr2 h2=>(K (⟨(⟨n.num.neg,r1⟩:TInt),(⟨n.den.neg,r2⟩:TInt)⟩:TRat) h2)) h1)) h)
def z3t(n:TRat)(K:TNumber->Hp->Prop)(h:Hp):Prop:=(zc (z11 n) (λr1 h1=>(Y2 [.bool r1.num.neg,.slice r1.num.mag.a r1.num.mag.len r1.num.mag.cap,.bool r1.den.neg,.slice r1.den.mag.a r1.den.mag.len r1.den.mag.cap] (λp2 h2=>(K (⟨zf,(⟨some p2,1,1⟩:Sl)⟩:TNumber) h2)) h1)) h)
def Wo(n:Int)(K:TNumber->Hp->Prop)(h:Hp):Prop:=(zc (qm n) (λr1 h1=>(zc (z3t r1) (λr2 h2=>(K r2 h2)) h1)) h)
def z5k(g:TGraph)(at_:Sl)(K:Sl->Hp->Prop)(h:Hp):Prop:=(zn (S:=Sl×Int×Unit) (λs1 k2 h1=>(ifP (decide (s1.2.1<(g.edges.len:Int))) (zg g.edges s1.2.1 2 λa3=>(ldL (.int .i64) (a3.add 0) (λx4_0=>(ldL (.int .i64) (a3.add 1) (λx4_1=>(zc (zap (i64.wrap (2*g.n)) (-1)) (λr5 h2=>(zn (S:=Int×Unit) (λs6 k7 h3=>(ifP (decide (s6.1<2)) (zg at_ x4_0 2 λa8=>(ze0 s6.1 2 (ldL (.int .i8) (a8.add ((s6.1:Int).toNat*1)) (λx9=>(zg at_ x4_1 2 λa10=>(ze0 s6.1 2 (ldL (.int .i8) (a10.add ((s6.1:Int).toNat*1)) (λx11=>(zc (Wo (i64.wrap ((i64.wrap (x9))-(i64.wrap (x11))))) (λr12 h4=>(zc (Wo (i64.wrap (0-(i64.wrap ((i64.wrap (x9))-(i64.wrap (x11))))))) (λr13 h5=>(zg r5 (i64.wrap ((i64.wrap (2*x4_0))+s6.1)) 2 λa14=>(stP a14 [.slice r12.radicands.a r12.radicands.len r12.radicands.cap,.slice r12.coefs.a r12.coefs.len r12.coefs.cap] (λh6=>(zg r5 (i64.wrap ((i64.wrap (2*x4_1))+s6.1)) 2 λa15=>(stP a15 [.slice r13.radicands.a r13.radicands.len r13.radicands.cap,.slice r13.coefs.a r13.coefs.len r13.coefs.cap] (λh7=>(k7 ((i64.wrap (s6.1+1)),()) h7)) h6))) h5))) h4)) h3)) h3)))) h3))) (ql 1 24 [.slice zf.a zf.len zf.cap] s1.1 1 [.slice r5.a r5.len r5.cap] (λw16 h8=>(k2 (w16,(i64.wrap (s1.2.1+1)),()) h8)) h3))) (0,()) h2)) h1)) h1)) h1)) (K s1.1 h1))) (zf,0,()) h)
def Wm(m:Sl)(K:Int->Hp->Prop)(h:Hp):Prop:=(ifP ((m.len:Int)==0) (K 0 h) (zg m 0 1 λa1=>(ldL (.sl) a1 (λx2=>(K (x2.len:Int) h)) h)))
def z7r(row:Sl)(v0:(Option Addr))(K:Bool->Hp->Prop)(h:Hp):Prop:=(Ye v0 λp1=>(ldL (.sl) p1 (λx2=>(zc (Wm x2) (λr3 h1=>(K ((row.len:Int) != r3) h1)) h)) h))
def yp(s:Sl)(f1:(Option Addr×Unit))(K:Int->Hp->Prop)(h:Hp):Prop:=(zn (S:=Int×Unit) (λs1 k2 h1=>(ifP (decide (s1.1<(s.len:Int))) (zg s s1.1 1 λa3=>(ldL (.sl) a3 (λx4=>(zc (z7r x4 f1.1) (λr5 h2=>(ifP r5 (K s1.1 h2) (k2 ((i64.wrap (s1.1+1)),()) h2))) h1)) h1)) (K (-1) h1))) (0,()) h)
def yd(s:Sl)(f1:(Option Addr×Unit))(K:Bool->Hp->Prop)(h:Hp):Prop:=(zc (yp s (f1.1,())) (λr1 h1=>(K (decide (r1>=0)) h1)) h)
def z3q(m:Sl)(K:Bool->Hp->Prop)(h:Hp):Prop:=(Y2 [.slice m.a m.len m.cap] (λp1 h1=>(ldL (.sl) p1 (λx2=>(zc (yd x2 ((some p1),())) (λr3 h2=>(K (!r3) h2)) h1)) h1)) h)
def z1l(m:Sl)(K:Sl->Hp->Prop)(h:Hp):Prop:=(zc (z3q m) (λr1 h1=>(ifP (!r1) (K zf h1) (zc (Wm m) (λr2 h2=>(mkP r2 r2 24 [.slice zf.a zf.len zf.cap] (λm3 h3=>(zn (S:=Int×Unit) (λs4 k5 h4=>(ifP (decide (s4.1<(m3.len:Int))) (zn (S:=Int×Unit) (λs6 k7 h5=>(ifP (decide (s6.1<(m.len:Int))) (zg m s6.1 1 λa8=>(ldL (.sl) a8 (λx9=>(zg m3 s4.1 1 λa10=>(ldL (.sl) a10 (λx11=>(zg x9 s4.1 2 λa12=>(ldL (.sl) (a12.add 0) (λx13_0=>(ldL (.sl) (a12.add 1) (λx13_1=>(ql 2 48 [.slice zf.a zf.len zf.cap,.slice zf.a zf.len zf.cap] x11 1 [.slice x13_0.a x13_0.len x13_0.cap,.slice x13_1.a x13_1.len x13_1.cap] (λw14 h6=>(zg m3 s4.1 1 λa15=>(stP a15 [.slice w14.a w14.len w14.cap] (λh7=>(k7 ((i64.wrap (s6.1+1)),()) h7)) h6))) h5)) h5)) h5))) h5))) h5)) (k5 ((i64.wrap (s4.1+1)),()) h5))) (0,()) h4) (K m3 h4))) (0,()) h3)) h2)) h1))) h)
def Y9(s:Sl)(n:Int)(K:Sl->Hp->Prop)(h:Hp):Prop:=(zv (S:=Unit) (λs1 h1=>(ifP (decide ((i64.wrap (n-(i64.wrap ((s.cap:Int)-(s.len:Int)))))>0)) (slP s 0 (s.cap:Int) 2 λc3=>(0<=((i64.wrap (n-(i64.wrap ((s.cap:Int)-(s.len:Int))))):Int) /\ (ql 2 48 [.slice zf.a zf.len zf.cap,.slice zf.a zf.len zf.cap] c3 (((i64.wrap (n-(i64.wrap ((s.cap:Int)-(s.len:Int))))):Int).toNat) (yn ((i64.wrap (n-(i64.wrap ((s.cap:Int)-(s.len:Int))))):Int).toNat [.slice zf.a zf.len zf.cap,.slice zf.a zf.len zf.cap]) (λw4 h2=>(slP w4 0 (s.len:Int) 2 λc5=>(K c5 h2))) h1))) (K s h1))) (λk2=>(ifP (decide (n<0)) False (k2 () h))))
def Y0(slices:Sl)(K:Sl->Hp->Prop)(h:Hp):Prop:=(zn (S:=Int×Int×Unit) (λs1 k2 h1=>(ifP (decide (s1.2.1<(slices.len:Int))) (zv (S:=Int×Unit) (λs3 h2=>(k2 (s3.1,(i64.wrap (s1.2.1+1)),()) h2)) (λk4=>(zg slices s1.2.1 1 λa5=>(ldL (.sl) a5 (λx6=>(ifP (decide ((i64.wrap (s1.1+(x6.len:Int)))<0)) False (k4 ((i64.wrap (s1.1+(x6.len:Int))),()) h1))) h1)))) (zc (Y9 zf s1.1) (λr7 h3=>(zn (S:=Sl×Int×Unit) (λs8 k9 h4=>(ifP (decide (s8.2.1<(slices.len:Int))) (zg slices s8.2.1 1 λa10=>(ldL (.sl) a10 (λx11=>(rdO x11.a (x11.len*2) (λvs12=>(ql 2 48 [.slice zf.a zf.len zf.cap,.slice zf.a zf.len zf.cap] s8.1 x11.len vs12 (λw13 h5=>(k9 (w13,(i64.wrap (s8.2.1+1)),()) h5)) h4)) h4)) h4)) (K s8.1 h4))) (r7,0,()) h3)) h1))) (0,0,()) h)
def z5x(x:TRat)(y:TRat)(K:Bool->Hp->Prop)(h:Hp):Prop:=(zc (zg3 x y) (λr1 h1=>(K (r1==0) h1)) h)
def yr(s1:Sl)(s2:Sl)(K:Bool->Hp->Prop)(h:Hp):Prop:=(ifP ((s1.len:Int) != (s2.len:Int)) (K false h) (zn (S:=Int×Unit) (λs3 k4 h1=>(ifP (decide (s3.1<(s1.len:Int))) (zg s1 s3.1 4 λa5=>(ldL (.bool) (a5.add 0) (λx6_0=>(ldL (.sl) (a5.add 1) (λx6_1=>(ldL (.bool) (a5.add 2) (λx6_2=>(ldL (.sl) (a5.add 3) (λx6_3=>(zg s2 s3.1 4 λa7=>(ldL (.bool) (a7.add 0) (λx8_0=>(ldL (.sl) (a7.add 1) (λx8_1=>(ldL (.bool) (a7.add 2) (λx8_2=>(ldL (.sl) (a7.add 3) (λx8_3=>(zc (z5x (⟨(⟨x6_0,x6_1⟩:TInt),(⟨x6_2,x6_3⟩:TInt)⟩:TRat) (⟨(⟨x8_0,x8_1⟩:TInt),(⟨x8_2,x8_3⟩:TInt)⟩:TRat)) (λr9 h2=>(ifP (!r9) (K false h2) (k4 ((i64.wrap (s3.1+1)),()) h2))) h1)) h1)) h1)) h1)) h1))) h1)) h1)) h1)) h1)) (K true h1))) (0,()) h))
def z7v(a:Sl)(b:Sl)(K:Bool->Hp->Prop)(h:Hp):Prop:=(zc (yr a b) (λr1 h1=>(K r1 h1)) h)
def Zr(s1:Sl)(s2:Sl)(K:Bool->Hp->Prop)(h:Hp):Prop:=(ifP ((s1.len:Int) != (s2.len:Int)) (K false h) (zn (S:=Int×Unit) (λs3 k4 h1=>(ifP (decide (s3.1<(s1.len:Int))) (zg s1 s3.1 1 λa5=>(ldL (.sl) a5 (λx6=>(zg s2 s3.1 1 λa7=>(ldL (.sl) a7 (λx8=>(zc (z7v x6 x8) (λr9 h2=>(ifP (!r9) (K false h2) (k4 ((i64.wrap (s3.1+1)),()) h2))) h1)) h1))) h1)) (K true h1))) (0,()) h))
def z0m(t:Sl)(u:Sl)(K:Bool->Hp->Prop)(h:Hp):Prop:=(ifP (decide ((u.len:Int)<=(t.len:Int))) (slP t 0 (u.len:Int) 1 λc1=>(zc (Zr c1 u) (λr2 h1=>(K r2 h1)) h)) (K false h))
def z3h(n:Int)(K:Sl->Hp->Prop)(h:Hp):Prop:=(mkP n n 64 [.bool false,.slice zf.a zf.len zf.cap,.bool false,.slice zf.a zf.len zf.cap] (λm1 h1=>(zn (S:=Int×Unit) (λs2 k3 h2=>(ifP (decide (s2.1<(m1.len:Int))) (zc (qm 0) (λr4 h3=>(zg m1 s2.1 4 λa5=>(stP a5 [.bool r4.num.neg,.slice r4.num.mag.a r4.num.mag.len r4.num.mag.cap,.bool r4.den.neg,.slice r4.den.mag.a r4.den.mag.len r4.den.mag.cap] (λh4=>(k3 ((i64.wrap (s2.1+1)),()) h4)) h3))) h2) (K m1 h2))) (0,()) h1)) h)
def z6j(x:TRat)(K:Bool->Hp->Prop)(h:Hp):Prop:=(zc (Qg x) (λr1 h1=>(K (!r1) h1)) h)
def Yg(s:Sl)(K:Int->Hp->Prop)(h:Hp):Prop:=(zn (S:=Int×Unit) (λs1 k2 h1=>(ifP (decide (s1.1<(s.len:Int))) (zg s s1.1 4 λa3=>(ldL (.bool) (a3.add 0) (λx4_0=>(ldL (.sl) (a3.add 1) (λx4_1=>(ldL (.bool) (a3.add 2) (λx4_2=>(ldL (.sl) (a3.add 3) (λx4_3=>(zc (z6j (⟨(⟨x4_0,x4_1⟩:TInt),(⟨x4_2,x4_3⟩:TInt)⟩:TRat)) (λr5 h2=>(ifP r5 (K s1.1 h2) (k2 ((i64.wrap (s1.1+1)),()) h2))) h1)) h1)) h1)) h1)) h1)) (K (-1) h1))) (0,()) h)
def yx(s:Sl)(K:Bool->Hp->Prop)(h:Hp):Prop:=(zc (Yg s) (λr1 h1=>(K (decide (r1>=0)) h1)) h)
def z0n(l:Sl)(n:Int)(K:Bool->Hp->Prop)(h:Hp):Prop:=(ifP ((l.len:Int)==n) (zc (yx l) (λr1 h1=>(K (!r1) h1)) h) (K false h))
def z0j(t:Sl)(K:Bool->Hp->Prop)(h:Hp):Prop:=(zn (S:=Int×Unit) (λs1 k2 h1=>(ifP (decide (s1.1<(t.len:Int))) (zg t s1.1 1 λa3=>(ldL (.sl) a3 (λx4=>(0<=(s1.1:Int) /\ (zc (z0n x4 (i64.wrap (1*2 ^ (min (s1.1:Int).toNat i64.bits)))) (λr5 h2=>(ifP (!r5) (K false h2) (k2 ((i64.wrap (s1.1+1)),()) h2))) h1))) h1)) (K true h1))) (0,()) h)
def z5l(t:Sl)(n:TRat)(K:Sl->Hp->Prop)(h:Hp):Prop:=(zv (S:=Unit) (λs1 h1=>(0<=((t.len:Int):Int) /\ (zc (z3h (i64.wrap (1*2 ^ (min ((t.len:Int):Int).toNat i64.bits)))) (λr3 h2=>(zg r3 0 4 λa4=>(stP a4 [.bool n.num.neg,.slice n.num.mag.a n.num.mag.len n.num.mag.cap,.bool n.den.neg,.slice n.den.mag.a n.den.mag.len n.den.mag.cap] (λh3=>(K r3 h3)) h2))) h1))) (λk2=>(zc (z0j t) (λr5 h4=>(ifP (!r5) (K zf h4) (zc (Qg n) (λr6 h5=>(ifP (!r6) (K zf h5) (k2 () h5))) h4))) h)))
def zge(x:TRat)(K:Bool->Hp->Prop)(h:Hp):Prop:=(zc (Q0 x) (λr1 h1=>(K (r1 != 0) h1)) h)
def Qo(s:Sl)(K:Int->Hp->Prop)(h:Hp):Prop:=(zn (S:=Int×Unit) (λs1 k2 h1=>(ifP (decide (s1.1<(s.len:Int))) (zg s s1.1 4 λa3=>(ldL (.bool) (a3.add 0) (λx4_0=>(ldL (.sl) (a3.add 1) (λx4_1=>(ldL (.bool) (a3.add 2) (λx4_2=>(ldL (.sl) (a3.add 3) (λx4_3=>(zc (zge (⟨(⟨x4_0,x4_1⟩:TInt),(⟨x4_2,x4_3⟩:TInt)⟩:TRat)) (λr5 h2=>(ifP r5 (K s1.1 h2) (k2 ((i64.wrap (s1.1+1)),()) h2))) h1)) h1)) h1)) h1)) h1)) (K (-1) h1))) (0,()) h)
def qv(s:Sl)(K:Bool->Hp->Prop)(h:Hp):Prop:=(zc (Qo s) (λr1 h1=>(K (decide (r1>=0)) h1)) h)
def zb4(a:Sl)(K:Bool->Hp->Prop)(h:Hp):Prop:=(zc (qv a) (λr1 h1=>(K (!r1) h1)) h)
def Qm(s:Sl)(K:Sl->Hp->Prop)(h:Hp):Prop:=(ifP s.a.isNone (K zf h) (Y2 [] (λp1 h1=>(rdO s.a (s.len*4) (λvs2=>(ql 4 64 [.bool false,.slice zf.a zf.len zf.cap,.bool false,.slice zf.a zf.len zf.cap] (⟨some p1,0,0⟩:Sl) s.len vs2 (λw3 h2=>(K w3 h2)) h1)) h1)) h))
def z7u(t:Sl)(a:Sl)(K:Sl->Hp->Prop)(h:Hp):Prop:=(zc (Qm a) (λr1 h1=>(zn (S:=Sl×Unit) (λs2 k3 h2=>(0<=((t.len:Int):Int) /\ (ifP (decide ((s2.1.len:Int)<(i64.wrap (1*2 ^ (min ((t.len:Int):Int).toNat i64.bits))))) (zc (qm 0) (λr4 h3=>(ql 4 64 [.bool false,.slice zf.a zf.len zf.cap,.bool false,.slice zf.a zf.len zf.cap] s2.1 1 [.bool r4.num.neg,.slice r4.num.mag.a r4.num.mag.len r4.num.mag.cap,.bool r4.den.neg,.slice r4.den.mag.a r4.den.mag.len r4.den.mag.cap] (λw5 h4=>(k3 (w5,()) h4)) h3)) h2) (K s2.1 h2)))) (r1,()) h1)) h)
def Vf(t:Sl)(a:Sl)(K:Bool->Hp->Prop)(h:Hp):Prop:=(zc (z0j t) (λr1 h1=>(ifP r1 (0<=((t.len:Int):Int) /\ (zc (z0n a (i64.wrap (1*2 ^ (min ((t.len:Int):Int).toNat i64.bits)))) (λr2 h2=>(K r2 h2)) h1)) (K false h1))) h)
def z1v(t:Sl)(a:Sl)(b:Sl)(K:Bool->Hp->Prop)(h:Hp):Prop:=(zc (Vf t a) (λr1 h1=>(ifP r1 (0<=((t.len:Int):Int) /\ (zc (z0n b (i64.wrap (1*2 ^ (min ((t.len:Int):Int).toNat i64.bits)))) (λr2 h2=>(K r2 h2)) h1)) (K false h1))) h)
def z93(t:Sl)(K:(Sl×Sl)->Hp->Prop)(h:Hp):Prop:=(slP t 0 (i64.wrap ((t.len:Int)-1)) 1 λc1=>(zg t (i64.wrap ((t.len:Int)-1)) 1 λa2=>(ldL (.sl) a2 (λx3=>(K (c1,x3) h)) h)))
def z44(a:Sl)(K:(Sl×Sl)->Hp->Prop)(h:Hp):Prop:=((2:Int)≠0 /\ (slP a 0 (i64.wrap (((a.len:Int):Int).tdiv 2)) 4 λc1=>((2:Int)≠0 /\ (slP a (i64.wrap (((a.len:Int):Int).tdiv 2)) (a.len:Int) 4 λc2=>(K (c1,c2) h)))))
def z3f(a:Sl)(b:Sl)(K:Sl->Hp->Prop)(h:Hp):Prop:=(mkP (a.len:Int) (a.len:Int) 64 [.bool false,.slice zf.a zf.len zf.cap,.bool false,.slice zf.a zf.len zf.cap] (λm1 h1=>(zn (S:=Int×Unit) (λs2 k3 h2=>(ifP (decide (s2.1<(m1.len:Int))) (zg a s2.1 4 λa4=>(ldL (.bool) (a4.add 0) (λx5_0=>(ldL (.sl) (a4.add 1) (λx5_1=>(ldL (.bool) (a4.add 2) (λx5_2=>(ldL (.sl) (a4.add 3) (λx5_3=>(zg b s2.1 4 λa6=>(ldL (.bool) (a6.add 0) (λx7_0=>(ldL (.sl) (a6.add 1) (λx7_1=>(ldL (.bool) (a6.add 2) (λx7_2=>(ldL (.sl) (a6.add 3) (λx7_3=>(zc (z6y (⟨(⟨x5_0,x5_1⟩:TInt),(⟨x5_2,x5_3⟩:TInt)⟩:TRat) (⟨(⟨x7_0,x7_1⟩:TInt),(⟨x7_2,x7_3⟩:TInt)⟩:TRat)) (λr8 h3=>(zg m1 s2.1 4 λa9=>(stP a9 [.bool r8.num.neg,.slice r8.num.mag.a r8.num.mag.len r8.num.mag.cap,.bool r8.den.neg,.slice r8.den.mag.a r8.den.mag.len r8.den.mag.cap] (λh4=>(k3 ((i64.wrap (s2.1+1)),()) h4)) h3))) h2)) h2)) h2)) h2)) h2))) h2)) h2)) h2)) h2)) (K m1 h2))) (0,()) h1)) h)
def Vr:Nat->Sl->Sl->Sl->(Sl->Hp->Prop)->Hp->Prop
 | 0,_,_,_,_,_=>False
 | fuel+1,t,a,b,K,h=>(zv (S:=Unit) (λs1 h1=>(zc (z93 t) (λr3 h2=>(zc (z44 a) (λr4 h3=>(zc (z44 b) (λr5 h4=>(zc ((Vr fuel) r3.1 r4.1 r5.1) (λr6 h5=>(zc ((Vr fuel) r3.1 r4.2 r5.2) (λr7 h6=>(zc ((Vr fuel) r3.1 r7 r3.2) (λr8 h7=>(zc (z3f r6 r8) (λr9 h8=>(zc ((Vr fuel) r3.1 r4.1 r5.2) (λr10 h9=>(zc ((Vr fuel) r3.1 r4.2 r5.1) (λr11 h10=>(zc (z3f r10 r11) (λr12 h11=>(rdO r12.a (r12.len*4) (λvs13=>(ql 4 64 [.bool false,.slice zf.a zf.len zf.cap,.bool false,.slice zf.a zf.len zf.cap] r9 r12.len vs13 (λw14 h12=>(K w14 h12)) h11)) h11)) h10)) h9)) h8)) h7)) h6)) h5)) h4)) h3)) h2)) h1)) (λk2=>(ifP ((t.len:Int)==0) (zg a 0 4 λa15=>(ldL (.bool) (a15.add 0) (λx16_0=>(ldL (.sl) (a15.add 1) (λx16_1=>(ldL (.bool) (a15.add 2) (λx16_2=>(ldL (.sl) (a15.add 3) (λx16_3=>(zg b 0 4 λa17=>(ldL (.bool) (a17.add 0) (λx18_0=>(ldL (.sl) (a17.add 1) (λx18_1=>(ldL (.bool) (a17.add 2) (λx18_2=>(ldL (.sl) (a17.add 3) (λx18_3=>(zc (z3u (⟨(⟨x16_0,x16_1⟩:TInt),(⟨x16_2,x16_3⟩:TInt)⟩:TRat) (⟨(⟨x18_0,x18_1⟩:TInt),(⟨x18_2,x18_3⟩:TInt)⟩:TRat)) (λr19 h13=>(Y2 [.bool r19.num.neg,.slice r19.num.mag.a r19.num.mag.len r19.num.mag.cap,.bool r19.den.neg,.slice r19.den.mag.a r19.den.mag.len r19.den.mag.cap] (λp20 h14=>(K (⟨some p20,1,1⟩:Sl) h14)) h13)) h)) h)) h)) h)) h))) h)) h)) h)) h)) (zc (zb4 a) (λr21 h15=>(ifP r21 (zc (z3h (a.len:Int)) (λr22 h16=>(K r22 h16)) h15) (zc (zb4 b) (λr23 h17=>(ifP r23 (zc (z3h (a.len:Int)) (λr24 h18=>(K r24 h18)) h17) (k2 () h17))) h15))) h))))
def z3g(t:Sl)(a:Sl)(b:Sl)(K:Sl->Hp->Prop)(h:Hp):Prop:=∃fuel,Vr fuel t a b K h
def z3e(t:Sl)(a:Sl)(b:Sl)(K:Sl->Hp->Prop)(h:Hp):Prop:=(zc (z1v t a b) (λr1 h1=>(ifP (!r1) (K zf h1) (zc (z3g t a b) (λr2 h2=>(K r2 h2)) h1))) h)
def zo6(t:Sl)(a:Sl)(b:Sl)(K:Sl->Hp->Prop)(h:Hp):Prop:=(zc (z1v t a b) (λr1 h1=>(ifP (!r1) (K zf h1) (zc (z3f a b) (λr2 h2=>(K r2 h2)) h1))) h)
def y_number_embedding_image_:Nat->Tnumber_embedding->Sl->(Sl->Hp->Prop)->Hp->Prop
 | 0,_,_,_,_=>False
 | fuel+1,m,a,K,h=>(ifP ((a.len:Int)==1) (zg a 0 4 λa1=>(ldL (.bool) (a1.add 0) (λx2_0=>(ldL (.sl) (a1.add 1) (λx2_1=>(ldL (.bool) (a1.add 2) (λx2_2=>(ldL (.sl) (a1.add 3) (λx2_3=>(zc (z5l m.into (⟨(⟨x2_0,x2_1⟩:TInt),(⟨x2_2,x2_3⟩:TInt)⟩:TRat)) (λr3 h1=>(K r3 h1)) h)) h)) h)) h)) h)) ((2:Int)≠0 /\ (zn (S:=Int×Unit) (λs4 k5 h2=>(0<=((i64.wrap (s4.1+1)):Int) /\ (ifP (decide ((i64.wrap (1*2 ^ (min ((i64.wrap (s4.1+1)):Int).toNat i64.bits)))<(a.len:Int))) (k5 ((i64.wrap (s4.1+1)),()) h2) (slP a 0 (i64.wrap (((a.len:Int):Int).tdiv 2)) 4 λc6=>(zc ((y_number_embedding_image_ fuel) m c6) (λr7 h3=>(slP a (i64.wrap (((a.len:Int):Int).tdiv 2)) (a.len:Int) 4 λc8=>(zc (zb4 c8) (λr9 h4=>(ifP r9 (K r7 h4) (slP a (i64.wrap (((a.len:Int):Int).tdiv 2)) (a.len:Int) 4 λc10=>(zg m.roots s4.1 1 λa11=>(ldL (.sl) a11 (λx12=>(zc ((y_number_embedding_image_ fuel) m c10) (λr13 h5=>(zc (z7u m.into x12) (λr14 h6=>(zc (z3e m.into r13 r14) (λr15 h7=>(zc (zo6 m.into r7 r15) (λr16 h8=>(K r16 h8)) h7)) h6)) h5)) h4)) h4))))) h3))) h2))))) (0,()) h)))
def y_number_embedding_image(m:Tnumber_embedding)(a:Sl)(K:Sl->Hp->Prop)(h:Hp):Prop:=∃fuel,y_number_embedding_image_ fuel m a K h
def z9a(t:Sl)(u:Sl)(K:(Tnumber_embedding×Int)->Hp->Prop)(h:Hp):Prop:=(zn (S:=(Sl×Sl×Unit)×(Sl×Sl×Unit)×Int×Unit) (λs1 k2 h1=>(ifP (decide (s1.2.2.1<(u.len:Int))) (zg u s1.2.2.1 1 λa3=>(ldL (.sl) a3 (λx4=>(zc (y_number_embedding_image (⟨s1.2.1.1,s1.2.1.2.1⟩:Tnumber_embedding) x4) (λr5 h2=>False) h1)) h1)) (K ((⟨s1.2.1.1,s1.2.1.2.1⟩:Tnumber_embedding),0) h1))) ((zf,zf,()),(t,zf,()),0,()) h)
def z5d(l:Sl)(K:(Sl×Int)->Hp->Prop)(h:Hp):Prop:=(zn (S:=Sl×Int×Unit) (λs1 k2 h1=>(ifP (decide (s1.2.1<(l.len:Int))) (zv (S:=Sl×Unit) (λs3 h2=>(k2 (s3.1,(i64.wrap (s1.2.1+1)),()) h2)) (λk4=>(zg l s1.2.1 2 λa5=>(ldL (.sl) (a5.add 0) (λx6_0=>(ldL (.sl) (a5.add 1) (λx6_1=>(zc (z0m s1.1 x6_0) (λr7 h3=>(ifP r7 (k4 (s1.1,()) h3) (zc (z0m x6_0 s1.1) (λr8 h4=>(ifP r8 (k4 (x6_0,()) h4) (zc (z9a s1.1 x6_0) (λr9 h5=>(ifP (r9.2 != 0) (K (zf,r9.2) h5) (k4 (r9.1.into,()) h5))) h4))) h3))) h1)) h1)) h1)))) (K (s1.1,0) h1))) (zf,0,()) h)
def z0g(l:Sl)(K:Sl->Hp->Prop)(h:Hp):Prop:=(mkP (l.len:Int) (l.len:Int) 64 [.bool false,.slice zf.a zf.len zf.cap,.bool false,.slice zf.a zf.len zf.cap] (λm1 h1=>(zn (S:=Int×Unit) (λs2 k3 h2=>(ifP (decide (s2.1<(l.len:Int))) (zg l s2.1 4 λa4=>(ldL (.bool) (a4.add 0) (λx5_0=>(ldL (.sl) (a4.add 1) (λx5_1=>(ldL (.bool) (a4.add 2) (λx5_2=>(ldL (.sl) (a4.add 3) (λx5_3=>(zc (z11 (⟨(⟨x5_0,x5_1⟩:TInt),(⟨x5_2,x5_3⟩:TInt)⟩:TRat)) (λr6 h3=>(zg m1 s2.1 4 λa7=>(stP a7 [.bool r6.num.neg,.slice r6.num.mag.a r6.num.mag.len r6.num.mag.cap,.bool r6.den.neg,.slice r6.den.mag.a r6.den.mag.len r6.den.mag.cap] (λh4=>(k3 ((i64.wrap (s2.1+1)),()) h4)) h3))) h2)) h2)) h2)) h2)) h2)) (K m1 h2))) (0,()) h1)) h)
def z2k(a:TNumber)(K:TNumber->Hp->Prop)(h:Hp):Prop:=(zc (z0g a.coefs) (λr1 h1=>(zn (S:=(Sl×Sl×Unit)×Int×Unit) (λs2 k3 h2=>(ifP (decide (s2.2.1<(a.radicands.len:Int))) (zg a.radicands s2.2.1 1 λa4=>(ldL (.sl) a4 (λx5=>(zc (z0g x5) (λr6 h3=>(ql 1 24 [.slice zf.a zf.len zf.cap] s2.1.1 1 [.slice r6.a r6.len r6.cap] (λw7 h4=>(k3 ((w7,s2.1.2.1,()),(i64.wrap (s2.2.1+1)),()) h4)) h3)) h2)) h2)) (K (⟨s2.1.1,s2.1.2.1⟩:TNumber) h2))) ((zf,r1,()),0,()) h1)) h)
def z37(l:Sl)(K:(Sl×Int)->Hp->Prop)(h:Hp):Prop:=(zc (z5d l) (λr1 h1=>(ifP (r1.2 != 0) (K (zf,r1.2) h1) (zn (S:=Sl×Int×Unit) (λs2 k3 h2=>(ifP (decide (s2.2.1<(l.len:Int))) (zg l s2.2.1 2 λa4=>(ldL (.sl) (a4.add 0) (λx5_0=>(ldL (.sl) (a4.add 1) (λx5_1=>(zv (S:=(Sl×Sl×Unit)×Unit) (λs6 h3=>(zc (z2k (⟨s6.1.1,s6.1.2.1⟩:TNumber)) (λr8 h4=>(ql 2 48 [.slice zf.a zf.len zf.cap,.slice zf.a zf.len zf.cap] s2.1 1 [.slice r8.radicands.a r8.radicands.len r8.radicands.cap,.slice r8.coefs.a r8.coefs.len r8.coefs.cap] (λw9 h5=>(k3 (w9,(i64.wrap (s2.2.1+1)),()) h5)) h4)) h3)) (λk7=>(zc (z0m r1.1 x5_0) (λr10 h6=>(ifP r10 (zc (z7u r1.1 x5_1) (λr11 h7=>(k7 ((r1.1,r11,()),()) h7)) h6) (zc (z9a r1.1 x5_0) (λr12 h8=>(ifP (r12.2 != 0) (K (zf,r12.2) h8) (zc (y_number_embedding_image (⟨r12.1.into,r12.1.roots⟩:Tnumber_embedding) x5_1) (λr13 h9=>(k7 ((r1.1,r13,()),()) h9)) h8))) h6))) h2)))) h2)) h2)) (K (s2.1,0) h2))) (zf,0,()) h1))) h)
def z2j(m:Sl)(K:(Sl×Int)->Hp->Prop)(h:Hp):Prop:=(zc (Y0 m) (λr1 h1=>(zc (z37 r1) (λr2 h2=>(ifP (r2.2 != 0) (K (zf,r2.2) h2) (mkP (m.len:Int) (m.len:Int) 24 [.slice zf.a zf.len zf.cap] (λm3 h3=>(zn (S:=Sl×Int×Unit) (λs4 k5 h4=>(ifP (decide (s4.2.1<(m.len:Int))) (zg m s4.2.1 1 λa6=>(ldL (.sl) a6 (λx7=>(Zep s4.1 0 (x7.len:Int) (x7.len:Int) 2 λc8=>(slP s4.1 (x7.len:Int) (s4.1.len:Int) 2 λc9=>(zg m3 s4.2.1 1 λa10=>(stP a10 [.slice c8.a c8.len c8.cap] (λh5=>(k5 (c9,(i64.wrap (s4.2.1+1)),()) h5)) h4))))) h4)) (K (m3,0) h4))) (r2.1,0,()) h3)) h2))) h1)) h)
def z4y(a:Sl)(K:Sl->Hp->Prop)(h:Hp):Prop:=(mkP (a.len:Int) (a.len:Int) 64 [.bool false,.slice zf.a zf.len zf.cap,.bool false,.slice zf.a zf.len zf.cap] (λm1 h1=>(zn (S:=Int×Unit) (λs2 k3 h2=>(ifP (decide (s2.1<(a.len:Int))) (zg a s2.1 4 λa4=>(ldL (.bool) (a4.add 0) (λx5_0=>(ldL (.sl) (a4.add 1) (λx5_1=>(ldL (.bool) (a4.add 2) (λx5_2=>(ldL (.sl) (a4.add 3) (λx5_3=>(zc (z71 (⟨(⟨x5_0,x5_1⟩:TInt),(⟨x5_2,x5_3⟩:TInt)⟩:TRat)) (λr6 h3=>(zg m1 s2.1 4 λa7=>(stP a7 [.bool r6.num.neg,.slice r6.num.mag.a r6.num.mag.len r6.num.mag.cap,.bool r6.den.neg,.slice r6.den.mag.a r6.den.mag.len r6.den.mag.cap] (λh4=>(k3 ((i64.wrap (s2.1+1)),()) h4)) h3))) h2)) h2)) h2)) h2)) h2)) (K m1 h2))) (0,()) h1)) h)
def z9z(t:Sl)(a:Sl)(b:Sl)(K:Sl->Hp->Prop)(h:Hp):Prop:=(zc (z1v t a b) (λr1 h1=>(ifP (!r1) (K zf h1) (zc (z4y b) (λr2 h2=>(zc (z3f a r2) (λr3 h3=>(K r3 h3)) h2)) h1))) h)
def V6:Nat->Sl->Sl->(Int->Hp->Prop)->Hp->Prop
 | 0,_,_,_,_=>False
 | fuel+1,t,a,K,h=>(ifP ((t.len:Int)==0) (zg a 0 4 λa1=>(ldL (.bool) (a1.add 0) (λx2_0=>(ldL (.sl) (a1.add 1) (λx2_1=>(ldL (.bool) (a1.add 2) (λx2_2=>(ldL (.sl) (a1.add 3) (λx2_3=>(zc (Q0 (⟨(⟨x2_0,x2_1⟩:TInt),(⟨x2_2,x2_3⟩:TInt)⟩:TRat)) (λr3 h1=>(K r3 h1)) h)) h)) h)) h)) h)) ((2:Int)≠0 /\ (slP t 0 (i64.wrap ((t.len:Int)-1)) 1 λc4=>(slP a 0 (i64.wrap (((a.len:Int):Int).tdiv 2)) 4 λc5=>(slP a (i64.wrap (((a.len:Int):Int).tdiv 2)) (a.len:Int) 4 λc6=>(zc ((V6 fuel) c4 c5) (λr7 h2=>(zc ((V6 fuel) c4 c6) (λr8 h3=>(zv (S:=Unit) (λs9 h4=>(zg t (i64.wrap ((t.len:Int)-1)) 1 λa11=>(ldL (.sl) a11 (λx12=>(zc (z3e c4 c5 c5) (λr13 h5=>(zc (z3e c4 c6 c6) (λr14 h6=>(zc (z3e c4 x12 r14) (λr15 h7=>(zc (z9z c4 r13 r15) (λr16 h8=>(zc ((V6 fuel) c4 r16) (λr17 h9=>(K (i64.wrap (r7*r17)) h9)) h8)) h7)) h6)) h5)) h4)) h4))) (λk10=>(ifP (r8==0) (K r7 h3) (ifP (r7==r8) (K r7 h3) (ifP (r7==0) (K r8 h3) (k10 () h3))))))) h2)) h))))))
def zb0(t:Sl)(a:Sl)(K:Int->Hp->Prop)(h:Hp):Prop:=∃fuel,V6 fuel t a K h
def zdw(t:Sl)(K:Bool->Hp->Prop)(h:Hp):Prop:=(zc (qm 0) (λr1 h1=>(zc (z5l t r1) (λr2 h2=>(zc (Vf t r2) (λr3 h3=>(ifP (!r3) (K false h3) (zn (S:=Int×Unit) (λs4 k5 h4=>(ifP (decide (s4.1<(t.len:Int))) (zg t s4.1 1 λa6=>(ldL (.sl) a6 (λx7=>(slP t 0 s4.1 1 λc8=>(zc (zb0 c8 x7) (λr9 h5=>(ifP (decide (r9<=0)) (K false h5) (k5 ((i64.wrap (s4.1+1)),()) h5))) h4))) h4)) (K true h4))) (0,()) h3))) h2)) h1)) h)
def zhi(t:Sl)(l:Sl)(K:Bool->Hp->Prop)(h:Hp):Prop:=(zn (S:=Int×Unit) (λs1 k2 h1=>(ifP (decide (s1.1<(l.len:Int))) (zg l s1.1 1 λa3=>(ldL (.sl) a3 (λx4=>(zc (Vf t x4) (λr5 h2=>(ifP (!r5) (K false h2) (k2 ((i64.wrap (s1.1+1)),()) h2))) h1)) h1)) (zc (zdw t) (λr6 h3=>(K r6 h3)) h1))) (0,()) h)
def zhh(t:Sl)(a:Sl)(K:Int->Hp->Prop)(h:Hp):Prop:=(Y2 [.slice a.a a.len a.cap] (λp1 h1=>(zc (zhi t (⟨some p1,1,1⟩:Sl)) (λr2 h2=>(ifP (!r2) (K 0 h2) (zc (zb0 t a) (λr3 h3=>(K r3 h3)) h2))) h1)) h)
def z38(a:TNumber)(K:Int->Hp->Prop)(h:Hp):Prop:=(zc (zhh a.radicands a.coefs) (λr1 h1=>(K r1 h1)) h)
def z05(row:Sl)(v0:(Option Addr))(K:Bool->Hp->Prop)(h:Hp):Prop:=(Ye v0 λp1=>(ldL (.int .i64) p1 (λx2=>(zg row x2 2 λa3=>(ldL (.sl) (a3.add 0) (λx4_0=>(ldL (.sl) (a3.add 1) (λx4_1=>(zc (z38 (⟨x4_0,x4_1⟩:TNumber)) (λr5 h1=>(K (r5 != 0) h1)) h)) h)) h))) h))
def Zn(s:Sl)(f1:(Option Addr×Unit))(K:Int->Hp->Prop)(h:Hp):Prop:=(zn (S:=Int×Unit) (λs1 k2 h1=>(ifP (decide (s1.1<(s.len:Int))) (zg s s1.1 1 λa3=>(ldL (.sl) a3 (λx4=>(zc (z05 x4 f1.1) (λr5 h2=>(ifP r5 (K s1.1 h2) (k2 ((i64.wrap (s1.1+1)),()) h2))) h1)) h1)) (K (-1) h1))) (0,()) h)
def Vl(a:TNumber)(b:TNumber)(K:(TNumber×Int)->Hp->Prop)(h:Hp):Prop:=(Y2 [.slice a.radicands.a a.radicands.len a.radicands.cap,.slice a.coefs.a a.coefs.len a.coefs.cap,.slice b.radicands.a b.radicands.len b.radicands.cap,.slice b.coefs.a b.coefs.len b.coefs.cap] (λp1 h1=>(zc (z37 (⟨some p1,2,2⟩:Sl)) (λr2 h2=>(ifP (r2.2 != 0) (K ((⟨zf,zf⟩:TNumber),r2.2) h2) (zg r2.1 0 2 λa3=>(ldL (.sl) (a3.add 0) (λx4=>(zg r2.1 0 2 λa5=>(ldL (.sl) (a5.add 1) (λx6=>(zg r2.1 1 2 λa7=>(ldL (.sl) (a7.add 1) (λx8=>(zc (z3e x4 x6 x8) (λr9 h3=>(K ((⟨x4,r9⟩:TNumber),0) h3)) h2)) h2))) h2))) h2)))) h1)) h)
def z7t(a:TNumber)(b:TNumber)(K:(TNumber×Int)->Hp->Prop)(h:Hp):Prop:=(zc (Vl a b) (λr1 h1=>(K ((⟨r1.1.radicands,r1.1.coefs⟩:TNumber),r1.2) h1)) h)
def y_matrix_calc_take(c:(Option Addr))(n:TNumber)(err:Int)(K:TNumber->Hp->Prop)(h:Hp):Prop:=(zv (S:=Unit) (λs1 h1=>(ifP (err != 0) (zc (Wo 0) (λr3 h2=>(K r3 h2)) h1) (K n h1))) (λk2=>(ifP (err != 0) (Ye c λp4=>(ldL (.int .i64) (p4.add 0) (λx5=>(ifP (x5==0) (Ye c λp6=>(stP (p6.add 0) [.int .i64 err] (λh3=>(k2 () h3)) h)) (k2 () h))) h)) (k2 () h))))
def y_matrix_calc_mul(c:(Option Addr))(a:TNumber)(b:TNumber)(K:TNumber->Hp->Prop)(h:Hp):Prop:=(zc (z7t a b) (λr1 h1=>(zc (y_matrix_calc_take c (⟨r1.1.radicands,r1.1.coefs⟩:TNumber) r1.2) (λr2 h2=>(K r2 h2)) h1)) h)
def zm1(t:Sl)(a:Sl)(K:Sl->Hp->Prop)(h:Hp):Prop:=(zc (z93 t) (λr1 h1=>(zc (z44 a) (λr2 h2=>(zc (z3g r1.1 r2.1 r2.1) (λr3 h3=>(zc (z3g r1.1 r2.2 r2.2) (λr4 h4=>(zc (z3g r1.1 r4 r1.2) (λr5 h5=>(zc (z4y r5) (λr6 h6=>(zc (z3f r3 r6) (λr7 h7=>(K r7 h7)) h6)) h5)) h4)) h3)) h2)) h1)) h)
def V4:Nat->Sl->Sl->((Sl×Bool)->Hp->Prop)->Hp->Prop
 | 0,_,_,_,_=>False
 | fuel+1,t,a,K,h=>(ifP ((t.len:Int)==0) (zg a 0 4 λa1=>(ldL (.bool) (a1.add 0) (λx2_0=>(ldL (.sl) (a1.add 1) (λx2_1=>(ldL (.bool) (a1.add 2) (λx2_2=>(ldL (.sl) (a1.add 3) (λx2_3=>(zc (qm 1) (λr3 h1=>(zc (z6z r3 (⟨(⟨x2_0,x2_1⟩:TInt),(⟨x2_2,x2_3⟩:TInt)⟩:TRat)) (λr4 h2=>(Y2 [.bool r4.1.num.neg,.slice r4.1.num.mag.a r4.1.num.mag.len r4.1.num.mag.cap,.bool r4.1.den.neg,.slice r4.1.den.mag.a r4.1.den.mag.len r4.1.den.mag.cap] (λp5 h3=>(K ((⟨some p5,1,1⟩:Sl),(r4.2==0)) h3)) h2)) h1)) h)) h)) h)) h)) h)) (zc (z93 t) (λr6 h4=>(zc (zm1 t a) (λr7 h5=>(zc ((V4 fuel) r6.1 r7) (λr8 h6=>(ifP (!r8.2) (K (zf,false) h6) (zc (z44 a) (λr9 h7=>(zc (z3g r6.1 r9.1 r8.1) (λr10 h8=>(zc (z3g r6.1 r9.2 r8.1) (λr11 h9=>(zc (z4y r11) (λr12 h10=>(rdO r12.a (r12.len*4) (λvs13=>(ql 4 64 [.bool false,.slice zf.a zf.len zf.cap,.bool false,.slice zf.a zf.len zf.cap] r10 r12.len vs13 (λw14 h11=>(K (w14,true) h11)) h10)) h10)) h9)) h8)) h7)) h6))) h5)) h4)) h))
def z9d(t:Sl)(a:Sl)(K:(Sl×Bool)->Hp->Prop)(h:Hp):Prop:=∃fuel,V4 fuel t a K h
def zhm(t:Sl)(a:Sl)(K:(Sl×Int)->Hp->Prop)(h:Hp):Prop:=(zc (Vf t a) (λr1 h1=>(ifP (!r1) (K (zf,1) h1) (zc (z9d t a) (λr2 h2=>(ifP (!r2.2) (K (zf,6) h2) (K (r2.1,0) h2))) h1))) h)
def zeu(a:TNumber)(b:TNumber)(K:(TNumber×Int)->Hp->Prop)(h:Hp):Prop:=(zc (zhm b.radicands b.coefs) (λr1 h1=>(ifP (r1.2 != 0) (K ((⟨zf,zf⟩:TNumber),r1.2) h1) (zc (z7t a (⟨b.radicands,r1.1⟩:TNumber)) (λr2 h2=>(K ((⟨r2.1.radicands,r2.1.coefs⟩:TNumber),r2.2) h2)) h1))) h)
def y_matrix_calc_div(c:(Option Addr))(a:TNumber)(b:TNumber)(K:TNumber->Hp->Prop)(h:Hp):Prop:=(zc (zeu a b) (λr1 h1=>(zc (y_matrix_calc_take c (⟨r1.1.radicands,r1.1.coefs⟩:TNumber) r1.2) (λr2 h2=>(K r2 h2)) h1)) h)
def Vm(a:TNumber)(b:TNumber)(K:(TNumber×Int)->Hp->Prop)(h:Hp):Prop:=(Y2 [.slice a.radicands.a a.radicands.len a.radicands.cap,.slice a.coefs.a a.coefs.len a.coefs.cap,.slice b.radicands.a b.radicands.len b.radicands.cap,.slice b.coefs.a b.coefs.len b.coefs.cap] (λp1 h1=>(zc (z37 (⟨some p1,2,2⟩:Sl)) (λr2 h2=>(ifP (r2.2 != 0) (K ((⟨zf,zf⟩:TNumber),r2.2) h2) (zg r2.1 0 2 λa3=>(ldL (.sl) (a3.add 0) (λx4=>(zg r2.1 0 2 λa5=>(ldL (.sl) (a5.add 1) (λx6=>(zg r2.1 1 2 λa7=>(ldL (.sl) (a7.add 1) (λx8=>(zc (z9z x4 x6 x8) (λr9 h3=>(K ((⟨x4,r9⟩:TNumber),0) h3)) h2)) h2))) h2))) h2)))) h1)) h)
def zai(a:TNumber)(b:TNumber)(K:(TNumber×Int)->Hp->Prop)(h:Hp):Prop:=(zc (Vm a b) (λr1 h1=>(K ((⟨r1.1.radicands,r1.1.coefs⟩:TNumber),r1.2) h1)) h)
def y_matrix_calc_sub(c:(Option Addr))(a:TNumber)(b:TNumber)(K:TNumber->Hp->Prop)(h:Hp):Prop:=(zc (zai a b) (λr1 h1=>(zc (y_matrix_calc_take c (⟨r1.1.radicands,r1.1.coefs⟩:TNumber) r1.2) (λr2 h2=>(K r2 h2)) h1)) h)
def y_matrix_calc_subtract(c:(Option Addr))(to:Sl)(row:Sl)(n:TNumber)(from_:Int)(K:Unit->Hp->Prop)(h:Hp):Prop:=(zn (S:=Int×Unit) (λs1 k2 h1=>(ifP (decide (s1.1<(row.len:Int))) (zv (S:=Unit) (λs3 h2=>(k2 ((i64.wrap (s1.1+1)),()) h2)) (λk4=>(zg row s1.1 2 λa5=>(ldL (.sl) (a5.add 0) (λx6_0=>(ldL (.sl) (a5.add 1) (λx6_1=>(zc (z38 (⟨x6_0,x6_1⟩:TNumber)) (λr7 h3=>(ifP (r7 != 0) (zg to s1.1 2 λa8=>(ldL (.sl) (a8.add 0) (λx9_0=>(ldL (.sl) (a8.add 1) (λx9_1=>(zg row s1.1 2 λa10=>(ldL (.sl) (a10.add 0) (λx11_0=>(ldL (.sl) (a10.add 1) (λx11_1=>(zc (y_matrix_calc_mul c n (⟨x11_0,x11_1⟩:TNumber)) (λr12 h4=>(zc (y_matrix_calc_sub c (⟨x9_0,x9_1⟩:TNumber) r12) (λr13 h5=>(zg to s1.1 2 λa14=>(stP a14 [.slice r13.radicands.a r13.radicands.len r13.radicands.cap,.slice r13.coefs.a r13.coefs.len r13.coefs.cap] (λh6=>(k4 () h6)) h5))) h4)) h3)) h3)) h3))) h3)) h3)) (k4 () h3))) h1)) h1)) h1)))) (K () h1))) (from_,()) h)
def zhn(t:Sl)(a:Sl)(K:Sl->Hp->Prop)(h:Hp):Prop:=(zc (Vf t a) (λr1 h1=>(ifP (!r1) (K zf h1) (zc (z4y a) (λr2 h2=>(K r2 h2)) h1))) h)
def zah(a:TNumber)(K:TNumber->Hp->Prop)(h:Hp):Prop:=(zc (z2k a) (λr1 h1=>(zc (zhn r1.radicands r1.coefs) (λr2 h2=>(K (⟨r1.radicands,r2⟩:TNumber) h2)) h1)) h)
def z1m(m:Sl)(K:(Tmatrix_reduced×Int)->Hp->Prop)(h:Hp):Prop:=(zc (z2j m) (λr1 h1=>(ifP (r1.2 != 0) (K ((⟨zf,zf,(⟨zf,zf⟩:TNumber)⟩:Tmatrix_reduced),r1.2) h1) (Y2 [.int .i64 0] (λp2 h2=>(zc (Wo 1) (λr3 h3=>(zc (Wm m) (λr4 h4=>(zn (S:=(Sl×Sl×Sl×Sl×Unit)×Int×Unit) (λs5 k6 h5=>(ifP (decide (s5.2.1<r4)) (zv (S:=(Sl×Sl×Sl×Sl×Unit)×Unit) (λs7 h6=>(k6 ((s7.1.1,s7.1.2.1,s7.1.2.2.1,s7.1.2.2.2.1,()),(i64.wrap (s5.2.1+1)),()) h6)) (λk8=>(Y2 [.int .i64 0] (λp9 h7=>(stP p9 [.int .i64 s5.2.1] (λh8=>(slP r1.1 (s5.1.2.1.len:Int) (r1.1.len:Int) 1 λc10=>(zc (Zn c10 ((some p9),())) (λr11 h9=>(ifP (decide (r11<0)) (k8 ((s5.1.1,s5.1.2.1,s5.1.2.2.1,s5.1.2.2.2.1,()),()) h9) (zv (S:=(Sl×Sl×Sl×Sl×Unit)×Unit) (λs12 h10=>(zg r1.1 (s5.1.2.1.len:Int) 1 λa14=>(ldL (.sl) a14 (λx15=>(ldL (.int .i64) p9 (λx16=>(zg x15 x16 2 λa17=>(ldL (.sl) (a17.add 0) (λx18_0=>(ldL (.sl) (a17.add 1) (λx18_1=>(zc (y_matrix_calc_mul (some p2) (⟨s12.1.2.2.1,s12.1.2.2.2.1⟩:TNumber) (⟨x18_0,x18_1⟩:TNumber)) (λr19 h11=>(ldL (.int .i64) p9 (λx20=>(zn (S:=Int×Unit) (λs21 k22 h12=>(zg r1.1 (s5.1.2.1.len:Int) 1 λa23=>(ldL (.sl) a23 (λx24=>(ifP (decide (s21.1<(x24.len:Int))) (zg r1.1 (s5.1.2.1.len:Int) 1 λa25=>(ldL (.sl) a25 (λx26=>(zg r1.1 (s5.1.2.1.len:Int) 1 λa27=>(ldL (.sl) a27 (λx28=>(zg x28 s21.1 2 λa29=>(ldL (.sl) (a29.add 0) (λx30_0=>(ldL (.sl) (a29.add 1) (λx30_1=>(zc (y_matrix_calc_div (some p2) (⟨x30_0,x30_1⟩:TNumber) (⟨x18_0,x18_1⟩:TNumber)) (λr31 h13=>(zg x26 s21.1 2 λa32=>(stP a32 [.slice r31.radicands.a r31.radicands.len r31.radicands.cap,.slice r31.coefs.a r31.coefs.len r31.coefs.cap] (λh14=>(k22 ((i64.wrap (s21.1+1)),()) h14)) h13))) h12)) h12)) h12))) h12))) h12)) (zn (S:=Int×Unit) (λs33 k34 h15=>(ifP (decide (s33.1<(r1.1.len:Int))) (zv (S:=Unit) (λs35 h16=>(k34 ((i64.wrap (s33.1+1)),()) h16)) (λk36=>(zg r1.1 s33.1 1 λa37=>(ldL (.sl) a37 (λx38=>(ldL (.int .i64) p9 (λx39=>(zg x38 x39 2 λa40=>(ldL (.sl) (a40.add 0) (λx41_0=>(ldL (.sl) (a40.add 1) (λx41_1=>(ifP (s33.1 != (s5.1.2.1.len:Int)) (zc (z38 (⟨x41_0,x41_1⟩:TNumber)) (λr42 h17=>(ifP (r42 != 0) (zg r1.1 (s5.1.2.1.len:Int) 1 λa43=>(ldL (.sl) a43 (λx44=>(ldL (.int .i64) p9 (λx45=>(Qu (y_matrix_calc_subtract (some p2) x38 x44 (⟨x41_0,x41_1⟩:TNumber) x45) (λr46 h18=>(k36 () h18)) h17)) h17)) h17)) (k36 () h17))) h15) (k36 () h15))) h15)) h15))) h15)) h15)))) (ldL (.int .i64) p9 (λx47=>(ql 1 8 [.int .i64 0] s12.1.2.1 1 [.int .i64 x47] (λw48 h19=>(k8 ((s12.1.1,w48,r19.radicands,r19.coefs,()),()) h19)) h15)) h15))) (0,()) h12))) h12))) (x20,()) h11)) h11)) h10)) h10)) h10))) h10)) h10))) (λk13=>(ifP (decide (r11>0)) (zg r1.1 (i64.wrap ((s5.1.2.1.len:Int)+r11)) 1 λa49=>(ldL (.sl) a49 (λx50=>(zg r1.1 (s5.1.2.1.len:Int) 1 λa51=>(ldL (.sl) a51 (λx52=>(zg r1.1 (s5.1.2.1.len:Int) 1 λa53=>(stP a53 [.slice x50.a x50.len x50.cap] (λh20=>(zg r1.1 (i64.wrap ((s5.1.2.1.len:Int)+r11)) 1 λa54=>(stP a54 [.slice x52.a x52.len x52.cap] (λh21=>(zc (zah (⟨s5.1.2.2.1,s5.1.2.2.2.1⟩:TNumber)) (λr55 h22=>(k13 ((s5.1.1,s5.1.2.1,r55.radicands,r55.coefs,()),()) h22)) h21)) h20))) h9))) h9))) h9)) (k13 ((s5.1.1,s5.1.2.1,s5.1.2.2.1,s5.1.2.2.2.1,()),()) h9)))))) h8))) h7)) h5))) (ldL (.int .i64) (p2.add 0) (λx56=>(ifP (x56 != 0) (ldL (.int .i64) (p2.add 0) (λx57=>(K ((⟨zf,zf,(⟨zf,zf⟩:TNumber)⟩:Tmatrix_reduced),x57) h5)) h5) (K ((⟨s5.1.1,s5.1.2.1,(⟨s5.1.2.2.1,s5.1.2.2.2.1⟩:TNumber)⟩:Tmatrix_reduced),0) h5))) h5))) ((r1.1,zf,r3.radicands,r3.coefs,()),0,()) h4)) h3)) h2)) h1))) h)
def z8o(m:Sl)(K:(Sl×Int)->Hp->Prop)(h:Hp):Prop:=(zc (z3q m) (λr1 h1=>(ifP (!r1) (K (zf,1) h1) (zc (z1l m) (λr2 h2=>(zc (z1m r2) (λr3 h3=>(K (r3.1.pivots,r3.2) h3)) h2)) h1))) h)
def Wu:Nat->TTree->(Sl->Hp->Prop)->Hp->Prop
 | 0,_,_,_=>False
 | fuel+1,t,K,h=>(ifP ((t.parts.len:Int)==0) (Y2 [.int .i64 t.a,.int .i64 t.b] (λp1 h1=>(K (⟨some p1,1,1⟩:Sl) h1)) h) (zn (S:=Sl×Int×Unit) (λs2 k3 h2=>(ifP (decide (s2.2.1<(t.parts.len:Int))) (zg t.parts s2.2.1 4 λa4=>(ldL (.int .i64) (a4.add 0) (λx5_0=>(ldL (.int .i64) (a4.add 1) (λx5_1=>(ldL (.int .i64) (a4.add 2) (λx5_2=>(ldL (.sl) (a4.add 3) (λx5_3=>(zc ((Wu fuel) (⟨x5_0,x5_1,x5_2,x5_3⟩:TTree)) (λr6 h3=>(rdO r6.a (r6.len*2) (λvs7=>(ql 2 16 [.int .i64 0,.int .i64 0] s2.1 r6.len vs7 (λw8 h4=>(k3 (w8,(i64.wrap (s2.2.1+1)),()) h4)) h3)) h3)) h2)) h2)) h2)) h2)) h2)) (K s2.1 h2))) (zf,0,()) h))
def z2n(t:TTree)(K:Sl->Hp->Prop)(h:Hp):Prop:=∃fuel,Wu fuel t K h
def z6l(x:Sl)(K:Unit->Hp->Prop)(h:Hp):Prop:=zik Zds 1 Zer x K h
def X9(s:Sl)(K:Sl->Hp->Prop)(h:Hp):Prop:=(ifP (decide ((s.len:Int)<2)) (K s h) (zn (S:=Int×Unit) (λs1 k2 h1=>(ifP (decide (s1.1<(s.len:Int))) (zg s s1.1 1 λa3=>(ldL (.int .i64) a3 (λx4=>(zg s (i64.wrap (s1.1-1)) 1 λa5=>(ldL (.int .i64) a5 (λx6=>(ifP (x4==x6) (slP s s1.1 (s.len:Int) 1 λc7=>(zn (S:=Int×Int×Unit) (λs8 k9 h2=>(ifP (decide (s8.2.1<(c7.len:Int))) (zv (S:=Int×Unit) (λs10 h3=>(k9 (s10.1,(i64.wrap (s8.2.1+1)),()) h3)) (λk11=>(zg c7 s8.2.1 1 λa12=>(ldL (.int .i64) a12 (λx13=>(zg c7 (i64.wrap (s8.2.1-1)) 1 λa14=>(ldL (.int .i64) a14 (λx15=>(ifP (x13 != x15) (zg c7 s8.2.1 1 λa16=>(ldL (.int .i64) a16 (λx17=>(zg s s8.1 1 λa18=>(stP a18 [.int .i64 x17] (λh4=>(k11 ((i64.wrap (s8.1+1)),()) h4)) h2))) h2)) (k11 (s8.1,()) h2))) h2))) h2)))) (slP s s8.1 (s.len:Int) 1 λc19=>(zv0 c19 [.int .i64 0] (λh5=>(slP s 0 s8.1 1 λc20=>(K c20 h5))) h2)))) (s1.1,1,()) h1)) (k2 ((i64.wrap (s1.1+1)),()) h1))) h1))) h1)) (K s h1))) (1,()) h))
def Q9(t:TTree)(K:Sl->Hp->Prop)(h:Hp):Prop:=(zc (z2n t) (λr1 h1=>(zn (S:=Sl×Int×Unit) (λs2 k3 h2=>(ifP (decide (s2.2.1<(r1.len:Int))) (zg r1 s2.2.1 2 λa4=>(ldL (.int .i64) (a4.add 0) (λx5_0=>(ldL (.int .i64) (a4.add 1) (λx5_1=>(ql 1 8 [.int .i64 0] s2.1 2 [.int .i64 x5_0,.int .i64 x5_1] (λw6 h3=>(k3 (w6,(i64.wrap (s2.2.1+1)),()) h3)) h2)) h2)) h2)) (Qu (z6l s2.1) (λr7 h4=>(Qu (X9 s2.1) (λr8 h5=>(K r8 h5)) h4)) h2))) (zf,0,()) h1)) h)
def Vt(a:Sl)(b:Sl)(K:(Int×Bool)->Hp->Prop)(h:Hp):Prop:=(zn (S:=Sl×Int×Unit) (λs1 k2 h1=>(ifP (decide (s1.2.1<(a.len:Int))) (zv (S:=Sl×Unit) (λs3 h2=>(k2 (s3.1,(i64.wrap (s1.2.1+1)),()) h2)) (λk4=>(zg a s1.2.1 1 λa5=>(ldL (.int .i64) a5 (λx6=>(zc (Zh b x6) (λr7 h3=>(ifP r7 (ql 1 8 [.int .i64 0] s1.1 1 [.int .i64 x6] (λw8 h4=>(k4 (w8,()) h4)) h3) (k4 (s1.1,()) h3))) h1)) h1)))) (ifP ((s1.1.len:Int) != 1) (K (0,false) h1) (zg s1.1 0 1 λa9=>(ldL (.int .i64) a9 (λx10=>(K (x10,true) h1)) h1))))) (zf,0,()) h)
def z1c(l:Sl)(K:Bool->Hp->Prop)(h:Hp):Prop:=(zn (S:=Int×Unit) (λs1 k2 h1=>(ifP (decide (s1.1<(l.len:Int))) (zv (S:=Unit) (λs3 h2=>(k2 ((i64.wrap (s1.1+1)),()) h2)) (λk4=>(zg l s1.1 1 λa5=>(ldL (.int .i64) a5 (λx6=>(ifP (decide (x6<0)) (K false h1) (ifP (decide (s1.1>0)) (zg l (i64.wrap (s1.1-1)) 1 λa7=>(ldL (.int .i64) a7 (λx8=>(ifP (decide (x8>=x6)) (K false h1) (k4 () h1))) h1)) (k4 () h1)))) h1)))) (K true h1))) (0,()) h)
def z56(a:Sl)(b:Sl)(c:Sl)(K:(Int×Int×Int×Bool)->Hp->Prop)(h:Hp):Prop:=(zc (Vt a b) (λr1 h1=>(zc (Vt b c) (λr2 h2=>(zc (Vt a c) (λr3 h3=>(zv (S:=Unit) (λs4 h4=>(K (r1.1,r2.1,r3.1,true) h4)) (λk5=>(ifP (!r1.2) (K (0,0,0,false) h3) (ifP (!r2.2) (K (0,0,0,false) h3) (ifP (!r3.2) (K (0,0,0,false) h3) (ifP (r1.1==r2.1) (K (0,0,0,false) h3) (ifP (r2.1==r3.1) (K (0,0,0,false) h3) (ifP (r1.1==r3.1) (K (0,0,0,false) h3) (zc (z1c a) (λr6 h5=>(ifP (!r6) (K (0,0,0,false) h5) (zc (z1c b) (λr7 h6=>(ifP (!r7) (K (0,0,0,false) h6) (zc (z1c c) (λr8 h7=>(ifP (!r8) (K (0,0,0,false) h7) (k5 () h7))) h6))) h5))) h3)))))))))) h2)) h1)) h)
def z1a(a:TTree)(b:TTree)(c:TTree)(K:(TTree×Bool)->Hp->Prop)(h:Hp):Prop:=(zc (Q9 a) (λr1 h1=>(zc (Q9 b) (λr2 h2=>(zc (Q9 c) (λr3 h3=>(zc (z56 r1 r2 r3) (λr4 h4=>(Y2 [.int .i64 a.a,.int .i64 a.b,.int .i64 a.c,.slice a.parts.a a.parts.len a.parts.cap,.int .i64 b.a,.int .i64 b.b,.int .i64 b.c,.slice b.parts.a b.parts.len b.parts.cap,.int .i64 c.a,.int .i64 c.b,.int .i64 c.c,.slice c.parts.a c.parts.len c.parts.cap] (λp5 h5=>(K ((⟨r4.2.2.1,r4.1,r4.2.1,(⟨some p5,3,3⟩:Sl)⟩:TTree),r4.2.2.2) h5)) h4)) h3)) h2)) h1)) h)
def z5m(l:Sl)(K:(Sl×Bool)->Hp->Prop)(h:Hp):Prop:=(zn (S:=Int×Unit) (λs1 k2 h1=>(ifP (decide (s1.1<(l.len:Int))) (zn (S:=Int×Unit) (λs3 k4 h2=>(ifP (decide (s3.1<(l.len:Int))) (zn (S:=Int×Unit) (λs5 k6 h3=>(ifP (decide (s5.1<(l.len:Int))) (zg l s1.1 4 λa7=>(ldL (.int .i64) (a7.add 0) (λx8_0=>(ldL (.int .i64) (a7.add 1) (λx8_1=>(ldL (.int .i64) (a7.add 2) (λx8_2=>(ldL (.sl) (a7.add 3) (λx8_3=>(zg l s3.1 4 λa9=>(ldL (.int .i64) (a9.add 0) (λx10_0=>(ldL (.int .i64) (a9.add 1) (λx10_1=>(ldL (.int .i64) (a9.add 2) (λx10_2=>(ldL (.sl) (a9.add 3) (λx10_3=>(zg l s5.1 4 λa11=>(ldL (.int .i64) (a11.add 0) (λx12_0=>(ldL (.int .i64) (a11.add 1) (λx12_1=>(ldL (.int .i64) (a11.add 2) (λx12_2=>(ldL (.sl) (a11.add 3) (λx12_3=>(zc (z1a (⟨x8_0,x8_1,x8_2,x8_3⟩:TTree) (⟨x10_0,x10_1,x10_2,x10_3⟩:TTree) (⟨x12_0,x12_1,x12_2,x12_3⟩:TTree)) (λr13 h4=>(ifP (!r13.2) (k6 ((i64.wrap (s5.1+1)),()) h4) (Y2 [.int .i64 r13.1.a,.int .i64 r13.1.b,.int .i64 r13.1.c,.slice r13.1.parts.a r13.1.parts.len r13.1.parts.cap] (λp14 h5=>(zn (S:=Sl×Int×Unit) (λs15 k16 h6=>(ifP (decide (s15.2.1<(l.len:Int))) (zv (S:=Sl×Unit) (λs17 h7=>(k16 (s17.1,(i64.wrap (s15.2.1+1)),()) h7)) (λk18=>(zg l s15.2.1 4 λa19=>(ldL (.int .i64) (a19.add 0) (λx20_0=>(ldL (.int .i64) (a19.add 1) (λx20_1=>(ldL (.int .i64) (a19.add 2) (λx20_2=>(ldL (.sl) (a19.add 3) (λx20_3=>(ifP (s15.2.1 != s1.1) (ifP (s15.2.1 != s3.1) (ifP (s15.2.1 != s5.1) (ql 4 48 [.int .i64 0,.int .i64 0,.int .i64 0,.slice zf.a zf.len zf.cap] s15.1 1 [.int .i64 x20_0,.int .i64 x20_1,.int .i64 x20_2,.slice x20_3.a x20_3.len x20_3.cap] (λw21 h8=>(k18 (w21,()) h8)) h6) (k18 (s15.1,()) h6)) (k18 (s15.1,()) h6)) (k18 (s15.1,()) h6))) h6)) h6)) h6)) h6)))) (K (s15.1,true) h6))) ((⟨some p14,1,1⟩:Sl),0,()) h5)) h4))) h3)) h3)) h3)) h3)) h3))) h3)) h3)) h3)) h3))) h3)) h3)) h3)) h3)) (k4 ((i64.wrap (s3.1+1)),()) h3))) ((i64.wrap (s3.1+1)),()) h2) (k2 ((i64.wrap (s1.1+1)),()) h2))) ((i64.wrap (s1.1+1)),()) h1) (K (l,false) h1))) (0,()) h)
def z47(g:TGraph)(K:(TTree×Int)->Hp->Prop)(h:Hp):Prop:=(zc (Wc g) (λr1 h1=>(ifP (!r1) (K ((⟨0,0,0,zf⟩:TTree),1) h1) (ifP (decide (g.n>12)) (K ((⟨0,0,0,zf⟩:TTree),3) h1) (zn (S:=Sl×Int×Unit) (λs2 k3 h2=>(ifP (decide (s2.2.1<(g.edges.len:Int))) (zg g.edges s2.2.1 2 λa4=>(ldL (.int .i64) (a4.add 0) (λx5_0=>(ldL (.int .i64) (a4.add 1) (λx5_1=>(ql 4 48 [.int .i64 0,.int .i64 0,.int .i64 0,.slice zf.a zf.len zf.cap] s2.1 1 [.int .i64 x5_0,.int .i64 x5_1,.int .i64 0,.slice zf.a zf.len zf.cap] (λw6 h3=>(k3 (w6,(i64.wrap (s2.2.1+1)),()) h3)) h2)) h2)) h2)) (zn (S:=Sl×Bool×Unit) (λs7 k8 h4=>(ifP s7.2.1 (zc (z5m s7.1) (λr9 h5=>(k8 (r9.1,r9.2,()) h5)) h4) (zv (S:=(Int×Int×Int×Sl×Unit)×Unit) (λs10 h6=>(zg s7.1 0 4 λa12=>(ldL (.int .i64) (a12.add 0) (λx13_0=>(ldL (.int .i64) (a12.add 1) (λx13_1=>(ldL (.int .i64) (a12.add 2) (λx13_2=>(ldL (.sl) (a12.add 3) (λx13_3=>(K ((⟨x13_0,x13_1,x13_2,x13_3⟩:TTree),0) h6)) h6)) h6)) h6)) h6))) (λk11=>(ifP ((s7.1.len:Int) != 1) (K ((⟨0,0,0,zf⟩:TTree),13) h4) (zg s7.1 0 4 λa14=>(ldL (.int .i64) (a14.add 0) (λx15_0=>(ldL (.int .i64) (a14.add 1) (λx15_1=>(ldL (.int .i64) (a14.add 2) (λx15_2=>(ldL (.sl) (a14.add 3) (λx15_3=>(zc (Q9 (⟨x15_0,x15_1,x15_2,x15_3⟩:TTree)) (λr16 h7=>(ifP ((r16.len:Int) != g.n) (K ((⟨0,0,0,zf⟩:TTree),13) h7) (k11 ((0,0,0,zf,()),()) h7))) h4)) h4)) h4)) h4)) h4))))))) (s2.1,true,()) h2))) (zf,0,()) h1)))) h)
def z7x(g:TGraph)(K:Int->Hp->Prop)(h:Hp):Prop:=(zc (Wc g) (λr1 h1=>(ifP (!r1) (K 0 h1) (zc (Wp g) (λr2 h2=>(K (i64.wrap ((i64.wrap (2*g.n))-(r2.len:Int))) h2)) h1))) h)
def z6w(g:TGraph)(K:Bool->Hp->Prop)(h:Hp):Prop:=(zc (Wc g) (λr1 h1=>(ifP r1 (ifP (decide (g.n<=1)) (K true h1) (zc (z7x g) (λr2 h2=>(K (r2==3) h2)) h1)) (K false h1))) h)
def z0a(s1:Sl)(s2:Sl)(K:Int->Hp->Prop)(h:Hp):Prop:=(zn (S:=Int×Unit) (λs3 k4 h1=>(ifP (decide (s3.1<(s1.len:Int))) (zg s1 s3.1 1 λa5=>(ldL (.int .i64) a5 (λx6=>(ifP (decide (s3.1>=(s2.len:Int))) (K 1 h1) (zg s2 s3.1 1 λa7=>(ldL (.int .i64) a7 (λx8=>(zc (Q8 x6 x8) (λr9 h2=>(ifP (r9 != 0) (K r9 h2) (k4 ((i64.wrap (s3.1+1)),()) h2))) h1)) h1)))) h1)) (ifP (decide ((s1.len:Int)<(s2.len:Int))) (K (-1) h1) (K 0 h1)))) (0,()) h)
def z23(a:A2_Int)(b:A2_Int)(K:Int->Hp->Prop)(h:Hp):Prop:=(Y2 [.int .i64 a.c0,.int .i64 a.c1] (λp1 h1=>(Y2 [.int .i64 b.c0,.int .i64 b.c1] (λp2 h2=>(slP (⟨some p1,2,2⟩:Sl) 0 2 1 λc3=>(slP (⟨some p2,2,2⟩:Sl) 0 2 1 λc4=>(zc (z0a c3 c4) (λr5 h3=>(K r5 h3)) h2)))) h1)) h)
def Qc(x:Sl)(K:Unit->Hp->Prop)(h:Hp):Prop:=zik z00 2 zlw x K h
def Xj(s1:Sl)(s2:Sl)(K:Bool->Hp->Prop)(h:Hp):Prop:=(ifP ((s1.len:Int) != (s2.len:Int)) (K false h) (zn (S:=Int×Unit) (λs3 k4 h1=>(ifP (decide (s3.1<(s1.len:Int))) (zg s1 s3.1 2 λa5=>(ldL (.int .i64) (a5.add 0) (λx6_0=>(ldL (.int .i64) (a5.add 1) (λx6_1=>(zg s2 s3.1 2 λa7=>(ldL (.int .i64) (a7.add 0) (λx8_0=>(ldL (.int .i64) (a7.add 1) (λx8_1=>(ifP (!(x6_0==x8_0&&x6_1==x8_1)) (K false h1) (k4 ((i64.wrap (s3.1+1)),()) h1))) h1)) h1))) h1)) h1)) (K true h1))) (0,()) h))
def z4z(Zsz:TTree->(Bool->Hp->Prop)->Hp->Prop)(p:TTree)(K:Bool->Hp->Prop)(h:Hp):Prop:=(zc (Zsz p) (λr1 h1=>(K (!r1) h1)) h)
def y7(Zsz:TTree->(Bool->Hp->Prop)->Hp->Prop)(s:Sl)(K:Int->Hp->Prop)(h:Hp):Prop:=(zn (S:=Int×Unit) (λs1 k2 h1=>(ifP (decide (s1.1<(s.len:Int))) (zg s s1.1 4 λa3=>(ldL (.int .i64) (a3.add 0) (λx4_0=>(ldL (.int .i64) (a3.add 1) (λx4_1=>(ldL (.int .i64) (a3.add 2) (λx4_2=>(ldL (.sl) (a3.add 3) (λx4_3=>(zc ((z4z Zsz) (⟨x4_0,x4_1,x4_2,x4_3⟩:TTree)) (λr5 h2=>(ifP r5 (K s1.1 h2) (k2 ((i64.wrap (s1.1+1)),()) h2))) h1)) h1)) h1)) h1)) h1)) (K (-1) h1))) (0,()) h)
def yi(Zsz:TTree->(Bool->Hp->Prop)->Hp->Prop)(s:Sl)(K:Bool->Hp->Prop)(h:Hp):Prop:=(zc ((y7 Zsz) s) (λr1 h1=>(K (decide (r1>=0)) h1)) h)
def Xa:Nat->TTree->(Bool->Hp->Prop)->Hp->Prop
 | 0,_,_,_=>False
 | fuel+1,t,K,h=>(ifP ((t.parts.len:Int)==0) (K true h) (zv (S:=Unit) (λs1 h1=>(zg t.parts 0 4 λa3=>(ldL (.int .i64) (a3.add 0) (λx4_0=>(ldL (.int .i64) (a3.add 1) (λx4_1=>(ldL (.int .i64) (a3.add 2) (λx4_2=>(ldL (.sl) (a3.add 3) (λx4_3=>(zg t.parts 1 4 λa5=>(ldL (.int .i64) (a5.add 0) (λx6_0=>(ldL (.int .i64) (a5.add 1) (λx6_1=>(ldL (.int .i64) (a5.add 2) (λx6_2=>(ldL (.sl) (a5.add 3) (λx6_3=>(zg t.parts 2 4 λa7=>(ldL (.int .i64) (a7.add 0) (λx8_0=>(ldL (.int .i64) (a7.add 1) (λx8_1=>(ldL (.int .i64) (a7.add 2) (λx8_2=>(ldL (.sl) (a7.add 3) (λx8_3=>(zc (z1a (⟨x4_0,x4_1,x4_2,x4_3⟩:TTree) (⟨x6_0,x6_1,x6_2,x6_3⟩:TTree) (⟨x8_0,x8_1,x8_2,x8_3⟩:TTree)) (λr9 h2=>(ifP r9.2 (ifP (r9.1.a==t.a) (ifP (r9.1.b==t.b) (K (r9.1.c==t.c) h2) (K false h2)) (K false h2)) (K false h2))) h1)) h1)) h1)) h1)) h1))) h1)) h1)) h1)) h1))) h1)) h1)) h1)) h1))) (λk2=>(ifP ((t.parts.len:Int) != 3) (K false h) (zc ((yi (Xa fuel)) t.parts) (λr10 h3=>(ifP r10 (K false h3) (k2 () h3))) h)))))
def z8a(t:TTree)(K:Bool->Hp->Prop)(h:Hp):Prop:=∃fuel,Xa fuel t K h
def z49(g:TGraph)(t:TTree)(K:Bool->Hp->Prop)(h:Hp):Prop:=(zc (z2n t) (λr1 h1=>(Qu (Qc r1) (λr2 h2=>(zc (Xj r1 g.edges) (λr3 h3=>(ifP r3 (zc (Q9 t) (λr4 h4=>(ifP ((r4.len:Int)==g.n) (zc (z8a t) (λr5 h5=>(K r5 h5)) h4) (K false h4))) h3) (K false h3))) h2)) h1)) h)
def z48(g:TGraph)(t:TTree)(K:Bool->Hp->Prop)(h:Hp):Prop:=(zc (Wc g) (λr1 h1=>(ifP r1 (ifP (decide (g.n<=12)) (zc (z49 g t) (λr2 h2=>(K r2 h2)) h1) (K false h1)) (K false h1))) h)
def Xu(K:Bool->Hp->Prop)(h:Hp):Prop:=(zc (z1u) (λr1 h1=>(Y2 [.int .i8 0,.int .i8 0,.int .i8 2,.int .i8 0,.int .i8 1,.int .i8 2,.int .i8 3,.int .i8 2] (λp2 h2=>(zc (z5k r1 (⟨some p2,4,4⟩:Sl)) (λr3 h3=>(zc (z8o r3) (λr4 h4=>(zc (z47 r1) (λr5 h5=>(ifP (r4.2==0) (ifP ((r4.1.len:Int)==5) (zc (z6w r1) (λr6 h6=>(ifP r6 (ifP (r5.2==0) (zc (z48 r1 (⟨r5.1.a,r5.1.b,r5.1.c,r5.1.parts⟩:TTree)) (λr7 h7=>(ifP r7 (zc (z0i r1 (⟨some p2,4,4⟩:Sl)) (λr8 h8=>(zc (Wg r8) (λr9 h9=>(ifP r9 (zc (z7l r1) (λr10 h10=>(K ((r10.len:Int)==0) h10)) h9) (K false h9))) h8)) h7) (K false h7))) h6) (K false h6)) (K false h6))) h5) (K false h5)) (K false h5))) h4)) h3)) h2)) h1)) h)
def zdt(g:TGraph)(K:Bool->Hp->Prop)(h:Hp):Prop:=(ifP (decide (g.n<=8)) (K (decide ((g.edges.len:Int)<=20)) h) (K false h))
def zd1(g:TGraph)(K:Bool->Hp->Prop)(h:Hp):Prop:=(zv (S:=Unit) (λs1 h1=>(mkP g.n g.n 2 [.int .i8 0,.int .i8 0] (λm3 h2=>(zn (S:=Int×Unit) (λs4 k5 h3=>(ifP (decide (s4.1<(m3.len:Int))) (zg m3 s4.1 2 λa6=>(stP a6 [.int .i8 (i8.wrap ((i64.wrap (3*s4.1)))),.int .i8 (i8.wrap ((i64.wrap (s4.1*s4.1))))] (λh4=>(k5 ((i64.wrap (s4.1+1)),()) h4)) h3)) (zc (z0i g m3) (λr7 h5=>(zc (z62 r7) (λr8 h6=>(ifP (r8 != 0) (K true h6) (zc (zdb r7) (λr9 h7=>(zc (z7l g) (λr10 h8=>(zc (Vy r7) (λr11 h9=>(zv (S:=Unit) (λs12 h10=>(zc (Wg r7) (λr14 h11=>(ifP (!(r14==((r10.len:Int)==0))) (K false h11) (ifP (decide ((r10.len:Int)>0)) (K true h11) (zc (Wp g) (λr15 h12=>(K ((r15.len:Int)==(g.edges.len:Int)) h12)) h11)))) h10)) (λk13=>(zc (z3y r9.1 r10) (λr16 h13=>(ifP (!r16) (K false h13) (zc (z3y r11.2 r10) (λr17 h14=>(ifP (!r17) (K false h14) (zc (z59 g r10) (λr18 h15=>(ifP ((r9.2.len:Int) != (r18.len:Int)) (K false h15) (k13 () h15))) h14))) h13))) h9)))) h8)) h7)) h6))) h5)) h3))) (0,()) h2)) h1)) (λk2=>(zc (Xu) (λr19 h16=>(ifP (!r19) (zc (Xu) (λr20 h17=>(K r20 h17)) h16) (zc (zdt g) (λr21 h18=>(ifP (!r21) (zc (Xu) (λr22 h19=>(K r22 h19)) h18) (zc (z63 g) (λr23 h20=>(ifP (!r23) (zc (Xu) (λr24 h21=>(K r24 h21)) h20) (k2 () h20))) h18))) h16))) h)))
end F
end Den
end

noncomputable section
namespace Den
open Go
namespace STy
abbrev i:STy:=.leaf (.int .i64)
abbrev s:STy:=.leaf .sl
abbrev b:STy:=.leaf .bool
end STy
abbrev t2{α β:Type}(a:Ty α)(b:Ty β):Ty (α×β):=Ty.tup (.cons a (.cons b .nil)) (λx=>(x.1,x.2,())) (λy=>(y.1,y.2.1)) (λ_=>rfl) (λ_=>rfl)
abbrev t3{α β γ:Type}(a:Ty α)(b:Ty β)(c:Ty γ):Ty (α×β×γ):=Ty.tup (.cons a (.cons b (.cons c .nil))) (λx=>(x.1,x.2.1,x.2.2,())) (λy=>(y.1,y.2.1,y.2.2.1)) (λ_=>rfl) (λ_=>rfl)
namespace An
abbrev l:An:=.leaf
abbrev q(a:An):An:=.seq .leaf a
abbrev w:An:=.seq .leaf .leaf
abbrev s(a b:An):An:=.seq a b
abbrev c(a b:An):An:=.cond a b
abbrev b(a:An):An:=.block a
end An
abbrev az:ArgT Unit:=ArgT.nil
abbrev ac{α β:Type}(t:Ty α)(r:ArgT β):ArgT (α×β):=ArgT.cons t r
abbrev ai{β:Type}(r:ArgT β):ArgT (Int×β):=ArgT.cons (Ul (.int .i64)) r
abbrev asl{β:Type}(r:ArgT β):ArgT (Sl×β):=ArgT.cons (Ul .sl) r
abbrev ap{β:Type}(r:ArgT β):ArgT (Option Addr×β):=ArgT.cons (Ul .ptr) r
abbrev tb:Ty Bool:=Ul .bool
abbrev ti:Ty Int:=Ul (.int .i64)
abbrev ts:Ty Sl:=Ul .sl
abbrev tu:Ty Unit:=Ty.unit
abbrev cg(P:Program)(n:Nat)(tab:List (Nat×zj))(mutL:List Nat:=[])(rtL:List (Nat×Nat):=[])(locL:List Nat:=[]):Cfg:={ P:=P,n:=n,tab:=tab,mutL:=mutL,rtL:=rtL,locL:=locL }
def bd(fn:Func):Code:=match fn.body with | some c=>c | none=>.skip
section
variable {α ρ : Type} {A : ArgT α} {R : Ty ρ} {F : α → (ρ → Hp → Prop) → Hp → Prop} {g : Nat} {fn : Func}
theorem eo(C:Cfg)(an:An)(hf:C.P.funcs[g]?=some fn)(hC:Tab C C.tab)(hBk:z2o C.P C.backs:=by exact trivial)
 (hb:fn.body=some (bd fn):=by exact rfl) (hn:fn.ntmps=C.n:=by exact rfl) (hname:(fn.name == "runtime.NumGoroutine")=false:=by decide) (ha:∀a,Nat.ble (A.up a).length C.n=true:=by exact λ_=>rfl)
 (hF:∀a K D,zvc C fn (bd fn) an (A.up a) (λv h=>R.dn v λr=>K r h) D=F a K D:=by intro a K D;kernel_rfl):Entry C.P g (mkE A R F) false:=Z94 hC hBk hf hb hn hname ha hF
theorem eoM(C:Cfg)(an:An)(hf:C.P.funcs[g]?=some fn)(hC:Tab C C.tab)(hBk:z2o C.P C.backs:=by exact trivial)
 (hb:fn.body=some (bd fn):=by exact rfl) (hn:fn.ntmps=C.n:=by exact rfl) (hname:(fn.name == "runtime.NumGoroutine")=false:=by decide) (ha:∀a,Nat.ble (A.up a).length C.n=true:=by exact λ_=>rfl)
 (hF:∀a K D,zvc C fn (bd fn) an (A.up a) (λv h=>R.dn v λr=>K r h) D=F a K D:=by intro a K D;kernel_rfl):Entry C.P g (mkM A R F) true:=Z0t hC hBk hf hb hn hname ha hF
end
end Den
end

noncomputable section
set_option maxRecDepth 100000
namespace Den
open Go Go.Proofs.Tryz
noncomputable section
abbrev EnP(g:Nat)(F:zj)(m:Bool):Prop:=Entry prog g F m
noncomputable abbrev cgP(n:Nat)(tab:List (Nat×zj))(mutL:List Nat:=[])(rtL:List (Nat×Nat):=[])(locL:List Nat:=[]):Cfg:=cg prog n tab mutL rtL locL
end
def zix:zj:=mkE (asl az) ts λa=>F.Yf a.1
theorem zlz:EnP 136 zix false:=eo (cgP 21 []) (.q (.s (.b (.loop [(0,.s)] (.join [] (.q (.c .l .l)) (.b .l)))) .w)) func136 trivial
def Zjf:zj:=mkE (ac (Ul (.int .u64)) az) ts λa=>F.Ve a.1
theorem Zqa:EnP 135 Zjf false:=eo (cgP 10 [(136,zix)]) (.q .w) func135 ⟨zlz,trivial⟩
def zrr:zj:=mkE (ac tb (asl az)) Zv λa=>F.Y4 a.1 a.2.1
theorem zxu:EnP 134 zrr false:=eo (cgP 15 [(136,zix)] [] [] [4]) (.q (.q .w)) func134 ⟨zlz,trivial⟩
def Zdq:zj:=mkE (ai az) Zv λa=>F.Vo a.1
theorem Zo9:EnP 60 Zdq false:=eo (cgP 14 [(135,Zjf),(134,zrr)] [] [] [2]) (.q (.s (.q (.c .w .l)) .w)) func60 ⟨Zqa,zxu,trivial⟩
def Z8x:zj:=mkE (ai az) qi λa=>F.Q1 a.1
theorem Zew:EnP 28 Z8x false:=eo (cgP 7 [(60,Zdq)] [] [] [2]) (.q .w) func28 ⟨Zo9,trivial⟩
def z3k:zj:=mkE (ac Wv (asl az)) Qf λa=>F.z0i a.1 a.2.1
theorem z90:EnP 9 z3k false:=eo (cgP 60 [(28,Z8x)] [] [(10,2),(15,5),(34,5),(36,2),(45,5),(47,8),(49,8),(57,5)] [2,4,5,8,9,32,55]) (.q (.q (.s (.q (.b (.loop [(5,.box [.sl,.sl,.sl,.sl,.sl,.sl]),(12,.i)] (.q (.s (.c .l .l) (.s (.b (.q (.draw [0,1,2,3,4,5,6,7,9,10,11,12,13,14,8,15,16,17,18,19,20]))) .l)))))) (.s (.q (.b (.loop [(5,.box [.sl,.sl,.sl,.sl,.sl,.sl]),(39,.i)] (.q (.s (.c .l .l) (.s (.b (.q .w)) .l)))))) .w)))) func9 ⟨Zew,trivial⟩
def Zpy:zj:=mkE (ac Qf az) tb λa=>F.zas a.1
theorem Zsq:EnP 29 Zpy false:=eo (cgP 52 [] [] [(5,1),(11,1),(18,1),(23,1),(29,1),(35,1),(41,1),(47,1)] [1]) (.q (.s (.q (.b (.loop [(3,.i)] (.s (.q (.c .l .l)) (.s (.b (.q (.c .w .l))) .l))))) .w)) func29 trivial
def Zpz:zj:=mkE (ac Zv az) tb λa=>F.z61 a.1
theorem Zsr:EnP 61 Zpz false:=eo (cgP 22 [(136,zix)] [] [(3,1),(7,1),(12,1),(16,1)] [1]) (.q (.s (.draw [0,1,4,5,6,2,3,7,8,9,10,11,12,13,14,15,16,17,18,19]) .l)) func61 ⟨zlz,trivial⟩
def Z0s:zj:=mkE (ac Zv az) Zv λa=>F.Xy a.1
theorem Zc0:EnP 137 Z0s false:=eo (cgP 8 [(134,zrr)] [] [(3,1),(5,1)] [1,2]) (.q .w) func137 ⟨zxu,trivial⟩
def Zdr:zj:=mkE (ac Zv az) ti λa=>F.z14 a.1
theorem Zp5:EnP 62 Zdr false:=eo (cgP 11 [(137,Z0s)] [] [(5,1),(9,1)] [1]) (.q (.q (.s (.q (.c .w .l)) (.s (.q (.c .w .l)) .w)))) func62 ⟨Zc0,trivial⟩
def Z92:zj:=mkE (asl (asl az)) ti λa=>F.Wd a.1 a.2.1
theorem Zex:EnP 199 Z92 false:=eo (cgP 41 []) (.q (.s (.q (.c (.s (.q (.c .w .l)) .w) .l)) (.s (.q (.b (.loop [(5,.i)] (.s (.q (.c .l .l)) (.s (.b (.s (.s (.draw [0,1,2,3,4,5,6,7,8]) (.c .w .l)) (.s (.draw [0,1,2,3,4,5,6,7,8]) (.c .w .l)))) .l))))) .w))) func199 trivial
def Zf5:zj:=mkE (asl az) (Ul (.int .u64)) λa=>F.z3b a.1
theorem Zqb:EnP 200 Zf5 false:=eo (cgP 21 []) (.q (.q (.s (.q (.b (.loop [(3,.leaf (.int .u64)),(4,.i)] (.s (.q (.c .l .l)) (.s (.b .l) .l))))) .w))) func200 trivial
def Z41:zj:=mkE (asl (ac (Ul (.int .u32)) az)) (Ty.tup (.cons ts (.cons (Ul (.int .u32)) .nil)) (λx=>(x.1,x.2,())) (λy=>(y.1,y.2.1)) (λ_=>rfl) (λ_=>rfl)) λa=>F.zcr a.1 a.2.1
theorem Zh6:EnP 201 Z41 false:=eo (cgP 43 [(136,zix)]) (.q (.q (.q (.s (.q (.b (.loop [(7,.leaf (.int .u64)),(8,.i)] (.s (.q (.c .l .l)) (.s (.b (.q .w)) .l))))) .w)))) func201 ⟨zlz,trivial⟩
def Zf6:zj:=mkE (asl az) ti λa=>F.z3x a.1
theorem Zqc:EnP 202 Zf6 false:=eo (cgP 26 []) (.q (.s (.q (.c .w .l)) (.q (.s (.q (.b (.loop [(3,.i),(4,.leaf (.int .u32))] (.s (.q (.c .l .l)) (.s (.b .l) .l))))) .w)))) func202 trivial
def Zf7:zj:=mkE (asl (ai az)) ts λa=>F.z5i a.1 a.2.1
theorem Zqd:EnP 203 Zf7 false:=eo (cgP 43 []) (.q (.q (.s (.q (.b (.loop [(6,.i)] (.s (.q (.c .l .l)) (.s (.b (.q .w)) .l))))) .w))) func203 trivial
def Z4l:zj:=mkE (asl (asl az)) ts λa=>F.z15 a.1 a.2.1
theorem Zh7:EnP 269 Z4l false:=eo (cgP 67 [(136,zix)]) (.q (.q (.s (.q (.b (.loop [(6,.i)] (.s (.q (.c .l .l)) (.s (.b (.q (.s (.q (.b (.loop [(7,.leaf (.int .u64)),(8,.i)] (.s (.q (.c .l .l)) (.s (.b (.s (.draw [0,1,2,3,4,5,6,7,8,9,10,11,12,13,14,15,16,17,18,19,20,21]) .w)) .l))))) .l))) .l))))) .w))) func269 ⟨zlz,trivial⟩
def zz0:zj:=mkE (asl (asl az)) ts λa=>F.Vd a.1 a.2.1
theorem Zb7:EnP 205 zz0 false:=eo (cgP 48 [(136,zix)]) (.q (.q (.q (.s (.q (.b (.loop [(6,.leaf (.int .u64)),(7,.i)] (.s (.q (.c .l .l)) (.s (.b (.q (.join [(8,.leaf (.int .u64))] (.q (.c .l .l)) (.q .w)))) .l))))) .w)))) func205 ⟨zlz,trivial⟩
def Zf8:zj:=mkE (asl (asl az)) (Ty.tup (.cons (Ul (.int .u32)) (.cons ts .nil)) (λx=>(x.1,x.2,())) (λy=>(y.1,y.2.1)) (λ_=>rfl) (λ_=>rfl)) λa=>F.z8r a.1 a.2.1
theorem Zqe:EnP 204 Zf8 false:=eo (cgP 51 [(269,Z4l),(136,zix),(199,Z92),(205,zz0)]) (.q (.q (.s (.draw [0,1,2,3,4,5,6,7,8,9,10,11,12,13,14,15,16,17,18,19,20]) (.join [(7,.leaf (.int .u64))] (.q (.c .l .l)) (.q (.s (.b (.loop [(7,.leaf (.int .u64)),(8,.s)] (.s (.q (.c .l .l)) (.b .w)))) .w)))))) func204 ⟨Zh7,zlz,Zex,Zb7,trivial⟩
def Zf9:zj:=mkE (asl (ai az)) ts λa=>F.zao a.1 a.2.1
theorem Zqf:EnP 206 Zf9 false:=eo (cgP 45 [(136,zix)]) (.q (.q (.s (.q (.b (.loop [(6,.i)] (.s (.q (.c .l .l)) (.s (.b (.q (.join [(7,.leaf (.int .u64))] (.q (.c .l .l)) .l))) .l))))) .w))) func206 ⟨zlz,trivial⟩
def Z5l:zj:=mkE (asl (asl az)) (t2 ts ts) λa=>F.z1r a.1 a.2.1
theorem Zh8:EnP 138 Z5l false:=eo (cgP 128 [(199,Z92),(200,Zf5),(135,Zjf),(201,Z41),(202,Zf6),(203,Zf7),(136,zix),(204,Zf8),(205,zz0),(206,Zf9)]) (.q (.s (.q (.c .w .l)) (.s (.q (.c (.q (.s (.draw [0,1,2,4,5,6,3,7,8,9]) .l)) .l)) (.s (.q (.c (.q .w) .l)) (.q (.q (.q (.s (.q (.b (.loop [(14,.i)] (.s (.q (.c .l .l)) (.s (.b (.q (.q (.q (.q (.q (.b (.loop [(19,.i)] (.s (.q (.c .l .l)) (.join [] (.b (.q (.q (.c .l .l)))) .l)))))))))) .l))))) .w)))))))) func138 ⟨Zex,Zqb,Zqa,Zh6,Zqc,Zqd,zlz,Zqe,Zb7,Zqf,trivial⟩
def Z5u:zj:=mkE (ac Zv (ac Zv az)) Zv λa=>F.z4p a.1 a.2.1
theorem Zh9:EnP 64 Z5u false:=eo (cgP 28 [(136,zix),(138,Z5l),(134,zrr)] [] [(9,2),(12,3)] [2,3,4]) (.q (.s (.draw [0,1,3,4,2,5,6,7]) (.s (.b (.loop [(5,.s),(6,.s)] (.s (.q (.c .l .l)) (.b .w)))) .w))) func64 ⟨zlz,Zh8,zxu,trivial⟩
def Z65:zj:=mkE (ac Zv az) tb λa=>F.z7h a.1
theorem Zha:EnP 63 Z65 false:=eo (cgP 19 [] [] [(3,1),(8,1),(15,1)] [1]) (.q .w) func63 trivial
def Z6e:zj:=mkE (ac qi az) tb λa=>F.V5 a.1
theorem Zhb:EnP 30 Z6e false:=eo (cgP 25 [(61,Zpz),(62,Zdr),(64,Z5u),(63,Z65)] [] [(3,1),(7,1),(12,1),(18,1),(20,1)] [1]) (.q .w) func30 ⟨Zsr,Zp5,Zh9,Zha,trivial⟩
def Z6o:zj:=mkE (ai (ai az)) tb λa=>F.V1 a.1 a.2.1
theorem Zhc:EnP 31 Z6o false:=eo (cgP 12 []) (.q .w) func31 trivial
def Z6v:zj:=mkE (ac qi az) ti λa=>F.z4r a.1
theorem Zhd:EnP 32 Z6v false:=eo (cgP 6 [(62,Zdr)] [] [(3,1)] [1]) (.q .w) func32 ⟨Zp5,trivial⟩
def Zfa:zj:=mkE (ac Qf (ac zts az)) (t2 ti ti) λa=>F.zar a.1 a.2.1
theorem Zqg:EnP 65 Zfa false:=eo (cgP 44 [] [] [(8,3),(10,2),(12,3),(17,2),(19,3),(24,2),(26,3),(31,2),(33,3),(38,3)] [2,3]) (.q (.q (.join [(6,.i),(7,.i)] (.q (.c (.draw [0,1,2,3,4,5,6,7,8,9,10,11,12,13,14,15]) (.draw [0,1,2,3,4,5,6,7,8,9,10,11,12,13,14,15]))) (.s (.q (.c .w .l)) .w)))) func65 trivial
def Zfb:zj:=mkE (ac Qf (asl az)) tb λa=>F.z8w a.1 a.2.1
theorem Zqh:EnP 33 Zfb false:=eo (cgP 80 [(65,Zfa),(31,Z6o)] [] [(22,2),(41,2)] [2]) (.q (.s (.q (.b (.loop [(5,.i)] (.s (.q (.c .l .l)) (.join [] (.b (.join [] (.s (.draw [0,1,2,3,4,5,6,7,8,9,10,11,12,13,14,15,16,17,18,19,20,21,22,23,24,25,26,27,28,29,30,31,32,33,34,35,36]) (.c .w .l)) (.q (.c (.s (.draw [0,1,2,3,4,5,6,7,8,9,10,11]) (.s (.draw [0,1,2,3,4,5,6,7,8,9,10]) (.q (.c .w .l)))) .l)))) .l))))) .w)) func33 ⟨Zqg,Zhc,trivial⟩
def Zfc:zj:=mkE az ts λa=>F.z81
theorem Zqi:EnP 139 Zfc false:=eo (cgP 19 []) (.q .w) func139 trivial
def Zfd:zj:=mkE (ai az) (t2 zbn tb) λa=>F.zg6 a.1
theorem Zqj:EnP 66 Zfd false:=eo (cgP 18 [(139,Zfc)] [] [] [2]) (.q (.join [(2,.box [.str,.int .i64,.int .i64,.int .i64,.int .i64,.int .i64,.bool])] (.q (.c .w .l)) .w)) func66 ⟨Zqi,trivial⟩
def Zfe:zj:=mkE (ac Zv (ac Zv az)) tb λa=>F.zan a.1 a.2.1
theorem Zqk:EnP 311 Zfe false:=eo (cgP 18 [(199,Z92)] [] [(5,2),(7,3),(11,2),(13,3)] [2,3]) (.q .w) func311 ⟨Zex,trivial⟩
def Zff:zj:=mkE (ac Zv az) (Ul .str) λa=>F.z73 a.1
theorem Zql:EnP 312 Zff false:=eo (cgP 34 [(137,Z0s),(201,Z41)] [] [(9,1),(29,1)] [1]) (.q (.q (.q (.q (.s (.b (.loop [(3,.leaf (.str)),(4,.s)] (.s (.q (.c .l .l)) (.b (.q .w))))) (.s (.q (.c .w .l)) (.s (.q (.c .w .l)) .w))))))) func312 ⟨Zc0,Zh6,trivial⟩
def Z81:zj:=mkE (ac Zv (ac Zv az)) Zv λa=>F.z4q a.1 a.2.1
theorem Zhe:EnP 344 Z81 false:=eo (cgP 20 [(137,Z0s),(269,Z4l),(134,zrr)] [] [(9,2),(11,3),(14,2),(16,3)] [2,3,4]) (.q (.s (.draw [0,2,1,3,4,5]) (.s (.draw [0,1,2,3,4,5,6,7,8,9,10,11]) .l))) func344 ⟨Zc0,Zh7,zxu,trivial⟩
def Zfg:zj:=mkE (ac Zv az) Zv λa=>F.zdr a.1
theorem Zqm:EnP 392 Zfg false:=eo (cgP 9 [(134,zrr)] [] [(3,1),(6,1)] [1,2]) (.q .w) func392 ⟨zxu,trivial⟩
def Zfh:zj:=mkE (asl (asl az)) ts λa=>F.z80 a.1 a.2.1
theorem Zqn:EnP 393 Zfh false:=eo (cgP 58 [(136,zix)]) (.q (.join [(0,.s),(1,.s)] (.q (.c .l .l)) (.q (.q (.s (.q (.b (.loop [(6,.leaf (.int .u64)),(7,.i)] (.s (.q (.c .l .l)) (.s (.b (.q (.join [(6,.leaf (.int .u64))] (.q (.c .l .l)) .w))) .l))))) (.q .w)))))) func393 ⟨zlz,trivial⟩
def Z8s:zj:=mkE (ac Zv (ac Zv az)) Zv λa=>F.z9u a.1 a.2.1
theorem Zhf:EnP 379 Z8s false:=eo (cgP 44 [(137,Z0s),(393,Zfh),(134,zrr),(199,Z92),(205,zz0)] [] [(9,2),(11,3),(14,2),(16,2),(18,3),(22,2),(24,3),(28,2),(30,2),(32,3),(36,3),(38,3),(40,2)] [2,3,4]) (.q (.s (.draw [0,2,1,3,4,5]) (.s (.q (.c (.s (.draw [0,1,2,3,4,5,6,7,8]) .l) .l)) (.s (.q (.c (.s (.draw [0,1,2,3,4,5,6,7,8]) .l) .l)) (.s (.draw [0,1,2,3,4,5,6,7,8]) .l))))) func379 ⟨Zc0,Zqn,zxu,Zex,Zb7,trivial⟩
def Zfi:zj:=mkE (ac Zv (ac Zv az)) Zv λa=>F.z9v a.1 a.2.1
theorem Zqo:EnP 378 Zfi false:=eo (cgP 9 [(392,Zfg),(379,Z8s)] [] [] [2,3,4]) (.q (.s (.draw [0,1,2,3,4]) .l)) func378 ⟨Zqm,Zhf,trivial⟩
def Zfj:zj:=mkE (ac Zv (ac Zv az)) (t3 Zv Zv ti) λa=>F.z72 a.1 a.2.1
theorem Zqp:EnP 364 Zfj false:=eo (cgP 55 [(137,Z0s),(138,Z5l),(134,zrr),(344,Z81),(378,Zfi),(62,Zdr),(60,Zdq),(379,Z8s)] [] [(15,3),(22,2),(24,3),(29,2),(31,3)] [2,3,4,5,9,10]) (.q (.s (.draw [0,2,1,3,4,5]) (.s (.q (.c .w .l)) (.q (.q (.s (.draw [0,1,2,5,3,4,6]) (.join [(9,.box [.bool,.sl]),(10,.box [.bool,.sl])] (.s (.draw [0,2,1,3,4,5]) (.c (.s (.draw [0,1,2,3]) .l) .l)) (.s (.draw [0,1,2,3,4]) .l)))))))) func364 ⟨Zc0,Zh8,zxu,Zhe,Zqo,Zp5,Zo9,Zhf,trivial⟩
def Zfk:zj:=mkE (ac Zv (ac Zv az)) Zv λa=>F.z4s a.1 a.2.1
theorem Zqq:EnP 345 Zfk false:=eo (cgP 16 [(364,Zfj)] [] [] [2,3,4,5,6]) (.q (.q .w)) func345 ⟨Zqp,trivial⟩
def Zfl:zj:=mkE (ac qi (ac qi az)) qi λa=>F.zds a.1 a.2.1
theorem Zqr:EnP 313 Zfl false:=eo (cgP 65 [(64,Z5u),(345,Zfk),(344,Z81),(63,Z65),(28,Z8x)] [] [(7,2),(8,2),(13,3),(14,3),(20,2),(24,3),(28,2),(30,3),(33,2),(36,2),(38,3),(41,3),(43,2),(46,2),(50,3),(55,2),(59,3)] [2,3,4,5,6]) (.q (.join [(4,.box [.bool,.sl,.bool,.sl])] (.q (.c .w .l)) (.join [(4,.box [.bool,.sl,.bool,.sl])] (.q (.c (.s (.draw [0,1,2,3,5,6,4,7,8]) .l) .l)) (.s (.draw [0,1,2,3,5,6,7,8,10,11,4,9,12,13]) (.s (.draw [0,1,2,4,5,6,9,10,11,13,14,15,3,7,8,12,16,17,18,19]) .l))))) func313 ⟨Zh9,Zqq,Zhe,Zha,Zew,trivial⟩
def Zfm:zj:=mkE (ac qi az) (t2 (Ul .str) tb) λa=>F.z5j a.1
theorem Zqs:EnP 270 Zfm false:=eo (cgP 60 [(28,Z8x),(60,Zdq),(311,Zfe),(312,Zff),(313,Zfl),(30,Z6e),(32,Z6v)] [] [(24,6),(28,6)] [1,4,5,6]) (.q (.join [] (.q (.c .w .l)) (.q (.q (.q (.s (.q (.b (.loop [(6,.box [.bool,.sl,.bool,.sl]),(7,.i)] (.s (.q (.c .l .l)) (.s (.b (.s (.q (.c (.q (.s (.b (.loop [(8,.leaf (.str))] (.s (.q (.c .l .l)) (.b .l)))) (.join [(8,.leaf (.str))] (.q (.c (.draw [0,1,2,3,4,5,6,7,8,9,10,11,12,13,14]) .l)) .w))) .l)) .l)) .l))))) .w)))))) func270 ⟨Zew,Zo9,Zqk,Zql,Zqr,Zhb,Zhd,trivial⟩
end Den
end

section
namespace Den
open Go Go.RowKit Go.Shelf
open Go.Proofs
attribute [local go_sem] Oper.semAt_some
set_option maxRecDepth 100000 in
set_option maxHeartbeats 2000000 in
theorem Z34:zu9 Tryz.prog 316 (.leaf (.int .u32)):=by
 refine⟨enters_of Tryz.func316 (by kernel_rfl) rfl,?_⟩;rintro l ab ⟨xa,xl,xc⟩ J w hxl h0 hbox hround;simp only at hxl h0 hbox hround;have hb0:=hbox _ _ h0;refine callsIn_of_wp Tryz.func316 rfl trivial ?_ rfl;simp only[Tryz.ntmps316,List.size_toArray,List.length_cons,List.length_nil,Nat.reduceAdd,Nat.reduceSub,Array.replicate_succ,Array.replicate_zero,List.push_toArray,List.append_toArray,List.nil_append,List.cons_append]
 gi_wp2
 gi_loopw [3] (λi wr=>∃k:Nat,k<=xl/\i=.int .i64 ((k:Int)-1)/\J k wr) (λi _=>(RowKit.intOf i+1).toNat)
 case atStart=>exact⟨xl,Ja _,rfl,h0⟩
 case round=>
  obtain⟨k,hk,rfl,hJ⟩:=hrel;have hbx:=hbox _ _ hJ;cases k with
  | zero=>
    gi_wp2
    go_end0
    exact⟨⟨_,rfl⟩,hJ⟩
  | succ j=>
    obtain⟨ad,v,hxa,hcells,f,tmps1,asg,body,hy,hR⟩:=hround j wr (by omega) hJ;subst hxa;have hc0:wr.cell? (ad.add j)=some (.int .u32 v):=by
     have:=hcells 0 (.int .u32 v) rfl;simpa [STy.size] using this
    have hkj:(((j+1:Nat):Int)-1)=(j:Int):=by omega
    rw[hkj];simp only[STy.val,Lf.up]at hy
    gi_wp2
    refine⟨rfl,hR.mono ?_⟩;rintro e W3 ⟨rfl,hJ3⟩
    gi_wp2
    go_roundw
    case rel=>exact⟨j,by omega,by simp,hJ3⟩
    case measure=>simp[RowKit.intOf]
end Den
end

noncomputable section
set_option maxRecDepth 100000
namespace Den
open Go Go.Proofs.Tryz
def Zfn:zj:=mkE (ac (Ul (.int .u8)) az) tb λa=>F.z74 a.1
theorem Zqt:EnP 346 Zfn false:=eo (cgP 17 []) (.q .w) func346 trivial
def Zfo:zj:=mkE (ac (Ul (.int .u8)) az) tb λa=>F.zcs a.1
theorem Zqu:EnP 347 Zfo false:=eo (cgP 9 []) (.q .w) func347 trivial
def Zfp:zj:=mkE (ac (Ul .str) (ai az)) ti λa=>F.zaq a.1 a.2.1
theorem Zqv:EnP 314 Zfp false:=eo (cgP 42 [(346,Zfn),(347,Zfo)]) (.q (.join [] (.q (.c .w .l)) (.s (.b (.loop [(1,.i)] (.join [] (.q (.c .l .l)) (.b .l)))) .w))) func314 ⟨Zqt,Zqu,trivial⟩
def Zfq:zj:=mkE (ac (Ul .str) az) tb λa=>F.z1s a.1
theorem Zqw:EnP 271 Zfq false:=eo (cgP 17 [(314,Zfp)]) (.q .w) func271 ⟨Zqv,trivial⟩
def Zfr:zj:=mkE (ac z4a az) tb λa=>F.z8u a.1
theorem Zqx:EnP 207 Zfr false:=eo (cgP 106 [(270,Zfm),(271,Zfq)] [] [(6,1),(7,1),(8,1),(12,1),(13,1),(14,1),(19,1),(20,1),(21,1),(27,1),(28,1),(29,1),(34,1),(39,1),(46,1),(50,1),(56,1),(65,1),(70,1),(79,1),(84,1),(96,1),(101,1)] [1]) (.q (.join [(3,.b)] .l (.s (.q (.b (.q (.c (.q .w) (.q (.c .w (.q (.c .w (.join [(89,.b)] (.q (.c .l (.q (.c .l (.q (.c .l .l)))))) (.c .w .l)))))))))) .w))) func207 ⟨Zqs,Zqw,trivial⟩
def Z2q:ArgT (TExpr×Unit):=(ac z4a az)
def Z2w:Ty Bool:=tb
def Zfs:zj:=mkE Z2q Z2w λa=>F.z75 a.1
def Zpr(n:Nat):Cfg:=(cgP 21 [(207,Zfr),(140,mkE Z2q Z2w (λa=>F.Vp n a.1))] [] [(8,1),(14,1)] [1])
theorem Zhl:∃fn,prog.funcs[140]?=some fn/\fn.body.isNone=false/\(fn.name == "runtime.NumGoroutine")=false:=⟨_,func140,rfl,by decide⟩
set_option maxHeartbeats 4000000 in
theorem Zhn:∀n a K D w,Sub D w->F.Vp n a.1 K D->Calls prog 140 (Z2q.up a).toArray w (z6a (λv h=>Z2w.dn v λr=>K r h) D w)
 | 0,_,_,_,_,_,h=>h.elim
 | n+1,a,K,D,w,hs,h=>z0p (C:=Zpr n) (F:=λa=>F.Vp (n+1) a.1) (fn:=f140) (c:=bd f140) (an:=(.seq .leaf (.seq (.seq .leaf (.cond (.seq .leaf .leaf) .leaf)) (.seq (.seq .leaf (.block (.loop [(3,.i)] (.seq (.seq .leaf (.cond .leaf .leaf)) (.seq (.block (.seq .leaf (.cond (.seq .leaf .leaf) .leaf))) .leaf))))) (.seq .leaf .leaf))))) ⟨Zqx,(Ys Zhl (Zhn n)),trivial⟩ trivial func140 rfl rfl (λ_=>rfl) (by intro a K D;kernel_rfl) a K D w hs h
theorem Zqy:EnP 140 Zfs false:=Ys Zhl (λa K D w hs h=>h.elim λm h=>Zhn m a K D w hs h)
def Z2r:ArgT (TExpr×Unit):=(ac z4a az)
def Z2x:Ty Int:=ti
def Zft:zj:=mkE Z2r Z2x λa=>F.z8s a.1
def Zps(n:Nat):Cfg:=(cgP 22 [(141,mkE Z2r Z2x (λa=>F.X8 n a.1))] [] [(6,1),(13,1)] [1])
theorem Zhm:∃fn,prog.funcs[141]?=some fn/\fn.body.isNone=false/\(fn.name == "runtime.NumGoroutine")=false:=⟨_,func141,rfl,by decide⟩
set_option maxHeartbeats 4000000 in
theorem Zho:∀n a K D w,Sub D w->F.X8 n a.1 K D->Calls prog 141 (Z2r.up a).toArray w (z6a (λv h=>Z2x.dn v λr=>K r h) D w)
 | 0,_,_,_,_,_,h=>h.elim
 | n+1,a,K,D,w,hs,h=>z0p (C:=Zps n) (F:=λa=>F.X8 (n+1) a.1) (fn:=f141) (c:=bd f141) (an:=(.seq .leaf (.seq .leaf (.seq (.seq .leaf (.block (.loop [(3,.i),(4,.i)] (.seq (.seq .leaf (.cond .leaf .leaf)) (.seq (.block .leaf) .leaf))))) (.seq .leaf .leaf))))) ⟨(Ys Zhm (Zho n)),trivial⟩ trivial func141 rfl rfl (λ_=>rfl) (by intro a K D;kernel_rfl) a K D w hs h
theorem Zqz:EnP 141 Zft false:=Ys Zhm (λa K D w hs h=>h.elim λm h=>Zho m a K D w hs h)
def Zfu:zj:=mkE (ac z4a az) ti λa=>F.z8t a.1
theorem Zr0:EnP 68 Zfu false:=eo (cgP 9 [(140,Zfs),(141,Zft)] [] [] [1]) (.q (.s (.q (.c .w .l)) (.s (.q (.c .w .l)) .w))) func68 ⟨Zqy,Zqz,trivial⟩
def Zfv:zj:=mkE (asl az) tb λa=>F.z0h a.1
theorem Zr1:EnP 69 Zfv false:=eo (cgP 25 []) (.q (.s (.q (.b (.loop [(3,.i)] (.s (.q (.c .l .l)) (.s (.b (.q (.b (.loop [(4,.i)] (.s (.q (.c .l .l)) (.s (.b (.s (.draw [0,1,2,3,4,5,6,7,8]) (.c .w .l))) .l)))))) .l))))) .w)) func69 trivial
def Zfw:zj:=mkE (asl (ai az)) tb λa=>F.z3z a.1 a.2.1
theorem Zr2:EnP 67 Zfw false:=eo (cgP 25 []) (.q (.s (.q (.b (.loop [(5,.i)] (.s (.q (.c .l .l)) (.join [] (.b (.q (.c .w .l))) .l))))) .w)) func67 trivial
def Zfx:zj:=mkE (ac Qj (ai (ai az))) tb λa=>F.z8v a.1 a.2.1 a.2.2.1
theorem Zr3:EnP 34 Zfx false:=eo (cgP 164 [(66,Zfd),(68,Zfu),(69,Zfv),(67,Zfw)] [] [(13,3),(21,3),(24,7),(29,3),(32,7),(37,3),(40,7),(45,3),(52,3),(59,3),(65,3),(72,7),(75,3),(80,3),(85,7),(89,3),(94,3),(96,3),(160,3)] [3,7]) (.q (.q (.join [] (.q (.c .w .l)) (.s (.q (.b (.loop [(9,.i)] (.s (.q (.c .l .l)) (.s (.b (.q (.c .w .l))) .l))))) (.join [] (.q (.c .w .l)) (.q (.s (.q (.b (.join [(98,.b)] (.q (.c .l (.q (.c .l (.q (.c .l .l)))))) (.c (.join [(11,.b)] (.draw [0,1,2,3,4,5,6,7,8,9,10,11,12,13,14,15,16,17,18,19,20,21,22,23,24,25,26,27,28,29,30,31,32,33,34]) (.s (.draw [0,1,2,3,4,5,6,7,8,9,10,11,12,13,14,15,16,17,18,19,20]) .l)) .l)))) .w))))))) func34 ⟨Zqj,Zr0,Zr1,Zr2,trivial⟩
def Zfy:zj:=mkE (ac Qf az) ti λa=>F.z62 a.1
theorem Zr4:EnP 10 Zfy false:=eo (cgP 191 [(29,Zpy),(30,Z6e),(31,Z6o),(32,Z6v),(33,Zfb),(34,Zfx)] [] [(15,1),(23,1),(32,1),(42,1),(48,1),(54,6),(59,6),(65,6),(71,1),(77,1),(83,8),(89,8),(95,8),(97,8),(102,1),(108,1),(113,1),(116,10),(122,10),(129,10),(135,10),(137,1),(139,10),(147,10),(149,1),(151,10),(159,1),(166,1),(174,1),(180,1),(186,1)] [1,6,8,10]) (.q (.s (.q (.c .w .l)) (.q (.s (.q (.b (.loop [(4,.i)] (.s (.q (.c .l .l)) (.join [] (.b (.q (.c .w .l))) .l))))) (.s (.q (.b (.loop [(5,.i)] (.s (.q (.c .l .l)) (.join [] (.b (.q (.q (.c .w .l)))) .l))))) (.s (.q (.b (.loop [(7,.i)] (.s (.q (.c .l .l)) (.join [] (.b (.q (.q (.c .w .l)))) .l))))) (.s (.q (.b (.loop [(9,.i)] (.s (.q (.c .l .l)) (.join [] (.b (.q (.s (.draw [0,1,2,3,4,5,6,7,8,9,10,11,12,13,14,15,16,17,18,19,20,21,22,23,24,25,26,27,28,29,30,31,32,33,34,35,36,37,38,39,40,41,42,43,44]) (.c .w .l)))) .l))))) (.s (.q (.b (.loop [(11,.i)] (.s (.q (.c .l .l)) (.s (.b (.s (.draw [0,1,2,3,4,5,6,7]) (.c .w .l))) .l))))) (.s (.q (.b (.loop [(12,.i)] (.s (.q (.c .l .l)) (.s (.b (.s (.draw [0,1,2,3,4,5,6,7,8,9,10]) (.c .w .l))) .l))))) .w))))))))) func10 ⟨Zsq,Zhb,Zhc,Zhd,Zqh,Zr3,trivial⟩
def Zfz:zj:=mkE (asl az) tb λa=>F.z4v a.1
theorem Zr5:EnP 143 Zfz false:=eo (cgP 6 []) (.q .w) func143 trivial
def Zg0:zj:=mkE (asl (P6 143 az)) ti λa=>F.yq a.1
theorem Zr6:EnP 208 Zg0 false:=eo (cgP 19 [(143,Zfz)]) (.q (.s (.q (.b (.loop [(8,.i)] (.q (.s (.c .l .l) (.s (.b (.q (.q (.c .w .l)))) .l)))))) .w)) func208 ⟨Zr5,trivial⟩
def Zg1:zj:=mkE (asl (P6 143 az)) tb λa=>F.ye a.1
theorem Zr7:EnP 142 Zg1 false:=eo (cgP 9 [(208,Zg0)]) (.q .w) func142 ⟨Zr6,trivial⟩
def Zg2:zj:=mkE (ac Qf az) tb λa=>F.z42 a.1
theorem Zr8:EnP 70 Zg2 false:=eo (cgP 35 [(142,Zg1)] [] [(5,1),(8,1),(11,1),(14,1),(17,1),(20,1),(32,1)] [1]) (.q (.s (.q (.b (.loop [(25,.i)] (.q (.s (.c .l .l) (.s (.b (.q (.q (.c .w .l)))) .l)))))) .w)) func70 ⟨Zr7,trivial⟩
def Zg3:zj:=mkE (ac Zv az) tb λa=>F.z2g a.1
theorem Zr9:EnP 146 Zg3 false:=eo (cgP 27 [] [] [(4,1),(10,1),(18,1)] [1]) (.q (.q .w)) func146 trivial
def z7o:zj:=mkE (asl az) ts λa=>F.zy a.1
theorem z91:EnP 210 z7o false:=eo (cgP 21 []) (.q (.s (.b (.loop [(0,.s)] (.join [] (.q (.c .l .l)) (.b .l)))) .w)) func210 trivial
def zz1:zj:=mkE (ac Zv az) ti λa=>F.Vb a.1
theorem Zby:EnP 147 zz1 false:=eo (cgP 12 [(210,z7o)] [] [(4,1),(10,1)] [1]) (.q (.s (.b (.q (.c .w (.q (.c .w .l))))) .w)) func147 ⟨z91,trivial⟩
def zn7:zj:=mkE (asl az) ts λa=>F.Zi a.1
theorem ztn:EnP 213 zn7 false:=eo (cgP 8 []) (.q (.s (.q (.c .w .l)) .w)) func213 trivial
def zk5:zj:=mkE (ac tb (asl az)) Zv λa=>F.y9 a.1 a.2.1
theorem zo2:EnP 212 zk5 false:=eo (cgP 14 [(210,z7o)] [] [] [4]) (.q (.q (.s (.q (.c .w .l)) .w))) func212 ⟨z91,trivial⟩
def Z8y:zj:=mkE (asl az) (Ty.clo 316) λa=>F.Yc a.1
theorem Zhg:EnP 279 Z8y false:=eo (cgP 4 []) (.q .w) func279 trivial
def Z8z:zj:=mkE (asl az) (Ul (.int .u64)) λa=>F.Xo a.1
theorem Zhh:EnP 214 Z8z false:=eo { P:=prog,n:=16,tab:=[(279,Z8y)],locL:=[3],backs:=[(316,(.leaf (.int .u32)))] } (.q (.q (.s (.q (.b (.back [(3,.box [.int .u64])] .l (.b .l)))) .w))) func214 ⟨Zhg,trivial⟩ ⟨Z34,trivial⟩
def zrs:zj:=mkE (ac (Ul (.int .u64)) az) ts λa=>F.qa a.1
theorem zzv:EnP 215 zrs false:=eo (cgP 10 [(210,z7o)]) (.q .w) func215 ⟨z91,trivial⟩
def Zg4:zj:=mkE (ai az) tb λa=>F.z2a a.1
theorem Zra:EnP 224 Zg4 false:=eo (cgP 6 []) (.q .w) func224 trivial
def zrt:zj:=mkE (ai (ai az)) ti λa=>F.Q8 a.1 a.2.1
theorem zzw:EnP 169 zrt false:=eo (cgP 20 [(224,Zg4)]) (.q (.q (.q (.s (.q (.c (.s (.q (.c .w .l)) .w) .l)) (.s (.q (.c .w .l)) (.s (.q (.c .w .l)) (.s (.q (.c .w .l)) .w))))))) func169 ⟨Zra,trivial⟩
def Zg5:zj:=mkE (ac (Ul (.int .u32)) az) tb λa=>F.Vu a.1
theorem Zrb:EnP 348 Zg5 false:=eo (cgP 6 []) (.q .w) func348 trivial
def Zg6:zj:=mkE (ac (Ul (.int .u32)) (ac (Ul (.int .u32)) az)) ti λa=>F.V8 a.1 a.2.1
theorem Zrc:EnP 315 Zg6 false:=eo (cgP 20 [(348,Zg5)]) (.q (.q (.q (.s (.q (.c (.s (.q (.c .w .l)) .w) .l)) (.s (.q (.c .w .l)) (.s (.q (.c .w .l)) (.s (.q (.c .w .l)) .w))))))) func315 ⟨Zrb,trivial⟩
def zz2:zj:=mkE (asl (asl az)) ti λa=>F.Xx a.1 a.2.1
theorem Zbz:EnP 272 zz2 false:=eo (cgP 41 [(169,zrt),(315,Zg6)]) (.q (.s (.q (.c .w .l)) (.s (.q (.b (.loop [(5,.i)] (.s (.q (.c .l .l)) (.s (.b (.s (.draw [0,1,2,3,4,5,6,7,8]) (.c (.s (.draw [0,1,2,3,4,5,6,7,8,9]) .l) .l))) .l))))) .w))) func272 ⟨zzw,Zrc,trivial⟩
def Zg7:zj:=mkE (asl (ac (Ul (.int .u32)) az)) (t2 ts ts) λa=>F.z01 a.1 a.2.1
theorem Zrd:EnP 273 Zg7 false:=eo (cgP 43 [(210,z7o),(215,zrs)]) (.q (.q (.q (.s (.q (.b (.loop [(7,.leaf (.int .u64)),(8,.i)] (.s (.q (.c .l .l)) (.s (.b (.q .w)) .l))))) .w)))) func273 ⟨z91,zzv,trivial⟩
def Zg8:zj:=mkE (ac (Ul (.int .u32)) az) ti λa=>F.z2s a.1
theorem Zre:EnP 243 Zg8 false:=eo (cgP 19 []) (.q (.join [(0,.leaf (.int .u32)),(2,.i)] (.q (.c .w .l)) (.join [(0,.leaf (.int .u32)),(2,.i)] (.q (.c .w .l)) .w))) func243 trivial
def Zg9:zj:=mkE (ac (Ul (.int .u32)) az) ti λa=>F.Xh a.1
theorem Zrf:EnP 274 Zg9 false:=eo (cgP 6 [(243,Zg8)]) (.q .w) func274 ⟨Zre,trivial⟩
def Zga:zj:=mkE (asl (ai az)) ts λa=>F.Xv a.1 a.2.1
theorem Zrg:EnP 275 Zga false:=eo (cgP 41 []) (.q (.q (.s (.q (.b (.loop [(15,.i)] (.q (.s (.c .l .l) (.s (.b (.q (.q .w))) .l)))))) .w))) func275 trivial
def Zgb:zj:=mkM (asl (asl (ac (Ul (.int .u64)) az))) tb λa=>F.z1j a.1 a.2.1 a.2.2.1
theorem Zrh:EnP 276 Zgb true:=eoM (cgP 63 []) (.q (.q (.s (.q (.b (.loop [(7,.leaf (.int .u64)),(15,.i)] (.q (.s (.c .l .l) (.s (.b (.q (.q (.q .w)))) .l)))))) (.q (.q .w))))) func276 trivial
def Zgc:zj:=mkM (asl (asl az)) tu λa=>F.z2r a.1 a.2.1
theorem Zri:EnP 277 Zgc true:=eoM (cgP 41 []) (.q (.s (.q (.b (.loop [(4,.leaf (.int .u64)),(9,.i)] (.q (.s (.c .l .l) (.s (.b (.q (.q .w))) .l)))))) .l)) func277 trivial
def Zgd:zj:=mkE (asl (ai az)) ts λa=>F.z02 a.1 a.2.1
theorem Zrj:EnP 278 Zgd false:=eo (cgP 47 []) (.q (.q (.s (.q (.b (.loop [(13,.i)] (.q (.s (.c .l .l) (.join [] (.b (.q (.q (.q (.c (.draw [0,1,2,3,4,5,6,7,8,9,10,11,12,13,14,15,16]) .l))))) .l)))))) .w))) func278 trivial
def Z90:zj:=mkE (asl (asl az)) (t2 ts ts) λa=>F.Wi a.1 a.2.1
theorem Zhi:EnP 211 Z90 false:=eo (cgP 177 [(272,zz2),(213,zn7),(214,Z8z),(215,zrs),(273,Zg7),(274,Zg9),(275,Zga),(210,z7o),(276,Zgb),(277,Zgc),(278,Zgd)] [276,277]) (.q (.s (.b (.q (.c .w (.q (.c (.q (.s (.draw [0,1,2,4,5,6,3,7,8,9]) .l)) (.q (.c .w .l))))))) (.q (.q (.q (.q (.s (.draw [0,1,2,3,4,5,6,7,8,9,10,11,12,13]) (.s (.q (.b (.loop [(15,.i)] (.s (.q (.c .l .l)) (.s (.b (.s (.draw [0,1,2,3,4,5,6,7,8,9,10,11,12,13,14,15,16,17]) (.s (.draw [0,1,2,3,4,5,6,7]) (.join [(17,.leaf (.int .u64))] (.b (.loop [(17,.leaf (.int .u64)),(18,.leaf (.int .u64))] (.join [] (.q (.c .l .l)) (.b (.q (.q (.q (.c .l .l)))))))) (.join [(17,.leaf (.int .u64))] (.q (.c .w .l)) .l))))) .l))))) (.s (.draw [0,2,3,4,6,1,5,7,8,9,10]) .l))))))))) func211 ⟨Zbz,ztn,Zhh,zzv,Zrd,Zrf,Zrg,z91,Zrh,Zri,Zrj,trivial⟩
def Z91:zj:=mkE (ac Zv (ac Zv az)) Zv λa=>F.z35 a.1 a.2.1
theorem Zhj:EnP 149 Z91 false:=eo (cgP 57 [(210,z7o),(213,zn7),(212,zk5),(214,Z8z),(215,zrs),(211,Z90)] [] [(11,2),(14,3)] [2,3,4]) (.q (.s (.draw [0,1,3,4,2,5,6,7]) (.join [(5,.s),(6,.s)] (.b (.loop [(5,.s),(6,.s)] (.join [] (.q (.c .l .l)) (.b .w)))) (.s (.q (.c .w .l)) (.q (.s (.b (.loop [(9,.leaf (.int .u64)),(10,.leaf (.int .u64))] (.s (.q (.c .l .l)) (.b (.draw [0,1,2,3,4,5]))))) .w)))))) func149 ⟨z91,ztn,zo2,Zhh,zzv,Zhi,trivial⟩
def zru:zj:=mkE (ac Zv az) tb λa=>F.Q5 a.1
theorem zzx:EnP 148 zru false:=eo (cgP 19 [] [] [(3,1),(7,1),(13,1)] [1]) (.q .w) func148 trivial
def zn8:zj:=mkE (ac qi az) tb λa=>F.Qg a.1
theorem zto:EnP 73 zn8 false:=eo (cgP 25 [(146,Zg3),(147,zz1),(149,Z91),(148,zru)] [] [(3,1),(7,1),(12,1),(18,1),(20,1)] [1]) (.q .w) func73 ⟨Zr9,Zby,Zhj,zzx,trivial⟩
end Den
end

noncomputable section
set_option maxRecDepth 100000
namespace Den
open Go Go.Proofs.Tryz
def Zge:zj:=mkE (ac ztt az) tb λa=>F.z83 a.1
theorem Zrk:EnP 72 Zge false:=eo (cgP 11 [(73,zn8)] [] [(3,1),(7,1)] [1]) (.q .w) func72 ⟨zto,trivial⟩
def Zgf:zj:=mkE (ac ztt (ap az)) tb λa=>F.qo a.1 a.2.1
theorem Zrl:EnP 145 Zgf false:=eo { P:=prog,n:=8,tab:=[(72,Zge)],locL:=[2],fnL:=[(4,72,0)] } (.q .w) func145 ⟨Zrk,trivial⟩
def Zgg:zj:=mkE (asl (G3 145 1 az)) ti λa=>F.Zk a.1 a.2.1
theorem Zrm:EnP 209 Zgg false:=eo (cgP 19 [(145,Zgf)]) (.q (.s (.q (.b (.loop [(8,.i)] (.q (.s (.c .l .l) (.s (.b (.q (.q (.c .w .l)))) .l)))))) .w)) func209 ⟨Zrl,trivial⟩
def Zgh:zj:=mkE (asl (G3 145 1 az)) tb λa=>F.Ze a.1 a.2.1
theorem Zrn:EnP 144 Zgh false:=eo (cgP 9 [(209,Zgg)]) (.q .w) func144 ⟨Zrm,trivial⟩
def Zgi:zj:=mkE (asl (P6 72 az)) tb λa=>F.Yy a.1
theorem Zro:EnP 71 Zgi false:=eo (cgP 9 [(144,Zgh)]) (.q .w) func71 ⟨Zrn,trivial⟩
def zrv:zj:=mkE (ai (ai az)) tb λa=>F.Vq a.1 a.2.1
theorem zzy:EnP 76 zrv false:=eo (cgP 12 []) (.q .w) func76 trivial
def zn9:zj:=mkE (ac qi az) ti λa=>F.Q0 a.1
theorem ztp:EnP 77 zn9 false:=eo (cgP 6 [(147,zz1)] [] [(3,1)] [1]) (.q .w) func77 ⟨Zby,trivial⟩
def Zgj:zj:=mkE (ac ztu (ap az)) tb λa=>F.z84 a.1 a.2.1
theorem Zrp:EnP 75 Zgj false:=eo (cgP 19 [(76,zrv),(73,zn8),(77,zn9)] [] [(5,2),(9,2),(14,2)] [2]) (.q .w) func75 ⟨zzy,zto,ztp,trivial⟩
def Zgk:zj:=mkE (ac ztu (ap az)) tb λa=>F.qp a.1 a.2.1
theorem Zrq:EnP 151 Zgk false:=eo { P:=prog,n:=8,tab:=[(75,Zgj)],locL:=[2],fnL:=[(4,75,1)] } (.q .w) func151 ⟨Zrp,trivial⟩
def Zgl:zj:=mkE (asl (G3 151 1 az)) ti λa=>F.Zl a.1 a.2.1
theorem Zrr:EnP 216 Zgl false:=eo (cgP 19 [(151,Zgk)]) (.q (.s (.q (.b (.loop [(8,.i)] (.q (.s (.c .l .l) (.s (.b (.q (.q (.c .w .l)))) .l)))))) .w)) func216 ⟨Zrq,trivial⟩
def Zgm:zj:=mkE (asl (G3 151 1 az)) tb λa=>F.Zf a.1 a.2.1
theorem Zrs:EnP 150 Zgm false:=eo (cgP 9 [(216,Zgl)]) (.q .w) func150 ⟨Zrr,trivial⟩
def Zgn:zj:=mkE (asl (G3 75 1 az)) tb λa=>F.Yz a.1 a.2.1
theorem Zrt:EnP 74 Zgn false:=eo (cgP 9 [(150,Zgm)]) (.q .w) func74 ⟨Zrs,trivial⟩
def Zgo:zj:=mkE (ac zm4 (ap az)) tb λa=>F.z85 a.1 a.2.1
theorem Zru:EnP 79 Zgo false:=eo (cgP 21 [(76,zrv)] [] [(5,2),(10,2),(15,2),(17,2)] [2]) (.q .w) func79 ⟨zzy,trivial⟩
def Zgp:zj:=mkE (ac zm4 (ap az)) tb λa=>F.qd a.1 a.2.1
theorem Zrv:EnP 153 Zgp false:=eo { P:=prog,n:=8,tab:=[(79,Zgo)],locL:=[2],fnL:=[(4,79,1)] } (.q .w) func153 ⟨Zru,trivial⟩
def Zgq:zj:=mkE (asl (G3 153 1 az)) ti λa=>F.Zb a.1 a.2.1
theorem Zrw:EnP 217 Zgq false:=eo (cgP 19 [(153,Zgp)]) (.q (.s (.q (.b (.loop [(8,.i)] (.q (.s (.c .l .l) (.s (.b (.q (.q (.c .w .l)))) .l)))))) .w)) func217 ⟨Zrv,trivial⟩
def Zgr:zj:=mkE (asl (G3 153 1 az)) tb λa=>F.Za a.1 a.2.1
theorem Zrx:EnP 152 Zgr false:=eo (cgP 9 [(217,Zgq)]) (.q .w) func152 ⟨Zrw,trivial⟩
def Zgs:zj:=mkE (asl (G3 79 1 az)) tb λa=>F.Yk a.1 a.2.1
theorem Zry:EnP 78 Zgs false:=eo (cgP 9 [(152,Zgr)]) (.q .w) func78 ⟨Zrx,trivial⟩
def Zgt:zj:=mkE (ac Qf (ac zyd az)) tb λa=>F.z2v a.1 a.2.1
theorem Zrz:EnP 82 Zgt false:=eo (cgP 48 [(76,zrv)] [] [(6,2),(9,3),(14,2),(17,3),(23,2),(26,3),(31,2),(33,3),(38,3),(43,3)] [2,3]) (.q (.join [] (.q (.c .w .l)) (.q .w))) func82 ⟨zzy,trivial⟩
def Zgu:zj:=mkE (ac zyd (ap az)) tb λa=>F.z86 a.1 a.2.1
theorem Zs0:EnP 81 Zgu false:=eo (cgP 7 [(82,Zgt)] [] [] [2]) (.q .w) func81 ⟨Zrz,trivial⟩
def Zgv:zj:=mkE (ac zyd (ap az)) tb λa=>F.Qh a.1 a.2.1
theorem Zs1:EnP 155 Zgv false:=eo { P:=prog,n:=8,tab:=[(81,Zgu)],locL:=[2],fnL:=[(4,81,1)] } (.q .w) func155 ⟨Zs0,trivial⟩
def Zgw:zj:=mkE (asl (G3 155 1 az)) ti λa=>F.Zq a.1 a.2.1
theorem Zs2:EnP 218 Zgw false:=eo (cgP 19 [(155,Zgv)]) (.q (.s (.q (.b (.loop [(8,.i)] (.q (.s (.c .l .l) (.s (.b (.q (.q (.c .w .l)))) .l)))))) .w)) func218 ⟨Zs1,trivial⟩
def Z3s:zj:=mkE (asl (G3 155 1 az)) tb λa=>F.Zm a.1 a.2.1
theorem Zk8:EnP 154 Z3s false:=eo (cgP 9 [(218,Zgw)]) (.q .w) func154 ⟨Zs2,trivial⟩
def Z3t:zj:=mkE (asl (G3 81 1 az)) tb λa=>F.Y8 a.1 a.2.1
theorem Zk9:EnP 80 Z3t false:=eo (cgP 9 [(154,Z3s)]) (.q .w) func80 ⟨Zk8,trivial⟩
def Z3u:zj:=mkE (ac Qf (ac zts az)) (t2 ti ti) λa=>F.z65 a.1 a.2.1
theorem Zka:EnP 157 Z3u false:=eo (cgP 44 [] [] [(8,3),(10,2),(12,3),(17,2),(19,3),(24,2),(26,3),(31,2),(33,3),(38,3)] [2,3]) (.q (.q (.join [(6,.i),(7,.i)] (.q (.c (.draw [0,1,2,3,4,5,6,7,8,9,10,11,12,13,14,15]) (.draw [0,1,2,3,4,5,6,7,8,9,10,11,12,13,14,15]))) (.s (.q (.c .w .l)) .w)))) func157 trivial
def Z3v:zj:=mkE (ac Qf (asl az)) tb λa=>F.z0s a.1 a.2.1
theorem Zkb:EnP 85 Z3v false:=eo (cgP 49 [(76,zrv),(157,Z3u)] [] [(18,2),(21,7),(23,2),(27,7)] [2,7]) (.q (.q (.s (.q (.b (.loop [(5,.i),(13,.i)] (.q (.s (.c .l .l) (.join [(5,.i)] (.b (.q (.q (.join [(8,.i)] (.q (.c .l .l)) (.s (.q (.c .w .l)) (.q (.s (.q (.c .w .l)) .l))))))) .l)))))) .w))) func85 ⟨zzy,Zka,trivial⟩
def Z3w:zj:=mkE (asl (ap az)) tb λa=>F.z87 a.1 a.2.1
theorem Zkc:EnP 84 Z3w false:=eo (cgP 7 [(85,Z3v)]) (.q .w) func84 ⟨Zkb,trivial⟩
def Z3x:zj:=mkE (asl (ap az)) tb λa=>F.qn a.1 a.2.1
theorem Zkd:EnP 156 Z3x false:=eo { P:=prog,n:=8,tab:=[(84,Z3w)],fnL:=[(4,84,1)] } (.q .w) func156 ⟨Zkc,trivial⟩
def Z3y:zj:=mkE (asl (G3 156 1 az)) ti λa=>F.Zj a.1 a.2.1
theorem Zke:EnP 208 Z3y false:=eo (cgP 19 [(156,Z3x)]) (.q (.s (.q (.b (.loop [(8,.i)] (.q (.s (.c .l .l) (.s (.b (.q (.q (.c .w .l)))) .l)))))) .w)) func208 ⟨Zkd,trivial⟩
def Z3z:zj:=mkE (asl (G3 156 1 az)) tb λa=>F.Zd a.1 a.2.1
theorem Zkf:EnP 142 Z3z false:=eo (cgP 9 [(208,Z3y)]) (.q .w) func142 ⟨Zke,trivial⟩
def Z40:zj:=mkE (asl (G3 84 1 az)) tb λa=>F.Yx a.1 a.2.1
theorem Zkg:EnP 83 Z40 false:=eo (cgP 9 [(142,Z3z)]) (.q .w) func83 ⟨Zkf,trivial⟩
def zvf:zj:=mkE (ai az) (t2 ze3 tb) λa=>F.Wf a.1
theorem Zaz:EnP 160 zvf false:=eo (cgP 15 [] [] [] [2]) (.q (.join [(2,.box [.int .i64,.int .i64,.int .i64,.int .i64,.bool,.bool,.bool])] (.q (.c .w .l)) .w)) func160 trivial
def zow:zj:=mkE (ai az) Zv λa=>F.W5 a.1
theorem zxq:EnP 197 zow false:=eo (cgP 15 [(215,zrs),(212,zk5)] [] [] [2]) (.q (.q (.join [(3,.leaf (.int .u64))] (.q (.c .l .l)) .w))) func197 ⟨zzv,zo2,trivial⟩
def zox:zj:=mkE az Zv λa=>F.z1q
theorem zxr:EnP 198 zox false:=eo (cgP 2 [(197,zow)] [] [] [0]) (.q .w) func198 ⟨zxq,trivial⟩
def zem:zj:=mkE (ai az) qi λa=>F.qm a.1
theorem zhl:EnP 133 zem false:=eo (cgP 7 [(197,zow),(198,zox)] [] [] [2]) (.q .w) func133 ⟨zxq,zxr,trivial⟩
def zvg:zj:=mkE (ac Zv (ac Zv az)) ti λa=>F.z5u a.1 a.2.1
theorem Zb0:EnP 317 zvg false:=eo (cgP 26 [(147,zz1),(169,zrt),(210,z7o),(272,zz2)] [] [(18,2),(21,3)] [2,3]) (.q (.s (.draw [0,2,1,3,4,5]) (.s (.q (.c .w .l)) (.s (.draw [0,1,2,4,5,3,6,7,8,9]) .l)))) func317 ⟨Zby,zzw,z91,Zbz,trivial⟩
def Z42:zj:=mkE (asl (asl az)) ts λa=>F.z2h a.1 a.2.1
theorem Zkh:EnP 365 Z42 false:=eo (cgP 75 [(210,z7o)]) (.q (.join [] (.q (.c .w .l)) (.q (.s (.q (.b (.loop [(27,.i)] (.q (.s (.c .l .l) (.s (.b (.q (.q (.s (.q (.b (.loop [(8,.leaf (.int .u64)),(34,.i)] (.q (.s (.c .l .l) (.s (.b (.q (.q .w))) .l)))))) .l)))) .l)))))) .w)))) func365 ⟨z91,trivial⟩
def zk2:zj:=mkE (ac Zv (ac Zv az)) Zv λa=>F.Qw a.1 a.2.1
theorem zqh:EnP 349 zk2 false:=eo (cgP 18 [(210,z7o),(365,Z42),(212,zk5)] [] [(5,2),(7,3),(10,2),(13,3)] [2,3,4]) (.q (.s (.draw [0,1,2,3,4,5,6,8,9,7,10,11,12,13]) .l)) func349 ⟨z91,Zkh,zo2,trivial⟩
def zvh:zj:=mkE (asl (asl az)) ts λa=>F.z1i a.1 a.2.1
theorem Zb1:EnP 390 zvh false:=eo (cgP 58 [] [] [] [45,55]) (.q (.join [(0,.s),(1,.s)] (.q (.c .l .l)) (.q (.q (.s (.q (.b (.loop [(5,.s),(6,.leaf (.int .u64)),(22,.i)] (.q (.s (.c .l .l) (.s (.b (.q (.q (.join [(6,.leaf (.int .u64))] (.q (.c .l .l)) .w)))) .l)))))) (.s (.q (.c .l .l)) .w)))))) func390 trivial
def zvi:zj:=mkE (asl (asl az)) ts λa=>F.Vj a.1 a.2.1
theorem Zb2:EnP 391 zvi false:=eo (cgP 45 [(210,z7o)]) (.q (.q (.q (.s (.q (.b (.loop [(6,.leaf (.int .u64)),(15,.i)] (.q (.s (.c .l .l) (.s (.b (.q (.q (.join [(9,.leaf (.int .u64))] (.q (.c .l .l)) .w)))) .l)))))) .w)))) func391 ⟨z91,trivial⟩
def Z43:zj:=mkE (ac Zv (ac Zv az)) (t3 Zv Zv ti) λa=>F.z3o a.1 a.2.1
theorem Zki:EnP 380 Z43 false:=eo (cgP 53 [(210,z7o),(211,Z90),(212,zk5),(390,zvh),(391,zvi)] [] [(10,3),(19,2),(26,2),(28,3),(42,2),(44,3),(49,3)] [2,3,4,5]) (.q (.q (.s (.q (.c .w .l)) (.q (.join [(8,.s),(9,.s)] (.q (.c .w .l)) (.s (.draw [0,1,2,3,4,5,7,8,9,6,10,11,12,13]) .l)))))) func380 ⟨z91,Zhi,zo2,Zb1,Zb2,trivial⟩
end Den
end

noncomputable section
set_option maxRecDepth 100000
namespace Den
open Go Go.Proofs.Tryz
def Z44:zj:=mkE (ac Zv (ac Zv az)) Zv λa=>F.z3v a.1 a.2.1
theorem Zkj:EnP 366 Z44 false:=eo (cgP 19 [(148,zru),(380,Z43)] [] [] [2,3,4,5,6]) (.q (.s (.q (.c .w .l)) (.q .w))) func366 ⟨zzx,Zki,trivial⟩
def zvj:zj:=mkE (ac Zv az) Zv λa=>F.z5v a.1
theorem Zb3:EnP 339 zvj false:=eo (cgP 11 [(210,z7o),(213,zn7),(212,zk5)] [] [(3,1),(6,1)] [1,2]) (.q (.s (.draw [0,1,2,3,4,5,6,7,8]) .l)) func339 ⟨z91,ztn,zo2,trivial⟩
def zoy:zj:=mkE (ac Zv (ac Zv az)) qi λa=>F.W6 a.1 a.2.1
theorem zxs:EnP 350 zoy false:=eo (cgP 20 [(149,Z91),(366,Z44),(339,zvj)] [] [(9,3)] [2,3,4,5]) (.q (.q (.join [(5,.box [.bool,.sl])] (.q (.c .l .l)) (.s (.draw [0,1,3,4,2,5,6,7]) .l)))) func350 ⟨Zhj,Zkj,Zb3,trivial⟩
def zvk:zj:=mkE (ac qi (ac qi az)) qi λa=>F.z3u a.1 a.2.1
theorem Zb4:EnP 318 zvk false:=eo (cgP 31 [(349,zk2),(350,zoy),(148,zru),(198,zox)] [] [(5,2),(9,3),(13,2),(15,3),(20,2),(22,3),(25,2),(27,3)] [2,3,4]) (.q (.join [(4,.box [.bool,.sl,.bool,.sl])] (.q (.c .w .l)) (.s (.draw [0,1,2,3,5,6,7,8,4,9,10,11]) .l))) func318 ⟨zqh,zxs,zzx,zxr,trivial⟩
def Z45:zj:=mkE (ai az) (Ul .str) λa=>F.z03 a.1
theorem Zkk:EnP 382 Z45 false:=eo (cgP 15 []) (.q (.s (.q (.c .w .l)) .w)) func382 trivial
def Z46:zj:=mkE (ac (Ul (.int .u64)) az) ti λa=>F.z2t a.1
theorem Zkl:EnP 244 Z46 false:=eo (cgP 25 []) (.q (.join [(0,.leaf (.int .u64)),(2,.i)] (.q (.c .w .l)) (.join [(0,.leaf (.int .u64)),(2,.i)] (.q (.c .w .l)) (.join [(0,.leaf (.int .u64)),(2,.i)] (.q (.c .w .l)) .w)))) func244 trivial
def Z47:zj:=mkE (ai az) ti λa=>F.Wk a.1
theorem Zkm:EnP 394 Z47 false:=eo (cgP 6 []) (.q .w) func394 trivial
def Z48:zj:=mkE (ac tb az) ti λa=>F.Wj a.1
theorem Zkn:EnP 395 Z48 false:=eo (cgP 4 []) (.q (.s (.q (.c .w .l)) .w)) func395 trivial
def Z49:zj:=mkE (ac (Ul (.int .u64)) az) ti λa=>F.Q3 a.1
theorem Zko:EnP 383 Z49 false:=eo (cgP 15 [(244,Z46),(394,Z47),(395,Z48)]) (.q (.q .w)) func383 ⟨Zkl,Zkm,Zkn,trivial⟩
def Z4a:zj:=mkM (asl (ac (Ul (.int .u64)) az)) tu λa=>F.Qa a.1 a.2.1
theorem Zkp:EnP 384 Z4a true:=eoM (cgP 167 []) (.q (.s (.b (.loop [(1,.leaf (.int .u64)),(4,.i)] (.s (.q (.c .l .l)) (.b (.q (.q (.q (.q (.q (.s (.draw [0,1,2,3,4,5,6,7,8,9,10,11,12,13,14]) (.s (.draw [0,1,2,3,4,5,6,7,8,9,10,11,12,13,14]) (.s (.draw [0,1,2,3,4,5,6,7,8,9,10,11,12,13,14]) (.s (.draw [0,1,2,3,4,5,6,7,8,9,10,11,12,13,14]) .l))))))))))))) (.q (.join [(4,.i),(12,.leaf (.int .u32))] (.q (.c (.q (.q (.q (.s (.draw [0,1,2,3,4,5,6,7,8,9,10,11,12,13,14]) (.s (.draw [0,1,2,3,4,5,6,7,8,9,10,11,12,13,14]) .l))))) .l)) (.join [(4,.i),(12,.leaf (.int .u32))] (.q (.c (.q (.q (.s (.draw [0,1,2,3,4,5,6,7,8,9,10,11,12,13,14]) .l))) .l)) (.q (.c .l .l))))))) func384 trivial
def Z4b:zj:=mkE (ac (Ul (.int .u64)) (ai az)) (Ul .str) λa=>F.X7 a.1 a.2.1
theorem Zkq:EnP 368 Z4b false:=eo (cgP 32 [(382,Z45),(383,Z49),(384,Z4a)] [384]) (.q (.s (.q (.c (.s (.q (.c .w .l)) (.q (.q (.q .w)))) .l)) (.q .w))) func368 ⟨Zkk,Zko,Zkp,trivial⟩
def Z4c:zj:=mkE (ac (Ul (.int .u64)) (ai az)) (Ul .str) λa=>F.Wt a.1 a.2.1
theorem Zkr:EnP 352 Z4c false:=eo (cgP 8 [(368,Z4b)]) (.q .w) func352 ⟨Zkq,trivial⟩
def z6n:ArgT ((Option Addr)×Unit):=(ap az)
def X2:Ty Unit:=tu
def X6:zj:=mkM z6n X2 (λa=>F.Xb a.1)
set_option maxHeartbeats 1000000 in
set_option maxRecDepth 100000 in
theorem z6f(b:Nat)(w:World)(h0:w.cell? ⟨b,0,none⟩=some (.pointer (some ⟨b,0,none⟩))) :
 Calls Go.Proofs.Tryz.prog 367 #[.pointer (some ⟨b,0,none⟩)] w λe w'=>e=.returned (.tuple #[])/\w'=w:=by
 obtain⟨j,hj,_⟩:=Option.map_eq_some_iff.1 (show(Go.Proofs.Tryz.prog.info? 364).map (·.size)=some 2 by kernel_rfl)
 go_enter Go.Proofs.Tryz.func367,Go.Proofs.Tryz.ntmps367
 go_wp2
 rw[Lib.run_neq_ptr_same w _ Go.Proofs.Tryz.underlying362 hj]
 go_wp2
 go_end0
 exact⟨rfl,rfl⟩
set_option maxHeartbeats 1000000 in
set_option maxRecDepth 100000 in
theorem z6e(b:Nat)(w:World)(h0:w.cell? ⟨b,0,none⟩=some (.pointer none))(hsh:w.shape? b=some (364,2))(hfz:w.frozen? ⟨b,0,none⟩=false) :
 Calls Go.Proofs.Tryz.prog 367 #[.pointer (some ⟨b,0,none⟩)] w λe w'=>e=.returned (.tuple #[])/\w'=w.setCell ⟨b,0,none⟩ (.pointer (some ⟨b,0,none⟩)):=by
 obtain⟨j,hj,hjs⟩:=Option.map_eq_some_iff.1 (show(Go.Proofs.Tryz.prog.info? 364).map (·.size)=some 2 by kernel_rfl);have hli:liesAt Go.Proofs.Tryz.prog Go.Proofs.Tryz.prog.depth 364 (2/Go.Proofs.Tryz.prog.cellsOf 364) 0 364 1=true:=by kernel_rfl
 go_enter Go.Proofs.Tryz.func367,Go.Proofs.Tryz.ntmps367
 go_wp2
 rw[Lib.run_to_unsafe w ⟨b,0,none⟩ Go.Proofs.Tryz.underlying362 Go.Proofs.Tryz.underlying388 hj (by rw[hjs];decide) hsh (Nat.zero_lt_succ 1)];simp only[Result.andThen];rw[Oper.upon_value]
 go_wp2
 rw[run_callFunc_extern Go.Proofs.Tryz.func381 (by kernel_rfl) (by kernel_rfl) (by kernel_rfl) (e:=Extern.AbiNoEscape.same) (by kernel_rfl)];rw[Lib.run_noEscape];simp only[Result.andThen];rw[Oper.upon_value]
 go_wp2
 rw[Lib.run_from_unsafe w ⟨b,0,none⟩ Go.Proofs.Tryz.underlying388 Go.Proofs.Tryz.underlying362 hj hsh hli];simp only[Result.andThen];rw[Oper.upon_value]
 go_wp2
 go_end0
 exact⟨rfl,rfl⟩
theorem z0t:Entry Go.Proofs.Tryz.prog 367 X6 true:=
 z4k ⟨_,Go.Proofs.Tryz.func367,rfl,by decide⟩ (λa K D w hs hk=>by
  obtain⟨p,u⟩:=a;obtain⟨b,bl,hp,hb,he,hf,hl,hc⟩:=hk;simp only at hp;subst hp;have hw:=hs _ _ hb;have hlt:=Xl hw;rw[he,hf]at hw;rcases hc with ⟨h0,hK⟩ | ⟨h0,hK⟩
  . have c0:w.cell? ⟨b,0,none⟩=some (.pointer none):=by unfold World.cell?;simp only[hw];simp[h0]
    refine(z6e b w c0 (by simp[World.shape?,hw,hl]) (by unfold World.frozen?;simp only[hw];simp)).mono ?_;rintro e w' ⟨rfl,rfl⟩;refine⟨_,_,rfl,(X2.cmp _ _).2 hK,?_,?_,?_⟩
    . intro k c hk;rw[zcy hw];by_cases hkb:k=b
      . subst hkb;rw[Hp.ins_same]at hk;cases hk;rw[z3d hlt];simp[he,hf]
      . rw[Hp.ins_ne hkb]at hk;rw[z4u hkb];exact hs k c hk
    . rw[zcy hw];refine⟨by rw[z64];exact Ja _,λk hk1 hk2=>?_,rfl,rfl,rfl,Ja _⟩;exact z4u λhh=>by rw[hh,hb]at hk2;cases hk2
    . intro k hk1 hk2;have hkb:k≠b:=λhh=>by rw[hh,hb]at hk2;cases hk2
      rw[Hp.ins_ne hkb]at hk1;exact absurd hk2 hk1
  . have c0:w.cell? ⟨b,0,none⟩=some (.pointer (some ⟨b,0,none⟩)):=by unfold World.cell?;simp only[hw];simp[h0]
    refine(z6f b w c0).mono ?_;rintro e w' ⟨rfl,rfl⟩;exact⟨_,D,rfl,(X2.cmp _ _).2 hK,hs,Fr.refl _ _,λk h1 h2=>absurd h2 h1⟩)
def Z4d:zj:=mkM (ap (ac (Ul .str) az)) (t2 ti (Ul .val)) λa=>F.Zx a.1 a.2.1
theorem Zks:EnP 353 Z4d true:=eoM { P:=prog,n:=19,tab:=[(367,X6)],mutL:=[367],tyL:=[5] } (.q (.q (.q .w))) func353 ⟨z0t,trivial⟩
def Z4e:zj:=mkE (ac (Ul (.int .u64)) (ac (Ul (.int .u64)) az)) (Ty.tup (.cons (Ul (.int .u64)) (.cons (Ul (.int .u64)) .nil)) (λx=>(x.1,x.2,())) (λy=>(y.1,y.2.1)) (λ_=>rfl) (λ_=>rfl)) λa=>F.z6b a.1 a.2.1
theorem Zkt:EnP 370 Z4e false:=eo (cgP 51 []) (.q (.q (.q (.q (.q (.q (.q (.q (.q (.q (.q .w))))))))))) func370 trivial
def Z4f:zj:=mkE (ac (Ul (.int .u64)) (ac (Ul (.int .u64)) az)) (Ty.tup (.cons (Ul (.int .u64)) (.cons (Ul (.int .u64)) .nil)) (λx=>(x.1,x.2,())) (λy=>(y.1,y.2.1)) (λ_=>rfl) (λ_=>rfl)) λa=>F.z5c a.1 a.2.1
theorem Zku:EnP 355 Z4f false:=eo (cgP 30 [(370,Z4e)]) (.q (.s (.c (.q .w) .l) (.q .w))) func355 ⟨Zkt,trivial⟩
def Z4g:zj:=mkE (ac (Ul .str) (ac (Ul .str) az)) tb λa=>F.Xf a.1 a.2.1
theorem Zkv:EnP 371 Z4g false:=eo (cgP 18 []) (.q .w) func371 trivial
def Z4h:zj:=mkE (ac (Ul .str) (ac (Ul .str) az)) tb λa=>F.zo a.1 a.2.1
theorem Zkw:EnP 356 Z4h false:=eo (cgP 8 [(371,Z4g)]) (.q .w) func356 ⟨Zkv,trivial⟩
def zvl:zj:=mkE (ac (Ul .str) (ai az)) (Ul .str) λa=>F.V3 a.1 a.2.1
theorem Zb5:EnP 320 zvl false:=eo { P:=prog,n:=125,tab:=[(355,Z4f),(356,Z4h)],tyL:=[364] } (.q (.s (.q (.b (.q (.c .w (.q (.c .w .l)))))) (.join [] (.q (.c .l .l)) (.q (.join [] (.q (.c .l .l)) (.q (.s (.q (.c .w .l)) (.join [] (.q (.b (.join [(43,.b)] (.q (.c .l (.q (.c .l (.q (.c .l (.q (.c .l .l)))))))) (.c (.b (.q (.c .w (.q (.c .w (.q (.c .w (.q (.c .w (.q (.c .w .l))))))))))) .l)))) (.q (.join [(8,.i)] (.q (.c (.q (.q (.c .l .l))) .l)) (.q (.q (.q (.s (.b (.loop [] (.s (.q (.c .l .l)) (.b .w)))) .w)))))))))))))) func320 ⟨Zku,Zkw,trivial⟩
def z94:ArgT ((Option Addr)×Unit):=(ap az)
def Vh:Ty ByteArray:=(Ul .str)
def z2c:zj:=mkM z94 Vh (λa=>F.Wa a.1)
set_option maxHeartbeats 2000000 in
set_option maxRecDepth 100000 in
theorem z8f(b:Nat)(p:Value)(w:World)(hbk:w.heap[b]?=some (.cells #[p,.slice none 0 0] 364 (0,0))) :
 Calls Go.Proofs.Tryz.prog 354 #[.pointer (some ⟨b,0,none⟩)] w λe w'=>e=.returned (.string ⟨#[]⟩)/\w'=w.drew:=by
 have hUS:∀(W:World) (q:Option Addr),(Builtin.unsafeString_ #[380,3] 9 #[.pointer q,.int .i64 0]).run Go.Proofs.Tryz.prog W=.ok (.string .empty) W:=λW q=>Lib.run_unsafeString_none W _ _ _ q
 have c1:w.drew.cell? ⟨b,1,none⟩=some (.slice none 0 0):=by
  have:w.drew.heap[b]?=some (.cells #[p,.slice none 0 0] 364 (0,0)):=hbk;rw[Lib.cell_of_heap this];rfl
 have hSD:(Builtin.unsafeSliceData_ #[359] 380 #[.slice none 0 0]).run Go.Proofs.Tryz.prog w.drew=.ok (.pointer none) w.drew:=rfl
 go_enter Go.Proofs.Tryz.func354,Go.Proofs.Tryz.ntmps354
 go_wp2
 go_region
 all_goals (go_wp2;go_ret;exact⟨rfl,rfl⟩)
set_option maxHeartbeats 2000000 in
set_option maxRecDepth 100000 in
theorem z8g(b g cap cells:Nat)(p:Value)(l:List UInt8)(w:World)(h0:l≠[])(hbk:w.heap[b]?=some (.cells #[p,.slice (some ⟨g,0,none⟩) l.length cap] 364 (0,0)))(hc:l.length<=cap)(hsh:w.shape? g=some (5,cells))(hn:l.length<=cells)(h63:l.length<=140737488355328)
 (hcell:∀j x,l[j]?=some x->w.cell? ((⟨g,0,none⟩:Addr).add j)=some (.int .u8 x.toNat)) :
 Calls Go.Proofs.Tryz.prog 354 #[.pointer (some ⟨b,0,none⟩)] w λe w'=>e=.returned (.string ⟨l.toArray⟩)/\w'=w.drew.freeze ⟨g,0,none⟩ l.length:=by
 have hl0:l.length≠0:=by simpa using h0
 have c1:w.drew.cell? ⟨b,1,none⟩=some (.slice (some ⟨g,0,none⟩) l.length cap):=by
  have:w.drew.heap[b]?=some (.cells #[p,.slice (some ⟨g,0,none⟩) l.length cap] 364 (0,0)):=hbk;rw[Lib.cell_of_heap this];rfl
 have hSD:(Builtin.unsafeSliceData_ #[359] 380 #[.slice (some ⟨g,0,none⟩) l.length cap]).run Go.Proofs.Tryz.prog w.drew=.ok (.pointer (some ⟨g,0,none⟩)) w.drew:=
  Lib.run_unsafeSliceData_row _ _ _ _ _ _ (by omega)
 have hUS:(Builtin.unsafeString_ #[380,3] 9 #[.pointer (some ⟨g,0,none⟩),.int .i64 l.length]).run Go.Proofs.Tryz.prog w.drew=.ok (.string ⟨l.toArray⟩) (w.drew.freeze ⟨g,0,none⟩ l.length):=
  Lib.run_unsafeString_row w.drew 380 3 9 5 Go.Proofs.Tryz.underlying380 (by kernel_rfl) g cells hsh l h0 hn (by omega) hcell
 go_enter Go.Proofs.Tryz.func354,Go.Proofs.Tryz.ntmps354
 go_wp2
 go_region
 all_goals (go_wp2;go_ret;exact⟨rfl,rfl⟩)
theorem z9c:Entry Go.Proofs.Tryz.prog 354 z2c true:=
 z4k ⟨_,Go.Proofs.Tryz.func354,rfl,by decide⟩ (λa K D w hs hk=>by
  obtain⟨q,u⟩:=a;obtain⟨b,bl,p,hp,hb,he,hf,hc⟩:=hk;simp only at hp;subst hp;have hw:=hs _ _ hb;rw[he,hf]at hw;rcases hc with ⟨hcs,hK⟩ | ⟨g,c,l,bg,h0,hcs,hlc,hg,hge,hlg,h63,hall,hK⟩
  . rw[hcs]at hw;refine(z8f b p w hw).mono ?_;rintro e w' ⟨rfl,rfl⟩;exact⟨_,D,rfl,(Vh.cmp _ _).2 hK,hs,zfk D w,λk h1 h2=>absurd h2 h1⟩
  . rw[hcs]at hw;have hwg:=hs _ _ hg;rw[hge]at hwg;have hltg:=Xl hwg;refine(z8g b g c bg.cells.length p l w h0 hw hlc (by simp[World.shape?,hwg]) hlg h63 (λj x hj=>?_)).mono ?_
    . rw[z24,Gi];unfold World.cell?;simp only[hwg];simp[hall j x hj]
    . rintro e w' ⟨rfl,rfl⟩;have hsz:(w.drew.freeze ⟨g,0,none⟩ l.length).heap.size=w.heap.size:=by
       unfold World.freeze;split
       . rfl
       . simp only[Array.size_modify];rfl
      have hne:∀k,k≠g->(w.drew.freeze ⟨g,0,none⟩ l.length).heap[k]?=w.heap[k]?:=λk hk=>by
       unfold World.freeze;split
       . rfl
       . simp only[Array.getElem?_modify];rw[if_neg (λhh=>hk hh.symm)];rfl
      refine⟨_,_,rfl,(Vh.cmp _ _).2 hK,?_,?_,?_⟩
      . intro k cb hk;by_cases hkg:k=g
        . simp[hkg]at hk
        . simp only[if_neg hkg]at hk;rw[hne k hkg];exact hs k cb hk
      . refine⟨Nat.le_of_eq hsz.symm,λk hk1 hk2=>?_,?_,?_,?_,?_⟩
        . exact hne k λhh=>by rw[hh,hg]at hk2;cases hk2
        . unfold World.freeze;split<;>rfl
        . unfold World.freeze;split<;>rfl
        . unfold World.freeze;split<;>rfl
        . unfold World.freeze;split<;>exact Nat.le_succ _
      . intro k hk1 hk2;by_cases hkg:k=g
        . simp[hkg]at hk1
        . simp only[if_neg hkg]at hk1;exact absurd hk2 hk1)
def Z4i:zj:=mkM (ap (ac (Ul (.int .u8)) az)) (Ul .val) λa=>F.z1y a.1 a.2.1
theorem Zkx:EnP 351 Z4i true:=eoM { P:=prog,n:=17,tab:=[(367,X6)],mutL:=[367],locL:=[13],tyL:=[5] } (.q (.q (.q .w))) func351 ⟨z0t,trivial⟩
def Z4j:zj:=mkE (ac Zv az) (Ul .str) λa=>F.z3p a.1
theorem Zky:EnP 319 Z4j false:=eo { P:=prog,n:=74,tab:=[(210,z7o),(213,zn7),(279,Z8y),(352,Z4c),(353,Z4d),(320,zvl),(354,z2c),(351,Z4i)],mutL:=[353,354,351],rtL:=[(11,1),(51,1)],locL:=[1,4,49],backs:=[(316,(.leaf (.int .u32)))],tyL:=[364] } (.q (.q (.s (.q (.c .w .l)) (.q (.s (.b (.loop [(3,.s),(4,.box [.sl])] (.s (.q (.c .l .l)) (.b (.q (.s (.q (.b (.loop [(5,.leaf (.int .u64)),(6,.i)] (.s (.q (.c .l .l)) (.s (.b (.q .w)) .l))))) .w)))))) (.q (.join [] (.q (.c .l .l)) (.s (.q (.b (.back [] .w (.b (.q (.join [] (.q (.c .l .l)) .l)))))) .w)))))))) func319 ⟨z91,ztn,Zhg,Zkr,Zks,Zb5,z9c,Zkx,trivial⟩ ⟨Z34,trivial⟩
def Z4k:zj:=mkE (ac qi az) (t2 (Ul .str) tb) λa=>F.z2q a.1
theorem Zkz:EnP 280 Z4k false:=eo (cgP 65 [(133,zem),(197,zow),(317,zvg),(318,zvk),(319,Z4j),(320,zvl),(73,zn8),(77,zn9)] [] [(23,1),(31,1)] [1,4,5]) (.q (.join [] (.q (.c .w .l)) (.q (.q (.s (.q (.b (.loop [(1,.box [.bool,.sl,.bool,.sl]),(6,.i)] (.s (.q (.c .l .l)) (.s (.b (.s (.q (.c .w .l)) (.q (.join [(7,.leaf (.str))] (.q (.c (.join [(7,.leaf (.str))] (.q (.q (.c .l .l))) (.draw [0,1,2,3,4,5,6,7,8,9,10,11,12,13,14])) .l)) .w)))) .l))))) .w))))) func280 ⟨zhl,zxq,Zb0,Zb4,Zky,Zb5,zto,ztp,trivial⟩
def zvm:zj:=mkE (ac (Ul (.int .u8)) az) tb λa=>F.z0y a.1
theorem Zb6:EnP 321 zvm false:=eo (cgP 17 []) (.q .w) func321 trivial
def Z4m:zj:=mkE (ac (Ul (.int .u8)) az) tb λa=>F.z2i a.1
theorem Zl0:EnP 359 Z4m false:=eo (cgP 9 []) (.q .w) func359 trivial
def Z4n:zj:=mkE (ac (Ul (.int .u8)) az) tb λa=>F.z6u a.1
theorem Zl1:EnP 323 Z4n false:=eo (cgP 13 [(321,zvm),(359,Z4m)]) (.q .w) func323 ⟨Zb6,Zl0,trivial⟩
def Z4o:zj:=mkE (ac (Ul .str) (P6 323 az)) ti λa=>F.Xw a.1
theorem Zl2:EnP 322 Z4o false:=eo (cgP 20 [(323,Z4n)]) (.q (.q (.s (.b (.loop [(5,.i)] (.join [] (.q (.c .l .l)) (.b .l)))) .w))) func322 ⟨Zl1,trivial⟩
def Z4p:zj:=mkE (ac (Ul .str) az) tb λa=>F.z1k a.1
theorem Zl3:EnP 281 Z4p false:=eo (cgP 22 [(321,zvm),(322,Z4o)]) (.q .w) func281 ⟨Zb6,Zl2,trivial⟩
def Z4q:zj:=mkE (ac qi az) tb λa=>F.z3m a.1
theorem Zl4:EnP 282 Z4q false:=eo (cgP 27 [] [] [(3,1),(4,1),(9,1),(10,1),(16,1),(17,1),(22,1),(23,1)] [1]) (.q .w) func282 trivial
def zgk:ArgT (TExpr×Unit):=(ac z4a az)
def zgo:Ty Bool:=tb
def Zhq:ArgT (TExpr×Unit):=(ac z4a az)
def Zhz:Ty Bool:=tb
def Z4r(Zsx:TExpr->(Bool->Hp->Prop)->Hp->Prop):zj:=mkE Zhq Zhz λa=>F.z1g Zsx a.1
theorem Zl5(Zsx:TExpr->(Bool->Hp->Prop)->Hp->Prop)(Zt0:EnP 222 (mkE zgk zgo (λa=>Zsx a.1)) false):EnP 283 (Z4r Zsx) false:=eo (cgP 6 [(222,mkE zgk zgo (λa=>Zsx a.1))] [] [] [1]) (.q .w) func283 ⟨Zt0,trivial⟩
def Zhr:ArgT (Sl×Unit):=(asl (P6 283 az))
def Zi0:Ty Int:=ti
def Z4s(Zsx:TExpr->(Bool->Hp->Prop)->Hp->Prop):zj:=mkE Zhr Zi0 λa=>F.yz Zsx a.1
theorem Zl6(Zsx:TExpr->(Bool->Hp->Prop)->Hp->Prop)(Zt0:EnP 222 (mkE zgk zgo (λa=>Zsx a.1)) false):EnP 221 (Z4s Zsx) false:=eo (cgP 19 [(283,(Z4r Zsx))]) (.q (.s (.q (.b (.loop [(8,.i)] (.q (.s (.c .l .l) (.s (.b (.q (.q (.c .w .l)))) .l)))))) .w)) func221 ⟨(Zl5 Zsx Zt0),trivial⟩
def Zhs:ArgT (Sl×Unit):=(asl (P6 283 az))
def Zi1:Ty Bool:=tb
def Z4t(Zsx:TExpr->(Bool->Hp->Prop)->Hp->Prop):zj:=mkE Zhs Zi1 λa=>F.yh Zsx a.1
theorem Zl7(Zsx:TExpr->(Bool->Hp->Prop)->Hp->Prop)(Zt0:EnP 222 (mkE zgk zgo (λa=>Zsx a.1)) false):EnP 162 (Z4t Zsx) false:=eo (cgP 9 [(221,(Z4s Zsx))]) (.q .w) func162 ⟨(Zl6 Zsx Zt0),trivial⟩
def Z4u:zj:=mkE zgk zgo λa=>F.z3l a.1
def Zia(n:Nat):Cfg:=(cgP 68 [(280,Z4k),(281,Z4p),(282,Z4q),(162,(Z4t (F.Qk n)))] [] [(5,1),(9,1),(14,1),(17,1),(23,1),(28,1),(35,1),(39,1),(46,1),(50,1),(54,1),(58,1),(63,1)] [1])
theorem Zc9:∃fn,prog.funcs[222]?=some fn/\fn.body.isNone=false/\(fn.name == "runtime.NumGoroutine")=false:=⟨_,func222,rfl,by decide⟩
set_option maxHeartbeats 4000000 in
theorem Zck:∀n a K D w,Sub D w->F.Qk n a.1 K D->Calls prog 222 (zgk.up a).toArray w (z6a (λv h=>zgo.dn v λr=>K r h) D w)
 | 0,_,_,_,_,_,h=>h.elim
 | n+1,a,K,D,w,hs,h=>z0p (C:=Zia n) (F:=λa=>F.Qk (n+1) a.1) (fn:=f222) (c:=bd f222) (an:=(.seq .leaf (.join [] (.seq (.draw [0,1,2,3,4,5,6,7,8,9,10,11,12,13,14,15,16,17]) (.cond (.seq .leaf .leaf) .leaf)) (.seq (.seq .leaf (.block (.seq .leaf (.cond (.seq .leaf (.seq .leaf .leaf)) (.seq .leaf (.cond (.seq .leaf .leaf) .leaf)))))) (.seq .leaf .leaf))))) ⟨Zkz,Zl3,Zl4,(Zl7 (F.Qk n) (Ys Zc9 (Zck n))),trivial⟩ trivial func222 rfl rfl (λ_=>rfl) (by intro a K D;kernel_rfl) a K D w hs h
theorem Zl8:EnP 222 Z4u false:=Ys Zc9 (λa K D w hs h=>h.elim λm h=>Zck m a K D w hs h)
def zu1:ArgT (TExpr×Unit):=(ac z4a az)
def zug:Ty Int:=ti
def Z4v:zj:=mkE zu1 zug λa=>F.z57 a.1
def Zib(n:Nat):Cfg:=(cgP 20 [(223,mkE zu1 zug (λa=>F.Wh n a.1))] [] [(6,1)] [1,5])
theorem Zca:∃fn,prog.funcs[223]?=some fn/\fn.body.isNone=false/\(fn.name == "runtime.NumGoroutine")=false:=⟨_,func223,rfl,by decide⟩
set_option maxHeartbeats 4000000 in
theorem Zcl:∀n a K D w,Sub D w->F.Wh n a.1 K D->Calls prog 223 (zu1.up a).toArray w (z6a (λv h=>zug.dn v λr=>K r h) D w)
 | 0,_,_,_,_,_,h=>h.elim
 | n+1,a,K,D,w,hs,h=>z0p (C:=Zib n) (F:=λa=>F.Wh (n+1) a.1) (fn:=f223) (c:=bd f223) (an:=(.seq .leaf (.seq .leaf (.seq (.seq .leaf (.block (.loop [(3,.i),(9,.i)] (.seq .leaf (.seq (.cond .leaf .leaf) (.seq (.block (.seq .leaf .leaf)) .leaf)))))) (.seq .leaf .leaf))))) ⟨(Ys Zca (Zcl n)),trivial⟩ trivial func223 rfl rfl (λ_=>rfl) (by intro a K D;kernel_rfl) a K D w hs h
theorem Zl9:EnP 223 Z4v false:=Ys Zca (λa K D w hs h=>h.elim λm h=>Zcl m a K D w hs h)
def Z4w:zj:=mkE (ac z4a az) ti λa=>F.z58 a.1
theorem Zla:EnP 164 Z4w false:=eo (cgP 11 [(222,Z4u),(223,Z4v)] [] [] [1]) (.q (.s (.b (.q (.c .w (.q (.c .w .l))))) .w)) func164 ⟨Zl8,Zl9,trivial⟩
def Z4x:zj:=mkE (ac z4a az) tb λa=>F.V9 a.1
theorem Zlb:EnP 163 Z4x false:=eo (cgP 6 [(164,Z4w)] [] [] [1]) (.q .w) func163 ⟨Zla,trivial⟩
def Z4y:zj:=mkE (asl (P6 163 az)) ti λa=>F.yo a.1
theorem Zlc:EnP 221 Z4y false:=eo (cgP 19 [(163,Z4x)]) (.q (.s (.q (.b (.loop [(8,.i)] (.q (.s (.c .l .l) (.s (.b (.q (.q (.c .w .l)))) .l)))))) .w)) func221 ⟨Zlb,trivial⟩
def Z4z:zj:=mkE (asl (P6 163 az)) tb λa=>F.Zo a.1
theorem Zld:EnP 162 Z4z false:=eo (cgP 9 [(221,Z4y)]) (.q .w) func162 ⟨Zlc,trivial⟩
def Z50:zj:=mkE (asl az) tb λa=>F.z1f a.1
theorem Zle:EnP 165 Z50 false:=eo (cgP 49 []) (.q (.s (.draw [0,1,2,3,4,5,6,7,8,9,10,11,12,13,14,15]) .w)) func165 trivial
def zvn:zj:=mkE (asl (ai az)) ti λa=>F.Xt a.1 a.2.1
theorem Zb8:EnP 104 zvn false:=eo (cgP 19 []) (.q (.s (.q (.b (.loop [(8,.i)] (.q (.s (.c .l .l) (.s (.b (.q (.q (.c .w .l)))) .l)))))) .w)) func104 trivial
end Den
end

noncomputable section
set_option maxRecDepth 100000
namespace Den
open Go Go.Proofs.Tryz
def z98:zj:=mkE (asl (ai az)) tb λa=>F.Zh a.1 a.2.1
theorem zb3:EnP 40 z98 false:=eo (cgP 9 [(104,zvn)]) (.q .w) func40 ⟨Zb8,trivial⟩
def Z51:zj:=mkE (asl az) tb λa=>F.Xn a.1
theorem Zlf:EnP 166 Z51 false:=eo (cgP 18 [(40,z98)]) (.q (.s (.q (.b (.loop [(7,.i)] (.q (.s (.c .l .l) (.s (.b (.q (.q (.c .w .l)))) .l)))))) .w)) func166 ⟨zb3,trivial⟩
def Z52:zj:=mkE (ai (ap az)) tb λa=>F.z1z a.1 a.2.1
theorem Zlg:EnP 220 Z52 false:=eo (cgP 11 []) (.q .w) func220 trivial
def Z53:zj:=mkE (asl (G3 220 1 az)) ti λa=>F.Yu a.1 a.2.1
theorem Zlh:EnP 98 Z53 false:=eo (cgP 19 [(220,Z52)]) (.q (.s (.q (.b (.loop [(8,.i)] (.q (.s (.c .l .l) (.s (.b (.q (.q (.c .w .l)))) .l)))))) .w)) func98 ⟨Zlg,trivial⟩
def Z54:zj:=mkE (asl (G3 220 1 az)) tb λa=>F.Yh a.1 a.2.1
theorem Zli:EnP 92 Z54 false:=eo (cgP 9 [(98,Z53)]) (.q .w) func92 ⟨Zlh,trivial⟩
def Z55:zj:=mkE (asl (ai (ai az))) tb λa=>F.W8 a.1 a.2.1 a.2.2.1
theorem Zlj:EnP 161 Z55 false:=eo (cgP 17 [(92,Z54)]) (.q .w) func161 ⟨Zli,trivial⟩
def Z56:zj:=mkE (ac Qj (ai (ai az))) tb λa=>F.z1e a.1 a.2.1 a.2.2.1
theorem Zlk:EnP 88 Z56 false:=eo (cgP 86 [(160,zvf),(162,Z4z),(165,Z50),(166,Z51),(161,Z55)] [] [(10,3),(18,3),(20,7),(27,3),(29,7),(36,3),(39,7),(43,3),(46,7),(49,3),(54,3),(59,7),(63,3),(68,3),(75,3),(78,3),(82,3)] [3,7]) (.q (.q (.join [] (.q (.c .w .l)) (.s (.q (.c .w .l)) (.join [] (.q (.c .w .l)) (.s (.q (.b (.join [(70,.b)] (.q (.c .l (.q (.c .l (.q (.c .l .l)))))) (.c .w .l)))) .w)))))) func88 ⟨Zaz,Zld,Zle,Zlf,Zlj,trivial⟩
def Z57:zj:=mkE (ac Qj (ap (ap az))) tb λa=>F.z88 a.1 a.2.1 a.2.2.1
theorem Zll:EnP 87 Z57 false:=eo (cgP 9 [(88,Z56)] [] [] [3]) (.q .w) func87 ⟨Zlk,trivial⟩
def Z58:zj:=mkE (ac Qj (ap az)) tb λa=>F.Y5 a.1 a.2.1
theorem Zlm:EnP 159 Z58 false:=eo { P:=prog,n:=8,tab:=[(87,Z57)],locL:=[2],fnL:=[(4,87,2)] } (.q .w) func159 ⟨Zll,trivial⟩
def Z59:zj:=mkE (asl (G3 159 1 az)) ti λa=>F.z8 a.1 a.2.1
theorem Zln:EnP 219 Z59 false:=eo (cgP 19 [(159,Z58)]) (.q (.s (.q (.b (.loop [(8,.i)] (.q (.s (.c .l .l) (.s (.b (.q (.q (.c .w .l)))) .l)))))) .w)) func219 ⟨Zlm,trivial⟩
def Z5a:zj:=mkE (asl (G3 159 1 az)) tb λa=>F.z7 a.1 a.2.1
theorem Zlo:EnP 158 Z5a false:=eo (cgP 9 [(219,Z59)]) (.q .w) func158 ⟨Zln,trivial⟩
def Z5b:zj:=mkE (asl (G3 87 2 az)) tb λa=>F.Yb a.1 a.2.1
theorem Zlp:EnP 86 Z5b false:=eo (cgP 9 [(158,Z5a)]) (.q .w) func86 ⟨Zlo,trivial⟩
def zoz:zj:=mkE (ac Qf az) ti λa=>F.z09 a.1
theorem zxt:EnP 35 zoz false:=eo (cgP 49 [(70,Zg2),(71,Zgi),(74,Zgn),(78,Zgs),(80,Z3t),(83,Z40),(86,Z5b)] [] [] [3,4]) (.q (.s (.q (.c .w .l)) (.s (.drawP [0,1,2,3,4,5,6,7,8,9] [3,4]) (.join [(5,.b)] .l (.s (.q (.c .w .l)) .w))))) func35 ⟨Zr8,Zro,Zrt,Zry,Zk9,Zkg,Zlp,trivial⟩
def Z5c:zj:=mkE (asl (asl az)) tb λa=>F.Xs a.1 a.2.1
theorem Zlq:EnP 225 Z5c false:=eo (cgP 26 []) (.q (.s (.q (.c .w .l)) (.s (.q (.b (.loop [(13,.i)] (.q (.s (.c .l .l) (.s (.b (.q (.s (.draw [0,1,2,3,4,5,6,7,8]) (.c .w .l)))) .l)))))) .w))) func225 trivial
def Z5d:zj:=mkE (asl (asl az)) tb λa=>F.z18 a.1 a.2.1
theorem Zlr:EnP 324 Z5d false:=eo (cgP 26 []) (.q (.s (.q (.c .w .l)) (.s (.q (.b (.loop [(13,.i)] (.q (.s (.c .l .l) (.s (.b (.q (.s (.draw [0,1,2,3,4,5,6,7,8]) (.c .w .l)))) .l)))))) .w))) func324 trivial
def Z5e:zj:=mkE (ac Zv (ac Zv az)) tb λa=>F.z4i a.1 a.2.1
theorem Zls:EnP 284 Z5e false:=eo (cgP 17 [(324,Z5d)] [] [(5,2),(7,3),(11,2),(13,3)] [2,3]) (.q .w) func284 ⟨Zlr,trivial⟩
def zoa:ArgT (Sl×Sl×Unit):=(asl (asl (P6 227 az)))
def zod:Ty Bool:=tb
def Zht:ArgT (TExpr×TExpr×Unit):=(ac z4a (ac z4a az))
def Zi2:Ty Bool:=tb
def Z5f(Zsy:Sl->Sl->(Bool->Hp->Prop)->Hp->Prop):zj:=mkE Zht Zi2 λa=>F.ze7 Zsy a.1 a.2.1
theorem Zlt(Zsy:Sl->Sl->(Bool->Hp->Prop)->Hp->Prop)(Zt1:EnP 226 (mkE zoa zod (λa=>Zsy a.1 a.2.1)) false):EnP 227 (Z5f Zsy) false:=eo (cgP 42 [(284,Z5e),(226,mkE zoa zod (λa=>Zsy a.1 a.2.1))] [] [(5,2),(7,3),(11,2),(13,3),(18,2),(19,2),(21,3),(22,3),(27,2),(28,2),(30,3),(31,3),(36,2),(38,3)] [2,3]) (.q .w) func227 ⟨Zls,Zt1,trivial⟩
def Z5g:zj:=mkE zoa zod λa=>F.Zu a.1 a.2.1
def Zic(n:Nat):Cfg:=(cgP 32 [(227,(Z5f (F.zp n)))] [] [] [8,9])
theorem Zcb:∃fn,prog.funcs[226]?=some fn/\fn.body.isNone=false/\(fn.name == "runtime.NumGoroutine")=false:=⟨_,func226,rfl,by decide⟩
set_option maxHeartbeats 4000000 in
theorem Zcm:∀n a K D w,Sub D w->F.zp n a.1 a.2.1 K D->Calls prog 226 (zoa.up a).toArray w (z6a (λv h=>zod.dn v λr=>K r h) D w)
 | 0,_,_,_,_,_,h=>h.elim
 | n+1,a,K,D,w,hs,h=>z0p (C:=Zic n) (F:=λa=>F.zp (n+1) a.1 a.2.1) (fn:=f226) (c:=bd f226) (an:=(.seq .leaf (.seq (.seq .leaf (.cond (.seq .leaf .leaf) .leaf)) (.seq (.seq .leaf (.block (.loop [(17,.i)] (.seq .leaf (.seq (.cond .leaf .leaf) (.seq (.block (.seq .leaf (.seq .leaf (.seq .leaf (.cond (.seq .leaf .leaf) .leaf))))) .leaf)))))) (.seq .leaf .leaf))))) ⟨(Zlt (F.zp n) (Ys Zcb (Zcm n))),trivial⟩ trivial func226 rfl rfl (λ_=>rfl) (by intro a K D;kernel_rfl) a K D w hs h
theorem Zlu:EnP 226 Z5g false:=Ys Zcb (λa K D w hs h=>h.elim λm h=>Zcm m a K D w hs h)
def Z5h:zj:=mkE (ac Qj (ac Qj az)) tb λa=>F.z1d a.1 a.2.1
theorem Zlv:EnP 172 Z5h false:=eo (cgP 38 [(225,Z5c),(226,Z5g)] [] [(5,2),(7,3),(11,2),(13,3),(18,2),(20,3),(25,2),(27,3),(32,2),(34,3)] [2,3]) (.q .w) func172 ⟨Zlq,Zlu,trivial⟩
def Z5i:zj:=mkE (ac Qj (ap az)) tb λa=>F.z1t a.1 a.2.1
theorem Zlw:EnP 171 Z5i false:=eo (cgP 7 [(172,Z5h)] [] [] [2]) (.q .w) func171 ⟨Zlv,trivial⟩
def Z5j:zj:=mkE (asl (G3 171 1 az)) ti λa=>F.Zz a.1 a.2.1
theorem Zlx:EnP 219 Z5j false:=eo (cgP 19 [(171,Z5i)]) (.q (.s (.q (.b (.loop [(8,.i)] (.q (.s (.c .l .l) (.s (.b (.q (.q (.c .w .l)))) .l)))))) .w)) func219 ⟨Zlw,trivial⟩
def Z5k:zj:=mkE (asl (G3 171 1 az)) tb λa=>F.zq a.1 a.2.1
theorem Zly:EnP 158 Z5k false:=eo (cgP 9 [(219,Z5j)]) (.q .w) func158 ⟨Zlx,trivial⟩
def zvo:zj:=mkE (ac Qf az) ts λa=>F.z17 a.1
theorem Zb9:EnP 96 zvo false:=eo (cgP 52 [(158,Z5k)] [] [(10,1),(17,5),(19,5),(29,5),(34,1)] [1,5,47]) (.q (.q (.s (.q (.b (.loop [(3,.s),(13,.i)] (.q (.s (.c .l .l) (.s (.b (.q (.q (.b (.loop [(3,.s),(23,.i)] (.q (.s (.c .l .l) (.join [(3,.s)] (.b (.q (.q (.q (.q (.c .l .l)))))) .l)))))))) .l)))))) .w))) func96 ⟨Zly,trivial⟩
def Z5m:zj:=mkE (asl (ai az)) ts λa=>F.y8 a.1 a.2.1
theorem Zlz:EnP 170 Z5m false:=eo (cgP 27 []) (.q (.join [] (.q (.c .l .l)) (.s (.q (.q (.c .l .l))) .w))) func170 trivial
def Z5n:zj:=mkE (asl az) ts λa=>F.ym a.1
theorem Zm0:EnP 95 Z5n false:=eo (cgP 36 [(170,Z5m)]) (.q (.q (.s (.q (.b (.loop [(3,.i),(11,.i)] (.q (.s (.c .l .l) (.join [(3,.i)] (.b (.q (.q (.q (.c .l .l))))) .l)))))) (.q (.s (.q (.b (.loop [(6,.s),(27,.i)] (.q (.s (.c .l .l) (.s (.b .w) .l)))))) .w))))) func95 ⟨Zlz,trivial⟩
def zvp:zj:=mkE (asl az) ts λa=>F.Xr a.1
theorem Zba:EnP 97 zvp false:=eo (cgP 8 []) (.q (.s (.q (.c .w .l)) .w)) func97 trivial
def Z5o:zj:=mkE (ac Qf az) (Ul .ptr) λa=>F.z0r a.1
theorem Zm1:EnP 38 Z5o false:=eo (cgP 99 [(96,zvo),(95,Z5n),(97,zvp)] [] [(12,1),(20,1),(32,5),(48,7),(51,7),(63,7),(67,7),(72,7)] [1,5,7,34,61,84,93]) (.q (.s (.draw [0,1,2,3,4,5,6,7,8,9]) (.s (.q (.b (.loop [(23,.i)] (.q (.s (.c .l .l) (.s (.b (.q (.draw [0,1,2,3,4,5,6,7,8,9,10,11]))) .l)))))) (.s (.q (.b (.loop [(44,.i)] (.q (.s (.c .l .l) (.s (.b (.q (.q (.s (.q (.b (.loop [(8,.s),(54,.i)] (.q (.s (.c .l .l) (.join [(8,.s)] (.b (.q (.q (.q (.c .l .l))))) .l)))))) .l)))) .l)))))) .w)))) func38 ⟨Zb9,Zm0,Zba,trivial⟩
def Z5p:zj:=mkE (ap az) ts λa=>F.y_henneberg_peeler_all a.1
theorem Zm2:EnP 99 Z5p false:=eo (cgP 36 [] [] [] [17,32]) (.q (.q (.s (.q (.b (.loop [(3,.s),(12,.i)] (.q (.s (.c .l .l) (.s (.b .w) .l)))))) (.s (.q (.b (.loop [(3,.s),(26,.i)] (.q (.s (.c .l .l) (.s (.b .w) .l)))))) .w)))) func99 trivial
def Z5q:zj:=mkE (ai (ap az)) tb λa=>F.y_henneberg_peeler_remaining_1 a.1 a.2.1
theorem Zm3:EnP 228 Z5q false:=eo (cgP 7 [(40,z98)]) (.q .w) func228 ⟨zb3,trivial⟩
def Z5r:zj:=mkE (asl (G3 228 1 az)) ti λa=>F.yj a.1 a.2.1
theorem Zm4:EnP 98 Z5r false:=eo (cgP 19 [(228,Z5q)]) (.q (.s (.q (.b (.loop [(8,.i)] (.q (.s (.c .l .l) (.s (.b (.q (.q (.c .w .l)))) .l)))))) .w)) func98 ⟨Zm3,trivial⟩
def Z5s:zj:=mkE (asl (G3 228 1 az)) tb λa=>F.Z7 a.1 a.2.1
theorem Zm5:EnP 92 Z5s false:=eo (cgP 9 [(98,Z5r)]) (.q .w) func92 ⟨Zm4,trivial⟩
def Z5t:zj:=mkE (ap (ai (asl az))) ts λa=>F.y_henneberg_peeler_remaining a.1 a.2.1 a.2.2.1
theorem Zm6:EnP 173 Z5t false:=eo (cgP 35 [(40,z98),(92,Z5s)] [] [] [31]) (.q (.q (.s (.q (.b (.loop [(7,.s),(15,.i)] (.q (.s (.c .l .l) (.join [(7,.s)] (.b (.q (.q (.c .l .l)))) .l)))))) .w))) func173 ⟨zb3,Zm5,trivial⟩
def zvq:zj:=mkE (ap (ai az)) ti λa=>F.y_henneberg_peeler_equations a.1 a.2.1
theorem Zbb:EnP 178 zvq false:=eo (cgP 21 [(160,zvf)] [] [(19,5)] [5]) (.q (.q .w)) func178 ⟨Zaz,trivial⟩
def Z5v:zj:=mkE (ap (asl az)) ti λa=>F.y_henneberg_peeler_weight a.1 a.2.1
theorem Zm7:EnP 174 Z5v false:=eo (cgP 21 [(178,zvq)]) (.q (.q (.s (.q (.b (.loop [(5,.i),(10,.i)] (.q (.s (.c .l .l) (.s (.b .w) .l)))))) .w))) func174 ⟨Zbb,trivial⟩
def Z5w:zj:=mkE (ac Qj (asl (ai az))) tb λa=>F.z8n a.1 a.2.1 a.2.2.1
theorem Zm8:EnP 176 Z5w false:=eo (cgP 52 [(104,zvn),(40,z98)] [] [(8,3),(14,3),(22,3),(32,3),(37,3),(44,3)] [3]) (.q (.q (.s (.q (.c .w .l)) (.s (.q (.b (.join [(16,.b)] (.q (.c .l .l)) (.c .w (.join [(19,.b)] (.q (.c .l .l)) (.c (.s (.draw [0,1,2,3,4,5,6,7,8]) .l) (.q (.c (.s (.draw [0,1,2,3,4,5,6,7,8,9,10,11,12,13,14,15,16,17,18,19,20]) .l) .l)))))))) .w)))) func176 ⟨Zb8,zb3,trivial⟩
def Z5x:zj:=mkE (ai (ap (ap az))) tb λa=>F.y_henneberg_peeler_removable_1 a.1 a.2.1 a.2.2.1
theorem Zm9:EnP 175 Z5x false:=eo (cgP 20 [(176,Z5w)]) (.q (.s (.draw [0,1,2,3,4,5,6,7,8,9,10,11,12,13,14,15]) .l)) func175 ⟨Zm8,trivial⟩
def Z5y:zj:=mkE (asl (G3 175 2 az)) ti λa=>F.yk a.1 a.2.1
theorem Zma:EnP 98 Z5y false:=eo (cgP 19 [(175,Z5x)]) (.q (.s (.q (.b (.loop [(8,.i)] (.q (.s (.c .l .l) (.s (.b (.q (.q (.c .w .l)))) .l)))))) .w)) func98 ⟨Zm9,trivial⟩
def Z5z:zj:=mkE (asl (G3 175 2 az)) tb λa=>F.Z8 a.1 a.2.1
theorem Zmb:EnP 92 Z5z false:=eo (cgP 9 [(98,Z5y)]) (.q .w) func92 ⟨Zma,trivial⟩
def Z60:zj:=mkE (ac Qj (ai az)) ts λa=>F.z6v a.1 a.2.1
theorem Zmc:EnP 285 Z60 false:=eo (cgP 25 [] [] [(8,2)] [2,21]) (.q (.q (.s (.q (.b (.loop [(5,.s),(11,.i)] (.q (.s (.c .l .l) (.join [(5,.s)] (.b (.q (.q (.c .l .l)))) .l)))))) .w))) func285 trivial
def Z61:zj:=mkE (ai (ap (ap (ap az)))) tb λa=>F.z04 a.1 a.2.1 a.2.2.1 a.2.2.2.1
theorem Zmd:EnP 286 Z61 false:=eo (cgP 16 []) (.q (.s (.draw [0,1,2,3,4,5,6,7,8,9,10]) .l)) func286 trivial
end Den
end

noncomputable section
set_option maxRecDepth 100000
namespace Den
open Go Go.Proofs.Tryz
def Z62:zj:=mkE (ac Qj (asl (ai az))) ti λa=>F.zac a.1 a.2.1 a.2.2.1
theorem Zme:EnP 229 Z62 false:=eo (cgP 77 [(285,Z60),(286,Z61)]) (.q (.q (.q (.s (.q (.b (.q (.c (.s (.q (.c .w .l)) .w) (.q (.c (.s (.q (.c .w .l)) .w) (.q (.c (.s (.q (.c .w .l)) .w) .l)))))))) (.s (.q (.c .w .l)) (.s (.q (.b (.join [(44,.b)] (.q (.c .l .l)) (.c .w (.q (.c .w (.join [(49,.b)] (.q (.c .l (.q (.c .l (.q (.c .l .l)))))) (.c .w (.q (.c (.q (.c .w .l)) (.q (.c (.q (.c .w .l)) (.join [(66,.b)] (.q (.c .l .l)) (.c (.s (.q (.c .w .l)) .w) (.q (.c (.s (.q (.c .w .l)) .w) .l)))))))))))))))) .w)))))) func229 ⟨Zmc,Zmd,trivial⟩
def Z63:zj:=mkE (ap (ai (ai az))) ti λa=>F.y_henneberg_peeler_kind a.1 a.2.1 a.2.2.1
theorem Zmf:EnP 177 Z63 false:=eo (cgP 20 [(229,Z62)]) (.q (.s (.draw [0,1,2,3,4,5,6,7,8,9,10,11,12,13]) .l)) func177 ⟨Zme,trivial⟩
def Z64:zj:=mkE (ap (ai (asl az))) tb λa=>F.y_henneberg_peeler_removable a.1 a.2.1 a.2.2.1
theorem Zmg:EnP 101 Z64 false:=eo (cgP 60 [(40,z98),(173,Z5t),(174,Z5v),(92,Z5z),(177,Z63),(178,zvq)]) (.q (.s (.q (.c .w .l)) (.q (.s (.q (.c .w .l)) (.s (.q (.c .w .l)) (.s (.q (.b (.loop [(37,.i)] (.q (.s (.c .l .l) (.s (.b (.q (.q (.join [(11,.b)] .l (.join [(11,.b)] (.q (.c .l .l)) (.q (.c .w .l))))))) .l)))))) .w)))))) func101 ⟨zb3,Zm6,Zm7,Zmb,Zmf,Zbb,trivial⟩
def Z66:zj:=mkE (ai (ap (ap az))) tb λa=>F.y_henneberg_peeler_peel_1 a.1 a.2.1 a.2.2.1
theorem Zmh:EnP 100 Z66 false:=eo (cgP 9 [(101,Z64)]) (.q .w) func100 ⟨Zmg,trivial⟩
def Z67:zj:=mkE (asl (G3 100 2 az)) ti λa=>F.Z1 a.1 a.2.1
theorem Zmi:EnP 98 Z67 false:=eo (cgP 19 [(100,Z66)]) (.q (.s (.q (.b (.loop [(8,.i)] (.q (.s (.c .l .l) (.s (.b (.q (.q (.c .w .l)))) .l)))))) .w)) func98 ⟨Zmh,trivial⟩
def zvr:zj:=mkE (ai (ap az)) tb λa=>F.y_henneberg_peeler_peel_2 a.1 a.2.1
theorem Zbc:EnP 103 zvr false:=eo (cgP 7 [(40,z98)]) (.q .w) func103 ⟨zb3,trivial⟩
def Z68:zj:=mkE (asl (G3 103 1 az)) ti λa=>F.Yd a.1 a.2.1
theorem Zmj:EnP 98 Z68 false:=eo (cgP 19 [(103,zvr)]) (.q (.s (.q (.b (.loop [(8,.i)] (.q (.s (.c .l .l) (.s (.b (.q (.q (.c .w .l)))) .l)))))) .w)) func98 ⟨Zbc,trivial⟩
def Z69:zj:=mkM (asl (G3 103 1 az)) ts λa=>F.Z0 a.1 a.2.1
theorem Zmk:EnP 102 Z69 true:=eoM (cgP 42 [(98,Z68),(103,zvr)]) (.q (.q (.s (.q (.c .w .l)) (.s (.q (.b (.loop [(5,.i),(6,.i)] (.s (.q (.c .l .l)) (.join [(5,.i)] (.b (.q (.q (.c .w .l)))) .l))))) (.q .w))))) func102 ⟨Zmj,Zbc,trivial⟩
def Z6a:zj:=mkE (ap az) (t2 ts ts) λa=>F.y_henneberg_peeler_peel a.1
theorem Zml:EnP 39 Z6a false:=eo (cgP 27 [(99,Z5p),(98,Z67),(102,Z69)] [102] [] [19]) (.q (.q (.s (.b (.loop [(4,.leaf (.ptr))] (.b (.q (.s (.q (.c .l .l)) (.draw [0,1,3,2,4,5,6,7,8])))))) (.q .w)))) func39 ⟨Zm2,Zmi,Zmk,trivial⟩
def zp0:zj:=mkE (ac Qf az) (t2 ts ts) λa=>F.Vy a.1
theorem zxv:EnP 13 zp0 false:=eo (cgP 12 [(35,zoz),(38,Z5o),(39,Z6a)] [] [] [1]) (.q (.s (.q (.c .w .l)) .w)) func13 ⟨zxt,Zm1,Zml,trivial⟩
def Z6b:zj:=mkE (ac Qf az) ts λa=>F.z6q a.1
theorem Zmm:EnP 89 Z6b false:=eo (cgP 20 [] [] [(6,1),(14,5)] [1,5,16]) (.q (.q (.s (.q (.b (.loop [(3,.s),(9,.i)] (.q (.s (.c .l .l) (.s (.b .w) .l)))))) .w))) func89 trivial
def Z6c:zj:=mkE (asl az) ts λa=>F.yu a.1
theorem Zmn:EnP 167 Z6c false:=eo (cgP 8 []) (.q (.s (.q (.c .w .l)) .w)) func167 trivial
def Z6d:zj:=mkE (ac Qf az) ts λa=>F.zfi a.1
theorem Zmo:EnP 90 Z6d false:=eo (cgP 9 [(167,Z6c),(96,zvo)] [] [(3,1)] [1]) (.q (.s (.draw [0,1,3,2,4,5,6]) .l)) func90 ⟨Zmn,Zb9,trivial⟩
def Z6f:zj:=mkE (ac Qj (asl az)) ts λa=>F.za9 a.1 a.2.1
theorem Zmp:EnP 93 Z6f false:=eo (cgP 38 [(97,zvp)] [] [(8,2),(11,2),(23,2)] [2,21,34]) (.q (.q (.s (.q (.b (.loop [(5,.s),(14,.i)] (.q (.s (.c .l .l) (.join [(5,.s)] (.b (.q (.q (.q (.b (.join [(25,.b)] (.q (.c .l (.q (.c .l .l)))) (.c .l .l))))))) .l)))))) .w))) func93 ⟨Zba,trivial⟩
def Z6g:zj:=mkE (ai (ap az)) tb λa=>F.z97 a.1 a.2.1
theorem Zmq:EnP 91 Z6g false:=eo (cgP 8 [(40,z98)]) (.q .w) func91 ⟨zb3,trivial⟩
def Z6h:zj:=mkE (asl (G3 91 1 az)) ti λa=>F.qg a.1 a.2.1
theorem Zmr:EnP 98 Z6h false:=eo (cgP 19 [(91,Z6g)]) (.q (.s (.q (.b (.loop [(8,.i)] (.q (.s (.c .l .l) (.s (.b (.q (.q (.c .w .l)))) .l)))))) .w)) func98 ⟨Zmq,trivial⟩
def Z6i:zj:=mkE (asl (G3 91 1 az)) tb λa=>F.Y7 a.1 a.2.1
theorem Zms:EnP 92 Z6i false:=eo (cgP 9 [(98,Z6h)]) (.q .w) func92 ⟨Zmr,trivial⟩
def Z6j:zj:=mkE (ac Qf (asl az)) ts λa=>F.z8k a.1 a.2.1
theorem Zmt:EnP 36 Z6j false:=eo (cgP 33 [(89,Z6b),(90,Z6d),(93,Z6f),(92,Z6i)] [] [] [2,8,29]) (.q (.q (.q (.s (.q (.b (.loop [(5,.s),(15,.i)] (.q (.s (.c .l .l) (.join [(5,.s)] (.b (.q (.q (.q (.c .l .l))))) .l)))))) .w)))) func36 ⟨Zmm,Zmo,Zmp,Zms,trivial⟩
def Z6k:zj:=mkE (ac Qf az) (t2 ts ts) λa=>F.zdb a.1
theorem Zmu:EnP 11 Z6k false:=eo (cgP 21 [(35,zoz),(13,zp0),(36,Z6j)] [] [] [1]) (.q (.s (.q (.c .w .l)) (.q (.s (.q (.c .w .l)) .w)))) func11 ⟨zxt,zxv,Zmt,trivial⟩
def Z6l:zj:=mkE (ai (ai az)) tb λa=>F.z9l a.1 a.2.1
theorem Zmv:EnP 49 Z6l false:=eo (cgP 12 []) (.q .w) func49 trivial
def Z6m:zj:=mkE (asl az) ti λa=>F.zej a.1
theorem Zmw:EnP 168 Z6m false:=eo (cgP 18 []) (.q (.q (.s (.q (.b (.loop [(8,.i)] (.q (.s (.c .l .l) (.s (.b (.q (.q (.c .w .l)))) .l)))))) .w))) func168 trivial
def Z6n:zj:=mkE (ac z68 (ac z68 az)) ti λa=>F.z5a a.1 a.2.1
theorem Zmx:EnP 94 Z6n false:=eo (cgP 17 [(169,zrt),(168,Z6m)] [] [(5,2),(7,3),(10,2),(12,3)] [2,3]) (.q (.s (.draw [0,1,2,3,5,6,7,8,4,9,10,11,12]) .l)) func94 ⟨zzw,Zmw,trivial⟩
def zby:zj:=mkE (ac Wv az) tb λa=>F.Wc a.1
theorem zf2:EnP 37 zby false:=eo (cgP 58 [(49,Z6l),(94,Z6n)] [] [(5,1),(9,1),(13,1),(21,1),(23,4),(28,1),(30,4),(36,4),(38,4),(46,1)] [1,4]) (.q (.join [] (.q (.c .w .l)) (.s (.q (.b (.loop [(16,.i)] (.q (.s (.c .l .l) (.join [] (.b (.q (.s (.draw [0,1,2,3,4,5,6,7,8,9,10,11,12,13,14,15,16,17,18,19,20,21,22,23,24,25,26,27,28,29,30,31,32,33,34,35]) (.c .w .l)))) .l)))))) .w))) func37 ⟨Zmv,Zmx,trivial⟩
def zvs:zj:=mkE (ac Wv az) ts λa=>F.z7l a.1
theorem Zbd:EnP 12 zvs false:=eo (cgP 94 [(37,zby)] [] [(14,1),(18,1),(21,1),(29,7),(36,7),(43,7),(50,7)] [1,7,90]) (.q (.s (.q (.c .w .l)) (.q (.s (.q (.b (.loop [(4,.b)] (.s (.q (.c .l .l)) (.b (.q (.q (.s (.q (.b (.loop [(24,.i)] (.q (.s (.c .l .l) (.join [] (.b (.q (.q (.c .w .l)))) .l)))))) (.q (.b (.loop [(4,.b),(59,.i)] (.q (.s (.c .l .l) (.join [(4,.b)] (.b (.q (.q (.c .l .l)))) .l)))))))))))))) (.q (.s (.q (.b (.loop [(9,.s),(80,.i)] (.q (.s (.c .l .l) (.join [(9,.s)] (.b (.q (.q (.c .l .l)))) .l)))))) .w)))))) func12 ⟨zf2,trivial⟩
def zvt:zj:=mkE (ac Qf az) tb λa=>F.Wg a.1
theorem Zbe:EnP 16 zvt false:=eo (cgP 16 [(35,zoz),(13,zp0)] [] [] [1]) (.q (.s (.q (.c .w .l)) (.q .w))) func16 ⟨zxt,zxv,trivial⟩
def Z6p:zj:=mkE (ai az) (Ul .ptr) λa=>F.z6x a.1
theorem Zmy:EnP 105 Z6p false:=eo (cgP 7 []) (.q .w) func105 trivial
def zvu:zj:=mkE (ap (ai az)) ti λa=>F.y_pebble_game_free a.1 a.2.1
theorem Zbf:EnP 230 zvu false:=eo (cgP 14 []) (.q .w) func230 trivial
def Z6q:zj:=mkM (asl (ai (ai az))) ts λa=>F.Qe a.1 a.2.1 a.2.2.1
theorem Zmz:EnP 287 Z6q true:=eoM (cgP 33 []) (.q (.q (.s (.q (.c .w .l)) (.q (.s (.draw [0,1,2,3,4,5,6,7]) (.q .w)))))) func287 trivial
def zu2:ArgT ((Option Addr)×Int×Sl×Unit):=(ap (ai (asl az)))
def zuh:Ty Bool:=tb
def Z6r:zj:=mkM zu2 zuh λa=>F.y_pebble_game_fetch a.1 a.2.1 a.2.2.1
def Zid(n:Nat):Cfg:=(cgP 73 [(230,zvu),(287,Z6q),(231,mkM zu2 zuh (λa=>F.y_pebble_game_fetch_ n a.1 a.2.1 a.2.2.1))] [287,231] [] [69])
theorem Zcc:∃fn,prog.funcs[231]?=some fn/\fn.body.isNone=false/\(fn.name == "runtime.NumGoroutine")=false:=⟨_,func231,rfl,by decide⟩
set_option maxHeartbeats 4000000 in
theorem Zcn:∀n a K D w,Sub D w->F.y_pebble_game_fetch_ n a.1 a.2.1 a.2.2.1 K D->Calls prog 231 (zu2.up a).toArray w (z6a (λv h=>zuh.dn v λr=>K r h) D w)
 | 0,_,_,_,_,_,h=>h.elim
 | n+1,a,K,D,w,hs,h=>z0p (C:=Zid n) (F:=λa=>F.y_pebble_game_fetch_ (n+1) a.1 a.2.1 a.2.2.1) (fn:=f231) (c:=bd f231) (an:=(.seq .leaf (.seq .leaf (.seq (.seq .leaf (.block (.loop [(20,.i)] (.seq .leaf (.seq (.cond .leaf .leaf) (.join [] (.block (.seq .leaf (.seq (.seq .leaf (.cond .leaf .leaf)) (.seq .leaf (.cond (.seq (.drawC [0,1,2,3,4,5,6,7,8,9,10,11,12,13,14] 15 [16,17] [3]) (.seq (.drawC [0,1,2,3,4,5,6,7,8,9,10,11,12,13] 14 [15,16] [3]) (.seq .leaf .leaf))) .leaf))))) .leaf)))))) (.seq .leaf .leaf))))) ⟨Zbf,Zmz,(z4k Zcc (Zcn n)),trivial⟩ trivial func231 rfl rfl (λ_=>rfl) (by intro a K D;kernel_rfl) a K D w hs h
theorem Zn0:EnP 231 Z6r true:=z4k Zcc (λa K D w hs h=>h.elim λm h=>Zcn m a K D w hs h)
def Z6s:zj:=mkM (ap (ai (ai az))) ti λa=>F.y_pebble_game_gather a.1 a.2.1 a.2.2.1
theorem Zn1:EnP 179 Z6s true:=eoM (cgP 51 [(230,zvu),(231,Z6r)] [231] [(23,8),(34,8),(38,8)] [8]) (.q (.s (.q (.b (.loop [(18,.i)] (.q (.s (.c .l .l) (.join [] (.b (.q (.b (.loop [] (.s (.q (.c .l .l)) (.b (.q (.q (.q (.c .l .l)))))))))) .l)))))) .w)) func179 ⟨Zbf,Zn0,trivial⟩
def Z6t:zj:=mkM (ap (ai (ai az))) tb λa=>F.y_pebble_game_accept a.1 a.2.1 a.2.2.1
theorem Zn2:EnP 106 Z6t true:=eoM (cgP 28 [(179,Z6s)] [179] [] [25]) (.q (.s (.q (.c .w .l)) (.s (.drawC [0,1,2,3,4,5,6,7,8,9,10,11,12,13] 14 [15,16] [3]) .w))) func106 ⟨Zn1,trivial⟩
def Z6u:zj:=mkE (ai (asl az)) (t2 ts (Ul .ptr)) λa=>F.z8q a.1 a.2.1
theorem Zn3:EnP 41 Z6u false:=eo (cgP 32 [(105,Z6p),(106,Z6t)] [106] [(20,9),(22,9)] [9,27]) (.q (.q (.q (.s (.q (.b (.loop [(7,.s),(14,.i)] (.q (.s (.c .l .l) (.join [(7,.s)] (.b (.q (.q (.c .l .l)))) .l)))))) .w)))) func41 ⟨Zmy,Zn2,trivial⟩
def zvv:zj:=mkE (ac Wv az) ts λa=>F.Wp a.1
theorem Zbg:EnP 17 zvv false:=eo (cgP 17 [(37,zby),(41,Z6u)] [] [(9,1),(11,1)] [1]) (.q (.s (.q (.c .w .l)) (.q .w))) func17 ⟨zf2,Zn3,trivial⟩
def Z6w:zj:=mkE (asl (asl az)) tb λa=>F.z3y a.1 a.2.1
theorem Zn4:EnP 14 Z6w false:=eo (cgP 26 []) (.q (.s (.q (.c .w .l)) (.s (.q (.b (.loop [(5,.i)] (.s (.q (.c .l .l)) (.s (.b (.s (.draw [0,1,2,3,4,5,6,7,8]) (.c .w .l))) .l))))) .w))) func14 trivial
def Z6x:zj:=mkE (ac Wv (asl az)) ts λa=>F.z59 a.1 a.2.1
theorem Zn5:EnP 15 Z6x false:=eo (cgP 34 [(37,zby),(40,z98)] [] [(11,2),(19,7),(24,7)] [2,7,30]) (.q (.s (.q (.c .w .l)) (.q (.s (.q (.b (.loop [(5,.s),(14,.i)] (.q (.s (.c .l .l) (.join [(5,.s)] (.b (.q (.q (.c .l .l)))) .l)))))) .w)))) func15 ⟨zf2,zb3,trivial⟩
def z7n:zj:=mkE az Wv λa=>F.z1u
theorem zf1:EnP 26 z7n false:=eo (cgP 8 [] [] [] [0]) (.q .w) func26 trivial
def Z6y:zj:=mkE (ac qi az) Zs λa=>F.z9b a.1
theorem Zn6:EnP 195 Z6y false:=eo (cgP 6 [] [] [] [1,2]) (.q .w) func195 trivial
def Z6z:zj:=mkE (ai az) Zs λa=>F.z2m a.1
theorem Zn7:EnP 131 Z6z false:=eo (cgP 6 [(28,Z8x),(195,Z6y)] [] [] [2]) (.q .w) func131 ⟨Zew,Zn6,trivial⟩
def Z70:zj:=mkE (ai (ai az)) ts λa=>F.zap a.1 a.2.1
theorem Zn8:EnP 58 Z70 false:=eo (cgP 23 [(131,Z6z)] [] [] [7,20]) (.q (.q (.s (.q (.b (.loop [(5,.s),(6,.i)] (.s (.q (.c .l .l)) (.s (.b (.q (.join [(7,.box [.sl,.sl])] (.q (.c .l .l)) .l))) .l))))) .w))) func58 ⟨Zn7,trivial⟩
def zvw:zj:=mkE (ac qi az) qi λa=>F.z11 a.1
theorem Zbh:EnP 196 zvw false:=eo (cgP 16 [(213,zn7)] [] [(3,1),(4,1),(7,1),(8,1),(11,1),(12,1),(13,1),(14,1)] [1,2]) (.q (.s (.draw [0,1,2,4,5,6,3,8,9,7,10,11,12,13]) .w)) func196 ⟨ztn,trivial⟩
end Den
end

noncomputable section
set_option maxRecDepth 100000
namespace Den
open Go Go.Proofs.Tryz
def Z71:zj:=mkE (ac qi az) Zs λa=>F.z3t a.1
theorem Zn9:EnP 132 Z71 false:=eo (cgP 7 [(196,zvw)] [] [] [1,2]) (.q .w) func132 ⟨Zbh,trivial⟩
def zp1:zj:=mkE (ai az) Zs λa=>F.Wo a.1
theorem zxw:EnP 59 zp1 false:=eo (cgP 6 [(133,zem),(132,Z71)] [] [] [2]) (.q .w) func59 ⟨zhl,Zn9,trivial⟩
def zba:zj:=mkE (ac Wv (asl az)) ts λa=>F.z5k a.1 a.2.1
theorem ziz:EnP 25 zba false:=eo (cgP 68 [(58,Z70),(59,zp1)] [] [(11,2),(18,2),(26,7),(34,7),(43,7),(49,7)] [2,7,64]) (.q (.q (.s (.q (.b (.loop [(5,.s),(14,.i)] (.q (.s (.c .l .l) (.s (.b (.q (.q (.s (.q (.b (.loop [(22,.i)] (.q (.s (.c .l .l) (.s (.b (.q (.s (.draw [0,1,2,3,4,5,6,7,8,9,10,11,12,13,14,15,16,17]) (.draw [0,1,2,3,4,5,6,7,8,9,10,11,12,14,15,13,16,17,18,19,20])))) .l)))))) .l)))) .l)))))) .w))) func25 ⟨Zn8,zxw,trivial⟩
def zp2:zj:=mkE (asl az) ti λa=>F.Wm a.1
theorem zxx:EnP 122 zp2 false:=eo (cgP 10 []) (.q (.s (.q (.c .w .l)) .w)) func122 trivial
def Z72:zj:=mkE (asl (ap az)) tb λa=>F.z7r a.1 a.2.1
theorem Zna:EnP 121 Z72 false:=eo (cgP 9 [(122,zp2)]) (.q .w) func121 ⟨zxx,trivial⟩
def Z73:zj:=mkE (asl (G3 121 1 az)) ti λa=>F.yp a.1 a.2.1
theorem Znb:EnP 124 Z73 false:=eo (cgP 19 [(121,Z72)]) (.q (.s (.q (.b (.loop [(8,.i)] (.q (.s (.c .l .l) (.s (.b (.q (.q (.c .w .l)))) .l)))))) .w)) func124 ⟨Zna,trivial⟩
def Z74:zj:=mkE (asl (G3 121 1 az)) tb λa=>F.yd a.1 a.2.1
theorem Znc:EnP 120 Z74 false:=eo (cgP 9 [(124,Z73)]) (.q .w) func120 ⟨Znb,trivial⟩
def zvx:zj:=mkE (asl az) tb λa=>F.z3q a.1
theorem Zbi:EnP 55 zvx false:=eo (cgP 7 [(120,Z74)]) (.q .w) func55 ⟨Znc,trivial⟩
def Z75:zj:=mkE (asl az) ts λa=>F.z1l a.1
theorem Znd:EnP 57 Z75 false:=eo (cgP 40 [(55,zvx),(122,zp2)] [] [] [34]) (.q (.s (.q (.c .w .l)) (.q (.s (.q (.b (.loop [(15,.i)] (.q (.s (.c .l .l) (.s (.b (.q (.q (.b (.loop [(20,.i)] (.q (.s (.c .l .l) (.s (.b (.q (.draw [0,1,2,3,4,5,6,7,8,9,10,11,12,13]))) .l)))))))) .l)))))) .w)))) func57 ⟨Zbi,zxx,trivial⟩
def Z76:zj:=mkE (asl (ai az)) ts λa=>F.Y9 a.1 a.2.1
theorem Zne:EnP 259 Z76 false:=eo (cgP 27 []) (.q (.join [] (.q (.c .l .l)) (.s (.q (.q (.c .l .l))) .w))) func259 trivial
def Z77:zj:=mkE (asl az) ts λa=>F.Y0 a.1
theorem Znf:EnP 187 Z77 false:=eo (cgP 36 [(259,Z76)]) (.q (.q (.s (.q (.b (.loop [(3,.i),(11,.i)] (.q (.s (.c .l .l) (.join [(3,.i)] (.b (.q (.q (.q (.c .l .l))))) .l)))))) (.q (.s (.q (.b (.loop [(6,.s),(27,.i)] (.q (.s (.c .l .l) (.s (.b .w) .l)))))) .w))))) func187 ⟨Zne,trivial⟩
def Z78:zj:=mkE (ac qi (ac qi az)) ti λa=>F.zg3 a.1 a.2.1
theorem Zng:EnP 329 Z78 false:=eo (cgP 28 [(77,zn9),(349,zk2),(317,zvg)] [] [(17,2),(19,3),(22,3),(24,2)] [2,3]) (.q (.s (.s (.draw [0,2,1,3,4,5]) (.q (.c (.s (.q (.c .w .l)) .w) .l))) (.s (.draw [0,1,2,3,5,6,7,8,4,9,10,11]) .l))) func329 ⟨ztp,zqh,Zb0,trivial⟩
def Z79:zj:=mkE (ac qi (ac qi az)) tb λa=>F.z5x a.1 a.2.1
theorem Znh:EnP 328 Z79 false:=eo (cgP 9 [(329,Z78)] [] [] [2,3]) (.q .w) func328 ⟨Zng,trivial⟩
def Z7a:zj:=mkE (asl (asl (P6 328 az))) tb λa=>F.yr a.1 a.2.1
theorem Zni:EnP 327 Z7a false:=eo (cgP 32 [(328,Z79)] [] [] [8,9]) (.q (.s (.q (.c .w .l)) (.s (.q (.b (.loop [(17,.i)] (.q (.s (.c .l .l) (.s (.b (.q (.q (.q (.c .w .l))))) .l)))))) .w))) func327 ⟨Znh,trivial⟩
def Z7b:zj:=mkE (asl (asl az)) tb λa=>F.z7v a.1 a.2.1
theorem Znj:EnP 297 Z7b false:=eo (cgP 8 [(327,Z7a)]) (.q .w) func297 ⟨Zni,trivial⟩
def Z7c:zj:=mkE (asl (asl (P6 297 az))) tb λa=>F.Zr a.1 a.2.1
theorem Znk:EnP 296 Z7c false:=eo (cgP 32 [(297,Z7b)]) (.q (.s (.q (.c .w .l)) (.s (.q (.b (.loop [(17,.i)] (.q (.s (.c .l .l) (.s (.b (.q (.q (.q (.c .w .l))))) .l)))))) .w))) func296 ⟨Znj,trivial⟩
def zvy:zj:=mkE (asl (asl az)) tb λa=>F.z0m a.1 a.2.1
theorem Zbj:EnP 255 zvy false:=eo (cgP 18 [(296,Z7c)]) (.q .w) func255 ⟨Znk,trivial⟩
def zvz:zj:=mkE (ai az) ts λa=>F.z3h a.1
theorem Zbk:EnP 334 zvz false:=eo (cgP 18 [(133,zem)]) (.q (.q (.s (.q (.b (.loop [(9,.i)] (.q (.s (.c .l .l) (.s (.b .w) .l)))))) .w))) func334 ⟨zhl,trivial⟩
def Z7d:zj:=mkE (ac qi az) tb λa=>F.z6j a.1
theorem Znl:EnP 338 Z7d false:=eo (cgP 6 [(73,zn8)] [] [] [1]) (.q .w) func338 ⟨zto,trivial⟩
def Z7e:zj:=mkE (asl (P6 338 az)) ti λa=>F.Yg a.1
theorem Znm:EnP 361 Z7e false:=eo (cgP 19 [(338,Z7d)]) (.q (.s (.q (.b (.loop [(8,.i)] (.q (.s (.c .l .l) (.s (.b (.q (.q (.c .w .l)))) .l)))))) .w)) func361 ⟨Znl,trivial⟩
def Z7f:zj:=mkE (asl (P6 338 az)) tb λa=>F.yx a.1
theorem Znn:EnP 335 Z7f false:=eo (cgP 9 [(361,Z7e)]) (.q .w) func335 ⟨Znm,trivial⟩
def zp3:zj:=mkE (asl (ai az)) tb λa=>F.z0n a.1 a.2.1
theorem zxy:EnP 306 zp3 false:=eo (cgP 14 [(335,Z7f)]) (.q .w) func306 ⟨Znn,trivial⟩
def zw0:zj:=mkE (asl az) tb λa=>F.z0j a.1
theorem Zbl:EnP 305 zw0 false:=eo (cgP 18 [(306,zp3)]) (.q (.s (.q (.b (.loop [(7,.i)] (.q (.s (.c .l .l) (.s (.b (.q (.q (.c .w .l)))) .l)))))) .w)) func305 ⟨zxy,trivial⟩
def zw1:zj:=mkE (asl (ac qi az)) ts λa=>F.z5l a.1 a.2.1
theorem Zbm:EnP 300 zw1 false:=eo (cgP 22 [(334,zvz),(305,zw0),(73,zn8)] [] [] [3]) (.q (.join [] (.q (.c .w .l)) (.q (.q .w)))) func300 ⟨Zbk,Zbl,zto,trivial⟩
def Z7g:zj:=mkE (ac qi az) tb λa=>F.zge a.1
theorem Zno:EnP 336 Z7g false:=eo (cgP 6 [(77,zn9)] [] [] [1]) (.q .w) func336 ⟨ztp,trivial⟩
def Z7h:zj:=mkE (asl (P6 336 az)) ti λa=>F.Qo a.1
theorem Znp:EnP 361 Z7h false:=eo (cgP 19 [(336,Z7g)]) (.q (.s (.q (.b (.loop [(8,.i)] (.q (.s (.c .l .l) (.s (.b (.q (.q (.c .w .l)))) .l)))))) .w)) func361 ⟨Zno,trivial⟩
def Z7i:zj:=mkE (asl (P6 336 az)) tb λa=>F.qv a.1
theorem Znq:EnP 335 Z7i false:=eo (cgP 9 [(361,Z7h)]) (.q .w) func335 ⟨Znp,trivial⟩
def zw2:zj:=mkE (asl az) tb λa=>F.zb4 a.1
theorem Zbn:EnP 301 zw2 false:=eo (cgP 6 [(335,Z7i)]) (.q .w) func301 ⟨Znq,trivial⟩
def Z7j:zj:=mkE (asl az) ts λa=>F.Qm a.1
theorem Znr:EnP 298 Z7j false:=eo (cgP 8 []) (.q (.s (.q (.c .w .l)) .w)) func298 trivial
def zw3:zj:=mkE (asl (asl az)) ts λa=>F.z7u a.1 a.2.1
theorem Zbo:EnP 256 zw3 false:=eo (cgP 19 [(298,Z7j),(133,zem)] [] [] [16]) (.q (.q (.s (.b (.loop [(5,.s)] (.s (.q (.c .l .l)) (.b .l)))) .w))) func256 ⟨Znr,zhl,trivial⟩
def zh4:zj:=mkE (asl (asl az)) tb λa=>F.Vf a.1 a.2.1
theorem zm0:EnP 263 zh4 false:=eo (cgP 14 [(305,zw0),(306,zp3)]) (.q .w) func263 ⟨Zbl,zxy,trivial⟩
def zp4:zj:=mkE (asl (asl (asl az))) tb λa=>F.z1v a.1 a.2.1 a.2.2.1
theorem zxz:EnP 308 zp4 false:=eo (cgP 17 [(263,zh4),(306,zp3)]) (.q .w) func308 ⟨zm0,zxy,trivial⟩
def zp5:zj:=mkE (asl az) (t2 ts ts) λa=>F.z93 a.1
theorem zy0:EnP 340 zp5 false:=eo (cgP 15 []) (.q (.s (.draw [0,1,2,3,4,5,6,7,8,9,10,11,12]) .l)) func340 trivial
def zp6:zj:=mkE (asl az) (t2 ts ts) λa=>F.z44 a.1
theorem zy1:EnP 341 zp6 false:=eo (cgP 14 []) (.q (.s (.draw [0,1,2,3,4,5,6,7,8,9,10,11]) .l)) func341 trivial
def Z7k:zj:=mkE (ac Zv (ac Zv az)) Zv λa=>F.z5t a.1 a.2.1
theorem Zns:EnP 377 Z7k false:=eo (cgP 40 [(210,z7o),(390,zvh),(212,zk5),(272,zz2),(391,zvi)] [] [(7,2),(10,3),(13,2),(15,3),(18,2),(28,3),(34,2)] [2,3,4]) (.q (.s (.draw [0,1,3,4,2,5,6,7]) (.s (.q (.c (.s (.draw [0,1,2,3,4,5,6]) .l) .l)) (.s (.q (.c (.s (.draw [0,1,2,3,4,5,6]) .l) .l)) (.s (.draw [0,1,2,3,4,5,6]) .l))))) func377 ⟨z91,Zb1,zo2,Zbz,Zb2,trivial⟩
def Z7l:zj:=mkE (ac qi (ac qi az)) qi λa=>F.z6y a.1 a.2.1
theorem Znt:EnP 362 Z7l false:=eo (cgP 39 [(349,zk2),(377,Z7k),(350,zoy),(148,zru),(198,zox)] [] [(6,2),(10,3),(14,2),(16,3),(21,2),(23,3),(26,3),(28,2),(33,2),(35,3)] [2,3,4,5]) (.q (.join [(4,.box [.bool,.sl,.bool,.sl])] (.q (.c .w .l)) (.s (.draw [0,1,2,3,5,6,7,8,11,4,9,10,12]) (.s (.draw [0,1,2,3,4,5,6,7]) .l)))) func362 ⟨zqh,Zns,zxs,zzx,zxr,trivial⟩
def zk3:zj:=mkE (asl (asl az)) ts λa=>F.z3f a.1 a.2.1
theorem zqi:EnP 337 zk3 false:=eo (cgP 29 [(362,Z7l)]) (.q (.q (.s (.q (.b (.loop [(12,.i)] (.q (.s (.c .l .l) (.s (.b (.q (.draw [0,1,2,3,4,5,6,7,8,9,10,11,12]))) .l)))))) .w))) func337 ⟨Znt,trivial⟩
def zu3:ArgT (Sl×Sl×Sl×Unit):=(asl (asl (asl az)))
def zui:Ty Sl:=ts
def zp7:zj:=mkE zu3 zui λa=>F.z3g a.1 a.2.1 a.2.2.1
def Zie(n:Nat):Cfg:=(cgP 74 [(340,zp5),(341,zp6),(309,mkE zu3 zui (λa=>F.Vr n a.1 a.2.1 a.2.2.1)),(337,zk3),(318,zvk),(301,zw2),(334,zvz)])
theorem Zcd:∃fn,prog.funcs[309]?=some fn/\fn.body.isNone=false/\(fn.name == "runtime.NumGoroutine")=false:=⟨_,func309,rfl,by decide⟩
set_option maxHeartbeats 4000000 in
theorem Zco:∀n a K D w,Sub D w->F.Vr n a.1 a.2.1 a.2.2.1 K D->Calls prog 309 (zu3.up a).toArray w (z6a (λv h=>zui.dn v λr=>K r h) D w)
 | 0,_,_,_,_,_,h=>h.elim
 | n+1,a,K,D,w,hs,h=>z0p (C:=Zie n) (F:=λa=>F.Vr (n+1) a.1 a.2.1 a.2.2.1) (fn:=f309) (c:=bd f309) (an:=(.seq .leaf (.join [] (.block (.seq .leaf (.cond (.seq (.draw [0,1,2,3,4,5,6,7,8]) .leaf) (.seq .leaf (.cond (.seq .leaf .leaf) .leaf))))) (.seq .leaf (.seq .leaf (.seq .leaf (.seq .leaf (.seq .leaf .leaf)))))))) ⟨zy0,zy1,(Ys Zcd (Zco n)),zqi,Zb4,Zbn,Zbk,trivial⟩ trivial func309 rfl rfl (λ_=>rfl) (by intro a K D;kernel_rfl) a K D w hs h
theorem zy2:EnP 309 zp7 false:=Ys Zcd (λa K D w hs h=>h.elim λm h=>Zco m a K D w hs h)
def zp8:zj:=mkE (asl (asl (asl az))) ts λa=>F.z3e a.1 a.2.1 a.2.2.1
theorem zy3:EnP 266 zp8 false:=eo (cgP 16 [(308,zp4),(309,zp7)]) (.q (.s (.q (.c .w .l)) .w)) func266 ⟨zxz,zy2,trivial⟩
def Z7m:zj:=mkE (asl (asl (asl az))) ts λa=>F.zo6 a.1 a.2.1 a.2.2.1
theorem Znu:EnP 302 Z7m false:=eo (cgP 15 [(308,zp4),(337,zk3)]) (.q (.s (.q (.c .w .l)) .w)) func302 ⟨zxz,zqi,trivial⟩
end Den
end

section
namespace Den
open Go Iv Go.Sort
theorem ziy{α:Type}[Inhabited α]{enc:α->Value}{off:Nat}{d:Array α}{cs:List Value}(h:off+d.size<=cs.length):putCells enc off d cs.toArray=(Zc cs off (d.toList.map enc)).toArray:=by
 have hl:(Zc cs off (d.toList.map enc)).length=cs.length:=Yj (by simpa using h);refine Array.ext' ?_;show _=Zc cs off (d.toList.map enc);refine List.ext_getElem? λi=>?_
 rw[Tl];unfold putCells;rw[Array.getElem?_mapIdx,List.getElem?_toArray];rcases Nat.lt_or_ge i cs.length with hi | hi
 . rw[Jc hi];have e:(Zc cs off (d.toList.map enc))[i]?=some (if off<=i/\i<off+d.size then enc d[i-off]! else cs[i]):=by
    unfold Zc;by_cases c1:i<off
    . rw[if_neg (by omega),Uq,Uh (by simp;omega),List.getElem?_take_of_lt c1,Jc hi]
    . by_cases c2:i<off+d.size
      . rw[if_pos ⟨by omega,c2⟩,Uq,Uz (by simp;omega)];have e1:i-(cs.take off).length=i-off:=by simp;omega
        rw[e1,Uh (by simp;omega),Uw];have:d.toList[i-off]?=some d[i-off]! := by
         rw[Tl,getElem!_pos d (i-off) (by omega),getElem?_pos d (i-off) (by omega)]
        rw[this];rfl
      . rw[if_neg (by omega),Uz (by simp;omega)];rw[Gy,List.getElem?_eq_some_iff];refine⟨by simp;omega,?_⟩;congr 1;simp;omega
   exact e.symm
 . rw[J5 hi,J5 (by rw[hl];exact hi)];rfl
theorem zif{α:Type}[Inhabited α]{enc:α->Value}{D:Hp}{w w':World}{blk off n:Nat}{d:Array α}{os:Array Obj}{bl:Blk}{K:Value->Hp->Prop}(hs:Sub D w)(hb:D blk=some bl)(hfz:bl.fz=(0,0))(hlen:off+d.size<=bl.cells.length)
 (hw:w'=grow (putRow enc (ahead w n) blk off d) os) (hK:K (.tuple #[]) (D.ins blk { bl with cells:=Zc bl.cells off (d.toList.map enc) })):z6a K D w (.returned (.tuple #[])) w':=by
 subst hw;have hwb:=hs _ _ hb;have hlt:=hs.lt hb;have hsz:(putRow enc (ahead w n) blk off d).heap.size=w.heap.size:=by
  unfold putRow mapBlock;simp only[Array.size_modify];rfl
 have hget:∀k,k<w.heap.size->(grow (putRow enc (ahead w n) blk off d) os).heap[k]?=(w.heap.modify blk (onCells (putCells enc off d)))[k]?:=λk hk=>by
  unfold grow;simp only;rw[Array.getElem?_append_left (by rw[hsz];exact hk)];rfl
 have hne:∀k,k<w.heap.size->k≠blk->(grow (putRow enc (ahead w n) blk off d) os).heap[k]?=w.heap[k]?:=λk hk hkb=>by
  rw[hget k hk,Array.getElem?_modify,if_neg (λhh=>hkb hh.symm)]
 refine⟨_,_,rfl,hK,λk b hk=>?_,⟨?_,λk h1 h2=>?_,rfl,rfl,rfl,?_⟩,λk h1 h2=>?_⟩
 . by_cases hkb:k=blk
   . subst hkb;rw[Hp.ins_same]at hk;cases hk;rw[hget k hlt,Array.getElem?_modify,if_pos rfl,hwb,hfz];simp only[U0,onCells];rw[ziy hlen]
   . rw[Hp.ins_ne hkb]at hk;rw[hne k (hs.lt hk) hkb];exact hs k b hk
 . unfold grow;simp only[Array.size_append,hsz];omega
 . exact hne k h1 λhh=>by rw[hh,hb]at h2;cases h2
 . show w.drawn<=w.drawn+n;omega
 . by_cases hkb:k=blk
   . subst hkb;rw[hb]at h2;cases h2
   . rw[Hp.ins_ne hkb]at h1;exact absurd h2 h1
theorem zwi{α:Type}[Inhabited α]{enc:α->List Value}{k:Nat}{d:Array α}(hk:∀x,(enc x).length=k):(flatK enc k d).toList.map id=d.toList.flatMap enc:=by
 rw[List.map_id];refine List.ext_getElem? λt=>?_
 by_cases ht:t<d.size*k
 . have k0:0<k:=by
    rcases Nat.eq_zero_or_pos k with h | h
    . subst h;simp at ht
    . exact h
   have h1:t/k<d.toList.length:=by rw[Pa];exact Nat.div_lt_of_lt_mul (by rw[Nat.mul_comm];exact ht)
   have h2:t % k<k:=Nat.mod_lt _ k0;have e:=zc3 (c:=enc) hk (xs:=d.toList) h1 h2;rw[show t/k*k+t % k=t from by rw[Nat.mul_comm];exact Nat.div_add_mod t k]at e;rw[e,Tl];have e2:=get_flatK enc k d t ht;rw[getElem!_pos _ t (by rw[size_flatK];exact ht)]at e2;rw[getElem?_pos _ t (by rw[size_flatK];exact ht),e2];have e3:d[t/k]! = d.toList[t/k]:=by rw[getElem!_pos d (t/k) (by simpa using h1)];rfl
   rw[e3,getElem!_pos _ _ (by rw[hk];exact h2)];exact(Jc (by rw[hk];exact h2)).symm
 . rw[J5 (by rw[Pa,size_flatK];omega),J5 (by rw[Xc hk,Pa];omega)]
theorem Za7{K:Value->Hp->Prop}{w w':World}{e:Ending}(h:z6a K Hp.emp w e w'):∃v h',e=.returned v/\K v h'/\∃q os,w'=grow (w.drewN q) os:=by
 obtain⟨v,h',rfl,hK,_,⟨h1,h2,h3,h4,h5,h6⟩,_⟩:=h;refine⟨v,h',rfl,hK,w'.drawn-w.drawn,w'.heap.extract w.heap.size w'.heap.size,?_⟩;have e1:w'.heap=w.heap++w'.heap.extract w.heap.size w'.heap.size:=by
  apply Array.ext_getElem?;intro k;by_cases hk:k<w.heap.size
  . rw[Array.getElem?_append_left hk];exact h2 k hk rfl
  . rw[Array.getElem?_append_right (by omega),Array.getElem?_extract];by_cases hk2:k<w'.heap.size
    . rw[if_pos (by omega)];congr 1;omega
    . rw[if_neg (by omega),getElem?_neg w'.heap k (by omega)]
 cases w' with
 | mk a b c d f=>
   simp only at h3 h4 h5 h6 e1 |-
   unfold grow World.drewN;cases w;simp only[World.mk.injEq]at *;exact⟨e1,h3,by omega,h4,h5⟩
theorem znt{D:Hp}{w:World}{K:Value->Hp->Prop}(hs:Sub D w)(hK:K (.tuple #[]) D):z6a K D w (.returned (.tuple #[])) w:=
 ⟨_,D,rfl,hK,hs,Fr.refl D w,λk h1 h2=>absurd h2 h1⟩
theorem zyv{D:Hp}{w:World}{b o i:Nat}{bl:Blk}{v:Value}(hs:Sub D w)(hb:D b=some bl)(hfz:bl.fz=(0,0))(hv:bl.cells[o+i]?=some v):w.cell? ⟨b,o+i,none⟩=some v/\w.frozen? ⟨b,o+i,none⟩=false:=by
 refine⟨hs.cell ?_,?_⟩
 . unfold Hp.cell;simp only[hb];exact hv
 . have h:=hs _ _ hb;unfold World.frozen?;simp only[h,hfz];simp
theorem zxj{P:Program}{g:Nat}(h0:∀(p:Option Addr) (c:Nat) (w:World),Calls P g #[.slice p 0 c] w λe w'=>e=.returned (.tuple #[])/\w'=w)
 (h1:∀(blk off cap:Nat) (zs:List Int) (w:World),Holds (Ge .i64) w blk off zs.toArray->blk<w.heap.size->zs.length<4611686018427387904->Calls P g #[.slice (some ⟨blk,off,none⟩) zs.length cap] w λe w'=>e=.returned (.tuple #[])/\∃n os,w'=grow (putRow (Ge .i64) (Sort.ahead w n) blk off (zs.mergeSort λx y=>decide (x<=y)).toArray) os)
 (x:Sl) (K:Unit->Hp->Prop) (D:Hp) (w:World) (hs:Sub D w) (hk:zik Zds 1 Zer x K D):Calls P g #[.slice x.a x.len x.cap] w (z6a (λv h=>Ty.unit.dn v λr=>K r h) D w):=by
 rcases hk with ⟨h2,h3⟩ | ⟨b,o,bl,xs,h2,h3,h4,h5,h6,h7,h8,h9⟩
 . rw[h2];exact(h0 x.a x.cap w).mono λe w' ⟨he,hw⟩=>by rw[he,hw];exact znt hs h3
 . rw[h2,h3];have hfm:∀l:List Int,l.flatMap Zds=l.map (Ge .i64):=λl=>by
    induction l with
    | nil=>rfl
    | cons a l ih=>rw[List.flatMap_cons,U3,ih];rfl
   rw[Nat.mul_one]at h7 h8;rw[hfm]at h8 h9;have hcell:∀j (hj:j<xs.length),bl.cells[o+j]?=some (.int .i64 xs[j]):=λj hj=>by
    have this:((bl.cells.drop o).take _)[j]?=_:=congrArg (λl=>l[j]?) h8;rw[List.getElem?_take,if_pos hj,Gy,Uw,Jc hj]at this;exact this
   refine(h1 b o x.cap xs w (λj hj=>?_) (hs.lt h5) (by omega)).mono λe w' ⟨he,n,os,hw⟩=>?_
   . have hj':j<xs.length:=by simpa using hj
     have e:xs.toArray[j]! = xs[j]:=by rw[getElem!_pos _ j (by simpa using hj')];rfl
     rw[e];exact zyv hs h5 h6 (hcell j hj')
   . rw[he];refine zif (bl:=bl) hs h5 h6 (by simp;omega) hw ?_;exact h9
theorem zs2{α:Type}[Inhabited α]{enc:α->List Value}{k:Nat}{d:Array α}(hk:∀x,(enc x).length=k):(flatK enc k d).toList=d.toList.flatMap enc:=by
 have:=zwi (d:=d) hk
 rwa [List.map_id]at this
theorem zth{P:Program}{g f:Nat}{C:Nat->Nat->Nat->World->Prop}{lt:(Int×Int)->(Int×Int)->Bool}(h0:∀(p:Option Addr) (c:Nat) (fv:Value) (w:World),Calls P f #[.slice p 0 c,fv] w λe w'=>e=.returned (.tuple #[])/\w'=w)
 (h1:∀(blk off cap:Nat) (d:Array (Int×Int)) (w:World),C blk off d.size w->HoldsK z00 2 w blk off d->blk<w.heap.size->d.size<4611686018427387904->Calls P f #[.slice (some ⟨blk,off,none⟩) d.size cap,.func (.func g) #[] #[]] w λe w'=>e=.returned (.tuple #[])/\∃n os,w'=Go.Proofs.sortWorldK z00 2 w blk off n (d.toList.mergeSort lt).toArray os)
 (hlt:∀xs,zlw xs=xs.mergeSort lt) (hC:∀blk off n w,C blk off n w)
 (x:Sl) (K:Unit->Hp->Prop) (D:Hp) (w:World) (hs:Sub D w) (hk:zik z00 2 zlw x K D):Calls P f #[.slice x.a x.len x.cap,.func (.func g) #[] #[]] w (z6a (λv h=>Ty.unit.dn v λr=>K r h) D w):=by
 have hc2:∀e:Int×Int,(z00 e).length=2:=λ_=>rfl
 rcases hk with ⟨h2,h3⟩ | ⟨b,o,bl,xs,h2,h3,h4,h5,h6,h7,h8,h9⟩
 . rw[h2];exact(h0 x.a x.cap _ w).mono λe w' ⟨he,hw⟩=>by rw[he,hw];exact znt hs h3
 . rw[h2,h3];have hfl:(xs.flatMap z00).length=xs.length*2:=Xc hc2 xs;have hfk:(flatK z00 2 xs.toArray).toList=xs.flatMap z00:=zs2 (d:=xs.toArray) hc2;have hcell:∀j (hj:j<xs.length*2),bl.cells[o+j]?=some ((xs.flatMap z00)[j]'(by rw[hfl];exact hj)):=λj hj=>by
    have this:((bl.cells.drop o).take _)[j]?=_:=congrArg (λl=>l[j]?) h8;rw[List.getElem?_take,if_pos hj,Gy,Jc (l:=xs.flatMap z00) (by rw[hfl];exact hj)]at this;exact this
   have hsz:xs.toArray.size=xs.length:=List.size_toArray;have hcall:=h1 b o x.cap xs.toArray w (hC _ _ _ _) (λj hj=>?_) (hs.lt h5) (by rw[hsz];omega)
   . rw[hsz]at hcall;refine hcall.mono λe w' ⟨he,n,os,hw⟩=>?_
     rw[he];have hsl:(zlw xs).length=xs.length:=by rw[hlt];exact List.length_mergeSort _
     refine zif (enc:=id) (d:=flatK z00 2 (xs.mergeSort lt).toArray) (bl:=bl) hs h5 h6 (by rw[size_flatK,List.size_toArray,<-hlt,hsl];omega) hw ?_;have e2:(flatK z00 2 (xs.mergeSort lt).toArray).toList.map id=(zlw xs).flatMap z00:=by
      rw[List.map_id,zs2 (d:=(xs.mergeSort lt).toArray) hc2,hlt]
     rw[e2];exact h9
   . have hj':j<xs.length*2:=by simpa [hsz] using hj
     have e:(flatK z00 2 xs.toArray)[j]! = (xs.flatMap z00)[j]'(by rw[hfl];exact hj'):=by
      rw[getElem!_pos _ j hj];have this:((flatK z00 2 xs.toArray).toList)[j]?=(xs.flatMap z00)[j]?:=by rw[hfk]
      rw[Jc (l:=xs.flatMap z00) (by rw[hfl];exact hj'),Jc (l:=(flatK z00 2 xs.toArray).toList) (by rw[Pa];exact hj)]at this;have:=J9 this;rw[<-this];rfl
     show w.cell? _=some (id _)/\_;rw[e];exact zyv hs h5 h6 (hcell j hj')
end Den
end

section
namespace Den
open Go Iv Go.Sort
theorem ltE{x y:Int×Int}:Lo z6p x y=true↔x.1<y.1\/x.1=y.1/\x.2<y.2:=by
 unfold Lo z6p;rw[decide_eq_true_iff];by_cases h1:x.1<y.1
 . rw[if_pos h1];simp[h1]
 . rw[if_neg h1];by_cases h2:y.1<x.1
   . rw[if_pos h2];constructor<;>intro h<;>omega
   . rw[if_neg h2];by_cases h3:x.2<y.2
     . rw[if_pos h3];constructor<;>intro h<;>omega
     . rw[if_neg h3];by_cases h4:y.2<x.2
       . rw[if_pos h4];constructor<;>intro h<;>omega
       . rw[if_neg h4];constructor<;>intro h<;>omega
theorem Z1b{x y:Int×Int}:Lo z6p x y=false↔¬(x.1<y.1\/x.1=y.1/\x.2<y.2):=by
 rw[<-ltE];simp
theorem Zsm:SWO (Lo z6p):=⟨λx=>Z1b.2 (by omega),λx y z h1 h2=>ltE.2 (by have:=ltE.1 h1;have:=ltE.1 h2;omega),λx y z h1 h2=>Z1b.2 (by have:=Z1b.1 h1;have:=Z1b.1 h2;omega)⟩
theorem Zsu:∀x y:Int×Int,Lo z6p x y=false->Lo z6p y x=false->x=y:=λx y h1 h2=>by
 have h1:=Z1b.1 h1;have h2:=Z1b.1 h2;exact Prod.ext (by omega) (by omega)
theorem Z93:∀x:Int×Int,∀v∈z00 x,v.oneCell'=true:=λx v hv=>by
 simp only[z00,List.mem_cons,List.not_mem_nil,or_false]at hv;rcases hv with rfl | rfl<;>rfl
theorem Z0g{P:Program}{g:Nat}{F:zj}(hF:Zd6 P g F){blk off n:Nat}{w:World}(hk:∀(x y:Int×Int) (K:Value->Hp->Prop),(∀h,K (.int .i64 (z6p x y)) h)->F [.agg (z00 x).toArray,.agg (z00 y).toArray] K Hp.emp):Go.Proofs.CmpLays P g #[] z00 2 z6p blk off n w:=λm os dk _ x y=>by
 have hs:Sub Hp.emp (Go.Proofs.sortWorldK z00 2 w blk off m dk os):=λk b hb=>by cases hb
 have h:=hF.2 [.agg (z00 x).toArray,.agg (z00 y).toArray] (λv _=>v=.int .i64 (z6p x y)) Hp.emp _ hs (hk x y _ λ_=>rfl);refine h.mono λe w' hp=>?_
 obtain⟨v,h',rfl,rfl,hq⟩:=Za7 hp;exact⟨rfl,hq⟩
end Den
end

section
namespace Den
open Go Iv Lx
def cm(a b:Int):Int:=if a<b then -1 else if b<a then 1 else 0
theorem zol{x y:Int×Int}:z6p x y=if cm x.1 y.1≠0 then cm x.1 y.1 else cm x.2 y.2:=by
 unfold z6p cm;by_cases h1:x.1<y.1
 . rw[if_pos h1,if_pos h1];rfl
 . by_cases h2:y.1<x.1
   . rw[if_neg h1,if_neg h1,if_pos h2,if_pos h2];rfl
   . simp[h1,h2]
theorem za0{h:Hp}{x y:Int×Int}{K:Int->Hp->Prop}(H:∀h',h.le h'->K (z6p x y) h'):F.z23 ⟨x.1,x.2⟩ ⟨y.1,y.2⟩ K h:=by
 unfold F.z23;refine zcf λp1 h1 hl1 c1=>?_
 refine zcf λp2 h2 hl2 c2=>?_
 have i1:IL h2 ⟨some p1,2,2⟩ [x.1,x.2]:=IL.le ⟨z3w (size:=1) (n:=2) c1 rfl,Ja _⟩ hl2;have i2:IL h2 ⟨some p2,2,2⟩ [y.1,y.2]:=⟨z3w (size:=1) (n:=2) c2 rfl,Ja _⟩;have j1:=i1.cut (n:=2) (Ja _);have j2:=i2.cut (n:=2) (Ja _);refine⟨by omega,by omega,Int.le_refl _,by omega,by omega,Int.le_refl _,?_⟩;have hle:=Hp.le_trans hl1 hl2;refine zd (λr h'=>r=z6p x y) (λK2 hk2=>?_) λr h' hl hr=>by subst hr;exact H _ (Hp.le_trans hle hl)
 unfold F.z0a;have l1:=j1.len;have l2:=j2.len;refine yg (n:=2) (by omega) (λi h'=>h2.le h'/\(0<i->cm x.1 y.1=0)/\(1<i->cm x.2 y.2=0)) ⟨Hp.le_refl _,by omega,by omega⟩ ?_;rintro i h4 hi2 ⟨hl4,z1,z2⟩ k hk4;refine ze (λh5=>?_) (λh5=>?_)
 . have hi':i<2:=by have:(i:Int)<((2:Nat):Int):=h5;omega
   rcases(by omega:i=0\/i=1)with rfl | rfl
   . refine(j1.le hl4).get 0 rfl (by simp) (ze (λhh=>absurd hh (by show ¬((0:Nat):Int)>=((2:Nat):Int);omega)) λ_=>?_);refine(j2.le hl4).get 0 rfl (by simp) ?_;refine z34 ?_;show ifP (cm x.1 y.1 != 0) _ _;refine Z2 (λh6=>hk2 _ _ hl4 ?_) (λh6=>hk4 _ hi' ⟨hl4,λ_=>h6,by omega⟩);have e:z6p x y=cm x.1 y.1:=by rw[zol,if_pos h6]
     exact e.symm
   . have z:=z1 (by omega);refine(j1.le hl4).get 1 rfl (by simp) (ze (λhh=>absurd hh (by show ¬((1:Nat):Int)>=((2:Nat):Int);omega)) λ_=>?_);refine(j2.le hl4).get 1 rfl (by simp) ?_;refine z34 ?_;show ifP (cm x.2 y.2 != 0) _ _;have e:z6p x y=cm x.2 y.2:=by rw[zol,if_neg (by omega)]
     exact Z2 (λh6=>hk2 _ _ hl4 e.symm) (λh6=>hk4 _ hi' ⟨hl4,λ_=>z,λ_=>h6⟩)
 . have:i=2:=by have:¬(i:Int)<((2:Nat):Int):=h5;omega
   subst this;refine ze (λhh=>absurd hh (by show ¬((2:Nat):Int)<((2:Nat):Int);omega)) λ_=>hk2 _ _ hl4 ?_
   rw[zol,if_neg (by have:=z1 (by omega);omega),z2 (by omega)]
end Den
end

section
namespace Go.Proofs
open Go.Shelf
def Tryz.sortI_ren:Go.Shelf.Ren:=⟨λ| 189=>109 | 125=>182 | 257=>181 | 128=>243 | 129=>244 | 294=>234 | 295=>235 | 296=>236 | 297=>237 | 298=>238 | 299=>239 | 216=>240 | 300=>241 | 301=>242 | 328=>288 | 329=>289 | 330=>290 | 331=>291 | 332=>292 | 215=>224 | 343=>325 | n=>n,λ| 28=>41 | 3=>3 | 46=>235 | 0=>0 | 51=>206 | 53=>203 | 4=>4 | 183=>273 | 182=>272 | 131=>184 | 5=>5 | 9=>9 | 218=>313 | 222=>317 | 228=>342 | 229=>135 | n=>n,λ| n=>n⟩
theorem Tryz.sortI:Go.Proofs.Lays.n189 Tryz.prog Tryz.sortI_ren:={
 mixed:=by kernel_rfl
 f125:=Tryz.func182.trans (congrArg some (by kernel_rfl))
 f128:=Tryz.func243.trans (congrArg some (by kernel_rfl))
 f129:=Tryz.func244.trans (congrArg some (by kernel_rfl))
 f189:=Tryz.func109.trans (congrArg some (by kernel_rfl))
 f215:=Tryz.func224.trans (congrArg some (by kernel_rfl))
 f216:=Tryz.func240.trans (congrArg some (by kernel_rfl))
 f257:=Tryz.func181.trans (congrArg some (by kernel_rfl))
 f294:=Tryz.func234.trans (congrArg some (by kernel_rfl))
 f295:=Tryz.func235.trans (congrArg some (by kernel_rfl))
 f296:=Tryz.func236.trans (congrArg some (by kernel_rfl))
 f297:=Tryz.func237.trans (congrArg some (by kernel_rfl))
 f298:=Tryz.func238.trans (congrArg some (by kernel_rfl))
 f299:=Tryz.func239.trans (congrArg some (by kernel_rfl))
 f300:=Tryz.func241.trans (congrArg some (by kernel_rfl))
 f301:=Tryz.func242.trans (congrArg some (by kernel_rfl))
 f328:=Tryz.func288.trans (congrArg some (by kernel_rfl))
 f329:=Tryz.func289.trans (congrArg some (by kernel_rfl))
 f330:=Tryz.func290.trans (congrArg some (by kernel_rfl))
 f331:=Tryz.func291.trans (congrArg some (by kernel_rfl))
 f332:=Tryz.func292.trans (congrArg some (by kernel_rfl))
 f343:=Tryz.func325.trans (congrArg some (by kernel_rfl))
 t0:=Tryz.underlying0
 a0:=Tryz.isAgg0
 z0:=Tryz.sizeOf0
 v0:=Tryz.zeroValue0
 t3:=Tryz.underlying3
 a3:=Tryz.isAgg3
 z3:=Tryz.sizeOf3
 v3:=Tryz.zeroValue3
 t4:=Tryz.underlying4
 a4:=Tryz.isAgg4
 z4:=Tryz.sizeOf4
 v4:=Tryz.zeroValue4
 t5:=Tryz.underlying5
 a5:=Tryz.isAgg5
 z5:=Tryz.sizeOf5
 v5:=Tryz.zeroValue5
 t9:=Tryz.underlying9
 a9:=Tryz.isAgg9
 z9:=Tryz.sizeOf9
 v9:=Tryz.zeroValue9
 t28:=Tryz.underlying41
 a28:=Tryz.isAgg41
 z28:=Tryz.sizeOf41
 v28:=Tryz.zeroValue41
 t46:=Tryz.underlying235
 a46:=Tryz.isAgg235
 z46:=Tryz.sizeOf235
 v46:=Tryz.zeroValue235
 t51:=Tryz.underlying206
 a51:=Tryz.isAgg206
 z51:=Tryz.sizeOf206
 v51:=Tryz.zeroValue206
 t53:=Tryz.underlying203
 a53:=Tryz.isAgg203
 z53:=Tryz.sizeOf203
 v53:=Tryz.zeroValue203
 t131:=Tryz.underlying184
 a131:=Tryz.isAgg184
 z131:=Tryz.sizeOf184
 v131:=Tryz.zeroValue184
 t182:=Tryz.underlying272
 a182:=Tryz.isAgg272
 z182:=Tryz.sizeOf272
 v182:=Tryz.zeroValue272
 t183:=Tryz.underlying273
 a183:=Tryz.isAgg273
 z183:=Tryz.sizeOf273
 v183:=Tryz.zeroValue273
 t218:=Tryz.underlying313
 a218:=Tryz.isAgg313
 z218:=Tryz.sizeOf313
 v218:=Tryz.zeroValue313
 t222:=Tryz.underlying317
 a222:=Tryz.isAgg317
 z222:=Tryz.sizeOf317
 v222:=Tryz.zeroValue317
 t228:=Tryz.underlying342
 a228:=Tryz.isAgg342
 z228:=Tryz.sizeOf342
 v228:=Tryz.zeroValue342
 t229:=Tryz.underlying135
 a229:=Tryz.isAgg135
 z229:=Tryz.sizeOf135
 v229:=Tryz.zeroValue135 }
def Tryz.sortP_ren:Go.Shelf.Ren:=⟨λ| 6=>112 | 15=>182 | 14=>183 | 28=>243 | 29=>244 | 20=>245 | 21=>246 | 22=>247 | 23=>248 | 24=>249 | 25=>250 | 26=>251 | 27=>252 | 46=>293 | 47=>289 | 48=>290 | 49=>294 | 50=>295 | 57=>326 | n=>n,λ| 22=>22 | 24=>58 | 25=>161 | 3=>3 | 39=>235 | 0=>0 | 53=>206 | 55=>203 | 4=>4 | 46=>273 | 45=>272 | 50=>184 | 5=>5 | 9=>9 | 66=>313 | 70=>317 | 76=>342 | 77=>135 | n=>n,λ| n=>n⟩
theorem Tryz.sortP:Go.Proofs.SlLaysF0.n6 Tryz.prog Tryz.sortP_ren:={
 mixed:=by kernel_rfl
 f6:=⟨Tryz.f112.name,by decide,Tryz.func112.trans (congrArg some (by kernel_rfl))⟩
 f14:=⟨Tryz.f183.name,by decide,Tryz.func183.trans (congrArg some (by kernel_rfl))⟩
 f15:=Tryz.func182.trans (congrArg some (by kernel_rfl))
 f20:=⟨Tryz.f245.name,by decide,Tryz.func245.trans (congrArg some (by kernel_rfl))⟩
 f21:=⟨Tryz.f246.name,by decide,Tryz.func246.trans (congrArg some (by kernel_rfl))⟩
 f22:=⟨Tryz.f247.name,by decide,Tryz.func247.trans (congrArg some (by kernel_rfl))⟩
 f23:=⟨Tryz.f248.name,by decide,Tryz.func248.trans (congrArg some (by kernel_rfl))⟩
 f24:=⟨Tryz.f249.name,by decide,Tryz.func249.trans (congrArg some (by kernel_rfl))⟩
 f25:=⟨Tryz.f250.name,by decide,Tryz.func250.trans (congrArg some (by kernel_rfl))⟩
 f26:=⟨Tryz.f251.name,by decide,Tryz.func251.trans (congrArg some (by kernel_rfl))⟩
 f27:=⟨Tryz.f252.name,by decide,Tryz.func252.trans (congrArg some (by kernel_rfl))⟩
 f28:=Tryz.func243.trans (congrArg some (by kernel_rfl))
 f29:=Tryz.func244.trans (congrArg some (by kernel_rfl))
 f46:=⟨Tryz.f293.name,by decide,Tryz.func293.trans (congrArg some (by kernel_rfl))⟩
 f47:=Tryz.func289.trans (congrArg some (by kernel_rfl))
 f48:=Tryz.func290.trans (congrArg some (by kernel_rfl))
 f49:=⟨Tryz.f294.name,by decide,Tryz.func294.trans (congrArg some (by kernel_rfl))⟩
 f50:=⟨Tryz.f295.name,by decide,Tryz.func295.trans (congrArg some (by kernel_rfl))⟩
 f57:=⟨Tryz.f326.name,by decide,Tryz.func326.trans (congrArg some (by kernel_rfl))⟩
 t0:=Tryz.underlying0
 a0:=Tryz.isAgg0
 z0:=Tryz.sizeOf0
 v0:=Tryz.zeroValue0
 t3:=Tryz.underlying3
 a3:=Tryz.isAgg3
 z3:=Tryz.sizeOf3
 v3:=Tryz.zeroValue3
 t4:=Tryz.underlying4
 a4:=Tryz.isAgg4
 z4:=Tryz.sizeOf4
 v4:=Tryz.zeroValue4
 t5:=Tryz.underlying5
 a5:=Tryz.isAgg5
 z5:=Tryz.sizeOf5
 v5:=Tryz.zeroValue5
 t9:=Tryz.underlying9
 a9:=Tryz.isAgg9
 z9:=Tryz.sizeOf9
 v9:=Tryz.zeroValue9
 t22:=Tryz.underlying22
 a22:=Tryz.isAgg22
 z22:=Tryz.sizeOf22
 v22:=Tryz.zeroValue22
 t25:=Tryz.underlying161
 a25:=Tryz.isAgg161
 z25:=Tryz.sizeOf161
 v25:=Tryz.zeroValue161
 t39:=Tryz.underlying235
 a39:=Tryz.isAgg235
 z39:=Tryz.sizeOf235
 v39:=Tryz.zeroValue235
 t45:=Tryz.underlying272
 a45:=Tryz.isAgg272
 z45:=Tryz.sizeOf272
 v45:=Tryz.zeroValue272
 t46:=Tryz.underlying273
 a46:=Tryz.isAgg273
 z46:=Tryz.sizeOf273
 v46:=Tryz.zeroValue273
 t50:=Tryz.underlying184
 a50:=Tryz.isAgg184
 z50:=Tryz.sizeOf184
 v50:=Tryz.zeroValue184
 t53:=Tryz.underlying206
 a53:=Tryz.isAgg206
 z53:=Tryz.sizeOf206
 v53:=Tryz.zeroValue206
 t55:=Tryz.underlying203
 a55:=Tryz.isAgg203
 z55:=Tryz.sizeOf203
 v55:=Tryz.zeroValue203
 t66:=Tryz.underlying313
 a66:=Tryz.isAgg313
 z66:=Tryz.sizeOf313
 v66:=Tryz.zeroValue313
 t70:=Tryz.underlying317
 a70:=Tryz.isAgg317
 z70:=Tryz.sizeOf317
 v70:=Tryz.zeroValue317
 t76:=Tryz.underlying342
 a76:=Tryz.isAgg342
 z76:=Tryz.sizeOf342
 v76:=Tryz.zeroValue342
 t77:=Tryz.underlying135
 a77:=Tryz.isAgg135
 z77:=Tryz.sizeOf135
 v77:=Tryz.zeroValue135 }
end Go.Proofs
end

noncomputable section
set_option maxRecDepth 100000
namespace Den
open Go Go.Proofs Go.Proofs.Tryz
def zu4:ArgT (Tnumber_embedding×Sl×Unit):=(ac z6m (asl az))
def zuj:Ty Sl:=ts
def zw4:zj:=mkE zu4 zuj λa=>F.y_number_embedding_image a.1 a.2.1
def Zif(n:Nat):Cfg:=(cgP 60 [(300,zw1),(258,mkE zu4 zuj (λa=>F.y_number_embedding_image_ n a.1 a.2.1)),(301,zw2),(256,zw3),(266,zp8),(302,Z7m)] [] [(12,2),(39,2),(46,2),(48,2),(55,2)] [2])
theorem Zce:∃fn,prog.funcs[258]?=some fn/\fn.body.isNone=false/\(fn.name == "runtime.NumGoroutine")=false:=⟨_,func258,rfl,by decide⟩
set_option maxHeartbeats 4000000 in
theorem Zcp:∀n a K D w,Sub D w->F.y_number_embedding_image_ n a.1 a.2.1 K D->Calls prog 258 (zu4.up a).toArray w (z6a (λv h=>zuj.dn v λr=>K r h) D w)
 | 0,_,_,_,_,_,h=>h.elim
 | n+1,a,K,D,w,hs,h=>z0p (C:=Zif n) (F:=λa=>F.y_number_embedding_image_ (n+1) a.1 a.2.1) (fn:=f258) (c:=bd f258) (an:=(.seq .leaf (.seq (.seq .leaf (.cond (.seq (.draw [0,1,2,3,4,5,6]) .leaf) .leaf)) (.seq .leaf (.seq (.block (.loop [(6,.i)] (.seq (.seq .leaf (.cond .leaf .leaf)) (.block .leaf)))) (.seq (.draw [0,1,2,3,4,5]) (.seq (.seq .leaf (.cond (.seq .leaf .leaf) .leaf)) (.seq (.draw [0,1,2,3,4,5,7,8,9,10,11,12,13,6,14,15,16]) (.seq .leaf .leaf))))))))) ⟨Zbm,(Ys Zce (Zcp n)),Zbn,Zbo,zy3,Znu,trivial⟩ trivial func258 rfl rfl (λ_=>rfl) (by intro a K D;kernel_rfl) a K D w hs h
theorem Zbp:EnP 258 zw4 false:=Ys Zce (λa K D w hs h=>h.elim λm h=>Zcp m a K D w hs h)
def zw5:zj:=mkE (asl (asl az)) (t2 z6m ti) λa=>F.z9a a.1 a.2.1
theorem Zbq:EnP 257 zw5 false:=eo (cgP 44 [(258,zw4)] [] [(21,6),(35,6),(40,6),(41,6)] [4,6,38]) (.q (.q (.s (.q (.b (.loop [(4,.box [.sl,.sl]),(6,.box [.sl,.sl]),(16,.i)] (.q (.s (.c .l .l) (.s (.b (.q (.s (.draw [0,1,2,3,4,5,6,7,8,9,10,11,12]) (.s (.q (.c .w .l)) .l)))) .l)))))) .w))) func257 ⟨Zbp,trivial⟩
def Z7n:zj:=mkE (asl az) (t2 ts ti) λa=>F.z5d a.1
theorem Znv:EnP 254 Z7n false:=eo (cgP 41 [(255,zvy),(257,zw5)] [] [(17,6),(25,7),(29,6),(33,6),(37,6)] [6,7]) (.q (.q (.s (.q (.b (.loop [(4,.s),(11,.i)] (.q (.s (.c .l .l) (.join [(4,.s)] (.b (.q (.b (.q (.c .l (.q (.c .l (.q (.s (.q (.c .w .l)) .l))))))))) .l)))))) .w))) func254 ⟨Zbj,Zbq,trivial⟩
def Z7o:zj:=mkE (asl az) ts λa=>F.z0g a.1
theorem Znw:EnP 262 Z7o false:=eo (cgP 23 [(196,zvw)] [] [] [5]) (.q (.q (.s (.q (.b (.loop [(11,.i)] (.q (.s (.c .l .l) (.s (.b .w) .l)))))) .w))) func262 ⟨Zbh,trivial⟩
def zw6:zj:=mkE (ac Zs az) Zs λa=>F.z2k a.1
theorem Zbr:EnP 189 zw6 false:=eo (cgP 26 [(262,Z7o)] [] [(6,1),(10,1),(17,3),(23,3)] [1,2,3,21]) (.q (.q (.s (.q (.b (.loop [(3,.box [.sl,.sl]),(13,.i)] (.q (.s (.c .l .l) (.s (.b (.q (.draw [0,1,2,3,4,5,6,7]))) .l)))))) .w))) func189 ⟨Znw,trivial⟩
def zp9:zj:=mkE (asl az) (t2 ts ti) λa=>F.z37 a.1
theorem zy4:EnP 186 zp9 false:=eo (cgP 59 [(254,Z7n),(189,zw6),(255,zvy),(256,zw3),(257,zw5),(258,zw4)] [] [(29,8),(33,8),(36,9),(39,8),(48,8),(51,9)] [8,9,10,55]) (.q (.q (.s (.q (.c .w .l)) (.q (.s (.q (.b (.loop [(6,.s),(22,.i)] (.q (.s (.c .l .l) (.s (.b (.q (.q (.join [(9,.box [.sl,.sl])] (.q (.c .l (.q (.s (.q (.c .w .l)) .l)))) .l)))) .l)))))) .w))))) func186 ⟨Znv,Zbr,Zbj,Zbo,Zbq,Zbp,trivial⟩
def Z7p:zj:=mkE (asl az) (t2 ts ti) λa=>F.z2j a.1
theorem Znx:EnP 123 Z7p false:=eo (cgP 43 [(187,Z77),(186,zp9)]) (.q (.q (.s (.q (.c .w .l)) (.q (.s (.q (.b (.loop [(4,.s),(23,.i)] (.q (.s (.c .l .l) (.s (.b (.q (.draw [0,1,2,3,4,5,6,7,8,9,10,11,12,13,14]))) .l)))))) .w))))) func123 ⟨Znf,zy4,trivial⟩
def Z7q:zj:=mkE (ac qi az) qi λa=>F.z71 a.1
theorem Zny:EnP 307 Z7q false:=eo (cgP 9 [(339,zvj)] [] [(3,1),(6,1)] [1,2]) (.q (.s (.draw [0,1,3,4,2,5,6]) .l)) func307 ⟨Zb3,trivial⟩
def zk4:zj:=mkE (asl az) ts λa=>F.z4y a.1
theorem zqj:EnP 264 zk4 false:=eo (cgP 23 [(307,Z7q)] [] [] [5]) (.q (.q (.s (.q (.b (.loop [(11,.i)] (.q (.s (.c .l .l) (.s (.b .w) .l)))))) .w))) func264 ⟨Zny,trivial⟩
def zw7:zj:=mkE (asl (asl (asl az))) ts λa=>F.z9z a.1 a.2.1 a.2.2.1
theorem Zbs:EnP 304 zw7 false:=eo (cgP 16 [(308,zp4),(264,zk4),(337,zk3)]) (.q (.s (.q (.c .w .l)) .w)) func304 ⟨zxz,zqj,zqi,trivial⟩
def zu5:ArgT (Sl×Sl×Unit):=(asl (asl az))
def zuk:Ty Int:=ti
def zw8:zj:=mkE zu5 zuk λa=>F.zb0 a.1 a.2.1
def Zig(n:Nat):Cfg:=(cgP 75 [(77,zn9),(261,mkE zu5 zuk (λa=>F.V6 n a.1 a.2.1)),(266,zp8),(304,zw7)])
theorem Zcf:∃fn,prog.funcs[261]?=some fn/\fn.body.isNone=false/\(fn.name == "runtime.NumGoroutine")=false:=⟨_,func261,rfl,by decide⟩
set_option maxHeartbeats 4000000 in
theorem Zcq:∀n a K D w,Sub D w->F.V6 n a.1 a.2.1 K D->Calls prog 261 (zu5.up a).toArray w (z6a (λv h=>zuk.dn v λr=>K r h) D w)
 | 0,_,_,_,_,_,h=>h.elim
 | n+1,a,K,D,w,hs,h=>z0p (C:=Zig n) (F:=λa=>F.V6 (n+1) a.1 a.2.1) (fn:=f261) (c:=bd f261) (an:=(.seq .leaf (.seq (.seq .leaf (.cond (.seq .leaf .leaf) .leaf)) (.seq .leaf (.seq (.draw [0,1,2,3,4,5,6,7,8,9,10,11]) (.seq .leaf (.join [] (.block (.seq .leaf (.cond (.seq .leaf .leaf) (.seq .leaf (.cond (.seq .leaf .leaf) .leaf))))) (.seq (.draw [0,1,2,3,5,6,7,8,9,10,11,12,4,13,14,15,16]) (.seq .leaf .leaf))))))))) ⟨ztp,(Ys Zcf (Zcq n)),zy3,Zbs,trivial⟩ trivial func261 rfl rfl (λ_=>rfl) (by intro a K D;kernel_rfl) a K D w hs h
theorem Zbt:EnP 261 zw8 false:=Ys Zcf (λa K D w hs h=>h.elim λm h=>Zcq m a K D w hs h)
def Z7r:zj:=mkE (asl az) tb λa=>F.zdw a.1
theorem Znz:EnP 303 Z7r false:=eo (cgP 25 [(133,zem),(300,zw1),(263,zh4),(261,zw8)]) (.q (.s (.q (.c .w .l)) (.s (.q (.b (.loop [(13,.i)] (.q (.s (.c .l .l) (.s (.b (.q (.q (.c .w .l)))) .l)))))) .w))) func303 ⟨zhl,Zbm,zm0,Zbt,trivial⟩
def Z7s:zj:=mkE (asl (asl az)) tb λa=>F.zhi a.1 a.2.1
theorem Zo0:EnP 260 Z7s false:=eo (cgP 20 [(263,zh4),(303,Z7r)]) (.q (.s (.q (.b (.loop [(9,.i)] (.q (.s (.c .l .l) (.s (.b (.q (.q (.c .w .l)))) .l)))))) .w)) func260 ⟨zm0,Znz,trivial⟩
def Z7t:zj:=mkE (asl (asl az)) ti λa=>F.zhh a.1 a.2.1
theorem Zo1:EnP 188 Z7t false:=eo (cgP 13 [(260,Z7s),(261,zw8)]) (.q (.s (.q (.c .w .l)) .w)) func188 ⟨Zo0,Zbt,trivial⟩
def zpa:zj:=mkE (ac Zs az) ti λa=>F.z38 a.1
theorem zy5:EnP 126 zpa false:=eo (cgP 8 [(188,Z7t)] [] [(3,1),(5,1)] [1]) (.q .w) func126 ⟨Zo1,trivial⟩
def Z7u:zj:=mkE (asl (ap az)) tb λa=>F.z05 a.1 a.2.1
theorem Zo2:EnP 125 Z7u false:=eo (cgP 10 [(126,zpa)]) (.q .w) func125 ⟨zy5,trivial⟩
def Z7v:zj:=mkE (asl (G3 125 1 az)) ti λa=>F.Zn a.1 a.2.1
theorem Zo3:EnP 124 Z7v false:=eo (cgP 19 [(125,Z7u)]) (.q (.s (.q (.b (.loop [(8,.i)] (.q (.s (.c .l .l) (.s (.b (.q (.q (.c .w .l)))) .l)))))) .w)) func124 ⟨Zo2,trivial⟩
def Z7w:zj:=mkE (ac Zs (ac Zs (P6 266 az))) (t2 Zs ti) λa=>F.Vl a.1 a.2.1
theorem Zo4:EnP 265 Z7w false:=eo (cgP 39 [(186,zp9),(266,zp8)] [] [] [3,4,6]) (.q (.q (.s (.q (.c .w .l)) (.q (.s (.draw [0,1,2,3,4,5,6,7,8,9,10,11,12,13,14]) .l))))) func265 ⟨zy4,zy3,trivial⟩
def zw9:zj:=mkE (ac Zs (ac Zs az)) (t2 Zs ti) λa=>F.z7t a.1 a.2.1
theorem Zbu:EnP 191 zw9 false:=eo (cgP 11 [(265,Z7w)] [] [] [2,3,4]) (.q .w) func191 ⟨Zo4,trivial⟩
def zpb:zj:=mkE (ap (ac Zs (ai az))) Zs λa=>F.y_matrix_calc_take a.1 a.2.1 a.2.2.1
theorem zy6:EnP 192 zpb false:=eo (cgP 24 [(59,zp1)] [] [] [4,6]) (.q (.join [] (.q (.c .l .l)) (.s (.q (.c .w .l)) .w))) func192 ⟨zxw,trivial⟩
def zwa:zj:=mkE (ap (ac Zs (ac Zs az))) Zs λa=>F.y_matrix_calc_mul a.1 a.2.1 a.2.2.1
theorem Zbv:EnP 128 zwa false:=eo (cgP 19 [(191,zw9),(192,zpb)] [] [] [4,5,6,7]) (.q (.q .w)) func128 ⟨Zbu,zy6,trivial⟩
def Z7x:zj:=mkE (ac Zv az) tb λa=>F.z2u a.1
theorem Zo5:EnP 363 Z7x false:=eo (cgP 7 [] [] [(3,1)] [1]) (.q .w) func363 trivial
def Z7y:zj:=mkE (ac qi (ac qi az)) (t2 qi ti) λa=>F.z6z a.1 a.2.1
theorem Zo6:EnP 342 Z7y false:=eo (cgP 21 [(363,Z7x),(349,zk2),(350,zoy)] [] [(6,3),(10,2),(12,3),(15,2),(17,3)] [2,3,4]) (.q (.s (.q (.c .w .l)) (.s (.draw [0,1,2,3,5,6,7,8,4,9,10,11,12]) .l))) func342 ⟨Zo5,zqh,zxs,trivial⟩
def Z7z:zj:=mkE (asl (asl az)) ts λa=>F.zm1 a.1 a.2.1
theorem Zo7:EnP 343 Z7z false:=eo (cgP 32 [(340,zp5),(341,zp6),(309,zp7),(264,zk4),(337,zk3)]) (.q (.q (.q .w))) func343 ⟨zy0,zy1,zy2,zqj,zqi,trivial⟩
def zu6:ArgT (Sl×Sl×Unit):=(asl (asl az))
def zul:Ty (Sl×Bool):=(t2 ts tb)
def Z80:zj:=mkE zu6 zul λa=>F.z9d a.1 a.2.1
def Zih(n:Nat):Cfg:=(cgP 59 [(133,zem),(342,Z7y),(340,zp5),(343,Z7z),(310,mkE zu6 zul (λa=>F.V4 n a.1 a.2.1)),(341,zp6),(309,zp7),(264,zk4)] [] [] [6])
theorem Zcg:∃fn,prog.funcs[310]?=some fn/\fn.body.isNone=false/\(fn.name == "runtime.NumGoroutine")=false:=⟨_,func310,rfl,by decide⟩
set_option maxHeartbeats 4000000 in
theorem Zcr:∀n a K D w,Sub D w->F.V4 n a.1 a.2.1 K D->Calls prog 310 (zu6.up a).toArray w (z6a (λv h=>zul.dn v λr=>K r h) D w)
 | 0,_,_,_,_,_,h=>h.elim
 | n+1,a,K,D,w,hs,h=>z0p (C:=Zih n) (F:=λa=>F.V4 (n+1) a.1 a.2.1) (fn:=f310) (c:=bd f310) (an:=(.seq .leaf (.seq (.seq .leaf (.cond (.seq (.draw [1,2,3,8,0,4,5,6,7,9,10]) (.seq .leaf .leaf)) .leaf)) (.seq .leaf (.seq .leaf (.seq (.seq .leaf (.cond (.seq .leaf .leaf) .leaf)) (.seq .leaf (.seq .leaf .leaf)))))))) ⟨zhl,Zo6,zy0,Zo7,(Ys Zcg (Zcr n)),zy1,zy2,zqj,trivial⟩ trivial func310 rfl rfl (λ_=>rfl) (by intro a K D;kernel_rfl) a K D w hs h
theorem Zo8:EnP 310 Z80 false:=Ys Zcg (λa K D w hs h=>h.elim λm h=>Zcr m a K D w hs h)
def Z82:zj:=mkE (asl (asl az)) (t2 ts ti) λa=>F.zhm a.1 a.2.1
theorem Zoa:EnP 267 Z82 false:=eo (cgP 21 [(263,zh4),(310,Z80)]) (.q (.s (.q (.c .w .l)) (.q (.s (.q (.c .w .l)) .w)))) func267 ⟨zm0,Zo8,trivial⟩
def Z83:zj:=mkE (ac Zs (ac Zs az)) (t2 Zs ti) λa=>F.zeu a.1 a.2.1
theorem Zob:EnP 193 Z83 false:=eo (cgP 28 [(267,Z82),(191,zw9)] [] [(9,3),(11,3),(21,3)] [2,3,4]) (.q (.q (.s (.q (.c .w .l)) .w))) func193 ⟨Zoa,Zbu,trivial⟩
def Z84:zj:=mkE (ap (ac Zs (ac Zs az))) Zs λa=>F.y_matrix_calc_div a.1 a.2.1 a.2.2.1
theorem Zoc:EnP 129 Z84 false:=eo (cgP 19 [(193,Z83),(192,zpb)] [] [] [4,5,6,7]) (.q (.q .w)) func129 ⟨Zob,zy6,trivial⟩
def Z85:zj:=mkE (ac Zs (ac Zs (P6 304 az))) (t2 Zs ti) λa=>F.Vm a.1 a.2.1
theorem Zod:EnP 265 Z85 false:=eo (cgP 39 [(186,zp9),(304,zw7)] [] [] [3,4,6]) (.q (.q (.s (.q (.c .w .l)) (.q (.s (.draw [0,1,2,3,4,5,6,7,8,9,10,11,12,13,14]) .l))))) func265 ⟨zy4,Zbs,trivial⟩
def Z86:zj:=mkE (ac Zs (ac Zs az)) (t2 Zs ti) λa=>F.zai a.1 a.2.1
theorem Zoe:EnP 268 Z86 false:=eo (cgP 11 [(265,Z85)] [] [] [2,3,4]) (.q .w) func268 ⟨Zod,trivial⟩
def Z87:zj:=mkE (ap (ac Zs (ac Zs az))) Zs λa=>F.y_matrix_calc_sub a.1 a.2.1 a.2.2.1
theorem Zof:EnP 194 Z87 false:=eo (cgP 19 [(268,Z86),(192,zpb)] [] [] [4,5,6,7]) (.q (.q .w)) func194 ⟨Zoe,zy6,trivial⟩
def Z88:zj:=mkM (ap (asl (asl (ac Zs (ai az))))) tu λa=>F.y_matrix_calc_subtract a.1 a.2.1 a.2.2.1 a.2.2.2.1 a.2.2.2.2.1
theorem Zog:EnP 130 Z88 true:=eoM (cgP 40 [(126,zpa),(128,zwa),(194,Z87)] [] [] [8]) (.q (.q (.b (.loop [(10,.i)] (.s (.q (.c .l .l)) (.join [] (.b (.q (.c (.draw [0,1,2,3,4,5,6,7,8,9,10,11,12,13,14,15,16]) .l))) .l)))))) func130 ⟨zy5,Zbv,Zof,trivial⟩
def Z89:zj:=mkE (asl (asl az)) ts λa=>F.zhn a.1 a.2.1
theorem Zoh:EnP 190 Z89 false:=eo (cgP 11 [(263,zh4),(264,zk4)]) (.q (.s (.q (.c .w .l)) .w)) func190 ⟨zm0,zqj,trivial⟩
def Z8a:zj:=mkE (ac Zs az) Zs λa=>F.zah a.1
theorem Zoi:EnP 127 Z8a false:=eo (cgP 12 [(189,zw6),(190,Z89)] [] [(5,1),(7,1),(10,1)] [1,2]) (.q (.q (.q .w))) func127 ⟨Zbr,Zoh,trivial⟩
def Z8b:zj:=mkE (asl az) (t2 zgf ti) λa=>F.z1m a.1
theorem Zoj:EnP 56 Z8b false:=eo (cgP 155 [(123,Z7p),(59,zp1),(122,zp2),(124,Z7v),(128,zwa),(129,Z84),(126,zpa),(130,Z88),(127,Z8a)] [130] [(35,7),(65,7),(68,7),(77,7),(81,7),(137,7),(142,7)] [2,7,11,15,140]) (.q (.q (.s (.q (.c .w .l)) (.q (.q (.s (.q (.b (.loop [(7,.box [.sl,.sl,.sl,.sl]),(32,.i)] (.q (.s (.c .l .l) (.join [(7,.box [.sl,.sl,.sl,.sl])] (.b (.q (.q (.q (.s (.q (.c .l .l)) (.join [(7,.box [.sl,.sl,.sl,.sl])] (.q (.c (.s (.draw [0,1,2,3,4,5,6,7,8,9,10,11,12,13,14,15,16,17,18,19]) .l) .l)) (.s (.draw [0,1,2,3,4,5,6,7,8]) (.q (.s (.q (.b (.loop [(12,.i)] (.s (.q (.c .l .l)) (.s (.b (.draw [0,1,2,3,4,5,6,7,8,9,10,11,12,13,14,15,16])) .l))))) (.s (.q (.b (.loop [(110,.i)] (.q (.s (.c .l .l) (.join [] (.b (.q (.q (.q (.c (.draw [0,1,2,3,4,5,6,7,8]) .l))))) .l)))))) .l)))))))))) .l)))))) (.s (.q (.c (.s (.draw [0,1,2,3,4,5,6]) .l) .l)) .w))))))) func56 ⟨Znx,zxw,zxx,Zo3,Zbv,Zoc,zy5,Zog,Zoi,trivial⟩
def Z8c:zj:=mkE (asl az) (t2 ts ti) λa=>F.z8o a.1
theorem Zok:EnP 24 Z8c false:=eo (cgP 18 [(55,zvx),(57,Z75),(56,Z8b)] [] [(15,4)] [4]) (.q (.s (.q (.c .w .l)) (.q .w))) func24 ⟨Zbi,Znd,Zoj,trivial⟩
def zu7:ArgT (TTree×Unit):=(ac z4b az)
def zum:Ty Sl:=ts
def zwb:zj:=mkE zu7 zum λa=>F.z2n a.1
def Zii(n:Nat):Cfg:=(cgP 29 [(108,mkE zu7 zum (λa=>F.Wu n a.1))] [] [(6,1),(10,1),(12,1),(16,1)] [1,5])
theorem Zch:∃fn,prog.funcs[108]?=some fn/\fn.body.isNone=false/\(fn.name == "runtime.NumGoroutine")=false:=⟨_,func108,rfl,by decide⟩
set_option maxHeartbeats 4000000 in
theorem Zcs:∀n a K D w,Sub D w->F.Wu n a.1 K D->Calls prog 108 (zu7.up a).toArray w (z6a (λv h=>zum.dn v λr=>K r h) D w)
 | 0,_,_,_,_,_,h=>h.elim
 | n+1,a,K,D,w,hs,h=>z0p (C:=Zii n) (F:=λa=>F.Wu (n+1) a.1) (fn:=f108) (c:=bd f108) (an:=(.seq .leaf (.seq (.seq .leaf (.cond (.seq .leaf .leaf) .leaf)) (.seq .leaf (.seq (.seq .leaf (.block (.loop [(3,.s),(19,.i)] (.seq .leaf (.seq (.cond .leaf .leaf) (.seq (.block (.seq .leaf .leaf)) .leaf)))))) (.seq .leaf .leaf)))))) ⟨(Ys Zch (Zcs n)),trivial⟩ trivial func108 rfl rfl (λ_=>rfl) (by intro a K D;kernel_rfl) a K D w hs h
theorem Zbw:EnP 108 zwb false:=Ys Zch (λa K D w hs h=>h.elim λm h=>Zcs m a K D w hs h)
def z4f:zj:=mkM (asl az) tu λa=>F.z6l a.1
theorem zbm:EnP 109 z4f true:=z4k ⟨_,func109,rfl,by decide⟩ λa K D w hs hk=>zxj (λp c w=>Any.slices_Sort_int_none Tryz.sortI p c w) (λb o c zs w h1 h2 h3=>Any.slices_Sort_int Tryz.sortI b o c zs w h1 h2 h3) a.1 K D w hs hk
def Z8d:zj:=mkM (asl az) ts λa=>F.X9 a.1
theorem Zol:EnP 110 Z8d true:=eoM (cgP 61 []) (.q (.s (.q (.c .w .l)) (.s (.q (.b (.loop [(3,.i)] (.s (.q (.c .l .l)) (.s (.b (.s (.draw [0,1,2,3,4,5,6,7,8,9]) (.c (.q (.s (.q (.b (.loop [(3,.i),(5,.i)] (.s (.q (.c .l .l)) (.join [(3,.i)] (.b (.s (.draw [0,1,2,3,4,5,6,7,8,9]) (.c .w .l))) .l))))) (.q .w))) .l))) .l))))) .w))) func110 trivial
def zpc:zj:=mkE (ac z4b az) ts λa=>F.Q9 a.1
theorem zy7:EnP 43 zpc false:=eo (cgP 25 [(108,zwb),(109,z4f),(110,Z8d)] [109,110] [(14,5),(16,5)] [1,5,18]) (.q (.q (.s (.q (.b (.loop [(3,.s),(9,.i)] (.q (.s (.c .l .l) (.s (.b .w) .l)))))) (.q .w)))) func43 ⟨Zbw,zbm,Zol,trivial⟩
end Den
end

noncomputable section
set_option maxRecDepth 100000
namespace Den
open Go Go.Proofs Go.Proofs.Tryz
def Z8e:zj:=mkE (asl (asl az)) (t2 ti tb) λa=>F.Vt a.1 a.2.1
theorem Zom:EnP 232 Z8e false:=eo (cgP 29 [(40,z98)] [] [] [20]) (.q (.q (.s (.q (.b (.loop [(6,.s),(11,.i)] (.q (.s (.c .l .l) (.join [(6,.s)] (.b (.q (.q (.c .l .l)))) .l)))))) (.s (.q (.c .w .l)) .w)))) func232 ⟨zb3,trivial⟩
def Z8f:zj:=mkE (asl az) tb λa=>F.z1c a.1
theorem Zon:EnP 233 Z8f false:=eo (cgP 28 []) (.q (.s (.q (.b (.loop [(7,.i)] (.q (.s (.c .l .l) (.join [] (.b (.q (.q (.c .w .l)))) .l)))))) .w)) func233 trivial
def Z8g:zj:=mkE (asl (asl (asl az))) (Ty.tup (.cons ti (.cons ti (.cons ti (.cons tb .nil)))) (λx=>(x.1,x.2.1,x.2.2.1,x.2.2.2,())) (λy=>(y.1,y.2.1,y.2.2.1,y.2.2.2.1)) (λ_=>rfl) (λ_=>rfl)) λa=>F.z56 a.1 a.2.1 a.2.2.1
theorem Zoo:EnP 180 Z8g false:=eo (cgP 77 [(232,Z8e),(233,Z8f)]) (.q (.q (.q (.q (.join [] (.q (.c .w .l)) .w))))) func180 ⟨Zom,Zon,trivial⟩
def zwc:zj:=mkE (ac z4b (ac z4b (ac z4b az))) (t2 z4b tb) λa=>F.z1a a.1 a.2.1 a.2.2.1
theorem Zbx:EnP 107 zwc false:=eo (cgP 33 [(43,zpc),(180,Z8g)] [] [] [3,4,5,6]) (.q (.s (.draw [0,2,4,1,3,5,6,7,8,9,10,11,12,13,14,15]) .w)) func107 ⟨zy7,Zoo,trivial⟩
def Z8h:zj:=mkE (asl az) (t2 ts tb) λa=>F.z5m a.1
theorem Zop:EnP 42 Z8h false:=eo (cgP 81 [(107,zwc)] [] [] [7,11,75]) (.q (.s (.q (.b (.loop [(14,.i)] (.q (.s (.c .l .l) (.s (.b (.q (.q (.b (.loop [(5,.i)] (.s (.q (.c .l .l)) (.s (.b (.q (.b (.loop [(6,.i)] (.s (.q (.c .l .l)) (.s (.b (.s (.draw [0,1,2,3,4,5,6,7,8,9,10,11,16,12,13,14,15,17,18]) (.s (.q (.c .l .l)) (.q (.s (.q (.b (.loop [(9,.s),(55,.i)] (.q (.s (.c .l .l) (.join [(9,.s)] (.b (.q (.q (.c .l .l)))) .l)))))) .w))))) .l)))))) .l))))))) .l)))))) .w)) func42 ⟨Zbx,trivial⟩
def Z8i:zj:=mkE (ac Wv az) (t2 z4b ti) λa=>F.z47 a.1
theorem Zoq:EnP 18 Z8i false:=eo (cgP 57 [(37,zby),(42,Z8h),(43,zpc)] [] [(14,1),(18,1),(26,6),(28,6),(49,1)] [1,2,6,31]) (.q (.s (.b (.q (.c .w (.q (.c .w .l))))) (.q (.s (.q (.b (.loop [(4,.s),(21,.i)] (.q (.s (.c .l .l) (.s (.b .w) .l)))))) (.s (.q (.b (.loop [(4,.s),(7,.b)] (.s (.q (.c .l .l)) (.b .l))))) (.join [(2,.box [.int .i64,.int .i64,.int .i64,.sl])] (.s (.draw [0,1,2,3,4,5,6,9,10,7,8,11,12]) (.c .w .l)) .w)))))) func18 ⟨zf2,Zop,zy7,trivial⟩
def Z8j:zj:=mkE (ac Wv az) ti λa=>F.z7x a.1
theorem Zor:EnP 47 Z8j false:=eo (cgP 13 [(37,zby),(17,zvv)] [] [(6,1)] [1]) (.q (.s (.q (.c .w .l)) (.s (.draw [0,1,2,3,4,5,6,7]) .l))) func47 ⟨zf2,Zbg,trivial⟩
def Z8k:zj:=mkE (ac Wv az) tb λa=>F.z6w a.1
theorem Zos:EnP 21 Z8k false:=eo (cgP 15 [(37,zby),(47,Z8j)] [] [(6,1)] [1]) (.q .w) func21 ⟨zf2,Zor,trivial⟩
def Z8l:zj:=mkE (asl (asl az)) ti λa=>F.z0a a.1 a.2.1
theorem Zot:EnP 114 Z8l false:=eo (cgP 36 [(169,zrt)]) (.q (.s (.q (.b (.loop [(11,.i)] (.q (.s (.c .l .l) (.s (.b (.q (.s (.q (.c .w .l)) (.q (.q (.q (.c .w .l))))))) .l)))))) (.s (.q (.c .w .l)) .w))) func114 ⟨zzw,trivial⟩
def Zjg:zj:=mkE (ac z68 (ac z68 az)) ti λa=>F.z23 a.1 a.2.1
theorem Zou:EnP 113 Zjg false:=eo (cgP 8 [(114,Z8l)]) (.q (.s (.draw [0,1,2,3]) .l)) func113 ⟨Zot,trivial⟩
def qj:zj:=mkM (asl (P6 113 az)) tu λa=>F.Qc a.1
theorem Wy:EnP 112 qj true:=z4k ⟨_,func112,rfl,by decide⟩ λa K D w hs hk=>zth (g:=113) (C:=λb o n w=>CmpLays prog 113 #[] z00 2 z6p b o n w) (lt:=λx y=>!(ltOf z6p) y x) (λp c fv w=>AnyF.slices_SortFunc_none Tryz.sortP p c fv w) (λb o c d w h1 h2 h3 h4=>AnyQ.slices_SortFunc_total Tryz.sortP 2 (λw=>by kernel_rfl) (λw=>by kernel_rfl) z00 (λ_=>rfl) Z93 z6p Zsm 113 #[] b o c d w (enters_of func113 (by kernel_rfl) rfl) h1 h2 h3 h4 Zsu) (λxs=>rfl) (λb o n w=>Z0g Zou.fn λx y K hk=>(ArgT.cmp (ac z68 (ac z68 az)) ((⟨x.1,x.2⟩:A2_Int),(⟨y.1,y.2⟩:A2_Int),()) _).2 (zd (λr _=>r=z6p x y) (λK2 hk2=>za0 λh' hl=>hk2 _ _ hl rfl) (λr h' _ hr=>by subst hr;exact hk h'))) a.1 K D w hs hk
def Z8m:zj:=mkE (asl (asl az)) tb λa=>F.Xj a.1 a.2.1
theorem Zov:EnP 115 Z8m false:=eo (cgP 26 []) (.q (.s (.q (.c .w .l)) (.s (.q (.b (.loop [(13,.i)] (.q (.s (.c .l .l) (.s (.b (.q (.s (.draw [0,1,2,3,4,5,6,7,8]) (.c .w .l)))) .l)))))) .w))) func115 trivial
def zgl:ArgT (TTree×Unit):=(ac z4b az)
def zgp:Ty Bool:=tb
def Zhu:ArgT (TTree×Unit):=(ac z4b az)
def Zi3:Ty Bool:=tb
def Z8n(Zsz:TTree->(Bool->Hp->Prop)->Hp->Prop):zj:=mkE Zhu Zi3 λa=>F.z4z Zsz a.1
theorem Zow(Zsz:TTree->(Bool->Hp->Prop)->Hp->Prop)(Zt2:EnP 116 (mkE zgl zgp (λa=>Zsz a.1)) false):EnP 185 (Z8n Zsz) false:=eo (cgP 6 [(116,mkE zgl zgp (λa=>Zsz a.1))] [] [] [1]) (.q .w) func185 ⟨Zt2,trivial⟩
def Zhv:ArgT (Sl×Unit):=(asl (P6 185 az))
def Zi4:Ty Int:=ti
def Z8o(Zsz:TTree->(Bool->Hp->Prop)->Hp->Prop):zj:=mkE Zhv Zi4 λa=>F.y7 Zsz a.1
theorem Zox(Zsz:TTree->(Bool->Hp->Prop)->Hp->Prop)(Zt2:EnP 116 (mkE zgl zgp (λa=>Zsz a.1)) false):EnP 253 (Z8o Zsz) false:=eo (cgP 19 [(185,(Z8n Zsz))]) (.q (.s (.q (.b (.loop [(8,.i)] (.q (.s (.c .l .l) (.s (.b (.q (.q (.c .w .l)))) .l)))))) .w)) func253 ⟨(Zow Zsz Zt2),trivial⟩
def Zhw:ArgT (Sl×Unit):=(asl (P6 185 az))
def Zi5:Ty Bool:=tb
def Z8p(Zsz:TTree->(Bool->Hp->Prop)->Hp->Prop):zj:=mkE Zhw Zi5 λa=>F.yi Zsz a.1
theorem Zoy(Zsz:TTree->(Bool->Hp->Prop)->Hp->Prop)(Zt2:EnP 116 (mkE zgl zgp (λa=>Zsz a.1)) false):EnP 184 (Z8p Zsz) false:=eo (cgP 9 [(253,(Z8o Zsz))]) (.q .w) func184 ⟨(Zox Zsz Zt2),trivial⟩
def Z8q:zj:=mkE zgl zgp λa=>F.z8a a.1
def Zij(n:Nat):Cfg:=(cgP 56 [(107,zwc),(184,(Z8p (F.Xa n)))] [] [(5,1),(9,1),(14,1),(19,1),(23,1),(27,1),(36,3),(38,1),(43,3),(45,1),(50,3),(52,1)] [1,3])
theorem Zci:∃fn,prog.funcs[116]?=some fn/\fn.body.isNone=false/\(fn.name == "runtime.NumGoroutine")=false:=⟨_,func116,rfl,by decide⟩
set_option maxHeartbeats 4000000 in
theorem Zct:∀n a K D w,Sub D w->F.Xa n a.1 K D->Calls prog 116 (zgl.up a).toArray w (z6a (λv h=>zgp.dn v λr=>K r h) D w)
 | 0,_,_,_,_,_,h=>h.elim
 | n+1,a,K,D,w,hs,h=>z0p (C:=Zij n) (F:=λa=>F.Xa (n+1) a.1) (fn:=f116) (c:=bd f116) (an:=(.seq .leaf (.seq (.seq .leaf (.cond (.seq .leaf .leaf) .leaf)) (.join [] (.seq .leaf (.cond (.seq .leaf .leaf) .leaf)) (.seq (.draw [0,1,2,3,4,5,6,7,8,9,10,11,16,12,13,14,15,17,18]) (.seq .leaf .leaf)))))) ⟨Zbx,(Zoy (F.Xa n) (Ys Zci (Zct n))),trivial⟩ trivial func116 rfl rfl (λ_=>rfl) (by intro a K D;kernel_rfl) a K D w hs h
theorem Zoz:EnP 116 Z8q false:=Ys Zci (λa K D w hs h=>h.elim λm h=>Zct m a K D w hs h)
def Z8r:zj:=mkE (ac Wv (ac z4b az)) tb λa=>F.z49 a.1 a.2.1
theorem Zp0:EnP 46 Z8r false:=eo (cgP 26 [(108,zwb),(112,qj),(115,Z8m),(43,zpc),(116,Z8q)] [112] [(11,2),(18,2)] [2,3]) (.q (.q (.q (.s (.draw [0,1,2,3,4,5,8,9,6,7,10,11,12,13,14,15,16]) .l)))) func46 ⟨Zbw,Wy,Zov,zy7,Zoz,trivial⟩
def Z8t:zj:=mkE (ac Wv (ac z4b az)) tb λa=>F.z48 a.1 a.2.1
theorem Zp1:EnP 20 Z8t false:=eo (cgP 17 [(37,zby),(46,Z8r)] [] [(8,2)] [2,3]) (.q .w) func20 ⟨zf2,Zp0,trivial⟩
def ze5:zj:=mkE az tb λa=>F.Xu
theorem zmr:EnP 6 ze5 false:=eo (cgP 57 [(26,z7n),(25,zba),(24,Z8c),(18,Z8i),(21,Z8k),(20,Z8t),(9,z3k),(16,zvt),(12,zvs)] [] [] [1,5]) (.q (.q (.q (.q (.q .w))))) func6 ⟨zf1,ziz,Zok,Zoq,Zos,Zp1,z90,Zbe,Zbd,trivial⟩
def Z8u:zj:=mkE (ac Wv az) tb λa=>F.zdt a.1
theorem Zp2:EnP 7 Z8u false:=eo (cgP 12 [] [] [(3,1),(7,1)] [1]) (.q .w) func7 trivial
def Z8v:zj:=mkE (ac z68 (ac z68 az)) tb λa=>F.z78 a.1 a.2.1
theorem Zp3:EnP 27 Z8v false:=eo (cgP 24 [] [] [(5,2),(7,3),(11,2),(13,3),(17,2),(19,3)] [2,3]) (.q .w) func27 trivial
def Z8w:zj:=mkE (ac Wv az) tb λa=>F.z63 a.1
theorem Zp4:EnP 8 Z8w false:=eo (cgP 57 [(27,Z8v)] [] [(5,1),(9,1),(14,1),(20,1),(25,4),(29,4),(31,4),(36,4),(38,1),(46,1)] [1,4]) (.q (.join [] (.q (.c .w .l)) (.s (.q (.b (.loop [(3,.i)] (.s (.q (.c .l .l)) (.join [] (.b (.q (.s (.draw [0,1,2,3,4,5,6,7,8,9,10,11,12,13,14,15,16,17,18,19,20,21,22,23,24,25,26,27,28,29,30,31]) (.c .w .l)))) .l))))) .w))) func8 ⟨Zp3,trivial⟩
def zmf:zj:=mkE (ac Wv az) tb λa=>F.zd1 a.1
theorem Zd2:EnP 3 zmf false:=eo (cgP 99 [(9,z3k),(10,Zfy),(11,Z6k),(12,zvs),(13,zp0),(16,zvt),(17,zvv),(14,Z6w),(15,Z6x),(6,ze5),(7,Z8u),(8,Z8w)] [] [(24,1),(94,1)] [1,5]) (.q (.join [] (.q (.c .w .l)) (.q (.s (.q (.b (.loop [(29,.i)] (.q (.s (.c .l .l) (.s (.b .w) .l)))))) (.q (.s (.q (.c .w .l)) (.q (.q (.q (.join [] (.q (.c .w .l)) (.s (.q (.c .w .l)) (.s (.draw [0,1,2,3,4,7,8,9,5,6,10,11,12]) .l)))))))))))) func3 ⟨z90,Zr4,Zmu,Zbd,zxv,Zbe,Zbg,Zn4,Zn5,zmr,Zp2,Zp4,trivial⟩
end Den
end

section
set_option maxRecDepth 100000
namespace Den
open Go Go.Proofs.Tryz
end Den
end

section
namespace Den
open Go Iv
abbrev BM:=Nat->Option (List Value)
def z1b(f:BM)(b:Nat)(cs:List Value):BM:=λk=>if k=b then some cs else f k
def zcg:BM:=λ_=>none
theorem Z9{f:BM}{b:Nat}{cs:List Value}:z1b f b cs b=some cs:=by simp[z1b]
theorem Q7{f:BM}{b k:Nat}{cs:List Value}(h:k≠b):z1b f b cs k=f k:=by simp[z1b,h]
theorem zhp{f:BM}{b:Nat}{cs ds:List Value}:z1b (z1b f b cs) b ds=z1b f b ds:=by
 funext k;unfold z1b;by_cases h:k=b<;>simp[h]
structure Bk(D h:Hp)(f:BM):Prop where
 le:D.le h
 own:∀b cs,f b=some cs->D b=none/\∃e,h b=some ⟨cs,e,(0,0)⟩
theorem z2p(b o i:Nat):(⟨b,o,none⟩:Addr).add i=⟨b,o+i,none⟩:=by
 unfold Addr.add;split
 . rename_i h;subst h;rfl
 . rfl
section
variable {D h : Hp} {f : BM} {b o i : Nat} {cs vs : List Value} {v : Value}
theorem Bk.start:Bk h h zcg:=⟨Hp.le_refl _,λb cs hb=>by cases hb⟩
theorem Bk.fresh(hB:Bk D h f)(hb:h b=none):f b=none/\D b=none:=by
 constructor
 . cases hf:f b with
   | none=>rfl
   | some cs=>obtain⟨_,e,he⟩:=hB.own b cs hf;rw[hb]at he;cases he
 . cases hd:D b with
   | none=>rfl
   | some B=>have:=hB.le b B hd;rw[hb]at this;cases this
theorem Bk.cell(hB:Bk D h f)(hf:f b=some cs)(hv:cs[i]?=some v):h.cell ⟨b,i,none⟩=some v:=by
 obtain⟨_,e,he⟩:=hB.own b cs hf;unfold Hp.cell;simp only[he];exact hv
theorem Bk.ld{l:Lf}{x:l.T}{K:l.T->Prop}(hB:Bk D h f)(hf:f b=some cs)(hv:cs[i]?=some (l.up x))(H:K x):ldL l ⟨b,i,none⟩ K h:=⟨x,hB.cell hf hv,H⟩
theorem Bk.st{K:Hp->Prop}(hB:Bk D h f)(hf:f b=some cs)(hlen:o+vs.length<=cs.length)(hleaf:vs.all Gq=true)(H:∀h',Bk D h' (z1b f b (Zc cs o vs))->K h'):stP ⟨b,o,none⟩ vs K h:=by
 obtain⟨hd,e,he⟩:=hB.own b cs hf;refine⟨_,he,rfl,rfl,hlen,hleaf,H _ ⟨λk B hk=>?_,λk ds hk=>?_⟩⟩
 . rw[Hp.ins_ne (λhh=>by rw[hh,hd]at hk;cases hk)];exact hB.le k B hk
 . by_cases hkb:k=b
   . subst hkb;rw[Z9]at hk;cases hk;exact⟨hd,e,Hp.ins_same _ _ _⟩
   . rw[Q7 hkb]at hk;rw[Hp.ins_ne hkb];exact hB.own k ds hk
theorem Bk.insD{e:TypeId}(hB:Bk D h f)(hb:h b=none):Bk (D.ins b ⟨cs,e,(0,0)⟩) (h.ins b ⟨cs,e,(0,0)⟩) f:=by
 refine⟨λk B hk=>?_,λk ds hk=>?_⟩
 . by_cases hkb:k=b
   . subst hkb;rw[Hp.ins_same]at hk |-;exact hk
   . rw[Hp.ins_ne hkb]at hk |-;exact hB.le k B hk
 . have hkb:k≠b:=λhh=>by subst hh;rw[(hB.fresh hb).1]at hk;cases hk
   rw[Hp.ins_ne hkb,Hp.ins_ne hkb];exact hB.own k ds hk
theorem Bk.insF{e:TypeId}(hB:Bk D h f)(hb:h b=none):Bk D (h.ins b ⟨cs,e,(0,0)⟩) (z1b f b cs):=by
 refine⟨λk B hk=>?_,λk ds hk=>?_⟩
 . rw[Hp.ins_ne (λhh=>by rw[hh,(hB.fresh hb).2]at hk;cases hk)];exact hB.le k B hk
 . by_cases hkb:k=b
   . subst hkb;rw[Z9]at hk;cases hk;exact⟨(hB.fresh hb).2,e,Hp.ins_same _ _ _⟩
   . rw[Q7 hkb]at hk;rw[Hp.ins_ne hkb];exact hB.own k ds hk
theorem Bk.newD{K:Addr->Hp->Prop}(hB:Bk D h f)(H:∀b D' h',h b=none->D.le D'->(∀i v,cs[i]?=some v->D'.cell ⟨b,i,none⟩=some v)->Bk D' h' f->K ⟨b,0,none⟩ h'):Y2 cs K h:=by
 intro b e hb;refine H b (D.ins b ⟨cs,e,(0,0)⟩) _ hb (Hp.le_ins (hB.fresh hb).2) (λi v hv=>?_) (hB.insD hb);unfold Hp.cell;simp only[Hp.ins_same];exact hv
theorem Bk.newF{K:Addr->Hp->Prop}(hB:Bk D h f)(H:∀b h',f b=none->D b=none->Bk D h' (z1b f b cs)->K ⟨b,0,none⟩ h'):Y2 cs K h:=by
 intro b e hb;exact H b _ (hB.fresh hb).1 (hB.fresh hb).2 (hB.insF hb)
theorem Bk.mkF{K:Sl->Hp->Prop}{len cap:Int}{bytes:Nat}{zero:List Value}(l c:Nat)(hB:Bk D h f)(hl:len=l)(hc:cap=c)(hlc:l<=c)(hb:bytes*c<=140737488355328)(hb2:c<=140737488355328)
 (H:∀b h',f b=none->D b=none->Bk D h' (z1b f b (yn c zero))->K ⟨some ⟨b,0,none⟩,l,c⟩ h'):mkP len cap bytes zero K h:=by
 subst hl hc;refine⟨by omega,by omega,(Int.natCast_mul bytes c)▸(Int.ofNat_le.2 hb),by omega,?_⟩;exact hB.newF λb h' h1 h2 h3=>H b h' h1 h2 h3
theorem Bk.call{α:Type}{G:(α->Hp->Prop)->Hp->Prop}{K1 K:α->Hp->Prop}(hB:Bk D h f)(H:zc G K1 D)(k:∀v D' h',D.le D'->Bk D' h' f->K1 v D'->K v h'):zc G K h:=
 zgu hB.le H λv D' h' h1 h2 h3 h4=>k v D' h' h1 ⟨h2,λb cs hb=>by
  obtain⟨g1,e,g2⟩:=hB.own b cs hb;have:=h3 b g1 (by rw[g2];simp);exact⟨this.1,e,by rw[this.2];exact g2⟩⟩ h4
theorem Bk.mono{h':Hp}(hB:Bk D h f)(hl:h.le h'):Bk D h' f:=⟨Hp.le_trans hB.le hl,λb cs hb=>by
 obtain⟨g1,e,g2⟩:=hB.own b cs hb;exact⟨g1,e,hl _ _ g2⟩⟩
def OS(f:BM)(size:Nat)(x:Sl)(cs:List Value):Prop:=x.len*size=cs.length/\x.len<=x.cap /\
 match x.a with
 | none=>x.cap=0
 | some a=>a.off=0/\a.spot=none/\∃bs,f a.block=some bs/\bs.length=x.cap*size/\bs.take cs.length=cs
def inB(x:Sl)(b:Nat):Prop:=∃a,x.a=some a/\a.block=b
variable {size : Nat} {x : Sl}
theorem OS.nil:OS f size zf []:=⟨by simp[zf],Ja _,rfl⟩
theorem OS.congr{g:BM}(ho:OS f size x cs)(h:∀b,inB x b->g b=f b):OS g size x cs:=by
 obtain⟨h1,h2,h3⟩:=ho;refine⟨h1,h2,?_⟩;cases ha:x.a with
 | none=>rw[ha]at h3;exact h3
 | some a=>
   rw[ha]at h3;obtain⟨g1,g2,bs,g3,g4⟩:=h3;exact⟨g1,g2,bs,by rw[h a.block ⟨a,ha,rfl⟩];exact g3,g4⟩
theorem OS.upd{cs':List Value}(ho:OS f size x cs)(h:¬inB x b):OS (z1b f b cs') size x cs:=ho.congr λk hk=>Q7 λhh=>h (hh▸hk)
theorem OS.there(ho:OS f size x cs)(h:inB x b):f b≠none:=by
 obtain⟨a,ha,rfl⟩:=h;obtain⟨_,_,h3⟩:=ho;rw[ha]at h3;obtain⟨_,_,bs,g3,_⟩:=h3;rw[g3];simp
theorem OS.own(ho:OS f size x cs)(hB:Bk D h f):Own D h size x cs:=by
 obtain⟨h1,h2,h3⟩:=ho;refine⟨hB.le,h1,h2,?_⟩;cases ha:x.a with
 | none=>rw[ha]at h3;exact h3
 | some a=>
   rw[ha]at h3;obtain⟨g1,g2,bs,g3,g4,g5⟩:=h3;obtain⟨k1,e,k2⟩:=hB.own _ _ g3;exact⟨g1,g2,k1,_,k2,rfl,g4,g5⟩
theorem OS.rd(ho:OS f size x cs)(hB:Bk D h f):Rd h size x cs:=(ho.own hB).rd
theorem OS.st{K:Hp->Prop}{z:Int}(k:Nat)(ho:OS f size x cs)(hB:Bk D h f)(hi:z=k)(hk:k<x.len)(hv:vs.length=size)(hsz:0<size)(hleaf:vs.all Gq=true)
 (H:∀f' h',Bk D h' f'->OS f' size x (Zc cs (k*size) vs)->(∀b,¬inB x b->f' b=f b)->K h'):zg x z size λa=>stP a vs K h:=by
 subst hi;have ho':=ho;obtain⟨h1,h2,h3⟩:=ho;refine⟨by omega,by omega,?_⟩;cases ha:x.a with
 | none=>rw[ha]at h3;simp only at h3;omega
 | some a=>
   rw[ha]at h3;obtain⟨g1,g2,bs,g3,g4,g5⟩:=h3;have ea:a=⟨a.block,0,none⟩:=by cases a;simp only at g1 g2;rw[g1,g2]
   have e1:k*size+size<=cs.length:=by
    rw[<-h1];have:=Jj size (show k+1<=x.len by omega);rw[Js]at this;omega
   have e2:cs.length<=bs.length:=by rw[g4,<-h1];exact Jj _ h2
   show Ye (some a) _;simp only[Ye];rw[ea,z2p,Gi,show((k:Int).toNat)=k from rfl];refine hB.st g3 (by omega) hleaf λh' hB'=>H _ h' hB' ⟨?_,h2,?_⟩ λb hb=>Q7 λhh=>hb ⟨a,ha,hh.symm⟩
   . rw[Yj (by omega)];exact h1
   . rw[ha];refine⟨g1,g2,_,Z9,?_,?_⟩
     . rw[Yj (by omega)];exact g4
     . rw[Yj (by omega)];exact zcz (by omega) g5
theorem OS.app{K:Sl->Hp->Prop}{bytes n:Nat}{zero new:List Value}(ho:OS f size x cs)(hB:Bk D h f)(hn:new.length=n*size)(hz:zero.length=size)(hleaf:new.all Gq=true)
 (hb:(x.len+n)*bytes<=140737488355328) (hb2:x.len+n<=140737488355328)
 (H:∀y f' h',Bk D h' f'->OS f' size y (cs++new)->(∀b,¬inB x b->f b≠none->f' b=f b)->(∀b,inB y b->inB x b\/f b=none/\D b=none)->K y h'):ql size bytes zero x n new K h:=by
 have hrd:=ho.rd hB;obtain⟨h1,h2,h3⟩:=ho;refine⟨hb,hb2,λhfit=>?_,λhgrow=>?_⟩
 . cases ha:x.a with
   | none=>
     rw[ha]at h3;simp only at h3;have hn0:n=0:=by omega
     have hnew:new=[]:=by
      cases new with
      | nil=>rfl
      | cons a b=>rw[hn0]at hn;simp at hn
     subst hnew hn0;simp only[stO];refine H _ f _ hB ⟨by simpa using h1,by show x.len+0<=x.cap;omega,h3⟩ (λ_ _ _=>rfl) (λb hb=>?_);obtain⟨a,h5,_⟩:=hb;cases h5
   | some a=>
     rw[ha]at h3;obtain⟨g1,g2,bs,g3,g4,g5⟩:=h3;have ea:a=⟨a.block,0,none⟩:=by cases a;simp only at g1 g2;rw[g1,g2]
     have e1:(x.len+n)*size=cs.length+new.length:=by rw[Js,h1,hn]
     have e2:cs.length+new.length<=bs.length:=by rw[g4,<-e1];exact Jj _ hfit
     simp only[stO];have hoff:x.len*size=cs.length:=h1;have key:∀K':Hp->Prop,(∀h',Bk D h' (z1b f a.block (Zc bs (x.len*size) new))->K' h')->stP (a.add (x.len*size)) new K' h:=by
      intro K' hK;rw[ea,z2p,Gi];exact hB.st g3 (by omega) hleaf hK
     refine key _ λh' hB'=>H _ _ h' hB' ⟨?_,hfit,?_⟩ (λb hb _=>Q7 λhh=>hb ⟨a,ha,hh.symm⟩) (λb hb=>?_)
     . show(x.len+n)*size=_;rw[Je];exact e1
     . refine⟨g1,g2,_,Z9,?_,?_⟩
       . rw[Yj (by omega)];exact g4
       . unfold Zc;rw[hoff,g5,Uq,Je,Ph];simp only[To];rw[Jd (by omega),Ph,Jd (Ja _)];simp
     . obtain⟨a',h5,h6⟩:=hb;cases h5;exact .inl ⟨a,ha,h6⟩
 . refine⟨cs,?_,λbk e c hc hfr=>?_⟩
   . rw[h1];exact hrd.2
   . refine H _ _ _ (hB.insF hfr) ⟨?_,hc,?_⟩ (λb hb hb2=>Q7 λhh=>hb2 (by rw[hh];exact(hB.fresh hfr).1)) (λb hb=>?_)
     . show(x.len+n)*size=_;rw[Je,Js,h1,hn]
     . refine⟨rfl,rfl,_,Z9,?_,?_⟩
       . have hr:(yn (c-(x.len+n)) zero).length=(c-(x.len+n))*size:=by rw[z40,hz]
         rw[Je,Je,hr,hn,<-h1,<-Js,<-Js];show _=c*size;congr 1;omega
       . rw[Jx (by simp)];exact Jd (Ja _)
     . obtain⟨a',h5,h6⟩:=hb;cases h5;subst h6;exact .inr (hB.fresh hfr)
theorem OS.mk{n c:Nat}{zero:List Value}(hz:zero.length=size)(hnc:n<=c):OS (z1b f b (yn c zero)) size ⟨some ⟨b,0,none⟩,n,c⟩ (yn n zero):=by
 refine⟨by rw[z40,hz],hnc,rfl,rfl,_,Z9,by rw[z40,hz],?_⟩;have:yn c zero=yn n zero++yn (c-n) zero:=by
  unfold yn;rw[<-List.flatten_append,List.replicate_append_replicate];congr 2;omega
 rw[this,Jx (Ja _),Jd (Ja _)]
theorem OS.blk{n:Nat}(hn:cs.length=n*size):OS (z1b f b cs) size ⟨some ⟨b,0,none⟩,n,n⟩ cs:=⟨hn.symm,Ja _,rfl,rfl,_,Z9,hn,Jd (Ja _)⟩
theorem OS.appF{K:Sl->Hp->Prop}{bytes n:Nat}{zero new:List Value}(ho:OS f size x cs)(hB:Bk D h f)(hn:new.length=n*size)(hleaf:new.all Gq=true)
 (hb:(x.len+n)*bytes<=140737488355328) (hb2:x.len+n<=140737488355328) (hfit:x.len+n<=x.cap)
 (H:∀f' h',Bk D h' f'->OS f' size ⟨x.a,x.len+n,x.cap⟩ (cs++new)->(∀b,¬inB x b->f' b=f b)->K ⟨x.a,x.len+n,x.cap⟩ h'):ql size bytes zero x n new K h:=by
 have ho':=ho;obtain⟨h1,h2,h3⟩:=ho;refine⟨hb,hb2,λ_=>?_,λhgrow=>by omega⟩;cases ha:x.a with
 | none=>
   rw[ha]at h3;simp only at h3;have hn0:n=0:=by omega
   have hnew:new=[]:=by
    cases new with
    | nil=>rfl
    | cons a b=>rw[hn0]at hn;simp at hn
   subst hnew hn0;simp only[stO];have:=H f _ hB ⟨by simpa using h1,by show x.len+0<=x.cap;omega,by rw[ha];exact h3⟩ (λ_ _=>rfl);rw[ha]at this;exact this
 | some a=>
   rw[ha]at h3;obtain⟨g1,g2,bs,g3,g4,g5⟩:=h3;have ea:a=⟨a.block,0,none⟩:=by cases a;simp only at g1 g2;rw[g1,g2]
   have e1:(x.len+n)*size=cs.length+new.length:=by rw[Js,h1,hn]
   have e2:cs.length+new.length<=bs.length:=by rw[g4,<-e1];exact Jj _ hfit
   simp only[stO];have hoff:x.len*size=cs.length:=h1;have key:∀K':Hp->Prop,(∀h',Bk D h' (z1b f a.block (Zc bs (x.len*size) new))->K' h')->stP (a.add (x.len*size)) new K' h:=by
    intro K' hK;rw[ea,z2p,Gi];exact hB.st g3 (by omega) hleaf hK
   refine key _ λh' hB'=>?_
   have:=H _ h' hB' ⟨?_,hfit,?_⟩ (λb hb=>Q7 λhh=>hb ⟨a,ha,hh.symm⟩)
   . rw[ha]at this;exact this
   . show(x.len+n)*size=_;rw[Je];exact e1
   . rw[ha];refine⟨g1,g2,_,Z9,?_,?_⟩
     . rw[Yj (by omega)];exact g4
     . unfold Zc;rw[hoff,g5,Uq,Je,Ph];simp only[To];rw[Jd (by omega),Ph,Jd (Ja _)];simp
theorem OS.spare{K:Hp->Prop}{k:Nat}(ho:OS f size x cs)(hB:Bk D h f)(hx:∃a,x.a=some a)(hk:cs.length<=k)(hlen:k+vs.length<=x.cap*size)(hleaf:vs.all Gq=true)
 (H:∀f' h',Bk D h' f'->OS f' size x cs->(∀b,¬inB x b->f' b=f b)->K h'):stO x.a k vs K h:=by
 obtain⟨a,ha⟩:=hx;obtain⟨h1,h2,h3⟩:=ho;rw[ha]at h3 |-
 obtain⟨g1,g2,bs,g3,g4,g5⟩:=h3;have ea:a=⟨a.block,0,none⟩:=by cases a;simp only at g1 g2;rw[g1,g2]
 simp only[stO];have key:∀K':Hp->Prop,(∀h',Bk D h' (z1b f a.block (Zc bs k vs))->K' h')->stP (a.add k) vs K' h:=by
  intro K' hK;rw[ea,z2p,Gi];exact hB.st g3 (by omega) hleaf hK
 refine key _ λh' hB'=>H _ h' hB' ⟨h1,h2,?_⟩ (λb hb=>Q7 λhh=>hb ⟨a,ha,hh.symm⟩)
 rw[ha];refine⟨g1,g2,_,Z9,?_,?_⟩
 . rw[Yj (by omega)];exact g4
 . unfold Zc;rw[Uq,Jx (by simp;omega),List.take_take,Gk hk];exact g5
theorem OS.cut{n:Nat}(ho:OS f size x cs)(hn:n<=x.len):OS f size (x.cut 0 n size) (cs.take (n*size)):=by
 obtain⟨h1,h2,h3⟩:=ho;have hle:n*size<=cs.length:=by rw[<-h1];exact Jj _ hn
 have ea:(x.cut 0 n size).a=x.a:=by
  show(if x.cap=0 then x.a else x.a.map (·.add (0*size)))=x.a;split
  . rfl
  . cases x.a with
    | none=>rfl
    | some a=>simp only[U0,Nat.zero_mul,Zw]
 refine⟨?_,?_,?_⟩
 . show(n-0)*size=_;rw[List.length_take];simp;omega
 . show n-0<=x.cap-0;omega
 . rw[ea];cases ha:x.a with
   | none=>rw[ha]at h3;show x.cap-0=0;simp only at h3;omega
   | some a=>
     rw[ha]at h3;obtain⟨g1,g2,bs,g3,g4,g5⟩:=h3;refine⟨g1,g2,bs,g3,?_,?_⟩
     . show _=(x.cap-0)*size;rw[Nat.sub_zero];exact g4
     . rw[List.length_take,Gk hle];rw[<-g5,List.take_take,Gk hle]
theorem zkg{l c k:Nat}{K:Addr->Prop}(hk:k<l)(H:K ⟨b,o+k*size,none⟩):zg ⟨some ⟨b,o,none⟩,l,c⟩ (k:Int) size K:=by
 refine⟨by omega,by show(k:Int)<(l:Int);omega,?_⟩;show Ye (some ⟨b,o,none⟩) _;simp only[Ye];rw[z2p];exact H
theorem zh6{l c k:Nat}{K:Addr->Prop}(hk:k<l)(H:K ⟨b,k,none⟩):zg ⟨some ⟨b,0,none⟩,l,c⟩ (k:Int) 1 K:=by
 refine zkg hk ?_;rw[Gi,Nat.mul_one];exact H
theorem z32{α:Type}{c:α->Value}{l:List α}{k:Nat}{v:α}(hk:k<l.length):Zc (l.map c) k [c v]=(l.set k v).map c:=by
 rw[z4w,List.map_set];have hk':k<(l.map c).length:=by simpa using hk
 rw[List.set_eq_take_append_cons_drop,if_pos hk']
theorem Bk.out{α:Type}{G:(α->Hp->Prop)->Hp->Prop}{K1 K:α->Hp->Prop}(hB:Bk D h f)(hf:f b=some cs)(H:Bk D (h.del b) (λk=>if k=b then none else f k)->G K1 (h.del b))
 (k:∀v h1,K1 v h1->(∀D' f',Bk D' h1 f'->Bk D' (h1.add (h.one b)) (z1b f' b cs)/\f' b=none/\D' b=none)->K v (h1.add (h.one b))):Qu G K h:=by
 obtain⟨hd,e,he⟩:=hB.own b cs hf;have h0:Bk D (h.del b) (λk=>if k=b then none else f k):=by
  refine⟨λk B hk=>?_,λk ds hk=>?_⟩
  . unfold Hp.del;rw[if_neg (λhh=>by rw[hh,hd]at hk;cases hk)];exact hB.le k B hk
  . by_cases hkb:k=b
    . subst hkb;simp at hk
    . simp only[if_neg hkb]at hk;unfold Hp.del;rw[if_neg hkb];exact hB.own k ds hk
 refine⟨h.del b,h.one b,K1,Hp.del_dj h b,Hp.del_add h b,H h0,λv h1 hk hdj=>k v h1 hk λD' f' hB'=>?_⟩;have hob:(h.one b) b=some ⟨cs,e,(0,0)⟩:=by simp[Hp.one,he]
 have h1b:h1 b=none:=by
  rcases hdj b with h2 | h2
  . exact h2
  . rw[hob]at h2;cases h2
 have hfr:=hB'.fresh h1b;refine⟨⟨λk B hk=>Hp.le_add _ _ _ _ (hB'.le k B hk),λk ds hk=>?_⟩,hfr⟩;by_cases hkb:k=b
 . subst hkb;rw[Z9]at hk;cases hk;exact⟨hfr.2,e,by unfold Hp.add;rw[h1b];exact hob⟩
 . rw[Q7 hkb]at hk;obtain⟨q1,e',q2⟩:=hB'.own k ds hk;exact⟨q1,e',Hp.le_add _ _ _ _ q2⟩
end
end Den
end

section
namespace Den
def szX(n:Nat)(X:Int->Bool):Nat:=(Jp n).countP λi:Nat=>X (i:Int)
def z0u(es:List (Int×Int))(X:Int->Bool):Nat:=es.countP λe=>X e.1&&X e.2
def X3(n:Nat)(es:List (Int×Int)):Prop:=∀X:Int->Bool,2<=szX n X->z0u es X+3<=2*szX n X
theorem Z3d{es fs:List (Int×Int)}{X:Int->Bool}(h:es.Sublist fs):z0u es X<=z0u fs X:=h.countP_le
theorem X3.sub{n:Nat}{es fs:List (Int×Int)}(h:X3 n fs)(hs:es.Sublist fs):X3 n es:=λX hX=>by
 have h1:=h X hX;have h2:=Z3d (X:=X) hs;omega
theorem zda{es:List (Int×Int)}{a b:Int}{X:Int->Bool}:z0u (es++[(a,b)]) X=z0u es X+(if X a&&X b then 1 else 0):=by
 unfold z0u;rw[Uo,Uc]
theorem zn0{es fs:List (Int×Int)}{X:Int->Bool}(h:es.Perm fs):z0u es X=z0u fs X:=h.countP_eq _
theorem X3.perm{n:Nat}{es fs:List (Int×Int)}(h:X3 n es)(hp:es.Perm fs):X3 n fs:=λX hX=>by
 rw[<-zn0 hp];exact h X hX
def zcv(O:List (List Int))(X:Int->Bool)(v:Nat):Nat:=if X (v:Int)then (O.getD v []).countP X else 0
def zgx(O:List (List Int))(X:Int->Bool):Nat:=((Jp O.length).map (zcv O X)).sum
theorem zec{f g:Nat->Nat}{a:Nat}:∀{n:Nat},a<n->(∀i,i≠a->f i=g i)->((Jp n).map f).sum+g a=((Jp n).map g).sum+f a
 | 0,h,_=>by omega
 | n+1,h,hfg=>by
   rw[Gp,Uf,Uf,List.sum_append,List.sum_append];simp only[U3,Pg,List.sum_cons,List.sum_nil,Uy];by_cases ha:a=n
   . subst ha;have:((Jp a).map f)=(Jp a).map g:=List.map_congr_left λi hi=>hfg i (by have:=List.mem_range.1 hi;omega)
     rw[this];omega
   . have:=zec (f:=f) (g:=g) (a:=a) (n:=n) (by omega) hfg;have:=hfg n (λhh=>ha hh.symm);omega
theorem Qv{α:Type}{l:List α}{i j:Nat}{x d:α}(h:i≠j):(l.set i x).getD j d=l.getD j d:=by
 rw[Jf,Jf,List.getElem?_set_ne h]
theorem Wb{α:Type}{l:List α}{i:Nat}{x d:α}(h:i<l.length):(l.set i x).getD i d=x:=by
 rw[Jf,List.getElem?_set_self h];rfl
theorem zjt{O:List (List Int)}{X:Int->Bool}{a:Nat}{l:List Int}(ha:a<O.length):zgx (O.set a l) X+zcv O X a=zgx O X+(if X (a:Int)then l.countP X else 0):=by
 unfold zgx;rw[Gl];have:=zec (f:=zcv (O.set a l) X) (g:=zcv O X) ha (λi hi=>by unfold zcv;rw[Qv (λhh=>hi hh.symm)]);rw[this];congr 1;unfold zcv;rw[Wb ha]
structure GI(n:Nat)(O:List (List Int))(es:List (Int×Int)):Prop where
 len:O.length=n
 two:∀v,v<n->(O.getD v []).length<=2
 rng:∀v,v<n->∀u∈O.getD v [],0<=u/\u<n
 cnt:∀X:Int->Bool,zgx O X=z0u es X
def qr(vis:List Bool)(i:Nat):Bool:=vis.getD i false
def FP(n:Nat)(O:List (List Int))(vis:List Bool)(a:Nat)(r:Bool)(O':List (List Int))(vis':List Bool):Prop:=
 O'.length=n/\vis'.length=n/\match r with
 | true=>(∀v,v<n->(O'.getD v []).length<=2)/\(∀v,v<n->∀u∈O'.getD v [],0<=u/\u<n)/\(∀X:Int->Bool,zgx O' X=zgx O X) /\
    (O'.getD a []).length+1=(O.getD a []).length/\∀v,qr vis v=true->v≠a->O'.getD v []=O.getD v []
 | false=>O'=O/\(∀v,qr vis v=true->qr vis' v=true)/\qr vis' a=true /\
    ∀v,qr vis' v=true->qr vis v=false->(∀u∈O.getD v [],qr vis' u.toNat=true)/\(v≠a->(O.getD v []).length=2)
theorem zk8{α:Type}:∀{l:List α} {i:Nat} (h:i<l.length),(l[i] :: l.eraseIdx i).Perm l
 | x :: l,0,h=>by simp
 | x :: l,i+1,h=>by
   have hi:i<l.length:=by simpa using h
   have:=zk8 (l:=l) (i:=i) hi;simp only[List.getElem_cons_succ,List.eraseIdx_cons_succ];exact(List.Perm.swap x l[i] (l.eraseIdx i)).trans (this.cons x)
theorem Zc6{O:List (List Int)}{a b i:Nat}{X:Int->Bool}(ha:a<O.length)(hb:b<O.length)(hab:a≠b)(hi:i<(O.getD a []).length)(he:(O.getD a [])[i]=(b:Int)) :
 zgx ((O.set a ((O.getD a []).eraseIdx i)).set b (O.getD b []++[(a:Int)])) X=zgx O X:=by
 have h1:=zjt (O:=O) (X:=X) (a:=a) (l:=(O.getD a []).eraseIdx i) ha;have h2:=zjt (O:=O.set a ((O.getD a []).eraseIdx i)) (X:=X) (a:=b) (l:=O.getD b []++[(a:Int)]) (by rw[Gl];exact hb);have e1:zcv (O.set a ((O.getD a []).eraseIdx i)) X b=zcv O X b:=by unfold zcv;rw[Qv hab]
 rw[e1]at h2;have e2:(O.getD a []).countP X=((O.getD a []).eraseIdx i).countP X+(if X (b:Int)then 1 else 0):=by
  have hp:(O.getD a []).Perm ((b:Int) :: (O.getD a []).eraseIdx i):=by
   rw[<-he];exact(zk8 hi).symm
  rw[hp.countP_eq,List.countP_cons]
 have e3:(O.getD b []++[(a:Int)]).countP X=(O.getD b []).countP X+(if X (a:Int)then 1 else 0):=by rw[Uo,Uc]
 unfold zcv at h1 h2;rw[e3]at h2;rw[e2]at h1;have F:∀(Y:Int->Bool) (x:Int) (p q:Nat),Y x=false->(if Y x=true then p else q)=q:=λY x p q h=>by rw[h];rfl
 have T:∀(Y:Int->Bool) (x:Int) (p q:Nat),Y x=true->(if Y x=true then p else q)=p:=λY x p q h=>by rw[h];rfl
 cases xa:X (a:Int)<;>cases xb:X (b:Int)
 . rw[F X a _ _ xa,F X a _ _ xa]at h1;rw[F X b _ _ xb,F X b _ _ xb]at h2;omega
 . rw[F X a _ _ xa,F X a _ _ xa]at h1;rw[T X b _ _ xb,T X b _ _ xb,F X a _ _ xa]at h2;omega
 . rw[T X a _ _ xa,T X a _ _ xa,F X b _ _ xb]at h1;rw[F X b _ _ xb,F X b _ _ xb]at h2;omega
 . rw[T X a _ _ xa,T X a _ _ xa,T X b _ _ xb]at h1;rw[T X b _ _ xb,T X b _ _ xb,T X a _ _ xa]at h2;omega
theorem FP.turn{n:Nat}{O O1:List (List Int)}{vis vis1 vis':List Bool}{a b i:Nat}(hO:O.length=n)(htwo:∀v,v<n->(O1.getD v []).length<=2)(hrng:∀v,v<n->∀u∈O1.getD v [],0<=u/\u<n)
 (hl:O1.length=n) (hv:vis'.length=n) (hc:∀X:Int->Bool,zgx O1 X=zgx O X) (ha:a<n) (hb:b<n) (hab:a≠b) (hvb:qr vis b=false) (hO1:∀v,qr vis v=true\/v=a->O1.getD v []=O.getD v [])
 (hi:i<(O.getD a []).length) (he:(O.getD a [])[i]=(b:Int)) (hfree:(O1.getD b []).length<2) :
 FP n O vis a true ((O1.set a ((O1.getD a []).eraseIdx i)).set b (O1.getD b []++[(a:Int)])) vis':=by
 have ea:=hO1 a (.inr rfl);have hi1:i<(O1.getD a []).length:=by rw[ea];exact hi
 have he1:(O1.getD a [])[i]=(b:Int):=by
  have:(O1.getD a [])[i]?=some (b:Int):=by rw[ea,Jc hi,he]
  rw[Jc hi1]at this;exact J9 this
 have gb:((O1.set a ((O1.getD a []).eraseIdx i)).set b (O1.getD b []++[(a:Int)])).getD b []=O1.getD b []++[(a:Int)]:=Wb (by rw[Gl];omega);have ga:((O1.set a ((O1.getD a []).eraseIdx i)).set b (O1.getD b []++[(a:Int)])).getD a []=(O1.getD a []).eraseIdx i:=by rw[Qv (λhh=>hab hh.symm),Wb (by omega)]
 have go:∀v,v≠a->v≠b->((O1.set a ((O1.getD a []).eraseIdx i)).set b (O1.getD b []++[(a:Int)])).getD v []=O1.getD v []:=λv h1 h2=>by rw[Qv (λhh=>h2 hh.symm),Qv (λhh=>h1 hh.symm)]
 refine⟨by rw[Gl,Gl];exact hl,hv,λv hvn=>?_,λv hvn u hu=>?_,λX=>?_,?_,λv hvv hva=>?_⟩
 . by_cases h1:v=b
   . subst h1;rw[gb,Je,Gr];omega
   . by_cases h2:v=a
     . subst h2;rw[ga];have:=htwo v hvn;rw[List.length_eraseIdx];split<;>omega
     . rw[go v h2 h1];exact htwo v hvn
 . by_cases h1:v=b
   . subst h1;rw[gb]at hu;rcases List.mem_append.1 hu with hu | hu
     . exact hrng v hvn u hu
     . rw[J6.1 hu];omega
   . by_cases h2:v=a
     . subst h2;rw[ga]at hu;exact hrng v hvn u (List.mem_of_mem_eraseIdx hu)
     . rw[go v h2 h1]at hu;exact hrng v hvn u hu
 . rw[Zc6 (by omega) (by omega) hab hi1 he1];exact hc X
 . rw[ga,List.length_eraseIdx,if_pos hi1,ea];omega
 . have hvb':v≠b:=λhh=>by subst hh;rw[hvb]at hvv;cases hvv
   rw[go v hva hvb'];exact hO1 v (.inl hvv)
theorem zxp{f:Nat->Nat}{p:Nat->Bool}{a:Nat}:∀{n:Nat},(∀v,v<n->p v=true->v≠a->2<=f v)->(a<n->p a=true->1<=f a)->2*(Jp n).countP p<=((Jp n).map f).sum+1
 | 0,_,_=>by simp
 | n+1,h,h2=>by
   rw[Gp,Uo,Uf,List.sum_append,Uc];simp only[U3,Pg,List.sum_cons,List.sum_nil,Uy];by_cases hp:p n=true
   . rw[if_pos hp];by_cases ha:n=a
     . subst ha;have h3:=h2 (by omega) hp;have key:∀m,m<=n->2*(Jp m).countP p<=((Jp m).map f).sum:=by
        intro m;induction m with
        | zero=>intro _;simp
        | succ m ih=>
          intro hm;have:=ih (by omega);rw[Gp,Uo,Uf,List.sum_append,Uc];simp only[U3,Pg,List.sum_cons,List.sum_nil,Uy];by_cases hpm:p m=true
          . rw[if_pos hpm];have:=h m (by omega) hpm (by omega);omega
          . rw[if_neg hpm];omega
       have:=key n (Ja _);omega
     . have h3:=h n (by omega) hp ha;have:=zxp (f:=f) (p:=p) (a:=a) (n:=n) (λv hv=>h v (by omega)) (λhv=>h2 (by omega));omega
   . rw[if_neg hp];have:=zxp (f:=f) (p:=p) (a:=a) (n:=n) (λv hv=>h v (by omega)) (λhv=>h2 (by omega));omega
theorem Z9y{p:Nat->Bool}{a:Nat}:∀{n:Nat},a<n->p a=true->1<=(Jp n).countP p:=λ{n} ha hp=>
 List.one_le_countP_iff.2 ⟨a,List.mem_range.2 ha,hp⟩
theorem zyc{p:Nat->Bool}{a b:Nat}:∀{n:Nat},a<n->b<n->a≠b->p a=true->p b=true->2<=(Jp n).countP p
 | 0,h,_,_,_,_=>by omega
 | n+1,ha,hb,hab,pa,pb=>by
   rw[Gp,Uo,Uc];by_cases h1:a=n
   . subst h1;have:=Z9y (p:=p) (a:=b) (n:=a) (by omega) pb;rw[if_pos pa];omega
   . by_cases h2:b=n
     . subst h2;have:=Z9y (p:=p) (a:=a) (n:=b) (by omega) pa;rw[if_pos pb];omega
     . have:=zyc (p:=p) (a:=a) (b:=b) (n:=n) (by omega) (by omega) hab pa pb;omega
theorem zrz{n:Nat}{O O':List (List Int)}{es:List (Int×Int)}{vis vis':List Bool}{a b:Nat}{e:Int×Int}(hg:GI n O es)(hs:X3 n (es++[e]))(he:e=((a:Int),(b:Int))\/e=((b:Int),(a:Int)))(ha:a<n)(hb:b<n)(hab:a≠b)
 (hvis:∀v,qr vis v=true↔v=b) (hf:FP n O vis a false O' vis'):(O.getD a []).length=0:=by
 obtain⟨_,hl,rfl,h1,h2,h3⟩:=hf;refine Classical.byContradiction λhne=>?_
 have hb':qr vis' b=true:=h1 b ((hvis b).2 rfl);have hX:∀i:Nat,(λx:Int=>qr vis' x.toNat) (i:Int)=qr vis' i:=λi=>rfl
 have hlt:∀v,qr vis' v=true->v<n:=λv hv=>by
  rcases Nat.lt_or_ge v n with h | h
  . exact h
  . unfold qr at hv;rw[Jf,J5 (by omega)]at hv;cases hv
 have hsz:2<=szX n λx=>qr vis' x.toNat:=by
  unfold szX;exact zyc ha hb hab h2 hb'
 have h4:=hs _ hsz;have h5:z0u (es++[e]) (λx=>qr vis' x.toNat)=z0u es (λx=>qr vis' x.toNat)+1:=by
  obtain⟨e1,e2⟩:=e;rw[zda];rcases he with he | he
  . cases he;rw[if_pos (by show(qr vis' a&&qr vis' b)=true;rw[h2,hb'];rfl)]
  . cases he;rw[if_pos (by show(qr vis' b&&qr vis' a)=true;rw[h2,hb'];rfl)]
 rw[h5,<-hg.cnt]at h4;have h6:∀v,v<n->qr vis' v=true->v≠b->zcv O' (λx=>qr vis' x.toNat) v=(O'.getD v []).length:=λv hv hv2 hvb=>by
  unfold zcv;rw[if_pos (show(λx:Int=>qr vis' x.toNat) (v:Int)=true from hv2)];rw[List.countP_eq_length];intro u hu;exact(h3 v hv2 (by
   cases hh:qr vis v with
   | false=>rfl
   | true=>exact absurd ((hvis v).1 hh) hvb)).1 u hu
 have h7:=zxp (f:=zcv O' (λx=>qr vis' x.toNat)) (p:=λv=>qr vis' v&&decide (v≠b)) (a:=a) (n:=n)
  (λv hv hp hva=>by
    simp only[Bool.and_eq_true,decide_eq_true_iff]at hp;rw[h6 v hv hp.1 hp.2];have:=(h3 v hp.1 (by
     cases hh:qr vis v with
     | false=>rfl
     | true=>exact absurd ((hvis v).1 hh) hp.2)).2 hva
    omega)
  (λhv hp=>by
    simp only[Bool.and_eq_true,decide_eq_true_iff]at hp;rw[h6 a hv hp.1 hp.2];omega)
 have h8:szX n (λx=>qr vis' x.toNat)=(Jp n).countP (λv=>qr vis' v&&decide (v≠b))+1:=by
  unfold szX;have key:∀m,(Jp m).countP (λi:Nat=>qr vis' (i:Int).toNat)=(Jp m).countP (λv=>qr vis' v&&decide (v≠b))+(if b<m then 1 else 0):=by
   intro m;induction m with
   | zero=>simp
   | succ m ih=>
     rw[Gp,Uo,Uo,ih,Uc,Uc];rw[show qr vis' ((m:Nat):Int).toNat=qr vis' m from rfl];by_cases hmb:m=b
     . subst hmb;simp[hb']
     . have e1:(if b<m+1 then 1 else 0)=(if b<m then 1 else 0):=by
        by_cases hh:b<m
        . rw[if_pos hh,if_pos (by omega)]
        . rw[if_neg hh,if_neg (by omega)]
       rw[e1];simp only[hmb,ne_eq,not_false_eq_true,decide_true,Bool.and_true];omega
  rw[key n,if_pos hb]
 have h9:zgx O' (λx=>qr vis' x.toNat)=((Jp n).map (zcv O' (λx=>qr vis' x.toNat))).sum:=by unfold zgx;rw[hg.len]
 rw[h9,h8]at h4;omega
theorem GI.accept{n:Nat}{O:List (List Int)}{es:List (Int×Int)}{a b:Nat}(hg:GI n O es)(ha:a<n)(hb:b<n)(hfree:(O.getD a []).length<2):GI n (O.set a (O.getD a []++[(b:Int)])) (es++[((a:Int),(b:Int))]):=by
 have hlen:=hg.len;refine⟨by rw[Gl];exact hg.len,λv hv=>?_,λv hv u hu=>?_,λX=>?_⟩
 . by_cases h:v=a
   . subst h;rw[Wb (by omega),Je,Gr];omega
   . rw[Qv (λhh=>h hh.symm)];exact hg.two v hv
 . by_cases h:v=a
   . subst h;rw[Wb (by omega)]at hu;rcases List.mem_append.1 hu with hu | hu
     . exact hg.rng v hv u hu
     . rw[J6.1 hu];omega
   . rw[Qv (λhh=>h hh.symm)]at hu;exact hg.rng v hv u hu
 . have h1:=zjt (O:=O) (X:=X) (a:=a) (l:=O.getD a []++[(b:Int)]) (by omega);rw[Uo,Uc]at h1;rw[zda,<-hg.cnt];unfold zcv at h1;cases xa:X (a:Int)<;>cases xb:X (b:Int)<;>simp only[xa,xb,if_true,Bool.true_and,Bool.false_and,Bool.false_eq_true,if_false]at h1 |-<;>omega
theorem GI.start(n:Nat):GI n (Jr n []) []:=by
 have e:∀v,(Jr n ([]:List Int)).getD v []=[]:=λv=>by
  rw[Jf,List.getElem?_replicate];split<;>rfl
 refine⟨by simp,λv _=>(by rw[e];simp),λv _ u hu=>(by rw[e]at hu;exact absurd hu List.not_mem_nil),λX=>?_⟩;unfold zgx;have:∀l:List Nat,(l.map (zcv (Jr n []) X)).sum=0:=λl=>by
  induction l with
  | nil=>rfl
  | cons a r ih=>rw[U3,List.sum_cons,ih];unfold zcv;rw[e];simp
 rw[this];rfl
theorem GI.fetched{n:Nat}{O O':List (List Int)}{es:List (Int×Int)}{vis vis':List Bool}{a:Nat}(hg:GI n O es)(hf:FP n O vis a true O' vis'):GI n O' es:=by
 obtain⟨h1,_,h2,h3,h4,_,_⟩:=hf;exact⟨h1,h2,h3,λX=>by rw[h4,hg.cnt]⟩
end Den
end
