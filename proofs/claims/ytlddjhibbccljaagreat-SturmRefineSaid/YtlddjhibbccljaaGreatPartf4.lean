/-
  Part 4 of the tools and contracts from which the statement is proved.
-/
import Derived.Test.YtlddjhibbccljaaGreatPartf3
import Derived.Lib.Bytealg
import Derived.Test.YtlddjhibbccljaaGreatProg
import Derived.Laws.Externs
import Derived.RangeFuncBox
import Derived.RangeFuncLeaves
import Derived.Shelf.Abstract
import Derived.WalkKit
import Derived.OwnWalkIn
import Derived.TacticsInMore
import Derived.LoopNIn
import Derived.LoopIn
set_option linter.unusedVariables false
open Go.IntKind
section
set_option maxRecDepth 10000
namespace Den
open Go
namespace F
def zbg(s:Sl)(K:Sl->Hp->Prop)(h:Hp):Prop:=
 (ifP s.a.isNone
 (K nilS h)
 (newP [] (λp1 h1=>
 (rdO s.a (s.len*4) (λvs2=>
 (appP 4 64 [.bool false,.slice nilS.a nilS.len nilS.cap,.bool false,.slice nilS.a nilS.len nilS.cap] (⟨some p1,0,0⟩:Sl) s.len vs2 (λw3 h2=>
 (K w3 h2)) h1)) h1)) h))
def zay(a:Sl)(K:Sl->Hp->Prop)(h:Hp):Prop:=
 (joinP (S:=Int×Unit) (λs1 h1=>
 (slP a 0 s1.1 4 λc3=>
 (callP (zbg c3) (λr4 h2=>
 (K r4 h2)) h1)))
 (λk2=>
 (loopP (S:=Int×Unit) (λs5 k6 h3=>
 (joinP (S:=Unit) (λs7 h4=>
 (k6 ((i64.wrap (s5.1-1)),()) h4))
 (λk8=>
 (ifP (decide (s5.1>0))
 (idxP a (i64.wrap (s5.1-1)) 4 λa9=>
 (ldL (.bool) (a9.add 0) (λx10_0=>
 (ldL (.sl) (a9.add 1) (λx10_1=>
 (ldL (.bool) (a9.add 2) (λx10_2=>
 (ldL (.sl) (a9.add 3) (λx10_3=>
 (callP (zc4 (⟨(⟨x10_0,x10_1⟩:TInt),(⟨x10_2,x10_3⟩:TInt)⟩:TRat)) (λr11 h5=>
 (ifP (r11==0)
 (k8 () h5)
 (k2 (s5.1,()) h5))) h3)) h3)) h3)) h3)) h3))
 (k2 (s5.1,()) h3)))))
 ((a.len:Int),()) h)))
def zd4(a:Sl)(K:Int->Hp->Prop)(h:Hp):Prop:=
 (callP (zay a) (λr1 h1=>
 (K (i64.wrap ((r1.len:Int)-1)) h1)) h)
def zjf(x:Int)(y:Int)(K:(Int×Int)->Hp->Prop)(h:Hp):Prop:=
 (0<=(32:Int) /\
 (0<=(32:Int) /\
 (0<=(32:Int) /\
 (0<=(32:Int) /\
 (0<=(32:Int) /\
 (K ((u64.wrap ((u64.wrap ((u64.wrap (((x:Int).fdiv (2 ^ (min (32:Int).toNat u64.bits)))*((y:Int).fdiv (2 ^ (min (32:Int).toNat u64.bits)))))+(((u64.wrap ((u64.wrap (((x:Int).fdiv (2 ^ (min (32:Int).toNat u64.bits)))*(ibits .and .u64 y 4294967295)))+(((u64.wrap ((ibits .and .u64 x 4294967295)*(ibits .and .u64 y 4294967295))):Int).fdiv (2 ^ (min (32:Int).toNat u64.bits))))):Int).fdiv (2 ^ (min (32:Int).toNat u64.bits)))))+(((u64.wrap ((ibits .and .u64 (u64.wrap ((u64.wrap (((x:Int).fdiv (2 ^ (min (32:Int).toNat u64.bits)))*(ibits .and .u64 y 4294967295)))+(((u64.wrap ((ibits .and .u64 x 4294967295)*(ibits .and .u64 y 4294967295))):Int).fdiv (2 ^ (min (32:Int).toNat u64.bits))))) 4294967295)+(u64.wrap ((ibits .and .u64 x 4294967295)*((y:Int).fdiv (2 ^ (min (32:Int).toNat u64.bits))))))):Int).fdiv (2 ^ (min (32:Int).toNat u64.bits))))),(u64.wrap (x*y))) h))))))
def zih(x:Int)(y:Int)(K:(Int×Int)->Hp->Prop)(h:Hp):Prop:=
 (callP (zjf x y) (λr1 h1=>
 (K (r1.1,r1.2) h1)) h)
def zba(x:Sl)(count:Int)(K:Sl->Hp->Prop)(h:Hp):Prop:=
 (joinP (S:=Unit) (λs1 h1=>
 (callP (zih (u64.wrap ((x.len:Int))) (u64.wrap (count))) (λr3 h2=>
 (joinP (S:=Unit) (λs4 h3=>
 (mkP (i64.wrap (r3.2)) (i64.wrap (r3.2)) 64 [.bool false,.slice nilS.a nilS.len nilS.cap,.bool false,.slice nilS.a nilS.len nilS.cap] (λm6 h4=>
 (cpP 4 m6 x (λn7 h5=>
 (loopP (S:=Int×Unit) (λs8 k9 h6=>
 (ifP (decide (s8.1<(m6.len:Int)))
 (slP m6 s8.1 (m6.len:Int) 4 λc10=>
 (slP m6 0 s8.1 4 λc11=>
 (cpP 4 c10 c11 (λn12 h7=>
 (k9 ((i64.wrap (s8.1+(n12:Int))),()) h7)) h6)))
 (K m6 h6)))
 ((n7:Int),()) h5)) h4)) h3))
 (λk5=>
 (ifP (decide (r3.1>0))
 False
 (ifP (decide (r3.2>9223372036854775807))
 False
 (k5 () h2)))))) h1))
 (λk2=>
 (ifP (decide (count<0))
 False
 (k2 () h))))
def zf7(n:Int)(K:Sl->Hp->Prop)(h:Hp):Prop:=
 (callP (zaf 0) (λr1 h1=>
 (newP [.bool r1.num.neg,.slice r1.num.mag.a r1.num.mag.len r1.num.mag.cap,.bool r1.den.neg,.slice r1.den.mag.a r1.den.mag.len r1.den.mag.cap] (λp2 h2=>
 (callP (zba (⟨some p2,1,1⟩:Sl) n) (λr3 h3=>
 (K r3 h3)) h2)) h1)) h)
def zb9(a:Sl)(b:Sl)(K:(Sl×Sl)->Hp->Prop)(h:Hp):Prop:=
 (callP (zay b) (λr1 h1=>
 (callP (zay a) (λr2 h2=>
 (callP (zf7 (maxI 0 (i64.wrap ((i64.wrap ((r2.len:Int)-(r1.len:Int)))+1)))) (λr3 h3=>
 (loopP (S:=Int×Unit) (λs4 k5 h4=>
 (ifP (decide (s4.1>=0))
 (idxP r2 (i64.wrap ((i64.wrap (s4.1+(r1.len:Int)))-1)) 4 λa6=>
 (ldL (.bool) (a6.add 0) (λx7_0=>
 (ldL (.sl) (a6.add 1) (λx7_1=>
 (ldL (.bool) (a6.add 2) (λx7_2=>
 (ldL (.sl) (a6.add 3) (λx7_3=>
 (idxP r1 (i64.wrap ((r1.len:Int)-1)) 4 λa8=>
 (ldL (.bool) (a8.add 0) (λx9_0=>
 (ldL (.sl) (a8.add 1) (λx9_1=>
 (ldL (.bool) (a8.add 2) (λx9_2=>
 (ldL (.sl) (a8.add 3) (λx9_3=>
 (callP (zh5 (⟨(⟨x7_0,x7_1⟩:TInt),(⟨x7_2,x7_3⟩:TInt)⟩:TRat) (⟨(⟨x9_0,x9_1⟩:TInt),(⟨x9_2,x9_3⟩:TInt)⟩:TRat)) (λr10 h5=>
 (idxP r3 s4.1 4 λa11=>
 (stP a11 [.bool r10.1.num.neg,.slice r10.1.num.mag.a r10.1.num.mag.len r10.1.num.mag.cap,.bool r10.1.den.neg,.slice r10.1.den.mag.a r10.1.den.mag.len r10.1.den.mag.cap] (λh6=>
 (loopP (S:=Int×Unit) (λs12 k13 h7=>
 (ifP (decide (s12.1<(r1.len:Int)))
 (idxP r1 s12.1 4 λa14=>
 (ldL (.bool) (a14.add 0) (λx15_0=>
 (ldL (.sl) (a14.add 1) (λx15_1=>
 (ldL (.bool) (a14.add 2) (λx15_2=>
 (ldL (.sl) (a14.add 3) (λx15_3=>
 (idxP r2 (i64.wrap (s4.1+s12.1)) 4 λa16=>
 (ldL (.bool) (a16.add 0) (λx17_0=>
 (ldL (.sl) (a16.add 1) (λx17_1=>
 (ldL (.bool) (a16.add 2) (λx17_2=>
 (ldL (.sl) (a16.add 3) (λx17_3=>
 (idxP r3 s4.1 4 λa18=>
 (ldL (.bool) (a18.add 0) (λx19_0=>
 (ldL (.sl) (a18.add 1) (λx19_1=>
 (ldL (.bool) (a18.add 2) (λx19_2=>
 (ldL (.sl) (a18.add 3) (λx19_3=>
 (callP (zd6 (⟨(⟨x19_0,x19_1⟩:TInt),(⟨x19_2,x19_3⟩:TInt)⟩:TRat) (⟨(⟨x15_0,x15_1⟩:TInt),(⟨x15_2,x15_3⟩:TInt)⟩:TRat)) (λr20 h8=>
 (callP (zh6 (⟨(⟨x17_0,x17_1⟩:TInt),(⟨x17_2,x17_3⟩:TInt)⟩:TRat) r20) (λr21 h9=>
 (idxP r2 (i64.wrap (s4.1+s12.1)) 4 λa22=>
 (stP a22 [.bool r21.num.neg,.slice r21.num.mag.a r21.num.mag.len r21.num.mag.cap,.bool r21.den.neg,.slice r21.den.mag.a r21.den.mag.len r21.den.mag.cap] (λh10=>
 (k13 ((i64.wrap (s12.1+1)),()) h10)) h9))) h8)) h7)) h7)) h7)) h7)) h7))) h7)) h7)) h7)) h7))) h7)) h7)) h7)) h7))
 (k5 ((i64.wrap (s4.1-1)),()) h7)))
 (0,()) h6)) h5))) h4)) h4)) h4)) h4)) h4))) h4)) h4)) h4)) h4))
 (callP (zay r3) (λr23 h11=>
 (callP (zay r2) (λr24 h12=>
 (K (r23,r24) h12)) h11)) h4)))
 ((i64.wrap ((r2.len:Int)-(r1.len:Int))),()) h3)) h2)) h1)) h)
def zd5(a:Sl)(b:Sl)(K:(Sl×Sl×Int)->Hp->Prop)(h:Hp):Prop:=
 (callP (zd4 b) (λr1 h1=>
 (ifP (decide (r1<0))
 (K (nilS,nilS,6) h1)
 (callP (zb9 a b) (λr2 h2=>
 (K (r2.1,r2.2,0) h2)) h1))) h)
def zdr(a:Sl)(n:TRat)(K:Sl->Hp->Prop)(h:Hp):Prop:=
 (mkP (a.len:Int) (a.len:Int) 64 [.bool false,.slice nilS.a nilS.len nilS.cap,.bool false,.slice nilS.a nilS.len nilS.cap] (λm1 h1=>
 (loopP (S:=Int×Unit) (λs2 k3 h2=>
 (ifP (decide (s2.1<(a.len:Int)))
 (idxP a s2.1 4 λa4=>
 (ldL (.bool) (a4.add 0) (λx5_0=>
 (ldL (.sl) (a4.add 1) (λx5_1=>
 (ldL (.bool) (a4.add 2) (λx5_2=>
 (ldL (.sl) (a4.add 3) (λx5_3=>
 (callP (zd6 (⟨(⟨x5_0,x5_1⟩:TInt),(⟨x5_2,x5_3⟩:TInt)⟩:TRat) n) (λr6 h3=>
 (idxP m1 s2.1 4 λa7=>
 (stP a7 [.bool r6.num.neg,.slice r6.num.mag.a r6.num.mag.len r6.num.mag.cap,.bool r6.den.neg,.slice r6.den.mag.a r6.den.mag.len r6.den.mag.cap] (λh4=>
 (k3 ((i64.wrap (s2.1+1)),()) h4)) h3))) h2)) h2)) h2)) h2)) h2))
 (callP (zay m1) (λr8 h5=>
 (K r8 h5)) h2)))
 (0,()) h1)) h)
def zb5(a:Sl)(K:Sl->Hp->Prop)(h:Hp):Prop:=
 (callP (zay a) (λr1 h1=>
 (ifP ((r1.len:Int)==0)
 (K nilS h1)
 (idxP r1 (i64.wrap ((r1.len:Int)-1)) 4 λa2=>
 (ldL (.bool) (a2.add 0) (λx3_0=>
 (ldL (.sl) (a2.add 1) (λx3_1=>
 (ldL (.bool) (a2.add 2) (λx3_2=>
 (ldL (.sl) (a2.add 3) (λx3_3=>
 (callP (zaf 1) (λr4 h2=>
 (callP (zh5 r4 (⟨(⟨x3_0,x3_1⟩:TInt),(⟨x3_2,x3_3⟩:TInt)⟩:TRat)) (λr5 h3=>
 (callP (zdr r1 (⟨(⟨r5.1.num.neg,r5.1.num.mag⟩:TInt),(⟨r5.1.den.neg,r5.1.den.mag⟩:TInt)⟩:TRat)) (λr6 h4=>
 (K r6 h4)) h3)) h2)) h1)) h1)) h1)) h1)) h1)))) h)
def zbx(a:Sl)(K:Sl->Hp->Prop)(h:Hp):Prop:=
 (loopP (S:=Sl×Int×Unit) (λs1 k2 h1=>
 (ifP (decide (s1.2.1<(a.len:Int)))
 (joinP (S:=Sl×Unit) (λs3 h2=>
 (k2 (s3.1,(i64.wrap (s1.2.1+1)),()) h2))
 (λk4=>
 (idxP a s1.2.1 4 λa5=>
 (ldL (.bool) (a5.add 0) (λx6_0=>
 (ldL (.sl) (a5.add 1) (λx6_1=>
 (ldL (.bool) (a5.add 2) (λx6_2=>
 (ldL (.sl) (a5.add 3) (λx6_3=>
 (ifP (decide (s1.2.1>0))
 (callP (zaf s1.2.1) (λr7 h3=>
 (callP (zd6 (⟨(⟨x6_0,x6_1⟩:TInt),(⟨x6_2,x6_3⟩:TInt)⟩:TRat) r7) (λr8 h4=>
 (appP 4 64 [.bool false,.slice nilS.a nilS.len nilS.cap,.bool false,.slice nilS.a nilS.len nilS.cap] s1.1 1 [.bool r8.num.neg,.slice r8.num.mag.a r8.num.mag.len r8.num.mag.cap,.bool r8.den.neg,.slice r8.den.mag.a r8.den.mag.len r8.den.mag.cap] (λw9 h5=>
 (k4 (w9,()) h5)) h4)) h3)) h1)
 (k4 (s1.1,()) h1))) h1)) h1)) h1)) h1))))
 (callP (zay s1.1) (λr10 h6=>
 (K r10 h6)) h1)))
 (nilS,0,()) h)
def zdq(a:Sl)(b:Sl)(K:Sl->Hp->Prop)(h:Hp):Prop:=
 (callP (zb5 a) (λr1 h1=>
 (callP (zb5 b) (λr2 h2=>
 (loopP (S:=Sl×Sl×Unit) (λs3 k4 h3=>
 (ifP (decide ((s3.2.1.len:Int)>0))
 (callP (zb9 s3.1 s3.2.1) (λr5 h4=>
 (callP (zb5 r5.2) (λr6 h5=>
 (k4 (s3.2.1,r6,()) h5)) h4)) h3)
 (K s3.1 h3)))
 (r1,r2,()) h2)) h1)) h)
def zbb(a:Sl)(K:Sl->Hp->Prop)(h:Hp):Prop:=
 (callP (zb5 a) (λr1 h1=>
 (ifP ((r1.len:Int)==0)
 (K nilS h1)
 (callP (zbx r1) (λr2 h2=>
 (callP (zdq r1 r2) (λr3 h3=>
 (callP (zb9 r1 r3) (λr4 h4=>
 (callP (zb5 r4.1) (λr5 h5=>
 (K r5 h5)) h4)) h3)) h2)) h1))) h)
def zf6(a:Sl)(K:TRat->Hp->Prop)(h:Hp):Prop:=
 (callP (zb5 a) (λr1 h1=>
 (ifP (decide ((r1.len:Int)<2))
 (callP (zaf 0) (λr2 h2=>
 (K r2 h2)) h1)
 (callP (zaf 0) (λr3 h3=>
 (slP r1 0 (i64.wrap ((r1.len:Int)-1)) 4 λc4=>
 (loopP (S:=(Bool×Sl×Bool×Sl×Unit)×Int×Unit) (λs5 k6 h4=>
 (ifP (decide (s5.2.1<(c4.len:Int)))
 (joinP (S:=(Bool×Sl×Bool×Sl×Unit)×Unit) (λs7 h5=>
 (k6 ((s7.1.1,s7.1.2.1,s7.1.2.2.1,s7.1.2.2.2.1,()),(i64.wrap (s5.2.1+1)),()) h5))
 (λk8=>
 (idxP c4 s5.2.1 4 λa9=>
 (ldL (.bool) (a9.add 0) (λx10_0=>
 (ldL (.sl) (a9.add 1) (λx10_1=>
 (ldL (.bool) (a9.add 2) (λx10_2=>
 (ldL (.sl) (a9.add 3) (λx10_3=>
 (joinP (S:=(Bool×Sl×Bool×Sl×Unit)×Unit) (λs11 h6=>
 (callP (zc3 (⟨(⟨s11.1.1,s11.1.2.1⟩:TInt),(⟨s11.1.2.2.1,s11.1.2.2.2.1⟩:TInt)⟩:TRat) (⟨(⟨s5.1.1,s5.1.2.1⟩:TInt),(⟨s5.1.2.2.1,s5.1.2.2.2.1⟩:TInt)⟩:TRat)) (λr13 h7=>
 (ifP (decide (r13>0))
 (k8 ((s11.1.1,s11.1.2.1,s11.1.2.2.1,s11.1.2.2.2.1,()),()) h7)
 (k8 ((s5.1.1,s5.1.2.1,s5.1.2.2.1,s5.1.2.2.2.1,()),()) h7))) h6))
 (λk12=>
 (callP (zc4 (⟨(⟨x10_0,x10_1⟩:TInt),(⟨x10_2,x10_3⟩:TInt)⟩:TRat)) (λr14 h8=>
 (ifP (decide (r14<0))
 (callP (zf8 (⟨(⟨x10_0,x10_1⟩:TInt),(⟨x10_2,x10_3⟩:TInt)⟩:TRat)) (λr15 h9=>
 (k12 ((r15.num.neg,r15.num.mag,r15.den.neg,r15.den.mag,()),()) h9)) h8)
 (k12 ((x10_0,x10_1,x10_2,x10_3,()),()) h8))) h4)))) h4)) h4)) h4)) h4))))
 (callP (zaf 1) (λr16 h10=>
 (callP (zbq (⟨(⟨s5.1.1,s5.1.2.1⟩:TInt),(⟨s5.1.2.2.1,s5.1.2.2.2.1⟩:TInt)⟩:TRat) r16) (λr17 h11=>
 (K r17 h11)) h10)) h4)))
 ((r3.num.neg,r3.num.mag,r3.den.neg,r3.den.mag,()),0,()) h3))) h1))) h)
def zb3(s:Sl)(K:Addr->Hp->Prop)(h:Hp):Prop:=
 (newP [.slice s.a s.len s.cap] (λp1 h1=>
 (K p1 h1)) h)
def zcq(a:Sl)(K:Sl->Hp->Prop)(h:Hp):Prop:=
 (joinP (S:=Int×Unit) (λs1 h1=>
 (newP [] (λp3 h2=>
 (slP a 0 s1.1 4 λc4=>
 (rdO c4.a (c4.len*4) (λvs5=>
 (appP 4 64 [.bool false,.slice nilS.a nilS.len nilS.cap,.bool false,.slice nilS.a nilS.len nilS.cap] (⟨some p3,0,0⟩:Sl) c4.len vs5 (λw6 h3=>
 (K w6 h3)) h2)) h2))) h1))
 (λk2=>
 (loopP (S:=Int×Unit) (λs7 k8 h4=>
 (joinP (S:=Unit) (λs9 h5=>
 (k8 ((i64.wrap (s7.1-1)),()) h5))
 (λk10=>
 (ifP (decide (s7.1>0))
 (idxP a (i64.wrap (s7.1-1)) 4 λa11=>
 (ldL (.bool) (a11.add 0) (λx12_0=>
 (ldL (.sl) (a11.add 1) (λx12_1=>
 (ldL (.bool) (a11.add 2) (λx12_2=>
 (ldL (.sl) (a11.add 3) (λx12_3=>
 (callP (zi9 (⟨(⟨x12_0,x12_1⟩:TInt),(⟨x12_2,x12_3⟩:TInt)⟩:TRat)) (λr13 h6=>
 (ifP (r13==0)
 (k10 () h6)
 (k2 (s7.1,()) h6))) h4)) h4)) h4)) h4)) h4))
 (k2 (s7.1,()) h4)))))
 ((a.len:Int),()) h)))
def zev(a:Sl)(n:TRat)(K:Sl->Hp->Prop)(h:Hp):Prop:=
 (loopP (S:=Sl×Int×Unit) (λs1 k2 h1=>
 (ifP (decide (s1.2.1<(a.len:Int)))
 (idxP a s1.2.1 4 λa3=>
 (ldL (.bool) (a3.add 0) (λx4_0=>
 (ldL (.sl) (a3.add 1) (λx4_1=>
 (ldL (.bool) (a3.add 2) (λx4_2=>
 (ldL (.sl) (a3.add 3) (λx4_3=>
 (callP (zi8 (⟨(⟨x4_0,x4_1⟩:TInt),(⟨x4_2,x4_3⟩:TInt)⟩:TRat) n) (λr5 h2=>
 (appP 4 64 [.bool false,.slice nilS.a nilS.len nilS.cap,.bool false,.slice nilS.a nilS.len nilS.cap] s1.1 1 [.bool r5.num.neg,.slice r5.num.mag.a r5.num.mag.len r5.num.mag.cap,.bool r5.den.neg,.slice r5.den.mag.a r5.den.mag.len r5.den.mag.cap] (λw6 h3=>
 (k2 (w6,(i64.wrap (s1.2.1+1)),()) h3)) h2)) h1)) h1)) h1)) h1)) h1))
 (callP (zcq s1.1) (λr7 h4=>
 (K r7 h4)) h1)))
 (nilS,0,()) h)
def zg4(K:TRat->Hp->Prop)(h:Hp):Prop:=
 (callP (zb4 0) (λr1 h1=>
 (K r1 h1)) h)
def zq9(a:Sl)(i:Int)(K:TRat->Hp->Prop)(h:Hp):Prop:=
 (joinP (S:=(Bool×Sl×Bool×Sl×Unit)×Unit) (λs1 h1=>
 (idxP a i 4 λa3=>
 (ldL (.bool) (a3.add 0) (λx4_0=>
 (ldL (.sl) (a3.add 1) (λx4_1=>
 (ldL (.bool) (a3.add 2) (λx4_2=>
 (ldL (.sl) (a3.add 3) (λx4_3=>
 (K (⟨(⟨x4_0,x4_1⟩:TInt),(⟨x4_2,x4_3⟩:TInt)⟩:TRat) h1)) h1)) h1)) h1)) h1)))
 (λk2=>
 (ifP (decide (i<0))
 (callP (zg4) (λr5 h2=>
 (K r5 h2)) h)
 (ifP (decide (i>=(a.len:Int)))
 (callP (zg4) (λr6 h3=>
 (K r6 h3)) h)
 (k2 ((false,nilS,false,nilS,()),()) h)))))
def zk8(a:Sl)(b:Sl)(K:Sl->Hp->Prop)(h:Hp):Prop:=
 (joinP (S:=Sl×Unit) (λs1 h1=>
 (callP (zcq s1.1) (λr3 h2=>
 (K r3 h2)) h1))
 (λk2=>
 (loopP (S:=Sl×Int×Unit) (λs4 k5 h3=>
 (joinP (S:=Unit) (λs6 h4=>
 (callP (zq9 a s4.2.1) (λr8 h5=>
 (callP (zq9 b s4.2.1) (λr9 h6=>
 (callP (zk7 r8 r9) (λr10 h7=>
 (appP 4 64 [.bool false,.slice nilS.a nilS.len nilS.cap,.bool false,.slice nilS.a nilS.len nilS.cap] s4.1 1 [.bool r10.num.neg,.slice r10.num.mag.a r10.num.mag.len r10.num.mag.cap,.bool r10.den.neg,.slice r10.den.mag.a r10.den.mag.len r10.den.mag.cap] (λw11 h8=>
 (k5 (w11,(i64.wrap (s4.2.1+1)),()) h8)) h7)) h6)) h5)) h4))
 (λk7=>
 (ifP (decide (s4.2.1<(a.len:Int)))
 (k7 () h3)
 (ifP (decide (s4.2.1<(b.len:Int)))
 (k7 () h3)
 (k2 (s4.1,()) h3))))))
 (nilS,0,()) h)))
def znf(a:Sl)(b:Sl)(K:Sl->Hp->Prop)(h:Hp):Prop:=
 (callP (zb4 (-1)) (λr1 h1=>
 (callP (zev b r1) (λr2 h2=>
 (callP (zk8 a r2) (λr3 h3=>
 (K r3 h3)) h2)) h1)) h)
def zoa(a:Sl)(b:Sl)(K:Bool->Hp->Prop)(h:Hp):Prop:=
 (callP (znf a b) (λr1 h1=>
 (K ((r1.len:Int)==0) h1)) h)
def zj1(a:Sl)(b:Sl)(K:Bool->Hp->Prop)(h:Hp):Prop:=
 (ifP ((a.len:Int)==(b.len:Int))
 (callP (zoa a b) (λr1 h1=>
 (K r1 h1)) h)
 (K false h))
def zj2(a:Sl)(n:Int)(K:Sl->Hp->Prop)(h:Hp):Prop:=
 (loopP (S:=Sl×Int×Unit) (λs1 k2 h1=>
 (ifP (decide (s1.2.1<n))
 (callP (zg4) (λr3 h2=>
 (appP 4 64 [.bool false,.slice nilS.a nilS.len nilS.cap,.bool false,.slice nilS.a nilS.len nilS.cap] s1.1 1 [.bool r3.num.neg,.slice r3.num.mag.a r3.num.mag.len r3.num.mag.cap,.bool r3.den.neg,.slice r3.den.mag.a r3.den.mag.len r3.den.mag.cap] (λw4 h3=>
 (k2 (w4,(i64.wrap (s1.2.1+1)),()) h3)) h2)) h1)
 (rdO a.a (a.len*4) (λvs5=>
 (appP 4 64 [.bool false,.slice nilS.a nilS.len nilS.cap,.bool false,.slice nilS.a nilS.len nilS.cap] s1.1 a.len vs5 (λw6 h4=>
 (callP (zcq w6) (λr7 h5=>
 (K r7 h5)) h4)) h1)) h1)))
 (nilS,0,()) h)
def zrc(a:Sl)(b:Sl)(K:Sl->Hp->Prop)(h:Hp):Prop:=
 (loopP (S:=Sl×Int×Unit) (λs1 k2 h1=>
 (ifP (decide (s1.2.1<(b.len:Int)))
 (idxP b s1.2.1 4 λa3=>
 (ldL (.bool) (a3.add 0) (λx4_0=>
 (ldL (.sl) (a3.add 1) (λx4_1=>
 (ldL (.bool) (a3.add 2) (λx4_2=>
 (ldL (.sl) (a3.add 3) (λx4_3=>
 (callP (zev a (⟨(⟨x4_0,x4_1⟩:TInt),(⟨x4_2,x4_3⟩:TInt)⟩:TRat)) (λr5 h2=>
 (callP (zj2 r5 s1.2.1) (λr6 h3=>
 (callP (zk8 s1.1 r6) (λr7 h4=>
 (k2 (r7,(i64.wrap (s1.2.1+1)),()) h4)) h3)) h2)) h1)) h1)) h1)) h1)) h1))
 (K s1.1 h1)))
 (nilS,0,()) h)
def zju(a:Sl)(K:Int->Hp->Prop)(h:Hp):Prop:=
 (callP (zcq a) (λr1 h1=>
 (K (i64.wrap ((r1.len:Int)-1)) h1)) h)
def zew(a:TRat)(b:TRat)(K:TRat->Hp->Prop)(h:Hp):Prop:=
 (callP (zr7 a b) (λr1 h1=>
 (K (⟨(⟨r1.1.num.neg,r1.1.num.mag⟩:TInt),(⟨r1.1.den.neg,r1.1.den.mag⟩:TInt)⟩:TRat) h1)) h)
def zfd(a:Sl)(b:Sl)(K:(Sl×Sl)->Hp->Prop)(h:Hp):Prop:=
 (callP (zcq b) (λr1 h1=>
 (callP (zcq a) (λr2 h2=>
 (loopP (S:=Sl×Sl×Unit) (λs3 k4 h3=>
 (ifP (decide ((s3.1.len:Int)>=(r1.len:Int)))
 (idxP s3.1 (i64.wrap ((s3.1.len:Int)-1)) 4 λa5=>
 (ldL (.bool) (a5.add 0) (λx6_0=>
 (ldL (.sl) (a5.add 1) (λx6_1=>
 (ldL (.bool) (a5.add 2) (λx6_2=>
 (ldL (.sl) (a5.add 3) (λx6_3=>
 (idxP r1 (i64.wrap ((r1.len:Int)-1)) 4 λa7=>
 (ldL (.bool) (a7.add 0) (λx8_0=>
 (ldL (.sl) (a7.add 1) (λx8_1=>
 (ldL (.bool) (a7.add 2) (λx8_2=>
 (ldL (.sl) (a7.add 3) (λx8_3=>
 (callP (zew (⟨(⟨x6_0,x6_1⟩:TInt),(⟨x6_2,x6_3⟩:TInt)⟩:TRat) (⟨(⟨x8_0,x8_1⟩:TInt),(⟨x8_2,x8_3⟩:TInt)⟩:TRat)) (λr9 h4=>
 (newP [.bool r9.num.neg,.slice r9.num.mag.a r9.num.mag.len r9.num.mag.cap,.bool r9.den.neg,.slice r9.den.mag.a r9.den.mag.len r9.den.mag.cap] (λp10 h5=>
 (callP (zj2 (⟨some p10,1,1⟩:Sl) (i64.wrap ((s3.1.len:Int)-(r1.len:Int)))) (λr11 h6=>
 (callP (zk8 s3.2.1 r11) (λr12 h7=>
 (callP (zrc r11 r1) (λr13 h8=>
 (callP (znf s3.1 r13) (λr14 h9=>
 (k4 (r14,r12,()) h9)) h8)) h7)) h6)) h5)) h4)) h3)) h3)) h3)) h3)) h3))) h3)) h3)) h3)) h3))
 (K (s3.2.1,s3.1) h3)))
 (r2,nilS,()) h2)) h1)) h)
def zdu(a:Sl)(K:Sl->Hp->Prop)(h:Hp):Prop:=
 (loopP (S:=Sl×Int×Unit) (λs1 k2 h1=>
 (ifP (decide (s1.2.1<(a.len:Int)))
 (idxP a s1.2.1 4 λa3=>
 (ldL (.bool) (a3.add 0) (λx4_0=>
 (ldL (.sl) (a3.add 1) (λx4_1=>
 (ldL (.bool) (a3.add 2) (λx4_2=>
 (ldL (.sl) (a3.add 3) (λx4_3=>
 (callP (zb4 s1.2.1) (λr5 h2=>
 (callP (zi8 (⟨(⟨x4_0,x4_1⟩:TInt),(⟨x4_2,x4_3⟩:TInt)⟩:TRat) r5) (λr6 h3=>
 (appP 4 64 [.bool false,.slice nilS.a nilS.len nilS.cap,.bool false,.slice nilS.a nilS.len nilS.cap] s1.1 1 [.bool r6.num.neg,.slice r6.num.mag.a r6.num.mag.len r6.num.mag.cap,.bool r6.den.neg,.slice r6.den.mag.a r6.den.mag.len r6.den.mag.cap] (λw7 h4=>
 (k2 (w7,(i64.wrap (s1.2.1+1)),()) h4)) h3)) h2)) h1)) h1)) h1)) h1)) h1))
 (callP (zcq s1.1) (λr8 h5=>
 (K r8 h5)) h1)))
 (nilS,1,()) h)
def zdy(a:Sl)(K:Sl->Hp->Prop)(h:Hp):Prop:=
 (callP (zcq a) (λr1 h1=>
 (ifP ((r1.len:Int)==0)
 (K r1 h1)
 (idxP r1 (i64.wrap ((r1.len:Int)-1)) 4 λa2=>
 (ldL (.bool) (a2.add 0) (λx3_0=>
 (ldL (.sl) (a2.add 1) (λx3_1=>
 (ldL (.bool) (a2.add 2) (λx3_2=>
 (ldL (.sl) (a2.add 3) (λx3_3=>
 (callP (zb4 1) (λr4 h2=>
 (callP (zew r4 (⟨(⟨x3_0,x3_1⟩:TInt),(⟨x3_2,x3_3⟩:TInt)⟩:TRat)) (λr5 h3=>
 (callP (zev r1 r5) (λr6 h4=>
 (K r6 h4)) h3)) h2)) h1)) h1)) h1)) h1)) h1)))) h)
def zfy(a:Sl)(x:TRat)(K:TRat->Hp->Prop)(h:Hp):Prop:=
 (callP (zaf 0) (λr1 h1=>
 (callP (zb3 a) (λr2 h2=>
 (backP (S:=(Bool×Sl×Bool×Sl×Unit)×Unit) (.agg [.bool,.sl,.bool,.sl]) r2 (λi3 v4 s5 k6 h3=>
 (callP (zd6 (⟨(⟨s5.1.1,s5.1.2.1⟩:TInt),(⟨s5.1.2.2.1,s5.1.2.2.2.1⟩:TInt)⟩:TRat) x) (λr8 h5=>
 (callP (zbq r8 (⟨(⟨v4.1,v4.2.1⟩:TInt),(⟨v4.2.2.1,v4.2.2.2.1⟩:TInt)⟩:TRat)) (λr9 h6=>
 (k6 ((r9.num.neg,r9.num.mag,r9.den.neg,r9.den.mag,()),()) h6)) h5)) h3))
 ((r1.num.neg,r1.num.mag,r1.den.neg,r1.den.mag,()),()) (λs7 h4=>
 (K (⟨(⟨s7.1.1,s7.1.2.1⟩:TInt),(⟨s7.1.2.2.1,s7.1.2.2.2.1⟩:TInt)⟩:TRat) h4)) h2)) h1)) h)
def zo9(a:Sl)(x:TRat)(K:TRat->Hp->Prop)(h:Hp):Prop:=
 (callP (zg4) (λr1 h1=>
 (loopP (S:=(Bool×Sl×Bool×Sl×Unit)×Int×Unit) (λs2 k3 h2=>
 (ifP (decide (s2.2.1>=0))
 (idxP a s2.2.1 4 λa4=>
 (ldL (.bool) (a4.add 0) (λx5_0=>
 (ldL (.sl) (a4.add 1) (λx5_1=>
 (ldL (.bool) (a4.add 2) (λx5_2=>
 (ldL (.sl) (a4.add 3) (λx5_3=>
 (callP (zi8 (⟨(⟨s2.1.1,s2.1.2.1⟩:TInt),(⟨s2.1.2.2.1,s2.1.2.2.2.1⟩:TInt)⟩:TRat) x) (λr6 h3=>
 (callP (zk7 r6 (⟨(⟨x5_0,x5_1⟩:TInt),(⟨x5_2,x5_3⟩:TInt)⟩:TRat)) (λr7 h4=>
 (k3 ((r7.num.neg,r7.num.mag,r7.den.neg,r7.den.mag,()),(i64.wrap (s2.2.1-1)),()) h4)) h3)) h2)) h2)) h2)) h2)) h2))
 (K (⟨(⟨s2.1.1,s2.1.2.1⟩:TInt),(⟨s2.1.2.2.1,s2.1.2.2.2.1⟩:TInt)⟩:TRat) h2)))
 ((r1.num.neg,r1.num.mag,r1.den.neg,r1.den.mag,()),(i64.wrap ((a.len:Int)-1)),()) h1)) h)
def zde(chain:Sl)(x:TRat)(K:Int->Hp->Prop)(h:Hp):Prop:=
 (loopP (S:=Int×Int×Int×Unit) (λs1 k2 h1=>
 (ifP (decide (s1.2.2.1<(chain.len:Int)))
 (joinP (S:=Int×Int×Unit) (λs3 h2=>
 (k2 (s3.1,s3.2.1,(i64.wrap (s1.2.2.1+1)),()) h2))
 (λk4=>
 (idxP chain s1.2.2.1 1 λa5=>
 (ldL (.sl) a5 (λx6=>
 (callP (zfy x6 x) (λr7 h3=>
 (callP (zc4 r7) (λr8 h4=>
 (ifP (r8==0)
 (k4 (s1.1,s1.2.1,()) h4)
 (ifP (s1.2.1==(i64.wrap (0-r8)))
 (k4 ((i64.wrap (s1.1+1)),r8,()) h4)
 (k4 (s1.1,r8,()) h4)))) h3)) h1)) h1))))
 (K s1.1 h1)))
 (0,0,0,()) h)
def zfs(chain:Sl)(x:TRat)(K:Int->Hp->Prop)(h:Hp):Prop:=
 (loopP (S:=Int×Int×Int×Unit) (λs1 k2 h1=>
 (ifP (decide (s1.2.2.1<(chain.len:Int)))
 (joinP (S:=Int×Int×Unit) (λs3 h2=>
 (k2 (s3.1,s3.2.1,(i64.wrap (s1.2.2.1+1)),()) h2))
 (λk4=>
 (idxP chain s1.2.2.1 1 λa5=>
 (ldL (.sl) a5 (λx6=>
 (callP (zo9 x6 x) (λr7 h3=>
 (callP (zi9 r7) (λr8 h4=>
 (ifP (r8 != 0)
 (ifP (r8==(i64.wrap (0-s1.2.1)))
 (k4 ((i64.wrap (s1.1+1)),r8,()) h4)
 (k4 (s1.1,r8,()) h4))
 (k4 (s1.1,s1.2.1,()) h4))) h3)) h1)) h1))))
 (K s1.1 h1)))
 (0,0,0,()) h)
def zeq(l:Sl)(K:Sl->Hp->Prop)(h:Hp):Prop:=
 (loopP (S:=Sl×Int×Unit) (λs1 k2 h1=>
 (ifP (decide (s1.2.1<(l.len:Int)))
 (idxP l s1.2.1 1 λa3=>
 (ldL (.int .i64) a3 (λx4=>
 (callP (zb4 x4) (λr5 h2=>
 (appP 4 64 [.bool false,.slice nilS.a nilS.len nilS.cap,.bool false,.slice nilS.a nilS.len nilS.cap] s1.1 1 [.bool r5.num.neg,.slice r5.num.mag.a r5.num.mag.len r5.num.mag.cap,.bool r5.den.neg,.slice r5.den.mag.a r5.den.mag.len r5.den.mag.cap] (λw6 h3=>
 (k2 (w6,(i64.wrap (s1.2.1+1)),()) h3)) h2)) h1)) h1))
 (K s1.1 h1)))
 (nilS,0,()) h)
def zdz(a:Sl)(K:Sl->Hp->Prop)(h:Hp):Prop:=
 (callP (zd4 a) (λr1 h1=>
 (ifP (decide (r1<1))
 (K nilS h1)
 (callP (zbb a) (λr2 h2=>
 (callP (zbx r2) (λr3 h3=>
 (newP [.slice r2.a r2.len r2.cap,.slice r3.a r3.len r3.cap] (λp4 h4=>
 (loopP (S:=Sl×Sl×Sl×Unit) (λs5 k6 h5=>
 (callP (zd5 s5.1 s5.2.1) (λr7 h6=>
 (joinP (S:=Unit) (λs8 h7=>
 (callP (zaf (-1)) (λr10 h8=>
 (callP (zdr r7.2.1 r10) (λr11 h9=>
 (appP 1 24 [.slice nilS.a nilS.len nilS.cap] s5.2.2.1 1 [.slice r11.a r11.len r11.cap] (λw12 h10=>
 (k6 (s5.2.1,r11,w12,()) h10)) h9)) h8)) h7))
 (λk9=>
 (ifP (r7.2.2 != 0)
 (K s5.2.2.1 h6)
 (ifP ((r7.2.1.len:Int)==0)
 (K s5.2.2.1 h6)
 (k9 () h6)))))) h5))
 (r2,r3,(⟨some p4,2,2⟩:Sl),()) h4)) h3)) h2)) h1))) h)
def zob(a:Sl)(b:Sl)(K:Bool->Hp->Prop)(h:Hp):Prop:=
 (ifP ((a.len:Int) != (b.len:Int))
 (K false h)
 (loopP (S:=Int×Unit) (λs1 k2 h1=>
 (ifP (decide (s1.1<(a.len:Int)))
 (idxP a s1.1 1 λa3=>
 (ldL (.sl) a3 (λx4=>
 (idxP b s1.1 1 λa5=>
 (ldL (.sl) a5 (λx6=>
 (callP (zj1 x4 x6) (λr7 h2=>
 (ifP (!r7)
 (K false h2)
 (k2 ((i64.wrap (s1.1+1)),()) h2))) h1)) h1))) h1))
 (K true h1)))
 (0,()) h))
def zfr(x:Int)(v0:(Option Addr))(K:Int->Hp->Prop)(h:Hp):Prop:=
 (ptrK v0 λp1=>
 (ldL (.sl) p1 (λx2=>
 (callP (zb4 x) (λr3 h1=>
 (callP (zde x2 r3) (λr4 h2=>
 (K r4 h2)) h1)) h)) h))
def zoj(a:Sl)(K:TInterval->Hp->Prop)(h:Hp):Prop:=
 (callP (zf6 a) (λr1 h1=>
 (callP (zf8 r1) (λr2 h2=>
 (K (⟨r2,r1⟩:TInterval) h2)) h1)) h)
def zdf(chain:Sl)(low:TRat)(high:TRat)(K:Int->Hp->Prop)(h:Hp):Prop:=
 (callP (zde chain low) (λr1 h1=>
 (callP (zde chain high) (λr2 h2=>
 (K (i64.wrap (r1-r2)) h2)) h1)) h)
def zqe(a:Sl)(low:TRat)(high:TRat)(K:Int->Hp->Prop)(h:Hp):Prop:=
 (callP (zc3 low high) (λr1 h1=>
 (ifP (decide (r1>=0))
 (K 0 h1)
 (callP (zdz a) (λr2 h2=>
 (callP (zdf r2 low high) (λr3 h3=>
 (K r3 h3)) h2)) h1))) h)
def zm4(a:Sl)(K:Int->Hp->Prop)(h:Hp):Prop:=
 (callP (zoj a) (λr1 h1=>
 (callP (zqe a r1.low r1.high) (λr2 h2=>
 (K r2 h2)) h1)) h)
def zc7(K:Bool->Hp->Prop)(h:Hp):Prop:=
 (newP [.int .i64 (-2),.int .i64 0,.int .i64 1] (λp1 h1=>
 (callP (zeq (⟨some p1,3,3⟩:Sl)) (λr2 h2=>
 (callP (zdz r2) (λr3 h3=>
 (newP [.slice nilS.a nilS.len nilS.cap] (λp4 h4=>
 (stP p4 [.slice r3.a r3.len r3.cap] (λh5=>
 (ldL (.sl) p4 (λx5=>
 (newP [.int .i64 (-2),.int .i64 0,.int .i64 1] (λp6 h6=>
 (callP (zeq (⟨some p6,3,3⟩:Sl)) (λr7 h7=>
 (newP [.int .i64 0,.int .i64 2] (λp8 h8=>
 (callP (zeq (⟨some p8,2,2⟩:Sl)) (λr9 h9=>
 (newP [.int .i64 2] (λp10 h10=>
 (callP (zeq (⟨some p10,1,1⟩:Sl)) (λr11 h11=>
 (newP [.slice r7.a r7.len r7.cap,.slice r9.a r9.len r9.cap,.slice r11.a r11.len r11.cap] (λp12 h12=>
 (callP (zob x5 (⟨some p12,3,3⟩:Sl)) (λr13 h13=>
 (ifP r13
 (callP (zfr 0 (some p4)) (λr14 h14=>
 (ifP (r14==1)
 (callP (zfr 2 (some p4)) (λr15 h15=>
 (ifP (r15==0)
 (newP [.int .i64 3,.int .i64 (-5),.int .i64 1,.int .i64 1] (λp16 h16=>
 (callP (zeq (⟨some p16,4,4⟩:Sl)) (λr17 h17=>
 (callP (zm4 r17) (λr18 h18=>
 (K (r18==2) h18)) h17)) h16)) h15)
 (K false h15))) h14)
 (K false h14))) h13)
 (K false h13))) h12)) h11)) h10)) h9)) h8)) h7)) h6)) h5)) h5)) h4)) h3)) h2)) h1)) h)
def zj3(a:TRat)(K:Bool->Hp->Prop)(h:Hp):Prop:=
 (callP (zgf a) (λr1 h1=>
 (ifP r1
 (ifP (decide ((a.num.mag.len:Int)<=3))
 (K (decide ((a.den.mag.len:Int)<=3)) h1)
 (K false h1))
 (K false h1))) h)
def zly(a:Sl)(K:Bool->Hp->Prop)(h:Hp):Prop:=
 (loopP (S:=Int×Unit) (λs1 k2 h1=>
 (ifP (decide (s1.1<(a.len:Int)))
 (idxP a s1.1 4 λa3=>
 (ldL (.bool) (a3.add 0) (λx4_0=>
 (ldL (.sl) (a3.add 1) (λx4_1=>
 (ldL (.bool) (a3.add 2) (λx4_2=>
 (ldL (.sl) (a3.add 3) (λx4_3=>
 (callP (zj3 (⟨(⟨x4_0,x4_1⟩:TInt),(⟨x4_2,x4_3⟩:TInt)⟩:TRat)) (λr5 h2=>
 (ifP (!r5)
 (K false h2)
 (k2 ((i64.wrap (s1.1+1)),()) h2))) h1)) h1)) h1)) h1)) h1))
 (K (decide ((a.len:Int)<=8)) h1)))
 (0,()) h)
def zls(l:Sl)(K:Bool->Hp->Prop)(h:Hp):Prop:=
 (loopP (S:=Int×Unit) (λs1 k2 h1=>
 (ifP (decide (s1.1<(l.len:Int)))
 (idxP l s1.1 1 λa3=>
 (ldL (.sl) a3 (λx4=>
 (callP (zly x4) (λr5 h2=>
 (ifP (!r5)
 (K false h2)
 (k2 ((i64.wrap (s1.1+1)),()) h2))) h1)) h1))
 (K true h1)))
 (0,()) h)
def zwm(a:Sl)(K:Sl->Hp->Prop)(h:Hp):Prop:=
 (newP [] (λp1 h1=>
 (rdO a.a (a.len*4) (λvs2=>
 (appP 4 64 [.bool false,.slice nilS.a nilS.len nilS.cap,.bool false,.slice nilS.a nilS.len nilS.cap] (⟨some p1,0,0⟩:Sl) a.len vs2 (λw3 h2=>
 (K w3 h2)) h1)) h1)) h)
def zrb(a:Sl)(b:Sl)(K:Sl->Hp->Prop)(h:Hp):Prop:=
 (callP (zdy a) (λr1 h1=>
 (callP (zdy b) (λr2 h2=>
 (loopP (S:=Sl×Sl×Unit) (λs3 k4 h3=>
 (ifP (decide ((s3.2.1.len:Int)>0))
 (callP (zfd s3.1 s3.2.1) (λr5 h4=>
 (callP (zdy r5.2) (λr6 h5=>
 (k4 (s3.2.1,r6,()) h5)) h4)) h3)
 (K s3.1 h3)))
 (r1,r2,()) h2)) h1)) h)
def zfe(a:Sl)(K:Sl->Hp->Prop)(h:Hp):Prop:=
 (callP (zdy a) (λr1 h1=>
 (ifP ((r1.len:Int)==0)
 (K r1 h1)
 (callP (zdu r1) (λr2 h2=>
 (callP (zrb r1 r2) (λr3 h3=>
 (callP (zfd r1 r3) (λr4 h4=>
 (callP (zdy r4.1) (λr5 h5=>
 (K r5 h5)) h4)) h3)) h2)) h1))) h)
def zlw(a:Sl)(K:Sl->Hp->Prop)(h:Hp):Prop:=
 (callP (zju a) (λr1 h1=>
 (ifP (decide (r1<1))
 (K nilS h1)
 (callP (zfe a) (λr2 h2=>
 (newP [.slice r2.a r2.len r2.cap] (λp3 h3=>
 (callP (zdu r2) (λr4 h4=>
 (loopP (S:=Sl×Sl×Sl×Unit) (λs5 k6 h5=>
 (ifP (decide ((s5.2.2.1.len:Int)>0))
 (appP 1 24 [.slice nilS.a nilS.len nilS.cap] s5.2.1 1 [.slice s5.2.2.1.a s5.2.2.1.len s5.2.2.1.cap] (λw7 h6=>
 (callP (zfd s5.1 s5.2.2.1) (λr8 h7=>
 (callP (zb4 (-1)) (λr9 h8=>
 (callP (zev r8.2 r9) (λr10 h9=>
 (k6 (s5.2.2.1,w7,r10,()) h9)) h8)) h7)) h6)) h5)
 (K s5.2.1 h5)))
 (r2,(⟨some p3,1,1⟩:Sl),r4,()) h4)) h3)) h2)) h1))) h)
def zlx(a:Sl)(low:TRat)(high:TRat)(K:Int->Hp->Prop)(h:Hp):Prop:=
 (callP (zge low high) (λr1 h1=>
 (ifP (decide (r1>=0))
 (K 0 h1)
 (callP (zlw a) (λr2 h2=>
 (callP (zfs r2 low) (λr3 h3=>
 (callP (zfs r2 high) (λr4 h4=>
 (K (i64.wrap (r3-r4)) h4)) h3)) h2)) h1))) h)
def zhd(chain:Sl)(i:TInterval)(K:Bool->Hp->Prop)(h:Hp):Prop:=
 (callP (zco i.low) (λr1 h1=>
 (ifP r1
 (callP (zco i.high) (λr2 h2=>
 (ifP r2
 (callP (zku i) (λr3 h3=>
 (ifP r3
 (callP (zc3 i.low i.high) (λr4 h4=>
 (ifP (decide (r4<0))
 (callP (zdf chain i.low i.high) (λr5 h5=>
 (K (r5==1) h5)) h4)
 (K false h4))) h3)
 (K false h3))) h2)
 (K false h2))) h1)
 (K false h1))) h)
def zh9(i:TInterval)(K:Bool->Hp->Prop)(h:Hp):Prop:=
 (callP (zgf i.low) (λr1 h1=>
 (ifP r1
 (callP (zgf i.high) (λr2 h2=>
 (ifP r2
 (callP (zge i.low i.high) (λr3 h3=>
 (K (decide (r3<=0)) h3)) h2)
 (K false h2))) h1)
 (K false h1))) h)
def zk9(a:Sl)(i:TInterval)(K:Bool->Hp->Prop)(h:Hp):Prop:=
 (callP (zh9 i) (λr1 h1=>
 (ifP r1
 (callP (zlx a i.low i.high) (λr2 h2=>
 (K (r2==1) h2)) h1)
 (K false h1))) h)
def zik(num:Int)(den:Int)(K:TRat->Hp->Prop)(h:Hp):Prop:=
 (callP (zcb num) (λr1 h1=>
 (callP (zcb den) (λr2 h2=>
 (callP (zil r1 r2) (λr3 h3=>
 (ifP (r3.2 != 0)
 (callP (zaf 0) (λr4 h4=>
 (K r4 h4)) h3)
 (K (⟨(⟨r3.1.num.neg,r3.1.num.mag⟩:TInt),(⟨r3.1.den.neg,r3.1.den.mag⟩:TInt)⟩:TRat) h3))) h2)) h1)) h)
def zjw(i:TInterval)(K:TRat->Hp->Prop)(h:Hp):Prop:=
 (callP (zbq i.low i.high) (λr1 h1=>
 (callP (zik 1 2) (λr2 h2=>
 (callP (zd6 r1 r2) (λr3 h3=>
 (K r3 h3)) h2)) h1)) h)
def zjv(a:Sl)(i:TInterval)(width:TRat)(K:(TInterval×Int)->Hp->Prop)(h:Hp):Prop:=
 (callP (zdz a) (λr1 h1=>
 (joinP (S:=(Bool×Sl×Bool×Sl×Bool×Sl×Bool×Sl×Unit)×Unit) (λs2 h2=>
 (loopP (S:=(Bool×Sl×Bool×Sl×Bool×Sl×Bool×Sl×Unit)×Unit) (λs4 k5 h3=>
 (callP (zh2 (⟨(⟨(⟨s4.1.1,s4.1.2.1⟩:TInt),(⟨s4.1.2.2.1,s4.1.2.2.2.1⟩:TInt)⟩:TRat),(⟨(⟨s4.1.2.2.2.2.1,s4.1.2.2.2.2.2.1⟩:TInt),(⟨s4.1.2.2.2.2.2.2.1,s4.1.2.2.2.2.2.2.2.1⟩:TInt)⟩:TRat)⟩:TInterval)) (λr6 h4=>
 (callP (zc3 r6 width) (λr7 h5=>
 (ifP (decide (r7>0))
 (callP (zjw (⟨(⟨(⟨s4.1.1,s4.1.2.1⟩:TInt),(⟨s4.1.2.2.1,s4.1.2.2.2.1⟩:TInt)⟩:TRat),(⟨(⟨s4.1.2.2.2.2.1,s4.1.2.2.2.2.2.1⟩:TInt),(⟨s4.1.2.2.2.2.2.2.1,s4.1.2.2.2.2.2.2.2.1⟩:TInt)⟩:TRat)⟩:TInterval)) (λr8 h6=>
 (callP (zdf r1 (⟨(⟨s4.1.1,s4.1.2.1⟩:TInt),(⟨s4.1.2.2.1,s4.1.2.2.2.1⟩:TInt)⟩:TRat) r8) (λr9 h7=>
 (ifP (r9==1)
 (k5 ((s4.1.1,s4.1.2.1,s4.1.2.2.1,s4.1.2.2.2.1,r8.num.neg,r8.num.mag,r8.den.neg,r8.den.mag,()),()) h7)
 (k5 ((r8.num.neg,r8.num.mag,r8.den.neg,r8.den.mag,s4.1.2.2.2.2.1,s4.1.2.2.2.2.2.1,s4.1.2.2.2.2.2.2.1,s4.1.2.2.2.2.2.2.2.1,()),()) h7))) h6)) h5)
 (callP (zaf 0) (λr10 h8=>
 (callP (zh1 r10) (λr11 h9=>
 (callP (zjr (⟨(⟨(⟨s4.1.1,s4.1.2.1⟩:TInt),(⟨s4.1.2.2.1,s4.1.2.2.2.1⟩:TInt)⟩:TRat),(⟨(⟨s4.1.2.2.2.2.1,s4.1.2.2.2.2.2.1⟩:TInt),(⟨s4.1.2.2.2.2.2.2.1,s4.1.2.2.2.2.2.2.2.1⟩:TInt)⟩:TRat)⟩:TInterval) r11) (λr12 h10=>
 (K (r12,0) h10)) h9)) h8)) h5))) h4)) h3))
 ((i.low.num.neg,i.low.num.mag,i.low.den.neg,i.low.den.mag,i.high.num.neg,i.high.num.mag,i.high.den.neg,i.high.den.mag,()),()) h2))
 (λk3=>
 (callP (zhd r1 i) (λr13 h11=>
 (ifP (!r13)
 (K ((⟨(⟨(⟨false,nilS⟩:TInt),(⟨false,nilS⟩:TInt)⟩:TRat),(⟨(⟨false,nilS⟩:TInt),(⟨false,nilS⟩:TInt)⟩:TRat)⟩:TInterval),1) h11)
 (callP (zc4 width) (λr14 h12=>
 (ifP (decide (r14<=0))
 (K ((⟨(⟨(⟨false,nilS⟩:TInt),(⟨false,nilS⟩:TInt)⟩:TRat),(⟨(⟨false,nilS⟩:TInt),(⟨false,nilS⟩:TInt)⟩:TRat)⟩:TInterval),1) h12)
 (k3 ((false,nilS,false,nilS,false,nilS,false,nilS,()),()) h12))) h11))) h1)))) h)
def zh3(a:Sl)(i:TInterval)(width:TRat)(K:Bool->Hp->Prop)(h:Hp):Prop:=
 (joinP (S:=Unit) (λs1 h1=>
 (callP (zwm a) (λr3 h2=>
 (callP (zjv r3 i width) (λr4 h3=>
 (joinP (S:=Unit) (λs5 h4=>
 (ifP (r4.2==0)
 (callP (zk9 a (⟨(⟨(⟨r4.1.low.num.neg,r4.1.low.num.mag⟩:TInt),(⟨r4.1.low.den.neg,r4.1.low.den.mag⟩:TInt)⟩:TRat),(⟨(⟨r4.1.high.num.neg,r4.1.high.num.mag⟩:TInt),(⟨r4.1.high.den.neg,r4.1.high.den.mag⟩:TInt)⟩:TRat)⟩:TInterval)) (λr7 h5=>
 (ifP r7
 (callP (zge i.low (⟨(⟨r4.1.low.num.neg,r4.1.low.num.mag⟩:TInt),(⟨r4.1.low.den.neg,r4.1.low.den.mag⟩:TInt)⟩:TRat)) (λr8 h6=>
 (ifP (decide (r8<=0))
 (callP (zge (⟨(⟨r4.1.high.num.neg,r4.1.high.num.mag⟩:TInt),(⟨r4.1.high.den.neg,r4.1.high.den.mag⟩:TInt)⟩:TRat) i.high) (λr9 h7=>
 (ifP (decide (r9<=0))
 (callP (zra (⟨(⟨r4.1.high.num.neg,r4.1.high.num.mag⟩:TInt),(⟨r4.1.high.den.neg,r4.1.high.den.mag⟩:TInt)⟩:TRat) (⟨(⟨r4.1.low.num.neg,r4.1.low.num.mag⟩:TInt),(⟨r4.1.low.den.neg,r4.1.low.den.mag⟩:TInt)⟩:TRat)) (λr10 h8=>
 (callP (zge r10 width) (λr11 h9=>
 (K (decide (r11<=0)) h9)) h8)) h7)
 (K false h7))) h6)
 (K false h6))) h5)
 (K false h5))) h4)
 (K false h4)))
 (λk6=>
 (callP (zi9 width) (λr12 h10=>
 (ifP (decide (r12<=0))
 (ifP (r4.2==1)
 (ifP ((r4.1.low.den.mag.len:Int)==0)
 (K ((r4.1.high.den.mag.len:Int)==0) h10)
 (K false h10))
 (K false h10))
 (callP (zk9 a i) (λr13 h11=>
 (ifP (!r13)
 (ifP (r4.2==1)
 (ifP ((r4.1.low.den.mag.len:Int)==0)
 (K ((r4.1.high.den.mag.len:Int)==0) h11)
 (K false h11))
 (K false h11))
 (k6 () h11))) h10))) h3)))) h2)) h1))
 (λk2=>
 (callP (zc7) (λr14 h12=>
 (ifP (!r14)
 (callP (zc7) (λr15 h13=>
 (K r15 h13)) h12)
 (newP [.slice a.a a.len a.cap] (λp16 h14=>
 (callP (zls (⟨some p16,1,1⟩:Sl)) (λr17 h15=>
 (ifP (!r17)
 (callP (zc7) (λr18 h16=>
 (K r18 h16)) h15)
 (callP (zj3 width) (λr19 h17=>
 (ifP (!r19)
 (callP (zc7) (λr20 h18=>
 (K r20 h18)) h17)
 (ifP (decide ((i.low.num.mag.len:Int)>4))
 (callP (zc7) (λr21 h19=>
 (K r21 h19)) h17)
 (ifP (decide ((i.high.num.mag.len:Int)>4))
 (callP (zc7) (λr22 h20=>
 (K r22 h20)) h17)
 (ifP (decide ((i.low.den.mag.len:Int)>4))
 (callP (zc7) (λr23 h21=>
 (K r23 h21)) h17)
 (ifP (decide ((i.high.den.mag.len:Int)>4))
 (callP (zc7) (λr24 h22=>
 (K r24 h22)) h17)
 (k2 () h17))))))) h15))) h14)) h12))) h)))
end F
end Den
end

section
namespace Den
open Go Iv
theorem zqw{α:Type}{G:(α->Hp->Prop)->Hp->Prop}{K1 K:α->Hp->Prop}{D h:Hp}(hD:D.le h)(H:callP G K1 D)
 (k:∀v D' h',D.le D'->D'.le h'->(∀j,D j=none->h j≠none->D' j=none/\h' j=h j)->K1 v D'->K v h'):callP G K h:=by
 obtain⟨O,hO⟩:∃O:Hp,O=λj=>match D j with | none=>h j | some _=>none:=⟨_,rfl⟩
 have e:h=D.add O:=by
  funext j
  unfold Hp.add
  rw[hO]
  cases hj:D j with
  | none=>simp[hj]
  | some b=>simp[hD j b hj]
 have hdj:D.dj O:=λj=>by
  cases hj:D j with
  | none=>exact .inl rfl
  | some b=>right;rw[hO];simp[hj]
 rw[e]
 refine zajr hdj H λv D' hl hdj' hk=>k v D' _ hl (Hp.le_add _ _) (λj h1 h2=>?_) hk
 have e2:h j=O j:=by rw[hO];simp[h1]
 rw[e2]at h2 |-
 have h3:D' j=none:=by
  rcases hdj' j with h4 | h4
  . exact h4
  . exact absurd h4 h2
 exact⟨h3,by unfold Hp.add;rw[h3]⟩
theorem Own.move{D h D' h':Hp}{n:Nat}{l:Sl}{cs:List Value}(ho:Own D h n l cs)(h1:D'.le h')(hfr:∀j,D j=none->h j≠none->D' j=none/\h' j=h j):Own D' h' n l cs:=by
 obtain⟨g1,g2,g3,g4⟩:=ho
 refine⟨h1,g2,g3,?_⟩
 cases ha:l.a with
 | none=>rw[ha]at g4;exact g4
 | some a=>
   rw[ha]at g4
   obtain⟨k1,k2,k3,b,k4,k5⟩:=g4
   have:=hfr a.block k3 (by rw[k4];simp)
   exact⟨k1,k2,this.1,b,by rw[this.2];exact k4,k5⟩
theorem Own.call{α:Type}{G:(α->Hp->Prop)->Hp->Prop}{K1 K:α->Hp->Prop}{D h:Hp}{n:Nat}{l:Sl}{cs:List Value}(ho:Own D h n l cs)(H:callP G K1 D)
 (k:∀v D' h',D.le D'->Own D' h' n l cs->K1 v D'->K v h'):callP G K h:=
 zqw ho.1 H λv D' h' h1 h2 h3 h4=>k v D' h' h1 (ho.move h2 h3) h4
def Apt(x y:Sl):Prop:=∀a b,x.a=some a->y.a=some b->a.block≠b.block
theorem Apt.symm{x y:Sl}(h:Apt x y):Apt y x:=λa b h1 h2=>(h b a h2 h1).symm
theorem zarm{D h h':Hp}{n:Nat}{l x:Sl}{cs:List Value}(ho:Own D h n l cs)(hap:Apt x l)(hl:D.le h')(hs:∀j,(∀a,x.a=some a->j≠a.block)->h' j=h j):Own D h' n l cs:=by
 obtain⟨g1,g2,g3,g4⟩:=ho
 refine⟨hl,g2,g3,?_⟩
 cases ha:l.a with
 | none=>rw[ha]at g4;exact g4
 | some a=>
   rw[ha]at g4
   obtain⟨k1,k2,k3,b,k4,k5⟩:=g4
   exact⟨k1,k2,k3,b,by rw[hs a.block λc hc=>(hap c a hc ha).symm];exact k4,k5⟩
theorem zatf{h0 h:Hp}{size:Nat}{x:Sl}{cs vs:List Value}{i:Int}{K:Hp->Prop}(k:Nat)(ho:Own h0 h size x cs)(hi:i=k)(hk:k<x.len)(hv:vs.length=size)(hsz:0<size)(hleaf:vs.all Value.leaf=true)
 (H:∀h',Own h0 h' size x (splice cs (k*size) vs)->(∀j,(∀a,x.a=some a->j≠a.block)->h' j=h j)->K h'):idxP x i size λa=>stP a vs K h:=by
 subst hi
 obtain⟨h1,h2,h3,h4⟩:=ho
 refine⟨by omega,by omega,?_⟩
 cases ha:x.a with
 | none=>rw[ha]at h4;simp only at h4;omega
 | some a=>
   rw[ha]at h4
   obtain⟨g1,g2,g3,b,g4,g5,g6,g7⟩:=h4
   have e0:((k:Int).toNat)=k:=rfl
   have e1:k*size+size<=cs.length:=by
    rw[<-h2]
    have:=Nat.mul_le_mul_right size (show k+1<=x.len by omega)
    rw[Nat.add_mul]at this;omega
   have e2:cs.length<=b.cells.length:=by rw[g6,<-h2];exact Nat.mul_le_mul_right _ h3
   show ptrK (some a) _
   simp only[ptrK,e0]
   refine⟨b,by rw[zcg];exact g4,zpb g2 _,g5,by rw[zic];omega,hleaf,?_⟩
   rw[zcg,zic,g1,Nat.zero_add]
   refine H _ ⟨?_,?_,h3,?_⟩ λj hj=>?_
   . intro kk bk hkk
     rw[Hp.ins_ne (λhh=>by subst hh;rw[g3]at hkk;cases hkk)]
     exact h1 kk bk hkk
   . rw[zcs (by omega)];exact h2
   . rw[ha]
     refine⟨g1,g2,g3,_,Hp.ins_same _ _ _,g5,?_,?_⟩
     . show(splice b.cells (k*size) vs).length=_
       rw[zcs (by omega)];exact g6
     . show(splice b.cells (k*size) vs).take _=_
       rw[zcs (by omega)]
       exact zqd (by omega) g7
   . exact Hp.ins_ne (hj a ha)
section
variable {α : Type} {c : α → List Value} {n : Nat}
theorem zzy(hc:∀x,(c x).length=n){x:α}:∀{xs:List α} {k:Nat},k<xs.length->splice (xs.flatMap c) (k*n) (c x)=(xs.set k x).flatMap c
 | [],k,h=>by simp at h
 | y :: r,0,h=>by
   unfold splice
   simp only[Nat.zero_mul,List.take_zero,List.nil_append,Nat.zero_add,List.set_cons_zero,List.flatMap_cons,hc]
   congr 1
   rw[<-hc y,List.drop_left]
 | y :: r,k+1,h=>by
   have ih:=zzy hc (x:=x) (xs:=r) (k:=k) (by simpa using h)
   unfold splice at ih |-
   rw[hc]at ih |-
   have e1:(k+1)*n=n+k*n:=by rw[Nat.add_mul];omega
   have e2:n+k*n+n=n+(k*n+n):=by omega
   simp only[List.flatMap_cons,List.set_cons_succ]
   rw[e1,e2,<-ih]
   have e3:∀j,(c y++r.flatMap c).take (n+j)=c y++(r.flatMap c).take j:=λj=>by
    rw[List.take_append,hc,Nat.add_sub_cancel_left,List.take_of_length_le (by rw[hc];omega)]
   have e4:∀j,(c y++r.flatMap c).drop (n+j)=(r.flatMap c).drop j:=λj=>by
    rw[List.drop_append,hc,Nat.add_sub_cancel_left,List.drop_of_length_le (by rw[hc];omega),List.nil_append]
   rw[e3,e4]
   simp[List.append_assoc]
theorem Own.flen(hc:∀x,(c x).length=n)(hn:0<n){D h:Hp}{l:Sl}{xs:List α}(ho:Own D h n l (xs.flatMap c)):l.len=xs.length:=by
 have:=ho.2.1
 rw[zee hc]at this
 exact Nat.eq_of_mul_eq_mul_right hn this
theorem zaog(hc:∀x,(c x).length=n)(hn:0<n){D h:Hp}{l:Sl}{xs:List α}{x:α}{i:Int}{K:Hp->Prop}(k:Nat)(ho:Own D h n l (xs.flatMap c))(hi:i=k)(hk:k<xs.length)(hleaf:(c x).all Value.leaf=true)
 (H:∀h',Own D h' n l ((xs.set k x).flatMap c)->(∀j,(∀a,l.a=some a->j≠a.block)->h' j=h j)->K h'):idxP l i n λa=>stP a (c x) K h:=by
 refine zatf k ho hi (by rw[ho.flen hc hn];exact hk) (hc x) hn hleaf λh' h1 h2=>H h' ?_ h2
 rw[zzy hc hk]at h1
 exact h1
end
theorem zwu(x:TRat):(qc x).all Value.leaf=true:=rfl
theorem QL.set{h:Hp}{B:Nat}{xs:List TRat}{vs:List Rat}{x:TRat}{v:Rat}{k:Nat}(hq:QL h B xs vs)(h1:NR h x v)(h2:BR B v):QL h B (xs.set k x) (vs.set k v):=by
 refine⟨by simp[hq.1],λj j1 j2=>?_⟩
 rw[List.getElem_set,List.getElem_set]
 by_cases hj:k=j
 . rw[if_pos hj,if_pos hj];exact⟨h1,h2⟩
 . rw[if_neg hj,if_neg hj]
   exact hq.2 j (by simpa using j1) (by simpa using j2)
theorem QL.mono{h:Hp}{B C:Nat}{xs:List TRat}{vs:List Rat}(hq:QL h B xs vs)(hB:B<=C):QL h C xs vs:=⟨hq.1,λk h1 h2=>⟨(hq.2 k h1 h2).1,(hq.2 k h1 h2).2.mono hB⟩⟩
theorem QL.take{h:Hp}{B:Nat}{xs:List TRat}{vs:List Rat}{k:Nat}(hq:QL h B xs vs):QL h B (xs.take k) (vs.take k):=by
 refine⟨by simp[hq.1],λj j1 j2=>?_⟩
 rw[List.getElem_take,List.getElem_take]
 exact hq.2 j (by simp at j1;omega) (by simp at j2;omega)
theorem QL.bound{h:Hp}{B:Nat}{xs:List TRat}{vs:List Rat}(hq:QL h B xs vs):∀v∈vs,BR B v:=λv hv=>by
 obtain⟨i,hi,rfl⟩:=List.mem_iff_getElem.1 hv
 exact(hq.2 i (by rw[hq.1];exact hi) hi).2
def PL(h:Hp)(B:Nat)(l:Sl)(p:List Rat):Prop:=∃xs,RdQ h l xs/\QL h B xs p/\l.len<=l.cap
def OD(D h:Hp)(B:Nat)(l:Sl)(p:List Rat):Prop:=∃xs,Own D h 4 l (xs.flatMap qc)/\QL D B xs p
def OL(h0 h:Hp)(B:Nat)(l:Sl)(p:List Rat):Prop:=∃D,h0.le D/\OD D h B l p
section
variable {D h h' h0 : Hp} {B : Nat} {l : Sl} {p : List Rat}
theorem PL.le(hp:PL h B l p)(hl:h.le h'):PL h' B l p:=by
 obtain⟨xs,h1,h2,h3⟩:=hp
 exact⟨xs,h1.le hl,h2.le hl,h3⟩
theorem PL.mono{C:Nat}(hp:PL h B l p)(hB:B<=C):PL h C l p:=by
 obtain⟨xs,h1,h2,h3⟩:=hp
 exact⟨xs,h1,h2.mono hB,h3⟩
theorem PL.len(hp:PL h B l p):l.len=p.length:=by
 obtain⟨xs,h1,h2,h3⟩:=hp
 rw[RdQ.len h1,h2.1]
theorem PL.cap(hp:PL h B l p):l.len<=l.cap:=by obtain⟨xs,h1,h2,h3⟩:=hp;exact h3
theorem PL.bound(hp:PL h B l p):∀v∈p,BR B v:=by obtain⟨xs,h1,h2,h3⟩:=hp;exact h2.bound
theorem PL.nil:PL h B nilS []:=⟨[],Rd.nil,⟨rfl,λk h1 _=>by simp at h1⟩,Nat.le_refl _⟩
theorem PL.get{i:Int}{K:Bool->Sl->Bool->Sl->Prop}(k:Nat)(hp:PL h B l p)(hi:i=k)(hk:k<p.length)
 (H:∀x:TRat,NR h x p[k]->BR B p[k]->K x.num.neg x.num.mag x.den.neg x.den.mag) :
 idxP l i 4 λa=>ldL .bool (a.add 0) (λx0=>ldL .sl (a.add 1) (λx1=>ldL .bool (a.add 2) (λx2=>ldL .sl (a.add 3) (λx3=>K x0 x1 x2 x3) h) h) h) h:=by
 obtain⟨xs,h1,h2,h3⟩:=hp
 have hk':k<xs.length:=by rw[h2.1];exact hk
 have:=h2.2 k hk' hk
 exact zuj k h1 hi hk' (H _ this.1 this.2)
theorem OD.pl(ho:OD D h B l p):PL h B l p:=by
 obtain⟨xs,h1,h2⟩:=ho
 exact⟨xs,h1.rd,h2.le h1.1,h1.2.2.1⟩
theorem OD.dle(ho:OD D h B l p):D.le h:=by obtain⟨xs,h1,h2⟩:=ho;exact h1.1
theorem OD.len(ho:OD D h B l p):l.len=p.length:=ho.pl.len
theorem OD.mono{C:Nat}(hp:OD D h B l p)(hB:B<=C):OD D h C l p:=by
 obtain⟨xs,h1,h2⟩:=hp
 exact⟨xs,h1,h2.mono hB⟩
theorem OL.pl(ho:OL h0 h B l p):PL h B l p:=by obtain⟨D,_,h2⟩:=ho;exact h2.pl
theorem OL.hle(ho:OL h0 h B l p):h0.le h:=by obtain⟨D,h1,h2⟩:=ho;exact Hp.le_trans h1 h2.dle
theorem OL.len(ho:OL h0 h B l p):l.len=p.length:=ho.pl.len
theorem OD.nil:OD h h B nilS []:=⟨[],Own.nil (Hp.le_refl _),⟨rfl,λk h1 _=>by simp at h1⟩⟩
theorem OD.get{i:Int}{K:Bool->Sl->Bool->Sl->Prop}(k:Nat)(hp:OD D h B l p)(hi:i=k)(hk:k<p.length)
 (H:∀x:TRat,NR D x p[k]->BR B p[k]->K x.num.neg x.num.mag x.den.neg x.den.mag) :
 idxP l i 4 λa=>ldL .bool (a.add 0) (λx0=>ldL .sl (a.add 1) (λx1=>ldL .bool (a.add 2) (λx2=>ldL .sl (a.add 3) (λx3=>K x0 x1 x2 x3) h) h) h) h:=by
 obtain⟨xs,h1,h2⟩:=hp
 have hk':k<xs.length:=by rw[h2.1];exact hk
 have:=h2.2 k hk' hk
 exact zuj k h1.rd hi hk' (H _ this.1 this.2)
theorem OD.set{i:Int}{K:Hp->Prop}{x:TRat}{v:Rat}(k:Nat)(hp:OD D h B l p)(hi:i=k)(hk:k<p.length)(hx:NR D x v)(bx:BR B v)
 (H:∀h',OD D h' B l (p.set k v)->(∀j,(∀a,l.a=some a->j≠a.block)->h' j=h j)->K h') :
 idxP l i 4 λa=>stP a [.bool x.num.neg,.slice x.num.mag.a x.num.mag.len x.num.mag.cap,.bool x.den.neg,.slice x.den.mag.a x.den.mag.len x.den.mag.cap] K h:=by
 obtain⟨xs,h1,h2⟩:=hp
 exact zaog ze6 (by decide) k h1 hi (by rw[h2.1];exact hk) (zwu x) λh' g1 g2=>H h' ⟨_,g1,h2.set hx bx⟩ g2
theorem OD.call{α:Type}{G:(α->Hp->Prop)->Hp->Prop}{K1 K:α->Hp->Prop}(hp:OD D h B l p)(H:callP G K1 D)
 (k:∀v D' h',D.le D'->OD D' h' B l p->K1 v D'->K v h'):callP G K h:=by
 obtain⟨xs,h1,h2⟩:=hp
 exact h1.call H λv D' h' g1 g2 g3=>k v D' h' g1 ⟨_,g2,h2.le g1⟩ g3
theorem OD.app{Ks:Sl->Hp->Prop}{x:TRat}{v:Rat}(hp:OD D h B l p)(hlen:p.length<=1000000000000)(hx:NR D x v)(bx:BR B v)(H:∀y h',OD D h' B y (p++[v])->Ks y h') :
 appP 4 64 [.bool false,.slice nilS.a nilS.len nilS.cap,.bool false,.slice nilS.a nilS.len nilS.cap] l 1 [.bool x.num.neg,.slice x.num.mag.a x.num.mag.len x.num.mag.cap,.bool x.den.neg,.slice x.den.mag.a x.den.mag.len x.den.mag.cap] Ks h:=by
 have hl:=hp.len
 obtain⟨xs,h1,h2⟩:=hp
 refine znt h1 (n:=1) (new:=qc x) rfl rfl rfl (by omega) (by omega) λy h' hy hyl=>H y h' ⟨xs++[x],?_,?_⟩
 . rw[List.flatMap_append]
   simp only[List.flatMap_cons,List.flatMap_nil,List.append_nil]
   exact hy
 . refine⟨by simp[h2.1],λk k1 k2=>?_⟩
   have hl2:=h2.1
   rcases Nat.lt_or_ge k xs.length with h3 | h3
   . rw[List.getElem_append_left h3,List.getElem_append_left (by omega)]
     exact h2.2 k h3 (by omega)
   . have h4:k=xs.length:=by simp at k1;omega
     subst h4
     rw[List.getElem_append_right (Nat.le_refl _),List.getElem_append_right (by omega)]
     simp only[Nat.sub_self,List.getElem_cons_zero]
     have:xs.length-p.length=0:=by omega
     simp only[this,List.getElem_cons_zero]
     exact⟨hx,bx⟩
end
end Den
end

section
namespace Pq
def sm(n:Nat)(f:Nat->Rat):Rat:=match n with | 0=>0 | n+1=>sm n f+f n
theorem sm_zero{f:Nat->Rat}:sm 0 f=0:=rfl
theorem sm_succ{n:Nat}{f:Nat->Rat}:sm (n+1) f=sm n f+f n:=rfl
theorem sm_congr{n:Nat}{f g:Nat->Rat}(h:∀i,i<n->f i=g i):sm n f=sm n g:=by
 induction n with
 | zero=>rfl
 | succ n ih=>rw[sm_succ,sm_succ,ih (λi hi=>h i (by omega)),h n (by omega)]
theorem sm_add{n:Nat}{f g:Nat->Rat}:sm n (λi=>f i+g i)=sm n f+sm n g:=by
 induction n with
 | zero=>simp only[sm_zero];grind
 | succ n ih=>simp only[sm_succ,ih];grind
theorem sm_mul{n:Nat}{f:Nat->Rat}{c:Rat}:sm n (λi=>c*f i)=c*sm n f:=by
 induction n with
 | zero=>simp only[sm_zero];grind
 | succ n ih=>simp only[sm_succ,ih];grind
theorem sm_zeros{n:Nat}{f:Nat->Rat}(h:∀i,i<n->f i=0):sm n f=0:=by
 induction n with
 | zero=>rfl
 | succ n ih=>rw[sm_succ,ih (λi hi=>h i (by omega)),h n (by omega)];grind
theorem sm_head{n:Nat}{f:Nat->Rat}:sm (n+1) f=f 0+sm n (λi=>f (i+1)):=by
 induction n with
 | zero=>simp only[sm_succ,sm_zero];grind
 | succ n ih=>rw[sm_succ,ih,sm_succ];grind
theorem sm_rev{n:Nat}{f:Nat->Rat}:sm n f=sm n (λi=>f (n-1-i)):=by
 induction n with
 | zero=>rfl
 | succ n ih=>
   rw[sm_succ,sm_head (f:=λi=>f (n+1-1-i)),ih]
   have e:sm n (λi=>f (n-1-i))=sm n (λi=>f (n+1-1-(i+1))):=sm_congr λi hi=>by congr 1;omega
   rw[e]
   have e2:n+1-1-0=n:=by omega
   rw[e2];grind
theorem sm_one{n k:Nat}{f:Nat->Rat}(hk:k<n)(h:∀i,i<n->i≠k->f i=0):sm n f=f k:=by
 induction n with
 | zero=>omega
 | succ n ih=>
   rw[sm_succ]
   by_cases h1:k=n
   . subst h1
     rw[sm_zeros λi hi=>h i (by omega) (by omega)];grind
   . rw[ih (by omega) (λi hi h2=>h i (by omega) h2),h n (by omega) (by omega)];grind
theorem sm_more{n m:Nat}{f:Nat->Rat}(hm:n<=m)(h:∀i,n<=i->i<m->f i=0):sm m f=sm n f:=by
 induction m with
 | zero=>
           have:n=0:=by omega
           subst this;rfl
 | succ m ih=>
   by_cases h1:n=m+1
   . subst h1;rfl
   . rw[sm_succ,ih (by omega) (λi h2 h3=>h i h2 (by omega)),h m (by omega) (by omega)];grind
def co(p:List Rat)(i:Nat):Rat:=p.getD i 0
theorem co_nil{i:Nat}:co [] i=0:=rfl
theorem co_cons_zero{c:Rat}{p:List Rat}:co (c :: p) 0=c:=rfl
theorem co_cons_succ{c:Rat}{p:List Rat}{i:Nat}:co (c :: p) (i+1)=co p i:=rfl
theorem co_ge{p:List Rat}{i:Nat}(h:p.length<=i):co p i=0:=by
 unfold co;rw[List.getD_eq_getElem?_getD,List.getElem?_eq_none h];rfl
theorem co_lt{p:List Rat}{i:Nat}(h:i<p.length):co p i=p[i]:=by
 unfold co;rw[List.getD_eq_getElem?_getD,List.getElem?_eq_getElem h];rfl
theorem co_take{p:List Rat}{n i:Nat}:co (p.take n) i=if i<n then co p i else 0:=by
 unfold co
 rw[List.getD_eq_getElem?_getD,List.getD_eq_getElem?_getD,List.getElem?_take]
 split<;>rfl
theorem co_append{p q:List Rat}{i:Nat}:co (p++q) i=if i<p.length then co p i else co q (i-p.length):=by
 unfold co
 rw[List.getD_eq_getElem?_getD,List.getD_eq_getElem?_getD,List.getD_eq_getElem?_getD,List.getElem?_append]
 split<;>rfl
theorem co_set{p:List Rat}{k i:Nat}{c:Rat}(hk:k<p.length):co (p.set k c) i=if i=k then c else co p i:=by
 unfold co
 rw[List.getD_eq_getElem?_getD,List.getD_eq_getElem?_getD,List.getElem?_set]
 by_cases h:k=i
 . subst h;rw[if_pos rfl,if_pos rfl,if_pos hk];rfl
 . rw[if_neg h,if_neg (λhh=>h hh.symm)]
theorem co_replicate{n i:Nat}:co (List.replicate n 0) i=0:=by
 unfold co
 rw[List.getD_eq_getElem?_getD,List.getElem?_replicate]
 split<;>rfl
theorem co_map{f:Rat->Rat}(h0:f 0=0){p:List Rat}{i:Nat}:co (p.map f) i=f (co p i):=by
 unfold co
 rw[List.getD_eq_getElem?_getD,List.getD_eq_getElem?_getD,List.getElem?_map]
 cases p[i]? with
 | none=>exact h0.symm
 | some x=>rfl
def nf(p:List Rat):Prop:=p=[]\/co p (p.length-1)≠0
theorem nf_nil:nf []:=.inl rfl
theorem nf_len{p:List Rat}{n:Nat}(hp:nf p)(h:∀i,n<=i->co p i=0):p.length<=n:=by
 rcases hp with rfl | hp
 . simp
 . refine Nat.le_of_not_lt λhh=>hp (h _ (by omega))
theorem nf_top{p:List Rat}(hp:nf p)(h:p≠[]):co p (p.length-1)≠0:=by
 rcases hp with h1 | h1
 . exact absurd h1 h
 . exact h1
theorem nf_ext{p q:List Rat}(hp:nf p)(hq:nf q)(h:∀i,co p i=co q i):p=q:=by
 have h1:p.length<=q.length:=nf_len hp λi hi=>by rw[h,co_ge hi]
 have h2:q.length<=p.length:=nf_len hq λi hi=>by rw[<-h,co_ge hi]
 refine List.ext_getElem (by omega) λi h3 h4=>?_
 rw[<-co_lt h3,<-co_lt h4,h]
theorem nf_eq_nil{p:List Rat}(hp:nf p)(h:∀i,co p i=0):p=[]:=nf_ext hp nf_nil h
theorem nf_take{p:List Rat}{n:Nat}(hn:n<=p.length)(h:n=0\/co p (n-1)≠0):nf (p.take n):=by
 rcases Nat.eq_zero_or_pos n with h0 | h0
 . subst h0;exact .inl rfl
 . right
   rw[List.length_take,Nat.min_eq_left hn,co_take,if_pos (by omega)]
   rcases h with h | h
   . omega
   . exact h
def trim:List Rat->List Rat
 | []=>[]
 | c :: r=>match trim r with
   | []=>if c=0 then []else [c]
   | d :: t=>c :: d :: t
theorem co_trim:∀{p:List Rat} {i:Nat},co (trim p) i=co p i
 | [],_=>rfl
 | c :: r,i=>by
   have ih:∀j,co (trim r) j=co r j:=λj=>co_trim
   unfold trim
   split
   . rename_i h
     rw[h]at ih
     have h0:∀j,co r j=0:=λj=>(ih j).symm
     split
     . rename_i hc
       cases i with
       | zero=>rw[co_cons_zero,hc];rfl
       | succ i=>rw[co_cons_succ,h0];rfl
     . cases i with
       | zero=>rfl
       | succ i=>rw[co_cons_succ,co_cons_succ,h0];rfl
   . rename_i d t h
     cases i with
     | zero=>rfl
     | succ i=>rw[co_cons_succ,co_cons_succ,<-h];exact ih i
theorem nf_trim:∀{p:List Rat},nf (trim p)
 | []=>.inl rfl
 | c :: r=>by
   have ih:nf (trim r):=nf_trim
   unfold trim
   split
   . split
     . exact .inl rfl
     . rename_i h;exact .inr h
   . rename_i d t h
     rw[h]at ih
     have h3:=nf_top ih (by simp)
     have e1:(d :: t).length-1=t.length:=by simp
     have e2:(c :: d :: t).length-1=t.length+1:=by simp
     right
     rw[e1]at h3
     rw[e2]
     exact h3
theorem trim_of{p r:List Rat}(hr:nf r)(h:∀i,co r i=co p i):r=trim p:=nf_ext hr nf_trim λi=>by rw[h,co_trim]
theorem trim_nf{p:List Rat}(hp:nf p):trim p=p:=(trim_of hp λ_=>rfl).symm
theorem trim_len{p:List Rat}:(trim p).length<=p.length:=nf_len nf_trim λi hi=>by rw[co_trim,co_ge hi]
def conv(f g:Nat->Rat)(n:Nat):Rat:=sm (n+1) λi=>f i*g (n-i)
theorem conv_comm{f g:Nat->Rat}{n:Nat}:conv f g n=conv g f n:=by
 unfold conv
 rw[sm_rev]
 refine sm_congr λi hi=>?_
 have e1:n+1-1-i=n-i:=by omega
 have e2:n-(n-i)=i:=by omega
 rw[e1,e2,Rat.mul_comm]
theorem conv_add{f g k:Nat->Rat}{n:Nat}:conv f (λi=>g i+k i) n=conv f g n+conv f k n:=by
 unfold conv
 rw[<-sm_add]
 exact sm_congr λi _=>by grind
theorem conv_congr{f g f' g':Nat->Rat}{n:Nat}(h1:∀i,f i=f' i)(h2:∀i,g i=g' i):conv f g n=conv f' g' n:=by
 unfold conv
 exact sm_congr λi _=>by rw[h1,h2]
def part(f g:Nat->Rat)(m n:Nat):Rat:=sm m λi=>if i<=n then f i*g (n-i)else 0
theorem part_conv{f g:Nat->Rat}{m n:Nat}(h:∀i,m<=i->f i=0):part f g m n=conv f g n:=by
 unfold part conv
 rcases Nat.le_total m (n+1)with h1 | h1
 . rw[sm_more h1 λi h2 h3=>by rw[h i h2];grind]
   exact sm_congr λi hi=>if_pos (by omega)
 . rw[sm_more h1 λi h2 h3=>if_neg (by omega)]
   exact sm_congr λi hi=>if_pos (by omega)
theorem conv_zero_of{f g:Nat->Rat}{a b n:Nat}(h1:∀i,a<=i->f i=0)(h2:∀i,b<=i->g i=0)(hn:a+b<=n+1):conv f g n=0:=by
 unfold conv
 refine sm_zeros λi hi=>?_
 by_cases h3:a<=i
 . rw[h1 i h3];grind
 . rw[h2 (n-i) (by omega)];grind
theorem conv_top{f g:Nat->Rat}{a b:Nat}(h1:∀i,a<i->f i=0)(h2:∀i,b<i->g i=0):conv f g (a+b)=f a*g b:=by
 unfold conv
 rw[sm_one (k:=a) (by omega) λi hi h3=>?_]
 . congr 2;omega
 . by_cases h4:a<i
   . rw[h1 i h4];grind
   . rw[h2 (a+b-i) (by omega)];grind
end Pq
end

section
namespace Pq
def der(f:Nat->Rat)(n:Nat):Rat:=((n+1:Nat):Rat)*f (n+1)
theorem cast_split{n i:Nat}(h:i<=n):((n:Nat):Rat)=((i:Nat):Rat)+((n-i:Nat):Rat):=by
 rw[<-Rat.natCast_add];congr 1;omega
theorem der_conv{f g:Nat->Rat}{n:Nat}:der (conv f g) n=conv (der f) g n+conv f (der g) n:=by
 unfold der
 have e1:((n+1:Nat):Rat)*conv f g (n+1)=sm (n+2) (λi=>(((i:Nat):Rat)*f i)*g (n+1-i))+sm (n+2) (λi=>f i*(((n+1-i:Nat):Rat)*g (n+1-i))):=by
  unfold conv
  rw[<-sm_mul,<-sm_add]
  refine sm_congr λi hi=>?_
  rw[cast_split (show i<=n+1 by omega)];grind
 have e2:sm (n+2) (λi=>(((i:Nat):Rat)*f i)*g (n+1-i))=conv (λn=>((n+1:Nat):Rat)*f (n+1)) g n:=by
  rw[sm_head]
  unfold conv
  have h0:((0:Nat):Rat)=0:=rfl
  rw[h0,Rat.zero_mul,Rat.zero_mul,Rat.zero_add]
  refine sm_congr λi hi=>?_
  have:n+1-(i+1)=n-i:=by omega
  rw[this]
 have e3:sm (n+2) (λi=>f i*(((n+1-i:Nat):Rat)*g (n+1-i)))=conv f (λn=>((n+1:Nat):Rat)*g (n+1)) n:=by
  rw[sm_succ]
  unfold conv
  have h0:n+1-(n+1)=0:=by omega
  have h1:((0:Nat):Rat)=0:=rfl
  rw[h0,h1,Rat.zero_mul,Rat.mul_zero,Rat.add_zero]
  refine sm_congr λi hi=>?_
  have:n+1-i=n-i+1:=by omega
  rw[this]
 rw[e1,e2,e3]
def addL:List Rat->List Rat->List Rat
 | [],q=>q
 | p,[]=>p
 | a :: p,b :: q=>(a+b) :: addL p q
def mulL:List Rat->List Rat->List Rat
 | [],_=>[]
 | c :: r,q=>addL (q.map (c*·)) (0 :: mulL r q)
def ev:List Rat->Rat->Rat
 | [],_=>0
 | c :: r,x=>c+ev r x*x
theorem co_addL:∀{p q:List Rat} {i:Nat},co (addL p q) i=co p i+co q i
 | [],q,i=>by rw[addL,co_nil,Rat.zero_add]
 | a :: p,[],i=>by rw[addL,co_nil,Rat.add_zero];simp
 | a :: p,b :: q,0=>rfl
 | a :: p,b :: q,i+1=>by rw[addL,co_cons_succ,co_cons_succ,co_cons_succ];exact co_addL
theorem conv_cons{c:Rat}{r:List Rat}{g:Nat->Rat}{n:Nat}:conv (co (c :: r)) g n=c*g n+(match n with | 0=>0 | n+1=>conv (co r) g n):=by
 unfold conv
 rw[sm_head]
 cases n with
 | zero=>simp only[sm_zero];rw[co_cons_zero]
 | succ n=>
   simp only[co_cons_zero,co_cons_succ,Nat.sub_zero]
   congr 1
   refine sm_congr λi hi=>?_
   have:n+1-(i+1)=n-i:=by omega
   rw[this]
theorem conv_nil{g:Nat->Rat}{n:Nat}:conv (co []) g n=0:=sm_zeros λi _=>by rw[co_nil,Rat.zero_mul]
theorem co_mulL:∀{p q:List Rat} {n:Nat},co (mulL p q) n=conv (co p) (co q) n
 | [],q,n=>by rw[mulL,conv_nil];rfl
 | c :: r,q,n=>by
   rw[mulL,co_addL,conv_cons,co_map (f:=(c*·)) (Rat.mul_zero c)]
   congr 1
   cases n with
   | zero=>rfl
   | succ n=>rw[co_cons_succ];exact co_mulL
theorem ev_addL:∀{p q:List Rat} {x:Rat},ev (addL p q) x=ev p x+ev q x
 | [],q,x=>by rw[addL,ev,Rat.zero_add]
 | a :: p,[],x=>by simp only[addL,ev];grind
 | a :: p,b :: q,x=>by simp only[addL,ev];rw[ev_addL];grind
theorem ev_map{c:Rat}:∀{p:List Rat} {x:Rat},ev (p.map (c*·)) x=c*ev p x
 | [],x=>by simp only[List.map_nil,ev];grind
 | a :: p,x=>by simp only[List.map_cons,ev];rw[ev_map];grind
theorem ev_mulL:∀{p q:List Rat} {x:Rat},ev (mulL p q) x=ev p x*ev q x
 | [],q,x=>by simp only[mulL,ev];grind
 | c :: r,q,x=>by simp only[mulL];rw[ev_addL,ev_map];simp only[ev];rw[ev_mulL];grind
theorem ev_trim:∀{p:List Rat} {x:Rat},ev (trim p) x=ev p x
 | [],x=>rfl
 | c :: r,x=>by
   have ih:=ev_trim (p:=r) (x:=x)
   unfold trim
   split
   . rename_i h
     rw[h]at ih
     simp only[ev]at ih
     split
     . rename_i hc;simp only[ev];rw[<-ih,hc];grind
     . simp only[ev];rw[<-ih]
   . rename_i d t h
     rw[h]at ih
     rw[show ev (c :: d :: t) x=c+ev (d :: t) x*x from rfl,ih];rfl
theorem ev_congr{p q:List Rat}{x:Rat}(h:∀i,co p i=co q i):ev p x=ev q x:=by
 have e:trim p=trim q:=nf_ext nf_trim nf_trim λi=>by rw[co_trim,co_trim,h]
 rw[<-ev_trim (p:=p),<-ev_trim (p:=q),e]
theorem ev_drop{p:List Rat}{i:Nat}(hi:i<p.length)(x:Rat):ev (p.drop i) x=p[i]+ev (p.drop (i+1)) x*x:=by
 rw[List.drop_eq_getElem_cons hi];rfl
theorem top_of{f:Nat->Rat}:∀{n:Nat},(∀i,n<=i->f i=0)->(∀i,f i=0)\/∃k,k<n/\f k≠0/\∀i,k<i->f i=0
 | 0,h=>.inl λi=>h i (Nat.zero_le _)
 | n+1,h=>by
   by_cases h0:f n=0
   . rcases top_of (f:=f) (n:=n) λi hi=>by
      rcases Nat.lt_or_ge n i with h1 | h1
      . exact h i h1
      . have:i=n:=by omega
        subst this;exact h0 with h2 | ⟨k,h2,h3⟩
     . exact .inl h2
     . exact .inr ⟨k,by omega,h3⟩
   . exact .inr ⟨n,by omega,h0,λi hi=>h i hi⟩
theorem div_unique{q q' b r r':Nat->Rat}{d n:Nat}(hb:b d≠0)(hb2:∀i,d<i->b i=0)(hq:∀i,n<=i->q i=0)(hq':∀i,n<=i->q' i=0)
 (hr:∀i,d<=i->r i=0) (hr':∀i,d<=i->r' i=0) (h:∀i,conv q b i+r i=conv q' b i+r' i):(∀i,q i=q' i)/\∀i,r i=r' i:=by
 have hs:∀i,conv b (λi=>q i+(-1)*q' i) i=r' i-r i:=λi=>by
  have e:conv b (λi=>(-1)*q' i) i=(-1)*conv b q' i:=by
   unfold conv
   rw[<-sm_mul]
   exact sm_congr λi _=>by grind
  have:=h i
  rw[conv_comm (f:=q),conv_comm (f:=q')]at this
  rw[conv_add,e];grind
 rcases top_of (f:=λi=>q i+(-1)*q' i) (n:=n) λi hi=>by rw[hq i hi,hq' i hi];grind with h0 | ⟨k,_,h1,h2⟩
 . have hqq:∀i,q i=q' i:=λi=>by have:=h0 i;grind
   refine⟨hqq,λi=>?_⟩
   have:=h i
   rw[conv_congr (g:=b) hqq (λ_=>rfl)]at this;grind
 . exfalso
   have e:=conv_top (f:=b) (g:=λi=>q i+(-1)*q' i) (a:=d) (b:=k) hb2 h2
   rw[hs,hr' _ (by omega),hr _ (by omega)]at e
   have e2:b d*(q k+(-1)*q' k)=0:=by rw[<-e];grind
   rcases Rat.mul_eq_zero.1 e2 with h3 | h3
   . exact hb h3
   . exact h1 h3
end Pq
end

section
namespace Pq
end Pq
end

section
namespace Den
open Go Iv Pq
theorem za5m{h:Hp}{b:Nat}{xs:List TRat}{n:Nat}{el:TypeId}{K:Sl->Hp->Prop}(hb:h b=none)(hn:n=xs.length)(hlen:xs.length<=1000000000000)
 (H:∀y h',Own h h' 4 y (xs.flatMap qc)->K y h') :
 appP 4 64 [.bool false,.slice nilS.a nilS.len nilS.cap,.bool false,.slice nilS.a nilS.len nilS.cap] ⟨some ⟨b,0,none⟩,0,0⟩ n (xs.flatMap qc) K (h.ins b ⟨[],el,(0,0)⟩):=by
 have ho:Own h (h.ins b ⟨[],el,(0,0)⟩) 4 ⟨some ⟨b,0,none⟩,0,0⟩ []:=⟨Hp.le_ins hb,rfl,Nat.le_refl _,rfl,rfl,hb,_,Hp.ins_same _ _ _,rfl,rfl,rfl⟩
 have hl:(xs.flatMap qc).length=n*4:=by rw[zee ze6,hn]
 refine znt ho hl rfl ?_ (by simp only;omega) (by simp only;omega) λy h' hy hyl=>H y h' ?_
 . rw[List.all_flatMap,List.all_eq_true]
   intro x _;exact zwu x
 . simpa using hy
section
variable {h : Hp} {B : Nat} {l : Sl} {p : List Rat} {K : Sl → Hp → Prop}
theorem za8d{x:Sl}{lo hi:Int}{n:Nat}{K:Sl->Prop}(a b:Nat)(ha:lo=a)(hb:hi=b)(hab:a<=b)(hc:b<=x.cap)(H:K (x.cut a b n)):slP x lo hi n K:=by
 subst ha hb
 exact⟨by omega,by omega,by omega,H⟩
theorem cut0(x:Sl)(n size:Nat)(h:n<=x.cap):(x.cut 0 n size).len=n/\(x.cut 0 n size).cap=x.cap/\(x.cut 0 n size).a=x.a:=by
 refine⟨rfl,rfl,?_⟩
 show(if x.cap=0 then x.a else x.a.map (·.add (0*size)))=x.a
 split
 . rfl
 . cases x.a with
   | none=>rfl
   | some a=>simp only[Option.map_some,Nat.zero_mul,zma]
theorem zkj{h:Hp}{a:Addr}:∀{n m:Nat} {l:List Value},cellsAt h a m=some l->n<=m->cellsAt h a n=some (l.take n)
 | n,0,l,e,hn=>by
   have:n=0:=by omega
   subst this
   simp[cellsAt]
 | n,m+1,l,e,hn=>by
   have hl:=zlc e
   by_cases h1:n=m+1
   . subst h1;rw[e,List.take_of_length_le (by omega)]
   . unfold cellsAt at e
     split at e
     . rename_i l1 h2
       split at e
       . rename_i v hv
         simp only[Option.some.injEq]at e
         subst e
         have h3:=zlc h2
         rw[zkj h2 (show n<=m by omega),List.take_append_of_le_length (by omega)]
       . cases e
     . cases e
theorem zyz{α:Type}{c:α->List Value}{n:Nat}(hc:∀x,(c x).length=n):∀{xs:List α} {k:Nat},(xs.flatMap c).take (k*n)=(xs.take k).flatMap c
 | [],k=>by simp
 | x :: r,0=>by simp
 | x :: r,k+1=>by
   have e1:(k+1)*n=n+k*n:=by rw[Nat.add_mul];omega
   rw[List.flatMap_cons,e1,List.take_append,hc,Nat.add_sub_cancel_left,List.take_of_length_le (by rw[hc];omega),zyz hc]
   simp
theorem PL.cut(hp:PL h B l p){n:Nat}(hn:n<=p.length):PL h B (l.cut 0 n 4) (p.take n):=by
 have hlen:=hp.len
 obtain⟨xs,h1,h2,h3⟩:=hp
 have hx:=h2.1
 obtain⟨c1,c2,c3⟩:=cut0 l n 4 (by omega)
 refine⟨xs.take n,⟨?_,?_⟩,h2.take,by rw[c1,c2];omega⟩
 . rw[c1,zee ze6,List.length_take,Nat.min_eq_left (by omega)]
 . rw[c3,<-zyz ze6]
   have hl:((xs.flatMap qc).take (n*4)).length=n*4:=by rw[List.length_take,zee ze6];omega
   rw[hl]
   have h4:=h1.2
   cases ha:l.a with
   | some a=>
     rw[ha]at h4
     exact zkj h4 (by rw[zee ze6];omega)
   | none=>
     rw[ha]at h4
     simp only[cellsAtO]at h4 |-
     split at h4
     . rename_i h5
       simp only[Option.some.injEq]at h4
       rw[zee ze6]at h5
       have:n=0:=by omega
       subst this
       simp
     . cases h4
theorem zako(hp:PL h B l p)(hlen:p.length<=1000000000000)(H:∀y h',OL h h' B y p->K y h'):callP (F.zbg l) K h:=by
 refine za1 (λy h'=>OL h h' B y p) (λK' hk=>?_) λy h' _ hy=>H y h' hy
 unfold F.zbg
 refine zch (λh1=>?_) (λh1=>?_)
 . have hp0:p=[]:=by
    obtain⟨xs,g1,g2,g3⟩:=hp
    have:=g1.2
    have ha:l.a=none:=by cases hl:l.a with
     | none=>rfl
     | some a=>rw[hl]at h1;cases h1
    rw[ha]at this
    simp only[cellsAtO]at this
    split at this
    . rename_i h5
      rw[zee ze6]at h5
      have:=g2.1
      exact List.eq_nil_of_length_eq_zero (by omega)
    . cases this
   subst hp0
   exact hk _ _ (Hp.le_refl _) ⟨h,Hp.le_refl _,OD.nil⟩
 . intro b el hb
   obtain⟨xs,g1,g2,g3⟩:=hp
   refine⟨xs.flatMap qc,zg7 (Hp.le_ins hb) (by rw[g1.1];exact g1.2),?_⟩
   refine za5m hb (by rw[RdQ.len g1]) (by rw[g2.1];exact hlen) λy h' hy=>?_
   exact hk _ _ hy.1 ⟨h,Hp.le_refl _,xs,hy,g2⟩
theorem za35{v:Rat}:v.num.sign=0↔v=0:=by rw[Int.sign_eq_zero_iff_zero,Rat.num_eq_zero]
theorem zkc{n:Nat}(hn:n<=p.length)(h0:∀i,n<=i->co p i=0)(h1:n=0\/co p (n-1)≠0):p.take n=trim p:=by
 refine Pq.trim_of (nf_take hn h1) λi=>?_
 rw[co_take]
 split
 . rfl
 . rw[h0 i (by omega)]
theorem zes(hp:PL h B l p)(hlen:p.length<=1000000000000)(hB:B<=1000000000000)(H:∀y h',OL h h' B y (trim p)->K y h'):callP (F.zay l) K h:=by
 refine za1 (λy h'=>OL h h' B y (trim p)) (λK' hk=>?_) λy h' _ hy=>H y h' hy
 unfold F.zay
 have hl:=hp.len
 have hcap:=hp.cap
 refine za8 (λs h'=>h'=h/\∃n:Nat,s.1=(n:Int)/\n<=p.length/\p.take n=trim p) ?_ ?_
 . rintro⟨_,_⟩ h1 ⟨rfl,n,hn,hn2,ht⟩
   simp only at hn
   subst hn
   refine za8d 0 n rfl rfl (Nat.zero_le _) (by omega) ?_
   refine zako (hp.cut hn2) (by rw[List.length_take];omega) λy h' hy=>?_
   rw[ht]at hy
   exact hk _ _ hy.hle hy
 . refine za9 (λst h'=>h'=h/\∃n:Nat,st.1=(n:Int)/\n<=p.length/\∀i,n<=i->co p i=0) (λst=>st.1.toNat) ⟨rfl,p.length,by simp only;rw[hl],Nat.le_refl _,λi hi=>co_ge hi⟩ ?_
   rintro⟨_,_⟩ h1 ⟨rfl,n,hn,hn2,h0⟩
   simp only at hn
   subst hn
   refine za8 (λ_ h'=>h'=h1/\0<n/\co p (n-1)=0) ?_ ?_
   . rintro _ h2 ⟨rfl,hpos,hz⟩
     have e:i64.wrap ((n:Int)-1)=((n-1:Nat):Int):=by rw[w64 (by omega)];omega
     refine⟨⟨rfl,n-1,e,by omega,λi hi=>?_⟩,by simp only;rw[e];omega⟩
     by_cases hi2:i=n-1
     . rw[hi2];exact hz
     . exact h0 i (by omega)
   . refine za3 (λh3=>?_) (λh3=>?_)
     . have hpos:0<n:=by omega
       have e:i64.wrap ((n:Int)-1)=((n-1:Nat):Int):=by rw[w64 (by omega)];omega
       refine hp.get (n-1) e (by omega) λx hx bx=>?_
       refine zi5 hx bx hB (zbi (λh4=>⟨rfl,hpos,?_⟩) (λh4=>⟨rfl,n,rfl,hn2,zkc hn2 h0 (.inr ?_)⟩))
       . rw[co_lt (by omega)];exact za35.1 h4
       . rw[co_lt (by omega)];exact λhh=>h4 (za35.2 hh)
     . exact⟨rfl,n,rfl,hn2,zkc hn2 h0 (.inl (by omega))⟩
theorem zet(hp:PL h B l p)(hlen:p.length<=1000000000000)(hB:B<=1000000000000)(H:∀y h',OL h h' B y (trim p)->K y h'):callP (F.zcq l) K h:=by
 refine za1 (λy h'=>OL h h' B y (trim p)) (λK' hk=>?_) λy h' _ hy=>H y h' hy
 unfold F.zcq
 have hl:=hp.len
 have hcap:=hp.cap
 refine za8 (λs h'=>h'=h/\∃n:Nat,s.1=(n:Int)/\n<=p.length/\p.take n=trim p) ?_ ?_
 . rintro⟨_,_⟩ h1 ⟨rfl,n,hn,hn2,ht⟩
   simp only at hn
   subst hn
   intro b el hb
   refine za8d 0 n rfl rfl (Nat.zero_le _) (by omega) ?_
   obtain⟨xs,g1,g2,g3⟩:=hp.cut hn2
   refine⟨xs.flatMap qc,zg7 (Hp.le_ins hb) (by rw[g1.1];exact g1.2),?_⟩
   refine za5m hb (by rw[RdQ.len g1]) (by rw[g2.1,List.length_take];omega) λy h' hy=>?_
   refine hk _ _ hy.1 ⟨h1,Hp.le_refl _,xs,hy,?_⟩
   rw[<-ht];exact g2
 . refine za9 (λst h'=>h'=h/\∃n:Nat,st.1=(n:Int)/\n<=p.length/\∀i,n<=i->co p i=0) (λst=>st.1.toNat) ⟨rfl,p.length,by simp only;rw[hl],Nat.le_refl _,λi hi=>co_ge hi⟩ ?_
   rintro⟨_,_⟩ h1 ⟨rfl,n,hn,hn2,h0⟩
   simp only at hn
   subst hn
   refine za8 (λ_ h'=>h'=h1/\0<n/\co p (n-1)=0) ?_ ?_
   . rintro _ h2 ⟨rfl,hpos,hz⟩
     have e:i64.wrap ((n:Int)-1)=((n-1:Nat):Int):=by rw[w64 (by omega)];omega
     refine⟨⟨rfl,n-1,e,by omega,λi hi=>?_⟩,by simp only;rw[e];omega⟩
     by_cases hi2:i=n-1
     . rw[hi2];exact hz
     . exact h0 i (by omega)
   . refine za3 (λh3=>?_) (λh3=>?_)
     . have hpos:0<n:=by omega
       have e:i64.wrap ((n:Int)-1)=((n-1:Nat):Int):=by rw[w64 (by omega)];omega
       refine hp.get (n-1) e (by omega) λx hx bx=>?_
       refine zm0 hx bx hB (zbi (λh4=>⟨rfl,hpos,?_⟩) (λh4=>⟨rfl,n,rfl,hn2,zkc hn2 h0 (.inr ?_)⟩))
       . rw[co_lt (by omega)];exact za35.1 h4
       . rw[co_lt (by omega)];exact λhh=>h4 (za35.2 hh)
     . exact⟨rfl,n,rfl,hn2,zkc hn2 h0 (.inl (by omega))⟩
theorem zo1{Ki:Int->Hp->Prop}(hp:PL h B l p)(hlen:p.length<=1000000000000)(hB:B<=1000000000000)(H:∀h',h.le h'->Ki (((trim p).length:Int)-1) h'):callP (F.zd4 l) Ki h:=by
 refine za1 (λr h'=>r=((trim p).length:Int)-1) (λK' hk=>?_) λr h' hl hr=>by subst hr;exact H h' hl
 unfold F.zd4
 refine zes hp hlen hB λy h' hy=>?_
 have:=trim_len (p:=p)
 rw[hy.len,w64 (by omega)]
 exact hk _ _ hy.hle rfl
theorem zag1{Ki:Int->Hp->Prop}(hp:PL h B l p)(hlen:p.length<=1000000000000)(hB:B<=1000000000000)(H:∀h',h.le h'->Ki (((trim p).length:Int)-1) h'):callP (F.zju l) Ki h:=by
 refine za1 (λr h'=>r=((trim p).length:Int)-1) (λK' hk=>?_) λr h' hl hr=>by subst hr;exact H h' hl
 unfold F.zju
 refine zet hp hlen hB λy h' hy=>?_
 have:=trim_len (p:=p)
 rw[hy.len,w64 (by omega)]
 exact hk _ _ hy.hle rfl
end
end Den
end

section
namespace Den
open Go Iv Pq
theorem PL.getle{h0 h:Hp}{B:Nat}{l:Sl}{p:List Rat}{i:Int}{K:Bool->Sl->Bool->Sl->Prop}(k:Nat)(hp:PL h0 B l p)(hl:h0.le h)(hi:i=k)(hk:k<p.length)
 (H:∀x:TRat,NR h0 x p[k]->BR B p[k]->K x.num.neg x.num.mag x.den.neg x.den.mag) :
 idxP l i 4 λa=>ldL .bool (a.add 0) (λx0=>ldL .sl (a.add 1) (λx1=>ldL .bool (a.add 2) (λx2=>ldL .sl (a.add 3) (λx3=>K x0 x1 x2 x3) h) h) h) h:=by
 obtain⟨xs,h1,h2,h3⟩:=hp
 have hk':k<xs.length:=by rw[h2.1];exact hk
 have:=h2.2 k hk' hk
 exact zuj k (h1.le hl) hi hk' (H _ this.1 this.2)
theorem OL.base{h h0 h1:Hp}{B:Nat}{l:Sl}{p:List Rat}(ho:OL h1 h B l p)(hl:h0.le h1):OL h0 h B l p:=by
 obtain⟨D,a,b⟩:=ho
 exact⟨D,Hp.le_trans hl a,b⟩
theorem zat{p q:List Rat}(h:∀i,co p i=co q i):trim p=trim q:=nf_ext nf_trim nf_trim λi=>by rw[co_trim,co_trim,h]
theorem BR.co{B:Nat}{p:List Rat}(hp:∀v∈p,BR B v)(h1:1<=B)(i:Nat):BR B (co p i):=by
 rcases Nat.lt_or_ge i p.length with h2 | h2
 . rw[co_lt h2];exact hp _ (List.getElem_mem h2)
 . rw[co_ge h2];exact zgo.mono h1
theorem zr0{c:Rat}{p:List Rat}{i:Nat}:co (p.map (c*·)) i=c*co p i:=co_map (f:=(c*·)) (Rat.mul_zero c)
section
variable {h : Hp} {A B : Nat} {l m : Sl} {p q : List Rat} {K : Sl → Hp → Prop} {KR : TRat → Hp → Prop} {Kb : Bool → Hp → Prop} {c : Rat} {x : TRat}
theorem zlu(hp:PL h A l p)(hx:NR h x c)(bc:BR B c)(hlen:p.length<=1000000000000)(hA:A<=400000000000)(hB:B<=400000000000)(H:∀y h',OL h h' (A+B) y (trim (p.map (c*·)))->K y h'):callP (F.zev l x) K h:=by
 refine za1 (λy h'=>OL h h' (A+B) y (trim (p.map (c*·)))) (λK' hk=>?_) λy h' _ hy=>H y h' hy
 unfold F.zev
 have hl:=hp.len
 refine za9 (λst h'=>∃D,h.le D/\∃i:Nat,st.2.1=(i:Int)/\i<=p.length/\OD D h' (A+B) st.1 ((p.take i).map (c*·))) (λst=>(p.length-st.2.1).toNat)
  ⟨h,Hp.le_refl _,0,rfl,Nat.zero_le _,by simpa using OD.nil⟩ ?_
 rintro⟨s,_,_⟩ h1 ⟨D,hD,i,hi,hi2,ho⟩
 simp only at hi ho
 subst hi
 refine za3 (λh3=>?_) (λh3=>?_)
 . have hi':i<p.length:=by simp only at h3;omega
   refine hp.getle i (Hp.le_trans hD ho.dle) rfl hi' λy hy by_=>?_
   refine ho.call (K1:=λz D'=>NR D' z (p[i]*c)) (zof (hy.le hD) (hx.le hD) by_ bc hA hB λz D' hl' hz=>hz) λz D' h2 hl' ho' hz=>?_
   refine ho'.app (by simp;omega) hz (by_.mul bc) λw h3 hw=>⟨⟨D',Hp.le_trans hD hl',i+1,?_,hi',?_⟩,?_⟩
   . simp only;rw[w64 (by omega)];rfl
   . rw[List.take_succ_eq_append_getElem hi',List.map_append]
     simp only[List.map_cons,List.map_nil]
     rw[Rat.mul_comm]at hw
     exact hw
   . simp only;rw[w64 (by omega)];omega
 . have hi':i=p.length:=by simp only at h3;omega
   subst hi'
   rw[List.take_length]at ho
   refine zet ho.pl (by simpa using hlen) (by omega) λy h' hy=>hk _ _ ?_ (hy.base ?_)
   . exact Hp.le_trans hD (Hp.le_trans ho.dle hy.hle)
   . exact Hp.le_trans hD ho.dle
theorem zui(H:∀z h',h.le h'->NR h' z 0->KR z h'):callP F.zg4 KR h:=by
 refine za1 (λz h'=>NR h' z 0) (λK' hk=>?_) λz h' hl hz=>H z h' hl hz
 unfold F.zg4
 exact zbs (by decide) (by decide) λz h' hl hz=>hk _ _ hl hz
theorem zakr{i:Int}(k:Nat)(hp:PL h A l p)(hi:i=k)(H:∀z h',h.le h'->NR h' z (co p k)->KR z h'):callP (F.zq9 l i) KR h:=by
 refine za1 (λz h'=>NR h' z (co p k)) (λK' hk=>?_) λz h' hl hz=>H z h' hl hz
 unfold F.zq9
 subst hi
 have hl:=hp.len
 refine zwk (za3 (λh1=>by omega) (λh1=>za3 (λh2=>?_) (λh2=>?_)))
 . refine zui λz h' hl' hz=>hk _ _ hl' ?_
   rw[co_ge (by omega)];exact hz
 . have hk':k<p.length:=by omega
   refine hp.get k rfl hk' λy hy _=>hk _ _ (Hp.le_refl _) ?_
   rw[co_lt hk'];exact hy
theorem zn2{f:Nat->Rat}{n i:Nat}:co ((List.range n).map f) i=if i<n then f i else 0:=by
 rcases Nat.lt_or_ge i n with h1 | h1
 . rw[co_lt (by simpa using h1),if_pos h1];simp
 . rw[co_ge (by simpa using h1),if_neg (by omega)]
theorem zul(hp:PL h A l p)(hq:PL h B m q)(hlen:p.length<=100000000)(hlen2:q.length<=100000000)(hA:1<=A/\A<=400000000000)(hB:1<=B/\B<=400000000000){C:Nat}(hC:∀i,BR C (co p i+co q i))(hC2:C<=1000000000000)
 (H:∀y h',OL h h' C y (trim (addL p q))->K y h'):callP (F.zk8 l m) K h:=by
 refine za1 (λy h'=>OL h h' C y (trim (addL p q))) (λK' hk=>?_) λy h' _ hy=>H y h' hy
 unfold F.zk8
 have hl:=hp.len
 have hl2:=hq.len
 have bA:=λi=>BR.co hp.bound hA.1 i
 have bB:=λi=>BR.co hq.bound hB.1 i
 refine za8 (λs h'=>∃D,h.le D/\∃n:Nat,p.length<=n/\q.length<=n/\n<=100000000000/\OD D h' C s.1 ((List.range n).map λi=>co p i+co q i)) ?_ ?_
 . rintro⟨s,_⟩ h1 ⟨D,hD,n,hn1,hn2,hn3,ho⟩
   refine zet ho.pl (by simp;omega) hC2 λy h' hy=>hk _ _ (Hp.le_trans hD (Hp.le_trans ho.dle hy.hle)) ?_
   have e:trim ((List.range n).map λi=>co p i+co q i)=trim (addL p q):=zat λi=>by
    rw[zn2,co_addL]
    split
    . rfl
    . rw[co_ge (by omega),co_ge (by omega)];exact(Rat.add_zero 0).symm
   rw[e]at hy
   exact hy.base (Hp.le_trans hD ho.dle)
 . refine za9 (λst h'=>∃D,h.le D/\∃i:Nat,st.2.1=(i:Int)/\i<=max p.length q.length/\OD D h' C st.1 ((List.range i).map λi=>co p i+co q i)) (λst=>((max p.length q.length:Nat)-st.2.1).toNat)
    ⟨h,Hp.le_refl _,0,rfl,Nat.zero_le _,OD.nil⟩ ?_
   rintro⟨s,_,_⟩ h1 ⟨D,hD,i,hi,hi2,ho⟩
   simp only at hi ho
   subst hi
   refine za8 (λ_ h'=>h'=h1/\i<max p.length q.length) ?_ ?_
   . rintro _ h2 ⟨rfl,hi3⟩
     refine ho.call (K1:=λz D'=>NR D' z (co p i)) (zakr i (hp.le hD) rfl λz D1 hl1 hz=>hz) λz1 D1 h3 hl1 ho1 hz1=>?_
     have hD1:=Hp.le_trans hD hl1
     refine ho1.call (K1:=λz D'=>NR D' z (co q i)) (zakr i (hq.le hD1) rfl λz D1 hl1 hz=>hz) λz2 D2 h4 hl2 ho2 hz2=>?_
     have hD2:=Hp.le_trans hD1 hl2
     refine ho2.call (K1:=λz D'=>NR D' z (co p i+co q i)) (zum (hz1.le hl2) hz2 (bA i) (bB i) hA.2 hB.2 λz D1 hl1 hz=>hz) λz3 D3 h5 hl3 ho3 hz3=>?_
     refine ho3.app (by simp;omega) hz3 (hC i) λw h6 hw=>⟨⟨D3,Hp.le_trans hD2 hl3,i+1,?_,by omega,?_⟩,?_⟩
     . simp only;rw[w64 (by omega)];rfl
     . rw[List.range_succ,List.map_append]
       exact hw
     . simp only;rw[w64 (by omega)];omega
   . refine za3 (λh3=>⟨rfl,by simp only at h3;omega⟩) (λh3=>za3 (λh4=>⟨rfl,by simp only at h4;omega⟩) (λh4=>?_))
     simp only at h3 h4
     exact⟨D,hD,i,by omega,by omega,by omega,ho⟩
theorem zaq1{p q:List Rat}:trim (addL p (trim q))=trim (addL p q):=zat λi=>by rw[co_addL,co_addL,co_trim]
def negL(q:List Rat):List Rat:=q.map ((((-1:Int):Rat))*·)
theorem za34{q:List Rat}{i:Nat}:co (negL q) i=- co q i:=by
 unfold negL
 rw[zr0]
 have:(((-1:Int):Rat))=-1:=rfl
 rw[this];grind
theorem BR_m1:BR 1 (((-1:Int):Rat)):=⟨by unfold Lt;decide,by unfold Lt;decide⟩
theorem za88(hp:PL h A l p)(hq:PL h B m q)(hlen:p.length<=100000000)(hlen2:q.length<=100000000)(hA:1<=A/\A<=300000000000)(hB:1<=B/\B<=300000000000){C:Nat}(hC:∀i,BR C (co p i-co q i))(hC2:C<=1000000000000)
 (H:∀y h',OL h h' C y (trim (addL p (negL q)))->K y h'):callP (F.znf l m) K h:=by
 refine za1 (λy h'=>OL h h' C y (trim (addL p (negL q)))) (λK' hk=>?_) λy h' _ hy=>H y h' hy
 unfold F.znf
 refine zbs (by decide) (by decide) λz h1 hl1 hz=>?_
 refine zlu (hq.le hl1) hz BR_m1 (by omega) (by omega) (by omega) λy h2 hy=>?_
 have ht:=trim_len (p:=q.map ((((-1:Int):Rat))*·))
 rw[List.length_map]at ht
 have hl2:=Hp.le_trans hl1 hy.hle
 refine zul (hp.le hl2) hy.pl hlen (by omega) (by omega) (by omega) (C:=C) (λi=>?_) hC2 λw h3 hw=>?_
 . rw[co_trim]
   have:=hC i
   have e:co p i+co (q.map ((((-1:Int):Rat))*·)) i=co p i-co q i:=by
    have:=za34 (q:=q) (i:=i)
    unfold negL at this
    rw[this];grind
   rw[e];exact this
 . rw[zaq1]at hw
   exact hk _ _ (Hp.le_trans hl2 hw.hle) (hw.base hl2)
theorem zal0(hp:PL h A l p)(hq:PL h B m q)(hlen:p.length<=100000000)(hlen2:q.length<=100000000)(hA:1<=A/\A<=300000000000)(hB:1<=B/\B<=300000000000)
 (H:∀h',h.le h'->Kb (decide (trim p=trim q)) h'):callP (F.zoa l m) Kb h:=by
 refine za1 (λb h'=>b=decide (trim p=trim q)) (λK' hk=>?_) λb h' hl hb=>by subst hb;exact H h' hl
 unfold F.zoa
 refine za88 hp hq hlen hlen2 hA hB (C:=A+B+1) (λi=>(BR.co hp.bound hA.1 i).sub (BR.co hq.bound hB.1 i)) (by omega) λy h' hy=>hk _ _ hy.hle ?_
 have e:(trim (addL p (negL q))).length=0↔trim p=trim q:=by
  rw[List.length_eq_zero_iff]
  constructor
  . intro h1
    refine zat λi=>?_
    have h2:co (trim (addL p (negL q))) i=0:=by rw[h1];rfl
    rw[co_trim,co_addL,za34]at h2
    grind
  . intro h1
    refine nf_eq_nil nf_trim λi=>?_
    have h2:co (trim p) i=co (trim q) i:=by rw[h1]
    rw[co_trim,co_trim]at h2
    rw[co_trim,co_addL,za34,h2];grind
 rw[hy.len]
 by_cases h1:trim p=trim q
 . rw[decide_eq_true h1,e.2 h1];rfl
 . rw[decide_eq_false h1]
   have:(trim (addL p (negL q))).length≠0:=λhh=>h1 (e.1 hh)
   simp only[beq_eq_false_iff_ne,ne_eq]
   omega
theorem zag8(hp:PL h A l p)(hq:PL h B m q)(hlen:p.length<=100000000)(hlen2:q.length<=100000000)(hA:1<=A/\A<=300000000000)(hB:1<=B/\B<=300000000000)
 (H:∀h',h.le h'->Kb (decide (p.length=q.length/\trim p=trim q)) h'):callP (F.zj1 l m) Kb h:=by
 refine za1 (λb h'=>b=decide (p.length=q.length/\trim p=trim q)) (λK' hk=>?_) λb h' hl hb=>by subst hb;exact H h' hl
 unfold F.zj1
 have hl:=hp.len
 have hl2:=hq.len
 refine zbi (λh1=>?_) (λh1=>hk _ _ (Hp.le_refl _) (decide_eq_false λhh=>h1 (by rw[hl,hl2,hh.1])).symm)
 refine zal0 hp hq hlen hlen2 hA hB λh' hl'=>hk _ _ hl' ?_
 have:p.length=q.length:=by omega
 by_cases h2:trim p=trim q
 . rw[decide_eq_true h2,decide_eq_true ⟨this,h2⟩]
 . rw[decide_eq_false h2,decide_eq_false λhh=>h2 hh.2]
theorem OD.apps{D:Hp}{Ks:Sl->Hp->Prop}{xs:List TRat}{n:Nat}(ho:OD D h B l p)(hn:n=xs.length)(hlen:p.length+xs.length<=1000000000000)(hq:QL D B xs q)(H:∀y h',OD D h' B y (p++q)->Ks y h') :
 appP 4 64 [.bool false,.slice nilS.a nilS.len nilS.cap,.bool false,.slice nilS.a nilS.len nilS.cap] l n (xs.flatMap qc) Ks h:=by
 have hl:=ho.len
 obtain⟨ys,h1,h2⟩:=ho
 refine znt h1 (n:=n) (new:=xs.flatMap qc) (by rw[zee ze6,hn]) rfl ?_ (by omega) (by omega) λy h' hy hyl=>H y h' ⟨ys++xs,?_,?_⟩
 . rw[List.all_flatMap,List.all_eq_true]
   intro x _;exact zwu x
 . rw[List.flatMap_append];exact hy
 . have hl2:=h2.1
   have hl3:=hq.1
   refine⟨by simp[hl2,hl3],λk k1 k2=>?_⟩
   rcases Nat.lt_or_ge k ys.length with h3 | h3
   . rw[List.getElem_append_left h3,List.getElem_append_left (by omega)]
     exact h2.2 k h3 (by omega)
   . rw[List.getElem_append_right h3,List.getElem_append_right (by omega)]
     have:=hq.2 (k-ys.length) (by simp at k1;omega) (by simp at k1;omega)
     simpa [hl2] using this
theorem za03{n:Nat}(hp:PL h B l p)(hlen:p.length+n<=100000000000)(hB:1<=B/\B<=1000000000000)(H:∀y h',OL h h' B y (trim (List.replicate n 0++p))->K y h'):callP (F.zj2 l (n:Int)) K h:=by
 refine za1 (λy h'=>OL h h' B y (trim (List.replicate n 0++p))) (λK' hk=>?_) λy h' _ hy=>H y h' hy
 unfold F.zj2
 refine za9 (λst h'=>∃D,h.le D/\∃i:Nat,st.2.1=(i:Int)/\i<=n/\OD D h' B st.1 (List.replicate i 0)) (λst=>((n:Int)-st.2.1).toNat)
  ⟨h,Hp.le_refl _,0,rfl,Nat.zero_le _,OD.nil⟩ ?_
 rintro⟨s,_,_⟩ h1 ⟨D,hD,i,hi,hi2,ho⟩
 simp only at hi ho
 subst hi
 refine za3 (λh3=>?_) (λh3=>?_)
 . simp only at h3
   refine ho.call (K1:=λz D'=>NR D' z 0) (zui λz D' _ hz=>hz) λz D' h2 hl' ho' hz=>?_
   refine ho'.app (by simp;omega) hz (zgo.mono hB.1) λw h3 hw=>⟨⟨D',Hp.le_trans hD hl',i+1,?_,by omega,?_⟩,?_⟩
   . simp only;rw[w64 (by omega)];rfl
   . rw[List.replicate_succ'];exact hw
   . simp only;rw[w64 (by omega)];omega
 . simp only at h3
   have hi':i=n:=by omega
   subst hi'
   obtain⟨xs,g1,g2,g3⟩:=hp
   refine⟨xs.flatMap qc,by rw[g1.1];exact zg7 (Hp.le_trans hD ho.dle) g1.2,?_⟩
   refine ho.apps (RdQ.len g1) (by rw[g2.1];simp;omega) (g2.le hD) λy h2 hy=>?_
   refine zet hy.pl (by simp;omega) hB.2 λw h3 hw=>hk _ _ (Hp.le_trans hD (Hp.le_trans hy.dle hw.hle)) (hw.base (Hp.le_trans hD hy.dle))
theorem zajv{n i:Nat}:co (List.replicate n 0++p) i=if i<n then 0 else co p (i-n):=by
 rw[co_append,List.length_replicate,co_replicate]
theorem zan7{C:Nat}(hp:PL h A l p)(hq:PL h B m q)(hlen:p.length<=1000)(hlen2:q.length<=1000)(hA:1<=A/\A<=100000000000)(hB:1<=B/\B<=100000000000)(hC:∀k n,k<=q.length->BR C (part (co q) (co p) k n))(hC2:1<=C/\C<=400000000000)
 (H:∀y h',h.le h'->PL h' C y (if q=[]then []else trim (mulL p q))->K y h'):callP (F.zrc l m) K h:=by
 have hfin:∀r,nf r->(∀n,co r n=part (co q) (co p) q.length n)->r=(if q=[]then []else trim (mulL p q)):=λr h1 h2=>by
  have h3:r=trim (mulL p q):=Pq.trim_of h1 λi=>by rw[h2,co_mulL,conv_comm,part_conv λi hi=>co_ge hi]
  split
  . rename_i hh
    refine nf_eq_nil h1 λi=>?_
    rw[h2,hh];rfl
  . exact h3
 refine za1 (λy h'=>PL h' C y (if q=[]then []else trim (mulL p q))) (λK' hk=>?_) λy h' hl hy=>H y h' hl hy
 unfold F.zrc
 have hl:=hp.len
 have hl2:=hq.len
 refine za9 (λst h'=>h.le h'/\∃i:Nat,st.2.1=(i:Int)/\i<=q.length/\∃r,PL h' C st.1 r/\nf r/\r.length<=p.length+i/\∀n,co r n=part (co q) (co p) i n) (λst=>((q.length:Int)-st.2.1).toNat)
  ⟨Hp.le_refl _,0,rfl,Nat.zero_le _,[],PL.nil,.inl rfl,Nat.zero_le _,λn=>rfl⟩ ?_
 rintro⟨s,_,_⟩ h1 ⟨hl1,i,hi,hi2,r,hr,nr,lr,cr⟩
 simp only at hi hr
 subst hi
 refine za3 (λh3=>?_) (λh3=>?_)
 . simp only at h3
   have hi':i<q.length:=by omega
   refine(hq.le hl1).get i rfl hi' λy hy by_=>?_
   refine zlu (hp.le hl1) hy by_ (by omega) (by omega) (by omega) λy2 h2 hy2=>?_
   have ht:=trim_len (p:=p.map (q[i]*·))
   rw[List.length_map]at ht
   refine za03 (n:=i) hy2.pl (by omega) (by omega) λy3 h3 hy3=>?_
   have ht3:=trim_len (p:=List.replicate i 0++trim (p.map (q[i]*·)))
   rw[List.length_append,List.length_replicate]at ht3
   have hl3:=Hp.le_trans hy2.hle hy3.hle
   have cnew:∀n,co r n+co (trim (List.replicate i 0++trim (p.map (q[i]*·)))) n=part (co q) (co p) (i+1) n:=λn=>by
    rw[co_trim,zajv,cr]
    unfold Pq.part
    rw[sm_succ]
    congr 1
    by_cases hn:n<i
    . rw[if_pos hn,if_neg (by omega)]
    . rw[if_neg hn,if_pos (by omega),co_trim,zr0,co_lt hi']
   refine zul (hr.le hl3) hy3.pl (by omega) (by omega) (by omega) (by omega) (C:=C) (λn=>by rw[cnew];exact hC _ _ hi') (by omega) λw h4 hw=>?_
   have hlen3:(addL r (trim (List.replicate i 0++trim (p.map (q[i]*·))))).length<=p.length+(i+1)\/True:=.inr trivial
   refine⟨⟨Hp.le_trans hl1 (Hp.le_trans hl3 hw.hle),i+1,?_,hi',_,hw.pl,nf_trim,?_,λn=>?_⟩,?_⟩
   . simp only;rw[w64 (by omega)];rfl
   . refine nf_len nf_trim λn hn=>?_
     rw[co_trim,co_addL,co_ge (by omega),co_ge (by omega)];exact Rat.add_zero 0
   . rw[co_trim,co_addL,cnew]
   . simp only;rw[w64 (by omega)];omega
 . simp only at h3
   have hi':i=q.length:=by omega
   subst hi'
   refine hk _ _ hl1 ?_
   rw[<-hfin r nr cr];exact hr
end
end Den
end

section
namespace Den
open Go Iv Pq
theorem and32{x:Nat}(hx:x<4294967296):ibits .and .u64 (x:Int) 4294967295=(x:Int):=by
 unfold ibits
 simp only
 have e1:BitVec.ofInt u64.bits (x:Int)=BitVec.ofNat 64 x:=rfl
 have e2:BitVec.ofInt u64.bits (4294967295:Int)=BitVec.ofNat 64 4294967295:=rfl
 rw[e1,e2]
 have e3:(BitVec.ofNat 64 x &&& BitVec.ofNat 64 4294967295).toNat=x:=by
  rw[BitVec.toNat_and,BitVec.toNat_ofNat,BitVec.toNat_ofNat,Nat.mod_eq_of_lt (by omega),Nat.mod_eq_of_lt (by omega)]
  have:(4294967295:Nat)=2 ^ 32-1:=rfl
  rw[this,Nat.and_two_pow_sub_one_eq_mod,Nat.mod_eq_of_lt (by omega)]
 have e4:u64.wrap (((BitVec.ofNat 64 x &&& BitVec.ofNat 64 4294967295).toNat:Nat):Int)=(x:Int):=by rw[e3,wu64 (by omega)]
 exact e4
theorem qshr32{x:Nat}(hx:x<4294967296):((x:Int)).fdiv (2 ^ (min (32:Int).toNat u64.bits))=0:=by
 have:(2:Int) ^ (min (32:Int).toNat u64.bits)=4294967296:=by decide
 rw[this,Int.fdiv_eq_ediv_of_nonneg _ (by decide)]
 omega
theorem zaf0{x y:Nat}{h:Hp}{K:Int×Int->Hp->Prop}(hx:x<65536)(hy:y<65536)(H:K (0,((x*y:Nat):Int)) h):callP (F.zih (x:Int) (y:Int)) K h:=by
 have hxy:x*y<4294967296:=Nat.lt_of_le_of_lt (Nat.mul_le_mul (show x<=65535 by omega) (show y<=65535 by omega)) (by decide)
 refine zap _ (λK' hk=>?_) H
 unfold F.zih
 refine zap (0,((x*y:Nat):Int)) (λK2 hk2=>?_) hk
 unfold F.zjf
 refine⟨by decide,by decide,by decide,by decide,by decide,?_⟩
 have ex:((x:Nat):Int).fdiv (2 ^ (min (32:Int).toNat u64.bits))=0:=qshr32 (by omega)
 have ey:((y:Nat):Int).fdiv (2 ^ (min (32:Int).toNat u64.bits))=0:=qshr32 (by omega)
 have exy:(((x*y:Nat)):Int).fdiv (2 ^ (min (32:Int).toNat u64.bits))=0:=qshr32 hxy
 have e0:((0:Nat):Int).fdiv (2 ^ (min (32:Int).toNat u64.bits))=0:=qshr32 (by decide)
 have ax:=and32 (x:=x) (by omega)
 have ay:=and32 (x:=y) (by omega)
 have a0:=and32 (x:=0) (by decide)
 have w0:u64.wrap 0=0:=by decide
 have em:((x:Nat):Int)*((y:Nat):Int)=((x*y:Nat):Int):=(Int.natCast_mul x y).symm
 have wm:u64.wrap ((x*y:Nat):Int)=((x*y:Nat):Int):=wu64 (by omega)
 have c0:((0:Nat):Int)=0:=rfl
 rw[c0]at e0 a0
 simp only[ex,ey,ax,ay,em,wm,exy,Int.zero_mul,Int.mul_zero,Int.add_zero,w0,e0,a0]
 exact hk2
def zT:TRat:=⟨⟨false,nilS⟩,⟨false,nilS⟩⟩
theorem zaof{n:Nat}:repl n (qc zT)=(List.replicate n zT).flatMap qc:=by
 unfold repl
 induction n with
 | zero=>rfl
 | succ n ih=>rw[List.replicate_succ,List.replicate_succ,List.flatten_cons,List.flatMap_cons,ih]
section
variable {D h : Hp} {n : Nat} {x y : Sl} {cs vs : List Value}
theorem zakp{off:Nat}:splice cs off []=cs:=by unfold splice;simp
theorem zaoj{off:Nat}{K:Hp->Prop}(ho:Own D h n x cs)(hoff:off+vs.length<=cs.length)(hleaf:vs.all Value.leaf=true)(H:∀h',Own D h' n x (splice cs off vs)->K h'):stO x.a off vs K h:=by
 obtain⟨h1,h2,h3,h4⟩:=ho
 cases ha:x.a with
 | none=>
   rw[ha]at h4
   simp only at h4
   have:cs.length=0:=by rw[<-h2,show x.len=0 by omega,Nat.zero_mul]
   have hv:vs=[]:=List.eq_nil_of_length_eq_zero (by omega)
   subst hv
   rw[zakp]at H
   exact H _ ⟨h1,h2,h3,by rw[ha];exact h4⟩
 | some a=>
   rw[ha]at h4
   obtain⟨g1,g2,g3,b,g4,g5,g6,g7⟩:=h4
   have e2:cs.length<=b.cells.length:=by rw[g6,<-h2];exact Nat.mul_le_mul_right _ h3
   refine⟨b,by rw[zcg];exact g4,zpb g2 _,g5,by rw[zic];omega,hleaf,?_⟩
   rw[zcg,zic,g1,Nat.zero_add]
   refine H _ ⟨?_,?_,h3,?_⟩
   . intro kk bk hkk
     rw[Hp.ins_ne (λhh=>by subst hh;rw[g3]at hkk;cases hkk)]
     exact h1 kk bk hkk
   . rw[zcs hoff];exact h2
   . rw[ha]
     refine⟨g1,g2,g3,_,Hp.ins_same _ _ _,g5,?_,?_⟩
     . show(splice b.cells off vs).length=_
       rw[zcs (by omega)];exact g6
     . show(splice b.cells off vs).take _=_
       rw[zcs hoff]
       exact zqd hoff g7
theorem zate{k e:Nat}{K:Hp->Prop}(hk:k<x.cap)(H:stO x.a (k*n) vs K h):stO (x.cut k e n).a 0 vs K h:=by
 have:(x.cut k e n).a=x.a.map (·.add (k*n)):=by show(if x.cap=k then _ else _)=_;rw[if_neg (by omega)]
 rw[this]
 cases ha:x.a with
 | none=>rw[ha]at H;exact H
 | some a=>
   rw[ha]at H
   simp only[Option.map_some]
   show stP ((a.add (k*n)).add 0) vs K h
   rw[zma]
   exact H
theorem zarl(ho:Own D h n x cs){j:Nat}(hj:j<=cs.length):cellsAtO h x.a j=some (cs.take j):=by
 have h1:=ho.rd.2
 cases ha:x.a with
 | some a=>rw[ha]at h1;exact zkj h1 hj
 | none=>
   rw[ha]at h1
   simp only[cellsAtO]at h1 |-
   split at h1
   . rename_i h5
     simp only[Option.some.injEq]at h1
     have:j=0:=by omega
     subst this
     simp
   . cases h1
end
theorem za8e{A B vs:List Value}(h:vs.length<=B.length):splice (A++B) A.length vs=A++vs++B.drop vs.length:=by
 unfold splice
 rw[List.take_left,List.drop_append]
 simp[List.append_assoc]
theorem zakv{h:Hp}{x:Sl}{z:TRat}{n:Nat}{K:Sl->Hp->Prop}(hr:RdQ h x [z])(hn:n<65536)(H:∀y h',Own h h' 4 y ((List.replicate n z).flatMap qc)->K y h') :
 callP (F.zba x (n:Int)) K h:=by
 refine za1 (λy h'=>Own h h' 4 y ((List.replicate n z).flatMap qc)) (λK' hk=>?_) λy h' _ hy=>H y h' hy
 unfold F.zba
 have hxl:x.len=1:=RdQ.len hr
 refine zwk (zab (decide_eq_false (by omega)) ?_)
 have e1:u64.wrap ((x.len:Int))=((1:Nat):Int):=by rw[hxl,wu64 (by decide)]
 have e2:u64.wrap ((n:Int))=(n:Int):=wu64 (by omega)
 rw[e1,e2]
 refine zaf0 (by decide) hn ?_
 have e3:((1*n:Nat):Int)=(n:Int):=by rw[Nat.one_mul]
 rw[e3]
 refine zwk (zab (decide_eq_false (by simp only;omega)) (zab (decide_eq_false (by simp only;omega)) ?_))
 have e4:i64.wrap (((0:Int),(n:Int)).2)=(n:Int):=w64 (by simp only;omega)
 rw[e4]
 refine zamt (size:=4) n n rfl rfl (Nat.le_refl _) (by omega) (by omega) rfl λm h1 ml mc ho=>?_
 have hz:repl n [Value.bool false,.slice nilS.a nilS.len nilS.cap,.bool false,.slice nilS.a nilS.len nilS.cap]=(List.replicate n zT).flatMap qc:=zaof
 rw[hz]at ho
 have qlen:∀j (u:TRat),((List.replicate j u).flatMap qc).length=j*4:=λj u=>by rw[zee ze6,List.length_replicate]
 have qleaf:∀j (u:TRat),((List.replicate j u).flatMap qc).all Value.leaf=true:=λj u=>by
  rw[List.all_flatMap,List.all_eq_true];intro x _;exact zwu x
 have qtake:∀i j (u:TRat),((List.replicate i u).flatMap qc).take (j*4)=(List.replicate (min j i) u).flatMap qc:=λi j u=>by
  rw[zyz ze6,List.take_replicate]
 have qdrop:∀i j (u:TRat),((List.replicate i u).flatMap qc).drop (j*4)=(List.replicate (i-j) u).flatMap qc:=λi j u=>by
  rcases Nat.le_total i j with h1 | h1
  . rw[List.drop_of_length_le (by rw[qlen];omega),show i-j=0 by omega];rfl
  . have:i=j+(i-j):=by omega
    conv=>lhs;rw[this,<-List.replicate_append_replicate,List.flatMap_append]
    rw[List.drop_append_of_le_length (by rw[qlen];omega),List.drop_of_length_le (by rw[qlen];omega),List.nil_append]
 have qapp:∀i j (u:TRat),(List.replicate i u).flatMap qc++(List.replicate j u).flatMap qc=(List.replicate (i+j) u).flatMap qc:=λi j u=>by
  rw[<-List.flatMap_append,List.replicate_append_replicate]
 have hmin1:Nat.min x.len m.len=min 1 n:=by rw[hxl,ml]
 refine⟨(List.replicate (min 1 n) z).flatMap qc,?_,?_⟩
 . rw[hmin1]
   have hx2:cellsAtO h1 x.a 4=some (qc z):=by
    have:=zg7 ho.1 hr.2
    simpa [ze6] using this
   rcases Nat.eq_zero_or_pos n with h0 | h0
   . subst h0
     simp only[Nat.min_zero,Nat.zero_mul,List.replicate_zero,List.flatMap_nil]
     cases x.a<;>simp[cellsAtO,cellsAt]
   . have:min 1 n=1:=by omega
     rw[this]
     simpa using hx2
 refine zaoj ho (by rw[qlen,qlen];omega) (qleaf _ _) λh2 ho2=>?_
 have hfirst:splice ((List.replicate n zT).flatMap qc) 0 ((List.replicate (min 1 n) z).flatMap qc)=(List.replicate (min 1 n) z).flatMap qc++(List.replicate (n-min 1 n) zT).flatMap qc:=by
  have:=za8e (A:=[]) (B:=(List.replicate n zT).flatMap qc) (vs:=(List.replicate (min 1 n) z).flatMap qc) (by rw[qlen,qlen];omega)
  simp only[List.nil_append,List.length_nil]at this
  rw[this,qlen,qdrop]
 rw[hfirst]at ho2
 rw[hmin1]
 refine za9 (λst h'=>∃k:Nat,st.1=(k:Int)/\k<=n/\(k=0->n=0)/\Own h h' 4 m ((List.replicate k z).flatMap qc++(List.replicate (n-k) zT).flatMap qc)) (λst=>((n:Int)-st.1).toNat)
  ⟨min 1 n,rfl,by omega,by omega,ho2⟩ ?_
 rintro⟨_,_⟩ h3 ⟨k,hk1,hk2,hk3,ho3⟩
 simp only at hk1
 subst hk1
 refine za3 (λh4=>?_) (λh4=>?_)
 . simp only[ml]at h4
   have hkn:k<n:=by omega
   refine za8d k n rfl (by rw[ml]) hk2 (by omega) (za8d 0 k rfl rfl (Nat.zero_le _) (by omega) ?_)
   obtain⟨c1,c2,c3⟩:=cut0 m k 4 (by omega)
   have hcl:(m.cut k n 4).len=n-k:=rfl
   have hmin2:Nat.min (m.cut 0 k 4).len (m.cut k n 4).len=min k (n-k):=by rw[c1,hcl]
   refine⟨(List.replicate (min k (n-k)) z).flatMap qc,?_,?_⟩
   . rw[hmin2,c3,zarl ho3 (by rw[List.length_append,qlen,qlen];omega),List.take_append_of_le_length (by rw[qlen];omega),qtake,show min (min k (n-k)) k=min k (n-k)by omega]
   . rw[hmin2]
     refine zate (by omega) (zaoj ho3 (by rw[List.length_append,qlen,qlen,qlen];omega) (qleaf _ _) λh5 ho5=>?_)
     have hs:=za8e (A:=(List.replicate k z).flatMap qc) (B:=(List.replicate (n-k) zT).flatMap qc) (vs:=(List.replicate (min k (n-k)) z).flatMap qc) (by rw[qlen,qlen];omega)
     rw[qlen,qlen,qdrop,qapp]at hs
     rw[hs,show n-k-min k (n-k)=n-(k+min k (n-k))by omega]at ho5
     have e5:i64.wrap ((k:Int)+((min k (n-k):Nat):Int))=((k+min k (n-k):Nat):Int):=by rw[w64 (by omega)];omega
     exact⟨⟨k+min k (n-k),e5,by omega,by omega,ho5⟩,by simp only;rw[e5];omega⟩
 . simp only[ml]at h4
   have hkn:k=n:=by omega
   subst hkn
   rw[Nat.sub_self,List.replicate_zero,List.flatMap_nil,List.append_nil]at ho3
   exact hk _ _ ho3.1 ho3
end Den
end

section
namespace Den
open Go Iv Pq
section
variable {h : Hp} {A B : Nat} {l m : Sl} {p q : List Rat} {K : Sl → Hp → Prop} {KR : TRat → Hp → Prop} {Kb : Bool → Hp → Prop} {c : Rat} {x : TRat}
theorem zanu{n:Nat}(hn:n<65536)(H:∀y h',OL h h' 1 y (List.replicate n 0)->K y h'):callP (F.zf7 (n:Int)) K h:=by
 refine za1 (λy h'=>OL h h' 1 y (List.replicate n 0)) (λK' hk=>?_) λy h' _ hy=>H y h' hy
 unfold F.zf7
 refine zbd (by decide) (by decide) λz h1 hl1 hz=>?_
 refine za7u (xs:=[z]) 1 rfl λa h2 hl2 ha=>?_
 refine zakv ha hn λy h3 hy=>?_
 refine hk _ _ (Hp.le_trans hl1 (Hp.le_trans hl2 hy.1)) ⟨h2,Hp.le_trans hl1 hl2,_,hy,?_⟩
 refine⟨by simp,λk h4 h5=>?_⟩
 rw[List.getElem_replicate,List.getElem_replicate]
 exact⟨(hz.le hl2:NR h2 z 0),zgo⟩
theorem zq4(hp:PL h A l p)(hx:NR h x c)(bc:BR B c)(hlen:p.length<=1000000000000)(hA:A<=400000000000)(hB:B<=400000000000)(H:∀y h',OL h h' (A+B) y (trim (p.map (c*·)))->K y h'):callP (F.zdr l x) K h:=by
 refine za1 (λy h'=>OL h h' (A+B) y (trim (p.map (c*·)))) (λK' hk=>?_) λy h' _ hy=>H y h' hy
 unfold F.zdr
 have hl:=hp.len
 refine zamt (size:=4) p.length p.length (by rw[hl]) (by rw[hl]) (Nat.le_refl _) (by omega) (by omega) rfl λm h1 ml mc ho=>?_
 have hz:repl p.length [Value.bool false,.slice nilS.a nilS.len nilS.cap,.bool false,.slice nilS.a nilS.len nilS.cap]=(List.replicate p.length zT).flatMap qc:=zaof
 rw[hz]at ho
 refine za9 (λst h'=>∃D,h.le D/\∃i:Nat,st.1=(i:Int)/\i<=p.length/\∃xs:List TRat,xs.length=p.length/\Own D h' 4 m (xs.flatMap qc)/\QL D (A+B) (xs.take i) ((p.take i).map (c*·))) (λst=>(p.length-st.1).toNat)
  ⟨h,Hp.le_refl _,0,rfl,Nat.zero_le _,List.replicate p.length zT,by simp,ho,⟨rfl,λk h1 _=>by simp at h1⟩⟩ ?_
 rintro⟨_,_⟩ h2 ⟨D,hD,i,hi,hi2,xs,hxs,ho2,hq⟩
 simp only at hi
 subst hi
 refine za3 (λh3=>?_) (λh3=>?_)
 . simp only at h3
   have hi':i<p.length:=by omega
   refine hp.getle i (Hp.le_trans hD ho2.1) rfl hi' λy hy by_=>?_
   refine ho2.call (K1:=λz D'=>NR D' z (p[i]*c)) (znc (hy.le hD) (hx.le hD) by_ bc hA hB λz D' hl' hz=>hz) λz D' h3 hl' ho' hz=>?_
   refine zaog ze6 (by decide) (x:=z) i ho' rfl (by omega) (zwu z) λh4 ho4 _=>⟨⟨D',Hp.le_trans hD hl',i+1,?_,hi',xs.set i z,by simpa using hxs,ho4,?_⟩,?_⟩
   . simp only;rw[w64 (by omega)];rfl
   . have e1:(xs.set i z).take (i+1)=xs.take i++[z]:=by
      rw[List.take_succ_eq_append_getElem (by simp;omega),List.take_set_of_le (Nat.le_refl _)]
      simp
     have e2:(p.take (i+1)).map (c*·)=(p.take i).map (c*·)++[p[i]*c]:=by
      rw[List.take_succ_eq_append_getElem hi',List.map_append]
      simp only[List.map_cons,List.map_nil]
      rw[Rat.mul_comm]
     rw[e1,e2]
     exact QL.snoc (hq.le hl') hz (by_.mul bc)
   . simp only;rw[w64 (by omega)];omega
 . simp only at h3
   have hi':i=p.length:=by omega
   subst hi'
   rw[List.take_length,<-hxs,List.take_length]at hq
   have hod:OD D h2 (A+B) m (p.map (c*·)):=⟨xs,ho2,hq⟩
   refine zes hod.pl (by simpa using hlen) (by omega) λy h' hy=>hk _ _ (Hp.le_trans hD (Hp.le_trans ho2.1 hy.hle)) (hy.base (Hp.le_trans hD ho2.1))
end
end Den
end

section
namespace Den
open Go Iv Pq
section
variable {h : Hp} {A B C : Nat} {l m : Sl} {p q : List Rat} {K : Sl → Hp → Prop} {KR : TRat → Hp → Prop} {Kb : Bool → Hp → Prop} {c : Rat} {x : TRat}
theorem zau9{f g:Nat->Rat}{i j:Nat}:Pq.part f g (i+1) j=Pq.part f g i j+(if i<=j then f i*g (j-i)else 0):=rfl
theorem za83{Ka:Addr->Hp->Prop}(H:∀a h',h.le h'->h'.cell a=some (.slice l.a l.len l.cap)->Ka a h'):callP (F.zb3 l) Ka h:=by
 refine za1 (λa h'=>h'.cell a=some (.slice l.a l.len l.cap)) (λK' hk=>?_) λa h' hl ha=>H a h' hl ha
 unfold F.zb3
 intro b e hb
 refine hk _ _ (Hp.le_ins hb) ?_
 unfold Hp.cell
 simp only[Hp.ins_same]
 rfl
abbrev qt(x:TRat):Bool×Sl×Bool×Sl×Unit:=(x.num.neg,x.num.mag,x.den.neg,x.den.mag,())
theorem zaqe{h':Hp}(hp:PL h B l p)(hl:h.le h'){i:Nat}(hi:i<p.length) :
 ∃(ad:Addr) (x:TRat),l.a=some ad/\NR h x p[i]/\BR B p[i]/\∀j u,(qc x)[j]?=some u->h'.cell (ad.add (i*4+j))=some u:=by
 obtain⟨xs,h1,h2,h3⟩:=hp
 have hi':i<xs.length:=by rw[h2.1];exact hi
 have h4:=(h1.le hl).2
 have hpos:0<(xs.flatMap qc).length:=by rw[zee ze6];omega
 cases ha:l.a with
 | none=>
   rw[ha]at h4
   simp only[cellsAtO]at h4
   split at h4
   . omega
   . cases h4
 | some ad=>
   rw[ha]at h4
   simp only[cellsAtO]at h4
   refine⟨ad,xs[i],rfl,(h2.2 i hi' hi).1,(h2.2 i hi' hi).2,λj u hj=>?_⟩
   have hj4:j<4:=by
    rcases Nat.lt_or_ge j 4 with h5 | h5
    . exact h5
    . rw[List.getElem?_eq_none (by rw[ze6];exact h5)]at hj;cases hj
   exact ziq h4 (i*4+j) u (by rw[za7g ze6 hi' hj4];exact hj)
theorem zamy(hp:PL h A l p)(hx:NR h x c)(bc:BR B c)(hlen:p.length<=1000000000000)(hA:A<=100000000000)(hB:B<=100000000000)(hC:∀i,BR C (ev (p.drop i) c))(hC2:C<=200000000000)(H:∀z h',h.le h'->NR h' z (ev p c)->KR z h'):callP (F.zfy l x) KR h:=by
 refine za1 (λz h'=>NR h' z (ev p c)) (λK' hk=>?_) λz h' hl hz=>H z h' hl hz
 unfold F.zfy
 have hl:=hp.len
 refine zbd (by decide) (by decide) λz0 h1 hl1 hz0=>?_
 refine za83 λad h2 hl2 had=>?_
 have hl02:=Hp.le_trans hl1 hl2
 refine⟨l,λi st h'=>i<=p.length/\h2.le h'/\NR h' (q4 st.1) (ev (p.drop i) c),by omega,⟨by omega,Hp.le_refl _,?_⟩,λi st h' hI=>Hp.cell_le hI.2.1 had,λi st h' hi hI=>?_,λst h' hI=>?_⟩
 . rw[hl,List.drop_length];exact hz0.le hl2
 . obtain⟨_,hl3,hs⟩:=hI
   have hi':i<p.length:=by omega
   obtain⟨a,y,ha,hy,by_,hc⟩:=zaqe hp (Hp.le_trans hl02 hl3) hi'
   refine⟨a,qt y,ha,λj u hj=>hc j u hj,?_⟩
   have hl03:=Hp.le_trans hl02 hl3
   refine znc hs (hx.le hl03) (hC _) bc (by omega) (by omega) λr h4 hl4 hr=>?_
   refine zga hr ((hy.le hl03).le hl4) ((hC _).mul bc) by_ (by omega) (by omega) λw h5 hl5 hw=>?_
   refine⟨by omega,Hp.le_trans hl3 (Hp.le_trans hl4 hl5),?_⟩
   rw[ev_drop hi',Rat.add_comm]
   exact hw
 . have:=hI.2.2
   rw[List.drop_zero]at this
   exact hk _ _ (Hp.le_trans hl02 hI.2.1) this
end
end Den
end

section
namespace Den
open Go Iv Pq
section
variable {h : Hp} {A B C : Nat} {l m : Sl} {p q : List Rat} {K : Sl → Hp → Prop} {KR : TRat → Hp → Prop} {Kb : Bool → Hp → Prop} {c : Rat} {x : TRat}
theorem zakz(hp:PL h A l p)(hx:NR h x c)(bc:BR B c)(hlen:p.length<=1000000000000)(hA:A<=100000000000)(hB:B<=100000000000)(hC:∀i,BR C (ev (p.drop i) c))(hC2:C<=200000000000)(H:∀z h',h.le h'->NR h' z (ev p c)->KR z h'):callP (F.zo9 l x) KR h:=by
 refine za1 (λz h'=>NR h' z (ev p c)) (λK' hk=>?_) λz h' hl hz=>H z h' hl hz
 unfold F.zo9
 have hl:=hp.len
 refine zui λz0 h1 hl1 hz0=>?_
 have e0:i64.wrap ((l.len:Int)-1)=(p.length:Int)-1:=by rw[w64 (by omega)];omega
 rw[e0]
 refine za9 (λst h'=>h1.le h'/\∃i:Nat,st.2.1=(i:Int)-1/\i<=p.length/\NR h' (q4 st.1) (ev (p.drop i) c)) (λst=>(st.2.1+1).toNat)
  ⟨Hp.le_refl _,p.length,rfl,Nat.le_refl _,by rw[List.drop_length];exact hz0⟩ ?_
 rintro⟨s,_,_⟩ h2 ⟨hl2,i,hi,hi2,hs⟩
 simp only at hi hs
 subst hi
 refine za3 (λh3=>?_) (λh3=>?_)
 . simp only at h3
   have hl12:=Hp.le_trans hl1 hl2
   refine(hp.le hl12).get (i-1) (by simp only;omega) (by omega) λy hy by_=>?_
   refine zof hs (hx.le hl12) (hC _) bc (by omega) (by omega) λr h4 hl4 hr=>?_
   refine zum hr (hy.le hl4) ((hC _).mul bc) by_ (by omega) (by omega) λw h5 hl5 hw=>?_
   have e1:i64.wrap ((i:Int)-1-1)=((i-1:Nat):Int)-1:=by rw[w64 (by omega)];omega
   refine⟨⟨Hp.le_trans hl2 (Hp.le_trans hl4 hl5),i-1,e1,by omega,?_⟩,by simp only;rw[e1];omega⟩
   have e2:ev (p.drop (i-1)) c=ev (p.drop i) c*c+p[i-1]'(by omega):=by
    rw[ev_drop (show i-1<p.length by omega),Rat.add_comm,show i-1+1=i by omega]
   rw[e2]
   exact hw
 . simp only at h3
   have hi':i=0:=by omega
   subst hi'
   rw[List.drop_zero]at hs
   exact hk _ _ (Hp.le_trans hl1 hl2) hs
theorem PL.one{a:Addr}{y:TRat}{v:Rat}(hr:RdQ h ⟨some a,1,1⟩ [y])(hy:NR h y v)(by_:BR B v):PL h B ⟨some a,1,1⟩ [v]:=by
 refine⟨[y],hr,⟨rfl,λk h1 h2=>?_⟩,Nat.le_refl _⟩
 have:k=0:=by simp at h1;omega
 subst this
 exact⟨hy,by_⟩
end
end Den
end

section
namespace Den
open Go Iv Pq
def stepF(b:Nat->Rat)(d i:Nat)(f:Nat->Rat):Nat->Rat:=λj=>if i<=j then f j-(f (i+d)/b d)*b (j-i)else f j
def restK(b:Nat->Rat)(d N:Nat)(f:Nat->Rat):Nat->(Nat->Rat)
 | 0=>f
 | k+1=>stepF b d (N-1-k) (restK b d N f k)
section
variable {D h h' : Hp} {A B C : Nat} {l m x : Sl} {p q : List Rat} {K : Sl → Hp → Prop} {KK : Sl × Sl → Hp → Prop}
theorem OD.stay(ho:OD D h B l p)(hap:Apt x l)(hl:D.le h')(hs:∀j,(∀a,x.a=some a->j≠a.block)->h' j=h j):OD D h' B l p:=by
 obtain⟨xs,h1,h2⟩:=ho
 exact⟨xs,zarm h1 hap hl hs,h2⟩
theorem OD.call2{α:Type}{G:(α->Hp->Prop)->Hp->Prop}{K1 K:α->Hp->Prop}(h1:OD D h A l p)(h2:OD D h B m q)(H:callP G K1 D)
 (k:∀v D' h',D.le D'->OD D' h' A l p->OD D' h' B m q->K1 v D'->K v h'):callP G K h:=by
 obtain⟨xs,a1,a2⟩:=h1
 obtain⟨ys,b1,b2⟩:=h2
 exact zqw a1.1 H λv D' h' g1 g2 g3 g4=>k v D' h' g1 ⟨xs,a1.move g2 g3,a2.le g1⟩ ⟨ys,b1.move g2 g3,b2.le g1⟩ g4
theorem OD.pair{D1 D2:Hp}{r s:Sl}(h1:∃xs,Own D2 h 4 r (xs.flatMap qc)/\QL D1 A xs p)(h2:OL D1 D2 B s q):∃D3,D1.le D3/\OD D3 h A r p/\OD D3 h B s q/\Apt r s:=by
 obtain⟨xs,a1,a2⟩:=h1
 obtain⟨D3,c1,ys,b1,b2⟩:=h2
 refine⟨D3,c1,⟨xs,a1.base b1.1,a2.le c1⟩,⟨ys,b1.le a1.1,b2⟩,λa b ha hb=>?_⟩
 obtain⟨_,_,_,g4⟩:=a1
 rw[ha]at g4
 obtain⟨_,_,k3,_⟩:=g4
 obtain⟨_,_,_,f4⟩:=b1
 rw[hb]at f4
 obtain⟨_,_,_,bb,e4,_⟩:=f4
 intro hh
 rw[hh,e4]at k3
 cases k3
theorem NR.num_ne{y:TRat}{v:Rat}(h0:v≠0):v.num≠0:=λhh=>h0 (Rat.num_eq_zero.1 hh)
theorem zij(hp:PL h A l p)(hq:PL h B m q)(hlen:p.length<=1000)(hlen2:q.length<=1000)(hB:1<=B/\B<=50000000000)(hq0:trim q≠[])
 (hC:∀k j,k<=(trim p).length+1-(trim q).length->BR C (restK (co q) ((trim q).length-1) ((trim p).length+1-(trim q).length) (co p) k j)) (hC2:A<=C/\C<=50000000000)
 (H:∀y z h' qs rs,h.le h'->PL h' (C+B) y (trim qs)->PL h' C z (trim rs)->qs.length<=1001->rs.length<=1000->(∀j,conv (co qs) (co q) j+co rs j=co p j)->(∀j,(trim q).length-1<=j->co rs j=0)->(∀j,co rs j=restK (co q) ((trim q).length-1) ((trim p).length+1-(trim q).length) (co p) ((trim p).length+1-(trim q).length) j)->KK (y,z) h') :
 callP (F.zb9 l m) KK h:=by
 refine za1 (λyz h'=>∃qs rs,PL h' (C+B) yz.1 (trim qs)/\PL h' C yz.2 (trim rs)/\qs.length<=1001/\rs.length<=1000/\(∀j,conv (co qs) (co q) j+co rs j=co p j)/\(∀j,(trim q).length-1<=j->co rs j=0)/\(∀j,co rs j=restK (co q) ((trim q).length-1) ((trim p).length+1-(trim q).length) (co p) ((trim p).length+1-(trim q).length) j)) (λK' hk=>?_)
  λyz h' hl ⟨qs,rs,g1,g2,g3,g4,g5,g6,g7⟩=>H yz.1 yz.2 h' qs rs hl g1 g2 g3 g4 g5 g6 g7
 unfold F.zb9
 have tq:=trim_len (p:=q)
 have tp:=trim_len (p:=p)
 have hd0:0<(trim q).length:=List.length_pos_iff.2 hq0
 obtain⟨d,hd⟩:∃d,(trim q).length=d+1:=⟨(trim q).length-1,by omega⟩
 obtain⟨N,hN⟩:∃N,N=(trim p).length+1-(trim q).length:=⟨_,rfl⟩
 rw[<-hN]at hC
 have hdd:(trim q).length-1=d:=by omega
 rw[hdd]at hC hk
 have hb:co q d≠0:=by
  have:=nf_top nf_trim hq0
  rw[hdd,co_trim]at this
  exact this
 have hb2:∀j,d<j->co q j=0:=λj hj=>by rw[<-co_trim,co_ge (by omega)]
 refine zes hq (by omega) (by omega) λr1 h1 hr1=>?_
 refine zes (hp.le hr1.hle) (by omega) (by omega) λr2 h2 hr2=>?_
 have len1:=hr1.len
 have len2:=hr2.len
 have eN:maxI 0 (i64.wrap (i64.wrap ((r2.len:Int)-(r1.len:Int))+1))=(N:Int):=by
  rw[len1,len2,w64 (n:=((trim p).length:Int)-((trim q).length:Int)) (by omega),w64 (by omega)]
  unfold maxI
  split<;>omega
 rw[eN]
 have hpl1:=hr1.pl
 obtain⟨D2,hD2,xs,ho2,hq2⟩:=hr2
 refine ho2.call (K1:=λv D'=>OL D2 D' 1 v (List.replicate N 0)) (zanu (by omega) λy h' hy=>hy) λr3 D' h3 _ ho3 hr3=>?_
 obtain⟨D3,hD3,hoR,hoQ,hap⟩:=OD.pair ⟨xs,ho3,hq2⟩ hr3
 have hh1D:h1.le D3:=Hp.le_trans hD2 hD3
 have e0:i64.wrap ((r2.len:Int)-(r1.len:Int))=((trim p).length:Int)-((trim q).length:Int):=by rw[len1,len2,w64 (by omega)]
 rw[e0]
 refine za9 (λst h'=>∃D,h1.le D/\∃n:Nat,(st.1=(n:Int)-1\/(st.1<0/\n=0))/\n<=N/\∃qs rs,qs.length=N/\rs.length=(trim p).length/\OD D h' C r2 rs/\OD D h' (C+B) r3 qs /\
  (∀j,co rs j=restK (co q) d N (co p) (N-n) j)/\(∀j,j<n->co qs j=0)/\(∀j,conv (co qs) (co q) j+co rs j=co p j)/\(∀j,n+d<=j->co rs j=0)) (λst=>(st.1+1).toNat)
  ⟨D3,hh1D,N,?_,Nat.le_refl _,_,_,by simp,rfl,hoR.mono hC2.1,hoQ.mono (by omega),λj=>by rw[Nat.sub_self,co_trim];rfl,λj _=>co_replicate,λj=>?_,λj hj=>?_⟩ ?_
 . simp only;omega
 . rw[conv_comm,conv_congr (g':=co []) (λ_=>rfl) (λ_=>co_replicate),conv_comm,conv_nil,Rat.zero_add,co_trim]
 . rw[co_ge (by omega)]
 rintro⟨st,_⟩ h4 ⟨D,hD,n,hst,hn,qs,rs,lq,lr,oR,oQ,cR,cQ,cc,cz⟩
 simp only at hst
 refine za3 (λh5=>?_) (λh5=>?_)
 . simp only at h5
   have hst':st=(n:Int)-1:=by omega
   subst hst'
   obtain⟨i,rfl⟩:∃i,n=i+1:=⟨n-1,by omega⟩
   have hiN:i<N:=by omega
   have e1:(((i+1:Nat):Int)-1)=(i:Int):=by omega
   simp only[e1]
   have e2:i64.wrap (i64.wrap ((i:Int)+(r1.len:Int))-1)=((i+d:Nat):Int):=by
    rw[len1,w64 (n:=(i:Int)+((trim q).length:Int)) (by omega),w64 (by omega)];omega
   have e3:i64.wrap ((r1.len:Int)-1)=(d:Int):=by rw[len1,w64 (by omega)];omega
   rw[e2,e3]
   have hid:i+d<rs.length:=by omega
   refine oR.get (i+d) rfl hid λu hu bu=>?_
   refine hpl1.getle d (Hp.le_trans hD oR.dle) rfl (by omega) λv hv bv=>?_
   have ev1:(trim q)[d]'(by omega)=co q d:=by rw[<-co_lt (show d<(trim q).length by omega),co_trim]
   have eu1:rs[i+d]=co rs (i+d):=(co_lt hid).symm
   rw[ev1]at hv bv
   rw[eu1]at hu bu
   refine oR.call2 (K1:=λz D'=>NR D' z.1 (co rs (i+d)/co q d)) oQ (zadf hu (hv.le hD) bu bv (by omega) (by omega) (NR.num_ne (y:=v) hb) λz D' _ hz=>hz) λz D1 h6 hl1 oR1 oQ1 hz=>?_
   have bz:BR (C+B) (co rs (i+d)/co q d):=bu.div bv (NR.num_ne (y:=v) hb)
   refine oQ1.set i rfl (by omega) hz bz λh7 oQ2 hfr=>?_
   have oR2:OD D1 h7 C r2 rs:=oR1.stay hap.symm oQ2.dle hfr
   have hfk:∀j,restK (co q) d N (co p) (N-i) j=stepF (co q) d i (co rs) j:=λj=>by
    have e4:N-i=(N-(i+1))+1:=by omega
    have e5:N-1-(N-(i+1))=i:=by omega
    rw[e4,restK,e5]
    unfold stepF
    rw[cR,cR]
   refine za9 (λst h'=>∃D,h1.le D/\∃k:Nat,st.1=(k:Int)/\k<=d+1/\∃rs',rs'.length=rs.length/\OD D h' C r2 rs'/\OD D h' (C+B) r3 (qs.set i (co rs (i+d)/co q d)) /\
    ∀j,co rs' j=if i<=j/\j<i+k then stepF (co q) d i (co rs) j else co rs j) (λst=>(((d+1:Nat):Int)-st.1).toNat)
    ⟨D1,Hp.le_trans hD hl1,0,rfl,Nat.zero_le _,rs,rfl,oR2,oQ2,λj=>by rw[if_neg (by omega)]⟩ ?_
   rintro⟨_,_⟩ h8 ⟨D4,hD4,k,hk1,hk2,rs',lr',oR3,oQ3,cR3⟩
   simp only at hk1
   subst hk1
   refine za3 (λh9=>?_) (λh9=>?_)
   . simp only[len1]at h9
     have hkd:k<=d:=by omega
     refine hpl1.getle k (Hp.le_trans hD4 oR3.dle) rfl (by omega) λw hw bw=>?_
     have ew1:(trim q)[k]'(by omega)=co q k:=by rw[<-co_lt (show k<(trim q).length by omega),co_trim]
     rw[ew1]at hw bw
     have e6:i64.wrap ((i:Int)+(k:Int))=((i+k:Nat):Int):=by rw[w64 (by omega)];omega
     have hik:i+k<rs'.length:=by omega
     refine oR3.get (i+k) e6 hik λt ht bt=>?_
     refine oQ3.get i rfl (by simp;omega) λg hg bg=>?_
     have eg:(qs.set i (co rs (i+d)/co q d))[i]'(by simp;omega)=co rs (i+d)/co q d:=by simp
     rw[eg]at hg bg
     have et:rs'[i+k]=co rs (i+k):=by rw[<-co_lt hik,cR3,if_neg (by omega)]
     rw[et]at ht bt
     refine oR3.call2 (K1:=λz D'=>NR D' z (co rs (i+d)/co q d*co q k)) oQ3 (znc hg (hw.le hD4) bg bw (by omega) (by omega) λz D' _ hz=>hz) λz2 D5 h10 hl5 oR4 oQ4 hz2=>?_
     refine oR4.call2 (K1:=λz D'=>NR D' z (co rs (i+k)-co rs (i+d)/co q d*co q k)) oQ4 (zadg (ht.le hl5) hz2 bt (bg.mul bw) (by omega) (by omega) λz D' _ hz=>hz) λz3 D6 h11 hl6 oR5 oQ5 hz3=>?_
     have es:co rs (i+k)-co rs (i+d)/co q d*co q k=stepF (co q) d i (co rs) (i+k):=by
      unfold stepF
      rw[if_pos (by omega),Nat.add_sub_cancel_left]
     rw[es]at hz3
     have bs:BR C (stepF (co q) d i (co rs) (i+k)):=by rw[<-hfk];exact hC _ _ (by omega)
     refine oR5.set (i+k) e6 hik hz3 bs λh12 oR6 hfr2=>⟨⟨D6,Hp.le_trans hD4 (Hp.le_trans hl5 hl6),k+1,?_,by omega,_,by simpa using lr',oR6,oQ5.stay hap oR6.dle hfr2,λj=>?_⟩,?_⟩
     . simp only;rw[w64 (by omega)];rfl
     . rw[co_set hik]
       by_cases hj:j=i+k
       . subst hj;rw[if_pos rfl,if_pos (by omega)]
       . rw[if_neg hj,cR3]
         by_cases hj2:i<=j/\j<i+k
         . rw[if_pos hj2,if_pos (by omega)]
         . rw[if_neg hj2,if_neg (by omega)]
     . simp only;rw[w64 (by omega)];omega
   . simp only[len1]at h9
     have hkd:k=d+1:=by omega
     subst hkd
     have cR4:∀j,co rs' j=stepF (co q) d i (co rs) j:=λj=>by
      rw[cR3]
      by_cases hj:i<=j/\j<i+(d+1)
      . rw[if_pos hj]
      . rw[if_neg hj]
        unfold stepF
        by_cases hj2:i<=j
        . rw[if_pos hj2,hb2 (j-i) (by omega)];grind
        . rw[if_neg hj2]
     have e7:i64.wrap ((i:Int)-1)=(i:Int)-1:=w64 (by omega)
     refine⟨⟨D4,hD4,i,.inl e7,by omega,_,rs',by simpa using lq,by omega,oR3,oQ3,λj=>by rw[cR4,hfk],λj hj=>?_,λj=>?_,λj hj=>?_⟩,by rw[e7];omega⟩
     . rw[co_set (by omega),if_neg (by omega)]
       exact cQ j (by omega)
     . 
      have e8:conv (co (qs.set i (co rs (i+d)/co q d))) (co q) j=conv (co qs) (co q) j+(if i<=j then co rs (i+d)/co q d*co q (j-i)else 0):=by
       unfold conv
       have e9:∀t,co (qs.set i (co rs (i+d)/co q d)) t=co qs t+(if t=i then co rs (i+d)/co q d else 0):=λt=>by
        rw[co_set (by omega)]
        by_cases ht:t=i
        . subst ht;rw[if_pos rfl,if_pos rfl,cQ t (by omega),Rat.zero_add]
        . rw[if_neg ht,if_neg ht,Rat.add_zero]
       have e10:sm (j+1) (λt=>(if t=i then co rs (i+d)/co q d else 0)*co q (j-t))=if i<=j then co rs (i+d)/co q d*co q (j-i)else 0:=by
        by_cases hij:i<=j
        . rw[if_pos hij,sm_one (k:=i) (by omega) λt _ ht=>by rw[if_neg ht,Rat.zero_mul],if_pos rfl]
        . rw[if_neg hij]
          exact sm_zeros λt ht=>by rw[if_neg (by omega),Rat.zero_mul]
       rw[<-e10,<-sm_add]
       exact sm_congr λt _=>by rw[e9];grind
      rw[e8,cR4]
      unfold stepF
      have:=cc j
      by_cases hij:i<=j
      . rw[if_pos hij,if_pos hij];grind
      . rw[if_neg hij,if_neg hij];grind
     . rw[cR4]
       unfold stepF
       rw[if_pos (by omega)]
       by_cases hj2:j=i+d
       . subst hj2
         rw[Nat.add_sub_cancel_left,Rat.div_mul_cancel hb];grind
       . rw[cz j (by omega),hb2 (j-i) (by omega)];grind
 . simp only at h5
   have hn0:n=0:=by omega
   subst hn0
   refine zes oQ.pl (by omega) (by omega) λy h6 hy=>?_
   refine zes (oR.pl.le hy.hle) (by omega) (by omega) λz h7 hz=>?_
   refine hk _ _ (Hp.le_trans hr1.hle (Hp.le_trans hD (Hp.le_trans oR.dle (Hp.le_trans hy.hle hz.hle)))) ⟨qs,rs,hy.pl.le hz.hle,hz.pl,by omega,by omega,cc,λj hj=>cz j (by omega),λj=>by rw[cR j,<-hN];rfl⟩
theorem zafz(hp:PL h A l p)(hq:PL h B m q)(hlen:p.length<=1000)(hlen2:q.length<=1000)(hB:1<=B/\B<=50000000000)(hq0:trim q≠[])
 (hC:∀k j,k<=(trim p).length+1-(trim q).length->BR C (restK (co q) ((trim q).length-1) ((trim p).length+1-(trim q).length) (co p) k j)) (hC2:A<=C/\C<=50000000000)
 (H:∀y z h' qs rs,h.le h'->PL h' (C+B) y (trim qs)->PL h' C z (trim rs)->qs.length<=1001->rs.length<=1000->(∀j,conv (co qs) (co q) j+co rs j=co p j)->(∀j,(trim q).length-1<=j->co rs j=0)->KK (y,z) h') :
 callP (F.zb9 l m) KK h:=
 zij hp hq hlen hlen2 hB hq0 hC hC2 λy z h' qs rs a1 a2 a3 a4 a5 a6 a7 _=>H y z h' qs rs a1 a2 a3 a4 a5 a6 a7
end
end Den
end

section
namespace Den
open Go Iv Pq
theorem zuk{b f:Nat->Rat}{d N k:Nat}:∀{k':Nat},k<=k'->k'<=N->(∀j,N-k'+d<=j->restK b d N f k j=0)->∀j,restK b d N f k' j=restK b d N f k j
 | 0,h1,_,_,j=>by
                        have:k=0:=by omega
                        subst this;rfl
 | k'+1,h1,h2,hz,j=>by
   by_cases hk:k=k'+1
   . subst hk;rfl
   . have ih:=zuk (b:=b) (f:=f) (d:=d) (N:=N) (k:=k) (k':=k') (by omega) (by omega) λj hj=>hz j (by omega)
     show stepF b d (N-1-k') (restK b d N f k') j=_
     unfold stepF
     rw[ih,ih,hz (N-1-k'+d) (by omega)]
     split
     . grind
     . rfl
section
variable {h : Hp} {A B C : Nat} {l m : Sl} {p q : List Rat} {KK : Sl × Sl → Hp → Prop} {KR : TRat → Hp → Prop} {KQ : Sl × Sl × Int → Hp → Prop} {x y : TRat} {u v : Rat}
theorem za85(hx:NR h x u)(hy:NR h y v)(bu:BR A u)(bv:BR B v)(hA:A<=400000000000)(hB:B<=400000000000)(h0:v≠0)(H:∀z h',h.le h'->NR h' z (u/v)->KR z h'):callP (F.zew x y) KR h:=by
 refine za1 (λz h'=>NR h' z (u/v)) (λK' hk=>?_) λz h' hl hz=>H z h' hl hz
 unfold F.zew
 exact zan9 hx hy bu bv hA hB (NR.num_ne (y:=y) h0) λz h' hl hz=>hk _ _ hl hz
theorem zjo{i j:Nat}{t:Rat}:co (trim (List.replicate i 0++[t])) j=if j=i then t else 0:=by
 rw[co_trim,zajv]
 by_cases h1:j<i
 . rw[if_pos h1,if_neg (by omega)]
 . rw[if_neg h1]
   by_cases h2:j=i
   . subst h2;rw[if_pos rfl,Nat.sub_self];rfl
   . rw[if_neg h2,co_ge (by simp;omega)]
theorem zacy{i j:Nat}{t:Rat}{g:Nat->Rat}:conv (co (trim (List.replicate i 0++[t]))) g j=if i<=j then t*g (j-i)else 0:=by
 unfold conv
 by_cases hij:i<=j
 . rw[if_pos hij,sm_one (k:=i) (by omega) λs _ hs=>by rw[zjo,if_neg hs,Rat.zero_mul],zjo,if_pos rfl]
 . rw[if_neg hij]
   exact sm_zeros λs hs=>by rw[zjo,if_neg (by omega),Rat.zero_mul]
theorem zl1(hp:PL h A l p)(hq:PL h B m q)(hlen:p.length<=900)(hlen2:q.length<=900)(hB:1<=B/\B<=20000000000)(hq0:trim q≠[])
 (hC:∀k j,k<=(trim p).length+1-(trim q).length->BR C (restK (co q) ((trim q).length-1) ((trim p).length+1-(trim q).length) (co p) k j)) (hC2:A<=C/\1<=C/\C<=20000000000)
 (H:∀y z h' qs rs,h.le h'->PL h' (C+B) y qs->nf qs->PL h' C z rs->nf rs->qs.length<=1000->rs.length<=1000->(∀j,conv (co qs) (co q) j+co rs j=co p j)->(∀j,(trim q).length-1<=j->co rs j=0)->(∀j,co rs j=restK (co q) ((trim q).length-1) ((trim p).length+1-(trim q).length) (co p) ((trim p).length+1-(trim q).length) j)->KK (y,z) h') :
 callP (F.zfd l m) KK h:=by
 refine za1 (λyz h'=>∃qs rs,PL h' (C+B) yz.1 qs/\nf qs/\PL h' C yz.2 rs/\nf rs/\qs.length<=1000/\rs.length<=1000/\(∀j,conv (co qs) (co q) j+co rs j=co p j)/\(∀j,(trim q).length-1<=j->co rs j=0)/\(∀j,co rs j=restK (co q) ((trim q).length-1) ((trim p).length+1-(trim q).length) (co p) ((trim p).length+1-(trim q).length) j)) (λK' hk=>?_)
  λyz h' hl ⟨qs,rs,g1,g2,g3,g4,g5,g6,g7,g8,g9⟩=>H yz.1 yz.2 h' qs rs hl g1 g2 g3 g4 g5 g6 g7 g8 g9
 unfold F.zfd
 have tq:=trim_len (p:=q)
 have tp:=trim_len (p:=p)
 have hd0:0<(trim q).length:=List.length_pos_iff.2 hq0
 obtain⟨d,hd⟩:∃d,(trim q).length=d+1:=⟨(trim q).length-1,by omega⟩
 obtain⟨N,hN⟩:∃N,N=(trim p).length+1-(trim q).length:=⟨_,rfl⟩
 rw[<-hN]at hC
 have hdd:(trim q).length-1=d:=by omega
 rw[hdd]at hC hk
 have hb:co q d≠0:=by
  have:=nf_top nf_trim hq0
  rw[hdd,co_trim]at this
  exact this
 have hb2:∀j,d<j->co q j=0:=λj hj=>by rw[<-co_trim,co_ge (by omega)]
 refine zet hq (by omega) (by omega) λr1 h1 hr1=>?_
 refine zet (hp.le hr1.hle) (by omega) (by omega) λr2 h2 hr2=>?_
 have len1:=hr1.len
 have hpl1:=hr1.pl.le hr2.hle
 refine za9 (λst h'=>h2.le h'/\∃qs rs k,PL h' (C+B) st.2.1 qs/\nf qs/\PL h' C st.1 rs/\nf rs/\k<=N/\(∀j,co rs j=restK (co q) d N (co p) k j)/\rs.length<=N-k+d/\(∀j,j<N-k->co qs j=0) /\
  (∀j,conv (co qs) (co q) j+co rs j=co p j)/\rs.length<=(trim p).length/\qs.length<=N) (λst=>st.1.len)
  ⟨Hp.le_refl _,[],trim p,0,PL.nil,nf_nil,hr2.pl.mono hC2.1,nf_trim,Nat.zero_le _,λj=>co_trim,by omega,λj _=>rfl,λj=>by rw[conv_nil,Rat.zero_add,co_trim],Nat.le_refl _,Nat.zero_le _⟩ ?_
 rintro⟨s,w,_⟩ h3 ⟨hl3,qs,rs,k,hQ,nQ,hR,nR,hk1,cR,lR,cQ,cc,lR2,lQ⟩
 simp only at hQ hR
 have lenR:=hR.len
 refine za3 (λh4=>?_) (λh4=>?_)
 . simp only[lenR,len1]at h4
   obtain⟨i,hi⟩:∃i,rs.length=i+d+1:=⟨rs.length-(d+1),by omega⟩
   have hiN:i<N:=by omega
   have hz:∀j,N-(N-1-i)+d<=j->restK (co q) d N (co p) k j=0:=λj hj=>by rw[<-cR,co_ge (by omega)]
   have hskip:=zuk (b:=co q) (f:=co p) (d:=d) (N:=N) (k:=k) (k':=N-1-i) (by omega) (by omega) hz
   have hnew:∀j,restK (co q) d N (co p) (N-i) j=stepF (co q) d i (co rs) j:=λj=>by
    have e4:N-i=(N-1-i)+1:=by omega
    have e5:N-1-(N-1-i)=i:=by omega
    rw[e4,restK,e5]
    unfold stepF
    rw[hskip,hskip,cR,cR]
   have e2:i64.wrap ((s.len:Int)-1)=((i+d:Nat):Int):=by rw[lenR,w64 (by omega)];omega
   have e3:i64.wrap ((r1.len:Int)-1)=(d:Int):=by rw[len1,w64 (by omega)];omega
   have e4:i64.wrap ((s.len:Int)-(r1.len:Int))=(i:Int):=by rw[lenR,len1,w64 (by omega)];omega
   simp only[e2,e3,e4]
   refine hR.get (i+d) rfl (by omega) λu hu bu=>?_
   refine(hpl1.le hl3).get d rfl (by omega) λv hv bv=>?_
   have ev1:(trim q)[d]'(by omega)=co q d:=by rw[<-co_lt (show d<(trim q).length by omega),co_trim]
   have eu1:rs[i+d]'(by omega)=co rs (i+d):=(co_lt (by omega)).symm
   rw[ev1]at hv bv
   rw[eu1]at hu bu
   refine za85 hu hv bu bv (by omega) (by omega) hb λt h5 hl5 ht=>?_
   have bt:BR (C+B) (co rs (i+d)/co q d):=bu.div bv (NR.num_ne (y:=v) hb)
   obtain⟨tt,htt⟩:∃tt,tt=co rs (i+d)/co q d:=⟨_,rfl⟩
   rw[<-htt]at ht bt
   refine za7u (xs:=[t]) 1 rfl λa h6 hl6 ha=>?_
   have hone:PL h6 (C+B) ⟨some a,1,1⟩ [tt]:=PL.one ha (ht.le hl6) bt
   refine za03 hone (by simp;omega) (by omega) λr11 h7 hr11=>?_
   have hl36:=Hp.le_trans hl5 (Hp.le_trans hl6 hr11.hle)
   have lterm:(trim (List.replicate i 0++[tt])).length<=i+1:=by
    have:=trim_len (p:=List.replicate i 0++[tt])
    simpa using this
   refine zul (hQ.le hl36) hr11.pl (by omega) (by omega) (by omega) (by omega) (C:=C+B) (λj=>?_) (by omega) λr12 h8 hr12=>?_
   . rw[zjo]
     by_cases hj:j=i
     . rw[if_pos hj,hj,cQ i (by omega),Rat.zero_add];exact bt
     . rw[if_neg hj,Rat.add_zero]
       exact BR.co hQ.bound (by omega) j
   have hl38:=Hp.le_trans hl36 hr12.hle
   refine zan7 (hr11.pl.le hr12.hle) ((hpl1.le hl3).le hl38) (by omega) (by omega) (by omega) (by omega) (C:=C+B+B) (λk n _=>?_) (by omega) λr13 h9 hl9 hr13=>?_
   . 
    unfold Pq.part
    have bq:=λj=>BR.co (hpl1.bound) hB.1 j
    have hzero:BR (C+B+B) 0:=zgo.mono (by omega)
    by_cases hn:i<=n/\n-i<k
    . rw[sm_one (k:=n-i) hn.2 λs hs hs2=>?_]
      . rw[if_pos (by omega),zjo,if_pos (by omega)]
        exact((bq (n-i)).mul bt).mono (by omega)
      . split
        . rw[zjo,if_neg (by omega),Rat.mul_zero]
        . rfl
    . rw[sm_zeros λs hs=>?_]
      . exact hzero
      . split
        . rw[zjo,if_neg (by omega),Rat.mul_zero]
        . rfl
   rw[if_neg hq0]at hr13
   have hl39:=Hp.le_trans hl38 hl9
   have cM:∀j,co (trim (mulL (trim (List.replicate i 0++[tt])) (trim q))) j=if i<=j then tt*co q (j-i)else 0:=λj=>by
    rw[co_trim,co_mulL,zacy]
    split
    . rw[co_trim]
    . rfl
   have lM:(trim (mulL (trim (List.replicate i 0++[tt])) (trim q))).length<=100000000:=nf_len nf_trim λn hn=>by
    rw[cM]
    split
    . rw[hb2 _ (by omega),Rat.mul_zero]
    . rfl
   have cS:∀j,co rs j-co (trim (mulL (trim (List.replicate i 0++[tt])) (trim q))) j=stepF (co q) d i (co rs) j:=λj=>by
    rw[cM]
    unfold stepF
    rw[<-htt]
    split
    . rfl
    . grind
   refine za88 (hR.le hl39) hr13 (by omega) lM (by omega) (by omega) (C:=C) (λj=>by rw[cS,<-hnew];exact hC _ _ (by omega)) (by omega) λr14 h10 hr14=>?_
   have hl310:=Hp.le_trans hl39 hr14.hle
   have cN:∀j,co (trim (addL rs (negL (trim (mulL (trim (List.replicate i 0++[tt])) (trim q)))))) j=stepF (co q) d i (co rs) j:=λj=>by
    rw[co_trim,co_addL,za34,<-cS];grind
   have lN:(trim (addL rs (negL (trim (mulL (trim (List.replicate i 0++[tt])) (trim q)))))).length<=i+d:=nf_len nf_trim λj hj=>by
    rw[cN]
    unfold stepF
    rw[if_pos (by omega)]
    by_cases hj2:j=i+d
    . subst hj2
      rw[Nat.add_sub_cancel_left,Rat.div_mul_cancel hb];grind
    . rw[co_ge (by omega),hb2 (j-i) (by omega)];grind
   refine⟨⟨Hp.le_trans hl3 hl310,_,_,N-i,(hr12.pl.le (Hp.le_trans hl9 hr14.hle)),nf_trim,hr14.pl,nf_trim,by omega,λj=>by rw[cN,hnew],by omega,λj hj=>?_,λj=>?_,by omega,?_⟩,?_⟩
   . rw[co_trim,co_addL,cQ j (by omega),zjo,if_neg (by omega)];grind
   . rw[cN,<-cS,cM]
     have e6:conv (co (trim (addL qs (trim (List.replicate i 0++[tt]))))) (co q) j=conv (co qs) (co q) j+(if i<=j then tt*co q (j-i)else 0):=by
      rw[<-zacy (g:=co q),conv_comm,conv_comm (f:=co qs),conv_comm (f:=co (trim (List.replicate i 0++[tt]))),<-conv_add]
      exact conv_congr (λ_=>rfl) λn=>by rw[co_trim,co_addL]
     rw[e6]
     have:=cc j
     grind
   . refine nf_len nf_trim λj hj=>?_
     rw[co_trim,co_addL,co_ge (by omega),zjo,if_neg (by omega)];grind
   . have:=hr14.len
     omega
 . simp only[lenR,len1]at h4
   refine hk _ _ (Hp.le_trans hr1.hle (Hp.le_trans hr2.hle hl3)) ⟨qs,rs,hQ,nQ,hR,nR,by omega,by omega,cc,λj hj=>co_ge (by omega),λj=>by rw[<-hN,cR j];exact(zuk (by omega) (Nat.le_refl N) (λj hj=>by rw[<-cR,co_ge (by omega)]) j).symm⟩
theorem zq5(hp:PL h A l p)(hq:PL h B m q)(hlen:p.length<=1000)(hlen2:q.length<=1000)(hB:1<=B/\B<=50000000000)
 (hC:∀k j,trim q≠[]->k<=(trim p).length+1-(trim q).length->BR C (restK (co q) ((trim q).length-1) ((trim p).length+1-(trim q).length) (co p) k j)) (hC2:A<=C/\C<=50000000000)
 (H0:trim q=[]->∀h',h.le h'->KQ (nilS,nilS,6) h')
 (H:trim q≠[]->∀y z h' qs rs,h.le h'->PL h' (C+B) y (trim qs)->PL h' C z (trim rs)->qs.length<=1001->rs.length<=1000->(∀j,conv (co qs) (co q) j+co rs j=co p j)->(∀j,(trim q).length-1<=j->co rs j=0)->(∀j,co rs j=restK (co q) ((trim q).length-1) ((trim p).length+1-(trim q).length) (co p) ((trim p).length+1-(trim q).length) j)->KQ (y,z,0) h') :
 callP (F.zd5 l m) KQ h:=by
 refine za1 (λr h'=>(trim q=[]/\r=(nilS,nilS,6))\/(trim q≠[]/\r.2.2=0/\∃qs rs,PL h' (C+B) r.1 (trim qs)/\PL h' C r.2.1 (trim rs)/\qs.length<=1001/\rs.length<=1000/\(∀j,conv (co qs) (co q) j+co rs j=co p j)/\(∀j,(trim q).length-1<=j->co rs j=0)/\(∀j,co rs j=restK (co q) ((trim q).length-1) ((trim p).length+1-(trim q).length) (co p) ((trim p).length+1-(trim q).length) j))) (λK' hk=>?_)
  λr h' hl hr=>by
   rcases hr with ⟨g1,rfl⟩ | ⟨g1,g2,qs,rs,g3,g4,g5,g6,g7,g8,g9⟩
   . exact H0 g1 h' hl
   . obtain⟨y,z,e⟩:=r
     simp only at g2
     subst g2
     exact H g1 y z h' qs rs hl g3 g4 g5 g6 g7 g8 g9
 unfold F.zd5
 refine zo1 hq (by omega) (by omega) λh1 hl1=>?_
 refine za3 (λh2=>?_) (λh2=>?_)
 . exact hk _ _ hl1 (.inl ⟨List.eq_nil_of_length_eq_zero (by omega),rfl⟩)
 . have hq0:trim q≠[]:=λhh=>by rw[hh]at h2;exact h2 (by decide)
   exact zij (hp.le hl1) (hq.le hl1) hlen hlen2 hB hq0 (λk j hk=>hC k j hq0 hk) hC2 λy z h' qs rs hl g3 g4 g5 g6 g7 g8 g9=>hk _ _ (Hp.le_trans hl1 hl) (.inr ⟨hq0,rfl,qs,rs,g3,g4,g5,g6,g7,g8,g9⟩)
theorem zsn(hp:PL h A l p)(hq:PL h B m q)(hlen:p.length<=1000)(hlen2:q.length<=1000)(hB:1<=B/\B<=50000000000)
 (hC:∀k j,trim q≠[]->k<=(trim p).length+1-(trim q).length->BR C (restK (co q) ((trim q).length-1) ((trim p).length+1-(trim q).length) (co p) k j)) (hC2:A<=C/\C<=50000000000)
 (H0:trim q=[]->∀h',h.le h'->KQ (nilS,nilS,6) h')
 (H:trim q≠[]->∀y z h' qs rs,h.le h'->PL h' (C+B) y (trim qs)->PL h' C z (trim rs)->qs.length<=1001->rs.length<=1000->(∀j,conv (co qs) (co q) j+co rs j=co p j)->(∀j,(trim q).length-1<=j->co rs j=0)->KQ (y,z,0) h') :
 callP (F.zd5 l m) KQ h:=
 zq5 hp hq hlen hlen2 hB hC hC2 H0 λa0 y z h' qs rs a1 a2 a3 a4 a5 a6 a7 _=>H a0 y z h' qs rs a1 a2 a3 a4 a5 a6 a7
end
end Den
end

section
namespace Den
open Go Iv Pq
def lead(p:List Rat):Rat:=co p ((trim p).length-1)
def monQ(p:List Rat):List Rat:=(trim p).map (((((1:Int):Rat))/lead p)*·)
theorem zat4:(((1:Int):Rat))=1:=rfl
theorem zfw{p:List Rat}(h:trim p≠[]):lead p≠0:=by
 have:=nf_top nf_trim h
 rw[co_trim]at this
 exact this
theorem za3a{c:Rat}{p:List Rat}(hc:c≠0)(hp:nf p):nf (p.map (c*·)):=by
 rcases hp with rfl | hp
 . exact .inl rfl
 . right
   rw[List.length_map,zr0]
   intro hh
   rcases Rat.mul_eq_zero.1 hh with h | h
   . exact hc h
   . exact hp h
theorem zafr{a:Rat}(h:a≠0):(((1:Int):Rat))/a≠0:=λhh=>by
 have e:(((1:Int):Rat))=(((1:Int):Rat))/a*a:=(Rat.div_mul_cancel h).symm
 rw[hh,Rat.zero_mul,zat4]at e
 exact absurd e (by decide)
theorem zf4{p:List Rat}:nf (monQ p):=by
 by_cases h:trim p=[]
 . unfold monQ;rw[h];exact .inl rfl
 . exact za3a (zafr (zfw h)) nf_trim
theorem zb7{p:List Rat}:(monQ p).length=(trim p).length:=by unfold monQ;simp
theorem za33{p:List Rat}{i:Nat}:co (monQ p) i=(((1:Int):Rat))/lead p*co p i:=by unfold monQ;rw[zr0,co_trim]
theorem zady{n:Nat}(h:n<4294967296):BR 1 (((n:Int):Rat)):=by
 refine⟨?_,?_⟩
 . unfold Lt
   show(n:Int).natAbs<W ^ 1
   rw[Int.natAbs_natCast,Nat.pow_one,W_eq];exact h
 . unfold Lt
   show((1:Nat):Int).natAbs<W ^ 1
   decide
section
variable {h : Hp} {A B C : Nat} {l m : Sl} {p q : List Rat} {K : Sl → Hp → Prop} {KR : TRat → Hp → Prop} {x y : TRat} {u v : Rat}
theorem zbv(hp:PL h A l p)(hlen:p.length<=100000000)(hA:A<=100000000000)(H:∀y h',h.le h'->PL h' (A+(1+A)) y (monQ p)->K y h'):callP (F.zb5 l) K h:=by
 refine za1 (λy h'=>PL h' (A+(1+A)) y (monQ p)) (λK' hk=>?_) λy h' hl hy=>H y h' hl hy
 unfold F.zb5
 have tp:=trim_len (p:=p)
 refine zes hp (by omega) (by omega) λr1 h1 hr1=>?_
 have len1:=hr1.len
 have hpl:=hr1.pl
 refine zbi (λh2=>?_) (λh2=>?_)
 . have h0:trim p=[]:=List.eq_nil_of_length_eq_zero (by omega)
   refine hk _ _ hr1.hle ?_
   unfold monQ
   rw[h0];exact PL.nil
 . have h0:trim p≠[]:=λhh=>by rw[hh]at len1;exact h2 (by rw[len1];rfl)
   have hpos:0<(trim p).length:=List.length_pos_iff.2 h0
   have e:i64.wrap ((r1.len:Int)-1)=(((trim p).length-1:Nat):Int):=by rw[len1,w64 (by omega)];omega
   refine hpl.get _ e (by omega) λy hy by_=>?_
   have ey:(trim p)[(trim p).length-1]'(by omega)=lead p:=by rw[<-co_lt (show(trim p).length-1<(trim p).length by omega),co_trim];rfl
   rw[ey]at hy by_
   refine zbd (by decide) (by decide) λo h3 hl3 ho=>?_
   refine zadf ho (hy.le hl3) za47 by_ (by omega) (by omega) (NR.num_ne (y:=y) (zfw h0)) λz h4 hl4 hz=>?_
   refine zq4 ((hpl.le hl3).le hl4) hz (za47.div by_ (NR.num_ne (y:=y) (zfw h0))) (by omega) (by omega) (by omega) λw h5 hw=>?_
   rw[trim_nf (za3a (zafr (zfw h0)) nf_trim)]at hw
   exact hk _ _ (Hp.le_trans hr1.hle (Hp.le_trans hl3 (Hp.le_trans hl4 hw.hle))) hw.pl
theorem ziz(hp:PL h A l p)(hlen:p.length<=100000000)(hA:A<=100000000000)(H:∀y h',h.le h'->PL h' (A+(1+A)) y (monQ p)->K y h'):callP (F.zdy l) K h:=by
 refine za1 (λy h'=>PL h' (A+(1+A)) y (monQ p)) (λK' hk=>?_) λy h' hl hy=>H y h' hl hy
 unfold F.zdy
 have tp:=trim_len (p:=p)
 refine zet hp (by omega) (by omega) λr1 h1 hr1=>?_
 have len1:=hr1.len
 have hpl:=hr1.pl
 refine zbi (λh2=>?_) (λh2=>?_)
 . have h0:trim p=[]:=List.eq_nil_of_length_eq_zero (by omega)
   refine hk _ _ hr1.hle ?_
   have e:monQ p=trim p:=by unfold monQ;rw[h0];rfl
   rw[e]
   exact hpl.mono (by omega)
 . have h0:trim p≠[]:=λhh=>by rw[hh]at len1;exact h2 (by rw[len1];rfl)
   have hpos:0<(trim p).length:=List.length_pos_iff.2 h0
   have e:i64.wrap ((r1.len:Int)-1)=(((trim p).length-1:Nat):Int):=by rw[len1,w64 (by omega)];omega
   refine hpl.get _ e (by omega) λy hy by_=>?_
   have ey:(trim p)[(trim p).length-1]'(by omega)=lead p:=by rw[<-co_lt (show(trim p).length-1<(trim p).length by omega),co_trim];rfl
   rw[ey]at hy by_
   refine zbs (by decide) (by decide) λo h3 hl3 ho=>?_
   refine za85 ho (hy.le hl3) za47 by_ (by omega) (by omega) (zfw h0) λz h4 hl4 hz=>?_
   refine zlu ((hpl.le hl3).le hl4) hz (za47.div by_ (NR.num_ne (y:=y) (zfw h0))) (by omega) (by omega) (by omega) λw h5 hw=>?_
   rw[trim_nf (za3a (zafr (zfw h0)) nf_trim)]at hw
   exact hk _ _ (Hp.le_trans hr1.hle (Hp.le_trans hl3 (Hp.le_trans hl4 hw.hle))) hw.pl
def derP(p:List Rat)(n:Nat):List Rat:=(List.range n).map λi=>co p (i+1)*(((i+1:Nat):Int):Rat)
def derL(p:List Rat):List Rat:=derP p (p.length-1)
theorem zafh{i:Nat}:co (derL p) i=der (co p) i:=by
 unfold derL derP der
 rw[zn2]
 split
 . rw[Rat.mul_comm];rfl
 . rw[co_ge (by omega),Rat.mul_zero]
theorem zad0{n:Nat}(hn:n+1<p.length):derP p (n+1)=derP p n++[p[n+1]*(((n+1:Nat):Int):Rat)]:=by
 unfold derP
 rw[List.range_succ,List.map_append]
 simp only[List.map_cons,List.map_nil]
 rw[co_lt hn]
theorem zf5(hp:PL h A l p)(hlen:p.length<=100000000)(hA:A<=100000000000)(H:∀y h',OL h h' (A+1) y (trim (derL p))->K y h'):callP (F.zbx l) K h:=by
 refine za1 (λy h'=>OL h h' (A+1) y (trim (derL p))) (λK' hk=>?_) λy h' _ hy=>H y h' hy
 unfold F.zbx
 have hl:=hp.len
 refine za9 (λst h'=>∃D,h.le D/\∃i:Nat,st.2.1=(i:Int)/\i<=p.length/\OD D h' (A+1) st.1 (derP p (i-1))) (λst=>(p.length-st.2.1).toNat)
  ⟨h,Hp.le_refl _,0,rfl,Nat.zero_le _,OD.nil⟩ ?_
 rintro⟨s,_,_⟩ h1 ⟨D,hD,i,hi,hi2,ho⟩
 simp only at hi ho
 subst hi
 refine za3 (λh3=>?_) (λh3=>?_)
 . have hi':i<p.length:=by simp only at h3;omega
   refine za8 (λs' h'=>∃D,h.le D/\OD D h' (A+1) s'.1 (derP p i)) ?_ ?_
   . rintro⟨s',_⟩ h4 ⟨D',hD',ho'⟩
     refine⟨⟨D',hD',i+1,?_,hi',ho'⟩,?_⟩
     . simp only;rw[w64 (by omega)];rfl
     . simp only;rw[w64 (by omega)];omega
   . refine hp.getle i (Hp.le_trans hD ho.dle) rfl hi' λy hy by_=>?_
     refine za3 (λh4=>?_) (λh4=>?_)
     . simp only at h4
       obtain⟨j,rfl⟩:∃j,i=j+1:=⟨i-1,by omega⟩
       refine ho.call (K1:=λz D'=>NR D' z ((((j+1:Nat):Int)):Rat)) (zbd (by simp only;omega) (by simp only;omega) λz D' _ hz=>hz) λz D1 h5 hl1 ho1 hz=>?_
       refine ho1.call (K1:=λz D'=>NR D' z (p[j+1]*((((j+1:Nat):Int)):Rat))) (znc ((hy.le hD).le hl1) hz by_ (zady (by omega)) (by omega) (by omega) λz D' _ hz=>hz) λz2 D2 h6 hl2 ho2 hz2=>?_
       refine ho2.app (by unfold derP;simp;omega) hz2 (by_.mul (zady (by omega))) λw h7 hw=>⟨D2,Hp.le_trans hD (Hp.le_trans hl1 hl2),?_⟩
       rw[zad0 hi']
       exact hw
     . simp only at h4
       have:i=0:=by omega
       subst this
       exact⟨D,hD,ho⟩
 . have hi':i=p.length:=by simp only at h3;omega
   subst hi'
   refine zes ho.pl (by unfold derP;simp;omega) (by omega) λy h' hy=>hk _ _ (Hp.le_trans hD (Hp.le_trans ho.dle hy.hle)) (hy.base (Hp.le_trans hD ho.dle))
theorem zne(hp:PL h A l p)(hlen:p.length<=100000000)(hA:A<=100000000000)(H:∀y h',OL h h' (A+1) y (trim (derL p))->K y h'):callP (F.zdu l) K h:=by
 refine za1 (λy h'=>OL h h' (A+1) y (trim (derL p))) (λK' hk=>?_) λy h' _ hy=>H y h' hy
 unfold F.zdu
 have hl:=hp.len
 refine za9 (λst h'=>∃D,h.le D/\∃i:Nat,st.2.1=((i+1:Nat):Int)/\i<=p.length-1/\OD D h' (A+1) st.1 (derP p i)) (λst=>(p.length-st.2.1).toNat)
  ⟨h,Hp.le_refl _,0,rfl,Nat.zero_le _,OD.nil⟩ ?_
 rintro⟨s,_,_⟩ h1 ⟨D,hD,i,hi,hi2,ho⟩
 simp only at hi ho
 subst hi
 refine za3 (λh3=>?_) (λh3=>?_)
 . have hi':i+1<p.length:=by simp only at h3;omega
   refine hp.getle (i+1) (Hp.le_trans hD ho.dle) rfl hi' λy hy by_=>?_
   refine ho.call (K1:=λz D'=>NR D' z ((((i+1:Nat):Int)):Rat)) (zbs (by simp only;omega) (by simp only;omega) λz D' _ hz=>hz) λz D1 h5 hl1 ho1 hz=>?_
   refine ho1.call (K1:=λz D'=>NR D' z (p[i+1]*((((i+1:Nat):Int)):Rat))) (zof ((hy.le hD).le hl1) hz by_ (zady (by omega)) (by omega) (by omega) λz D' _ hz=>hz) λz2 D2 h6 hl2 ho2 hz2=>?_
   refine ho2.app (by unfold derP;simp;omega) hz2 (by_.mul (zady (by omega))) λw h7 hw=>⟨⟨D2,Hp.le_trans hD (Hp.le_trans hl1 hl2),i+1,?_,by omega,?_⟩,?_⟩
   . simp only;rw[w64 (by omega)];rfl
   . rw[zad0 hi'];exact hw
   . simp only;rw[w64 (by omega)];omega
 . have hi':i=p.length-1:=by simp only at h3;omega
   subst hi'
   refine zet ho.pl (by unfold derP;simp;omega) (by omega) λy h' hy=>hk _ _ (Hp.le_trans hD (Hp.le_trans ho.dle hy.hle)) (hy.base (Hp.le_trans hD ho.dle))
def absQ(x:Rat):Rat:=if x<0 then -x else x
def mxS(m x:Rat):Rat:=if m<absQ x then absQ x else m
def bndQ(p:List Rat):Rat:=if (monQ p).length<2 then (((0:Int):Rat))else ((monQ p).take ((monQ p).length-1)).foldl mxS (((0:Int):Rat))+(((1:Int):Rat))
theorem zaqd(hv:BR B v):BR B (absQ v):=by
 unfold absQ;split
 . exact hv.neg
 . exact hv
theorem mx_BR(hu:BR B u)(hv:BR B v):BR B (mxS u v):=by
 unfold mxS;split
 . exact zaqd hv
 . exact hu
theorem za0a{f:Rat->Rat->Rat}{q:Rat}{l:List Rat}{i:Nat}(hi:i<l.length):(l.take (i+1)).foldl f q=f ((l.take i).foldl f q) l[i]:=zg6 hi
theorem zal8{v:Rat}:v.num.sign<0↔v<0:=by
 rw[Int.sign_neg_iff];exact zamw
theorem zakk(hp:PL h A l p)(hlen:p.length<=100000000)(hA:A<=50000000000)(H:∀z h',h.le h'->NR h' z (bndQ p)->KR z h'):callP (F.zf6 l) KR h:=by
 refine za1 (λz h'=>NR h' z (bndQ p)) (λK' hk=>?_) λz h' hl hz=>H z h' hl hz
 unfold F.zf6
 refine zbv hp hlen (by omega) λr1 h1 hl1 hr1=>?_
 obtain⟨M,hM⟩:∃M,M=monQ p:=⟨_,rfl⟩
 have hb:bndQ p=if M.length<2 then (((0:Int):Rat))else (M.take (M.length-1)).foldl mxS (((0:Int):Rat))+(((1:Int):Rat)):=by rw[hM];rfl
 rw[hb]at hk
 rw[<-hM]at hr1
 have len1:=hr1.len
 have hcap:=hr1.cap
 have lM:M.length<=100000000:=by rw[hM,zb7];exact Nat.le_trans trim_len hlen
 refine za3 (λh2=>?_) (λh2=>?_)
 . refine zbd (by decide) (by decide) λz h3 hl3 hz=>hk _ _ (Hp.le_trans hl1 hl3) ?_
   rw[if_pos (by omega)];exact hz
 . rw[if_neg (by omega)]at hk
   refine zbd (by decide) (by decide) λz h3 hl3 hz=>?_
   have e:i64.wrap ((r1.len:Int)-1)=((M.length-1:Nat):Int):=by rw[len1,w64 (by omega)];omega
   refine za8d 0 (M.length-1) rfl e (Nat.zero_le _) (by omega) ?_
   have hcut:=(hr1.le hl3).cut (n:=M.length-1) (by omega)
   have lc:(r1.cut 0 (M.length-1) 4).len=M.length-1:=rfl
   obtain⟨T,hT⟩:∃T,T=M.take (M.length-1):=⟨_,rfl⟩
   rw[<-hT]at hcut hk
   have lT:T.length=M.length-1:=by rw[hT,List.length_take];omega
   have bT:=hcut.bound
   have b0:BR (A+(1+A)) (((0:Int):Rat)):=zgo.mono (by omega)
   have bF:∀i,BR (A+(1+A)) ((T.take i).foldl mxS (((0:Int):Rat))):=λi=>by
    have key:∀(L:List Rat) (m:Rat),BR (A+(1+A)) m->(∀v∈L,BR (A+(1+A)) v)->BR (A+(1+A)) (L.foldl mxS m):=by
     intro L
     induction L with
     | nil=>intro m hm _;exact hm
     | cons a L ih=>intro m hm hL;exact ih _ (mx_BR hm (hL a (by simp))) λv hv=>hL v (by simp[hv])
    exact key _ _ b0 λv hv=>bT v (List.mem_of_mem_take hv)
   refine za9 (λst h'=>h3.le h'/\∃i:Nat,st.2.1=(i:Int)/\i<=T.length/\NR h' (q4 st.1) ((T.take i).foldl mxS (((0:Int):Rat)))) (λst=>(T.length-st.2.1).toNat)
    ⟨Hp.le_refl _,0,rfl,Nat.zero_le _,hz⟩ ?_
   rintro⟨s,_,_⟩ h4 ⟨hl4,i,hi,hi2,hs⟩
   simp only at hi hs
   subst hi
   refine za3 (λh5=>?_) (λh5=>?_)
   . have hi':i<T.length:=by simp only[lc]at h5;omega
     refine za8 (λs' h'=>h4.le h'/\NR h' (q4 s'.1) ((T.take (i+1)).foldl mxS (((0:Int):Rat)))) ?_ ?_
     . rintro⟨s',_⟩ h6 ⟨hl6,hs'⟩
       refine⟨⟨Hp.le_trans hl4 hl6,i+1,?_,hi',hs'⟩,?_⟩
       . simp only;rw[w64 (by omega)];rfl
       . simp only;rw[w64 (by omega)];omega
     . refine(hcut.le hl4).get i rfl hi' λy hy by_=>?_
       refine za8 (λs' h'=>h4.le h'/\NR h' (q4 s'.1) (absQ T[i])) ?_ ?_
       . rintro⟨⟨s1,s2,s3,s4,_⟩,_⟩ h6 ⟨hl6,hs'⟩
         refine zi4 hs' (hs.le hl6) (zaqd by_) (bF i) (by omega) (by omega) λh7 hl7=>?_
         refine za3 (λh8=>⟨Hp.le_trans hl6 hl7,?_⟩) (λh8=>⟨Hp.le_trans hl6 hl7,?_⟩)
         . rw[za0a hi',mxS,if_pos (zqz.1 h8)];exact hs'.le hl7
         . rw[za0a hi',mxS,if_neg (λhh=>h8 (zqz.2 hh))];exact(hs.le hl6).le hl7
       . refine zi5 hy by_ (by omega) ?_
         refine za3 (λh6=>?_) (λh6=>⟨Hp.le_refl _,?_⟩)
         . refine zz5 hy by_ (by omega) λw h7 hl7 hw=>⟨hl7,?_⟩
           have:absQ T[i]=- T[i]:=by unfold absQ;rw[if_pos (zal8.1 h6)]
           rw[this];exact hw
         . have:absQ T[i]=T[i]:=by unfold absQ;rw[if_neg (λhh=>h6 (zal8.2 hh))]
           rw[this];exact hy
   . have hi':i=T.length:=by simp only[lc]at h5;omega
     subst hi'
     rw[List.take_length]at hs
     have bL:=bF T.length
     rw[List.take_length]at bL
     refine zbd (by decide) (by decide) λo h6 hl6 ho=>?_
     refine zga (hs.le hl6) ho bL za47 (by omega) (by omega) λw h7 hl7 hw=>hk _ _ (Hp.le_trans hl1 (Hp.le_trans hl3 (Hp.le_trans hl4 (Hp.le_trans hl6 hl7)))) hw
end
end Den
end

section
namespace Den
open Go Iv Pq
theorem NI.ai{h:Hp}{a:TInt}{n:Int}(hn:NI h a n):AI h a:=⟨_,hn.1,ok_dg _⟩
theorem NR.ar{h:Hp}{x:TRat}{q:Rat}(hx:NR h x q):AR h x:=⟨hx.1.ai,hx.2.ai⟩
theorem NR.lens{h:Hp}{x:TRat}{q:Rat}{B:Nat}(hx:NR h x q)(hb:BR B q):x.num.mag.len<=B/\x.den.mag.len<=B:=by
 have e1:=hx.1.1.len
 have e2:=hx.2.1.len
 have e3:=zbm.2 hb.1
 have e4:=zbm.2 hb.2
 omega
section
variable {h : Hp} {A B : Nat} {l m : Sl} {p q : List Rat} {K : Sl → Hp → Prop} {Kb : Bool → Hp → Prop} {x : TRat}
def slc(s:Sl):Value:=.slice s.a s.len s.cap
end
end Den
end

section
namespace Den
open Go Iv Go.Proofs
open Go.ChangeShapes Go.WideShapes Go.ChangeAt Go.RowKit
section
variable {H : Type} {enc : TypeId × Value → H} {w : World} {s : Sl}
theorem by_R:Tryz.prog.bytesOf 39=64:=by kernel_rfl
end
end Den
end

section
namespace Den
open Go Iv Pq
def nc(x:TInt):List Value:=[.bool x.neg,.slice x.mag.a x.mag.len x.mag.cap]
section
variable {D h h' : Hp} {A B : Nat} {l m : Sl} {us vs : List Int} {K : Sl → Hp → Prop}
end
abbrev t2(s:Bool×Sl×Unit):TInt:=⟨s.1,s.2.1⟩
end Den
end

section
namespace Den
open Go Iv Pq
theorem zarb{p:List Rat}(h:trim p≠[]):∃hn:(monQ p).length-1<(monQ p).length,(monQ p)[(monQ p).length-1]=1:=by
 have hpos:0<(trim p).length:=List.length_pos_iff.2 h
 have hl:=zb7 (p:=p)
 refine⟨by omega,?_⟩
 rw[<-co_lt (show(monQ p).length-1<(monQ p).length by omega),za33,hl]
 show(((1:Int):Rat))/lead p*lead p=1
 rw[Rat.div_mul_cancel (zfw h)];rfl
section
variable {h : Hp} {A : Nat} {l : Sl} {p : List Rat} {K : Sl → Hp → Prop}
end
end Den
end

section
namespace Den
open Go Iv Pq
section
variable {h h0 : Hp} {A B : Nat} {l m : Sl} {p : List Rat} {K : Sl → Hp → Prop} {Kb : Bool → Hp → Prop} {us vs : List Int}
end
end Den
end

section
namespace Den
open Go Iv Pq
section
variable {h h0 : Hp} {A B C : Nat} {l m : Sl} {p q : List Rat} {K : Sl → Hp → Prop} {Kb : Bool → Hp → Prop} {f g : Nat → Rat}
theorem PL.re(hp:PL h B l p)(hb:∀v∈p,BR C v):PL h C l p:=by
 obtain⟨xs,h1,h2,h3⟩:=hp
 exact⟨xs,h1,⟨h2.1,λk g1 g2=>⟨(h2.2 k g1 g2).1,hb _ (List.getElem_mem g2)⟩⟩,h3⟩
def gB(A B:Nat):Nat->Nat
 | 0=>A
 | k+1=>2*gB A B k+2*B+1
theorem zao4{A B k:Nat}:gB A B (k+1)=2*gB A B k+2*B+1:=rfl
theorem zao3{A B:Nat}:∀{k j:Nat},k<=j->gB A B k<=gB A B j
 | k,0,h=>by
                 have:k=0:=by omega
                 subst this;exact Nat.le_refl _
 | k,j+1,h=>by
   by_cases hk:k=j+1
   . subst hk;exact Nat.le_refl _
   . have:=zao3 (A:=A) (B:=B) (k:=k) (j:=j) (by omega)
     rw[zao4];omega
theorem zaky{b:Nat->Rat}{d N:Nat}(hf:∀j,BR A (f j))(hb:∀j,BR B (b j))(h0:b d≠0):∀{k j:Nat},BR (gB A B k) (restK b d N f k j)
 | 0,j=>hf j
 | k+1,j=>by
   have ih:=λj=>zaky (N:=N) hf hb h0 (k:=k) (j:=j)
   show BR (gB A B (k+1)) (stepF b d (N-1-k) (restK b d N f k) j)
   rw[zao4]
   unfold stepF
   split
   . have h1:=((ih (N-1-k+d)).div (hb d) (NR.num_ne (y:=zT) h0)).mul (hb (j-(N-1-k)))
     exact((ih j).sub h1).mono (by omega)
   . exact(ih j).mono (by omega)
theorem zau6{n:Nat}:conv f g n=Pq.part f g (n+1) n:=by
 unfold conv Pq.part
 exact sm_congr λi hi=>(if_pos (by omega)).symm
theorem zz0{q' r' qs rs:List Rat}(hq0:trim q≠[])(hc:∀j,conv (co qs) (co q) j+co rs j=co p j)(hz:∀j,(trim q).length-1<=j->co rs j=0)(hlen:qs.length<=1001)(hlen2:q'.length<=1001)
 (hk:trim (addL (mulL q' q) r')=trim p) (hr:r'.length<=(trim q).length-1):trim qs=trim q'/\trim rs=trim r':=by
 have hb:co q ((trim q).length-1)≠0:=zfw hq0
 have hpos:0<(trim q).length:=List.length_pos_iff.2 hq0
 have:=div_unique (q:=co qs) (q':=co q') (b:=co q) (r:=co rs) (r':=co r') (d:=(trim q).length-1) (n:=1001) hb (λi hi=>by rw[<-co_trim,co_ge (by omega)]) (λi hi=>co_ge (by omega)) (λi hi=>co_ge (by omega)) hz (λi hi=>co_ge (by omega)) λi=>by
  rw[hc]
  have e:co (trim (addL (mulL q' q) r')) i=co (trim p) i:=by rw[hk]
  rw[co_trim,co_trim,co_addL,co_mulL]at e
  exact e.symm
 exact⟨zat this.1,zat this.2⟩
end
end Den
end

section
namespace Den
open Go Iv Pq
section
variable {h h0 : Hp} {A B C : Nat} {l m : Sl} {p q : List Rat} {K : Sl → Hp → Prop} {Kb : Bool → Hp → Prop} {us : List Int}
theorem br1{p:List Rat}(h:(p.all λv=>decide (v.num.natAbs<4294967296/\v.den<4294967296))=true):∀v∈p,BR 1 v:=λv hv=>by
 have:=of_decide_eq_true (List.all_eq_true.1 h v hv)
 refine⟨?_,?_⟩
 . unfold Lt;rw[Nat.pow_one,W_eq];exact this.1
 . unfold Lt;rw[Nat.pow_one,W_eq,Int.natAbs_natCast];exact this.2
theorem PL.re1(hp:PL h B l p)(hq:p=q)(hb:(q.all λv=>decide (v.num.natAbs<4294967296/\v.den<4294967296))=true):PL h 1 l q:=by
 subst hq;exact hp.re (br1 hb)
def icel(n:Int):Value:=.int .i64 n
theorem zag7{k j N:Nat}(hp:PL h 1 l p)(hq:PL h 1 m q)(hq0:trim q≠[])(hk:k<=8):BR 2000 (restK (co q) ((trim q).length-1) N (co p) k j):=
 (zaky (λj=>BR.co hp.bound (by decide) j) (λj=>BR.co hq.bound (by decide) j) (zfw hq0)).mono (Nat.le_trans (zao3 hk) (by decide))
theorem zue{KK:Sl×Sl->Hp->Prop}(q' r':List Rat)(hp:PL h 1 l p)(hq:PL h 1 m q)(hlen:p.length<=7)(hlen2:q.length<=7)(hq0:trim q≠[])(hk:trim (addL (mulL q' q) r')=trim p)(hr:r'.length<=(trim q).length-1)(hql:q'.length<=7)
 (hb:((trim q').all λv=>decide (v.num.natAbs<4294967296/\v.den<4294967296))=true) (hb2:((trim r').all λv=>decide (v.num.natAbs<4294967296/\v.den<4294967296))=true)
 (H:∀y z h',h.le h'->PL h' 1 y (trim q')->PL h' 1 z (trim r')->KK (y,z) h'):callP (F.zb9 l m) KK h:=by
 have tp:=trim_len (p:=p)
 refine zafz hp hq (by omega) (by omega) (by decide) hq0 (C:=2000) (λk j hk=>zag7 hp hq hq0 (by omega)) (by decide) λy z h' qs rs hl hy hz lq lr hc hz2=>?_
 obtain⟨e1,e2⟩:=zz0 hq0 hc hz2 lq (by omega) hk hr
 exact H y z h' hl (hy.re1 e1 hb) (hz.re1 e2 hb2)
end
end Den
end

section
namespace Den
open Go Iv Pq
section
variable {h : Hp} {Kb : Bool → Hp → Prop}
theorem zaox{l m:Sl}{p q:List Rat}(hp:PL h 1 l p)(hq:PL h 1 m q)(he:p=q)(hlen:p.length<=100)(H:∀h',h.le h'->Kb true h'):callP (F.zj1 l m) Kb h:=by
 subst he
 exact zag8 hp hq (by omega) (by omega) (by decide) (by decide) λh' hl=>by
  rw[decide_eq_true (p:=p.length=p.length/\trim p=trim p) ⟨rfl,rfl⟩];exact H h' hl
end
end Den
end

section
namespace Den
open Go Iv Pq
def chS(st:Nat×Int)(v:Rat):Nat×Int:=if v.num.sign=0 then st else if st.2=- v.num.sign then (st.1+1,v.num.sign)else (st.1,v.num.sign)
def chF(ps:List (List Rat))(c:Rat):Nat×Int:=ps.foldl (λst p=>chS st (ev p c)) (0,0)
def chN(ps:List (List Rat))(c:Rat):Nat:=(chF ps c).1
theorem za71{ps:List (List Rat)}{p:List Rat}{c:Rat}:chF (ps++[p]) c=chS (chF ps c) (ev p c):=by unfold chF;rw[List.foldl_append];rfl
theorem zk0{ps:List (List Rat)}{c:Rat}:(chF ps c).1<=ps.length/\-1<=(chF ps c).2/\(chF ps c).2<=1:=by
 have key:∀(qs:List (List Rat)) (st:Nat×Int),(-1<=st.2/\st.2<=1)->(qs.foldl (λst p=>chS st (ev p c)) st).1<=st.1+qs.length/\-1<=(qs.foldl (λst p=>chS st (ev p c)) st).2/\(qs.foldl (λst p=>chS st (ev p c)) st).2<=1:=by
  intro qs
  induction qs with
  | nil=>intro st h;exact⟨Nat.le_refl _,h⟩
  | cons q qs ih=>
    intro st h
    have hs:-1<=(ev q c).num.sign/\(ev q c).num.sign<=1:=by
     rcases Int.lt_trichotomy (ev q c).num 0 with h1 | h1 | h1
     . rw[Int.sign_eq_neg_one_of_neg h1];omega
     . rw[h1];decide
     . rw[Int.sign_eq_one_of_pos h1];omega
    have h2:(chS st (ev q c)).1<=st.1+1/\-1<=(chS st (ev q c)).2/\(chS st (ev q c)).2<=1:=by
     unfold chS
     split
     . omega
     . split<;>(simp only;omega)
    have h3:=ih (chS st (ev q c)) h2.2
    simp only[List.foldl_cons,List.length_cons]
    omega
 have:=key ps (0,0) (by decide)
 unfold chF
 omega
def QQL(h:Hp)(B:Nat)(l:Sl)(ps:List (List Rat)):Prop:=∃ss:List Sl,Rd h 1 l (ss.map slc)/\ss.length=ps.length/\∀k (h1:k<ss.length) (h2:k<ps.length),PL h B ss[k] ps[k]
theorem QQL.le{h h':Hp}{B:Nat}{l:Sl}{ps:List (List Rat)}(hq:QQL h B l ps)(hl:h.le h'):QQL h' B l ps:=by
 obtain⟨ss,h1,h2,h3⟩:=hq
 exact⟨ss,h1.le hl,h2,λk g1 g2=>(h3 k g1 g2).le hl⟩
theorem QQL.len{h:Hp}{B:Nat}{l:Sl}{ps:List (List Rat)}(hq:QQL h B l ps):l.len=ps.length:=by
 obtain⟨ss,h1,h2,h3⟩:=hq
 have:=h1.1
 simp at this;omega
section
variable {h : Hp} {A B C : Nat} {l m : Sl} {p q : List Rat} {ps : List (List Rat)} {K : Sl → Hp → Prop} {Ki : Int → Hp → Prop} {Kb : Bool → Hp → Prop} {c : Rat} {x : TRat}
theorem QQL.get{i:Int}{K:Sl->Prop}(k:Nat)(hq:QQL h B l ps)(hi:i=k)(hk:k<ps.length)(H:∀s,PL h B s ps[k]->K s):idxP l i 1 λa=>ldL .sl a (λx=>K x) h:=by
 obtain⟨ss,h1,h2,h3⟩:=hq
 have hk':k<ss.length:=by omega
 refine zag5 k h1 hi (v:=slc ss[k]) (by rw[List.getElem?_map,List.getElem?_eq_getElem hk'];rfl) λa hc=>⟨ss[k],hc,H _ (h3 k hk' hk)⟩
theorem zag4{v:Rat}:-1<=v.num.sign/\v.num.sign<=1:=by
 rcases Int.lt_trichotomy v.num 0 with h1 | h1 | h1
 . rw[Int.sign_eq_neg_one_of_neg h1];omega
 . rw[h1];decide
 . rw[Int.sign_eq_one_of_pos h1];omega
theorem zmk(hq:QQL h B l ps)(hx:NR h x c)(bc:BR A c)(hlen:ps.length<=1000)(hB:B<=100000000000)(hA:A<=100000000000)(hpl:∀p∈ps,p.length<=1000)(hC:∀p∈ps,∀i,BR C (ev (p.drop i) c))(hC2:C<=200000000000)(H:∀h',h.le h'->Ki (chN ps c:Int) h'):callP (F.zde l x) Ki h:=by
 refine za1 (λv h'=>v=(chN ps c:Int)) (λK' hk=>?_) λv h' hl hv=>by subst hv;exact H h' hl
 unfold F.zde
 have hl:=hq.len
 refine za9 (λst h'=>h.le h'/\∃i:Nat,st.2.2.1=(i:Int)/\i<=ps.length/\st.1=((chF (ps.take i) c).1:Int)/\st.2.1=(chF (ps.take i) c).2) (λst=>(ps.length-st.2.2.1).toNat)
  ⟨Hp.le_refl _,0,rfl,Nat.zero_le _,rfl,rfl⟩ ?_
 rintro⟨n,t,_,_⟩ h1 ⟨hl1,i,hi,hi2,hn,ht⟩
 simp only at hi hn ht
 subst hi hn ht
 refine za3 (λh2=>?_) (λh2=>?_)
 . simp only at h2
   have hi':i<ps.length:=by omega
   have hb:=zk0 (ps:=ps.take i) (c:=c)
   have hlt:(ps.take i).length=i:=by rw[List.length_take];omega
   refine za8 (λs h'=>h1.le h'/\s.1=((chF (ps.take (i+1)) c).1:Int)/\s.2.1=(chF (ps.take (i+1)) c).2) ?_ ?_
   . rintro⟨s1,s2,_⟩ h3 ⟨hl3,e1,e2⟩
     refine⟨⟨Hp.le_trans hl1 hl3,i+1,?_,hi',e1,e2⟩,?_⟩
     . simp only;rw[w64 (by omega)];rfl
     . simp only;rw[w64 (by omega)];omega
   . refine(hq.le hl1).get i rfl hi' λs hs=>?_
     have hm:=List.getElem_mem hi'
     refine zamy hs (hx.le hl1) bc (by have:=hpl _ hm;omega) hB hA (hC _ hm) hC2 λz h3 hl3 hz=>?_
     have bz:BR C (ev ps[i] c):=by have:=hC _ hm 0;rwa [List.drop_zero]at this
     refine zi5 hz bz (by omega) ?_
     have hsr:=zag4 (v:=ev ps[i] c)
     have en:i64.wrap (0-(ev ps[i] c).num.sign)=- (ev ps[i] c).num.sign:=by rw[w64 (by omega)];omega
     have estep:chF (ps.take (i+1)) c=chS (chF (ps.take i) c) (ev ps[i] c):=by rw[List.take_succ_eq_append_getElem hi',za71]
     rw[estep,en]
     refine zbi (λh4=>⟨hl3,?_,?_⟩) (λh4=>zbi (λh5=>⟨hl3,?_,?_⟩) (λh5=>⟨hl3,?_,?_⟩))
     . unfold chS;rw[if_pos h4]
     . unfold chS;rw[if_pos h4]
     . unfold chS;rw[if_neg h4,if_pos h5];simp only;rw[w64 (by omega)];rfl
     . unfold chS;rw[if_neg h4,if_pos h5]
     . unfold chS;rw[if_neg h4,if_neg h5]
     . unfold chS;rw[if_neg h4,if_neg h5]
 . simp only at h2
   have hi':i=ps.length:=by omega
   subst hi'
   refine hk _ _ hl1 ?_
   rw[List.take_length];rfl
theorem zso(hq:QQL h B l ps)(hx:NR h x c)(bc:BR A c)(hlen:ps.length<=1000)(hB:B<=100000000000)(hA:A<=100000000000)(hpl:∀p∈ps,p.length<=1000)(hC:∀p∈ps,∀i,BR C (ev (p.drop i) c))(hC2:C<=200000000000)(H:∀h',h.le h'->Ki (chN ps c:Int) h'):callP (F.zfs l x) Ki h:=by
 refine za1 (λv h'=>v=(chN ps c:Int)) (λK' hk=>?_) λv h' hl hv=>by subst hv;exact H h' hl
 unfold F.zfs
 have hl:=hq.len
 refine za9 (λst h'=>h.le h'/\∃i:Nat,st.2.2.1=(i:Int)/\i<=ps.length/\st.1=((chF (ps.take i) c).1:Int)/\st.2.1=(chF (ps.take i) c).2) (λst=>(ps.length-st.2.2.1).toNat)
  ⟨Hp.le_refl _,0,rfl,Nat.zero_le _,rfl,rfl⟩ ?_
 rintro⟨n,t,_,_⟩ h1 ⟨hl1,i,hi,hi2,hn,ht⟩
 simp only at hi hn ht
 subst hi hn ht
 refine za3 (λh2=>?_) (λh2=>?_)
 . simp only at h2
   have hi':i<ps.length:=by omega
   have hb:=zk0 (ps:=ps.take i) (c:=c)
   have hlt:(ps.take i).length=i:=by rw[List.length_take];omega
   refine za8 (λs h'=>h1.le h'/\s.1=((chF (ps.take (i+1)) c).1:Int)/\s.2.1=(chF (ps.take (i+1)) c).2) ?_ ?_
   . rintro⟨s1,s2,_⟩ h3 ⟨hl3,e1,e2⟩
     refine⟨⟨Hp.le_trans hl1 hl3,i+1,?_,hi',e1,e2⟩,?_⟩
     . simp only;rw[w64 (by omega)];rfl
     . simp only;rw[w64 (by omega)];omega
   . refine(hq.le hl1).get i rfl hi' λs hs=>?_
     have hm:=List.getElem_mem hi'
     refine zakz hs (hx.le hl1) bc (by have:=hpl _ hm;omega) hB hA (hC _ hm) hC2 λz h3 hl3 hz=>?_
     have bz:BR C (ev ps[i] c):=by have:=hC _ hm 0;rwa [List.drop_zero]at this
     refine zm0 hz bz (by omega) ?_
     have en:i64.wrap (0-(chF (ps.take i) c).2)=- (chF (ps.take i) c).2:=by rw[w64 (by omega)];omega
     have estep:chF (ps.take (i+1)) c=chS (chF (ps.take i) c) (ev ps[i] c):=by rw[List.take_succ_eq_append_getElem hi',za71]
     rw[estep,en]
     refine znz (λh4=>zbi (λh5=>⟨hl3,?_,?_⟩) (λh5=>⟨hl3,?_,?_⟩)) (λh4=>⟨hl3,?_,?_⟩)
     . unfold chS;rw[if_neg h4,if_pos (by omega)];simp only;rw[w64 (by omega)];rfl
     . unfold chS;rw[if_neg h4,if_pos (by omega)]
     . unfold chS;rw[if_neg h4,if_neg (by omega)]
     . unfold chS;rw[if_neg h4,if_neg (by omega)]
     . unfold chS;rw[if_pos h4]
     . unfold chS;rw[if_pos h4]
 . simp only at h2
   have hi':i=ps.length:=by omega
   subst hi'
   refine hk _ _ hl1 ?_
   rw[List.take_length];rfl
theorem znb{cells:List Value}{n:Nat}(zs:List Int)(ps:List Rat)(hc:cells=zs.map icel)(hn:zs.length=n)(hz:(zs.all λz=>decide (z.natAbs<4294967296))=true)(hps:zs.map (λz=>((z:Int):Rat))=ps)(hlen:n<=1000)(H:∀y h',h.le h'->PL h' 1 y ps->K y h') :
 newP cells (λa h1=>callP (F.zeq ⟨some a,n,n⟩) K h1) h:=by
 subst hc hps
 refine zf3 (n:=n) (size:=1) (by simp[hn]) λb h1 hb ho=>?_
 refine za1 (λy h'=>PL h' 1 y (zs.map λz=>((z:Int):Rat))) (λK' hk=>?_) λy h' hl hy=>H y h' (Hp.le_trans ho.1 hl) hy
 unfold F.zeq
 have hr:=ho.rd
 refine za9 (λst h'=>∃D,h1.le D/\∃i:Nat,st.2.1=(i:Int)/\i<=zs.length/\OD D h' 1 st.1 ((zs.take i).map λz=>((z:Int):Rat))) (λst=>(zs.length-st.2.1).toNat)
  ⟨h1,Hp.le_refl _,0,rfl,Nat.zero_le _,OD.nil⟩ ?_
 rintro⟨s,_,_⟩ h2 ⟨D,hD,i,hi,hi2,ho2⟩
 simp only at hi ho2
 subst hi
 refine za3 (λh3=>?_) (λh3=>?_)
 . simp only at h3
   have hi':i<zs.length:=by omega
   refine zag5 i (hr.le (Hp.le_trans hD ho2.dle)) rfl (v:=icel zs[i]) (by rw[List.getElem?_map,List.getElem?_eq_getElem hi'];rfl) λa hc=>⟨zs[i],hc,?_⟩
   have hbz:=of_decide_eq_true (List.all_eq_true.1 hz _ (List.getElem_mem hi'))
   have bq:BR 1 (((zs[i]:Int):Rat)):=by
    refine⟨?_,?_⟩
    . unfold Lt
      show(zs[i]).natAbs<W ^ 1
      rw[Nat.pow_one,W_eq];exact hbz
    . unfold Lt
      show((1:Nat):Int).natAbs<W ^ 1
      decide
   refine ho2.call (K1:=λz D'=>NR D' z (((zs[i]:Int):Rat))) (zbs (by omega) (by omega) λz D' _ hz=>hz) λz D1 h5 hl1 ho1 hz1=>?_
   refine ho1.app (by simp;omega) hz1 bq λw h7 hw=>⟨⟨D1,Hp.le_trans hD hl1,i+1,?_,hi',?_⟩,?_⟩
   . simp only;rw[w64 (by omega)];rfl
   . rw[List.take_succ_eq_append_getElem hi',List.map_append];exact hw
   . simp only;rw[w64 (by omega)];omega
 . simp only at h3
   have hi':i=zs.length:=by omega
   subst hi'
   rw[List.take_length]at ho2
   exact hk _ _ (Hp.le_trans hD ho2.dle) ho2.pl
theorem zanf{qs:List (List Rat)}(hp:QQL h 1 l ps)(hq:QQL h 1 m qs)(he:ps=qs)(hlen:ps.length<=1000)(hpl:∀p∈ps,p.length<=100)(H:∀h',h.le h'->Kb true h'):callP (F.zob l m) Kb h:=by
 subst he
 refine za1 (λb h'=>b=true) (λK' hk=>?_) λb h' hl hb=>by subst hb;exact H h' hl
 unfold F.zob
 have hl:=hp.len
 have hl2:=hq.len
 refine znz (λh1=>absurd (by rw[hl,hl2]) h1) (λ_=>?_)
 refine za9 (λst h'=>h.le h'/\∃i:Nat,st.1=(i:Int)/\i<=ps.length) (λst=>(ps.length-st.1).toNat) ⟨Hp.le_refl _,0,rfl,Nat.zero_le _⟩ ?_
 rintro⟨_,_⟩ h2 ⟨hl2',i,hi,hi2⟩
 simp only at hi
 subst hi
 refine za3 (λh3=>?_) (λh3=>hk _ _ hl2' rfl)
 simp only at h3
 have hi':i<ps.length:=by omega
 refine(hp.le hl2').get i rfl hi' λs hs=>(hq.le hl2').get i rfl hi' λt ht=>?_
 refine zaox hs ht rfl (hpl _ (List.getElem_mem hi')) λh4 hl4=>zab rfl ⟨⟨Hp.le_trans hl2' hl4,i+1,?_,hi'⟩,?_⟩
 . simp only;rw[w64 (by omega)];rfl
 . simp only;rw[w64 (by omega)];omega
end
end Den
end

section
namespace Den
open Go Iv Pq
def b1(p:List Rat):Bool:=p.all λv=>decide (v.num.natAbs<4294967296/\v.den<4294967296)
def sqfOk(P M D E q1 r1 c1 q2 Q W:List Rat):Bool:=
 decide (monQ P=M)&&decide (trim (derL M)=D)&&decide (monQ D=E)&&decide (trim (addL (mulL q1 E) r1)=trim M)&&decide (monQ (trim r1)=c1)&&decide (trim (mulL q2 c1)=trim E)&&decide (trim (mulL Q c1)=trim M)&&decide (monQ (trim Q)=W)
  && decide (P.length<=7)&&decide (M.length<=7)&&decide (D.length<=7)&&decide (E.length<=7)&&decide (c1.length<=7)&&decide (q1.length<=7)&&decide (q2.length<=7)&&decide (Q.length<=7)&&decide (r1.length<=(trim E).length-1)&&decide (r1.length<=7)
  && decide (trim E≠[])&&decide (trim c1≠[])&&decide (0<M.length)&&decide (E.length<=M.length)&&decide (c1.length<E.length)&&decide (0<c1.length)
  && b1 M&&b1 D&&b1 E&&b1 c1&&b1 W&&b1 (trim q1)&&b1 (trim r1)&&b1 (trim q2)&&b1 (trim Q)
section
variable {h : Hp} {A B C : Nat} {l m : Sl} {p q : List Rat} {ps : List (List Rat)} {K : Sl → Hp → Prop} {Ki : Int → Hp → Prop} {Kb : Bool → Hp → Prop} {c : Rat} {x : TRat}
theorem tlenz{p:List Rat}{i:Nat}(hp:p.length<=i):(trim p).length<=i:=Nat.le_trans trim_len hp
theorem za5l{p:List Rat}:trim (addL p [])=trim p:=zat λi=>by rw[co_addL,co_nil,Rat.add_zero]
theorem zatd{P M D E q1 r1 c1 q2 Q W:List Rat}(hok:sqfOk P M D E q1 r1 c1 q2 Q W=true)(hp:PL h 1 l P)(H:∀y h',h.le h'->PL h' 1 y W->K y h'):callP (F.zbb l) K h:=by
 unfold sqfOk at hok
 simp only[Bool.and_eq_true,decide_eq_true_eq]at hok
 obtain⟨⟨⟨⟨⟨⟨⟨⟨⟨⟨⟨⟨⟨⟨⟨⟨⟨⟨⟨⟨⟨⟨⟨⟨⟨⟨⟨⟨⟨⟨⟨⟨e1,e2⟩,e3⟩,e4⟩,e5⟩,e6⟩,e7⟩,e8⟩,f1⟩,f2⟩,f3⟩,f4⟩,f5⟩,f6⟩,f7⟩,f8⟩,f9⟩,f10⟩,g1⟩,g2⟩,g3⟩,g4⟩,g5⟩,g6⟩,k1⟩,k2⟩,k3⟩,k4⟩,k5⟩,k6⟩,k7⟩,k8⟩,k9⟩:=hok
 refine za1 (λy h'=>PL h' 1 y W) (λK' hk=>?_) λy h' hl hy=>H y h' hl hy
 unfold F.zbb
 refine zbv hp (by omega) (by decide) λs1 h1 hl1 hr1=>?_
 have hr1:=hr1.re1 e1 k1
 refine zbi (λh2=>absurd h2 (by rw[hr1.len];omega)) (λh2=>?_)
 refine zf5 hr1 (by omega) (by decide) λs2 h3 hr2=>?_
 have hl3:=hr2.hle
 have hr2:=hr2.pl.re1 e2 k2
 have hgcd:∀{K3:Sl->Hp->Prop},(∀y h',h3.le h'->PL h' 1 y c1->K3 y h')->callP (F.zdq s1 s2) K3 h3:=by
  intro K3 H3
  refine za1 (λy h'=>PL h' 1 y c1) (λK4 hk4=>?_) λy h' hl hy=>H3 y h' hl hy
  unfold F.zdq
  refine zbv (hr1.le hl3) (by omega) (by decide) λa h4 hl4 ha=>?_
  have ha:PL h4 (1+(1+1)) a (monQ M):=ha
  have eM:monQ M=M:=by
   have hl:=zf4 (p:=P)
   rw[e1]at hl
   have hM0:M≠[]:=List.length_pos_iff.1 g3
   have hP0:trim P≠[]:=λhh=>by
    have:=zb7 (p:=P)
    rw[e1,hh]at this
    exact hM0 (List.eq_nil_of_length_eq_zero this)
   have hlead:lead M=1:=by
    unfold lead
    rw[trim_nf hl]
    obtain⟨hn,e⟩:=zarb hP0
    simp only[e1]at hn e
    rw[co_lt hn,e]
   unfold monQ
   rw[trim_nf hl,hlead]
   have:(λx:Rat=>(((1:Int):Rat))/1*x)=id:=by
    funext x
    have:(((1:Int):Rat))/1=1:=by decide +kernel
    rw[this];exact Rat.one_mul x
   rw[this,List.map_id]
  have ha:=ha.re1 eM k1
  refine zbv (hr2.le hl4) (by omega) (by decide) λb h5 hl5 hb=>?_
  have hb:=hb.re1 e3 k3
  refine za9 (λst h'=>h3.le h'/\∃x y,PL h' 1 st.1 x/\PL h' 1 st.2.1 y/\((x=M/\y=E)\/(x=E/\y=c1)\/(x=c1/\y=[]))) (λst=>st.2.1.len)
   ⟨Hp.le_trans hl4 hl5,_,_,ha.le hl5,hb,.inl ⟨rfl,rfl⟩⟩ ?_
  rintro⟨s,t,_⟩ h6 ⟨hl6,x,y,hx,hy,hxy⟩
  simp only at hx hy
  have ly:=hy.len
  refine za3 (λh7=>?_) (λh7=>?_)
  . rcases hxy with ⟨rfl,rfl⟩ | ⟨rfl,rfl⟩ | ⟨rfl,rfl⟩
    . refine zue q1 r1 hx hy f2 f4 g1 e4 f9 f6 k6 k7 λu v h8 hl8 hu hv=>?_
      refine zbv hv (tlenz (by omega)) (by decide) λw h9 hl9 hw=>?_
      have hw:=hw.re1 e5 k4
      exact⟨⟨Hp.le_trans hl6 (Hp.le_trans hl8 hl9),_,_,(hy.le hl8).le hl9,hw,.inr (.inl ⟨rfl,rfl⟩)⟩,by rw[hw.len,ly];exact g5⟩
    . refine zue q2 [] hx hy f4 f5 g2 (by rw[za5l];exact e6) (Nat.zero_le _) f7 k8 (by decide) λu v h8 hl8 hu hv=>?_
      refine zbv hv (by decide) (by decide) λw h9 hl9 hw=>?_
      have hw:=hw.re1 (q:=[]) (by decide +kernel) (by decide)
      exact⟨⟨Hp.le_trans hl6 (Hp.le_trans hl8 hl9),_,_,(hy.le hl8).le hl9,hw,.inr (.inr ⟨rfl,rfl⟩)⟩,by rw[hw.len,ly];exact g6⟩
    . rw[ly]at h7;exact absurd h7 (by decide)
  . rcases hxy with ⟨rfl,rfl⟩ | ⟨rfl,rfl⟩ | ⟨rfl,rfl⟩
    . exact absurd (by rw[ly];omega) h7
    . exact absurd (by rw[ly];omega) h7
    . exact hk4 _ _ hl6 hx
 refine hgcd λs3 h4 hl4 hr3=>?_
 refine zue Q [] ((hr1.le hl3).le hl4) hr3 f2 f5 g2 (by rw[za5l];exact e7) (Nat.zero_le _) f8 k9 (by decide) λu v h5 hl5 hu hv=>?_
 refine zbv hu (tlenz (by omega)) (by decide) λw h6 hl6 hw=>?_
 exact hk _ _ (Hp.le_trans hl1 (Hp.le_trans hl3 (Hp.le_trans hl4 (Hp.le_trans hl5 hl6)))) (hw.re1 e8 k5)
def chainOk(P W E q1 r1 c q2:List Rat):Bool:=
 decide (2<=(trim P).length)&&decide (trim (derL W)=E)&&decide (trim (addL (mulL q1 E) r1)=trim W)&&decide (trim ((trim r1).map ((((-1:Int):Rat))*·))=c)&&decide (trim (mulL q2 c)=trim E)
  && decide (P.length<=7)&&decide (W.length<=7)&&decide (E.length<=7)&&decide (c.length<=7)&&decide (q1.length<=7)&&decide (q2.length<=7)&&decide (r1.length<=(trim E).length-1)&&decide (r1.length<=7)&&decide (trim E≠[])&&decide (trim c≠[])&&decide (trim r1≠[])&&decide (c.length<E.length)
  && b1 E&&b1 c&&b1 (trim q1)&&b1 (trim r1)&&b1 (trim q2)
theorem zacx{P M D E0 q10 r10 c10 q20 Q W E q1 r1 c q2:List Rat}(hok:sqfOk P M D E0 q10 r10 c10 q20 Q W=true)(hok2:chainOk P W E q1 r1 c q2=true)(hp:PL h 1 l P)(H:∀y h',h.le h'->QQL h' 1 y [W,E,c]->K y h'):callP (F.zdz l) K h:=by
 unfold chainOk at hok2
 simp only[Bool.and_eq_true,decide_eq_true_eq]at hok2
 obtain⟨⟨⟨⟨⟨⟨⟨⟨⟨⟨⟨⟨⟨⟨⟨⟨⟨⟨⟨⟨⟨e1,e2⟩,e3⟩,e4⟩,e5⟩,f1⟩,f2⟩,f3⟩,f4⟩,f5⟩,f6⟩,f7⟩,f8⟩,g1⟩,g2⟩,g3⟩,g4⟩,k1⟩,k2⟩,k3⟩,k4⟩,k5⟩:=hok2
 refine za1 (λy h'=>QQL h' 1 y [W,E,c]) (λK' hk=>?_) λy h' hl hy=>H y h' hl hy
 unfold F.zdz
 refine zo1 hp (by omega) (by decide) λh1 hl1=>?_
 refine zab (decide_eq_false (by omega)) ?_
 refine zatd hok (hp.le hl1) λr2 h2 hl2 hr2=>?_
 refine zf5 hr2 (by omega) (by decide) λr3 h3 hr3=>?_
 have hl3:=hr3.hle
 have hr3:=hr3.pl.re1 e2 k1
 have hr2:=hr2.le hl3
 refine zf3 (n:=2) (size:=1) rfl λb4 h4 hb4 ho=>?_
 refine za9 (λst h'=>∃Dh,h3.le Dh/\((∃ss:List Sl,ss=[r2,r3]/\st.1=r2/\st.2.1=r3/\Own Dh h' 1 st.2.2.1 (ss.map slc))\/(∃r11,PL Dh 1 r11 c/\st.1=r3/\st.2.1=r11/\Own Dh h' 1 st.2.2.1 ([r2,r3,r11].map slc)))) (λst=>st.2.1.len)
  ⟨h3,Hp.le_refl _,.inl ⟨_,rfl,rfl,rfl,ho⟩⟩ ?_
 rintro⟨s,t,w,_⟩ h5 ⟨Dh,hD,hcase⟩
 rcases hcase with ⟨ss,rfl,es,et,ho5⟩ | ⟨r11,hr11,es,et,ho5⟩
 . simp only at es et ho5
   subst es et
   refine ho5.call (K1:=λr D'=>r.2.2=0/\PL D' 1 r.2.1 (trim r1)) (zsn (hr2.le hD) (hr3.le hD) (by omega) (by omega) (by decide) (C:=2000) (λk j hq0 hk=>zag7 (hr2.le hD) (hr3.le hD) hq0 (by have:=tlenz f2;have:0<(trim E).length:=List.length_pos_iff.2 hq0;omega)) (by decide) (λhh=>absurd hh g1) λhq0 y z h' qs rs hl hy hz lq lr hc hz2=>⟨rfl,?_⟩) λr D1 h6 hl6 ho6 ⟨er,hz⟩=>?_
   . obtain⟨_,d2⟩:=zz0 (q':=q1) (r':=r1) hq0 hc hz2 lq (by omega) e3 f7
     exact hz.re1 d2 k4
   refine za8 (λ_ h'=>h'=h6) ?_ ?_
   . rintro _ h7 rfl
     refine ho6.call (K1:=λv D'=>NR D' v (((-1:Int):Rat))) (zbd (by decide) (by decide) λv D' _ hv=>hv) λv D2 h8 hl8 ho8 hv=>?_
     refine ho8.call (K1:=λu D'=>PL D' 1 u c) (zq4 (hz.le hl8) hv BR_m1 (Nat.le_trans (tlenz f8) (by decide)) (by decide) (by decide) λu D' hu=>hu.pl.re1 e4 k2) λu D3 h9 hl9 ho9 hu=>?_
     have hlw:=ho9.2.1
     simp at hlw
     refine znt ho9 (n:=1) (new:=[slc u]) rfl rfl rfl (by simp only;omega) (by simp only;omega) λy h10 hy _=>⟨⟨D3,Hp.le_trans hD (Hp.le_trans hl6 (Hp.le_trans hl8 hl9)),.inr ⟨u,hu,rfl,rfl,hy⟩⟩,?_⟩
     rw[hu.len,hr3.len];exact g4
   . have ez:r.2.1.len=(trim r1).length:=hz.len
     have:0<(trim r1).length:=List.length_pos_iff.2 g3
     rw[er]
     refine zab rfl (zbi (λh7=>by omega) (λh7=>rfl))
 . simp only at es et ho5
   subst es et
   refine ho5.call (K1:=λr D'=>r.2.2=0/\PL D' 1 r.2.1 []) (zsn (hr3.le hD) hr11 (by omega) (by omega) (by decide) (C:=2000) (λk j hq0 hk=>zag7 (hr3.le hD) hr11 hq0 (by have:=tlenz f3;have:0<(trim c).length:=List.length_pos_iff.2 hq0;omega)) (by decide) (λhh=>absurd hh g2) λhq0 y z h' qs rs hl hy hz lq lr hc hz2=>⟨rfl,?_⟩) λr D1 h6 hl6 ho6 ⟨er,hz⟩=>?_
   . obtain⟨_,d2⟩:=zz0 (q':=q2) (r':=[]) hq0 hc hz2 lq (by omega) (by rw[za5l];exact e5) (Nat.zero_le _)
     exact hz.re1 d2 (by decide)
   refine za8 (λ_ _=>False) (λ_ _ hh=>hh.elim) ?_
   rw[er]
   refine zab rfl (zac (by rw[hz.len];rfl) ?_)
   refine hk _ _ (Hp.le_trans hl1 (Hp.le_trans hl2 (Hp.le_trans hl3 (Hp.le_trans hD (Hp.le_trans hl6 ho6.1))))) ⟨[r2,s,t],ho6.rd,rfl,λk g1 g2=>?_⟩
   have hd6:=Hp.le_trans hl6 ho6.1
   match k,g1 with
   | 0,_=>exact(hr2.le hD).le hd6
   | 1,_=>exact(hr3.le hD).le hd6
   | 2,_=>exact hr11.le hd6
theorem sqf_x:sqfOk [-2,0,1] [-2,0,1] [0,2] [0,1] [0,1] [-2] [1] [0,1] [-2,0,1] [-2,0,1]=true:=by decide +kernel
theorem zasw:chainOk [-2,0,1] [-2,0,1] [0,2] [0,(1:Rat)/2] [-2] [2] [0,1]=true:=by decide +kernel
theorem sqf_y:sqfOk [3,-5,1,1] [3,-5,1,1] [-5,2,3] [-5/3,(2:Rat)/3,1] [(1:Rat)/3,1] [(32:Rat)/9,-32/9] [-1,1] [(5:Rat)/3,1] [-3,2,1] [-3,2,1]=true:=by decide +kernel
theorem zasx:chainOk [3,-5,1,1] [-3,2,1] [2,2] [(1:Rat)/2,(1:Rat)/2] [-4] [4] [(1:Rat)/2,(1:Rat)/2]=true:=by decide +kernel
end
end Den
end

section
namespace Den
open Go Iv Pq
theorem zati{h:Hp}{v w:Value}{K:Addr->Hp->Prop}(hw:([w]:List Value).all Value.leaf=true)(H:∀p h',h.le h'->h'.cell p=some w->K p h'):newP [v] (λp h1=>stP p [w] (λh2=>K p h2) h1) h:=by
 refine zf3 (n:=1) (size:=1) rfl λb h1 hb ho=>?_
 have key:=(zas5 (i:=0) (vs:=[w]) (K:=λh2=>K ⟨b,0,none⟩ h2) 0 ho rfl Nat.one_pos rfl (by decide) hw λh' ho'=>H _ h' ho'.1 ?_).2.2
 . exact key
 . have h2:=ho'.rd.2
   have e:splice [v] (0*1) [w]=[w]:=rfl
   rw[e]at h2
   have h3:cellsAt h' (⟨b,0,none⟩:Addr) 1=some [w]:=h2
   simp only[cellsAt]at h3
   split at h3
   . rename_i l e1
     have e2:l=w:=by simpa using h3
     rw[<-e2,<-e1];rfl
   . simp at h3
theorem b1_BR{c:Rat}(h:b1 [c]=true):BR 1 c:=by
 have h3:=of_decide_eq_true (List.all_eq_true.1 h c (by simp))
 refine⟨?_,?_⟩
 . unfold Lt;rw[Nat.pow_one,W_eq];exact h3.1
 . unfold Lt;rw[Nat.pow_one,W_eq];show((c).den:Int).natAbs<4294967296;omega
def small1(ps:List (List Rat))(c:Rat):Bool:=ps.all λp=>decide (p.length<=7)&&b1 ((List.range 8).map λi=>ev (p.drop i) c)
theorem zadj{ps:List (List Rat)}{c:Rat}(h:small1 ps c=true):(∀p∈ps,p.length<=1000)/\∀p∈ps,∀i,BR 1 (ev (p.drop i) c):=by
 have key:∀p∈ps,p.length<=7/\∀i,i<8->BR 1 (ev (p.drop i) c):=by
  intro p hp
  have h1:=List.all_eq_true.1 h p hp
  rw[Bool.and_eq_true,decide_eq_true_eq]at h1
  refine⟨h1.1,λi hi=>?_⟩
  have h2:=List.all_eq_true.1 h1.2 (ev (p.drop i) c) (List.mem_map.2 ⟨i,List.mem_range.2 hi,rfl⟩)
  have h3:=of_decide_eq_true h2
  refine⟨?_,?_⟩
  . unfold Lt;rw[Nat.pow_one,W_eq];exact h3.1
  . unfold Lt;rw[Nat.pow_one,W_eq];show((ev (p.drop i) c).den:Int).natAbs<4294967296;omega
 refine⟨λp hp=>Nat.le_trans (key p hp).1 (by decide),λp hp i=>?_⟩
 rcases Nat.lt_or_ge i 8 with hi | hi
 . exact(key p hp).2 i hi
 . have:=(key p hp).2 7 (by decide)
   have e:∀j,p.length<=j->p.drop j=[]:=λj hj=>List.drop_of_length_le hj
   rw[e 7 (key p hp).1]at this
   rw[e i (Nat.le_trans (key p hp).1 (by omega))];exact this
section
variable {h : Hp} {A B C : Nat} {l m : Sl} {p q : List Rat} {ps : List (List Rat)} {K : Sl → Hp → Prop} {Ki : Int → Hp → Prop} {Kb : Bool → Hp → Prop} {c : Rat} {x : TRat}
theorem zpi{n:Nat}(hq:QQL h 1 l ps)(hx:NR h x c)(bc:b1 [c]=true)(hlen:ps.length<=1000)(hs:small1 ps c=true)(hn:chN ps c=n)(H:∀h',h.le h'->Ki (n:Int) h'):callP (F.zde l x) Ki h:=
 zmk hq hx (b1_BR bc) hlen (by decide) (by decide) (zadj hs).1 (zadj hs).2 (by decide) λh' hl=>by rw[hn];exact H h' hl
theorem zzj{a:Addr}{i:Int}{n:Nat}(hc:h.cell a=some (slc l))(hq:QQL h 1 l ps)(hi:-9223372036854775808<=i/\i<=9223372036854775807)(bi:b1 [(i:Rat)]=true)(hlen:ps.length<=1000)(hs:small1 ps (i:Rat)=true)(hn:chN ps (i:Rat)=n)(H:∀h',h.le h'->Ki (n:Int) h'):callP (F.zfr i (some a)) Ki h:=by
 refine za1 (λv h'=>v=(n:Int)) (λK' hk=>?_) λv h' hl hv=>by subst hv;exact H h' hl
 unfold F.zfr
 refine⟨l,hc,?_⟩
 refine zbs hi.1 hi.2 λy h1 hl1 hy=>?_
 exact zpi (hq.le hl1) hy bi hlen hs hn λh2 hl2=>hk _ _ (Hp.le_trans hl1 hl2) rfl
theorem zaq0{P M D E0 q10 r10 c10 q20 Q W E q1 r1 c q2:List Rat}{b:Rat}{n1 n2:Nat}(hok:sqfOk P M D E0 q10 r10 c10 q20 Q W=true)(hok2:chainOk P W E q1 r1 c q2=true)(hb:bndQ P=b)(bb:b1 [b]=true)(bb2:b1 [-b]=true)(hpos:cmpQ (-b) b=-1)(hlen:P.length<=7)
 (hs1:small1 [W,E,c] (-b)=true) (hs2:small1 [W,E,c] b=true) (hn1:chN [W,E,c] (-b)=n1) (hn2:chN [W,E,c] b=n2) (hn:n2<=n1) (hbig:n1<=1000)
 (hp:PL h 1 l P) (H:∀h',h.le h'->Ki ((n1-n2:Nat):Int) h'):callP (F.zm4 l) Ki h:=by
 refine za1 (λv h'=>v=((n1-n2:Nat):Int)) (λK' hk=>?_) λv h' hl hv=>by subst hv;exact H h' hl
 unfold F.zm4
 refine za1 (λv h'=>NR h' v.low (-b)/\NR h' v.high b) (λK1 hk1=>?_) λv h1 hl1 ⟨hv1,hv2⟩=>?_
 . unfold F.zoj
   refine zakk hp (by omega) (by decide) λr1 h1 hl1 hr1=>?_
   rw[hb]at hr1
   refine zz5 hr1 (b1_BR bb) (by decide) λr2 h2 hl2 hr2=>hk1 _ _ (Hp.le_trans hl1 hl2) ⟨hr2,hr1.le hl2⟩
 . refine za1 (λv h'=>v=((n1-n2:Nat):Int)) (λK1 hk1=>?_) λv h' hl hv=>hk _ _ (Hp.le_trans hl1 hl) hv
   unfold F.zqe
   refine zi4 hv1 hv2 (b1_BR bb2) (b1_BR bb) (by decide) (by decide) λh2 hl2=>?_
   rw[hpos]
   refine zab rfl ?_
   refine zacx hok hok2 (hp.le (Hp.le_trans hl1 hl2)) λy h3 hl3 hy=>?_
   have hl23:=Hp.le_trans hl2 hl3
   refine za1 (λv h'=>v=((n1-n2:Nat):Int)) (λK2 hk2=>?_) λv h' hl hv=>hk1 _ _ (Hp.le_trans hl23 hl) hv
   unfold F.zdf
   refine zpi hy (hv1.le hl23) bb2 (Nat.le_of_ble_eq_true rfl) hs1 hn1 λh4 hl4=>?_
   refine zpi (hy.le hl4) ((hv2.le hl23).le hl4) bb (Nat.le_of_ble_eq_true rfl) hs2 hn2 λh5 hl5=>hk2 _ _ (Hp.le_trans hl4 hl5) ?_
   rw[w64 (by omega)];omega
theorem zen(H:∀h',h.le h'->Kb true h'):callP F.zc7 Kb h:=by
 refine za1 (λb h'=>b=true) (λK' hk=>?_) λb h' hl hb=>by subst hb;exact H h' hl
 unfold F.zc7
 refine znb [-2,0,1] [-2,0,1] rfl rfl (by decide) (by decide +kernel) (by decide) λr2 h2 hl2 hr2=>?_
 refine zacx sqf_x zasw hr2 λr3 h3 hl3 hr3=>?_
 refine zati rfl λa h4 hl4 hc4=>?_
 refine⟨r3,hc4,?_⟩
 refine znb [-2,0,1] [-2,0,1] rfl rfl (by decide) (by decide +kernel) (by decide) λr7 h7 hl7 hr7=>?_
 refine znb [0,2] [0,2] rfl rfl (by decide) (by decide +kernel) (by decide) λr9 h9 hl9 hr9=>?_
 refine znb [2] [2] rfl rfl (by decide) (by decide +kernel) (by decide) λr11 h11 hl11 hr11=>?_
 refine zf3 (n:=3) (size:=1) rfl λb h12 hb ho=>?_
 have l4:h4.le h12:=Hp.le_trans hl7 (Hp.le_trans hl9 (Hp.le_trans hl11 ho.1))
 have hq:QQL h12 1 r3 [[-2,0,1],[0,2],[2]]:=(hr3.le hl4).le l4
 have hl2':PL h12 1 r7 [-2,0,1]:=((hr7.le hl9).le hl11).le ho.1
 have hl3':PL h12 1 r9 [0,2]:=(hr9.le hl11).le ho.1
 have hl4':PL h12 1 r11 [2]:=hr11.le ho.1
 have hq2:QQL h12 1 ⟨some ⟨b,0,none⟩,3,3⟩ [[-2,0,1],[0,2],[2]]:=⟨[r7,r9,r11],ho.rd,rfl,λk g1 g2=>by
  match k,g1 with
  | 0,_=>exact hl2'
  | 1,_=>exact hl3'
  | 2,_=>exact hl4'⟩
 have hc12:h12.cell a=some (slc r3):=Hp.cell_le l4 hc4
 refine zanf hq hq2 rfl (by decide) (by decide) λh13 hl13=>zac rfl ?_
 refine zzj (n:=1) (Hp.cell_le hl13 hc12) (hq.le hl13) (by decide) (by decide +kernel) (by decide) (by decide +kernel) (by decide +kernel) λh14 hl14=>zac rfl ?_
 have l14:=Hp.le_trans hl13 hl14
 refine zzj (n:=0) (Hp.cell_le l14 hc12) (hq.le l14) (by decide) (by decide +kernel) (by decide) (by decide +kernel) (by decide +kernel) λh15 hl15=>zac rfl ?_
 refine znb [3,-5,1,1] [3,-5,1,1] rfl rfl (by decide) (by decide +kernel) (by decide) λr17 h17 hl17 hr17=>?_
 refine zaq0 (n1:=2) (n2:=0) (b:=6) sqf_y zasx (by decide +kernel) (by decide +kernel) (by decide +kernel) (by decide +kernel) (by decide) (by decide +kernel) (by decide +kernel) (by decide +kernel) (by decide +kernel) (by decide) (by decide) hr17 λh18 hl18=>?_
 exact hk _ _ (Hp.le_trans hl2 (Hp.le_trans hl3 (Hp.le_trans hl4 (Hp.le_trans l4 (Hp.le_trans l14 (Hp.le_trans hl15 (Hp.le_trans hl17 hl18))))))) rfl
def ARX(h:Hp)(x:TRat):Prop:=AR h x/\x.num.mag.len<=35184372087808/\x.den.mag.len<=35184372087808
def AQX(h:Hp)(l:Sl):Prop:=∃xs,RdQ h l xs/\(∀x∈xs,ARX h x)/\l.len<=l.cap/\l.len<=35184372088832
theorem ARX.le{h h':Hp}{x:TRat}(ha:ARX h x)(hl:h.le h'):ARX h' x:=⟨ha.1.le hl,ha.2⟩
theorem AQX.le{h h':Hp}{l:Sl}(ha:AQX h l)(hl:h.le h'):AQX h' l:=by
 obtain⟨xs,h1,h2,h3⟩:=ha
 exact⟨xs,h1.le hl,λx hx=>(h2 x hx).le hl,h3⟩
theorem zww(hx:ARX h x)(H1:∀v h',h.le h'->NR h x v->BR 3 v->Kb true h')(H0:∀h',h.le h'->Kb false h'):callP (F.zj3 x) Kb h:=by
 refine za1 (λb h'=>(b=true/\∃v,NR h x v/\BR 3 v)\/b=false) (λK' hk=>?_) λb h' hl hv=>by
  rcases hv with ⟨rfl,v,h1,h2⟩ | rfl
  . exact H1 v h' hl h1 h2
  . exact H0 h' hl
 unfold F.zj3
 refine zha hx.1 hx.2.1 hx.2.2 (λv h3 hl3 hv=>zac rfl (za3 (λh1=>?_) (λh1=>hk _ _ hl3 (.inr rfl)))) (λh3 hl3 _=>zab rfl (hk _ _ hl3 (.inr rfl)))
 refine hk _ _ hl3 ?_
 rcases Bool.eq_false_or_eq_true (decide ((x.den.mag.len:Int)<=3))with h5 | h5
 . have h6:=of_decide_eq_true h5
   exact .inl ⟨h5,v,hv,NR_BR hv (by omega) (by omega)⟩
 . exact .inr h5
theorem zag3(ha:AQX h l)(H1:∀vs h',h.le h'->PL h 3 l vs->vs.length<=8->Kb true h')(H0:∀h',h.le h'->Kb false h'):callP (F.zly l) Kb h:=by
 refine za1 (λb h'=>(b=true/\∃vs,PL h 3 l vs/\vs.length<=8)\/b=false) (λK' hk=>?_) λb h' hl hv=>by
  rcases hv with ⟨rfl,v,h1,h2⟩ | rfl
  . exact H1 v h' hl h1 h2
  . exact H0 h' hl
 unfold F.zly
 obtain⟨xs,h1,h2,h3,h3b⟩:=ha
 have hl:=RdQ.len h1
 refine za9 (λst h'=>h.le h'/\∃i:Nat,st.1=(i:Int)/\i<=xs.length/\∃vs,QL h 3 (xs.take i) vs) (λst=>(xs.length-st.1).toNat) ⟨Hp.le_refl _,0,rfl,Nat.zero_le _,[],rfl,λk g1 _=>by simp at g1⟩ ?_
 rintro⟨_,_⟩ h5 ⟨hl5,i,hi,hi2,vs,hq⟩
 simp only at hi
 subst hi
 refine za3 (λh6=>?_) (λh6=>?_)
 . simp only at h6
   have hi':i<xs.length:=by omega
   refine zuj i (h1.le hl5) rfl hi' ?_
   refine zqw hl5 (K1:=λb _=>(b=true/\∃v,NR h xs[i] v/\BR 3 v)\/b=false) (zww (h2 _ (List.getElem_mem hi')) (λv h' _ hv hb=>.inl ⟨rfl,v,hv,hb⟩) (λh' _=>.inr rfl)) λb D' h7 hl7 hl8 hfr hb=>?_
   have hh7:h.le h7:=Hp.le_trans hl7 hl8
   rcases hb with ⟨rfl,v,hv,hb⟩ | rfl
   . refine zab rfl ⟨⟨hh7,i+1,?_,hi',vs++[v],?_⟩,?_⟩
     . simp only;rw[w64 (by omega)];rfl
     . rw[List.take_succ_eq_append_getElem hi']
       exact QL.snoc hq hv hb
     . simp only;rw[w64 (by omega)];omega
   . exact zac rfl (hk _ _ hh7 (.inr rfl))
 . simp only at h6
   have hi':i=xs.length:=by omega
   subst hi'
   rw[List.take_length]at hq
   refine hk _ _ hl5 ?_
   rcases Bool.eq_false_or_eq_true (decide ((l.len:Int)<=8))with h7 | h7
   . have h8:=of_decide_eq_true h7
     exact .inl ⟨h7,vs,⟨xs,h1,hq,h3⟩,by rw[<-hq.1];omega⟩
   . exact .inr h7
end
end Den
end

section
namespace Den
open Go Iv Pq
section
variable {h : Hp} {A B C : Nat} {l m : Sl} {K Kb : Bool → Hp → Prop} {x : TRat}
theorem zal9{ss:List Sl}(hr:Rd h 1 l (ss.map slc))(ha:∀s∈ss,AQX h s)(hlen:ss.length<=100)(H1:∀h',h.le h'->(∀s∈ss,∃vs,PL h 3 s vs/\vs.length<=8)->Kb true h')(H0:∀h',h.le h'->Kb false h'):callP (F.zls l) Kb h:=by
 refine za1 (λb h'=>(b=true/\∀s∈ss,∃vs,PL h 3 s vs/\vs.length<=8)\/b=false) (λK' hk=>?_) λb h' hl hv=>by
  rcases hv with ⟨rfl,h1⟩ | rfl
  . exact H1 h' hl h1
  . exact H0 h' hl
 unfold F.zls
 have hl:l.len=ss.length:=by have:=hr.1;simp at this;omega
 refine za9 (λst h'=>h.le h'/\∃i:Nat,st.1=(i:Int)/\i<=ss.length/\∀s∈ss.take i,∃vs,PL h 3 s vs/\vs.length<=8) (λst=>(ss.length-st.1).toNat) ⟨Hp.le_refl _,0,rfl,Nat.zero_le _,λs hs=>by simp at hs⟩ ?_
 rintro⟨_,_⟩ h5 ⟨hl5,i,hi,hi2,hall⟩
 simp only at hi
 subst hi
 refine za3 (λh6=>?_) (λh6=>?_)
 . simp only at h6
   have hi':i<ss.length:=by omega
   refine zag5 i (hr.le hl5) rfl (v:=slc ss[i]) (by rw[List.getElem?_map,List.getElem?_eq_getElem hi'];rfl) λa hc=>⟨ss[i],hc,?_⟩
   refine zqw hl5 (K1:=λb _=>(b=true/\∃vs,PL h 3 ss[i] vs/\vs.length<=8)\/b=false) (zag3 (ha _ (List.getElem_mem hi')) (λvs h' _ hv hb=>.inl ⟨rfl,vs,hv,hb⟩) (λh' _=>.inr rfl)) λb D' h7 hl7 hl8 hfr hb=>?_
   have hh7:h.le h7:=Hp.le_trans hl7 hl8
   rcases hb with ⟨rfl,hv⟩ | rfl
   . refine zab rfl ⟨⟨hh7,i+1,?_,hi',?_⟩,?_⟩
     . simp only;rw[w64 (by omega)];rfl
     . rw[List.take_succ_eq_append_getElem hi']
       intro s hs
       rcases List.mem_append.1 hs with hs | hs
       . exact hall s hs
       . rw[List.mem_singleton.1 hs];exact hv
     . simp only;rw[w64 (by omega)];omega
   . exact zac rfl (hk _ _ hh7 (.inr rfl))
 . simp only at h6
   have hi':i=ss.length:=by omega
   subst hi'
   rw[List.take_length]at hall
   exact hk _ _ hl5 (.inl ⟨rfl,hall⟩)
end
end Den
end

section
namespace Den
open Go Iv Go.Proofs
open Go.ChangeShapes Go.WideShapes Go.ChangeAt Go.RowKit
section
variable {H : Type} {enc : TypeId × Value → H} {w : World} {s : Sl} {cs : List Value}
theorem zatw(h:Okt enc Tryz.prog w 39 cs):∃x:TRat,cs=[.bool x.num.neg,Lf.sl.up x.num.mag,.bool x.den.neg,Lf.sl.up x.den.mag]/\True/\ARX (hpW w) x:=by
 obtain⟨x,h1,h2,h3⟩:=zarh h
 exact⟨x,h1,trivial,h3,h2⟩
theorem zarq:∀{css:List (List Value)},(∀c∈css,c.length=4/\Okt enc Tryz.prog w 39 c)->∃xs:List TRat,css.flatten=xs.flatMap qc/\∀x∈xs,ARX (hpW w) x
 | [],_=>⟨[],rfl,λd hd=>by simp at hd⟩
 | c :: r,h=>by
   obtain⟨l,h1,h2⟩:=zarq (css:=r) λx hx=>h x (List.mem_cons_of_mem _ hx)
   obtain⟨x,hx,_,ax⟩:=zatw (h c (by simp)).2
   refine⟨x :: l,?_,λd hd=>?_⟩
   . rw[List.flatten_cons,h1,hx];rfl
   . rcases List.mem_cons.1 hd with rfl | hd
     . exact ax
     . exact h2 d hd
theorem zauc(h:Okt enc Tryz.prog w 22 [Lf.sl.up s]):AQX (hpW w) s/\s.len<=35184372088832:=by
 obtain⟨s',hs,h1,h2,css,h3,h4,h5⟩:=h.slice Tryz.underlying22
 have e:s=s':=by
  simp only[List.cons.injEq,and_true]at hs
  exact Lf.up_inj hs
 subst e
 rw[c_R]at h4 h5
 rw[by_R,show reachBytes=140737488351232 from rfl]at h2
 obtain⟨xs,hx,ax⟩:=zarq h4
 rw[hx]at h5
 exact⟨⟨xs,h5,ax,h1,by omega⟩,by omega⟩
end
end Den
end

section
set_option maxRecDepth 100000
namespace Den
open Go
noncomputable def zadr:ArgT (Sl×Unit):=(ArgT.cons (Ty.leaf .sl) ArgT.nil)
noncomputable def zae5:Ty Sl:=(Ty.leaf .sl)
noncomputable def zbe:FSem:=mkE zadr zae5 (λa=>F.zam a.1)
noncomputable def zaf6:Cfg:={ P:=Go.Proofs.Tryz.prog,n:=21,tab:=[],mutL:=[],rtL:=[],locL:=[] }
noncomputable def zaet:Code:=match Go.Proofs.Tryz.f136.body with | some c=>c | none=>.skip
noncomputable def zaeh:An:=(.seq .leaf (.seq (.block (.loop [(0,.leaf (.sl))] (.join [] (.seq .leaf (.cond .leaf .leaf)) (.block .leaf)))) (.seq .leaf .leaf)))
theorem zbu:Entry Go.Proofs.Tryz.prog 136 zbe false:=
 za0 (C:=zaf6) (fn:=Go.Proofs.Tryz.f136) (c:=zaet) (an:=zaeh) trivial trivial Go.Proofs.Tryz.func136 rfl rfl (by decide) (λ_=>rfl) (by intro a K D;kernel_rfl)
noncomputable def za96:ArgT (Int×Unit):=(ArgT.cons (Ty.leaf (.int .u64)) ArgT.nil)
noncomputable def za9v:Ty Sl:=(Ty.leaf .sl)
noncomputable def zme:FSem:=mkE za96 za9v (λa=>F.zd8 a.1)
noncomputable def zaby:Cfg:={ P:=Go.Proofs.Tryz.prog,n:=10,tab:=[(136,zbe)],mutL:=[],rtL:=[],locL:=[] }
noncomputable def zab9:Code:=match Go.Proofs.Tryz.f147.body with | some c=>c | none=>.skip
noncomputable def zaak:An:=(.seq .leaf (.seq .leaf .leaf))
theorem zss:Entry Go.Proofs.Tryz.prog 147 zme false:=
 za0 (C:=zaby) (fn:=Go.Proofs.Tryz.f147) (c:=zab9) (an:=zaak) ⟨zbu,trivial⟩ trivial Go.Proofs.Tryz.func147 rfl rfl (by decide) (λ_=>rfl) (by intro a K D;kernel_rfl)
noncomputable def za40:ArgT (Bool×Sl×Unit):=(ArgT.cons (Ty.leaf .bool) (ArgT.cons (Ty.leaf .sl) ArgT.nil))
noncomputable def za4p:Ty TInt:=tyTInt
noncomputable def zc5:FSem:=mkE za40 za4p (λa=>F.zav a.1 a.2.1)
noncomputable def za6s:Cfg:={ P:=Go.Proofs.Tryz.prog,n:=15,tab:=[(136,zbe)],mutL:=[],rtL:=[],locL:=[4] }
noncomputable def za63:Code:=match Go.Proofs.Tryz.f146.body with | some c=>c | none=>.skip
noncomputable def za5e:An:=(.seq .leaf (.seq .leaf (.seq .leaf .leaf)))
theorem zct:Entry Go.Proofs.Tryz.prog 146 zc5 false:=
 za0 (C:=za6s) (fn:=Go.Proofs.Tryz.f146) (c:=za63) (an:=za5e) ⟨zbu,trivial⟩ trivial Go.Proofs.Tryz.func146 rfl rfl (by decide) (λ_=>rfl) (by intro a K D;kernel_rfl)
noncomputable def za0o:ArgT (Int×Unit):=(ArgT.cons (Ty.leaf (.int .i64)) ArgT.nil)
noncomputable def za15:Ty TInt:=tyTInt
noncomputable def zjd:FSem:=mkE za0o za15 (λa=>F.zej a.1)
noncomputable def za2k:Cfg:={ P:=Go.Proofs.Tryz.prog,n:=14,tab:=[(147,zme),(146,zc5)],mutL:=[],rtL:=[],locL:=[2] }
noncomputable def za23:Code:=match Go.Proofs.Tryz.f88.body with | some c=>c | none=>.skip
noncomputable def za1m:An:=(.seq .leaf (.seq (.seq .leaf (.cond (.seq .leaf .leaf) .leaf)) (.seq .leaf .leaf)))
theorem zp0:Entry Go.Proofs.Tryz.prog 88 zjd false:=
 za0 (C:=za2k) (fn:=Go.Proofs.Tryz.f88) (c:=za23) (an:=za1m) ⟨zss,zct,trivial⟩ trivial Go.Proofs.Tryz.func88 rfl rfl (by decide) (λ_=>rfl) (by intro a K D;kernel_rfl)
noncomputable def za0r:ArgT (Int×Unit):=(ArgT.cons (Ty.leaf (.int .i64)) ArgT.nil)
noncomputable def za18:Ty TRat:=tyTRat
noncomputable def zbf:FSem:=mkE za0r za18 (λa=>F.zb4 a.1)
noncomputable def za2n:Cfg:={ P:=Go.Proofs.Tryz.prog,n:=7,tab:=[(88,zjd)],mutL:=[],rtL:=[],locL:=[2] }
noncomputable def za26:Code:=match Go.Proofs.Tryz.f81.body with | some c=>c | none=>.skip
noncomputable def za1p:An:=(.seq .leaf (.seq .leaf .leaf))
theorem zbw:Entry Go.Proofs.Tryz.prog 81 zbf false:=
 za0 (C:=za2n) (fn:=Go.Proofs.Tryz.f81) (c:=za26) (an:=za1p) ⟨zp0,trivial⟩ trivial Go.Proofs.Tryz.func81 rfl rfl (by decide) (λ_=>rfl) (by intro a K D;kernel_rfl)
noncomputable def za0p:ArgT (Sl×Sl×Unit):=(ArgT.cons (Ty.leaf .sl) (ArgT.cons (Ty.leaf .sl) ArgT.nil))
noncomputable def za16:Ty Int:=(Ty.leaf (.int .i64))
noncomputable def zft:FSem:=mkE za0p za16 (λa=>F.zdd a.1 a.2.1)
noncomputable def za2l:Cfg:={ P:=Go.Proofs.Tryz.prog,n:=41,tab:=[],mutL:=[],rtL:=[],locL:=[] }
noncomputable def za24:Code:=match Go.Proofs.Tryz.f174.body with | some c=>c | none=>.skip
noncomputable def za1n:An:=(.seq .leaf (.seq (.seq .leaf (.cond (.seq (.seq .leaf (.cond (.seq .leaf .leaf) .leaf)) (.seq .leaf .leaf)) .leaf)) (.seq (.seq .leaf (.block (.loop [(5,.leaf (.int .i64))] (.seq (.seq .leaf (.cond .leaf .leaf)) (.seq (.block (.seq (.seq (.draw [0,1,2,3,4,5,6,7,8]) (.cond (.seq .leaf .leaf) .leaf)) (.seq (.draw [0,1,2,3,4,5,6,7,8]) (.cond (.seq .leaf .leaf) .leaf)))) .leaf))))) (.seq .leaf .leaf))))
theorem zji:Entry Go.Proofs.Tryz.prog 174 zft false:=
 za0 (C:=za2l) (fn:=Go.Proofs.Tryz.f174) (c:=za24) (an:=za1n) trivial trivial Go.Proofs.Tryz.func174 rfl rfl (by decide) (λ_=>rfl) (by intro a K D;kernel_rfl)
noncomputable def za94:ArgT (Sl×Unit):=(ArgT.cons (Ty.leaf .sl) ArgT.nil)
noncomputable def za9t:Ty Int:=(Ty.leaf (.int .u64))
noncomputable def zse:FSem:=mkE za94 za9t (λa=>F.zgd a.1)
noncomputable def zabw:Cfg:={ P:=Go.Proofs.Tryz.prog,n:=21,tab:=[],mutL:=[],rtL:=[],locL:=[] }
noncomputable def zab7:Code:=match Go.Proofs.Tryz.f175.body with | some c=>c | none=>.skip
noncomputable def zaai:An:=(.seq .leaf (.seq .leaf (.seq (.seq .leaf (.block (.loop [(3,.leaf (.int .u64)),(4,.leaf (.int .i64))] (.seq (.seq .leaf (.cond .leaf .leaf)) (.seq (.block .leaf) .leaf))))) (.seq .leaf .leaf))))
theorem zacn:Entry Go.Proofs.Tryz.prog 175 zse false:=
 za0 (C:=zabw) (fn:=Go.Proofs.Tryz.f175) (c:=zab7) (an:=zaai) trivial trivial Go.Proofs.Tryz.func175 rfl rfl (by decide) (λ_=>rfl) (by intro a K D;kernel_rfl)
noncomputable def zals:ArgT (Sl×Int×Unit):=(ArgT.cons (Ty.leaf .sl) (ArgT.cons (Ty.leaf (.int .u32)) ArgT.nil))
noncomputable def zalx:Ty (Sl×Int):=(Ty.tup (.cons (Ty.leaf .sl) (.cons (Ty.leaf (.int .u32)) .nil)) (λx=>(x.1,x.2,())) (λy=>(y.1,y.2.1)) (λ_=>rfl) (λ_=>rfl))
noncomputable def za7d:FSem:=mkE zals zalx (λa=>F.zwy a.1 a.2.1)
noncomputable def zamc:Cfg:={ P:=Go.Proofs.Tryz.prog,n:=43,tab:=[(136,zbe)],mutL:=[],rtL:=[],locL:=[] }
noncomputable def zam5:Code:=match Go.Proofs.Tryz.f176.body with | some c=>c | none=>.skip
noncomputable def zam0:An:=(.seq .leaf (.seq .leaf (.seq .leaf (.seq (.seq .leaf (.block (.loop [(7,.leaf (.int .u64)),(8,.leaf (.int .i64))] (.seq (.seq .leaf (.cond .leaf .leaf)) (.seq (.block (.seq .leaf (.seq .leaf .leaf))) .leaf))))) (.seq .leaf .leaf)))))
theorem zanp:Entry Go.Proofs.Tryz.prog 176 za7d false:=
 za0 (C:=zamc) (fn:=Go.Proofs.Tryz.f176) (c:=zam5) (an:=zam0) ⟨zbu,trivial⟩ trivial Go.Proofs.Tryz.func176 rfl rfl (by decide) (λ_=>rfl) (by intro a K D;kernel_rfl)
noncomputable def za3z:ArgT (Sl×Unit):=(ArgT.cons (Ty.leaf .sl) ArgT.nil)
noncomputable def za4o:Ty Int:=(Ty.leaf (.int .i64))
noncomputable def zpq:FSem:=mkE za3z za4o (λa=>F.zh8 a.1)
noncomputable def za6r:Cfg:={ P:=Go.Proofs.Tryz.prog,n:=26,tab:=[],mutL:=[],rtL:=[],locL:=[] }
noncomputable def za62:Code:=match Go.Proofs.Tryz.f135.body with | some c=>c | none=>.skip
noncomputable def za5d:An:=(.seq .leaf (.seq (.seq .leaf (.cond (.seq .leaf .leaf) .leaf)) (.seq .leaf (.seq (.seq .leaf (.block (.loop [(3,.leaf (.int .i64)),(4,.leaf (.int .u32))] (.seq (.seq .leaf (.cond .leaf .leaf)) (.seq (.block .leaf) .leaf))))) (.seq .leaf .leaf)))))
theorem za8k:Entry Go.Proofs.Tryz.prog 135 zpq false:=
 za0 (C:=za6r) (fn:=Go.Proofs.Tryz.f135) (c:=za62) (an:=za5d) trivial trivial Go.Proofs.Tryz.func135 rfl rfl (by decide) (λ_=>rfl) (by intro a K D;kernel_rfl)
noncomputable def za0q:ArgT (Sl×Int×Unit):=(ArgT.cons (Ty.leaf .sl) (ArgT.cons (Ty.leaf (.int .i64)) ArgT.nil))
noncomputable def za17:Ty Sl:=(Ty.leaf .sl)
noncomputable def zox:FSem:=mkE za0q za17 (λa=>F.zim a.1 a.2.1)
noncomputable def za2m:Cfg:={ P:=Go.Proofs.Tryz.prog,n:=43,tab:=[],mutL:=[],rtL:=[],locL:=[] }
noncomputable def za25:Code:=match Go.Proofs.Tryz.f177.body with | some c=>c | none=>.skip
noncomputable def za1o:An:=(.seq .leaf (.seq .leaf (.seq (.seq .leaf (.block (.loop [(6,.leaf (.int .i64))] (.seq (.seq .leaf (.cond .leaf .leaf)) (.seq (.block (.seq .leaf (.seq .leaf .leaf))) .leaf))))) (.seq .leaf .leaf))))
theorem za31:Entry Go.Proofs.Tryz.prog 177 zox false:=
 za0 (C:=za2m) (fn:=Go.Proofs.Tryz.f177) (c:=za25) (an:=za1o) trivial trivial Go.Proofs.Tryz.func177 rfl rfl (by decide) (λ_=>rfl) (by intro a K D;kernel_rfl)
noncomputable def za95:ArgT (Sl×Sl×Unit):=(ArgT.cons (Ty.leaf .sl) (ArgT.cons (Ty.leaf .sl) ArgT.nil))
noncomputable def za9u:Ty Sl:=(Ty.leaf .sl)
noncomputable def zmd:FSem:=mkE za95 za9u (λa=>F.zeu a.1 a.2.1)
noncomputable def zabx:Cfg:={ P:=Go.Proofs.Tryz.prog,n:=67,tab:=[(136,zbe)],mutL:=[],rtL:=[],locL:=[] }
noncomputable def zab8:Code:=match Go.Proofs.Tryz.f152.body with | some c=>c | none=>.skip
noncomputable def zaaj:An:=(.seq .leaf (.seq .leaf (.seq (.seq .leaf (.block (.loop [(6,.leaf (.int .i64))] (.seq (.seq .leaf (.cond .leaf .leaf)) (.seq (.block (.seq .leaf (.seq (.seq .leaf (.block (.loop [(7,.leaf (.int .u64)),(8,.leaf (.int .i64))] (.seq (.seq .leaf (.cond .leaf .leaf)) (.seq (.block (.seq (.draw [0,1,2,3,4,5,6,7,8,9,10,11,12,13,14,15,16,17,18,19,20,21]) (.seq .leaf .leaf))) .leaf))))) .leaf))) .leaf))))) (.seq .leaf .leaf))))
theorem zsr:Entry Go.Proofs.Tryz.prog 152 zmd false:=
 za0 (C:=zabx) (fn:=Go.Proofs.Tryz.f152) (c:=zab8) (an:=zaaj) ⟨zbu,trivial⟩ trivial Go.Proofs.Tryz.func152 rfl rfl (by decide) (λ_=>rfl) (by intro a K D;kernel_rfl)
noncomputable def za93:ArgT (Sl×Sl×Unit):=(ArgT.cons (Ty.leaf .sl) (ArgT.cons (Ty.leaf .sl) ArgT.nil))
noncomputable def za9s:Ty Sl:=(Ty.leaf .sl)
noncomputable def zid:FSem:=mkE za93 za9s (λa=>F.zd7 a.1 a.2.1)
noncomputable def zabv:Cfg:={ P:=Go.Proofs.Tryz.prog,n:=48,tab:=[(136,zbe)],mutL:=[],rtL:=[],locL:=[] }
noncomputable def zab6:Code:=match Go.Proofs.Tryz.f179.body with | some c=>c | none=>.skip
noncomputable def zaah:An:=(.seq .leaf (.seq .leaf (.seq .leaf (.seq (.seq .leaf (.block (.loop [(6,.leaf (.int .u64)),(7,.leaf (.int .i64))] (.seq (.seq .leaf (.cond .leaf .leaf)) (.seq (.block (.seq .leaf (.join [(8,.leaf (.int .u64))] (.seq .leaf (.cond .leaf .leaf)) (.seq .leaf (.seq .leaf .leaf))))) .leaf))))) (.seq .leaf .leaf)))))
theorem zmn:Entry Go.Proofs.Tryz.prog 179 zid false:=
 za0 (C:=zabv) (fn:=Go.Proofs.Tryz.f179) (c:=zab6) (an:=zaah) ⟨zbu,trivial⟩ trivial Go.Proofs.Tryz.func179 rfl rfl (by decide) (λ_=>rfl) (by intro a K D;kernel_rfl)
noncomputable def za92:ArgT (Sl×Sl×Unit):=(ArgT.cons (Ty.leaf .sl) (ArgT.cons (Ty.leaf .sl) ArgT.nil))
noncomputable def za9r:Ty (Int×Sl):=(Ty.tup (.cons (Ty.leaf (.int .u32)) (.cons (Ty.leaf .sl) .nil)) (λx=>(x.1,x.2,())) (λy=>(y.1,y.2.1)) (λ_=>rfl) (λ_=>rfl))
noncomputable def zsd:FSem:=mkE za92 za9r (λa=>F.zlv a.1 a.2.1)
noncomputable def zabu:Cfg:={ P:=Go.Proofs.Tryz.prog,n:=51,tab:=[(152,zmd),(136,zbe),(174,zft),(179,zid)],mutL:=[],rtL:=[],locL:=[] }
noncomputable def zab5:Code:=match Go.Proofs.Tryz.f178.body with | some c=>c | none=>.skip
noncomputable def zaag:An:=(.seq .leaf (.seq .leaf (.seq (.draw [0,1,2,3,4,5,6,7,8,9,10,11,12,13,14,15,16,17,18,19,20]) (.join [(7,.leaf (.int .u64))] (.seq .leaf (.cond .leaf .leaf)) (.seq .leaf (.seq (.block (.loop [(7,.leaf (.int .u64)),(8,.leaf (.sl))] (.seq (.seq .leaf (.cond .leaf .leaf)) (.block (.seq .leaf .leaf))))) (.seq .leaf .leaf)))))))
theorem zacm:Entry Go.Proofs.Tryz.prog 178 zsd false:=
 za0 (C:=zabu) (fn:=Go.Proofs.Tryz.f178) (c:=zab5) (an:=zaag) ⟨zsr,zbu,zji,zmn,trivial⟩ trivial Go.Proofs.Tryz.func178 rfl rfl (by decide) (λ_=>rfl) (by intro a K D;kernel_rfl)
noncomputable def zadp:ArgT (Sl×Int×Unit):=(ArgT.cons (Ty.leaf .sl) (ArgT.cons (Ty.leaf (.int .i64)) ArgT.nil))
noncomputable def zae3:Ty Sl:=(Ty.leaf .sl)
noncomputable def zwf:FSem:=mkE zadp zae3 (λa=>F.zo8 a.1 a.2.1)
noncomputable def zaf4:Cfg:={ P:=Go.Proofs.Tryz.prog,n:=45,tab:=[(136,zbe)],mutL:=[],rtL:=[],locL:=[] }
noncomputable def zaer:Code:=match Go.Proofs.Tryz.f180.body with | some c=>c | none=>.skip
noncomputable def zaef:An:=(.seq .leaf (.seq .leaf (.seq (.seq .leaf (.block (.loop [(6,.leaf (.int .i64))] (.seq (.seq .leaf (.cond .leaf .leaf)) (.seq (.block (.seq .leaf (.join [(7,.leaf (.int .u64))] (.seq .leaf (.cond .leaf .leaf)) .leaf))) .leaf))))) (.seq .leaf .leaf))))
theorem zagg:Entry Go.Proofs.Tryz.prog 180 zwf false:=
 za0 (C:=zaf4) (fn:=Go.Proofs.Tryz.f180) (c:=zaer) (an:=zaef) ⟨zbu,trivial⟩ trivial Go.Proofs.Tryz.func180 rfl rfl (by decide) (λ_=>rfl) (by intro a K D;kernel_rfl)
noncomputable def za3y:ArgT (Sl×Sl×Unit):=(ArgT.cons (Ty.leaf .sl) (ArgT.cons (Ty.leaf .sl) ArgT.nil))
noncomputable def za4n:Ty (Sl×Sl):=(Ty.tup (.cons (Ty.leaf .sl) (.cons (Ty.leaf .sl) .nil)) (λx=>(x.1,x.2,())) (λy=>(y.1,y.2.1)) (λ_=>rfl) (λ_=>rfl))
noncomputable def zks:FSem:=mkE za3y za4n (λa=>F.zfb a.1 a.2.1)
noncomputable def za6q:Cfg:={ P:=Go.Proofs.Tryz.prog,n:=128,tab:=[(174,zft),(175,zse),(147,zme),(176,za7d),(135,zpq),(177,zox),(136,zbe),(178,zsd),(179,zid),(180,zwf)],mutL:=[],rtL:=[],locL:=[] }
noncomputable def za61:Code:=match Go.Proofs.Tryz.f149.body with | some c=>c | none=>.skip
noncomputable def za5c:An:=(.seq .leaf (.seq (.seq .leaf (.cond (.seq .leaf .leaf) .leaf)) (.seq (.seq .leaf (.cond (.seq .leaf (.seq (.draw [0,1,2,4,5,6,3,7,8,9]) .leaf)) .leaf)) (.seq (.seq .leaf (.cond (.seq .leaf (.seq .leaf .leaf)) .leaf)) (.seq .leaf (.seq .leaf (.seq .leaf (.seq (.seq .leaf (.block (.loop [(14,.leaf (.int .i64))] (.seq (.seq .leaf (.cond .leaf .leaf)) (.seq (.block (.seq .leaf (.seq .leaf (.seq .leaf (.seq .leaf (.seq .leaf (.block (.loop [(19,.leaf (.int .i64))] (.seq (.seq .leaf (.cond .leaf .leaf)) (.join [] (.block (.seq .leaf (.seq .leaf (.cond .leaf .leaf)))) .leaf)))))))))) .leaf))))) (.seq .leaf .leaf)))))))))
theorem zqo:Entry Go.Proofs.Tryz.prog 149 zks false:=
 za0 (C:=za6q) (fn:=Go.Proofs.Tryz.f149) (c:=za61) (an:=za5c) ⟨zji,zacn,zss,zanp,za8k,za31,zbu,zacm,zmn,zagg,trivial⟩ trivial Go.Proofs.Tryz.func149 rfl rfl (by decide) (λ_=>rfl) (by intro a K D;kernel_rfl)
noncomputable def zagt:ArgT (TInt×TInt×Unit):=(ArgT.cons tyTInt (ArgT.cons tyTInt ArgT.nil))
noncomputable def zahg:Ty TInt:=tyTInt
noncomputable def zll:FSem:=mkE zagt zahg (λa=>F.zfa a.1 a.2.1)
noncomputable def zaj8:Cfg:={ P:=Go.Proofs.Tryz.prog,n:=28,tab:=[(136,zbe),(149,zks),(146,zc5)],mutL:=[],rtL:=[(9,2),(12,3)],locL:=[2,3,4] }
noncomputable def zaio:Code:=match Go.Proofs.Tryz.f90.body with | some c=>c | none=>.skip
noncomputable def zai0:An:=(.seq .leaf (.seq (.draw [0,1,3,4,2,5,6,7]) (.seq (.block (.loop [(5,.leaf (.sl)),(6,.leaf (.sl))] (.seq (.seq .leaf (.cond .leaf .leaf)) (.block (.seq .leaf .leaf))))) (.seq .leaf .leaf))))
theorem zqm:Entry Go.Proofs.Tryz.prog 90 zll false:=
 za0 (C:=zaj8) (fn:=Go.Proofs.Tryz.f90) (c:=zaio) (an:=zai0) ⟨zbu,zqo,zct,trivial⟩ trivial Go.Proofs.Tryz.func90 rfl rfl (by decide) (λ_=>rfl) (by intro a K D;kernel_rfl)
noncomputable def zadn:ArgT (TInt×Unit):=(ArgT.cons tyTInt ArgT.nil)
noncomputable def zae1:Ty TInt:=tyTInt
noncomputable def zgv:FSem:=mkE zadn zae1 (λa=>F.zcp a.1)
noncomputable def zaf2:Cfg:={ P:=Go.Proofs.Tryz.prog,n:=8,tab:=[(146,zc5)],mutL:=[],rtL:=[(3,1),(5,1)],locL:=[1,2] }
noncomputable def zaep:Code:=match Go.Proofs.Tryz.f148.body with | some c=>c | none=>.skip
noncomputable def zaed:An:=(.seq .leaf (.seq .leaf .leaf))
theorem zjx:Entry Go.Proofs.Tryz.prog 148 zgv false:=
 za0 (C:=zaf2) (fn:=Go.Proofs.Tryz.f148) (c:=zaep) (an:=zaed) ⟨zct,trivial⟩ trivial Go.Proofs.Tryz.func148 rfl rfl (by decide) (λ_=>rfl) (by intro a K D;kernel_rfl)
noncomputable def zagu:ArgT (TInt×TInt×Unit):=(ArgT.cons tyTInt (ArgT.cons tyTInt ArgT.nil))
noncomputable def zahh:Ty TInt:=tyTInt
noncomputable def ziu:FSem:=mkE zagu zahh (λa=>F.zc0 a.1 a.2.1)
noncomputable def zaj9:Cfg:={ P:=Go.Proofs.Tryz.prog,n:=20,tab:=[(148,zgv),(152,zmd),(146,zc5)],mutL:=[],rtL:=[(9,2),(11,3),(14,2),(16,3)],locL:=[2,3,4] }
noncomputable def zaip:Code:=match Go.Proofs.Tryz.f91.body with | some c=>c | none=>.skip
noncomputable def zai1:An:=(.seq .leaf (.seq (.draw [0,2,1,3,4,5]) (.seq (.draw [0,1,2,3,4,5,6,7,8,9,10,11]) .leaf)))
theorem zm7:Entry Go.Proofs.Tryz.prog 91 ziu false:=
 za0 (C:=zaj9) (fn:=Go.Proofs.Tryz.f91) (c:=zaip) (an:=zai1) ⟨zjx,zsr,zct,trivial⟩ trivial Go.Proofs.Tryz.func91 rfl rfl (by decide) (λ_=>rfl) (by intro a K D;kernel_rfl)
noncomputable def zagv:ArgT (TInt×Unit):=(ArgT.cons tyTInt ArgT.nil)
noncomputable def zahi:Ty TInt:=tyTInt
noncomputable def zlm:FSem:=mkE zagv zahi (λa=>F.zi7 a.1)
noncomputable def zaja:Cfg:={ P:=Go.Proofs.Tryz.prog,n:=9,tab:=[(146,zc5)],mutL:=[],rtL:=[(3,1),(6,1)],locL:=[1,2] }
noncomputable def zaiq:Code:=match Go.Proofs.Tryz.f93.body with | some c=>c | none=>.skip
noncomputable def zai2:An:=(.seq .leaf (.seq .leaf .leaf))
theorem zqn:Entry Go.Proofs.Tryz.prog 93 zlm false:=
 za0 (C:=zaja) (fn:=Go.Proofs.Tryz.f93) (c:=zaiq) (an:=zai2) ⟨zct,trivial⟩ trivial Go.Proofs.Tryz.func93 rfl rfl (by decide) (λ_=>rfl) (by intro a K D;kernel_rfl)
noncomputable def zadq:ArgT (Sl×Sl×Unit):=(ArgT.cons (Ty.leaf .sl) (ArgT.cons (Ty.leaf .sl) ArgT.nil))
noncomputable def zae4:Ty Sl:=(Ty.leaf .sl)
noncomputable def zwg:FSem:=mkE zadq zae4 (λa=>F.zl0 a.1 a.2.1)
noncomputable def zaf5:Cfg:={ P:=Go.Proofs.Tryz.prog,n:=58,tab:=[(136,zbe)],mutL:=[],rtL:=[],locL:=[] }
noncomputable def zaes:Code:=match Go.Proofs.Tryz.f181.body with | some c=>c | none=>.skip
noncomputable def zaeg:An:=(.seq .leaf (.join [(0,.leaf (.sl)),(1,.leaf (.sl))] (.seq .leaf (.cond .leaf .leaf)) (.seq .leaf (.seq .leaf (.seq (.seq .leaf (.block (.loop [(6,.leaf (.int .u64)),(7,.leaf (.int .i64))] (.seq (.seq .leaf (.cond .leaf .leaf)) (.seq (.block (.seq .leaf (.join [(6,.leaf (.int .u64))] (.seq .leaf (.cond .leaf .leaf)) (.seq .leaf .leaf)))) .leaf))))) (.seq .leaf (.seq .leaf .leaf)))))))
theorem zagh:Entry Go.Proofs.Tryz.prog 181 zwg false:=
 za0 (C:=zaf5) (fn:=Go.Proofs.Tryz.f181) (c:=zaes) (an:=zaeg) ⟨zbu,trivial⟩ trivial Go.Proofs.Tryz.func181 rfl rfl (by decide) (λ_=>rfl) (by intro a K D;kernel_rfl)
noncomputable def zagr:ArgT (TInt×TInt×Unit):=(ArgT.cons tyTInt (ArgT.cons tyTInt ArgT.nil))
noncomputable def zahe:Ty TInt:=tyTInt
noncomputable def zlk:FSem:=mkE zagr zahe (λa=>F.zgc a.1 a.2.1)
noncomputable def zaj6:Cfg:={ P:=Go.Proofs.Tryz.prog,n:=44,tab:=[(148,zgv),(181,zwg),(146,zc5),(174,zft),(179,zid)],mutL:=[],rtL:=[(9,2),(11,3),(14,2),(16,2),(18,3),(22,2),(24,3),(28,2),(30,2),(32,3),(36,3),(38,3),(40,2)],locL:=[2,3,4] }
noncomputable def zaim:Code:=match Go.Proofs.Tryz.f151.body with | some c=>c | none=>.skip
noncomputable def zahy:An:=(.seq .leaf (.seq (.draw [0,2,1,3,4,5]) (.seq (.seq .leaf (.cond (.seq (.draw [0,1,2,3,4,5,6,7,8]) .leaf) .leaf)) (.seq (.seq .leaf (.cond (.seq (.draw [0,1,2,3,4,5,6,7,8]) .leaf) .leaf)) (.seq (.draw [0,1,2,3,4,5,6,7,8]) .leaf)))))
theorem zql:Entry Go.Proofs.Tryz.prog 151 zlk false:=
 za0 (C:=zaj6) (fn:=Go.Proofs.Tryz.f151) (c:=zaim) (an:=zahy) ⟨zjx,zagh,zct,zji,zmn,trivial⟩ trivial Go.Proofs.Tryz.func151 rfl rfl (by decide) (λ_=>rfl) (by intro a K D;kernel_rfl)
noncomputable def zagw:ArgT (TInt×TInt×Unit):=(ArgT.cons tyTInt (ArgT.cons tyTInt ArgT.nil))
noncomputable def zahj:Ty TInt:=tyTInt
noncomputable def zpp:FSem:=mkE zagw zahj (λa=>F.zk6 a.1 a.2.1)
noncomputable def zajb:Cfg:={ P:=Go.Proofs.Tryz.prog,n:=9,tab:=[(93,zlm),(151,zlk)],mutL:=[],rtL:=[],locL:=[2,3,4] }
noncomputable def zair:Code:=match Go.Proofs.Tryz.f150.body with | some c=>c | none=>.skip
noncomputable def zai3:An:=(.seq .leaf (.seq (.draw [0,1,2,3,4]) .leaf))
theorem za07:Entry Go.Proofs.Tryz.prog 150 zpp false:=
 za0 (C:=zajb) (fn:=Go.Proofs.Tryz.f150) (c:=zair) (an:=zai3) ⟨zqn,zql,trivial⟩ trivial Go.Proofs.Tryz.func150 rfl rfl (by decide) (λ_=>rfl) (by intro a K D;kernel_rfl)
noncomputable def zado:ArgT (TInt×Unit):=(ArgT.cons tyTInt ArgT.nil)
noncomputable def zae2:Ty Int:=(Ty.leaf (.int .i64))
noncomputable def zgw:FSem:=mkE zado zae2 (λa=>F.ze7 a.1)
noncomputable def zaf3:Cfg:={ P:=Go.Proofs.Tryz.prog,n:=11,tab:=[(148,zgv)],mutL:=[],rtL:=[(5,1),(9,1)],locL:=[1] }
noncomputable def zaeq:Code:=match Go.Proofs.Tryz.f92.body with | some c=>c | none=>.skip
noncomputable def zaee:An:=(.seq .leaf (.seq .leaf (.seq (.seq .leaf (.cond (.seq .leaf .leaf) .leaf)) (.seq (.seq .leaf (.cond (.seq .leaf .leaf) .leaf)) (.seq .leaf .leaf)))))
theorem zjy:Entry Go.Proofs.Tryz.prog 92 zgw false:=
 za0 (C:=zaf3) (fn:=Go.Proofs.Tryz.f92) (c:=zaeq) (an:=zaee) ⟨zjx,trivial⟩ trivial Go.Proofs.Tryz.func92 rfl rfl (by decide) (λ_=>rfl) (by intro a K D;kernel_rfl)
noncomputable def za3x:ArgT (TInt×TInt×Unit):=(ArgT.cons tyTInt (ArgT.cons tyTInt ArgT.nil))
noncomputable def za4m:Ty (TInt×TInt×Int):=(Ty.tup (.cons tyTInt (.cons tyTInt (.cons (Ty.leaf (.int .i64)) .nil))) (λx=>(x.1,x.2.1,x.2.2,())) (λy=>(y.1,y.2.1,y.2.2.1)) (λ_=>rfl) (λ_=>rfl))
noncomputable def zpo:FSem:=mkE za3x za4m (λa=>F.zjt a.1 a.2.1)
noncomputable def za6p:Cfg:={ P:=Go.Proofs.Tryz.prog,n:=55,tab:=[(148,zgv),(149,zks),(146,zc5),(91,ziu),(150,zpp),(92,zgw),(88,zjd),(151,zlk)],mutL:=[],rtL:=[(15,3),(22,2),(24,3),(29,2),(31,3)],locL:=[2,3,4,5,9,10] }
noncomputable def za60:Code:=match Go.Proofs.Tryz.f89.body with | some c=>c | none=>.skip
noncomputable def za5b:An:=(.seq .leaf (.seq (.draw [0,2,1,3,4,5]) (.seq (.seq .leaf (.cond (.seq .leaf .leaf) .leaf)) (.seq .leaf (.seq .leaf (.seq (.draw [0,1,2,5,3,4,6]) (.join [(9,.box [.bool,.sl]),(10,.box [.bool,.sl])] (.seq (.draw [0,2,1,3,4,5]) (.cond (.seq (.draw [0,1,2,3]) .leaf) .leaf)) (.seq (.draw [0,1,2,3,4]) .leaf))))))))
theorem za8j:Entry Go.Proofs.Tryz.prog 89 zpo false:=
 za0 (C:=za6p) (fn:=Go.Proofs.Tryz.f89) (c:=za60) (an:=za5b) ⟨zjx,zqo,zct,zm7,za07,zjy,zp0,zql,trivial⟩ trivial Go.Proofs.Tryz.func89 rfl rfl (by decide) (λ_=>rfl) (by intro a K D;kernel_rfl)
noncomputable def zah5:ArgT (TInt×TInt×Unit):=(ArgT.cons tyTInt (ArgT.cons tyTInt ArgT.nil))
noncomputable def zahs:Ty TInt:=tyTInt
noncomputable def zpr:FSem:=mkE zah5 zahs (λa=>F.zdt a.1 a.2.1)
noncomputable def zajk:Cfg:={ P:=Go.Proofs.Tryz.prog,n:=16,tab:=[(89,zpo)],mutL:=[],rtL:=[],locL:=[2,3,4,5,6] }
noncomputable def zaj0:Code:=match Go.Proofs.Tryz.f134.body with | some c=>c | none=>.skip
noncomputable def zaic:An:=(.seq .leaf (.seq .leaf (.seq .leaf .leaf)))
theorem za08:Entry Go.Proofs.Tryz.prog 134 zpr false:=
 za0 (C:=zajk) (fn:=Go.Proofs.Tryz.f134) (c:=zaj0) (an:=zaic) ⟨za8j,trivial⟩ trivial Go.Proofs.Tryz.func134 rfl rfl (by decide) (λ_=>rfl) (by intro a K D;kernel_rfl)
noncomputable def zhs:ArgT (Sl×Unit):=(ArgT.cons (Ty.leaf .sl) ArgT.nil)
noncomputable def zht:Ty Sl:=(Ty.leaf .sl)
noncomputable def zdo:FSem:=mkE zhs zht (λa=>F.zbg a.1)
noncomputable def zhw:Cfg:={ P:=Go.Proofs.Tryz.prog,n:=8,tab:=[],mutL:=[],rtL:=[],locL:=[] }
noncomputable def zhv:Code:=match Go.Proofs.Tryz.f104.body with | some c=>c | none=>.skip
noncomputable def zhu:An:=(.seq .leaf (.seq (.seq .leaf (.cond (.seq .leaf .leaf) .leaf)) (.seq .leaf .leaf)))
theorem zib:Entry Go.Proofs.Tryz.prog 104 zdo false:=
 za0 (C:=zhw) (fn:=Go.Proofs.Tryz.f104) (c:=zhv) (an:=zhu) trivial trivial Go.Proofs.Tryz.func104 rfl rfl (by decide) (λ_=>rfl) (by intro a K D;kernel_rfl)
noncomputable def za3n:ArgT (Sl×Unit):=(ArgT.cons (Ty.leaf .sl) ArgT.nil)
noncomputable def za4c:Ty Sl:=(Ty.leaf .sl)
noncomputable def zaj:FSem:=mkE za3n za4c (λa=>F.zaa a.1)
noncomputable def za6f:Cfg:={ P:=Go.Proofs.Tryz.prog,n:=21,tab:=[],mutL:=[],rtL:=[],locL:=[] }
noncomputable def za5q:Code:=match Go.Proofs.Tryz.f139.body with | some c=>c | none=>.skip
noncomputable def za51:An:=(.seq .leaf (.seq (.block (.loop [(0,.leaf (.sl))] (.join [] (.seq .leaf (.cond .leaf .leaf)) (.block .leaf)))) (.seq .leaf .leaf)))
theorem zan:Entry Go.Proofs.Tryz.prog 139 zaj false:=
 za0 (C:=za6f) (fn:=Go.Proofs.Tryz.f139) (c:=za5q) (an:=za51) trivial trivial Go.Proofs.Tryz.func139 rfl rfl (by decide) (λ_=>rfl) (by intro a K D;kernel_rfl)
end Den
end

section
namespace Den
open Go Go.RowKit Go.Shelf
open Go.Proofs
attribute [local go_sem] Oper.semAt_some
set_option maxRecDepth 100000 in
set_option maxHeartbeats 2000000 in
theorem zatn:BackFn Tryz.prog 189 (.leaf (.int .u32)):=by
 refine⟨enters_of Tryz.func189 (by kernel_rfl) rfl,?_⟩
 rintro l ab ⟨xa,xl,xc⟩ J w hxl h0 hbox hround
 simp only at hxl h0 hbox hround
 have hb0:=hbox _ _ h0
 refine callsIn_of_wp Tryz.func189 rfl trivial ?_ rfl
 simp only[Tryz.ntmps189,List.size_toArray,List.length_cons,List.length_nil,Nat.reduceAdd,Nat.reduceSub,Array.replicate_succ,Array.replicate_zero,List.push_toArray,List.append_toArray,List.nil_append,List.cons_append]
 gi_wp2
 gi_loopw [3] (λi wr=>∃k:Nat,k<=xl/\i=.int .i64 ((k:Int)-1)/\J k wr) (λi _=>(RowKit.intOf i+1).toNat)
 case atStart=>exact⟨xl,Nat.le_refl _,rfl,h0⟩
 case round=>
  obtain⟨k,hk,rfl,hJ⟩:=hrel
  have hbx:=hbox _ _ hJ
  cases k with
  | zero=>
    gi_wp2
    go_end0
    exact⟨⟨_,rfl⟩,hJ⟩
  | succ j=>
    obtain⟨ad,v,hxa,hcells,f,tmps1,asg,body,hy,hR⟩:=hround j wr (by omega) hJ
    subst hxa
    have hc0:wr.cell? (ad.add j)=some (.int .u32 v):=by
     have:=hcells 0 (.int .u32 v) rfl
     simpa [STy.size] using this
    have hkj:(((j+1:Nat):Int)-1)=(j:Int):=by omega
    rw[hkj]
    simp only[STy.val,Lf.up]at hy
    gi_wp2
    refine⟨rfl,hR.mono ?_⟩
    rintro e W3 ⟨rfl,hJ3⟩
    gi_wp2
    go_roundw
    case rel=>exact⟨j,by omega,by simp,hJ3⟩
    case measure=>simp[RowKit.intOf]
end Den
end

section
set_option maxRecDepth 100000
namespace Den
open Go
noncomputable def za3l:ArgT (TInt×Unit):=(ArgT.cons tyTInt ArgT.nil)
noncomputable def za4a:Ty Int:=(Ty.leaf (.int .i64))
noncomputable def zgr:FSem:=mkE za3l za4a (λa=>F.zd2 a.1)
noncomputable def za6d:Cfg:={ P:=Go.Proofs.Tryz.prog,n:=12,tab:=[(139,zaj)],mutL:=[],rtL:=[(4,1),(10,1)],locL:=[1] }
noncomputable def za5o:Code:=match Go.Proofs.Tryz.f153.body with | some c=>c | none=>.skip
noncomputable def za4z:An:=(.seq .leaf (.seq (.block (.seq .leaf (.cond (.seq .leaf .leaf) (.seq .leaf (.cond (.seq .leaf .leaf) .leaf))))) (.seq .leaf .leaf)))
theorem zl3:Entry Go.Proofs.Tryz.prog 153 zgr false:=
 za0 (C:=za6d) (fn:=Go.Proofs.Tryz.f153) (c:=za5o) (an:=za4z) ⟨zan,trivial⟩ trivial Go.Proofs.Tryz.func153 rfl rfl (by decide) (λ_=>rfl) (by intro a K D;kernel_rfl)
noncomputable def za0n:ArgT (TRat×Unit):=(ArgT.cons tyTRat ArgT.nil)
noncomputable def za14:Ty Int:=(Ty.leaf (.int .i64))
noncomputable def zcw:FSem:=mkE za0n za14 (λa=>F.zc4 a.1)
noncomputable def za2j:Cfg:={ P:=Go.Proofs.Tryz.prog,n:=6,tab:=[(153,zgr)],mutL:=[],rtL:=[(3,1)],locL:=[1] }
noncomputable def za22:Code:=match Go.Proofs.Tryz.f96.body with | some c=>c | none=>.skip
noncomputable def za1l:An:=(.seq .leaf (.seq .leaf .leaf))
theorem zeg:Entry Go.Proofs.Tryz.prog 96 zcw false:=
 za0 (C:=za2j) (fn:=Go.Proofs.Tryz.f96) (c:=za22) (an:=za1l) ⟨zl3,trivial⟩ trivial Go.Proofs.Tryz.func96 rfl rfl (by decide) (λ_=>rfl) (by intro a K D;kernel_rfl)
noncomputable def zv1:ArgT (Sl×Unit):=(ArgT.cons (Ty.leaf .sl) ArgT.nil)
noncomputable def zvb:Ty Sl:=(Ty.leaf .sl)
noncomputable def zc9:FSem:=mkE zv1 zvb (λa=>F.zay a.1)
noncomputable def zw7:Cfg:={ P:=Go.Proofs.Tryz.prog,n:=23,tab:=[(104,zdo),(96,zcw)],mutL:=[],rtL:=[],locL:=[] }
noncomputable def zvw:Code:=match Go.Proofs.Tryz.f38.body with | some c=>c | none=>.skip
noncomputable def zvl:An:=(.seq .leaf (.seq .leaf (.join [(3,.leaf (.int .i64))] (.block (.loop [(3,.leaf (.int .i64))] (.join [] (.seq .leaf (.cond .leaf .leaf)) (.block .leaf)))) (.seq .leaf .leaf))))
theorem zda:Entry Go.Proofs.Tryz.prog 38 zc9 false:=
 za0 (C:=zw7) (fn:=Go.Proofs.Tryz.f38) (c:=zvw) (an:=zvl) ⟨zib,zeg,trivial⟩ trivial Go.Proofs.Tryz.func38 rfl rfl (by decide) (λ_=>rfl) (by intro a K D;kernel_rfl)
noncomputable def zrg:ArgT (Sl×Unit):=(ArgT.cons (Ty.leaf .sl) ArgT.nil)
noncomputable def zrm:Ty Int:=(Ty.leaf (.int .i64))
noncomputable def zfh:FSem:=mkE zrg zrm (λa=>F.zd4 a.1)
noncomputable def zs1:Cfg:={ P:=Go.Proofs.Tryz.prog,n:=7,tab:=[(38,zc9)],mutL:=[],rtL:=[],locL:=[] }
noncomputable def zrw:Code:=match Go.Proofs.Tryz.f39.body with | some c=>c | none=>.skip
noncomputable def zrr:An:=(.seq .leaf (.seq .leaf .leaf))
theorem zjm:Entry Go.Proofs.Tryz.prog 39 zfh false:=
 za0 (C:=zs1) (fn:=Go.Proofs.Tryz.f39) (c:=zrw) (an:=zrr) ⟨zda,trivial⟩ trivial Go.Proofs.Tryz.func39 rfl rfl (by decide) (λ_=>rfl) (by intro a K D;kernel_rfl)
noncomputable def zsz:ArgT (Int×Unit):=(ArgT.cons (Ty.leaf (.int .u64)) ArgT.nil)
noncomputable def zt9:Ty Sl:=(Ty.leaf .sl)
noncomputable def zcj:FSem:=mkE zsz zt9 (λa=>F.zaz a.1)
noncomputable def zu4:Cfg:={ P:=Go.Proofs.Tryz.prog,n:=10,tab:=[(139,zaj)],mutL:=[],rtL:=[],locL:=[] }
noncomputable def ztt:Code:=match Go.Proofs.Tryz.f138.body with | some c=>c | none=>.skip
noncomputable def ztj:An:=(.seq .leaf (.seq .leaf .leaf))
theorem ze9:Entry Go.Proofs.Tryz.prog 138 zcj false:=
 za0 (C:=zu4) (fn:=Go.Proofs.Tryz.f138) (c:=ztt) (an:=ztj) ⟨zan,trivial⟩ trivial Go.Proofs.Tryz.func138 rfl rfl (by decide) (λ_=>rfl) (by intro a K D;kernel_rfl)
noncomputable def zxa:ArgT (Bool×Sl×Unit):=(ArgT.cons (Ty.leaf .bool) (ArgT.cons (Ty.leaf .sl) ArgT.nil))
noncomputable def zxm:Ty TInt:=tyTInt
noncomputable def zbj:FSem:=mkE zxa zxm (λa=>F.zah a.1 a.2.1)
noncomputable def zyn:Cfg:={ P:=Go.Proofs.Tryz.prog,n:=14,tab:=[(139,zaj)],mutL:=[],rtL:=[],locL:=[4] }
noncomputable def zyb:Code:=match Go.Proofs.Tryz.f137.body with | some c=>c | none=>.skip
noncomputable def zxz:An:=(.seq .leaf (.seq .leaf (.seq (.seq .leaf (.cond (.seq .leaf .leaf) .leaf)) (.seq .leaf .leaf))))
theorem zc1:Entry Go.Proofs.Tryz.prog 137 zbj false:=
 za0 (C:=zyn) (fn:=Go.Proofs.Tryz.f137) (c:=zyb) (an:=zxz) ⟨zan,trivial⟩ trivial Go.Proofs.Tryz.func137 rfl rfl (by decide) (λ_=>rfl) (by intro a K D;kernel_rfl)
noncomputable def zuv:ArgT (Int×Unit):=(ArgT.cons (Ty.leaf (.int .i64)) ArgT.nil)
noncomputable def zv5:Ty TInt:=tyTInt
noncomputable def zek:FSem:=mkE zuv zv5 (λa=>F.zcb a.1)
noncomputable def zw1:Cfg:={ P:=Go.Proofs.Tryz.prog,n:=15,tab:=[(138,zcj),(137,zbj)],mutL:=[],rtL:=[],locL:=[2] }
noncomputable def zvq:Code:=match Go.Proofs.Tryz.f84.body with | some c=>c | none=>.skip
noncomputable def zvf:An:=(.seq .leaf (.seq .leaf (.join [(3,.leaf (.int .u64))] (.seq .leaf (.cond .leaf .leaf)) (.seq .leaf .leaf))))
theorem zhe:Entry Go.Proofs.Tryz.prog 84 zek false:=
 za0 (C:=zw1) (fn:=Go.Proofs.Tryz.f84) (c:=zvq) (an:=zvf) ⟨ze9,zc1,trivial⟩ trivial Go.Proofs.Tryz.func84 rfl rfl (by decide) (λ_=>rfl) (by intro a K D;kernel_rfl)
noncomputable def za3v:ArgT (Unit):=ArgT.nil
noncomputable def za4k:Ty TInt:=tyTInt
noncomputable def zgu:FSem:=mkE za3v za4k (λa=>F.zf9 )
noncomputable def za6n:Cfg:={ P:=Go.Proofs.Tryz.prog,n:=2,tab:=[(84,zek)],mutL:=[],rtL:=[],locL:=[0] }
noncomputable def za5y:Code:=match Go.Proofs.Tryz.f129.body with | some c=>c | none=>.skip
noncomputable def za59:An:=(.seq .leaf (.seq .leaf .leaf))
theorem zl7:Entry Go.Proofs.Tryz.prog 129 zgu false:=
 za0 (C:=za6n) (fn:=Go.Proofs.Tryz.f129) (c:=za5y) (an:=za59) ⟨zhe,trivial⟩ trivial Go.Proofs.Tryz.func129 rfl rfl (by decide) (λ_=>rfl) (by intro a K D;kernel_rfl)
noncomputable def zt5:ArgT (Int×Unit):=(ArgT.cons (Ty.leaf (.int .i64)) ArgT.nil)
noncomputable def ztf:Ty TRat:=tyTRat
noncomputable def zaq:FSem:=mkE zt5 ztf (λa=>F.zaf a.1)
noncomputable def zua:Cfg:={ P:=Go.Proofs.Tryz.prog,n:=7,tab:=[(84,zek),(129,zgu)],mutL:=[],rtL:=[],locL:=[2] }
noncomputable def ztz:Code:=match Go.Proofs.Tryz.f79.body with | some c=>c | none=>.skip
noncomputable def ztp:An:=(.seq .leaf (.seq .leaf .leaf))
theorem zaw:Entry Go.Proofs.Tryz.prog 79 zaq false:=
 za0 (C:=zua) (fn:=Go.Proofs.Tryz.f79) (c:=ztz) (an:=ztp) ⟨zhe,zl7,trivial⟩ trivial Go.Proofs.Tryz.func79 rfl rfl (by decide) (λ_=>rfl) (by intro a K D;kernel_rfl)
noncomputable def zuz:ArgT (Int×Int×Unit):=(ArgT.cons (Ty.leaf (.int .u64)) (ArgT.cons (Ty.leaf (.int .u64)) ArgT.nil))
noncomputable def zv9:Ty (Int×Int):=(Ty.tup (.cons (Ty.leaf (.int .u64)) (.cons (Ty.leaf (.int .u64)) .nil)) (λx=>(x.1,x.2,())) (λy=>(y.1,y.2.1)) (λ_=>rfl) (λ_=>rfl))
noncomputable def zli:FSem:=mkE zuz zv9 (λa=>F.zjf a.1 a.2.1)
noncomputable def zw5:Cfg:={ P:=Go.Proofs.Tryz.prog,n:=51,tab:=[],mutL:=[],rtL:=[],locL:=[] }
noncomputable def zvu:Code:=match Go.Proofs.Tryz.f186.body with | some c=>c | none=>.skip
noncomputable def zvj:An:=(.seq .leaf (.seq .leaf (.seq .leaf (.seq .leaf (.seq .leaf (.seq .leaf (.seq .leaf (.seq .leaf (.seq .leaf (.seq .leaf (.seq .leaf (.seq .leaf .leaf))))))))))))
theorem zx3:Entry Go.Proofs.Tryz.prog 186 zli false:=
 za0 (C:=zw5) (fn:=Go.Proofs.Tryz.f186) (c:=zvu) (an:=zvj) trivial trivial Go.Proofs.Tryz.func186 rfl rfl (by decide) (λ_=>rfl) (by intro a K D;kernel_rfl)
noncomputable def za0k:ArgT (Int×Int×Unit):=(ArgT.cons (Ty.leaf (.int .u64)) (ArgT.cons (Ty.leaf (.int .u64)) ArgT.nil))
noncomputable def za11:Ty (Int×Int):=(Ty.tup (.cons (Ty.leaf (.int .u64)) (.cons (Ty.leaf (.int .u64)) .nil)) (λx=>(x.1,x.2,())) (λy=>(y.1,y.2.1)) (λ_=>rfl) (λ_=>rfl))
noncomputable def zou:FSem:=mkE za0k za11 (λa=>F.zih a.1 a.2.1)
noncomputable def za2g:Cfg:={ P:=Go.Proofs.Tryz.prog,n:=30,tab:=[(186,zli)],mutL:=[],rtL:=[],locL:=[] }
noncomputable def za1z:Code:=match Go.Proofs.Tryz.f162.body with | some c=>c | none=>.skip
noncomputable def za1i:An:=(.seq .leaf (.seq (.cond (.seq .leaf (.seq .leaf .leaf)) .leaf) (.seq .leaf (.seq .leaf .leaf))))
theorem za2y:Entry Go.Proofs.Tryz.prog 162 zou false:=
 za0 (C:=za2g) (fn:=Go.Proofs.Tryz.f162) (c:=za1z) (an:=za1i) ⟨zx3,trivial⟩ trivial Go.Proofs.Tryz.func162 rfl rfl (by decide) (λ_=>rfl) (by intro a K D;kernel_rfl)
noncomputable def zhh:ArgT (Sl×Int×Unit):=(ArgT.cons (Ty.leaf .sl) (ArgT.cons (Ty.leaf (.int .i64)) ArgT.nil))
noncomputable def zhj:Ty Sl:=(Ty.leaf .sl)
noncomputable def zdi:FSem:=mkE zhh zhj (λa=>F.zba a.1 a.2.1)
noncomputable def zhp:Cfg:={ P:=Go.Proofs.Tryz.prog,n:=48,tab:=[(162,zou)],mutL:=[],rtL:=[],locL:=[] }
noncomputable def zhn:Code:=match Go.Proofs.Tryz.f126.body with | some c=>c | none=>.skip
noncomputable def zhl:An:=(.seq .leaf (.join [] (.seq .leaf (.cond .leaf .leaf)) (.seq .leaf (.join [] (.seq .leaf (.cond .leaf .leaf)) (.seq .leaf (.seq .leaf (.seq (.block (.loop [(8,.leaf (.int .i64))] (.seq (.seq .leaf (.cond .leaf .leaf)) (.block (.draw [0,1,2,3,4,5,6,7,8,9]))))) (.seq .leaf .leaf))))))))
theorem zhr:Entry Go.Proofs.Tryz.prog 126 zdi false:=
 za0 (C:=zhp) (fn:=Go.Proofs.Tryz.f126) (c:=zhn) (an:=zhl) ⟨za2y,trivial⟩ trivial Go.Proofs.Tryz.func126 rfl rfl (by decide) (λ_=>rfl) (by intro a K D;kernel_rfl)
noncomputable def zt4:ArgT (Int×Unit):=(ArgT.cons (Ty.leaf (.int .i64)) ArgT.nil)
noncomputable def zte:Ty Sl:=(Ty.leaf .sl)
noncomputable def zkp:FSem:=mkE zt4 zte (λa=>F.zf7 a.1)
noncomputable def zu9:Cfg:={ P:=Go.Proofs.Tryz.prog,n:=7,tab:=[(79,zaq),(126,zdi)],mutL:=[],rtL:=[],locL:=[] }
noncomputable def zty:Code:=match Go.Proofs.Tryz.f73.body with | some c=>c | none=>.skip
noncomputable def zto:An:=(.seq .leaf (.seq .leaf .leaf))
theorem zur:Entry Go.Proofs.Tryz.prog 73 zkp false:=
 za0 (C:=zu9) (fn:=Go.Proofs.Tryz.f73) (c:=zty) (an:=zto) ⟨zaw,zhr,trivial⟩ trivial Go.Proofs.Tryz.func73 rfl rfl (by decide) (λ_=>rfl) (by intro a K D;kernel_rfl)
noncomputable def zv2:ArgT (TInt×Unit):=(ArgT.cons tyTInt ArgT.nil)
noncomputable def zvc:Ty Bool:=(Ty.leaf .bool)
noncomputable def zgt:FSem:=mkE zv2 zvc (λa=>F.zef a.1)
noncomputable def zw8:Cfg:={ P:=Go.Proofs.Tryz.prog,n:=7,tab:=[],mutL:=[],rtL:=[(3,1)],locL:=[1] }
noncomputable def zvx:Code:=match Go.Proofs.Tryz.f165.body with | some c=>c | none=>.skip
noncomputable def zvm:An:=(.seq .leaf (.seq .leaf .leaf))
theorem zm6:Entry Go.Proofs.Tryz.prog 165 zgt false:=
 za0 (C:=zw8) (fn:=Go.Proofs.Tryz.f165) (c:=zvx) (an:=zvm) trivial trivial Go.Proofs.Tryz.func165 rfl rfl (by decide) (λ_=>rfl) (by intro a K D;kernel_rfl)
noncomputable def za0h:ArgT (Sl×Sl×Unit):=(ArgT.cons (Ty.leaf .sl) (ArgT.cons (Ty.leaf .sl) ArgT.nil))
noncomputable def za0y:Ty Sl:=(Ty.leaf .sl)
noncomputable def zor:FSem:=mkE za0h za0y (λa=>F.zfq a.1 a.2.1)
noncomputable def za2d:Cfg:={ P:=Go.Proofs.Tryz.prog,n:=75,tab:=[(139,zaj)],mutL:=[],rtL:=[],locL:=[] }
noncomputable def za1w:Code:=match Go.Proofs.Tryz.f145.body with | some c=>c | none=>.skip
noncomputable def za1f:An:=(.seq .leaf (.join [] (.seq .leaf (.cond (.seq .leaf .leaf) .leaf)) (.seq .leaf (.seq (.seq .leaf (.block (.loop [(27,.leaf (.int .i64))] (.seq .leaf (.seq (.cond .leaf .leaf) (.seq (.block (.seq .leaf (.seq .leaf (.seq (.seq .leaf (.block (.loop [(8,.leaf (.int .u64)),(34,.leaf (.int .i64))] (.seq .leaf (.seq (.cond .leaf .leaf) (.seq (.block (.seq .leaf (.seq .leaf (.seq .leaf .leaf)))) .leaf)))))) .leaf)))) .leaf)))))) (.seq .leaf .leaf)))))
theorem za2v:Entry Go.Proofs.Tryz.prog 145 zor false:=
 za0 (C:=za2d) (fn:=Go.Proofs.Tryz.f145) (c:=za1w) (an:=za1f) ⟨zan,trivial⟩ trivial Go.Proofs.Tryz.func145 rfl rfl (by decide) (λ_=>rfl) (by intro a K D;kernel_rfl)
noncomputable def za8x:ArgT (TInt×TInt×Unit):=(ArgT.cons tyTInt (ArgT.cons tyTInt ArgT.nil))
noncomputable def za9m:Ty TInt:=tyTInt
noncomputable def zfl:FSem:=mkE za8x za9m (λa=>F.zbk a.1 a.2.1)
noncomputable def zabp:Cfg:={ P:=Go.Proofs.Tryz.prog,n:=18,tab:=[(139,zaj),(145,zor),(137,zbj)],mutL:=[],rtL:=[(5,2),(7,3),(10,2),(13,3)],locL:=[2,3,4] }
noncomputable def zab0:Code:=match Go.Proofs.Tryz.f87.body with | some c=>c | none=>.skip
noncomputable def zaab:An:=(.seq .leaf (.seq (.draw [0,1,2,3,4,5,6,8,9,7,10,11,12,13]) .leaf))
theorem zin:Entry Go.Proofs.Tryz.prog 87 zfl false:=
 za0 (C:=zabp) (fn:=Go.Proofs.Tryz.f87) (c:=zab0) (an:=zaab) ⟨zan,za2v,zc1,trivial⟩ trivial Go.Proofs.Tryz.func87 rfl rfl (by decide) (λ_=>rfl) (by intro a K D;kernel_rfl)
noncomputable def zj7:ArgT (Sl×Unit):=(ArgT.cons (Ty.leaf .sl) ArgT.nil)
noncomputable def zj8:Ty Sl:=(Ty.leaf .sl)
noncomputable def zax:FSem:=mkE zj7 zj8 (λa=>F.zak a.1)
noncomputable def zjb:Cfg:={ P:=Go.Proofs.Tryz.prog,n:=8,tab:=[],mutL:=[],rtL:=[],locL:=[] }
noncomputable def zja:Code:=match Go.Proofs.Tryz.f143.body with | some c=>c | none=>.skip
noncomputable def zj9:An:=(.seq .leaf (.seq (.seq .leaf (.cond (.seq .leaf .leaf) .leaf)) (.seq .leaf .leaf)))
theorem zbh:Entry Go.Proofs.Tryz.prog 143 zax false:=
 za0 (C:=zjb) (fn:=Go.Proofs.Tryz.f143) (c:=zja) (an:=zj9) trivial trivial Go.Proofs.Tryz.func143 rfl rfl (by decide) (λ_=>rfl) (by intro a K D;kernel_rfl)
noncomputable def zhg:ArgT (Sl×Unit):=(ArgT.cons (Ty.leaf .sl) ArgT.nil)
noncomputable def zhi:Ty Addr:=(Ty.clo 189)
noncomputable def zdh:FSem:=mkE zhg zhi (λa=>F.zc8 a.1)
noncomputable def zho:Cfg:={ P:=Go.Proofs.Tryz.prog,n:=4,tab:=[],mutL:=[],rtL:=[],locL:=[] }
noncomputable def zhm:Code:=match Go.Proofs.Tryz.f173.body with | some c=>c | none=>.skip
noncomputable def zhk:An:=(.seq .leaf (.seq .leaf .leaf))
theorem zhq:Entry Go.Proofs.Tryz.prog 173 zdh false:=
 za0 (C:=zho) (fn:=Go.Proofs.Tryz.f173) (c:=zhm) (an:=zhk) trivial trivial Go.Proofs.Tryz.func173 rfl rfl (by decide) (λ_=>rfl) (by intro a K D;kernel_rfl)
noncomputable def zxb:ArgT (Sl×Unit):=(ArgT.cons (Ty.leaf .sl) ArgT.nil)
noncomputable def zxn:Ty Int:=(Ty.leaf (.int .u64))
noncomputable def zhz:FSem:=mkE zxb zxn (λa=>F.zc6 a.1)
noncomputable def zyo:Cfg:={ P:=Go.Proofs.Tryz.prog,n:=16,tab:=[(173,zdh)],mutL:=[],rtL:=[],locL:=[3],backs:=[(189,(.leaf (.int .u32)))] }
noncomputable def zyc:Code:=match Go.Proofs.Tryz.f144.body with | some c=>c | none=>.skip
noncomputable def zy0:An:=(.seq .leaf (.seq .leaf (.seq (.seq .leaf (.block (.back [(3,.box [.int .u64])] .leaf (.block .leaf)))) (.seq .leaf .leaf))))
theorem znm:Entry Go.Proofs.Tryz.prog 144 zhz false:=
 za0 (C:=zyo) (fn:=Go.Proofs.Tryz.f144) (c:=zyc) (an:=zy0) ⟨zhq,trivial⟩ ⟨zatn,trivial⟩ Go.Proofs.Tryz.func144 rfl rfl (by decide) (λ_=>rfl) (by intro a K D;kernel_rfl)
noncomputable def za0e:ArgT (Int×Unit):=(ArgT.cons (Ty.leaf (.int .i64)) ArgT.nil)
noncomputable def za0v:Ty Bool:=(Ty.leaf .bool)
noncomputable def zop:FSem:=mkE za0e za0v (λa=>F.zfk a.1)
noncomputable def za2a:Cfg:={ P:=Go.Proofs.Tryz.prog,n:=6,tab:=[],mutL:=[],rtL:=[],locL:=[] }
noncomputable def za1t:Code:=match Go.Proofs.Tryz.f190.body with | some c=>c | none=>.skip
noncomputable def za1c:An:=(.seq .leaf (.seq .leaf .leaf))
theorem za2t:Entry Go.Proofs.Tryz.prog 190 zop false:=
 za0 (C:=za2a) (fn:=Go.Proofs.Tryz.f190) (c:=za1t) (an:=za1c) trivial trivial Go.Proofs.Tryz.func190 rfl rfl (by decide) (λ_=>rfl) (by intro a K D;kernel_rfl)
noncomputable def zuu:ArgT (Int×Int×Unit):=(ArgT.cons (Ty.leaf (.int .i64)) (ArgT.cons (Ty.leaf (.int .i64)) ArgT.nil))
noncomputable def zv4:Ty Int:=(Ty.leaf (.int .i64))
noncomputable def zgq:FSem:=mkE zuu zv4 (λa=>F.zed a.1 a.2.1)
noncomputable def zw0:Cfg:={ P:=Go.Proofs.Tryz.prog,n:=20,tab:=[(190,zop)],mutL:=[],rtL:=[],locL:=[] }
noncomputable def zvp:Code:=match Go.Proofs.Tryz.f182.body with | some c=>c | none=>.skip
noncomputable def zve:An:=(.seq .leaf (.seq .leaf (.seq .leaf (.seq (.seq .leaf (.cond (.seq (.seq .leaf (.cond (.seq .leaf .leaf) .leaf)) (.seq .leaf .leaf)) .leaf)) (.seq (.seq .leaf (.cond (.seq .leaf .leaf) .leaf)) (.seq (.seq .leaf (.cond (.seq .leaf .leaf) .leaf)) (.seq (.seq .leaf (.cond (.seq .leaf .leaf) .leaf)) (.seq .leaf .leaf))))))))
theorem zm5:Entry Go.Proofs.Tryz.prog 182 zgq false:=
 za0 (C:=zw0) (fn:=Go.Proofs.Tryz.f182) (c:=zvp) (an:=zve) ⟨za2t,trivial⟩ trivial Go.Proofs.Tryz.func182 rfl rfl (by decide) (λ_=>rfl) (by intro a K D;kernel_rfl)
noncomputable def zsy:ArgT (Int×Unit):=(ArgT.cons (Ty.leaf (.int .u32)) ArgT.nil)
noncomputable def zt8:Ty Bool:=(Ty.leaf .bool)
noncomputable def zkl:FSem:=mkE zsy zt8 (λa=>F.zdk a.1)
noncomputable def zu3:Cfg:={ P:=Go.Proofs.Tryz.prog,n:=6,tab:=[],mutL:=[],rtL:=[],locL:=[] }
noncomputable def zts:Code:=match Go.Proofs.Tryz.f192.body with | some c=>c | none=>.skip
noncomputable def zti:An:=(.seq .leaf (.seq .leaf .leaf))
theorem zuo:Entry Go.Proofs.Tryz.prog 192 zkl false:=
 za0 (C:=zu3) (fn:=Go.Proofs.Tryz.f192) (c:=zts) (an:=zti) trivial trivial Go.Proofs.Tryz.func192 rfl rfl (by decide) (λ_=>rfl) (by intro a K D;kernel_rfl)
noncomputable def zp2:ArgT (Int×Int×Unit):=(ArgT.cons (Ty.leaf (.int .u32)) (ArgT.cons (Ty.leaf (.int .u32)) ArgT.nil))
noncomputable def zp5:Ty Int:=(Ty.leaf (.int .i64))
noncomputable def zir:FSem:=mkE zp2 zp5 (λa=>F.ze1 a.1 a.2.1)
noncomputable def zpf:Cfg:={ P:=Go.Proofs.Tryz.prog,n:=20,tab:=[(192,zkl)],mutL:=[],rtL:=[],locL:=[] }
noncomputable def zpc:Code:=match Go.Proofs.Tryz.f187.body with | some c=>c | none=>.skip
noncomputable def zp8:An:=(.seq .leaf (.seq .leaf (.seq .leaf (.seq (.seq .leaf (.cond (.seq (.seq .leaf (.cond (.seq .leaf .leaf) .leaf)) (.seq .leaf .leaf)) .leaf)) (.seq (.seq .leaf (.cond (.seq .leaf .leaf) .leaf)) (.seq (.seq .leaf (.cond (.seq .leaf .leaf) .leaf)) (.seq (.seq .leaf (.cond (.seq .leaf .leaf) .leaf)) (.seq .leaf .leaf))))))))
theorem zqf:Entry Go.Proofs.Tryz.prog 187 zir false:=
 za0 (C:=zpf) (fn:=Go.Proofs.Tryz.f187) (c:=zpc) (an:=zp8) ⟨zuo,trivial⟩ trivial Go.Proofs.Tryz.func187 rfl rfl (by decide) (λ_=>rfl) (by intro a K D;kernel_rfl)
noncomputable def zuw:ArgT (Sl×Sl×Unit):=(ArgT.cons (Ty.leaf .sl) (ArgT.cons (Ty.leaf .sl) ArgT.nil))
noncomputable def zv6:Ty Int:=(Ty.leaf (.int .i64))
noncomputable def zel:FSem:=mkE zuw zv6 (λa=>F.zcc a.1 a.2.1)
noncomputable def zw2:Cfg:={ P:=Go.Proofs.Tryz.prog,n:=41,tab:=[(182,zgq),(187,zir)],mutL:=[],rtL:=[],locL:=[] }
noncomputable def zvr:Code:=match Go.Proofs.Tryz.f163.body with | some c=>c | none=>.skip
noncomputable def zvg:An:=(.seq .leaf (.seq (.seq .leaf (.cond (.seq .leaf .leaf) .leaf)) (.seq (.seq .leaf (.block (.loop [(5,.leaf (.int .i64))] (.seq (.seq .leaf (.cond .leaf .leaf)) (.seq (.block (.seq (.draw [0,1,2,3,4,5,6,7,8]) (.cond (.seq (.draw [0,1,2,3,4,5,6,7,8,9]) .leaf) .leaf))) .leaf))))) (.seq .leaf .leaf))))
theorem zhf:Entry Go.Proofs.Tryz.prog 163 zel false:=
 za0 (C:=zw2) (fn:=Go.Proofs.Tryz.f163) (c:=zvr) (an:=zvg) ⟨zm5,zqf,trivial⟩ trivial Go.Proofs.Tryz.func163 rfl rfl (by decide) (λ_=>rfl) (by intro a K D;kernel_rfl)
noncomputable def zp3:ArgT (Sl×Int×Unit):=(ArgT.cons (Ty.leaf .sl) (ArgT.cons (Ty.leaf (.int .u32)) ArgT.nil))
noncomputable def zp6:Ty (Sl×Sl):=(Ty.tup (.cons (Ty.leaf .sl) (.cons (Ty.leaf .sl) .nil)) (λx=>(x.1,x.2,())) (λy=>(y.1,y.2.1)) (λ_=>rfl) (λ_=>rfl))
noncomputable def zis:FSem:=mkE zp3 zp6 (λa=>F.ze3 a.1 a.2.1)
noncomputable def zpg:Cfg:={ P:=Go.Proofs.Tryz.prog,n:=43,tab:=[(139,zaj),(138,zcj)],mutL:=[],rtL:=[],locL:=[] }
noncomputable def zpd:Code:=match Go.Proofs.Tryz.f167.body with | some c=>c | none=>.skip
noncomputable def zp9:An:=(.seq .leaf (.seq .leaf (.seq .leaf (.seq (.seq .leaf (.block (.loop [(7,.leaf (.int .u64)),(8,.leaf (.int .i64))] (.seq (.seq .leaf (.cond .leaf .leaf)) (.seq (.block (.seq .leaf (.seq .leaf .leaf))) .leaf))))) (.seq .leaf .leaf)))))
theorem zqg:Entry Go.Proofs.Tryz.prog 167 zis false:=
 za0 (C:=zpg) (fn:=Go.Proofs.Tryz.f167) (c:=zpd) (an:=zp9) ⟨zan,ze9,trivial⟩ trivial Go.Proofs.Tryz.func167 rfl rfl (by decide) (λ_=>rfl) (by intro a K D;kernel_rfl)
noncomputable def zuy:ArgT (Int×Unit):=(ArgT.cons (Ty.leaf (.int .u32)) ArgT.nil)
noncomputable def zv8:Ty Int:=(Ty.leaf (.int .i64))
noncomputable def zlh:FSem:=mkE zuy zv8 (λa=>F.zfx a.1)
noncomputable def zw4:Cfg:={ P:=Go.Proofs.Tryz.prog,n:=19,tab:=[],mutL:=[],rtL:=[],locL:=[] }
noncomputable def zvt:Code:=match Go.Proofs.Tryz.f188.body with | some c=>c | none=>.skip
noncomputable def zvi:An:=(.seq .leaf (.join [(0,.leaf (.int .u32)),(2,.leaf (.int .i64))] (.seq .leaf (.cond (.seq .leaf .leaf) .leaf)) (.join [(0,.leaf (.int .u32)),(2,.leaf (.int .i64))] (.seq .leaf (.cond (.seq .leaf .leaf) .leaf)) (.seq .leaf .leaf))))
theorem zx2:Entry Go.Proofs.Tryz.prog 188 zlh false:=
 za0 (C:=zw4) (fn:=Go.Proofs.Tryz.f188) (c:=zvt) (an:=zvi) trivial trivial Go.Proofs.Tryz.func188 rfl rfl (by decide) (λ_=>rfl) (by intro a K D;kernel_rfl)
noncomputable def zke:ArgT (Int×Unit):=(ArgT.cons (Ty.leaf (.int .u32)) ArgT.nil)
noncomputable def zkf:Ty Int:=(Ty.leaf (.int .i64))
noncomputable def zeo:FSem:=mkE zke zkf (λa=>F.zc2 a.1)
noncomputable def zki:Cfg:={ P:=Go.Proofs.Tryz.prog,n:=6,tab:=[(188,zlh)],mutL:=[],rtL:=[],locL:=[] }
noncomputable def zkh:Code:=match Go.Proofs.Tryz.f168.body with | some c=>c | none=>.skip
noncomputable def zkg:An:=(.seq .leaf (.seq .leaf .leaf))
theorem zl4:Entry Go.Proofs.Tryz.prog 168 zeo false:=
 za0 (C:=zki) (fn:=Go.Proofs.Tryz.f168) (c:=zkh) (an:=zkg) ⟨zx2,trivial⟩ trivial Go.Proofs.Tryz.func168 rfl rfl (by decide) (λ_=>rfl) (by intro a K D;kernel_rfl)
noncomputable def zre:ArgT (Sl×Int×Unit):=(ArgT.cons (Ty.leaf .sl) (ArgT.cons (Ty.leaf (.int .i64)) ArgT.nil))
noncomputable def zrk:Ty Sl:=(Ty.leaf .sl)
noncomputable def zjk:FSem:=mkE zre zrk (λa=>F.zca a.1 a.2.1)
noncomputable def zrz:Cfg:={ P:=Go.Proofs.Tryz.prog,n:=41,tab:=[],mutL:=[],rtL:=[],locL:=[] }
noncomputable def zru:Code:=match Go.Proofs.Tryz.f169.body with | some c=>c | none=>.skip
noncomputable def zrp:An:=(.seq .leaf (.seq .leaf (.seq (.seq .leaf (.block (.loop [(15,.leaf (.int .i64))] (.seq .leaf (.seq (.cond .leaf .leaf) (.seq (.block (.seq .leaf (.seq .leaf (.seq .leaf .leaf)))) .leaf)))))) (.seq .leaf .leaf))))
theorem zs5:Entry Go.Proofs.Tryz.prog 169 zjk false:=
 za0 (C:=zrz) (fn:=Go.Proofs.Tryz.f169) (c:=zru) (an:=zrp) trivial trivial Go.Proofs.Tryz.func169 rfl rfl (by decide) (λ_=>rfl) (by intro a K D;kernel_rfl)
noncomputable def zt0:ArgT (Sl×Sl×Int×Unit):=(ArgT.cons (Ty.leaf .sl) (ArgT.cons (Ty.leaf .sl) (ArgT.cons (Ty.leaf (.int .u64)) ArgT.nil)))
noncomputable def zta:Ty Bool:=(Ty.leaf .bool)
noncomputable def zkn:FSem:=mkM zt0 zta (λa=>F.zf0 a.1 a.2.1 a.2.2.1)
noncomputable def zu5:Cfg:={ P:=Go.Proofs.Tryz.prog,n:=63,tab:=[],mutL:=[],rtL:=[],locL:=[] }
noncomputable def ztu:Code:=match Go.Proofs.Tryz.f170.body with | some c=>c | none=>.skip
noncomputable def ztk:An:=(.seq .leaf (.seq .leaf (.seq (.seq .leaf (.block (.loop [(7,.leaf (.int .u64)),(15,.leaf (.int .i64))] (.seq .leaf (.seq (.cond .leaf .leaf) (.seq (.block (.seq .leaf (.seq .leaf (.seq .leaf (.seq .leaf .leaf))))) .leaf)))))) (.seq .leaf (.seq .leaf (.seq .leaf .leaf))))))
theorem zup:Entry Go.Proofs.Tryz.prog 170 zkn true:=
 zad1 (C:=zu5) (fn:=Go.Proofs.Tryz.f170) (c:=ztu) (an:=ztk) trivial trivial Go.Proofs.Tryz.func170 rfl rfl (by decide) (λ_=>rfl) (by intro a K D;kernel_rfl)
noncomputable def zux:ArgT (Sl×Sl×Unit):=(ArgT.cons (Ty.leaf .sl) (ArgT.cons (Ty.leaf .sl) ArgT.nil))
noncomputable def zv7:Ty Unit:=Ty.unit
noncomputable def zlg:FSem:=mkM zux zv7 (λa=>F.zfv a.1 a.2.1)
noncomputable def zw3:Cfg:={ P:=Go.Proofs.Tryz.prog,n:=41,tab:=[],mutL:=[],rtL:=[],locL:=[] }
noncomputable def zvs:Code:=match Go.Proofs.Tryz.f171.body with | some c=>c | none=>.skip
noncomputable def zvh:An:=(.seq .leaf (.seq (.seq .leaf (.block (.loop [(4,.leaf (.int .u64)),(9,.leaf (.int .i64))] (.seq .leaf (.seq (.cond .leaf .leaf) (.seq (.block (.seq .leaf (.seq .leaf (.seq .leaf .leaf)))) .leaf)))))) .leaf))
theorem zx1:Entry Go.Proofs.Tryz.prog 171 zlg true:=
 zad1 (C:=zw3) (fn:=Go.Proofs.Tryz.f171) (c:=zvs) (an:=zvh) trivial trivial Go.Proofs.Tryz.func171 rfl rfl (by decide) (λ_=>rfl) (by intro a K D;kernel_rfl)
end Den
end
