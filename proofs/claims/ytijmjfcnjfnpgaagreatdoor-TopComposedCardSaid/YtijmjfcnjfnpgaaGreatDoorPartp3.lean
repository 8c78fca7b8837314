/-
  Part 3 of the tools and contracts from which the statement is proved.
-/
import Derived.Test.YtijmjfcnjfnpgaaGreatDoorPartp2
import Derived.Lib.Bytealg
set_option linter.all false
open Go.IntKind
section
set_option maxRecDepth 10000
namespace Den
open Go
structure TSketch where
 points:Sl
 circles:Sl
 segments:Sl
 arcs:Sl
 chains:Sl
 constraints:Sl
def z00:Ty TSketch:=Ty.agg [.sl,.sl,.sl,.sl,.sl,.sl] (λx=>(x.points,x.circles,x.segments,x.arcs,x.chains,x.constraints,())) (λy=>⟨y.1,y.2.1,y.2.2.1,y.2.2.2.1,y.2.2.2.2.1,y.2.2.2.2.2.1⟩) (λ_=>rfl) (λ_=>rfl)
structure TPoint where
 x:TRat
 y:TRat
def zpf:Ty TPoint:=Ty.agg [.bool,.sl,.bool,.sl,.bool,.sl,.bool,.sl] (λx=>(x.x.num.neg,x.x.num.mag,x.x.den.neg,x.x.den.mag,x.y.num.neg,x.y.num.mag,x.y.den.neg,x.y.den.mag,())) (λy=>⟨⟨⟨y.1,y.2.1⟩,⟨y.2.2.1,y.2.2.2.1⟩⟩,⟨⟨y.2.2.2.2.1,y.2.2.2.2.2.1⟩,⟨y.2.2.2.2.2.2.1,y.2.2.2.2.2.2.2.1⟩⟩⟩) (λ_=>rfl) (λ_=>rfl)
structure TRound where
 center:Int
 radius:TRat
def zpg:Ty TRound:=Ty.agg [.int .i64,.bool,.sl,.bool,.sl] (λx=>(x.center,x.radius.num.neg,x.radius.num.mag,x.radius.den.neg,x.radius.den.mag,())) (λy=>⟨y.1,⟨⟨y.2.1,y.2.2.1⟩,⟨y.2.2.2.1,y.2.2.2.2.1⟩⟩⟩) (λ_=>rfl) (λ_=>rfl)
structure TSegment where
 a:Int
 b:Int
def ziq:Ty TSegment:=Ty.agg [.int .i64,.int .i64] (λx=>(x.a,x.b,())) (λy=>⟨y.1,y.2.1⟩) (λ_=>rfl) (λ_=>rfl)
structure TArc where
 circle:Int
 a:Int
 b:Int
 cw:Bool
def zu0:Ty TArc:=Ty.agg [.int .i64,.int .i64,.int .i64,.bool] (λx=>(x.circle,x.a,x.b,x.cw,())) (λy=>⟨y.1,y.2.1,y.2.2.1,y.2.2.2.1⟩) (λ_=>rfl) (λ_=>rfl)
structure TPiece where
 arc:Bool
 index:Int
 back:Bool
def Z6q:Ty TPiece:=Ty.agg [.bool,.int .i64,.bool] (λx=>(x.arc,x.index,x.back,())) (λy=>⟨y.1,y.2.1,y.2.2.1⟩) (λ_=>rfl) (λ_=>rfl)
structure TConstraint where
 kind:Int
 points:Sl
 circles:Sl
 values:Sl
 side:Int
def Q8:Ty TConstraint:=Ty.agg [.int .i64,.sl,.sl,.sl,.int .i64] (λx=>(x.kind,x.points,x.circles,x.values,x.side,())) (λy=>⟨y.1,y.2.1,y.2.2.1,y.2.2.2.1,y.2.2.2.2.1⟩) (λ_=>rfl) (λ_=>rfl)
structure Tconstraint_Shape where
 points:Int
 circles:Int
 values:Int
 equations:Int
 side:Bool
 length:Bool
 positive:Bool
def zb5:Ty Tconstraint_Shape:=Ty.agg [.int .i64,.int .i64,.int .i64,.int .i64,.bool,.bool,.bool] (λx=>(x.points,x.circles,x.values,x.equations,x.side,x.length,x.positive,())) (λy=>⟨y.1,y.2.1,y.2.2.1,y.2.2.2.1,y.2.2.2.2.1,y.2.2.2.2.2.1,y.2.2.2.2.2.2.1⟩) (λ_=>rfl) (λ_=>rfl)
structure TExpr where
 op:Int
 value:TRat
 name:ByteArray
 args:Sl
def z8u:Ty TExpr:=Ty.agg [.int .i64,.bool,.sl,.bool,.sl,.str,.sl] (λx=>(x.op,x.value.num.neg,x.value.num.mag,x.value.den.neg,x.value.den.mag,x.name,x.args,())) (λy=>⟨y.1,⟨⟨y.2.1,y.2.2.1⟩,⟨y.2.2.2.1,y.2.2.2.2.1⟩⟩,y.2.2.2.2.2.1,y.2.2.2.2.2.2.1⟩) (λ_=>rfl) (λ_=>rfl)
structure TPlan where
 steps:Sl
 checks:Sl
structure TStep where
 kind:Int
 target:Int
 uses:Sl
 branch:Int
structure TGraph where
 n:Int
 edges:Sl
def Xp:Ty TGraph:=Ty.agg [.int .i64,.sl] (λx=>(x.n,x.edges,())) (λy=>⟨y.1,y.2.1⟩) (λ_=>rfl) (λ_=>rfl)
structure A2_Int where
 c0:Int
 c1:Int
def z4k:Ty A2_Int:=Ty.agg [.int .i64,.int .i64] (λx=>(x.c0,x.c1,())) (λy=>⟨y.1,y.2.1⟩) (λ_=>rfl) (λ_=>rfl)
namespace F
def z3l(c:Sl)(K:Bool->Hp->Prop)(h:Hp):Prop:=(K (decide ((c.len:Int)>200)) h)
def yk(s:Sl)(K:Int->Hp->Prop)(h:Hp):Prop:=(zr (S:=Int×Unit) (λs1 k2 h1=>(ifP (decide (s1.1<(s.len:Int))) (zg s s1.1 1 λa3=>(ldL (.sl) a3 (λx4=>(zc (z3l x4) (λr5 h2=>(ifP r5 (K s1.1 h2) (k2 ((i64.wrap (s1.1+1)),()) h2))) h1)) h1)) (K (-1) h1))) (0,()) h)
def Z8(s:Sl)(K:Bool->Hp->Prop)(h:Hp):Prop:=(zc (yk s) (λr1 h1=>(K (decide (r1>=0)) h1)) h)
def z2z(s:TSketch)(K:Bool->Hp->Prop)(h:Hp):Prop:=(Yu [.int .i64 (s.points.len:Int),.int .i64 (s.circles.len:Int),.int .i64 (s.segments.len:Int),.int .i64 (s.arcs.len:Int),.int .i64 (s.chains.len:Int),.int .i64 (s.constraints.len:Int)] (λp1 h1=>(zr (S:=Int×Unit) (λs2 k3 h2=>(ifP (decide (s2.1<((⟨some p1,6,6⟩:Sl).len:Int))) (zg (⟨some p1,6,6⟩:Sl) s2.1 1 λa4=>(ldL (.int .i64) a4 (λx5=>(ifP (decide (x5>200)) (K true h2) (k3 ((i64.wrap (s2.1+1)),()) h2))) h2)) (zc (Z8 s.chains) (λr6 h3=>(K r6 h3)) h2))) (0,()) h1)) h)
def z6b(p:TPoint)(K:Bool->Hp->Prop)(h:Hp):Prop:=(zc (qt p.x) (λr1 h1=>(ifP r1 (zc (qt p.y) (λr2 h2=>(K r2 h2)) h1) (K false h1))) h)
def qa(x:TPoint)(v0:(Option Addr))(K:Bool->Hp->Prop)(h:Hp):Prop:=(ym v0 λp1=>(ldL (.val) p1 (λx2=>(x2=.func (.func 72) #[] #[] /\ (zc (z6b x) (λr3 h1=>(K (!r3) h1)) h))) h))
def Zi(s:Sl)(f1:(Option Addr×Unit))(K:Int->Hp->Prop)(h:Hp):Prop:=(zr (S:=Int×Unit) (λs1 k2 h1=>(ifP (decide (s1.1<(s.len:Int))) (zg s s1.1 8 λa3=>(ldL (.bool) (a3.add 0) (λx4_0=>(ldL (.sl) (a3.add 1) (λx4_1=>(ldL (.bool) (a3.add 2) (λx4_2=>(ldL (.sl) (a3.add 3) (λx4_3=>(ldL (.bool) (a3.add 4) (λx4_4=>(ldL (.sl) (a3.add 5) (λx4_5=>(ldL (.bool) (a3.add 6) (λx4_6=>(ldL (.sl) (a3.add 7) (λx4_7=>(zc (qa (⟨(⟨(⟨x4_0,x4_1⟩:TInt),(⟨x4_2,x4_3⟩:TInt)⟩:TRat),(⟨(⟨x4_4,x4_5⟩:TInt),(⟨x4_6,x4_7⟩:TInt)⟩:TRat)⟩:TPoint) f1.1) (λr5 h2=>(ifP r5 (K s1.1 h2) (k2 ((i64.wrap (s1.1+1)),()) h2))) h1)) h1)) h1)) h1)) h1)) h1)) h1)) h1)) h1)) (K (-1) h1))) (0,()) h)
def Zd(s:Sl)(f1:(Option Addr×Unit))(K:Bool->Hp->Prop)(h:Hp):Prop:=(zc (Zi s (f1.1,())) (λr1 h1=>(K (decide (r1>=0)) h1)) h)
def Ym(l:Sl)(K:Bool->Hp->Prop)(h:Hp):Prop:=(Yu [.func (.func 72) #[] #[]] (λp1 h1=>(zc (Zd l ((some p1),())) (λr2 h2=>(K (!r2) h2)) h1)) h)
def W0(n:Int)(i:Int)(K:Bool->Hp->Prop)(h:Hp):Prop:=(ifP (decide (i>=0)) (K (decide (i<n)) h) (K false h))
def z6c(c:TRound)(v0:(Option Addr))(K:Bool->Hp->Prop)(h:Hp):Prop:=(ym v0 λp1=>(ldL (.int .i64) p1 (λx2=>(zc (W0 x2 c.center) (λr3 h1=>(ifP r3 (zc (qt c.radius) (λr4 h2=>(ifP r4 (zc (Qj c.radius) (λr5 h3=>(K (decide (r5>0)) h3)) h2) (K false h2))) h1) (K false h1))) h)) h))
def qb(x:TRound)(v0:(Option Addr))(K:Bool->Hp->Prop)(h:Hp):Prop:=(ym v0 λp1=>(ldL (.val) p1 (λx2=>∃c3:Option Addr,(x2=.func (.func 75) #[] #[.pointer c3] /\ (zc (z6c x c3) (λr4 h1=>(K (!r4) h1)) h))) h))
def Zj(s:Sl)(f1:(Option Addr×Unit))(K:Int->Hp->Prop)(h:Hp):Prop:=(zr (S:=Int×Unit) (λs1 k2 h1=>(ifP (decide (s1.1<(s.len:Int))) (zg s s1.1 5 λa3=>(ldL (.int .i64) (a3.add 0) (λx4_0=>(ldL (.bool) (a3.add 1) (λx4_1=>(ldL (.sl) (a3.add 2) (λx4_2=>(ldL (.bool) (a3.add 3) (λx4_3=>(ldL (.sl) (a3.add 4) (λx4_4=>(zc (qb (⟨x4_0,(⟨(⟨x4_1,x4_2⟩:TInt),(⟨x4_3,x4_4⟩:TInt)⟩:TRat)⟩:TRound) f1.1) (λr5 h2=>(ifP r5 (K s1.1 h2) (k2 ((i64.wrap (s1.1+1)),()) h2))) h1)) h1)) h1)) h1)) h1)) h1)) (K (-1) h1))) (0,()) h)
def Ze(s:Sl)(f1:(Option Addr×Unit))(K:Bool->Hp->Prop)(h:Hp):Prop:=(zc (Zj s (f1.1,())) (λr1 h1=>(K (decide (r1>=0)) h1)) h)
def Yn(l:Sl)(f1:(Option Addr×Unit))(K:Bool->Hp->Prop)(h:Hp):Prop:=(Yu [.func (.func 75) #[] #[.pointer f1.1]] (λp1 h1=>(zc (Ze l ((some p1),())) (λr2 h2=>(K (!r2) h2)) h1)) h)
def z6d(g:TSegment)(v0:(Option Addr))(K:Bool->Hp->Prop)(h:Hp):Prop:=(ym v0 λp1=>(ldL (.int .i64) p1 (λx2=>(zc (W0 x2 g.a) (λr3 h1=>(ifP r3 (ym v0 λp4=>(ldL (.int .i64) p4 (λx5=>(zc (W0 x5 g.b) (λr6 h2=>(ifP r6 (K (g.a != g.b) h2) (K false h2))) h1)) h1)) (K false h1))) h)) h))
def Y2(x:TSegment)(v0:(Option Addr))(K:Bool->Hp->Prop)(h:Hp):Prop:=(ym v0 λp1=>(ldL (.val) p1 (λx2=>∃c3:Option Addr,(x2=.func (.func 79) #[] #[.pointer c3] /\ (zc (z6d x c3) (λr4 h1=>(K (!r4) h1)) h))) h))
def z7(s:Sl)(f1:(Option Addr×Unit))(K:Int->Hp->Prop)(h:Hp):Prop:=(zr (S:=Int×Unit) (λs1 k2 h1=>(ifP (decide (s1.1<(s.len:Int))) (zg s s1.1 2 λa3=>(ldL (.int .i64) (a3.add 0) (λx4_0=>(ldL (.int .i64) (a3.add 1) (λx4_1=>(zc (Y2 (⟨x4_0,x4_1⟩:TSegment) f1.1) (λr5 h2=>(ifP r5 (K s1.1 h2) (k2 ((i64.wrap (s1.1+1)),()) h2))) h1)) h1)) h1)) (K (-1) h1))) (0,()) h)
def zz(s:Sl)(f1:(Option Addr×Unit))(K:Bool->Hp->Prop)(h:Hp):Prop:=(zc (z7 s (f1.1,())) (λr1 h1=>(K (decide (r1>=0)) h1)) h)
def Yc(l:Sl)(f1:(Option Addr×Unit))(K:Bool->Hp->Prop)(h:Hp):Prop:=(Yu [.func (.func 79) #[] #[.pointer f1.1]] (λp1 h1=>(zc (zz l ((some p1),())) (λr2 h2=>(K (!r2) h2)) h1)) h)
def z1t(s:TSketch)(a:TArc)(K:Bool->Hp->Prop)(h:Hp):Prop:=(Zb (S:=Unit) (λs1 h1=>(zg s.circles a.circle 5 λa3=>(ldL (.int .i64) (a3.add 0) (λx4=>(ifP (a.a != x4) (K (a.b != x4) h1) (K false h1))) h1))) (λk2=>(zc (W0 (s.circles.len:Int) a.circle) (λr5 h2=>(ifP (!r5) (K false h2) (zc (W0 (s.points.len:Int) a.a) (λr6 h3=>(ifP (!r6) (K false h3) (zc (W0 (s.points.len:Int) a.b) (λr7 h4=>(ifP (!r7) (K false h4) (k2 () h4))) h3))) h2))) h)))
def z6e(a:TArc)(v0:(Option Addr))(K:Bool->Hp->Prop)(h:Hp):Prop:=(ym v0 λp1=>(ldL (.sl) (p1.add 0) (λx2_0=>(ldL (.sl) (p1.add 1) (λx2_1=>(ldL (.sl) (p1.add 2) (λx2_2=>(ldL (.sl) (p1.add 3) (λx2_3=>(ldL (.sl) (p1.add 4) (λx2_4=>(ldL (.sl) (p1.add 5) (λx2_5=>(zc (z1t (⟨x2_0,x2_1,x2_2,x2_3,x2_4,x2_5⟩:TSketch) a) (λr3 h1=>(K r3 h1)) h)) h)) h)) h)) h)) h)) h))
def qu(x:TArc)(v0:(Option Addr))(K:Bool->Hp->Prop)(h:Hp):Prop:=(ym v0 λp1=>(ldL (.val) p1 (λx2=>∃c3:Option Addr,(x2=.func (.func 81) #[] #[.pointer c3] /\ (zc (z6e x c3) (λr4 h1=>(K (!r4) h1)) h))) h))
def Zr(s:Sl)(f1:(Option Addr×Unit))(K:Int->Hp->Prop)(h:Hp):Prop:=(zr (S:=Int×Unit) (λs1 k2 h1=>(ifP (decide (s1.1<(s.len:Int))) (zg s s1.1 4 λa3=>(ldL (.int .i64) (a3.add 0) (λx4_0=>(ldL (.int .i64) (a3.add 1) (λx4_1=>(ldL (.int .i64) (a3.add 2) (λx4_2=>(ldL (.bool) (a3.add 3) (λx4_3=>(zc (qu (⟨x4_0,x4_1,x4_2,x4_3⟩:TArc) f1.1) (λr5 h2=>(ifP r5 (K s1.1 h2) (k2 ((i64.wrap (s1.1+1)),()) h2))) h1)) h1)) h1)) h1)) h1)) (K (-1) h1))) (0,()) h)
def Zl(s:Sl)(f1:(Option Addr×Unit))(K:Bool->Hp->Prop)(h:Hp):Prop:=(zc (Zr s (f1.1,())) (λr1 h1=>(K (decide (r1>=0)) h1)) h)
def Yv(l:Sl)(f1:(Option Addr×Unit))(K:Bool->Hp->Prop)(h:Hp):Prop:=(Yu [.func (.func 81) #[] #[.pointer f1.1]] (λp1 h1=>(zc (Zl l ((some p1),())) (λr2 h2=>(K (!r2) h2)) h1)) h)
def z4j(s:TSketch)(p:TPiece)(K:(Int×Int)->Hp->Prop)(h:Hp):Prop:=(Zb (S:=Int×Int×Unit) (λs1 h1=>(ifP p.back (K (s1.2.1,s1.1) h1) (K (s1.1,s1.2.1) h1))) (λk2=>(ifP p.arc (zg s.arcs p.index 4 λa3=>(ldL (.int .i64) (a3.add 1) (λx4=>(zg s.arcs p.index 4 λa5=>(ldL (.int .i64) (a5.add 2) (λx6=>(k2 (x4,x6,()) h)) h))) h)) (zg s.segments p.index 2 λa7=>(ldL (.int .i64) (a7.add 0) (λx8=>(zg s.segments p.index 2 λa9=>(ldL (.int .i64) (a9.add 1) (λx10=>(k2 (x8,x10,()) h)) h))) h)))))
def z02(s:TSketch)(c:Sl)(K:Bool->Hp->Prop)(h:Hp):Prop:=(zr (S:=Int×Int×Unit) (λs1 k2 h1=>(ifP (decide (s1.2.1<(c.len:Int))) (Zb (S:=Int×Unit) (λs3 h2=>(k2 (s3.1,(i64.wrap (s1.2.1+1)),()) h2)) (λk4=>(zg c s1.2.1 3 λa5=>(ldL (.bool) (a5.add 0) (λx6_0=>(ldL (.int .i64) (a5.add 1) (λx6_1=>(ldL (.bool) (a5.add 2) (λx6_2=>(Zb (S:=Int×Unit) (λs7 h3=>(zc (W0 s7.1 x6_1) (λr9 h4=>(ifP (!r9) (K false h4) (zc (z4j s (⟨x6_0,x6_1,x6_2⟩:TPiece)) (λr10 h5=>(ifP (decide (s1.2.1>0)) (ifP (r10.1 != s1.1) (K false h5) (k4 (r10.2,()) h5)) (k4 (r10.2,()) h5))) h4))) h3)) (λk8=>(ifP x6_0 (k8 ((s.arcs.len:Int),()) h1) (k8 ((s.segments.len:Int),()) h1))))) h1)) h1)) h1)))) (K (decide ((c.len:Int)>0)) h1))) ((-1),0,()) h)
def z6f(c:Sl)(v0:(Option Addr))(K:Bool->Hp->Prop)(h:Hp):Prop:=(ym v0 λp1=>(ldL (.sl) (p1.add 0) (λx2_0=>(ldL (.sl) (p1.add 1) (λx2_1=>(ldL (.sl) (p1.add 2) (λx2_2=>(ldL (.sl) (p1.add 3) (λx2_3=>(ldL (.sl) (p1.add 4) (λx2_4=>(ldL (.sl) (p1.add 5) (λx2_5=>(zc (z02 (⟨x2_0,x2_1,x2_2,x2_3,x2_4,x2_5⟩:TSketch) c) (λr3 h1=>(K r3 h1)) h)) h)) h)) h)) h)) h)) h))
def Y9(x:Sl)(v0:(Option Addr))(K:Bool->Hp->Prop)(h:Hp):Prop:=(ym v0 λp1=>(ldL (.val) p1 (λx2=>∃c3:Option Addr,(x2=.func (.func 84) #[] #[.pointer c3] /\ (zc (z6f x c3) (λr4 h1=>(K (!r4) h1)) h))) h))
def Zh(s:Sl)(f1:(Option Addr×Unit))(K:Int->Hp->Prop)(h:Hp):Prop:=(zr (S:=Int×Unit) (λs1 k2 h1=>(ifP (decide (s1.1<(s.len:Int))) (zg s s1.1 1 λa3=>(ldL (.sl) a3 (λx4=>(zc (Y9 x4 f1.1) (λr5 h2=>(ifP r5 (K s1.1 h2) (k2 ((i64.wrap (s1.1+1)),()) h2))) h1)) h1)) (K (-1) h1))) (0,()) h)
def Zc(s:Sl)(f1:(Option Addr×Unit))(K:Bool->Hp->Prop)(h:Hp):Prop:=(zc (Zh s (f1.1,())) (λr1 h1=>(K (decide (r1>=0)) h1)) h)
def Yl(l:Sl)(f1:(Option Addr×Unit))(K:Bool->Hp->Prop)(h:Hp):Prop:=(Yu [.func (.func 84) #[] #[.pointer f1.1]] (λp1 h1=>(zc (Zc l ((some p1),())) (λr2 h2=>(K (!r2) h2)) h1)) h)
def Xw(kind:Int)(K:(Tconstraint_Shape×Bool)->Hp->Prop)(h:Hp):Prop:=(Zb (S:=(Int×Int×Int×Int×Bool×Bool×Bool×Unit)×Unit) (λs1 h1=>(z9k kind 18 (ldL (.int .i64) ((((⟨0,0,none⟩:Addr).add ((kind:Int).toNat*8)).add 1).add 0) (λx3_0=>(ldL (.int .i64) ((((⟨0,0,none⟩:Addr).add ((kind:Int).toNat*8)).add 1).add 1) (λx3_1=>(ldL (.int .i64) ((((⟨0,0,none⟩:Addr).add ((kind:Int).toNat*8)).add 1).add 2) (λx3_2=>(ldL (.int .i64) ((((⟨0,0,none⟩:Addr).add ((kind:Int).toNat*8)).add 1).add 3) (λx3_3=>(ldL (.bool) ((((⟨0,0,none⟩:Addr).add ((kind:Int).toNat*8)).add 1).add 4) (λx3_4=>(ldL (.bool) ((((⟨0,0,none⟩:Addr).add ((kind:Int).toNat*8)).add 1).add 5) (λx3_5=>(ldL (.bool) ((((⟨0,0,none⟩:Addr).add ((kind:Int).toNat*8)).add 1).add 6) (λx3_6=>(K ((⟨x3_0,x3_1,x3_2,x3_3,x3_4,x3_5,x3_6⟩:Tconstraint_Shape),true) h1)) h1)) h1)) h1)) h1)) h1)) h1)) h1))) (λk2=>(ifP (decide (kind<1)) (K ((⟨0,0,0,0,false,false,false⟩:Tconstraint_Shape),false) h) (ifP (decide (kind>17)) (K ((⟨0,0,0,0,false,false,false⟩:Tconstraint_Shape),false) h) (k2 ((0,0,0,0,false,false,false,()),()) h)))))
def Vn(i:Int)(K:ByteArray->Hp->Prop)(h:Hp):Prop:=(ifP (decide (i<10)) (Yt zL6 i (i64.wrap (i+1)) λc1=>(K c1 h)) (Yt zL1 (i64.wrap (i*2)) (i64.wrap ((i64.wrap (i*2))+2)) λc2=>(K c2 h)))
def z1r(x:Int)(K:Int->Hp->Prop)(h:Hp):Prop:=(Zb (S:=Int×Int×Unit) (λs1 h1=>(Zb (S:=Int×Int×Unit) (λs3 h2=>(Zb (S:=Int×Int×Unit) (λs5 h3=>(Qp zL4 (u8.wrap (s5.1)) λc7=>(K (i64.wrap (s5.2.1+(i64.wrap (c7)))) h3))) (λk6=>(ifP (decide (s3.1>=256)) (0<=(8:Int) /\ (k6 ((s3.1:Int).fdiv (2 ^ (min (8:Int).toNat u64.bits)),(i64.wrap (s3.2.1+8)),()) h2)) (k6 (s3.1,s3.2.1,()) h2))))) (λk4=>(ifP (decide (s1.1>=65536)) (0<=(16:Int) /\ (k4 ((s1.1:Int).fdiv (2 ^ (min (16:Int).toNat u64.bits)),(i64.wrap (s1.2.1+16)),()) h1)) (k4 (s1.1,s1.2.1,()) h1))))) (λk2=>(ifP (decide (x>=4294967296)) (0<=(32:Int) /\ (k2 ((x:Int).fdiv (2 ^ (min (32:Int).toNat u64.bits)),32,()) h)) (k2 (x,0,()) h))))
def X3(x:Int)(K:Int->Hp->Prop)(h:Hp):Prop:=(0<=(18:Int) /\ (K (((i64.wrap (x*78913)):Int).fdiv (2 ^ (min (18:Int).toNat i64.bits))) h))
def X2(b:Bool)(K:Int->Hp->Prop)(h:Hp):Prop:=(ifP b (K 1 h) (K 0 h))
def Ql(d:Int)(K:Int->Hp->Prop)(h:Hp):Prop:=(zc (z1r d) (λr1 h1=>(zc (X3 r1) (λr2 h2=>(z9k r2 20 (ldL (.int .u64) ((⟨2,0,none⟩:Addr).add ((r2:Int).toNat*1)) (λx3=>(zc (X2 (decide (d>=x3))) (λr4 h3=>(K (i64.wrap (r2+r4)) h3)) h2)) h2))) h1)) h)
def ql(a:Sl)(u:Int)(K:Unit->Hp->Prop)(h:Hp):Prop:=(zr (S:=Int×Int×Unit) (λs1 k2 h1=>(ifP (decide (s1.2.1>=8)) ((100000000:Int)≠0 /\ ((100000000:Int)≠0 /\ ((10000:Int)≠0 /\ ((10000:Int)≠0 /\ ((100:Int)≠0 /\ ((100:Int)≠0 /\ ((100:Int)≠0 /\ ((100:Int)≠0 /\ (Qp zL1 (u32.wrap ((u32.wrap ((((((u32.wrap ((s1.1:Int).tmod 100000000)):Int).tmod 10000):Int).tmod 100)*2))+1)) λc3=>(Qp zL1 (u32.wrap ((((((u32.wrap ((s1.1:Int).tmod 100000000)):Int).tmod 10000):Int).tmod 100)*2)) λc4=>(zg a (i64.wrap (s1.2.1-1)) 1 λa5=>(stP a5 [.int .u8 c3] (λh2=>(zg a (i64.wrap (s1.2.1-2)) 1 λa6=>(stP a6 [.int .u8 c4] (λh3=>(Qp zL1 (u32.wrap ((u32.wrap ((u32.wrap (((((u32.wrap ((s1.1:Int).tmod 100000000)):Int).tmod 10000):Int).tdiv 100))*2))+1)) λc7=>(Qp zL1 (u32.wrap ((u32.wrap (((((u32.wrap ((s1.1:Int).tmod 100000000)):Int).tmod 10000):Int).tdiv 100))*2)) λc8=>(zg a (i64.wrap (s1.2.1-3)) 1 λa9=>(stP a9 [.int .u8 c7] (λh4=>(zg a (i64.wrap (s1.2.1-4)) 1 λa10=>(stP a10 [.int .u8 c8] (λh5=>(Qp zL1 (u32.wrap ((u32.wrap ((((u32.wrap (((u32.wrap ((s1.1:Int).tmod 100000000)):Int).tdiv 10000)):Int).tmod 100)*2))+1)) λc11=>(Qp zL1 (u32.wrap ((((u32.wrap (((u32.wrap ((s1.1:Int).tmod 100000000)):Int).tdiv 10000)):Int).tmod 100)*2)) λc12=>(zg a (i64.wrap (s1.2.1-5)) 1 λa13=>(stP a13 [.int .u8 c11] (λh6=>(zg a (i64.wrap (s1.2.1-6)) 1 λa14=>(stP a14 [.int .u8 c12] (λh7=>(Qp zL1 (u32.wrap ((u32.wrap ((u32.wrap (((u32.wrap (((u32.wrap ((s1.1:Int).tmod 100000000)):Int).tdiv 10000)):Int).tdiv 100))*2))+1)) λc15=>(Qp zL1 (u32.wrap ((u32.wrap (((u32.wrap (((u32.wrap ((s1.1:Int).tmod 100000000)):Int).tdiv 10000)):Int).tdiv 100))*2)) λc16=>(zg a (i64.wrap (s1.2.1-7)) 1 λa17=>(stP a17 [.int .u8 c15] (λh8=>(zg a (i64.wrap (s1.2.1-8)) 1 λa18=>(stP a18 [.int .u8 c16] (λh9=>(k2 ((u64.wrap ((s1.1:Int).tdiv 100000000)),(i64.wrap (s1.2.1-8)),()) h9)) h8))) h7))))) h6))) h5))))) h4))) h3))))) h2))) h1)))))))))))) (Zb (S:=Int×Int×Unit) (λs19 h10=>(Zb (S:=Int×Int×Unit) (λs21 h11=>(ifP (decide (s21.1>0)) (zg a 0 1 λa23=>(stP a23 [.int .u8 (u8.wrap ((u32.wrap (48+s21.2.1))))] (λh12=>(K () h12)) h11)) (K () h11))) (λk22=>(ifP (decide (s19.1>=2)) ((100:Int)≠0 /\ ((100:Int)≠0 /\ (Qp zL1 (u32.wrap ((u32.wrap (((s19.2.1:Int).tmod 100)*2))+1)) λc24=>(Qp zL1 (u32.wrap (((s19.2.1:Int).tmod 100)*2)) λc25=>(zg a (i64.wrap (s19.1-1)) 1 λa26=>(stP a26 [.int .u8 c24] (λh13=>(zg a (i64.wrap (s19.1-2)) 1 λa27=>(stP a27 [.int .u8 c25] (λh14=>(k22 ((i64.wrap (s19.1-2)),(u32.wrap ((s19.2.1:Int).tdiv 100)),()) h14)) h13))) h10)))))) (k22 (s19.1,s19.2.1,()) h10))))) (λk20=>(ifP (decide (s1.2.1>=4)) ((10000:Int)≠0 /\ ((10000:Int)≠0 /\ ((100:Int)≠0 /\ ((100:Int)≠0 /\ (Qp zL1 (u32.wrap ((u32.wrap ((((((u32.wrap (s1.1)):Int).tmod 10000):Int).tmod 100)*2))+1)) λc28=>(Qp zL1 (u32.wrap ((((((u32.wrap (s1.1)):Int).tmod 10000):Int).tmod 100)*2)) λc29=>(zg a (i64.wrap (s1.2.1-1)) 1 λa30=>(stP a30 [.int .u8 c28] (λh15=>(zg a (i64.wrap (s1.2.1-2)) 1 λa31=>(stP a31 [.int .u8 c29] (λh16=>(Qp zL1 (u32.wrap ((u32.wrap ((u32.wrap (((((u32.wrap (s1.1)):Int).tmod 10000):Int).tdiv 100))*2))+1)) λc32=>(Qp zL1 (u32.wrap ((u32.wrap (((((u32.wrap (s1.1)):Int).tmod 10000):Int).tdiv 100))*2)) λc33=>(zg a (i64.wrap (s1.2.1-3)) 1 λa34=>(stP a34 [.int .u8 c32] (λh17=>(zg a (i64.wrap (s1.2.1-4)) 1 λa35=>(stP a35 [.int .u8 c33] (λh18=>(k20 ((i64.wrap (s1.2.1-4)),(u32.wrap (((u32.wrap (s1.1)):Int).tdiv 10000)),()) h18)) h17))) h16))))) h15))) h1)))))))) (k20 (s1.2.1,(u32.wrap (s1.1)),()) h1)))))) (u,(a.len:Int),()) h)
def Xt(i:Int)(base:Int)(K:ByteArray->Hp->Prop)(h:Hp):Prop:=(ifP (base==10) (ifP (decide (i<100)) (zc (Vn (i64.wrap (i))) (λr1 h1=>(K r1 h1)) h) (Yu [.int .u8 0,.int .u8 0,.int .u8 0,.int .u8 0,.int .u8 0,.int .u8 0,.int .u8 0,.int .u8 0,.int .u8 0,.int .u8 0,.int .u8 0,.int .u8 0,.int .u8 0,.int .u8 0,.int .u8 0,.int .u8 0,.int .u8 0,.int .u8 0,.int .u8 0,.int .u8 0,.int .u8 0,.int .u8 0,.int .u8 0,.int .u8 0] (λp2 h2=>(zc (Ql i) (λr3 h3=>(slP (⟨some p2,24,24⟩:Sl) 0 r3 1 λc4=>(qg (ql c4 i) (λr5 h4=>(slP (⟨some p2,24,24⟩:Sl) 0 r3 1 λc6=>(Z6l c6 (λt7=>(K t7 h4)) h4))) h3))) h2)) h)) False)
def Wb(i:Int)(base:Int)(K:ByteArray->Hp->Prop)(h:Hp):Prop:=(zc (Xt i base) (λr1 h1=>(K r1 h1)) h)
def z4n(x:Int)(y:Int)(K:(Int×Int)->Hp->Prop)(h:Hp):Prop:=(0<=(32:Int) /\ (0<=(32:Int) /\ (0<=(32:Int) /\ (0<=(32:Int) /\ (0<=(32:Int) /\ (K ((u64.wrap ((u64.wrap ((u64.wrap (((x:Int).fdiv (2 ^ (min (32:Int).toNat u64.bits)))*((y:Int).fdiv (2 ^ (min (32:Int).toNat u64.bits)))))+(((u64.wrap ((u64.wrap (((x:Int).fdiv (2 ^ (min (32:Int).toNat u64.bits)))*(Q2 .and .u64 y 4294967295)))+(((u64.wrap ((Q2 .and .u64 x 4294967295)*(Q2 .and .u64 y 4294967295))):Int).fdiv (2 ^ (min (32:Int).toNat u64.bits))))):Int).fdiv (2 ^ (min (32:Int).toNat u64.bits)))))+(((u64.wrap ((Q2 .and .u64 (u64.wrap ((u64.wrap (((x:Int).fdiv (2 ^ (min (32:Int).toNat u64.bits)))*(Q2 .and .u64 y 4294967295)))+(((u64.wrap ((Q2 .and .u64 x 4294967295)*(Q2 .and .u64 y 4294967295))):Int).fdiv (2 ^ (min (32:Int).toNat u64.bits))))) 4294967295)+(u64.wrap ((Q2 .and .u64 x 4294967295)*((y:Int).fdiv (2 ^ (min (32:Int).toNat u64.bits))))))):Int).fdiv (2 ^ (min (32:Int).toNat u64.bits))))),(u64.wrap (x*y))) h))))))
def z3y(x:Int)(y:Int)(K:(Int×Int)->Hp->Prop)(h:Hp):Prop:=(zc (z4n x y) (λr1 h1=>(K (r1.1,r1.2) h1)) h)
def Qz(s:ByteArray)(prefix_:ByteArray)(K:Bool->Hp->Prop)(h:Hp):Prop:=(ifP (decide (((s:ByteArray).size:Int)>=((prefix_:ByteArray).size:Int))) (Yt s 0 ((prefix_:ByteArray).size:Int) λc1=>(K ((c1:ByteArray).toList==(prefix_:ByteArray).toList) h)) (K false h))
def zm(s:ByteArray)(prefix_:ByteArray)(K:Bool->Hp->Prop)(h:Hp):Prop:=(zc (Qz s prefix_) (λr1 h1=>(K r1 h1)) h)
def Vb(s:ByteArray)(count:Int)(K:ByteArray->Hp->Prop)(h:Hp):Prop:=(ifP (count==0) (K Xx h) (ifP (count==1) (K s h) (Zb (S:=Unit) (λs1 h1=>(zc (z3y (u64.wrap (((s:ByteArray).size:Int))) (u64.wrap (count))) (λr3 h2=>(Zb (S:=Unit) (λs4 h3=>(ifP (((s:ByteArray).size:Int)==0) (K Xx h3) (Zb (S:=Unit) (λs6 h4=>(Zb (S:=Int×Unit) (λs8 h5=>(zww 364 [.pointer none,.slice zf.a zf.len zf.cap] (λp10 h6=>False) h5)) (λk9=>(ifP (decide ((i64.wrap (r3.2))>8192)) ((((s:ByteArray).size:Int):Int)≠0 /\ (ifP ((i64.wrap ((i64.wrap ((8192:Int).tdiv ((s:ByteArray).size:Int)))*((s:ByteArray).size:Int)))==0) (k9 (((s:ByteArray).size:Int),()) h4) (k9 ((i64.wrap ((i64.wrap ((8192:Int).tdiv ((s:ByteArray).size:Int)))*((s:ByteArray).size:Int))),()) h4))) (k9 ((i64.wrap (r3.2)),()) h4))))) (λk7=>(Qp s 0 λc11=>(Zb (S:=Bool×Unit) (λs12 h7=>(ifP s12.1 (ifP (decide ((i64.wrap (r3.2))<=128)) (zc (zm zL7 s) (λr14 h8=>(ifP r14 (Yt zL7 0 (i64.wrap (r3.2)) λc15=>(K c15 h8)) (ifP (decide ((i64.wrap (r3.2))<=128)) (zc (zm zL5 s) (λr16 h9=>(ifP r16 (Yt zL5 0 (i64.wrap (r3.2)) λc17=>(K c17 h9)) (ifP (decide ((i64.wrap (r3.2))<=64)) (zc (zm zL3 s) (λr18 h10=>(ifP r18 (Yt zL3 0 (i64.wrap (r3.2)) λc19=>(K c19 h10)) (ifP (decide ((i64.wrap (r3.2))<=128)) (zc (zm zL2 s) (λr20 h11=>(ifP r20 (Yt zL2 0 (i64.wrap (r3.2)) λc21=>(K c21 h11)) (ifP (decide ((i64.wrap (r3.2))<=64)) (zc (zm zL0 s) (λr22 h12=>(ifP r22 (Yt zL0 0 (i64.wrap (r3.2)) λc23=>(K c23 h12)) (k7 () h12))) h11) (k7 () h11)))) h10) (ifP (decide ((i64.wrap (r3.2))<=64)) (zc (zm zL0 s) (λr24 h13=>(ifP r24 (Yt zL0 0 (i64.wrap (r3.2)) λc25=>(K c25 h13)) (k7 () h13))) h10) (k7 () h10))))) h9) (ifP (decide ((i64.wrap (r3.2))<=128)) (zc (zm zL2 s) (λr26 h14=>(ifP r26 (Yt zL2 0 (i64.wrap (r3.2)) λc27=>(K c27 h14)) (ifP (decide ((i64.wrap (r3.2))<=64)) (zc (zm zL0 s) (λr28 h15=>(ifP r28 (Yt zL0 0 (i64.wrap (r3.2)) λc29=>(K c29 h15)) (k7 () h15))) h14) (k7 () h14)))) h9) (ifP (decide ((i64.wrap (r3.2))<=64)) (zc (zm zL0 s) (λr30 h16=>(ifP r30 (Yt zL0 0 (i64.wrap (r3.2)) λc31=>(K c31 h16)) (k7 () h16))) h9) (k7 () h9)))))) h8) (ifP (decide ((i64.wrap (r3.2))<=64)) (zc (zm zL3 s) (λr32 h17=>(ifP r32 (Yt zL3 0 (i64.wrap (r3.2)) λc33=>(K c33 h17)) (ifP (decide ((i64.wrap (r3.2))<=128)) (zc (zm zL2 s) (λr34 h18=>(ifP r34 (Yt zL2 0 (i64.wrap (r3.2)) λc35=>(K c35 h18)) (ifP (decide ((i64.wrap (r3.2))<=64)) (zc (zm zL0 s) (λr36 h19=>(ifP r36 (Yt zL0 0 (i64.wrap (r3.2)) λc37=>(K c37 h19)) (k7 () h19))) h18) (k7 () h18)))) h17) (ifP (decide ((i64.wrap (r3.2))<=64)) (zc (zm zL0 s) (λr38 h20=>(ifP r38 (Yt zL0 0 (i64.wrap (r3.2)) λc39=>(K c39 h20)) (k7 () h20))) h17) (k7 () h17))))) h8) (ifP (decide ((i64.wrap (r3.2))<=128)) (zc (zm zL2 s) (λr40 h21=>(ifP r40 (Yt zL2 0 (i64.wrap (r3.2)) λc41=>(K c41 h21)) (ifP (decide ((i64.wrap (r3.2))<=64)) (zc (zm zL0 s) (λr42 h22=>(ifP r42 (Yt zL0 0 (i64.wrap (r3.2)) λc43=>(K c43 h22)) (k7 () h22))) h21) (k7 () h21)))) h8) (ifP (decide ((i64.wrap (r3.2))<=64)) (zc (zm zL0 s) (λr44 h23=>(ifP r44 (Yt zL0 0 (i64.wrap (r3.2)) λc45=>(K c45 h23)) (k7 () h23))) h8) (k7 () h8))))))) h7) (ifP (decide ((i64.wrap (r3.2))<=128)) (zc (zm zL5 s) (λr46 h24=>(ifP r46 (Yt zL5 0 (i64.wrap (r3.2)) λc47=>(K c47 h24)) (ifP (decide ((i64.wrap (r3.2))<=64)) (zc (zm zL3 s) (λr48 h25=>(ifP r48 (Yt zL3 0 (i64.wrap (r3.2)) λc49=>(K c49 h25)) (ifP (decide ((i64.wrap (r3.2))<=128)) (zc (zm zL2 s) (λr50 h26=>(ifP r50 (Yt zL2 0 (i64.wrap (r3.2)) λc51=>(K c51 h26)) (ifP (decide ((i64.wrap (r3.2))<=64)) (zc (zm zL0 s) (λr52 h27=>(ifP r52 (Yt zL0 0 (i64.wrap (r3.2)) λc53=>(K c53 h27)) (k7 () h27))) h26) (k7 () h26)))) h25) (ifP (decide ((i64.wrap (r3.2))<=64)) (zc (zm zL0 s) (λr54 h28=>(ifP r54 (Yt zL0 0 (i64.wrap (r3.2)) λc55=>(K c55 h28)) (k7 () h28))) h25) (k7 () h25))))) h24) (ifP (decide ((i64.wrap (r3.2))<=128)) (zc (zm zL2 s) (λr56 h29=>(ifP r56 (Yt zL2 0 (i64.wrap (r3.2)) λc57=>(K c57 h29)) (ifP (decide ((i64.wrap (r3.2))<=64)) (zc (zm zL0 s) (λr58 h30=>(ifP r58 (Yt zL0 0 (i64.wrap (r3.2)) λc59=>(K c59 h30)) (k7 () h30))) h29) (k7 () h29)))) h24) (ifP (decide ((i64.wrap (r3.2))<=64)) (zc (zm zL0 s) (λr60 h31=>(ifP r60 (Yt zL0 0 (i64.wrap (r3.2)) λc61=>(K c61 h31)) (k7 () h31))) h24) (k7 () h24)))))) h7) (ifP (decide ((i64.wrap (r3.2))<=64)) (zc (zm zL3 s) (λr62 h32=>(ifP r62 (Yt zL3 0 (i64.wrap (r3.2)) λc63=>(K c63 h32)) (ifP (decide ((i64.wrap (r3.2))<=128)) (zc (zm zL2 s) (λr64 h33=>(ifP r64 (Yt zL2 0 (i64.wrap (r3.2)) λc65=>(K c65 h33)) (ifP (decide ((i64.wrap (r3.2))<=64)) (zc (zm zL0 s) (λr66 h34=>(ifP r66 (Yt zL0 0 (i64.wrap (r3.2)) λc67=>(K c67 h34)) (k7 () h34))) h33) (k7 () h33)))) h32) (ifP (decide ((i64.wrap (r3.2))<=64)) (zc (zm zL0 s) (λr68 h35=>(ifP r68 (Yt zL0 0 (i64.wrap (r3.2)) λc69=>(K c69 h35)) (k7 () h35))) h32) (k7 () h32))))) h7) (ifP (decide ((i64.wrap (r3.2))<=128)) (zc (zm zL2 s) (λr70 h36=>(ifP r70 (Yt zL2 0 (i64.wrap (r3.2)) λc71=>(K c71 h36)) (ifP (decide ((i64.wrap (r3.2))<=64)) (zc (zm zL0 s) (λr72 h37=>(ifP r72 (Yt zL0 0 (i64.wrap (r3.2)) λc73=>(K c73 h37)) (k7 () h37))) h36) (k7 () h36)))) h7) (ifP (decide ((i64.wrap (r3.2))<=64)) (zc (zm zL0 s) (λr74 h38=>(ifP r74 (Yt zL0 0 (i64.wrap (r3.2)) λc75=>(K c75 h38)) (k7 () h38))) h7) (k7 () h7)))))) (k7 () h7))) (λk13=>(ifP (c11==32) (k13 ((c11==32),()) h3) (ifP (c11==45) (k13 ((c11==45),()) h3) (ifP (c11==48) (k13 ((c11==48),()) h3) (ifP (c11==61) (k13 ((c11==61),()) h3) (k13 ((c11==9),()) h3)))))))))))) (λk5=>(ifP (decide (r3.1>0)) False (ifP (decide (r3.2>9223372036854775807)) False (k5 () h2)))))) h1)) (λk2=>(ifP (decide (count<0)) False (k2 () h))))))
def z2m(a:TInt)(K:ByteArray->Hp->Prop)(h:Hp):Prop:=(zc (zv a.mag) (λr1 h1=>(zc (Zg r1) (λr2 h2=>(ifP ((r2.len:Int)==0) (K ⟨#[48]⟩ h2) (zr (S:=Sl×(Sl×Unit)×Unit) (λs3 k4 h3=>(ifP (decide ((s3.1.len:Int)>0)) (zr (S:=Int×Int×Unit) (λs5 k6 h4=>(ifP (decide (s5.2.1>=0)) (0<=(32:Int) /\ (zg s3.1 s5.2.1 1 λa7=>(ldL (.int .u32) a7 (λx8=>((1000000000:Int)≠0 /\ (zg s3.1 s5.2.1 1 λa9=>(stP a9 [.int .u32 (u32.wrap ((u64.wrap (((Q2 .or .u64 (u64.wrap (s5.1*2 ^ (min (32:Int).toNat u64.bits))) (u64.wrap (x8))):Int).tdiv 1000000000))))] (λh5=>((1000000000:Int)≠0 /\ (k6 (((Q2 .or .u64 (u64.wrap (s5.1*2 ^ (min (32:Int).toNat u64.bits))) (u64.wrap (x8))):Int).tmod 1000000000,(i64.wrap (s5.2.1-1)),()) h5))) h4)))) h4))) (zc (zv s3.1) (λr10 h6=>(Y6 1 4 [.int .u32 0] s3.2.1.1 1 [.int .u32 (u32.wrap (s5.1))] (λw11 h7=>(k4 (r10,(w11,()),()) h7)) h6)) h4))) (0,(i64.wrap ((s3.1.len:Int)-1)),()) h3) (zww 364 [.pointer none,.slice zf.a zf.len zf.cap] (λp12 h8=>(Zb (S:=Unit) (λs13 h9=>(zc (yz s3.2.1.1) (λr15 h10=>(zu6 (S:=Unit) (.leaf (.int .u32)) r15 (λi16 v17 s18 k19 h11=>(zc (Wb (u64.wrap (v17)) 10) (λr21 h13=>(Zb (S:=Unit) (λs22 h14=>(qg (Zv (some p12) r21) (λr24 h15=>(k19 () h15)) h14)) (λk23=>(ifP (decide (i16<(i64.wrap ((s3.2.1.1.len:Int)-1)))) (zc (Vb ⟨#[48]⟩ (i64.wrap (9-((r21:ByteArray).size:Int)))) (λr25 h16=>(qg (Zv (some p12) r25) (λr26 h17=>(k23 () h17)) h16)) h13) (k23 () h13))))) h11)) () (λs20 h12=>(qg (Xv (some p12)) (λr27 h18=>(K r27 h18)) h12)) h10)) h9)) (λk14=>(ifP a.neg (qg (z13 (some p12) 45) (λr28 h19=>(k14 () h19)) h8) (k14 () h8))))) h3))) (r2,(zf,()),()) h2))) h1)) h)
def z1o(a:TRat)(K:(ByteArray×Bool)->Hp->Prop)(h:Hp):Prop:=(Zb (S:=Unit) (λs1 h1=>(zc (Y8 10) (λr3 h2=>(zc (Wj 1) (λr4 h3=>(zr (S:=(Bool×Sl×Bool×Sl×Unit)×Int×Unit) (λs5 k6 h4=>(ifP (decide (s5.2.1<40)) (zc (z4b (⟨s5.1.2.2.1,s5.1.2.2.2.1⟩:TInt) r4) (λr7 h5=>(ifP (r7 != 0) (zc (z2r (⟨(⟨s5.1.1,s5.1.2.1⟩:TInt),(⟨s5.1.2.2.1,s5.1.2.2.2.1⟩:TInt)⟩:TRat) r3) (λr8 h6=>(k6 ((r8.num.neg,r8.num.mag,r8.den.neg,r8.den.mag,()),(i64.wrap (s5.2.1+1)),()) h6)) h5) (zc (z2m (⟨s5.1.1,s5.1.2.1⟩:TInt)) (λr9 h7=>(Zb (S:=ByteArray×Unit) (λs10 h8=>(K (s10.1,decide (((s10.1:ByteArray).size:Int)<=40)) h8)) (λk11=>(ifP (decide (s5.2.1>0)) (Zb (S:=ByteArray×Unit) (λs12 h9=>(Yt s12.1 0 (i64.wrap (((s12.1:ByteArray).size:Int)-s5.2.1)) λc14=>((((c14:ByteArray).size+(⟨#[46]⟩:ByteArray).size:Nat):Int)<=9223372036854775807 /\ (Yt s12.1 (i64.wrap (((s12.1:ByteArray).size:Int)-s5.2.1)) ((s12.1:ByteArray).size:Int) λc15=>((((((c14:ByteArray)++(⟨#[46]⟩:ByteArray)):ByteArray).size+(c15:ByteArray).size:Nat):Int)<=9223372036854775807 /\ (k11 (((((c14:ByteArray)++(⟨#[46]⟩:ByteArray)):ByteArray)++(c15:ByteArray)),()) h9)))))) (λk13=>(ifP (decide ((i64.wrap ((i64.wrap (s5.2.1+1))-((r9:ByteArray).size:Int)))>0)) (zc (Vb ⟨#[48]⟩ (i64.wrap ((i64.wrap (s5.2.1+1))-((r9:ByteArray).size:Int)))) (λr16 h10=>((((r16:ByteArray).size+(r9:ByteArray).size:Nat):Int)<=9223372036854775807 /\ (k13 (((r16:ByteArray)++(r9:ByteArray)),()) h10))) h7) (k13 (r9,()) h7)))) (k11 (r9,()) h7))))) h5))) h4) (K (Xx,false) h4))) ((a.num.neg,a.num.mag,a.den.neg,a.den.mag,()),0,()) h3)) h2)) h1)) (λk2=>(zc (qt a) (λr17 h11=>(ifP (!r17) (K (Xx,false) h11) (zc (Qj a) (λr18 h12=>(ifP (decide (r18<0)) (K (Xx,false) h12) (k2 () h12))) h11))) h)))
def z2j(a:TRat)(K:Bool->Hp->Prop)(h:Hp):Prop:=(ifP ((a.num.mag.len:Int)==0) (ifP ((a.den.mag.len:Int)==0) (ifP (!a.num.neg) (K (!a.den.neg) h) (K false h)) (K false h)) (K false h))
def z0l(Zle:TExpr->(Bool->Hp->Prop)->Hp->Prop)(x:TExpr)(K:Bool->Hp->Prop)(h:Hp):Prop:=(zc (Zle x) (λr1 h1=>(K (!r1) h1)) h)
def yp(Zle:TExpr->(Bool->Hp->Prop)->Hp->Prop)(s:Sl)(K:Int->Hp->Prop)(h:Hp):Prop:=(zr (S:=Int×Unit) (λs1 k2 h1=>(ifP (decide (s1.1<(s.len:Int))) (zg s s1.1 7 λa3=>(ldL (.int .i64) (a3.add 0) (λx4_0=>(ldL (.bool) (a3.add 1) (λx4_1=>(ldL (.sl) (a3.add 2) (λx4_2=>(ldL (.bool) (a3.add 3) (λx4_3=>(ldL (.sl) (a3.add 4) (λx4_4=>(ldL (.str) (a3.add 5) (λx4_5=>(ldL (.sl) (a3.add 6) (λx4_6=>(zc ((z0l Zle) (⟨x4_0,(⟨(⟨x4_1,x4_2⟩:TInt),(⟨x4_3,x4_4⟩:TInt)⟩:TRat),x4_5,x4_6⟩:TExpr)) (λr5 h2=>(ifP r5 (K s1.1 h2) (k2 ((i64.wrap (s1.1+1)),()) h2))) h1)) h1)) h1)) h1)) h1)) h1)) h1)) h1)) (K (-1) h1))) (0,()) h)
def yc(Zle:TExpr->(Bool->Hp->Prop)->Hp->Prop)(s:Sl)(K:Bool->Hp->Prop)(h:Hp):Prop:=(zc ((yp Zle) s) (λr1 h1=>(K (decide (r1>=0)) h1)) h)
def qx:Nat->TExpr->(Bool->Hp->Prop)->Hp->Prop
 | 0,_,_,_=>False
 | fuel+1,e,K,h=>(Zb (S:=Unit) (λs1 h1=>(ifP (e.op==1) (zc (z1o e.value) (λr3 h2=>(ifP r3.2 (ifP ((e.name:ByteArray).toList==(Xx:ByteArray).toList) (K true h2) (zc (z0o e.name) (λr4 h3=>(K r4 h3)) h2)) (K false h2))) h1) (ifP (e.op==2) (zc (z2j e.value) (λr5 h4=>(ifP r5 (zc (z0o e.name) (λr6 h5=>(K r6 h5)) h4) (K false h4))) h1) (zc (z2j e.value) (λr7 h6=>(ifP r7 (ifP ((e.name:ByteArray).toList==(Xx:ByteArray).toList) (zc ((yc (qx fuel)) e.args) (λr8 h7=>(K (!r8) h7)) h6) (K false h6)) (K false h6))) h1)))) (λk2=>(ifP (decide (e.op<1)) (K false h) (ifP (decide (e.op>7)) (K false h) (z9k e.op 8 (ldL (.int .i64) ((⟨1,0,none⟩:Addr).add ((e.op:Int).toNat*1)) (λx9=>(ifP ((e.args.len:Int) != x9) (K false h) (k2 () h))) h))))))
def z2i(e:TExpr)(K:Bool->Hp->Prop)(h:Hp):Prop:=∃fuel,qx fuel e K h
def Xz:Nat->TExpr->(Int->Hp->Prop)->Hp->Prop
 | 0,_,_,_=>False
 | fuel+1,e,K,h=>(zr (S:=Int×Int×Unit) (λs1 k2 h1=>(ifP (decide (s1.2.1<(e.args.len:Int))) (zg e.args s1.2.1 7 λa3=>(ldL (.int .i64) (a3.add 0) (λx4_0=>(ldL (.bool) (a3.add 1) (λx4_1=>(ldL (.sl) (a3.add 2) (λx4_2=>(ldL (.bool) (a3.add 3) (λx4_3=>(ldL (.sl) (a3.add 4) (λx4_4=>(ldL (.str) (a3.add 5) (λx4_5=>(ldL (.sl) (a3.add 6) (λx4_6=>(zc ((Xz fuel) (⟨x4_0,(⟨(⟨x4_1,x4_2⟩:TInt),(⟨x4_3,x4_4⟩:TInt)⟩:TRat),x4_5,x4_6⟩:TExpr)) (λr5 h2=>(k2 (zse s1.1 r5,(i64.wrap (s1.2.1+1)),()) h2)) h1)) h1)) h1)) h1)) h1)) h1)) h1)) h1)) (K (i64.wrap (s1.1+1)) h1))) (0,0,()) h)
def z3u(e:TExpr)(K:Int->Hp->Prop)(h:Hp):Prop:=∃fuel,Xz fuel e K h
def z3v(e:TExpr)(K:Int->Hp->Prop)(h:Hp):Prop:=(zc (z2i e) (λr1 h1=>(ifP (!r1) (K 1 h1) (zc (z3u e) (λr2 h2=>(ifP (decide (r2>40)) (K 3 h2) (K 0 h2))) h1))) h)
def Vi(e:TExpr)(K:Bool->Hp->Prop)(h:Hp):Prop:=(zc (z3v e) (λr1 h1=>(K (r1 != 0) h1)) h)
def yi(s:Sl)(K:Int->Hp->Prop)(h:Hp):Prop:=(zr (S:=Int×Unit) (λs1 k2 h1=>(ifP (decide (s1.1<(s.len:Int))) (zg s s1.1 7 λa3=>(ldL (.int .i64) (a3.add 0) (λx4_0=>(ldL (.bool) (a3.add 1) (λx4_1=>(ldL (.sl) (a3.add 2) (λx4_2=>(ldL (.bool) (a3.add 3) (λx4_3=>(ldL (.sl) (a3.add 4) (λx4_4=>(ldL (.str) (a3.add 5) (λx4_5=>(ldL (.sl) (a3.add 6) (λx4_6=>(zc (Vi (⟨x4_0,(⟨(⟨x4_1,x4_2⟩:TInt),(⟨x4_3,x4_4⟩:TInt)⟩:TRat),x4_5,x4_6⟩:TExpr)) (λr5 h2=>(ifP r5 (K s1.1 h2) (k2 ((i64.wrap (s1.1+1)),()) h2))) h1)) h1)) h1)) h1)) h1)) h1)) h1)) h1)) (K (-1) h1))) (0,()) h)
def Zp(s:Sl)(K:Bool->Hp->Prop)(h:Hp):Prop:=(zc (yi s) (λr1 h1=>(K (decide (r1>=0)) h1)) h)
def z0k(l:Sl)(K:Bool->Hp->Prop)(h:Hp):Prop:=(zg l 0 1 λa1=>(ldL (.int .i64) a1 (λx2=>(zg l 1 1 λa3=>(ldL (.int .i64) a3 (λx4=>(zg l 2 1 λa5=>(ldL (.int .i64) a5 (λx6=>(zg l 3 1 λa7=>(ldL (.int .i64) a7 (λx8=>(ifP (x2 != x4) (ifP (x6 != x8) (ifP (x2==x6) (ifP (!(x4==x8)) (ifP (x2==x8) (K (!(x4==x6)) h) (K (!false) h)) (K false h)) (ifP (x2==x8) (K (!(x4==x6)) h) (K (!false) h))) (K false h)) (K false h))) h))) h))) h))) h))
def Xh(s:Sl)(v:Int)(K:Int->Hp->Prop)(h:Hp):Prop:=(zr (S:=Int×Unit) (λs1 k2 h1=>(ifP (decide (s1.1<(s.len:Int))) (zg s s1.1 1 λa3=>(ldL (.int .i64) a3 (λx4=>(ifP (v==x4) (K s1.1 h1) (k2 ((i64.wrap (s1.1+1)),()) h1))) h1)) (K (-1) h1))) (0,()) h)
def Z2(s:Sl)(v:Int)(K:Bool->Hp->Prop)(h:Hp):Prop:=(zc (Xh s v) (λr1 h1=>(K (decide (r1>=0)) h1)) h)
def Xc(l:Sl)(K:Bool->Hp->Prop)(h:Hp):Prop:=(zr (S:=Int×Unit) (λs1 k2 h1=>(ifP (decide (s1.1<(l.len:Int))) (zg l s1.1 1 λa3=>(ldL (.int .i64) a3 (λx4=>(slP l 0 s1.1 1 λc5=>(zc (Z2 c5 x4) (λr6 h2=>(ifP r6 (K false h2) (k2 ((i64.wrap (s1.1+1)),()) h2))) h1))) h1)) (K true h1))) (0,()) h)
def z14(i:Int)(v0:(Option Addr))(K:Bool->Hp->Prop)(h:Hp):Prop:=(ifP (decide (i<0)) (K true h) (ym v0 λp1=>(ldL (.int .i64) p1 (λx2=>(K (decide (i>=x2)) h)) h)))
def Yk(s:Sl)(f1:(Option Addr×Unit))(K:Int->Hp->Prop)(h:Hp):Prop:=(zr (S:=Int×Unit) (λs1 k2 h1=>(ifP (decide (s1.1<(s.len:Int))) (zg s s1.1 1 λa3=>(ldL (.int .i64) a3 (λx4=>(zc (z14 x4 f1.1) (λr5 h2=>(ifP r5 (K s1.1 h2) (k2 ((i64.wrap (s1.1+1)),()) h2))) h1)) h1)) (K (-1) h1))) (0,()) h)
def Ya(s:Sl)(f1:(Option Addr×Unit))(K:Bool->Hp->Prop)(h:Hp):Prop:=(zc (Yk s (f1.1,())) (λr1 h1=>(K (decide (r1>=0)) h1)) h)
def Wm(l:Sl)(n:Int)(z9p:Int)(K:Bool->Hp->Prop)(h:Hp):Prop:=(Yu [.int .i64 z9p] (λp1 h1=>(ifP ((l.len:Int)==n) (zc (Ya l ((some p1),())) (λr2 h2=>(K (!r2) h2)) h1) (K false h1))) h)
def z0j(c:TConstraint)(points:Int)(circles:Int)(K:Bool->Hp->Prop)(h:Hp):Prop:=(zc (Xw c.kind) (λr1 h1=>(Zb (S:=Unit) (λs2 h2=>(zc (Zp c.values) (λr4 h3=>(ifP r4 (K false h3) (Zb (S:=Unit) (λs5 h4=>(Zb (S:=Bool×Unit) (λs7 h5=>(ifP s7.1 (zc (z0k c.points) (λr9 h6=>(K r9 h6)) h5) (zc (Xc c.points) (λr10 h7=>(ifP r10 (zc (Xc c.circles) (λr11 h8=>(K r11 h8)) h7) (K false h7))) h5))) (λk8=>(ifP (c.kind==5) (k8 ((c.kind==5),()) h4) (ifP (c.kind==6) (k8 ((c.kind==6),()) h4) (ifP (c.kind==7) (k8 ((c.kind==7),()) h4) (k8 ((c.kind==8),()) h4))))))) (λk6=>(ifP r1.1.side (ifP (c.side != 1) (ifP (c.side != (-1)) (K false h3) (ifP (!r1.1.side) (ifP (c.side != 0) (K false h3) (k6 () h3)) (k6 () h3))) (ifP (!r1.1.side) (ifP (c.side != 0) (K false h3) (k6 () h3)) (k6 () h3))) (ifP (!r1.1.side) (ifP (c.side != 0) (K false h3) (k6 () h3)) (k6 () h3))))))) h2)) (λk3=>(ifP (!r1.2) (K false h1) (zc (Wm c.points r1.1.points points) (λr12 h9=>(ifP (!r12) (K false h9) (zc (Wm c.circles r1.1.circles circles) (λr13 h10=>(ifP (!r13) (K false h10) (ifP ((c.values.len:Int) != r1.1.values) (K false h10) (k3 () h10)))) h9))) h1))))) h)
def z6g(c:TConstraint)(v0:(Option Addr))(v1:(Option Addr))(K:Bool->Hp->Prop)(h:Hp):Prop:=(ym v0 λp1=>(ldL (.int .i64) p1 (λx2=>(ym v1 λp3=>(ldL (.int .i64) p3 (λx4=>(zc (z0j c x2 x4) (λr5 h1=>(K r5 h1)) h)) h))) h))
def Ys(x:TConstraint)(v0:(Option Addr))(K:Bool->Hp->Prop)(h:Hp):Prop:=(ym v0 λp1=>(ldL (.val) p1 (λx2=>∃c3:Option Addr,∃c4:Option Addr,(x2=.func (.func 87) #[] #[.pointer c3,.pointer c4] /\ (zc (z6g x c3 c4) (λr5 h1=>(K (!r5) h1)) h))) h))
def zy(s:Sl)(f1:(Option Addr×Unit))(K:Int->Hp->Prop)(h:Hp):Prop:=(zr (S:=Int×Unit) (λs1 k2 h1=>(ifP (decide (s1.1<(s.len:Int))) (zg s s1.1 5 λa3=>(ldL (.int .i64) (a3.add 0) (λx4_0=>(ldL (.sl) (a3.add 1) (λx4_1=>(ldL (.sl) (a3.add 2) (λx4_2=>(ldL (.sl) (a3.add 3) (λx4_3=>(ldL (.int .i64) (a3.add 4) (λx4_4=>(zc (Ys (⟨x4_0,x4_1,x4_2,x4_3,x4_4⟩:TConstraint) f1.1) (λr5 h2=>(ifP r5 (K s1.1 h2) (k2 ((i64.wrap (s1.1+1)),()) h2))) h1)) h1)) h1)) h1)) h1)) h1)) (K (-1) h1))) (0,()) h)
def zx(s:Sl)(f1:(Option Addr×Unit))(K:Bool->Hp->Prop)(h:Hp):Prop:=(zc (zy s (f1.1,())) (λr1 h1=>(K (decide (r1>=0)) h1)) h)
def yx(l:Sl)(f1:(Option Addr×Option Addr×Unit))(K:Bool->Hp->Prop)(h:Hp):Prop:=(Yu [.func (.func 87) #[] #[.pointer f1.1,.pointer f1.2.1]] (λp1 h1=>(zc (zx l ((some p1),())) (λr2 h2=>(K (!r2) h2)) h1)) h)
def z0y(s:TSketch)(K:Int->Hp->Prop)(h:Hp):Prop:=(Yu [.slice s.points.a s.points.len s.points.cap,.slice s.circles.a s.circles.len s.circles.cap,.slice s.segments.a s.segments.len s.segments.cap,.slice s.arcs.a s.arcs.len s.arcs.cap,.slice s.chains.a s.chains.len s.chains.cap,.slice s.constraints.a s.constraints.len s.constraints.cap] (λp1 h1=>(ldL (.sl) (p1.add 0) (λx2_0=>(ldL (.sl) (p1.add 1) (λx2_1=>(ldL (.sl) (p1.add 2) (λx2_2=>(ldL (.sl) (p1.add 3) (λx2_3=>(ldL (.sl) (p1.add 4) (λx2_4=>(ldL (.sl) (p1.add 5) (λx2_5=>(zc (z2z (⟨x2_0,x2_1,x2_2,x2_3,x2_4,x2_5⟩:TSketch)) (λr3 h2=>(ifP r3 (K 3 h2) (ldL (.sl) (p1.add 0) (λx4=>(ldL (.sl) (p1.add 1) (λx5=>(Yu [.int .i64 (x4.len:Int)] (λp6 h3=>(Yu [.int .i64 (x5.len:Int)] (λp7 h4=>(Zb (S:=Bool×Unit) (λs8 h5=>(ifP (!s8.1) (K 1 h5) (K 0 h5))) (λk9=>(ldL (.sl) (p1.add 0) (λx10=>(zc (Ym x10) (λr11 h6=>(ifP r11 (ldL (.sl) (p1.add 1) (λx12=>(zc (Yn x12 ((some p6),())) (λr13 h7=>(ifP r13 (ldL (.sl) (p1.add 2) (λx14=>(zc (Yc x14 ((some p6),())) (λr15 h8=>(ifP r15 (ldL (.sl) (p1.add 3) (λx16=>(zc (Yv x16 ((some p1),())) (λr17 h9=>(ifP r17 (ldL (.sl) (p1.add 4) (λx18=>(zc (Yl x18 ((some p1),())) (λr19 h10=>(ifP r19 (ldL (.sl) (p1.add 5) (λx20=>(zc (yx x20 ((some p6),(some p7),())) (λr21 h11=>(k9 (r21,()) h11)) h10)) h10) (k9 (false,()) h10))) h9)) h9) (k9 (false,()) h9))) h8)) h8) (k9 (false,()) h8))) h7)) h7) (k9 (false,()) h7))) h6)) h6) (k9 (false,()) h6))) h4)) h4)))) h3)) h2)) h2)) h2))) h1)) h1)) h1)) h1)) h1)) h1)) h1)) h)
def Xg(s1:Sl)(s2:Sl)(K:Bool->Hp->Prop)(h:Hp):Prop:=(ifP ((s1.len:Int) != (s2.len:Int)) (K false h) (zr (S:=Int×Unit) (λs3 k4 h1=>(ifP (decide (s3.1<(s1.len:Int))) (zg s1 s3.1 1 λa5=>(ldL (.int .i64) a5 (λx6=>(zg s2 s3.1 1 λa7=>(ldL (.int .i64) a7 (λx8=>(ifP (x6 != x8) (K false h1) (k4 ((i64.wrap (s3.1+1)),()) h1))) h1))) h1)) (K true h1))) (0,()) h))
def z0c(s1:Sl)(s2:Sl)(K:Bool->Hp->Prop)(h:Hp):Prop:=(ifP ((s1.len:Int) != (s2.len:Int)) (K false h) (zr (S:=Int×Unit) (λs3 k4 h1=>(ifP (decide (s3.1<(s1.len:Int))) (zg s1 s3.1 1 λa5=>(ldL (.int .u32) a5 (λx6=>(zg s2 s3.1 1 λa7=>(ldL (.int .u32) a7 (λx8=>(ifP (x6 != x8) (K false h1) (k4 ((i64.wrap (s3.1+1)),()) h1))) h1))) h1)) (K true h1))) (0,()) h))
def z3b(a:TInt)(b:TInt)(K:Bool->Hp->Prop)(h:Hp):Prop:=(ifP (a.neg==b.neg) (zc (z0c a.mag b.mag) (λr1 h1=>(K r1 h1)) h) (K false h))
def zb8(Zlf:Sl->Sl->(Bool->Hp->Prop)->Hp->Prop)(a:TExpr)(b:TExpr)(K:Bool->Hp->Prop)(h:Hp):Prop:=(ifP (a.op==b.op) (ifP ((a.name:ByteArray).toList==(b.name:ByteArray).toList) (zc (z3b a.value.num b.value.num) (λr1 h1=>(ifP r1 (zc (z3b a.value.den b.value.den) (λr2 h2=>(ifP r2 (zc (Zlf a.args b.args) (λr3 h3=>(K r3 h3)) h2) (K false h2))) h1) (K false h1))) h) (K false h)) (K false h))
def zn:Nat->Sl->Sl->(Bool->Hp->Prop)->Hp->Prop
 | 0,_,_,_,_=>False
 | fuel+1,s1,s2,K,h=>(ifP ((s1.len:Int) != (s2.len:Int)) (K false h) (zr (S:=Int×Unit) (λs3 k4 h1=>(ifP (decide (s3.1<(s1.len:Int))) (zg s1 s3.1 7 λa5=>(ldL (.int .i64) (a5.add 0) (λx6_0=>(ldL (.bool) (a5.add 1) (λx6_1=>(ldL (.sl) (a5.add 2) (λx6_2=>(ldL (.bool) (a5.add 3) (λx6_3=>(ldL (.sl) (a5.add 4) (λx6_4=>(ldL (.str) (a5.add 5) (λx6_5=>(ldL (.sl) (a5.add 6) (λx6_6=>(zg s2 s3.1 7 λa7=>(ldL (.int .i64) (a7.add 0) (λx8_0=>(ldL (.bool) (a7.add 1) (λx8_1=>(ldL (.sl) (a7.add 2) (λx8_2=>(ldL (.bool) (a7.add 3) (λx8_3=>(ldL (.sl) (a7.add 4) (λx8_4=>(ldL (.str) (a7.add 5) (λx8_5=>(ldL (.sl) (a7.add 6) (λx8_6=>(zc ((zb8 (zn fuel)) (⟨x6_0,(⟨(⟨x6_1,x6_2⟩:TInt),(⟨x6_3,x6_4⟩:TInt)⟩:TRat),x6_5,x6_6⟩:TExpr) (⟨x8_0,(⟨(⟨x8_1,x8_2⟩:TInt),(⟨x8_3,x8_4⟩:TInt)⟩:TRat),x8_5,x8_6⟩:TExpr)) (λr9 h2=>(ifP (!r9) (K false h2) (k4 ((i64.wrap (s3.1+1)),()) h2))) h1)) h1)) h1)) h1)) h1)) h1)) h1)) h1))) h1)) h1)) h1)) h1)) h1)) h1)) h1)) (K true h1))) (0,()) h))
def Zu(s1:Sl)(s2:Sl)(K:Bool->Hp->Prop)(h:Hp):Prop:=∃fuel,zn fuel s1 s2 K h
def z0i(a:TConstraint)(b:TConstraint)(K:Bool->Hp->Prop)(h:Hp):Prop:=(ifP (a.kind==b.kind) (ifP (a.side==b.side) (zc (Xg a.points b.points) (λr1 h1=>(ifP r1 (zc (Xg a.circles b.circles) (λr2 h2=>(ifP r2 (zc (Zu a.values b.values) (λr3 h3=>(K r3 h3)) h2) (K false h2))) h1) (K false h1))) h) (K false h)) (K false h))
def z0x(d:TConstraint)(v0:(Option Addr))(K:Bool->Hp->Prop)(h:Hp):Prop:=(ym v0 λp1=>(ldL (.int .i64) (p1.add 0) (λx2_0=>(ldL (.sl) (p1.add 1) (λx2_1=>(ldL (.sl) (p1.add 2) (λx2_2=>(ldL (.sl) (p1.add 3) (λx2_3=>(ldL (.int .i64) (p1.add 4) (λx2_4=>(zc (z0i (⟨x2_0,x2_1,x2_2,x2_3,x2_4⟩:TConstraint) d) (λr3 h1=>(K r3 h1)) h)) h)) h)) h)) h)) h))
def Zx(s:Sl)(f1:(Option Addr×Unit))(K:Int->Hp->Prop)(h:Hp):Prop:=(zr (S:=Int×Unit) (λs1 k2 h1=>(ifP (decide (s1.1<(s.len:Int))) (zg s s1.1 5 λa3=>(ldL (.int .i64) (a3.add 0) (λx4_0=>(ldL (.sl) (a3.add 1) (λx4_1=>(ldL (.sl) (a3.add 2) (λx4_2=>(ldL (.sl) (a3.add 3) (λx4_3=>(ldL (.int .i64) (a3.add 4) (λx4_4=>(zc (z0x (⟨x4_0,x4_1,x4_2,x4_3,x4_4⟩:TConstraint) f1.1) (λr5 h2=>(ifP r5 (K s1.1 h2) (k2 ((i64.wrap (s1.1+1)),()) h2))) h1)) h1)) h1)) h1)) h1)) h1)) (K (-1) h1))) (0,()) h)
def zo(s:Sl)(f1:(Option Addr×Unit))(K:Bool->Hp->Prop)(h:Hp):Prop:=(zc (Zx s (f1.1,())) (λr1 h1=>(K (decide (r1>=0)) h1)) h)
def z2y(s:TSketch)(K:Sl->Hp->Prop)(h:Hp):Prop:=(zr (S:=Sl×Int×Unit) (λs1 k2 h1=>(ifP (decide (s1.2.1<(s.arcs.len:Int))) (zg s.arcs s1.2.1 4 λa3=>(ldL (.int .i64) (a3.add 0) (λx4_0=>(ldL (.int .i64) (a3.add 1) (λx4_1=>(ldL (.int .i64) (a3.add 2) (λx4_2=>(ldL (.bool) (a3.add 3) (λx4_3=>(Yu [.int .i64 x4_1,.int .i64 x4_2] (λp5 h2=>(zr (S:=Sl×Int×Unit) (λs6 k7 h3=>(ifP (decide (s6.2.1<((⟨some p5,2,2⟩:Sl).len:Int))) (Zb (S:=Sl×Unit) (λs8 h4=>(k7 (s8.1,(i64.wrap (s6.2.1+1)),()) h4)) (λk9=>(zg (⟨some p5,2,2⟩:Sl) s6.2.1 1 λa10=>(ldL (.int .i64) a10 (λx11=>(Yu [.int .i64 x11] (λp12 h5=>(Yu [.int .i64 x4_0] (λp13 h6=>(Yu [.int .i64 0,.slice zf.a zf.len zf.cap,.slice zf.a zf.len zf.cap,.slice zf.a zf.len zf.cap,.int .i64 0] (λp14 h7=>(stP p14 [.int .i64 13,.slice (⟨some p12,1,1⟩:Sl).a (⟨some p12,1,1⟩:Sl).len (⟨some p12,1,1⟩:Sl).cap,.slice (⟨some p13,1,1⟩:Sl).a (⟨some p13,1,1⟩:Sl).len (⟨some p13,1,1⟩:Sl).cap,.slice zf.a zf.len zf.cap,.int .i64 0] (λh8=>(zc (zo s.constraints ((some p14),())) (λr15 h9=>(ifP (!r15) (zc (zo s6.1 ((some p14),())) (λr16 h10=>(ifP (!r16) (ldL (.int .i64) (p14.add 0) (λx17_0=>(ldL (.sl) (p14.add 1) (λx17_1=>(ldL (.sl) (p14.add 2) (λx17_2=>(ldL (.sl) (p14.add 3) (λx17_3=>(ldL (.int .i64) (p14.add 4) (λx17_4=>(Y6 5 88 [.int .i64 0,.slice zf.a zf.len zf.cap,.slice zf.a zf.len zf.cap,.slice zf.a zf.len zf.cap,.int .i64 0] s6.1 1 [.int .i64 x17_0,.slice x17_1.a x17_1.len x17_1.cap,.slice x17_2.a x17_2.len x17_2.cap,.slice x17_3.a x17_3.len x17_3.cap,.int .i64 x17_4] (λw18 h11=>(k9 (w18,()) h11)) h10)) h10)) h10)) h10)) h10)) h10) (k9 (s6.1,()) h10))) h9) (k9 (s6.1,()) h9))) h8)) h7)) h6)) h5)) h3)) h3)))) (k2 (s6.1,(i64.wrap (s1.2.1+1)),()) h3))) (s1.1,0,()) h2)) h1)) h1)) h1)) h1)) h1)) (K s1.1 h1))) (zf,0,()) h)
def yr(s:Sl)(n:Int)(K:Sl->Hp->Prop)(h:Hp):Prop:=(Zb (S:=Unit) (λs1 h1=>(ifP (decide ((i64.wrap (n-(i64.wrap ((s.cap:Int)-(s.len:Int)))))>0)) (slP s 0 (s.cap:Int) 5 λc3=>(0<=((i64.wrap (n-(i64.wrap ((s.cap:Int)-(s.len:Int))))):Int) /\ (Y6 5 88 [.int .i64 0,.slice zf.a zf.len zf.cap,.slice zf.a zf.len zf.cap,.slice zf.a zf.len zf.cap,.int .i64 0] c3 (((i64.wrap (n-(i64.wrap ((s.cap:Int)-(s.len:Int))))):Int).toNat) (Z6 ((i64.wrap (n-(i64.wrap ((s.cap:Int)-(s.len:Int))))):Int).toNat [.int .i64 0,.slice zf.a zf.len zf.cap,.slice zf.a zf.len zf.cap,.slice zf.a zf.len zf.cap,.int .i64 0]) (λw4 h2=>(slP w4 0 (s.len:Int) 5 λc5=>(K c5 h2))) h1))) (K s h1))) (λk2=>(ifP (decide (n<0)) False (k2 () h))))
def yh(slices:Sl)(K:Sl->Hp->Prop)(h:Hp):Prop:=(zr (S:=Int×Int×Unit) (λs1 k2 h1=>(ifP (decide (s1.2.1<(slices.len:Int))) (Zb (S:=Int×Unit) (λs3 h2=>(k2 (s3.1,(i64.wrap (s1.2.1+1)),()) h2)) (λk4=>(zg slices s1.2.1 1 λa5=>(ldL (.sl) a5 (λx6=>(ifP (decide ((i64.wrap (s1.1+(x6.len:Int)))<0)) False (k4 ((i64.wrap (s1.1+(x6.len:Int))),()) h1))) h1)))) (zc (yr zf s1.1) (λr7 h3=>(zr (S:=Sl×Int×Unit) (λs8 k9 h4=>(ifP (decide (s8.2.1<(slices.len:Int))) (zg slices s8.2.1 1 λa10=>(ldL (.sl) a10 (λx11=>(rdO x11.a (x11.len*5) (λvs12=>(Y6 5 88 [.int .i64 0,.slice zf.a zf.len zf.cap,.slice zf.a zf.len zf.cap,.slice zf.a zf.len zf.cap,.int .i64 0] s8.1 x11.len vs12 (λw13 h5=>(k9 (w13,(i64.wrap (s8.2.1+1)),()) h5)) h4)) h4)) h4)) (K s8.1 h4))) (r7,0,()) h3)) h1))) (0,0,()) h)
def Wp(s:Sl)(K:Sl->Hp->Prop)(h:Hp):Prop:=(ifP s.a.isNone (K zf h) (Yu [] (λp1 h1=>(rdO s.a (s.len*1) (λvs2=>(Y6 1 8 [.int .i64 0] (⟨some p1,0,0⟩:Sl) s.len vs2 (λw3 h2=>(K w3 h2)) h1)) h1)) h))
def z01(s:TSketch)(K:(Option Addr)->Hp->Prop)(h:Hp):Prop:=(zc (z2y s) (λr1 h1=>(Yu [.slice s.constraints.a s.constraints.len s.constraints.cap,.slice r1.a r1.len r1.cap] (λp2 h2=>(zc (yh (⟨some p2,2,2⟩:Sl)) (λr3 h3=>(Yu [.slice s.points.a s.points.len s.points.cap,.slice s.circles.a s.circles.len s.circles.cap,.slice s.segments.a s.segments.len s.segments.cap,.slice s.arcs.a s.arcs.len s.arcs.cap,.slice s.chains.a s.chains.len s.chains.cap,.slice s.constraints.a s.constraints.len s.constraints.cap,.slice r3.a r3.len r3.cap,.slice zf.a zf.len zf.cap,.slice zf.a zf.len zf.cap] (λp4 h4=>(zr (S:=Int×Unit) (λs5 k6 h5=>(ifP (decide (s5.1<(s.circles.len:Int))) (zg s.circles s5.1 5 λa7=>(ldL (.int .i64) (a7.add 0) (λx8_0=>(ldL (.bool) (a7.add 1) (λx8_1=>(ldL (.sl) (a7.add 2) (λx8_2=>(ldL (.bool) (a7.add 3) (λx8_3=>(ldL (.sl) (a7.add 4) (λx8_4=>(ldL (.sl) (p4.add 8) (λx9=>(Y6 1 8 [.int .i64 0] x9 1 [.int .i64 x8_0] (λw10 h6=>(stP (p4.add 8) [.slice w10.a w10.len w10.cap] (λh7=>(k6 ((i64.wrap (s5.1+1)),()) h7)) h6)) h5)) h5)) h5)) h5)) h5)) h5)) h5)) (ldL (.sl) (p4.add 6) (λx11=>(zr (S:=Int×Unit) (λs12 k13 h8=>(ifP (decide (s12.1<(x11.len:Int))) (zg x11 s12.1 5 λa14=>(ldL (.int .i64) (a14.add 0) (λx15_0=>(ldL (.sl) (a14.add 1) (λx15_1=>(ldL (.sl) (a14.add 2) (λx15_2=>(ldL (.sl) (a14.add 3) (λx15_3=>(ldL (.int .i64) (a14.add 4) (λx15_4=>(zc (Wp x15_1) (λr16 h9=>(zr (S:=Sl×Int×Unit) (λs17 k18 h10=>(ifP (decide (s17.2.1<(x15_2.len:Int))) (Zb (S:=Sl×Unit) (λs19 h11=>(k18 (s19.1,(i64.wrap (s17.2.1+1)),()) h11)) (λk20=>(zg x15_2 s17.2.1 1 λa21=>(ldL (.int .i64) a21 (λx22=>(Y6 1 8 [.int .i64 0] s17.1 1 [.int .i64 (i64.wrap ((-1)-x22))] (λw23 h12=>(ifP (x15_0==13) (ldL (.sl) (p4.add 8) (λx24=>(zg x24 x22 1 λa25=>(ldL (.int .i64) a25 (λx26=>(Y6 1 8 [.int .i64 0] w23 1 [.int .i64 x26] (λw27 h13=>(k20 (w27,()) h13)) h12)) h12))) h12) (ifP (x15_0==16) (ldL (.sl) (p4.add 8) (λx28=>(zg x28 x22 1 λa29=>(ldL (.int .i64) a29 (λx30=>(Y6 1 8 [.int .i64 0] w23 1 [.int .i64 x30] (λw31 h14=>(k20 (w31,()) h14)) h12)) h12))) h12) (ifP (x15_0==17) (ldL (.sl) (p4.add 8) (λx32=>(zg x32 x22 1 λa33=>(ldL (.int .i64) a33 (λx34=>(Y6 1 8 [.int .i64 0] w23 1 [.int .i64 x34] (λw35 h15=>(k20 (w35,()) h15)) h12)) h12))) h12) (k20 (w23,()) h12))))) h10)) h10)))) (ldL (.sl) (p4.add 7) (λx36=>(Y6 1 24 [.slice zf.a zf.len zf.cap] x36 1 [.slice s17.1.a s17.1.len s17.1.cap] (λw37 h16=>(stP (p4.add 7) [.slice w37.a w37.len w37.cap] (λh17=>(k13 ((i64.wrap (s12.1+1)),()) h17)) h16)) h10)) h10))) (r16,0,()) h9)) h8)) h8)) h8)) h8)) h8)) h8)) (K (some p4) h8))) (0,()) h5)) h5))) (0,()) h4)) h3)) h2)) h1)) h)
def y_henneberg_peeler_all(p:(Option Addr))(K:Sl->Hp->Prop)(h:Hp):Prop:=(ym p λp1=>(ldL (.sl) ((p1.add 0).add 0) (λx2=>(zr (S:=Sl×Int×Unit) (λs3 k4 h1=>(ifP (decide (s3.2.1<(x2.len:Int))) (Y6 1 8 [.int .i64 0] s3.1 1 [.int .i64 s3.2.1] (λw5 h2=>(k4 (w5,(i64.wrap (s3.2.1+1)),()) h2)) h1) (ym p λp6=>(ldL (.sl) ((p6.add 0).add 1) (λx7=>(zr (S:=Sl×Int×Unit) (λs8 k9 h3=>(ifP (decide (s8.2.1<(x7.len:Int))) (Y6 1 8 [.int .i64 0] s8.1 1 [.int .i64 (i64.wrap ((-1)-s8.2.1))] (λw10 h4=>(k9 (w10,(i64.wrap (s8.2.1+1)),()) h4)) h3) (K s8.1 h3))) (s3.1,0,()) h1)) h1)))) (zf,0,()) h)) h))
def y_henneberg_peeler_remaining_1(x:Int)(v0:(Option Addr))(K:Bool->Hp->Prop)(h:Hp):Prop:=(ym v0 λp1=>(ldL (.sl) p1 (λx2=>(zc (Z2 x2 x) (λr3 h1=>(K r3 h1)) h)) h))
def ye(s:Sl)(f1:(Option Addr×Unit))(K:Int->Hp->Prop)(h:Hp):Prop:=(zr (S:=Int×Unit) (λs1 k2 h1=>(ifP (decide (s1.1<(s.len:Int))) (zg s s1.1 1 λa3=>(ldL (.int .i64) a3 (λx4=>(zc (y_henneberg_peeler_remaining_1 x4 f1.1) (λr5 h2=>(ifP r5 (K s1.1 h2) (k2 ((i64.wrap (s1.1+1)),()) h2))) h1)) h1)) (K (-1) h1))) (0,()) h)
def Z4(s:Sl)(f1:(Option Addr×Unit))(K:Bool->Hp->Prop)(h:Hp):Prop:=(zc (ye s (f1.1,())) (λr1 h1=>(K (decide (r1>=0)) h1)) h)
def y_henneberg_peeler_remaining(p:(Option Addr))(item:Int)(removed:Sl)(K:Sl->Hp->Prop)(h:Hp):Prop:=(Yu [.slice removed.a removed.len removed.cap] (λp1 h1=>(ym p λp2=>(ldL (.sl) (p2.add 7) (λx3=>(zr (S:=Sl×Int×Unit) (λs4 k5 h2=>(ifP (decide (s4.2.1<(x3.len:Int))) (Zb (S:=Sl×Unit) (λs6 h3=>(k5 (s6.1,(i64.wrap (s4.2.1+1)),()) h3)) (λk7=>(zg x3 s4.2.1 1 λa8=>(ldL (.sl) a8 (λx9=>(zc (Z2 x9 item) (λr10 h4=>(ifP r10 (zc (Z4 x9 ((some p1),())) (λr11 h5=>(ifP (!r11) (Y6 1 8 [.int .i64 0] s4.1 1 [.int .i64 s4.2.1] (λw12 h6=>(k7 (w12,()) h6)) h5) (k7 (s4.1,()) h5))) h4) (k7 (s4.1,()) h4))) h2)) h2)))) (K s4.1 h2))) (zf,0,()) h1)) h1))) h)
def y_henneberg_peeler_equations(p:(Option Addr))(i:Int)(K:Int->Hp->Prop)(h:Hp):Prop:=(ym p λp1=>(ldL (.sl) (p1.add 6) (λx2=>(zg x2 i 5 λa3=>(ldL (.int .i64) (a3.add 0) (λx4=>(zc (Xw x4) (λr5 h1=>(K r5.1.equations h1)) h)) h))) h))
def y_henneberg_peeler_weight(p:(Option Addr))(l:Sl)(K:Int->Hp->Prop)(h:Hp):Prop:=(zr (S:=Int×Int×Unit) (λs1 k2 h1=>(ifP (decide (s1.2.1<(l.len:Int))) (zg l s1.2.1 1 λa3=>(ldL (.int .i64) a3 (λx4=>(zc (y_henneberg_peeler_equations p x4) (λr5 h2=>(k2 ((i64.wrap (s1.1+r5)),(i64.wrap (s1.2.1+1)),()) h2)) h1)) h1)) (K s1.1 h1))) (0,0,()) h)
def z6t(c:TConstraint)(centers:Sl)(circle:Int)(K:Bool->Hp->Prop)(h:Hp):Prop:=(zc (Xh c.circles circle) (λr1 h1=>(ifP (decide (r1<0)) (K false h1) (Zb (S:=Bool×Unit) (λs2 h2=>(ifP s2.1 (K true h2) (Zb (S:=Bool×Unit) (λs4 h3=>(ifP s4.1 (zg centers circle 1 λa6=>(ldL (.int .i64) a6 (λx7=>(zc (Z2 c.points x7) (λr8 h4=>(K (!r8) h4)) h3)) h3)) (ifP (c.kind==17) (ifP (c.side==1) (zg c.circles 0 1 λa9=>(ldL (.int .i64) a9 (λx10=>(zg centers x10 1 λa11=>(ldL (.int .i64) a11 (λx12=>(zg c.circles 1 1 λa13=>(ldL (.int .i64) a13 (λx14=>(zg centers x14 1 λa15=>(ldL (.int .i64) a15 (λx16=>(K (x12 != x16) h3)) h3))) h3))) h3))) h3)) (K false h3)) (K false h3)))) (λk5=>(ifP (c.kind==13) (k5 ((c.kind==13),()) h2) (k5 ((c.kind==16),()) h2)))))) (λk3=>(ifP (c.kind==14) (k3 ((c.kind==14),()) h1) (k3 ((c.kind==15),()) h1)))))) h)
def y_henneberg_peeler_removable_1(i:Int)(v0:(Option Addr))(v1:(Option Addr))(K:Bool->Hp->Prop)(h:Hp):Prop:=(ym v0 λp1=>(ldL (.ptr) p1 (λx2=>(ym x2 λp3=>(ldL (.sl) (p3.add 6) (λx4=>(zg x4 i 5 λa5=>(ldL (.int .i64) (a5.add 0) (λx6_0=>(ldL (.sl) (a5.add 1) (λx6_1=>(ldL (.sl) (a5.add 2) (λx6_2=>(ldL (.sl) (a5.add 3) (λx6_3=>(ldL (.int .i64) (a5.add 4) (λx6_4=>(ym v0 λp7=>(ldL (.ptr) p7 (λx8=>(ym x8 λp9=>(ldL (.sl) (p9.add 8) (λx10=>(ym v1 λp11=>(ldL (.int .i64) p11 (λx12=>(zc (z6t (⟨x6_0,x6_1,x6_2,x6_3,x6_4⟩:TConstraint) x10 (i64.wrap ((-1)-x12))) (λr13 h1=>(K (!r13) h1)) h)) h))) h))) h))) h)) h)) h)) h)) h))) h))) h))
def yf(s:Sl)(f1:(Option Addr×Option Addr×Unit))(K:Int->Hp->Prop)(h:Hp):Prop:=(zr (S:=Int×Unit) (λs1 k2 h1=>(ifP (decide (s1.1<(s.len:Int))) (zg s s1.1 1 λa3=>(ldL (.int .i64) a3 (λx4=>(zc (y_henneberg_peeler_removable_1 x4 f1.1 f1.2.1) (λr5 h2=>(ifP r5 (K s1.1 h2) (k2 ((i64.wrap (s1.1+1)),()) h2))) h1)) h1)) (K (-1) h1))) (0,()) h)
def Z5(s:Sl)(f1:(Option Addr×Option Addr×Unit))(K:Bool->Hp->Prop)(h:Hp):Prop:=(zc (yf s (f1.1,f1.2.1,())) (λr1 h1=>(K (decide (r1>=0)) h1)) h)
def z5b(c:TConstraint)(target:Int)(K:Sl->Hp->Prop)(h:Hp):Prop:=(zr (S:=Sl×Int×Unit) (λs1 k2 h1=>(ifP (decide (s1.2.1<(c.points.len:Int))) (Zb (S:=Sl×Unit) (λs3 h2=>(k2 (s3.1,(i64.wrap (s1.2.1+1)),()) h2)) (λk4=>(zg c.points s1.2.1 1 λa5=>(ldL (.int .i64) a5 (λx6=>(ifP (x6==target) (Y6 1 8 [.int .i64 0] s1.1 1 [.int .i64 s1.2.1] (λw7 h3=>(k4 (w7,()) h3)) h1) (k4 (s1.1,()) h1))) h1)))) (K s1.1 h1))) (zf,0,()) h)
def Vo(i:Int)(v0:(Option Addr))(v1:(Option Addr))(v2:(Option Addr))(K:Bool->Hp->Prop)(h:Hp):Prop:=(ym v0 λp1=>(ldL (.sl) p1 (λx2=>(ym v1 λp3=>(ldL (.sl) (p3.add 2) (λx4=>(zg x4 i 1 λa5=>(ldL (.int .i64) a5 (λx6=>(zg x2 x6 1 λa7=>(ldL (.int .i64) a7 (λx8=>(ym v2 λp9=>(ldL (.int .i64) p9 (λx10=>(K (x8==x10) h)) h))) h))) h))) h))) h))
def z8c(c:TConstraint)(centers:Sl)(target:Int)(K:Int->Hp->Prop)(h:Hp):Prop:=(Yu [.int .i64 c.kind,.slice c.points.a c.points.len c.points.cap,.slice c.circles.a c.circles.len c.circles.cap,.slice c.values.a c.values.len c.values.cap,.int .i64 c.side] (λp1 h1=>(Yu [.slice centers.a centers.len centers.cap] (λp2 h2=>(Yu [.int .i64 target] (λp3 h3=>(ldL (.int .i64) (p1.add 0) (λx4_0=>(ldL (.sl) (p1.add 1) (λx4_1=>(ldL (.sl) (p1.add 2) (λx4_2=>(ldL (.sl) (p1.add 3) (λx4_3=>(ldL (.int .i64) (p1.add 4) (λx4_4=>(ldL (.int .i64) p3 (λx5=>(zc (z5b (⟨x4_0,x4_1,x4_2,x4_3,x4_4⟩:TConstraint) x5) (λr6 h4=>(ldL (.int .i64) (p1.add 0) (λx7=>(ifP (x7==13) (zc (Vo 0 (some p2) (some p1) (some p3)) (λr8 h5=>(ifP (!((decide ((r6.len:Int)>0))==r8)) (K 2 h5) (K 0 h5))) h4) (ifP (x7==16) (zc (Vo 0 (some p2) (some p1) (some p3)) (λr9 h6=>(ifP r9 (ifP ((r6.len:Int)==0) (K 1 h6) (K 0 h6)) (K 0 h6))) h4) (ifP (x7==17) (zc (Vo 0 (some p2) (some p1) (some p3)) (λr10 h7=>(zc (Vo 1 (some p2) (some p1) (some p3)) (λr11 h8=>(ifP (!(r10==r11)) (K 2 h8) (K 0 h8))) h7)) h4) (ifP ((r6.len:Int)==0) (K 0 h4) (ldL (.int .i64) (p1.add 0) (λx12=>(Zb (S:=Bool×Unit) (λs13 h9=>(ifP s13.1 (K 3 h9) (ifP (x12==2) (K 2 h9) (Zb (S:=Bool×Unit) (λs15 h10=>(ifP s15.1 (K 1 h10) (ifP (x12==4) (zg r6 0 1 λa17=>(ldL (.int .i64) a17 (λx18=>(ifP (x18==0) (K 1 h10) (K 0 h10))) h10)) (ifP (x12==10) (zg r6 0 1 λa19=>(ldL (.int .i64) a19 (λx20=>(ifP (decide (x20<2)) (K 3 h10) (K 0 h10))) h10)) (Zb (S:=Bool×Unit) (λs21 h11=>(ifP s21.1 (ifP ((r6.len:Int)==2) (K 2 h11) (K 1 h11)) (ifP (x12==8) (ifP ((r6.len:Int)==2) (K 1 h11) (K 2 h11)) (K 0 h11)))) (λk22=>(ifP (x12==5) (k22 ((x12==5),()) h10) (k22 ((x12==7),()) h10)))))))) (λk16=>(ifP (x12==3) (k16 ((x12==3),()) h9) (ifP (x12==6) (k16 ((x12==6),()) h9) (ifP (x12==11) (k16 ((x12==11),()) h9) (k16 ((x12==12),()) h9))))))))) (λk14=>(ifP (x12==1) (k14 ((x12==1),()) h4) (k14 ((x12==9),()) h4))))) h4)))))) h4)) h3)) h3)) h3)) h3)) h3)) h3)) h3)) h2)) h1)) h)
def y_henneberg_peeler_kind(p:(Option Addr))(i:Int)(point:Int)(K:Int->Hp->Prop)(h:Hp):Prop:=(ym p λp1=>(ldL (.sl) (p1.add 6) (λx2=>(zg x2 i 5 λa3=>(ldL (.int .i64) (a3.add 0) (λx4_0=>(ldL (.sl) (a3.add 1) (λx4_1=>(ldL (.sl) (a3.add 2) (λx4_2=>(ldL (.sl) (a3.add 3) (λx4_3=>(ldL (.int .i64) (a3.add 4) (λx4_4=>(ym p λp5=>(ldL (.sl) (p5.add 8) (λx6=>(zc (z8c (⟨x4_0,x4_1,x4_2,x4_3,x4_4⟩:TConstraint) x6 point) (λr7 h1=>(K r7 h1)) h)) h))) h)) h)) h)) h)) h))) h))
def y_henneberg_peeler_removable(p:(Option Addr))(item:Int)(removed:Sl)(K:Bool->Hp->Prop)(h:Hp):Prop:=(Yu [.pointer p] (λp1 h1=>(Yu [.int .i64 item] (λp2 h2=>(ldL (.int .i64) p2 (λx3=>(zc (Z2 removed x3) (λr4 h3=>(ifP r4 (K false h3) (ldL (.ptr) p1 (λx5=>(ldL (.int .i64) p2 (λx6=>(zc (y_henneberg_peeler_remaining x5 x6 removed) (λr7 h4=>(ldL (.int .i64) p2 (λx8=>(ifP (decide (x8<0)) (ldL (.ptr) p1 (λx9=>(zc (y_henneberg_peeler_weight x9 r7) (λr10 h5=>(ifP (decide (r10<=1)) (zc (Z5 r7 ((some p1),(some p2),())) (λr11 h6=>(K (!r11) h6)) h5) (K false h5))) h4)) h4) (ldL (.ptr) p1 (λx12=>(zc (y_henneberg_peeler_weight x12 r7) (λr13 h7=>(ifP (decide (r13>2)) (K false h7) (zr (S:=Int×Unit) (λs14 k15 h8=>(ifP (decide (s14.1<(r7.len:Int))) (zg r7 s14.1 1 λa16=>(ldL (.int .i64) a16 (λx17=>(ldL (.ptr) p1 (λx18=>(ldL (.int .i64) p2 (λx19=>(zc (y_henneberg_peeler_kind x18 x17 x19) (λr20 h9=>(Zb (S:=Bool×Unit) (λs21 h10=>(Zb (S:=Bool×Unit) (λs23 h11=>(ifP (!s23.1) (K false h11) (k15 ((i64.wrap (s14.1+1)),()) h11))) (λk24=>(ldL (.ptr) p1 (λx25=>(zc (y_henneberg_peeler_equations x25 x17) (λr26 h12=>(ifP (r26==2) (k24 ((r20==3),()) h12) (k24 (s21.1,()) h12))) h10)) h10)))) (λk22=>(ifP (r20==1) (k22 (true,()) h9) (k22 ((r20==2),()) h9))))) h8)) h8)) h8)) h8)) (K true h8))) (0,()) h7))) h4)) h4))) h4)) h3)) h3)) h3))) h2)) h2)) h1)) h)
def y_henneberg_peeler_peel_1(item:Int)(v0:(Option Addr))(v1:(Option Addr))(K:Bool->Hp->Prop)(h:Hp):Prop:=(ym v0 λp1=>(ldL (.ptr) p1 (λx2=>(ym v1 λp3=>(ldL (.sl) p3 (λx4=>(zc (y_henneberg_peeler_removable x2 item x4) (λr5 h1=>(K r5 h1)) h)) h))) h))
def Z1(s:Sl)(f1:(Option Addr×Option Addr×Unit))(K:Int->Hp->Prop)(h:Hp):Prop:=(zr (S:=Int×Unit) (λs1 k2 h1=>(ifP (decide (s1.1<(s.len:Int))) (zg s s1.1 1 λa3=>(ldL (.int .i64) a3 (λx4=>(zc (y_henneberg_peeler_peel_1 x4 f1.1 f1.2.1) (λr5 h2=>(ifP r5 (K s1.1 h2) (k2 ((i64.wrap (s1.1+1)),()) h2))) h1)) h1)) (K (-1) h1))) (0,()) h)
def y_henneberg_peeler_peel_2(item:Int)(v0:(Option Addr))(K:Bool->Hp->Prop)(h:Hp):Prop:=(ym v0 λp1=>(ldL (.sl) p1 (λx2=>(zc (Z2 x2 item) (λr3 h1=>(K r3 h1)) h)) h))
def y7(s:Sl)(f1:(Option Addr×Unit))(K:Int->Hp->Prop)(h:Hp):Prop:=(zr (S:=Int×Unit) (λs1 k2 h1=>(ifP (decide (s1.1<(s.len:Int))) (zg s s1.1 1 λa3=>(ldL (.int .i64) a3 (λx4=>(zc (y_henneberg_peeler_peel_2 x4 f1.1) (λr5 h2=>(ifP r5 (K s1.1 h2) (k2 ((i64.wrap (s1.1+1)),()) h2))) h1)) h1)) (K (-1) h1))) (0,()) h)
def Z0(s:Sl)(f1:(Option Addr×Unit))(K:Sl->Hp->Prop)(h:Hp):Prop:=(zc (y7 s (f1.1,())) (λr1 h1=>(ifP (r1==(-1)) (K s h1) (zr (S:=Int×Int×Unit) (λs2 k3 h2=>(ifP (decide (s2.2.1<(s.len:Int))) (Zb (S:=Int×Unit) (λs4 h3=>(k3 (s4.1,(i64.wrap (s2.2.1+1)),()) h3)) (λk5=>(zg s s2.2.1 1 λa6=>(ldL (.int .i64) a6 (λx7=>(zc (y_henneberg_peeler_peel_2 x7 f1.1) (λr8 h4=>(ifP (!r8) (zg s s2.1 1 λa9=>(stP a9 [.int .i64 x7] (λh5=>(k5 ((i64.wrap (s2.1+1)),()) h5)) h4)) (k5 (s2.1,()) h4))) h2)) h2)))) (slP s s2.1 (s.len:Int) 1 λc10=>(zl0 c10 [.int .i64 0] (λh6=>(slP s 0 s2.1 1 λc11=>(K c11 h6))) h2)))) (r1,(i64.wrap (r1+1)),()) h1))) h)
def y_henneberg_peeler_peel(p:(Option Addr))(K:(Sl×Sl)->Hp->Prop)(h:Hp):Prop:=(Yu [.pointer p] (λp1 h1=>(Yu [.slice zf.a zf.len zf.cap] (λp2 h2=>(zr (S:=(Option Addr)×Unit) (λs3 k4 h3=>(ldL (.ptr) p1 (λx5=>(zc (y_henneberg_peeler_all x5) (λr6 h4=>(zc (Z1 r6 ((some p1),s3.1,())) (λr7 h5=>(ifP (decide (r7<0)) (ldL (.ptr) p1 (λx8=>(zc (y_henneberg_peeler_all x8) (λr9 h6=>(qg (Z0 r9 (s3.1,())) (λr10 h7=>(ym s3.1 λp11=>(ldL (.sl) p11 (λx12=>(K (x12,r10) h7)) h7))) h6)) h5)) h5) (ym s3.1 λp13=>(ldL (.sl) p13 (λx14=>(ldL (.ptr) p1 (λx15=>(zc (y_henneberg_peeler_all x15) (λr16 h8=>(zg r16 r7 1 λa17=>(ldL (.int .i64) a17 (λx18=>(Y6 1 8 [.int .i64 0] x14 1 [.int .i64 x18] (λw19 h9=>(ym s3.1 λp20=>(stP p20 [.slice w19.a w19.len w19.cap] (λh10=>(k4 (s3.1,()) h10)) h9))) h8)) h8))) h5)) h5)) h5)))) h4)) h3)) h3)) ((some p2),()) h2)) h1)) h)
def z2k(s:TSketch)(K:(Sl×Sl)->Hp->Prop)(h:Hp):Prop:=(zc (z0y s) (λr1 h1=>(ifP (r1 != 0) (K (zf,zf) h1) (zc (z01 s) (λr2 h2=>(zc (y_henneberg_peeler_peel r2) (λr3 h3=>(K (r3.1,r3.2) h3)) h2)) h1))) h)
def z2u:Nat->TExpr->(Int->Hp->Prop)->Hp->Prop
 | 0,_,_,_=>False
 | fuel+1,e,K,h=>(zr (S:=Int×Int×Unit) (λs1 k2 h1=>(ifP (decide (s1.2.1<(e.args.len:Int))) (zg e.args s1.2.1 7 λa3=>(ldL (.int .i64) (a3.add 0) (λx4_0=>(ldL (.bool) (a3.add 1) (λx4_1=>(ldL (.sl) (a3.add 2) (λx4_2=>(ldL (.bool) (a3.add 3) (λx4_3=>(ldL (.sl) (a3.add 4) (λx4_4=>(ldL (.str) (a3.add 5) (λx4_5=>(ldL (.sl) (a3.add 6) (λx4_6=>(zc ((z2u fuel) (⟨x4_0,(⟨(⟨x4_1,x4_2⟩:TInt),(⟨x4_3,x4_4⟩:TInt)⟩:TRat),x4_5,x4_6⟩:TExpr)) (λr5 h2=>(k2 (zse s1.1 r5,(i64.wrap (s1.2.1+1)),()) h2)) h1)) h1)) h1)) h1)) h1)) h1)) h1)) h1)) (K (i64.wrap (s1.1+1)) h1))) (0,0,()) h)
def Vj(s:TSketch)(K:Bool->Hp->Prop)(h:Hp):Prop:=(zc (z0y s) (λr1 h1=>(ifP (r1 != 0) (K false h1) (zc (z2k s) (λr2 h2=>(K ((r2.2.len:Int)==0) h2)) h1))) h)
def z7n(points:Int)(n:Int)(K:Bool->Hp->Prop)(h:Hp):Prop:=(ifP (decide (n>=0)) (K (decide (n<points)) h) (K false h))
def zbp(vals:Sl)(K:Int->Hp->Prop)(h:Hp):Prop:=(zr (S:=Int×Unit) (λs1 k2 h1=>(ifP (decide (s1.1<(vals.len:Int))) (zg vals s1.1 1 λa3=>(ldL (.int .i64) a3 (λx4=>(ifP (x4 != 0) (K x4 h1) (k2 ((i64.wrap (s1.1+1)),()) h1))) h1)) (K 0 h1))) (0,()) h)
def z3w(a:A2_Int)(b:A2_Int)(K:Int->Hp->Prop)(h:Hp):Prop:=(zc (Qr a.c0 b.c0) (λr1 h1=>(zc (Qr a.c1 b.c1) (λr2 h2=>(Yu [.int .i64 r1,.int .i64 r2] (λp3 h3=>(zc (zbp (⟨some p3,2,2⟩:Sl)) (λr4 h4=>(K r4 h4)) h3)) h2)) h1)) h)
def Xd(g:TGraph)(K:Bool->Hp->Prop)(h:Hp):Prop:=(Zb (S:=Unit) (λs1 h1=>(zr (S:=Int×Unit) (λs3 k4 h2=>(ifP (decide (s3.1<(g.edges.len:Int))) (Zb (S:=Unit) (λs5 h3=>(k4 ((i64.wrap (s3.1+1)),()) h3)) (λk6=>(zg g.edges s3.1 2 λa7=>(ldL (.int .i64) (a7.add 0) (λx8_0=>(ldL (.int .i64) (a7.add 1) (λx8_1=>(zc (z7n g.n x8_0) (λr9 h4=>(ifP (!r9) (K false h4) (zc (z7n g.n x8_1) (λr10 h5=>(ifP (!r10) (K false h5) (ifP (decide (x8_0>=x8_1)) (K false h5) (ifP (decide (s3.1>0)) (zg g.edges (i64.wrap (s3.1-1)) 2 λa11=>(ldL (.int .i64) (a11.add 0) (λx12_0=>(ldL (.int .i64) (a11.add 1) (λx12_1=>(zc (z3w (⟨x12_0,x12_1⟩:A2_Int) (⟨x8_0,x8_1⟩:A2_Int)) (λr13 h6=>(ifP (decide (r13>=0)) (K false h6) (k6 () h6))) h5)) h5)) h5)) (k6 () h5))))) h4))) h2)) h2)) h2)))) (K true h2))) (0,()) h1)) (λk2=>(ifP (decide (g.n<0)) (K false h) (ifP (decide (g.n>60)) (K false h) (k2 () h)))))
def z87(g:TGraph)(K:Sl->Hp->Prop)(h:Hp):Prop:=(zc (Xd g) (λr1 h1=>(ifP (!r1) (K zf h1) (mkP g.n g.n 1 [.bool false] (λm2 h2=>(zr (S:=Bool×Unit) (λs3 k4 h3=>(ifP s3.1 (mkP g.n g.n 8 [.int .i64 0] (λm5 h4=>(zr (S:=Int×Unit) (λs6 k7 h5=>(ifP (decide (s6.1<(g.edges.len:Int))) (Zb (S:=Unit) (λs8 h6=>(k7 ((i64.wrap (s6.1+1)),()) h6)) (λk9=>(zg g.edges s6.1 2 λa10=>(ldL (.int .i64) (a10.add 0) (λx11_0=>(ldL (.int .i64) (a10.add 1) (λx11_1=>(zg m2 x11_0 1 λa12=>(ldL (.bool) a12 (λx13=>(ifP (!x13) (zg m2 x11_1 1 λa14=>(ldL (.bool) a14 (λx15=>(ifP (!x15) (zg m5 x11_0 1 λa16=>(ldL (.int .i64) a16 (λx17=>(zg m5 x11_0 1 λa18=>(stP a18 [.int .i64 (i64.wrap (x17+1))] (λh7=>(zg m5 x11_1 1 λa19=>(ldL (.int .i64) a19 (λx20=>(zg m5 x11_1 1 λa21=>(stP a21 [.int .i64 (i64.wrap (x20+1))] (λh8=>(k9 () h8)) h7))) h7))) h5))) h5)) (k9 () h5))) h5)) (k9 () h5))) h5))) h5)) h5)))) (zr (S:=Bool×Int×Unit) (λs22 k23 h9=>(ifP (decide (s22.2.1<(m2.len:Int))) (Zb (S:=Bool×Unit) (λs24 h10=>(k23 (s24.1,(i64.wrap (s22.2.1+1)),()) h10)) (λk25=>(zg m2 s22.2.1 1 λa26=>(ldL (.bool) a26 (λx27=>(ifP (!x27) (zg m5 s22.2.1 1 λa28=>(ldL (.int .i64) a28 (λx29=>(ifP (decide (x29<=2)) (zg m2 s22.2.1 1 λa30=>(stP a30 [.bool true] (λh11=>(k25 (true,()) h11)) h9)) (k25 (s22.1,()) h9))) h9)) (k25 (s22.1,()) h9))) h9)))) (k4 (s22.1,()) h9))) (false,0,()) h5))) (0,()) h4)) h3) (zr (S:=Sl×Int×Unit) (λs31 k32 h12=>(ifP (decide (s31.2.1<(m2.len:Int))) (Zb (S:=Sl×Unit) (λs33 h13=>(k32 (s33.1,(i64.wrap (s31.2.1+1)),()) h13)) (λk34=>(zg m2 s31.2.1 1 λa35=>(ldL (.bool) a35 (λx36=>(ifP (!x36) (Y6 1 8 [.int .i64 0] s31.1 1 [.int .i64 s31.2.1] (λw37 h14=>(k34 (w37,()) h14)) h12) (k34 (s31.1,()) h12))) h12)))) (K s31.1 h12))) (zf,0,()) h3))) (true,()) h2)) h1))) h)
def z5h(a:A2_Int)(b:A2_Int)(K:Bool->Hp->Prop)(h:Hp):Prop:=(ifP (decide (a.c0<b.c0)) (K true h) (ifP (a.c0==b.c0) (K (decide (a.c1<b.c1)) h) (K false h)))
def z4h(g:TGraph)(K:Bool->Hp->Prop)(h:Hp):Prop:=(Zb (S:=Unit) (λs1 h1=>(zr (S:=Int×Unit) (λs3 k4 h2=>(ifP (decide (s3.1<(g.edges.len:Int))) (Zb (S:=Unit) (λs5 h3=>(k4 ((i64.wrap (s3.1+1)),()) h3)) (λk6=>(zg g.edges s3.1 2 λa7=>(ldL (.int .i64) (a7.add 0) (λx8_0=>(ldL (.int .i64) (a7.add 1) (λx8_1=>(ifP (decide (x8_0<0)) (K false h2) (ifP (decide (x8_0>=x8_1)) (K false h2) (ifP (decide (x8_1>=g.n)) (K false h2) (ifP (decide (s3.1>0)) (zg g.edges (i64.wrap (s3.1-1)) 2 λa9=>(ldL (.int .i64) (a9.add 0) (λx10_0=>(ldL (.int .i64) (a9.add 1) (λx10_1=>(zc (z5h (⟨x10_0,x10_1⟩:A2_Int) (⟨x8_0,x8_1⟩:A2_Int)) (λr11 h4=>(ifP (!r11) (K false h4) (k6 () h4))) h2)) h2)) h2)) (k6 () h2)))))) h2)) h2)))) (K true h2))) (0,()) h1)) (λk2=>(ifP (decide (g.n<0)) (K false h) (ifP (decide (g.n>60)) (K false h) (k2 () h)))))
end F
end Den
end

section
namespace Iv
def W:Nat:=4294967296
theorem Vz:0<W:=by decide
theorem Ziu:W=4294967296:=rfl
def vl:List Nat->Nat
 | []=>0
 | x :: r=>x+W*vl r
def okW(l:List Nat):Prop:=∀d∈l,d<W
def Q3:List Nat->List Nat
 | []=>[]
 | x :: r=>match Q3 r with
   | []=>if x=0 then []else [x]
   | y :: t=>x :: y :: t
def dg(n:Nat):List Nat:=if h:n=0 then []else (n % W) :: dg (n/W)
termination_by n
decreasing_by exact Nat.div_lt_self (Nat.pos_of_ne_zero h) (by decide)
theorem Qv:dg 0=[]:=by unfold dg;simp
theorem zdz{n:Nat}(h:n≠0):dg n=(n % W) :: dg (n/W):=by conv=>lhs;unfold dg;rw[dif_neg h]
theorem Y1(n:Nat):vl (dg n)=n:=by
 induction n using Nat.strongRecOn with
 | _ n ih=>
   by_cases h:n=0
   . subst h;rw[Qv];rfl
   . rw[zdz h]
     simp only[vl]
     rw[ih (n/W) (Nat.div_lt_self (Nat.pos_of_ne_zero h) (by decide))]
     exact Nat.mod_add_div n W
theorem qr(n:Nat):okW (dg n):=by
 induction n using Nat.strongRecOn with
 | _ n ih=>
   by_cases h:n=0
   . subst h;rw[Qv];intro d hd;cases hd
   . rw[zdz h]
     intro d hd
     rcases List.mem_cons.1 hd with rfl | hd
     . exact Nat.mod_lt _ Vz
     . exact ih (n/W) (Nat.div_lt_self (Nat.pos_of_ne_zero h) (by decide)) d hd
theorem z2g{n:Nat}:dg n=[]↔n=0:=by
 constructor
 . intro h
   have:=Y1 n
   rw[h]at this
   exact this.symm
 . rintro rfl;exact Qv
theorem zg3{x:Nat}{r:List Nat}(h:okW (x :: r)):x<W/\okW r:=⟨h x List.mem_cons_self,λd hd=>h d (List.mem_cons_of_mem _ hd)⟩
theorem Vy:∀{l:List Nat},okW l->Q3 l=dg (vl l)
 | [],_=>by simp[Q3,vl,Qv]
 | x :: r,h=>by
   obtain⟨hx,hr⟩:=zg3 h
   have ih:=Vy hr
   unfold Q3 vl
   rw[ih]
   by_cases hv:vl r=0
   . rw[hv,Qv]
     simp only[Nat.mul_zero,Nat.add_zero]
     by_cases h0:x=0
     . rw[if_pos h0,h0,Qv]
     . rw[if_neg h0,zdz h0,Nat.mod_eq_of_lt hx,Nat.div_eq_of_lt hx,Qv]
   . have hne:dg (vl r)≠[]:=λhh=>hv (z2g.1 hh)
     have hpos:x+W*vl r≠0:=by
      have:0<W*vl r:=Nat.mul_pos Vz (Nat.pos_of_ne_zero hv)
      omega
     rw[zdz hpos,Nat.add_mul_mod_self_left,Nat.mod_eq_of_lt hx,Nat.add_mul_div_left _ _ Vz,Nat.div_eq_of_lt hx,Nat.zero_add]
     cases hd:dg (vl r)with
     | nil=>exact absurd hd hne
     | cons y t=>rfl
theorem zdf:∀{l:List Nat},okW l->vl l<W ^ l.length
 | [],_=>by simp[vl]
 | x :: r,h=>by
   obtain⟨hx,hr⟩:=zg3 h
   have ih:=zdf hr
   simp only[vl,List.length_cons,Nat.pow_succ]
   have:W*(vl r+1)<=W*W ^ r.length:=Nat.mul_le_mul_left _ ih
   rw[Nat.mul_comm (W ^ r.length)]
   rw[Nat.mul_add]at this
   omega
theorem Xm{n k:Nat}:(dg n).length<=k↔n<W ^ k:=by
 constructor
 . intro h
   have h1:=zdf (qr n)
   rw[Y1]at h1
   exact Nat.lt_of_lt_of_le h1 (Nat.pow_le_pow_right Vz h)
 . induction k generalizing n with
   | zero=>
     intro h
     have:n=0:=by simp at h;exact h
     subst this;rw[Qv];simp
   | succ k ih=>
     intro h
     by_cases hn:n=0
     . subst hn;rw[Qv];simp
     . rw[zdz hn]
       simp only[List.length_cons]
       have:n/W<W ^ k:=by
        rw[Nat.div_lt_iff_lt_mul Vz];rw[Nat.pow_succ]at h;exact h
       have:=ih this
       omega
theorem z80:∀(a b:List Nat),vl (a++b)=vl a+W ^ a.length*vl b
 | [],b=>by simp[vl]
 | x :: r,b=>by
   simp only[List.cons_append,vl,z80 r b,List.length_cons,Nat.pow_succ]
   rw[Nat.mul_add,Nat.mul_comm (W ^ r.length) W,Nat.mul_assoc];omega
theorem zvz{l:List Nat}(hok:okW l)(ht:Q3 l=l):l=dg (vl l):=ht.symm.trans (Vy hok)
theorem zc9:∀{l:List Nat} {k v:Nat} (hk:k<l.length),vl (l.set k v)+W ^ k*l[k]=vl l+W ^ k*v
 | [],k,v,hk=>by simp at hk
 | x :: r,0,v,hk=>by simp[vl];omega
 | x :: r,k+1,v,hk=>by
   have hk':k<r.length:=by simpa using hk
   have ih:=zc9 (v:=v) hk'
   simp only[List.set_cons_succ,vl,List.getElem_cons_succ,Nat.pow_succ]
   have e1:W ^ k*W*r[k]=W*(W ^ k*r[k]):=by rw[Nat.mul_comm (W ^ k) W,Nat.mul_assoc]
   have e2:W ^ k*W*v=W*(W ^ k*v):=by rw[Nat.mul_comm (W ^ k) W,Nat.mul_assoc]
   rw[e1,e2]
   have:=congrArg (W*·) ih
   simp only[Nat.mul_add]at this
   omega
theorem z3e{l:List Nat}{k v:Nat}(hl:okW l)(hv:v<W):okW (l.set k v):=λd hd=>by
 rcases List.mem_or_eq_of_mem_set hd with h | h
 . exact hl d h
 . rw[h];exact hv
theorem qe{l:List Nat}{k:Nat}(hk:k<l.length):vl (l.take (k+1))=vl (l.take k)+W ^ k*l[k]:=by
 rw[List.take_succ_eq_append_getElem hk,z80,List.length_take,Nat.min_eq_left (by omega)]
 simp[vl]
theorem Wi{l:List Nat}(hl:okW l){k:Nat}(hk:k<l.length):l[k]<W:=hl _ (List.getElem_mem hk)
theorem z8h{l:List Nat}(hl:okW l)(k:Nat):okW (l.take k):=λd hd=>hl d (List.mem_of_mem_take hd)
theorem zm6{l:List Nat}(hl:okW l)(k:Nat):okW (l.drop k):=λd hd=>hl d (List.mem_of_mem_drop hd)
theorem zk3{a b:List Nat}(ha:okW a)(hb:okW b):okW (a++b):=λd hd=>(List.mem_append.1 hd).elim (ha d) (hb d)
theorem Q9{l:List Nat}{k:Nat}(hk:k<=l.length):vl l=vl (l.take k)+W ^ k*vl (l.drop k):=by
 have:=z80 (l.take k) (l.drop k)
 rw[List.take_append_drop,List.length_take,Nat.min_eq_left hk]at this;exact this
theorem Zil(n:Nat):vl (List.replicate n 0)=0:=by
 induction n with
 | zero=>rfl
 | succ n ih=>rw[List.replicate_succ];simp[vl,ih]
theorem zec(n:Nat):okW (List.replicate n 0):=λd hd=>by rw[(List.mem_replicate.1 hd).2];decide
theorem Zda:okW []:=λd hd=>by cases hd
theorem Z6o(l:List Nat):(Q3 l).length<=l.length:=by
 induction l with
 | nil=>exact Nat.le_refl _
 | cons x r ih=>
   unfold Q3
   split
   . split<;>simp
   . rename_i y t h
     rw[h]at ih
     simp only[List.length_cons]at ih |-;omega
theorem z6j(l:List Nat):Q3 (l++[0])=Q3 l:=by
 induction l with
 | nil=>simp[Q3]
 | cons x r ih=>simp only[List.cons_append,Q3,ih]
theorem z7f(l:List Nat){x:Nat}(hx:x≠0):Q3 (l++[x])=l++[x]:=by
 induction l with
 | nil=>simp[Q3,hx]
 | cons y r ih=>
   simp only[List.cons_append,Q3,ih]
   cases h:r++[x]with
   | nil=>simp at h
   | cons a b=>rfl
end Iv
end

section
namespace Den
open Go Iv
def LeX(b:Nat)(h h':Hp):Prop:=∀k B,k≠b->h k=some B->h' k=some B
def zu5(x y:Sl):Prop:=∀a b,x.a=some a->y.a=some b->a.block≠b.block
theorem zn7{h1 h2 h3:Hp}{s s':Nat}{x y:Sl}{cs ds:List Value}(hx:Own h1 h2 s x cs)(hy:Own h2 h3 s' y ds):zu5 x y:=λa b ha hb hh=>by
 obtain⟨_,_,_,gx⟩:=hx
 obtain⟨_,_,_,gy⟩:=hy
 rw[ha]at gx;rw[hb]at gy
 obtain⟨_,_,_,B,g4,_⟩:=gx
 obtain⟨_,_,g3,_⟩:=gy
 rw[hh,g3]at g4;cases g4
theorem zf0{h h':Hp}{b:Nat}(hl:LeX b h h'){a:Addr}(ha:a.block≠b):∀{n:Nat} {l:List Value},Zz h a n=some l->Zz h' a n=some l
 | 0,_,e=>e
 | n+1,l,e=>by
   unfold Zz at *
   cases h1:Zz h a n with
   | none=>rw[h1]at e;cases e
   | some l1=>
     rw[h1]at e;rw[zf0 hl ha h1];simp only at e |-
     have hc:∀v,h.cell (a.add n)=some v->h'.cell (a.add n)=some v:=λv hv=>by
      unfold Hp.cell at *
      cases hs:(a.add n).spot with
      | some x=>rw[hs]at hv;cases hv
      | none=>
        rw[hs]at hv;simp only at hv |-
        rw[Yi]at hv |-
        cases hb:h a.block with
        | none=>rw[hb]at hv;cases hv
        | some B=>rw[hb]at hv;rw[hl _ _ ha hb];exact hv
     cases h2:h.cell (a.add n)with
     | none=>rw[h2]at e;cases e
     | some v=>rw[h2]at e;rw[hc v h2];exact e
theorem Rd.leX{h h':Hp}{b s:Nat}{y:Sl}{cs:List Value}(hr:Rd h s y cs)(hl:LeX b h h')(hne:∀a,y.a=some a->a.block≠b):Rd h' s y cs:=by
 refine⟨hr.1,?_⟩
 have h2:=hr.2
 cases ha:y.a with
 | none=>rw[ha]at h2;exact h2
 | some a=>rw[ha]at h2;exact zf0 hl (hne a ha) h2
theorem Own.leX{h0 h h':Hp}{b s:Nat}{y:Sl}{cs:List Value}(hr:Own h0 h s y cs)(hl:LeX b h h')(h0b:h0 b=none)(hne:∀a,y.a=some a->a.block≠b):Own h0 h' s y cs:=by
 obtain⟨h1,h2,h3,h4⟩:=hr
 refine⟨λk B hk=>?_,h2,h3,?_⟩
 . exact hl k B (λhh=>by rw[hh,h0b]at hk;cases hk) (h1 k B hk)
 . cases ha:y.a with
   | none=>rw[ha]at h4;exact h4
   | some a=>
     rw[ha]at h4
     obtain⟨g1,g2,g3,B,g4,g5⟩:=h4
     exact⟨g1,g2,g3,B,hl _ _ (hne a ha) g4,g5⟩
theorem Z9h{h0 h:Hp}{size:Nat}{x:Sl}{cs vs:List Value}{i:Int}{K:Hp->Prop}(k:Nat)(ho:Own h0 h size x cs)(hi:i=k)(hk:k<x.len)(hv:vs.length=size)(hsz:0<size)(hleaf:vs.all Value.leaf=true)
 (H:∀h' b,(∀a,x.a=some a->a.block=b)->h0 b=none->LeX b h h'->Own h0 h' size x (z8 cs (k*size) vs)->K h'):zg x i size λa=>stP a vs K h:=by
 have ho':=ho
 obtain⟨h1,h2,h3,h4⟩:=ho
 cases ha:x.a with
 | none=>rw[ha]at h4;simp only at h4;omega
 | some a=>
   rw[ha]at h4
   obtain⟨g1,g2,g3,b,g4,g5,g6,g7⟩:=h4
   have key:=zt8 (K:=λh'=>LeX a.block h h'->K h') k ho' hi hk hv hsz hleaf (λh' ho2 hl=>H h' a.block (λa' ha'=>by rw[ha]at ha';cases ha';rfl) g3 hl ho2)
   obtain⟨q1,q2,q3⟩:=key
   refine⟨q1,q2,?_⟩
   rw[ha]at q3 |-
   simp only[ym]at q3 |-
   obtain⟨B,r1,r2,r3,r4,r5,r6⟩:=q3
   refine⟨B,r1,r2,r3,r4,r5,r6 ?_⟩
   rw[Yi]
   intro kk BB hne hkk
   rw[Hp.ins_ne hne];exact hkk
def wc(l:List Nat):List Value:=l.map λ(n:Nat)=>Value.int .u32 (n:Int)
theorem z7g(l:List Nat):(wc l).length=l.length:=by simp[wc]
theorem Zio{l:List Nat}{k v:Nat}(hk:k<l.length):z8 (wc l) (k*1) [.int .u32 (v:Int)]=wc (l.set k v):=by
 rw[Nat.mul_one,z3m]
 unfold wc
 rw[List.map_set]
 have hk':k<(l.map λ(n:Nat)=>Value.int .u32 (n:Int)).length:=by simpa using hk
 rw[List.set_eq_take_append_cons_drop,if_pos hk']
theorem Zin(n:Nat):Z6 n [Value.int .u32 0]=wc (List.replicate n 0):=by
 unfold Z6 wc;simp
theorem zxu(a b:List Nat):wc (a++b)=wc a++wc b:=by simp[wc]
def RdW(h:Hp)(x:Sl)(l:List Nat):Prop:=Rd h 1 x (wc l)/\x.len<=x.cap
abbrev qf(h0 h:Hp)(x:Sl)(l:List Nat):Prop:=Own h0 h 1 x (wc l)
theorem RdW.len{h:Hp}{x:Sl}{l:List Nat}(hr:RdW h x l):x.len=l.length:=by have:=hr.1.1;rw[z7g]at this;omega
theorem qf.rdW{h0 h:Hp}{x:Sl}{l:List Nat}(hr:qf h0 h x l):RdW h x l:=⟨hr.rd,hr.2.2.1⟩
theorem qf.len{h0 h:Hp}{x:Sl}{l:List Nat}(hr:qf h0 h x l):x.len=l.length:=RdW.len hr.rdW
theorem RdW.le{h h':Hp}{x:Sl}{l:List Nat}(hr:RdW h x l)(hl:h.le h'):RdW h' x l:=⟨hr.1.le hl,hr.2⟩
theorem RdW.nil{h:Hp}:RdW h zf []:=⟨Rd.nil,Nat.le_refl _⟩
theorem RdW.leX{h h':Hp}{b:Nat}{y:Sl}{l:List Nat}(hr:RdW h y l)(hl:LeX b h h')(hne:∀a,y.a=some a->a.block≠b):RdW h' y l:=⟨hr.1.leX hl hne,hr.2⟩
theorem zbm{h:Hp}{a:Addr}{l:List Value}(H:∀i v,l[i]?=some v->h.cell (a.add i)=some v):∀n,n<=l.length->Zz h a n=some (l.take n)
 | 0,_=>by simp[Zz]
 | n+1,hn=>by
   unfold Zz
   rw[zbm H n (by omega)]
   have h1:l[n]?=some l[n]:=List.getElem?_eq_getElem (by omega)
   simp only[H n _ h1]
   rw[List.take_succ_eq_append_getElem (by omega)]
theorem Rd.cut{h:Hp}{x:Sl}{cs:List Value}(hr:Rd h 1 x cs)(lo hi:Nat)(h1:lo<=hi)(h2:hi<=cs.length)(h3:hi<=x.cap):Rd h 1 (x.cut lo hi 1) ((cs.drop lo).take (hi-lo)):=by
 have hlen:((cs.drop lo).take (hi-lo)).length=hi-lo:=by rw[List.length_take,List.length_drop];omega
 refine⟨by rw[hlen];show(hi-lo)*1=_;omega,?_⟩
 rw[hlen]
 by_cases h0:hi=lo
 . have:hi-lo=0:=by omega
   rw[this]
   cases(x.cut lo hi 1).a<;>simp[Z3,Zz]
 . have hne:x.cap≠lo:=by omega
   have ha:(x.cut lo hi 1).a=x.a.map (·.add (lo*1)):=by show(if x.cap=lo then _ else _)=_;rw[if_neg hne]
   rw[ha]
   have hr2:=hr.2
   cases hxa:x.a with
   | none=>
     rw[hxa]at hr2
     simp only[Z3]at hr2
     split at hr2
     . omega
     . cases hr2
   | some a=>
     rw[hxa]at hr2
     simp only[Z3]at hr2
     show Zz h (a.add (lo*1)) (hi-lo)=_
     have key:=zbm (h:=h) (a:=a.add (lo*1)) (l:=cs.drop lo) (λi v hv=>by
      rw[Wl]
      refine z20 hr2 _ v ?_
      rw[List.getElem?_drop]at hv
      rw[Nat.mul_one];exact hv) (hi-lo) (by rw[List.length_drop];omega)
     exact key
theorem RdW.cut{h:Hp}{x:Sl}{l:List Nat}(hr:RdW h x l)(lo hi:Nat)(h1:lo<=hi)(h2:hi<=l.length):RdW h (x.cut lo hi 1) ((l.drop lo).take (hi-lo)):=by
 have hl:=hr.len
 have hc:=hr.2
 refine⟨?_,?_⟩
 . have:=hr.1.cut lo hi h1 (by rw[z7g];exact h2) (by omega)
   unfold wc at *
   rw[List.map_take,List.map_drop];exact this
 . show hi-lo<=x.cap-lo;omega
theorem Z9d{h:Hp}{x:Sl}{l:List Nat}{lo hi:Int}{K:Sl->Prop}(a b:Nat)(hr:RdW h x l)(ha:lo=a)(hb:hi=b)(hab:a<=b)(hbl:b<=l.length)
 (H:RdW h (x.cut a b 1) ((l.drop a).take (b-a))->K (x.cut a b 1)):slP x lo hi 1 K:=by
 subst ha hb
 have hl:=hr.len
 have hc:=hr.2
 exact⟨by omega,by omega,by omega,H (hr.cut a b hab hbl)⟩
theorem Yz{h:Hp}{x:Sl}{l:List Nat}{i:Int}{Ka:Addr->Prop}(k:Nat)(hr:RdW h x l)(hi:i=k)(hk:k<l.length)
 (H:∀a,h.cell a=some (.int .u32 (l[k]:Int))->Ka a):zg x i 1 Ka:=
 zi3 k hr.1 hi (v:=.int .u32 (l[k]:Int)) (by simp[wc,hk]) H
theorem z5i{h0 h:Hp}{x:Sl}{l:List Nat}{i:Int}{v:Int}{K:Hp->Prop}(k n:Nat)(ho:qf h0 h x l)(hi:i=k)(hk:k<l.length)(hv:v=n)
 (H:∀h' b,(∀a,x.a=some a->a.block=b)->h0 b=none->LeX b h h'->qf h0 h' x (l.set k n)->K h'):zg x i 1 λa=>stP a [.int .u32 v] K h:=by
 subst hv
 refine Z9h k ho hi (by rw[ho.len];exact hk) rfl (by decide) rfl λh' b h1 h2 h3 h4=>H h' b h1 h2 h3 ?_
 rw[Zio hk]at h4;exact h4
theorem z8e{h:Hp}{len cap:Int}{K:Sl->Hp->Prop}(l c:Nat)(hl:len=l)(hc:cap=c)(hlc:l<=c)(hb:c<=35184372088832)
 (H:∀x h',x.len=l->qf h h' x (List.replicate l 0)->K x h'):mkP len cap 4 [.int .u32 0] K h:=by
 refine zsg (size:=1) l c hl hc hlc (by omega) (by omega) rfl λx h' hx _ ho=>H x h' hx ?_
 rw[Zin]at ho;exact ho
theorem zn8{h0 h:Hp}{x:Sl}{l:List Nat}{v:Int}{K:Sl->Hp->Prop}(n:Nat)(ho:qf h0 h x l)(hv:v=n)(hb:l.length<35184372088832)
 (H:∀y h',qf h0 h' y (l++[n])->K y h'):Y6 1 4 [.int .u32 0] x 1 [.int .u32 v] K h:=by
 subst hv
 have hl:=ho.len
 refine z3r ho (n:=1) rfl rfl rfl (by omega) (by omega) λy h' hy hyl=>H y h' ?_
 unfold qf
 rw[zxu];exact hy
theorem z7y{n:Nat}(h:n<18446744073709551616):u64.wrap (n:Int)=(n:Int):=Zkl (by omega)
theorem zir(n:Nat):u32.wrap (n:Int)=((n % W:Nat):Int):=by
 simp[IntKind.wrap,IntKind.signed,IntKind.bits,W]
theorem Zja{n:Nat}(h:n<9223372036854775808):i64.wrap (n:Int)=(n:Int):=w64 (by omega)
theorem zkf(n:Nat):((n:Int)).fdiv (2 ^ (min (32:Int).toNat u64.bits))=((n/W:Nat):Int):=by
 have:(2:Int) ^ (min (32:Int).toNat u64.bits)=((4294967296:Nat):Int):=by decide
 rw[this]
 show((n:Int)).fdiv ((4294967296:Nat):Int)=((n/4294967296:Nat):Int)
 exact Int.ofNat_fdiv n 4294967296 |>.symm
theorem mac{c x y z:Nat}(hc:c<W)(hx:x<W)(hy:y<W)(hz:z<W) :
 u64.wrap ((c:Int)+u64.wrap (u64.wrap (u64.wrap (x:Int)*u64.wrap (y:Int))+u64.wrap (z:Int)))=((c+(x*y+z):Nat):Int):=by
 unfold W at *
 have hxy:x*y<=4294967295*4294967295:=Nat.mul_le_mul (by omega) (by omega)
 rw[z7y (n:=x) (by omega),z7y (n:=y) (by omega),z7y (n:=z) (by omega)]
 rw[show((x:Int)*(y:Int))=((x*y:Nat):Int)by simp,z7y (n:=x*y) (by omega)]
 rw[show(((x*y:Nat):Int)+(z:Int))=((x*y+z:Nat):Int)by simp,z7y (n:=x*y+z) (by omega)]
 rw[show((c:Int)+((x*y+z:Nat):Int))=((c+(x*y+z):Nat):Int)by simp,z7y (by omega)]
theorem Zd3{c x y z:Nat}(hc:c<W)(hx:x<W)(hy:y<W)(hz:z<W):(c+(x*y+z))/W<W:=by
 rw[Nat.div_lt_iff_lt_mul Vz]
 unfold W at *
 have hxy:x*y<=4294967295*4294967295:=Nat.mul_le_mul (by omega) (by omega)
 omega
end Den
end

section
namespace Den
open Go Iv
namespace Hp
def del(h:Hp)(b:Nat):Hp:=λk=>if k=b then none else h k
def one(h:Hp)(b:Nat):Hp:=λk=>if k=b then h k else none
theorem del_dj(h:Hp)(b:Nat):(h.del b).dj (h.one b):=λk=>by
 by_cases hk:k=b
 . exact .inl (by simp[del,hk])
 . exact .inr (by simp[one,hk])
theorem del_add(h:Hp)(b:Nat):h=(h.del b).add (h.one b):=by
 funext k
 unfold add del one
 by_cases hk:k=b
 . simp[hk]
 . simp[hk];cases h k<;>rfl
theorem del_le(h:Hp)(b:Nat):(h.del b).le h:=λk B hk=>by
 unfold del at hk;split at hk
 . cases hk
 . exact hk
theorem del_same(h:Hp)(b:Nat):(h.del b) b=none:=by simp[del]
theorem add_assoc'(a b c:Hp):(a.add b).add c=a.add (b.add c):=by
 funext k;unfold add;cases a k<;>rfl
end Hp
theorem zng{α:Type}{G:(α->Hp->Prop)->Hp->Prop}{K1 K:α->Hp->Prop}{D O:Hp}(hd:D.dj O)(H:zc G K1 D)(k:∀v D',D.le D'->D'.dj O->K1 v D'->K v (D'.add O)):zc G K (D.add O):=by
 obtain⟨D1,O1,Q,h1,h2,h3,h4⟩:=H
 refine⟨D1,O1.add O,Q,?_,?_,h3,λv D' hq=>⟨(h4 v D' hq).1,λhdj hfin=>?_⟩⟩
 . intro k
   rcases h1 k with h5 | h5
   . exact .inl h5
   . rcases hd k with h6 | h6
     . rw[h2]at h6;exact .inl (Hp.add_none.1 h6).1
     . exact .inr (Hp.add_none.2 ⟨h5,h6⟩)
 . rw[h2,Hp.add_assoc']
 . have h5:=h4 v D' hq
   have hdj1:D'.dj O1:=λk=>by
    rcases hdj k with h6 | h6
    . exact .inl h6
    . exact .inr (Hp.add_none.1 h6).1
   have hdj2:(D'.add O1).dj O:=λk=>by
    rcases hdj k with h6 | h6
    . rcases hd k with h7 | h7
      . rw[h2]at h7;exact .inl (Hp.add_none.2 ⟨h6,(Hp.add_none.1 h7).2⟩)
      . exact .inr h7
    . exact .inr (Hp.add_none.1 h6).2
   have hfin1:(D'.add O1).Fin:=Hp.Fin.sub hfin λk hk=>by
    rw[<-Hp.add_assoc']at hk;exact(Hp.add_none.1 hk).1
   have h6:=h5.2 hdj1 hfin1
   rw[<-Hp.add_assoc']
   refine k v _ ?_ hdj2 h6
   rw[h2]
   exact Hp.add_mono h5.1 hdj1
end Den
end

section
namespace Den
open Go Iv
section
variable {h : Hp} {x y : Sl} {l m : List Nat} {Ks : Sl → Hp → Prop} {Ki : Int → Hp → Prop} {Kb : Bool → Hp → Prop}
def InM(y x:Sl):Prop:=∀a,y.a=some a->∃a',x.a=some a'/\a.block=a'.block
theorem InM.rfl{x:Sl}:InM x x:=λa ha=>⟨a,ha,Eq.refl _⟩
theorem InM.trans{x y z:Sl}(h1:InM x y)(h2:InM y z):InM x z:=λa ha=>by
 obtain⟨a',h3,h4⟩:=h1 a ha
 obtain⟨a2,h5,h6⟩:=h2 a' h3
 exact⟨a2,h5,h4.trans h6⟩
theorem InM.cut{x:Sl}{lo hi n:Nat}:InM (x.cut lo hi n) x:=λa ha=>by
 have ha':(if x.cap=lo then x.a else x.a.map (·.add (lo*n)))=some a:=ha
 split at ha'
 . exact⟨a,ha',Eq.refl _⟩
 . cases hx:x.a with
   | none=>rw[hx]at ha';cases ha'
   | some a'=>
     rw[hx]at ha'
     simp only[Option.map_some,Option.some.injEq]at ha'
     subst ha'
     exact⟨a',Eq.refl _,Yi _ _⟩
theorem zeq{Kf:Sl->Hp->Prop}(hr:RdW h x l)(hl:l.length<4611686018427387904)(H:∀y,RdW h y (Q3 l)->InM y x->Kf y h) :
 zr (S:=Sl×Unit) (λs1 k2 h1=>
  (Zb (S:=Unit) (λs3 h2=>(slP s1.1 0 (i64.wrap ((s1.1.len:Int)-1)) 1 λc5=>(k2 (c5,()) h2)))
  (λk4=>(ifP (decide ((s1.1.len:Int)>0)) (zg s1.1 (i64.wrap ((s1.1.len:Int)-1)) 1 λa6=>(ldL (.int .u32) a6 (λx7=>(ifP (x7==0) (k4 () h1) (Kf s1.1 h1))) h1)) (Kf s1.1 h1)))))
  (x,()) h:=by
 refine y9 (λst h'=>h'=h/\∃(y:Sl) (k:Nat),st=(y,())/\k<=l.length/\RdW h y (l.take k)/\Q3 (l.take k)=Q3 l/\InM y x) (λst=>st.1.len)
  ⟨rfl,x,l.length,rfl,Nat.le_refl _,by rw[List.take_of_length_le (Nat.le_refl _)];exact hr,by rw[List.take_of_length_le (Nat.le_refl _)],InM.rfl⟩ ?_
 rintro st h' ⟨rfl,y,k,rfl,hk,hy,ht,hsub⟩
 have hyl:=hy.len
 rw[List.length_take,Nat.min_eq_left hk]at hyl
 refine zk (λ_ h1=>h1=h'/\∃j,k=j+1/\∃hj:j<l.length,l[j]=0) ?_ ?_
 . rintro _ h1 ⟨rfl,j,rfl,hj,h0⟩
   refine Z9d 0 j hy rfl (by simp only;rw[hyl,w64 (by omega)];omega) (Nat.zero_le _) (by rw[List.length_take];omega) λhc=>?_
   have e:((l.take (j+1)).drop 0).take (j-0)=l.take j:=by
    rw[List.drop_zero,Nat.sub_zero,List.take_take];congr 1;omega
   rw[e]at hc
   refine⟨⟨rfl,_,j,rfl,by omega,hc,?_,InM.cut.trans hsub⟩,?_⟩
   . rw[<-ht,List.take_succ_eq_append_getElem hj,h0,z6j]
   . show j-0<y.len;omega
 . refine ze (λh1=>?_) (λh1=>?_)
   . simp only at h1
     obtain⟨j,rfl⟩:∃j,k=j+1:=⟨k-1,by omega⟩
     have hj:j<l.length:=by omega
     refine Yz j hy (by simp only;rw[hyl,w64 (by omega)];omega) (by rw[List.length_take];omega) λa ha=>⟨_,ha,?_⟩
     have e:(l.take (j+1))[j]'(by rw[List.length_take];omega)=l[j]:=by simp
     rw[e]
     refine Za (λh2=>⟨rfl,j,rfl,hj,by omega⟩) (λh2=>?_)
     have h3:l[j]≠0:=by omega
     have:Q3 (l.take (j+1))=l.take (j+1):=by
      rw[List.take_succ_eq_append_getElem hj,z7f _ h3]
     rw[<-ht,this]at H
     exact H y hy hsub
   . simp only at h1
     have:k=0:=by omega
     subst this
     rw[<-ht]at H
     exact H y hy hsub
theorem Z9j(hr:RdW h x l)(hl:l.length<4611686018427387904)(H:∀y,RdW h y (Q3 l)->Ks y h):F.zv x Ks h:=zeq hr hl λy hy _=>H y hy
theorem Z50(hr:RdW h x l)(hl:l.length<4611686018427387904)(H:∀y,RdW h y (Q3 l)->Ks y h):F.z68 x Ks h:=zeq hr hl λy hy _=>H y hy
theorem ztx(hr:RdW h x l)(hl:l.length<4611686018427387904)(H:∀y,RdW h y (Q3 l)->InM y x->Ks y h):zc (F.zv x) Ks h:=
 zd (λy h'=>h'=h/\RdW h y (Q3 l)/\InM y x) (λK' hk=>zeq hr hl λy hy hs=>hk y h (Hp.le_refl _) ⟨rfl,hy,hs⟩) λy h' _ ⟨e,hy,hs⟩=>by subst e;exact H y hy hs
theorem z11(hr:RdW h x l)(hl:l.length<4611686018427387904)(H:∀y,RdW h y (Q3 l)->Ks y h):zc (F.zv x) Ks h:=
 zd (λy h'=>h'=h/\RdW h y (Q3 l)) (λK' hk=>Z9j hr hl λy hy=>hk y h (Hp.le_refl _) ⟨rfl,hy⟩) λy h' _ ⟨e,hy⟩=>by subst e;exact H y hy
theorem zie(hr:RdW h x l)(hl:l.length<4611686018427387904)(H:∀y,RdW h y (Q3 l)->Ks y h):zc (F.z68 x) Ks h:=
 zd (λy h'=>h'=h/\RdW h y (Q3 l)) (λK' hk=>Z50 hr hl λy hy=>hk y h (Hp.le_refl _) ⟨rfl,hy⟩) λy h' _ ⟨e,hy⟩=>by subst e;exact H y hy
theorem ztv{Kf:Sl->Hp->Prop}{h0:Hp}{a b:Sl}{la lb:List Nat}(ha:RdW h0 a la)(hb:RdW h0 b lb)(oa:okW la)(ob:okW lb)(hl:la.length+lb.length<=35184372088800)
 (ho:qf h0 h x (List.replicate (la.length+lb.length) 0)) (H:∀h' l,qf h0 h' x l->okW l->l.length=la.length+lb.length->vl l=vl la*vl lb->Kf x h') :
 zr (S:=Int×Unit) (λs4 k5 h3=>
  (ifP (decide (s4.1<(a.len:Int)))
  (zg a s4.1 1 λa6=>
  (ldL (.int .u32) a6 (λx7=>
  (zr (S:=Int×Int×Unit) (λs8 k9 h4=>
  (ifP (decide (s8.2.1<(b.len:Int)))
  (zg b s8.2.1 1 λa10=>
  (ldL (.int .u32) a10 (λx11=>
  (zg x (i64.wrap (s4.1+s8.2.1)) 1 λa12=>
  (ldL (.int .u32) a12 (λx13=>
  (zg x (i64.wrap (s4.1+s8.2.1)) 1 λa14=>
  (stP a14 [.int .u32 (u32.wrap ((u64.wrap (s8.1+(u64.wrap ((u64.wrap ((u64.wrap (x7))*(u64.wrap (x11))))+(u64.wrap (x13))))))))] (λh5=>
  (0<=(32:Int) /\
  (k9 (((u64.wrap (s8.1+(u64.wrap ((u64.wrap ((u64.wrap (x7))*(u64.wrap (x11))))+(u64.wrap (x13)))))):Int).fdiv (2 ^ (min (32:Int).toNat u64.bits)),(i64.wrap (s8.2.1+1)),()) h5))) h4))) h4))) h4))
  (zg x (i64.wrap (s4.1+(b.len:Int))) 1 λa15=>
  (stP a15 [.int .u32 (u32.wrap (s8.1))] (λh6=>
  (k5 ((i64.wrap (s4.1+1)),()) h6)) h4))))
  (0,0,()) h3)) h3))
  (Kf x h3)))
  (0,()) h:=by
 have hal:=ha.len
 have hbl:=hb.len
 refine y9 (λst h'=>∃(i:Nat) (l:List Nat),st=((i:Int),())/\i<=la.length/\qf h0 h' x l/\okW l/\l.length=la.length+lb.length/\vl l=vl (la.take i)*vl lb/\∀j (hj:j<l.length),i+lb.length<=j->l[j]=0)
  (λst=>((la.length:Int)-st.1).toNat) ⟨0,_,rfl,Nat.zero_le _,ho,zec _,by simp,by rw[Zil];simp[vl],λj hj _=>by simp⟩ ?_
 rintro st h1 ⟨i,l,rfl,hi,ho1,okl,hll,hv,hz⟩
 refine ze (λh2=>?_) (λh2=>?_)
 . simp only at h2
   have hi':i<la.length:=by omega
   have hxi:=Wi oa hi'
   refine Yz i (ha.le ho1.1) rfl hi' λaa haa=>⟨_,haa,?_⟩
   refine y9 (λst h'=>∃(k c:Nat) (l':List Nat),st=((c:Int),(k:Int),())/\k<=lb.length/\c<W/\qf h0 h' x l'/\okW l'/\l'.length=la.length+lb.length /\
    vl l'+W ^ (i+k)*c=vl l+W ^ i*(la[i]*vl (lb.take k))/\∀j (hj:j<l'.length),i+lb.length<=j->l'[j]=0)
    (λst=>((lb.length:Int)-st.2.1).toNat) ⟨0,0,l,rfl,Nat.zero_le _,by decide,ho1,okl,hll,by simp[vl],hz⟩ ?_
   rintro st h3 ⟨k,c,l',rfl,hk,hc,ho3,okl',hll',hv',hz'⟩
   refine ze (λh4=>?_) (λh4=>?_)
   . simp only at h4
     have hk':k<lb.length:=by omega
     have hyk:=Wi ob hk'
     have hik:i+k<l'.length:=by omega
     have hzk:=Wi okl' hik
     have wik:i64.wrap ((i:Int)+(k:Int))=((i+k:Nat):Int):=by rw[w64 (by omega)];omega
     refine Yz k (hb.le ho3.1) rfl hk' λa1 ha1=>⟨_,ha1,?_⟩
     simp only
     rw[wik]
     refine Yz (i+k) ho3.rdW rfl hik λa2 ha2=>⟨_,ha2,?_⟩
     simp only
     rw[mac hc hxi hyk hzk]
     refine z5i (i+k) _ ho3 rfl hik (zir _) λh5 b5 _ _ _ ho5=>⟨by decide,?_⟩
     rw[zkf]
     refine⟨⟨k+1,_,_,by rw[w64 (by omega)];rfl,by omega,Zd3 hc hxi hyk hzk,ho5,z3e okl' (Nat.mod_lt _ Vz),by simp[hll'],?_,?_⟩,by rw[w64 (by omega)];omega⟩
     . have e1:=zc9 (l:=l') (k:=i+k) (v:=(c+(la[i]*lb[k]+l'[i+k])) % W) hik
       have e2:=Nat.mod_add_div (c+(la[i]*lb[k]+l'[i+k])) W
       have e3:=qe hk'
       rw[e3]
       generalize vl (l'.set (i+k) ((c+(la[i]*lb[k]+l'[i+k])) % W))=V at e1 |-
       generalize hr:(c+(la[i]*lb[k]+l'[i+k])) % W=r at *
       generalize hq:(c+(la[i]*lb[k]+l'[i+k]))/W=q at *
       generalize vl l'=V' at *
       generalize vl l=V0 at *
       generalize l'[i+k]=z at *
       generalize la[i]=xx at *
       generalize lb[k]=yy at *
       generalize vl (lb.take k)=T at *
       have p1:W ^ (i+(k+1))=W ^ (i+k)*W:=by rw[<-Nat.add_assoc,Nat.pow_succ]
       have p2:W ^ (i+k)=W ^ i*W ^ k:=Nat.pow_add ..
       rw[p1]
       generalize W ^ (i+k)=P at *
       subst p2
       generalize W ^ i=Pi at *
       generalize W ^ k=Pk at *
       grind
     . intro j hj hjl
       rw[List.length_set]at hj
       rw[List.getElem_set_ne (by omega)]
       exact hz' j hj hjl
   . simp only at h4
     have hk':k=lb.length:=by omega
     subst hk'
     have hil:i+lb.length<l'.length:=by omega
     have w1:i64.wrap ((i:Int)+(b.len:Int))=((i+lb.length:Nat):Int):=by rw[hbl,w64 (by omega)];omega
     simp only
     rw[w1]
     refine z5i (i+lb.length) c ho3 rfl hil (by rw[zir,Nat.mod_eq_of_lt hc]) λh5 b5 _ _ _ ho5=>?_
     refine⟨⟨i+1,_,by rw[w64 (by omega)];rfl,by omega,ho5,z3e okl' hc,by simp[hll'],?_,?_⟩,by rw[w64 (by omega)];omega⟩
     . have e1:=zc9 (l:=l') (k:=i+lb.length) (v:=c) hil
       rw[hz' _ hil (Nat.le_refl _)]at e1
       rw[List.take_of_length_le (Nat.le_refl _)]at hv'
       rw[qe hi',Nat.add_mul]
       rw[Nat.mul_assoc]
       omega
     . intro j hj hjl
       rw[List.length_set]at hj
       rw[List.getElem_set_ne (by omega)]
       exact hz' j hj (by omega)
 . simp only at h2
   have:i=la.length:=by omega
   subst this
   rw[List.take_of_length_le (Nat.le_refl _)]at hv
   exact H h1 l ho1 okl hll hv
end
end Den
end

section
namespace Den
open Go Iv
theorem zae{α:Type}{G:(α->Hp->Prop)->Hp->Prop}{K:α->Hp->Prop}{h:Hp}(R:α->Prop)(H:∀K':α->Hp->Prop,(∀v,R v->K' v h)->G K' h)(k:∀v,R v->K v h):zc G K h:=
 zd (λv h'=>h'=h/\R v) (λK' hk=>H K' λv hv=>hk v h (Hp.le_refl _) ⟨rfl,hv⟩) λv h' _ ⟨e,hv⟩=>by subst e;exact k v hv
def zl3(m n:Nat):Int:=if m<n then -1 else if n<m then 1 else 0
def sg(neg:Bool)(n:Nat):Int:=if neg=true then -(n:Int)else n
def NI(h:Hp)(x:TInt)(n:Int):Prop:=RdW h x.mag (dg n.natAbs)/\x.neg=decide (n<0)
theorem NI.le{h h':Hp}{x:TInt}{n:Int}(hx:NI h x n)(hl:h.le h'):NI h' x n:=⟨hx.1.le hl,hx.2⟩
theorem NI.zero{h:Hp}:NI h ⟨false,zf⟩ 0:=⟨by rw[show(0:Int).natAbs=0 from rfl,Qv];exact RdW.nil,by simp⟩
theorem zu3:∀{a b:List Nat} (i:Nat),okW a->okW b->a.length=b.length->(hi:i<a.length)->(hi':i<b.length)->a.drop (i+1)=b.drop (i+1)->a[i]<b[i]->vl a<vl b
 | [],_,i,_,_,_,hi,_,_,_=>by simp at hi
 | x :: r,[],i,_,_,hl,_,_,_,_=>by simp at hl
 | x :: r,y :: t,0,ha,hb,hl,hi,hi',hd,hlt=>by
   simp only[Nat.zero_add,List.drop_succ_cons,List.drop_zero]at hd
   subst hd
   simp only[List.getElem_cons_zero]at hlt
   simp only[vl];omega
 | x :: r,y :: t,i+1,ha,hb,hl,hi,hi',hd,hlt=>by
   obtain⟨hx,hr⟩:=zg3 ha
   obtain⟨hy,ht⟩:=zg3 hb
   have:=zu3 (a:=r) (b:=t) i hr ht (by simpa using hl) (by simpa using hi) (by simpa using hi') (by simpa using hd) (by simpa using hlt)
   simp only[vl]
   have h2:W*(vl r+1)<=W*vl t:=Nat.mul_le_mul_left _ this
   rw[Nat.mul_add]at h2;omega
theorem zjq{m n:Nat}(h:(dg m).length<(dg n).length):m<n:=by
 rcases Nat.lt_or_ge m n with h1 | h1
 . exact h1
 . exfalso
   have h2:=Xm.1 (Nat.le_refl (dg m).length)
   have h3:(dg n).length<=(dg m).length:=Xm.2 (Nat.lt_of_le_of_lt h1 h2)
   omega
section
variable {h : Hp} {x y : Sl} {l m : List Nat} {Ks : Sl → Hp → Prop} {Ki : Int → Hp → Prop} {Kb : Bool → Hp → Prop} {KI : TInt → Hp → Prop}
theorem zmh(neg:Bool)(n:Nat):(sg neg n).natAbs=n:=by unfold sg;split<;>simp
theorem zxg{neg:Bool}(hr:RdW h x l)(ok:okW l)(hl:l.length<4611686018427387904)(H:∀y,NI h y (sg neg (vl l))->KI y h):F.yu neg x KI h:=by
 unfold F.yu
 refine z11 hr hl λy hy=>?_
 rw[Vy ok]at hy
 have hyl:=hy.len
 refine Za (λh1=>?_) (λh1=>?_)
 . have h0:vl l=0:=z2g.1 (List.length_eq_zero_iff.1 (by omega))
   refine H _ ?_
   rw[h0]
   have:sg neg 0=0:=by unfold sg;split<;>rfl
   rw[this];exact NI.zero
 . refine H _ ⟨by rw[zmh];exact hy,?_⟩
   have hpos:vl l≠0:=λh0=>by rw[h0,Qv]at hyl;exact h1 (by rw[hyl];rfl)
   unfold sg
   cases neg
   . simp
   . simp;omega
theorem zsy{neg:Bool}(hr:RdW h x l)(ok:okW l)(hl:l.length<4611686018427387904)(H:∀y,NI h y (sg neg (vl l))->KI y h):F.Vt neg x KI h:=by
 unfold F.Vt
 refine zie hr hl λy hy=>?_
 rw[Vy ok]at hy
 have hyl:=hy.len
 have hz:(vl l=0)↔(dg (vl l)).length=0:=by rw[List.length_eq_zero_iff,z2g]
 refine zp (λh1=>?_) (λh1=>?_)
 . refine H _ ⟨by rw[zmh];exact hy,?_⟩
   rw[h1]
   unfold sg
   simp only[if_true]
   congr 1
   apply propext
   omega
 . refine H _ ⟨by rw[zmh];exact hy,?_⟩
   rw[h1]
   unfold sg
   simp
theorem z6y{neg:Bool}(hr:RdW h x l)(ok:okW l)(hl:l.length<4611686018427387904)(H:∀y,NI h y (sg neg (vl l))->KI y h):zc (F.yu neg x) KI h:=
 zae _ (λK'=>zxg hr ok hl) H
theorem zmf{neg:Bool}(hr:RdW h x l)(ok:okW l)(hl:l.length<4611686018427387904)(H:∀y,NI h y (sg neg (vl l))->KI y h):zc (F.Vt neg x) KI h:=
 zae _ (λK'=>zsy hr ok hl) H
theorem zbo(hr:RdW h x l)(hl:l.length<=35184372088800)(H:∀y h',h.le h'->RdW h' y l->Ks y h'):zc (F.Zg x) Ks h:=by
 refine zd (λy h'=>RdW h' y l) (λK' hk=>?_) H
 unfold F.Zg
 have hlen:=hr.len
 refine zp (λh1=>?_) (λh1=>?_)
 . have hn:x.a=none:=by cases hx:x.a with | none=>rfl | some a=>rw[hx]at h1;cases h1
   have:l=[]:=by
    have h2:=hr.1.2
    rw[hn]at h2
    simp only[Z3]at h2
    split at h2
    . rename_i h3;rw[z7g]at h3;exact List.length_eq_zero_iff.1 h3
    . cases h2
   subst this
   exact hk _ _ (Hp.le_refl _) RdW.nil
 . refine z6w (n:=0) (size:=1) rfl λb h1 hb ho=>?_
   have hr1:=hr.le ho.1
   refine⟨wc l,?_,?_⟩
   . have:=hr1.1.2
     rw[z7g]at this
     rw[hlen,Nat.mul_one];exact this
   . refine z3r ho (n:=x.len) (by rw[z7g];omega) rfl ?_ (by simp only;omega) (by simp only;omega) λy h2 hy _=>hk _ _ hy.1 ⟨hy.rd,hy.2.2.1⟩
     simp[wc,Value.leaf]
theorem zo4{n:Nat}(hn:n<18446744073709551616)(H:∀y h',h.le h'->RdW h' y (dg n)->Ks y h'):F.Yx n Ks h:=by
 unfold F.Yx
 refine⟨by decide,?_⟩
 rw[zir,zkf,zir]
 have hq:n/W<W:=by unfold W;omega
 rw[Nat.mod_eq_of_lt hq]
 refine z6w (n:=2) (size:=1) rfl λb h1 hb ho=>?_
 have ho':qf h h1 ⟨some ⟨b,0,none⟩,2,2⟩ [n % W,n/W]:=ho
 have ok:okW [n % W,n/W]:=λd hd=>by
  simp only[List.mem_cons,List.not_mem_nil,or_false]at hd
  rcases hd with rfl | rfl
  . exact Nat.mod_lt _ Vz
  . exact hq
 refine z11 ho'.rdW (by simp) λy hy=>?_
 rw[Vy ok]at hy
 have:vl [n % W,n/W]=n:=by simp only[vl,Nat.mul_zero,Nat.add_zero];exact Nat.mod_add_div n W
 rw[this]at hy
 exact H _ _ ho.1 hy
theorem z1c{n:Nat}{i:Int}(hi:i=n)(hn:n<18446744073709551616)(H:∀y h',h.le h'->RdW h' y (dg n)->Ks y h'):zc (F.Yx i) Ks h:=by
 subst hi
 exact zd _ (λK'=>zo4 hn) H
theorem Z7l{n:Nat}(hn:n<18446744073709551616)(H:∀y h',h.le h'->RdW h' y (dg n)->Ks y h'):F.z2a n Ks h:=by
 unfold F.z2a
 refine⟨by decide,?_⟩
 rw[zir,zkf,zir]
 have hq:n/W<W:=by unfold W;omega
 rw[Nat.mod_eq_of_lt hq]
 refine z6w (n:=2) (size:=1) rfl λb h1 hb ho=>?_
 have ho':qf h h1 ⟨some ⟨b,0,none⟩,2,2⟩ [n % W,n/W]:=ho
 have ok:okW [n % W,n/W]:=λd hd=>by
  simp only[List.mem_cons,List.not_mem_nil,or_false]at hd
  rcases hd with rfl | rfl
  . exact Nat.mod_lt _ Vz
  . exact hq
 refine zie ho'.rdW (by simp) λy hy=>?_
 rw[Vy ok]at hy
 have:vl [n % W,n/W]=n:=by simp only[vl,Nat.mul_zero,Nat.add_zero];exact Nat.mod_add_div n W
 rw[this]at hy
 exact H _ _ ho.1 hy
theorem zit{n:Nat}{i:Int}(hi:i=n)(hn:n<18446744073709551616)(H:∀y h',h.le h'->RdW h' y (dg n)->Ks y h'):zc (F.z2a i) Ks h:=by
 subst hi
 exact zd _ (λK'=>Z7l hn) H
theorem zx0{a b:Nat}(ha:a<W)(hb:b<W):Q2 .or .u64 (u64.wrap ((a:Int)*2 ^ (min (32:Int).toNat u64.bits))) (u64.wrap (b:Int))=((a*W+b:Nat):Int):=by
 have e1:((a:Int)*2 ^ (min (32:Int).toNat u64.bits))=((a*W:Nat):Int):=by
  have:(2:Int) ^ (min (32:Int).toNat u64.bits)=((W:Nat):Int):=by decide
  rw[this];simp
 unfold W at *
 rw[e1,z7y (n:=a*4294967296) (by omega),z7y (n:=b) (by omega)]
 unfold Q2
 simp only[IntKind.bits]
 have h1:(BitVec.ofInt 64 ((a*4294967296:Nat):Int) ||| BitVec.ofInt 64 (b:Int)).toNat=a*4294967296+b:=by
  rw[BitVec.ofInt_natCast,BitVec.ofInt_natCast,BitVec.toNat_or,BitVec.toNat_ofNat,BitVec.toNat_ofNat,Nat.mod_eq_of_lt (by omega),Nat.mod_eq_of_lt (by omega)]
  have:=Nat.two_pow_add_eq_or_of_lt (i:=32) (b:=b) (by omega) a
  rw[Nat.mul_comm (2 ^ 32) a]at this
  exact this.symm
 exact(congrArg (λz:Nat=>u64.wrap (z:Int)) h1).trans (z7y (by omega))
theorem zxr(hr:RdW h x l)(ok:okW l)(hl:l.length<=2)(H:∀h',h.le h'->Ki (vl l:Int) h'):F.Xe x Ki h:=by
 unfold F.Xe
 refine zd (λ(a:Addr) h'=>h'.cell a=some (.slice x.a x.len x.cap)) (λK' hk=>?_) λa h1 l1 ha=>?_
 . unfold F.yz
   intro b e hb
   refine hk _ _ (Hp.le_ins hb) ?_
   unfold Hp.cell
   simp[Hp.ins_same]
 . have hlen:=hr.len
   refine⟨x,λk s h'=>h1.le h'/\k<=l.length/\s=((((vl (l.drop k):Nat):Int),()),()),by omega,⟨Hp.le_refl _,by omega,?_⟩,λi s h' hI=>?_,λi s h' hi hI=>?_,λs h' hI=>?_⟩
   . rw[hlen,List.drop_eq_nil_of_le (Nat.le_refl _)];rfl
   . exact Hp.cell_le hI.1 ha
   . obtain⟨hl',hk,rfl⟩:=hI
     have hi':i<l.length:=by omega
     have hr':=(hr.le l1).le hl'
     have h2:=hr'.1.2
     cases hxa:x.a with
     | none=>
       rw[hxa]at h2
       simp only[Z3]at h2
       split at h2
       . rename_i h3;rw[z7g]at h3;omega
       . cases h2
     | some ad=>
       rw[hxa]at h2
       simp only[Z3]at h2
       have hxi:=Wi ok hi'
       refine⟨ad,(l[i]:Int),rfl,λj u hj=>?_,by decide,hl',by omega,?_⟩
       . have hj0:j=0:=by
          rcases Nat.eq_zero_or_pos j with h3 | h3
          . exact h3
          . exfalso
            have:((STy.leaf (.int .u32)).cells (l[i]:Int))[j]?=none:=by
             apply List.getElem?_eq_none
             simp only[STy.cells,List.length_singleton];omega
            rw[this]at hj;cases hj
         subst hj0
         simp only[STy.cells,List.getElem?_cons_zero,Option.some.injEq]at hj
         subst hj
         refine z20 h2 _ _ ?_
         simp[wc,STy.size,hi',Lf.up]
       . have hd:l.drop i=l[i] :: l.drop (i+1):=List.drop_eq_getElem_cons hi'
         rw[hd]
         simp only[vl]
         have hsm:vl (l.drop (i+1))<W:=by
          have:=zdf (zm6 ok (i+1))
          rw[List.length_drop]at this
          refine Nat.lt_of_lt_of_le this ?_
          have h3:l.length-(i+1)<=1:=by omega
          exact Nat.le_trans (Nat.pow_le_pow_right Vz h3) (by simp)
         rw[zx0 hsm hxi]
         congr 2
         congr 1
         rw[Nat.mul_comm];omega
   . obtain⟨hl',hk,rfl⟩:=hI
     exact H _ (Hp.le_trans l1 hl')
theorem z72(hr:RdW h x l)(ok:okW l)(hl:l.length<=2)(H:∀h',h.le h'->Ki (vl l:Int) h'):zc (F.Xe x) Ki h:=
 zd (λv _=>v=(vl l:Int)) (λK' hk=>zxr hr ok hl λh' hl'=>hk _ _ hl' rfl) λv h' hl' hv=>by subst hv;exact H h' hl'
theorem z23{a b:Int}(H:Ki (if a<b then -1 else if b<a then 1 else 0) h):zc (F.Qr a b) Ki h:=by
 refine Zk _ (λK' hk=>?_) H
 unfold F.Qr
 have e:∀z:Int,(z != z)=false:=λz=>by simp
 refine Zk false (λK' hk=>by unfold F.z19;rw[e];exact hk) (Zk false (λK' hk=>by unfold F.z19;rw[e];exact hk) ?_)
 refine zt rfl (zt rfl (ze (λh1=>?_) (λh1=>ze (λh2=>?_) (λh2=>?_))))
 . rw[if_pos h1]at hk;exact hk
 . rw[if_neg h1,if_pos h2]at hk;exact hk
 . rw[if_neg h1,if_neg h2]at hk;exact hk
theorem znj{a b:Int}(H:Ki (if a<b then -1 else if b<a then 1 else 0) h):zc (F.Vh a b) Ki h:=by
 refine Zk _ (λK' hk=>?_) H
 unfold F.Vh
 have e:∀z:Int,(z != z)=false:=λz=>by simp
 refine Zk false (λK' hk=>by unfold F.W8;rw[e];exact hk) (Zk false (λK' hk=>by unfold F.W8;rw[e];exact hk) ?_)
 refine zt rfl (zt rfl (ze (λh1=>?_) (λh1=>ze (λh2=>?_) (λh2=>?_))))
 . rw[if_pos h1]at hk;exact hk
 . rw[if_neg h1,if_pos h2]at hk;exact hk
 . rw[if_neg h1,if_neg h2]at hk;exact hk
theorem zqq{m n:Nat}(hx:RdW h x (dg m))(hy:RdW h y (dg n))(hl:(dg m).length<4611686018427387904)(hl2:(dg n).length<4611686018427387904)(H:Ki (zl3 m n) h):F.Xn x y Ki h:=by
 unfold F.Xn
 have lx:=hx.len
 have ly:=hy.len
 refine yt (λh1=>?_) (λh1=>?_)
 . refine z23 ?_
   unfold zl3 at H
   by_cases h2:(dg m).length<(dg n).length
   . rw[if_pos (zjq h2)]at H
     rw[if_pos (by omega)];exact H
   . have h3:(dg n).length<(dg m).length:=by omega
     have h4:=zjq h3
     rw[if_neg (by omega),if_pos h4]at H
     rw[if_neg (by omega),if_pos (by omega)];exact H
 . have hll:(dg m).length=(dg n).length:=by omega
   refine y9 (λst h'=>h'=h/\∃k:Nat,st=((k:Int)-1,())/\k<=(dg m).length/\(dg m).drop k=(dg n).drop k) (λst=>(st.1+1).toNat)
    ⟨rfl,(dg m).length,by rw[lx,w64 (by omega)],Nat.le_refl _,by rw[List.drop_eq_nil_of_le (Nat.le_refl _),List.drop_eq_nil_of_le (by omega)]⟩ ?_
   rintro st h' ⟨rfl,k,rfl,hk,hd⟩
   refine ze (λh2=>?_) (λh2=>?_)
   . simp only at h2
     obtain⟨i,rfl⟩:∃i,k=i+1:=⟨k-1,by omega⟩
     have hi:i<(dg m).length:=by omega
     have hi':i<(dg n).length:=by omega
     refine Yz i hx (by simp only;omega) hi λa ha=>⟨_,ha,?_⟩
     refine Yz i hy (by simp only;omega) hi' λa ha=>⟨_,ha,?_⟩
     refine yt (λh3=>?_) (λh3=>?_)
     . refine Yz i hx (by simp only;omega) hi λa ha=>⟨_,ha,?_⟩
       refine Yz i hy (by simp only;omega) hi' λa ha=>⟨_,ha,?_⟩
       refine znj ?_
       unfold zl3 at H
       by_cases h4:(dg m)[i]<(dg n)[i]
       . have:=zu3 i (qr m) (qr n) hll hi hi' hd h4
         rw[Y1,Y1]at this
         rw[if_pos this]at H
         rw[if_pos (by omega)];exact H
       . have h5:(dg n)[i]<(dg m)[i]:=by omega
         have:=zu3 i (qr n) (qr m) hll.symm hi' hi hd.symm h5
         rw[Y1,Y1]at this
         rw[if_neg (by omega),if_pos this]at H
         rw[if_neg (by omega),if_pos (by omega)];exact H
     . refine⟨⟨rfl,i,by simp only;rw[w64 (by omega)];congr 1;omega,by omega,?_⟩,by simp only;rw[w64 (by omega)];omega⟩
       rw[List.drop_eq_getElem_cons hi,List.drop_eq_getElem_cons hi',hd]
       congr 1;omega
   . simp only at h2
     obtain rfl:k=0:=by omega
     simp only[List.drop_zero]at hd
     have:m=n:=by rw[<-Y1 m,<-Y1 n,hd]
     subst this
     unfold zl3 at H
     rw[if_neg (Nat.lt_irrefl _),if_neg (Nat.lt_irrefl _)]at H
     exact H
theorem z86{m n:Nat}(hx:RdW h x (dg m))(hy:RdW h y (dg n))(hl:(dg m).length<4611686018427387904)(hl2:(dg n).length<4611686018427387904)(H:Ki (zl3 m n) h):zc (F.Xn x y) Ki h:=
 Zk _ (λK'=>zqq hx hy hl hl2) H
end
end Den
end

section
namespace Den
open Go Iv
theorem zdi(n:Int):u64.wrap n=n % 18446744073709551616:=by simp[IntKind.wrap,IntKind.signed,IntKind.bits]
theorem zpl(n:Int):u32.wrap n=n % 4294967296:=by simp[IntKind.wrap,IntKind.signed,IntKind.bits]
theorem Z8e(n:Int):n.fdiv (2 ^ (min (63:Int).toNat u64.bits))=n/9223372036854775808:=by
 have e:(2:Int) ^ (min (63:Int).toNat u64.bits)=9223372036854775808:=by decide
 rw[e,Int.fdiv_eq_ediv_of_nonneg _ (by decide)]
theorem Zkr(n:Int):n.fdiv (2 ^ (min (32:Int).toNat u64.bits))=n/4294967296:=by
 have e:(2:Int) ^ (min (32:Int).toNat u64.bits)=4294967296:=by decide
 rw[e,Int.fdiv_eq_ediv_of_nonneg _ (by decide)]
theorem Zjf{x c y:Nat}(hx:x<W)(hc:c<=1)(hy:y<W):∃r b:Nat,r<W/\b<=1/\x+W*b=r+c+y /\
 u32.wrap (u64.wrap (u64.wrap (u64.wrap (x:Int)-(c:Int))-u64.wrap (y:Int)))=(r:Int) /\
 (u64.wrap (u64.wrap (u64.wrap (x:Int)-(c:Int))-u64.wrap (y:Int))).fdiv (2 ^ (min (63:Int).toNat u64.bits))=(b:Int):=by
 unfold W at *
 rw[Z8e]
 simp only[zdi,zpl]
 by_cases h:c+y<=x
 . exact⟨x-c-y,0,by omega,by omega,by omega,by omega,by omega⟩
 . exact⟨x+4294967296-c-y,1,by omega,by omega,by omega,by omega,by omega⟩
theorem sub64'{x c:Nat}(hx:x<W)(hc:c<=1):∃r b:Nat,r<W/\b<=1/\x+W*b=r+c+0 /\
 u32.wrap (u64.wrap (u64.wrap (x:Int)-(c:Int)))=(r:Int) /\
 (u64.wrap (u64.wrap (x:Int)-(c:Int))).fdiv (2 ^ (min (63:Int).toNat u64.bits))=(b:Int):=by
 unfold W at *
 rw[Z8e]
 simp only[zdi,zpl]
 by_cases h:c<=x
 . exact⟨x-c,0,by omega,by omega,by omega,by omega,by omega⟩
 . exact⟨x+4294967296-c,1,by omega,by omega,by omega,by omega,by omega⟩
theorem Hp.none_of_le{h h':Hp}{b:Nat}(hl:h.le h')(hb:h' b=none):h b=none:=by
 cases hk:h b with
 | none=>rfl
 | some B=>rw[hl _ _ hk]at hb;cases hb
theorem z8a{l:List Nat}(hl:okW l)(i:Nat):l.getD i 0<W:=by
 rw[List.getD_eq_getElem?_getD]
 rcases Nat.lt_or_ge i l.length with h | h
 . rw[List.getElem?_eq_getElem h];exact Wi hl h
 . rw[List.getElem?_eq_none h];exact Vz
theorem z7l{l:List Nat}{i:Nat}(hi:i<l.length):l.getD i 0=l[i]:=by
 rw[List.getD_eq_getElem?_getD,List.getElem?_eq_getElem hi];rfl
theorem z7m{l:List Nat}{i:Nat}(hi:l.length<=i):l.getD i 0=0:=by
 rw[List.getD_eq_getElem?_getD,List.getElem?_eq_none hi];rfl
theorem zac(l:List Nat)(i:Nat):vl (l.take (i+1))=vl (l.take i)+W ^ i*l.getD i 0:=by
 rcases Nat.lt_or_ge i l.length with h | h
 . rw[qe h,z7l h]
 . rw[z7m h,List.take_of_length_le (by omega),List.take_of_length_le h];simp
theorem z74{r:List Nat}{k v:Nat}(hk:k<r.length):vl ((r.set k v).take (k+1))=vl (r.take k)+W ^ k*v:=by
 rw[qe (by simpa using hk),List.getElem_set_self]
 congr 2
 apply List.ext_getElem
 . simp
 . intro i h1 h2
   simp only[List.length_take]at h1 h2
   simp only[List.getElem_take]
   rw[List.getElem_set_ne (by omega)]
section
variable {h : Hp} {x y : Sl} {l m : List Nat} {Ks : Sl → Hp → Prop} {Ki : Int → Hp → Prop} {Kb : Bool → Hp → Prop} {KI : TInt → Hp → Prop}
theorem Z91(hx:RdW h x l)(hy:RdW h y m)(ol:okW l)(om:okW m)(hl:l.length<=17592186044400)(hm:m.length<=17592186044400)
 (H:∀z h' r,h.le h'->RdW h' z r->okW r->vl r=vl l+vl m->r.length<=l.length+m.length+1->Ks z h'):F.z0m x y Ks h:=by
 unfold F.z0m
 have lx:=hx.len
 have ly:=hy.len
 refine zk (λst h'=>h'=h/\∃p q,RdW h st.1 p/\RdW h st.2.1 q/\okW p/\okW q/\q.length<=p.length/\p.length+q.length=l.length+m.length/\vl p+vl q=vl l+vl m) ?_ ?_
 . rintro⟨sx,sy,_⟩ h0 ⟨rfl,p,q,hp,hq,op,oq,hqp,hlen,hv⟩
   simp only at hp hq |-
   have lp:=hp.len
   have lq:=hq.len
   refine z8e 0 (p.length+1) rfl (by rw[lp,w64 (by omega)];omega) (by omega) (by omega) λw h1 hw hw2=>?_
   refine y9 (λst h'=>∃(w:Sl) (c i:Nat) (r:List Nat),st=(w,(c:Int),(i:Int),())/\i<=p.length/\c<=1/\qf h0 h' w r/\okW r/\r.length=i/\vl r+W ^ i*c=vl (p.take i)+vl (q.take i))
    (λst=>((p.length:Int)-st.2.2.1).toNat) ⟨w,0,0,[],rfl,Nat.zero_le _,by omega,hw2,Zda,rfl,by simp[vl]⟩ ?_
   rintro st h2 ⟨w,c,i,r,rfl,hi,hc,ho,okr,hrl,hv2⟩
   refine ze (λh3=>?_) (λh3=>?_)
   . have hi':i<p.length:=by have:(i:Int)<(sx.len:Int):=h3;omega
     have hpx:=Wi op hi'
     have hqx:=z8a oq i
     refine Yz i (hp.le ho.1) rfl hi' λa ha=>⟨_,ha,?_⟩
     refine zk (λs h4=>h4=h2/\s=(((c+p[i]+q.getD i 0:Nat):Int),())) ?_ ?_
     . rintro _ h4 ⟨rfl,rfl⟩
       simp only
       refine zn8 _ ho (zir _) (by omega) λw5 h5 ho5=>⟨by decide,?_⟩
       rw[zkf]
       refine⟨⟨w5,_,i+1,_,by rw[w64 (by omega)];rfl,by omega,?_,ho5,zk3 okr (λd hd=>?_),by simp[hrl],?_⟩,by rw[w64 (by omega)];omega⟩
       . unfold W at *;omega
       . rw[List.mem_singleton.1 hd];exact Nat.mod_lt _ Vz
       . rw[z80,qe hi',zac,hrl]
         have e2:=Nat.mod_add_div (c+p[i]+q.getD i 0) W
         simp only[vl,Nat.mul_zero,Nat.add_zero,Nat.pow_succ]
         generalize (c+p[i]+q.getD i 0) % W=rr at *
         generalize (c+p[i]+q.getD i 0)/W=qq at *
         generalize W ^ i=P at *
         generalize p[i]=pp at *
         generalize q.getD i 0=q0 at *
         generalize vl (p.take i)=A at *
         generalize vl (q.take i)=B at *
         generalize vl r=R at *
         clear H
         grind
     . refine ze (λh4=>?_) (λh4=>?_)
       . have hi2:i<q.length:=by have:(i:Int)<(sy.len:Int):=h4;omega
         refine Yz i (hq.le ho.1) rfl hi2 λa2 ha2=>⟨_,ha2,?_⟩
         refine⟨rfl,?_⟩
         rw[z7l hi2]at hqx |-
         simp only
         unfold W at *
         congr 1
         simp only[zdi];omega
       . have hi2:q.length<=i:=by have:¬(i:Int)<(sy.len:Int):=h4;omega
         refine⟨rfl,?_⟩
         rw[z7m hi2]
         simp only
         unfold W at *
         congr 1
         simp only[zdi];omega
   . have hi':i=p.length:=by have:¬(i:Int)<(sx.len:Int):=h3;omega
     rw[List.take_of_length_le (by omega),List.take_of_length_le (by omega)]at hv2
     refine ze (λh4=>?_) (λh4=>?_)
     . have hc1:c=1:=by have:(c:Int)>0:=h4;omega
       subst hc1
       refine zn8 1 ho (by simp only;decide) (by omega) λw5 h5 ho5=>?_
       refine H _ _ _ ho5.1 ho5.rdW (zk3 okr (λd hd=>by rw[List.mem_singleton.1 hd];decide)) ?_ (by simp;omega)
       rw[z80,hrl]
       simp only[vl,Nat.mul_zero,Nat.add_zero]
       omega
     . have hc0:c=0:=by have:¬(c:Int)>0:=h4;omega
       subst hc0
       exact H _ _ _ ho.1 ho.rdW okr (by omega) (by omega)
 . refine ze (λh1=>?_) (λh1=>?_)
   . exact⟨rfl,m,l,hy,hx,om,ol,by omega,by omega,by omega⟩
   . exact⟨rfl,l,m,hx,hy,ol,om,by omega,by omega,by omega⟩
theorem zk7(hx:RdW h x l)(hy:RdW h y m)(ol:okW l)(om:okW m)(hl:l.length<=17592186044400)(hm:m.length<=17592186044400)
 (H:∀z h' r,h.le h'->RdW h' z r->okW r->vl r=vl l+vl m->r.length<=l.length+m.length+1->Ks z h'):zc (F.z0m x y) Ks h:=
 zd (λz h'=>∃r,RdW h' z r/\okW r/\vl r=vl l+vl m/\r.length<=l.length+m.length+1)
  (λK' hk=>Z91 hx hy ol om hl hm λz h' r h1 h2 h3 h4 h5=>hk _ _ h1 ⟨r,h2,h3,h4,h5⟩) λz h' h1 ⟨r,h2,h3,h4,h5⟩=>H z h' r h1 h2 h3 h4 h5
theorem zwp{r:List Nat}{b:Nat}(hrl:r.length=l.length)(okr:okW r)(hml:m.length<=l.length)(hle:vl m<=vl l)(hb:b<=1)
 (hv:vl (r.take l.length)+vl (m.take l.length)=vl (l.take l.length)+W ^ l.length*b):vl r=vl l-vl m:=by
 rw[List.take_of_length_le (l:=r) (by omega),List.take_of_length_le hml,List.take_of_length_le (Nat.le_refl _)]at hv
 have h1:=zdf okr
 rw[hrl]at h1
 have:b=0:=by
  rcases Nat.eq_zero_or_pos b with h2 | h2
  . exact h2
  . obtain rfl:b=1:=by omega
    omega
 subst this
 omega
theorem Z4d(hx:RdW h x l)(hy:RdW h y m)(ol:okW l)(om:okW m)(hl:l.length<=35184372088800)(hml:m.length<=l.length)(hle:vl m<=vl l)
 (H:∀z h',h.le h'->RdW h' z (dg (vl l-vl m))->Ks z h'):F.Wu x y Ks h:=by
 unfold F.Wu
 have lx:=hx.len
 have ly:=hy.len
 refine z8e l.length l.length (by omega) (by omega) (by omega) (by omega) λw h1 hw hw2=>?_
 refine y9 (λst h'=>∃(c i:Nat) (r:List Nat),st=((c:Int),(i:Int),())/\i<=l.length/\c<=1/\qf h h' w r/\okW r/\r.length=l.length/\vl (r.take i)+vl (m.take i)=vl (l.take i)+W ^ i*c)
  (λst=>((l.length:Int)-st.2.1).toNat) ⟨0,0,_,rfl,Nat.zero_le _,by omega,hw2,zec _,by simp,by simp[vl]⟩ ?_
 rintro st h2 ⟨c,i,r,rfl,hi,hc,ho,okr,hrl,hv2⟩
 refine ze (λh3=>?_) (λh3=>?_)
 . have hi':i<l.length:=by have:(i:Int)<(x.len:Int):=h3;omega
   have hlx:=Wi ol hi'
   have hmx:=z8a om i
   refine Yz i (hx.le ho.1) rfl hi' λa ha=>⟨_,ha,?_⟩
   refine zk (λs h4=>h4=h2/\∃rr b:Nat,rr<W/\b<=1/\l[i]+W*b=rr+c+m.getD i 0/\u32.wrap s.1=(rr:Int)/\s.1.fdiv (2 ^ (min (63:Int).toNat u64.bits))=(b:Int)) ?_ ?_
   . rintro s h4 ⟨rfl,rr,b,hrr,hb,he,h5,h6⟩
     refine z5i i rr ho rfl (by omega) h5 λh5 b5 _ _ _ ho5=>⟨by decide,?_⟩
     rw[h6]
     refine⟨⟨b,i+1,_,by rw[w64 (by simp only;omega)];rfl,by omega,hb,ho5,z3e okr hrr,by simp[hrl],?_⟩,by simp only;rw[w64 (by omega)];omega⟩
     rw[z74 (by omega),qe hi',zac,Nat.pow_succ]
     generalize W ^ i=P at *
     generalize l[i]=pp at *
     generalize m.getD i 0=q0 at *
     generalize vl (l.take i)=A at *
     generalize vl (m.take i)=B at *
     generalize vl (r.take i)=R at *
     have e:=congrArg (P*·) he
     simp only[Nat.mul_add]at e
     rw[Nat.mul_assoc]
     omega
   . refine ze (λh4=>?_) (λh4=>?_)
     . have hi2:i<m.length:=by have:(i:Int)<(y.len:Int):=h4;omega
       refine Yz i (hy.le ho.1) rfl hi2 λa2 ha2=>⟨_,ha2,?_⟩
       rw[z7l hi2]at hmx |-
       exact⟨rfl,Zjf hlx hc hmx⟩
     . have hi2:m.length<=i:=by have:¬(i:Int)<(y.len:Int):=h4;omega
       rw[z7m hi2]
       exact⟨rfl,sub64' hlx hc⟩
 . have hi':i=l.length:=by have:¬(i:Int)<(x.len:Int):=h3;omega
   subst hi'
   refine z11 ho.rdW (by omega) λz hz=>?_
   rw[Vy okr,zwp hrl okr hml hle hc hv2]at hz
   exact H _ _ ho.1 hz
theorem zbv(hx:RdW h x l)(hy:RdW h y m)(ol:okW l)(om:okW m)(hl:l.length<=35184372088800)(hml:m.length<=l.length)(hle:vl m<=vl l)
 (H:∀z h',h.le h'->RdW h' z (dg (vl l-vl m))->Ks z h'):zc (F.Wu x y) Ks h:=
 zd _ (λK'=>Z4d hx hy ol om hl hml hle) H
theorem Z6k(hx:RdW h x l)(hy:RdW h y m)(ol:okW l)(om:okW m)(hl:l.length+m.length<=35184372088800)
 (H:∀z h',h.le h'->RdW h' z (dg (vl l*vl m))->Ks z h'):F.z1e x y Ks h:=by
 unfold F.z1e
 have lx:=hx.len
 have ly:=hy.len
 refine zk (λ_ h'=>h'=h) ?_ ?_
 . rintro _ h' rfl
   refine z8e (l.length+m.length) (l.length+m.length) (by rw[w64 (by omega)];omega) (by rw[w64 (by omega)];omega) (by omega) (by omega) λw h1 hw hw2=>?_
   refine ztv (Kf:=λw h3=>zc (F.zv w) (λr h7=>Ks r h7) h3) (hx) (hy) ol om hl hw2 λh3 r ho okr hrl hv=>?_
   refine z11 ho.rdW (by omega) λz hz=>?_
   rw[Vy okr,hv]at hz
   exact H _ _ ho.1 hz
 . refine Za (λh1=>?_) (λh1=>Za (λh2=>?_) (λh2=>rfl))
   . have:l=[]:=List.length_eq_zero_iff.1 (by omega)
     subst this
     refine H _ _ (Hp.le_refl _) ?_
     simp only[vl,Nat.zero_mul,Qv]
     exact RdW.nil
   . have:m=[]:=List.length_eq_zero_iff.1 (by omega)
     subst this
     refine H _ _ (Hp.le_refl _) ?_
     simp only[vl,Nat.mul_zero,Qv]
     exact RdW.nil
theorem ztu(hx:RdW h x l)(hy:RdW h y m)(ol:okW l)(om:okW m)(hl:l.length+m.length<=35184372088800)
 (H:∀z h',h.le h'->RdW h' z (dg (vl l*vl m))->Ks z h'):zc (F.z1e x y) Ks h:=
 zd _ (λK'=>Z6k hx hy ol om hl) H
end
end Den
end

section
namespace Den
open Go Iv
def Ok(n:Int):Prop:=(dg n.natAbs).length<=8796093022208
def Lt(k:Nat)(n:Int):Prop:=n.natAbs<W ^ k
theorem Lt.ok{k:Nat}{n:Int}(h:Lt k n)(hk:k<=8796093022208):Ok n:=Nat.le_trans (Xm.2 h) hk
theorem Lt.mono{k j:Nat}{n:Int}(h:Lt k n)(hk:k<=j):Lt j n:=Nat.lt_of_lt_of_le h (Nat.pow_le_pow_right Vz hk)
theorem Lt.mul{k j:Nat}{m n:Int}(h:Lt k m)(h2:Lt j n):Lt (k+j) (m*n):=by
 unfold Lt at *
 rw[Int.natAbs_mul,Nat.pow_add]
 exact Nat.mul_lt_mul'' h h2
theorem Lt.neg{k:Nat}{n:Int}(h:Lt k n):Lt k (-n):=by unfold Lt at *;rw[Int.natAbs_neg];exact h
theorem Lt.le{k:Nat}{m n:Int}(h:Lt k m)(h2:n.natAbs<=m.natAbs):Lt k n:=Nat.lt_of_le_of_lt h2 h
theorem NI.len{h:Hp}{x:TInt}{n:Int}(hx:NI h x n):x.mag.len=(dg n.natAbs).length:=hx.1.len
theorem NI.len0{h:Hp}{x:TInt}{n:Int}(hx:NI h x n):((x.mag.len:Int)==0)=decide (n=0):=by
 rw[hx.len]
 by_cases h0:n=0
 . subst h0;simp[Qv]
 . have:(dg n.natAbs).length≠0:=λhh=>h0 (by have:=z2g.1 (List.length_eq_zero_iff.1 hh);omega)
   rw[decide_eq_false h0]
   have h2:((dg n.natAbs).length:Int)≠0:=by omega
   simpa using λhh=>h0 (by have:=z2g.1 hh;omega)
theorem zof{n:Int}:(dg n.natAbs).length=0↔n=0:=by
 rw[List.length_eq_zero_iff,z2g];omega
section
variable {h : Hp} {x y : Sl} {l : List Nat} {m n : Int} {a b : TInt} {Ks : Sl → Hp → Prop} {Ki : Int → Hp → Prop} {Kb : Bool → Hp → Prop} {KI : TInt → Hp → Prop} {KP : (TInt × TInt × Int) → Hp → Prop}
theorem zvd(n:Nat):Q3 (dg n)=dg n:=by rw[Vy (qr n),Y1]
theorem zc7{n:Nat}(hr:RdW h x (dg n))(hl:(dg n).length<=35184372088800)(H:∀y,RdW h y (dg n)->Ks y h):zc (F.zv x) Ks h:=
 z11 hr (by omega) λy hy=>H y (by rw[zvd]at hy;exact hy)
theorem za9(ha:NI h a m)(om:(dg m.natAbs).length<=35184372087808)(H:∀y,RdW h y (dg m.natAbs)->Ks y h):zc (F.zv a.mag) Ks h:=
 zc7 ha.1 (Nat.le_trans om (by decide)) H
theorem Vx(ha:NI h a m)(om:Ok m)(H:∀y,RdW h y (dg m.natAbs)->Ks y h):zc (F.zv a.mag) Ks h:=
 zc7 ha.1 (Nat.le_trans om (by decide)) H
theorem Vu{neg:Bool}{k:Nat}(hr:RdW h x (dg k))(hl:(dg k).length<=35184372088800)(H:∀y,NI h y (sg neg k)->KI y h):zc (F.yu neg x) KI h:=
 z6y hr (qr k) (by omega) λy hy=>H y (by rw[Y1]at hy;exact hy)
theorem zbe{neg:Bool}{k:Nat}(hr:RdW h x (dg k))(hl:(dg k).length<=35184372088800)(H:∀y,NI h y (sg neg k)->KI y h):zc (F.Vt neg x) KI h:=
 zmf hr (qr k) (by omega) λy hy=>H y (by rw[Y1]at hy;exact hy)
theorem Zje(n:Int):sg (decide (n<0)) n.natAbs=n:=by
 unfold sg
 by_cases h:n<0
 . rw[if_pos (by simpa using h)];omega
 . rw[if_neg (by simpa using h)];omega
theorem Zdm(n:Int):sg (!decide (n<0)) n.natAbs=-n:=by
 unfold sg
 by_cases h:n<0
 . rw[if_neg (by simpa using h)];omega
 . rw[if_pos (by simpa using h)];omega
theorem Z6r{n:Int}(h:n<0)(h2:-9223372036854775808<=n):u64.wrap (0-u64.wrap n)=((n.natAbs:Nat):Int):=by
 simp only[zdi];omega
theorem Z6s{n:Int}(h:¬n<0)(h2:n<=9223372036854775807):u64.wrap n=((n.natAbs:Nat):Int):=by
 simp only[zdi];omega
theorem dg2{n:Nat}(h:n<18446744073709551616):(dg n).length<=2:=by
 have h2:W ^ 2=18446744073709551616:=by decide
 exact Xm.2 (by rw[h2];exact h)
theorem z81(h1:-9223372036854775808<=n)(h2:n<=9223372036854775807)(H:∀y h',h.le h'->NI h' y n->KI y h'):zc (F.Wj n) KI h:=by
 refine zd _ (λK' hk=>?_) H
 unfold F.Wj
 refine zk (λs h'=>h'=h/\s=(((n.natAbs:Nat):Int),())) ?_ ?_
 . rintro _ h' ⟨rfl,rfl⟩
   refine z1c rfl (by omega) λy h1 hl hy=>?_
   have:=dg2 (n:=n.natAbs) (by omega)
   refine Vu hy (by omega) λz hz=>hk _ _ hl ?_
   rw[Zje]at hz;exact hz
 . refine ze (λh3=>⟨rfl,?_⟩) (λh3=>⟨rfl,?_⟩)
   . rw[Z6r h3 h1]
   . rw[Z6s h3 h2]
theorem zbd(h1:-9223372036854775808<=n)(h2:n<=9223372036854775807)(H:∀y h',h.le h'->NI h' y n->KI y h'):zc (F.z1k n) KI h:=by
 refine zd _ (λK' hk=>?_) H
 unfold F.z1k
 have h5:=dg2 (n:=n.natAbs) (by omega)
 refine ze (λh3=>?_) (λh3=>?_)
 . rw[Z6r h3 h1]
   refine zit rfl (by omega) λy h1 hl hy=>?_
   refine zbe hy (by omega) λz hz=>hk _ _ hl ?_
   have:sg true n.natAbs=n:=by unfold sg;simp;omega
   rw[this]at hz;exact hz
 . rw[Z6s h3 h2]
   refine zit rfl (by omega) λy h1 hl hy=>?_
   refine zbe hy (by omega) λz hz=>hk _ _ hl ?_
   have:sg false n.natAbs=n:=by unfold sg;simp;omega
   rw[this]at hz;exact hz
theorem zbj(ha:NI h a m)(om:(dg m.natAbs).length<=35184372087808)(H:Ki m.sign h):zc (F.Wn a) Ki h:=by
 refine Zk _ (λK' hk=>?_) H
 unfold F.Wn
 refine za9 ha om λy hy=>?_
 have hl:=hy.len
 refine Za (λh1=>?_) (λh1=>?_)
 . have:m=0:=zof.1 (by omega)
   subst this;exact hk
 . have:m≠0:=λh0=>h1 (by subst h0;rw[hl];simp[Qv])
   rw[ha.2]
   refine ze (λh2=>?_) (λh2=>?_)
   . rw[Int.sign_eq_neg_one_of_neg h2]at hk;exact hk
   . rw[Int.sign_eq_one_of_pos (by omega)]at hk;exact hk
theorem zdo(ha:NI h a m)(om:Ok m)(H:Ki m.sign h):zc (F.Wn a) Ki h:=zbj ha (Nat.le_trans om (by decide)) H
theorem zn0(ha:NI h a m)(om:Ok m)(H:∀y h',h.le h'->NI h' y (-m)->KI y h'):zc (F.z4c a) KI h:=by
 refine zd _ (λK' hk=>?_) H
 unfold F.z4c
 refine Vx ha om λy hy=>zbo hy (Nat.le_trans om (by decide)) λz h1 hl hz=>Vu hz (Nat.le_trans om (by decide)) λw hw=>hk _ _ hl ?_
 rw[ha.2,Zdm]at hw;exact hw
theorem Zdl(m n:Int):sg (!(decide (m<0)==decide (n<0))) (m.natAbs*n.natAbs)=m*n:=by
 unfold sg
 rw[<-Int.natAbs_mul]
 by_cases h1:m<0<;>by_cases h2:n<0<;>simp[h1,h2]
 . have:=Int.mul_pos_of_neg_of_neg h1 h2
   omega
 . have:=Int.mul_nonpos_of_nonpos_of_nonneg (a:=m) (b:=n) (by omega) (by omega)
   omega
 . have:=Int.mul_nonpos_of_nonneg_of_nonpos (a:=m) (b:=n) (by omega) (by omega)
   omega
 . have:=Int.mul_nonneg (a:=m) (b:=n) (by omega) (by omega)
   omega
theorem Z8r{m n k:Nat}(om:(dg m).length<=k)(on:(dg n).length<=k):(dg (m*n)).length<=k+k:=by
 refine Xm.2 ?_
 rw[Nat.pow_add]
 exact Nat.mul_lt_mul'' (Xm.1 om) (Xm.1 on)
theorem Zd7{m n:Int}(om:Ok m)(on:Ok n):(dg (m.natAbs*n.natAbs)).length<=35184372088800:=
 Nat.le_trans (Z8r om on) (by decide)
theorem z48(ha:NI h a m)(hb:NI h b n)(om:Ok m)(on:Ok n)(H:∀y h',h.le h'->NI h' y (m*n)->KI y h'):zc (F.Qh a b) KI h:=by
 refine zd _ (λK' hk=>?_) H
 unfold F.Qh
 have om':(dg m.natAbs).length<=8796093022208:=om
 have on':(dg n.natAbs).length<=8796093022208:=on
 refine Vx ha om λy hy=>Vx hb on λz hz=>ztu hy hz (qr _) (qr _) (by omega) λw h1 hl hw=>?_
 rw[Y1,Y1]at hw
 refine Vu hw (Zd7 om on) λw2 hw2=>hk _ _ hl ?_
 rw[ha.2,hb.2,Zdl]at hw2;exact hw2
theorem z57{m n:Nat}(h:m<=n):(dg m).length<=(dg n).length:=Xm.2 (Nat.lt_of_le_of_lt h (Xm.1 (Nat.le_refl _)))
theorem Z98{m n:Int}(h:decide (m<0)=decide (n<0)):sg (decide (m<0)) (m.natAbs+n.natAbs)=m+n:=by
 unfold sg
 by_cases h1:m<0<;>by_cases h2:n<0<;>simp[h1,h2]at h |-<;>omega
theorem zv3{m n:Int}(h:decide (m<0)≠decide (n<0))(hle:n.natAbs<=m.natAbs):sg (decide (m<0)) (m.natAbs-n.natAbs)=m+n:=by
 unfold sg
 by_cases h1:m<0<;>by_cases h2:n<0<;>simp[h1,h2]at h |-<;>omega
theorem ztb{m n:Nat}(om:(dg m).length<=8796093022208):(dg (m-n)).length<=35184372088800:=by
 have:=z57 (Nat.sub_le m n);omega
theorem zmv(ha:NI h a m)(hb:NI h b n)(om:Ok m)(on:Ok n)(H:∀y h',h.le h'->NI h' y (m+n)->KI y h'):zc (F.z4a a b) KI h:=by
 refine zd _ (λK' hk=>?_) H
 unfold F.z4a
 have om':(dg m.natAbs).length<=8796093022208:=om
 have on':(dg n.natAbs).length<=8796093022208:=on
 refine Vx ha om λy hy=>Vx hb on λz hz=>?_
 rw[ha.2,hb.2]
 refine zp (λh1=>?_) (λh1=>?_)
 . have h1':decide (m<0)=decide (n<0):=by simpa using h1
   refine zk7 hy hz (qr _) (qr _) (by omega) (by omega) λw h1 r hl hw ok hv hlen=>?_
   rw[Y1,Y1]at hv
   refine z6y hw ok (by omega) λw2 hw2=>hk _ _ hl ?_
   rw[hv,Z98 h1']at hw2;exact hw2
 . have h1':decide (m<0)≠decide (n<0):=by simpa using h1
   refine z86 hy hz (by omega) (by omega) ?_
   unfold zl3
   by_cases h2:m.natAbs<n.natAbs
   . rw[if_pos h2]
     refine Z9 rfl ?_
     refine zbv hz hy (qr _) (qr _) (by omega) (z57 (by omega)) (by rw[Y1,Y1];omega) λw h1 hl hw=>?_
     rw[Y1,Y1]at hw
     refine Vu hw (ztb on') λw2 hw2=>hk _ _ hl ?_
     rw[zv3 (λe=>h1' e.symm) (by omega),Int.add_comm]at hw2;exact hw2
   . rw[if_neg h2]
     refine zt (by split<;>rfl) ?_
     refine zbv hy hz (qr _) (qr _) (by omega) (z57 (by omega)) (by rw[Y1,Y1];omega) λw h1 hl hw=>?_
     rw[Y1,Y1]at hw
     refine Vu hw (ztb om') λw2 hw2=>hk _ _ hl ?_
     rw[zv3 h1' (by omega)]at hw2;exact hw2
theorem Z58{m n:Int}(h:m.sign=n.sign):m.sign*zl3 m.natAbs n.natAbs=(m-n).sign:=by
 unfold zl3
 rcases Int.lt_trichotomy m 0 with h1 | h1 | h1
 . have h2:n<0:=Int.sign_eq_neg_one_iff_neg.1 (by rw[<-h];exact Int.sign_eq_neg_one_of_neg h1)
   rw[Int.sign_eq_neg_one_of_neg h1]
   split
   . rw[Int.sign_eq_one_of_pos (by omega)];rfl
   . split
     . rw[Int.sign_eq_neg_one_of_neg (by omega)];rfl
     . have:m=n:=by omega
       subst this;simp
 . subst h1
   have h2:n=0:=by rw[Int.sign_zero]at h;exact Int.sign_eq_zero_iff_zero.1 h.symm
   subst h2;rfl
 . have h2:0<n:=Int.sign_eq_one_iff_pos.1 (by rw[<-h];exact Int.sign_eq_one_of_pos h1)
   rw[Int.sign_eq_one_of_pos h1]
   split
   . rw[Int.sign_eq_neg_one_of_neg (by omega)];rfl
   . split
     . rw[Int.sign_eq_one_of_pos (by omega)];rfl
     . have:m=n:=by omega
       subst this;simp
theorem z6a(n:Int):n.sign=-1/\n<0\/n.sign=0/\n=0\/n.sign=1/\0<n:=by
 rcases Int.lt_trichotomy n 0 with h1 | h1 | h1
 . exact .inl ⟨Int.sign_eq_neg_one_of_neg h1,h1⟩
 . subst h1;exact .inr (.inl ⟨rfl,rfl⟩)
 . exact .inr (.inr ⟨Int.sign_eq_one_of_pos h1,h1⟩)
theorem Z9c{m n:Int}(h:m.sign≠n.sign):(if m.sign<n.sign then (-1:Int)else if n.sign<m.sign then 1 else 0)=(m-n).sign:=by
 have hm:=z6a m
 have hn:=z6a n
 have hd:=z6a (m-n)
 split
 . omega
 . split<;>omega
theorem zxx(ha:NI h a m)(hb:NI h b n)(om:Ok m)(on:Ok n)(H:Ki (m-n).sign h):zc (F.z4b a b) Ki h:=by
 refine Zk _ (λK' hk=>?_) H
 unfold F.z4b
 have om':(dg m.natAbs).length<=8796093022208:=om
 have on':(dg n.natAbs).length<=8796093022208:=on
 refine zdo ha om (zdo hb on ?_)
 refine yt (λh1=>?_) (λh1=>?_)
 . refine z23 ?_
   rw[Z9c h1];exact hk
 . refine Vx ha om λy hy=>Vx hb on λz hz=>z86 hy hz (by omega) (by omega) ?_
   rw[Z58 h1]
   have:=z6a (m-n)
   rw[w64 (by omega)];exact hk
end
end Den
end

section
namespace Den
open Go Iv
theorem Z6j(a b:Nat):((a:Int)).tdiv (b:Int)=((a/b:Nat):Int):=(Int.ofNat_tdiv a b).symm
theorem zpe(a b:Nat):((a:Int)).tmod (b:Int)=((a % b:Nat):Int):=(Int.ofNat_tmod a b).symm
theorem zvf{n:Nat}(h:n<W):u32.wrap (n:Int)=(n:Int):=by rw[zir,Nat.mod_eq_of_lt h]
theorem zjd{n:Nat}(h:n<W):u64.wrap (n:Int)=(n:Int):=z7y (by unfold W at h;omega)
theorem Zau{x y:Nat}(hx:x<W)(hy:y<W):Q2 .or .u32 (x:Int) (y:Int)=((x ||| y:Nat):Int):=by
 unfold Q2
 simp only[IntKind.bits]
 have h1:(BitVec.ofInt 32 (x:Int) ||| BitVec.ofInt 32 (y:Int)).toNat=x ||| y:=by
  unfold W at *
  rw[BitVec.ofInt_natCast,BitVec.ofInt_natCast,BitVec.toNat_or,BitVec.toNat_ofNat,BitVec.toNat_ofNat,Nat.mod_eq_of_lt (by omega),Nat.mod_eq_of_lt (by omega)]
 have h2:x ||| y<W:=Nat.or_lt_two_pow (n:=32) hx hy
 exact(congrArg (λz:Nat=>u32.wrap (z:Int)) h1).trans (zvf h2)
def bl(n:Nat):Nat:=if n=0 then 0 else n.log2+1
theorem Z9p(n:Nat):n<2 ^ bl n:=by
 unfold bl
 split
 . rename_i h;subst h;decide
 . exact Nat.lt_log2_self
theorem Z9o{n:Nat}(h:n≠0):2 ^ (bl n-1)<=n:=by
 unfold bl
 rw[if_neg h]
 exact Nat.log2_self_le h
theorem zy7{n:Nat}(h:n≠0):0<bl n:=by unfold bl;rw[if_neg h];omega
theorem Z80{n b:Nat}(h1:2 ^ b<=n)(h2:n<2 ^ (b+1)):bl n=b+1:=by
 have h0:n≠0:=by have:=Nat.two_pow_pos b;omega
 unfold bl
 rw[if_neg h0]
 have h3:=(Nat.le_log2 h0 (k:=b)).2 h1
 have h4:=(Nat.log2_lt h0 (k:=b+1)).2 h2
 omega
theorem znc{n k:Nat}(h:n<2 ^ k):bl n<=k:=by
 unfold bl
 split
 . omega
 . rename_i h0
   have:=(Nat.log2_lt h0 (k:=k)).2 h
   omega
theorem znd{n k:Nat}(h:2 ^ k<=n):bl n=bl (n/2 ^ k)+k:=by
 have h0:n/2 ^ k≠0:=by
  have:=Nat.div_pos h (Nat.two_pow_pos k);omega
 have h1:=Z9o h0
 have h2:=Z9p (n/2 ^ k)
 have h3:=zy7 h0
 obtain⟨b,hb⟩:∃b,bl (n/2 ^ k)=b+1:=⟨bl (n/2 ^ k)-1,by omega⟩
 rw[hb]at h1 h2 |-
 simp only[Nat.add_sub_cancel]at h1
 rw[Nat.le_div_iff_mul_le (Nat.two_pow_pos k),<-Nat.pow_add]at h1
 rw[Nat.div_lt_iff_lt_mul (Nat.two_pow_pos k),<-Nat.pow_add]at h2
 rw[Z80 (b:=b+k) h1 (by rw[show b+k+1=b+1+k by omega];exact h2)]
 omega
section
variable {h : Hp} {x y : Sl} {l m : List Nat} {b : Nat} {Ks : Sl → Hp → Prop} {Ki : Int → Hp → Prop} {Kb : Bool → Hp → Prop} {KI : TInt → Hp → Prop} {Kp : (Sl × Sl) → Hp → Prop} {Kq : (Sl × Int) → Hp → Prop}
theorem zkn{r l:List Nat}{b rem j:Nat}(hj:j<l.length)(hrl:r.length=l.length)(hv:vl (l.drop (j+1))=b*vl (r.drop (j+1))+rem) :
 vl (l.drop j)=b*vl ((r.set j ((rem*W+l[j])/b)).drop j)+(rem*W+l[j]) % b:=by
 rw[List.drop_eq_getElem_cons (l:=l) hj,List.drop_eq_getElem_cons (l:=r.set j ((rem*W+l[j])/b)) (by simpa [hrl] using hj),List.getElem_set_self]
 simp only[vl]
 rw[List.drop_set_of_lt (by omega),hv]
 have e:=Nat.div_add_mod (rem*W+l[j]) b
 rw[Nat.mul_add,Nat.mul_add,Nat.mul_comm rem W]at *
 have:W*(b*vl (r.drop (j+1)))=b*(W*vl (r.drop (j+1))):=by rw[<-Nat.mul_assoc,Nat.mul_comm W b,Nat.mul_assoc]
 omega
theorem zmt{b rem w:Nat}(hr:rem<b)(hw:w<W):(rem*W+w)/b<W:=by
 rw[Nat.div_lt_iff_lt_mul (by omega)]
 have:(rem+1)*W<=b*W:=Nat.mul_le_mul_right _ hr
 rw[Nat.add_mul]at this
 rw[Nat.mul_comm W b];omega
theorem zkm{b rem w:Nat}(hr:rem<b)(hb:b<W)(hw:w<W) :
 u32.wrap (u64.wrap ((Q2 .or .u64 (u64.wrap ((rem:Int)*2 ^ (min (32:Int).toNat u64.bits))) (u64.wrap (w:Int))).tdiv (u64.wrap (b:Int))))=(((rem*W+w)/b:Nat):Int):=by
 have h1:=zmt hr hw
 rw[zx0 (by omega) hw,zjd hb,Z6j,zjd h1,zvf h1]
theorem Z81{x:Sl}{l:List Nat}{b:Nat}{m1:Sl}{h h1:Hp}{Kf:Int->Hp->Prop}(hx:RdW h x l)(ol:okW l)(hb:0<b)(hbW:b<W)(hl:l.length<=35184372088800)
 (ho:qf h h1 m1 (List.replicate l.length 0)) (H:∀h' r,qf h h' m1 r->okW r->r.length=l.length->vl r=vl l/b->Kf ((vl l % b:Nat):Int) h') :
 (zr (S:=Int×Int×Unit) (λs2 k3 h2=>
   (ifP (decide (s2.2.1>=0))
   (0<=(32:Int) /\
   (zg x s2.2.1 1 λa4=>
   (ldL (.int .u32) a4 (λx5=>
   (((u64.wrap ((b:Nat):Int)):Int)≠0 /\
   (zg m1 s2.2.1 1 λa6=>
   (stP a6 [.int .u32 (u32.wrap ((u64.wrap (((Q2 .or .u64 (u64.wrap (s2.1*2 ^ (min (32:Int).toNat u64.bits))) (u64.wrap (x5))):Int).tdiv (u64.wrap ((b:Nat):Int))))))] (λh3=>
   (((u64.wrap ((b:Nat):Int)):Int)≠0 /\
   (k3 (((Q2 .or .u64 (u64.wrap (s2.1*2 ^ (min (32:Int).toNat u64.bits))) (u64.wrap (x5))):Int).tmod (u64.wrap ((b:Nat):Int)),(i64.wrap (s2.2.1-1)),()) h3))) h2)))) h2)))
   (Kf s2.1 h2)))
   (0,(i64.wrap ((x.len:Int)-1)),()) h1):=by
 have lx:=hx.len
 refine y9 (λst h'=>∃(k rem:Nat) (r:List Nat),st=((rem:Int),(k:Int)-1,())/\k<=l.length/\rem<b/\qf h h' m1 r/\okW r/\r.length=l.length/\vl (l.drop k)=b*vl (r.drop k)+rem)
  (λst=>(st.2.1+1).toNat) ⟨l.length,0,_,by rw[lx,w64 (by omega)];rfl,Nat.le_refl _,hb,ho,zec _,by simp,by rw[List.drop_eq_nil_of_le (Nat.le_refl _),List.drop_eq_nil_of_le (by simp)];rfl⟩ ?_
 rintro st h2 ⟨k,rem,r,rfl,hk,hrem,ho2,okr,hrl,hv⟩
 refine ze (λh3=>?_) (λh3=>?_)
 . obtain⟨j,rfl⟩:∃j,k=j+1:=⟨k-1,by have:(k:Int)-1>=0:=h3;omega⟩
   have hj:j<l.length:=by omega
   have hw:=Wi ol hj
   have hne:u64.wrap (b:Int)≠0:=by rw[zjd hbW];omega
   have hji:((j+1:Nat):Int)-1=(j:Int):=by omega
   simp only[hji]
   refine⟨by decide,Yz j (hx.le ho2.1) rfl hj λa ha=>⟨_,ha,hne,?_⟩⟩
   refine z5i j _ ho2 rfl (by omega) (zkm hrem hbW hw) λh5 b5 _ _ _ ho5=>⟨hne,?_⟩
   rw[zx0 (by omega) hw,zjd hbW,zpe]
   refine⟨⟨j,_,_,by rw[w64 (by omega)],by omega,Nat.mod_lt _ hb,ho5,z3e okr (zmt hrem hw),by simp[hrl],zkn hj hrl hv⟩,by rw[w64 (by omega)];omega⟩
 . obtain rfl:k=0:=by have:¬(k:Int)-1>=0:=h3;omega
   simp only[List.drop_zero]at hv
   have e1:vl l/b=vl r:=by rw[hv,Nat.mul_add_div hb,Nat.div_eq_of_lt hrem];omega
   have e2:vl l % b=rem:=by rw[hv,Nat.mul_add_mod,Nat.mod_eq_of_lt hrem]
   have:=H h2 r ho2 okr hrl e1.symm
   rw[e2]at this
   exact this
theorem zfv(hx:RdW h x l)(ol:okW l)(hb:0<b)(hbW:b<W)(hl:l.length<=35184372088800)
 (H:∀z w h',h.le h'->RdW h' z (dg (vl l/b))->RdW h' w (dg (vl l % b))->Kp (z,w) h'):zc (F.Vl x b) Kp h:=by
 refine zd (λv h'=>RdW h' v.1 (dg (vl l/b))/\RdW h' v.2 (dg (vl l % b))) (λK' hk=>?_) λ⟨z,w⟩ h' hl hz=>H z w h' hl hz.1 hz.2
 unfold F.Vl
 have lx:=hx.len
 refine z8e l.length l.length (by omega) (by omega) (by omega) (by omega) λm1 h1 hw hw2=>?_
 refine Z81 (Kf:=λ(s:Int) h2=>zc (F.zv m1) (λr7 h4=>zc (F.Yx s) (λr8 h5=>K' (r7,r8) h5) h4) h2) hx ol hb hbW hl hw2 λh3 r ho okr hrl hv=>?_
 refine z11 ho.rdW (by omega) λz hz=>?_
 rw[Vy okr,hv]at hz
 have:=Nat.mod_lt (vl l) hb
 refine z1c rfl (by unfold W at hbW;omega) λw h4 hl4 hw4=>hk _ _ (Hp.le_trans ho.1 hl4) ⟨hz.le hl4,hw4⟩
theorem Zd5{s:Nat}(hs:s<=32):(2:Int) ^ (min ((s:Int)).toNat u64.bits)=((2 ^ s:Nat):Int):=by
 have:min ((s:Int)).toNat u64.bits=s:=by show min s 64=s;omega
 rw[this];simp
theorem Z4c{s:Nat}(hs:s<=32):(2:Int) ^ (min ((s:Int)).toNat u32.bits)=((2 ^ s:Nat):Int):=by
 have:min ((s:Int)).toNat u32.bits=s:=by show min s 32=s;omega
 rw[this];simp
theorem zhy{s:Nat}(hs:s<=32):2 ^ s<=W:=by
 show 2 ^ s<=2 ^ 32
 exact Nat.pow_le_pow_right (by decide) hs
theorem zeh{s:Nat}(hs:s<=32):2 ^ s*2 ^ (32-s)=W:=by
 rw[<-Nat.pow_add,show s+(32-s)=32 by omega];rfl
theorem zv5{s w:Nat}(hs:s<=32)(hw:w<W):u64.wrap (u64.wrap (w:Int)*2 ^ (min ((s:Int)).toNat u64.bits))=((w*2 ^ s:Nat):Int):=by
 rw[Zd5 hs,zjd hw,show((w:Int)*((2 ^ s:Nat):Int))=((w*2 ^ s:Nat):Int)by simp]
 refine z7y ?_
 have h1:=zhy hs
 have:w*2 ^ s<W*W:=Nat.mul_lt_mul_of_lt_of_le hw h1 Vz
 unfold W at this;omega
theorem zv4{s w:Nat}(hs:s<=32):w*2 ^ s % W=2 ^ s*(w % 2 ^ (32-s)):=by
 rw[<-zeh hs,Nat.mul_comm w,Nat.mul_mod_mul_left]
theorem Z55{s w:Nat}(hs:s<=32)(hw:w<W):w*2 ^ s/W<2 ^ s:=by
 rw[Nat.div_lt_iff_lt_mul Vz,Nat.mul_comm]
 exact Nat.mul_lt_mul_of_pos_left hw (Nat.two_pow_pos s)
theorem zsm{s c w:Nat}(hs:s<=32)(hc:c<2 ^ s):c ||| (w*2 ^ s % W)=c+w*2 ^ s % W:=by
 rw[zv4 hs,Nat.or_comm,<-Nat.two_pow_add_eq_or_of_lt hc,Nat.add_comm]
theorem Zjd{s c w:Nat}(hs:s<=32)(hc:c<2 ^ s):c+w*2 ^ s % W<W:=by
 rw[<-zsm hs hc]
 exact Nat.or_lt_two_pow (n:=32) (Nat.lt_of_lt_of_le hc (zhy hs)) (Nat.mod_lt _ Vz)
theorem Zdn{s:Nat}(hx:RdW h x l)(ol:okW l)(hs:s<=31)(hl:l.length<=35184372088800)
 (H:∀z h' r,qf h h' z r->okW r->r.length=l.length+1->vl r=vl l*2 ^ s->Ks z h'):F.Xj x (s:Int) Ks h:=by
 unfold F.Xj
 have lx:=hx.len
 refine z8e (l.length+1) (l.length+1) (by rw[w64 (by omega)];omega) (by rw[w64 (by omega)];omega) (by omega) (by omega) λm1 h1 hw hw2=>?_
 refine y9 (λst h'=>∃(i:Nat) (r:List Nat),st=((i:Int),())/\i<=l.length/\qf h h' m1 r/\okW r/\r.length=l.length+1/\(∃hi:i<r.length,r[i]<2 ^ s)/\vl (r.take (i+1))=vl (l.take i)*2 ^ s)
  (λst=>((l.length:Int)-st.1).toNat) ⟨0,_,rfl,Nat.zero_le _,hw2,zec _,by simp,⟨by simp,by simpa using Nat.two_pow_pos s⟩,by rw[qe (by simp)];simp[vl]⟩ ?_
 rintro st h2 ⟨i,r,rfl,hi,ho,okr,hrl,⟨hi1,hc⟩,hv⟩
 refine ze (λh3=>?_) (λh3=>?_)
 . have hi':i<l.length:=by have:(i:Int)<(x.len:Int):=h3;omega
   have hw:=Wi ol hi'
   refine Yz i (hx.le ho.1) rfl hi' λa ha=>⟨_,ha,by omega,?_⟩
   refine Yz i ho.rdW rfl hi1 λa2 ha2=>⟨_,ha2,?_⟩
   rw[zv5 (by omega) hw,zir]
   have e1:=zsm (w:=l[i]) (by omega) hc
   have e2:=Zjd (w:=l[i]) (by omega) hc
   refine z5i i (r[i]+l[i]*2 ^ s % W) ho rfl hi1 ?_ λh5 b5 _ _ _ ho5=>⟨by decide,?_⟩
   . rw[Zau (Wi okr hi1) (Nat.mod_lt _ Vz),e1]
   . rw[zkf]
     have e3:=Z55 (s:=s) (by omega) hw
     have e4:l[i]*2 ^ s/W<W:=Nat.lt_of_lt_of_le e3 (zhy (by omega))
     refine z5i (i+1) (l[i]*2 ^ s/W) ho5 (by rw[w64 (by omega)];rfl) (by simp;omega) (zvf e4) λh6 b6 _ _ _ ho6=>?_
     have hlen:i+1<((r.set i (r[i]+l[i]*2 ^ s % W)).set (i+1) (l[i]*2 ^ s/W)).length:=by simp;omega
     refine⟨⟨i+1,_,by rw[w64 (by omega)];rfl,by omega,ho6,z3e (z3e okr e2) e4,by simp[hrl],⟨hlen,by rw[List.getElem_set_self];exact e3⟩,?_⟩,by rw[w64 (by omega)];omega⟩
     rw[z74 (by simp;omega),z74 hi1,qe hi',Nat.add_mul,<-hv,qe hi1,Nat.pow_succ,Nat.mul_add]
     have e:=Nat.mod_add_div (l[i]*2 ^ s) W
     have e5:=congrArg (W ^ i*·) e
     simp only[Nat.mul_add]at e5
     rw[Nat.mul_assoc,Nat.mul_assoc]
     omega
 . have hi':i=l.length:=by have:¬(i:Int)<(x.len:Int):=h3;omega
   subst hi'
   rw[List.take_of_length_le (l:=l) (Nat.le_refl _),List.take_of_length_le (by omega)]at hv
   exact H _ _ r ho okr hrl hv
theorem zp4{s:Nat}(hx:RdW h x l)(ol:okW l)(hs:s<=31)(hl:l.length<=35184372088800)
 (H:∀z h' r,qf h h' z r->okW r->r.length=l.length+1->vl r=vl l*2 ^ s->Ks z h'):zc (F.Xj x (s:Int)) Ks h:=
 zd (λz h'=>∃r,qf h h' z r/\okW r/\r.length=l.length+1/\vl r=vl l*2 ^ s) (λK' hk=>Zdn hx ol hs hl λz h' r h1 h2 h3 h4=>hk z h' h1.1 ⟨r,h1,h2,h3,h4⟩) λz h' _ ⟨r,h1,h2,h3,h4⟩=>H z h' r h1 h2 h3 h4
theorem zp5{s u v:Nat}(hs:s<=32)(hu:u<W):(u/2 ^ s) ||| (v*2 ^ (32-s) % W)=u/2 ^ s+2 ^ (32-s)*(v % 2 ^ s):=by
 have h1:u/2 ^ s<2 ^ (32-s):=by
  rw[Nat.div_lt_iff_lt_mul (Nat.two_pow_pos s),Nat.mul_comm,zeh hs];exact hu
 rw[zsm (by omega) h1,zv4 (by omega),show 32-(32-s)=s by omega]
theorem Zdp{s u v:Nat}(hs:s<=32)(hu:u<W):u/2 ^ s+2 ^ (32-s)*(v % 2 ^ s)<W:=by
 rw[<-zp5 hs hu]
 exact Nat.or_lt_two_pow (n:=32) (Nat.lt_of_le_of_lt (Nat.div_le_self _ _) hu) (Nat.mod_lt _ Vz)
theorem Z57{r l:List Nat}{s i z0:Nat}(hs:s<=32)(hi:i<l.length)(hrl:r.length=l.length)
 (hv:2 ^ s*vl (r.take i)+z0=vl (l.take i)+W ^ i*(l.getD i 0 % 2 ^ s)) :
 2 ^ s*vl ((r.set i (l[i]/2 ^ s+2 ^ (32-s)*(l.getD (i+1) 0 % 2 ^ s))).take (i+1))+z0=vl (l.take (i+1))+W ^ (i+1)*(l.getD (i+1) 0 % 2 ^ s):=by
 rw[z74 (by omega),qe hi]
 rw[z7l hi]at hv
 have e:=Nat.div_add_mod l[i] (2 ^ s)
 have p:=zeh hs
 rw[Nat.pow_succ]
 generalize l.getD (i+1) 0 % 2 ^ s=A at *
 generalize 2 ^ (32-s)=Q at *
 generalize 2 ^ s=S at *
 generalize W ^ i=P at *
 generalize l[i] % S=B at *
 generalize l[i]/S=C at *
 generalize l[i]=D at *
 generalize vl (r.take i)=R at *
 generalize vl (l.take i)=L at *
 rw[<-p,<-e]
 clear hrl hi hs e p
 grind
theorem Z9a{r l:List Nat}{s:Nat}(hrl:r.length=l.length)(hv:2 ^ s*vl (r.take l.length)+l.getD 0 0 % 2 ^ s=vl (l.take l.length)+W ^ l.length*(l.getD l.length 0 % 2 ^ s)):vl r=vl l/2 ^ s:=by
 rw[List.take_of_length_le (l:=r) (by omega),List.take_of_length_le (Nat.le_refl _),z7m (Nat.le_refl _),Nat.zero_mod,Nat.mul_zero,Nat.add_zero]at hv
 rw[<-hv,Nat.mul_add_div (Nat.two_pow_pos s),Nat.div_eq_of_lt (Nat.mod_lt _ (Nat.two_pow_pos s)),Nat.add_zero]
theorem zmi{s w:Nat}(hs:s<=32):((w:Int)).fdiv (2 ^ (min ((s:Int)).toNat u32.bits))=((w/2 ^ s:Nat):Int):=by
 rw[Z4c hs]
 exact(Int.ofNat_fdiv w (2 ^ s)).symm
theorem Z56{s:Nat}(hx:RdW h x l)(ol:okW l)(hs:s<=31)(hl:l.length<=35184372088800)
 (H:∀z h' r,h.le h'->RdW h' z r->okW r->r.length=l.length->vl r=vl l/2 ^ s->Ks z h'):zc (F.Vm x (s:Int)) Ks h:=by
 refine zd (λz h'=>∃r,RdW h' z r/\okW r/\r.length=l.length/\vl r=vl l/2 ^ s) (λK' hk=>?_) λz h' hl ⟨r,h1,h2,h3,h4⟩=>H z h' r hl h1 h2 h3 h4
 unfold F.Vm
 have lx:=hx.len
 refine z8e l.length l.length (by omega) (by omega) (by omega) (by omega) λm1 h1 hw hw2=>?_
 refine y9 (λst h'=>∃(i:Nat) (r:List Nat),st=((i:Int),())/\i<=l.length/\qf h h' m1 r/\okW r/\r.length=l.length/\2 ^ s*vl (r.take i)+l.getD 0 0 % 2 ^ s=vl (l.take i)+W ^ i*(l.getD i 0 % 2 ^ s))
  (λst=>((l.length:Int)-st.1).toNat) ⟨0,_,rfl,Nat.zero_le _,hw2,zec _,by simp,by simp[vl]⟩ ?_
 rintro st h2 ⟨i,r,rfl,hi,ho,okr,hrl,hv⟩
 refine ze (λh3=>?_) (λh3=>?_)
 . have hi':i<l.length:=by have:(i:Int)<(x.len:Int):=h3;omega
   have hw:=Wi ol hi'
   have e2:=Zdp (s:=s) (v:=l.getD (i+1) 0) (by omega) hw
   have e3:=Z57 (by omega) hi' hrl hv
   refine zk (λ_ h'=>∃r',qf h h' m1 r'/\r'=r.set i (l[i]/2 ^ s+2 ^ (32-s)*(l.getD (i+1) 0 % 2 ^ s))) ?_ ?_
   . rintro _ h4 ⟨r',ho4,rfl⟩
     exact⟨⟨i+1,_,by rw[w64 (by simp only;omega)];rfl,by omega,ho4,z3e okr e2,by simp[hrl],e3⟩,by simp only;rw[w64 (by omega)];omega⟩
   . refine Yz i (hx.le ho.1) rfl hi' λa ha=>⟨_,ha,by omega,?_⟩
     refine z5i i (l[i]/2 ^ s) ho rfl (by omega) (zmi (by omega)) λh5 b5 _ _ _ ho5=>?_
     have wi:i64.wrap ((i:Int)+1)=((i+1:Nat):Int):=by rw[w64 (by omega)];rfl
     have ws:i64.wrap (32-(s:Int))=((32-s:Nat):Int):=by rw[w64 (by omega)];omega
     simp only[wi,ws]
     refine ze (λh6=>?_) (λh6=>?_)
     . have hi2:i+1<l.length:=by omega
       have hw2:=Wi ol hi2
       refine Yz i ho5.rdW rfl (by simp;omega) λa2 ha2=>⟨_,ha2,?_⟩
       refine Yz (i+1) (hx.le ho5.1) rfl hi2 λa3 ha3=>⟨_,ha3,by omega,?_⟩
       rw[zv5 (by omega) hw2,zir,List.getElem_set_self,Zau (Nat.lt_of_le_of_lt (Nat.div_le_self _ _) hw) (Nat.mod_lt _ Vz),zp5 (by omega) hw]
       refine z5i i _ ho5 rfl (by simp;omega) rfl λh7 b7 _ _ _ ho7=>⟨_,ho7,?_⟩
       rw[List.set_set,z7l hi2]
     . have hi2:l.length<=i+1:=by omega
       refine⟨_,ho5,?_⟩
       rw[z7m hi2]
       simp
 . have hi':i=l.length:=by have:¬(i:Int)<(x.len:Int):=h3;omega
   subst hi'
   exact hk _ _ ho.1 ⟨r,ho.rdW,okr,hrl,Z9a hrl hv⟩
end
end Den
end

section
namespace Iv
theorem zhf{X V P w v1 v2 u num qh rh:Nat}(hX:X<(num*w+u+1)*P)(hV:(v1*w+v2)*P<=V)(hV0:0<V)(hnum:qh*v1+rh=num)
 (hlt:X<V*w) (hc:w<=qh\/rh*w+u<qh*v2):X/V<qh:=by
 rw[Nat.div_lt_iff_lt_mul hV0]
 rcases hc with hc | hc
 . exact Nat.lt_of_lt_of_le hlt (by rw[Nat.mul_comm];exact Nat.mul_le_mul_right _ hc)
 . have h1:num*w+u+1<=qh*(v1*w+v2):=by
    rw[<-hnum,Nat.mul_add,Nat.add_mul,<-Nat.mul_assoc];omega
   have h2:(num*w+u+1)*P<=qh*((v1*w+v2)*P):=by
    rw[<-Nat.mul_assoc];exact Nat.mul_le_mul_right _ h1
   have h3:qh*((v1*w+v2)*P)<=qh*V:=Nat.mul_le_mul_left _ hV
   omega
theorem zhg{X V P w v1 v2 u num qh rh un un1:Nat}(hw:1<w)(hX:(num*w+u)*P<=X)(hV:V<(v1*w+v2+1)*P)(hV0:0<V)(hP:0<P)(hnum:qh*v1+rh=num)(hn:num=un*w+un1)
 (hv1:w<=2*v1) (hun:un<=v1) (hun1:un1<w) (hv2:v2<w) (hu:u<w)
 (hc:w<=rh\/(qh<w/\qh*v2<=rh*w+u)):qh<w/\qh<=X/V+1:=by
 have hv1p:0<v1:=by omega
 have h1:qh<w:=by
  rcases hc with hc | hc
  . have h2:un*w<=v1*w:=Nat.mul_le_mul_right _ hun
    have h3:qh*v1<w*v1:=by rw[Nat.mul_comm w v1];omega
    exact Nat.lt_of_mul_lt_mul_right h3
  . exact hc.1
 refine⟨h1,?_⟩
 have h2:qh*v2<=rh*w+u:=by
  rcases hc with hc | hc
  . have a1:qh*v2<=w*w:=Nat.mul_le_mul (by omega) (by omega)
    have a2:w*w<=rh*w:=Nat.mul_le_mul_right _ hc
    omega
  . exact hc.2
 have h3:qh*(v1*w+v2)<=num*w+u:=by
  rw[<-hnum,Nat.mul_add,Nat.add_mul,<-Nat.mul_assoc];omega
 rcases Nat.eq_zero_or_pos qh with h0 | h0
 . rw[h0];exact Nat.zero_le _
 obtain⟨q1,rfl⟩:∃q1,qh=q1+1:=⟨qh-1,by omega⟩
 have h4:q1*(v1*w+v2+1)<=num*w+u:=by
  rw[Nat.mul_add,Nat.mul_one]
  rw[Nat.add_mul]at h3
  have:w<=v1*w:=Nat.le_mul_of_pos_left _ hv1p
  omega
 have h5:q1*V<=X:=by
  have a1:q1*V<=q1*((v1*w+v2+1)*P):=Nat.mul_le_mul_left _ (Nat.le_of_lt hV)
  have a2:q1*((v1*w+v2+1)*P)<=(num*w+u)*P:=by
   rw[<-Nat.mul_assoc];exact Nat.mul_le_mul_right _ h4
  omega
 exact Nat.succ_le_succ ((Nat.le_div_iff_mul_le hV0).2 h5)
theorem Zkg{l:List Nat}(ok:okW l){n:Nat}(hl:l.length=n+2):∃P lo,P=W ^ n/\lo<P/\vl l=(l.getD (n+1) 0*W+l.getD n 0)*P+lo/\lo=vl (l.take n):=by
 refine⟨W ^ n,vl (l.take n),rfl,?_,?_,rfl⟩
 . have:=zdf (z8h ok n)
   rw[List.length_take,Nat.min_eq_left (by omega)]at this
   exact this
 . have e1:=Den.zac l n
   have e2:=Den.zac l (n+1)
   rw[List.take_of_length_le (by omega)]at e2
   rw[e2,e1,Nat.pow_succ,Nat.add_mul,Nat.mul_assoc (l.getD (n+1) 0),Nat.mul_comm (W ^ n) W,Nat.mul_comm (l.getD (n+1) 0),Nat.mul_comm (l.getD n 0)]
   omega
theorem Zla{l:List Nat}(ok:okW l){n:Nat}(hl:l.length=n+3):∃P lo,P=W ^ n/\lo<P/\vl l=((l.getD (n+2) 0*W+l.getD (n+1) 0)*W+l.getD n 0)*P+lo:=by
 obtain⟨P,lo,h1,h2,h3,h4⟩:=Zkg ok (n:=n+1) (by omega)
 refine⟨W ^ n,vl (l.take n),rfl,?_,?_⟩
 . have:=zdf (z8h ok n)
   rw[List.length_take,Nat.min_eq_left (by omega)]at this
   exact this
 . rw[h3,h4,Den.zac,h1,Nat.pow_succ]
   have:(l.getD (n+2) 0*W+l.getD (n+1) 0)*(W ^ n*W)=(l.getD (n+2) 0*W+l.getD (n+1) 0)*W*W ^ n:=by
    rw[Nat.mul_comm (W ^ n) W,Nat.mul_assoc]
   rw[this,Nat.add_mul _ (l.getD n 0),Nat.mul_comm (l.getD n 0)]
   omega
theorem zde{l:List Nat}(ok:okW l){a b:Nat}(h:vl (l.drop a)<W ^ b):vl (l.drop (a+b))=0:=by
 rcases Nat.lt_or_ge (l.drop a).length b with h1 | h1
 . rw[List.drop_eq_nil_of_le (by rw[List.length_drop]at h1;omega)];rfl
 . have:=Q9 (l:=l.drop a) (k:=b) h1
   rw[List.drop_drop]at this
   rcases Nat.eq_zero_or_pos (vl (l.drop (a+b)))with h2 | h2
   . exact h2
   . have:W ^ b<=W ^ b*vl (l.drop (a+b)):=Nat.le_mul_of_pos_right _ h2
     omega
end Iv
namespace Den
open Go Iv
theorem LeX.refl{b:Nat}{h:Hp}:LeX b h h:=λ_ _ _ hk=>hk
theorem LeX.trans{b:Nat}{h h1 h2:Hp}(x:LeX b h h1)(y:LeX b h1 h2):LeX b h h2:=λk B hne hk=>y k B hne (x k B hne hk)
theorem z49{x:Sl}{j e:Nat}{i:Int}{k:Nat}{F:Addr->Prop}(hi:i=k)(hk:k<e-j)(he:e<=x.cap)(H:zg x ((j+k:Nat):Int) 1 F):zg (x.cut j e 1) i 1 F:=by
 subst hi
 obtain⟨_,_,h3⟩:=H
 refine⟨by omega,?_,?_⟩
 . show(k:Int)<((e-j:Nat):Int);omega
 . have:(x.cut j e 1).a=x.a.map (·.add (j*1)):=by show(if x.cap=j then _ else _)=_;rw[if_neg (by omega)]
   rw[this]
   cases ha:x.a with
   | none=>rw[ha]at h3;exact h3
   | some a=>
     rw[ha]at h3
     simp only[ym,Option.map_some]at h3 |-
     rw[Wl]
     have e1:(((j+k:Nat):Int)).toNat=j+k:=rfl
     have e2:((k:Int)).toNat=k:=rfl
     rw[e1]at h3
     rw[e2]
     rw[show j*1+k*1=(j+k)*1 by omega]
     exact h3
theorem zt4{x:Sl}{lo hi:Int}{K:Sl->Prop}(a b:Nat)(ha:lo=a)(hb:hi=b)(hab:a<=b)(hc:b<=x.cap)(H:K (x.cut a b 1)):slP x lo hi 1 K:=by
 subst ha hb
 exact⟨by omega,by omega,by omega,H⟩
section
variable {h0 h : Hp} {u y : Sl} {L m : List Nat} {a0 : Addr} {j d : Nat} {Kb : Bool → Hp → Prop} {Ku : Unit → Hp → Prop}
theorem za5{i:Int}{v:Int}{K:Hp->Prop}(k n:Nat)(ha0:u.a=some a0)(ho:qf h0 h u L)(hi:i=k)(hk:k<L.length)(hv:v=n)
 (H:∀h',LeX a0.block h h'->qf h0 h' u (L.set k n)->K h'):zg u i 1 λa=>stP a [.int .u32 v] K h:=
 z5i k n ho hi hk hv λh' b h1 _ h3 h4=>H h' (by rw[h1 _ ha0];exact h3) h4
theorem Z5e{x d c z:Nat}(hx:x<W)(hd:d<W)(hc:c<=W)(hz:z<W):∃r b:Nat,r<W/\b<=W/\z+W*b=r+(x*d+c) /\
 u32.wrap (u64.wrap (u64.wrap (z:Int)-u64.wrap (u32.wrap (u64.wrap (u64.wrap (u64.wrap (x:Int)*(d:Int))+(c:Int))))))=(r:Int) /\
 u64.wrap ((u64.wrap (u64.wrap (u64.wrap (x:Int)*(d:Int))+(c:Int))).fdiv (2 ^ (min (32:Int).toNat u64.bits)) +
  (u64.wrap (u64.wrap (z:Int)-u64.wrap (u32.wrap (u64.wrap (u64.wrap (u64.wrap (x:Int)*(d:Int))+(c:Int)))))).fdiv (2 ^ (min (63:Int).toNat u64.bits)))=(b:Int):=by
 unfold W at *
 have hxd:x*d<=4294967295*4294967295:=Nat.mul_le_mul (by omega) (by omega)
 have e1:u64.wrap (u64.wrap (u64.wrap (x:Int)*(d:Int))+(c:Int))=((x*d+c:Nat):Int):=by
  rw[z7y (n:=x) (by omega),show((x:Int)*(d:Int))=((x*d:Nat):Int)by simp,z7y (n:=x*d) (by omega),show(((x*d:Nat):Int)+(c:Int))=((x*d+c:Nat):Int)by simp,z7y (by omega)]
 rw[e1,Z8e,Zkr]
 simp only[zdi,zpl]
 have ht:x*d+c<=4294967295*4294967295+4294967296:=by omega
 generalize x*d+c=t at *
 by_cases hb:t % 4294967296<=z
 . exact⟨z-t % 4294967296,t/4294967296,by omega,by omega,by omega,by omega,by omega⟩
 . exact⟨z+4294967296-t % 4294967296,t/4294967296+1,by omega,by omega,by omega,by omega,by omega⟩
theorem zay{L:List Nat}{j k v:Nat}(hj:j<=k):(L.set k v).take j=L.take j:=by
 apply List.ext_getElem
 . simp
 . intro i h1 h2
   simp only[List.length_take]at h1 h2
   simp only[List.getElem_take]
   rw[List.getElem_set_ne (by omega)]
theorem zax{L:List Nat}{k e v:Nat}(hk:k<e):(L.set k v).drop e=L.drop e:=by
 rw[List.drop_set_of_lt hk]
theorem Zdr(ha0:u.a=some a0)(ho:qf h0 h u L)(okL:okW L)(hy:RdW h y m)(okm:okW m)(hne:∀a,y.a=some a->a.block≠a0.block)(hj:j+m.length<L.length)(hd:d<W)(hL:L.length<=35184372088800+1)
 (H:∀h' L' b,LeX a0.block h h'->qf h0 h' u L'->okW L'->L'.length=L.length->L'.take j=L.take j->L'.drop (j+m.length+1)=L.drop (j+m.length+1)->b<=1 ->
   vl L'+W ^ j*(d*vl m)=vl L+W ^ (j+m.length+1)*b->Kb ((b:Int)==1) h'):F.z0n (u.cut j (j+m.length+1) 1) y (d:Int) Kb h:=by
 unfold F.z0n
 have ly:=hy.len
 have lu:=ho.len
 have lc:=ho.2.2.1
 refine y9 (λst h'=>∃(c i:Nat) (L':List Nat),st=((c:Int),(i:Int),())/\i<=m.length/\c<=W/\LeX a0.block h h'/\qf h0 h' u L'/\okW L'/\L'.length=L.length/\L'.take j=L.take j/\L'.drop (j+m.length+1)=L.drop (j+m.length+1) /\
  vl L'+W ^ j*(d*vl (m.take i))=vl L+W ^ (j+i)*c) (λst=>((m.length:Int)-st.2.1).toNat) ⟨0,0,L,rfl,Nat.zero_le _,by omega,LeX.refl,ho,okL,rfl,rfl,rfl,by simp[vl]⟩ ?_
 rintro st h1 ⟨c,i,L',rfl,hi,hc,hle,ho1,okL',hLL,htk,hdr,hv⟩
 have hy1:=hy.leX hle hne
 refine ze (λh3=>?_) (λh3=>?_)
 . have hi':i<m.length:=by have:(i:Int)<(y.len:Int):=h3;omega
   have hx:=Wi okm hi'
   have hz:=Wi okL' (k:=j+i) (by omega)
   refine Yz i hy1 rfl hi' λa ha=>⟨_,ha,?_⟩
   refine z49 rfl (by omega) (by omega) (Yz (j+i) ho1.rdW rfl (by omega) λa2 ha2=>⟨_,ha2,?_⟩)
   obtain⟨r,b,hr,hb,he,e1,e2⟩:=Z5e hx hd hc hz
   refine z49 rfl (by omega) (by omega) (za5 (j+i) r ha0 ho1 rfl (by omega) e1 λh5 hl5 ho5=>⟨by decide,by decide,?_⟩)
   refine⟨⟨b,i+1,L'.set (j+i) r,?_,by omega,hb,hle.trans hl5,ho5,z3e okL' hr,by simp[hLL],by rw[zay (by omega)];exact htk,by rw[zax (by omega)];exact hdr,?_⟩,by simp only;rw[w64 (by omega)];omega⟩
   . rw[w64 (by simp only;omega)]
     simp only[Prod.mk.injEq,and_true]
     exact⟨e2,rfl⟩
   . have e3:=zc9 (l:=L') (k:=j+i) (v:=r) (by omega)
     rw[qe hi']
     generalize vl (L'.set (j+i) r)=V at *
     generalize L'[j+i]=z at *
     generalize m[i]=x at *
     generalize vl (m.take i)=T at *
     generalize vl L'=V' at *
     generalize vl L=V0 at *
     have p1:W ^ (j+(i+1))=W ^ (j+i)*W:=by rw[<-Nat.add_assoc,Nat.pow_succ]
     have p2:W ^ (j+i)=W ^ j*W ^ i:=Nat.pow_add ..
     rw[p1]
     generalize W ^ (j+i)=P at *
     subst p2
     generalize W ^ j=Pj at *
     generalize W ^ i=Pi at *
     clear H e1 e2 hdr htk hLL okL' okL
     grind
 . have hi':i=m.length:=by have:¬(i:Int)<(y.len:Int):=h3;omega
   subst hi'
   have hz:=Wi okL' (k:=j+m.length) (by omega)
   rw[List.take_of_length_le (Nat.le_refl _)]at hv
   refine z49 (k:=m.length) (by omega) (by omega) (by omega) (Yz (j+m.length) ho1.rdW rfl (by omega) λa2 ha2=>⟨_,ha2,?_⟩)
   have key:∃r b:Nat,r<W/\b<=1/\L'[j+m.length]+W*b=r+c/\u32.wrap (u64.wrap (u64.wrap (L'[j+m.length]:Int)-(c:Int)))=(r:Int) /\
    (u64.wrap (u64.wrap (L'[j+m.length]:Int)-(c:Int))).fdiv (2 ^ (min (63:Int).toNat u64.bits))=(b:Int):=by
    rw[Z8e]
    simp only[zdi,zpl]
    unfold W at *
    generalize L'[j+m.length]=z at *
    clear H
    by_cases hb:c<=z
    . exact⟨z-c,0,by omega,by omega,by omega,by omega,by omega⟩
    . exact⟨z+4294967296-c,1,by omega,by omega,by omega,by omega,by omega⟩
   obtain⟨r,b,hr,hb,he,e1,e2⟩:=key
   refine z49 (k:=m.length) (by omega) (by omega) (by omega) (za5 (j+m.length) r ha0 ho1 rfl (by omega) e1 λh5 hl5 ho5=>⟨by decide,?_⟩)
   simp only
   rw[e2]
   refine H h5 _ b (hle.trans hl5) ho5 (z3e okL' hr) (by simp[hLL]) (by rw[zay (by omega)];exact htk) (by rw[zax (by omega)];exact hdr) hb ?_
   have e3:=zc9 (l:=L') (k:=j+m.length) (v:=r) (by omega)
   rw[Nat.pow_succ]
   generalize vl (L'.set (j+m.length) r)=V at *
   generalize L'[j+m.length]=z at *
   generalize W ^ (j+m.length)=P at *
   have e4:=congrArg (P*·) he
   simp only[Nat.mul_add]at e4
   rw[Nat.mul_assoc]
   omega
theorem zsu(ha0:u.a=some a0)(ho:qf h0 h u L)(okL:okW L)(hy:RdW h y m)(okm:okW m)(hne:∀a,y.a=some a->a.block≠a0.block)(hj:j+m.length<L.length)(hL:L.length<=35184372088800+1)
 (H:∀h' L' c,LeX a0.block h h'->qf h0 h' u L'->okW L'->L'.length=L.length->L'.take j=L.take j->L'.drop (j+m.length+1)=L.drop (j+m.length+1)->c<=1 ->
   vl L'+W ^ (j+m.length+1)*c=vl L+W ^ j*vl m->Ku () h'):F.z1p (u.cut j (j+m.length+1) 1) y Ku h:=by
 unfold F.z1p
 have ly:=hy.len
 have lu:=ho.len
 have lc:=ho.2.2.1
 refine y9 (λst h'=>∃(c i:Nat) (L':List Nat),st=((c:Int),(i:Int),())/\i<=m.length/\c<=1/\LeX a0.block h h'/\qf h0 h' u L'/\okW L'/\L'.length=L.length/\L'.take j=L.take j/\L'.drop (j+m.length+1)=L.drop (j+m.length+1) /\
  vl L'+W ^ (j+i)*c=vl L+W ^ j*vl (m.take i)) (λst=>((m.length:Int)-st.2.1).toNat) ⟨0,0,L,rfl,Nat.zero_le _,by omega,LeX.refl,ho,okL,rfl,rfl,rfl,by simp[vl]⟩ ?_
 rintro st h1 ⟨c,i,L',rfl,hi,hc,hle,ho1,okL',hLL,htk,hdr,hv⟩
 have hy1:=hy.leX hle hne
 refine ze (λh3=>?_) (λh3=>?_)
 . have hi':i<m.length:=by have:(i:Int)<(y.len:Int):=h3;omega
   have hx:=Wi okm hi'
   have hz:=Wi okL' (k:=j+i) (by omega)
   refine Yz i hy1 rfl hi' λa ha=>⟨_,ha,?_⟩
   refine z49 rfl (by omega) (by omega) (Yz (j+i) ho1.rdW rfl (by omega) λa2 ha2=>⟨_,ha2,?_⟩)
   have e0:u64.wrap ((c:Int)+u64.wrap (u64.wrap (L'[j+i]:Int)+u64.wrap (m[i]:Int)))=((c+(L'[j+i]+m[i]):Nat):Int):=by
    clear H
    unfold W at *
    simp only[zdi]
    omega
   simp only
   rw[e0]
   refine z49 rfl (by omega) (by omega) (za5 (j+i) _ ha0 ho1 rfl (by omega) (zir _) λh5 hl5 ho5=>⟨by decide,?_⟩)
   rw[zkf]
   refine⟨⟨_,i+1,_,by rw[w64 (by omega)];rfl,by omega,?_,hle.trans hl5,ho5,z3e okL' (Nat.mod_lt _ Vz),by simp[hLL],by rw[zay (by omega)];exact htk,by rw[zax (by omega)];exact hdr,?_⟩,by rw[w64 (by omega)];omega⟩
   . clear H;unfold W at *;omega
   . have e3:=zc9 (l:=L') (k:=j+i) (v:=(c+(L'[j+i]+m[i])) % W) (by omega)
     have he:=Nat.mod_add_div (c+(L'[j+i]+m[i])) W
     rw[qe hi']
     generalize vl (L'.set (j+i) ((c+(L'[j+i]+m[i])) % W))=V at *
     generalize (c+(L'[j+i]+m[i])) % W=r at *
     generalize (c+(L'[j+i]+m[i]))/W=q at *
     generalize L'[j+i]=z at *
     generalize m[i]=x at *
     generalize vl (m.take i)=T at *
     generalize vl L'=V' at *
     generalize vl L=V0 at *
     have p1:W ^ (j+(i+1))=W ^ (j+i)*W:=by rw[<-Nat.add_assoc,Nat.pow_succ]
     have p2:W ^ (j+i)=W ^ j*W ^ i:=Nat.pow_add ..
     rw[p1]
     generalize W ^ (j+i)=P at *
     subst p2
     generalize W ^ j=Pj at *
     generalize W ^ i=Pi at *
     clear H e0 hdr htk hLL okL' okL
     grind
 . have hi':i=m.length:=by have:¬(i:Int)<(y.len:Int):=h3;omega
   subst hi'
   have hz:=Wi okL' (k:=j+m.length) (by omega)
   rw[List.take_of_length_le (Nat.le_refl _)]at hv
   refine z49 (k:=m.length) (by omega) (by omega) (by omega) (Yz (j+m.length) ho1.rdW rfl (by omega) λa2 ha2=>⟨_,ha2,?_⟩)
   have e1:u32.wrap ((L'[j+m.length]:Int)+u32.wrap (c:Int))=(((c+L'[j+m.length]) % W:Nat):Int):=by
    clear H
    unfold W at *
    simp only[zpl]
    omega
   refine z49 (k:=m.length) (by omega) (by omega) (by omega) (za5 (j+m.length) _ ha0 ho1 rfl (by omega) e1 λh5 hl5 ho5=>?_)
   refine H h5 _ ((c+L'[j+m.length])/W) (hle.trans hl5) ho5 (z3e okL' (Nat.mod_lt _ Vz)) (by simp[hLL]) (by rw[zay (by omega)];exact htk) (by rw[zax (by omega)];exact hdr) (by clear H;unfold W at *;omega) ?_
   have e3:=zc9 (l:=L') (k:=j+m.length) (v:=(c+L'[j+m.length]) % W) (by omega)
   have he:=Nat.mod_add_div (c+L'[j+m.length]) W
   rw[Nat.pow_succ]
   generalize vl (L'.set (j+m.length) ((c+L'[j+m.length]) % W))=V at *
   generalize (c+L'[j+m.length]) % W=r at *
   generalize (c+L'[j+m.length])/W=q at *
   generalize L'[j+m.length]=z at *
   generalize W ^ (j+m.length)=P at *
   have e4:=congrArg (P*·) he
   simp only[Nat.mul_add]at e4
   rw[Nat.mul_assoc]
   omega
end
end Den
end

section
set_option maxRecDepth 4000
namespace Iv
theorem zis{l:List Nat}{n:Nat}(hl:l.length=n+1):vl l=vl (l.take n)+W ^ n*l[n]:=by
 have:=qe (l:=l) (k:=n) (by omega)
 rw[List.take_of_length_le (by omega)]at this
 exact this
theorem Zc2{B n:Nat}(hn:(dg B).length=n+1):(dg B)[n]≠0:=by
 intro h0
 have h1:=zis hn
 rw[h0,Nat.mul_zero,Nat.add_zero,Y1]at h1
 have h2:=zdf (z8h (qr B) n)
 rw[List.length_take,Nat.min_eq_left (by omega)]at h2
 have:=Xm.2 (show B<W ^ n by omega)
 omega
theorem zug{B:Nat}(h:(dg B).length=1):dg B=[B]:=by
 have h1:=Y1 B
 match hd:dg B,h with
 | [x],_=>
   rw[hd]at h1
   simp only[vl,Nat.mul_zero,Nat.add_zero]at h1
   rw[h1]
open Den in
theorem Z4l{B n:Nat}(hn:(dg B).length=n+1):∃s,s=32-bl (dg B)[n]/\bl (dg B)[n]<=32/\s<=31/\W ^ n*2147483648<=B*2 ^ s/\B*2 ^ s<W ^ (n+1):=by
 have h0:=Zc2 hn
 have h1:=zy7 h0
 have h2:bl (dg B)[n]<=32:=znc (Wi (qr B) (by omega))
 have h3:=Z9p (dg B)[n]
 have h4:=Z9o h0
 have h5:=zis hn
 rw[Y1]at h5
 have h6:=zdf (z8h (qr B) n)
 rw[List.length_take,Nat.min_eq_left (by omega)]at h6
 generalize (dg B)[n]=t at *
 refine⟨32-bl t,rfl,h2,by omega,?_,?_⟩
 . have e1:2147483648=2 ^ (bl t-1)*2 ^ (32-bl t):=by
    rw[<-Nat.pow_add,show bl t-1+(32-bl t)=31 by omega]
   rw[e1,<-Nat.mul_assoc]
   refine Nat.mul_le_mul_right _ ?_
   have:=Nat.mul_le_mul_left (W ^ n) h4
   omega
 . have e1:W ^ (n+1)=W ^ n*2 ^ bl t*2 ^ (32-bl t):=by
    rw[Nat.mul_assoc,<-Nat.pow_add,show bl t+(32-bl t)=32 by omega,Nat.pow_succ];rfl
   rw[e1]
   refine Nat.mul_lt_mul_of_pos_right ?_ (Nat.two_pow_pos _)
   have:=Nat.mul_le_mul_left (W ^ n) h3
   rw[Nat.mul_succ]at this
   omega
theorem win{U U1:List Nat}{j e b Y:Nat}(hl:U1.length=U.length)(hj:j<=U.length)(ht:U1.take j=U.take j)(hv:vl U1+W ^ j*Y=vl U+W ^ (j+e)*b) :
 vl (U1.drop j)+Y=vl (U.drop j)+W ^ e*b:=by
 have h1:=Q9 hj
 have h2:=Q9 (l:=U1) (k:=j) (by omega)
 rw[ht]at h2
 rw[h1,h2,Nat.pow_add,Nat.mul_assoc]at hv
 have h3:W ^ j*(vl (U1.drop j)+Y)=W ^ j*(vl (U.drop j)+W ^ e*b):=by
  rw[Nat.mul_add,Nat.mul_add];omega
 exact Nat.eq_of_mul_eq_mul_left (Nat.pow_pos Vz) h3
theorem Z7j{U U1:List Nat}{j e:Nat}(ok:okW U1)(hj:j+e<=U1.length)(hd:U1.drop (j+e)=U.drop (j+e))(h0:vl (U.drop (j+e))=0):vl (U1.drop j)<W ^ e:=by
 have h1:=Q9 (l:=U1.drop j) (k:=e) (by rw[List.length_drop];omega)
 rw[List.drop_drop,hd,h0,Nat.mul_zero,Nat.add_zero]at h1
 rw[h1]
 have h2:=zdf (z8h (zm6 ok j) e)
 rw[List.length_take,List.length_drop,Nat.min_eq_left (by omega)]at h2
 exact h2
theorem Z9l{U:List Nat}{j n:Nat}(ok:okW U)(hj:j+n+3<=U.length)(h0:vl (U.drop (j+(n+3)))=0) :
 ∃lo,lo<W ^ n/\vl (U.drop j)=((U.getD (j+(n+2)) 0*W+U.getD (j+(n+1)) 0)*W+U.getD (j+n) 0)*W ^ n+lo:=by
 have h1:=Q9 (l:=U.drop j) (k:=n+3) (by rw[List.length_drop];omega)
 rw[List.drop_drop,h0,Nat.mul_zero,Nat.add_zero]at h1
 obtain⟨P,lo,e1,e2,e3⟩:=Zla (l:=(U.drop j).take (n+3)) (n:=n) (z8h (zm6 ok j) _) (by rw[List.length_take,List.length_drop];omega)
 subst e1
 have g:∀i,i<n+3->((U.drop j).take (n+3)).getD i 0=U.getD (j+i) 0:=λi hi=>by
  simp only[List.getD_eq_getElem?_getD,List.getElem?_take,hi,if_true,List.getElem?_drop]
 rw[g _ (by omega),g _ (by omega),g _ (by omega)]at e3
 exact⟨lo,e2,h1.trans e3⟩
theorem Zki{X V P w v1 v2 un:Nat}(hX:un*w*w*P<=X)(hV:V<=(v1*w+v2+1)*P)(hlt:X<V*w)(hv2:v2<w):un<=v1:=by
 rcases Nat.lt_or_ge v1 un with h | h
 . exfalso
   have h1:v1*w+v2+1<=un*w:=by
    have:(v1+1)*w<=un*w:=Nat.mul_le_mul_right _ h
    rw[Nat.add_mul]at this;omega
   have h2:(v1*w+v2+1)*P<=un*w*P:=Nat.mul_le_mul_right _ h1
   have h3:V*w<=un*w*P*w:=Nat.mul_le_mul_right _ (Nat.le_trans hV h2)
   have h4:un*w*P*w=un*w*w*P:=by rw[Nat.mul_assoc (un*w),Nat.mul_comm P w,<-Nat.mul_assoc]
   omega
 . exact h
theorem Z3t{U:List Nat}{A s N n V:Nat}(hU:U.length=N+1)(hv:vl U=A*2 ^ s)(hA:A<W ^ N)(hs:s<=31)(hn:n+1<=N)(hV:W ^ n*2147483648<=V):vl (U.drop (N-n))<V:=by
 have h1:=Q9 (l:=U) (k:=N-n) (by omega)
 have h2:vl U<W ^ N*2147483648:=by
  rw[hv]
  exact Nat.mul_lt_mul_of_lt_of_le hA (Nat.pow_le_pow_right (n:=2) (by decide) hs) (by decide)
 have h3:W ^ N=W ^ (N-n)*W ^ n:=by rw[<-Nat.pow_add];congr 1;omega
 rw[h3,Nat.mul_assoc]at h2
 have h4:W ^ (N-n)*vl (U.drop (N-n))<W ^ (N-n)*V:=by
  have:=Nat.mul_le_mul_left (W ^ (N-n)) hV
  omega
 exact Nat.lt_of_mul_lt_mul_left h4
theorem ks0{L1:List Nat}{X V qh j e:Nat}(hV:0<V)(hq:X/V<=qh)(hw:vl (L1.drop j)+qh*V=X+W ^ e*0):qh=X/V/\vl (L1.drop j)<V:=by
 rw[Nat.mul_zero,Nat.add_zero]at hw
 have h1:qh*V<=X:=by omega
 have h2:=(Nat.le_div_iff_mul_le hV).2 h1
 obtain rfl:qh=X/V:=Nat.le_antisymm h2 hq
 refine⟨rfl,?_⟩
 have h3:=Nat.mod_add_div' X V
 have h4:=Nat.mod_lt X hV
 omega
theorem ks1{L L1 L2:List Nat}{X V qh j e c:Nat}(hV:0<V)(hq:X/V<=qh)(hq2:qh<=X/V+1)(hX:vl (L.drop j)=X)(hl1:L1.length=L.length)(hl2:L2.length=L1.length)(hj:j<=L.length)
 (ht1:L1.take j=L.take j) (ht2:L2.take j=L1.take j) (hw:vl (L1.drop j)+qh*V=X+W ^ e*1) (hlt1:vl (L1.drop j)<W ^ e) (hlt2:vl (L2.drop j)<W ^ e) (hc:c<=1)
 (hr:vl L2+W ^ (j+e)*c=vl L1+W ^ j*V):qh=X/V+1/\vl L2+W ^ j*(X/V*V)=vl L/\vl (L2.drop j)<V:=by
 rw[Nat.mul_one]at hw
 have hmd:=Nat.div_mul_le_self X V
 have h1:qh=X/V+1:=by
  rcases Nat.lt_or_ge (X/V) qh with h | h
  . omega
  . obtain rfl:qh=X/V:=Nat.le_antisymm h hq
    omega
 subst h1
 have k0:=Q9 hj
 have k1:=Q9 (l:=L1) (k:=j) (by omega)
 have k2:=Q9 (l:=L2) (k:=j) (by omega)
 rw[hX]at k0
 rw[ht2]at k2
 rw[ht1]at k1 k2
 have h3:vl (L2.drop j)+W ^ e*c=vl (L1.drop j)+V:=by
  have e1:W ^ j*(vl (L2.drop j)+W ^ e*c)=W ^ j*(vl (L1.drop j)+V):=by
   rw[Nat.mul_add,Nat.mul_add,<-Nat.mul_assoc (W ^ j),<-Nat.pow_add]
   rw[k1,k2]at hr
   omega
  exact Nat.eq_of_mul_eq_mul_left (Nat.pow_pos Vz) e1
 rw[Nat.add_mul]at hw
 have hc1:c=1:=by
  rcases Nat.eq_zero_or_pos c with h | h
  . subst h;rw[Nat.mul_zero,Nat.add_zero]at h3;omega
  . omega
 subst hc1
 have hf:vl (L2.drop j)+X/V*V=X:=by omega
 refine⟨rfl,?_,?_⟩
 . rw[k2,k0]
   have:=congrArg (W ^ j*·) hf
   simp only[Nat.mul_add]at this
   omega
 . have h5:=Nat.mod_add_div' X V
   have h6:=Nat.mod_lt X hV
   omega
theorem zwa{X V P v1 v2 un un1 un2:Nat}(hP:0<P)(hv1:0<v1)(hV:(v1*W+v2)*P<=V)(hX:X<((un*W+un1)*W+un2+1)*P)(hu:un2<W):X/V<=(un*W+un1)/v1:=by
 rw[Nat.le_div_iff_mul_le hv1]
 have h5:X/V*V<=X:=Nat.div_mul_le_self X V
 have h6:X/V*(v1*W*P)<=X/V*V:=Nat.mul_le_mul_left _ (Nat.le_trans (Nat.mul_le_mul_right _ (Nat.le_add_right _ v2)) hV)
 have h7:X/V*v1*(W*P)<(un*W+un1+1)*(W*P):=by
  have e1:X/V*(v1*W*P)=X/V*v1*(W*P):=by rw[Nat.mul_assoc v1,<-Nat.mul_assoc]
  have e2:((un*W+un1)*W+un2+1)*P<=(un*W+un1+1)*(W*P):=by
   rw[<-Nat.mul_assoc]
   refine Nat.mul_le_mul_right _ ?_
   rw[Nat.add_mul _ 1];omega
  omega
 have:=Nat.lt_of_mul_lt_mul_right h7
 omega
theorem Z7k{L:List Nat}{j V:Nat}(ok:okW L)(hj:j<L.length)(hlt:vl (L.drop (j+1))<V):vl (L.drop j)<V*W:=by
 rw[List.drop_eq_getElem_cons hj]
 simp only[vl]
 have:=Wi ok hj
 have h5:W*(vl (L.drop (j+1))+1)<=W*V:=Nat.mul_le_mul_left _ hlt
 rw[Nat.mul_add,Nat.mul_comm W V]at h5
 omega
theorem Z6m{V v1 v2 lo n:Nat}(hV:W ^ (n+1)*2147483648<=V)(hV2:V=(v1*W+v2)*W ^ n+lo)(hlo:lo<W ^ n)(hv2:v2<W):W<=2*v1:=by
 have e1:W ^ (n+1)*2147483648<(v1+1)*W ^ (n+1):=by
  refine Nat.lt_of_le_of_lt hV ?_
  rw[hV2,Nat.pow_succ,Nat.add_mul,Nat.add_mul]
  have:v2*W ^ n+W ^ n<=W ^ n*W:=by
   rw[<-Nat.succ_mul,Nat.mul_comm];exact Nat.mul_le_mul_left _ hv2
  rw[Nat.mul_assoc _ W,Nat.mul_comm W]
  omega
 rw[Nat.mul_comm]at e1
 have:=Nat.lt_of_mul_lt_mul_right e1
 unfold W;omega
theorem zyu{A V s k j q:Nat}{L L2 r:List Nat}(hk:k=j+1)(hval:A*2 ^ s=V*(W ^ k*vl (r.drop k))+vl L)(hv:vl L2+W ^ j*(q*V)=vl L)(hj:j<r.length) :
 A*2 ^ s=V*(W ^ j*vl ((r.set j q).drop j))+vl L2:=by
 subst hk
 rw[List.drop_eq_getElem_cons (l:=r.set j q) (by simpa using hj),List.getElem_set_self,List.drop_set_of_lt (by omega)]
 simp only[vl]
 rw[hval,<-hv,Nat.pow_succ,Nat.mul_add,Nat.mul_add,Nat.mul_assoc (W ^ j)]
 have e1:V*(W ^ j*q)=W ^ j*(q*V):=by
  rw[Nat.mul_comm V,Nat.mul_assoc]
 omega
theorem Z4k{V n:Nat}(hVl:W ^ (n+1)*2147483648<=V)(hVu:V<W ^ (n+2)):(dg V).length=n+2:=by
 have e1:=Xm.2 hVu
 have e2:W ^ (n+1)<=V:=Nat.le_trans (Nat.le_mul_of_pos_right _ (by decide)) hVl
 rcases Nat.lt_or_ge (dg V).length (n+2)with h3 | h3
 . exfalso
   have:=(Xm (n:=V) (k:=n+1)).1 (by omega)
   omega
 . omega
end Iv
namespace Den
open Go Iv
def ze8:ByteArray:=zL4
theorem zsc:∀i:Fin 256,(BS ze8)[i.val]?=some (bl i.val).toUInt8:=by decide +kernel
theorem bl8:∀i:Fin 256,((bl i.val).toUInt8).toNat=bl i.val:=by decide +kernel
theorem zsd{c:Nat}{K:Int->Prop}{i:Int}(hc:c<256)(hi:i=c)(H:K ((bl c:Nat):Int)):Qp ze8 i K:=by
 have h1:=zsc ⟨c,hc⟩
 have h2:=bl8 ⟨c,hc⟩
 simp only at h1 h2
 have hlen:c<(BS ze8).length:=by
  rcases Nat.lt_or_ge c (BS ze8).length with h | h
  . exact h
  . rw[List.getElem?_eq_none h]at h1;cases h1
 have h3:(BS ze8)[c]=(bl c).toUInt8:=by
  rw[List.getElem?_eq_getElem hlen]at h1
  exact Option.some.inj h1
 refine za6 (k:=c) (c:=(bl c).toUInt8) (r:=(BS ze8).drop (c+1)) ?_ hi ?_
 . rw[List.drop_eq_getElem_cons hlen,h3]
 . rw[h2];exact H
section
variable {h : Hp} {x y : Sl} {l m : List Nat} {Ks : Sl → Hp → Prop} {Ki : Int → Hp → Prop}
theorem zpz{t:Nat}(ht:t<W)(H:Ki ((bl t:Nat):Int) h):zc (F.z1q (t:Int)) Ki h:=by
 refine Zk _ (λK' hk=>?_) H
 unfold F.z1q
 have p8:∀n:Nat,((n:Int)).fdiv (2 ^ (min (8:Int).toNat u32.bits))=((n/2 ^ 8:Nat):Int):=λn=>zmi (s:=8) (by omega)
 have p16:∀n:Nat,((n:Int)).fdiv (2 ^ (min (16:Int).toNat u32.bits))=((n/2 ^ 16:Nat):Int):=λn=>zmi (s:=16) (by omega)
 refine zk (λs h'=>h'=h/\∃a b:Nat,s=((a:Int),(b:Int),())/\a<65536/\b<=16/\bl t=bl a+b) ?_ ?_
 . rintro _ h' ⟨rfl,a,b,rfl,ha,hb,he⟩
   refine zk (λs h2=>h2=h'/\∃c d:Nat,s=((c:Int),(d:Int),())/\c<256/\d<=24/\bl t=bl c+d) ?_ ?_
   . rintro _ h2 ⟨rfl,c,d,rfl,hc,hd,he2⟩
     have hbl:bl c<=32:=znc (by omega)
     refine zsd (c:=c) hc ?_ ?_
     . simp[IntKind.wrap,IntKind.signed,IntKind.bits];omega
     . simp only
       rw[Zja (by omega),show(d:Int)+((bl c:Nat):Int)=((bl t:Nat):Int)by omega,Zja (by omega)]
       exact hk
   . refine ze (λh1=>⟨by decide,?_⟩) (λh1=>?_)
     . have h2:a>=256:=by simp only at h1;omega
       refine⟨by trivial,a/2 ^ 8,b+8,?_,by omega,by omega,?_⟩
       . simp only
         rw[p8,w64 (by omega)];rfl
       . rw[he,znd (n:=a) (k:=8) h2];omega
     . have h2:a<256:=by simp only at h1;omega
       exact⟨by trivial,a,b,rfl,h2,by omega,he⟩
 . refine ze (λh1=>⟨by decide,?_⟩) (λh1=>?_)
   . have h2:t>=65536:=by omega
     refine⟨rfl,t/2 ^ 16,16,?_,by unfold W at ht;omega,by omega,?_⟩
     . rw[p16];rfl
     . rw[znd (n:=t) (k:=16) h2]
   . have h2:t<65536:=by omega
     exact⟨rfl,t,0,rfl,h2,by omega,rfl⟩
theorem zb1{t:Nat}(ht:t<W)(hb:bl t<=32)(H:Ki ((32-bl t:Nat):Int) h):zc (F.Q5 (t:Int)) Ki h:=by
 refine Zk _ (λK' hk=>?_) H
 unfold F.Q5
 refine zpz ht ?_
 rw[w64 (by omega),show(32:Int)-((bl t:Nat):Int)=((32-bl t:Nat):Int)by omega]
 exact hk
end
end Den
end

section
set_option maxHeartbeats 4000000
namespace Den
open Go Iv
theorem Own.some{h0 h:Hp}{x:Sl}{l:List Nat}(ho:qf h0 h x l)(hl:0<l.length):∃a,x.a=some a/\h0 a.block=none/\h a.block≠none:=by
 have hlen:=ho.len
 obtain⟨h1,h2,h3,h4⟩:=ho
 cases ha:x.a with
 | none=>rw[ha]at h4;simp only at h4;omega
 | some a=>
   rw[ha]at h4
   obtain⟨_,_,g3,b,g4,_⟩:=h4
   exact⟨a,rfl,g3,by rw[g4];exact λhh=>by cases hh⟩
section
variable {h : Hp} {x y : Sl} {l m : List Nat} {Ks : Sl → Hp → Prop} {Ki : Int → Hp → Prop} {Kp : (Sl × Sl) → Hp → Prop}
theorem zx4(q:Nat):(((q+1:Nat):Int)-1)=(q:Int):=by omega
theorem z67{i:Int}{Ka:Addr->Prop}(k:Nat)(hr:RdW h x l)(hi:i=k)(hk:k<l.length)
 (H:∀a,h.cell a=some (.int .u32 ((l.getD k 0:Nat):Int))->Ka a):zg x i 1 Ka:=
 Yz k hr hi hk λa ha=>H a (by rw[z7l hk];exact ha)
theorem zw1{A B:Nat}(hx:RdW h x (dg A))(hy:RdW h y (dg B))(hB:B≠0)(hl:(dg A).length<=35184372088000)(hl2:(dg B).length<=35184372088000)
 (H:∀q r h',h.le h'->RdW h' q (dg (A/B))->RdW h' r (dg (A % B))->Kp (q,r) h'):F.X1 x y Kp h:=by
 unfold F.X1
 have lx:=hx.len
 have ly:=hy.len
 refine z86 hx hy (by omega) (by omega) ?_
 unfold zl3
 by_cases hAB:A<B
 . rw[if_pos hAB]
   refine Z9 rfl ?_
   refine zbo hx (by omega) λz h1 hl1 hz=>H _ _ _ hl1 ?_ ?_
   . rw[Nat.div_eq_of_lt hAB,Qv];exact RdW.nil
   . rw[Nat.mod_eq_of_lt hAB];exact hz
 rw[if_neg hAB]
 refine zt (by split<;>rfl) ?_
 have hBl:=z57 (Nat.le_of_not_lt hAB)
 have hB0:(dg B).length≠0:=λh0=>hB (z2g.1 (List.length_eq_zero_iff.1 h0))
 refine ze (λh1=>?_) (λh1=>?_)
 . refine z72 hx (qr A) (by omega) λh2 hl2=>?_
   refine z72 (hy.le hl2) (qr B) (by omega) λh3 hl3=>?_
   rw[Y1,Y1]
   have hA64:A<18446744073709551616:=by
    have:=(Xm (n:=A) (k:=2)).1 (by omega)
    have e:W ^ 2=18446744073709551616:=by decide
    omega
   have hq:A/B<=A:=Nat.div_le_self A B
   have hr:A % B<=A:=Nat.mod_le A B
   refine⟨by omega,by omega,?_⟩
   rw[Z6j,zpe,z7y (by omega)]
   refine z1c rfl (by omega) λz h4 hl4 hz=>z1c rfl (by omega) λw h5 hl5 hw=>?_
   exact H _ _ _ (Hp.le_trans hl2 (Hp.le_trans hl3 (Hp.le_trans hl4 hl5))) (hz.le hl5) hw
 refine Za (λh2=>?_) (λh2=>?_)
 . have hB1:=zug (B:=B) (by omega)
   have hBW:B<W:=by
    have:=qr B B (by rw[hB1];exact List.mem_singleton.2 rfl)
    exact this
   refine z67 0 hy rfl (by omega) λa ha=>⟨_,ha,?_⟩
   have e0:(dg B).getD 0 0=B:=by rw[hB1];rfl
   rw[e0]
   refine zfv hx (qr A) (Nat.pos_of_ne_zero hB) hBW (by omega) λz w h3 hl3 hz hw=>?_
   rw[Y1]at hz hw
   exact H _ _ _ hl3 hz hw
 obtain⟨n,hn⟩:∃n,(dg B).length=n+2:=⟨(dg B).length-2,by omega⟩
 obtain⟨N,hN⟩:∃N,(dg A).length=N:=⟨_,rfl⟩
 obtain⟨s,hs,hbl,hs31,hVl,hVu⟩:=Z4l (B:=B) (n:=n+1) hn
 refine Yz (n+1) hy (by rw[ly,hn,w64 (by omega)];omega) (by omega) λa ha=>⟨_,ha,?_⟩
 have htW:=Wi (qr B) (k:=n+1) (by omega)
 refine zb1 htW hbl ?_
 rw[<-hs]
 refine zp4 hx (qr A) hs31 (by omega) λu h9 U ho9 okU hUl hUv=>?_
 rw[Y1]at hUv
 refine zp4 (hy.le ho9.1) (qr B) hs31 (by omega) λv0 h10 V0 ho10 okV0 hV0l hV0v=>?_
 rw[Y1]at hV0v
 refine ztx ho10.rdW (by omega) λv hv hsub=>?_
 rw[Vy okV0,hV0v]at hv
 generalize hV:B*2 ^ s=V at *
 have hVpos:0<V:=Nat.lt_of_lt_of_le (Nat.mul_pos (Nat.pow_pos Vz) (by decide)) hVl
 have hVn:(dg V).length=n+2:=Z4k hVl hVu
 have lu:=ho9.len
 have lv:=hv.len
 have hN2:n+2<=N:=by omega
 refine z8e (N-n-1) (N-n-1) (by rw[lu,lv,w64 (by omega)];omega) (by rw[lu,lv,w64 (by omega)];omega) (by omega) (by omega) λq h12 hq ho12=>?_
 obtain⟨a13,ha13,hb13,hc13⟩:=Own.some ho9 (by omega)
 obtain⟨a16,ha16,hb16,hc16⟩:=Own.some ho12 (by simp;omega)
 have hlh:h.le h10:=Hp.le_trans ho9.1 ho10.1
 have hb16h:h a16.block=none:=Hp.none_of_le hlh hb16
 have ne16:a13.block≠a16.block:=λhh=>by
  have h3:=Hp.none_of_le ho10.1 hb16
  rw[<-hh]at h3;exact hc13 h3
 have hvne:∀a,v.a=some a->a.block≠a13.block/\a.block≠a16.block:=λa ha=>by
  obtain⟨a',h3,h4⟩:=hsub a ha
  rw[h4]
  constructor
  . exact zn7 ho9 ho10 a13 a' ha13 h3 |>.symm
  . exact zn7 ho10 ho12 a' a16 h3 ha16
 have hne13:∀a,v.a=some a->a.block≠a13.block:=λa ha=>(hvne a ha).1
 have hne16:∀a,v.a=some a->a.block≠a16.block:=λa ha=>(hvne a ha).2
 have hu16:∀a,u.a=some a->a.block≠a16.block:=λa ha=>by rw[ha13]at ha;cases ha;exact ne16
 have hq13:∀a,q.a=some a->a.block≠a13.block:=λa ha=>by rw[ha16]at ha;cases ha;exact ne16.symm
 have hou:qf h h12 u U:=(ho9.le ho10.1).le ho12.1
 have hoq:qf h h12 q (List.replicate (N-n-1) 0):=ho12.base hlh
 have hv12:RdW h12 v (dg V):=hv.le ho12.1
 obtain⟨P,lo2,hP,hlo2,hVtop,_⟩:=Zkg (qr V) (n:=n) hVn
 rw[Y1]at hVtop
 have hv1:(dg V).getD (n+1) 0<W:=z8a (qr V) _
 have hv2:(dg V).getD n 0<W:=z8a (qr V) _
 refine z67 (n+1) hv12 (by rw[lv,hVn,w64 (by omega)];omega) (by omega) λa1 ha1=>⟨_,ha1,?_⟩
 refine z67 n hv12 (by rw[lv,hVn,w64 (by omega)];omega) (by omega) λa2 ha2=>⟨_,ha2,?_⟩
 generalize hgv1:(dg V).getD (n+1) 0=v1 at *
 generalize hgv2:(dg V).getD n 0=v2 at *
 subst hP
 have hv1b:W<=2*v1:=Z6m hVl hVtop hlo2 hv2
 have hAl:A<W ^ N:=Xm.1 (by omega)
 have hfirst:vl (U.drop (N-(n+1)))<V:=Z3t (n:=n+1) (by omega) hUv hAl hs31 (by omega) hVl
 refine y9 (λst h'=>∃(k:Nat) (L r:List Nat),st=((k:Int)-1,())/\k<=N-n-1/\qf h h' u L/\okW L/\L.length=N+1/\qf h h' q r/\okW r/\r.length=N-n-1/\RdW h' v (dg V) /\
  vl (L.drop k)<V/\A*2 ^ s=V*(W ^ k*vl (r.drop k))+vl L) (λst=>(st.1+1).toNat)
  ⟨N-n-1,U,_,by rw[hq,w64 (by omega)],Nat.le_refl _,hou,okU,by omega,hoq,zec _,by simp,hv12,by rw[show N-n-1=N-(n+1)by omega];exact hfirst,by rw[List.drop_eq_nil_of_le (by simp),hUv];simp[vl]⟩ ?_
 rintro st h3 ⟨k,L,r,rfl,hk,hoL,okL,hLl,hor,okr,hrl,hv3,hlt,hval⟩
 have llu:=hoL.len
 have hucap:=hoL.2.2.1
 refine ze (λh4=>?_) (λh4=>?_)
 . obtain⟨j,rfl⟩:∃j,k=j+1:=⟨k-1,by have:(k:Int)-1>=0:=h4;omega⟩
   have hji:((j+1:Nat):Int)-1=(j:Int):=by omega
   have wj:i64.wrap ((j:Int)+(v.len:Int))=((j+(n+2):Nat):Int):=by rw[lv,hVn,w64 (by omega)];omega
   have wj1:i64.wrap (((j+(n+2):Nat):Int)-1)=((j+(n+1):Nat):Int):=by rw[w64 (by omega)];omega
   have wj2:i64.wrap (((j+(n+2):Nat):Int)-2)=((j+n:Nat):Int):=by rw[w64 (by omega)];omega
   have wj3:i64.wrap (((j+(n+2):Nat):Int)+1)=((j+(n+2)+1:Nat):Int):=by rw[w64 (by omega)];omega
   simp only[hji,wj,wj1,wj2,wj3]
   have hlt2:vl (L.drop (j+1))<W ^ (n+2):=Nat.lt_trans hlt hVu
   have hz0:vl (L.drop (j+(n+3)))=0:=by
    have:=zde okL hlt2
    rw[show j+1+(n+2)=j+(n+3)by omega]at this
    exact this
   obtain⟨lo,hlo,hX⟩:=Z9l (n:=n) okL (j:=j) (by omega) hz0
   have hun:L.getD (j+(n+2)) 0<W:=z8a okL _
   have hun1:L.getD (j+(n+1)) 0<W:=z8a okL _
   have hun2:L.getD (j+n) 0<W:=z8a okL _
   have hXV:vl (L.drop j)<V*W:=Z7k okL (by omega) hlt
   refine z67 (j+(n+2)) hoL.rdW rfl (by omega) λa3 ha3=>⟨_,ha3,by decide,?_⟩
   refine z67 (j+(n+1)) hoL.rdW rfl (by omega) λa4 ha4=>⟨_,ha4,?_⟩
   generalize hX0:vl (L.drop j)=X at *
   generalize L.getD (j+(n+2)) 0=un at *
   generalize L.getD (j+(n+1)) 0=un1 at *
   generalize hun2e:L.getD (j+n) 0=un2 at *
   have hv1p:0<v1:=by unfold W at hv1b;omega
   have hv1ne:u64.wrap (v1:Int)≠0:=by rw[zjd hv1];omega
   have hnum:un*W+un1<18446744073709551616:=by unfold W at *;omega
   rw[zjd hun,zx0 hun hun1,zjd hv1,Z6j,zpe,z7y (n:=(un*W+un1)/v1) (Nat.lt_of_le_of_lt (Nat.div_le_self _ _) hnum)]
   refine⟨by omega,by omega,?_⟩
   have hPpos:0<W ^ n:=Nat.pow_pos Vz
   have hVle:(v1*W+v2)*W ^ n<=V:=by rw[hVtop];omega
   have hVlt:V<(v1*W+v2+1)*W ^ n:=by rw[hVtop,Nat.add_mul _ 1];omega
   have hXle:((un*W+un1)*W+un2)*W ^ n<=X:=by omega
   have hXlt:X<((un*W+un1)*W+un2+1)*W ^ n:=by rw[Nat.add_mul _ 1];omega
   have hunv:un<=v1:=by
    refine Zki (X:=X) (V:=V) (P:=W ^ n) (w:=W) (v1:=v1) (v2:=v2) ?_ (Nat.le_of_lt hVlt) hXV hv2
    refine Nat.le_trans (Nat.mul_le_mul_right _ ?_) hXle
    rw[Nat.add_mul];omega
   have hqW:X/V<W:=(Nat.div_lt_iff_lt_mul hVpos).2 (by rw[Nat.mul_comm];exact hXV)
   refine zk (λst h'=>h'=h3/\∃qh:Nat,st=((qh:Int),())/\qh<W/\X/V<=qh/\qh<=X/V+1) ?_ ?_
   . rintro _ h' ⟨rfl,qh,rfl,hqh,hq1,hq2⟩
     refine zk (λst h5=>st=(((X/V:Nat):Int),())/\∃L2,LeX a13.block h' h5/\qf h h5 u L2/\okW L2/\L2.length=N+1/\vl L2+W ^ j*(X/V*V)=vl L/\vl (L2.drop j)<V) ?_ ?_
     . rintro _ h5 ⟨rfl,L2,hle5,hoL2,okL2,hL2l,hv2L,hL2V⟩
       have hor5:qf h h5 q r:=hor.leX hle5 hb13 hq13
       refine za5 j (X/V) ha16 hor5 rfl (by omega) (zvf hqW) λh6 hl6 ho6=>?_
       exact⟨⟨j,L2,_,by rw[w64 (by omega)],by omega,hoL2.leX hl6 hb16h hu16,okL2,hL2l,ho6,z3e okr hqW,by simp[hrl],(hv3.leX hle5 hne13).leX hl6 hne16,hL2V,zyu rfl hval hv2L (by omega)⟩,by rw[w64 (by omega)];omega⟩
     . refine zt4 j (j+(n+2)+1) rfl rfl (by omega) (by omega) ?_
       refine Qe ?_
       have e0:j+(n+2)+1=j+(dg V).length+1:=by omega
       rw[e0]
       refine Zdr ha13 hoL okL hv3 (qr V) hne13 (by omega) hqh (by omega) λh6 L1 b hle6 hoL1 okL1 hL1l htk hdr hb hsv=>?_
       rw[Y1,hVn]at hsv
       rw[hVn]at hdr
       have hwin:=win (e:=n+2+1) hL1l (by omega) htk (by rw[<-Nat.add_assoc];exact hsv)
       rw[hX0]at hwin
       have hlt1:vl (L1.drop j)<W ^ (n+2+1):=Z7j okL1 (by omega) (by rw[<-Nat.add_assoc];exact hdr) hz0
       refine Za (λhb1=>?_) (λhb1=>?_)
       . obtain rfl:b=1:=by omega
         refine zt4 j (j+(dg V).length+1) rfl (by rw[hVn]) (by omega) (by have:=hoL1.2.2.1;have:=hoL1.len;omega) ?_
         refine Qe ?_
         refine zsu ha13 hoL1 okL1 (hv3.leX hle6 hne13) (qr V) hne13 (by omega) (by omega) λh7 L2 c hle7 hoL2 okL2 hL2l htk2 hdr2 hc hrv=>?_
         rw[Y1,hVn]at hrv
         rw[hVn]at hdr2
         have hz1:vl (L1.drop (j+(n+2+1)))=0:=by rw[<-Nat.add_assoc,hdr,Nat.add_assoc];exact hz0
         have hlt2:vl (L2.drop j)<W ^ (n+2+1):=Z7j okL2 (by omega) (by rw[<-Nat.add_assoc];exact hdr2) hz1
         obtain⟨rfl,g2,g3⟩:=ks1 hVpos hq1 hq2 hX0 hL1l hL2l (by omega) htk htk2 hwin hlt1 hlt2 hc (by rw[<-Nat.add_assoc];exact hrv)
         refine⟨?_,L2,hle6.trans hle7,hoL2,okL2,by rw[hL2l,hL1l,hLl],g2,g3⟩
         simp only
         rw[zx4,zjd hqW]
       . obtain rfl:b=0:=by omega
         obtain⟨rfl,g2⟩:=ks0 hVpos hq1 hwin
         refine⟨rfl,L1,hle6,hoL1,okL1,by rw[hL1l,hLl],?_,g2⟩
         rw[Nat.mul_zero,Nat.add_zero]at hsv;exact hsv
   . 
    refine y9 (λst h'=>h'=h3/\∃qh rh:Nat,st=((qh:Int),(rh:Int),())/\qh*v1+rh=un*W+un1/\rh<W/\X/V<=qh/\qh<18446744073709551616) (λst=>st.1.toNat) ⟨rfl,_,_,rfl,by rw[Nat.mul_comm];exact Nat.div_add_mod _ _,Nat.lt_of_lt_of_le (Nat.mod_lt _ hv1p) (Nat.le_of_lt hv1),?_,Nat.lt_of_le_of_lt (Nat.div_le_self _ _) hnum⟩ ?_
    . exact zwa hPpos hv1p hVle hXlt hun2
    . rintro _ h' ⟨rfl,qh,rh,rfl,hqr,hrh,hq1,hq64⟩
      refine zk (λ_ h5=>h5=h'/\X/V<qh) ?_ ?_
      . rintro _ h5 ⟨rfl,hlt5⟩
        have hqp:0<qh:=Nat.lt_of_le_of_lt (Nat.zero_le _) hlt5
        have hqm:X/V<=qh-1:=Nat.le_sub_one_of_lt hlt5
        have e1:u64.wrap ((rh:Int)+(v1:Int))=((rh+v1:Nat):Int):=by
         rw[show(rh:Int)+(v1:Int)=((rh+v1:Nat):Int)by omega,z7y (by unfold W at *;omega)]
        have e2:u64.wrap ((qh:Int)-1)=((qh-1:Nat):Int):=by
         rw[show(qh:Int)-1=((qh-1:Nat):Int)by omega,z7y (by omega)]
        have e3:(qh-1)*v1+(rh+v1)=un*W+un1:=by
         obtain⟨q1,rfl⟩:∃q1,qh=q1+1:=⟨qh-1,by omega⟩
         rw[Nat.add_mul]at hqr
         simp only[Nat.add_sub_cancel]
         omega
        simp only
        rw[e1,e2]
        refine ze (λh6=>?_) (λh6=>?_)
        . have h7:=zhg (w:=W) (by decide) hXle hVlt hVpos hPpos e3 rfl hv1b hunv hun1 hv2 hun2 (.inl (by unfold W;omega))
          exact⟨by trivial,qh-1,rfl,h7.1,hqm,h7.2⟩
        . exact⟨⟨by trivial,qh-1,rh+v1,rfl,e3,by unfold W;omega,hqm,by omega⟩,by omega⟩
      . refine ze (λh6=>?_) (λh6=>?_)
        . refine⟨by trivial,?_⟩
          simp only at h6
          exact zhf hXlt hVle hVpos hqr hXV (.inl (by unfold W;omega))
        . simp only at h6
          refine⟨by decide,z67 (j+n) hoL.rdW rfl (by omega) λa5 ha5=>⟨_,ha5,?_⟩⟩
          have hqW2:qh<W:=by unfold W;omega
          have e1:u64.wrap ((qh:Int)*u64.wrap (v2:Int))=((qh*v2:Nat):Int):=by
           rw[zjd hv2,show(qh:Int)*(v2:Int)=((qh*v2:Nat):Int)by simp]
           refine z7y ?_
           have:qh*v2<=4294967295*4294967295:=Nat.mul_le_mul (by unfold W at *;omega) (by unfold W at *;omega)
           omega
          rw[hun2e]
          simp only
          rw[e1,zx0 hrh hun2]
          refine ze (λh7=>?_) (λh7=>?_)
          . refine⟨by trivial,?_⟩
            exact zhf hXlt hVle hVpos hqr hXV (.inr (by omega))
          . have h8:=zhg (w:=W) (by decide) hXle hVlt hVpos hPpos hqr rfl hv1b hunv hun1 hv2 hun2 (.inr ⟨hqW2,by omega⟩)
            exact⟨by trivial,qh,rfl,h8.1,hq1,h8.2⟩
 . obtain rfl:k=0:=by have:¬(k:Int)-1>=0:=h4;omega
   simp only[List.drop_zero,Nat.pow_zero,Nat.one_mul]at hlt hval
   have hVq:A/B=vl r:=by
    have h5:A*2 ^ s/(B*2 ^ s)=A/B:=Nat.mul_div_mul_right _ _ (Nat.two_pow_pos s)
    rw[hV,hval,Nat.mul_add_div hVpos,Nat.div_eq_of_lt hlt,Nat.add_zero]at h5
    exact h5.symm
   have hVr:vl L=A % B*2 ^ s:=by
    have h5:A*2 ^ s % (B*2 ^ s)=A % B*2 ^ s:=Nat.mul_mod_mul_right _ _ _
    rw[hV,hval,Nat.mul_add_mod,Nat.mod_eq_of_lt hlt]at h5
    exact h5
   refine zt4 0 (n+2) rfl (by omega) (by omega) (by omega) ?_
   have hcut:=hoL.rdW.cut 0 (n+2) (by omega) (by omega)
   rw[List.drop_zero,Nat.sub_zero]at hcut
   have hcv:vl (L.take (n+2))=vl L:=by
    have e1:=Q9 (l:=L) (k:=n+2) (by omega)
    have e2:=zde (a:=0) (b:=n+2) okL (by rw[List.drop_zero];exact Nat.lt_trans hlt hVu)
    rw[Nat.zero_add]at e2
    rw[e2]at e1;omega
   refine z11 hor.rdW (by omega) λz1 hz1=>?_
   rw[Vy okr,<-hVq]at hz1
   refine z11 hcut (by rw[List.length_take];omega) λz2 hz2=>?_
   rw[Vy (z8h okL _),hcv]at hz2
   have hz2l:(dg (vl L)).length<=n+2:=Xm.2 (Nat.lt_trans hlt hVu)
   refine Z56 hz2 (qr _) hs31 (by omega) λz3 h5 r3 hl5 hz3 okr3 hr3l hr3v=>?_
   rw[Y1,hVr,Nat.mul_div_cancel _ (Nat.two_pow_pos s)]at hr3v
   refine z11 hz3 (by omega) λz4 hz4=>?_
   rw[Vy okr3,hr3v]at hz4
   exact H _ _ _ (Hp.le_trans hoL.1 hl5) (hz1.le hl5) hz4
theorem zf6{A B:Nat}(hx:RdW h x (dg A))(hy:RdW h y (dg B))(hB:B≠0)(hl:(dg A).length<=35184372088000)(hl2:(dg B).length<=35184372088000)
 (H:∀q r h',h.le h'->RdW h' q (dg (A/B))->RdW h' r (dg (A % B))->Kp (q,r) h'):zc (F.X1 x y) Kp h:=
 zd (λv h'=>RdW h' v.1 (dg (A/B))/\RdW h' v.2 (dg (A % B))) (λK' hk=>zw1 hx hy hB hl hl2 λq r h' h1 h2 h3=>hk _ _ h1 ⟨h2,h3⟩) λv h' h1 ⟨h2,h3⟩=>H v.1 v.2 h' h1 h2 h3
end
end Den
end

section
set_option maxHeartbeats 4000000
namespace Iv
end Iv
namespace Den
open Go Iv
section
variable {h : Hp} {x y : Sl} {l m : List Nat} {Ks : Sl → Hp → Prop} {Ki : Int → Hp → Prop} {Kp : (Sl × Sl) → Hp → Prop} {Kq : (Int × Sl) → Hp → Prop}
end
end Den
end

noncomputable section
namespace Den
open Go Iv
theorem zod{P:Nat->Prop}(h:∃n,P n):∃n,P n/\∀m,P m->n<=m:=by
 obtain⟨n,hn⟩:=h
 induction n using Nat.strongRecOn with
 | _ n ih=>
   by_cases hm:∃m,m<n/\P m
   . obtain⟨m,h1,h2⟩:=hm
     exact ih m h1 h2
   . exact⟨n,hn,λm h2=>by
      rcases Nat.lt_or_ge m n with h3 | h3
      . exact absurd ⟨m,h3,h2⟩ hm
      . exact h3⟩
open Classical in
def zm1(P:Nat->Prop):Nat:=if h:∃n,P n then Classical.choose (zod h)else 0
theorem zff{P:Nat->Prop}{n:Nat}(h:P n):P (zm1 P)/\zm1 P<=n:=by
 have h1:∃n,P n:=⟨n,h⟩
 unfold zm1
 rw[dif_pos h1]
 have:=Classical.choose_spec (zod h1)
 exact⟨this.1,this.2 n h⟩
theorem Z45{S:Type}{body:S->(S->Hp->Prop)->Hp->Prop}{s0:S}{h0:Hp}(I:Nat->S->Hp->Prop)(n0:Nat)(h1:I n0 s0 h0)
 (h2:∀n s h,I n s h->∀K:S->Hp->Prop,(∀s' h' n',n'<n->I n' s' h'->K s' h')->body s K h):zr body s0 h0:=by
 refine⟨λs h=>∃n,I n s h,λs h=>zm1 λn=>I n s h,⟨n0,h1⟩,λs h ⟨n,hI⟩=>?_⟩
 have h3:=zff (P:=λn=>I n s h) hI
 refine h2 _ s h h3.1 _ λs' h' n' hn hI'=>⟨⟨n',hI'⟩,?_⟩
 have h4:=zff (P:=λn=>I n s' h') hI'
 exact Nat.lt_of_le_of_lt h4.2 hn
section
variable {h : Hp} {x y : Sl} {l : List Nat} {m n : Int} {a b : TInt} {Ks : Sl → Hp → Prop} {Ki : Int → Hp → Prop} {Kb : Bool → Hp → Prop} {KI : TInt → Hp → Prop} {KP : (TInt × TInt × Int) → Hp → Prop}
theorem zo6(x y:Nat):Nat.gcd y (x % y)=Nat.gcd x y:=by
 rw[Nat.gcd_comm x y,Nat.gcd_rec y x,Nat.gcd_comm]
theorem zjf(ha:NI h a m)(hb:NI h b n)(om:(dg m.natAbs).length<=35184372087808)(on:(dg n.natAbs).length<=35184372087808)(H:∀z h',h.le h'->NI h' z (Nat.gcd m.natAbs n.natAbs:Nat)->KI z h'):zc (F.z24 a b) KI h:=by
 refine zd _ (λK' hk=>?_) H
 unfold F.z24
 refine za9 ha om λx hx=>za9 hb on λy hy=>?_
 have om':=om
 have on':=on
 refine zk (λst h'=>h.le h'/\∃A B:Nat,RdW h' st.1 (dg A)/\RdW h' st.2.1 (dg B)/\(dg A).length<=35184372087808/\Nat.gcd A B=Nat.gcd m.natAbs n.natAbs/\(dg B).length<=2/\(B≠0->(dg A).length<=2)) ?_ ?_
 . rintro⟨x,y,_⟩ h1 ⟨hl1,A,B,hA,hB,hAl,hg,hB2,hA2⟩
   simp only at hA hB |-
   have lB:=hB.len
   refine Za (λh2=>?_) (λh2=>?_)
   . have hB0:B=0:=z2g.1 (List.length_eq_zero_iff.1 (by omega))
     subst hB0
     rw[Nat.gcd_zero_right]at hg
     refine zbo hA (by omega) λz h3 hl3 hz=>Vu hz (by omega) λw hw=>hk _ _ (Hp.le_trans hl1 hl3) ?_
     rw[<-hg]
     exact hw
   . have hB0:B≠0:=λh0=>h2 (by rw[lB,h0,Qv];rfl)
     have hA2':=hA2 hB0
     refine z72 hA (qr A) hA2' λh3 hl3=>z72 (hB.le hl3) (qr B) hB2 λh4 hl4=>?_
     rw[Y1,Y1]
     have lt2:∀{n:Nat},(dg n).length<=2->n<18446744073709551616:=λhn=>by
      have:=(Xm (k:=2)).1 hn
      have e:W ^ 2=18446744073709551616:=by decide
      omega
     refine y9 (λst h'=>h.le h'/\∃A B:Nat,st=((A:Int),(B:Int),())/\A<18446744073709551616/\B<18446744073709551616/\Nat.gcd A B=Nat.gcd m.natAbs n.natAbs) (λst=>st.2.1.toNat)
      ⟨Hp.le_trans hl1 (Hp.le_trans hl3 hl4),A,B,rfl,lt2 hA2',lt2 hB2,hg⟩ ?_
     rintro _ h5 ⟨hl5,A,B,rfl,hA3,hB3,hg3⟩
     refine yt (λh6=>⟨h6,?_⟩) (λh6=>?_)
     . have hB4:B≠0:=λh0=>h6 (by rw[h0];rfl)
       have:=Nat.mod_lt A (Nat.pos_of_ne_zero hB4)
       simp only
       rw[zpe]
       exact⟨⟨hl5,B,A % B,rfl,hB3,by omega,by rw[zo6];exact hg3⟩,by omega⟩
     . have hB4:B=0:=by simp only at h6;omega
       subst hB4
       rw[Nat.gcd_zero_right]at hg3
       have:=dg2 hA3
       refine z1c rfl hA3 λz h7 hl7 hz=>Vu hz (by omega) λw hw=>hk _ _ (Hp.le_trans hl5 hl7) ?_
       rw[<-hg3]
       exact hw
 . refine Z45 (λN st h'=>h.le h'/\∃A:Nat,RdW h' st.1 (dg A)/\RdW h' st.2.1 (dg N)/\(dg A).length<=35184372087808/\(dg N).length<=35184372087808/\Nat.gcd A N=Nat.gcd m.natAbs n.natAbs) n.natAbs
    ⟨Hp.le_refl _,m.natAbs,hx,hy,om',on',rfl⟩ ?_
   rintro B ⟨x,y,_⟩ h1 ⟨hl1,A,hA,hB,hAl,hBl,hg⟩ K hK
   simp only at hA hB |-
   have lA:=hA.len
   have lB:=hB.len
   have step:B≠0->zc (F.X1 x y) (λr17 h13=>K (y,r17.2,()) h13) h1:=λhB0=>by
    refine zf6 hA hB hB0 (by omega) (by omega) λq r h2 hl2 hq hr=>?_
    have:=Nat.mod_lt A (Nat.pos_of_ne_zero hB0)
    exact hK _ _ (A % B) this ⟨Hp.le_trans hl1 hl2,B,hB.le hl2,hr,hBl,by have:=z57 (Nat.le_of_lt this);omega,by rw[zo6];exact hg⟩
   have hB0:0<y.len->B≠0:=λh0 hh=>by rw[lB,hh,Qv]at h0;exact absurd h0 (by decide)
   refine zob ?_
   refine ze (λh2=>step (hB0 (by omega))) (λh2=>ze (λh3=>ze (λh4=>step (hB0 (by omega))) (λh4=>?_)) (λh3=>?_))
   . exact⟨hl1,A,B,hA,hB,hAl,hg,by omega,λh5=>absurd (z2g.1 (List.length_eq_zero_iff.1 (by omega))) h5⟩
   . exact⟨hl1,A,B,hA,hB,hAl,hg,by omega,λ_=>by omega⟩
theorem zxy(ha:NI h a m)(hb:NI h b n)(om:Ok m)(on:Ok n)(H:∀z h',h.le h'->NI h' z (Nat.gcd m.natAbs n.natAbs:Nat)->KI z h'):zc (F.z24 a b) KI h:=
 zjf ha hb (Nat.le_trans om (by decide)) (Nat.le_trans on (by decide)) H
theorem zoa(ha:NI h a m)(H:Kb (decide (m=0)) h):zc (F.z1s a) Kb h:=by
 refine Zk _ (λK' hk=>?_) H
 unfold F.z1s
 rw[ha.len0];exact hk
theorem Zc0:dg 1=[1]:=by rw[zdz (by decide),show 1/W=0 by decide,Qv];rfl
theorem zon(G:(Bool->Hp->Prop)->Hp->Prop)(hG:∀K,((m=1)->K true h)->((m≠1)->K false h)->G K h)(H:Kb (decide (m=1)) h):zc G Kb h:=by
 refine Zk (decide (m=1)) (λK' hk=>hG K' (λh1=>?_) (λh1=>?_)) H
 . rw[decide_eq_true h1]at hk;exact hk
 . rw[decide_eq_false h1]at hk;exact hk
theorem z3d(ha:NI h a m)(H:Kb (decide (m=1)) h):zc (F.Qn a) Kb h:=by
 refine zon _ (λK' h1 h0=>?_) H
 unfold F.Qn
 have hl:=ha.len
 rw[ha.2]
 refine zp (λh2=>?_) (λh2=>?_)
 . have hpos:¬m<0:=by simpa using h2
   refine Za (λh3=>?_) (λh3=>?_)
   . have h4:=zug (B:=m.natAbs) (by omega)
     refine z67 0 ha.1 rfl (by omega) λp hp=>⟨_,hp,?_⟩
     rw[h4]
     by_cases h5:m=1
     . have:=h1 h5
       subst h5;exact this
     . have:=h0 h5
       have e:(((([m.natAbs]:List Nat).getD 0 0:Nat):Int)==1)=false:=by
        simp;omega
       simp only
       rw[e];exact this
   . refine h0 λh5=>h3 ?_
     subst h5
     rw[hl,show(1:Int).natAbs=1 from rfl,Zc0];rfl
 . exact h0 λh5=>by subst h5;simp at h2
def DM(m n q r:Int):Prop:=m=n*q+r/\(0<n->0<=r/\r<n)/\(n<0->n<r/\r<=0)
theorem DM.div{m n q r:Int}(h:DM m n q r)(h0:n≠0)(hd:0<n\/n ∣ m):q=m/n:=by
 obtain⟨h1,h2,h3⟩:=h
 rcases hd with hd | hd
 . have h4:=h2 hd
   exact((Int.ediv_emod_unique hd).2 ⟨by omega,h4.1,h4.2⟩).1.symm
 . have hr:n ∣ r:=by
    have e:r=m-n*q:=by omega
    rw[e];exact Int.dvd_sub hd (Int.dvd_mul_right n q)
   have hr0:r=0:=by
    have h5:n.natAbs ∣ r.natAbs:=Int.natAbs_dvd_natAbs.2 hr
    have h6:r.natAbs<n.natAbs:=by
     rcases Int.lt_or_gt_of_ne h0 with h7 | h7
     . have:=h3 h7;omega
     . have:=h2 h7;omega
    have:=Nat.eq_zero_of_dvd_of_lt h5 h6
    omega
   rw[h1,hr0,Int.add_zero,Int.mul_ediv_cancel_left _ h0]
theorem z0u(m:Int):m=m.natAbs/\¬m<0\/m=-(m.natAbs:Int)/\m<0:=by omega
theorem Z7q{m n:Int}(h0:n≠0)(h:decide (m<0)=decide (n<0)):DM m n (sg false (m.natAbs/n.natAbs)) (sg (decide (n<0)) (m.natAbs % n.natAbs)):=by
 have e:=Nat.div_add_mod m.natAbs n.natAbs
 have hlt:=Nat.mod_lt m.natAbs (y:=n.natAbs) (by omega)
 have h':m<0↔n<0:=by simpa using h
 have c1:=z0u m
 have c2:=z0u n
 clear h
 generalize m.natAbs/n.natAbs=q at *
 generalize m.natAbs % n.natAbs=r at *
 generalize m.natAbs=A at *
 generalize n.natAbs=B at *
 have e':(A:Int)=B*q+r:=by rw[<-e];simp
 unfold DM sg
 rcases c1 with ⟨h1,h2⟩ | ⟨h1,h2⟩<;>rcases c2 with ⟨h3,h4⟩ | ⟨h3,h4⟩
 . rw[decide_eq_false h4]
   simp only[Bool.false_eq_true,if_false]
   exact⟨by rw[h1,h3,e'],λ_=>by omega,λ_=>by omega⟩
 . omega
 . omega
 . rw[decide_eq_true h4]
   simp only[Bool.false_eq_true,if_false,if_true]
   exact⟨by rw[h1,h3,e',Int.neg_add,Int.neg_mul],λ_=>by omega,λ_=>by omega⟩
theorem Z7r{m n:Int}(h0:n≠0)(h:decide (m<0)≠decide (n<0))(hr:m.natAbs % n.natAbs=0):DM m n (sg true (m.natAbs/n.natAbs)) (sg (decide (n<0)) (m.natAbs % n.natAbs)):=by
 have e:=Nat.div_add_mod m.natAbs n.natAbs
 have h':¬(m<0↔n<0):=by simpa using h
 have c1:=z0u m
 have c2:=z0u n
 rw[hr]at e |-
 clear h hr
 generalize m.natAbs/n.natAbs=q at *
 generalize m.natAbs=A at *
 generalize n.natAbs=B at *
 have e':(A:Int)=B*q:=by rw[<-e];simp
 unfold DM sg
 rcases c1 with ⟨h1,h2⟩ | ⟨h1,h2⟩<;>rcases c2 with ⟨h3,h4⟩ | ⟨h3,h4⟩
 . omega
 . rw[decide_eq_true h4]
   simp only[if_true]
   exact⟨by rw[h1,h3,e',Int.neg_mul_neg];simp,λ_=>by omega,λ_=>by omega⟩
 . rw[decide_eq_false h4]
   simp only[Bool.false_eq_true,if_false,if_true]
   exact⟨by rw[h1,h3,e',Int.mul_neg];simp,λ_=>by omega,λ_=>by omega⟩
 . omega
theorem Z7p{m n:Int}(h0:n≠0)(h:decide (m<0)≠decide (n<0))(hr:m.natAbs % n.natAbs≠0):DM m n (sg true (m.natAbs/n.natAbs+1)) (sg (decide (n<0)) (n.natAbs-m.natAbs % n.natAbs)):=by
 have e:=Nat.div_add_mod m.natAbs n.natAbs
 have hlt:=Nat.mod_lt m.natAbs (y:=n.natAbs) (by omega)
 have h':¬(m<0↔n<0):=by simpa using h
 have c1:=z0u m
 have c2:=z0u n
 clear h
 generalize m.natAbs/n.natAbs=q at *
 generalize m.natAbs % n.natAbs=r at *
 generalize m.natAbs=A at *
 generalize n.natAbs=B at *
 have e':(A:Int)=B*q+r:=by rw[<-e];simp
 have e2:((B-r:Nat):Int)=(B:Int)-r:=by omega
 have e3:(B:Int)*((q+1:Nat):Int)=B*q+B:=by
  rw[Int.natCast_add,Int.mul_add];simp
 unfold DM sg
 rw[e2]
 rcases c1 with ⟨h1,h2⟩ | ⟨h1,h2⟩<;>rcases c2 with ⟨h3,h4⟩ | ⟨h3,h4⟩
 . omega
 . rw[decide_eq_true h4]
   simp only[if_true]
   refine⟨?_,λ_=>by omega,λ_=>by omega⟩
   rw[h1,h3,e',Int.neg_mul_neg,e3];omega
 . rw[decide_eq_false h4]
   simp only[Bool.false_eq_true,if_false,if_true]
   refine⟨?_,λ_=>by omega,λ_=>by omega⟩
   rw[h1,h3,e',Int.mul_neg,e3];omega
 . omega
theorem Z4h{p q:Bool}(h:p=q):(!(p==q))=false:=by subst h;simp
theorem zut{p q:Bool}(h:p≠q):(!(p==q))=true:=by simpa using h
theorem zmy(ha:NI h a m)(hb:NI h b n)(om:Ok m)(on:Ok n)(h0:n≠0)
 (H:∀z w h' q r,h.le h'->NI h' z q->NI h' w r->DM m n q r->KP (z,w,0) h'):zc (F.z2l a b) KP h:=by
 refine zd (λv h'=>∃q r,NI h' v.1 q/\NI h' v.2.1 r/\DM m n q r/\v.2.2=0) (λK' hk=>?_) λ⟨z,w,c⟩ h' hl ⟨q,r,h1,h2,h3,h4⟩=>by
  simp only at h4;subst h4
  exact H z w h' q r hl h1 h2 h3
 unfold F.z2l
 have om':(dg m.natAbs).length<=8796093022208:=om
 have on':(dg n.natAbs).length<=8796093022208:=on
 refine Vx hb on λy hy=>?_
 have ly:=hy.len
 refine Za (λh1=>absurd (zof.1 (by omega)) h0) (λh1=>?_)
 refine Vx ha om λx hx=>?_
 refine zf6 hx hy (by omega) (by omega) (by omega) λq r h2 hl2 hq hr=>?_
 have hql:(dg (m.natAbs/n.natAbs)).length<=8796093022208:=Nat.le_trans (z57 (Nat.div_le_self _ _)) om'
 have hrl:(dg (m.natAbs % n.natAbs)).length<=8796093022208:=Nat.le_trans (z57 (Nat.mod_le _ _)) om'
 have lr:=hr.len
 rw[ha.2,hb.2]
 refine zk (λst h'=>h.le h'/\∃q r:List Nat,okW q/\okW r/\RdW h' st.1 q/\RdW h' st.2.1 r/\q.length<=35184372088800/\r.length<=35184372088800/\DM m n (sg (!(decide (m<0)==decide (n<0))) (vl q)) (sg (decide (n<0)) (vl r))) ?_ ?_
 . rintro⟨x,y,_⟩ h3 ⟨hl3,q,r,okq,okr,hx3,hy3,hq3,hr3,hdm⟩
   refine z6y hx3 okq (by omega) λz hz=>z6y hy3 okr (by omega) λw hw=>hk _ _ hl3 ⟨_,_,hz,hw,hdm,rfl⟩
 . have stay:DM m n (sg (!(decide (m<0)==decide (n<0))) (m.natAbs/n.natAbs)) (sg (decide (n<0)) (m.natAbs % n.natAbs)) ->
    h.le h2/\∃q' r':List Nat,okW q'/\okW r'/\RdW h2 q q'/\RdW h2 r r'/\q'.length<=35184372088800/\r'.length<=35184372088800/\DM m n (sg (!(decide (m<0)==decide (n<0))) (vl q')) (sg (decide (n<0)) (vl r')):=λhd=>
    ⟨hl2,dg _,dg _,qr _,qr _,hq,hr,by omega,by omega,by rw[Y1,Y1];exact hd⟩
   refine zp (λh3=>?_) (λh3=>?_)
   . have hd:decide (m<0)≠decide (n<0):=by simpa using h3
     refine ze (λh4=>?_) (λh4=>?_)
     . have hr0:m.natAbs % n.natAbs≠0:=λhh=>by rw[lr,hh,Qv]at h4;exact absurd h4 (by decide)
       have hlt:=Nat.mod_lt m.natAbs (y:=n.natAbs) (by omega)
       refine z6w (n:=1) (size:=1) rfl λb1 h5 hb1 ho=>?_
       have ho':qf h2 h5 ⟨some ⟨b1,0,none⟩,1,1⟩ [1]:=ho
       refine zk7 (hq.le ho.1) ho'.rdW (qr _) (λd hd=>by rw[List.mem_singleton.1 hd];decide) (by omega) (by simp) λz h6 rr hl6 hz okz hv hzl=>?_
       rw[Y1]at hv
       have hl26:=Hp.le_trans ho.1 hl6
       refine zbv (hy.le (Hp.le_trans hl2 hl26)) (hr.le hl26) (qr _) (qr _) (by omega) (z57 (Nat.le_of_lt hlt)) (by rw[Y1,Y1];exact Nat.le_of_lt hlt) λw h7 hl7 hw=>?_
       rw[Y1,Y1]at hw
       refine⟨Hp.le_trans hl2 (Hp.le_trans hl26 hl7),rr,_,okz,qr _,hz.le hl7,hw,by simp at hzl;omega,by have:=ztb (n:=m.natAbs % n.natAbs) on';omega,?_⟩
       rw[Y1,hv,zut hd]
       have:=Z7p h0 hd hr0
       simpa [vl] using this
     . have hr0:m.natAbs % n.natAbs=0:=z2g.1 (List.length_eq_zero_iff.1 (by have h5:¬(r.len:Int)>0:=h4;omega))
       exact stay (by rw[zut hd];exact Z7r h0 hd hr0)
   . have hd:decide (m<0)=decide (n<0):=by simpa using h3
     exact stay (by rw[Z4h hd];exact Z7q h0 hd)
end
end Den
end

section
namespace Den
open Go Iv
section
variable {h : Hp} {x y : Sl} {l : List Nat} {m n : Int} {a b : TInt} {Ks : Sl → Hp → Prop} {Ki : Int → Hp → Prop} {Kb : Bool → Hp → Prop} {KI : TInt → Hp → Prop} {KP : (TInt × TInt × Int) → Hp → Prop}
theorem Ok.le{m n:Int}(hm:Ok m)(h:n.natAbs<=m.natAbs):Ok n:=Nat.le_trans (z57 h) hm
theorem zow(ha:NI h a m)(hb:NI h b n)(om:Ok m)(on:Ok n)(h0:n≠0)(hd:0<n\/n ∣ m)(H:∀z h',h.le h'->NI h' z (m/n)->KI z h'):zc (F.z2s a b) KI h:=by
 refine zd _ (λK' hk=>?_) H
 unfold F.z2s
 refine z3d hb ?_
 refine ze (λh1=>?_) (λh1=>?_)
 . subst h1
   exact hk _ _ (Hp.le_refl _) (by rw[Int.ediv_one];exact ha)
 . refine zmy ha hb om on h0 λz w h' q r hl hz hw hdm=>hk _ _ hl ?_
   have:=hdm.div h0 hd
   subst this
   exact hz
end
end Den
end

section
namespace Iv
theorem z4l(q:Rat):((q.den:Nat):Int)≠0:=by have:=q.den_pos;omega
theorem z5p{n d:Int}{q:Rat}(hd:d≠0):Rat.divInt n d=q↔n*q.den=q.num*d:=by
 have h:=Rat.divInt_eq_divInt_iff (n₁:=n) (n₂:=q.num) hd (z4l q)
 rw[Rat.num_divInt_den]at h
 exact h
theorem zi2{n d:Int}{q:Rat}(hd:0<d)(hc:Nat.Coprime n.natAbs d.natAbs)(h:n*q.den=q.num*d):n=q.num/\d=q.den:=by
 have hq:(⟨n,d.toNat,by omega,by rw[show d.toNat=d.natAbs by omega];exact hc⟩:Rat)=q:=by
  have h1:Rat.divInt n d=q:=(z5p (by omega)).2 h
  rw[<-h1]
  symm
  refine(z5p (by omega)).2 ?_
  show n*((d.toNat:Nat):Int)=n*d
  rw[Int.toNat_of_nonneg (by omega)]
 refine⟨congrArg Rat.num hq,?_⟩
 have:=congrArg Rat.den hq
 show d=((q.den:Nat):Int)
 have h2:d.toNat=q.den:=this
 omega
theorem Z46{m n g:Int}(hn:n≠0)(hg:g=n.sign*(Nat.gcd m.natAbs n.natAbs:Nat)):g≠0/\g ∣ m/\g ∣ n/\m/g=(Rat.divInt m n).num/\n/g=(Rat.divInt m n).den:=by
 have hG:Nat.gcd m.natAbs n.natAbs≠0:=λh=>by have:=(Nat.gcd_eq_zero_iff.1 h).2;omega
 have hgabs:g.natAbs=Nat.gcd m.natAbs n.natAbs:=by
  rw[hg,Int.natAbs_mul,Int.natAbs_sign_of_ne_zero hn,Nat.one_mul];rfl
 have hg0:g≠0:=λh=>by rw[h]at hgabs;exact hG hgabs.symm
 have hgm:g ∣ m:=Int.natAbs_dvd_natAbs.1 (by rw[hgabs];exact Nat.gcd_dvd_left _ _)
 have hgn:g ∣ n:=Int.natAbs_dvd_natAbs.1 (by rw[hgabs];exact Nat.gcd_dvd_right _ _)
 obtain⟨m',hm'⟩:=id hgm
 obtain⟨n',hn'⟩:=id hgn
 have e1:m/g=m':=by rw[hm'];exact Int.mul_ediv_cancel_left _ hg0
 have e2:n/g=n':=by rw[hn'];exact Int.mul_ediv_cancel_left _ hg0
 have hGp:0<((Nat.gcd m.natAbs n.natAbs:Nat):Int):=by omega
 have hpos:0<n':=by
  generalize ((Nat.gcd m.natAbs n.natAbs:Nat):Int)=G at *
  clear hgabs hgm hgn e1 e2 hm' hG
  rcases Int.lt_or_gt_of_ne hn with h | h
  . have hgneg:g<0:=by
     rw[hg,Int.sign_eq_neg_one_of_neg h];omega
    rcases Int.lt_trichotomy n' 0 with h1 | h1 | h1
    . have:=Int.mul_pos_of_neg_of_neg hgneg h1;omega
    . rw[h1]at hn';omega
    . exact h1
  . have hgpos:0<g:=by
     rw[hg,Int.sign_eq_one_of_pos h];omega
    rcases Int.lt_trichotomy n' 0 with h1 | h1 | h1
    . have:=Int.mul_neg_of_pos_of_neg hgpos h1;omega
    . rw[h1]at hn';omega
    . exact h1
 have hcop:Nat.Coprime m'.natAbs n'.natAbs:=by
  have h1:m.natAbs=g.natAbs*m'.natAbs:=(congrArg Int.natAbs hm').trans (Int.natAbs_mul _ _)
  have h2:n.natAbs=g.natAbs*n'.natAbs:=(congrArg Int.natAbs hn').trans (Int.natAbs_mul _ _)
  rw[h1,h2,Nat.gcd_mul_left]at hgabs
  have h3:g.natAbs*1=g.natAbs*Nat.gcd m'.natAbs n'.natAbs:=by rw[Nat.mul_one];exact hgabs
  exact(Nat.eq_of_mul_eq_mul_left (by omega) h3).symm
 have hx:m'*(Rat.divInt m n).den=(Rat.divInt m n).num*n':=by
  have h1:=(z5p (q:=Rat.divInt m n) hn).1 rfl
  generalize (Rat.divInt m n).den=D at *
  generalize (Rat.divInt m n).num=N at *
  rw[hm',hn']at h1
  refine Int.eq_of_mul_eq_mul_left hg0 ?_
  rw[<-Int.mul_assoc,h1,Int.mul_comm g n',<-Int.mul_assoc,Int.mul_comm]
 have:=zi2 hpos hcop hx
 exact⟨hg0,hgm,hgn,by rw[e1];exact this.1,by rw[e2];exact this.2⟩
theorem Zdh(a b:Rat):a+b=Rat.divInt (a.num*b.den+b.num*a.den) (a.den*b.den):=by
 have:=Rat.divInt_add_divInt a.num b.num (z4l a) (z4l b)
 rw[Rat.num_divInt_den,Rat.num_divInt_den]at this
 exact this
theorem Zdi(a b:Rat):a*b=Rat.divInt (a.num*b.num) (a.den*b.den):=by
 have:=Rat.divInt_mul_divInt a.num b.num (d₁:=a.den) (d₂:=b.den)
 rw[Rat.num_divInt_den,Rat.num_divInt_den]at this
 exact this
theorem Zl1(a b:Rat):a/b=Rat.divInt (a.num*b.den) (a.den*b.num):=by
 rw[Rat.div_def,Rat.inv_def]
 have:=Rat.divInt_mul_divInt a.num b.den (d₁:=a.den) (d₂:=b.num)
 rw[Rat.num_divInt_den]at this
 exact this
end Iv
namespace Den
open Go Iv
def NR(h:Hp)(x:TRat)(q:Rat):Prop:=NI h x.num q.num/\NI h x.den q.den
theorem NR.le{h h':Hp}{x:TRat}{q:Rat}(hx:NR h x q)(hl:h.le h'):NR h' x q:=⟨hx.1.le hl,hx.2.le hl⟩
def BR(k:Nat)(q:Rat):Prop:=Lt k q.num/\Lt k q.den
theorem BR.mono{k j:Nat}{q:Rat}(h:BR k q)(hk:k<=j):BR j q:=⟨h.1.mono hk,h.2.mono hk⟩
theorem Lt.addm{k:Nat}{m n:Int}(h:Lt k m)(h2:Lt k n):Lt (k+1) (m+n):=by
 unfold Lt at *
 have h3:=Int.natAbs_add_le m n
 rw[Nat.pow_succ]
 have:W ^ k*2<=W ^ k*W:=Nat.mul_le_mul_left _ (by decide)
 omega
theorem BR.divInt{k:Nat}{m n:Int}(hm:Lt k m)(hn:Lt k n)(h0:n≠0):BR k (Rat.divInt m n):=by
 obtain⟨_,_,_,h1,h2⟩:=Z46 (m:=m) (n:=n) h0 rfl
 exact⟨by rw[<-h1];exact hm.le (Int.natAbs_ediv_le_natAbs _ _),by rw[<-h2];exact hn.le (Int.natAbs_ediv_le_natAbs _ _)⟩
theorem BR.mul{k j:Nat}{a b:Rat}(ha:BR k a)(hb:BR j b):BR (k+j) (a*b):=by
 rw[Zdi]
 exact BR.divInt (ha.1.mul hb.1) (ha.2.mul hb.2) (Int.mul_ne_zero (z4l a) (z4l b))
theorem BR.add{k j:Nat}{a b:Rat}(ha:BR k a)(hb:BR j b):BR (k+j+1) (a+b):=by
 rw[Zdh]
 exact BR.divInt ((ha.1.mul hb.2).addm ((hb.1.mul ha.2).mono (by omega))) ((ha.2.mul hb.2).mono (by omega)) (Int.mul_ne_zero (z4l a) (z4l b))
theorem BR.neg{k:Nat}{a:Rat}(ha:BR k a):BR k (-a):=⟨by rw[Rat.neg_num];exact ha.1.neg,by rw[Rat.neg_den];exact ha.2⟩
section
variable {h : Hp} {m n : Int} {a b : TInt} {x y : TRat} {p q : Rat} {j k : Nat} {Ki : Int → Hp → Prop} {Kb : Bool → Hp → Prop} {KI : TInt → Hp → Prop} {KR : TRat → Hp → Prop} {KE : (TRat × Int) → Hp → Prop}
theorem zhp(H:∀z h',h.le h'->NI h' z 1->KI z h'):zc F.z0w KI h:=
 zd _ (λK' hk=>by unfold F.z0w;exact z81 (by decide) (by decide) λz h' hl hz=>hk _ _ hl hz) H
theorem z1j(h1:-9223372036854775808<=n)(h2:n<=9223372036854775807)(H:∀z h',h.le h'->NR h' z (n:Rat)->KR z h'):zc (F.Y8 n) KR h:=by
 refine zd _ (λK' hk=>?_) H
 unfold F.Y8
 refine z81 h1 h2 λz h3 hl3 hz=>zhp λw h4 hl4 hw=>hk _ _ (Hp.le_trans hl3 hl4) ⟨?_,?_⟩
 . exact hz.le hl4
 . exact hw
theorem zi1(hx:NR h x p)(op:BR k p)(hk:k<=1000000000000)(H:Ki p.num.sign h):zc (F.Qj x) Ki h:=
 Zk _ (λK' hk=>by unfold F.Qj;exact zdo hx.1 (op.1.ok (by omega)) hk) H
theorem z9n(ha:NI h a m)(hb:NI h b n)(om:Lt k m)(on:Lt k n)(hk:k<=1000000000000)(h0:n≠0)(H:∀z h',h.le h'->NR h' z (Rat.divInt m n)->KR z h'):zc (F.Wk a b) KR h:=by
 refine zd _ (λK' hk=>?_) H
 unfold F.Wk
 have om':=om.ok (by omega)
 have on':=on.ok (by omega)
 refine zxy ha hb om' on' λg h1 hl1 hg=>?_
 have og:Ok (Nat.gcd m.natAbs n.natAbs:Nat):=on'.le (by
  rw[Int.natAbs_natCast]
  exact Nat.le_of_dvd (by omega) (Nat.gcd_dvd_right _ _))
 obtain⟨e0,e1,e2,e3,e4⟩:=Z46 (m:=m) (n:=n) h0 rfl
 have oG:Ok (n.sign*(Nat.gcd m.natAbs n.natAbs:Nat)):=og.le (by
  rw[Int.natAbs_mul,Int.natAbs_sign_of_ne_zero h0,Nat.one_mul];exact Nat.le_refl _)
 refine zk (λst h'=>h.le h'/\NI h' ⟨st.1.1,st.1.2.1⟩ (n.sign*(Nat.gcd m.natAbs n.natAbs:Nat))) ?_ ?_
 . rintro st h2 ⟨hl2,hG⟩
   refine zow (ha.le hl2) hG om' oG e0 (.inr e1) λu h3 hl3 hu=>?_
   refine zow (hb.le (Hp.le_trans hl2 hl3)) (hG.le hl3) on' oG e0 (.inr e2) λv h4 hl4 hv=>?_
   refine hk _ _ (Hp.le_trans hl2 (Hp.le_trans hl3 hl4)) ⟨?_,?_⟩
   . rw[<-e3];exact hu.le hl4
   . rw[<-e4];exact hv
 . rw[hb.2]
   refine ze (λh2=>?_) (λh2=>?_)
   . refine zn0 hg og λw h3 hl3 hw=>⟨Hp.le_trans hl1 hl3,?_⟩
     rw[Int.sign_eq_neg_one_of_neg h2,Int.neg_mul,Int.one_mul];exact hw
   . refine⟨hl1,?_⟩
     rw[Int.sign_eq_one_of_pos (by omega),Int.one_mul];exact hg
theorem zka(hx:NR h x p)(hy:NR h y q)(op:BR k p)(oq:BR j q)(hk:k<=400000000000)(hj:j<=400000000000)(H:∀z h',h.le h'->NR h' z (p*q)->KR z h'):zc (F.z2r x y) KR h:=by
 refine zd _ (λK' hk=>?_) H
 unfold F.z2r
 have hd:((p.den:Nat):Int)*q.den≠0:=Int.mul_ne_zero (z4l p) (z4l q)
 refine zk (λ_ h'=>h'=h) ?_ ?_
 . rintro _ h' rfl
   refine z48 hx.1 hy.1 (op.1.ok (by omega)) (oq.1.ok (by omega)) λz h3 hl3 hz=>?_
   refine z48 (hx.2.le hl3) (hy.2.le hl3) (op.2.ok (by omega)) (oq.2.ok (by omega)) λw h4 hl4 hw=>?_
   refine z9n (hz.le hl4) hw (op.1.mul oq.1) (op.2.mul oq.2) (by omega) hd λv h5 hl5 hv=>hk _ _ (Hp.le_trans hl3 (Hp.le_trans hl4 hl5)) ?_
   rw[Zdi];exact hv
 . refine z3d hx.2 (ze (λh1=>z3d hy.2 (ze (λh2=>?_) (λ_=>rfl))) (λ_=>rfl))
   refine z48 hx.1 hy.1 (op.1.ok (by omega)) (oq.1.ok (by omega)) λz h3 hl3 hz=>?_
   refine zhp λw h4 hl4 hw=>hk _ _ (Hp.le_trans hl3 hl4) ?_
   have e:=zi2 (n:=p.num*q.num) (d:=1) (q:=p*q) (by decide) (Nat.coprime_one_right _) (by
    have:=(z5p (n:=p.num*q.num) hd).1 (Zdi p q).symm
    rw[h1,h2]at this;simpa using this)
   exact⟨by rw[<-e.1];exact hz.le hl4,by rw[<-e.2];exact hw⟩
theorem zx5(hx:NR h x p)(hy:NR h y q)(op:BR k p)(oq:BR j q)(hk:k<=400000000000)(hj:j<=400000000000)(H:∀z h',h.le h'->NR h' z (p+q)->KR z h'):zc (F.z5e x y) KR h:=by
 refine zd _ (λK' hk=>?_) H
 unfold F.z5e
 have hd:((p.den:Nat):Int)*q.den≠0:=Int.mul_ne_zero (z4l p) (z4l q)
 refine zk (λ_ h'=>h'=h) ?_ ?_
 . rintro _ h' rfl
   refine z48 hx.1 hy.2 (op.1.ok (by omega)) (oq.2.ok (by omega)) λz h3 hl3 hz=>?_
   refine z48 (hy.1.le hl3) (hx.2.le hl3) (oq.1.ok (by omega)) (op.2.ok (by omega)) λw h4 hl4 hw=>?_
   refine zmv (hz.le hl4) hw ((op.1.mul oq.2).ok (by omega)) ((oq.1.mul op.2).ok (by omega)) λs h5 hl5 hs=>?_
   have hl35:=Hp.le_trans hl3 (Hp.le_trans hl4 hl5)
   refine z48 (hx.2.le hl35) (hy.2.le hl35) (op.2.ok (by omega)) (oq.2.ok (by omega)) λt h6 hl6 ht=>?_
   refine z9n (k:=k+j+1) (hs.le hl6) ht ((op.1.mul oq.2).addm ((oq.1.mul op.2).mono (by omega))) ((op.2.mul oq.2).mono (by omega)) (by omega) hd λv h7 hl7 hv=>hk _ _ (Hp.le_trans hl35 (Hp.le_trans hl6 hl7)) ?_
   rw[Zdh];exact hv
 . refine z3d hx.2 (ze (λh1=>z3d hy.2 (ze (λh2=>?_) (λ_=>rfl))) (λ_=>rfl))
   refine zmv hx.1 hy.1 (op.1.ok (by omega)) (oq.1.ok (by omega)) λz h3 hl3 hz=>?_
   refine zhp λw h4 hl4 hw=>hk _ _ (Hp.le_trans hl3 hl4) ?_
   have e:=zi2 (n:=p.num+q.num) (d:=1) (q:=p+q) (by decide) (Nat.coprime_one_right _) (by
    have:=(z5p (n:=p.num*q.den+q.num*p.den) hd).1 (Zdh p q).symm
    rw[h1,h2]at this;simpa using this)
   exact⟨by rw[<-e.1];exact hz.le hl4,by rw[<-e.2];exact hw⟩
theorem zx7(hx:NR h x p)(op:BR k p)(hk:k<=1000000000000)(H:∀z h',h.le h'->NR h' z (-p)->KR z h'):zc (F.z5g x) KR h:=by
 refine zd _ (λK' hk=>?_) H
 unfold F.z5g
 refine zn0 hx.1 (op.1.ok (by omega)) λz h1 hl1 hz=>hk _ _ hl1 ⟨?_,?_⟩
 . rw[Rat.neg_num];exact hz
 . rw[Rat.neg_den];exact hx.2.le hl1
theorem zx6(hx:NR h x p)(hy:NR h y q)(op:BR k p)(oq:BR j q)(hk:k<=400000000000)(hj:j<=400000000000)(h0:q.num≠0)(H:∀z h',h.le h'->NR h' z (p/q)->KE (z,0) h'):zc (F.z5f x y) KE h:=by
 refine zd (λv h'=>NR h' v.1 (p/q)/\v.2=0) (λK' hk=>?_) λ⟨z,c⟩ h' hl ⟨hz,hc⟩=>by
  simp only at hc;subst hc;exact H z h' hl hz
 unfold F.z5f
 refine zoa hy.1 (ze (λh1=>absurd h1 h0) (λ_=>?_))
 refine z48 hx.1 hy.2 (op.1.ok (by omega)) (oq.2.ok (by omega)) λz h3 hl3 hz=>?_
 refine z48 (hx.2.le hl3) (hy.1.le hl3) (op.2.ok (by omega)) (oq.1.ok (by omega)) λw h4 hl4 hw=>?_
 refine z9n (hz.le hl4) hw (op.1.mul oq.2) (op.2.mul oq.1) (by omega) (Int.mul_ne_zero (z4l p) h0) λv h5 hl5 hv=>hk _ _ (Hp.le_trans hl3 (Hp.le_trans hl4 hl5)) ⟨?_,rfl⟩
 rw[Zl1];exact hv
end
end Den
end

section
namespace Iv
end Iv
end

section
namespace Den
open Go Iv
section
variable {h : Hp} {m n : Int} {a b : TInt} {x y : TRat} {p q : Rat} {j k : Nat} {Ki : Int → Hp → Prop} {Kb : Bool → Hp → Prop} {KI : TInt → Hp → Prop} {KR : TRat → Hp → Prop} {KE : (TRat × Int) → Hp → Prop}
theorem Zkq(q:Rat):0<(q.den:Int):=by have:=q.den_pos;omega
theorem zsj(q:Rat):((q.den:Nat):Int).natAbs=q.den:=Int.natAbs_natCast _
theorem z2x(h1:-9223372036854775808<=n)(h2:n<=9223372036854775807)(H:∀z h',h.le h'->NR h' z (n:Rat)->KR z h'):zc (F.Wz n) KR h:=by
 refine zd _ (λK' hk=>?_) H
 unfold F.Wz
 refine zbd h1 h2 λz h3 hl3 hz=>zbd (by decide) (by decide) λw h4 hl4 hw=>hk _ _ (Hp.le_trans hl3 hl4) ⟨?_,?_⟩
 . exact hz.le hl4
 . exact hw
theorem Z8l{q:Rat}(h0:q.num≠0):(q.num<0->-(q.den:Int)=(q⁻¹).num/\-q.num=(q⁻¹).den)/\(¬q.num<0->(q.den:Int)=(q⁻¹).num/\q.num=(q⁻¹).den):=by
 have h1:=(z5p (n:=q.den) (q:=q⁻¹) h0).1 (Rat.inv_def q).symm
 constructor
 . intro h2
   refine zi2 (by omega) ?_ ?_
   . rw[Int.natAbs_neg,Int.natAbs_neg,Int.natAbs_natCast];exact Nat.Coprime.symm q.reduced
   . rw[Int.neg_mul,Int.mul_neg,h1]
 . intro h2
   refine zi2 (by omega) ?_ h1
   rw[Int.natAbs_natCast];exact Nat.Coprime.symm q.reduced
theorem BR.inv{q:Rat}(oq:BR k q)(h0:q.num≠0):BR k q⁻¹:=by
 have h1:=Z8l h0
 by_cases h2:q.num<0
 . have:=h1.1 h2
   exact⟨by rw[<-this.1];exact oq.2.neg,by rw[<-this.2];exact oq.1.neg⟩
 . have:=h1.2 h2
   exact⟨by rw[<-this.1];exact oq.2,by rw[<-this.2];exact oq.1⟩
theorem Zbz{m n:Nat}(h:dg m=dg n):m=n:=by rw[<-Y1 m,<-Y1 n,h]
end
end Den
end

section
namespace Iv
open Den
end Iv
namespace Den
open Go Iv
section
variable {h : Hp} {m n : Int} {a b : TInt} {x y : Sl} {l : List Nat} {j k : Nat} {Ks : Sl → Hp → Prop} {Ki : Int → Hp → Prop} {Kb : Bool → Hp → Prop} {KI : TInt → Hp → Prop} {KE : (TInt × Int) → Hp → Prop}
end
end Den
end

section
namespace Iv
open Den
end Iv
namespace Den
open Go Iv
section
variable {h : Hp} {a : TInt} {KE : (TInt × Int) → Hp → Prop}
end
end Den
end

section
namespace Den
open Go Iv
theorem z9g{α:Type}{c:α->List Value}{n:Nat}(hc:∀x,(c x).length=n):∀{xs:List α} {k j:Nat} (hk:k<xs.length),j<n->(xs.flatMap c)[k*n+j]?=(c xs[k])[j]?
 | [],k,j,hk,_=>by simp at hk
 | x :: r,0,j,hk,hj=>by
   rw[List.flatMap_cons,Nat.zero_mul,Nat.zero_add,List.getElem?_append_left (by rw[hc];exact hj)]
   rfl
 | x :: r,k+1,j,hk,hj=>by
   rw[List.flatMap_cons,List.getElem?_append_right (by rw[hc,Nat.add_mul];omega),hc]
   have:(k+1)*n+j-n=k*n+j:=by rw[Nat.add_mul];omega
   rw[this,z9g hc (by simpa using hk) hj]
   rfl
theorem Qf{α:Type}{c:α->List Value}{n:Nat}(hc:∀x,(c x).length=n)(xs:List α):(xs.flatMap c).length=xs.length*n:=by
 induction xs with
 | nil=>simp
 | cons x r ih=>rw[List.flatMap_cons,List.length_append,hc,ih,List.length_cons,Nat.add_mul];omega
def qc(x:TRat):List Value:=[.bool x.num.neg,.slice x.num.mag.a x.num.mag.len x.num.mag.cap,.bool x.den.neg,.slice x.den.mag.a x.den.mag.len x.den.mag.cap]
theorem zsr(x:TRat):(qc x).length=4:=rfl
abbrev RdQ(h:Hp)(l:Sl)(xs:List TRat):Prop:=Rd h 4 l (xs.flatMap qc)
theorem RdQ.len{h:Hp}{l:Sl}{xs:List TRat}(hr:RdQ h l xs):l.len=xs.length:=by
 have:=hr.1
 rw[Qf zsr]at this;omega
theorem zi4{h:Hp}{l:Sl}{xs:List TRat}{i:Int}{K:Bool->Sl->Bool->Sl->Prop}(k:Nat)(hr:RdQ h l xs)(hi:i=k)(hk:k<xs.length)
 (H:K xs[k].num.neg xs[k].num.mag xs[k].den.neg xs[k].den.mag) :
 zg l i 4 λa=>ldL .bool (a.add 0) (λx0=>ldL .sl (a.add 1) (λx1=>ldL .bool (a.add 2) (λx2=>ldL .sl (a.add 3) (λx3=>K x0 x1 x2 x3) h) h) h) h:=by
 refine zlw k hr hi (by rw[hr.len];exact hk) (by decide) λa ha=>?_
 have g:∀j v,j<4->(qc xs[k])[j]?=some v->h.cell (a.add j)=some v:=λj v hj hv=>ha j v (by rw[z9g zsr hk hj];exact hv)
 exact⟨_,g 0 _ (by decide) rfl,_,g 1 _ (by decide) rfl,_,g 2 _ (by decide) rfl,_,g 3 _ (by decide) rfl,H⟩
def QL(h:Hp)(B:Nat)(xs:List TRat)(vs:List Rat):Prop:=xs.length=vs.length/\∀k (h1:k<xs.length) (h2:k<vs.length),NR h xs[k] vs[k]/\BR B vs[k]
theorem QL.le{h h':Hp}{B:Nat}{xs:List TRat}{vs:List Rat}(hq:QL h B xs vs)(hl:h.le h'):QL h' B xs vs:=⟨hq.1,λk h1 h2=>⟨(hq.2 k h1 h2).1.le hl,(hq.2 k h1 h2).2⟩⟩
def hiS(m x:Rat):Rat:=if m<x then x else m
abbrev q4(s:Bool×Sl×Bool×Sl×Unit):TRat:=⟨⟨s.1,s.2.1⟩,⟨s.2.2.1,s.2.2.2.1⟩⟩
section
variable {h : Hp} {l : Sl} {B : Nat} {xs : List TRat} {vs : List Rat} {v0 : Rat} {KV : TInterval → Hp → Prop}
end
end Den
end

section
namespace Den
open Go Iv
theorem zds{α:Type}{G:(α->Hp->Prop)->Hp->Prop}{K1 K:α->Hp->Prop}{D h:Hp}(hD:D.le h)(H:zc G K1 D)
 (k:∀v D' h',D.le D'->D'.le h'->(∀j,D j=none->h j≠none->D' j=none/\h' j=h j)->K1 v D'->K v h'):zc G K h:=by
 obtain⟨O,hO⟩:∃O:Hp,O=λj=>match D j with | none=>h j | some _=>none:=⟨_,rfl⟩
 have e:h=D.add O:=by
  funext j
  unfold Hp.add
  rw[hO]
  cases hj:D j with
  | none=>simp[hj]
  | some b=>simp[hD j b hj]
 have hdj:D.dj O:=λj=>by
  cases hj:D j with
  | none=>exact .inl rfl
  | some b=>right;rw[hO];simp[hj]
 rw[e]
 refine zng hdj H λv D' hl hdj' hk=>k v D' _ hl (Hp.le_add _ _) (λj h1 h2=>?_) hk
 have e2:h j=O j:=by rw[hO];simp[h1]
 rw[e2]at h2 |-
 have h3:D' j=none:=by
  rcases hdj' j with h4 | h4
  . exact h4
  . exact absurd h4 h2
 exact⟨h3,by unfold Hp.add;rw[h3]⟩
theorem Own.move{D h D' h':Hp}{n:Nat}{l:Sl}{cs:List Value}(ho:Own D h n l cs)(h1:D'.le h')(hfr:∀j,D j=none->h j≠none->D' j=none/\h' j=h j):Own D' h' n l cs:=by
 obtain⟨g1,g2,g3,g4⟩:=ho
 refine⟨h1,g2,g3,?_⟩
 cases ha:l.a with
 | none=>rw[ha]at g4;exact g4
 | some a=>
   rw[ha]at g4
   obtain⟨k1,k2,k3,b,k4,k5⟩:=g4
   have:=hfr a.block k3 (by rw[k4];simp)
   exact⟨k1,k2,this.1,b,by rw[this.2];exact k4,k5⟩
theorem Own.call{α:Type}{G:(α->Hp->Prop)->Hp->Prop}{K1 K:α->Hp->Prop}{D h:Hp}{n:Nat}{l:Sl}{cs:List Value}(ho:Own D h n l cs)(H:zc G K1 D)
 (k:∀v D' h',D.le D'->Own D' h' n l cs->K1 v D'->K v h'):zc G K h:=
 zds ho.1 H λv D' h' h1 h2 h3 h4=>k v D' h' h1 (ho.move h2 h3) h4
def Apt(x y:Sl):Prop:=∀a b,x.a=some a->y.a=some b->a.block≠b.block
theorem Apt.symm{x y:Sl}(h:Apt x y):Apt y x:=λa b h1 h2=>(h b a h2 h1).symm
theorem Z4p{D h h':Hp}{n:Nat}{l x:Sl}{cs:List Value}(ho:Own D h n l cs)(hap:Apt x l)(hl:D.le h')(hs:∀j,(∀a,x.a=some a->j≠a.block)->h' j=h j):Own D h' n l cs:=by
 obtain⟨g1,g2,g3,g4⟩:=ho
 refine⟨hl,g2,g3,?_⟩
 cases ha:l.a with
 | none=>rw[ha]at g4;exact g4
 | some a=>
   rw[ha]at g4
   obtain⟨k1,k2,k3,b,k4,k5⟩:=g4
   exact⟨k1,k2,k3,b,by rw[hs a.block λc hc=>(hap c a hc ha).symm];exact k4,k5⟩
theorem zv6{h0 h:Hp}{size:Nat}{x:Sl}{cs vs:List Value}{i:Int}{K:Hp->Prop}(k:Nat)(ho:Own h0 h size x cs)(hi:i=k)(hk:k<x.len)(hv:vs.length=size)(hsz:0<size)(hleaf:vs.all Value.leaf=true)
 (H:∀h',Own h0 h' size x (z8 cs (k*size) vs)->(∀j,(∀a,x.a=some a->j≠a.block)->h' j=h j)->K h'):zg x i size λa=>stP a vs K h:=by
 subst hi
 obtain⟨h1,h2,h3,h4⟩:=ho
 refine⟨by omega,by omega,?_⟩
 cases ha:x.a with
 | none=>rw[ha]at h4;simp only at h4;omega
 | some a=>
   rw[ha]at h4
   obtain⟨g1,g2,g3,b,g4,g5,g6,g7⟩:=h4
   have e0:((k:Int).toNat)=k:=rfl
   have e1:k*size+size<=cs.length:=by
    rw[<-h2]
    have:=Nat.mul_le_mul_right size (show k+1<=x.len by omega)
    rw[Nat.add_mul]at this;omega
   have e2:cs.length<=b.cells.length:=by rw[g6,<-h2];exact Nat.mul_le_mul_right _ h3
   show ym (some a) _
   simp only[ym,e0]
   refine⟨b,by rw[Yi];exact g4,V1 g2 _,g5,by rw[Xr];omega,hleaf,?_⟩
   rw[Yi,Xr,g1,Nat.zero_add]
   refine H _ ⟨?_,?_,h3,?_⟩ λj hj=>?_
   . intro kk bk hkk
     rw[Hp.ins_ne (λhh=>by subst hh;rw[g3]at hkk;cases hkk)]
     exact h1 kk bk hkk
   . rw[Yb (by omega)];exact h2
   . rw[ha]
     refine⟨g1,g2,g3,_,Hp.ins_same _ _ _,g5,?_,?_⟩
     . show(z8 b.cells (k*size) vs).length=_
       rw[Yb (by omega)];exact g6
     . show(z8 b.cells (k*size) vs).take _=_
       rw[Yb (by omega)]
       exact za4 (by omega) g7
   . exact Hp.ins_ne (hj a ha)
section
variable {α : Type} {c : α → List Value} {n : Nat}
theorem zf9(hc:∀x,(c x).length=n){x:α}:∀{xs:List α} {k:Nat},k<xs.length->z8 (xs.flatMap c) (k*n) (c x)=(xs.set k x).flatMap c
 | [],k,h=>by simp at h
 | y :: r,0,h=>by
   unfold z8
   simp only[Nat.zero_mul,List.take_zero,List.nil_append,Nat.zero_add,List.set_cons_zero,List.flatMap_cons,hc]
   congr 1
   rw[<-hc y,List.drop_left]
 | y :: r,k+1,h=>by
   have ih:=zf9 hc (x:=x) (xs:=r) (k:=k) (by simpa using h)
   unfold z8 at ih |-
   rw[hc]at ih |-
   have e1:(k+1)*n=n+k*n:=by rw[Nat.add_mul];omega
   have e2:n+k*n+n=n+(k*n+n):=by omega
   simp only[List.flatMap_cons,List.set_cons_succ]
   rw[e1,e2,<-ih]
   have e3:∀j,(c y++r.flatMap c).take (n+j)=c y++(r.flatMap c).take j:=λj=>by
    rw[List.take_append,hc,Nat.add_sub_cancel_left,List.take_of_length_le (by rw[hc];omega)]
   have e4:∀j,(c y++r.flatMap c).drop (n+j)=(r.flatMap c).drop j:=λj=>by
    rw[List.drop_append,hc,Nat.add_sub_cancel_left,List.drop_of_length_le (by rw[hc];omega),List.nil_append]
   rw[e3,e4]
   simp[List.append_assoc]
theorem Own.flen(hc:∀x,(c x).length=n)(hn:0<n){D h:Hp}{l:Sl}{xs:List α}(ho:Own D h n l (xs.flatMap c)):l.len=xs.length:=by
 have:=ho.2.1
 rw[Qf hc]at this
 exact Nat.eq_of_mul_eq_mul_right hn this
theorem zv2(hc:∀x,(c x).length=n)(hn:0<n){D h:Hp}{l:Sl}{xs:List α}{x:α}{i:Int}{K:Hp->Prop}(k:Nat)(ho:Own D h n l (xs.flatMap c))(hi:i=k)(hk:k<xs.length)(hleaf:(c x).all Value.leaf=true)
 (H:∀h',Own D h' n l ((xs.set k x).flatMap c)->(∀j,(∀a,l.a=some a->j≠a.block)->h' j=h j)->K h'):zg l i n λa=>stP a (c x) K h:=by
 refine zv6 k ho hi (by rw[ho.flen hc hn];exact hk) (hc x) hn hleaf λh' h1 h2=>H h' ?_ h2
 rw[zf9 hc hk]at h1
 exact h1
end
theorem QL.mono{h:Hp}{B C:Nat}{xs:List TRat}{vs:List Rat}(hq:QL h B xs vs)(hB:B<=C):QL h C xs vs:=⟨hq.1,λk h1 h2=>⟨(hq.2 k h1 h2).1,(hq.2 k h1 h2).2.mono hB⟩⟩
theorem QL.bound{h:Hp}{B:Nat}{xs:List TRat}{vs:List Rat}(hq:QL h B xs vs):∀v∈vs,BR B v:=λv hv=>by
 obtain⟨i,hi,rfl⟩:=List.mem_iff_getElem.1 hv
 exact(hq.2 i (by rw[hq.1];exact hi) hi).2
def PL(h:Hp)(B:Nat)(l:Sl)(p:List Rat):Prop:=∃xs,RdQ h l xs/\QL h B xs p/\l.len<=l.cap
section
variable {D h h' h0 : Hp} {B : Nat} {l : Sl} {p : List Rat}
theorem PL.le(hp:PL h B l p)(hl:h.le h'):PL h' B l p:=by
 obtain⟨xs,h1,h2,h3⟩:=hp
 exact⟨xs,h1.le hl,h2.le hl,h3⟩
theorem PL.mono{C:Nat}(hp:PL h B l p)(hB:B<=C):PL h C l p:=by
 obtain⟨xs,h1,h2,h3⟩:=hp
 exact⟨xs,h1,h2.mono hB,h3⟩
theorem PL.len(hp:PL h B l p):l.len=p.length:=by
 obtain⟨xs,h1,h2,h3⟩:=hp
 rw[RdQ.len h1,h2.1]
theorem PL.bound(hp:PL h B l p):∀v∈p,BR B v:=by obtain⟨xs,h1,h2,h3⟩:=hp;exact h2.bound
theorem PL.get{i:Int}{K:Bool->Sl->Bool->Sl->Prop}(k:Nat)(hp:PL h B l p)(hi:i=k)(hk:k<p.length)
 (H:∀x:TRat,NR h x p[k]->BR B p[k]->K x.num.neg x.num.mag x.den.neg x.den.mag) :
 zg l i 4 λa=>ldL .bool (a.add 0) (λx0=>ldL .sl (a.add 1) (λx1=>ldL .bool (a.add 2) (λx2=>ldL .sl (a.add 3) (λx3=>K x0 x1 x2 x3) h) h) h) h:=by
 obtain⟨xs,h1,h2,h3⟩:=hp
 have hk':k<xs.length:=by rw[h2.1];exact hk
 have:=h2.2 k hk' hk
 exact zi4 k h1 hi hk' (H _ this.1 this.2)
end
end Den
end

section
namespace Den
open Go Iv
theorem Yr{body:(Int×Unit)->((Int×Unit)->Hp->Prop)->Hp->Prop}{h0:Hp}{n:Nat}(hn:n<=140737488355328)(I:Nat->Hp->Prop)(h:I 0 h0)
 (step:∀i h,i<=n->I i h->∀k,(∀h',i<n->I (i+1) h'->k (i64.wrap ((i:Int)+1),()) h')->body ((i:Int),()) k h):zr body (0,()) h0:=by
 refine y9 (λst h'=>∃i:Nat,st.1=(i:Int)/\i<=n/\I i h') (λst=>(n-st.1).toNat) ⟨0,rfl,Nat.zero_le _,h⟩ ?_
 rintro⟨_,_⟩ h' ⟨i,rfl,hi,hI⟩
 refine step i h' hi hI _ λh2 hlt hI2=>⟨⟨i+1,?_,hlt,hI2⟩,?_⟩
 . simp only;rw[w64 (by omega)];rfl
 . simp only;rw[w64 (by omega)];omega
theorem Yq{α:Type}{body:(α×Int×Unit)->((α×Int×Unit)->Hp->Prop)->Hp->Prop}{a0:α}{h0:Hp}{n:Nat}(hn:n<=140737488355328)(I:Nat->α->Hp->Prop)(h:I 0 a0 h0)
 (step:∀i a h,i<=n->I i a h->∀k,(∀a' h',i<n->I (i+1) a' h'->k (a',i64.wrap ((i:Int)+1),()) h')->body (a,(i:Int),()) k h):zr body (a0,0,()) h0:=by
 refine y9 (λst h'=>∃i:Nat,st.2.1=(i:Int)/\i<=n/\I i st.1 h') (λst=>(n-st.2.1).toNat) ⟨0,rfl,Nat.zero_le _,h⟩ ?_
 rintro⟨a,_,_⟩ h' ⟨i,rfl,hi,hI⟩
 refine step i a h' hi hI _ λa2 h2 hlt hI2=>⟨⟨i+1,?_,hlt,hI2⟩,?_⟩
 . simp only;rw[w64 (by omega)];rfl
 . simp only;rw[w64 (by omega)];omega
theorem zkb{α:Type}{c:α->List Value}{n:Nat}{h:Hp}{l:Sl}{xs:List α}{i:Int}{K:Addr->Prop}(hc:∀x,(c x).length=n)(hn:0<n)(hr:Rd h n l (xs.flatMap c))(k:Nat)(hi:i=k)(hk:k<xs.length)
 (H:∀a,(∀j v,j<n->(c xs[k])[j]?=some v->h.cell (a.add j)=some v)->K a):zg l i n K:=by
 have hl:l.len=xs.length:=by
  have:=hr.1
  rw[Qf hc]at this
  exact Nat.eq_of_mul_eq_mul_right hn this
 exact zlw k hr hi (by omega) hn λa ha=>H a λj v hj hv=>ha j v (by rw[z9g hc hk hj];exact hv)
def ic(z:Int):Value:=.int .i64 z
def IL(h:Hp)(l:Sl)(xs:List Int):Prop:=Rd h 1 l (xs.map ic)/\l.len<=l.cap
def OI(D h:Hp)(l:Sl)(xs:List Int):Prop:=Own D h 1 l (xs.map ic)
section
variable {D h h' : Hp} {l m : Sl} {xs ys : List Int} {n : Int} {Kb : Bool → Hp → Prop} {Ki : Int → Hp → Prop} {Ks : Sl → Hp → Prop}
theorem IL.le(hx:IL h l xs)(hl:h.le h'):IL h' l xs:=⟨hx.1.le hl,hx.2⟩
theorem IL.len(hx:IL h l xs):l.len=xs.length:=by have:=hx.1.1;simp at this;omega
theorem IL.nil:IL h zf []:=⟨Rd.nil,Nat.le_refl _⟩
theorem IL.get{i:Int}{K:Int->Prop}(hx:IL h l xs)(k:Nat)(hi:i=k)(hk:k<xs.length)(H:K xs[k]):zg l i 1 λa=>ldL (.int .i64) a K h:=by
 refine zi3 k hx.1 hi (v:=ic xs[k]) (by rw[List.getElem?_map,List.getElem?_eq_getElem hk];rfl) λa ha=>⟨xs[k],ha,H⟩
theorem IL.cut(hx:IL h l xs){n:Nat}(hn:n<=xs.length):IL h (l.cut 0 n 1) (xs.take n):=by
 have hl:=hx.len
 have hc:=hx.2
 refine⟨⟨?_,?_⟩,?_⟩
 . show(n-0)*1=_
   simp;omega
 . have e:((xs.take n).map ic).length=n:=by simp;omega
   rw[e]
   have h2:=hx.1.2
   have ea:(l.cut 0 n 1).a=l.a:=by
    show(if l.cap=0 then l.a else l.a.map (·.add (0*1)))=l.a
    split
    . rfl
    . cases l.a with
      | none=>rfl
      | some a=>simp only[Option.map_some,Nat.zero_mul,Zq]
   rw[ea]
   cases ha:l.a with
   | some a=>
     rw[ha]at h2
     have key:∀{m n:Nat} {L:List Value},Zz h a m=some L->n<=m->Zz h a n=some (L.take n):=by
      intro m
      induction m with
      | zero=>
        intro n L e hn
        have:n=0:=by omega
        subst this;simp[Zz]
      | succ m ih=>
        intro n L e hn
        have hl:=z21 e
        by_cases h1:n=m+1
        . subst h1;rw[e,List.take_of_length_le (by omega)]
        . unfold Zz at e
          split at e
          . rename_i l1 h2
            split at e
            . rename_i v hv
              simp only[Option.some.injEq]at e
              subst e
              have h3:=z21 h2
              rw[ih h2 (show n<=m by omega),List.take_append_of_le_length (by omega)]
            . cases e
          . cases e
     have:=key h2 (n:=n) (by simp;omega)
     show Zz h a n=_
     rw[this,List.map_take]
   | none=>
     rw[ha]at h2
     simp only[Z3]at h2 |-
     split at h2
     . rename_i h5
       simp only[Option.some.injEq]at h2
       have:n=0:=by simp at h5;subst h5;simp at hn;omega
       subst this
       simp
     . cases h2
 . show n-0<=l.cap-0;omega
theorem OI.il(ho:OI D h l xs):IL h l xs:=⟨ho.rd,ho.2.2.1⟩
theorem OI.dle(ho:OI D h l xs):D.le h:=ho.1
theorem OI.nil:OI h h zf []:=Own.nil (Hp.le_refl _)
theorem OI.app{x:Int}(ho:OI D h l xs)(hlen:xs.length<=1000000)(H:∀y h',OI D h' y (xs++[x])->Ks y h'):Y6 1 8 [.int .i64 0] l 1 [.int .i64 x] Ks h:=by
 have hl:=ho.il.len
 refine z3r ho (n:=1) (new:=[ic x]) rfl rfl rfl (by omega) (by omega) λy h' hy _=>H y h' ?_
 unfold OI;rw[List.map_append];exact hy
theorem zhc(hx:IL h l xs)(hlen:xs.length<=1000000)(H:∀r h',h.le h'->(0<=r↔n∈xs)->Ki r h'):zc (F.Xh l n) Ki h:=by
 refine zd (λr h'=>(0<=r↔n∈xs)) (λK' hk=>?_) λb h' hl hb=>H b h' hl hb
 unfold F.Xh
 have hl:=hx.len
 refine Yr (n:=xs.length) (by omega) (λi h'=>h'=h/\n∉xs.take i) ⟨rfl,by simp⟩ ?_
 rintro i _ hi ⟨rfl,hno⟩ k hk2
 refine ze (λh1=>?_) (λh1=>?_)
 . have hi':i<xs.length:=by simp only at h1;omega
   refine hx.get i rfl hi' ?_
   refine Za (λh2=>hk _ _ (Hp.le_refl _) ⟨λ_=>?_,λ_=>by simp only;omega⟩) (λh2=>hk2 _ hi' ⟨rfl,?_⟩)
   . rw[h2];exact List.getElem_mem _
   . rw[<-List.take_append_getElem hi',List.mem_append,List.mem_singleton]
     rintro(h3 | h3)
     . exact hno h3
     . exact h2 h3
 . refine hk _ _ (Hp.le_refl _) ⟨λhh=>by omega,λhh=>?_⟩
   have:i=xs.length:=by simp only at h1;omega
   subst this
   rw[List.take_length]at hno
   exact absurd hh hno
theorem Wt(hx:IL h l xs)(hlen:xs.length<=1000000)(H:∀h',h.le h'->Kb (decide (n∈xs)) h'):zc (F.Z2 l n) Kb h:=by
 refine zd (λb h'=>b=decide (n∈xs)) (λK' hk=>?_) λb h' hl hb=>by subst hb;exact H h' hl
 unfold F.Z2
 refine zhc hx hlen λr h' hl hr=>hk _ _ hl ?_
 by_cases hm:n∈xs
 . rw[decide_eq_true hm,decide_eq_true (hr.2 hm)]
 . rw[decide_eq_false hm,decide_eq_false λhh=>hm (hr.1 hh)]
theorem zo7(hx:IL h l xs)(hlen:xs.length<=1000000)(H:∀y h',OI h h' y xs->Ks y h'):zc (F.Wp l) Ks h:=by
 refine zd (λy h'=>OI h h' y xs) (λK' hk=>?_) λb h' _ hb=>H b h' hb
 unfold F.Wp
 have hl:=hx.len
 cases ha:l.a with
 | none=>
   refine Z9 rfl ?_
   have h2:=hx.1.2
   rw[ha]at h2
   simp only[Z3]at h2
   split at h2
   . rename_i h5
     have:xs=[]:=by simpa using h5
     subst this
     exact hk _ _ (Hp.le_refl _) OI.nil
   . cases h2
 | some a=>
   refine zt rfl ?_
   rw[<-ha]
   intro b el hb
   refine⟨xs.map ic,?_,?_⟩
   . have:=z6p (Hp.le_ins hb (b:=⟨[],el,(0,0)⟩)) hx.1.2
     rw[List.length_map]at this
     rw[hl,Nat.mul_one];exact this
   . have ho:Own h (h.ins b ⟨[],el,(0,0)⟩) 1 ⟨some ⟨b,0,none⟩,0,0⟩ []:=⟨Hp.le_ins hb,rfl,Nat.le_refl _,rfl,rfl,hb,_,Hp.ins_same _ _ _,rfl,rfl,rfl⟩
     refine z3r ho (n:=l.len) (new:=xs.map ic) (by simp[hl]) rfl (by simp[ic,Value.leaf]) (by simp only;omega) (by simp only;omega) λy h' hy _=>?_
     rw[List.nil_append]at hy
     exact hk _ _ hy.1 hy
end
end Den
end

section
namespace Lx
abbrev B:=List UInt8
def isL(c:UInt8):Bool:=(97<=c&&c<=122)||(65<=c&&c<=90)
def isD(c:UInt8):Bool:=48<=c&&c<=57
def isW(c:UInt8):Bool:=isL c||isD c||c==95
def spn(p:UInt8->Bool):B->Nat
 | []=>0
 | c :: r=>if p c=true then spn p r+1 else 0
def num(l:B):Nat:=
 match l.drop (spn isD l)with
 | []=>spn isD l
 | c :: r=>if c=46/\0<spn isD r then spn isD l+1+spn isD r else spn isD l
def qs:Nat->B->Option (Nat×B)
 | 0,_=>none
 | _,[]=>none
 | f+1,c :: r=>
   if c<32 then none else if c=34 then some (1,[])
   else if c=92 then
    match r with
    | []=>none
    | d :: r'=>if d=34\/d=92\/d=110 then (qs f r').map λp=>(p.1+2,(if d=110 then 10 else d) :: p.2)else none
   else (qs f r).map λp=>(p.1+1,c :: p.2)
def quo(l:B):Option (Nat×B):=
 match l with
 | []=>none
 | c :: r=>if c=34 then (qs (r.length+1) r).map λp=>(p.1+1,p.2)else none
def Z40(l:B):Bool:=
 match l with
 | []=>false
 | c :: r=>decide ((c :: r).length<=24)&&isL c&&(spn isW (c :: r)==(c :: r).length)
end Lx
end
