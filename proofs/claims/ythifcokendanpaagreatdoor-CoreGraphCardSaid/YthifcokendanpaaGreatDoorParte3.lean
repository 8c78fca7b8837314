/-
  Part 3 of the tools and contracts from which the statement is proved.
-/
import Derived.Test.YthifcokendanpaaGreatDoorParte2
import Derived.Lib.Bytealg
set_option linter.all false
section
set_option maxRecDepth 10000
namespace Den
open Go
structure TSketch where
 points:Sl
 circles:Sl
 segments:Sl
 arcs:Sl
 chains:Sl
 constraints:Sl
def tyTSketch:Ty TSketch:=Ty.agg [.sl,.sl,.sl,.sl,.sl,.sl] (fun x=>(x.points,x.circles,x.segments,x.arcs,x.chains,x.constraints,())) (fun y=>⟨y.1,y.2.1,y.2.2.1,y.2.2.2.1,y.2.2.2.2.1,y.2.2.2.2.2.1⟩) (fun _=>rfl) (fun _=>rfl)
structure TPoint where
 x:TRat
 y:TRat
def tyTPoint:Ty TPoint:=Ty.agg [.bool,.sl,.bool,.sl,.bool,.sl,.bool,.sl] (fun x=>(x.x.num.neg,x.x.num.mag,x.x.den.neg,x.x.den.mag,x.y.num.neg,x.y.num.mag,x.y.den.neg,x.y.den.mag,())) (fun y=>⟨⟨⟨y.1,y.2.1⟩,⟨y.2.2.1,y.2.2.2.1⟩⟩,⟨⟨y.2.2.2.2.1,y.2.2.2.2.2.1⟩,⟨y.2.2.2.2.2.2.1,y.2.2.2.2.2.2.2.1⟩⟩⟩) (fun _=>rfl) (fun _=>rfl)
structure TRound where
 center:Int
 radius:TRat
def tyTRound:Ty TRound:=Ty.agg [.int .i64,.bool,.sl,.bool,.sl] (fun x=>(x.center,x.radius.num.neg,x.radius.num.mag,x.radius.den.neg,x.radius.den.mag,())) (fun y=>⟨y.1,⟨⟨y.2.1,y.2.2.1⟩,⟨y.2.2.2.1,y.2.2.2.2.1⟩⟩⟩) (fun _=>rfl) (fun _=>rfl)
structure TSegment where
 a:Int
 b:Int
def tyTSegment:Ty TSegment:=Ty.agg [.int .i64,.int .i64] (fun x=>(x.a,x.b,())) (fun y=>⟨y.1,y.2.1⟩) (fun _=>rfl) (fun _=>rfl)
structure TArc where
 circle:Int
 a:Int
 b:Int
 cw:Bool
def tyTArc:Ty TArc:=Ty.agg [.int .i64,.int .i64,.int .i64,.bool] (fun x=>(x.circle,x.a,x.b,x.cw,())) (fun y=>⟨y.1,y.2.1,y.2.2.1,y.2.2.2.1⟩) (fun _=>rfl) (fun _=>rfl)
structure TPiece where
 arc:Bool
 index:Int
 back:Bool
def tyTPiece:Ty TPiece:=Ty.agg [.bool,.int .i64,.bool] (fun x=>(x.arc,x.index,x.back,())) (fun y=>⟨y.1,y.2.1,y.2.2.1⟩) (fun _=>rfl) (fun _=>rfl)
structure TConstraint where
 kind:Int
 points:Sl
 circles:Sl
 values:Sl
 side:Int
def tyTConstraint:Ty TConstraint:=Ty.agg [.int .i64,.sl,.sl,.sl,.int .i64] (fun x=>(x.kind,x.points,x.circles,x.values,x.side,())) (fun y=>⟨y.1,y.2.1,y.2.2.1,y.2.2.2.1,y.2.2.2.2.1⟩) (fun _=>rfl) (fun _=>rfl)
structure Tconstraint_Shape where
 points:Int
 circles:Int
 values:Int
 equations:Int
 side:Bool
 length:Bool
 positive:Bool
def zmg:Ty Tconstraint_Shape:=Ty.agg [.int .i64,.int .i64,.int .i64,.int .i64,.bool,.bool,.bool] (fun x=>(x.points,x.circles,x.values,x.equations,x.side,x.length,x.positive,())) (fun y=>⟨y.1,y.2.1,y.2.2.1,y.2.2.2.1,y.2.2.2.2.1,y.2.2.2.2.2.1,y.2.2.2.2.2.2.1⟩) (fun _=>rfl) (fun _=>rfl)
structure TExpr where
 op:Int
 value:TRat
 name:ByteArray
 args:Sl
def tyTExpr:Ty TExpr:=Ty.agg [.int .i64,.bool,.sl,.bool,.sl,.str,.sl] (fun x=>(x.op,x.value.num.neg,x.value.num.mag,x.value.den.neg,x.value.den.mag,x.name,x.args,())) (fun y=>⟨y.1,⟨⟨y.2.1,y.2.2.1⟩,⟨y.2.2.2.1,y.2.2.2.2.1⟩⟩,y.2.2.2.2.2.1,y.2.2.2.2.2.2.1⟩) (fun _=>rfl) (fun _=>rfl)
structure TPlan where
 steps:Sl
 checks:Sl
structure TStep where
 kind:Int
 target:Int
 uses:Sl
 branch:Int
structure TGraph where
 n:Int
 edges:Sl
def tyTGraph:Ty TGraph:=Ty.agg [.int .i64,.sl] (fun x=>(x.n,x.edges,())) (fun y=>⟨y.1,y.2.1⟩) (fun _=>rfl) (fun _=>rfl)
structure A2_Int where
 c0:Int
 c1:Int
def zm5:Ty A2_Int:=Ty.agg [.int .i64,.int .i64] (fun x=>(x.c0,x.c1,())) (fun y=>⟨y.1,y.2.1⟩) (fun _=>rfl) (fun _=>rfl)
namespace F
def zh8 (c:Sl) (K:Bool→Hp→Prop) (h:Hp):Prop:=
 (K (decide ((c.len:Int)>200)) h)
def zbh (s:Sl) (K:Int→Hp→Prop) (h:Hp):Prop:=
 (loopP (S:=Int×Unit) (fun s1 k2 h1=>
 (ifP (decide (s1.1<(s.len:Int)))
 (idxP s s1.1 1 fun a3=>
 (ldL (.sl) a3 (fun x4=>
 (callP (zh8 x4) (fun r5 h2=>
 (ifP r5
 (K s1.1 h2)
 (k2 ((IntKind.i64.wrap (s1.1+1)),()) h2))) h1)) h1))
 (K (-1) h1)))
 (0,()) h)
def zb8 (s:Sl) (K:Bool→Hp→Prop) (h:Hp):Prop:=
 (callP (zbh s) (fun r1 h1=>
 (K (decide (r1≥0)) h1)) h)
def zgo (s:TSketch) (K:Bool→Hp→Prop) (h:Hp):Prop:=
 (newP [.int .i64 (s.points.len:Int),.int .i64 (s.circles.len:Int),.int .i64 (s.segments.len:Int),.int .i64 (s.arcs.len:Int),.int .i64 (s.chains.len:Int),.int .i64 (s.constraints.len:Int)] (fun p1 h1=>
 (loopP (S:=Int×Unit) (fun s2 k3 h2=>
 (ifP (decide (s2.1<((⟨some p1,6,6⟩:Sl).len:Int)))
 (idxP (⟨some p1,6,6⟩:Sl) s2.1 1 fun a4=>
 (ldL (.int .i64) a4 (fun x5=>
 (ifP (decide (x5>200))
 (K true h2)
 (k3 ((IntKind.i64.wrap (s2.1+1)),()) h2))) h2))
 (callP (zb8 s.chains) (fun r6 h3=>
 (K r6 h3)) h2)))
 (0,()) h1)) h)
def zic (p:TPoint) (K:Bool→Hp→Prop) (h:Hp):Prop:=
 (callP (zcs p.x) (fun r1 h1=>
 (ifP r1
 (callP (zcs p.y) (fun r2 h2=>
 (K r2 h2)) h1)
 (K false h1))) h)
def zcg (x:TPoint) (v0:(Option Addr)) (K:Bool→Hp→Prop) (h:Hp):Prop:=
 (ptrK v0 fun p1=>
 (ldL (.val) p1 (fun x2=>
 (x2=.func (.func 115) #[] #[] ∧
 (callP (zic x) (fun r3 h1=>
 (K (!r3) h1)) h))) h))
def zan (s:Sl) (f1:(Option Addr×Unit)) (K:Int→Hp→Prop) (h:Hp):Prop:=
 (loopP (S:=Int×Unit) (fun s1 k2 h1=>
 (ifP (decide (s1.1<(s.len:Int)))
 (idxP s s1.1 8 fun a3=>
 (ldL (.bool) (a3.add 0) (fun x4_0=>
 (ldL (.sl) (a3.add 1) (fun x4_1=>
 (ldL (.bool) (a3.add 2) (fun x4_2=>
 (ldL (.sl) (a3.add 3) (fun x4_3=>
 (ldL (.bool) (a3.add 4) (fun x4_4=>
 (ldL (.sl) (a3.add 5) (fun x4_5=>
 (ldL (.bool) (a3.add 6) (fun x4_6=>
 (ldL (.sl) (a3.add 7) (fun x4_7=>
 (callP (zcg (⟨(⟨(⟨x4_0,x4_1⟩:TInt),(⟨x4_2,x4_3⟩:TInt)⟩:TRat),(⟨(⟨x4_4,x4_5⟩:TInt),(⟨x4_6,x4_7⟩:TInt)⟩:TRat)⟩:TPoint) f1.1) (fun r5 h2=>
 (ifP r5
 (K s1.1 h2)
 (k2 ((IntKind.i64.wrap (s1.1+1)),()) h2))) h1)) h1)) h1)) h1)) h1)) h1)) h1)) h1)) h1))
 (K (-1) h1)))
 (0,()) h)
def zaj (s:Sl) (f1:(Option Addr×Unit)) (K:Bool→Hp→Prop) (h:Hp):Prop:=
 (callP (zan s (f1.1,())) (fun r1 h1=>
 (K (decide (r1≥0)) h1)) h)
def zc0 (l:Sl) (K:Bool→Hp→Prop) (h:Hp):Prop:=
 (newP [.func (.func 115) #[] #[]] (fun p1 h1=>
 (callP (zaj l ((some p1),())) (fun r2 h2=>
 (K (!r2) h2)) h1)) h)
def zdg (n:Int) (i:Int) (K:Bool→Hp→Prop) (h:Hp):Prop:=
 (ifP (decide (i≥0))
 (K (decide (i<n)) h)
 (K false h))
def zid (c:TRound) (v0:(Option Addr)) (K:Bool→Hp→Prop) (h:Hp):Prop:=
 (ptrK v0 fun p1=>
 (ldL (.int .i64) p1 (fun x2=>
 (callP (zdg x2 c.center) (fun r3 h1=>
 (ifP r3
 (callP (zcs c.radius) (fun r4 h2=>
 (ifP r4
 (callP (ze8 c.radius) (fun r5 h3=>
 (K (decide (r5>0)) h3)) h2)
 (K false h2))) h1)
 (K false h1))) h)) h))
def zch (x:TRound) (v0:(Option Addr)) (K:Bool→Hp→Prop) (h:Hp):Prop:=
 (ptrK v0 fun p1=>
 (ldL (.val) p1 (fun x2=>
 ∃c3:Option Addr,(x2=.func (.func 118) #[] #[.pointer c3] ∧
 (callP (zid x c3) (fun r4 h1=>
 (K (!r4) h1)) h))) h))
def zao (s:Sl) (f1:(Option Addr×Unit)) (K:Int→Hp→Prop) (h:Hp):Prop:=
 (loopP (S:=Int×Unit) (fun s1 k2 h1=>
 (ifP (decide (s1.1<(s.len:Int)))
 (idxP s s1.1 5 fun a3=>
 (ldL (.int .i64) (a3.add 0) (fun x4_0=>
 (ldL (.bool) (a3.add 1) (fun x4_1=>
 (ldL (.sl) (a3.add 2) (fun x4_2=>
 (ldL (.bool) (a3.add 3) (fun x4_3=>
 (ldL (.sl) (a3.add 4) (fun x4_4=>
 (callP (zch (⟨x4_0,(⟨(⟨x4_1,x4_2⟩:TInt),(⟨x4_3,x4_4⟩:TInt)⟩:TRat)⟩:TRound) f1.1) (fun r5 h2=>
 (ifP r5
 (K s1.1 h2)
 (k2 ((IntKind.i64.wrap (s1.1+1)),()) h2))) h1)) h1)) h1)) h1)) h1)) h1))
 (K (-1) h1)))
 (0,()) h)
def zak (s:Sl) (f1:(Option Addr×Unit)) (K:Bool→Hp→Prop) (h:Hp):Prop:=
 (callP (zao s (f1.1,())) (fun r1 h1=>
 (K (decide (r1≥0)) h1)) h)
def zc1 (l:Sl) (f1:(Option Addr×Unit)) (K:Bool→Hp→Prop) (h:Hp):Prop:=
 (newP [.func (.func 118) #[] #[.pointer f1.1]] (fun p1 h1=>
 (callP (zak l ((some p1),())) (fun r2 h2=>
 (K (!r2) h2)) h1)) h)
def zie (g:TSegment) (v0:(Option Addr)) (K:Bool→Hp→Prop) (h:Hp):Prop:=
 (ptrK v0 fun p1=>
 (ldL (.int .i64) p1 (fun x2=>
 (callP (zdg x2 g.a) (fun r3 h1=>
 (ifP r3
 (ptrK v0 fun p4=>
 (ldL (.int .i64) p4 (fun x5=>
 (callP (zdg x5 g.b) (fun r6 h2=>
 (ifP r6
 (K (g.a != g.b) h2)
 (K false h2))) h1)) h1))
 (K false h1))) h)) h))
def zca (x:TSegment) (v0:(Option Addr)) (K:Bool→Hp→Prop) (h:Hp):Prop:=
 (ptrK v0 fun p1=>
 (ldL (.val) p1 (fun x2=>
 ∃c3:Option Addr,(x2=.func (.func 122) #[] #[.pointer c3] ∧
 (callP (zie x c3) (fun r4 h1=>
 (K (!r4) h1)) h))) h))
def zah (s:Sl) (f1:(Option Addr×Unit)) (K:Int→Hp→Prop) (h:Hp):Prop:=
 (loopP (S:=Int×Unit) (fun s1 k2 h1=>
 (ifP (decide (s1.1<(s.len:Int)))
 (idxP s s1.1 2 fun a3=>
 (ldL (.int .i64) (a3.add 0) (fun x4_0=>
 (ldL (.int .i64) (a3.add 1) (fun x4_1=>
 (callP (zca (⟨x4_0,x4_1⟩:TSegment) f1.1) (fun r5 h2=>
 (ifP r5
 (K s1.1 h2)
 (k2 ((IntKind.i64.wrap (s1.1+1)),()) h2))) h1)) h1)) h1))
 (K (-1) h1)))
 (0,()) h)
def zag (s:Sl) (f1:(Option Addr×Unit)) (K:Bool→Hp→Prop) (h:Hp):Prop:=
 (callP (zah s (f1.1,())) (fun r1 h1=>
 (K (decide (r1≥0)) h1)) h)
def zbt (l:Sl) (f1:(Option Addr×Unit)) (K:Bool→Hp→Prop) (h:Hp):Prop:=
 (newP [.func (.func 122) #[] #[.pointer f1.1]] (fun p1 h1=>
 (callP (zag l ((some p1),())) (fun r2 h2=>
 (K (!r2) h2)) h1)) h)
def zg0 (s:TSketch) (a:TArc) (K:Bool→Hp→Prop) (h:Hp):Prop:=
 (joinP (S:=Unit) (fun s1 h1=>
 (idxP s.circles a.circle 5 fun a3=>
 (ldL (.int .i64) (a3.add 0) (fun x4=>
 (ifP (a.a != x4)
 (K (a.b != x4) h1)
 (K false h1))) h1)))
 (fun k2=>
 (callP (zdg (s.circles.len:Int) a.circle) (fun r5 h2=>
 (ifP (!r5)
 (K false h2)
 (callP (zdg (s.points.len:Int) a.a) (fun r6 h3=>
 (ifP (!r6)
 (K false h3)
 (callP (zdg (s.points.len:Int) a.b) (fun r7 h4=>
 (ifP (!r7)
 (K false h4)
 (k2 () h4))) h3))) h2))) h)))
def zif (a:TArc) (v0:(Option Addr)) (K:Bool→Hp→Prop) (h:Hp):Prop:=
 (ptrK v0 fun p1=>
 (ldL (.sl) (p1.add 0) (fun x2_0=>
 (ldL (.sl) (p1.add 1) (fun x2_1=>
 (ldL (.sl) (p1.add 2) (fun x2_2=>
 (ldL (.sl) (p1.add 3) (fun x2_3=>
 (ldL (.sl) (p1.add 4) (fun x2_4=>
 (ldL (.sl) (p1.add 5) (fun x2_5=>
 (callP (zg0 (⟨x2_0,x2_1,x2_2,x2_3,x2_4,x2_5⟩:TSketch) a) (fun r3 h1=>
 (K r3 h1)) h)) h)) h)) h)) h)) h)) h))
def zcn (x:TArc) (v0:(Option Addr)) (K:Bool→Hp→Prop) (h:Hp):Prop:=
 (ptrK v0 fun p1=>
 (ldL (.val) p1 (fun x2=>
 ∃c3:Option Addr,(x2=.func (.func 124) #[] #[.pointer c3] ∧
 (callP (zif x c3) (fun r4 h1=>
 (K (!r4) h1)) h))) h))
def zas (s:Sl) (f1:(Option Addr×Unit)) (K:Int→Hp→Prop) (h:Hp):Prop:=
 (loopP (S:=Int×Unit) (fun s1 k2 h1=>
 (ifP (decide (s1.1<(s.len:Int)))
 (idxP s s1.1 4 fun a3=>
 (ldL (.int .i64) (a3.add 0) (fun x4_0=>
 (ldL (.int .i64) (a3.add 1) (fun x4_1=>
 (ldL (.int .i64) (a3.add 2) (fun x4_2=>
 (ldL (.bool) (a3.add 3) (fun x4_3=>
 (callP (zcn (⟨x4_0,x4_1,x4_2,x4_3⟩:TArc) f1.1) (fun r5 h2=>
 (ifP r5
 (K s1.1 h2)
 (k2 ((IntKind.i64.wrap (s1.1+1)),()) h2))) h1)) h1)) h1)) h1)) h1))
 (K (-1) h1)))
 (0,()) h)
def zaq (s:Sl) (f1:(Option Addr×Unit)) (K:Bool→Hp→Prop) (h:Hp):Prop:=
 (callP (zas s (f1.1,())) (fun r1 h1=>
 (K (decide (r1≥0)) h1)) h)
def zc5 (l:Sl) (f1:(Option Addr×Unit)) (K:Bool→Hp→Prop) (h:Hp):Prop:=
 (newP [.func (.func 124) #[] #[.pointer f1.1]] (fun p1 h1=>
 (callP (zaq l ((some p1),())) (fun r2 h2=>
 (K (!r2) h2)) h1)) h)
def zgu (s:TSketch) (p:TPiece) (K:(Int×Int)→Hp→Prop) (h:Hp):Prop:=
 (joinP (S:=Int×Int×Unit) (fun s1 h1=>
 (ifP p.back
 (K (s1.2.1,s1.1) h1)
 (K (s1.1,s1.2.1) h1)))
 (fun k2=>
 (ifP p.arc
 (idxP s.arcs p.index 4 fun a3=>
 (ldL (.int .i64) (a3.add 1) (fun x4=>
 (idxP s.arcs p.index 4 fun a5=>
 (ldL (.int .i64) (a5.add 2) (fun x6=>
 (k2 (x4,x6,()) h)) h))) h))
 (idxP s.segments p.index 2 fun a7=>
 (ldL (.int .i64) (a7.add 0) (fun x8=>
 (idxP s.segments p.index 2 fun a9=>
 (ldL (.int .i64) (a9.add 1) (fun x10=>
 (k2 (x8,x10,()) h)) h))) h)))))
def zem (s:TSketch) (c:Sl) (K:Bool→Hp→Prop) (h:Hp):Prop:=
 (loopP (S:=Int×Int×Unit) (fun s1 k2 h1=>
 (ifP (decide (s1.2.1<(c.len:Int)))
 (joinP (S:=Int×Unit) (fun s3 h2=>
 (k2 (s3.1,(IntKind.i64.wrap (s1.2.1+1)),()) h2))
 (fun k4=>
 (idxP c s1.2.1 3 fun a5=>
 (ldL (.bool) (a5.add 0) (fun x6_0=>
 (ldL (.int .i64) (a5.add 1) (fun x6_1=>
 (ldL (.bool) (a5.add 2) (fun x6_2=>
 (joinP (S:=Int×Unit) (fun s7 h3=>
 (callP (zdg s7.1 x6_1) (fun r9 h4=>
 (ifP (!r9)
 (K false h4)
 (callP (zgu s (⟨x6_0,x6_1,x6_2⟩:TPiece)) (fun r10 h5=>
 (ifP (decide (s1.2.1>0))
 (ifP (r10.1 != s1.1)
 (K false h5)
 (k4 (r10.2,()) h5))
 (k4 (r10.2,()) h5))) h4))) h3))
 (fun k8=>
 (ifP x6_0
 (k8 ((s.arcs.len:Int),()) h1)
 (k8 ((s.segments.len:Int),()) h1))))) h1)) h1)) h1))))
 (K (decide ((c.len:Int)>0)) h1)))
 ((-1),0,()) h)
def zig (c:Sl) (v0:(Option Addr)) (K:Bool→Hp→Prop) (h:Hp):Prop:=
 (ptrK v0 fun p1=>
 (ldL (.sl) (p1.add 0) (fun x2_0=>
 (ldL (.sl) (p1.add 1) (fun x2_1=>
 (ldL (.sl) (p1.add 2) (fun x2_2=>
 (ldL (.sl) (p1.add 3) (fun x2_3=>
 (ldL (.sl) (p1.add 4) (fun x2_4=>
 (ldL (.sl) (p1.add 5) (fun x2_5=>
 (callP (zem (⟨x2_0,x2_1,x2_2,x2_3,x2_4,x2_5⟩:TSketch) c) (fun r3 h1=>
 (K r3 h1)) h)) h)) h)) h)) h)) h)) h))
def zcf (x:Sl) (v0:(Option Addr)) (K:Bool→Hp→Prop) (h:Hp):Prop:=
 (ptrK v0 fun p1=>
 (ldL (.val) p1 (fun x2=>
 ∃c3:Option Addr,(x2=.func (.func 127) #[] #[.pointer c3] ∧
 (callP (zig x c3) (fun r4 h1=>
 (K (!r4) h1)) h))) h))
def zam (s:Sl) (f1:(Option Addr×Unit)) (K:Int→Hp→Prop) (h:Hp):Prop:=
 (loopP (S:=Int×Unit) (fun s1 k2 h1=>
 (ifP (decide (s1.1<(s.len:Int)))
 (idxP s s1.1 1 fun a3=>
 (ldL (.sl) a3 (fun x4=>
 (callP (zcf x4 f1.1) (fun r5 h2=>
 (ifP r5
 (K s1.1 h2)
 (k2 ((IntKind.i64.wrap (s1.1+1)),()) h2))) h1)) h1))
 (K (-1) h1)))
 (0,()) h)
def zai (s:Sl) (f1:(Option Addr×Unit)) (K:Bool→Hp→Prop) (h:Hp):Prop:=
 (callP (zam s (f1.1,())) (fun r1 h1=>
 (K (decide (r1≥0)) h1)) h)
def zbz (l:Sl) (f1:(Option Addr×Unit)) (K:Bool→Hp→Prop) (h:Hp):Prop:=
 (newP [.func (.func 127) #[] #[.pointer f1.1]] (fun p1 h1=>
 (callP (zai l ((some p1),())) (fun r2 h2=>
 (K (!r2) h2)) h1)) h)
def zdk (kind:Int) (K:(Tconstraint_Shape×Bool)→Hp→Prop) (h:Hp):Prop:=
 (joinP (S:=(Int×Int×Int×Int×Bool×Bool×Bool×Unit)×Unit) (fun s1 h1=>
 (idxC kind 18
 (ldL (.int .i64) ((((⟨1,0,none⟩:Addr).add ((kind:Int).toNat*8)).add 1).add 0) (fun x3_0=>
 (ldL (.int .i64) ((((⟨1,0,none⟩:Addr).add ((kind:Int).toNat*8)).add 1).add 1) (fun x3_1=>
 (ldL (.int .i64) ((((⟨1,0,none⟩:Addr).add ((kind:Int).toNat*8)).add 1).add 2) (fun x3_2=>
 (ldL (.int .i64) ((((⟨1,0,none⟩:Addr).add ((kind:Int).toNat*8)).add 1).add 3) (fun x3_3=>
 (ldL (.bool) ((((⟨1,0,none⟩:Addr).add ((kind:Int).toNat*8)).add 1).add 4) (fun x3_4=>
 (ldL (.bool) ((((⟨1,0,none⟩:Addr).add ((kind:Int).toNat*8)).add 1).add 5) (fun x3_5=>
 (ldL (.bool) ((((⟨1,0,none⟩:Addr).add ((kind:Int).toNat*8)).add 1).add 6) (fun x3_6=>
 (K ((⟨x3_0,x3_1,x3_2,x3_3,x3_4,x3_5,x3_6⟩:Tconstraint_Shape),true) h1)) h1)) h1)) h1)) h1)) h1)) h1)) h1)))
 (fun k2=>
 (ifP (decide (kind<1))
 (K ((⟨0,0,0,0,false,false,false⟩:Tconstraint_Shape),false) h)
 (ifP (decide (kind>17))
 (K ((⟨0,0,0,0,false,false,false⟩:Tconstraint_Shape),false) h)
 (k2 ((0,0,0,0,false,false,false,()),()) h)))))
def zek (i:Int) (K:ByteArray→Hp→Prop) (h:Hp):Prop:=
 (ifP (decide (i<10))
 (strCut ⟨#[48,49,50,51,52,53,54,55,56,57,97,98,99,100,101,102,103,104,105,106,107,108,109,110,111,112,113,114,115,116,117,118,119,120,121,122]⟩ i (IntKind.i64.wrap (i+1)) fun c1=>
 (K c1 h))
 (strCut ⟨#[48,48,48,49,48,50,48,51,48,52,48,53,48,54,48,55,48,56,48,57,49,48,49,49,49,50,49,51,49,52,49,53,49,54,49,55,49,56,49,57,50,48,50,49,50,50,50,51,50,52,50,53,50,54,50,55,50,56,50,57,51,48,51,49,51,50,51,51,51,52,51,53,51,54,51,55,51,56,51,57,52,48,52,49,52,50,52,51,52,52,52,53,52,54,52,55,52,56,52,57,53,48,53,49,53,50,53,51,53,52,53,53,53,54,53,55,53,56,53,57,54,48,54,49,54,50,54,51,54,52,54,53,54,54,54,55,54,56,54,57,55,48,55,49,55,50,55,51,55,52,55,53,55,54,55,55,55,56,55,57,56,48,56,49,56,50,56,51,56,52,56,53,56,54,56,55,56,56,56,57,57,48,57,49,57,50,57,51,57,52,57,53,57,54,57,55,57,56,57,57]⟩ (IntKind.i64.wrap (i*2)) (IntKind.i64.wrap ((IntKind.i64.wrap (i*2))+2)) fun c2=>
 (K c2 h)))
def zfy (x:Int) (K:Int→Hp→Prop) (h:Hp):Prop:=
 (joinP (S:=Int×Int×Unit) (fun s1 h1=>
 (joinP (S:=Int×Int×Unit) (fun s3 h2=>
 (joinP (S:=Int×Int×Unit) (fun s5 h3=>
 (strIdx ⟨#[0,1,2,2,3,3,3,3,4,4,4,4,4,4,4,4,5,5,5,5,5,5,5,5,5,5,5,5,5,5,5,5,6,6,6,6,6,6,6,6,6,6,6,6,6,6,6,6,6,6,6,6,6,6,6,6,6,6,6,6,6,6,6,6,7,7,7,7,7,7,7,7,7,7,7,7,7,7,7,7,7,7,7,7,7,7,7,7,7,7,7,7,7,7,7,7,7,7,7,7,7,7,7,7,7,7,7,7,7,7,7,7,7,7,7,7,7,7,7,7,7,7,7,7,7,7,7,7,8,8,8,8,8,8,8,8,8,8,8,8,8,8,8,8,8,8,8,8,8,8,8,8,8,8,8,8,8,8,8,8,8,8,8,8,8,8,8,8,8,8,8,8,8,8,8,8,8,8,8,8,8,8,8,8,8,8,8,8,8,8,8,8,8,8,8,8,8,8,8,8,8,8,8,8,8,8,8,8,8,8,8,8,8,8,8,8,8,8,8,8,8,8,8,8,8,8,8,8,8,8,8,8,8,8,8,8,8,8,8,8,8,8,8,8,8,8,8,8,8,8,8,8,8,8,8,8]⟩ (IntKind.u8.wrap (s5.1)) fun c7=>
 (K (IntKind.i64.wrap (s5.2.1+(IntKind.i64.wrap (c7)))) h3)))
 (fun k6=>
 (ifP (decide (s3.1≥256))
 (0≤(8:Int) ∧
 (k6 ((s3.1:Int).fdiv (2 ^ (min (8:Int).toNat IntKind.u64.bits)),(IntKind.i64.wrap (s3.2.1+8)),()) h2))
 (k6 (s3.1,s3.2.1,()) h2)))))
 (fun k4=>
 (ifP (decide (s1.1≥65536))
 (0≤(16:Int) ∧
 (k4 ((s1.1:Int).fdiv (2 ^ (min (16:Int).toNat IntKind.u64.bits)),(IntKind.i64.wrap (s1.2.1+16)),()) h1))
 (k4 (s1.1,s1.2.1,()) h1)))))
 (fun k2=>
 (ifP (decide (x≥4294967296))
 (0≤(32:Int) ∧
 (k2 ((x:Int).fdiv (2 ^ (min (32:Int).toNat IntKind.u64.bits)),32,()) h))
 (k2 (x,0,()) h))))
def zdu (x:Int) (K:Int→Hp→Prop) (h:Hp):Prop:=
 (0≤(18:Int) ∧
 (K (((IntKind.i64.wrap (x*78913)):Int).fdiv (2 ^ (min (18:Int).toNat IntKind.i64.bits))) h))
def zdt (b:Bool) (K:Int→Hp→Prop) (h:Hp):Prop:=
 (ifP b
 (K 1 h)
 (K 0 h))
def zcq (d:Int) (K:Int→Hp→Prop) (h:Hp):Prop:=
 (callP (zfy d) (fun r1 h1=>
 (callP (zdu r1) (fun r2 h2=>
 (idxC r2 20
 (ldL (.int .u64) ((⟨3,0,none⟩:Addr).add ((r2:Int).toNat*1)) (fun x3=>
 (callP (zdt (decide (d≥x3))) (fun r4 h3=>
 (K (IntKind.i64.wrap (r2+r4)) h3)) h2)) h2))) h1)) h)
def zcj (a:Sl) (u:Int) (K:Unit→Hp→Prop) (h:Hp):Prop:=
 (loopP (S:=Int×Int×Unit) (fun s1 k2 h1=>
 (ifP (decide (s1.2.1≥8))
 ((100000000:Int)≠0 ∧
 ((100000000:Int)≠0 ∧
 ((10000:Int)≠0 ∧
 ((10000:Int)≠0 ∧
 ((100:Int)≠0 ∧
 ((100:Int)≠0 ∧
 ((100:Int)≠0 ∧
 ((100:Int)≠0 ∧
 (strIdx ⟨#[48,48,48,49,48,50,48,51,48,52,48,53,48,54,48,55,48,56,48,57,49,48,49,49,49,50,49,51,49,52,49,53,49,54,49,55,49,56,49,57,50,48,50,49,50,50,50,51,50,52,50,53,50,54,50,55,50,56,50,57,51,48,51,49,51,50,51,51,51,52,51,53,51,54,51,55,51,56,51,57,52,48,52,49,52,50,52,51,52,52,52,53,52,54,52,55,52,56,52,57,53,48,53,49,53,50,53,51,53,52,53,53,53,54,53,55,53,56,53,57,54,48,54,49,54,50,54,51,54,52,54,53,54,54,54,55,54,56,54,57,55,48,55,49,55,50,55,51,55,52,55,53,55,54,55,55,55,56,55,57,56,48,56,49,56,50,56,51,56,52,56,53,56,54,56,55,56,56,56,57,57,48,57,49,57,50,57,51,57,52,57,53,57,54,57,55,57,56,57,57]⟩ (IntKind.u32.wrap ((IntKind.u32.wrap ((((((IntKind.u32.wrap ((s1.1:Int).tmod 100000000)):Int).tmod 10000):Int).tmod 100)*2))+1)) fun c3=>
 (strIdx ⟨#[48,48,48,49,48,50,48,51,48,52,48,53,48,54,48,55,48,56,48,57,49,48,49,49,49,50,49,51,49,52,49,53,49,54,49,55,49,56,49,57,50,48,50,49,50,50,50,51,50,52,50,53,50,54,50,55,50,56,50,57,51,48,51,49,51,50,51,51,51,52,51,53,51,54,51,55,51,56,51,57,52,48,52,49,52,50,52,51,52,52,52,53,52,54,52,55,52,56,52,57,53,48,53,49,53,50,53,51,53,52,53,53,53,54,53,55,53,56,53,57,54,48,54,49,54,50,54,51,54,52,54,53,54,54,54,55,54,56,54,57,55,48,55,49,55,50,55,51,55,52,55,53,55,54,55,55,55,56,55,57,56,48,56,49,56,50,56,51,56,52,56,53,56,54,56,55,56,56,56,57,57,48,57,49,57,50,57,51,57,52,57,53,57,54,57,55,57,56,57,57]⟩ (IntKind.u32.wrap ((((((IntKind.u32.wrap ((s1.1:Int).tmod 100000000)):Int).tmod 10000):Int).tmod 100)*2)) fun c4=>
 (idxP a (IntKind.i64.wrap (s1.2.1-1)) 1 fun a5=>
 (stP a5 [.int .u8 c3] (fun h2=>
 (idxP a (IntKind.i64.wrap (s1.2.1-2)) 1 fun a6=>
 (stP a6 [.int .u8 c4] (fun h3=>
 (strIdx ⟨#[48,48,48,49,48,50,48,51,48,52,48,53,48,54,48,55,48,56,48,57,49,48,49,49,49,50,49,51,49,52,49,53,49,54,49,55,49,56,49,57,50,48,50,49,50,50,50,51,50,52,50,53,50,54,50,55,50,56,50,57,51,48,51,49,51,50,51,51,51,52,51,53,51,54,51,55,51,56,51,57,52,48,52,49,52,50,52,51,52,52,52,53,52,54,52,55,52,56,52,57,53,48,53,49,53,50,53,51,53,52,53,53,53,54,53,55,53,56,53,57,54,48,54,49,54,50,54,51,54,52,54,53,54,54,54,55,54,56,54,57,55,48,55,49,55,50,55,51,55,52,55,53,55,54,55,55,55,56,55,57,56,48,56,49,56,50,56,51,56,52,56,53,56,54,56,55,56,56,56,57,57,48,57,49,57,50,57,51,57,52,57,53,57,54,57,55,57,56,57,57]⟩ (IntKind.u32.wrap ((IntKind.u32.wrap ((IntKind.u32.wrap (((((IntKind.u32.wrap ((s1.1:Int).tmod 100000000)):Int).tmod 10000):Int).tdiv 100))*2))+1)) fun c7=>
 (strIdx ⟨#[48,48,48,49,48,50,48,51,48,52,48,53,48,54,48,55,48,56,48,57,49,48,49,49,49,50,49,51,49,52,49,53,49,54,49,55,49,56,49,57,50,48,50,49,50,50,50,51,50,52,50,53,50,54,50,55,50,56,50,57,51,48,51,49,51,50,51,51,51,52,51,53,51,54,51,55,51,56,51,57,52,48,52,49,52,50,52,51,52,52,52,53,52,54,52,55,52,56,52,57,53,48,53,49,53,50,53,51,53,52,53,53,53,54,53,55,53,56,53,57,54,48,54,49,54,50,54,51,54,52,54,53,54,54,54,55,54,56,54,57,55,48,55,49,55,50,55,51,55,52,55,53,55,54,55,55,55,56,55,57,56,48,56,49,56,50,56,51,56,52,56,53,56,54,56,55,56,56,56,57,57,48,57,49,57,50,57,51,57,52,57,53,57,54,57,55,57,56,57,57]⟩ (IntKind.u32.wrap ((IntKind.u32.wrap (((((IntKind.u32.wrap ((s1.1:Int).tmod 100000000)):Int).tmod 10000):Int).tdiv 100))*2)) fun c8=>
 (idxP a (IntKind.i64.wrap (s1.2.1-3)) 1 fun a9=>
 (stP a9 [.int .u8 c7] (fun h4=>
 (idxP a (IntKind.i64.wrap (s1.2.1-4)) 1 fun a10=>
 (stP a10 [.int .u8 c8] (fun h5=>
 (strIdx ⟨#[48,48,48,49,48,50,48,51,48,52,48,53,48,54,48,55,48,56,48,57,49,48,49,49,49,50,49,51,49,52,49,53,49,54,49,55,49,56,49,57,50,48,50,49,50,50,50,51,50,52,50,53,50,54,50,55,50,56,50,57,51,48,51,49,51,50,51,51,51,52,51,53,51,54,51,55,51,56,51,57,52,48,52,49,52,50,52,51,52,52,52,53,52,54,52,55,52,56,52,57,53,48,53,49,53,50,53,51,53,52,53,53,53,54,53,55,53,56,53,57,54,48,54,49,54,50,54,51,54,52,54,53,54,54,54,55,54,56,54,57,55,48,55,49,55,50,55,51,55,52,55,53,55,54,55,55,55,56,55,57,56,48,56,49,56,50,56,51,56,52,56,53,56,54,56,55,56,56,56,57,57,48,57,49,57,50,57,51,57,52,57,53,57,54,57,55,57,56,57,57]⟩ (IntKind.u32.wrap ((IntKind.u32.wrap ((((IntKind.u32.wrap (((IntKind.u32.wrap ((s1.1:Int).tmod 100000000)):Int).tdiv 10000)):Int).tmod 100)*2))+1)) fun c11=>
 (strIdx ⟨#[48,48,48,49,48,50,48,51,48,52,48,53,48,54,48,55,48,56,48,57,49,48,49,49,49,50,49,51,49,52,49,53,49,54,49,55,49,56,49,57,50,48,50,49,50,50,50,51,50,52,50,53,50,54,50,55,50,56,50,57,51,48,51,49,51,50,51,51,51,52,51,53,51,54,51,55,51,56,51,57,52,48,52,49,52,50,52,51,52,52,52,53,52,54,52,55,52,56,52,57,53,48,53,49,53,50,53,51,53,52,53,53,53,54,53,55,53,56,53,57,54,48,54,49,54,50,54,51,54,52,54,53,54,54,54,55,54,56,54,57,55,48,55,49,55,50,55,51,55,52,55,53,55,54,55,55,55,56,55,57,56,48,56,49,56,50,56,51,56,52,56,53,56,54,56,55,56,56,56,57,57,48,57,49,57,50,57,51,57,52,57,53,57,54,57,55,57,56,57,57]⟩ (IntKind.u32.wrap ((((IntKind.u32.wrap (((IntKind.u32.wrap ((s1.1:Int).tmod 100000000)):Int).tdiv 10000)):Int).tmod 100)*2)) fun c12=>
 (idxP a (IntKind.i64.wrap (s1.2.1-5)) 1 fun a13=>
 (stP a13 [.int .u8 c11] (fun h6=>
 (idxP a (IntKind.i64.wrap (s1.2.1-6)) 1 fun a14=>
 (stP a14 [.int .u8 c12] (fun h7=>
 (strIdx ⟨#[48,48,48,49,48,50,48,51,48,52,48,53,48,54,48,55,48,56,48,57,49,48,49,49,49,50,49,51,49,52,49,53,49,54,49,55,49,56,49,57,50,48,50,49,50,50,50,51,50,52,50,53,50,54,50,55,50,56,50,57,51,48,51,49,51,50,51,51,51,52,51,53,51,54,51,55,51,56,51,57,52,48,52,49,52,50,52,51,52,52,52,53,52,54,52,55,52,56,52,57,53,48,53,49,53,50,53,51,53,52,53,53,53,54,53,55,53,56,53,57,54,48,54,49,54,50,54,51,54,52,54,53,54,54,54,55,54,56,54,57,55,48,55,49,55,50,55,51,55,52,55,53,55,54,55,55,55,56,55,57,56,48,56,49,56,50,56,51,56,52,56,53,56,54,56,55,56,56,56,57,57,48,57,49,57,50,57,51,57,52,57,53,57,54,57,55,57,56,57,57]⟩ (IntKind.u32.wrap ((IntKind.u32.wrap ((IntKind.u32.wrap (((IntKind.u32.wrap (((IntKind.u32.wrap ((s1.1:Int).tmod 100000000)):Int).tdiv 10000)):Int).tdiv 100))*2))+1)) fun c15=>
 (strIdx ⟨#[48,48,48,49,48,50,48,51,48,52,48,53,48,54,48,55,48,56,48,57,49,48,49,49,49,50,49,51,49,52,49,53,49,54,49,55,49,56,49,57,50,48,50,49,50,50,50,51,50,52,50,53,50,54,50,55,50,56,50,57,51,48,51,49,51,50,51,51,51,52,51,53,51,54,51,55,51,56,51,57,52,48,52,49,52,50,52,51,52,52,52,53,52,54,52,55,52,56,52,57,53,48,53,49,53,50,53,51,53,52,53,53,53,54,53,55,53,56,53,57,54,48,54,49,54,50,54,51,54,52,54,53,54,54,54,55,54,56,54,57,55,48,55,49,55,50,55,51,55,52,55,53,55,54,55,55,55,56,55,57,56,48,56,49,56,50,56,51,56,52,56,53,56,54,56,55,56,56,56,57,57,48,57,49,57,50,57,51,57,52,57,53,57,54,57,55,57,56,57,57]⟩ (IntKind.u32.wrap ((IntKind.u32.wrap (((IntKind.u32.wrap (((IntKind.u32.wrap ((s1.1:Int).tmod 100000000)):Int).tdiv 10000)):Int).tdiv 100))*2)) fun c16=>
 (idxP a (IntKind.i64.wrap (s1.2.1-7)) 1 fun a17=>
 (stP a17 [.int .u8 c15] (fun h8=>
 (idxP a (IntKind.i64.wrap (s1.2.1-8)) 1 fun a18=>
 (stP a18 [.int .u8 c16] (fun h9=>
 (k2 ((IntKind.u64.wrap ((s1.1:Int).tdiv 100000000)),(IntKind.i64.wrap (s1.2.1-8)),()) h9)) h8))) h7))))) h6))) h5))))) h4))) h3))))) h2))) h1))))))))))))
 (joinP (S:=Int×Int×Unit) (fun s19 h10=>
 (joinP (S:=Int×Int×Unit) (fun s21 h11=>
 (ifP (decide (s21.1>0))
 (idxP a 0 1 fun a23=>
 (stP a23 [.int .u8 (IntKind.u8.wrap ((IntKind.u32.wrap (48+s21.2.1))))] (fun h12=>
 (K () h12)) h11))
 (K () h11)))
 (fun k22=>
 (ifP (decide (s19.1≥2))
 ((100:Int)≠0 ∧
 ((100:Int)≠0 ∧
 (strIdx ⟨#[48,48,48,49,48,50,48,51,48,52,48,53,48,54,48,55,48,56,48,57,49,48,49,49,49,50,49,51,49,52,49,53,49,54,49,55,49,56,49,57,50,48,50,49,50,50,50,51,50,52,50,53,50,54,50,55,50,56,50,57,51,48,51,49,51,50,51,51,51,52,51,53,51,54,51,55,51,56,51,57,52,48,52,49,52,50,52,51,52,52,52,53,52,54,52,55,52,56,52,57,53,48,53,49,53,50,53,51,53,52,53,53,53,54,53,55,53,56,53,57,54,48,54,49,54,50,54,51,54,52,54,53,54,54,54,55,54,56,54,57,55,48,55,49,55,50,55,51,55,52,55,53,55,54,55,55,55,56,55,57,56,48,56,49,56,50,56,51,56,52,56,53,56,54,56,55,56,56,56,57,57,48,57,49,57,50,57,51,57,52,57,53,57,54,57,55,57,56,57,57]⟩ (IntKind.u32.wrap ((IntKind.u32.wrap (((s19.2.1:Int).tmod 100)*2))+1)) fun c24=>
 (strIdx ⟨#[48,48,48,49,48,50,48,51,48,52,48,53,48,54,48,55,48,56,48,57,49,48,49,49,49,50,49,51,49,52,49,53,49,54,49,55,49,56,49,57,50,48,50,49,50,50,50,51,50,52,50,53,50,54,50,55,50,56,50,57,51,48,51,49,51,50,51,51,51,52,51,53,51,54,51,55,51,56,51,57,52,48,52,49,52,50,52,51,52,52,52,53,52,54,52,55,52,56,52,57,53,48,53,49,53,50,53,51,53,52,53,53,53,54,53,55,53,56,53,57,54,48,54,49,54,50,54,51,54,52,54,53,54,54,54,55,54,56,54,57,55,48,55,49,55,50,55,51,55,52,55,53,55,54,55,55,55,56,55,57,56,48,56,49,56,50,56,51,56,52,56,53,56,54,56,55,56,56,56,57,57,48,57,49,57,50,57,51,57,52,57,53,57,54,57,55,57,56,57,57]⟩ (IntKind.u32.wrap (((s19.2.1:Int).tmod 100)*2)) fun c25=>
 (idxP a (IntKind.i64.wrap (s19.1-1)) 1 fun a26=>
 (stP a26 [.int .u8 c24] (fun h13=>
 (idxP a (IntKind.i64.wrap (s19.1-2)) 1 fun a27=>
 (stP a27 [.int .u8 c25] (fun h14=>
 (k22 ((IntKind.i64.wrap (s19.1-2)),(IntKind.u32.wrap ((s19.2.1:Int).tdiv 100)),()) h14)) h13))) h10))))))
 (k22 (s19.1,s19.2.1,()) h10)))))
 (fun k20=>
 (ifP (decide (s1.2.1≥4))
 ((10000:Int)≠0 ∧
 ((10000:Int)≠0 ∧
 ((100:Int)≠0 ∧
 ((100:Int)≠0 ∧
 (strIdx ⟨#[48,48,48,49,48,50,48,51,48,52,48,53,48,54,48,55,48,56,48,57,49,48,49,49,49,50,49,51,49,52,49,53,49,54,49,55,49,56,49,57,50,48,50,49,50,50,50,51,50,52,50,53,50,54,50,55,50,56,50,57,51,48,51,49,51,50,51,51,51,52,51,53,51,54,51,55,51,56,51,57,52,48,52,49,52,50,52,51,52,52,52,53,52,54,52,55,52,56,52,57,53,48,53,49,53,50,53,51,53,52,53,53,53,54,53,55,53,56,53,57,54,48,54,49,54,50,54,51,54,52,54,53,54,54,54,55,54,56,54,57,55,48,55,49,55,50,55,51,55,52,55,53,55,54,55,55,55,56,55,57,56,48,56,49,56,50,56,51,56,52,56,53,56,54,56,55,56,56,56,57,57,48,57,49,57,50,57,51,57,52,57,53,57,54,57,55,57,56,57,57]⟩ (IntKind.u32.wrap ((IntKind.u32.wrap ((((((IntKind.u32.wrap (s1.1)):Int).tmod 10000):Int).tmod 100)*2))+1)) fun c28=>
 (strIdx ⟨#[48,48,48,49,48,50,48,51,48,52,48,53,48,54,48,55,48,56,48,57,49,48,49,49,49,50,49,51,49,52,49,53,49,54,49,55,49,56,49,57,50,48,50,49,50,50,50,51,50,52,50,53,50,54,50,55,50,56,50,57,51,48,51,49,51,50,51,51,51,52,51,53,51,54,51,55,51,56,51,57,52,48,52,49,52,50,52,51,52,52,52,53,52,54,52,55,52,56,52,57,53,48,53,49,53,50,53,51,53,52,53,53,53,54,53,55,53,56,53,57,54,48,54,49,54,50,54,51,54,52,54,53,54,54,54,55,54,56,54,57,55,48,55,49,55,50,55,51,55,52,55,53,55,54,55,55,55,56,55,57,56,48,56,49,56,50,56,51,56,52,56,53,56,54,56,55,56,56,56,57,57,48,57,49,57,50,57,51,57,52,57,53,57,54,57,55,57,56,57,57]⟩ (IntKind.u32.wrap ((((((IntKind.u32.wrap (s1.1)):Int).tmod 10000):Int).tmod 100)*2)) fun c29=>
 (idxP a (IntKind.i64.wrap (s1.2.1-1)) 1 fun a30=>
 (stP a30 [.int .u8 c28] (fun h15=>
 (idxP a (IntKind.i64.wrap (s1.2.1-2)) 1 fun a31=>
 (stP a31 [.int .u8 c29] (fun h16=>
 (strIdx ⟨#[48,48,48,49,48,50,48,51,48,52,48,53,48,54,48,55,48,56,48,57,49,48,49,49,49,50,49,51,49,52,49,53,49,54,49,55,49,56,49,57,50,48,50,49,50,50,50,51,50,52,50,53,50,54,50,55,50,56,50,57,51,48,51,49,51,50,51,51,51,52,51,53,51,54,51,55,51,56,51,57,52,48,52,49,52,50,52,51,52,52,52,53,52,54,52,55,52,56,52,57,53,48,53,49,53,50,53,51,53,52,53,53,53,54,53,55,53,56,53,57,54,48,54,49,54,50,54,51,54,52,54,53,54,54,54,55,54,56,54,57,55,48,55,49,55,50,55,51,55,52,55,53,55,54,55,55,55,56,55,57,56,48,56,49,56,50,56,51,56,52,56,53,56,54,56,55,56,56,56,57,57,48,57,49,57,50,57,51,57,52,57,53,57,54,57,55,57,56,57,57]⟩ (IntKind.u32.wrap ((IntKind.u32.wrap ((IntKind.u32.wrap (((((IntKind.u32.wrap (s1.1)):Int).tmod 10000):Int).tdiv 100))*2))+1)) fun c32=>
 (strIdx ⟨#[48,48,48,49,48,50,48,51,48,52,48,53,48,54,48,55,48,56,48,57,49,48,49,49,49,50,49,51,49,52,49,53,49,54,49,55,49,56,49,57,50,48,50,49,50,50,50,51,50,52,50,53,50,54,50,55,50,56,50,57,51,48,51,49,51,50,51,51,51,52,51,53,51,54,51,55,51,56,51,57,52,48,52,49,52,50,52,51,52,52,52,53,52,54,52,55,52,56,52,57,53,48,53,49,53,50,53,51,53,52,53,53,53,54,53,55,53,56,53,57,54,48,54,49,54,50,54,51,54,52,54,53,54,54,54,55,54,56,54,57,55,48,55,49,55,50,55,51,55,52,55,53,55,54,55,55,55,56,55,57,56,48,56,49,56,50,56,51,56,52,56,53,56,54,56,55,56,56,56,57,57,48,57,49,57,50,57,51,57,52,57,53,57,54,57,55,57,56,57,57]⟩ (IntKind.u32.wrap ((IntKind.u32.wrap (((((IntKind.u32.wrap (s1.1)):Int).tmod 10000):Int).tdiv 100))*2)) fun c33=>
 (idxP a (IntKind.i64.wrap (s1.2.1-3)) 1 fun a34=>
 (stP a34 [.int .u8 c32] (fun h17=>
 (idxP a (IntKind.i64.wrap (s1.2.1-4)) 1 fun a35=>
 (stP a35 [.int .u8 c33] (fun h18=>
 (k20 ((IntKind.i64.wrap (s1.2.1-4)),(IntKind.u32.wrap (((IntKind.u32.wrap (s1.1)):Int).tdiv 10000)),()) h18)) h17))) h16))))) h15))) h1))))))))
 (k20 (s1.2.1,(IntKind.u32.wrap (s1.1)),()) h1))))))
 (u,(a.len:Int),()) h)
def zdn (i:Int) (base:Int) (K:ByteArray→Hp→Prop) (h:Hp):Prop:=
 (ifP (base==10)
 (ifP (decide (i<100))
 (callP (zek (IntKind.i64.wrap (i))) (fun r1 h1=>
 (K r1 h1)) h)
 (newP [.int .u8 0,.int .u8 0,.int .u8 0,.int .u8 0,.int .u8 0,.int .u8 0,.int .u8 0,.int .u8 0,.int .u8 0,.int .u8 0,.int .u8 0,.int .u8 0,.int .u8 0,.int .u8 0,.int .u8 0,.int .u8 0,.int .u8 0,.int .u8 0,.int .u8 0,.int .u8 0,.int .u8 0,.int .u8 0,.int .u8 0,.int .u8 0] (fun p2 h2=>
 (callP (zcq i) (fun r3 h3=>
 (slP (⟨some p2,24,24⟩:Sl) 0 r3 1 fun c4=>
 (callM (zcj c4 i) (fun r5 h4=>
 (slP (⟨some p2,24,24⟩:Sl) 0 r3 1 fun c6=>
 (toStr c6 (fun t7=>
 (K t7 h4)) h4))) h3))) h2)) h))
 False)
def zdo (i:Int) (base:Int) (K:ByteArray→Hp→Prop) (h:Hp):Prop:=
 (callP (zdn i base) (fun r1 h1=>
 (K r1 h1)) h)
def zhn (x:Int) (y:Int) (K:(Int×Int)→Hp→Prop) (h:Hp):Prop:=
 (0≤(32:Int) ∧
 (0≤(32:Int) ∧
 (0≤(32:Int) ∧
 (0≤(32:Int) ∧
 (0≤(32:Int) ∧
 (K ((IntKind.u64.wrap ((IntKind.u64.wrap ((IntKind.u64.wrap (((x:Int).fdiv (2 ^ (min (32:Int).toNat IntKind.u64.bits)))*((y:Int).fdiv (2 ^ (min (32:Int).toNat IntKind.u64.bits)))))+(((IntKind.u64.wrap ((IntKind.u64.wrap (((x:Int).fdiv (2 ^ (min (32:Int).toNat IntKind.u64.bits)))*(ibits .and .u64 y 4294967295)))+(((IntKind.u64.wrap ((ibits .and .u64 x 4294967295)*(ibits .and .u64 y 4294967295))):Int).fdiv (2 ^ (min (32:Int).toNat IntKind.u64.bits))))):Int).fdiv (2 ^ (min (32:Int).toNat IntKind.u64.bits)))))+(((IntKind.u64.wrap ((ibits .and .u64 (IntKind.u64.wrap ((IntKind.u64.wrap (((x:Int).fdiv (2 ^ (min (32:Int).toNat IntKind.u64.bits)))*(ibits .and .u64 y 4294967295)))+(((IntKind.u64.wrap ((ibits .and .u64 x 4294967295)*(ibits .and .u64 y 4294967295))):Int).fdiv (2 ^ (min (32:Int).toNat IntKind.u64.bits))))) 4294967295)+(IntKind.u64.wrap ((ibits .and .u64 x 4294967295)*((y:Int).fdiv (2 ^ (min (32:Int).toNat IntKind.u64.bits))))))):Int).fdiv (2 ^ (min (32:Int).toNat IntKind.u64.bits))))),(IntKind.u64.wrap (x*y))) h))))))
def zh0 (x:Int) (y:Int) (K:(Int×Int)→Hp→Prop) (h:Hp):Prop:=
 (callP (zhn x y) (fun r1 h1=>
 (K (r1.1,r1.2) h1)) h)
def zcx (s:ByteArray) (prefix_:ByteArray) (K:Bool→Hp→Prop) (h:Hp):Prop:=
 (ifP (decide (((s:ByteArray).size:Int)≥((prefix_:ByteArray).size:Int)))
 (strCut s 0 ((prefix_:ByteArray).size:Int) fun c1=>
 (K ((c1:ByteArray).toList==(prefix_:ByteArray).toList) h))
 (K false h))
def za6 (s:ByteArray) (prefix_:ByteArray) (K:Bool→Hp→Prop) (h:Hp):Prop:=
 (callP (zcx s prefix_) (fun r1 h1=>
 (K r1 h1)) h)
def ze0 (s:ByteArray) (count:Int) (K:ByteArray→Hp→Prop) (h:Hp):Prop:=
 (ifP (count==0)
 (K emptyS h)
 (ifP (count==1)
 (K s h)
 (joinP (S:=Unit) (fun s1 h1=>
 (callP (zh0 (IntKind.u64.wrap (((s:ByteArray).size:Int))) (IntKind.u64.wrap (count))) (fun r3 h2=>
 (joinP (S:=Unit) (fun s4 h3=>
 (ifP (((s:ByteArray).size:Int)==0)
 (K emptyS h3)
 (joinP (S:=Unit) (fun s6 h4=>
 (joinP (S:=Int×Unit) (fun s8 h5=>
 (newT 239 [.pointer none,.slice nilS.a nilS.len nilS.cap] (fun p10 h6=>
 False) h5))
 (fun k9=>
 (ifP (decide ((IntKind.i64.wrap (r3.2))>8192))
 ((((s:ByteArray).size:Int):Int)≠0 ∧
 (ifP ((IntKind.i64.wrap ((IntKind.i64.wrap ((8192:Int).tdiv ((s:ByteArray).size:Int)))*((s:ByteArray).size:Int)))==0)
 (k9 (((s:ByteArray).size:Int),()) h4)
 (k9 ((IntKind.i64.wrap ((IntKind.i64.wrap ((8192:Int).tdiv ((s:ByteArray).size:Int)))*((s:ByteArray).size:Int))),()) h4)))
 (k9 ((IntKind.i64.wrap (r3.2)),()) h4)))))
 (fun k7=>
 (strIdx s 0 fun c11=>
 (joinP (S:=Bool×Unit) (fun s12 h7=>
 (ifP s12.1
 (ifP (decide ((IntKind.i64.wrap (r3.2))≤128))
 (callP (za6 ⟨#[32,32,32,32,32,32,32,32,32,32,32,32,32,32,32,32,32,32,32,32,32,32,32,32,32,32,32,32,32,32,32,32,32,32,32,32,32,32,32,32,32,32,32,32,32,32,32,32,32,32,32,32,32,32,32,32,32,32,32,32,32,32,32,32,32,32,32,32,32,32,32,32,32,32,32,32,32,32,32,32,32,32,32,32,32,32,32,32,32,32,32,32,32,32,32,32,32,32,32,32,32,32,32,32,32,32,32,32,32,32,32,32,32,32,32,32,32,32,32,32,32,32,32,32,32,32,32,32]⟩ s) (fun r14 h8=>
 (ifP r14
 (strCut ⟨#[32,32,32,32,32,32,32,32,32,32,32,32,32,32,32,32,32,32,32,32,32,32,32,32,32,32,32,32,32,32,32,32,32,32,32,32,32,32,32,32,32,32,32,32,32,32,32,32,32,32,32,32,32,32,32,32,32,32,32,32,32,32,32,32,32,32,32,32,32,32,32,32,32,32,32,32,32,32,32,32,32,32,32,32,32,32,32,32,32,32,32,32,32,32,32,32,32,32,32,32,32,32,32,32,32,32,32,32,32,32,32,32,32,32,32,32,32,32,32,32,32,32,32,32,32,32,32,32]⟩ 0 (IntKind.i64.wrap (r3.2)) fun c15=>
 (K c15 h8))
 (ifP (decide ((IntKind.i64.wrap (r3.2))≤128))
 (callP (za6 ⟨#[45,45,45,45,45,45,45,45,45,45,45,45,45,45,45,45,45,45,45,45,45,45,45,45,45,45,45,45,45,45,45,45,45,45,45,45,45,45,45,45,45,45,45,45,45,45,45,45,45,45,45,45,45,45,45,45,45,45,45,45,45,45,45,45,45,45,45,45,45,45,45,45,45,45,45,45,45,45,45,45,45,45,45,45,45,45,45,45,45,45,45,45,45,45,45,45,45,45,45,45,45,45,45,45,45,45,45,45,45,45,45,45,45,45,45,45,45,45,45,45,45,45,45,45,45,45,45,45]⟩ s) (fun r16 h9=>
 (ifP r16
 (strCut ⟨#[45,45,45,45,45,45,45,45,45,45,45,45,45,45,45,45,45,45,45,45,45,45,45,45,45,45,45,45,45,45,45,45,45,45,45,45,45,45,45,45,45,45,45,45,45,45,45,45,45,45,45,45,45,45,45,45,45,45,45,45,45,45,45,45,45,45,45,45,45,45,45,45,45,45,45,45,45,45,45,45,45,45,45,45,45,45,45,45,45,45,45,45,45,45,45,45,45,45,45,45,45,45,45,45,45,45,45,45,45,45,45,45,45,45,45,45,45,45,45,45,45,45,45,45,45,45,45,45]⟩ 0 (IntKind.i64.wrap (r3.2)) fun c17=>
 (K c17 h9))
 (ifP (decide ((IntKind.i64.wrap (r3.2))≤64))
 (callP (za6 ⟨#[48,48,48,48,48,48,48,48,48,48,48,48,48,48,48,48,48,48,48,48,48,48,48,48,48,48,48,48,48,48,48,48,48,48,48,48,48,48,48,48,48,48,48,48,48,48,48,48,48,48,48,48,48,48,48,48,48,48,48,48,48,48,48,48]⟩ s) (fun r18 h10=>
 (ifP r18
 (strCut ⟨#[48,48,48,48,48,48,48,48,48,48,48,48,48,48,48,48,48,48,48,48,48,48,48,48,48,48,48,48,48,48,48,48,48,48,48,48,48,48,48,48,48,48,48,48,48,48,48,48,48,48,48,48,48,48,48,48,48,48,48,48,48,48,48,48]⟩ 0 (IntKind.i64.wrap (r3.2)) fun c19=>
 (K c19 h10))
 (ifP (decide ((IntKind.i64.wrap (r3.2))≤128))
 (callP (za6 ⟨#[61,61,61,61,61,61,61,61,61,61,61,61,61,61,61,61,61,61,61,61,61,61,61,61,61,61,61,61,61,61,61,61,61,61,61,61,61,61,61,61,61,61,61,61,61,61,61,61,61,61,61,61,61,61,61,61,61,61,61,61,61,61,61,61,61,61,61,61,61,61,61,61,61,61,61,61,61,61,61,61,61,61,61,61,61,61,61,61,61,61,61,61,61,61,61,61,61,61,61,61,61,61,61,61,61,61,61,61,61,61,61,61,61,61,61,61,61,61,61,61,61,61,61,61,61,61,61,61]⟩ s) (fun r20 h11=>
 (ifP r20
 (strCut ⟨#[61,61,61,61,61,61,61,61,61,61,61,61,61,61,61,61,61,61,61,61,61,61,61,61,61,61,61,61,61,61,61,61,61,61,61,61,61,61,61,61,61,61,61,61,61,61,61,61,61,61,61,61,61,61,61,61,61,61,61,61,61,61,61,61,61,61,61,61,61,61,61,61,61,61,61,61,61,61,61,61,61,61,61,61,61,61,61,61,61,61,61,61,61,61,61,61,61,61,61,61,61,61,61,61,61,61,61,61,61,61,61,61,61,61,61,61,61,61,61,61,61,61,61,61,61,61,61,61]⟩ 0 (IntKind.i64.wrap (r3.2)) fun c21=>
 (K c21 h11))
 (ifP (decide ((IntKind.i64.wrap (r3.2))≤64))
 (callP (za6 ⟨#[9,9,9,9,9,9,9,9,9,9,9,9,9,9,9,9,9,9,9,9,9,9,9,9,9,9,9,9,9,9,9,9,9,9,9,9,9,9,9,9,9,9,9,9,9,9,9,9,9,9,9,9,9,9,9,9,9,9,9,9,9,9,9,9]⟩ s) (fun r22 h12=>
 (ifP r22
 (strCut ⟨#[9,9,9,9,9,9,9,9,9,9,9,9,9,9,9,9,9,9,9,9,9,9,9,9,9,9,9,9,9,9,9,9,9,9,9,9,9,9,9,9,9,9,9,9,9,9,9,9,9,9,9,9,9,9,9,9,9,9,9,9,9,9,9,9]⟩ 0 (IntKind.i64.wrap (r3.2)) fun c23=>
 (K c23 h12))
 (k7 () h12))) h11)
 (k7 () h11)))) h10)
 (ifP (decide ((IntKind.i64.wrap (r3.2))≤64))
 (callP (za6 ⟨#[9,9,9,9,9,9,9,9,9,9,9,9,9,9,9,9,9,9,9,9,9,9,9,9,9,9,9,9,9,9,9,9,9,9,9,9,9,9,9,9,9,9,9,9,9,9,9,9,9,9,9,9,9,9,9,9,9,9,9,9,9,9,9,9]⟩ s) (fun r24 h13=>
 (ifP r24
 (strCut ⟨#[9,9,9,9,9,9,9,9,9,9,9,9,9,9,9,9,9,9,9,9,9,9,9,9,9,9,9,9,9,9,9,9,9,9,9,9,9,9,9,9,9,9,9,9,9,9,9,9,9,9,9,9,9,9,9,9,9,9,9,9,9,9,9,9]⟩ 0 (IntKind.i64.wrap (r3.2)) fun c25=>
 (K c25 h13))
 (k7 () h13))) h10)
 (k7 () h10))))) h9)
 (ifP (decide ((IntKind.i64.wrap (r3.2))≤128))
 (callP (za6 ⟨#[61,61,61,61,61,61,61,61,61,61,61,61,61,61,61,61,61,61,61,61,61,61,61,61,61,61,61,61,61,61,61,61,61,61,61,61,61,61,61,61,61,61,61,61,61,61,61,61,61,61,61,61,61,61,61,61,61,61,61,61,61,61,61,61,61,61,61,61,61,61,61,61,61,61,61,61,61,61,61,61,61,61,61,61,61,61,61,61,61,61,61,61,61,61,61,61,61,61,61,61,61,61,61,61,61,61,61,61,61,61,61,61,61,61,61,61,61,61,61,61,61,61,61,61,61,61,61,61]⟩ s) (fun r26 h14=>
 (ifP r26
 (strCut ⟨#[61,61,61,61,61,61,61,61,61,61,61,61,61,61,61,61,61,61,61,61,61,61,61,61,61,61,61,61,61,61,61,61,61,61,61,61,61,61,61,61,61,61,61,61,61,61,61,61,61,61,61,61,61,61,61,61,61,61,61,61,61,61,61,61,61,61,61,61,61,61,61,61,61,61,61,61,61,61,61,61,61,61,61,61,61,61,61,61,61,61,61,61,61,61,61,61,61,61,61,61,61,61,61,61,61,61,61,61,61,61,61,61,61,61,61,61,61,61,61,61,61,61,61,61,61,61,61,61]⟩ 0 (IntKind.i64.wrap (r3.2)) fun c27=>
 (K c27 h14))
 (ifP (decide ((IntKind.i64.wrap (r3.2))≤64))
 (callP (za6 ⟨#[9,9,9,9,9,9,9,9,9,9,9,9,9,9,9,9,9,9,9,9,9,9,9,9,9,9,9,9,9,9,9,9,9,9,9,9,9,9,9,9,9,9,9,9,9,9,9,9,9,9,9,9,9,9,9,9,9,9,9,9,9,9,9,9]⟩ s) (fun r28 h15=>
 (ifP r28
 (strCut ⟨#[9,9,9,9,9,9,9,9,9,9,9,9,9,9,9,9,9,9,9,9,9,9,9,9,9,9,9,9,9,9,9,9,9,9,9,9,9,9,9,9,9,9,9,9,9,9,9,9,9,9,9,9,9,9,9,9,9,9,9,9,9,9,9,9]⟩ 0 (IntKind.i64.wrap (r3.2)) fun c29=>
 (K c29 h15))
 (k7 () h15))) h14)
 (k7 () h14)))) h9)
 (ifP (decide ((IntKind.i64.wrap (r3.2))≤64))
 (callP (za6 ⟨#[9,9,9,9,9,9,9,9,9,9,9,9,9,9,9,9,9,9,9,9,9,9,9,9,9,9,9,9,9,9,9,9,9,9,9,9,9,9,9,9,9,9,9,9,9,9,9,9,9,9,9,9,9,9,9,9,9,9,9,9,9,9,9,9]⟩ s) (fun r30 h16=>
 (ifP r30
 (strCut ⟨#[9,9,9,9,9,9,9,9,9,9,9,9,9,9,9,9,9,9,9,9,9,9,9,9,9,9,9,9,9,9,9,9,9,9,9,9,9,9,9,9,9,9,9,9,9,9,9,9,9,9,9,9,9,9,9,9,9,9,9,9,9,9,9,9]⟩ 0 (IntKind.i64.wrap (r3.2)) fun c31=>
 (K c31 h16))
 (k7 () h16))) h9)
 (k7 () h9)))))) h8)
 (ifP (decide ((IntKind.i64.wrap (r3.2))≤64))
 (callP (za6 ⟨#[48,48,48,48,48,48,48,48,48,48,48,48,48,48,48,48,48,48,48,48,48,48,48,48,48,48,48,48,48,48,48,48,48,48,48,48,48,48,48,48,48,48,48,48,48,48,48,48,48,48,48,48,48,48,48,48,48,48,48,48,48,48,48,48]⟩ s) (fun r32 h17=>
 (ifP r32
 (strCut ⟨#[48,48,48,48,48,48,48,48,48,48,48,48,48,48,48,48,48,48,48,48,48,48,48,48,48,48,48,48,48,48,48,48,48,48,48,48,48,48,48,48,48,48,48,48,48,48,48,48,48,48,48,48,48,48,48,48,48,48,48,48,48,48,48,48]⟩ 0 (IntKind.i64.wrap (r3.2)) fun c33=>
 (K c33 h17))
 (ifP (decide ((IntKind.i64.wrap (r3.2))≤128))
 (callP (za6 ⟨#[61,61,61,61,61,61,61,61,61,61,61,61,61,61,61,61,61,61,61,61,61,61,61,61,61,61,61,61,61,61,61,61,61,61,61,61,61,61,61,61,61,61,61,61,61,61,61,61,61,61,61,61,61,61,61,61,61,61,61,61,61,61,61,61,61,61,61,61,61,61,61,61,61,61,61,61,61,61,61,61,61,61,61,61,61,61,61,61,61,61,61,61,61,61,61,61,61,61,61,61,61,61,61,61,61,61,61,61,61,61,61,61,61,61,61,61,61,61,61,61,61,61,61,61,61,61,61,61]⟩ s) (fun r34 h18=>
 (ifP r34
 (strCut ⟨#[61,61,61,61,61,61,61,61,61,61,61,61,61,61,61,61,61,61,61,61,61,61,61,61,61,61,61,61,61,61,61,61,61,61,61,61,61,61,61,61,61,61,61,61,61,61,61,61,61,61,61,61,61,61,61,61,61,61,61,61,61,61,61,61,61,61,61,61,61,61,61,61,61,61,61,61,61,61,61,61,61,61,61,61,61,61,61,61,61,61,61,61,61,61,61,61,61,61,61,61,61,61,61,61,61,61,61,61,61,61,61,61,61,61,61,61,61,61,61,61,61,61,61,61,61,61,61,61]⟩ 0 (IntKind.i64.wrap (r3.2)) fun c35=>
 (K c35 h18))
 (ifP (decide ((IntKind.i64.wrap (r3.2))≤64))
 (callP (za6 ⟨#[9,9,9,9,9,9,9,9,9,9,9,9,9,9,9,9,9,9,9,9,9,9,9,9,9,9,9,9,9,9,9,9,9,9,9,9,9,9,9,9,9,9,9,9,9,9,9,9,9,9,9,9,9,9,9,9,9,9,9,9,9,9,9,9]⟩ s) (fun r36 h19=>
 (ifP r36
 (strCut ⟨#[9,9,9,9,9,9,9,9,9,9,9,9,9,9,9,9,9,9,9,9,9,9,9,9,9,9,9,9,9,9,9,9,9,9,9,9,9,9,9,9,9,9,9,9,9,9,9,9,9,9,9,9,9,9,9,9,9,9,9,9,9,9,9,9]⟩ 0 (IntKind.i64.wrap (r3.2)) fun c37=>
 (K c37 h19))
 (k7 () h19))) h18)
 (k7 () h18)))) h17)
 (ifP (decide ((IntKind.i64.wrap (r3.2))≤64))
 (callP (za6 ⟨#[9,9,9,9,9,9,9,9,9,9,9,9,9,9,9,9,9,9,9,9,9,9,9,9,9,9,9,9,9,9,9,9,9,9,9,9,9,9,9,9,9,9,9,9,9,9,9,9,9,9,9,9,9,9,9,9,9,9,9,9,9,9,9,9]⟩ s) (fun r38 h20=>
 (ifP r38
 (strCut ⟨#[9,9,9,9,9,9,9,9,9,9,9,9,9,9,9,9,9,9,9,9,9,9,9,9,9,9,9,9,9,9,9,9,9,9,9,9,9,9,9,9,9,9,9,9,9,9,9,9,9,9,9,9,9,9,9,9,9,9,9,9,9,9,9,9]⟩ 0 (IntKind.i64.wrap (r3.2)) fun c39=>
 (K c39 h20))
 (k7 () h20))) h17)
 (k7 () h17))))) h8)
 (ifP (decide ((IntKind.i64.wrap (r3.2))≤128))
 (callP (za6 ⟨#[61,61,61,61,61,61,61,61,61,61,61,61,61,61,61,61,61,61,61,61,61,61,61,61,61,61,61,61,61,61,61,61,61,61,61,61,61,61,61,61,61,61,61,61,61,61,61,61,61,61,61,61,61,61,61,61,61,61,61,61,61,61,61,61,61,61,61,61,61,61,61,61,61,61,61,61,61,61,61,61,61,61,61,61,61,61,61,61,61,61,61,61,61,61,61,61,61,61,61,61,61,61,61,61,61,61,61,61,61,61,61,61,61,61,61,61,61,61,61,61,61,61,61,61,61,61,61,61]⟩ s) (fun r40 h21=>
 (ifP r40
 (strCut ⟨#[61,61,61,61,61,61,61,61,61,61,61,61,61,61,61,61,61,61,61,61,61,61,61,61,61,61,61,61,61,61,61,61,61,61,61,61,61,61,61,61,61,61,61,61,61,61,61,61,61,61,61,61,61,61,61,61,61,61,61,61,61,61,61,61,61,61,61,61,61,61,61,61,61,61,61,61,61,61,61,61,61,61,61,61,61,61,61,61,61,61,61,61,61,61,61,61,61,61,61,61,61,61,61,61,61,61,61,61,61,61,61,61,61,61,61,61,61,61,61,61,61,61,61,61,61,61,61,61]⟩ 0 (IntKind.i64.wrap (r3.2)) fun c41=>
 (K c41 h21))
 (ifP (decide ((IntKind.i64.wrap (r3.2))≤64))
 (callP (za6 ⟨#[9,9,9,9,9,9,9,9,9,9,9,9,9,9,9,9,9,9,9,9,9,9,9,9,9,9,9,9,9,9,9,9,9,9,9,9,9,9,9,9,9,9,9,9,9,9,9,9,9,9,9,9,9,9,9,9,9,9,9,9,9,9,9,9]⟩ s) (fun r42 h22=>
 (ifP r42
 (strCut ⟨#[9,9,9,9,9,9,9,9,9,9,9,9,9,9,9,9,9,9,9,9,9,9,9,9,9,9,9,9,9,9,9,9,9,9,9,9,9,9,9,9,9,9,9,9,9,9,9,9,9,9,9,9,9,9,9,9,9,9,9,9,9,9,9,9]⟩ 0 (IntKind.i64.wrap (r3.2)) fun c43=>
 (K c43 h22))
 (k7 () h22))) h21)
 (k7 () h21)))) h8)
 (ifP (decide ((IntKind.i64.wrap (r3.2))≤64))
 (callP (za6 ⟨#[9,9,9,9,9,9,9,9,9,9,9,9,9,9,9,9,9,9,9,9,9,9,9,9,9,9,9,9,9,9,9,9,9,9,9,9,9,9,9,9,9,9,9,9,9,9,9,9,9,9,9,9,9,9,9,9,9,9,9,9,9,9,9,9]⟩ s) (fun r44 h23=>
 (ifP r44
 (strCut ⟨#[9,9,9,9,9,9,9,9,9,9,9,9,9,9,9,9,9,9,9,9,9,9,9,9,9,9,9,9,9,9,9,9,9,9,9,9,9,9,9,9,9,9,9,9,9,9,9,9,9,9,9,9,9,9,9,9,9,9,9,9,9,9,9,9]⟩ 0 (IntKind.i64.wrap (r3.2)) fun c45=>
 (K c45 h23))
 (k7 () h23))) h8)
 (k7 () h8))))))) h7)
 (ifP (decide ((IntKind.i64.wrap (r3.2))≤128))
 (callP (za6 ⟨#[45,45,45,45,45,45,45,45,45,45,45,45,45,45,45,45,45,45,45,45,45,45,45,45,45,45,45,45,45,45,45,45,45,45,45,45,45,45,45,45,45,45,45,45,45,45,45,45,45,45,45,45,45,45,45,45,45,45,45,45,45,45,45,45,45,45,45,45,45,45,45,45,45,45,45,45,45,45,45,45,45,45,45,45,45,45,45,45,45,45,45,45,45,45,45,45,45,45,45,45,45,45,45,45,45,45,45,45,45,45,45,45,45,45,45,45,45,45,45,45,45,45,45,45,45,45,45,45]⟩ s) (fun r46 h24=>
 (ifP r46
 (strCut ⟨#[45,45,45,45,45,45,45,45,45,45,45,45,45,45,45,45,45,45,45,45,45,45,45,45,45,45,45,45,45,45,45,45,45,45,45,45,45,45,45,45,45,45,45,45,45,45,45,45,45,45,45,45,45,45,45,45,45,45,45,45,45,45,45,45,45,45,45,45,45,45,45,45,45,45,45,45,45,45,45,45,45,45,45,45,45,45,45,45,45,45,45,45,45,45,45,45,45,45,45,45,45,45,45,45,45,45,45,45,45,45,45,45,45,45,45,45,45,45,45,45,45,45,45,45,45,45,45,45]⟩ 0 (IntKind.i64.wrap (r3.2)) fun c47=>
 (K c47 h24))
 (ifP (decide ((IntKind.i64.wrap (r3.2))≤64))
 (callP (za6 ⟨#[48,48,48,48,48,48,48,48,48,48,48,48,48,48,48,48,48,48,48,48,48,48,48,48,48,48,48,48,48,48,48,48,48,48,48,48,48,48,48,48,48,48,48,48,48,48,48,48,48,48,48,48,48,48,48,48,48,48,48,48,48,48,48,48]⟩ s) (fun r48 h25=>
 (ifP r48
 (strCut ⟨#[48,48,48,48,48,48,48,48,48,48,48,48,48,48,48,48,48,48,48,48,48,48,48,48,48,48,48,48,48,48,48,48,48,48,48,48,48,48,48,48,48,48,48,48,48,48,48,48,48,48,48,48,48,48,48,48,48,48,48,48,48,48,48,48]⟩ 0 (IntKind.i64.wrap (r3.2)) fun c49=>
 (K c49 h25))
 (ifP (decide ((IntKind.i64.wrap (r3.2))≤128))
 (callP (za6 ⟨#[61,61,61,61,61,61,61,61,61,61,61,61,61,61,61,61,61,61,61,61,61,61,61,61,61,61,61,61,61,61,61,61,61,61,61,61,61,61,61,61,61,61,61,61,61,61,61,61,61,61,61,61,61,61,61,61,61,61,61,61,61,61,61,61,61,61,61,61,61,61,61,61,61,61,61,61,61,61,61,61,61,61,61,61,61,61,61,61,61,61,61,61,61,61,61,61,61,61,61,61,61,61,61,61,61,61,61,61,61,61,61,61,61,61,61,61,61,61,61,61,61,61,61,61,61,61,61,61]⟩ s) (fun r50 h26=>
 (ifP r50
 (strCut ⟨#[61,61,61,61,61,61,61,61,61,61,61,61,61,61,61,61,61,61,61,61,61,61,61,61,61,61,61,61,61,61,61,61,61,61,61,61,61,61,61,61,61,61,61,61,61,61,61,61,61,61,61,61,61,61,61,61,61,61,61,61,61,61,61,61,61,61,61,61,61,61,61,61,61,61,61,61,61,61,61,61,61,61,61,61,61,61,61,61,61,61,61,61,61,61,61,61,61,61,61,61,61,61,61,61,61,61,61,61,61,61,61,61,61,61,61,61,61,61,61,61,61,61,61,61,61,61,61,61]⟩ 0 (IntKind.i64.wrap (r3.2)) fun c51=>
 (K c51 h26))
 (ifP (decide ((IntKind.i64.wrap (r3.2))≤64))
 (callP (za6 ⟨#[9,9,9,9,9,9,9,9,9,9,9,9,9,9,9,9,9,9,9,9,9,9,9,9,9,9,9,9,9,9,9,9,9,9,9,9,9,9,9,9,9,9,9,9,9,9,9,9,9,9,9,9,9,9,9,9,9,9,9,9,9,9,9,9]⟩ s) (fun r52 h27=>
 (ifP r52
 (strCut ⟨#[9,9,9,9,9,9,9,9,9,9,9,9,9,9,9,9,9,9,9,9,9,9,9,9,9,9,9,9,9,9,9,9,9,9,9,9,9,9,9,9,9,9,9,9,9,9,9,9,9,9,9,9,9,9,9,9,9,9,9,9,9,9,9,9]⟩ 0 (IntKind.i64.wrap (r3.2)) fun c53=>
 (K c53 h27))
 (k7 () h27))) h26)
 (k7 () h26)))) h25)
 (ifP (decide ((IntKind.i64.wrap (r3.2))≤64))
 (callP (za6 ⟨#[9,9,9,9,9,9,9,9,9,9,9,9,9,9,9,9,9,9,9,9,9,9,9,9,9,9,9,9,9,9,9,9,9,9,9,9,9,9,9,9,9,9,9,9,9,9,9,9,9,9,9,9,9,9,9,9,9,9,9,9,9,9,9,9]⟩ s) (fun r54 h28=>
 (ifP r54
 (strCut ⟨#[9,9,9,9,9,9,9,9,9,9,9,9,9,9,9,9,9,9,9,9,9,9,9,9,9,9,9,9,9,9,9,9,9,9,9,9,9,9,9,9,9,9,9,9,9,9,9,9,9,9,9,9,9,9,9,9,9,9,9,9,9,9,9,9]⟩ 0 (IntKind.i64.wrap (r3.2)) fun c55=>
 (K c55 h28))
 (k7 () h28))) h25)
 (k7 () h25))))) h24)
 (ifP (decide ((IntKind.i64.wrap (r3.2))≤128))
 (callP (za6 ⟨#[61,61,61,61,61,61,61,61,61,61,61,61,61,61,61,61,61,61,61,61,61,61,61,61,61,61,61,61,61,61,61,61,61,61,61,61,61,61,61,61,61,61,61,61,61,61,61,61,61,61,61,61,61,61,61,61,61,61,61,61,61,61,61,61,61,61,61,61,61,61,61,61,61,61,61,61,61,61,61,61,61,61,61,61,61,61,61,61,61,61,61,61,61,61,61,61,61,61,61,61,61,61,61,61,61,61,61,61,61,61,61,61,61,61,61,61,61,61,61,61,61,61,61,61,61,61,61,61]⟩ s) (fun r56 h29=>
 (ifP r56
 (strCut ⟨#[61,61,61,61,61,61,61,61,61,61,61,61,61,61,61,61,61,61,61,61,61,61,61,61,61,61,61,61,61,61,61,61,61,61,61,61,61,61,61,61,61,61,61,61,61,61,61,61,61,61,61,61,61,61,61,61,61,61,61,61,61,61,61,61,61,61,61,61,61,61,61,61,61,61,61,61,61,61,61,61,61,61,61,61,61,61,61,61,61,61,61,61,61,61,61,61,61,61,61,61,61,61,61,61,61,61,61,61,61,61,61,61,61,61,61,61,61,61,61,61,61,61,61,61,61,61,61,61]⟩ 0 (IntKind.i64.wrap (r3.2)) fun c57=>
 (K c57 h29))
 (ifP (decide ((IntKind.i64.wrap (r3.2))≤64))
 (callP (za6 ⟨#[9,9,9,9,9,9,9,9,9,9,9,9,9,9,9,9,9,9,9,9,9,9,9,9,9,9,9,9,9,9,9,9,9,9,9,9,9,9,9,9,9,9,9,9,9,9,9,9,9,9,9,9,9,9,9,9,9,9,9,9,9,9,9,9]⟩ s) (fun r58 h30=>
 (ifP r58
 (strCut ⟨#[9,9,9,9,9,9,9,9,9,9,9,9,9,9,9,9,9,9,9,9,9,9,9,9,9,9,9,9,9,9,9,9,9,9,9,9,9,9,9,9,9,9,9,9,9,9,9,9,9,9,9,9,9,9,9,9,9,9,9,9,9,9,9,9]⟩ 0 (IntKind.i64.wrap (r3.2)) fun c59=>
 (K c59 h30))
 (k7 () h30))) h29)
 (k7 () h29)))) h24)
 (ifP (decide ((IntKind.i64.wrap (r3.2))≤64))
 (callP (za6 ⟨#[9,9,9,9,9,9,9,9,9,9,9,9,9,9,9,9,9,9,9,9,9,9,9,9,9,9,9,9,9,9,9,9,9,9,9,9,9,9,9,9,9,9,9,9,9,9,9,9,9,9,9,9,9,9,9,9,9,9,9,9,9,9,9,9]⟩ s) (fun r60 h31=>
 (ifP r60
 (strCut ⟨#[9,9,9,9,9,9,9,9,9,9,9,9,9,9,9,9,9,9,9,9,9,9,9,9,9,9,9,9,9,9,9,9,9,9,9,9,9,9,9,9,9,9,9,9,9,9,9,9,9,9,9,9,9,9,9,9,9,9,9,9,9,9,9,9]⟩ 0 (IntKind.i64.wrap (r3.2)) fun c61=>
 (K c61 h31))
 (k7 () h31))) h24)
 (k7 () h24)))))) h7)
 (ifP (decide ((IntKind.i64.wrap (r3.2))≤64))
 (callP (za6 ⟨#[48,48,48,48,48,48,48,48,48,48,48,48,48,48,48,48,48,48,48,48,48,48,48,48,48,48,48,48,48,48,48,48,48,48,48,48,48,48,48,48,48,48,48,48,48,48,48,48,48,48,48,48,48,48,48,48,48,48,48,48,48,48,48,48]⟩ s) (fun r62 h32=>
 (ifP r62
 (strCut ⟨#[48,48,48,48,48,48,48,48,48,48,48,48,48,48,48,48,48,48,48,48,48,48,48,48,48,48,48,48,48,48,48,48,48,48,48,48,48,48,48,48,48,48,48,48,48,48,48,48,48,48,48,48,48,48,48,48,48,48,48,48,48,48,48,48]⟩ 0 (IntKind.i64.wrap (r3.2)) fun c63=>
 (K c63 h32))
 (ifP (decide ((IntKind.i64.wrap (r3.2))≤128))
 (callP (za6 ⟨#[61,61,61,61,61,61,61,61,61,61,61,61,61,61,61,61,61,61,61,61,61,61,61,61,61,61,61,61,61,61,61,61,61,61,61,61,61,61,61,61,61,61,61,61,61,61,61,61,61,61,61,61,61,61,61,61,61,61,61,61,61,61,61,61,61,61,61,61,61,61,61,61,61,61,61,61,61,61,61,61,61,61,61,61,61,61,61,61,61,61,61,61,61,61,61,61,61,61,61,61,61,61,61,61,61,61,61,61,61,61,61,61,61,61,61,61,61,61,61,61,61,61,61,61,61,61,61,61]⟩ s) (fun r64 h33=>
 (ifP r64
 (strCut ⟨#[61,61,61,61,61,61,61,61,61,61,61,61,61,61,61,61,61,61,61,61,61,61,61,61,61,61,61,61,61,61,61,61,61,61,61,61,61,61,61,61,61,61,61,61,61,61,61,61,61,61,61,61,61,61,61,61,61,61,61,61,61,61,61,61,61,61,61,61,61,61,61,61,61,61,61,61,61,61,61,61,61,61,61,61,61,61,61,61,61,61,61,61,61,61,61,61,61,61,61,61,61,61,61,61,61,61,61,61,61,61,61,61,61,61,61,61,61,61,61,61,61,61,61,61,61,61,61,61]⟩ 0 (IntKind.i64.wrap (r3.2)) fun c65=>
 (K c65 h33))
 (ifP (decide ((IntKind.i64.wrap (r3.2))≤64))
 (callP (za6 ⟨#[9,9,9,9,9,9,9,9,9,9,9,9,9,9,9,9,9,9,9,9,9,9,9,9,9,9,9,9,9,9,9,9,9,9,9,9,9,9,9,9,9,9,9,9,9,9,9,9,9,9,9,9,9,9,9,9,9,9,9,9,9,9,9,9]⟩ s) (fun r66 h34=>
 (ifP r66
 (strCut ⟨#[9,9,9,9,9,9,9,9,9,9,9,9,9,9,9,9,9,9,9,9,9,9,9,9,9,9,9,9,9,9,9,9,9,9,9,9,9,9,9,9,9,9,9,9,9,9,9,9,9,9,9,9,9,9,9,9,9,9,9,9,9,9,9,9]⟩ 0 (IntKind.i64.wrap (r3.2)) fun c67=>
 (K c67 h34))
 (k7 () h34))) h33)
 (k7 () h33)))) h32)
 (ifP (decide ((IntKind.i64.wrap (r3.2))≤64))
 (callP (za6 ⟨#[9,9,9,9,9,9,9,9,9,9,9,9,9,9,9,9,9,9,9,9,9,9,9,9,9,9,9,9,9,9,9,9,9,9,9,9,9,9,9,9,9,9,9,9,9,9,9,9,9,9,9,9,9,9,9,9,9,9,9,9,9,9,9,9]⟩ s) (fun r68 h35=>
 (ifP r68
 (strCut ⟨#[9,9,9,9,9,9,9,9,9,9,9,9,9,9,9,9,9,9,9,9,9,9,9,9,9,9,9,9,9,9,9,9,9,9,9,9,9,9,9,9,9,9,9,9,9,9,9,9,9,9,9,9,9,9,9,9,9,9,9,9,9,9,9,9]⟩ 0 (IntKind.i64.wrap (r3.2)) fun c69=>
 (K c69 h35))
 (k7 () h35))) h32)
 (k7 () h32))))) h7)
 (ifP (decide ((IntKind.i64.wrap (r3.2))≤128))
 (callP (za6 ⟨#[61,61,61,61,61,61,61,61,61,61,61,61,61,61,61,61,61,61,61,61,61,61,61,61,61,61,61,61,61,61,61,61,61,61,61,61,61,61,61,61,61,61,61,61,61,61,61,61,61,61,61,61,61,61,61,61,61,61,61,61,61,61,61,61,61,61,61,61,61,61,61,61,61,61,61,61,61,61,61,61,61,61,61,61,61,61,61,61,61,61,61,61,61,61,61,61,61,61,61,61,61,61,61,61,61,61,61,61,61,61,61,61,61,61,61,61,61,61,61,61,61,61,61,61,61,61,61,61]⟩ s) (fun r70 h36=>
 (ifP r70
 (strCut ⟨#[61,61,61,61,61,61,61,61,61,61,61,61,61,61,61,61,61,61,61,61,61,61,61,61,61,61,61,61,61,61,61,61,61,61,61,61,61,61,61,61,61,61,61,61,61,61,61,61,61,61,61,61,61,61,61,61,61,61,61,61,61,61,61,61,61,61,61,61,61,61,61,61,61,61,61,61,61,61,61,61,61,61,61,61,61,61,61,61,61,61,61,61,61,61,61,61,61,61,61,61,61,61,61,61,61,61,61,61,61,61,61,61,61,61,61,61,61,61,61,61,61,61,61,61,61,61,61,61]⟩ 0 (IntKind.i64.wrap (r3.2)) fun c71=>
 (K c71 h36))
 (ifP (decide ((IntKind.i64.wrap (r3.2))≤64))
 (callP (za6 ⟨#[9,9,9,9,9,9,9,9,9,9,9,9,9,9,9,9,9,9,9,9,9,9,9,9,9,9,9,9,9,9,9,9,9,9,9,9,9,9,9,9,9,9,9,9,9,9,9,9,9,9,9,9,9,9,9,9,9,9,9,9,9,9,9,9]⟩ s) (fun r72 h37=>
 (ifP r72
 (strCut ⟨#[9,9,9,9,9,9,9,9,9,9,9,9,9,9,9,9,9,9,9,9,9,9,9,9,9,9,9,9,9,9,9,9,9,9,9,9,9,9,9,9,9,9,9,9,9,9,9,9,9,9,9,9,9,9,9,9,9,9,9,9,9,9,9,9]⟩ 0 (IntKind.i64.wrap (r3.2)) fun c73=>
 (K c73 h37))
 (k7 () h37))) h36)
 (k7 () h36)))) h7)
 (ifP (decide ((IntKind.i64.wrap (r3.2))≤64))
 (callP (za6 ⟨#[9,9,9,9,9,9,9,9,9,9,9,9,9,9,9,9,9,9,9,9,9,9,9,9,9,9,9,9,9,9,9,9,9,9,9,9,9,9,9,9,9,9,9,9,9,9,9,9,9,9,9,9,9,9,9,9,9,9,9,9,9,9,9,9]⟩ s) (fun r74 h38=>
 (ifP r74
 (strCut ⟨#[9,9,9,9,9,9,9,9,9,9,9,9,9,9,9,9,9,9,9,9,9,9,9,9,9,9,9,9,9,9,9,9,9,9,9,9,9,9,9,9,9,9,9,9,9,9,9,9,9,9,9,9,9,9,9,9,9,9,9,9,9,9,9,9]⟩ 0 (IntKind.i64.wrap (r3.2)) fun c75=>
 (K c75 h38))
 (k7 () h38))) h7)
 (k7 () h7))))))
 (k7 () h7)))
 (fun k13=>
 (ifP (c11==32)
 (k13 ((c11==32),()) h3)
 (ifP (c11==45)
 (k13 ((c11==45),()) h3)
 (ifP (c11==48)
 (k13 ((c11==48),()) h3)
 (ifP (c11==61)
 (k13 ((c11==61),()) h3)
 (k13 ((c11==9),()) h3))))))))))))
 (fun k5=>
 (ifP (decide (r3.1>0))
 False
 (ifP (decide (r3.2>9223372036854775807))
 False
 (k5 () h2)))))) h1))
 (fun k2=>
 (ifP (decide (count<0))
 False
 (k2 () h))))))
def zgl (a:TInt) (K:ByteArray→Hp→Prop) (h:Hp):Prop:=
 (callP (zac a.mag) (fun r1 h1=>
 (callP (zax r1) (fun r2 h2=>
 (ifP ((r2.len:Int)==0)
 (K ⟨#[48]⟩ h2)
 (loopP (S:=Sl×(Sl×Unit)×Unit) (fun s3 k4 h3=>
 (ifP (decide ((s3.1.len:Int)>0))
 (loopP (S:=Int×Int×Unit) (fun s5 k6 h4=>
 (ifP (decide (s5.2.1≥0))
 (0≤(32:Int) ∧
 (idxP s3.1 s5.2.1 1 fun a7=>
 (ldL (.int .u32) a7 (fun x8=>
 ((1000000000:Int)≠0 ∧
 (idxP s3.1 s5.2.1 1 fun a9=>
 (stP a9 [.int .u32 (IntKind.u32.wrap ((IntKind.u64.wrap (((ibits .or .u64 (IntKind.u64.wrap (s5.1*2 ^ (min (32:Int).toNat IntKind.u64.bits))) (IntKind.u64.wrap (x8))):Int).tdiv 1000000000))))] (fun h5=>
 ((1000000000:Int)≠0 ∧
 (k6 (((ibits .or .u64 (IntKind.u64.wrap (s5.1*2 ^ (min (32:Int).toNat IntKind.u64.bits))) (IntKind.u64.wrap (x8))):Int).tmod 1000000000,(IntKind.i64.wrap (s5.2.1-1)),()) h5))) h4)))) h4)))
 (callP (zac s3.1) (fun r10 h6=>
 (appP 1 4 [.int .u32 0] s3.2.1.1 1 [.int .u32 (IntKind.u32.wrap (s5.1))] (fun w11 h7=>
 (k4 (r10,(w11,()),()) h7)) h6)) h4)))
 (0,(IntKind.i64.wrap ((s3.1.len:Int)-1)),()) h3)
 (newT 239 [.pointer none,.slice nilS.a nilS.len nilS.cap] (fun p12 h8=>
 (joinP (S:=Unit) (fun s13 h9=>
 (callP (zbn s3.2.1.1) (fun r15 h10=>
 (backP (S:=Unit) (.leaf (.int .u32)) r15 (fun i16 v17 s18 k19 h11=>
 (callP (zdo (IntKind.u64.wrap (v17)) 10) (fun r21 h13=>
 (joinP (S:=Unit) (fun s22 h14=>
 (callM (zav (some p12) r21) (fun r24 h15=>
 (k19 () h15)) h14))
 (fun k23=>
 (ifP (decide (i16<(IntKind.i64.wrap ((s3.2.1.1.len:Int)-1))))
 (callP (ze0 ⟨#[48]⟩ (IntKind.i64.wrap (9-((r21:ByteArray).size:Int)))) (fun r25 h16=>
 (callM (zav (some p12) r25) (fun r26 h17=>
 (k23 () h17)) h16)) h13)
 (k23 () h13))))) h11))
 () (fun s20 h12=>
 (callM (zdi (some p12)) (fun r27 h18=>
 (K r27 h18)) h12)) h10)) h9))
 (fun k14=>
 (ifP a.neg
 (callM (zg1 (some p12) 45) (fun r28 h19=>
 (k14 () h19)) h8)
 (k14 () h8))))) h3)))
 (r2,(nilS,()),()) h2))) h1)) h)
def zfv (a:TRat) (K:(ByteArray×Bool)→Hp→Prop) (h:Hp):Prop:=
 (joinP (S:=Unit) (fun s1 h1=>
 (callP (zf8 10) (fun r3 h2=>
 (callP (zdp 1) (fun r4 h3=>
 (loopP (S:=(Bool×Sl×Bool×Sl×Unit)×Int×Unit) (fun s5 k6 h4=>
 (ifP (decide (s5.2.1<40))
 (callP (ziq (⟨s5.1.2.2.1,s5.1.2.2.2.1⟩:TInt) r4) (fun r7 h5=>
 (ifP (r7 != 0)
 (callP (zhq (⟨(⟨s5.1.1,s5.1.2.1⟩:TInt),(⟨s5.1.2.2.1,s5.1.2.2.2.1⟩:TInt)⟩:TRat) r3) (fun r8 h6=>
 (k6 ((r8.num.neg,r8.num.mag,r8.den.neg,r8.den.mag,()),(IntKind.i64.wrap (s5.2.1+1)),()) h6)) h5)
 (callP (zgl (⟨s5.1.1,s5.1.2.1⟩:TInt)) (fun r9 h7=>
 (joinP (S:=ByteArray×Unit) (fun s10 h8=>
 (K (s10.1,decide (((s10.1:ByteArray).size:Int)≤40)) h8))
 (fun k11=>
 (ifP (decide (s5.2.1>0))
 (joinP (S:=ByteArray×Unit) (fun s12 h9=>
 (strCut s12.1 0 (IntKind.i64.wrap (((s12.1:ByteArray).size:Int)-s5.2.1)) fun c14=>
 ((((c14:ByteArray).size+(⟨#[46]⟩:ByteArray).size:Nat):Int)≤9223372036854775807 ∧
 (strCut s12.1 (IntKind.i64.wrap (((s12.1:ByteArray).size:Int)-s5.2.1)) ((s12.1:ByteArray).size:Int) fun c15=>
 ((((((c14:ByteArray)++(⟨#[46]⟩:ByteArray)):ByteArray).size+(c15:ByteArray).size:Nat):Int)≤9223372036854775807 ∧
 (k11 (((((c14:ByteArray)++(⟨#[46]⟩:ByteArray)):ByteArray)++(c15:ByteArray)),()) h9))))))
 (fun k13=>
 (ifP (decide ((IntKind.i64.wrap ((IntKind.i64.wrap (s5.2.1+1))-((r9:ByteArray).size:Int)))>0))
 (callP (ze0 ⟨#[48]⟩ (IntKind.i64.wrap ((IntKind.i64.wrap (s5.2.1+1))-((r9:ByteArray).size:Int)))) (fun r16 h10=>
 ((((r16:ByteArray).size+(r9:ByteArray).size:Nat):Int)≤9223372036854775807 ∧
 (k13 (((r16:ByteArray)++(r9:ByteArray)),()) h10))) h7)
 (k13 (r9,()) h7))))
 (k11 (r9,()) h7))))) h5))) h4)
 (K (emptyS,false) h4)))
 ((a.num.neg,a.num.mag,a.den.neg,a.den.mag,()),0,()) h3)) h2)) h1))
 (fun k2=>
 (callP (zcs a) (fun r17 h11=>
 (ifP (!r17)
 (K (emptyS,false) h11)
 (callP (ze8 a) (fun r18 h12=>
 (ifP (decide (r18<0))
 (K (emptyS,false) h12)
 (k2 () h12))) h11))) h)))
def zg5 (a:TRat) (K:Bool→Hp→Prop) (h:Hp):Prop:=
 (ifP ((a.num.mag.len:Int)==0)
 (ifP ((a.den.mag.len:Int)==0)
 (ifP (!a.num.neg)
 (K (!a.den.neg) h)
 (K false h))
 (K false h))
 (K false h))
def zf5 (Q_formula_formed:TExpr→(Bool→Hp→Prop)→Hp→Prop) (x:TExpr) (K:Bool→Hp→Prop) (h:Hp):Prop:=
 (callP (Q_formula_formed x) (fun r1 h1=>
 (K (!r1) h1)) h)
def zbl (Q_formula_formed:TExpr→(Bool→Hp→Prop)→Hp→Prop) (s:Sl) (K:Int→Hp→Prop) (h:Hp):Prop:=
 (loopP (S:=Int×Unit) (fun s1 k2 h1=>
 (ifP (decide (s1.1<(s.len:Int)))
 (idxP s s1.1 7 fun a3=>
 (ldL (.int .i64) (a3.add 0) (fun x4_0=>
 (ldL (.bool) (a3.add 1) (fun x4_1=>
 (ldL (.sl) (a3.add 2) (fun x4_2=>
 (ldL (.bool) (a3.add 3) (fun x4_3=>
 (ldL (.sl) (a3.add 4) (fun x4_4=>
 (ldL (.str) (a3.add 5) (fun x4_5=>
 (ldL (.sl) (a3.add 6) (fun x4_6=>
 (callP ((zf5 Q_formula_formed) (⟨x4_0,(⟨(⟨x4_1,x4_2⟩:TInt),(⟨x4_3,x4_4⟩:TInt)⟩:TRat),x4_5,x4_6⟩:TExpr)) (fun r5 h2=>
 (ifP r5
 (K s1.1 h2)
 (k2 ((IntKind.i64.wrap (s1.1+1)),()) h2))) h1)) h1)) h1)) h1)) h1)) h1)) h1)) h1))
 (K (-1) h1)))
 (0,()) h)
def zbc (Q_formula_formed:TExpr→(Bool→Hp→Prop)→Hp→Prop) (s:Sl) (K:Bool→Hp→Prop) (h:Hp):Prop:=
 (callP ((zbl Q_formula_formed) s) (fun r1 h1=>
 (K (decide (r1≥0)) h1)) h)
def zce:Nat→TExpr→(Bool→Hp→Prop)→Hp→Prop
 | 0,_,_,_=>False
 | fuel+1,e,K,h=>
 (joinP (S:=Unit) (fun s1 h1=>
 (ifP (e.op==1)
 (callP (zfv e.value) (fun r3 h2=>
 (ifP r3.2
 (ifP ((e.name:ByteArray).toList==(emptyS:ByteArray).toList)
 (K true h2)
 (callP (zeq e.name) (fun r4 h3=>
 (K r4 h3)) h2))
 (K false h2))) h1)
 (ifP (e.op==2)
 (callP (zg5 e.value) (fun r5 h4=>
 (ifP r5
 (callP (zeq e.name) (fun r6 h5=>
 (K r6 h5)) h4)
 (K false h4))) h1)
 (callP (zg5 e.value) (fun r7 h6=>
 (ifP r7
 (ifP ((e.name:ByteArray).toList==(emptyS:ByteArray).toList)
 (callP ((zbc (zce fuel)) e.args) (fun r8 h7=>
 (K (!r8) h7)) h6)
 (K false h6))
 (K false h6))) h1))))
 (fun k2=>
 (ifP (decide (e.op<1))
 (K false h)
 (ifP (decide (e.op>7))
 (K false h)
 (idxC e.op 8
 (ldL (.int .i64) ((⟨2,0,none⟩:Addr).add ((e.op:Int).toNat*1)) (fun x9=>
 (ifP ((e.args.len:Int) != x9)
 (K false h)
 (k2 () h))) h))))))
def zgj (e:TExpr) (K:Bool→Hp→Prop) (h:Hp):Prop:=∃fuel,zce fuel e K h
def zda:Nat→TExpr→(Int→Hp→Prop)→Hp→Prop
 | 0,_,_,_=>False
 | fuel+1,e,K,h=>
 (loopP (S:=Int×Int×Unit) (fun s1 k2 h1=>
 (ifP (decide (s1.2.1<(e.args.len:Int)))
 (idxP e.args s1.2.1 7 fun a3=>
 (ldL (.int .i64) (a3.add 0) (fun x4_0=>
 (ldL (.bool) (a3.add 1) (fun x4_1=>
 (ldL (.sl) (a3.add 2) (fun x4_2=>
 (ldL (.bool) (a3.add 3) (fun x4_3=>
 (ldL (.sl) (a3.add 4) (fun x4_4=>
 (ldL (.str) (a3.add 5) (fun x4_5=>
 (ldL (.sl) (a3.add 6) (fun x4_6=>
 (callP ((zda fuel) (⟨x4_0,(⟨(⟨x4_1,x4_2⟩:TInt),(⟨x4_3,x4_4⟩:TInt)⟩:TRat),x4_5,x4_6⟩:TExpr)) (fun r5 h2=>
 (k2 (maxI s1.1 r5,(IntKind.i64.wrap (s1.2.1+1)),()) h2)) h1)) h1)) h1)) h1)) h1)) h1)) h1)) h1))
 (K (IntKind.i64.wrap (s1.1+1)) h1)))
 (0,0,()) h)
def zgw (e:TExpr) (K:Int→Hp→Prop) (h:Hp):Prop:=∃fuel,zda fuel e K h
def zgx (e:TExpr) (K:Int→Hp→Prop) (h:Hp):Prop:=
 (callP (zgj e) (fun r1 h1=>
 (ifP (!r1)
 (K 1 h1)
 (callP (zgw e) (fun r2 h2=>
 (ifP (decide (r2>40))
 (K 3 h2)
 (K 0 h2))) h1))) h)
def zea (e:TExpr) (K:Bool→Hp→Prop) (h:Hp):Prop:=
 (callP (zgx e) (fun r1 h1=>
 (K (r1 != 0) h1)) h)
def zbg (s:Sl) (K:Int→Hp→Prop) (h:Hp):Prop:=
 (loopP (S:=Int×Unit) (fun s1 k2 h1=>
 (ifP (decide (s1.1<(s.len:Int)))
 (idxP s s1.1 7 fun a3=>
 (ldL (.int .i64) (a3.add 0) (fun x4_0=>
 (ldL (.bool) (a3.add 1) (fun x4_1=>
 (ldL (.sl) (a3.add 2) (fun x4_2=>
 (ldL (.bool) (a3.add 3) (fun x4_3=>
 (ldL (.sl) (a3.add 4) (fun x4_4=>
 (ldL (.str) (a3.add 5) (fun x4_5=>
 (ldL (.sl) (a3.add 6) (fun x4_6=>
 (callP (zea (⟨x4_0,(⟨(⟨x4_1,x4_2⟩:TInt),(⟨x4_3,x4_4⟩:TInt)⟩:TRat),x4_5,x4_6⟩:TExpr)) (fun r5 h2=>
 (ifP r5
 (K s1.1 h2)
 (k2 ((IntKind.i64.wrap (s1.1+1)),()) h2))) h1)) h1)) h1)) h1)) h1)) h1)) h1)) h1))
 (K (-1) h1)))
 (0,()) h)
def zar (s:Sl) (K:Bool→Hp→Prop) (h:Hp):Prop:=
 (callP (zbg s) (fun r1 h1=>
 (K (decide (r1≥0)) h1)) h)
def zf2 (l:Sl) (K:Bool→Hp→Prop) (h:Hp):Prop:=
 (idxP l 0 1 fun a1=>
 (ldL (.int .i64) a1 (fun x2=>
 (idxP l 1 1 fun a3=>
 (ldL (.int .i64) a3 (fun x4=>
 (idxP l 2 1 fun a5=>
 (ldL (.int .i64) a5 (fun x6=>
 (idxP l 3 1 fun a7=>
 (ldL (.int .i64) a7 (fun x8=>
 (ifP (x2 != x4)
 (ifP (x6 != x8)
 (ifP (x2==x6)
 (ifP (!(x4==x8))
 (ifP (x2==x8)
 (K (!(x4==x6)) h)
 (K (!false) h))
 (K false h))
 (ifP (x2==x8)
 (K (!(x4==x6)) h)
 (K (!false) h)))
 (K false h))
 (K false h))) h))) h))) h))) h))
def zd3 (s:Sl) (v:Int) (K:Int→Hp→Prop) (h:Hp):Prop:=
 (loopP (S:=Int×Unit) (fun s1 k2 h1=>
 (ifP (decide (s1.1<(s.len:Int)))
 (idxP s s1.1 1 fun a3=>
 (ldL (.int .i64) a3 (fun x4=>
 (ifP (v==x4)
 (K s1.1 h1)
 (k2 ((IntKind.i64.wrap (s1.1+1)),()) h1))) h1))
 (K (-1) h1)))
 (0,()) h)
def zb1 (s:Sl) (v:Int) (K:Bool→Hp→Prop) (h:Hp):Prop:=
 (callP (zd3 s v) (fun r1 h1=>
 (K (decide (r1≥0)) h1)) h)
def zcv (l:Sl) (K:Bool→Hp→Prop) (h:Hp):Prop:=
 (loopP (S:=Int×Unit) (fun s1 k2 h1=>
 (ifP (decide (s1.1<(l.len:Int)))
 (idxP l s1.1 1 fun a3=>
 (ldL (.int .i64) a3 (fun x4=>
 (slP l 0 s1.1 1 fun c5=>
 (callP (zb1 c5 x4) (fun r6 h2=>
 (ifP r6
 (K false h2)
 (k2 ((IntKind.i64.wrap (s1.1+1)),()) h2))) h1))) h1))
 (K true h1)))
 (0,()) h)
def zfu (i:Int) (v0:(Option Addr)) (K:Bool→Hp→Prop) (h:Hp):Prop:=
 (ifP (decide (i<0))
 (K true h)
 (ptrK v0 fun p1=>
 (ldL (.int .i64) p1 (fun x2=>
 (K (decide (i≥x2)) h)) h)))
def zby (s:Sl) (f1:(Option Addr×Unit)) (K:Int→Hp→Prop) (h:Hp):Prop:=
 (loopP (S:=Int×Unit) (fun s1 k2 h1=>
 (ifP (decide (s1.1<(s.len:Int)))
 (idxP s s1.1 1 fun a3=>
 (ldL (.int .i64) a3 (fun x4=>
 (callP (zfu x4 f1.1) (fun r5 h2=>
 (ifP r5
 (K s1.1 h2)
 (k2 ((IntKind.i64.wrap (s1.1+1)),()) h2))) h1)) h1))
 (K (-1) h1)))
 (0,()) h)
def zbs (s:Sl) (f1:(Option Addr×Unit)) (K:Bool→Hp→Prop) (h:Hp):Prop:=
 (callP (zby s (f1.1,())) (fun r1 h1=>
 (K (decide (r1≥0)) h1)) h)
def zdx (l:Sl) (n:Int) (most:Int) (K:Bool→Hp→Prop) (h:Hp):Prop:=
 (newP [.int .i64 most] (fun p1 h1=>
 (ifP ((l.len:Int)==n)
 (callP (zbs l ((some p1),())) (fun r2 h2=>
 (K (!r2) h2)) h1)
 (K false h1))) h)
def zf1 (c:TConstraint) (points:Int) (circles:Int) (K:Bool→Hp→Prop) (h:Hp):Prop:=
 (callP (zdk c.kind) (fun r1 h1=>
 (joinP (S:=Unit) (fun s2 h2=>
 (callP (zar c.values) (fun r4 h3=>
 (ifP r4
 (K false h3)
 (joinP (S:=Unit) (fun s5 h4=>
 (joinP (S:=Bool×Unit) (fun s7 h5=>
 (ifP s7.1
 (callP (zf2 c.points) (fun r9 h6=>
 (K r9 h6)) h5)
 (callP (zcv c.points) (fun r10 h7=>
 (ifP r10
 (callP (zcv c.circles) (fun r11 h8=>
 (K r11 h8)) h7)
 (K false h7))) h5)))
 (fun k8=>
 (ifP (c.kind==5)
 (k8 ((c.kind==5),()) h4)
 (ifP (c.kind==6)
 (k8 ((c.kind==6),()) h4)
 (ifP (c.kind==7)
 (k8 ((c.kind==7),()) h4)
 (k8 ((c.kind==8),()) h4)))))))
 (fun k6=>
 (ifP r1.1.side
 (ifP (c.side != 1)
 (ifP (c.side != (-1))
 (K false h3)
 (ifP (!r1.1.side)
 (ifP (c.side != 0)
 (K false h3)
 (k6 () h3))
 (k6 () h3)))
 (ifP (!r1.1.side)
 (ifP (c.side != 0)
 (K false h3)
 (k6 () h3))
 (k6 () h3)))
 (ifP (!r1.1.side)
 (ifP (c.side != 0)
 (K false h3)
 (k6 () h3))
 (k6 () h3))))))) h2))
 (fun k3=>
 (ifP (!r1.2)
 (K false h1)
 (callP (zdx c.points r1.1.points points) (fun r12 h9=>
 (ifP (!r12)
 (K false h9)
 (callP (zdx c.circles r1.1.circles circles) (fun r13 h10=>
 (ifP (!r13)
 (K false h10)
 (ifP ((c.values.len:Int) != r1.1.values)
 (K false h10)
 (k3 () h10)))) h9))) h1))))) h)
def zih (c:TConstraint) (v0:(Option Addr)) (v1:(Option Addr)) (K:Bool→Hp→Prop) (h:Hp):Prop:=
 (ptrK v0 fun p1=>
 (ldL (.int .i64) p1 (fun x2=>
 (ptrK v1 fun p3=>
 (ldL (.int .i64) p3 (fun x4=>
 (callP (zf1 c x2 x4) (fun r5 h1=>
 (K r5 h1)) h)) h))) h))
def zc3 (x:TConstraint) (v0:(Option Addr)) (K:Bool→Hp→Prop) (h:Hp):Prop:=
 (ptrK v0 fun p1=>
 (ldL (.val) p1 (fun x2=>
 ∃c3:Option Addr,∃c4:Option Addr,(x2=.func (.func 130) #[] #[.pointer c3,.pointer c4] ∧
 (callP (zih x c3 c4) (fun r5 h1=>
 (K (!r5) h1)) h))) h))
def zaf (s:Sl) (f1:(Option Addr×Unit)) (K:Int→Hp→Prop) (h:Hp):Prop:=
 (loopP (S:=Int×Unit) (fun s1 k2 h1=>
 (ifP (decide (s1.1<(s.len:Int)))
 (idxP s s1.1 5 fun a3=>
 (ldL (.int .i64) (a3.add 0) (fun x4_0=>
 (ldL (.sl) (a3.add 1) (fun x4_1=>
 (ldL (.sl) (a3.add 2) (fun x4_2=>
 (ldL (.sl) (a3.add 3) (fun x4_3=>
 (ldL (.int .i64) (a3.add 4) (fun x4_4=>
 (callP (zc3 (⟨x4_0,x4_1,x4_2,x4_3,x4_4⟩:TConstraint) f1.1) (fun r5 h2=>
 (ifP r5
 (K s1.1 h2)
 (k2 ((IntKind.i64.wrap (s1.1+1)),()) h2))) h1)) h1)) h1)) h1)) h1)) h1))
 (K (-1) h1)))
 (0,()) h)
def zad (s:Sl) (f1:(Option Addr×Unit)) (K:Bool→Hp→Prop) (h:Hp):Prop:=
 (callP (zaf s (f1.1,())) (fun r1 h1=>
 (K (decide (r1≥0)) h1)) h)
def zbo (l:Sl) (f1:(Option Addr×Option Addr×Unit)) (K:Bool→Hp→Prop) (h:Hp):Prop:=
 (newP [.func (.func 130) #[] #[.pointer f1.1,.pointer f1.2.1]] (fun p1 h1=>
 (callP (zad l ((some p1),())) (fun r2 h2=>
 (K (!r2) h2)) h1)) h)
def ze7 (s:TSketch) (K:Int→Hp→Prop) (h:Hp):Prop:=
 (newP [.slice s.points.a s.points.len s.points.cap,.slice s.circles.a s.circles.len s.circles.cap,.slice s.segments.a s.segments.len s.segments.cap,.slice s.arcs.a s.arcs.len s.arcs.cap,.slice s.chains.a s.chains.len s.chains.cap,.slice s.constraints.a s.constraints.len s.constraints.cap] (fun p1 h1=>
 (ldL (.sl) (p1.add 0) (fun x2_0=>
 (ldL (.sl) (p1.add 1) (fun x2_1=>
 (ldL (.sl) (p1.add 2) (fun x2_2=>
 (ldL (.sl) (p1.add 3) (fun x2_3=>
 (ldL (.sl) (p1.add 4) (fun x2_4=>
 (ldL (.sl) (p1.add 5) (fun x2_5=>
 (callP (zgo (⟨x2_0,x2_1,x2_2,x2_3,x2_4,x2_5⟩:TSketch)) (fun r3 h2=>
 (ifP r3
 (K 3 h2)
 (ldL (.sl) (p1.add 0) (fun x4=>
 (ldL (.sl) (p1.add 1) (fun x5=>
 (newP [.int .i64 (x4.len:Int)] (fun p6 h3=>
 (newP [.int .i64 (x5.len:Int)] (fun p7 h4=>
 (joinP (S:=Bool×Unit) (fun s8 h5=>
 (ifP (!s8.1)
 (K 1 h5)
 (K 0 h5)))
 (fun k9=>
 (ldL (.sl) (p1.add 0) (fun x10=>
 (callP (zc0 x10) (fun r11 h6=>
 (ifP r11
 (ldL (.sl) (p1.add 1) (fun x12=>
 (callP (zc1 x12 ((some p6),())) (fun r13 h7=>
 (ifP r13
 (ldL (.sl) (p1.add 2) (fun x14=>
 (callP (zbt x14 ((some p6),())) (fun r15 h8=>
 (ifP r15
 (ldL (.sl) (p1.add 3) (fun x16=>
 (callP (zc5 x16 ((some p1),())) (fun r17 h9=>
 (ifP r17
 (ldL (.sl) (p1.add 4) (fun x18=>
 (callP (zbz x18 ((some p1),())) (fun r19 h10=>
 (ifP r19
 (ldL (.sl) (p1.add 5) (fun x20=>
 (callP (zbo x20 ((some p6),(some p7),())) (fun r21 h11=>
 (k9 (r21,()) h11)) h10)) h10)
 (k9 (false,()) h10))) h9)) h9)
 (k9 (false,()) h9))) h8)) h8)
 (k9 (false,()) h8))) h7)) h7)
 (k9 (false,()) h7))) h6)) h6)
 (k9 (false,()) h6))) h4)) h4)))) h3)) h2)) h2)) h2))) h1)) h1)) h1)) h1)) h1)) h1)) h1)) h)
def zd2 (s1:Sl) (s2:Sl) (K:Bool→Hp→Prop) (h:Hp):Prop:=
 (ifP ((s1.len:Int) != (s2.len:Int))
 (K false h)
 (loopP (S:=Int×Unit) (fun s3 k4 h1=>
 (ifP (decide (s3.1<(s1.len:Int)))
 (idxP s1 s3.1 1 fun a5=>
 (ldL (.int .i64) a5 (fun x6=>
 (idxP s2 s3.1 1 fun a7=>
 (ldL (.int .i64) a7 (fun x8=>
 (ifP (x6 != x8)
 (K false h1)
 (k4 ((IntKind.i64.wrap (s3.1+1)),()) h1))) h1))) h1))
 (K true h1)))
 (0,()) h))
def zfl (s1:Sl) (s2:Sl) (K:Bool→Hp→Prop) (h:Hp):Prop:=
 (ifP ((s1.len:Int) != (s2.len:Int))
 (K false h)
 (loopP (S:=Int×Unit) (fun s3 k4 h1=>
 (ifP (decide (s3.1<(s1.len:Int)))
 (idxP s1 s3.1 1 fun a5=>
 (ldL (.int .u32) a5 (fun x6=>
 (idxP s2 s3.1 1 fun a7=>
 (ldL (.int .u32) a7 (fun x8=>
 (ifP (x6 != x8)
 (K false h1)
 (k4 ((IntKind.i64.wrap (s3.1+1)),()) h1))) h1))) h1))
 (K true h1)))
 (0,()) h))
def zh4 (a:TInt) (b:TInt) (K:Bool→Hp→Prop) (h:Hp):Prop:=
 (ifP (a.neg==b.neg)
 (callP (zfl a.mag b.mag) (fun r1 h1=>
 (K r1 h1)) h)
 (K false h))
def zm9 (Q_slices_EqualFunc_api_Expr_api_Expr_api_Expr_api_Expr_formula_Equal:Sl→Sl→(Bool→Hp→Prop)→Hp→Prop) (a:TExpr) (b:TExpr) (K:Bool→Hp→Prop) (h:Hp):Prop:=
 (ifP (a.op==b.op)
 (ifP ((a.name:ByteArray).toList==(b.name:ByteArray).toList)
 (callP (zh4 a.value.num b.value.num) (fun r1 h1=>
 (ifP r1
 (callP (zh4 a.value.den b.value.den) (fun r2 h2=>
 (ifP r2
 (callP (Q_slices_EqualFunc_api_Expr_api_Expr_api_Expr_api_Expr_formula_Equal a.args b.args) (fun r3 h3=>
 (K r3 h3)) h2)
 (K false h2))) h1)
 (K false h1))) h)
 (K false h))
 (K false h))
def za8:Nat→Sl→Sl→(Bool→Hp→Prop)→Hp→Prop
 | 0,_,_,_,_=>False
 | fuel+1,s1,s2,K,h=>
 (ifP ((s1.len:Int) != (s2.len:Int))
 (K false h)
 (loopP (S:=Int×Unit) (fun s3 k4 h1=>
 (ifP (decide (s3.1<(s1.len:Int)))
 (idxP s1 s3.1 7 fun a5=>
 (ldL (.int .i64) (a5.add 0) (fun x6_0=>
 (ldL (.bool) (a5.add 1) (fun x6_1=>
 (ldL (.sl) (a5.add 2) (fun x6_2=>
 (ldL (.bool) (a5.add 3) (fun x6_3=>
 (ldL (.sl) (a5.add 4) (fun x6_4=>
 (ldL (.str) (a5.add 5) (fun x6_5=>
 (ldL (.sl) (a5.add 6) (fun x6_6=>
 (idxP s2 s3.1 7 fun a7=>
 (ldL (.int .i64) (a7.add 0) (fun x8_0=>
 (ldL (.bool) (a7.add 1) (fun x8_1=>
 (ldL (.sl) (a7.add 2) (fun x8_2=>
 (ldL (.bool) (a7.add 3) (fun x8_3=>
 (ldL (.sl) (a7.add 4) (fun x8_4=>
 (ldL (.str) (a7.add 5) (fun x8_5=>
 (ldL (.sl) (a7.add 6) (fun x8_6=>
 (callP ((zm9 (za8 fuel)) (⟨x6_0,(⟨(⟨x6_1,x6_2⟩:TInt),(⟨x6_3,x6_4⟩:TInt)⟩:TRat),x6_5,x6_6⟩:TExpr) (⟨x8_0,(⟨(⟨x8_1,x8_2⟩:TInt),(⟨x8_3,x8_4⟩:TInt)⟩:TRat),x8_5,x8_6⟩:TExpr)) (fun r9 h2=>
 (ifP (!r9)
 (K false h2)
 (k4 ((IntKind.i64.wrap (s3.1+1)),()) h2))) h1)) h1)) h1)) h1)) h1)) h1)) h1)) h1))) h1)) h1)) h1)) h1)) h1)) h1)) h1))
 (K true h1)))
 (0,()) h))
def zaw (s1:Sl) (s2:Sl) (K:Bool→Hp→Prop) (h:Hp):Prop:=∃fuel,za8 fuel s1 s2 K h
def zf0 (a:TConstraint) (b:TConstraint) (K:Bool→Hp→Prop) (h:Hp):Prop:=
 (ifP (a.kind==b.kind)
 (ifP (a.side==b.side)
 (callP (zd2 a.points b.points) (fun r1 h1=>
 (ifP r1
 (callP (zd2 a.circles b.circles) (fun r2 h2=>
 (ifP r2
 (callP (zaw a.values b.values) (fun r3 h3=>
 (K r3 h3)) h2)
 (K false h2))) h1)
 (K false h1))) h)
 (K false h))
 (K false h))
def zf9 (d:TConstraint) (v0:(Option Addr)) (K:Bool→Hp→Prop) (h:Hp):Prop:=
 (ptrK v0 fun p1=>
 (ldL (.int .i64) (p1.add 0) (fun x2_0=>
 (ldL (.sl) (p1.add 1) (fun x2_1=>
 (ldL (.sl) (p1.add 2) (fun x2_2=>
 (ldL (.sl) (p1.add 3) (fun x2_3=>
 (ldL (.int .i64) (p1.add 4) (fun x2_4=>
 (callP (zf0 (⟨x2_0,x2_1,x2_2,x2_3,x2_4⟩:TConstraint) d) (fun r3 h1=>
 (K r3 h1)) h)) h)) h)) h)) h)) h))
def zb2 (s:Sl) (f1:(Option Addr×Unit)) (K:Int→Hp→Prop) (h:Hp):Prop:=
 (loopP (S:=Int×Unit) (fun s1 k2 h1=>
 (ifP (decide (s1.1<(s.len:Int)))
 (idxP s s1.1 5 fun a3=>
 (ldL (.int .i64) (a3.add 0) (fun x4_0=>
 (ldL (.sl) (a3.add 1) (fun x4_1=>
 (ldL (.sl) (a3.add 2) (fun x4_2=>
 (ldL (.sl) (a3.add 3) (fun x4_3=>
 (ldL (.int .i64) (a3.add 4) (fun x4_4=>
 (callP (zf9 (⟨x4_0,x4_1,x4_2,x4_3,x4_4⟩:TConstraint) f1.1) (fun r5 h2=>
 (ifP r5
 (K s1.1 h2)
 (k2 ((IntKind.i64.wrap (s1.1+1)),()) h2))) h1)) h1)) h1)) h1)) h1)) h1))
 (K (-1) h1)))
 (0,()) h)
def za9 (s:Sl) (f1:(Option Addr×Unit)) (K:Bool→Hp→Prop) (h:Hp):Prop:=
 (callP (zb2 s (f1.1,())) (fun r1 h1=>
 (K (decide (r1≥0)) h1)) h)
def zev (s:TSketch) (K:Sl→Hp→Prop) (h:Hp):Prop:=
 (loopP (S:=Sl×Int×Unit) (fun s1 k2 h1=>
 (ifP (decide (s1.2.1<(s.arcs.len:Int)))
 (idxP s.arcs s1.2.1 4 fun a3=>
 (ldL (.int .i64) (a3.add 0) (fun x4_0=>
 (ldL (.int .i64) (a3.add 1) (fun x4_1=>
 (ldL (.int .i64) (a3.add 2) (fun x4_2=>
 (ldL (.bool) (a3.add 3) (fun x4_3=>
 (newP [.int .i64 x4_1,.int .i64 x4_2] (fun p5 h2=>
 (loopP (S:=Sl×Int×Unit) (fun s6 k7 h3=>
 (ifP (decide (s6.2.1<((⟨some p5,2,2⟩:Sl).len:Int)))
 (joinP (S:=Sl×Unit) (fun s8 h4=>
 (k7 (s8.1,(IntKind.i64.wrap (s6.2.1+1)),()) h4))
 (fun k9=>
 (idxP (⟨some p5,2,2⟩:Sl) s6.2.1 1 fun a10=>
 (ldL (.int .i64) a10 (fun x11=>
 (newP [.int .i64 x11] (fun p12 h5=>
 (newP [.int .i64 x4_0] (fun p13 h6=>
 (newP [.int .i64 0,.slice nilS.a nilS.len nilS.cap,.slice nilS.a nilS.len nilS.cap,.slice nilS.a nilS.len nilS.cap,.int .i64 0] (fun p14 h7=>
 (stP p14 [.int .i64 13,.slice (⟨some p12,1,1⟩:Sl).a (⟨some p12,1,1⟩:Sl).len (⟨some p12,1,1⟩:Sl).cap,.slice (⟨some p13,1,1⟩:Sl).a (⟨some p13,1,1⟩:Sl).len (⟨some p13,1,1⟩:Sl).cap,.slice nilS.a nilS.len nilS.cap,.int .i64 0] (fun h8=>
 (callP (za9 s.constraints ((some p14),())) (fun r15 h9=>
 (ifP (!r15)
 (callP (za9 s6.1 ((some p14),())) (fun r16 h10=>
 (ifP (!r16)
 (ldL (.int .i64) (p14.add 0) (fun x17_0=>
 (ldL (.sl) (p14.add 1) (fun x17_1=>
 (ldL (.sl) (p14.add 2) (fun x17_2=>
 (ldL (.sl) (p14.add 3) (fun x17_3=>
 (ldL (.int .i64) (p14.add 4) (fun x17_4=>
 (appP 5 88 [.int .i64 0,.slice nilS.a nilS.len nilS.cap,.slice nilS.a nilS.len nilS.cap,.slice nilS.a nilS.len nilS.cap,.int .i64 0] s6.1 1 [.int .i64 x17_0,.slice x17_1.a x17_1.len x17_1.cap,.slice x17_2.a x17_2.len x17_2.cap,.slice x17_3.a x17_3.len x17_3.cap,.int .i64 x17_4] (fun w18 h11=>
 (k9 (w18,()) h11)) h10)) h10)) h10)) h10)) h10)) h10)
 (k9 (s6.1,()) h10))) h9)
 (k9 (s6.1,()) h9))) h8)) h7)) h6)) h5)) h3)) h3))))
 (k2 (s6.1,(IntKind.i64.wrap (s1.2.1+1)),()) h3)))
 (s1.1,0,()) h2)) h1)) h1)) h1)) h1)) h1))
 (K s1.1 h1)))
 (nilS,0,()) h)
def zbk (s:Sl) (n:Int) (K:Sl→Hp→Prop) (h:Hp):Prop:=
 (joinP (S:=Unit) (fun s1 h1=>
 (ifP (decide ((IntKind.i64.wrap (n-(IntKind.i64.wrap ((s.cap:Int)-(s.len:Int)))))>0))
 (slP s 0 (s.cap:Int) 5 fun c3=>
 (0≤((IntKind.i64.wrap (n-(IntKind.i64.wrap ((s.cap:Int)-(s.len:Int))))):Int) ∧
 (appP 5 88 [.int .i64 0,.slice nilS.a nilS.len nilS.cap,.slice nilS.a nilS.len nilS.cap,.slice nilS.a nilS.len nilS.cap,.int .i64 0] c3 (((IntKind.i64.wrap (n-(IntKind.i64.wrap ((s.cap:Int)-(s.len:Int))))):Int).toNat) (repl ((IntKind.i64.wrap (n-(IntKind.i64.wrap ((s.cap:Int)-(s.len:Int))))):Int).toNat [.int .i64 0,.slice nilS.a nilS.len nilS.cap,.slice nilS.a nilS.len nilS.cap,.slice nilS.a nilS.len nilS.cap,.int .i64 0]) (fun w4 h2=>
 (slP w4 0 (s.len:Int) 5 fun c5=>
 (K c5 h2))) h1)))
 (K s h1)))
 (fun k2=>
 (ifP (decide (n<0))
 False
 (k2 () h))))
def zbf (slices:Sl) (K:Sl→Hp→Prop) (h:Hp):Prop:=
 (loopP (S:=Int×Int×Unit) (fun s1 k2 h1=>
 (ifP (decide (s1.2.1<(slices.len:Int)))
 (joinP (S:=Int×Unit) (fun s3 h2=>
 (k2 (s3.1,(IntKind.i64.wrap (s1.2.1+1)),()) h2))
 (fun k4=>
 (idxP slices s1.2.1 1 fun a5=>
 (ldL (.sl) a5 (fun x6=>
 (ifP (decide ((IntKind.i64.wrap (s1.1+(x6.len:Int)))<0))
 False
 (k4 ((IntKind.i64.wrap (s1.1+(x6.len:Int))),()) h1))) h1))))
 (callP (zbk nilS s1.1) (fun r7 h3=>
 (loopP (S:=Sl×Int×Unit) (fun s8 k9 h4=>
 (ifP (decide (s8.2.1<(slices.len:Int)))
 (idxP slices s8.2.1 1 fun a10=>
 (ldL (.sl) a10 (fun x11=>
 (rdO x11.a (x11.len*5) (fun vs12=>
 (appP 5 88 [.int .i64 0,.slice nilS.a nilS.len nilS.cap,.slice nilS.a nilS.len nilS.cap,.slice nilS.a nilS.len nilS.cap,.int .i64 0] s8.1 x11.len vs12 (fun w13 h5=>
 (k9 (w13,(IntKind.i64.wrap (s8.2.1+1)),()) h5)) h4)) h4)) h4))
 (K s8.1 h4)))
 (r7,0,()) h3)) h1)))
 (0,0,()) h)
def zd1 (s:Sl) (K:Sl→Hp→Prop) (h:Hp):Prop:=
 (ifP s.a.isNone
 (K nilS h)
 (newP [] (fun p1 h1=>
 (rdO s.a (s.len*1) (fun vs2=>
 (appP 1 8 [.int .i64 0] (⟨some p1,0,0⟩:Sl) s.len vs2 (fun w3 h2=>
 (K w3 h2)) h1)) h1)) h))
def zel (s:TSketch) (K:(Option Addr)→Hp→Prop) (h:Hp):Prop:=
 (callP (zev s) (fun r1 h1=>
 (newP [.slice s.constraints.a s.constraints.len s.constraints.cap,.slice r1.a r1.len r1.cap] (fun p2 h2=>
 (callP (zbf (⟨some p2,2,2⟩:Sl)) (fun r3 h3=>
 (newP [.slice s.points.a s.points.len s.points.cap,.slice s.circles.a s.circles.len s.circles.cap,.slice s.segments.a s.segments.len s.segments.cap,.slice s.arcs.a s.arcs.len s.arcs.cap,.slice s.chains.a s.chains.len s.chains.cap,.slice s.constraints.a s.constraints.len s.constraints.cap,.slice r3.a r3.len r3.cap,.slice nilS.a nilS.len nilS.cap,.slice nilS.a nilS.len nilS.cap] (fun p4 h4=>
 (loopP (S:=Int×Unit) (fun s5 k6 h5=>
 (ifP (decide (s5.1<(s.circles.len:Int)))
 (idxP s.circles s5.1 5 fun a7=>
 (ldL (.int .i64) (a7.add 0) (fun x8_0=>
 (ldL (.bool) (a7.add 1) (fun x8_1=>
 (ldL (.sl) (a7.add 2) (fun x8_2=>
 (ldL (.bool) (a7.add 3) (fun x8_3=>
 (ldL (.sl) (a7.add 4) (fun x8_4=>
 (ldL (.sl) (p4.add 8) (fun x9=>
 (appP 1 8 [.int .i64 0] x9 1 [.int .i64 x8_0] (fun w10 h6=>
 (stP (p4.add 8) [.slice w10.a w10.len w10.cap] (fun h7=>
 (k6 ((IntKind.i64.wrap (s5.1+1)),()) h7)) h6)) h5)) h5)) h5)) h5)) h5)) h5)) h5))
 (ldL (.sl) (p4.add 6) (fun x11=>
 (loopP (S:=Int×Unit) (fun s12 k13 h8=>
 (ifP (decide (s12.1<(x11.len:Int)))
 (idxP x11 s12.1 5 fun a14=>
 (ldL (.int .i64) (a14.add 0) (fun x15_0=>
 (ldL (.sl) (a14.add 1) (fun x15_1=>
 (ldL (.sl) (a14.add 2) (fun x15_2=>
 (ldL (.sl) (a14.add 3) (fun x15_3=>
 (ldL (.int .i64) (a14.add 4) (fun x15_4=>
 (callP (zd1 x15_1) (fun r16 h9=>
 (loopP (S:=Sl×Int×Unit) (fun s17 k18 h10=>
 (ifP (decide (s17.2.1<(x15_2.len:Int)))
 (joinP (S:=Sl×Unit) (fun s19 h11=>
 (k18 (s19.1,(IntKind.i64.wrap (s17.2.1+1)),()) h11))
 (fun k20=>
 (idxP x15_2 s17.2.1 1 fun a21=>
 (ldL (.int .i64) a21 (fun x22=>
 (appP 1 8 [.int .i64 0] s17.1 1 [.int .i64 (IntKind.i64.wrap ((-1)-x22))] (fun w23 h12=>
 (ifP (x15_0==13)
 (ldL (.sl) (p4.add 8) (fun x24=>
 (idxP x24 x22 1 fun a25=>
 (ldL (.int .i64) a25 (fun x26=>
 (appP 1 8 [.int .i64 0] w23 1 [.int .i64 x26] (fun w27 h13=>
 (k20 (w27,()) h13)) h12)) h12))) h12)
 (ifP (x15_0==16)
 (ldL (.sl) (p4.add 8) (fun x28=>
 (idxP x28 x22 1 fun a29=>
 (ldL (.int .i64) a29 (fun x30=>
 (appP 1 8 [.int .i64 0] w23 1 [.int .i64 x30] (fun w31 h14=>
 (k20 (w31,()) h14)) h12)) h12))) h12)
 (ifP (x15_0==17)
 (ldL (.sl) (p4.add 8) (fun x32=>
 (idxP x32 x22 1 fun a33=>
 (ldL (.int .i64) a33 (fun x34=>
 (appP 1 8 [.int .i64 0] w23 1 [.int .i64 x34] (fun w35 h15=>
 (k20 (w35,()) h15)) h12)) h12))) h12)
 (k20 (w23,()) h12))))) h10)) h10))))
 (ldL (.sl) (p4.add 7) (fun x36=>
 (appP 1 24 [.slice nilS.a nilS.len nilS.cap] x36 1 [.slice s17.1.a s17.1.len s17.1.cap] (fun w37 h16=>
 (stP (p4.add 7) [.slice w37.a w37.len w37.cap] (fun h17=>
 (k13 ((IntKind.i64.wrap (s12.1+1)),()) h17)) h16)) h10)) h10)))
 (r16,0,()) h9)) h8)) h8)) h8)) h8)) h8)) h8))
 (K (some p4) h8)))
 (0,()) h5)) h5)))
 (0,()) h4)) h3)) h2)) h1)) h)
def y_henneberg_peeler_all (p:(Option Addr)) (K:Sl→Hp→Prop) (h:Hp):Prop:=
 (ptrK p fun p1=>
 (ldL (.sl) ((p1.add 0).add 0) (fun x2=>
 (loopP (S:=Sl×Int×Unit) (fun s3 k4 h1=>
 (ifP (decide (s3.2.1<(x2.len:Int)))
 (appP 1 8 [.int .i64 0] s3.1 1 [.int .i64 s3.2.1] (fun w5 h2=>
 (k4 (w5,(IntKind.i64.wrap (s3.2.1+1)),()) h2)) h1)
 (ptrK p fun p6=>
 (ldL (.sl) ((p6.add 0).add 1) (fun x7=>
 (loopP (S:=Sl×Int×Unit) (fun s8 k9 h3=>
 (ifP (decide (s8.2.1<(x7.len:Int)))
 (appP 1 8 [.int .i64 0] s8.1 1 [.int .i64 (IntKind.i64.wrap ((-1)-s8.2.1))] (fun w10 h4=>
 (k9 (w10,(IntKind.i64.wrap (s8.2.1+1)),()) h4)) h3)
 (K s8.1 h3)))
 (s3.1,0,()) h1)) h1))))
 (nilS,0,()) h)) h))
def y_henneberg_peeler_remaining_1 (x:Int) (v0:(Option Addr)) (K:Bool→Hp→Prop) (h:Hp):Prop:=
 (ptrK v0 fun p1=>
 (ldL (.sl) p1 (fun x2=>
 (callP (zb1 x2 x) (fun r3 h1=>
 (K r3 h1)) h)) h))
def zbd (s:Sl) (f1:(Option Addr×Unit)) (K:Int→Hp→Prop) (h:Hp):Prop:=
 (loopP (S:=Int×Unit) (fun s1 k2 h1=>
 (ifP (decide (s1.1<(s.len:Int)))
 (idxP s s1.1 1 fun a3=>
 (ldL (.int .i64) a3 (fun x4=>
 (callP (y_henneberg_peeler_remaining_1 x4 f1.1) (fun r5 h2=>
 (ifP r5
 (K s1.1 h2)
 (k2 ((IntKind.i64.wrap (s1.1+1)),()) h2))) h1)) h1))
 (K (-1) h1)))
 (0,()) h)
def zb6 (s:Sl) (f1:(Option Addr×Unit)) (K:Bool→Hp→Prop) (h:Hp):Prop:=
 (callP (zbd s (f1.1,())) (fun r1 h1=>
 (K (decide (r1≥0)) h1)) h)
def y_henneberg_peeler_remaining (p:(Option Addr)) (item:Int) (removed:Sl) (K:Sl→Hp→Prop) (h:Hp):Prop:=
 (newP [.slice removed.a removed.len removed.cap] (fun p1 h1=>
 (ptrK p fun p2=>
 (ldL (.sl) (p2.add 7) (fun x3=>
 (loopP (S:=Sl×Int×Unit) (fun s4 k5 h2=>
 (ifP (decide (s4.2.1<(x3.len:Int)))
 (joinP (S:=Sl×Unit) (fun s6 h3=>
 (k5 (s6.1,(IntKind.i64.wrap (s4.2.1+1)),()) h3))
 (fun k7=>
 (idxP x3 s4.2.1 1 fun a8=>
 (ldL (.sl) a8 (fun x9=>
 (callP (zb1 x9 item) (fun r10 h4=>
 (ifP r10
 (callP (zb6 x9 ((some p1),())) (fun r11 h5=>
 (ifP (!r11)
 (appP 1 8 [.int .i64 0] s4.1 1 [.int .i64 s4.2.1] (fun w12 h6=>
 (k7 (w12,()) h6)) h5)
 (k7 (s4.1,()) h5))) h4)
 (k7 (s4.1,()) h4))) h2)) h2))))
 (K s4.1 h2)))
 (nilS,0,()) h1)) h1))) h)
def y_henneberg_peeler_equations (p:(Option Addr)) (i:Int) (K:Int→Hp→Prop) (h:Hp):Prop:=
 (ptrK p fun p1=>
 (ldL (.sl) (p1.add 6) (fun x2=>
 (idxP x2 i 5 fun a3=>
 (ldL (.int .i64) (a3.add 0) (fun x4=>
 (callP (zdk x4) (fun r5 h1=>
 (K r5.1.equations h1)) h)) h))) h))
def y_henneberg_peeler_weight (p:(Option Addr)) (l:Sl) (K:Int→Hp→Prop) (h:Hp):Prop:=
 (loopP (S:=Int×Int×Unit) (fun s1 k2 h1=>
 (ifP (decide (s1.2.1<(l.len:Int)))
 (idxP l s1.2.1 1 fun a3=>
 (ldL (.int .i64) a3 (fun x4=>
 (callP (y_henneberg_peeler_equations p x4) (fun r5 h2=>
 (k2 ((IntKind.i64.wrap (s1.1+r5)),(IntKind.i64.wrap (s1.2.1+1)),()) h2)) h1)) h1))
 (K s1.1 h1)))
 (0,0,()) h)
def zis (c:TConstraint) (centers:Sl) (circle:Int) (K:Bool→Hp→Prop) (h:Hp):Prop:=
 (callP (zd3 c.circles circle) (fun r1 h1=>
 (ifP (decide (r1<0))
 (K false h1)
 (joinP (S:=Bool×Unit) (fun s2 h2=>
 (ifP s2.1
 (K true h2)
 (joinP (S:=Bool×Unit) (fun s4 h3=>
 (ifP s4.1
 (idxP centers circle 1 fun a6=>
 (ldL (.int .i64) a6 (fun x7=>
 (callP (zb1 c.points x7) (fun r8 h4=>
 (K (!r8) h4)) h3)) h3))
 (ifP (c.kind==17)
 (ifP (c.side==1)
 (idxP c.circles 0 1 fun a9=>
 (ldL (.int .i64) a9 (fun x10=>
 (idxP centers x10 1 fun a11=>
 (ldL (.int .i64) a11 (fun x12=>
 (idxP c.circles 1 1 fun a13=>
 (ldL (.int .i64) a13 (fun x14=>
 (idxP centers x14 1 fun a15=>
 (ldL (.int .i64) a15 (fun x16=>
 (K (x12 != x16) h3)) h3))) h3))) h3))) h3))
 (K false h3))
 (K false h3))))
 (fun k5=>
 (ifP (c.kind==13)
 (k5 ((c.kind==13),()) h2)
 (k5 ((c.kind==16),()) h2))))))
 (fun k3=>
 (ifP (c.kind==14)
 (k3 ((c.kind==14),()) h1)
 (k3 ((c.kind==15),()) h1)))))) h)
def y_henneberg_peeler_removable_1 (i:Int) (v0:(Option Addr)) (v1:(Option Addr)) (K:Bool→Hp→Prop) (h:Hp):Prop:=
 (ptrK v0 fun p1=>
 (ldL (.ptr) p1 (fun x2=>
 (ptrK x2 fun p3=>
 (ldL (.sl) (p3.add 6) (fun x4=>
 (idxP x4 i 5 fun a5=>
 (ldL (.int .i64) (a5.add 0) (fun x6_0=>
 (ldL (.sl) (a5.add 1) (fun x6_1=>
 (ldL (.sl) (a5.add 2) (fun x6_2=>
 (ldL (.sl) (a5.add 3) (fun x6_3=>
 (ldL (.int .i64) (a5.add 4) (fun x6_4=>
 (ptrK v0 fun p7=>
 (ldL (.ptr) p7 (fun x8=>
 (ptrK x8 fun p9=>
 (ldL (.sl) (p9.add 8) (fun x10=>
 (ptrK v1 fun p11=>
 (ldL (.int .i64) p11 (fun x12=>
 (callP (zis (⟨x6_0,x6_1,x6_2,x6_3,x6_4⟩:TConstraint) x10 (IntKind.i64.wrap ((-1)-x12))) (fun r13 h1=>
 (K (!r13) h1)) h)) h))) h))) h))) h)) h)) h)) h)) h))) h))) h))
def zbe (s:Sl) (f1:(Option Addr×Option Addr×Unit)) (K:Int→Hp→Prop) (h:Hp):Prop:=
 (loopP (S:=Int×Unit) (fun s1 k2 h1=>
 (ifP (decide (s1.1<(s.len:Int)))
 (idxP s s1.1 1 fun a3=>
 (ldL (.int .i64) a3 (fun x4=>
 (callP (y_henneberg_peeler_removable_1 x4 f1.1 f1.2.1) (fun r5 h2=>
 (ifP r5
 (K s1.1 h2)
 (k2 ((IntKind.i64.wrap (s1.1+1)),()) h2))) h1)) h1))
 (K (-1) h1)))
 (0,()) h)
def zb7 (s:Sl) (f1:(Option Addr×Option Addr×Unit)) (K:Bool→Hp→Prop) (h:Hp):Prop:=
 (callP (zbe s (f1.1,f1.2.1,())) (fun r1 h1=>
 (K (decide (r1≥0)) h1)) h)
def zhl (c:TConstraint) (target:Int) (K:Sl→Hp→Prop) (h:Hp):Prop:=
 (loopP (S:=Sl×Int×Unit) (fun s1 k2 h1=>
 (ifP (decide (s1.2.1<(c.points.len:Int)))
 (joinP (S:=Sl×Unit) (fun s3 h2=>
 (k2 (s3.1,(IntKind.i64.wrap (s1.2.1+1)),()) h2))
 (fun k4=>
 (idxP c.points s1.2.1 1 fun a5=>
 (ldL (.int .i64) a5 (fun x6=>
 (ifP (x6==target)
 (appP 1 8 [.int .i64 0] s1.1 1 [.int .i64 s1.2.1] (fun w7 h3=>
 (k4 (w7,()) h3)) h1)
 (k4 (s1.1,()) h1))) h1))))
 (K s1.1 h1)))
 (nilS,0,()) h)
def ze4 (i:Int) (v0:(Option Addr)) (v1:(Option Addr)) (v2:(Option Addr)) (K:Bool→Hp→Prop) (h:Hp):Prop:=
 (ptrK v0 fun p1=>
 (ldL (.sl) p1 (fun x2=>
 (ptrK v1 fun p3=>
 (ldL (.sl) (p3.add 2) (fun x4=>
 (idxP x4 i 1 fun a5=>
 (ldL (.int .i64) a5 (fun x6=>
 (idxP x2 x6 1 fun a7=>
 (ldL (.int .i64) a7 (fun x8=>
 (ptrK v2 fun p9=>
 (ldL (.int .i64) p9 (fun x10=>
 (K (x8==x10) h)) h))) h))) h))) h))) h))
def zjk (c:TConstraint) (centers:Sl) (target:Int) (K:Int→Hp→Prop) (h:Hp):Prop:=
 (newP [.int .i64 c.kind,.slice c.points.a c.points.len c.points.cap,.slice c.circles.a c.circles.len c.circles.cap,.slice c.values.a c.values.len c.values.cap,.int .i64 c.side] (fun p1 h1=>
 (newP [.slice centers.a centers.len centers.cap] (fun p2 h2=>
 (newP [.int .i64 target] (fun p3 h3=>
 (ldL (.int .i64) (p1.add 0) (fun x4_0=>
 (ldL (.sl) (p1.add 1) (fun x4_1=>
 (ldL (.sl) (p1.add 2) (fun x4_2=>
 (ldL (.sl) (p1.add 3) (fun x4_3=>
 (ldL (.int .i64) (p1.add 4) (fun x4_4=>
 (ldL (.int .i64) p3 (fun x5=>
 (callP (zhl (⟨x4_0,x4_1,x4_2,x4_3,x4_4⟩:TConstraint) x5) (fun r6 h4=>
 (ldL (.int .i64) (p1.add 0) (fun x7=>
 (ifP (x7==13)
 (callP (ze4 0 (some p2) (some p1) (some p3)) (fun r8 h5=>
 (ifP (!((decide ((r6.len:Int)>0))==r8))
 (K 2 h5)
 (K 0 h5))) h4)
 (ifP (x7==16)
 (callP (ze4 0 (some p2) (some p1) (some p3)) (fun r9 h6=>
 (ifP r9
 (ifP ((r6.len:Int)==0)
 (K 1 h6)
 (K 0 h6))
 (K 0 h6))) h4)
 (ifP (x7==17)
 (callP (ze4 0 (some p2) (some p1) (some p3)) (fun r10 h7=>
 (callP (ze4 1 (some p2) (some p1) (some p3)) (fun r11 h8=>
 (ifP (!(r10==r11))
 (K 2 h8)
 (K 0 h8))) h7)) h4)
 (ifP ((r6.len:Int)==0)
 (K 0 h4)
 (ldL (.int .i64) (p1.add 0) (fun x12=>
 (joinP (S:=Bool×Unit) (fun s13 h9=>
 (ifP s13.1
 (K 3 h9)
 (ifP (x12==2)
 (K 2 h9)
 (joinP (S:=Bool×Unit) (fun s15 h10=>
 (ifP s15.1
 (K 1 h10)
 (ifP (x12==4)
 (idxP r6 0 1 fun a17=>
 (ldL (.int .i64) a17 (fun x18=>
 (ifP (x18==0)
 (K 1 h10)
 (K 0 h10))) h10))
 (ifP (x12==10)
 (idxP r6 0 1 fun a19=>
 (ldL (.int .i64) a19 (fun x20=>
 (ifP (decide (x20<2))
 (K 3 h10)
 (K 0 h10))) h10))
 (joinP (S:=Bool×Unit) (fun s21 h11=>
 (ifP s21.1
 (ifP ((r6.len:Int)==2)
 (K 2 h11)
 (K 1 h11))
 (ifP (x12==8)
 (ifP ((r6.len:Int)==2)
 (K 1 h11)
 (K 2 h11))
 (K 0 h11))))
 (fun k22=>
 (ifP (x12==5)
 (k22 ((x12==5),()) h10)
 (k22 ((x12==7),()) h10))))))))
 (fun k16=>
 (ifP (x12==3)
 (k16 ((x12==3),()) h9)
 (ifP (x12==6)
 (k16 ((x12==6),()) h9)
 (ifP (x12==11)
 (k16 ((x12==11),()) h9)
 (k16 ((x12==12),()) h9)))))))))
 (fun k14=>
 (ifP (x12==1)
 (k14 ((x12==1),()) h4)
 (k14 ((x12==9),()) h4))))) h4)))))) h4)) h3)) h3)) h3)) h3)) h3)) h3)) h3)) h2)) h1)) h)
def y_henneberg_peeler_kind (p:(Option Addr)) (i:Int) (point:Int) (K:Int→Hp→Prop) (h:Hp):Prop:=
 (ptrK p fun p1=>
 (ldL (.sl) (p1.add 6) (fun x2=>
 (idxP x2 i 5 fun a3=>
 (ldL (.int .i64) (a3.add 0) (fun x4_0=>
 (ldL (.sl) (a3.add 1) (fun x4_1=>
 (ldL (.sl) (a3.add 2) (fun x4_2=>
 (ldL (.sl) (a3.add 3) (fun x4_3=>
 (ldL (.int .i64) (a3.add 4) (fun x4_4=>
 (ptrK p fun p5=>
 (ldL (.sl) (p5.add 8) (fun x6=>
 (callP (zjk (⟨x4_0,x4_1,x4_2,x4_3,x4_4⟩:TConstraint) x6 point) (fun r7 h1=>
 (K r7 h1)) h)) h))) h)) h)) h)) h)) h))) h))
def y_henneberg_peeler_removable (p:(Option Addr)) (item:Int) (removed:Sl) (K:Bool→Hp→Prop) (h:Hp):Prop:=
 (newP [.pointer p] (fun p1 h1=>
 (newP [.int .i64 item] (fun p2 h2=>
 (ldL (.int .i64) p2 (fun x3=>
 (callP (zb1 removed x3) (fun r4 h3=>
 (ifP r4
 (K false h3)
 (ldL (.ptr) p1 (fun x5=>
 (ldL (.int .i64) p2 (fun x6=>
 (callP (y_henneberg_peeler_remaining x5 x6 removed) (fun r7 h4=>
 (ldL (.int .i64) p2 (fun x8=>
 (ifP (decide (x8<0))
 (ldL (.ptr) p1 (fun x9=>
 (callP (y_henneberg_peeler_weight x9 r7) (fun r10 h5=>
 (ifP (decide (r10≤1))
 (callP (zb7 r7 ((some p1),(some p2),())) (fun r11 h6=>
 (K (!r11) h6)) h5)
 (K false h5))) h4)) h4)
 (ldL (.ptr) p1 (fun x12=>
 (callP (y_henneberg_peeler_weight x12 r7) (fun r13 h7=>
 (ifP (decide (r13>2))
 (K false h7)
 (loopP (S:=Int×Unit) (fun s14 k15 h8=>
 (ifP (decide (s14.1<(r7.len:Int)))
 (idxP r7 s14.1 1 fun a16=>
 (ldL (.int .i64) a16 (fun x17=>
 (ldL (.ptr) p1 (fun x18=>
 (ldL (.int .i64) p2 (fun x19=>
 (callP (y_henneberg_peeler_kind x18 x17 x19) (fun r20 h9=>
 (joinP (S:=Bool×Unit) (fun s21 h10=>
 (joinP (S:=Bool×Unit) (fun s23 h11=>
 (ifP (!s23.1)
 (K false h11)
 (k15 ((IntKind.i64.wrap (s14.1+1)),()) h11)))
 (fun k24=>
 (ldL (.ptr) p1 (fun x25=>
 (callP (y_henneberg_peeler_equations x25 x17) (fun r26 h12=>
 (ifP (r26==2)
 (k24 ((r20==3),()) h12)
 (k24 (s21.1,()) h12))) h10)) h10))))
 (fun k22=>
 (ifP (r20==1)
 (k22 (true,()) h9)
 (k22 ((r20==2),()) h9))))) h8)) h8)) h8)) h8))
 (K true h8)))
 (0,()) h7))) h4)) h4))) h4)) h3)) h3)) h3))) h2)) h2)) h1)) h)
def y_henneberg_peeler_peel_1 (item:Int) (v0:(Option Addr)) (v1:(Option Addr)) (K:Bool→Hp→Prop) (h:Hp):Prop:=
 (ptrK v0 fun p1=>
 (ldL (.ptr) p1 (fun x2=>
 (ptrK v1 fun p3=>
 (ldL (.sl) p3 (fun x4=>
 (callP (y_henneberg_peeler_removable x2 item x4) (fun r5 h1=>
 (K r5 h1)) h)) h))) h))
def zb4 (s:Sl) (f1:(Option Addr×Option Addr×Unit)) (K:Int→Hp→Prop) (h:Hp):Prop:=
 (loopP (S:=Int×Unit) (fun s1 k2 h1=>
 (ifP (decide (s1.1<(s.len:Int)))
 (idxP s s1.1 1 fun a3=>
 (ldL (.int .i64) a3 (fun x4=>
 (callP (y_henneberg_peeler_peel_1 x4 f1.1 f1.2.1) (fun r5 h2=>
 (ifP r5
 (K s1.1 h2)
 (k2 ((IntKind.i64.wrap (s1.1+1)),()) h2))) h1)) h1))
 (K (-1) h1)))
 (0,()) h)
def y_henneberg_peeler_peel_2 (item:Int) (v0:(Option Addr)) (K:Bool→Hp→Prop) (h:Hp):Prop:=
 (ptrK v0 fun p1=>
 (ldL (.sl) p1 (fun x2=>
 (callP (zb1 x2 item) (fun r3 h1=>
 (K r3 h1)) h)) h))
def zbp (s:Sl) (f1:(Option Addr×Unit)) (K:Int→Hp→Prop) (h:Hp):Prop:=
 (loopP (S:=Int×Unit) (fun s1 k2 h1=>
 (ifP (decide (s1.1<(s.len:Int)))
 (idxP s s1.1 1 fun a3=>
 (ldL (.int .i64) a3 (fun x4=>
 (callP (y_henneberg_peeler_peel_2 x4 f1.1) (fun r5 h2=>
 (ifP r5
 (K s1.1 h2)
 (k2 ((IntKind.i64.wrap (s1.1+1)),()) h2))) h1)) h1))
 (K (-1) h1)))
 (0,()) h)
def zb3 (s:Sl) (f1:(Option Addr×Unit)) (K:Sl→Hp→Prop) (h:Hp):Prop:=
 (callP (zbp s (f1.1,())) (fun r1 h1=>
 (ifP (r1==(-1))
 (K s h1)
 (loopP (S:=Int×Int×Unit) (fun s2 k3 h2=>
 (ifP (decide (s2.2.1<(s.len:Int)))
 (joinP (S:=Int×Unit) (fun s4 h3=>
 (k3 (s4.1,(IntKind.i64.wrap (s2.2.1+1)),()) h3))
 (fun k5=>
 (idxP s s2.2.1 1 fun a6=>
 (ldL (.int .i64) a6 (fun x7=>
 (callP (y_henneberg_peeler_peel_2 x7 f1.1) (fun r8 h4=>
 (ifP (!r8)
 (idxP s s2.1 1 fun a9=>
 (stP a9 [.int .i64 x7] (fun h5=>
 (k5 ((IntKind.i64.wrap (s2.1+1)),()) h5)) h4))
 (k5 (s2.1,()) h4))) h2)) h2))))
 (slP s s2.1 (s.len:Int) 1 fun c10=>
 (clrP c10 [.int .i64 0] (fun h6=>
 (slP s 0 s2.1 1 fun c11=>
 (K c11 h6))) h2))))
 (r1,(IntKind.i64.wrap (r1+1)),()) h1))) h)
def y_henneberg_peeler_peel (p:(Option Addr)) (K:(Sl×Sl)→Hp→Prop) (h:Hp):Prop:=
 (newP [.pointer p] (fun p1 h1=>
 (newP [.slice nilS.a nilS.len nilS.cap] (fun p2 h2=>
 (loopP (S:=(Option Addr)×Unit) (fun s3 k4 h3=>
 (ldL (.ptr) p1 (fun x5=>
 (callP (y_henneberg_peeler_all x5) (fun r6 h4=>
 (callP (zb4 r6 ((some p1),s3.1,())) (fun r7 h5=>
 (ifP (decide (r7<0))
 (ldL (.ptr) p1 (fun x8=>
 (callP (y_henneberg_peeler_all x8) (fun r9 h6=>
 (callM (zb3 r9 (s3.1,())) (fun r10 h7=>
 (ptrK s3.1 fun p11=>
 (ldL (.sl) p11 (fun x12=>
 (K (x12,r10) h7)) h7))) h6)) h5)) h5)
 (ptrK s3.1 fun p13=>
 (ldL (.sl) p13 (fun x14=>
 (ldL (.ptr) p1 (fun x15=>
 (callP (y_henneberg_peeler_all x15) (fun r16 h8=>
 (idxP r16 r7 1 fun a17=>
 (ldL (.int .i64) a17 (fun x18=>
 (appP 1 8 [.int .i64 0] x14 1 [.int .i64 x18] (fun w19 h9=>
 (ptrK s3.1 fun p20=>
 (stP p20 [.slice w19.a w19.len w19.cap] (fun h10=>
 (k4 (s3.1,()) h10)) h9))) h8)) h8))) h5)) h5)) h5)))) h4)) h3)) h3))
 ((some p2),()) h2)) h1)) h)
def zep (s:TSketch) (K:(Sl×Sl)→Hp→Prop) (h:Hp):Prop:=
 (callP (ze7 s) (fun r1 h1=>
 (ifP (r1 != 0)
 (K (nilS,nilS) h1)
 (callP (zel s) (fun r2 h2=>
 (callP (y_henneberg_peeler_peel r2) (fun r3 h3=>
 (K (r3.1,r3.2) h3)) h2)) h1))) h)
def zgf:Nat→TExpr→(Int→Hp→Prop)→Hp→Prop
 | 0,_,_,_=>False
 | fuel+1,e,K,h=>
 (loopP (S:=Int×Int×Unit) (fun s1 k2 h1=>
 (ifP (decide (s1.2.1<(e.args.len:Int)))
 (idxP e.args s1.2.1 7 fun a3=>
 (ldL (.int .i64) (a3.add 0) (fun x4_0=>
 (ldL (.bool) (a3.add 1) (fun x4_1=>
 (ldL (.sl) (a3.add 2) (fun x4_2=>
 (ldL (.bool) (a3.add 3) (fun x4_3=>
 (ldL (.sl) (a3.add 4) (fun x4_4=>
 (ldL (.str) (a3.add 5) (fun x4_5=>
 (ldL (.sl) (a3.add 6) (fun x4_6=>
 (callP ((zgf fuel) (⟨x4_0,(⟨(⟨x4_1,x4_2⟩:TInt),(⟨x4_3,x4_4⟩:TInt)⟩:TRat),x4_5,x4_6⟩:TExpr)) (fun r5 h2=>
 (k2 (maxI s1.1 r5,(IntKind.i64.wrap (s1.2.1+1)),()) h2)) h1)) h1)) h1)) h1)) h1)) h1)) h1)) h1))
 (K (IntKind.i64.wrap (s1.1+1)) h1)))
 (0,0,()) h)
def zqo (l:Sl) (n:Int) (K:Bool→Hp→Prop) (h:Hp):Prop:=
 (loopP (S:=Int×Unit) (fun s1 k2 h1=>
 (ifP (decide (s1.1<(l.len:Int)))
 (idxP l s1.1 1 fun a3=>
 (ldL (.int .i64) a3 (fun x4=>
 (ifP (x4==n)
 (K true h1)
 (k2 ((IntKind.i64.wrap (s1.1+1)),()) h1))) h1))
 (K false h1)))
 (0,()) h)
def zlf (a:Sl) (b:Sl) (K:Bool→Hp→Prop) (h:Hp):Prop:=
 (ifP ((a.len:Int) != (b.len:Int))
 (K false h)
 (loopP (S:=Int×Unit) (fun s1 k2 h1=>
 (ifP (decide (s1.1<(a.len:Int)))
 (idxP a s1.1 1 fun a3=>
 (ldL (.int .i64) a3 (fun x4=>
 (idxP b s1.1 1 fun a5=>
 (ldL (.int .i64) a5 (fun x6=>
 (ifP (x4 != x6)
 (K false h1)
 (k2 ((IntKind.i64.wrap (s1.1+1)),()) h1))) h1))) h1))
 (K true h1)))
 (0,()) h))
def zhf (s:TSketch) (K:Sl→Hp→Prop) (h:Hp):Prop:=
 (loopP (S:=Sl×Int×Unit) (fun s1 k2 h1=>
 (ifP (decide (s1.2.1<(s.circles.len:Int)))
 (idxP s.circles s1.2.1 5 fun a3=>
 (ldL (.int .i64) (a3.add 0) (fun x4_0=>
 (ldL (.bool) (a3.add 1) (fun x4_1=>
 (ldL (.sl) (a3.add 2) (fun x4_2=>
 (ldL (.bool) (a3.add 3) (fun x4_3=>
 (ldL (.sl) (a3.add 4) (fun x4_4=>
 (appP 1 8 [.int .i64 0] s1.1 1 [.int .i64 x4_0] (fun w5 h2=>
 (k2 (w5,(IntKind.i64.wrap (s1.2.1+1)),()) h2)) h1)) h1)) h1)) h1)) h1)) h1))
 (K s1.1 h1)))
 (nilS,0,()) h)
def zbj (s:Sl) (K:Sl→Hp→Prop) (h:Hp):Prop:=
 (ifP s.a.isNone
 (K nilS h)
 (newP [] (fun p1 h1=>
 (rdO s.a (s.len*5) (fun vs2=>
 (appP 5 88 [.int .i64 0,.slice nilS.a nilS.len nilS.cap,.slice nilS.a nilS.len nilS.cap,.slice nilS.a nilS.len nilS.cap,.int .i64 0] (⟨some p1,0,0⟩:Sl) s.len vs2 (fun w3 h2=>
 (K w3 h2)) h1)) h1)) h))
def zlp (s:TSketch) (K:Sl→Hp→Prop) (h:Hp):Prop:=
 (callP (zbj s.constraints) (fun r1 h1=>
 (callP (zev s) (fun r2 h2=>
 (rdO r2.a (r2.len*5) (fun vs3=>
 (appP 5 88 [.int .i64 0,.slice nilS.a nilS.len nilS.cap,.slice nilS.a nilS.len nilS.cap,.slice nilS.a nilS.len nilS.cap,.int .i64 0] r1 r2.len vs3 (fun w4 h3=>
 (K w4 h3)) h2)) h2)) h1)) h)
def zji (c:TConstraint) (centers:Sl) (K:Sl→Hp→Prop) (h:Hp):Prop:=
 (callP (zd1 c.points) (fun r1 h1=>
 (loopP (S:=Sl×Int×Unit) (fun s2 k3 h2=>
 (ifP (decide (s2.2.1<(c.circles.len:Int)))
 (joinP (S:=Sl×Unit) (fun s4 h3=>
 (k3 (s4.1,(IntKind.i64.wrap (s2.2.1+1)),()) h3))
 (fun k5=>
 (idxP c.circles s2.2.1 1 fun a6=>
 (ldL (.int .i64) a6 (fun x7=>
 (appP 1 8 [.int .i64 0] s2.1 1 [.int .i64 (IntKind.i64.wrap ((-1)-x7))] (fun w8 h4=>
 (joinP (S:=Bool×Unit) (fun s9 h5=>
 (ifP s9.1
 (idxP centers x7 1 fun a11=>
 (ldL (.int .i64) a11 (fun x12=>
 (appP 1 8 [.int .i64 0] w8 1 [.int .i64 x12] (fun w13 h6=>
 (k5 (w13,()) h6)) h5)) h5))
 (k5 (w8,()) h5)))
 (fun k10=>
 (ifP (c.kind==13)
 (k10 ((c.kind==13),()) h4)
 (ifP (c.kind==16)
 (k10 ((c.kind==16),()) h4)
 (k10 ((c.kind==17),()) h4)))))) h2)) h2))))
 (K s2.1 h2)))
 (r1,0,()) h1)) h)
def zjc (x:Int) (v0:(Option Addr)) (K:Bool→Hp→Prop) (h:Hp):Prop:=
 (ptrK v0 fun p1=>
 (ldL (.sl) p1 (fun x2=>
 (callP (zb1 x2 x) (fun r3 h1=>
 (K (!r3) h1)) h)) h))
def zcd (s:Sl) (f1:(Option Addr×Unit)) (K:Int→Hp→Prop) (h:Hp):Prop:=
 (loopP (S:=Int×Unit) (fun s1 k2 h1=>
 (ifP (decide (s1.1<(s.len:Int)))
 (idxP s s1.1 1 fun a3=>
 (ldL (.int .i64) a3 (fun x4=>
 (callP (zjc x4 f1.1) (fun r5 h2=>
 (ifP r5
 (K s1.1 h2)
 (k2 ((IntKind.i64.wrap (s1.1+1)),()) h2))) h1)) h1))
 (K (-1) h1)))
 (0,()) h)
def zc6 (s:Sl) (f1:(Option Addr×Unit)) (K:Bool→Hp→Prop) (h:Hp):Prop:=
 (callP (zcd s (f1.1,())) (fun r1 h1=>
 (K (decide (r1≥0)) h1)) h)
def zim (s:TSketch) (list:Sl) (K:Sl→Hp→Prop) (h:Hp):Prop:=
 (newP [.slice list.a list.len list.cap] (fun p1 h1=>
 (callP (zhf s) (fun r2 h2=>
 (callP (zlp s) (fun r3 h3=>
 (loopP (S:=Sl×Int×Unit) (fun s4 k5 h4=>
 (ifP (decide (s4.2.1<(r3.len:Int)))
 (joinP (S:=Sl×Unit) (fun s6 h5=>
 (k5 (s6.1,(IntKind.i64.wrap (s4.2.1+1)),()) h5))
 (fun k7=>
 (idxP r3 s4.2.1 5 fun a8=>
 (ldL (.int .i64) (a8.add 0) (fun x9_0=>
 (ldL (.sl) (a8.add 1) (fun x9_1=>
 (ldL (.sl) (a8.add 2) (fun x9_2=>
 (ldL (.sl) (a8.add 3) (fun x9_3=>
 (ldL (.int .i64) (a8.add 4) (fun x9_4=>
 (callP (zji (⟨x9_0,x9_1,x9_2,x9_3,x9_4⟩:TConstraint) r2) (fun r10 h6=>
 (callP (zc6 r10 ((some p1),())) (fun r11 h7=>
 (ifP (!r11)
 (appP 1 8 [.int .i64 0] s4.1 1 [.int .i64 s4.2.1] (fun w12 h8=>
 (k7 (w12,()) h8)) h7)
 (k7 (s4.1,()) h7))) h6)) h4)) h4)) h4)) h4)) h4)) h4))))
 (K s4.1 h4)))
 (nilS,0,()) h3)) h2)) h1)) h)
def zj1 (s:TSketch) (K:(Sl×Sl)→Hp→Prop) (h:Hp):Prop:=
 (callP (ze7 s) (fun r1 h1=>
 (ifP (r1 != 0)
 (K (nilS,nilS) h1)
 (callP (zep s) (fun r2 h2=>
 (ifP ((r2.2.len:Int)==0)
 (K (nilS,nilS) h2)
 (callP (zim s r2.2) (fun r3 h3=>
 (K (r2.2,r3) h3)) h2))) h1))) h)
def zm2 (l:Sl) (n:Int) (K:Bool→Hp→Prop) (h:Hp):Prop:=
 (loopP (S:=Int×Unit) (fun s1 k2 h1=>
 (ifP (decide (s1.1<(l.len:Int)))
 (idxP l s1.1 1 fun a3=>
 (ldL (.int .i64) a3 (fun x4=>
 (ifP (x4==n)
 (K true h1)
 (k2 ((IntKind.i64.wrap (s1.1+1)),()) h1))) h1))
 (K false h1)))
 (0,()) h)
def zh3 (l:Sl) (n:Int) (K:Sl→Hp→Prop) (h:Hp):Prop:=
 (loopP (S:=Sl×Int×Unit) (fun s1 k2 h1=>
 (ifP (decide (s1.2.1<(l.len:Int)))
 (joinP (S:=Sl×Unit) (fun s3 h2=>
 (k2 (s3.1,(IntKind.i64.wrap (s1.2.1+1)),()) h2))
 (fun k4=>
 (idxP l s1.2.1 1 fun a5=>
 (ldL (.int .i64) a5 (fun x6=>
 (ifP (x6 != n)
 (idxP l s1.2.1 1 fun a7=>
 (ldL (.int .i64) a7 (fun x8=>
 (appP 1 8 [.int .i64 0] s1.1 1 [.int .i64 x8] (fun w9 h3=>
 (k4 (w9,()) h3)) h1)) h1))
 (k4 (s1.1,()) h1))) h1))))
 (K s1.1 h1)))
 (nilS,0,()) h)
def zm1 (a:Sl) (b:Sl) (K:Bool→Hp→Prop) (h:Hp):Prop:=
 (ifP ((a.len:Int) != (b.len:Int))
 (K false h)
 (loopP (S:=Int×Unit) (fun s1 k2 h1=>
 (ifP (decide (s1.1<(a.len:Int)))
 (idxP a s1.1 1 fun a3=>
 (ldL (.int .i64) a3 (fun x4=>
 (idxP b s1.1 1 fun a5=>
 (ldL (.int .i64) a5 (fun x6=>
 (ifP (x4 != x6)
 (K false h1)
 (k2 ((IntKind.i64.wrap (s1.1+1)),()) h1))) h1))) h1))
 (K true h1)))
 (0,()) h))
def zee (a:Sl) (b:Sl) (K:Bool→Hp→Prop) (h:Hp):Prop:=
 (callP (zm1 a b) (fun r1 h1=>
 (K r1 h1)) h)
def zeb (s:TSketch) (K:Bool→Hp→Prop) (h:Hp):Prop:=
 (callP (ze7 s) (fun r1 h1=>
 (ifP (r1 != 0)
 (K false h1)
 (callP (zep s) (fun r2 h2=>
 (K ((r2.2.len:Int)==0) h2)) h1))) h)
def zfq (K:TExpr→Hp→Prop) (h:Hp):Prop:=
 (callP (zh1 1) (fun r1 h1=>
 (K (⟨1,r1,emptyS,nilS⟩:TExpr) h1)) h)
def zgm (g:TGraph) (value:TExpr) (K:TSketch→Hp→Prop) (h:Hp):Prop:=
 (loopP (S:=(Sl×Sl×Sl×Sl×Sl×Sl×Unit)×Int×Unit) (fun s1 k2 h1=>
 (ifP (decide (s1.2.1<g.n))
 (appP 8 128 [.bool false,.slice nilS.a nilS.len nilS.cap,.bool false,.slice nilS.a nilS.len nilS.cap,.bool false,.slice nilS.a nilS.len nilS.cap,.bool false,.slice nilS.a nilS.len nilS.cap] s1.1.1 1 [.bool value.value.num.neg,.slice value.value.num.mag.a value.value.num.mag.len value.value.num.mag.cap,.bool value.value.den.neg,.slice value.value.den.mag.a value.value.den.mag.len value.value.den.mag.cap,.bool value.value.num.neg,.slice value.value.num.mag.a value.value.num.mag.len value.value.num.mag.cap,.bool value.value.den.neg,.slice value.value.den.mag.a value.value.den.mag.len value.value.den.mag.cap] (fun w3 h2=>
 (k2 ((w3,s1.1.2.1,s1.1.2.2.1,s1.1.2.2.2.1,s1.1.2.2.2.2.1,s1.1.2.2.2.2.2.1,()),(IntKind.i64.wrap (s1.2.1+1)),()) h2)) h1)
 (loopP (S:=(Sl×Sl×Sl×Sl×Sl×Sl×Unit)×Int×Unit) (fun s4 k5 h3=>
 (ifP (decide (s4.2.1<(g.edges.len:Int)))
 (idxP g.edges s4.2.1 2 fun a6=>
 (ldL (.int .i64) (a6.add 0) (fun x7=>
 (idxP g.edges s4.2.1 2 fun a8=>
 (ldL (.int .i64) (a8.add 1) (fun x9=>
 (newP [.int .i64 x7,.int .i64 x9] (fun p10 h4=>
 (newP [.int .i64 value.op,.bool value.value.num.neg,.slice value.value.num.mag.a value.value.num.mag.len value.value.num.mag.cap,.bool value.value.den.neg,.slice value.value.den.mag.a value.value.den.mag.len value.value.den.mag.cap,.string value.name,.slice value.args.a value.args.len value.args.cap] (fun p11 h5=>
 (appP 5 88 [.int .i64 0,.slice nilS.a nilS.len nilS.cap,.slice nilS.a nilS.len nilS.cap,.slice nilS.a nilS.len nilS.cap,.int .i64 0] s4.1.2.2.2.2.2.1 1 [.int .i64 2,.slice (⟨some p10,2,2⟩:Sl).a (⟨some p10,2,2⟩:Sl).len (⟨some p10,2,2⟩:Sl).cap,.slice nilS.a nilS.len nilS.cap,.slice (⟨some p11,1,1⟩:Sl).a (⟨some p11,1,1⟩:Sl).len (⟨some p11,1,1⟩:Sl).cap,.int .i64 0] (fun w12 h6=>
 (k5 ((s4.1.1,s4.1.2.1,s4.1.2.2.1,s4.1.2.2.2.1,s4.1.2.2.2.2.1,w12,()),(IntKind.i64.wrap (s4.2.1+1)),()) h6)) h5)) h4)) h3)) h3))) h3))
 (K (⟨s4.1.1,s4.1.2.1,s4.1.2.2.1,s4.1.2.2.2.1,s4.1.2.2.2.2.1,s4.1.2.2.2.2.2.1⟩:TSketch) h3)))
 ((s1.1.1,s1.1.2.1,s1.1.2.2.1,s1.1.2.2.2.1,s1.1.2.2.2.2.1,s1.1.2.2.2.2.2.1,()),0,()) h1)))
 ((nilS,nilS,nilS,nilS,nilS,nilS,()),0,()) h)
def zj5 (points:Int) (n:Int) (K:Bool→Hp→Prop) (h:Hp):Prop:=
 (ifP (decide (n≥0))
 (K (decide (n<points)) h)
 (K false h))
def zlo (vals:Sl) (K:Int→Hp→Prop) (h:Hp):Prop:=
 (loopP (S:=Int×Unit) (fun s1 k2 h1=>
 (ifP (decide (s1.1<(vals.len:Int)))
 (idxP vals s1.1 1 fun a3=>
 (ldL (.int .i64) a3 (fun x4=>
 (ifP (x4 != 0)
 (K x4 h1)
 (k2 ((IntKind.i64.wrap (s1.1+1)),()) h1))) h1))
 (K 0 h1)))
 (0,()) h)
def zgy (a:A2_Int) (b:A2_Int) (K:Int→Hp→Prop) (h:Hp):Prop:=
 (callP (zcu a.c0 b.c0) (fun r1 h1=>
 (callP (zcu a.c1 b.c1) (fun r2 h2=>
 (newP [.int .i64 r1,.int .i64 r2] (fun p3 h3=>
 (callP (zlo (⟨some p3,2,2⟩:Sl)) (fun r4 h4=>
 (K r4 h4)) h3)) h2)) h1)) h)
def zio (g:TGraph) (K:Bool→Hp→Prop) (h:Hp):Prop:=
 (joinP (S:=Unit) (fun s1 h1=>
 (loopP (S:=Int×Unit) (fun s3 k4 h2=>
 (ifP (decide (s3.1<(g.edges.len:Int)))
 (joinP (S:=Unit) (fun s5 h3=>
 (k4 ((IntKind.i64.wrap (s3.1+1)),()) h3))
 (fun k6=>
 (idxP g.edges s3.1 2 fun a7=>
 (ldL (.int .i64) (a7.add 0) (fun x8_0=>
 (ldL (.int .i64) (a7.add 1) (fun x8_1=>
 (callP (zj5 g.n x8_0) (fun r9 h4=>
 (ifP (!r9)
 (K false h4)
 (callP (zj5 g.n x8_1) (fun r10 h5=>
 (ifP (!r10)
 (K false h5)
 (ifP (decide (x8_0≥x8_1))
 (K false h5)
 (ifP (decide (s3.1>0))
 (idxP g.edges (IntKind.i64.wrap (s3.1-1)) 2 fun a11=>
 (ldL (.int .i64) (a11.add 0) (fun x12_0=>
 (ldL (.int .i64) (a11.add 1) (fun x12_1=>
 (callP (zgy (⟨x12_0,x12_1⟩:A2_Int) (⟨x8_0,x8_1⟩:A2_Int)) (fun r13 h6=>
 (ifP (decide (r13≥0))
 (K false h6)
 (k6 () h6))) h5)) h5)) h5))
 (k6 () h5))))) h4))) h2)) h2)) h2))))
 (K true h2)))
 (0,()) h1))
 (fun k2=>
 (ifP (decide (g.n<0))
 (K false h)
 (ifP (decide (g.n>60))
 (K false h)
 (k2 () h)))))
def zf3 (g:TGraph) (K:Sl→Hp→Prop) (h:Hp):Prop:=
 (callP (zio g) (fun r1 h1=>
 (ifP (!r1)
 (K nilS h1)
 (mkP g.n g.n 1 [.bool false] (fun m2 h2=>
 (loopP (S:=Bool×Unit) (fun s3 k4 h3=>
 (ifP s3.1
 (mkP g.n g.n 8 [.int .i64 0] (fun m5 h4=>
 (loopP (S:=Int×Unit) (fun s6 k7 h5=>
 (ifP (decide (s6.1<(g.edges.len:Int)))
 (joinP (S:=Unit) (fun s8 h6=>
 (k7 ((IntKind.i64.wrap (s6.1+1)),()) h6))
 (fun k9=>
 (idxP g.edges s6.1 2 fun a10=>
 (ldL (.int .i64) (a10.add 0) (fun x11_0=>
 (ldL (.int .i64) (a10.add 1) (fun x11_1=>
 (idxP m2 x11_0 1 fun a12=>
 (ldL (.bool) a12 (fun x13=>
 (ifP (!x13)
 (idxP m2 x11_1 1 fun a14=>
 (ldL (.bool) a14 (fun x15=>
 (ifP (!x15)
 (idxP m5 x11_0 1 fun a16=>
 (ldL (.int .i64) a16 (fun x17=>
 (idxP m5 x11_0 1 fun a18=>
 (stP a18 [.int .i64 (IntKind.i64.wrap (x17+1))] (fun h7=>
 (idxP m5 x11_1 1 fun a19=>
 (ldL (.int .i64) a19 (fun x20=>
 (idxP m5 x11_1 1 fun a21=>
 (stP a21 [.int .i64 (IntKind.i64.wrap (x20+1))] (fun h8=>
 (k9 () h8)) h7))) h7))) h5))) h5))
 (k9 () h5))) h5))
 (k9 () h5))) h5))) h5)) h5))))
 (loopP (S:=Bool×Int×Unit) (fun s22 k23 h9=>
 (ifP (decide (s22.2.1<(m2.len:Int)))
 (joinP (S:=Bool×Unit) (fun s24 h10=>
 (k23 (s24.1,(IntKind.i64.wrap (s22.2.1+1)),()) h10))
 (fun k25=>
 (idxP m2 s22.2.1 1 fun a26=>
 (ldL (.bool) a26 (fun x27=>
 (ifP (!x27)
 (idxP m5 s22.2.1 1 fun a28=>
 (ldL (.int .i64) a28 (fun x29=>
 (ifP (decide (x29≤2))
 (idxP m2 s22.2.1 1 fun a30=>
 (stP a30 [.bool true] (fun h11=>
 (k25 (true,()) h11)) h9))
 (k25 (s22.1,()) h9))) h9))
 (k25 (s22.1,()) h9))) h9))))
 (k4 (s22.1,()) h9)))
 (false,0,()) h5)))
 (0,()) h4)) h3)
 (loopP (S:=Sl×Int×Unit) (fun s31 k32 h12=>
 (ifP (decide (s31.2.1<(m2.len:Int)))
 (joinP (S:=Sl×Unit) (fun s33 h13=>
 (k32 (s33.1,(IntKind.i64.wrap (s31.2.1+1)),()) h13))
 (fun k34=>
 (idxP m2 s31.2.1 1 fun a35=>
 (ldL (.bool) a35 (fun x36=>
 (ifP (!x36)
 (appP 1 8 [.int .i64 0] s31.1 1 [.int .i64 s31.2.1] (fun w37 h14=>
 (k34 (w37,()) h14)) h12)
 (k34 (s31.1,()) h12))) h12))))
 (K s31.1 h12)))
 (nilS,0,()) h3)))
 (true,()) h2)) h1))) h)
def zcl (K:Bool→Hp→Prop) (h:Hp):Prop:=
 (newP [.int .i64 0,.int .i64 1,.int .i64 0,.int .i64 2,.int .i64 0,.int .i64 3,.int .i64 1,.int .i64 2,.int .i64 1,.int .i64 3,.int .i64 2,.int .i64 3] (fun p1 h1=>
 (newP [.int .i64 0,.int .i64 1,.int .i64 0,.int .i64 2,.int .i64 1,.int .i64 2] (fun p2 h2=>
 (callP (zfq) (fun r3 h3=>
 (callP (zgm (⟨4,(⟨some p1,6,6⟩:Sl)⟩:TGraph) r3) (fun r4 h4=>
 (callP (zj1 r4) (fun r5 h5=>
 (newP [.int .i64 0,.int .i64 1,.int .i64 2,.int .i64 3] (fun p6 h6=>
 (callP (zee r5.1 (⟨some p6,4,4⟩:Sl)) (fun r7 h7=>
 (ifP r7
 (newP [.int .i64 0,.int .i64 1,.int .i64 2,.int .i64 3,.int .i64 4,.int .i64 5] (fun p8 h8=>
 (callP (zee r5.2 (⟨some p8,6,6⟩:Sl)) (fun r9 h9=>
 (ifP r9
 (callP (zfq) (fun r10 h10=>
 (callP (zgm (⟨3,(⟨some p2,3,3⟩:Sl)⟩:TGraph) r10) (fun r11 h11=>
 (callP (zeb r11) (fun r12 h12=>
 (ifP r12
 (callP (zf3 (⟨3,(⟨some p2,3,3⟩:Sl)⟩:TGraph)) (fun r13 h13=>
 (ifP ((r13.len:Int)==0)
 (callP (zf3 (⟨4,(⟨some p1,6,6⟩:Sl)⟩:TGraph)) (fun r14 h14=>
 (newP [.int .i64 0,.int .i64 1,.int .i64 2,.int .i64 3] (fun p15 h15=>
 (callP (zee r14 (⟨some p15,4,4⟩:Sl)) (fun r16 h16=>
 (K r16 h16)) h15)) h14)) h13)
 (K false h13))) h12)
 (K false h12))) h11)) h10)) h9)
 (K false h9))) h8)) h7)
 (K false h7))) h6)) h5)) h4)) h3)) h2)) h1)) h)
def zhs (a:A2_Int) (b:A2_Int) (K:Bool→Hp→Prop) (h:Hp):Prop:=
 (ifP (decide (a.c0<b.c0))
 (K true h)
 (ifP (a.c0==b.c0)
 (K (decide (a.c1<b.c1)) h)
 (K false h)))
def zfs (g:TGraph) (K:Bool→Hp→Prop) (h:Hp):Prop:=
 (joinP (S:=Unit) (fun s1 h1=>
 (loopP (S:=Int×Unit) (fun s3 k4 h2=>
 (ifP (decide (s3.1<(g.edges.len:Int)))
 (joinP (S:=Unit) (fun s5 h3=>
 (k4 ((IntKind.i64.wrap (s3.1+1)),()) h3))
 (fun k6=>
 (idxP g.edges s3.1 2 fun a7=>
 (ldL (.int .i64) (a7.add 0) (fun x8_0=>
 (ldL (.int .i64) (a7.add 1) (fun x8_1=>
 (ifP (decide (x8_0<0))
 (K false h2)
 (ifP (decide (x8_0≥x8_1))
 (K false h2)
 (ifP (decide (x8_1≥g.n))
 (K false h2)
 (ifP (decide (s3.1>0))
 (idxP g.edges (IntKind.i64.wrap (s3.1-1)) 2 fun a9=>
 (ldL (.int .i64) (a9.add 0) (fun x10_0=>
 (ldL (.int .i64) (a9.add 1) (fun x10_1=>
 (callP (zhs (⟨x10_0,x10_1⟩:A2_Int) (⟨x8_0,x8_1⟩:A2_Int)) (fun r11 h4=>
 (ifP (!r11)
 (K false h4)
 (k6 () h4))) h2)) h2)) h2))
 (k6 () h2)))))) h2)) h2))))
 (K true h2)))
 (0,()) h1))
 (fun k2=>
 (ifP (decide (g.n<0))
 (K false h)
 (ifP (decide (g.n>60))
 (K false h)
 (k2 () h)))))
def zit (g:TGraph) (K:Sl→Hp→Prop) (h:Hp):Prop:=
 (callP (zfs g) (fun r1 h1=>
 (ifP (!r1)
 (K nilS h1)
 (loopP (S:=Sl×Int×Unit) (fun s2 k3 h2=>
 (ifP (decide (s2.2.1<g.n))
 (appP 1 8 [.int .i64 0] s2.1 1 [.int .i64 s2.2.1] (fun w4 h3=>
 (k3 (w4,(IntKind.i64.wrap (s2.2.1+1)),()) h3)) h2)
 (loopP (S:=Sl×Int×Unit) (fun s5 k6 h4=>
 (ifP (decide (s5.2.1≥0))
 (joinP (S:=Sl×Int×Unit) (fun s7 h5=>
 (k6 (s7.1,(IntKind.i64.wrap (s7.2.1-1)),()) h5))
 (fun k8=>
 (loopP (S:=Int×Int×Unit) (fun s9 k10 h6=>
 (ifP (decide (s9.2.1<(g.edges.len:Int)))
 (joinP (S:=Int×Unit) (fun s11 h7=>
 (k10 (s11.1,(IntKind.i64.wrap (s9.2.1+1)),()) h7))
 (fun k12=>
 (idxP g.edges s9.2.1 2 fun a13=>
 (ldL (.int .i64) (a13.add 0) (fun x14_0=>
 (ldL (.int .i64) (a13.add 1) (fun x14_1=>
 (callP (zm2 s5.1 x14_0) (fun r15 h8=>
 (ifP r15
 (callP (zm2 s5.1 x14_1) (fun r16 h9=>
 (ifP r16
 (idxP s5.1 s5.2.1 1 fun a17=>
 (ldL (.int .i64) a17 (fun x18=>
 (ifP (x14_0==x18)
 (k12 ((IntKind.i64.wrap (s9.1+1)),()) h9)
 (idxP s5.1 s5.2.1 1 fun a19=>
 (ldL (.int .i64) a19 (fun x20=>
 (ifP (x14_1==x20)
 (k12 ((IntKind.i64.wrap (s9.1+1)),()) h9)
 (k12 (s9.1,()) h9))) h9)))) h9))
 (k12 (s9.1,()) h9))) h8)
 (k12 (s9.1,()) h8))) h6)) h6)) h6))))
 (ifP (decide (s9.1≤2))
 (idxP s5.1 s5.2.1 1 fun a21=>
 (ldL (.int .i64) a21 (fun x22=>
 (callP (zh3 s5.1 x22) (fun r23 h10=>
 (k8 (r23,(r23.len:Int),()) h10)) h6)) h6))
 (k8 (s5.1,s5.2.1,()) h6))))
 (0,0,()) h4)))
 (K s5.1 h4)))
 (s2.1,(IntKind.i64.wrap ((s2.1.len:Int)-1)),()) h2)))
 (nilS,0,()) h1))) h)
def zkt (g:TGraph) (K:Bool→Hp→Prop) (h:Hp):Prop:=
 (K (decide ((g.edges.len:Int)≤100)) h)
def zhj (g:TGraph) (K:Bool→Hp→Prop) (h:Hp):Prop:=
 (joinP (S:=Unit) (fun s1 h1=>
 (callP (zf3 g) (fun r3 h2=>
 (callP (zit g) (fun r4 h3=>
 (callP (zee r3 r4) (fun r5 h4=>
 (K r5 h4)) h3)) h2)) h1))
 (fun k2=>
 (callP (zcl) (fun r6 h5=>
 (ifP (!r6)
 (callP (zcl) (fun r7 h6=>
 (K r7 h6)) h5)
 (callP (zkt g) (fun r8 h7=>
 (ifP (!r8)
 (callP (zcl) (fun r9 h8=>
 (K r9 h8)) h7)
 (k2 () h7))) h5))) h)))
def zod (l:Sl) (n:Int) (K:Bool→Hp→Prop) (h:Hp):Prop:=
 (loopP (S:=Int×Unit) (fun s1 k2 h1=>
 (ifP (decide (s1.1<(l.len:Int)))
 (idxP l s1.1 1 fun a3=>
 (ldL (.int .i64) a3 (fun x4=>
 (ifP (x4==n)
 (K true h1)
 (k2 ((IntKind.i64.wrap (s1.1+1)),()) h1))) h1))
 (K false h1)))
 (0,()) h)
def zh2 (g:TGraph) (points:Sl) (K:Sl→Hp→Prop) (h:Hp):Prop:=
 (loopP (S:=Sl×Int×Unit) (fun s1 k2 h1=>
 (ifP (decide (s1.2.1<(g.edges.len:Int)))
 (joinP (S:=Sl×Unit) (fun s3 h2=>
 (k2 (s3.1,(IntKind.i64.wrap (s1.2.1+1)),()) h2))
 (fun k4=>
 (callP (zfs g) (fun r5 h3=>
 (ifP r5
 (idxP g.edges s1.2.1 2 fun a6=>
 (ldL (.int .i64) (a6.add 0) (fun x7=>
 (callP (zod points x7) (fun r8 h4=>
 (ifP r8
 (idxP g.edges s1.2.1 2 fun a9=>
 (ldL (.int .i64) (a9.add 1) (fun x10=>
 (callP (zod points x10) (fun r11 h5=>
 (ifP r11
 (idxP g.edges s1.2.1 2 fun a12=>
 (ldL (.int .i64) (a12.add 0) (fun x13_0=>
 (ldL (.int .i64) (a12.add 1) (fun x13_1=>
 (appP 2 16 [.int .i64 0,.int .i64 0] s1.1 1 [.int .i64 x13_0,.int .i64 x13_1] (fun w14 h6=>
 (k4 (w14,()) h6)) h5)) h5)) h5))
 (k4 (s1.1,()) h5))) h4)) h4))
 (k4 (s1.1,()) h4))) h3)) h3))
 (k4 (s1.1,()) h3))) h1)))
 (K s1.1 h1)))
 (nilS,0,()) h)
def zi1 (g:TGraph) (K:Bool→Hp→Prop) (h:Hp):Prop:=
 (joinP (S:=Unit) (fun s1 h1=>
 (callP (zfq) (fun r3 h2=>
 (callP (zgm g r3) (fun r4 h3=>
 (callP (zj1 r4) (fun r5 h4=>
 (callP (zh2 g r5.1) (fun r6 h5=>
 (callP (zf3 g) (fun r7 h6=>
 (callP (zee r5.1 r7) (fun r8 h7=>
 (ifP r8
 (K ((r5.2.len:Int)==(r6.len:Int)) h7)
 (K false h7))) h6)) h5)) h4)) h3)) h2)) h1))
 (fun k2=>
 (callP (zcl) (fun r9 h8=>
 (ifP (!r9)
 (callP (zcl) (fun r10 h9=>
 (K r10 h9)) h8)
 (callP (zfs g) (fun r11 h10=>
 (ifP (!r11)
 (callP (zcl) (fun r12 h11=>
 (K r12 h11)) h10)
 (ifP (decide (g.n>8))
 (callP (zcl) (fun r13 h12=>
 (K r13 h12)) h10)
 (ifP (decide ((g.edges.len:Int)>20))
 (callP (zcl) (fun r14 h13=>
 (K r14 h13)) h10)
 (k2 () h10))))) h8))) h)))
end F
end Den
end

section
namespace Iv
def W:Nat:=4294967296
theorem W_pos:0<W:=by decide
theorem W_eq:W=4294967296:=rfl
def vl:List Nat→Nat
 | []=>0
 | x :: r=>x+W*vl r
def okW (l:List Nat):Prop:=∀d∈l,d<W
def trimL:List Nat→List Nat
 | []=>[]
 | x :: r=>match trimL r with
   | []=>if x=0 then [] else [x]
   | y :: t=>x :: y :: t
def dg (n:Nat):List Nat:=if h:n=0 then [] else (n % W) :: dg (n/W)
termination_by n
decreasing_by exact Nat.div_lt_self (Nat.pos_of_ne_zero h) (by decide)
theorem zcb:dg 0=[]:=by unfold dg; simp
theorem zl2 {n:Nat} (h:n≠0):dg n=(n % W) :: dg (n/W):=by conv=>lhs; unfold dg; rw [dif_neg h]
theorem vl_dg (n:Nat):vl (dg n)=n:=by
 induction n using Nat.strongRecOn with
 | _ n ih=>
   by_cases h:n=0
   · subst h; rw [zcb]; rfl
   · rw [zl2 h]
     simp only [vl]
     rw [ih (n/W) (Nat.div_lt_self (Nat.pos_of_ne_zero h) (by decide))]
     exact Nat.mod_add_div n W
theorem ok_dg (n:Nat):okW (dg n):=by
 induction n using Nat.strongRecOn with
 | _ n ih=>
   by_cases h:n=0
   · subst h; rw [zcb]; intro d hd; cases hd
   · rw [zl2 h]
     intro d hd
     rcases List.mem_cons.1 hd with rfl | hd
     · exact Nat.mod_lt _ W_pos
     · exact ih (n/W) (Nat.div_lt_self (Nat.pos_of_ne_zero h) (by decide)) d hd
theorem zfc {n:Nat}:dg n=[]↔n=0:=by
 constructor
 · intro h
   have:=vl_dg n
   rw [h] at this
   exact this.symm
 · rintro rfl; exact zcb
theorem zna {x:Nat} {r:List Nat} (h:okW (x :: r)):x<W∧okW r:=⟨h x List.mem_cons_self,fun d hd=>h d (List.mem_cons_of_mem _ hd)⟩
theorem zde:∀{l:List Nat},okW l→trimL l=dg (vl l)
 | [],_=>by simp [trimL,vl,zcb]
 | x :: r,h=>by
   obtain ⟨hx,hr⟩:=zna h
   have ih:=zde hr
   unfold trimL vl
   rw [ih]
   by_cases hv:vl r=0
   · rw [hv,zcb]
     simp only [Nat.mul_zero,Nat.add_zero]
     by_cases h0:x=0
     · rw [if_pos h0,h0,zcb]
     · rw [if_neg h0,zl2 h0,Nat.mod_eq_of_lt hx,Nat.div_eq_of_lt hx,zcb]
   · have hne:dg (vl r)≠[]:=fun hh=>hv (zfc.1 hh)
     have hpos:x+W*vl r≠0:=by
      have:0<W*vl r:=Nat.mul_pos W_pos (Nat.pos_of_ne_zero hv)
      omega
     rw [zl2 hpos,Nat.add_mul_mod_self_left,Nat.mod_eq_of_lt hx,Nat.add_mul_div_left _ _ W_pos,Nat.div_eq_of_lt hx,Nat.zero_add]
     cases hd:dg (vl r) with
     | nil=>exact absurd hd hne
     | cons y t=>rfl
theorem vl_lt:∀{l:List Nat},okW l→vl l<W ^ l.length
 | [],_=>by simp [vl]
 | x :: r,h=>by
   obtain ⟨hx,hr⟩:=zna h
   have ih:=vl_lt hr
   simp only [vl,List.length_cons,Nat.pow_succ]
   have:W*(vl r+1)≤W*W ^ r.length:=Nat.mul_le_mul_left _ ih
   rw [Nat.mul_comm (W ^ r.length)]
   rw [Nat.mul_add] at this
   omega
theorem zc2 {n k:Nat}:(dg n).length≤k↔n<W ^ k:=by
 constructor
 · intro h
   have h1:=vl_lt (ok_dg n)
   rw [vl_dg] at h1
   exact Nat.lt_of_lt_of_le h1 (Nat.pow_le_pow_right W_pos h)
 · induction k generalizing n with
   | zero=>
     intro h
     have:n=0:=by simp at h; exact h
     subst this; rw [zcb]; simp
   | succ k ih=>
     intro h
     by_cases hn:n=0
     · subst hn; rw [zcb]; simp
     · rw [zl2 hn]
       simp only [List.length_cons]
       have:n/W<W ^ k:=by
        rw [Nat.div_lt_iff_lt_mul W_pos]; rw [Nat.pow_succ] at h; exact h
       have:=ih this
       omega
theorem zja:∀(a b:List Nat),vl (a++b)=vl a+W ^ a.length*vl b
 | [],b=>by simp [vl]
 | x :: r,b=>by
   simp only [List.cons_append,vl,zja r b,List.length_cons,Nat.pow_succ]
   rw [Nat.mul_add,Nat.mul_comm (W ^ r.length) W,Nat.mul_assoc]; omega
theorem zx1 {l:List Nat} (hok:okW l) (ht:trimL l=l):l=dg (vl l):=ht.symm.trans (zde hok)
theorem zkf:∀{l:List Nat} {k v:Nat} (hk:k<l.length),vl (l.set k v)+W ^ k*l[k]=vl l+W ^ k*v
 | [],k,v,hk=>by simp at hk
 | x :: r,0,v,hk=>by simp [vl]; omega
 | x :: r,k+1,v,hk=>by
   have hk':k<r.length:=by simpa using hk
   have ih:=zkf (v:=v) hk'
   simp only [List.set_cons_succ,vl,List.getElem_cons_succ,Nat.pow_succ]
   have e1:W ^ k*W*r[k]=W*(W ^ k*r[k]):=by rw [Nat.mul_comm (W ^ k) W,Nat.mul_assoc]
   have e2:W ^ k*W*v=W*(W ^ k*v):=by rw [Nat.mul_comm (W ^ k) W,Nat.mul_assoc]
   rw [e1,e2]
   have:=congrArg (W*·) ih
   simp only [Nat.mul_add] at this
   omega
theorem zeu {l:List Nat} {k v:Nat} (hl:okW l) (hv:v<W):okW (l.set k v):=fun d hd=>by
 rcases List.mem_or_eq_of_mem_set hd with h | h
 · exact hl d h
 · rw [h]; exact hv
theorem zc4 {l:List Nat} {k:Nat} (hk:k<l.length):vl (l.take (k+1))=vl (l.take k)+W ^ k*l[k]:=by
 rw [List.take_succ_eq_append_getElem hk,zja,List.length_take,Nat.min_eq_left (by omega)]
 simp [vl]
theorem zco {l:List Nat} (hl:okW l) {k:Nat} (hk:k<l.length):l[k]<W:=hl _ (List.getElem_mem hk)
theorem zi7 {l:List Nat} (hl:okW l) (k:Nat):okW (l.take k):=fun d hd=>hl d (List.mem_of_mem_take hd)
theorem zpu {l:List Nat} (hl:okW l) (k:Nat):okW (l.drop k):=fun d hd=>hl d (List.mem_of_mem_drop hd)
theorem zqj {a b:List Nat} (ha:okW a) (hb:okW b):okW (a++b):=fun d hd=>(List.mem_append.1 hd).elim (ha d) (hb d)
theorem zcp {l:List Nat} {k:Nat} (hk:k≤l.length):vl l=vl (l.take k)+W ^ k*vl (l.drop k):=by
 have:=zja (l.take k) (l.drop k)
 rw [List.take_append_drop,List.length_take,Nat.min_eq_left hk] at this; exact this
theorem za7s (n:Nat):vl (List.replicate n 0)=0:=by
 induction n with
 | zero=>rfl
 | succ n ih=>rw [List.replicate_succ]; simp [vl,ih]
theorem zlb (n:Nat):okW (List.replicate n 0):=fun d hd=>by rw [(List.mem_replicate.1 hd).2]; decide
theorem za5h:okW []:=fun d hd=>by cases hd
theorem za2r (l:List Nat):(trimL l).length≤l.length:=by
 induction l with
 | nil=>exact Nat.le_refl _
 | cons x r ih=>
   unfold trimL
   split
   · split<;>simp
   · rename_i y t h
     rw [h] at ih
     simp only [List.length_cons] at ih ⊢; omega
theorem zij (l:List Nat):trimL (l++[0])=trimL l:=by
 induction l with
 | nil=>simp [trimL]
 | cons x r ih=>simp only [List.cons_append,trimL,ih]
theorem zjg (l:List Nat) {x:Nat} (hx:x≠0):trimL (l++[x])=l++[x]:=by
 induction l with
 | nil=>simp [trimL,hx]
 | cons y r ih=>
   simp only [List.cons_append,trimL,ih]
   cases h:r++[x] with
   | nil=>simp at h
   | cons a b=>rfl
end Iv
end

section
namespace Den
open Go Iv
def LeX (b:Nat) (h h':Hp):Prop:=∀k B,k≠b→h k=some B→h' k=some B
def apart (x y:Sl):Prop:=∀a b,x.a=some a→y.a=some b→a.block≠b.block
theorem zr8 {h1 h2 h3:Hp} {s s':Nat} {x y:Sl} {cs ds:List Value} (hx:Own h1 h2 s x cs) (hy:Own h2 h3 s' y ds):apart x y:=fun a b ha hb hh=>by
 obtain ⟨_,_,_,gx⟩:=hx
 obtain ⟨_,_,_,gy⟩:=hy
 rw [ha] at gx; rw [hb] at gy
 obtain ⟨_,_,_,B,g4,_⟩:=gx
 obtain ⟨_,_,g3,_⟩:=gy
 rw [hh,g3] at g4; cases g4
theorem znl {h h':Hp} {b:Nat} (hl:LeX b h h') {a:Addr} (ha:a.block≠b):∀{n:Nat} {l:List Value},cellsAt h a n=some l→cellsAt h' a n=some l
 | 0,_,e=>e
 | n+1,l,e=>by
   unfold cellsAt at *
   cases h1:cellsAt h a n with
   | none=>rw [h1] at e; cases e
   | some l1=>
     rw [h1] at e; rw [znl hl ha h1]; simp only at e ⊢
     have hc:∀v,h.cell (a.add n)=some v→h'.cell (a.add n)=some v:=fun v hv=>by
      unfold Hp.cell at *
      cases hs:(a.add n).spot with
      | some x=>rw [hs] at hv; cases hv
      | none=>
        rw [hs] at hv; simp only at hv ⊢
        rw [zb9] at hv ⊢
        cases hb:h a.block with
        | none=>rw [hb] at hv; cases hv
        | some B=>rw [hb] at hv; rw [hl _ _ ha hb]; exact hv
     cases h2:h.cell (a.add n) with
     | none=>rw [h2] at e; cases e
     | some v=>rw [h2] at e; rw [hc v h2]; exact e
theorem Rd.leX {h h':Hp} {b s:Nat} {y:Sl} {cs:List Value} (hr:Rd h s y cs) (hl:LeX b h h') (hne:∀a,y.a=some a→a.block≠b):Rd h' s y cs:=by
 refine ⟨hr.1,?_⟩
 have h2:=hr.2
 cases ha:y.a with
 | none=>rw [ha] at h2; exact h2
 | some a=>rw [ha] at h2; exact znl hl (hne a ha) h2
theorem Own.leX {h0 h h':Hp} {b s:Nat} {y:Sl} {cs:List Value} (hr:Own h0 h s y cs) (hl:LeX b h h') (h0b:h0 b=none) (hne:∀a,y.a=some a→a.block≠b):Own h0 h' s y cs:=by
 obtain ⟨h1,h2,h3,h4⟩:=hr
 refine ⟨fun k B hk=>?_,h2,h3,?_⟩
 · exact hl k B (fun hh=>by rw [hh,h0b] at hk; cases hk) (h1 k B hk)
 · cases ha:y.a with
   | none=>rw [ha] at h4; exact h4
   | some a=>
     rw [ha] at h4
     obtain ⟨g1,g2,g3,B,g4,g5⟩:=h4
     exact ⟨g1,g2,g3,B,hl _ _ (hne a ha) g4,g5⟩
theorem za40 {h0 h:Hp} {size:Nat} {x:Sl} {cs vs:List Value} {i:Int} {K:Hp→Prop} (k:Nat) (ho:Own h0 h size x cs) (hi:i=k) (hk:k<x.len) (hv:vs.length=size) (hsz:0<size) (hleaf:vs.all Value.leaf=true)
 (H:∀h' b,(∀a,x.a=some a→a.block=b)→h0 b=none→LeX b h h'→Own h0 h' size x (splice cs (k*size) vs)→K h'):idxP x i size fun a=>stP a vs K h:=by
 have ho':=ho
 obtain ⟨h1,h2,h3,h4⟩:=ho
 cases ha:x.a with
 | none=>rw [ha] at h4; simp only at h4; omega
 | some a=>
   rw [ha] at h4
   obtain ⟨g1,g2,g3,b,g4,g5,g6,g7⟩:=h4
   have key:=zsu (K:=fun h'=>LeX a.block h h'→K h') k ho' hi hk hv hsz hleaf (fun h' ho2 hl=>H h' a.block (fun a' ha'=>by rw [ha] at ha'; cases ha'; rfl) g3 hl ho2)
   obtain ⟨q1,q2,q3⟩:=key
   refine ⟨q1,q2,?_⟩
   rw [ha] at q3 ⊢
   simp only [ptrK] at q3 ⊢
   obtain ⟨B,r1,r2,r3,r4,r5,r6⟩:=q3
   refine ⟨B,r1,r2,r3,r4,r5,r6 ?_⟩
   rw [zb9]
   intro kk BB hne hkk
   rw [Hp.ins_ne hne]; exact hkk
def wc (l:List Nat):List Value:=l.map fun (n:Nat)=>Value.int .u32 (n:Int)
theorem zgv (l:List Nat):(wc l).length=l.length:=by simp [wc]
theorem za7u {l:List Nat} {k v:Nat} (hk:k<l.length):splice (wc l) (k*1) [.int .u32 (v:Int)]=wc (l.set k v):=by
 rw [Nat.mul_one,zhv]
 unfold wc
 rw [List.map_set]
 have hk':k<(l.map fun (n:Nat)=>Value.int .u32 (n:Int)).length:=by simpa using hk
 rw [List.set_eq_take_append_cons_drop,if_pos hk']
theorem za7t (n:Nat):repl n [Value.int .u32 0]=wc (List.replicate n 0):=by
 unfold repl wc; simp
theorem za0x (a b:List Nat):wc (a++b)=wc a++wc b:=by simp [wc]
def RdW (h:Hp) (x:Sl) (l:List Nat):Prop:=Rd h 1 x (wc l)∧x.len≤x.cap
abbrev OwnW (h0 h:Hp) (x:Sl) (l:List Nat):Prop:=Own h0 h 1 x (wc l)
theorem RdW.len {h:Hp} {x:Sl} {l:List Nat} (hr:RdW h x l):x.len=l.length:=by have:=hr.1.1; rw [zgv] at this; omega
theorem OwnW.rdW {h0 h:Hp} {x:Sl} {l:List Nat} (hr:OwnW h0 h x l):RdW h x l:=⟨hr.rd,hr.2.2.1⟩
theorem OwnW.len {h0 h:Hp} {x:Sl} {l:List Nat} (hr:OwnW h0 h x l):x.len=l.length:=RdW.len hr.rdW
theorem RdW.le {h h':Hp} {x:Sl} {l:List Nat} (hr:RdW h x l) (hl:h.le h'):RdW h' x l:=⟨hr.1.le hl,hr.2⟩
theorem RdW.nil {h:Hp}:RdW h nilS []:=⟨Rd.nil,Nat.le_refl _⟩
theorem RdW.leX {h h':Hp} {b:Nat} {y:Sl} {l:List Nat} (hr:RdW h y l) (hl:LeX b h h') (hne:∀a,y.a=some a→a.block≠b):RdW h' y l:=⟨hr.1.leX hl hne,hr.2⟩
theorem zop {h:Hp} {a:Addr} {l:List Value} (H:∀i v,l[i]?=some v→h.cell (a.add i)=some v):∀n,n≤l.length→cellsAt h a n=some (l.take n)
 | 0,_=>by simp [cellsAt]
 | n+1,hn=>by
   unfold cellsAt
   rw [zop H n (by omega)]
   have h1:l[n]?=some l[n]:=List.getElem?_eq_getElem (by omega)
   simp only [H n _ h1]
   rw [List.take_succ_eq_append_getElem (by omega)]
theorem Rd.cut {h:Hp} {x:Sl} {cs:List Value} (hr:Rd h 1 x cs) (lo hi:Nat) (h1:lo≤hi) (h2:hi≤cs.length) (h3:hi≤x.cap):Rd h 1 (x.cut lo hi 1) ((cs.drop lo).take (hi-lo)):=by
 have hlen:((cs.drop lo).take (hi-lo)).length=hi-lo:=by rw [List.length_take,List.length_drop]; omega
 refine ⟨by rw [hlen]; show (hi-lo)*1=_; omega,?_⟩
 rw [hlen]
 by_cases h0:hi=lo
 · have:hi-lo=0:=by omega
   rw [this]
   cases (x.cut lo hi 1).a<;>simp [cellsAtO,cellsAt]
 · have hne:x.cap≠lo:=by omega
   have ha:(x.cut lo hi 1).a=x.a.map (·.add (lo*1)):=by show (if x.cap=lo then _ else _)=_; rw [if_neg hne]
   rw [ha]
   have hr2:=hr.2
   cases hxa:x.a with
   | none=>
     rw [hxa] at hr2
     simp only [cellsAtO] at hr2
     split at hr2
     · omega
     · cases hr2
   | some a=>
     rw [hxa] at hr2
     simp only [cellsAtO] at hr2
     show cellsAt h (a.add (lo*1)) (hi-lo)=_
     have key:=zop (h:=h) (a:=a.add (lo*1)) (l:=cs.drop lo) (fun i v hv=>by
      rw [ze2]
      refine zgs hr2 _ v ?_
      rw [List.getElem?_drop] at hv
      rw [Nat.mul_one]; exact hv) (hi-lo) (by rw [List.length_drop]; omega)
     exact key
theorem RdW.cut {h:Hp} {x:Sl} {l:List Nat} (hr:RdW h x l) (lo hi:Nat) (h1:lo≤hi) (h2:hi≤l.length):RdW h (x.cut lo hi 1) ((l.drop lo).take (hi-lo)):=by
 have hl:=hr.len
 have hc:=hr.2
 refine ⟨?_,?_⟩
 · have:=hr.1.cut lo hi h1 (by rw [zgv]; exact h2) (by omega)
   unfold wc at *
   rw [List.map_take,List.map_drop]; exact this
 · show hi-lo≤x.cap-lo; omega
theorem za3z {h:Hp} {x:Sl} {l:List Nat} {lo hi:Int} {K:Sl→Prop} (a b:Nat) (hr:RdW h x l) (ha:lo=a) (hb:hi=b) (hab:a≤b) (hbl:b≤l.length)
 (H:RdW h (x.cut a b 1) ((l.drop a).take (b-a))→K (x.cut a b 1)):slP x lo hi 1 K:=by
 subst ha hb
 have hl:=hr.len
 have hc:=hr.2
 exact ⟨by omega,by omega,by omega,H (hr.cut a b hab hbl)⟩
theorem zbi {h:Hp} {x:Sl} {l:List Nat} {i:Int} {Ka:Addr→Prop} (k:Nat) (hr:RdW h x l) (hi:i=k) (hk:k<l.length)
 (H:∀a,h.cell a=some (.int .u32 (l[k]:Int))→Ka a):idxP x i 1 Ka:=
 zpc k hr.1 hi (v:=.int .u32 (l[k]:Int)) (by simp [wc,hk]) H
theorem zgq {h0 h:Hp} {x:Sl} {l:List Nat} {i:Int} {v:Int} {K:Hp→Prop} (k n:Nat) (ho:OwnW h0 h x l) (hi:i=k) (hk:k<l.length) (hv:v=n)
 (H:∀h' b,(∀a,x.a=some a→a.block=b)→h0 b=none→LeX b h h'→OwnW h0 h' x (l.set k n)→K h'):idxP x i 1 fun a=>stP a [.int .u32 v] K h:=by
 subst hv
 refine za40 k ho hi (by rw [ho.len]; exact hk) rfl (by decide) rfl fun h' b h1 h2 h3 h4=>H h' b h1 h2 h3 ?_
 rw [za7u hk] at h4; exact h4
theorem zi5 {h:Hp} {len cap:Int} {K:Sl→Hp→Prop} (l c:Nat) (hl:len=l) (hc:cap=c) (hlc:l≤c) (hb:c≤35184372088832)
 (H:∀x h',x.len=l→OwnW h h' x (List.replicate l 0)→K x h'):mkP len cap 4 [.int .u32 0] K h:=by
 refine zs7 (size:=1) l c hl hc hlc (by omega) (by omega) rfl fun x h' hx _ ho=>H x h' hx ?_
 rw [za7t] at ho; exact ho
theorem zra {h0 h:Hp} {x:Sl} {l:List Nat} {v:Int} {K:Sl→Hp→Prop} (n:Nat) (ho:OwnW h0 h x l) (hv:v=n) (hb:l.length<35184372088832)
 (H:∀y h',OwnW h0 h' y (l++[n])→K y h'):appP 1 4 [.int .u32 0] x 1 [.int .u32 v] K h:=by
 subst hv
 have hl:=ho.len
 refine zh9 ho (n:=1) rfl rfl rfl (by omega) (by omega) fun y h' hy hyl=>H y h' ?_
 unfold OwnW
 rw [za0x]; exact hy
theorem u64n {n:Nat} (h:n<18446744073709551616):IntKind.u64.wrap (n:Int)=(n:Int):=wu64 (by omega)
theorem u32n (n:Nat):IntKind.u32.wrap (n:Int)=((n % W:Nat):Int):=by
 simp [IntKind.wrap,IntKind.signed,IntKind.bits,W]
theorem i64n {n:Nat} (h:n<9223372036854775808):IntKind.i64.wrap (n:Int)=(n:Int):=w64 (by omega)
theorem shr32 (n:Nat):((n:Int)).fdiv (2 ^ (min (32:Int).toNat IntKind.u64.bits))=((n/W:Nat):Int):=by
 have:(2:Int) ^ (min (32:Int).toNat IntKind.u64.bits)=((4294967296:Nat):Int):=by decide
 rw [this]
 show ((n:Int)).fdiv ((4294967296:Nat):Int)=((n/4294967296:Nat):Int)
 exact Int.ofNat_fdiv n 4294967296 |>.symm
theorem mac {c x y z:Nat} (hc:c<W) (hx:x<W) (hy:y<W) (hz:z<W) :
 IntKind.u64.wrap ((c:Int)+IntKind.u64.wrap (IntKind.u64.wrap (IntKind.u64.wrap (x:Int)*IntKind.u64.wrap (y:Int))+IntKind.u64.wrap (z:Int)))=((c+(x*y+z):Nat):Int):=by
 unfold W at *
 have hxy:x*y≤4294967295*4294967295:=Nat.mul_le_mul (by omega) (by omega)
 rw [u64n (n:=x) (by omega),u64n (n:=y) (by omega),u64n (n:=z) (by omega)]
 rw [show ((x:Int)*(y:Int))=((x*y:Nat):Int) by simp,u64n (n:=x*y) (by omega)]
 rw [show (((x*y:Nat):Int)+(z:Int))=((x*y+z:Nat):Int) by simp,u64n (n:=x*y+z) (by omega)]
 rw [show ((c:Int)+((x*y+z:Nat):Int))=((c+(x*y+z):Nat):Int) by simp,u64n (by omega)]
theorem za5a {c x y z:Nat} (hc:c<W) (hx:x<W) (hy:y<W) (hz:z<W):(c+(x*y+z))/W<W:=by
 rw [Nat.div_lt_iff_lt_mul W_pos]
 unfold W at *
 have hxy:x*y≤4294967295*4294967295:=Nat.mul_le_mul (by omega) (by omega)
 omega
end Den
end

section
namespace Den
open Go Iv
namespace Hp
def del (h:Hp) (b:Nat):Hp:=fun k=>if k=b then none else h k
def one (h:Hp) (b:Nat):Hp:=fun k=>if k=b then h k else none
theorem del_le (h:Hp) (b:Nat):(h.del b).le h:=fun k B hk=>by
 unfold del at hk; split at hk
 · cases hk
 · exact hk
theorem del_same (h:Hp) (b:Nat):(h.del b) b=none:=by simp [del]
theorem add_assoc' (a b c:Hp):(a.add b).add c=a.add (b.add c):=by
 funext k; unfold add; cases a k<;>rfl
end Hp
theorem ztj {α:Type} {G:(α→Hp→Prop)→Hp→Prop} {K1 K:α→Hp→Prop} {D O:Hp} (hd:D.dj O) (H:callP G K1 D) (k:∀v D',D.le D'→D'.dj O→K1 v D'→K v (D'.add O)):callP G K (D.add O):=by
 obtain ⟨D1,O1,Q,h1,h2,h3,h4⟩:=H
 refine ⟨D1,O1.add O,Q,?_,?_,h3,fun v D' hq=>⟨(h4 v D' hq).1,fun hdj hfin=>?_⟩⟩
 · intro k
   rcases h1 k with h5 | h5
   · exact .inl h5
   · rcases hd k with h6 | h6
     · rw [h2] at h6; exact .inl (Hp.add_none.1 h6).1
     · exact .inr (Hp.add_none.2 ⟨h5,h6⟩)
 · rw [h2,Hp.add_assoc']
 · have h5:=h4 v D' hq
   have hdj1:D'.dj O1:=fun k=>by
    rcases hdj k with h6 | h6
    · exact .inl h6
    · exact .inr (Hp.add_none.1 h6).1
   have hdj2:(D'.add O1).dj O:=fun k=>by
    rcases hdj k with h6 | h6
    · rcases hd k with h7 | h7
      · rw [h2] at h7; exact .inl (Hp.add_none.2 ⟨h6,(Hp.add_none.1 h7).2⟩)
      · exact .inr h7
    · exact .inr (Hp.add_none.1 h6).2
   have hfin1:(D'.add O1).Fin:=Hp.Fin.sub hfin fun k hk=>by
    rw [←Hp.add_assoc'] at hk; exact (Hp.add_none.1 hk).1
   have h6:=h5.2 hdj1 hfin1
   rw [←Hp.add_assoc']
   refine k v _ ?_ hdj2 h6
   rw [h2]
   exact Hp.add_mono h5.1 hdj1
end Den
end

section
namespace Den
open Go Iv
section
variable {h : Hp} {x y : Sl} {l m : List Nat} {Ks : Sl → Hp → Prop} {Ki : Int → Hp → Prop} {Kb : Bool → Hp → Prop}
def InM (y x:Sl):Prop:=∀a,y.a=some a→∃a',x.a=some a'∧a.block=a'.block
theorem InM.rfl {x:Sl}:InM x x:=fun a ha=>⟨a,ha,Eq.refl _⟩
theorem InM.trans {x y z:Sl} (h1:InM x y) (h2:InM y z):InM x z:=fun a ha=>by
 obtain ⟨a',h3,h4⟩:=h1 a ha
 obtain ⟨a2,h5,h6⟩:=h2 a' h3
 exact ⟨a2,h5,h4.trans h6⟩
theorem InM.cut {x:Sl} {lo hi n:Nat}:InM (x.cut lo hi n) x:=fun a ha=>by
 have ha':(if x.cap=lo then x.a else x.a.map (·.add (lo*n)))=some a:=ha
 split at ha'
 · exact ⟨a,ha',Eq.refl _⟩
 · cases hx:x.a with
   | none=>rw [hx] at ha'; cases ha'
   | some a'=>
     rw [hx] at ha'
     simp only [Option.map_some,Option.some.injEq] at ha'
     subst ha'
     exact ⟨a',Eq.refl _,zb9 _ _⟩
theorem zn2 {Kf:Sl→Hp→Prop} (hr:RdW h x l) (hl:l.length<4611686018427387904) (H:∀y,RdW h y (trimL l)→InM y x→Kf y h) :
 loopP (S:=Sl×Unit) (fun s1 k2 h1=>
  (joinP (S:=Unit) (fun s3 h2=>(slP s1.1 0 (IntKind.i64.wrap ((s1.1.len:Int)-1)) 1 fun c5=>(k2 (c5,()) h2)))
  (fun k4=>(ifP (decide ((s1.1.len:Int)>0)) (idxP s1.1 (IntKind.i64.wrap ((s1.1.len:Int)-1)) 1 fun a6=>(ldL (.int .u32) a6 (fun x7=>(ifP (x7==0) (k4 () h1) (Kf s1.1 h1))) h1)) (Kf s1.1 h1)))))
  (x,()) h:=by
 refine zbb (fun st h'=>h'=h∧∃(y:Sl) (k:Nat),st=(y,())∧k≤l.length∧RdW h y (l.take k)∧trimL (l.take k)=trimL l∧InM y x) (fun st=>st.1.len)
  ⟨rfl,x,l.length,rfl,Nat.le_refl _,by rw [List.take_of_length_le (Nat.le_refl _)]; exact hr,by rw [List.take_of_length_le (Nat.le_refl _)],InM.rfl⟩ ?_
 rintro st h' ⟨rfl,y,k,rfl,hk,hy,ht,hsub⟩
 have hyl:=hy.len
 rw [List.length_take,Nat.min_eq_left hk] at hyl
 refine za5 (fun _ h1=>h1=h'∧∃j,k=j+1∧∃hj:j<l.length,l[j]=0) ?_ ?_
 · rintro _ h1 ⟨rfl,j,rfl,hj,h0⟩
   refine za3z 0 j hy rfl (by simp only; rw [hyl,w64 (by omega)]; omega) (Nat.zero_le _) (by rw [List.length_take]; omega) fun hc=>?_
   have e:((l.take (j+1)).drop 0).take (j-0)=l.take j:=by
    rw [List.drop_zero,Nat.sub_zero,List.take_take]; congr 1; omega
   rw [e] at hc
   refine ⟨⟨rfl,_,j,rfl,by omega,hc,?_,InM.cut.trans hsub⟩,?_⟩
   · rw [←ht,List.take_succ_eq_append_getElem hj,h0,zij]
   · show j-0<y.len; omega
 · refine za1 (fun h1=>?_) (fun h1=>?_)
   · simp only at h1
     obtain ⟨j,rfl⟩:∃j,k=j+1:=⟨k-1,by omega⟩
     have hj:j<l.length:=by omega
     refine zbi j hy (by simp only; rw [hyl,w64 (by omega)]; omega) (by rw [List.length_take]; omega) fun a ha=>⟨_,ha,?_⟩
     have e:(l.take (j+1))[j]'(by rw [List.length_take]; omega)=l[j]:=by simp
     rw [e]
     refine zae (fun h2=>⟨rfl,j,rfl,hj,by omega⟩) (fun h2=>?_)
     have h3:l[j]≠0:=by omega
     have:trimL (l.take (j+1))=l.take (j+1):=by
      rw [List.take_succ_eq_append_getElem hj,zjg _ h3]
     rw [←ht,this] at H
     exact H y hy hsub
   · simp only at h1
     have:k=0:=by omega
     subst this
     rw [←ht] at H
     exact H y hy hsub
theorem za41 (hr:RdW h x l) (hl:l.length<4611686018427387904) (H:∀y,RdW h y (trimL l)→Ks y h):F.zac x Ks h:=zn2 hr hl fun y hy _=>H y hy
theorem za2a (hr:RdW h x l) (hl:l.length<4611686018427387904) (H:∀y,RdW h y (trimL l)→Ks y h):F.zhr x Ks h:=zn2 hr hl fun y hy _=>H y hy
theorem zwl (hr:RdW h x l) (hl:l.length<4611686018427387904) (H:∀y,RdW h y (trimL l)→InM y x→Ks y h):callP (F.zac x) Ks h:=
 za0 (fun y h'=>h'=h∧RdW h y (trimL l)∧InM y x) (fun K' hk=>zn2 hr hl fun y hy hs=>hk y h (Hp.le_refl _) ⟨rfl,hy,hs⟩) fun y h' _ ⟨e,hy,hs⟩=>by subst e; exact H y hy hs
theorem zeh (hr:RdW h x l) (hl:l.length<4611686018427387904) (H:∀y,RdW h y (trimL l)→Ks y h):callP (F.zac x) Ks h:=
 za0 (fun y h'=>h'=h∧RdW h y (trimL l)) (fun K' hk=>za41 hr hl fun y hy=>hk y h (Hp.le_refl _) ⟨rfl,hy⟩) fun y h' _ ⟨e,hy⟩=>by subst e; exact H y hy
theorem zpd (hr:RdW h x l) (hl:l.length<4611686018427387904) (H:∀y,RdW h y (trimL l)→Ks y h):callP (F.zhr x) Ks h:=
 za0 (fun y h'=>h'=h∧RdW h y (trimL l)) (fun K' hk=>za2a hr hl fun y hy=>hk y h (Hp.le_refl _) ⟨rfl,hy⟩) fun y h' _ ⟨e,hy⟩=>by subst e; exact H y hy
theorem zwj {Kf:Sl→Hp→Prop} {h0:Hp} {a b:Sl} {la lb:List Nat} (ha:RdW h0 a la) (hb:RdW h0 b lb) (oa:okW la) (ob:okW lb) (hl:la.length+lb.length≤35184372088800)
 (ho:OwnW h0 h x (List.replicate (la.length+lb.length) 0)) (H:∀h' l,OwnW h0 h' x l→okW l→l.length=la.length+lb.length→vl l=vl la*vl lb→Kf x h') :
 loopP (S:=Int×Unit) (fun s4 k5 h3=>
  (ifP (decide (s4.1<(a.len:Int)))
  (idxP a s4.1 1 fun a6=>
  (ldL (.int .u32) a6 (fun x7=>
  (loopP (S:=Int×Int×Unit) (fun s8 k9 h4=>
  (ifP (decide (s8.2.1<(b.len:Int)))
  (idxP b s8.2.1 1 fun a10=>
  (ldL (.int .u32) a10 (fun x11=>
  (idxP x (IntKind.i64.wrap (s4.1+s8.2.1)) 1 fun a12=>
  (ldL (.int .u32) a12 (fun x13=>
  (idxP x (IntKind.i64.wrap (s4.1+s8.2.1)) 1 fun a14=>
  (stP a14 [.int .u32 (IntKind.u32.wrap ((IntKind.u64.wrap (s8.1+(IntKind.u64.wrap ((IntKind.u64.wrap ((IntKind.u64.wrap (x7))*(IntKind.u64.wrap (x11))))+(IntKind.u64.wrap (x13))))))))] (fun h5=>
  (0≤(32:Int) ∧
  (k9 (((IntKind.u64.wrap (s8.1+(IntKind.u64.wrap ((IntKind.u64.wrap ((IntKind.u64.wrap (x7))*(IntKind.u64.wrap (x11))))+(IntKind.u64.wrap (x13)))))):Int).fdiv (2 ^ (min (32:Int).toNat IntKind.u64.bits)),(IntKind.i64.wrap (s8.2.1+1)),()) h5))) h4))) h4))) h4))
  (idxP x (IntKind.i64.wrap (s4.1+(b.len:Int))) 1 fun a15=>
  (stP a15 [.int .u32 (IntKind.u32.wrap (s8.1))] (fun h6=>
  (k5 ((IntKind.i64.wrap (s4.1+1)),()) h6)) h4))))
  (0,0,()) h3)) h3))
  (Kf x h3)))
  (0,()) h:=by
 have hal:=ha.len
 have hbl:=hb.len
 refine zbb (fun st h'=>∃(i:Nat) (l:List Nat),st=((i:Int),())∧i≤la.length∧OwnW h0 h' x l∧okW l∧l.length=la.length+lb.length∧vl l=vl (la.take i)*vl lb∧∀j (hj:j<l.length),i+lb.length≤j→l[j]=0)
  (fun st=>((la.length:Int)-st.1).toNat) ⟨0,_,rfl,Nat.zero_le _,ho,zlb _,by simp,by rw [za7s]; simp [vl],fun j hj _=>by simp⟩ ?_
 rintro st h1 ⟨i,l,rfl,hi,ho1,okl,hll,hv,hz⟩
 refine za1 (fun h2=>?_) (fun h2=>?_)
 · simp only at h2
   have hi':i<la.length:=by omega
   have hxi:=zco oa hi'
   refine zbi i (ha.le ho1.1) rfl hi' fun aa haa=>⟨_,haa,?_⟩
   refine zbb (fun st h'=>∃(k c:Nat) (l':List Nat),st=((c:Int),(k:Int),())∧k≤lb.length∧c<W∧OwnW h0 h' x l'∧okW l'∧l'.length=la.length+lb.length ∧
    vl l'+W ^ (i+k)*c=vl l+W ^ i*(la[i]*vl (lb.take k))∧∀j (hj:j<l'.length),i+lb.length≤j→l'[j]=0)
    (fun st=>((lb.length:Int)-st.2.1).toNat) ⟨0,0,l,rfl,Nat.zero_le _,by decide,ho1,okl,hll,by simp [vl],hz⟩ ?_
   rintro st h3 ⟨k,c,l',rfl,hk,hc,ho3,okl',hll',hv',hz'⟩
   refine za1 (fun h4=>?_) (fun h4=>?_)
   · simp only at h4
     have hk':k<lb.length:=by omega
     have hyk:=zco ob hk'
     have hik:i+k<l'.length:=by omega
     have hzk:=zco okl' hik
     have wik:IntKind.i64.wrap ((i:Int)+(k:Int))=((i+k:Nat):Int):=by rw [w64 (by omega)]; omega
     refine zbi k (hb.le ho3.1) rfl hk' fun a1 ha1=>⟨_,ha1,?_⟩
     simp only
     rw [wik]
     refine zbi (i+k) ho3.rdW rfl hik fun a2 ha2=>⟨_,ha2,?_⟩
     simp only
     rw [mac hc hxi hyk hzk]
     refine zgq (i+k) _ ho3 rfl hik (u32n _) fun h5 b5 _ _ _ ho5=>⟨by decide,?_⟩
     rw [shr32]
     refine ⟨⟨k+1,_,_,by rw [w64 (by omega)]; rfl,by omega,za5a hc hxi hyk hzk,ho5,zeu okl' (Nat.mod_lt _ W_pos),by simp [hll'],?_,?_⟩,by rw [w64 (by omega)]; omega⟩
     · have e1:=zkf (l:=l') (k:=i+k) (v:=(c+(la[i]*lb[k]+l'[i+k])) % W) hik
       have e2:=Nat.mod_add_div (c+(la[i]*lb[k]+l'[i+k])) W
       have e3:=zc4 hk'
       rw [e3]
       generalize vl (l'.set (i+k) ((c+(la[i]*lb[k]+l'[i+k])) % W))=V at e1 ⊢
       generalize hr:(c+(la[i]*lb[k]+l'[i+k])) % W=r at *
       generalize hq:(c+(la[i]*lb[k]+l'[i+k]))/W=q at *
       generalize vl l'=V' at *
       generalize vl l=V0 at *
       generalize l'[i+k]=z at *
       generalize la[i]=xx at *
       generalize lb[k]=yy at *
       generalize vl (lb.take k)=T at *
       have p1:W ^ (i+(k+1))=W ^ (i+k)*W:=by rw [←Nat.add_assoc,Nat.pow_succ]
       have p2:W ^ (i+k)=W ^ i*W ^ k:=Nat.pow_add ..
       rw [p1]
       generalize W ^ (i+k)=P at *
       subst p2
       generalize W ^ i=Pi at *
       generalize W ^ k=Pk at *
       grind
     · intro j hj hjl
       rw [List.length_set] at hj
       rw [List.getElem_set_ne (by omega)]
       exact hz' j hj hjl
   · simp only at h4
     have hk':k=lb.length:=by omega
     subst hk'
     have hil:i+lb.length<l'.length:=by omega
     have w1:IntKind.i64.wrap ((i:Int)+(b.len:Int))=((i+lb.length:Nat):Int):=by rw [hbl,w64 (by omega)]; omega
     simp only
     rw [w1]
     refine zgq (i+lb.length) c ho3 rfl hil (by rw [u32n,Nat.mod_eq_of_lt hc]) fun h5 b5 _ _ _ ho5=>?_
     refine ⟨⟨i+1,_,by rw [w64 (by omega)]; rfl,by omega,ho5,zeu okl' hc,by simp [hll'],?_,?_⟩,by rw [w64 (by omega)]; omega⟩
     · have e1:=zkf (l:=l') (k:=i+lb.length) (v:=c) hil
       rw [hz' _ hil (Nat.le_refl _)] at e1
       rw [List.take_of_length_le (Nat.le_refl _)] at hv'
       rw [zc4 hi',Nat.add_mul]
       rw [Nat.mul_assoc]
       omega
     · intro j hj hjl
       rw [List.length_set] at hj
       rw [List.getElem_set_ne (by omega)]
       exact hz' j hj (by omega)
 · simp only at h2
   have:i=la.length:=by omega
   subst this
   rw [List.take_of_length_le (Nat.le_refl _)] at hv
   exact H h1 l ho1 okl hll hv
end
end Den
end

section
namespace Den
open Go Iv
theorem zkh {α:Type} {G:(α→Hp→Prop)→Hp→Prop} {K:α→Hp→Prop} {h:Hp} (R:α→Prop) (H:∀K':α→Hp→Prop,(∀v,R v→K' v h)→G K' h) (k:∀v,R v→K v h):callP G K h:=
 za0 (fun v h'=>h'=h∧R v) (fun K' hk=>H K' fun v hv=>hk v h (Hp.le_refl _) ⟨rfl,hv⟩) fun v h' _ ⟨e,hv⟩=>by subst e; exact k v hv
def cmpN (m n:Nat):Int:=if m<n then -1 else if n<m then 1 else 0
def sg (neg:Bool) (n:Nat):Int:=if neg=true then -(n:Int) else n
def NI (h:Hp) (x:TInt) (n:Int):Prop:=RdW h x.mag (dg n.natAbs)∧x.neg=decide (n<0)
theorem NI.le {h h':Hp} {x:TInt} {n:Int} (hx:NI h x n) (hl:h.le h'):NI h' x n:=⟨hx.1.le hl,hx.2⟩
theorem NI.zero {h:Hp}:NI h ⟨false,nilS⟩ 0:=⟨by rw [show (0:Int).natAbs=0 from rfl,zcb]; exact RdW.nil,by simp⟩
theorem zt0:∀{a b:List Nat} (i:Nat),okW a→okW b→a.length=b.length→(hi:i<a.length)→(hi':i<b.length)→a.drop (i+1)=b.drop (i+1)→a[i]<b[i]→vl a<vl b
 | [],_,i,_,_,_,hi,_,_,_=>by simp at hi
 | x :: r,[],i,_,_,hl,_,_,_,_=>by simp at hl
 | x :: r,y :: t,0,ha,hb,hl,hi,hi',hd,hlt=>by
   simp only [Nat.zero_add,List.drop_succ_cons,List.drop_zero] at hd
   subst hd
   simp only [List.getElem_cons_zero] at hlt
   simp only [vl]; omega
 | x :: r,y :: t,i+1,ha,hb,hl,hi,hi',hd,hlt=>by
   obtain ⟨hx,hr⟩:=zna ha
   obtain ⟨hy,ht⟩:=zna hb
   have:=zt0 (a:=r) (b:=t) i hr ht (by simpa using hl) (by simpa using hi) (by simpa using hi') (by simpa using hd) (by simpa using hlt)
   simp only [vl]
   have h2:W*(vl r+1)≤W*vl t:=Nat.mul_le_mul_left _ this
   rw [Nat.mul_add] at h2; omega
theorem zqb {m n:Nat} (h:(dg m).length<(dg n).length):m<n:=by
 rcases Nat.lt_or_ge m n with h1 | h1
 · exact h1
 · exfalso
   have h2:=zc2.1 (Nat.le_refl (dg m).length)
   have h3:(dg n).length≤(dg m).length:=zc2.2 (Nat.lt_of_le_of_lt h1 h2)
   omega
section
variable {h : Hp} {x y : Sl} {l m : List Nat} {Ks : Sl → Hp → Prop} {Ki : Int → Hp → Prop} {Kb : Bool → Hp → Prop} {KI : TInt → Hp → Prop}
theorem zpf (neg:Bool) (n:Nat):(sg neg n).natAbs=n:=by unfold sg; split<;>simp
theorem za0d {neg:Bool} (hr:RdW h x l) (ok:okW l) (hl:l.length<4611686018427387904) (H:∀y,NI h y (sg neg (vl l))→KI y h):F.zbv neg x KI h:=by
 unfold F.zbv
 refine zeh hr hl fun y hy=>?_
 rw [zde ok] at hy
 have hyl:=hy.len
 refine zae (fun h1=>?_) (fun h1=>?_)
 · have h0:vl l=0:=zfc.1 (List.length_eq_zero_iff.1 (by omega))
   refine H _ ?_
   rw [h0]
   have:sg neg 0=0:=by unfold sg; split<;>rfl
   rw [this]; exact NI.zero
 · refine H _ ⟨by rw [zpf]; exact hy,?_⟩
   have hpos:vl l≠0:=fun h0=>by rw [h0,zcb] at hyl; exact h1 (by rw [hyl]; rfl)
   unfold sg
   cases neg
   · simp
   · simp; omega
theorem zwb {neg:Bool} (hr:RdW h x l) (ok:okW l) (hl:l.length<4611686018427387904) (H:∀y,NI h y (sg neg (vl l))→KI y h):F.ze6 neg x KI h:=by
 unfold F.ze6
 refine zpd hr hl fun y hy=>?_
 rw [zde ok] at hy
 have hyl:=hy.len
 have hz:(vl l=0)↔(dg (vl l)).length=0:=by rw [List.length_eq_zero_iff,zfc]
 refine za7 (fun h1=>?_) (fun h1=>?_)
 · refine H _ ⟨by rw [zpf]; exact hy,?_⟩
   rw [h1]
   unfold sg
   simp only [if_true]
   congr 1
   apply propext
   omega
 · refine H _ ⟨by rw [zpf]; exact hy,?_⟩
   rw [h1]
   unfold sg
   simp
theorem zkx {neg:Bool} (hr:RdW h x l) (ok:okW l) (hl:l.length<4611686018427387904) (H:∀y,NI h y (sg neg (vl l))→KI y h):callP (F.zbv neg x) KI h:=
 zkh _ (fun K'=>za0d hr ok hl) H
theorem zso {neg:Bool} (hr:RdW h x l) (ok:okW l) (hl:l.length<4611686018427387904) (H:∀y,NI h y (sg neg (vl l))→KI y h):callP (F.ze6 neg x) KI h:=
 zkh _ (fun K'=>zwb hr ok hl) H
theorem zln (hr:RdW h x l) (hl:l.length≤35184372088800) (H:∀y h',h.le h'→RdW h' y l→Ks y h'):callP (F.zax x) Ks h:=by
 refine za0 (fun y h'=>RdW h' y l) (fun K' hk=>?_) H
 unfold F.zax
 have hlen:=hr.len
 refine za7 (fun h1=>?_) (fun h1=>?_)
 · have hn:x.a=none:=by cases hx:x.a with | none=>rfl | some a=>rw [hx] at h1; cases h1
   have:l=[]:=by
    have h2:=hr.1.2
    rw [hn] at h2
    simp only [cellsAtO] at h2
    split at h2
    · rename_i h3; rw [zgv] at h3; exact List.length_eq_zero_iff.1 h3
    · cases h2
   subst this
   exact hk _ _ (Hp.le_refl _) RdW.nil
 · refine zi6 (n:=0) (size:=1) rfl fun b h1 hb ho=>?_
   have hr1:=hr.le ho.1
   refine ⟨wc l,?_,?_⟩
   · have:=hr1.1.2
     rw [zgv] at this
     rw [hlen,Nat.mul_one]; exact this
   · refine zh9 ho (n:=x.len) (by rw [zgv]; omega) rfl ?_ (by simp only; omega) (by simp only; omega) fun y h2 hy _=>hk _ _ hy.1 ⟨hy.rd,hy.2.2.1⟩
     simp [wc,Value.leaf]
theorem ztu {n:Nat} (hn:n<18446744073709551616) (H:∀y h',h.le h'→RdW h' y (dg n)→Ks y h'):F.zbx n Ks h:=by
 unfold F.zbx
 refine ⟨by decide,?_⟩
 rw [u32n,shr32,u32n]
 have hq:n/W<W:=by unfold W; omega
 rw [Nat.mod_eq_of_lt hq]
 refine zi6 (n:=2) (size:=1) rfl fun b h1 hb ho=>?_
 have ho':OwnW h h1 ⟨some ⟨b,0,none⟩,2,2⟩ [n % W,n/W]:=ho
 have ok:okW [n % W,n/W]:=fun d hd=>by
  simp only [List.mem_cons,List.not_mem_nil,or_false] at hd
  rcases hd with rfl | rfl
  · exact Nat.mod_lt _ W_pos
  · exact hq
 refine zeh ho'.rdW (by simp) fun y hy=>?_
 rw [zde ok] at hy
 have:vl [n % W,n/W]=n:=by simp only [vl,Nat.mul_zero,Nat.add_zero]; exact Nat.mod_add_div n W
 rw [this] at hy
 exact H _ _ ho.1 hy
theorem zfe {n:Nat} {i:Int} (hi:i=n) (hn:n<18446744073709551616) (H:∀y h',h.le h'→RdW h' y (dg n)→Ks y h'):callP (F.zbx i) Ks h:=by
 subst hi
 exact za0 _ (fun K'=>ztu hn) H
theorem za2v {n:Nat} (hn:n<18446744073709551616) (H:∀y h',h.le h'→RdW h' y (dg n)→Ks y h'):F.zfr n Ks h:=by
 unfold F.zfr
 refine ⟨by decide,?_⟩
 rw [u32n,shr32,u32n]
 have hq:n/W<W:=by unfold W; omega
 rw [Nat.mod_eq_of_lt hq]
 refine zi6 (n:=2) (size:=1) rfl fun b h1 hb ho=>?_
 have ho':OwnW h h1 ⟨some ⟨b,0,none⟩,2,2⟩ [n % W,n/W]:=ho
 have ok:okW [n % W,n/W]:=fun d hd=>by
  simp only [List.mem_cons,List.not_mem_nil,or_false] at hd
  rcases hd with rfl | rfl
  · exact Nat.mod_lt _ W_pos
  · exact hq
 refine zpd ho'.rdW (by simp) fun y hy=>?_
 rw [zde ok] at hy
 have:vl [n % W,n/W]=n:=by simp only [vl,Nat.mul_zero,Nat.add_zero]; exact Nat.mod_add_div n W
 rw [this] at hy
 exact H _ _ ho.1 hy
theorem zpj {n:Nat} {i:Int} (hi:i=n) (hn:n<18446744073709551616) (H:∀y h',h.le h'→RdW h' y (dg n)→Ks y h'):callP (F.zfr i) Ks h:=by
 subst hi
 exact za0 _ (fun K'=>za2v hn) H
theorem or32 {a b:Nat} (ha:a<W) (hb:b<W):ibits .or .u64 (IntKind.u64.wrap ((a:Int)*2 ^ (min (32:Int).toNat IntKind.u64.bits))) (IntKind.u64.wrap (b:Int))=((a*W+b:Nat):Int):=by
 have e1:((a:Int)*2 ^ (min (32:Int).toNat IntKind.u64.bits))=((a*W:Nat):Int):=by
  have:(2:Int) ^ (min (32:Int).toNat IntKind.u64.bits)=((W:Nat):Int):=by decide
  rw [this]; simp
 unfold W at *
 rw [e1,u64n (n:=a*4294967296) (by omega),u64n (n:=b) (by omega)]
 unfold ibits
 simp only [IntKind.bits]
 have h1:(BitVec.ofInt 64 ((a*4294967296:Nat):Int) ||| BitVec.ofInt 64 (b:Int)).toNat=a*4294967296+b:=by
  rw [BitVec.ofInt_natCast,BitVec.ofInt_natCast,BitVec.toNat_or,BitVec.toNat_ofNat,BitVec.toNat_ofNat,Nat.mod_eq_of_lt (by omega),Nat.mod_eq_of_lt (by omega)]
  have:=Nat.two_pow_add_eq_or_of_lt (i:=32) (b:=b) (by omega) a
  rw [Nat.mul_comm (2 ^ 32) a] at this
  exact this.symm
 exact (congrArg (fun z:Nat=>IntKind.u64.wrap (z:Int)) h1).trans (u64n (by omega))
theorem za0r (hr:RdW h x l) (ok:okW l) (hl:l.length≤2) (H:∀h',h.le h'→Ki (vl l:Int) h'):F.zcr x Ki h:=by
 unfold F.zcr
 refine za0 (fun (a:Addr) h'=>h'.cell a=some (.slice x.a x.len x.cap)) (fun K' hk=>?_) fun a h1 l1 ha=>?_
 · unfold F.zbn
   intro b e hb
   refine hk _ _ (Hp.le_ins hb) ?_
   unfold Hp.cell
   simp [Hp.ins_same]
 · have hlen:=hr.len
   refine ⟨x,fun k s h'=>h1.le h'∧k≤l.length∧s=((((vl (l.drop k):Nat):Int),()),()),by omega,⟨Hp.le_refl _,by omega,?_⟩,fun i s h' hI=>?_,fun i s h' hi hI=>?_,fun s h' hI=>?_⟩
   · rw [hlen,List.drop_eq_nil_of_le (Nat.le_refl _)]; rfl
   · exact Hp.cell_le hI.1 ha
   · obtain ⟨hl',hk,rfl⟩:=hI
     have hi':i<l.length:=by omega
     have hr':=(hr.le l1).le hl'
     have h2:=hr'.1.2
     cases hxa:x.a with
     | none=>
       rw [hxa] at h2
       simp only [cellsAtO] at h2
       split at h2
       · rename_i h3; rw [zgv] at h3; omega
       · cases h2
     | some ad=>
       rw [hxa] at h2
       simp only [cellsAtO] at h2
       have hxi:=zco ok hi'
       refine ⟨ad,(l[i]:Int),rfl,fun j u hj=>?_,by decide,hl',by omega,?_⟩
       · have hj0:j=0:=by
          rcases Nat.eq_zero_or_pos j with h3 | h3
          · exact h3
          · exfalso
            have:((STy.leaf (.int .u32)).cells (l[i]:Int))[j]?=none:=by
             apply List.getElem?_eq_none
             simp only [STy.cells,List.length_singleton]; omega
            rw [this] at hj; cases hj
         subst hj0
         simp only [STy.cells,List.getElem?_cons_zero,Option.some.injEq] at hj
         subst hj
         refine zgs h2 _ _ ?_
         simp [wc,STy.size,hi',Lf.up]
       · have hd:l.drop i=l[i] :: l.drop (i+1):=List.drop_eq_getElem_cons hi'
         rw [hd]
         simp only [vl]
         have hsm:vl (l.drop (i+1))<W:=by
          have:=vl_lt (zpu ok (i+1))
          rw [List.length_drop] at this
          refine Nat.lt_of_lt_of_le this ?_
          have h3:l.length-(i+1)≤1:=by omega
          exact Nat.le_trans (Nat.pow_le_pow_right W_pos h3) (by simp)
         rw [or32 hsm hxi]
         congr 2
         congr 1
         rw [Nat.mul_comm]; omega
   · obtain ⟨hl',hk,rfl⟩:=hI
     exact H _ (Hp.le_trans l1 hl')
theorem ziv (hr:RdW h x l) (ok:okW l) (hl:l.length≤2) (H:∀h',h.le h'→Ki (vl l:Int) h'):callP (F.zcr x) Ki h:=
 za0 (fun v _=>v=(vl l:Int)) (fun K' hk=>za0r hr ok hl fun h' hl'=>hk _ _ hl' rfl) fun v h' hl' hv=>by subst hv; exact H h' hl'
theorem zil {a b:Int} (H:Ki (if a<b then -1 else if b<a then 1 else 0) h):callP (F.zcu a b) Ki h:=by
 refine zat _ (fun K' hk=>?_) H
 unfold F.zcu
 have e:∀z:Int,(z != z)=false:=fun z=>by simp
 refine zat false (fun K' hk=>by unfold F.zfb; rw [e]; exact hk) (zat false (fun K' hk=>by unfold F.zfb; rw [e]; exact hk) ?_)
 refine zba rfl (zba rfl (za1 (fun h1=>?_) (fun h1=>za1 (fun h2=>?_) (fun h2=>?_))))
 · rw [if_pos h1] at hk; exact hk
 · rw [if_neg h1,if_pos h2] at hk; exact hk
 · rw [if_neg h1,if_neg h2] at hk; exact hk
theorem ztm {a b:Int} (H:Ki (if a<b then -1 else if b<a then 1 else 0) h):callP (F.ze9 a b) Ki h:=by
 refine zat _ (fun K' hk=>?_) H
 unfold F.ze9
 have e:∀z:Int,(z != z)=false:=fun z=>by simp
 refine zat false (fun K' hk=>by unfold F.ze3; rw [e]; exact hk) (zat false (fun K' hk=>by unfold F.ze3; rw [e]; exact hk) ?_)
 refine zba rfl (zba rfl (za1 (fun h1=>?_) (fun h1=>za1 (fun h2=>?_) (fun h2=>?_))))
 · rw [if_pos h1] at hk; exact hk
 · rw [if_neg h1,if_pos h2] at hk; exact hk
 · rw [if_neg h1,if_neg h2] at hk; exact hk
theorem zvi {m n:Nat} (hx:RdW h x (dg m)) (hy:RdW h y (dg n)) (hl:(dg m).length<4611686018427387904) (hl2:(dg n).length<4611686018427387904) (H:Ki (cmpN m n) h):F.zdq x y Ki h:=by
 unfold F.zdq
 have lx:=hx.len
 have ly:=hy.len
 refine zc9 (fun h1=>?_) (fun h1=>?_)
 · refine zil ?_
   unfold cmpN at H
   by_cases h2:(dg m).length<(dg n).length
   · rw [if_pos (zqb h2)] at H
     rw [if_pos (by omega)]; exact H
   · have h3:(dg n).length<(dg m).length:=by omega
     have h4:=zqb h3
     rw [if_neg (by omega),if_pos h4] at H
     rw [if_neg (by omega),if_pos (by omega)]; exact H
 · have hll:(dg m).length=(dg n).length:=by omega
   refine zbb (fun st h'=>h'=h∧∃k:Nat,st=((k:Int)-1,())∧k≤(dg m).length∧(dg m).drop k=(dg n).drop k) (fun st=>(st.1+1).toNat)
    ⟨rfl,(dg m).length,by rw [lx,w64 (by omega)],Nat.le_refl _,by rw [List.drop_eq_nil_of_le (Nat.le_refl _),List.drop_eq_nil_of_le (by omega)]⟩ ?_
   rintro st h' ⟨rfl,k,rfl,hk,hd⟩
   refine za1 (fun h2=>?_) (fun h2=>?_)
   · simp only at h2
     obtain ⟨i,rfl⟩:∃i,k=i+1:=⟨k-1,by omega⟩
     have hi:i<(dg m).length:=by omega
     have hi':i<(dg n).length:=by omega
     refine zbi i hx (by simp only; omega) hi fun a ha=>⟨_,ha,?_⟩
     refine zbi i hy (by simp only; omega) hi' fun a ha=>⟨_,ha,?_⟩
     refine zc9 (fun h3=>?_) (fun h3=>?_)
     · refine zbi i hx (by simp only; omega) hi fun a ha=>⟨_,ha,?_⟩
       refine zbi i hy (by simp only; omega) hi' fun a ha=>⟨_,ha,?_⟩
       refine ztm ?_
       unfold cmpN at H
       by_cases h4:(dg m)[i]<(dg n)[i]
       · have:=zt0 i (ok_dg m) (ok_dg n) hll hi hi' hd h4
         rw [vl_dg,vl_dg] at this
         rw [if_pos this] at H
         rw [if_pos (by omega)]; exact H
       · have h5:(dg n)[i]<(dg m)[i]:=by omega
         have:=zt0 i (ok_dg n) (ok_dg m) hll.symm hi' hi hd.symm h5
         rw [vl_dg,vl_dg] at this
         rw [if_neg (by omega),if_pos this] at H
         rw [if_neg (by omega),if_pos (by omega)]; exact H
     · refine ⟨⟨rfl,i,by simp only; rw [w64 (by omega)]; congr 1; omega,by omega,?_⟩,by simp only; rw [w64 (by omega)]; omega⟩
       rw [List.drop_eq_getElem_cons hi,List.drop_eq_getElem_cons hi',hd]
       congr 1; omega
   · simp only at h2
     obtain rfl:k=0:=by omega
     simp only [List.drop_zero] at hd
     have:m=n:=by rw [←vl_dg m,←vl_dg n,hd]
     subst this
     unfold cmpN at H
     rw [if_neg (Nat.lt_irrefl _),if_neg (Nat.lt_irrefl _)] at H
     exact H
theorem zmp {m n:Nat} (hx:RdW h x (dg m)) (hy:RdW h y (dg n)) (hl:(dg m).length<4611686018427387904) (hl2:(dg n).length<4611686018427387904) (H:Ki (cmpN m n) h):callP (F.zdq x y) Ki h:=
 zat _ (fun K'=>zvi hx hy hl hl2) H
end
end Den
end

section
namespace Den
open Go Iv
theorem wu64e (n:Int):IntKind.u64.wrap n=n % 18446744073709551616:=by simp [IntKind.wrap,IntKind.signed,IntKind.bits]
theorem wu32e (n:Int):IntKind.u32.wrap n=n % 4294967296:=by simp [IntKind.wrap,IntKind.signed,IntKind.bits]
theorem fd63 (n:Int):n.fdiv (2 ^ (min (63:Int).toNat IntKind.u64.bits))=n/9223372036854775808:=by
 have e:(2:Int) ^ (min (63:Int).toNat IntKind.u64.bits)=9223372036854775808:=by decide
 rw [e,Int.fdiv_eq_ediv_of_nonneg _ (by decide)]
theorem fd32 (n:Int):n.fdiv (2 ^ (min (32:Int).toNat IntKind.u64.bits))=n/4294967296:=by
 have e:(2:Int) ^ (min (32:Int).toNat IntKind.u64.bits)=4294967296:=by decide
 rw [e,Int.fdiv_eq_ediv_of_nonneg _ (by decide)]
theorem sub64 {x c y:Nat} (hx:x<W) (hc:c≤1) (hy:y<W):∃r b:Nat,r<W∧b≤1∧x+W*b=r+c+y ∧
 IntKind.u32.wrap (IntKind.u64.wrap (IntKind.u64.wrap (IntKind.u64.wrap (x:Int)-(c:Int))-IntKind.u64.wrap (y:Int)))=(r:Int) ∧
 (IntKind.u64.wrap (IntKind.u64.wrap (IntKind.u64.wrap (x:Int)-(c:Int))-IntKind.u64.wrap (y:Int))).fdiv (2 ^ (min (63:Int).toNat IntKind.u64.bits))=(b:Int):=by
 unfold W at *
 rw [fd63]
 simp only [wu64e,wu32e]
 by_cases h:c+y≤x
 · exact ⟨x-c-y,0,by omega,by omega,by omega,by omega,by omega⟩
 · exact ⟨x+4294967296-c-y,1,by omega,by omega,by omega,by omega,by omega⟩
theorem sub64' {x c:Nat} (hx:x<W) (hc:c≤1):∃r b:Nat,r<W∧b≤1∧x+W*b=r+c+0 ∧
 IntKind.u32.wrap (IntKind.u64.wrap (IntKind.u64.wrap (x:Int)-(c:Int)))=(r:Int) ∧
 (IntKind.u64.wrap (IntKind.u64.wrap (x:Int)-(c:Int))).fdiv (2 ^ (min (63:Int).toNat IntKind.u64.bits))=(b:Int):=by
 unfold W at *
 rw [fd63]
 simp only [wu64e,wu32e]
 by_cases h:c≤x
 · exact ⟨x-c,0,by omega,by omega,by omega,by omega,by omega⟩
 · exact ⟨x+4294967296-c,1,by omega,by omega,by omega,by omega,by omega⟩
theorem Hp.none_of_le {h h':Hp} {b:Nat} (hl:h.le h') (hb:h' b=none):h b=none:=by
 cases hk:h b with
 | none=>rfl
 | some B=>rw [hl _ _ hk] at hb; cases hb
theorem zhz {l:List Nat} (hl:okW l) (i:Nat):l.getD i 0<W:=by
 rw [List.getD_eq_getElem?_getD]
 rcases Nat.lt_or_ge i l.length with h | h
 · rw [List.getElem?_eq_getElem h]; exact zco hl h
 · rw [List.getElem?_eq_none h]; exact W_pos
theorem zhy {l:List Nat} {i:Nat} (hi:i<l.length):l.getD i 0=l[i]:=by
 rw [List.getD_eq_getElem?_getD,List.getElem?_eq_getElem hi]; rfl
theorem zj4 {l:List Nat} {i:Nat} (hi:l.length≤i):l.getD i 0=0:=by
 rw [List.getD_eq_getElem?_getD,List.getElem?_eq_none hi]; rfl
theorem zkg (l:List Nat) (i:Nat):vl (l.take (i+1))=vl (l.take i)+W ^ i*l.getD i 0:=by
 rcases Nat.lt_or_ge i l.length with h | h
 · rw [zc4 h,zhy h]
 · rw [zj4 h,List.take_of_length_le (by omega),List.take_of_length_le h]; simp
theorem ziw {r:List Nat} {k v:Nat} (hk:k<r.length):vl ((r.set k v).take (k+1))=vl (r.take k)+W ^ k*v:=by
 rw [zc4 (by simpa using hk),List.getElem_set_self]
 congr 2
 apply List.ext_getElem
 · simp
 · intro i h1 h2
   simp only [List.length_take] at h1 h2
   simp only [List.getElem_take]
   rw [List.getElem_set_ne (by omega)]
section
variable {h : Hp} {x y : Sl} {l m : List Nat} {Ks : Sl → Hp → Prop} {Ki : Int → Hp → Prop} {Kb : Bool → Hp → Prop} {KI : TInt → Hp → Prop}
theorem za3t (hx:RdW h x l) (hy:RdW h y m) (ol:okW l) (om:okW m) (hl:l.length≤17592186044400) (hm:m.length≤17592186044400)
 (H:∀z h' r,h.le h'→RdW h' z r→okW r→vl r=vl l+vl m→r.length≤l.length+m.length+1→Ks z h'):F.zg8 x y Ks h:=by
 unfold F.zg8
 have lx:=hx.len
 have ly:=hy.len
 refine za5 (fun st h'=>h'=h∧∃p q,RdW h st.1 p∧RdW h st.2.1 q∧okW p∧okW q∧q.length≤p.length∧p.length+q.length=l.length+m.length∧vl p+vl q=vl l+vl m) ?_ ?_
 · rintro ⟨sx,sy,_⟩ h0 ⟨rfl,p,q,hp,hq,op,oq,hqp,hlen,hv⟩
   simp only at hp hq ⊢
   have lp:=hp.len
   have lq:=hq.len
   refine zi5 0 (p.length+1) rfl (by rw [lp,w64 (by omega)]; omega) (by omega) (by omega) fun w h1 hw hw2=>?_
   refine zbb (fun st h'=>∃(w:Sl) (c i:Nat) (r:List Nat),st=(w,(c:Int),(i:Int),())∧i≤p.length∧c≤1∧OwnW h0 h' w r∧okW r∧r.length=i∧vl r+W ^ i*c=vl (p.take i)+vl (q.take i))
    (fun st=>((p.length:Int)-st.2.2.1).toNat) ⟨w,0,0,[],rfl,Nat.zero_le _,by omega,hw2,za5h,rfl,by simp [vl]⟩ ?_
   rintro st h2 ⟨w,c,i,r,rfl,hi,hc,ho,okr,hrl,hv2⟩
   refine za1 (fun h3=>?_) (fun h3=>?_)
   · have hi':i<p.length:=by have:(i:Int)<(sx.len:Int):=h3; omega
     have hpx:=zco op hi'
     have hqx:=zhz oq i
     refine zbi i (hp.le ho.1) rfl hi' fun a ha=>⟨_,ha,?_⟩
     refine za5 (fun s h4=>h4=h2∧s=(((c+p[i]+q.getD i 0:Nat):Int),())) ?_ ?_
     · rintro _ h4 ⟨rfl,rfl⟩
       simp only
       refine zra _ ho (u32n _) (by omega) fun w5 h5 ho5=>⟨by decide,?_⟩
       rw [shr32]
       refine ⟨⟨w5,_,i+1,_,by rw [w64 (by omega)]; rfl,by omega,?_,ho5,zqj okr (fun d hd=>?_),by simp [hrl],?_⟩,by rw [w64 (by omega)]; omega⟩
       · unfold W at *; omega
       · rw [List.mem_singleton.1 hd]; exact Nat.mod_lt _ W_pos
       · rw [zja,zc4 hi',zkg,hrl]
         have e2:=Nat.mod_add_div (c+p[i]+q.getD i 0) W
         simp only [vl,Nat.mul_zero,Nat.add_zero,Nat.pow_succ]
         generalize (c+p[i]+q.getD i 0) % W=rr at *
         generalize (c+p[i]+q.getD i 0)/W=qq at *
         generalize W ^ i=P at *
         generalize p[i]=pp at *
         generalize q.getD i 0=q0 at *
         generalize vl (p.take i)=A at *
         generalize vl (q.take i)=B at *
         generalize vl r=R at *
         clear H
         grind
     · refine za1 (fun h4=>?_) (fun h4=>?_)
       · have hi2:i<q.length:=by have:(i:Int)<(sy.len:Int):=h4; omega
         refine zbi i (hq.le ho.1) rfl hi2 fun a2 ha2=>⟨_,ha2,?_⟩
         refine ⟨rfl,?_⟩
         rw [zhy hi2] at hqx ⊢
         simp only
         unfold W at *
         congr 1
         simp only [wu64e]; omega
       · have hi2:q.length≤i:=by have:¬(i:Int)<(sy.len:Int):=h4; omega
         refine ⟨rfl,?_⟩
         rw [zj4 hi2]
         simp only
         unfold W at *
         congr 1
         simp only [wu64e]; omega
   · have hi':i=p.length:=by have:¬(i:Int)<(sx.len:Int):=h3; omega
     rw [List.take_of_length_le (by omega),List.take_of_length_le (by omega)] at hv2
     refine za1 (fun h4=>?_) (fun h4=>?_)
     · have hc1:c=1:=by have:(c:Int)>0:=h4; omega
       subst hc1
       refine zra 1 ho (by simp only; decide) (by omega) fun w5 h5 ho5=>?_
       refine H _ _ _ ho5.1 ho5.rdW (zqj okr (fun d hd=>by rw [List.mem_singleton.1 hd]; decide)) ?_ (by simp; omega)
       rw [zja,hrl]
       simp only [vl,Nat.mul_zero,Nat.add_zero]
       omega
     · have hc0:c=0:=by have:¬(c:Int)>0:=h4; omega
       subst hc0
       exact H _ _ _ ho.1 ho.rdW okr (by omega) (by omega)
 · refine za1 (fun h1=>?_) (fun h1=>?_)
   · exact ⟨rfl,m,l,hy,hx,om,ol,by omega,by omega,by omega⟩
   · exact ⟨rfl,l,m,hx,hy,ol,om,by omega,by omega,by omega⟩
theorem za05 (hx:RdW h x l) (hy:RdW h y m) (ol:okW l) (om:okW m) (hl:l.length≤17592186044400) (hm:m.length≤17592186044400)
 (H:∀z h' r,h.le h'→RdW h' z r→okW r→vl r=vl l+vl m→r.length≤l.length+m.length+1→Ks z h'):callP (F.zg8 x y) Ks h:=
 za0 (fun z h'=>∃r,RdW h' z r∧okW r∧vl r=vl l+vl m∧r.length≤l.length+m.length+1)
  (fun K' hk=>za3t hx hy ol om hl hm fun z h' r h1 h2 h3 h4 h5=>hk _ _ h1 ⟨r,h2,h3,h4,h5⟩) fun z h' h1 ⟨r,h2,h3,h4,h5⟩=>H z h' r h1 h2 h3 h4 h5
theorem zzq {r:List Nat} {b:Nat} (hrl:r.length=l.length) (okr:okW r) (hml:m.length≤l.length) (hle:vl m≤vl l) (hb:b≤1)
 (hv:vl (r.take l.length)+vl (m.take l.length)=vl (l.take l.length)+W ^ l.length*b):vl r=vl l-vl m:=by
 rw [List.take_of_length_le (l:=r) (by omega),List.take_of_length_le hml,List.take_of_length_le (Nat.le_refl _)] at hv
 have h1:=vl_lt okr
 rw [hrl] at h1
 have:b=0:=by
  rcases Nat.eq_zero_or_pos b with h2 | h2
  · exact h2
  · obtain rfl:b=1:=by omega
    omega
 subst this
 omega
theorem za1u (hx:RdW h x l) (hy:RdW h y m) (ol:okW l) (om:okW m) (hl:l.length≤35184372088800) (hml:m.length≤l.length) (hle:vl m≤vl l)
 (H:∀z h',h.le h'→RdW h' z (dg (vl l-vl m))→Ks z h'):F.zfg x y Ks h:=by
 unfold F.zfg
 have lx:=hx.len
 have ly:=hy.len
 refine zi5 l.length l.length (by omega) (by omega) (by omega) (by omega) fun w h1 hw hw2=>?_
 refine zbb (fun st h'=>∃(c i:Nat) (r:List Nat),st=((c:Int),(i:Int),())∧i≤l.length∧c≤1∧OwnW h h' w r∧okW r∧r.length=l.length∧vl (r.take i)+vl (m.take i)=vl (l.take i)+W ^ i*c)
  (fun st=>((l.length:Int)-st.2.1).toNat) ⟨0,0,_,rfl,Nat.zero_le _,by omega,hw2,zlb _,by simp,by simp [vl]⟩ ?_
 rintro st h2 ⟨c,i,r,rfl,hi,hc,ho,okr,hrl,hv2⟩
 refine za1 (fun h3=>?_) (fun h3=>?_)
 · have hi':i<l.length:=by have:(i:Int)<(x.len:Int):=h3; omega
   have hlx:=zco ol hi'
   have hmx:=zhz om i
   refine zbi i (hx.le ho.1) rfl hi' fun a ha=>⟨_,ha,?_⟩
   refine za5 (fun s h4=>h4=h2∧∃rr b:Nat,rr<W∧b≤1∧l[i]+W*b=rr+c+m.getD i 0∧IntKind.u32.wrap s.1=(rr:Int)∧s.1.fdiv (2 ^ (min (63:Int).toNat IntKind.u64.bits))=(b:Int)) ?_ ?_
   · rintro s h4 ⟨rfl,rr,b,hrr,hb,he,h5,h6⟩
     refine zgq i rr ho rfl (by omega) h5 fun h5 b5 _ _ _ ho5=>⟨by decide,?_⟩
     rw [h6]
     refine ⟨⟨b,i+1,_,by rw [w64 (by simp only; omega)]; rfl,by omega,hb,ho5,zeu okr hrr,by simp [hrl],?_⟩,by simp only; rw [w64 (by omega)]; omega⟩
     rw [ziw (by omega),zc4 hi',zkg,Nat.pow_succ]
     generalize W ^ i=P at *
     generalize l[i]=pp at *
     generalize m.getD i 0=q0 at *
     generalize vl (l.take i)=A at *
     generalize vl (m.take i)=B at *
     generalize vl (r.take i)=R at *
     have e:=congrArg (P*·) he
     simp only [Nat.mul_add] at e
     rw [Nat.mul_assoc]
     omega
   · refine za1 (fun h4=>?_) (fun h4=>?_)
     · have hi2:i<m.length:=by have:(i:Int)<(y.len:Int):=h4; omega
       refine zbi i (hy.le ho.1) rfl hi2 fun a2 ha2=>⟨_,ha2,?_⟩
       rw [zhy hi2] at hmx ⊢
       exact ⟨rfl,sub64 hlx hc hmx⟩
     · have hi2:m.length≤i:=by have:¬(i:Int)<(y.len:Int):=h4; omega
       rw [zj4 hi2]
       exact ⟨rfl,sub64' hlx hc⟩
 · have hi':i=l.length:=by have:¬(i:Int)<(x.len:Int):=h3; omega
   subst hi'
   refine zeh ho.rdW (by omega) fun z hz=>?_
   rw [zde okr,zzq hrl okr hml hle hc hv2] at hz
   exact H _ _ ho.1 hz
theorem zvz (hx:RdW h x l) (hy:RdW h y m) (ol:okW l) (om:okW m) (hl:l.length≤35184372088800) (hml:m.length≤l.length) (hle:vl m≤vl l)
 (H:∀z h',h.le h'→RdW h' z (dg (vl l-vl m))→Ks z h'):callP (F.zfg x y) Ks h:=
 za0 _ (fun K'=>za1u hx hy ol om hl hml hle) H
theorem za2o (hx:RdW h x l) (hy:RdW h y m) (ol:okW l) (om:okW m) (hl:l.length+m.length≤35184372088800)
 (H:∀z h',h.le h'→RdW h' z (dg (vl l*vl m))→Ks z h'):F.zfh x y Ks h:=by
 unfold F.zfh
 have lx:=hx.len
 have ly:=hy.len
 refine za5 (fun _ h'=>h'=h) ?_ ?_
 · rintro _ h' rfl
   refine zi5 (l.length+m.length) (l.length+m.length) (by rw [w64 (by omega)]; omega) (by rw [w64 (by omega)]; omega) (by omega) (by omega) fun w h1 hw hw2=>?_
   refine zwj (Kf:=fun w h3=>callP (F.zac w) (fun r h7=>Ks r h7) h3) (hx) (hy) ol om hl hw2 fun h3 r ho okr hrl hv=>?_
   refine zeh ho.rdW (by omega) fun z hz=>?_
   rw [zde okr,hv] at hz
   exact H _ _ ho.1 hz
 · refine zae (fun h1=>?_) (fun h1=>zae (fun h2=>?_) (fun h2=>rfl))
   · have:l=[]:=List.length_eq_zero_iff.1 (by omega)
     subst this
     refine H _ _ (Hp.le_refl _) ?_
     simp only [vl,Nat.zero_mul,zcb]
     exact RdW.nil
   · have:m=[]:=List.length_eq_zero_iff.1 (by omega)
     subst this
     refine H _ _ (Hp.le_refl _) ?_
     simp only [vl,Nat.mul_zero,zcb]
     exact RdW.nil
theorem zwi (hx:RdW h x l) (hy:RdW h y m) (ol:okW l) (om:okW m) (hl:l.length+m.length≤35184372088800)
 (H:∀z h',h.le h'→RdW h' z (dg (vl l*vl m))→Ks z h'):callP (F.zfh x y) Ks h:=
 za0 _ (fun K'=>za2o hx hy ol om hl) H
end
end Den
end

section
namespace Den
open Go Iv
def Ok (n:Int):Prop:=(dg n.natAbs).length≤8796093022208
def Lt (k:Nat) (n:Int):Prop:=n.natAbs<W ^ k
theorem Lt.ok {k:Nat} {n:Int} (h:Lt k n) (hk:k≤8796093022208):Ok n:=Nat.le_trans (zc2.2 h) hk
theorem Lt.mono {k j:Nat} {n:Int} (h:Lt k n) (hk:k≤j):Lt j n:=Nat.lt_of_lt_of_le h (Nat.pow_le_pow_right W_pos hk)
theorem Lt.mul {k j:Nat} {m n:Int} (h:Lt k m) (h2:Lt j n):Lt (k+j) (m*n):=by
 unfold Lt at *
 rw [Int.natAbs_mul,Nat.pow_add]
 exact Nat.mul_lt_mul'' h h2
theorem Lt.le {k:Nat} {m n:Int} (h:Lt k m) (h2:n.natAbs≤m.natAbs):Lt k n:=Nat.lt_of_le_of_lt h2 h
theorem NI.len {h:Hp} {x:TInt} {n:Int} (hx:NI h x n):x.mag.len=(dg n.natAbs).length:=hx.1.len
theorem zs5 {n:Int}:(dg n.natAbs).length=0↔n=0:=by
 rw [List.length_eq_zero_iff,zfc]; omega
section
variable {h : Hp} {x y : Sl} {l : List Nat} {m n : Int} {a b : TInt} {Ks : Sl → Hp → Prop} {Ki : Int → Hp → Prop} {Kb : Bool → Hp → Prop} {KI : TInt → Hp → Prop} {KP : (TInt × TInt × Int) → Hp → Prop}
theorem zv5 (n:Nat):trimL (dg n)=dg n:=by rw [zde (ok_dg n),vl_dg]
theorem zm4 {n:Nat} (hr:RdW h x (dg n)) (hl:(dg n).length≤35184372088800) (H:∀y,RdW h y (dg n)→Ks y h):callP (F.zac x) Ks h:=
 zeh hr (by omega) fun y hy=>H y (by rw [zv5] at hy; exact hy)
theorem zkz (ha:NI h a m) (om:(dg m.natAbs).length≤35184372087808) (H:∀y,RdW h y (dg m.natAbs)→Ks y h):callP (F.zac a.mag) Ks h:=
 zm4 ha.1 (Nat.le_trans om (by decide)) H
theorem zfa (ha:NI h a m) (om:Ok m) (H:∀y,RdW h y (dg m.natAbs)→Ks y h):callP (F.zac a.mag) Ks h:=
 zm4 ha.1 (Nat.le_trans om (by decide)) H
theorem zgh {neg:Bool} {k:Nat} (hr:RdW h x (dg k)) (hl:(dg k).length≤35184372088800) (H:∀y,NI h y (sg neg k)→KI y h):callP (F.zbv neg x) KI h:=
 zkx hr (ok_dg k) (by omega) fun y hy=>H y (by rw [vl_dg] at hy; exact hy)
theorem zmc {neg:Bool} {k:Nat} (hr:RdW h x (dg k)) (hl:(dg k).length≤35184372088800) (H:∀y,NI h y (sg neg k)→KI y h):callP (F.ze6 neg x) KI h:=
 zso hr (ok_dg k) (by omega) fun y hy=>H y (by rw [vl_dg] at hy; exact hy)
theorem sg_of (n:Int):sg (decide (n<0)) n.natAbs=n:=by
 unfold sg
 by_cases h:n<0
 · rw [if_pos (by simpa using h)]; omega
 · rw [if_neg (by simpa using h)]; omega
theorem za5m (n:Int):sg (!decide (n<0)) n.natAbs=-n:=by
 unfold sg
 by_cases h:n<0
 · rw [if_neg (by simpa using h)]; omega
 · rw [if_pos (by simpa using h)]; omega
theorem u64neg {n:Int} (h:n<0) (h2:-9223372036854775808≤n):IntKind.u64.wrap (0-IntKind.u64.wrap n)=((n.natAbs:Nat):Int):=by
 simp only [wu64e]; omega
theorem u64pos {n:Int} (h:¬n<0) (h2:n≤9223372036854775807):IntKind.u64.wrap n=((n.natAbs:Nat):Int):=by
 simp only [wu64e]; omega
theorem dg2 {n:Nat} (h:n<18446744073709551616):(dg n).length≤2:=by
 have h2:W ^ 2=18446744073709551616:=by decide
 exact zc2.2 (by rw [h2]; exact h)
theorem zk1 (h1:-9223372036854775808≤n) (h2:n≤9223372036854775807) (H:∀y h',h.le h'→NI h' y n→KI y h'):callP (F.zdp n) KI h:=by
 refine za0 _ (fun K' hk=>?_) H
 unfold F.zdp
 refine za5 (fun s h'=>h'=h∧s=(((n.natAbs:Nat):Int),())) ?_ ?_
 · rintro _ h' ⟨rfl,rfl⟩
   refine zfe rfl (by omega) fun y h1 hl hy=>?_
   have:=dg2 (n:=n.natAbs) (by omega)
   refine zgh hy (by omega) fun z hz=>hk _ _ hl ?_
   rw [sg_of] at hz; exact hz
 · refine za1 (fun h3=>⟨rfl,?_⟩) (fun h3=>⟨rfl,?_⟩)
   · rw [u64neg h3 h1]
   · rw [u64pos h3 h2]
theorem zmb (h1:-9223372036854775808≤n) (h2:n≤9223372036854775807) (H:∀y h',h.le h'→NI h' y n→KI y h'):callP (F.zfj n) KI h:=by
 refine za0 _ (fun K' hk=>?_) H
 unfold F.zfj
 have h5:=dg2 (n:=n.natAbs) (by omega)
 refine za1 (fun h3=>?_) (fun h3=>?_)
 · rw [u64neg h3 h1]
   refine zpj rfl (by omega) fun y h1 hl hy=>?_
   refine zmc hy (by omega) fun z hz=>hk _ _ hl ?_
   have:sg true n.natAbs=n:=by unfold sg; simp; omega
   rw [this] at hz; exact hz
 · rw [u64pos h3 h2]
   refine zpj rfl (by omega) fun y h1 hl hy=>?_
   refine zmc hy (by omega) fun z hz=>hk _ _ hl ?_
   have:sg false n.natAbs=n:=by unfold sg; simp; omega
   rw [this] at hz; exact hz
theorem zlh (ha:NI h a m) (om:(dg m.natAbs).length≤35184372087808) (H:Ki m.sign h):callP (F.zdm a) Ki h:=by
 refine zat _ (fun K' hk=>?_) H
 unfold F.zdm
 refine zkz ha om fun y hy=>?_
 have hl:=hy.len
 refine zae (fun h1=>?_) (fun h1=>?_)
 · have:m=0:=zs5.1 (by omega)
   subst this; exact hk
 · have:m≠0:=fun h0=>h1 (by subst h0; rw [hl]; simp [zcb])
   rw [ha.2]
   refine za1 (fun h2=>?_) (fun h2=>?_)
   · rw [Int.sign_eq_neg_one_of_neg h2] at hk; exact hk
   · rw [Int.sign_eq_one_of_pos (by omega)] at hk; exact hk
theorem zml (ha:NI h a m) (om:Ok m) (H:Ki m.sign h):callP (F.zdm a) Ki h:=zlh ha (Nat.le_trans om (by decide)) H
theorem za16 (ha:NI h a m) (om:Ok m) (H:∀y h',h.le h'→NI h' y (-m)→KI y h'):callP (F.zir a) KI h:=by
 refine za0 _ (fun K' hk=>?_) H
 unfold F.zir
 refine zfa ha om fun y hy=>zln hy (Nat.le_trans om (by decide)) fun z h1 hl hz=>zgh hz (Nat.le_trans om (by decide)) fun w hw=>hk _ _ hl ?_
 rw [ha.2,za5m] at hw; exact hw
theorem za5l (m n:Int):sg (!(decide (m<0)==decide (n<0))) (m.natAbs*n.natAbs)=m*n:=by
 unfold sg
 rw [←Int.natAbs_mul]
 by_cases h1:m<0<;>by_cases h2:n<0<;>simp [h1,h2]
 · have:=Int.mul_pos_of_neg_of_neg h1 h2
   omega
 · have:=Int.mul_nonpos_of_nonpos_of_nonneg (a:=m) (b:=n) (by omega) (by omega)
   omega
 · have:=Int.mul_nonpos_of_nonneg_of_nonpos (a:=m) (b:=n) (by omega) (by omega)
   omega
 · have:=Int.mul_nonneg (a:=m) (b:=n) (by omega) (by omega)
   omega
theorem za3l {m n k:Nat} (om:(dg m).length≤k) (on:(dg n).length≤k):(dg (m*n)).length≤k+k:=by
 refine zc2.2 ?_
 rw [Nat.pow_add]
 exact Nat.mul_lt_mul'' (zc2.1 om) (zc2.1 on)
theorem za5b {m n:Int} (om:Ok m) (on:Ok n):(dg (m.natAbs*n.natAbs)).length≤35184372088800:=
 Nat.le_trans (za3l om on) (by decide)
theorem zo1 (ha:NI h a m) (hb:NI h b n) (om:Ok m) (on:Ok n) (H:∀y h',h.le h'→NI h' y (m*n)→KI y h'):callP (F.zfp a b) KI h:=by
 refine za0 _ (fun K' hk=>?_) H
 unfold F.zfp
 have om':(dg m.natAbs).length≤8796093022208:=om
 have on':(dg n.natAbs).length≤8796093022208:=on
 refine zfa ha om fun y hy=>zfa hb on fun z hz=>zwi hy hz (ok_dg _) (ok_dg _) (by omega) fun w h1 hl hw=>?_
 rw [vl_dg,vl_dg] at hw
 refine zgh hw (za5b om on) fun w2 hw2=>hk _ _ hl ?_
 rw [ha.2,hb.2,za5l] at hw2; exact hw2
theorem zhx {m n:Nat} (h:m≤n):(dg m).length≤(dg n).length:=zc2.2 (Nat.lt_of_le_of_lt h (zc2.1 (Nat.le_refl _)))
theorem za5p {m n:Nat} (om:(dg m).length≤8796093022208):(dg (m-n)).length≤35184372088800:=by
 have:=zhx (Nat.sub_le m n); omega
theorem za2g {m n:Int} (h:m.sign=n.sign):m.sign*cmpN m.natAbs n.natAbs=(m-n).sign:=by
 unfold cmpN
 rcases Int.lt_trichotomy m 0 with h1 | h1 | h1
 · have h2:n<0:=Int.sign_eq_neg_one_iff_neg.1 (by rw [←h]; exact Int.sign_eq_neg_one_of_neg h1)
   rw [Int.sign_eq_neg_one_of_neg h1]
   split
   · rw [Int.sign_eq_one_of_pos (by omega)]; rfl
   · split
     · rw [Int.sign_eq_neg_one_of_neg (by omega)]; rfl
     · have:m=n:=by omega
       subst this; simp
 · subst h1
   have h2:n=0:=by rw [Int.sign_zero] at h; exact Int.sign_eq_zero_iff_zero.1 h.symm
   subst h2; rfl
 · have h2:0<n:=Int.sign_eq_one_iff_pos.1 (by rw [←h]; exact Int.sign_eq_one_of_pos h1)
   rw [Int.sign_eq_one_of_pos h1]
   split
   · rw [Int.sign_eq_neg_one_of_neg (by omega)]; rfl
   · split
     · rw [Int.sign_eq_one_of_pos (by omega)]; rfl
     · have:m=n:=by omega
       subst this; simp
theorem zht (n:Int):n.sign=-1∧n<0∨n.sign=0∧n=0∨n.sign=1∧0<n:=by
 rcases Int.lt_trichotomy n 0 with h1 | h1 | h1
 · exact .inl ⟨Int.sign_eq_neg_one_of_neg h1,h1⟩
 · subst h1; exact .inr (.inl ⟨rfl,rfl⟩)
 · exact .inr (.inr ⟨Int.sign_eq_one_of_pos h1,h1⟩)
theorem za3y {m n:Int} (h:m.sign≠n.sign):(if m.sign<n.sign then (-1:Int) else if n.sign<m.sign then 1 else 0)=(m-n).sign:=by
 have hm:=zht m
 have hn:=zht n
 have hd:=zht (m-n)
 split
 · omega
 · split<;>omega
theorem za14 (ha:NI h a m) (hb:NI h b n) (om:Ok m) (on:Ok n) (H:Ki (m-n).sign h):callP (F.ziq a b) Ki h:=by
 refine zat _ (fun K' hk=>?_) H
 unfold F.ziq
 have om':(dg m.natAbs).length≤8796093022208:=om
 have on':(dg n.natAbs).length≤8796093022208:=on
 refine zml ha om (zml hb on ?_)
 refine zc9 (fun h1=>?_) (fun h1=>?_)
 · refine zil ?_
   rw [za3y h1]; exact hk
 · refine zfa ha om fun y hy=>zfa hb on fun z hz=>zmp hy hz (by omega) (by omega) ?_
   rw [za2g h1]
   have:=zht (m-n)
   rw [w64 (by omega)]; exact hk
end
end Den
end

section
namespace Den
open Go Iv
theorem tdivn (a b:Nat):((a:Int)).tdiv (b:Int)=((a/b:Nat):Int):=(Int.ofNat_tdiv a b).symm
theorem tmodn (a b:Nat):((a:Int)).tmod (b:Int)=((a % b:Nat):Int):=(Int.ofNat_tmod a b).symm
theorem u32lt {n:Nat} (h:n<W):IntKind.u32.wrap (n:Int)=(n:Int):=by rw [u32n,Nat.mod_eq_of_lt h]
theorem u64W {n:Nat} (h:n<W):IntKind.u64.wrap (n:Int)=(n:Int):=u64n (by unfold W at h; omega)
theorem or32k {x y:Nat} (hx:x<W) (hy:y<W):ibits .or .u32 (x:Int) (y:Int)=((x ||| y:Nat):Int):=by
 unfold ibits
 simp only [IntKind.bits]
 have h1:(BitVec.ofInt 32 (x:Int) ||| BitVec.ofInt 32 (y:Int)).toNat=x ||| y:=by
  unfold W at *
  rw [BitVec.ofInt_natCast,BitVec.ofInt_natCast,BitVec.toNat_or,BitVec.toNat_ofNat,BitVec.toNat_ofNat,Nat.mod_eq_of_lt (by omega),Nat.mod_eq_of_lt (by omega)]
 have h2:x ||| y<W:=Nat.or_lt_two_pow (n:=32) hx hy
 exact (congrArg (fun z:Nat=>IntKind.u32.wrap (z:Int)) h1).trans (u32lt h2)
def bl (n:Nat):Nat:=if n=0 then 0 else n.log2+1
theorem bl_lt (n:Nat):n<2 ^ bl n:=by
 unfold bl
 split
 · rename_i h; subst h; decide
 · exact Nat.lt_log2_self
theorem bl_le {n:Nat} (h:n≠0):2 ^ (bl n-1)≤n:=by
 unfold bl
 rw [if_neg h]
 exact Nat.log2_self_le h
theorem zwr {n:Nat} (h:n≠0):0<bl n:=by unfold bl; rw [if_neg h]; omega
theorem za33 {n b:Nat} (h1:2 ^ b≤n) (h2:n<2 ^ (b+1)):bl n=b+1:=by
 have h0:n≠0:=by have:=Nat.two_pow_pos b; omega
 unfold bl
 rw [if_neg h0]
 have h3:=(Nat.le_log2 h0 (k:=b)).2 h1
 have h4:=(Nat.log2_lt h0 (k:=b+1)).2 h2
 omega
theorem zrb {n k:Nat} (h:n<2 ^ k):bl n≤k:=by
 unfold bl
 split
 · omega
 · rename_i h0
   have:=(Nat.log2_lt h0 (k:=k)).2 h
   omega
theorem zrc {n k:Nat} (h:2 ^ k≤n):bl n=bl (n/2 ^ k)+k:=by
 have h0:n/2 ^ k≠0:=by
  have:=Nat.div_pos h (Nat.two_pow_pos k); omega
 have h1:=bl_le h0
 have h2:=bl_lt (n/2 ^ k)
 have h3:=zwr h0
 obtain ⟨b,hb⟩:∃b,bl (n/2 ^ k)=b+1:=⟨bl (n/2 ^ k)-1,by omega⟩
 rw [hb] at h1 h2 ⊢
 simp only [Nat.add_sub_cancel] at h1
 rw [Nat.le_div_iff_mul_le (Nat.two_pow_pos k),←Nat.pow_add] at h1
 rw [Nat.div_lt_iff_lt_mul (Nat.two_pow_pos k),←Nat.pow_add] at h2
 rw [za33 (b:=b+k) h1 (by rw [show b+k+1=b+1+k by omega]; exact h2)]
 omega
section
variable {h : Hp} {x y : Sl} {l m : List Nat} {b : Nat} {Ks : Sl → Hp → Prop} {Ki : Int → Hp → Prop} {Kb : Bool → Hp → Prop} {KI : TInt → Hp → Prop} {Kp : (Sl × Sl) → Hp → Prop} {Kq : (Sl × Int) → Hp → Prop}
theorem zqs {r l:List Nat} {b rem j:Nat} (hj:j<l.length) (hrl:r.length=l.length) (hv:vl (l.drop (j+1))=b*vl (r.drop (j+1))+rem) :
 vl (l.drop j)=b*vl ((r.set j ((rem*W+l[j])/b)).drop j)+(rem*W+l[j]) % b:=by
 rw [List.drop_eq_getElem_cons (l:=l) hj,List.drop_eq_getElem_cons (l:=r.set j ((rem*W+l[j])/b)) (by simpa [hrl] using hj),List.getElem_set_self]
 simp only [vl]
 rw [List.drop_set_of_lt (by omega),hv]
 have e:=Nat.div_add_mod (rem*W+l[j]) b
 rw [Nat.mul_add,Nat.mul_add,Nat.mul_comm rem W] at *
 have:W*(b*vl (r.drop (j+1)))=b*(W*vl (r.drop (j+1))):=by rw [←Nat.mul_assoc,Nat.mul_comm W b,Nat.mul_assoc]
 omega
theorem zq1 {b rem w:Nat} (hr:rem<b) (hw:w<W):(rem*W+w)/b<W:=by
 rw [Nat.div_lt_iff_lt_mul (by omega)]
 have:(rem+1)*W≤b*W:=Nat.mul_le_mul_right _ hr
 rw [Nat.add_mul] at this
 rw [Nat.mul_comm W b]; omega
theorem zqr {b rem w:Nat} (hr:rem<b) (hb:b<W) (hw:w<W) :
 IntKind.u32.wrap (IntKind.u64.wrap ((ibits .or .u64 (IntKind.u64.wrap ((rem:Int)*2 ^ (min (32:Int).toNat IntKind.u64.bits))) (IntKind.u64.wrap (w:Int))).tdiv (IntKind.u64.wrap (b:Int))))=(((rem*W+w)/b:Nat):Int):=by
 have h1:=zq1 hr hw
 rw [or32 (by omega) hw,u64W hb,tdivn,u64W h1,u32lt h1]
theorem za34 {x:Sl} {l:List Nat} {b:Nat} {m1:Sl} {h h1:Hp} {Kf:Int→Hp→Prop} (hx:RdW h x l) (ol:okW l) (hb:0<b) (hbW:b<W) (hl:l.length≤35184372088800)
 (ho:OwnW h h1 m1 (List.replicate l.length 0)) (H:∀h' r,OwnW h h' m1 r→okW r→r.length=l.length→vl r=vl l/b→Kf ((vl l % b:Nat):Int) h') :
 (loopP (S:=Int×Int×Unit) (fun s2 k3 h2=>
   (ifP (decide (s2.2.1≥0))
   (0≤(32:Int) ∧
   (idxP x s2.2.1 1 fun a4=>
   (ldL (.int .u32) a4 (fun x5=>
   (((IntKind.u64.wrap ((b:Nat):Int)):Int)≠0 ∧
   (idxP m1 s2.2.1 1 fun a6=>
   (stP a6 [.int .u32 (IntKind.u32.wrap ((IntKind.u64.wrap (((ibits .or .u64 (IntKind.u64.wrap (s2.1*2 ^ (min (32:Int).toNat IntKind.u64.bits))) (IntKind.u64.wrap (x5))):Int).tdiv (IntKind.u64.wrap ((b:Nat):Int))))))] (fun h3=>
   (((IntKind.u64.wrap ((b:Nat):Int)):Int)≠0 ∧
   (k3 (((ibits .or .u64 (IntKind.u64.wrap (s2.1*2 ^ (min (32:Int).toNat IntKind.u64.bits))) (IntKind.u64.wrap (x5))):Int).tmod (IntKind.u64.wrap ((b:Nat):Int)),(IntKind.i64.wrap (s2.2.1-1)),()) h3))) h2)))) h2)))
   (Kf s2.1 h2)))
   (0,(IntKind.i64.wrap ((x.len:Int)-1)),()) h1):=by
 have lx:=hx.len
 refine zbb (fun st h'=>∃(k rem:Nat) (r:List Nat),st=((rem:Int),(k:Int)-1,())∧k≤l.length∧rem<b∧OwnW h h' m1 r∧okW r∧r.length=l.length∧vl (l.drop k)=b*vl (r.drop k)+rem)
  (fun st=>(st.2.1+1).toNat) ⟨l.length,0,_,by rw [lx,w64 (by omega)]; rfl,Nat.le_refl _,hb,ho,zlb _,by simp,by rw [List.drop_eq_nil_of_le (Nat.le_refl _),List.drop_eq_nil_of_le (by simp)]; rfl⟩ ?_
 rintro st h2 ⟨k,rem,r,rfl,hk,hrem,ho2,okr,hrl,hv⟩
 refine za1 (fun h3=>?_) (fun h3=>?_)
 · obtain ⟨j,rfl⟩:∃j,k=j+1:=⟨k-1,by have:(k:Int)-1≥0:=h3; omega⟩
   have hj:j<l.length:=by omega
   have hw:=zco ol hj
   have hne:IntKind.u64.wrap (b:Int)≠0:=by rw [u64W hbW]; omega
   have hji:((j+1:Nat):Int)-1=(j:Int):=by omega
   simp only [hji]
   refine ⟨by decide,zbi j (hx.le ho2.1) rfl hj fun a ha=>⟨_,ha,hne,?_⟩⟩
   refine zgq j _ ho2 rfl (by omega) (zqr hrem hbW hw) fun h5 b5 _ _ _ ho5=>⟨hne,?_⟩
   rw [or32 (by omega) hw,u64W hbW,tmodn]
   refine ⟨⟨j,_,_,by rw [w64 (by omega)],by omega,Nat.mod_lt _ hb,ho5,zeu okr (zq1 hrem hw),by simp [hrl],zqs hj hrl hv⟩,by rw [w64 (by omega)]; omega⟩
 · obtain rfl:k=0:=by have:¬(k:Int)-1≥0:=h3; omega
   simp only [List.drop_zero] at hv
   have e1:vl l/b=vl r:=by rw [hv,Nat.mul_add_div hb,Nat.div_eq_of_lt hrem]; omega
   have e2:vl l % b=rem:=by rw [hv,Nat.mul_add_mod,Nat.mod_eq_of_lt hrem]
   have:=H h2 r ho2 okr hrl e1.symm
   rw [e2] at this
   exact this
theorem zor (hx:RdW h x l) (ol:okW l) (hb:0<b) (hbW:b<W) (hl:l.length≤35184372088800)
 (H:∀z w h',h.le h'→RdW h' z (dg (vl l/b))→RdW h' w (dg (vl l % b))→Kp (z,w) h'):callP (F.zec x b) Kp h:=by
 refine za0 (fun v h'=>RdW h' v.1 (dg (vl l/b))∧RdW h' v.2 (dg (vl l % b))) (fun K' hk=>?_) fun ⟨z,w⟩ h' hl hz=>H z w h' hl hz.1 hz.2
 unfold F.zec
 have lx:=hx.len
 refine zi5 l.length l.length (by omega) (by omega) (by omega) (by omega) fun m1 h1 hw hw2=>?_
 refine za34 (Kf:=fun (s:Int) h2=>callP (F.zac m1) (fun r7 h4=>callP (F.zbx s) (fun r8 h5=>K' (r7,r8) h5) h4) h2) hx ol hb hbW hl hw2 fun h3 r ho okr hrl hv=>?_
 refine zeh ho.rdW (by omega) fun z hz=>?_
 rw [zde okr,hv] at hz
 have:=Nat.mod_lt (vl l) hb
 refine zfe rfl (by unfold W at hbW; omega) fun w h4 hl4 hw4=>hk _ _ (Hp.le_trans ho.1 hl4) ⟨hz.le hl4,hw4⟩
theorem minpow {s:Nat} (hs:s≤32):(2:Int) ^ (min ((s:Int)).toNat IntKind.u64.bits)=((2 ^ s:Nat):Int):=by
 have:min ((s:Int)).toNat IntKind.u64.bits=s:=by show min s 64=s; omega
 rw [this]; simp
theorem minpow32 {s:Nat} (hs:s≤32):(2:Int) ^ (min ((s:Int)).toNat IntKind.u32.bits)=((2 ^ s:Nat):Int):=by
 have:min ((s:Int)).toNat IntKind.u32.bits=s:=by show min s 32=s; omega
 rw [this]; simp
theorem zoc {s:Nat} (hs:s≤32):2 ^ s≤W:=by
 show 2 ^ s≤2 ^ 32
 exact Nat.pow_le_pow_right (by decide) hs
theorem zn0 {s:Nat} (hs:s≤32):2 ^ s*2 ^ (32-s)=W:=by
 rw [←Nat.pow_add,show s+(32-s)=32 by omega]; rfl
theorem zv3 {s w:Nat} (hs:s≤32) (hw:w<W):IntKind.u64.wrap (IntKind.u64.wrap (w:Int)*2 ^ (min ((s:Int)).toNat IntKind.u64.bits))=((w*2 ^ s:Nat):Int):=by
 rw [minpow hs,u64W hw,show ((w:Int)*((2 ^ s:Nat):Int))=((w*2 ^ s:Nat):Int) by simp]
 refine u64n ?_
 have h1:=zoc hs
 have:w*2 ^ s<W*W:=Nat.mul_lt_mul_of_lt_of_le hw h1 W_pos
 unfold W at this; omega
theorem zv2 {s w:Nat} (hs:s≤32):w*2 ^ s % W=2 ^ s*(w % 2 ^ (32-s)):=by
 rw [←zn0 hs,Nat.mul_comm w,Nat.mul_mod_mul_left]
theorem za2d {s w:Nat} (hs:s≤32) (hw:w<W):w*2 ^ s/W<2 ^ s:=by
 rw [Nat.div_lt_iff_lt_mul W_pos,Nat.mul_comm]
 exact Nat.mul_lt_mul_of_pos_left hw (Nat.two_pow_pos s)
theorem zsd {s c w:Nat} (hs:s≤32) (hc:c<2 ^ s):c ||| (w*2 ^ s % W)=c+w*2 ^ s % W:=by
 rw [zv2 hs,Nat.or_comm,←Nat.two_pow_add_eq_or_of_lt hc,Nat.add_comm]
theorem or_lt {s c w:Nat} (hs:s≤32) (hc:c<2 ^ s):c+w*2 ^ s % W<W:=by
 rw [←zsd hs hc]
 exact Nat.or_lt_two_pow (n:=32) (Nat.lt_of_lt_of_le hc (zoc hs)) (Nat.mod_lt _ W_pos)
theorem za5n {s:Nat} (hx:RdW h x l) (ol:okW l) (hs:s≤31) (hl:l.length≤35184372088800)
 (H:∀z h' r,OwnW h h' z r→okW r→r.length=l.length+1→vl r=vl l*2 ^ s→Ks z h'):F.zd4 x (s:Int) Ks h:=by
 unfold F.zd4
 have lx:=hx.len
 refine zi5 (l.length+1) (l.length+1) (by rw [w64 (by omega)]; omega) (by rw [w64 (by omega)]; omega) (by omega) (by omega) fun m1 h1 hw hw2=>?_
 refine zbb (fun st h'=>∃(i:Nat) (r:List Nat),st=((i:Int),())∧i≤l.length∧OwnW h h' m1 r∧okW r∧r.length=l.length+1∧(∃hi:i<r.length,r[i]<2 ^ s)∧vl (r.take (i+1))=vl (l.take i)*2 ^ s)
  (fun st=>((l.length:Int)-st.1).toNat) ⟨0,_,rfl,Nat.zero_le _,hw2,zlb _,by simp,⟨by simp,by simpa using Nat.two_pow_pos s⟩,by rw [zc4 (by simp)]; simp [vl]⟩ ?_
 rintro st h2 ⟨i,r,rfl,hi,ho,okr,hrl,⟨hi1,hc⟩,hv⟩
 refine za1 (fun h3=>?_) (fun h3=>?_)
 · have hi':i<l.length:=by have:(i:Int)<(x.len:Int):=h3; omega
   have hw:=zco ol hi'
   refine zbi i (hx.le ho.1) rfl hi' fun a ha=>⟨_,ha,by omega,?_⟩
   refine zbi i ho.rdW rfl hi1 fun a2 ha2=>⟨_,ha2,?_⟩
   rw [zv3 (by omega) hw,u32n]
   have e1:=zsd (w:=l[i]) (by omega) hc
   have e2:=or_lt (w:=l[i]) (by omega) hc
   refine zgq i (r[i]+l[i]*2 ^ s % W) ho rfl hi1 ?_ fun h5 b5 _ _ _ ho5=>⟨by decide,?_⟩
   · rw [or32k (zco okr hi1) (Nat.mod_lt _ W_pos),e1]
   · rw [shr32]
     have e3:=za2d (s:=s) (by omega) hw
     have e4:l[i]*2 ^ s/W<W:=Nat.lt_of_lt_of_le e3 (zoc (by omega))
     refine zgq (i+1) (l[i]*2 ^ s/W) ho5 (by rw [w64 (by omega)]; rfl) (by simp; omega) (u32lt e4) fun h6 b6 _ _ _ ho6=>?_
     have hlen:i+1<((r.set i (r[i]+l[i]*2 ^ s % W)).set (i+1) (l[i]*2 ^ s/W)).length:=by simp; omega
     refine ⟨⟨i+1,_,by rw [w64 (by omega)]; rfl,by omega,ho6,zeu (zeu okr e2) e4,by simp [hrl],⟨hlen,by rw [List.getElem_set_self]; exact e3⟩,?_⟩,by rw [w64 (by omega)]; omega⟩
     rw [ziw (by simp; omega),ziw hi1,zc4 hi',Nat.add_mul,←hv,zc4 hi1,Nat.pow_succ,Nat.mul_add]
     have e:=Nat.mod_add_div (l[i]*2 ^ s) W
     have e5:=congrArg (W ^ i*·) e
     simp only [Nat.mul_add] at e5
     rw [Nat.mul_assoc,Nat.mul_assoc]
     omega
 · have hi':i=l.length:=by have:¬(i:Int)<(x.len:Int):=h3; omega
   subst hi'
   rw [List.take_of_length_le (l:=l) (Nat.le_refl _),List.take_of_length_le (by omega)] at hv
   exact H _ _ r ho okr hrl hv
theorem zsq {s:Nat} (hx:RdW h x l) (ol:okW l) (hs:s≤31) (hl:l.length≤35184372088800)
 (H:∀z h' r,OwnW h h' z r→okW r→r.length=l.length+1→vl r=vl l*2 ^ s→Ks z h'):callP (F.zd4 x (s:Int)) Ks h:=
 za0 (fun z h'=>∃r,OwnW h h' z r∧okW r∧r.length=l.length+1∧vl r=vl l*2 ^ s) (fun K' hk=>za5n hx ol hs hl fun z h' r h1 h2 h3 h4=>hk z h' h1.1 ⟨r,h1,h2,h3,h4⟩) fun z h' _ ⟨r,h1,h2,h3,h4⟩=>H z h' r h1 h2 h3 h4
theorem zsr {s u v:Nat} (hs:s≤32) (hu:u<W):(u/2 ^ s) ||| (v*2 ^ (32-s) % W)=u/2 ^ s+2 ^ (32-s)*(v % 2 ^ s):=by
 have h1:u/2 ^ s<2 ^ (32-s):=by
  rw [Nat.div_lt_iff_lt_mul (Nat.two_pow_pos s),Nat.mul_comm,zn0 hs]; exact hu
 rw [zsd (by omega) h1,zv2 (by omega),show 32-(32-s)=s by omega]
theorem za5o {s u v:Nat} (hs:s≤32) (hu:u<W):u/2 ^ s+2 ^ (32-s)*(v % 2 ^ s)<W:=by
 rw [←zsr hs hu]
 exact Nat.or_lt_two_pow (n:=32) (Nat.lt_of_le_of_lt (Nat.div_le_self _ _) hu) (Nat.mod_lt _ W_pos)
theorem za2f {r l:List Nat} {s i z0:Nat} (hs:s≤32) (hi:i<l.length) (hrl:r.length=l.length)
 (hv:2 ^ s*vl (r.take i)+z0=vl (l.take i)+W ^ i*(l.getD i 0 % 2 ^ s)) :
 2 ^ s*vl ((r.set i (l[i]/2 ^ s+2 ^ (32-s)*(l.getD (i+1) 0 % 2 ^ s))).take (i+1))+z0=vl (l.take (i+1))+W ^ (i+1)*(l.getD (i+1) 0 % 2 ^ s):=by
 rw [ziw (by omega),zc4 hi]
 rw [zhy hi] at hv
 have e:=Nat.div_add_mod l[i] (2 ^ s)
 have p:=zn0 hs
 rw [Nat.pow_succ]
 generalize l.getD (i+1) 0 % 2 ^ s=A at *
 generalize 2 ^ (32-s)=Q at *
 generalize 2 ^ s=S at *
 generalize W ^ i=P at *
 generalize l[i] % S=B at *
 generalize l[i]/S=C at *
 generalize l[i]=D at *
 generalize vl (r.take i)=R at *
 generalize vl (l.take i)=L at *
 rw [←p,←e]
 clear hrl hi hs e p
 grind
theorem za3w {r l:List Nat} {s:Nat} (hrl:r.length=l.length) (hv:2 ^ s*vl (r.take l.length)+l.getD 0 0 % 2 ^ s=vl (l.take l.length)+W ^ l.length*(l.getD l.length 0 % 2 ^ s)):vl r=vl l/2 ^ s:=by
 rw [List.take_of_length_le (l:=r) (by omega),List.take_of_length_le (Nat.le_refl _),zj4 (Nat.le_refl _),Nat.zero_mod,Nat.mul_zero,Nat.add_zero] at hv
 rw [←hv,Nat.mul_add_div (Nat.two_pow_pos s),Nat.div_eq_of_lt (Nat.mod_lt _ (Nat.two_pow_pos s)),Nat.add_zero]
theorem zpz {s w:Nat} (hs:s≤32):((w:Int)).fdiv (2 ^ (min ((s:Int)).toNat IntKind.u32.bits))=((w/2 ^ s:Nat):Int):=by
 rw [minpow32 hs]
 exact (Int.ofNat_fdiv w (2 ^ s)).symm
theorem za2e {s:Nat} (hx:RdW h x l) (ol:okW l) (hs:s≤31) (hl:l.length≤35184372088800)
 (H:∀z h' r,h.le h'→RdW h' z r→okW r→r.length=l.length→vl r=vl l/2 ^ s→Ks z h'):callP (F.zed x (s:Int)) Ks h:=by
 refine za0 (fun z h'=>∃r,RdW h' z r∧okW r∧r.length=l.length∧vl r=vl l/2 ^ s) (fun K' hk=>?_) fun z h' hl ⟨r,h1,h2,h3,h4⟩=>H z h' r hl h1 h2 h3 h4
 unfold F.zed
 have lx:=hx.len
 refine zi5 l.length l.length (by omega) (by omega) (by omega) (by omega) fun m1 h1 hw hw2=>?_
 refine zbb (fun st h'=>∃(i:Nat) (r:List Nat),st=((i:Int),())∧i≤l.length∧OwnW h h' m1 r∧okW r∧r.length=l.length∧2 ^ s*vl (r.take i)+l.getD 0 0 % 2 ^ s=vl (l.take i)+W ^ i*(l.getD i 0 % 2 ^ s))
  (fun st=>((l.length:Int)-st.1).toNat) ⟨0,_,rfl,Nat.zero_le _,hw2,zlb _,by simp,by simp [vl]⟩ ?_
 rintro st h2 ⟨i,r,rfl,hi,ho,okr,hrl,hv⟩
 refine za1 (fun h3=>?_) (fun h3=>?_)
 · have hi':i<l.length:=by have:(i:Int)<(x.len:Int):=h3; omega
   have hw:=zco ol hi'
   have e2:=za5o (s:=s) (v:=l.getD (i+1) 0) (by omega) hw
   have e3:=za2f (by omega) hi' hrl hv
   refine za5 (fun _ h'=>∃r',OwnW h h' m1 r'∧r'=r.set i (l[i]/2 ^ s+2 ^ (32-s)*(l.getD (i+1) 0 % 2 ^ s))) ?_ ?_
   · rintro _ h4 ⟨r',ho4,rfl⟩
     exact ⟨⟨i+1,_,by rw [w64 (by simp only; omega)]; rfl,by omega,ho4,zeu okr e2,by simp [hrl],e3⟩,by simp only; rw [w64 (by omega)]; omega⟩
   · refine zbi i (hx.le ho.1) rfl hi' fun a ha=>⟨_,ha,by omega,?_⟩
     refine zgq i (l[i]/2 ^ s) ho rfl (by omega) (zpz (by omega)) fun h5 b5 _ _ _ ho5=>?_
     have wi:IntKind.i64.wrap ((i:Int)+1)=((i+1:Nat):Int):=by rw [w64 (by omega)]; rfl
     have ws:IntKind.i64.wrap (32-(s:Int))=((32-s:Nat):Int):=by rw [w64 (by omega)]; omega
     simp only [wi,ws]
     refine za1 (fun h6=>?_) (fun h6=>?_)
     · have hi2:i+1<l.length:=by omega
       have hw2:=zco ol hi2
       refine zbi i ho5.rdW rfl (by simp; omega) fun a2 ha2=>⟨_,ha2,?_⟩
       refine zbi (i+1) (hx.le ho5.1) rfl hi2 fun a3 ha3=>⟨_,ha3,by omega,?_⟩
       rw [zv3 (by omega) hw2,u32n,List.getElem_set_self,or32k (Nat.lt_of_le_of_lt (Nat.div_le_self _ _) hw) (Nat.mod_lt _ W_pos),zsr (by omega) hw]
       refine zgq i _ ho5 rfl (by simp; omega) rfl fun h7 b7 _ _ _ ho7=>⟨_,ho7,?_⟩
       rw [List.set_set,zhy hi2]
     · have hi2:l.length≤i+1:=by omega
       refine ⟨_,ho5,?_⟩
       rw [zj4 hi2]
       simp
 · have hi':i=l.length:=by have:¬(i:Int)<(x.len:Int):=h3; omega
   subst hi'
   exact hk _ _ ho.1 ⟨r,ho.rdW,okr,hrl,za3w hrl hv⟩
end
end Den
end

section
namespace Iv
theorem zp0 {X V P w v1 v2 u num qh rh:Nat} (hX:X<(num*w+u+1)*P) (hV:(v1*w+v2)*P≤V) (hV0:0<V) (hnum:qh*v1+rh=num)
 (hlt:X<V*w) (hc:w≤qh∨rh*w+u<qh*v2):X/V<qh:=by
 rw [Nat.div_lt_iff_lt_mul hV0]
 rcases hc with hc | hc
 · exact Nat.lt_of_lt_of_le hlt (by rw [Nat.mul_comm]; exact Nat.mul_le_mul_right _ hc)
 · have h1:num*w+u+1≤qh*(v1*w+v2):=by
    rw [←hnum,Nat.mul_add,Nat.add_mul,←Nat.mul_assoc]; omega
   have h2:(num*w+u+1)*P≤qh*((v1*w+v2)*P):=by
    rw [←Nat.mul_assoc]; exact Nat.mul_le_mul_right _ h1
   have h3:qh*((v1*w+v2)*P)≤qh*V:=Nat.mul_le_mul_left _ hV
   omega
theorem zp1 {X V P w v1 v2 u num qh rh un un1:Nat} (hw:1<w) (hX:(num*w+u)*P≤X) (hV:V<(v1*w+v2+1)*P) (hV0:0<V) (hP:0<P) (hnum:qh*v1+rh=num) (hn:num=un*w+un1)
 (hv1:w≤2*v1) (hun:un≤v1) (hun1:un1<w) (hv2:v2<w) (hu:u<w)
 (hc:w≤rh∨(qh<w∧qh*v2≤rh*w+u)):qh<w∧qh≤X/V+1:=by
 have hv1p:0<v1:=by omega
 have h1:qh<w:=by
  rcases hc with hc | hc
  · have h2:un*w≤v1*w:=Nat.mul_le_mul_right _ hun
    have h3:qh*v1<w*v1:=by rw [Nat.mul_comm w v1]; omega
    exact Nat.lt_of_mul_lt_mul_right h3
  · exact hc.1
 refine ⟨h1,?_⟩
 have h2:qh*v2≤rh*w+u:=by
  rcases hc with hc | hc
  · have a1:qh*v2≤w*w:=Nat.mul_le_mul (by omega) (by omega)
    have a2:w*w≤rh*w:=Nat.mul_le_mul_right _ hc
    omega
  · exact hc.2
 have h3:qh*(v1*w+v2)≤num*w+u:=by
  rw [←hnum,Nat.mul_add,Nat.add_mul,←Nat.mul_assoc]; omega
 rcases Nat.eq_zero_or_pos qh with h0 | h0
 · rw [h0]; exact Nat.zero_le _
 obtain ⟨q1,rfl⟩:∃q1,qh=q1+1:=⟨qh-1,by omega⟩
 have h4:q1*(v1*w+v2+1)≤num*w+u:=by
  rw [Nat.mul_add,Nat.mul_one]
  rw [Nat.add_mul] at h3
  have:w≤v1*w:=Nat.le_mul_of_pos_left _ hv1p
  omega
 have h5:q1*V≤X:=by
  have a1:q1*V≤q1*((v1*w+v2+1)*P):=Nat.mul_le_mul_left _ (Nat.le_of_lt hV)
  have a2:q1*((v1*w+v2+1)*P)≤(num*w+u)*P:=by
   rw [←Nat.mul_assoc]; exact Nat.mul_le_mul_right _ h4
  omega
 exact Nat.succ_le_succ ((Nat.le_div_iff_mul_le hV0).2 h5)
theorem top2 {l:List Nat} (ok:okW l) {n:Nat} (hl:l.length=n+2):∃P lo,P=W ^ n∧lo<P∧vl l=(l.getD (n+1) 0*W+l.getD n 0)*P+lo∧lo=vl (l.take n):=by
 refine ⟨W ^ n,vl (l.take n),rfl,?_,?_,rfl⟩
 · have:=vl_lt (zi7 ok n)
   rw [List.length_take,Nat.min_eq_left (by omega)] at this
   exact this
 · have e1:=Den.zkg l n
   have e2:=Den.zkg l (n+1)
   rw [List.take_of_length_le (by omega)] at e2
   rw [e2,e1,Nat.pow_succ,Nat.add_mul,Nat.mul_assoc (l.getD (n+1) 0),Nat.mul_comm (W ^ n) W,Nat.mul_comm (l.getD (n+1) 0),Nat.mul_comm (l.getD n 0)]
   omega
theorem top3 {l:List Nat} (ok:okW l) {n:Nat} (hl:l.length=n+3):∃P lo,P=W ^ n∧lo<P∧vl l=((l.getD (n+2) 0*W+l.getD (n+1) 0)*W+l.getD n 0)*P+lo:=by
 obtain ⟨P,lo,h1,h2,h3,h4⟩:=top2 ok (n:=n+1) (by omega)
 refine ⟨W ^ n,vl (l.take n),rfl,?_,?_⟩
 · have:=vl_lt (zi7 ok n)
   rw [List.length_take,Nat.min_eq_left (by omega)] at this
   exact this
 · rw [h3,h4,Den.zkg,h1,Nat.pow_succ]
   have:(l.getD (n+2) 0*W+l.getD (n+1) 0)*(W ^ n*W)=(l.getD (n+2) 0*W+l.getD (n+1) 0)*W*W ^ n:=by
    rw [Nat.mul_comm (W ^ n) W,Nat.mul_assoc]
   rw [this,Nat.add_mul _ (l.getD n 0),Nat.mul_comm (l.getD n 0)]
   omega
theorem zn3 {l:List Nat} (ok:okW l) {a b:Nat} (h:vl (l.drop a)<W ^ b):vl (l.drop (a+b))=0:=by
 rcases Nat.lt_or_ge (l.drop a).length b with h1 | h1
 · rw [List.drop_eq_nil_of_le (by rw [List.length_drop] at h1; omega)]; rfl
 · have:=zcp (l:=l.drop a) (k:=b) h1
   rw [List.drop_drop] at this
   rcases Nat.eq_zero_or_pos (vl (l.drop (a+b))) with h2 | h2
   · exact h2
   · have:W ^ b≤W ^ b*vl (l.drop (a+b)):=Nat.le_mul_of_pos_right _ h2
     omega
end Iv
namespace Den
open Go Iv
theorem LeX.refl {b:Nat} {h:Hp}:LeX b h h:=fun _ _ _ hk=>hk
theorem LeX.trans {b:Nat} {h h1 h2:Hp} (x:LeX b h h1) (y:LeX b h1 h2):LeX b h h2:=fun k B hne hk=>y k B hne (x k B hne hk)
theorem zg6 {x:Sl} {j e:Nat} {i:Int} {k:Nat} {F:Addr→Prop} (hi:i=k) (hk:k<e-j) (he:e≤x.cap) (H:idxP x ((j+k:Nat):Int) 1 F):idxP (x.cut j e 1) i 1 F:=by
 subst hi
 obtain ⟨_,_,h3⟩:=H
 refine ⟨by omega,?_,?_⟩
 · show (k:Int)<((e-j:Nat):Int); omega
 · have:(x.cut j e 1).a=x.a.map (·.add (j*1)):=by show (if x.cap=j then _ else _)=_; rw [if_neg (by omega)]
   rw [this]
   cases ha:x.a with
   | none=>rw [ha] at h3; exact h3
   | some a=>
     rw [ha] at h3
     simp only [ptrK,Option.map_some] at h3 ⊢
     rw [ze2]
     have e1:(((j+k:Nat):Int)).toNat=j+k:=rfl
     have e2:((k:Int)).toNat=k:=rfl
     rw [e1] at h3
     rw [e2]
     rw [show j*1+k*1=(j+k)*1 by omega]
     exact h3
theorem zss {x:Sl} {lo hi:Int} {K:Sl→Prop} (a b:Nat) (ha:lo=a) (hb:hi=b) (hab:a≤b) (hc:b≤x.cap) (H:K (x.cut a b 1)):slP x lo hi 1 K:=by
 subst ha hb
 exact ⟨by omega,by omega,by omega,H⟩
section
variable {h0 h : Hp} {u y : Sl} {L m : List Nat} {a0 : Addr} {j d : Nat} {Kb : Bool → Hp → Prop} {Ku : Unit → Hp → Prop}
theorem zkb {i:Int} {v:Int} {K:Hp→Prop} (k n:Nat) (ha0:u.a=some a0) (ho:OwnW h0 h u L) (hi:i=k) (hk:k<L.length) (hv:v=n)
 (H:∀h',LeX a0.block h h'→OwnW h0 h' u (L.set k n)→K h'):idxP u i 1 fun a=>stP a [.int .u32 v] K h:=
 zgq k n ho hi hk hv fun h' b h1 _ h3 h4=>H h' (by rw [h1 _ ha0]; exact h3) h4
theorem za2l {x d c z:Nat} (hx:x<W) (hd:d<W) (hc:c≤W) (hz:z<W):∃r b:Nat,r<W∧b≤W∧z+W*b=r+(x*d+c) ∧
 IntKind.u32.wrap (IntKind.u64.wrap (IntKind.u64.wrap (z:Int)-IntKind.u64.wrap (IntKind.u32.wrap (IntKind.u64.wrap (IntKind.u64.wrap (IntKind.u64.wrap (x:Int)*(d:Int))+(c:Int))))))=(r:Int) ∧
 IntKind.u64.wrap ((IntKind.u64.wrap (IntKind.u64.wrap (IntKind.u64.wrap (x:Int)*(d:Int))+(c:Int))).fdiv (2 ^ (min (32:Int).toNat IntKind.u64.bits)) +
  (IntKind.u64.wrap (IntKind.u64.wrap (z:Int)-IntKind.u64.wrap (IntKind.u32.wrap (IntKind.u64.wrap (IntKind.u64.wrap (IntKind.u64.wrap (x:Int)*(d:Int))+(c:Int)))))).fdiv (2 ^ (min (63:Int).toNat IntKind.u64.bits)))=(b:Int):=by
 unfold W at *
 have hxd:x*d≤4294967295*4294967295:=Nat.mul_le_mul (by omega) (by omega)
 have e1:IntKind.u64.wrap (IntKind.u64.wrap (IntKind.u64.wrap (x:Int)*(d:Int))+(c:Int))=((x*d+c:Nat):Int):=by
  rw [u64n (n:=x) (by omega),show ((x:Int)*(d:Int))=((x*d:Nat):Int) by simp,u64n (n:=x*d) (by omega),show (((x*d:Nat):Int)+(c:Int))=((x*d+c:Nat):Int) by simp,u64n (by omega)]
 rw [e1,fd63,fd32]
 simp only [wu64e,wu32e]
 have ht:x*d+c≤4294967295*4294967295+4294967296:=by omega
 generalize x*d+c=t at *
 by_cases hb:t % 4294967296≤z
 · exact ⟨z-t % 4294967296,t/4294967296,by omega,by omega,by omega,by omega,by omega⟩
 · exact ⟨z+4294967296-t % 4294967296,t/4294967296+1,by omega,by omega,by omega,by omega,by omega⟩
theorem zkn {L:List Nat} {j k v:Nat} (hj:j≤k):(L.set k v).take j=L.take j:=by
 apply List.ext_getElem
 · simp
 · intro i h1 h2
   simp only [List.length_take] at h1 h2
   simp only [List.getElem_take]
   rw [List.getElem_set_ne (by omega)]
theorem zkm {L:List Nat} {k e v:Nat} (hk:k<e):(L.set k v).drop e=L.drop e:=by
 rw [List.drop_set_of_lt hk]
theorem za5q (ha0:u.a=some a0) (ho:OwnW h0 h u L) (okL:okW L) (hy:RdW h y m) (okm:okW m) (hne:∀a,y.a=some a→a.block≠a0.block) (hj:j+m.length<L.length) (hd:d<W) (hL:L.length≤35184372088800+1)
 (H:∀h' L' b,LeX a0.block h h'→OwnW h0 h' u L'→okW L'→L'.length=L.length→L'.take j=L.take j→L'.drop (j+m.length+1)=L.drop (j+m.length+1)→b≤1 →
   vl L'+W ^ j*(d*vl m)=vl L+W ^ (j+m.length+1)*b→Kb ((b:Int)==1) h'):F.zf6 (u.cut j (j+m.length+1) 1) y (d:Int) Kb h:=by
 unfold F.zf6
 have ly:=hy.len
 have lu:=ho.len
 have lc:=ho.2.2.1
 refine zbb (fun st h'=>∃(c i:Nat) (L':List Nat),st=((c:Int),(i:Int),())∧i≤m.length∧c≤W∧LeX a0.block h h'∧OwnW h0 h' u L'∧okW L'∧L'.length=L.length∧L'.take j=L.take j∧L'.drop (j+m.length+1)=L.drop (j+m.length+1) ∧
  vl L'+W ^ j*(d*vl (m.take i))=vl L+W ^ (j+i)*c) (fun st=>((m.length:Int)-st.2.1).toNat) ⟨0,0,L,rfl,Nat.zero_le _,by omega,LeX.refl,ho,okL,rfl,rfl,rfl,by simp [vl]⟩ ?_
 rintro st h1 ⟨c,i,L',rfl,hi,hc,hle,ho1,okL',hLL,htk,hdr,hv⟩
 have hy1:=hy.leX hle hne
 refine za1 (fun h3=>?_) (fun h3=>?_)
 · have hi':i<m.length:=by have:(i:Int)<(y.len:Int):=h3; omega
   have hx:=zco okm hi'
   have hz:=zco okL' (k:=j+i) (by omega)
   refine zbi i hy1 rfl hi' fun a ha=>⟨_,ha,?_⟩
   refine zg6 rfl (by omega) (by omega) (zbi (j+i) ho1.rdW rfl (by omega) fun a2 ha2=>⟨_,ha2,?_⟩)
   obtain ⟨r,b,hr,hb,he,e1,e2⟩:=za2l hx hd hc hz
   refine zg6 rfl (by omega) (by omega) (zkb (j+i) r ha0 ho1 rfl (by omega) e1 fun h5 hl5 ho5=>⟨by decide,by decide,?_⟩)
   refine ⟨⟨b,i+1,L'.set (j+i) r,?_,by omega,hb,hle.trans hl5,ho5,zeu okL' hr,by simp [hLL],by rw [zkn (by omega)]; exact htk,by rw [zkm (by omega)]; exact hdr,?_⟩,by simp only; rw [w64 (by omega)]; omega⟩
   · rw [w64 (by simp only; omega)]
     simp only [Prod.mk.injEq,and_true]
     exact ⟨e2,rfl⟩
   · have e3:=zkf (l:=L') (k:=j+i) (v:=r) (by omega)
     rw [zc4 hi']
     generalize vl (L'.set (j+i) r)=V at *
     generalize L'[j+i]=z at *
     generalize m[i]=x at *
     generalize vl (m.take i)=T at *
     generalize vl L'=V' at *
     generalize vl L=V0 at *
     have p1:W ^ (j+(i+1))=W ^ (j+i)*W:=by rw [←Nat.add_assoc,Nat.pow_succ]
     have p2:W ^ (j+i)=W ^ j*W ^ i:=Nat.pow_add ..
     rw [p1]
     generalize W ^ (j+i)=P at *
     subst p2
     generalize W ^ j=Pj at *
     generalize W ^ i=Pi at *
     clear H e1 e2 hdr htk hLL okL' okL
     grind
 · have hi':i=m.length:=by have:¬(i:Int)<(y.len:Int):=h3; omega
   subst hi'
   have hz:=zco okL' (k:=j+m.length) (by omega)
   rw [List.take_of_length_le (Nat.le_refl _)] at hv
   refine zg6 (k:=m.length) (by omega) (by omega) (by omega) (zbi (j+m.length) ho1.rdW rfl (by omega) fun a2 ha2=>⟨_,ha2,?_⟩)
   have key:∃r b:Nat,r<W∧b≤1∧L'[j+m.length]+W*b=r+c∧IntKind.u32.wrap (IntKind.u64.wrap (IntKind.u64.wrap (L'[j+m.length]:Int)-(c:Int)))=(r:Int) ∧
    (IntKind.u64.wrap (IntKind.u64.wrap (L'[j+m.length]:Int)-(c:Int))).fdiv (2 ^ (min (63:Int).toNat IntKind.u64.bits))=(b:Int):=by
    rw [fd63]
    simp only [wu64e,wu32e]
    unfold W at *
    generalize L'[j+m.length]=z at *
    clear H
    by_cases hb:c≤z
    · exact ⟨z-c,0,by omega,by omega,by omega,by omega,by omega⟩
    · exact ⟨z+4294967296-c,1,by omega,by omega,by omega,by omega,by omega⟩
   obtain ⟨r,b,hr,hb,he,e1,e2⟩:=key
   refine zg6 (k:=m.length) (by omega) (by omega) (by omega) (zkb (j+m.length) r ha0 ho1 rfl (by omega) e1 fun h5 hl5 ho5=>⟨by decide,?_⟩)
   simp only
   rw [e2]
   refine H h5 _ b (hle.trans hl5) ho5 (zeu okL' hr) (by simp [hLL]) (by rw [zkn (by omega)]; exact htk) (by rw [zkm (by omega)]; exact hdr) hb ?_
   have e3:=zkf (l:=L') (k:=j+m.length) (v:=r) (by omega)
   rw [Nat.pow_succ]
   generalize vl (L'.set (j+m.length) r)=V at *
   generalize L'[j+m.length]=z at *
   generalize W ^ (j+m.length)=P at *
   have e4:=congrArg (P*·) he
   simp only [Nat.mul_add] at e4
   rw [Nat.mul_assoc]
   omega
theorem zw8 (ha0:u.a=some a0) (ho:OwnW h0 h u L) (okL:okW L) (hy:RdW h y m) (okm:okW m) (hne:∀a,y.a=some a→a.block≠a0.block) (hj:j+m.length<L.length) (hL:L.length≤35184372088800+1)
 (H:∀h' L' c,LeX a0.block h h'→OwnW h0 h' u L'→okW L'→L'.length=L.length→L'.take j=L.take j→L'.drop (j+m.length+1)=L.drop (j+m.length+1)→c≤1 →
   vl L'+W ^ (j+m.length+1)*c=vl L+W ^ j*vl m→Ku () h'):F.zfw (u.cut j (j+m.length+1) 1) y Ku h:=by
 unfold F.zfw
 have ly:=hy.len
 have lu:=ho.len
 have lc:=ho.2.2.1
 refine zbb (fun st h'=>∃(c i:Nat) (L':List Nat),st=((c:Int),(i:Int),())∧i≤m.length∧c≤1∧LeX a0.block h h'∧OwnW h0 h' u L'∧okW L'∧L'.length=L.length∧L'.take j=L.take j∧L'.drop (j+m.length+1)=L.drop (j+m.length+1) ∧
  vl L'+W ^ (j+i)*c=vl L+W ^ j*vl (m.take i)) (fun st=>((m.length:Int)-st.2.1).toNat) ⟨0,0,L,rfl,Nat.zero_le _,by omega,LeX.refl,ho,okL,rfl,rfl,rfl,by simp [vl]⟩ ?_
 rintro st h1 ⟨c,i,L',rfl,hi,hc,hle,ho1,okL',hLL,htk,hdr,hv⟩
 have hy1:=hy.leX hle hne
 refine za1 (fun h3=>?_) (fun h3=>?_)
 · have hi':i<m.length:=by have:(i:Int)<(y.len:Int):=h3; omega
   have hx:=zco okm hi'
   have hz:=zco okL' (k:=j+i) (by omega)
   refine zbi i hy1 rfl hi' fun a ha=>⟨_,ha,?_⟩
   refine zg6 rfl (by omega) (by omega) (zbi (j+i) ho1.rdW rfl (by omega) fun a2 ha2=>⟨_,ha2,?_⟩)
   have e0:IntKind.u64.wrap ((c:Int)+IntKind.u64.wrap (IntKind.u64.wrap (L'[j+i]:Int)+IntKind.u64.wrap (m[i]:Int)))=((c+(L'[j+i]+m[i]):Nat):Int):=by
    clear H
    unfold W at *
    simp only [wu64e]
    omega
   simp only
   rw [e0]
   refine zg6 rfl (by omega) (by omega) (zkb (j+i) _ ha0 ho1 rfl (by omega) (u32n _) fun h5 hl5 ho5=>⟨by decide,?_⟩)
   rw [shr32]
   refine ⟨⟨_,i+1,_,by rw [w64 (by omega)]; rfl,by omega,?_,hle.trans hl5,ho5,zeu okL' (Nat.mod_lt _ W_pos),by simp [hLL],by rw [zkn (by omega)]; exact htk,by rw [zkm (by omega)]; exact hdr,?_⟩,by rw [w64 (by omega)]; omega⟩
   · clear H; unfold W at *; omega
   · have e3:=zkf (l:=L') (k:=j+i) (v:=(c+(L'[j+i]+m[i])) % W) (by omega)
     have he:=Nat.mod_add_div (c+(L'[j+i]+m[i])) W
     rw [zc4 hi']
     generalize vl (L'.set (j+i) ((c+(L'[j+i]+m[i])) % W))=V at *
     generalize (c+(L'[j+i]+m[i])) % W=r at *
     generalize (c+(L'[j+i]+m[i]))/W=q at *
     generalize L'[j+i]=z at *
     generalize m[i]=x at *
     generalize vl (m.take i)=T at *
     generalize vl L'=V' at *
     generalize vl L=V0 at *
     have p1:W ^ (j+(i+1))=W ^ (j+i)*W:=by rw [←Nat.add_assoc,Nat.pow_succ]
     have p2:W ^ (j+i)=W ^ j*W ^ i:=Nat.pow_add ..
     rw [p1]
     generalize W ^ (j+i)=P at *
     subst p2
     generalize W ^ j=Pj at *
     generalize W ^ i=Pi at *
     clear H e0 hdr htk hLL okL' okL
     grind
 · have hi':i=m.length:=by have:¬(i:Int)<(y.len:Int):=h3; omega
   subst hi'
   have hz:=zco okL' (k:=j+m.length) (by omega)
   rw [List.take_of_length_le (Nat.le_refl _)] at hv
   refine zg6 (k:=m.length) (by omega) (by omega) (by omega) (zbi (j+m.length) ho1.rdW rfl (by omega) fun a2 ha2=>⟨_,ha2,?_⟩)
   have e1:IntKind.u32.wrap ((L'[j+m.length]:Int)+IntKind.u32.wrap (c:Int))=(((c+L'[j+m.length]) % W:Nat):Int):=by
    clear H
    unfold W at *
    simp only [wu32e]
    omega
   refine zg6 (k:=m.length) (by omega) (by omega) (by omega) (zkb (j+m.length) _ ha0 ho1 rfl (by omega) e1 fun h5 hl5 ho5=>?_)
   refine H h5 _ ((c+L'[j+m.length])/W) (hle.trans hl5) ho5 (zeu okL' (Nat.mod_lt _ W_pos)) (by simp [hLL]) (by rw [zkn (by omega)]; exact htk) (by rw [zkm (by omega)]; exact hdr) (by clear H; unfold W at *; omega) ?_
   have e3:=zkf (l:=L') (k:=j+m.length) (v:=(c+L'[j+m.length]) % W) (by omega)
   have he:=Nat.mod_add_div (c+L'[j+m.length]) W
   rw [Nat.pow_succ]
   generalize vl (L'.set (j+m.length) ((c+L'[j+m.length]) % W))=V at *
   generalize (c+L'[j+m.length]) % W=r at *
   generalize (c+L'[j+m.length])/W=q at *
   generalize L'[j+m.length]=z at *
   generalize W ^ (j+m.length)=P at *
   have e4:=congrArg (P*·) he
   simp only [Nat.mul_add] at e4
   rw [Nat.mul_assoc]
   omega
end
end Den
end

section
set_option maxRecDepth 4000
namespace Iv
theorem zpi {l:List Nat} {n:Nat} (hl:l.length=n+1):vl l=vl (l.take n)+W ^ n*l[n]:=by
 have:=zc4 (l:=l) (k:=n) (by omega)
 rw [List.take_of_length_le (by omega)] at this
 exact this
theorem za4f {B n:Nat} (hn:(dg B).length=n+1):(dg B)[n]≠0:=by
 intro h0
 have h1:=zpi hn
 rw [h0,Nat.mul_zero,Nat.add_zero,vl_dg] at h1
 have h2:=vl_lt (zi7 (ok_dg B) n)
 rw [List.length_take,Nat.min_eq_left (by omega)] at h2
 have:=zc2.2 (show B<W ^ n by omega)
 omega
theorem zuj {B:Nat} (h:(dg B).length=1):dg B=[B]:=by
 have h1:=vl_dg B
 match hd:dg B,h with
 | [x],_=>
   rw [hd] at h1
   simp only [vl,Nat.mul_zero,Nat.add_zero] at h1
   rw [h1]
open Den in
theorem za20 {B n:Nat} (hn:(dg B).length=n+1):∃s,s=32-bl (dg B)[n]∧bl (dg B)[n]≤32∧s≤31∧W ^ n*2147483648≤B*2 ^ s∧B*2 ^ s<W ^ (n+1):=by
 have h0:=za4f hn
 have h1:=zwr h0
 have h2:bl (dg B)[n]≤32:=zrb (zco (ok_dg B) (by omega))
 have h3:=bl_lt (dg B)[n]
 have h4:=bl_le h0
 have h5:=zpi hn
 rw [vl_dg] at h5
 have h6:=vl_lt (zi7 (ok_dg B) n)
 rw [List.length_take,Nat.min_eq_left (by omega)] at h6
 generalize (dg B)[n]=t at *
 refine ⟨32-bl t,rfl,h2,by omega,?_,?_⟩
 · have e1:2147483648=2 ^ (bl t-1)*2 ^ (32-bl t):=by
    rw [←Nat.pow_add,show bl t-1+(32-bl t)=31 by omega]
   rw [e1,←Nat.mul_assoc]
   refine Nat.mul_le_mul_right _ ?_
   have:=Nat.mul_le_mul_left (W ^ n) h4
   omega
 · have e1:W ^ (n+1)=W ^ n*2 ^ bl t*2 ^ (32-bl t):=by
    rw [Nat.mul_assoc,←Nat.pow_add,show bl t+(32-bl t)=32 by omega,Nat.pow_succ]; rfl
   rw [e1]
   refine Nat.mul_lt_mul_of_pos_right ?_ (Nat.two_pow_pos _)
   have:=Nat.mul_le_mul_left (W ^ n) h3
   rw [Nat.mul_succ] at this
   omega
theorem win {U U1:List Nat} {j e b Y:Nat} (hl:U1.length=U.length) (hj:j≤U.length) (ht:U1.take j=U.take j) (hv:vl U1+W ^ j*Y=vl U+W ^ (j+e)*b) :
 vl (U1.drop j)+Y=vl (U.drop j)+W ^ e*b:=by
 have h1:=zcp hj
 have h2:=zcp (l:=U1) (k:=j) (by omega)
 rw [ht] at h2
 rw [h1,h2,Nat.pow_add,Nat.mul_assoc] at hv
 have h3:W ^ j*(vl (U1.drop j)+Y)=W ^ j*(vl (U.drop j)+W ^ e*b):=by
  rw [Nat.mul_add,Nat.mul_add]; omega
 exact Nat.eq_of_mul_eq_mul_left (Nat.pow_pos W_pos) h3
theorem za0z {U U1:List Nat} {j e:Nat} (ok:okW U1) (hj:j+e≤U1.length) (hd:U1.drop (j+e)=U.drop (j+e)) (h0:vl (U.drop (j+e))=0):vl (U1.drop j)<W ^ e:=by
 have h1:=zcp (l:=U1.drop j) (k:=e) (by rw [List.length_drop]; omega)
 rw [List.drop_drop,hd,h0,Nat.mul_zero,Nat.add_zero] at h1
 rw [h1]
 have h2:=vl_lt (zi7 (zpu ok j) e)
 rw [List.length_take,List.length_drop,Nat.min_eq_left (by omega)] at h2
 exact h2
theorem za42 {U:List Nat} {j n:Nat} (ok:okW U) (hj:j+n+3≤U.length) (h0:vl (U.drop (j+(n+3)))=0) :
 ∃lo,lo<W ^ n∧vl (U.drop j)=((U.getD (j+(n+2)) 0*W+U.getD (j+(n+1)) 0)*W+U.getD (j+n) 0)*W ^ n+lo:=by
 have h1:=zcp (l:=U.drop j) (k:=n+3) (by rw [List.length_drop]; omega)
 rw [List.drop_drop,h0,Nat.mul_zero,Nat.add_zero] at h1
 obtain ⟨P,lo,e1,e2,e3⟩:=top3 (l:=(U.drop j).take (n+3)) (n:=n) (zi7 (zpu ok j) _) (by rw [List.length_take,List.length_drop]; omega)
 subst e1
 have g:∀i,i<n+3→((U.drop j).take (n+3)).getD i 0=U.getD (j+i) 0:=fun i hi=>by
  simp only [List.getD_eq_getElem?_getD,List.getElem?_take,hi,if_true,List.getElem?_drop]
 rw [g _ (by omega),g _ (by omega),g _ (by omega)] at e3
 exact ⟨lo,e2,h1.trans e3⟩
theorem un_le {X V P w v1 v2 un:Nat} (hX:un*w*w*P≤X) (hV:V≤(v1*w+v2+1)*P) (hlt:X<V*w) (hv2:v2<w):un≤v1:=by
 rcases Nat.lt_or_ge v1 un with h | h
 · exfalso
   have h1:v1*w+v2+1≤un*w:=by
    have:(v1+1)*w≤un*w:=Nat.mul_le_mul_right _ h
    rw [Nat.add_mul] at this; omega
   have h2:(v1*w+v2+1)*P≤un*w*P:=Nat.mul_le_mul_right _ h1
   have h3:V*w≤un*w*P*w:=Nat.mul_le_mul_right _ (Nat.le_trans hV h2)
   have h4:un*w*P*w=un*w*w*P:=by rw [Nat.mul_assoc (un*w),Nat.mul_comm P w,←Nat.mul_assoc]
   omega
 · exact h
theorem za1n {U:List Nat} {A s N n V:Nat} (hU:U.length=N+1) (hv:vl U=A*2 ^ s) (hA:A<W ^ N) (hs:s≤31) (hn:n+1≤N) (hV:W ^ n*2147483648≤V):vl (U.drop (N-n))<V:=by
 have h1:=zcp (l:=U) (k:=N-n) (by omega)
 have h2:vl U<W ^ N*2147483648:=by
  rw [hv]
  exact Nat.mul_lt_mul_of_lt_of_le hA (Nat.pow_le_pow_right (n:=2) (by decide) hs) (by decide)
 have h3:W ^ N=W ^ (N-n)*W ^ n:=by rw [←Nat.pow_add]; congr 1; omega
 rw [h3,Nat.mul_assoc] at h2
 have h4:W ^ (N-n)*vl (U.drop (N-n))<W ^ (N-n)*V:=by
  have:=Nat.mul_le_mul_left (W ^ (N-n)) hV
  omega
 exact Nat.lt_of_mul_lt_mul_left h4
theorem ks0 {L1:List Nat} {X V qh j e:Nat} (hV:0<V) (hq:X/V≤qh) (hw:vl (L1.drop j)+qh*V=X+W ^ e*0):qh=X/V∧vl (L1.drop j)<V:=by
 rw [Nat.mul_zero,Nat.add_zero] at hw
 have h1:qh*V≤X:=by omega
 have h2:=(Nat.le_div_iff_mul_le hV).2 h1
 obtain rfl:qh=X/V:=Nat.le_antisymm h2 hq
 refine ⟨rfl,?_⟩
 have h3:=Nat.mod_add_div' X V
 have h4:=Nat.mod_lt X hV
 omega
theorem ks1 {L L1 L2:List Nat} {X V qh j e c:Nat} (hV:0<V) (hq:X/V≤qh) (hq2:qh≤X/V+1) (hX:vl (L.drop j)=X) (hl1:L1.length=L.length) (hl2:L2.length=L1.length) (hj:j≤L.length)
 (ht1:L1.take j=L.take j) (ht2:L2.take j=L1.take j) (hw:vl (L1.drop j)+qh*V=X+W ^ e*1) (hlt1:vl (L1.drop j)<W ^ e) (hlt2:vl (L2.drop j)<W ^ e) (hc:c≤1)
 (hr:vl L2+W ^ (j+e)*c=vl L1+W ^ j*V):qh=X/V+1∧vl L2+W ^ j*(X/V*V)=vl L∧vl (L2.drop j)<V:=by
 rw [Nat.mul_one] at hw
 have hmd:=Nat.div_mul_le_self X V
 have h1:qh=X/V+1:=by
  rcases Nat.lt_or_ge (X/V) qh with h | h
  · omega
  · obtain rfl:qh=X/V:=Nat.le_antisymm h hq
    omega
 subst h1
 have k0:=zcp hj
 have k1:=zcp (l:=L1) (k:=j) (by omega)
 have k2:=zcp (l:=L2) (k:=j) (by omega)
 rw [hX] at k0
 rw [ht2] at k2
 rw [ht1] at k1 k2
 have h3:vl (L2.drop j)+W ^ e*c=vl (L1.drop j)+V:=by
  have e1:W ^ j*(vl (L2.drop j)+W ^ e*c)=W ^ j*(vl (L1.drop j)+V):=by
   rw [Nat.mul_add,Nat.mul_add,←Nat.mul_assoc (W ^ j),←Nat.pow_add]
   rw [k1,k2] at hr
   omega
  exact Nat.eq_of_mul_eq_mul_left (Nat.pow_pos W_pos) e1
 rw [Nat.add_mul] at hw
 have hc1:c=1:=by
  rcases Nat.eq_zero_or_pos c with h | h
  · subst h; rw [Nat.mul_zero,Nat.add_zero] at h3; omega
  · omega
 subst hc1
 have hf:vl (L2.drop j)+X/V*V=X:=by omega
 refine ⟨rfl,?_,?_⟩
 · rw [k2,k0]
   have:=congrArg (W ^ j*·) hf
   simp only [Nat.mul_add] at this
   omega
 · have h5:=Nat.mod_add_div' X V
   have h6:=Nat.mod_lt X hV
   omega
theorem zzd {X V P v1 v2 un un1 un2:Nat} (hP:0<P) (hv1:0<v1) (hV:(v1*W+v2)*P≤V) (hX:X<((un*W+un1)*W+un2+1)*P) (hu:un2<W):X/V≤(un*W+un1)/v1:=by
 rw [Nat.le_div_iff_mul_le hv1]
 have h5:X/V*V≤X:=Nat.div_mul_le_self X V
 have h6:X/V*(v1*W*P)≤X/V*V:=Nat.mul_le_mul_left _ (Nat.le_trans (Nat.mul_le_mul_right _ (Nat.le_add_right _ v2)) hV)
 have h7:X/V*v1*(W*P)<(un*W+un1+1)*(W*P):=by
  have e1:X/V*(v1*W*P)=X/V*v1*(W*P):=by rw [Nat.mul_assoc v1,←Nat.mul_assoc]
  have e2:((un*W+un1)*W+un2+1)*P≤(un*W+un1+1)*(W*P):=by
   rw [←Nat.mul_assoc]
   refine Nat.mul_le_mul_right _ ?_
   rw [Nat.add_mul _ 1]; omega
  omega
 have:=Nat.lt_of_mul_lt_mul_right h7
 omega
theorem za2u {L:List Nat} {j V:Nat} (ok:okW L) (hj:j<L.length) (hlt:vl (L.drop (j+1))<V):vl (L.drop j)<V*W:=by
 rw [List.drop_eq_getElem_cons hj]
 simp only [vl]
 have:=zco ok hj
 have h5:W*(vl (L.drop (j+1))+1)≤W*V:=Nat.mul_le_mul_left _ hlt
 rw [Nat.mul_add,Nat.mul_comm W V] at h5
 omega
theorem za2p {V v1 v2 lo n:Nat} (hV:W ^ (n+1)*2147483648≤V) (hV2:V=(v1*W+v2)*W ^ n+lo) (hlo:lo<W ^ n) (hv2:v2<W):W≤2*v1:=by
 have e1:W ^ (n+1)*2147483648<(v1+1)*W ^ (n+1):=by
  refine Nat.lt_of_le_of_lt hV ?_
  rw [hV2,Nat.pow_succ,Nat.add_mul,Nat.add_mul]
  have:v2*W ^ n+W ^ n≤W ^ n*W:=by
   rw [←Nat.succ_mul,Nat.mul_comm]; exact Nat.mul_le_mul_left _ hv2
  rw [Nat.mul_assoc _ W,Nat.mul_comm W]
  omega
 rw [Nat.mul_comm] at e1
 have:=Nat.lt_of_mul_lt_mul_right e1
 unfold W; omega
theorem za1l {A V s k j q:Nat} {L L2 r:List Nat} (hk:k=j+1) (hval:A*2 ^ s=V*(W ^ k*vl (r.drop k))+vl L) (hv:vl L2+W ^ j*(q*V)=vl L) (hj:j<r.length) :
 A*2 ^ s=V*(W ^ j*vl ((r.set j q).drop j))+vl L2:=by
 subst hk
 rw [List.drop_eq_getElem_cons (l:=r.set j q) (by simpa using hj),List.getElem_set_self,List.drop_set_of_lt (by omega)]
 simp only [vl]
 rw [hval,←hv,Nat.pow_succ,Nat.mul_add,Nat.mul_add,Nat.mul_assoc (W ^ j)]
 have e1:V*(W ^ j*q)=W ^ j*(q*V):=by
  rw [Nat.mul_comm V,Nat.mul_assoc]
 omega
theorem za1z {V n:Nat} (hVl:W ^ (n+1)*2147483648≤V) (hVu:V<W ^ (n+2)):(dg V).length=n+2:=by
 have e1:=zc2.2 hVu
 have e2:W ^ (n+1)≤V:=Nat.le_trans (Nat.le_mul_of_pos_right _ (by decide)) hVl
 rcases Nat.lt_or_ge (dg V).length (n+2) with h3 | h3
 · exfalso
   have:=(zc2 (n:=V) (k:=n+1)).1 (by omega)
   omega
 · omega
end Iv
namespace Den
open Go Iv
def lenTab:ByteArray:=⟨#[0,1,2,2,3,3,3,3,4,4,4,4,4,4,4,4,5,5,5,5,5,5,5,5,5,5,5,5,5,5,5,5,6,6,6,6,6,6,6,6,6,6,6,6,6,6,6,6,6,6,6,6,6,6,6,6,6,6,6,6,6,6,6,6,7,7,7,7,7,7,7,7,7,7,7,7,7,7,7,7,7,7,7,7,7,7,7,7,7,7,7,7,7,7,7,7,7,7,7,7,7,7,7,7,7,7,7,7,7,7,7,7,7,7,7,7,7,7,7,7,7,7,7,7,7,7,7,7,8,8,8,8,8,8,8,8,8,8,8,8,8,8,8,8,8,8,8,8,8,8,8,8,8,8,8,8,8,8,8,8,8,8,8,8,8,8,8,8,8,8,8,8,8,8,8,8,8,8,8,8,8,8,8,8,8,8,8,8,8,8,8,8,8,8,8,8,8,8,8,8,8,8,8,8,8,8,8,8,8,8,8,8,8,8,8,8,8,8,8,8,8,8,8,8,8,8,8,8,8,8,8,8,8,8,8,8,8,8,8,8,8,8,8,8,8,8,8,8,8,8,8,8,8,8,8,8]⟩
theorem zvx:∀i:Fin 256,(BS lenTab)[i.val]?=some (bl i.val).toUInt8:=by decide +kernel
theorem bl8:∀i:Fin 256,((bl i.val).toUInt8).toNat=bl i.val:=by decide +kernel
theorem zvy {c:Nat} {K:Int→Prop} {i:Int} (hc:c<256) (hi:i=c) (H:K ((bl c:Nat):Int)):strIdx lenTab i K:=by
 have h1:=zvx ⟨c,hc⟩
 have h2:=bl8 ⟨c,hc⟩
 simp only at h1 h2
 have hlen:c<(BS lenTab).length:=by
  rcases Nat.lt_or_ge c (BS lenTab).length with h | h
  · exact h
  · rw [List.getElem?_eq_none h] at h1; cases h1
 have h3:(BS lenTab)[c]=(bl c).toUInt8:=by
  rw [List.getElem?_eq_getElem hlen] at h1
  exact Option.some.inj h1
 refine zky (k:=c) (c:=(bl c).toUInt8) (r:=(BS lenTab).drop (c+1)) ?_ hi ?_
 · rw [List.drop_eq_getElem_cons hlen,h3]
 · rw [h2]; exact H
section
variable {h : Hp} {x y : Sl} {l m : List Nat} {Ks : Sl → Hp → Prop} {Ki : Int → Hp → Prop}
theorem zv9 {t:Nat} (ht:t<W) (H:Ki ((bl t:Nat):Int) h):callP (F.zfx (t:Int)) Ki h:=by
 refine zat _ (fun K' hk=>?_) H
 unfold F.zfx
 have p8:∀n:Nat,((n:Int)).fdiv (2 ^ (min (8:Int).toNat IntKind.u32.bits))=((n/2 ^ 8:Nat):Int):=fun n=>zpz (s:=8) (by omega)
 have p16:∀n:Nat,((n:Int)).fdiv (2 ^ (min (16:Int).toNat IntKind.u32.bits))=((n/2 ^ 16:Nat):Int):=fun n=>zpz (s:=16) (by omega)
 refine za5 (fun s h'=>h'=h∧∃a b:Nat,s=((a:Int),(b:Int),())∧a<65536∧b≤16∧bl t=bl a+b) ?_ ?_
 · rintro _ h' ⟨rfl,a,b,rfl,ha,hb,he⟩
   refine za5 (fun s h2=>h2=h'∧∃c d:Nat,s=((c:Int),(d:Int),())∧c<256∧d≤24∧bl t=bl c+d) ?_ ?_
   · rintro _ h2 ⟨rfl,c,d,rfl,hc,hd,he2⟩
     have hbl:bl c≤32:=zrb (by omega)
     refine zvy (c:=c) hc ?_ ?_
     · simp [IntKind.wrap,IntKind.signed,IntKind.bits]; omega
     · simp only
       rw [i64n (by omega),show (d:Int)+((bl c:Nat):Int)=((bl t:Nat):Int) by omega,i64n (by omega)]
       exact hk
   · refine za1 (fun h1=>⟨by decide,?_⟩) (fun h1=>?_)
     · have h2:a≥256:=by simp only at h1; omega
       refine ⟨by trivial,a/2 ^ 8,b+8,?_,by omega,by omega,?_⟩
       · simp only
         rw [p8,w64 (by omega)]; rfl
       · rw [he,zrc (n:=a) (k:=8) h2]; omega
     · have h2:a<256:=by simp only at h1; omega
       exact ⟨by trivial,a,b,rfl,h2,by omega,he⟩
 · refine za1 (fun h1=>⟨by decide,?_⟩) (fun h1=>?_)
   · have h2:t≥65536:=by omega
     refine ⟨rfl,t/2 ^ 16,16,?_,by unfold W at ht; omega,by omega,?_⟩
     · rw [p16]; rfl
     · rw [zrc (n:=t) (k:=16) h2]
   · have h2:t<65536:=by omega
     exact ⟨rfl,t,0,rfl,h2,by omega,rfl⟩
theorem zmf {t:Nat} (ht:t<W) (hb:bl t≤32) (H:Ki ((32-bl t:Nat):Int) h):callP (F.zcz (t:Int)) Ki h:=by
 refine zat _ (fun K' hk=>?_) H
 unfold F.zcz
 refine zv9 ht ?_
 rw [w64 (by omega),show (32:Int)-((bl t:Nat):Int)=((32-bl t:Nat):Int) by omega]
 exact hk
end
end Den
end
