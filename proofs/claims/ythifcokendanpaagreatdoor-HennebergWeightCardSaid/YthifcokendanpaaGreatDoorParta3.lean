/-
  Part 3 of the tools and contracts from which the statement is proved.
-/
import Derived.Test.YthifcokendanpaaGreatDoorParta2
import Derived.Lib.Bytealg
set_option linter.all false
section
set_option maxRecDepth 10000
namespace Den
open Go
structure TSketch where
 points:Sl
 circles:Sl
 segments:Sl
 arcs:Sl
 chains:Sl
 constraints:Sl
def tyTSketch:Ty TSketch:=Ty.agg [.sl,.sl,.sl,.sl,.sl,.sl] (fun x=>(x.points,x.circles,x.segments,x.arcs,x.chains,x.constraints,())) (fun y=>⟨y.1,y.2.1,y.2.2.1,y.2.2.2.1,y.2.2.2.2.1,y.2.2.2.2.2.1⟩) (fun _=>rfl) (fun _=>rfl)
structure TPoint where
 x:TRat
 y:TRat
def tyTPoint:Ty TPoint:=Ty.agg [.bool,.sl,.bool,.sl,.bool,.sl,.bool,.sl] (fun x=>(x.x.num.neg,x.x.num.mag,x.x.den.neg,x.x.den.mag,x.y.num.neg,x.y.num.mag,x.y.den.neg,x.y.den.mag,())) (fun y=>⟨⟨⟨y.1,y.2.1⟩,⟨y.2.2.1,y.2.2.2.1⟩⟩,⟨⟨y.2.2.2.2.1,y.2.2.2.2.2.1⟩,⟨y.2.2.2.2.2.2.1,y.2.2.2.2.2.2.2.1⟩⟩⟩) (fun _=>rfl) (fun _=>rfl)
structure TRound where
 center:Int
 radius:TRat
def tyTRound:Ty TRound:=Ty.agg [.int .i64,.bool,.sl,.bool,.sl] (fun x=>(x.center,x.radius.num.neg,x.radius.num.mag,x.radius.den.neg,x.radius.den.mag,())) (fun y=>⟨y.1,⟨⟨y.2.1,y.2.2.1⟩,⟨y.2.2.2.1,y.2.2.2.2.1⟩⟩⟩) (fun _=>rfl) (fun _=>rfl)
structure TSegment where
 a:Int
 b:Int
def tyTSegment:Ty TSegment:=Ty.agg [.int .i64,.int .i64] (fun x=>(x.a,x.b,())) (fun y=>⟨y.1,y.2.1⟩) (fun _=>rfl) (fun _=>rfl)
structure TArc where
 circle:Int
 a:Int
 b:Int
 cw:Bool
def tyTArc:Ty TArc:=Ty.agg [.int .i64,.int .i64,.int .i64,.bool] (fun x=>(x.circle,x.a,x.b,x.cw,())) (fun y=>⟨y.1,y.2.1,y.2.2.1,y.2.2.2.1⟩) (fun _=>rfl) (fun _=>rfl)
structure TPiece where
 arc:Bool
 index:Int
 back:Bool
def tyTPiece:Ty TPiece:=Ty.agg [.bool,.int .i64,.bool] (fun x=>(x.arc,x.index,x.back,())) (fun y=>⟨y.1,y.2.1,y.2.2.1⟩) (fun _=>rfl) (fun _=>rfl)
structure TConstraint where
 kind:Int
 points:Sl
 circles:Sl
 values:Sl
 side:Int
def tyTConstraint:Ty TConstraint:=Ty.agg [.int .i64,.sl,.sl,.sl,.int .i64] (fun x=>(x.kind,x.points,x.circles,x.values,x.side,())) (fun y=>⟨y.1,y.2.1,y.2.2.1,y.2.2.2.1,y.2.2.2.2.1⟩) (fun _=>rfl) (fun _=>rfl)
structure Tconstraint_Shape where
 points:Int
 circles:Int
 values:Int
 equations:Int
 side:Bool
 length:Bool
 positive:Bool
def zq3:Ty Tconstraint_Shape:=Ty.agg [.int .i64,.int .i64,.int .i64,.int .i64,.bool,.bool,.bool] (fun x=>(x.points,x.circles,x.values,x.equations,x.side,x.length,x.positive,())) (fun y=>⟨y.1,y.2.1,y.2.2.1,y.2.2.2.1,y.2.2.2.2.1,y.2.2.2.2.2.1,y.2.2.2.2.2.2.1⟩) (fun _=>rfl) (fun _=>rfl)
structure TExpr where
 op:Int
 value:TRat
 name:ByteArray
 args:Sl
def tyTExpr:Ty TExpr:=Ty.agg [.int .i64,.bool,.sl,.bool,.sl,.str,.sl] (fun x=>(x.op,x.value.num.neg,x.value.num.mag,x.value.den.neg,x.value.den.mag,x.name,x.args,())) (fun y=>⟨y.1,⟨⟨y.2.1,y.2.2.1⟩,⟨y.2.2.2.1,y.2.2.2.2.1⟩⟩,y.2.2.2.2.2.1,y.2.2.2.2.2.2.1⟩) (fun _=>rfl) (fun _=>rfl)
structure Tsetsquareref25_Row where
 name:ByteArray
 points:Int
 circles:Int
 count:Int
 values:Int
 equations:Int
 side:Bool
def zp6:Ty Tsetsquareref25_Row:=Ty.agg [.str,.int .i64,.int .i64,.int .i64,.int .i64,.int .i64,.bool] (fun x=>(x.name,x.points,x.circles,x.count,x.values,x.equations,x.side,())) (fun y=>⟨y.1,y.2.1,y.2.2.1,y.2.2.2.1,y.2.2.2.2.1,y.2.2.2.2.2.1,y.2.2.2.2.2.2.1⟩) (fun _=>rfl) (fun _=>rfl)
structure TPlan where
 steps:Sl
 checks:Sl
def tyTPlan:Ty TPlan:=Ty.agg [.sl,.sl] (fun x=>(x.steps,x.checks,())) (fun y=>⟨y.1,y.2.1⟩) (fun _=>rfl) (fun _=>rfl)
structure TStep where
 kind:Int
 target:Int
 uses:Sl
 branch:Int
def tyTStep:Ty TStep:=Ty.agg [.int .i64,.int .i64,.sl,.int .i64] (fun x=>(x.kind,x.target,x.uses,x.branch,())) (fun y=>⟨y.1,y.2.1,y.2.2.1,y.2.2.2.1⟩) (fun _=>rfl) (fun _=>rfl)
structure TGraph where
 n:Int
 edges:Sl
namespace F
def zjj (c:Sl) (K:Bool→Hp→Prop) (h:Hp):Prop:=
 (K (decide ((c.len:Int)>200)) h)
def zbp (s:Sl) (K:Int→Hp→Prop) (h:Hp):Prop:=
 (loopP (S:=Int×Unit) (fun s1 k2 h1=>
 (ifP (decide (s1.1<(s.len:Int)))
 (idxP s s1.1 1 fun a3=>
 (ldL (.sl) a3 (fun x4=>
 (callP (zjj x4) (fun r5 h2=>
 (ifP r5
 (K s1.1 h2)
 (k2 ((IntKind.i64.wrap (s1.1+1)),()) h2))) h1)) h1))
 (K (-1) h1)))
 (0,()) h)
def zbh (s:Sl) (K:Bool→Hp→Prop) (h:Hp):Prop:=
 (callP (zbp s) (fun r1 h1=>
 (K (decide (r1≥0)) h1)) h)
def ziw (s:TSketch) (K:Bool→Hp→Prop) (h:Hp):Prop:=
 (newP [.int .i64 (s.points.len:Int),.int .i64 (s.circles.len:Int),.int .i64 (s.segments.len:Int),.int .i64 (s.arcs.len:Int),.int .i64 (s.chains.len:Int),.int .i64 (s.constraints.len:Int)] (fun p1 h1=>
 (loopP (S:=Int×Unit) (fun s2 k3 h2=>
 (ifP (decide (s2.1<((⟨some p1,6,6⟩:Sl).len:Int)))
 (idxP (⟨some p1,6,6⟩:Sl) s2.1 1 fun a4=>
 (ldL (.int .i64) a4 (fun x5=>
 (ifP (decide (x5>200))
 (K true h2)
 (k3 ((IntKind.i64.wrap (s2.1+1)),()) h2))) h2))
 (callP (zbh s.chains) (fun r6 h3=>
 (K r6 h3)) h2)))
 (0,()) h1)) h)
def zky (p:TPoint) (K:Bool→Hp→Prop) (h:Hp):Prop:=
 (callP (zda p.x) (fun r1 h1=>
 (ifP r1
 (callP (zda p.y) (fun r2 h2=>
 (K r2 h2)) h1)
 (K false h1))) h)
def zcq (x:TPoint) (v0:(Option Addr)) (K:Bool→Hp→Prop) (h:Hp):Prop:=
 (ptrK v0 fun p1=>
 (ldL (.val) p1 (fun x2=>
 (x2=.func (.func 115) #[] #[] ∧
 (callP (zky x) (fun r3 h1=>
 (K (!r3) h1)) h))) h))
def zat (s:Sl) (f1:(Option Addr×Unit)) (K:Int→Hp→Prop) (h:Hp):Prop:=
 (loopP (S:=Int×Unit) (fun s1 k2 h1=>
 (ifP (decide (s1.1<(s.len:Int)))
 (idxP s s1.1 8 fun a3=>
 (ldL (.bool) (a3.add 0) (fun x4_0=>
 (ldL (.sl) (a3.add 1) (fun x4_1=>
 (ldL (.bool) (a3.add 2) (fun x4_2=>
 (ldL (.sl) (a3.add 3) (fun x4_3=>
 (ldL (.bool) (a3.add 4) (fun x4_4=>
 (ldL (.sl) (a3.add 5) (fun x4_5=>
 (ldL (.bool) (a3.add 6) (fun x4_6=>
 (ldL (.sl) (a3.add 7) (fun x4_7=>
 (callP (zcq (⟨(⟨(⟨x4_0,x4_1⟩:TInt),(⟨x4_2,x4_3⟩:TInt)⟩:TRat),(⟨(⟨x4_4,x4_5⟩:TInt),(⟨x4_6,x4_7⟩:TInt)⟩:TRat)⟩:TPoint) f1.1) (fun r5 h2=>
 (ifP r5
 (K s1.1 h2)
 (k2 ((IntKind.i64.wrap (s1.1+1)),()) h2))) h1)) h1)) h1)) h1)) h1)) h1)) h1)) h1)) h1))
 (K (-1) h1)))
 (0,()) h)
def zap (s:Sl) (f1:(Option Addr×Unit)) (K:Bool→Hp→Prop) (h:Hp):Prop:=
 (callP (zat s (f1.1,())) (fun r1 h1=>
 (K (decide (r1≥0)) h1)) h)
def zcc (l:Sl) (K:Bool→Hp→Prop) (h:Hp):Prop:=
 (newP [.func (.func 115) #[] #[]] (fun p1 h1=>
 (callP (zap l ((some p1),())) (fun r2 h2=>
 (K (!r2) h2)) h1)) h)
def ze9 (n:Int) (i:Int) (K:Bool→Hp→Prop) (h:Hp):Prop:=
 (ifP (decide (i≥0))
 (K (decide (i<n)) h)
 (K false h))
def zkz (c:TRound) (v0:(Option Addr)) (K:Bool→Hp→Prop) (h:Hp):Prop:=
 (ptrK v0 fun p1=>
 (ldL (.int .i64) p1 (fun x2=>
 (callP (ze9 x2 c.center) (fun r3 h1=>
 (ifP r3
 (callP (zda c.radius) (fun r4 h2=>
 (ifP r4
 (callP (zfn c.radius) (fun r5 h3=>
 (K (decide (r5>0)) h3)) h2)
 (K false h2))) h1)
 (K false h1))) h)) h))
def zcr (x:TRound) (v0:(Option Addr)) (K:Bool→Hp→Prop) (h:Hp):Prop:=
 (ptrK v0 fun p1=>
 (ldL (.val) p1 (fun x2=>
 ∃c3:Option Addr,(x2=.func (.func 118) #[] #[.pointer c3] ∧
 (callP (zkz x c3) (fun r4 h1=>
 (K (!r4) h1)) h))) h))
def zau (s:Sl) (f1:(Option Addr×Unit)) (K:Int→Hp→Prop) (h:Hp):Prop:=
 (loopP (S:=Int×Unit) (fun s1 k2 h1=>
 (ifP (decide (s1.1<(s.len:Int)))
 (idxP s s1.1 5 fun a3=>
 (ldL (.int .i64) (a3.add 0) (fun x4_0=>
 (ldL (.bool) (a3.add 1) (fun x4_1=>
 (ldL (.sl) (a3.add 2) (fun x4_2=>
 (ldL (.bool) (a3.add 3) (fun x4_3=>
 (ldL (.sl) (a3.add 4) (fun x4_4=>
 (callP (zcr (⟨x4_0,(⟨(⟨x4_1,x4_2⟩:TInt),(⟨x4_3,x4_4⟩:TInt)⟩:TRat)⟩:TRound) f1.1) (fun r5 h2=>
 (ifP r5
 (K s1.1 h2)
 (k2 ((IntKind.i64.wrap (s1.1+1)),()) h2))) h1)) h1)) h1)) h1)) h1)) h1))
 (K (-1) h1)))
 (0,()) h)
def zaq (s:Sl) (f1:(Option Addr×Unit)) (K:Bool→Hp→Prop) (h:Hp):Prop:=
 (callP (zau s (f1.1,())) (fun r1 h1=>
 (K (decide (r1≥0)) h1)) h)
def zcd (l:Sl) (f1:(Option Addr×Unit)) (K:Bool→Hp→Prop) (h:Hp):Prop:=
 (newP [.func (.func 118) #[] #[.pointer f1.1]] (fun p1 h1=>
 (callP (zaq l ((some p1),())) (fun r2 h2=>
 (K (!r2) h2)) h1)) h)
def zl0 (g:TSegment) (v0:(Option Addr)) (K:Bool→Hp→Prop) (h:Hp):Prop:=
 (ptrK v0 fun p1=>
 (ldL (.int .i64) p1 (fun x2=>
 (callP (ze9 x2 g.a) (fun r3 h1=>
 (ifP r3
 (ptrK v0 fun p4=>
 (ldL (.int .i64) p4 (fun x5=>
 (callP (ze9 x5 g.b) (fun r6 h2=>
 (ifP r6
 (K (g.a != g.b) h2)
 (K false h2))) h1)) h1))
 (K false h1))) h)) h))
def zcj (x:TSegment) (v0:(Option Addr)) (K:Bool→Hp→Prop) (h:Hp):Prop:=
 (ptrK v0 fun p1=>
 (ldL (.val) p1 (fun x2=>
 ∃c3:Option Addr,(x2=.func (.func 122) #[] #[.pointer c3] ∧
 (callP (zl0 x c3) (fun r4 h1=>
 (K (!r4) h1)) h))) h))
def zam (s:Sl) (f1:(Option Addr×Unit)) (K:Int→Hp→Prop) (h:Hp):Prop:=
 (loopP (S:=Int×Unit) (fun s1 k2 h1=>
 (ifP (decide (s1.1<(s.len:Int)))
 (idxP s s1.1 2 fun a3=>
 (ldL (.int .i64) (a3.add 0) (fun x4_0=>
 (ldL (.int .i64) (a3.add 1) (fun x4_1=>
 (callP (zcj (⟨x4_0,x4_1⟩:TSegment) f1.1) (fun r5 h2=>
 (ifP r5
 (K s1.1 h2)
 (k2 ((IntKind.i64.wrap (s1.1+1)),()) h2))) h1)) h1)) h1))
 (K (-1) h1)))
 (0,()) h)
def zak (s:Sl) (f1:(Option Addr×Unit)) (K:Bool→Hp→Prop) (h:Hp):Prop:=
 (callP (zam s (f1.1,())) (fun r1 h1=>
 (K (decide (r1≥0)) h1)) h)
def zc2 (l:Sl) (f1:(Option Addr×Unit)) (K:Bool→Hp→Prop) (h:Hp):Prop:=
 (newP [.func (.func 122) #[] #[.pointer f1.1]] (fun p1 h1=>
 (callP (zak l ((some p1),())) (fun r2 h2=>
 (K (!r2) h2)) h1)) h)
def zht (s:TSketch) (a:TArc) (K:Bool→Hp→Prop) (h:Hp):Prop:=
 (joinP (S:=Unit) (fun s1 h1=>
 (idxP s.circles a.circle 5 fun a3=>
 (ldL (.int .i64) (a3.add 0) (fun x4=>
 (ifP (a.a != x4)
 (K (a.b != x4) h1)
 (K false h1))) h1)))
 (fun k2=>
 (callP (ze9 (s.circles.len:Int) a.circle) (fun r5 h2=>
 (ifP (!r5)
 (K false h2)
 (callP (ze9 (s.points.len:Int) a.a) (fun r6 h3=>
 (ifP (!r6)
 (K false h3)
 (callP (ze9 (s.points.len:Int) a.b) (fun r7 h4=>
 (ifP (!r7)
 (K false h4)
 (k2 () h4))) h3))) h2))) h)))
def zl1 (a:TArc) (v0:(Option Addr)) (K:Bool→Hp→Prop) (h:Hp):Prop:=
 (ptrK v0 fun p1=>
 (ldL (.sl) (p1.add 0) (fun x2_0=>
 (ldL (.sl) (p1.add 1) (fun x2_1=>
 (ldL (.sl) (p1.add 2) (fun x2_2=>
 (ldL (.sl) (p1.add 3) (fun x2_3=>
 (ldL (.sl) (p1.add 4) (fun x2_4=>
 (ldL (.sl) (p1.add 5) (fun x2_5=>
 (callP (zht (⟨x2_0,x2_1,x2_2,x2_3,x2_4,x2_5⟩:TSketch) a) (fun r3 h1=>
 (K r3 h1)) h)) h)) h)) h)) h)) h)) h))
def zcw (x:TArc) (v0:(Option Addr)) (K:Bool→Hp→Prop) (h:Hp):Prop:=
 (ptrK v0 fun p1=>
 (ldL (.val) p1 (fun x2=>
 ∃c3:Option Addr,(x2=.func (.func 124) #[] #[.pointer c3] ∧
 (callP (zl1 x c3) (fun r4 h1=>
 (K (!r4) h1)) h))) h))
def zb0 (s:Sl) (f1:(Option Addr×Unit)) (K:Int→Hp→Prop) (h:Hp):Prop:=
 (loopP (S:=Int×Unit) (fun s1 k2 h1=>
 (ifP (decide (s1.1<(s.len:Int)))
 (idxP s s1.1 4 fun a3=>
 (ldL (.int .i64) (a3.add 0) (fun x4_0=>
 (ldL (.int .i64) (a3.add 1) (fun x4_1=>
 (ldL (.int .i64) (a3.add 2) (fun x4_2=>
 (ldL (.bool) (a3.add 3) (fun x4_3=>
 (callP (zcw (⟨x4_0,x4_1,x4_2,x4_3⟩:TArc) f1.1) (fun r5 h2=>
 (ifP r5
 (K s1.1 h2)
 (k2 ((IntKind.i64.wrap (s1.1+1)),()) h2))) h1)) h1)) h1)) h1)) h1))
 (K (-1) h1)))
 (0,()) h)
def zaw (s:Sl) (f1:(Option Addr×Unit)) (K:Bool→Hp→Prop) (h:Hp):Prop:=
 (callP (zb0 s (f1.1,())) (fun r1 h1=>
 (K (decide (r1≥0)) h1)) h)
def zcg (l:Sl) (f1:(Option Addr×Unit)) (K:Bool→Hp→Prop) (h:Hp):Prop:=
 (newP [.func (.func 124) #[] #[.pointer f1.1]] (fun p1 h1=>
 (callP (zaw l ((some p1),())) (fun r2 h2=>
 (K (!r2) h2)) h1)) h)
def zj4 (s:TSketch) (p:TPiece) (K:(Int×Int)→Hp→Prop) (h:Hp):Prop:=
 (joinP (S:=Int×Int×Unit) (fun s1 h1=>
 (ifP p.back
 (K (s1.2.1,s1.1) h1)
 (K (s1.1,s1.2.1) h1)))
 (fun k2=>
 (ifP p.arc
 (idxP s.arcs p.index 4 fun a3=>
 (ldL (.int .i64) (a3.add 1) (fun x4=>
 (idxP s.arcs p.index 4 fun a5=>
 (ldL (.int .i64) (a5.add 2) (fun x6=>
 (k2 (x4,x6,()) h)) h))) h))
 (idxP s.segments p.index 2 fun a7=>
 (ldL (.int .i64) (a7.add 0) (fun x8=>
 (idxP s.segments p.index 2 fun a9=>
 (ldL (.int .i64) (a9.add 1) (fun x10=>
 (k2 (x8,x10,()) h)) h))) h)))))
def zgb (s:TSketch) (c:Sl) (K:Bool→Hp→Prop) (h:Hp):Prop:=
 (loopP (S:=Int×Int×Unit) (fun s1 k2 h1=>
 (ifP (decide (s1.2.1<(c.len:Int)))
 (joinP (S:=Int×Unit) (fun s3 h2=>
 (k2 (s3.1,(IntKind.i64.wrap (s1.2.1+1)),()) h2))
 (fun k4=>
 (idxP c s1.2.1 3 fun a5=>
 (ldL (.bool) (a5.add 0) (fun x6_0=>
 (ldL (.int .i64) (a5.add 1) (fun x6_1=>
 (ldL (.bool) (a5.add 2) (fun x6_2=>
 (joinP (S:=Int×Unit) (fun s7 h3=>
 (callP (ze9 s7.1 x6_1) (fun r9 h4=>
 (ifP (!r9)
 (K false h4)
 (callP (zj4 s (⟨x6_0,x6_1,x6_2⟩:TPiece)) (fun r10 h5=>
 (ifP (decide (s1.2.1>0))
 (ifP (r10.1 != s1.1)
 (K false h5)
 (k4 (r10.2,()) h5))
 (k4 (r10.2,()) h5))) h4))) h3))
 (fun k8=>
 (ifP x6_0
 (k8 ((s.arcs.len:Int),()) h1)
 (k8 ((s.segments.len:Int),()) h1))))) h1)) h1)) h1))))
 (K (decide ((c.len:Int)>0)) h1)))
 ((-1),0,()) h)
def zl2 (c:Sl) (v0:(Option Addr)) (K:Bool→Hp→Prop) (h:Hp):Prop:=
 (ptrK v0 fun p1=>
 (ldL (.sl) (p1.add 0) (fun x2_0=>
 (ldL (.sl) (p1.add 1) (fun x2_1=>
 (ldL (.sl) (p1.add 2) (fun x2_2=>
 (ldL (.sl) (p1.add 3) (fun x2_3=>
 (ldL (.sl) (p1.add 4) (fun x2_4=>
 (ldL (.sl) (p1.add 5) (fun x2_5=>
 (callP (zgb (⟨x2_0,x2_1,x2_2,x2_3,x2_4,x2_5⟩:TSketch) c) (fun r3 h1=>
 (K r3 h1)) h)) h)) h)) h)) h)) h)) h))
def zcp (x:Sl) (v0:(Option Addr)) (K:Bool→Hp→Prop) (h:Hp):Prop:=
 (ptrK v0 fun p1=>
 (ldL (.val) p1 (fun x2=>
 ∃c3:Option Addr,(x2=.func (.func 127) #[] #[.pointer c3] ∧
 (callP (zl2 x c3) (fun r4 h1=>
 (K (!r4) h1)) h))) h))
def zas (s:Sl) (f1:(Option Addr×Unit)) (K:Int→Hp→Prop) (h:Hp):Prop:=
 (loopP (S:=Int×Unit) (fun s1 k2 h1=>
 (ifP (decide (s1.1<(s.len:Int)))
 (idxP s s1.1 1 fun a3=>
 (ldL (.sl) a3 (fun x4=>
 (callP (zcp x4 f1.1) (fun r5 h2=>
 (ifP r5
 (K s1.1 h2)
 (k2 ((IntKind.i64.wrap (s1.1+1)),()) h2))) h1)) h1))
 (K (-1) h1)))
 (0,()) h)
def zao (s:Sl) (f1:(Option Addr×Unit)) (K:Bool→Hp→Prop) (h:Hp):Prop:=
 (callP (zas s (f1.1,())) (fun r1 h1=>
 (K (decide (r1≥0)) h1)) h)
def zcb (l:Sl) (f1:(Option Addr×Unit)) (K:Bool→Hp→Prop) (h:Hp):Prop:=
 (newP [.func (.func 127) #[] #[.pointer f1.1]] (fun p1 h1=>
 (callP (zao l ((some p1),())) (fun r2 h2=>
 (K (!r2) h2)) h1)) h)
def zee (kind:Int) (K:(Tconstraint_Shape×Bool)→Hp→Prop) (h:Hp):Prop:=
 (joinP (S:=(Int×Int×Int×Int×Bool×Bool×Bool×Unit)×Unit) (fun s1 h1=>
 (idxC kind 18
 (ldL (.int .i64) ((((⟨1,0,none⟩:Addr).add ((kind:Int).toNat*8)).add 1).add 0) (fun x3_0=>
 (ldL (.int .i64) ((((⟨1,0,none⟩:Addr).add ((kind:Int).toNat*8)).add 1).add 1) (fun x3_1=>
 (ldL (.int .i64) ((((⟨1,0,none⟩:Addr).add ((kind:Int).toNat*8)).add 1).add 2) (fun x3_2=>
 (ldL (.int .i64) ((((⟨1,0,none⟩:Addr).add ((kind:Int).toNat*8)).add 1).add 3) (fun x3_3=>
 (ldL (.bool) ((((⟨1,0,none⟩:Addr).add ((kind:Int).toNat*8)).add 1).add 4) (fun x3_4=>
 (ldL (.bool) ((((⟨1,0,none⟩:Addr).add ((kind:Int).toNat*8)).add 1).add 5) (fun x3_5=>
 (ldL (.bool) ((((⟨1,0,none⟩:Addr).add ((kind:Int).toNat*8)).add 1).add 6) (fun x3_6=>
 (K ((⟨x3_0,x3_1,x3_2,x3_3,x3_4,x3_5,x3_6⟩:Tconstraint_Shape),true) h1)) h1)) h1)) h1)) h1)) h1)) h1)) h1)))
 (fun k2=>
 (ifP (decide (kind<1))
 (K ((⟨0,0,0,0,false,false,false⟩:Tconstraint_Shape),false) h)
 (ifP (decide (kind>17))
 (K ((⟨0,0,0,0,false,false,false⟩:Tconstraint_Shape),false) h)
 (k2 ((0,0,0,0,false,false,false,()),()) h)))))
def zg5 (i:Int) (K:ByteArray→Hp→Prop) (h:Hp):Prop:=
 (ifP (decide (i<10))
 (strCut ⟨#[48,49,50,51,52,53,54,55,56,57,97,98,99,100,101,102,103,104,105,106,107,108,109,110,111,112,113,114,115,116,117,118,119,120,121,122]⟩ i (IntKind.i64.wrap (i+1)) fun c1=>
 (K c1 h))
 (strCut ⟨#[48,48,48,49,48,50,48,51,48,52,48,53,48,54,48,55,48,56,48,57,49,48,49,49,49,50,49,51,49,52,49,53,49,54,49,55,49,56,49,57,50,48,50,49,50,50,50,51,50,52,50,53,50,54,50,55,50,56,50,57,51,48,51,49,51,50,51,51,51,52,51,53,51,54,51,55,51,56,51,57,52,48,52,49,52,50,52,51,52,52,52,53,52,54,52,55,52,56,52,57,53,48,53,49,53,50,53,51,53,52,53,53,53,54,53,55,53,56,53,57,54,48,54,49,54,50,54,51,54,52,54,53,54,54,54,55,54,56,54,57,55,48,55,49,55,50,55,51,55,52,55,53,55,54,55,55,55,56,55,57,56,48,56,49,56,50,56,51,56,52,56,53,56,54,56,55,56,56,56,57,57,48,57,49,57,50,57,51,57,52,57,53,57,54,57,55,57,56,57,57]⟩ (IntKind.i64.wrap (i*2)) (IntKind.i64.wrap ((IntKind.i64.wrap (i*2))+2)) fun c2=>
 (K c2 h)))
def zhq (x:Int) (K:Int→Hp→Prop) (h:Hp):Prop:=
 (joinP (S:=Int×Int×Unit) (fun s1 h1=>
 (joinP (S:=Int×Int×Unit) (fun s3 h2=>
 (joinP (S:=Int×Int×Unit) (fun s5 h3=>
 (strIdx ⟨#[0,1,2,2,3,3,3,3,4,4,4,4,4,4,4,4,5,5,5,5,5,5,5,5,5,5,5,5,5,5,5,5,6,6,6,6,6,6,6,6,6,6,6,6,6,6,6,6,6,6,6,6,6,6,6,6,6,6,6,6,6,6,6,6,7,7,7,7,7,7,7,7,7,7,7,7,7,7,7,7,7,7,7,7,7,7,7,7,7,7,7,7,7,7,7,7,7,7,7,7,7,7,7,7,7,7,7,7,7,7,7,7,7,7,7,7,7,7,7,7,7,7,7,7,7,7,7,7,8,8,8,8,8,8,8,8,8,8,8,8,8,8,8,8,8,8,8,8,8,8,8,8,8,8,8,8,8,8,8,8,8,8,8,8,8,8,8,8,8,8,8,8,8,8,8,8,8,8,8,8,8,8,8,8,8,8,8,8,8,8,8,8,8,8,8,8,8,8,8,8,8,8,8,8,8,8,8,8,8,8,8,8,8,8,8,8,8,8,8,8,8,8,8,8,8,8,8,8,8,8,8,8,8,8,8,8,8,8,8,8,8,8,8,8,8,8,8,8,8,8,8,8,8,8,8,8]⟩ (IntKind.u8.wrap (s5.1)) fun c7=>
 (K (IntKind.i64.wrap (s5.2.1+(IntKind.i64.wrap (c7)))) h3)))
 (fun k6=>
 (ifP (decide (s3.1≥256))
 (0≤(8:Int) ∧
 (k6 ((s3.1:Int).fdiv (2 ^ (min (8:Int).toNat IntKind.u64.bits)),(IntKind.i64.wrap (s3.2.1+8)),()) h2))
 (k6 (s3.1,s3.2.1,()) h2)))))
 (fun k4=>
 (ifP (decide (s1.1≥65536))
 (0≤(16:Int) ∧
 (k4 ((s1.1:Int).fdiv (2 ^ (min (16:Int).toNat IntKind.u64.bits)),(IntKind.i64.wrap (s1.2.1+16)),()) h1))
 (k4 (s1.1,s1.2.1,()) h1)))))
 (fun k2=>
 (ifP (decide (x≥4294967296))
 (0≤(32:Int) ∧
 (k2 ((x:Int).fdiv (2 ^ (min (32:Int).toNat IntKind.u64.bits)),32,()) h))
 (k2 (x,0,()) h))))
def zev (x:Int) (K:Int→Hp→Prop) (h:Hp):Prop:=
 (0≤(18:Int) ∧
 (K (((IntKind.i64.wrap (x*78913)):Int).fdiv (2 ^ (min (18:Int).toNat IntKind.i64.bits))) h))
def zeu (b:Bool) (K:Int→Hp→Prop) (h:Hp):Prop:=
 (ifP b
 (K 1 h)
 (K 0 h))
def zd2 (d:Int) (K:Int→Hp→Prop) (h:Hp):Prop:=
 (callP (zhq d) (fun r1 h1=>
 (callP (zev r1) (fun r2 h2=>
 (idxC r2 20
 (ldL (.int .u64) ((⟨3,0,none⟩:Addr).add ((r2:Int).toNat*1)) (fun x3=>
 (callP (zeu (decide (d≥x3))) (fun r4 h3=>
 (K (IntKind.i64.wrap (r2+r4)) h3)) h2)) h2))) h1)) h)
def zct (a:Sl) (u:Int) (K:Unit→Hp→Prop) (h:Hp):Prop:=
 (loopP (S:=Int×Int×Unit) (fun s1 k2 h1=>
 (ifP (decide (s1.2.1≥8))
 ((100000000:Int)≠0 ∧
 ((100000000:Int)≠0 ∧
 ((10000:Int)≠0 ∧
 ((10000:Int)≠0 ∧
 ((100:Int)≠0 ∧
 ((100:Int)≠0 ∧
 ((100:Int)≠0 ∧
 ((100:Int)≠0 ∧
 (strIdx ⟨#[48,48,48,49,48,50,48,51,48,52,48,53,48,54,48,55,48,56,48,57,49,48,49,49,49,50,49,51,49,52,49,53,49,54,49,55,49,56,49,57,50,48,50,49,50,50,50,51,50,52,50,53,50,54,50,55,50,56,50,57,51,48,51,49,51,50,51,51,51,52,51,53,51,54,51,55,51,56,51,57,52,48,52,49,52,50,52,51,52,52,52,53,52,54,52,55,52,56,52,57,53,48,53,49,53,50,53,51,53,52,53,53,53,54,53,55,53,56,53,57,54,48,54,49,54,50,54,51,54,52,54,53,54,54,54,55,54,56,54,57,55,48,55,49,55,50,55,51,55,52,55,53,55,54,55,55,55,56,55,57,56,48,56,49,56,50,56,51,56,52,56,53,56,54,56,55,56,56,56,57,57,48,57,49,57,50,57,51,57,52,57,53,57,54,57,55,57,56,57,57]⟩ (IntKind.u32.wrap ((IntKind.u32.wrap ((((((IntKind.u32.wrap ((s1.1:Int).tmod 100000000)):Int).tmod 10000):Int).tmod 100)*2))+1)) fun c3=>
 (strIdx ⟨#[48,48,48,49,48,50,48,51,48,52,48,53,48,54,48,55,48,56,48,57,49,48,49,49,49,50,49,51,49,52,49,53,49,54,49,55,49,56,49,57,50,48,50,49,50,50,50,51,50,52,50,53,50,54,50,55,50,56,50,57,51,48,51,49,51,50,51,51,51,52,51,53,51,54,51,55,51,56,51,57,52,48,52,49,52,50,52,51,52,52,52,53,52,54,52,55,52,56,52,57,53,48,53,49,53,50,53,51,53,52,53,53,53,54,53,55,53,56,53,57,54,48,54,49,54,50,54,51,54,52,54,53,54,54,54,55,54,56,54,57,55,48,55,49,55,50,55,51,55,52,55,53,55,54,55,55,55,56,55,57,56,48,56,49,56,50,56,51,56,52,56,53,56,54,56,55,56,56,56,57,57,48,57,49,57,50,57,51,57,52,57,53,57,54,57,55,57,56,57,57]⟩ (IntKind.u32.wrap ((((((IntKind.u32.wrap ((s1.1:Int).tmod 100000000)):Int).tmod 10000):Int).tmod 100)*2)) fun c4=>
 (idxP a (IntKind.i64.wrap (s1.2.1-1)) 1 fun a5=>
 (stP a5 [.int .u8 c3] (fun h2=>
 (idxP a (IntKind.i64.wrap (s1.2.1-2)) 1 fun a6=>
 (stP a6 [.int .u8 c4] (fun h3=>
 (strIdx ⟨#[48,48,48,49,48,50,48,51,48,52,48,53,48,54,48,55,48,56,48,57,49,48,49,49,49,50,49,51,49,52,49,53,49,54,49,55,49,56,49,57,50,48,50,49,50,50,50,51,50,52,50,53,50,54,50,55,50,56,50,57,51,48,51,49,51,50,51,51,51,52,51,53,51,54,51,55,51,56,51,57,52,48,52,49,52,50,52,51,52,52,52,53,52,54,52,55,52,56,52,57,53,48,53,49,53,50,53,51,53,52,53,53,53,54,53,55,53,56,53,57,54,48,54,49,54,50,54,51,54,52,54,53,54,54,54,55,54,56,54,57,55,48,55,49,55,50,55,51,55,52,55,53,55,54,55,55,55,56,55,57,56,48,56,49,56,50,56,51,56,52,56,53,56,54,56,55,56,56,56,57,57,48,57,49,57,50,57,51,57,52,57,53,57,54,57,55,57,56,57,57]⟩ (IntKind.u32.wrap ((IntKind.u32.wrap ((IntKind.u32.wrap (((((IntKind.u32.wrap ((s1.1:Int).tmod 100000000)):Int).tmod 10000):Int).tdiv 100))*2))+1)) fun c7=>
 (strIdx ⟨#[48,48,48,49,48,50,48,51,48,52,48,53,48,54,48,55,48,56,48,57,49,48,49,49,49,50,49,51,49,52,49,53,49,54,49,55,49,56,49,57,50,48,50,49,50,50,50,51,50,52,50,53,50,54,50,55,50,56,50,57,51,48,51,49,51,50,51,51,51,52,51,53,51,54,51,55,51,56,51,57,52,48,52,49,52,50,52,51,52,52,52,53,52,54,52,55,52,56,52,57,53,48,53,49,53,50,53,51,53,52,53,53,53,54,53,55,53,56,53,57,54,48,54,49,54,50,54,51,54,52,54,53,54,54,54,55,54,56,54,57,55,48,55,49,55,50,55,51,55,52,55,53,55,54,55,55,55,56,55,57,56,48,56,49,56,50,56,51,56,52,56,53,56,54,56,55,56,56,56,57,57,48,57,49,57,50,57,51,57,52,57,53,57,54,57,55,57,56,57,57]⟩ (IntKind.u32.wrap ((IntKind.u32.wrap (((((IntKind.u32.wrap ((s1.1:Int).tmod 100000000)):Int).tmod 10000):Int).tdiv 100))*2)) fun c8=>
 (idxP a (IntKind.i64.wrap (s1.2.1-3)) 1 fun a9=>
 (stP a9 [.int .u8 c7] (fun h4=>
 (idxP a (IntKind.i64.wrap (s1.2.1-4)) 1 fun a10=>
 (stP a10 [.int .u8 c8] (fun h5=>
 (strIdx ⟨#[48,48,48,49,48,50,48,51,48,52,48,53,48,54,48,55,48,56,48,57,49,48,49,49,49,50,49,51,49,52,49,53,49,54,49,55,49,56,49,57,50,48,50,49,50,50,50,51,50,52,50,53,50,54,50,55,50,56,50,57,51,48,51,49,51,50,51,51,51,52,51,53,51,54,51,55,51,56,51,57,52,48,52,49,52,50,52,51,52,52,52,53,52,54,52,55,52,56,52,57,53,48,53,49,53,50,53,51,53,52,53,53,53,54,53,55,53,56,53,57,54,48,54,49,54,50,54,51,54,52,54,53,54,54,54,55,54,56,54,57,55,48,55,49,55,50,55,51,55,52,55,53,55,54,55,55,55,56,55,57,56,48,56,49,56,50,56,51,56,52,56,53,56,54,56,55,56,56,56,57,57,48,57,49,57,50,57,51,57,52,57,53,57,54,57,55,57,56,57,57]⟩ (IntKind.u32.wrap ((IntKind.u32.wrap ((((IntKind.u32.wrap (((IntKind.u32.wrap ((s1.1:Int).tmod 100000000)):Int).tdiv 10000)):Int).tmod 100)*2))+1)) fun c11=>
 (strIdx ⟨#[48,48,48,49,48,50,48,51,48,52,48,53,48,54,48,55,48,56,48,57,49,48,49,49,49,50,49,51,49,52,49,53,49,54,49,55,49,56,49,57,50,48,50,49,50,50,50,51,50,52,50,53,50,54,50,55,50,56,50,57,51,48,51,49,51,50,51,51,51,52,51,53,51,54,51,55,51,56,51,57,52,48,52,49,52,50,52,51,52,52,52,53,52,54,52,55,52,56,52,57,53,48,53,49,53,50,53,51,53,52,53,53,53,54,53,55,53,56,53,57,54,48,54,49,54,50,54,51,54,52,54,53,54,54,54,55,54,56,54,57,55,48,55,49,55,50,55,51,55,52,55,53,55,54,55,55,55,56,55,57,56,48,56,49,56,50,56,51,56,52,56,53,56,54,56,55,56,56,56,57,57,48,57,49,57,50,57,51,57,52,57,53,57,54,57,55,57,56,57,57]⟩ (IntKind.u32.wrap ((((IntKind.u32.wrap (((IntKind.u32.wrap ((s1.1:Int).tmod 100000000)):Int).tdiv 10000)):Int).tmod 100)*2)) fun c12=>
 (idxP a (IntKind.i64.wrap (s1.2.1-5)) 1 fun a13=>
 (stP a13 [.int .u8 c11] (fun h6=>
 (idxP a (IntKind.i64.wrap (s1.2.1-6)) 1 fun a14=>
 (stP a14 [.int .u8 c12] (fun h7=>
 (strIdx ⟨#[48,48,48,49,48,50,48,51,48,52,48,53,48,54,48,55,48,56,48,57,49,48,49,49,49,50,49,51,49,52,49,53,49,54,49,55,49,56,49,57,50,48,50,49,50,50,50,51,50,52,50,53,50,54,50,55,50,56,50,57,51,48,51,49,51,50,51,51,51,52,51,53,51,54,51,55,51,56,51,57,52,48,52,49,52,50,52,51,52,52,52,53,52,54,52,55,52,56,52,57,53,48,53,49,53,50,53,51,53,52,53,53,53,54,53,55,53,56,53,57,54,48,54,49,54,50,54,51,54,52,54,53,54,54,54,55,54,56,54,57,55,48,55,49,55,50,55,51,55,52,55,53,55,54,55,55,55,56,55,57,56,48,56,49,56,50,56,51,56,52,56,53,56,54,56,55,56,56,56,57,57,48,57,49,57,50,57,51,57,52,57,53,57,54,57,55,57,56,57,57]⟩ (IntKind.u32.wrap ((IntKind.u32.wrap ((IntKind.u32.wrap (((IntKind.u32.wrap (((IntKind.u32.wrap ((s1.1:Int).tmod 100000000)):Int).tdiv 10000)):Int).tdiv 100))*2))+1)) fun c15=>
 (strIdx ⟨#[48,48,48,49,48,50,48,51,48,52,48,53,48,54,48,55,48,56,48,57,49,48,49,49,49,50,49,51,49,52,49,53,49,54,49,55,49,56,49,57,50,48,50,49,50,50,50,51,50,52,50,53,50,54,50,55,50,56,50,57,51,48,51,49,51,50,51,51,51,52,51,53,51,54,51,55,51,56,51,57,52,48,52,49,52,50,52,51,52,52,52,53,52,54,52,55,52,56,52,57,53,48,53,49,53,50,53,51,53,52,53,53,53,54,53,55,53,56,53,57,54,48,54,49,54,50,54,51,54,52,54,53,54,54,54,55,54,56,54,57,55,48,55,49,55,50,55,51,55,52,55,53,55,54,55,55,55,56,55,57,56,48,56,49,56,50,56,51,56,52,56,53,56,54,56,55,56,56,56,57,57,48,57,49,57,50,57,51,57,52,57,53,57,54,57,55,57,56,57,57]⟩ (IntKind.u32.wrap ((IntKind.u32.wrap (((IntKind.u32.wrap (((IntKind.u32.wrap ((s1.1:Int).tmod 100000000)):Int).tdiv 10000)):Int).tdiv 100))*2)) fun c16=>
 (idxP a (IntKind.i64.wrap (s1.2.1-7)) 1 fun a17=>
 (stP a17 [.int .u8 c15] (fun h8=>
 (idxP a (IntKind.i64.wrap (s1.2.1-8)) 1 fun a18=>
 (stP a18 [.int .u8 c16] (fun h9=>
 (k2 ((IntKind.u64.wrap ((s1.1:Int).tdiv 100000000)),(IntKind.i64.wrap (s1.2.1-8)),()) h9)) h8))) h7))))) h6))) h5))))) h4))) h3))))) h2))) h1))))))))))))
 (joinP (S:=Int×Int×Unit) (fun s19 h10=>
 (joinP (S:=Int×Int×Unit) (fun s21 h11=>
 (ifP (decide (s21.1>0))
 (idxP a 0 1 fun a23=>
 (stP a23 [.int .u8 (IntKind.u8.wrap ((IntKind.u32.wrap (48+s21.2.1))))] (fun h12=>
 (K () h12)) h11))
 (K () h11)))
 (fun k22=>
 (ifP (decide (s19.1≥2))
 ((100:Int)≠0 ∧
 ((100:Int)≠0 ∧
 (strIdx ⟨#[48,48,48,49,48,50,48,51,48,52,48,53,48,54,48,55,48,56,48,57,49,48,49,49,49,50,49,51,49,52,49,53,49,54,49,55,49,56,49,57,50,48,50,49,50,50,50,51,50,52,50,53,50,54,50,55,50,56,50,57,51,48,51,49,51,50,51,51,51,52,51,53,51,54,51,55,51,56,51,57,52,48,52,49,52,50,52,51,52,52,52,53,52,54,52,55,52,56,52,57,53,48,53,49,53,50,53,51,53,52,53,53,53,54,53,55,53,56,53,57,54,48,54,49,54,50,54,51,54,52,54,53,54,54,54,55,54,56,54,57,55,48,55,49,55,50,55,51,55,52,55,53,55,54,55,55,55,56,55,57,56,48,56,49,56,50,56,51,56,52,56,53,56,54,56,55,56,56,56,57,57,48,57,49,57,50,57,51,57,52,57,53,57,54,57,55,57,56,57,57]⟩ (IntKind.u32.wrap ((IntKind.u32.wrap (((s19.2.1:Int).tmod 100)*2))+1)) fun c24=>
 (strIdx ⟨#[48,48,48,49,48,50,48,51,48,52,48,53,48,54,48,55,48,56,48,57,49,48,49,49,49,50,49,51,49,52,49,53,49,54,49,55,49,56,49,57,50,48,50,49,50,50,50,51,50,52,50,53,50,54,50,55,50,56,50,57,51,48,51,49,51,50,51,51,51,52,51,53,51,54,51,55,51,56,51,57,52,48,52,49,52,50,52,51,52,52,52,53,52,54,52,55,52,56,52,57,53,48,53,49,53,50,53,51,53,52,53,53,53,54,53,55,53,56,53,57,54,48,54,49,54,50,54,51,54,52,54,53,54,54,54,55,54,56,54,57,55,48,55,49,55,50,55,51,55,52,55,53,55,54,55,55,55,56,55,57,56,48,56,49,56,50,56,51,56,52,56,53,56,54,56,55,56,56,56,57,57,48,57,49,57,50,57,51,57,52,57,53,57,54,57,55,57,56,57,57]⟩ (IntKind.u32.wrap (((s19.2.1:Int).tmod 100)*2)) fun c25=>
 (idxP a (IntKind.i64.wrap (s19.1-1)) 1 fun a26=>
 (stP a26 [.int .u8 c24] (fun h13=>
 (idxP a (IntKind.i64.wrap (s19.1-2)) 1 fun a27=>
 (stP a27 [.int .u8 c25] (fun h14=>
 (k22 ((IntKind.i64.wrap (s19.1-2)),(IntKind.u32.wrap ((s19.2.1:Int).tdiv 100)),()) h14)) h13))) h10))))))
 (k22 (s19.1,s19.2.1,()) h10)))))
 (fun k20=>
 (ifP (decide (s1.2.1≥4))
 ((10000:Int)≠0 ∧
 ((10000:Int)≠0 ∧
 ((100:Int)≠0 ∧
 ((100:Int)≠0 ∧
 (strIdx ⟨#[48,48,48,49,48,50,48,51,48,52,48,53,48,54,48,55,48,56,48,57,49,48,49,49,49,50,49,51,49,52,49,53,49,54,49,55,49,56,49,57,50,48,50,49,50,50,50,51,50,52,50,53,50,54,50,55,50,56,50,57,51,48,51,49,51,50,51,51,51,52,51,53,51,54,51,55,51,56,51,57,52,48,52,49,52,50,52,51,52,52,52,53,52,54,52,55,52,56,52,57,53,48,53,49,53,50,53,51,53,52,53,53,53,54,53,55,53,56,53,57,54,48,54,49,54,50,54,51,54,52,54,53,54,54,54,55,54,56,54,57,55,48,55,49,55,50,55,51,55,52,55,53,55,54,55,55,55,56,55,57,56,48,56,49,56,50,56,51,56,52,56,53,56,54,56,55,56,56,56,57,57,48,57,49,57,50,57,51,57,52,57,53,57,54,57,55,57,56,57,57]⟩ (IntKind.u32.wrap ((IntKind.u32.wrap ((((((IntKind.u32.wrap (s1.1)):Int).tmod 10000):Int).tmod 100)*2))+1)) fun c28=>
 (strIdx ⟨#[48,48,48,49,48,50,48,51,48,52,48,53,48,54,48,55,48,56,48,57,49,48,49,49,49,50,49,51,49,52,49,53,49,54,49,55,49,56,49,57,50,48,50,49,50,50,50,51,50,52,50,53,50,54,50,55,50,56,50,57,51,48,51,49,51,50,51,51,51,52,51,53,51,54,51,55,51,56,51,57,52,48,52,49,52,50,52,51,52,52,52,53,52,54,52,55,52,56,52,57,53,48,53,49,53,50,53,51,53,52,53,53,53,54,53,55,53,56,53,57,54,48,54,49,54,50,54,51,54,52,54,53,54,54,54,55,54,56,54,57,55,48,55,49,55,50,55,51,55,52,55,53,55,54,55,55,55,56,55,57,56,48,56,49,56,50,56,51,56,52,56,53,56,54,56,55,56,56,56,57,57,48,57,49,57,50,57,51,57,52,57,53,57,54,57,55,57,56,57,57]⟩ (IntKind.u32.wrap ((((((IntKind.u32.wrap (s1.1)):Int).tmod 10000):Int).tmod 100)*2)) fun c29=>
 (idxP a (IntKind.i64.wrap (s1.2.1-1)) 1 fun a30=>
 (stP a30 [.int .u8 c28] (fun h15=>
 (idxP a (IntKind.i64.wrap (s1.2.1-2)) 1 fun a31=>
 (stP a31 [.int .u8 c29] (fun h16=>
 (strIdx ⟨#[48,48,48,49,48,50,48,51,48,52,48,53,48,54,48,55,48,56,48,57,49,48,49,49,49,50,49,51,49,52,49,53,49,54,49,55,49,56,49,57,50,48,50,49,50,50,50,51,50,52,50,53,50,54,50,55,50,56,50,57,51,48,51,49,51,50,51,51,51,52,51,53,51,54,51,55,51,56,51,57,52,48,52,49,52,50,52,51,52,52,52,53,52,54,52,55,52,56,52,57,53,48,53,49,53,50,53,51,53,52,53,53,53,54,53,55,53,56,53,57,54,48,54,49,54,50,54,51,54,52,54,53,54,54,54,55,54,56,54,57,55,48,55,49,55,50,55,51,55,52,55,53,55,54,55,55,55,56,55,57,56,48,56,49,56,50,56,51,56,52,56,53,56,54,56,55,56,56,56,57,57,48,57,49,57,50,57,51,57,52,57,53,57,54,57,55,57,56,57,57]⟩ (IntKind.u32.wrap ((IntKind.u32.wrap ((IntKind.u32.wrap (((((IntKind.u32.wrap (s1.1)):Int).tmod 10000):Int).tdiv 100))*2))+1)) fun c32=>
 (strIdx ⟨#[48,48,48,49,48,50,48,51,48,52,48,53,48,54,48,55,48,56,48,57,49,48,49,49,49,50,49,51,49,52,49,53,49,54,49,55,49,56,49,57,50,48,50,49,50,50,50,51,50,52,50,53,50,54,50,55,50,56,50,57,51,48,51,49,51,50,51,51,51,52,51,53,51,54,51,55,51,56,51,57,52,48,52,49,52,50,52,51,52,52,52,53,52,54,52,55,52,56,52,57,53,48,53,49,53,50,53,51,53,52,53,53,53,54,53,55,53,56,53,57,54,48,54,49,54,50,54,51,54,52,54,53,54,54,54,55,54,56,54,57,55,48,55,49,55,50,55,51,55,52,55,53,55,54,55,55,55,56,55,57,56,48,56,49,56,50,56,51,56,52,56,53,56,54,56,55,56,56,56,57,57,48,57,49,57,50,57,51,57,52,57,53,57,54,57,55,57,56,57,57]⟩ (IntKind.u32.wrap ((IntKind.u32.wrap (((((IntKind.u32.wrap (s1.1)):Int).tmod 10000):Int).tdiv 100))*2)) fun c33=>
 (idxP a (IntKind.i64.wrap (s1.2.1-3)) 1 fun a34=>
 (stP a34 [.int .u8 c32] (fun h17=>
 (idxP a (IntKind.i64.wrap (s1.2.1-4)) 1 fun a35=>
 (stP a35 [.int .u8 c33] (fun h18=>
 (k20 ((IntKind.i64.wrap (s1.2.1-4)),(IntKind.u32.wrap (((IntKind.u32.wrap (s1.1)):Int).tdiv 10000)),()) h18)) h17))) h16))))) h15))) h1))))))))
 (k20 (s1.2.1,(IntKind.u32.wrap (s1.1)),()) h1))))))
 (u,(a.len:Int),()) h)
def zei (i:Int) (base:Int) (K:ByteArray→Hp→Prop) (h:Hp):Prop:=
 (ifP (base==10)
 (ifP (decide (i<100))
 (callP (zg5 (IntKind.i64.wrap (i))) (fun r1 h1=>
 (K r1 h1)) h)
 (newP [.int .u8 0,.int .u8 0,.int .u8 0,.int .u8 0,.int .u8 0,.int .u8 0,.int .u8 0,.int .u8 0,.int .u8 0,.int .u8 0,.int .u8 0,.int .u8 0,.int .u8 0,.int .u8 0,.int .u8 0,.int .u8 0,.int .u8 0,.int .u8 0,.int .u8 0,.int .u8 0,.int .u8 0,.int .u8 0,.int .u8 0,.int .u8 0] (fun p2 h2=>
 (callP (zd2 i) (fun r3 h3=>
 (slP (⟨some p2,24,24⟩:Sl) 0 r3 1 fun c4=>
 (callM (zct c4 i) (fun r5 h4=>
 (slP (⟨some p2,24,24⟩:Sl) 0 r3 1 fun c6=>
 (toStr c6 (fun t7=>
 (K t7 h4)) h4))) h3))) h2)) h))
 False)
def zem (i:Int) (base:Int) (K:ByteArray→Hp→Prop) (h:Hp):Prop:=
 (callP (zei i base) (fun r1 h1=>
 (K r1 h1)) h)
def zk0 (x:Int) (y:Int) (K:(Int×Int)→Hp→Prop) (h:Hp):Prop:=
 (0≤(32:Int) ∧
 (0≤(32:Int) ∧
 (0≤(32:Int) ∧
 (0≤(32:Int) ∧
 (0≤(32:Int) ∧
 (K ((IntKind.u64.wrap ((IntKind.u64.wrap ((IntKind.u64.wrap (((x:Int).fdiv (2 ^ (min (32:Int).toNat IntKind.u64.bits)))*((y:Int).fdiv (2 ^ (min (32:Int).toNat IntKind.u64.bits)))))+(((IntKind.u64.wrap ((IntKind.u64.wrap (((x:Int).fdiv (2 ^ (min (32:Int).toNat IntKind.u64.bits)))*(ibits .and .u64 y 4294967295)))+(((IntKind.u64.wrap ((ibits .and .u64 x 4294967295)*(ibits .and .u64 y 4294967295))):Int).fdiv (2 ^ (min (32:Int).toNat IntKind.u64.bits))))):Int).fdiv (2 ^ (min (32:Int).toNat IntKind.u64.bits)))))+(((IntKind.u64.wrap ((ibits .and .u64 (IntKind.u64.wrap ((IntKind.u64.wrap (((x:Int).fdiv (2 ^ (min (32:Int).toNat IntKind.u64.bits)))*(ibits .and .u64 y 4294967295)))+(((IntKind.u64.wrap ((ibits .and .u64 x 4294967295)*(ibits .and .u64 y 4294967295))):Int).fdiv (2 ^ (min (32:Int).toNat IntKind.u64.bits))))) 4294967295)+(IntKind.u64.wrap ((ibits .and .u64 x 4294967295)*((y:Int).fdiv (2 ^ (min (32:Int).toNat IntKind.u64.bits))))))):Int).fdiv (2 ^ (min (32:Int).toNat IntKind.u64.bits))))),(IntKind.u64.wrap (x*y))) h))))))
def zj9 (x:Int) (y:Int) (K:(Int×Int)→Hp→Prop) (h:Hp):Prop:=
 (callP (zk0 x y) (fun r1 h1=>
 (K (r1.1,r1.2) h1)) h)
def zdf (s:ByteArray) (prefix_:ByteArray) (K:Bool→Hp→Prop) (h:Hp):Prop:=
 (ifP (decide (((s:ByteArray).size:Int)≥((prefix_:ByteArray).size:Int)))
 (strCut s 0 ((prefix_:ByteArray).size:Int) fun c1=>
 (K ((c1:ByteArray).toList==(prefix_:ByteArray).toList) h))
 (K false h))
def za8 (s:ByteArray) (prefix_:ByteArray) (K:Bool→Hp→Prop) (h:Hp):Prop:=
 (callP (zdf s prefix_) (fun r1 h1=>
 (K r1 h1)) h)
def zfb (s:ByteArray) (count:Int) (K:ByteArray→Hp→Prop) (h:Hp):Prop:=
 (ifP (count==0)
 (K emptyS h)
 (ifP (count==1)
 (K s h)
 (joinP (S:=Unit) (fun s1 h1=>
 (callP (zj9 (IntKind.u64.wrap (((s:ByteArray).size:Int))) (IntKind.u64.wrap (count))) (fun r3 h2=>
 (joinP (S:=Unit) (fun s4 h3=>
 (ifP (((s:ByteArray).size:Int)==0)
 (K emptyS h3)
 (joinP (S:=Unit) (fun s6 h4=>
 (joinP (S:=Int×Unit) (fun s8 h5=>
 (newT 239 [.pointer none,.slice nilS.a nilS.len nilS.cap] (fun p10 h6=>
 False) h5))
 (fun k9=>
 (ifP (decide ((IntKind.i64.wrap (r3.2))>8192))
 ((((s:ByteArray).size:Int):Int)≠0 ∧
 (ifP ((IntKind.i64.wrap ((IntKind.i64.wrap ((8192:Int).tdiv ((s:ByteArray).size:Int)))*((s:ByteArray).size:Int)))==0)
 (k9 (((s:ByteArray).size:Int),()) h4)
 (k9 ((IntKind.i64.wrap ((IntKind.i64.wrap ((8192:Int).tdiv ((s:ByteArray).size:Int)))*((s:ByteArray).size:Int))),()) h4)))
 (k9 ((IntKind.i64.wrap (r3.2)),()) h4)))))
 (fun k7=>
 (strIdx s 0 fun c11=>
 (joinP (S:=Bool×Unit) (fun s12 h7=>
 (ifP s12.1
 (ifP (decide ((IntKind.i64.wrap (r3.2))≤128))
 (callP (za8 ⟨#[32,32,32,32,32,32,32,32,32,32,32,32,32,32,32,32,32,32,32,32,32,32,32,32,32,32,32,32,32,32,32,32,32,32,32,32,32,32,32,32,32,32,32,32,32,32,32,32,32,32,32,32,32,32,32,32,32,32,32,32,32,32,32,32,32,32,32,32,32,32,32,32,32,32,32,32,32,32,32,32,32,32,32,32,32,32,32,32,32,32,32,32,32,32,32,32,32,32,32,32,32,32,32,32,32,32,32,32,32,32,32,32,32,32,32,32,32,32,32,32,32,32,32,32,32,32,32,32]⟩ s) (fun r14 h8=>
 (ifP r14
 (strCut ⟨#[32,32,32,32,32,32,32,32,32,32,32,32,32,32,32,32,32,32,32,32,32,32,32,32,32,32,32,32,32,32,32,32,32,32,32,32,32,32,32,32,32,32,32,32,32,32,32,32,32,32,32,32,32,32,32,32,32,32,32,32,32,32,32,32,32,32,32,32,32,32,32,32,32,32,32,32,32,32,32,32,32,32,32,32,32,32,32,32,32,32,32,32,32,32,32,32,32,32,32,32,32,32,32,32,32,32,32,32,32,32,32,32,32,32,32,32,32,32,32,32,32,32,32,32,32,32,32,32]⟩ 0 (IntKind.i64.wrap (r3.2)) fun c15=>
 (K c15 h8))
 (ifP (decide ((IntKind.i64.wrap (r3.2))≤128))
 (callP (za8 ⟨#[45,45,45,45,45,45,45,45,45,45,45,45,45,45,45,45,45,45,45,45,45,45,45,45,45,45,45,45,45,45,45,45,45,45,45,45,45,45,45,45,45,45,45,45,45,45,45,45,45,45,45,45,45,45,45,45,45,45,45,45,45,45,45,45,45,45,45,45,45,45,45,45,45,45,45,45,45,45,45,45,45,45,45,45,45,45,45,45,45,45,45,45,45,45,45,45,45,45,45,45,45,45,45,45,45,45,45,45,45,45,45,45,45,45,45,45,45,45,45,45,45,45,45,45,45,45,45,45]⟩ s) (fun r16 h9=>
 (ifP r16
 (strCut ⟨#[45,45,45,45,45,45,45,45,45,45,45,45,45,45,45,45,45,45,45,45,45,45,45,45,45,45,45,45,45,45,45,45,45,45,45,45,45,45,45,45,45,45,45,45,45,45,45,45,45,45,45,45,45,45,45,45,45,45,45,45,45,45,45,45,45,45,45,45,45,45,45,45,45,45,45,45,45,45,45,45,45,45,45,45,45,45,45,45,45,45,45,45,45,45,45,45,45,45,45,45,45,45,45,45,45,45,45,45,45,45,45,45,45,45,45,45,45,45,45,45,45,45,45,45,45,45,45,45]⟩ 0 (IntKind.i64.wrap (r3.2)) fun c17=>
 (K c17 h9))
 (ifP (decide ((IntKind.i64.wrap (r3.2))≤64))
 (callP (za8 ⟨#[48,48,48,48,48,48,48,48,48,48,48,48,48,48,48,48,48,48,48,48,48,48,48,48,48,48,48,48,48,48,48,48,48,48,48,48,48,48,48,48,48,48,48,48,48,48,48,48,48,48,48,48,48,48,48,48,48,48,48,48,48,48,48,48]⟩ s) (fun r18 h10=>
 (ifP r18
 (strCut ⟨#[48,48,48,48,48,48,48,48,48,48,48,48,48,48,48,48,48,48,48,48,48,48,48,48,48,48,48,48,48,48,48,48,48,48,48,48,48,48,48,48,48,48,48,48,48,48,48,48,48,48,48,48,48,48,48,48,48,48,48,48,48,48,48,48]⟩ 0 (IntKind.i64.wrap (r3.2)) fun c19=>
 (K c19 h10))
 (ifP (decide ((IntKind.i64.wrap (r3.2))≤128))
 (callP (za8 ⟨#[61,61,61,61,61,61,61,61,61,61,61,61,61,61,61,61,61,61,61,61,61,61,61,61,61,61,61,61,61,61,61,61,61,61,61,61,61,61,61,61,61,61,61,61,61,61,61,61,61,61,61,61,61,61,61,61,61,61,61,61,61,61,61,61,61,61,61,61,61,61,61,61,61,61,61,61,61,61,61,61,61,61,61,61,61,61,61,61,61,61,61,61,61,61,61,61,61,61,61,61,61,61,61,61,61,61,61,61,61,61,61,61,61,61,61,61,61,61,61,61,61,61,61,61,61,61,61,61]⟩ s) (fun r20 h11=>
 (ifP r20
 (strCut ⟨#[61,61,61,61,61,61,61,61,61,61,61,61,61,61,61,61,61,61,61,61,61,61,61,61,61,61,61,61,61,61,61,61,61,61,61,61,61,61,61,61,61,61,61,61,61,61,61,61,61,61,61,61,61,61,61,61,61,61,61,61,61,61,61,61,61,61,61,61,61,61,61,61,61,61,61,61,61,61,61,61,61,61,61,61,61,61,61,61,61,61,61,61,61,61,61,61,61,61,61,61,61,61,61,61,61,61,61,61,61,61,61,61,61,61,61,61,61,61,61,61,61,61,61,61,61,61,61,61]⟩ 0 (IntKind.i64.wrap (r3.2)) fun c21=>
 (K c21 h11))
 (ifP (decide ((IntKind.i64.wrap (r3.2))≤64))
 (callP (za8 ⟨#[9,9,9,9,9,9,9,9,9,9,9,9,9,9,9,9,9,9,9,9,9,9,9,9,9,9,9,9,9,9,9,9,9,9,9,9,9,9,9,9,9,9,9,9,9,9,9,9,9,9,9,9,9,9,9,9,9,9,9,9,9,9,9,9]⟩ s) (fun r22 h12=>
 (ifP r22
 (strCut ⟨#[9,9,9,9,9,9,9,9,9,9,9,9,9,9,9,9,9,9,9,9,9,9,9,9,9,9,9,9,9,9,9,9,9,9,9,9,9,9,9,9,9,9,9,9,9,9,9,9,9,9,9,9,9,9,9,9,9,9,9,9,9,9,9,9]⟩ 0 (IntKind.i64.wrap (r3.2)) fun c23=>
 (K c23 h12))
 (k7 () h12))) h11)
 (k7 () h11)))) h10)
 (ifP (decide ((IntKind.i64.wrap (r3.2))≤64))
 (callP (za8 ⟨#[9,9,9,9,9,9,9,9,9,9,9,9,9,9,9,9,9,9,9,9,9,9,9,9,9,9,9,9,9,9,9,9,9,9,9,9,9,9,9,9,9,9,9,9,9,9,9,9,9,9,9,9,9,9,9,9,9,9,9,9,9,9,9,9]⟩ s) (fun r24 h13=>
 (ifP r24
 (strCut ⟨#[9,9,9,9,9,9,9,9,9,9,9,9,9,9,9,9,9,9,9,9,9,9,9,9,9,9,9,9,9,9,9,9,9,9,9,9,9,9,9,9,9,9,9,9,9,9,9,9,9,9,9,9,9,9,9,9,9,9,9,9,9,9,9,9]⟩ 0 (IntKind.i64.wrap (r3.2)) fun c25=>
 (K c25 h13))
 (k7 () h13))) h10)
 (k7 () h10))))) h9)
 (ifP (decide ((IntKind.i64.wrap (r3.2))≤128))
 (callP (za8 ⟨#[61,61,61,61,61,61,61,61,61,61,61,61,61,61,61,61,61,61,61,61,61,61,61,61,61,61,61,61,61,61,61,61,61,61,61,61,61,61,61,61,61,61,61,61,61,61,61,61,61,61,61,61,61,61,61,61,61,61,61,61,61,61,61,61,61,61,61,61,61,61,61,61,61,61,61,61,61,61,61,61,61,61,61,61,61,61,61,61,61,61,61,61,61,61,61,61,61,61,61,61,61,61,61,61,61,61,61,61,61,61,61,61,61,61,61,61,61,61,61,61,61,61,61,61,61,61,61,61]⟩ s) (fun r26 h14=>
 (ifP r26
 (strCut ⟨#[61,61,61,61,61,61,61,61,61,61,61,61,61,61,61,61,61,61,61,61,61,61,61,61,61,61,61,61,61,61,61,61,61,61,61,61,61,61,61,61,61,61,61,61,61,61,61,61,61,61,61,61,61,61,61,61,61,61,61,61,61,61,61,61,61,61,61,61,61,61,61,61,61,61,61,61,61,61,61,61,61,61,61,61,61,61,61,61,61,61,61,61,61,61,61,61,61,61,61,61,61,61,61,61,61,61,61,61,61,61,61,61,61,61,61,61,61,61,61,61,61,61,61,61,61,61,61,61]⟩ 0 (IntKind.i64.wrap (r3.2)) fun c27=>
 (K c27 h14))
 (ifP (decide ((IntKind.i64.wrap (r3.2))≤64))
 (callP (za8 ⟨#[9,9,9,9,9,9,9,9,9,9,9,9,9,9,9,9,9,9,9,9,9,9,9,9,9,9,9,9,9,9,9,9,9,9,9,9,9,9,9,9,9,9,9,9,9,9,9,9,9,9,9,9,9,9,9,9,9,9,9,9,9,9,9,9]⟩ s) (fun r28 h15=>
 (ifP r28
 (strCut ⟨#[9,9,9,9,9,9,9,9,9,9,9,9,9,9,9,9,9,9,9,9,9,9,9,9,9,9,9,9,9,9,9,9,9,9,9,9,9,9,9,9,9,9,9,9,9,9,9,9,9,9,9,9,9,9,9,9,9,9,9,9,9,9,9,9]⟩ 0 (IntKind.i64.wrap (r3.2)) fun c29=>
 (K c29 h15))
 (k7 () h15))) h14)
 (k7 () h14)))) h9)
 (ifP (decide ((IntKind.i64.wrap (r3.2))≤64))
 (callP (za8 ⟨#[9,9,9,9,9,9,9,9,9,9,9,9,9,9,9,9,9,9,9,9,9,9,9,9,9,9,9,9,9,9,9,9,9,9,9,9,9,9,9,9,9,9,9,9,9,9,9,9,9,9,9,9,9,9,9,9,9,9,9,9,9,9,9,9]⟩ s) (fun r30 h16=>
 (ifP r30
 (strCut ⟨#[9,9,9,9,9,9,9,9,9,9,9,9,9,9,9,9,9,9,9,9,9,9,9,9,9,9,9,9,9,9,9,9,9,9,9,9,9,9,9,9,9,9,9,9,9,9,9,9,9,9,9,9,9,9,9,9,9,9,9,9,9,9,9,9]⟩ 0 (IntKind.i64.wrap (r3.2)) fun c31=>
 (K c31 h16))
 (k7 () h16))) h9)
 (k7 () h9)))))) h8)
 (ifP (decide ((IntKind.i64.wrap (r3.2))≤64))
 (callP (za8 ⟨#[48,48,48,48,48,48,48,48,48,48,48,48,48,48,48,48,48,48,48,48,48,48,48,48,48,48,48,48,48,48,48,48,48,48,48,48,48,48,48,48,48,48,48,48,48,48,48,48,48,48,48,48,48,48,48,48,48,48,48,48,48,48,48,48]⟩ s) (fun r32 h17=>
 (ifP r32
 (strCut ⟨#[48,48,48,48,48,48,48,48,48,48,48,48,48,48,48,48,48,48,48,48,48,48,48,48,48,48,48,48,48,48,48,48,48,48,48,48,48,48,48,48,48,48,48,48,48,48,48,48,48,48,48,48,48,48,48,48,48,48,48,48,48,48,48,48]⟩ 0 (IntKind.i64.wrap (r3.2)) fun c33=>
 (K c33 h17))
 (ifP (decide ((IntKind.i64.wrap (r3.2))≤128))
 (callP (za8 ⟨#[61,61,61,61,61,61,61,61,61,61,61,61,61,61,61,61,61,61,61,61,61,61,61,61,61,61,61,61,61,61,61,61,61,61,61,61,61,61,61,61,61,61,61,61,61,61,61,61,61,61,61,61,61,61,61,61,61,61,61,61,61,61,61,61,61,61,61,61,61,61,61,61,61,61,61,61,61,61,61,61,61,61,61,61,61,61,61,61,61,61,61,61,61,61,61,61,61,61,61,61,61,61,61,61,61,61,61,61,61,61,61,61,61,61,61,61,61,61,61,61,61,61,61,61,61,61,61,61]⟩ s) (fun r34 h18=>
 (ifP r34
 (strCut ⟨#[61,61,61,61,61,61,61,61,61,61,61,61,61,61,61,61,61,61,61,61,61,61,61,61,61,61,61,61,61,61,61,61,61,61,61,61,61,61,61,61,61,61,61,61,61,61,61,61,61,61,61,61,61,61,61,61,61,61,61,61,61,61,61,61,61,61,61,61,61,61,61,61,61,61,61,61,61,61,61,61,61,61,61,61,61,61,61,61,61,61,61,61,61,61,61,61,61,61,61,61,61,61,61,61,61,61,61,61,61,61,61,61,61,61,61,61,61,61,61,61,61,61,61,61,61,61,61,61]⟩ 0 (IntKind.i64.wrap (r3.2)) fun c35=>
 (K c35 h18))
 (ifP (decide ((IntKind.i64.wrap (r3.2))≤64))
 (callP (za8 ⟨#[9,9,9,9,9,9,9,9,9,9,9,9,9,9,9,9,9,9,9,9,9,9,9,9,9,9,9,9,9,9,9,9,9,9,9,9,9,9,9,9,9,9,9,9,9,9,9,9,9,9,9,9,9,9,9,9,9,9,9,9,9,9,9,9]⟩ s) (fun r36 h19=>
 (ifP r36
 (strCut ⟨#[9,9,9,9,9,9,9,9,9,9,9,9,9,9,9,9,9,9,9,9,9,9,9,9,9,9,9,9,9,9,9,9,9,9,9,9,9,9,9,9,9,9,9,9,9,9,9,9,9,9,9,9,9,9,9,9,9,9,9,9,9,9,9,9]⟩ 0 (IntKind.i64.wrap (r3.2)) fun c37=>
 (K c37 h19))
 (k7 () h19))) h18)
 (k7 () h18)))) h17)
 (ifP (decide ((IntKind.i64.wrap (r3.2))≤64))
 (callP (za8 ⟨#[9,9,9,9,9,9,9,9,9,9,9,9,9,9,9,9,9,9,9,9,9,9,9,9,9,9,9,9,9,9,9,9,9,9,9,9,9,9,9,9,9,9,9,9,9,9,9,9,9,9,9,9,9,9,9,9,9,9,9,9,9,9,9,9]⟩ s) (fun r38 h20=>
 (ifP r38
 (strCut ⟨#[9,9,9,9,9,9,9,9,9,9,9,9,9,9,9,9,9,9,9,9,9,9,9,9,9,9,9,9,9,9,9,9,9,9,9,9,9,9,9,9,9,9,9,9,9,9,9,9,9,9,9,9,9,9,9,9,9,9,9,9,9,9,9,9]⟩ 0 (IntKind.i64.wrap (r3.2)) fun c39=>
 (K c39 h20))
 (k7 () h20))) h17)
 (k7 () h17))))) h8)
 (ifP (decide ((IntKind.i64.wrap (r3.2))≤128))
 (callP (za8 ⟨#[61,61,61,61,61,61,61,61,61,61,61,61,61,61,61,61,61,61,61,61,61,61,61,61,61,61,61,61,61,61,61,61,61,61,61,61,61,61,61,61,61,61,61,61,61,61,61,61,61,61,61,61,61,61,61,61,61,61,61,61,61,61,61,61,61,61,61,61,61,61,61,61,61,61,61,61,61,61,61,61,61,61,61,61,61,61,61,61,61,61,61,61,61,61,61,61,61,61,61,61,61,61,61,61,61,61,61,61,61,61,61,61,61,61,61,61,61,61,61,61,61,61,61,61,61,61,61,61]⟩ s) (fun r40 h21=>
 (ifP r40
 (strCut ⟨#[61,61,61,61,61,61,61,61,61,61,61,61,61,61,61,61,61,61,61,61,61,61,61,61,61,61,61,61,61,61,61,61,61,61,61,61,61,61,61,61,61,61,61,61,61,61,61,61,61,61,61,61,61,61,61,61,61,61,61,61,61,61,61,61,61,61,61,61,61,61,61,61,61,61,61,61,61,61,61,61,61,61,61,61,61,61,61,61,61,61,61,61,61,61,61,61,61,61,61,61,61,61,61,61,61,61,61,61,61,61,61,61,61,61,61,61,61,61,61,61,61,61,61,61,61,61,61,61]⟩ 0 (IntKind.i64.wrap (r3.2)) fun c41=>
 (K c41 h21))
 (ifP (decide ((IntKind.i64.wrap (r3.2))≤64))
 (callP (za8 ⟨#[9,9,9,9,9,9,9,9,9,9,9,9,9,9,9,9,9,9,9,9,9,9,9,9,9,9,9,9,9,9,9,9,9,9,9,9,9,9,9,9,9,9,9,9,9,9,9,9,9,9,9,9,9,9,9,9,9,9,9,9,9,9,9,9]⟩ s) (fun r42 h22=>
 (ifP r42
 (strCut ⟨#[9,9,9,9,9,9,9,9,9,9,9,9,9,9,9,9,9,9,9,9,9,9,9,9,9,9,9,9,9,9,9,9,9,9,9,9,9,9,9,9,9,9,9,9,9,9,9,9,9,9,9,9,9,9,9,9,9,9,9,9,9,9,9,9]⟩ 0 (IntKind.i64.wrap (r3.2)) fun c43=>
 (K c43 h22))
 (k7 () h22))) h21)
 (k7 () h21)))) h8)
 (ifP (decide ((IntKind.i64.wrap (r3.2))≤64))
 (callP (za8 ⟨#[9,9,9,9,9,9,9,9,9,9,9,9,9,9,9,9,9,9,9,9,9,9,9,9,9,9,9,9,9,9,9,9,9,9,9,9,9,9,9,9,9,9,9,9,9,9,9,9,9,9,9,9,9,9,9,9,9,9,9,9,9,9,9,9]⟩ s) (fun r44 h23=>
 (ifP r44
 (strCut ⟨#[9,9,9,9,9,9,9,9,9,9,9,9,9,9,9,9,9,9,9,9,9,9,9,9,9,9,9,9,9,9,9,9,9,9,9,9,9,9,9,9,9,9,9,9,9,9,9,9,9,9,9,9,9,9,9,9,9,9,9,9,9,9,9,9]⟩ 0 (IntKind.i64.wrap (r3.2)) fun c45=>
 (K c45 h23))
 (k7 () h23))) h8)
 (k7 () h8))))))) h7)
 (ifP (decide ((IntKind.i64.wrap (r3.2))≤128))
 (callP (za8 ⟨#[45,45,45,45,45,45,45,45,45,45,45,45,45,45,45,45,45,45,45,45,45,45,45,45,45,45,45,45,45,45,45,45,45,45,45,45,45,45,45,45,45,45,45,45,45,45,45,45,45,45,45,45,45,45,45,45,45,45,45,45,45,45,45,45,45,45,45,45,45,45,45,45,45,45,45,45,45,45,45,45,45,45,45,45,45,45,45,45,45,45,45,45,45,45,45,45,45,45,45,45,45,45,45,45,45,45,45,45,45,45,45,45,45,45,45,45,45,45,45,45,45,45,45,45,45,45,45,45]⟩ s) (fun r46 h24=>
 (ifP r46
 (strCut ⟨#[45,45,45,45,45,45,45,45,45,45,45,45,45,45,45,45,45,45,45,45,45,45,45,45,45,45,45,45,45,45,45,45,45,45,45,45,45,45,45,45,45,45,45,45,45,45,45,45,45,45,45,45,45,45,45,45,45,45,45,45,45,45,45,45,45,45,45,45,45,45,45,45,45,45,45,45,45,45,45,45,45,45,45,45,45,45,45,45,45,45,45,45,45,45,45,45,45,45,45,45,45,45,45,45,45,45,45,45,45,45,45,45,45,45,45,45,45,45,45,45,45,45,45,45,45,45,45,45]⟩ 0 (IntKind.i64.wrap (r3.2)) fun c47=>
 (K c47 h24))
 (ifP (decide ((IntKind.i64.wrap (r3.2))≤64))
 (callP (za8 ⟨#[48,48,48,48,48,48,48,48,48,48,48,48,48,48,48,48,48,48,48,48,48,48,48,48,48,48,48,48,48,48,48,48,48,48,48,48,48,48,48,48,48,48,48,48,48,48,48,48,48,48,48,48,48,48,48,48,48,48,48,48,48,48,48,48]⟩ s) (fun r48 h25=>
 (ifP r48
 (strCut ⟨#[48,48,48,48,48,48,48,48,48,48,48,48,48,48,48,48,48,48,48,48,48,48,48,48,48,48,48,48,48,48,48,48,48,48,48,48,48,48,48,48,48,48,48,48,48,48,48,48,48,48,48,48,48,48,48,48,48,48,48,48,48,48,48,48]⟩ 0 (IntKind.i64.wrap (r3.2)) fun c49=>
 (K c49 h25))
 (ifP (decide ((IntKind.i64.wrap (r3.2))≤128))
 (callP (za8 ⟨#[61,61,61,61,61,61,61,61,61,61,61,61,61,61,61,61,61,61,61,61,61,61,61,61,61,61,61,61,61,61,61,61,61,61,61,61,61,61,61,61,61,61,61,61,61,61,61,61,61,61,61,61,61,61,61,61,61,61,61,61,61,61,61,61,61,61,61,61,61,61,61,61,61,61,61,61,61,61,61,61,61,61,61,61,61,61,61,61,61,61,61,61,61,61,61,61,61,61,61,61,61,61,61,61,61,61,61,61,61,61,61,61,61,61,61,61,61,61,61,61,61,61,61,61,61,61,61,61]⟩ s) (fun r50 h26=>
 (ifP r50
 (strCut ⟨#[61,61,61,61,61,61,61,61,61,61,61,61,61,61,61,61,61,61,61,61,61,61,61,61,61,61,61,61,61,61,61,61,61,61,61,61,61,61,61,61,61,61,61,61,61,61,61,61,61,61,61,61,61,61,61,61,61,61,61,61,61,61,61,61,61,61,61,61,61,61,61,61,61,61,61,61,61,61,61,61,61,61,61,61,61,61,61,61,61,61,61,61,61,61,61,61,61,61,61,61,61,61,61,61,61,61,61,61,61,61,61,61,61,61,61,61,61,61,61,61,61,61,61,61,61,61,61,61]⟩ 0 (IntKind.i64.wrap (r3.2)) fun c51=>
 (K c51 h26))
 (ifP (decide ((IntKind.i64.wrap (r3.2))≤64))
 (callP (za8 ⟨#[9,9,9,9,9,9,9,9,9,9,9,9,9,9,9,9,9,9,9,9,9,9,9,9,9,9,9,9,9,9,9,9,9,9,9,9,9,9,9,9,9,9,9,9,9,9,9,9,9,9,9,9,9,9,9,9,9,9,9,9,9,9,9,9]⟩ s) (fun r52 h27=>
 (ifP r52
 (strCut ⟨#[9,9,9,9,9,9,9,9,9,9,9,9,9,9,9,9,9,9,9,9,9,9,9,9,9,9,9,9,9,9,9,9,9,9,9,9,9,9,9,9,9,9,9,9,9,9,9,9,9,9,9,9,9,9,9,9,9,9,9,9,9,9,9,9]⟩ 0 (IntKind.i64.wrap (r3.2)) fun c53=>
 (K c53 h27))
 (k7 () h27))) h26)
 (k7 () h26)))) h25)
 (ifP (decide ((IntKind.i64.wrap (r3.2))≤64))
 (callP (za8 ⟨#[9,9,9,9,9,9,9,9,9,9,9,9,9,9,9,9,9,9,9,9,9,9,9,9,9,9,9,9,9,9,9,9,9,9,9,9,9,9,9,9,9,9,9,9,9,9,9,9,9,9,9,9,9,9,9,9,9,9,9,9,9,9,9,9]⟩ s) (fun r54 h28=>
 (ifP r54
 (strCut ⟨#[9,9,9,9,9,9,9,9,9,9,9,9,9,9,9,9,9,9,9,9,9,9,9,9,9,9,9,9,9,9,9,9,9,9,9,9,9,9,9,9,9,9,9,9,9,9,9,9,9,9,9,9,9,9,9,9,9,9,9,9,9,9,9,9]⟩ 0 (IntKind.i64.wrap (r3.2)) fun c55=>
 (K c55 h28))
 (k7 () h28))) h25)
 (k7 () h25))))) h24)
 (ifP (decide ((IntKind.i64.wrap (r3.2))≤128))
 (callP (za8 ⟨#[61,61,61,61,61,61,61,61,61,61,61,61,61,61,61,61,61,61,61,61,61,61,61,61,61,61,61,61,61,61,61,61,61,61,61,61,61,61,61,61,61,61,61,61,61,61,61,61,61,61,61,61,61,61,61,61,61,61,61,61,61,61,61,61,61,61,61,61,61,61,61,61,61,61,61,61,61,61,61,61,61,61,61,61,61,61,61,61,61,61,61,61,61,61,61,61,61,61,61,61,61,61,61,61,61,61,61,61,61,61,61,61,61,61,61,61,61,61,61,61,61,61,61,61,61,61,61,61]⟩ s) (fun r56 h29=>
 (ifP r56
 (strCut ⟨#[61,61,61,61,61,61,61,61,61,61,61,61,61,61,61,61,61,61,61,61,61,61,61,61,61,61,61,61,61,61,61,61,61,61,61,61,61,61,61,61,61,61,61,61,61,61,61,61,61,61,61,61,61,61,61,61,61,61,61,61,61,61,61,61,61,61,61,61,61,61,61,61,61,61,61,61,61,61,61,61,61,61,61,61,61,61,61,61,61,61,61,61,61,61,61,61,61,61,61,61,61,61,61,61,61,61,61,61,61,61,61,61,61,61,61,61,61,61,61,61,61,61,61,61,61,61,61,61]⟩ 0 (IntKind.i64.wrap (r3.2)) fun c57=>
 (K c57 h29))
 (ifP (decide ((IntKind.i64.wrap (r3.2))≤64))
 (callP (za8 ⟨#[9,9,9,9,9,9,9,9,9,9,9,9,9,9,9,9,9,9,9,9,9,9,9,9,9,9,9,9,9,9,9,9,9,9,9,9,9,9,9,9,9,9,9,9,9,9,9,9,9,9,9,9,9,9,9,9,9,9,9,9,9,9,9,9]⟩ s) (fun r58 h30=>
 (ifP r58
 (strCut ⟨#[9,9,9,9,9,9,9,9,9,9,9,9,9,9,9,9,9,9,9,9,9,9,9,9,9,9,9,9,9,9,9,9,9,9,9,9,9,9,9,9,9,9,9,9,9,9,9,9,9,9,9,9,9,9,9,9,9,9,9,9,9,9,9,9]⟩ 0 (IntKind.i64.wrap (r3.2)) fun c59=>
 (K c59 h30))
 (k7 () h30))) h29)
 (k7 () h29)))) h24)
 (ifP (decide ((IntKind.i64.wrap (r3.2))≤64))
 (callP (za8 ⟨#[9,9,9,9,9,9,9,9,9,9,9,9,9,9,9,9,9,9,9,9,9,9,9,9,9,9,9,9,9,9,9,9,9,9,9,9,9,9,9,9,9,9,9,9,9,9,9,9,9,9,9,9,9,9,9,9,9,9,9,9,9,9,9,9]⟩ s) (fun r60 h31=>
 (ifP r60
 (strCut ⟨#[9,9,9,9,9,9,9,9,9,9,9,9,9,9,9,9,9,9,9,9,9,9,9,9,9,9,9,9,9,9,9,9,9,9,9,9,9,9,9,9,9,9,9,9,9,9,9,9,9,9,9,9,9,9,9,9,9,9,9,9,9,9,9,9]⟩ 0 (IntKind.i64.wrap (r3.2)) fun c61=>
 (K c61 h31))
 (k7 () h31))) h24)
 (k7 () h24)))))) h7)
 (ifP (decide ((IntKind.i64.wrap (r3.2))≤64))
 (callP (za8 ⟨#[48,48,48,48,48,48,48,48,48,48,48,48,48,48,48,48,48,48,48,48,48,48,48,48,48,48,48,48,48,48,48,48,48,48,48,48,48,48,48,48,48,48,48,48,48,48,48,48,48,48,48,48,48,48,48,48,48,48,48,48,48,48,48,48]⟩ s) (fun r62 h32=>
 (ifP r62
 (strCut ⟨#[48,48,48,48,48,48,48,48,48,48,48,48,48,48,48,48,48,48,48,48,48,48,48,48,48,48,48,48,48,48,48,48,48,48,48,48,48,48,48,48,48,48,48,48,48,48,48,48,48,48,48,48,48,48,48,48,48,48,48,48,48,48,48,48]⟩ 0 (IntKind.i64.wrap (r3.2)) fun c63=>
 (K c63 h32))
 (ifP (decide ((IntKind.i64.wrap (r3.2))≤128))
 (callP (za8 ⟨#[61,61,61,61,61,61,61,61,61,61,61,61,61,61,61,61,61,61,61,61,61,61,61,61,61,61,61,61,61,61,61,61,61,61,61,61,61,61,61,61,61,61,61,61,61,61,61,61,61,61,61,61,61,61,61,61,61,61,61,61,61,61,61,61,61,61,61,61,61,61,61,61,61,61,61,61,61,61,61,61,61,61,61,61,61,61,61,61,61,61,61,61,61,61,61,61,61,61,61,61,61,61,61,61,61,61,61,61,61,61,61,61,61,61,61,61,61,61,61,61,61,61,61,61,61,61,61,61]⟩ s) (fun r64 h33=>
 (ifP r64
 (strCut ⟨#[61,61,61,61,61,61,61,61,61,61,61,61,61,61,61,61,61,61,61,61,61,61,61,61,61,61,61,61,61,61,61,61,61,61,61,61,61,61,61,61,61,61,61,61,61,61,61,61,61,61,61,61,61,61,61,61,61,61,61,61,61,61,61,61,61,61,61,61,61,61,61,61,61,61,61,61,61,61,61,61,61,61,61,61,61,61,61,61,61,61,61,61,61,61,61,61,61,61,61,61,61,61,61,61,61,61,61,61,61,61,61,61,61,61,61,61,61,61,61,61,61,61,61,61,61,61,61,61]⟩ 0 (IntKind.i64.wrap (r3.2)) fun c65=>
 (K c65 h33))
 (ifP (decide ((IntKind.i64.wrap (r3.2))≤64))
 (callP (za8 ⟨#[9,9,9,9,9,9,9,9,9,9,9,9,9,9,9,9,9,9,9,9,9,9,9,9,9,9,9,9,9,9,9,9,9,9,9,9,9,9,9,9,9,9,9,9,9,9,9,9,9,9,9,9,9,9,9,9,9,9,9,9,9,9,9,9]⟩ s) (fun r66 h34=>
 (ifP r66
 (strCut ⟨#[9,9,9,9,9,9,9,9,9,9,9,9,9,9,9,9,9,9,9,9,9,9,9,9,9,9,9,9,9,9,9,9,9,9,9,9,9,9,9,9,9,9,9,9,9,9,9,9,9,9,9,9,9,9,9,9,9,9,9,9,9,9,9,9]⟩ 0 (IntKind.i64.wrap (r3.2)) fun c67=>
 (K c67 h34))
 (k7 () h34))) h33)
 (k7 () h33)))) h32)
 (ifP (decide ((IntKind.i64.wrap (r3.2))≤64))
 (callP (za8 ⟨#[9,9,9,9,9,9,9,9,9,9,9,9,9,9,9,9,9,9,9,9,9,9,9,9,9,9,9,9,9,9,9,9,9,9,9,9,9,9,9,9,9,9,9,9,9,9,9,9,9,9,9,9,9,9,9,9,9,9,9,9,9,9,9,9]⟩ s) (fun r68 h35=>
 (ifP r68
 (strCut ⟨#[9,9,9,9,9,9,9,9,9,9,9,9,9,9,9,9,9,9,9,9,9,9,9,9,9,9,9,9,9,9,9,9,9,9,9,9,9,9,9,9,9,9,9,9,9,9,9,9,9,9,9,9,9,9,9,9,9,9,9,9,9,9,9,9]⟩ 0 (IntKind.i64.wrap (r3.2)) fun c69=>
 (K c69 h35))
 (k7 () h35))) h32)
 (k7 () h32))))) h7)
 (ifP (decide ((IntKind.i64.wrap (r3.2))≤128))
 (callP (za8 ⟨#[61,61,61,61,61,61,61,61,61,61,61,61,61,61,61,61,61,61,61,61,61,61,61,61,61,61,61,61,61,61,61,61,61,61,61,61,61,61,61,61,61,61,61,61,61,61,61,61,61,61,61,61,61,61,61,61,61,61,61,61,61,61,61,61,61,61,61,61,61,61,61,61,61,61,61,61,61,61,61,61,61,61,61,61,61,61,61,61,61,61,61,61,61,61,61,61,61,61,61,61,61,61,61,61,61,61,61,61,61,61,61,61,61,61,61,61,61,61,61,61,61,61,61,61,61,61,61,61]⟩ s) (fun r70 h36=>
 (ifP r70
 (strCut ⟨#[61,61,61,61,61,61,61,61,61,61,61,61,61,61,61,61,61,61,61,61,61,61,61,61,61,61,61,61,61,61,61,61,61,61,61,61,61,61,61,61,61,61,61,61,61,61,61,61,61,61,61,61,61,61,61,61,61,61,61,61,61,61,61,61,61,61,61,61,61,61,61,61,61,61,61,61,61,61,61,61,61,61,61,61,61,61,61,61,61,61,61,61,61,61,61,61,61,61,61,61,61,61,61,61,61,61,61,61,61,61,61,61,61,61,61,61,61,61,61,61,61,61,61,61,61,61,61,61]⟩ 0 (IntKind.i64.wrap (r3.2)) fun c71=>
 (K c71 h36))
 (ifP (decide ((IntKind.i64.wrap (r3.2))≤64))
 (callP (za8 ⟨#[9,9,9,9,9,9,9,9,9,9,9,9,9,9,9,9,9,9,9,9,9,9,9,9,9,9,9,9,9,9,9,9,9,9,9,9,9,9,9,9,9,9,9,9,9,9,9,9,9,9,9,9,9,9,9,9,9,9,9,9,9,9,9,9]⟩ s) (fun r72 h37=>
 (ifP r72
 (strCut ⟨#[9,9,9,9,9,9,9,9,9,9,9,9,9,9,9,9,9,9,9,9,9,9,9,9,9,9,9,9,9,9,9,9,9,9,9,9,9,9,9,9,9,9,9,9,9,9,9,9,9,9,9,9,9,9,9,9,9,9,9,9,9,9,9,9]⟩ 0 (IntKind.i64.wrap (r3.2)) fun c73=>
 (K c73 h37))
 (k7 () h37))) h36)
 (k7 () h36)))) h7)
 (ifP (decide ((IntKind.i64.wrap (r3.2))≤64))
 (callP (za8 ⟨#[9,9,9,9,9,9,9,9,9,9,9,9,9,9,9,9,9,9,9,9,9,9,9,9,9,9,9,9,9,9,9,9,9,9,9,9,9,9,9,9,9,9,9,9,9,9,9,9,9,9,9,9,9,9,9,9,9,9,9,9,9,9,9,9]⟩ s) (fun r74 h38=>
 (ifP r74
 (strCut ⟨#[9,9,9,9,9,9,9,9,9,9,9,9,9,9,9,9,9,9,9,9,9,9,9,9,9,9,9,9,9,9,9,9,9,9,9,9,9,9,9,9,9,9,9,9,9,9,9,9,9,9,9,9,9,9,9,9,9,9,9,9,9,9,9,9]⟩ 0 (IntKind.i64.wrap (r3.2)) fun c75=>
 (K c75 h38))
 (k7 () h38))) h7)
 (k7 () h7))))))
 (k7 () h7)))
 (fun k13=>
 (ifP (c11==32)
 (k13 ((c11==32),()) h3)
 (ifP (c11==45)
 (k13 ((c11==45),()) h3)
 (ifP (c11==48)
 (k13 ((c11==48),()) h3)
 (ifP (c11==61)
 (k13 ((c11==61),()) h3)
 (k13 ((c11==9),()) h3))))))))))))
 (fun k5=>
 (ifP (decide (r3.1>0))
 False
 (ifP (decide (r3.2>9223372036854775807))
 False
 (k5 () h2)))))) h1))
 (fun k2=>
 (ifP (decide (count<0))
 False
 (k2 () h))))))
def zio (a:TInt) (K:ByteArray→Hp→Prop) (h:Hp):Prop:=
 (callP (zaf a.mag) (fun r1 h1=>
 (callP (zb4 r1) (fun r2 h2=>
 (ifP ((r2.len:Int)==0)
 (K ⟨#[48]⟩ h2)
 (loopP (S:=Sl×(Sl×Unit)×Unit) (fun s3 k4 h3=>
 (ifP (decide ((s3.1.len:Int)>0))
 (loopP (S:=Int×Int×Unit) (fun s5 k6 h4=>
 (ifP (decide (s5.2.1≥0))
 (0≤(32:Int) ∧
 (idxP s3.1 s5.2.1 1 fun a7=>
 (ldL (.int .u32) a7 (fun x8=>
 ((1000000000:Int)≠0 ∧
 (idxP s3.1 s5.2.1 1 fun a9=>
 (stP a9 [.int .u32 (IntKind.u32.wrap ((IntKind.u64.wrap (((ibits .or .u64 (IntKind.u64.wrap (s5.1*2 ^ (min (32:Int).toNat IntKind.u64.bits))) (IntKind.u64.wrap (x8))):Int).tdiv 1000000000))))] (fun h5=>
 ((1000000000:Int)≠0 ∧
 (k6 (((ibits .or .u64 (IntKind.u64.wrap (s5.1*2 ^ (min (32:Int).toNat IntKind.u64.bits))) (IntKind.u64.wrap (x8))):Int).tmod 1000000000,(IntKind.i64.wrap (s5.2.1-1)),()) h5))) h4)))) h4)))
 (callP (zaf s3.1) (fun r10 h6=>
 (appP 1 4 [.int .u32 0] s3.2.1.1 1 [.int .u32 (IntKind.u32.wrap (s5.1))] (fun w11 h7=>
 (k4 (r10,(w11,()),()) h7)) h6)) h4)))
 (0,(IntKind.i64.wrap ((s3.1.len:Int)-1)),()) h3)
 (newT 239 [.pointer none,.slice nilS.a nilS.len nilS.cap] (fun p12 h8=>
 (joinP (S:=Unit) (fun s13 h9=>
 (callP (zbs s3.2.1.1) (fun r15 h10=>
 (backP (S:=Unit) (.leaf (.int .u32)) r15 (fun i16 v17 s18 k19 h11=>
 (callP (zem (IntKind.u64.wrap (v17)) 10) (fun r21 h13=>
 (joinP (S:=Unit) (fun s22 h14=>
 (callM (zb1 (some p12) r21) (fun r24 h15=>
 (k19 () h15)) h14))
 (fun k23=>
 (ifP (decide (i16<(IntKind.i64.wrap ((s3.2.1.1.len:Int)-1))))
 (callP (zfb ⟨#[48]⟩ (IntKind.i64.wrap (9-((r21:ByteArray).size:Int)))) (fun r25 h16=>
 (callM (zb1 (some p12) r25) (fun r26 h17=>
 (k23 () h17)) h16)) h13)
 (k23 () h13))))) h11))
 () (fun s20 h12=>
 (callM (zeb (some p12)) (fun r27 h18=>
 (K r27 h18)) h12)) h10)) h9))
 (fun k14=>
 (ifP a.neg
 (callM (zhu (some p12) 45) (fun r28 h19=>
 (k14 () h19)) h8)
 (k14 () h8))))) h3)))
 (r2,(nilS,()),()) h2))) h1)) h)
def zhn (a:TRat) (K:(ByteArray×Bool)→Hp→Prop) (h:Hp):Prop:=
 (joinP (S:=Unit) (fun s1 h1=>
 (callP (zh0 10) (fun r3 h2=>
 (callP (zen 1) (fun r4 h3=>
 (loopP (S:=(Bool×Sl×Bool×Sl×Unit)×Int×Unit) (fun s5 k6 h4=>
 (ifP (decide (s5.2.1<40))
 (callP (zl8 (⟨s5.1.2.2.1,s5.1.2.2.2.1⟩:TInt) r4) (fun r7 h5=>
 (ifP (r7 != 0)
 (callP (zk7 (⟨(⟨s5.1.1,s5.1.2.1⟩:TInt),(⟨s5.1.2.2.1,s5.1.2.2.2.1⟩:TInt)⟩:TRat) r3) (fun r8 h6=>
 (k6 ((r8.num.neg,r8.num.mag,r8.den.neg,r8.den.mag,()),(IntKind.i64.wrap (s5.2.1+1)),()) h6)) h5)
 (callP (zio (⟨s5.1.1,s5.1.2.1⟩:TInt)) (fun r9 h7=>
 (joinP (S:=ByteArray×Unit) (fun s10 h8=>
 (K (s10.1,decide (((s10.1:ByteArray).size:Int)≤40)) h8))
 (fun k11=>
 (ifP (decide (s5.2.1>0))
 (joinP (S:=ByteArray×Unit) (fun s12 h9=>
 (strCut s12.1 0 (IntKind.i64.wrap (((s12.1:ByteArray).size:Int)-s5.2.1)) fun c14=>
 ((((c14:ByteArray).size+(⟨#[46]⟩:ByteArray).size:Nat):Int)≤9223372036854775807 ∧
 (strCut s12.1 (IntKind.i64.wrap (((s12.1:ByteArray).size:Int)-s5.2.1)) ((s12.1:ByteArray).size:Int) fun c15=>
 ((((((c14:ByteArray)++(⟨#[46]⟩:ByteArray)):ByteArray).size+(c15:ByteArray).size:Nat):Int)≤9223372036854775807 ∧
 (k11 (((((c14:ByteArray)++(⟨#[46]⟩:ByteArray)):ByteArray)++(c15:ByteArray)),()) h9))))))
 (fun k13=>
 (ifP (decide ((IntKind.i64.wrap ((IntKind.i64.wrap (s5.2.1+1))-((r9:ByteArray).size:Int)))>0))
 (callP (zfb ⟨#[48]⟩ (IntKind.i64.wrap ((IntKind.i64.wrap (s5.2.1+1))-((r9:ByteArray).size:Int)))) (fun r16 h10=>
 ((((r16:ByteArray).size+(r9:ByteArray).size:Nat):Int)≤9223372036854775807 ∧
 (k13 (((r16:ByteArray)++(r9:ByteArray)),()) h10))) h7)
 (k13 (r9,()) h7))))
 (k11 (r9,()) h7))))) h5))) h4)
 (K (emptyS,false) h4)))
 ((a.num.neg,a.num.mag,a.den.neg,a.den.mag,()),0,()) h3)) h2)) h1))
 (fun k2=>
 (callP (zda a) (fun r17 h11=>
 (ifP (!r17)
 (K (emptyS,false) h11)
 (callP (zfn a) (fun r18 h12=>
 (ifP (decide (r18<0))
 (K (emptyS,false) h12)
 (k2 () h12))) h11))) h)))
def zi0 (a:TRat) (K:Bool→Hp→Prop) (h:Hp):Prop:=
 (ifP ((a.num.mag.len:Int)==0)
 (ifP ((a.den.mag.len:Int)==0)
 (ifP (!a.num.neg)
 (K (!a.den.neg) h)
 (K false h))
 (K false h))
 (K false h))
def zgu (Q_formula_formed:TExpr→(Bool→Hp→Prop)→Hp→Prop) (x:TExpr) (K:Bool→Hp→Prop) (h:Hp):Prop:=
 (callP (Q_formula_formed x) (fun r1 h1=>
 (K (!r1) h1)) h)
def zbr (Q_formula_formed:TExpr→(Bool→Hp→Prop)→Hp→Prop) (s:Sl) (K:Int→Hp→Prop) (h:Hp):Prop:=
 (loopP (S:=Int×Unit) (fun s1 k2 h1=>
 (ifP (decide (s1.1<(s.len:Int)))
 (idxP s s1.1 7 fun a3=>
 (ldL (.int .i64) (a3.add 0) (fun x4_0=>
 (ldL (.bool) (a3.add 1) (fun x4_1=>
 (ldL (.sl) (a3.add 2) (fun x4_2=>
 (ldL (.bool) (a3.add 3) (fun x4_3=>
 (ldL (.sl) (a3.add 4) (fun x4_4=>
 (ldL (.str) (a3.add 5) (fun x4_5=>
 (ldL (.sl) (a3.add 6) (fun x4_6=>
 (callP ((zgu Q_formula_formed) (⟨x4_0,(⟨(⟨x4_1,x4_2⟩:TInt),(⟨x4_3,x4_4⟩:TInt)⟩:TRat),x4_5,x4_6⟩:TExpr)) (fun r5 h2=>
 (ifP r5
 (K s1.1 h2)
 (k2 ((IntKind.i64.wrap (s1.1+1)),()) h2))) h1)) h1)) h1)) h1)) h1)) h1)) h1)) h1))
 (K (-1) h1)))
 (0,()) h)
def zbj (Q_formula_formed:TExpr→(Bool→Hp→Prop)→Hp→Prop) (s:Sl) (K:Bool→Hp→Prop) (h:Hp):Prop:=
 (callP ((zbr Q_formula_formed) s) (fun r1 h1=>
 (K (decide (r1≥0)) h1)) h)
def zcn:Nat→TExpr→(Bool→Hp→Prop)→Hp→Prop
 | 0,_,_,_=>False
 | fuel+1,e,K,h=>
 (joinP (S:=Unit) (fun s1 h1=>
 (ifP (e.op==1)
 (callP (zhn e.value) (fun r3 h2=>
 (ifP r3.2
 (ifP ((e.name:ByteArray).toList==(emptyS:ByteArray).toList)
 (K true h2)
 (callP (zgd e.name) (fun r4 h3=>
 (K r4 h3)) h2))
 (K false h2))) h1)
 (ifP (e.op==2)
 (callP (zi0 e.value) (fun r5 h4=>
 (ifP r5
 (callP (zgd e.name) (fun r6 h5=>
 (K r6 h5)) h4)
 (K false h4))) h1)
 (callP (zi0 e.value) (fun r7 h6=>
 (ifP r7
 (ifP ((e.name:ByteArray).toList==(emptyS:ByteArray).toList)
 (callP ((zbj (zcn fuel)) e.args) (fun r8 h7=>
 (K (!r8) h7)) h6)
 (K false h6))
 (K false h6))) h1))))
 (fun k2=>
 (ifP (decide (e.op<1))
 (K false h)
 (ifP (decide (e.op>7))
 (K false h)
 (idxC e.op 8
 (ldL (.int .i64) ((⟨2,0,none⟩:Addr).add ((e.op:Int).toNat*1)) (fun x9=>
 (ifP ((e.args.len:Int) != x9)
 (K false h)
 (k2 () h))) h))))))
def zim (e:TExpr) (K:Bool→Hp→Prop) (h:Hp):Prop:=∃fuel,zcn fuel e K h
def zdy:Nat→TExpr→(Int→Hp→Prop)→Hp→Prop
 | 0,_,_,_=>False
 | fuel+1,e,K,h=>
 (loopP (S:=Int×Int×Unit) (fun s1 k2 h1=>
 (ifP (decide (s1.2.1<(e.args.len:Int)))
 (idxP e.args s1.2.1 7 fun a3=>
 (ldL (.int .i64) (a3.add 0) (fun x4_0=>
 (ldL (.bool) (a3.add 1) (fun x4_1=>
 (ldL (.sl) (a3.add 2) (fun x4_2=>
 (ldL (.bool) (a3.add 3) (fun x4_3=>
 (ldL (.sl) (a3.add 4) (fun x4_4=>
 (ldL (.str) (a3.add 5) (fun x4_5=>
 (ldL (.sl) (a3.add 6) (fun x4_6=>
 (callP ((zdy fuel) (⟨x4_0,(⟨(⟨x4_1,x4_2⟩:TInt),(⟨x4_3,x4_4⟩:TInt)⟩:TRat),x4_5,x4_6⟩:TExpr)) (fun r5 h2=>
 (k2 (maxI s1.1 r5,(IntKind.i64.wrap (s1.2.1+1)),()) h2)) h1)) h1)) h1)) h1)) h1)) h1)) h1)) h1))
 (K (IntKind.i64.wrap (s1.1+1)) h1)))
 (0,0,()) h)
def zj6 (e:TExpr) (K:Int→Hp→Prop) (h:Hp):Prop:=∃fuel,zdy fuel e K h
def zj7 (e:TExpr) (K:Int→Hp→Prop) (h:Hp):Prop:=
 (callP (zim e) (fun r1 h1=>
 (ifP (!r1)
 (K 1 h1)
 (callP (zj6 e) (fun r2 h2=>
 (ifP (decide (r2>40))
 (K 3 h2)
 (K 0 h2))) h1))) h)
def zft (e:TExpr) (K:Bool→Hp→Prop) (h:Hp):Prop:=
 (callP (zj7 e) (fun r1 h1=>
 (K (r1 != 0) h1)) h)
def zbo (s:Sl) (K:Int→Hp→Prop) (h:Hp):Prop:=
 (loopP (S:=Int×Unit) (fun s1 k2 h1=>
 (ifP (decide (s1.1<(s.len:Int)))
 (idxP s s1.1 7 fun a3=>
 (ldL (.int .i64) (a3.add 0) (fun x4_0=>
 (ldL (.bool) (a3.add 1) (fun x4_1=>
 (ldL (.sl) (a3.add 2) (fun x4_2=>
 (ldL (.bool) (a3.add 3) (fun x4_3=>
 (ldL (.sl) (a3.add 4) (fun x4_4=>
 (ldL (.str) (a3.add 5) (fun x4_5=>
 (ldL (.sl) (a3.add 6) (fun x4_6=>
 (callP (zft (⟨x4_0,(⟨(⟨x4_1,x4_2⟩:TInt),(⟨x4_3,x4_4⟩:TInt)⟩:TRat),x4_5,x4_6⟩:TExpr)) (fun r5 h2=>
 (ifP r5
 (K s1.1 h2)
 (k2 ((IntKind.i64.wrap (s1.1+1)),()) h2))) h1)) h1)) h1)) h1)) h1)) h1)) h1)) h1))
 (K (-1) h1)))
 (0,()) h)
def zay (s:Sl) (K:Bool→Hp→Prop) (h:Hp):Prop:=
 (callP (zbo s) (fun r1 h1=>
 (K (decide (r1≥0)) h1)) h)
def zgr (l:Sl) (K:Bool→Hp→Prop) (h:Hp):Prop:=
 (idxP l 0 1 fun a1=>
 (ldL (.int .i64) a1 (fun x2=>
 (idxP l 1 1 fun a3=>
 (ldL (.int .i64) a3 (fun x4=>
 (idxP l 2 1 fun a5=>
 (ldL (.int .i64) a5 (fun x6=>
 (idxP l 3 1 fun a7=>
 (ldL (.int .i64) a7 (fun x8=>
 (ifP (x2 != x4)
 (ifP (x6 != x8)
 (ifP (x2==x6)
 (ifP (!(x4==x8))
 (ifP (x2==x8)
 (K (!(x4==x6)) h)
 (K (!false) h))
 (K false h))
 (ifP (x2==x8)
 (K (!(x4==x6)) h)
 (K (!false) h)))
 (K false h))
 (K false h))) h))) h))) h))) h))
def zdn (s:Sl) (v:Int) (K:Int→Hp→Prop) (h:Hp):Prop:=
 (loopP (S:=Int×Unit) (fun s1 k2 h1=>
 (ifP (decide (s1.1<(s.len:Int)))
 (idxP s s1.1 1 fun a3=>
 (ldL (.int .i64) a3 (fun x4=>
 (ifP (v==x4)
 (K s1.1 h1)
 (k2 ((IntKind.i64.wrap (s1.1+1)),()) h1))) h1))
 (K (-1) h1)))
 (0,()) h)
def zbd (s:Sl) (v:Int) (K:Bool→Hp→Prop) (h:Hp):Prop:=
 (callP (zdn s v) (fun r1 h1=>
 (K (decide (r1≥0)) h1)) h)
def zde (l:Sl) (K:Bool→Hp→Prop) (h:Hp):Prop:=
 (loopP (S:=Int×Unit) (fun s1 k2 h1=>
 (ifP (decide (s1.1<(l.len:Int)))
 (idxP l s1.1 1 fun a3=>
 (ldL (.int .i64) a3 (fun x4=>
 (slP l 0 s1.1 1 fun c5=>
 (callP (zbd c5 x4) (fun r6 h2=>
 (ifP r6
 (K false h2)
 (k2 ((IntKind.i64.wrap (s1.1+1)),()) h2))) h1))) h1))
 (K true h1)))
 (0,()) h)
def zhk (i:Int) (v0:(Option Addr)) (K:Bool→Hp→Prop) (h:Hp):Prop:=
 (ifP (decide (i<0))
 (K true h)
 (ptrK v0 fun p1=>
 (ldL (.int .i64) p1 (fun x2=>
 (K (decide (i≥x2)) h)) h)))
def zca (s:Sl) (f1:(Option Addr×Unit)) (K:Int→Hp→Prop) (h:Hp):Prop:=
 (loopP (S:=Int×Unit) (fun s1 k2 h1=>
 (ifP (decide (s1.1<(s.len:Int)))
 (idxP s s1.1 1 fun a3=>
 (ldL (.int .i64) a3 (fun x4=>
 (callP (zhk x4 f1.1) (fun r5 h2=>
 (ifP r5
 (K s1.1 h2)
 (k2 ((IntKind.i64.wrap (s1.1+1)),()) h2))) h1)) h1))
 (K (-1) h1)))
 (0,()) h)
def zc0 (s:Sl) (f1:(Option Addr×Unit)) (K:Bool→Hp→Prop) (h:Hp):Prop:=
 (callP (zca s (f1.1,())) (fun r1 h1=>
 (K (decide (r1≥0)) h1)) h)
def zf0 (l:Sl) (n:Int) (most:Int) (K:Bool→Hp→Prop) (h:Hp):Prop:=
 (newP [.int .i64 most] (fun p1 h1=>
 (ifP ((l.len:Int)==n)
 (callP (zc0 l ((some p1),())) (fun r2 h2=>
 (K (!r2) h2)) h1)
 (K false h1))) h)
def zgq (c:TConstraint) (points:Int) (circles:Int) (K:Bool→Hp→Prop) (h:Hp):Prop:=
 (callP (zee c.kind) (fun r1 h1=>
 (joinP (S:=Unit) (fun s2 h2=>
 (callP (zay c.values) (fun r4 h3=>
 (ifP r4
 (K false h3)
 (joinP (S:=Unit) (fun s5 h4=>
 (joinP (S:=Bool×Unit) (fun s7 h5=>
 (ifP s7.1
 (callP (zgr c.points) (fun r9 h6=>
 (K r9 h6)) h5)
 (callP (zde c.points) (fun r10 h7=>
 (ifP r10
 (callP (zde c.circles) (fun r11 h8=>
 (K r11 h8)) h7)
 (K false h7))) h5)))
 (fun k8=>
 (ifP (c.kind==5)
 (k8 ((c.kind==5),()) h4)
 (ifP (c.kind==6)
 (k8 ((c.kind==6),()) h4)
 (ifP (c.kind==7)
 (k8 ((c.kind==7),()) h4)
 (k8 ((c.kind==8),()) h4)))))))
 (fun k6=>
 (ifP r1.1.side
 (ifP (c.side != 1)
 (ifP (c.side != (-1))
 (K false h3)
 (ifP (!r1.1.side)
 (ifP (c.side != 0)
 (K false h3)
 (k6 () h3))
 (k6 () h3)))
 (ifP (!r1.1.side)
 (ifP (c.side != 0)
 (K false h3)
 (k6 () h3))
 (k6 () h3)))
 (ifP (!r1.1.side)
 (ifP (c.side != 0)
 (K false h3)
 (k6 () h3))
 (k6 () h3))))))) h2))
 (fun k3=>
 (ifP (!r1.2)
 (K false h1)
 (callP (zf0 c.points r1.1.points points) (fun r12 h9=>
 (ifP (!r12)
 (K false h9)
 (callP (zf0 c.circles r1.1.circles circles) (fun r13 h10=>
 (ifP (!r13)
 (K false h10)
 (ifP ((c.values.len:Int) != r1.1.values)
 (K false h10)
 (k3 () h10)))) h9))) h1))))) h)
def zl3 (c:TConstraint) (v0:(Option Addr)) (v1:(Option Addr)) (K:Bool→Hp→Prop) (h:Hp):Prop:=
 (ptrK v0 fun p1=>
 (ldL (.int .i64) p1 (fun x2=>
 (ptrK v1 fun p3=>
 (ldL (.int .i64) p3 (fun x4=>
 (callP (zgq c x2 x4) (fun r5 h1=>
 (K r5 h1)) h)) h))) h))
def zcf (x:TConstraint) (v0:(Option Addr)) (K:Bool→Hp→Prop) (h:Hp):Prop:=
 (ptrK v0 fun p1=>
 (ldL (.val) p1 (fun x2=>
 ∃c3:Option Addr,∃c4:Option Addr,(x2=.func (.func 130) #[] #[.pointer c3,.pointer c4] ∧
 (callP (zl3 x c3 c4) (fun r5 h1=>
 (K (!r5) h1)) h))) h))
def zaj (s:Sl) (f1:(Option Addr×Unit)) (K:Int→Hp→Prop) (h:Hp):Prop:=
 (loopP (S:=Int×Unit) (fun s1 k2 h1=>
 (ifP (decide (s1.1<(s.len:Int)))
 (idxP s s1.1 5 fun a3=>
 (ldL (.int .i64) (a3.add 0) (fun x4_0=>
 (ldL (.sl) (a3.add 1) (fun x4_1=>
 (ldL (.sl) (a3.add 2) (fun x4_2=>
 (ldL (.sl) (a3.add 3) (fun x4_3=>
 (ldL (.int .i64) (a3.add 4) (fun x4_4=>
 (callP (zcf (⟨x4_0,x4_1,x4_2,x4_3,x4_4⟩:TConstraint) f1.1) (fun r5 h2=>
 (ifP r5
 (K s1.1 h2)
 (k2 ((IntKind.i64.wrap (s1.1+1)),()) h2))) h1)) h1)) h1)) h1)) h1)) h1))
 (K (-1) h1)))
 (0,()) h)
def zai (s:Sl) (f1:(Option Addr×Unit)) (K:Bool→Hp→Prop) (h:Hp):Prop:=
 (callP (zaj s (f1.1,())) (fun r1 h1=>
 (K (decide (r1≥0)) h1)) h)
def zbu (l:Sl) (f1:(Option Addr×Option Addr×Unit)) (K:Bool→Hp→Prop) (h:Hp):Prop:=
 (newP [.func (.func 130) #[] #[.pointer f1.1,.pointer f1.2.1]] (fun p1 h1=>
 (callP (zai l ((some p1),())) (fun r2 h2=>
 (K (!r2) h2)) h1)) h)
def zel (s:TSketch) (K:Int→Hp→Prop) (h:Hp):Prop:=
 (newP [.slice s.points.a s.points.len s.points.cap,.slice s.circles.a s.circles.len s.circles.cap,.slice s.segments.a s.segments.len s.segments.cap,.slice s.arcs.a s.arcs.len s.arcs.cap,.slice s.chains.a s.chains.len s.chains.cap,.slice s.constraints.a s.constraints.len s.constraints.cap] (fun p1 h1=>
 (ldL (.sl) (p1.add 0) (fun x2_0=>
 (ldL (.sl) (p1.add 1) (fun x2_1=>
 (ldL (.sl) (p1.add 2) (fun x2_2=>
 (ldL (.sl) (p1.add 3) (fun x2_3=>
 (ldL (.sl) (p1.add 4) (fun x2_4=>
 (ldL (.sl) (p1.add 5) (fun x2_5=>
 (callP (ziw (⟨x2_0,x2_1,x2_2,x2_3,x2_4,x2_5⟩:TSketch)) (fun r3 h2=>
 (ifP r3
 (K 3 h2)
 (ldL (.sl) (p1.add 0) (fun x4=>
 (ldL (.sl) (p1.add 1) (fun x5=>
 (newP [.int .i64 (x4.len:Int)] (fun p6 h3=>
 (newP [.int .i64 (x5.len:Int)] (fun p7 h4=>
 (joinP (S:=Bool×Unit) (fun s8 h5=>
 (ifP (!s8.1)
 (K 1 h5)
 (K 0 h5)))
 (fun k9=>
 (ldL (.sl) (p1.add 0) (fun x10=>
 (callP (zcc x10) (fun r11 h6=>
 (ifP r11
 (ldL (.sl) (p1.add 1) (fun x12=>
 (callP (zcd x12 ((some p6),())) (fun r13 h7=>
 (ifP r13
 (ldL (.sl) (p1.add 2) (fun x14=>
 (callP (zc2 x14 ((some p6),())) (fun r15 h8=>
 (ifP r15
 (ldL (.sl) (p1.add 3) (fun x16=>
 (callP (zcg x16 ((some p1),())) (fun r17 h9=>
 (ifP r17
 (ldL (.sl) (p1.add 4) (fun x18=>
 (callP (zcb x18 ((some p1),())) (fun r19 h10=>
 (ifP r19
 (ldL (.sl) (p1.add 5) (fun x20=>
 (callP (zbu x20 ((some p6),(some p7),())) (fun r21 h11=>
 (k9 (r21,()) h11)) h10)) h10)
 (k9 (false,()) h10))) h9)) h9)
 (k9 (false,()) h9))) h8)) h8)
 (k9 (false,()) h8))) h7)) h7)
 (k9 (false,()) h7))) h6)) h6)
 (k9 (false,()) h6))) h4)) h4)))) h3)) h2)) h2)) h2))) h1)) h1)) h1)) h1)) h1)) h1)) h1)) h)
def zdm (s1:Sl) (s2:Sl) (K:Bool→Hp→Prop) (h:Hp):Prop:=
 (ifP ((s1.len:Int) != (s2.len:Int))
 (K false h)
 (loopP (S:=Int×Unit) (fun s3 k4 h1=>
 (ifP (decide (s3.1<(s1.len:Int)))
 (idxP s1 s3.1 1 fun a5=>
 (ldL (.int .i64) a5 (fun x6=>
 (idxP s2 s3.1 1 fun a7=>
 (ldL (.int .i64) a7 (fun x8=>
 (ifP (x6 != x8)
 (K false h1)
 (k4 ((IntKind.i64.wrap (s3.1+1)),()) h1))) h1))) h1))
 (K true h1)))
 (0,()) h))
def zha (s1:Sl) (s2:Sl) (K:Bool→Hp→Prop) (h:Hp):Prop:=
 (ifP ((s1.len:Int) != (s2.len:Int))
 (K false h)
 (loopP (S:=Int×Unit) (fun s3 k4 h1=>
 (ifP (decide (s3.1<(s1.len:Int)))
 (idxP s1 s3.1 1 fun a5=>
 (ldL (.int .u32) a5 (fun x6=>
 (idxP s2 s3.1 1 fun a7=>
 (ldL (.int .u32) a7 (fun x8=>
 (ifP (x6 != x8)
 (K false h1)
 (k4 ((IntKind.i64.wrap (s3.1+1)),()) h1))) h1))) h1))
 (K true h1)))
 (0,()) h))
def zjh (a:TInt) (b:TInt) (K:Bool→Hp→Prop) (h:Hp):Prop:=
 (ifP (a.neg==b.neg)
 (callP (zha a.mag b.mag) (fun r1 h1=>
 (K r1 h1)) h)
 (K false h))
def zpy (Q_slices_EqualFunc_api_Expr_api_Expr_api_Expr_api_Expr_formula_Equal:Sl→Sl→(Bool→Hp→Prop)→Hp→Prop) (a:TExpr) (b:TExpr) (K:Bool→Hp→Prop) (h:Hp):Prop:=
 (ifP (a.op==b.op)
 (ifP ((a.name:ByteArray).toList==(b.name:ByteArray).toList)
 (callP (zjh a.value.num b.value.num) (fun r1 h1=>
 (ifP r1
 (callP (zjh a.value.den b.value.den) (fun r2 h2=>
 (ifP r2
 (callP (Q_slices_EqualFunc_api_Expr_api_Expr_api_Expr_api_Expr_formula_Equal a.args b.args) (fun r3 h3=>
 (K r3 h3)) h2)
 (K false h2))) h1)
 (K false h1))) h)
 (K false h))
 (K false h))
def za9:Nat→Sl→Sl→(Bool→Hp→Prop)→Hp→Prop
 | 0,_,_,_,_=>False
 | fuel+1,s1,s2,K,h=>
 (ifP ((s1.len:Int) != (s2.len:Int))
 (K false h)
 (loopP (S:=Int×Unit) (fun s3 k4 h1=>
 (ifP (decide (s3.1<(s1.len:Int)))
 (idxP s1 s3.1 7 fun a5=>
 (ldL (.int .i64) (a5.add 0) (fun x6_0=>
 (ldL (.bool) (a5.add 1) (fun x6_1=>
 (ldL (.sl) (a5.add 2) (fun x6_2=>
 (ldL (.bool) (a5.add 3) (fun x6_3=>
 (ldL (.sl) (a5.add 4) (fun x6_4=>
 (ldL (.str) (a5.add 5) (fun x6_5=>
 (ldL (.sl) (a5.add 6) (fun x6_6=>
 (idxP s2 s3.1 7 fun a7=>
 (ldL (.int .i64) (a7.add 0) (fun x8_0=>
 (ldL (.bool) (a7.add 1) (fun x8_1=>
 (ldL (.sl) (a7.add 2) (fun x8_2=>
 (ldL (.bool) (a7.add 3) (fun x8_3=>
 (ldL (.sl) (a7.add 4) (fun x8_4=>
 (ldL (.str) (a7.add 5) (fun x8_5=>
 (ldL (.sl) (a7.add 6) (fun x8_6=>
 (callP ((zpy (za9 fuel)) (⟨x6_0,(⟨(⟨x6_1,x6_2⟩:TInt),(⟨x6_3,x6_4⟩:TInt)⟩:TRat),x6_5,x6_6⟩:TExpr) (⟨x8_0,(⟨(⟨x8_1,x8_2⟩:TInt),(⟨x8_3,x8_4⟩:TInt)⟩:TRat),x8_5,x8_6⟩:TExpr)) (fun r9 h2=>
 (ifP (!r9)
 (K false h2)
 (k4 ((IntKind.i64.wrap (s3.1+1)),()) h2))) h1)) h1)) h1)) h1)) h1)) h1)) h1)) h1))) h1)) h1)) h1)) h1)) h1)) h1)) h1))
 (K true h1)))
 (0,()) h))
def zb2 (s1:Sl) (s2:Sl) (K:Bool→Hp→Prop) (h:Hp):Prop:=∃fuel,za9 fuel s1 s2 K h
def zgp (a:TConstraint) (b:TConstraint) (K:Bool→Hp→Prop) (h:Hp):Prop:=
 (ifP (a.kind==b.kind)
 (ifP (a.side==b.side)
 (callP (zdm a.points b.points) (fun r1 h1=>
 (ifP r1
 (callP (zdm a.circles b.circles) (fun r2 h2=>
 (ifP r2
 (callP (zb2 a.values b.values) (fun r3 h3=>
 (K r3 h3)) h2)
 (K false h2))) h1)
 (K false h1))) h)
 (K false h))
 (K false h))
def zh1 (d:TConstraint) (v0:(Option Addr)) (K:Bool→Hp→Prop) (h:Hp):Prop:=
 (ptrK v0 fun p1=>
 (ldL (.int .i64) (p1.add 0) (fun x2_0=>
 (ldL (.sl) (p1.add 1) (fun x2_1=>
 (ldL (.sl) (p1.add 2) (fun x2_2=>
 (ldL (.sl) (p1.add 3) (fun x2_3=>
 (ldL (.int .i64) (p1.add 4) (fun x2_4=>
 (callP (zgp (⟨x2_0,x2_1,x2_2,x2_3,x2_4⟩:TConstraint) d) (fun r3 h1=>
 (K r3 h1)) h)) h)) h)) h)) h)) h))
def zb7 (s:Sl) (f1:(Option Addr×Unit)) (K:Int→Hp→Prop) (h:Hp):Prop:=
 (loopP (S:=Int×Unit) (fun s1 k2 h1=>
 (ifP (decide (s1.1<(s.len:Int)))
 (idxP s s1.1 5 fun a3=>
 (ldL (.int .i64) (a3.add 0) (fun x4_0=>
 (ldL (.sl) (a3.add 1) (fun x4_1=>
 (ldL (.sl) (a3.add 2) (fun x4_2=>
 (ldL (.sl) (a3.add 3) (fun x4_3=>
 (ldL (.int .i64) (a3.add 4) (fun x4_4=>
 (callP (zh1 (⟨x4_0,x4_1,x4_2,x4_3,x4_4⟩:TConstraint) f1.1) (fun r5 h2=>
 (ifP r5
 (K s1.1 h2)
 (k2 ((IntKind.i64.wrap (s1.1+1)),()) h2))) h1)) h1)) h1)) h1)) h1)) h1))
 (K (-1) h1)))
 (0,()) h)
def zaa (s:Sl) (f1:(Option Addr×Unit)) (K:Bool→Hp→Prop) (h:Hp):Prop:=
 (callP (zb7 s (f1.1,())) (fun r1 h1=>
 (K (decide (r1≥0)) h1)) h)
def ziv (s:TSketch) (K:Sl→Hp→Prop) (h:Hp):Prop:=
 (loopP (S:=Sl×Int×Unit) (fun s1 k2 h1=>
 (ifP (decide (s1.2.1<(s.arcs.len:Int)))
 (idxP s.arcs s1.2.1 4 fun a3=>
 (ldL (.int .i64) (a3.add 0) (fun x4_0=>
 (ldL (.int .i64) (a3.add 1) (fun x4_1=>
 (ldL (.int .i64) (a3.add 2) (fun x4_2=>
 (ldL (.bool) (a3.add 3) (fun x4_3=>
 (newP [.int .i64 x4_1,.int .i64 x4_2] (fun p5 h2=>
 (loopP (S:=Sl×Int×Unit) (fun s6 k7 h3=>
 (ifP (decide (s6.2.1<((⟨some p5,2,2⟩:Sl).len:Int)))
 (joinP (S:=Sl×Unit) (fun s8 h4=>
 (k7 (s8.1,(IntKind.i64.wrap (s6.2.1+1)),()) h4))
 (fun k9=>
 (idxP (⟨some p5,2,2⟩:Sl) s6.2.1 1 fun a10=>
 (ldL (.int .i64) a10 (fun x11=>
 (newP [.int .i64 x11] (fun p12 h5=>
 (newP [.int .i64 x4_0] (fun p13 h6=>
 (newP [.int .i64 0,.slice nilS.a nilS.len nilS.cap,.slice nilS.a nilS.len nilS.cap,.slice nilS.a nilS.len nilS.cap,.int .i64 0] (fun p14 h7=>
 (stP p14 [.int .i64 13,.slice (⟨some p12,1,1⟩:Sl).a (⟨some p12,1,1⟩:Sl).len (⟨some p12,1,1⟩:Sl).cap,.slice (⟨some p13,1,1⟩:Sl).a (⟨some p13,1,1⟩:Sl).len (⟨some p13,1,1⟩:Sl).cap,.slice nilS.a nilS.len nilS.cap,.int .i64 0] (fun h8=>
 (callP (zaa s.constraints ((some p14),())) (fun r15 h9=>
 (ifP (!r15)
 (callP (zaa s6.1 ((some p14),())) (fun r16 h10=>
 (ifP (!r16)
 (ldL (.int .i64) (p14.add 0) (fun x17_0=>
 (ldL (.sl) (p14.add 1) (fun x17_1=>
 (ldL (.sl) (p14.add 2) (fun x17_2=>
 (ldL (.sl) (p14.add 3) (fun x17_3=>
 (ldL (.int .i64) (p14.add 4) (fun x17_4=>
 (appP 5 88 [.int .i64 0,.slice nilS.a nilS.len nilS.cap,.slice nilS.a nilS.len nilS.cap,.slice nilS.a nilS.len nilS.cap,.int .i64 0] s6.1 1 [.int .i64 x17_0,.slice x17_1.a x17_1.len x17_1.cap,.slice x17_2.a x17_2.len x17_2.cap,.slice x17_3.a x17_3.len x17_3.cap,.int .i64 x17_4] (fun w18 h11=>
 (k9 (w18,()) h11)) h10)) h10)) h10)) h10)) h10)) h10)
 (k9 (s6.1,()) h10))) h9)
 (k9 (s6.1,()) h9))) h8)) h7)) h6)) h5)) h3)) h3))))
 (k2 (s6.1,(IntKind.i64.wrap (s1.2.1+1)),()) h3)))
 (s1.1,0,()) h2)) h1)) h1)) h1)) h1)) h1))
 (K s1.1 h1)))
 (nilS,0,()) h)
def zbq (s:Sl) (n:Int) (K:Sl→Hp→Prop) (h:Hp):Prop:=
 (joinP (S:=Unit) (fun s1 h1=>
 (ifP (decide ((IntKind.i64.wrap (n-(IntKind.i64.wrap ((s.cap:Int)-(s.len:Int)))))>0))
 (slP s 0 (s.cap:Int) 5 fun c3=>
 (0≤((IntKind.i64.wrap (n-(IntKind.i64.wrap ((s.cap:Int)-(s.len:Int))))):Int) ∧
 (appP 5 88 [.int .i64 0,.slice nilS.a nilS.len nilS.cap,.slice nilS.a nilS.len nilS.cap,.slice nilS.a nilS.len nilS.cap,.int .i64 0] c3 (((IntKind.i64.wrap (n-(IntKind.i64.wrap ((s.cap:Int)-(s.len:Int))))):Int).toNat) (repl ((IntKind.i64.wrap (n-(IntKind.i64.wrap ((s.cap:Int)-(s.len:Int))))):Int).toNat [.int .i64 0,.slice nilS.a nilS.len nilS.cap,.slice nilS.a nilS.len nilS.cap,.slice nilS.a nilS.len nilS.cap,.int .i64 0]) (fun w4 h2=>
 (slP w4 0 (s.len:Int) 5 fun c5=>
 (K c5 h2))) h1)))
 (K s h1)))
 (fun k2=>
 (ifP (decide (n<0))
 False
 (k2 () h))))
def zbn (slices:Sl) (K:Sl→Hp→Prop) (h:Hp):Prop:=
 (loopP (S:=Int×Int×Unit) (fun s1 k2 h1=>
 (ifP (decide (s1.2.1<(slices.len:Int)))
 (joinP (S:=Int×Unit) (fun s3 h2=>
 (k2 (s3.1,(IntKind.i64.wrap (s1.2.1+1)),()) h2))
 (fun k4=>
 (idxP slices s1.2.1 1 fun a5=>
 (ldL (.sl) a5 (fun x6=>
 (ifP (decide ((IntKind.i64.wrap (s1.1+(x6.len:Int)))<0))
 False
 (k4 ((IntKind.i64.wrap (s1.1+(x6.len:Int))),()) h1))) h1))))
 (callP (zbq nilS s1.1) (fun r7 h3=>
 (loopP (S:=Sl×Int×Unit) (fun s8 k9 h4=>
 (ifP (decide (s8.2.1<(slices.len:Int)))
 (idxP slices s8.2.1 1 fun a10=>
 (ldL (.sl) a10 (fun x11=>
 (rdO x11.a (x11.len*5) (fun vs12=>
 (appP 5 88 [.int .i64 0,.slice nilS.a nilS.len nilS.cap,.slice nilS.a nilS.len nilS.cap,.slice nilS.a nilS.len nilS.cap,.int .i64 0] s8.1 x11.len vs12 (fun w13 h5=>
 (k9 (w13,(IntKind.i64.wrap (s8.2.1+1)),()) h5)) h4)) h4)) h4))
 (K s8.1 h4)))
 (r7,0,()) h3)) h1)))
 (0,0,()) h)
def zf3 (s:Sl) (K:Sl→Hp→Prop) (h:Hp):Prop:=
 (ifP s.a.isNone
 (K nilS h)
 (newP [] (fun p1 h1=>
 (rdO s.a (s.len*1) (fun vs2=>
 (appP 1 8 [.int .i64 0] (⟨some p1,0,0⟩:Sl) s.len vs2 (fun w3 h2=>
 (K w3 h2)) h1)) h1)) h))
def zcx (s:TSketch) (K:(Option Addr)→Hp→Prop) (h:Hp):Prop:=
 (callP (ziv s) (fun r1 h1=>
 (newP [.slice s.constraints.a s.constraints.len s.constraints.cap,.slice r1.a r1.len r1.cap] (fun p2 h2=>
 (callP (zbn (⟨some p2,2,2⟩:Sl)) (fun r3 h3=>
 (newP [.slice s.points.a s.points.len s.points.cap,.slice s.circles.a s.circles.len s.circles.cap,.slice s.segments.a s.segments.len s.segments.cap,.slice s.arcs.a s.arcs.len s.arcs.cap,.slice s.chains.a s.chains.len s.chains.cap,.slice s.constraints.a s.constraints.len s.constraints.cap,.slice r3.a r3.len r3.cap,.slice nilS.a nilS.len nilS.cap,.slice nilS.a nilS.len nilS.cap] (fun p4 h4=>
 (loopP (S:=Int×Unit) (fun s5 k6 h5=>
 (ifP (decide (s5.1<(s.circles.len:Int)))
 (idxP s.circles s5.1 5 fun a7=>
 (ldL (.int .i64) (a7.add 0) (fun x8_0=>
 (ldL (.bool) (a7.add 1) (fun x8_1=>
 (ldL (.sl) (a7.add 2) (fun x8_2=>
 (ldL (.bool) (a7.add 3) (fun x8_3=>
 (ldL (.sl) (a7.add 4) (fun x8_4=>
 (ldL (.sl) (p4.add 8) (fun x9=>
 (appP 1 8 [.int .i64 0] x9 1 [.int .i64 x8_0] (fun w10 h6=>
 (stP (p4.add 8) [.slice w10.a w10.len w10.cap] (fun h7=>
 (k6 ((IntKind.i64.wrap (s5.1+1)),()) h7)) h6)) h5)) h5)) h5)) h5)) h5)) h5)) h5))
 (ldL (.sl) (p4.add 6) (fun x11=>
 (loopP (S:=Int×Unit) (fun s12 k13 h8=>
 (ifP (decide (s12.1<(x11.len:Int)))
 (idxP x11 s12.1 5 fun a14=>
 (ldL (.int .i64) (a14.add 0) (fun x15_0=>
 (ldL (.sl) (a14.add 1) (fun x15_1=>
 (ldL (.sl) (a14.add 2) (fun x15_2=>
 (ldL (.sl) (a14.add 3) (fun x15_3=>
 (ldL (.int .i64) (a14.add 4) (fun x15_4=>
 (callP (zf3 x15_1) (fun r16 h9=>
 (loopP (S:=Sl×Int×Unit) (fun s17 k18 h10=>
 (ifP (decide (s17.2.1<(x15_2.len:Int)))
 (joinP (S:=Sl×Unit) (fun s19 h11=>
 (k18 (s19.1,(IntKind.i64.wrap (s17.2.1+1)),()) h11))
 (fun k20=>
 (idxP x15_2 s17.2.1 1 fun a21=>
 (ldL (.int .i64) a21 (fun x22=>
 (appP 1 8 [.int .i64 0] s17.1 1 [.int .i64 (IntKind.i64.wrap ((-1)-x22))] (fun w23 h12=>
 (ifP (x15_0==13)
 (ldL (.sl) (p4.add 8) (fun x24=>
 (idxP x24 x22 1 fun a25=>
 (ldL (.int .i64) a25 (fun x26=>
 (appP 1 8 [.int .i64 0] w23 1 [.int .i64 x26] (fun w27 h13=>
 (k20 (w27,()) h13)) h12)) h12))) h12)
 (ifP (x15_0==16)
 (ldL (.sl) (p4.add 8) (fun x28=>
 (idxP x28 x22 1 fun a29=>
 (ldL (.int .i64) a29 (fun x30=>
 (appP 1 8 [.int .i64 0] w23 1 [.int .i64 x30] (fun w31 h14=>
 (k20 (w31,()) h14)) h12)) h12))) h12)
 (ifP (x15_0==17)
 (ldL (.sl) (p4.add 8) (fun x32=>
 (idxP x32 x22 1 fun a33=>
 (ldL (.int .i64) a33 (fun x34=>
 (appP 1 8 [.int .i64 0] w23 1 [.int .i64 x34] (fun w35 h15=>
 (k20 (w35,()) h15)) h12)) h12))) h12)
 (k20 (w23,()) h12))))) h10)) h10))))
 (ldL (.sl) (p4.add 7) (fun x36=>
 (appP 1 24 [.slice nilS.a nilS.len nilS.cap] x36 1 [.slice s17.1.a s17.1.len s17.1.cap] (fun w37 h16=>
 (stP (p4.add 7) [.slice w37.a w37.len w37.cap] (fun h17=>
 (k13 ((IntKind.i64.wrap (s12.1+1)),()) h17)) h16)) h10)) h10)))
 (r16,0,()) h9)) h8)) h8)) h8)) h8)) h8)) h8))
 (K (some p4) h8)))
 (0,()) h5)) h5)))
 (0,()) h4)) h3)) h2)) h1)) h)
def y_henneberg_peeler_all (p:(Option Addr)) (K:Sl→Hp→Prop) (h:Hp):Prop:=
 (ptrK p fun p1=>
 (ldL (.sl) ((p1.add 0).add 0) (fun x2=>
 (loopP (S:=Sl×Int×Unit) (fun s3 k4 h1=>
 (ifP (decide (s3.2.1<(x2.len:Int)))
 (appP 1 8 [.int .i64 0] s3.1 1 [.int .i64 s3.2.1] (fun w5 h2=>
 (k4 (w5,(IntKind.i64.wrap (s3.2.1+1)),()) h2)) h1)
 (ptrK p fun p6=>
 (ldL (.sl) ((p6.add 0).add 1) (fun x7=>
 (loopP (S:=Sl×Int×Unit) (fun s8 k9 h3=>
 (ifP (decide (s8.2.1<(x7.len:Int)))
 (appP 1 8 [.int .i64 0] s8.1 1 [.int .i64 (IntKind.i64.wrap ((-1)-s8.2.1))] (fun w10 h4=>
 (k9 (w10,(IntKind.i64.wrap (s8.2.1+1)),()) h4)) h3)
 (K s8.1 h3)))
 (s3.1,0,()) h1)) h1))))
 (nilS,0,()) h)) h))
def y_henneberg_peeler_remaining_1 (x:Int) (v0:(Option Addr)) (K:Bool→Hp→Prop) (h:Hp):Prop:=
 (ptrK v0 fun p1=>
 (ldL (.sl) p1 (fun x2=>
 (callP (zbd x2 x) (fun r3 h1=>
 (K r3 h1)) h)) h))
def zbk (s:Sl) (f1:(Option Addr×Unit)) (K:Int→Hp→Prop) (h:Hp):Prop:=
 (loopP (S:=Int×Unit) (fun s1 k2 h1=>
 (ifP (decide (s1.1<(s.len:Int)))
 (idxP s s1.1 1 fun a3=>
 (ldL (.int .i64) a3 (fun x4=>
 (callP (y_henneberg_peeler_remaining_1 x4 f1.1) (fun r5 h2=>
 (ifP r5
 (K s1.1 h2)
 (k2 ((IntKind.i64.wrap (s1.1+1)),()) h2))) h1)) h1))
 (K (-1) h1)))
 (0,()) h)
def zbe (s:Sl) (f1:(Option Addr×Unit)) (K:Bool→Hp→Prop) (h:Hp):Prop:=
 (callP (zbk s (f1.1,())) (fun r1 h1=>
 (K (decide (r1≥0)) h1)) h)
def y_henneberg_peeler_remaining (p:(Option Addr)) (item:Int) (removed:Sl) (K:Sl→Hp→Prop) (h:Hp):Prop:=
 (newP [.slice removed.a removed.len removed.cap] (fun p1 h1=>
 (ptrK p fun p2=>
 (ldL (.sl) (p2.add 7) (fun x3=>
 (loopP (S:=Sl×Int×Unit) (fun s4 k5 h2=>
 (ifP (decide (s4.2.1<(x3.len:Int)))
 (joinP (S:=Sl×Unit) (fun s6 h3=>
 (k5 (s6.1,(IntKind.i64.wrap (s4.2.1+1)),()) h3))
 (fun k7=>
 (idxP x3 s4.2.1 1 fun a8=>
 (ldL (.sl) a8 (fun x9=>
 (callP (zbd x9 item) (fun r10 h4=>
 (ifP r10
 (callP (zbe x9 ((some p1),())) (fun r11 h5=>
 (ifP (!r11)
 (appP 1 8 [.int .i64 0] s4.1 1 [.int .i64 s4.2.1] (fun w12 h6=>
 (k7 (w12,()) h6)) h5)
 (k7 (s4.1,()) h5))) h4)
 (k7 (s4.1,()) h4))) h2)) h2))))
 (K s4.1 h2)))
 (nilS,0,()) h1)) h1))) h)
def y_henneberg_peeler_equations (p:(Option Addr)) (i:Int) (K:Int→Hp→Prop) (h:Hp):Prop:=
 (ptrK p fun p1=>
 (ldL (.sl) (p1.add 6) (fun x2=>
 (idxP x2 i 5 fun a3=>
 (ldL (.int .i64) (a3.add 0) (fun x4=>
 (callP (zee x4) (fun r5 h1=>
 (K r5.1.equations h1)) h)) h))) h))
def y_henneberg_peeler_weight (p:(Option Addr)) (l:Sl) (K:Int→Hp→Prop) (h:Hp):Prop:=
 (loopP (S:=Int×Int×Unit) (fun s1 k2 h1=>
 (ifP (decide (s1.2.1<(l.len:Int)))
 (idxP l s1.2.1 1 fun a3=>
 (ldL (.int .i64) a3 (fun x4=>
 (callP (y_henneberg_peeler_equations p x4) (fun r5 h2=>
 (k2 ((IntKind.i64.wrap (s1.1+r5)),(IntKind.i64.wrap (s1.2.1+1)),()) h2)) h1)) h1))
 (K s1.1 h1)))
 (0,0,()) h)
def zla (c:TConstraint) (centers:Sl) (circle:Int) (K:Bool→Hp→Prop) (h:Hp):Prop:=
 (callP (zdn c.circles circle) (fun r1 h1=>
 (ifP (decide (r1<0))
 (K false h1)
 (joinP (S:=Bool×Unit) (fun s2 h2=>
 (ifP s2.1
 (K true h2)
 (joinP (S:=Bool×Unit) (fun s4 h3=>
 (ifP s4.1
 (idxP centers circle 1 fun a6=>
 (ldL (.int .i64) a6 (fun x7=>
 (callP (zbd c.points x7) (fun r8 h4=>
 (K (!r8) h4)) h3)) h3))
 (ifP (c.kind==17)
 (ifP (c.side==1)
 (idxP c.circles 0 1 fun a9=>
 (ldL (.int .i64) a9 (fun x10=>
 (idxP centers x10 1 fun a11=>
 (ldL (.int .i64) a11 (fun x12=>
 (idxP c.circles 1 1 fun a13=>
 (ldL (.int .i64) a13 (fun x14=>
 (idxP centers x14 1 fun a15=>
 (ldL (.int .i64) a15 (fun x16=>
 (K (x12 != x16) h3)) h3))) h3))) h3))) h3))
 (K false h3))
 (K false h3))))
 (fun k5=>
 (ifP (c.kind==13)
 (k5 ((c.kind==13),()) h2)
 (k5 ((c.kind==16),()) h2))))))
 (fun k3=>
 (ifP (c.kind==14)
 (k3 ((c.kind==14),()) h1)
 (k3 ((c.kind==15),()) h1)))))) h)
def y_henneberg_peeler_removable_1 (i:Int) (v0:(Option Addr)) (v1:(Option Addr)) (K:Bool→Hp→Prop) (h:Hp):Prop:=
 (ptrK v0 fun p1=>
 (ldL (.ptr) p1 (fun x2=>
 (ptrK x2 fun p3=>
 (ldL (.sl) (p3.add 6) (fun x4=>
 (idxP x4 i 5 fun a5=>
 (ldL (.int .i64) (a5.add 0) (fun x6_0=>
 (ldL (.sl) (a5.add 1) (fun x6_1=>
 (ldL (.sl) (a5.add 2) (fun x6_2=>
 (ldL (.sl) (a5.add 3) (fun x6_3=>
 (ldL (.int .i64) (a5.add 4) (fun x6_4=>
 (ptrK v0 fun p7=>
 (ldL (.ptr) p7 (fun x8=>
 (ptrK x8 fun p9=>
 (ldL (.sl) (p9.add 8) (fun x10=>
 (ptrK v1 fun p11=>
 (ldL (.int .i64) p11 (fun x12=>
 (callP (zla (⟨x6_0,x6_1,x6_2,x6_3,x6_4⟩:TConstraint) x10 (IntKind.i64.wrap ((-1)-x12))) (fun r13 h1=>
 (K (!r13) h1)) h)) h))) h))) h))) h)) h)) h)) h)) h))) h))) h))
def zbl (s:Sl) (f1:(Option Addr×Option Addr×Unit)) (K:Int→Hp→Prop) (h:Hp):Prop:=
 (loopP (S:=Int×Unit) (fun s1 k2 h1=>
 (ifP (decide (s1.1<(s.len:Int)))
 (idxP s s1.1 1 fun a3=>
 (ldL (.int .i64) a3 (fun x4=>
 (callP (y_henneberg_peeler_removable_1 x4 f1.1 f1.2.1) (fun r5 h2=>
 (ifP r5
 (K s1.1 h2)
 (k2 ((IntKind.i64.wrap (s1.1+1)),()) h2))) h1)) h1))
 (K (-1) h1)))
 (0,()) h)
def zbf (s:Sl) (f1:(Option Addr×Option Addr×Unit)) (K:Bool→Hp→Prop) (h:Hp):Prop:=
 (callP (zbl s (f1.1,f1.2.1,())) (fun r1 h1=>
 (K (decide (r1≥0)) h1)) h)
def zjy (c:TConstraint) (target:Int) (K:Sl→Hp→Prop) (h:Hp):Prop:=
 (loopP (S:=Sl×Int×Unit) (fun s1 k2 h1=>
 (ifP (decide (s1.2.1<(c.points.len:Int)))
 (joinP (S:=Sl×Unit) (fun s3 h2=>
 (k2 (s3.1,(IntKind.i64.wrap (s1.2.1+1)),()) h2))
 (fun k4=>
 (idxP c.points s1.2.1 1 fun a5=>
 (ldL (.int .i64) a5 (fun x6=>
 (ifP (x6==target)
 (appP 1 8 [.int .i64 0] s1.1 1 [.int .i64 s1.2.1] (fun w7 h3=>
 (k4 (w7,()) h3)) h1)
 (k4 (s1.1,()) h1))) h1))))
 (K s1.1 h1)))
 (nilS,0,()) h)
def zfh (i:Int) (v0:(Option Addr)) (v1:(Option Addr)) (v2:(Option Addr)) (K:Bool→Hp→Prop) (h:Hp):Prop:=
 (ptrK v0 fun p1=>
 (ldL (.sl) p1 (fun x2=>
 (ptrK v1 fun p3=>
 (ldL (.sl) (p3.add 2) (fun x4=>
 (idxP x4 i 1 fun a5=>
 (ldL (.int .i64) a5 (fun x6=>
 (idxP x2 x6 1 fun a7=>
 (ldL (.int .i64) a7 (fun x8=>
 (ptrK v2 fun p9=>
 (ldL (.int .i64) p9 (fun x10=>
 (K (x8==x10) h)) h))) h))) h))) h))) h))
def zm8 (c:TConstraint) (centers:Sl) (target:Int) (K:Int→Hp→Prop) (h:Hp):Prop:=
 (newP [.int .i64 c.kind,.slice c.points.a c.points.len c.points.cap,.slice c.circles.a c.circles.len c.circles.cap,.slice c.values.a c.values.len c.values.cap,.int .i64 c.side] (fun p1 h1=>
 (newP [.slice centers.a centers.len centers.cap] (fun p2 h2=>
 (newP [.int .i64 target] (fun p3 h3=>
 (ldL (.int .i64) (p1.add 0) (fun x4_0=>
 (ldL (.sl) (p1.add 1) (fun x4_1=>
 (ldL (.sl) (p1.add 2) (fun x4_2=>
 (ldL (.sl) (p1.add 3) (fun x4_3=>
 (ldL (.int .i64) (p1.add 4) (fun x4_4=>
 (ldL (.int .i64) p3 (fun x5=>
 (callP (zjy (⟨x4_0,x4_1,x4_2,x4_3,x4_4⟩:TConstraint) x5) (fun r6 h4=>
 (ldL (.int .i64) (p1.add 0) (fun x7=>
 (ifP (x7==13)
 (callP (zfh 0 (some p2) (some p1) (some p3)) (fun r8 h5=>
 (ifP (!((decide ((r6.len:Int)>0))==r8))
 (K 2 h5)
 (K 0 h5))) h4)
 (ifP (x7==16)
 (callP (zfh 0 (some p2) (some p1) (some p3)) (fun r9 h6=>
 (ifP r9
 (ifP ((r6.len:Int)==0)
 (K 1 h6)
 (K 0 h6))
 (K 0 h6))) h4)
 (ifP (x7==17)
 (callP (zfh 0 (some p2) (some p1) (some p3)) (fun r10 h7=>
 (callP (zfh 1 (some p2) (some p1) (some p3)) (fun r11 h8=>
 (ifP (!(r10==r11))
 (K 2 h8)
 (K 0 h8))) h7)) h4)
 (ifP ((r6.len:Int)==0)
 (K 0 h4)
 (ldL (.int .i64) (p1.add 0) (fun x12=>
 (joinP (S:=Bool×Unit) (fun s13 h9=>
 (ifP s13.1
 (K 3 h9)
 (ifP (x12==2)
 (K 2 h9)
 (joinP (S:=Bool×Unit) (fun s15 h10=>
 (ifP s15.1
 (K 1 h10)
 (ifP (x12==4)
 (idxP r6 0 1 fun a17=>
 (ldL (.int .i64) a17 (fun x18=>
 (ifP (x18==0)
 (K 1 h10)
 (K 0 h10))) h10))
 (ifP (x12==10)
 (idxP r6 0 1 fun a19=>
 (ldL (.int .i64) a19 (fun x20=>
 (ifP (decide (x20<2))
 (K 3 h10)
 (K 0 h10))) h10))
 (joinP (S:=Bool×Unit) (fun s21 h11=>
 (ifP s21.1
 (ifP ((r6.len:Int)==2)
 (K 2 h11)
 (K 1 h11))
 (ifP (x12==8)
 (ifP ((r6.len:Int)==2)
 (K 1 h11)
 (K 2 h11))
 (K 0 h11))))
 (fun k22=>
 (ifP (x12==5)
 (k22 ((x12==5),()) h10)
 (k22 ((x12==7),()) h10))))))))
 (fun k16=>
 (ifP (x12==3)
 (k16 ((x12==3),()) h9)
 (ifP (x12==6)
 (k16 ((x12==6),()) h9)
 (ifP (x12==11)
 (k16 ((x12==11),()) h9)
 (k16 ((x12==12),()) h9)))))))))
 (fun k14=>
 (ifP (x12==1)
 (k14 ((x12==1),()) h4)
 (k14 ((x12==9),()) h4))))) h4)))))) h4)) h3)) h3)) h3)) h3)) h3)) h3)) h3)) h2)) h1)) h)
def y_henneberg_peeler_kind (p:(Option Addr)) (i:Int) (point:Int) (K:Int→Hp→Prop) (h:Hp):Prop:=
 (ptrK p fun p1=>
 (ldL (.sl) (p1.add 6) (fun x2=>
 (idxP x2 i 5 fun a3=>
 (ldL (.int .i64) (a3.add 0) (fun x4_0=>
 (ldL (.sl) (a3.add 1) (fun x4_1=>
 (ldL (.sl) (a3.add 2) (fun x4_2=>
 (ldL (.sl) (a3.add 3) (fun x4_3=>
 (ldL (.int .i64) (a3.add 4) (fun x4_4=>
 (ptrK p fun p5=>
 (ldL (.sl) (p5.add 8) (fun x6=>
 (callP (zm8 (⟨x4_0,x4_1,x4_2,x4_3,x4_4⟩:TConstraint) x6 point) (fun r7 h1=>
 (K r7 h1)) h)) h))) h)) h)) h)) h)) h))) h))
def y_henneberg_peeler_removable (p:(Option Addr)) (item:Int) (removed:Sl) (K:Bool→Hp→Prop) (h:Hp):Prop:=
 (newP [.pointer p] (fun p1 h1=>
 (newP [.int .i64 item] (fun p2 h2=>
 (ldL (.int .i64) p2 (fun x3=>
 (callP (zbd removed x3) (fun r4 h3=>
 (ifP r4
 (K false h3)
 (ldL (.ptr) p1 (fun x5=>
 (ldL (.int .i64) p2 (fun x6=>
 (callP (y_henneberg_peeler_remaining x5 x6 removed) (fun r7 h4=>
 (ldL (.int .i64) p2 (fun x8=>
 (ifP (decide (x8<0))
 (ldL (.ptr) p1 (fun x9=>
 (callP (y_henneberg_peeler_weight x9 r7) (fun r10 h5=>
 (ifP (decide (r10≤1))
 (callP (zbf r7 ((some p1),(some p2),())) (fun r11 h6=>
 (K (!r11) h6)) h5)
 (K false h5))) h4)) h4)
 (ldL (.ptr) p1 (fun x12=>
 (callP (y_henneberg_peeler_weight x12 r7) (fun r13 h7=>
 (ifP (decide (r13>2))
 (K false h7)
 (loopP (S:=Int×Unit) (fun s14 k15 h8=>
 (ifP (decide (s14.1<(r7.len:Int)))
 (idxP r7 s14.1 1 fun a16=>
 (ldL (.int .i64) a16 (fun x17=>
 (ldL (.ptr) p1 (fun x18=>
 (ldL (.int .i64) p2 (fun x19=>
 (callP (y_henneberg_peeler_kind x18 x17 x19) (fun r20 h9=>
 (joinP (S:=Bool×Unit) (fun s21 h10=>
 (joinP (S:=Bool×Unit) (fun s23 h11=>
 (ifP (!s23.1)
 (K false h11)
 (k15 ((IntKind.i64.wrap (s14.1+1)),()) h11)))
 (fun k24=>
 (ldL (.ptr) p1 (fun x25=>
 (callP (y_henneberg_peeler_equations x25 x17) (fun r26 h12=>
 (ifP (r26==2)
 (k24 ((r20==3),()) h12)
 (k24 (s21.1,()) h12))) h10)) h10))))
 (fun k22=>
 (ifP (r20==1)
 (k22 (true,()) h9)
 (k22 ((r20==2),()) h9))))) h8)) h8)) h8)) h8))
 (K true h8)))
 (0,()) h7))) h4)) h4))) h4)) h3)) h3)) h3))) h2)) h2)) h1)) h)
def y_henneberg_peeler_peel_1 (item:Int) (v0:(Option Addr)) (v1:(Option Addr)) (K:Bool→Hp→Prop) (h:Hp):Prop:=
 (ptrK v0 fun p1=>
 (ldL (.ptr) p1 (fun x2=>
 (ptrK v1 fun p3=>
 (ldL (.sl) p3 (fun x4=>
 (callP (y_henneberg_peeler_removable x2 item x4) (fun r5 h1=>
 (K r5 h1)) h)) h))) h))
def zba (s:Sl) (f1:(Option Addr×Option Addr×Unit)) (K:Int→Hp→Prop) (h:Hp):Prop:=
 (loopP (S:=Int×Unit) (fun s1 k2 h1=>
 (ifP (decide (s1.1<(s.len:Int)))
 (idxP s s1.1 1 fun a3=>
 (ldL (.int .i64) a3 (fun x4=>
 (callP (y_henneberg_peeler_peel_1 x4 f1.1 f1.2.1) (fun r5 h2=>
 (ifP r5
 (K s1.1 h2)
 (k2 ((IntKind.i64.wrap (s1.1+1)),()) h2))) h1)) h1))
 (K (-1) h1)))
 (0,()) h)
def y_henneberg_peeler_peel_2 (item:Int) (v0:(Option Addr)) (K:Bool→Hp→Prop) (h:Hp):Prop:=
 (ptrK v0 fun p1=>
 (ldL (.sl) p1 (fun x2=>
 (callP (zbd x2 item) (fun r3 h1=>
 (K r3 h1)) h)) h))
def zbv (s:Sl) (f1:(Option Addr×Unit)) (K:Int→Hp→Prop) (h:Hp):Prop:=
 (loopP (S:=Int×Unit) (fun s1 k2 h1=>
 (ifP (decide (s1.1<(s.len:Int)))
 (idxP s s1.1 1 fun a3=>
 (ldL (.int .i64) a3 (fun x4=>
 (callP (y_henneberg_peeler_peel_2 x4 f1.1) (fun r5 h2=>
 (ifP r5
 (K s1.1 h2)
 (k2 ((IntKind.i64.wrap (s1.1+1)),()) h2))) h1)) h1))
 (K (-1) h1)))
 (0,()) h)
def zb8 (s:Sl) (f1:(Option Addr×Unit)) (K:Sl→Hp→Prop) (h:Hp):Prop:=
 (callP (zbv s (f1.1,())) (fun r1 h1=>
 (ifP (r1==(-1))
 (K s h1)
 (loopP (S:=Int×Int×Unit) (fun s2 k3 h2=>
 (ifP (decide (s2.2.1<(s.len:Int)))
 (joinP (S:=Int×Unit) (fun s4 h3=>
 (k3 (s4.1,(IntKind.i64.wrap (s2.2.1+1)),()) h3))
 (fun k5=>
 (idxP s s2.2.1 1 fun a6=>
 (ldL (.int .i64) a6 (fun x7=>
 (callP (y_henneberg_peeler_peel_2 x7 f1.1) (fun r8 h4=>
 (ifP (!r8)
 (idxP s s2.1 1 fun a9=>
 (stP a9 [.int .i64 x7] (fun h5=>
 (k5 ((IntKind.i64.wrap (s2.1+1)),()) h5)) h4))
 (k5 (s2.1,()) h4))) h2)) h2))))
 (slP s s2.1 (s.len:Int) 1 fun c10=>
 (clrP c10 [.int .i64 0] (fun h6=>
 (slP s 0 s2.1 1 fun c11=>
 (K c11 h6))) h2))))
 (r1,(IntKind.i64.wrap (r1+1)),()) h1))) h)
def y_henneberg_peeler_peel (p:(Option Addr)) (K:(Sl×Sl)→Hp→Prop) (h:Hp):Prop:=
 (newP [.pointer p] (fun p1 h1=>
 (newP [.slice nilS.a nilS.len nilS.cap] (fun p2 h2=>
 (loopP (S:=(Option Addr)×Unit) (fun s3 k4 h3=>
 (ldL (.ptr) p1 (fun x5=>
 (callP (y_henneberg_peeler_all x5) (fun r6 h4=>
 (callP (zba r6 ((some p1),s3.1,())) (fun r7 h5=>
 (ifP (decide (r7<0))
 (ldL (.ptr) p1 (fun x8=>
 (callP (y_henneberg_peeler_all x8) (fun r9 h6=>
 (callM (zb8 r9 (s3.1,())) (fun r10 h7=>
 (ptrK s3.1 fun p11=>
 (ldL (.sl) p11 (fun x12=>
 (K (x12,r10) h7)) h7))) h6)) h5)) h5)
 (ptrK s3.1 fun p13=>
 (ldL (.sl) p13 (fun x14=>
 (ldL (.ptr) p1 (fun x15=>
 (callP (y_henneberg_peeler_all x15) (fun r16 h8=>
 (idxP r16 r7 1 fun a17=>
 (ldL (.int .i64) a17 (fun x18=>
 (appP 1 8 [.int .i64 0] x14 1 [.int .i64 x18] (fun w19 h9=>
 (ptrK s3.1 fun p20=>
 (stP p20 [.slice w19.a w19.len w19.cap] (fun h10=>
 (k4 (s3.1,()) h10)) h9))) h8)) h8))) h5)) h5)) h5)))) h4)) h3)) h3))
 ((some p2),()) h2)) h1)) h)
def zf7 (s:TSketch) (K:(Sl×Sl)→Hp→Prop) (h:Hp):Prop:=
 (callP (zel s) (fun r1 h1=>
 (ifP (r1 != 0)
 (K (nilS,nilS) h1)
 (callP (zcx s) (fun r2 h2=>
 (callP (y_henneberg_peeler_peel r2) (fun r3 h3=>
 (K (r3.1,r3.2) h3)) h2)) h1))) h)
def zgk (s:TSketch) (K:Sl→Hp→Prop) (h:Hp):Prop:=
 (loopP (S:=Sl×Int×Unit) (fun s1 k2 h1=>
 (ifP (decide (s1.2.1<(s.points.len:Int)))
 (appP 1 8 [.int .i64 0] s1.1 1 [.int .i64 s1.2.1] (fun w3 h2=>
 (k2 (w3,(IntKind.i64.wrap (s1.2.1+1)),()) h2)) h1)
 (loopP (S:=Sl×Int×Unit) (fun s4 k5 h3=>
 (ifP (decide (s4.2.1<(s.circles.len:Int)))
 (appP 1 8 [.int .i64 0] s4.1 1 [.int .i64 (IntKind.i64.wrap ((-1)-s4.2.1))] (fun w6 h4=>
 (k5 (w6,(IntKind.i64.wrap (s4.2.1+1)),()) h4)) h3)
 (K s4.1 h3)))
 (s1.1,0,()) h1)))
 (nilS,0,()) h)
def zmi (s:TSketch) (K:Bool→Hp→Prop) (h:Hp):Prop:=
 (loopP (S:=Int×Unit) (fun s1 k2 h1=>
 (ifP (decide (s1.1<(s.chains.len:Int)))
 (idxP s.chains s1.1 1 fun a3=>
 (ldL (.sl) a3 (fun x4=>
 (ifP (decide ((x4.len:Int)>200))
 (K true h1)
 (k2 ((IntKind.i64.wrap (s1.1+1)),()) h1))) h1))
 (ifP (decide ((s.points.len:Int)>200))
 (K true h1)
 (ifP (decide ((s.circles.len:Int)>200))
 (K true h1)
 (ifP (decide ((s.segments.len:Int)>200))
 (K true h1)
 (ifP (decide ((s.arcs.len:Int)>200))
 (K true h1)
 (ifP (decide ((s.chains.len:Int)>200))
 (K true h1)
 (K (decide ((s.constraints.len:Int)>200)) h1))))))))
 (0,()) h)
def zek (n:Int) (i:Int) (K:Bool→Hp→Prop) (h:Hp):Prop:=
 (ifP (decide (i≥0))
 (K (decide (i<n)) h)
 (K false h))
def zmh (s:TSketch) (p:TPiece) (K:(Int×Int)→Hp→Prop) (h:Hp):Prop:=
 (joinP (S:=Int×Int×Unit) (fun s1 h1=>
 (ifP p.back
 (K (s1.2.1,s1.1) h1)
 (K (s1.1,s1.2.1) h1)))
 (fun k2=>
 (ifP p.arc
 (idxP s.arcs p.index 4 fun a3=>
 (ldL (.int .i64) (a3.add 1) (fun x4=>
 (idxP s.arcs p.index 4 fun a5=>
 (ldL (.int .i64) (a5.add 2) (fun x6=>
 (k2 (x4,x6,()) h)) h))) h))
 (idxP s.segments p.index 2 fun a7=>
 (ldL (.int .i64) (a7.add 0) (fun x8=>
 (idxP s.segments p.index 2 fun a9=>
 (ldL (.int .i64) (a9.add 1) (fun x10=>
 (k2 (x8,x10,()) h)) h))) h)))))
def zlh (s:TSketch) (c:Sl) (K:Bool→Hp→Prop) (h:Hp):Prop:=
 (loopP (S:=Int×Unit) (fun s1 k2 h1=>
 (ifP (decide (s1.1<(c.len:Int)))
 (joinP (S:=Unit) (fun s3 h2=>
 (k2 ((IntKind.i64.wrap (s1.1+1)),()) h2))
 (fun k4=>
 (joinP (S:=Unit) (fun s5 h3=>
 (ifP (decide (s1.1>0))
 (idxP c (IntKind.i64.wrap (s1.1-1)) 3 fun a7=>
 (ldL (.bool) (a7.add 0) (fun x8_0=>
 (ldL (.int .i64) (a7.add 1) (fun x8_1=>
 (ldL (.bool) (a7.add 2) (fun x8_2=>
 (callP (zmh s (⟨x8_0,x8_1,x8_2⟩:TPiece)) (fun r9 h4=>
 (idxP c s1.1 3 fun a10=>
 (ldL (.bool) (a10.add 0) (fun x11_0=>
 (ldL (.int .i64) (a10.add 1) (fun x11_1=>
 (ldL (.bool) (a10.add 2) (fun x11_2=>
 (callP (zmh s (⟨x11_0,x11_1,x11_2⟩:TPiece)) (fun r12 h5=>
 (ifP (r9.2 != r12.1)
 (K false h5)
 (k4 () h5))) h4)) h4)) h4)) h4))) h3)) h3)) h3)) h3))
 (k4 () h3)))
 (fun k6=>
 (idxP c s1.1 3 fun a13=>
 (ldL (.bool) (a13.add 0) (fun x14=>
 (ifP x14
 (idxP c s1.1 3 fun a15=>
 (ldL (.int .i64) (a15.add 1) (fun x16=>
 (callP (zek (s.arcs.len:Int) x16) (fun r17 h6=>
 (ifP (!r17)
 (K false h6)
 (idxP c s1.1 3 fun a18=>
 (ldL (.bool) (a18.add 0) (fun x19=>
 (ifP (!x19)
 (idxP c s1.1 3 fun a20=>
 (ldL (.int .i64) (a20.add 1) (fun x21=>
 (callP (zek (s.segments.len:Int) x21) (fun r22 h7=>
 (ifP (!r22)
 (K false h7)
 (k6 () h7))) h6)) h6))
 (k6 () h6))) h6)))) h1)) h1))
 (idxP c s1.1 3 fun a23=>
 (ldL (.bool) (a23.add 0) (fun x24=>
 (ifP (!x24)
 (idxP c s1.1 3 fun a25=>
 (ldL (.int .i64) (a25.add 1) (fun x26=>
 (callP (zek (s.segments.len:Int) x26) (fun r27 h8=>
 (ifP (!r27)
 (K false h8)
 (k6 () h8))) h1)) h1))
 (k6 () h1))) h1)))) h1))))))
 (K (decide ((c.len:Int)>0)) h1)))
 (0,()) h)
def zkd (K:Sl→Hp→Prop) (h:Hp):Prop:=
 (newP [.string ⟨#[102,105,120]⟩,.int .i64 1,.int .i64 0,.int .i64 2,.int .i64 1,.int .i64 2,.bool false,.string ⟨#[100,105,115,116,97,110,99,101]⟩,.int .i64 2,.int .i64 0,.int .i64 1,.int .i64 2,.int .i64 1,.bool false,.string ⟨#[105,110,99,105,100,101,110,116]⟩,.int .i64 3,.int .i64 0,.int .i64 0,.int .i64 0,.int .i64 1,.bool false,.string ⟨#[111,102,102,115,101,116]⟩,.int .i64 3,.int .i64 0,.int .i64 1,.int .i64 2,.int .i64 1,.bool true,.string ⟨#[97,110,103,108,101]⟩,.int .i64 4,.int .i64 0,.int .i64 1,.int .i64 3,.int .i64 1,.bool false,.string ⟨#[112,97,114,97,108,108,101,108]⟩,.int .i64 4,.int .i64 0,.int .i64 0,.int .i64 0,.int .i64 1,.bool false,.string ⟨#[112,101,114,112,101,110,100,105,99,117,108,97,114]⟩,.int .i64 4,.int .i64 0,.int .i64 0,.int .i64 0,.int .i64 1,.bool false,.string ⟨#[101,113,117,97,108]⟩,.int .i64 4,.int .i64 0,.int .i64 0,.int .i64 0,.int .i64 1,.bool false,.string ⟨#[109,105,100,112,111,105,110,116]⟩,.int .i64 3,.int .i64 0,.int .i64 0,.int .i64 0,.int .i64 2,.bool false,.string ⟨#[115,121,109,109,101,116,114,105,99]⟩,.int .i64 4,.int .i64 0,.int .i64 0,.int .i64 0,.int .i64 2,.bool false,.string ⟨#[104,111,114,105,122,111,110,116,97,108]⟩,.int .i64 2,.int .i64 0,.int .i64 0,.int .i64 0,.int .i64 1,.bool false,.string ⟨#[118,101,114,116,105,99,97,108]⟩,.int .i64 2,.int .i64 0,.int .i64 0,.int .i64 0,.int .i64 1,.bool false,.string ⟨#[111,110,99,105,114,99,108,101]⟩,.int .i64 1,.int .i64 1,.int .i64 0,.int .i64 0,.int .i64 1,.bool false,.string ⟨#[114,97,100,105,117,115]⟩,.int .i64 0,.int .i64 1,.int .i64 1,.int .i64 2,.int .i64 1,.bool false,.string ⟨#[115,97,109,101,114,97,100,105,117,115]⟩,.int .i64 0,.int .i64 2,.int .i64 0,.int .i64 0,.int .i64 1,.bool false,.string ⟨#[116,97,110,103,101,110,116,108,105,110,101]⟩,.int .i64 2,.int .i64 1,.int .i64 0,.int .i64 0,.int .i64 1,.bool true,.string ⟨#[116,97,110,103,101,110,116,99,105,114,99,108,101]⟩,.int .i64 0,.int .i64 2,.int .i64 0,.int .i64 0,.int .i64 1,.bool true] (fun p1 h1=>
 (K (⟨some p1,17,17⟩:Sl) h1)) h)
def zn7 (kind:Int) (K:(Tsetsquareref25_Row×Bool)→Hp→Prop) (h:Hp):Prop:=
 (joinP (S:=(ByteArray×Int×Int×Int×Int×Int×Bool×Unit)×Unit) (fun s1 h1=>
 (callP (zkd) (fun r3 h2=>
 (idxP r3 (IntKind.i64.wrap (kind-1)) 7 fun a4=>
 (ldL (.str) (a4.add 0) (fun x5_0=>
 (ldL (.int .i64) (a4.add 1) (fun x5_1=>
 (ldL (.int .i64) (a4.add 2) (fun x5_2=>
 (ldL (.int .i64) (a4.add 3) (fun x5_3=>
 (ldL (.int .i64) (a4.add 4) (fun x5_4=>
 (ldL (.int .i64) (a4.add 5) (fun x5_5=>
 (ldL (.bool) (a4.add 6) (fun x5_6=>
 (K ((⟨x5_0,x5_1,x5_2,x5_3,x5_4,x5_5,x5_6⟩:Tsetsquareref25_Row),true) h2)) h2)) h2)) h2)) h2)) h2)) h2)) h2))) h1))
 (fun k2=>
 (ifP (decide (kind<1))
 (K ((⟨emptyS,0,0,0,0,0,false⟩:Tsetsquareref25_Row),false) h)
 (callP (zkd) (fun r6 h3=>
 (ifP (decide (kind>(r6.len:Int)))
 (K ((⟨emptyS,0,0,0,0,0,false⟩:Tsetsquareref25_Row),false) h3)
 (k2 ((emptyS,0,0,0,0,0,false,()),()) h3))) h))))
def zme (a:TInt) (b:TInt) (K:Bool→Hp→Prop) (h:Hp):Prop:=
 (ifP (a.neg==b.neg)
 (callP (zds a.mag b.mag) (fun r1 h1=>
 (K (r1==0) h1)) h)
 (K false h))
def zk9 (a:TInt) (K:ByteArray→Hp→Prop) (h:Hp):Prop:=
 (callP (zd3 a) (fun r1 h1=>
 (loopP (S:=ByteArray×Sl×Unit) (fun s2 k3 h2=>
 (ifP (decide ((s2.2.1.len:Int)>0))
 (callP (zn6 s2.2.1 10) (fun r4 h3=>
 (newP [.int .u8 (IntKind.u8.wrap ((IntKind.u32.wrap (48+r4.2))))] (fun p5 h4=>
 (toStr (⟨some p5,1,1⟩:Sl) (fun t6=>
 ((((t6:ByteArray).size+(s2.1:ByteArray).size:Nat):Int)≤9223372036854775807 ∧
 (k3 (((t6:ByteArray)++(s2.1:ByteArray)),r4.1,()) h4))) h4)) h3)) h2)
 (ifP ((s2.1:ByteArray).toList==(emptyS:ByteArray).toList)
 (K ⟨#[48]⟩ h2)
 (ifP r1.neg
 ((((⟨#[45]⟩:ByteArray).size+(s2.1:ByteArray).size:Nat):Int)≤9223372036854775807 ∧
 (K ((⟨#[45]⟩:ByteArray)++(s2.1:ByteArray)) h2))
 (K s2.1 h2)))))
 (emptyS,r1.mag,()) h1)) h)
def zjd (a:TRat) (K:(ByteArray×Bool)→Hp→Prop) (h:Hp):Prop:=
 (joinP (S:=Unit) (fun s1 h1=>
 (callP (zd4 10) (fun r3 h2=>
 (callP (zey 1) (fun r4 h3=>
 (loopP (S:=(Bool×Sl×Bool×Sl×Unit)×Int×Unit) (fun s5 k6 h4=>
 (ifP (decide (s5.2.1≤40))
 (callP (zme (⟨s5.1.2.2.1,s5.1.2.2.2.1⟩:TInt) r4) (fun r7 h5=>
 (ifP r7
 (callP (zk9 (⟨s5.1.1,s5.1.2.1⟩:TInt)) (fun r8 h6=>
 (loopP (S:=ByteArray×Unit) (fun s9 k10 h7=>
 (ifP (decide (((s9.1:ByteArray).size:Int)≤s5.2.1))
 ((((⟨#[48]⟩:ByteArray).size+(s9.1:ByteArray).size:Nat):Int)≤9223372036854775807 ∧
 (k10 (((⟨#[48]⟩:ByteArray)++(s9.1:ByteArray)),()) h7))
 (joinP (S:=ByteArray×Unit) (fun s11 h8=>
 (K (s11.1,decide (((s11.1:ByteArray).size:Int)≤40)) h8))
 (fun k12=>
 (ifP (decide (s5.2.1>0))
 (strCut s9.1 0 (IntKind.i64.wrap (((s9.1:ByteArray).size:Int)-s5.2.1)) fun c13=>
 ((((c13:ByteArray).size+(⟨#[46]⟩:ByteArray).size:Nat):Int)≤9223372036854775807 ∧
 (strCut s9.1 (IntKind.i64.wrap (((s9.1:ByteArray).size:Int)-s5.2.1)) ((s9.1:ByteArray).size:Int) fun c14=>
 ((((((c13:ByteArray)++(⟨#[46]⟩:ByteArray)):ByteArray).size+(c14:ByteArray).size:Nat):Int)≤9223372036854775807 ∧
 (k12 (((((c13:ByteArray)++(⟨#[46]⟩:ByteArray)):ByteArray)++(c14:ByteArray)),()) h7)))))
 (k12 (s9.1,()) h7))))))
 (r8,()) h6)) h5)
 (callP (znx (⟨(⟨s5.1.1,s5.1.2.1⟩:TInt),(⟨s5.1.2.2.1,s5.1.2.2.2.1⟩:TInt)⟩:TRat) r3) (fun r15 h9=>
 (k6 ((r15.num.neg,r15.num.mag,r15.den.neg,r15.den.mag,()),(IntKind.i64.wrap (s5.2.1+1)),()) h9)) h5))) h4)
 (K (emptyS,false) h4)))
 ((a.num.neg,a.num.mag,a.den.neg,a.den.mag,()),0,()) h3)) h2)) h1))
 (fun k2=>
 (callP (ze8 a) (fun r16 h10=>
 (ifP (!r16)
 (K (emptyS,false) h10)
 (callP (zir a) (fun r17 h11=>
 (ifP (decide (r17<0))
 (K (emptyS,false) h11)
 (k2 () h11))) h10))) h)))
def zle (e:TExpr) (K:Bool→Hp→Prop) (h:Hp):Prop:=
 (joinP (S:=Bool×Unit) (fun s1 h1=>
 (ifP (e.op==1)
 (callP (zjd e.value) (fun r3 h2=>
 (ifP r3.2
 (ifP ((e.name:ByteArray).toList==(emptyS:ByteArray).toList)
 (K ((e.args.len:Int)==0) h2)
 (callP (zgg e.name) (fun r4 h3=>
 (ifP r4
 (K ((e.args.len:Int)==0) h3)
 (K false h3))) h2))
 (K false h2))) h1)
 (ifP (e.op==2)
 (ifP s1.1
 (callP (zgg e.name) (fun r5 h4=>
 (ifP r5
 (K ((e.args.len:Int)==0) h4)
 (K false h4))) h1)
 (K false h1))
 (ifP (e.op==3)
 (ifP s1.1
 (ifP ((e.name:ByteArray).toList==(emptyS:ByteArray).toList)
 (K ((e.args.len:Int)==1) h1)
 (K false h1))
 (K false h1))
 (joinP (S:=Bool×Unit) (fun s6 h5=>
 (ifP s6.1
 (ifP s1.1
 (ifP ((e.name:ByteArray).toList==(emptyS:ByteArray).toList)
 (K ((e.args.len:Int)==2) h5)
 (K false h5))
 (K false h5))
 (K false h5)))
 (fun k7=>
 (ifP (e.op==4)
 (k7 ((e.op==4),()) h1)
 (ifP (e.op==5)
 (k7 ((e.op==5),()) h1)
 (ifP (e.op==6)
 (k7 ((e.op==6),()) h1)
 (k7 ((e.op==7),()) h1))))))))))
 (fun k2=>
 (ifP (!e.value.num.neg)
 (ifP (!e.value.den.neg)
 (ifP ((e.value.num.mag.len:Int)==0)
 (k2 (((e.value.den.mag.len:Int)==0),()) h)
 (k2 (false,()) h))
 (k2 (false,()) h))
 (k2 (false,()) h))))
def zez:Nat→TExpr→(Bool→Hp→Prop)→Hp→Prop
 | 0,_,_,_=>False
 | fuel+1,e,K,h=>
 (callP (zle e) (fun r1 h1=>
 (ifP (!r1)
 (K false h1)
 (loopP (S:=Int×Unit) (fun s2 k3 h2=>
 (ifP (decide (s2.1<(e.args.len:Int)))
 (idxP e.args s2.1 7 fun a4=>
 (ldL (.int .i64) (a4.add 0) (fun x5_0=>
 (ldL (.bool) (a4.add 1) (fun x5_1=>
 (ldL (.sl) (a4.add 2) (fun x5_2=>
 (ldL (.bool) (a4.add 3) (fun x5_3=>
 (ldL (.sl) (a4.add 4) (fun x5_4=>
 (ldL (.str) (a4.add 5) (fun x5_5=>
 (ldL (.sl) (a4.add 6) (fun x5_6=>
 (callP ((zez fuel) (⟨x5_0,(⟨(⟨x5_1,x5_2⟩:TInt),(⟨x5_3,x5_4⟩:TInt)⟩:TRat),x5_5,x5_6⟩:TExpr)) (fun r6 h3=>
 (ifP (!r6)
 (K false h3)
 (k3 ((IntKind.i64.wrap (s2.1+1)),()) h3))) h2)) h2)) h2)) h2)) h2)) h2)) h2)) h2))
 (K true h2)))
 (0,()) h1))) h)
def zkc (e:TExpr) (K:Bool→Hp→Prop) (h:Hp):Prop:=∃fuel,zez fuel e K h
def zdi:Nat→TExpr→(Int→Hp→Prop)→Hp→Prop
 | 0,_,_,_=>False
 | fuel+1,e,K,h=>
 (loopP (S:=Int×Int×Unit) (fun s1 k2 h1=>
 (ifP (decide (s1.2.1<(e.args.len:Int)))
 (idxP e.args s1.2.1 7 fun a3=>
 (ldL (.int .i64) (a3.add 0) (fun x4_0=>
 (ldL (.bool) (a3.add 1) (fun x4_1=>
 (ldL (.sl) (a3.add 2) (fun x4_2=>
 (ldL (.bool) (a3.add 3) (fun x4_3=>
 (ldL (.sl) (a3.add 4) (fun x4_4=>
 (ldL (.str) (a3.add 5) (fun x4_5=>
 (ldL (.sl) (a3.add 6) (fun x4_6=>
 (callP ((zdi fuel) (⟨x4_0,(⟨(⟨x4_1,x4_2⟩:TInt),(⟨x4_3,x4_4⟩:TInt)⟩:TRat),x4_5,x4_6⟩:TExpr)) (fun r5 h2=>
 (k2 (maxI s1.1 r5,(IntKind.i64.wrap (s1.2.1+1)),()) h2)) h1)) h1)) h1)) h1)) h1)) h1)) h1)) h1))
 (K (IntKind.i64.wrap (s1.1+1)) h1)))
 (0,0,()) h)
def zlc (e:TExpr) (K:Int→Hp→Prop) (h:Hp):Prop:=∃fuel,zdi fuel e K h
def zld (e:TExpr) (K:Int→Hp→Prop) (h:Hp):Prop:=
 (callP (zkc e) (fun r1 h1=>
 (ifP (!r1)
 (K 1 h1)
 (callP (zlc e) (fun r2 h2=>
 (ifP (decide (r2>40))
 (K 3 h2)
 (K 0 h2))) h1))) h)
def zfz (l:Sl) (K:Bool→Hp→Prop) (h:Hp):Prop:=
 (loopP (S:=Int×Unit) (fun s1 k2 h1=>
 (ifP (decide (s1.1<(l.len:Int)))
 (loopP (S:=Int×Unit) (fun s3 k4 h2=>
 (ifP (decide (s3.1<s1.1))
 (idxP l s1.1 1 fun a5=>
 (ldL (.int .i64) a5 (fun x6=>
 (idxP l s3.1 1 fun a7=>
 (ldL (.int .i64) a7 (fun x8=>
 (ifP (x6==x8)
 (K false h2)
 (k4 ((IntKind.i64.wrap (s3.1+1)),()) h2))) h2))) h2))
 (k2 ((IntKind.i64.wrap (s1.1+1)),()) h2)))
 (0,()) h1)
 (K true h1)))
 (0,()) h)
def zic (l:Sl) (n:Int) (K:Bool→Hp→Prop) (h:Hp):Prop:=
 (loopP (S:=Int×Unit) (fun s1 k2 h1=>
 (ifP (decide (s1.1<(l.len:Int)))
 (joinP (S:=Unit) (fun s3 h2=>
 (k2 ((IntKind.i64.wrap (s1.1+1)),()) h2))
 (fun k4=>
 (idxP l s1.1 1 fun a5=>
 (ldL (.int .i64) a5 (fun x6=>
 (ifP (decide (x6<0))
 (K false h1)
 (idxP l s1.1 1 fun a7=>
 (ldL (.int .i64) a7 (fun x8=>
 (ifP (decide (x8≥n))
 (K false h1)
 (k4 () h1))) h1)))) h1))))
 (K true h1)))
 (0,()) h)
def zlf (c:TConstraint) (points:Int) (circles:Int) (K:Bool→Hp→Prop) (h:Hp):Prop:=
 (callP (zn7 c.kind) (fun r1 h1=>
 (joinP (S:=Unit) (fun s2 h2=>
 (loopP (S:=Int×Unit) (fun s4 k5 h3=>
 (ifP (decide (s4.1<(c.values.len:Int)))
 (idxP c.values s4.1 7 fun a6=>
 (ldL (.int .i64) (a6.add 0) (fun x7_0=>
 (ldL (.bool) (a6.add 1) (fun x7_1=>
 (ldL (.sl) (a6.add 2) (fun x7_2=>
 (ldL (.bool) (a6.add 3) (fun x7_3=>
 (ldL (.sl) (a6.add 4) (fun x7_4=>
 (ldL (.str) (a6.add 5) (fun x7_5=>
 (ldL (.sl) (a6.add 6) (fun x7_6=>
 (callP (zld (⟨x7_0,(⟨(⟨x7_1,x7_2⟩:TInt),(⟨x7_3,x7_4⟩:TInt)⟩:TRat),x7_5,x7_6⟩:TExpr)) (fun r8 h4=>
 (ifP (r8 != 0)
 (K false h4)
 (k5 ((IntKind.i64.wrap (s4.1+1)),()) h4))) h3)) h3)) h3)) h3)) h3)) h3)) h3)) h3))
 (joinP (S:=Unit) (fun s9 h5=>
 (joinP (S:=Bool×Unit) (fun s11 h6=>
 (ifP s11.1
 (joinP (S:=Bool×Unit) (fun s13 h7=>
 (idxP c.points 0 1 fun a15=>
 (ldL (.int .i64) a15 (fun x16=>
 (idxP c.points 1 1 fun a17=>
 (ldL (.int .i64) a17 (fun x18=>
 (ifP (x16 != x18)
 (idxP c.points 2 1 fun a19=>
 (ldL (.int .i64) a19 (fun x20=>
 (idxP c.points 3 1 fun a21=>
 (ldL (.int .i64) a21 (fun x22=>
 (ifP (x20 != x22)
 (K (!s13.1) h7)
 (K false h7))) h7))) h7))
 (K false h7))) h7))) h7)))
 (fun k14=>
 (idxP c.points 0 1 fun a23=>
 (ldL (.int .i64) a23 (fun x24=>
 (idxP c.points 2 1 fun a25=>
 (ldL (.int .i64) a25 (fun x26=>
 (ifP (x24==x26)
 (idxP c.points 1 1 fun a27=>
 (ldL (.int .i64) a27 (fun x28=>
 (idxP c.points 3 1 fun a29=>
 (ldL (.int .i64) a29 (fun x30=>
 (ifP (x28==x30)
 (k14 (true,()) h6)
 (idxP c.points 0 1 fun a31=>
 (ldL (.int .i64) a31 (fun x32=>
 (idxP c.points 3 1 fun a33=>
 (ldL (.int .i64) a33 (fun x34=>
 (ifP (x32==x34)
 (idxP c.points 1 1 fun a35=>
 (ldL (.int .i64) a35 (fun x36=>
 (idxP c.points 2 1 fun a37=>
 (ldL (.int .i64) a37 (fun x38=>
 (k14 ((x36==x38),()) h6)) h6))) h6))
 (k14 (false,()) h6))) h6))) h6)))) h6))) h6))
 (idxP c.points 0 1 fun a39=>
 (ldL (.int .i64) a39 (fun x40=>
 (idxP c.points 3 1 fun a41=>
 (ldL (.int .i64) a41 (fun x42=>
 (ifP (x40==x42)
 (idxP c.points 1 1 fun a43=>
 (ldL (.int .i64) a43 (fun x44=>
 (idxP c.points 2 1 fun a45=>
 (ldL (.int .i64) a45 (fun x46=>
 (k14 ((x44==x46),()) h6)) h6))) h6))
 (k14 (false,()) h6))) h6))) h6)))) h6))) h6))))
 (callP (zfz c.points) (fun r47 h8=>
 (ifP r47
 (callP (zfz c.circles) (fun r48 h9=>
 (K r48 h9)) h8)
 (K false h8))) h6)))
 (fun k12=>
 (ifP (c.kind==5)
 (k12 ((c.kind==5),()) h5)
 (ifP (c.kind==6)
 (k12 ((c.kind==6),()) h5)
 (ifP (c.kind==7)
 (k12 ((c.kind==7),()) h5)
 (k12 ((c.kind==8),()) h5)))))))
 (fun k10=>
 (ifP r1.1.side
 (ifP (c.side != 1)
 (ifP (c.side != (-1))
 (K false h3)
 (ifP (!r1.1.side)
 (ifP (c.side != 0)
 (K false h3)
 (k10 () h3))
 (k10 () h3)))
 (ifP (!r1.1.side)
 (ifP (c.side != 0)
 (K false h3)
 (k10 () h3))
 (k10 () h3)))
 (ifP (!r1.1.side)
 (ifP (c.side != 0)
 (K false h3)
 (k10 () h3))
 (k10 () h3)))))))
 (0,()) h2))
 (fun k3=>
 (ifP (!r1.2)
 (K false h1)
 (ifP ((c.points.len:Int) != r1.1.points)
 (K false h1)
 (ifP ((c.circles.len:Int) != r1.1.circles)
 (K false h1)
 (ifP ((c.values.len:Int) != r1.1.count)
 (K false h1)
 (callP (zic c.points points) (fun r49 h10=>
 (ifP (!r49)
 (K false h10)
 (callP (zic c.circles circles) (fun r50 h11=>
 (ifP (!r50)
 (K false h11)
 (k3 () h11))) h10))) h1)))))))) h)
def zdd (s:TSketch) (K:Int→Hp→Prop) (h:Hp):Prop:=
 (callP (zmi s) (fun r1 h1=>
 (ifP r1
 (K 3 h1)
 (loopP (S:=Int×Unit) (fun s2 k3 h2=>
 (ifP (decide (s2.1<(s.points.len:Int)))
 (joinP (S:=Unit) (fun s4 h3=>
 (k3 ((IntKind.i64.wrap (s2.1+1)),()) h3))
 (fun k5=>
 (idxP s.points s2.1 8 fun a6=>
 (ldL (.bool) ((a6.add 0).add 0) (fun x7_0=>
 (ldL (.sl) ((a6.add 0).add 1) (fun x7_1=>
 (ldL (.bool) ((a6.add 0).add 2) (fun x7_2=>
 (ldL (.sl) ((a6.add 0).add 3) (fun x7_3=>
 (callP (ze8 (⟨(⟨x7_0,x7_1⟩:TInt),(⟨x7_2,x7_3⟩:TInt)⟩:TRat)) (fun r8 h4=>
 (ifP (!r8)
 (K 1 h4)
 (idxP s.points s2.1 8 fun a9=>
 (ldL (.bool) ((a9.add 4).add 0) (fun x10_0=>
 (ldL (.sl) ((a9.add 4).add 1) (fun x10_1=>
 (ldL (.bool) ((a9.add 4).add 2) (fun x10_2=>
 (ldL (.sl) ((a9.add 4).add 3) (fun x10_3=>
 (callP (ze8 (⟨(⟨x10_0,x10_1⟩:TInt),(⟨x10_2,x10_3⟩:TInt)⟩:TRat)) (fun r11 h5=>
 (ifP (!r11)
 (K 1 h5)
 (k5 () h5))) h4)) h4)) h4)) h4)) h4)))) h2)) h2)) h2)) h2)) h2))))
 (loopP (S:=Int×Unit) (fun s12 k13 h6=>
 (ifP (decide (s12.1<(s.circles.len:Int)))
 (joinP (S:=Unit) (fun s14 h7=>
 (k13 ((IntKind.i64.wrap (s12.1+1)),()) h7))
 (fun k15=>
 (idxP s.circles s12.1 5 fun a16=>
 (ldL (.int .i64) (a16.add 0) (fun x17_0=>
 (ldL (.bool) (a16.add 1) (fun x17_1=>
 (ldL (.sl) (a16.add 2) (fun x17_2=>
 (ldL (.bool) (a16.add 3) (fun x17_3=>
 (ldL (.sl) (a16.add 4) (fun x17_4=>
 (callP (zek (s.points.len:Int) x17_0) (fun r18 h8=>
 (ifP (!r18)
 (K 1 h8)
 (callP (ze8 (⟨(⟨x17_1,x17_2⟩:TInt),(⟨x17_3,x17_4⟩:TInt)⟩:TRat)) (fun r19 h9=>
 (ifP (!r19)
 (K 1 h9)
 (callP (zir (⟨(⟨x17_1,x17_2⟩:TInt),(⟨x17_3,x17_4⟩:TInt)⟩:TRat)) (fun r20 h10=>
 (ifP (decide (r20≤0))
 (K 1 h10)
 (k15 () h10))) h9))) h8))) h6)) h6)) h6)) h6)) h6)) h6))))
 (loopP (S:=Int×Unit) (fun s21 k22 h11=>
 (ifP (decide (s21.1<(s.segments.len:Int)))
 (joinP (S:=Unit) (fun s23 h12=>
 (k22 ((IntKind.i64.wrap (s21.1+1)),()) h12))
 (fun k24=>
 (idxP s.segments s21.1 2 fun a25=>
 (ldL (.int .i64) (a25.add 0) (fun x26_0=>
 (ldL (.int .i64) (a25.add 1) (fun x26_1=>
 (callP (zek (s.points.len:Int) x26_0) (fun r27 h13=>
 (ifP (!r27)
 (K 1 h13)
 (callP (zek (s.points.len:Int) x26_1) (fun r28 h14=>
 (ifP (!r28)
 (K 1 h14)
 (ifP (x26_0==x26_1)
 (K 1 h14)
 (k24 () h14)))) h13))) h11)) h11)) h11))))
 (loopP (S:=Int×Unit) (fun s29 k30 h15=>
 (ifP (decide (s29.1<(s.arcs.len:Int)))
 (joinP (S:=Unit) (fun s31 h16=>
 (k30 ((IntKind.i64.wrap (s29.1+1)),()) h16))
 (fun k32=>
 (idxP s.arcs s29.1 4 fun a33=>
 (ldL (.int .i64) (a33.add 0) (fun x34_0=>
 (ldL (.int .i64) (a33.add 1) (fun x34_1=>
 (ldL (.int .i64) (a33.add 2) (fun x34_2=>
 (ldL (.bool) (a33.add 3) (fun x34_3=>
 (callP (zek (s.circles.len:Int) x34_0) (fun r35 h17=>
 (ifP (!r35)
 (K 1 h17)
 (callP (zek (s.points.len:Int) x34_1) (fun r36 h18=>
 (ifP (!r36)
 (K 1 h18)
 (callP (zek (s.points.len:Int) x34_2) (fun r37 h19=>
 (ifP (!r37)
 (K 1 h19)
 (idxP s.circles x34_0 5 fun a38=>
 (ldL (.int .i64) (a38.add 0) (fun x39=>
 (ifP (x34_1==x39)
 (K 1 h19)
 (idxP s.circles x34_0 5 fun a40=>
 (ldL (.int .i64) (a40.add 0) (fun x41=>
 (ifP (x34_2==x41)
 (K 1 h19)
 (k32 () h19))) h19)))) h19)))) h18))) h17))) h15)) h15)) h15)) h15)) h15))))
 (loopP (S:=Int×Unit) (fun s42 k43 h20=>
 (ifP (decide (s42.1<(s.chains.len:Int)))
 (idxP s.chains s42.1 1 fun a44=>
 (ldL (.sl) a44 (fun x45=>
 (callP (zlh s x45) (fun r46 h21=>
 (ifP (!r46)
 (K 1 h21)
 (k43 ((IntKind.i64.wrap (s42.1+1)),()) h21))) h20)) h20))
 (loopP (S:=Int×Unit) (fun s47 k48 h22=>
 (ifP (decide (s47.1<(s.constraints.len:Int)))
 (idxP s.constraints s47.1 5 fun a49=>
 (ldL (.int .i64) (a49.add 0) (fun x50_0=>
 (ldL (.sl) (a49.add 1) (fun x50_1=>
 (ldL (.sl) (a49.add 2) (fun x50_2=>
 (ldL (.sl) (a49.add 3) (fun x50_3=>
 (ldL (.int .i64) (a49.add 4) (fun x50_4=>
 (callP (zlf (⟨x50_0,x50_1,x50_2,x50_3,x50_4⟩:TConstraint) (s.points.len:Int) (s.circles.len:Int)) (fun r51 h23=>
 (ifP (!r51)
 (K 1 h23)
 (k48 ((IntKind.i64.wrap (s47.1+1)),()) h23))) h22)) h22)) h22)) h22)) h22)) h22))
 (K 0 h22)))
 (0,()) h20)))
 (0,()) h15)))
 (0,()) h11)))
 (0,()) h6)))
 (0,()) h2)))
 (0,()) h1))) h)
def zn8 (c:TConstraint) (point:Int) (circle:Int) (K:Bool→Hp→Prop) (h:Hp):Prop:=
 (ifP (c.kind==13)
 (idxP c.points 0 1 fun a1=>
 (ldL (.int .i64) a1 (fun x2=>
 (ifP (x2==point)
 (idxP c.circles 0 1 fun a3=>
 (ldL (.int .i64) a3 (fun x4=>
 (K (x4==circle) h)) h))
 (K false h))) h))
 (K false h))
def zje (s:TSketch) (K:Sl→Hp→Prop) (h:Hp):Prop:=
 (newP [] (fun p1 h1=>
 (rdO s.constraints.a (s.constraints.len*5) (fun vs2=>
 (appP 5 88 [.int .i64 0,.slice nilS.a nilS.len nilS.cap,.slice nilS.a nilS.len nilS.cap,.slice nilS.a nilS.len nilS.cap,.int .i64 0] (⟨some p1,0,0⟩:Sl) s.constraints.len vs2 (fun w3 h2=>
 (loopP (S:=Sl×Int×Unit) (fun s4 k5 h3=>
 (ifP (decide (s4.2.1<(s.arcs.len:Int)))
 (idxP s.arcs s4.2.1 4 fun a6=>
 (ldL (.int .i64) (a6.add 0) (fun x7_0=>
 (ldL (.int .i64) (a6.add 1) (fun x7_1=>
 (ldL (.int .i64) (a6.add 2) (fun x7_2=>
 (ldL (.bool) (a6.add 3) (fun x7_3=>
 (newP [.int .i64 x7_1,.int .i64 x7_2] (fun p8 h4=>
 (loopP (S:=Sl×Int×Unit) (fun s9 k10 h5=>
 (ifP (decide (s9.2.1<2))
 (joinP (S:=Sl×Unit) (fun s11 h6=>
 (k10 (s11.1,(IntKind.i64.wrap (s9.2.1+1)),()) h6))
 (fun k12=>
 (loopP (S:=Bool×Int×Unit) (fun s13 k14 h7=>
 (ifP (decide (s13.2.1<(s9.1.len:Int)))
 (joinP (S:=Bool×Unit) (fun s15 h8=>
 (k14 (s15.1,(IntKind.i64.wrap (s13.2.1+1)),()) h8))
 (fun k16=>
 (ifP s13.1
 (k16 (true,()) h7)
 (idxP s9.1 s13.2.1 5 fun a17=>
 (ldL (.int .i64) (a17.add 0) (fun x18_0=>
 (ldL (.sl) (a17.add 1) (fun x18_1=>
 (ldL (.sl) (a17.add 2) (fun x18_2=>
 (ldL (.sl) (a17.add 3) (fun x18_3=>
 (ldL (.int .i64) (a17.add 4) (fun x18_4=>
 (idxP (⟨some p8,2,2⟩:Sl) s9.2.1 1 fun a19=>
 (ldL (.int .i64) a19 (fun x20=>
 (callP (zn8 (⟨x18_0,x18_1,x18_2,x18_3,x18_4⟩:TConstraint) x20 x7_0) (fun r21 h9=>
 (k16 (r21,()) h9)) h7)) h7))) h7)) h7)) h7)) h7)) h7)))))
 (ifP (!s13.1)
 (idxP (⟨some p8,2,2⟩:Sl) s9.2.1 1 fun a22=>
 (ldL (.int .i64) a22 (fun x23=>
 (newP [.int .i64 x23] (fun p24 h10=>
 (newP [.int .i64 x7_0] (fun p25 h11=>
 (appP 5 88 [.int .i64 0,.slice nilS.a nilS.len nilS.cap,.slice nilS.a nilS.len nilS.cap,.slice nilS.a nilS.len nilS.cap,.int .i64 0] s9.1 1 [.int .i64 13,.slice (⟨some p24,1,1⟩:Sl).a (⟨some p24,1,1⟩:Sl).len (⟨some p24,1,1⟩:Sl).cap,.slice (⟨some p25,1,1⟩:Sl).a (⟨some p25,1,1⟩:Sl).len (⟨some p25,1,1⟩:Sl).cap,.slice nilS.a nilS.len nilS.cap,.int .i64 0] (fun w26 h12=>
 (k12 (w26,()) h12)) h11)) h10)) h7)) h7))
 (k12 (s9.1,()) h7))))
 (false,0,()) h5)))
 (k5 (s9.1,(IntKind.i64.wrap (s4.2.1+1)),()) h5)))
 (s4.1,0,()) h4)) h3)) h3)) h3)) h3)) h3))
 (slP s4.1 (s.constraints.len:Int) (s4.1.len:Int) 5 fun c27=>
 (K c27 h3))))
 (w3,0,()) h2)) h1)) h1)) h)
def zid (s:TSketch) (K:Sl→Hp→Prop) (h:Hp):Prop:=
 (newP [] (fun p1 h1=>
 (rdO s.constraints.a (s.constraints.len*5) (fun vs2=>
 (appP 5 88 [.int .i64 0,.slice nilS.a nilS.len nilS.cap,.slice nilS.a nilS.len nilS.cap,.slice nilS.a nilS.len nilS.cap,.int .i64 0] (⟨some p1,0,0⟩:Sl) s.constraints.len vs2 (fun w3 h2=>
 (callP (zje s) (fun r4 h3=>
 (rdO r4.a (r4.len*5) (fun vs5=>
 (appP 5 88 [.int .i64 0,.slice nilS.a nilS.len nilS.cap,.slice nilS.a nilS.len nilS.cap,.slice nilS.a nilS.len nilS.cap,.int .i64 0] w3 r4.len vs5 (fun w6 h4=>
 (K w6 h4)) h3)) h3)) h2)) h1)) h1)) h)
def zfo (s:TSketch) (K:Sl→Hp→Prop) (h:Hp):Prop:=
 (loopP (S:=Sl×Int×Unit) (fun s1 k2 h1=>
 (ifP (decide (s1.2.1<(s.circles.len:Int)))
 (idxP s.circles s1.2.1 5 fun a3=>
 (ldL (.int .i64) (a3.add 0) (fun x4=>
 (appP 1 8 [.int .i64 0] s1.1 1 [.int .i64 x4] (fun w5 h2=>
 (k2 (w5,(IntKind.i64.wrap (s1.2.1+1)),()) h2)) h1)) h1))
 (K s1.1 h1)))
 (nilS,0,()) h)
def zlj (c:TConstraint) (centers:Sl) (K:Sl→Hp→Prop) (h:Hp):Prop:=
 (newP [] (fun p1 h1=>
 (rdO c.points.a (c.points.len*1) (fun vs2=>
 (appP 1 8 [.int .i64 0] (⟨some p1,0,0⟩:Sl) c.points.len vs2 (fun w3 h2=>
 (loopP (S:=Sl×Int×Unit) (fun s4 k5 h3=>
 (ifP (decide (s4.2.1<(c.circles.len:Int)))
 (joinP (S:=Sl×Unit) (fun s6 h4=>
 (k5 (s6.1,(IntKind.i64.wrap (s4.2.1+1)),()) h4))
 (fun k7=>
 (idxP c.circles s4.2.1 1 fun a8=>
 (ldL (.int .i64) a8 (fun x9=>
 (appP 1 8 [.int .i64 0] s4.1 1 [.int .i64 (IntKind.i64.wrap ((-1)-x9))] (fun w10 h5=>
 (ifP (c.kind==13)
 (idxP c.circles s4.2.1 1 fun a11=>
 (ldL (.int .i64) a11 (fun x12=>
 (idxP centers x12 1 fun a13=>
 (ldL (.int .i64) a13 (fun x14=>
 (appP 1 8 [.int .i64 0] w10 1 [.int .i64 x14] (fun w15 h6=>
 (k7 (w15,()) h6)) h5)) h5))) h5))
 (ifP (c.kind==16)
 (idxP c.circles s4.2.1 1 fun a16=>
 (ldL (.int .i64) a16 (fun x17=>
 (idxP centers x17 1 fun a18=>
 (ldL (.int .i64) a18 (fun x19=>
 (appP 1 8 [.int .i64 0] w10 1 [.int .i64 x19] (fun w20 h7=>
 (k7 (w20,()) h7)) h5)) h5))) h5))
 (ifP (c.kind==17)
 (idxP c.circles s4.2.1 1 fun a21=>
 (ldL (.int .i64) a21 (fun x22=>
 (idxP centers x22 1 fun a23=>
 (ldL (.int .i64) a23 (fun x24=>
 (appP 1 8 [.int .i64 0] w10 1 [.int .i64 x24] (fun w25 h8=>
 (k7 (w25,()) h8)) h5)) h5))) h5))
 (k7 (w10,()) h5))))) h3)) h3))))
 (K s4.1 h3)))
 (w3,0,()) h2)) h1)) h1)) h)
def zg0 (l:Sl) (n:Int) (K:Bool→Hp→Prop) (h:Hp):Prop:=
 (loopP (S:=Int×Unit) (fun s1 k2 h1=>
 (ifP (decide (s1.1<(l.len:Int)))
 (idxP l s1.1 1 fun a3=>
 (ldL (.int .i64) a3 (fun x4=>
 (ifP (x4==n)
 (K true h1)
 (k2 ((IntKind.i64.wrap (s1.1+1)),()) h1))) h1))
 (K false h1)))
 (0,()) h)
def zer (s:TSketch) (item:Int) (removed:Sl) (K:Sl→Hp→Prop) (h:Hp):Prop:=
 (callP (zid s) (fun r1 h1=>
 (callP (zfo s) (fun r2 h2=>
 (loopP (S:=Sl×Int×Unit) (fun s3 k4 h3=>
 (ifP (decide (s3.2.1<(r1.len:Int)))
 (joinP (S:=Sl×Unit) (fun s5 h4=>
 (k4 (s5.1,(IntKind.i64.wrap (s3.2.1+1)),()) h4))
 (fun k6=>
 (idxP r1 s3.2.1 5 fun a7=>
 (ldL (.int .i64) (a7.add 0) (fun x8_0=>
 (ldL (.sl) (a7.add 1) (fun x8_1=>
 (ldL (.sl) (a7.add 2) (fun x8_2=>
 (ldL (.sl) (a7.add 3) (fun x8_3=>
 (ldL (.int .i64) (a7.add 4) (fun x8_4=>
 (callP (zlj (⟨x8_0,x8_1,x8_2,x8_3,x8_4⟩:TConstraint) r2) (fun r9 h5=>
 (loopP (S:=Bool×Int×Unit) (fun s10 k11 h6=>
 (ifP (decide (s10.2.1<(r9.len:Int)))
 (joinP (S:=Bool×Unit) (fun s12 h7=>
 (k11 (s12.1,(IntKind.i64.wrap (s10.2.1+1)),()) h7))
 (fun k13=>
 (ifP s10.1
 (k13 (true,()) h6)
 (idxP r9 s10.2.1 1 fun a14=>
 (ldL (.int .i64) a14 (fun x15=>
 (callP (zg0 removed x15) (fun r16 h8=>
 (k13 (r16,()) h8)) h6)) h6)))))
 (ifP (!s10.1)
 (callP (zg0 r9 item) (fun r17 h9=>
 (ifP r17
 (appP 1 8 [.int .i64 0] s3.1 1 [.int .i64 s3.2.1] (fun w18 h10=>
 (k6 (w18,()) h10)) h9)
 (k6 (s3.1,()) h9))) h6)
 (k6 (s3.1,()) h6))))
 (false,0,()) h5)) h3)) h3)) h3)) h3)) h3)) h3))))
 (K s3.1 h3)))
 (nilS,0,()) h2)) h1)) h)
def zeq (c:TConstraint) (K:Int→Hp→Prop) (h:Hp):Prop:=
 (callP (zn7 c.kind) (fun r1 h1=>
 (K r1.1.equations h1)) h)
def zie (s:TSketch) (l:Sl) (K:Int→Hp→Prop) (h:Hp):Prop:=
 (callP (zid s) (fun r1 h1=>
 (loopP (S:=Int×Int×Unit) (fun s2 k3 h2=>
 (ifP (decide (s2.2.1<(l.len:Int)))
 (idxP l s2.2.1 1 fun a4=>
 (ldL (.int .i64) a4 (fun x5=>
 (idxP r1 x5 5 fun a6=>
 (ldL (.int .i64) (a6.add 0) (fun x7_0=>
 (ldL (.sl) (a6.add 1) (fun x7_1=>
 (ldL (.sl) (a6.add 2) (fun x7_2=>
 (ldL (.sl) (a6.add 3) (fun x7_3=>
 (ldL (.int .i64) (a6.add 4) (fun x7_4=>
 (callP (zeq (⟨x7_0,x7_1,x7_2,x7_3,x7_4⟩:TConstraint)) (fun r8 h3=>
 (k3 ((IntKind.i64.wrap (s2.1+r8)),(IntKind.i64.wrap (s2.2.1+1)),()) h3)) h2)) h2)) h2)) h2)) h2)) h2))) h2))
 (K s2.1 h2)))
 (0,0,()) h1)) h)
def zd1 (c:TConstraint) (centers:Sl) (i:Int) (K:Int→Hp→Prop) (h:Hp):Prop:=
 (idxP c.circles i 1 fun a1=>
 (ldL (.int .i64) a1 (fun x2=>
 (idxP centers x2 1 fun a3=>
 (ldL (.int .i64) a3 (fun x4=>
 (K x4 h)) h))) h))
def zn9 (c:TConstraint) (target:Int) (K:Bool→Hp→Prop) (h:Hp):Prop:=
 (loopP (S:=Int×Unit) (fun s1 k2 h1=>
 (ifP (decide (s1.1<(c.points.len:Int)))
 (idxP c.points s1.1 1 fun a3=>
 (ldL (.int .i64) a3 (fun x4=>
 (ifP (x4==target)
 (K true h1)
 (k2 ((IntKind.i64.wrap (s1.1+1)),()) h1))) h1))
 (K false h1)))
 (0,()) h)
def zli (c:TConstraint) (centers:Sl) (which:Int) (K:Bool→Hp→Prop) (h:Hp):Prop:=
 (loopP (S:=Bool×Int×Unit) (fun s1 k2 h1=>
 (ifP (decide (s1.2.1<(c.circles.len:Int)))
 (joinP (S:=Bool×Unit) (fun s3 h2=>
 (k2 (s3.1,(IntKind.i64.wrap (s1.2.1+1)),()) h2))
 (fun k4=>
 (ifP s1.1
 (k4 (true,()) h1)
 (idxP c.circles s1.2.1 1 fun a5=>
 (ldL (.int .i64) a5 (fun x6=>
 (k4 ((x6==which),()) h1)) h1)))))
 (ifP (!s1.1)
 (K false h1)
 (joinP (S:=Bool×Unit) (fun s7 h3=>
 (ifP s7.1
 (callP (zd1 c centers 0) (fun r9 h4=>
 (callP (zn9 c r9) (fun r10 h5=>
 (K (!r10) h5)) h4)) h3)
 (ifP (c.kind==17)
 (ifP (c.side==1)
 (callP (zd1 c centers 0) (fun r11 h6=>
 (callP (zd1 c centers 1) (fun r12 h7=>
 (K (r11 != r12) h7)) h6)) h3)
 (K false h3))
 (K true h3))))
 (fun k8=>
 (ifP (c.kind==13)
 (k8 ((c.kind==13),()) h1)
 (k8 ((c.kind==16),()) h1)))))))
 (false,0,()) h)
def zjs (c:TConstraint) (i:Int) (target:Int) (K:Bool→Hp→Prop) (h:Hp):Prop:=
 (idxP c.points i 1 fun a1=>
 (ldL (.int .i64) a1 (fun x2=>
 (ifP (x2==target)
 (K true h)
 (idxP c.points (IntKind.i64.wrap (i+1)) 1 fun a3=>
 (ldL (.int .i64) a3 (fun x4=>
 (K (x4==target) h)) h)))) h))
def zg8 (c:TConstraint) (target:Int) (one:Int) (both:Int) (K:Int→Hp→Prop) (h:Hp):Prop:=
 (callP (zjs c 0 target) (fun r1 h1=>
 (callP (zjs c 2 target) (fun r2 h2=>
 (joinP (S:=Unit) (fun s3 h3=>
 (ifP r1
 (K one h3)
 (ifP r2
 (K one h3)
 (K 0 h3))))
 (fun k4=>
 (ifP r1
 (ifP r2
 (K both h2)
 (k4 () h2))
 (k4 () h2))))) h1)) h)
def zmk (c:TConstraint) (centers:Sl) (target:Int) (K:Int→Hp→Prop) (h:Hp):Prop:=
 (callP (zn9 c target) (fun r1 h1=>
 (joinP (S:=Bool×Unit) (fun s2 h2=>
 (ifP s2.1
 (ifP r1
 (K 1 h2)
 (K 0 h2))
 (ifP (c.kind==2)
 (ifP r1
 (K 2 h2)
 (K 0 h2))
 (joinP (S:=Bool×Unit) (fun s4 h3=>
 (ifP s4.1
 (ifP r1
 (K 3 h3)
 (K 0 h3))
 (ifP (c.kind==4)
 (idxP c.points 0 1 fun a6=>
 (ldL (.int .i64) a6 (fun x7=>
 (ifP (x7==target)
 (K 3 h3)
 (K 0 h3))) h3))
 (joinP (S:=Bool×Unit) (fun s8 h4=>
 (ifP s8.1
 (callP (zg8 c target 3 2) (fun r10 h5=>
 (K r10 h5)) h4)
 (ifP (c.kind==6)
 (callP (zg8 c target 3 3) (fun r11 h6=>
 (K r11 h6)) h4)
 (ifP (c.kind==8)
 (callP (zg8 c target 2 3) (fun r12 h7=>
 (K r12 h7)) h4)
 (ifP (c.kind==10)
 (callP (zjs c 0 target) (fun r13 h8=>
 (ifP r13
 (K 1 h8)
 (K 0 h8))) h4)
 (ifP (c.kind==13)
 (callP (zd1 c centers 0) (fun r14 h9=>
 (ifP (!(r1==(r14==target)))
 (K 2 h9)
 (K 0 h9))) h4)
 (ifP (c.kind==16)
 (ifP (!r1)
 (callP (zd1 c centers 0) (fun r15 h10=>
 (ifP (r15==target)
 (K 3 h10)
 (K 0 h10))) h4)
 (K 0 h4))
 (ifP (c.kind==17)
 (callP (zd1 c centers 0) (fun r16 h11=>
 (callP (zd1 c centers 1) (fun r17 h12=>
 (ifP (!((r16==target)==(r17==target)))
 (K 2 h12)
 (K 0 h12))) h11)) h4)
 (K 0 h4)))))))))
 (fun k9=>
 (ifP (c.kind==5)
 (k9 ((c.kind==5),()) h3)
 (k9 ((c.kind==7),()) h3)))))))
 (fun k5=>
 (ifP (c.kind==3)
 (k5 ((c.kind==3),()) h2)
 (ifP (c.kind==11)
 (k5 ((c.kind==11),()) h2)
 (k5 ((c.kind==12),()) h2))))))))
 (fun k3=>
 (ifP (c.kind==1)
 (k3 ((c.kind==1),()) h1)
 (k3 ((c.kind==9),()) h1))))) h)
def zis (c:TConstraint) (centers:Sl) (target:Int) (K:Int→Hp→Prop) (h:Hp):Prop:=
 (newP [.int .i64 0,.int .i64 3,.int .i64 2,.int .i64 1] (fun p1 h1=>
 (callP (zmk c centers target) (fun r2 h2=>
 (idxP (⟨some p1,4,4⟩:Sl) r2 1 fun a3=>
 (ldL (.int .i64) a3 (fun x4=>
 (K x4 h2)) h2))) h1)) h)
def zlk (c:TConstraint) (centers:Sl) (item:Int) (K:Bool→Hp→Prop) (h:Hp):Prop:=
 (ifP (decide (item<0))
 (callP (zli c centers (IntKind.i64.wrap ((-1)-item))) (fun r1 h1=>
 (K r1 h1)) h)
 (callP (zis c centers item) (fun r2 h2=>
 (callP (zeq c) (fun r3 h3=>
 (ifP (r3==2)
 (K (r2==3) h3)
 (ifP (r2==1)
 (K true h3)
 (K (r2==2) h3)))) h2)) h))
def zdj (s:TSketch) (item:Int) (removed:Sl) (K:Bool→Hp→Prop) (h:Hp):Prop:=
 (joinP (S:=Unit) (fun s1 h1=>
 (callP (zid s) (fun r3 h2=>
 (callP (zfo s) (fun r4 h3=>
 (callP (zer s item removed) (fun r5 h4=>
 (joinP (S:=Int×Unit) (fun s6 h5=>
 (callP (zie s r5) (fun r8 h6=>
 (ifP (decide (r8>s6.1))
 (K false h6)
 (loopP (S:=Int×Unit) (fun s9 k10 h7=>
 (ifP (decide (s9.1<(r5.len:Int)))
 (idxP r5 s9.1 1 fun a11=>
 (ldL (.int .i64) a11 (fun x12=>
 (idxP r3 x12 5 fun a13=>
 (ldL (.int .i64) (a13.add 0) (fun x14_0=>
 (ldL (.sl) (a13.add 1) (fun x14_1=>
 (ldL (.sl) (a13.add 2) (fun x14_2=>
 (ldL (.sl) (a13.add 3) (fun x14_3=>
 (ldL (.int .i64) (a13.add 4) (fun x14_4=>
 (callP (zlk (⟨x14_0,x14_1,x14_2,x14_3,x14_4⟩:TConstraint) r4 item) (fun r15 h8=>
 (ifP (!r15)
 (K false h8)
 (k10 ((IntKind.i64.wrap (s9.1+1)),()) h8))) h7)) h7)) h7)) h7)) h7)) h7))) h7))
 (K true h7)))
 (0,()) h6))) h5))
 (fun k7=>
 (ifP (decide (item<0))
 (k7 (1,()) h4)
 (k7 (2,()) h4))))) h3)) h2)) h1))
 (fun k2=>
 (callP (zdd s) (fun r16 h9=>
 (ifP (r16 != 0)
 (K false h9)
 (callP (zgk s) (fun r17 h10=>
 (callP (zg0 r17 item) (fun r18 h11=>
 (ifP (!r18)
 (K false h11)
 (callP (zg0 removed item) (fun r19 h12=>
 (ifP r19
 (K false h12)
 (k2 () h12))) h11))) h10)) h9))) h)))
def zgh (s:TSketch) (preference:Sl) (K:(Sl×Sl)→Hp→Prop) (h:Hp):Prop:=
 (callP (zdd s) (fun r1 h1=>
 (ifP (r1 != 0)
 (K (nilS,nilS) h1)
 (loopP (S:=Sl×Bool×Unit) (fun s2 k3 h2=>
 (ifP s2.2.1
 (loopP (S:=Sl×Bool×Int×Unit) (fun s4 k5 h3=>
 (joinP (S:=Unit) (fun s6 h4=>
 (joinP (S:=Sl×Bool×Unit) (fun s8 h5=>
 (k5 (s8.1,s8.2.1,(IntKind.i64.wrap (s4.2.2.1+1)),()) h5))
 (fun k9=>
 (idxP preference s4.2.2.1 1 fun a10=>
 (ldL (.int .i64) a10 (fun x11=>
 (callP (zdj s x11 s4.1) (fun r12 h6=>
 (ifP r12
 (idxP preference s4.2.2.1 1 fun a13=>
 (ldL (.int .i64) a13 (fun x14=>
 (appP 1 8 [.int .i64 0] s4.1 1 [.int .i64 x14] (fun w15 h7=>
 (k9 (w15,true,()) h7)) h6)) h6))
 (k9 (s4.1,s4.2.1,()) h6))) h4)) h4)))))
 (fun k7=>
 (ifP (decide (s4.2.2.1<(preference.len:Int)))
 (ifP (!s4.2.1)
 (k7 () h3)
 (k3 (s4.1,s4.2.1,()) h3))
 (k3 (s4.1,s4.2.1,()) h3)))))
 (s2.1,false,0,()) h2)
 (loopP (S:=Sl×Int×Unit) (fun s16 k17 h8=>
 (ifP (decide (s16.2.1<(preference.len:Int)))
 (joinP (S:=Sl×Unit) (fun s18 h9=>
 (k17 (s18.1,(IntKind.i64.wrap (s16.2.1+1)),()) h9))
 (fun k19=>
 (idxP preference s16.2.1 1 fun a20=>
 (ldL (.int .i64) a20 (fun x21=>
 (callP (zg0 s2.1 x21) (fun r22 h10=>
 (ifP (!r22)
 (idxP preference s16.2.1 1 fun a23=>
 (ldL (.int .i64) a23 (fun x24=>
 (appP 1 8 [.int .i64 0] s16.1 1 [.int .i64 x24] (fun w25 h11=>
 (k19 (w25,()) h11)) h10)) h10))
 (k19 (s16.1,()) h10))) h8)) h8))))
 (K (s2.1,s16.1) h8)))
 (nilS,0,()) h2)))
 (nilS,true,()) h1))) h)
def zke (s:TSketch) (K:(Sl×Sl)→Hp→Prop) (h:Hp):Prop:=
 (callP (zgk s) (fun r1 h1=>
 (callP (zgh s r1) (fun r2 h2=>
 (K (r2.1,r2.2) h2)) h1)) h)
def zcl (a:Sl) (b:Sl) (K:Bool→Hp→Prop) (h:Hp):Prop:=
 (ifP ((a.len:Int) != (b.len:Int))
 (K false h)
 (loopP (S:=Int×Unit) (fun s1 k2 h1=>
 (ifP (decide (s1.1<(a.len:Int)))
 (idxP a s1.1 1 fun a3=>
 (ldL (.int .i64) a3 (fun x4=>
 (idxP b s1.1 1 fun a5=>
 (ldL (.int .i64) a5 (fun x6=>
 (ifP (x4 != x6)
 (K false h1)
 (k2 ((IntKind.i64.wrap (s1.1+1)),()) h1))) h1))) h1))
 (K true h1)))
 (0,()) h))
def zep (n:Int) (K:TSketch→Hp→Prop) (h:Hp):Prop:=
 (loopP (S:=(Sl×Sl×Sl×Sl×Sl×Sl×Unit)×Int×Unit) (fun s1 k2 h1=>
 (ifP (decide (s1.2.1<n))
 (callP (zd4 s1.2.1) (fun r3 h2=>
 (callP (zd4 (IntKind.i64.wrap (s1.2.1*s1.2.1))) (fun r4 h3=>
 (appP 8 128 [.bool false,.slice nilS.a nilS.len nilS.cap,.bool false,.slice nilS.a nilS.len nilS.cap,.bool false,.slice nilS.a nilS.len nilS.cap,.bool false,.slice nilS.a nilS.len nilS.cap] s1.1.1 1 [.bool r3.num.neg,.slice r3.num.mag.a r3.num.mag.len r3.num.mag.cap,.bool r3.den.neg,.slice r3.den.mag.a r3.den.mag.len r3.den.mag.cap,.bool r4.num.neg,.slice r4.num.mag.a r4.num.mag.len r4.num.mag.cap,.bool r4.den.neg,.slice r4.den.mag.a r4.den.mag.len r4.den.mag.cap] (fun w5 h4=>
 (loopP (S:=(Sl×Sl×Sl×Sl×Sl×Sl×Unit)×Int×Unit) (fun s6 k7 h5=>
 (ifP (decide (s6.2.1<s1.2.1))
 (callP (zd4 5) (fun r8 h6=>
 (newP [.int .i64 s6.2.1,.int .i64 s1.2.1] (fun p9 h7=>
 (newP [.int .i64 1,.bool r8.num.neg,.slice r8.num.mag.a r8.num.mag.len r8.num.mag.cap,.bool r8.den.neg,.slice r8.den.mag.a r8.den.mag.len r8.den.mag.cap,.string emptyS,.slice nilS.a nilS.len nilS.cap] (fun p10 h8=>
 (appP 5 88 [.int .i64 0,.slice nilS.a nilS.len nilS.cap,.slice nilS.a nilS.len nilS.cap,.slice nilS.a nilS.len nilS.cap,.int .i64 0] s6.1.2.2.2.2.2.1 1 [.int .i64 2,.slice (⟨some p9,2,2⟩:Sl).a (⟨some p9,2,2⟩:Sl).len (⟨some p9,2,2⟩:Sl).cap,.slice nilS.a nilS.len nilS.cap,.slice (⟨some p10,1,1⟩:Sl).a (⟨some p10,1,1⟩:Sl).len (⟨some p10,1,1⟩:Sl).cap,.int .i64 0] (fun w11 h9=>
 (k7 ((s6.1.1,s6.1.2.1,s6.1.2.2.1,s6.1.2.2.2.1,s6.1.2.2.2.2.1,w11,()),(IntKind.i64.wrap (s6.2.1+1)),()) h9)) h8)) h7)) h6)) h5)
 (k2 ((s6.1.1,s6.1.2.1,s6.1.2.2.1,s6.1.2.2.2.1,s6.1.2.2.2.2.1,s6.1.2.2.2.2.2.1,()),(IntKind.i64.wrap (s1.2.1+1)),()) h5)))
 ((w5,s1.1.2.1,s1.1.2.2.1,s1.1.2.2.2.1,s1.1.2.2.2.2.1,s1.1.2.2.2.2.2.1,()),0,()) h4)) h3)) h2)) h1)
 (K (⟨s1.1.1,s1.1.2.1,s1.1.2.2.1,s1.1.2.2.2.1,s1.1.2.2.2.2.1,s1.1.2.2.2.2.2.1⟩:TSketch) h1)))
 ((nilS,nilS,nilS,nilS,nilS,nilS,()),0,()) h)
def y_henneberg_peeler_step (p:(Option Addr)) (item:Int) (uses:Sl) (K:TStep→Hp→Prop) (h:Hp):Prop:=
 (ifP (decide (item<0))
 (joinP (S:=(Int×Int×Sl×Int×Unit)×Unit) (fun s1 h1=>
 (K (⟨s1.1.1,s1.1.2.1,s1.1.2.2.1,s1.1.2.2.2.1⟩:TStep) h1))
 (fun k2=>
 (ifP (decide ((uses.len:Int)>0))
 (k2 ((6,(IntKind.i64.wrap ((-1)-item)),uses,0,()),()) h)
 (k2 ((5,(IntKind.i64.wrap ((-1)-item)),uses,0,()),()) h))))
 (joinP (S:=(Int×Int×Sl×Int×Unit)×Unit) (fun s3 h2=>
 (K (⟨s3.1.1,s3.1.2.1,s3.1.2.2.1,s3.1.2.2.2.1⟩:TStep) h2))
 (fun k4=>
 (ifP ((uses.len:Int)==2)
 (idxP uses 0 1 fun a5=>
 (ldL (.int .i64) a5 (fun x6=>
 (callP (y_henneberg_peeler_kind p x6 item) (fun r7 h3=>
 (ifP (r7 != 1)
 (k4 ((3,item,uses,1,()),()) h3)
 (idxP uses 1 1 fun a8=>
 (ldL (.int .i64) a8 (fun x9=>
 (callP (y_henneberg_peeler_kind p x9 item) (fun r10 h4=>
 (ifP (r10 != 1)
 (k4 ((3,item,uses,1,()),()) h4)
 (k4 ((3,item,uses,0,()),()) h4))) h3)) h3)))) h)) h))
 (ifP ((uses.len:Int)==1)
 (idxP uses 0 1 fun a11=>
 (ldL (.int .i64) a11 (fun x12=>
 (callP (y_henneberg_peeler_equations p x12) (fun r13 h5=>
 (ifP (r13==2)
 (k4 ((4,item,uses,0,()),()) h5)
 (ifP ((uses.len:Int)==1)
 (k4 ((2,item,uses,0,()),()) h5)
 (k4 ((1,item,uses,0,()),()) h5)))) h)) h))
 (ifP ((uses.len:Int)==1)
 (k4 ((2,item,uses,0,()),()) h)
 (k4 ((1,item,uses,0,()),()) h)))))))
def zf8 (s:TSketch) (K:(TPlan×Int)→Hp→Prop) (h:Hp):Prop:=
 (callP (zel s) (fun r1 h1=>
 (ifP (r1 != 0)
 (K ((⟨nilS,nilS⟩:TPlan),r1) h1)
 (callP (zcx s) (fun r2 h2=>
 (callP (y_henneberg_peeler_peel r2) (fun r3 h3=>
 (ifP (decide ((r3.2.len:Int)>0))
 (K ((⟨nilS,nilS⟩:TPlan),13) h3)
 (loopP (S:=(Sl×Sl×Unit)×Int×Unit) (fun s4 k5 h4=>
 (ifP (decide (s4.2.1≥0))
 (idxP r3.1 s4.2.1 1 fun a6=>
 (ldL (.int .i64) a6 (fun x7=>
 (idxP r3.1 s4.2.1 1 fun a8=>
 (ldL (.int .i64) a8 (fun x9=>
 (slP r3.1 0 s4.2.1 1 fun c10=>
 (callP (y_henneberg_peeler_remaining r2 x9 c10) (fun r11 h5=>
 (callP (y_henneberg_peeler_step r2 x7 r11) (fun r12 h6=>
 (appP 4 48 [.int .i64 0,.int .i64 0,.slice nilS.a nilS.len nilS.cap,.int .i64 0] s4.1.1 1 [.int .i64 r12.kind,.int .i64 r12.target,.slice r12.uses.a r12.uses.len r12.uses.cap,.int .i64 r12.branch] (fun w13 h7=>
 (k5 ((w13,s4.1.2.1,()),(IntKind.i64.wrap (s4.2.1-1)),()) h7)) h6)) h5)) h4))) h4))) h4))
 (K ((⟨s4.1.1,s4.1.2.1⟩:TPlan),0) h4)))
 ((nilS,nilS,()),(IntKind.i64.wrap ((r3.1.len:Int)-1)),()) h3))) h2)) h1))) h)
def zit (p:TPlan) (q:TPlan) (K:Bool→Hp→Prop) (h:Hp):Prop:=
 (joinP (S:=Unit) (fun s1 h1=>
 (loopP (S:=Int×Unit) (fun s3 k4 h2=>
 (ifP (decide (s3.1<(p.steps.len:Int)))
 (joinP (S:=Unit) (fun s5 h3=>
 (k4 ((IntKind.i64.wrap (s3.1+1)),()) h3))
 (fun k6=>
 (idxP p.steps s3.1 4 fun a7=>
 (ldL (.int .i64) (a7.add 0) (fun x8_0=>
 (ldL (.int .i64) (a7.add 1) (fun x8_1=>
 (ldL (.sl) (a7.add 2) (fun x8_2=>
 (ldL (.int .i64) (a7.add 3) (fun x8_3=>
 (idxP q.steps s3.1 4 fun a9=>
 (ldL (.int .i64) (a9.add 0) (fun x10_0=>
 (ldL (.int .i64) (a9.add 1) (fun x10_1=>
 (ldL (.sl) (a9.add 2) (fun x10_2=>
 (ldL (.int .i64) (a9.add 3) (fun x10_3=>
 (ifP (x8_0 != x10_0)
 (K false h2)
 (ifP (x8_1 != x10_1)
 (K false h2)
 (ifP (x8_3 != x10_3)
 (K false h2)
 (callP (zcl x8_2 x10_2) (fun r11 h4=>
 (ifP (!r11)
 (K false h4)
 (k6 () h4))) h2))))) h2)) h2)) h2)) h2))) h2)) h2)) h2)) h2))))
 (K true h2)))
 (0,()) h1))
 (fun k2=>
 (ifP ((p.steps.len:Int) != (q.steps.len:Int))
 (K false h)
 (callP (zcl p.checks q.checks) (fun r12 h5=>
 (ifP (!r12)
 (K false h5)
 (k2 () h5))) h))))
def zaz (K:Bool→Hp→Prop) (h:Hp):Prop:=
 (callP (zep 3) (fun r1 h1=>
 (callP (zf8 r1) (fun r2 h2=>
 (callP (zep 4) (fun r3 h3=>
 (callP (zf8 r3) (fun r4 h4=>
 (callP (zep 4) (fun r5 h5=>
 (callP (zf7 r5) (fun r6 h6=>
 (newP [.int .i64 2] (fun p7 h7=>
 (newP [.int .i64 0,.int .i64 1] (fun p8 h8=>
 (newP [.int .i64 1,.int .i64 2,.slice nilS.a nilS.len nilS.cap,.int .i64 0,.int .i64 2,.int .i64 1,.slice (⟨some p7,1,1⟩:Sl).a (⟨some p7,1,1⟩:Sl).len (⟨some p7,1,1⟩:Sl).cap,.int .i64 0,.int .i64 3,.int .i64 0,.slice (⟨some p8,2,2⟩:Sl).a (⟨some p8,2,2⟩:Sl).len (⟨some p8,2,2⟩:Sl).cap,.int .i64 1] (fun p9 h9=>
 (ifP (r2.2==0)
 (callP (zit (⟨r2.1.steps,r2.1.checks⟩:TPlan) (⟨(⟨some p9,3,3⟩:Sl),nilS⟩:TPlan)) (fun r10 h10=>
 (ifP r10
 (ifP (r4.2==13)
 (ifP ((r6.1.len:Int)==0)
 (newP [.int .i64 0,.int .i64 1,.int .i64 2,.int .i64 3] (fun p11 h11=>
 (callP (zcl r6.2 (⟨some p11,4,4⟩:Sl)) (fun r12 h12=>
 (K r12 h12)) h11)) h10)
 (K false h10))
 (K false h10))
 (K false h10))) h9)
 (K false h9))) h8)) h7)) h6)) h5)) h4)) h3)) h2)) h1)) h)
def zg7:Nat→TExpr→Int→(Int→Hp→Prop)→Hp→Prop
 | 0,_,_,_,_=>False
 | fuel+1,e,depth,K,h=>
 (joinP (S:=Unit) (fun s1 h1=>
 (loopP (S:=Int×Int×Unit) (fun s3 k4 h2=>
 (joinP (S:=Unit) (fun s5 h3=>
 (idxP e.args s3.2.1 7 fun a7=>
 (ldL (.int .i64) (a7.add 0) (fun x8_0=>
 (ldL (.bool) (a7.add 1) (fun x8_1=>
 (ldL (.sl) (a7.add 2) (fun x8_2=>
 (ldL (.bool) (a7.add 3) (fun x8_3=>
 (ldL (.sl) (a7.add 4) (fun x8_4=>
 (ldL (.str) (a7.add 5) (fun x8_5=>
 (ldL (.sl) (a7.add 6) (fun x8_6=>
 (callP ((zg7 fuel) (⟨x8_0,(⟨(⟨x8_1,x8_2⟩:TInt),(⟨x8_3,x8_4⟩:TInt)⟩:TRat),x8_5,x8_6⟩:TExpr) (IntKind.i64.wrap (depth+1))) (fun r9 h4=>
 (k4 ((IntKind.i64.wrap (s3.1+r9)),(IntKind.i64.wrap (s3.2.1+1)),()) h4)) h3)) h3)) h3)) h3)) h3)) h3)) h3)) h3)))
 (fun k6=>
 (ifP (decide (s3.2.1<(e.args.len:Int)))
 (ifP (decide (s3.1<1000))
 (k6 () h2)
 (K s3.1 h2))
 (K s3.1 h2)))))
 (1,0,()) h1))
 (fun k2=>
 (ifP (decide (depth>60))
 (K 1000 h)
 (ifP (decide ((e.args.len:Int)>4))
 (K 1000 h)
 (ifP (decide (((e.name:ByteArray).size:Int)>40))
 (K 1000 h)
 (ifP (decide ((e.value.num.mag.len:Int)>4))
 (K 1000 h)
 (ifP (decide ((e.value.den.mag.len:Int)>4))
 (K 1000 h)
 (k2 () h))))))))
def zmj (e:TExpr) (depth:Int) (K:Int→Hp→Prop) (h:Hp):Prop:=∃fuel,zg7 fuel e depth K h
def zlg (s:TSketch) (K:Bool→Hp→Prop) (h:Hp):Prop:=
 (joinP (S:=Unit) (fun s1 h1=>
 (loopP (S:=Int×Unit) (fun s3 k4 h2=>
 (ifP (decide (s3.1<(s.points.len:Int)))
 (joinP (S:=Unit) (fun s5 h3=>
 (k4 ((IntKind.i64.wrap (s3.1+1)),()) h3))
 (fun k6=>
 (idxP s.points s3.1 8 fun a7=>
 (ldL (.bool) ((a7.add 0).add 0) (fun x8_0=>
 (ldL (.sl) ((a7.add 0).add 1) (fun x8_1=>
 (ldL (.bool) ((a7.add 0).add 2) (fun x8_2=>
 (ldL (.sl) ((a7.add 0).add 3) (fun x8_3=>
 (callP (zjq (⟨(⟨x8_0,x8_1⟩:TInt),(⟨x8_2,x8_3⟩:TInt)⟩:TRat) 3) (fun r9 h4=>
 (ifP (!r9)
 (K false h4)
 (idxP s.points s3.1 8 fun a10=>
 (ldL (.bool) ((a10.add 4).add 0) (fun x11_0=>
 (ldL (.sl) ((a10.add 4).add 1) (fun x11_1=>
 (ldL (.bool) ((a10.add 4).add 2) (fun x11_2=>
 (ldL (.sl) ((a10.add 4).add 3) (fun x11_3=>
 (callP (zjq (⟨(⟨x11_0,x11_1⟩:TInt),(⟨x11_2,x11_3⟩:TInt)⟩:TRat) 3) (fun r12 h5=>
 (ifP (!r12)
 (K false h5)
 (k6 () h5))) h4)) h4)) h4)) h4)) h4)))) h2)) h2)) h2)) h2)) h2))))
 (loopP (S:=Int×Unit) (fun s13 k14 h6=>
 (ifP (decide (s13.1<(s.circles.len:Int)))
 (idxP s.circles s13.1 5 fun a15=>
 (ldL (.bool) ((a15.add 1).add 0) (fun x16_0=>
 (ldL (.sl) ((a15.add 1).add 1) (fun x16_1=>
 (ldL (.bool) ((a15.add 1).add 2) (fun x16_2=>
 (ldL (.sl) ((a15.add 1).add 3) (fun x16_3=>
 (callP (zjq (⟨(⟨x16_0,x16_1⟩:TInt),(⟨x16_2,x16_3⟩:TInt)⟩:TRat) 3) (fun r17 h7=>
 (ifP (!r17)
 (K false h7)
 (k14 ((IntKind.i64.wrap (s13.1+1)),()) h7))) h6)) h6)) h6)) h6)) h6))
 (loopP (S:=Int×Unit) (fun s18 k19 h8=>
 (ifP (decide (s18.1<(s.chains.len:Int)))
 (idxP s.chains s18.1 1 fun a20=>
 (ldL (.sl) a20 (fun x21=>
 (ifP (decide ((x21.len:Int)>20))
 (K false h8)
 (k19 ((IntKind.i64.wrap (s18.1+1)),()) h8))) h8))
 (loopP (S:=Int×Unit) (fun s22 k23 h9=>
 (ifP (decide (s22.1<(s.constraints.len:Int)))
 (idxP s.constraints s22.1 5 fun a24=>
 (ldL (.int .i64) (a24.add 0) (fun x25_0=>
 (ldL (.sl) (a24.add 1) (fun x25_1=>
 (ldL (.sl) (a24.add 2) (fun x25_2=>
 (ldL (.sl) (a24.add 3) (fun x25_3=>
 (ldL (.int .i64) (a24.add 4) (fun x25_4=>
 (joinP (S:=Unit) (fun s26 h10=>
 (loopP (S:=Int×Unit) (fun s28 k29 h11=>
 (ifP (decide (s28.1<(x25_3.len:Int)))
 (idxP x25_3 s28.1 7 fun a30=>
 (ldL (.int .i64) (a30.add 0) (fun x31_0=>
 (ldL (.bool) (a30.add 1) (fun x31_1=>
 (ldL (.sl) (a30.add 2) (fun x31_2=>
 (ldL (.bool) (a30.add 3) (fun x31_3=>
 (ldL (.sl) (a30.add 4) (fun x31_4=>
 (ldL (.str) (a30.add 5) (fun x31_5=>
 (ldL (.sl) (a30.add 6) (fun x31_6=>
 (callP (zmj (⟨x31_0,(⟨(⟨x31_1,x31_2⟩:TInt),(⟨x31_3,x31_4⟩:TInt)⟩:TRat),x31_5,x31_6⟩:TExpr) 0) (fun r32 h12=>
 (ifP (decide (r32>60))
 (K false h12)
 (k29 ((IntKind.i64.wrap (s28.1+1)),()) h12))) h11)) h11)) h11)) h11)) h11)) h11)) h11)) h11))
 (k23 ((IntKind.i64.wrap (s22.1+1)),()) h11)))
 (0,()) h10))
 (fun k27=>
 (ifP (decide ((x25_1.len:Int)>10))
 (K false h9)
 (ifP (decide ((x25_2.len:Int)>10))
 (K false h9)
 (ifP (decide ((x25_3.len:Int)>10))
 (K false h9)
 (k27 () h9))))))) h9)) h9)) h9)) h9)) h9))
 (K true h9)))
 (0,()) h8)))
 (0,()) h6)))
 (0,()) h2)))
 (0,()) h1))
 (fun k2=>
 (ifP (decide ((s.points.len:Int)>10))
 (K false h)
 (ifP (decide ((s.circles.len:Int)>10))
 (K false h)
 (ifP (decide ((s.segments.len:Int)>10))
 (K false h)
 (ifP (decide ((s.arcs.len:Int)>10))
 (K false h)
 (ifP (decide ((s.chains.len:Int)>10))
 (K false h)
 (ifP (decide ((s.constraints.len:Int)>20))
 (K false h)
 (k2 () h)))))))))
def zdc (s:TSketch) (l:Sl) (K:Bool→Hp→Prop) (h:Hp):Prop:=
 (callP (zlg s) (fun r1 h1=>
 (ifP r1
 (K (decide ((l.len:Int)≤20)) h1)
 (K false h1))) h)
def zhl (s:TSketch) (K:Bool→Hp→Prop) (h:Hp):Prop:=
 (joinP (S:=Unit) (fun s1 h1=>
 (callP (zf7 s) (fun r3 h2=>
 (callP (zke s) (fun r4 h3=>
 (callP (zcl r3.1 r4.1) (fun r5 h4=>
 (ifP r5
 (callP (zcl r3.2 r4.2) (fun r6 h5=>
 (K r6 h5)) h4)
 (K false h4))) h3)) h2)) h1))
 (fun k2=>
 (callP (zaz) (fun r7 h6=>
 (ifP (!r7)
 (callP (zaz) (fun r8 h7=>
 (K r8 h7)) h6)
 (callP (zdc s nilS) (fun r9 h8=>
 (ifP (!r9)
 (callP (zaz) (fun r10 h9=>
 (K r10 h9)) h8)
 (k2 () h8))) h6))) h)))
def zmm (s:TSketch) (item:Int) (uses:Sl) (K:TStep→Hp→Prop) (h:Hp):Prop:=
 (callP (zid s) (fun r1 h1=>
 (callP (zfo s) (fun r2 h2=>
 (ifP (decide (item<0))
 (joinP (S:=(Int×Int×Sl×Int×Unit)×Unit) (fun s3 h3=>
 (K (⟨s3.1.1,s3.1.2.1,s3.1.2.2.1,s3.1.2.2.2.1⟩:TStep) h3))
 (fun k4=>
 (ifP ((uses.len:Int)==1)
 (k4 ((6,(IntKind.i64.wrap ((-1)-item)),uses,0,()),()) h2)
 (k4 ((5,(IntKind.i64.wrap ((-1)-item)),uses,0,()),()) h2))))
 (joinP (S:=(Int×Int×Sl×Int×Unit)×Unit) (fun s5 h4=>
 (K (⟨s5.1.1,s5.1.2.1,s5.1.2.2.1,s5.1.2.2.2.1⟩:TStep) h4))
 (fun k6=>
 (ifP ((uses.len:Int)==0)
 (k6 ((1,item,uses,0,()),()) h2)
 (ifP ((uses.len:Int)==1)
 (idxP uses 0 1 fun a7=>
 (ldL (.int .i64) a7 (fun x8=>
 (idxP r1 x8 5 fun a9=>
 (ldL (.int .i64) (a9.add 0) (fun x10_0=>
 (ldL (.sl) (a9.add 1) (fun x10_1=>
 (ldL (.sl) (a9.add 2) (fun x10_2=>
 (ldL (.sl) (a9.add 3) (fun x10_3=>
 (ldL (.int .i64) (a9.add 4) (fun x10_4=>
 (callP (zeq (⟨x10_0,x10_1,x10_2,x10_3,x10_4⟩:TConstraint)) (fun r11 h5=>
 (ifP (r11==2)
 (k6 ((4,item,uses,0,()),()) h5)
 (k6 ((2,item,uses,0,()),()) h5))) h2)) h2)) h2)) h2)) h2)) h2))) h2))
 (idxP uses 0 1 fun a12=>
 (ldL (.int .i64) a12 (fun x13=>
 (idxP r1 x13 5 fun a14=>
 (ldL (.int .i64) (a14.add 0) (fun x15_0=>
 (ldL (.sl) (a14.add 1) (fun x15_1=>
 (ldL (.sl) (a14.add 2) (fun x15_2=>
 (ldL (.sl) (a14.add 3) (fun x15_3=>
 (ldL (.int .i64) (a14.add 4) (fun x15_4=>
 (callP (zis (⟨x15_0,x15_1,x15_2,x15_3,x15_4⟩:TConstraint) r2 item) (fun r16 h6=>
 (ifP (r16==1)
 (idxP uses 1 1 fun a17=>
 (ldL (.int .i64) a17 (fun x18=>
 (idxP r1 x18 5 fun a19=>
 (ldL (.int .i64) (a19.add 0) (fun x20_0=>
 (ldL (.sl) (a19.add 1) (fun x20_1=>
 (ldL (.sl) (a19.add 2) (fun x20_2=>
 (ldL (.sl) (a19.add 3) (fun x20_3=>
 (ldL (.int .i64) (a19.add 4) (fun x20_4=>
 (callP (zis (⟨x20_0,x20_1,x20_2,x20_3,x20_4⟩:TConstraint) r2 item) (fun r21 h7=>
 (ifP (r21==1)
 (k6 ((3,item,uses,0,()),()) h7)
 (k6 ((3,item,uses,1,()),()) h7))) h6)) h6)) h6)) h6)) h6)) h6))) h6))
 (k6 ((3,item,uses,1,()),()) h6))) h2)) h2)) h2)) h2)) h2)) h2))) h2)))))))) h1)) h)
def zml (s:TSketch) (K:(TPlan×Int)→Hp→Prop) (h:Hp):Prop:=
 (callP (zdd s) (fun r1 h1=>
 (ifP (r1 != 0)
 (K ((⟨nilS,nilS⟩:TPlan),r1) h1)
 (callP (zke s) (fun r2 h2=>
 (ifP (decide ((r2.2.len:Int)>0))
 (K ((⟨nilS,nilS⟩:TPlan),13) h2)
 (loopP (S:=(Sl×Sl×Unit)×Int×Unit) (fun s3 k4 h3=>
 (ifP (decide (s3.2.1≥0))
 (idxP r2.1 s3.2.1 1 fun a5=>
 (ldL (.int .i64) a5 (fun x6=>
 (idxP r2.1 s3.2.1 1 fun a7=>
 (ldL (.int .i64) a7 (fun x8=>
 (slP r2.1 0 s3.2.1 1 fun c9=>
 (callP (zer s x8 c9) (fun r10 h4=>
 (callP (zmm s x6 r10) (fun r11 h5=>
 (appP 4 48 [.int .i64 0,.int .i64 0,.slice nilS.a nilS.len nilS.cap,.int .i64 0] s3.1.1 1 [.int .i64 r11.kind,.int .i64 r11.target,.slice r11.uses.a r11.uses.len r11.uses.cap,.int .i64 r11.branch] (fun w12 h6=>
 (k4 ((w12,s3.1.2.1,()),(IntKind.i64.wrap (s3.2.1-1)),()) h6)) h5)) h4)) h3))) h3))) h3))
 (K ((⟨s3.1.1,s3.1.2.1⟩:TPlan),0) h3)))
 ((nilS,nilS,()),(IntKind.i64.wrap ((r2.1.len:Int)-1)),()) h2))) h1))) h)
def zhm (s:TSketch) (K:Bool→Hp→Prop) (h:Hp):Prop:=
 (joinP (S:=Unit) (fun s1 h1=>
 (callP (zf8 s) (fun r3 h2=>
 (callP (zml s) (fun r4 h3=>
 (ifP (r3.2==r4.2)
 (callP (zit (⟨r3.1.steps,r3.1.checks⟩:TPlan) (⟨r4.1.steps,r4.1.checks⟩:TPlan)) (fun r5 h4=>
 (K r5 h4)) h3)
 (K false h3))) h2)) h1))
 (fun k2=>
 (callP (zaz) (fun r6 h5=>
 (ifP (!r6)
 (callP (zaz) (fun r7 h6=>
 (K r7 h6)) h5)
 (callP (zdc s nilS) (fun r8 h7=>
 (ifP (!r8)
 (callP (zaz) (fun r9 h8=>
 (K r9 h8)) h7)
 (k2 () h7))) h5))) h)))
def zgy (s:TSketch) (order:Sl) (K:Bool→Hp→Prop) (h:Hp):Prop:=
 (joinP (S:=Unit) (fun s1 h1=>
 (callP (zgk s) (fun r3 h2=>
 (loopP (S:=Int×Unit) (fun s4 k5 h3=>
 (ifP (decide (s4.1<(order.len:Int)))
 (joinP (S:=Unit) (fun s6 h4=>
 (k5 ((IntKind.i64.wrap (s4.1+1)),()) h4))
 (fun k7=>
 (idxP order s4.1 1 fun a8=>
 (ldL (.int .u8) a8 (fun x9=>
 (ifP (decide (s4.1<(r3.len:Int)))
 (((r3.len:Int):Int)≠0 ∧
 (idxP r3 (((IntKind.i64.wrap (x9)):Int).tmod (r3.len:Int)) 1 fun a10=>
 (ldL (.int .i64) a10 (fun x11=>
 (idxP r3 s4.1 1 fun a12=>
 (ldL (.int .i64) a12 (fun x13=>
 (idxP r3 s4.1 1 fun a14=>
 (stP a14 [.int .i64 x11] (fun h5=>
 (idxP r3 (((IntKind.i64.wrap (x9)):Int).tmod (r3.len:Int)) 1 fun a15=>
 (stP a15 [.int .i64 x13] (fun h6=>
 (k7 () h6)) h5))) h3))) h3))) h3)))
 (k7 () h3))) h3))))
 (callP (zf7 s) (fun r16 h7=>
 (callP (zgh s r3) (fun r17 h8=>
 (ifP ((r16.2.len:Int) != (r17.2.len:Int))
 (K false h8)
 (loopP (S:=Int×Unit) (fun s18 k19 h9=>
 (ifP (decide (s18.1<(r16.2.len:Int)))
 (idxP r16.2 s18.1 1 fun a20=>
 (ldL (.int .i64) a20 (fun x21=>
 (loopP (S:=Bool×Int×Unit) (fun s22 k23 h10=>
 (ifP (decide (s22.2.1<(r17.2.len:Int)))
 (joinP (S:=Bool×Unit) (fun s24 h11=>
 (k23 (s24.1,(IntKind.i64.wrap (s22.2.1+1)),()) h11))
 (fun k25=>
 (idxP r17.2 s22.2.1 1 fun a26=>
 (ldL (.int .i64) a26 (fun x27=>
 (ifP s22.1
 (k25 (true,()) h10)
 (k25 ((x21==x27),()) h10))) h10))))
 (ifP (!s22.1)
 (K false h10)
 (k19 ((IntKind.i64.wrap (s18.1+1)),()) h10))))
 (false,0,()) h9)) h9))
 (K true h9)))
 (0,()) h8))) h7)) h3)))
 (0,()) h2)) h1))
 (fun k2=>
 (callP (zaz) (fun r28 h12=>
 (ifP (!r28)
 (callP (zaz) (fun r29 h13=>
 (K r29 h13)) h12)
 (callP (zdc s nilS) (fun r30 h14=>
 (ifP (!r30)
 (callP (zaz) (fun r31 h15=>
 (K r31 h15)) h14)
 (callP (zdd s) (fun r32 h16=>
 (ifP (r32 != 0)
 (callP (zaz) (fun r33 h17=>
 (K r33 h17)) h16)
 (k2 () h16))) h14))) h12))) h)))
def y_henneberg_peeler_exists (p:(Option Addr)) (item:Int) (K:Bool→Hp→Prop) (h:Hp):Prop:=
 (ifP (decide (item≥0))
 (ptrK p fun p1=>
 (ldL (.sl) ((p1.add 0).add 0) (fun x2=>
 (ifP (decide (item<(x2.len:Int)))
 (K true h)
 (ifP (decide (item<0))
 (ptrK p fun p3=>
 (ldL (.sl) ((p3.add 0).add 1) (fun x4=>
 (K (decide ((IntKind.i64.wrap ((-1)-item))<(x4.len:Int))) h)) h))
 (K false h)))) h))
 (ifP (decide (item<0))
 (ptrK p fun p5=>
 (ldL (.sl) ((p5.add 0).add 1) (fun x6=>
 (K (decide ((IntKind.i64.wrap ((-1)-item))<(x6.len:Int))) h)) h))
 (K false h)))
def zcy (s:TSketch) (item:Int) (removed:Sl) (K:Bool→Hp→Prop) (h:Hp):Prop:=
 (callP (zel s) (fun r1 h1=>
 (ifP (r1 != 0)
 (K false h1)
 (callP (zcx s) (fun r2 h2=>
 (callP (y_henneberg_peeler_exists r2 item) (fun r3 h3=>
 (ifP r3
 (callP (y_henneberg_peeler_removable r2 item removed) (fun r4 h4=>
 (K r4 h4)) h3)
 (K false h3))) h2)) h1))) h)
def zfg (s:TSketch) (item:Int) (removed:Sl) (K:Bool→Hp→Prop) (h:Hp):Prop:=
 (joinP (S:=Unit) (fun s1 h1=>
 (callP (zcy s item removed) (fun r3 h2=>
 (callP (zdj s item removed) (fun r4 h3=>
 (K (r3==r4) h3)) h2)) h1))
 (fun k2=>
 (callP (zaz) (fun r5 h4=>
 (ifP (!r5)
 (callP (zaz) (fun r6 h5=>
 (K r6 h5)) h4)
 (callP (zdc s removed) (fun r7 h6=>
 (ifP (!r7)
 (callP (zaz) (fun r8 h7=>
 (K r8 h7)) h6)
 (k2 () h6))) h4))) h)))
def zff (s:TSketch) (removed:Sl) (more:Sl) (K:Bool→Hp→Prop) (h:Hp):Prop:=
 (joinP (S:=Unit) (fun s1 h1=>
 (newP [] (fun p3 h2=>
 (rdO removed.a (removed.len*1) (fun vs4=>
 (appP 1 8 [.int .i64 0] (⟨some p3,0,0⟩:Sl) removed.len vs4 (fun w5 h3=>
 (rdO more.a (more.len*1) (fun vs6=>
 (appP 1 8 [.int .i64 0] w5 more.len vs6 (fun w7 h4=>
 (callP (zgk s) (fun r8 h5=>
 (loopP (S:=Int×Unit) (fun s9 k10 h6=>
 (ifP (decide (s9.1<(r8.len:Int)))
 (joinP (S:=Unit) (fun s11 h7=>
 (k10 ((IntKind.i64.wrap (s9.1+1)),()) h7))
 (fun k12=>
 (idxP r8 s9.1 1 fun a13=>
 (ldL (.int .i64) a13 (fun x14=>
 (loopP (S:=Bool×Int×Unit) (fun s15 k16 h8=>
 (ifP (decide (s15.2.1<(more.len:Int)))
 (joinP (S:=Bool×Unit) (fun s17 h9=>
 (k16 (s17.1,(IntKind.i64.wrap (s15.2.1+1)),()) h9))
 (fun k18=>
 (idxP more s15.2.1 1 fun a19=>
 (ldL (.int .i64) a19 (fun x20=>
 (ifP s15.1
 (k18 (true,()) h8)
 (k18 ((x14==x20),()) h8))) h8))))
 (ifP (!s15.1)
 (callP (zcy s x14 removed) (fun r21 h10=>
 (ifP r21
 (callP (zcy s x14 w7) (fun r22 h11=>
 (ifP (!r22)
 (K false h11)
 (k12 () h11))) h10)
 (k12 () h10))) h8)
 (k12 () h8))))
 (false,0,()) h6)) h6))))
 (K true h6)))
 (0,()) h5)) h4)) h3)) h3)) h2)) h2)) h1))
 (fun k2=>
 (callP (zaz) (fun r23 h12=>
 (ifP (!r23)
 (callP (zaz) (fun r24 h13=>
 (K r24 h13)) h12)
 (callP (zdc s removed) (fun r25 h14=>
 (ifP (!r25)
 (callP (zaz) (fun r26 h15=>
 (K r26 h15)) h14)
 (callP (zdc s more) (fun r27 h16=>
 (ifP (!r27)
 (callP (zaz) (fun r28 h17=>
 (K r28 h17)) h16)
 (callP (zdd s) (fun r29 h18=>
 (ifP (r29 != 0)
 (callP (zaz) (fun r30 h19=>
 (K r30 h19)) h18)
 (k2 () h18))) h16))) h14))) h12))) h)))
def zgw (s:TSketch) (item:Int) (removed:Sl) (K:Int→Hp→Prop) (h:Hp):Prop:=
 (callP (zel s) (fun r1 h1=>
 (ifP (r1 != 0)
 (K 0 h1)
 (callP (zcx s) (fun r2 h2=>
 (callP (y_henneberg_peeler_exists r2 item) (fun r3 h3=>
 (ifP (!r3)
 (K 0 h3)
 (callP (y_henneberg_peeler_remaining r2 item removed) (fun r4 h4=>
 (callP (y_henneberg_peeler_weight r2 r4) (fun r5 h5=>
 (K r5 h5)) h4)) h3))) h2)) h1))) h)
def zkf (s:TSketch) (item:Int) (removed:Sl) (K:Int→Hp→Prop) (h:Hp):Prop:=
 (joinP (S:=Unit) (fun s1 h1=>
 (callP (zer s item removed) (fun r3 h2=>
 (callP (zie s r3) (fun r4 h3=>
 (K r4 h3)) h2)) h1))
 (fun k2=>
 (callP (zdd s) (fun r5 h4=>
 (ifP (r5 != 0)
 (K 0 h4)
 (callP (zgk s) (fun r6 h5=>
 (callP (zg0 r6 item) (fun r7 h6=>
 (ifP (!r7)
 (K 0 h6)
 (k2 () h6))) h5)) h4))) h)))
def zgc (s:TSketch) (item:Int) (removed:Sl) (K:Bool→Hp→Prop) (h:Hp):Prop:=
 (joinP (S:=Unit) (fun s1 h1=>
 (callP (zgw s item removed) (fun r3 h2=>
 (callP (zkf s item removed) (fun r4 h3=>
 (K (r3==r4) h3)) h2)) h1))
 (fun k2=>
 (callP (zaz) (fun r5 h4=>
 (ifP (!r5)
 (callP (zaz) (fun r6 h5=>
 (K r6 h5)) h4)
 (callP (zdc s removed) (fun r7 h6=>
 (ifP (!r7)
 (callP (zaz) (fun r8 h7=>
 (K r8 h7)) h6)
 (k2 () h6))) h4))) h)))
end F
end Den
end

section
namespace Iv
def W:Nat:=4294967296
theorem W_pos:0<W:=by decide
theorem W_eq:W=4294967296:=rfl
def vl:List Nat→Nat
 | []=>0
 | x :: r=>x+W*vl r
def okW (l:List Nat):Prop:=∀d∈l,d<W
def trimL:List Nat→List Nat
 | []=>[]
 | x :: r=>match trimL r with
   | []=>if x=0 then [] else [x]
   | y :: t=>x :: y :: t
def dg (n:Nat):List Nat:=if h:n=0 then [] else (n % W) :: dg (n/W)
termination_by n
decreasing_by exact Nat.div_lt_self (Nat.pos_of_ne_zero h) (by decide)
theorem zbz:dg 0=[]:=by unfold dg; simp
theorem zol {n:Nat} (h:n≠0):dg n=(n % W) :: dg (n/W):=by conv=>lhs; unfold dg; rw [dif_neg h]
theorem vl_dg (n:Nat):vl (dg n)=n:=by
 induction n using Nat.strongRecOn with
 | _ n ih=>
   by_cases h:n=0
   · subst h; rw [zbz]; rfl
   · rw [zol h]
     simp only [vl]
     rw [ih (n/W) (Nat.div_lt_self (Nat.pos_of_ne_zero h) (by decide))]
     exact Nat.mod_add_div n W
theorem ok_dg (n:Nat):okW (dg n):=by
 induction n using Nat.strongRecOn with
 | _ n ih=>
   by_cases h:n=0
   · subst h; rw [zbz]; intro d hd; cases hd
   · rw [zol h]
     intro d hd
     rcases List.mem_cons.1 hd with rfl | hd
     · exact Nat.mod_lt _ W_pos
     · exact ih (n/W) (Nat.div_lt_self (Nat.pos_of_ne_zero h) (by decide)) d hd
theorem zef {n:Nat}:dg n=[]↔n=0:=by
 constructor
 · intro h
   have:=vl_dg n
   rw [h] at this
   exact this.symm
 · rintro rfl; exact zbz
theorem zra {x:Nat} {r:List Nat} (h:okW (x :: r)):x<W∧okW r:=⟨h x List.mem_cons_self,fun d hd=>h d (List.mem_cons_of_mem _ hd)⟩
theorem zc6:∀{l:List Nat},okW l→trimL l=dg (vl l)
 | [],_=>by simp [trimL,vl,zbz]
 | x :: r,h=>by
   obtain ⟨hx,hr⟩:=zra h
   have ih:=zc6 hr
   unfold trimL vl
   rw [ih]
   by_cases hv:vl r=0
   · rw [hv,zbz]
     simp only [Nat.mul_zero,Nat.add_zero]
     by_cases h0:x=0
     · rw [if_pos h0,h0,zbz]
     · rw [if_neg h0,zol h0,Nat.mod_eq_of_lt hx,Nat.div_eq_of_lt hx,zbz]
   · have hne:dg (vl r)≠[]:=fun hh=>hv (zef.1 hh)
     have hpos:x+W*vl r≠0:=by
      have:0<W*vl r:=Nat.mul_pos W_pos (Nat.pos_of_ne_zero hv)
      omega
     rw [zol hpos,Nat.add_mul_mod_self_left,Nat.mod_eq_of_lt hx,Nat.add_mul_div_left _ _ W_pos,Nat.div_eq_of_lt hx,Nat.zero_add]
     cases hd:dg (vl r) with
     | nil=>exact absurd hd hne
     | cons y t=>rfl
theorem vl_lt:∀{l:List Nat},okW l→vl l<W ^ l.length
 | [],_=>by simp [vl]
 | x :: r,h=>by
   obtain ⟨hx,hr⟩:=zra h
   have ih:=vl_lt hr
   simp only [vl,List.length_cons,Nat.pow_succ]
   have:W*(vl r+1)≤W*W ^ r.length:=Nat.mul_le_mul_left _ ih
   rw [Nat.mul_comm (W ^ r.length)]
   rw [Nat.mul_add] at this
   omega
theorem zb9 {n k:Nat}:(dg n).length≤k↔n<W ^ k:=by
 constructor
 · intro h
   have h1:=vl_lt (ok_dg n)
   rw [vl_dg] at h1
   exact Nat.lt_of_lt_of_le h1 (Nat.pow_le_pow_right W_pos h)
 · induction k generalizing n with
   | zero=>
     intro h
     have:n=0:=by simp at h; exact h
     subst this; rw [zbz]; simp
   | succ k ih=>
     intro h
     by_cases hn:n=0
     · subst hn; rw [zbz]; simp
     · rw [zol hn]
       simp only [List.length_cons]
       have:n/W<W ^ k:=by
        rw [Nat.div_lt_iff_lt_mul W_pos]; rw [Nat.pow_succ] at h; exact h
       have:=ih this
       omega
theorem zm0:∀(a b:List Nat),vl (a++b)=vl a+W ^ a.length*vl b
 | [],b=>by simp [vl]
 | x :: r,b=>by
   simp only [List.cons_append,vl,zm0 r b,List.length_cons,Nat.pow_succ]
   rw [Nat.mul_add,Nat.mul_comm (W ^ r.length) W,Nat.mul_assoc]; omega
theorem za4d {l:List Nat} (hok:okW l) (ht:trimL l=l):l=dg (vl l):=ht.symm.trans (zc6 hok)
theorem zkj:∀{l:List Nat} {k v:Nat} (hk:k<l.length),vl (l.set k v)+W ^ k*l[k]=vl l+W ^ k*v
 | [],k,v,hk=>by simp at hk
 | x :: r,0,v,hk=>by simp [vl]; omega
 | x :: r,k+1,v,hk=>by
   have hk':k<r.length:=by simpa using hk
   have ih:=zkj (v:=v) hk'
   simp only [List.set_cons_succ,vl,List.getElem_cons_succ,Nat.pow_succ]
   have e1:W ^ k*W*r[k]=W*(W ^ k*r[k]):=by rw [Nat.mul_comm (W ^ k) W,Nat.mul_assoc]
   have e2:W ^ k*W*v=W*(W ^ k*v):=by rw [Nat.mul_comm (W ^ k) W,Nat.mul_assoc]
   rw [e1,e2]
   have:=congrArg (W*·) ih
   simp only [Nat.mul_add] at this
   omega
theorem zd0 {l:List Nat} {k v:Nat} (hl:okW l) (hv:v<W):okW (l.set k v):=fun d hd=>by
 rcases List.mem_or_eq_of_mem_set hd with h | h
 · exact hl d h
 · rw [h]; exact hv
theorem zbm {l:List Nat} {k:Nat} (hk:k<l.length):vl (l.take (k+1))=vl (l.take k)+W ^ k*l[k]:=by
 rw [List.take_succ_eq_append_getElem hk,zm0,List.length_take,Nat.min_eq_left (by omega)]
 simp [vl]
theorem zc1 {l:List Nat} (hl:okW l) {k:Nat} (hk:k<l.length):l[k]<W:=hl _ (List.getElem_mem hk)
theorem zhh {l:List Nat} (hl:okW l) (k:Nat):okW (l.take k):=fun d hd=>hl d (List.mem_of_mem_take hd)
theorem zkr {l:List Nat} (hl:okW l) (k:Nat):okW (l.drop k):=fun d hd=>hl d (List.mem_of_mem_drop hd)
theorem zvc {a b:List Nat} (ha:okW a) (hb:okW b):okW (a++b):=fun d hd=>(List.mem_append.1 hd).elim (ha d) (hb d)
theorem zc8 {l:List Nat} {k:Nat} (hk:k≤l.length):vl l=vl (l.take k)+W ^ k*vl (l.drop k):=by
 have:=zm0 (l.take k) (l.drop k)
 rw [List.take_append_drop,List.length_take,Nat.min_eq_left hk] at this; exact this
theorem zzi (n:Nat):vl (List.replicate n 0)=0:=by
 induction n with
 | zero=>rfl
 | succ n ih=>rw [List.replicate_succ]; simp [vl,ih]
theorem zi4 (n:Nat):okW (List.replicate n 0):=fun d hd=>by rw [(List.mem_replicate.1 hd).2]; decide
theorem zadm:okW []:=fun d hd=>by cases hd
theorem zab3 (l:List Nat):(trimL l).length≤l.length:=by
 induction l with
 | nil=>exact Nat.le_refl _
 | cons x r ih=>
   unfold trimL
   split
   · split<;>simp
   · rename_i y t h
     rw [h] at ih
     simp only [List.length_cons] at ih ⊢; omega
theorem za97 (l:List Nat):trimL l=l.take (trimL l).length:=by
 induction l with
 | nil=>rfl
 | cons x r ih=>
   unfold trimL
   split
   · split<;>simp
   · rename_i y t h
     rw [h] at ih
     simp only [List.length_cons] at ih ⊢
     rw [List.take_succ_cons,←ih]
theorem zl5 (l:List Nat):trimL (l++[0])=trimL l:=by
 induction l with
 | nil=>simp [trimL]
 | cons x r ih=>simp only [List.cons_append,trimL,ih]
theorem zm5 (l:List Nat) {x:Nat} (hx:x≠0):trimL (l++[x])=l++[x]:=by
 induction l with
 | nil=>simp [trimL,hx]
 | cons y r ih=>
   simp only [List.cons_append,trimL,ih]
   cases h:r++[x] with
   | nil=>simp at h
   | cons a b=>rfl
end Iv
end

section
namespace Den
open Go Iv
def LeX (b:Nat) (h h':Hp):Prop:=∀k B,k≠b→h k=some B→h' k=some B
def apart (x y:Sl):Prop:=∀a b,x.a=some a→y.a=some b→a.block≠b.block
theorem zp8 {h1 h2 h3:Hp} {s s':Nat} {x y:Sl} {cs ds:List Value} (hx:Own h1 h2 s x cs) (hy:Own h2 h3 s' y ds):apart x y:=fun a b ha hb hh=>by
 obtain ⟨_,_,_,gx⟩:=hx
 obtain ⟨_,_,_,gy⟩:=hy
 rw [ha] at gx; rw [hb] at gy
 obtain ⟨_,_,_,B,g4,_⟩:=gx
 obtain ⟨_,_,g3,_⟩:=gy
 rw [hh,g3] at g4; cases g4
theorem zrk {h h':Hp} {b:Nat} (hl:LeX b h h') {a:Addr} (ha:a.block≠b):∀{n:Nat} {l:List Value},cellsAt h a n=some l→cellsAt h' a n=some l
 | 0,_,e=>e
 | n+1,l,e=>by
   unfold cellsAt at *
   cases h1:cellsAt h a n with
   | none=>rw [h1] at e; cases e
   | some l1=>
     rw [h1] at e; rw [zrk hl ha h1]; simp only at e ⊢
     have hc:∀v,h.cell (a.add n)=some v→h'.cell (a.add n)=some v:=fun v hv=>by
      unfold Hp.cell at *
      cases hs:(a.add n).spot with
      | some x=>rw [hs] at hv; cases hv
      | none=>
        rw [hs] at hv; simp only at hv ⊢
        rw [zbg] at hv ⊢
        cases hb:h a.block with
        | none=>rw [hb] at hv; cases hv
        | some B=>rw [hb] at hv; rw [hl _ _ ha hb]; exact hv
     cases h2:h.cell (a.add n) with
     | none=>rw [h2] at e; cases e
     | some v=>rw [h2] at e; rw [hc v h2]; exact e
theorem Rd.leX {h h':Hp} {b s:Nat} {y:Sl} {cs:List Value} (hr:Rd h s y cs) (hl:LeX b h h') (hne:∀a,y.a=some a→a.block≠b):Rd h' s y cs:=by
 refine ⟨hr.1,?_⟩
 have h2:=hr.2
 cases ha:y.a with
 | none=>rw [ha] at h2; exact h2
 | some a=>rw [ha] at h2; exact zrk hl (hne a ha) h2
theorem Own.leX {h0 h h':Hp} {b s:Nat} {y:Sl} {cs:List Value} (hr:Own h0 h s y cs) (hl:LeX b h h') (h0b:h0 b=none) (hne:∀a,y.a=some a→a.block≠b):Own h0 h' s y cs:=by
 obtain ⟨h1,h2,h3,h4⟩:=hr
 refine ⟨fun k B hk=>?_,h2,h3,?_⟩
 · exact hl k B (fun hh=>by rw [hh,h0b] at hk; cases hk) (h1 k B hk)
 · cases ha:y.a with
   | none=>rw [ha] at h4; exact h4
   | some a=>
     rw [ha] at h4
     obtain ⟨g1,g2,g3,B,g4,g5⟩:=h4
     exact ⟨g1,g2,g3,B,hl _ _ (hne a ha) g4,g5⟩
theorem zac8 {h0 h:Hp} {size:Nat} {x:Sl} {cs vs:List Value} {i:Int} {K:Hp→Prop} (k:Nat) (ho:Own h0 h size x cs) (hi:i=k) (hk:k<x.len) (hv:vs.length=size) (hsz:0<size) (hleaf:vs.all Value.leaf=true)
 (H:∀h' b,(∀a,x.a=some a→a.block=b)→h0 b=none→LeX b h h'→Own h0 h' size x (splice cs (k*size) vs)→K h'):idxP x i size fun a=>stP a vs K h:=by
 have ho':=ho
 obtain ⟨h1,h2,h3,h4⟩:=ho
 cases ha:x.a with
 | none=>rw [ha] at h4; simp only at h4; omega
 | some a=>
   rw [ha] at h4
   obtain ⟨g1,g2,g3,b,g4,g5,g6,g7⟩:=h4
   have key:=zyz (K:=fun h'=>LeX a.block h h'→K h') k ho' hi hk hv hsz hleaf (fun h' ho2 hl=>H h' a.block (fun a' ha'=>by rw [ha] at ha'; cases ha'; rfl) g3 hl ho2)
   obtain ⟨q1,q2,q3⟩:=key
   refine ⟨q1,q2,?_⟩
   rw [ha] at q3 ⊢
   simp only [ptrK] at q3 ⊢
   obtain ⟨B,r1,r2,r3,r4,r5,r6⟩:=q3
   refine ⟨B,r1,r2,r3,r4,r5,r6 ?_⟩
   rw [zbg]
   intro kk BB hne hkk
   rw [Hp.ins_ne hne]; exact hkk
def wc (l:List Nat):List Value:=l.map fun (n:Nat)=>Value.int .u32 (n:Int)
theorem zj5 (l:List Nat):(wc l).length=l.length:=by simp [wc]
theorem zagb {l:List Nat} {k v:Nat} (hk:k<l.length):splice (wc l) (k*1) [.int .u32 (v:Int)]=wc (l.set k v):=by
 rw [Nat.mul_one,zki]
 unfold wc
 rw [List.map_set]
 have hk':k<(l.map fun (n:Nat)=>Value.int .u32 (n:Int)).length:=by simpa using hk
 rw [List.set_eq_take_append_cons_drop,if_pos hk']
theorem zaga (n:Nat):repl n [Value.int .u32 0]=wc (List.replicate n 0):=by
 unfold repl wc; simp
theorem za9j (a b:List Nat):wc (a++b)=wc a++wc b:=by simp [wc]
def RdW (h:Hp) (x:Sl) (l:List Nat):Prop:=Rd h 1 x (wc l)∧x.len≤x.cap
abbrev OwnW (h0 h:Hp) (x:Sl) (l:List Nat):Prop:=Own h0 h 1 x (wc l)
theorem RdW.len {h:Hp} {x:Sl} {l:List Nat} (hr:RdW h x l):x.len=l.length:=by have:=hr.1.1; rw [zj5] at this; omega
theorem OwnW.rdW {h0 h:Hp} {x:Sl} {l:List Nat} (hr:OwnW h0 h x l):RdW h x l:=⟨hr.rd,hr.2.2.1⟩
theorem OwnW.len {h0 h:Hp} {x:Sl} {l:List Nat} (hr:OwnW h0 h x l):x.len=l.length:=RdW.len hr.rdW
theorem RdW.le {h h':Hp} {x:Sl} {l:List Nat} (hr:RdW h x l) (hl:h.le h'):RdW h' x l:=⟨hr.1.le hl,hr.2⟩
theorem RdW.nil {h:Hp}:RdW h nilS []:=⟨Rd.nil,Nat.le_refl _⟩
theorem RdW.leX {h h':Hp} {b:Nat} {y:Sl} {l:List Nat} (hr:RdW h y l) (hl:LeX b h h') (hne:∀a,y.a=some a→a.block≠b):RdW h' y l:=⟨hr.1.leX hl hne,hr.2⟩
theorem zst {h:Hp} {a:Addr} {l:List Value} (H:∀i v,l[i]?=some v→h.cell (a.add i)=some v):∀n,n≤l.length→cellsAt h a n=some (l.take n)
 | 0,_=>by simp [cellsAt]
 | n+1,hn=>by
   unfold cellsAt
   rw [zst H n (by omega)]
   have h1:l[n]?=some l[n]:=List.getElem?_eq_getElem (by omega)
   simp only [H n _ h1]
   rw [List.take_succ_eq_append_getElem (by omega)]
theorem Rd.cut {h:Hp} {x:Sl} {cs:List Value} (hr:Rd h 1 x cs) (lo hi:Nat) (h1:lo≤hi) (h2:hi≤cs.length) (h3:hi≤x.cap):Rd h 1 (x.cut lo hi 1) ((cs.drop lo).take (hi-lo)):=by
 have hlen:((cs.drop lo).take (hi-lo)).length=hi-lo:=by rw [List.length_take,List.length_drop]; omega
 refine ⟨by rw [hlen]; show (hi-lo)*1=_; omega,?_⟩
 rw [hlen]
 by_cases h0:hi=lo
 · have:hi-lo=0:=by omega
   rw [this]
   cases (x.cut lo hi 1).a<;>simp [cellsAtO,cellsAt]
 · have hne:x.cap≠lo:=by omega
   have ha:(x.cut lo hi 1).a=x.a.map (·.add (lo*1)):=by show (if x.cap=lo then _ else _)=_; rw [if_neg hne]
   rw [ha]
   have hr2:=hr.2
   cases hxa:x.a with
   | none=>
     rw [hxa] at hr2
     simp only [cellsAtO] at hr2
     split at hr2
     · omega
     · cases hr2
   | some a=>
     rw [hxa] at hr2
     simp only [cellsAtO] at hr2
     show cellsAt h (a.add (lo*1)) (hi-lo)=_
     have key:=zst (h:=h) (a:=a.add (lo*1)) (l:=cs.drop lo) (fun i v hv=>by
      rw [zce]
      refine zhc hr2 _ v ?_
      rw [List.getElem?_drop] at hv
      rw [Nat.mul_one]; exact hv) (hi-lo) (by rw [List.length_drop]; omega)
     exact key
theorem RdW.cut {h:Hp} {x:Sl} {l:List Nat} (hr:RdW h x l) (lo hi:Nat) (h1:lo≤hi) (h2:hi≤l.length):RdW h (x.cut lo hi 1) ((l.drop lo).take (hi-lo)):=by
 have hl:=hr.len
 have hc:=hr.2
 refine ⟨?_,?_⟩
 · have:=hr.1.cut lo hi h1 (by rw [zj5]; exact h2) (by omega)
   unfold wc at *
   rw [List.map_take,List.map_drop]; exact this
 · show hi-lo≤x.cap-lo; omega
theorem zac7 {h:Hp} {x:Sl} {l:List Nat} {lo hi:Int} {K:Sl→Prop} (a b:Nat) (hr:RdW h x l) (ha:lo=a) (hb:hi=b) (hab:a≤b) (hbl:b≤l.length)
 (H:RdW h (x.cut a b 1) ((l.drop a).take (b-a))→K (x.cut a b 1)):slP x lo hi 1 K:=by
 subst ha hb
 have hl:=hr.len
 have hc:=hr.2
 exact ⟨by omega,by omega,by omega,H (hr.cut a b hab hbl)⟩
theorem zan {h:Hp} {x:Sl} {l:List Nat} {i:Int} {Ka:Addr→Prop} (k:Nat) (hr:RdW h x l) (hi:i=k) (hk:k<l.length)
 (H:∀a,h.cell a=some (.int .u32 (l[k]:Int))→Ka a):idxP x i 1 Ka:=
 ztv k hr.1 hi (v:=.int .u32 (l[k]:Int)) (by simp [wc,hk]) H
theorem ze4 {h0 h:Hp} {x:Sl} {l:List Nat} {i:Int} {v:Int} {K:Hp→Prop} (k n:Nat) (ho:OwnW h0 h x l) (hi:i=k) (hk:k<l.length) (hv:v=n)
 (H:∀h' b,(∀a,x.a=some a→a.block=b)→h0 b=none→LeX b h h'→OwnW h0 h' x (l.set k n)→K h'):idxP x i 1 fun a=>stP a [.int .u32 v] K h:=by
 subst hv
 refine zac8 k ho hi (by rw [ho.len]; exact hk) rfl (by decide) rfl fun h' b h1 h2 h3 h4=>H h' b h1 h2 h3 ?_
 rw [zagb hk] at h4; exact h4
theorem zf9 {h:Hp} {len cap:Int} {K:Sl→Hp→Prop} (l c:Nat) (hl:len=l) (hc:cap=c) (hlc:l≤c) (hb:c≤35184372088832)
 (H:∀x h',x.len=l→OwnW h h' x (List.replicate l 0)→K x h'):mkP len cap 4 [.int .u32 0] K h:=by
 refine zadi (size:=1) l c hl hc hlc (by omega) (by omega) rfl fun x h' hx _ ho=>H x h' hx ?_
 rw [zaga] at ho; exact ho
theorem zwh {h0 h:Hp} {x:Sl} {l:List Nat} {v:Int} {K:Sl→Hp→Prop} (n:Nat) (ho:OwnW h0 h x l) (hv:v=n) (hb:l.length<35184372088832)
 (H:∀y h',OwnW h0 h' y (l++[n])→K y h'):appP 1 4 [.int .u32 0] x 1 [.int .u32 v] K h:=by
 subst hv
 have hl:=ho.len
 refine zik ho (n:=1) rfl rfl rfl (by omega) (by omega) fun y h' hy hyl=>H y h' ?_
 unfold OwnW
 rw [za9j]; exact hy
theorem u64n {n:Nat} (h:n<18446744073709551616):IntKind.u64.wrap (n:Int)=(n:Int):=wu64 (by omega)
theorem u32n (n:Nat):IntKind.u32.wrap (n:Int)=((n % W:Nat):Int):=by
 simp [IntKind.wrap,IntKind.signed,IntKind.bits,W]
theorem i64n {n:Nat} (h:n<9223372036854775808):IntKind.i64.wrap (n:Int)=(n:Int):=w64 (by omega)
theorem shr32 (n:Nat):((n:Int)).fdiv (2 ^ (min (32:Int).toNat IntKind.u64.bits))=((n/W:Nat):Int):=by
 have:(2:Int) ^ (min (32:Int).toNat IntKind.u64.bits)=((4294967296:Nat):Int):=by decide
 rw [this]
 show ((n:Int)).fdiv ((4294967296:Nat):Int)=((n/4294967296:Nat):Int)
 exact Int.ofNat_fdiv n 4294967296 |>.symm
theorem mac {c x y z:Nat} (hc:c<W) (hx:x<W) (hy:y<W) (hz:z<W) :
 IntKind.u64.wrap ((c:Int)+IntKind.u64.wrap (IntKind.u64.wrap (IntKind.u64.wrap (x:Int)*IntKind.u64.wrap (y:Int))+IntKind.u64.wrap (z:Int)))=((c+(x*y+z):Nat):Int):=by
 unfold W at *
 have hxy:x*y≤4294967295*4294967295:=Nat.mul_le_mul (by omega) (by omega)
 rw [u64n (n:=x) (by omega),u64n (n:=y) (by omega),u64n (n:=z) (by omega)]
 rw [show ((x:Int)*(y:Int))=((x*y:Nat):Int) by simp,u64n (n:=x*y) (by omega)]
 rw [show (((x*y:Nat):Int)+(z:Int))=((x*y+z:Nat):Int) by simp,u64n (n:=x*y+z) (by omega)]
 rw [show ((c:Int)+((x*y+z:Nat):Int))=((c+(x*y+z):Nat):Int) by simp,u64n (by omega)]
theorem za7d {c x y z:Nat} (hc:c<W) (hx:x<W) (hy:y<W) (hz:z<W):(c+(x*y+z))/W<W:=by
 rw [Nat.div_lt_iff_lt_mul W_pos]
 unfold W at *
 have hxy:x*y≤4294967295*4294967295:=Nat.mul_le_mul (by omega) (by omega)
 omega
end Den
end

section
namespace Den
open Go Iv
namespace Hp
def del (h:Hp) (b:Nat):Hp:=fun k=>if k=b then none else h k
def one (h:Hp) (b:Nat):Hp:=fun k=>if k=b then h k else none
theorem del_le (h:Hp) (b:Nat):(h.del b).le h:=fun k B hk=>by
 unfold del at hk; split at hk
 · cases hk
 · exact hk
theorem del_same (h:Hp) (b:Nat):(h.del b) b=none:=by simp [del]
theorem add_assoc' (a b c:Hp):(a.add b).add c=a.add (b.add c):=by
 funext k; unfold add; cases a k<;>rfl
end Hp
theorem za03 {α:Type} {G:(α→Hp→Prop)→Hp→Prop} {K1 K:α→Hp→Prop} {D O:Hp} (hd:D.dj O) (H:callP G K1 D) (k:∀v D',D.le D'→D'.dj O→K1 v D'→K v (D'.add O)):callP G K (D.add O):=by
 obtain ⟨D1,O1,Q,h1,h2,h3,h4⟩:=H
 refine ⟨D1,O1.add O,Q,?_,?_,h3,fun v D' hq=>⟨(h4 v D' hq).1,fun hdj hfin=>?_⟩⟩
 · intro k
   rcases h1 k with h5 | h5
   · exact .inl h5
   · rcases hd k with h6 | h6
     · rw [h2] at h6; exact .inl (Hp.add_none.1 h6).1
     · exact .inr (Hp.add_none.2 ⟨h5,h6⟩)
 · rw [h2,Hp.add_assoc']
 · have h5:=h4 v D' hq
   have hdj1:D'.dj O1:=fun k=>by
    rcases hdj k with h6 | h6
    · exact .inl h6
    · exact .inr (Hp.add_none.1 h6).1
   have hdj2:(D'.add O1).dj O:=fun k=>by
    rcases hdj k with h6 | h6
    · rcases hd k with h7 | h7
      · rw [h2] at h7; exact .inl (Hp.add_none.2 ⟨h6,(Hp.add_none.1 h7).2⟩)
      · exact .inr h7
    · exact .inr (Hp.add_none.1 h6).2
   have hfin1:(D'.add O1).Fin:=Hp.Fin.sub hfin fun k hk=>by
    rw [←Hp.add_assoc'] at hk; exact (Hp.add_none.1 hk).1
   have h6:=h5.2 hdj1 hfin1
   rw [←Hp.add_assoc']
   refine k v _ ?_ hdj2 h6
   rw [h2]
   exact Hp.add_mono h5.1 hdj1
end Den
end

section
namespace Den
open Go Iv
section
variable {h : Hp} {x y : Sl} {l m : List Nat} {Ks : Sl → Hp → Prop} {Ki : Int → Hp → Prop} {Kb : Bool → Hp → Prop}
def InM (y x:Sl):Prop:=∀a,y.a=some a→∃a',x.a=some a'∧a.block=a'.block
theorem InM.rfl {x:Sl}:InM x x:=fun a ha=>⟨a,ha,Eq.refl _⟩
theorem InM.trans {x y z:Sl} (h1:InM x y) (h2:InM y z):InM x z:=fun a ha=>by
 obtain ⟨a',h3,h4⟩:=h1 a ha
 obtain ⟨a2,h5,h6⟩:=h2 a' h3
 exact ⟨a2,h5,h4.trans h6⟩
theorem InM.cut {x:Sl} {lo hi n:Nat}:InM (x.cut lo hi n) x:=fun a ha=>by
 have ha':(if x.cap=lo then x.a else x.a.map (·.add (lo*n)))=some a:=ha
 split at ha'
 · exact ⟨a,ha',Eq.refl _⟩
 · cases hx:x.a with
   | none=>rw [hx] at ha'; cases ha'
   | some a'=>
     rw [hx] at ha'
     simp only [Option.map_some,Option.some.injEq] at ha'
     subst ha'
     exact ⟨a',Eq.refl _,zbg _ _⟩
theorem zr0 {Kf:Sl→Hp→Prop} (hr:RdW h x l) (hl:l.length<4611686018427387904) (H:∀y,RdW h y (trimL l)→InM y x→Kf y h) :
 loopP (S:=Sl×Unit) (fun s1 k2 h1=>
  (joinP (S:=Unit) (fun s3 h2=>(slP s1.1 0 (IntKind.i64.wrap ((s1.1.len:Int)-1)) 1 fun c5=>(k2 (c5,()) h2)))
  (fun k4=>(ifP (decide ((s1.1.len:Int)>0)) (idxP s1.1 (IntKind.i64.wrap ((s1.1.len:Int)-1)) 1 fun a6=>(ldL (.int .u32) a6 (fun x7=>(ifP (x7==0) (k4 () h1) (Kf s1.1 h1))) h1)) (Kf s1.1 h1)))))
  (x,()) h:=by
 refine zal (fun st h'=>h'=h∧∃(y:Sl) (k:Nat),st=(y,())∧k≤l.length∧RdW h y (l.take k)∧trimL (l.take k)=trimL l∧InM y x) (fun st=>st.1.len)
  ⟨rfl,x,l.length,rfl,Nat.le_refl _,by rw [List.take_of_length_le (Nat.le_refl _)]; exact hr,by rw [List.take_of_length_le (Nat.le_refl _)],InM.rfl⟩ ?_
 rintro st h' ⟨rfl,y,k,rfl,hk,hy,ht,hsub⟩
 have hyl:=hy.len
 rw [List.length_take,Nat.min_eq_left hk] at hyl
 refine za3 (fun _ h1=>h1=h'∧∃j,k=j+1∧∃hj:j<l.length,l[j]=0) ?_ ?_
 · rintro _ h1 ⟨rfl,j,rfl,hj,h0⟩
   refine zac7 0 j hy rfl (by simp only; rw [hyl,w64 (by omega)]; omega) (Nat.zero_le _) (by rw [List.length_take]; omega) fun hc=>?_
   have e:((l.take (j+1)).drop 0).take (j-0)=l.take j:=by
    rw [List.drop_zero,Nat.sub_zero,List.take_take]; congr 1; omega
   rw [e] at hc
   refine ⟨⟨rfl,_,j,rfl,by omega,hc,?_,InM.cut.trans hsub⟩,?_⟩
   · rw [←ht,List.take_succ_eq_append_getElem hj,h0,zl5]
   · show j-0<y.len; omega
 · refine za0 (fun h1=>?_) (fun h1=>?_)
   · simp only at h1
     obtain ⟨j,rfl⟩:∃j,k=j+1:=⟨k-1,by omega⟩
     have hj:j<l.length:=by omega
     refine zan j hy (by simp only; rw [hyl,w64 (by omega)]; omega) (by rw [List.length_take]; omega) fun a ha=>⟨_,ha,?_⟩
     have e:(l.take (j+1))[j]'(by rw [List.length_take]; omega)=l[j]:=by simp
     rw [e]
     refine za7 (fun h2=>⟨rfl,j,rfl,hj,by omega⟩) (fun h2=>?_)
     have h3:l[j]≠0:=by omega
     have:trimL (l.take (j+1))=l.take (j+1):=by
      rw [List.take_succ_eq_append_getElem hj,zm5 _ h3]
     rw [←ht,this] at H
     exact H y hy hsub
   · simp only at h1
     have:k=0:=by omega
     subst this
     rw [←ht] at H
     exact H y hy hsub
theorem zaca (hr:RdW h x l) (hl:l.length<4611686018427387904) (H:∀y,RdW h y (trimL l)→Ks y h):F.zaf x Ks h:=zr0 hr hl fun y hy _=>H y hy
theorem zaal (hr:RdW h x l) (hl:l.length<4611686018427387904) (H:∀y,RdW h y (trimL l)→Ks y h):F.zbc x Ks h:=zr0 hr hl fun y hy _=>H y hy
theorem zu8 (hr:RdW h x l) (hl:l.length<4611686018427387904) (H:∀y,RdW h y (trimL l)→InM y x→Ks y h):callP (F.zaf x) Ks h:=
 za1 (fun y h'=>h'=h∧RdW h y (trimL l)∧InM y x) (fun K' hk=>zr0 hr hl fun y hy hs=>hk y h (Hp.le_refl _) ⟨rfl,hy,hs⟩) fun y h' _ ⟨e,hy,hs⟩=>by subst e; exact H y hy hs
theorem zod (hr:RdW h x l) (hl:l.length<4611686018427387904) (H:∀y,RdW h y (trimL l)→InM y x→Ks y h):callP (F.zbc x) Ks h:=zu8 hr hl H
theorem zg1 (hr:RdW h x l) (hl:l.length<4611686018427387904) (H:∀y,RdW h y (trimL l)→Ks y h):callP (F.zaf x) Ks h:=
 za1 (fun y h'=>h'=h∧RdW h y (trimL l)) (fun K' hk=>zaca hr hl fun y hy=>hk y h (Hp.le_refl _) ⟨rfl,hy⟩) fun y h' _ ⟨e,hy⟩=>by subst e; exact H y hy
theorem zdl (hr:RdW h x l) (hl:l.length<4611686018427387904) (H:∀y,RdW h y (trimL l)→Ks y h):callP (F.zbc x) Ks h:=
 za1 (fun y h'=>h'=h∧RdW h y (trimL l)) (fun K' hk=>zaal hr hl fun y hy=>hk y h (Hp.le_refl _) ⟨rfl,hy⟩) fun y h' _ ⟨e,hy⟩=>by subst e; exact H y hy
theorem za3t {Kf:Sl→Hp→Prop} {h0:Hp} {a b:Sl} {la lb:List Nat} (ha:RdW h0 a la) (hb:RdW h0 b lb) (oa:okW la) (ob:okW lb) (hl:la.length+lb.length≤35184372088800)
 (ho:OwnW h0 h x (List.replicate (la.length+lb.length) 0)) (H:∀h' l,OwnW h0 h' x l→okW l→l.length=la.length+lb.length→vl l=vl la*vl lb→Kf x h') :
 loopP (S:=Int×Unit) (fun s4 k5 h3=>
  (ifP (decide (s4.1<(a.len:Int)))
  (idxP a s4.1 1 fun a6=>
  (ldL (.int .u32) a6 (fun x7=>
  (loopP (S:=Int×Int×Unit) (fun s8 k9 h4=>
  (ifP (decide (s8.2.1<(b.len:Int)))
  (idxP b s8.2.1 1 fun a10=>
  (ldL (.int .u32) a10 (fun x11=>
  (idxP x (IntKind.i64.wrap (s4.1+s8.2.1)) 1 fun a12=>
  (ldL (.int .u32) a12 (fun x13=>
  (idxP x (IntKind.i64.wrap (s4.1+s8.2.1)) 1 fun a14=>
  (stP a14 [.int .u32 (IntKind.u32.wrap ((IntKind.u64.wrap (s8.1+(IntKind.u64.wrap ((IntKind.u64.wrap ((IntKind.u64.wrap (x7))*(IntKind.u64.wrap (x11))))+(IntKind.u64.wrap (x13))))))))] (fun h5=>
  (0≤(32:Int) ∧
  (k9 (((IntKind.u64.wrap (s8.1+(IntKind.u64.wrap ((IntKind.u64.wrap ((IntKind.u64.wrap (x7))*(IntKind.u64.wrap (x11))))+(IntKind.u64.wrap (x13)))))):Int).fdiv (2 ^ (min (32:Int).toNat IntKind.u64.bits)),(IntKind.i64.wrap (s8.2.1+1)),()) h5))) h4))) h4))) h4))
  (idxP x (IntKind.i64.wrap (s4.1+(b.len:Int))) 1 fun a15=>
  (stP a15 [.int .u32 (IntKind.u32.wrap (s8.1))] (fun h6=>
  (k5 ((IntKind.i64.wrap (s4.1+1)),()) h6)) h4))))
  (0,0,()) h3)) h3))
  (Kf x h3)))
  (0,()) h:=by
 have hal:=ha.len
 have hbl:=hb.len
 refine zal (fun st h'=>∃(i:Nat) (l:List Nat),st=((i:Int),())∧i≤la.length∧OwnW h0 h' x l∧okW l∧l.length=la.length+lb.length∧vl l=vl (la.take i)*vl lb∧∀j (hj:j<l.length),i+lb.length≤j→l[j]=0)
  (fun st=>((la.length:Int)-st.1).toNat) ⟨0,_,rfl,Nat.zero_le _,ho,zi4 _,by simp,by rw [zzi]; simp [vl],fun j hj _=>by simp⟩ ?_
 rintro st h1 ⟨i,l,rfl,hi,ho1,okl,hll,hv,hz⟩
 refine za0 (fun h2=>?_) (fun h2=>?_)
 · simp only at h2
   have hi':i<la.length:=by omega
   have hxi:=zc1 oa hi'
   refine zan i (ha.le ho1.1) rfl hi' fun aa haa=>⟨_,haa,?_⟩
   refine zal (fun st h'=>∃(k c:Nat) (l':List Nat),st=((c:Int),(k:Int),())∧k≤lb.length∧c<W∧OwnW h0 h' x l'∧okW l'∧l'.length=la.length+lb.length ∧
    vl l'+W ^ (i+k)*c=vl l+W ^ i*(la[i]*vl (lb.take k))∧∀j (hj:j<l'.length),i+lb.length≤j→l'[j]=0)
    (fun st=>((lb.length:Int)-st.2.1).toNat) ⟨0,0,l,rfl,Nat.zero_le _,by decide,ho1,okl,hll,by simp [vl],hz⟩ ?_
   rintro st h3 ⟨k,c,l',rfl,hk,hc,ho3,okl',hll',hv',hz'⟩
   refine za0 (fun h4=>?_) (fun h4=>?_)
   · simp only at h4
     have hk':k<lb.length:=by omega
     have hyk:=zc1 ob hk'
     have hik:i+k<l'.length:=by omega
     have hzk:=zc1 okl' hik
     have wik:IntKind.i64.wrap ((i:Int)+(k:Int))=((i+k:Nat):Int):=by rw [w64 (by omega)]; omega
     refine zan k (hb.le ho3.1) rfl hk' fun a1 ha1=>⟨_,ha1,?_⟩
     simp only
     rw [wik]
     refine zan (i+k) ho3.rdW rfl hik fun a2 ha2=>⟨_,ha2,?_⟩
     simp only
     rw [mac hc hxi hyk hzk]
     refine ze4 (i+k) _ ho3 rfl hik (u32n _) fun h5 b5 _ _ _ ho5=>⟨by decide,?_⟩
     rw [shr32]
     refine ⟨⟨k+1,_,_,by rw [w64 (by omega)]; rfl,by omega,za7d hc hxi hyk hzk,ho5,zd0 okl' (Nat.mod_lt _ W_pos),by simp [hll'],?_,?_⟩,by rw [w64 (by omega)]; omega⟩
     · have e1:=zkj (l:=l') (k:=i+k) (v:=(c+(la[i]*lb[k]+l'[i+k])) % W) hik
       have e2:=Nat.mod_add_div (c+(la[i]*lb[k]+l'[i+k])) W
       have e3:=zbm hk'
       rw [e3]
       generalize vl (l'.set (i+k) ((c+(la[i]*lb[k]+l'[i+k])) % W))=V at e1 ⊢
       generalize hr:(c+(la[i]*lb[k]+l'[i+k])) % W=r at *
       generalize hq:(c+(la[i]*lb[k]+l'[i+k]))/W=q at *
       generalize vl l'=V' at *
       generalize vl l=V0 at *
       generalize l'[i+k]=z at *
       generalize la[i]=xx at *
       generalize lb[k]=yy at *
       generalize vl (lb.take k)=T at *
       have p1:W ^ (i+(k+1))=W ^ (i+k)*W:=by rw [←Nat.add_assoc,Nat.pow_succ]
       have p2:W ^ (i+k)=W ^ i*W ^ k:=Nat.pow_add ..
       rw [p1]
       generalize W ^ (i+k)=P at *
       subst p2
       generalize W ^ i=Pi at *
       generalize W ^ k=Pk at *
       grind
     · intro j hj hjl
       rw [List.length_set] at hj
       rw [List.getElem_set_ne (by omega)]
       exact hz' j hj hjl
   · simp only at h4
     have hk':k=lb.length:=by omega
     subst hk'
     have hil:i+lb.length<l'.length:=by omega
     have w1:IntKind.i64.wrap ((i:Int)+(b.len:Int))=((i+lb.length:Nat):Int):=by rw [hbl,w64 (by omega)]; omega
     simp only
     rw [w1]
     refine ze4 (i+lb.length) c ho3 rfl hil (by rw [u32n,Nat.mod_eq_of_lt hc]) fun h5 b5 _ _ _ ho5=>?_
     refine ⟨⟨i+1,_,by rw [w64 (by omega)]; rfl,by omega,ho5,zd0 okl' hc,by simp [hll'],?_,?_⟩,by rw [w64 (by omega)]; omega⟩
     · have e1:=zkj (l:=l') (k:=i+lb.length) (v:=c) hil
       rw [hz' _ hil (Nat.le_refl _)] at e1
       rw [List.take_of_length_le (Nat.le_refl _)] at hv'
       rw [zbm hi',Nat.add_mul]
       rw [Nat.mul_assoc]
       omega
     · intro j hj hjl
       rw [List.length_set] at hj
       rw [List.getElem_set_ne (by omega)]
       exact hz' j hj (by omega)
 · simp only at h2
   have:i=la.length:=by omega
   subst this
   rw [List.take_of_length_le (Nat.le_refl _)] at hv
   exact H h1 l ho1 okl hll hv
end
end Den
end

section
namespace Den
open Go Iv
theorem znl {α:Type} {G:(α→Hp→Prop)→Hp→Prop} {K:α→Hp→Prop} {h:Hp} (R:α→Prop) (H:∀K':α→Hp→Prop,(∀v,R v→K' v h)→G K' h) (k:∀v,R v→K v h):callP G K h:=
 za1 (fun v h'=>h'=h∧R v) (fun K' hk=>H K' fun v hv=>hk v h (Hp.le_refl _) ⟨rfl,hv⟩) fun v h' _ ⟨e,hv⟩=>by subst e; exact k v hv
def cmpN (m n:Nat):Int:=if m<n then -1 else if n<m then 1 else 0
def sg (neg:Bool) (n:Nat):Int:=if neg=true then -(n:Int) else n
def NI (h:Hp) (x:TInt) (n:Int):Prop:=RdW h x.mag (dg n.natAbs)∧x.neg=decide (n<0)
theorem NI.le {h h':Hp} {x:TInt} {n:Int} (hx:NI h x n) (hl:h.le h'):NI h' x n:=⟨hx.1.le hl,hx.2⟩
theorem NI.zero {h:Hp}:NI h ⟨false,nilS⟩ 0:=⟨by rw [show (0:Int).natAbs=0 from rfl,zbz]; exact RdW.nil,by simp⟩
theorem zr1:∀{a b:List Nat} (i:Nat),okW a→okW b→a.length=b.length→(hi:i<a.length)→(hi':i<b.length)→a.drop (i+1)=b.drop (i+1)→a[i]<b[i]→vl a<vl b
 | [],_,i,_,_,_,hi,_,_,_=>by simp at hi
 | x :: r,[],i,_,_,hl,_,_,_,_=>by simp at hl
 | x :: r,y :: t,0,ha,hb,hl,hi,hi',hd,hlt=>by
   simp only [Nat.zero_add,List.drop_succ_cons,List.drop_zero] at hd
   subst hd
   simp only [List.getElem_cons_zero] at hlt
   simp only [vl]; omega
 | x :: r,y :: t,i+1,ha,hb,hl,hi,hi',hd,hlt=>by
   obtain ⟨hx,hr⟩:=zra ha
   obtain ⟨hy,ht⟩:=zra hb
   have:=zr1 (a:=r) (b:=t) i hr ht (by simpa using hl) (by simpa using hi) (by simpa using hi') (by simpa using hd) (by simpa using hlt)
   simp only [vl]
   have h2:W*(vl r+1)≤W*vl t:=Nat.mul_le_mul_left _ this
   rw [Nat.mul_add] at h2; omega
theorem znn {m n:Nat} (h:(dg m).length<(dg n).length):m<n:=by
 rcases Nat.lt_or_ge m n with h1 | h1
 · exact h1
 · exfalso
   have h2:=zb9.1 (Nat.le_refl (dg m).length)
   have h3:(dg n).length≤(dg m).length:=zb9.2 (Nat.lt_of_le_of_lt h1 h2)
   omega
section
variable {h : Hp} {x y : Sl} {l m : List Nat} {Ks : Sl → Hp → Prop} {Ki : Int → Hp → Prop} {Kb : Bool → Hp → Prop} {KI : TInt → Hp → Prop}
theorem zkg (neg:Bool) (n:Nat):(sg neg n).natAbs=n:=by unfold sg; split<;>simp
theorem za86 {neg:Bool} (hr:RdW h x l) (ok:okW l) (hl:l.length<4611686018427387904) (H:∀y,NI h y (sg neg (vl l))→KI y h):F.zc4 neg x KI h:=by
 unfold F.zc4
 refine zg1 hr hl fun y hy=>?_
 rw [zc6 ok] at hy
 have hyl:=hy.len
 refine za7 (fun h1=>?_) (fun h1=>?_)
 · have h0:vl l=0:=zef.1 (List.length_eq_zero_iff.1 (by omega))
   refine H _ ?_
   rw [h0]
   have:sg neg 0=0:=by unfold sg; split<;>rfl
   rw [this]; exact NI.zero
 · refine H _ ⟨by rw [zkg]; exact hy,?_⟩
   have hpos:vl l≠0:=fun h0=>by rw [h0,zbz] at hyl; exact h1 (by rw [hyl]; rfl)
   unfold sg
   cases neg
   · simp
   · simp; omega
theorem za3j {neg:Bool} (hr:RdW h x l) (ok:okW l) (hl:l.length<4611686018427387904) (H:∀y,NI h y (sg neg (vl l))→KI y h):F.zby neg x KI h:=by
 unfold F.zby
 refine zdl hr hl fun y hy=>?_
 rw [zc6 ok] at hy
 have hyl:=hy.len
 have hz:(vl l=0)↔(dg (vl l)).length=0:=by rw [List.length_eq_zero_iff,zef]
 refine za2 (fun h1=>?_) (fun h1=>?_)
 · refine H _ ⟨by rw [zkg]; exact hy,?_⟩
   rw [h1]
   unfold sg
   simp only [if_true]
   congr 1
   apply propext
   omega
 · refine H _ ⟨by rw [zkg]; exact hy,?_⟩
   rw [h1]
   unfold sg
   simp
theorem zog {neg:Bool} (hr:RdW h x l) (ok:okW l) (hl:l.length<4611686018427387904) (H:∀y,NI h y (sg neg (vl l))→KI y h):callP (F.zc4 neg x) KI h:=
 znl _ (fun K'=>za86 hr ok hl) H
theorem zyu {neg:Bool} (hr:RdW h x l) (ok:okW l) (hl:l.length<4611686018427387904) (H:∀y,NI h y (sg neg (vl l))→KI y h):callP (F.zby neg x) KI h:=
 znl _ (fun K'=>za3j hr ok hl) H
theorem zpd (hr:RdW h x l) (hl:l.length≤35184372088800) (H:∀y h',h.le h'→RdW h' y l→Ks y h'):callP (F.zb4 x) Ks h:=by
 refine za1 (fun y h'=>RdW h' y l) (fun K' hk=>?_) H
 unfold F.zb4
 have hlen:=hr.len
 refine za2 (fun h1=>?_) (fun h1=>?_)
 · have hn:x.a=none:=by cases hx:x.a with | none=>rfl | some a=>rw [hx] at h1; cases h1
   have:l=[]:=by
    have h2:=hr.1.2
    rw [hn] at h2
    simp only [cellsAtO] at h2
    split at h2
    · rename_i h3; rw [zj5] at h3; exact List.length_eq_zero_iff.1 h3
    · cases h2
   subst this
   exact hk _ _ (Hp.le_refl _) RdW.nil
 · refine zhg (n:=0) (size:=1) rfl fun b h1 hb ho=>?_
   have hr1:=hr.le ho.1
   refine ⟨wc l,?_,?_⟩
   · have:=hr1.1.2
     rw [zj5] at this
     rw [hlen,Nat.mul_one]; exact this
   · refine zik ho (n:=x.len) (by rw [zj5]; omega) rfl ?_ (by simp only; omega) (by simp only; omega) fun y h2 hy _=>hk _ _ hy.1 ⟨hy.rd,hy.2.2.1⟩
     simp [wc,Value.leaf]
theorem za0d {n:Nat} (hn:n<18446744073709551616) (H:∀y h',h.le h'→RdW h' y (dg n)→Ks y h'):F.zc9 n Ks h:=by
 unfold F.zc9
 refine ⟨by decide,?_⟩
 rw [u32n,shr32,u32n]
 have hq:n/W<W:=by unfold W; omega
 rw [Nat.mod_eq_of_lt hq]
 refine zhg (n:=2) (size:=1) rfl fun b h1 hb ho=>?_
 have ho':OwnW h h1 ⟨some ⟨b,0,none⟩,2,2⟩ [n % W,n/W]:=ho
 have ok:okW [n % W,n/W]:=fun d hd=>by
  simp only [List.mem_cons,List.not_mem_nil,or_false] at hd
  rcases hd with rfl | rfl
  · exact Nat.mod_lt _ W_pos
  · exact hq
 refine zg1 ho'.rdW (by simp) fun y hy=>?_
 rw [zc6 ok] at hy
 have:vl [n % W,n/W]=n:=by simp only [vl,Nat.mul_zero,Nat.add_zero]; exact Nat.mod_add_div n W
 rw [this] at hy
 exact H _ _ ho.1 hy
theorem zh5 {n:Nat} {i:Int} (hi:i=n) (hn:n<18446744073709551616) (H:∀y h',h.le h'→RdW h' y (dg n)→Ks y h'):callP (F.zc9 i) Ks h:=by
 subst hi
 exact za1 _ (fun K'=>za0d hn) H
theorem zab7 {n:Nat} (hn:n<18446744073709551616) (H:∀y h',h.le h'→RdW h' y (dg n)→Ks y h'):F.ze7 n Ks h:=by
 unfold F.ze7
 refine ⟨by decide,?_⟩
 rw [u32n,shr32,u32n]
 have hq:n/W<W:=by unfold W; omega
 rw [Nat.mod_eq_of_lt hq]
 refine zhg (n:=2) (size:=1) rfl fun b h1 hb ho=>?_
 have ho':OwnW h h1 ⟨some ⟨b,0,none⟩,2,2⟩ [n % W,n/W]:=ho
 have ok:okW [n % W,n/W]:=fun d hd=>by
  simp only [List.mem_cons,List.not_mem_nil,or_false] at hd
  rcases hd with rfl | rfl
  · exact Nat.mod_lt _ W_pos
  · exact hq
 refine zdl ho'.rdW (by simp) fun y hy=>?_
 rw [zc6 ok] at hy
 have:vl [n % W,n/W]=n:=by simp only [vl,Nat.mul_zero,Nat.add_zero]; exact Nat.mod_add_div n W
 rw [this] at hy
 exact H _ _ ho.1 hy
theorem zkk {n:Nat} {i:Int} (hi:i=n) (hn:n<18446744073709551616) (H:∀y h',h.le h'→RdW h' y (dg n)→Ks y h'):callP (F.ze7 i) Ks h:=by
 subst hi
 exact za1 _ (fun K'=>zab7 hn) H
theorem or32 {a b:Nat} (ha:a<W) (hb:b<W):ibits .or .u64 (IntKind.u64.wrap ((a:Int)*2 ^ (min (32:Int).toNat IntKind.u64.bits))) (IntKind.u64.wrap (b:Int))=((a*W+b:Nat):Int):=by
 have e1:((a:Int)*2 ^ (min (32:Int).toNat IntKind.u64.bits))=((a*W:Nat):Int):=by
  have:(2:Int) ^ (min (32:Int).toNat IntKind.u64.bits)=((W:Nat):Int):=by decide
  rw [this]; simp
 unfold W at *
 rw [e1,u64n (n:=a*4294967296) (by omega),u64n (n:=b) (by omega)]
 unfold ibits
 simp only [IntKind.bits]
 have h1:(BitVec.ofInt 64 ((a*4294967296:Nat):Int) ||| BitVec.ofInt 64 (b:Int)).toNat=a*4294967296+b:=by
  rw [BitVec.ofInt_natCast,BitVec.ofInt_natCast,BitVec.toNat_or,BitVec.toNat_ofNat,BitVec.toNat_ofNat,Nat.mod_eq_of_lt (by omega),Nat.mod_eq_of_lt (by omega)]
  have:=Nat.two_pow_add_eq_or_of_lt (i:=32) (b:=b) (by omega) a
  rw [Nat.mul_comm (2 ^ 32) a] at this
  exact this.symm
 exact (congrArg (fun z:Nat=>IntKind.u64.wrap (z:Int)) h1).trans (u64n (by omega))
theorem za96 (hr:RdW h x l) (ok:okW l) (hl:l.length≤2) (H:∀h',h.le h'→Ki (vl l:Int) h'):F.zd8 x Ki h:=by
 unfold F.zd8
 refine za1 (fun (a:Addr) h'=>h'.cell a=some (.slice x.a x.len x.cap)) (fun K' hk=>?_) fun a h1 l1 ha=>?_
 · unfold F.zbs
   intro b e hb
   refine hk _ _ (Hp.le_ins hb) ?_
   unfold Hp.cell
   simp [Hp.ins_same]
 · have hlen:=hr.len
   refine ⟨x,fun k s h'=>h1.le h'∧k≤l.length∧s=((((vl (l.drop k):Nat):Int),()),()),by omega,⟨Hp.le_refl _,by omega,?_⟩,fun i s h' hI=>?_,fun i s h' hi hI=>?_,fun s h' hI=>?_⟩
   · rw [hlen,List.drop_eq_nil_of_le (Nat.le_refl _)]; rfl
   · exact Hp.cell_le hI.1 ha
   · obtain ⟨hl',hk,rfl⟩:=hI
     have hi':i<l.length:=by omega
     have hr':=(hr.le l1).le hl'
     have h2:=hr'.1.2
     cases hxa:x.a with
     | none=>
       rw [hxa] at h2
       simp only [cellsAtO] at h2
       split at h2
       · rename_i h3; rw [zj5] at h3; omega
       · cases h2
     | some ad=>
       rw [hxa] at h2
       simp only [cellsAtO] at h2
       have hxi:=zc1 ok hi'
       refine ⟨ad,(l[i]:Int),rfl,fun j u hj=>?_,by decide,hl',by omega,?_⟩
       · have hj0:j=0:=by
          rcases Nat.eq_zero_or_pos j with h3 | h3
          · exact h3
          · exfalso
            have:((STy.leaf (.int .u32)).cells (l[i]:Int))[j]?=none:=by
             apply List.getElem?_eq_none
             simp only [STy.cells,List.length_singleton]; omega
            rw [this] at hj; cases hj
         subst hj0
         simp only [STy.cells,List.getElem?_cons_zero,Option.some.injEq] at hj
         subst hj
         refine zhc h2 _ _ ?_
         simp [wc,STy.size,hi',Lf.up]
       · have hd:l.drop i=l[i] :: l.drop (i+1):=List.drop_eq_getElem_cons hi'
         rw [hd]
         simp only [vl]
         have hsm:vl (l.drop (i+1))<W:=by
          have:=vl_lt (zkr ok (i+1))
          rw [List.length_drop] at this
          refine Nat.lt_of_lt_of_le this ?_
          have h3:l.length-(i+1)≤1:=by omega
          exact Nat.le_trans (Nat.pow_le_pow_right W_pos h3) (by simp)
         rw [or32 hsm hxi]
         congr 2
         congr 1
         rw [Nat.mul_comm]; omega
   · obtain ⟨hl',hk,rfl⟩:=hI
     exact H _ (Hp.le_trans l1 hl')
theorem zlm (hr:RdW h x l) (ok:okW l) (hl:l.length≤2) (H:∀h',h.le h'→Ki (vl l:Int) h'):callP (F.zd8 x) Ki h:=
 za1 (fun v _=>v=(vl l:Int)) (fun K' hk=>za96 hr ok hl fun h' hl'=>hk _ _ hl' rfl) fun v h' hl' hv=>by subst hv; exact H h' hl'
theorem zaar (hr:RdW h x l) (ok:okW l) (hl:l.length≤2) (H:Ki (vl l:Int) h):F.zhi x Ki h:=by
 unfold F.zhi
 have hlen:=hr.len
 refine zal (fun st h'=>h'=h∧∃k:Nat,k≤l.length∧st=(((vl (l.drop k):Nat):Int),(k:Int)-1,())) (fun st=>(st.2.1+1).toNat)
  ⟨rfl,l.length,Nat.le_refl _,by rw [List.drop_eq_nil_of_le (Nat.le_refl _),hlen,w64 (by omega)]; rfl⟩ ?_
 rintro st h' ⟨rfl,k,hk,rfl⟩
 refine za0 (fun h1=>?_) (fun h1=>?_)
 · simp only at h1
   obtain ⟨i,rfl⟩:∃i,k=i+1:=⟨k-1,by omega⟩
   have hi':i<l.length:=by omega
   have hxi:=zc1 ok hi'
   refine ⟨by decide,zan i hr (by simp only; omega) hi' fun a ha=>⟨_,ha,?_⟩⟩
   have hsm:vl (l.drop (i+1))<W:=by
    have:=vl_lt (zkr ok (i+1))
    rw [List.length_drop] at this
    refine Nat.lt_of_lt_of_le this ?_
    have h3:l.length-(i+1)≤1:=by omega
    exact Nat.le_trans (Nat.pow_le_pow_right W_pos h3) (by simp)
   simp only
   rw [or32 hsm hxi]
   refine ⟨⟨by trivial,i,by omega,?_⟩,by rw [w64 (by omega)]; omega⟩
   rw [List.drop_eq_getElem_cons hi',w64 (by omega)]
   simp only [vl]
   congr 1
   · congr 1; rw [Nat.mul_comm]; omega
   · congr 1; omega
 · simp only at h1
   obtain rfl:k=0:=by omega
   exact H
theorem zu1 (hr:RdW h x l) (ok:okW l) (hl:l.length≤2) (H:Ki (vl l:Int) h):callP (F.zhi x) Ki h:=zae _ (fun K'=>zaar hr ok hl) H
theorem zrl {a b:Int} (H:Ki (if a<b then -1 else if b<a then 1 else 0) h):callP (F.zfr a b) Ki h:=by
 refine zae _ (fun K' hk=>?_) H
 unfold F.zfr
 have e:∀z:Int,(z != z)=false:=fun z=>by simp
 refine zae false (fun K' hk=>by unfold F.zh3; rw [e]; exact hk) (zae false (fun K' hk=>by unfold F.zh3; rw [e]; exact hk) ?_)
 refine zah rfl (zah rfl (za0 (fun h1=>?_) (fun h1=>za0 (fun h2=>?_) (fun h2=>?_))))
 · rw [if_pos h1] at hk; exact hk
 · rw [if_neg h1,if_pos h2] at hk; exact hk
 · rw [if_neg h1,if_neg h2] at hk; exact hk
theorem za05 {a b:Int} (H:Ki (if a<b then -1 else if b<a then 1 else 0) h):callP (F.zfs a b) Ki h:=by
 refine zae _ (fun K' hk=>?_) H
 unfold F.zfs
 have e:∀z:Int,(z != z)=false:=fun z=>by simp
 refine zae false (fun K' hk=>by unfold F.zfd; rw [e]; exact hk) (zae false (fun K' hk=>by unfold F.zfd; rw [e]; exact hk) ?_)
 refine zah rfl (zah rfl (za0 (fun h1=>?_) (fun h1=>za0 (fun h2=>?_) (fun h2=>?_))))
 · rw [if_pos h1] at hk; exact hk
 · rw [if_neg h1,if_pos h2] at hk; exact hk
 · rw [if_neg h1,if_neg h2] at hk; exact hk
theorem za2n {m n:Nat} (hx:RdW h x (dg m)) (hy:RdW h y (dg n)) (hl:(dg m).length<4611686018427387904) (hl2:(dg n).length<4611686018427387904) (H:Ki (cmpN m n) h):F.zeo x y Ki h:=by
 unfold F.zeo
 have lx:=hx.len
 have ly:=hy.len
 refine zax (fun h1=>?_) (fun h1=>?_)
 · refine zrl ?_
   unfold cmpN at H
   by_cases h2:(dg m).length<(dg n).length
   · rw [if_pos (znn h2)] at H
     rw [if_pos (by omega)]; exact H
   · have h3:(dg n).length<(dg m).length:=by omega
     have h4:=znn h3
     rw [if_neg (by omega),if_pos h4] at H
     rw [if_neg (by omega),if_pos (by omega)]; exact H
 · have hll:(dg m).length=(dg n).length:=by omega
   refine zal (fun st h'=>h'=h∧∃k:Nat,st=((k:Int)-1,())∧k≤(dg m).length∧(dg m).drop k=(dg n).drop k) (fun st=>(st.1+1).toNat)
    ⟨rfl,(dg m).length,by rw [lx,w64 (by omega)],Nat.le_refl _,by rw [List.drop_eq_nil_of_le (Nat.le_refl _),List.drop_eq_nil_of_le (by omega)]⟩ ?_
   rintro st h' ⟨rfl,k,rfl,hk,hd⟩
   refine za0 (fun h2=>?_) (fun h2=>?_)
   · simp only at h2
     obtain ⟨i,rfl⟩:∃i,k=i+1:=⟨k-1,by omega⟩
     have hi:i<(dg m).length:=by omega
     have hi':i<(dg n).length:=by omega
     refine zan i hx (by simp only; omega) hi fun a ha=>⟨_,ha,?_⟩
     refine zan i hy (by simp only; omega) hi' fun a ha=>⟨_,ha,?_⟩
     refine zax (fun h3=>?_) (fun h3=>?_)
     · refine zan i hx (by simp only; omega) hi fun a ha=>⟨_,ha,?_⟩
       refine zan i hy (by simp only; omega) hi' fun a ha=>⟨_,ha,?_⟩
       refine za05 ?_
       unfold cmpN at H
       by_cases h4:(dg m)[i]<(dg n)[i]
       · have:=zr1 i (ok_dg m) (ok_dg n) hll hi hi' hd h4
         rw [vl_dg,vl_dg] at this
         rw [if_pos this] at H
         rw [if_pos (by omega)]; exact H
       · have h5:(dg n)[i]<(dg m)[i]:=by omega
         have:=zr1 i (ok_dg n) (ok_dg m) hll.symm hi' hi hd.symm h5
         rw [vl_dg,vl_dg] at this
         rw [if_neg (by omega),if_pos this] at H
         rw [if_neg (by omega),if_pos (by omega)]; exact H
     · refine ⟨⟨rfl,i,by simp only; rw [w64 (by omega)]; congr 1; omega,by omega,?_⟩,by simp only; rw [w64 (by omega)]; omega⟩
       rw [List.drop_eq_getElem_cons hi,List.drop_eq_getElem_cons hi',hd]
       congr 1; omega
   · simp only at h2
     obtain rfl:k=0:=by omega
     simp only [List.drop_zero] at hd
     have:m=n:=by rw [←vl_dg m,←vl_dg n,hd]
     subst this
     unfold cmpN at H
     rw [if_neg (Nat.lt_irrefl _),if_neg (Nat.lt_irrefl _)] at H
     exact H
theorem zq9 {m n:Nat} (hx:RdW h x (dg m)) (hy:RdW h y (dg n)) (hl:(dg m).length<4611686018427387904) (hl2:(dg n).length<4611686018427387904) (H:Ki (cmpN m n) h):callP (F.zeo x y) Ki h:=
 zae _ (fun K'=>za2n hx hy hl hl2) H
theorem za0t {m n:Nat} (hx:RdW h x (dg m)) (hy:RdW h y (dg n)) (hl:(dg m).length<4611686018427387904) (hl2:(dg n).length<4611686018427387904) (H:Ki (cmpN m n) h):F.zds x y Ki h:=by
 unfold F.zds
 have lx:=hx.len
 have ly:=hy.len
 refine zax (fun h1=>?_) (fun h1=>?_)
 · unfold cmpN at H
   refine za0 (fun h2=>?_) (fun h2=>?_)
   · have h2':=Int.ofNat_lt.1 h2
     rw [if_pos (znn (by omega))] at H; exact H
   · have h2':¬x.len<y.len:=fun hh=>h2 (Int.ofNat_lt.2 hh)
     have h3:(dg n).length<(dg m).length:=by omega
     have h4:=znn h3
     rw [if_neg (by omega),if_pos h4] at H; exact H
 · have hll:(dg m).length=(dg n).length:=by omega
   refine zal (fun st h'=>h'=h∧∃k:Nat,st=((k:Int)-1,())∧k≤(dg m).length∧(dg m).drop k=(dg n).drop k) (fun st=>(st.1+1).toNat)
    ⟨rfl,(dg m).length,by rw [lx,w64 (by omega)],Nat.le_refl _,by rw [List.drop_eq_nil_of_le (Nat.le_refl _),List.drop_eq_nil_of_le (by omega)]⟩ ?_
   rintro st h' ⟨rfl,k,rfl,hk,hd⟩
   refine za0 (fun h2=>?_) (fun h2=>?_)
   · simp only at h2
     obtain ⟨i,rfl⟩:∃i,k=i+1:=⟨k-1,by omega⟩
     have hi:i<(dg m).length:=by omega
     have hi':i<(dg n).length:=by omega
     refine zan i hx (by simp only; omega) hi fun a ha=>⟨_,ha,?_⟩
     refine zan i hy (by simp only; omega) hi' fun a ha=>⟨_,ha,?_⟩
     unfold cmpN at H
     refine za0 (fun h3=>?_) (fun h3=>?_)
     · have:=zr1 i (ok_dg m) (ok_dg n) hll hi hi' hd (Int.ofNat_lt.1 h3)
       rw [vl_dg,vl_dg] at this
       rw [if_pos this] at H; exact H
     · refine zan i hx (by simp only; omega) hi fun a ha=>⟨_,ha,?_⟩
       refine zan i hy (by simp only; omega) hi' fun a ha=>⟨_,ha,?_⟩
       refine za0 (fun h4=>?_) (fun h4=>?_)
       · have:=zr1 i (ok_dg n) (ok_dg m) hll.symm hi' hi hd.symm (Int.ofNat_lt.1 h4)
         rw [vl_dg,vl_dg] at this
         rw [if_neg (by omega),if_pos this] at H; exact H
       · have h3':¬(dg m)[i]<(dg n)[i]:=fun hh=>h3 (Int.ofNat_lt.2 hh)
         have h4':¬(dg n)[i]<(dg m)[i]:=fun hh=>h4 (Int.ofNat_lt.2 hh)
         refine ⟨⟨rfl,i,by simp only; rw [w64 (by omega)]; congr 1; omega,by omega,?_⟩,by simp only; rw [w64 (by omega)]; omega⟩
         rw [List.drop_eq_getElem_cons hi,List.drop_eq_getElem_cons hi',hd]
         congr 1; omega
   · simp only at h2
     obtain rfl:k=0:=by omega
     simp only [List.drop_zero] at hd
     have:m=n:=by rw [←vl_dg m,←vl_dg n,hd]
     subst this
     unfold cmpN at H
     rw [if_neg (Nat.lt_irrefl _),if_neg (Nat.lt_irrefl _)] at H
     exact H
theorem zjb {m n:Nat} (hx:RdW h x (dg m)) (hy:RdW h y (dg n)) (hl:(dg m).length<4611686018427387904) (hl2:(dg n).length<4611686018427387904) (H:Ki (cmpN m n) h):callP (F.zds x y) Ki h:=
 zae _ (fun K'=>za0t hx hy hl hl2) H
end
end Den
end

section
namespace Den
open Go Iv
theorem wu64e (n:Int):IntKind.u64.wrap n=n % 18446744073709551616:=by simp [IntKind.wrap,IntKind.signed,IntKind.bits]
theorem wu32e (n:Int):IntKind.u32.wrap n=n % 4294967296:=by simp [IntKind.wrap,IntKind.signed,IntKind.bits]
theorem fd63 (n:Int):n.fdiv (2 ^ (min (63:Int).toNat IntKind.u64.bits))=n/9223372036854775808:=by
 have e:(2:Int) ^ (min (63:Int).toNat IntKind.u64.bits)=9223372036854775808:=by decide
 rw [e,Int.fdiv_eq_ediv_of_nonneg _ (by decide)]
theorem fd32 (n:Int):n.fdiv (2 ^ (min (32:Int).toNat IntKind.u64.bits))=n/4294967296:=by
 have e:(2:Int) ^ (min (32:Int).toNat IntKind.u64.bits)=4294967296:=by decide
 rw [e,Int.fdiv_eq_ediv_of_nonneg _ (by decide)]
theorem sub64 {x c y:Nat} (hx:x<W) (hc:c≤1) (hy:y<W):∃r b:Nat,r<W∧b≤1∧x+W*b=r+c+y ∧
 IntKind.u32.wrap (IntKind.u64.wrap (IntKind.u64.wrap (IntKind.u64.wrap (x:Int)-(c:Int))-IntKind.u64.wrap (y:Int)))=(r:Int) ∧
 (IntKind.u64.wrap (IntKind.u64.wrap (IntKind.u64.wrap (x:Int)-(c:Int))-IntKind.u64.wrap (y:Int))).fdiv (2 ^ (min (63:Int).toNat IntKind.u64.bits))=(b:Int):=by
 unfold W at *
 rw [fd63]
 simp only [wu64e,wu32e]
 by_cases h:c+y≤x
 · exact ⟨x-c-y,0,by omega,by omega,by omega,by omega,by omega⟩
 · exact ⟨x+4294967296-c-y,1,by omega,by omega,by omega,by omega,by omega⟩
theorem sub64' {x c:Nat} (hx:x<W) (hc:c≤1):∃r b:Nat,r<W∧b≤1∧x+W*b=r+c+0 ∧
 IntKind.u32.wrap (IntKind.u64.wrap (IntKind.u64.wrap (x:Int)-(c:Int)))=(r:Int) ∧
 (IntKind.u64.wrap (IntKind.u64.wrap (x:Int)-(c:Int))).fdiv (2 ^ (min (63:Int).toNat IntKind.u64.bits))=(b:Int):=by
 unfold W at *
 rw [fd63]
 simp only [wu64e,wu32e]
 by_cases h:c≤x
 · exact ⟨x-c,0,by omega,by omega,by omega,by omega,by omega⟩
 · exact ⟨x+4294967296-c,1,by omega,by omega,by omega,by omega,by omega⟩
theorem sub32 {x c y:Nat} (hx:x<W) (hc:c≤1) (hy:y<W):∃r b:Nat,r<W∧b≤1∧x+W*b=r+c+y ∧
 IntKind.u32.wrap (IntKind.u64.wrap (IntKind.u64.wrap (IntKind.u64.wrap (IntKind.u64.wrap (x:Int)+4294967296)-(y:Int))-(c:Int)))=(r:Int) ∧
 IntKind.u64.wrap (1-(IntKind.u64.wrap (IntKind.u64.wrap (IntKind.u64.wrap (IntKind.u64.wrap (x:Int)+4294967296)-(y:Int))-(c:Int))).fdiv (2 ^ (min (32:Int).toNat IntKind.u64.bits)))=(b:Int):=by
 unfold W at *
 rw [fd32]
 simp only [wu64e,wu32e]
 by_cases h:c+y≤x
 · exact ⟨x-c-y,0,by omega,by omega,by omega,by omega,by omega⟩
 · exact ⟨x+4294967296-c-y,1,by omega,by omega,by omega,by omega,by omega⟩
def Fresh (h:Hp) (z:Sl):Prop:=∀a,z.a=some a→h a.block=none
theorem Fresh.of {h h':Hp} {w z:Sl} {cs:List Value} (ho:Own h h' 1 w cs) (hs:InM z w):Fresh h z:=fun a ha=>by
 obtain ⟨a',h1,h2⟩:=hs a ha
 have h4:=ho.2.2.2
 rw [h1] at h4
 rw [h2]; exact h4.2.2.1
theorem Hp.none_of_le {h h':Hp} {b:Nat} (hl:h.le h') (hb:h' b=none):h b=none:=by
 cases hk:h b with
 | none=>rfl
 | some B=>rw [hl _ _ hk] at hb; cases hb
theorem Fresh.le {h h':Hp} {z:Sl} (hf:Fresh h' z) (hl:h.le h'):Fresh h z:=fun a ha=>Hp.none_of_le hl (hf a ha)
theorem Fresh.ne {h:Hp} {z:Sl} {b:Nat} (hf:Fresh h z) (hb:h b≠none):∀a,z.a=some a→a.block≠b:=fun a ha hh=>hb (by rw [←hh]; exact hf a ha)
theorem zd7 {l:List Nat} (hl:okW l) (i:Nat):l.getD i 0<W:=by
 rw [List.getD_eq_getElem?_getD]
 rcases Nat.lt_or_ge i l.length with h | h
 · rw [List.getElem?_eq_getElem h]; exact zc1 hl h
 · rw [List.getElem?_eq_none h]; exact W_pos
theorem zgv {l:List Nat} {i:Nat} (hi:i<l.length):l.getD i 0=l[i]:=by
 rw [List.getD_eq_getElem?_getD,List.getElem?_eq_getElem hi]; rfl
theorem zfu {l:List Nat} {i:Nat} (hi:l.length≤i):l.getD i 0=0:=by
 rw [List.getD_eq_getElem?_getD,List.getElem?_eq_none hi]; rfl
theorem zij (l:List Nat) (i:Nat):vl (l.take (i+1))=vl (l.take i)+W ^ i*l.getD i 0:=by
 rcases Nat.lt_or_ge i l.length with h | h
 · rw [zbm h,zgv h]
 · rw [zfu h,List.take_of_length_le (by omega),List.take_of_length_le h]; simp
theorem zf5 {r:List Nat} {k v:Nat} (hk:k<r.length):vl ((r.set k v).take (k+1))=vl (r.take k)+W ^ k*v:=by
 rw [zbm (by simpa using hk),List.getElem_set_self]
 congr 2
 apply List.ext_getElem
 · simp
 · intro i h1 h2
   simp only [List.length_take] at h1 h2
   simp only [List.getElem_take]
   rw [List.getElem_set_ne (by omega)]
section
variable {h : Hp} {x y : Sl} {l m : List Nat} {Ks : Sl → Hp → Prop} {Ki : Int → Hp → Prop} {Kb : Bool → Hp → Prop} {KI : TInt → Hp → Prop}
theorem zac2 (hx:RdW h x l) (hy:RdW h y m) (ol:okW l) (om:okW m) (hl:l.length≤17592186044400) (hm:m.length≤17592186044400)
 (H:∀z h' r,h.le h'→RdW h' z r→okW r→vl r=vl l+vl m→r.length≤l.length+m.length+1→Ks z h'):F.zi3 x y Ks h:=by
 unfold F.zi3
 have lx:=hx.len
 have ly:=hy.len
 refine za3 (fun st h'=>h'=h∧∃p q,RdW h st.1 p∧RdW h st.2.1 q∧okW p∧okW q∧q.length≤p.length∧p.length+q.length=l.length+m.length∧vl p+vl q=vl l+vl m) ?_ ?_
 · rintro ⟨sx,sy,_⟩ h0 ⟨rfl,p,q,hp,hq,op,oq,hqp,hlen,hv⟩
   simp only at hp hq ⊢
   have lp:=hp.len
   have lq:=hq.len
   refine zf9 0 (p.length+1) rfl (by rw [lp,w64 (by omega)]; omega) (by omega) (by omega) fun w h1 hw hw2=>?_
   refine zal (fun st h'=>∃(w:Sl) (c i:Nat) (r:List Nat),st=(w,(c:Int),(i:Int),())∧i≤p.length∧c≤1∧OwnW h0 h' w r∧okW r∧r.length=i∧vl r+W ^ i*c=vl (p.take i)+vl (q.take i))
    (fun st=>((p.length:Int)-st.2.2.1).toNat) ⟨w,0,0,[],rfl,Nat.zero_le _,by omega,hw2,zadm,rfl,by simp [vl]⟩ ?_
   rintro st h2 ⟨w,c,i,r,rfl,hi,hc,ho,okr,hrl,hv2⟩
   refine za0 (fun h3=>?_) (fun h3=>?_)
   · have hi':i<p.length:=by have:(i:Int)<(sx.len:Int):=h3; omega
     have hpx:=zc1 op hi'
     have hqx:=zd7 oq i
     refine zan i (hp.le ho.1) rfl hi' fun a ha=>⟨_,ha,?_⟩
     refine za3 (fun s h4=>h4=h2∧s=(((c+p[i]+q.getD i 0:Nat):Int),())) ?_ ?_
     · rintro _ h4 ⟨rfl,rfl⟩
       simp only
       refine zwh _ ho (u32n _) (by omega) fun w5 h5 ho5=>⟨by decide,?_⟩
       rw [shr32]
       refine ⟨⟨w5,_,i+1,_,by rw [w64 (by omega)]; rfl,by omega,?_,ho5,zvc okr (fun d hd=>?_),by simp [hrl],?_⟩,by rw [w64 (by omega)]; omega⟩
       · unfold W at *; omega
       · rw [List.mem_singleton.1 hd]; exact Nat.mod_lt _ W_pos
       · rw [zm0,zbm hi',zij,hrl]
         have e2:=Nat.mod_add_div (c+p[i]+q.getD i 0) W
         simp only [vl,Nat.mul_zero,Nat.add_zero,Nat.pow_succ]
         generalize (c+p[i]+q.getD i 0) % W=rr at *
         generalize (c+p[i]+q.getD i 0)/W=qq at *
         generalize W ^ i=P at *
         generalize p[i]=pp at *
         generalize q.getD i 0=q0 at *
         generalize vl (p.take i)=A at *
         generalize vl (q.take i)=B at *
         generalize vl r=R at *
         clear H
         grind
     · refine za0 (fun h4=>?_) (fun h4=>?_)
       · have hi2:i<q.length:=by have:(i:Int)<(sy.len:Int):=h4; omega
         refine zan i (hq.le ho.1) rfl hi2 fun a2 ha2=>⟨_,ha2,?_⟩
         refine ⟨rfl,?_⟩
         rw [zgv hi2] at hqx ⊢
         simp only
         unfold W at *
         congr 1
         simp only [wu64e]; omega
       · have hi2:q.length≤i:=by have:¬(i:Int)<(sy.len:Int):=h4; omega
         refine ⟨rfl,?_⟩
         rw [zfu hi2]
         simp only
         unfold W at *
         congr 1
         simp only [wu64e]; omega
   · have hi':i=p.length:=by have:¬(i:Int)<(sx.len:Int):=h3; omega
     rw [List.take_of_length_le (by omega),List.take_of_length_le (by omega)] at hv2
     refine za0 (fun h4=>?_) (fun h4=>?_)
     · have hc1:c=1:=by have:(c:Int)>0:=h4; omega
       subst hc1
       refine zwh 1 ho (by simp only; decide) (by omega) fun w5 h5 ho5=>?_
       refine H _ _ _ ho5.1 ho5.rdW (zvc okr (fun d hd=>by rw [List.mem_singleton.1 hd]; decide)) ?_ (by simp; omega)
       rw [zm0,hrl]
       simp only [vl,Nat.mul_zero,Nat.add_zero]
       omega
     · have hc0:c=0:=by have:¬(c:Int)>0:=h4; omega
       subst hc0
       exact H _ _ _ ho.1 ho.rdW okr (by omega) (by omega)
 · refine za0 (fun h1=>?_) (fun h1=>?_)
   · exact ⟨rfl,m,l,hy,hx,om,ol,by omega,by omega,by omega⟩
   · exact ⟨rfl,l,m,hx,hy,ol,om,by omega,by omega,by omega⟩
theorem za7v (hx:RdW h x l) (hy:RdW h y m) (ol:okW l) (om:okW m) (hl:l.length≤17592186044400) (hm:m.length≤17592186044400)
 (H:∀z h' r,h.le h'→RdW h' z r→okW r→vl r=vl l+vl m→r.length≤l.length+m.length+1→Ks z h'):callP (F.zi3 x y) Ks h:=
 za1 (fun z h'=>∃r,RdW h' z r∧okW r∧vl r=vl l+vl m∧r.length≤l.length+m.length+1)
  (fun K' hk=>zac2 hx hy ol om hl hm fun z h' r h1 h2 h3 h4 h5=>hk _ _ h1 ⟨r,h2,h3,h4,h5⟩) fun z h' h1 ⟨r,h2,h3,h4,h5⟩=>H z h' r h1 h2 h3 h4 h5
theorem zaak (hx:RdW h x l) (hy:RdW h y m) (ol:okW l) (om:okW m) (hl:l.length≤17592186044400) (hm:m.length≤17592186044400)
 (H:∀z h',h.le h'→RdW h' z (dg (vl l+vl m))→Ks z h'):F.zka x y Ks h:=by
 unfold F.zka
 have lx:=hx.len
 have ly:=hy.len
 refine za3 (fun st h'=>h'=h∧∃p q,RdW h st.1 p∧RdW h st.2.1 q∧okW p∧okW q∧q.length≤p.length∧p.length+q.length=l.length+m.length∧vl p+vl q=vl l+vl m) ?_ ?_
 · rintro ⟨sx,sy,_⟩ h0 ⟨rfl,p,q,hp,hq,op,oq,hqp,hlen,hv⟩
   simp only at hp hq ⊢
   have lp:=hp.len
   have lq:=hq.len
   refine zf9 (p.length+1) (p.length+1) (by rw [lp,w64 (by omega)]; omega) (by rw [lp,w64 (by omega)]; omega) (by omega) (by omega) fun w h1 hw hw2=>?_
   refine zal (fun st h'=>∃(c i:Nat) (r:List Nat),st=((c:Int),(i:Int),())∧i≤p.length∧c≤1∧OwnW h0 h' w r∧okW r∧r.length=p.length+1∧vl (r.take i)+W ^ i*c=vl (p.take i)+vl (q.take i))
    (fun st=>((p.length:Int)-st.2.1).toNat) ⟨0,0,_,rfl,Nat.zero_le _,by omega,hw2,zi4 _,by simp,by simp [vl]⟩ ?_
   rintro st h2 ⟨c,i,r,rfl,hi,hc,ho,okr,hrl,hv2⟩
   refine za0 (fun h3=>?_) (fun h3=>?_)
   · have hi':i<p.length:=by have:(i:Int)<(sx.len:Int):=h3; omega
     have hpx:=zc1 op hi'
     have hqx:=zd7 oq i
     refine zan i (hp.le ho.1) rfl hi' fun a ha=>⟨_,ha,?_⟩
     refine za3 (fun s h4=>h4=h2∧s=(((c+p[i]+q.getD i 0:Nat):Int),())) ?_ ?_
     · rintro _ h4 ⟨rfl,rfl⟩
       simp only
       refine ze4 i _ ho rfl (by omega) (u32n _) fun h5 b5 _ _ _ ho5=>⟨by decide,?_⟩
       rw [shr32]
       refine ⟨⟨_,i+1,_,by rw [w64 (by omega)]; rfl,by omega,?_,ho5,zd0 okr (Nat.mod_lt _ W_pos),by simp [hrl],?_⟩,by rw [w64 (by omega)]; omega⟩
       · unfold W at *; omega
       · rw [zf5 (by omega),zbm hi',zij]
         have e2:=Nat.mod_add_div (c+p[i]+q.getD i 0) W
         simp only [Nat.pow_succ]
         generalize (c+p[i]+q.getD i 0) % W=rr at *
         generalize (c+p[i]+q.getD i 0)/W=qq at *
         generalize W ^ i=P at *
         generalize p[i]=pp at *
         generalize q.getD i 0=q0 at *
         generalize vl (p.take i)=A at *
         generalize vl (q.take i)=B at *
         generalize vl (r.take i)=R at *
         clear H
         grind
     · refine za0 (fun h4=>?_) (fun h4=>?_)
       · have hi2:i<q.length:=by have:(i:Int)<(sy.len:Int):=h4; omega
         refine zan i (hq.le ho.1) rfl hi2 fun a2 ha2=>⟨_,ha2,?_⟩
         refine ⟨rfl,?_⟩
         rw [zgv hi2] at hqx ⊢
         simp only
         unfold W at *
         congr 1
         simp only [wu64e]; omega
       · have hi2:q.length≤i:=by have:¬(i:Int)<(sy.len:Int):=h4; omega
         refine ⟨rfl,?_⟩
         rw [zfu hi2]
         simp only
         unfold W at *
         congr 1
         simp only [wu64e]; omega
   · have hi':i=p.length:=by have:¬(i:Int)<(sx.len:Int):=h3; omega
     subst hi'
     rw [List.take_of_length_le (l:=p) (by omega),List.take_of_length_le (l:=q) (by omega)] at hv2
     refine ze4 p.length c ho (by rw [lp]) (by omega) (by rw [u32n,Nat.mod_eq_of_lt (by unfold W; omega)]) fun h5 b5 _ _ _ ho5=>?_
     have okr5:okW (r.set p.length c):=zd0 okr (by unfold W; omega)
     refine zdl ho5.rdW (by simp; omega) fun z hz=>?_
     rw [zc6 okr5] at hz
     have e1:=zf5 (r:=r) (k:=p.length) (v:=c) (by omega)
     rw [List.take_of_length_le (by simp; omega)] at e1
     rw [e1,hv2,hv] at hz
     exact H _ _ ho5.1 hz
 · refine za0 (fun h1=>?_) (fun h1=>?_)
   · exact ⟨rfl,m,l,hy,hx,om,ol,by omega,by omega,by omega⟩
   · exact ⟨rfl,l,m,hx,hy,ol,om,by omega,by omega,by omega⟩
theorem za3h (hx:RdW h x l) (hy:RdW h y m) (ol:okW l) (om:okW m) (hl:l.length≤17592186044400) (hm:m.length≤17592186044400)
 (H:∀z h',h.le h'→RdW h' z (dg (vl l+vl m))→Ks z h'):callP (F.zka x y) Ks h:=
 za1 _ (fun K'=>zaak hx hy ol om hl hm) H
theorem zv7 {r:List Nat} {b:Nat} (hrl:r.length=l.length) (okr:okW r) (hml:m.length≤l.length) (hle:vl m≤vl l) (hb:b≤1)
 (hv:vl (r.take l.length)+vl (m.take l.length)=vl (l.take l.length)+W ^ l.length*b):vl r=vl l-vl m:=by
 rw [List.take_of_length_le (l:=r) (by omega),List.take_of_length_le hml,List.take_of_length_le (Nat.le_refl _)] at hv
 have h1:=vl_lt okr
 rw [hrl] at h1
 have:b=0:=by
  rcases Nat.eq_zero_or_pos b with h2 | h2
  · exact h2
  · obtain rfl:b=1:=by omega
    omega
 subst this
 omega
theorem zaa9 (hx:RdW h x l) (hy:RdW h y m) (ol:okW l) (om:okW m) (hl:l.length≤35184372088800) (hml:m.length≤l.length) (hle:vl m≤vl l)
 (H:∀z h',h.le h'→RdW h' z (dg (vl l-vl m))→Ks z h'):F.zh7 x y Ks h:=by
 unfold F.zh7
 have lx:=hx.len
 have ly:=hy.len
 refine zf9 l.length l.length (by omega) (by omega) (by omega) (by omega) fun w h1 hw hw2=>?_
 refine zal (fun st h'=>∃(c i:Nat) (r:List Nat),st=((c:Int),(i:Int),())∧i≤l.length∧c≤1∧OwnW h h' w r∧okW r∧r.length=l.length∧vl (r.take i)+vl (m.take i)=vl (l.take i)+W ^ i*c)
  (fun st=>((l.length:Int)-st.2.1).toNat) ⟨0,0,_,rfl,Nat.zero_le _,by omega,hw2,zi4 _,by simp,by simp [vl]⟩ ?_
 rintro st h2 ⟨c,i,r,rfl,hi,hc,ho,okr,hrl,hv2⟩
 refine za0 (fun h3=>?_) (fun h3=>?_)
 · have hi':i<l.length:=by have:(i:Int)<(x.len:Int):=h3; omega
   have hlx:=zc1 ol hi'
   have hmx:=zd7 om i
   refine zan i (hx.le ho.1) rfl hi' fun a ha=>⟨_,ha,?_⟩
   refine za3 (fun s h4=>h4=h2∧∃rr b:Nat,rr<W∧b≤1∧l[i]+W*b=rr+c+m.getD i 0∧IntKind.u32.wrap s.1=(rr:Int)∧s.1.fdiv (2 ^ (min (63:Int).toNat IntKind.u64.bits))=(b:Int)) ?_ ?_
   · rintro s h4 ⟨rfl,rr,b,hrr,hb,he,h5,h6⟩
     refine ze4 i rr ho rfl (by omega) h5 fun h5 b5 _ _ _ ho5=>⟨by decide,?_⟩
     rw [h6]
     refine ⟨⟨b,i+1,_,by rw [w64 (by simp only; omega)]; rfl,by omega,hb,ho5,zd0 okr hrr,by simp [hrl],?_⟩,by simp only; rw [w64 (by omega)]; omega⟩
     rw [zf5 (by omega),zbm hi',zij,Nat.pow_succ]
     generalize W ^ i=P at *
     generalize l[i]=pp at *
     generalize m.getD i 0=q0 at *
     generalize vl (l.take i)=A at *
     generalize vl (m.take i)=B at *
     generalize vl (r.take i)=R at *
     have e:=congrArg (P*·) he
     simp only [Nat.mul_add] at e
     rw [Nat.mul_assoc]
     omega
   · refine za0 (fun h4=>?_) (fun h4=>?_)
     · have hi2:i<m.length:=by have:(i:Int)<(y.len:Int):=h4; omega
       refine zan i (hy.le ho.1) rfl hi2 fun a2 ha2=>⟨_,ha2,?_⟩
       rw [zgv hi2] at hmx ⊢
       exact ⟨rfl,sub64 hlx hc hmx⟩
     · have hi2:m.length≤i:=by have:¬(i:Int)<(y.len:Int):=h4; omega
       rw [zfu hi2]
       exact ⟨rfl,sub64' hlx hc⟩
 · have hi':i=l.length:=by have:¬(i:Int)<(x.len:Int):=h3; omega
   subst hi'
   refine zg1 ho.rdW (by omega) fun z hz=>?_
   rw [zc6 okr,zv7 hrl okr hml hle hc hv2] at hz
   exact H _ _ ho.1 hz
theorem za32 (hx:RdW h x l) (hy:RdW h y m) (ol:okW l) (om:okW m) (hl:l.length≤35184372088800) (hml:m.length≤l.length) (hle:vl m≤vl l)
 (H:∀z h',h.le h'→RdW h' z (dg (vl l-vl m))→Ks z h'):callP (F.zh7 x y) Ks h:=
 za1 _ (fun K'=>zaa9 hx hy ol om hl hml hle) H
theorem za3f (hx:RdW h x l) (hy:RdW h y m) (ol:okW l) (om:okW m) (hl:l.length≤35184372088800) (hml:m.length≤l.length) (hle:vl m≤vl l)
 (H:∀z h',h.le h'→RdW h' z (dg (vl l-vl m))→Fresh h z→Ks z h'):F.ze6 x y Ks h:=by
 unfold F.ze6
 have lx:=hx.len
 have ly:=hy.len
 refine zf9 l.length l.length (by omega) (by omega) (by omega) (by omega) fun w h1 hw hw2=>?_
 refine zal (fun st h'=>∃(c i:Nat) (r:List Nat),st=((c:Int),(i:Int),())∧i≤l.length∧c≤1∧OwnW h h' w r∧okW r∧r.length=l.length∧vl (r.take i)+vl (m.take i)=vl (l.take i)+W ^ i*c)
  (fun st=>((l.length:Int)-st.2.1).toNat) ⟨0,0,_,rfl,Nat.zero_le _,by omega,hw2,zi4 _,by simp,by simp [vl]⟩ ?_
 rintro st h2 ⟨c,i,r,rfl,hi,hc,ho,okr,hrl,hv2⟩
 refine za0 (fun h3=>?_) (fun h3=>?_)
 · have hi':i<l.length:=by have:(i:Int)<(x.len:Int):=h3; omega
   have hlx:=zc1 ol hi'
   have hmx:=zd7 om i
   refine za3 (fun s h4=>h4=h2∧s=(((m.getD i 0:Nat):Int),())) ?_ ?_
   · rintro _ h4 ⟨rfl,rfl⟩
     refine zan i (hx.le ho.1) rfl hi' fun a ha=>⟨_,ha,?_⟩
     simp only
     obtain ⟨rr,b,hrr,hb,he,h5,h6⟩:=sub32 hlx hc hmx
     refine ze4 i rr ho rfl (by omega) h5 fun h5 b5 _ _ _ ho5=>⟨by decide,?_⟩
     rw [h6]
     refine ⟨⟨b,i+1,_,by rw [w64 (by omega)]; rfl,by omega,hb,ho5,zd0 okr hrr,by simp [hrl],?_⟩,by rw [w64 (by omega)]; omega⟩
     rw [zf5 (by omega),zbm hi',zij,Nat.pow_succ]
     generalize W ^ i=P at *
     generalize l[i]=pp at *
     generalize m.getD i 0=q0 at *
     generalize vl (l.take i)=A at *
     generalize vl (m.take i)=B at *
     generalize vl (r.take i)=R at *
     have e:=congrArg (P*·) he
     simp only [Nat.mul_add] at e
     rw [Nat.mul_assoc]
     omega
   · refine za0 (fun h4=>?_) (fun h4=>?_)
     · have hi2:i<m.length:=by have:(i:Int)<(y.len:Int):=h4; omega
       refine zan i (hy.le ho.1) rfl hi2 fun a2 ha2=>⟨_,ha2,?_⟩
       rw [zgv hi2] at hmx ⊢
       exact ⟨rfl,by rw [u64n (by unfold W at *; omega)]⟩
     · have hi2:m.length≤i:=by have:¬(i:Int)<(y.len:Int):=h4; omega
       rw [zfu hi2]
       exact ⟨rfl,rfl⟩
 · have hi':i=l.length:=by have:¬(i:Int)<(x.len:Int):=h3; omega
   subst hi'
   refine zod ho.rdW (by omega) fun z hz hs=>?_
   rw [zc6 okr,zv7 hrl okr hml hle hc hv2] at hz
   exact H _ _ ho.1 hz (Fresh.of ho hs)
theorem znb (hx:RdW h x l) (hy:RdW h y m) (ol:okW l) (om:okW m) (hl:l.length≤35184372088800) (hml:m.length≤l.length) (hle:vl m≤vl l)
 (H:∀z h',h.le h'→RdW h' z (dg (vl l-vl m))→Fresh h z→Ks z h'):callP (F.ze6 x y) Ks h:=
 za1 (fun z h'=>RdW h' z (dg (vl l-vl m))∧Fresh h z) (fun K' hk=>za3f hx hy ol om hl hml hle fun z h' h1 h2 h3=>hk z h' h1 ⟨h2,h3⟩) fun z h' h1 ⟨h2,h3⟩=>H z h' h1 h2 h3
theorem zrw (hx:RdW h x l) (hy:RdW h y m) (ol:okW l) (om:okW m) (hl:l.length≤35184372088800) (hml:m.length≤l.length) (hle:vl m≤vl l)
 (H:∀z h',h.le h'→RdW h' z (dg (vl l-vl m))→Ks z h'):callP (F.ze6 x y) Ks h:=
 znb hx hy ol om hl hml hle fun z h' h1 h2 _=>H z h' h1 h2
theorem zab1 (hx:RdW h x l) (hy:RdW h y m) (ol:okW l) (om:okW m) (hl:l.length+m.length≤35184372088800)
 (H:∀z h',h.le h'→RdW h' z (dg (vl l*vl m))→Ks z h'):F.zh8 x y Ks h:=by
 unfold F.zh8
 have lx:=hx.len
 have ly:=hy.len
 refine za3 (fun _ h'=>h'=h) ?_ ?_
 · rintro _ h' rfl
   refine zf9 (l.length+m.length) (l.length+m.length) (by rw [w64 (by omega)]; omega) (by rw [w64 (by omega)]; omega) (by omega) (by omega) fun w h1 hw hw2=>?_
   refine za3t (Kf:=fun w h3=>callP (F.zaf w) (fun r h7=>Ks r h7) h3) (hx) (hy) ol om hl hw2 fun h3 r ho okr hrl hv=>?_
   refine zg1 ho.rdW (by omega) fun z hz=>?_
   rw [zc6 okr,hv] at hz
   exact H _ _ ho.1 hz
 · refine za7 (fun h1=>?_) (fun h1=>za7 (fun h2=>?_) (fun h2=>rfl))
   · have:l=[]:=List.length_eq_zero_iff.1 (by omega)
     subst this
     refine H _ _ (Hp.le_refl _) ?_
     simp only [vl,Nat.zero_mul,zbz]
     exact RdW.nil
   · have:m=[]:=List.length_eq_zero_iff.1 (by omega)
     subst this
     refine H _ _ (Hp.le_refl _) ?_
     simp only [vl,Nat.mul_zero,zbz]
     exact RdW.nil
theorem za3s (hx:RdW h x l) (hy:RdW h y m) (ol:okW l) (om:okW m) (hl:l.length+m.length≤35184372088800)
 (H:∀z h',h.le h'→RdW h' z (dg (vl l*vl m))→Ks z h'):callP (F.zh8 x y) Ks h:=
 za1 _ (fun K'=>zab1 hx hy ol om hl) H
theorem rmac {c x y z:Nat} (hc:c<W) (hx:x<W) (hy:y<W) (hz:z<W) :
 IntKind.u64.wrap (IntKind.u64.wrap ((c:Int)+IntKind.u64.wrap (z:Int))+IntKind.u64.wrap (IntKind.u64.wrap (x:Int)*IntKind.u64.wrap (y:Int)))=((c+(x*y+z):Nat):Int):=by
 unfold W at *
 have hxy:x*y≤4294967295*4294967295:=Nat.mul_le_mul (by omega) (by omega)
 rw [u64n (n:=x) (by omega),u64n (n:=y) (by omega),u64n (n:=z) (by omega)]
 rw [show ((x:Int)*(y:Int))=((x*y:Nat):Int) by simp,u64n (n:=x*y) (by omega)]
 rw [show ((c:Int)+(z:Int))=((c+z:Nat):Int) by simp,u64n (n:=c+z) (by omega)]
 rw [show (((c+z:Nat):Int)+((x*y:Nat):Int))=((c+(x*y+z):Nat):Int) by omega,u64n (by omega)]
theorem za3l {a b:Sl} {la lb:List Nat} (ha:RdW h a la) (hb:RdW h b lb) (oa:okW la) (ob:okW lb) (hl:la.length+lb.length≤35184372088800)
 (H:∀z h',h.le h'→RdW h' z (dg (vl la*vl lb))→Fresh h z→Ks z h'):F.zg6 a b Ks h:=by
 unfold F.zg6
 have hal:=ha.len
 have hbl:=hb.len
 refine zf9 (la.length+lb.length) (la.length+lb.length) (by rw [w64 (by omega)]; omega) (by rw [w64 (by omega)]; omega) (by omega) (by omega) fun x h1 hw ho=>?_
 refine zal (fun st h'=>∃(i:Nat) (l:List Nat),st=((i:Int),())∧i≤la.length∧OwnW h h' x l∧okW l∧l.length=la.length+lb.length∧vl l=vl (la.take i)*vl lb∧∀j (hj:j<l.length),i+lb.length≤j→l[j]=0)
  (fun st=>((la.length:Int)-st.1).toNat) ⟨0,_,rfl,Nat.zero_le _,ho,zi4 _,by simp,by rw [zzi]; simp [vl],fun j hj _=>by simp⟩ ?_
 rintro st h1 ⟨i,l,rfl,hi,ho1,okl,hll,hv,hz⟩
 refine za0 (fun h2=>?_) (fun h2=>?_)
 · simp only at h2
   have hi':i<la.length:=by omega
   have hxi:=zc1 oa hi'
   refine zal (fun st h'=>∃(k c:Nat) (l':List Nat),st=((c:Int),(k:Int),())∧k≤lb.length∧c<W∧OwnW h h' x l'∧okW l'∧l'.length=la.length+lb.length ∧
    vl l'+W ^ (i+k)*c=vl l+W ^ i*(la[i]*vl (lb.take k))∧∀j (hj:j<l'.length),i+lb.length≤j→l'[j]=0)
    (fun st=>((lb.length:Int)-st.2.1).toNat) ⟨0,0,l,rfl,Nat.zero_le _,by decide,ho1,okl,hll,by simp [vl],hz⟩ ?_
   rintro st h3 ⟨k,c,l',rfl,hk,hc,ho3,okl',hll',hv',hz'⟩
   refine za0 (fun h4=>?_) (fun h4=>?_)
   · simp only at h4
     have hk':k<lb.length:=by omega
     have hyk:=zc1 ob hk'
     have hik:i+k<l'.length:=by omega
     have hzk:=zc1 okl' hik
     have wik:IntKind.i64.wrap ((i:Int)+(k:Int))=((i+k:Nat):Int):=by rw [w64 (by omega)]; omega
     simp only
     rw [wik]
     refine zan (i+k) ho3.rdW rfl hik fun a2 ha2=>⟨_,ha2,?_⟩
     refine zan i (ha.le ho3.1) rfl hi' fun aa haa=>⟨_,haa,?_⟩
     refine zan k (hb.le ho3.1) rfl hk' fun a1 ha1=>⟨_,ha1,?_⟩
     simp only
     rw [rmac hc hxi hyk hzk]
     refine ze4 (i+k) _ ho3 rfl hik (u32n _) fun h5 b5 _ _ _ ho5=>⟨by decide,?_⟩
     rw [shr32]
     refine ⟨⟨k+1,_,_,by rw [w64 (by omega)]; rfl,by omega,za7d hc hxi hyk hzk,ho5,zd0 okl' (Nat.mod_lt _ W_pos),by simp [hll'],?_,?_⟩,by rw [w64 (by omega)]; omega⟩
     · have e1:=zkj (l:=l') (k:=i+k) (v:=(c+(la[i]*lb[k]+l'[i+k])) % W) hik
       have e2:=Nat.mod_add_div (c+(la[i]*lb[k]+l'[i+k])) W
       have e3:=zbm hk'
       rw [e3]
       generalize vl (l'.set (i+k) ((c+(la[i]*lb[k]+l'[i+k])) % W))=V at e1 ⊢
       generalize hr:(c+(la[i]*lb[k]+l'[i+k])) % W=r at *
       generalize hq:(c+(la[i]*lb[k]+l'[i+k]))/W=q at *
       generalize vl l'=V' at *
       generalize vl l=V0 at *
       generalize l'[i+k]=z at *
       generalize la[i]=xx at *
       generalize lb[k]=yy at *
       generalize vl (lb.take k)=T at *
       have p1:W ^ (i+(k+1))=W ^ (i+k)*W:=by rw [←Nat.add_assoc,Nat.pow_succ]
       have p2:W ^ (i+k)=W ^ i*W ^ k:=Nat.pow_add ..
       rw [p1]
       generalize W ^ (i+k)=P at *
       subst p2
       generalize W ^ i=Pi at *
       generalize W ^ k=Pk at *
       clear H
       grind
     · intro j hj hjl
       rw [List.length_set] at hj
       rw [List.getElem_set_ne (by omega)]
       exact hz' j hj hjl
   · simp only at h4
     have hk':k=lb.length:=by omega
     subst hk'
     have hil:i+lb.length<l'.length:=by omega
     have w1:IntKind.i64.wrap ((i:Int)+(b.len:Int))=((i+lb.length:Nat):Int):=by rw [hbl,w64 (by omega)]; omega
     simp only
     rw [w1]
     refine ze4 (i+lb.length) c ho3 rfl hil (by rw [u32n,Nat.mod_eq_of_lt hc]) fun h5 b5 _ _ _ ho5=>?_
     refine ⟨⟨i+1,_,by rw [w64 (by omega)]; rfl,by omega,ho5,zd0 okl' hc,by simp [hll'],?_,?_⟩,by rw [w64 (by omega)]; omega⟩
     · have e1:=zkj (l:=l') (k:=i+lb.length) (v:=c) hil
       rw [hz' _ hil (Nat.le_refl _)] at e1
       rw [List.take_of_length_le (Nat.le_refl _)] at hv'
       rw [zbm hi',Nat.add_mul]
       rw [Nat.mul_assoc]
       omega
     · intro j hj hjl
       rw [List.length_set] at hj
       rw [List.getElem_set_ne (by omega)]
       exact hz' j hj (by omega)
 · simp only at h2
   have:i=la.length:=by omega
   subst this
   rw [List.take_of_length_le (Nat.le_refl _)] at hv
   refine zod ho1.rdW (by omega) fun z hz2 hs=>?_
   rw [zc6 okl,hv] at hz2
   exact H _ _ ho1.1 hz2 (Fresh.of ho1 hs)
theorem zqt (hx:RdW h x l) (hy:RdW h y m) (ol:okW l) (om:okW m) (hl:l.length+m.length≤35184372088800)
 (H:∀z h',h.le h'→RdW h' z (dg (vl l*vl m))→Fresh h z→Ks z h'):callP (F.zg6 x y) Ks h:=
 za1 (fun z h'=>RdW h' z (dg (vl l*vl m))∧Fresh h z) (fun K' hk=>za3l hx hy ol om hl fun z h' h1 h2 h3=>hk z h' h1 ⟨h2,h3⟩) fun z h' h1 ⟨h2,h3⟩=>H z h' h1 h2 h3
theorem za0y (hx:RdW h x l) (hy:RdW h y m) (ol:okW l) (om:okW m) (hl:l.length+m.length≤35184372088800)
 (H:∀z h',h.le h'→RdW h' z (dg (vl l*vl m))→Ks z h'):callP (F.zg6 x y) Ks h:=
 zqt hx hy ol om hl fun z h' h1 h2 _=>H z h' h1 h2
end
end Den
end
