/-
  Part 3 of the tools and contracts from which the statement is proved.
-/
import Derived.Test.YthifcokendanpaaGreatDoorPartu2
import Derived.Lib.Bytealg
set_option linter.all false
section
set_option maxRecDepth 10000
namespace Den
open Go
structure TSketch where
 points:Sl
 circles:Sl
 segments:Sl
 arcs:Sl
 chains:Sl
 constraints:Sl
def tyTSketch:Ty TSketch:=Ty.agg [.sl,.sl,.sl,.sl,.sl,.sl] (fun x=>(x.points,x.circles,x.segments,x.arcs,x.chains,x.constraints,())) (fun y=>⟨y.1,y.2.1,y.2.2.1,y.2.2.2.1,y.2.2.2.2.1,y.2.2.2.2.2.1⟩) (fun _=>rfl) (fun _=>rfl)
structure TPoint where
 x:TRat
 y:TRat
def tyTPoint:Ty TPoint:=Ty.agg [.bool,.sl,.bool,.sl,.bool,.sl,.bool,.sl] (fun x=>(x.x.num.neg,x.x.num.mag,x.x.den.neg,x.x.den.mag,x.y.num.neg,x.y.num.mag,x.y.den.neg,x.y.den.mag,())) (fun y=>⟨⟨⟨y.1,y.2.1⟩,⟨y.2.2.1,y.2.2.2.1⟩⟩,⟨⟨y.2.2.2.2.1,y.2.2.2.2.2.1⟩,⟨y.2.2.2.2.2.2.1,y.2.2.2.2.2.2.2.1⟩⟩⟩) (fun _=>rfl) (fun _=>rfl)
structure TRound where
 center:Int
 radius:TRat
def tyTRound:Ty TRound:=Ty.agg [.int .i64,.bool,.sl,.bool,.sl] (fun x=>(x.center,x.radius.num.neg,x.radius.num.mag,x.radius.den.neg,x.radius.den.mag,())) (fun y=>⟨y.1,⟨⟨y.2.1,y.2.2.1⟩,⟨y.2.2.2.1,y.2.2.2.2.1⟩⟩⟩) (fun _=>rfl) (fun _=>rfl)
structure TSegment where
 a:Int
 b:Int
def tyTSegment:Ty TSegment:=Ty.agg [.int .i64,.int .i64] (fun x=>(x.a,x.b,())) (fun y=>⟨y.1,y.2.1⟩) (fun _=>rfl) (fun _=>rfl)
structure TArc where
 circle:Int
 a:Int
 b:Int
 cw:Bool
def tyTArc:Ty TArc:=Ty.agg [.int .i64,.int .i64,.int .i64,.bool] (fun x=>(x.circle,x.a,x.b,x.cw,())) (fun y=>⟨y.1,y.2.1,y.2.2.1,y.2.2.2.1⟩) (fun _=>rfl) (fun _=>rfl)
structure TPiece where
 arc:Bool
 index:Int
 back:Bool
def tyTPiece:Ty TPiece:=Ty.agg [.bool,.int .i64,.bool] (fun x=>(x.arc,x.index,x.back,())) (fun y=>⟨y.1,y.2.1,y.2.2.1⟩) (fun _=>rfl) (fun _=>rfl)
structure TConstraint where
 kind:Int
 points:Sl
 circles:Sl
 values:Sl
 side:Int
def tyTConstraint:Ty TConstraint:=Ty.agg [.int .i64,.sl,.sl,.sl,.int .i64] (fun x=>(x.kind,x.points,x.circles,x.values,x.side,())) (fun y=>⟨y.1,y.2.1,y.2.2.1,y.2.2.2.1,y.2.2.2.2.1⟩) (fun _=>rfl) (fun _=>rfl)
structure Tconstraint_Shape where
 points:Int
 circles:Int
 values:Int
 equations:Int
 side:Bool
 length:Bool
 positive:Bool
def znk:Ty Tconstraint_Shape:=Ty.agg [.int .i64,.int .i64,.int .i64,.int .i64,.bool,.bool,.bool] (fun x=>(x.points,x.circles,x.values,x.equations,x.side,x.length,x.positive,())) (fun y=>⟨y.1,y.2.1,y.2.2.1,y.2.2.2.1,y.2.2.2.2.1,y.2.2.2.2.2.1,y.2.2.2.2.2.2.1⟩) (fun _=>rfl) (fun _=>rfl)
structure TExpr where
 op:Int
 value:TRat
 name:ByteArray
 args:Sl
def tyTExpr:Ty TExpr:=Ty.agg [.int .i64,.bool,.sl,.bool,.sl,.str,.sl] (fun x=>(x.op,x.value.num.neg,x.value.num.mag,x.value.den.neg,x.value.den.mag,x.name,x.args,())) (fun y=>⟨y.1,⟨⟨y.2.1,y.2.2.1⟩,⟨y.2.2.2.1,y.2.2.2.2.1⟩⟩,y.2.2.2.2.2.1,y.2.2.2.2.2.2.1⟩) (fun _=>rfl) (fun _=>rfl)
structure Tsetsquareref25_Row where
 name:ByteArray
 points:Int
 circles:Int
 count:Int
 values:Int
 equations:Int
 side:Bool
def zmh:Ty Tsetsquareref25_Row:=Ty.agg [.str,.int .i64,.int .i64,.int .i64,.int .i64,.int .i64,.bool] (fun x=>(x.name,x.points,x.circles,x.count,x.values,x.equations,x.side,())) (fun y=>⟨y.1,y.2.1,y.2.2.1,y.2.2.2.1,y.2.2.2.2.1,y.2.2.2.2.2.1,y.2.2.2.2.2.2.1⟩) (fun _=>rfl) (fun _=>rfl)
structure TPlan where
 steps:Sl
 checks:Sl
def tyTPlan:Ty TPlan:=Ty.agg [.sl,.sl] (fun x=>(x.steps,x.checks,())) (fun y=>⟨y.1,y.2.1⟩) (fun _=>rfl) (fun _=>rfl)
structure TStep where
 kind:Int
 target:Int
 uses:Sl
 branch:Int
def tyTStep:Ty TStep:=Ty.agg [.int .i64,.int .i64,.sl,.int .i64] (fun x=>(x.kind,x.target,x.uses,x.branch,())) (fun y=>⟨y.1,y.2.1,y.2.2.1,y.2.2.2.1⟩) (fun _=>rfl) (fun _=>rfl)
structure TGraph where
 n:Int
 edges:Sl
namespace F
def zhx (c:Sl) (K:Bool→Hp→Prop) (h:Hp):Prop:=
 (K (decide ((c.len:Int)>200)) h)
def zbm (s:Sl) (K:Int→Hp→Prop) (h:Hp):Prop:=
 (loopP (S:=Int×Unit) (fun s1 k2 h1=>
 (ifP (decide (s1.1<(s.len:Int)))
 (idxP s s1.1 1 fun a3=>
 (ldL (.sl) a3 (fun x4=>
 (callP (zhx x4) (fun r5 h2=>
 (ifP r5
 (K s1.1 h2)
 (k2 ((IntKind.i64.wrap (s1.1+1)),()) h2))) h1)) h1))
 (K (-1) h1)))
 (0,()) h)
def zbg (s:Sl) (K:Bool→Hp→Prop) (h:Hp):Prop:=
 (callP (zbm s) (fun r1 h1=>
 (K (decide (r1≥0)) h1)) h)
def zhc (s:TSketch) (K:Bool→Hp→Prop) (h:Hp):Prop:=
 (newP [.int .i64 (s.points.len:Int),.int .i64 (s.circles.len:Int),.int .i64 (s.segments.len:Int),.int .i64 (s.arcs.len:Int),.int .i64 (s.chains.len:Int),.int .i64 (s.constraints.len:Int)] (fun p1 h1=>
 (loopP (S:=Int×Unit) (fun s2 k3 h2=>
 (ifP (decide (s2.1<((⟨some p1,6,6⟩:Sl).len:Int)))
 (idxP (⟨some p1,6,6⟩:Sl) s2.1 1 fun a4=>
 (ldL (.int .i64) a4 (fun x5=>
 (ifP (decide (x5>200))
 (K true h2)
 (k3 ((IntKind.i64.wrap (s2.1+1)),()) h2))) h2))
 (callP (zbg s.chains) (fun r6 h3=>
 (K r6 h3)) h2)))
 (0,()) h1)) h)
def zj4 (p:TPoint) (K:Bool→Hp→Prop) (h:Hp):Prop:=
 (callP (zcv p.x) (fun r1 h1=>
 (ifP r1
 (callP (zcv p.y) (fun r2 h2=>
 (K r2 h2)) h1)
 (K false h1))) h)
def zcj (x:TPoint) (v0:(Option Addr)) (K:Bool→Hp→Prop) (h:Hp):Prop:=
 (ptrK v0 fun p1=>
 (ldL (.val) p1 (fun x2=>
 (x2=.func (.func 115) #[] #[] ∧
 (callP (zj4 x) (fun r3 h1=>
 (K (!r3) h1)) h))) h))
def zas (s:Sl) (f1:(Option Addr×Unit)) (K:Int→Hp→Prop) (h:Hp):Prop:=
 (loopP (S:=Int×Unit) (fun s1 k2 h1=>
 (ifP (decide (s1.1<(s.len:Int)))
 (idxP s s1.1 8 fun a3=>
 (ldL (.bool) (a3.add 0) (fun x4_0=>
 (ldL (.sl) (a3.add 1) (fun x4_1=>
 (ldL (.bool) (a3.add 2) (fun x4_2=>
 (ldL (.sl) (a3.add 3) (fun x4_3=>
 (ldL (.bool) (a3.add 4) (fun x4_4=>
 (ldL (.sl) (a3.add 5) (fun x4_5=>
 (ldL (.bool) (a3.add 6) (fun x4_6=>
 (ldL (.sl) (a3.add 7) (fun x4_7=>
 (callP (zcj (⟨(⟨(⟨x4_0,x4_1⟩:TInt),(⟨x4_2,x4_3⟩:TInt)⟩:TRat),(⟨(⟨x4_4,x4_5⟩:TInt),(⟨x4_6,x4_7⟩:TInt)⟩:TRat)⟩:TPoint) f1.1) (fun r5 h2=>
 (ifP r5
 (K s1.1 h2)
 (k2 ((IntKind.i64.wrap (s1.1+1)),()) h2))) h1)) h1)) h1)) h1)) h1)) h1)) h1)) h1)) h1))
 (K (-1) h1)))
 (0,()) h)
def zan (s:Sl) (f1:(Option Addr×Unit)) (K:Bool→Hp→Prop) (h:Hp):Prop:=
 (callP (zas s (f1.1,())) (fun r1 h1=>
 (K (decide (r1≥0)) h1)) h)
def zc7 (l:Sl) (K:Bool→Hp→Prop) (h:Hp):Prop:=
 (newP [.func (.func 115) #[] #[]] (fun p1 h1=>
 (callP (zan l ((some p1),())) (fun r2 h2=>
 (K (!r2) h2)) h1)) h)
def zdn (n:Int) (i:Int) (K:Bool→Hp→Prop) (h:Hp):Prop:=
 (ifP (decide (i≥0))
 (K (decide (i<n)) h)
 (K false h))
def zj5 (c:TRound) (v0:(Option Addr)) (K:Bool→Hp→Prop) (h:Hp):Prop:=
 (ptrK v0 fun p1=>
 (ldL (.int .i64) p1 (fun x2=>
 (callP (zdn x2 c.center) (fun r3 h1=>
 (ifP r3
 (callP (zcv c.radius) (fun r4 h2=>
 (ifP r4
 (callP (zem c.radius) (fun r5 h3=>
 (K (decide (r5>0)) h3)) h2)
 (K false h2))) h1)
 (K false h1))) h)) h))
def zck (x:TRound) (v0:(Option Addr)) (K:Bool→Hp→Prop) (h:Hp):Prop:=
 (ptrK v0 fun p1=>
 (ldL (.val) p1 (fun x2=>
 ∃c3:Option Addr,(x2=.func (.func 118) #[] #[.pointer c3] ∧
 (callP (zj5 x c3) (fun r4 h1=>
 (K (!r4) h1)) h))) h))
def zat (s:Sl) (f1:(Option Addr×Unit)) (K:Int→Hp→Prop) (h:Hp):Prop:=
 (loopP (S:=Int×Unit) (fun s1 k2 h1=>
 (ifP (decide (s1.1<(s.len:Int)))
 (idxP s s1.1 5 fun a3=>
 (ldL (.int .i64) (a3.add 0) (fun x4_0=>
 (ldL (.bool) (a3.add 1) (fun x4_1=>
 (ldL (.sl) (a3.add 2) (fun x4_2=>
 (ldL (.bool) (a3.add 3) (fun x4_3=>
 (ldL (.sl) (a3.add 4) (fun x4_4=>
 (callP (zck (⟨x4_0,(⟨(⟨x4_1,x4_2⟩:TInt),(⟨x4_3,x4_4⟩:TInt)⟩:TRat)⟩:TRound) f1.1) (fun r5 h2=>
 (ifP r5
 (K s1.1 h2)
 (k2 ((IntKind.i64.wrap (s1.1+1)),()) h2))) h1)) h1)) h1)) h1)) h1)) h1))
 (K (-1) h1)))
 (0,()) h)
def zao (s:Sl) (f1:(Option Addr×Unit)) (K:Bool→Hp→Prop) (h:Hp):Prop:=
 (callP (zat s (f1.1,())) (fun r1 h1=>
 (K (decide (r1≥0)) h1)) h)
def zc8 (l:Sl) (f1:(Option Addr×Unit)) (K:Bool→Hp→Prop) (h:Hp):Prop:=
 (newP [.func (.func 118) #[] #[.pointer f1.1]] (fun p1 h1=>
 (callP (zao l ((some p1),())) (fun r2 h2=>
 (K (!r2) h2)) h1)) h)
def zj6 (g:TSegment) (v0:(Option Addr)) (K:Bool→Hp→Prop) (h:Hp):Prop:=
 (ptrK v0 fun p1=>
 (ldL (.int .i64) p1 (fun x2=>
 (callP (zdn x2 g.a) (fun r3 h1=>
 (ifP r3
 (ptrK v0 fun p4=>
 (ldL (.int .i64) p4 (fun x5=>
 (callP (zdn x5 g.b) (fun r6 h2=>
 (ifP r6
 (K (g.a != g.b) h2)
 (K false h2))) h1)) h1))
 (K false h1))) h)) h))
def zce (x:TSegment) (v0:(Option Addr)) (K:Bool→Hp→Prop) (h:Hp):Prop:=
 (ptrK v0 fun p1=>
 (ldL (.val) p1 (fun x2=>
 ∃c3:Option Addr,(x2=.func (.func 122) #[] #[.pointer c3] ∧
 (callP (zj6 x c3) (fun r4 h1=>
 (K (!r4) h1)) h))) h))
def zak (s:Sl) (f1:(Option Addr×Unit)) (K:Int→Hp→Prop) (h:Hp):Prop:=
 (loopP (S:=Int×Unit) (fun s1 k2 h1=>
 (ifP (decide (s1.1<(s.len:Int)))
 (idxP s s1.1 2 fun a3=>
 (ldL (.int .i64) (a3.add 0) (fun x4_0=>
 (ldL (.int .i64) (a3.add 1) (fun x4_1=>
 (callP (zce (⟨x4_0,x4_1⟩:TSegment) f1.1) (fun r5 h2=>
 (ifP r5
 (K s1.1 h2)
 (k2 ((IntKind.i64.wrap (s1.1+1)),()) h2))) h1)) h1)) h1))
 (K (-1) h1)))
 (0,()) h)
def zaj (s:Sl) (f1:(Option Addr×Unit)) (K:Bool→Hp→Prop) (h:Hp):Prop:=
 (callP (zak s (f1.1,())) (fun r1 h1=>
 (K (decide (r1≥0)) h1)) h)
def zbw (l:Sl) (f1:(Option Addr×Unit)) (K:Bool→Hp→Prop) (h:Hp):Prop:=
 (newP [.func (.func 122) #[] #[.pointer f1.1]] (fun p1 h1=>
 (callP (zaj l ((some p1),())) (fun r2 h2=>
 (K (!r2) h2)) h1)) h)
def zgj (s:TSketch) (a:TArc) (K:Bool→Hp→Prop) (h:Hp):Prop:=
 (joinP (S:=Unit) (fun s1 h1=>
 (idxP s.circles a.circle 5 fun a3=>
 (ldL (.int .i64) (a3.add 0) (fun x4=>
 (ifP (a.a != x4)
 (K (a.b != x4) h1)
 (K false h1))) h1)))
 (fun k2=>
 (callP (zdn (s.circles.len:Int) a.circle) (fun r5 h2=>
 (ifP (!r5)
 (K false h2)
 (callP (zdn (s.points.len:Int) a.a) (fun r6 h3=>
 (ifP (!r6)
 (K false h3)
 (callP (zdn (s.points.len:Int) a.b) (fun r7 h4=>
 (ifP (!r7)
 (K false h4)
 (k2 () h4))) h3))) h2))) h)))
def zj7 (a:TArc) (v0:(Option Addr)) (K:Bool→Hp→Prop) (h:Hp):Prop:=
 (ptrK v0 fun p1=>
 (ldL (.sl) (p1.add 0) (fun x2_0=>
 (ldL (.sl) (p1.add 1) (fun x2_1=>
 (ldL (.sl) (p1.add 2) (fun x2_2=>
 (ldL (.sl) (p1.add 3) (fun x2_3=>
 (ldL (.sl) (p1.add 4) (fun x2_4=>
 (ldL (.sl) (p1.add 5) (fun x2_5=>
 (callP (zgj (⟨x2_0,x2_1,x2_2,x2_3,x2_4,x2_5⟩:TSketch) a) (fun r3 h1=>
 (K r3 h1)) h)) h)) h)) h)) h)) h)) h))
def zcp (x:TArc) (v0:(Option Addr)) (K:Bool→Hp→Prop) (h:Hp):Prop:=
 (ptrK v0 fun p1=>
 (ldL (.val) p1 (fun x2=>
 ∃c3:Option Addr,(x2=.func (.func 124) #[] #[.pointer c3] ∧
 (callP (zj7 x c3) (fun r4 h1=>
 (K (!r4) h1)) h))) h))
def zay (s:Sl) (f1:(Option Addr×Unit)) (K:Int→Hp→Prop) (h:Hp):Prop:=
 (loopP (S:=Int×Unit) (fun s1 k2 h1=>
 (ifP (decide (s1.1<(s.len:Int)))
 (idxP s s1.1 4 fun a3=>
 (ldL (.int .i64) (a3.add 0) (fun x4_0=>
 (ldL (.int .i64) (a3.add 1) (fun x4_1=>
 (ldL (.int .i64) (a3.add 2) (fun x4_2=>
 (ldL (.bool) (a3.add 3) (fun x4_3=>
 (callP (zcp (⟨x4_0,x4_1,x4_2,x4_3⟩:TArc) f1.1) (fun r5 h2=>
 (ifP r5
 (K s1.1 h2)
 (k2 ((IntKind.i64.wrap (s1.1+1)),()) h2))) h1)) h1)) h1)) h1)) h1))
 (K (-1) h1)))
 (0,()) h)
def zaw (s:Sl) (f1:(Option Addr×Unit)) (K:Bool→Hp→Prop) (h:Hp):Prop:=
 (callP (zay s (f1.1,())) (fun r1 h1=>
 (K (decide (r1≥0)) h1)) h)
def zcb (l:Sl) (f1:(Option Addr×Unit)) (K:Bool→Hp→Prop) (h:Hp):Prop:=
 (newP [.func (.func 124) #[] #[.pointer f1.1]] (fun p1 h1=>
 (callP (zaw l ((some p1),())) (fun r2 h2=>
 (K (!r2) h2)) h1)) h)
def zhl (s:TSketch) (p:TPiece) (K:(Int×Int)→Hp→Prop) (h:Hp):Prop:=
 (joinP (S:=Int×Int×Unit) (fun s1 h1=>
 (ifP p.back
 (K (s1.2.1,s1.1) h1)
 (K (s1.1,s1.2.1) h1)))
 (fun k2=>
 (ifP p.arc
 (idxP s.arcs p.index 4 fun a3=>
 (ldL (.int .i64) (a3.add 1) (fun x4=>
 (idxP s.arcs p.index 4 fun a5=>
 (ldL (.int .i64) (a5.add 2) (fun x6=>
 (k2 (x4,x6,()) h)) h))) h))
 (idxP s.segments p.index 2 fun a7=>
 (ldL (.int .i64) (a7.add 0) (fun x8=>
 (idxP s.segments p.index 2 fun a9=>
 (ldL (.int .i64) (a9.add 1) (fun x10=>
 (k2 (x8,x10,()) h)) h))) h)))))
def zf3 (s:TSketch) (c:Sl) (K:Bool→Hp→Prop) (h:Hp):Prop:=
 (loopP (S:=Int×Int×Unit) (fun s1 k2 h1=>
 (ifP (decide (s1.2.1<(c.len:Int)))
 (joinP (S:=Int×Unit) (fun s3 h2=>
 (k2 (s3.1,(IntKind.i64.wrap (s1.2.1+1)),()) h2))
 (fun k4=>
 (idxP c s1.2.1 3 fun a5=>
 (ldL (.bool) (a5.add 0) (fun x6_0=>
 (ldL (.int .i64) (a5.add 1) (fun x6_1=>
 (ldL (.bool) (a5.add 2) (fun x6_2=>
 (joinP (S:=Int×Unit) (fun s7 h3=>
 (callP (zdn s7.1 x6_1) (fun r9 h4=>
 (ifP (!r9)
 (K false h4)
 (callP (zhl s (⟨x6_0,x6_1,x6_2⟩:TPiece)) (fun r10 h5=>
 (ifP (decide (s1.2.1>0))
 (ifP (r10.1 != s1.1)
 (K false h5)
 (k4 (r10.2,()) h5))
 (k4 (r10.2,()) h5))) h4))) h3))
 (fun k8=>
 (ifP x6_0
 (k8 ((s.arcs.len:Int),()) h1)
 (k8 ((s.segments.len:Int),()) h1))))) h1)) h1)) h1))))
 (K (decide ((c.len:Int)>0)) h1)))
 ((-1),0,()) h)
def zj8 (c:Sl) (v0:(Option Addr)) (K:Bool→Hp→Prop) (h:Hp):Prop:=
 (ptrK v0 fun p1=>
 (ldL (.sl) (p1.add 0) (fun x2_0=>
 (ldL (.sl) (p1.add 1) (fun x2_1=>
 (ldL (.sl) (p1.add 2) (fun x2_2=>
 (ldL (.sl) (p1.add 3) (fun x2_3=>
 (ldL (.sl) (p1.add 4) (fun x2_4=>
 (ldL (.sl) (p1.add 5) (fun x2_5=>
 (callP (zf3 (⟨x2_0,x2_1,x2_2,x2_3,x2_4,x2_5⟩:TSketch) c) (fun r3 h1=>
 (K r3 h1)) h)) h)) h)) h)) h)) h)) h))
def zci (x:Sl) (v0:(Option Addr)) (K:Bool→Hp→Prop) (h:Hp):Prop:=
 (ptrK v0 fun p1=>
 (ldL (.val) p1 (fun x2=>
 ∃c3:Option Addr,(x2=.func (.func 127) #[] #[.pointer c3] ∧
 (callP (zj8 x c3) (fun r4 h1=>
 (K (!r4) h1)) h))) h))
def zar (s:Sl) (f1:(Option Addr×Unit)) (K:Int→Hp→Prop) (h:Hp):Prop:=
 (loopP (S:=Int×Unit) (fun s1 k2 h1=>
 (ifP (decide (s1.1<(s.len:Int)))
 (idxP s s1.1 1 fun a3=>
 (ldL (.sl) a3 (fun x4=>
 (callP (zci x4 f1.1) (fun r5 h2=>
 (ifP r5
 (K s1.1 h2)
 (k2 ((IntKind.i64.wrap (s1.1+1)),()) h2))) h1)) h1))
 (K (-1) h1)))
 (0,()) h)
def zam (s:Sl) (f1:(Option Addr×Unit)) (K:Bool→Hp→Prop) (h:Hp):Prop:=
 (callP (zar s (f1.1,())) (fun r1 h1=>
 (K (decide (r1≥0)) h1)) h)
def zc6 (l:Sl) (f1:(Option Addr×Unit)) (K:Bool→Hp→Prop) (h:Hp):Prop:=
 (newP [.func (.func 127) #[] #[.pointer f1.1]] (fun p1 h1=>
 (callP (zam l ((some p1),())) (fun r2 h2=>
 (K (!r2) h2)) h1)) h)
def zds (kind:Int) (K:(Tconstraint_Shape×Bool)→Hp→Prop) (h:Hp):Prop:=
 (joinP (S:=(Int×Int×Int×Int×Bool×Bool×Bool×Unit)×Unit) (fun s1 h1=>
 (idxC kind 18
 (ldL (.int .i64) ((((⟨1,0,none⟩:Addr).add ((kind:Int).toNat*8)).add 1).add 0) (fun x3_0=>
 (ldL (.int .i64) ((((⟨1,0,none⟩:Addr).add ((kind:Int).toNat*8)).add 1).add 1) (fun x3_1=>
 (ldL (.int .i64) ((((⟨1,0,none⟩:Addr).add ((kind:Int).toNat*8)).add 1).add 2) (fun x3_2=>
 (ldL (.int .i64) ((((⟨1,0,none⟩:Addr).add ((kind:Int).toNat*8)).add 1).add 3) (fun x3_3=>
 (ldL (.bool) ((((⟨1,0,none⟩:Addr).add ((kind:Int).toNat*8)).add 1).add 4) (fun x3_4=>
 (ldL (.bool) ((((⟨1,0,none⟩:Addr).add ((kind:Int).toNat*8)).add 1).add 5) (fun x3_5=>
 (ldL (.bool) ((((⟨1,0,none⟩:Addr).add ((kind:Int).toNat*8)).add 1).add 6) (fun x3_6=>
 (K ((⟨x3_0,x3_1,x3_2,x3_3,x3_4,x3_5,x3_6⟩:Tconstraint_Shape),true) h1)) h1)) h1)) h1)) h1)) h1)) h1)) h1)))
 (fun k2=>
 (ifP (decide (kind<1))
 (K ((⟨0,0,0,0,false,false,false⟩:Tconstraint_Shape),false) h)
 (ifP (decide (kind>17))
 (K ((⟨0,0,0,0,false,false,false⟩:Tconstraint_Shape),false) h)
 (k2 ((0,0,0,0,false,false,false,()),()) h)))))
def zf1 (i:Int) (K:ByteArray→Hp→Prop) (h:Hp):Prop:=
 (ifP (decide (i<10))
 (strCut ⟨#[48,49,50,51,52,53,54,55,56,57,97,98,99,100,101,102,103,104,105,106,107,108,109,110,111,112,113,114,115,116,117,118,119,120,121,122]⟩ i (IntKind.i64.wrap (i+1)) fun c1=>
 (K c1 h))
 (strCut ⟨#[48,48,48,49,48,50,48,51,48,52,48,53,48,54,48,55,48,56,48,57,49,48,49,49,49,50,49,51,49,52,49,53,49,54,49,55,49,56,49,57,50,48,50,49,50,50,50,51,50,52,50,53,50,54,50,55,50,56,50,57,51,48,51,49,51,50,51,51,51,52,51,53,51,54,51,55,51,56,51,57,52,48,52,49,52,50,52,51,52,52,52,53,52,54,52,55,52,56,52,57,53,48,53,49,53,50,53,51,53,52,53,53,53,54,53,55,53,56,53,57,54,48,54,49,54,50,54,51,54,52,54,53,54,54,54,55,54,56,54,57,55,48,55,49,55,50,55,51,55,52,55,53,55,54,55,55,55,56,55,57,56,48,56,49,56,50,56,51,56,52,56,53,56,54,56,55,56,56,56,57,57,48,57,49,57,50,57,51,57,52,57,53,57,54,57,55,57,56,57,57]⟩ (IntKind.i64.wrap (i*2)) (IntKind.i64.wrap ((IntKind.i64.wrap (i*2))+2)) fun c2=>
 (K c2 h)))
def zgf (x:Int) (K:Int→Hp→Prop) (h:Hp):Prop:=
 (joinP (S:=Int×Int×Unit) (fun s1 h1=>
 (joinP (S:=Int×Int×Unit) (fun s3 h2=>
 (joinP (S:=Int×Int×Unit) (fun s5 h3=>
 (strIdx ⟨#[0,1,2,2,3,3,3,3,4,4,4,4,4,4,4,4,5,5,5,5,5,5,5,5,5,5,5,5,5,5,5,5,6,6,6,6,6,6,6,6,6,6,6,6,6,6,6,6,6,6,6,6,6,6,6,6,6,6,6,6,6,6,6,6,7,7,7,7,7,7,7,7,7,7,7,7,7,7,7,7,7,7,7,7,7,7,7,7,7,7,7,7,7,7,7,7,7,7,7,7,7,7,7,7,7,7,7,7,7,7,7,7,7,7,7,7,7,7,7,7,7,7,7,7,7,7,7,7,8,8,8,8,8,8,8,8,8,8,8,8,8,8,8,8,8,8,8,8,8,8,8,8,8,8,8,8,8,8,8,8,8,8,8,8,8,8,8,8,8,8,8,8,8,8,8,8,8,8,8,8,8,8,8,8,8,8,8,8,8,8,8,8,8,8,8,8,8,8,8,8,8,8,8,8,8,8,8,8,8,8,8,8,8,8,8,8,8,8,8,8,8,8,8,8,8,8,8,8,8,8,8,8,8,8,8,8,8,8,8,8,8,8,8,8,8,8,8,8,8,8,8,8,8,8,8,8]⟩ (IntKind.u8.wrap (s5.1)) fun c7=>
 (K (IntKind.i64.wrap (s5.2.1+(IntKind.i64.wrap (c7)))) h3)))
 (fun k6=>
 (ifP (decide (s3.1≥256))
 (0≤(8:Int) ∧
 (k6 ((s3.1:Int).fdiv (2 ^ (min (8:Int).toNat IntKind.u64.bits)),(IntKind.i64.wrap (s3.2.1+8)),()) h2))
 (k6 (s3.1,s3.2.1,()) h2)))))
 (fun k4=>
 (ifP (decide (s1.1≥65536))
 (0≤(16:Int) ∧
 (k4 ((s1.1:Int).fdiv (2 ^ (min (16:Int).toNat IntKind.u64.bits)),(IntKind.i64.wrap (s1.2.1+16)),()) h1))
 (k4 (s1.1,s1.2.1,()) h1)))))
 (fun k2=>
 (ifP (decide (x≥4294967296))
 (0≤(32:Int) ∧
 (k2 ((x:Int).fdiv (2 ^ (min (32:Int).toNat IntKind.u64.bits)),32,()) h))
 (k2 (x,0,()) h))))
def ze3 (x:Int) (K:Int→Hp→Prop) (h:Hp):Prop:=
 (0≤(18:Int) ∧
 (K (((IntKind.i64.wrap (x*78913)):Int).fdiv (2 ^ (min (18:Int).toNat IntKind.i64.bits))) h))
def ze2 (b:Bool) (K:Int→Hp→Prop) (h:Hp):Prop:=
 (ifP b
 (K 1 h)
 (K 0 h))
def zct (d:Int) (K:Int→Hp→Prop) (h:Hp):Prop:=
 (callP (zgf d) (fun r1 h1=>
 (callP (ze3 r1) (fun r2 h2=>
 (idxC r2 20
 (ldL (.int .u64) ((⟨3,0,none⟩:Addr).add ((r2:Int).toNat*1)) (fun x3=>
 (callP (ze2 (decide (d≥x3))) (fun r4 h3=>
 (K (IntKind.i64.wrap (r2+r4)) h3)) h2)) h2))) h1)) h)
def zcm (a:Sl) (u:Int) (K:Unit→Hp→Prop) (h:Hp):Prop:=
 (loopP (S:=Int×Int×Unit) (fun s1 k2 h1=>
 (ifP (decide (s1.2.1≥8))
 ((100000000:Int)≠0 ∧
 ((100000000:Int)≠0 ∧
 ((10000:Int)≠0 ∧
 ((10000:Int)≠0 ∧
 ((100:Int)≠0 ∧
 ((100:Int)≠0 ∧
 ((100:Int)≠0 ∧
 ((100:Int)≠0 ∧
 (strIdx ⟨#[48,48,48,49,48,50,48,51,48,52,48,53,48,54,48,55,48,56,48,57,49,48,49,49,49,50,49,51,49,52,49,53,49,54,49,55,49,56,49,57,50,48,50,49,50,50,50,51,50,52,50,53,50,54,50,55,50,56,50,57,51,48,51,49,51,50,51,51,51,52,51,53,51,54,51,55,51,56,51,57,52,48,52,49,52,50,52,51,52,52,52,53,52,54,52,55,52,56,52,57,53,48,53,49,53,50,53,51,53,52,53,53,53,54,53,55,53,56,53,57,54,48,54,49,54,50,54,51,54,52,54,53,54,54,54,55,54,56,54,57,55,48,55,49,55,50,55,51,55,52,55,53,55,54,55,55,55,56,55,57,56,48,56,49,56,50,56,51,56,52,56,53,56,54,56,55,56,56,56,57,57,48,57,49,57,50,57,51,57,52,57,53,57,54,57,55,57,56,57,57]⟩ (IntKind.u32.wrap ((IntKind.u32.wrap ((((((IntKind.u32.wrap ((s1.1:Int).tmod 100000000)):Int).tmod 10000):Int).tmod 100)*2))+1)) fun c3=>
 (strIdx ⟨#[48,48,48,49,48,50,48,51,48,52,48,53,48,54,48,55,48,56,48,57,49,48,49,49,49,50,49,51,49,52,49,53,49,54,49,55,49,56,49,57,50,48,50,49,50,50,50,51,50,52,50,53,50,54,50,55,50,56,50,57,51,48,51,49,51,50,51,51,51,52,51,53,51,54,51,55,51,56,51,57,52,48,52,49,52,50,52,51,52,52,52,53,52,54,52,55,52,56,52,57,53,48,53,49,53,50,53,51,53,52,53,53,53,54,53,55,53,56,53,57,54,48,54,49,54,50,54,51,54,52,54,53,54,54,54,55,54,56,54,57,55,48,55,49,55,50,55,51,55,52,55,53,55,54,55,55,55,56,55,57,56,48,56,49,56,50,56,51,56,52,56,53,56,54,56,55,56,56,56,57,57,48,57,49,57,50,57,51,57,52,57,53,57,54,57,55,57,56,57,57]⟩ (IntKind.u32.wrap ((((((IntKind.u32.wrap ((s1.1:Int).tmod 100000000)):Int).tmod 10000):Int).tmod 100)*2)) fun c4=>
 (idxP a (IntKind.i64.wrap (s1.2.1-1)) 1 fun a5=>
 (stP a5 [.int .u8 c3] (fun h2=>
 (idxP a (IntKind.i64.wrap (s1.2.1-2)) 1 fun a6=>
 (stP a6 [.int .u8 c4] (fun h3=>
 (strIdx ⟨#[48,48,48,49,48,50,48,51,48,52,48,53,48,54,48,55,48,56,48,57,49,48,49,49,49,50,49,51,49,52,49,53,49,54,49,55,49,56,49,57,50,48,50,49,50,50,50,51,50,52,50,53,50,54,50,55,50,56,50,57,51,48,51,49,51,50,51,51,51,52,51,53,51,54,51,55,51,56,51,57,52,48,52,49,52,50,52,51,52,52,52,53,52,54,52,55,52,56,52,57,53,48,53,49,53,50,53,51,53,52,53,53,53,54,53,55,53,56,53,57,54,48,54,49,54,50,54,51,54,52,54,53,54,54,54,55,54,56,54,57,55,48,55,49,55,50,55,51,55,52,55,53,55,54,55,55,55,56,55,57,56,48,56,49,56,50,56,51,56,52,56,53,56,54,56,55,56,56,56,57,57,48,57,49,57,50,57,51,57,52,57,53,57,54,57,55,57,56,57,57]⟩ (IntKind.u32.wrap ((IntKind.u32.wrap ((IntKind.u32.wrap (((((IntKind.u32.wrap ((s1.1:Int).tmod 100000000)):Int).tmod 10000):Int).tdiv 100))*2))+1)) fun c7=>
 (strIdx ⟨#[48,48,48,49,48,50,48,51,48,52,48,53,48,54,48,55,48,56,48,57,49,48,49,49,49,50,49,51,49,52,49,53,49,54,49,55,49,56,49,57,50,48,50,49,50,50,50,51,50,52,50,53,50,54,50,55,50,56,50,57,51,48,51,49,51,50,51,51,51,52,51,53,51,54,51,55,51,56,51,57,52,48,52,49,52,50,52,51,52,52,52,53,52,54,52,55,52,56,52,57,53,48,53,49,53,50,53,51,53,52,53,53,53,54,53,55,53,56,53,57,54,48,54,49,54,50,54,51,54,52,54,53,54,54,54,55,54,56,54,57,55,48,55,49,55,50,55,51,55,52,55,53,55,54,55,55,55,56,55,57,56,48,56,49,56,50,56,51,56,52,56,53,56,54,56,55,56,56,56,57,57,48,57,49,57,50,57,51,57,52,57,53,57,54,57,55,57,56,57,57]⟩ (IntKind.u32.wrap ((IntKind.u32.wrap (((((IntKind.u32.wrap ((s1.1:Int).tmod 100000000)):Int).tmod 10000):Int).tdiv 100))*2)) fun c8=>
 (idxP a (IntKind.i64.wrap (s1.2.1-3)) 1 fun a9=>
 (stP a9 [.int .u8 c7] (fun h4=>
 (idxP a (IntKind.i64.wrap (s1.2.1-4)) 1 fun a10=>
 (stP a10 [.int .u8 c8] (fun h5=>
 (strIdx ⟨#[48,48,48,49,48,50,48,51,48,52,48,53,48,54,48,55,48,56,48,57,49,48,49,49,49,50,49,51,49,52,49,53,49,54,49,55,49,56,49,57,50,48,50,49,50,50,50,51,50,52,50,53,50,54,50,55,50,56,50,57,51,48,51,49,51,50,51,51,51,52,51,53,51,54,51,55,51,56,51,57,52,48,52,49,52,50,52,51,52,52,52,53,52,54,52,55,52,56,52,57,53,48,53,49,53,50,53,51,53,52,53,53,53,54,53,55,53,56,53,57,54,48,54,49,54,50,54,51,54,52,54,53,54,54,54,55,54,56,54,57,55,48,55,49,55,50,55,51,55,52,55,53,55,54,55,55,55,56,55,57,56,48,56,49,56,50,56,51,56,52,56,53,56,54,56,55,56,56,56,57,57,48,57,49,57,50,57,51,57,52,57,53,57,54,57,55,57,56,57,57]⟩ (IntKind.u32.wrap ((IntKind.u32.wrap ((((IntKind.u32.wrap (((IntKind.u32.wrap ((s1.1:Int).tmod 100000000)):Int).tdiv 10000)):Int).tmod 100)*2))+1)) fun c11=>
 (strIdx ⟨#[48,48,48,49,48,50,48,51,48,52,48,53,48,54,48,55,48,56,48,57,49,48,49,49,49,50,49,51,49,52,49,53,49,54,49,55,49,56,49,57,50,48,50,49,50,50,50,51,50,52,50,53,50,54,50,55,50,56,50,57,51,48,51,49,51,50,51,51,51,52,51,53,51,54,51,55,51,56,51,57,52,48,52,49,52,50,52,51,52,52,52,53,52,54,52,55,52,56,52,57,53,48,53,49,53,50,53,51,53,52,53,53,53,54,53,55,53,56,53,57,54,48,54,49,54,50,54,51,54,52,54,53,54,54,54,55,54,56,54,57,55,48,55,49,55,50,55,51,55,52,55,53,55,54,55,55,55,56,55,57,56,48,56,49,56,50,56,51,56,52,56,53,56,54,56,55,56,56,56,57,57,48,57,49,57,50,57,51,57,52,57,53,57,54,57,55,57,56,57,57]⟩ (IntKind.u32.wrap ((((IntKind.u32.wrap (((IntKind.u32.wrap ((s1.1:Int).tmod 100000000)):Int).tdiv 10000)):Int).tmod 100)*2)) fun c12=>
 (idxP a (IntKind.i64.wrap (s1.2.1-5)) 1 fun a13=>
 (stP a13 [.int .u8 c11] (fun h6=>
 (idxP a (IntKind.i64.wrap (s1.2.1-6)) 1 fun a14=>
 (stP a14 [.int .u8 c12] (fun h7=>
 (strIdx ⟨#[48,48,48,49,48,50,48,51,48,52,48,53,48,54,48,55,48,56,48,57,49,48,49,49,49,50,49,51,49,52,49,53,49,54,49,55,49,56,49,57,50,48,50,49,50,50,50,51,50,52,50,53,50,54,50,55,50,56,50,57,51,48,51,49,51,50,51,51,51,52,51,53,51,54,51,55,51,56,51,57,52,48,52,49,52,50,52,51,52,52,52,53,52,54,52,55,52,56,52,57,53,48,53,49,53,50,53,51,53,52,53,53,53,54,53,55,53,56,53,57,54,48,54,49,54,50,54,51,54,52,54,53,54,54,54,55,54,56,54,57,55,48,55,49,55,50,55,51,55,52,55,53,55,54,55,55,55,56,55,57,56,48,56,49,56,50,56,51,56,52,56,53,56,54,56,55,56,56,56,57,57,48,57,49,57,50,57,51,57,52,57,53,57,54,57,55,57,56,57,57]⟩ (IntKind.u32.wrap ((IntKind.u32.wrap ((IntKind.u32.wrap (((IntKind.u32.wrap (((IntKind.u32.wrap ((s1.1:Int).tmod 100000000)):Int).tdiv 10000)):Int).tdiv 100))*2))+1)) fun c15=>
 (strIdx ⟨#[48,48,48,49,48,50,48,51,48,52,48,53,48,54,48,55,48,56,48,57,49,48,49,49,49,50,49,51,49,52,49,53,49,54,49,55,49,56,49,57,50,48,50,49,50,50,50,51,50,52,50,53,50,54,50,55,50,56,50,57,51,48,51,49,51,50,51,51,51,52,51,53,51,54,51,55,51,56,51,57,52,48,52,49,52,50,52,51,52,52,52,53,52,54,52,55,52,56,52,57,53,48,53,49,53,50,53,51,53,52,53,53,53,54,53,55,53,56,53,57,54,48,54,49,54,50,54,51,54,52,54,53,54,54,54,55,54,56,54,57,55,48,55,49,55,50,55,51,55,52,55,53,55,54,55,55,55,56,55,57,56,48,56,49,56,50,56,51,56,52,56,53,56,54,56,55,56,56,56,57,57,48,57,49,57,50,57,51,57,52,57,53,57,54,57,55,57,56,57,57]⟩ (IntKind.u32.wrap ((IntKind.u32.wrap (((IntKind.u32.wrap (((IntKind.u32.wrap ((s1.1:Int).tmod 100000000)):Int).tdiv 10000)):Int).tdiv 100))*2)) fun c16=>
 (idxP a (IntKind.i64.wrap (s1.2.1-7)) 1 fun a17=>
 (stP a17 [.int .u8 c15] (fun h8=>
 (idxP a (IntKind.i64.wrap (s1.2.1-8)) 1 fun a18=>
 (stP a18 [.int .u8 c16] (fun h9=>
 (k2 ((IntKind.u64.wrap ((s1.1:Int).tdiv 100000000)),(IntKind.i64.wrap (s1.2.1-8)),()) h9)) h8))) h7))))) h6))) h5))))) h4))) h3))))) h2))) h1))))))))))))
 (joinP (S:=Int×Int×Unit) (fun s19 h10=>
 (joinP (S:=Int×Int×Unit) (fun s21 h11=>
 (ifP (decide (s21.1>0))
 (idxP a 0 1 fun a23=>
 (stP a23 [.int .u8 (IntKind.u8.wrap ((IntKind.u32.wrap (48+s21.2.1))))] (fun h12=>
 (K () h12)) h11))
 (K () h11)))
 (fun k22=>
 (ifP (decide (s19.1≥2))
 ((100:Int)≠0 ∧
 ((100:Int)≠0 ∧
 (strIdx ⟨#[48,48,48,49,48,50,48,51,48,52,48,53,48,54,48,55,48,56,48,57,49,48,49,49,49,50,49,51,49,52,49,53,49,54,49,55,49,56,49,57,50,48,50,49,50,50,50,51,50,52,50,53,50,54,50,55,50,56,50,57,51,48,51,49,51,50,51,51,51,52,51,53,51,54,51,55,51,56,51,57,52,48,52,49,52,50,52,51,52,52,52,53,52,54,52,55,52,56,52,57,53,48,53,49,53,50,53,51,53,52,53,53,53,54,53,55,53,56,53,57,54,48,54,49,54,50,54,51,54,52,54,53,54,54,54,55,54,56,54,57,55,48,55,49,55,50,55,51,55,52,55,53,55,54,55,55,55,56,55,57,56,48,56,49,56,50,56,51,56,52,56,53,56,54,56,55,56,56,56,57,57,48,57,49,57,50,57,51,57,52,57,53,57,54,57,55,57,56,57,57]⟩ (IntKind.u32.wrap ((IntKind.u32.wrap (((s19.2.1:Int).tmod 100)*2))+1)) fun c24=>
 (strIdx ⟨#[48,48,48,49,48,50,48,51,48,52,48,53,48,54,48,55,48,56,48,57,49,48,49,49,49,50,49,51,49,52,49,53,49,54,49,55,49,56,49,57,50,48,50,49,50,50,50,51,50,52,50,53,50,54,50,55,50,56,50,57,51,48,51,49,51,50,51,51,51,52,51,53,51,54,51,55,51,56,51,57,52,48,52,49,52,50,52,51,52,52,52,53,52,54,52,55,52,56,52,57,53,48,53,49,53,50,53,51,53,52,53,53,53,54,53,55,53,56,53,57,54,48,54,49,54,50,54,51,54,52,54,53,54,54,54,55,54,56,54,57,55,48,55,49,55,50,55,51,55,52,55,53,55,54,55,55,55,56,55,57,56,48,56,49,56,50,56,51,56,52,56,53,56,54,56,55,56,56,56,57,57,48,57,49,57,50,57,51,57,52,57,53,57,54,57,55,57,56,57,57]⟩ (IntKind.u32.wrap (((s19.2.1:Int).tmod 100)*2)) fun c25=>
 (idxP a (IntKind.i64.wrap (s19.1-1)) 1 fun a26=>
 (stP a26 [.int .u8 c24] (fun h13=>
 (idxP a (IntKind.i64.wrap (s19.1-2)) 1 fun a27=>
 (stP a27 [.int .u8 c25] (fun h14=>
 (k22 ((IntKind.i64.wrap (s19.1-2)),(IntKind.u32.wrap ((s19.2.1:Int).tdiv 100)),()) h14)) h13))) h10))))))
 (k22 (s19.1,s19.2.1,()) h10)))))
 (fun k20=>
 (ifP (decide (s1.2.1≥4))
 ((10000:Int)≠0 ∧
 ((10000:Int)≠0 ∧
 ((100:Int)≠0 ∧
 ((100:Int)≠0 ∧
 (strIdx ⟨#[48,48,48,49,48,50,48,51,48,52,48,53,48,54,48,55,48,56,48,57,49,48,49,49,49,50,49,51,49,52,49,53,49,54,49,55,49,56,49,57,50,48,50,49,50,50,50,51,50,52,50,53,50,54,50,55,50,56,50,57,51,48,51,49,51,50,51,51,51,52,51,53,51,54,51,55,51,56,51,57,52,48,52,49,52,50,52,51,52,52,52,53,52,54,52,55,52,56,52,57,53,48,53,49,53,50,53,51,53,52,53,53,53,54,53,55,53,56,53,57,54,48,54,49,54,50,54,51,54,52,54,53,54,54,54,55,54,56,54,57,55,48,55,49,55,50,55,51,55,52,55,53,55,54,55,55,55,56,55,57,56,48,56,49,56,50,56,51,56,52,56,53,56,54,56,55,56,56,56,57,57,48,57,49,57,50,57,51,57,52,57,53,57,54,57,55,57,56,57,57]⟩ (IntKind.u32.wrap ((IntKind.u32.wrap ((((((IntKind.u32.wrap (s1.1)):Int).tmod 10000):Int).tmod 100)*2))+1)) fun c28=>
 (strIdx ⟨#[48,48,48,49,48,50,48,51,48,52,48,53,48,54,48,55,48,56,48,57,49,48,49,49,49,50,49,51,49,52,49,53,49,54,49,55,49,56,49,57,50,48,50,49,50,50,50,51,50,52,50,53,50,54,50,55,50,56,50,57,51,48,51,49,51,50,51,51,51,52,51,53,51,54,51,55,51,56,51,57,52,48,52,49,52,50,52,51,52,52,52,53,52,54,52,55,52,56,52,57,53,48,53,49,53,50,53,51,53,52,53,53,53,54,53,55,53,56,53,57,54,48,54,49,54,50,54,51,54,52,54,53,54,54,54,55,54,56,54,57,55,48,55,49,55,50,55,51,55,52,55,53,55,54,55,55,55,56,55,57,56,48,56,49,56,50,56,51,56,52,56,53,56,54,56,55,56,56,56,57,57,48,57,49,57,50,57,51,57,52,57,53,57,54,57,55,57,56,57,57]⟩ (IntKind.u32.wrap ((((((IntKind.u32.wrap (s1.1)):Int).tmod 10000):Int).tmod 100)*2)) fun c29=>
 (idxP a (IntKind.i64.wrap (s1.2.1-1)) 1 fun a30=>
 (stP a30 [.int .u8 c28] (fun h15=>
 (idxP a (IntKind.i64.wrap (s1.2.1-2)) 1 fun a31=>
 (stP a31 [.int .u8 c29] (fun h16=>
 (strIdx ⟨#[48,48,48,49,48,50,48,51,48,52,48,53,48,54,48,55,48,56,48,57,49,48,49,49,49,50,49,51,49,52,49,53,49,54,49,55,49,56,49,57,50,48,50,49,50,50,50,51,50,52,50,53,50,54,50,55,50,56,50,57,51,48,51,49,51,50,51,51,51,52,51,53,51,54,51,55,51,56,51,57,52,48,52,49,52,50,52,51,52,52,52,53,52,54,52,55,52,56,52,57,53,48,53,49,53,50,53,51,53,52,53,53,53,54,53,55,53,56,53,57,54,48,54,49,54,50,54,51,54,52,54,53,54,54,54,55,54,56,54,57,55,48,55,49,55,50,55,51,55,52,55,53,55,54,55,55,55,56,55,57,56,48,56,49,56,50,56,51,56,52,56,53,56,54,56,55,56,56,56,57,57,48,57,49,57,50,57,51,57,52,57,53,57,54,57,55,57,56,57,57]⟩ (IntKind.u32.wrap ((IntKind.u32.wrap ((IntKind.u32.wrap (((((IntKind.u32.wrap (s1.1)):Int).tmod 10000):Int).tdiv 100))*2))+1)) fun c32=>
 (strIdx ⟨#[48,48,48,49,48,50,48,51,48,52,48,53,48,54,48,55,48,56,48,57,49,48,49,49,49,50,49,51,49,52,49,53,49,54,49,55,49,56,49,57,50,48,50,49,50,50,50,51,50,52,50,53,50,54,50,55,50,56,50,57,51,48,51,49,51,50,51,51,51,52,51,53,51,54,51,55,51,56,51,57,52,48,52,49,52,50,52,51,52,52,52,53,52,54,52,55,52,56,52,57,53,48,53,49,53,50,53,51,53,52,53,53,53,54,53,55,53,56,53,57,54,48,54,49,54,50,54,51,54,52,54,53,54,54,54,55,54,56,54,57,55,48,55,49,55,50,55,51,55,52,55,53,55,54,55,55,55,56,55,57,56,48,56,49,56,50,56,51,56,52,56,53,56,54,56,55,56,56,56,57,57,48,57,49,57,50,57,51,57,52,57,53,57,54,57,55,57,56,57,57]⟩ (IntKind.u32.wrap ((IntKind.u32.wrap (((((IntKind.u32.wrap (s1.1)):Int).tmod 10000):Int).tdiv 100))*2)) fun c33=>
 (idxP a (IntKind.i64.wrap (s1.2.1-3)) 1 fun a34=>
 (stP a34 [.int .u8 c32] (fun h17=>
 (idxP a (IntKind.i64.wrap (s1.2.1-4)) 1 fun a35=>
 (stP a35 [.int .u8 c33] (fun h18=>
 (k20 ((IntKind.i64.wrap (s1.2.1-4)),(IntKind.u32.wrap (((IntKind.u32.wrap (s1.1)):Int).tdiv 10000)),()) h18)) h17))) h16))))) h15))) h1))))))))
 (k20 (s1.2.1,(IntKind.u32.wrap (s1.1)),()) h1))))))
 (u,(a.len:Int),()) h)
def zdv (i:Int) (base:Int) (K:ByteArray→Hp→Prop) (h:Hp):Prop:=
 (ifP (base==10)
 (ifP (decide (i<100))
 (callP (zf1 (IntKind.i64.wrap (i))) (fun r1 h1=>
 (K r1 h1)) h)
 (newP [.int .u8 0,.int .u8 0,.int .u8 0,.int .u8 0,.int .u8 0,.int .u8 0,.int .u8 0,.int .u8 0,.int .u8 0,.int .u8 0,.int .u8 0,.int .u8 0,.int .u8 0,.int .u8 0,.int .u8 0,.int .u8 0,.int .u8 0,.int .u8 0,.int .u8 0,.int .u8 0,.int .u8 0,.int .u8 0,.int .u8 0,.int .u8 0] (fun p2 h2=>
 (callP (zct i) (fun r3 h3=>
 (slP (⟨some p2,24,24⟩:Sl) 0 r3 1 fun c4=>
 (callM (zcm c4 i) (fun r5 h4=>
 (slP (⟨some p2,24,24⟩:Sl) 0 r3 1 fun c6=>
 (toStr c6 (fun t7=>
 (K t7 h4)) h4))) h3))) h2)) h))
 False)
def zdx (i:Int) (base:Int) (K:ByteArray→Hp→Prop) (h:Hp):Prop:=
 (callP (zdv i base) (fun r1 h1=>
 (K r1 h1)) h)
def zic (x:Int) (y:Int) (K:(Int×Int)→Hp→Prop) (h:Hp):Prop:=
 (0≤(32:Int) ∧
 (0≤(32:Int) ∧
 (0≤(32:Int) ∧
 (0≤(32:Int) ∧
 (0≤(32:Int) ∧
 (K ((IntKind.u64.wrap ((IntKind.u64.wrap ((IntKind.u64.wrap (((x:Int).fdiv (2 ^ (min (32:Int).toNat IntKind.u64.bits)))*((y:Int).fdiv (2 ^ (min (32:Int).toNat IntKind.u64.bits)))))+(((IntKind.u64.wrap ((IntKind.u64.wrap (((x:Int).fdiv (2 ^ (min (32:Int).toNat IntKind.u64.bits)))*(ibits .and .u64 y 4294967295)))+(((IntKind.u64.wrap ((ibits .and .u64 x 4294967295)*(ibits .and .u64 y 4294967295))):Int).fdiv (2 ^ (min (32:Int).toNat IntKind.u64.bits))))):Int).fdiv (2 ^ (min (32:Int).toNat IntKind.u64.bits)))))+(((IntKind.u64.wrap ((ibits .and .u64 (IntKind.u64.wrap ((IntKind.u64.wrap (((x:Int).fdiv (2 ^ (min (32:Int).toNat IntKind.u64.bits)))*(ibits .and .u64 y 4294967295)))+(((IntKind.u64.wrap ((ibits .and .u64 x 4294967295)*(ibits .and .u64 y 4294967295))):Int).fdiv (2 ^ (min (32:Int).toNat IntKind.u64.bits))))) 4294967295)+(IntKind.u64.wrap ((ibits .and .u64 x 4294967295)*((y:Int).fdiv (2 ^ (min (32:Int).toNat IntKind.u64.bits))))))):Int).fdiv (2 ^ (min (32:Int).toNat IntKind.u64.bits))))),(IntKind.u64.wrap (x*y))) h))))))
def zhr (x:Int) (y:Int) (K:(Int×Int)→Hp→Prop) (h:Hp):Prop:=
 (callP (zic x y) (fun r1 h1=>
 (K (r1.1,r1.2) h1)) h)
def zcz (s:ByteArray) (prefix_:ByteArray) (K:Bool→Hp→Prop) (h:Hp):Prop:=
 (ifP (decide (((s:ByteArray).size:Int)≥((prefix_:ByteArray).size:Int)))
 (strCut s 0 ((prefix_:ByteArray).size:Int) fun c1=>
 (K ((c1:ByteArray).toList==(prefix_:ByteArray).toList) h))
 (K false h))
def za6 (s:ByteArray) (prefix_:ByteArray) (K:Bool→Hp→Prop) (h:Hp):Prop:=
 (callP (zcz s prefix_) (fun r1 h1=>
 (K r1 h1)) h)
def zeb (s:ByteArray) (count:Int) (K:ByteArray→Hp→Prop) (h:Hp):Prop:=
 (ifP (count==0)
 (K emptyS h)
 (ifP (count==1)
 (K s h)
 (joinP (S:=Unit) (fun s1 h1=>
 (callP (zhr (IntKind.u64.wrap (((s:ByteArray).size:Int))) (IntKind.u64.wrap (count))) (fun r3 h2=>
 (joinP (S:=Unit) (fun s4 h3=>
 (ifP (((s:ByteArray).size:Int)==0)
 (K emptyS h3)
 (joinP (S:=Unit) (fun s6 h4=>
 (joinP (S:=Int×Unit) (fun s8 h5=>
 (newT 239 [.pointer none,.slice nilS.a nilS.len nilS.cap] (fun p10 h6=>
 False) h5))
 (fun k9=>
 (ifP (decide ((IntKind.i64.wrap (r3.2))>8192))
 ((((s:ByteArray).size:Int):Int)≠0 ∧
 (ifP ((IntKind.i64.wrap ((IntKind.i64.wrap ((8192:Int).tdiv ((s:ByteArray).size:Int)))*((s:ByteArray).size:Int)))==0)
 (k9 (((s:ByteArray).size:Int),()) h4)
 (k9 ((IntKind.i64.wrap ((IntKind.i64.wrap ((8192:Int).tdiv ((s:ByteArray).size:Int)))*((s:ByteArray).size:Int))),()) h4)))
 (k9 ((IntKind.i64.wrap (r3.2)),()) h4)))))
 (fun k7=>
 (strIdx s 0 fun c11=>
 (joinP (S:=Bool×Unit) (fun s12 h7=>
 (ifP s12.1
 (ifP (decide ((IntKind.i64.wrap (r3.2))≤128))
 (callP (za6 ⟨#[32,32,32,32,32,32,32,32,32,32,32,32,32,32,32,32,32,32,32,32,32,32,32,32,32,32,32,32,32,32,32,32,32,32,32,32,32,32,32,32,32,32,32,32,32,32,32,32,32,32,32,32,32,32,32,32,32,32,32,32,32,32,32,32,32,32,32,32,32,32,32,32,32,32,32,32,32,32,32,32,32,32,32,32,32,32,32,32,32,32,32,32,32,32,32,32,32,32,32,32,32,32,32,32,32,32,32,32,32,32,32,32,32,32,32,32,32,32,32,32,32,32,32,32,32,32,32,32]⟩ s) (fun r14 h8=>
 (ifP r14
 (strCut ⟨#[32,32,32,32,32,32,32,32,32,32,32,32,32,32,32,32,32,32,32,32,32,32,32,32,32,32,32,32,32,32,32,32,32,32,32,32,32,32,32,32,32,32,32,32,32,32,32,32,32,32,32,32,32,32,32,32,32,32,32,32,32,32,32,32,32,32,32,32,32,32,32,32,32,32,32,32,32,32,32,32,32,32,32,32,32,32,32,32,32,32,32,32,32,32,32,32,32,32,32,32,32,32,32,32,32,32,32,32,32,32,32,32,32,32,32,32,32,32,32,32,32,32,32,32,32,32,32,32]⟩ 0 (IntKind.i64.wrap (r3.2)) fun c15=>
 (K c15 h8))
 (ifP (decide ((IntKind.i64.wrap (r3.2))≤128))
 (callP (za6 ⟨#[45,45,45,45,45,45,45,45,45,45,45,45,45,45,45,45,45,45,45,45,45,45,45,45,45,45,45,45,45,45,45,45,45,45,45,45,45,45,45,45,45,45,45,45,45,45,45,45,45,45,45,45,45,45,45,45,45,45,45,45,45,45,45,45,45,45,45,45,45,45,45,45,45,45,45,45,45,45,45,45,45,45,45,45,45,45,45,45,45,45,45,45,45,45,45,45,45,45,45,45,45,45,45,45,45,45,45,45,45,45,45,45,45,45,45,45,45,45,45,45,45,45,45,45,45,45,45,45]⟩ s) (fun r16 h9=>
 (ifP r16
 (strCut ⟨#[45,45,45,45,45,45,45,45,45,45,45,45,45,45,45,45,45,45,45,45,45,45,45,45,45,45,45,45,45,45,45,45,45,45,45,45,45,45,45,45,45,45,45,45,45,45,45,45,45,45,45,45,45,45,45,45,45,45,45,45,45,45,45,45,45,45,45,45,45,45,45,45,45,45,45,45,45,45,45,45,45,45,45,45,45,45,45,45,45,45,45,45,45,45,45,45,45,45,45,45,45,45,45,45,45,45,45,45,45,45,45,45,45,45,45,45,45,45,45,45,45,45,45,45,45,45,45,45]⟩ 0 (IntKind.i64.wrap (r3.2)) fun c17=>
 (K c17 h9))
 (ifP (decide ((IntKind.i64.wrap (r3.2))≤64))
 (callP (za6 ⟨#[48,48,48,48,48,48,48,48,48,48,48,48,48,48,48,48,48,48,48,48,48,48,48,48,48,48,48,48,48,48,48,48,48,48,48,48,48,48,48,48,48,48,48,48,48,48,48,48,48,48,48,48,48,48,48,48,48,48,48,48,48,48,48,48]⟩ s) (fun r18 h10=>
 (ifP r18
 (strCut ⟨#[48,48,48,48,48,48,48,48,48,48,48,48,48,48,48,48,48,48,48,48,48,48,48,48,48,48,48,48,48,48,48,48,48,48,48,48,48,48,48,48,48,48,48,48,48,48,48,48,48,48,48,48,48,48,48,48,48,48,48,48,48,48,48,48]⟩ 0 (IntKind.i64.wrap (r3.2)) fun c19=>
 (K c19 h10))
 (ifP (decide ((IntKind.i64.wrap (r3.2))≤128))
 (callP (za6 ⟨#[61,61,61,61,61,61,61,61,61,61,61,61,61,61,61,61,61,61,61,61,61,61,61,61,61,61,61,61,61,61,61,61,61,61,61,61,61,61,61,61,61,61,61,61,61,61,61,61,61,61,61,61,61,61,61,61,61,61,61,61,61,61,61,61,61,61,61,61,61,61,61,61,61,61,61,61,61,61,61,61,61,61,61,61,61,61,61,61,61,61,61,61,61,61,61,61,61,61,61,61,61,61,61,61,61,61,61,61,61,61,61,61,61,61,61,61,61,61,61,61,61,61,61,61,61,61,61,61]⟩ s) (fun r20 h11=>
 (ifP r20
 (strCut ⟨#[61,61,61,61,61,61,61,61,61,61,61,61,61,61,61,61,61,61,61,61,61,61,61,61,61,61,61,61,61,61,61,61,61,61,61,61,61,61,61,61,61,61,61,61,61,61,61,61,61,61,61,61,61,61,61,61,61,61,61,61,61,61,61,61,61,61,61,61,61,61,61,61,61,61,61,61,61,61,61,61,61,61,61,61,61,61,61,61,61,61,61,61,61,61,61,61,61,61,61,61,61,61,61,61,61,61,61,61,61,61,61,61,61,61,61,61,61,61,61,61,61,61,61,61,61,61,61,61]⟩ 0 (IntKind.i64.wrap (r3.2)) fun c21=>
 (K c21 h11))
 (ifP (decide ((IntKind.i64.wrap (r3.2))≤64))
 (callP (za6 ⟨#[9,9,9,9,9,9,9,9,9,9,9,9,9,9,9,9,9,9,9,9,9,9,9,9,9,9,9,9,9,9,9,9,9,9,9,9,9,9,9,9,9,9,9,9,9,9,9,9,9,9,9,9,9,9,9,9,9,9,9,9,9,9,9,9]⟩ s) (fun r22 h12=>
 (ifP r22
 (strCut ⟨#[9,9,9,9,9,9,9,9,9,9,9,9,9,9,9,9,9,9,9,9,9,9,9,9,9,9,9,9,9,9,9,9,9,9,9,9,9,9,9,9,9,9,9,9,9,9,9,9,9,9,9,9,9,9,9,9,9,9,9,9,9,9,9,9]⟩ 0 (IntKind.i64.wrap (r3.2)) fun c23=>
 (K c23 h12))
 (k7 () h12))) h11)
 (k7 () h11)))) h10)
 (ifP (decide ((IntKind.i64.wrap (r3.2))≤64))
 (callP (za6 ⟨#[9,9,9,9,9,9,9,9,9,9,9,9,9,9,9,9,9,9,9,9,9,9,9,9,9,9,9,9,9,9,9,9,9,9,9,9,9,9,9,9,9,9,9,9,9,9,9,9,9,9,9,9,9,9,9,9,9,9,9,9,9,9,9,9]⟩ s) (fun r24 h13=>
 (ifP r24
 (strCut ⟨#[9,9,9,9,9,9,9,9,9,9,9,9,9,9,9,9,9,9,9,9,9,9,9,9,9,9,9,9,9,9,9,9,9,9,9,9,9,9,9,9,9,9,9,9,9,9,9,9,9,9,9,9,9,9,9,9,9,9,9,9,9,9,9,9]⟩ 0 (IntKind.i64.wrap (r3.2)) fun c25=>
 (K c25 h13))
 (k7 () h13))) h10)
 (k7 () h10))))) h9)
 (ifP (decide ((IntKind.i64.wrap (r3.2))≤128))
 (callP (za6 ⟨#[61,61,61,61,61,61,61,61,61,61,61,61,61,61,61,61,61,61,61,61,61,61,61,61,61,61,61,61,61,61,61,61,61,61,61,61,61,61,61,61,61,61,61,61,61,61,61,61,61,61,61,61,61,61,61,61,61,61,61,61,61,61,61,61,61,61,61,61,61,61,61,61,61,61,61,61,61,61,61,61,61,61,61,61,61,61,61,61,61,61,61,61,61,61,61,61,61,61,61,61,61,61,61,61,61,61,61,61,61,61,61,61,61,61,61,61,61,61,61,61,61,61,61,61,61,61,61,61]⟩ s) (fun r26 h14=>
 (ifP r26
 (strCut ⟨#[61,61,61,61,61,61,61,61,61,61,61,61,61,61,61,61,61,61,61,61,61,61,61,61,61,61,61,61,61,61,61,61,61,61,61,61,61,61,61,61,61,61,61,61,61,61,61,61,61,61,61,61,61,61,61,61,61,61,61,61,61,61,61,61,61,61,61,61,61,61,61,61,61,61,61,61,61,61,61,61,61,61,61,61,61,61,61,61,61,61,61,61,61,61,61,61,61,61,61,61,61,61,61,61,61,61,61,61,61,61,61,61,61,61,61,61,61,61,61,61,61,61,61,61,61,61,61,61]⟩ 0 (IntKind.i64.wrap (r3.2)) fun c27=>
 (K c27 h14))
 (ifP (decide ((IntKind.i64.wrap (r3.2))≤64))
 (callP (za6 ⟨#[9,9,9,9,9,9,9,9,9,9,9,9,9,9,9,9,9,9,9,9,9,9,9,9,9,9,9,9,9,9,9,9,9,9,9,9,9,9,9,9,9,9,9,9,9,9,9,9,9,9,9,9,9,9,9,9,9,9,9,9,9,9,9,9]⟩ s) (fun r28 h15=>
 (ifP r28
 (strCut ⟨#[9,9,9,9,9,9,9,9,9,9,9,9,9,9,9,9,9,9,9,9,9,9,9,9,9,9,9,9,9,9,9,9,9,9,9,9,9,9,9,9,9,9,9,9,9,9,9,9,9,9,9,9,9,9,9,9,9,9,9,9,9,9,9,9]⟩ 0 (IntKind.i64.wrap (r3.2)) fun c29=>
 (K c29 h15))
 (k7 () h15))) h14)
 (k7 () h14)))) h9)
 (ifP (decide ((IntKind.i64.wrap (r3.2))≤64))
 (callP (za6 ⟨#[9,9,9,9,9,9,9,9,9,9,9,9,9,9,9,9,9,9,9,9,9,9,9,9,9,9,9,9,9,9,9,9,9,9,9,9,9,9,9,9,9,9,9,9,9,9,9,9,9,9,9,9,9,9,9,9,9,9,9,9,9,9,9,9]⟩ s) (fun r30 h16=>
 (ifP r30
 (strCut ⟨#[9,9,9,9,9,9,9,9,9,9,9,9,9,9,9,9,9,9,9,9,9,9,9,9,9,9,9,9,9,9,9,9,9,9,9,9,9,9,9,9,9,9,9,9,9,9,9,9,9,9,9,9,9,9,9,9,9,9,9,9,9,9,9,9]⟩ 0 (IntKind.i64.wrap (r3.2)) fun c31=>
 (K c31 h16))
 (k7 () h16))) h9)
 (k7 () h9)))))) h8)
 (ifP (decide ((IntKind.i64.wrap (r3.2))≤64))
 (callP (za6 ⟨#[48,48,48,48,48,48,48,48,48,48,48,48,48,48,48,48,48,48,48,48,48,48,48,48,48,48,48,48,48,48,48,48,48,48,48,48,48,48,48,48,48,48,48,48,48,48,48,48,48,48,48,48,48,48,48,48,48,48,48,48,48,48,48,48]⟩ s) (fun r32 h17=>
 (ifP r32
 (strCut ⟨#[48,48,48,48,48,48,48,48,48,48,48,48,48,48,48,48,48,48,48,48,48,48,48,48,48,48,48,48,48,48,48,48,48,48,48,48,48,48,48,48,48,48,48,48,48,48,48,48,48,48,48,48,48,48,48,48,48,48,48,48,48,48,48,48]⟩ 0 (IntKind.i64.wrap (r3.2)) fun c33=>
 (K c33 h17))
 (ifP (decide ((IntKind.i64.wrap (r3.2))≤128))
 (callP (za6 ⟨#[61,61,61,61,61,61,61,61,61,61,61,61,61,61,61,61,61,61,61,61,61,61,61,61,61,61,61,61,61,61,61,61,61,61,61,61,61,61,61,61,61,61,61,61,61,61,61,61,61,61,61,61,61,61,61,61,61,61,61,61,61,61,61,61,61,61,61,61,61,61,61,61,61,61,61,61,61,61,61,61,61,61,61,61,61,61,61,61,61,61,61,61,61,61,61,61,61,61,61,61,61,61,61,61,61,61,61,61,61,61,61,61,61,61,61,61,61,61,61,61,61,61,61,61,61,61,61,61]⟩ s) (fun r34 h18=>
 (ifP r34
 (strCut ⟨#[61,61,61,61,61,61,61,61,61,61,61,61,61,61,61,61,61,61,61,61,61,61,61,61,61,61,61,61,61,61,61,61,61,61,61,61,61,61,61,61,61,61,61,61,61,61,61,61,61,61,61,61,61,61,61,61,61,61,61,61,61,61,61,61,61,61,61,61,61,61,61,61,61,61,61,61,61,61,61,61,61,61,61,61,61,61,61,61,61,61,61,61,61,61,61,61,61,61,61,61,61,61,61,61,61,61,61,61,61,61,61,61,61,61,61,61,61,61,61,61,61,61,61,61,61,61,61,61]⟩ 0 (IntKind.i64.wrap (r3.2)) fun c35=>
 (K c35 h18))
 (ifP (decide ((IntKind.i64.wrap (r3.2))≤64))
 (callP (za6 ⟨#[9,9,9,9,9,9,9,9,9,9,9,9,9,9,9,9,9,9,9,9,9,9,9,9,9,9,9,9,9,9,9,9,9,9,9,9,9,9,9,9,9,9,9,9,9,9,9,9,9,9,9,9,9,9,9,9,9,9,9,9,9,9,9,9]⟩ s) (fun r36 h19=>
 (ifP r36
 (strCut ⟨#[9,9,9,9,9,9,9,9,9,9,9,9,9,9,9,9,9,9,9,9,9,9,9,9,9,9,9,9,9,9,9,9,9,9,9,9,9,9,9,9,9,9,9,9,9,9,9,9,9,9,9,9,9,9,9,9,9,9,9,9,9,9,9,9]⟩ 0 (IntKind.i64.wrap (r3.2)) fun c37=>
 (K c37 h19))
 (k7 () h19))) h18)
 (k7 () h18)))) h17)
 (ifP (decide ((IntKind.i64.wrap (r3.2))≤64))
 (callP (za6 ⟨#[9,9,9,9,9,9,9,9,9,9,9,9,9,9,9,9,9,9,9,9,9,9,9,9,9,9,9,9,9,9,9,9,9,9,9,9,9,9,9,9,9,9,9,9,9,9,9,9,9,9,9,9,9,9,9,9,9,9,9,9,9,9,9,9]⟩ s) (fun r38 h20=>
 (ifP r38
 (strCut ⟨#[9,9,9,9,9,9,9,9,9,9,9,9,9,9,9,9,9,9,9,9,9,9,9,9,9,9,9,9,9,9,9,9,9,9,9,9,9,9,9,9,9,9,9,9,9,9,9,9,9,9,9,9,9,9,9,9,9,9,9,9,9,9,9,9]⟩ 0 (IntKind.i64.wrap (r3.2)) fun c39=>
 (K c39 h20))
 (k7 () h20))) h17)
 (k7 () h17))))) h8)
 (ifP (decide ((IntKind.i64.wrap (r3.2))≤128))
 (callP (za6 ⟨#[61,61,61,61,61,61,61,61,61,61,61,61,61,61,61,61,61,61,61,61,61,61,61,61,61,61,61,61,61,61,61,61,61,61,61,61,61,61,61,61,61,61,61,61,61,61,61,61,61,61,61,61,61,61,61,61,61,61,61,61,61,61,61,61,61,61,61,61,61,61,61,61,61,61,61,61,61,61,61,61,61,61,61,61,61,61,61,61,61,61,61,61,61,61,61,61,61,61,61,61,61,61,61,61,61,61,61,61,61,61,61,61,61,61,61,61,61,61,61,61,61,61,61,61,61,61,61,61]⟩ s) (fun r40 h21=>
 (ifP r40
 (strCut ⟨#[61,61,61,61,61,61,61,61,61,61,61,61,61,61,61,61,61,61,61,61,61,61,61,61,61,61,61,61,61,61,61,61,61,61,61,61,61,61,61,61,61,61,61,61,61,61,61,61,61,61,61,61,61,61,61,61,61,61,61,61,61,61,61,61,61,61,61,61,61,61,61,61,61,61,61,61,61,61,61,61,61,61,61,61,61,61,61,61,61,61,61,61,61,61,61,61,61,61,61,61,61,61,61,61,61,61,61,61,61,61,61,61,61,61,61,61,61,61,61,61,61,61,61,61,61,61,61,61]⟩ 0 (IntKind.i64.wrap (r3.2)) fun c41=>
 (K c41 h21))
 (ifP (decide ((IntKind.i64.wrap (r3.2))≤64))
 (callP (za6 ⟨#[9,9,9,9,9,9,9,9,9,9,9,9,9,9,9,9,9,9,9,9,9,9,9,9,9,9,9,9,9,9,9,9,9,9,9,9,9,9,9,9,9,9,9,9,9,9,9,9,9,9,9,9,9,9,9,9,9,9,9,9,9,9,9,9]⟩ s) (fun r42 h22=>
 (ifP r42
 (strCut ⟨#[9,9,9,9,9,9,9,9,9,9,9,9,9,9,9,9,9,9,9,9,9,9,9,9,9,9,9,9,9,9,9,9,9,9,9,9,9,9,9,9,9,9,9,9,9,9,9,9,9,9,9,9,9,9,9,9,9,9,9,9,9,9,9,9]⟩ 0 (IntKind.i64.wrap (r3.2)) fun c43=>
 (K c43 h22))
 (k7 () h22))) h21)
 (k7 () h21)))) h8)
 (ifP (decide ((IntKind.i64.wrap (r3.2))≤64))
 (callP (za6 ⟨#[9,9,9,9,9,9,9,9,9,9,9,9,9,9,9,9,9,9,9,9,9,9,9,9,9,9,9,9,9,9,9,9,9,9,9,9,9,9,9,9,9,9,9,9,9,9,9,9,9,9,9,9,9,9,9,9,9,9,9,9,9,9,9,9]⟩ s) (fun r44 h23=>
 (ifP r44
 (strCut ⟨#[9,9,9,9,9,9,9,9,9,9,9,9,9,9,9,9,9,9,9,9,9,9,9,9,9,9,9,9,9,9,9,9,9,9,9,9,9,9,9,9,9,9,9,9,9,9,9,9,9,9,9,9,9,9,9,9,9,9,9,9,9,9,9,9]⟩ 0 (IntKind.i64.wrap (r3.2)) fun c45=>
 (K c45 h23))
 (k7 () h23))) h8)
 (k7 () h8))))))) h7)
 (ifP (decide ((IntKind.i64.wrap (r3.2))≤128))
 (callP (za6 ⟨#[45,45,45,45,45,45,45,45,45,45,45,45,45,45,45,45,45,45,45,45,45,45,45,45,45,45,45,45,45,45,45,45,45,45,45,45,45,45,45,45,45,45,45,45,45,45,45,45,45,45,45,45,45,45,45,45,45,45,45,45,45,45,45,45,45,45,45,45,45,45,45,45,45,45,45,45,45,45,45,45,45,45,45,45,45,45,45,45,45,45,45,45,45,45,45,45,45,45,45,45,45,45,45,45,45,45,45,45,45,45,45,45,45,45,45,45,45,45,45,45,45,45,45,45,45,45,45,45]⟩ s) (fun r46 h24=>
 (ifP r46
 (strCut ⟨#[45,45,45,45,45,45,45,45,45,45,45,45,45,45,45,45,45,45,45,45,45,45,45,45,45,45,45,45,45,45,45,45,45,45,45,45,45,45,45,45,45,45,45,45,45,45,45,45,45,45,45,45,45,45,45,45,45,45,45,45,45,45,45,45,45,45,45,45,45,45,45,45,45,45,45,45,45,45,45,45,45,45,45,45,45,45,45,45,45,45,45,45,45,45,45,45,45,45,45,45,45,45,45,45,45,45,45,45,45,45,45,45,45,45,45,45,45,45,45,45,45,45,45,45,45,45,45,45]⟩ 0 (IntKind.i64.wrap (r3.2)) fun c47=>
 (K c47 h24))
 (ifP (decide ((IntKind.i64.wrap (r3.2))≤64))
 (callP (za6 ⟨#[48,48,48,48,48,48,48,48,48,48,48,48,48,48,48,48,48,48,48,48,48,48,48,48,48,48,48,48,48,48,48,48,48,48,48,48,48,48,48,48,48,48,48,48,48,48,48,48,48,48,48,48,48,48,48,48,48,48,48,48,48,48,48,48]⟩ s) (fun r48 h25=>
 (ifP r48
 (strCut ⟨#[48,48,48,48,48,48,48,48,48,48,48,48,48,48,48,48,48,48,48,48,48,48,48,48,48,48,48,48,48,48,48,48,48,48,48,48,48,48,48,48,48,48,48,48,48,48,48,48,48,48,48,48,48,48,48,48,48,48,48,48,48,48,48,48]⟩ 0 (IntKind.i64.wrap (r3.2)) fun c49=>
 (K c49 h25))
 (ifP (decide ((IntKind.i64.wrap (r3.2))≤128))
 (callP (za6 ⟨#[61,61,61,61,61,61,61,61,61,61,61,61,61,61,61,61,61,61,61,61,61,61,61,61,61,61,61,61,61,61,61,61,61,61,61,61,61,61,61,61,61,61,61,61,61,61,61,61,61,61,61,61,61,61,61,61,61,61,61,61,61,61,61,61,61,61,61,61,61,61,61,61,61,61,61,61,61,61,61,61,61,61,61,61,61,61,61,61,61,61,61,61,61,61,61,61,61,61,61,61,61,61,61,61,61,61,61,61,61,61,61,61,61,61,61,61,61,61,61,61,61,61,61,61,61,61,61,61]⟩ s) (fun r50 h26=>
 (ifP r50
 (strCut ⟨#[61,61,61,61,61,61,61,61,61,61,61,61,61,61,61,61,61,61,61,61,61,61,61,61,61,61,61,61,61,61,61,61,61,61,61,61,61,61,61,61,61,61,61,61,61,61,61,61,61,61,61,61,61,61,61,61,61,61,61,61,61,61,61,61,61,61,61,61,61,61,61,61,61,61,61,61,61,61,61,61,61,61,61,61,61,61,61,61,61,61,61,61,61,61,61,61,61,61,61,61,61,61,61,61,61,61,61,61,61,61,61,61,61,61,61,61,61,61,61,61,61,61,61,61,61,61,61,61]⟩ 0 (IntKind.i64.wrap (r3.2)) fun c51=>
 (K c51 h26))
 (ifP (decide ((IntKind.i64.wrap (r3.2))≤64))
 (callP (za6 ⟨#[9,9,9,9,9,9,9,9,9,9,9,9,9,9,9,9,9,9,9,9,9,9,9,9,9,9,9,9,9,9,9,9,9,9,9,9,9,9,9,9,9,9,9,9,9,9,9,9,9,9,9,9,9,9,9,9,9,9,9,9,9,9,9,9]⟩ s) (fun r52 h27=>
 (ifP r52
 (strCut ⟨#[9,9,9,9,9,9,9,9,9,9,9,9,9,9,9,9,9,9,9,9,9,9,9,9,9,9,9,9,9,9,9,9,9,9,9,9,9,9,9,9,9,9,9,9,9,9,9,9,9,9,9,9,9,9,9,9,9,9,9,9,9,9,9,9]⟩ 0 (IntKind.i64.wrap (r3.2)) fun c53=>
 (K c53 h27))
 (k7 () h27))) h26)
 (k7 () h26)))) h25)
 (ifP (decide ((IntKind.i64.wrap (r3.2))≤64))
 (callP (za6 ⟨#[9,9,9,9,9,9,9,9,9,9,9,9,9,9,9,9,9,9,9,9,9,9,9,9,9,9,9,9,9,9,9,9,9,9,9,9,9,9,9,9,9,9,9,9,9,9,9,9,9,9,9,9,9,9,9,9,9,9,9,9,9,9,9,9]⟩ s) (fun r54 h28=>
 (ifP r54
 (strCut ⟨#[9,9,9,9,9,9,9,9,9,9,9,9,9,9,9,9,9,9,9,9,9,9,9,9,9,9,9,9,9,9,9,9,9,9,9,9,9,9,9,9,9,9,9,9,9,9,9,9,9,9,9,9,9,9,9,9,9,9,9,9,9,9,9,9]⟩ 0 (IntKind.i64.wrap (r3.2)) fun c55=>
 (K c55 h28))
 (k7 () h28))) h25)
 (k7 () h25))))) h24)
 (ifP (decide ((IntKind.i64.wrap (r3.2))≤128))
 (callP (za6 ⟨#[61,61,61,61,61,61,61,61,61,61,61,61,61,61,61,61,61,61,61,61,61,61,61,61,61,61,61,61,61,61,61,61,61,61,61,61,61,61,61,61,61,61,61,61,61,61,61,61,61,61,61,61,61,61,61,61,61,61,61,61,61,61,61,61,61,61,61,61,61,61,61,61,61,61,61,61,61,61,61,61,61,61,61,61,61,61,61,61,61,61,61,61,61,61,61,61,61,61,61,61,61,61,61,61,61,61,61,61,61,61,61,61,61,61,61,61,61,61,61,61,61,61,61,61,61,61,61,61]⟩ s) (fun r56 h29=>
 (ifP r56
 (strCut ⟨#[61,61,61,61,61,61,61,61,61,61,61,61,61,61,61,61,61,61,61,61,61,61,61,61,61,61,61,61,61,61,61,61,61,61,61,61,61,61,61,61,61,61,61,61,61,61,61,61,61,61,61,61,61,61,61,61,61,61,61,61,61,61,61,61,61,61,61,61,61,61,61,61,61,61,61,61,61,61,61,61,61,61,61,61,61,61,61,61,61,61,61,61,61,61,61,61,61,61,61,61,61,61,61,61,61,61,61,61,61,61,61,61,61,61,61,61,61,61,61,61,61,61,61,61,61,61,61,61]⟩ 0 (IntKind.i64.wrap (r3.2)) fun c57=>
 (K c57 h29))
 (ifP (decide ((IntKind.i64.wrap (r3.2))≤64))
 (callP (za6 ⟨#[9,9,9,9,9,9,9,9,9,9,9,9,9,9,9,9,9,9,9,9,9,9,9,9,9,9,9,9,9,9,9,9,9,9,9,9,9,9,9,9,9,9,9,9,9,9,9,9,9,9,9,9,9,9,9,9,9,9,9,9,9,9,9,9]⟩ s) (fun r58 h30=>
 (ifP r58
 (strCut ⟨#[9,9,9,9,9,9,9,9,9,9,9,9,9,9,9,9,9,9,9,9,9,9,9,9,9,9,9,9,9,9,9,9,9,9,9,9,9,9,9,9,9,9,9,9,9,9,9,9,9,9,9,9,9,9,9,9,9,9,9,9,9,9,9,9]⟩ 0 (IntKind.i64.wrap (r3.2)) fun c59=>
 (K c59 h30))
 (k7 () h30))) h29)
 (k7 () h29)))) h24)
 (ifP (decide ((IntKind.i64.wrap (r3.2))≤64))
 (callP (za6 ⟨#[9,9,9,9,9,9,9,9,9,9,9,9,9,9,9,9,9,9,9,9,9,9,9,9,9,9,9,9,9,9,9,9,9,9,9,9,9,9,9,9,9,9,9,9,9,9,9,9,9,9,9,9,9,9,9,9,9,9,9,9,9,9,9,9]⟩ s) (fun r60 h31=>
 (ifP r60
 (strCut ⟨#[9,9,9,9,9,9,9,9,9,9,9,9,9,9,9,9,9,9,9,9,9,9,9,9,9,9,9,9,9,9,9,9,9,9,9,9,9,9,9,9,9,9,9,9,9,9,9,9,9,9,9,9,9,9,9,9,9,9,9,9,9,9,9,9]⟩ 0 (IntKind.i64.wrap (r3.2)) fun c61=>
 (K c61 h31))
 (k7 () h31))) h24)
 (k7 () h24)))))) h7)
 (ifP (decide ((IntKind.i64.wrap (r3.2))≤64))
 (callP (za6 ⟨#[48,48,48,48,48,48,48,48,48,48,48,48,48,48,48,48,48,48,48,48,48,48,48,48,48,48,48,48,48,48,48,48,48,48,48,48,48,48,48,48,48,48,48,48,48,48,48,48,48,48,48,48,48,48,48,48,48,48,48,48,48,48,48,48]⟩ s) (fun r62 h32=>
 (ifP r62
 (strCut ⟨#[48,48,48,48,48,48,48,48,48,48,48,48,48,48,48,48,48,48,48,48,48,48,48,48,48,48,48,48,48,48,48,48,48,48,48,48,48,48,48,48,48,48,48,48,48,48,48,48,48,48,48,48,48,48,48,48,48,48,48,48,48,48,48,48]⟩ 0 (IntKind.i64.wrap (r3.2)) fun c63=>
 (K c63 h32))
 (ifP (decide ((IntKind.i64.wrap (r3.2))≤128))
 (callP (za6 ⟨#[61,61,61,61,61,61,61,61,61,61,61,61,61,61,61,61,61,61,61,61,61,61,61,61,61,61,61,61,61,61,61,61,61,61,61,61,61,61,61,61,61,61,61,61,61,61,61,61,61,61,61,61,61,61,61,61,61,61,61,61,61,61,61,61,61,61,61,61,61,61,61,61,61,61,61,61,61,61,61,61,61,61,61,61,61,61,61,61,61,61,61,61,61,61,61,61,61,61,61,61,61,61,61,61,61,61,61,61,61,61,61,61,61,61,61,61,61,61,61,61,61,61,61,61,61,61,61,61]⟩ s) (fun r64 h33=>
 (ifP r64
 (strCut ⟨#[61,61,61,61,61,61,61,61,61,61,61,61,61,61,61,61,61,61,61,61,61,61,61,61,61,61,61,61,61,61,61,61,61,61,61,61,61,61,61,61,61,61,61,61,61,61,61,61,61,61,61,61,61,61,61,61,61,61,61,61,61,61,61,61,61,61,61,61,61,61,61,61,61,61,61,61,61,61,61,61,61,61,61,61,61,61,61,61,61,61,61,61,61,61,61,61,61,61,61,61,61,61,61,61,61,61,61,61,61,61,61,61,61,61,61,61,61,61,61,61,61,61,61,61,61,61,61,61]⟩ 0 (IntKind.i64.wrap (r3.2)) fun c65=>
 (K c65 h33))
 (ifP (decide ((IntKind.i64.wrap (r3.2))≤64))
 (callP (za6 ⟨#[9,9,9,9,9,9,9,9,9,9,9,9,9,9,9,9,9,9,9,9,9,9,9,9,9,9,9,9,9,9,9,9,9,9,9,9,9,9,9,9,9,9,9,9,9,9,9,9,9,9,9,9,9,9,9,9,9,9,9,9,9,9,9,9]⟩ s) (fun r66 h34=>
 (ifP r66
 (strCut ⟨#[9,9,9,9,9,9,9,9,9,9,9,9,9,9,9,9,9,9,9,9,9,9,9,9,9,9,9,9,9,9,9,9,9,9,9,9,9,9,9,9,9,9,9,9,9,9,9,9,9,9,9,9,9,9,9,9,9,9,9,9,9,9,9,9]⟩ 0 (IntKind.i64.wrap (r3.2)) fun c67=>
 (K c67 h34))
 (k7 () h34))) h33)
 (k7 () h33)))) h32)
 (ifP (decide ((IntKind.i64.wrap (r3.2))≤64))
 (callP (za6 ⟨#[9,9,9,9,9,9,9,9,9,9,9,9,9,9,9,9,9,9,9,9,9,9,9,9,9,9,9,9,9,9,9,9,9,9,9,9,9,9,9,9,9,9,9,9,9,9,9,9,9,9,9,9,9,9,9,9,9,9,9,9,9,9,9,9]⟩ s) (fun r68 h35=>
 (ifP r68
 (strCut ⟨#[9,9,9,9,9,9,9,9,9,9,9,9,9,9,9,9,9,9,9,9,9,9,9,9,9,9,9,9,9,9,9,9,9,9,9,9,9,9,9,9,9,9,9,9,9,9,9,9,9,9,9,9,9,9,9,9,9,9,9,9,9,9,9,9]⟩ 0 (IntKind.i64.wrap (r3.2)) fun c69=>
 (K c69 h35))
 (k7 () h35))) h32)
 (k7 () h32))))) h7)
 (ifP (decide ((IntKind.i64.wrap (r3.2))≤128))
 (callP (za6 ⟨#[61,61,61,61,61,61,61,61,61,61,61,61,61,61,61,61,61,61,61,61,61,61,61,61,61,61,61,61,61,61,61,61,61,61,61,61,61,61,61,61,61,61,61,61,61,61,61,61,61,61,61,61,61,61,61,61,61,61,61,61,61,61,61,61,61,61,61,61,61,61,61,61,61,61,61,61,61,61,61,61,61,61,61,61,61,61,61,61,61,61,61,61,61,61,61,61,61,61,61,61,61,61,61,61,61,61,61,61,61,61,61,61,61,61,61,61,61,61,61,61,61,61,61,61,61,61,61,61]⟩ s) (fun r70 h36=>
 (ifP r70
 (strCut ⟨#[61,61,61,61,61,61,61,61,61,61,61,61,61,61,61,61,61,61,61,61,61,61,61,61,61,61,61,61,61,61,61,61,61,61,61,61,61,61,61,61,61,61,61,61,61,61,61,61,61,61,61,61,61,61,61,61,61,61,61,61,61,61,61,61,61,61,61,61,61,61,61,61,61,61,61,61,61,61,61,61,61,61,61,61,61,61,61,61,61,61,61,61,61,61,61,61,61,61,61,61,61,61,61,61,61,61,61,61,61,61,61,61,61,61,61,61,61,61,61,61,61,61,61,61,61,61,61,61]⟩ 0 (IntKind.i64.wrap (r3.2)) fun c71=>
 (K c71 h36))
 (ifP (decide ((IntKind.i64.wrap (r3.2))≤64))
 (callP (za6 ⟨#[9,9,9,9,9,9,9,9,9,9,9,9,9,9,9,9,9,9,9,9,9,9,9,9,9,9,9,9,9,9,9,9,9,9,9,9,9,9,9,9,9,9,9,9,9,9,9,9,9,9,9,9,9,9,9,9,9,9,9,9,9,9,9,9]⟩ s) (fun r72 h37=>
 (ifP r72
 (strCut ⟨#[9,9,9,9,9,9,9,9,9,9,9,9,9,9,9,9,9,9,9,9,9,9,9,9,9,9,9,9,9,9,9,9,9,9,9,9,9,9,9,9,9,9,9,9,9,9,9,9,9,9,9,9,9,9,9,9,9,9,9,9,9,9,9,9]⟩ 0 (IntKind.i64.wrap (r3.2)) fun c73=>
 (K c73 h37))
 (k7 () h37))) h36)
 (k7 () h36)))) h7)
 (ifP (decide ((IntKind.i64.wrap (r3.2))≤64))
 (callP (za6 ⟨#[9,9,9,9,9,9,9,9,9,9,9,9,9,9,9,9,9,9,9,9,9,9,9,9,9,9,9,9,9,9,9,9,9,9,9,9,9,9,9,9,9,9,9,9,9,9,9,9,9,9,9,9,9,9,9,9,9,9,9,9,9,9,9,9]⟩ s) (fun r74 h38=>
 (ifP r74
 (strCut ⟨#[9,9,9,9,9,9,9,9,9,9,9,9,9,9,9,9,9,9,9,9,9,9,9,9,9,9,9,9,9,9,9,9,9,9,9,9,9,9,9,9,9,9,9,9,9,9,9,9,9,9,9,9,9,9,9,9,9,9,9,9,9,9,9,9]⟩ 0 (IntKind.i64.wrap (r3.2)) fun c75=>
 (K c75 h38))
 (k7 () h38))) h7)
 (k7 () h7))))))
 (k7 () h7)))
 (fun k13=>
 (ifP (c11==32)
 (k13 ((c11==32),()) h3)
 (ifP (c11==45)
 (k13 ((c11==45),()) h3)
 (ifP (c11==48)
 (k13 ((c11==48),()) h3)
 (ifP (c11==61)
 (k13 ((c11==61),()) h3)
 (k13 ((c11==9),()) h3))))))))))))
 (fun k5=>
 (ifP (decide (r3.1>0))
 False
 (ifP (decide (r3.2>9223372036854775807))
 False
 (k5 () h2)))))) h1))
 (fun k2=>
 (ifP (decide (count<0))
 False
 (k2 () h))))))
def zh9 (a:TInt) (K:ByteArray→Hp→Prop) (h:Hp):Prop:=
 (callP (zae a.mag) (fun r1 h1=>
 (callP (zb1 r1) (fun r2 h2=>
 (ifP ((r2.len:Int)==0)
 (K ⟨#[48]⟩ h2)
 (loopP (S:=Sl×(Sl×Unit)×Unit) (fun s3 k4 h3=>
 (ifP (decide ((s3.1.len:Int)>0))
 (loopP (S:=Int×Int×Unit) (fun s5 k6 h4=>
 (ifP (decide (s5.2.1≥0))
 (0≤(32:Int) ∧
 (idxP s3.1 s5.2.1 1 fun a7=>
 (ldL (.int .u32) a7 (fun x8=>
 ((1000000000:Int)≠0 ∧
 (idxP s3.1 s5.2.1 1 fun a9=>
 (stP a9 [.int .u32 (IntKind.u32.wrap ((IntKind.u64.wrap (((ibits .or .u64 (IntKind.u64.wrap (s5.1*2 ^ (min (32:Int).toNat IntKind.u64.bits))) (IntKind.u64.wrap (x8))):Int).tdiv 1000000000))))] (fun h5=>
 ((1000000000:Int)≠0 ∧
 (k6 (((ibits .or .u64 (IntKind.u64.wrap (s5.1*2 ^ (min (32:Int).toNat IntKind.u64.bits))) (IntKind.u64.wrap (x8))):Int).tmod 1000000000,(IntKind.i64.wrap (s5.2.1-1)),()) h5))) h4)))) h4)))
 (callP (zae s3.1) (fun r10 h6=>
 (appP 1 4 [.int .u32 0] s3.2.1.1 1 [.int .u32 (IntKind.u32.wrap (s5.1))] (fun w11 h7=>
 (k4 (r10,(w11,()),()) h7)) h6)) h4)))
 (0,(IntKind.i64.wrap ((s3.1.len:Int)-1)),()) h3)
 (newT 239 [.pointer none,.slice nilS.a nilS.len nilS.cap] (fun p12 h8=>
 (joinP (S:=Unit) (fun s13 h9=>
 (callP (zbr s3.2.1.1) (fun r15 h10=>
 (backP (S:=Unit) (.leaf (.int .u32)) r15 (fun i16 v17 s18 k19 h11=>
 (callP (zdx (IntKind.u64.wrap (v17)) 10) (fun r21 h13=>
 (joinP (S:=Unit) (fun s22 h14=>
 (callM (zaz (some p12) r21) (fun r24 h15=>
 (k19 () h15)) h14))
 (fun k23=>
 (ifP (decide (i16<(IntKind.i64.wrap ((s3.2.1.1.len:Int)-1))))
 (callP (zeb ⟨#[48]⟩ (IntKind.i64.wrap (9-((r21:ByteArray).size:Int)))) (fun r25 h16=>
 (callM (zaz (some p12) r25) (fun r26 h17=>
 (k23 () h17)) h16)) h13)
 (k23 () h13))))) h11))
 () (fun s20 h12=>
 (callM (zdp (some p12)) (fun r27 h18=>
 (K r27 h18)) h12)) h10)) h9))
 (fun k14=>
 (ifP a.neg
 (callM (zgk (some p12) 45) (fun r28 h19=>
 (k14 () h19)) h8)
 (k14 () h8))))) h3)))
 (r2,(nilS,()),()) h2))) h1)) h)
def zgc (a:TRat) (K:(ByteArray×Bool)→Hp→Prop) (h:Hp):Prop:=
 (joinP (S:=Unit) (fun s1 h1=>
 (callP (zfo 10) (fun r3 h2=>
 (callP (zdy 1) (fun r4 h3=>
 (loopP (S:=(Bool×Sl×Bool×Sl×Unit)×Int×Unit) (fun s5 k6 h4=>
 (ifP (decide (s5.2.1<40))
 (callP (zje (⟨s5.1.2.2.1,s5.1.2.2.2.1⟩:TInt) r4) (fun r7 h5=>
 (ifP (r7 != 0)
 (callP (zig (⟨(⟨s5.1.1,s5.1.2.1⟩:TInt),(⟨s5.1.2.2.1,s5.1.2.2.2.1⟩:TInt)⟩:TRat) r3) (fun r8 h6=>
 (k6 ((r8.num.neg,r8.num.mag,r8.den.neg,r8.den.mag,()),(IntKind.i64.wrap (s5.2.1+1)),()) h6)) h5)
 (callP (zh9 (⟨s5.1.1,s5.1.2.1⟩:TInt)) (fun r9 h7=>
 (joinP (S:=ByteArray×Unit) (fun s10 h8=>
 (K (s10.1,decide (((s10.1:ByteArray).size:Int)≤40)) h8))
 (fun k11=>
 (ifP (decide (s5.2.1>0))
 (joinP (S:=ByteArray×Unit) (fun s12 h9=>
 (strCut s12.1 0 (IntKind.i64.wrap (((s12.1:ByteArray).size:Int)-s5.2.1)) fun c14=>
 ((((c14:ByteArray).size+(⟨#[46]⟩:ByteArray).size:Nat):Int)≤9223372036854775807 ∧
 (strCut s12.1 (IntKind.i64.wrap (((s12.1:ByteArray).size:Int)-s5.2.1)) ((s12.1:ByteArray).size:Int) fun c15=>
 ((((((c14:ByteArray)++(⟨#[46]⟩:ByteArray)):ByteArray).size+(c15:ByteArray).size:Nat):Int)≤9223372036854775807 ∧
 (k11 (((((c14:ByteArray)++(⟨#[46]⟩:ByteArray)):ByteArray)++(c15:ByteArray)),()) h9))))))
 (fun k13=>
 (ifP (decide ((IntKind.i64.wrap ((IntKind.i64.wrap (s5.2.1+1))-((r9:ByteArray).size:Int)))>0))
 (callP (zeb ⟨#[48]⟩ (IntKind.i64.wrap ((IntKind.i64.wrap (s5.2.1+1))-((r9:ByteArray).size:Int)))) (fun r16 h10=>
 ((((r16:ByteArray).size+(r9:ByteArray).size:Nat):Int)≤9223372036854775807 ∧
 (k13 (((r16:ByteArray)++(r9:ByteArray)),()) h10))) h7)
 (k13 (r9,()) h7))))
 (k11 (r9,()) h7))))) h5))) h4)
 (K (emptyS,false) h4)))
 ((a.num.neg,a.num.mag,a.den.neg,a.den.mag,()),0,()) h3)) h2)) h1))
 (fun k2=>
 (callP (zcv a) (fun r17 h11=>
 (ifP (!r17)
 (K (emptyS,false) h11)
 (callP (zem a) (fun r18 h12=>
 (ifP (decide (r18<0))
 (K (emptyS,false) h12)
 (k2 () h12))) h11))) h)))
def zgp (a:TRat) (K:Bool→Hp→Prop) (h:Hp):Prop:=
 (ifP ((a.num.mag.len:Int)==0)
 (ifP ((a.den.mag.len:Int)==0)
 (ifP (!a.num.neg)
 (K (!a.den.neg) h)
 (K false h))
 (K false h))
 (K false h))
def zfl (Q_formula_formed:TExpr→(Bool→Hp→Prop)→Hp→Prop) (x:TExpr) (K:Bool→Hp→Prop) (h:Hp):Prop:=
 (callP (Q_formula_formed x) (fun r1 h1=>
 (K (!r1) h1)) h)
def zbp (Q_formula_formed:TExpr→(Bool→Hp→Prop)→Hp→Prop) (s:Sl) (K:Int→Hp→Prop) (h:Hp):Prop:=
 (loopP (S:=Int×Unit) (fun s1 k2 h1=>
 (ifP (decide (s1.1<(s.len:Int)))
 (idxP s s1.1 7 fun a3=>
 (ldL (.int .i64) (a3.add 0) (fun x4_0=>
 (ldL (.bool) (a3.add 1) (fun x4_1=>
 (ldL (.sl) (a3.add 2) (fun x4_2=>
 (ldL (.bool) (a3.add 3) (fun x4_3=>
 (ldL (.sl) (a3.add 4) (fun x4_4=>
 (ldL (.str) (a3.add 5) (fun x4_5=>
 (ldL (.sl) (a3.add 6) (fun x4_6=>
 (callP ((zfl Q_formula_formed) (⟨x4_0,(⟨(⟨x4_1,x4_2⟩:TInt),(⟨x4_3,x4_4⟩:TInt)⟩:TRat),x4_5,x4_6⟩:TExpr)) (fun r5 h2=>
 (ifP r5
 (K s1.1 h2)
 (k2 ((IntKind.i64.wrap (s1.1+1)),()) h2))) h1)) h1)) h1)) h1)) h1)) h1)) h1)) h1))
 (K (-1) h1)))
 (0,()) h)
def zbi (Q_formula_formed:TExpr→(Bool→Hp→Prop)→Hp→Prop) (s:Sl) (K:Bool→Hp→Prop) (h:Hp):Prop:=
 (callP ((zbp Q_formula_formed) s) (fun r1 h1=>
 (K (decide (r1≥0)) h1)) h)
def zch:Nat→TExpr→(Bool→Hp→Prop)→Hp→Prop
 | 0,_,_,_=>False
 | fuel+1,e,K,h=>
 (joinP (S:=Unit) (fun s1 h1=>
 (ifP (e.op==1)
 (callP (zgc e.value) (fun r3 h2=>
 (ifP r3.2
 (ifP ((e.name:ByteArray).toList==(emptyS:ByteArray).toList)
 (K true h2)
 (callP (zf7 e.name) (fun r4 h3=>
 (K r4 h3)) h2))
 (K false h2))) h1)
 (ifP (e.op==2)
 (callP (zgp e.value) (fun r5 h4=>
 (ifP r5
 (callP (zf7 e.name) (fun r6 h5=>
 (K r6 h5)) h4)
 (K false h4))) h1)
 (callP (zgp e.value) (fun r7 h6=>
 (ifP r7
 (ifP ((e.name:ByteArray).toList==(emptyS:ByteArray).toList)
 (callP ((zbi (zch fuel)) e.args) (fun r8 h7=>
 (K (!r8) h7)) h6)
 (K false h6))
 (K false h6))) h1))))
 (fun k2=>
 (ifP (decide (e.op<1))
 (K false h)
 (ifP (decide (e.op>7))
 (K false h)
 (idxC e.op 8
 (ldL (.int .i64) ((⟨2,0,none⟩:Addr).add ((e.op:Int).toNat*1)) (fun x9=>
 (ifP ((e.args.len:Int) != x9)
 (K false h)
 (k2 () h))) h))))))
def zh6 (e:TExpr) (K:Bool→Hp→Prop) (h:Hp):Prop:=∃fuel,zch fuel e K h
def zde:Nat→TExpr→(Int→Hp→Prop)→Hp→Prop
 | 0,_,_,_=>False
 | fuel+1,e,K,h=>
 (loopP (S:=Int×Int×Unit) (fun s1 k2 h1=>
 (ifP (decide (s1.2.1<(e.args.len:Int)))
 (idxP e.args s1.2.1 7 fun a3=>
 (ldL (.int .i64) (a3.add 0) (fun x4_0=>
 (ldL (.bool) (a3.add 1) (fun x4_1=>
 (ldL (.sl) (a3.add 2) (fun x4_2=>
 (ldL (.bool) (a3.add 3) (fun x4_3=>
 (ldL (.sl) (a3.add 4) (fun x4_4=>
 (ldL (.str) (a3.add 5) (fun x4_5=>
 (ldL (.sl) (a3.add 6) (fun x4_6=>
 (callP ((zde fuel) (⟨x4_0,(⟨(⟨x4_1,x4_2⟩:TInt),(⟨x4_3,x4_4⟩:TInt)⟩:TRat),x4_5,x4_6⟩:TExpr)) (fun r5 h2=>
 (k2 (maxI s1.1 r5,(IntKind.i64.wrap (s1.2.1+1)),()) h2)) h1)) h1)) h1)) h1)) h1)) h1)) h1)) h1))
 (K (IntKind.i64.wrap (s1.1+1)) h1)))
 (0,0,()) h)
def zho (e:TExpr) (K:Int→Hp→Prop) (h:Hp):Prop:=∃fuel,zde fuel e K h
def zhp (e:TExpr) (K:Int→Hp→Prop) (h:Hp):Prop:=
 (callP (zh6 e) (fun r1 h1=>
 (ifP (!r1)
 (K 1 h1)
 (callP (zho e) (fun r2 h2=>
 (ifP (decide (r2>40))
 (K 3 h2)
 (K 0 h2))) h1))) h)
def zer (e:TExpr) (K:Bool→Hp→Prop) (h:Hp):Prop:=
 (callP (zhp e) (fun r1 h1=>
 (K (r1 != 0) h1)) h)
def zbl (s:Sl) (K:Int→Hp→Prop) (h:Hp):Prop:=
 (loopP (S:=Int×Unit) (fun s1 k2 h1=>
 (ifP (decide (s1.1<(s.len:Int)))
 (idxP s s1.1 7 fun a3=>
 (ldL (.int .i64) (a3.add 0) (fun x4_0=>
 (ldL (.bool) (a3.add 1) (fun x4_1=>
 (ldL (.sl) (a3.add 2) (fun x4_2=>
 (ldL (.bool) (a3.add 3) (fun x4_3=>
 (ldL (.sl) (a3.add 4) (fun x4_4=>
 (ldL (.str) (a3.add 5) (fun x4_5=>
 (ldL (.sl) (a3.add 6) (fun x4_6=>
 (callP (zer (⟨x4_0,(⟨(⟨x4_1,x4_2⟩:TInt),(⟨x4_3,x4_4⟩:TInt)⟩:TRat),x4_5,x4_6⟩:TExpr)) (fun r5 h2=>
 (ifP r5
 (K s1.1 h2)
 (k2 ((IntKind.i64.wrap (s1.1+1)),()) h2))) h1)) h1)) h1)) h1)) h1)) h1)) h1)) h1))
 (K (-1) h1)))
 (0,()) h)
def zax (s:Sl) (K:Bool→Hp→Prop) (h:Hp):Prop:=
 (callP (zbl s) (fun r1 h1=>
 (K (decide (r1≥0)) h1)) h)
def zfi (l:Sl) (K:Bool→Hp→Prop) (h:Hp):Prop:=
 (idxP l 0 1 fun a1=>
 (ldL (.int .i64) a1 (fun x2=>
 (idxP l 1 1 fun a3=>
 (ldL (.int .i64) a3 (fun x4=>
 (idxP l 2 1 fun a5=>
 (ldL (.int .i64) a5 (fun x6=>
 (idxP l 3 1 fun a7=>
 (ldL (.int .i64) a7 (fun x8=>
 (ifP (x2 != x4)
 (ifP (x6 != x8)
 (ifP (x2==x6)
 (ifP (!(x4==x8))
 (ifP (x2==x8)
 (K (!(x4==x6)) h)
 (K (!false) h))
 (K false h))
 (ifP (x2==x8)
 (K (!(x4==x6)) h)
 (K (!false) h)))
 (K false h))
 (K false h))) h))) h))) h))) h))
def zd5 (s:Sl) (v:Int) (K:Int→Hp→Prop) (h:Hp):Prop:=
 (loopP (S:=Int×Unit) (fun s1 k2 h1=>
 (ifP (decide (s1.1<(s.len:Int)))
 (idxP s s1.1 1 fun a3=>
 (ldL (.int .i64) a3 (fun x4=>
 (ifP (v==x4)
 (K s1.1 h1)
 (k2 ((IntKind.i64.wrap (s1.1+1)),()) h1))) h1))
 (K (-1) h1)))
 (0,()) h)
def zbc (s:Sl) (v:Int) (K:Bool→Hp→Prop) (h:Hp):Prop:=
 (callP (zd5 s v) (fun r1 h1=>
 (K (decide (r1≥0)) h1)) h)
def zcx (l:Sl) (K:Bool→Hp→Prop) (h:Hp):Prop:=
 (loopP (S:=Int×Unit) (fun s1 k2 h1=>
 (ifP (decide (s1.1<(l.len:Int)))
 (idxP l s1.1 1 fun a3=>
 (ldL (.int .i64) a3 (fun x4=>
 (slP l 0 s1.1 1 fun c5=>
 (callP (zbc c5 x4) (fun r6 h2=>
 (ifP r6
 (K false h2)
 (k2 ((IntKind.i64.wrap (s1.1+1)),()) h2))) h1))) h1))
 (K true h1)))
 (0,()) h)
def zga (i:Int) (v0:(Option Addr)) (K:Bool→Hp→Prop) (h:Hp):Prop:=
 (ifP (decide (i<0))
 (K true h)
 (ptrK v0 fun p1=>
 (ldL (.int .i64) p1 (fun x2=>
 (K (decide (i≥x2)) h)) h)))
def zc4 (s:Sl) (f1:(Option Addr×Unit)) (K:Int→Hp→Prop) (h:Hp):Prop:=
 (loopP (S:=Int×Unit) (fun s1 k2 h1=>
 (ifP (decide (s1.1<(s.len:Int)))
 (idxP s s1.1 1 fun a3=>
 (ldL (.int .i64) a3 (fun x4=>
 (callP (zga x4 f1.1) (fun r5 h2=>
 (ifP r5
 (K s1.1 h2)
 (k2 ((IntKind.i64.wrap (s1.1+1)),()) h2))) h1)) h1))
 (K (-1) h1)))
 (0,()) h)
def zbv (s:Sl) (f1:(Option Addr×Unit)) (K:Bool→Hp→Prop) (h:Hp):Prop:=
 (callP (zc4 s (f1.1,())) (fun r1 h1=>
 (K (decide (r1≥0)) h1)) h)
def ze5 (l:Sl) (n:Int) (most:Int) (K:Bool→Hp→Prop) (h:Hp):Prop:=
 (newP [.int .i64 most] (fun p1 h1=>
 (ifP ((l.len:Int)==n)
 (callP (zbv l ((some p1),())) (fun r2 h2=>
 (K (!r2) h2)) h1)
 (K false h1))) h)
def zfh (c:TConstraint) (points:Int) (circles:Int) (K:Bool→Hp→Prop) (h:Hp):Prop:=
 (callP (zds c.kind) (fun r1 h1=>
 (joinP (S:=Unit) (fun s2 h2=>
 (callP (zax c.values) (fun r4 h3=>
 (ifP r4
 (K false h3)
 (joinP (S:=Unit) (fun s5 h4=>
 (joinP (S:=Bool×Unit) (fun s7 h5=>
 (ifP s7.1
 (callP (zfi c.points) (fun r9 h6=>
 (K r9 h6)) h5)
 (callP (zcx c.points) (fun r10 h7=>
 (ifP r10
 (callP (zcx c.circles) (fun r11 h8=>
 (K r11 h8)) h7)
 (K false h7))) h5)))
 (fun k8=>
 (ifP (c.kind==5)
 (k8 ((c.kind==5),()) h4)
 (ifP (c.kind==6)
 (k8 ((c.kind==6),()) h4)
 (ifP (c.kind==7)
 (k8 ((c.kind==7),()) h4)
 (k8 ((c.kind==8),()) h4)))))))
 (fun k6=>
 (ifP r1.1.side
 (ifP (c.side != 1)
 (ifP (c.side != (-1))
 (K false h3)
 (ifP (!r1.1.side)
 (ifP (c.side != 0)
 (K false h3)
 (k6 () h3))
 (k6 () h3)))
 (ifP (!r1.1.side)
 (ifP (c.side != 0)
 (K false h3)
 (k6 () h3))
 (k6 () h3)))
 (ifP (!r1.1.side)
 (ifP (c.side != 0)
 (K false h3)
 (k6 () h3))
 (k6 () h3))))))) h2))
 (fun k3=>
 (ifP (!r1.2)
 (K false h1)
 (callP (ze5 c.points r1.1.points points) (fun r12 h9=>
 (ifP (!r12)
 (K false h9)
 (callP (ze5 c.circles r1.1.circles circles) (fun r13 h10=>
 (ifP (!r13)
 (K false h10)
 (ifP ((c.values.len:Int) != r1.1.values)
 (K false h10)
 (k3 () h10)))) h9))) h1))))) h)
def zj9 (c:TConstraint) (v0:(Option Addr)) (v1:(Option Addr)) (K:Bool→Hp→Prop) (h:Hp):Prop:=
 (ptrK v0 fun p1=>
 (ldL (.int .i64) p1 (fun x2=>
 (ptrK v1 fun p3=>
 (ldL (.int .i64) p3 (fun x4=>
 (callP (zfh c x2 x4) (fun r5 h1=>
 (K r5 h1)) h)) h))) h))
def zca (x:TConstraint) (v0:(Option Addr)) (K:Bool→Hp→Prop) (h:Hp):Prop:=
 (ptrK v0 fun p1=>
 (ldL (.val) p1 (fun x2=>
 ∃c3:Option Addr,∃c4:Option Addr,(x2=.func (.func 130) #[] #[.pointer c3,.pointer c4] ∧
 (callP (zj9 x c3 c4) (fun r5 h1=>
 (K (!r5) h1)) h))) h))
def zai (s:Sl) (f1:(Option Addr×Unit)) (K:Int→Hp→Prop) (h:Hp):Prop:=
 (loopP (S:=Int×Unit) (fun s1 k2 h1=>
 (ifP (decide (s1.1<(s.len:Int)))
 (idxP s s1.1 5 fun a3=>
 (ldL (.int .i64) (a3.add 0) (fun x4_0=>
 (ldL (.sl) (a3.add 1) (fun x4_1=>
 (ldL (.sl) (a3.add 2) (fun x4_2=>
 (ldL (.sl) (a3.add 3) (fun x4_3=>
 (ldL (.int .i64) (a3.add 4) (fun x4_4=>
 (callP (zca (⟨x4_0,x4_1,x4_2,x4_3,x4_4⟩:TConstraint) f1.1) (fun r5 h2=>
 (ifP r5
 (K s1.1 h2)
 (k2 ((IntKind.i64.wrap (s1.1+1)),()) h2))) h1)) h1)) h1)) h1)) h1)) h1))
 (K (-1) h1)))
 (0,()) h)
def zag (s:Sl) (f1:(Option Addr×Unit)) (K:Bool→Hp→Prop) (h:Hp):Prop:=
 (callP (zai s (f1.1,())) (fun r1 h1=>
 (K (decide (r1≥0)) h1)) h)
def zbs (l:Sl) (f1:(Option Addr×Option Addr×Unit)) (K:Bool→Hp→Prop) (h:Hp):Prop:=
 (newP [.func (.func 130) #[] #[.pointer f1.1,.pointer f1.2.1]] (fun p1 h1=>
 (callP (zag l ((some p1),())) (fun r2 h2=>
 (K (!r2) h2)) h1)) h)
def zeh (s:TSketch) (K:Int→Hp→Prop) (h:Hp):Prop:=
 (newP [.slice s.points.a s.points.len s.points.cap,.slice s.circles.a s.circles.len s.circles.cap,.slice s.segments.a s.segments.len s.segments.cap,.slice s.arcs.a s.arcs.len s.arcs.cap,.slice s.chains.a s.chains.len s.chains.cap,.slice s.constraints.a s.constraints.len s.constraints.cap] (fun p1 h1=>
 (ldL (.sl) (p1.add 0) (fun x2_0=>
 (ldL (.sl) (p1.add 1) (fun x2_1=>
 (ldL (.sl) (p1.add 2) (fun x2_2=>
 (ldL (.sl) (p1.add 3) (fun x2_3=>
 (ldL (.sl) (p1.add 4) (fun x2_4=>
 (ldL (.sl) (p1.add 5) (fun x2_5=>
 (callP (zhc (⟨x2_0,x2_1,x2_2,x2_3,x2_4,x2_5⟩:TSketch)) (fun r3 h2=>
 (ifP r3
 (K 3 h2)
 (ldL (.sl) (p1.add 0) (fun x4=>
 (ldL (.sl) (p1.add 1) (fun x5=>
 (newP [.int .i64 (x4.len:Int)] (fun p6 h3=>
 (newP [.int .i64 (x5.len:Int)] (fun p7 h4=>
 (joinP (S:=Bool×Unit) (fun s8 h5=>
 (ifP (!s8.1)
 (K 1 h5)
 (K 0 h5)))
 (fun k9=>
 (ldL (.sl) (p1.add 0) (fun x10=>
 (callP (zc7 x10) (fun r11 h6=>
 (ifP r11
 (ldL (.sl) (p1.add 1) (fun x12=>
 (callP (zc8 x12 ((some p6),())) (fun r13 h7=>
 (ifP r13
 (ldL (.sl) (p1.add 2) (fun x14=>
 (callP (zbw x14 ((some p6),())) (fun r15 h8=>
 (ifP r15
 (ldL (.sl) (p1.add 3) (fun x16=>
 (callP (zcb x16 ((some p1),())) (fun r17 h9=>
 (ifP r17
 (ldL (.sl) (p1.add 4) (fun x18=>
 (callP (zc6 x18 ((some p1),())) (fun r19 h10=>
 (ifP r19
 (ldL (.sl) (p1.add 5) (fun x20=>
 (callP (zbs x20 ((some p6),(some p7),())) (fun r21 h11=>
 (k9 (r21,()) h11)) h10)) h10)
 (k9 (false,()) h10))) h9)) h9)
 (k9 (false,()) h9))) h8)) h8)
 (k9 (false,()) h8))) h7)) h7)
 (k9 (false,()) h7))) h6)) h6)
 (k9 (false,()) h6))) h4)) h4)))) h3)) h2)) h2)) h2))) h1)) h1)) h1)) h1)) h1)) h1)) h1)) h)
def zcr (s1:Sl) (s2:Sl) (K:Bool→Hp→Prop) (h:Hp):Prop:=
 (ifP ((s1.len:Int) != (s2.len:Int))
 (K false h)
 (loopP (S:=Int×Unit) (fun s3 k4 h1=>
 (ifP (decide (s3.1<(s1.len:Int)))
 (idxP s1 s3.1 1 fun a5=>
 (ldL (.int .i64) a5 (fun x6=>
 (idxP s2 s3.1 1 fun a7=>
 (ldL (.int .i64) a7 (fun x8=>
 (ifP (x6 != x8)
 (K false h1)
 (k4 ((IntKind.i64.wrap (s3.1+1)),()) h1))) h1))) h1))
 (K true h1)))
 (0,()) h))
def zfz (s1:Sl) (s2:Sl) (K:Bool→Hp→Prop) (h:Hp):Prop:=
 (ifP ((s1.len:Int) != (s2.len:Int))
 (K false h)
 (loopP (S:=Int×Unit) (fun s3 k4 h1=>
 (ifP (decide (s3.1<(s1.len:Int)))
 (idxP s1 s3.1 1 fun a5=>
 (ldL (.int .u32) a5 (fun x6=>
 (idxP s2 s3.1 1 fun a7=>
 (ldL (.int .u32) a7 (fun x8=>
 (ifP (x6 != x8)
 (K false h1)
 (k4 ((IntKind.i64.wrap (s3.1+1)),()) h1))) h1))) h1))
 (K true h1)))
 (0,()) h))
def zhu (a:TInt) (b:TInt) (K:Bool→Hp→Prop) (h:Hp):Prop:=
 (ifP (a.neg==b.neg)
 (callP (zfz a.mag b.mag) (fun r1 h1=>
 (K r1 h1)) h)
 (K false h))
def zne (Q_slices_EqualFunc_api_Expr_api_Expr_api_Expr_api_Expr_formula_Equal:Sl→Sl→(Bool→Hp→Prop)→Hp→Prop) (a:TExpr) (b:TExpr) (K:Bool→Hp→Prop) (h:Hp):Prop:=
 (ifP (a.op==b.op)
 (ifP ((a.name:ByteArray).toList==(b.name:ByteArray).toList)
 (callP (zhu a.value.num b.value.num) (fun r1 h1=>
 (ifP r1
 (callP (zhu a.value.den b.value.den) (fun r2 h2=>
 (ifP r2
 (callP (Q_slices_EqualFunc_api_Expr_api_Expr_api_Expr_api_Expr_formula_Equal a.args b.args) (fun r3 h3=>
 (K r3 h3)) h2)
 (K false h2))) h1)
 (K false h1))) h)
 (K false h))
 (K false h))
def za8:Nat→Sl→Sl→(Bool→Hp→Prop)→Hp→Prop
 | 0,_,_,_,_=>False
 | fuel+1,s1,s2,K,h=>
 (ifP ((s1.len:Int) != (s2.len:Int))
 (K false h)
 (loopP (S:=Int×Unit) (fun s3 k4 h1=>
 (ifP (decide (s3.1<(s1.len:Int)))
 (idxP s1 s3.1 7 fun a5=>
 (ldL (.int .i64) (a5.add 0) (fun x6_0=>
 (ldL (.bool) (a5.add 1) (fun x6_1=>
 (ldL (.sl) (a5.add 2) (fun x6_2=>
 (ldL (.bool) (a5.add 3) (fun x6_3=>
 (ldL (.sl) (a5.add 4) (fun x6_4=>
 (ldL (.str) (a5.add 5) (fun x6_5=>
 (ldL (.sl) (a5.add 6) (fun x6_6=>
 (idxP s2 s3.1 7 fun a7=>
 (ldL (.int .i64) (a7.add 0) (fun x8_0=>
 (ldL (.bool) (a7.add 1) (fun x8_1=>
 (ldL (.sl) (a7.add 2) (fun x8_2=>
 (ldL (.bool) (a7.add 3) (fun x8_3=>
 (ldL (.sl) (a7.add 4) (fun x8_4=>
 (ldL (.str) (a7.add 5) (fun x8_5=>
 (ldL (.sl) (a7.add 6) (fun x8_6=>
 (callP ((zne (za8 fuel)) (⟨x6_0,(⟨(⟨x6_1,x6_2⟩:TInt),(⟨x6_3,x6_4⟩:TInt)⟩:TRat),x6_5,x6_6⟩:TExpr) (⟨x8_0,(⟨(⟨x8_1,x8_2⟩:TInt),(⟨x8_3,x8_4⟩:TInt)⟩:TRat),x8_5,x8_6⟩:TExpr)) (fun r9 h2=>
 (ifP (!r9)
 (K false h2)
 (k4 ((IntKind.i64.wrap (s3.1+1)),()) h2))) h1)) h1)) h1)) h1)) h1)) h1)) h1)) h1))) h1)) h1)) h1)) h1)) h1)) h1)) h1))
 (K true h1)))
 (0,()) h))
def zb0 (s1:Sl) (s2:Sl) (K:Bool→Hp→Prop) (h:Hp):Prop:=∃fuel,za8 fuel s1 s2 K h
def zfg (a:TConstraint) (b:TConstraint) (K:Bool→Hp→Prop) (h:Hp):Prop:=
 (ifP (a.kind==b.kind)
 (ifP (a.side==b.side)
 (callP (zcr a.points b.points) (fun r1 h1=>
 (ifP r1
 (callP (zcr a.circles b.circles) (fun r2 h2=>
 (ifP r2
 (callP (zb0 a.values b.values) (fun r3 h3=>
 (K r3 h3)) h2)
 (K false h2))) h1)
 (K false h1))) h)
 (K false h))
 (K false h))
def zfp (d:TConstraint) (v0:(Option Addr)) (K:Bool→Hp→Prop) (h:Hp):Prop:=
 (ptrK v0 fun p1=>
 (ldL (.int .i64) (p1.add 0) (fun x2_0=>
 (ldL (.sl) (p1.add 1) (fun x2_1=>
 (ldL (.sl) (p1.add 2) (fun x2_2=>
 (ldL (.sl) (p1.add 3) (fun x2_3=>
 (ldL (.int .i64) (p1.add 4) (fun x2_4=>
 (callP (zfg (⟨x2_0,x2_1,x2_2,x2_3,x2_4⟩:TConstraint) d) (fun r3 h1=>
 (K r3 h1)) h)) h)) h)) h)) h)) h))
def zb5 (s:Sl) (f1:(Option Addr×Unit)) (K:Int→Hp→Prop) (h:Hp):Prop:=
 (loopP (S:=Int×Unit) (fun s1 k2 h1=>
 (ifP (decide (s1.1<(s.len:Int)))
 (idxP s s1.1 5 fun a3=>
 (ldL (.int .i64) (a3.add 0) (fun x4_0=>
 (ldL (.sl) (a3.add 1) (fun x4_1=>
 (ldL (.sl) (a3.add 2) (fun x4_2=>
 (ldL (.sl) (a3.add 3) (fun x4_3=>
 (ldL (.int .i64) (a3.add 4) (fun x4_4=>
 (callP (zfp (⟨x4_0,x4_1,x4_2,x4_3,x4_4⟩:TConstraint) f1.1) (fun r5 h2=>
 (ifP r5
 (K s1.1 h2)
 (k2 ((IntKind.i64.wrap (s1.1+1)),()) h2))) h1)) h1)) h1)) h1)) h1)) h1))
 (K (-1) h1)))
 (0,()) h)
def za9 (s:Sl) (f1:(Option Addr×Unit)) (K:Bool→Hp→Prop) (h:Hp):Prop:=
 (callP (zb5 s (f1.1,())) (fun r1 h1=>
 (K (decide (r1≥0)) h1)) h)
def zfa (s:TSketch) (K:Sl→Hp→Prop) (h:Hp):Prop:=
 (loopP (S:=Sl×Int×Unit) (fun s1 k2 h1=>
 (ifP (decide (s1.2.1<(s.arcs.len:Int)))
 (idxP s.arcs s1.2.1 4 fun a3=>
 (ldL (.int .i64) (a3.add 0) (fun x4_0=>
 (ldL (.int .i64) (a3.add 1) (fun x4_1=>
 (ldL (.int .i64) (a3.add 2) (fun x4_2=>
 (ldL (.bool) (a3.add 3) (fun x4_3=>
 (newP [.int .i64 x4_1,.int .i64 x4_2] (fun p5 h2=>
 (loopP (S:=Sl×Int×Unit) (fun s6 k7 h3=>
 (ifP (decide (s6.2.1<((⟨some p5,2,2⟩:Sl).len:Int)))
 (joinP (S:=Sl×Unit) (fun s8 h4=>
 (k7 (s8.1,(IntKind.i64.wrap (s6.2.1+1)),()) h4))
 (fun k9=>
 (idxP (⟨some p5,2,2⟩:Sl) s6.2.1 1 fun a10=>
 (ldL (.int .i64) a10 (fun x11=>
 (newP [.int .i64 x11] (fun p12 h5=>
 (newP [.int .i64 x4_0] (fun p13 h6=>
 (newP [.int .i64 0,.slice nilS.a nilS.len nilS.cap,.slice nilS.a nilS.len nilS.cap,.slice nilS.a nilS.len nilS.cap,.int .i64 0] (fun p14 h7=>
 (stP p14 [.int .i64 13,.slice (⟨some p12,1,1⟩:Sl).a (⟨some p12,1,1⟩:Sl).len (⟨some p12,1,1⟩:Sl).cap,.slice (⟨some p13,1,1⟩:Sl).a (⟨some p13,1,1⟩:Sl).len (⟨some p13,1,1⟩:Sl).cap,.slice nilS.a nilS.len nilS.cap,.int .i64 0] (fun h8=>
 (callP (za9 s.constraints ((some p14),())) (fun r15 h9=>
 (ifP (!r15)
 (callP (za9 s6.1 ((some p14),())) (fun r16 h10=>
 (ifP (!r16)
 (ldL (.int .i64) (p14.add 0) (fun x17_0=>
 (ldL (.sl) (p14.add 1) (fun x17_1=>
 (ldL (.sl) (p14.add 2) (fun x17_2=>
 (ldL (.sl) (p14.add 3) (fun x17_3=>
 (ldL (.int .i64) (p14.add 4) (fun x17_4=>
 (appP 5 88 [.int .i64 0,.slice nilS.a nilS.len nilS.cap,.slice nilS.a nilS.len nilS.cap,.slice nilS.a nilS.len nilS.cap,.int .i64 0] s6.1 1 [.int .i64 x17_0,.slice x17_1.a x17_1.len x17_1.cap,.slice x17_2.a x17_2.len x17_2.cap,.slice x17_3.a x17_3.len x17_3.cap,.int .i64 x17_4] (fun w18 h11=>
 (k9 (w18,()) h11)) h10)) h10)) h10)) h10)) h10)) h10)
 (k9 (s6.1,()) h10))) h9)
 (k9 (s6.1,()) h9))) h8)) h7)) h6)) h5)) h3)) h3))))
 (k2 (s6.1,(IntKind.i64.wrap (s1.2.1+1)),()) h3)))
 (s1.1,0,()) h2)) h1)) h1)) h1)) h1)) h1))
 (K s1.1 h1)))
 (nilS,0,()) h)
def zbo (s:Sl) (n:Int) (K:Sl→Hp→Prop) (h:Hp):Prop:=
 (joinP (S:=Unit) (fun s1 h1=>
 (ifP (decide ((IntKind.i64.wrap (n-(IntKind.i64.wrap ((s.cap:Int)-(s.len:Int)))))>0))
 (slP s 0 (s.cap:Int) 5 fun c3=>
 (0≤((IntKind.i64.wrap (n-(IntKind.i64.wrap ((s.cap:Int)-(s.len:Int))))):Int) ∧
 (appP 5 88 [.int .i64 0,.slice nilS.a nilS.len nilS.cap,.slice nilS.a nilS.len nilS.cap,.slice nilS.a nilS.len nilS.cap,.int .i64 0] c3 (((IntKind.i64.wrap (n-(IntKind.i64.wrap ((s.cap:Int)-(s.len:Int))))):Int).toNat) (repl ((IntKind.i64.wrap (n-(IntKind.i64.wrap ((s.cap:Int)-(s.len:Int))))):Int).toNat [.int .i64 0,.slice nilS.a nilS.len nilS.cap,.slice nilS.a nilS.len nilS.cap,.slice nilS.a nilS.len nilS.cap,.int .i64 0]) (fun w4 h2=>
 (slP w4 0 (s.len:Int) 5 fun c5=>
 (K c5 h2))) h1)))
 (K s h1)))
 (fun k2=>
 (ifP (decide (n<0))
 False
 (k2 () h))))
def zb4 (slices:Sl) (K:Sl→Hp→Prop) (h:Hp):Prop:=
 (loopP (S:=Int×Int×Unit) (fun s1 k2 h1=>
 (ifP (decide (s1.2.1<(slices.len:Int)))
 (joinP (S:=Int×Unit) (fun s3 h2=>
 (k2 (s3.1,(IntKind.i64.wrap (s1.2.1+1)),()) h2))
 (fun k4=>
 (idxP slices s1.2.1 1 fun a5=>
 (ldL (.sl) a5 (fun x6=>
 (ifP (decide ((IntKind.i64.wrap (s1.1+(x6.len:Int)))<0))
 False
 (k4 ((IntKind.i64.wrap (s1.1+(x6.len:Int))),()) h1))) h1))))
 (callP (zbo nilS s1.1) (fun r7 h3=>
 (loopP (S:=Sl×Int×Unit) (fun s8 k9 h4=>
 (ifP (decide (s8.2.1<(slices.len:Int)))
 (idxP slices s8.2.1 1 fun a10=>
 (ldL (.sl) a10 (fun x11=>
 (rdO x11.a (x11.len*5) (fun vs12=>
 (appP 5 88 [.int .i64 0,.slice nilS.a nilS.len nilS.cap,.slice nilS.a nilS.len nilS.cap,.slice nilS.a nilS.len nilS.cap,.int .i64 0] s8.1 x11.len vs12 (fun w13 h5=>
 (k9 (w13,(IntKind.i64.wrap (s8.2.1+1)),()) h5)) h4)) h4)) h4))
 (K s8.1 h4)))
 (r7,0,()) h3)) h1)))
 (0,0,()) h)
def zcq (s:Sl) (K:Sl→Hp→Prop) (h:Hp):Prop:=
 (ifP s.a.isNone
 (K nilS h)
 (newP [] (fun p1 h1=>
 (rdO s.a (s.len*1) (fun vs2=>
 (appP 1 8 [.int .i64 0] (⟨some p1,0,0⟩:Sl) s.len vs2 (fun w3 h2=>
 (K w3 h2)) h1)) h1)) h))
def ze6 (s:TSketch) (K:(Option Addr)→Hp→Prop) (h:Hp):Prop:=
 (callP (zfa s) (fun r1 h1=>
 (newP [.slice s.constraints.a s.constraints.len s.constraints.cap,.slice r1.a r1.len r1.cap] (fun p2 h2=>
 (callP (zb4 (⟨some p2,2,2⟩:Sl)) (fun r3 h3=>
 (newP [.slice s.points.a s.points.len s.points.cap,.slice s.circles.a s.circles.len s.circles.cap,.slice s.segments.a s.segments.len s.segments.cap,.slice s.arcs.a s.arcs.len s.arcs.cap,.slice s.chains.a s.chains.len s.chains.cap,.slice s.constraints.a s.constraints.len s.constraints.cap,.slice r3.a r3.len r3.cap,.slice nilS.a nilS.len nilS.cap,.slice nilS.a nilS.len nilS.cap] (fun p4 h4=>
 (loopP (S:=Int×Unit) (fun s5 k6 h5=>
 (ifP (decide (s5.1<(s.circles.len:Int)))
 (idxP s.circles s5.1 5 fun a7=>
 (ldL (.int .i64) (a7.add 0) (fun x8_0=>
 (ldL (.bool) (a7.add 1) (fun x8_1=>
 (ldL (.sl) (a7.add 2) (fun x8_2=>
 (ldL (.bool) (a7.add 3) (fun x8_3=>
 (ldL (.sl) (a7.add 4) (fun x8_4=>
 (ldL (.sl) (p4.add 8) (fun x9=>
 (appP 1 8 [.int .i64 0] x9 1 [.int .i64 x8_0] (fun w10 h6=>
 (stP (p4.add 8) [.slice w10.a w10.len w10.cap] (fun h7=>
 (k6 ((IntKind.i64.wrap (s5.1+1)),()) h7)) h6)) h5)) h5)) h5)) h5)) h5)) h5)) h5))
 (ldL (.sl) (p4.add 6) (fun x11=>
 (loopP (S:=Int×Unit) (fun s12 k13 h8=>
 (ifP (decide (s12.1<(x11.len:Int)))
 (idxP x11 s12.1 5 fun a14=>
 (ldL (.int .i64) (a14.add 0) (fun x15_0=>
 (ldL (.sl) (a14.add 1) (fun x15_1=>
 (ldL (.sl) (a14.add 2) (fun x15_2=>
 (ldL (.sl) (a14.add 3) (fun x15_3=>
 (ldL (.int .i64) (a14.add 4) (fun x15_4=>
 (callP (zcq x15_1) (fun r16 h9=>
 (loopP (S:=Sl×Int×Unit) (fun s17 k18 h10=>
 (ifP (decide (s17.2.1<(x15_2.len:Int)))
 (joinP (S:=Sl×Unit) (fun s19 h11=>
 (k18 (s19.1,(IntKind.i64.wrap (s17.2.1+1)),()) h11))
 (fun k20=>
 (idxP x15_2 s17.2.1 1 fun a21=>
 (ldL (.int .i64) a21 (fun x22=>
 (appP 1 8 [.int .i64 0] s17.1 1 [.int .i64 (IntKind.i64.wrap ((-1)-x22))] (fun w23 h12=>
 (ifP (x15_0==13)
 (ldL (.sl) (p4.add 8) (fun x24=>
 (idxP x24 x22 1 fun a25=>
 (ldL (.int .i64) a25 (fun x26=>
 (appP 1 8 [.int .i64 0] w23 1 [.int .i64 x26] (fun w27 h13=>
 (k20 (w27,()) h13)) h12)) h12))) h12)
 (ifP (x15_0==16)
 (ldL (.sl) (p4.add 8) (fun x28=>
 (idxP x28 x22 1 fun a29=>
 (ldL (.int .i64) a29 (fun x30=>
 (appP 1 8 [.int .i64 0] w23 1 [.int .i64 x30] (fun w31 h14=>
 (k20 (w31,()) h14)) h12)) h12))) h12)
 (ifP (x15_0==17)
 (ldL (.sl) (p4.add 8) (fun x32=>
 (idxP x32 x22 1 fun a33=>
 (ldL (.int .i64) a33 (fun x34=>
 (appP 1 8 [.int .i64 0] w23 1 [.int .i64 x34] (fun w35 h15=>
 (k20 (w35,()) h15)) h12)) h12))) h12)
 (k20 (w23,()) h12))))) h10)) h10))))
 (ldL (.sl) (p4.add 7) (fun x36=>
 (appP 1 24 [.slice nilS.a nilS.len nilS.cap] x36 1 [.slice s17.1.a s17.1.len s17.1.cap] (fun w37 h16=>
 (stP (p4.add 7) [.slice w37.a w37.len w37.cap] (fun h17=>
 (k13 ((IntKind.i64.wrap (s12.1+1)),()) h17)) h16)) h10)) h10)))
 (r16,0,()) h9)) h8)) h8)) h8)) h8)) h8)) h8))
 (K (some p4) h8)))
 (0,()) h5)) h5)))
 (0,()) h4)) h3)) h2)) h1)) h)
def y_henneberg_peeler_all (p:(Option Addr)) (K:Sl→Hp→Prop) (h:Hp):Prop:=
 (ptrK p fun p1=>
 (ldL (.sl) ((p1.add 0).add 0) (fun x2=>
 (loopP (S:=Sl×Int×Unit) (fun s3 k4 h1=>
 (ifP (decide (s3.2.1<(x2.len:Int)))
 (appP 1 8 [.int .i64 0] s3.1 1 [.int .i64 s3.2.1] (fun w5 h2=>
 (k4 (w5,(IntKind.i64.wrap (s3.2.1+1)),()) h2)) h1)
 (ptrK p fun p6=>
 (ldL (.sl) ((p6.add 0).add 1) (fun x7=>
 (loopP (S:=Sl×Int×Unit) (fun s8 k9 h3=>
 (ifP (decide (s8.2.1<(x7.len:Int)))
 (appP 1 8 [.int .i64 0] s8.1 1 [.int .i64 (IntKind.i64.wrap ((-1)-s8.2.1))] (fun w10 h4=>
 (k9 (w10,(IntKind.i64.wrap (s8.2.1+1)),()) h4)) h3)
 (K s8.1 h3)))
 (s3.1,0,()) h1)) h1))))
 (nilS,0,()) h)) h))
def y_henneberg_peeler_remaining_1 (x:Int) (v0:(Option Addr)) (K:Bool→Hp→Prop) (h:Hp):Prop:=
 (ptrK v0 fun p1=>
 (ldL (.sl) p1 (fun x2=>
 (callP (zbc x2 x) (fun r3 h1=>
 (K r3 h1)) h)) h))
def zbj (s:Sl) (f1:(Option Addr×Unit)) (K:Int→Hp→Prop) (h:Hp):Prop:=
 (loopP (S:=Int×Unit) (fun s1 k2 h1=>
 (ifP (decide (s1.1<(s.len:Int)))
 (idxP s s1.1 1 fun a3=>
 (ldL (.int .i64) a3 (fun x4=>
 (callP (y_henneberg_peeler_remaining_1 x4 f1.1) (fun r5 h2=>
 (ifP r5
 (K s1.1 h2)
 (k2 ((IntKind.i64.wrap (s1.1+1)),()) h2))) h1)) h1))
 (K (-1) h1)))
 (0,()) h)
def zbd (s:Sl) (f1:(Option Addr×Unit)) (K:Bool→Hp→Prop) (h:Hp):Prop:=
 (callP (zbj s (f1.1,())) (fun r1 h1=>
 (K (decide (r1≥0)) h1)) h)
def y_henneberg_peeler_remaining (p:(Option Addr)) (item:Int) (removed:Sl) (K:Sl→Hp→Prop) (h:Hp):Prop:=
 (newP [.slice removed.a removed.len removed.cap] (fun p1 h1=>
 (ptrK p fun p2=>
 (ldL (.sl) (p2.add 7) (fun x3=>
 (loopP (S:=Sl×Int×Unit) (fun s4 k5 h2=>
 (ifP (decide (s4.2.1<(x3.len:Int)))
 (joinP (S:=Sl×Unit) (fun s6 h3=>
 (k5 (s6.1,(IntKind.i64.wrap (s4.2.1+1)),()) h3))
 (fun k7=>
 (idxP x3 s4.2.1 1 fun a8=>
 (ldL (.sl) a8 (fun x9=>
 (callP (zbc x9 item) (fun r10 h4=>
 (ifP r10
 (callP (zbd x9 ((some p1),())) (fun r11 h5=>
 (ifP (!r11)
 (appP 1 8 [.int .i64 0] s4.1 1 [.int .i64 s4.2.1] (fun w12 h6=>
 (k7 (w12,()) h6)) h5)
 (k7 (s4.1,()) h5))) h4)
 (k7 (s4.1,()) h4))) h2)) h2))))
 (K s4.1 h2)))
 (nilS,0,()) h1)) h1))) h)
def y_henneberg_peeler_equations (p:(Option Addr)) (i:Int) (K:Int→Hp→Prop) (h:Hp):Prop:=
 (ptrK p fun p1=>
 (ldL (.sl) (p1.add 6) (fun x2=>
 (idxP x2 i 5 fun a3=>
 (ldL (.int .i64) (a3.add 0) (fun x4=>
 (callP (zds x4) (fun r5 h1=>
 (K r5.1.equations h1)) h)) h))) h))
def y_henneberg_peeler_weight (p:(Option Addr)) (l:Sl) (K:Int→Hp→Prop) (h:Hp):Prop:=
 (loopP (S:=Int×Int×Unit) (fun s1 k2 h1=>
 (ifP (decide (s1.2.1<(l.len:Int)))
 (idxP l s1.2.1 1 fun a3=>
 (ldL (.int .i64) a3 (fun x4=>
 (callP (y_henneberg_peeler_equations p x4) (fun r5 h2=>
 (k2 ((IntKind.i64.wrap (s1.1+r5)),(IntKind.i64.wrap (s1.2.1+1)),()) h2)) h1)) h1))
 (K s1.1 h1)))
 (0,0,()) h)
def zhf (c:TConstraint) (centers:Sl) (circle:Int) (K:Bool→Hp→Prop) (h:Hp):Prop:=
 (callP (zd5 c.circles circle) (fun r1 h1=>
 (ifP (decide (r1<0))
 (K false h1)
 (joinP (S:=Bool×Unit) (fun s2 h2=>
 (ifP s2.1
 (K true h2)
 (joinP (S:=Bool×Unit) (fun s4 h3=>
 (ifP s4.1
 (idxP centers circle 1 fun a6=>
 (ldL (.int .i64) a6 (fun x7=>
 (callP (zbc c.points x7) (fun r8 h4=>
 (K (!r8) h4)) h3)) h3))
 (ifP (c.kind==17)
 (ifP (c.side==1)
 (idxP c.circles 0 1 fun a9=>
 (ldL (.int .i64) a9 (fun x10=>
 (idxP centers x10 1 fun a11=>
 (ldL (.int .i64) a11 (fun x12=>
 (idxP c.circles 1 1 fun a13=>
 (ldL (.int .i64) a13 (fun x14=>
 (idxP centers x14 1 fun a15=>
 (ldL (.int .i64) a15 (fun x16=>
 (K (x12 != x16) h3)) h3))) h3))) h3))) h3))
 (K false h3))
 (K false h3))))
 (fun k5=>
 (ifP (c.kind==13)
 (k5 ((c.kind==13),()) h2)
 (k5 ((c.kind==16),()) h2))))))
 (fun k3=>
 (ifP (c.kind==14)
 (k3 ((c.kind==14),()) h1)
 (k3 ((c.kind==15),()) h1)))))) h)
def y_henneberg_peeler_removable_1 (i:Int) (v0:(Option Addr)) (v1:(Option Addr)) (K:Bool→Hp→Prop) (h:Hp):Prop:=
 (ptrK v0 fun p1=>
 (ldL (.ptr) p1 (fun x2=>
 (ptrK x2 fun p3=>
 (ldL (.sl) (p3.add 6) (fun x4=>
 (idxP x4 i 5 fun a5=>
 (ldL (.int .i64) (a5.add 0) (fun x6_0=>
 (ldL (.sl) (a5.add 1) (fun x6_1=>
 (ldL (.sl) (a5.add 2) (fun x6_2=>
 (ldL (.sl) (a5.add 3) (fun x6_3=>
 (ldL (.int .i64) (a5.add 4) (fun x6_4=>
 (ptrK v0 fun p7=>
 (ldL (.ptr) p7 (fun x8=>
 (ptrK x8 fun p9=>
 (ldL (.sl) (p9.add 8) (fun x10=>
 (ptrK v1 fun p11=>
 (ldL (.int .i64) p11 (fun x12=>
 (callP (zhf (⟨x6_0,x6_1,x6_2,x6_3,x6_4⟩:TConstraint) x10 (IntKind.i64.wrap ((-1)-x12))) (fun r13 h1=>
 (K (!r13) h1)) h)) h))) h))) h))) h)) h)) h)) h)) h))) h))) h))
def zbk (s:Sl) (f1:(Option Addr×Option Addr×Unit)) (K:Int→Hp→Prop) (h:Hp):Prop:=
 (loopP (S:=Int×Unit) (fun s1 k2 h1=>
 (ifP (decide (s1.1<(s.len:Int)))
 (idxP s s1.1 1 fun a3=>
 (ldL (.int .i64) a3 (fun x4=>
 (callP (y_henneberg_peeler_removable_1 x4 f1.1 f1.2.1) (fun r5 h2=>
 (ifP r5
 (K s1.1 h2)
 (k2 ((IntKind.i64.wrap (s1.1+1)),()) h2))) h1)) h1))
 (K (-1) h1)))
 (0,()) h)
def zbe (s:Sl) (f1:(Option Addr×Option Addr×Unit)) (K:Bool→Hp→Prop) (h:Hp):Prop:=
 (callP (zbk s (f1.1,f1.2.1,())) (fun r1 h1=>
 (K (decide (r1≥0)) h1)) h)
def zia (c:TConstraint) (target:Int) (K:Sl→Hp→Prop) (h:Hp):Prop:=
 (loopP (S:=Sl×Int×Unit) (fun s1 k2 h1=>
 (ifP (decide (s1.2.1<(c.points.len:Int)))
 (joinP (S:=Sl×Unit) (fun s3 h2=>
 (k2 (s3.1,(IntKind.i64.wrap (s1.2.1+1)),()) h2))
 (fun k4=>
 (idxP c.points s1.2.1 1 fun a5=>
 (ldL (.int .i64) a5 (fun x6=>
 (ifP (x6==target)
 (appP 1 8 [.int .i64 0] s1.1 1 [.int .i64 s1.2.1] (fun w7 h3=>
 (k4 (w7,()) h3)) h1)
 (k4 (s1.1,()) h1))) h1))))
 (K s1.1 h1)))
 (nilS,0,()) h)
def zee (i:Int) (v0:(Option Addr)) (v1:(Option Addr)) (v2:(Option Addr)) (K:Bool→Hp→Prop) (h:Hp):Prop:=
 (ptrK v0 fun p1=>
 (ldL (.sl) p1 (fun x2=>
 (ptrK v1 fun p3=>
 (ldL (.sl) (p3.add 2) (fun x4=>
 (idxP x4 i 1 fun a5=>
 (ldL (.int .i64) a5 (fun x6=>
 (idxP x2 x6 1 fun a7=>
 (ldL (.int .i64) a7 (fun x8=>
 (ptrK v2 fun p9=>
 (ldL (.int .i64) p9 (fun x10=>
 (K (x8==x10) h)) h))) h))) h))) h))) h))
def zi9 (c:TConstraint) (centers:Sl) (target:Int) (K:Int→Hp→Prop) (h:Hp):Prop:=
 (newP [.int .i64 c.kind,.slice c.points.a c.points.len c.points.cap,.slice c.circles.a c.circles.len c.circles.cap,.slice c.values.a c.values.len c.values.cap,.int .i64 c.side] (fun p1 h1=>
 (newP [.slice centers.a centers.len centers.cap] (fun p2 h2=>
 (newP [.int .i64 target] (fun p3 h3=>
 (ldL (.int .i64) (p1.add 0) (fun x4_0=>
 (ldL (.sl) (p1.add 1) (fun x4_1=>
 (ldL (.sl) (p1.add 2) (fun x4_2=>
 (ldL (.sl) (p1.add 3) (fun x4_3=>
 (ldL (.int .i64) (p1.add 4) (fun x4_4=>
 (ldL (.int .i64) p3 (fun x5=>
 (callP (zia (⟨x4_0,x4_1,x4_2,x4_3,x4_4⟩:TConstraint) x5) (fun r6 h4=>
 (ldL (.int .i64) (p1.add 0) (fun x7=>
 (ifP (x7==13)
 (callP (zee 0 (some p2) (some p1) (some p3)) (fun r8 h5=>
 (ifP (!((decide ((r6.len:Int)>0))==r8))
 (K 2 h5)
 (K 0 h5))) h4)
 (ifP (x7==16)
 (callP (zee 0 (some p2) (some p1) (some p3)) (fun r9 h6=>
 (ifP r9
 (ifP ((r6.len:Int)==0)
 (K 1 h6)
 (K 0 h6))
 (K 0 h6))) h4)
 (ifP (x7==17)
 (callP (zee 0 (some p2) (some p1) (some p3)) (fun r10 h7=>
 (callP (zee 1 (some p2) (some p1) (some p3)) (fun r11 h8=>
 (ifP (!(r10==r11))
 (K 2 h8)
 (K 0 h8))) h7)) h4)
 (ifP ((r6.len:Int)==0)
 (K 0 h4)
 (ldL (.int .i64) (p1.add 0) (fun x12=>
 (joinP (S:=Bool×Unit) (fun s13 h9=>
 (ifP s13.1
 (K 3 h9)
 (ifP (x12==2)
 (K 2 h9)
 (joinP (S:=Bool×Unit) (fun s15 h10=>
 (ifP s15.1
 (K 1 h10)
 (ifP (x12==4)
 (idxP r6 0 1 fun a17=>
 (ldL (.int .i64) a17 (fun x18=>
 (ifP (x18==0)
 (K 1 h10)
 (K 0 h10))) h10))
 (ifP (x12==10)
 (idxP r6 0 1 fun a19=>
 (ldL (.int .i64) a19 (fun x20=>
 (ifP (decide (x20<2))
 (K 3 h10)
 (K 0 h10))) h10))
 (joinP (S:=Bool×Unit) (fun s21 h11=>
 (ifP s21.1
 (ifP ((r6.len:Int)==2)
 (K 2 h11)
 (K 1 h11))
 (ifP (x12==8)
 (ifP ((r6.len:Int)==2)
 (K 1 h11)
 (K 2 h11))
 (K 0 h11))))
 (fun k22=>
 (ifP (x12==5)
 (k22 ((x12==5),()) h10)
 (k22 ((x12==7),()) h10))))))))
 (fun k16=>
 (ifP (x12==3)
 (k16 ((x12==3),()) h9)
 (ifP (x12==6)
 (k16 ((x12==6),()) h9)
 (ifP (x12==11)
 (k16 ((x12==11),()) h9)
 (k16 ((x12==12),()) h9)))))))))
 (fun k14=>
 (ifP (x12==1)
 (k14 ((x12==1),()) h4)
 (k14 ((x12==9),()) h4))))) h4)))))) h4)) h3)) h3)) h3)) h3)) h3)) h3)) h3)) h2)) h1)) h)
def y_henneberg_peeler_kind (p:(Option Addr)) (i:Int) (point:Int) (K:Int→Hp→Prop) (h:Hp):Prop:=
 (ptrK p fun p1=>
 (ldL (.sl) (p1.add 6) (fun x2=>
 (idxP x2 i 5 fun a3=>
 (ldL (.int .i64) (a3.add 0) (fun x4_0=>
 (ldL (.sl) (a3.add 1) (fun x4_1=>
 (ldL (.sl) (a3.add 2) (fun x4_2=>
 (ldL (.sl) (a3.add 3) (fun x4_3=>
 (ldL (.int .i64) (a3.add 4) (fun x4_4=>
 (ptrK p fun p5=>
 (ldL (.sl) (p5.add 8) (fun x6=>
 (callP (zi9 (⟨x4_0,x4_1,x4_2,x4_3,x4_4⟩:TConstraint) x6 point) (fun r7 h1=>
 (K r7 h1)) h)) h))) h)) h)) h)) h)) h))) h))
def y_henneberg_peeler_removable (p:(Option Addr)) (item:Int) (removed:Sl) (K:Bool→Hp→Prop) (h:Hp):Prop:=
 (newP [.pointer p] (fun p1 h1=>
 (newP [.int .i64 item] (fun p2 h2=>
 (ldL (.int .i64) p2 (fun x3=>
 (callP (zbc removed x3) (fun r4 h3=>
 (ifP r4
 (K false h3)
 (ldL (.ptr) p1 (fun x5=>
 (ldL (.int .i64) p2 (fun x6=>
 (callP (y_henneberg_peeler_remaining x5 x6 removed) (fun r7 h4=>
 (ldL (.int .i64) p2 (fun x8=>
 (ifP (decide (x8<0))
 (ldL (.ptr) p1 (fun x9=>
 (callP (y_henneberg_peeler_weight x9 r7) (fun r10 h5=>
 (ifP (decide (r10≤1))
 (callP (zbe r7 ((some p1),(some p2),())) (fun r11 h6=>
 (K (!r11) h6)) h5)
 (K false h5))) h4)) h4)
 (ldL (.ptr) p1 (fun x12=>
 (callP (y_henneberg_peeler_weight x12 r7) (fun r13 h7=>
 (ifP (decide (r13>2))
 (K false h7)
 (loopP (S:=Int×Unit) (fun s14 k15 h8=>
 (ifP (decide (s14.1<(r7.len:Int)))
 (idxP r7 s14.1 1 fun a16=>
 (ldL (.int .i64) a16 (fun x17=>
 (ldL (.ptr) p1 (fun x18=>
 (ldL (.int .i64) p2 (fun x19=>
 (callP (y_henneberg_peeler_kind x18 x17 x19) (fun r20 h9=>
 (joinP (S:=Bool×Unit) (fun s21 h10=>
 (joinP (S:=Bool×Unit) (fun s23 h11=>
 (ifP (!s23.1)
 (K false h11)
 (k15 ((IntKind.i64.wrap (s14.1+1)),()) h11)))
 (fun k24=>
 (ldL (.ptr) p1 (fun x25=>
 (callP (y_henneberg_peeler_equations x25 x17) (fun r26 h12=>
 (ifP (r26==2)
 (k24 ((r20==3),()) h12)
 (k24 (s21.1,()) h12))) h10)) h10))))
 (fun k22=>
 (ifP (r20==1)
 (k22 (true,()) h9)
 (k22 ((r20==2),()) h9))))) h8)) h8)) h8)) h8))
 (K true h8)))
 (0,()) h7))) h4)) h4))) h4)) h3)) h3)) h3))) h2)) h2)) h1)) h)
def y_henneberg_peeler_peel_1 (item:Int) (v0:(Option Addr)) (v1:(Option Addr)) (K:Bool→Hp→Prop) (h:Hp):Prop:=
 (ptrK v0 fun p1=>
 (ldL (.ptr) p1 (fun x2=>
 (ptrK v1 fun p3=>
 (ldL (.sl) p3 (fun x4=>
 (callP (y_henneberg_peeler_removable x2 item x4) (fun r5 h1=>
 (K r5 h1)) h)) h))) h))
def zb8 (s:Sl) (f1:(Option Addr×Option Addr×Unit)) (K:Int→Hp→Prop) (h:Hp):Prop:=
 (loopP (S:=Int×Unit) (fun s1 k2 h1=>
 (ifP (decide (s1.1<(s.len:Int)))
 (idxP s s1.1 1 fun a3=>
 (ldL (.int .i64) a3 (fun x4=>
 (callP (y_henneberg_peeler_peel_1 x4 f1.1 f1.2.1) (fun r5 h2=>
 (ifP r5
 (K s1.1 h2)
 (k2 ((IntKind.i64.wrap (s1.1+1)),()) h2))) h1)) h1))
 (K (-1) h1)))
 (0,()) h)
def y_henneberg_peeler_peel_2 (item:Int) (v0:(Option Addr)) (K:Bool→Hp→Prop) (h:Hp):Prop:=
 (ptrK v0 fun p1=>
 (ldL (.sl) p1 (fun x2=>
 (callP (zbc x2 item) (fun r3 h1=>
 (K r3 h1)) h)) h))
def zbt (s:Sl) (f1:(Option Addr×Unit)) (K:Int→Hp→Prop) (h:Hp):Prop:=
 (loopP (S:=Int×Unit) (fun s1 k2 h1=>
 (ifP (decide (s1.1<(s.len:Int)))
 (idxP s s1.1 1 fun a3=>
 (ldL (.int .i64) a3 (fun x4=>
 (callP (y_henneberg_peeler_peel_2 x4 f1.1) (fun r5 h2=>
 (ifP r5
 (K s1.1 h2)
 (k2 ((IntKind.i64.wrap (s1.1+1)),()) h2))) h1)) h1))
 (K (-1) h1)))
 (0,()) h)
def zb6 (s:Sl) (f1:(Option Addr×Unit)) (K:Sl→Hp→Prop) (h:Hp):Prop:=
 (callP (zbt s (f1.1,())) (fun r1 h1=>
 (ifP (r1==(-1))
 (K s h1)
 (loopP (S:=Int×Int×Unit) (fun s2 k3 h2=>
 (ifP (decide (s2.2.1<(s.len:Int)))
 (joinP (S:=Int×Unit) (fun s4 h3=>
 (k3 (s4.1,(IntKind.i64.wrap (s2.2.1+1)),()) h3))
 (fun k5=>
 (idxP s s2.2.1 1 fun a6=>
 (ldL (.int .i64) a6 (fun x7=>
 (callP (y_henneberg_peeler_peel_2 x7 f1.1) (fun r8 h4=>
 (ifP (!r8)
 (idxP s s2.1 1 fun a9=>
 (stP a9 [.int .i64 x7] (fun h5=>
 (k5 ((IntKind.i64.wrap (s2.1+1)),()) h5)) h4))
 (k5 (s2.1,()) h4))) h2)) h2))))
 (slP s s2.1 (s.len:Int) 1 fun c10=>
 (clrP c10 [.int .i64 0] (fun h6=>
 (slP s 0 s2.1 1 fun c11=>
 (K c11 h6))) h2))))
 (r1,(IntKind.i64.wrap (r1+1)),()) h1))) h)
def y_henneberg_peeler_peel (p:(Option Addr)) (K:(Sl×Sl)→Hp→Prop) (h:Hp):Prop:=
 (newP [.pointer p] (fun p1 h1=>
 (newP [.slice nilS.a nilS.len nilS.cap] (fun p2 h2=>
 (loopP (S:=(Option Addr)×Unit) (fun s3 k4 h3=>
 (ldL (.ptr) p1 (fun x5=>
 (callP (y_henneberg_peeler_all x5) (fun r6 h4=>
 (callP (zb8 r6 ((some p1),s3.1,())) (fun r7 h5=>
 (ifP (decide (r7<0))
 (ldL (.ptr) p1 (fun x8=>
 (callP (y_henneberg_peeler_all x8) (fun r9 h6=>
 (callM (zb6 r9 (s3.1,())) (fun r10 h7=>
 (ptrK s3.1 fun p11=>
 (ldL (.sl) p11 (fun x12=>
 (K (x12,r10) h7)) h7))) h6)) h5)) h5)
 (ptrK s3.1 fun p13=>
 (ldL (.sl) p13 (fun x14=>
 (ldL (.ptr) p1 (fun x15=>
 (callP (y_henneberg_peeler_all x15) (fun r16 h8=>
 (idxP r16 r7 1 fun a17=>
 (ldL (.int .i64) a17 (fun x18=>
 (appP 1 8 [.int .i64 0] x14 1 [.int .i64 x18] (fun w19 h9=>
 (ptrK s3.1 fun p20=>
 (stP p20 [.slice w19.a w19.len w19.cap] (fun h10=>
 (k4 (s3.1,()) h10)) h9))) h8)) h8))) h5)) h5)) h5)))) h4)) h3)) h3))
 ((some p2),()) h2)) h1)) h)
def zh7 (s:TSketch) (K:(Sl×Sl)→Hp→Prop) (h:Hp):Prop:=
 (callP (zeh s) (fun r1 h1=>
 (ifP (r1 != 0)
 (K (nilS,nilS) h1)
 (callP (ze6 s) (fun r2 h2=>
 (callP (y_henneberg_peeler_peel r2) (fun r3 h3=>
 (K (r3.1,r3.2) h3)) h2)) h1))) h)
def zih (K:Sl→Hp→Prop) (h:Hp):Prop:=
 (newP [.string ⟨#[102,105,120]⟩,.int .i64 1,.int .i64 0,.int .i64 2,.int .i64 1,.int .i64 2,.bool false,.string ⟨#[100,105,115,116,97,110,99,101]⟩,.int .i64 2,.int .i64 0,.int .i64 1,.int .i64 2,.int .i64 1,.bool false,.string ⟨#[105,110,99,105,100,101,110,116]⟩,.int .i64 3,.int .i64 0,.int .i64 0,.int .i64 0,.int .i64 1,.bool false,.string ⟨#[111,102,102,115,101,116]⟩,.int .i64 3,.int .i64 0,.int .i64 1,.int .i64 2,.int .i64 1,.bool true,.string ⟨#[97,110,103,108,101]⟩,.int .i64 4,.int .i64 0,.int .i64 1,.int .i64 3,.int .i64 1,.bool false,.string ⟨#[112,97,114,97,108,108,101,108]⟩,.int .i64 4,.int .i64 0,.int .i64 0,.int .i64 0,.int .i64 1,.bool false,.string ⟨#[112,101,114,112,101,110,100,105,99,117,108,97,114]⟩,.int .i64 4,.int .i64 0,.int .i64 0,.int .i64 0,.int .i64 1,.bool false,.string ⟨#[101,113,117,97,108]⟩,.int .i64 4,.int .i64 0,.int .i64 0,.int .i64 0,.int .i64 1,.bool false,.string ⟨#[109,105,100,112,111,105,110,116]⟩,.int .i64 3,.int .i64 0,.int .i64 0,.int .i64 0,.int .i64 2,.bool false,.string ⟨#[115,121,109,109,101,116,114,105,99]⟩,.int .i64 4,.int .i64 0,.int .i64 0,.int .i64 0,.int .i64 2,.bool false,.string ⟨#[104,111,114,105,122,111,110,116,97,108]⟩,.int .i64 2,.int .i64 0,.int .i64 0,.int .i64 0,.int .i64 1,.bool false,.string ⟨#[118,101,114,116,105,99,97,108]⟩,.int .i64 2,.int .i64 0,.int .i64 0,.int .i64 0,.int .i64 1,.bool false,.string ⟨#[111,110,99,105,114,99,108,101]⟩,.int .i64 1,.int .i64 1,.int .i64 0,.int .i64 0,.int .i64 1,.bool false,.string ⟨#[114,97,100,105,117,115]⟩,.int .i64 0,.int .i64 1,.int .i64 1,.int .i64 2,.int .i64 1,.bool false,.string ⟨#[115,97,109,101,114,97,100,105,117,115]⟩,.int .i64 0,.int .i64 2,.int .i64 0,.int .i64 0,.int .i64 1,.bool false,.string ⟨#[116,97,110,103,101,110,116,108,105,110,101]⟩,.int .i64 2,.int .i64 1,.int .i64 0,.int .i64 0,.int .i64 1,.bool true,.string ⟨#[116,97,110,103,101,110,116,99,105,114,99,108,101]⟩,.int .i64 0,.int .i64 2,.int .i64 0,.int .i64 0,.int .i64 1,.bool true] (fun p1 h1=>
 (K (⟨some p1,17,17⟩:Sl) h1)) h)
def zn5 (kind:Int) (K:(Tsetsquareref25_Row×Bool)→Hp→Prop) (h:Hp):Prop:=
 (joinP (S:=(ByteArray×Int×Int×Int×Int×Int×Bool×Unit)×Unit) (fun s1 h1=>
 (callP (zih) (fun r3 h2=>
 (idxP r3 (IntKind.i64.wrap (kind-1)) 7 fun a4=>
 (ldL (.str) (a4.add 0) (fun x5_0=>
 (ldL (.int .i64) (a4.add 1) (fun x5_1=>
 (ldL (.int .i64) (a4.add 2) (fun x5_2=>
 (ldL (.int .i64) (a4.add 3) (fun x5_3=>
 (ldL (.int .i64) (a4.add 4) (fun x5_4=>
 (ldL (.int .i64) (a4.add 5) (fun x5_5=>
 (ldL (.bool) (a4.add 6) (fun x5_6=>
 (K ((⟨x5_0,x5_1,x5_2,x5_3,x5_4,x5_5,x5_6⟩:Tsetsquareref25_Row),true) h2)) h2)) h2)) h2)) h2)) h2)) h2)) h2))) h1))
 (fun k2=>
 (ifP (decide (kind<1))
 (K ((⟨emptyS,0,0,0,0,0,false⟩:Tsetsquareref25_Row),false) h)
 (callP (zih) (fun r6 h3=>
 (ifP (decide (kind>(r6.len:Int)))
 (K ((⟨emptyS,0,0,0,0,0,false⟩:Tsetsquareref25_Row),false) h3)
 (k2 ((emptyS,0,0,0,0,0,false,()),()) h3))) h))))
def zgz:Nat→TExpr→(Int→Hp→Prop)→Hp→Prop
 | 0,_,_,_=>False
 | fuel+1,e,K,h=>
 (loopP (S:=Int×Int×Unit) (fun s1 k2 h1=>
 (ifP (decide (s1.2.1<(e.args.len:Int)))
 (idxP e.args s1.2.1 7 fun a3=>
 (ldL (.int .i64) (a3.add 0) (fun x4_0=>
 (ldL (.bool) (a3.add 1) (fun x4_1=>
 (ldL (.sl) (a3.add 2) (fun x4_2=>
 (ldL (.bool) (a3.add 3) (fun x4_3=>
 (ldL (.sl) (a3.add 4) (fun x4_4=>
 (ldL (.str) (a3.add 5) (fun x4_5=>
 (ldL (.sl) (a3.add 6) (fun x4_6=>
 (callP ((zgz fuel) (⟨x4_0,(⟨(⟨x4_1,x4_2⟩:TInt),(⟨x4_3,x4_4⟩:TInt)⟩:TRat),x4_5,x4_6⟩:TExpr)) (fun r5 h2=>
 (k2 (maxI s1.1 r5,(IntKind.i64.wrap (s1.2.1+1)),()) h2)) h1)) h1)) h1)) h1)) h1)) h1)) h1)) h1))
 (K (IntKind.i64.wrap (s1.1+1)) h1)))
 (0,0,()) h)
def zl2 (c:TConstraint) (point:Int) (circle:Int) (K:Bool→Hp→Prop) (h:Hp):Prop:=
 (ifP (c.kind==13)
 (idxP c.points 0 1 fun a1=>
 (ldL (.int .i64) a1 (fun x2=>
 (ifP (x2==point)
 (idxP c.circles 0 1 fun a3=>
 (ldL (.int .i64) a3 (fun x4=>
 (K (x4==circle) h)) h))
 (K false h))) h))
 (K false h))
def zfy (s:TSketch) (K:Sl→Hp→Prop) (h:Hp):Prop:=
 (newP [] (fun p1 h1=>
 (rdO s.constraints.a (s.constraints.len*5) (fun vs2=>
 (appP 5 88 [.int .i64 0,.slice nilS.a nilS.len nilS.cap,.slice nilS.a nilS.len nilS.cap,.slice nilS.a nilS.len nilS.cap,.int .i64 0] (⟨some p1,0,0⟩:Sl) s.constraints.len vs2 (fun w3 h2=>
 (loopP (S:=Sl×Int×Unit) (fun s4 k5 h3=>
 (ifP (decide (s4.2.1<(s.arcs.len:Int)))
 (idxP s.arcs s4.2.1 4 fun a6=>
 (ldL (.int .i64) (a6.add 0) (fun x7_0=>
 (ldL (.int .i64) (a6.add 1) (fun x7_1=>
 (ldL (.int .i64) (a6.add 2) (fun x7_2=>
 (ldL (.bool) (a6.add 3) (fun x7_3=>
 (newP [.int .i64 x7_1,.int .i64 x7_2] (fun p8 h4=>
 (loopP (S:=Sl×Int×Unit) (fun s9 k10 h5=>
 (ifP (decide (s9.2.1<2))
 (joinP (S:=Sl×Unit) (fun s11 h6=>
 (k10 (s11.1,(IntKind.i64.wrap (s9.2.1+1)),()) h6))
 (fun k12=>
 (loopP (S:=Bool×Int×Unit) (fun s13 k14 h7=>
 (ifP (decide (s13.2.1<(s9.1.len:Int)))
 (joinP (S:=Bool×Unit) (fun s15 h8=>
 (k14 (s15.1,(IntKind.i64.wrap (s13.2.1+1)),()) h8))
 (fun k16=>
 (ifP s13.1
 (k16 (true,()) h7)
 (idxP s9.1 s13.2.1 5 fun a17=>
 (ldL (.int .i64) (a17.add 0) (fun x18_0=>
 (ldL (.sl) (a17.add 1) (fun x18_1=>
 (ldL (.sl) (a17.add 2) (fun x18_2=>
 (ldL (.sl) (a17.add 3) (fun x18_3=>
 (ldL (.int .i64) (a17.add 4) (fun x18_4=>
 (idxP (⟨some p8,2,2⟩:Sl) s9.2.1 1 fun a19=>
 (ldL (.int .i64) a19 (fun x20=>
 (callP (zl2 (⟨x18_0,x18_1,x18_2,x18_3,x18_4⟩:TConstraint) x20 x7_0) (fun r21 h9=>
 (k16 (r21,()) h9)) h7)) h7))) h7)) h7)) h7)) h7)) h7)))))
 (ifP (!s13.1)
 (idxP (⟨some p8,2,2⟩:Sl) s9.2.1 1 fun a22=>
 (ldL (.int .i64) a22 (fun x23=>
 (newP [.int .i64 x23] (fun p24 h10=>
 (newP [.int .i64 x7_0] (fun p25 h11=>
 (appP 5 88 [.int .i64 0,.slice nilS.a nilS.len nilS.cap,.slice nilS.a nilS.len nilS.cap,.slice nilS.a nilS.len nilS.cap,.int .i64 0] s9.1 1 [.int .i64 13,.slice (⟨some p24,1,1⟩:Sl).a (⟨some p24,1,1⟩:Sl).len (⟨some p24,1,1⟩:Sl).cap,.slice (⟨some p25,1,1⟩:Sl).a (⟨some p25,1,1⟩:Sl).len (⟨some p25,1,1⟩:Sl).cap,.slice nilS.a nilS.len nilS.cap,.int .i64 0] (fun w26 h12=>
 (k12 (w26,()) h12)) h11)) h10)) h7)) h7))
 (k12 (s9.1,()) h7))))
 (false,0,()) h5)))
 (k5 (s9.1,(IntKind.i64.wrap (s4.2.1+1)),()) h5)))
 (s4.1,0,()) h4)) h3)) h3)) h3)) h3)) h3))
 (slP s4.1 (s.constraints.len:Int) (s4.1.len:Int) 5 fun c27=>
 (K c27 h3))))
 (w3,0,()) h2)) h1)) h1)) h)
def zll (s:TSketch) (K:Sl→Hp→Prop) (h:Hp):Prop:=
 (newP [] (fun p1 h1=>
 (rdO s.constraints.a (s.constraints.len*5) (fun vs2=>
 (appP 5 88 [.int .i64 0,.slice nilS.a nilS.len nilS.cap,.slice nilS.a nilS.len nilS.cap,.slice nilS.a nilS.len nilS.cap,.int .i64 0] (⟨some p1,0,0⟩:Sl) s.constraints.len vs2 (fun w3 h2=>
 (callP (zfy s) (fun r4 h3=>
 (rdO r4.a (r4.len*5) (fun vs5=>
 (appP 5 88 [.int .i64 0,.slice nilS.a nilS.len nilS.cap,.slice nilS.a nilS.len nilS.cap,.slice nilS.a nilS.len nilS.cap,.int .i64 0] w3 r4.len vs5 (fun w6 h4=>
 (K w6 h4)) h3)) h3)) h2)) h1)) h1)) h)
def zgi (c:TConstraint) (K:Int→Hp→Prop) (h:Hp):Prop:=
 (callP (zn5 c.kind) (fun r1 h1=>
 (K r1.1.equations h1)) h)
def ze9 (a:Sl) (b:Sl) (K:Bool→Hp→Prop) (h:Hp):Prop:=
 (ifP ((a.len:Int) != (b.len:Int))
 (K false h)
 (loopP (S:=Int×Unit) (fun s1 k2 h1=>
 (ifP (decide (s1.1<(a.len:Int)))
 (idxP a s1.1 1 fun a3=>
 (ldL (.int .i64) a3 (fun x4=>
 (idxP b s1.1 1 fun a5=>
 (ldL (.int .i64) a5 (fun x6=>
 (ifP (x4 != x6)
 (K false h1)
 (k2 ((IntKind.i64.wrap (s1.1+1)),()) h1))) h1))) h1))
 (K true h1)))
 (0,()) h))
def ze1 (n:Int) (K:TSketch→Hp→Prop) (h:Hp):Prop:=
 (loopP (S:=(Sl×Sl×Sl×Sl×Sl×Sl×Unit)×Int×Unit) (fun s1 k2 h1=>
 (ifP (decide (s1.2.1<n))
 (callP (zeo s1.2.1) (fun r3 h2=>
 (callP (zeo (IntKind.i64.wrap (s1.2.1*s1.2.1))) (fun r4 h3=>
 (appP 8 128 [.bool false,.slice nilS.a nilS.len nilS.cap,.bool false,.slice nilS.a nilS.len nilS.cap,.bool false,.slice nilS.a nilS.len nilS.cap,.bool false,.slice nilS.a nilS.len nilS.cap] s1.1.1 1 [.bool r3.num.neg,.slice r3.num.mag.a r3.num.mag.len r3.num.mag.cap,.bool r3.den.neg,.slice r3.den.mag.a r3.den.mag.len r3.den.mag.cap,.bool r4.num.neg,.slice r4.num.mag.a r4.num.mag.len r4.num.mag.cap,.bool r4.den.neg,.slice r4.den.mag.a r4.den.mag.len r4.den.mag.cap] (fun w5 h4=>
 (loopP (S:=(Sl×Sl×Sl×Sl×Sl×Sl×Unit)×Int×Unit) (fun s6 k7 h5=>
 (ifP (decide (s6.2.1<s1.2.1))
 (callP (zeo 5) (fun r8 h6=>
 (newP [.int .i64 s6.2.1,.int .i64 s1.2.1] (fun p9 h7=>
 (newP [.int .i64 1,.bool r8.num.neg,.slice r8.num.mag.a r8.num.mag.len r8.num.mag.cap,.bool r8.den.neg,.slice r8.den.mag.a r8.den.mag.len r8.den.mag.cap,.string emptyS,.slice nilS.a nilS.len nilS.cap] (fun p10 h8=>
 (appP 5 88 [.int .i64 0,.slice nilS.a nilS.len nilS.cap,.slice nilS.a nilS.len nilS.cap,.slice nilS.a nilS.len nilS.cap,.int .i64 0] s6.1.2.2.2.2.2.1 1 [.int .i64 2,.slice (⟨some p9,2,2⟩:Sl).a (⟨some p9,2,2⟩:Sl).len (⟨some p9,2,2⟩:Sl).cap,.slice nilS.a nilS.len nilS.cap,.slice (⟨some p10,1,1⟩:Sl).a (⟨some p10,1,1⟩:Sl).len (⟨some p10,1,1⟩:Sl).cap,.int .i64 0] (fun w11 h9=>
 (k7 ((s6.1.1,s6.1.2.1,s6.1.2.2.1,s6.1.2.2.2.1,s6.1.2.2.2.2.1,w11,()),(IntKind.i64.wrap (s6.2.1+1)),()) h9)) h8)) h7)) h6)) h5)
 (k2 ((s6.1.1,s6.1.2.1,s6.1.2.2.1,s6.1.2.2.2.1,s6.1.2.2.2.2.1,s6.1.2.2.2.2.2.1,()),(IntKind.i64.wrap (s1.2.1+1)),()) h5)))
 ((w5,s1.1.2.1,s1.1.2.2.1,s1.1.2.2.2.1,s1.1.2.2.2.2.1,s1.1.2.2.2.2.2.1,()),0,()) h4)) h3)) h2)) h1)
 (K (⟨s1.1.1,s1.1.2.1,s1.1.2.2.1,s1.1.2.2.2.1,s1.1.2.2.2.2.1,s1.1.2.2.2.2.2.1⟩:TSketch) h1)))
 ((nilS,nilS,nilS,nilS,nilS,nilS,()),0,()) h)
def y_henneberg_peeler_step (p:(Option Addr)) (item:Int) (uses:Sl) (K:TStep→Hp→Prop) (h:Hp):Prop:=
 (ifP (decide (item<0))
 (joinP (S:=(Int×Int×Sl×Int×Unit)×Unit) (fun s1 h1=>
 (K (⟨s1.1.1,s1.1.2.1,s1.1.2.2.1,s1.1.2.2.2.1⟩:TStep) h1))
 (fun k2=>
 (ifP (decide ((uses.len:Int)>0))
 (k2 ((6,(IntKind.i64.wrap ((-1)-item)),uses,0,()),()) h)
 (k2 ((5,(IntKind.i64.wrap ((-1)-item)),uses,0,()),()) h))))
 (joinP (S:=(Int×Int×Sl×Int×Unit)×Unit) (fun s3 h2=>
 (K (⟨s3.1.1,s3.1.2.1,s3.1.2.2.1,s3.1.2.2.2.1⟩:TStep) h2))
 (fun k4=>
 (ifP ((uses.len:Int)==2)
 (idxP uses 0 1 fun a5=>
 (ldL (.int .i64) a5 (fun x6=>
 (callP (y_henneberg_peeler_kind p x6 item) (fun r7 h3=>
 (ifP (r7 != 1)
 (k4 ((3,item,uses,1,()),()) h3)
 (idxP uses 1 1 fun a8=>
 (ldL (.int .i64) a8 (fun x9=>
 (callP (y_henneberg_peeler_kind p x9 item) (fun r10 h4=>
 (ifP (r10 != 1)
 (k4 ((3,item,uses,1,()),()) h4)
 (k4 ((3,item,uses,0,()),()) h4))) h3)) h3)))) h)) h))
 (ifP ((uses.len:Int)==1)
 (idxP uses 0 1 fun a11=>
 (ldL (.int .i64) a11 (fun x12=>
 (callP (y_henneberg_peeler_equations p x12) (fun r13 h5=>
 (ifP (r13==2)
 (k4 ((4,item,uses,0,()),()) h5)
 (ifP ((uses.len:Int)==1)
 (k4 ((2,item,uses,0,()),()) h5)
 (k4 ((1,item,uses,0,()),()) h5)))) h)) h))
 (ifP ((uses.len:Int)==1)
 (k4 ((2,item,uses,0,()),()) h)
 (k4 ((1,item,uses,0,()),()) h)))))))
def ze8 (s:TSketch) (K:(TPlan×Int)→Hp→Prop) (h:Hp):Prop:=
 (callP (zeh s) (fun r1 h1=>
 (ifP (r1 != 0)
 (K ((⟨nilS,nilS⟩:TPlan),r1) h1)
 (callP (ze6 s) (fun r2 h2=>
 (callP (y_henneberg_peeler_peel r2) (fun r3 h3=>
 (ifP (decide ((r3.2.len:Int)>0))
 (K ((⟨nilS,nilS⟩:TPlan),13) h3)
 (loopP (S:=(Sl×Sl×Unit)×Int×Unit) (fun s4 k5 h4=>
 (ifP (decide (s4.2.1≥0))
 (idxP r3.1 s4.2.1 1 fun a6=>
 (ldL (.int .i64) a6 (fun x7=>
 (idxP r3.1 s4.2.1 1 fun a8=>
 (ldL (.int .i64) a8 (fun x9=>
 (slP r3.1 0 s4.2.1 1 fun c10=>
 (callP (y_henneberg_peeler_remaining r2 x9 c10) (fun r11 h5=>
 (callP (y_henneberg_peeler_step r2 x7 r11) (fun r12 h6=>
 (appP 4 48 [.int .i64 0,.int .i64 0,.slice nilS.a nilS.len nilS.cap,.int .i64 0] s4.1.1 1 [.int .i64 r12.kind,.int .i64 r12.target,.slice r12.uses.a r12.uses.len r12.uses.cap,.int .i64 r12.branch] (fun w13 h7=>
 (k5 ((w13,s4.1.2.1,()),(IntKind.i64.wrap (s4.2.1-1)),()) h7)) h6)) h5)) h4))) h4))) h4))
 (K ((⟨s4.1.1,s4.1.2.1⟩:TPlan),0) h4)))
 ((nilS,nilS,()),(IntKind.i64.wrap ((r3.1.len:Int)-1)),()) h3))) h2)) h1))) h)
def zij (p:TPlan) (q:TPlan) (K:Bool→Hp→Prop) (h:Hp):Prop:=
 (joinP (S:=Unit) (fun s1 h1=>
 (loopP (S:=Int×Unit) (fun s3 k4 h2=>
 (ifP (decide (s3.1<(p.steps.len:Int)))
 (joinP (S:=Unit) (fun s5 h3=>
 (k4 ((IntKind.i64.wrap (s3.1+1)),()) h3))
 (fun k6=>
 (idxP p.steps s3.1 4 fun a7=>
 (ldL (.int .i64) (a7.add 0) (fun x8_0=>
 (ldL (.int .i64) (a7.add 1) (fun x8_1=>
 (ldL (.sl) (a7.add 2) (fun x8_2=>
 (ldL (.int .i64) (a7.add 3) (fun x8_3=>
 (idxP q.steps s3.1 4 fun a9=>
 (ldL (.int .i64) (a9.add 0) (fun x10_0=>
 (ldL (.int .i64) (a9.add 1) (fun x10_1=>
 (ldL (.sl) (a9.add 2) (fun x10_2=>
 (ldL (.int .i64) (a9.add 3) (fun x10_3=>
 (ifP (x8_0 != x10_0)
 (K false h2)
 (ifP (x8_1 != x10_1)
 (K false h2)
 (ifP (x8_3 != x10_3)
 (K false h2)
 (callP (ze9 x8_2 x10_2) (fun r11 h4=>
 (ifP (!r11)
 (K false h4)
 (k6 () h4))) h2))))) h2)) h2)) h2)) h2))) h2)) h2)) h2)) h2))))
 (K true h2)))
 (0,()) h1))
 (fun k2=>
 (ifP ((p.steps.len:Int) != (q.steps.len:Int))
 (K false h)
 (callP (ze9 p.checks q.checks) (fun r12 h5=>
 (ifP (!r12)
 (K false h5)
 (k2 () h5))) h))))
def zg4 (K:Bool→Hp→Prop) (h:Hp):Prop:=
 (callP (ze1 3) (fun r1 h1=>
 (callP (ze8 r1) (fun r2 h2=>
 (callP (ze1 4) (fun r3 h3=>
 (callP (ze8 r3) (fun r4 h4=>
 (callP (ze1 4) (fun r5 h5=>
 (callP (zh7 r5) (fun r6 h6=>
 (newP [.int .i64 2] (fun p7 h7=>
 (newP [.int .i64 0,.int .i64 1] (fun p8 h8=>
 (newP [.int .i64 1,.int .i64 2,.slice nilS.a nilS.len nilS.cap,.int .i64 0,.int .i64 2,.int .i64 1,.slice (⟨some p7,1,1⟩:Sl).a (⟨some p7,1,1⟩:Sl).len (⟨some p7,1,1⟩:Sl).cap,.int .i64 0,.int .i64 3,.int .i64 0,.slice (⟨some p8,2,2⟩:Sl).a (⟨some p8,2,2⟩:Sl).len (⟨some p8,2,2⟩:Sl).cap,.int .i64 1] (fun p9 h9=>
 (ifP (r2.2==0)
 (callP (zij (⟨r2.1.steps,r2.1.checks⟩:TPlan) (⟨(⟨some p9,3,3⟩:Sl),nilS⟩:TPlan)) (fun r10 h10=>
 (ifP r10
 (ifP (r4.2==13)
 (ifP ((r6.1.len:Int)==0)
 (newP [.int .i64 0,.int .i64 1,.int .i64 2,.int .i64 3] (fun p11 h11=>
 (callP (ze9 r6.2 (⟨some p11,4,4⟩:Sl)) (fun r12 h12=>
 (K r12 h12)) h11)) h10)
 (K false h10))
 (K false h10))
 (K false h10))) h9)
 (K false h9))) h8)) h7)) h6)) h5)) h4)) h3)) h2)) h1)) h)
def zf2:Nat→TExpr→Int→(Int→Hp→Prop)→Hp→Prop
 | 0,_,_,_,_=>False
 | fuel+1,e,depth,K,h=>
 (joinP (S:=Unit) (fun s1 h1=>
 (loopP (S:=Int×Int×Unit) (fun s3 k4 h2=>
 (joinP (S:=Unit) (fun s5 h3=>
 (idxP e.args s3.2.1 7 fun a7=>
 (ldL (.int .i64) (a7.add 0) (fun x8_0=>
 (ldL (.bool) (a7.add 1) (fun x8_1=>
 (ldL (.sl) (a7.add 2) (fun x8_2=>
 (ldL (.bool) (a7.add 3) (fun x8_3=>
 (ldL (.sl) (a7.add 4) (fun x8_4=>
 (ldL (.str) (a7.add 5) (fun x8_5=>
 (ldL (.sl) (a7.add 6) (fun x8_6=>
 (callP ((zf2 fuel) (⟨x8_0,(⟨(⟨x8_1,x8_2⟩:TInt),(⟨x8_3,x8_4⟩:TInt)⟩:TRat),x8_5,x8_6⟩:TExpr) (IntKind.i64.wrap (depth+1))) (fun r9 h4=>
 (k4 ((IntKind.i64.wrap (s3.1+r9)),(IntKind.i64.wrap (s3.2.1+1)),()) h4)) h3)) h3)) h3)) h3)) h3)) h3)) h3)) h3)))
 (fun k6=>
 (ifP (decide (s3.2.1<(e.args.len:Int)))
 (ifP (decide (s3.1<1000))
 (k6 () h2)
 (K s3.1 h2))
 (K s3.1 h2)))))
 (1,0,()) h1))
 (fun k2=>
 (ifP (decide (depth>60))
 (K 1000 h)
 (ifP (decide ((e.args.len:Int)>4))
 (K 1000 h)
 (ifP (decide (((e.name:ByteArray).size:Int)>40))
 (K 1000 h)
 (ifP (decide ((e.value.num.mag.len:Int)>4))
 (K 1000 h)
 (ifP (decide ((e.value.den.mag.len:Int)>4))
 (K 1000 h)
 (k2 () h))))))))
def zkb (e:TExpr) (depth:Int) (K:Int→Hp→Prop) (h:Hp):Prop:=∃fuel,zf2 fuel e depth K h
def zjj (s:TSketch) (K:Bool→Hp→Prop) (h:Hp):Prop:=
 (joinP (S:=Unit) (fun s1 h1=>
 (loopP (S:=Int×Unit) (fun s3 k4 h2=>
 (ifP (decide (s3.1<(s.points.len:Int)))
 (joinP (S:=Unit) (fun s5 h3=>
 (k4 ((IntKind.i64.wrap (s3.1+1)),()) h3))
 (fun k6=>
 (idxP s.points s3.1 8 fun a7=>
 (ldL (.bool) ((a7.add 0).add 0) (fun x8_0=>
 (ldL (.sl) ((a7.add 0).add 1) (fun x8_1=>
 (ldL (.bool) ((a7.add 0).add 2) (fun x8_2=>
 (ldL (.sl) ((a7.add 0).add 3) (fun x8_3=>
 (callP (zi5 (⟨(⟨x8_0,x8_1⟩:TInt),(⟨x8_2,x8_3⟩:TInt)⟩:TRat) 3) (fun r9 h4=>
 (ifP (!r9)
 (K false h4)
 (idxP s.points s3.1 8 fun a10=>
 (ldL (.bool) ((a10.add 4).add 0) (fun x11_0=>
 (ldL (.sl) ((a10.add 4).add 1) (fun x11_1=>
 (ldL (.bool) ((a10.add 4).add 2) (fun x11_2=>
 (ldL (.sl) ((a10.add 4).add 3) (fun x11_3=>
 (callP (zi5 (⟨(⟨x11_0,x11_1⟩:TInt),(⟨x11_2,x11_3⟩:TInt)⟩:TRat) 3) (fun r12 h5=>
 (ifP (!r12)
 (K false h5)
 (k6 () h5))) h4)) h4)) h4)) h4)) h4)))) h2)) h2)) h2)) h2)) h2))))
 (loopP (S:=Int×Unit) (fun s13 k14 h6=>
 (ifP (decide (s13.1<(s.circles.len:Int)))
 (idxP s.circles s13.1 5 fun a15=>
 (ldL (.bool) ((a15.add 1).add 0) (fun x16_0=>
 (ldL (.sl) ((a15.add 1).add 1) (fun x16_1=>
 (ldL (.bool) ((a15.add 1).add 2) (fun x16_2=>
 (ldL (.sl) ((a15.add 1).add 3) (fun x16_3=>
 (callP (zi5 (⟨(⟨x16_0,x16_1⟩:TInt),(⟨x16_2,x16_3⟩:TInt)⟩:TRat) 3) (fun r17 h7=>
 (ifP (!r17)
 (K false h7)
 (k14 ((IntKind.i64.wrap (s13.1+1)),()) h7))) h6)) h6)) h6)) h6)) h6))
 (loopP (S:=Int×Unit) (fun s18 k19 h8=>
 (ifP (decide (s18.1<(s.chains.len:Int)))
 (idxP s.chains s18.1 1 fun a20=>
 (ldL (.sl) a20 (fun x21=>
 (ifP (decide ((x21.len:Int)>20))
 (K false h8)
 (k19 ((IntKind.i64.wrap (s18.1+1)),()) h8))) h8))
 (loopP (S:=Int×Unit) (fun s22 k23 h9=>
 (ifP (decide (s22.1<(s.constraints.len:Int)))
 (idxP s.constraints s22.1 5 fun a24=>
 (ldL (.int .i64) (a24.add 0) (fun x25_0=>
 (ldL (.sl) (a24.add 1) (fun x25_1=>
 (ldL (.sl) (a24.add 2) (fun x25_2=>
 (ldL (.sl) (a24.add 3) (fun x25_3=>
 (ldL (.int .i64) (a24.add 4) (fun x25_4=>
 (joinP (S:=Unit) (fun s26 h10=>
 (loopP (S:=Int×Unit) (fun s28 k29 h11=>
 (ifP (decide (s28.1<(x25_3.len:Int)))
 (idxP x25_3 s28.1 7 fun a30=>
 (ldL (.int .i64) (a30.add 0) (fun x31_0=>
 (ldL (.bool) (a30.add 1) (fun x31_1=>
 (ldL (.sl) (a30.add 2) (fun x31_2=>
 (ldL (.bool) (a30.add 3) (fun x31_3=>
 (ldL (.sl) (a30.add 4) (fun x31_4=>
 (ldL (.str) (a30.add 5) (fun x31_5=>
 (ldL (.sl) (a30.add 6) (fun x31_6=>
 (callP (zkb (⟨x31_0,(⟨(⟨x31_1,x31_2⟩:TInt),(⟨x31_3,x31_4⟩:TInt)⟩:TRat),x31_5,x31_6⟩:TExpr) 0) (fun r32 h12=>
 (ifP (decide (r32>60))
 (K false h12)
 (k29 ((IntKind.i64.wrap (s28.1+1)),()) h12))) h11)) h11)) h11)) h11)) h11)) h11)) h11)) h11))
 (k23 ((IntKind.i64.wrap (s22.1+1)),()) h11)))
 (0,()) h10))
 (fun k27=>
 (ifP (decide ((x25_1.len:Int)>10))
 (K false h9)
 (ifP (decide ((x25_2.len:Int)>10))
 (K false h9)
 (ifP (decide ((x25_3.len:Int)>10))
 (K false h9)
 (k27 () h9))))))) h9)) h9)) h9)) h9)) h9))
 (K true h9)))
 (0,()) h8)))
 (0,()) h6)))
 (0,()) h2)))
 (0,()) h1))
 (fun k2=>
 (ifP (decide ((s.points.len:Int)>10))
 (K false h)
 (ifP (decide ((s.circles.len:Int)>10))
 (K false h)
 (ifP (decide ((s.segments.len:Int)>10))
 (K false h)
 (ifP (decide ((s.arcs.len:Int)>10))
 (K false h)
 (ifP (decide ((s.chains.len:Int)>10))
 (K false h)
 (ifP (decide ((s.constraints.len:Int)>20))
 (K false h)
 (k2 () h)))))))))
def zjg (s:TSketch) (l:Sl) (K:Bool→Hp→Prop) (h:Hp):Prop:=
 (callP (zjj s) (fun r1 h1=>
 (ifP r1
 (K (decide ((l.len:Int)≤20)) h1)
 (K false h1))) h)
def znu (s:TSketch) (K:Sl→Hp→Prop) (h:Hp):Prop:=
 (loopP (S:=Sl×Int×Unit) (fun s1 k2 h1=>
 (ifP (decide (s1.2.1<(s.circles.len:Int)))
 (idxP s.circles s1.2.1 5 fun a3=>
 (ldL (.int .i64) (a3.add 0) (fun x4_0=>
 (ldL (.bool) (a3.add 1) (fun x4_1=>
 (ldL (.sl) (a3.add 2) (fun x4_2=>
 (ldL (.bool) (a3.add 3) (fun x4_3=>
 (ldL (.sl) (a3.add 4) (fun x4_4=>
 (appP 1 8 [.int .i64 0] s1.1 1 [.int .i64 x4_0] (fun w5 h2=>
 (k2 (w5,(IntKind.i64.wrap (s1.2.1+1)),()) h2)) h1)) h1)) h1)) h1)) h1)) h1))
 (K s1.1 h1)))
 (nilS,0,()) h)
def zqc (c:TConstraint) (centers:Sl) (K:Sl→Hp→Prop) (h:Hp):Prop:=
 (callP (zcq c.points) (fun r1 h1=>
 (loopP (S:=Sl×Int×Unit) (fun s2 k3 h2=>
 (ifP (decide (s2.2.1<(c.circles.len:Int)))
 (joinP (S:=Sl×Unit) (fun s4 h3=>
 (k3 (s4.1,(IntKind.i64.wrap (s2.2.1+1)),()) h3))
 (fun k5=>
 (idxP c.circles s2.2.1 1 fun a6=>
 (ldL (.int .i64) a6 (fun x7=>
 (appP 1 8 [.int .i64 0] s2.1 1 [.int .i64 (IntKind.i64.wrap ((-1)-x7))] (fun w8 h4=>
 (joinP (S:=Bool×Unit) (fun s9 h5=>
 (ifP s9.1
 (idxP centers x7 1 fun a11=>
 (ldL (.int .i64) a11 (fun x12=>
 (appP 1 8 [.int .i64 0] w8 1 [.int .i64 x12] (fun w13 h6=>
 (k5 (w13,()) h6)) h5)) h5))
 (k5 (w8,()) h5)))
 (fun k10=>
 (ifP (c.kind==13)
 (k10 ((c.kind==13),()) h4)
 (ifP (c.kind==16)
 (k10 ((c.kind==16),()) h4)
 (k10 ((c.kind==17),()) h4)))))) h2)) h2))))
 (K s2.1 h2)))
 (r1,0,()) h1)) h)
def zn1 (s:TSketch) (K:Sl→Hp→Prop) (h:Hp):Prop:=
 (callP (zfa s) (fun r1 h1=>
 (newP [.slice s.constraints.a s.constraints.len s.constraints.cap,.slice r1.a r1.len r1.cap] (fun p2 h2=>
 (callP (zb4 (⟨some p2,2,2⟩:Sl)) (fun r3 h3=>
 (K r3 h3)) h2)) h1)) h)
def zky (s:TSketch) (K:Sl→Hp→Prop) (h:Hp):Prop:=
 (loopP (S:=Sl×Int×Unit) (fun s1 k2 h1=>
 (ifP (decide (s1.2.1<(s.circles.len:Int)))
 (idxP s.circles s1.2.1 5 fun a3=>
 (ldL (.int .i64) (a3.add 0) (fun x4_0=>
 (ldL (.bool) (a3.add 1) (fun x4_1=>
 (ldL (.sl) (a3.add 2) (fun x4_2=>
 (ldL (.bool) (a3.add 3) (fun x4_3=>
 (ldL (.sl) (a3.add 4) (fun x4_4=>
 (appP 1 8 [.int .i64 0] s1.1 1 [.int .i64 x4_0] (fun w5 h2=>
 (k2 (w5,(IntKind.i64.wrap (s1.2.1+1)),()) h2)) h1)) h1)) h1)) h1)) h1)) h1))
 (K s1.1 h1)))
 (nilS,0,()) h)
def zn2 (c:TConstraint) (centers:Sl) (K:Sl→Hp→Prop) (h:Hp):Prop:=
 (callP (zcq c.points) (fun r1 h1=>
 (loopP (S:=Sl×Int×Unit) (fun s2 k3 h2=>
 (ifP (decide (s2.2.1<(c.circles.len:Int)))
 (joinP (S:=Sl×Unit) (fun s4 h3=>
 (k3 (s4.1,(IntKind.i64.wrap (s2.2.1+1)),()) h3))
 (fun k5=>
 (idxP c.circles s2.2.1 1 fun a6=>
 (ldL (.int .i64) a6 (fun x7=>
 (appP 1 8 [.int .i64 0] s2.1 1 [.int .i64 (IntKind.i64.wrap ((-1)-x7))] (fun w8 h4=>
 (joinP (S:=Bool×Unit) (fun s9 h5=>
 (ifP s9.1
 (idxP centers x7 1 fun a11=>
 (ldL (.int .i64) a11 (fun x12=>
 (appP 1 8 [.int .i64 0] w8 1 [.int .i64 x12] (fun w13 h6=>
 (k5 (w13,()) h6)) h5)) h5))
 (k5 (w8,()) h5)))
 (fun k10=>
 (ifP (c.kind==13)
 (k10 ((c.kind==13),()) h4)
 (ifP (c.kind==16)
 (k10 ((c.kind==16),()) h4)
 (k10 ((c.kind==17),()) h4)))))) h2)) h2))))
 (K s2.1 h2)))
 (r1,0,()) h1)) h)
def zie (kind:Int) (K:Bool→Hp→Prop) (h:Hp):Prop:=
 (ifP (kind==5)
 (K true h)
 (K (kind==6) h))
def zi4 (x:TStep) (K:Int→Hp→Prop) (h:Hp):Prop:=
 (callP (zie x.kind) (fun r1 h1=>
 (ifP r1
 (K (IntKind.i64.wrap ((-1)-x.target)) h1)
 (K x.target h1))) h)
def zk5 (x:TStep) (l:Sl) (centers:Sl) (K:Bool→Hp→Prop) (h:Hp):Prop:=
 (ifP (x.kind==6)
 (idxP x.uses 0 1 fun a1=>
 (ldL (.int .i64) a1 (fun x2=>
 (idxP l x2 5 fun a3=>
 (ldL (.int .i64) (a3.add 0) (fun x4_0=>
 (ldL (.sl) (a3.add 1) (fun x4_1=>
 (ldL (.sl) (a3.add 2) (fun x4_2=>
 (ldL (.sl) (a3.add 3) (fun x4_3=>
 (ldL (.int .i64) (a3.add 4) (fun x4_4=>
 (callP (zhf (⟨x4_0,x4_1,x4_2,x4_3,x4_4⟩:TConstraint) centers x.target) (fun r5 h1=>
 (K r5 h1)) h)) h)) h)) h)) h)) h))) h))
 (loopP (S:=Int×Int×Unit) (fun s6 k7 h2=>
 (ifP (decide (s6.2.1<(x.uses.len:Int)))
 (joinP (S:=Int×Unit) (fun s8 h3=>
 (k7 (s8.1,(IntKind.i64.wrap (s6.2.1+1)),()) h3))
 (fun k9=>
 (idxP x.uses s6.2.1 1 fun a10=>
 (ldL (.int .i64) a10 (fun x11=>
 (idxP l x11 5 fun a12=>
 (ldL (.int .i64) (a12.add 0) (fun x13_0=>
 (ldL (.sl) (a12.add 1) (fun x13_1=>
 (ldL (.sl) (a12.add 2) (fun x13_2=>
 (ldL (.sl) (a12.add 3) (fun x13_3=>
 (ldL (.int .i64) (a12.add 4) (fun x13_4=>
 (callP (zi9 (⟨x13_0,x13_1,x13_2,x13_3,x13_4⟩:TConstraint) centers x.target) (fun r14 h4=>
 (joinP (S:=Bool×Unit) (fun s15 h5=>
 (ifP s15.1
 (K false h5)
 (ifP (r14==1)
 (k9 ((IntKind.i64.wrap (s6.1+1)),()) h5)
 (k9 (s6.1,()) h5))))
 (fun k16=>
 (ifP (x.kind==4)
 (ifP (r14 != 3)
 (k16 ((r14 != 3),()) h4)
 (ifP (x.kind != 4)
 (ifP (r14 != 1)
 (k16 ((r14 != 2),()) h4)
 (k16 (false,()) h4))
 (k16 (false,()) h4)))
 (ifP (x.kind != 4)
 (ifP (r14 != 1)
 (k16 ((r14 != 2),()) h4)
 (k16 (false,()) h4))
 (k16 (false,()) h4)))))) h2)) h2)) h2)) h2)) h2)) h2))) h2))))
 (ifP (x.kind != 3)
 (K true h2)
 (K ((s6.1==2)==(x.branch==0)) h2))))
 (0,0,()) h))
def zjh (x:TStep) (K:Bool→Hp→Prop) (h:Hp):Prop:=
 (joinP (S:=Unit) (fun s1 h1=>
 (ifP (x.branch==0)
 (K true h1)
 (ifP (x.kind==3)
 (ifP (x.branch==1)
 (K true h1)
 (K (x.branch==(-1)) h1))
 (K false h1))))
 (fun k2=>
 (ifP (decide (x.kind<1))
 (K false h)
 (ifP (decide (x.kind>6))
 (K false h)
 (idxC x.kind 7
 (ldL (.int .i64) ((⟨0,0,none⟩:Addr).add ((x.kind:Int).toNat*1)) (fun x3=>
 (ifP ((x.uses.len:Int) != x3)
 (K false h)
 (k2 () h))) h))))))
def zk4 (s:TSketch) (p:TPlan) (K:Bool→Hp→Prop) (h:Hp):Prop:=
 (joinP (S:=Unit) (fun s1 h1=>
 (callP (zn1 s) (fun r3 h2=>
 (callP (zky s) (fun r4 h3=>
 (mkP (r3.len:Int) (r3.len:Int) 1 [.bool false] (fun m5 h4=>
 (loopP (S:=List (Int×Bool)×Int×Unit) (fun s6 k7 h5=>
 (ifP (decide (s6.2.1<(p.steps.len:Int)))
 (idxP p.steps s6.2.1 4 fun a8=>
 (ldL (.int .i64) (a8.add 0) (fun x9_0=>
 (ldL (.int .i64) (a8.add 1) (fun x9_1=>
 (ldL (.sl) (a8.add 2) (fun x9_2=>
 (ldL (.int .i64) (a8.add 3) (fun x9_3=>
 (joinP (S:=Int×Unit) (fun s10 h6=>
 (joinP (S:=Unit) (fun s12 h7=>
 (loopP (S:=Int×Unit) (fun s14 k15 h8=>
 (ifP (decide (s14.1<(x9_2.len:Int)))
 (idxP x9_2 s14.1 1 fun a16=>
 (ldL (.int .i64) a16 (fun x17=>
 (joinP (S:=Unit) (fun s18 h9=>
 (idxP m5 x17 1 fun a20=>
 (stP a20 [.bool true] (fun h10=>
 (idxP r3 x17 5 fun a21=>
 (ldL (.int .i64) (a21.add 0) (fun x22_0=>
 (ldL (.sl) (a21.add 1) (fun x22_1=>
 (ldL (.sl) (a21.add 2) (fun x22_2=>
 (ldL (.sl) (a21.add 3) (fun x22_3=>
 (ldL (.int .i64) (a21.add 4) (fun x22_4=>
 (callP (zn2 (⟨x22_0,x22_1,x22_2,x22_3,x22_4⟩:TConstraint) r4) (fun r23 h11=>
 (loopP (S:=Int×Unit) (fun s24 k25 h12=>
 (ifP (decide (s24.1<(r23.len:Int)))
 (joinP (S:=Unit) (fun s26 h13=>
 (k25 ((IntKind.i64.wrap (s24.1+1)),()) h13))
 (fun k27=>
 (idxP r23 s24.1 1 fun a28=>
 (ldL (.int .i64) a28 (fun x29=>
 (callP (zi4 (⟨x9_0,x9_1,x9_2,x9_3⟩:TStep)) (fun r30 h14=>
 (ifP (x29 != r30)
 (ifP (!(mget s6.1 x29))
 (K false h14)
 (k27 () h14))
 (k27 () h14))) h12)) h12))))
 (k15 ((IntKind.i64.wrap (s14.1+1)),()) h12)))
 (0,()) h11)) h10)) h10)) h10)) h10)) h10)) h10))) h9)))
 (fun k19=>
 (ifP (decide (x17<0))
 (K false h8)
 (ifP (decide (x17≥(r3.len:Int)))
 (K false h8)
 (idxP m5 x17 1 fun a31=>
 (ldL (.bool) a31 (fun x32=>
 (ifP x32
 (K false h8)
 (k19 () h8))) h8))))))) h8))
 (callP (zk5 (⟨x9_0,x9_1,x9_2,x9_3⟩:TStep) r3 r4) (fun r33 h15=>
 (ifP (!r33)
 (K false h15)
 (callP (zi4 (⟨x9_0,x9_1,x9_2,x9_3⟩:TStep)) (fun r34 h16=>
 (k7 ((mput s6.1 r34 true),(IntKind.i64.wrap (s6.2.1+1)),()) h16)) h15))) h8)))
 (0,()) h7))
 (fun k13=>
 (callP (zjh (⟨x9_0,x9_1,x9_2,x9_3⟩:TStep)) (fun r35 h17=>
 (ifP (!r35)
 (K false h17)
 (ifP (decide (x9_1<0))
 (K false h17)
 (ifP (decide (x9_1≥s10.1))
 (K false h17)
 (callP (zi4 (⟨x9_0,x9_1,x9_2,x9_3⟩:TStep)) (fun r36 h18=>
 (ifP (mget s6.1 r36)
 (K false h18)
 (k13 () h18))) h17))))) h6))))
 (fun k11=>
 (callP (zie x9_0) (fun r37 h19=>
 (ifP r37
 (k11 ((s.circles.len:Int),()) h19)
 (k11 ((s.points.len:Int),()) h19))) h5)))) h5)) h5)) h5)) h5))
 (loopP (S:=Sl×Int×Unit) (fun s38 k39 h20=>
 (ifP (decide (s38.2.1<(m5.len:Int)))
 (joinP (S:=Sl×Unit) (fun s40 h21=>
 (k39 (s40.1,(IntKind.i64.wrap (s38.2.1+1)),()) h21))
 (fun k41=>
 (idxP m5 s38.2.1 1 fun a42=>
 (ldL (.bool) a42 (fun x43=>
 (ifP (!x43)
 (appP 1 8 [.int .i64 0] s38.1 1 [.int .i64 s38.2.1] (fun w44 h22=>
 (k41 (w44,()) h22)) h20)
 (k41 (s38.1,()) h20))) h20))))
 (callP (zcr p.checks s38.1) (fun r45 h23=>
 (K r45 h23)) h20)))
 (nilS,0,()) h5)))
 ([],0,()) h4)) h3)) h2)) h1))
 (fun k2=>
 (callP (zeh s) (fun r46 h24=>
 (ifP (r46 != 0)
 (K false h24)
 (ifP ((p.steps.len:Int) != (IntKind.i64.wrap ((s.points.len:Int)+(s.circles.len:Int))))
 (K false h24)
 (k2 () h24)))) h)))
def zlg (p:TPlan) (K:Int→Hp→Prop) (h:Hp):Prop:=
 (loopP (S:=Int×Int×Unit) (fun s1 k2 h1=>
 (ifP (decide (s1.2.1<(p.steps.len:Int)))
 (joinP (S:=Int×Unit) (fun s3 h2=>
 (k2 (s3.1,(IntKind.i64.wrap (s1.2.1+1)),()) h2))
 (fun k4=>
 (idxP p.steps s1.2.1 4 fun a5=>
 (ldL (.int .i64) (a5.add 0) (fun x6_0=>
 (ldL (.int .i64) (a5.add 1) (fun x6_1=>
 (ldL (.sl) (a5.add 2) (fun x6_2=>
 (ldL (.int .i64) (a5.add 3) (fun x6_3=>
 (ifP (x6_0==1)
 (k4 ((IntKind.i64.wrap (s1.1+2)),()) h1)
 (joinP (S:=Bool×Unit) (fun s7 h3=>
 (ifP s7.1
 (k4 ((IntKind.i64.wrap (s1.1+1)),()) h3)
 (k4 (s1.1,()) h3)))
 (fun k8=>
 (ifP (x6_0==2)
 (k8 ((x6_0==2),()) h1)
 (k8 ((x6_0==5),()) h1)))))) h1)) h1)) h1)) h1))))
 (K s1.1 h1)))
 (0,0,()) h)
def zn6 (s:TSketch) (K:Int→Hp→Prop) (h:Hp):Prop:=
 (K (IntKind.i64.wrap ((IntKind.i64.wrap (2*(s.points.len:Int)))+(s.circles.len:Int))) h)
def zii (s:TSketch) (K:Int→Hp→Prop) (h:Hp):Prop:=
 (callP (zll s) (fun r1 h1=>
 (loopP (S:=Int×Int×Unit) (fun s2 k3 h2=>
 (ifP (decide (s2.2.1<(r1.len:Int)))
 (idxP r1 s2.2.1 5 fun a4=>
 (ldL (.int .i64) (a4.add 0) (fun x5_0=>
 (ldL (.sl) (a4.add 1) (fun x5_1=>
 (ldL (.sl) (a4.add 2) (fun x5_2=>
 (ldL (.sl) (a4.add 3) (fun x5_3=>
 (ldL (.int .i64) (a4.add 4) (fun x5_4=>
 (callP (zgi (⟨x5_0,x5_1,x5_2,x5_3,x5_4⟩:TConstraint)) (fun r6 h3=>
 (k3 ((IntKind.i64.wrap (s2.1+r6)),(IntKind.i64.wrap (s2.2.1+1)),()) h3)) h2)) h2)) h2)) h2)) h2)) h2))
 (K s2.1 h2)))
 (0,0,()) h1)) h)
def zgb (s:TSketch) (K:Bool→Hp→Prop) (h:Hp):Prop:=
 (joinP (S:=Unit) (fun s1 h1=>
 (callP (ze8 s) (fun r3 h2=>
 (ifP (r3.2 != 0)
 (callP (zij (⟨r3.1.steps,r3.1.checks⟩:TPlan) (⟨nilS,nilS⟩:TPlan)) (fun r4 h3=>
 (K r4 h3)) h2)
 (loopP (S:=List (Int×Bool)×Int×Unit) (fun s5 k6 h4=>
 (ifP (decide (s5.2.1<(r3.1.steps.len:Int)))
 (idxP r3.1.steps s5.2.1 4 fun a7=>
 (ldL (.int .i64) (a7.add 0) (fun x8_0=>
 (ldL (.int .i64) (a7.add 1) (fun x8_1=>
 (ldL (.sl) (a7.add 2) (fun x8_2=>
 (ldL (.int .i64) (a7.add 3) (fun x8_3=>
 (loopP (S:=List (Int×Bool)×Int×Unit) (fun s9 k10 h5=>
 (ifP (decide (s9.2.1<(x8_2.len:Int)))
 (idxP x8_2 s9.2.1 1 fun a11=>
 (ldL (.int .i64) a11 (fun x12=>
 (ifP (mget s9.1 x12)
 (K false h5)
 (k10 ((mput s9.1 x12 true),(IntKind.i64.wrap (s9.2.1+1)),()) h5))) h5))
 (k6 (s9.1,(IntKind.i64.wrap (s5.2.1+1)),()) h5)))
 (s5.1,0,()) h4)) h4)) h4)) h4)) h4))
 (callP (zk4 s (⟨r3.1.steps,r3.1.checks⟩:TPlan)) (fun r13 h6=>
 (ifP r13
 (callP (zfy s) (fun r14 h7=>
 (ifP ((s5.1.length:Int)==(IntKind.i64.wrap ((s.constraints.len:Int)+(r14.len:Int))))
 (callP (zlg (⟨r3.1.steps,r3.1.checks⟩:TPlan)) (fun r15 h8=>
 (callP (zn6 s) (fun r16 h9=>
 (callP (zii s) (fun r17 h10=>
 (K (r15==(IntKind.i64.wrap (r16-r17))) h10)) h9)) h8)) h7)
 (K false h7))) h6)
 (K false h6))) h4)))
 ([],0,()) h2))) h1))
 (fun k2=>
 (callP (zg4) (fun r18 h11=>
 (ifP (!r18)
 (callP (zg4) (fun r19 h12=>
 (K r19 h12)) h11)
 (callP (zjg s nilS) (fun r20 h13=>
 (ifP (!r20)
 (callP (zg4) (fun r21 h14=>
 (K r21 h14)) h13)
 (k2 () h13))) h11))) h)))
end F
end Den
end

section
namespace Iv
def W:Nat:=4294967296
theorem W_pos:0<W:=by decide
theorem W_eq:W=4294967296:=rfl
def vl:List Nat→Nat
 | []=>0
 | x :: r=>x+W*vl r
def okW (l:List Nat):Prop:=∀d∈l,d<W
def trimL:List Nat→List Nat
 | []=>[]
 | x :: r=>match trimL r with
   | []=>if x=0 then [] else [x]
   | y :: t=>x :: y :: t
def dg (n:Nat):List Nat:=if h:n=0 then [] else (n % W) :: dg (n/W)
termination_by n
decreasing_by exact Nat.div_lt_self (Nat.pos_of_ne_zero h) (by decide)
theorem zc5:dg 0=[]:=by unfold dg; simp
theorem zm2 {n:Nat} (h:n≠0):dg n=(n % W) :: dg (n/W):=by conv=>lhs; unfold dg; rw [dif_neg h]
theorem vl_dg (n:Nat):vl (dg n)=n:=by
 induction n using Nat.strongRecOn with
 | _ n ih=>
   by_cases h:n=0
   · subst h; rw [zc5]; rfl
   · rw [zm2 h]
     simp only [vl]
     rw [ih (n/W) (Nat.div_lt_self (Nat.pos_of_ne_zero h) (by decide))]
     exact Nat.mod_add_div n W
theorem ok_dg (n:Nat):okW (dg n):=by
 induction n using Nat.strongRecOn with
 | _ n ih=>
   by_cases h:n=0
   · subst h; rw [zc5]; intro d hd; cases hd
   · rw [zm2 h]
     intro d hd
     rcases List.mem_cons.1 hd with rfl | hd
     · exact Nat.mod_lt _ W_pos
     · exact ih (n/W) (Nat.div_lt_self (Nat.pos_of_ne_zero h) (by decide)) d hd
theorem zes {n:Nat}:dg n=[]↔n=0:=by
 constructor
 · intro h
   have:=vl_dg n
   rw [h] at this
   exact this.symm
 · rintro rfl; exact zc5
theorem zok {x:Nat} {r:List Nat} (h:okW (x :: r)):x<W∧okW r:=⟨h x List.mem_cons_self,fun d hd=>h d (List.mem_cons_of_mem _ hd)⟩
theorem zc9:∀{l:List Nat},okW l→trimL l=dg (vl l)
 | [],_=>by simp [trimL,vl,zc5]
 | x :: r,h=>by
   obtain ⟨hx,hr⟩:=zok h
   have ih:=zc9 hr
   unfold trimL vl
   rw [ih]
   by_cases hv:vl r=0
   · rw [hv,zc5]
     simp only [Nat.mul_zero,Nat.add_zero]
     by_cases h0:x=0
     · rw [if_pos h0,h0,zc5]
     · rw [if_neg h0,zm2 h0,Nat.mod_eq_of_lt hx,Nat.div_eq_of_lt hx,zc5]
   · have hne:dg (vl r)≠[]:=fun hh=>hv (zes.1 hh)
     have hpos:x+W*vl r≠0:=by
      have:0<W*vl r:=Nat.mul_pos W_pos (Nat.pos_of_ne_zero hv)
      omega
     rw [zm2 hpos,Nat.add_mul_mod_self_left,Nat.mod_eq_of_lt hx,Nat.add_mul_div_left _ _ W_pos,Nat.div_eq_of_lt hx,Nat.zero_add]
     cases hd:dg (vl r) with
     | nil=>exact absurd hd hne
     | cons y t=>rfl
theorem vl_lt:∀{l:List Nat},okW l→vl l<W ^ l.length
 | [],_=>by simp [vl]
 | x :: r,h=>by
   obtain ⟨hx,hr⟩:=zok h
   have ih:=vl_lt hr
   simp only [vl,List.length_cons,Nat.pow_succ]
   have:W*(vl r+1)≤W*W ^ r.length:=Nat.mul_le_mul_left _ ih
   rw [Nat.mul_comm (W ^ r.length)]
   rw [Nat.mul_add] at this
   omega
theorem zbn {n k:Nat}:(dg n).length≤k↔n<W ^ k:=by
 constructor
 · intro h
   have h1:=vl_lt (ok_dg n)
   rw [vl_dg] at h1
   exact Nat.lt_of_lt_of_le h1 (Nat.pow_le_pow_right W_pos h)
 · induction k generalizing n with
   | zero=>
     intro h
     have:n=0:=by simp at h; exact h
     subst this; rw [zc5]; simp
   | succ k ih=>
     intro h
     by_cases hn:n=0
     · subst hn; rw [zc5]; simp
     · rw [zm2 hn]
       simp only [List.length_cons]
       have:n/W<W ^ k:=by
        rw [Nat.div_lt_iff_lt_mul W_pos]; rw [Nat.pow_succ] at h; exact h
       have:=ih this
       omega
theorem zjy:∀(a b:List Nat),vl (a++b)=vl a+W ^ a.length*vl b
 | [],b=>by simp [vl]
 | x :: r,b=>by
   simp only [List.cons_append,vl,zjy r b,List.length_cons,Nat.pow_succ]
   rw [Nat.mul_add,Nat.mul_comm (W ^ r.length) W,Nat.mul_assoc]; omega
theorem zzz {l:List Nat} (hok:okW l) (ht:trimL l=l):l=dg (vl l):=ht.symm.trans (zc9 hok)
theorem ziq:∀{l:List Nat} {k v:Nat} (hk:k<l.length),vl (l.set k v)+W ^ k*l[k]=vl l+W ^ k*v
 | [],k,v,hk=>by simp at hk
 | x :: r,0,v,hk=>by simp [vl]; omega
 | x :: r,k+1,v,hk=>by
   have hk':k<r.length:=by simpa using hk
   have ih:=ziq (v:=v) hk'
   simp only [List.set_cons_succ,vl,List.getElem_cons_succ,Nat.pow_succ]
   have e1:W ^ k*W*r[k]=W*(W ^ k*r[k]):=by rw [Nat.mul_comm (W ^ k) W,Nat.mul_assoc]
   have e2:W ^ k*W*v=W*(W ^ k*v):=by rw [Nat.mul_comm (W ^ k) W,Nat.mul_assoc]
   rw [e1,e2]
   have:=congrArg (W*·) ih
   simp only [Nat.mul_add] at this
   omega
theorem zd3 {l:List Nat} {k v:Nat} (hl:okW l) (hv:v<W):okW (l.set k v):=fun d hd=>by
 rcases List.mem_or_eq_of_mem_set hd with h | h
 · exact hl d h
 · rw [h]; exact hv
theorem zbq {l:List Nat} {k:Nat} (hk:k<l.length):vl (l.take (k+1))=vl (l.take k)+W ^ k*l[k]:=by
 rw [List.take_succ_eq_append_getElem hk,zjy,List.length_take,Nat.min_eq_left (by omega)]
 simp [vl]
theorem zc1 {l:List Nat} (hl:okW l) {k:Nat} (hk:k<l.length):l[k]<W:=hl _ (List.getElem_mem hk)
theorem zg5 {l:List Nat} (hl:okW l) (k:Nat):okW (l.take k):=fun d hd=>hl d (List.mem_of_mem_take hd)
theorem ziy {l:List Nat} (hl:okW l) (k:Nat):okW (l.drop k):=fun d hd=>hl d (List.mem_of_mem_drop hd)
theorem zsc {a b:List Nat} (ha:okW a) (hb:okW b):okW (a++b):=fun d hd=>(List.mem_append.1 hd).elim (ha d) (hb d)
theorem zc2 {l:List Nat} {k:Nat} (hk:k≤l.length):vl l=vl (l.take k)+W ^ k*vl (l.drop k):=by
 have:=zjy (l.take k) (l.drop k)
 rw [List.take_append_drop,List.length_take,Nat.min_eq_left hk] at this; exact this
theorem zvl (n:Nat):vl (List.replicate n 0)=0:=by
 induction n with
 | zero=>rfl
 | succ n ih=>rw [List.replicate_succ]; simp [vl,ih]
theorem zhg (n:Nat):okW (List.replicate n 0):=fun d hd=>by rw [(List.mem_replicate.1 hd).2]; decide
theorem za8o:okW []:=fun d hd=>by cases hd
theorem za60 (l:List Nat):(trimL l).length≤l.length:=by
 induction l with
 | nil=>exact Nat.le_refl _
 | cons x r ih=>
   unfold trimL
   split
   · split<;>simp
   · rename_i y t h
     rw [h] at ih
     simp only [List.length_cons] at ih ⊢; omega
theorem za47 (l:List Nat):trimL l=l.take (trimL l).length:=by
 induction l with
 | nil=>rfl
 | cons x r ih=>
   unfold trimL
   split
   · split<;>simp
   · rename_i y t h
     rw [h] at ih
     simp only [List.length_cons] at ih ⊢
     rw [List.take_succ_cons,←ih]
theorem zjb (l:List Nat):trimL (l++[0])=trimL l:=by
 induction l with
 | nil=>simp [trimL]
 | cons x r ih=>simp only [List.cons_append,trimL,ih]
theorem zk0 (l:List Nat) {x:Nat} (hx:x≠0):trimL (l++[x])=l++[x]:=by
 induction l with
 | nil=>simp [trimL,hx]
 | cons y r ih=>
   simp only [List.cons_append,trimL,ih]
   cases h:r++[x] with
   | nil=>simp at h
   | cons a b=>rfl
end Iv
end

section
namespace Den
open Go Iv
def LeX (b:Nat) (h h':Hp):Prop:=∀k B,k≠b→h k=some B→h' k=some B
def apart (x y:Sl):Prop:=∀a b,x.a=some a→y.a=some b→a.block≠b.block
theorem zml {h1 h2 h3:Hp} {s s':Nat} {x y:Sl} {cs ds:List Value} (hx:Own h1 h2 s x cs) (hy:Own h2 h3 s' y ds):apart x y:=fun a b ha hb hh=>by
 obtain ⟨_,_,_,gx⟩:=hx
 obtain ⟨_,_,_,gy⟩:=hy
 rw [ha] at gx; rw [hb] at gy
 obtain ⟨_,_,_,B,g4,_⟩:=gx
 obtain ⟨_,_,g3,_⟩:=gy
 rw [hh,g3] at g4; cases g4
theorem zow {h h':Hp} {b:Nat} (hl:LeX b h h') {a:Addr} (ha:a.block≠b):∀{n:Nat} {l:List Value},cellsAt h a n=some l→cellsAt h' a n=some l
 | 0,_,e=>e
 | n+1,l,e=>by
   unfold cellsAt at *
   cases h1:cellsAt h a n with
   | none=>rw [h1] at e; cases e
   | some l1=>
     rw [h1] at e; rw [zow hl ha h1]; simp only at e ⊢
     have hc:∀v,h.cell (a.add n)=some v→h'.cell (a.add n)=some v:=fun v hv=>by
      unfold Hp.cell at *
      cases hs:(a.add n).spot with
      | some x=>rw [hs] at hv; cases hv
      | none=>
        rw [hs] at hv; simp only at hv ⊢
        rw [zbf] at hv ⊢
        cases hb:h a.block with
        | none=>rw [hb] at hv; cases hv
        | some B=>rw [hb] at hv; rw [hl _ _ ha hb]; exact hv
     cases h2:h.cell (a.add n) with
     | none=>rw [h2] at e; cases e
     | some v=>rw [h2] at e; rw [hc v h2]; exact e
theorem Rd.leX {h h':Hp} {b s:Nat} {y:Sl} {cs:List Value} (hr:Rd h s y cs) (hl:LeX b h h') (hne:∀a,y.a=some a→a.block≠b):Rd h' s y cs:=by
 refine ⟨hr.1,?_⟩
 have h2:=hr.2
 cases ha:y.a with
 | none=>rw [ha] at h2; exact h2
 | some a=>rw [ha] at h2; exact zow hl (hne a ha) h2
theorem Own.leX {h0 h h':Hp} {b s:Nat} {y:Sl} {cs:List Value} (hr:Own h0 h s y cs) (hl:LeX b h h') (h0b:h0 b=none) (hne:∀a,y.a=some a→a.block≠b):Own h0 h' s y cs:=by
 obtain ⟨h1,h2,h3,h4⟩:=hr
 refine ⟨fun k B hk=>?_,h2,h3,?_⟩
 · exact hl k B (fun hh=>by rw [hh,h0b] at hk; cases hk) (h1 k B hk)
 · cases ha:y.a with
   | none=>rw [ha] at h4; exact h4
   | some a=>
     rw [ha] at h4
     obtain ⟨g1,g2,g3,B,g4,g5⟩:=h4
     exact ⟨g1,g2,g3,B,hl _ _ (hne a ha) g4,g5⟩
theorem za7c {h0 h:Hp} {size:Nat} {x:Sl} {cs vs:List Value} {i:Int} {K:Hp→Prop} (k:Nat) (ho:Own h0 h size x cs) (hi:i=k) (hk:k<x.len) (hv:vs.length=size) (hsz:0<size) (hleaf:vs.all Value.leaf=true)
 (H:∀h' b,(∀a,x.a=some a→a.block=b)→h0 b=none→LeX b h h'→Own h0 h' size x (splice cs (k*size) vs)→K h'):idxP x i size fun a=>stP a vs K h:=by
 have ho':=ho
 obtain ⟨h1,h2,h3,h4⟩:=ho
 cases ha:x.a with
 | none=>rw [ha] at h4; simp only at h4; omega
 | some a=>
   rw [ha] at h4
   obtain ⟨g1,g2,g3,b,g4,g5,g6,g7⟩:=h4
   have key:=zvc (K:=fun h'=>LeX a.block h h'→K h') k ho' hi hk hv hsz hleaf (fun h' ho2 hl=>H h' a.block (fun a' ha'=>by rw [ha] at ha'; cases ha'; rfl) g3 hl ho2)
   obtain ⟨q1,q2,q3⟩:=key
   refine ⟨q1,q2,?_⟩
   rw [ha] at q3 ⊢
   simp only [ptrK] at q3 ⊢
   obtain ⟨B,r1,r2,r3,r4,r5,r6⟩:=q3
   refine ⟨B,r1,r2,r3,r4,r5,r6 ?_⟩
   rw [zbf]
   intro kk BB hne hkk
   rw [Hp.ins_ne hne]; exact hkk
def wc (l:List Nat):List Value:=l.map fun (n:Nat)=>Value.int .u32 (n:Int)
theorem zhn (l:List Nat):(wc l).length=l.length:=by simp [wc]
theorem zab2 {l:List Nat} {k v:Nat} (hk:k<l.length):splice (wc l) (k*1) [.int .u32 (v:Int)]=wc (l.set k v):=by
 rw [Nat.mul_one,zim]
 unfold wc
 rw [List.map_set]
 have hk':k<(l.map fun (n:Nat)=>Value.int .u32 (n:Int)).length:=by simpa using hk
 rw [List.set_eq_take_append_cons_drop,if_pos hk']
theorem zab1 (n:Nat):repl n [Value.int .u32 0]=wc (List.replicate n 0):=by
 unfold repl wc; simp
theorem za4f (a b:List Nat):wc (a++b)=wc a++wc b:=by simp [wc]
def RdW (h:Hp) (x:Sl) (l:List Nat):Prop:=Rd h 1 x (wc l)∧x.len≤x.cap
abbrev OwnW (h0 h:Hp) (x:Sl) (l:List Nat):Prop:=Own h0 h 1 x (wc l)
theorem RdW.len {h:Hp} {x:Sl} {l:List Nat} (hr:RdW h x l):x.len=l.length:=by have:=hr.1.1; rw [zhn] at this; omega
theorem OwnW.rdW {h0 h:Hp} {x:Sl} {l:List Nat} (hr:OwnW h0 h x l):RdW h x l:=⟨hr.rd,hr.2.2.1⟩
theorem OwnW.len {h0 h:Hp} {x:Sl} {l:List Nat} (hr:OwnW h0 h x l):x.len=l.length:=RdW.len hr.rdW
theorem RdW.le {h h':Hp} {x:Sl} {l:List Nat} (hr:RdW h x l) (hl:h.le h'):RdW h' x l:=⟨hr.1.le hl,hr.2⟩
theorem RdW.nil {h:Hp}:RdW h nilS []:=⟨Rd.nil,Nat.le_refl _⟩
theorem RdW.leX {h h':Hp} {b:Nat} {y:Sl} {l:List Nat} (hr:RdW h y l) (hl:LeX b h h') (hne:∀a,y.a=some a→a.block≠b):RdW h' y l:=⟨hr.1.leX hl hne,hr.2⟩
theorem zqa {h:Hp} {a:Addr} {l:List Value} (H:∀i v,l[i]?=some v→h.cell (a.add i)=some v):∀n,n≤l.length→cellsAt h a n=some (l.take n)
 | 0,_=>by simp [cellsAt]
 | n+1,hn=>by
   unfold cellsAt
   rw [zqa H n (by omega)]
   have h1:l[n]?=some l[n]:=List.getElem?_eq_getElem (by omega)
   simp only [H n _ h1]
   rw [List.take_succ_eq_append_getElem (by omega)]
theorem Rd.cut {h:Hp} {x:Sl} {cs:List Value} (hr:Rd h 1 x cs) (lo hi:Nat) (h1:lo≤hi) (h2:hi≤cs.length) (h3:hi≤x.cap):Rd h 1 (x.cut lo hi 1) ((cs.drop lo).take (hi-lo)):=by
 have hlen:((cs.drop lo).take (hi-lo)).length=hi-lo:=by rw [List.length_take,List.length_drop]; omega
 refine ⟨by rw [hlen]; show (hi-lo)*1=_; omega,?_⟩
 rw [hlen]
 by_cases h0:hi=lo
 · have:hi-lo=0:=by omega
   rw [this]
   cases (x.cut lo hi 1).a<;>simp [cellsAtO,cellsAt]
 · have hne:x.cap≠lo:=by omega
   have ha:(x.cut lo hi 1).a=x.a.map (·.add (lo*1)):=by show (if x.cap=lo then _ else _)=_; rw [if_neg hne]
   rw [ha]
   have hr2:=hr.2
   cases hxa:x.a with
   | none=>
     rw [hxa] at hr2
     simp only [cellsAtO] at hr2
     split at hr2
     · omega
     · cases hr2
   | some a=>
     rw [hxa] at hr2
     simp only [cellsAtO] at hr2
     show cellsAt h (a.add (lo*1)) (hi-lo)=_
     have key:=zqa (h:=h) (a:=a.add (lo*1)) (l:=cs.drop lo) (fun i v hv=>by
      rw [zcn]
      refine zg0 hr2 _ v ?_
      rw [List.getElem?_drop] at hv
      rw [Nat.mul_one]; exact hv) (hi-lo) (by rw [List.length_drop]; omega)
     exact key
theorem RdW.cut {h:Hp} {x:Sl} {l:List Nat} (hr:RdW h x l) (lo hi:Nat) (h1:lo≤hi) (h2:hi≤l.length):RdW h (x.cut lo hi 1) ((l.drop lo).take (hi-lo)):=by
 have hl:=hr.len
 have hc:=hr.2
 refine ⟨?_,?_⟩
 · have:=hr.1.cut lo hi h1 (by rw [zhn]; exact h2) (by omega)
   unfold wc at *
   rw [List.map_take,List.map_drop]; exact this
 · show hi-lo≤x.cap-lo; omega
theorem za7b {h:Hp} {x:Sl} {l:List Nat} {lo hi:Int} {K:Sl→Prop} (a b:Nat) (hr:RdW h x l) (ha:lo=a) (hb:hi=b) (hab:a≤b) (hbl:b≤l.length)
 (H:RdW h (x.cut a b 1) ((l.drop a).take (b-a))→K (x.cut a b 1)):slP x lo hi 1 K:=by
 subst ha hb
 have hl:=hr.len
 have hc:=hr.2
 exact ⟨by omega,by omega,by omega,H (hr.cut a b hab hbl)⟩
theorem zaq {h:Hp} {x:Sl} {l:List Nat} {i:Int} {Ka:Addr→Prop} (k:Nat) (hr:RdW h x l) (hi:i=k) (hk:k<l.length)
 (H:∀a,h.cell a=some (.int .u32 (l[k]:Int))→Ka a):idxP x i 1 Ka:=
 zr1 k hr.1 hi (v:=.int .u32 (l[k]:Int)) (by simp [wc,hk]) H
theorem zea {h0 h:Hp} {x:Sl} {l:List Nat} {i:Int} {v:Int} {K:Hp→Prop} (k n:Nat) (ho:OwnW h0 h x l) (hi:i=k) (hk:k<l.length) (hv:v=n)
 (H:∀h' b,(∀a,x.a=some a→a.block=b)→h0 b=none→LeX b h h'→OwnW h0 h' x (l.set k n)→K h'):idxP x i 1 fun a=>stP a [.int .u32 v] K h:=by
 subst hv
 refine za7c k ho hi (by rw [ho.len]; exact hk) rfl (by decide) rfl fun h' b h1 h2 h3 h4=>H h' b h1 h2 h3 ?_
 rw [zab2 hk] at h4; exact h4
theorem zel {h:Hp} {len cap:Int} {K:Sl→Hp→Prop} (l c:Nat) (hl:len=l) (hc:cap=c) (hlc:l≤c) (hb:c≤35184372088832)
 (H:∀x h',x.len=l→OwnW h h' x (List.replicate l 0)→K x h'):mkP len cap 4 [.int .u32 0] K h:=by
 refine za2o (size:=1) l c hl hc hlc (by omega) (by omega) rfl fun x h' hx _ ho=>H x h' hx ?_
 rw [zab1] at ho; exact ho
theorem zt9 {h0 h:Hp} {x:Sl} {l:List Nat} {v:Int} {K:Sl→Hp→Prop} (n:Nat) (ho:OwnW h0 h x l) (hv:v=n) (hb:l.length<35184372088832)
 (H:∀y h',OwnW h0 h' y (l++[n])→K y h'):appP 1 4 [.int .u32 0] x 1 [.int .u32 v] K h:=by
 subst hv
 have hl:=ho.len
 refine zhz ho (n:=1) rfl rfl rfl (by omega) (by omega) fun y h' hy hyl=>H y h' ?_
 unfold OwnW
 rw [za4f]; exact hy
theorem u64n {n:Nat} (h:n<18446744073709551616):IntKind.u64.wrap (n:Int)=(n:Int):=wu64 (by omega)
theorem u32n (n:Nat):IntKind.u32.wrap (n:Int)=((n % W:Nat):Int):=by
 simp [IntKind.wrap,IntKind.signed,IntKind.bits,W]
theorem i64n {n:Nat} (h:n<9223372036854775808):IntKind.i64.wrap (n:Int)=(n:Int):=w64 (by omega)
theorem shr32 (n:Nat):((n:Int)).fdiv (2 ^ (min (32:Int).toNat IntKind.u64.bits))=((n/W:Nat):Int):=by
 have:(2:Int) ^ (min (32:Int).toNat IntKind.u64.bits)=((4294967296:Nat):Int):=by decide
 rw [this]
 show ((n:Int)).fdiv ((4294967296:Nat):Int)=((n/4294967296:Nat):Int)
 exact Int.ofNat_fdiv n 4294967296 |>.symm
theorem mac {c x y z:Nat} (hc:c<W) (hx:x<W) (hy:y<W) (hz:z<W) :
 IntKind.u64.wrap ((c:Int)+IntKind.u64.wrap (IntKind.u64.wrap (IntKind.u64.wrap (x:Int)*IntKind.u64.wrap (y:Int))+IntKind.u64.wrap (z:Int)))=((c+(x*y+z):Nat):Int):=by
 unfold W at *
 have hxy:x*y≤4294967295*4294967295:=Nat.mul_le_mul (by omega) (by omega)
 rw [u64n (n:=x) (by omega),u64n (n:=y) (by omega),u64n (n:=z) (by omega)]
 rw [show ((x:Int)*(y:Int))=((x*y:Nat):Int) by simp,u64n (n:=x*y) (by omega)]
 rw [show (((x*y:Nat):Int)+(z:Int))=((x*y+z:Nat):Int) by simp,u64n (n:=x*y+z) (by omega)]
 rw [show ((c:Int)+((x*y+z:Nat):Int))=((c+(x*y+z):Nat):Int) by simp,u64n (by omega)]
theorem za2n {c x y z:Nat} (hc:c<W) (hx:x<W) (hy:y<W) (hz:z<W):(c+(x*y+z))/W<W:=by
 rw [Nat.div_lt_iff_lt_mul W_pos]
 unfold W at *
 have hxy:x*y≤4294967295*4294967295:=Nat.mul_le_mul (by omega) (by omega)
 omega
end Den
end

section
namespace Den
open Go Iv
namespace Hp
def del (h:Hp) (b:Nat):Hp:=fun k=>if k=b then none else h k
def one (h:Hp) (b:Nat):Hp:=fun k=>if k=b then h k else none
theorem del_le (h:Hp) (b:Nat):(h.del b).le h:=fun k B hk=>by
 unfold del at hk; split at hk
 · cases hk
 · exact hk
theorem del_same (h:Hp) (b:Nat):(h.del b) b=none:=by simp [del]
theorem add_assoc' (a b c:Hp):(a.add b).add c=a.add (b.add c):=by
 funext k; unfold add; cases a k<;>rfl
end Hp
theorem zw4 {α:Type} {G:(α→Hp→Prop)→Hp→Prop} {K1 K:α→Hp→Prop} {D O:Hp} (hd:D.dj O) (H:callP G K1 D) (k:∀v D',D.le D'→D'.dj O→K1 v D'→K v (D'.add O)):callP G K (D.add O):=by
 obtain ⟨D1,O1,Q,h1,h2,h3,h4⟩:=H
 refine ⟨D1,O1.add O,Q,?_,?_,h3,fun v D' hq=>⟨(h4 v D' hq).1,fun hdj hfin=>?_⟩⟩
 · intro k
   rcases h1 k with h5 | h5
   · exact .inl h5
   · rcases hd k with h6 | h6
     · rw [h2] at h6; exact .inl (Hp.add_none.1 h6).1
     · exact .inr (Hp.add_none.2 ⟨h5,h6⟩)
 · rw [h2,Hp.add_assoc']
 · have h5:=h4 v D' hq
   have hdj1:D'.dj O1:=fun k=>by
    rcases hdj k with h6 | h6
    · exact .inl h6
    · exact .inr (Hp.add_none.1 h6).1
   have hdj2:(D'.add O1).dj O:=fun k=>by
    rcases hdj k with h6 | h6
    · rcases hd k with h7 | h7
      · rw [h2] at h7; exact .inl (Hp.add_none.2 ⟨h6,(Hp.add_none.1 h7).2⟩)
      · exact .inr h7
    · exact .inr (Hp.add_none.1 h6).2
   have hfin1:(D'.add O1).Fin:=Hp.Fin.sub hfin fun k hk=>by
    rw [←Hp.add_assoc'] at hk; exact (Hp.add_none.1 hk).1
   have h6:=h5.2 hdj1 hfin1
   rw [←Hp.add_assoc']
   refine k v _ ?_ hdj2 h6
   rw [h2]
   exact Hp.add_mono h5.1 hdj1
end Den
end

section
namespace Den
open Go Iv
section
variable {h : Hp} {x y : Sl} {l m : List Nat} {Ks : Sl → Hp → Prop} {Ki : Int → Hp → Prop} {Kb : Bool → Hp → Prop}
def InM (y x:Sl):Prop:=∀a,y.a=some a→∃a',x.a=some a'∧a.block=a'.block
theorem InM.rfl {x:Sl}:InM x x:=fun a ha=>⟨a,ha,Eq.refl _⟩
theorem InM.trans {x y z:Sl} (h1:InM x y) (h2:InM y z):InM x z:=fun a ha=>by
 obtain ⟨a',h3,h4⟩:=h1 a ha
 obtain ⟨a2,h5,h6⟩:=h2 a' h3
 exact ⟨a2,h5,h4.trans h6⟩
theorem InM.cut {x:Sl} {lo hi n:Nat}:InM (x.cut lo hi n) x:=fun a ha=>by
 have ha':(if x.cap=lo then x.a else x.a.map (·.add (lo*n)))=some a:=ha
 split at ha'
 · exact ⟨a,ha',Eq.refl _⟩
 · cases hx:x.a with
   | none=>rw [hx] at ha'; cases ha'
   | some a'=>
     rw [hx] at ha'
     simp only [Option.map_some,Option.some.injEq] at ha'
     subst ha'
     exact ⟨a',Eq.refl _,zbf _ _⟩
theorem zob {Kf:Sl→Hp→Prop} (hr:RdW h x l) (hl:l.length<4611686018427387904) (H:∀y,RdW h y (trimL l)→InM y x→Kf y h) :
 loopP (S:=Sl×Unit) (fun s1 k2 h1=>
  (joinP (S:=Unit) (fun s3 h2=>(slP s1.1 0 (IntKind.i64.wrap ((s1.1.len:Int)-1)) 1 fun c5=>(k2 (c5,()) h2)))
  (fun k4=>(ifP (decide ((s1.1.len:Int)>0)) (idxP s1.1 (IntKind.i64.wrap ((s1.1.len:Int)-1)) 1 fun a6=>(ldL (.int .u32) a6 (fun x7=>(ifP (x7==0) (k4 () h1) (Kf s1.1 h1))) h1)) (Kf s1.1 h1)))))
  (x,()) h:=by
 refine zau (fun st h'=>h'=h∧∃(y:Sl) (k:Nat),st=(y,())∧k≤l.length∧RdW h y (l.take k)∧trimL (l.take k)=trimL l∧InM y x) (fun st=>st.1.len)
  ⟨rfl,x,l.length,rfl,Nat.le_refl _,by rw [List.take_of_length_le (Nat.le_refl _)]; exact hr,by rw [List.take_of_length_le (Nat.le_refl _)],InM.rfl⟩ ?_
 rintro st h' ⟨rfl,y,k,rfl,hk,hy,ht,hsub⟩
 have hyl:=hy.len
 rw [List.length_take,Nat.min_eq_left hk] at hyl
 refine za3 (fun _ h1=>h1=h'∧∃j,k=j+1∧∃hj:j<l.length,l[j]=0) ?_ ?_
 · rintro _ h1 ⟨rfl,j,rfl,hj,h0⟩
   refine za7b 0 j hy rfl (by simp only; rw [hyl,w64 (by omega)]; omega) (Nat.zero_le _) (by rw [List.length_take]; omega) fun hc=>?_
   have e:((l.take (j+1)).drop 0).take (j-0)=l.take j:=by
    rw [List.drop_zero,Nat.sub_zero,List.take_take]; congr 1; omega
   rw [e] at hc
   refine ⟨⟨rfl,_,j,rfl,by omega,hc,?_,InM.cut.trans hsub⟩,?_⟩
   · rw [←ht,List.take_succ_eq_append_getElem hj,h0,zjb]
   · show j-0<y.len; omega
 · refine za0 (fun h1=>?_) (fun h1=>?_)
   · simp only at h1
     obtain ⟨j,rfl⟩:∃j,k=j+1:=⟨k-1,by omega⟩
     have hj:j<l.length:=by omega
     refine zaq j hy (by simp only; rw [hyl,w64 (by omega)]; omega) (by rw [List.length_take]; omega) fun a ha=>⟨_,ha,?_⟩
     have e:(l.take (j+1))[j]'(by rw [List.length_take]; omega)=l[j]:=by simp
     rw [e]
     refine zaa (fun h2=>⟨rfl,j,rfl,hj,by omega⟩) (fun h2=>?_)
     have h3:l[j]≠0:=by omega
     have:trimL (l.take (j+1))=l.take (j+1):=by
      rw [List.take_succ_eq_append_getElem hj,zk0 _ h3]
     rw [←ht,this] at H
     exact H y hy hsub
   · simp only at h1
     have:k=0:=by omega
     subst this
     rw [←ht] at H
     exact H y hy hsub
theorem za7d (hr:RdW h x l) (hl:l.length<4611686018427387904) (H:∀y,RdW h y (trimL l)→Ks y h):F.zae x Ks h:=zob hr hl fun y hy _=>H y hy
theorem za5h (hr:RdW h x l) (hl:l.length<4611686018427387904) (H:∀y,RdW h y (trimL l)→Ks y h):F.zbh x Ks h:=zob hr hl fun y hy _=>H y hy
theorem zr6 (hr:RdW h x l) (hl:l.length<4611686018427387904) (H:∀y,RdW h y (trimL l)→InM y x→Ks y h):callP (F.zae x) Ks h:=
 za1 (fun y h'=>h'=h∧RdW h y (trimL l)∧InM y x) (fun K' hk=>zob hr hl fun y hy hs=>hk y h (Hp.le_refl _) ⟨rfl,hy,hs⟩) fun y h' _ ⟨e,hy,hs⟩=>by subst e; exact H y hy hs
theorem zlv (hr:RdW h x l) (hl:l.length<4611686018427387904) (H:∀y,RdW h y (trimL l)→InM y x→Ks y h):callP (F.zbh x) Ks h:=zr6 hr hl H
theorem zex (hr:RdW h x l) (hl:l.length<4611686018427387904) (H:∀y,RdW h y (trimL l)→Ks y h):callP (F.zae x) Ks h:=
 za1 (fun y h'=>h'=h∧RdW h y (trimL l)) (fun K' hk=>za7d hr hl fun y hy=>hk y h (Hp.le_refl _) ⟨rfl,hy⟩) fun y h' _ ⟨e,hy⟩=>by subst e; exact H y hy
theorem zdm (hr:RdW h x l) (hl:l.length<4611686018427387904) (H:∀y,RdW h y (trimL l)→Ks y h):callP (F.zbh x) Ks h:=
 za1 (fun y h'=>h'=h∧RdW h y (trimL l)) (fun K' hk=>za5h hr hl fun y hy=>hk y h (Hp.le_refl _) ⟨rfl,hy⟩) fun y h' _ ⟨e,hy⟩=>by subst e; exact H y hy
theorem zzg {Kf:Sl→Hp→Prop} {h0:Hp} {a b:Sl} {la lb:List Nat} (ha:RdW h0 a la) (hb:RdW h0 b lb) (oa:okW la) (ob:okW lb) (hl:la.length+lb.length≤35184372088800)
 (ho:OwnW h0 h x (List.replicate (la.length+lb.length) 0)) (H:∀h' l,OwnW h0 h' x l→okW l→l.length=la.length+lb.length→vl l=vl la*vl lb→Kf x h') :
 loopP (S:=Int×Unit) (fun s4 k5 h3=>
  (ifP (decide (s4.1<(a.len:Int)))
  (idxP a s4.1 1 fun a6=>
  (ldL (.int .u32) a6 (fun x7=>
  (loopP (S:=Int×Int×Unit) (fun s8 k9 h4=>
  (ifP (decide (s8.2.1<(b.len:Int)))
  (idxP b s8.2.1 1 fun a10=>
  (ldL (.int .u32) a10 (fun x11=>
  (idxP x (IntKind.i64.wrap (s4.1+s8.2.1)) 1 fun a12=>
  (ldL (.int .u32) a12 (fun x13=>
  (idxP x (IntKind.i64.wrap (s4.1+s8.2.1)) 1 fun a14=>
  (stP a14 [.int .u32 (IntKind.u32.wrap ((IntKind.u64.wrap (s8.1+(IntKind.u64.wrap ((IntKind.u64.wrap ((IntKind.u64.wrap (x7))*(IntKind.u64.wrap (x11))))+(IntKind.u64.wrap (x13))))))))] (fun h5=>
  (0≤(32:Int) ∧
  (k9 (((IntKind.u64.wrap (s8.1+(IntKind.u64.wrap ((IntKind.u64.wrap ((IntKind.u64.wrap (x7))*(IntKind.u64.wrap (x11))))+(IntKind.u64.wrap (x13)))))):Int).fdiv (2 ^ (min (32:Int).toNat IntKind.u64.bits)),(IntKind.i64.wrap (s8.2.1+1)),()) h5))) h4))) h4))) h4))
  (idxP x (IntKind.i64.wrap (s4.1+(b.len:Int))) 1 fun a15=>
  (stP a15 [.int .u32 (IntKind.u32.wrap (s8.1))] (fun h6=>
  (k5 ((IntKind.i64.wrap (s4.1+1)),()) h6)) h4))))
  (0,0,()) h3)) h3))
  (Kf x h3)))
  (0,()) h:=by
 have hal:=ha.len
 have hbl:=hb.len
 refine zau (fun st h'=>∃(i:Nat) (l:List Nat),st=((i:Int),())∧i≤la.length∧OwnW h0 h' x l∧okW l∧l.length=la.length+lb.length∧vl l=vl (la.take i)*vl lb∧∀j (hj:j<l.length),i+lb.length≤j→l[j]=0)
  (fun st=>((la.length:Int)-st.1).toNat) ⟨0,_,rfl,Nat.zero_le _,ho,zhg _,by simp,by rw [zvl]; simp [vl],fun j hj _=>by simp⟩ ?_
 rintro st h1 ⟨i,l,rfl,hi,ho1,okl,hll,hv,hz⟩
 refine za0 (fun h2=>?_) (fun h2=>?_)
 · simp only at h2
   have hi':i<la.length:=by omega
   have hxi:=zc1 oa hi'
   refine zaq i (ha.le ho1.1) rfl hi' fun aa haa=>⟨_,haa,?_⟩
   refine zau (fun st h'=>∃(k c:Nat) (l':List Nat),st=((c:Int),(k:Int),())∧k≤lb.length∧c<W∧OwnW h0 h' x l'∧okW l'∧l'.length=la.length+lb.length ∧
    vl l'+W ^ (i+k)*c=vl l+W ^ i*(la[i]*vl (lb.take k))∧∀j (hj:j<l'.length),i+lb.length≤j→l'[j]=0)
    (fun st=>((lb.length:Int)-st.2.1).toNat) ⟨0,0,l,rfl,Nat.zero_le _,by decide,ho1,okl,hll,by simp [vl],hz⟩ ?_
   rintro st h3 ⟨k,c,l',rfl,hk,hc,ho3,okl',hll',hv',hz'⟩
   refine za0 (fun h4=>?_) (fun h4=>?_)
   · simp only at h4
     have hk':k<lb.length:=by omega
     have hyk:=zc1 ob hk'
     have hik:i+k<l'.length:=by omega
     have hzk:=zc1 okl' hik
     have wik:IntKind.i64.wrap ((i:Int)+(k:Int))=((i+k:Nat):Int):=by rw [w64 (by omega)]; omega
     refine zaq k (hb.le ho3.1) rfl hk' fun a1 ha1=>⟨_,ha1,?_⟩
     simp only
     rw [wik]
     refine zaq (i+k) ho3.rdW rfl hik fun a2 ha2=>⟨_,ha2,?_⟩
     simp only
     rw [mac hc hxi hyk hzk]
     refine zea (i+k) _ ho3 rfl hik (u32n _) fun h5 b5 _ _ _ ho5=>⟨by decide,?_⟩
     rw [shr32]
     refine ⟨⟨k+1,_,_,by rw [w64 (by omega)]; rfl,by omega,za2n hc hxi hyk hzk,ho5,zd3 okl' (Nat.mod_lt _ W_pos),by simp [hll'],?_,?_⟩,by rw [w64 (by omega)]; omega⟩
     · have e1:=ziq (l:=l') (k:=i+k) (v:=(c+(la[i]*lb[k]+l'[i+k])) % W) hik
       have e2:=Nat.mod_add_div (c+(la[i]*lb[k]+l'[i+k])) W
       have e3:=zbq hk'
       rw [e3]
       generalize vl (l'.set (i+k) ((c+(la[i]*lb[k]+l'[i+k])) % W))=V at e1 ⊢
       generalize hr:(c+(la[i]*lb[k]+l'[i+k])) % W=r at *
       generalize hq:(c+(la[i]*lb[k]+l'[i+k]))/W=q at *
       generalize vl l'=V' at *
       generalize vl l=V0 at *
       generalize l'[i+k]=z at *
       generalize la[i]=xx at *
       generalize lb[k]=yy at *
       generalize vl (lb.take k)=T at *
       have p1:W ^ (i+(k+1))=W ^ (i+k)*W:=by rw [←Nat.add_assoc,Nat.pow_succ]
       have p2:W ^ (i+k)=W ^ i*W ^ k:=Nat.pow_add ..
       rw [p1]
       generalize W ^ (i+k)=P at *
       subst p2
       generalize W ^ i=Pi at *
       generalize W ^ k=Pk at *
       grind
     · intro j hj hjl
       rw [List.length_set] at hj
       rw [List.getElem_set_ne (by omega)]
       exact hz' j hj hjl
   · simp only at h4
     have hk':k=lb.length:=by omega
     subst hk'
     have hil:i+lb.length<l'.length:=by omega
     have w1:IntKind.i64.wrap ((i:Int)+(b.len:Int))=((i+lb.length:Nat):Int):=by rw [hbl,w64 (by omega)]; omega
     simp only
     rw [w1]
     refine zea (i+lb.length) c ho3 rfl hil (by rw [u32n,Nat.mod_eq_of_lt hc]) fun h5 b5 _ _ _ ho5=>?_
     refine ⟨⟨i+1,_,by rw [w64 (by omega)]; rfl,by omega,ho5,zd3 okl' hc,by simp [hll'],?_,?_⟩,by rw [w64 (by omega)]; omega⟩
     · have e1:=ziq (l:=l') (k:=i+lb.length) (v:=c) hil
       rw [hz' _ hil (Nat.le_refl _)] at e1
       rw [List.take_of_length_le (Nat.le_refl _)] at hv'
       rw [zbq hi',Nat.add_mul]
       rw [Nat.mul_assoc]
       omega
     · intro j hj hjl
       rw [List.length_set] at hj
       rw [List.getElem_set_ne (by omega)]
       exact hz' j hj (by omega)
 · simp only at h2
   have:i=la.length:=by omega
   subst this
   rw [List.take_of_length_le (Nat.le_refl _)] at hv
   exact H h1 l ho1 okl hll hv
end
end Den
end

section
namespace Den
open Go Iv
theorem znq {α:Type} {G:(α→Hp→Prop)→Hp→Prop} {K:α→Hp→Prop} {h:Hp} (R:α→Prop) (H:∀K':α→Hp→Prop,(∀v,R v→K' v h)→G K' h) (k:∀v,R v→K v h):callP G K h:=
 za1 (fun v h'=>h'=h∧R v) (fun K' hk=>H K' fun v hv=>hk v h (Hp.le_refl _) ⟨rfl,hv⟩) fun v h' _ ⟨e,hv⟩=>by subst e; exact k v hv
def cmpN (m n:Nat):Int:=if m<n then -1 else if n<m then 1 else 0
def sg (neg:Bool) (n:Nat):Int:=if neg=true then -(n:Int) else n
def NI (h:Hp) (x:TInt) (n:Int):Prop:=RdW h x.mag (dg n.natAbs)∧x.neg=decide (n<0)
theorem NI.le {h h':Hp} {x:TInt} {n:Int} (hx:NI h x n) (hl:h.le h'):NI h' x n:=⟨hx.1.le hl,hx.2⟩
theorem NI.zero {h:Hp}:NI h ⟨false,nilS⟩ 0:=⟨by rw [show (0:Int).natAbs=0 from rfl,zc5]; exact RdW.nil,by simp⟩
theorem zoc:∀{a b:List Nat} (i:Nat),okW a→okW b→a.length=b.length→(hi:i<a.length)→(hi':i<b.length)→a.drop (i+1)=b.drop (i+1)→a[i]<b[i]→vl a<vl b
 | [],_,i,_,_,_,hi,_,_,_=>by simp at hi
 | x :: r,[],i,_,_,hl,_,_,_,_=>by simp at hl
 | x :: r,y :: t,0,ha,hb,hl,hi,hi',hd,hlt=>by
   simp only [Nat.zero_add,List.drop_succ_cons,List.drop_zero] at hd
   subst hd
   simp only [List.getElem_cons_zero] at hlt
   simp only [vl]; omega
 | x :: r,y :: t,i+1,ha,hb,hl,hi,hi',hd,hlt=>by
   obtain ⟨hx,hr⟩:=zok ha
   obtain ⟨hy,ht⟩:=zok hb
   have:=zoc (a:=r) (b:=t) i hr ht (by simpa using hl) (by simpa using hi) (by simpa using hi') (by simpa using hd) (by simpa using hlt)
   simp only [vl]
   have h2:W*(vl r+1)≤W*vl t:=Nat.mul_le_mul_left _ this
   rw [Nat.mul_add] at h2; omega
theorem zlb {m n:Nat} (h:(dg m).length<(dg n).length):m<n:=by
 rcases Nat.lt_or_ge m n with h1 | h1
 · exact h1
 · exfalso
   have h2:=zbn.1 (Nat.le_refl (dg m).length)
   have h3:(dg n).length≤(dg m).length:=zbn.2 (Nat.lt_of_le_of_lt h1 h2)
   omega
section
variable {h : Hp} {x y : Sl} {l m : List Nat} {Ks : Sl → Hp → Prop} {Ki : Int → Hp → Prop} {Kb : Bool → Hp → Prop} {KI : TInt → Hp → Prop}
theorem zr3 (neg:Bool) (n:Nat):(sg neg n).natAbs=n:=by unfold sg; split<;>simp
theorem za3e {neg:Bool} (hr:RdW h x l) (ok:okW l) (hl:l.length<4611686018427387904) (H:∀y,NI h y (sg neg (vl l))→KI y h):F.zby neg x KI h:=by
 unfold F.zby
 refine zex hr hl fun y hy=>?_
 rw [zc9 ok] at hy
 have hyl:=hy.len
 refine zaa (fun h1=>?_) (fun h1=>?_)
 · have h0:vl l=0:=zes.1 (List.length_eq_zero_iff.1 (by omega))
   refine H _ ?_
   rw [h0]
   have:sg neg 0=0:=by unfold sg; split<;>rfl
   rw [this]; exact NI.zero
 · refine H _ ⟨by rw [zr3]; exact hy,?_⟩
   have hpos:vl l≠0:=fun h0=>by rw [h0,zc5] at hyl; exact h1 (by rw [hyl]; rfl)
   unfold sg
   cases neg
   · simp
   · simp; omega
theorem zz6 {neg:Bool} (hr:RdW h x l) (ok:okW l) (hl:l.length<4611686018427387904) (H:∀y,NI h y (sg neg (vl l))→KI y h):F.zd4 neg x KI h:=by
 unfold F.zd4
 refine zdm hr hl fun y hy=>?_
 rw [zc9 ok] at hy
 have hyl:=hy.len
 have hz:(vl l=0)↔(dg (vl l)).length=0:=by rw [List.length_eq_zero_iff,zes]
 refine za7 (fun h1=>?_) (fun h1=>?_)
 · refine H _ ⟨by rw [zr3]; exact hy,?_⟩
   rw [h1]
   unfold sg
   simp only [if_true]
   congr 1
   apply propext
   omega
 · refine H _ ⟨by rw [zr3]; exact hy,?_⟩
   rw [h1]
   unfold sg
   simp
theorem zly {neg:Bool} (hr:RdW h x l) (ok:okW l) (hl:l.length<4611686018427387904) (H:∀y,NI h y (sg neg (vl l))→KI y h):callP (F.zby neg x) KI h:=
 znq _ (fun K'=>za3e hr ok hl) H
theorem zv5 {neg:Bool} (hr:RdW h x l) (ok:okW l) (hl:l.length<4611686018427387904) (H:∀y,NI h y (sg neg (vl l))→KI y h):callP (F.zd4 neg x) KI h:=
 znq _ (fun K'=>zz6 hr ok hl) H
theorem zmq (hr:RdW h x l) (hl:l.length≤35184372088800) (H:∀y h',h.le h'→RdW h' y l→Ks y h'):callP (F.zb1 x) Ks h:=by
 refine za1 (fun y h'=>RdW h' y l) (fun K' hk=>?_) H
 unfold F.zb1
 have hlen:=hr.len
 refine za7 (fun h1=>?_) (fun h1=>?_)
 · have hn:x.a=none:=by cases hx:x.a with | none=>rfl | some a=>rw [hx] at h1; cases h1
   have:l=[]:=by
    have h2:=hr.1.2
    rw [hn] at h2
    simp only [cellsAtO] at h2
    split at h2
    · rename_i h3; rw [zhn] at h3; exact List.length_eq_zero_iff.1 h3
    · cases h2
   subst this
   exact hk _ _ (Hp.le_refl _) RdW.nil
 · refine zi1 (n:=0) (size:=1) rfl fun b h1 hb ho=>?_
   have hr1:=hr.le ho.1
   refine ⟨wc l,?_,?_⟩
   · have:=hr1.1.2
     rw [zhn] at this
     rw [hlen,Nat.mul_one]; exact this
   · refine zhz ho (n:=x.len) (by rw [zhn]; omega) rfl ?_ (by simp only; omega) (by simp only; omega) fun y h2 hy _=>hk _ _ hy.1 ⟨hy.rd,hy.2.2.1⟩
     simp [wc,Value.leaf]
theorem zwe {n:Nat} (hn:n<18446744073709551616) (H:∀y h',h.le h'→RdW h' y (dg n)→Ks y h'):F.zc3 n Ks h:=by
 unfold F.zc3
 refine ⟨by decide,?_⟩
 rw [u32n,shr32,u32n]
 have hq:n/W<W:=by unfold W; omega
 rw [Nat.mod_eq_of_lt hq]
 refine zi1 (n:=2) (size:=1) rfl fun b h1 hb ho=>?_
 have ho':OwnW h h1 ⟨some ⟨b,0,none⟩,2,2⟩ [n % W,n/W]:=ho
 have ok:okW [n % W,n/W]:=fun d hd=>by
  simp only [List.mem_cons,List.not_mem_nil,or_false] at hd
  rcases hd with rfl | rfl
  · exact Nat.mod_lt _ W_pos
  · exact hq
 refine zex ho'.rdW (by simp) fun y hy=>?_
 rw [zc9 ok] at hy
 have:vl [n % W,n/W]=n:=by simp only [vl,Nat.mul_zero,Nat.add_zero]; exact Nat.mod_add_div n W
 rw [this] at hy
 exact H _ _ ho.1 hy
theorem zfs {n:Nat} {i:Int} (hi:i=n) (hn:n<18446744073709551616) (H:∀y h',h.le h'→RdW h' y (dg n)→Ks y h'):callP (F.zc3 i) Ks h:=by
 subst hi
 exact za1 _ (fun K'=>zwe hn) H
theorem za65 {n:Nat} (hn:n<18446744073709551616) (H:∀y h',h.le h'→RdW h' y (dg n)→Ks y h'):F.zdl n Ks h:=by
 unfold F.zdl
 refine ⟨by decide,?_⟩
 rw [u32n,shr32,u32n]
 have hq:n/W<W:=by unfold W; omega
 rw [Nat.mod_eq_of_lt hq]
 refine zi1 (n:=2) (size:=1) rfl fun b h1 hb ho=>?_
 have ho':OwnW h h1 ⟨some ⟨b,0,none⟩,2,2⟩ [n % W,n/W]:=ho
 have ok:okW [n % W,n/W]:=fun d hd=>by
  simp only [List.mem_cons,List.not_mem_nil,or_false] at hd
  rcases hd with rfl | rfl
  · exact Nat.mod_lt _ W_pos
  · exact hq
 refine zdm ho'.rdW (by simp) fun y hy=>?_
 rw [zc9 ok] at hy
 have:vl [n % W,n/W]=n:=by simp only [vl,Nat.mul_zero,Nat.add_zero]; exact Nat.mod_add_div n W
 rw [this] at hy
 exact H _ _ ho.1 hy
theorem zir {n:Nat} {i:Int} (hi:i=n) (hn:n<18446744073709551616) (H:∀y h',h.le h'→RdW h' y (dg n)→Ks y h'):callP (F.zdl i) Ks h:=by
 subst hi
 exact za1 _ (fun K'=>za65 hn) H
theorem or32 {a b:Nat} (ha:a<W) (hb:b<W):ibits .or .u64 (IntKind.u64.wrap ((a:Int)*2 ^ (min (32:Int).toNat IntKind.u64.bits))) (IntKind.u64.wrap (b:Int))=((a*W+b:Nat):Int):=by
 have e1:((a:Int)*2 ^ (min (32:Int).toNat IntKind.u64.bits))=((a*W:Nat):Int):=by
  have:(2:Int) ^ (min (32:Int).toNat IntKind.u64.bits)=((W:Nat):Int):=by decide
  rw [this]; simp
 unfold W at *
 rw [e1,u64n (n:=a*4294967296) (by omega),u64n (n:=b) (by omega)]
 unfold ibits
 simp only [IntKind.bits]
 have h1:(BitVec.ofInt 64 ((a*4294967296:Nat):Int) ||| BitVec.ofInt 64 (b:Int)).toNat=a*4294967296+b:=by
  rw [BitVec.ofInt_natCast,BitVec.ofInt_natCast,BitVec.toNat_or,BitVec.toNat_ofNat,BitVec.toNat_ofNat,Nat.mod_eq_of_lt (by omega),Nat.mod_eq_of_lt (by omega)]
  have:=Nat.two_pow_add_eq_or_of_lt (i:=32) (b:=b) (by omega) a
  rw [Nat.mul_comm (2 ^ 32) a] at this
  exact this.symm
 exact (congrArg (fun z:Nat=>IntKind.u64.wrap (z:Int)) h1).trans (u64n (by omega))
theorem za46 (hr:RdW h x l) (ok:okW l) (hl:l.length≤2) (H:∀h',h.le h'→Ki (vl l:Int) h'):F.zcu x Ki h:=by
 unfold F.zcu
 refine za1 (fun (a:Addr) h'=>h'.cell a=some (.slice x.a x.len x.cap)) (fun K' hk=>?_) fun a h1 l1 ha=>?_
 · unfold F.zbr
   intro b e hb
   refine hk _ _ (Hp.le_ins hb) ?_
   unfold Hp.cell
   simp [Hp.ins_same]
 · have hlen:=hr.len
   refine ⟨x,fun k s h'=>h1.le h'∧k≤l.length∧s=((((vl (l.drop k):Nat):Int),()),()),by omega,⟨Hp.le_refl _,by omega,?_⟩,fun i s h' hI=>?_,fun i s h' hi hI=>?_,fun s h' hI=>?_⟩
   · rw [hlen,List.drop_eq_nil_of_le (Nat.le_refl _)]; rfl
   · exact Hp.cell_le hI.1 ha
   · obtain ⟨hl',hk,rfl⟩:=hI
     have hi':i<l.length:=by omega
     have hr':=(hr.le l1).le hl'
     have h2:=hr'.1.2
     cases hxa:x.a with
     | none=>
       rw [hxa] at h2
       simp only [cellsAtO] at h2
       split at h2
       · rename_i h3; rw [zhn] at h3; omega
       · cases h2
     | some ad=>
       rw [hxa] at h2
       simp only [cellsAtO] at h2
       have hxi:=zc1 ok hi'
       refine ⟨ad,(l[i]:Int),rfl,fun j u hj=>?_,by decide,hl',by omega,?_⟩
       · have hj0:j=0:=by
          rcases Nat.eq_zero_or_pos j with h3 | h3
          · exact h3
          · exfalso
            have:((STy.leaf (.int .u32)).cells (l[i]:Int))[j]?=none:=by
             apply List.getElem?_eq_none
             simp only [STy.cells,List.length_singleton]; omega
            rw [this] at hj; cases hj
         subst hj0
         simp only [STy.cells,List.getElem?_cons_zero,Option.some.injEq] at hj
         subst hj
         refine zg0 h2 _ _ ?_
         simp [wc,STy.size,hi',Lf.up]
       · have hd:l.drop i=l[i] :: l.drop (i+1):=List.drop_eq_getElem_cons hi'
         rw [hd]
         simp only [vl]
         have hsm:vl (l.drop (i+1))<W:=by
          have:=vl_lt (ziy ok (i+1))
          rw [List.length_drop] at this
          refine Nat.lt_of_lt_of_le this ?_
          have h3:l.length-(i+1)≤1:=by omega
          exact Nat.le_trans (Nat.pow_le_pow_right W_pos h3) (by simp)
         rw [or32 hsm hxi]
         congr 2
         congr 1
         rw [Nat.mul_comm]; omega
   · obtain ⟨hl',hk,rfl⟩:=hI
     exact H _ (Hp.le_trans l1 hl')
theorem zjm (hr:RdW h x l) (ok:okW l) (hl:l.length≤2) (H:∀h',h.le h'→Ki (vl l:Int) h'):callP (F.zcu x) Ki h:=
 za1 (fun v _=>v=(vl l:Int)) (fun K' hk=>za46 hr ok hl fun h' hl'=>hk _ _ hl' rfl) fun v h' hl' hv=>by subst hv; exact H h' hl'
theorem za5o (hr:RdW h x l) (ok:okW l) (hl:l.length≤2) (H:Ki (vl l:Int) h):F.zg7 x Ki h:=by
 unfold F.zg7
 have hlen:=hr.len
 refine zau (fun st h'=>h'=h∧∃k:Nat,k≤l.length∧st=(((vl (l.drop k):Nat):Int),(k:Int)-1,())) (fun st=>(st.2.1+1).toNat)
  ⟨rfl,l.length,Nat.le_refl _,by rw [List.drop_eq_nil_of_le (Nat.le_refl _),hlen,w64 (by omega)]; rfl⟩ ?_
 rintro st h' ⟨rfl,k,hk,rfl⟩
 refine za0 (fun h1=>?_) (fun h1=>?_)
 · simp only at h1
   obtain ⟨i,rfl⟩:∃i,k=i+1:=⟨k-1,by omega⟩
   have hi':i<l.length:=by omega
   have hxi:=zc1 ok hi'
   refine ⟨by decide,zaq i hr (by simp only; omega) hi' fun a ha=>⟨_,ha,?_⟩⟩
   have hsm:vl (l.drop (i+1))<W:=by
    have:=vl_lt (ziy ok (i+1))
    rw [List.length_drop] at this
    refine Nat.lt_of_lt_of_le this ?_
    have h3:l.length-(i+1)≤1:=by omega
    exact Nat.le_trans (Nat.pow_le_pow_right W_pos h3) (by simp)
   simp only
   rw [or32 hsm hxi]
   refine ⟨⟨by trivial,i,by omega,?_⟩,by rw [w64 (by omega)]; omega⟩
   rw [List.drop_eq_getElem_cons hi',w64 (by omega)]
   simp only [vl]
   congr 1
   · congr 1; rw [Nat.mul_comm]; omega
   · congr 1; omega
 · simp only at h1
   obtain rfl:k=0:=by omega
   exact H
theorem zr4 (hr:RdW h x l) (ok:okW l) (hl:l.length≤2) (H:Ki (vl l:Int) h):callP (F.zg7 x) Ki h:=zah _ (fun K'=>za5o hr ok hl) H
theorem zox {a b:Int} (H:Ki (if a<b then -1 else if b<a then 1 else 0) h):callP (F.zep a b) Ki h:=by
 refine zah _ (fun K' hk=>?_) H
 unfold F.zep
 have e:∀z:Int,(z != z)=false:=fun z=>by simp
 refine zah false (fun K' hk=>by unfold F.zfr; rw [e]; exact hk) (zah false (fun K' hk=>by unfold F.zfr; rw [e]; exact hk) ?_)
 refine zal rfl (zal rfl (za0 (fun h1=>?_) (fun h1=>za0 (fun h2=>?_) (fun h2=>?_))))
 · rw [if_pos h1] at hk; exact hk
 · rw [if_neg h1,if_pos h2] at hk; exact hk
 · rw [if_neg h1,if_neg h2] at hk; exact hk
theorem zw6 {a b:Int} (H:Ki (if a<b then -1 else if b<a then 1 else 0) h):callP (F.zeq a b) Ki h:=by
 refine zah _ (fun K' hk=>?_) H
 unfold F.zeq
 have e:∀z:Int,(z != z)=false:=fun z=>by simp
 refine zah false (fun K' hk=>by unfold F.zed; rw [e]; exact hk) (zah false (fun K' hk=>by unfold F.zed; rw [e]; exact hk) ?_)
 refine zal rfl (zal rfl (za0 (fun h1=>?_) (fun h1=>za0 (fun h2=>?_) (fun h2=>?_))))
 · rw [if_pos h1] at hk; exact hk
 · rw [if_neg h1,if_pos h2] at hk; exact hk
 · rw [if_neg h1,if_neg h2] at hk; exact hk
theorem zyb {m n:Nat} (hx:RdW h x (dg m)) (hy:RdW h y (dg n)) (hl:(dg m).length<4611686018427387904) (hl2:(dg n).length<4611686018427387904) (H:Ki (cmpN m n) h):F.zdz x y Ki h:=by
 unfold F.zdz
 have lx:=hx.len
 have ly:=hy.len
 refine zb7 (fun h1=>?_) (fun h1=>?_)
 · refine zox ?_
   unfold cmpN at H
   by_cases h2:(dg m).length<(dg n).length
   · rw [if_pos (zlb h2)] at H
     rw [if_pos (by omega)]; exact H
   · have h3:(dg n).length<(dg m).length:=by omega
     have h4:=zlb h3
     rw [if_neg (by omega),if_pos h4] at H
     rw [if_neg (by omega),if_pos (by omega)]; exact H
 · have hll:(dg m).length=(dg n).length:=by omega
   refine zau (fun st h'=>h'=h∧∃k:Nat,st=((k:Int)-1,())∧k≤(dg m).length∧(dg m).drop k=(dg n).drop k) (fun st=>(st.1+1).toNat)
    ⟨rfl,(dg m).length,by rw [lx,w64 (by omega)],Nat.le_refl _,by rw [List.drop_eq_nil_of_le (Nat.le_refl _),List.drop_eq_nil_of_le (by omega)]⟩ ?_
   rintro st h' ⟨rfl,k,rfl,hk,hd⟩
   refine za0 (fun h2=>?_) (fun h2=>?_)
   · simp only at h2
     obtain ⟨i,rfl⟩:∃i,k=i+1:=⟨k-1,by omega⟩
     have hi:i<(dg m).length:=by omega
     have hi':i<(dg n).length:=by omega
     refine zaq i hx (by simp only; omega) hi fun a ha=>⟨_,ha,?_⟩
     refine zaq i hy (by simp only; omega) hi' fun a ha=>⟨_,ha,?_⟩
     refine zb7 (fun h3=>?_) (fun h3=>?_)
     · refine zaq i hx (by simp only; omega) hi fun a ha=>⟨_,ha,?_⟩
       refine zaq i hy (by simp only; omega) hi' fun a ha=>⟨_,ha,?_⟩
       refine zw6 ?_
       unfold cmpN at H
       by_cases h4:(dg m)[i]<(dg n)[i]
       · have:=zoc i (ok_dg m) (ok_dg n) hll hi hi' hd h4
         rw [vl_dg,vl_dg] at this
         rw [if_pos this] at H
         rw [if_pos (by omega)]; exact H
       · have h5:(dg n)[i]<(dg m)[i]:=by omega
         have:=zoc i (ok_dg n) (ok_dg m) hll.symm hi' hi hd.symm h5
         rw [vl_dg,vl_dg] at this
         rw [if_neg (by omega),if_pos this] at H
         rw [if_neg (by omega),if_pos (by omega)]; exact H
     · refine ⟨⟨rfl,i,by simp only; rw [w64 (by omega)]; congr 1; omega,by omega,?_⟩,by simp only; rw [w64 (by omega)]; omega⟩
       rw [List.drop_eq_getElem_cons hi,List.drop_eq_getElem_cons hi',hd]
       congr 1; omega
   · simp only at h2
     obtain rfl:k=0:=by omega
     simp only [List.drop_zero] at hd
     have:m=n:=by rw [←vl_dg m,←vl_dg n,hd]
     subst this
     unfold cmpN at H
     rw [if_neg (Nat.lt_irrefl _),if_neg (Nat.lt_irrefl _)] at H
     exact H
theorem zns {m n:Nat} (hx:RdW h x (dg m)) (hy:RdW h y (dg n)) (hl:(dg m).length<4611686018427387904) (hl2:(dg n).length<4611686018427387904) (H:Ki (cmpN m n) h):callP (F.zdz x y) Ki h:=
 zah _ (fun K'=>zyb hx hy hl hl2) H
theorem zws {m n:Nat} (hx:RdW h x (dg m)) (hy:RdW h y (dg n)) (hl:(dg m).length<4611686018427387904) (hl2:(dg n).length<4611686018427387904) (H:Ki (cmpN m n) h):F.zen x y Ki h:=by
 unfold F.zen
 have lx:=hx.len
 have ly:=hy.len
 refine zb7 (fun h1=>?_) (fun h1=>?_)
 · unfold cmpN at H
   refine za0 (fun h2=>?_) (fun h2=>?_)
   · have h2':=Int.ofNat_lt.1 h2
     rw [if_pos (zlb (by omega))] at H; exact H
   · have h2':¬x.len<y.len:=fun hh=>h2 (Int.ofNat_lt.2 hh)
     have h3:(dg n).length<(dg m).length:=by omega
     have h4:=zlb h3
     rw [if_neg (by omega),if_pos h4] at H; exact H
 · have hll:(dg m).length=(dg n).length:=by omega
   refine zau (fun st h'=>h'=h∧∃k:Nat,st=((k:Int)-1,())∧k≤(dg m).length∧(dg m).drop k=(dg n).drop k) (fun st=>(st.1+1).toNat)
    ⟨rfl,(dg m).length,by rw [lx,w64 (by omega)],Nat.le_refl _,by rw [List.drop_eq_nil_of_le (Nat.le_refl _),List.drop_eq_nil_of_le (by omega)]⟩ ?_
   rintro st h' ⟨rfl,k,rfl,hk,hd⟩
   refine za0 (fun h2=>?_) (fun h2=>?_)
   · simp only at h2
     obtain ⟨i,rfl⟩:∃i,k=i+1:=⟨k-1,by omega⟩
     have hi:i<(dg m).length:=by omega
     have hi':i<(dg n).length:=by omega
     refine zaq i hx (by simp only; omega) hi fun a ha=>⟨_,ha,?_⟩
     refine zaq i hy (by simp only; omega) hi' fun a ha=>⟨_,ha,?_⟩
     unfold cmpN at H
     refine za0 (fun h3=>?_) (fun h3=>?_)
     · have:=zoc i (ok_dg m) (ok_dg n) hll hi hi' hd (Int.ofNat_lt.1 h3)
       rw [vl_dg,vl_dg] at this
       rw [if_pos this] at H; exact H
     · refine zaq i hx (by simp only; omega) hi fun a ha=>⟨_,ha,?_⟩
       refine zaq i hy (by simp only; omega) hi' fun a ha=>⟨_,ha,?_⟩
       refine za0 (fun h4=>?_) (fun h4=>?_)
       · have:=zoc i (ok_dg n) (ok_dg m) hll.symm hi' hi hd.symm (Int.ofNat_lt.1 h4)
         rw [vl_dg,vl_dg] at this
         rw [if_neg (by omega),if_pos this] at H; exact H
       · have h3':¬(dg m)[i]<(dg n)[i]:=fun hh=>h3 (Int.ofNat_lt.2 hh)
         have h4':¬(dg n)[i]<(dg m)[i]:=fun hh=>h4 (Int.ofNat_lt.2 hh)
         refine ⟨⟨rfl,i,by simp only; rw [w64 (by omega)]; congr 1; omega,by omega,?_⟩,by simp only; rw [w64 (by omega)]; omega⟩
         rw [List.drop_eq_getElem_cons hi,List.drop_eq_getElem_cons hi',hd]
         congr 1; omega
   · simp only at h2
     obtain rfl:k=0:=by omega
     simp only [List.drop_zero] at hd
     have:m=n:=by rw [←vl_dg m,←vl_dg n,hd]
     subst this
     unfold cmpN at H
     rw [if_neg (Nat.lt_irrefl _),if_neg (Nat.lt_irrefl _)] at H
     exact H
theorem zni {m n:Nat} (hx:RdW h x (dg m)) (hy:RdW h y (dg n)) (hl:(dg m).length<4611686018427387904) (hl2:(dg n).length<4611686018427387904) (H:Ki (cmpN m n) h):callP (F.zen x y) Ki h:=
 zah _ (fun K'=>zws hx hy hl hl2) H
end
end Den
end

section
namespace Den
open Go Iv
theorem wu64e (n:Int):IntKind.u64.wrap n=n % 18446744073709551616:=by simp [IntKind.wrap,IntKind.signed,IntKind.bits]
theorem wu32e (n:Int):IntKind.u32.wrap n=n % 4294967296:=by simp [IntKind.wrap,IntKind.signed,IntKind.bits]
theorem fd63 (n:Int):n.fdiv (2 ^ (min (63:Int).toNat IntKind.u64.bits))=n/9223372036854775808:=by
 have e:(2:Int) ^ (min (63:Int).toNat IntKind.u64.bits)=9223372036854775808:=by decide
 rw [e,Int.fdiv_eq_ediv_of_nonneg _ (by decide)]
theorem fd32 (n:Int):n.fdiv (2 ^ (min (32:Int).toNat IntKind.u64.bits))=n/4294967296:=by
 have e:(2:Int) ^ (min (32:Int).toNat IntKind.u64.bits)=4294967296:=by decide
 rw [e,Int.fdiv_eq_ediv_of_nonneg _ (by decide)]
theorem sub64 {x c y:Nat} (hx:x<W) (hc:c≤1) (hy:y<W):∃r b:Nat,r<W∧b≤1∧x+W*b=r+c+y ∧
 IntKind.u32.wrap (IntKind.u64.wrap (IntKind.u64.wrap (IntKind.u64.wrap (x:Int)-(c:Int))-IntKind.u64.wrap (y:Int)))=(r:Int) ∧
 (IntKind.u64.wrap (IntKind.u64.wrap (IntKind.u64.wrap (x:Int)-(c:Int))-IntKind.u64.wrap (y:Int))).fdiv (2 ^ (min (63:Int).toNat IntKind.u64.bits))=(b:Int):=by
 unfold W at *
 rw [fd63]
 simp only [wu64e,wu32e]
 by_cases h:c+y≤x
 · exact ⟨x-c-y,0,by omega,by omega,by omega,by omega,by omega⟩
 · exact ⟨x+4294967296-c-y,1,by omega,by omega,by omega,by omega,by omega⟩
theorem sub64' {x c:Nat} (hx:x<W) (hc:c≤1):∃r b:Nat,r<W∧b≤1∧x+W*b=r+c+0 ∧
 IntKind.u32.wrap (IntKind.u64.wrap (IntKind.u64.wrap (x:Int)-(c:Int)))=(r:Int) ∧
 (IntKind.u64.wrap (IntKind.u64.wrap (x:Int)-(c:Int))).fdiv (2 ^ (min (63:Int).toNat IntKind.u64.bits))=(b:Int):=by
 unfold W at *
 rw [fd63]
 simp only [wu64e,wu32e]
 by_cases h:c≤x
 · exact ⟨x-c,0,by omega,by omega,by omega,by omega,by omega⟩
 · exact ⟨x+4294967296-c,1,by omega,by omega,by omega,by omega,by omega⟩
theorem sub32 {x c y:Nat} (hx:x<W) (hc:c≤1) (hy:y<W):∃r b:Nat,r<W∧b≤1∧x+W*b=r+c+y ∧
 IntKind.u32.wrap (IntKind.u64.wrap (IntKind.u64.wrap (IntKind.u64.wrap (IntKind.u64.wrap (x:Int)+4294967296)-(y:Int))-(c:Int)))=(r:Int) ∧
 IntKind.u64.wrap (1-(IntKind.u64.wrap (IntKind.u64.wrap (IntKind.u64.wrap (IntKind.u64.wrap (x:Int)+4294967296)-(y:Int))-(c:Int))).fdiv (2 ^ (min (32:Int).toNat IntKind.u64.bits)))=(b:Int):=by
 unfold W at *
 rw [fd32]
 simp only [wu64e,wu32e]
 by_cases h:c+y≤x
 · exact ⟨x-c-y,0,by omega,by omega,by omega,by omega,by omega⟩
 · exact ⟨x+4294967296-c-y,1,by omega,by omega,by omega,by omega,by omega⟩
def Fresh (h:Hp) (z:Sl):Prop:=∀a,z.a=some a→h a.block=none
theorem Fresh.of {h h':Hp} {w z:Sl} {cs:List Value} (ho:Own h h' 1 w cs) (hs:InM z w):Fresh h z:=fun a ha=>by
 obtain ⟨a',h1,h2⟩:=hs a ha
 have h4:=ho.2.2.2
 rw [h1] at h4
 rw [h2]; exact h4.2.2.1
theorem Hp.none_of_le {h h':Hp} {b:Nat} (hl:h.le h') (hb:h' b=none):h b=none:=by
 cases hk:h b with
 | none=>rfl
 | some B=>rw [hl _ _ hk] at hb; cases hb
theorem Fresh.le {h h':Hp} {z:Sl} (hf:Fresh h' z) (hl:h.le h'):Fresh h z:=fun a ha=>Hp.none_of_le hl (hf a ha)
theorem Fresh.ne {h:Hp} {z:Sl} {b:Nat} (hf:Fresh h z) (hb:h b≠none):∀a,z.a=some a→a.block≠b:=fun a ha hh=>hb (by rw [←hh]; exact hf a ha)
theorem zd6 {l:List Nat} (hl:okW l) (i:Nat):l.getD i 0<W:=by
 rw [List.getD_eq_getElem?_getD]
 rcases Nat.lt_or_ge i l.length with h | h
 · rw [List.getElem?_eq_getElem h]; exact zc1 hl h
 · rw [List.getElem?_eq_none h]; exact W_pos
theorem zgq {l:List Nat} {i:Nat} (hi:i<l.length):l.getD i 0=l[i]:=by
 rw [List.getD_eq_getElem?_getD,List.getElem?_eq_getElem hi]; rfl
theorem zfc {l:List Nat} {i:Nat} (hi:l.length≤i):l.getD i 0=0:=by
 rw [List.getD_eq_getElem?_getD,List.getElem?_eq_none hi]; rfl
theorem zhy (l:List Nat) (i:Nat):vl (l.take (i+1))=vl (l.take i)+W ^ i*l.getD i 0:=by
 rcases Nat.lt_or_ge i l.length with h | h
 · rw [zbq h,zgq h]
 · rw [zfc h,List.take_of_length_le (by omega),List.take_of_length_le h]; simp
theorem zg9 {r:List Nat} {k v:Nat} (hk:k<r.length):vl ((r.set k v).take (k+1))=vl (r.take k)+W ^ k*v:=by
 rw [zbq (by simpa using hk),List.getElem_set_self]
 congr 2
 apply List.ext_getElem
 · simp
 · intro i h1 h2
   simp only [List.length_take] at h1 h2
   simp only [List.getElem_take]
   rw [List.getElem_set_ne (by omega)]
section
variable {h : Hp} {x y : Sl} {l m : List Nat} {Ks : Sl → Hp → Prop} {Ki : Int → Hp → Prop} {Kb : Bool → Hp → Prop} {KI : TInt → Hp → Prop}
theorem za74 (hx:RdW h x l) (hy:RdW h y m) (ol:okW l) (om:okW m) (hl:l.length≤17592186044400) (hm:m.length≤17592186044400)
 (H:∀z h' r,h.le h'→RdW h' z r→okW r→vl r=vl l+vl m→r.length≤l.length+m.length+1→Ks z h'):F.zgs x y Ks h:=by
 unfold F.zgs
 have lx:=hx.len
 have ly:=hy.len
 refine za3 (fun st h'=>h'=h∧∃p q,RdW h st.1 p∧RdW h st.2.1 q∧okW p∧okW q∧q.length≤p.length∧p.length+q.length=l.length+m.length∧vl p+vl q=vl l+vl m) ?_ ?_
 · rintro ⟨sx,sy,_⟩ h0 ⟨rfl,p,q,hp,hq,op,oq,hqp,hlen,hv⟩
   simp only at hp hq ⊢
   have lp:=hp.len
   have lq:=hq.len
   refine zel 0 (p.length+1) rfl (by rw [lp,w64 (by omega)]; omega) (by omega) (by omega) fun w h1 hw hw2=>?_
   refine zau (fun st h'=>∃(w:Sl) (c i:Nat) (r:List Nat),st=(w,(c:Int),(i:Int),())∧i≤p.length∧c≤1∧OwnW h0 h' w r∧okW r∧r.length=i∧vl r+W ^ i*c=vl (p.take i)+vl (q.take i))
    (fun st=>((p.length:Int)-st.2.2.1).toNat) ⟨w,0,0,[],rfl,Nat.zero_le _,by omega,hw2,za8o,rfl,by simp [vl]⟩ ?_
   rintro st h2 ⟨w,c,i,r,rfl,hi,hc,ho,okr,hrl,hv2⟩
   refine za0 (fun h3=>?_) (fun h3=>?_)
   · have hi':i<p.length:=by have:(i:Int)<(sx.len:Int):=h3; omega
     have hpx:=zc1 op hi'
     have hqx:=zd6 oq i
     refine zaq i (hp.le ho.1) rfl hi' fun a ha=>⟨_,ha,?_⟩
     refine za3 (fun s h4=>h4=h2∧s=(((c+p[i]+q.getD i 0:Nat):Int),())) ?_ ?_
     · rintro _ h4 ⟨rfl,rfl⟩
       simp only
       refine zt9 _ ho (u32n _) (by omega) fun w5 h5 ho5=>⟨by decide,?_⟩
       rw [shr32]
       refine ⟨⟨w5,_,i+1,_,by rw [w64 (by omega)]; rfl,by omega,?_,ho5,zsc okr (fun d hd=>?_),by simp [hrl],?_⟩,by rw [w64 (by omega)]; omega⟩
       · unfold W at *; omega
       · rw [List.mem_singleton.1 hd]; exact Nat.mod_lt _ W_pos
       · rw [zjy,zbq hi',zhy,hrl]
         have e2:=Nat.mod_add_div (c+p[i]+q.getD i 0) W
         simp only [vl,Nat.mul_zero,Nat.add_zero,Nat.pow_succ]
         generalize (c+p[i]+q.getD i 0) % W=rr at *
         generalize (c+p[i]+q.getD i 0)/W=qq at *
         generalize W ^ i=P at *
         generalize p[i]=pp at *
         generalize q.getD i 0=q0 at *
         generalize vl (p.take i)=A at *
         generalize vl (q.take i)=B at *
         generalize vl r=R at *
         clear H
         grind
     · refine za0 (fun h4=>?_) (fun h4=>?_)
       · have hi2:i<q.length:=by have:(i:Int)<(sy.len:Int):=h4; omega
         refine zaq i (hq.le ho.1) rfl hi2 fun a2 ha2=>⟨_,ha2,?_⟩
         refine ⟨rfl,?_⟩
         rw [zgq hi2] at hqx ⊢
         simp only
         unfold W at *
         congr 1
         simp only [wu64e]; omega
       · have hi2:q.length≤i:=by have:¬(i:Int)<(sy.len:Int):=h4; omega
         refine ⟨rfl,?_⟩
         rw [zfc hi2]
         simp only
         unfold W at *
         congr 1
         simp only [wu64e]; omega
   · have hi':i=p.length:=by have:¬(i:Int)<(sx.len:Int):=h3; omega
     rw [List.take_of_length_le (by omega),List.take_of_length_le (by omega)] at hv2
     refine za0 (fun h4=>?_) (fun h4=>?_)
     · have hc1:c=1:=by have:(c:Int)>0:=h4; omega
       subst hc1
       refine zt9 1 ho (by simp only; decide) (by omega) fun w5 h5 ho5=>?_
       refine H _ _ _ ho5.1 ho5.rdW (zsc okr (fun d hd=>by rw [List.mem_singleton.1 hd]; decide)) ?_ (by simp; omega)
       rw [zjy,hrl]
       simp only [vl,Nat.mul_zero,Nat.add_zero]
       omega
     · have hc0:c=0:=by have:¬(c:Int)>0:=h4; omega
       subst hc0
       exact H _ _ _ ho.1 ho.rdW okr (by omega) (by omega)
 · refine za0 (fun h1=>?_) (fun h1=>?_)
   · exact ⟨rfl,m,l,hy,hx,om,ol,by omega,by omega,by omega⟩
   · exact ⟨rfl,l,m,hx,hy,ol,om,by omega,by omega,by omega⟩
theorem za33 (hx:RdW h x l) (hy:RdW h y m) (ol:okW l) (om:okW m) (hl:l.length≤17592186044400) (hm:m.length≤17592186044400)
 (H:∀z h' r,h.le h'→RdW h' z r→okW r→vl r=vl l+vl m→r.length≤l.length+m.length+1→Ks z h'):callP (F.zgs x y) Ks h:=
 za1 (fun z h'=>∃r,RdW h' z r∧okW r∧vl r=vl l+vl m∧r.length≤l.length+m.length+1)
  (fun K' hk=>za74 hx hy ol om hl hm fun z h' r h1 h2 h3 h4 h5=>hk _ _ h1 ⟨r,h2,h3,h4,h5⟩) fun z h' h1 ⟨r,h2,h3,h4,h5⟩=>H z h' r h1 h2 h3 h4 h5
theorem zs8 {r:List Nat} {b:Nat} (hrl:r.length=l.length) (okr:okW r) (hml:m.length≤l.length) (hle:vl m≤vl l) (hb:b≤1)
 (hv:vl (r.take l.length)+vl (m.take l.length)=vl (l.take l.length)+W ^ l.length*b):vl r=vl l-vl m:=by
 rw [List.take_of_length_le (l:=r) (by omega),List.take_of_length_le hml,List.take_of_length_le (Nat.le_refl _)] at hv
 have h1:=vl_lt okr
 rw [hrl] at h1
 have:b=0:=by
  rcases Nat.eq_zero_or_pos b with h2 | h2
  · exact h2
  · obtain rfl:b=1:=by omega
    omega
 subst this
 omega
theorem za55 (hx:RdW h x l) (hy:RdW h y m) (ol:okW l) (om:okW m) (hl:l.length≤35184372088800) (hml:m.length≤l.length) (hle:vl m≤vl l)
 (H:∀z h',h.le h'→RdW h' z (dg (vl l-vl m))→Ks z h'):F.zfu x y Ks h:=by
 unfold F.zfu
 have lx:=hx.len
 have ly:=hy.len
 refine zel l.length l.length (by omega) (by omega) (by omega) (by omega) fun w h1 hw hw2=>?_
 refine zau (fun st h'=>∃(c i:Nat) (r:List Nat),st=((c:Int),(i:Int),())∧i≤l.length∧c≤1∧OwnW h h' w r∧okW r∧r.length=l.length∧vl (r.take i)+vl (m.take i)=vl (l.take i)+W ^ i*c)
  (fun st=>((l.length:Int)-st.2.1).toNat) ⟨0,0,_,rfl,Nat.zero_le _,by omega,hw2,zhg _,by simp,by simp [vl]⟩ ?_
 rintro st h2 ⟨c,i,r,rfl,hi,hc,ho,okr,hrl,hv2⟩
 refine za0 (fun h3=>?_) (fun h3=>?_)
 · have hi':i<l.length:=by have:(i:Int)<(x.len:Int):=h3; omega
   have hlx:=zc1 ol hi'
   have hmx:=zd6 om i
   refine zaq i (hx.le ho.1) rfl hi' fun a ha=>⟨_,ha,?_⟩
   refine za3 (fun s h4=>h4=h2∧∃rr b:Nat,rr<W∧b≤1∧l[i]+W*b=rr+c+m.getD i 0∧IntKind.u32.wrap s.1=(rr:Int)∧s.1.fdiv (2 ^ (min (63:Int).toNat IntKind.u64.bits))=(b:Int)) ?_ ?_
   · rintro s h4 ⟨rfl,rr,b,hrr,hb,he,h5,h6⟩
     refine zea i rr ho rfl (by omega) h5 fun h5 b5 _ _ _ ho5=>⟨by decide,?_⟩
     rw [h6]
     refine ⟨⟨b,i+1,_,by rw [w64 (by simp only; omega)]; rfl,by omega,hb,ho5,zd3 okr hrr,by simp [hrl],?_⟩,by simp only; rw [w64 (by omega)]; omega⟩
     rw [zg9 (by omega),zbq hi',zhy,Nat.pow_succ]
     generalize W ^ i=P at *
     generalize l[i]=pp at *
     generalize m.getD i 0=q0 at *
     generalize vl (l.take i)=A at *
     generalize vl (m.take i)=B at *
     generalize vl (r.take i)=R at *
     have e:=congrArg (P*·) he
     simp only [Nat.mul_add] at e
     rw [Nat.mul_assoc]
     omega
   · refine za0 (fun h4=>?_) (fun h4=>?_)
     · have hi2:i<m.length:=by have:(i:Int)<(y.len:Int):=h4; omega
       refine zaq i (hy.le ho.1) rfl hi2 fun a2 ha2=>⟨_,ha2,?_⟩
       rw [zgq hi2] at hmx ⊢
       exact ⟨rfl,sub64 hlx hc hmx⟩
     · have hi2:m.length≤i:=by have:¬(i:Int)<(y.len:Int):=h4; omega
       rw [zfc hi2]
       exact ⟨rfl,sub64' hlx hc⟩
 · have hi':i=l.length:=by have:¬(i:Int)<(x.len:Int):=h3; omega
   subst hi'
   refine zex ho.rdW (by omega) fun z hz=>?_
   rw [zc9 okr,zs8 hrl okr hml hle hc hv2] at hz
   exact H _ _ ho.1 hz
theorem zyr (hx:RdW h x l) (hy:RdW h y m) (ol:okW l) (om:okW m) (hl:l.length≤35184372088800) (hml:m.length≤l.length) (hle:vl m≤vl l)
 (H:∀z h',h.le h'→RdW h' z (dg (vl l-vl m))→Ks z h'):callP (F.zfu x y) Ks h:=
 za1 _ (fun K'=>za55 hx hy ol om hl hml hle) H
theorem zz4 (hx:RdW h x l) (hy:RdW h y m) (ol:okW l) (om:okW m) (hl:l.length≤35184372088800) (hml:m.length≤l.length) (hle:vl m≤vl l)
 (H:∀z h',h.le h'→RdW h' z (dg (vl l-vl m))→Fresh h z→Ks z h'):F.zg6 x y Ks h:=by
 unfold F.zg6
 have lx:=hx.len
 have ly:=hy.len
 refine zel l.length l.length (by omega) (by omega) (by omega) (by omega) fun w h1 hw hw2=>?_
 refine zau (fun st h'=>∃(c i:Nat) (r:List Nat),st=((c:Int),(i:Int),())∧i≤l.length∧c≤1∧OwnW h h' w r∧okW r∧r.length=l.length∧vl (r.take i)+vl (m.take i)=vl (l.take i)+W ^ i*c)
  (fun st=>((l.length:Int)-st.2.1).toNat) ⟨0,0,_,rfl,Nat.zero_le _,by omega,hw2,zhg _,by simp,by simp [vl]⟩ ?_
 rintro st h2 ⟨c,i,r,rfl,hi,hc,ho,okr,hrl,hv2⟩
 refine za0 (fun h3=>?_) (fun h3=>?_)
 · have hi':i<l.length:=by have:(i:Int)<(x.len:Int):=h3; omega
   have hlx:=zc1 ol hi'
   have hmx:=zd6 om i
   refine za3 (fun s h4=>h4=h2∧s=(((m.getD i 0:Nat):Int),())) ?_ ?_
   · rintro _ h4 ⟨rfl,rfl⟩
     refine zaq i (hx.le ho.1) rfl hi' fun a ha=>⟨_,ha,?_⟩
     simp only
     obtain ⟨rr,b,hrr,hb,he,h5,h6⟩:=sub32 hlx hc hmx
     refine zea i rr ho rfl (by omega) h5 fun h5 b5 _ _ _ ho5=>⟨by decide,?_⟩
     rw [h6]
     refine ⟨⟨b,i+1,_,by rw [w64 (by omega)]; rfl,by omega,hb,ho5,zd3 okr hrr,by simp [hrl],?_⟩,by rw [w64 (by omega)]; omega⟩
     rw [zg9 (by omega),zbq hi',zhy,Nat.pow_succ]
     generalize W ^ i=P at *
     generalize l[i]=pp at *
     generalize m.getD i 0=q0 at *
     generalize vl (l.take i)=A at *
     generalize vl (m.take i)=B at *
     generalize vl (r.take i)=R at *
     have e:=congrArg (P*·) he
     simp only [Nat.mul_add] at e
     rw [Nat.mul_assoc]
     omega
   · refine za0 (fun h4=>?_) (fun h4=>?_)
     · have hi2:i<m.length:=by have:(i:Int)<(y.len:Int):=h4; omega
       refine zaq i (hy.le ho.1) rfl hi2 fun a2 ha2=>⟨_,ha2,?_⟩
       rw [zgq hi2] at hmx ⊢
       exact ⟨rfl,by rw [u64n (by unfold W at *; omega)]⟩
     · have hi2:m.length≤i:=by have:¬(i:Int)<(y.len:Int):=h4; omega
       rw [zfc hi2]
       exact ⟨rfl,rfl⟩
 · have hi':i=l.length:=by have:¬(i:Int)<(x.len:Int):=h3; omega
   subst hi'
   refine zlv ho.rdW (by omega) fun z hz hs=>?_
   rw [zc9 okr,zs8 hrl okr hml hle hc hv2] at hz
   exact H _ _ ho.1 hz (Fresh.of ho hs)
theorem zo7 (hx:RdW h x l) (hy:RdW h y m) (ol:okW l) (om:okW m) (hl:l.length≤35184372088800) (hml:m.length≤l.length) (hle:vl m≤vl l)
 (H:∀z h',h.le h'→RdW h' z (dg (vl l-vl m))→Fresh h z→Ks z h'):callP (F.zg6 x y) Ks h:=
 za1 (fun z h'=>RdW h' z (dg (vl l-vl m))∧Fresh h z) (fun K' hk=>zz4 hx hy ol om hl hml hle fun z h' h1 h2 h3=>hk z h' h1 ⟨h2,h3⟩) fun z h' h1 ⟨h2,h3⟩=>H z h' h1 h2 h3
theorem za5y (hx:RdW h x l) (hy:RdW h y m) (ol:okW l) (om:okW m) (hl:l.length+m.length≤35184372088800)
 (H:∀z h',h.le h'→RdW h' z (dg (vl l*vl m))→Ks z h'):F.zfv x y Ks h:=by
 unfold F.zfv
 have lx:=hx.len
 have ly:=hy.len
 refine za3 (fun _ h'=>h'=h) ?_ ?_
 · rintro _ h' rfl
   refine zel (l.length+m.length) (l.length+m.length) (by rw [w64 (by omega)]; omega) (by rw [w64 (by omega)]; omega) (by omega) (by omega) fun w h1 hw hw2=>?_
   refine zzg (Kf:=fun w h3=>callP (F.zae w) (fun r h7=>Ks r h7) h3) (hx) (hy) ol om hl hw2 fun h3 r ho okr hrl hv=>?_
   refine zex ho.rdW (by omega) fun z hz=>?_
   rw [zc9 okr,hv] at hz
   exact H _ _ ho.1 hz
 · refine zaa (fun h1=>?_) (fun h1=>zaa (fun h2=>?_) (fun h2=>rfl))
   · have:l=[]:=List.length_eq_zero_iff.1 (by omega)
     subst this
     refine H _ _ (Hp.le_refl _) ?_
     simp only [vl,Nat.zero_mul,zc5]
     exact RdW.nil
   · have:m=[]:=List.length_eq_zero_iff.1 (by omega)
     subst this
     refine H _ _ (Hp.le_refl _) ?_
     simp only [vl,Nat.mul_zero,zc5]
     exact RdW.nil
theorem zzf (hx:RdW h x l) (hy:RdW h y m) (ol:okW l) (om:okW m) (hl:l.length+m.length≤35184372088800)
 (H:∀z h',h.le h'→RdW h' z (dg (vl l*vl m))→Ks z h'):callP (F.zfv x y) Ks h:=
 za1 _ (fun K'=>za5y hx hy ol om hl) H
theorem rmac {c x y z:Nat} (hc:c<W) (hx:x<W) (hy:y<W) (hz:z<W) :
 IntKind.u64.wrap (IntKind.u64.wrap ((c:Int)+IntKind.u64.wrap (z:Int))+IntKind.u64.wrap (IntKind.u64.wrap (x:Int)*IntKind.u64.wrap (y:Int)))=((c+(x*y+z):Nat):Int):=by
 unfold W at *
 have hxy:x*y≤4294967295*4294967295:=Nat.mul_le_mul (by omega) (by omega)
 rw [u64n (n:=x) (by omega),u64n (n:=y) (by omega),u64n (n:=z) (by omega)]
 rw [show ((x:Int)*(y:Int))=((x*y:Nat):Int) by simp,u64n (n:=x*y) (by omega)]
 rw [show ((c:Int)+(z:Int))=((c+z:Nat):Int) by simp,u64n (n:=c+z) (by omega)]
 rw [show (((c+z:Nat):Int)+((x*y:Nat):Int))=((c+(x*y+z):Nat):Int) by omega,u64n (by omega)]
theorem zz7 {a b:Sl} {la lb:List Nat} (ha:RdW h a la) (hb:RdW h b lb) (oa:okW la) (ob:okW lb) (hl:la.length+lb.length≤35184372088800)
 (H:∀z h',h.le h'→RdW h' z (dg (vl la*vl lb))→Fresh h z→Ks z h'):F.zhi a b Ks h:=by
 unfold F.zhi
 have hal:=ha.len
 have hbl:=hb.len
 refine zel (la.length+lb.length) (la.length+lb.length) (by rw [w64 (by omega)]; omega) (by rw [w64 (by omega)]; omega) (by omega) (by omega) fun x h1 hw ho=>?_
 refine zau (fun st h'=>∃(i:Nat) (l:List Nat),st=((i:Int),())∧i≤la.length∧OwnW h h' x l∧okW l∧l.length=la.length+lb.length∧vl l=vl (la.take i)*vl lb∧∀j (hj:j<l.length),i+lb.length≤j→l[j]=0)
  (fun st=>((la.length:Int)-st.1).toNat) ⟨0,_,rfl,Nat.zero_le _,ho,zhg _,by simp,by rw [zvl]; simp [vl],fun j hj _=>by simp⟩ ?_
 rintro st h1 ⟨i,l,rfl,hi,ho1,okl,hll,hv,hz⟩
 refine za0 (fun h2=>?_) (fun h2=>?_)
 · simp only at h2
   have hi':i<la.length:=by omega
   have hxi:=zc1 oa hi'
   refine zau (fun st h'=>∃(k c:Nat) (l':List Nat),st=((c:Int),(k:Int),())∧k≤lb.length∧c<W∧OwnW h h' x l'∧okW l'∧l'.length=la.length+lb.length ∧
    vl l'+W ^ (i+k)*c=vl l+W ^ i*(la[i]*vl (lb.take k))∧∀j (hj:j<l'.length),i+lb.length≤j→l'[j]=0)
    (fun st=>((lb.length:Int)-st.2.1).toNat) ⟨0,0,l,rfl,Nat.zero_le _,by decide,ho1,okl,hll,by simp [vl],hz⟩ ?_
   rintro st h3 ⟨k,c,l',rfl,hk,hc,ho3,okl',hll',hv',hz'⟩
   refine za0 (fun h4=>?_) (fun h4=>?_)
   · simp only at h4
     have hk':k<lb.length:=by omega
     have hyk:=zc1 ob hk'
     have hik:i+k<l'.length:=by omega
     have hzk:=zc1 okl' hik
     have wik:IntKind.i64.wrap ((i:Int)+(k:Int))=((i+k:Nat):Int):=by rw [w64 (by omega)]; omega
     simp only
     rw [wik]
     refine zaq (i+k) ho3.rdW rfl hik fun a2 ha2=>⟨_,ha2,?_⟩
     refine zaq i (ha.le ho3.1) rfl hi' fun aa haa=>⟨_,haa,?_⟩
     refine zaq k (hb.le ho3.1) rfl hk' fun a1 ha1=>⟨_,ha1,?_⟩
     simp only
     rw [rmac hc hxi hyk hzk]
     refine zea (i+k) _ ho3 rfl hik (u32n _) fun h5 b5 _ _ _ ho5=>⟨by decide,?_⟩
     rw [shr32]
     refine ⟨⟨k+1,_,_,by rw [w64 (by omega)]; rfl,by omega,za2n hc hxi hyk hzk,ho5,zd3 okl' (Nat.mod_lt _ W_pos),by simp [hll'],?_,?_⟩,by rw [w64 (by omega)]; omega⟩
     · have e1:=ziq (l:=l') (k:=i+k) (v:=(c+(la[i]*lb[k]+l'[i+k])) % W) hik
       have e2:=Nat.mod_add_div (c+(la[i]*lb[k]+l'[i+k])) W
       have e3:=zbq hk'
       rw [e3]
       generalize vl (l'.set (i+k) ((c+(la[i]*lb[k]+l'[i+k])) % W))=V at e1 ⊢
       generalize hr:(c+(la[i]*lb[k]+l'[i+k])) % W=r at *
       generalize hq:(c+(la[i]*lb[k]+l'[i+k]))/W=q at *
       generalize vl l'=V' at *
       generalize vl l=V0 at *
       generalize l'[i+k]=z at *
       generalize la[i]=xx at *
       generalize lb[k]=yy at *
       generalize vl (lb.take k)=T at *
       have p1:W ^ (i+(k+1))=W ^ (i+k)*W:=by rw [←Nat.add_assoc,Nat.pow_succ]
       have p2:W ^ (i+k)=W ^ i*W ^ k:=Nat.pow_add ..
       rw [p1]
       generalize W ^ (i+k)=P at *
       subst p2
       generalize W ^ i=Pi at *
       generalize W ^ k=Pk at *
       clear H
       grind
     · intro j hj hjl
       rw [List.length_set] at hj
       rw [List.getElem_set_ne (by omega)]
       exact hz' j hj hjl
   · simp only at h4
     have hk':k=lb.length:=by omega
     subst hk'
     have hil:i+lb.length<l'.length:=by omega
     have w1:IntKind.i64.wrap ((i:Int)+(b.len:Int))=((i+lb.length:Nat):Int):=by rw [hbl,w64 (by omega)]; omega
     simp only
     rw [w1]
     refine zea (i+lb.length) c ho3 rfl hil (by rw [u32n,Nat.mod_eq_of_lt hc]) fun h5 b5 _ _ _ ho5=>?_
     refine ⟨⟨i+1,_,by rw [w64 (by omega)]; rfl,by omega,ho5,zd3 okl' hc,by simp [hll'],?_,?_⟩,by rw [w64 (by omega)]; omega⟩
     · have e1:=ziq (l:=l') (k:=i+lb.length) (v:=c) hil
       rw [hz' _ hil (Nat.le_refl _)] at e1
       rw [List.take_of_length_le (Nat.le_refl _)] at hv'
       rw [zbq hi',Nat.add_mul]
       rw [Nat.mul_assoc]
       omega
     · intro j hj hjl
       rw [List.length_set] at hj
       rw [List.getElem_set_ne (by omega)]
       exact hz' j hj (by omega)
 · simp only at h2
   have:i=la.length:=by omega
   subst this
   rw [List.take_of_length_le (Nat.le_refl _)] at hv
   refine zlv ho1.rdW (by omega) fun z hz2 hs=>?_
   rw [zc9 okl,hv] at hz2
   exact H _ _ ho1.1 hz2 (Fresh.of ho1 hs)
theorem zv6 (hx:RdW h x l) (hy:RdW h y m) (ol:okW l) (om:okW m) (hl:l.length+m.length≤35184372088800)
 (H:∀z h',h.le h'→RdW h' z (dg (vl l*vl m))→Fresh h z→Ks z h'):callP (F.zhi x y) Ks h:=
 za1 (fun z h'=>RdW h' z (dg (vl l*vl m))∧Fresh h z) (fun K' hk=>zz7 hx hy ol om hl fun z h' h1 h2 h3=>hk z h' h1 ⟨h2,h3⟩) fun z h' h1 ⟨h2,h3⟩=>H z h' h1 h2 h3
end
end Den
end

section
namespace Den
open Go Iv
def Ok (n:Int):Prop:=(dg n.natAbs).length≤8796093022208
def Lt (k:Nat) (n:Int):Prop:=n.natAbs<W ^ k
theorem Lt.ok {k:Nat} {n:Int} (h:Lt k n) (hk:k≤8796093022208):Ok n:=Nat.le_trans (zbn.2 h) hk
theorem Lt.mono {k j:Nat} {n:Int} (h:Lt k n) (hk:k≤j):Lt j n:=Nat.lt_of_lt_of_le h (Nat.pow_le_pow_right W_pos hk)
theorem Lt.mul {k j:Nat} {m n:Int} (h:Lt k m) (h2:Lt j n):Lt (k+j) (m*n):=by
 unfold Lt at *
 rw [Int.natAbs_mul,Nat.pow_add]
 exact Nat.mul_lt_mul'' h h2
theorem Lt.le {k:Nat} {m n:Int} (h:Lt k m) (h2:n.natAbs≤m.natAbs):Lt k n:=Nat.lt_of_le_of_lt h2 h
theorem NI.len {h:Hp} {x:TInt} {n:Int} (hx:NI h x n):x.mag.len=(dg n.natAbs).length:=hx.1.len
theorem zpo {n:Int}:(dg n.natAbs).length=0↔n=0:=by
 rw [List.length_eq_zero_iff,zes]; omega
section
variable {h : Hp} {x y : Sl} {l : List Nat} {m n : Int} {a b : TInt} {Ks : Sl → Hp → Prop} {Ki : Int → Hp → Prop} {Kb : Bool → Hp → Prop} {KI : TInt → Hp → Prop} {KP : (TInt × TInt × Int) → Hp → Prop}
theorem zrt (n:Nat):trimL (dg n)=dg n:=by rw [zc9 (ok_dg n),vl_dg]
theorem zn9 {n:Nat} (hr:RdW h x (dg n)) (hl:(dg n).length≤35184372088800) (H:∀y,RdW h y (dg n)→Ks y h):callP (F.zae x) Ks h:=
 zex hr (by omega) fun y hy=>H y (by rw [zrt] at hy; exact hy)
theorem zwt {n:Nat} (hr:RdW h x (dg n)) (hl:(dg n).length≤35184372088800) (H:∀y,RdW h y (dg n)→Ks y h):callP (F.zbh x) Ks h:=
 zdm hr (by omega) fun y hy=>H y (by rw [zrt] at hy; exact hy)
theorem zm0 (ha:NI h a m) (om:(dg m.natAbs).length≤35184372087808) (H:∀y,RdW h y (dg m.natAbs)→Ks y h):callP (F.zae a.mag) Ks h:=
 zn9 ha.1 (Nat.le_trans om (by decide)) H
theorem zo8 (ha:NI h a m) (om:(dg m.natAbs).length≤35184372087808) (H:∀y,RdW h y (dg m.natAbs)→Ks y h):callP (F.zbh a.mag) Ks h:=
 zwt ha.1 (Nat.le_trans om (by decide)) H
theorem zfq (ha:NI h a m) (om:Ok m) (H:∀y,RdW h y (dg m.natAbs)→Ks y h):callP (F.zae a.mag) Ks h:=
 zn9 ha.1 (Nat.le_trans om (by decide)) H
theorem zh1 {neg:Bool} {k:Nat} (hr:RdW h x (dg k)) (hl:(dg k).length≤35184372088800) (H:∀y,NI h y (sg neg k)→KI y h):callP (F.zby neg x) KI h:=
 zly hr (ok_dg k) (by omega) fun y hy=>H y (by rw [vl_dg] at hy; exact hy)
theorem zht {neg:Bool} {k:Nat} (hr:RdW h x (dg k)) (hl:(dg k).length≤35184372088800) (H:∀y,NI h y (sg neg k)→KI y h):callP (F.zd4 neg x) KI h:=
 zv5 hr (ok_dg k) (by omega) fun y hy=>H y (by rw [vl_dg] at hy; exact hy)
theorem sg_of (n:Int):sg (decide (n<0)) n.natAbs=n:=by
 unfold sg
 by_cases h:n<0
 · rw [if_pos (by simpa using h)]; omega
 · rw [if_neg (by simpa using h)]; omega
theorem za8t (n:Int):sg (!decide (n<0)) n.natAbs=-n:=by
 unfold sg
 by_cases h:n<0
 · rw [if_neg (by simpa using h)]; omega
 · rw [if_pos (by simpa using h)]; omega
theorem u64neg {n:Int} (h:n<0) (h2:-9223372036854775808≤n):IntKind.u64.wrap (0-IntKind.u64.wrap n)=((n.natAbs:Nat):Int):=by
 simp only [wu64e]; omega
theorem u64pos {n:Int} (h:¬n<0) (h2:n≤9223372036854775807):IntKind.u64.wrap n=((n.natAbs:Nat):Int):=by
 simp only [wu64e]; omega
theorem dg2 {n:Nat} (h:n<18446744073709551616):(dg n).length≤2:=by
 have h2:W ^ 2=18446744073709551616:=by decide
 exact zbn.2 (by rw [h2]; exact h)
theorem zkn (h1:-9223372036854775808≤n) (h2:n≤9223372036854775807) (H:∀y h',h.le h'→NI h' y n→KI y h'):callP (F.zdy n) KI h:=by
 refine za1 _ (fun K' hk=>?_) H
 unfold F.zdy
 refine za3 (fun s h'=>h'=h∧s=(((n.natAbs:Nat):Int),())) ?_ ?_
 · rintro _ h' ⟨rfl,rfl⟩
   refine zfs rfl (by omega) fun y h1 hl hy=>?_
   have:=dg2 (n:=n.natAbs) (by omega)
   refine zh1 hy (by omega) fun z hz=>hk _ _ hl ?_
   rw [sg_of] at hz; exact hz
 · refine za0 (fun h3=>⟨rfl,?_⟩) (fun h3=>⟨rfl,?_⟩)
   · rw [u64neg h3 h1]
   · rw [u64pos h3 h2]
theorem zng (h1:-9223372036854775808≤n) (h2:n≤9223372036854775807) (H:∀y h',h.le h'→NI h' y n→KI y h'):callP (F.zfx n) KI h:=by
 refine za1 _ (fun K' hk=>?_) H
 unfold F.zfx
 have h5:=dg2 (n:=n.natAbs) (by omega)
 refine za0 (fun h3=>?_) (fun h3=>?_)
 · rw [u64neg h3 h1]
   refine zir rfl (by omega) fun y h1 hl hy=>?_
   refine zht hy (by omega) fun z hz=>hk _ _ hl ?_
   have:sg true n.natAbs=n:=by unfold sg; simp; omega
   rw [this] at hz; exact hz
 · rw [u64pos h3 h2]
   refine zir rfl (by omega) fun y h1 hl hy=>?_
   refine zht hy (by omega) fun z hz=>hk _ _ hl ?_
   have:sg false n.natAbs=n:=by unfold sg; simp; omega
   rw [this] at hz; exact hz
theorem zmk (ha:NI h a m) (om:(dg m.natAbs).length≤35184372087808) (H:Ki m.sign h):callP (F.zdu a) Ki h:=by
 refine zah _ (fun K' hk=>?_) H
 unfold F.zdu
 refine zm0 ha om fun y hy=>?_
 have hl:=hy.len
 refine zaa (fun h1=>?_) (fun h1=>?_)
 · have:m=0:=zpo.1 (by omega)
   subst this; exact hk
 · have:m≠0:=fun h0=>h1 (by subst h0; rw [hl]; simp [zc5])
   rw [ha.2]
   refine za0 (fun h2=>?_) (fun h2=>?_)
   · rw [Int.sign_eq_neg_one_of_neg h2] at hk; exact hk
   · rw [Int.sign_eq_one_of_pos (by omega)] at hk; exact hk
theorem zwq (ha:NI h a m) (om:(dg m.natAbs).length≤35184372087808) (H:∀y,NI h y m→KI y h):callP (F.zk8 a) KI h:=by
 refine znq _ (fun K' hk=>?_) H
 unfold F.zk8
 refine zht ha.1 (Nat.le_trans om (by decide)) fun y hy=>hk y ?_
 rw [ha.2,sg_of] at hy; exact hy
theorem zwr (ha:NI h a m) (om:(dg m.natAbs).length≤35184372087808) (H:Ki m.sign h):callP (F.zk9 a) Ki h:=by
 refine zah _ (fun K' hk=>?_) H
 unfold F.zk9
 refine zwq ha om fun y hy=>?_
 have hl:=hy.len
 refine zaa (fun h1=>?_) (fun h1=>?_)
 · have:m=0:=zpo.1 (by omega)
   subst this; exact hk
 · have:m≠0:=fun h0=>h1 (by subst h0; rw [hl]; simp [zc5])
   rw [hy.2]
   refine za0 (fun h2=>?_) (fun h2=>?_)
   · rw [Int.sign_eq_neg_one_of_neg h2] at hk; exact hk
   · rw [Int.sign_eq_one_of_pos (by omega)] at hk; exact hk
theorem zno (ha:NI h a m) (om:Ok m) (H:Ki m.sign h):callP (F.zdu a) Ki h:=zmk ha (Nat.le_trans om (by decide)) H
theorem za4n (ha:NI h a m) (om:Ok m) (H:∀y h',h.le h'→NI h' y (-m)→KI y h'):callP (F.zjf a) KI h:=by
 refine za1 _ (fun K' hk=>?_) H
 unfold F.zjf
 refine zfq ha om fun y hy=>zmq hy (Nat.le_trans om (by decide)) fun z h1 hl hz=>zh1 hz (Nat.le_trans om (by decide)) fun w hw=>hk _ _ hl ?_
 rw [ha.2,za8t] at hw; exact hw
theorem za8s (m n:Int):sg (!(decide (m<0)==decide (n<0))) (m.natAbs*n.natAbs)=m*n:=by
 unfold sg
 rw [←Int.natAbs_mul]
 by_cases h1:m<0<;>by_cases h2:n<0<;>simp [h1,h2]
 · have:=Int.mul_pos_of_neg_of_neg h1 h2
   omega
 · have:=Int.mul_nonpos_of_nonpos_of_nonneg (a:=m) (b:=n) (by omega) (by omega)
   omega
 · have:=Int.mul_nonpos_of_nonneg_of_nonpos (a:=m) (b:=n) (by omega) (by omega)
   omega
 · have:=Int.mul_nonneg (a:=m) (b:=n) (by omega) (by omega)
   omega
theorem za6w {m n k:Nat} (om:(dg m).length≤k) (on:(dg n).length≤k):(dg (m*n)).length≤k+k:=by
 refine zbn.2 ?_
 rw [Nat.pow_add]
 exact Nat.mul_lt_mul'' (zbn.1 om) (zbn.1 on)
theorem za8k {m n:Int} (om:Ok m) (on:Ok n):(dg (m.natAbs*n.natAbs)).length≤35184372088800:=
 Nat.le_trans (za6w om on) (by decide)
theorem zpg (ha:NI h a m) (hb:NI h b n) (om:Ok m) (on:Ok n) (H:∀y h',h.le h'→NI h' y (m*n)→KI y h'):callP (F.zg3 a b) KI h:=by
 refine za1 _ (fun K' hk=>?_) H
 unfold F.zg3
 have om':(dg m.natAbs).length≤8796093022208:=om
 have on':(dg n.natAbs).length≤8796093022208:=on
 refine zfq ha om fun y hy=>zfq hb on fun z hz=>zzf hy hz (ok_dg _) (ok_dg _) (by omega) fun w h1 hl hw=>?_
 rw [vl_dg,vl_dg] at hw
 refine zh1 hw (za8k om on) fun w2 hw2=>hk _ _ hl ?_
 rw [ha.2,hb.2,za8s] at hw2; exact hw2
theorem zek {m n:Nat} (h:m≤n):(dg m).length≤(dg n).length:=zbn.2 (Nat.lt_of_le_of_lt h (zbn.1 (Nat.le_refl _)))
theorem za8v {m n:Nat} (om:(dg m).length≤8796093022208):(dg (m-n)).length≤35184372088800:=by
 have:=zek (Nat.sub_le m n); omega
theorem za5q {m n:Int} (h:m.sign=n.sign):m.sign*cmpN m.natAbs n.natAbs=(m-n).sign:=by
 unfold cmpN
 rcases Int.lt_trichotomy m 0 with h1 | h1 | h1
 · have h2:n<0:=Int.sign_eq_neg_one_iff_neg.1 (by rw [←h]; exact Int.sign_eq_neg_one_of_neg h1)
   rw [Int.sign_eq_neg_one_of_neg h1]
   split
   · rw [Int.sign_eq_one_of_pos (by omega)]; rfl
   · split
     · rw [Int.sign_eq_neg_one_of_neg (by omega)]; rfl
     · have:m=n:=by omega
       subst this; simp
 · subst h1
   have h2:n=0:=by rw [Int.sign_zero] at h; exact Int.sign_eq_zero_iff_zero.1 h.symm
   subst h2; rfl
 · have h2:0<n:=Int.sign_eq_one_iff_pos.1 (by rw [←h]; exact Int.sign_eq_one_of_pos h1)
   rw [Int.sign_eq_one_of_pos h1]
   split
   · rw [Int.sign_eq_neg_one_of_neg (by omega)]; rfl
   · split
     · rw [Int.sign_eq_one_of_pos (by omega)]; rfl
     · have:m=n:=by omega
       subst this; simp
theorem zhb (n:Int):n.sign=-1∧n<0∨n.sign=0∧n=0∨n.sign=1∧0<n:=by
 rcases Int.lt_trichotomy n 0 with h1 | h1 | h1
 · exact .inl ⟨Int.sign_eq_neg_one_of_neg h1,h1⟩
 · subst h1; exact .inr (.inl ⟨rfl,rfl⟩)
 · exact .inr (.inr ⟨Int.sign_eq_one_of_pos h1,h1⟩)
theorem za7a {m n:Int} (h:m.sign≠n.sign):(if m.sign<n.sign then (-1:Int) else if n.sign<m.sign then 1 else 0)=(m-n).sign:=by
 have hm:=zhb m
 have hn:=zhb n
 have hd:=zhb (m-n)
 split
 · omega
 · split<;>omega
theorem za4l (ha:NI h a m) (hb:NI h b n) (om:Ok m) (on:Ok n) (H:Ki (m-n).sign h):callP (F.zje a b) Ki h:=by
 refine zah _ (fun K' hk=>?_) H
 unfold F.zje
 have om':(dg m.natAbs).length≤8796093022208:=om
 have on':(dg n.natAbs).length≤8796093022208:=on
 refine zno ha om (zno hb on ?_)
 refine zb7 (fun h1=>?_) (fun h1=>?_)
 · refine zox ?_
   rw [za7a h1]; exact hk
 · refine zfq ha om fun y hy=>zfq hb on fun z hz=>zns hy hz (by omega) (by omega) ?_
   rw [za5q h1]
   have:=zhb (m-n)
   rw [w64 (by omega)]; exact hk
end
end Den
end

section
namespace Den
open Go Iv
theorem tdivn (a b:Nat):((a:Int)).tdiv (b:Int)=((a/b:Nat):Int):=(Int.ofNat_tdiv a b).symm
theorem tmodn (a b:Nat):((a:Int)).tmod (b:Int)=((a % b:Nat):Int):=(Int.ofNat_tmod a b).symm
theorem u32lt {n:Nat} (h:n<W):IntKind.u32.wrap (n:Int)=(n:Int):=by rw [u32n,Nat.mod_eq_of_lt h]
theorem u64W {n:Nat} (h:n<W):IntKind.u64.wrap (n:Int)=(n:Int):=u64n (by unfold W at h; omega)
theorem or32k {x y:Nat} (hx:x<W) (hy:y<W):ibits .or .u32 (x:Int) (y:Int)=((x ||| y:Nat):Int):=by
 unfold ibits
 simp only [IntKind.bits]
 have h1:(BitVec.ofInt 32 (x:Int) ||| BitVec.ofInt 32 (y:Int)).toNat=x ||| y:=by
  unfold W at *
  rw [BitVec.ofInt_natCast,BitVec.ofInt_natCast,BitVec.toNat_or,BitVec.toNat_ofNat,BitVec.toNat_ofNat,Nat.mod_eq_of_lt (by omega),Nat.mod_eq_of_lt (by omega)]
 have h2:x ||| y<W:=Nat.or_lt_two_pow (n:=32) hx hy
 exact (congrArg (fun z:Nat=>IntKind.u32.wrap (z:Int)) h1).trans (u32lt h2)
theorem or64k {x y:Nat} (hx:x<18446744073709551616) (hy:y<18446744073709551616):ibits .or .u64 (x:Int) (y:Int)=((x ||| y:Nat):Int):=by
 unfold ibits
 simp only [IntKind.bits]
 have h1:(BitVec.ofInt 64 (x:Int) ||| BitVec.ofInt 64 (y:Int)).toNat=x ||| y:=by
  rw [BitVec.ofInt_natCast,BitVec.ofInt_natCast,BitVec.toNat_or,BitVec.toNat_ofNat,BitVec.toNat_ofNat,Nat.mod_eq_of_lt (by omega),Nat.mod_eq_of_lt (by omega)]
 have h2:x ||| y<18446744073709551616:=Nat.or_lt_two_pow (n:=64) hx hy
 exact (congrArg (fun z:Nat=>IntKind.u64.wrap (z:Int)) h1).trans (u64n h2)
def bl (n:Nat):Nat:=if n=0 then 0 else n.log2+1
theorem bl_lt (n:Nat):n<2 ^ bl n:=by
 unfold bl
 split
 · rename_i h; subst h; decide
 · exact Nat.lt_log2_self
theorem bl_le {n:Nat} (h:n≠0):2 ^ (bl n-1)≤n:=by
 unfold bl
 rw [if_neg h]
 exact Nat.log2_self_le h
theorem zzq {n:Nat} (h:n≠0):0<bl n:=by unfold bl; rw [if_neg h]; omega
theorem za6f {n b:Nat} (h1:2 ^ b≤n) (h2:n<2 ^ (b+1)):bl n=b+1:=by
 have h0:n≠0:=by have:=Nat.two_pow_pos b; omega
 unfold bl
 rw [if_neg h0]
 have h3:=(Nat.le_log2 h0 (k:=b)).2 h1
 have h4:=(Nat.log2_lt h0 (k:=b+1)).2 h2
 omega
theorem za6g:bl 0=0:=rfl
theorem zph {n k:Nat} (h:n<2 ^ k):bl n≤k:=by
 unfold bl
 split
 · omega
 · rename_i h0
   have:=(Nat.log2_lt h0 (k:=k)).2 h
   omega
theorem zpi {n k:Nat} (h:2 ^ k≤n):bl n=bl (n/2 ^ k)+k:=by
 have h0:n/2 ^ k≠0:=by
  have:=Nat.div_pos h (Nat.two_pow_pos k); omega
 have h1:=bl_le h0
 have h2:=bl_lt (n/2 ^ k)
 have h3:=zzq h0
 obtain ⟨b,hb⟩:∃b,bl (n/2 ^ k)=b+1:=⟨bl (n/2 ^ k)-1,by omega⟩
 rw [hb] at h1 h2 ⊢
 simp only [Nat.add_sub_cancel] at h1
 rw [Nat.le_div_iff_mul_le (Nat.two_pow_pos k),←Nat.pow_add] at h1
 rw [Nat.div_lt_iff_lt_mul (Nat.two_pow_pos k),←Nat.pow_add] at h2
 rw [za6f (b:=b+k) h1 (by rw [show b+k+1=b+1+k by omega]; exact h2)]
 omega
theorem za6e {n:Nat} (h:n≠0):bl n=bl (n/2)+1:=by
 by_cases h1:n=1
 · subst h1; decide
 · have:=zpi (n:=n) (k:=1) (by simp; omega)
   simpa using this
section
variable {h : Hp} {x y : Sl} {l m : List Nat} {b : Nat} {Ks : Sl → Hp → Prop} {Ki : Int → Hp → Prop} {Kb : Bool → Hp → Prop} {KI : TInt → Hp → Prop} {Kp : (Sl × Sl) → Hp → Prop} {Kq : (Sl × Int) → Hp → Prop}
theorem zsn {r l:List Nat} {b rem j:Nat} (hj:j<l.length) (hrl:r.length=l.length) (hv:vl (l.drop (j+1))=b*vl (r.drop (j+1))+rem) :
 vl (l.drop j)=b*vl ((r.set j ((rem*W+l[j])/b)).drop j)+(rem*W+l[j]) % b:=by
 rw [List.drop_eq_getElem_cons (l:=l) hj,List.drop_eq_getElem_cons (l:=r.set j ((rem*W+l[j])/b)) (by simpa [hrl] using hj),List.getElem_set_self]
 simp only [vl]
 rw [List.drop_set_of_lt (by omega),hv]
 have e:=Nat.div_add_mod (rem*W+l[j]) b
 rw [Nat.mul_add,Nat.mul_add,Nat.mul_comm rem W] at *
 have:W*(b*vl (r.drop (j+1)))=b*(W*vl (r.drop (j+1))):=by rw [←Nat.mul_assoc,Nat.mul_comm W b,Nat.mul_assoc]
 omega
theorem zru {b rem w:Nat} (hr:rem<b) (hw:w<W):(rem*W+w)/b<W:=by
 rw [Nat.div_lt_iff_lt_mul (by omega)]
 have:(rem+1)*W≤b*W:=Nat.mul_le_mul_right _ hr
 rw [Nat.add_mul] at this
 rw [Nat.mul_comm W b]; omega
theorem zsm {b rem w:Nat} (hr:rem<b) (hb:b<W) (hw:w<W) :
 IntKind.u32.wrap (IntKind.u64.wrap ((ibits .or .u64 (IntKind.u64.wrap ((rem:Int)*2 ^ (min (32:Int).toNat IntKind.u64.bits))) (IntKind.u64.wrap (w:Int))).tdiv (IntKind.u64.wrap (b:Int))))=(((rem*W+w)/b:Nat):Int):=by
 have h1:=zru hr hw
 rw [or32 (by omega) hw,u64W hb,tdivn,u64W h1,u32lt h1]
theorem zx1 {x:Sl} {l:List Nat} {b:Nat} {m1:Sl} {h h1:Hp} {Kf:Int→Hp→Prop} (hx:RdW h x l) (ol:okW l) (hb:0<b) (hbW:b<W) (hl:l.length≤35184372088800)
 (ho:OwnW h h1 m1 (List.replicate l.length 0)) (H:∀h' r,OwnW h h' m1 r→okW r→r.length=l.length→vl r=vl l/b→Kf ((vl l % b:Nat):Int) h') :
 (loopP (S:=Int×Int×Unit) (fun s2 k3 h2=>
   (ifP (decide (s2.2.1≥0))
   (0≤(32:Int) ∧
   (idxP x s2.2.1 1 fun a4=>
   (ldL (.int .u32) a4 (fun x5=>
   (((IntKind.u64.wrap ((b:Nat):Int)):Int)≠0 ∧
   (idxP m1 s2.2.1 1 fun a6=>
   (stP a6 [.int .u32 (IntKind.u32.wrap ((IntKind.u64.wrap (((ibits .or .u64 (IntKind.u64.wrap (s2.1*2 ^ (min (32:Int).toNat IntKind.u64.bits))) (IntKind.u64.wrap (x5))):Int).tdiv (IntKind.u64.wrap ((b:Nat):Int))))))] (fun h3=>
   (((IntKind.u64.wrap ((b:Nat):Int)):Int)≠0 ∧
   (k3 (((ibits .or .u64 (IntKind.u64.wrap (s2.1*2 ^ (min (32:Int).toNat IntKind.u64.bits))) (IntKind.u64.wrap (x5))):Int).tmod (IntKind.u64.wrap ((b:Nat):Int)),(IntKind.i64.wrap (s2.2.1-1)),()) h3))) h2)))) h2)))
   (Kf s2.1 h2)))
   (0,(IntKind.i64.wrap ((x.len:Int)-1)),()) h1):=by
 have lx:=hx.len
 refine zau (fun st h'=>∃(k rem:Nat) (r:List Nat),st=((rem:Int),(k:Int)-1,())∧k≤l.length∧rem<b∧OwnW h h' m1 r∧okW r∧r.length=l.length∧vl (l.drop k)=b*vl (r.drop k)+rem)
  (fun st=>(st.2.1+1).toNat) ⟨l.length,0,_,by rw [lx,w64 (by omega)]; rfl,Nat.le_refl _,hb,ho,zhg _,by simp,by rw [List.drop_eq_nil_of_le (Nat.le_refl _),List.drop_eq_nil_of_le (by simp)]; rfl⟩ ?_
 rintro st h2 ⟨k,rem,r,rfl,hk,hrem,ho2,okr,hrl,hv⟩
 refine za0 (fun h3=>?_) (fun h3=>?_)
 · obtain ⟨j,rfl⟩:∃j,k=j+1:=⟨k-1,by have:(k:Int)-1≥0:=h3; omega⟩
   have hj:j<l.length:=by omega
   have hw:=zc1 ol hj
   have hne:IntKind.u64.wrap (b:Int)≠0:=by rw [u64W hbW]; omega
   have hji:((j+1:Nat):Int)-1=(j:Int):=by omega
   simp only [hji]
   refine ⟨by decide,zaq j (hx.le ho2.1) rfl hj fun a ha=>⟨_,ha,hne,?_⟩⟩
   refine zea j _ ho2 rfl (by omega) (zsm hrem hbW hw) fun h5 b5 _ _ _ ho5=>⟨hne,?_⟩
   rw [or32 (by omega) hw,u64W hbW,tmodn]
   refine ⟨⟨j,_,_,by rw [w64 (by omega)],by omega,Nat.mod_lt _ hb,ho5,zd3 okr (zru hrem hw),by simp [hrl],zsn hj hrl hv⟩,by rw [w64 (by omega)]; omega⟩
 · obtain rfl:k=0:=by have:¬(k:Int)-1≥0:=h3; omega
   simp only [List.drop_zero] at hv
   have e1:vl l/b=vl r:=by rw [hv,Nat.mul_add_div hb,Nat.div_eq_of_lt hrem]; omega
   have e2:vl l % b=rem:=by rw [hv,Nat.mul_add_mod,Nat.mod_eq_of_lt hrem]
   have:=H h2 r ho2 okr hrl e1.symm
   rw [e2] at this
   exact this
theorem zqd (hx:RdW h x l) (ol:okW l) (hb:0<b) (hbW:b<W) (hl:l.length≤35184372088800)
 (H:∀z w h',h.le h'→RdW h' z (dg (vl l/b))→RdW h' w (dg (vl l % b))→Kp (z,w) h'):callP (F.zet x b) Kp h:=by
 refine za1 (fun v h'=>RdW h' v.1 (dg (vl l/b))∧RdW h' v.2 (dg (vl l % b))) (fun K' hk=>?_) fun ⟨z,w⟩ h' hl hz=>H z w h' hl hz.1 hz.2
 unfold F.zet
 have lx:=hx.len
 refine zel l.length l.length (by omega) (by omega) (by omega) (by omega) fun m1 h1 hw hw2=>?_
 refine zx1 (Kf:=fun (s:Int) h2=>callP (F.zae m1) (fun r7 h4=>callP (F.zc3 s) (fun r8 h5=>K' (r7,r8) h5) h4) h2) hx ol hb hbW hl hw2 fun h3 r ho okr hrl hv=>?_
 refine zex ho.rdW (by omega) fun z hz=>?_
 rw [zc9 okr,hv] at hz
 have:=Nat.mod_lt (vl l) hb
 refine zfs rfl (by unfold W at hbW; omega) fun w h4 hl4 hw4=>hk _ _ (Hp.le_trans ho.1 hl4) ⟨hz.le hl4,hw4⟩
theorem za6h (hx:RdW h x l) (ol:okW l) (hb:0<b) (hbW:b<W) (hl:l.length≤35184372088800)
 (H:∀z h',h.le h'→RdW h' z (dg (vl l/b))→Kq (z,((vl l % b:Nat):Int)) h'):callP (F.zn4 x b) Kq h:=by
 refine za1 (fun v h'=>RdW h' v.1 (dg (vl l/b))∧v.2=((vl l % b:Nat):Int)) (fun K' hk=>?_) fun ⟨z,w⟩ h' hl hz=>by
  obtain ⟨h1,h2⟩:=hz
  simp only at h1 h2
  subst h2
  exact H z h' hl h1
 unfold F.zn4
 have lx:=hx.len
 refine zel l.length l.length (by omega) (by omega) (by omega) (by omega) fun m1 h1 hw hw2=>?_
 refine zx1 (Kf:=fun (s:Int) h2=>callP (F.zbh m1) (fun r7 h4=>K' (r7,IntKind.u32.wrap s) h4) h2) hx ol hb hbW hl hw2 fun h3 r ho okr hrl hv=>?_
 refine zdm ho.rdW (by omega) fun z hz=>?_
 rw [zc9 okr,hv] at hz
 have:=Nat.mod_lt (vl l) hb
 exact hk _ _ ho.1 ⟨hz,u32lt (by omega)⟩
theorem minpow {s:Nat} (hs:s≤32):(2:Int) ^ (min ((s:Int)).toNat IntKind.u64.bits)=((2 ^ s:Nat):Int):=by
 have:min ((s:Int)).toNat IntKind.u64.bits=s:=by show min s 64=s; omega
 rw [this]; simp
theorem minpow32 {s:Nat} (hs:s≤32):(2:Int) ^ (min ((s:Int)).toNat IntKind.u32.bits)=((2 ^ s:Nat):Int):=by
 have:min ((s:Int)).toNat IntKind.u32.bits=s:=by show min s 32=s; omega
 rw [this]; simp
theorem zpv {s:Nat} (hs:s≤32):2 ^ s≤W:=by
 show 2 ^ s≤2 ^ 32
 exact Nat.pow_le_pow_right (by decide) hs
theorem zlh {s:Nat} (hs:s≤32):2 ^ s*2 ^ (32-s)=W:=by
 rw [←Nat.pow_add,show s+(32-s)=32 by omega]; rfl
theorem zrr {s w:Nat} (hs:s≤32) (hw:w<W):IntKind.u64.wrap (IntKind.u64.wrap (w:Int)*2 ^ (min ((s:Int)).toNat IntKind.u64.bits))=((w*2 ^ s:Nat):Int):=by
 rw [minpow hs,u64W hw,show ((w:Int)*((2 ^ s:Nat):Int))=((w*2 ^ s:Nat):Int) by simp]
 refine u64n ?_
 have h1:=zpv hs
 have:w*2 ^ s<W*W:=Nat.mul_lt_mul_of_lt_of_le hw h1 W_pos
 unfold W at this; omega
theorem zrq {s w:Nat} (hs:s≤32):w*2 ^ s % W=2 ^ s*(w % 2 ^ (32-s)):=by
 rw [←zlh hs,Nat.mul_comm w,Nat.mul_mod_mul_left]
theorem za5n {s w:Nat} (hs:s≤32) (hw:w<W):w*2 ^ s/W<2 ^ s:=by
 rw [Nat.div_lt_iff_lt_mul W_pos,Nat.mul_comm]
 exact Nat.mul_lt_mul_of_pos_left hw (Nat.two_pow_pos s)
theorem zuo {s c w:Nat} (hs:s≤32) (hc:c<2 ^ s):c ||| (w*2 ^ s % W)=c+w*2 ^ s % W:=by
 rw [zrq hs,Nat.or_comm,←Nat.two_pow_add_eq_or_of_lt hc,Nat.add_comm]
theorem or_lt {s c w:Nat} (hs:s≤32) (hc:c<2 ^ s):c+w*2 ^ s % W<W:=by
 rw [←zuo hs hc]
 exact Nat.or_lt_two_pow (n:=32) (Nat.lt_of_lt_of_le hc (zpv hs)) (Nat.mod_lt _ W_pos)
theorem za8u {s:Nat} (hx:RdW h x l) (ol:okW l) (hs:s≤31) (hl:l.length≤35184372088800)
 (H:∀z h' r,OwnW h h' z r→okW r→r.length=l.length+1→vl r=vl l*2 ^ s→Ks z h'):F.zd7 x (s:Int) Ks h:=by
 unfold F.zd7
 have lx:=hx.len
 refine zel (l.length+1) (l.length+1) (by rw [w64 (by omega)]; omega) (by rw [w64 (by omega)]; omega) (by omega) (by omega) fun m1 h1 hw hw2=>?_
 refine zau (fun st h'=>∃(i:Nat) (r:List Nat),st=((i:Int),())∧i≤l.length∧OwnW h h' m1 r∧okW r∧r.length=l.length+1∧(∃hi:i<r.length,r[i]<2 ^ s)∧vl (r.take (i+1))=vl (l.take i)*2 ^ s)
  (fun st=>((l.length:Int)-st.1).toNat) ⟨0,_,rfl,Nat.zero_le _,hw2,zhg _,by simp,⟨by simp,by simpa using Nat.two_pow_pos s⟩,by rw [zbq (by simp)]; simp [vl]⟩ ?_
 rintro st h2 ⟨i,r,rfl,hi,ho,okr,hrl,⟨hi1,hc⟩,hv⟩
 refine za0 (fun h3=>?_) (fun h3=>?_)
 · have hi':i<l.length:=by have:(i:Int)<(x.len:Int):=h3; omega
   have hw:=zc1 ol hi'
   refine zaq i (hx.le ho.1) rfl hi' fun a ha=>⟨_,ha,by omega,?_⟩
   refine zaq i ho.rdW rfl hi1 fun a2 ha2=>⟨_,ha2,?_⟩
   rw [zrr (by omega) hw,u32n]
   have e1:=zuo (w:=l[i]) (by omega) hc
   have e2:=or_lt (w:=l[i]) (by omega) hc
   refine zea i (r[i]+l[i]*2 ^ s % W) ho rfl hi1 ?_ fun h5 b5 _ _ _ ho5=>⟨by decide,?_⟩
   · rw [or32k (zc1 okr hi1) (Nat.mod_lt _ W_pos),e1]
   · rw [shr32]
     have e3:=za5n (s:=s) (by omega) hw
     have e4:l[i]*2 ^ s/W<W:=Nat.lt_of_lt_of_le e3 (zpv (by omega))
     refine zea (i+1) (l[i]*2 ^ s/W) ho5 (by rw [w64 (by omega)]; rfl) (by simp; omega) (u32lt e4) fun h6 b6 _ _ _ ho6=>?_
     have hlen:i+1<((r.set i (r[i]+l[i]*2 ^ s % W)).set (i+1) (l[i]*2 ^ s/W)).length:=by simp; omega
     refine ⟨⟨i+1,_,by rw [w64 (by omega)]; rfl,by omega,ho6,zd3 (zd3 okr e2) e4,by simp [hrl],⟨hlen,by rw [List.getElem_set_self]; exact e3⟩,?_⟩,by rw [w64 (by omega)]; omega⟩
     rw [zg9 (by simp; omega),zg9 hi1,zbq hi',Nat.add_mul,←hv,zbq hi1,Nat.pow_succ,Nat.mul_add]
     have e:=Nat.mod_add_div (l[i]*2 ^ s) W
     have e5:=congrArg (W ^ i*·) e
     simp only [Nat.mul_add] at e5
     rw [Nat.mul_assoc,Nat.mul_assoc]
     omega
 · have hi':i=l.length:=by have:¬(i:Int)<(x.len:Int):=h3; omega
   subst hi'
   rw [List.take_of_length_le (l:=l) (Nat.le_refl _),List.take_of_length_le (by omega)] at hv
   exact H _ _ r ho okr hrl hv
theorem zpy {s:Nat} (hx:RdW h x l) (ol:okW l) (hs:s≤31) (hl:l.length≤35184372088800)
 (H:∀z h' r,OwnW h h' z r→okW r→r.length=l.length+1→vl r=vl l*2 ^ s→Ks z h'):callP (F.zd7 x (s:Int)) Ks h:=
 za1 (fun z h'=>∃r,OwnW h h' z r∧okW r∧r.length=l.length+1∧vl r=vl l*2 ^ s) (fun K' hk=>za8u hx ol hs hl fun z h' r h1 h2 h3 h4=>hk z h' h1.1 ⟨r,h1,h2,h3,h4⟩) fun z h' _ ⟨r,h1,h2,h3,h4⟩=>H z h' r h1 h2 h3 h4
theorem zsj {s:Nat} (hx:RdW h x l) (ol:okW l) (hs:s≤31) (hl:l.length≤35184372088800)
 (H:∀z h' r,OwnW h h' z r→okW r→r.length=l.length+1→vl r=vl l*2 ^ s→Ks z h'):callP (F.zhs x (s:Int)) Ks h:=
 zpy hx ol hs hl H
theorem zv9 {s u v:Nat} (hs:s≤32) (hu:u<W):(u/2 ^ s) ||| (v*2 ^ (32-s) % W)=u/2 ^ s+2 ^ (32-s)*(v % 2 ^ s):=by
 have h1:u/2 ^ s<2 ^ (32-s):=by
  rw [Nat.div_lt_iff_lt_mul (Nat.two_pow_pos s),Nat.mul_comm,zlh hs]; exact hu
 rw [zuo (by omega) h1,zrq (by omega),show 32-(32-s)=s by omega]
theorem zv7 {s u v:Nat} (hs:s≤32) (hu:u<W):u/2 ^ s+2 ^ (32-s)*(v % 2 ^ s)<W:=by
 rw [←zv9 hs hu]
 exact Nat.or_lt_two_pow (n:=32) (Nat.lt_of_le_of_lt (Nat.div_le_self _ _) hu) (Nat.mod_lt _ W_pos)
theorem zv8 {r l:List Nat} {s i z0:Nat} (hs:s≤32) (hi:i<l.length) (hrl:r.length=l.length)
 (hv:2 ^ s*vl (r.take i)+z0=vl (l.take i)+W ^ i*(l.getD i 0 % 2 ^ s)) :
 2 ^ s*vl ((r.set i (l[i]/2 ^ s+2 ^ (32-s)*(l.getD (i+1) 0 % 2 ^ s))).take (i+1))+z0=vl (l.take (i+1))+W ^ (i+1)*(l.getD (i+1) 0 % 2 ^ s):=by
 rw [zg9 (by omega),zbq hi]
 rw [zgq hi] at hv
 have e:=Nat.div_add_mod l[i] (2 ^ s)
 have p:=zlh hs
 rw [Nat.pow_succ]
 generalize l.getD (i+1) 0 % 2 ^ s=A at *
 generalize 2 ^ (32-s)=Q at *
 generalize 2 ^ s=S at *
 generalize W ^ i=P at *
 generalize l[i] % S=B at *
 generalize l[i]/S=C at *
 generalize l[i]=D at *
 generalize vl (r.take i)=R at *
 generalize vl (l.take i)=L at *
 rw [←p,←e]
 clear hrl hi hs e p
 grind
theorem zxq {r l:List Nat} {s:Nat} (hrl:r.length=l.length) (hv:2 ^ s*vl (r.take l.length)+l.getD 0 0 % 2 ^ s=vl (l.take l.length)+W ^ l.length*(l.getD l.length 0 % 2 ^ s)):vl r=vl l/2 ^ s:=by
 rw [List.take_of_length_le (l:=r) (by omega),List.take_of_length_le (Nat.le_refl _),zfc (Nat.le_refl _),Nat.zero_mod,Nat.mul_zero,Nat.add_zero] at hv
 rw [←hv,Nat.mul_add_div (Nat.two_pow_pos s),Nat.div_eq_of_lt (Nat.mod_lt _ (Nat.two_pow_pos s)),Nat.add_zero]
theorem zrs {s w:Nat} (hs:s≤32):((w:Int)).fdiv (2 ^ (min ((s:Int)).toNat IntKind.u32.bits))=((w/2 ^ s:Nat):Int):=by
 rw [minpow32 hs]
 exact (Int.ofNat_fdiv w (2 ^ s)).symm
theorem za3d {s w:Nat} (hs:s≤32):((w:Int)).fdiv (2 ^ (min ((s:Int)).toNat IntKind.u64.bits))=((w/2 ^ s:Nat):Int):=by
 rw [minpow hs]
 exact (Int.ofNat_fdiv w (2 ^ s)).symm
theorem za5p {s:Nat} (hx:RdW h x l) (ol:okW l) (hs:s≤31) (hl:l.length≤35184372088800)
 (H:∀z h' r,h.le h'→RdW h' z r→okW r→r.length=l.length→vl r=vl l/2 ^ s→Ks z h'):callP (F.zeu x (s:Int)) Ks h:=by
 refine za1 (fun z h'=>∃r,RdW h' z r∧okW r∧r.length=l.length∧vl r=vl l/2 ^ s) (fun K' hk=>?_) fun z h' hl ⟨r,h1,h2,h3,h4⟩=>H z h' r hl h1 h2 h3 h4
 unfold F.zeu
 have lx:=hx.len
 refine zel l.length l.length (by omega) (by omega) (by omega) (by omega) fun m1 h1 hw hw2=>?_
 refine zau (fun st h'=>∃(i:Nat) (r:List Nat),st=((i:Int),())∧i≤l.length∧OwnW h h' m1 r∧okW r∧r.length=l.length∧2 ^ s*vl (r.take i)+l.getD 0 0 % 2 ^ s=vl (l.take i)+W ^ i*(l.getD i 0 % 2 ^ s))
  (fun st=>((l.length:Int)-st.1).toNat) ⟨0,_,rfl,Nat.zero_le _,hw2,zhg _,by simp,by simp [vl]⟩ ?_
 rintro st h2 ⟨i,r,rfl,hi,ho,okr,hrl,hv⟩
 refine za0 (fun h3=>?_) (fun h3=>?_)
 · have hi':i<l.length:=by have:(i:Int)<(x.len:Int):=h3; omega
   have hw:=zc1 ol hi'
   have e2:=zv7 (s:=s) (v:=l.getD (i+1) 0) (by omega) hw
   have e3:=zv8 (by omega) hi' hrl hv
   refine za3 (fun _ h'=>∃r',OwnW h h' m1 r'∧r'=r.set i (l[i]/2 ^ s+2 ^ (32-s)*(l.getD (i+1) 0 % 2 ^ s))) ?_ ?_
   · rintro _ h4 ⟨r',ho4,rfl⟩
     exact ⟨⟨i+1,_,by rw [w64 (by simp only; omega)]; rfl,by omega,ho4,zd3 okr e2,by simp [hrl],e3⟩,by simp only; rw [w64 (by omega)]; omega⟩
   · refine zaq i (hx.le ho.1) rfl hi' fun a ha=>⟨_,ha,by omega,?_⟩
     refine zea i (l[i]/2 ^ s) ho rfl (by omega) (zrs (by omega)) fun h5 b5 _ _ _ ho5=>?_
     have wi:IntKind.i64.wrap ((i:Int)+1)=((i+1:Nat):Int):=by rw [w64 (by omega)]; rfl
     have ws:IntKind.i64.wrap (32-(s:Int))=((32-s:Nat):Int):=by rw [w64 (by omega)]; omega
     simp only [wi,ws]
     refine za0 (fun h6=>?_) (fun h6=>?_)
     · have hi2:i+1<l.length:=by omega
       have hw2:=zc1 ol hi2
       refine zaq i ho5.rdW rfl (by simp; omega) fun a2 ha2=>⟨_,ha2,?_⟩
       refine zaq (i+1) (hx.le ho5.1) rfl hi2 fun a3 ha3=>⟨_,ha3,by omega,?_⟩
       rw [zrr (by omega) hw2,u32n,List.getElem_set_self,or32k (Nat.lt_of_le_of_lt (Nat.div_le_self _ _) hw) (Nat.mod_lt _ W_pos),zv9 (by omega) hw]
       refine zea i _ ho5 rfl (by simp; omega) rfl fun h7 b7 _ _ _ ho7=>⟨_,ho7,?_⟩
       rw [List.set_set,zgq hi2]
     · have hi2:l.length≤i+1:=by omega
       refine ⟨_,ho5,?_⟩
       rw [zfc hi2]
       simp
 · have hi':i=l.length:=by have:¬(i:Int)<(x.len:Int):=h3; omega
   subst hi'
   exact hk _ _ ho.1 ⟨r,ho.rdW,okr,hrl,zxq hrl hv⟩
theorem za4p {s u v:Nat} (hs:s≤31) (hu:u<W) (hv:v<W):IntKind.u32.wrap ((((v*W+u:Nat):Int)).fdiv (2 ^ (min ((s:Int)).toNat IntKind.u64.bits)))=((u/2 ^ s+2 ^ (32-s)*(v % 2 ^ s):Nat):Int):=by
 rw [za3d (by omega),u32n]
 have e:(v*W+u)/2 ^ s=u/2 ^ s+v*2 ^ (32-s):=by
  rw [←zlh (s:=s) (by omega)]
  rw [show v*(2 ^ s*2 ^ (32-s))=2 ^ s*(v*2 ^ (32-s)) by rw [←Nat.mul_assoc,Nat.mul_comm v,Nat.mul_assoc]]
  rw [Nat.mul_add_div (Nat.two_pow_pos s),Nat.add_comm]
 rw [e,Nat.add_mod,zrq (by omega),show 32-(32-s)=s by omega]
 have h1:=zv7 (s:=s) (v:=v) (by omega) hu
 rw [Nat.mod_eq_of_lt (a:=u/2 ^ s) (Nat.lt_of_le_of_lt (Nat.div_le_self _ _) hu),Nat.mod_eq_of_lt h1]
theorem zzo {s:Nat} (hx:RdW h x l) (ol:okW l) (hs:s≤31) (hl:l.length≤35184372088800)
 (H:∀z h',h.le h'→RdW h' z (dg (vl l/2 ^ s))→Ks z h'):callP (F.zka x (s:Int)) Ks h:=by
 refine za1 _ (fun K' hk=>?_) H
 unfold F.zka
 have lx:=hx.len
 refine zel l.length l.length (by omega) (by omega) (by omega) (by omega) fun m1 h1 hw hw2=>?_
 refine zau (fun st h'=>∃(i:Nat) (r:List Nat),st=((i:Int),())∧i≤l.length∧OwnW h h' m1 r∧okW r∧r.length=l.length∧2 ^ s*vl (r.take i)+l.getD 0 0 % 2 ^ s=vl (l.take i)+W ^ i*(l.getD i 0 % 2 ^ s))
  (fun st=>((l.length:Int)-st.1).toNat) ⟨0,_,rfl,Nat.zero_le _,hw2,zhg _,by simp,by simp [vl]⟩ ?_
 rintro st h2 ⟨i,r,rfl,hi,ho,okr,hrl,hv⟩
 refine za0 (fun h3=>?_) (fun h3=>?_)
 · have hi':i<l.length:=by have:(i:Int)<(x.len:Int):=h3; omega
   have hw:=zc1 ol hi'
   have hw1:=zd6 ol (i+1)
   have e2:=zv7 (s:=s) (v:=l.getD (i+1) 0) (by omega) hw
   have e3:=zv8 (by omega) hi' hrl hv
   have wi:IntKind.i64.wrap ((i:Int)+1)=((i+1:Nat):Int):=by rw [w64 (by omega)]; rfl
   refine zaq i (hx.le ho.1) rfl hi' fun a ha=>⟨_,ha,?_⟩
   refine za3 (fun s h'=>h'=h2∧s=(((l.getD (i+1) 0*W+l[i]:Nat):Int),())) ?_ ?_
   · rintro _ h4 ⟨rfl,rfl⟩
     refine ⟨by omega,?_⟩
     simp only
     rw [za4p hs hw hw1]
     refine zea i _ ho rfl (by omega) rfl fun h5 b5 _ _ _ ho5=>?_
     exact ⟨⟨i+1,_,by rw [wi],by omega,ho5,zd3 okr e2,by simp [hrl],e3⟩,by rw [wi]; omega⟩
   · simp only [wi]
     refine za0 (fun h6=>?_) (fun h6=>?_)
     · have hi2:i+1<l.length:=by omega
       refine zaq (i+1) (hx.le ho.1) rfl hi2 fun a3 ha3=>⟨_,ha3,by omega,by trivial,?_⟩
       rw [zgq hi2] at hw1 ⊢
       congr 1
       rw [u64W hw,show (IntKind.u64.wrap (l[i+1]:Int))=(l[i+1]:Int) from u64W hw1]
       have e5:IntKind.u64.wrap ((l[i+1]:Int)*2 ^ (min (32:Int).toNat IntKind.u64.bits))=((l[i+1]*2 ^ 32:Nat):Int):=by
        have:=zrr (s:=32) (by omega) hw1
        rw [u64W hw1] at this
        exact this
       rw [e5,or64k (by unfold W at *; omega) (by unfold W at *; omega),Nat.or_comm,Nat.mul_comm,←Nat.two_pow_add_eq_or_of_lt hw]
       unfold W
       congr 1
       omega
     · have hi2:l.length≤i+1:=by omega
       refine ⟨by trivial,?_⟩
       rw [zfc hi2,u64W hw]
       simp
 · have hi':i=l.length:=by have:¬(i:Int)<(x.len:Int):=h3; omega
   subst hi'
   refine zdm ho.rdW (by omega) fun z hz=>?_
   rw [zc9 okr,zxq hrl hv] at hz
   exact hk _ _ ho.1 hz
end
end Den
end
