/-
  Part 3 of the tools and contracts from which the statement is proved.
-/
import Derived.Test.YtijmjfcnjfnpgaaGreatDoorPartr2
import Derived.Lib.Bytealg
set_option linter.all false
open Go.IntKind
open Nat renaming le_refl→Ja,mul_le_mul_right→Jj,lt_or_ge→Jo,add_mul→Js,le_trans→Jt,mul_assoc→J4,mul_one→J7,mul_comm→J8,mod_eq_of_lt→Uj,add_zero→Uy,mod_lt→U2,pow_succ→U6,zero_le→Ga,lt_of_le_of_lt→Gb,zero_add→Gi,div_lt_iff_lt_mul→Gj,min_eq_left→Gk,two_pow_pos→Gs,mul_add→Gu,mul_le_mul_left→G4,lt_of_lt_of_le→Tb,eq_zero_or_pos→Tc,pow_le_pow_right→Th,pos_of_ne_zero→Tt,div_eq_of_lt→Tz,pow_add→T1,mul_zero→T3,div_le_self→T8,add_assoc→Pd,mod_add_div→Pf,le_div_iff_mul_le→Pw,lt_irrefl→Pz,le_of_lt→Li
open List renaming getElem?_eq_getElem→Jc,take_of_length_le→Jd,getD_eq_getElem?_getD→Jf,length_take→Jl,replicate→Jr,mem_cons→Ju,length_cons→J3,getElem?_eq_none→J5,mem_singleton→J6,length_eq_zero_iff→Ud,drop_eq_nil_of_le→Uu,drop_eq_getElem_cons→Ux,take_succ_eq_append_getElem→U5,length_drop→Gg,length_set→Gl,getElem?_drop→Gy,cons_append→G9,drop_zero→Tw,drop_drop→T7,getElem_set_ne→Pp,getElem_set_self→Pv
open Option.some renaming injEq→Jm
open Option renaming map_some→U0
open Go.Value renaming int→Ge
open Int renaming sign_eq_neg_one_of_neg→Gm,sign_eq_one_of_pos→G7
open Go.IntKind renaming signed→G0,bits→G6,wrap→Pe
open BitVec renaming ofInt_natCast→P5,toNat_ofNat→P9
section
set_option maxRecDepth 10000
namespace Den
open Go
structure TSketch where
 points:Sl
 circles:Sl
 segments:Sl
 arcs:Sl
 chains:Sl
 constraints:Sl
def Qf:Ty TSketch:=Ty.agg [.sl,.sl,.sl,.sl,.sl,.sl] (λx=>(x.points,x.circles,x.segments,x.arcs,x.chains,x.constraints,())) (λy=>⟨y.1,y.2.1,y.2.2.1,y.2.2.2.1,y.2.2.2.2.1,y.2.2.2.2.2.1⟩) (λ_=>rfl) (λ_=>rfl)
structure TPoint where
 x:TRat
 y:TRat
def ztt:Ty TPoint:=Ty.agg [.bool,.sl,.bool,.sl,.bool,.sl,.bool,.sl] (λx=>(x.x.num.neg,x.x.num.mag,x.x.den.neg,x.x.den.mag,x.y.num.neg,x.y.num.mag,x.y.den.neg,x.y.den.mag,())) (λy=>⟨⟨⟨y.1,y.2.1⟩,⟨y.2.2.1,y.2.2.2.1⟩⟩,⟨⟨y.2.2.2.2.1,y.2.2.2.2.2.1⟩,⟨y.2.2.2.2.2.2.1,y.2.2.2.2.2.2.2.1⟩⟩⟩) (λ_=>rfl) (λ_=>rfl)
structure TRound where
 center:Int
 radius:TRat
def ztu:Ty TRound:=Ty.agg [.int .i64,.bool,.sl,.bool,.sl] (λx=>(x.center,x.radius.num.neg,x.radius.num.mag,x.radius.den.neg,x.radius.den.mag,())) (λy=>⟨y.1,⟨⟨y.2.1,y.2.2.1⟩,⟨y.2.2.2.1,y.2.2.2.2.1⟩⟩⟩) (λ_=>rfl) (λ_=>rfl)
structure TSegment where
 a:Int
 b:Int
def zm4:Ty TSegment:=Ty.agg [.int .i64,.int .i64] (λx=>(x.a,x.b,())) (λy=>⟨y.1,y.2.1⟩) (λ_=>rfl) (λ_=>rfl)
structure TArc where
 circle:Int
 a:Int
 b:Int
 cw:Bool
def zyd:Ty TArc:=Ty.agg [.int .i64,.int .i64,.int .i64,.bool] (λx=>(x.circle,x.a,x.b,x.cw,())) (λy=>⟨y.1,y.2.1,y.2.2.1,y.2.2.2.1⟩) (λ_=>rfl) (λ_=>rfl)
structure TPiece where
 arc:Bool
 index:Int
 back:Bool
def zts:Ty TPiece:=Ty.agg [.bool,.int .i64,.bool] (λx=>(x.arc,x.index,x.back,())) (λy=>⟨y.1,y.2.1,y.2.2.1⟩) (λ_=>rfl) (λ_=>rfl)
structure TConstraint where
 kind:Int
 points:Sl
 circles:Sl
 values:Sl
 side:Int
def Qj:Ty TConstraint:=Ty.agg [.int .i64,.sl,.sl,.sl,.int .i64] (λx=>(x.kind,x.points,x.circles,x.values,x.side,())) (λy=>⟨y.1,y.2.1,y.2.2.1,y.2.2.2.1,y.2.2.2.2.1⟩) (λ_=>rfl) (λ_=>rfl)
structure Tconstraint_Shape where
 points:Int
 circles:Int
 values:Int
 equations:Int
 side:Bool
 length:Bool
 positive:Bool
def ze3:Ty Tconstraint_Shape:=Ty.agg [.int .i64,.int .i64,.int .i64,.int .i64,.bool,.bool,.bool] (λx=>(x.points,x.circles,x.values,x.equations,x.side,x.length,x.positive,())) (λy=>⟨y.1,y.2.1,y.2.2.1,y.2.2.2.1,y.2.2.2.2.1,y.2.2.2.2.2.1,y.2.2.2.2.2.2.1⟩) (λ_=>rfl) (λ_=>rfl)
structure TExpr where
 op:Int
 value:TRat
 name:ByteArray
 args:Sl
def z4a:Ty TExpr:=Ty.agg [.int .i64,.bool,.sl,.bool,.sl,.str,.sl] (λx=>(x.op,x.value.num.neg,x.value.num.mag,x.value.den.neg,x.value.den.mag,x.name,x.args,())) (λy=>⟨y.1,⟨⟨y.2.1,y.2.2.1⟩,⟨y.2.2.2.1,y.2.2.2.2.1⟩⟩,y.2.2.2.2.2.1,y.2.2.2.2.2.2.1⟩) (λ_=>rfl) (λ_=>rfl)
structure Tsetsquareref25_Row where
 name:ByteArray
 points:Int
 circles:Int
 count:Int
 values:Int
 equations:Int
 side:Bool
def zbn:Ty Tsetsquareref25_Row:=Ty.agg [.str,.int .i64,.int .i64,.int .i64,.int .i64,.int .i64,.bool] (λx=>(x.name,x.points,x.circles,x.count,x.values,x.equations,x.side,())) (λy=>⟨y.1,y.2.1,y.2.2.1,y.2.2.2.1,y.2.2.2.2.1,y.2.2.2.2.2.1,y.2.2.2.2.2.2.1⟩) (λ_=>rfl) (λ_=>rfl)
structure TPlan where
 steps:Sl
 checks:Sl
structure TStep where
 kind:Int
 target:Int
 uses:Sl
 branch:Int
structure TGraph where
 n:Int
 edges:Sl
def Wv:Ty TGraph:=Ty.agg [.int .i64,.sl] (λx=>(x.n,x.edges,())) (λy=>⟨y.1,y.2.1⟩) (λ_=>rfl) (λ_=>rfl)
structure A2_Int where
 c0:Int
 c1:Int
def z68:Ty A2_Int:=Ty.agg [.int .i64,.int .i64] (λx=>(x.c0,x.c1,())) (λy=>⟨y.1,y.2.1⟩) (λ_=>rfl) (λ_=>rfl)
namespace F
def z4v(c:Sl)(K:Bool->Hp->Prop)(h:Hp):Prop:=(K (decide ((c.len:Int)>200)) h)
def yq(s:Sl)(K:Int->Hp->Prop)(h:Hp):Prop:=(zn (S:=Int×Unit) (λs1 k2 h1=>(ifP (decide (s1.1<(s.len:Int))) (zg s s1.1 1 λa3=>(ldL (.sl) a3 (λx4=>(zc (z4v x4) (λr5 h2=>(ifP r5 (K s1.1 h2) (k2 ((i64.wrap (s1.1+1)),()) h2))) h1)) h1)) (K (-1) h1))) (0,()) h)
def ye(s:Sl)(K:Bool->Hp->Prop)(h:Hp):Prop:=(zc (yq s) (λr1 h1=>(K (decide (r1>=0)) h1)) h)
def z42(s:TSketch)(K:Bool->Hp->Prop)(h:Hp):Prop:=(Y2 [.int .i64 (s.points.len:Int),.int .i64 (s.circles.len:Int),.int .i64 (s.segments.len:Int),.int .i64 (s.arcs.len:Int),.int .i64 (s.chains.len:Int),.int .i64 (s.constraints.len:Int)] (λp1 h1=>(zn (S:=Int×Unit) (λs2 k3 h2=>(ifP (decide (s2.1<((⟨some p1,6,6⟩:Sl).len:Int))) (zg (⟨some p1,6,6⟩:Sl) s2.1 1 λa4=>(ldL (.int .i64) a4 (λx5=>(ifP (decide (x5>200)) (K true h2) (k3 ((i64.wrap (s2.1+1)),()) h2))) h2)) (zc (ye s.chains) (λr6 h3=>(K r6 h3)) h2))) (0,()) h1)) h)
def z83(p:TPoint)(K:Bool->Hp->Prop)(h:Hp):Prop:=(zc (Qg p.x) (λr1 h1=>(ifP r1 (zc (Qg p.y) (λr2 h2=>(K r2 h2)) h1) (K false h1))) h)
def qo(x:TPoint)(v0:(Option Addr))(K:Bool->Hp->Prop)(h:Hp):Prop:=(Ye v0 λp1=>(ldL (.val) p1 (λx2=>(x2=.func (.func 72) #[] #[] /\ (zc (z83 x) (λr3 h1=>(K (!r3) h1)) h))) h))
def Zk(s:Sl)(f1:(Option Addr×Unit))(K:Int->Hp->Prop)(h:Hp):Prop:=(zn (S:=Int×Unit) (λs1 k2 h1=>(ifP (decide (s1.1<(s.len:Int))) (zg s s1.1 8 λa3=>(ldL (.bool) (a3.add 0) (λx4_0=>(ldL (.sl) (a3.add 1) (λx4_1=>(ldL (.bool) (a3.add 2) (λx4_2=>(ldL (.sl) (a3.add 3) (λx4_3=>(ldL (.bool) (a3.add 4) (λx4_4=>(ldL (.sl) (a3.add 5) (λx4_5=>(ldL (.bool) (a3.add 6) (λx4_6=>(ldL (.sl) (a3.add 7) (λx4_7=>(zc (qo (⟨(⟨(⟨x4_0,x4_1⟩:TInt),(⟨x4_2,x4_3⟩:TInt)⟩:TRat),(⟨(⟨x4_4,x4_5⟩:TInt),(⟨x4_6,x4_7⟩:TInt)⟩:TRat)⟩:TPoint) f1.1) (λr5 h2=>(ifP r5 (K s1.1 h2) (k2 ((i64.wrap (s1.1+1)),()) h2))) h1)) h1)) h1)) h1)) h1)) h1)) h1)) h1)) h1)) (K (-1) h1))) (0,()) h)
def Ze(s:Sl)(f1:(Option Addr×Unit))(K:Bool->Hp->Prop)(h:Hp):Prop:=(zc (Zk s (f1.1,())) (λr1 h1=>(K (decide (r1>=0)) h1)) h)
def Yy(l:Sl)(K:Bool->Hp->Prop)(h:Hp):Prop:=(Y2 [.func (.func 72) #[] #[]] (λp1 h1=>(zc (Ze l ((some p1),())) (λr2 h2=>(K (!r2) h2)) h1)) h)
def Vq(n:Int)(i:Int)(K:Bool->Hp->Prop)(h:Hp):Prop:=(ifP (decide (i>=0)) (K (decide (i<n)) h) (K false h))
def z84(c:TRound)(v0:(Option Addr))(K:Bool->Hp->Prop)(h:Hp):Prop:=(Ye v0 λp1=>(ldL (.int .i64) p1 (λx2=>(zc (Vq x2 c.center) (λr3 h1=>(ifP r3 (zc (Qg c.radius) (λr4 h2=>(ifP r4 (zc (Q0 c.radius) (λr5 h3=>(K (decide (r5>0)) h3)) h2) (K false h2))) h1) (K false h1))) h)) h))
def qp(x:TRound)(v0:(Option Addr))(K:Bool->Hp->Prop)(h:Hp):Prop:=(Ye v0 λp1=>(ldL (.val) p1 (λx2=>∃c3:Option Addr,(x2=.func (.func 75) #[] #[.pointer c3] /\ (zc (z84 x c3) (λr4 h1=>(K (!r4) h1)) h))) h))
def Zl(s:Sl)(f1:(Option Addr×Unit))(K:Int->Hp->Prop)(h:Hp):Prop:=(zn (S:=Int×Unit) (λs1 k2 h1=>(ifP (decide (s1.1<(s.len:Int))) (zg s s1.1 5 λa3=>(ldL (.int .i64) (a3.add 0) (λx4_0=>(ldL (.bool) (a3.add 1) (λx4_1=>(ldL (.sl) (a3.add 2) (λx4_2=>(ldL (.bool) (a3.add 3) (λx4_3=>(ldL (.sl) (a3.add 4) (λx4_4=>(zc (qp (⟨x4_0,(⟨(⟨x4_1,x4_2⟩:TInt),(⟨x4_3,x4_4⟩:TInt)⟩:TRat)⟩:TRound) f1.1) (λr5 h2=>(ifP r5 (K s1.1 h2) (k2 ((i64.wrap (s1.1+1)),()) h2))) h1)) h1)) h1)) h1)) h1)) h1)) (K (-1) h1))) (0,()) h)
def Zf(s:Sl)(f1:(Option Addr×Unit))(K:Bool->Hp->Prop)(h:Hp):Prop:=(zc (Zl s (f1.1,())) (λr1 h1=>(K (decide (r1>=0)) h1)) h)
def Yz(l:Sl)(f1:(Option Addr×Unit))(K:Bool->Hp->Prop)(h:Hp):Prop:=(Y2 [.func (.func 75) #[] #[.pointer f1.1]] (λp1 h1=>(zc (Zf l ((some p1),())) (λr2 h2=>(K (!r2) h2)) h1)) h)
def z85(g:TSegment)(v0:(Option Addr))(K:Bool->Hp->Prop)(h:Hp):Prop:=(Ye v0 λp1=>(ldL (.int .i64) p1 (λx2=>(zc (Vq x2 g.a) (λr3 h1=>(ifP r3 (Ye v0 λp4=>(ldL (.int .i64) p4 (λx5=>(zc (Vq x5 g.b) (λr6 h2=>(ifP r6 (K (g.a != g.b) h2) (K false h2))) h1)) h1)) (K false h1))) h)) h))
def qd(x:TSegment)(v0:(Option Addr))(K:Bool->Hp->Prop)(h:Hp):Prop:=(Ye v0 λp1=>(ldL (.val) p1 (λx2=>∃c3:Option Addr,(x2=.func (.func 79) #[] #[.pointer c3] /\ (zc (z85 x c3) (λr4 h1=>(K (!r4) h1)) h))) h))
def Zb(s:Sl)(f1:(Option Addr×Unit))(K:Int->Hp->Prop)(h:Hp):Prop:=(zn (S:=Int×Unit) (λs1 k2 h1=>(ifP (decide (s1.1<(s.len:Int))) (zg s s1.1 2 λa3=>(ldL (.int .i64) (a3.add 0) (λx4_0=>(ldL (.int .i64) (a3.add 1) (λx4_1=>(zc (qd (⟨x4_0,x4_1⟩:TSegment) f1.1) (λr5 h2=>(ifP r5 (K s1.1 h2) (k2 ((i64.wrap (s1.1+1)),()) h2))) h1)) h1)) h1)) (K (-1) h1))) (0,()) h)
def Za(s:Sl)(f1:(Option Addr×Unit))(K:Bool->Hp->Prop)(h:Hp):Prop:=(zc (Zb s (f1.1,())) (λr1 h1=>(K (decide (r1>=0)) h1)) h)
def Yk(l:Sl)(f1:(Option Addr×Unit))(K:Bool->Hp->Prop)(h:Hp):Prop:=(Y2 [.func (.func 79) #[] #[.pointer f1.1]] (λp1 h1=>(zc (Za l ((some p1),())) (λr2 h2=>(K (!r2) h2)) h1)) h)
def z2v(s:TSketch)(a:TArc)(K:Bool->Hp->Prop)(h:Hp):Prop:=(zv (S:=Unit) (λs1 h1=>(zg s.circles a.circle 5 λa3=>(ldL (.int .i64) (a3.add 0) (λx4=>(ifP (a.a != x4) (K (a.b != x4) h1) (K false h1))) h1))) (λk2=>(zc (Vq (s.circles.len:Int) a.circle) (λr5 h2=>(ifP (!r5) (K false h2) (zc (Vq (s.points.len:Int) a.a) (λr6 h3=>(ifP (!r6) (K false h3) (zc (Vq (s.points.len:Int) a.b) (λr7 h4=>(ifP (!r7) (K false h4) (k2 () h4))) h3))) h2))) h)))
def z86(a:TArc)(v0:(Option Addr))(K:Bool->Hp->Prop)(h:Hp):Prop:=(Ye v0 λp1=>(ldL (.sl) (p1.add 0) (λx2_0=>(ldL (.sl) (p1.add 1) (λx2_1=>(ldL (.sl) (p1.add 2) (λx2_2=>(ldL (.sl) (p1.add 3) (λx2_3=>(ldL (.sl) (p1.add 4) (λx2_4=>(ldL (.sl) (p1.add 5) (λx2_5=>(zc (z2v (⟨x2_0,x2_1,x2_2,x2_3,x2_4,x2_5⟩:TSketch) a) (λr3 h1=>(K r3 h1)) h)) h)) h)) h)) h)) h)) h))
def Qh(x:TArc)(v0:(Option Addr))(K:Bool->Hp->Prop)(h:Hp):Prop:=(Ye v0 λp1=>(ldL (.val) p1 (λx2=>∃c3:Option Addr,(x2=.func (.func 81) #[] #[.pointer c3] /\ (zc (z86 x c3) (λr4 h1=>(K (!r4) h1)) h))) h))
def Zq(s:Sl)(f1:(Option Addr×Unit))(K:Int->Hp->Prop)(h:Hp):Prop:=(zn (S:=Int×Unit) (λs1 k2 h1=>(ifP (decide (s1.1<(s.len:Int))) (zg s s1.1 4 λa3=>(ldL (.int .i64) (a3.add 0) (λx4_0=>(ldL (.int .i64) (a3.add 1) (λx4_1=>(ldL (.int .i64) (a3.add 2) (λx4_2=>(ldL (.bool) (a3.add 3) (λx4_3=>(zc (Qh (⟨x4_0,x4_1,x4_2,x4_3⟩:TArc) f1.1) (λr5 h2=>(ifP r5 (K s1.1 h2) (k2 ((i64.wrap (s1.1+1)),()) h2))) h1)) h1)) h1)) h1)) h1)) (K (-1) h1))) (0,()) h)
def Zm(s:Sl)(f1:(Option Addr×Unit))(K:Bool->Hp->Prop)(h:Hp):Prop:=(zc (Zq s (f1.1,())) (λr1 h1=>(K (decide (r1>=0)) h1)) h)
def Y8(l:Sl)(f1:(Option Addr×Unit))(K:Bool->Hp->Prop)(h:Hp):Prop:=(Y2 [.func (.func 81) #[] #[.pointer f1.1]] (λp1 h1=>(zc (Zm l ((some p1),())) (λr2 h2=>(K (!r2) h2)) h1)) h)
def z65(s:TSketch)(p:TPiece)(K:(Int×Int)->Hp->Prop)(h:Hp):Prop:=(zv (S:=Int×Int×Unit) (λs1 h1=>(ifP p.back (K (s1.2.1,s1.1) h1) (K (s1.1,s1.2.1) h1))) (λk2=>(ifP p.arc (zg s.arcs p.index 4 λa3=>(ldL (.int .i64) (a3.add 1) (λx4=>(zg s.arcs p.index 4 λa5=>(ldL (.int .i64) (a5.add 2) (λx6=>(k2 (x4,x6,()) h)) h))) h)) (zg s.segments p.index 2 λa7=>(ldL (.int .i64) (a7.add 0) (λx8=>(zg s.segments p.index 2 λa9=>(ldL (.int .i64) (a9.add 1) (λx10=>(k2 (x8,x10,()) h)) h))) h)))))
def z0s(s:TSketch)(c:Sl)(K:Bool->Hp->Prop)(h:Hp):Prop:=(zn (S:=Int×Int×Unit) (λs1 k2 h1=>(ifP (decide (s1.2.1<(c.len:Int))) (zv (S:=Int×Unit) (λs3 h2=>(k2 (s3.1,(i64.wrap (s1.2.1+1)),()) h2)) (λk4=>(zg c s1.2.1 3 λa5=>(ldL (.bool) (a5.add 0) (λx6_0=>(ldL (.int .i64) (a5.add 1) (λx6_1=>(ldL (.bool) (a5.add 2) (λx6_2=>(zv (S:=Int×Unit) (λs7 h3=>(zc (Vq s7.1 x6_1) (λr9 h4=>(ifP (!r9) (K false h4) (zc (z65 s (⟨x6_0,x6_1,x6_2⟩:TPiece)) (λr10 h5=>(ifP (decide (s1.2.1>0)) (ifP (r10.1 != s1.1) (K false h5) (k4 (r10.2,()) h5)) (k4 (r10.2,()) h5))) h4))) h3)) (λk8=>(ifP x6_0 (k8 ((s.arcs.len:Int),()) h1) (k8 ((s.segments.len:Int),()) h1))))) h1)) h1)) h1)))) (K (decide ((c.len:Int)>0)) h1))) ((-1),0,()) h)
def z87(c:Sl)(v0:(Option Addr))(K:Bool->Hp->Prop)(h:Hp):Prop:=(Ye v0 λp1=>(ldL (.sl) (p1.add 0) (λx2_0=>(ldL (.sl) (p1.add 1) (λx2_1=>(ldL (.sl) (p1.add 2) (λx2_2=>(ldL (.sl) (p1.add 3) (λx2_3=>(ldL (.sl) (p1.add 4) (λx2_4=>(ldL (.sl) (p1.add 5) (λx2_5=>(zc (z0s (⟨x2_0,x2_1,x2_2,x2_3,x2_4,x2_5⟩:TSketch) c) (λr3 h1=>(K r3 h1)) h)) h)) h)) h)) h)) h)) h))
def qn(x:Sl)(v0:(Option Addr))(K:Bool->Hp->Prop)(h:Hp):Prop:=(Ye v0 λp1=>(ldL (.val) p1 (λx2=>∃c3:Option Addr,(x2=.func (.func 84) #[] #[.pointer c3] /\ (zc (z87 x c3) (λr4 h1=>(K (!r4) h1)) h))) h))
def Zj(s:Sl)(f1:(Option Addr×Unit))(K:Int->Hp->Prop)(h:Hp):Prop:=(zn (S:=Int×Unit) (λs1 k2 h1=>(ifP (decide (s1.1<(s.len:Int))) (zg s s1.1 1 λa3=>(ldL (.sl) a3 (λx4=>(zc (qn x4 f1.1) (λr5 h2=>(ifP r5 (K s1.1 h2) (k2 ((i64.wrap (s1.1+1)),()) h2))) h1)) h1)) (K (-1) h1))) (0,()) h)
def Zd(s:Sl)(f1:(Option Addr×Unit))(K:Bool->Hp->Prop)(h:Hp):Prop:=(zc (Zj s (f1.1,())) (λr1 h1=>(K (decide (r1>=0)) h1)) h)
def Yx(l:Sl)(f1:(Option Addr×Unit))(K:Bool->Hp->Prop)(h:Hp):Prop:=(Y2 [.func (.func 84) #[] #[.pointer f1.1]] (λp1 h1=>(zc (Zd l ((some p1),())) (λr2 h2=>(K (!r2) h2)) h1)) h)
def Wf(kind:Int)(K:(Tconstraint_Shape×Bool)->Hp->Prop)(h:Hp):Prop:=(zv (S:=(Int×Int×Int×Int×Bool×Bool×Bool×Unit)×Unit) (λs1 h1=>(ze0 kind 18 (ldL (.int .i64) ((((⟨0,0,none⟩:Addr).add ((kind:Int).toNat*8)).add 1).add 0) (λx3_0=>(ldL (.int .i64) ((((⟨0,0,none⟩:Addr).add ((kind:Int).toNat*8)).add 1).add 1) (λx3_1=>(ldL (.int .i64) ((((⟨0,0,none⟩:Addr).add ((kind:Int).toNat*8)).add 1).add 2) (λx3_2=>(ldL (.int .i64) ((((⟨0,0,none⟩:Addr).add ((kind:Int).toNat*8)).add 1).add 3) (λx3_3=>(ldL (.bool) ((((⟨0,0,none⟩:Addr).add ((kind:Int).toNat*8)).add 1).add 4) (λx3_4=>(ldL (.bool) ((((⟨0,0,none⟩:Addr).add ((kind:Int).toNat*8)).add 1).add 5) (λx3_5=>(ldL (.bool) ((((⟨0,0,none⟩:Addr).add ((kind:Int).toNat*8)).add 1).add 6) (λx3_6=>(K ((⟨x3_0,x3_1,x3_2,x3_3,x3_4,x3_5,x3_6⟩:Tconstraint_Shape),true) h1)) h1)) h1)) h1)) h1)) h1)) h1)) h1))) (λk2=>(ifP (decide (kind<1)) (K ((⟨0,0,0,0,false,false,false⟩:Tconstraint_Shape),false) h) (ifP (decide (kind>17)) (K ((⟨0,0,0,0,false,false,false⟩:Tconstraint_Shape),false) h) (k2 ((0,0,0,0,false,false,false,()),()) h)))))
def z03(i:Int)(K:ByteArray->Hp->Prop)(h:Hp):Prop:=(ifP (decide (i<10)) (Yv zL6 i (i64.wrap (i+1)) λc1=>(K c1 h)) (Yv zL1 (i64.wrap (i*2)) (i64.wrap ((i64.wrap (i*2))+2)) λc2=>(K c2 h)))
def z2t(x:Int)(K:Int->Hp->Prop)(h:Hp):Prop:=(zv (S:=Int×Int×Unit) (λs1 h1=>(zv (S:=Int×Int×Unit) (λs3 h2=>(zv (S:=Int×Int×Unit) (λs5 h3=>(qy zL4 (u8.wrap (s5.1)) λc7=>(K (i64.wrap (s5.2.1+(i64.wrap (c7)))) h3))) (λk6=>(ifP (decide (s3.1>=256)) (0<=(8:Int) /\ (k6 ((s3.1:Int).fdiv (2 ^ (min (8:Int).toNat u64.bits)),(i64.wrap (s3.2.1+8)),()) h2)) (k6 (s3.1,s3.2.1,()) h2))))) (λk4=>(ifP (decide (s1.1>=65536)) (0<=(16:Int) /\ (k4 ((s1.1:Int).fdiv (2 ^ (min (16:Int).toNat u64.bits)),(i64.wrap (s1.2.1+16)),()) h1)) (k4 (s1.1,s1.2.1,()) h1))))) (λk2=>(ifP (decide (x>=4294967296)) (0<=(32:Int) /\ (k2 ((x:Int).fdiv (2 ^ (min (32:Int).toNat u64.bits)),32,()) h)) (k2 (x,0,()) h))))
def Wk(x:Int)(K:Int->Hp->Prop)(h:Hp):Prop:=(0<=(18:Int) /\ (K (((i64.wrap (x*78913)):Int).fdiv (2 ^ (min (18:Int).toNat i64.bits))) h))
def Wj(b:Bool)(K:Int->Hp->Prop)(h:Hp):Prop:=(ifP b (K 1 h) (K 0 h))
def Q3(d:Int)(K:Int->Hp->Prop)(h:Hp):Prop:=(zc (z2t d) (λr1 h1=>(zc (Wk r1) (λr2 h2=>(ze0 r2 20 (ldL (.int .u64) ((⟨2,0,none⟩:Addr).add ((r2:Int).toNat*1)) (λx3=>(zc (Wj (decide (d>=x3))) (λr4 h3=>(K (i64.wrap (r2+r4)) h3)) h2)) h2))) h1)) h)
def Qa(a:Sl)(u:Int)(K:Unit->Hp->Prop)(h:Hp):Prop:=(zn (S:=Int×Int×Unit) (λs1 k2 h1=>(ifP (decide (s1.2.1>=8)) ((100000000:Int)≠0 /\ ((100000000:Int)≠0 /\ ((10000:Int)≠0 /\ ((10000:Int)≠0 /\ ((100:Int)≠0 /\ ((100:Int)≠0 /\ ((100:Int)≠0 /\ ((100:Int)≠0 /\ (qy zL1 (u32.wrap ((u32.wrap ((((((u32.wrap ((s1.1:Int).tmod 100000000)):Int).tmod 10000):Int).tmod 100)*2))+1)) λc3=>(qy zL1 (u32.wrap ((((((u32.wrap ((s1.1:Int).tmod 100000000)):Int).tmod 10000):Int).tmod 100)*2)) λc4=>(zg a (i64.wrap (s1.2.1-1)) 1 λa5=>(stP a5 [.int .u8 c3] (λh2=>(zg a (i64.wrap (s1.2.1-2)) 1 λa6=>(stP a6 [.int .u8 c4] (λh3=>(qy zL1 (u32.wrap ((u32.wrap ((u32.wrap (((((u32.wrap ((s1.1:Int).tmod 100000000)):Int).tmod 10000):Int).tdiv 100))*2))+1)) λc7=>(qy zL1 (u32.wrap ((u32.wrap (((((u32.wrap ((s1.1:Int).tmod 100000000)):Int).tmod 10000):Int).tdiv 100))*2)) λc8=>(zg a (i64.wrap (s1.2.1-3)) 1 λa9=>(stP a9 [.int .u8 c7] (λh4=>(zg a (i64.wrap (s1.2.1-4)) 1 λa10=>(stP a10 [.int .u8 c8] (λh5=>(qy zL1 (u32.wrap ((u32.wrap ((((u32.wrap (((u32.wrap ((s1.1:Int).tmod 100000000)):Int).tdiv 10000)):Int).tmod 100)*2))+1)) λc11=>(qy zL1 (u32.wrap ((((u32.wrap (((u32.wrap ((s1.1:Int).tmod 100000000)):Int).tdiv 10000)):Int).tmod 100)*2)) λc12=>(zg a (i64.wrap (s1.2.1-5)) 1 λa13=>(stP a13 [.int .u8 c11] (λh6=>(zg a (i64.wrap (s1.2.1-6)) 1 λa14=>(stP a14 [.int .u8 c12] (λh7=>(qy zL1 (u32.wrap ((u32.wrap ((u32.wrap (((u32.wrap (((u32.wrap ((s1.1:Int).tmod 100000000)):Int).tdiv 10000)):Int).tdiv 100))*2))+1)) λc15=>(qy zL1 (u32.wrap ((u32.wrap (((u32.wrap (((u32.wrap ((s1.1:Int).tmod 100000000)):Int).tdiv 10000)):Int).tdiv 100))*2)) λc16=>(zg a (i64.wrap (s1.2.1-7)) 1 λa17=>(stP a17 [.int .u8 c15] (λh8=>(zg a (i64.wrap (s1.2.1-8)) 1 λa18=>(stP a18 [.int .u8 c16] (λh9=>(k2 ((u64.wrap ((s1.1:Int).tdiv 100000000)),(i64.wrap (s1.2.1-8)),()) h9)) h8))) h7))))) h6))) h5))))) h4))) h3))))) h2))) h1)))))))))))) (zv (S:=Int×Int×Unit) (λs19 h10=>(zv (S:=Int×Int×Unit) (λs21 h11=>(ifP (decide (s21.1>0)) (zg a 0 1 λa23=>(stP a23 [.int .u8 (u8.wrap ((u32.wrap (48+s21.2.1))))] (λh12=>(K () h12)) h11)) (K () h11))) (λk22=>(ifP (decide (s19.1>=2)) ((100:Int)≠0 /\ ((100:Int)≠0 /\ (qy zL1 (u32.wrap ((u32.wrap (((s19.2.1:Int).tmod 100)*2))+1)) λc24=>(qy zL1 (u32.wrap (((s19.2.1:Int).tmod 100)*2)) λc25=>(zg a (i64.wrap (s19.1-1)) 1 λa26=>(stP a26 [.int .u8 c24] (λh13=>(zg a (i64.wrap (s19.1-2)) 1 λa27=>(stP a27 [.int .u8 c25] (λh14=>(k22 ((i64.wrap (s19.1-2)),(u32.wrap ((s19.2.1:Int).tdiv 100)),()) h14)) h13))) h10)))))) (k22 (s19.1,s19.2.1,()) h10))))) (λk20=>(ifP (decide (s1.2.1>=4)) ((10000:Int)≠0 /\ ((10000:Int)≠0 /\ ((100:Int)≠0 /\ ((100:Int)≠0 /\ (qy zL1 (u32.wrap ((u32.wrap ((((((u32.wrap (s1.1)):Int).tmod 10000):Int).tmod 100)*2))+1)) λc28=>(qy zL1 (u32.wrap ((((((u32.wrap (s1.1)):Int).tmod 10000):Int).tmod 100)*2)) λc29=>(zg a (i64.wrap (s1.2.1-1)) 1 λa30=>(stP a30 [.int .u8 c28] (λh15=>(zg a (i64.wrap (s1.2.1-2)) 1 λa31=>(stP a31 [.int .u8 c29] (λh16=>(qy zL1 (u32.wrap ((u32.wrap ((u32.wrap (((((u32.wrap (s1.1)):Int).tmod 10000):Int).tdiv 100))*2))+1)) λc32=>(qy zL1 (u32.wrap ((u32.wrap (((((u32.wrap (s1.1)):Int).tmod 10000):Int).tdiv 100))*2)) λc33=>(zg a (i64.wrap (s1.2.1-3)) 1 λa34=>(stP a34 [.int .u8 c32] (λh17=>(zg a (i64.wrap (s1.2.1-4)) 1 λa35=>(stP a35 [.int .u8 c33] (λh18=>(k20 ((i64.wrap (s1.2.1-4)),(u32.wrap (((u32.wrap (s1.1)):Int).tdiv 10000)),()) h18)) h17))) h16))))) h15))) h1)))))))) (k20 (s1.2.1,(u32.wrap (s1.1)),()) h1)))))) (u,(a.len:Int),()) h)
def X7(i:Int)(base:Int)(K:ByteArray->Hp->Prop)(h:Hp):Prop:=(ifP (base==10) (ifP (decide (i<100)) (zc (z03 (i64.wrap (i))) (λr1 h1=>(K r1 h1)) h) (Y2 [.int .u8 0,.int .u8 0,.int .u8 0,.int .u8 0,.int .u8 0,.int .u8 0,.int .u8 0,.int .u8 0,.int .u8 0,.int .u8 0,.int .u8 0,.int .u8 0,.int .u8 0,.int .u8 0,.int .u8 0,.int .u8 0,.int .u8 0,.int .u8 0,.int .u8 0,.int .u8 0,.int .u8 0,.int .u8 0,.int .u8 0,.int .u8 0] (λp2 h2=>(zc (Q3 i) (λr3 h3=>(slP (⟨some p2,24,24⟩:Sl) 0 r3 1 λc4=>(Qu (Qa c4 i) (λr5 h4=>(slP (⟨some p2,24,24⟩:Sl) 0 r3 1 λc6=>(zzz c6 (λt7=>(K t7 h4)) h4))) h3))) h2)) h)) False)
def Wt(i:Int)(base:Int)(K:ByteArray->Hp->Prop)(h:Hp):Prop:=(zc (X7 i base) (λr1 h1=>(K r1 h1)) h)
def z6b(x:Int)(y:Int)(K:(Int×Int)->Hp->Prop)(h:Hp):Prop:=(0<=(32:Int) /\ (0<=(32:Int) /\ (0<=(32:Int) /\ (0<=(32:Int) /\ (0<=(32:Int) /\ (K ((u64.wrap ((u64.wrap ((u64.wrap (((x:Int).fdiv (2 ^ (min (32:Int).toNat u64.bits)))*((y:Int).fdiv (2 ^ (min (32:Int).toNat u64.bits)))))+(((u64.wrap ((u64.wrap (((x:Int).fdiv (2 ^ (min (32:Int).toNat u64.bits)))*(qu .and .u64 y 4294967295)))+(((u64.wrap ((qu .and .u64 x 4294967295)*(qu .and .u64 y 4294967295))):Int).fdiv (2 ^ (min (32:Int).toNat u64.bits))))):Int).fdiv (2 ^ (min (32:Int).toNat u64.bits)))))+(((u64.wrap ((qu .and .u64 (u64.wrap ((u64.wrap (((x:Int).fdiv (2 ^ (min (32:Int).toNat u64.bits)))*(qu .and .u64 y 4294967295)))+(((u64.wrap ((qu .and .u64 x 4294967295)*(qu .and .u64 y 4294967295))):Int).fdiv (2 ^ (min (32:Int).toNat u64.bits))))) 4294967295)+(u64.wrap ((qu .and .u64 x 4294967295)*((y:Int).fdiv (2 ^ (min (32:Int).toNat u64.bits))))))):Int).fdiv (2 ^ (min (32:Int).toNat u64.bits))))),(u64.wrap (x*y))) h))))))
def z5c(x:Int)(y:Int)(K:(Int×Int)->Hp->Prop)(h:Hp):Prop:=(zc (z6b x y) (λr1 h1=>(K (r1.1,r1.2) h1)) h)
def Xf(s:ByteArray)(prefix_:ByteArray)(K:Bool->Hp->Prop)(h:Hp):Prop:=(ifP (decide (((s:ByteArray).size:Int)>=((prefix_:ByteArray).size:Int))) (Yv s 0 ((prefix_:ByteArray).size:Int) λc1=>(K ((c1:ByteArray).toList==(prefix_:ByteArray).toList) h)) (K false h))
def zo(s:ByteArray)(prefix_:ByteArray)(K:Bool->Hp->Prop)(h:Hp):Prop:=(zc (Xf s prefix_) (λr1 h1=>(K r1 h1)) h)
def V3(s:ByteArray)(count:Int)(K:ByteArray->Hp->Prop)(h:Hp):Prop:=(ifP (count==0) (K Y3 h) (ifP (count==1) (K s h) (zv (S:=Unit) (λs1 h1=>(zc (z5c (u64.wrap (((s:ByteArray).size:Int))) (u64.wrap (count))) (λr3 h2=>(zv (S:=Unit) (λs4 h3=>(ifP (((s:ByteArray).size:Int)==0) (K Y3 h3) (zv (S:=Unit) (λs6 h4=>(zv (S:=Int×Unit) (λs8 h5=>(Z1k 364 [.pointer none,.slice zf.a zf.len zf.cap] (λp10 h6=>False) h5)) (λk9=>(ifP (decide ((i64.wrap (r3.2))>8192)) ((((s:ByteArray).size:Int):Int)≠0 /\ (ifP ((i64.wrap ((i64.wrap ((8192:Int).tdiv ((s:ByteArray).size:Int)))*((s:ByteArray).size:Int)))==0) (k9 (((s:ByteArray).size:Int),()) h4) (k9 ((i64.wrap ((i64.wrap ((8192:Int).tdiv ((s:ByteArray).size:Int)))*((s:ByteArray).size:Int))),()) h4))) (k9 ((i64.wrap (r3.2)),()) h4))))) (λk7=>(qy s 0 λc11=>(zv (S:=Bool×Unit) (λs12 h7=>(ifP s12.1 (ifP (decide ((i64.wrap (r3.2))<=128)) (zc (zo zL7 s) (λr14 h8=>(ifP r14 (Yv zL7 0 (i64.wrap (r3.2)) λc15=>(K c15 h8)) (ifP (decide ((i64.wrap (r3.2))<=128)) (zc (zo zL5 s) (λr16 h9=>(ifP r16 (Yv zL5 0 (i64.wrap (r3.2)) λc17=>(K c17 h9)) (ifP (decide ((i64.wrap (r3.2))<=64)) (zc (zo zL3 s) (λr18 h10=>(ifP r18 (Yv zL3 0 (i64.wrap (r3.2)) λc19=>(K c19 h10)) (ifP (decide ((i64.wrap (r3.2))<=128)) (zc (zo zL2 s) (λr20 h11=>(ifP r20 (Yv zL2 0 (i64.wrap (r3.2)) λc21=>(K c21 h11)) (ifP (decide ((i64.wrap (r3.2))<=64)) (zc (zo zL0 s) (λr22 h12=>(ifP r22 (Yv zL0 0 (i64.wrap (r3.2)) λc23=>(K c23 h12)) (k7 () h12))) h11) (k7 () h11)))) h10) (ifP (decide ((i64.wrap (r3.2))<=64)) (zc (zo zL0 s) (λr24 h13=>(ifP r24 (Yv zL0 0 (i64.wrap (r3.2)) λc25=>(K c25 h13)) (k7 () h13))) h10) (k7 () h10))))) h9) (ifP (decide ((i64.wrap (r3.2))<=128)) (zc (zo zL2 s) (λr26 h14=>(ifP r26 (Yv zL2 0 (i64.wrap (r3.2)) λc27=>(K c27 h14)) (ifP (decide ((i64.wrap (r3.2))<=64)) (zc (zo zL0 s) (λr28 h15=>(ifP r28 (Yv zL0 0 (i64.wrap (r3.2)) λc29=>(K c29 h15)) (k7 () h15))) h14) (k7 () h14)))) h9) (ifP (decide ((i64.wrap (r3.2))<=64)) (zc (zo zL0 s) (λr30 h16=>(ifP r30 (Yv zL0 0 (i64.wrap (r3.2)) λc31=>(K c31 h16)) (k7 () h16))) h9) (k7 () h9)))))) h8) (ifP (decide ((i64.wrap (r3.2))<=64)) (zc (zo zL3 s) (λr32 h17=>(ifP r32 (Yv zL3 0 (i64.wrap (r3.2)) λc33=>(K c33 h17)) (ifP (decide ((i64.wrap (r3.2))<=128)) (zc (zo zL2 s) (λr34 h18=>(ifP r34 (Yv zL2 0 (i64.wrap (r3.2)) λc35=>(K c35 h18)) (ifP (decide ((i64.wrap (r3.2))<=64)) (zc (zo zL0 s) (λr36 h19=>(ifP r36 (Yv zL0 0 (i64.wrap (r3.2)) λc37=>(K c37 h19)) (k7 () h19))) h18) (k7 () h18)))) h17) (ifP (decide ((i64.wrap (r3.2))<=64)) (zc (zo zL0 s) (λr38 h20=>(ifP r38 (Yv zL0 0 (i64.wrap (r3.2)) λc39=>(K c39 h20)) (k7 () h20))) h17) (k7 () h17))))) h8) (ifP (decide ((i64.wrap (r3.2))<=128)) (zc (zo zL2 s) (λr40 h21=>(ifP r40 (Yv zL2 0 (i64.wrap (r3.2)) λc41=>(K c41 h21)) (ifP (decide ((i64.wrap (r3.2))<=64)) (zc (zo zL0 s) (λr42 h22=>(ifP r42 (Yv zL0 0 (i64.wrap (r3.2)) λc43=>(K c43 h22)) (k7 () h22))) h21) (k7 () h21)))) h8) (ifP (decide ((i64.wrap (r3.2))<=64)) (zc (zo zL0 s) (λr44 h23=>(ifP r44 (Yv zL0 0 (i64.wrap (r3.2)) λc45=>(K c45 h23)) (k7 () h23))) h8) (k7 () h8))))))) h7) (ifP (decide ((i64.wrap (r3.2))<=128)) (zc (zo zL5 s) (λr46 h24=>(ifP r46 (Yv zL5 0 (i64.wrap (r3.2)) λc47=>(K c47 h24)) (ifP (decide ((i64.wrap (r3.2))<=64)) (zc (zo zL3 s) (λr48 h25=>(ifP r48 (Yv zL3 0 (i64.wrap (r3.2)) λc49=>(K c49 h25)) (ifP (decide ((i64.wrap (r3.2))<=128)) (zc (zo zL2 s) (λr50 h26=>(ifP r50 (Yv zL2 0 (i64.wrap (r3.2)) λc51=>(K c51 h26)) (ifP (decide ((i64.wrap (r3.2))<=64)) (zc (zo zL0 s) (λr52 h27=>(ifP r52 (Yv zL0 0 (i64.wrap (r3.2)) λc53=>(K c53 h27)) (k7 () h27))) h26) (k7 () h26)))) h25) (ifP (decide ((i64.wrap (r3.2))<=64)) (zc (zo zL0 s) (λr54 h28=>(ifP r54 (Yv zL0 0 (i64.wrap (r3.2)) λc55=>(K c55 h28)) (k7 () h28))) h25) (k7 () h25))))) h24) (ifP (decide ((i64.wrap (r3.2))<=128)) (zc (zo zL2 s) (λr56 h29=>(ifP r56 (Yv zL2 0 (i64.wrap (r3.2)) λc57=>(K c57 h29)) (ifP (decide ((i64.wrap (r3.2))<=64)) (zc (zo zL0 s) (λr58 h30=>(ifP r58 (Yv zL0 0 (i64.wrap (r3.2)) λc59=>(K c59 h30)) (k7 () h30))) h29) (k7 () h29)))) h24) (ifP (decide ((i64.wrap (r3.2))<=64)) (zc (zo zL0 s) (λr60 h31=>(ifP r60 (Yv zL0 0 (i64.wrap (r3.2)) λc61=>(K c61 h31)) (k7 () h31))) h24) (k7 () h24)))))) h7) (ifP (decide ((i64.wrap (r3.2))<=64)) (zc (zo zL3 s) (λr62 h32=>(ifP r62 (Yv zL3 0 (i64.wrap (r3.2)) λc63=>(K c63 h32)) (ifP (decide ((i64.wrap (r3.2))<=128)) (zc (zo zL2 s) (λr64 h33=>(ifP r64 (Yv zL2 0 (i64.wrap (r3.2)) λc65=>(K c65 h33)) (ifP (decide ((i64.wrap (r3.2))<=64)) (zc (zo zL0 s) (λr66 h34=>(ifP r66 (Yv zL0 0 (i64.wrap (r3.2)) λc67=>(K c67 h34)) (k7 () h34))) h33) (k7 () h33)))) h32) (ifP (decide ((i64.wrap (r3.2))<=64)) (zc (zo zL0 s) (λr68 h35=>(ifP r68 (Yv zL0 0 (i64.wrap (r3.2)) λc69=>(K c69 h35)) (k7 () h35))) h32) (k7 () h32))))) h7) (ifP (decide ((i64.wrap (r3.2))<=128)) (zc (zo zL2 s) (λr70 h36=>(ifP r70 (Yv zL2 0 (i64.wrap (r3.2)) λc71=>(K c71 h36)) (ifP (decide ((i64.wrap (r3.2))<=64)) (zc (zo zL0 s) (λr72 h37=>(ifP r72 (Yv zL0 0 (i64.wrap (r3.2)) λc73=>(K c73 h37)) (k7 () h37))) h36) (k7 () h36)))) h7) (ifP (decide ((i64.wrap (r3.2))<=64)) (zc (zo zL0 s) (λr74 h38=>(ifP r74 (Yv zL0 0 (i64.wrap (r3.2)) λc75=>(K c75 h38)) (k7 () h38))) h7) (k7 () h7)))))) (k7 () h7))) (λk13=>(ifP (c11==32) (k13 ((c11==32),()) h3) (ifP (c11==45) (k13 ((c11==45),()) h3) (ifP (c11==48) (k13 ((c11==48),()) h3) (ifP (c11==61) (k13 ((c11==61),()) h3) (k13 ((c11==9),()) h3)))))))))))) (λk5=>(ifP (decide (r3.1>0)) False (ifP (decide (r3.2>9223372036854775807)) False (k5 () h2)))))) h1)) (λk2=>(ifP (decide (count<0)) False (k2 () h))))))
def z3p(a:TInt)(K:ByteArray->Hp->Prop)(h:Hp):Prop:=(zc (zy a.mag) (λr1 h1=>(zc (Zi r1) (λr2 h2=>(ifP ((r2.len:Int)==0) (K ⟨#[48]⟩ h2) (zn (S:=Sl×(Sl×Unit)×Unit) (λs3 k4 h3=>(ifP (decide ((s3.1.len:Int)>0)) (zn (S:=Int×Int×Unit) (λs5 k6 h4=>(ifP (decide (s5.2.1>=0)) (0<=(32:Int) /\ (zg s3.1 s5.2.1 1 λa7=>(ldL (.int .u32) a7 (λx8=>((1000000000:Int)≠0 /\ (zg s3.1 s5.2.1 1 λa9=>(stP a9 [.int .u32 (u32.wrap ((u64.wrap (((qu .or .u64 (u64.wrap (s5.1*2 ^ (min (32:Int).toNat u64.bits))) (u64.wrap (x8))):Int).tdiv 1000000000))))] (λh5=>((1000000000:Int)≠0 /\ (k6 (((qu .or .u64 (u64.wrap (s5.1*2 ^ (min (32:Int).toNat u64.bits))) (u64.wrap (x8))):Int).tmod 1000000000,(i64.wrap (s5.2.1-1)),()) h5))) h4)))) h4))) (zc (zy s3.1) (λr10 h6=>(ql 1 4 [.int .u32 0] s3.2.1.1 1 [.int .u32 (u32.wrap (s5.1))] (λw11 h7=>(k4 (r10,(w11,()),()) h7)) h6)) h4))) (0,(i64.wrap ((s3.1.len:Int)-1)),()) h3) (Z1k 364 [.pointer none,.slice zf.a zf.len zf.cap] (λp12 h8=>(zv (S:=Unit) (λs13 h9=>(zc (Yc s3.2.1.1) (λr15 h10=>(zyk (S:=Unit) (.leaf (.int .u32)) r15 (λi16 v17 s18 k19 h11=>(zc (Wt (u64.wrap (v17)) 10) (λr21 h13=>(zv (S:=Unit) (λs22 h14=>(Qu (Zx (some p12) r21) (λr24 h15=>(k19 () h15)) h14)) (λk23=>(ifP (decide (i16<(i64.wrap ((s3.2.1.1.len:Int)-1)))) (zc (V3 ⟨#[48]⟩ (i64.wrap (9-((r21:ByteArray).size:Int)))) (λr25 h16=>(Qu (Zx (some p12) r25) (λr26 h17=>(k23 () h17)) h16)) h13) (k23 () h13))))) h11)) () (λs20 h12=>(Qu (Wa (some p12)) (λr27 h18=>(K r27 h18)) h12)) h10)) h9)) (λk14=>(ifP a.neg (Qu (z1y (some p12) 45) (λr28 h19=>(k14 () h19)) h8) (k14 () h8))))) h3))) (r2,(zf,()),()) h2))) h1)) h)
def z2q(a:TRat)(K:(ByteArray×Bool)->Hp->Prop)(h:Hp):Prop:=(zv (S:=Unit) (λs1 h1=>(zc (qm 10) (λr3 h2=>(zc (W5 1) (λr4 h3=>(zn (S:=(Bool×Sl×Bool×Sl×Unit)×Int×Unit) (λs5 k6 h4=>(ifP (decide (s5.2.1<40)) (zc (z5u (⟨s5.1.2.2.1,s5.1.2.2.2.1⟩:TInt) r4) (λr7 h5=>(ifP (r7 != 0) (zc (z3u (⟨(⟨s5.1.1,s5.1.2.1⟩:TInt),(⟨s5.1.2.2.1,s5.1.2.2.2.1⟩:TInt)⟩:TRat) r3) (λr8 h6=>(k6 ((r8.num.neg,r8.num.mag,r8.den.neg,r8.den.mag,()),(i64.wrap (s5.2.1+1)),()) h6)) h5) (zc (z3p (⟨s5.1.1,s5.1.2.1⟩:TInt)) (λr9 h7=>(zv (S:=ByteArray×Unit) (λs10 h8=>(K (s10.1,decide (((s10.1:ByteArray).size:Int)<=40)) h8)) (λk11=>(ifP (decide (s5.2.1>0)) (zv (S:=ByteArray×Unit) (λs12 h9=>(Yv s12.1 0 (i64.wrap (((s12.1:ByteArray).size:Int)-s5.2.1)) λc14=>((((c14:ByteArray).size+(⟨#[46]⟩:ByteArray).size:Nat):Int)<=9223372036854775807 /\ (Yv s12.1 (i64.wrap (((s12.1:ByteArray).size:Int)-s5.2.1)) ((s12.1:ByteArray).size:Int) λc15=>((((((c14:ByteArray)++(⟨#[46]⟩:ByteArray)):ByteArray).size+(c15:ByteArray).size:Nat):Int)<=9223372036854775807 /\ (k11 (((((c14:ByteArray)++(⟨#[46]⟩:ByteArray)):ByteArray)++(c15:ByteArray)),()) h9)))))) (λk13=>(ifP (decide ((i64.wrap ((i64.wrap (s5.2.1+1))-((r9:ByteArray).size:Int)))>0)) (zc (V3 ⟨#[48]⟩ (i64.wrap ((i64.wrap (s5.2.1+1))-((r9:ByteArray).size:Int)))) (λr16 h10=>((((r16:ByteArray).size+(r9:ByteArray).size:Nat):Int)<=9223372036854775807 /\ (k13 (((r16:ByteArray)++(r9:ByteArray)),()) h10))) h7) (k13 (r9,()) h7)))) (k11 (r9,()) h7))))) h5))) h4) (K (Y3,false) h4))) ((a.num.neg,a.num.mag,a.den.neg,a.den.mag,()),0,()) h3)) h2)) h1)) (λk2=>(zc (Qg a) (λr17 h11=>(ifP (!r17) (K (Y3,false) h11) (zc (Q0 a) (λr18 h12=>(ifP (decide (r18<0)) (K (Y3,false) h12) (k2 () h12))) h11))) h)))
def z3m(a:TRat)(K:Bool->Hp->Prop)(h:Hp):Prop:=(ifP ((a.num.mag.len:Int)==0) (ifP ((a.den.mag.len:Int)==0) (ifP (!a.num.neg) (K (!a.den.neg) h) (K false h)) (K false h)) (K false h))
def z1g(Zsx:TExpr->(Bool->Hp->Prop)->Hp->Prop)(x:TExpr)(K:Bool->Hp->Prop)(h:Hp):Prop:=(zc (Zsx x) (λr1 h1=>(K (!r1) h1)) h)
def yz(Zsx:TExpr->(Bool->Hp->Prop)->Hp->Prop)(s:Sl)(K:Int->Hp->Prop)(h:Hp):Prop:=(zn (S:=Int×Unit) (λs1 k2 h1=>(ifP (decide (s1.1<(s.len:Int))) (zg s s1.1 7 λa3=>(ldL (.int .i64) (a3.add 0) (λx4_0=>(ldL (.bool) (a3.add 1) (λx4_1=>(ldL (.sl) (a3.add 2) (λx4_2=>(ldL (.bool) (a3.add 3) (λx4_3=>(ldL (.sl) (a3.add 4) (λx4_4=>(ldL (.str) (a3.add 5) (λx4_5=>(ldL (.sl) (a3.add 6) (λx4_6=>(zc ((z1g Zsx) (⟨x4_0,(⟨(⟨x4_1,x4_2⟩:TInt),(⟨x4_3,x4_4⟩:TInt)⟩:TRat),x4_5,x4_6⟩:TExpr)) (λr5 h2=>(ifP r5 (K s1.1 h2) (k2 ((i64.wrap (s1.1+1)),()) h2))) h1)) h1)) h1)) h1)) h1)) h1)) h1)) h1)) (K (-1) h1))) (0,()) h)
def yh(Zsx:TExpr->(Bool->Hp->Prop)->Hp->Prop)(s:Sl)(K:Bool->Hp->Prop)(h:Hp):Prop:=(zc ((yz Zsx) s) (λr1 h1=>(K (decide (r1>=0)) h1)) h)
def Qk:Nat->TExpr->(Bool->Hp->Prop)->Hp->Prop
 | 0,_,_,_=>False
 | fuel+1,e,K,h=>(zv (S:=Unit) (λs1 h1=>(ifP (e.op==1) (zc (z2q e.value) (λr3 h2=>(ifP r3.2 (ifP ((e.name:ByteArray).toList==(Y3:ByteArray).toList) (K true h2) (zc (z1k e.name) (λr4 h3=>(K r4 h3)) h2)) (K false h2))) h1) (ifP (e.op==2) (zc (z3m e.value) (λr5 h4=>(ifP r5 (zc (z1k e.name) (λr6 h5=>(K r6 h5)) h4) (K false h4))) h1) (zc (z3m e.value) (λr7 h6=>(ifP r7 (ifP ((e.name:ByteArray).toList==(Y3:ByteArray).toList) (zc ((yh (Qk fuel)) e.args) (λr8 h7=>(K (!r8) h7)) h6) (K false h6)) (K false h6))) h1)))) (λk2=>(ifP (decide (e.op<1)) (K false h) (ifP (decide (e.op>7)) (K false h) (ze0 e.op 8 (ldL (.int .i64) ((⟨1,0,none⟩:Addr).add ((e.op:Int).toNat*1)) (λx9=>(ifP ((e.args.len:Int) != x9) (K false h) (k2 () h))) h))))))
def z3l(e:TExpr)(K:Bool->Hp->Prop)(h:Hp):Prop:=∃fuel,Qk fuel e K h
def Wh:Nat->TExpr->(Int->Hp->Prop)->Hp->Prop
 | 0,_,_,_=>False
 | fuel+1,e,K,h=>(zn (S:=Int×Int×Unit) (λs1 k2 h1=>(ifP (decide (s1.2.1<(e.args.len:Int))) (zg e.args s1.2.1 7 λa3=>(ldL (.int .i64) (a3.add 0) (λx4_0=>(ldL (.bool) (a3.add 1) (λx4_1=>(ldL (.sl) (a3.add 2) (λx4_2=>(ldL (.bool) (a3.add 3) (λx4_3=>(ldL (.sl) (a3.add 4) (λx4_4=>(ldL (.str) (a3.add 5) (λx4_5=>(ldL (.sl) (a3.add 6) (λx4_6=>(zc ((Wh fuel) (⟨x4_0,(⟨(⟨x4_1,x4_2⟩:TInt),(⟨x4_3,x4_4⟩:TInt)⟩:TRat),x4_5,x4_6⟩:TExpr)) (λr5 h2=>(k2 (zwp s1.1 r5,(i64.wrap (s1.2.1+1)),()) h2)) h1)) h1)) h1)) h1)) h1)) h1)) h1)) h1)) (K (i64.wrap (s1.1+1)) h1))) (0,0,()) h)
def z57(e:TExpr)(K:Int->Hp->Prop)(h:Hp):Prop:=∃fuel,Wh fuel e K h
def z58(e:TExpr)(K:Int->Hp->Prop)(h:Hp):Prop:=(zc (z3l e) (λr1 h1=>(ifP (!r1) (K 1 h1) (zc (z57 e) (λr2 h2=>(ifP (decide (r2>40)) (K 3 h2) (K 0 h2))) h1))) h)
def V9(e:TExpr)(K:Bool->Hp->Prop)(h:Hp):Prop:=(zc (z58 e) (λr1 h1=>(K (r1 != 0) h1)) h)
def yo(s:Sl)(K:Int->Hp->Prop)(h:Hp):Prop:=(zn (S:=Int×Unit) (λs1 k2 h1=>(ifP (decide (s1.1<(s.len:Int))) (zg s s1.1 7 λa3=>(ldL (.int .i64) (a3.add 0) (λx4_0=>(ldL (.bool) (a3.add 1) (λx4_1=>(ldL (.sl) (a3.add 2) (λx4_2=>(ldL (.bool) (a3.add 3) (λx4_3=>(ldL (.sl) (a3.add 4) (λx4_4=>(ldL (.str) (a3.add 5) (λx4_5=>(ldL (.sl) (a3.add 6) (λx4_6=>(zc (V9 (⟨x4_0,(⟨(⟨x4_1,x4_2⟩:TInt),(⟨x4_3,x4_4⟩:TInt)⟩:TRat),x4_5,x4_6⟩:TExpr)) (λr5 h2=>(ifP r5 (K s1.1 h2) (k2 ((i64.wrap (s1.1+1)),()) h2))) h1)) h1)) h1)) h1)) h1)) h1)) h1)) h1)) (K (-1) h1))) (0,()) h)
def Zo(s:Sl)(K:Bool->Hp->Prop)(h:Hp):Prop:=(zc (yo s) (λr1 h1=>(K (decide (r1>=0)) h1)) h)
def z1f(l:Sl)(K:Bool->Hp->Prop)(h:Hp):Prop:=(zg l 0 1 λa1=>(ldL (.int .i64) a1 (λx2=>(zg l 1 1 λa3=>(ldL (.int .i64) a3 (λx4=>(zg l 2 1 λa5=>(ldL (.int .i64) a5 (λx6=>(zg l 3 1 λa7=>(ldL (.int .i64) a7 (λx8=>(ifP (x2 != x4) (ifP (x6 != x8) (ifP (x2==x6) (ifP (!(x4==x8)) (ifP (x2==x8) (K (!(x4==x6)) h) (K (!false) h)) (K false h)) (ifP (x2==x8) (K (!(x4==x6)) h) (K (!false) h))) (K false h)) (K false h))) h))) h))) h))) h))
def Xt(s:Sl)(v:Int)(K:Int->Hp->Prop)(h:Hp):Prop:=(zn (S:=Int×Unit) (λs1 k2 h1=>(ifP (decide (s1.1<(s.len:Int))) (zg s s1.1 1 λa3=>(ldL (.int .i64) a3 (λx4=>(ifP (v==x4) (K s1.1 h1) (k2 ((i64.wrap (s1.1+1)),()) h1))) h1)) (K (-1) h1))) (0,()) h)
def Zh(s:Sl)(v:Int)(K:Bool->Hp->Prop)(h:Hp):Prop:=(zc (Xt s v) (λr1 h1=>(K (decide (r1>=0)) h1)) h)
def Xn(l:Sl)(K:Bool->Hp->Prop)(h:Hp):Prop:=(zn (S:=Int×Unit) (λs1 k2 h1=>(ifP (decide (s1.1<(l.len:Int))) (zg l s1.1 1 λa3=>(ldL (.int .i64) a3 (λx4=>(slP l 0 s1.1 1 λc5=>(zc (Zh c5 x4) (λr6 h2=>(ifP r6 (K false h2) (k2 ((i64.wrap (s1.1+1)),()) h2))) h1))) h1)) (K true h1))) (0,()) h)
def z1z(i:Int)(v0:(Option Addr))(K:Bool->Hp->Prop)(h:Hp):Prop:=(ifP (decide (i<0)) (K true h) (Ye v0 λp1=>(ldL (.int .i64) p1 (λx2=>(K (decide (i>=x2)) h)) h)))
def Yu(s:Sl)(f1:(Option Addr×Unit))(K:Int->Hp->Prop)(h:Hp):Prop:=(zn (S:=Int×Unit) (λs1 k2 h1=>(ifP (decide (s1.1<(s.len:Int))) (zg s s1.1 1 λa3=>(ldL (.int .i64) a3 (λx4=>(zc (z1z x4 f1.1) (λr5 h2=>(ifP r5 (K s1.1 h2) (k2 ((i64.wrap (s1.1+1)),()) h2))) h1)) h1)) (K (-1) h1))) (0,()) h)
def Yh(s:Sl)(f1:(Option Addr×Unit))(K:Bool->Hp->Prop)(h:Hp):Prop:=(zc (Yu s (f1.1,())) (λr1 h1=>(K (decide (r1>=0)) h1)) h)
def W8(l:Sl)(n:Int)(zae:Int)(K:Bool->Hp->Prop)(h:Hp):Prop:=(Y2 [.int .i64 zae] (λp1 h1=>(ifP ((l.len:Int)==n) (zc (Yh l ((some p1),())) (λr2 h2=>(K (!r2) h2)) h1) (K false h1))) h)
def z1e(c:TConstraint)(points:Int)(circles:Int)(K:Bool->Hp->Prop)(h:Hp):Prop:=(zc (Wf c.kind) (λr1 h1=>(zv (S:=Unit) (λs2 h2=>(zc (Zo c.values) (λr4 h3=>(ifP r4 (K false h3) (zv (S:=Unit) (λs5 h4=>(zv (S:=Bool×Unit) (λs7 h5=>(ifP s7.1 (zc (z1f c.points) (λr9 h6=>(K r9 h6)) h5) (zc (Xn c.points) (λr10 h7=>(ifP r10 (zc (Xn c.circles) (λr11 h8=>(K r11 h8)) h7) (K false h7))) h5))) (λk8=>(ifP (c.kind==5) (k8 ((c.kind==5),()) h4) (ifP (c.kind==6) (k8 ((c.kind==6),()) h4) (ifP (c.kind==7) (k8 ((c.kind==7),()) h4) (k8 ((c.kind==8),()) h4))))))) (λk6=>(ifP r1.1.side (ifP (c.side != 1) (ifP (c.side != (-1)) (K false h3) (ifP (!r1.1.side) (ifP (c.side != 0) (K false h3) (k6 () h3)) (k6 () h3))) (ifP (!r1.1.side) (ifP (c.side != 0) (K false h3) (k6 () h3)) (k6 () h3))) (ifP (!r1.1.side) (ifP (c.side != 0) (K false h3) (k6 () h3)) (k6 () h3))))))) h2)) (λk3=>(ifP (!r1.2) (K false h1) (zc (W8 c.points r1.1.points points) (λr12 h9=>(ifP (!r12) (K false h9) (zc (W8 c.circles r1.1.circles circles) (λr13 h10=>(ifP (!r13) (K false h10) (ifP ((c.values.len:Int) != r1.1.values) (K false h10) (k3 () h10)))) h9))) h1))))) h)
def z88(c:TConstraint)(v0:(Option Addr))(v1:(Option Addr))(K:Bool->Hp->Prop)(h:Hp):Prop:=(Ye v0 λp1=>(ldL (.int .i64) p1 (λx2=>(Ye v1 λp3=>(ldL (.int .i64) p3 (λx4=>(zc (z1e c x2 x4) (λr5 h1=>(K r5 h1)) h)) h))) h))
def Y5(x:TConstraint)(v0:(Option Addr))(K:Bool->Hp->Prop)(h:Hp):Prop:=(Ye v0 λp1=>(ldL (.val) p1 (λx2=>∃c3:Option Addr,∃c4:Option Addr,(x2=.func (.func 87) #[] #[.pointer c3,.pointer c4] /\ (zc (z88 x c3 c4) (λr5 h1=>(K (!r5) h1)) h))) h))
def z8(s:Sl)(f1:(Option Addr×Unit))(K:Int->Hp->Prop)(h:Hp):Prop:=(zn (S:=Int×Unit) (λs1 k2 h1=>(ifP (decide (s1.1<(s.len:Int))) (zg s s1.1 5 λa3=>(ldL (.int .i64) (a3.add 0) (λx4_0=>(ldL (.sl) (a3.add 1) (λx4_1=>(ldL (.sl) (a3.add 2) (λx4_2=>(ldL (.sl) (a3.add 3) (λx4_3=>(ldL (.int .i64) (a3.add 4) (λx4_4=>(zc (Y5 (⟨x4_0,x4_1,x4_2,x4_3,x4_4⟩:TConstraint) f1.1) (λr5 h2=>(ifP r5 (K s1.1 h2) (k2 ((i64.wrap (s1.1+1)),()) h2))) h1)) h1)) h1)) h1)) h1)) h1)) (K (-1) h1))) (0,()) h)
def z7(s:Sl)(f1:(Option Addr×Unit))(K:Bool->Hp->Prop)(h:Hp):Prop:=(zc (z8 s (f1.1,())) (λr1 h1=>(K (decide (r1>=0)) h1)) h)
def Yb(l:Sl)(f1:(Option Addr×Option Addr×Unit))(K:Bool->Hp->Prop)(h:Hp):Prop:=(Y2 [.func (.func 87) #[] #[.pointer f1.1,.pointer f1.2.1]] (λp1 h1=>(zc (z7 l ((some p1),())) (λr2 h2=>(K (!r2) h2)) h1)) h)
def z09(s:TSketch)(K:Int->Hp->Prop)(h:Hp):Prop:=(Y2 [.slice s.points.a s.points.len s.points.cap,.slice s.circles.a s.circles.len s.circles.cap,.slice s.segments.a s.segments.len s.segments.cap,.slice s.arcs.a s.arcs.len s.arcs.cap,.slice s.chains.a s.chains.len s.chains.cap,.slice s.constraints.a s.constraints.len s.constraints.cap] (λp1 h1=>(ldL (.sl) (p1.add 0) (λx2_0=>(ldL (.sl) (p1.add 1) (λx2_1=>(ldL (.sl) (p1.add 2) (λx2_2=>(ldL (.sl) (p1.add 3) (λx2_3=>(ldL (.sl) (p1.add 4) (λx2_4=>(ldL (.sl) (p1.add 5) (λx2_5=>(zc (z42 (⟨x2_0,x2_1,x2_2,x2_3,x2_4,x2_5⟩:TSketch)) (λr3 h2=>(ifP r3 (K 3 h2) (ldL (.sl) (p1.add 0) (λx4=>(ldL (.sl) (p1.add 1) (λx5=>(Y2 [.int .i64 (x4.len:Int)] (λp6 h3=>(Y2 [.int .i64 (x5.len:Int)] (λp7 h4=>(zv (S:=Bool×Unit) (λs8 h5=>(ifP (!s8.1) (K 1 h5) (K 0 h5))) (λk9=>(ldL (.sl) (p1.add 0) (λx10=>(zc (Yy x10) (λr11 h6=>(ifP r11 (ldL (.sl) (p1.add 1) (λx12=>(zc (Yz x12 ((some p6),())) (λr13 h7=>(ifP r13 (ldL (.sl) (p1.add 2) (λx14=>(zc (Yk x14 ((some p6),())) (λr15 h8=>(ifP r15 (ldL (.sl) (p1.add 3) (λx16=>(zc (Y8 x16 ((some p1),())) (λr17 h9=>(ifP r17 (ldL (.sl) (p1.add 4) (λx18=>(zc (Yx x18 ((some p1),())) (λr19 h10=>(ifP r19 (ldL (.sl) (p1.add 5) (λx20=>(zc (Yb x20 ((some p6),(some p7),())) (λr21 h11=>(k9 (r21,()) h11)) h10)) h10) (k9 (false,()) h10))) h9)) h9) (k9 (false,()) h9))) h8)) h8) (k9 (false,()) h8))) h7)) h7) (k9 (false,()) h7))) h6)) h6) (k9 (false,()) h6))) h4)) h4)))) h3)) h2)) h2)) h2))) h1)) h1)) h1)) h1)) h1)) h1)) h1)) h)
def Xs(s1:Sl)(s2:Sl)(K:Bool->Hp->Prop)(h:Hp):Prop:=(ifP ((s1.len:Int) != (s2.len:Int)) (K false h) (zn (S:=Int×Unit) (λs3 k4 h1=>(ifP (decide (s3.1<(s1.len:Int))) (zg s1 s3.1 1 λa5=>(ldL (.int .i64) a5 (λx6=>(zg s2 s3.1 1 λa7=>(ldL (.int .i64) a7 (λx8=>(ifP (x6 != x8) (K false h1) (k4 ((i64.wrap (s3.1+1)),()) h1))) h1))) h1)) (K true h1))) (0,()) h))
def z18(s1:Sl)(s2:Sl)(K:Bool->Hp->Prop)(h:Hp):Prop:=(ifP ((s1.len:Int) != (s2.len:Int)) (K false h) (zn (S:=Int×Unit) (λs3 k4 h1=>(ifP (decide (s3.1<(s1.len:Int))) (zg s1 s3.1 1 λa5=>(ldL (.int .u32) a5 (λx6=>(zg s2 s3.1 1 λa7=>(ldL (.int .u32) a7 (λx8=>(ifP (x6 != x8) (K false h1) (k4 ((i64.wrap (s3.1+1)),()) h1))) h1))) h1)) (K true h1))) (0,()) h))
def z4i(a:TInt)(b:TInt)(K:Bool->Hp->Prop)(h:Hp):Prop:=(ifP (a.neg==b.neg) (zc (z18 a.mag b.mag) (λr1 h1=>(K r1 h1)) h) (K false h))
def ze7(Zsy:Sl->Sl->(Bool->Hp->Prop)->Hp->Prop)(a:TExpr)(b:TExpr)(K:Bool->Hp->Prop)(h:Hp):Prop:=(ifP (a.op==b.op) (ifP ((a.name:ByteArray).toList==(b.name:ByteArray).toList) (zc (z4i a.value.num b.value.num) (λr1 h1=>(ifP r1 (zc (z4i a.value.den b.value.den) (λr2 h2=>(ifP r2 (zc (Zsy a.args b.args) (λr3 h3=>(K r3 h3)) h2) (K false h2))) h1) (K false h1))) h) (K false h)) (K false h))
def zp:Nat->Sl->Sl->(Bool->Hp->Prop)->Hp->Prop
 | 0,_,_,_,_=>False
 | fuel+1,s1,s2,K,h=>(ifP ((s1.len:Int) != (s2.len:Int)) (K false h) (zn (S:=Int×Unit) (λs3 k4 h1=>(ifP (decide (s3.1<(s1.len:Int))) (zg s1 s3.1 7 λa5=>(ldL (.int .i64) (a5.add 0) (λx6_0=>(ldL (.bool) (a5.add 1) (λx6_1=>(ldL (.sl) (a5.add 2) (λx6_2=>(ldL (.bool) (a5.add 3) (λx6_3=>(ldL (.sl) (a5.add 4) (λx6_4=>(ldL (.str) (a5.add 5) (λx6_5=>(ldL (.sl) (a5.add 6) (λx6_6=>(zg s2 s3.1 7 λa7=>(ldL (.int .i64) (a7.add 0) (λx8_0=>(ldL (.bool) (a7.add 1) (λx8_1=>(ldL (.sl) (a7.add 2) (λx8_2=>(ldL (.bool) (a7.add 3) (λx8_3=>(ldL (.sl) (a7.add 4) (λx8_4=>(ldL (.str) (a7.add 5) (λx8_5=>(ldL (.sl) (a7.add 6) (λx8_6=>(zc ((ze7 (zp fuel)) (⟨x6_0,(⟨(⟨x6_1,x6_2⟩:TInt),(⟨x6_3,x6_4⟩:TInt)⟩:TRat),x6_5,x6_6⟩:TExpr) (⟨x8_0,(⟨(⟨x8_1,x8_2⟩:TInt),(⟨x8_3,x8_4⟩:TInt)⟩:TRat),x8_5,x8_6⟩:TExpr)) (λr9 h2=>(ifP (!r9) (K false h2) (k4 ((i64.wrap (s3.1+1)),()) h2))) h1)) h1)) h1)) h1)) h1)) h1)) h1)) h1))) h1)) h1)) h1)) h1)) h1)) h1)) h1)) (K true h1))) (0,()) h))
def Zu(s1:Sl)(s2:Sl)(K:Bool->Hp->Prop)(h:Hp):Prop:=∃fuel,zp fuel s1 s2 K h
def z1d(a:TConstraint)(b:TConstraint)(K:Bool->Hp->Prop)(h:Hp):Prop:=(ifP (a.kind==b.kind) (ifP (a.side==b.side) (zc (Xs a.points b.points) (λr1 h1=>(ifP r1 (zc (Xs a.circles b.circles) (λr2 h2=>(ifP r2 (zc (Zu a.values b.values) (λr3 h3=>(K r3 h3)) h2) (K false h2))) h1) (K false h1))) h) (K false h)) (K false h))
def z1t(d:TConstraint)(v0:(Option Addr))(K:Bool->Hp->Prop)(h:Hp):Prop:=(Ye v0 λp1=>(ldL (.int .i64) (p1.add 0) (λx2_0=>(ldL (.sl) (p1.add 1) (λx2_1=>(ldL (.sl) (p1.add 2) (λx2_2=>(ldL (.sl) (p1.add 3) (λx2_3=>(ldL (.int .i64) (p1.add 4) (λx2_4=>(zc (z1d (⟨x2_0,x2_1,x2_2,x2_3,x2_4⟩:TConstraint) d) (λr3 h1=>(K r3 h1)) h)) h)) h)) h)) h)) h))
def Zz(s:Sl)(f1:(Option Addr×Unit))(K:Int->Hp->Prop)(h:Hp):Prop:=(zn (S:=Int×Unit) (λs1 k2 h1=>(ifP (decide (s1.1<(s.len:Int))) (zg s s1.1 5 λa3=>(ldL (.int .i64) (a3.add 0) (λx4_0=>(ldL (.sl) (a3.add 1) (λx4_1=>(ldL (.sl) (a3.add 2) (λx4_2=>(ldL (.sl) (a3.add 3) (λx4_3=>(ldL (.int .i64) (a3.add 4) (λx4_4=>(zc (z1t (⟨x4_0,x4_1,x4_2,x4_3,x4_4⟩:TConstraint) f1.1) (λr5 h2=>(ifP r5 (K s1.1 h2) (k2 ((i64.wrap (s1.1+1)),()) h2))) h1)) h1)) h1)) h1)) h1)) h1)) (K (-1) h1))) (0,()) h)
def zq(s:Sl)(f1:(Option Addr×Unit))(K:Bool->Hp->Prop)(h:Hp):Prop:=(zc (Zz s (f1.1,())) (λr1 h1=>(K (decide (r1>=0)) h1)) h)
def z17(s:TSketch)(K:Sl->Hp->Prop)(h:Hp):Prop:=(zn (S:=Sl×Int×Unit) (λs1 k2 h1=>(ifP (decide (s1.2.1<(s.arcs.len:Int))) (zg s.arcs s1.2.1 4 λa3=>(ldL (.int .i64) (a3.add 0) (λx4_0=>(ldL (.int .i64) (a3.add 1) (λx4_1=>(ldL (.int .i64) (a3.add 2) (λx4_2=>(ldL (.bool) (a3.add 3) (λx4_3=>(Y2 [.int .i64 x4_1,.int .i64 x4_2] (λp5 h2=>(zn (S:=Sl×Int×Unit) (λs6 k7 h3=>(ifP (decide (s6.2.1<((⟨some p5,2,2⟩:Sl).len:Int))) (zv (S:=Sl×Unit) (λs8 h4=>(k7 (s8.1,(i64.wrap (s6.2.1+1)),()) h4)) (λk9=>(zg (⟨some p5,2,2⟩:Sl) s6.2.1 1 λa10=>(ldL (.int .i64) a10 (λx11=>(Y2 [.int .i64 x11] (λp12 h5=>(Y2 [.int .i64 x4_0] (λp13 h6=>(Y2 [.int .i64 0,.slice zf.a zf.len zf.cap,.slice zf.a zf.len zf.cap,.slice zf.a zf.len zf.cap,.int .i64 0] (λp14 h7=>(stP p14 [.int .i64 13,.slice (⟨some p12,1,1⟩:Sl).a (⟨some p12,1,1⟩:Sl).len (⟨some p12,1,1⟩:Sl).cap,.slice (⟨some p13,1,1⟩:Sl).a (⟨some p13,1,1⟩:Sl).len (⟨some p13,1,1⟩:Sl).cap,.slice zf.a zf.len zf.cap,.int .i64 0] (λh8=>(zc (zq s.constraints ((some p14),())) (λr15 h9=>(ifP (!r15) (zc (zq s6.1 ((some p14),())) (λr16 h10=>(ifP (!r16) (ldL (.int .i64) (p14.add 0) (λx17_0=>(ldL (.sl) (p14.add 1) (λx17_1=>(ldL (.sl) (p14.add 2) (λx17_2=>(ldL (.sl) (p14.add 3) (λx17_3=>(ldL (.int .i64) (p14.add 4) (λx17_4=>(ql 5 88 [.int .i64 0,.slice zf.a zf.len zf.cap,.slice zf.a zf.len zf.cap,.slice zf.a zf.len zf.cap,.int .i64 0] s6.1 1 [.int .i64 x17_0,.slice x17_1.a x17_1.len x17_1.cap,.slice x17_2.a x17_2.len x17_2.cap,.slice x17_3.a x17_3.len x17_3.cap,.int .i64 x17_4] (λw18 h11=>(k9 (w18,()) h11)) h10)) h10)) h10)) h10)) h10)) h10) (k9 (s6.1,()) h10))) h9) (k9 (s6.1,()) h9))) h8)) h7)) h6)) h5)) h3)) h3)))) (k2 (s6.1,(i64.wrap (s1.2.1+1)),()) h3))) (s1.1,0,()) h2)) h1)) h1)) h1)) h1)) h1)) (K s1.1 h1))) (zf,0,()) h)
def y8(s:Sl)(n:Int)(K:Sl->Hp->Prop)(h:Hp):Prop:=(zv (S:=Unit) (λs1 h1=>(ifP (decide ((i64.wrap (n-(i64.wrap ((s.cap:Int)-(s.len:Int)))))>0)) (slP s 0 (s.cap:Int) 5 λc3=>(0<=((i64.wrap (n-(i64.wrap ((s.cap:Int)-(s.len:Int))))):Int) /\ (ql 5 88 [.int .i64 0,.slice zf.a zf.len zf.cap,.slice zf.a zf.len zf.cap,.slice zf.a zf.len zf.cap,.int .i64 0] c3 (((i64.wrap (n-(i64.wrap ((s.cap:Int)-(s.len:Int))))):Int).toNat) (yn ((i64.wrap (n-(i64.wrap ((s.cap:Int)-(s.len:Int))))):Int).toNat [.int .i64 0,.slice zf.a zf.len zf.cap,.slice zf.a zf.len zf.cap,.slice zf.a zf.len zf.cap,.int .i64 0]) (λw4 h2=>(slP w4 0 (s.len:Int) 5 λc5=>(K c5 h2))) h1))) (K s h1))) (λk2=>(ifP (decide (n<0)) False (k2 () h))))
def ym(slices:Sl)(K:Sl->Hp->Prop)(h:Hp):Prop:=(zn (S:=Int×Int×Unit) (λs1 k2 h1=>(ifP (decide (s1.2.1<(slices.len:Int))) (zv (S:=Int×Unit) (λs3 h2=>(k2 (s3.1,(i64.wrap (s1.2.1+1)),()) h2)) (λk4=>(zg slices s1.2.1 1 λa5=>(ldL (.sl) a5 (λx6=>(ifP (decide ((i64.wrap (s1.1+(x6.len:Int)))<0)) False (k4 ((i64.wrap (s1.1+(x6.len:Int))),()) h1))) h1)))) (zc (y8 zf s1.1) (λr7 h3=>(zn (S:=Sl×Int×Unit) (λs8 k9 h4=>(ifP (decide (s8.2.1<(slices.len:Int))) (zg slices s8.2.1 1 λa10=>(ldL (.sl) a10 (λx11=>(rdO x11.a (x11.len*5) (λvs12=>(ql 5 88 [.int .i64 0,.slice zf.a zf.len zf.cap,.slice zf.a zf.len zf.cap,.slice zf.a zf.len zf.cap,.int .i64 0] s8.1 x11.len vs12 (λw13 h5=>(k9 (w13,(i64.wrap (s8.2.1+1)),()) h5)) h4)) h4)) h4)) (K s8.1 h4))) (r7,0,()) h3)) h1))) (0,0,()) h)
def Xr(s:Sl)(K:Sl->Hp->Prop)(h:Hp):Prop:=(ifP s.a.isNone (K zf h) (Y2 [] (λp1 h1=>(rdO s.a (s.len*1) (λvs2=>(ql 1 8 [.int .i64 0] (⟨some p1,0,0⟩:Sl) s.len vs2 (λw3 h2=>(K w3 h2)) h1)) h1)) h))
def z0r(s:TSketch)(K:(Option Addr)->Hp->Prop)(h:Hp):Prop:=(zc (z17 s) (λr1 h1=>(Y2 [.slice s.constraints.a s.constraints.len s.constraints.cap,.slice r1.a r1.len r1.cap] (λp2 h2=>(zc (ym (⟨some p2,2,2⟩:Sl)) (λr3 h3=>(Y2 [.slice s.points.a s.points.len s.points.cap,.slice s.circles.a s.circles.len s.circles.cap,.slice s.segments.a s.segments.len s.segments.cap,.slice s.arcs.a s.arcs.len s.arcs.cap,.slice s.chains.a s.chains.len s.chains.cap,.slice s.constraints.a s.constraints.len s.constraints.cap,.slice r3.a r3.len r3.cap,.slice zf.a zf.len zf.cap,.slice zf.a zf.len zf.cap] (λp4 h4=>(zn (S:=Int×Unit) (λs5 k6 h5=>(ifP (decide (s5.1<(s.circles.len:Int))) (zg s.circles s5.1 5 λa7=>(ldL (.int .i64) (a7.add 0) (λx8_0=>(ldL (.bool) (a7.add 1) (λx8_1=>(ldL (.sl) (a7.add 2) (λx8_2=>(ldL (.bool) (a7.add 3) (λx8_3=>(ldL (.sl) (a7.add 4) (λx8_4=>(ldL (.sl) (p4.add 8) (λx9=>(ql 1 8 [.int .i64 0] x9 1 [.int .i64 x8_0] (λw10 h6=>(stP (p4.add 8) [.slice w10.a w10.len w10.cap] (λh7=>(k6 ((i64.wrap (s5.1+1)),()) h7)) h6)) h5)) h5)) h5)) h5)) h5)) h5)) h5)) (ldL (.sl) (p4.add 6) (λx11=>(zn (S:=Int×Unit) (λs12 k13 h8=>(ifP (decide (s12.1<(x11.len:Int))) (zg x11 s12.1 5 λa14=>(ldL (.int .i64) (a14.add 0) (λx15_0=>(ldL (.sl) (a14.add 1) (λx15_1=>(ldL (.sl) (a14.add 2) (λx15_2=>(ldL (.sl) (a14.add 3) (λx15_3=>(ldL (.int .i64) (a14.add 4) (λx15_4=>(zc (Xr x15_1) (λr16 h9=>(zn (S:=Sl×Int×Unit) (λs17 k18 h10=>(ifP (decide (s17.2.1<(x15_2.len:Int))) (zv (S:=Sl×Unit) (λs19 h11=>(k18 (s19.1,(i64.wrap (s17.2.1+1)),()) h11)) (λk20=>(zg x15_2 s17.2.1 1 λa21=>(ldL (.int .i64) a21 (λx22=>(ql 1 8 [.int .i64 0] s17.1 1 [.int .i64 (i64.wrap ((-1)-x22))] (λw23 h12=>(ifP (x15_0==13) (ldL (.sl) (p4.add 8) (λx24=>(zg x24 x22 1 λa25=>(ldL (.int .i64) a25 (λx26=>(ql 1 8 [.int .i64 0] w23 1 [.int .i64 x26] (λw27 h13=>(k20 (w27,()) h13)) h12)) h12))) h12) (ifP (x15_0==16) (ldL (.sl) (p4.add 8) (λx28=>(zg x28 x22 1 λa29=>(ldL (.int .i64) a29 (λx30=>(ql 1 8 [.int .i64 0] w23 1 [.int .i64 x30] (λw31 h14=>(k20 (w31,()) h14)) h12)) h12))) h12) (ifP (x15_0==17) (ldL (.sl) (p4.add 8) (λx32=>(zg x32 x22 1 λa33=>(ldL (.int .i64) a33 (λx34=>(ql 1 8 [.int .i64 0] w23 1 [.int .i64 x34] (λw35 h15=>(k20 (w35,()) h15)) h12)) h12))) h12) (k20 (w23,()) h12))))) h10)) h10)))) (ldL (.sl) (p4.add 7) (λx36=>(ql 1 24 [.slice zf.a zf.len zf.cap] x36 1 [.slice s17.1.a s17.1.len s17.1.cap] (λw37 h16=>(stP (p4.add 7) [.slice w37.a w37.len w37.cap] (λh17=>(k13 ((i64.wrap (s12.1+1)),()) h17)) h16)) h10)) h10))) (r16,0,()) h9)) h8)) h8)) h8)) h8)) h8)) h8)) (K (some p4) h8))) (0,()) h5)) h5))) (0,()) h4)) h3)) h2)) h1)) h)
def y_henneberg_peeler_all(p:(Option Addr))(K:Sl->Hp->Prop)(h:Hp):Prop:=(Ye p λp1=>(ldL (.sl) ((p1.add 0).add 0) (λx2=>(zn (S:=Sl×Int×Unit) (λs3 k4 h1=>(ifP (decide (s3.2.1<(x2.len:Int))) (ql 1 8 [.int .i64 0] s3.1 1 [.int .i64 s3.2.1] (λw5 h2=>(k4 (w5,(i64.wrap (s3.2.1+1)),()) h2)) h1) (Ye p λp6=>(ldL (.sl) ((p6.add 0).add 1) (λx7=>(zn (S:=Sl×Int×Unit) (λs8 k9 h3=>(ifP (decide (s8.2.1<(x7.len:Int))) (ql 1 8 [.int .i64 0] s8.1 1 [.int .i64 (i64.wrap ((-1)-s8.2.1))] (λw10 h4=>(k9 (w10,(i64.wrap (s8.2.1+1)),()) h4)) h3) (K s8.1 h3))) (s3.1,0,()) h1)) h1)))) (zf,0,()) h)) h))
def y_henneberg_peeler_remaining_1(x:Int)(v0:(Option Addr))(K:Bool->Hp->Prop)(h:Hp):Prop:=(Ye v0 λp1=>(ldL (.sl) p1 (λx2=>(zc (Zh x2 x) (λr3 h1=>(K r3 h1)) h)) h))
def yj(s:Sl)(f1:(Option Addr×Unit))(K:Int->Hp->Prop)(h:Hp):Prop:=(zn (S:=Int×Unit) (λs1 k2 h1=>(ifP (decide (s1.1<(s.len:Int))) (zg s s1.1 1 λa3=>(ldL (.int .i64) a3 (λx4=>(zc (y_henneberg_peeler_remaining_1 x4 f1.1) (λr5 h2=>(ifP r5 (K s1.1 h2) (k2 ((i64.wrap (s1.1+1)),()) h2))) h1)) h1)) (K (-1) h1))) (0,()) h)
def Z7(s:Sl)(f1:(Option Addr×Unit))(K:Bool->Hp->Prop)(h:Hp):Prop:=(zc (yj s (f1.1,())) (λr1 h1=>(K (decide (r1>=0)) h1)) h)
def y_henneberg_peeler_remaining(p:(Option Addr))(item:Int)(removed:Sl)(K:Sl->Hp->Prop)(h:Hp):Prop:=(Y2 [.slice removed.a removed.len removed.cap] (λp1 h1=>(Ye p λp2=>(ldL (.sl) (p2.add 7) (λx3=>(zn (S:=Sl×Int×Unit) (λs4 k5 h2=>(ifP (decide (s4.2.1<(x3.len:Int))) (zv (S:=Sl×Unit) (λs6 h3=>(k5 (s6.1,(i64.wrap (s4.2.1+1)),()) h3)) (λk7=>(zg x3 s4.2.1 1 λa8=>(ldL (.sl) a8 (λx9=>(zc (Zh x9 item) (λr10 h4=>(ifP r10 (zc (Z7 x9 ((some p1),())) (λr11 h5=>(ifP (!r11) (ql 1 8 [.int .i64 0] s4.1 1 [.int .i64 s4.2.1] (λw12 h6=>(k7 (w12,()) h6)) h5) (k7 (s4.1,()) h5))) h4) (k7 (s4.1,()) h4))) h2)) h2)))) (K s4.1 h2))) (zf,0,()) h1)) h1))) h)
def y_henneberg_peeler_equations(p:(Option Addr))(i:Int)(K:Int->Hp->Prop)(h:Hp):Prop:=(Ye p λp1=>(ldL (.sl) (p1.add 6) (λx2=>(zg x2 i 5 λa3=>(ldL (.int .i64) (a3.add 0) (λx4=>(zc (Wf x4) (λr5 h1=>(K r5.1.equations h1)) h)) h))) h))
def y_henneberg_peeler_weight(p:(Option Addr))(l:Sl)(K:Int->Hp->Prop)(h:Hp):Prop:=(zn (S:=Int×Int×Unit) (λs1 k2 h1=>(ifP (decide (s1.2.1<(l.len:Int))) (zg l s1.2.1 1 λa3=>(ldL (.int .i64) a3 (λx4=>(zc (y_henneberg_peeler_equations p x4) (λr5 h2=>(k2 ((i64.wrap (s1.1+r5)),(i64.wrap (s1.2.1+1)),()) h2)) h1)) h1)) (K s1.1 h1))) (0,0,()) h)
def z8n(c:TConstraint)(centers:Sl)(circle:Int)(K:Bool->Hp->Prop)(h:Hp):Prop:=(zc (Xt c.circles circle) (λr1 h1=>(ifP (decide (r1<0)) (K false h1) (zv (S:=Bool×Unit) (λs2 h2=>(ifP s2.1 (K true h2) (zv (S:=Bool×Unit) (λs4 h3=>(ifP s4.1 (zg centers circle 1 λa6=>(ldL (.int .i64) a6 (λx7=>(zc (Zh c.points x7) (λr8 h4=>(K (!r8) h4)) h3)) h3)) (ifP (c.kind==17) (ifP (c.side==1) (zg c.circles 0 1 λa9=>(ldL (.int .i64) a9 (λx10=>(zg centers x10 1 λa11=>(ldL (.int .i64) a11 (λx12=>(zg c.circles 1 1 λa13=>(ldL (.int .i64) a13 (λx14=>(zg centers x14 1 λa15=>(ldL (.int .i64) a15 (λx16=>(K (x12 != x16) h3)) h3))) h3))) h3))) h3)) (K false h3)) (K false h3)))) (λk5=>(ifP (c.kind==13) (k5 ((c.kind==13),()) h2) (k5 ((c.kind==16),()) h2)))))) (λk3=>(ifP (c.kind==14) (k3 ((c.kind==14),()) h1) (k3 ((c.kind==15),()) h1)))))) h)
def y_henneberg_peeler_removable_1(i:Int)(v0:(Option Addr))(v1:(Option Addr))(K:Bool->Hp->Prop)(h:Hp):Prop:=(Ye v0 λp1=>(ldL (.ptr) p1 (λx2=>(Ye x2 λp3=>(ldL (.sl) (p3.add 6) (λx4=>(zg x4 i 5 λa5=>(ldL (.int .i64) (a5.add 0) (λx6_0=>(ldL (.sl) (a5.add 1) (λx6_1=>(ldL (.sl) (a5.add 2) (λx6_2=>(ldL (.sl) (a5.add 3) (λx6_3=>(ldL (.int .i64) (a5.add 4) (λx6_4=>(Ye v0 λp7=>(ldL (.ptr) p7 (λx8=>(Ye x8 λp9=>(ldL (.sl) (p9.add 8) (λx10=>(Ye v1 λp11=>(ldL (.int .i64) p11 (λx12=>(zc (z8n (⟨x6_0,x6_1,x6_2,x6_3,x6_4⟩:TConstraint) x10 (i64.wrap ((-1)-x12))) (λr13 h1=>(K (!r13) h1)) h)) h))) h))) h))) h)) h)) h)) h)) h))) h))) h))
def yk(s:Sl)(f1:(Option Addr×Option Addr×Unit))(K:Int->Hp->Prop)(h:Hp):Prop:=(zn (S:=Int×Unit) (λs1 k2 h1=>(ifP (decide (s1.1<(s.len:Int))) (zg s s1.1 1 λa3=>(ldL (.int .i64) a3 (λx4=>(zc (y_henneberg_peeler_removable_1 x4 f1.1 f1.2.1) (λr5 h2=>(ifP r5 (K s1.1 h2) (k2 ((i64.wrap (s1.1+1)),()) h2))) h1)) h1)) (K (-1) h1))) (0,()) h)
def Z8(s:Sl)(f1:(Option Addr×Option Addr×Unit))(K:Bool->Hp->Prop)(h:Hp):Prop:=(zc (yk s (f1.1,f1.2.1,())) (λr1 h1=>(K (decide (r1>=0)) h1)) h)
def z6v(c:TConstraint)(target:Int)(K:Sl->Hp->Prop)(h:Hp):Prop:=(zn (S:=Sl×Int×Unit) (λs1 k2 h1=>(ifP (decide (s1.2.1<(c.points.len:Int))) (zv (S:=Sl×Unit) (λs3 h2=>(k2 (s3.1,(i64.wrap (s1.2.1+1)),()) h2)) (λk4=>(zg c.points s1.2.1 1 λa5=>(ldL (.int .i64) a5 (λx6=>(ifP (x6==target) (ql 1 8 [.int .i64 0] s1.1 1 [.int .i64 s1.2.1] (λw7 h3=>(k4 (w7,()) h3)) h1) (k4 (s1.1,()) h1))) h1)))) (K s1.1 h1))) (zf,0,()) h)
def z04(i:Int)(v0:(Option Addr))(v1:(Option Addr))(v2:(Option Addr))(K:Bool->Hp->Prop)(h:Hp):Prop:=(Ye v0 λp1=>(ldL (.sl) p1 (λx2=>(Ye v1 λp3=>(ldL (.sl) (p3.add 2) (λx4=>(zg x4 i 1 λa5=>(ldL (.int .i64) a5 (λx6=>(zg x2 x6 1 λa7=>(ldL (.int .i64) a7 (λx8=>(Ye v2 λp9=>(ldL (.int .i64) p9 (λx10=>(K (x8==x10) h)) h))) h))) h))) h))) h))
def zac(c:TConstraint)(centers:Sl)(target:Int)(K:Int->Hp->Prop)(h:Hp):Prop:=(Y2 [.int .i64 c.kind,.slice c.points.a c.points.len c.points.cap,.slice c.circles.a c.circles.len c.circles.cap,.slice c.values.a c.values.len c.values.cap,.int .i64 c.side] (λp1 h1=>(Y2 [.slice centers.a centers.len centers.cap] (λp2 h2=>(Y2 [.int .i64 target] (λp3 h3=>(ldL (.int .i64) (p1.add 0) (λx4_0=>(ldL (.sl) (p1.add 1) (λx4_1=>(ldL (.sl) (p1.add 2) (λx4_2=>(ldL (.sl) (p1.add 3) (λx4_3=>(ldL (.int .i64) (p1.add 4) (λx4_4=>(ldL (.int .i64) p3 (λx5=>(zc (z6v (⟨x4_0,x4_1,x4_2,x4_3,x4_4⟩:TConstraint) x5) (λr6 h4=>(ldL (.int .i64) (p1.add 0) (λx7=>(ifP (x7==13) (zc (z04 0 (some p2) (some p1) (some p3)) (λr8 h5=>(ifP (!((decide ((r6.len:Int)>0))==r8)) (K 2 h5) (K 0 h5))) h4) (ifP (x7==16) (zc (z04 0 (some p2) (some p1) (some p3)) (λr9 h6=>(ifP r9 (ifP ((r6.len:Int)==0) (K 1 h6) (K 0 h6)) (K 0 h6))) h4) (ifP (x7==17) (zc (z04 0 (some p2) (some p1) (some p3)) (λr10 h7=>(zc (z04 1 (some p2) (some p1) (some p3)) (λr11 h8=>(ifP (!(r10==r11)) (K 2 h8) (K 0 h8))) h7)) h4) (ifP ((r6.len:Int)==0) (K 0 h4) (ldL (.int .i64) (p1.add 0) (λx12=>(zv (S:=Bool×Unit) (λs13 h9=>(ifP s13.1 (K 3 h9) (ifP (x12==2) (K 2 h9) (zv (S:=Bool×Unit) (λs15 h10=>(ifP s15.1 (K 1 h10) (ifP (x12==4) (zg r6 0 1 λa17=>(ldL (.int .i64) a17 (λx18=>(ifP (x18==0) (K 1 h10) (K 0 h10))) h10)) (ifP (x12==10) (zg r6 0 1 λa19=>(ldL (.int .i64) a19 (λx20=>(ifP (decide (x20<2)) (K 3 h10) (K 0 h10))) h10)) (zv (S:=Bool×Unit) (λs21 h11=>(ifP s21.1 (ifP ((r6.len:Int)==2) (K 2 h11) (K 1 h11)) (ifP (x12==8) (ifP ((r6.len:Int)==2) (K 1 h11) (K 2 h11)) (K 0 h11)))) (λk22=>(ifP (x12==5) (k22 ((x12==5),()) h10) (k22 ((x12==7),()) h10)))))))) (λk16=>(ifP (x12==3) (k16 ((x12==3),()) h9) (ifP (x12==6) (k16 ((x12==6),()) h9) (ifP (x12==11) (k16 ((x12==11),()) h9) (k16 ((x12==12),()) h9))))))))) (λk14=>(ifP (x12==1) (k14 ((x12==1),()) h4) (k14 ((x12==9),()) h4))))) h4)))))) h4)) h3)) h3)) h3)) h3)) h3)) h3)) h3)) h2)) h1)) h)
def y_henneberg_peeler_kind(p:(Option Addr))(i:Int)(point:Int)(K:Int->Hp->Prop)(h:Hp):Prop:=(Ye p λp1=>(ldL (.sl) (p1.add 6) (λx2=>(zg x2 i 5 λa3=>(ldL (.int .i64) (a3.add 0) (λx4_0=>(ldL (.sl) (a3.add 1) (λx4_1=>(ldL (.sl) (a3.add 2) (λx4_2=>(ldL (.sl) (a3.add 3) (λx4_3=>(ldL (.int .i64) (a3.add 4) (λx4_4=>(Ye p λp5=>(ldL (.sl) (p5.add 8) (λx6=>(zc (zac (⟨x4_0,x4_1,x4_2,x4_3,x4_4⟩:TConstraint) x6 point) (λr7 h1=>(K r7 h1)) h)) h))) h)) h)) h)) h)) h))) h))
def y_henneberg_peeler_removable(p:(Option Addr))(item:Int)(removed:Sl)(K:Bool->Hp->Prop)(h:Hp):Prop:=(Y2 [.pointer p] (λp1 h1=>(Y2 [.int .i64 item] (λp2 h2=>(ldL (.int .i64) p2 (λx3=>(zc (Zh removed x3) (λr4 h3=>(ifP r4 (K false h3) (ldL (.ptr) p1 (λx5=>(ldL (.int .i64) p2 (λx6=>(zc (y_henneberg_peeler_remaining x5 x6 removed) (λr7 h4=>(ldL (.int .i64) p2 (λx8=>(ifP (decide (x8<0)) (ldL (.ptr) p1 (λx9=>(zc (y_henneberg_peeler_weight x9 r7) (λr10 h5=>(ifP (decide (r10<=1)) (zc (Z8 r7 ((some p1),(some p2),())) (λr11 h6=>(K (!r11) h6)) h5) (K false h5))) h4)) h4) (ldL (.ptr) p1 (λx12=>(zc (y_henneberg_peeler_weight x12 r7) (λr13 h7=>(ifP (decide (r13>2)) (K false h7) (zn (S:=Int×Unit) (λs14 k15 h8=>(ifP (decide (s14.1<(r7.len:Int))) (zg r7 s14.1 1 λa16=>(ldL (.int .i64) a16 (λx17=>(ldL (.ptr) p1 (λx18=>(ldL (.int .i64) p2 (λx19=>(zc (y_henneberg_peeler_kind x18 x17 x19) (λr20 h9=>(zv (S:=Bool×Unit) (λs21 h10=>(zv (S:=Bool×Unit) (λs23 h11=>(ifP (!s23.1) (K false h11) (k15 ((i64.wrap (s14.1+1)),()) h11))) (λk24=>(ldL (.ptr) p1 (λx25=>(zc (y_henneberg_peeler_equations x25 x17) (λr26 h12=>(ifP (r26==2) (k24 ((r20==3),()) h12) (k24 (s21.1,()) h12))) h10)) h10)))) (λk22=>(ifP (r20==1) (k22 (true,()) h9) (k22 ((r20==2),()) h9))))) h8)) h8)) h8)) h8)) (K true h8))) (0,()) h7))) h4)) h4))) h4)) h3)) h3)) h3))) h2)) h2)) h1)) h)
def y_henneberg_peeler_peel_1(item:Int)(v0:(Option Addr))(v1:(Option Addr))(K:Bool->Hp->Prop)(h:Hp):Prop:=(Ye v0 λp1=>(ldL (.ptr) p1 (λx2=>(Ye v1 λp3=>(ldL (.sl) p3 (λx4=>(zc (y_henneberg_peeler_removable x2 item x4) (λr5 h1=>(K r5 h1)) h)) h))) h))
def Z1(s:Sl)(f1:(Option Addr×Option Addr×Unit))(K:Int->Hp->Prop)(h:Hp):Prop:=(zn (S:=Int×Unit) (λs1 k2 h1=>(ifP (decide (s1.1<(s.len:Int))) (zg s s1.1 1 λa3=>(ldL (.int .i64) a3 (λx4=>(zc (y_henneberg_peeler_peel_1 x4 f1.1 f1.2.1) (λr5 h2=>(ifP r5 (K s1.1 h2) (k2 ((i64.wrap (s1.1+1)),()) h2))) h1)) h1)) (K (-1) h1))) (0,()) h)
def y_henneberg_peeler_peel_2(item:Int)(v0:(Option Addr))(K:Bool->Hp->Prop)(h:Hp):Prop:=(Ye v0 λp1=>(ldL (.sl) p1 (λx2=>(zc (Zh x2 item) (λr3 h1=>(K r3 h1)) h)) h))
def Yd(s:Sl)(f1:(Option Addr×Unit))(K:Int->Hp->Prop)(h:Hp):Prop:=(zn (S:=Int×Unit) (λs1 k2 h1=>(ifP (decide (s1.1<(s.len:Int))) (zg s s1.1 1 λa3=>(ldL (.int .i64) a3 (λx4=>(zc (y_henneberg_peeler_peel_2 x4 f1.1) (λr5 h2=>(ifP r5 (K s1.1 h2) (k2 ((i64.wrap (s1.1+1)),()) h2))) h1)) h1)) (K (-1) h1))) (0,()) h)
def Z0(s:Sl)(f1:(Option Addr×Unit))(K:Sl->Hp->Prop)(h:Hp):Prop:=(zc (Yd s (f1.1,())) (λr1 h1=>(ifP (r1==(-1)) (K s h1) (zn (S:=Int×Int×Unit) (λs2 k3 h2=>(ifP (decide (s2.2.1<(s.len:Int))) (zv (S:=Int×Unit) (λs4 h3=>(k3 (s4.1,(i64.wrap (s2.2.1+1)),()) h3)) (λk5=>(zg s s2.2.1 1 λa6=>(ldL (.int .i64) a6 (λx7=>(zc (y_henneberg_peeler_peel_2 x7 f1.1) (λr8 h4=>(ifP (!r8) (zg s s2.1 1 λa9=>(stP a9 [.int .i64 x7] (λh5=>(k5 ((i64.wrap (s2.1+1)),()) h5)) h4)) (k5 (s2.1,()) h4))) h2)) h2)))) (slP s s2.1 (s.len:Int) 1 λc10=>(zv0 c10 [.int .i64 0] (λh6=>(slP s 0 s2.1 1 λc11=>(K c11 h6))) h2)))) (r1,(i64.wrap (r1+1)),()) h1))) h)
def y_henneberg_peeler_peel(p:(Option Addr))(K:(Sl×Sl)->Hp->Prop)(h:Hp):Prop:=(Y2 [.pointer p] (λp1 h1=>(Y2 [.slice zf.a zf.len zf.cap] (λp2 h2=>(zn (S:=(Option Addr)×Unit) (λs3 k4 h3=>(ldL (.ptr) p1 (λx5=>(zc (y_henneberg_peeler_all x5) (λr6 h4=>(zc (Z1 r6 ((some p1),s3.1,())) (λr7 h5=>(ifP (decide (r7<0)) (ldL (.ptr) p1 (λx8=>(zc (y_henneberg_peeler_all x8) (λr9 h6=>(Qu (Z0 r9 (s3.1,())) (λr10 h7=>(Ye s3.1 λp11=>(ldL (.sl) p11 (λx12=>(K (x12,r10) h7)) h7))) h6)) h5)) h5) (Ye s3.1 λp13=>(ldL (.sl) p13 (λx14=>(ldL (.ptr) p1 (λx15=>(zc (y_henneberg_peeler_all x15) (λr16 h8=>(zg r16 r7 1 λa17=>(ldL (.int .i64) a17 (λx18=>(ql 1 8 [.int .i64 0] x14 1 [.int .i64 x18] (λw19 h9=>(Ye s3.1 λp20=>(stP p20 [.slice w19.a w19.len w19.cap] (λh10=>(k4 (s3.1,()) h10)) h9))) h8)) h8))) h5)) h5)) h5)))) h4)) h3)) h3)) ((some p2),()) h2)) h1)) h)
def Vy(s:TSketch)(K:(Sl×Sl)->Hp->Prop)(h:Hp):Prop:=(zc (z09 s) (λr1 h1=>(ifP (r1 != 0) (K (zf,zf) h1) (zc (z0r s) (λr2 h2=>(zc (y_henneberg_peeler_peel r2) (λr3 h3=>(K (r3.1,r3.2) h3)) h2)) h1))) h)
def zas(s:TSketch)(K:Bool->Hp->Prop)(h:Hp):Prop:=(zn (S:=Int×Unit) (λs1 k2 h1=>(ifP (decide (s1.1<(s.chains.len:Int))) (zg s.chains s1.1 1 λa3=>(ldL (.sl) a3 (λx4=>(ifP (decide ((x4.len:Int)>200)) (K true h1) (k2 ((i64.wrap (s1.1+1)),()) h1))) h1)) (ifP (decide ((s.points.len:Int)>200)) (K true h1) (ifP (decide ((s.circles.len:Int)>200)) (K true h1) (ifP (decide ((s.segments.len:Int)>200)) (K true h1) (ifP (decide ((s.arcs.len:Int)>200)) (K true h1) (ifP (decide ((s.chains.len:Int)>200)) (K true h1) (K (decide ((s.constraints.len:Int)>200)) h1)))))))) (0,()) h)
def V1(n:Int)(i:Int)(K:Bool->Hp->Prop)(h:Hp):Prop:=(ifP (decide (i>=0)) (K (decide (i<n)) h) (K false h))
def zar(s:TSketch)(p:TPiece)(K:(Int×Int)->Hp->Prop)(h:Hp):Prop:=(zv (S:=Int×Int×Unit) (λs1 h1=>(ifP p.back (K (s1.2.1,s1.1) h1) (K (s1.1,s1.2.1) h1))) (λk2=>(ifP p.arc (zg s.arcs p.index 4 λa3=>(ldL (.int .i64) (a3.add 1) (λx4=>(zg s.arcs p.index 4 λa5=>(ldL (.int .i64) (a5.add 2) (λx6=>(k2 (x4,x6,()) h)) h))) h)) (zg s.segments p.index 2 λa7=>(ldL (.int .i64) (a7.add 0) (λx8=>(zg s.segments p.index 2 λa9=>(ldL (.int .i64) (a9.add 1) (λx10=>(k2 (x8,x10,()) h)) h))) h)))))
def z8w(s:TSketch)(c:Sl)(K:Bool->Hp->Prop)(h:Hp):Prop:=(zn (S:=Int×Unit) (λs1 k2 h1=>(ifP (decide (s1.1<(c.len:Int))) (zv (S:=Unit) (λs3 h2=>(k2 ((i64.wrap (s1.1+1)),()) h2)) (λk4=>(zv (S:=Unit) (λs5 h3=>(ifP (decide (s1.1>0)) (zg c (i64.wrap (s1.1-1)) 3 λa7=>(ldL (.bool) (a7.add 0) (λx8_0=>(ldL (.int .i64) (a7.add 1) (λx8_1=>(ldL (.bool) (a7.add 2) (λx8_2=>(zc (zar s (⟨x8_0,x8_1,x8_2⟩:TPiece)) (λr9 h4=>(zg c s1.1 3 λa10=>(ldL (.bool) (a10.add 0) (λx11_0=>(ldL (.int .i64) (a10.add 1) (λx11_1=>(ldL (.bool) (a10.add 2) (λx11_2=>(zc (zar s (⟨x11_0,x11_1,x11_2⟩:TPiece)) (λr12 h5=>(ifP (r9.2 != r12.1) (K false h5) (k4 () h5))) h4)) h4)) h4)) h4))) h3)) h3)) h3)) h3)) (k4 () h3))) (λk6=>(zg c s1.1 3 λa13=>(ldL (.bool) (a13.add 0) (λx14=>(ifP x14 (zg c s1.1 3 λa15=>(ldL (.int .i64) (a15.add 1) (λx16=>(zc (V1 (s.arcs.len:Int) x16) (λr17 h6=>(ifP (!r17) (K false h6) (zg c s1.1 3 λa18=>(ldL (.bool) (a18.add 0) (λx19=>(ifP (!x19) (zg c s1.1 3 λa20=>(ldL (.int .i64) (a20.add 1) (λx21=>(zc (V1 (s.segments.len:Int) x21) (λr22 h7=>(ifP (!r22) (K false h7) (k6 () h7))) h6)) h6)) (k6 () h6))) h6)))) h1)) h1)) (zg c s1.1 3 λa23=>(ldL (.bool) (a23.add 0) (λx24=>(ifP (!x24) (zg c s1.1 3 λa25=>(ldL (.int .i64) (a25.add 1) (λx26=>(zc (V1 (s.segments.len:Int) x26) (λr27 h8=>(ifP (!r27) (K false h8) (k6 () h8))) h1)) h1)) (k6 () h1))) h1)))) h1)))))) (K (decide ((c.len:Int)>0)) h1))) (0,()) h)
def z81(K:Sl->Hp->Prop)(h:Hp):Prop:=(Y2 [.string ⟨#[102,105,120]⟩,.int .i64 1,.int .i64 0,.int .i64 2,.int .i64 1,.int .i64 2,.bool false,.string ⟨#[100,105,115,116,97,110,99,101]⟩,.int .i64 2,.int .i64 0,.int .i64 1,.int .i64 2,.int .i64 1,.bool false,.string ⟨#[105,110,99,105,100,101,110,116]⟩,.int .i64 3,.int .i64 0,.int .i64 0,.int .i64 0,.int .i64 1,.bool false,.string ⟨#[111,102,102,115,101,116]⟩,.int .i64 3,.int .i64 0,.int .i64 1,.int .i64 2,.int .i64 1,.bool true,.string ⟨#[97,110,103,108,101]⟩,.int .i64 4,.int .i64 0,.int .i64 1,.int .i64 3,.int .i64 1,.bool false,.string ⟨#[112,97,114,97,108,108,101,108]⟩,.int .i64 4,.int .i64 0,.int .i64 0,.int .i64 0,.int .i64 1,.bool false,.string ⟨#[112,101,114,112,101,110,100,105,99,117,108,97,114]⟩,.int .i64 4,.int .i64 0,.int .i64 0,.int .i64 0,.int .i64 1,.bool false,.string ⟨#[101,113,117,97,108]⟩,.int .i64 4,.int .i64 0,.int .i64 0,.int .i64 0,.int .i64 1,.bool false,.string ⟨#[109,105,100,112,111,105,110,116]⟩,.int .i64 3,.int .i64 0,.int .i64 0,.int .i64 0,.int .i64 2,.bool false,.string ⟨#[115,121,109,109,101,116,114,105,99]⟩,.int .i64 4,.int .i64 0,.int .i64 0,.int .i64 0,.int .i64 2,.bool false,.string ⟨#[104,111,114,105,122,111,110,116,97,108]⟩,.int .i64 2,.int .i64 0,.int .i64 0,.int .i64 0,.int .i64 1,.bool false,.string ⟨#[118,101,114,116,105,99,97,108]⟩,.int .i64 2,.int .i64 0,.int .i64 0,.int .i64 0,.int .i64 1,.bool false,.string ⟨#[111,110,99,105,114,99,108,101]⟩,.int .i64 1,.int .i64 1,.int .i64 0,.int .i64 0,.int .i64 1,.bool false,.string ⟨#[114,97,100,105,117,115]⟩,.int .i64 0,.int .i64 1,.int .i64 1,.int .i64 2,.int .i64 1,.bool false,.string ⟨#[115,97,109,101,114,97,100,105,117,115]⟩,.int .i64 0,.int .i64 2,.int .i64 0,.int .i64 0,.int .i64 1,.bool false,.string ⟨#[116,97,110,103,101,110,116,108,105,110,101]⟩,.int .i64 2,.int .i64 1,.int .i64 0,.int .i64 0,.int .i64 1,.bool true,.string ⟨#[116,97,110,103,101,110,116,99,105,114,99,108,101]⟩,.int .i64 0,.int .i64 2,.int .i64 0,.int .i64 0,.int .i64 1,.bool true] (λp1 h1=>(K (⟨some p1,17,17⟩:Sl) h1)) h)
def zg6(kind:Int)(K:(Tsetsquareref25_Row×Bool)->Hp->Prop)(h:Hp):Prop:=(zv (S:=(ByteArray×Int×Int×Int×Int×Int×Bool×Unit)×Unit) (λs1 h1=>(zc (z81) (λr3 h2=>(zg r3 (i64.wrap (kind-1)) 7 λa4=>(ldL (.str) (a4.add 0) (λx5_0=>(ldL (.int .i64) (a4.add 1) (λx5_1=>(ldL (.int .i64) (a4.add 2) (λx5_2=>(ldL (.int .i64) (a4.add 3) (λx5_3=>(ldL (.int .i64) (a4.add 4) (λx5_4=>(ldL (.int .i64) (a4.add 5) (λx5_5=>(ldL (.bool) (a4.add 6) (λx5_6=>(K ((⟨x5_0,x5_1,x5_2,x5_3,x5_4,x5_5,x5_6⟩:Tsetsquareref25_Row),true) h2)) h2)) h2)) h2)) h2)) h2)) h2)) h2))) h1)) (λk2=>(ifP (decide (kind<1)) (K ((⟨Y3,0,0,0,0,0,false⟩:Tsetsquareref25_Row),false) h) (zc (z81) (λr6 h3=>(ifP (decide (kind>(r6.len:Int))) (K ((⟨Y3,0,0,0,0,0,false⟩:Tsetsquareref25_Row),false) h3) (k2 ((Y3,0,0,0,0,0,false,()),()) h3))) h))))
def zan(a:TInt)(b:TInt)(K:Bool->Hp->Prop)(h:Hp):Prop:=(ifP (a.neg==b.neg) (zc (Wd a.mag b.mag) (λr1 h1=>(K (r1==0) h1)) h) (K false h))
def z73(a:TInt)(K:ByteArray->Hp->Prop)(h:Hp):Prop:=(zc (Xy a) (λr1 h1=>(zn (S:=ByteArray×Sl×Unit) (λs2 k3 h2=>(ifP (decide ((s2.2.1.len:Int)>0)) (zc (zcr s2.2.1 10) (λr4 h3=>(Y2 [.int .u8 (u8.wrap ((u32.wrap (48+r4.2))))] (λp5 h4=>(zzz (⟨some p5,1,1⟩:Sl) (λt6=>((((t6:ByteArray).size+(s2.1:ByteArray).size:Nat):Int)<=9223372036854775807 /\ (k3 (((t6:ByteArray)++(s2.1:ByteArray)),r4.1,()) h4))) h4)) h3)) h2) (ifP ((s2.1:ByteArray).toList==(Y3:ByteArray).toList) (K ⟨#[48]⟩ h2) (ifP r1.neg ((((⟨#[45]⟩:ByteArray).size+(s2.1:ByteArray).size:Nat):Int)<=9223372036854775807 /\ (K ((⟨#[45]⟩:ByteArray)++(s2.1:ByteArray)) h2)) (K s2.1 h2))))) (Y3,r1.mag,()) h1)) h)
def z5j(a:TRat)(K:(ByteArray×Bool)->Hp->Prop)(h:Hp):Prop:=(zv (S:=Unit) (λs1 h1=>(zc (Q1 10) (λr3 h2=>(zc (Vo 1) (λr4 h3=>(zn (S:=(Bool×Sl×Bool×Sl×Unit)×Int×Unit) (λs5 k6 h4=>(ifP (decide (s5.2.1<=40)) (zc (zan (⟨s5.1.2.2.1,s5.1.2.2.2.1⟩:TInt) r4) (λr7 h5=>(ifP r7 (zc (z73 (⟨s5.1.1,s5.1.2.1⟩:TInt)) (λr8 h6=>(zn (S:=ByteArray×Unit) (λs9 k10 h7=>(ifP (decide (((s9.1:ByteArray).size:Int)<=s5.2.1)) ((((⟨#[48]⟩:ByteArray).size+(s9.1:ByteArray).size:Nat):Int)<=9223372036854775807 /\ (k10 (((⟨#[48]⟩:ByteArray)++(s9.1:ByteArray)),()) h7)) (zv (S:=ByteArray×Unit) (λs11 h8=>(K (s11.1,decide (((s11.1:ByteArray).size:Int)<=40)) h8)) (λk12=>(ifP (decide (s5.2.1>0)) (Yv s9.1 0 (i64.wrap (((s9.1:ByteArray).size:Int)-s5.2.1)) λc13=>((((c13:ByteArray).size+(⟨#[46]⟩:ByteArray).size:Nat):Int)<=9223372036854775807 /\ (Yv s9.1 (i64.wrap (((s9.1:ByteArray).size:Int)-s5.2.1)) ((s9.1:ByteArray).size:Int) λc14=>((((((c13:ByteArray)++(⟨#[46]⟩:ByteArray)):ByteArray).size+(c14:ByteArray).size:Nat):Int)<=9223372036854775807 /\ (k12 (((((c13:ByteArray)++(⟨#[46]⟩:ByteArray)):ByteArray)++(c14:ByteArray)),()) h7))))) (k12 (s9.1,()) h7)))))) (r8,()) h6)) h5) (zc (zds (⟨(⟨s5.1.1,s5.1.2.1⟩:TInt),(⟨s5.1.2.2.1,s5.1.2.2.2.1⟩:TInt)⟩:TRat) r3) (λr15 h9=>(k6 ((r15.num.neg,r15.num.mag,r15.den.neg,r15.den.mag,()),(i64.wrap (s5.2.1+1)),()) h9)) h5))) h4) (K (Y3,false) h4))) ((a.num.neg,a.num.mag,a.den.neg,a.den.mag,()),0,()) h3)) h2)) h1)) (λk2=>(zc (V5 a) (λr16 h10=>(ifP (!r16) (K (Y3,false) h10) (zc (z4r a) (λr17 h11=>(ifP (decide (r17<0)) (K (Y3,false) h11) (k2 () h11))) h10))) h)))
def z8u(e:TExpr)(K:Bool->Hp->Prop)(h:Hp):Prop:=(zv (S:=Bool×Unit) (λs1 h1=>(ifP (e.op==1) (zc (z5j e.value) (λr3 h2=>(ifP r3.2 (ifP ((e.name:ByteArray).toList==(Y3:ByteArray).toList) (K ((e.args.len:Int)==0) h2) (zc (z1s e.name) (λr4 h3=>(ifP r4 (K ((e.args.len:Int)==0) h3) (K false h3))) h2)) (K false h2))) h1) (ifP (e.op==2) (ifP s1.1 (zc (z1s e.name) (λr5 h4=>(ifP r5 (K ((e.args.len:Int)==0) h4) (K false h4))) h1) (K false h1)) (ifP (e.op==3) (ifP s1.1 (ifP ((e.name:ByteArray).toList==(Y3:ByteArray).toList) (K ((e.args.len:Int)==1) h1) (K false h1)) (K false h1)) (zv (S:=Bool×Unit) (λs6 h5=>(ifP s6.1 (ifP s1.1 (ifP ((e.name:ByteArray).toList==(Y3:ByteArray).toList) (K ((e.args.len:Int)==2) h5) (K false h5)) (K false h5)) (K false h5))) (λk7=>(ifP (e.op==4) (k7 ((e.op==4),()) h1) (ifP (e.op==5) (k7 ((e.op==5),()) h1) (ifP (e.op==6) (k7 ((e.op==6),()) h1) (k7 ((e.op==7),()) h1)))))))))) (λk2=>(ifP (!e.value.num.neg) (ifP (!e.value.den.neg) (ifP ((e.value.num.mag.len:Int)==0) (k2 (((e.value.den.mag.len:Int)==0),()) h) (k2 (false,()) h)) (k2 (false,()) h)) (k2 (false,()) h))))
def Vp:Nat->TExpr->(Bool->Hp->Prop)->Hp->Prop
 | 0,_,_,_=>False
 | fuel+1,e,K,h=>(zc (z8u e) (λr1 h1=>(ifP (!r1) (K false h1) (zn (S:=Int×Unit) (λs2 k3 h2=>(ifP (decide (s2.1<(e.args.len:Int))) (zg e.args s2.1 7 λa4=>(ldL (.int .i64) (a4.add 0) (λx5_0=>(ldL (.bool) (a4.add 1) (λx5_1=>(ldL (.sl) (a4.add 2) (λx5_2=>(ldL (.bool) (a4.add 3) (λx5_3=>(ldL (.sl) (a4.add 4) (λx5_4=>(ldL (.str) (a4.add 5) (λx5_5=>(ldL (.sl) (a4.add 6) (λx5_6=>(zc ((Vp fuel) (⟨x5_0,(⟨(⟨x5_1,x5_2⟩:TInt),(⟨x5_3,x5_4⟩:TInt)⟩:TRat),x5_5,x5_6⟩:TExpr)) (λr6 h3=>(ifP (!r6) (K false h3) (k3 ((i64.wrap (s2.1+1)),()) h3))) h2)) h2)) h2)) h2)) h2)) h2)) h2)) h2)) (K true h2))) (0,()) h1))) h)
def z75(e:TExpr)(K:Bool->Hp->Prop)(h:Hp):Prop:=∃fuel,Vp fuel e K h
def X8:Nat->TExpr->(Int->Hp->Prop)->Hp->Prop
 | 0,_,_,_=>False
 | fuel+1,e,K,h=>(zn (S:=Int×Int×Unit) (λs1 k2 h1=>(ifP (decide (s1.2.1<(e.args.len:Int))) (zg e.args s1.2.1 7 λa3=>(ldL (.int .i64) (a3.add 0) (λx4_0=>(ldL (.bool) (a3.add 1) (λx4_1=>(ldL (.sl) (a3.add 2) (λx4_2=>(ldL (.bool) (a3.add 3) (λx4_3=>(ldL (.sl) (a3.add 4) (λx4_4=>(ldL (.str) (a3.add 5) (λx4_5=>(ldL (.sl) (a3.add 6) (λx4_6=>(zc ((X8 fuel) (⟨x4_0,(⟨(⟨x4_1,x4_2⟩:TInt),(⟨x4_3,x4_4⟩:TInt)⟩:TRat),x4_5,x4_6⟩:TExpr)) (λr5 h2=>(k2 (zwp s1.1 r5,(i64.wrap (s1.2.1+1)),()) h2)) h1)) h1)) h1)) h1)) h1)) h1)) h1)) h1)) (K (i64.wrap (s1.1+1)) h1))) (0,0,()) h)
def z8s(e:TExpr)(K:Int->Hp->Prop)(h:Hp):Prop:=∃fuel,X8 fuel e K h
def z8t(e:TExpr)(K:Int->Hp->Prop)(h:Hp):Prop:=(zc (z75 e) (λr1 h1=>(ifP (!r1) (K 1 h1) (zc (z8s e) (λr2 h2=>(ifP (decide (r2>40)) (K 3 h2) (K 0 h2))) h1))) h)
def z0h(l:Sl)(K:Bool->Hp->Prop)(h:Hp):Prop:=(zn (S:=Int×Unit) (λs1 k2 h1=>(ifP (decide (s1.1<(l.len:Int))) (zn (S:=Int×Unit) (λs3 k4 h2=>(ifP (decide (s3.1<s1.1)) (zg l s1.1 1 λa5=>(ldL (.int .i64) a5 (λx6=>(zg l s3.1 1 λa7=>(ldL (.int .i64) a7 (λx8=>(ifP (x6==x8) (K false h2) (k4 ((i64.wrap (s3.1+1)),()) h2))) h2))) h2)) (k2 ((i64.wrap (s1.1+1)),()) h2))) (0,()) h1) (K true h1))) (0,()) h)
def z3z(l:Sl)(n:Int)(K:Bool->Hp->Prop)(h:Hp):Prop:=(zn (S:=Int×Unit) (λs1 k2 h1=>(ifP (decide (s1.1<(l.len:Int))) (zv (S:=Unit) (λs3 h2=>(k2 ((i64.wrap (s1.1+1)),()) h2)) (λk4=>(zg l s1.1 1 λa5=>(ldL (.int .i64) a5 (λx6=>(ifP (decide (x6<0)) (K false h1) (zg l s1.1 1 λa7=>(ldL (.int .i64) a7 (λx8=>(ifP (decide (x8>=n)) (K false h1) (k4 () h1))) h1)))) h1)))) (K true h1))) (0,()) h)
def z8v(c:TConstraint)(points:Int)(circles:Int)(K:Bool->Hp->Prop)(h:Hp):Prop:=(zc (zg6 c.kind) (λr1 h1=>(zv (S:=Unit) (λs2 h2=>(zn (S:=Int×Unit) (λs4 k5 h3=>(ifP (decide (s4.1<(c.values.len:Int))) (zg c.values s4.1 7 λa6=>(ldL (.int .i64) (a6.add 0) (λx7_0=>(ldL (.bool) (a6.add 1) (λx7_1=>(ldL (.sl) (a6.add 2) (λx7_2=>(ldL (.bool) (a6.add 3) (λx7_3=>(ldL (.sl) (a6.add 4) (λx7_4=>(ldL (.str) (a6.add 5) (λx7_5=>(ldL (.sl) (a6.add 6) (λx7_6=>(zc (z8t (⟨x7_0,(⟨(⟨x7_1,x7_2⟩:TInt),(⟨x7_3,x7_4⟩:TInt)⟩:TRat),x7_5,x7_6⟩:TExpr)) (λr8 h4=>(ifP (r8 != 0) (K false h4) (k5 ((i64.wrap (s4.1+1)),()) h4))) h3)) h3)) h3)) h3)) h3)) h3)) h3)) h3)) (zv (S:=Unit) (λs9 h5=>(zv (S:=Bool×Unit) (λs11 h6=>(ifP s11.1 (zv (S:=Bool×Unit) (λs13 h7=>(zg c.points 0 1 λa15=>(ldL (.int .i64) a15 (λx16=>(zg c.points 1 1 λa17=>(ldL (.int .i64) a17 (λx18=>(ifP (x16 != x18) (zg c.points 2 1 λa19=>(ldL (.int .i64) a19 (λx20=>(zg c.points 3 1 λa21=>(ldL (.int .i64) a21 (λx22=>(ifP (x20 != x22) (K (!s13.1) h7) (K false h7))) h7))) h7)) (K false h7))) h7))) h7))) (λk14=>(zg c.points 0 1 λa23=>(ldL (.int .i64) a23 (λx24=>(zg c.points 2 1 λa25=>(ldL (.int .i64) a25 (λx26=>(ifP (x24==x26) (zg c.points 1 1 λa27=>(ldL (.int .i64) a27 (λx28=>(zg c.points 3 1 λa29=>(ldL (.int .i64) a29 (λx30=>(ifP (x28==x30) (k14 (true,()) h6) (zg c.points 0 1 λa31=>(ldL (.int .i64) a31 (λx32=>(zg c.points 3 1 λa33=>(ldL (.int .i64) a33 (λx34=>(ifP (x32==x34) (zg c.points 1 1 λa35=>(ldL (.int .i64) a35 (λx36=>(zg c.points 2 1 λa37=>(ldL (.int .i64) a37 (λx38=>(k14 ((x36==x38),()) h6)) h6))) h6)) (k14 (false,()) h6))) h6))) h6)))) h6))) h6)) (zg c.points 0 1 λa39=>(ldL (.int .i64) a39 (λx40=>(zg c.points 3 1 λa41=>(ldL (.int .i64) a41 (λx42=>(ifP (x40==x42) (zg c.points 1 1 λa43=>(ldL (.int .i64) a43 (λx44=>(zg c.points 2 1 λa45=>(ldL (.int .i64) a45 (λx46=>(k14 ((x44==x46),()) h6)) h6))) h6)) (k14 (false,()) h6))) h6))) h6)))) h6))) h6)))) (zc (z0h c.points) (λr47 h8=>(ifP r47 (zc (z0h c.circles) (λr48 h9=>(K r48 h9)) h8) (K false h8))) h6))) (λk12=>(ifP (c.kind==5) (k12 ((c.kind==5),()) h5) (ifP (c.kind==6) (k12 ((c.kind==6),()) h5) (ifP (c.kind==7) (k12 ((c.kind==7),()) h5) (k12 ((c.kind==8),()) h5))))))) (λk10=>(ifP r1.1.side (ifP (c.side != 1) (ifP (c.side != (-1)) (K false h3) (ifP (!r1.1.side) (ifP (c.side != 0) (K false h3) (k10 () h3)) (k10 () h3))) (ifP (!r1.1.side) (ifP (c.side != 0) (K false h3) (k10 () h3)) (k10 () h3))) (ifP (!r1.1.side) (ifP (c.side != 0) (K false h3) (k10 () h3)) (k10 () h3))))))) (0,()) h2)) (λk3=>(ifP (!r1.2) (K false h1) (ifP ((c.points.len:Int) != r1.1.points) (K false h1) (ifP ((c.circles.len:Int) != r1.1.circles) (K false h1) (ifP ((c.values.len:Int) != r1.1.count) (K false h1) (zc (z3z c.points points) (λr49 h10=>(ifP (!r49) (K false h10) (zc (z3z c.circles circles) (λr50 h11=>(ifP (!r50) (K false h11) (k3 () h11))) h10))) h1)))))))) h)
def z62(s:TSketch)(K:Int->Hp->Prop)(h:Hp):Prop:=(zc (zas s) (λr1 h1=>(ifP r1 (K 3 h1) (zn (S:=Int×Unit) (λs2 k3 h2=>(ifP (decide (s2.1<(s.points.len:Int))) (zv (S:=Unit) (λs4 h3=>(k3 ((i64.wrap (s2.1+1)),()) h3)) (λk5=>(zg s.points s2.1 8 λa6=>(ldL (.bool) ((a6.add 0).add 0) (λx7_0=>(ldL (.sl) ((a6.add 0).add 1) (λx7_1=>(ldL (.bool) ((a6.add 0).add 2) (λx7_2=>(ldL (.sl) ((a6.add 0).add 3) (λx7_3=>(zc (V5 (⟨(⟨x7_0,x7_1⟩:TInt),(⟨x7_2,x7_3⟩:TInt)⟩:TRat)) (λr8 h4=>(ifP (!r8) (K 1 h4) (zg s.points s2.1 8 λa9=>(ldL (.bool) ((a9.add 4).add 0) (λx10_0=>(ldL (.sl) ((a9.add 4).add 1) (λx10_1=>(ldL (.bool) ((a9.add 4).add 2) (λx10_2=>(ldL (.sl) ((a9.add 4).add 3) (λx10_3=>(zc (V5 (⟨(⟨x10_0,x10_1⟩:TInt),(⟨x10_2,x10_3⟩:TInt)⟩:TRat)) (λr11 h5=>(ifP (!r11) (K 1 h5) (k5 () h5))) h4)) h4)) h4)) h4)) h4)))) h2)) h2)) h2)) h2)) h2)))) (zn (S:=Int×Unit) (λs12 k13 h6=>(ifP (decide (s12.1<(s.circles.len:Int))) (zv (S:=Unit) (λs14 h7=>(k13 ((i64.wrap (s12.1+1)),()) h7)) (λk15=>(zg s.circles s12.1 5 λa16=>(ldL (.int .i64) (a16.add 0) (λx17_0=>(ldL (.bool) (a16.add 1) (λx17_1=>(ldL (.sl) (a16.add 2) (λx17_2=>(ldL (.bool) (a16.add 3) (λx17_3=>(ldL (.sl) (a16.add 4) (λx17_4=>(zc (V1 (s.points.len:Int) x17_0) (λr18 h8=>(ifP (!r18) (K 1 h8) (zc (V5 (⟨(⟨x17_1,x17_2⟩:TInt),(⟨x17_3,x17_4⟩:TInt)⟩:TRat)) (λr19 h9=>(ifP (!r19) (K 1 h9) (zc (z4r (⟨(⟨x17_1,x17_2⟩:TInt),(⟨x17_3,x17_4⟩:TInt)⟩:TRat)) (λr20 h10=>(ifP (decide (r20<=0)) (K 1 h10) (k15 () h10))) h9))) h8))) h6)) h6)) h6)) h6)) h6)) h6)))) (zn (S:=Int×Unit) (λs21 k22 h11=>(ifP (decide (s21.1<(s.segments.len:Int))) (zv (S:=Unit) (λs23 h12=>(k22 ((i64.wrap (s21.1+1)),()) h12)) (λk24=>(zg s.segments s21.1 2 λa25=>(ldL (.int .i64) (a25.add 0) (λx26_0=>(ldL (.int .i64) (a25.add 1) (λx26_1=>(zc (V1 (s.points.len:Int) x26_0) (λr27 h13=>(ifP (!r27) (K 1 h13) (zc (V1 (s.points.len:Int) x26_1) (λr28 h14=>(ifP (!r28) (K 1 h14) (ifP (x26_0==x26_1) (K 1 h14) (k24 () h14)))) h13))) h11)) h11)) h11)))) (zn (S:=Int×Unit) (λs29 k30 h15=>(ifP (decide (s29.1<(s.arcs.len:Int))) (zv (S:=Unit) (λs31 h16=>(k30 ((i64.wrap (s29.1+1)),()) h16)) (λk32=>(zg s.arcs s29.1 4 λa33=>(ldL (.int .i64) (a33.add 0) (λx34_0=>(ldL (.int .i64) (a33.add 1) (λx34_1=>(ldL (.int .i64) (a33.add 2) (λx34_2=>(ldL (.bool) (a33.add 3) (λx34_3=>(zc (V1 (s.circles.len:Int) x34_0) (λr35 h17=>(ifP (!r35) (K 1 h17) (zc (V1 (s.points.len:Int) x34_1) (λr36 h18=>(ifP (!r36) (K 1 h18) (zc (V1 (s.points.len:Int) x34_2) (λr37 h19=>(ifP (!r37) (K 1 h19) (zg s.circles x34_0 5 λa38=>(ldL (.int .i64) (a38.add 0) (λx39=>(ifP (x34_1==x39) (K 1 h19) (zg s.circles x34_0 5 λa40=>(ldL (.int .i64) (a40.add 0) (λx41=>(ifP (x34_2==x41) (K 1 h19) (k32 () h19))) h19)))) h19)))) h18))) h17))) h15)) h15)) h15)) h15)) h15)))) (zn (S:=Int×Unit) (λs42 k43 h20=>(ifP (decide (s42.1<(s.chains.len:Int))) (zg s.chains s42.1 1 λa44=>(ldL (.sl) a44 (λx45=>(zc (z8w s x45) (λr46 h21=>(ifP (!r46) (K 1 h21) (k43 ((i64.wrap (s42.1+1)),()) h21))) h20)) h20)) (zn (S:=Int×Unit) (λs47 k48 h22=>(ifP (decide (s47.1<(s.constraints.len:Int))) (zg s.constraints s47.1 5 λa49=>(ldL (.int .i64) (a49.add 0) (λx50_0=>(ldL (.sl) (a49.add 1) (λx50_1=>(ldL (.sl) (a49.add 2) (λx50_2=>(ldL (.sl) (a49.add 3) (λx50_3=>(ldL (.int .i64) (a49.add 4) (λx50_4=>(zc (z8v (⟨x50_0,x50_1,x50_2,x50_3,x50_4⟩:TConstraint) (s.points.len:Int) (s.circles.len:Int)) (λr51 h23=>(ifP (!r51) (K 1 h23) (k48 ((i64.wrap (s47.1+1)),()) h23))) h22)) h22)) h22)) h22)) h22)) h22)) (K 0 h22))) (0,()) h20))) (0,()) h15))) (0,()) h11))) (0,()) h6))) (0,()) h2))) (0,()) h1))) h)
def zct(a:Sl)(b:Sl)(K:Bool->Hp->Prop)(h:Hp):Prop:=(ifP ((a.len:Int) != (b.len:Int)) (K false h) (zn (S:=Int×Unit) (λs1 k2 h1=>(ifP (decide (s1.1<(a.len:Int))) (zg a s1.1 1 λa3=>(ldL (.int .i64) a3 (λx4=>(zg b s1.1 1 λa5=>(ldL (.int .i64) a5 (λx6=>(ifP (x4 != x6) (K false h1) (k2 ((i64.wrap (s1.1+1)),()) h1))) h1))) h1)) (K true h1))) (0,()) h))
def z6q(s:TSketch)(K:Sl->Hp->Prop)(h:Hp):Prop:=(zn (S:=Sl×Int×Unit) (λs1 k2 h1=>(ifP (decide (s1.2.1<(s.circles.len:Int))) (zg s.circles s1.2.1 5 λa3=>(ldL (.int .i64) (a3.add 0) (λx4_0=>(ldL (.bool) (a3.add 1) (λx4_1=>(ldL (.sl) (a3.add 2) (λx4_2=>(ldL (.bool) (a3.add 3) (λx4_3=>(ldL (.sl) (a3.add 4) (λx4_4=>(ql 1 8 [.int .i64 0] s1.1 1 [.int .i64 x4_0] (λw5 h2=>(k2 (w5,(i64.wrap (s1.2.1+1)),()) h2)) h1)) h1)) h1)) h1)) h1)) h1)) (K s1.1 h1))) (zf,0,()) h)
def yu(s:Sl)(K:Sl->Hp->Prop)(h:Hp):Prop:=(ifP s.a.isNone (K zf h) (Y2 [] (λp1 h1=>(rdO s.a (s.len*5) (λvs2=>(ql 5 88 [.int .i64 0,.slice zf.a zf.len zf.cap,.slice zf.a zf.len zf.cap,.slice zf.a zf.len zf.cap,.int .i64 0] (⟨some p1,0,0⟩:Sl) s.len vs2 (λw3 h2=>(K w3 h2)) h1)) h1)) h))
def zfi(s:TSketch)(K:Sl->Hp->Prop)(h:Hp):Prop:=(zc (yu s.constraints) (λr1 h1=>(zc (z17 s) (λr2 h2=>(rdO r2.a (r2.len*5) (λvs3=>(ql 5 88 [.int .i64 0,.slice zf.a zf.len zf.cap,.slice zf.a zf.len zf.cap,.slice zf.a zf.len zf.cap,.int .i64 0] r1 r2.len vs3 (λw4 h3=>(K w4 h3)) h2)) h2)) h1)) h)
def za9(c:TConstraint)(centers:Sl)(K:Sl->Hp->Prop)(h:Hp):Prop:=(zc (Xr c.points) (λr1 h1=>(zn (S:=Sl×Int×Unit) (λs2 k3 h2=>(ifP (decide (s2.2.1<(c.circles.len:Int))) (zv (S:=Sl×Unit) (λs4 h3=>(k3 (s4.1,(i64.wrap (s2.2.1+1)),()) h3)) (λk5=>(zg c.circles s2.2.1 1 λa6=>(ldL (.int .i64) a6 (λx7=>(ql 1 8 [.int .i64 0] s2.1 1 [.int .i64 (i64.wrap ((-1)-x7))] (λw8 h4=>(zv (S:=Bool×Unit) (λs9 h5=>(ifP s9.1 (zg centers x7 1 λa11=>(ldL (.int .i64) a11 (λx12=>(ql 1 8 [.int .i64 0] w8 1 [.int .i64 x12] (λw13 h6=>(k5 (w13,()) h6)) h5)) h5)) (k5 (w8,()) h5))) (λk10=>(ifP (c.kind==13) (k10 ((c.kind==13),()) h4) (ifP (c.kind==16) (k10 ((c.kind==16),()) h4) (k10 ((c.kind==17),()) h4)))))) h2)) h2)))) (K s2.1 h2))) (r1,0,()) h1)) h)
def z97(x:Int)(v0:(Option Addr))(K:Bool->Hp->Prop)(h:Hp):Prop:=(Ye v0 λp1=>(ldL (.sl) p1 (λx2=>(zc (Zh x2 x) (λr3 h1=>(K (!r3) h1)) h)) h))
def qg(s:Sl)(f1:(Option Addr×Unit))(K:Int->Hp->Prop)(h:Hp):Prop:=(zn (S:=Int×Unit) (λs1 k2 h1=>(ifP (decide (s1.1<(s.len:Int))) (zg s s1.1 1 λa3=>(ldL (.int .i64) a3 (λx4=>(zc (z97 x4 f1.1) (λr5 h2=>(ifP r5 (K s1.1 h2) (k2 ((i64.wrap (s1.1+1)),()) h2))) h1)) h1)) (K (-1) h1))) (0,()) h)
def Y7(s:Sl)(f1:(Option Addr×Unit))(K:Bool->Hp->Prop)(h:Hp):Prop:=(zc (qg s (f1.1,())) (λr1 h1=>(K (decide (r1>=0)) h1)) h)
def z8k(s:TSketch)(list:Sl)(K:Sl->Hp->Prop)(h:Hp):Prop:=(Y2 [.slice list.a list.len list.cap] (λp1 h1=>(zc (z6q s) (λr2 h2=>(zc (zfi s) (λr3 h3=>(zn (S:=Sl×Int×Unit) (λs4 k5 h4=>(ifP (decide (s4.2.1<(r3.len:Int))) (zv (S:=Sl×Unit) (λs6 h5=>(k5 (s6.1,(i64.wrap (s4.2.1+1)),()) h5)) (λk7=>(zg r3 s4.2.1 5 λa8=>(ldL (.int .i64) (a8.add 0) (λx9_0=>(ldL (.sl) (a8.add 1) (λx9_1=>(ldL (.sl) (a8.add 2) (λx9_2=>(ldL (.sl) (a8.add 3) (λx9_3=>(ldL (.int .i64) (a8.add 4) (λx9_4=>(zc (za9 (⟨x9_0,x9_1,x9_2,x9_3,x9_4⟩:TConstraint) r2) (λr10 h6=>(zc (Y7 r10 ((some p1),())) (λr11 h7=>(ifP (!r11) (ql 1 8 [.int .i64 0] s4.1 1 [.int .i64 s4.2.1] (λw12 h8=>(k7 (w12,()) h8)) h7) (k7 (s4.1,()) h7))) h6)) h4)) h4)) h4)) h4)) h4)) h4)))) (K s4.1 h4))) (zf,0,()) h3)) h2)) h1)) h)
def zdb(s:TSketch)(K:(Sl×Sl)->Hp->Prop)(h:Hp):Prop:=(zc (z09 s) (λr1 h1=>(ifP (r1 != 0) (K (zf,zf) h1) (zc (Vy s) (λr2 h2=>(ifP ((r2.2.len:Int)==0) (K (zf,zf) h2) (zc (z8k s r2.2) (λr3 h3=>(K (r2.2,r3) h3)) h2))) h1))) h)
def Wg(s:TSketch)(K:Bool->Hp->Prop)(h:Hp):Prop:=(zc (z09 s) (λr1 h1=>(ifP (r1 != 0) (K false h1) (zc (Vy s) (λr2 h2=>(K ((r2.2.len:Int)==0) h2)) h1))) h)
def z9l(points:Int)(n:Int)(K:Bool->Hp->Prop)(h:Hp):Prop:=(ifP (decide (n>=0)) (K (decide (n<points)) h) (K false h))
def zej(vals:Sl)(K:Int->Hp->Prop)(h:Hp):Prop:=(zn (S:=Int×Unit) (λs1 k2 h1=>(ifP (decide (s1.1<(vals.len:Int))) (zg vals s1.1 1 λa3=>(ldL (.int .i64) a3 (λx4=>(ifP (x4 != 0) (K x4 h1) (k2 ((i64.wrap (s1.1+1)),()) h1))) h1)) (K 0 h1))) (0,()) h)
def z5a(a:A2_Int)(b:A2_Int)(K:Int->Hp->Prop)(h:Hp):Prop:=(zc (Q8 a.c0 b.c0) (λr1 h1=>(zc (Q8 a.c1 b.c1) (λr2 h2=>(Y2 [.int .i64 r1,.int .i64 r2] (λp3 h3=>(zc (zej (⟨some p3,2,2⟩:Sl)) (λr4 h4=>(K r4 h4)) h3)) h2)) h1)) h)
def Wc(g:TGraph)(K:Bool->Hp->Prop)(h:Hp):Prop:=(zv (S:=Unit) (λs1 h1=>(zn (S:=Int×Unit) (λs3 k4 h2=>(ifP (decide (s3.1<(g.edges.len:Int))) (zv (S:=Unit) (λs5 h3=>(k4 ((i64.wrap (s3.1+1)),()) h3)) (λk6=>(zg g.edges s3.1 2 λa7=>(ldL (.int .i64) (a7.add 0) (λx8_0=>(ldL (.int .i64) (a7.add 1) (λx8_1=>(zc (z9l g.n x8_0) (λr9 h4=>(ifP (!r9) (K false h4) (zc (z9l g.n x8_1) (λr10 h5=>(ifP (!r10) (K false h5) (ifP (decide (x8_0>=x8_1)) (K false h5) (ifP (decide (s3.1>0)) (zg g.edges (i64.wrap (s3.1-1)) 2 λa11=>(ldL (.int .i64) (a11.add 0) (λx12_0=>(ldL (.int .i64) (a11.add 1) (λx12_1=>(zc (z5a (⟨x12_0,x12_1⟩:A2_Int) (⟨x8_0,x8_1⟩:A2_Int)) (λr13 h6=>(ifP (decide (r13>=0)) (K false h6) (k6 () h6))) h5)) h5)) h5)) (k6 () h5))))) h4))) h2)) h2)) h2)))) (K true h2))) (0,()) h1)) (λk2=>(ifP (decide (g.n<0)) (K false h) (ifP (decide (g.n>60)) (K false h) (k2 () h)))))
def z7l(g:TGraph)(K:Sl->Hp->Prop)(h:Hp):Prop:=(zc (Wc g) (λr1 h1=>(ifP (!r1) (K zf h1) (mkP g.n g.n 1 [.bool false] (λm2 h2=>(zn (S:=Bool×Unit) (λs3 k4 h3=>(ifP s3.1 (mkP g.n g.n 8 [.int .i64 0] (λm5 h4=>(zn (S:=Int×Unit) (λs6 k7 h5=>(ifP (decide (s6.1<(g.edges.len:Int))) (zv (S:=Unit) (λs8 h6=>(k7 ((i64.wrap (s6.1+1)),()) h6)) (λk9=>(zg g.edges s6.1 2 λa10=>(ldL (.int .i64) (a10.add 0) (λx11_0=>(ldL (.int .i64) (a10.add 1) (λx11_1=>(zg m2 x11_0 1 λa12=>(ldL (.bool) a12 (λx13=>(ifP (!x13) (zg m2 x11_1 1 λa14=>(ldL (.bool) a14 (λx15=>(ifP (!x15) (zg m5 x11_0 1 λa16=>(ldL (.int .i64) a16 (λx17=>(zg m5 x11_0 1 λa18=>(stP a18 [.int .i64 (i64.wrap (x17+1))] (λh7=>(zg m5 x11_1 1 λa19=>(ldL (.int .i64) a19 (λx20=>(zg m5 x11_1 1 λa21=>(stP a21 [.int .i64 (i64.wrap (x20+1))] (λh8=>(k9 () h8)) h7))) h7))) h5))) h5)) (k9 () h5))) h5)) (k9 () h5))) h5))) h5)) h5)))) (zn (S:=Bool×Int×Unit) (λs22 k23 h9=>(ifP (decide (s22.2.1<(m2.len:Int))) (zv (S:=Bool×Unit) (λs24 h10=>(k23 (s24.1,(i64.wrap (s22.2.1+1)),()) h10)) (λk25=>(zg m2 s22.2.1 1 λa26=>(ldL (.bool) a26 (λx27=>(ifP (!x27) (zg m5 s22.2.1 1 λa28=>(ldL (.int .i64) a28 (λx29=>(ifP (decide (x29<=2)) (zg m2 s22.2.1 1 λa30=>(stP a30 [.bool true] (λh11=>(k25 (true,()) h11)) h9)) (k25 (s22.1,()) h9))) h9)) (k25 (s22.1,()) h9))) h9)))) (k4 (s22.1,()) h9))) (false,0,()) h5))) (0,()) h4)) h3) (zn (S:=Sl×Int×Unit) (λs31 k32 h12=>(ifP (decide (s31.2.1<(m2.len:Int))) (zv (S:=Sl×Unit) (λs33 h13=>(k32 (s33.1,(i64.wrap (s31.2.1+1)),()) h13)) (λk34=>(zg m2 s31.2.1 1 λa35=>(ldL (.bool) a35 (λx36=>(ifP (!x36) (ql 1 8 [.int .i64 0] s31.1 1 [.int .i64 s31.2.1] (λw37 h14=>(k34 (w37,()) h14)) h12) (k34 (s31.1,()) h12))) h12)))) (K s31.1 h12))) (zf,0,()) h3))) (true,()) h2)) h1))) h)
def z78(a:A2_Int)(b:A2_Int)(K:Bool->Hp->Prop)(h:Hp):Prop:=(ifP (decide (a.c0<b.c0)) (K true h) (ifP (a.c0==b.c0) (K (decide (a.c1<b.c1)) h) (K false h)))
def z63(g:TGraph)(K:Bool->Hp->Prop)(h:Hp):Prop:=(zv (S:=Unit) (λs1 h1=>(zn (S:=Int×Unit) (λs3 k4 h2=>(ifP (decide (s3.1<(g.edges.len:Int))) (zv (S:=Unit) (λs5 h3=>(k4 ((i64.wrap (s3.1+1)),()) h3)) (λk6=>(zg g.edges s3.1 2 λa7=>(ldL (.int .i64) (a7.add 0) (λx8_0=>(ldL (.int .i64) (a7.add 1) (λx8_1=>(ifP (decide (x8_0<0)) (K false h2) (ifP (decide (x8_0>=x8_1)) (K false h2) (ifP (decide (x8_1>=g.n)) (K false h2) (ifP (decide (s3.1>0)) (zg g.edges (i64.wrap (s3.1-1)) 2 λa9=>(ldL (.int .i64) (a9.add 0) (λx10_0=>(ldL (.int .i64) (a9.add 1) (λx10_1=>(zc (z78 (⟨x10_0,x10_1⟩:A2_Int) (⟨x8_0,x8_1⟩:A2_Int)) (λr11 h4=>(ifP (!r11) (K false h4) (k6 () h4))) h2)) h2)) h2)) (k6 () h2)))))) h2)) h2)))) (K true h2))) (0,()) h1)) (λk2=>(ifP (decide (g.n<0)) (K false h) (ifP (decide (g.n>60)) (K false h) (k2 () h)))))
end F
end Den
end

section
namespace Iv
def W:Nat:=4294967296
theorem Wz:0<W:=by decide
theorem Zpj:W=4294967296:=rfl
def vl:List Nat->Nat
 | []=>0
 | x :: r=>x+W*vl r
def okW(l:List Nat):Prop:=∀d∈l,d<W
def Qp:List Nat->List Nat
 | []=>[]
 | x :: r=>match Qp r with
   | []=>if x=0 then []else [x]
   | y :: t=>x :: y :: t
def dg(n:Nat):List Nat:=if h:n=0 then []else (n % W) :: dg (n/W)
termination_by n
decreasing_by exact Nat.div_lt_self (Tt h) (by decide)
theorem qz:dg 0=[]:=by unfold dg;simp
theorem zh1{n:Nat}(h:n≠0):dg n=(n % W) :: dg (n/W):=by conv=>lhs;unfold dg;rw[dif_neg h]
theorem Zt(n:Nat):vl (dg n)=n:=by
 induction n using Nat.strongRecOn with
 | _ n ih=>
   by_cases h:n=0
   . subst h;rw[qz];rfl
   . rw[zh1 h];simp only[vl];rw[ih (n/W) (Nat.div_lt_self (Tt h) (by decide))];exact Pf n W
theorem Z5(n:Nat):okW (dg n):=by
 induction n using Nat.strongRecOn with
 | _ n ih=>
   by_cases h:n=0
   . subst h;rw[qz];intro d hd;cases hd
   . rw[zh1 h];intro d hd;rcases Ju.1 hd with rfl | hd
     . exact U2 _ Wz
     . exact ih (n/W) (Nat.div_lt_self (Tt h) (by decide)) d hd
theorem z0v{n:Nat}:dg n=[]↔n=0:=by
 constructor
 . intro h;have:=Zt n;rw[h]at this;exact this.symm
 . rintro rfl;exact qz
theorem zj5{x:Nat}{r:List Nat}(h:okW (x :: r)):x<W/\okW r:=⟨h x List.mem_cons_self,λd hd=>h d (List.mem_cons_of_mem _ hd)⟩
theorem Qn:∀{l:List Nat},okW l->Qp l=dg (vl l)
 | [],_=>by simp[Qp,vl,qz]
 | x :: r,h=>by
   obtain⟨hx,hr⟩:=zj5 h;have ih:=Qn hr;unfold Qp vl;rw[ih];by_cases hv:vl r=0
   . rw[hv,qz];simp only[T3,Uy];by_cases h0:x=0
     . rw[if_pos h0,h0,qz]
     . rw[if_neg h0,zh1 h0,Uj hx,Tz hx,qz]
   . have hne:dg (vl r)≠[]:=λhh=>hv (z0v.1 hh)
     have hpos:x+W*vl r≠0:=by
      have:0<W*vl r:=Nat.mul_pos Wz (Tt hv);omega
     rw[zh1 hpos,Nat.add_mul_mod_self_left,Uj hx,Nat.add_mul_div_left _ _ Wz,Tz hx,Gi];cases hd:dg (vl r)with
     | nil=>exact absurd hd hne
     | cons y t=>rfl
theorem zbe:∀{l:List Nat},okW l->vl l<W ^ l.length
 | [],_=>by simp[vl]
 | x :: r,h=>by
   obtain⟨hx,hr⟩:=zj5 h;have ih:=zbe hr;simp only[vl,J3,U6];have:W*(vl r+1)<=W*W ^ r.length:=G4 _ ih;rw[J8 (W ^ r.length)];rw[Gu]at this;omega
theorem Y6{n k:Nat}:(dg n).length<=k↔n<W ^ k:=by
 constructor
 . intro h;have h1:=zbe (Z5 n);rw[Zt]at h1;exact Tb h1 (Th Wz h)
 . induction k generalizing n with
   | zero=>
     intro h;have:n=0:=by simp at h;exact h
     subst this;rw[qz];simp
   | succ k ih=>
     intro h;by_cases hn:n=0
     . subst hn;rw[qz];simp
     . rw[zh1 hn];simp only[J3];have:n/W<W ^ k:=by
        rw[Gj Wz];rw[U6]at h;exact h
       have:=ih this;omega
theorem za2:∀(a b:List Nat),vl (a++b)=vl a+W ^ a.length*vl b
 | [],b=>by simp[vl]
 | x :: r,b=>by
   simp only[G9,vl,za2 r b,J3,U6];rw[Gu,J8 (W ^ r.length) W,J4];omega
theorem Z0o{l:List Nat}(hok:okW l)(ht:Qp l=l):l=dg (vl l):=ht.symm.trans (Qn hok)
theorem zb6:∀{l:List Nat} {k v:Nat} (hk:k<l.length),vl (l.set k v)+W ^ k*l[k]=vl l+W ^ k*v
 | [],k,v,hk=>by simp at hk
 | x :: r,0,v,hk=>by simp[vl];omega
 | x :: r,k+1,v,hk=>by
   have hk':k<r.length:=by simpa using hk
   have ih:=zb6 (v:=v) hk';simp only[List.set_cons_succ,vl,List.getElem_cons_succ,U6];have e1:W ^ k*W*r[k]=W*(W ^ k*r[k]):=by rw[J8 (W ^ k) W,J4]
   have e2:W ^ k*W*v=W*(W ^ k*v):=by rw[J8 (W ^ k) W,J4]
   rw[e1,e2];have:=congrArg (W*·) ih;simp only[Gu]at this;omega
theorem Vn{l:List Nat}{k v:Nat}(hl:okW l)(hv:v<W):okW (l.set k v):=λd hd=>by
 rcases List.mem_or_eq_of_mem_set hd with h | h
 . exact hl d h
 . rw[h];exact hv
theorem Yi{l:List Nat}{k:Nat}(hk:k<l.length):vl (l.take (k+1))=vl (l.take k)+W ^ k*l[k]:=by
 rw[U5 hk,za2,Jl,Gk (by omega)];simp[vl]
theorem Qx{l:List Nat}(hl:okW l){k:Nat}(hk:k<l.length):l[k]<W:=hl _ (List.getElem_mem hk)
theorem z5e{l:List Nat}(hl:okW l)(k:Nat):okW (l.take k):=λd hd=>hl d (List.mem_of_mem_take hd)
theorem zaj{l:List Nat}(hl:okW l)(k:Nat):okW (l.drop k):=λd hd=>hl d (List.mem_of_mem_drop hd)
theorem znn{a b:List Nat}(ha:okW a)(hb:okW b):okW (a++b):=λd hd=>(List.mem_append.1 hd).elim (ha d) (hb d)
theorem qb{l:List Nat}{k:Nat}(hk:k<=l.length):vl l=vl (l.take k)+W ^ k*vl (l.drop k):=by
 have:=za2 (l.take k) (l.drop k);rw[List.take_append_drop,Jl,Gk hk]at this;exact this
theorem zyg(n:Nat):vl (Jr n 0)=0:=by
 induction n with
 | zero=>rfl
 | succ n ih=>rw[List.replicate_succ];simp[vl,ih]
theorem z7w(n:Nat):okW (Jr n 0):=λd hd=>by rw[(List.mem_replicate.1 hd).2];decide
theorem Zju:okW []:=λd hd=>by cases hd
theorem Zc4(l:List Nat):(Qp l).length<=l.length:=by
 induction l with
 | nil=>exact Ja _
 | cons x r ih=>
   unfold Qp;split
   . split<;>simp
   . rename_i y t h;rw[h]at ih;simp only[J3]at ih |-;omega
theorem Z2l(l:List Nat):Qp l=l.take (Qp l).length:=by
 induction l with
 | nil=>rfl
 | cons x r ih=>
   unfold Qp;split
   . split<;>simp
   . rename_i y t h;rw[h]at ih;simp only[J3]at ih |-
     rw[List.take_succ_cons,<-ih]
theorem z8b(l:List Nat):Qp (l++[0])=Qp l:=by
 induction l with
 | nil=>simp[Qp]
 | cons x r ih=>simp only[G9,Qp,ih]
theorem z9e(l:List Nat){x:Nat}(hx:x≠0):Qp (l++[x])=l++[x]:=by
 induction l with
 | nil=>simp[Qp,hx]
 | cons y r ih=>
   simp only[G9,Qp,ih];cases h:r++[x]with
   | nil=>simp at h
   | cons a b=>rfl
end Iv
end

section
namespace Den
open Go Iv
def LeX(b:Nat)(h h':Hp):Prop:=∀k B,k≠b->h k=some B->h' k=some B
def zyj(x y:Sl):Prop:=∀a b,x.a=some a->y.a=some b->a.block≠b.block
theorem zf8{h1 h2 h3:Hp}{s s':Nat}{x y:Sl}{cs ds:List Value}(hx:Own h1 h2 s x cs)(hy:Own h2 h3 s' y ds):zyj x y:=λa b ha hb hh=>by
 obtain⟨_,_,_,gx⟩:=hx;obtain⟨_,_,_,gy⟩:=hy;rw[ha]at gx;rw[hb]at gy;obtain⟨_,_,_,B,g4,_⟩:=gx;obtain⟨_,_,g3,_⟩:=gy;rw[hh,g3]at g4;cases g4
theorem zhy{h h':Hp}{b:Nat}(hl:LeX b h h'){a:Addr}(ha:a.block≠b):∀{n:Nat} {l:List Value},Z3 h a n=some l->Z3 h' a n=some l
 | 0,_,e=>e
 | n+1,l,e=>by
   unfold Z3 at *;cases h1:Z3 h a n with
   | none=>rw[h1]at e;cases e
   | some l1=>
     rw[h1]at e;rw[zhy hl ha h1];simp only at e |-
     have hc:∀v,h.cell (a.add n)=some v->h'.cell (a.add n)=some v:=λv hv=>by
      unfold Hp.cell at *;cases hs:(a.add n).spot with
      | some x=>rw[hs]at hv;cases hv
      | none=>
        rw[hs]at hv;simp only at hv |-
        rw[Yr]at hv |-
        cases hb:h a.block with
        | none=>rw[hb]at hv;cases hv
        | some B=>rw[hb]at hv;rw[hl _ _ ha hb];exact hv
     cases h2:h.cell (a.add n)with
     | none=>rw[h2]at e;cases e
     | some v=>rw[h2]at e;rw[hc v h2];exact e
theorem Rd.leX{h h':Hp}{b s:Nat}{y:Sl}{cs:List Value}(hr:Rd h s y cs)(hl:LeX b h h')(hne:∀a,y.a=some a->a.block≠b):Rd h' s y cs:=by
 refine⟨hr.1,?_⟩;have h2:=hr.2;cases ha:y.a with
 | none=>rw[ha]at h2;exact h2
 | some a=>rw[ha]at h2;exact zhy hl (hne a ha) h2
theorem Own.leX{h0 h h':Hp}{b s:Nat}{y:Sl}{cs:List Value}(hr:Own h0 h s y cs)(hl:LeX b h h')(h0b:h0 b=none)(hne:∀a,y.a=some a->a.block≠b):Own h0 h' s y cs:=by
 obtain⟨h1,h2,h3,h4⟩:=hr;refine⟨λk B hk=>?_,h2,h3,?_⟩
 . exact hl k B (λhh=>by rw[hh,h0b]at hk;cases hk) (h1 k B hk)
 . cases ha:y.a with
   | none=>rw[ha]at h4;exact h4
   | some a=>
     rw[ha]at h4;obtain⟨g1,g2,g3,B,g4,g5⟩:=h4;exact⟨g1,g2,g3,B,hl _ _ (hne a ha) g4,g5⟩
theorem Zet{h0 h:Hp}{size:Nat}{x:Sl}{cs vs:List Value}{i:Int}{K:Hp->Prop}(k:Nat)(ho:Own h0 h size x cs)(hi:i=k)(hk:k<x.len)(hv:vs.length=size)(hsz:0<size)(hleaf:vs.all Value.leaf=true)
 (H:∀h' b,(∀a,x.a=some a->a.block=b)->h0 b=none->LeX b h h'->Own h0 h' size x (Zc cs (k*size) vs)->K h'):zg x i size λa=>stP a vs K h:=by
 have ho':=ho;obtain⟨h1,h2,h3,h4⟩:=ho;cases ha:x.a with
 | none=>rw[ha]at h4;simp only at h4;omega
 | some a=>
   rw[ha]at h4;obtain⟨g1,g2,g3,b,g4,g5,g6,g7⟩:=h4;have key:=zxm (K:=λh'=>LeX a.block h h'->K h') k ho' hi hk hv hsz hleaf (λh' ho2 hl=>H h' a.block (λa' ha'=>by rw[ha]at ha';cases ha';rfl) g3 hl ho2);obtain⟨q1,q2,q3⟩:=key;refine⟨q1,q2,?_⟩;rw[ha]at q3 |-
   simp only[Ye]at q3 |-
   obtain⟨B,r1,r2,r3,r4,r5,r6⟩:=q3;refine⟨B,r1,r2,r3,r4,r5,r6 ?_⟩;rw[Yr];intro kk BB hne hkk;rw[Hp.ins_ne hne];exact hkk
def wc(l:List Nat):List Value:=l.map λ(n:Nat)=>Ge .u32 (n:Int)
theorem z9f(l:List Nat):(wc l).length=l.length:=by simp[wc]
theorem Zpb{l:List Nat}{k v:Nat}(hk:k<l.length):Zc (wc l) (k*1) [.int .u32 (v:Int)]=wc (l.set k v):=by
 rw[J7,z4w];unfold wc;rw[List.map_set];have hk':k<(l.map λ(n:Nat)=>Ge .u32 (n:Int)).length:=by simpa using hk
 rw[List.set_eq_take_append_cons_drop,if_pos hk']
theorem Zpa(n:Nat):yn n [Ge .u32 0]=wc (Jr n 0):=by
 unfold yn wc;simp
theorem Z2o(a b:List Nat):wc (a++b)=wc a++wc b:=by simp[wc]
def RdW(h:Hp)(x:Sl)(l:List Nat):Prop:=Rd h 1 x (wc l)/\x.len<=x.cap
abbrev Yl(h0 h:Hp)(x:Sl)(l:List Nat):Prop:=Own h0 h 1 x (wc l)
theorem RdW.len{h:Hp}{x:Sl}{l:List Nat}(hr:RdW h x l):x.len=l.length:=by have:=hr.1.1;rw[z9f]at this;omega
theorem Yl.rdW{h0 h:Hp}{x:Sl}{l:List Nat}(hr:Yl h0 h x l):RdW h x l:=⟨hr.rd,hr.2.2.1⟩
theorem Yl.len{h0 h:Hp}{x:Sl}{l:List Nat}(hr:Yl h0 h x l):x.len=l.length:=RdW.len hr.rdW
theorem RdW.le{h h':Hp}{x:Sl}{l:List Nat}(hr:RdW h x l)(hl:h.le h'):RdW h' x l:=⟨hr.1.le hl,hr.2⟩
theorem RdW.nil{h:Hp}:RdW h zf []:=⟨Rd.nil,Ja _⟩
theorem RdW.leX{h h':Hp}{b:Nat}{y:Sl}{l:List Nat}(hr:RdW h y l)(hl:LeX b h h')(hne:∀a,y.a=some a->a.block≠b):RdW h' y l:=⟨hr.1.leX hl hne,hr.2⟩
theorem zjp{h:Hp}{a:Addr}{l:List Value}(H:∀i v,l[i]?=some v->h.cell (a.add i)=some v):∀n,n<=l.length->Z3 h a n=some (l.take n)
 | 0,_=>by simp[Z3]
 | n+1,hn=>by
   unfold Z3;rw[zjp H n (by omega)];have h1:l[n]?=some l[n]:=Jc (by omega);simp only[H n _ h1];rw[U5 (by omega)]
theorem Rd.cut{h:Hp}{x:Sl}{cs:List Value}(hr:Rd h 1 x cs)(lo hi:Nat)(h1:lo<=hi)(h2:hi<=cs.length)(h3:hi<=x.cap):Rd h 1 (x.cut lo hi 1) ((cs.drop lo).take (hi-lo)):=by
 have hlen:((cs.drop lo).take (hi-lo)).length=hi-lo:=by rw[Jl,Gg];omega
 refine⟨by rw[hlen];show(hi-lo)*1=_;omega,?_⟩;rw[hlen];by_cases h0:hi=lo
 . have:hi-lo=0:=by omega
   rw[this];cases(x.cut lo hi 1).a<;>simp[yc,Z3]
 . have hne:x.cap≠lo:=by omega
   have ha:(x.cut lo hi 1).a=x.a.map (·.add (lo*1)):=by show(if x.cap=lo then _ else _)=_;rw[if_neg hne]
   rw[ha];have hr2:=hr.2;cases hxa:x.a with
   | none=>
     rw[hxa]at hr2;simp only[yc]at hr2;split at hr2
     . omega
     . cases hr2
   | some a=>
     rw[hxa]at hr2;simp only[yc]at hr2;show Z3 h (a.add (lo*1)) (hi-lo)=_;have key:=zjp (h:=h) (a:=a.add (lo*1)) (l:=cs.drop lo) (λi v hv=>by
      rw[W7];refine z5q hr2 _ v ?_;rw[Gy]at hv;rw[J7];exact hv) (hi-lo) (by rw[Gg];omega)
     exact key
theorem RdW.cut{h:Hp}{x:Sl}{l:List Nat}(hr:RdW h x l)(lo hi:Nat)(h1:lo<=hi)(h2:hi<=l.length):RdW h (x.cut lo hi 1) ((l.drop lo).take (hi-lo)):=by
 have hl:=hr.len;have hc:=hr.2;refine⟨?_,?_⟩
 . have:=hr.1.cut lo hi h1 (by rw[z9f];exact h2) (by omega);unfold wc at *;rw[List.map_take,List.map_drop];exact this
 . show hi-lo<=x.cap-lo;omega
theorem Zeq{h:Hp}{x:Sl}{l:List Nat}{lo hi:Int}{K:Sl->Prop}(a b:Nat)(hr:RdW h x l)(ha:lo=a)(hb:hi=b)(hab:a<=b)(hbl:b<=l.length)
 (H:RdW h (x.cut a b 1) ((l.drop a).take (b-a))->K (x.cut a b 1)):slP x lo hi 1 K:=by
 subst ha hb;have hl:=hr.len;have hc:=hr.2;exact⟨by omega,by omega,by omega,H (hr.cut a b hab hbl)⟩
theorem Z6{h:Hp}{x:Sl}{l:List Nat}{i:Int}{Ka:Addr->Prop}(k:Nat)(hr:RdW h x l)(hi:i=k)(hk:k<l.length)
 (H:∀a,h.cell a=some (.int .u32 (l[k]:Int))->Ka a):zg x i 1 Ka:=
 zlf k hr.1 hi (v:=.int .u32 (l[k]:Int)) (by simp[wc,hk]) H
theorem z0c{h0 h:Hp}{x:Sl}{l:List Nat}{i:Int}{v:Int}{K:Hp->Prop}(k n:Nat)(ho:Yl h0 h x l)(hi:i=k)(hk:k<l.length)(hv:v=n)
 (H:∀h' b,(∀a,x.a=some a->a.block=b)->h0 b=none->LeX b h h'->Yl h0 h' x (l.set k n)->K h'):zg x i 1 λa=>stP a [.int .u32 v] K h:=by
 subst hv;refine Zet k ho hi (by rw[ho.len];exact hk) rfl (by decide) rfl λh' b h1 h2 h3 h4=>H h' b h1 h2 h3 ?_
 rw[Zpb hk]at h4;exact h4
theorem z1o{h:Hp}{len cap:Int}{K:Sl->Hp->Prop}(l c:Nat)(hl:len=l)(hc:cap=c)(hlc:l<=c)(hb:c<=35184372088832)
 (H:∀x h',x.len=l->Yl h h' x (Jr l 0)->K x h'):mkP len cap 4 [.int .u32 0] K h:=by
 refine zpp (size:=1) l c hl hc hlc (by omega) (by omega) rfl λx h' hx _ ho=>H x h' hx ?_
 rw[Zpa]at ho;exact ho
theorem zr6{h0 h:Hp}{x:Sl}{l:List Nat}{v:Int}{K:Sl->Hp->Prop}(n:Nat)(ho:Yl h0 h x l)(hv:v=n)(hb:l.length<35184372088832)
 (H:∀y h',Yl h0 h' y (l++[n])->K y h'):ql 1 4 [.int .u32 0] x 1 [.int .u32 v] K h:=by
 subst hv;have hl:=ho.len;refine z54 ho (n:=1) rfl rfl rfl (by omega) (by omega) λy h' hy hyl=>H y h' ?_
 unfold Yl;rw[Z2o];exact hy
theorem z3i{n:Nat}(h:n<18446744073709551616):u64.wrap (n:Int)=(n:Int):=Zs7 (by omega)
theorem ze4(n:Nat):u32.wrap (n:Int)=((n % W:Nat):Int):=by
 simp[Pe,G0,G6,W]
theorem Zq1{n:Nat}(h:n<9223372036854775808):i64.wrap (n:Int)=(n:Int):=w64 (by omega)
theorem zij(n:Nat):((n:Int)).fdiv (2 ^ (min (32:Int).toNat u64.bits))=((n/W:Nat):Int):=by
 have:(2:Int) ^ (min (32:Int).toNat u64.bits)=((4294967296:Nat):Int):=by decide
 rw[this];show((n:Int)).fdiv ((4294967296:Nat):Int)=((n/4294967296:Nat):Int);exact Int.ofNat_fdiv n 4294967296 |>.symm
theorem mac{c x y z:Nat}(hc:c<W)(hx:x<W)(hy:y<W)(hz:z<W) :
 u64.wrap ((c:Int)+u64.wrap (u64.wrap (u64.wrap (x:Int)*u64.wrap (y:Int))+u64.wrap (z:Int)))=((c+(x*y+z):Nat):Int):=by
 unfold W at *;have hxy:x*y<=4294967295*4294967295:=Nat.mul_le_mul (by omega) (by omega);rw[z3i (n:=x) (by omega),z3i (n:=y) (by omega),z3i (n:=z) (by omega)];rw[show((x:Int)*(y:Int))=((x*y:Nat):Int)by simp,z3i (n:=x*y) (by omega)];rw[show(((x*y:Nat):Int)+(z:Int))=((x*y+z:Nat):Int)by simp,z3i (n:=x*y+z) (by omega)];rw[show((c:Int)+((x*y+z:Nat):Int))=((c+(x*y+z):Nat):Int)by simp,z3i (by omega)]
theorem Z9j{c x y z:Nat}(hc:c<W)(hx:x<W)(hy:y<W)(hz:z<W):(c+(x*y+z))/W<W:=by
 rw[Gj Wz];unfold W at *;have hxy:x*y<=4294967295*4294967295:=Nat.mul_le_mul (by omega) (by omega);omega
end Den
end

section
namespace Den
open Go Iv
namespace Hp
def del(h:Hp)(b:Nat):Hp:=λk=>if k=b then none else h k
def one(h:Hp)(b:Nat):Hp:=λk=>if k=b then h k else none
theorem del_dj(h:Hp)(b:Nat):(h.del b).dj (h.one b):=λk=>by
 by_cases hk:k=b
 . exact .inl (by simp[del,hk])
 . exact .inr (by simp[one,hk])
theorem del_add(h:Hp)(b:Nat):h=(h.del b).add (h.one b):=by
 funext k;unfold add del one;by_cases hk:k=b
 . simp[hk]
 . simp[hk];cases h k<;>rfl
theorem del_le(h:Hp)(b:Nat):(h.del b).le h:=λk B hk=>by
 unfold del at hk;split at hk
 . cases hk
 . exact hk
theorem del_same(h:Hp)(b:Nat):(h.del b) b=none:=by simp[del]
theorem add_assoc'(a b c:Hp):(a.add b).add c=a.add (b.add c):=by
 funext k;unfold add;cases a k<;>rfl
end Hp
theorem zrd{α:Type}{G:(α->Hp->Prop)->Hp->Prop}{K1 K:α->Hp->Prop}{D O:Hp}(hd:D.dj O)(H:zc G K1 D)(k:∀v D',D.le D'->D'.dj O->K1 v D'->K v (D'.add O)):zc G K (D.add O):=by
 obtain⟨D1,O1,Q,h1,h2,h3,h4⟩:=H;refine⟨D1,O1.add O,Q,?_,?_,h3,λv D' hq=>⟨(h4 v D' hq).1,λhdj hfin=>?_⟩⟩
 . intro k;rcases h1 k with h5 | h5
   . exact .inl h5
   . rcases hd k with h6 | h6
     . rw[h2]at h6;exact .inl (Hp.add_none.1 h6).1
     . exact .inr (Hp.add_none.2 ⟨h5,h6⟩)
 . rw[h2,Hp.add_assoc']
 . have h5:=h4 v D' hq;have hdj1:D'.dj O1:=λk=>by
    rcases hdj k with h6 | h6
    . exact .inl h6
    . exact .inr (Hp.add_none.1 h6).1
   have hdj2:(D'.add O1).dj O:=λk=>by
    rcases hdj k with h6 | h6
    . rcases hd k with h7 | h7
      . rw[h2]at h7;exact .inl (Hp.add_none.2 ⟨h6,(Hp.add_none.1 h7).2⟩)
      . exact .inr h7
    . exact .inr (Hp.add_none.1 h6).2
   have hfin1:(D'.add O1).Fin:=Hp.Fin.sub hfin λk hk=>by
    rw[<-Hp.add_assoc']at hk;exact(Hp.add_none.1 hk).1
   have h6:=h5.2 hdj1 hfin1;rw[<-Hp.add_assoc'];refine k v _ ?_ hdj2 h6;rw[h2];exact Hp.add_mono h5.1 hdj1
end Den
end

section
namespace Den
open Go Iv
section
variable {h : Hp} {x y : Sl} {l m : List Nat} {Ks : Sl → Hp → Prop} {Ki : Int → Hp → Prop} {Kb : Bool → Hp → Prop}
def InM(y x:Sl):Prop:=∀a,y.a=some a->∃a',x.a=some a'/\a.block=a'.block
theorem InM.rfl{x:Sl}:InM x x:=λa ha=>⟨a,ha,Eq.refl _⟩
theorem InM.trans{x y z:Sl}(h1:InM x y)(h2:InM y z):InM x z:=λa ha=>by
 obtain⟨a',h3,h4⟩:=h1 a ha;obtain⟨a2,h5,h6⟩:=h2 a' h3;exact⟨a2,h5,h4.trans h6⟩
theorem InM.cut{x:Sl}{lo hi n:Nat}:InM (x.cut lo hi n) x:=λa ha=>by
 have ha':(if x.cap=lo then x.a else x.a.map (·.add (lo*n)))=some a:=ha;split at ha'
 . exact⟨a,ha',Eq.refl _⟩
 . cases hx:x.a with
   | none=>rw[hx]at ha';cases ha'
   | some a'=>
     rw[hx]at ha';simp only[U0,Jm]at ha';subst ha';exact⟨a',Eq.refl _,Yr _ _⟩
theorem zho{Kf:Sl->Hp->Prop}(hr:RdW h x l)(hl:l.length<4611686018427387904)(H:∀y,RdW h y (Qp l)->InM y x->Kf y h) :
 zn (S:=Sl×Unit) (λs1 k2 h1=>
  (zv (S:=Unit) (λs3 h2=>(slP s1.1 0 (i64.wrap ((s1.1.len:Int)-1)) 1 λc5=>(k2 (c5,()) h2)))
  (λk4=>(ifP (decide ((s1.1.len:Int)>0)) (zg s1.1 (i64.wrap ((s1.1.len:Int)-1)) 1 λa6=>(ldL (.int .u32) a6 (λx7=>(ifP (x7==0) (k4 () h1) (Kf s1.1 h1))) h1)) (Kf s1.1 h1)))))
  (x,()) h:=by
 refine Zp (λst h'=>h'=h/\∃(y:Sl) (k:Nat),st=(y,())/\k<=l.length/\RdW h y (l.take k)/\Qp (l.take k)=Qp l/\InM y x) (λst=>st.1.len)
  ⟨rfl,x,l.length,rfl,Ja _,by rw[Jd (Ja _)];exact hr,by rw[Jd (Ja _)],InM.rfl⟩ ?_
 rintro st h' ⟨rfl,y,k,rfl,hk,hy,ht,hsub⟩;have hyl:=hy.len;rw[Jl,Gk hk]at hyl;refine zh (λ_ h1=>h1=h'/\∃j,k=j+1/\∃hj:j<l.length,l[j]=0) ?_ ?_
 . rintro _ h1 ⟨rfl,j,rfl,hj,h0⟩;refine Zeq 0 j hy rfl (by simp only;rw[hyl,w64 (by omega)];omega) (Ga _) (by rw[Jl];omega) λhc=>?_
   have e:((l.take (j+1)).drop 0).take (j-0)=l.take j:=by
    rw[Tw,Nat.sub_zero,List.take_take];congr 1;omega
   rw[e]at hc;refine⟨⟨rfl,_,j,rfl,by omega,hc,?_,InM.cut.trans hsub⟩,?_⟩
   . rw[<-ht,U5 hj,h0,z8b]
   . show j-0<y.len;omega
 . refine ze (λh1=>?_) (λh1=>?_)
   . simp only at h1;obtain⟨j,rfl⟩:∃j,k=j+1:=⟨k-1,by omega⟩;have hj:j<l.length:=by omega
     refine Z6 j hy (by simp only;rw[hyl,w64 (by omega)];omega) (by rw[Jl];omega) λa ha=>⟨_,ha,?_⟩
     have e:(l.take (j+1))[j]'(by rw[Jl];omega)=l[j]:=by simp
     rw[e];refine zu (λh2=>⟨rfl,j,rfl,hj,by omega⟩) (λh2=>?_);have h3:l[j]≠0:=by omega
     have:Qp (l.take (j+1))=l.take (j+1):=by
      rw[U5 hj,z9e _ h3]
     rw[<-ht,this]at H;exact H y hy hsub
   . simp only at h1;have:k=0:=by omega
     subst this;rw[<-ht]at H;exact H y hy hsub
theorem Zez(hr:RdW h x l)(hl:l.length<4611686018427387904)(H:∀y,RdW h y (Qp l)->Ks y h):F.zy x Ks h:=zho hr hl λy hy _=>H y hy
theorem Zae(hr:RdW h x l)(hl:l.length<4611686018427387904)(H:∀y,RdW h y (Qp l)->Ks y h):F.Yf x Ks h:=zho hr hl λy hy _=>H y hy
theorem zm3(hr:RdW h x l)(hl:l.length<4611686018427387904)(H:∀y,RdW h y (Qp l)->InM y x->Ks y h):zc (F.zy x) Ks h:=
 zd (λy h'=>h'=h/\RdW h y (Qp l)/\InM y x) (λK' hk=>zho hr hl λy hy hs=>hk y h (Hp.le_refl _) ⟨rfl,hy,hs⟩) λy h' _ ⟨e,hy,hs⟩=>by subst e;exact H y hy hs
theorem zcw(hr:RdW h x l)(hl:l.length<4611686018427387904)(H:∀y,RdW h y (Qp l)->InM y x->Ks y h):zc (F.Yf x) Ks h:=zm3 hr hl H
theorem z1w(hr:RdW h x l)(hl:l.length<4611686018427387904)(H:∀y,RdW h y (Qp l)->Ks y h):zc (F.zy x) Ks h:=
 zd (λy h'=>h'=h/\RdW h y (Qp l)) (λK' hk=>Zez hr hl λy hy=>hk y h (Hp.le_refl _) ⟨rfl,hy⟩) λy h' _ ⟨e,hy⟩=>by subst e;exact H y hy
theorem Ws(hr:RdW h x l)(hl:l.length<4611686018427387904)(H:∀y,RdW h y (Qp l)->Ks y h):zc (F.Yf x) Ks h:=
 zd (λy h'=>h'=h/\RdW h y (Qp l)) (λK' hk=>Zae hr hl λy hy=>hk y h (Hp.le_refl _) ⟨rfl,hy⟩) λy h' _ ⟨e,hy⟩=>by subst e;exact H y hy
theorem zy9{Kf:Sl->Hp->Prop}{h0:Hp}{a b:Sl}{la lb:List Nat}(ha:RdW h0 a la)(hb:RdW h0 b lb)(oa:okW la)(ob:okW lb)(hl:la.length+lb.length<=35184372088800)
 (ho:Yl h0 h x (Jr (la.length+lb.length) 0)) (H:∀h' l,Yl h0 h' x l->okW l->l.length=la.length+lb.length->vl l=vl la*vl lb->Kf x h') :
 zn (S:=Int×Unit) (λs4 k5 h3=>
  (ifP (decide (s4.1<(a.len:Int)))
  (zg a s4.1 1 λa6=>
  (ldL (.int .u32) a6 (λx7=>
  (zn (S:=Int×Int×Unit) (λs8 k9 h4=>
  (ifP (decide (s8.2.1<(b.len:Int)))
  (zg b s8.2.1 1 λa10=>
  (ldL (.int .u32) a10 (λx11=>
  (zg x (i64.wrap (s4.1+s8.2.1)) 1 λa12=>
  (ldL (.int .u32) a12 (λx13=>
  (zg x (i64.wrap (s4.1+s8.2.1)) 1 λa14=>
  (stP a14 [.int .u32 (u32.wrap ((u64.wrap (s8.1+(u64.wrap ((u64.wrap ((u64.wrap (x7))*(u64.wrap (x11))))+(u64.wrap (x13))))))))] (λh5=>
  (0<=(32:Int) /\
  (k9 (((u64.wrap (s8.1+(u64.wrap ((u64.wrap ((u64.wrap (x7))*(u64.wrap (x11))))+(u64.wrap (x13)))))):Int).fdiv (2 ^ (min (32:Int).toNat u64.bits)),(i64.wrap (s8.2.1+1)),()) h5))) h4))) h4))) h4))
  (zg x (i64.wrap (s4.1+(b.len:Int))) 1 λa15=>
  (stP a15 [.int .u32 (u32.wrap (s8.1))] (λh6=>
  (k5 ((i64.wrap (s4.1+1)),()) h6)) h4))))
  (0,0,()) h3)) h3))
  (Kf x h3)))
  (0,()) h:=by
 have hal:=ha.len;have hbl:=hb.len;refine Zp (λst h'=>∃(i:Nat) (l:List Nat),st=((i:Int),())/\i<=la.length/\Yl h0 h' x l/\okW l/\l.length=la.length+lb.length/\vl l=vl (la.take i)*vl lb/\∀j (hj:j<l.length),i+lb.length<=j->l[j]=0)
  (λst=>((la.length:Int)-st.1).toNat) ⟨0,_,rfl,Ga _,ho,z7w _,by simp,by rw[zyg];simp[vl],λj hj _=>by simp⟩ ?_
 rintro st h1 ⟨i,l,rfl,hi,ho1,okl,hll,hv,hz⟩;refine ze (λh2=>?_) (λh2=>?_)
 . simp only at h2;have hi':i<la.length:=by omega
   have hxi:=Qx oa hi';refine Z6 i (ha.le ho1.1) rfl hi' λaa haa=>⟨_,haa,?_⟩
   refine Zp (λst h'=>∃(k c:Nat) (l':List Nat),st=((c:Int),(k:Int),())/\k<=lb.length/\c<W/\Yl h0 h' x l'/\okW l'/\l'.length=la.length+lb.length /\
    vl l'+W ^ (i+k)*c=vl l+W ^ i*(la[i]*vl (lb.take k))/\∀j (hj:j<l'.length),i+lb.length<=j->l'[j]=0)
    (λst=>((lb.length:Int)-st.2.1).toNat) ⟨0,0,l,rfl,Ga _,by decide,ho1,okl,hll,by simp[vl],hz⟩ ?_
   rintro st h3 ⟨k,c,l',rfl,hk,hc,ho3,okl',hll',hv',hz'⟩;refine ze (λh4=>?_) (λh4=>?_)
   . simp only at h4;have hk':k<lb.length:=by omega
     have hyk:=Qx ob hk';have hik:i+k<l'.length:=by omega
     have hzk:=Qx okl' hik;have wik:i64.wrap ((i:Int)+(k:Int))=((i+k:Nat):Int):=by rw[w64 (by omega)];omega
     refine Z6 k (hb.le ho3.1) rfl hk' λa1 ha1=>⟨_,ha1,?_⟩
     simp only;rw[wik];refine Z6 (i+k) ho3.rdW rfl hik λa2 ha2=>⟨_,ha2,?_⟩
     simp only;rw[mac hc hxi hyk hzk];refine z0c (i+k) _ ho3 rfl hik (ze4 _) λh5 b5 _ _ _ ho5=>⟨by decide,?_⟩
     rw[zij];refine⟨⟨k+1,_,_,by rw[w64 (by omega)];rfl,by omega,Z9j hc hxi hyk hzk,ho5,Vn okl' (U2 _ Wz),by simp[hll'],?_,?_⟩,by rw[w64 (by omega)];omega⟩
     . have e1:=zb6 (l:=l') (k:=i+k) (v:=(c+(la[i]*lb[k]+l'[i+k])) % W) hik;have e2:=Pf (c+(la[i]*lb[k]+l'[i+k])) W;have e3:=Yi hk';rw[e3];generalize vl (l'.set (i+k) ((c+(la[i]*lb[k]+l'[i+k])) % W))=V at e1 |-
       generalize hr:(c+(la[i]*lb[k]+l'[i+k])) % W=r at *;generalize hq:(c+(la[i]*lb[k]+l'[i+k]))/W=q at *;generalize vl l'=V' at *;generalize vl l=V0 at *;generalize l'[i+k]=z at *;generalize la[i]=xx at *;generalize lb[k]=yy at *;generalize vl (lb.take k)=T at *;have p1:W ^ (i+(k+1))=W ^ (i+k)*W:=by rw[<-Pd,U6]
       have p2:W ^ (i+k)=W ^ i*W ^ k:=T1 ..;rw[p1];generalize W ^ (i+k)=P at *;subst p2;generalize W ^ i=Pi at *;generalize W ^ k=Pk at *
       grind
     . intro j hj hjl;rw[Gl]at hj;rw[Pp (by omega)];exact hz' j hj hjl
   . simp only at h4;have hk':k=lb.length:=by omega
     subst hk';have hil:i+lb.length<l'.length:=by omega
     have w1:i64.wrap ((i:Int)+(b.len:Int))=((i+lb.length:Nat):Int):=by rw[hbl,w64 (by omega)];omega
     simp only;rw[w1];refine z0c (i+lb.length) c ho3 rfl hil (by rw[ze4,Uj hc]) λh5 b5 _ _ _ ho5=>?_
     refine⟨⟨i+1,_,by rw[w64 (by omega)];rfl,by omega,ho5,Vn okl' hc,by simp[hll'],?_,?_⟩,by rw[w64 (by omega)];omega⟩
     . have e1:=zb6 (l:=l') (k:=i+lb.length) (v:=c) hil;rw[hz' _ hil (Ja _)]at e1;rw[Jd (Ja _)]at hv';rw[Yi hi',Js];rw[J4];omega
     . intro j hj hjl;rw[Gl]at hj;rw[Pp (by omega)];exact hz' j hj (by omega)
 . simp only at h2;have:i=la.length:=by omega
   subst this;rw[Jd (Ja _)]at hv;exact H h1 l ho1 okl hll hv
end
end Den
end

section
namespace Den
open Go Iv
theorem z79{α:Type}{G:(α->Hp->Prop)->Hp->Prop}{K:α->Hp->Prop}{h:Hp}(R:α->Prop)(H:∀K':α->Hp->Prop,(∀v,R v->K' v h)->G K' h)(k:∀v,R v->K v h):zc G K h:=
 zd (λv h'=>h'=h/\R v) (λK' hk=>H K' λv hv=>hk v h (Hp.le_refl _) ⟨rfl,hv⟩) λv h' _ ⟨e,hv⟩=>by subst e;exact k v hv
def za5(m n:Nat):Int:=if m<n then -1 else if n<m then 1 else 0
def sg(neg:Bool)(n:Nat):Int:=if neg=true then -(n:Int)else n
def NI(h:Hp)(x:TInt)(n:Int):Prop:=RdW h x.mag (dg n.natAbs)/\x.neg=decide (n<0)
theorem NI.le{h h':Hp}{x:TInt}{n:Int}(hx:NI h x n)(hl:h.le h'):NI h' x n:=⟨hx.1.le hl,hx.2⟩
theorem NI.zero{h:Hp}:NI h ⟨false,zf⟩ 0:=⟨by rw[show(0:Int).natAbs=0 from rfl,qz];exact RdW.nil,by simp⟩
theorem zm5:∀{a b:List Nat} (i:Nat),okW a->okW b->a.length=b.length->(hi:i<a.length)->(hi':i<b.length)->a.drop (i+1)=b.drop (i+1)->a[i]<b[i]->vl a<vl b
 | [],_,i,_,_,_,hi,_,_,_=>by simp at hi
 | x :: r,[],i,_,_,hl,_,_,_,_=>by simp at hl
 | x :: r,y :: t,0,ha,hb,hl,hi,hi',hd,hlt=>by
   simp only[Gi,List.drop_succ_cons,Tw]at hd;subst hd;simp only[List.getElem_cons_zero]at hlt;simp only[vl];omega
 | x :: r,y :: t,i+1,ha,hb,hl,hi,hi',hd,hlt=>by
   obtain⟨hx,hr⟩:=zj5 ha;obtain⟨hy,ht⟩:=zj5 hb;have:=zm5 (a:=r) (b:=t) i hr ht (by simpa using hl) (by simpa using hi) (by simpa using hi') (by simpa using hd) (by simpa using hlt);simp only[vl];have h2:W*(vl r+1)<=W*vl t:=G4 _ this;rw[Gu]at h2;omega
theorem zdc{m n:Nat}(h:(dg m).length<(dg n).length):m<n:=by
 rcases Jo m n with h1 | h1
 . exact h1
 . exfalso;have h2:=Y6.1 (Ja (dg m).length);have h3:(dg n).length<=(dg m).length:=Y6.2 (Gb h1 h2);omega
section
variable {h : Hp} {x y : Sl} {l m : List Nat} {Ks : Sl → Hp → Prop} {Ki : Int → Hp → Prop} {Kb : Bool → Hp → Prop} {KI : TInt → Hp → Prop}
theorem zaz(neg:Bool)(n:Nat):(sg neg n).natAbs=n:=by unfold sg;split<;>simp
theorem Z2a{neg:Bool}(hr:RdW h x l)(ok:okW l)(hl:l.length<4611686018427387904)(H:∀y,NI h y (sg neg (vl l))->KI y h):F.y9 neg x KI h:=by
 unfold F.y9;refine z1w hr hl λy hy=>?_
 rw[Qn ok]at hy;have hyl:=hy.len;refine zu (λh1=>?_) (λh1=>?_)
 . have h0:vl l=0:=z0v.1 (Ud.1 (by omega));refine H _ ?_;rw[h0];have:sg neg 0=0:=by unfold sg;split<;>rfl
   rw[this];exact NI.zero
 . refine H _ ⟨by rw[zaz];exact hy,?_⟩;have hpos:vl l≠0:=λh0=>by rw[h0,qz]at hyl;exact h1 (by rw[hyl];rfl)
   unfold sg;cases neg
   . simp
   . simp;omega
theorem zxc{neg:Bool}(hr:RdW h x l)(ok:okW l)(hl:l.length<4611686018427387904)(H:∀y,NI h y (sg neg (vl l))->KI y h):F.Y4 neg x KI h:=by
 unfold F.Y4;refine Ws hr hl λy hy=>?_
 rw[Qn ok]at hy;have hyl:=hy.len;have hz:(vl l=0)↔(dg (vl l)).length=0:=by rw[Ud,z0v]
 refine zi (λh1=>?_) (λh1=>?_)
 . refine H _ ⟨by rw[zaz];exact hy,?_⟩;rw[h1];unfold sg;simp only[if_true];congr 1;apply propext;omega
 . refine H _ ⟨by rw[zaz];exact hy,?_⟩;rw[h1];unfold sg;simp
theorem z8x{neg:Bool}(hr:RdW h x l)(ok:okW l)(hl:l.length<4611686018427387904)(H:∀y,NI h y (sg neg (vl l))->KI y h):zc (F.y9 neg x) KI h:=
 z79 _ (λK'=>Z2a hr ok hl) H
theorem zq7{neg:Bool}(hr:RdW h x l)(ok:okW l)(hl:l.length<4611686018427387904)(H:∀y,NI h y (sg neg (vl l))->KI y h):zc (F.Y4 neg x) KI h:=
 z79 _ (λK'=>zxc hr ok hl) H
theorem zei(hr:RdW h x l)(hl:l.length<=35184372088800)(H:∀y h',h.le h'->RdW h' y l->Ks y h'):zc (F.Zi x) Ks h:=by
 refine zd (λy h'=>RdW h' y l) (λK' hk=>?_) H;unfold F.Zi;have hlen:=hr.len;refine zi (λh1=>?_) (λh1=>?_)
 . have hn:x.a=none:=by cases hx:x.a with | none=>rfl | some a=>rw[hx]at h1;cases h1
   have:l=[]:=by
    have h2:=hr.1.2;rw[hn]at h2;simp only[yc]at h2;split at h2
    . rename_i h3;rw[z9f]at h3;exact Ud.1 h3
    . cases h2
   subst this;exact hk _ _ (Hp.le_refl _) RdW.nil
 . refine z3s (n:=0) (size:=1) rfl λb h1 hb ho=>?_
   have hr1:=hr.le ho.1;refine⟨wc l,?_,?_⟩
   . have:=hr1.1.2;rw[z9f]at this;rw[hlen,J7];exact this
   . refine z54 ho (n:=x.len) (by rw[z9f];omega) rfl ?_ (by simp only;omega) (by simp only;omega) λy h2 hy _=>hk _ _ hy.1 ⟨hy.rd,hy.2.2.1⟩
     simp[wc,Value.leaf]
theorem zs4{n:Nat}(hn:n<18446744073709551616)(H:∀y h',h.le h'->RdW h' y (dg n)->Ks y h'):F.qa n Ks h:=by
 unfold F.qa;refine⟨by decide,?_⟩;rw[ze4,zij,ze4];have hq:n/W<W:=by unfold W;omega
 rw[Uj hq];refine z3s (n:=2) (size:=1) rfl λb h1 hb ho=>?_
 have ho':Yl h h1 ⟨some ⟨b,0,none⟩,2,2⟩ [n % W,n/W]:=ho;have ok:okW [n % W,n/W]:=λd hd=>by
  simp only[Ju,List.not_mem_nil,or_false]at hd;rcases hd with rfl | rfl
  . exact U2 _ Wz
  . exact hq
 refine z1w ho'.rdW (by simp) λy hy=>?_
 rw[Qn ok]at hy;have:vl [n % W,n/W]=n:=by simp only[vl,T3,Uy];exact Pf n W
 rw[this]at hy;exact H _ _ ho.1 hy
theorem z2e{n:Nat}{i:Int}(hi:i=n)(hn:n<18446744073709551616)(H:∀y h',h.le h'->RdW h' y (dg n)->Ks y h'):zc (F.qa i) Ks h:=by
 subst hi;exact zd _ (λK'=>zs4 hn) H
theorem Zcy{n:Nat}(hn:n<18446744073709551616)(H:∀y h',h.le h'->RdW h' y (dg n)->Ks y h'):F.Ve n Ks h:=by
 unfold F.Ve;refine⟨by decide,?_⟩;rw[ze4,zij,ze4];have hq:n/W<W:=by unfold W;omega
 rw[Uj hq];refine z3s (n:=2) (size:=1) rfl λb h1 hb ho=>?_
 have ho':Yl h h1 ⟨some ⟨b,0,none⟩,2,2⟩ [n % W,n/W]:=ho;have ok:okW [n % W,n/W]:=λd hd=>by
  simp only[Ju,List.not_mem_nil,or_false]at hd;rcases hd with rfl | rfl
  . exact U2 _ Wz
  . exact hq
 refine Ws ho'.rdW (by simp) λy hy=>?_
 rw[Qn ok]at hy;have:vl [n % W,n/W]=n:=by simp only[vl,T3,Uy];exact Pf n W
 rw[this]at hy;exact H _ _ ho.1 hy
theorem z8c{n:Nat}{i:Int}(hi:i=n)(hn:n<18446744073709551616)(H:∀y h',h.le h'->RdW h' y (dg n)->Ks y h'):zc (F.Ve i) Ks h:=by
 subst hi;exact zd _ (λK'=>Zcy hn) H
theorem zsp{a b:Nat}(ha:a<W)(hb:b<W):qu .or .u64 (u64.wrap ((a:Int)*2 ^ (min (32:Int).toNat u64.bits))) (u64.wrap (b:Int))=((a*W+b:Nat):Int):=by
 have e1:((a:Int)*2 ^ (min (32:Int).toNat u64.bits))=((a*W:Nat):Int):=by
  have:(2:Int) ^ (min (32:Int).toNat u64.bits)=((W:Nat):Int):=by decide
  rw[this];simp
 unfold W at *;rw[e1,z3i (n:=a*4294967296) (by omega),z3i (n:=b) (by omega)];unfold qu;simp only[G6];have h1:(BitVec.ofInt 64 ((a*4294967296:Nat):Int) ||| BitVec.ofInt 64 (b:Int)).toNat=a*4294967296+b:=by
  rw[P5,P5,BitVec.toNat_or,P9,P9,Uj (by omega),Uj (by omega)];have:=Nat.two_pow_add_eq_or_of_lt (i:=32) (b:=b) (by omega) a;rw[J8 (2 ^ 32) a]at this;exact this.symm
 exact(congrArg (λz:Nat=>u64.wrap (z:Int)) h1).trans (z3i (by omega))
theorem Z2k(hr:RdW h x l)(ok:okW l)(hl:l.length<=2)(H:∀h',h.le h'->Ki (vl l:Int) h'):F.Xo x Ki h:=by
 unfold F.Xo;refine zd (λ(a:Addr) h'=>h'.cell a=some (.slice x.a x.len x.cap)) (λK' hk=>?_) λa h1 l1 ha=>?_
 . unfold F.Yc;intro b e hb;refine hk _ _ (Hp.le_ins hb) ?_;unfold Hp.cell;simp[Hp.ins_same]
 . have hlen:=hr.len;refine⟨x,λk s h'=>h1.le h'/\k<=l.length/\s=((((vl (l.drop k):Nat):Int),()),()),by omega,⟨Hp.le_refl _,by omega,?_⟩,λi s h' hI=>?_,λi s h' hi hI=>?_,λs h' hI=>?_⟩
   . rw[hlen,Uu (Ja _)];rfl
   . exact Hp.cell_le hI.1 ha
   . obtain⟨hl',hk,rfl⟩:=hI;have hi':i<l.length:=by omega
     have hr':=(hr.le l1).le hl';have h2:=hr'.1.2;cases hxa:x.a with
     | none=>
       rw[hxa]at h2;simp only[yc]at h2;split at h2
       . rename_i h3;rw[z9f]at h3;omega
       . cases h2
     | some ad=>
       rw[hxa]at h2;simp only[yc]at h2;have hxi:=Qx ok hi';refine⟨ad,(l[i]:Int),rfl,λj u hj=>?_,by decide,hl',by omega,?_⟩
       . have hj0:j=0:=by
          rcases Tc j with h3 | h3
          . exact h3
          . exfalso;have:((STy.leaf (.int .u32)).cells (l[i]:Int))[j]?=none:=by
             apply J5;simp only[STy.cells,List.length_singleton];omega
            rw[this]at hj;cases hj
         subst hj0;simp only[STy.cells,List.getElem?_cons_zero,Jm]at hj;subst hj;refine z5q h2 _ _ ?_;simp[wc,STy.size,hi',Lf.up]
       . have hd:l.drop i=l[i] :: l.drop (i+1):=Ux hi';rw[hd];simp only[vl];have hsm:vl (l.drop (i+1))<W:=by
          have:=zbe (zaj ok (i+1));rw[Gg]at this;refine Tb this ?_;have h3:l.length-(i+1)<=1:=by omega
          exact Jt (Th Wz h3) (by simp)
         rw[zsp hsm hxi];congr 2;congr 1;rw[J8];omega
   . obtain⟨hl',hk,rfl⟩:=hI;exact H _ (Hp.le_trans l1 hl')
theorem z92(hr:RdW h x l)(ok:okW l)(hl:l.length<=2)(H:∀h',h.le h'->Ki (vl l:Int) h'):zc (F.Xo x) Ki h:=
 zd (λv _=>v=(vl l:Int)) (λK' hk=>Z2k hr ok hl λh' hl'=>hk _ _ hl' rfl) λv h' hl' hv=>by subst hv;exact H h' hl'
theorem Zan(hr:RdW h x l)(ok:okW l)(hl:l.length<=2)(H:Ki (vl l:Int) h):F.z3b x Ki h:=by
 unfold F.z3b;have hlen:=hr.len;refine Zp (λst h'=>h'=h/\∃k:Nat,k<=l.length/\st=(((vl (l.drop k):Nat):Int),(k:Int)-1,())) (λst=>(st.2.1+1).toNat)
  ⟨rfl,l.length,Ja _,by rw[Uu (Ja _),hlen,w64 (by omega)];rfl⟩ ?_
 rintro st h' ⟨rfl,k,hk,rfl⟩;refine ze (λh1=>?_) (λh1=>?_)
 . simp only at h1;obtain⟨i,rfl⟩:∃i,k=i+1:=⟨k-1,by omega⟩;have hi':i<l.length:=by omega
   have hxi:=Qx ok hi';refine⟨by decide,Z6 i hr (by simp only;omega) hi' λa ha=>⟨_,ha,?_⟩⟩;have hsm:vl (l.drop (i+1))<W:=by
    have:=zbe (zaj ok (i+1));rw[Gg]at this;refine Tb this ?_;have h3:l.length-(i+1)<=1:=by omega
    exact Jt (Th Wz h3) (by simp)
   simp only;rw[zsp hsm hxi];refine⟨⟨by trivial,i,by omega,?_⟩,by rw[w64 (by omega)];omega⟩;rw[Ux hi',w64 (by omega)];simp only[vl];congr 1
   . congr 1;rw[J8];omega
   . congr 1;omega
 . simp only at h1;obtain rfl:k=0:=by omega
   exact H
theorem zlv(hr:RdW h x l)(ok:okW l)(hl:l.length<=2)(H:Ki (vl l:Int) h):zc (F.z3b x) Ki h:=zx _ (λK'=>Zan hr ok hl) H
theorem z34{a b:Int}(H:Ki (if a<b then -1 else if b<a then 1 else 0) h):zc (F.Q8 a b) Ki h:=by
 refine zx _ (λK' hk=>?_) H;unfold F.Q8;have e:∀z:Int,(z != z)=false:=λz=>by simp
 refine zx false (λK' hk=>by unfold F.z2a;rw[e];exact hk) (zx false (λK' hk=>by unfold F.z2a;rw[e];exact hk) ?_);refine zr rfl (zr rfl (ze (λh1=>?_) (λh1=>ze (λh2=>?_) (λh2=>?_))))
 . rw[if_pos h1]at hk;exact hk
 . rw[if_neg h1,if_pos h2]at hk;exact hk
 . rw[if_neg h1,if_neg h2]at hk;exact hk
theorem zrh{a b:Int}(H:Ki (if a<b then -1 else if b<a then 1 else 0) h):zc (F.V8 a b) Ki h:=by
 refine zx _ (λK' hk=>?_) H;unfold F.V8;have e:∀z:Int,(z != z)=false:=λz=>by simp
 refine zx false (λK' hk=>by unfold F.Vu;rw[e];exact hk) (zx false (λK' hk=>by unfold F.Vu;rw[e];exact hk) ?_);refine zr rfl (zr rfl (ze (λh1=>?_) (λh1=>ze (λh2=>?_) (λh2=>?_))))
 . rw[if_pos h1]at hk;exact hk
 . rw[if_neg h1,if_pos h2]at hk;exact hk
 . rw[if_neg h1,if_neg h2]at hk;exact hk
theorem zv1{m n:Nat}(hx:RdW h x (dg m))(hy:RdW h y (dg n))(hl:(dg m).length<4611686018427387904)(hl2:(dg n).length<4611686018427387904)(H:Ki (za5 m n) h):F.Xx x y Ki h:=by
 unfold F.Xx;have lx:=hx.len;have ly:=hy.len;refine Z2 (λh1=>?_) (λh1=>?_)
 . refine z34 ?_;unfold za5 at H;by_cases h2:(dg m).length<(dg n).length
   . rw[if_pos (zdc h2)]at H;rw[if_pos (by omega)];exact H
   . have h3:(dg n).length<(dg m).length:=by omega
     have h4:=zdc h3;rw[if_neg (by omega),if_pos h4]at H;rw[if_neg (by omega),if_pos (by omega)];exact H
 . have hll:(dg m).length=(dg n).length:=by omega
   refine Zp (λst h'=>h'=h/\∃k:Nat,st=((k:Int)-1,())/\k<=(dg m).length/\(dg m).drop k=(dg n).drop k) (λst=>(st.1+1).toNat)
    ⟨rfl,(dg m).length,by rw[lx,w64 (by omega)],Ja _,by rw[Uu (Ja _),Uu (by omega)]⟩ ?_
   rintro st h' ⟨rfl,k,rfl,hk,hd⟩;refine ze (λh2=>?_) (λh2=>?_)
   . simp only at h2;obtain⟨i,rfl⟩:∃i,k=i+1:=⟨k-1,by omega⟩;have hi:i<(dg m).length:=by omega
     have hi':i<(dg n).length:=by omega
     refine Z6 i hx (by simp only;omega) hi λa ha=>⟨_,ha,?_⟩
     refine Z6 i hy (by simp only;omega) hi' λa ha=>⟨_,ha,?_⟩
     refine Z2 (λh3=>?_) (λh3=>?_)
     . refine Z6 i hx (by simp only;omega) hi λa ha=>⟨_,ha,?_⟩
       refine Z6 i hy (by simp only;omega) hi' λa ha=>⟨_,ha,?_⟩
       refine zrh ?_;unfold za5 at H;by_cases h4:(dg m)[i]<(dg n)[i]
       . have:=zm5 i (Z5 m) (Z5 n) hll hi hi' hd h4;rw[Zt,Zt]at this;rw[if_pos this]at H;rw[if_pos (by omega)];exact H
       . have h5:(dg n)[i]<(dg m)[i]:=by omega
         have:=zm5 i (Z5 n) (Z5 m) hll.symm hi' hi hd.symm h5;rw[Zt,Zt]at this;rw[if_neg (by omega),if_pos this]at H;rw[if_neg (by omega),if_pos (by omega)];exact H
     . refine⟨⟨rfl,i,by simp only;rw[w64 (by omega)];congr 1;omega,by omega,?_⟩,by simp only;rw[w64 (by omega)];omega⟩;rw[Ux hi,Ux hi',hd];congr 1;omega
   . simp only at h2;obtain rfl:k=0:=by omega
     simp only[Tw]at hd;have:m=n:=by rw[<-Zt m,<-Zt n,hd]
     subst this;unfold za5 at H;rw[if_neg (Pz _),if_neg (Pz _)]at H;exact H
theorem za8{m n:Nat}(hx:RdW h x (dg m))(hy:RdW h y (dg n))(hl:(dg m).length<4611686018427387904)(hl2:(dg n).length<4611686018427387904)(H:Ki (za5 m n) h):zc (F.Xx x y) Ki h:=
 zx _ (λK'=>zv1 hx hy hl hl2) H
theorem zt3{m n:Nat}(hx:RdW h x (dg m))(hy:RdW h y (dg n))(hl:(dg m).length<4611686018427387904)(hl2:(dg n).length<4611686018427387904)(H:Ki (za5 m n) h):F.Wd x y Ki h:=by
 unfold F.Wd;have lx:=hx.len;have ly:=hy.len;refine Z2 (λh1=>?_) (λh1=>?_)
 . unfold za5 at H;refine ze (λh2=>?_) (λh2=>?_)
   . have h2':=Int.ofNat_lt.1 h2;rw[if_pos (zdc (by omega))]at H;exact H
   . have h2':¬x.len<y.len:=λhh=>h2 (Int.ofNat_lt.2 hh)
     have h3:(dg n).length<(dg m).length:=by omega
     have h4:=zdc h3;rw[if_neg (by omega),if_pos h4]at H;exact H
 . have hll:(dg m).length=(dg n).length:=by omega
   refine Zp (λst h'=>h'=h/\∃k:Nat,st=((k:Int)-1,())/\k<=(dg m).length/\(dg m).drop k=(dg n).drop k) (λst=>(st.1+1).toNat)
    ⟨rfl,(dg m).length,by rw[lx,w64 (by omega)],Ja _,by rw[Uu (Ja _),Uu (by omega)]⟩ ?_
   rintro st h' ⟨rfl,k,rfl,hk,hd⟩;refine ze (λh2=>?_) (λh2=>?_)
   . simp only at h2;obtain⟨i,rfl⟩:∃i,k=i+1:=⟨k-1,by omega⟩;have hi:i<(dg m).length:=by omega
     have hi':i<(dg n).length:=by omega
     refine Z6 i hx (by simp only;omega) hi λa ha=>⟨_,ha,?_⟩
     refine Z6 i hy (by simp only;omega) hi' λa ha=>⟨_,ha,?_⟩
     unfold za5 at H;refine ze (λh3=>?_) (λh3=>?_)
     . have:=zm5 i (Z5 m) (Z5 n) hll hi hi' hd (Int.ofNat_lt.1 h3);rw[Zt,Zt]at this;rw[if_pos this]at H;exact H
     . refine Z6 i hx (by simp only;omega) hi λa ha=>⟨_,ha,?_⟩
       refine Z6 i hy (by simp only;omega) hi' λa ha=>⟨_,ha,?_⟩
       refine ze (λh4=>?_) (λh4=>?_)
       . have:=zm5 i (Z5 n) (Z5 m) hll.symm hi' hi hd.symm (Int.ofNat_lt.1 h4);rw[Zt,Zt]at this;rw[if_neg (by omega),if_pos this]at H;exact H
       . have h3':¬(dg m)[i]<(dg n)[i]:=λhh=>h3 (Int.ofNat_lt.2 hh)
         have h4':¬(dg n)[i]<(dg m)[i]:=λhh=>h4 (Int.ofNat_lt.2 hh)
         refine⟨⟨rfl,i,by simp only;rw[w64 (by omega)];congr 1;omega,by omega,?_⟩,by simp only;rw[w64 (by omega)];omega⟩;rw[Ux hi,Ux hi',hd];congr 1;omega
   . simp only at h2;obtain rfl:k=0:=by omega
     simp only[Tw]at hd;have:m=n:=by rw[<-Zt m,<-Zt n,hd]
     subst this;unfold za5 at H;rw[if_neg (Pz _),if_neg (Pz _)]at H;exact H
theorem z5h{m n:Nat}(hx:RdW h x (dg m))(hy:RdW h y (dg n))(hl:(dg m).length<4611686018427387904)(hl2:(dg n).length<4611686018427387904)(H:Ki (za5 m n) h):zc (F.Wd x y) Ki h:=
 zx _ (λK'=>zt3 hx hy hl hl2) H
end
end Den
end

section
namespace Den
open Go Iv
theorem zbg(n:Int):u64.wrap n=n % 18446744073709551616:=by simp[Pe,G0,G6]
theorem zo9(n:Int):u32.wrap n=n % 4294967296:=by simp[Pe,G0,G6]
theorem Zdu(n:Int):n.fdiv (2 ^ (min (63:Int).toNat u64.bits))=n/9223372036854775808:=by
 have e:(2:Int) ^ (min (63:Int).toNat u64.bits)=9223372036854775808:=by decide
 rw[e,Int.fdiv_eq_ediv_of_nonneg _ (by decide)]
theorem Zq0(n:Int):n.fdiv (2 ^ (min (32:Int).toNat u64.bits))=n/4294967296:=by
 have e:(2:Int) ^ (min (32:Int).toNat u64.bits)=4294967296:=by decide
 rw[e,Int.fdiv_eq_ediv_of_nonneg _ (by decide)]
theorem Zq9{x c y:Nat}(hx:x<W)(hc:c<=1)(hy:y<W):∃r b:Nat,r<W/\b<=1/\x+W*b=r+c+y /\
 u32.wrap (u64.wrap (u64.wrap (u64.wrap (x:Int)-(c:Int))-u64.wrap (y:Int)))=(r:Int) /\
 (u64.wrap (u64.wrap (u64.wrap (x:Int)-(c:Int))-u64.wrap (y:Int))).fdiv (2 ^ (min (63:Int).toNat u64.bits))=(b:Int):=by
 unfold W at *;rw[Zdu];simp only[zbg,zo9];by_cases h:c+y<=x
 . exact⟨x-c-y,0,by omega,by omega,by omega,by omega,by omega⟩
 . exact⟨x+4294967296-c-y,1,by omega,by omega,by omega,by omega,by omega⟩
theorem sub64'{x c:Nat}(hx:x<W)(hc:c<=1):∃r b:Nat,r<W/\b<=1/\x+W*b=r+c+0 /\
 u32.wrap (u64.wrap (u64.wrap (x:Int)-(c:Int)))=(r:Int) /\
 (u64.wrap (u64.wrap (x:Int)-(c:Int))).fdiv (2 ^ (min (63:Int).toNat u64.bits))=(b:Int):=by
 unfold W at *;rw[Zdu];simp only[zbg,zo9];by_cases h:c<=x
 . exact⟨x-c,0,by omega,by omega,by omega,by omega,by omega⟩
 . exact⟨x+4294967296-c,1,by omega,by omega,by omega,by omega,by omega⟩
theorem Zq8{x c y:Nat}(hx:x<W)(hc:c<=1)(hy:y<W):∃r b:Nat,r<W/\b<=1/\x+W*b=r+c+y /\
 u32.wrap (u64.wrap (u64.wrap (u64.wrap (u64.wrap (x:Int)+4294967296)-(y:Int))-(c:Int)))=(r:Int) /\
 u64.wrap (1-(u64.wrap (u64.wrap (u64.wrap (u64.wrap (x:Int)+4294967296)-(y:Int))-(c:Int))).fdiv (2 ^ (min (32:Int).toNat u64.bits)))=(b:Int):=by
 unfold W at *;rw[Zq0];simp only[zbg,zo9];by_cases h:c+y<=x
 . exact⟨x-c-y,0,by omega,by omega,by omega,by omega,by omega⟩
 . exact⟨x+4294967296-c-y,1,by omega,by omega,by omega,by omega,by omega⟩
def z4d(h:Hp)(z:Sl):Prop:=∀a,z.a=some a->h a.block=none
theorem z4d.of{h h':Hp}{w z:Sl}{cs:List Value}(ho:Own h h' 1 w cs)(hs:InM z w):z4d h z:=λa ha=>by
 obtain⟨a',h1,h2⟩:=hs a ha;have h4:=ho.2.2.2;rw[h1]at h4;rw[h2];exact h4.2.2.1
theorem Hp.none_of_le{h h':Hp}{b:Nat}(hl:h.le h')(hb:h' b=none):h b=none:=by
 cases hk:h b with
 | none=>rfl
 | some B=>rw[hl _ _ hk]at hb;cases hb
theorem z4d.le{h h':Hp}{z:Sl}(hf:z4d h' z)(hl:h.le h'):z4d h z:=λa ha=>Hp.none_of_le hl (hf a ha)
theorem z4d.ne{h:Hp}{z:Sl}{b:Nat}(hf:z4d h z)(hb:h b≠none):∀a,z.a=some a->a.block≠b:=λa ha hh=>hb (by rw[<-hh];exact hf a ha)
theorem Va{l:List Nat}(hl:okW l)(i:Nat):l.getD i 0<W:=by
 rw[Jf];rcases Jo i l.length with h | h
 . rw[Jc h];exact Qx hl h
 . rw[J5 h];exact Wz
theorem z3n{l:List Nat}{i:Nat}(hi:i<l.length):l.getD i 0=l[i]:=by
 rw[Jf,Jc hi];rfl
theorem z1h{l:List Nat}{i:Nat}(hi:l.length<=i):l.getD i 0=0:=by
 rw[Jf,J5 hi];rfl
theorem z69(l:List Nat)(i:Nat):vl (l.take (i+1))=vl (l.take i)+W ^ i*l.getD i 0:=by
 rcases Jo i l.length with h | h
 . rw[Yi h,z3n h]
 . rw[z1h h,Jd (by omega),Jd h];simp
theorem V7{r:List Nat}{k v:Nat}(hk:k<r.length):vl ((r.set k v).take (k+1))=vl (r.take k)+W ^ k*v:=by
 rw[Yi (by simpa using hk),Pv];congr 2;apply List.ext_getElem
 . simp
 . intro i h1 h2;simp only[Jl]at h1 h2;simp only[List.getElem_take];rw[Pp (by omega)]
section
variable {h : Hp} {x y : Sl} {l m : List Nat} {Ks : Sl → Hp → Prop} {Ki : Int → Hp → Prop} {Kb : Bool → Hp → Prop} {KI : TInt → Hp → Prop}
theorem Zee(hx:RdW h x l)(hy:RdW h y m)(ol:okW l)(om:okW m)(hl:l.length<=17592186044400)(hm:m.length<=17592186044400)
 (H:∀z h' r,h.le h'->RdW h' z r->okW r->vl r=vl l+vl m->r.length<=l.length+m.length+1->Ks z h'):F.z1i x y Ks h:=by
 unfold F.z1i;have lx:=hx.len;have ly:=hy.len;refine zh (λst h'=>h'=h/\∃p q,RdW h st.1 p/\RdW h st.2.1 q/\okW p/\okW q/\q.length<=p.length/\p.length+q.length=l.length+m.length/\vl p+vl q=vl l+vl m) ?_ ?_
 . rintro⟨sx,sy,_⟩ h0 ⟨rfl,p,q,hp,hq,op,oq,hqp,hlen,hv⟩;simp only at hp hq |-
   have lp:=hp.len;have lq:=hq.len;refine z1o 0 (p.length+1) rfl (by rw[lp,w64 (by omega)];omega) (by omega) (by omega) λw h1 hw hw2=>?_
   refine Zp (λst h'=>∃(w:Sl) (c i:Nat) (r:List Nat),st=(w,(c:Int),(i:Int),())/\i<=p.length/\c<=1/\Yl h0 h' w r/\okW r/\r.length=i/\vl r+W ^ i*c=vl (p.take i)+vl (q.take i))
    (λst=>((p.length:Int)-st.2.2.1).toNat) ⟨w,0,0,[],rfl,Ga _,by omega,hw2,Zju,rfl,by simp[vl]⟩ ?_
   rintro st h2 ⟨w,c,i,r,rfl,hi,hc,ho,okr,hrl,hv2⟩;refine ze (λh3=>?_) (λh3=>?_)
   . have hi':i<p.length:=by have:(i:Int)<(sx.len:Int):=h3;omega
     have hpx:=Qx op hi';have hqx:=Va oq i;refine Z6 i (hp.le ho.1) rfl hi' λa ha=>⟨_,ha,?_⟩
     refine zh (λs h4=>h4=h2/\s=(((c+p[i]+q.getD i 0:Nat):Int),())) ?_ ?_
     . rintro _ h4 ⟨rfl,rfl⟩;simp only;refine zr6 _ ho (ze4 _) (by omega) λw5 h5 ho5=>⟨by decide,?_⟩
       rw[zij];refine⟨⟨w5,_,i+1,_,by rw[w64 (by omega)];rfl,by omega,?_,ho5,znn okr (λd hd=>?_),by simp[hrl],?_⟩,by rw[w64 (by omega)];omega⟩
       . unfold W at *;omega
       . rw[J6.1 hd];exact U2 _ Wz
       . rw[za2,Yi hi',z69,hrl];have e2:=Pf (c+p[i]+q.getD i 0) W;simp only[vl,T3,Uy,U6];generalize (c+p[i]+q.getD i 0) % W=rr at *;generalize (c+p[i]+q.getD i 0)/W=qq at *;generalize W ^ i=P at *;generalize p[i]=pp at *;generalize q.getD i 0=q0 at *;generalize vl (p.take i)=A at *;generalize vl (q.take i)=B at *;generalize vl r=R at *;clear H
         grind
     . refine ze (λh4=>?_) (λh4=>?_)
       . have hi2:i<q.length:=by have:(i:Int)<(sy.len:Int):=h4;omega
         refine Z6 i (hq.le ho.1) rfl hi2 λa2 ha2=>⟨_,ha2,?_⟩
         refine⟨rfl,?_⟩;rw[z3n hi2]at hqx |-
         simp only;unfold W at *;congr 1;simp only[zbg];omega
       . have hi2:q.length<=i:=by have:¬(i:Int)<(sy.len:Int):=h4;omega
         refine⟨rfl,?_⟩;rw[z1h hi2];simp only;unfold W at *;congr 1;simp only[zbg];omega
   . have hi':i=p.length:=by have:¬(i:Int)<(sx.len:Int):=h3;omega
     rw[Jd (by omega),Jd (by omega)]at hv2;refine ze (λh4=>?_) (λh4=>?_)
     . have hc1:c=1:=by have:(c:Int)>0:=h4;omega
       subst hc1;refine zr6 1 ho (by simp only;decide) (by omega) λw5 h5 ho5=>?_
       refine H _ _ _ ho5.1 ho5.rdW (znn okr (λd hd=>by rw[J6.1 hd];decide)) ?_ (by simp;omega);rw[za2,hrl];simp only[vl,T3,Uy];omega
     . have hc0:c=0:=by have:¬(c:Int)>0:=h4;omega
       subst hc0;exact H _ _ _ ho.1 ho.rdW okr (by omega) (by omega)
 . refine ze (λh1=>?_) (λh1=>?_)
   . exact⟨rfl,m,l,hy,hx,om,ol,by omega,by omega,by omega⟩
   . exact⟨rfl,l,m,hx,hy,ol,om,by omega,by omega,by omega⟩
theorem znr(hx:RdW h x l)(hy:RdW h y m)(ol:okW l)(om:okW m)(hl:l.length<=17592186044400)(hm:m.length<=17592186044400)
 (H:∀z h' r,h.le h'->RdW h' z r->okW r->vl r=vl l+vl m->r.length<=l.length+m.length+1->Ks z h'):zc (F.z1i x y) Ks h:=
 zd (λz h'=>∃r,RdW h' z r/\okW r/\vl r=vl l+vl m/\r.length<=l.length+m.length+1)
  (λK' hk=>Zee hx hy ol om hl hm λz h' r h1 h2 h3 h4 h5=>hk _ _ h1 ⟨r,h2,h3,h4,h5⟩) λz h' h1 ⟨r,h2,h3,h4,h5⟩=>H z h' r h1 h2 h3 h4 h5
theorem Zad(hx:RdW h x l)(hy:RdW h y m)(ol:okW l)(om:okW m)(hl:l.length<=17592186044400)(hm:m.length<=17592186044400)
 (H:∀z h',h.le h'->RdW h' z (dg (vl l+vl m))->Ks z h'):F.z80 x y Ks h:=by
 unfold F.z80;have lx:=hx.len;have ly:=hy.len;refine zh (λst h'=>h'=h/\∃p q,RdW h st.1 p/\RdW h st.2.1 q/\okW p/\okW q/\q.length<=p.length/\p.length+q.length=l.length+m.length/\vl p+vl q=vl l+vl m) ?_ ?_
 . rintro⟨sx,sy,_⟩ h0 ⟨rfl,p,q,hp,hq,op,oq,hqp,hlen,hv⟩;simp only at hp hq |-
   have lp:=hp.len;have lq:=hq.len;refine z1o (p.length+1) (p.length+1) (by rw[lp,w64 (by omega)];omega) (by rw[lp,w64 (by omega)];omega) (by omega) (by omega) λw h1 hw hw2=>?_
   refine Zp (λst h'=>∃(c i:Nat) (r:List Nat),st=((c:Int),(i:Int),())/\i<=p.length/\c<=1/\Yl h0 h' w r/\okW r/\r.length=p.length+1/\vl (r.take i)+W ^ i*c=vl (p.take i)+vl (q.take i))
    (λst=>((p.length:Int)-st.2.1).toNat) ⟨0,0,_,rfl,Ga _,by omega,hw2,z7w _,by simp,by simp[vl]⟩ ?_
   rintro st h2 ⟨c,i,r,rfl,hi,hc,ho,okr,hrl,hv2⟩;refine ze (λh3=>?_) (λh3=>?_)
   . have hi':i<p.length:=by have:(i:Int)<(sx.len:Int):=h3;omega
     have hpx:=Qx op hi';have hqx:=Va oq i;refine Z6 i (hp.le ho.1) rfl hi' λa ha=>⟨_,ha,?_⟩
     refine zh (λs h4=>h4=h2/\s=(((c+p[i]+q.getD i 0:Nat):Int),())) ?_ ?_
     . rintro _ h4 ⟨rfl,rfl⟩;simp only;refine z0c i _ ho rfl (by omega) (ze4 _) λh5 b5 _ _ _ ho5=>⟨by decide,?_⟩
       rw[zij];refine⟨⟨_,i+1,_,by rw[w64 (by omega)];rfl,by omega,?_,ho5,Vn okr (U2 _ Wz),by simp[hrl],?_⟩,by rw[w64 (by omega)];omega⟩
       . unfold W at *;omega
       . rw[V7 (by omega),Yi hi',z69];have e2:=Pf (c+p[i]+q.getD i 0) W;simp only[U6];generalize (c+p[i]+q.getD i 0) % W=rr at *;generalize (c+p[i]+q.getD i 0)/W=qq at *;generalize W ^ i=P at *;generalize p[i]=pp at *;generalize q.getD i 0=q0 at *;generalize vl (p.take i)=A at *;generalize vl (q.take i)=B at *;generalize vl (r.take i)=R at *;clear H
         grind
     . refine ze (λh4=>?_) (λh4=>?_)
       . have hi2:i<q.length:=by have:(i:Int)<(sy.len:Int):=h4;omega
         refine Z6 i (hq.le ho.1) rfl hi2 λa2 ha2=>⟨_,ha2,?_⟩
         refine⟨rfl,?_⟩;rw[z3n hi2]at hqx |-
         simp only;unfold W at *;congr 1;simp only[zbg];omega
       . have hi2:q.length<=i:=by have:¬(i:Int)<(sy.len:Int):=h4;omega
         refine⟨rfl,?_⟩;rw[z1h hi2];simp only;unfold W at *;congr 1;simp only[zbg];omega
   . have hi':i=p.length:=by have:¬(i:Int)<(sx.len:Int):=h3;omega
     subst hi';rw[Jd (l:=p) (by omega),Jd (l:=q) (by omega)]at hv2;refine z0c p.length c ho (by rw[lp]) (by omega) (by rw[ze4,Uj (by unfold W;omega)]) λh5 b5 _ _ _ ho5=>?_
     have okr5:okW (r.set p.length c):=Vn okr (by unfold W;omega);refine Ws ho5.rdW (by simp;omega) λz hz=>?_
     rw[Qn okr5]at hz;have e1:=V7 (r:=r) (k:=p.length) (v:=c) (by omega);rw[Jd (by simp;omega)]at e1;rw[e1,hv2,hv]at hz;exact H _ _ ho5.1 hz
 . refine ze (λh1=>?_) (λh1=>?_)
   . exact⟨rfl,m,l,hy,hx,om,ol,by omega,by omega,by omega⟩
   . exact⟨rfl,l,m,hx,hy,ol,om,by omega,by omega,by omega⟩
theorem zxa(hx:RdW h x l)(hy:RdW h y m)(ol:okW l)(om:okW m)(hl:l.length<=17592186044400)(hm:m.length<=17592186044400)
 (H:∀z h',h.le h'->RdW h' z (dg (vl l+vl m))->Ks z h'):zc (F.z80 x y) Ks h:=
 zd _ (λK'=>Zad hx hy ol om hl hm) H
theorem zni{r:List Nat}{b:Nat}(hrl:r.length=l.length)(okr:okW r)(hml:m.length<=l.length)(hle:vl m<=vl l)(hb:b<=1)
 (hv:vl (r.take l.length)+vl (m.take l.length)=vl (l.take l.length)+W ^ l.length*b):vl r=vl l-vl m:=by
 rw[Jd (l:=r) (by omega),Jd hml,Jd (Ja _)]at hv;have h1:=zbe okr;rw[hrl]at h1;have:b=0:=by
  rcases Tc b with h2 | h2
  . exact h2
  . obtain rfl:b=1:=by omega
    omega
 subst this;omega
theorem Z9q(hx:RdW h x l)(hy:RdW h y m)(ol:okW l)(om:okW m)(hl:l.length<=35184372088800)(hml:m.length<=l.length)(hle:vl m<=vl l)
 (H:∀z h',h.le h'->RdW h' z (dg (vl l-vl m))->Ks z h'):F.Vj x y Ks h:=by
 unfold F.Vj;have lx:=hx.len;have ly:=hy.len;refine z1o l.length l.length (by omega) (by omega) (by omega) (by omega) λw h1 hw hw2=>?_
 refine Zp (λst h'=>∃(c i:Nat) (r:List Nat),st=((c:Int),(i:Int),())/\i<=l.length/\c<=1/\Yl h h' w r/\okW r/\r.length=l.length/\vl (r.take i)+vl (m.take i)=vl (l.take i)+W ^ i*c)
  (λst=>((l.length:Int)-st.2.1).toNat) ⟨0,0,_,rfl,Ga _,by omega,hw2,z7w _,by simp,by simp[vl]⟩ ?_
 rintro st h2 ⟨c,i,r,rfl,hi,hc,ho,okr,hrl,hv2⟩;refine ze (λh3=>?_) (λh3=>?_)
 . have hi':i<l.length:=by have:(i:Int)<(x.len:Int):=h3;omega
   have hlx:=Qx ol hi';have hmx:=Va om i;refine Z6 i (hx.le ho.1) rfl hi' λa ha=>⟨_,ha,?_⟩
   refine zh (λs h4=>h4=h2/\∃rr b:Nat,rr<W/\b<=1/\l[i]+W*b=rr+c+m.getD i 0/\u32.wrap s.1=(rr:Int)/\s.1.fdiv (2 ^ (min (63:Int).toNat u64.bits))=(b:Int)) ?_ ?_
   . rintro s h4 ⟨rfl,rr,b,hrr,hb,he,h5,h6⟩;refine z0c i rr ho rfl (by omega) h5 λh5 b5 _ _ _ ho5=>⟨by decide,?_⟩
     rw[h6];refine⟨⟨b,i+1,_,by rw[w64 (by simp only;omega)];rfl,by omega,hb,ho5,Vn okr hrr,by simp[hrl],?_⟩,by simp only;rw[w64 (by omega)];omega⟩;rw[V7 (by omega),Yi hi',z69,U6];generalize W ^ i=P at *;generalize l[i]=pp at *;generalize m.getD i 0=q0 at *;generalize vl (l.take i)=A at *;generalize vl (m.take i)=B at *;generalize vl (r.take i)=R at *;have e:=congrArg (P*·) he;simp only[Gu]at e;rw[J4];omega
   . refine ze (λh4=>?_) (λh4=>?_)
     . have hi2:i<m.length:=by have:(i:Int)<(y.len:Int):=h4;omega
       refine Z6 i (hy.le ho.1) rfl hi2 λa2 ha2=>⟨_,ha2,?_⟩
       rw[z3n hi2]at hmx |-
       exact⟨rfl,Zq9 hlx hc hmx⟩
     . have hi2:m.length<=i:=by have:¬(i:Int)<(y.len:Int):=h4;omega
       rw[z1h hi2];exact⟨rfl,sub64' hlx hc⟩
 . have hi':i=l.length:=by have:¬(i:Int)<(x.len:Int):=h3;omega
   subst hi';refine z1w ho.rdW (by omega) λz hz=>?_
   rw[Qn okr,zni hrl okr hml hle hc hv2]at hz;exact H _ _ ho.1 hz
theorem zeq(hx:RdW h x l)(hy:RdW h y m)(ol:okW l)(om:okW m)(hl:l.length<=35184372088800)(hml:m.length<=l.length)(hle:vl m<=vl l)
 (H:∀z h',h.le h'->RdW h' z (dg (vl l-vl m))->Ks z h'):zc (F.Vj x y) Ks h:=
 zd _ (λK'=>Z9q hx hy ol om hl hml hle) H
theorem zx8(hx:RdW h x l)(hy:RdW h y m)(ol:okW l)(om:okW m)(hl:l.length<=35184372088800)(hml:m.length<=l.length)(hle:vl m<=vl l)
 (H:∀z h',h.le h'->RdW h' z (dg (vl l-vl m))->z4d h z->Ks z h'):F.Vd x y Ks h:=by
 unfold F.Vd;have lx:=hx.len;have ly:=hy.len;refine z1o l.length l.length (by omega) (by omega) (by omega) (by omega) λw h1 hw hw2=>?_
 refine Zp (λst h'=>∃(c i:Nat) (r:List Nat),st=((c:Int),(i:Int),())/\i<=l.length/\c<=1/\Yl h h' w r/\okW r/\r.length=l.length/\vl (r.take i)+vl (m.take i)=vl (l.take i)+W ^ i*c)
  (λst=>((l.length:Int)-st.2.1).toNat) ⟨0,0,_,rfl,Ga _,by omega,hw2,z7w _,by simp,by simp[vl]⟩ ?_
 rintro st h2 ⟨c,i,r,rfl,hi,hc,ho,okr,hrl,hv2⟩;refine ze (λh3=>?_) (λh3=>?_)
 . have hi':i<l.length:=by have:(i:Int)<(x.len:Int):=h3;omega
   have hlx:=Qx ol hi';have hmx:=Va om i;refine zh (λs h4=>h4=h2/\s=(((m.getD i 0:Nat):Int),())) ?_ ?_
   . rintro _ h4 ⟨rfl,rfl⟩;refine Z6 i (hx.le ho.1) rfl hi' λa ha=>⟨_,ha,?_⟩
     simp only;obtain⟨rr,b,hrr,hb,he,h5,h6⟩:=Zq8 hlx hc hmx;refine z0c i rr ho rfl (by omega) h5 λh5 b5 _ _ _ ho5=>⟨by decide,?_⟩
     rw[h6];refine⟨⟨b,i+1,_,by rw[w64 (by omega)];rfl,by omega,hb,ho5,Vn okr hrr,by simp[hrl],?_⟩,by rw[w64 (by omega)];omega⟩;rw[V7 (by omega),Yi hi',z69,U6];generalize W ^ i=P at *;generalize l[i]=pp at *;generalize m.getD i 0=q0 at *;generalize vl (l.take i)=A at *;generalize vl (m.take i)=B at *;generalize vl (r.take i)=R at *;have e:=congrArg (P*·) he;simp only[Gu]at e;rw[J4];omega
   . refine ze (λh4=>?_) (λh4=>?_)
     . have hi2:i<m.length:=by have:(i:Int)<(y.len:Int):=h4;omega
       refine Z6 i (hy.le ho.1) rfl hi2 λa2 ha2=>⟨_,ha2,?_⟩
       rw[z3n hi2]at hmx |-
       exact⟨rfl,by rw[z3i (by unfold W at *;omega)]⟩
     . have hi2:m.length<=i:=by have:¬(i:Int)<(y.len:Int):=h4;omega
       rw[z1h hi2];exact⟨rfl,rfl⟩
 . have hi':i=l.length:=by have:¬(i:Int)<(x.len:Int):=h3;omega
   subst hi';refine zcw ho.rdW (by omega) λz hz hs=>?_
   rw[Qn okr,zni hrl okr hml hle hc hv2]at hz;exact H _ _ ho.1 hz (z4d.of ho hs)
theorem zaw(hx:RdW h x l)(hy:RdW h y m)(ol:okW l)(om:okW m)(hl:l.length<=35184372088800)(hml:m.length<=l.length)(hle:vl m<=vl l)
 (H:∀z h',h.le h'->RdW h' z (dg (vl l-vl m))->z4d h z->Ks z h'):zc (F.Vd x y) Ks h:=
 zd (λz h'=>RdW h' z (dg (vl l-vl m))/\z4d h z) (λK' hk=>zx8 hx hy ol om hl hml hle λz h' h1 h2 h3=>hk z h' h1 ⟨h2,h3⟩) λz h' h1 ⟨h2,h3⟩=>H z h' h1 h2 h3
theorem zih(hx:RdW h x l)(hy:RdW h y m)(ol:okW l)(om:okW m)(hl:l.length<=35184372088800)(hml:m.length<=l.length)(hle:vl m<=vl l)
 (H:∀z h',h.le h'->RdW h' z (dg (vl l-vl m))->Ks z h'):zc (F.Vd x y) Ks h:=
 zaw hx hy ol om hl hml hle λz h' h1 h2 _=>H z h' h1 h2
theorem Zc2(hx:RdW h x l)(hy:RdW h y m)(ol:okW l)(om:okW m)(hl:l.length+m.length<=35184372088800)
 (H:∀z h',h.le h'->RdW h' z (dg (vl l*vl m))->Ks z h'):F.z2h x y Ks h:=by
 unfold F.z2h;have lx:=hx.len;have ly:=hy.len;refine zh (λ_ h'=>h'=h) ?_ ?_
 . rintro _ h' rfl;refine z1o (l.length+m.length) (l.length+m.length) (by rw[w64 (by omega)];omega) (by rw[w64 (by omega)];omega) (by omega) (by omega) λw h1 hw hw2=>?_
   refine zy9 (Kf:=λw h3=>zc (F.zy w) (λr h7=>Ks r h7) h3) (hx) (hy) ol om hl hw2 λh3 r ho okr hrl hv=>?_
   refine z1w ho.rdW (by omega) λz hz=>?_
   rw[Qn okr,hv]at hz;exact H _ _ ho.1 hz
 . refine zu (λh1=>?_) (λh1=>zu (λh2=>?_) (λh2=>rfl))
   . have:l=[]:=Ud.1 (by omega);subst this;refine H _ _ (Hp.le_refl _) ?_;simp only[vl,Nat.zero_mul,qz];exact RdW.nil
   . have:m=[]:=Ud.1 (by omega);subst this;refine H _ _ (Hp.le_refl _) ?_;simp only[vl,T3,qz];exact RdW.nil
theorem zy8(hx:RdW h x l)(hy:RdW h y m)(ol:okW l)(om:okW m)(hl:l.length+m.length<=35184372088800)
 (H:∀z h',h.le h'->RdW h' z (dg (vl l*vl m))->Ks z h'):zc (F.z2h x y) Ks h:=
 zd _ (λK'=>Zc2 hx hy ol om hl) H
theorem Zsl{c x y z:Nat}(hc:c<W)(hx:x<W)(hy:y<W)(hz:z<W) :
 u64.wrap (u64.wrap ((c:Int)+u64.wrap (z:Int))+u64.wrap (u64.wrap (x:Int)*u64.wrap (y:Int)))=((c+(x*y+z):Nat):Int):=by
 unfold W at *;have hxy:x*y<=4294967295*4294967295:=Nat.mul_le_mul (by omega) (by omega);rw[z3i (n:=x) (by omega),z3i (n:=y) (by omega),z3i (n:=z) (by omega)];rw[show((x:Int)*(y:Int))=((x*y:Nat):Int)by simp,z3i (n:=x*y) (by omega)];rw[show((c:Int)+(z:Int))=((c+z:Nat):Int)by simp,z3i (n:=c+z) (by omega)];rw[show(((c+z:Nat):Int)+((x*y:Nat):Int))=((c+(x*y+z):Nat):Int)by omega,z3i (by omega)]
theorem zxd{a b:Sl}{la lb:List Nat}(ha:RdW h a la)(hb:RdW h b lb)(oa:okW la)(ob:okW lb)(hl:la.length+lb.length<=35184372088800)
 (H:∀z h',h.le h'->RdW h' z (dg (vl la*vl lb))->z4d h z->Ks z h'):F.z15 a b Ks h:=by
 unfold F.z15;have hal:=ha.len;have hbl:=hb.len;refine z1o (la.length+lb.length) (la.length+lb.length) (by rw[w64 (by omega)];omega) (by rw[w64 (by omega)];omega) (by omega) (by omega) λx h1 hw ho=>?_
 refine Zp (λst h'=>∃(i:Nat) (l:List Nat),st=((i:Int),())/\i<=la.length/\Yl h h' x l/\okW l/\l.length=la.length+lb.length/\vl l=vl (la.take i)*vl lb/\∀j (hj:j<l.length),i+lb.length<=j->l[j]=0)
  (λst=>((la.length:Int)-st.1).toNat) ⟨0,_,rfl,Ga _,ho,z7w _,by simp,by rw[zyg];simp[vl],λj hj _=>by simp⟩ ?_
 rintro st h1 ⟨i,l,rfl,hi,ho1,okl,hll,hv,hz⟩;refine ze (λh2=>?_) (λh2=>?_)
 . simp only at h2;have hi':i<la.length:=by omega
   have hxi:=Qx oa hi';refine Zp (λst h'=>∃(k c:Nat) (l':List Nat),st=((c:Int),(k:Int),())/\k<=lb.length/\c<W/\Yl h h' x l'/\okW l'/\l'.length=la.length+lb.length /\
    vl l'+W ^ (i+k)*c=vl l+W ^ i*(la[i]*vl (lb.take k))/\∀j (hj:j<l'.length),i+lb.length<=j->l'[j]=0)
    (λst=>((lb.length:Int)-st.2.1).toNat) ⟨0,0,l,rfl,Ga _,by decide,ho1,okl,hll,by simp[vl],hz⟩ ?_
   rintro st h3 ⟨k,c,l',rfl,hk,hc,ho3,okl',hll',hv',hz'⟩;refine ze (λh4=>?_) (λh4=>?_)
   . simp only at h4;have hk':k<lb.length:=by omega
     have hyk:=Qx ob hk';have hik:i+k<l'.length:=by omega
     have hzk:=Qx okl' hik;have wik:i64.wrap ((i:Int)+(k:Int))=((i+k:Nat):Int):=by rw[w64 (by omega)];omega
     simp only;rw[wik];refine Z6 (i+k) ho3.rdW rfl hik λa2 ha2=>⟨_,ha2,?_⟩
     refine Z6 i (ha.le ho3.1) rfl hi' λaa haa=>⟨_,haa,?_⟩
     refine Z6 k (hb.le ho3.1) rfl hk' λa1 ha1=>⟨_,ha1,?_⟩
     simp only;rw[Zsl hc hxi hyk hzk];refine z0c (i+k) _ ho3 rfl hik (ze4 _) λh5 b5 _ _ _ ho5=>⟨by decide,?_⟩
     rw[zij];refine⟨⟨k+1,_,_,by rw[w64 (by omega)];rfl,by omega,Z9j hc hxi hyk hzk,ho5,Vn okl' (U2 _ Wz),by simp[hll'],?_,?_⟩,by rw[w64 (by omega)];omega⟩
     . have e1:=zb6 (l:=l') (k:=i+k) (v:=(c+(la[i]*lb[k]+l'[i+k])) % W) hik;have e2:=Pf (c+(la[i]*lb[k]+l'[i+k])) W;have e3:=Yi hk';rw[e3];generalize vl (l'.set (i+k) ((c+(la[i]*lb[k]+l'[i+k])) % W))=V at e1 |-
       generalize hr:(c+(la[i]*lb[k]+l'[i+k])) % W=r at *;generalize hq:(c+(la[i]*lb[k]+l'[i+k]))/W=q at *;generalize vl l'=V' at *;generalize vl l=V0 at *;generalize l'[i+k]=z at *;generalize la[i]=xx at *;generalize lb[k]=yy at *;generalize vl (lb.take k)=T at *;have p1:W ^ (i+(k+1))=W ^ (i+k)*W:=by rw[<-Pd,U6]
       have p2:W ^ (i+k)=W ^ i*W ^ k:=T1 ..;rw[p1];generalize W ^ (i+k)=P at *;subst p2;generalize W ^ i=Pi at *;generalize W ^ k=Pk at *;clear H
       grind
     . intro j hj hjl;rw[Gl]at hj;rw[Pp (by omega)];exact hz' j hj hjl
   . simp only at h4;have hk':k=lb.length:=by omega
     subst hk';have hil:i+lb.length<l'.length:=by omega
     have w1:i64.wrap ((i:Int)+(b.len:Int))=((i+lb.length:Nat):Int):=by rw[hbl,w64 (by omega)];omega
     simp only;rw[w1];refine z0c (i+lb.length) c ho3 rfl hil (by rw[ze4,Uj hc]) λh5 b5 _ _ _ ho5=>?_
     refine⟨⟨i+1,_,by rw[w64 (by omega)];rfl,by omega,ho5,Vn okl' hc,by simp[hll'],?_,?_⟩,by rw[w64 (by omega)];omega⟩
     . have e1:=zb6 (l:=l') (k:=i+lb.length) (v:=c) hil;rw[hz' _ hil (Ja _)]at e1;rw[Jd (Ja _)]at hv';rw[Yi hi',Js];rw[J4];omega
     . intro j hj hjl;rw[Gl]at hj;rw[Pp (by omega)];exact hz' j hj (by omega)
 . simp only at h2;have:i=la.length:=by omega
   subst this;rw[Jd (Ja _)]at hv;refine zcw ho1.rdW (by omega) λz hz2 hs=>?_
   rw[Qn okl,hv]at hz2;exact H _ _ ho1.1 hz2 (z4d.of ho1 hs)
theorem zg8(hx:RdW h x l)(hy:RdW h y m)(ol:okW l)(om:okW m)(hl:l.length+m.length<=35184372088800)
 (H:∀z h',h.le h'->RdW h' z (dg (vl l*vl m))->z4d h z->Ks z h'):zc (F.z15 x y) Ks h:=
 zd (λz h'=>RdW h' z (dg (vl l*vl m))/\z4d h z) (λK' hk=>zxd hx hy ol om hl λz h' h1 h2 h3=>hk z h' h1 ⟨h2,h3⟩) λz h' h1 ⟨h2,h3⟩=>H z h' h1 h2 h3
theorem zta(hx:RdW h x l)(hy:RdW h y m)(ol:okW l)(om:okW m)(hl:l.length+m.length<=35184372088800)
 (H:∀z h',h.le h'->RdW h' z (dg (vl l*vl m))->Ks z h'):zc (F.z15 x y) Ks h:=
 zg8 hx hy ol om hl λz h' h1 h2 _=>H z h' h1 h2
end
end Den
end

section
namespace Den
open Go Iv
def Ok(n:Int):Prop:=(dg n.natAbs).length<=8796093022208
def Lt(k:Nat)(n:Int):Prop:=n.natAbs<W ^ k
theorem Lt.ok{k:Nat}{n:Int}(h:Lt k n)(hk:k<=8796093022208):Ok n:=Jt (Y6.2 h) hk
theorem Lt.mono{k j:Nat}{n:Int}(h:Lt k n)(hk:k<=j):Lt j n:=Tb h (Th Wz hk)
theorem Lt.mul{k j:Nat}{m n:Int}(h:Lt k m)(h2:Lt j n):Lt (k+j) (m*n):=by
 unfold Lt at *;rw[Int.natAbs_mul,T1];exact Nat.mul_lt_mul'' h h2
theorem Lt.neg{k:Nat}{n:Int}(h:Lt k n):Lt k (-n):=by unfold Lt at *;rw[Int.natAbs_neg];exact h
theorem Lt.le{k:Nat}{m n:Int}(h:Lt k m)(h2:n.natAbs<=m.natAbs):Lt k n:=Gb h2 h
theorem NI.len{h:Hp}{x:TInt}{n:Int}(hx:NI h x n):x.mag.len=(dg n.natAbs).length:=hx.1.len
theorem NI.len0{h:Hp}{x:TInt}{n:Int}(hx:NI h x n):((x.mag.len:Int)==0)=decide (n=0):=by
 rw[hx.len];by_cases h0:n=0
 . subst h0;simp[qz]
 . have:(dg n.natAbs).length≠0:=λhh=>h0 (by have:=z0v.1 (Ud.1 hh);omega)
   rw[decide_eq_false h0];have h2:((dg n.natAbs).length:Int)≠0:=by omega
   simpa using λhh=>h0 (by have:=z0v.1 hh;omega)
theorem zks{n:Int}:(dg n.natAbs).length=0↔n=0:=by
 rw[Ud,z0v];omega
section
variable {h : Hp} {x y : Sl} {l : List Nat} {m n : Int} {a b : TInt} {Ks : Sl → Hp → Prop} {Ki : Int → Hp → Prop} {Kb : Bool → Hp → Prop} {KI : TInt → Hp → Prop} {KP : (TInt × TInt × Int) → Hp → Prop}
theorem zqm(n:Nat):Qp (dg n)=dg n:=by rw[Qn (Z5 n),Zt]
theorem zf3{n:Nat}(hr:RdW h x (dg n))(hl:(dg n).length<=35184372088800)(H:∀y,RdW h y (dg n)->Ks y h):zc (F.zy x) Ks h:=
 z1w hr (by omega) λy hy=>H y (by rw[zqm]at hy;exact hy)
theorem ztb{n:Nat}(hr:RdW h x (dg n))(hl:(dg n).length<=35184372088800)(H:∀y,RdW h y (dg n)->Ks y h):zc (F.Yf x) Ks h:=
 Ws hr (by omega) λy hy=>H y (by rw[zqm]at hy;exact hy)
theorem zd2(ha:NI h a m)(om:(dg m.natAbs).length<=35184372087808)(H:∀y,RdW h y (dg m.natAbs)->Ks y h):zc (F.zy a.mag) Ks h:=
 zf3 ha.1 (Jt om (by decide)) H
theorem zg9(ha:NI h a m)(om:(dg m.natAbs).length<=35184372087808)(H:∀y,RdW h y (dg m.natAbs)->Ks y h):zc (F.Yf a.mag) Ks h:=
 ztb ha.1 (Jt om (by decide)) H
theorem z0d(ha:NI h a m)(om:Ok m)(H:∀y,RdW h y (dg m.natAbs)->Ks y h):zc (F.zy a.mag) Ks h:=
 zf3 ha.1 (Jt om (by decide)) H
theorem z08{neg:Bool}{k:Nat}(hr:RdW h x (dg k))(hl:(dg k).length<=35184372088800)(H:∀y,NI h y (sg neg k)->KI y h):zc (F.y9 neg x) KI h:=
 z8x hr (Z5 k) (by omega) λy hy=>H y (by rw[Zt]at hy;exact hy)
theorem Q2{neg:Bool}{k:Nat}(hr:RdW h x (dg k))(hl:(dg k).length<=35184372088800)(H:∀y,NI h y (sg neg k)->KI y h):zc (F.Y4 neg x) KI h:=
 zq7 hr (Z5 k) (by omega) λy hy=>H y (by rw[Zt]at hy;exact hy)
theorem Zh5(n:Int):sg (decide (n<0)) n.natAbs=n:=by
 unfold sg;by_cases h:n<0
 . rw[if_pos (by simpa using h)];omega
 . rw[if_neg (by simpa using h)];omega
theorem Zak(n:Int):sg (!decide (n<0)) n.natAbs=-n:=by
 unfold sg;by_cases h:n<0
 . rw[if_neg (by simpa using h)];omega
 . rw[if_pos (by simpa using h)];omega
theorem Zc7{n:Int}(h:n<0)(h2:-9223372036854775808<=n):u64.wrap (0-u64.wrap n)=((n.natAbs:Nat):Int):=by
 simp only[zbg];omega
theorem Zc8{n:Int}(h:¬n<0)(h2:n<=9223372036854775807):u64.wrap n=((n.natAbs:Nat):Int):=by
 simp only[zbg];omega
theorem dg2{n:Nat}(h:n<18446744073709551616):(dg n).length<=2:=by
 have h2:W ^ 2=18446744073709551616:=by decide
 exact Y6.2 (by rw[h2];exact h)
theorem za3(h1:-9223372036854775808<=n)(h2:n<=9223372036854775807)(H:∀y h',h.le h'->NI h' y n->KI y h'):zc (F.W5 n) KI h:=by
 refine zd _ (λK' hk=>?_) H;unfold F.W5;refine zh (λs h'=>h'=h/\s=(((n.natAbs:Nat):Int),())) ?_ ?_
 . rintro _ h' ⟨rfl,rfl⟩;refine z2e rfl (by omega) λy h1 hl hy=>?_
   have:=dg2 (n:=n.natAbs) (by omega);refine z08 hy (by omega) λz hz=>hk _ _ hl ?_
   rw[Zh5]at hz;exact hz
 . refine ze (λh3=>⟨rfl,?_⟩) (λh3=>⟨rfl,?_⟩)
   . rw[Zc7 h3 h1]
   . rw[Zc8 h3 h2]
theorem z5g(h1:-9223372036854775808<=n)(h2:n<=9223372036854775807)(H:∀y h',h.le h'->NI h' y n->KI y h'):zc (F.Vo n) KI h:=by
 refine zd _ (λK' hk=>?_) H;unfold F.Vo;have h5:=dg2 (n:=n.natAbs) (by omega);refine ze (λh3=>?_) (λh3=>?_)
 . rw[Zc7 h3 h1];refine z8c rfl (by omega) λy h1 hl hy=>?_
   refine Q2 hy (by omega) λz hz=>hk _ _ hl ?_
   have:sg true n.natAbs=n:=by unfold sg;simp;omega
   rw[this]at hz;exact hz
 . rw[Zc8 h3 h2];refine z8c rfl (by omega) λy h1 hl hy=>?_
   refine Q2 hy (by omega) λz hz=>hk _ _ hl ?_
   have:sg false n.natAbs=n:=by unfold sg;simp;omega
   rw[this]at hz;exact hz
theorem zed(ha:NI h a m)(om:(dg m.natAbs).length<=35184372087808)(H:Ki m.sign h):zc (F.Vb a) Ki h:=by
 refine zx _ (λK' hk=>?_) H;unfold F.Vb;refine zd2 ha om λy hy=>?_
 have hl:=hy.len;refine zu (λh1=>?_) (λh1=>?_)
 . have:m=0:=zks.1 (by omega);subst this;exact hk
 . have:m≠0:=λh0=>h1 (by subst h0;rw[hl];simp[qz])
   rw[ha.2];refine ze (λh2=>?_) (λh2=>?_)
   . rw[Gm h2]at hk;exact hk
   . rw[G7 (by omega)]at hk;exact hk
theorem zco(ha:NI h a m)(om:(dg m.natAbs).length<=35184372087808)(H:∀y,NI h y m->KI y h):zc (F.Xy a) KI h:=by
 refine z79 _ (λK' hk=>?_) H;unfold F.Xy;refine Q2 ha.1 (Jt om (by decide)) λy hy=>hk y ?_
 rw[ha.2,Zh5]at hy;exact hy
theorem zcp(ha:NI h a m)(om:(dg m.natAbs).length<=35184372087808)(H:Ki m.sign h):zc (F.z14 a) Ki h:=by
 refine zx _ (λK' hk=>?_) H;unfold F.z14;refine zco ha om λy hy=>?_
 have hl:=hy.len;refine zu (λh1=>?_) (λh1=>?_)
 . have:m=0:=zks.1 (by omega);subst this;exact hk
 . have:m≠0:=λh0=>h1 (by subst h0;rw[hl];simp[qz])
   rw[hy.2];refine ze (λh2=>?_) (λh2=>?_)
   . rw[Gm h2]at hk;exact hk
   . rw[G7 (by omega)]at hk;exact hk
theorem zgq(ha:NI h a m)(om:Ok m)(H:Ki m.sign h):zc (F.Vb a) Ki h:=zed ha (Jt om (by decide)) H
theorem z4m(ha:NI h a m)(om:Ok m)(H:∀y,NI h y m->KI y h):zc (F.Xy a) KI h:=zco ha (Jt om (by decide)) H
theorem zew(ha:NI h a m)(om:Ok m)(H:Ki m.sign h):zc (F.z14 a) Ki h:=zcp ha (Jt om (by decide)) H
theorem zqy(ha:NI h a m)(om:Ok m)(H:∀y h',h.le h'->NI h' y (-m)->KI y h'):zc (F.z5v a) KI h:=by
 refine zd _ (λK' hk=>?_) H;unfold F.z5v;refine z0d ha om λy hy=>zei hy (Jt om (by decide)) λz h1 hl hz=>z08 hz (Jt om (by decide)) λw hw=>hk _ _ hl ?_
 rw[ha.2,Zak]at hw;exact hw
theorem Z1x(ha:NI h a m)(om:Ok m)(H:∀y,NI h y (-m)->KI y h):zc (F.zdr a) KI h:=by
 refine z79 _ (λK' hk=>?_) H;unfold F.zdr;refine Q2 ha.1 (Jt om (by decide)) λy hy=>hk y ?_
 rw[ha.2,Zak]at hy;exact hy
theorem Zaj(m n:Int):sg (!(decide (m<0)==decide (n<0))) (m.natAbs*n.natAbs)=m*n:=by
 unfold sg;rw[<-Int.natAbs_mul];by_cases h1:m<0<;>by_cases h2:n<0<;>simp[h1,h2]
 . have:=Int.mul_pos_of_neg_of_neg h1 h2;omega
 . have:=Int.mul_nonpos_of_nonpos_of_nonneg (a:=m) (b:=n) (by omega) (by omega);omega
 . have:=Int.mul_nonpos_of_nonneg_of_nonpos (a:=m) (b:=n) (by omega) (by omega);omega
 . have:=Int.mul_nonneg (a:=m) (b:=n) (by omega) (by omega);omega
theorem Ze3{m n k:Nat}(om:(dg m).length<=k)(on:(dg n).length<=k):(dg (m*n)).length<=k+k:=by
 refine Y6.2 ?_;rw[T1];exact Nat.mul_lt_mul'' (Y6.1 om) (Y6.1 on)
theorem Z9u{m n:Int}(om:Ok m)(on:Ok n):(dg (m.natAbs*n.natAbs)).length<=35184372088800:=
 Jt (Ze3 om on) (by decide)
theorem z5p(ha:NI h a m)(hb:NI h b n)(om:Ok m)(on:Ok n)(H:∀y h',h.le h'->NI h' y (m*n)->KI y h'):zc (F.Qw a b) KI h:=by
 refine zd _ (λK' hk=>?_) H;unfold F.Qw;have om':(dg m.natAbs).length<=8796093022208:=om;have on':(dg n.natAbs).length<=8796093022208:=on;refine z0d ha om λy hy=>z0d hb on λz hz=>zy8 hy hz (Z5 _) (Z5 _) (by omega) λw h1 hl hw=>?_
 rw[Zt,Zt]at hw;refine z08 hw (Z9u om on) λw2 hw2=>hk _ _ hl ?_
 rw[ha.2,hb.2,Zaj]at hw2;exact hw2
theorem zdp(ha:NI h a m)(hb:NI h b n)(om:Ok m)(on:Ok n)(H:∀y h',h.le h'->NI h' y (m*n)->KI y h'):zc (F.z4q a b) KI h:=by
 refine zd _ (λK' hk=>?_) H;unfold F.z4q;have om':(dg m.natAbs).length<=8796093022208:=om;have on':(dg n.natAbs).length<=8796093022208:=on;refine z4m ha om λy hy=>z4m hb on λz hz=>zta hy.1 hz.1 (Z5 _) (Z5 _) (by omega) λw h1 hl hw=>?_
 rw[Zt,Zt]at hw;refine Q2 hw (Z9u om on) λw2 hw2=>hk _ _ hl ?_
 rw[hy.2,hz.2,Zaj]at hw2;exact hw2
theorem W9{m n:Nat}(h:m<=n):(dg m).length<=(dg n).length:=Y6.2 (Gb h (Y6.1 (Ja _)))
theorem Zd9{m n k:Nat}(om:(dg m).length<=k)(on:(dg n).length<=k):(dg (m+n)).length<=k+1:=by
 refine Y6.2 ?_;have h1:=Y6.1 om;have h2:=Y6.1 on;rw[U6];have:W ^ k*2<=W ^ k*W:=G4 _ (by decide);omega
theorem Zi6{m n:Nat}(om:(dg m).length<=8796093022208)(on:(dg n).length<=8796093022208):(dg (m+n)).length<=35184372088800:=
 Jt (Zd9 om on) (by decide)
theorem zzp{m n:Int}(h:decide (m<0)=decide (n<0)):sg (decide (m<0)) (m.natAbs+n.natAbs)=m+n:=by
 unfold sg;by_cases h1:m<0<;>by_cases h2:n<0<;>simp[h1,h2]at h |-<;>omega
theorem zj9{m n:Int}(h:decide (m<0)≠decide (n<0))(hle:n.natAbs<=m.natAbs):sg (decide (m<0)) (m.natAbs-n.natAbs)=m+n:=by
 unfold sg;by_cases h1:m<0<;>by_cases h2:n<0<;>simp[h1,h2]at h |-<;>omega
theorem zlx{m n:Nat}(om:(dg m).length<=8796093022208):(dg (m-n)).length<=35184372088800:=by
 have:=W9 (Nat.sub_le m n);omega
theorem zqt(ha:NI h a m)(hb:NI h b n)(om:Ok m)(on:Ok n)(H:∀y h',h.le h'->NI h' y (m+n)->KI y h'):zc (F.z5t a b) KI h:=by
 refine zd _ (λK' hk=>?_) H;unfold F.z5t;have om':(dg m.natAbs).length<=8796093022208:=om;have on':(dg n.natAbs).length<=8796093022208:=on;refine z0d ha om λy hy=>z0d hb on λz hz=>?_
 rw[ha.2,hb.2];refine zi (λh1=>?_) (λh1=>?_)
 . have h1':decide (m<0)=decide (n<0):=by simpa using h1
   refine znr hy hz (Z5 _) (Z5 _) (by omega) (by omega) λw h1 r hl hw ok hv hlen=>?_
   rw[Zt,Zt]at hv;refine z8x hw ok (by omega) λw2 hw2=>hk _ _ hl ?_
   rw[hv,zzp h1']at hw2;exact hw2
 . have h1':decide (m<0)≠decide (n<0):=by simpa using h1
   refine za8 hy hz (by omega) (by omega) ?_;unfold za5;by_cases h2:m.natAbs<n.natAbs
   . rw[if_pos h2];refine Z4 rfl ?_;refine zeq hz hy (Z5 _) (Z5 _) (by omega) (W9 (by omega)) (by rw[Zt,Zt];omega) λw h1 hl hw=>?_
     rw[Zt,Zt]at hw;refine z08 hw (zlx on') λw2 hw2=>hk _ _ hl ?_
     rw[zj9 (λe=>h1' e.symm) (by omega),Int.add_comm]at hw2;exact hw2
   . rw[if_neg h2];refine zr (by split<;>rfl) ?_;refine zeq hy hz (Z5 _) (Z5 _) (by omega) (W9 (by omega)) (by rw[Zt,Zt];omega) λw h1 hl hw=>?_
     rw[Zt,Zt]at hw;refine z08 hw (zlx om') λw2 hw2=>hk _ _ hl ?_
     rw[zj9 h1' (by omega)]at hw2;exact hw2
theorem znv(ha:NI h a m)(hb:NI h b n)(om:Ok m)(on:Ok n)(H:∀y h',h.le h'->NI h' y (m+n)->KI y h'):zc (F.z9u a b) KI h:=by
 refine zd _ (λK' hk=>?_) H;unfold F.z9u;have om':(dg m.natAbs).length<=8796093022208:=om;have on':(dg n.natAbs).length<=8796093022208:=on;refine z4m ha om λy hy=>z4m hb on λz hz=>?_
 rw[hy.2,hz.2];refine zi (λh1=>?_) (λh1=>?_)
 . have h1':decide (m<0)=decide (n<0):=by simpa using h1
   refine zxa hy.1 hz.1 (Z5 _) (Z5 _) (by omega) (by omega) λw h1 hl hw=>?_
   rw[Zt,Zt]at hw;refine Q2 hw (Zi6 om' on') λw2 hw2=>hk _ _ hl ?_
   rw[zzp h1']at hw2;exact hw2
 . have h1':decide (m<0)≠decide (n<0):=by simpa using h1
   refine z5h hy.1 hz.1 (by omega) (by omega) ?_;unfold za5;by_cases h2:m.natAbs<n.natAbs
   . rw[if_pos h2];refine zr rfl ?_;refine zih hz.1 hy.1 (Z5 _) (Z5 _) (by omega) (W9 (by omega)) (by rw[Zt,Zt];omega) λw h1 hl hw=>?_
     rw[Zt,Zt]at hw;refine Q2 hw (zlx on') λw2 hw2=>hk _ _ hl ?_
     rw[zj9 (λe=>h1' e.symm) (by omega),Int.add_comm]at hw2;exact hw2
   . rw[if_neg h2];refine Z4 (by split<;>rfl) ?_;refine zih hy.1 hz.1 (Z5 _) (Z5 _) (by omega) (W9 (by omega)) (by rw[Zt,Zt];omega) λw h1 hl hw=>?_
     rw[Zt,Zt]at hw;refine Q2 hw (zlx om') λw2 hw2=>hk _ _ hl ?_
     rw[zj9 h1' (by omega)]at hw2;exact hw2
theorem Ok.neg{n:Int}(h:Ok n):Ok (-n):=by unfold Ok at *;rw[Int.natAbs_neg];exact h
theorem znx(ha:NI h a m)(hb:NI h b n)(om:Ok m)(on:Ok n)(H:∀y h',h.le h'->NI h' y (m-n)->KI y h'):zc (F.z9v a b) KI h:=by
 refine zd _ (λK' hk=>?_) H;unfold F.z9v;refine Z1x hb on λy hy=>znv ha hy om on.neg λz h1 hl hz=>hk _ _ hl ?_
 rw[<-Int.sub_eq_add_neg]at hz;exact hz
theorem Zap{m n:Int}(h:m.sign=n.sign):m.sign*za5 m.natAbs n.natAbs=(m-n).sign:=by
 unfold za5;rcases Int.lt_trichotomy m 0 with h1 | h1 | h1
 . have h2:n<0:=Int.sign_eq_neg_one_iff_neg.1 (by rw[<-h];exact Gm h1);rw[Gm h1];split
   . rw[G7 (by omega)];rfl
   . split
     . rw[Gm (by omega)];rfl
     . have:m=n:=by omega
       subst this;simp
 . subst h1;have h2:n=0:=by rw[Int.sign_zero]at h;exact Int.sign_eq_zero_iff_zero.1 h.symm
   subst h2;rfl
 . have h2:0<n:=Int.sign_eq_one_iff_pos.1 (by rw[<-h];exact G7 h1);rw[G7 h1];split
   . rw[Gm (by omega)];rfl
   . split
     . rw[G7 (by omega)];rfl
     . have:m=n:=by omega
       subst this;simp
theorem Xz(n:Int):n.sign=-1/\n<0\/n.sign=0/\n=0\/n.sign=1/\0<n:=by
 rcases Int.lt_trichotomy n 0 with h1 | h1 | h1
 . exact .inl ⟨Gm h1,h1⟩
 . subst h1;exact .inr (.inl ⟨rfl,rfl⟩)
 . exact .inr (.inr ⟨G7 h1,h1⟩)
theorem Zeo{m n:Int}(h:m.sign≠n.sign):(if m.sign<n.sign then (-1:Int)else if n.sign<m.sign then 1 else 0)=(m-n).sign:=by
 have hm:=Xz m;have hn:=Xz n;have hd:=Xz (m-n);split
 . omega
 . split<;>omega
theorem Z2s(ha:NI h a m)(hb:NI h b n)(om:Ok m)(on:Ok n)(H:Ki (m-n).sign h):zc (F.z5u a b) Ki h:=by
 refine zx _ (λK' hk=>?_) H;unfold F.z5u;have om':(dg m.natAbs).length<=8796093022208:=om;have on':(dg n.natAbs).length<=8796093022208:=on;refine zgq ha om (zgq hb on ?_);refine Z2 (λh1=>?_) (λh1=>?_)
 . refine z34 ?_;rw[Zeo h1];exact hk
 . refine z0d ha om λy hy=>z0d hb on λz hz=>za8 hy hz (by omega) (by omega) ?_
   rw[Zap h1];have:=Xz (m-n);rw[w64 (by omega)];exact hk
end
end Den
end

section
namespace Den
open Go Iv
theorem zo3(a b:Nat):((a:Int)).tdiv (b:Int)=((a/b:Nat):Int):=(Int.ofNat_tdiv a b).symm
theorem zo4(a b:Nat):((a:Int)).tmod (b:Int)=((a % b:Nat):Int):=(Int.ofNat_tmod a b).symm
theorem zim{n:Nat}(h:n<W):u32.wrap (n:Int)=(n:Int):=by rw[ze4,Uj h]
theorem zbo{n:Nat}(h:n<W):u64.wrap (n:Int)=(n:Int):=z3i (by unfold W at h;omega)
theorem Zh1{x y:Nat}(hx:x<W)(hy:y<W):qu .or .u32 (x:Int) (y:Int)=((x ||| y:Nat):Int):=by
 unfold qu;simp only[G6];have h1:(BitVec.ofInt 32 (x:Int) ||| BitVec.ofInt 32 (y:Int)).toNat=x ||| y:=by
  unfold W at *;rw[P5,P5,BitVec.toNat_or,P9,P9,Uj (by omega),Uj (by omega)]
 have h2:x ||| y<W:=Nat.or_lt_two_pow (n:=32) hx hy
 exact(congrArg (λz:Nat=>u32.wrap (z:Int)) h1).trans (zim h2)
theorem Zq5{x y:Nat}(hx:x<18446744073709551616)(hy:y<18446744073709551616):qu .or .u64 (x:Int) (y:Int)=((x ||| y:Nat):Int):=by
 unfold qu;simp only[G6];have h1:(BitVec.ofInt 64 (x:Int) ||| BitVec.ofInt 64 (y:Int)).toNat=x ||| y:=by
  rw[P5,P5,BitVec.toNat_or,P9,P9,Uj (by omega),Uj (by omega)]
 have h2:x ||| y<18446744073709551616:=Nat.or_lt_two_pow (n:=64) hx hy
 exact(congrArg (λz:Nat=>u64.wrap (z:Int)) h1).trans (z3i h2)
def bl(n:Nat):Nat:=if n=0 then 0 else n.log2+1
theorem Zf3(n:Nat):n<2 ^ bl n:=by
 unfold bl;split
 . rename_i h;subst h;decide
 . exact Nat.lt_log2_self
theorem Zf2{n:Nat}(h:n≠0):2 ^ (bl n-1)<=n:=by
 unfold bl;rw[if_neg h];exact Nat.log2_self_le h
theorem Z35{n:Nat}(h:n≠0):0<bl n:=by unfold bl;rw[if_neg h];omega
theorem Zdh{n b:Nat}(h1:2 ^ b<=n)(h2:n<2 ^ (b+1)):bl n=b+1:=by
 have h0:n≠0:=by have:=Gs b;omega
 unfold bl;rw[if_neg h0];have h3:=(Nat.le_log2 h0 (k:=b)).2 h1;have h4:=(Nat.log2_lt h0 (k:=b+1)).2 h2;omega
theorem Zdi:bl 0=0:=rfl
theorem zjm{n k:Nat}(h:n<2 ^ k):bl n<=k:=by
 unfold bl;split
 . omega
 . rename_i h0;have:=(Nat.log2_lt h0 (k:=k)).2 h;omega
theorem zjn{n k:Nat}(h:2 ^ k<=n):bl n=bl (n/2 ^ k)+k:=by
 have h0:n/2 ^ k≠0:=by
  have:=Nat.div_pos h (Gs k);omega
 have h1:=Zf2 h0;have h2:=Zf3 (n/2 ^ k);have h3:=Z35 h0;obtain⟨b,hb⟩:∃b,bl (n/2 ^ k)=b+1:=⟨bl (n/2 ^ k)-1,by omega⟩;rw[hb]at h1 h2 |-
 simp only[Nat.add_sub_cancel]at h1;rw[Pw (Gs k),<-T1]at h1;rw[Gj (Gs k),<-T1]at h2;rw[Zdh (b:=b+k) h1 (by rw[show b+k+1=b+1+k by omega];exact h2)];omega
theorem Zdg{n:Nat}(h:n≠0):bl n=bl (n/2)+1:=by
 by_cases h1:n=1
 . subst h1;decide
 . have:=zjn (n:=n) (k:=1) (by simp;omega);simpa using this
section
variable {h : Hp} {x y : Sl} {l m : List Nat} {b : Nat} {Ks : Sl → Hp → Prop} {Ki : Int → Hp → Prop} {Kb : Bool → Hp → Prop} {KI : TInt → Hp → Prop} {Kp : (Sl × Sl) → Hp → Prop} {Kq : (Sl × Int) → Hp → Prop}
theorem zo8{r l:List Nat}{b rem j:Nat}(hj:j<l.length)(hrl:r.length=l.length)(hv:vl (l.drop (j+1))=b*vl (r.drop (j+1))+rem) :
 vl (l.drop j)=b*vl ((r.set j ((rem*W+l[j])/b)).drop j)+(rem*W+l[j]) % b:=by
 rw[Ux (l:=l) hj,Ux (l:=r.set j ((rem*W+l[j])/b)) (by simpa [hrl] using hj),Pv];simp only[vl];rw[List.drop_set_of_lt (by omega),hv];have e:=Nat.div_add_mod (rem*W+l[j]) b;rw[Gu,Gu,J8 rem W]at *;have:W*(b*vl (r.drop (j+1)))=b*(W*vl (r.drop (j+1))):=by rw[<-J4,J8 W b,J4]
 omega
theorem zqr{b rem w:Nat}(hr:rem<b)(hw:w<W):(rem*W+w)/b<W:=by
 rw[Gj (by omega)];have:(rem+1)*W<=b*W:=Jj _ hr;rw[Js]at this;rw[J8 W b];omega
theorem zo7{b rem w:Nat}(hr:rem<b)(hb:b<W)(hw:w<W) :
 u32.wrap (u64.wrap ((qu .or .u64 (u64.wrap ((rem:Int)*2 ^ (min (32:Int).toNat u64.bits))) (u64.wrap (w:Int))).tdiv (u64.wrap (b:Int))))=(((rem*W+w)/b:Nat):Int):=by
 have h1:=zqr hr hw;rw[zsp (by omega) hw,zbo hb,zo3,zbo h1,zim h1]
theorem zyo{x:Sl}{l:List Nat}{b:Nat}{m1:Sl}{h h1:Hp}{Kf:Int->Hp->Prop}(hx:RdW h x l)(ol:okW l)(hb:0<b)(hbW:b<W)(hl:l.length<=35184372088800)
 (ho:Yl h h1 m1 (Jr l.length 0)) (H:∀h' r,Yl h h' m1 r->okW r->r.length=l.length->vl r=vl l/b->Kf ((vl l % b:Nat):Int) h') :
 (zn (S:=Int×Int×Unit) (λs2 k3 h2=>
   (ifP (decide (s2.2.1>=0))
   (0<=(32:Int) /\
   (zg x s2.2.1 1 λa4=>
   (ldL (.int .u32) a4 (λx5=>
   (((u64.wrap ((b:Nat):Int)):Int)≠0 /\
   (zg m1 s2.2.1 1 λa6=>
   (stP a6 [.int .u32 (u32.wrap ((u64.wrap (((qu .or .u64 (u64.wrap (s2.1*2 ^ (min (32:Int).toNat u64.bits))) (u64.wrap (x5))):Int).tdiv (u64.wrap ((b:Nat):Int))))))] (λh3=>
   (((u64.wrap ((b:Nat):Int)):Int)≠0 /\
   (k3 (((qu .or .u64 (u64.wrap (s2.1*2 ^ (min (32:Int).toNat u64.bits))) (u64.wrap (x5))):Int).tmod (u64.wrap ((b:Nat):Int)),(i64.wrap (s2.2.1-1)),()) h3))) h2)))) h2)))
   (Kf s2.1 h2)))
   (0,(i64.wrap ((x.len:Int)-1)),()) h1):=by
 have lx:=hx.len;refine Zp (λst h'=>∃(k rem:Nat) (r:List Nat),st=((rem:Int),(k:Int)-1,())/\k<=l.length/\rem<b/\Yl h h' m1 r/\okW r/\r.length=l.length/\vl (l.drop k)=b*vl (r.drop k)+rem)
  (λst=>(st.2.1+1).toNat) ⟨l.length,0,_,by rw[lx,w64 (by omega)];rfl,Ja _,hb,ho,z7w _,by simp,by rw[Uu (Ja _),Uu (by simp)];rfl⟩ ?_
 rintro st h2 ⟨k,rem,r,rfl,hk,hrem,ho2,okr,hrl,hv⟩;refine ze (λh3=>?_) (λh3=>?_)
 . obtain⟨j,rfl⟩:∃j,k=j+1:=⟨k-1,by have:(k:Int)-1>=0:=h3;omega⟩;have hj:j<l.length:=by omega
   have hw:=Qx ol hj;have hne:u64.wrap (b:Int)≠0:=by rw[zbo hbW];omega
   have hji:((j+1:Nat):Int)-1=(j:Int):=by omega
   simp only[hji];refine⟨by decide,Z6 j (hx.le ho2.1) rfl hj λa ha=>⟨_,ha,hne,?_⟩⟩;refine z0c j _ ho2 rfl (by omega) (zo7 hrem hbW hw) λh5 b5 _ _ _ ho5=>⟨hne,?_⟩
   rw[zsp (by omega) hw,zbo hbW,zo4];refine⟨⟨j,_,_,by rw[w64 (by omega)],by omega,U2 _ hb,ho5,Vn okr (zqr hrem hw),by simp[hrl],zo8 hj hrl hv⟩,by rw[w64 (by omega)];omega⟩
 . obtain rfl:k=0:=by have:¬(k:Int)-1>=0:=h3;omega
   simp only[Tw]at hv;have e1:vl l/b=vl r:=by rw[hv,Nat.mul_add_div hb,Tz hrem];omega
   have e2:vl l % b=rem:=by rw[hv,Nat.mul_add_mod,Uj hrem]
   have:=H h2 r ho2 okr hrl e1.symm;rw[e2]at this;exact this
theorem ziw(hx:RdW h x l)(ol:okW l)(hb:0<b)(hbW:b<W)(hl:l.length<=35184372088800)
 (H:∀z w h',h.le h'->RdW h' z (dg (vl l/b))->RdW h' w (dg (vl l % b))->Kp (z,w) h'):zc (F.z01 x b) Kp h:=by
 refine zd (λv h'=>RdW h' v.1 (dg (vl l/b))/\RdW h' v.2 (dg (vl l % b))) (λK' hk=>?_) λ⟨z,w⟩ h' hl hz=>H z w h' hl hz.1 hz.2
 unfold F.z01;have lx:=hx.len;refine z1o l.length l.length (by omega) (by omega) (by omega) (by omega) λm1 h1 hw hw2=>?_
 refine zyo (Kf:=λ(s:Int) h2=>zc (F.zy m1) (λr7 h4=>zc (F.qa s) (λr8 h5=>K' (r7,r8) h5) h4) h2) hx ol hb hbW hl hw2 λh3 r ho okr hrl hv=>?_
 refine z1w ho.rdW (by omega) λz hz=>?_
 rw[Qn okr,hv]at hz;have:=U2 (vl l) hb;refine z2e rfl (by unfold W at hbW;omega) λw h4 hl4 hw4=>hk _ _ (Hp.le_trans ho.1 hl4) ⟨hz.le hl4,hw4⟩
theorem zyn(hx:RdW h x l)(ol:okW l)(hb:0<b)(hbW:b<W)(hl:l.length<=35184372088800)
 (H:∀z h',h.le h'->RdW h' z (dg (vl l/b))->Kq (z,((vl l % b:Nat):Int)) h'):zc (F.zcr x b) Kq h:=by
 refine zd (λv h'=>RdW h' v.1 (dg (vl l/b))/\v.2=((vl l % b:Nat):Int)) (λK' hk=>?_) λ⟨z,w⟩ h' hl hz=>by
  obtain⟨h1,h2⟩:=hz;simp only at h1 h2;subst h2;exact H z h' hl h1
 unfold F.zcr;have lx:=hx.len;refine z1o l.length l.length (by omega) (by omega) (by omega) (by omega) λm1 h1 hw hw2=>?_
 refine zyo (Kf:=λ(s:Int) h2=>zc (F.Yf m1) (λr7 h4=>K' (r7,u32.wrap s) h4) h2) hx ol hb hbW hl hw2 λh3 r ho okr hrl hv=>?_
 refine Ws ho.rdW (by omega) λz hz=>?_
 rw[Qn okr,hv]at hz;have:=U2 (vl l) hb;exact hk _ _ ho.1 ⟨hz,zim (by omega)⟩
theorem Z9o{s:Nat}(hs:s<=32):(2:Int) ^ (min ((s:Int)).toNat u64.bits)=((2 ^ s:Nat):Int):=by
 have:min ((s:Int)).toNat u64.bits=s:=by show min s 64=s;omega
 rw[this];simp
theorem Z9p{s:Nat}(hs:s<=32):(2:Int) ^ (min ((s:Int)).toNat u32.bits)=((2 ^ s:Nat):Int):=by
 have:min ((s:Int)).toNat u32.bits=s:=by show min s 32=s;omega
 rw[this];simp
theorem zl7{s:Nat}(hs:s<=32):2 ^ s<=W:=by
 show 2 ^ s<=2 ^ 32;exact Th (by decide) hs
theorem zdn{s:Nat}(hs:s<=32):2 ^ s*2 ^ (32-s)=W:=by
 rw[<-T1,show s+(32-s)=32 by omega];rfl
theorem zqc{s w:Nat}(hs:s<=32)(hw:w<W):u64.wrap (u64.wrap (w:Int)*2 ^ (min ((s:Int)).toNat u64.bits))=((w*2 ^ s:Nat):Int):=by
 rw[Z9o hs,zbo hw,show((w:Int)*((2 ^ s:Nat):Int))=((w*2 ^ s:Nat):Int)by simp];refine z3i ?_;have h1:=zl7 hs;have:w*2 ^ s<W*W:=Nat.mul_lt_mul_of_lt_of_le hw h1 Wz;unfold W at this;omega
theorem zqb{s w:Nat}(hs:s<=32):w*2 ^ s % W=2 ^ s*(w % 2 ^ (32-s)):=by
 rw[<-zdn hs,J8 w,Nat.mul_mod_mul_left]
theorem Zal{s w:Nat}(hs:s<=32)(hw:w<W):w*2 ^ s/W<2 ^ s:=by
 rw[Gj Wz,J8];exact Nat.mul_lt_mul_of_pos_left hw (Gs s)
theorem zwv{s c w:Nat}(hs:s<=32)(hc:c<2 ^ s):c ||| (w*2 ^ s % W)=c+w*2 ^ s % W:=by
 rw[zqb hs,Nat.or_comm,<-Nat.two_pow_add_eq_or_of_lt hc,Nat.add_comm]
theorem Zq6{s c w:Nat}(hs:s<=32)(hc:c<2 ^ s):c+w*2 ^ s % W<W:=by
 rw[<-zwv hs hc];exact Nat.or_lt_two_pow (n:=32) (Tb hc (zl7 hs)) (U2 _ Wz)
theorem Zk5{s:Nat}(hx:RdW h x l)(ol:okW l)(hs:s<=31)(hl:l.length<=35184372088800)
 (H:∀z h' r,Yl h h' z r->okW r->r.length=l.length+1->vl r=vl l*2 ^ s->Ks z h'):F.Xv x (s:Int) Ks h:=by
 unfold F.Xv;have lx:=hx.len;refine z1o (l.length+1) (l.length+1) (by rw[w64 (by omega)];omega) (by rw[w64 (by omega)];omega) (by omega) (by omega) λm1 h1 hw hw2=>?_
 refine Zp (λst h'=>∃(i:Nat) (r:List Nat),st=((i:Int),())/\i<=l.length/\Yl h h' m1 r/\okW r/\r.length=l.length+1/\(∃hi:i<r.length,r[i]<2 ^ s)/\vl (r.take (i+1))=vl (l.take i)*2 ^ s)
  (λst=>((l.length:Int)-st.1).toNat) ⟨0,_,rfl,Ga _,hw2,z7w _,by simp,⟨by simp,by simpa using Gs s⟩,by rw[Yi (by simp)];simp[vl]⟩ ?_
 rintro st h2 ⟨i,r,rfl,hi,ho,okr,hrl,⟨hi1,hc⟩,hv⟩;refine ze (λh3=>?_) (λh3=>?_)
 . have hi':i<l.length:=by have:(i:Int)<(x.len:Int):=h3;omega
   have hw:=Qx ol hi';refine Z6 i (hx.le ho.1) rfl hi' λa ha=>⟨_,ha,by omega,?_⟩
   refine Z6 i ho.rdW rfl hi1 λa2 ha2=>⟨_,ha2,?_⟩
   rw[zqc (by omega) hw,ze4];have e1:=zwv (w:=l[i]) (by omega) hc;have e2:=Zq6 (w:=l[i]) (by omega) hc;refine z0c i (r[i]+l[i]*2 ^ s % W) ho rfl hi1 ?_ λh5 b5 _ _ _ ho5=>⟨by decide,?_⟩
   . rw[Zh1 (Qx okr hi1) (U2 _ Wz),e1]
   . rw[zij];have e3:=Zal (s:=s) (by omega) hw;have e4:l[i]*2 ^ s/W<W:=Tb e3 (zl7 (by omega));refine z0c (i+1) (l[i]*2 ^ s/W) ho5 (by rw[w64 (by omega)];rfl) (by simp;omega) (zim e4) λh6 b6 _ _ _ ho6=>?_
     have hlen:i+1<((r.set i (r[i]+l[i]*2 ^ s % W)).set (i+1) (l[i]*2 ^ s/W)).length:=by simp;omega
     refine⟨⟨i+1,_,by rw[w64 (by omega)];rfl,by omega,ho6,Vn (Vn okr e2) e4,by simp[hrl],⟨hlen,by rw[Pv];exact e3⟩,?_⟩,by rw[w64 (by omega)];omega⟩;rw[V7 (by simp;omega),V7 hi1,Yi hi',Js,<-hv,Yi hi1,U6,Gu];have e:=Pf (l[i]*2 ^ s) W;have e5:=congrArg (W ^ i*·) e;simp only[Gu]at e5;rw[J4,J4];omega
 . have hi':i=l.length:=by have:¬(i:Int)<(x.len:Int):=h3;omega
   subst hi';rw[Jd (l:=l) (Ja _),Jd (by omega)]at hv;exact H _ _ r ho okr hrl hv
theorem zlu{s:Nat}(hx:RdW h x l)(ol:okW l)(hs:s<=31)(hl:l.length<=35184372088800)
 (H:∀z h' r,Yl h h' z r->okW r->r.length=l.length+1->vl r=vl l*2 ^ s->Ks z h'):zc (F.Xv x (s:Int)) Ks h:=
 zd (λz h'=>∃r,Yl h h' z r/\okW r/\r.length=l.length+1/\vl r=vl l*2 ^ s) (λK' hk=>Zk5 hx ol hs hl λz h' r h1 h2 h3 h4=>hk z h' h1.1 ⟨r,h1,h2,h3,h4⟩) λz h' _ ⟨r,h1,h2,h3,h4⟩=>H z h' r h1 h2 h3 h4
theorem zny{s:Nat}(hx:RdW h x l)(ol:okW l)(hs:s<=31)(hl:l.length<=35184372088800)
 (H:∀z h' r,Yl h h' z r->okW r->r.length=l.length+1->vl r=vl l*2 ^ s->Ks z h'):zc (F.z5i x (s:Int)) Ks h:=
 zlu hx ol hs hl H
theorem ztg{s u v:Nat}(hs:s<=32)(hu:u<W):(u/2 ^ s) ||| (v*2 ^ (32-s) % W)=u/2 ^ s+2 ^ (32-s)*(v % 2 ^ s):=by
 have h1:u/2 ^ s<2 ^ (32-s):=by
  rw[Gj (Gs s),J8,zdn hs];exact hu
 rw[zwv (by omega) h1,zqb (by omega),show 32-(32-s)=s by omega]
theorem zxh{s u v:Nat}(hs:s<=32)(hu:u<W):u/2 ^ s+2 ^ (32-s)*(v % 2 ^ s)<W:=by
 rw[<-ztg hs hu];exact Nat.or_lt_two_pow (n:=32) (Gb (T8 _ _) hu) (U2 _ Wz)
theorem ztf{r l:List Nat}{s i z0:Nat}(hs:s<=32)(hi:i<l.length)(hrl:r.length=l.length)
 (hv:2 ^ s*vl (r.take i)+z0=vl (l.take i)+W ^ i*(l.getD i 0 % 2 ^ s)) :
 2 ^ s*vl ((r.set i (l[i]/2 ^ s+2 ^ (32-s)*(l.getD (i+1) 0 % 2 ^ s))).take (i+1))+z0=vl (l.take (i+1))+W ^ (i+1)*(l.getD (i+1) 0 % 2 ^ s):=by
 rw[V7 (by omega),Yi hi];rw[z3n hi]at hv;have e:=Nat.div_add_mod l[i] (2 ^ s);have p:=zdn hs;rw[U6];generalize l.getD (i+1) 0 % 2 ^ s=A at *;generalize 2 ^ (32-s)=Q at *;generalize 2 ^ s=S at *;generalize W ^ i=P at *;generalize l[i] % S=B at *;generalize l[i]/S=C at *;generalize l[i]=D at *;generalize vl (r.take i)=R at *;generalize vl (l.take i)=L at *;rw[<-p,<-e];clear hrl hi hs e p
 grind
theorem zzq{r l:List Nat}{s:Nat}(hrl:r.length=l.length)(hv:2 ^ s*vl (r.take l.length)+l.getD 0 0 % 2 ^ s=vl (l.take l.length)+W ^ l.length*(l.getD l.length 0 % 2 ^ s)):vl r=vl l/2 ^ s:=by
 rw[Jd (l:=r) (by omega),Jd (Ja _),z1h (Ja _),Nat.zero_mod,T3,Uy]at hv;rw[<-hv,Nat.mul_add_div (Gs s),Tz (U2 _ (Gs s)),Uy]
theorem zqd{s w:Nat}(hs:s<=32):((w:Int)).fdiv (2 ^ (min ((s:Int)).toNat u32.bits))=((w/2 ^ s:Nat):Int):=by
 rw[Z9p hs];exact(Int.ofNat_fdiv w (2 ^ s)).symm
theorem Z29{s w:Nat}(hs:s<=32):((w:Int)).fdiv (2 ^ (min ((s:Int)).toNat u64.bits))=((w/2 ^ s:Nat):Int):=by
 rw[Z9o hs];exact(Int.ofNat_fdiv w (2 ^ s)).symm
theorem Zao{s:Nat}(hx:RdW h x l)(ol:okW l)(hs:s<=31)(hl:l.length<=35184372088800)
 (H:∀z h' r,h.le h'->RdW h' z r->okW r->r.length=l.length->vl r=vl l/2 ^ s->Ks z h'):zc (F.z02 x (s:Int)) Ks h:=by
 refine zd (λz h'=>∃r,RdW h' z r/\okW r/\r.length=l.length/\vl r=vl l/2 ^ s) (λK' hk=>?_) λz h' hl ⟨r,h1,h2,h3,h4⟩=>H z h' r hl h1 h2 h3 h4
 unfold F.z02;have lx:=hx.len;refine z1o l.length l.length (by omega) (by omega) (by omega) (by omega) λm1 h1 hw hw2=>?_
 refine Zp (λst h'=>∃(i:Nat) (r:List Nat),st=((i:Int),())/\i<=l.length/\Yl h h' m1 r/\okW r/\r.length=l.length/\2 ^ s*vl (r.take i)+l.getD 0 0 % 2 ^ s=vl (l.take i)+W ^ i*(l.getD i 0 % 2 ^ s))
  (λst=>((l.length:Int)-st.1).toNat) ⟨0,_,rfl,Ga _,hw2,z7w _,by simp,by simp[vl]⟩ ?_
 rintro st h2 ⟨i,r,rfl,hi,ho,okr,hrl,hv⟩;refine ze (λh3=>?_) (λh3=>?_)
 . have hi':i<l.length:=by have:(i:Int)<(x.len:Int):=h3;omega
   have hw:=Qx ol hi';have e2:=zxh (s:=s) (v:=l.getD (i+1) 0) (by omega) hw;have e3:=ztf (by omega) hi' hrl hv;refine zh (λ_ h'=>∃r',Yl h h' m1 r'/\r'=r.set i (l[i]/2 ^ s+2 ^ (32-s)*(l.getD (i+1) 0 % 2 ^ s))) ?_ ?_
   . rintro _ h4 ⟨r',ho4,rfl⟩;exact⟨⟨i+1,_,by rw[w64 (by simp only;omega)];rfl,by omega,ho4,Vn okr e2,by simp[hrl],e3⟩,by simp only;rw[w64 (by omega)];omega⟩
   . refine Z6 i (hx.le ho.1) rfl hi' λa ha=>⟨_,ha,by omega,?_⟩
     refine z0c i (l[i]/2 ^ s) ho rfl (by omega) (zqd (by omega)) λh5 b5 _ _ _ ho5=>?_
     have wi:i64.wrap ((i:Int)+1)=((i+1:Nat):Int):=by rw[w64 (by omega)];rfl
     have ws:i64.wrap (32-(s:Int))=((32-s:Nat):Int):=by rw[w64 (by omega)];omega
     simp only[wi,ws];refine ze (λh6=>?_) (λh6=>?_)
     . have hi2:i+1<l.length:=by omega
       have hw2:=Qx ol hi2;refine Z6 i ho5.rdW rfl (by simp;omega) λa2 ha2=>⟨_,ha2,?_⟩
       refine Z6 (i+1) (hx.le ho5.1) rfl hi2 λa3 ha3=>⟨_,ha3,by omega,?_⟩
       rw[zqc (by omega) hw2,ze4,Pv,Zh1 (Gb (T8 _ _) hw) (U2 _ Wz),ztg (by omega) hw];refine z0c i _ ho5 rfl (by simp;omega) rfl λh7 b7 _ _ _ ho7=>⟨_,ho7,?_⟩
       rw[List.set_set,z3n hi2]
     . have hi2:l.length<=i+1:=by omega
       refine⟨_,ho5,?_⟩;rw[z1h hi2];simp
 . have hi':i=l.length:=by have:¬(i:Int)<(x.len:Int):=h3;omega
   subst hi';exact hk _ _ ho.1 ⟨r,ho.rdW,okr,hrl,zzq hrl hv⟩
theorem Z31{s u v:Nat}(hs:s<=31)(hu:u<W)(hv:v<W):u32.wrap ((((v*W+u:Nat):Int)).fdiv (2 ^ (min ((s:Int)).toNat u64.bits)))=((u/2 ^ s+2 ^ (32-s)*(v % 2 ^ s):Nat):Int):=by
 rw[Z29 (by omega),ze4];have e:(v*W+u)/2 ^ s=u/2 ^ s+v*2 ^ (32-s):=by
  rw[<-zdn (s:=s) (by omega)];rw[show v*(2 ^ s*2 ^ (32-s))=2 ^ s*(v*2 ^ (32-s))by rw[<-J4,J8 v,J4]];rw[Nat.mul_add_div (Gs s),Nat.add_comm]
 rw[e,Nat.add_mod,zqb (by omega),show 32-(32-s)=s by omega];have h1:=zxh (s:=s) (v:=v) (by omega) hu;rw[Uj (a:=u/2 ^ s) (Gb (T8 _ _) hu),Uj h1]
theorem Z0b{s:Nat}(hx:RdW h x l)(ol:okW l)(hs:s<=31)(hl:l.length<=35184372088800)
 (H:∀z h',h.le h'->RdW h' z (dg (vl l/2 ^ s))->Ks z h'):zc (F.zao x (s:Int)) Ks h:=by
 refine zd _ (λK' hk=>?_) H;unfold F.zao;have lx:=hx.len;refine z1o l.length l.length (by omega) (by omega) (by omega) (by omega) λm1 h1 hw hw2=>?_
 refine Zp (λst h'=>∃(i:Nat) (r:List Nat),st=((i:Int),())/\i<=l.length/\Yl h h' m1 r/\okW r/\r.length=l.length/\2 ^ s*vl (r.take i)+l.getD 0 0 % 2 ^ s=vl (l.take i)+W ^ i*(l.getD i 0 % 2 ^ s))
  (λst=>((l.length:Int)-st.1).toNat) ⟨0,_,rfl,Ga _,hw2,z7w _,by simp,by simp[vl]⟩ ?_
 rintro st h2 ⟨i,r,rfl,hi,ho,okr,hrl,hv⟩;refine ze (λh3=>?_) (λh3=>?_)
 . have hi':i<l.length:=by have:(i:Int)<(x.len:Int):=h3;omega
   have hw:=Qx ol hi';have hw1:=Va ol (i+1);have e2:=zxh (s:=s) (v:=l.getD (i+1) 0) (by omega) hw;have e3:=ztf (by omega) hi' hrl hv;have wi:i64.wrap ((i:Int)+1)=((i+1:Nat):Int):=by rw[w64 (by omega)];rfl
   refine Z6 i (hx.le ho.1) rfl hi' λa ha=>⟨_,ha,?_⟩
   refine zh (λs h'=>h'=h2/\s=(((l.getD (i+1) 0*W+l[i]:Nat):Int),())) ?_ ?_
   . rintro _ h4 ⟨rfl,rfl⟩;refine⟨by omega,?_⟩;simp only;rw[Z31 hs hw hw1];refine z0c i _ ho rfl (by omega) rfl λh5 b5 _ _ _ ho5=>?_
     exact⟨⟨i+1,_,by rw[wi],by omega,ho5,Vn okr e2,by simp[hrl],e3⟩,by rw[wi];omega⟩
   . simp only[wi];refine ze (λh6=>?_) (λh6=>?_)
     . have hi2:i+1<l.length:=by omega
       refine Z6 (i+1) (hx.le ho.1) rfl hi2 λa3 ha3=>⟨_,ha3,by omega,by trivial,?_⟩
       rw[z3n hi2]at hw1 |-
       congr 1;rw[zbo hw,show(u64.wrap (l[i+1]:Int))=(l[i+1]:Int) from zbo hw1];have e5:u64.wrap ((l[i+1]:Int)*2 ^ (min (32:Int).toNat u64.bits))=((l[i+1]*2 ^ 32:Nat):Int):=by
        have:=zqc (s:=32) (by omega) hw1;rw[zbo hw1]at this;exact this
       rw[e5,Zq5 (by unfold W at *;omega) (by unfold W at *;omega),Nat.or_comm,J8,<-Nat.two_pow_add_eq_or_of_lt hw];unfold W;congr 1;omega
     . have hi2:l.length<=i+1:=by omega
       refine⟨by trivial,?_⟩;rw[z1h hi2,zbo hw];simp
 . have hi':i=l.length:=by have:¬(i:Int)<(x.len:Int):=h3;omega
   subst hi';refine Ws ho.rdW (by omega) λz hz=>?_
   rw[Qn okr,zzq hrl hv]at hz;exact hk _ _ ho.1 hz
end
end Den
end

section
namespace Iv
theorem zko{X V P w v1 v2 u num qh rh:Nat}(hX:X<(num*w+u+1)*P)(hV:(v1*w+v2)*P<=V)(hV0:0<V)(hnum:qh*v1+rh=num)
 (hlt:X<V*w) (hc:w<=qh\/rh*w+u<qh*v2):X/V<qh:=by
 rw[Gj hV0];rcases hc with hc | hc
 . exact Tb hlt (by rw[J8];exact Jj _ hc)
 . have h1:num*w+u+1<=qh*(v1*w+v2):=by
    rw[<-hnum,Gu,Js,<-J4];omega
   have h2:(num*w+u+1)*P<=qh*((v1*w+v2)*P):=by
    rw[<-J4];exact Jj _ h1
   have h3:qh*((v1*w+v2)*P)<=qh*V:=G4 _ hV;omega
theorem zkp{X V P w v1 v2 u num qh rh un un1:Nat}(hw:1<w)(hX:(num*w+u)*P<=X)(hV:V<(v1*w+v2+1)*P)(hV0:0<V)(hP:0<P)(hnum:qh*v1+rh=num)(hn:num=un*w+un1)
 (hv1:w<=2*v1) (hun:un<=v1) (hun1:un1<w) (hv2:v2<w) (hu:u<w)
 (hc:w<=rh\/(qh<w/\qh*v2<=rh*w+u)):qh<w/\qh<=X/V+1:=by
 have hv1p:0<v1:=by omega
 have h1:qh<w:=by
  rcases hc with hc | hc
  . have h2:un*w<=v1*w:=Jj _ hun;have h3:qh*v1<w*v1:=by rw[J8 w v1];omega
    exact Nat.lt_of_mul_lt_mul_right h3
  . exact hc.1
 refine⟨h1,?_⟩;have h2:qh*v2<=rh*w+u:=by
  rcases hc with hc | hc
  . have a1:qh*v2<=w*w:=Nat.mul_le_mul (by omega) (by omega);have a2:w*w<=rh*w:=Jj _ hc;omega
  . exact hc.2
 have h3:qh*(v1*w+v2)<=num*w+u:=by
  rw[<-hnum,Gu,Js,<-J4];omega
 rcases Tc qh with h0 | h0
 . rw[h0];exact Ga _
 obtain⟨q1,rfl⟩:∃q1,qh=q1+1:=⟨qh-1,by omega⟩;have h4:q1*(v1*w+v2+1)<=num*w+u:=by
  rw[Gu,J7];rw[Js]at h3;have:w<=v1*w:=Nat.le_mul_of_pos_left _ hv1p;omega
 have h5:q1*V<=X:=by
  have a1:q1*V<=q1*((v1*w+v2+1)*P):=G4 _ (Li hV);have a2:q1*((v1*w+v2+1)*P)<=(num*w+u)*P:=by
   rw[<-J4];exact Jj _ h4
  omega
 exact Nat.succ_le_succ ((Pw hV0).2 h5)
theorem Zp7{l:List Nat}(ok:okW l){n:Nat}(hl:l.length=n+2):∃P lo,P=W ^ n/\lo<P/\vl l=(l.getD (n+1) 0*W+l.getD n 0)*P+lo/\lo=vl (l.take n):=by
 refine⟨W ^ n,vl (l.take n),rfl,?_,?_,rfl⟩
 . have:=zbe (z5e ok n);rw[Jl,Gk (by omega)]at this;exact this
 . have e1:=Den.z69 l n;have e2:=Den.z69 l (n+1);rw[Jd (by omega)]at e2;rw[e2,e1,U6,Js,J4 (l.getD (n+1) 0),J8 (W ^ n) W,J8 (l.getD (n+1) 0),J8 (l.getD n 0)];omega
theorem Zst{l:List Nat}(ok:okW l){n:Nat}(hl:l.length=n+3):∃P lo,P=W ^ n/\lo<P/\vl l=((l.getD (n+2) 0*W+l.getD (n+1) 0)*W+l.getD n 0)*P+lo:=by
 obtain⟨P,lo,h1,h2,h3,h4⟩:=Zp7 ok (n:=n+1) (by omega);refine⟨W ^ n,vl (l.take n),rfl,?_,?_⟩
 . have:=zbe (z5e ok n);rw[Jl,Gk (by omega)]at this;exact this
 . rw[h3,h4,Den.z69,h1,U6];have:(l.getD (n+2) 0*W+l.getD (n+1) 0)*(W ^ n*W)=(l.getD (n+2) 0*W+l.getD (n+1) 0)*W*W ^ n:=by
    rw[J8 (W ^ n) W,J4]
   rw[this,Js _ (l.getD n 0),J8 (l.getD n 0)];omega
theorem zb5{l:List Nat}(ok:okW l){a b:Nat}(h:vl (l.drop a)<W ^ b):vl (l.drop (a+b))=0:=by
 rcases Jo (l.drop a).length b with h1 | h1
 . rw[Uu (by rw[Gg]at h1;omega)];rfl
 . have:=qb (l:=l.drop a) (k:=b) h1;rw[T7]at this;rcases Tc (vl (l.drop (a+b)))with h2 | h2
   . exact h2
   . have:W ^ b<=W ^ b*vl (l.drop (a+b)):=Nat.le_mul_of_pos_right _ h2;omega
end Iv
namespace Den
open Go Iv
theorem LeX.refl{b:Nat}{h:Hp}:LeX b h h:=λ_ _ _ hk=>hk
theorem LeX.trans{b:Nat}{h h1 h2:Hp}(x:LeX b h h1)(y:LeX b h1 h2):LeX b h h2:=λk B hne hk=>y k B hne (x k B hne hk)
theorem z2f{x:Sl}{j e:Nat}{i:Int}{k:Nat}{F:Addr->Prop}(hi:i=k)(hk:k<e-j)(he:e<=x.cap)(H:zg x ((j+k:Nat):Int) 1 F):zg (x.cut j e 1) i 1 F:=by
 subst hi;obtain⟨_,_,h3⟩:=H;refine⟨by omega,?_,?_⟩
 . show(k:Int)<((e-j:Nat):Int);omega
 . have:(x.cut j e 1).a=x.a.map (·.add (j*1)):=by show(if x.cap=j then _ else _)=_;rw[if_neg (by omega)]
   rw[this];cases ha:x.a with
   | none=>rw[ha]at h3;exact h3
   | some a=>
     rw[ha]at h3;simp only[Ye,U0]at h3 |-
     rw[W7];have e1:(((j+k:Nat):Int)).toNat=j+k:=rfl;have e2:((k:Int)).toNat=k:=rfl;rw[e1]at h3;rw[e2];rw[show j*1+k*1=(j+k)*1 by omega];exact h3
theorem zqe{x:Sl}{lo hi:Int}{K:Sl->Prop}(a b:Nat)(ha:lo=a)(hb:hi=b)(hab:a<=b)(hc:b<=x.cap)(H:K (x.cut a b 1)):slP x lo hi 1 K:=by
 subst ha hb;exact⟨by omega,by omega,by omega,H⟩
section
variable {h0 h : Hp} {u y : Sl} {L m : List Nat} {a0 : Addr} {j d : Nat} {Kb : Bool → Hp → Prop} {Ku : Unit → Hp → Prop}
theorem z67{i:Int}{v:Int}{K:Hp->Prop}(k n:Nat)(ha0:u.a=some a0)(ho:Yl h0 h u L)(hi:i=k)(hk:k<L.length)(hv:v=n)
 (H:∀h',LeX a0.block h h'->Yl h0 h' u (L.set k n)->K h'):zg u i 1 λa=>stP a [.int .u32 v] K h:=
 z0c k n ho hi hk hv λh' b h1 _ h3 h4=>H h' (by rw[h1 _ ha0];exact h3) h4
theorem Zaw{x d c z:Nat}(hx:x<W)(hd:d<W)(hc:c<=W)(hz:z<W):∃r b:Nat,r<W/\b<=W/\z+W*b=r+(x*d+c) /\
 u32.wrap (u64.wrap (u64.wrap (z:Int)-u64.wrap (u32.wrap (u64.wrap (u64.wrap (u64.wrap (x:Int)*(d:Int))+(c:Int))))))=(r:Int) /\
 u64.wrap ((u64.wrap (u64.wrap (u64.wrap (x:Int)*(d:Int))+(c:Int))).fdiv (2 ^ (min (32:Int).toNat u64.bits)) +
  (u64.wrap (u64.wrap (z:Int)-u64.wrap (u32.wrap (u64.wrap (u64.wrap (u64.wrap (x:Int)*(d:Int))+(c:Int)))))).fdiv (2 ^ (min (63:Int).toNat u64.bits)))=(b:Int):=by
 unfold W at *;have hxd:x*d<=4294967295*4294967295:=Nat.mul_le_mul (by omega) (by omega);have e1:u64.wrap (u64.wrap (u64.wrap (x:Int)*(d:Int))+(c:Int))=((x*d+c:Nat):Int):=by
  rw[z3i (n:=x) (by omega),show((x:Int)*(d:Int))=((x*d:Nat):Int)by simp,z3i (n:=x*d) (by omega),show(((x*d:Nat):Int)+(c:Int))=((x*d+c:Nat):Int)by simp,z3i (by omega)]
 rw[e1,Zdu,Zq0];simp only[zbg,zo9];have ht:x*d+c<=4294967295*4294967295+4294967296:=by omega
 generalize x*d+c=t at *;by_cases hb:t % 4294967296<=z
 . exact⟨z-t % 4294967296,t/4294967296,by omega,by omega,by omega,by omega,by omega⟩
 . exact⟨z+4294967296-t % 4294967296,t/4294967296+1,by omega,by omega,by omega,by omega,by omega⟩
theorem z9x{L:List Nat}{j k v:Nat}(hj:j<=k):(L.set k v).take j=L.take j:=by
 apply List.ext_getElem
 . simp
 . intro i h1 h2;simp only[Jl]at h1 h2;simp only[List.getElem_take];rw[Pp (by omega)]
theorem z9w{L:List Nat}{k e v:Nat}(hk:k<e):(L.set k v).drop e=L.drop e:=by
 rw[List.drop_set_of_lt hk]
theorem Zk7(ha0:u.a=some a0)(ho:Yl h0 h u L)(okL:okW L)(hy:RdW h y m)(okm:okW m)(hne:∀a,y.a=some a->a.block≠a0.block)(hj:j+m.length<L.length)(hd:d<W)(hL:L.length<=35184372088800+1)
 (H:∀h' L' b,LeX a0.block h h'->Yl h0 h' u L'->okW L'->L'.length=L.length->L'.take j=L.take j->L'.drop (j+m.length+1)=L.drop (j+m.length+1)->b<=1 ->
   vl L'+W ^ j*(d*vl m)=vl L+W ^ (j+m.length+1)*b->Kb ((b:Int)==1) h'):F.z1j (u.cut j (j+m.length+1) 1) y (d:Int) Kb h:=by
 unfold F.z1j;have ly:=hy.len;have lu:=ho.len;have lc:=ho.2.2.1;refine Zp (λst h'=>∃(c i:Nat) (L':List Nat),st=((c:Int),(i:Int),())/\i<=m.length/\c<=W/\LeX a0.block h h'/\Yl h0 h' u L'/\okW L'/\L'.length=L.length/\L'.take j=L.take j/\L'.drop (j+m.length+1)=L.drop (j+m.length+1) /\
  vl L'+W ^ j*(d*vl (m.take i))=vl L+W ^ (j+i)*c) (λst=>((m.length:Int)-st.2.1).toNat) ⟨0,0,L,rfl,Ga _,by omega,LeX.refl,ho,okL,rfl,rfl,rfl,by simp[vl]⟩ ?_
 rintro st h1 ⟨c,i,L',rfl,hi,hc,hle,ho1,okL',hLL,htk,hdr,hv⟩;have hy1:=hy.leX hle hne;refine ze (λh3=>?_) (λh3=>?_)
 . have hi':i<m.length:=by have:(i:Int)<(y.len:Int):=h3;omega
   have hx:=Qx okm hi';have hz:=Qx okL' (k:=j+i) (by omega);refine Z6 i hy1 rfl hi' λa ha=>⟨_,ha,?_⟩
   refine z2f rfl (by omega) (by omega) (Z6 (j+i) ho1.rdW rfl (by omega) λa2 ha2=>⟨_,ha2,?_⟩);obtain⟨r,b,hr,hb,he,e1,e2⟩:=Zaw hx hd hc hz;refine z2f rfl (by omega) (by omega) (z67 (j+i) r ha0 ho1 rfl (by omega) e1 λh5 hl5 ho5=>⟨by decide,by decide,?_⟩);refine⟨⟨b,i+1,L'.set (j+i) r,?_,by omega,hb,hle.trans hl5,ho5,Vn okL' hr,by simp[hLL],by rw[z9x (by omega)];exact htk,by rw[z9w (by omega)];exact hdr,?_⟩,by simp only;rw[w64 (by omega)];omega⟩
   . rw[w64 (by simp only;omega)];simp only[Prod.mk.injEq,and_true];exact⟨e2,rfl⟩
   . have e3:=zb6 (l:=L') (k:=j+i) (v:=r) (by omega);rw[Yi hi'];generalize vl (L'.set (j+i) r)=V at *;generalize L'[j+i]=z at *;generalize m[i]=x at *;generalize vl (m.take i)=T at *;generalize vl L'=V' at *;generalize vl L=V0 at *;have p1:W ^ (j+(i+1))=W ^ (j+i)*W:=by rw[<-Pd,U6]
     have p2:W ^ (j+i)=W ^ j*W ^ i:=T1 ..;rw[p1];generalize W ^ (j+i)=P at *;subst p2;generalize W ^ j=Pj at *;generalize W ^ i=Pi at *;clear H e1 e2 hdr htk hLL okL' okL
     grind
 . have hi':i=m.length:=by have:¬(i:Int)<(y.len:Int):=h3;omega
   subst hi';have hz:=Qx okL' (k:=j+m.length) (by omega);rw[Jd (Ja _)]at hv;refine z2f (k:=m.length) (by omega) (by omega) (by omega) (Z6 (j+m.length) ho1.rdW rfl (by omega) λa2 ha2=>⟨_,ha2,?_⟩);have key:∃r b:Nat,r<W/\b<=1/\L'[j+m.length]+W*b=r+c/\u32.wrap (u64.wrap (u64.wrap (L'[j+m.length]:Int)-(c:Int)))=(r:Int) /\
    (u64.wrap (u64.wrap (L'[j+m.length]:Int)-(c:Int))).fdiv (2 ^ (min (63:Int).toNat u64.bits))=(b:Int):=by
    rw[Zdu];simp only[zbg,zo9];unfold W at *;generalize L'[j+m.length]=z at *;clear H;by_cases hb:c<=z
    . exact⟨z-c,0,by omega,by omega,by omega,by omega,by omega⟩
    . exact⟨z+4294967296-c,1,by omega,by omega,by omega,by omega,by omega⟩
   obtain⟨r,b,hr,hb,he,e1,e2⟩:=key;refine z2f (k:=m.length) (by omega) (by omega) (by omega) (z67 (j+m.length) r ha0 ho1 rfl (by omega) e1 λh5 hl5 ho5=>⟨by decide,?_⟩);simp only;rw[e2];refine H h5 _ b (hle.trans hl5) ho5 (Vn okL' hr) (by simp[hLL]) (by rw[z9x (by omega)];exact htk) (by rw[z9w (by omega)];exact hdr) hb ?_;have e3:=zb6 (l:=L') (k:=j+m.length) (v:=r) (by omega);rw[U6];generalize vl (L'.set (j+m.length) r)=V at *;generalize L'[j+m.length]=z at *;generalize W ^ (j+m.length)=P at *;have e4:=congrArg (P*·) he;simp only[Gu]at e4;rw[J4];omega
theorem zx4(ha0:u.a=some a0)(ho:Yl h0 h u L)(okL:okW L)(hy:RdW h y m)(okm:okW m)(hne:∀a,y.a=some a->a.block≠a0.block)(hj:j+m.length<L.length)(hL:L.length<=35184372088800+1)
 (H:∀h' L' c,LeX a0.block h h'->Yl h0 h' u L'->okW L'->L'.length=L.length->L'.take j=L.take j->L'.drop (j+m.length+1)=L.drop (j+m.length+1)->c<=1 ->
   vl L'+W ^ (j+m.length+1)*c=vl L+W ^ j*vl m->Ku () h'):F.z2r (u.cut j (j+m.length+1) 1) y Ku h:=by
 unfold F.z2r;have ly:=hy.len;have lu:=ho.len;have lc:=ho.2.2.1;refine Zp (λst h'=>∃(c i:Nat) (L':List Nat),st=((c:Int),(i:Int),())/\i<=m.length/\c<=1/\LeX a0.block h h'/\Yl h0 h' u L'/\okW L'/\L'.length=L.length/\L'.take j=L.take j/\L'.drop (j+m.length+1)=L.drop (j+m.length+1) /\
  vl L'+W ^ (j+i)*c=vl L+W ^ j*vl (m.take i)) (λst=>((m.length:Int)-st.2.1).toNat) ⟨0,0,L,rfl,Ga _,by omega,LeX.refl,ho,okL,rfl,rfl,rfl,by simp[vl]⟩ ?_
 rintro st h1 ⟨c,i,L',rfl,hi,hc,hle,ho1,okL',hLL,htk,hdr,hv⟩;have hy1:=hy.leX hle hne;refine ze (λh3=>?_) (λh3=>?_)
 . have hi':i<m.length:=by have:(i:Int)<(y.len:Int):=h3;omega
   have hx:=Qx okm hi';have hz:=Qx okL' (k:=j+i) (by omega);refine Z6 i hy1 rfl hi' λa ha=>⟨_,ha,?_⟩
   refine z2f rfl (by omega) (by omega) (Z6 (j+i) ho1.rdW rfl (by omega) λa2 ha2=>⟨_,ha2,?_⟩);have e0:u64.wrap ((c:Int)+u64.wrap (u64.wrap (L'[j+i]:Int)+u64.wrap (m[i]:Int)))=((c+(L'[j+i]+m[i]):Nat):Int):=by
    clear H;unfold W at *;simp only[zbg];omega
   simp only;rw[e0];refine z2f rfl (by omega) (by omega) (z67 (j+i) _ ha0 ho1 rfl (by omega) (ze4 _) λh5 hl5 ho5=>⟨by decide,?_⟩);rw[zij];refine⟨⟨_,i+1,_,by rw[w64 (by omega)];rfl,by omega,?_,hle.trans hl5,ho5,Vn okL' (U2 _ Wz),by simp[hLL],by rw[z9x (by omega)];exact htk,by rw[z9w (by omega)];exact hdr,?_⟩,by rw[w64 (by omega)];omega⟩
   . clear H;unfold W at *;omega
   . have e3:=zb6 (l:=L') (k:=j+i) (v:=(c+(L'[j+i]+m[i])) % W) (by omega);have he:=Pf (c+(L'[j+i]+m[i])) W;rw[Yi hi'];generalize vl (L'.set (j+i) ((c+(L'[j+i]+m[i])) % W))=V at *;generalize (c+(L'[j+i]+m[i])) % W=r at *;generalize (c+(L'[j+i]+m[i]))/W=q at *;generalize L'[j+i]=z at *;generalize m[i]=x at *;generalize vl (m.take i)=T at *;generalize vl L'=V' at *;generalize vl L=V0 at *;have p1:W ^ (j+(i+1))=W ^ (j+i)*W:=by rw[<-Pd,U6]
     have p2:W ^ (j+i)=W ^ j*W ^ i:=T1 ..;rw[p1];generalize W ^ (j+i)=P at *;subst p2;generalize W ^ j=Pj at *;generalize W ^ i=Pi at *;clear H e0 hdr htk hLL okL' okL
     grind
 . have hi':i=m.length:=by have:¬(i:Int)<(y.len:Int):=h3;omega
   subst hi';have hz:=Qx okL' (k:=j+m.length) (by omega);rw[Jd (Ja _)]at hv;refine z2f (k:=m.length) (by omega) (by omega) (by omega) (Z6 (j+m.length) ho1.rdW rfl (by omega) λa2 ha2=>⟨_,ha2,?_⟩);have e1:u32.wrap ((L'[j+m.length]:Int)+u32.wrap (c:Int))=(((c+L'[j+m.length]) % W:Nat):Int):=by
    clear H;unfold W at *;simp only[zo9];omega
   refine z2f (k:=m.length) (by omega) (by omega) (by omega) (z67 (j+m.length) _ ha0 ho1 rfl (by omega) e1 λh5 hl5 ho5=>?_);refine H h5 _ ((c+L'[j+m.length])/W) (hle.trans hl5) ho5 (Vn okL' (U2 _ Wz)) (by simp[hLL]) (by rw[z9x (by omega)];exact htk) (by rw[z9w (by omega)];exact hdr) (by clear H;unfold W at *;omega) ?_;have e3:=zb6 (l:=L') (k:=j+m.length) (v:=(c+L'[j+m.length]) % W) (by omega);have he:=Pf (c+L'[j+m.length]) W;rw[U6];generalize vl (L'.set (j+m.length) ((c+L'[j+m.length]) % W))=V at *;generalize (c+L'[j+m.length]) % W=r at *;generalize (c+L'[j+m.length])/W=q at *;generalize L'[j+m.length]=z at *;generalize W ^ (j+m.length)=P at *;have e4:=congrArg (P*·) he;simp only[Gu]at e4;rw[J4];omega
end
end Den
end

section
set_option maxRecDepth 4000
namespace Iv
theorem zm6{l:List Nat}{n:Nat}(hl:l.length=n+1):vl l=vl (l.take n)+W ^ n*l[n]:=by
 have:=Yi (l:=l) (k:=n) (by omega);rw[Jd (by omega)]at this;exact this
theorem Zin{B n:Nat}(hn:(dg B).length=n+1):(dg B)[n]≠0:=by
 intro h0;have h1:=zm6 hn;rw[h0,T3,Uy,Zt]at h1;have h2:=zbe (z5e (Z5 B) n);rw[Jl,Gk (by omega)]at h2;have:=Y6.2 (show B<W ^ n by omega);omega
theorem zj2{B:Nat}(h:(dg B).length=1):dg B=[B]:=by
 have h1:=Zt B
 match hd:dg B,h with
 | [x],_=>
   rw[hd]at h1;simp only[vl,T3,Uy]at h1;rw[h1]
open Den in
theorem zso{B n:Nat}(hn:(dg B).length=n+1):∃s,s=32-bl (dg B)[n]/\bl (dg B)[n]<=32/\s<=31/\W ^ n*2147483648<=B*2 ^ s/\B*2 ^ s<W ^ (n+1):=by
 have h0:=Zin hn;have h1:=Z35 h0;have h2:bl (dg B)[n]<=32:=zjm (Qx (Z5 B) (by omega));have h3:=Zf3 (dg B)[n];have h4:=Zf2 h0;have h5:=zm6 hn;rw[Zt]at h5;have h6:=zbe (z5e (Z5 B) n);rw[Jl,Gk (by omega)]at h6;generalize (dg B)[n]=t at *;refine⟨32-bl t,rfl,h2,by omega,?_,?_⟩
 . have e1:2147483648=2 ^ (bl t-1)*2 ^ (32-bl t):=by
    rw[<-T1,show bl t-1+(32-bl t)=31 by omega]
   rw[e1,<-J4];refine Jj _ ?_;have:=G4 (W ^ n) h4;omega
 . have e1:W ^ (n+1)=W ^ n*2 ^ bl t*2 ^ (32-bl t):=by
    rw[J4,<-T1,show bl t+(32-bl t)=32 by omega,U6];rfl
   rw[e1];refine Nat.mul_lt_mul_of_pos_right ?_ (Gs _);have:=G4 (W ^ n) h3;rw[Nat.mul_succ]at this;omega
theorem win{U U1:List Nat}{j e b Y:Nat}(hl:U1.length=U.length)(hj:j<=U.length)(ht:U1.take j=U.take j)(hv:vl U1+W ^ j*Y=vl U+W ^ (j+e)*b) :
 vl (U1.drop j)+Y=vl (U.drop j)+W ^ e*b:=by
 have h1:=qb hj;have h2:=qb (l:=U1) (k:=j) (by omega);rw[ht]at h2;rw[h1,h2,T1,J4]at hv;have h3:W ^ j*(vl (U1.drop j)+Y)=W ^ j*(vl (U.drop j)+W ^ e*b):=by
  rw[Gu,Gu];omega
 exact Nat.eq_of_mul_eq_mul_left (Nat.pow_pos Wz) h3
theorem Zcx{U U1:List Nat}{j e:Nat}(ok:okW U1)(hj:j+e<=U1.length)(hd:U1.drop (j+e)=U.drop (j+e))(h0:vl (U.drop (j+e))=0):vl (U1.drop j)<W ^ e:=by
 have h1:=qb (l:=U1.drop j) (k:=e) (by rw[Gg];omega);rw[T7,hd,h0,T3,Uy]at h1;rw[h1];have h2:=zbe (z5e (zaj ok j) e);rw[Jl,Gg,Gk (by omega)]at h2;exact h2
theorem Z03{U:List Nat}{j n:Nat}(ok:okW U)(hj:j+n+3<=U.length)(h0:vl (U.drop (j+(n+3)))=0) :
 ∃lo,lo<W ^ n/\vl (U.drop j)=((U.getD (j+(n+2)) 0*W+U.getD (j+(n+1)) 0)*W+U.getD (j+n) 0)*W ^ n+lo:=by
 have h1:=qb (l:=U.drop j) (k:=n+3) (by rw[Gg];omega);rw[T7,h0,T3,Uy]at h1;obtain⟨P,lo,e1,e2,e3⟩:=Zst (l:=(U.drop j).take (n+3)) (n:=n) (z5e (zaj ok j) _) (by rw[Jl,Gg];omega);subst e1;have g:∀i,i<n+3->((U.drop j).take (n+3)).getD i 0=U.getD (j+i) 0:=λi hi=>by
  simp only[Jf,List.getElem?_take,hi,if_true,Gy]
 rw[g _ (by omega),g _ (by omega),g _ (by omega)]at e3;exact⟨lo,e2,h1.trans e3⟩
theorem Zs4{X V P w v1 v2 un:Nat}(hX:un*w*w*P<=X)(hV:V<=(v1*w+v2+1)*P)(hlt:X<V*w)(hv2:v2<w):un<=v1:=by
 rcases Jo v1 un with h | h
 . exfalso;have h1:v1*w+v2+1<=un*w:=by
    have:(v1+1)*w<=un*w:=Jj _ h;rw[Js]at this;omega
   have h2:(v1*w+v2+1)*P<=un*w*P:=Jj _ h1;have h3:V*w<=un*w*P*w:=Jj _ (Jt hV h2);have h4:un*w*P*w=un*w*w*P:=by rw[J4 (un*w),J8 P w,<-J4]
   omega
 . exact h
theorem zs1{U:List Nat}{A s N n V:Nat}(hU:U.length=N+1)(hv:vl U=A*2 ^ s)(hA:A<W ^ N)(hs:s<=31)(hn:n+1<=N)(hV:W ^ n*2147483648<=V):vl (U.drop (N-n))<V:=by
 have h1:=qb (l:=U) (k:=N-n) (by omega);have h2:vl U<W ^ N*2147483648:=by
  rw[hv];exact Nat.mul_lt_mul_of_lt_of_le hA (Th (n:=2) (by decide) hs) (by decide)
 have h3:W ^ N=W ^ (N-n)*W ^ n:=by rw[<-T1];congr 1;omega
 rw[h3,J4]at h2;have h4:W ^ (N-n)*vl (U.drop (N-n))<W ^ (N-n)*V:=by
  have:=G4 (W ^ (N-n)) hV;omega
 exact Nat.lt_of_mul_lt_mul_left h4
theorem ks0{L1:List Nat}{X V qh j e:Nat}(hV:0<V)(hq:X/V<=qh)(hw:vl (L1.drop j)+qh*V=X+W ^ e*0):qh=X/V/\vl (L1.drop j)<V:=by
 rw[T3,Uy]at hw;have h1:qh*V<=X:=by omega
 have h2:=(Pw hV).2 h1;obtain rfl:qh=X/V:=Nat.le_antisymm h2 hq;refine⟨rfl,?_⟩;have h3:=Nat.mod_add_div' X V;have h4:=U2 X hV;omega
theorem ks1{L L1 L2:List Nat}{X V qh j e c:Nat}(hV:0<V)(hq:X/V<=qh)(hq2:qh<=X/V+1)(hX:vl (L.drop j)=X)(hl1:L1.length=L.length)(hl2:L2.length=L1.length)(hj:j<=L.length)
 (ht1:L1.take j=L.take j) (ht2:L2.take j=L1.take j) (hw:vl (L1.drop j)+qh*V=X+W ^ e*1) (hlt1:vl (L1.drop j)<W ^ e) (hlt2:vl (L2.drop j)<W ^ e) (hc:c<=1)
 (hr:vl L2+W ^ (j+e)*c=vl L1+W ^ j*V):qh=X/V+1/\vl L2+W ^ j*(X/V*V)=vl L/\vl (L2.drop j)<V:=by
 rw[J7]at hw;have hmd:=Nat.div_mul_le_self X V;have h1:qh=X/V+1:=by
  rcases Jo (X/V) qh with h | h
  . omega
  . obtain rfl:qh=X/V:=Nat.le_antisymm h hq;omega
 subst h1;have k0:=qb hj;have k1:=qb (l:=L1) (k:=j) (by omega);have k2:=qb (l:=L2) (k:=j) (by omega);rw[hX]at k0;rw[ht2]at k2;rw[ht1]at k1 k2;have h3:vl (L2.drop j)+W ^ e*c=vl (L1.drop j)+V:=by
  have e1:W ^ j*(vl (L2.drop j)+W ^ e*c)=W ^ j*(vl (L1.drop j)+V):=by
   rw[Gu,Gu,<-J4 (W ^ j),<-T1];rw[k1,k2]at hr;omega
  exact Nat.eq_of_mul_eq_mul_left (Nat.pow_pos Wz) e1
 rw[Js]at hw;have hc1:c=1:=by
  rcases Tc c with h | h
  . subst h;rw[T3,Uy]at h3;omega
  . omega
 subst hc1;have hf:vl (L2.drop j)+X/V*V=X:=by omega
 refine⟨rfl,?_,?_⟩
 . rw[k2,k0];have:=congrArg (W ^ j*·) hf;simp only[Gu]at this;omega
 . have h5:=Nat.mod_add_div' X V;have h6:=U2 X hV;omega
theorem znc{X V P v1 v2 un un1 un2:Nat}(hP:0<P)(hv1:0<v1)(hV:(v1*W+v2)*P<=V)(hX:X<((un*W+un1)*W+un2+1)*P)(hu:un2<W):X/V<=(un*W+un1)/v1:=by
 rw[Pw hv1];have h5:X/V*V<=X:=Nat.div_mul_le_self X V;have h6:X/V*(v1*W*P)<=X/V*V:=G4 _ (Jt (Jj _ (Nat.le_add_right _ v2)) hV);have h7:X/V*v1*(W*P)<(un*W+un1+1)*(W*P):=by
  have e1:X/V*(v1*W*P)=X/V*v1*(W*P):=by rw[J4 v1,<-J4]
  have e2:((un*W+un1)*W+un2+1)*P<=(un*W+un1+1)*(W*P):=by
   rw[<-J4];refine Jj _ ?_;rw[Js _ 1];omega
  omega
 have:=Nat.lt_of_mul_lt_mul_right h7;omega
theorem ztw{L:List Nat}{j V:Nat}(ok:okW L)(hj:j<L.length)(hlt:vl (L.drop (j+1))<V):vl (L.drop j)<V*W:=by
 rw[Ux hj];simp only[vl];have:=Qx ok hj;have h5:W*(vl (L.drop (j+1))+1)<=W*V:=G4 _ hlt;rw[Gu,J8 W V]at h5;omega
theorem ztr{V v1 v2 lo n:Nat}(hV:W ^ (n+1)*2147483648<=V)(hV2:V=(v1*W+v2)*W ^ n+lo)(hlo:lo<W ^ n)(hv2:v2<W):W<=2*v1:=by
 have e1:W ^ (n+1)*2147483648<(v1+1)*W ^ (n+1):=by
  refine Gb hV ?_;rw[hV2,U6,Js,Js];have:v2*W ^ n+W ^ n<=W ^ n*W:=by
   rw[<-Nat.succ_mul,J8];exact G4 _ hv2
  rw[J4 _ W,J8 W];omega
 rw[J8]at e1;have:=Nat.lt_of_mul_lt_mul_right e1;unfold W;omega
theorem zrp{A V s k j q:Nat}{L L2 r:List Nat}(hk:k=j+1)(hval:A*2 ^ s=V*(W ^ k*vl (r.drop k))+vl L)(hv:vl L2+W ^ j*(q*V)=vl L)(hj:j<r.length) :
 A*2 ^ s=V*(W ^ j*vl ((r.set j q).drop j))+vl L2:=by
 subst hk;rw[Ux (l:=r.set j q) (by simpa using hj),Pv,List.drop_set_of_lt (by omega)];simp only[vl];rw[hval,<-hv,U6,Gu,Gu,J4 (W ^ j)];have e1:V*(W ^ j*q)=W ^ j*(q*V):=by
  rw[J8 V,J4]
 omega
theorem zsn{V n:Nat}(hVl:W ^ (n+1)*2147483648<=V)(hVu:V<W ^ (n+2)):(dg V).length=n+2:=by
 have e1:=Y6.2 hVu;have e2:W ^ (n+1)<=V:=Jt (Nat.le_mul_of_pos_right _ (by decide)) hVl;rcases Jo (dg V).length (n+2)with h3 | h3
 . exfalso;have:=(Y6 (n:=V) (k:=n+1)).1 (by omega);omega
 . omega
end Iv
namespace Den
open Go Iv
def zh9:ByteArray:=zL4
theorem zwn:∀i:Fin 256,(BS zh9)[i.val]?=some (bl i.val).toUInt8:=by decide +kernel
theorem bl8:∀i:Fin 256,((bl i.val).toUInt8).toNat=bl i.val:=by decide +kernel
theorem zwo{c:Nat}{K:Int->Prop}{i:Int}(hc:c<256)(hi:i=c)(H:K ((bl c:Nat):Int)):qy zh9 i K:=by
 have h1:=zwn ⟨c,hc⟩;have h2:=bl8 ⟨c,hc⟩;simp only at h1 h2;have hlen:c<(BS zh9).length:=by
  rcases Jo c (BS zh9).length with h | h
  . exact h
  . rw[J5 h]at h1;cases h1
 have h3:(BS zh9)[c]=(bl c).toUInt8:=by
  rw[Jc hlen]at h1;exact Option.some.inj h1
 refine z19 (k:=c) (c:=(bl c).toUInt8) (r:=(BS zh9).drop (c+1)) ?_ hi ?_
 . rw[Ux hlen,h3]
 . rw[h2];exact H
section
variable {h : Hp} {x y : Sl} {l m : List Nat} {Ks : Sl → Hp → Prop} {Ki : Int → Hp → Prop}
theorem zub{t:Nat}(ht:t<W)(H:Ki ((bl t:Nat):Int) h):zc (F.z2s (t:Int)) Ki h:=by
 refine zx _ (λK' hk=>?_) H;unfold F.z2s;have p8:∀n:Nat,((n:Int)).fdiv (2 ^ (min (8:Int).toNat u32.bits))=((n/2 ^ 8:Nat):Int):=λn=>zqd (s:=8) (by omega)
 have p16:∀n:Nat,((n:Int)).fdiv (2 ^ (min (16:Int).toNat u32.bits))=((n/2 ^ 16:Nat):Int):=λn=>zqd (s:=16) (by omega)
 refine zh (λs h'=>h'=h/\∃a b:Nat,s=((a:Int),(b:Int),())/\a<65536/\b<=16/\bl t=bl a+b) ?_ ?_
 . rintro _ h' ⟨rfl,a,b,rfl,ha,hb,he⟩;refine zh (λs h2=>h2=h'/\∃c d:Nat,s=((c:Int),(d:Int),())/\c<256/\d<=24/\bl t=bl c+d) ?_ ?_
   . rintro _ h2 ⟨rfl,c,d,rfl,hc,hd,he2⟩;have hbl:bl c<=32:=zjm (by omega);refine zwo (c:=c) hc ?_ ?_
     . simp[Pe,G0,G6];omega
     . simp only;rw[Zq1 (by omega),show(d:Int)+((bl c:Nat):Int)=((bl t:Nat):Int)by omega,Zq1 (by omega)];exact hk
   . refine ze (λh1=>⟨by decide,?_⟩) (λh1=>?_)
     . have h2:a>=256:=by simp only at h1;omega
       refine⟨by trivial,a/2 ^ 8,b+8,?_,by omega,by omega,?_⟩
       . simp only;rw[p8,w64 (by omega)];rfl
       . rw[he,zjn (n:=a) (k:=8) h2];omega
     . have h2:a<256:=by simp only at h1;omega
       exact⟨by trivial,a,b,rfl,h2,by omega,he⟩
 . refine ze (λh1=>⟨by decide,?_⟩) (λh1=>?_)
   . have h2:t>=65536:=by omega
     refine⟨rfl,t/2 ^ 16,16,?_,by unfold W at ht;omega,by omega,?_⟩
     . rw[p16];rfl
     . rw[zjn (n:=t) (k:=16) h2]
   . have h2:t<65536:=by omega
     exact⟨rfl,t,0,rfl,h2,by omega,rfl⟩
theorem zdy{t:Nat}(ht:t<W)(hb:bl t<=32)(H:Ki ((32-bl t:Nat):Int) h):zc (F.Xh (t:Int)) Ki h:=by
 refine zx _ (λK' hk=>?_) H;unfold F.Xh;refine zub ht ?_;rw[w64 (by omega),show(32:Int)-((bl t:Nat):Int)=((32-bl t:Nat):Int)by omega];exact hk
theorem zsd{n:Nat}(hx:RdW h x (dg n))(hl:(dg n).length<=35184372088800)(H:Ki (if h0:(dg n).length=0 then 0 else ((32*((dg n).length-1)+bl (dg n)[(dg n).length-1]:Nat):Int)) h):zc (F.z3x x) Ki h:=by
 refine zx _ (λK' hk=>?_) H;unfold F.z3x;have lx:=hx.len;refine zu (λh1=>?_) (λh1=>?_)
 . rw[dif_pos (by omega)]at hk;exact hk
 . obtain⟨N,hN⟩:∃N,(dg n).length=N+1:=⟨(dg n).length-1,by omega⟩;rw[dif_neg (by omega)]at hk;have ht:=Qx (Z5 n) (k:=N) (by omega);have hbt:bl (dg n)[N]<=32:=zjm ht;have e1:(dg n)[(dg n).length-1]'(by omega)=(dg n)[N]'(by omega):=by congr 1;omega
   rw[e1]at hk;refine Z6 N hx (by rw[lx,hN,w64 (by omega)];omega) (by omega) λa ha=>⟨_,ha,?_⟩
   refine Zp (λst h'=>h'=h/\∃c t:Nat,st=((c:Int),(t:Int),())/\t<W/\c+bl t=bl (dg n)[N]) (λst=>st.2.1.toNat) ⟨rfl,0,_,rfl,ht,by omega⟩ ?_;rintro st h' ⟨rfl,c,t,rfl,htW,he⟩;refine ze (λh3=>⟨by decide,?_⟩) (λh3=>?_)
   . simp only at h3 |-
     have h4:t≠0:=by omega
     have h5:=Zdg h4;have e2:((t:Int)).tdiv 2=((t/2:Nat):Int):=zo3 t 2;rw[e2,zim (by omega)];exact⟨⟨by trivial,c+1,t/2,by rw[w64 (by omega)];rfl,by omega,by omega⟩,by omega⟩
   . have h4:t=0:=by simp only at h3;omega
     subst h4;have h5:c=bl (dg n)[N]:=by rw[Zdi]at he;omega
     simp only[h5];clear H he h5;generalize bl (dg n)[N]=q at *;have e3:i64.wrap (i64.wrap (32*i64.wrap ((x.len:Int)-1))+((q:Nat):Int))=((32*((dg n).length-1)+q:Nat):Int):=by
      rw[lx,hN,w64 (n:=((N+1:Nat):Int)-1) (by omega),w64 (n:=32*(((N+1:Nat):Int)-1)) (by omega),w64 (by omega)];omega
     rw[e3];exact hk
end
end Den
end

section
set_option maxHeartbeats 4000000
namespace Den
open Go Iv
theorem Own.some{h0 h:Hp}{x:Sl}{l:List Nat}(ho:Yl h0 h x l)(hl:0<l.length):∃a,x.a=some a/\h0 a.block=none/\h a.block≠none:=by
 have hlen:=ho.len;obtain⟨h1,h2,h3,h4⟩:=ho;cases ha:x.a with
 | none=>rw[ha]at h4;simp only at h4;omega
 | some a=>
   rw[ha]at h4;obtain⟨_,_,g3,b,g4,_⟩:=h4;exact⟨a,rfl,g3,by rw[g4];exact λhh=>by cases hh⟩
section
variable {h : Hp} {x y : Sl} {l m : List Nat} {Ks : Sl → Hp → Prop} {Ki : Int → Hp → Prop} {Kp : (Sl × Sl) → Hp → Prop}
theorem Z1t(q:Nat):(((q+1:Nat):Int)-1)=(q:Int):=by omega
theorem Vz{i:Int}{Ka:Addr->Prop}(k:Nat)(hr:RdW h x l)(hi:i=k)(hk:k<l.length)
 (H:∀a,h.cell a=some (.int .u32 ((l.getD k 0:Nat):Int))->Ka a):zg x i 1 Ka:=
 Z6 k hr hi hk λa ha=>H a (by rw[z3n hk];exact ha)
theorem Z0q{A B:Nat}(hx:RdW h x (dg A))(hy:RdW h y (dg B))(hB:B≠0)(hl:(dg A).length<=35184372088000)(hl2:(dg B).length<=35184372088000)
 (H:∀q r h',h.le h'->RdW h' q (dg (A/B))->RdW h' r (dg (A % B))->Kp (q,r) h'):F.Wi x y Kp h:=by
 unfold F.Wi;have lx:=hx.len;have ly:=hy.len;refine za8 hx hy (by omega) (by omega) ?_;unfold za5;by_cases hAB:A<B
 . rw[if_pos hAB];refine Z4 rfl ?_;refine zei hx (by omega) λz h1 hl1 hz=>H _ _ _ hl1 ?_ ?_
   . rw[Tz hAB,qz];exact RdW.nil
   . rw[Uj hAB];exact hz
 rw[if_neg hAB];refine zr (by split<;>rfl) ?_;have hBl:=W9 (Nat.le_of_not_lt hAB);have hB0:(dg B).length≠0:=λh0=>hB (z0v.1 (Ud.1 h0))
 refine ze (λh1=>?_) (λh1=>?_)
 . refine z92 hx (Z5 A) (by omega) λh2 hl2=>?_
   refine z92 (hy.le hl2) (Z5 B) (by omega) λh3 hl3=>?_
   rw[Zt,Zt];have hA64:A<18446744073709551616:=by
    have:=(Y6 (n:=A) (k:=2)).1 (by omega);have e:W ^ 2=18446744073709551616:=by decide
    omega
   have hq:A/B<=A:=T8 A B;have hr:A % B<=A:=Nat.mod_le A B;refine⟨by omega,by omega,?_⟩;rw[zo3,zo4,z3i (by omega)];refine z2e rfl (by omega) λz h4 hl4 hz=>z2e rfl (by omega) λw h5 hl5 hw=>?_
   exact H _ _ _ (Hp.le_trans hl2 (Hp.le_trans hl3 (Hp.le_trans hl4 hl5))) (hz.le hl5) hw
 refine zu (λh2=>?_) (λh2=>?_)
 . have hB1:=zj2 (B:=B) (by omega);have hBW:B<W:=by
    have:=Z5 B B (by rw[hB1];exact J6.2 rfl);exact this
   refine Vz 0 hy rfl (by omega) λa ha=>⟨_,ha,?_⟩
   have e0:(dg B).getD 0 0=B:=by rw[hB1];rfl
   rw[e0];refine ziw hx (Z5 A) (Tt hB) hBW (by omega) λz w h3 hl3 hz hw=>?_
   rw[Zt]at hz hw;exact H _ _ _ hl3 hz hw
 obtain⟨n,hn⟩:∃n,(dg B).length=n+2:=⟨(dg B).length-2,by omega⟩;obtain⟨N,hN⟩:∃N,(dg A).length=N:=⟨_,rfl⟩;obtain⟨s,hs,hbl,hs31,hVl,hVu⟩:=zso (B:=B) (n:=n+1) hn;refine Z6 (n+1) hy (by rw[ly,hn,w64 (by omega)];omega) (by omega) λa ha=>⟨_,ha,?_⟩
 have htW:=Qx (Z5 B) (k:=n+1) (by omega);refine zdy htW hbl ?_;rw[<-hs];refine zlu hx (Z5 A) hs31 (by omega) λu h9 U ho9 okU hUl hUv=>?_
 rw[Zt]at hUv;refine zlu (hy.le ho9.1) (Z5 B) hs31 (by omega) λv0 h10 V0 ho10 okV0 hV0l hV0v=>?_
 rw[Zt]at hV0v;refine zm3 ho10.rdW (by omega) λv hv hsub=>?_
 rw[Qn okV0,hV0v]at hv;generalize hV:B*2 ^ s=V at *;have hVpos:0<V:=Tb (Nat.mul_pos (Nat.pow_pos Wz) (by decide)) hVl;have hVn:(dg V).length=n+2:=zsn hVl hVu;have lu:=ho9.len;have lv:=hv.len;have hN2:n+2<=N:=by omega
 refine z1o (N-n-1) (N-n-1) (by rw[lu,lv,w64 (by omega)];omega) (by rw[lu,lv,w64 (by omega)];omega) (by omega) (by omega) λq h12 hq ho12=>?_
 obtain⟨a13,ha13,hb13,hc13⟩:=Own.some ho9 (by omega);obtain⟨a16,ha16,hb16,hc16⟩:=Own.some ho12 (by simp;omega);have hlh:h.le h10:=Hp.le_trans ho9.1 ho10.1;have hb16h:h a16.block=none:=Hp.none_of_le hlh hb16;have ne16:a13.block≠a16.block:=λhh=>by
  have h3:=Hp.none_of_le ho10.1 hb16;rw[<-hh]at h3;exact hc13 h3
 have hvne:∀a,v.a=some a->a.block≠a13.block/\a.block≠a16.block:=λa ha=>by
  obtain⟨a',h3,h4⟩:=hsub a ha;rw[h4];constructor
  . exact zf8 ho9 ho10 a13 a' ha13 h3 |>.symm
  . exact zf8 ho10 ho12 a' a16 h3 ha16
 have hne13:∀a,v.a=some a->a.block≠a13.block:=λa ha=>(hvne a ha).1
 have hne16:∀a,v.a=some a->a.block≠a16.block:=λa ha=>(hvne a ha).2
 have hu16:∀a,u.a=some a->a.block≠a16.block:=λa ha=>by rw[ha13]at ha;cases ha;exact ne16
 have hq13:∀a,q.a=some a->a.block≠a13.block:=λa ha=>by rw[ha16]at ha;cases ha;exact ne16.symm
 have hou:Yl h h12 u U:=(ho9.le ho10.1).le ho12.1;have hoq:Yl h h12 q (Jr (N-n-1) 0):=ho12.base hlh;have hv12:RdW h12 v (dg V):=hv.le ho12.1;obtain⟨P,lo2,hP,hlo2,hVtop,_⟩:=Zp7 (Z5 V) (n:=n) hVn;rw[Zt]at hVtop;have hv1:(dg V).getD (n+1) 0<W:=Va (Z5 V) _;have hv2:(dg V).getD n 0<W:=Va (Z5 V) _;refine Vz (n+1) hv12 (by rw[lv,hVn,w64 (by omega)];omega) (by omega) λa1 ha1=>⟨_,ha1,?_⟩
 refine Vz n hv12 (by rw[lv,hVn,w64 (by omega)];omega) (by omega) λa2 ha2=>⟨_,ha2,?_⟩
 generalize hgv1:(dg V).getD (n+1) 0=v1 at *;generalize hgv2:(dg V).getD n 0=v2 at *;subst hP;have hv1b:W<=2*v1:=ztr hVl hVtop hlo2 hv2;have hAl:A<W ^ N:=Y6.1 (by omega);have hfirst:vl (U.drop (N-(n+1)))<V:=zs1 (n:=n+1) (by omega) hUv hAl hs31 (by omega) hVl;refine Zp (λst h'=>∃(k:Nat) (L r:List Nat),st=((k:Int)-1,())/\k<=N-n-1/\Yl h h' u L/\okW L/\L.length=N+1/\Yl h h' q r/\okW r/\r.length=N-n-1/\RdW h' v (dg V) /\
  vl (L.drop k)<V/\A*2 ^ s=V*(W ^ k*vl (r.drop k))+vl L) (λst=>(st.1+1).toNat)
  ⟨N-n-1,U,_,by rw[hq,w64 (by omega)],Ja _,hou,okU,by omega,hoq,z7w _,by simp,hv12,by rw[show N-n-1=N-(n+1)by omega];exact hfirst,by rw[Uu (by simp),hUv];simp[vl]⟩ ?_
 rintro st h3 ⟨k,L,r,rfl,hk,hoL,okL,hLl,hor,okr,hrl,hv3,hlt,hval⟩;have llu:=hoL.len;have hucap:=hoL.2.2.1;refine ze (λh4=>?_) (λh4=>?_)
 . obtain⟨j,rfl⟩:∃j,k=j+1:=⟨k-1,by have:(k:Int)-1>=0:=h4;omega⟩;have hji:((j+1:Nat):Int)-1=(j:Int):=by omega
   have wj:i64.wrap ((j:Int)+(v.len:Int))=((j+(n+2):Nat):Int):=by rw[lv,hVn,w64 (by omega)];omega
   have wj1:i64.wrap (((j+(n+2):Nat):Int)-1)=((j+(n+1):Nat):Int):=by rw[w64 (by omega)];omega
   have wj2:i64.wrap (((j+(n+2):Nat):Int)-2)=((j+n:Nat):Int):=by rw[w64 (by omega)];omega
   have wj3:i64.wrap (((j+(n+2):Nat):Int)+1)=((j+(n+2)+1:Nat):Int):=by rw[w64 (by omega)];omega
   simp only[hji,wj,wj1,wj2,wj3];have hlt2:vl (L.drop (j+1))<W ^ (n+2):=Nat.lt_trans hlt hVu;have hz0:vl (L.drop (j+(n+3)))=0:=by
    have:=zb5 okL hlt2;rw[show j+1+(n+2)=j+(n+3)by omega]at this;exact this
   obtain⟨lo,hlo,hX⟩:=Z03 (n:=n) okL (j:=j) (by omega) hz0;have hun:L.getD (j+(n+2)) 0<W:=Va okL _;have hun1:L.getD (j+(n+1)) 0<W:=Va okL _;have hun2:L.getD (j+n) 0<W:=Va okL _;have hXV:vl (L.drop j)<V*W:=ztw okL (by omega) hlt;refine Vz (j+(n+2)) hoL.rdW rfl (by omega) λa3 ha3=>⟨_,ha3,by decide,?_⟩
   refine Vz (j+(n+1)) hoL.rdW rfl (by omega) λa4 ha4=>⟨_,ha4,?_⟩
   generalize hX0:vl (L.drop j)=X at *;generalize L.getD (j+(n+2)) 0=un at *;generalize L.getD (j+(n+1)) 0=un1 at *;generalize hun2e:L.getD (j+n) 0=un2 at *;have hv1p:0<v1:=by unfold W at hv1b;omega
   have hv1ne:u64.wrap (v1:Int)≠0:=by rw[zbo hv1];omega
   have hnum:un*W+un1<18446744073709551616:=by unfold W at *;omega
   rw[zbo hun,zsp hun hun1,zbo hv1,zo3,zo4,z3i (n:=(un*W+un1)/v1) (Gb (T8 _ _) hnum)];refine⟨by omega,by omega,?_⟩;have hPpos:0<W ^ n:=Nat.pow_pos Wz;have hVle:(v1*W+v2)*W ^ n<=V:=by rw[hVtop];omega
   have hVlt:V<(v1*W+v2+1)*W ^ n:=by rw[hVtop,Js _ 1];omega
   have hXle:((un*W+un1)*W+un2)*W ^ n<=X:=by omega
   have hXlt:X<((un*W+un1)*W+un2+1)*W ^ n:=by rw[Js _ 1];omega
   have hunv:un<=v1:=by
    refine Zs4 (X:=X) (V:=V) (P:=W ^ n) (w:=W) (v1:=v1) (v2:=v2) ?_ (Li hVlt) hXV hv2;refine Jt (Jj _ ?_) hXle;rw[Js];omega
   have hqW:X/V<W:=(Gj hVpos).2 (by rw[J8];exact hXV);refine zh (λst h'=>h'=h3/\∃qh:Nat,st=((qh:Int),())/\qh<W/\X/V<=qh/\qh<=X/V+1) ?_ ?_
   . rintro _ h' ⟨rfl,qh,rfl,hqh,hq1,hq2⟩;refine zh (λst h5=>st=(((X/V:Nat):Int),())/\∃L2,LeX a13.block h' h5/\Yl h h5 u L2/\okW L2/\L2.length=N+1/\vl L2+W ^ j*(X/V*V)=vl L/\vl (L2.drop j)<V) ?_ ?_
     . rintro _ h5 ⟨rfl,L2,hle5,hoL2,okL2,hL2l,hv2L,hL2V⟩;have hor5:Yl h h5 q r:=hor.leX hle5 hb13 hq13;refine z67 j (X/V) ha16 hor5 rfl (by omega) (zim hqW) λh6 hl6 ho6=>?_
       exact⟨⟨j,L2,_,by rw[w64 (by omega)],by omega,hoL2.leX hl6 hb16h hu16,okL2,hL2l,ho6,Vn okr hqW,by simp[hrl],(hv3.leX hle5 hne13).leX hl6 hne16,hL2V,zrp rfl hval hv2L (by omega)⟩,by rw[w64 (by omega)];omega⟩
     . refine zqe j (j+(n+2)+1) rfl rfl (by omega) (by omega) ?_;refine Xm ?_;have e0:j+(n+2)+1=j+(dg V).length+1:=by omega
       rw[e0];refine Zk7 ha13 hoL okL hv3 (Z5 V) hne13 (by omega) hqh (by omega) λh6 L1 b hle6 hoL1 okL1 hL1l htk hdr hb hsv=>?_
       rw[Zt,hVn]at hsv;rw[hVn]at hdr;have hwin:=win (e:=n+2+1) hL1l (by omega) htk (by rw[<-Pd];exact hsv);rw[hX0]at hwin;have hlt1:vl (L1.drop j)<W ^ (n+2+1):=Zcx okL1 (by omega) (by rw[<-Pd];exact hdr) hz0;refine zu (λhb1=>?_) (λhb1=>?_)
       . obtain rfl:b=1:=by omega
         refine zqe j (j+(dg V).length+1) rfl (by rw[hVn]) (by omega) (by have:=hoL1.2.2.1;have:=hoL1.len;omega) ?_;refine Xm ?_;refine zx4 ha13 hoL1 okL1 (hv3.leX hle6 hne13) (Z5 V) hne13 (by omega) (by omega) λh7 L2 c hle7 hoL2 okL2 hL2l htk2 hdr2 hc hrv=>?_
         rw[Zt,hVn]at hrv;rw[hVn]at hdr2;have hz1:vl (L1.drop (j+(n+2+1)))=0:=by rw[<-Pd,hdr,Pd];exact hz0
         have hlt2:vl (L2.drop j)<W ^ (n+2+1):=Zcx okL2 (by omega) (by rw[<-Pd];exact hdr2) hz1;obtain⟨rfl,g2,g3⟩:=ks1 hVpos hq1 hq2 hX0 hL1l hL2l (by omega) htk htk2 hwin hlt1 hlt2 hc (by rw[<-Pd];exact hrv);refine⟨?_,L2,hle6.trans hle7,hoL2,okL2,by rw[hL2l,hL1l,hLl],g2,g3⟩;simp only;rw[Z1t,zbo hqW]
       . obtain rfl:b=0:=by omega
         obtain⟨rfl,g2⟩:=ks0 hVpos hq1 hwin;refine⟨rfl,L1,hle6,hoL1,okL1,by rw[hL1l,hLl],?_,g2⟩;rw[T3,Uy]at hsv;exact hsv
   . 
    refine Zp (λst h'=>h'=h3/\∃qh rh:Nat,st=((qh:Int),(rh:Int),())/\qh*v1+rh=un*W+un1/\rh<W/\X/V<=qh/\qh<18446744073709551616) (λst=>st.1.toNat) ⟨rfl,_,_,rfl,by rw[J8];exact Nat.div_add_mod _ _,Tb (U2 _ hv1p) (Li hv1),?_,Gb (T8 _ _) hnum⟩ ?_
    . exact znc hPpos hv1p hVle hXlt hun2
    . rintro _ h' ⟨rfl,qh,rh,rfl,hqr,hrh,hq1,hq64⟩;refine zh (λ_ h5=>h5=h'/\X/V<qh) ?_ ?_
      . rintro _ h5 ⟨rfl,hlt5⟩;have hqp:0<qh:=Gb (Ga _) hlt5;have hqm:X/V<=qh-1:=Nat.le_sub_one_of_lt hlt5;have e1:u64.wrap ((rh:Int)+(v1:Int))=((rh+v1:Nat):Int):=by
         rw[show(rh:Int)+(v1:Int)=((rh+v1:Nat):Int)by omega,z3i (by unfold W at *;omega)]
        have e2:u64.wrap ((qh:Int)-1)=((qh-1:Nat):Int):=by
         rw[show(qh:Int)-1=((qh-1:Nat):Int)by omega,z3i (by omega)]
        have e3:(qh-1)*v1+(rh+v1)=un*W+un1:=by
         obtain⟨q1,rfl⟩:∃q1,qh=q1+1:=⟨qh-1,by omega⟩;rw[Js]at hqr;simp only[Nat.add_sub_cancel];omega
        simp only;rw[e1,e2];refine ze (λh6=>?_) (λh6=>?_)
        . have h7:=zkp (w:=W) (by decide) hXle hVlt hVpos hPpos e3 rfl hv1b hunv hun1 hv2 hun2 (.inl (by unfold W;omega));exact⟨by trivial,qh-1,rfl,h7.1,hqm,h7.2⟩
        . exact⟨⟨by trivial,qh-1,rh+v1,rfl,e3,by unfold W;omega,hqm,by omega⟩,by omega⟩
      . refine ze (λh6=>?_) (λh6=>?_)
        . refine⟨by trivial,?_⟩;simp only at h6;exact zko hXlt hVle hVpos hqr hXV (.inl (by unfold W;omega))
        . simp only at h6;refine⟨by decide,Vz (j+n) hoL.rdW rfl (by omega) λa5 ha5=>⟨_,ha5,?_⟩⟩;have hqW2:qh<W:=by unfold W;omega
          have e1:u64.wrap ((qh:Int)*u64.wrap (v2:Int))=((qh*v2:Nat):Int):=by
           rw[zbo hv2,show(qh:Int)*(v2:Int)=((qh*v2:Nat):Int)by simp];refine z3i ?_;have:qh*v2<=4294967295*4294967295:=Nat.mul_le_mul (by unfold W at *;omega) (by unfold W at *;omega);omega
          rw[hun2e];simp only;rw[e1,zsp hrh hun2];refine ze (λh7=>?_) (λh7=>?_)
          . refine⟨by trivial,?_⟩;exact zko hXlt hVle hVpos hqr hXV (.inr (by omega))
          . have h8:=zkp (w:=W) (by decide) hXle hVlt hVpos hPpos hqr rfl hv1b hunv hun1 hv2 hun2 (.inr ⟨hqW2,by omega⟩);exact⟨by trivial,qh,rfl,h8.1,hq1,h8.2⟩
 . obtain rfl:k=0:=by have:¬(k:Int)-1>=0:=h4;omega
   simp only[Tw,Nat.pow_zero,Nat.one_mul]at hlt hval;have hVq:A/B=vl r:=by
    have h5:A*2 ^ s/(B*2 ^ s)=A/B:=Nat.mul_div_mul_right _ _ (Gs s);rw[hV,hval,Nat.mul_add_div hVpos,Tz hlt,Uy]at h5;exact h5.symm
   have hVr:vl L=A % B*2 ^ s:=by
    have h5:A*2 ^ s % (B*2 ^ s)=A % B*2 ^ s:=Nat.mul_mod_mul_right _ _ _;rw[hV,hval,Nat.mul_add_mod,Uj hlt]at h5;exact h5
   refine zqe 0 (n+2) rfl (by omega) (by omega) (by omega) ?_;have hcut:=hoL.rdW.cut 0 (n+2) (by omega) (by omega);rw[Tw,Nat.sub_zero]at hcut;have hcv:vl (L.take (n+2))=vl L:=by
    have e1:=qb (l:=L) (k:=n+2) (by omega);have e2:=zb5 (a:=0) (b:=n+2) okL (by rw[Tw];exact Nat.lt_trans hlt hVu);rw[Gi]at e2;rw[e2]at e1;omega
   refine z1w hor.rdW (by omega) λz1 hz1=>?_
   rw[Qn okr,<-hVq]at hz1;refine z1w hcut (by rw[Jl];omega) λz2 hz2=>?_
   rw[Qn (z5e okL _),hcv]at hz2;have hz2l:(dg (vl L)).length<=n+2:=Y6.2 (Nat.lt_trans hlt hVu);refine Zao hz2 (Z5 _) hs31 (by omega) λz3 h5 r3 hl5 hz3 okr3 hr3l hr3v=>?_
   rw[Zt,hVr,Nat.mul_div_cancel _ (Gs s)]at hr3v;refine z1w hz3 (by omega) λz4 hz4=>?_
   rw[Qn okr3,hr3v]at hz4;exact H _ _ _ (Hp.le_trans hoL.1 hl5) (hz1.le hl5) hz4
theorem zi2{A B:Nat}(hx:RdW h x (dg A))(hy:RdW h y (dg B))(hB:B≠0)(hl:(dg A).length<=35184372088000)(hl2:(dg B).length<=35184372088000)
 (H:∀q r h',h.le h'->RdW h' q (dg (A/B))->RdW h' r (dg (A % B))->Kp (q,r) h'):zc (F.Wi x y) Kp h:=
 zd (λv h'=>RdW h' v.1 (dg (A/B))/\RdW h' v.2 (dg (A % B))) (λK' hk=>Z0q hx hy hB hl hl2 λq r h' h1 h2 h3=>hk _ _ h1 ⟨h2,h3⟩) λv h' h1 ⟨h2,h3⟩=>H v.1 v.2 h' h1 h2 h3
end
end Den
end
