/- Part 3 of the tools of the proof. -/
import Derived.Test.YtmmloncoopohfaaGreatDoorPartm2
set_option linter.all false
open Go.IntKind
open Den (zO zD zS zV)
open List renaming take_succ_eq_append_getElem→Jc,take_of_length_le→Je,length_cons→Ji,length_take→Jk,replicate→Jl,getElem?_eq_getElem→Jp,length_eq_zero_iff→Ju,drop_eq_getElem_cons→Uf,getD_eq_getElem?_getD→Uj,length_drop→Uv,mem_singleton→Uz,mem_cons→Gk,getElem?_eq_none→G3,drop_eq_nil_of_le→G7,drop_zero→Tf,cons_append→Th,getElem_set_self→Lk,getElem_set_ne→Lu
open Nat renaming le_refl→Jd,le_trans→Jo,mul_le_mul_left→Jr,zero_le→Jt,lt_or_ge→Jx,pow_le_pow_right→Jz,mul_comm→J4,mul_assoc→J6,two_pow_pos→J7,add_mul→J9,pow_succ→Uc,mod_eq_of_lt→Ui,mul_add→U5,mul_one→U6,lt_of_le_of_lt→U7,mod_lt→Ga,min_eq_left→Gh,pow_add→Gm,eq_zero_or_pos→Gs,mul_le_mul→Gt,add_zero→G0,div_le_self→G6,div_lt_iff_lt_mul→Ta,lt_of_lt_of_le→Tc,mul_zero→Tv,pos_of_ne_zero→T6,div_eq_of_lt→Pl,mod_add_div→Pv
open Den.Hp renaming le_refl→Jf,fF→Li
open Option.some renaming injEq→Js
open Int renaming sign_eq_neg_one_of_neg→Us,sign_eq_one_of_pos→Gi
open Go.IntKind renaming bits→Tt,signed→T7
open BitVec renaming ofInt_natCast→Pe,toNat_ofNat→Pf,ofInt→Ld
open Go.Value renaming int→Pt
open Go Den
variable {h:Hp}{x y:Sl}{KI:zY aE}{Ks:zY Sl}{Ki:zY Int}{m:List Nat}
section
set_option maxRecDepth 10000
namespace Den
open Go
structure Tsetsquareref13_Plot where
 r:Sl
 at_:Sl
def Wv:Ty Tsetsquareref13_Plot:=Ty.agg [.sl,.sl] (λx=>(x.r,x.at_,())) (λy=>⟨y.1,y.2.1⟩) (λ_=>rfl) (λ_=>rfl)
structure ag where
 ae:Sl
 af:Sl
def ze:Ty ag:=Ty.agg [.sl,.sl] (λx=>(x.ae,x.af,())) (λy=>⟨y.1,y.2.1⟩) (λ_=>rfl) (λ_=>rfl)
structure aU where
 c:ag
 s:ag
 x:ag
 y:ag
 aS:Bool
def Xh:Ty aU:=Ty.agg [.sl,.sl,.sl,.sl,.sl,.sl,.sl,.sl,.bool] (λx=>(x.c.ae,x.c.af,x.s.ae,x.s.af,x.x.ae,x.x.af,x.y.ae,x.y.af,x.aS,())) (λy=>⟨⟨y.1,y.2.1⟩,⟨y.2.2.1,y.2.2.2.1⟩,⟨y.2.2.2.2.1,y.2.2.2.2.2.1⟩,⟨y.2.2.2.2.2.2.1,y.2.2.2.2.2.2.2.1⟩,y.2.2.2.2.2.2.2.2.1⟩) (λ_=>rfl) (λ_=>rfl)
structure aF where
 x:ag
 y:ag
def zp:Ty aF:=Ty.agg [.sl,.sl,.sl,.sl] (λx=>(x.x.ae,x.x.af,x.y.ae,x.y.af,())) (λy=>⟨⟨y.1,y.2.1⟩,⟨y.2.2.1,y.2.2.2.1⟩⟩) (λ_=>rfl) (λ_=>rfl)
structure ee where
 a:ag
 b:ag
 c:ag
def A5:Ty ee:=Ty.agg [.sl,.sl,.sl,.sl,.sl,.sl] (λx=>(x.a.ae,x.a.af,x.b.ae,x.b.af,x.c.ae,x.c.af,())) (λy=>⟨⟨y.1,y.2.1⟩,⟨y.2.2.1,y.2.2.2.1⟩,⟨y.2.2.2.2.1,y.2.2.2.2.2.1⟩⟩) (λ_=>rfl) (λ_=>rfl)
structure aR where
 ir:Sl
 roots:Sl
def z9g:Ty aR:=Ty.agg [.sl,.sl] (λx=>(x.ir,x.roots,())) (λy=>⟨y.1,y.2.1⟩) (λ_=>rfl) (λ_=>rfl)
structure fg where
 bW:aF
 cS:ag
def zn2:Ty fg:=Ty.agg [.sl,.sl,.sl,.sl,.sl,.sl] (λx=>(x.bW.x.ae,x.bW.x.af,x.bW.y.ae,x.bW.y.af,x.cS.ae,x.cS.af,())) (λy=>⟨⟨⟨y.1,y.2.1⟩,⟨y.2.2.1,y.2.2.2.1⟩⟩,⟨y.2.2.2.2.1,y.2.2.2.2.2.1⟩⟩) (λ_=>rfl) (λ_=>rfl)
structure aW where
 dB:Sl
 bE:Sl
def zn3:Ty aW:=Ty.agg [.sl,.sl] (λx=>(x.dB,x.bE,())) (λy=>⟨y.1,y.2.1⟩) (λ_=>rfl) (λ_=>rfl)
structure gN where
 FU:Sl
 root:Int
def zy2:Ty gN:=Ty.agg [.sl,.int .i64] (λx=>(x.FU,x.root,())) (λy=>⟨y.1,y.2.1⟩) (λ_=>rfl) (λ_=>rfl)
structure eR where
 dir:aF
 full:Int
def A6:Ty eR:=Ty.agg [.sl,.sl,.sl,.sl,.int .i64] (λx=>(x.dir.x.ae,x.dir.x.af,x.dir.y.ae,x.dir.y.af,x.full,())) (λy=>⟨⟨⟨y.1,y.2.1⟩,⟨y.2.2.1,y.2.2.2.1⟩⟩,y.2.2.2.2.1⟩) (λ_=>rfl) (λ_=>rfl)
structure fT where
 part:ag
 dC:Sl
def O6:Ty fT:=Ty.agg [.sl,.sl,.sl] (λx=>(x.part.ae,x.part.af,x.dC,())) (λy=>⟨⟨y.1,y.2.1⟩,y.2.2.1⟩) (λ_=>rfl) (λ_=>rfl)
namespace F
def Xp(n:aC)(K:zY ag)(h:Hp):=Ys [.bool n.num.neg,.slice n.num.ah.a n.num.ah.len n.num.ah.cap,.bool n.den.neg,.slice n.den.ah.a n.den.ah.len n.den.ah.cap] (λp1 h1=>(K ⟨zd,⟨some p1,1,1⟩⟩ h1)) h
def zet(num:Int)(den:Int)(K:zY ag)(h:Hp):=za (Kn num den) (λr1=>za (Xp r1) (λr2 h2=>(K r2 h2))) h
def Ko(a:Sl)(i:Int)(K:zY Bool)(h:Hp):=zx (S:=Int×Unit) (λs1 k2 h1=>(zW (s1.1<(a.len:Int)) (zy (S:=Unit) (λs3 h2=>(k2 ((i64.wrap (s1.1+1)),()) h2)) (λk4=>(0<=(i:Int) /\ ((2:Int)≠0 /\ (ak (((((s1.1:Int).fdiv (2 ^ (min (i:Int).toNat i64.bits))):Int).tmod 2)==1) (zi a s1.1 4 λa5=>(zH a5 (λdw dZ fw eQ=>(za (OE ⟨⟨dw,dZ⟩,⟨fw,eQ⟩⟩) (λr7 h3=>(ak (r7 != 0) (K true h3) (k4 () h3))) h1)) h1)) (k4 () h1)))))) (K false h1))) (0,()) h
def FV(a:Sl)(i:Int)(K:zY Sl)(h:Hp):=zx (S:=Sl×Int×Unit) (λs1 k2 h1=>(zW (s1.2.1<(a.len:Int)) (zy (S:=Sl×Unit) (λs3 h2=>(k2 (s3.1,(i64.wrap (s1.2.1+1)),()) h2)) (λk4=>(0<=(i:Int) /\ ((2:Int)≠0 /\ (ak (((((s1.2.1:Int).fdiv (2 ^ (min (i:Int).toNat i64.bits))):Int).tmod 2)==0) (zi a s1.2.1 4 λa5=>(zH a5 (λdw dZ fw eQ=>(Qg 4 64 [.bool false,zN,.bool false,zN] s1.1 1 [.bool dw,.slice dZ.a dZ.len dZ.cap,.bool fw,.slice eQ.a eQ.len eQ.cap] (λw7 h3=>(k4 (w7,()) h3)) h1)) h1)) (k4 (s1.1,()) h1)))))) (K s1.1 h1))) (zd,0,()) h
def zev(a:ag)(K:zY ag)(h:Hp):=Ys [] (λp1 h1=>(iO a.ae.a (a.ae.len*1) (λvT=>(Qg 1 24 [zN] ⟨some p1,0,0⟩ a.ae.len vT (λw3=>zx (S:=(Sl×Sl×Unit)×Int×Unit) (λs4 k5 h3=>(zW (s4.2.1>=0) (zy (S:=(Sl×Sl×Unit)×Unit) (λs6 h4=>(k5 ((s6.1.1,s6.1.2.1,()),(i64.wrap (s4.2.1-1)),()) h4)) (λk7=>(za (Ko s4.1.2.1 s4.2.1) (λr8=>zx (S:=Bool×Int×Unit) (λs9 k10 h6=>(zW (s9.2.1<(s4.1.1.len:Int)) (zy (S:=Bool×Unit) (λeu h7=>(k10 (eu.1,(i64.wrap (s9.2.1+1)),()) h7)) (λk12=>(ak s9.1 (k12 (true,()) h6) (zi s4.1.1 s9.2.1 1 λdV=>(aB (.sl) dV (λkW=>(za (Ko kW s4.2.1) (λcA h8=>(k12 (cA,()) h8)) h6)) h6))))) (ak s9.1 (k7 ((s4.1.1,s4.1.2.1,()),()) h6) (za (FV s4.1.2.1 s4.2.1) (λej=>zx (S:=Int×Unit) (λsG k18 aZ=>(zW (sG.1<(s4.1.1.len:Int)) (zi s4.1.1 sG.1 1 λmL=>(aB (.sl) mL (λoF=>(za (FV oF s4.2.1) (λdS bV=>(zi s4.1.1 sG.1 1 λFK=>(bD FK [.slice dS.a dS.len dS.cap] (λcu=>(k18 ((i64.wrap (sG.1+1)),()) cu)) bV))) aZ)) aZ)) (Nm s4.1.1 0 s4.2.1 s4.2.1 1 λFW=>(ca s4.1.1 (i64.wrap (s4.2.1+1)) (s4.1.1.len:Int) 1 λrz=>(iO rz.a (rz.len*1) (λv9=>(Qg 1 24 [zN] FW rz.len v9 (λA7 cO=>(k7 ((A7,ej,()),()) cO)) aZ)) aZ))))) ((i64.wrap (s4.2.1+1)),())) h6)))) (r8,(i64.wrap (s4.2.1+1)),())) h3))) (K ⟨s4.1.1,s4.1.2.1⟩ h3))) ((w3,a.af,()),(i64.wrap ((w3.len:Int)-1)),())) h1)) h1)) h
def zew(a:ag)(K:zY Bool)(h:Hp):=zx (S:=Int×Unit) (λs1 k2 h1=>(zW (s1.1<(a.af.len:Int)) (zy (S:=Unit) (λs3 h2=>(k2 ((i64.wrap (s1.1+1)),()) h2)) (λk4=>(zi a.af s1.1 4 λa5=>(aB (.sl) ((a5.add 0).add 1) (λx6=>(zW ((x6.len:Int)>2) (K true h1) (zi a.af s1.1 4 λa7=>(aB (.sl) ((a7.add 2).add 1) (λx8=>(zW ((x8.len:Int)>2) (K true h1) (k4 () h1))) h1)))) h1)))) (zx (S:=Int×Unit) (λs9 k10 h3=>(zW (s9.1<(a.ae.len:Int)) (zx (S:=Int×Unit) (λeu k12 h4=>(zi a.ae s9.1 1 λdV=>(aB (.sl) dV (λkW=>(zW (eu.1<(kW.len:Int)) (zy (S:=Unit) (λAY h5=>(k12 ((i64.wrap (eu.1+1)),()) h5)) (λk16=>(zi a.ae s9.1 1 λoD=>(aB (.sl) oD (λnF=>(zi nF eu.1 4 λmL=>(zH mL (λj6 jg abO O7=>(zW ((jg.len:Int)>2) (K true h4) (zW ((O7.len:Int)>2) (K true h4) (k16 () h4)))) h4))) h4)))) (k10 ((i64.wrap (s9.1+1)),()) h4))) h4))) (0,()) h3) (K false h3))) (0,()) h1))) (0,()) h
def zex(a:Sl)(b:Sl)(K:zY Bool)(h:Hp):=ak ((a.len:Int) != (b.len:Int)) (K false h) (zx (S:=Int×Unit) (λs1 k2 h1=>(zW (s1.1<(a.len:Int)) (zi a s1.1 4 λa3=>(zH a3 (λdu dv eJ eK=>(zi b s1.1 4 λa5=>(zH a5 (λdw dZ fw eQ=>(za (zhz ⟨⟨du,dv⟩,⟨eJ,eK⟩⟩ ⟨⟨dw,dZ⟩,⟨fw,eQ⟩⟩) (λr7 h2=>(ak (r7 != 0) (K false h2) (k2 ((i64.wrap (s1.1+1)),()) h2))) h1)) h1))) h1)) (K true h1))) (0,()) h)
def FX(t:Sl)(u:Sl)(K:zY Bool)(h:Hp):=zW ((u.len:Int)>(t.len:Int)) (K false h) (zx (S:=Int×Unit) (λs1 k2 h1=>(zW (s1.1<(u.len:Int)) (zi t s1.1 1 λa3=>(aB (.sl) a3 (λx4=>(zi u s1.1 1 λa5=>(aB (.sl) a5 (λx6=>(za (zex x4 x6) (λr7 h2=>(ak (!r7) (K false h2) (k2 ((i64.wrap (s1.1+1)),()) h2))) h1)) h1))) h1)) (K true h1))) (0,()) h)
def Qn(t:Sl)(n:aC)(K:zY Sl)(h:Hp):=Ys [.bool n.num.neg,.slice n.num.ah.a n.num.ah.len n.num.ah.cap,.bool n.den.neg,.slice n.den.ah.a n.den.ah.len n.den.ah.cap] (λp1=>zx (S:=Sl×Unit) (λs2 k3 h2=>(0<=((t.len:Int):Int) /\ (zW ((s2.1.len:Int)<(i64.wrap (1*2 ^ (min ((t.len:Int):Int).toNat i64.bits)))) (za (yh 0) (λr4=>Qg 4 64 [.bool false,zN,.bool false,zN] s2.1 1 [.bool r4.num.neg,.slice r4.num.ah.a r4.num.ah.len r4.num.ah.cap,.bool r4.den.neg,.slice r4.den.ah.a r4.den.ah.len r4.den.ah.cap] (λw5 h4=>(k3 (w5,()) h4))) h2) (K s2.1 h2)))) (⟨some p1,1,1⟩,())) h
def O8(t:Sl)(a:Sl)(K:zY Sl)(h:Hp):=Ys [] (λp1 h1=>(iO a.a (a.len*4) (λvT=>(Qg 4 64 [.bool false,zN,.bool false,zN] ⟨some p1,0,0⟩ a.len vT (λw3=>zx (S:=Sl×Unit) (λs4 k5 h3=>(0<=((t.len:Int):Int) /\ (zW ((s4.1.len:Int)<(i64.wrap (1*2 ^ (min ((t.len:Int):Int).toNat i64.bits)))) (za (yh 0) (λr6=>Qg 4 64 [.bool false,zN,.bool false,zN] s4.1 1 [.bool r6.num.neg,.slice r6.num.ah.a r6.num.ah.len r6.num.ah.cap,.bool r6.den.neg,.slice r6.den.ah.a r6.den.ah.len r6.den.ah.cap] (λw7 h5=>(k5 (w7,()) h5))) h3) (K s4.1 h3)))) (w3,())) h1)) h1)) h
def Db(a:Sl)(K:zY Bool)(h:Hp):=zx (S:=Int×Unit) (λs1 k2 h1=>(zW (s1.1<(a.len:Int)) (zi a s1.1 4 λa3=>(aB (.sl) ((a3.add 0).add 1) (λx4=>(zW ((x4.len:Int)>0) (K false h1) (k2 ((i64.wrap (s1.1+1)),()) h1))) h1)) (K true h1))) (0,()) h
def yX(t:Sl)(a:Sl)(b:Sl)(K:zY Sl)(h:Hp):=zx (S:=Sl×Int×Unit) (λs1 k2 h1=>(zW (s1.2.1<(a.len:Int)) (zi a s1.2.1 4 λa3=>(zH a3 (λdu dv eJ eK=>(zi b s1.2.1 4 λa5=>(zH a5 (λdw dZ fw eQ=>(za (zhy ⟨⟨du,dv⟩,⟨eJ,eK⟩⟩ ⟨⟨dw,dZ⟩,⟨fw,eQ⟩⟩) (λr7=>Qg 4 64 [.bool false,zN,.bool false,zN] s1.1 1 [.bool r7.num.neg,.slice r7.num.ah.a r7.num.ah.len r7.num.ah.cap,.bool r7.den.neg,.slice r7.den.ah.a r7.den.ah.len r7.den.ah.cap] (λw8 h3=>(k2 (w8,(i64.wrap (s1.2.1+1)),()) h3))) h1)) h1))) h1)) (K s1.1 h1))) (zd,0,()) h
def Qc:Nat->Sl->Sl->Sl->(Sl->Hp->Prop)->Hp->Prop
 | 0,_,_,_,_,_=>False
 | fuel+1,t,a,b,K,h=>(ak ((t.len:Int)==0) (zi a 0 4 λa1=>(zH a1 (λeH eI fe ff=>(zi b 0 4 λa3=>(zH a3 (λdu dv eJ eK=>(za (zi1 ⟨⟨eH,eI⟩,⟨fe,ff⟩⟩ ⟨⟨du,dv⟩,⟨eJ,eK⟩⟩) (λr5=>Ys [.bool r5.num.neg,.slice r5.num.ah.a r5.num.ah.len r5.num.ah.cap,.bool r5.den.neg,.slice r5.den.ah.a r5.den.ah.len r5.den.ah.cap] (λp6 h2=>(K ⟨some p6,1,1⟩ h2))) h)) h))) h)) ((2:Int)≠0 /\ (ca t 0 (i64.wrap ((t.len:Int)-1)) 1 λc7=>(zi t (i64.wrap ((t.len:Int)-1)) 1 λa8=>(aB (.sl) a8 (λx9=>(ca a (i64.wrap (((a.len:Int):Int).tdiv 2)) (a.len:Int) 4 λnI=>(ca b (i64.wrap (((a.len:Int):Int).tdiv 2)) (b.len:Int) 4 λmg=>(za (Db nI) (λbZ=>za (Db mg) (λcN h4=>(ca a 0 (i64.wrap (((a.len:Int):Int).tdiv 2)) 4 λc14=>(ca b 0 (i64.wrap (((a.len:Int):Int).tdiv 2)) 4 λO9=>(za ((Qc fuel) c7 c14 O9) (λej h5=>(zy (S:=Unit) (λsG h6=>(ak bZ (ca a 0 (i64.wrap (((a.len:Int):Int).tdiv 2)) 4 λO'=>(ca b (i64.wrap (((a.len:Int):Int).tdiv 2)) (b.len:Int) 4 λc20=>(za ((Qc fuel) c7 O' c20) (λdS h7=>(iO dS.a (dS.len*4) (λaaz=>(Qg 4 64 [.bool false,zN,.bool false,zN] ej dS.len aaz (λw23 h8=>(K w23 h8)) h7)) h7)) h6))) (ak cN (ca a (i64.wrap (((a.len:Int):Int).tdiv 2)) (a.len:Int) 4 λrz=>(ca b 0 (i64.wrap (((a.len:Int):Int).tdiv 2)) 4 λPA=>(za ((Qc fuel) c7 rz PA) (λoK h9=>(iO oK.a (oK.len*4) (λaaA=>(Qg 4 64 [.bool false,zN,.bool false,zN] ej oK.len aaA (λw28 aZ=>(K w28 aZ)) h9)) h9)) h6))) (ca a (i64.wrap (((a.len:Int):Int).tdiv 2)) (a.len:Int) 4 λPB=>(ca b (i64.wrap (((a.len:Int):Int).tdiv 2)) (b.len:Int) 4 λc30=>(za ((Qc fuel) c7 PB c30) (λnH=>za ((Qc fuel) c7 nH x9) (λuY=>za (yX c7 ej uY) (λAV cO=>(ca a 0 (i64.wrap (((a.len:Int):Int).tdiv 2)) 4 λc34=>(ca b (i64.wrap (((a.len:Int):Int).tdiv 2)) (b.len:Int) 4 λc35=>(ca a (i64.wrap (((a.len:Int):Int).tdiv 2)) (a.len:Int) 4 λc36=>(ca b 0 (i64.wrap (((a.len:Int):Int).tdiv 2)) 4 λc37=>(za ((Qc fuel) c7 c34 c35) (λju=>za ((Qc fuel) c7 c36 c37) (λr39=>za (yX c7 ju r39) (λtS gi=>(iO tS.a (tS.len*4) (λaaB=>(Qg 4 64 [.bool false,zN,.bool false,zN] AV tS.len aaB (λw42 dF=>(K w42 dF)) gi)) gi)))) cO)))))))) h6)))))) (λk18=>(ak bZ (ak cN (za (yh 0) (λOw=>za (Qn c7 Ow) (λFC iV=>(iO FC.a (FC.len*4) (λaaC=>(Qg 4 64 [.bool false,zN,.bool false,zN] ej FC.len aaC (λw46 gX=>(K w46 gX)) iV)) iV))) h5) (k18 () h5)) (k18 () h5))))) h4))))) h)))) h)))))
def Q4(t:Sl)(a:Sl)(b:Sl)(K:zY Sl)(h:Hp):=∃fuel,Qc fuel t a b K h
def Wr:Nat->Sl->Sl->Sl->(Sl->Hp->Prop)->Hp->Prop
 | 0,_,_,_,_,_=>False
 | fuel+1,t,roots,a,K,h=>(ak ((a.len:Int)==1) (zi a 0 4 λa1=>(zH a1 (λeH eI fe ff=>(za (Qn t ⟨⟨eH,eI⟩,⟨fe,ff⟩⟩) (λr3 h1=>(K r3 h1)) h)) h)) ((2:Int)≠0 /\ (zx (S:=Int×Unit) (λs4 k5 h2=>(0<=((i64.wrap (s4.1+1)):Int) /\ (zW ((i64.wrap (1*2 ^ (min ((i64.wrap (s4.1+1)):Int).toNat i64.bits)))<(a.len:Int)) (k5 ((i64.wrap (s4.1+1)),()) h2) (ca a 0 (i64.wrap (((a.len:Int):Int).tdiv 2)) 4 λc6=>(ca a (i64.wrap (((a.len:Int):Int).tdiv 2)) (a.len:Int) 4 λc7=>(za ((Wr fuel) t roots c6) (λr8=>za ((Wr fuel) t roots c7) (λr9 h4=>(zi roots s4.1 1 λfM=>(aB (.sl) fM (λgd=>(za (O8 t gd) (λbZ=>za (Q4 t r9 bZ) (λcN=>za (yX t r8 cN) (λdR h7=>(K dR h7)))) h4)) h4)))) h2)))))) (0,()) h)))
def zc0(t:Sl)(roots:Sl)(a:Sl)(K:zY Sl)(h:Hp):=∃fuel,Wr fuel t roots a K h
def A8(t:Sl)(a:Sl)(K:zY Sl)(h:Hp):=zx (S:=Sl×Int×Unit) (λs1 k2 h1=>(zW (s1.2.1<(a.len:Int)) (zi a s1.2.1 4 λa3=>(zH a3 (λdu dv eJ eK=>(za (zi2 ⟨⟨du,dv⟩,⟨eJ,eK⟩⟩) (λr5=>Qg 4 64 [.bool false,zN,.bool false,zN] s1.1 1 [.bool r5.num.neg,.slice r5.num.ah.a r5.num.ah.len r5.num.ah.cap,.bool r5.den.neg,.slice r5.den.ah.a r5.den.ah.len r5.den.ah.cap] (λw6 h3=>(k2 (w6,(i64.wrap (s1.2.1+1)),()) h3))) h1)) h1)) (K s1.1 h1))) (zd,0,()) h
def PC(t:Sl)(a:Sl)(b:Sl)(K:zY Sl)(h:Hp):=za (A8 t b) (λr1=>za (yX t a r1) (λr2 h2=>(K r2 h2))) h
def PD(t:Sl)(a:Sl)(K:zY Sl)(h:Hp):=(2:Int)≠0 /\ (ca t 0 (i64.wrap ((t.len:Int)-1)) 1 λc1=>(zi t (i64.wrap ((t.len:Int)-1)) 1 λa2=>(aB (.sl) a2 (λx3=>(ca a 0 (i64.wrap (((a.len:Int):Int).tdiv 2)) 4 λc4=>(ca a 0 (i64.wrap (((a.len:Int):Int).tdiv 2)) 4 λc5=>(ca a (i64.wrap (((a.len:Int):Int).tdiv 2)) (a.len:Int) 4 λc6=>(ca a (i64.wrap (((a.len:Int):Int).tdiv 2)) (a.len:Int) 4 λc7=>(za (Q4 c1 c4 c5) (λr8=>za (Q4 c1 c6 c7) (λr9=>za (Q4 c1 r9 x3) (λbY=>za (PC c1 r8 bY) (λcB h4=>(K cB h4))))) h)))))) h)))
def Wz:Nat->Sl->Sl->(Int->Hp->Prop)->Hp->Prop
 | 0,_,_,_,_=>False
 | fuel+1,t,a,K,h=>(ak ((t.len:Int)==0) (zi a 0 4 λa1=>(zH a1 (λeH eI fe ff=>(za (OE ⟨⟨eH,eI⟩,⟨fe,ff⟩⟩) (λr3 h1=>(K r3 h1)) h)) h)) ((2:Int)≠0 /\ (ca a 0 (i64.wrap (((a.len:Int):Int).tdiv 2)) 4 λc4=>((2:Int)≠0 /\ (ca a (i64.wrap (((a.len:Int):Int).tdiv 2)) (a.len:Int) 4 λc5=>(ca t 0 (i64.wrap ((t.len:Int)-1)) 1 λc6=>(ca t 0 (i64.wrap ((t.len:Int)-1)) 1 λc7=>(za ((Wz fuel) c6 c4) (λr8=>za ((Wz fuel) c7 c5) (λr9 h3=>(zy (S:=Unit) (λs10 h4=>(ak (r8==0) (K r9 h4) (ca t 0 (i64.wrap ((t.len:Int)-1)) 1 λc12=>(za (PD t a) (λcN=>za ((Wz fuel) c12 cN) (λdR h6=>(K (i64.wrap (r8*dR)) h6))) h4)))) (λk11=>(ak (r9==0) (K r8 h3) (ak (r8==r9) (K r8 h3) (k11 () h3))))))) h))))))))
def PE(t:Sl)(a:Sl)(K:zY Int)(h:Hp):=∃fuel,Wz fuel t a K h
def PF(a:Sl)(n:Int)(K:zY Bool)(h:Hp):=zx (S:=Int×Unit) (λs1 k2 h1=>(zW (s1.1<(a.len:Int)) (zi a s1.1 4 λa3=>(zH a3 (λdu dv eJ eK=>(za (zbx ⟨⟨du,dv⟩,⟨eJ,eK⟩⟩) (λr5 h2=>(ak (!r5) (K false h2) (k2 ((i64.wrap (s1.1+1)),()) h2))) h1)) h1)) (K ((a.len:Int)==n) h1))) (0,()) h
def PG(t:Sl)(K:zY Bool)(h:Hp):=zx (S:=Int×Unit) (λs1 k2 h1=>(zW (s1.1<(t.len:Int)) (zi t s1.1 1 λa3=>(aB (.sl) a3 (λx4=>(0<=(s1.1:Int) /\ (za (PF x4 (i64.wrap (1*2 ^ (min (s1.1:Int).toNat i64.bits)))) (λr5 h2=>(ak (!r5) (K false h2) (k2 ((i64.wrap (s1.1+1)),()) h2))) h1))) h1)) (K true h1))) (0,()) h
def FY(t:Sl)(a:Sl)(K:zY Bool)(h:Hp):=za (PG t) (λr1 h1=>(ak r1 (0<=((t.len:Int):Int) /\ (za (PF a (i64.wrap (1*2 ^ (min ((t.len:Int):Int).toNat i64.bits)))) (λr2 h2=>(K r2 h2)) h1)) (K false h1))) h
def zep(t:Sl)(K:zY Bool)(h:Hp):=za (PG t) (λr1 h1=>(ak (!r1) (K false h1) (zx (S:=Int×Unit) (λs2 k3 h2=>(zW (s2.1<(t.len:Int)) (ca t 0 s2.1 1 λc4=>(zi t s2.1 1 λa5=>(aB (.sl) a5 (λx6=>(za (PE c4 x6) (λr7 h3=>(ak (r7 != 1) (K false h3) (k3 ((i64.wrap (s2.1+1)),()) h3))) h2)) h2))) (K true h2))) (0,()) h1))) h
def FZ(t:Sl)(a:Sl)(K:zY Int)(h:Hp):=zy (S:=Unit) (λs1=>za (PE t a) (λr3 h2=>(K r3 h2))) (λk2=>(za (FY t a) (λr4 h3=>(ak (!r4) (K 0 h3) (za (zep t) (λr5 h4=>(ak (!r5) (K 0 h4) (k2 () h4))) h3))) h))
def zen(a:aC)(K:zY (aC×Bool))(h:Hp):=ak a.num.neg (K (⟨⟨false,zd⟩,⟨false,zd⟩⟩,false) h) (za (OH a.num) (λr1=>za (OH a.den) (λr2 h2=>(zy (S:=(Bool×Sl×Bool×Sl×Unit)×Unit) (λs3 h3=>(K (⟨⟨r1.1.neg,r1.1.ah⟩,⟨r2.1.neg,r2.1.ah⟩⟩,true) h3)) (λk4=>(za (Qi ⟨r1.1.neg,r1.1.ah⟩ ⟨r1.1.neg,r1.1.ah⟩) (λr5=>za (OF r5 a.num) (λr6 h5=>(ak (!r6) (K (⟨⟨false,zd⟩,⟨false,zd⟩⟩,false) h5) (za (Qi ⟨r2.1.neg,r2.1.ah⟩ ⟨r2.1.neg,r2.1.ah⟩) (λr7=>za (OF r7 a.den) (λr8 h7=>(ak (!r8) (K (⟨⟨false,zd⟩,⟨false,zd⟩⟩,false) h7) (k4 ((false,zd,false,zd,()),()) h7)))) h5)))) h2))))) h)
def Kr(a:Sl)(b:Sl)(K:zY Sl)(h:Hp):=Ys [] (λp1 h1=>(iO a.a (a.len*4) (λvT=>(Qg 4 64 [.bool false,zN,.bool false,zN] ⟨some p1,0,0⟩ a.len vT (λw3 h2=>(iO b.a (b.len*4) (λvs4=>(Qg 4 64 [.bool false,zN,.bool false,zN] w3 b.len vs4 (λw5 h3=>(K w5 h3)) h2)) h2)) h1)) h1)) h
def Vg:Nat->Sl->Sl->((Sl×Int)->Hp->Prop)->Hp->Prop
 | 0,_,_,_,_=>False
 | fuel+1,t,a,K,h=>(ak ((t.len:Int)==0) (zi a 0 4 λa1=>(aB (.sl) ((a1.add 0).add 1) (λx2=>(ak ((x2.len:Int)==0) (K (zd,6) h) (zi a 0 4 λa3=>(zH a3 (λdu dv eJ eK=>(za (zi0 ⟨⟨du,dv⟩,⟨eJ,eK⟩⟩) (λr5=>Ys [.bool r5.num.neg,.slice r5.num.ah.a r5.num.ah.len r5.num.ah.cap,.bool r5.den.neg,.slice r5.den.ah.a r5.den.ah.len r5.den.ah.cap] (λp6 h2=>(K (⟨some p6,1,1⟩,0) h2))) h)) h)))) h)) ((2:Int)≠0 /\ (ca t 0 (i64.wrap ((t.len:Int)-1)) 1 λc7=>(ca a (i64.wrap (((a.len:Int):Int).tdiv 2)) (a.len:Int) 4 λc8=>(za (Db c8) (λr9 h3=>(ak r9 (ca a 0 (i64.wrap (((a.len:Int):Int).tdiv 2)) 4 λnI=>(za ((Vg fuel) c7 nI) (λcB h4=>(ak (cB.2 != 0) (K (zd,cB.2) h4) (za (yh 0) (λbZ=>za (Qn c7 bZ) (λcN h6=>(iO cN.a (cN.len*4) (λaaD=>(Qg 4 64 [.bool false,zN,.bool false,zN] cB.1 cN.len aaD (λw15 h7=>(K (w15,0) h7)) h6)) h6))) h4))) h3)) (za (PD t a) (λej=>za ((Vg fuel) c7 ej) (λfq h9=>(ak (fq.2 != 0) (K (zd,fq.2) h9) (ca a 0 (i64.wrap (((a.len:Int):Int).tdiv 2)) 4 λc18=>(ca a (i64.wrap (((a.len:Int):Int).tdiv 2)) (a.len:Int) 4 λO'=>(za (Q4 c7 c18 fq.1) (λjG=>za (A8 c7 O') (λdS=>za (Q4 c7 dS fq.1) (λnJ cu=>(iO nJ.a (nJ.len*4) (λaaE=>(Qg 4 64 [.bool false,zN,.bool false,zN] jG nJ.len aaE (λw24 cO=>(K (w24,0) cO)) cu)) cu)))) h9)))))) h3))) h)))))
def PH(t:Sl)(a:Sl)(K:zY (Sl×Int))(h:Hp):=∃fuel,Vg fuel t a K h
def qv:Nat->Sl->Sl->((Sl×Bool)->Hp->Prop)->Hp->Prop
 | 0,_,_,_,_=>False
 | fuel+1,t,a,K,h=>(ak ((t.len:Int)==0) (zi a 0 4 λa1=>(zH a1 (λeH eI fe ff=>(za (zen ⟨⟨eH,eI⟩,⟨fe,ff⟩⟩) (λr3=>Ys [.bool r3.1.num.neg,.slice r3.1.num.ah.a r3.1.num.ah.len r3.1.num.ah.cap,.bool r3.1.den.neg,.slice r3.1.den.ah.a r3.1.den.ah.len r3.1.den.ah.cap] (λp4 h2=>(K (⟨some p4,1,1⟩,r3.2) h2))) h)) h)) (za (FZ t a) (λr5 h3=>(zW (r5<0) (K (zd,false) h3) (ca t 0 (i64.wrap ((t.len:Int)-1)) 1 λc6=>(zi t (i64.wrap ((t.len:Int)-1)) 1 λa7=>(aB (.sl) a7 (λx8=>((2:Int)≠0 /\ (ca a 0 (i64.wrap (((a.len:Int):Int).tdiv 2)) 4 λc9=>(ca a (i64.wrap (((a.len:Int):Int).tdiv 2)) (a.len:Int) 4 λnI=>(za (yh 0) (λcB=>za (Qn c6 cB) (λbZ=>za (Db nI) (λcN h6=>(ak cN (za ((qv fuel) c6 c9) (λdR h7=>(ak dR.2 (za (Kr dR.1 bZ) (λcA h8=>(K (cA,true) h8)) h7) (za (PH c6 x8) (λej=>za (Q4 c6 c9 ej.1) (λfq=>za ((qv fuel) c6 fq) (λiM bV=>(ak iM.2 (za (Kr bZ iM.1) (λmf cu=>(K (mf,true) cu)) bV) (K (zd,false) bV))))) h7))) h6) (za (Q4 c6 c9 c9) (λjG=>za (Q4 c6 nI nI) (λdS=>za (Q4 c6 x8 dS) (λnJ=>za (PC c6 jG nJ) (λjt=>za ((qv fuel) c6 jt) (λdL dF=>(ak (!dL.2) (K (zd,false) dF) (za (Kn 1 2) (λiq=>za (Qn c6 iq) (λoK=>zx (S:=Sl×Int×Unit) (λma k28 gX=>(zW (ma.2.1<2) (za (yX c6 c9 ma.1) (λr29=>za (Q4 c6 oK r29) (λFI=>za ((qv fuel) c6 FI) (λnH A9=>(ak nH.2 (za (PH c6 nH.1) (λuY=>za (Q4 c6 nI uY.1) (λAV=>za (Q4 c6 oK AV) (λuZ=>za (Kr nH.1 uZ) (λuW Ba=>(K (uW,true) Ba))))) A9) (za (A8 c6 ma.1) (λPI pY=>(k28 (PI,(i64.wrap (ma.2.1+1)),()) pY)) A9))))) gX) (K (zd,false) gX))) (dL.1,0,()))) dF))))))) h6))))) h3))))) h3))))) h))
def zes(t:Sl)(a:Sl)(K:zY (Sl×Bool))(h:Hp):=∃fuel,qv fuel t a K h
def zer(t:Sl)(a:Sl)(K:zY (Sl×Bool))(h:Hp):=za (zes t a) (λr1 h1=>(ak (!r1.2) (K (zd,false) h1) (zy (S:=Sl×Unit) (λs2 h2=>(K (s2.1,true) h2)) (λk3=>(za (FZ t r1.1) (λr4 h3=>(zW (r4<0) (za (A8 t r1.1) (λr5 h4=>(k3 (r5,()) h4)) h3) (k3 (r1.1,()) h3))) h1))))) h
def zeo(t:Sl)(i:Int)(K:zY Sl)(h:Hp):=za (yh 0) (λr1=>za (Qn t r1) (λr2 h2=>(0<=(i:Int) /\ (za (yh 1) (λr3 h3=>(zi r2 (i64.wrap (1*2 ^ (min (i:Int).toNat i64.bits))) 4 λa4=>(bD a4 [.bool r3.num.neg,.slice r3.num.ah.a r3.num.ah.len r3.num.ah.cap,.bool r3.den.neg,.slice r3.den.ah.a r3.den.ah.len r3.den.ah.cap] (λh4=>(K r2 h4)) h3))) h2)))) h
def zeq(t:Sl)(a:Sl)(K:zY (Sl×Sl×Int))(h:Hp):=za (FZ t a) (λr1 h1=>(zW (r1<0) (K (zd,zd,7) h1) (za (zer t a) (λr2 h2=>(ak r2.2 (K (t,r2.1,0) h2) (zW ((t.len:Int)>=8) (K (zd,zd,3) h2) (Ys [] (λp3 h3=>(iO t.a (t.len*1) (λvs4=>(Qg 1 24 [zN] ⟨some p3,0,0⟩ t.len vs4 (λw5=>Qg 1 24 [zN] w5 1 [.slice a.a a.len a.cap] (λw6=>za (zeo w6 (t.len:Int)) (λr7 h6=>(K (w6,r7,0) h6)))) h3)) h3)) h2)))) h1))) h
def PJ(t:Sl)(K:zY Bool)(h:Hp):=zx (S:=Int×Unit) (λs1 k2 h1=>(zW (s1.1<(t.len:Int)) (zy (S:=Unit) (λs3 h2=>(ca t 0 s1.1 1 λc5=>(zi t s1.1 1 λa6=>(aB (.sl) a6 (λx7=>(za (zes c5 x7) (λr8 h3=>(ak r8.2 (K false h3) (k2 ((i64.wrap (s1.1+1)),()) h3))) h2)) h2)))) (λk4=>(ca t 0 s1.1 1 λc9=>(zi t s1.1 1 λfM=>(aB (.sl) fM (λgd=>(za (FY c9 gd) (λbZ h4=>(ak (!bZ) (K false h4) (ca t 0 s1.1 1 λc13=>(zi t s1.1 1 λAT=>(aB (.sl) AT (λx15=>(za (FZ c13 x15) (λej h5=>(zW (ej<=0) (K false h5) (k4 () h5))) h4)) h4))))) h1)) h1))))) (K true h1))) (0,()) h
def PK(t:Sl)(a:Sl)(K:zY (Sl×Sl×Int))(h:Hp):=zy (S:=Unit) (λs1=>za (zeq t a) (λr3 h2=>(K (r3.1,r3.2.1,r3.2.2) h2))) (λk2=>(za (PJ t) (λr4 h3=>(ak (!r4) (K (zd,zd,1) h3) (za (FY t a) (λr5 h4=>(ak (!r5) (K (zd,zd,1) h4) (k2 () h4))) h3))) h))
def Kw(t:Sl)(u:Sl)(K:zY (Sl×Sl×Int))(h:Hp):=zx (S:=Sl×Sl×Int×Unit) (λs1 k2 h1=>(zW (s1.2.2.1<(u.len:Int)) (zi u s1.2.2.1 1 λa3=>(aB (.sl) a3 (λx4=>(za (zc0 s1.1 s1.2.1 x4) (λr5=>za (PK s1.1 r5) (λr6 h3=>(ak (r6.2.2 != 0) (K (zd,zd,r6.2.2) h3) (Qg 1 24 [zN] s1.2.1 1 [.slice r6.2.1.a r6.2.1.len r6.2.1.cap] (λw7 h4=>(k2 (r6.1,w7,(i64.wrap (s1.2.2.1+1)),()) h4)) h3)))) h1)) h1)) (K (s1.1,s1.2.1,0) h1))) (t,zd,0,()) h
def zeu(l:Sl)(K:zY (Sl×Int))(h:Hp):=zx (S:=Sl×Int×Unit) (λs1 k2 h1=>(zW (s1.2.1<(l.len:Int)) (zy (S:=Sl×Unit) (λs3 h2=>(k2 (s3.1,(i64.wrap (s1.2.1+1)),()) h2)) (λk4=>(zi l s1.2.1 2 λa5=>(aB (.sl) (a5.add 0) (λx6=>(zW ((x6.len:Int)>(s1.1.len:Int)) (zi l s1.2.1 2 λa7=>(aB (.sl) (a7.add 0) (λx8=>(za (FX x8 s1.1) (λr9 h3=>(ak r9 (zi l s1.2.1 2 λfM=>(aB (.sl) (fM.add 0) (λgd=>(k4 (gd,()) h3)) h3)) (zi l s1.2.1 2 λFA=>(aB (.sl) (FA.add 0) (λFB=>(za (FX s1.1 FB) (λdR h4=>(ak (!dR) (zi l s1.2.1 2 λiU=>(aB (.sl) (iU.add 0) (λyV=>(za (Kw s1.1 yV) (λfq h5=>(ak (fq.2.2 != 0) (K (zd,fq.2.2) h5) (k4 (fq.1,()) h5))) h4)) h4)) (k4 (s1.1,()) h4))) h3)) h3)))) h1)) h1)) (zi l s1.2.1 2 λyW=>(aB (.sl) (yW.add 0) (λx19=>(za (FX s1.1 x19) (λjG h6=>(ak (!jG) (zi l s1.2.1 2 λoL=>(aB (.sl) (oL.add 0) (λyY=>(za (Kw s1.1 yY) (λjt h7=>(ak (jt.2.2 != 0) (K (zd,jt.2.2) h7) (k4 (jt.1,()) h7))) h6)) h6)) (k4 (s1.1,()) h6))) h1)) h1)))) h1)))) (zx (S:=Sl×Int×Unit) (λA3 k25 h8=>(zW (A3.2.1<(l.len:Int)) (zy (S:=(Sl×Sl×Unit)×Unit) (λKy=>Qg 2 48 [zN,zN] A3.1 1 [.slice Ky.1.1.a Ky.1.1.len Ky.1.1.cap,.slice Ky.1.2.1.a Ky.1.2.1.len Ky.1.2.1.cap] (λw28 aZ=>(k25 (w28,(i64.wrap (A3.2.1+1)),()) aZ))) (λk27=>(zi l A3.2.1 2 λuX=>(aB (.sl) (uX.add 0) (λx30=>(za (FX s1.1 x30) (λnH bV=>(ak nH (zi l A3.2.1 2 λa32=>(aB (.sl) (a32.add 1) (λx33=>(za (O8 s1.1 x33) (λuZ cu=>(k27 ((s1.1,uZ,()),()) cu)) bV)) bV)) (zi l A3.2.1 2 λyZ=>(aB (.sl) (yZ.add 0) (λx36=>(za (Kw s1.1 x36) (λF0 cO=>(zi l A3.2.1 2 λa38=>(aB (.sl) (a38.add 1) (λx39=>(za (zc0 s1.1 F0.2.1 x39) (λtS eG=>(k27 ((s1.1,tS,()),()) eG)) cO)) cO))) bV)) bV)))) h8)) h8)))) (K (A3.1,0) h8))) (zd,0,()) h1))) (zd,0,()) h
def PM(a:ag)(b:ag)(K:zY (ag×ag×Int))(h:Hp):=Ys [.slice a.ae.a a.ae.len a.ae.cap,.slice a.af.a a.af.len a.af.cap,.slice b.ae.a b.ae.len b.ae.cap,.slice b.af.a b.af.len b.af.cap] (λp1=>za (zeu ⟨some p1,2,2⟩) (λr2 h2=>(ak (r2.2 != 0) (K (⟨zd,zd⟩,⟨zd,zd⟩,r2.2) h2) (zi r2.1 0 2 λa3=>(zJ a3 (λdu dv=>(zi r2.1 1 2 λa5=>(zJ a5 (λdw dZ=>(K (⟨du,dv⟩,⟨dw,dZ⟩,0) h2)) h2))) h2))))) h
def Dc(a:ag)(b:ag)(K:zY (ag×Int))(h:Hp):=za (PM a b) (λr1 h1=>(ak (r1.2.2 != 0) (K (⟨zd,zd⟩,r1.2.2) h1) (za (yX r1.1.ae r1.1.af r1.2.1.af) (λr2 h2=>(K (⟨r1.1.ae,r2⟩,0) h2)) h1))) h
def zA(a:ag)(e:Int)(other:ag)(K:zY ag)(h:Hp):=ak (e != 0) (K other h) (K a h)
def Bb(a:ag)(K:zY ag)(h:Hp):=za (A8 a.ae a.af) (λr1 h1=>(K ⟨a.ae,r1⟩ h1)) h
def PN(a:ag)(b:ag)(K:zY (ag×Int))(h:Hp):=za (Bb b) (λr1=>za (Dc a r1) (λr2 h2=>(K (⟨r2.1.ae,r2.1.af⟩,r2.2) h2))) h
def zB(a:ag)(b:ag)(K:zY (ag×Int))(h:Hp):=za (PM a b) (λr1 h1=>(ak (r1.2.2 != 0) (K (⟨zd,zd⟩,r1.2.2) h1) (za (Q4 r1.1.ae r1.1.af r1.2.1.af) (λr2 h2=>(K (⟨r1.1.ae,r2⟩,0) h2)) h1))) h
def F1(a:ag)(b:ag)(K:zY (ag×Int))(h:Hp):=za (PH b.ae b.af) (λr1 h1=>(ak (r1.2 != 0) (K (⟨zd,zd⟩,r1.2) h1) (za (zB a ⟨b.ae,r1.1⟩) (λr2 h2=>(K (⟨r2.1.ae,r2.1.af⟩,r2.2) h2)) h1))) h
def Dd(a:ag)(K:zY (ag×Int))(h:Hp):=za (PK a.ae a.af) (λr1 h1=>(ak (r1.2.2 != 0) (K (⟨zd,zd⟩,r1.2.2) h1) (K (⟨r1.1,r1.2.1⟩,0) h1))) h
def zjt(t:Sl)(a:Sl)(K:zY Int)(h:Hp):=za (PE t a) (λr1 h1=>(K r1 h1)) h
def Xd(a:ag)(K:zY Int)(h:Hp):=za (zjt a.ae a.af) (λr1 h1=>(K r1 h1)) h
def zby(r:Sl)(K:zY Sl)(h:Hp):=zx (S:=Sl×Int×Int×Unit) (λs1 k2 h1=>(zy (S:=Unit) (λs3 h2=>(zi r s1.2.2.1 5 λa5=>(aB (.int .u8) (a5.add 0) (λdw=>(aB (.int .u8) (a5.add 1) (λdZ=>(aB (.int .u8) (a5.add 2) (λfw=>(aB (.int .i8) (a5.add 3) (λeQ=>(aB (.int .u8) (a5.add 4) (λaaF=>((8:Int)≠0 /\ (za (zet (i64.wrap (eQ)) (i64.wrap ((i64.wrap ((aaF:Int).tmod 8))+1))) (λr7 h3=>(zy (S:=Int×(Sl×Sl×Unit)×Unit) (λs8 h4=>(zy (S:=(Sl×Sl×Unit)×Unit) (λs10=>za (zev ⟨s10.1.1,s10.1.2.1⟩) (λbZ=>Qg 2 48 [zN,zN] s1.1 1 [.slice bZ.ae.a bZ.ae.len bZ.ae.cap,.slice bZ.af.a bZ.af.len bZ.af.cap] (λAZ h7=>(k2 (AZ,s8.1,(i64.wrap (s1.2.2.1+1)),()) h7)))) (λk11=>(zW ((s1.1.len:Int)>0) (za (zew ⟨s8.2.1.1,s8.2.1.2.1⟩) (λdR h8=>(ak dR (zi s1.1 (i64.wrap ((s1.1.len:Int)-1)) 2 λiU=>(zJ iU (λiu iw=>(k11 ((iu,iw,()),()) h8)) h8)) (k11 ((s8.2.1.1,s8.2.1.2.1,()),()) h8))) h4) (k11 ((s8.2.1.1,s8.2.1.2.1,()),()) h4))))) (λk9=>(zW ((s1.1.len:Int)>0) ((6:Int)≠0 /\ (ak (((dw:Int).tmod 6) != 0) (((s1.1.len:Int):Int)≠0 /\ (zi s1.1 (((i64.wrap (dZ)):Int).tmod (s1.1.len:Int)) 2 λoD=>(zJ oD (λeA eB=>(((s1.1.len:Int):Int)≠0 /\ (zi s1.1 (((i64.wrap (fw)):Int).tmod (s1.1.len:Int)) 2 λmL=>(zJ mL (λj6 jg=>((6:Int)≠0 /\ (ak (((dw:Int).tmod 6)==1) (za (Dc ⟨eA,eB⟩ ⟨j6,jg⟩) (λdS=>za (zA ⟨dS.1.ae,dS.1.af⟩ dS.2 ⟨eA,eB⟩) (λnJ aZ=>(k9 (s1.2.1,(nJ.ae,nJ.af,()),()) aZ))) h3) (ak (((dw:Int).tmod 6)==2) (za (PN ⟨eA,eB⟩ ⟨j6,jg⟩) (λjt=>za (zA ⟨jt.1.ae,jt.1.af⟩ jt.2 ⟨eA,eB⟩) (λdL cu=>(k9 (s1.2.1,(dL.ae,dL.af,()),()) cu))) h3) (ak (((dw:Int).tmod 6)==3) (za (zB ⟨eA,eB⟩ ⟨j6,jg⟩) (λiq=>za (zA ⟨iq.1.ae,iq.1.af⟩ iq.2 ⟨eA,eB⟩) (λoK eG=>(k9 (s1.2.1,(oK.ae,oK.af,()),()) eG))) h3) (ak (((dw:Int).tmod 6)==4) (za (F1 ⟨eA,eB⟩ ⟨j6,jg⟩) (λu5=>za (zA ⟨u5.1.ae,u5.1.af⟩ u5.2 ⟨eA,eB⟩) (λDe gi=>(k9 (s1.2.1,(De.ae,De.af,()),()) gi))) h3) (zy (S:=(Sl×Sl×Unit)×Unit) (λKe dF=>(zW (s1.2.1<3) (za (Dd ⟨Ke.1.1,Ke.1.2.1⟩) (λnH=>za (zA ⟨nH.1.ae,nH.1.af⟩ nH.2 ⟨Ke.1.1,Ke.1.2.1⟩) (λuY iV=>(k9 ((i64.wrap (s1.2.1+1)),(uY.ae,uY.af,()),()) iV))) dF) (k9 (s1.2.1,(eA,eB,()),()) dF))) (λk30=>(za (Xd ⟨eA,eB⟩) (λAV gX=>(zW (AV<0) (za (Bb ⟨eA,eB⟩) (λuZ me=>(k30 ((uZ.ae,uZ.af,()),()) me)) gX) (k30 ((eA,eB,()),()) gX))) h3))))))))) h3)))) h3))) (k9 (s1.2.1,(r7.ae,r7.af,()),()) h3))) (k9 (s1.2.1,(r7.ae,r7.af,()),()) h3))))) h2))) h2)) h2)) h2)) h2)) h2))) (λk4=>(zW (s1.2.2.1<(r.len:Int)) (zW (s1.2.2.1<24) (k4 () h1) (K s1.1 h1)) (K s1.1 h1))))) (zd,0,0,()) h
def Y4(n:Int)(K:zY ag)(h:Hp):=za (yh n) (λr1=>za (Xp r1) (λr2 h2=>(K r2 h2))) h
def PO(l:Sl)(i:Int)(K:zY ag)(h:Hp):=zy (S:=(Sl×Sl×Unit)×Unit) (λs1 h1=>(((l.len:Int):Int)≠0 /\ (zi l ((i:Int).tmod (l.len:Int)) 2 λa3=>(zJ a3 (λdu dv=>(K ⟨du,dv⟩ h1)) h1)))) (λk2=>(ak ((l.len:Int)==0) (za (Y4 0) (λr5 h2=>(K r5 h2)) h) (zW (i<0) (za (Y4 0) (λr6 h3=>(K r6 h3)) h) (k2 ((zd,zd,()),()) h))))
def zbz(a:ag)(K:zY Bool)(h:Hp):=zx (S:=Int×Unit) (λs1 k2 h1=>(zW (s1.1<(a.af.len:Int)) (zy (S:=Unit) (λs3 h2=>(k2 ((i64.wrap (s1.1+1)),()) h2)) (λk4=>(zi a.af s1.1 4 λa5=>(aB (.sl) ((a5.add 0).add 1) (λx6=>(zW ((x6.len:Int)>6) (K false h1) (zi a.af s1.1 4 λa7=>(aB (.sl) ((a7.add 2).add 1) (λx8=>(zW ((x8.len:Int)>6) (K false h1) (k4 () h1))) h1)))) h1)))) (zx (S:=Int×Unit) (λs9 k10 h3=>(zW (s9.1<(a.ae.len:Int)) (zx (S:=Int×Unit) (λeu k12 h4=>(zi a.ae s9.1 1 λdV=>(aB (.sl) dV (λkW=>(zW (eu.1<(kW.len:Int)) (zy (S:=Unit) (λAY h5=>(k12 ((i64.wrap (eu.1+1)),()) h5)) (λk16=>(zi a.ae s9.1 1 λoD=>(aB (.sl) oD (λnF=>(zi nF eu.1 4 λmL=>(aB (.sl) ((mL.add 0).add 1) (λoF=>(zW ((oF.len:Int)>6) (K false h4) (zi a.ae s9.1 1 λoL=>(aB (.sl) oL (λyY=>(zi yY eu.1 4 λyR=>(aB (.sl) ((yR.add 2).add 1) (λvU=>(zW ((vU.len:Int)>6) (K false h4) (k16 () h4))) h4))) h4)))) h4))) h4)))) (k10 ((i64.wrap (s9.1+1)),()) h4))) h4))) (0,()) h3) (K true h3))) (0,()) h1))) (0,()) h
def zi3(l:Sl)(K:zY Bool)(h:Hp):=zx (S:=Int×Unit) (λs1 k2 h1=>(zW (s1.1<(l.len:Int)) (zi l s1.1 2 λa3=>(zJ a3 (λdu dv=>(za (zbz ⟨du,dv⟩) (λr5 h2=>(ak (!r5) (K false h2) (k2 ((i64.wrap (s1.1+1)),()) h2))) h1)) h1)) (K true h1))) (0,()) h
def z9u(p:Tsetsquareref13_Plot)(K:zY (Sl×Bool))(h:Hp):=za (zby p.r) (λr1 h1=>(zy (S:=Unit) (λs2=>zx (S:=Sl×Int×Unit) (λs4 k5 h3=>(zW ((i64.wrap (s4.2.1+1))<(p.at_.len:Int)) (zi p.at_ s4.2.1 1 λa6=>(aB (.int .u8) a6 (λx7=>(zi p.at_ (i64.wrap (s4.2.1+1)) 1 λa8=>(aB (.int .u8) a8 (λx9=>(za (PO r1 (i64.wrap (x7))) (λbY=>za (PO r1 (i64.wrap (x9))) (λcB=>Qg 4 96 [zN,zN,zN,zN] s4.1 1 [.slice bY.ae.a bY.ae.len bY.ae.cap,.slice bY.af.a bY.af.len bY.af.cap,.slice cB.ae.a cB.ae.len cB.ae.cap,.slice cB.af.a cB.af.len cB.af.cap] (λw12 h6=>(k5 (w12,(i64.wrap (s4.2.1+2)),()) h6)))) h3)) h3))) h3)) (K (s4.1,true) h3))) (zd,0,())) (λk3=>(za (zi3 r1) (λcN h7=>(ak (!cN) (K (zd,false) h7) (zW ((p.at_.len:Int)>24) (K (zd,false) h7) (k3 () h7)))) h1)))) h
def z8f(p:Tsetsquareref13_Plot)(n:Int)(K:zY (Sl×Bool))(h:Hp):=za (z9u p) (λr1 h1=>(ak r1.2 (K (r1.1,decide ((r1.1.len:Int)>=n)) h1) (K (r1.1,false) h1))) h
def zju(x:aC)(y:aC)(K:zY aF)(h:Hp):=za (Xp x) (λr1=>za (Xp y) (λr2 h2=>(K ⟨r1,r2⟩ h2))) h
def Kz(x:Int)(y:Int)(K:zY aF)(h:Hp):=za (yh x) (λr1=>za (yh y) (λr2=>za (zju r1 r2) (λr3 h3=>(K r3 h3)))) h
def F2(u:aF)(t:aF)(aS:Bool)(K:zY aU)(h:Hp):=K ⟨u.x,u.y,t.x,t.y,aS⟩ h
def PR(v:aF)(K:zY aU)(h:Hp):=za (Kz 1 0) (λr1=>za (F2 r1 v false) (λr2 h2=>(K r2 h2))) h
def PU(a:aF)(K:zY Bool)(h:Hp):=za (Xd a.x) (λr1 h1=>(ak (r1==0) (za (Xd a.y) (λr2 h2=>(K (r2==0) h2)) h1) (K false h1))) h
def KD(K:zY aU)(h:Hp):=za (Kz 0 0) (λr1=>za (PR r1) (λr2 h2=>(K r2 h2))) h
def F3(e:Int)(f:Int)(K:zY Int)(h:Hp):=ak (e != 0) (K e h) (K f h)
def F4(a:aF)(b:aF)(K:zY (ag×Int))(h:Hp):=za (zB a.x b.x) (λr1=>za (zB a.y b.y) (λr2 h2=>(zy (S:=(Sl×Sl×Unit)×Unit) (λs3=>za (Dc ⟨r1.1.ae,r1.1.af⟩ ⟨r2.1.ae,r2.1.af⟩) (λr5 h4=>(K (⟨r5.1.ae,r5.1.af⟩,r5.2) h4))) (λk4=>(ak (r1.2 != 0) (za (F3 r1.2 r2.2) (λr6 h5=>(K (⟨zd,zd⟩,r6) h5)) h2) (ak (r2.2 != 0) (za (F3 r1.2 r2.2) (λr7 h6=>(K (⟨zd,zd⟩,r7) h6)) h2) (k4 ((zd,zd,()),()) h2))))))) h
def PV(a:aF)(K:zY (ag×Int))(h:Hp):=za (F4 a a) (λr1 h1=>(K (⟨r1.1.ae,r1.1.af⟩,r1.2) h1)) h
def z9t(a:aF)(K:zY (ag×Int))(h:Hp):=za (PV a) (λr1 h1=>(ak (r1.2 != 0) (K (⟨zd,zd⟩,r1.2) h1) (za (Dd ⟨r1.1.ae,r1.1.af⟩) (λr2 h2=>(K (⟨r2.1.ae,r2.1.af⟩,r2.2) h2)) h1))) h
def PX(x:ag)(y:ag)(e:Int)(K:zY (aF×Int))(h:Hp):=ak (e != 0) (K (⟨⟨zd,zd⟩,⟨zd,zd⟩⟩,e) h) (K (⟨x,y⟩,0) h)
def PY(a:aF)(n:ag)(K:zY (aF×Int))(h:Hp):=za (zB a.x n) (λr1=>za (zB a.y n) (λr2=>za (F3 r1.2 r2.2) (λr3=>za (PX ⟨r1.1.ae,r1.1.af⟩ ⟨r2.1.ae,r2.1.af⟩ r3) (λr4 h4=>(K (⟨⟨r4.1.x.ae,r4.1.x.af⟩,⟨r4.1.y.ae,r4.1.y.af⟩⟩,r4.2) h4))))) h
def F5(a:aF)(n:ag)(K:zY aF)(h:Hp):=za (Y4 1) (λr1=>za (F1 r1 n) (λr2=>za (PY a ⟨r2.1.ae,r2.1.af⟩) (λr3 h3=>(K ⟨⟨r3.1.x.ae,r3.1.x.af⟩,⟨r3.1.y.ae,r3.1.y.af⟩⟩ h3)))) h
def Df(a:aF)(K:zY aF)(h:Hp):=za (Bb a.y) (λr1 h1=>(K ⟨a.x,r1⟩ h1)) h
def KF(a:aF)(K:zY aF)(h:Hp):=za (Bb a.y) (λr1 h1=>(K ⟨r1,a.x⟩ h1)) h
def PZ(a:aF)(b:aF)(K:zY (ag×Int))(h:Hp):=za (KF a) (λr1=>za (F4 r1 b) (λr2 h2=>(K (⟨r2.1.ae,r2.1.af⟩,r2.2) h2))) h
def Di(a:aF)(b:aF)(K:zY aF)(h:Hp):=za (Df b) (λr1=>za (F4 a r1) (λr2=>za (Df a) (λr3=>za (PZ r3 b) (λr4 h4=>(K ⟨⟨r2.1.ae,r2.1.af⟩,⟨r4.1.ae,r4.1.af⟩⟩ h4))))) h
def zi6(a:aF)(K:zY aF)(h:Hp):=za (Bb a.x) (λr1=>za (Bb a.y) (λr2 h2=>(K ⟨r1,r2⟩ h2))) h
def zi5(a:aF)(b:aF)(K:zY (aF×Int))(h:Hp):=za (Dc a.x b.x) (λr1=>za (Dc a.y b.y) (λr2=>za (F3 r1.2 r2.2) (λr3=>za (PX ⟨r1.1.ae,r1.1.af⟩ ⟨r2.1.ae,r2.1.af⟩ r3) (λr4 h4=>(K (⟨⟨r4.1.x.ae,r4.1.x.af⟩,⟨r4.1.y.ae,r4.1.y.af⟩⟩,r4.2) h4))))) h
def QA(a:aF)(b:aF)(K:zY aF)(h:Hp):=za (zi5 a b) (λr1 h1=>(K ⟨⟨r1.1.x.ae,r1.1.x.af⟩,⟨r1.1.y.ae,r1.1.y.af⟩⟩ h1)) h
def KG(a:aF)(b:aF)(K:zY aF)(h:Hp):=za (zi6 b) (λr1=>za (QA a r1) (λr2 h2=>(K r2 h2))) h
def z76(bW:aF)(d:aF)(K:zY aU)(h:Hp):=za (z9t d) (λr1=>za (F5 d ⟨r1.1.ae,r1.1.af⟩) (λr2=>za (Di r2 bW) (λr3=>za (KG bW r3) (λr4=>za (F2 r2 r4 false) (λr5 h5=>(K r5 h5)))))) h
def QB(m:aU)(K:zY (aF×aF))(h:Hp):=K (⟨m.c,m.s⟩,⟨m.x,m.y⟩) h
def QC(m:aU)(n:aU)(K:zY aU)(h:Hp):=za (QB m) (λr1=>za (QB n) (λr2 h2=>(zy (S:=(Sl×Sl×Sl×Sl×Unit)×(Sl×Sl×Sl×Sl×Unit)×Unit) (λs3=>za (Di ⟨⟨r2.1.x.ae,r2.1.x.af⟩,⟨r2.1.y.ae,r2.1.y.af⟩⟩ ⟨⟨s3.1.1,s3.1.2.1⟩,⟨s3.1.2.2.1,s3.1.2.2.2.1⟩⟩) (λr5=>za (Di ⟨⟨r2.1.x.ae,r2.1.x.af⟩,⟨r2.1.y.ae,r2.1.y.af⟩⟩ ⟨⟨s3.2.1.1,s3.2.1.2.1⟩,⟨s3.2.1.2.2.1,s3.2.1.2.2.2.1⟩⟩) (λr6=>za (QA r6 ⟨⟨r2.2.x.ae,r2.2.x.af⟩,⟨r2.2.y.ae,r2.2.y.af⟩⟩) (λr7=>za (F2 r5 r7 (!(m.aS==n.aS))) (λr8 h7=>(K r8 h7)))))) (λk4=>(ak n.aS (za (Df ⟨⟨r1.1.x.ae,r1.1.x.af⟩,⟨r1.1.y.ae,r1.1.y.af⟩⟩) (λr9=>za (Df ⟨⟨r1.2.x.ae,r1.2.x.af⟩,⟨r1.2.y.ae,r1.2.y.af⟩⟩) (λbY h9=>(k4 ((r9.x.ae,r9.x.af,r9.y.ae,r9.y.af,()),(bY.x.ae,bY.x.af,bY.y.ae,bY.y.af,()),()) h9))) h2) (k4 ((r1.1.x.ae,r1.1.x.af,r1.1.y.ae,r1.1.y.af,()),(r1.2.x.ae,r1.2.x.af,r1.2.y.ae,r1.2.y.af,()),()) h2)))))) h
def zi4(a:ag)(b:ag)(K:zY (Int×Int))(h:Hp):=za (PN a b) (λr1 h1=>(ak (r1.2 != 0) (K (0,r1.2) h1) (za (Xd ⟨r1.1.ae,r1.1.af⟩) (λr2 h2=>(K (r2,0) h2)) h1))) h
def W0(a:ag)(b:ag)(K:zY Bool)(h:Hp):=za (zi4 a b) (λr1 h1=>(ak (r1.2==0) (K (r1.1==0) h1) (K false h1))) h
def Bc(a:aF)(b:aF)(K:zY Bool)(h:Hp):=za (W0 a.x b.x) (λr1 h1=>(ak r1 (za (W0 a.y b.y) (λr2 h2=>(K r2 h2)) h1) (K false h1))) h
def zey(a:aF)(b:aF)(K:zY ee)(h:Hp):=za (KG b a) (λr1=>za (KF r1) (λr2 h2=>(zy (S:=(Sl×Sl×Unit)×Unit) (λs3=>za (F5 r2 ⟨s3.1.1,s3.1.2.1⟩) (λr5=>za (F4 r5 a) (λr6 h5=>(K ⟨r5.x,r5.y,⟨r6.1.ae,r6.1.af⟩⟩ h5)))) (λk4=>(za (Xd r2.x) (λr7 h6=>(ak (r7==0) (k4 ((r2.y.ae,r2.y.af,()),()) h6) (k4 ((r2.x.ae,r2.x.af,()),()) h6))) h2))))) h
def QE(a:aF)(K:zY ag)(h:Hp):=za (PV a) (λr1 h1=>(K ⟨r1.1.ae,r1.1.af⟩ h1)) h
def z9v(l:ee)(K:zY aU)(h:Hp):=za (QE ⟨l.a,l.b⟩) (λr1=>za (F5 ⟨l.a,l.b⟩ r1) (λr2=>za (PY r2 l.c) (λr3=>za (KF ⟨l.a,l.b⟩) (λr4=>za (Di r4 r4) (λr5=>za (QE r4) (λr6=>za (F5 r5 r6) (λr7=>za (Df ⟨⟨r3.1.x.ae,r3.1.x.af⟩,⟨r3.1.y.ae,r3.1.y.af⟩⟩) (λr8=>za (Di r7 r8) (λr9=>za (KG ⟨⟨r3.1.x.ae,r3.1.x.af⟩,⟨r3.1.y.ae,r3.1.y.af⟩⟩ r9) (λbY=>za (F2 r7 bY true) (λcB bV=>(K cB bV)))))))))))) h
def QF(k:Int)(a:aF)(b:aF)(K:zY aU)(h:Hp):=za (PR a) (λr1 h1=>((5:Int)≠0 /\ (zy (S:=Bool×Unit) (λs2 h2=>(ak s2.1 (za (PU b) (λr4 h3=>(ak r4 (za (KD) (λr5 h4=>(K r5 h4)) h3) (za (z76 a b) (λr6 h5=>((5:Int)≠0 /\ (ak (((k:Int).tmod 5)==1) (K r6 h5) (za (QC r1 r6) (λr7 h6=>(K r7 h6)) h5)))) h3))) h2) (zy (S:=Bool×Unit) (λs8 h7=>(ak s8.1 (za (Bc a b) (λbY h8=>(ak bY (za (KD) (λcB h9=>(K cB h9)) h8) (za (zey a b) (λbZ=>za (z9v bZ) (λcN bV=>((5:Int)≠0 /\ (ak (((k:Int).tmod 5)==2) (K cN bV) (za (QC r1 cN) (λdR cu=>(K dR cu)) bV))))) h8))) h7) (K r1 h7))) (λk9=>(ak (((k:Int).tmod 5)==2) (k9 ((((k:Int).tmod 5)==2),()) h2) (k9 ((((k:Int).tmod 5)==4),()) h2)))))) (λk3=>(ak (((k:Int).tmod 5)==1) (k3 ((((k:Int).tmod 5)==1),()) h1) (k3 ((((k:Int).tmod 5)==3),()) h1)))))) h
def z3m(x:aC)(y:aC)(K:zY Bool)(h:Hp):=za (C6 x y) (λr1 h1=>(K (r1==0) h1)) h
def Zj(s1:Sl)(s2:Sl)(K:zY Bool)(h:Hp):=ak ((s1.len:Int) != (s2.len:Int)) (K false h) (zx (S:=Int×Unit) (λs3 k4 h1=>(zW (s3.1<(s1.len:Int)) (zi s1 s3.1 4 λa5=>(zH a5 (λdw dZ fw eQ=>(zi s2 s3.1 4 λa7=>(zH a7 (λF6 F7 F8 F9=>(za (z3m ⟨⟨dw,dZ⟩,⟨fw,eQ⟩⟩ ⟨⟨F6,F7⟩,⟨F8,F9⟩⟩) (λr9 h2=>(ak (!r9) (K false h2) (k4 ((i64.wrap (s3.1+1)),()) h2))) h1)) h1))) h1)) (K true h1))) (0,()) h)
def Qa(a:Sl)(b:Sl)(K:zY Bool)(h:Hp):=za (Zj a b) (λr1 h1=>(K r1 h1)) h
def Zf(s1:Sl)(s2:Sl)(K:zY Bool)(h:Hp):=ak ((s1.len:Int) != (s2.len:Int)) (K false h) (zx (S:=Int×Unit) (λs3 k4 h1=>(zW (s3.1<(s1.len:Int)) (zi s1 s3.1 1 λa5=>(aB (.sl) a5 (λx6=>(zi s2 s3.1 1 λa7=>(aB (.sl) a7 (λx8=>(za (Qa x6 x8) (λr9 h2=>(ak (!r9) (K false h2) (k4 ((i64.wrap (s3.1+1)),()) h2))) h1)) h1))) h1)) (K true h1))) (0,()) h)
def Ww(t:Sl)(u:Sl)(K:zY Bool)(h:Hp):=zW ((u.len:Int)<=(t.len:Int)) (ca t 0 (u.len:Int) 1 λc1=>(za (Zf c1 u) (λr2 h1=>(K r2 h1)) h)) (K false h)
def GA(n:Int)(K:zY Sl)(h:Hp):=eW n n 64 [.bool false,zN,.bool false,zN] (λm1=>zx (S:=Int×Unit) (λs2 k3 h2=>(zW (s2.1<(m1.len:Int)) (za (zr 0) (λr4 h3=>(zi m1 s2.1 4 λa5=>(bD a5 [.bool r4.num.neg,.slice r4.num.ah.a r4.num.ah.len r4.num.ah.cap,.bool r4.den.neg,.slice r4.den.ah.a r4.den.ah.len r4.den.ah.cap] (λh4=>(k3 ((i64.wrap (s2.1+1)),()) h4)) h3))) h2) (K m1 h2))) (0,())) h
def z9f(x:aC)(K:zY Bool)(h:Hp):=za (OK x) (λr1 h1=>(K (!r1) h1)) h
def yp(s:Sl)(K:zY Int)(h:Hp):=zx (S:=Int×Unit) (λs1 k2 h1=>(zW (s1.1<(s.len:Int)) (zi s s1.1 4 λa3=>(zH a3 (λdu dv eJ eK=>(za (z9f ⟨⟨du,dv⟩,⟨eJ,eK⟩⟩) (λr5 h2=>(ak r5 (K s1.1 h2) (k2 ((i64.wrap (s1.1+1)),()) h2))) h1)) h1)) (K (-1) h1))) (0,()) h
def yi(s:Sl)(K:zY Bool)(h:Hp):=za (yp s) (λr1 h1=>(K (decide (r1>=0)) h1)) h
def KH(l:Sl)(n:Int)(K:zY Bool)(h:Hp):=ak ((l.len:Int)==n) (za (yi l) (λr1 h1=>(K (!r1) h1)) h) (K false h)
def Vt(t:Sl)(K:zY Bool)(h:Hp):=zx (S:=Int×Unit) (λs1 k2 h1=>(zW (s1.1<(t.len:Int)) (zi t s1.1 1 λa3=>(aB (.sl) a3 (λx4=>(0<=(s1.1:Int) /\ (za (KH x4 (i64.wrap (1*2 ^ (min (s1.1:Int).toNat i64.bits)))) (λr5 h2=>(ak (!r5) (K false h2) (k2 ((i64.wrap (s1.1+1)),()) h2))) h1))) h1)) (K true h1))) (0,()) h
def Y5(t:Sl)(n:aC)(K:zY Sl)(h:Hp):=zy (S:=Unit) (λs1 h1=>(0<=((t.len:Int):Int) /\ (za (GA (i64.wrap (1*2 ^ (min ((t.len:Int):Int).toNat i64.bits)))) (λr3 h2=>(zi r3 0 4 λa4=>(bD a4 [.bool n.num.neg,.slice n.num.ah.a n.num.ah.len n.num.ah.cap,.bool n.den.neg,.slice n.den.ah.a n.den.ah.len n.den.ah.cap] (λh3=>(K r3 h3)) h2))) h1))) (λk2=>(za (Vt t) (λr5 h4=>(ak (!r5) (K zd h4) (za (OK n) (λr6 h5=>(ak (!r6) (K zd h5) (k2 () h5))) h4))) h))
def za0(x:aC)(K:zY Bool)(h:Hp):=za (Yr x) (λr1 h1=>(K (r1 != 0) h1)) h
def yx(s:Sl)(K:zY Int)(h:Hp):=zx (S:=Int×Unit) (λs1 k2 h1=>(zW (s1.1<(s.len:Int)) (zi s s1.1 4 λa3=>(zH a3 (λdu dv eJ eK=>(za (za0 ⟨⟨du,dv⟩,⟨eJ,eK⟩⟩) (λr5 h2=>(ak r5 (K s1.1 h2) (k2 ((i64.wrap (s1.1+1)),()) h2))) h1)) h1)) (K (-1) h1))) (0,()) h
def yo(s:Sl)(K:zY Bool)(h:Hp):=za (yx s) (λr1 h1=>(K (decide (r1>=0)) h1)) h
def Vi(a:Sl)(K:zY Bool)(h:Hp):=za (yo a) (λr1 h1=>(K (!r1) h1)) h
def KJ(t:Sl)(a:Sl)(K:zY Sl)(h:Hp):=za (Zl a) (λr1=>zx (S:=Sl×Unit) (λs2 k3 h2=>(0<=((t.len:Int):Int) /\ (zW ((s2.1.len:Int)<(i64.wrap (1*2 ^ (min ((t.len:Int):Int).toNat i64.bits)))) (za (zr 0) (λr4=>Qg 4 64 [.bool false,zN,.bool false,zN] s2.1 1 [.bool r4.num.neg,.slice r4.num.ah.a r4.num.ah.len r4.num.ah.cap,.bool r4.den.neg,.slice r4.den.ah.a r4.den.ah.len r4.den.ah.cap] (λw5 h4=>(k3 (w5,()) h4))) h2) (K s2.1 h2)))) (r1,())) h
def Q0(t:Sl)(a:Sl)(K:zY Bool)(h:Hp):=za (Vt t) (λr1 h1=>(ak r1 (0<=((t.len:Int):Int) /\ (za (KH a (i64.wrap (1*2 ^ (min ((t.len:Int):Int).toNat i64.bits)))) (λr2 h2=>(K r2 h2)) h1)) (K false h1))) h
def KO(t:Sl)(a:Sl)(b:Sl)(K:zY Bool)(h:Hp):=za (Q0 t a) (λr1 h1=>(ak r1 (0<=((t.len:Int):Int) /\ (za (KH b (i64.wrap (1*2 ^ (min ((t.len:Int):Int).toNat i64.bits)))) (λr2 h2=>(K r2 h2)) h1)) (K false h1))) h
def KW(t:Sl)(K:zY (Sl×Sl))(h:Hp):=ca t 0 (i64.wrap ((t.len:Int)-1)) 1 λc1=>(zi t (i64.wrap ((t.len:Int)-1)) 1 λa2=>(aB (.sl) a2 (λx3=>(K (c1,x3) h)) h))
def Dj(a:Sl)(K:zY (Sl×Sl))(h:Hp):=(2:Int)≠0 /\ (ca a 0 (i64.wrap (((a.len:Int):Int).tdiv 2)) 4 λc1=>((2:Int)≠0 /\ (ca a (i64.wrap (((a.len:Int):Int).tdiv 2)) (a.len:Int) 4 λc2=>(K (c1,c2) h))))
def Dk(a:Sl)(b:Sl)(K:zY Sl)(h:Hp):=eW (a.len:Int) (a.len:Int) 64 [.bool false,zN,.bool false,zN] (λm1=>zx (S:=Int×Unit) (λs2 k3 h2=>(zW (s2.1<(m1.len:Int)) (zi a s2.1 4 λa4=>(zH a4 (λfS gw jZ j0=>(zi b s2.1 4 λa6=>(zH a6 (λrp mM rq mN=>(za (Y9 ⟨⟨fS,gw⟩,⟨jZ,j0⟩⟩ ⟨⟨rp,mM⟩,⟨rq,mN⟩⟩) (λr8 h3=>(zi m1 s2.1 4 λa9=>(bD a9 [.bool r8.num.neg,.slice r8.num.ah.a r8.num.ah.len r8.num.ah.cap,.bool r8.den.neg,.slice r8.den.ah.a r8.den.ah.len r8.den.ah.cap] (λh4=>(k3 ((i64.wrap (s2.1+1)),()) h4)) h3))) h2)) h2))) h2)) (K m1 h2))) (0,())) h
def Wd:Nat->Sl->Sl->Sl->(Sl->Hp->Prop)->Hp->Prop
 | 0,_,_,_,_,_=>False
 | fuel+1,t,a,b,K,h=>(zy (S:=Unit) (λs1=>za (KW t) (λr3=>za (Dj a) (λr4=>za (Dj b) (λr5=>za ((Wd fuel) r3.1 r4.1 r5.1) (λr6=>za ((Wd fuel) r3.1 r4.2 r5.2) (λr7=>za ((Wd fuel) r3.1 r7 r3.2) (λr8=>za (Dk r6 r8) (λr9=>za ((Wd fuel) r3.1 r4.1 r5.2) (λbY=>za ((Wd fuel) r3.1 r4.2 r5.1) (λcB=>za (Dk bY cB) (λbZ bV=>(iO bZ.a (bZ.len*4) (λGB=>(Qg 4 64 [.bool false,zN,.bool false,zN] r9 bZ.len GB (λw14 cu=>(K w14 cu)) bV)) bV)))))))))))) (λk2=>(ak ((t.len:Int)==0) (zi a 0 4 λiU=>(zH iU (λiu iw j8 j9=>(zi b 0 4 λoD=>(zH oD (λeA eB QG QH=>(za (yl ⟨⟨iu,iw⟩,⟨j8,j9⟩⟩ ⟨⟨eA,eB⟩,⟨QG,QH⟩⟩) (λmf=>Ys [.bool mf.num.neg,.slice mf.num.ah.a mf.num.ah.len mf.num.ah.cap,.bool mf.den.neg,.slice mf.den.ah.a mf.den.ah.len mf.den.ah.cap] (λp20 eG=>(K ⟨some p20,1,1⟩ eG))) h)) h))) h)) (za (Vi a) (λdS gh=>(ak dS (za (GA (a.len:Int)) (λnJ gi=>(K nJ gi)) gh) (za (Vi b) (λjt dF=>(ak jt (za (GA (a.len:Int)) (λdL fN=>(K dL fN)) dF) (k2 () dF))) gh))) h))))
def Dl(t:Sl)(a:Sl)(b:Sl)(K:zY Sl)(h:Hp):=∃fuel,Wd fuel t a b K h
def W6(t:Sl)(a:Sl)(b:Sl)(K:zY Sl)(h:Hp):=za (KO t a b) (λr1 h1=>(ak (!r1) (K zd h1) (za (Dl t a b) (λr2 h2=>(K r2 h2)) h1))) h
def Dm(t:Sl)(a:Sl)(b:Sl)(K:zY Sl)(h:Hp):=za (KO t a b) (λr1 h1=>(ak (!r1) (K zd h1) (za (Dk a b) (λr2 h2=>(K r2 h2)) h1))) h
def Zv:Nat->aR->Sl->(Sl->Hp->Prop)->Hp->Prop
 | 0,_,_,_,_=>False
 | fuel+1,m,a,K,h=>(ak ((a.len:Int)==1) (zi a 0 4 λa1=>(zH a1 (λeH eI fe ff=>(za (Y5 m.ir ⟨⟨eH,eI⟩,⟨fe,ff⟩⟩) (λr3 h1=>(K r3 h1)) h)) h)) ((2:Int)≠0 /\ (zx (S:=Int×Unit) (λs4 k5 h2=>(0<=((i64.wrap (s4.1+1)):Int) /\ (zW ((i64.wrap (1*2 ^ (min ((i64.wrap (s4.1+1)):Int).toNat i64.bits)))<(a.len:Int)) (k5 ((i64.wrap (s4.1+1)),()) h2) (ca a 0 (i64.wrap (((a.len:Int):Int).tdiv 2)) 4 λc6=>(za ((Zv fuel) m c6) (λr7 h3=>(ca a (i64.wrap (((a.len:Int):Int).tdiv 2)) (a.len:Int) 4 λc8=>(za (Vi c8) (λr9 h4=>(ak r9 (K r7 h4) (ca a (i64.wrap (((a.len:Int):Int).tdiv 2)) (a.len:Int) 4 λnI=>(zi m.roots s4.1 1 λoC=>(aB (.sl) oC (λjY=>(za ((Zv fuel) m nI) (λcN=>za (KJ m.ir jY) (λdR=>za (W6 m.ir cN dR) (λcA=>za (Dm m.ir r7 cA) (λej h8=>(K ej h8))))) h4)) h4))))) h3))) h2))))) (0,()) h)))
def qr(m:aR)(a:Sl)(K:zY Sl)(h:Hp):=∃fuel,Zv fuel m a K h
def QI(a:aE)(K:zY (aE×Bool))(h:Hp):=za (FJ a) (λr1 h1=>(ak (r1.2==0) (za (ym ⟨r1.1.neg,r1.1.ah⟩ ⟨r1.1.neg,r1.1.ah⟩) (λr2=>za (Ot r2 a) (λr3 h3=>(K (⟨r1.1.neg,r1.1.ah⟩,(r3==0)) h3))) h1) (K (⟨r1.1.neg,r1.1.ah⟩,false) h1))) h
def z8c(a:aC)(K:zY (aC×Bool))(h:Hp):=za (QI a.num) (λr1=>za (QI a.den) (λr2 h2=>(zy (S:=(Bool×Sl×Bool×Sl×Unit)×Unit) (λs3 h3=>(K (⟨⟨r1.1.neg,r1.1.ah⟩,⟨r2.1.neg,r2.1.ah⟩⟩,true) h3)) (λk4=>(ak (!r1.2) (K (⟨⟨false,zd⟩,⟨false,zd⟩⟩,false) h2) (ak (!r2.2) (K (⟨⟨false,zd⟩,⟨false,zd⟩⟩,false) h2) (k4 ((false,zd,false,zd,()),()) h2))))))) h
def Qk(s:Sl)(n:Int)(K:zY Sl)(h:Hp):=zy (S:=Unit) (λs1 h1=>(zW ((i64.wrap (n-(i64.wrap ((s.cap:Int)-(s.len:Int)))))>0) (ca s 0 (s.cap:Int) 4 λc3=>(0<=((i64.wrap (n-(i64.wrap ((s.cap:Int)-(s.len:Int))))):Int) /\ (Qg 4 64 [.bool false,zN,.bool false,zN] c3 (((i64.wrap (n-(i64.wrap ((s.cap:Int)-(s.len:Int))))):Int).toNat) (Yi ((i64.wrap (n-(i64.wrap ((s.cap:Int)-(s.len:Int))))):Int).toNat [.bool false,zN,.bool false,zN]) (λw4 h2=>(ca w4 0 (s.len:Int) 4 λc5=>(K c5 h2))) h1))) (K s h1))) (λk2=>(zW (n<0) False (k2 () h)))
def Z0(mO:Sl)(K:zY Sl)(h:Hp):=zx (S:=Int×Int×Unit) (λs1 k2 h1=>(zW (s1.2.1<(mO.len:Int)) (zy (S:=Int×Unit) (λs3 h2=>(k2 (s3.1,(i64.wrap (s1.2.1+1)),()) h2)) (λk4=>(zi mO s1.2.1 1 λa5=>(aB (.sl) a5 (λx6=>(zW ((i64.wrap (s1.1+(x6.len:Int)))<0) False (k4 ((i64.wrap (s1.1+(x6.len:Int))),()) h1))) h1)))) (za (Qk zd s1.1) (λr7=>zx (S:=Sl×Int×Unit) (λs8 k9 h4=>(zW (s8.2.1<(mO.len:Int)) (zi mO s8.2.1 1 λfM=>(aB (.sl) fM (λgd=>(iO gd.a (gd.len*4) (λaaG=>(Qg 4 64 [.bool false,zN,.bool false,zN] s8.1 gd.len aaG (λAZ h5=>(k9 (AZ,(i64.wrap (s8.2.1+1)),()) h5)) h4)) h4)) h4)) (K s8.1 h4))) (r7,0,())) h1))) (0,0,()) h
def Dn(a:Sl)(K:zY Sl)(h:Hp):=eW (a.len:Int) (a.len:Int) 64 [.bool false,zN,.bool false,zN] (λm1=>zx (S:=Int×Unit) (λs2 k3 h2=>(zW (s2.1<(a.len:Int)) (zi a s2.1 4 λa4=>(zH a4 (λfS gw jZ j0=>(za (Wq ⟨⟨fS,gw⟩,⟨jZ,j0⟩⟩) (λr6 h3=>(zi m1 s2.1 4 λa7=>(bD a7 [.bool r6.num.neg,.slice r6.num.ah.a r6.num.ah.len r6.num.ah.cap,.bool r6.den.neg,.slice r6.den.ah.a r6.den.ah.len r6.den.ah.cap] (λh4=>(k3 ((i64.wrap (s2.1+1)),()) h4)) h3))) h2)) h2)) (K m1 h2))) (0,())) h
def QJ(t:Sl)(a:Sl)(K:zY Sl)(h:Hp):=za (KW t) (λr1=>za (Dj a) (λr2=>za (Dl r1.1 r2.1 r2.1) (λr3=>za (Dl r1.1 r2.2 r2.2) (λr4=>za (Dl r1.1 r4 r1.2) (λr5=>za (Dn r5) (λr6=>za (Dk r3 r6) (λr7 h7=>(K r7 h7)))))))) h
def Xx:Nat->Sl->Sl->((Sl×Bool)->Hp->Prop)->Hp->Prop
 | 0,_,_,_,_=>False
 | fuel+1,t,a,K,h=>(ak ((t.len:Int)==0) (zi a 0 4 λa1=>(zH a1 (λeH eI fe ff=>(za (zr 1) (λr3=>za (FG r3 ⟨⟨eH,eI⟩,⟨fe,ff⟩⟩) (λr4=>Ys [.bool r4.1.num.neg,.slice r4.1.num.ah.a r4.1.num.ah.len r4.1.num.ah.cap,.bool r4.1.den.neg,.slice r4.1.den.ah.a r4.1.den.ah.len r4.1.den.ah.cap] (λp5 h3=>(K (⟨some p5,1,1⟩,(r4.2==0)) h3)))) h)) h)) (za (KW t) (λr6=>za (QJ t a) (λr7=>za ((Xx fuel) r6.1 r7) (λr8 h6=>(ak (!r8.2) (K (zd,false) h6) (za (Dj a) (λr9=>za (Dl r6.1 r9.1 r8.1) (λbY=>za (Dl r6.1 r9.2 r8.1) (λcB=>za (Dn cB) (λbZ aZ=>(iO bZ.a (bZ.len*4) (λGB=>(Qg 4 64 [.bool false,zN,.bool false,zN] bY bZ.len GB (λw14 bV=>(K (w14,true) bV)) aZ)) aZ))))) h6))))) h))
def zck(t:Sl)(a:Sl)(K:zY (Sl×Bool))(h:Hp):=∃fuel,Xx fuel t a K h
def KX(t:Sl)(a:Sl)(K:zY (Sl×Int))(h:Hp):=za (Q0 t a) (λr1 h1=>(ak (!r1) (K (zd,1) h1) (za (zck t a) (λr2 h2=>(ak (!r2.2) (K (zd,6) h2) (K (r2.1,0) h2))) h1))) h
def zfk(t:Sl)(a:Sl)(K:zY Sl)(h:Hp):=zy (S:=Unit) (λs1=>za (QJ t a) (λr3 h2=>(K r3 h2))) (λk2=>(za (Q0 t a) (λr4 h3=>(ak (!r4) (K zd h3) (ak ((t.len:Int)==0) (K zd h3) (k2 () h3)))) h))
def Be(t:Sl)(a:Sl)(b:Sl)(K:zY Sl)(h:Hp):=za (KO t a b) (λr1 h1=>(ak (!r1) (K zd h1) (za (Dn b) (λr2=>za (Dk a r2) (λr3 h3=>(K r3 h3))) h1))) h
def zi8(t:Sl)(a:Sl)(K:zY Sl)(h:Hp):=za (FT 1 2) (λr1=>za (Y5 t r1) (λr2=>za (W6 t a r2) (λr3 h3=>(K r3 h3)))) h
def Qx:Nat->Sl->Sl->((Sl×Bool)->Hp->Prop)->Hp->Prop
 | 0,_,_,_,_=>False
 | fuel+1,t,a,K,h=>(ak ((t.len:Int)==0) (zi a 0 4 λa1=>(zH a1 (λeH eI fe ff=>(za (z8c ⟨⟨eH,eI⟩,⟨fe,ff⟩⟩) (λr3=>Ys [.bool r3.1.num.neg,.slice r3.1.num.ah.a r3.1.num.ah.len r3.1.num.ah.cap,.bool r3.1.den.neg,.slice r3.1.den.ah.a r3.1.den.ah.len r3.1.den.ah.cap] (λp4 h2=>(K (⟨some p4,1,1⟩,r3.2) h2))) h)) h)) (ca t 0 (i64.wrap ((t.len:Int)-1)) 1 λc5=>(zi t (i64.wrap ((t.len:Int)-1)) 1 λa6=>(aB (.sl) a6 (λx7=>((2:Int)≠0 /\ (ca a 0 (i64.wrap (((a.len:Int):Int).tdiv 2)) 4 λc8=>((2:Int)≠0 /\ (ca a (i64.wrap (((a.len:Int):Int).tdiv 2)) (a.len:Int) 4 λc9=>(za (Vi c9) (λbY h3=>(ak bY (za ((Qx fuel) c5 c8) (λcB h4=>(ak cB.2 (za (zr 0) (λbZ=>za (Y5 c5 bZ) (λcN=>Ys [.slice cB.1.a cB.1.len cB.1.cap,.slice cN.a cN.len cN.cap] (λp14=>za (Z0 ⟨some p14,2,2⟩) (λcA h8=>(K (cA,true) h8))))) h4) (za (KX c5 x7) (λej h9=>(ak (ej.2 != 0) (K (zd,false) h9) (za (W6 c5 c8 ej.1) (λfq=>za ((Qx fuel) c5 fq) (λiM=>za (zr 0) (λmf=>za (Y5 c5 mf) (λjG=>Ys [.slice jG.a jG.len jG.cap,.slice iM.1.a iM.1.len iM.1.cap] (λp21=>za (Z0 ⟨some p21,2,2⟩) (λnJ gh=>(K (nJ,iM.2) gh))))))) h9))) h4))) h3) (za (zfk t a) (λjt=>za ((Qx fuel) c5 jt) (λdL dF=>(ak (!dL.2) (K (zd,false) dF) (za (Dm c5 c8 dL.1) (λiq=>za (Be c5 c8 dL.1) (λoK=>Ys [.slice iq.a iq.len iq.cap,.slice oK.a oK.len oK.cap] (λp27=>zx (S:=Int×Unit) (λs28 k29 me=>(zW (s28.1<((⟨some p27,2,2⟩:Sl).len:Int)) (zy (S:=Unit) (λs30 u6=>(k29 ((i64.wrap (s28.1+1)),()) u6)) (λk31=>(zi ⟨some p27,2,2⟩ s28.1 1 λa32=>(aB (.sl) a32 (λx33=>(za (zi8 c5 x33) (λuZ=>za ((Qx fuel) c5 uZ) (λuW js=>(zy (S:=Unit) (λAW=>za (Dm c5 uW.1 uW.1) (λju=>za (KX c5 ju) (λr39=>za (W6 c5 c9 r39.1) (λtS=>Ys [.slice uW.1.a uW.1.len uW.1.cap,.slice tS.a tS.len tS.cap] (λp41=>za (Z0 ⟨some p41,2,2⟩) (λr42 Bf=>(K (r42,true) Bf))))))) (λk37=>(ak (!uW.2) (k31 () js) (za (Vi uW.1) (λOw zC=>(ak Ow (k31 () zC) (k37 () zC))) js)))))) me)) me)))) (K (zd,false) me))) (0,())))) dF)))) h3))) h)))))) h))))
def zgy(t:Sl)(a:Sl)(K:zY (Sl×Bool))(h:Hp):=∃fuel,Qx fuel t a K h
def W4:Nat->Sl->Sl->(Int->Hp->Prop)->Hp->Prop
 | 0,_,_,_,_=>False
 | fuel+1,t,a,K,h=>(ak ((t.len:Int)==0) (zi a 0 4 λa1=>(zH a1 (λeH eI fe ff=>(za (Yr ⟨⟨eH,eI⟩,⟨fe,ff⟩⟩) (λr3 h1=>(K r3 h1)) h)) h)) ((2:Int)≠0 /\ (ca t 0 (i64.wrap ((t.len:Int)-1)) 1 λc4=>(ca a 0 (i64.wrap (((a.len:Int):Int).tdiv 2)) 4 λc5=>(ca a (i64.wrap (((a.len:Int):Int).tdiv 2)) (a.len:Int) 4 λc6=>(za ((W4 fuel) c4 c5) (λr7=>za ((W4 fuel) c4 c6) (λr8 h3=>(zy (S:=Unit) (λs9 h4=>(zi t (i64.wrap ((t.len:Int)-1)) 1 λoC=>(aB (.sl) oC (λjY=>(za (W6 c4 c5 c5) (λcN=>za (W6 c4 c6 c6) (λdR=>za (W6 c4 jY dR) (λcA=>za (Be c4 cN cA) (λej=>za ((W4 fuel) c4 ej) (λfq h9=>(K (i64.wrap (r7*fq)) h9)))))) h4)) h4))) (λk10=>(ak (r8==0) (K r7 h3) (ak (r7==r8) (K r7 h3) (ak (r7==0) (K r8 h3) (k10 () h3)))))))) h))))))
def GC(t:Sl)(a:Sl)(K:zY Int)(h:Hp):=∃fuel,W4 fuel t a K h
def zid(t:Sl)(K:zY Bool)(h:Hp):=za (zr 0) (λr1=>za (Y5 t r1) (λr2=>za (Q0 t r2) (λr3 h3=>(ak (!r3) (K false h3) (zx (S:=Int×Unit) (λs4 k5 h4=>(zW (s4.1<(t.len:Int)) (zi t s4.1 1 λa6=>(aB (.sl) a6 (λx7=>(ca t 0 s4.1 1 λc8=>(za (GC c8 x7) (λr9 h5=>(zW (r9<=0) (K false h5) (k5 ((i64.wrap (s4.1+1)),()) h5))) h4))) h4)) (K true h4))) (0,()) h3))))) h
def Dp(t:Sl)(l:Sl)(K:zY Bool)(h:Hp):=zx (S:=Int×Unit) (λs1 k2 h1=>(zW (s1.1<(l.len:Int)) (zi l s1.1 1 λa3=>(aB (.sl) a3 (λx4=>(za (Q0 t x4) (λr5 h2=>(ak (!r5) (K false h2) (k2 ((i64.wrap (s1.1+1)),()) h2))) h1)) h1)) (za (zid t) (λr6 h3=>(K r6 h3)) h1))) (0,()) h
def Dq(t:Sl)(a:Sl)(K:zY Int)(h:Hp):=Ys [.slice a.a a.len a.cap] (λp1=>za (Dp t ⟨some p1,1,1⟩) (λr2 h2=>(ak (!r2) (K 0 h2) (za (GC t a) (λr3 h3=>(K r3 h3)) h2)))) h
def QK(t:Sl)(a:Sl)(K:zY Sl)(h:Hp):=za (Q0 t a) (λr1 h1=>(ak (!r1) (K zd h1) (za (Dn a) (λr2 h2=>(K r2 h2)) h1))) h
def z8g(t:Sl)(a:Sl)(K:zY (Sl×Bool))(h:Hp):=za (zgy t a) (λr1 h1=>(ak (!r1.2) (K (zd,false) h1) (zy (S:=Sl×Unit) (λs2 h2=>(K (s2.1,true) h2)) (λk3=>(za (Dq t r1.1) (λr4 h3=>(zW (r4<0) (za (QK t r1.1) (λr5 h4=>(k3 (r5,()) h4)) h3) (k3 (r1.1,()) h3))) h1))))) h
def QM(t:Sl)(K:zY Sl)(h:Hp):=eW (t.len:Int) (t.len:Int) 24 [zN] (λm1=>zx (S:=Int×Unit) (λs2 k3 h2=>(zW (s2.1<(t.len:Int)) (zi t s2.1 1 λa4=>(aB (.sl) a4 (λx5=>(za (Zl x5) (λr6 h3=>(zi m1 s2.1 1 λa7=>(bD a7 [.slice r6.a r6.len r6.cap] (λh4=>(k3 ((i64.wrap (s2.1+1)),()) h4)) h3))) h2)) h2)) (K m1 h2))) (0,())) h
def zfl(t:Sl)(i:Int)(K:zY Sl)(h:Hp):=zy (S:=Unit) (λs1 h1=>(0<=((t.len:Int):Int) /\ (za (GA (i64.wrap (1*2 ^ (min ((t.len:Int):Int).toNat i64.bits)))) (λr3 h2=>(0<=(i:Int) /\ (za (zr 1) (λr4 h3=>(zi r3 (i64.wrap (1*2 ^ (min (i:Int).toNat i64.bits))) 4 λa5=>(bD a5 [.bool r4.num.neg,.slice r4.num.ah.a r4.num.ah.len r4.num.ah.cap,.bool r4.den.neg,.slice r4.den.ah.a r4.den.ah.len r4.den.ah.cap] (λh4=>(K r3 h4)) h3))) h2))) h1))) (λk2=>(za (Vt t) (λr6 h5=>(ak (!r6) (K zd h5) (zW (i<0) (K zd h5) (zW (i>=(t.len:Int)) (K zd h5) (k2 () h5))))) h))
def z9x(t:Sl)(K:zY Bool)(h:Hp):=zx (S:=Int×Unit) (λs1 k2 h1=>(zW (s1.1<(t.len:Int)) (zi t s1.1 1 λa3=>(aB (.sl) a3 (λx4=>(zy (S:=Unit) (λs5 h2=>(ca t 0 s1.1 1 λc7=>(za (zgy c7 x4) (λr8 h3=>(ak r8.2 (K false h3) (k2 ((i64.wrap (s1.1+1)),()) h3))) h2))) (λk6=>(ca t 0 s1.1 1 λc9=>(za (Q0 c9 x4) (λbY h4=>(ak (!bY) (K false h4) (ca t 0 s1.1 1 λmg=>(za (Dq mg x4) (λbZ h5=>(ak (bZ != 1) (K false h5) (k6 () h5))) h4)))) h1))))) h1)) (K true h1))) (0,()) h
def zc3(t:Sl)(a:Sl)(K:zY (Sl×Sl×Int))(h:Hp):=zy (S:=Unit) (λs1=>za (z8g t a) (λr3 h2=>(ak r3.2 (za (QM t) (λr4 h3=>(K (r4,r3.1,0) h3)) h2) (zW ((t.len:Int)>=8) (K (zd,zd,3) h2) (za (QM t) (λr5=>za (Zl a) (λr6=>Qg 1 24 [zN] r5 1 [.slice r6.a r6.len r6.cap] (λw7=>za (zfl w7 (t.len:Int)) (λr8 h7=>(K (w7,r8,0) h7))))) h2))))) (λk2=>(za (Q0 t a) (λr9 h8=>(ak (!r9) (K (zd,zd,1) h8) (za (z9x t) (λbY h9=>(ak (!bY) (K (zd,zd,1) h9) (za (Dq t a) (λcB aZ=>(zW (cB<0) (K (zd,zd,7) aZ) (k2 () aZ))) h9))) h8))) h))
def QN(t:Sl)(u:Sl)(K:zY (aR×Int))(h:Hp):=zx (S:=(Sl×Sl×Unit)×(Sl×Sl×Unit)×Int×Unit) (λs1 k2 h1=>(zW (s1.2.2.1<(u.len:Int)) (zi u s1.2.2.1 1 λa3=>(aB (.sl) a3 (λx4=>(za (qr ⟨s1.2.1.1,s1.2.1.2.1⟩ x4) (λr5=>za (zc3 s1.2.1.1 r5) (λr6 h3=>(ak (r6.2.2 != 0) (K (⟨zd,zd⟩,r6.2.2) h3) (Qg 1 24 [zN] s1.2.1.2.1 1 [.slice r6.2.1.a r6.2.1.len r6.2.1.cap] (λw7 h4=>(k2 ((s1.1.1,s1.1.2.1,()),(r6.1,w7,()),(i64.wrap (s1.2.2.1+1)),()) h4)) h3)))) h1)) h1)) (K (⟨s1.2.1.1,s1.2.1.2.1⟩,0) h1))) ((zd,zd,()),(t,zd,()),0,()) h
def KY(l:Sl)(K:zY (Sl×Int))(h:Hp):=zx (S:=Sl×Int×Unit) (λs1 k2 h1=>(zW (s1.2.1<(l.len:Int)) (zy (S:=Sl×Unit) (λs3 h2=>(k2 (s3.1,(i64.wrap (s1.2.1+1)),()) h2)) (λk4=>(zi l s1.2.1 2 λa5=>(zJ a5 (λdw dZ=>(za (Ww s1.1 dw) (λr7 h3=>(ak r7 (k4 (s1.1,()) h3) (za (Ww dw s1.1) (λr8 h4=>(ak r8 (k4 (dw,()) h4) (za (QN s1.1 dw) (λr9 h5=>(ak (r9.2 != 0) (K (zd,r9.2) h5) (k4 (r9.1.ir,()) h5))) h4))) h3))) h1)) h1)))) (K (s1.1,0) h1))) (zd,0,()) h
def QO(n:aC)(K:zY aC)(h:Hp):=za (Zd n.num.ah) (λr1=>za (Zd n.den.ah) (λr2 h2=>(K ⟨⟨n.num.neg,r1⟩,⟨n.den.neg,r2⟩⟩ h2))) h
def QP(l:Sl)(K:zY Sl)(h:Hp):=eW (l.len:Int) (l.len:Int) 64 [.bool false,zN,.bool false,zN] (λm1=>zx (S:=Int×Unit) (λs2 k3 h2=>(zW (s2.1<(l.len:Int)) (zi l s2.1 4 λa4=>(zH a4 (λfS gw jZ j0=>(za (QO ⟨⟨fS,gw⟩,⟨jZ,j0⟩⟩) (λr6 h3=>(zi m1 s2.1 4 λa7=>(bD a7 [.bool r6.num.neg,.slice r6.num.ah.a r6.num.ah.len r6.num.ah.cap,.bool r6.den.neg,.slice r6.den.ah.a r6.den.ah.len r6.den.ah.cap] (λh4=>(k3 ((i64.wrap (s2.1+1)),()) h4)) h3))) h2)) h2)) (K m1 h2))) (0,())) h
def QQ(a:ag)(K:zY ag)(h:Hp):=za (QP a.af) (λr1=>zx (S:=(Sl×Sl×Unit)×Int×Unit) (λs2 k3 h2=>(zW (s2.2.1<(a.ae.len:Int)) (zi a.ae s2.2.1 1 λa4=>(aB (.sl) a4 (λx5=>(za (QP x5) (λr6=>Qg 1 24 [zN] s2.1.1 1 [.slice r6.a r6.len r6.cap] (λw7 h4=>(k3 ((w7,s2.1.2.1,()),(i64.wrap (s2.2.1+1)),()) h4))) h2)) h2)) (K ⟨s2.1.1,s2.1.2.1⟩ h2))) ((zd,r1,()),0,())) h
def V2(l:Sl)(K:zY (Sl×Int))(h:Hp):=za (KY l) (λr1 h1=>(ak (r1.2 != 0) (K (zd,r1.2) h1) (zx (S:=Sl×Int×Unit) (λs2 k3 h2=>(zW (s2.2.1<(l.len:Int)) (zi l s2.2.1 2 λa4=>(zJ a4 (λfS gw=>(zy (S:=(Sl×Sl×Unit)×Unit) (λs6=>za (QQ ⟨s6.1.1,s6.1.2.1⟩) (λr8=>Qg 2 48 [zN,zN] s2.1 1 [.slice r8.ae.a r8.ae.len r8.ae.cap,.slice r8.af.a r8.af.len r8.af.cap] (λw9 h5=>(k3 (w9,(i64.wrap (s2.2.1+1)),()) h5)))) (λk7=>(za (Ww r1.1 fS) (λbY h6=>(ak bY (za (KJ r1.1 gw) (λcB h7=>(k7 ((r1.1,cB,()),()) h7)) h6) (za (QN r1.1 fS) (λbZ h8=>(ak (bZ.2 != 0) (K (zd,bZ.2) h8) (za (qr ⟨bZ.1.ir,bZ.1.roots⟩ gw) (λcN h9=>(k7 ((r1.1,cN,()),()) h9)) h8))) h6))) h2)))) h2)) (K (s2.1,0) h2))) (zd,0,()) h1))) h
def Xm(a:ag)(b:ag)(K:zY (ag×Int))(h:Hp):=Ys [.slice a.ae.a a.ae.len a.ae.cap,.slice a.af.a a.af.len a.af.cap,.slice b.ae.a b.ae.len b.ae.cap,.slice b.af.a b.af.len b.af.cap] (λp1=>za (V2 ⟨some p1,2,2⟩) (λr2 h2=>(ak (r2.2 != 0) (K (⟨zd,zd⟩,r2.2) h2) (zi r2.1 0 2 λa3=>(aB (.sl) (a3.add 0) (λx4=>(zi r2.1 0 2 λa5=>(aB (.sl) (a5.add 1) (λx6=>(zi r2.1 1 2 λa7=>(aB (.sl) (a7.add 1) (λx8=>(za (W6 x4 x6 x8) (λr9 h3=>(K (⟨x4,r9⟩,0) h3)) h2)) h2))) h2))) h2))))) h
def Xb(a:ag)(b:ag)(K:zY (ag×Int))(h:Hp):=za (Xm a b) (λr1 h1=>(K (⟨r1.1.ae,r1.1.af⟩,r1.2) h1)) h
def Wm(k:(Option Addr))(a:ag)(b:ag)(K:zY ag)(h:Hp):=Yv k λp1=>(aB (.int .i64) (p1.add 0) (λx2=>(ak (x2 != 0) (K ⟨zd,zd⟩ h) (za (Xb a b) (λr3 h1=>(Yv k λp4=>(bD (p4.add 0) [.int .i64 r3.2] (λh2=>(K ⟨r3.1.ae,r3.1.af⟩ h2)) h1))) h))) h)
def Qt(k:(Option Addr))(a:ag)(b:ag)(K:zY ag)(h:Hp):=za (Wm k a b) (λr1 h1=>(K r1 h1)) h
def z0f(a:ag)(b:ag)(K:zY (ag×Int))(h:Hp):=Ys [.slice a.ae.a a.ae.len a.ae.cap,.slice a.af.a a.af.len a.af.cap,.slice b.ae.a b.ae.len b.ae.cap,.slice b.af.a b.af.len b.af.cap] (λp1=>za (V2 ⟨some p1,2,2⟩) (λr2 h2=>(ak (r2.2 != 0) (K (⟨zd,zd⟩,r2.2) h2) (zi r2.1 0 2 λa3=>(aB (.sl) (a3.add 0) (λx4=>(zi r2.1 0 2 λa5=>(aB (.sl) (a5.add 1) (λx6=>(zi r2.1 1 2 λa7=>(aB (.sl) (a7.add 1) (λx8=>(za (Be x4 x6 x8) (λr9 h3=>(K (⟨x4,r9⟩,0) h3)) h2)) h2))) h2))) h2))))) h
def Dr(a:ag)(b:ag)(K:zY (ag×Int))(h:Hp):=za (z0f a b) (λr1 h1=>(K (⟨r1.1.ae,r1.1.af⟩,r1.2) h1)) h
def Wn(k:(Option Addr))(a:ag)(b:ag)(K:zY ag)(h:Hp):=Yv k λp1=>(aB (.int .i64) (p1.add 0) (λx2=>(ak (x2 != 0) (K ⟨zd,zd⟩ h) (za (Dr a b) (λr3 h1=>(Yv k λp4=>(bD (p4.add 0) [.int .i64 r3.2] (λh2=>(K ⟨r3.1.ae,r3.1.af⟩ h2)) h1))) h))) h)
def z2z(k:(Option Addr))(a:ag)(b:ag)(K:zY ag)(h:Hp):=za (Wn k a b) (λr1 h1=>(K r1 h1)) h
def Xl(a:ag)(b:ag)(K:zY (ag×Int))(h:Hp):=Ys [.slice a.ae.a a.ae.len a.ae.cap,.slice a.af.a a.af.len a.af.cap,.slice b.ae.a b.ae.len b.ae.cap,.slice b.af.a b.af.len b.af.cap] (λp1=>za (V2 ⟨some p1,2,2⟩) (λr2 h2=>(ak (r2.2 != 0) (K (⟨zd,zd⟩,r2.2) h2) (zi r2.1 0 2 λa3=>(aB (.sl) (a3.add 0) (λx4=>(zi r2.1 0 2 λa5=>(aB (.sl) (a5.add 1) (λx6=>(zi r2.1 1 2 λa7=>(aB (.sl) (a7.add 1) (λx8=>(za (Dm x4 x6 x8) (λr9 h3=>(K (⟨x4,r9⟩,0) h3)) h2)) h2))) h2))) h2))))) h
def Vc(a:ag)(b:ag)(K:zY (ag×Int))(h:Hp):=za (Xl a b) (λr1 h1=>(K (⟨r1.1.ae,r1.1.af⟩,r1.2) h1)) h
def Wl(k:(Option Addr))(a:ag)(b:ag)(K:zY ag)(h:Hp):=Yv k λp1=>(aB (.int .i64) (p1.add 0) (λx2=>(ak (x2 != 0) (K ⟨zd,zd⟩ h) (za (Vc a b) (λr3 h1=>(Yv k λp4=>(bD (p4.add 0) [.int .i64 r3.2] (λh2=>(K ⟨r3.1.ae,r3.1.af⟩ h2)) h1))) h))) h)
def z2y(k:(Option Addr))(a:ag)(b:ag)(K:zY ag)(h:Hp):=za (Wl k a b) (λr1 h1=>(K r1 h1)) h
def Ds(a:ag)(K:zY ag)(h:Hp):=za (QQ a) (λr1=>za (QK r1.ae r1.af) (λr2 h2=>(K ⟨r1.ae,r2⟩ h2))) h
def Vz(k:(Option Addr))(m:aU)(a:aF)(K:zY aF)(h:Hp):=zy (S:=(Sl×Sl×Unit)×Unit) (λs1=>za (Qt k m.c a.x) (λr3=>za (Qt k m.s ⟨s1.1.1,s1.1.2.1⟩) (λr4=>za (z2z k r3 r4) (λr5=>za (Qt k m.s a.x) (λr6=>za (Qt k m.c ⟨s1.1.1,s1.1.2.1⟩) (λr7=>za (z2y k r6 r7) (λr8 h7=>(K ⟨r5,r8⟩ h7)))))))) (λk2=>(ak m.aS (za (Ds a.y) (λr9 h8=>(k2 ((r9.ae,r9.af,()),()) h8)) h) (k2 ((a.y.ae,a.y.af,()),()) h)))
def z27(a:aF)(b:aF)(K:zY (aF×Int))(h:Hp):=za (Vc a.x b.x) (λr1 h1=>(ak (r1.2 != 0) (K (⟨⟨zd,zd⟩,⟨zd,zd⟩⟩,r1.2) h1) (za (Vc a.y b.y) (λr2 h2=>(ak (r2.2 != 0) (K (⟨⟨zd,zd⟩,⟨zd,zd⟩⟩,r2.2) h2) (K (⟨⟨r1.1.ae,r1.1.af⟩,⟨r2.1.ae,r2.1.af⟩⟩,0) h2))) h1))) h
def zfp(a:aF)(b:aF)(K:zY (aF×Int))(h:Hp):=za (z27 a b) (λr1 h1=>(K (⟨⟨r1.1.x.ae,r1.1.x.af⟩,⟨r1.1.y.ae,r1.1.y.af⟩⟩,r1.2) h1)) h
def X7(k:(Option Addr))(a:aF)(b:aF)(K:zY aF)(h:Hp):=Yv k λp1=>(aB (.int .i64) (p1.add 0) (λx2=>(ak (x2 != 0) (K ⟨⟨zd,zd⟩,⟨zd,zd⟩⟩ h) (za (zfp a b) (λr3 h1=>(Yv k λp4=>(bD (p4.add 0) [.int .i64 r3.2] (λh2=>(K ⟨⟨r3.1.x.ae,r3.1.x.af⟩,⟨r3.1.y.ae,r3.1.y.af⟩⟩ h2)) h1))) h))) h)
def GD(m:aU)(a:aF)(K:zY (aF×Int))(h:Hp):=Ys [.int .i64 0] (λp1=>za (Vz (some p1) m a) (λr2=>za (X7 (some p1) r2 ⟨m.x,m.y⟩) (λr3 h3=>(aB (.int .i64) (p1.add 0) (λx4=>(ak (x4 != 0) (aB (.int .i64) (p1.add 0) (λx5=>(K (⟨⟨zd,zd⟩,⟨zd,zd⟩⟩,x5) h3)) h3) (K (r3,0) h3))) h3)))) h
def QR(m:aU)(l:Sl)(K:zY (Sl×Bool))(h:Hp):=zx (S:=Sl×Int×Unit) (λs1 k2 h1=>(zW (s1.2.1<(l.len:Int)) (zi l s1.2.1 4 λa3=>(zK a3 (λdu dv eJ eK=>(za (GD m ⟨⟨du,dv⟩,⟨eJ,eK⟩⟩) (λr5 h2=>(ak (r5.2 != 0) (K (zd,false) h2) (Qg 4 96 [zN,zN,zN,zN] s1.1 1 [.slice r5.1.x.ae.a r5.1.x.ae.len r5.1.x.ae.cap,.slice r5.1.x.af.a r5.1.x.af.len r5.1.x.af.cap,.slice r5.1.y.ae.a r5.1.y.ae.len r5.1.y.ae.cap,.slice r5.1.y.af.a r5.1.y.af.len r5.1.y.af.cap] (λw6 h3=>(k2 (w6,(i64.wrap (s1.2.1+1)),()) h3)) h2))) h1)) h1)) (K (s1.1,true) h1))) (zd,0,()) h
def zif(p:Tsetsquareref13_Plot)(kind:Int)(K:zY (Sl×Sl×aU×Bool×Bool))(h:Hp):=za (z8f p 7) (λr1 h1=>(ak (!r1.2) (K (zd,zd,⟨⟨zd,zd⟩,⟨zd,zd⟩,⟨zd,zd⟩,⟨zd,zd⟩,false⟩,false,false) h1) (zi r1.1 5 4 λa2=>(zK a2 (λFM FN FO FP=>(zi r1.1 6 4 λa4=>(zK a4 (λfS gw jZ j0=>(za (QF kind ⟨⟨FM,FN⟩,⟨FO,FP⟩⟩ ⟨⟨fS,gw⟩,⟨jZ,j0⟩⟩) (λr6 h2=>(ca r1.1 0 5 4 λc7=>(za (QR r6 c7) (λr8 h3=>(K (c7,r8.1,r6,true,r8.2) h3)) h2))) h1)) h1))) h1)))) h
def z28(a:aF)(b:aF)(K:zY (aF×Int))(h:Hp):=za (Dr a.x b.x) (λr1 h1=>(ak (r1.2 != 0) (K (⟨⟨zd,zd⟩,⟨zd,zd⟩⟩,r1.2) h1) (za (Dr a.y b.y) (λr2 h2=>(ak (r2.2 != 0) (K (⟨⟨zd,zd⟩,⟨zd,zd⟩⟩,r2.2) h2) (K (⟨⟨r1.1.ae,r1.1.af⟩,⟨r2.1.ae,r2.1.af⟩⟩,0) h2))) h1))) h
def Vj(a:aF)(b:aF)(K:zY (aF×Int))(h:Hp):=za (z28 a b) (λr1 h1=>(K (⟨⟨r1.1.x.ae,r1.1.x.af⟩,⟨r1.1.y.ae,r1.1.y.af⟩⟩,r1.2) h1)) h
def Q2(a:aF)(b:aF)(K:zY (aF×Int))(h:Hp):=za (Xb a.x b.x) (λr1 h1=>(ak (r1.2 != 0) (K (⟨⟨zd,zd⟩,⟨zd,zd⟩⟩,r1.2) h1) (za (Xb a.y b.y) (λr2 h2=>(ak (r2.2 != 0) (K (⟨⟨zd,zd⟩,⟨zd,zd⟩⟩,r2.2) h2) (K (⟨⟨r1.1.ae,r1.1.af⟩,⟨r2.1.ae,r2.1.af⟩⟩,0) h2))) h1))) h
def Bg(a:aF)(b:aF)(K:zY (ag×Int))(h:Hp):=za (Q2 a b) (λr1 h1=>(ak (r1.2 != 0) (K (⟨zd,zd⟩,r1.2) h1) (za (Vc ⟨r1.1.x.ae,r1.1.x.af⟩ ⟨r1.1.y.ae,r1.1.y.af⟩) (λr2 h2=>(K (⟨r2.1.ae,r2.1.af⟩,r2.2) h2)) h1))) h
def KZ(a:aF)(K:zY (ag×Int))(h:Hp):=za (Bg a a) (λr1 h1=>(K (⟨r1.1.ae,r1.1.af⟩,r1.2) h1)) h
def zcm(a:ag)(K:zY ag)(h:Hp):=za (Ds a) (λr1=>za (Ds r1) (λr2 h2=>(K r2 h2))) h
def zcc(a:aF)(K:zY aF)(h:Hp):=za (Ds a.y) (λr1=>za (zcm a.x) (λr2 h2=>(K ⟨r1,r2⟩ h2))) h
def za3(a:aF)(b:aF)(K:zY (ag×Int))(h:Hp):=za (zcc a) (λr1=>za (Bg r1 b) (λr2 h2=>(K (⟨r2.1.ae,r2.1.af⟩,r2.2) h2))) h
def Xw(a:ag)(K:zY Int)(h:Hp):=za (Dq a.ae a.af) (λr1 h1=>(K r1 h1)) h
def K5(a:aF)(b:aF)(c:aF)(K:zY (Int×Int))(h:Hp):=za (Vj b a) (λr1 h1=>(ak (r1.2 != 0) (K (0,r1.2) h1) (za (Vj c a) (λr2 h2=>(ak (r2.2 != 0) (K (0,r2.2) h2) (za (za3 ⟨⟨r1.1.x.ae,r1.1.x.af⟩,⟨r1.1.y.ae,r1.1.y.af⟩⟩ ⟨⟨r2.1.x.ae,r2.1.x.af⟩,⟨r2.1.y.ae,r2.1.y.af⟩⟩) (λr3 h3=>(ak (r3.2 != 0) (K (0,r3.2) h3) (za (Xw ⟨r3.1.ae,r3.1.af⟩) (λr4 h4=>(K (r4,0) h4)) h3))) h2))) h1))) h
def z07(s:Sl)(K:zY Sl)(h:Hp):=ak s.a.isNone (K zd h) (Ys [] (λp1 h1=>(iO s.a (s.len*1) (λvT=>(Qg 1 24 [zN] ⟨some p1,0,0⟩ s.len vT (λw3 h2=>(K w3 h2)) h1)) h1)) h)
def zch(more:Int)(a:Sl)(K:zY Sl)(h:Hp):=0<=(more:Int) /\ (eW (i64.wrap ((a.len:Int)*2 ^ (min (more:Int).toNat i64.bits))) (i64.wrap ((a.len:Int)*2 ^ (min (more:Int).toNat i64.bits))) 64 [.bool false,zN,.bool false,zN] (λm1=>zx (S:=Int×Unit) (λs2 k3 h2=>(zW (s2.1<(m1.len:Int)) (zy (S:=Unit) (λs4 h3=>(k3 ((i64.wrap (s2.1+1)),()) h3)) (λk5=>(0<=(more:Int) /\ (((i64.wrap (1*2 ^ (min (more:Int).toNat i64.bits))):Int)≠0 /\ (ak (((s2.1:Int).tmod (i64.wrap (1*2 ^ (min (more:Int).toNat i64.bits))))==0) (0<=(more:Int) /\ (zi a ((s2.1:Int).fdiv (2 ^ (min (more:Int).toNat i64.bits))) 4 λa6=>(zH a6 (λrp mM rq mN=>(zi m1 s2.1 4 λa8=>(bD a8 [.bool rp,.slice mM.a mM.len mM.cap,.bool rq,.slice mN.a mN.len mN.cap] (λh4=>(k5 () h4)) h2))) h2))) (za (zr 0) (λr9 h5=>(zi m1 s2.1 4 λfM=>(bD fM [.bool r9.num.neg,.slice r9.num.ah.a r9.num.ah.len r9.num.ah.cap,.bool r9.den.neg,.slice r9.den.ah.a r9.den.ah.len r9.den.ah.cap] (λh6=>(k5 () h6)) h5))) h2)))))) (K m1 h2))) (0,())) h)
def K6(t:Sl)(a:Sl)(b:Sl)(K:zY Int)(h:Hp):=Ys [.slice a.a a.len a.cap,.slice b.a b.len b.cap] (λp1=>za (Dp t ⟨some p1,2,2⟩) (λr2 h2=>(ak (!r2) (K 0 h2) (za (Be t a b) (λr3=>za (GC t r3) (λr4 h4=>(K r4 h4))) h2)))) h
def K7(a:ag)(b:ag)(K:zY Bool)(h:Hp):=zy (S:=Unit) (λs1=>Ys [.slice a.ae.a a.ae.len a.ae.cap,.slice a.af.a a.af.len a.af.cap,.slice b.ae.a b.ae.len b.ae.cap,.slice b.af.a b.af.len b.af.cap] (λp3=>za (V2 ⟨some p3,2,2⟩) (λr4 h3=>(ak (r4.2==0) (zi r4.1 0 2 λa5=>(aB (.sl) (a5.add 1) (λx6=>(zi r4.1 1 2 λa7=>(aB (.sl) (a7.add 1) (λx8=>(za (Qa x6 x8) (λr9 h4=>(K r9 h4)) h3)) h3))) h3)) (za (z07 a.ae) (λbY=>zx (S:=Sl×Int×Unit) (λeu k12 h6=>(zW (eu.2.1<(b.ae.len:Int)) (zi b.ae eu.2.1 1 λdV=>(aB (.sl) dV (λkW=>(za (zch (a.ae.len:Int) kW) (λcA=>Qg 1 24 [zN] eu.1 1 [.slice cA.a cA.len cA.cap] (λQT h8=>(k12 (QT,(i64.wrap (eu.2.1+1)),()) h8))) h6)) h6)) (za (KJ eu.1 a.af) (λfq=>za (zch (a.ae.len:Int) b.af) (λiM=>za (K6 eu.1 fq iM) (λmf bV=>(K (mf==0) bV)))) h6))) (bY,0,())) h3))))) (λk2=>(za (Ww a.ae b.ae) (λjG cu=>(ak jG (za (Ww b.ae a.ae) (λdS cO=>(ak dS (za (Qa a.af b.af) (λnJ eG=>(K nJ eG)) cO) (k2 () cO))) cu) (k2 () cu))) h))
def K8(a:aF)(b:aF)(K:zY Bool)(h:Hp):=za (K7 a.x b.x) (λr1 h1=>(ak r1 (za (K7 a.y b.y) (λr2 h2=>(K r2 h2)) h1) (K false h1))) h
def Vd(n:aC)(K:zY ag)(h:Hp):=za (QO n) (λr1=>Ys [.bool r1.num.neg,.slice r1.num.ah.a r1.num.ah.len r1.num.ah.cap,.bool r1.den.neg,.slice r1.den.ah.a r1.den.ah.len r1.den.ah.cap] (λp2 h2=>(K ⟨zd,⟨some p2,1,1⟩⟩ h2))) h
def Xv(n:Int)(K:zY ag)(h:Hp):=za (zr n) (λr1=>za (Vd r1) (λr2 h2=>(K r2 h2))) h
def Vs(d:(Option Addr))(v:aF)(e:Int)(K:zY aF)(h:Hp):=zy (S:=Unit) (λs1 h1=>(Yv d λp3=>(aB (.int .i64) (p3.add 0) (λx4=>(ak (x4 != 0) (za (Xv 1) (λr5=>za (Xv 1) (λr6 h3=>(K ⟨r5,r6⟩ h3))) h1) (K v h1))) h1))) (λk2=>(Yv d λp7=>(aB (.int .i64) (p7.add 0) (λx8=>(ak (x8==0) (Yv d λp9=>(bD (p9.add 0) [.int .i64 e] (λh4=>(k2 () h4)) h)) (k2 () h))) h)))
def zjj(a:aF)(K:zY aF)(h:Hp):=za (Ds a.x) (λr1 h1=>(K ⟨a.y,r1⟩ h1)) h
def Zx(d:(Option Addr))(n:ag)(e:Int)(K:zY ag)(h:Hp):=zy (S:=Unit) (λs1 h1=>(Yv d λp3=>(aB (.int .i64) (p3.add 0) (λx4=>(ak (x4 != 0) (za (Xv 1) (λr5 h2=>(K r5 h2)) h1) (K n h1))) h1))) (λk2=>(Yv d λp6=>(aB (.int .i64) (p6.add 0) (λx7=>(ak (x7==0) (Yv d λp8=>(bD (p8.add 0) [.int .i64 e] (λh3=>(k2 () h3)) h)) (k2 () h))) h)))
def Bh(a:ag)(b:ag)(K:zY (ag×Int))(h:Hp):=za (KX b.ae b.af) (λr1 h1=>(ak (r1.2 != 0) (K (⟨zd,zd⟩,r1.2) h1) (za (Xb a ⟨b.ae,r1.1⟩) (λr2 h2=>(K (⟨r2.1.ae,r2.1.af⟩,r2.2) h2)) h1))) h
def z47(d:(Option Addr))(a:aF)(normal:aF)(K:zY (ee×Int))(h:Hp):=za (Bg a normal) (λr1=>za (Zx d ⟨r1.1.ae,r1.1.af⟩ r1.2) (λr2 h2=>(zy (S:=(Sl×Sl×Unit)×Unit) (λs3=>za (Bh normal.x ⟨s3.1.1,s3.1.2.1⟩) (λr5=>za (Zx d ⟨r5.1.ae,r5.1.af⟩ r5.2) (λr6=>za (Bh normal.y ⟨s3.1.1,s3.1.2.1⟩) (λr7=>za (Zx d ⟨r7.1.ae,r7.1.af⟩ r7.2) (λr8=>za (Bh r2 ⟨s3.1.1,s3.1.2.1⟩) (λr9=>za (Zx d ⟨r9.1.ae,r9.1.af⟩ r9.2) (λbY h9=>(Yv d λp11=>(aB (.int .i64) (p11.add 0) (λjY=>(ak (jY != 0) (Yv d λp13=>(aB (.int .i64) (p13.add 0) (λkW=>(K (⟨⟨zd,zd⟩,⟨zd,zd⟩,⟨zd,zd⟩⟩,kW) h9)) h9)) (K (⟨r6,r8,bY⟩,0) h9))) h9))))))))) (λk4=>(za (Xw normal.x) (λcA aZ=>(ak (cA==0) (k4 ((normal.y.ae,normal.y.af,()),()) aZ) (k4 ((normal.x.ae,normal.x.af,()),()) aZ))) h2))))) h
def QU(a:aF)(b:aF)(K:zY (ee×Int))(h:Hp):=za (K8 a b) (λr1 h1=>(ak r1 (K (⟨⟨zd,zd⟩,⟨zd,zd⟩,⟨zd,zd⟩⟩,11) h1) (Ys [.int .i64 0] (λp2=>za (Vj b a) (λr3=>za (Vs (some p2) ⟨⟨r3.1.x.ae,r3.1.x.af⟩,⟨r3.1.y.ae,r3.1.y.af⟩⟩ r3.2) (λr4=>za (zjj r4) (λr5=>za (z47 (some p2) a r5) (λr6 h6=>(K (⟨⟨r6.1.a.ae,r6.1.a.af⟩,⟨r6.1.b.ae,r6.1.b.af⟩,⟨r6.1.c.ae,r6.1.c.af⟩⟩,r6.2) h6)))))) h1))) h
def GF(l:ee)(K:zY aF)(h:Hp):=K ⟨l.a,l.b⟩ h
def z5r(d:(Option Addr))(l:ee)(a:aF)(K:zY ag)(h:Hp):=za (GF l) (λr1=>za (Bg r1 a) (λr2=>za (Zx d ⟨r2.1.ae,r2.1.af⟩ r2.2) (λr3=>za (Dr r3 l.c) (λr4=>za (Zx d ⟨r4.1.ae,r4.1.af⟩ r4.2) (λr5=>za (KZ r1) (λr6=>za (Zx d ⟨r6.1.ae,r6.1.af⟩ r6.2) (λr7=>za (Bh r5 r7) (λr8=>za (Zx d ⟨r8.1.ae,r8.1.af⟩ r8.2) (λr9 h9=>(K r9 h9)))))))))) h
def za4(a:aF)(n:ag)(K:zY (aF×Int))(h:Hp):=za (Q2 a ⟨n,n⟩) (λr1 h1=>(K (⟨⟨r1.1.x.ae,r1.1.x.af⟩,⟨r1.1.y.ae,r1.1.y.af⟩⟩,r1.2) h1)) h
def z6y(d:(Option Addr))(v:aF)(K:zY (aF×Int))(h:Hp):=Yv d λp1=>(aB (.int .i64) (p1.add 0) (λx2=>(ak (x2 != 0) (Yv d λp3=>(aB (.int .i64) (p3.add 0) (λx4=>(K (⟨⟨zd,zd⟩,⟨zd,zd⟩⟩,x4) h)) h)) (K (v,0) h))) h)
def zea(l:ee)(a:aF)(times:Int)(K:zY (aF×Int))(h:Hp):=Ys [.int .i64 0] (λp1=>za (z5r (some p1) l a) (λr2=>za (Xv times) (λr3=>za (Xb r2 r3) (λr4=>za (Zx (some p1) ⟨r4.1.ae,r4.1.af⟩ r4.2) (λr5=>za (GF l) (λr6=>za (za4 r6 r5) (λr7=>za (Vs (some p1) ⟨⟨r7.1.x.ae,r7.1.x.af⟩,⟨r7.1.y.ae,r7.1.y.af⟩⟩ r7.2) (λr8=>za (Vj a r8) (λr9=>za (Vs (some p1) ⟨⟨r9.1.x.ae,r9.1.x.af⟩,⟨r9.1.y.ae,r9.1.y.af⟩⟩ r9.2) (λbY=>za (z6y (some p1) bY) (λcB bV=>(K (⟨⟨cB.1.x.ae,cB.1.x.af⟩,⟨cB.1.y.ae,cB.1.y.af⟩⟩,cB.2) bV)))))))))))) h
def QV(l:ee)(a:aF)(K:zY (aF×Int))(h:Hp):=za (zea l a 1) (λr1 h1=>(K (⟨⟨r1.1.x.ae,r1.1.x.af⟩,⟨r1.1.y.ae,r1.1.y.af⟩⟩,r1.2) h1)) h
def zhg(x:Sl)(before:Int)(K:zY Sl)(h:Hp):=0<=(before:Int) /\ (eW (i64.wrap ((x.len:Int)*2 ^ (min (before:Int).toNat i64.bits))) (i64.wrap ((x.len:Int)*2 ^ (min (before:Int).toNat i64.bits))) 64 [.bool false,zN,.bool false,zN] (λm1=>zx (S:=Int×Unit) (λs2 k3 h2=>(zW (s2.1<(m1.len:Int)) (za (zr 0) (λr4 h3=>(zi m1 s2.1 4 λa5=>(bD a5 [.bool r4.num.neg,.slice r4.num.ah.a r4.num.ah.len r4.num.ah.cap,.bool r4.den.neg,.slice r4.den.ah.a r4.den.ah.len r4.den.ah.cap] (λh4=>(k3 ((i64.wrap (s2.1+1)),()) h4)) h3))) h2) (zx (S:=Int×Unit) (λs6 k7 h5=>(zW (s6.1<(x.len:Int)) (zi x s6.1 4 λa8=>(zH a8 (λvW ru vX rv=>(0<=(before:Int) /\ (zi m1 (i64.wrap (s6.1*2 ^ (min (before:Int).toNat i64.bits))) 4 λfM=>(bD fM [.bool vW,.slice ru.a ru.len ru.cap,.bool vX,.slice rv.a rv.len rv.cap] (λh6=>(k7 ((i64.wrap (s6.1+1)),()) h6)) h5)))) h5)) (K m1 h5))) (0,()) h2))) (0,())) h)
def zsg(l:Sl)(K:zY (Option Addr))(h:Hp):=Ys [zN,zN] (λp1=>zx (S:=Int×Unit) (λs2 k3 h2=>(zW (s2.1<(l.len:Int)) (zi l s2.1 2 λa4=>(zJ a4 (λfS gw=>(aB (.sl) (p1.add 0) (λx6=>(zx (S:=Int×Unit) (λs7 k8 h3=>(zW (s7.1<(fS.len:Int)) (zi fS s7.1 1 λa9=>(aB (.sl) a9 (λmK=>(aB (.sl) (p1.add 0) (λgd=>(za (zhg mK (x6.len:Int)) (λbZ=>Qg 1 24 [zN] gd 1 [.slice bZ.a bZ.len bZ.cap] (λAZ h5=>(bD (p1.add 0) [.slice AZ.a AZ.len AZ.cap] (λh6=>(k8 ((i64.wrap (s7.1+1)),()) h6)) h5))) h3)) h3)) h3)) (aB (.sl) (p1.add 1) (λkW=>(za (zhg gw (x6.len:Int)) (λcA=>Qg 1 24 [zN] kW 1 [.slice cA.a cA.len cA.cap] (λQT h8=>(bD (p1.add 1) [.slice QT.a QT.len QT.cap] (λh9=>(k3 ((i64.wrap (s2.1+1)),()) h9)) h8))) h3)) h3))) (0,()) h2)) h2)) h2)) (aB (.sl) (p1.add 1) (λx17=>(zx (S:=Int×Unit) (λK9 k19 aZ=>(zW (K9.1<(x17.len:Int)) (zi x17 K9.1 1 λa20=>(aB (.sl) a20 (λx21=>(zx (S:=Sl×Unit) (λsF k23 bV=>(aB (.sl) (p1.add 0) (λvU=>(0<=((vU.len:Int):Int) /\ (zW ((sF.1.len:Int)<(i64.wrap (1*2 ^ (min ((vU.len:Int):Int).toNat i64.bits)))) (za (zr 0) (λiq=>Qg 4 64 [.bool false,zN,.bool false,zN] sF.1 1 [.bool iq.num.neg,.slice iq.num.ah.a iq.num.ah.len iq.num.ah.cap,.bool iq.den.neg,.slice iq.den.ah.a iq.den.ah.len iq.den.ah.cap] (λA7 cO=>(k23 (A7,()) cO))) bV) (aB (.sl) (p1.add 1) (λx27=>(zi x27 K9.1 1 λa28=>(bD a28 [.slice sF.1.a sF.1.len sF.1.cap] (λeG=>(k19 ((i64.wrap (K9.1+1)),()) eG)) bV))) bV)))) bV)) (x21,()) aZ)) aZ)) (K (some p1) aZ))) (0,()) h2)) h2))) (0,())) h
def X9(d:(Option Addr))(a:Sl)(b:Sl)(K:zY Sl)(h:Hp):=Yv d λp1=>(aB (.sl) (p1.add 0) (λx2=>(za (W6 x2 a b) (λr3 h1=>(K r3 h1)) h)) h)
def z98(d:(Option Addr))(a:Sl)(b:Sl)(K:zY Sl)(h:Hp):=Yv d λp1=>(aB (.sl) (p1.add 0) (λx2=>(za (Dm x2 a b) (λr3 h1=>(K r3 h1)) h)) h)
def Wa(d:(Option Addr))(a:Sl)(b:Sl)(K:zY Sl)(h:Hp):=Yv d λp1=>(aB (.sl) (p1.add 0) (λx2=>(za (Be x2 a b) (λr3 h1=>(K r3 h1)) h)) h)
def z48(d:(Option Addr))(a:Sl)(K:zY Int)(h:Hp):=Yv d λp1=>(aB (.sl) (p1.add 0) (λx2=>(za (Dq x2 a) (λr3 h1=>(K r3 h1)) h)) h)
def zol(l:ee)(a:aF)(K:zY Bool)(h:Hp):=Ys [.int .i64 0] (λp1=>za (GF l) (λr2=>za (Bg r2 a) (λr3=>za (Zx (some p1) ⟨r3.1.ae,r3.1.af⟩ r3.2) (λr4 h4=>(aB (.int .i64) (p1.add 0) (λx5=>(ak (x5==0) (za (K7 r4 l.c) (λr6 h5=>(K r6 h5)) h4) (Ys [.slice l.a.ae.a l.a.ae.len l.a.ae.cap,.slice l.a.af.a l.a.af.len l.a.af.cap,.slice l.b.ae.a l.b.ae.len l.b.ae.cap,.slice l.b.af.a l.b.af.len l.b.af.cap,.slice l.c.ae.a l.c.ae.len l.c.ae.cap,.slice l.c.af.a l.c.af.len l.c.af.cap,.slice a.x.ae.a a.x.ae.len a.x.ae.cap,.slice a.x.af.a a.x.af.len a.x.af.cap,.slice a.y.ae.a a.y.ae.len a.y.ae.cap,.slice a.y.af.a a.y.af.len a.y.af.cap] (λp7=>za (zsg ⟨some p7,5,5⟩) (λr8 h7=>(Yv r8 λp9=>(aB (.sl) (p9.add 1) (λmK=>(zi mK 0 1 λoC=>(aB (.sl) oC (λjY=>(zi mK 3 1 λdV=>(aB (.sl) dV (λkW=>(zi mK 1 1 λiU=>(aB (.sl) iU (λyV=>(zi mK 4 1 λoD=>(aB (.sl) oD (λnF=>(zi mK 2 1 λmL=>(aB (.sl) mL (λoF=>(za (X9 r8 jY kW) (λdS=>za (X9 r8 yV nF) (λnJ=>za (z98 r8 dS nJ) (λjt=>za (Wa r8 jt oF) (λdL=>za (z48 r8 dL) (λiq cu=>(K (iq==0) cu)))))) h7)) h7))) h7))) h7))) h7))) h7))) h7)))) h4))) h4))))) h
def q8(c:(Option Addr))(e:Int)(K:zY Bool)(h:Hp):=zy (S:=Unit) (λs1 h1=>(Yv c λp3=>(aB (.int .i64) (p3.add 0) (λx4=>(K (x4==0) h1)) h1))) (λk2=>(Yv c λp5=>(aB (.int .i64) (p5.add 0) (λx6=>(ak (x6==0) (Yv c λp7=>(bD (p7.add 0) [.int .i64 e] (λh2=>(k2 () h2)) h)) (k2 () h))) h)))
def X5(c:(Option Addr))(a:ag)(b:ag)(K:zY ag)(h:Hp):=Yv c λp1=>(aB (.int .i64) (p1.add 0) (λx2=>(ak (x2 != 0) (K ⟨zd,zd⟩ h) (za (Dr a b) (λr3=>za (q8 c r3.2) (λr4 h2=>(K ⟨r3.1.ae,r3.1.af⟩ h2))) h))) h)
def Yt(c:(Option Addr))(a:ag)(b:ag)(K:zY ag)(h:Hp):=za (X5 c a b) (λr1 h1=>(K r1 h1)) h
def Q3(c:(Option Addr))(a:aF)(b:aF)(K:zY aF)(h:Hp):=za (Yt c a.x b.x) (λr1=>za (Yt c a.y b.y) (λr2 h2=>(K ⟨r1,r2⟩ h2))) h
def X4(c:(Option Addr))(a:ag)(b:ag)(K:zY ag)(h:Hp):=Yv c λp1=>(aB (.int .i64) (p1.add 0) (λx2=>(ak (x2 != 0) (K ⟨zd,zd⟩ h) (za (Xb a b) (λr3=>za (q8 c r3.2) (λr4 h2=>(K ⟨r3.1.ae,r3.1.af⟩ h2))) h))) h)
def yt(c:(Option Addr))(a:ag)(b:ag)(K:zY ag)(h:Hp):=za (X4 c a b) (λr1 h1=>(K r1 h1)) h
def z0o(c:(Option Addr))(a:aF)(b:aF)(K:zY ag)(h:Hp):=za (yt c a.x b.y) (λr1=>za (yt c a.y b.x) (λr2=>za (Yt c r1 r2) (λr3 h3=>(K r3 h3)))) h
def X1(c:(Option Addr))(a:ag)(b:ag)(K:zY ag)(h:Hp):=Yv c λp1=>(aB (.int .i64) (p1.add 0) (λx2=>(ak (x2 != 0) (K ⟨zd,zd⟩ h) (za (Vc a b) (λr3=>za (q8 c r3.2) (λr4 h2=>(K ⟨r3.1.ae,r3.1.af⟩ h2))) h))) h)
def Qs(c:(Option Addr))(a:ag)(b:ag)(K:zY ag)(h:Hp):=za (X1 c a b) (λr1 h1=>(K r1 h1)) h
def Y1(c:(Option Addr))(a:aF)(K:zY ag)(h:Hp):=za (yt c a.x a.x) (λr1=>za (yt c a.y a.y) (λr2=>za (Qs c r1 r2) (λr3 h3=>(K r3 h3)))) h
def X3(c:(Option Addr))(a:ag)(b:ag)(K:zY ag)(h:Hp):=Yv c λp1=>(aB (.int .i64) (p1.add 0) (λx2=>(ak (x2 != 0) (K ⟨zd,zd⟩ h) (za (Bh a b) (λr3=>za (q8 c r3.2) (λr4 h2=>(K ⟨r3.1.ae,r3.1.af⟩ h2))) h))) h)
def Vy(c:(Option Addr))(a:ag)(b:ag)(K:zY ag)(h:Hp):=za (X3 c a b) (λr1 h1=>(K r1 h1)) h
def z1o(c:(Option Addr))(a:aF)(b:aF)(K:zY aF)(h:Hp):=za (Qs c a.x b.x) (λr1=>za (Qs c a.y b.y) (λr2 h2=>(K ⟨r1,r2⟩ h2))) h
def QW(a:aF)(b:aF)(c:aF)(K:zY (fg×Int))(h:Hp):=Ys [.int .i64 0] (λp1=>za (Q3 (some p1) b a) (λr2=>za (Q3 (some p1) c a) (λr3=>za (z0o (some p1) r2 r3) (λr4 h4=>(aB (.int .i64) (p1.add 0) (λx5=>(ak (x5 != 0) (aB (.int .i64) (p1.add 0) (λx6=>(K (⟨⟨⟨zd,zd⟩,⟨zd,zd⟩⟩,⟨zd,zd⟩⟩,x6) h4)) h4) (za (Xw r4) (λr7 h5=>(ak (r7==0) (K (⟨⟨⟨zd,zd⟩,⟨zd,zd⟩⟩,⟨zd,zd⟩⟩,10) h5) (za (Qs (some p1) r4 r4) (λr8=>za (Y1 (some p1) r2) (λr9=>za (Y1 (some p1) r3) (λbY=>za (yt (some p1) r3.y r9) (λcB=>za (yt (some p1) r2.y bY) (λbZ=>za (Yt (some p1) cB bZ) (λcN=>za (Vy (some p1) cN r8) (λdR=>za (yt (some p1) r2.x bY) (λcA=>za (yt (some p1) r3.x r9) (λej=>za (Yt (some p1) cA ej) (λfq=>za (Vy (some p1) fq r8) (λiM=>za (z1o (some p1) a ⟨dR,iM⟩) (λmf=>za (Y1 (some p1) ⟨dR,iM⟩) (λjG fN=>(aB (.int .i64) (p1.add 0) (λx21=>(ak (x21 != 0) (aB (.int .i64) (p1.add 0) (λyY=>(K (⟨⟨⟨zd,zd⟩,⟨zd,zd⟩⟩,⟨zd,zd⟩⟩,yY) fN)) fN) (K (⟨mf,jG⟩,0) fN))) fN)))))))))))))) h5))) h4))) h4))))) h
def zdz(c:fg)(a:aF)(K:zY (ag×Int))(h:Hp):=Ys [.int .i64 0] (λp1=>za (Q3 (some p1) a c.bW) (λr2=>za (Y1 (some p1) r2) (λr3=>za (Yt (some p1) r3 c.cS) (λr4 h4=>(aB (.int .i64) (p1.add 0) (λx5=>(ak (x5 != 0) (aB (.int .i64) (p1.add 0) (λx6=>(K (⟨zd,zd⟩,x6) h4)) h4) (K (r4,0) h4))) h4))))) h
def QX(c:fg)(a:aF)(K:zY (Int×Int))(h:Hp):=za (zdz c a) (λr1 h1=>(ak (r1.2 != 0) (K (0,r1.2) h1) (za (Xw ⟨r1.1.ae,r1.1.af⟩) (λr2 h2=>(K (r2,0) h2)) h1))) h
def zlr(m:aU)(K:zY Int)(h:Hp):=ak m.aS (K (-1) h) (K 1 h)
def z71(a:aF)(b:aF)(x:aF)(K:zY Bool)(h:Hp):=za (Vj a x) (λr1=>za (Vj b x) (λr2=>za (Bg ⟨⟨r1.1.x.ae,r1.1.x.af⟩,⟨r1.1.y.ae,r1.1.y.af⟩⟩ ⟨⟨r2.1.x.ae,r2.1.x.af⟩,⟨r2.1.y.ae,r2.1.y.af⟩⟩) (λr3=>za (Xw ⟨r3.1.ae,r3.1.af⟩) (λr4 h4=>(K (decide (r4<0)) h4))))) h
def QY(a:aF)(b:aF)(x:aF)(K:zY Bool)(h:Hp):=zy (S:=Unit) (λs1=>za (K5 a b x) (λr3 h2=>(ak (r3.2==0) (ak (r3.1==0) (za (z71 a b x) (λr4 h3=>(K r4 h3)) h2) (K false h2)) (Ys [.slice a.x.ae.a a.x.ae.len a.x.ae.cap,.slice a.x.af.a a.x.af.len a.x.af.cap,.slice a.y.ae.a a.y.ae.len a.y.ae.cap,.slice a.y.af.a a.y.af.len a.y.af.cap,.slice b.x.ae.a b.x.ae.len b.x.ae.cap,.slice b.x.af.a b.x.af.len b.x.af.cap,.slice b.y.ae.a b.y.ae.len b.y.ae.cap,.slice b.y.af.a b.y.af.len b.y.af.cap,.slice x.x.ae.a x.x.ae.len x.x.ae.cap,.slice x.x.af.a x.x.af.len x.x.af.cap,.slice x.y.ae.a x.y.ae.len x.y.ae.cap,.slice x.y.af.a x.y.af.len x.y.af.cap] (λp5=>za (zsg ⟨some p5,6,6⟩) (λr6 h5=>(Yv r6 λp7=>(aB (.sl) (p7.add 1) (λx8=>(zi x8 0 1 λa9=>(aB (.sl) a9 (λmK=>(zi x8 4 1 λoC=>(aB (.sl) oC (λjY=>(zi x8 1 1 λdV=>(aB (.sl) dV (λkW=>(zi x8 5 1 λiU=>(aB (.sl) iU (λyV=>(za (Wa r6 mK jY) (λfq=>za (Wa r6 kW yV) (λiM h7=>(zi x8 2 1 λmL=>(aB (.sl) mL (λoF=>(zi x8 4 1 λoL=>(aB (.sl) oL (λyY=>(zi x8 3 1 λyR=>(aB (.sl) yR (λvU=>(zi x8 5 1 λvV=>(aB (.sl) vV (λyS=>(za (Wa r6 oF yY) (λu5=>za (Wa r6 vU yS) (λDe=>za (X9 r6 fq De) (λr29=>za (X9 r6 iM u5) (λFI=>za (Wa r6 r29 FI) (λnH=>za (z48 r6 nH) (λuY cO=>(ak (uY==0) (za (X9 r6 fq u5) (λAV=>za (X9 r6 iM De) (λuZ=>za (z98 r6 AV uZ) (λuW=>za (z48 r6 uW) (λPI dF=>(K (decide (PI<0)) dF))))) cO) (K false cO)))))))) h7)) h7))) h7))) h7))) h7)))) h5)) h5))) h5))) h5))) h5))) h5)))) h2)))) (λk2=>(za (K8 a x) (λF0 fN=>(ak F0 (K true fN) (za (K8 b x) (λju iV=>(ak ju (K true iV) (k2 () iV))) fN))) h))
def zbs(a:aE)(n:Int)(K:zY (aE×Int))(h:Hp):=zy (S:=(Bool×Sl×Unit)×Unit) (λs1=>za (yd 1) (λr3=>za (Km a) (λr4=>zx (S:=Int×(Bool×Sl×Unit)×(Bool×Sl×Unit)×Unit) (λs5 k6 h4=>(zW (s5.1>0) (zy (S:=(Bool×Sl×Unit)×Unit) (λs7 h5=>((2:Int)≠0 /\ (zW ((i64.wrap ((s5.1:Int).tdiv 2))>0) (za (ym ⟨s5.2.2.1.1,s5.2.2.1.2.1⟩ ⟨s5.2.2.1.1,s5.2.2.1.2.1⟩) (λr9 h6=>(k6 ((i64.wrap ((s5.1:Int).tdiv 2)),(s7.1.1,s7.1.2.1,()),(r9.neg,r9.ah,()),()) h6)) h5) (k6 ((i64.wrap ((s5.1:Int).tdiv 2)),(s7.1.1,s7.1.2.1,()),(s5.2.2.1.1,s5.2.2.1.2.1,()),()) h5)))) (λk8=>((2:Int)≠0 /\ (ak (((s5.1:Int).tmod 2)==1) (za (ym ⟨s5.2.1.1,s5.2.1.2.1⟩ ⟨s5.2.2.1.1,s5.2.2.1.2.1⟩) (λbY h7=>(k8 ((bY.neg,bY.ah,()),()) h7)) h4) (k8 ((s5.2.1.1,s5.2.1.2.1,()),()) h4))))) (K (⟨s5.2.1.1,s5.2.1.2.1⟩,0) h4))) (n,(r3.neg,r3.ah,()),(r4.neg,r4.ah,()),())))) (λk2=>(zW (n<0) (K (⟨false,zd⟩,1) h) (zW (n>4096) (K (⟨false,zd⟩,1) h) (k2 ((false,zd,()),()) h))))
def z85(n:Int)(K:zY aE)(h:Hp):=za (yd 10) (λr1=>za (zbs r1 n) (λr2 h2=>(K ⟨r2.1.neg,r2.1.ah⟩ h2))) h
def z86(n:aE)(K:zY aC)(h:Hp):=za (yd 1) (λr1=>za (Qm n r1) (λr2 h2=>(K ⟨⟨r2.1.num.neg,r2.1.num.ah⟩,⟨r2.1.den.neg,r2.1.den.ah⟩⟩ h2))) h
def GG(n:Int)(K:zY aE)(h:Hp):=(32:Int)≠0 /\ (eW (i64.wrap ((i64.wrap ((n:Int).tdiv 32))+1)) (i64.wrap ((i64.wrap ((n:Int).tdiv 32))+1)) 4 [.int .u32 0] (λm1 h1=>((32:Int)≠0 /\ ((32:Int)≠0 /\ (0<=(((n:Int).tmod 32):Int) /\ (zi m1 (i64.wrap ((n:Int).tdiv 32)) 1 λa2=>(bD a2 [.int .u32 (u32.wrap (1*2 ^ (min (((n:Int).tmod 32):Int).toNat u32.bits)))] (λh2=>(K ⟨false,m1⟩ h2)) h1)))))) h)
def QZ(a:aC)(bt:Int)(K:zY aC)(h:Hp):=za (GG (i64.wrap (2*bt))) (λr1=>za (ym a.num r1) (λr2=>za (qp r2 a.den) (λr3=>za (FJ ⟨r3.1.neg,r3.1.ah⟩) (λr4=>za (GG bt) (λr5=>za (Qm ⟨r4.1.neg,r4.1.ah⟩ r5) (λr6 h6=>(K ⟨⟨r6.1.num.neg,r6.1.num.ah⟩,⟨r6.1.den.neg,r6.1.den.ah⟩⟩ h6))))))) h
def zfd(a:aH)(bt:Int)(K:zY aH)(h:Hp):=zy (S:=(Bool×Sl×Bool×Sl×Unit)×Unit) (λs1=>za (yd 1) (λr3=>za (GG bt) (λr4=>za (Qm r3 r4) (λr5=>za (QZ ⟨⟨s1.1.1,s1.1.2.1⟩,⟨s1.1.2.2.1,s1.1.2.2.2.1⟩⟩ bt) (λr6=>za (QZ a.high bt) (λr7=>za (Y9 r7 ⟨⟨r5.1.num.neg,r5.1.num.ah⟩,⟨r5.1.den.neg,r5.1.den.ah⟩⟩) (λr8 h7=>(K ⟨r6,r8⟩ h7)))))))) (λk2=>(za (Yr a.low) (λr9 h8=>(zW (r9<0) (za (zr 0) (λbY h9=>(k2 ((bY.num.neg,bY.num.ah,bY.den.neg,bY.den.ah,()),()) h9)) h8) (k2 ((a.low.num.neg,a.low.num.ah,a.low.den.neg,a.low.den.ah,()),()) h8))) h))
def Ra(a:aC)(bt:Int)(K:zY aC)(h:Hp):=za (GG bt) (λr1=>za (ym a.num r1) (λr2=>za (qp r2 a.den) (λr3=>za (Qm ⟨r3.1.neg,r3.1.ah⟩ r1) (λr4 h4=>(K ⟨⟨r4.1.num.neg,r4.1.num.ah⟩,⟨r4.1.den.neg,r4.1.den.ah⟩⟩ h4))))) h
def zx6(a:aC)(bt:Int)(K:zY aC)(h:Hp):=za (Wq a) (λr1=>za (Ra r1 bt) (λr2=>za (Wq r2) (λr3 h3=>(K r3 h3)))) h
def zfe(a:aH)(bt:Int)(K:zY aH)(h:Hp):=za (Ra a.low bt) (λr1=>za (zx6 a.high bt) (λr2 h2=>(K ⟨r1,r2⟩ h2))) h
def Qp:Nat->Sl->Sl->Int->(aH->Hp->Prop)->Hp->Prop
 | 0,_,_,_,_,_=>False
 | fuel+1,t,a,bt,K,h=>(ak ((t.len:Int)==0) (zi a 0 4 λa1=>(zH a1 (λeH eI fe ff=>(za (z6v ⟨⟨eH,eI⟩,⟨fe,ff⟩⟩) (λr3 h1=>(K r3 h1)) h)) h)) ((2:Int)≠0 /\ (ca t 0 (i64.wrap ((t.len:Int)-1)) 1 λc4=>(ca a 0 (i64.wrap (((a.len:Int):Int).tdiv 2)) 4 λc5=>(za ((Qp fuel) c4 c5 bt) (λr6 h2=>(ca a (i64.wrap (((a.len:Int):Int).tdiv 2)) (a.len:Int) 4 λc7=>(za (Vi c7) (λr8 h3=>(ak r8 (K r6 h3) (ca a (i64.wrap (((a.len:Int):Int).tdiv 2)) (a.len:Int) 4 λc9=>(zi t (i64.wrap ((t.len:Int)-1)) 1 λfM=>(aB (.sl) fM (λgd=>(za ((Qp fuel) c4 c9 bt) (λbZ=>za ((Qp fuel) c4 gd bt) (λcN=>za (zfd cN bt) (λdR=>za (z9o bZ dR) (λcA=>za (z9n r6 cA) (λej=>za (zfe ej bt) (λfq h9=>(K fq h9))))))) h3)) h3))))) h2))) h)))))
def zfc(t:Sl)(a:Sl)(bt:Int)(K:zY aH)(h:Hp):=∃fuel,Qp fuel t a bt K h
def z9y(t:Sl)(a:Sl)(bt:Int)(K:zY aH)(h:Hp):=zy (S:=(Bool×Sl×Bool×Sl×Bool×Sl×Bool×Sl×Unit)×Unit) (λs1=>za (yd 1) (λr3=>za (GG bt) (λr4=>za (Qm r3 r4) (λr5=>zx (S:=(Bool×Sl×Bool×Sl×Bool×Sl×Bool×Sl×Unit)×Int×Unit) (λs6 k7 h5=>(za (zfc t a s6.2.1) (λr8=>za (z6w r8) (λr9=>za (C6 r9 ⟨⟨r5.1.num.neg,r5.1.num.ah⟩,⟨r5.1.den.neg,r5.1.den.ah⟩⟩) (λbY h8=>(zW (bY<=0) (K r8 h8) (k7 ((s6.1.1,s6.1.2.1,s6.1.2.2.1,s6.1.2.2.2.1,s6.1.2.2.2.2.1,s6.1.2.2.2.2.2.1,s6.1.2.2.2.2.2.2.1,s6.1.2.2.2.2.2.2.2.1,()),(i64.wrap (s6.2.1*2)),()) h8))))) h5)) ((s1.1.1,s1.1.2.1,s1.1.2.2.1,s1.1.2.2.2.1,s1.1.2.2.2.2.1,s1.1.2.2.2.2.2.1,s1.1.2.2.2.2.2.2.1,s1.1.2.2.2.2.2.2.2.1,()),(i64.wrap (bt+16)),()))))) (λk2=>(zW (bt<0) (K ⟨⟨⟨false,zd⟩,⟨false,zd⟩⟩,⟨⟨false,zd⟩,⟨false,zd⟩⟩⟩ h) (zW (bt>1024) (K ⟨⟨⟨false,zd⟩,⟨false,zd⟩⟩,⟨⟨false,zd⟩,⟨false,zd⟩⟩⟩ h) (Ys [.slice a.a a.len a.cap] (λp11=>za (Dp t ⟨some p11,1,1⟩) (λbZ aZ=>(ak (!bZ) (K ⟨⟨⟨false,zd⟩,⟨false,zd⟩⟩,⟨⟨false,zd⟩,⟨false,zd⟩⟩⟩ aZ) (k2 ((false,zd,false,zd,false,zd,false,zd,()),()) aZ)))) h))))
def zb2(a:aC)(K:zY aE)(h:Hp):=za (qp a.num a.den) (λr1 h1=>(K ⟨r1.1.neg,r1.1.ah⟩ h1)) h
def zni(a:aE)(b:aE)(K:zY aE)(h:Hp):=za (Kg a ⟨(!b.neg),b.ah⟩) (λr1 h1=>(K r1 h1)) h
def zfb(t:Sl)(a:Sl)(K:zY aE)(h:Hp):=Ys [.slice a.a a.len a.cap] (λp1=>za (Dp t ⟨some p1,1,1⟩) (λr2 h2=>(ak (!r2) (K ⟨false,zd⟩ h2) (za (z9y t a 1) (λr3=>za (zb2 r3.high) (λr4=>za (yd 1) (λr5=>za (Qm r4 r5) (λr6 h6=>(zy (S:=(Bool×Sl×Unit)×Unit) (λs7 h7=>(K ⟨s7.1.1,s7.1.2.1⟩ h7)) (λk8=>(za (Y5 t ⟨⟨r6.1.num.neg,r6.1.num.ah⟩,⟨r6.1.den.neg,r6.1.den.ah⟩⟩) (λr9=>za (Be t a r9) (λbY=>za (GC t bY) (λcB aZ=>(zW (cB<0) (za (yd 1) (λbZ=>za (zni r4 bZ) (λcN cu=>(k8 ((cN.neg,cN.ah,()),()) cu))) aZ) (k8 ((r4.neg,r4.ah,()),()) aZ))))) h6))))))) h2)))) h
def z84(a:ag)(digits:Int)(more:aC)(K:zY (aE×Int))(h:Hp):=zy (S:=(Bool×Sl×Unit)×Unit) (λs1=>za (z85 digits) (λr3=>za (z86 r3) (λr4=>za (Vd r4) (λr5=>za (Xb a r5) (λr6 h5=>(ak (r6.2 != 0) (K (⟨false,zd⟩,r6.2) h5) (za (Vd more) (λr7=>za (Vc ⟨r6.1.ae,r6.1.af⟩ r7) (λr8 h7=>(ak (r8.2 != 0) (K (⟨false,zd⟩,r8.2) h7) (za (zfb r8.1.ae r8.1.af) (λr9 h8=>(K (r9,0) h8)) h7)))) h5))))))) (λk2=>(zW (digits<0) (K (⟨false,zd⟩,1) h) (zW (digits>60) (K (⟨false,zd⟩,1) h) (k2 ((false,zd,()),()) h))))
def z83(a:ag)(digits:Int)(K:zY (aE×Int))(h:Hp):=za (FT 1 2) (λr1=>za (z84 a digits r1) (λr2 h2=>(K (⟨r2.1.neg,r2.1.ah⟩,r2.2) h2))) h
def z6u(i:Int)(K:zY ByteArray)(h:Hp):=zW (i<10) (Yl ⟨#[48,49,50,51,52,53,54,55,56,57,97,98,99,100,101,102,103,104,105,106,107,108,109,110,111,112,113,114,115,116,117,118,119,120,121,122]⟩ i (i64.wrap (i+1)) λc1=>(K c1 h)) (Yl qS (i64.wrap (i*2)) (i64.wrap ((i64.wrap (i*2))+2)) λc2=>(K c2 h))
def z5k(x:Int)(K:zY Int)(h:Hp):=zy (S:=Int×Int×Unit) (λs1 h1=>(zy (S:=Int×Int×Unit) (λs3 h2=>(zy (S:=Int×Int×Unit) (λs5 h3=>(Vq zL1 (u8.wrap (s5.1)) λc7=>(K (i64.wrap (s5.2.1+(i64.wrap (c7)))) h3))) (λk6=>(zW (s3.1>=256) (0<=(8:Int) /\ (k6 ((s3.1:Int).fdiv (2 ^ (min (8:Int).toNat u64.bits)),(i64.wrap (s3.2.1+8)),()) h2)) (k6 (s3.1,s3.2.1,()) h2))))) (λk4=>(zW (s1.1>=65536) (0<=(16:Int) /\ (k4 ((s1.1:Int).fdiv (2 ^ (min (16:Int).toNat u64.bits)),(i64.wrap (s1.2.1+16)),()) h1)) (k4 (s1.1,s1.2.1,()) h1))))) (λk2=>(zW (x>=4294967296) (0<=(32:Int) /\ (k2 ((x:Int).fdiv (2 ^ (min (32:Int).toNat u64.bits)),32,()) h)) (k2 (x,0,()) h)))
def Va(x:Int)(K:zY Int)(h:Hp):=0<=(18:Int) /\ (K (((i64.wrap (x*78913)):Int).fdiv (2 ^ (min (18:Int).toNat i64.bits))) h)
def W9(b:Bool)(K:zY Int)(h:Hp):=ak b (K 1 h) (K 0 h)
def Qr(d:Int)(K:zY Int)(h:Hp):=za (z5k d) (λr1=>za (Va r1) (λr2 h2=>(CI r2 20 (aB (.int .u64) ((⟨0,0,none⟩:Addr).add ((r2:Int).toNat*1)) (λx3=>(za (W9 (decide (d>=x3))) (λr4 h3=>(K (i64.wrap (r2+r4)) h3)) h2)) h2)))) h
def qf(a:Sl)(u:Int)(K:zY Unit)(h:Hp):=zx (S:=Int×Int×Unit) (λs1 k2 h1=>(zW (s1.2.1>=8) ((100000000:Int)≠0 /\ ((100000000:Int)≠0 /\ ((10000:Int)≠0 /\ ((10000:Int)≠0 /\ ((100:Int)≠0 /\ ((100:Int)≠0 /\ ((100:Int)≠0 /\ ((100:Int)≠0 /\ (Vq qS (u32.wrap ((u32.wrap ((((((u32.wrap ((s1.1:Int).tmod 100000000)):Int).tmod 10000):Int).tmod 100)*2))+1)) λc3=>(Vq qS (u32.wrap ((((((u32.wrap ((s1.1:Int).tmod 100000000)):Int).tmod 10000):Int).tmod 100)*2)) λc4=>(zi a (i64.wrap (s1.2.1-1)) 1 λa5=>(bD a5 [.int .u8 c3] (λh2=>(zi a (i64.wrap (s1.2.1-2)) 1 λa6=>(bD a6 [.int .u8 c4] (λh3=>(Vq qS (u32.wrap ((u32.wrap ((u32.wrap (((((u32.wrap ((s1.1:Int).tmod 100000000)):Int).tmod 10000):Int).tdiv 100))*2))+1)) λc7=>(Vq qS (u32.wrap ((u32.wrap (((((u32.wrap ((s1.1:Int).tmod 100000000)):Int).tmod 10000):Int).tdiv 100))*2)) λc8=>(zi a (i64.wrap (s1.2.1-3)) 1 λa9=>(bD a9 [.int .u8 c7] (λh4=>(zi a (i64.wrap (s1.2.1-4)) 1 λfM=>(bD fM [.int .u8 c8] (λh5=>(Vq qS (u32.wrap ((u32.wrap ((((u32.wrap (((u32.wrap ((s1.1:Int).tmod 100000000)):Int).tdiv 10000)):Int).tmod 100)*2))+1)) λmg=>(Vq qS (u32.wrap ((((u32.wrap (((u32.wrap ((s1.1:Int).tmod 100000000)):Int).tdiv 10000)):Int).tmod 100)*2)) λc12=>(zi a (i64.wrap (s1.2.1-5)) 1 λdV=>(bD dV [.int .u8 mg] (λh6=>(zi a (i64.wrap (s1.2.1-6)) 1 λAT=>(bD AT [.int .u8 c12] (λh7=>(Vq qS (u32.wrap ((u32.wrap ((u32.wrap (((u32.wrap (((u32.wrap ((s1.1:Int).tmod 100000000)):Int).tdiv 10000)):Int).tdiv 100))*2))+1)) λO9=>(Vq qS (u32.wrap ((u32.wrap (((u32.wrap (((u32.wrap ((s1.1:Int).tmod 100000000)):Int).tdiv 10000)):Int).tdiv 100))*2)) λc16=>(zi a (i64.wrap (s1.2.1-7)) 1 λoD=>(bD oD [.int .u8 O9] (λh8=>(zi a (i64.wrap (s1.2.1-8)) 1 λyW=>(bD yW [.int .u8 c16] (λh9=>(k2 ((u64.wrap ((s1.1:Int).tdiv 100000000)),(i64.wrap (s1.2.1-8)),()) h9)) h8))) h7))))) h6))) h5))))) h4))) h3))))) h2))) h1)))))))))))) (zy (S:=Int×Int×Unit) (λBi aZ=>(zy (S:=Int×Int×Unit) (λnG bV=>(zW (nG.1>0) (zi a 0 1 λyR=>(bD yR [.int .u8 (u8.wrap ((u32.wrap (48+nG.2.1))))] (λcu=>(K () cu)) bV)) (K () bV))) (λKd=>(zW (Bi.1>=2) ((100:Int)≠0 /\ ((100:Int)≠0 /\ (Vq qS (u32.wrap ((u32.wrap (((Bi.2.1:Int).tmod 100)*2))+1)) λrz=>(Vq qS (u32.wrap (((Bi.2.1:Int).tmod 100)*2)) λPA=>(zi a (i64.wrap (Bi.1-1)) 1 λOB=>(bD OB [.int .u8 rz] (λcO=>(zi a (i64.wrap (Bi.1-2)) 1 λOC=>(bD OC [.int .u8 PA] (λeG=>(Kd ((i64.wrap (Bi.1-2)),(u32.wrap ((Bi.2.1:Int).tdiv 100)),()) eG)) cO))) aZ)))))) (Kd (Bi.1,Bi.2.1,()) aZ))))) (λk20=>(zW (s1.2.1>=4) ((10000:Int)≠0 /\ ((10000:Int)≠0 /\ ((100:Int)≠0 /\ ((100:Int)≠0 /\ (Vq qS (u32.wrap ((u32.wrap ((((((u32.wrap (s1.1)):Int).tmod 10000):Int).tmod 100)*2))+1)) λc28=>(Vq qS (u32.wrap ((((((u32.wrap (s1.1)):Int).tmod 10000):Int).tmod 100)*2)) λPB=>(zi a (i64.wrap (s1.2.1-1)) 1 λa30=>(bD a30 [.int .u8 c28] (λgh=>(zi a (i64.wrap (s1.2.1-2)) 1 λa31=>(bD a31 [.int .u8 PB] (λgi=>(Vq qS (u32.wrap ((u32.wrap ((u32.wrap (((((u32.wrap (s1.1)):Int).tmod 10000):Int).tdiv 100))*2))+1)) λc32=>(Vq qS (u32.wrap ((u32.wrap (((((u32.wrap (s1.1)):Int).tmod 10000):Int).tdiv 100))*2)) λc33=>(zi a (i64.wrap (s1.2.1-3)) 1 λa34=>(bD a34 [.int .u8 c32] (λdF=>(zi a (i64.wrap (s1.2.1-4)) 1 λyZ=>(bD yZ [.int .u8 c33] (λfN=>(k20 ((i64.wrap (s1.2.1-4)),(u32.wrap (((u32.wrap (s1.1)):Int).tdiv 10000)),()) fN)) dF))) gi))))) gh))) h1)))))))) (k20 (s1.2.1,(u32.wrap (s1.1)),()) h1)))))) (u,(a.len:Int),()) h
def Wk(i:Int)(base:Int)(K:zY ByteArray)(h:Hp):=ak (base==10) (zW (i<100) (za (z6u (i64.wrap (i))) (λr1 h1=>(K r1 h1)) h) (Ys [.int .u8 0,.int .u8 0,.int .u8 0,.int .u8 0,.int .u8 0,.int .u8 0,.int .u8 0,.int .u8 0,.int .u8 0,.int .u8 0,.int .u8 0,.int .u8 0,.int .u8 0,.int .u8 0,.int .u8 0,.int .u8 0,.int .u8 0,.int .u8 0,.int .u8 0,.int .u8 0,.int .u8 0,.int .u8 0,.int .u8 0,.int .u8 0] (λp2=>za (Qr i) (λr3 h3=>(ca ⟨some p2,24,24⟩ 0 r3 1 λc4=>(kE (qf c4 i) (λr5 h4=>(ca ⟨some p2,24,24⟩ 0 r3 1 λc6=>(Zmy c6 (λt7=>(K t7 h4)) h4))) h3)))) h)) False
def Vh(i:Int)(base:Int)(K:zY ByteArray)(h:Hp):=za (Wk i base) (λr1 h1=>(K r1 h1)) h
def Y7(s:ByteArray)(dD:ByteArray)(K:zY Bool)(h:Hp):=zW ((s.size:Int)>=(dD.size:Int)) (Yl s 0 (dD.size:Int) λc1=>(K (c1.toList==dD.toList) h)) (K false h)
def zq(s:ByteArray)(dD:ByteArray)(K:zY Bool)(h:Hp):=za (Y7 s dD) (λr1 h1=>(K r1 h1)) h
def z7b(s:ByteArray)(count:Int)(K:zY ByteArray)(h:Hp):=ak (count==0) (K Oj h) (ak (count==1) (K s h) (zy (S:=Unit) (λs1=>za (OM (u64.wrap ((s.size:Int))) (u64.wrap (count))) (λr3 h2=>(zy (S:=Unit) (λs4 h3=>(ak ((s.size:Int)==0) (K Oj h3) (zy (S:=Unit) (λs6 h4=>(zy (S:=Int×Unit) (λs8=>I5 191 [.pointer none,zN] (λp10 h6=>False)) (λk9=>(zW ((i64.wrap (r3.2))>8192) (((s.size:Int):Int)≠0 /\ (ak ((i64.wrap ((i64.wrap ((8192:Int).tdiv (s.size:Int)))*(s.size:Int)))==0) (k9 ((s.size:Int),()) h4) (k9 ((i64.wrap ((i64.wrap ((8192:Int).tdiv (s.size:Int)))*(s.size:Int))),()) h4))) (k9 ((i64.wrap (r3.2)),()) h4))))) (λk7=>(Vq s 0 λmg=>(zy (S:=Bool×Unit) (λpX h7=>(ak pX.1 (zW ((i64.wrap (r3.2))<=128) (za (zq ⟨⟨.replicate 128 32⟩⟩ s) (λdR h8=>(ak dR (Yl ⟨⟨.replicate 128 32⟩⟩ 0 (i64.wrap (r3.2)) λO9=>(K O9 h8)) (zW ((i64.wrap (r3.2))<=128) (za (zq ⟨⟨.replicate 128 45⟩⟩ s) (λej h9=>(ak ej (Yl ⟨⟨.replicate 128 45⟩⟩ 0 (i64.wrap (r3.2)) λFH=>(K FH h9)) (zW ((i64.wrap (r3.2))<=64) (za (zq ⟨⟨.replicate 64 48⟩⟩ s) (λiM aZ=>(ak iM (Yl ⟨⟨.replicate 64 48⟩⟩ 0 (i64.wrap (r3.2)) λO'=>(K O' aZ)) (zW ((i64.wrap (r3.2))<=128) (za (zq ⟨⟨.replicate 128 61⟩⟩ s) (λjG bV=>(ak jG (Yl ⟨⟨.replicate 128 61⟩⟩ 0 (i64.wrap (r3.2)) λc21=>(K c21 bV)) (zW ((i64.wrap (r3.2))<=64) (za (zq ⟨⟨.replicate 64 9⟩⟩ s) (λnJ cu=>(ak nJ (Yl ⟨⟨.replicate 64 9⟩⟩ 0 (i64.wrap (r3.2)) λFW=>(K FW cu)) (k7 () cu))) bV) (k7 () bV)))) aZ) (zW ((i64.wrap (r3.2))<=64) (za (zq ⟨⟨.replicate 64 9⟩⟩ s) (λdL cO=>(ak dL (Yl ⟨⟨.replicate 64 9⟩⟩ 0 (i64.wrap (r3.2)) λPA=>(K PA cO)) (k7 () cO))) aZ) (k7 () aZ))))) h9) (zW ((i64.wrap (r3.2))<=128) (za (zq ⟨⟨.replicate 128 61⟩⟩ s) (λoK eG=>(ak oK (Yl ⟨⟨.replicate 128 61⟩⟩ 0 (i64.wrap (r3.2)) λc27=>(K c27 eG)) (zW ((i64.wrap (r3.2))<=64) (za (zq ⟨⟨.replicate 64 9⟩⟩ s) (λDe gh=>(ak De (Yl ⟨⟨.replicate 64 9⟩⟩ 0 (i64.wrap (r3.2)) λPB=>(K PB gh)) (k7 () gh))) eG) (k7 () eG)))) h9) (zW ((i64.wrap (r3.2))<=64) (za (zq ⟨⟨.replicate 64 9⟩⟩ s) (λFI gi=>(ak FI (Yl ⟨⟨.replicate 64 9⟩⟩ 0 (i64.wrap (r3.2)) λc31=>(K c31 gi)) (k7 () gi))) h9) (k7 () h9)))))) h8) (zW ((i64.wrap (r3.2))<=64) (za (zq ⟨⟨.replicate 64 48⟩⟩ s) (λuY dF=>(ak uY (Yl ⟨⟨.replicate 64 48⟩⟩ 0 (i64.wrap (r3.2)) λc33=>(K c33 dF)) (zW ((i64.wrap (r3.2))<=128) (za (zq ⟨⟨.replicate 128 61⟩⟩ s) (λuZ fN=>(ak uZ (Yl ⟨⟨.replicate 128 61⟩⟩ 0 (i64.wrap (r3.2)) λc35=>(K c35 fN)) (zW ((i64.wrap (r3.2))<=64) (za (zq ⟨⟨.replicate 64 9⟩⟩ s) (λPI iV=>(ak PI (Yl ⟨⟨.replicate 64 9⟩⟩ 0 (i64.wrap (r3.2)) λc37=>(K c37 iV)) (k7 () iV))) fN) (k7 () fN)))) dF) (zW ((i64.wrap (r3.2))<=64) (za (zq ⟨⟨.replicate 64 9⟩⟩ s) (λju gX=>(ak ju (Yl ⟨⟨.replicate 64 9⟩⟩ 0 (i64.wrap (r3.2)) λc39=>(K c39 gX)) (k7 () gX))) dF) (k7 () dF))))) h8) (zW ((i64.wrap (r3.2))<=128) (za (zq ⟨⟨.replicate 128 61⟩⟩ s) (λtS me=>(ak tS (Yl ⟨⟨.replicate 128 61⟩⟩ 0 (i64.wrap (r3.2)) λc41=>(K c41 me)) (zW ((i64.wrap (r3.2))<=64) (za (zq ⟨⟨.replicate 64 9⟩⟩ s) (λr42 u6=>(ak r42 (Yl ⟨⟨.replicate 64 9⟩⟩ 0 (i64.wrap (r3.2)) λc43=>(K c43 u6)) (k7 () u6))) me) (k7 () me)))) h8) (zW ((i64.wrap (r3.2))<=64) (za (zq ⟨⟨.replicate 64 9⟩⟩ s) (λFC A9=>(ak FC (Yl ⟨⟨.replicate 64 9⟩⟩ 0 (i64.wrap (r3.2)) λc45=>(K c45 A9)) (k7 () A9))) h8) (k7 () h8))))))) h7) (zW ((i64.wrap (r3.2))<=128) (za (zq ⟨⟨.replicate 128 45⟩⟩ s) (λr46 js=>(ak r46 (Yl ⟨⟨.replicate 128 45⟩⟩ 0 (i64.wrap (r3.2)) λc47=>(K c47 js)) (zW ((i64.wrap (r3.2))<=64) (za (zq ⟨⟨.replicate 64 48⟩⟩ s) (λr48 u7=>(ak r48 (Yl ⟨⟨.replicate 64 48⟩⟩ 0 (i64.wrap (r3.2)) λc49=>(K c49 u7)) (zW ((i64.wrap (r3.2))<=128) (za (zq ⟨⟨.replicate 128 61⟩⟩ s) (λrA Bj=>(ak rA (Yl ⟨⟨.replicate 128 61⟩⟩ 0 (i64.wrap (r3.2)) λc51=>(K c51 Bj)) (zW ((i64.wrap (r3.2))<=64) (za (zq ⟨⟨.replicate 64 9⟩⟩ s) (λr52 Ba=>(ak r52 (Yl ⟨⟨.replicate 64 9⟩⟩ 0 (i64.wrap (r3.2)) λc53=>(K c53 Ba)) (k7 () Ba))) Bj) (k7 () Bj)))) u7) (zW ((i64.wrap (r3.2))<=64) (za (zq ⟨⟨.replicate 64 9⟩⟩ s) (λwa pY=>(ak wa (Yl ⟨⟨.replicate 64 9⟩⟩ 0 (i64.wrap (r3.2)) λc55=>(K c55 pY)) (k7 () pY))) u7) (k7 () u7))))) js) (zW ((i64.wrap (r3.2))<=128) (za (zq ⟨⟨.replicate 128 61⟩⟩ s) (λr56 Rb=>(ak r56 (Yl ⟨⟨.replicate 128 61⟩⟩ 0 (i64.wrap (r3.2)) λc57=>(K c57 Rb)) (zW ((i64.wrap (r3.2))<=64) (za (zq ⟨⟨.replicate 64 9⟩⟩ s) (λr58 Bf=>(ak r58 (Yl ⟨⟨.replicate 64 9⟩⟩ 0 (i64.wrap (r3.2)) λc59=>(K c59 Bf)) (k7 () Bf))) Rb) (k7 () Rb)))) js) (zW ((i64.wrap (r3.2))<=64) (za (zq ⟨⟨.replicate 64 9⟩⟩ s) (λr60 zC=>(ak r60 (Yl ⟨⟨.replicate 64 9⟩⟩ 0 (i64.wrap (r3.2)) λc61=>(K c61 zC)) (k7 () zC))) js) (k7 () js)))))) h7) (zW ((i64.wrap (r3.2))<=64) (za (zq ⟨⟨.replicate 64 48⟩⟩ s) (λr62 Dt=>(ak r62 (Yl ⟨⟨.replicate 64 48⟩⟩ 0 (i64.wrap (r3.2)) λc63=>(K c63 Dt)) (zW ((i64.wrap (r3.2))<=128) (za (zq ⟨⟨.replicate 128 61⟩⟩ s) (λr64 GH=>(ak r64 (Yl ⟨⟨.replicate 128 61⟩⟩ 0 (i64.wrap (r3.2)) λc65=>(K c65 GH)) (zW ((i64.wrap (r3.2))<=64) (za (zq ⟨⟨.replicate 64 9⟩⟩ s) (λrB LA=>(ak rB (Yl ⟨⟨.replicate 64 9⟩⟩ 0 (i64.wrap (r3.2)) λc67=>(K c67 LA)) (k7 () LA))) GH) (k7 () GH)))) Dt) (zW ((i64.wrap (r3.2))<=64) (za (zq ⟨⟨.replicate 64 9⟩⟩ s) (λr68 h35=>(ak r68 (Yl ⟨⟨.replicate 64 9⟩⟩ 0 (i64.wrap (r3.2)) λc69=>(K c69 h35)) (k7 () h35))) Dt) (k7 () Dt))))) h7) (zW ((i64.wrap (r3.2))<=128) (za (zq ⟨⟨.replicate 128 61⟩⟩ s) (λr70 h36=>(ak r70 (Yl ⟨⟨.replicate 128 61⟩⟩ 0 (i64.wrap (r3.2)) λc71=>(K c71 h36)) (zW ((i64.wrap (r3.2))<=64) (za (zq ⟨⟨.replicate 64 9⟩⟩ s) (λr72 h37=>(ak r72 (Yl ⟨⟨.replicate 64 9⟩⟩ 0 (i64.wrap (r3.2)) λc73=>(K c73 h37)) (k7 () h37))) h36) (k7 () h36)))) h7) (zW ((i64.wrap (r3.2))<=64) (za (zq ⟨⟨.replicate 64 9⟩⟩ s) (λr74 h38=>(ak r74 (Yl ⟨⟨.replicate 64 9⟩⟩ 0 (i64.wrap (r3.2)) λc75=>(K c75 h38)) (k7 () h38))) h7) (k7 () h7)))))) (k7 () h7))) (λk13=>(ak (mg==32) (k13 ((mg==32),()) h3) (ak (mg==45) (k13 ((mg==45),()) h3) (ak (mg==48) (k13 ((mg==48),()) h3) (ak (mg==61) (k13 ((mg==61),()) h3) (k13 ((mg==9),()) h3)))))))))))) (λk5=>(zW (r3.1>0) False (zW (r3.2>9223372036854775807) False (k5 () h2))))))) (λk2=>(zW (count<0) False (k2 () h)))))
def z6t(a:aE)(K:zY ByteArray)(h:Hp):=za (Zb a.ah) (λr1=>za (Zd r1) (λr2 h2=>(ak ((r2.len:Int)==0) (K ⟨#[48]⟩ h2) (zx (S:=Sl×(Sl×Unit)×Unit) (λs3 k4 h3=>(zW ((s3.1.len:Int)>0) (zx (S:=Int×Int×Unit) (λs5 k6 h4=>(zW (s5.2.1>=0) (0<=(32:Int) /\ (zi s3.1 s5.2.1 1 λa7=>(aB (.int .u32) a7 (λx8=>((1000000000:Int)≠0 /\ (zi s3.1 s5.2.1 1 λa9=>(bD a9 [.int .u32 (u32.wrap ((u64.wrap (((Yw .or .u64 (u64.wrap (s5.1*2 ^ (min (32:Int).toNat u64.bits))) (u64.wrap (x8))):Int).tdiv 1000000000))))] (λh5=>((1000000000:Int)≠0 /\ (k6 (((Yw .or .u64 (u64.wrap (s5.1*2 ^ (min (32:Int).toNat u64.bits))) (u64.wrap (x8))):Int).tmod 1000000000,(i64.wrap (s5.2.1-1)),()) h5))) h4)))) h4))) (za (Zb s3.1) (λbY=>Qg 1 4 [.int .u32 0] s3.2.1.1 1 [.int .u32 (u32.wrap (s5.1))] (λDu h7=>(k4 (bY,(Du,()),()) h7))) h4))) (0,(i64.wrap ((s3.1.len:Int)-1)),()) h3) (I5 191 [.pointer none,zN] (λp12 h8=>(zy (S:=Unit) (λim=>za (yn s3.2.1.1) (λcA aZ=>(Nu (S:=Unit) (.leaf (.int .u32)) cA (λi16 v17 K9 k19 bV=>(za (Vh (u64.wrap (v17)) 10) (λdS cO=>(zy (S:=Unit) (λsF=>kE (yg (some p12) dS) (λdL gh=>(k19 () gh))) (λk23=>(zW (i16<(i64.wrap ((s3.2.1.1.len:Int)-1))) (za (z7b ⟨#[48]⟩ (i64.wrap (9-(dS.size:Int)))) (λiq=>kE (yg (some p12) iq) (λoK dF=>(k23 () dF))) cO) (k23 () cO))))) bV)) () (λs20=>kE (Wu (some p12)) (λu5 fN=>(K u5 fN))) aZ))) (λk14=>(ak a.neg (kE (z4u (some p12) 45) (λDe iV=>(k14 () iV)) h8) (k14 () h8))))) h3))) (r2,(zd,()),()) h2)))) h
def Q9(s:ByteArray)(dD:ByteArray)(K:zY (ByteArray×Bool))(h:Hp):=za (Y7 s dD) (λr1 h1=>(ak (!r1) (K (s,false) h1) (Yl s (dD.size:Int) (s.size:Int) λc2=>(K (c2,true) h1)))) h
def z37(s:ByteArray)(dD:ByteArray)(K:zY (ByteArray×Bool))(h:Hp):=za (Q9 s dD) (λr1 h1=>(K (r1.1,r1.2) h1)) h
def z6q(a:ag)(digits:Int)(K:zY (ByteArray×Int))(h:Hp):=za (z83 a digits) (λr1 h1=>(ak (r1.2 != 0) (K (Oj,r1.2) h1) (za (z6t ⟨r1.1.neg,r1.1.ah⟩) (λr2=>za (z37 r2 ⟨#[45]⟩) (λr3 h3=>(zy (S:=ByteArray×Unit) (λs4 h4=>(zy (S:=ByteArray×Unit) (λs6 h5=>(zy (S:=ByteArray×Unit) (λs8 h6=>(zW ((s8.1.size:Int)>400) (K (Oj,3) h6) (K (s8.1,0) h6))) (λk9=>(ak r3.2 ((((⟨#[45]⟩:ByteArray).size+s6.1.size:Nat):Int)<=9223372036854775807 /\ (k9 (((⟨#[45]⟩:ByteArray)++s6.1),()) h5)) (k9 (s6.1,()) h5))))) (λk7=>(zW (digits>0) (Yl s4.1 0 (i64.wrap ((s4.1.size:Int)-digits)) λnI=>(((nI.size+(⟨#[46]⟩:ByteArray).size:Nat):Int)<=9223372036854775807 /\ (Yl s4.1 (i64.wrap ((s4.1.size:Int)-digits)) (s4.1.size:Int) λmg=>(((((nI++(⟨#[46]⟩:ByteArray)):ByteArray).size+mg.size:Nat):Int)<=9223372036854775807 /\ (k7 ((((nI++(⟨#[46]⟩:ByteArray)):ByteArray)++mg),()) h4))))) (k7 (s4.1,()) h4))))) (λk5=>(zW ((r3.1.size:Int)<=digits) (za (z7b ⟨#[48]⟩ (i64.wrap ((i64.wrap (digits+1))-(r3.1.size:Int)))) (λbZ h7=>(((bZ.size+r3.1.size:Nat):Int)<=9223372036854775807 /\ (k5 ((bZ++r3.1),()) h7))) h3) (k5 (r3.1,()) h3)))))) h1))) h
def z0r(n:aC)(K:zY Bool)(h:Hp):=za (Yr n) (λr1 h1=>(K (r1 != 0) h1)) h
def ya(s:Sl)(K:zY Int)(h:Hp):=zx (S:=Int×Unit) (λs1 k2 h1=>(zW (s1.1<(s.len:Int)) (zi s s1.1 4 λa3=>(zH a3 (λdu dv eJ eK=>(za (z0r ⟨⟨du,dv⟩,⟨eJ,eK⟩⟩) (λr5 h2=>(ak r5 (K s1.1 h2) (k2 ((i64.wrap (s1.1+1)),()) h2))) h1)) h1)) (K (-1) h1))) (0,()) h
def Vl(x:(Option Addr))(K:zY Int)(h:Hp):=Yv x λp1=>(aB (.sl) (p1.add 0) (λx2=>(za (ya x2) (λr3 h1=>(K r3 h1)) h)) h)
def Yp(x:(Option Addr))(y:aW)(K:zY Unit)(h:Hp):=Ys [.slice y.dB.a y.dB.len y.dB.cap,.slice y.bE.a y.bE.len y.bE.cap] (λp1=>za (Vl (some p1)) (λr2 h2=>(Yv x λp3=>(aB (.sl) (p3.add 0) (λx4=>(zi x4 r2 4 λa5=>(zH a5 (λdw dZ fw eQ=>(aB (.sl) (p1.add 0) (λx7=>(zi x7 r2 4 λa8=>(zH a8 (λvW ru vX rv=>(za (FG ⟨⟨dw,dZ⟩,⟨fw,eQ⟩⟩ ⟨⟨vW,ru⟩,⟨vX,rv⟩⟩) (λbY=>za (Yr ⟨⟨bY.1.num.neg,bY.1.num.ah⟩,⟨bY.1.den.neg,bY.1.den.ah⟩⟩) (λcB h4=>(ak (cB==0) (K () h4) (aB (.sl) (p1.add 0) (λjY=>(zx (S:=Int×Unit) (λim k14 h5=>(zW (im.1<(jY.len:Int)) (zi jY im.1 4 λiU=>(zH iU (λiu iw j8 j9=>(Yv x λRc=>(aB (.sl) (Rc.add 0) (λnF=>(Yv x λRf=>(aB (.sl) (Rf.add 0) (λoF=>(zi oF im.1 4 λoL=>(zH oL (λoM oN oO oS=>(za (yl ⟨⟨bY.1.num.neg,bY.1.num.ah⟩,⟨bY.1.den.neg,bY.1.den.ah⟩⟩ ⟨⟨iu,iw⟩,⟨j8,j9⟩⟩) (λjt=>za (Xo ⟨⟨oM,oN⟩,⟨oO,oS⟩⟩ jt) (λdL h7=>(zi nF im.1 4 λvV=>(bD vV [.bool dL.num.neg,.slice dL.num.ah.a dL.num.ah.len dL.num.ah.cap,.bool dL.den.neg,.slice dL.den.ah.a dL.den.ah.len dL.den.ah.cap] (λh8=>(k14 ((i64.wrap (im.1+1)),()) h8)) h7)))) h5)) h5))) h5))) h5))) h5)) (aB (.sl) (p1.add 1) (λyS=>(zx (S:=Int×Unit) (λma k28 h9=>(zW (ma.1<(yS.len:Int)) (zi yS ma.1 4 λuX=>(zH uX (λoT oU oV oW=>(Yv x λp31=>(aB (.sl) (p31.add 1) (λx32=>(Yv x λp33=>(aB (.sl) (p33.add 1) (λx34=>(zi x34 ma.1 4 λyZ=>(zH yZ (λwb we wg wh=>(za (yl ⟨⟨bY.1.num.neg,bY.1.num.ah⟩,⟨bY.1.den.neg,bY.1.den.ah⟩⟩ ⟨⟨oT,oU⟩,⟨oV,oW⟩⟩) (λF0=>za (Xo ⟨⟨wb,we⟩,⟨wg,wh⟩⟩ F0) (λju bV=>(zi x32 ma.1 4 λa39=>(bD a39 [.bool ju.num.neg,.slice ju.num.ah.a ju.num.ah.len ju.num.ah.cap,.bool ju.den.neg,.slice ju.den.ah.a ju.den.ah.len ju.den.ah.cap] (λcu=>(k28 ((i64.wrap (ma.1+1)),()) cu)) bV)))) h9)) h9))) h9))) h9))) h9)) (K () h9))) (0,()) h5)) h5))) (0,()) h4)) h4)))) h2)) h2))) h2)) h2))) h2)))) h
def z2w(a:ag)(K:zY Sl)(h:Hp):=za (zr 1) (λr1=>za (Y5 a.ae r1) (λr2=>zx (S:=Sl×Sl×Int×Unit) (λs3 k4 h3=>(za (Zl s3.2.1) (λr5=>eW (i64.wrap (s3.2.2.1+1)) (i64.wrap (s3.2.2.1+1)) 64 [.bool false,zN,.bool false,zN] (λm6=>Ys [zN,zN] (λp7 h6=>(bD p7 [.slice r5.a r5.len r5.cap,.slice m6.a m6.len m6.cap] (λh7=>(aB (.sl) (p7.add 1) (λx8=>(zx (S:=Int×Unit) (λs9 k10 h8=>(zW (s9.1<(x8.len:Int)) (aB (.sl) (p7.add 1) (λgd=>(za (zr 0) (λbZ h9=>(zi gd s9.1 4 λdV=>(bD dV [.bool bZ.num.neg,.slice bZ.num.ah.a bZ.num.ah.len bZ.num.ah.cap,.bool bZ.den.neg,.slice bZ.den.ah.a bZ.den.ah.len bZ.den.ah.cap] (λaZ=>(k10 ((i64.wrap (s9.1+1)),()) aZ)) h9))) h8)) h8) (aB (.sl) (p7.add 1) (λkW=>(za (zr 1) (λcA bV=>(zi kW s3.2.2.1 4 λkV=>(bD kV [.bool cA.num.neg,.slice cA.num.ah.a cA.num.ah.len cA.num.ah.cap,.bool cA.den.neg,.slice cA.den.ah.a cA.den.ah.len cA.den.ah.cap] (λcu=>(zx (S:=Int×Unit) (λsG k18 cO=>(zW (sG.1<(s3.1.len:Int)) (zi s3.1 sG.1 2 λmL=>(zJ mL (λj6 jg=>(kE (Yp (some p7) ⟨j6,jg⟩) (λdS eG=>(k18 ((i64.wrap (sG.1+1)),()) eG)) cO)) cO)) (aB (.sl) (p7.add 0) (λyY=>(za (Vi yY) (λjt gh=>(ak jt (aB (.sl) (p7.add 1) (λvU=>(K vU gh)) gh) (zJ p7 (λwk wq=>(Qg 2 48 [zN,zN] s3.1 1 [.slice wk.a wk.len wk.cap,.slice wq.a wq.len wq.cap] (λA7=>za (W6 a.ae s3.2.1 a.af) (λu5 dF=>(k4 (A7,u5,(i64.wrap (s3.2.2.1+1)),()) dF))) gh)) gh))) cO)) cO))) (0,()) cu)) bV))) h8)) h8))) (0,()) h7)) h7)) h6)))) h3)) (zd,r2,0,()))) h
def Rg(n:aC)(v0:(Option Addr))(K:zY Sl)(h:Hp):=Yv v0 λp1=>(aB (.sl) (p1.add 0) (λx2=>(za (Y5 x2 n) (λr3 h1=>(K r3 h1)) h)) h)
def z9i(a:ag)(K:zY gN)(h:Hp):=Ys [.slice a.ae.a a.ae.len a.ae.cap,.slice a.af.a a.af.len a.af.cap] (λp1 h1=>(zJ p1 (λeH eI=>(za (z2w ⟨eH,eI⟩) (λr3=>za (z8h r3) (λr4=>zx (S:=(Sl×Int×Unit)×Int×Unit) (λs5 k6 h4=>(zW (s5.2.1<(r4.len:Int)) (zy (S:=(Sl×Int×Unit)×Unit) (λs7 h5=>(k6 ((s7.1.1,s7.1.2.1,()),(i64.wrap (s5.2.1+1)),()) h5)) (λk8=>(zi r4 s5.2.1 8 λa9=>(zH a9 (λfO fP fQ fR=>(aB (.bool) (a9.add 4) (λwt=>(aB (.sl) (a9.add 5) (λwu=>(aB (.bool) (a9.add 6) (λwv=>(aB (.sl) (a9.add 7) (λRh=>(zJ p1 (λgd jY=>(za (Rg ⟨⟨fO,fP⟩,⟨fQ,fR⟩⟩ (some p1)) (λcN=>za (K6 gd cN jY) (λdR h7=>(zW (dR<0) (zJ p1 (λx15 yV=>(za (Rg ⟨⟨wt,wu⟩,⟨wv,Rh⟩⟩ (some p1)) (λfq=>za (K6 x15 yV fq) (λiM h9=>(zW (iM<=0) (za (V7 r3) (λmf aZ=>(K ⟨mf,s5.2.1⟩ aZ)) h9) (k8 ((s5.1.1,s5.1.2.1,()),()) h9)))) h7)) h7) (k8 ((s5.1.1,s5.1.2.1,()),()) h7)))) h4)) h4)) h4)) h4)) h4)) h4)) h4)))) (K ⟨zd,0⟩ h4))) ((zd,0,()),0,()))) h1)) h1)) h
def z81(n:ag)(K:zY Bool)(h:Hp):=za (Xw n) (λr1 h1=>(K (decide (r1>0)) h1)) h
def z97(n:ag)(K:zY fT)(h:Hp):=K ⟨n,zd⟩ h
def zn0(a:aF)(K:zY Bool)(h:Hp):=za (Xw a.y) (λr1 h1=>(ak (r1==0) (za (Xw a.x) (λr2 h2=>(K (decide (r2>0)) h2)) h1) (K false h1))) h
def zih(a:eR)(K:zY Bool)(h:Hp):=ak (a.full==0) (za (zn0 a.dir) (λr1 h1=>(K r1 h1)) h) (K false h)
def zhh(n:ag)(K:zY (ag×Int))(h:Hp):=za (FT 1 2) (λr1=>za (Vd r1) (λr2=>za (Xb n r2) (λr3 h3=>(K (⟨r3.1.ae,r3.1.af⟩,r3.2) h3)))) h
def zbm(cS:ag)(t:eR)(K:zY (fT×Int))(h:Hp):=za (z81 cS) (λr1 h1=>(ak (!r1) (K (⟨⟨zd,zd⟩,zd⟩,1) h1) (za (Xv 0) (λr2=>za (z97 r2) (λr3=>za (zih t) (λr4 h4=>(ak r4 (K (r3,0) h4) (za (zhh cS) (λr5 h5=>(ak (r5.2 != 0) (K (⟨⟨zd,zd⟩,zd⟩,r5.2) h5) (Ys [.slice r5.1.ae.a r5.1.ae.len r5.1.ae.cap,.slice r5.1.af.a r5.1.af.len r5.1.af.cap,.slice t.dir.x.ae.a t.dir.x.ae.len t.dir.x.ae.cap,.slice t.dir.x.af.a t.dir.x.af.len t.dir.x.af.cap,.slice t.dir.y.ae.a t.dir.y.ae.len t.dir.y.ae.cap,.slice t.dir.y.af.a t.dir.y.af.len t.dir.y.af.cap,.int .i64 t.full] (λp6 h6=>(K (⟨r3.part,⟨some p6,1,1⟩⟩,0) h6)) h5))) h4))))) h1))) h
def zjv(t:eR)(K:zY Bool)(h:Hp):=ak (t.full==0) (za (Xd t.dir.y) (λr1 h1=>(ak (r1==0) (za (Xd t.dir.x) (λr2 h2=>(K (decide (r2>0)) h2)) h1) (K false h1))) h) (K false h)
def zf0(a:ag)(K:zY ag)(h:Hp):=za (Kn 1 2) (λr1=>za (Xp r1) (λr2=>za (zB a r2) (λr3 h3=>(K ⟨r3.1.ae,r3.1.af⟩ h3)))) h
def z9w(cS:ag)(t:eR)(K:zY fT)(h:Hp):=za (Y4 0) (λr1 h1=>(zy (S:=(Sl×Sl×Sl×Unit)×Unit) (λs2 h2=>(K ⟨⟨s2.1.1,s2.1.2.1⟩,s2.1.2.2.1⟩ h2)) (λk3=>(za (zjv t) (λr4 h3=>(ak (!r4) (za (zf0 cS) (λr5=>Ys [.slice r5.ae.a r5.ae.len r5.ae.cap,.slice r5.af.a r5.af.len r5.af.cap,.slice t.dir.x.ae.a t.dir.x.ae.len t.dir.x.ae.cap,.slice t.dir.x.af.a t.dir.x.af.len t.dir.x.af.cap,.slice t.dir.y.ae.a t.dir.y.ae.len t.dir.y.ae.cap,.slice t.dir.y.af.a t.dir.y.af.len t.dir.y.af.cap,.int .i64 t.full] (λp6 h5=>(k3 ((r1.ae,r1.af,⟨some p6,1,1⟩,()),()) h5))) h3) (k3 ((r1.ae,r1.af,zd,()),()) h3))) h1)))) h
def GI(d:aF)(K:zY Int)(h:Hp):=za (Xd d.y) (λr1 h1=>(zW (r1>0) (K 0 h1) (ak (r1==0) (za (Xd d.x) (λr2 h2=>(zW (r2>0) (K 0 h2) (K 1 h2))) h1) (K 1 h1)))) h
def z6z(c:(Option Addr))(e:Int)(K:zY Unit)(h:Hp):=Yv c λp1=>(aB (.int .i64) (p1.add 0) (λx2=>(ak (x2==0) (Yv c λp3=>(bD (p3.add 0) [.int .i64 e] (λh1=>(K () h1)) h)) (K () h))) h)
def z7h(c:(Option Addr))(a:ag)(e:Int)(K:zY ag)(h:Hp):=za (z6z c e) (λr1 h1=>(ak (e != 0) (za (Y4 0) (λr2 h2=>(K r2 h2)) h1) (K a h1))) h
def z1p(c:(Option Addr))(a:aF)(b:aF)(K:zY ag)(h:Hp):=za (PZ a b) (λr1=>za (z7h c ⟨r1.1.ae,r1.1.af⟩ r1.2) (λr2 h2=>(K r2 h2))) h
def zc1(c:(Option Addr))(a:aF)(b:aF)(K:zY Int)(h:Hp):=za (GI a) (λr1=>za (GI b) (λr2 h2=>(ak (r1 != r2) (za (GI a) (λr3=>za (GI b) (λr4 h4=>(K (i64.wrap (r3-r4)) h4))) h2) (za (z1p c a b) (λr5=>za (Xd r5) (λr6 h6=>(K (i64.wrap (0-r6)) h6))) h2)))) h
def zi7(a:eR)(b:eR)(K:zY (Int×Int))(h:Hp):=zW (a.full<b.full) (K ((-1),0) h) (zW (a.full>b.full) (K (1,0) h) (Ys [.int .i64 0] (λp1=>za (zc1 (some p1) a.dir b.dir) (λr2 h2=>(aB (.int .i64) (p1.add 0) (λx3=>(ak (x3 != 0) (aB (.int .i64) (p1.add 0) (λx4=>(K (0,x4) h2)) h2) (K (r2,0) h2))) h2))) h))
def Ri(a:ag)(K:zY Bool)(h:Hp):=zW ((a.ae.len:Int)<=8) (za (FY a.ae a.af) (λr1 h1=>(ak r1 (za (PJ a.ae) (λr2 h2=>(K r2 h2)) h1) (K false h1))) h) (K false h)
def Rj(a:aF)(K:zY Bool)(h:Hp):=za (Ri a.x) (λr1 h1=>(ak r1 (za (Ri a.y) (λr2 h2=>(K r2 h2)) h1) (K false h1))) h
def Rk(a:eR)(K:zY Bool)(h:Hp):=za (PU a.dir) (λr1 h1=>(ak (!r1) (zW (a.full>=(-1000000)) (K (decide (a.full<=1000000)) h1) (K false h1)) (K false h1))) h
def zez(a:eR)(b:eR)(K:zY Bool)(h:Hp):=zy (S:=Unit) (λs1=>za (zi7 a b) (λr3 h2=>(ak (r3.1==0) (K (r3.2==0) h2) (K false h2)))) (λk2=>(za (Rj a.dir) (λr4 h3=>(ak (!r4) (K false h3) (za (Rj b.dir) (λr5 h4=>(ak (!r5) (K false h4) (za (Rk a) (λr6 h5=>(ak (!r6) (K false h5) (za (Rk b) (λr7 h6=>(ak (!r7) (K false h6) (k2 () h6))) h5))) h4))) h3))) h))
def zc2(a:fT)(b:fT)(K:zY Bool)(h:Hp):=zy (S:=Unit) (λs1=>zx (S:=Int×Unit) (λs3 k4 h2=>(zW (s3.1<(a.dC.len:Int)) (zy (S:=Unit) (λs5 h3=>(k4 ((i64.wrap (s3.1+1)),()) h3)) (λk6=>(zi a.dC s3.1 7 λa7=>(zK a7 (λF6 F7 F8 F9=>(aB (.sl) (a7.add 4) (λaaH=>(aB (.sl) (a7.add 5) (λaaI=>(aB (.int .i64) (a7.add 6) (λaaJ=>(zi b.dC s3.1 7 λa9=>(zK a9 (λfO fP fQ fR=>(aB (.sl) (a9.add 4) (λwt=>(aB (.sl) (a9.add 5) (λwu=>(aB (.int .i64) (a9.add 6) (λwv=>(za (W0 ⟨F6,F7⟩ ⟨fO,fP⟩) (λcB h4=>(ak (!cB) (K false h4) (za (zez ⟨⟨⟨F8,F9⟩,⟨aaH,aaI⟩⟩,aaJ⟩ ⟨⟨⟨fQ,fR⟩,⟨wt,wu⟩⟩,wv⟩) (λbZ h5=>(ak (!bZ) (K false h5) (k6 () h5))) h4))) h2)) h2)) h2)) h2)) h2))) h2)) h2)) h2)) h2)))) (K true h2))) (0,())) (λk2=>(za (W0 a.part b.part) (λcN h6=>(ak (!cN) (K false h6) (ak ((a.dC.len:Int) != (b.dC.len:Int)) (K false h6) (k2 () h6)))) h))
def Dv(K:zY Bool)(h:Hp):=za (Y4 2) (λr1=>za (Dd r1) (λr2=>za (z6q ⟨r2.1.ae,r2.1.af⟩ 2) (λr3=>za (z9i ⟨r2.1.ae,r2.1.af⟩) (λr4=>za (Kz 0 1) (λr5=>za (Y4 4) (λr6=>za (zbm r6 ⟨r5,0⟩) (λr7 h7=>(ak (r3.2==0) (ak (r7.2==0) (ak (r3.1.toList==(⟨#[49,46,52,49]⟩:ByteArray).toList) (ak ((r4.FU.len:Int)==3) (ak (r4.root==1) (za (Y4 4) (λr8=>za (z9w r8 ⟨r5,0⟩) (λr9=>za (zc2 ⟨⟨r7.1.part.ae,r7.1.part.af⟩,r7.1.dC⟩ r9) (λbY aZ=>(K bY aZ)))) h7) (K false h7)) (K false h7)) (K false h7)) (K false h7)) (K false h7))))))))) h
def Rl(p:Tsetsquareref13_Plot)(kind:Int)(K:zY Bool)(h:Hp):=za (zif p kind) (λr1 h1=>(zy (S:=Unit) (λs2 h2=>(zi r1.1 0 4 λa4=>(zK a4 (λfS gw jZ j0=>(zi r1.1 1 4 λa6=>(zK a6 (λrp mM rq mN=>(za (Vj ⟨⟨fS,gw⟩,⟨jZ,j0⟩⟩ ⟨⟨rp,mM⟩,⟨rq,mN⟩⟩) (λr8 h3=>(zi r1.2.1 0 4 λa9=>(zK a9 (λfO fP fQ fR=>(zi r1.2.1 1 4 λoC=>(zK oC (λRm Rn Ro Rp=>(za (Vj ⟨⟨fO,fP⟩,⟨fQ,fR⟩⟩ ⟨⟨Rm,Rn⟩,⟨Ro,Rp⟩⟩) (λcN=>za (KZ ⟨⟨r8.1.x.ae,r8.1.x.af⟩,⟨r8.1.y.ae,r8.1.y.af⟩⟩) (λdR=>za (KZ ⟨⟨cN.1.x.ae,cN.1.x.af⟩,⟨cN.1.y.ae,cN.1.y.af⟩⟩) (λcA h6=>(zy (S:=Unit) (λs16 h7=>(zi r1.1 0 4 λyW=>(zK yW (λoH oI vY vZ=>(zi r1.1 1 4 λa20=>(zK a20 (λRq Rr Rs Rt=>(zi r1.1 2 4 λFK=>(zK FK (λRu Rv Rw Rx=>(za (K5 ⟨⟨oH,oI⟩,⟨vY,vZ⟩⟩ ⟨⟨Rq,Rr⟩,⟨Rs,Rt⟩⟩ ⟨⟨Ru,Rv⟩,⟨Rw,Rx⟩⟩) (λdL h8=>(zi r1.2.1 0 4 λvV=>(zK vV (λRy Rz RA RB=>(zi r1.2.1 1 4 λOC=>(zK OC (λRC RD RE RG=>(zi r1.2.1 2 4 λuX=>(zK uX (λoT oU oV oW=>(za (K5 ⟨⟨Ry,Rz⟩,⟨RA,RB⟩⟩ ⟨⟨RC,RD⟩,⟨RE,RG⟩⟩ ⟨⟨oT,oU⟩,⟨oV,oW⟩⟩) (λnH h9=>(zy (S:=Unit) (λs32 aZ=>(zy (S:=Unit) (λs34 bV=>(zi r1.1 0 4 λa36=>(zK a36 (λRH RI RJ RK=>(zi r1.1 1 4 λa38=>(zK a38 (λRM RN RO RP=>(za (Bc ⟨⟨RH,RI⟩,⟨RJ,RK⟩⟩ ⟨⟨RM,RN⟩,⟨RO,RP⟩⟩) (λtS cu=>(ak tS (K true cu) (zi r1.1 0 4 λa41=>(zK a41 (λRQ RR RS RU=>(zi r1.1 1 4 λa43=>(zK a43 (λRV RW RX RY=>(za (QU ⟨⟨RQ,RR⟩,⟨RS,RU⟩⟩ ⟨⟨RV,RW⟩,⟨RX,RY⟩⟩) (λAX cO=>(zi r1.2.1 0 4 λa46=>(zK a46 (λRZ R0 R3 R4=>(zi r1.2.1 1 4 λa48=>(zK a48 (λR5 R6 R7 R8=>(za (QU ⟨⟨RZ,R0⟩,⟨R3,R4⟩⟩ ⟨⟨R5,R6⟩,⟨R7,R8⟩⟩) (λrA eG=>(zi r1.1 4 4 λa51=>(zK a51 (λR9 R' Sa Sb=>(za (QV ⟨⟨AX.1.a.ae,AX.1.a.af⟩,⟨AX.1.b.ae,AX.1.b.af⟩,⟨AX.1.c.ae,AX.1.c.af⟩⟩ ⟨⟨R9,R'⟩,⟨Sa,Sb⟩⟩) (λSc=>za (GD ⟨⟨r1.2.2.1.c.ae,r1.2.2.1.c.af⟩,⟨r1.2.2.1.s.ae,r1.2.2.1.s.af⟩,⟨r1.2.2.1.x.ae,r1.2.2.1.x.af⟩,⟨r1.2.2.1.y.ae,r1.2.2.1.y.af⟩,r1.2.2.1.aS⟩ ⟨⟨Sc.1.x.ae,Sc.1.x.af⟩,⟨Sc.1.y.ae,Sc.1.y.af⟩⟩) (λwa gi=>(zi r1.2.1 4 4 λa55=>(zK a55 (λSd Se Sf Sg=>(za (QV ⟨⟨rA.1.a.ae,rA.1.a.af⟩,⟨rA.1.b.ae,rA.1.b.af⟩,⟨rA.1.c.ae,rA.1.c.af⟩⟩ ⟨⟨Sd,Se⟩,⟨Sf,Sg⟩⟩) (λSh dF=>(ak (AX.2==0) (ak (rA.2==0) (ak (Sc.2==0) (ak (wa.2==0) (ak (Sh.2==0) (za (Bc ⟨⟨wa.1.x.ae,wa.1.x.af⟩,⟨wa.1.y.ae,wa.1.y.af⟩⟩ ⟨⟨Sh.1.x.ae,Sh.1.x.af⟩,⟨Sh.1.y.ae,Sh.1.y.af⟩⟩) (λr58 fN=>(ak r58 (za (zol ⟨⟨rA.1.a.ae,rA.1.a.af⟩,⟨rA.1.b.ae,rA.1.b.af⟩,⟨rA.1.c.ae,rA.1.c.af⟩⟩ ⟨⟨wa.1.x.ae,wa.1.x.af⟩,⟨wa.1.y.ae,wa.1.y.af⟩⟩) (λr59 iV=>(K r59 iV)) fN) (K false fN))) dF) (K false dF)) (K false dF)) (K false dF)) (K false dF)) (K false dF))) gi)) gi)))) eG)) eG))) cO)) cO))) cO))) cu)) cu))) cu)))) bV)) bV))) bV))) (λk35=>(ak (dL.1 != 0) (zi r1.1 0 4 λa60=>(zK a60 (λSi Sj Sk Sm=>(zi r1.1 1 4 λa62=>(zK a62 (λSn So Sr Ss=>(zi r1.1 2 4 λa64=>(zK a64 (λSt Su Sv Sw=>(za (QW ⟨⟨Si,Sj⟩,⟨Sk,Sm⟩⟩ ⟨⟨Sn,So⟩,⟨Sr,Ss⟩⟩ ⟨⟨St,Su⟩,⟨Sv,Sw⟩⟩) (λrB gX=>(zi r1.2.1 0 4 λa67=>(zK a67 (λSx Sy SA SB=>(zi r1.2.1 1 4 λa69=>(zK a69 (λSC SD SE SF=>(zi r1.2.1 2 4 λa71=>(zK a71 (λSG SH SI SJ=>(za (QW ⟨⟨Sx,Sy⟩,⟨SA,SB⟩⟩ ⟨⟨SC,SD⟩,⟨SE,SF⟩⟩ ⟨⟨SG,SH⟩,⟨SI,SJ⟩⟩) (λtT me=>(zi r1.1 3 4 λa74=>(zK a74 (λSK SL SM SN=>(za (QX ⟨⟨⟨rB.1.bW.x.ae,rB.1.bW.x.af⟩,⟨rB.1.bW.y.ae,rB.1.bW.y.af⟩⟩,⟨rB.1.cS.ae,rB.1.cS.af⟩⟩ ⟨⟨SK,SL⟩,⟨SM,SN⟩⟩) (λr76 u6=>(zi r1.2.1 3 4 λa77=>(zK a77 (λSO SP SQ SS=>(za (QX ⟨⟨⟨tT.1.bW.x.ae,tT.1.bW.x.af⟩,⟨tT.1.bW.y.ae,tT.1.bW.y.af⟩⟩,⟨tT.1.cS.ae,tT.1.cS.af⟩⟩ ⟨⟨SO,SP⟩,⟨SQ,SS⟩⟩) (λr79=>za (GD ⟨⟨r1.2.2.1.c.ae,r1.2.2.1.c.af⟩,⟨r1.2.2.1.s.ae,r1.2.2.1.s.af⟩,⟨r1.2.2.1.x.ae,r1.2.2.1.x.af⟩,⟨r1.2.2.1.y.ae,r1.2.2.1.y.af⟩,r1.2.2.1.aS⟩ ⟨⟨rB.1.bW.x.ae,rB.1.bW.x.af⟩,⟨rB.1.bW.y.ae,rB.1.bW.y.af⟩⟩) (λSU js=>(ak (rB.2 != 0) (K false js) (ak (tT.2 != 0) (K false js) (ak (r76.2 != 0) (K false js) (ak (r79.2 != 0) (K false js) (ak (SU.2 != 0) (K false js) (ak (r76.1 != r79.1) (K false js) (za (Bc ⟨⟨SU.1.x.ae,SU.1.x.af⟩,⟨SU.1.y.ae,SU.1.y.af⟩⟩ ⟨⟨tT.1.bW.x.ae,tT.1.bW.x.af⟩,⟨tT.1.bW.y.ae,tT.1.bW.y.af⟩⟩) (λr81 u7=>(ak (!r81) (K false u7) (za (W0 ⟨rB.1.cS.ae,rB.1.cS.af⟩ ⟨tT.1.cS.ae,tT.1.cS.af⟩) (λr82 Bj=>(ak (!r82) (K false Bj) (k35 () Bj))) u7))) js))))))))) u6)) u6))) me)) me))) gX)) gX))) gX))) gX))) aZ)) aZ))) aZ))) aZ)) (k35 () aZ))))) (λk33=>(ak (dL.2 != 0) (K false h9) (ak (nH.2 != 0) (K false h9) (za (zlr ⟨⟨r1.2.2.1.c.ae,r1.2.2.1.c.af⟩,⟨r1.2.2.1.s.ae,r1.2.2.1.s.af⟩,⟨r1.2.2.1.x.ae,r1.2.2.1.x.af⟩,⟨r1.2.2.1.y.ae,r1.2.2.1.y.af⟩,r1.2.2.1.aS⟩) (λr83 Ba=>(ak (nH.1 != (i64.wrap (dL.1*r83))) (K false Ba) (k33 () Ba))) h9)))))) h8)) h8))) h8))) h8))) h7)) h7))) h7))) h7))) (λk17=>(ak (r8.2 != 0) (K false h6) (ak (cN.2 != 0) (K false h6) (ak (dR.2 != 0) (K false h6) (ak (cA.2 != 0) (K false h6) (za (W0 ⟨dR.1.ae,dR.1.af⟩ ⟨cA.1.ae,cA.1.af⟩) (λr84 pY=>(ak (!r84) (K false pY) (zi r1.1 0 4 λa85=>(zK a85 (λSV SW SX SY=>(zi r1.1 1 4 λa87=>(zK a87 (λSZ S0 S1 S2=>(zi r1.1 2 4 λa89=>(zK a89 (λS3 S4 S5 S6=>(zi r1.2.1 0 4 λa91=>(zK a91 (λS7 S8 S9 S'=>(zi r1.2.1 1 4 λa93=>(zK a93 (λTA TB TD TE=>(zi r1.2.1 2 4 λa95=>(zK a95 (λTG TH TI TJ=>(za (QY ⟨⟨SV,SW⟩,⟨SX,SY⟩⟩ ⟨⟨SZ,S0⟩,⟨S1,S2⟩⟩ ⟨⟨S3,S4⟩,⟨S5,S6⟩⟩) (λr97=>za (QY ⟨⟨S7,S8⟩,⟨S9,S'⟩⟩ ⟨⟨TA,TB⟩,⟨TD,TE⟩⟩ ⟨⟨TG,TH⟩,⟨TI,TJ⟩⟩) (λr98 Bf=>(ak (!(r97==r98)) (K false Bf) (k17 () Bf)))) pY)) pY))) pY))) pY))) pY))) pY))) pY)))) h6)))))))))) h3)) h3))) h3))) h2)) h2))) h2))) (λk3=>(za (Dv) (λr99 zC=>(ak (!r99) (za (Dv) (λaaK Dt=>(ak aaK (ak (!r1.2.2.2.1) (K true Dt) (K r1.2.2.2.2 Dt)) (K false Dt))) zC) (ak (!r1.2.2.2.1) (za (Dv) (λaaL GH=>(ak aaL (ak (!r1.2.2.2.1) (K true GH) (K r1.2.2.2.2 GH)) (K false GH))) zC) (ak (!r1.2.2.2.2) (za (Dv) (λaaM LA=>(ak aaM (ak (!r1.2.2.2.1) (K true LA) (K r1.2.2.2.2 LA)) (K false LA))) zC) (k3 () zC))))) h1)))) h
end F
end Den
end

section
namespace Iv
def W:Nat:=4294967296
def Xi:0<W:=zD
def Dw:W=4294967296:=rfl
def vl:List Nat->Nat
 | []=>0
 | x :: r=>x+W*vl r
def aX(l:List Nat):Prop:=∀d∈l,d<W
def Q1:List Nat->List Nat
 | []=>[]
 | x :: r=>match Q1 r with
   | []=>if x=0 then []else [x]
   | y :: t=>x :: y :: t
def dg(n:Nat):List Nat:=if h:n=0 then []else (n % W) :: dg (n/W)
termination_by n
decreasing_by exact Nat.div_lt_self (T6 h) zD
def qe:dg 0=[]:=by unfold dg;simp
def GJ{n:Nat}(h:n≠0):dg n=(n % W) :: dg (n/W):=by conv=>lhs;unfold dg;rw[dif_neg h]
def Zk(n:Nat):vl (dg n)=n:=by
 induction n using Nat.strongRecOn with
 | _ n ih=>
   by_cases h:n=0;subst h;rw[qe];rfl
   . rw[GJ h];simp only[vl];rw[ih (n/W) (Nat.div_lt_self (T6 h) zD)];exact Pv n W
def Zu(n:Nat):aX (dg n):=by
 induction n using Nat.strongRecOn with
 | _ n ih=>
   by_cases h:n=0;subst h;rw[qe];intro d hd;cases hd
   . rw[GJ h];intro d hd;rcases Gk.1 hd with rfl | hd
     exact Ga _ Xi;exact ih (n/W) (Nat.div_lt_self (T6 h) zD) d hd
def sH{n:Nat}:dg n=[]↔n=0:=by
 constructor
 . intro h;have:=Zk n;rw[h]at this;exact this.symm
 rintro rfl;exact qe
def zop{x:Nat}{r:List Nat}(h:aX (x :: r)):x<W/\aX r:=⟨h x List.mem_cons_self,λd hd=>h d (List.mem_cons_of_mem _ hd)⟩
def Yj:∀{l:List Nat},aX l->Q1 l=dg (vl l)
 | [],_=>by simp[Q1,vl,qe]
 | x :: r,h=>by
   obtain⟨hx,hr⟩:=zop h;have ih:=Yj hr;unfold Q1 vl;rw[ih];by_cases hv:vl r=0
   . rw[hv,qe];simp only[Tv,G0];by_cases h0:x=0;rw[if_pos h0,h0,qe];rw[if_neg h0,GJ h0,Ui hx,Pl hx,qe]
   . have cd:dg (vl r)≠[]:=λhh=>hv (sH.1 hh)
     have cI:x+W*vl r≠0:=by
      have:0<W*vl r:=Nat.mul_pos Xi (T6 hv);omega
     rw[GJ cI,Nat.add_mul_mod_self_left,Ui hx,Nat.add_mul_div_left _ _ Xi,Pl hx,Nat.zero_add];cases hd:dg (vl r)with
     | nil=>exact absurd hd cd
     | cons y t=>rfl
def sI:∀{l:List Nat},aX l->vl l<W ^ l.length
 | [],_=>by simp[vl]
 | x :: r,h=>by
   obtain⟨hx,hr⟩:=zop h;have ih:=sI hr;simp only[vl,Ji,Uc];have:W*(vl r+1)<=W*W ^ r.length:=Jr _ ih;rw[J4 (W ^ r.length)];rw[U5]at this;omega
def yj{n k:Nat}:(dg n).length<=k↔n<W ^ k:=by
 constructor
 . intro h;have h1:=sI (Zu n);rw[Zk]at h1;exact Tc h1 (Jz Xi h)
 . induction k generalizing n with
   | zero=>
     intro h;have:n=0:=by simp at h;exact h
     subst this;rw[qe];simp
   | succ k ih=>
     intro h;by_cases hn:n=0;subst hn;rw[qe];simp
     . rw[GJ hn];simp only[Ji];have:n/W<W ^ k:=by
        rw[Ta Xi];rw[Uc]at h;exact h
       have:=ih this;omega
def LC:∀(a b:List Nat),vl (a++b)=vl a+W ^ a.length*vl b
 | [],b=>by simp[vl]
 | x :: r,b=>by
   simp only[Th,vl,LC r b,Ji,Uc];rw[U5,J4 (W ^ r.length) W,J6];omega
def Zat{l:List Nat}(iS:aX l)(ht:Q1 l=l):l=dg (vl l):=ht.symm.trans (Yj iS)
def zE:∀{l:List Nat} {k v:Nat} (hk:k<l.length),vl (l.set k v)+W ^ k*l[k]=vl l+W ^ k*v
 | [],k,v,hk=>by simp at hk
 | x :: r,0,v,hk=>by simp[vl];omega
 | x :: r,k+1,v,hk=>by
   have bP:k<r.length:=by simpa using hk
   have ih:=zE (v:=v) bP;simp only[List.set_cons_succ,vl,List.getElem_cons_succ,Uc];have e1:W ^ k*W*r[k]=W*(W ^ k*r[k]):=by rw[J4 (W ^ k) W,J6]
   have e2:W ^ k*W*v=W*(W ^ k*v):=by rw[J4 (W ^ k) W,J6]
   rw[e1,e2];have:=congrArg (W*·) ih;simp only[U5]at this;omega
def kX{l:List Nat}{k v:Nat}(hl:aX l)(hv:v<W):aX (l.set k v):=λd hd=>by
 rcases List.mem_or_eq_of_mem_set hd with h | h
 exact hl d h;rw[h];exact hv
def yu{l:List Nat}{k:Nat}(hk:k<l.length):vl (l.take (k+1))=vl (l.take k)+W ^ k*l[k]:=by
 rw[Jc hk,LC,Jk,Gh zO];simp[vl]
def Qb{l:List Nat}(hl:aX l){k:Nat}(hk:k<l.length):l[k]<W:=hl _ (List.getElem_mem hk)
def u9{l:List Nat}(hl:aX l)(k:Nat):aX (l.take k):=λd hd=>hl d (List.mem_of_mem_take hd)
def GK{l:List Nat}(hl:aX l)(k:Nat):aX (l.drop k):=λd hd=>hl d (List.mem_of_mem_drop hd)
def zmk{a b:List Nat}(ha:aX a)(hb:aX b):aX (a++b):=λd hd=>(List.mem_append.1 hd).elim (ha d) (hb d)
def Ym{l:List Nat}{k:Nat}(hk:k<=l.length):vl l=vl (l.take k)+W ^ k*vl (l.drop k):=by
 have:=LC (l.take k) (l.drop k);rw[List.take_append_drop,Jk,Gh hk]at this;exact this
def GL(n:Nat):vl (Jl n 0)=0:=by
 induction n with
 | zero=>rfl
 | succ n ih=>rw[List.replicate_succ];simp[vl,ih]
def tU(n:Nat):aX (Jl n 0):=λd hd=>by rw[(List.mem_replicate.1 hd).2];decide
def Zsy:aX []:=λd hd=>by cases hd
def cF(l:List Nat):(Q1 l).length<=l.length:=by
 induction l with
 | nil=>exact Jd _
 | cons x r ih=>
   unfold Q1;split;split<;>simp
   . rename_i y t h;rw[h]at ih;simp only[Ji]at ih |-;omega
def zig(l:List Nat):Q1 l=l.take (Q1 l).length:=by
 induction l with
 | nil=>rfl
 | cons x r ih=>
   unfold Q1;split;split<;>simp
   . rename_i y t h;rw[h]at ih;simp only[Ji]at ih |-
     rw[List.take_succ_cons,<-ih]
def zhc(l:List Nat):Q1 (l++[0])=Q1 l:=by
 induction l with
 | nil=>simp[Q1]
 | cons x r ih=>simp only[Th,Q1,ih]
def zcl(l:List Nat){x:Nat}(hx:x≠0):Q1 (l++[x])=l++[x]:=by
 induction l with
 | nil=>simp[Q1,hx]
 | cons y r ih=>
   simp only[Th,Q1,ih];cases h:r++[x]with
   | nil=>simp at h
   | cons a b=>rfl
end Iv
end

section
namespace Den
open Go Iv
def jH(b:Nat)(h h':Hp):Prop:=∀k B,k≠b->h k=some B->h' k=some B
def Z8b(x y:Sl):Prop:=∀a b,x.a=some a->y.a=some b->a.block≠b.block
def zkg{h1 h2 h3:Hp}{s s':Nat}{x y:Sl}{cs ds:List Value}(hx:Own h1 h2 s x cs)(hy:Own h2 h3 s' y ds):Z8b x y:=λa b ha hb hh=>by
 obtain⟨_,_,_,gx⟩:=hx;obtain⟨_,_,_,gy⟩:=hy;rw[ha]at gx;rw[hb]at gy;obtain⟨_,_,_,B,g4,_⟩:=gx;obtain⟨_,_,g3,_⟩:=gy;rw[hh,g3]at g4;cases g4
def zn9{h h':Hp}{b:Nat}(hl:jH b h h'){a:Addr}(ha:a.block≠b):∀{n:Nat} {l:List Value},Zp h a n=some l->Zp h' a n=some l
 | 0,_,e=>e
 | n+1,l,e=>by
   unfold Zp at *;cases h1:Zp h a n with
   | none=>rw[h1]at e;cases e
   | some l1=>
     rw[h1]at e;rw[zn9 hl ha h1];simp only at e |-
     have hc:∀v,h.cell (a.add n)=some v->h'.cell (a.add n)=some v:=λv hv=>by
      unfold Hp.cell at *;cases hs:(a.add n).spot with
      | some x=>rw[hs]at hv;cases hv
      | none=>
        rw[hs]at hv;simp only at hv |-
        rw[Qf]at hv |-
        cases hb:h a.block with
        | none=>rw[hb]at hv;cases hv
        | some B=>rw[hb]at hv;rw[hl _ _ ha hb];exact hv
     cases h2:h.cell (a.add n)with
     | none=>rw[h2]at e;cases e
     | some v=>rw[h2]at e;rw[hc v h2];exact e
def Rd.oX{h h':Hp}{b s:Nat}{y:Sl}{cs:List Value}(hr:Rd h s y cs)(hl:jH b h h')(cd:∀a,y.a=some a->a.block≠b):Rd h' s y cs:=by
 refine⟨hr.1,?_⟩;have h2:=hr.2;cases ha:y.a with
 | none=>rw[ha]at h2;exact h2
 | some a=>rw[ha]at h2;exact zn9 hl (cd a ha) h2
def Own.oX{h0 h h':Hp}{b s:Nat}{y:Sl}{cs:List Value}(hr:Own h0 h s y cs)(hl:jH b h h')(h0b:h0 b=none)(cd:∀a,y.a=some a->a.block≠b):Own h0 h' s y cs:=by
 obtain⟨h1,h2,h3,h4⟩:=hr;refine⟨λk B hk=>?_,h2,h3,?_⟩;exact hl k B (λhh=>by rw[hh,h0b]at hk;cases hk) (h1 k B hk)
 . cases ha:y.a with
   | none=>rw[ha]at h4;exact h4
   | some a=>
     rw[ha]at h4;obtain⟨g1,g2,g3,B,g4,g5⟩:=h4;exact⟨g1,g2,g3,B,hl _ _ (cd a ha) g4,g5⟩
def Zpe{h0 h:Hp}{size:Nat}{x:Sl}{cs vs:List Value}{i:Int}{K:Hp->Prop}(k:Nat)(ho:Own h0 h size x cs)(hi:i=k)(hk:k<x.len)(hv:vs.length=size)(dO:0<size)(dt:vs.all Value.leaf=true)
 (H:∀h' b,(∀a,x.a=some a->a.block=b)->h0 b=none->jH b h h'->Own h0 h' size x (Zn cs (k*size) vs)->K h'):zi x i size λa=>bD a vs K h:=by
 have mh:=ho;obtain⟨h1,h2,h3,h4⟩:=ho;cases ha:x.a with
 | none=>rw[ha]at h4;simp only at h4;omega
 | some a=>
   rw[ha]at h4;obtain⟨g1,g2,g3,b,g4,g5,g6,g7⟩:=h4;have key:=Z75 (K:=λh'=>jH a.block h h'->K h') k mh hi hk hv dO dt (λh' dA hl=>H h' a.block (λa' j'=>by rw[ha]at j';cases j';rfl) g3 hl dA);obtain⟨q1,q2,q3⟩:=key;refine⟨q1,q2,?_⟩;rw[ha]at q3 |-
   simp only[Yv]at q3 |-
   obtain⟨B,r1,r2,r3,r4,r5,r6⟩:=q3;refine⟨B,r1,r2,r3,r4,r5,r6 ?_⟩;rw[Qf];intro kk BB cd ck;rw[Hp.cl cd];exact ck
def wc(l:List Nat):List Value:=l.map λ(n:Nat)=>Pt .u32 (n:Int)
def Bl(l:List Nat):(wc l).length=l.length:=by simp[wc]
def Zxv{l:List Nat}{k v:Nat}(hk:k<l.length):Zn (wc l) (k*1) [.int .u32 (v:Int)]=wc (l.set k v):=by
 rw[U6,zk1];unfold wc;rw[List.map_set];have bP:k<(l.map λ(n:Nat)=>Pt .u32 (n:Int)).length:=by simpa using hk
 rw[List.set_eq_take_append_cons_drop,if_pos bP]
def Zxu(n:Nat):Yi n [Pt .u32 0]=wc (Jl n 0):=by
 unfold Yi wc;simp
def Zcf(a b:List Nat):wc (a++b)=wc a++wc b:=by simp[wc]
def aL(h:Hp)(x:Sl)(l:List Nat):Prop:=Rd h 1 x (wc l)/\x.len<=x.cap
abbrev Yz(h0 h:Hp)(x:Sl)(l:List Nat):Prop:=Own h0 h 1 x (wc l)
def aL.len{h:Hp}{x:Sl}{l:List Nat}(hr:aL h x l):x.len=l.length:=by have:=hr.1.1;rw[Bl]at this;omega
def Yz.ep{h0 h:Hp}{x:Sl}{l:List Nat}(hr:Yz h0 h x l):aL h x l:=⟨hr.rd,hr.2.2.1⟩
def Yz.len{h0 h:Hp}{x:Sl}{l:List Nat}(hr:Yz h0 h x l):x.len=l.length:=aL.len hr.ep
def aL.le{h h':Hp}{x:Sl}{l:List Nat}(hr:aL h x l)(hl:h.le h'):aL h' x l:=⟨hr.1.le hl,hr.2⟩
def aL.nil{h:Hp}:aL h zd []:=⟨Rd.nil,Jd _⟩
def aL.oX{h h':Hp}{b:Nat}{y:Sl}{l:List Nat}(hr:aL h y l)(hl:jH b h h')(cd:∀a,y.a=some a->a.block≠b):aL h' y l:=⟨hr.1.oX hl cd,hr.2⟩
def zki{h:Hp}{a:Addr}:∀{n:Nat} {l:List Value},Zp h a n=some l->∀m,m<=n->Zp h a m=some (l.take m)
 | 0,l,e,m,hm=>by
   obtain rfl:m=0:=zO;simp[Zp]
 | n+1,l,e,m,hm=>by
   have hl:=JZ e;by_cases h1:m=n+1;subst h1;rw[Je zO];exact e
   . unfold Zp at e;split at e
     . rename_i l1 h2;split at e
       . simp only[Js]at e;subst e;have aP:=JZ h2;rw[List.take_append_of_le_length zO];exact zki h2 m zO
       cases e
     cases e
def zj8{h:Hp}{a:Addr}{l:List Value}(H:∀i v,l[i]?=some v->h.cell (a.add i)=some v):∀n,n<=l.length->Zp h a n=some (l.take n)
 | 0,_=>by simp[Zp]
 | n+1,hn=>by
   unfold Zp;rw[zj8 H n zO];have h1:l[n]?=some l[n]:=Jp zO;simp only[H n _ h1];rw[Jc zO]
def Rd.cut{h:Hp}{x:Sl}{cs:List Value}(hr:Rd h 1 x cs)(lo hi:Nat)(h1:lo<=hi)(h2:hi<=cs.length)(h3:hi<=x.cap):Rd h 1 (x.cut lo hi 1) ((cs.drop lo).take (hi-lo)):=by
 have hlen:((cs.drop lo).take (hi-lo)).length=hi-lo:=by rw[Jk,Uv];omega
 refine⟨by rw[hlen];show(hi-lo)*1=_;omega,?_⟩;rw[hlen];by_cases h0:hi=lo
 . have:hi-lo=0:=zO;rw[this];cases(x.cut lo hi 1).a<;>simp[Zi,Zp]
 . have cd:x.cap≠lo:=zO;have ha:(x.cut lo hi 1).a=x.a.map (·.add (lo*1)):=by show(if x.cap=lo then _ else _)=_;rw[if_neg cd]
   rw[ha];have ei:=hr.2;cases kI:x.a with
   | none=>
     rw[kI]at ei;simp only[Zi]at ei;split at ei;omega;cases ei
   | some a=>
     rw[kI]at ei;simp only[Zi]at ei;show Zp h (a.add (lo*1)) (hi-lo)=_;have key:=zj8 (h:=h) (a:=a.add (lo*1)) (l:=cs.drop lo) (λi v hv=>by
      rw[Vw];refine C2 ei _ v ?_;rw[List.getElem?_drop]at hv;rw[U6];exact hv) (hi-lo) (by rw[Uv];omega)
     exact key
def aL.cut{h:Hp}{x:Sl}{l:List Nat}(hr:aL h x l)(lo hi:Nat)(h1:lo<=hi)(h2:hi<=l.length):aL h (x.cut lo hi 1) ((l.drop lo).take (hi-lo)):=by
 have hl:=hr.len;have hc:=hr.2;refine⟨?_,?_⟩
 . have:=hr.1.cut lo hi h1 (by rw[Bl];exact h2) zO;unfold wc at *;rw[List.map_take,List.map_drop];exact this
 show hi-lo<=x.cap-lo;omega
def Zp9{h:Hp}{x:Sl}{l:List Nat}{lo hi:Int}{K:Sl->Prop}(a b:Nat)(hr:aL h x l)(ha:lo=a)(hb:hi=b)(tI:a<=b)(wx:b<=l.length)
 (H:aL h (x.cut a b 1) ((l.drop a).take (b-a))->K (x.cut a b 1)):ca x lo hi 1 K:=by
 subst ha hb;have hl:=hr.len;have hc:=hr.2;exact⟨zO,zO,zO,H (hr.cut a b tI wx)⟩
def Zq{h:Hp}{x:Sl}{l:List Nat}{i:Int}{Ka:Addr->Prop}(k:Nat)(hr:aL h x l)(hi:i=k)(hk:k<l.length)
 (H:∀a,h.cell a=some (.int .u32 (l[k]:Int))->Ka a):zi x i 1 Ka:=
 rn k hr.1 hi (v:=.int .u32 (l[k]:Int)) (by simp[wc,hk]) H
def Vn{h0 h:Hp}{x:Sl}{l:List Nat}{i:Int}{v:Int}{K:Hp->Prop}(k n:Nat)(ho:Yz h0 h x l)(hi:i=k)(hk:k<l.length)(hv:v=n)
 (H:∀h' b,(∀a,x.a=some a->a.block=b)->h0 b=none->jH b h h'->Yz h0 h' x (l.set k n)->K h'):zi x i 1 λa=>bD a [.int .u32 v] K h:=by
 subst hv;refine Zpe k ho hi (by rw[ho.len];exact hk) rfl zD rfl λh' b h1 h2 h3 h4=>H h' b h1 h2 h3 ?_
 rw[Zxv hk]at h4;exact h4
def rC{h:Hp}{len cap:Int}{K:Sl->Hp->Prop}(l c:Nat)(hl:len=l)(hc:cap=c)(vS:l<=c)(hb:c<=35184372088832)
 (H:∀x h',x.len=l->Yz h h' x (Jl l 0)->K x h'):eW len cap 4 [.int .u32 0] K h:=by
 refine J' (size:=1) l c hl hc vS zO zO rfl λx h' hx _ ho=>H x h' hx ?_
 rw[Zxu]at ho;exact ho
def zyh{h0 h:Hp}{x:Sl}{l:List Nat}{v:Int}{K:Sl->Hp->Prop}(n:Nat)(ho:Yz h0 h x l)(hv:v=n)(hb:l.length<35184372088832)
 (H:∀y h',Yz h0 h' y (l++[n])->K y h'):Qg 1 4 [.int .u32 0] x 1 [.int .u32 v] K h:=by
 subst hv;have hl:=ho.len;refine pW ho (n:=1) rfl rfl rfl zO zO λy h' hy va=>H y h' ?_
 unfold Yz;rw[Zcf];exact hy
def iy{n:Nat}(h:n<18446744073709551616):u64.wrap (n:Int)=(n:Int):=Ol zO
def pZ(n:Nat):u32.wrap (n:Int)=((n % W:Nat):Int):=by
 simp[IntKind.wrap,T7,Tt,W]
def TK{n:Nat}(h:n<9223372036854775808):i64.wrap (n:Int)=(n:Int):=aM zO
def Dx(n:Nat):((n:Int)).fdiv (2 ^ (min (32:Int).toNat u64.bits))=((n/W:Nat):Int):=by
 have:(2:Int) ^ (min (32:Int).toNat u64.bits)=((4294967296:Nat):Int):=zD;rw[this];show((n:Int)).fdiv ((4294967296:Nat):Int)=((n/4294967296:Nat):Int);exact Int.ofNat_fdiv n 4294967296 |>.symm
def mac{c x y z:Nat}(hc:c<W)(hx:x<W)(hy:y<W)(hz:z<W) :
 u64.wrap ((c:Int)+u64.wrap (u64.wrap (u64.wrap (x:Int)*u64.wrap (y:Int))+u64.wrap (z:Int)))=((c+(x*y+z):Nat):Int):=by
 unfold W at *;have jC:x*y<=4294967295*4294967295:=Gt zO zO;rw[iy (n:=x) zO,iy (n:=y) zO,iy (n:=z) zO];rw[show((x:Int)*(y:Int))=((x*y:Nat):Int)by simp,iy (n:=x*y) zO];rw[show(((x*y:Nat):Int)+(z:Int))=((x*y+z:Nat):Int)by simp,iy (n:=x*y+z) zO];rw[show((c:Int)+((x*y+z:Nat):Int))=((c+(x*y+z):Nat):Int)by simp,iy zO]
def Zjh{c x y z:Nat}(hc:c<W)(hx:x<W)(hy:y<W)(hz:z<W):(c+(x*y+z))/W<W:=by
 rw[Ta Xi];unfold W at *;have jC:x*y<=4294967295*4294967295:=Gt zO zO;omega
end Den
end

section
namespace Den
open Go Iv
namespace Hp
def del(h:Hp)(b:Nat):Hp:=λk=>if k=b then none else h k
def one(h:Hp)(b:Nat):Hp:=λk=>if k=b then h k else none
def GM(h:Hp)(b:Nat):(h.del b).le h:=λk B hk=>by
 unfold del at hk;split at hk;cases hk;exact hk
def wy(h:Hp)(b:Nat):(h.del b) b=none:=by simp[del]
def gO(a b c:Hp):(a.add b).add c=a.add (b.add c):=by
 funext k;unfold add;cases a k<;>rfl
end Hp
def zyp{α:Type}{G:(α->Hp->Prop)->Hp->Prop}{K1 K:α->Hp->Prop}{D O:Hp}(hd:D.dj O)(H:za G K1 D)(k:∀v D',D.le D'->D'.dj O->K1 v D'->K v (D'.add O)):za G K (D.add O):=by
 obtain⟨D1,O1,Q,h1,h2,h3,h4⟩:=H;refine⟨D1,O1.add O,Q,?_,?_,h3,λv D' hq=>⟨(h4 v D' hq).1,λCW dY=>?_⟩⟩
 . intro k;rcases h1 k with h5 | h5
   exact .inl h5
   . rcases hd k with h6 | h6
     rw[h2]at h6;exact .inl (Li.1 h6).1;exact .inr (Li.2 ⟨h5,h6⟩)
 rw[h2,Hp.gO]
 . have h5:=h4 v D' hq;have TL:D'.dj O1:=λk=>by
    rcases CW k with h6 | h6
    exact .inl h6;exact .inr (Li.1 h6).1
   have aaN:(D'.add O1).dj O:=λk=>by
    rcases CW k with h6 | h6
    . rcases hd k with h7 | h7
      rw[h2]at h7;exact .inl (Li.2 ⟨h6,(Li.1 h7).2⟩);exact .inr h7
    exact .inr (Li.1 h6).2
   have TN:(D'.add O1).Fin:=Hp.Fin.sub dY λk hk=>by
    rw[<-Hp.gO]at hk;exact(Li.1 hk).1
   have h6:=h5.2 TL TN;rw[<-Hp.gO];refine k v _ ?_ aaN h6;rw[h2];exact Hp.nR h5.1 TL
end Den
end

section
namespace Den
open Go Iv
section
variable {l:List Nat}
def qA(y x:Sl):Prop:=∀a,y.a=some a->∃a',x.a=some a'/\a.block=a'.block
def qA.rfl{x:Sl}:qA x x:=λa ha=>⟨a,ha,Eq.refl _⟩
def qA.trans{x y z:Sl}(h1:qA x y)(h2:qA y z):qA x z:=λa ha=>by
 obtain⟨a',h3,h4⟩:=h1 a ha;obtain⟨a2,h5,h6⟩:=h2 a' h3;exact⟨a2,h5,h4.trans h6⟩
def qA.cut{x:Sl}{lo hi n:Nat}:qA (x.cut lo hi n) x:=λa ha=>by
 have j':(if x.cap=lo then x.a else x.a.map (·.add (lo*n)))=some a:=ha;split at j';exact⟨a,j',Eq.refl _⟩
 . cases hx:x.a with
   | none=>rw[hx]at j';cases j'
   | some a'=>
     rw[hx]at j';simp only[Option.map_some,Js]at j';subst j';exact⟨a',Eq.refl _,Qf _ _⟩
def zmz{Kf:Sl->Hp->Prop}(hr:aL h x l)(hl:l.length<4611686018427387904)(H:∀y,aL h y (Q1 l)->qA y x->Kf y h) :
 zx (S:=Sl×Unit) (λs1 k2 h1=>
  (zy (S:=Unit) (λs3 h2=>(ca s1.1 0 (i64.wrap ((s1.1.len:Int)-1)) 1 λc5=>(k2 (c5,()) h2)))
  (λk4=>(ak (decide ((s1.1.len:Int)>0)) (zi s1.1 (i64.wrap ((s1.1.len:Int)-1)) 1 λa6=>(aB (.int .u32) a6 (λx7=>(ak (x7==0) (k4 () h1) (Kf s1.1 h1))) h1)) (Kf s1.1 h1)))))
  (x,()) h:=by
 refine Za (λst h'=>h'=h/\∃(y:Sl) (k:Nat),st=(y,())/\k<=l.length/\aL h y (l.take k)/\Q1 (l.take k)=Q1 l/\qA y x) (λst=>st.1.len)
  ⟨rfl,x,l.length,rfl,Jd _,by rw[Je (Jd _)];exact hr,by rw[Je (Jd _)],qA.rfl⟩ ?_
 rintro st h' ⟨rfl,y,k,rfl,hk,hy,ht,dz⟩;have va:=hy.len;rw[Jk,Gh hk]at va;refine zj (λ_ h1=>h1=h'/\∃j,k=j+1/\∃hj:j<l.length,l[j]=0) ?_ ?_
 . rintro _ h1 ⟨rfl,j,rfl,hj,h0⟩;refine Zp9 0 j hy rfl (by simp only;rw[va,aM zO];omega) (Jt _) (by rw[Jk];omega) λhc=>?_
   have e:((l.take (j+1)).drop 0).take (j-0)=l.take j:=by
    rw[Tf,Nat.sub_zero,List.take_take];congr 1;omega
   rw[e]at hc;refine⟨⟨rfl,_,j,rfl,zO,hc,?_,qA.cut.trans dz⟩,?_⟩;rw[<-ht,Jc hj,h0,zhc];show j-0<y.len;omega
 . refine zg (λh1=>?_) (λh1=>?_)
   . simp only at h1;obtain⟨j,rfl⟩:∃j,k=j+1:=⟨k-1,zO⟩;have hj:j<l.length:=zO;refine Zq j hy (by simp only;rw[va,aM zO];omega) (by rw[Jk];omega) λa ha=>⟨_,ha,?_⟩
     have e:(l.take (j+1))[j]'(by rw[Jk];omega)=l[j]:=zS;rw[e];refine Zs (λh2=>⟨rfl,j,rfl,hj,zO⟩) (λh2=>?_);have h3:l[j]≠0:=zO;have:Q1 (l.take (j+1))=l.take (j+1):=by
      rw[Jc hj,zcl _ h3]
     rw[<-ht,this]at H;exact H y hy dz
   . simp only at h1;have:k=0:=zO;subst this;rw[<-ht]at H;exact H y hy dz
def jI(hr:aL h x l)(hl:l.length<4611686018427387904)(H:∀y,aL h y (Q1 l)->Ks y h):F.Zb x Ks h:=zmz hr hl λy hy _=>H y hy
def Zkn(hr:aL h x l)(hl:l.length<4611686018427387904)(H:∀y,aL h y (Q1 l)->Ks y h):F.Zz x Ks h:=zmz hr hl λy hy _=>H y hy
def zsa(hr:aL h x l)(hl:l.length<4611686018427387904)(H:∀y,aL h y (Q1 l)->qA y x->Ks y h):za (F.Zb x) Ks h:=
 zb (λy h'=>h'=h/\aL h y (Q1 l)/\qA y x) (λK' hk=>zmz hr hl λy hy hs=>hk y h (Jf _) ⟨rfl,hy,hs⟩) λy h' _ ⟨e,hy,hs⟩=>by subst e;exact H y hy hs
def zh1(hr:aL h x l)(hl:l.length<4611686018427387904)(H:∀y,aL h y (Q1 l)->qA y x->Ks y h):za (F.Zz x) Ks h:=zsa hr hl H
def Vu(hr:aL h x l)(hl:l.length<4611686018427387904)(H:∀y,aL h y (Q1 l)->Ks y h):za (F.Zb x) Ks h:=
 zb (λy h'=>h'=h/\aL h y (Q1 l)) (λK' hk=>jI hr hl λy hy=>hk y h (Jf _) ⟨rfl,hy⟩) λy h' _ ⟨e,hy⟩=>by subst e;exact H y hy
def Xe(hr:aL h x l)(hl:l.length<4611686018427387904)(H:∀y,aL h y (Q1 l)->Ks y h):za (F.Zz x) Ks h:=
 zb (λy h'=>h'=h/\aL h y (Q1 l)) (λK' hk=>Zkn hr hl λy hy=>hk y h (Jf _) ⟨rfl,hy⟩) λy h' _ ⟨e,hy⟩=>by subst e;exact H y hy
def Z82{Kf:Sl->Hp->Prop}{h0:Hp}{a b:Sl}{la lb:List Nat}(ha:aL h0 a la)(hb:aL h0 b lb)(oa:aX la)(ob:aX lb)(hl:la.length+lb.length<=35184372088800)
 (ho:Yz h0 h x (Jl (la.length+lb.length) 0)) (H:∀h' l,Yz h0 h' x l->aX l->l.length=la.length+lb.length->vl l=vl la*vl lb->Kf x h') :
 zx (S:=Int×Unit) (λs4 k5 h3=>
  (ak (decide (s4.1<(a.len:Int)))
  (zi a s4.1 1 λa6=>
  (aB (.int .u32) a6 (λx7=>
  (zx (S:=Int×Int×Unit) (λs8 k9 h4=>
  (ak (decide (s8.2.1<(b.len:Int)))
  (zi b s8.2.1 1 λfM=>
  (aB (.int .u32) fM (λgd=>
  (zi x (i64.wrap (s4.1+s8.2.1)) 1 λFA=>
  (aB (.int .u32) FA (λFB=>
  (zi x (i64.wrap (s4.1+s8.2.1)) 1 λAT=>
  (bD AT [.int .u32 (u32.wrap ((u64.wrap (s8.1+(u64.wrap ((u64.wrap ((u64.wrap (x7))*(u64.wrap (gd))))+(u64.wrap (FB))))))))] (λh5=>
  (0<=(32:Int) /\
  (k9 (((u64.wrap (s8.1+(u64.wrap ((u64.wrap ((u64.wrap (x7))*(u64.wrap (gd))))+(u64.wrap (FB)))))):Int).fdiv (2 ^ (min (32:Int).toNat u64.bits)),(i64.wrap (s8.2.1+1)),()) h5))) h4))) h4))) h4))
  (zi x (i64.wrap (s4.1+(b.len:Int))) 1 λiU=>
  (bD iU [.int .u32 (u32.wrap (s8.1))] (λh6=>
  (k5 ((i64.wrap (s4.1+1)),()) h6)) h4))))
  (0,0,()) h3)) h3))
  (Kf x h3)))
  (0,()) h:=by
 have hal:=ha.len;have wx:=hb.len;refine Za (λst h'=>∃(i:Nat) (l:List Nat),st=((i:Int),())/\i<=la.length/\Yz h0 h' x l/\aX l/\l.length=la.length+lb.length/\vl l=vl (la.take i)*vl lb/\∀j (hj:j<l.length),i+lb.length<=j->l[j]=0)
  (λst=>((la.length:Int)-st.1).toNat) ⟨0,_,rfl,Jt _,ho,tU _,zS,by rw[GL];simp[vl],λj hj _=>by simp⟩ ?_
 rintro st h1 ⟨i,l,rfl,hi,ib,TO,mF,hv,hz⟩;refine zg (λh2=>?_) (λh2=>?_)
 . simp only at h2;have aA:i<la.length:=zO;have Bm:=Qb oa aA;refine Zq i (ha.le ib.1) rfl aA λaa haa=>⟨_,haa,?_⟩
   refine Za (λst h'=>∃(k c:Nat) (l':List Nat),st=((c:Int),(k:Int),())/\k<=lb.length/\c<W/\Yz h0 h' x l'/\aX l'/\l'.length=la.length+lb.length /\
    vl l'+W ^ (i+k)*c=vl l+W ^ i*(la[i]*vl (lb.take k))/\∀j (hj:j<l'.length),i+lb.length<=j->l'[j]=0)
    (λst=>((lb.length:Int)-st.2.1).toNat) ⟨0,0,l,rfl,Jt _,zD,ib,TO,mF,by simp[vl],hz⟩ ?_
   rintro st h3 ⟨k,c,l',rfl,hk,hc,eX,rD,wA,nZ,qB⟩;refine zg (λh4=>?_) (λh4=>?_)
   . simp only at h4;have bP:k<lb.length:=zO;have TP:=Qb ob bP;have mJ:i+k<l'.length:=zO;have TQ:=Qb rD mJ;have wik:i64.wrap ((i:Int)+(k:Int))=((i+k:Nat):Int):=by rw[aM zO];omega
     refine Zq k (hb.le eX.1) rfl bP λa1 rE=>⟨_,rE,?_⟩
     simp only;rw[wik];refine Zq (i+k) eX.ep rfl mJ λa2 gP=>⟨_,gP,?_⟩
     simp only;rw[mac hc Bm TP TQ];refine Vn (i+k) _ eX rfl mJ (pZ _) λh5 b5 _ _ _ cV=>⟨zD,?_⟩
     rw[Dx];refine⟨⟨k+1,_,_,by rw[aM zO];rfl,zO,Zjh hc Bm TP TQ,cV,kX rD (Ga _ Xi),by simp[wA],?_,?_⟩,by rw[aM zO];omega⟩
     . have e1:=zE (l:=l') (k:=i+k) (v:=(c+(la[i]*lb[k]+l'[i+k])) % W) mJ;have e2:=Pv (c+(la[i]*lb[k]+l'[i+k])) W;have e3:=yu bP;rw[e3];generalize vl (l'.set (i+k) ((c+(la[i]*lb[k]+l'[i+k])) % W))=V at e1 |-
       generalize hr:(c+(la[i]*lb[k]+l'[i+k])) % W=r at *;generalize hq:(c+(la[i]*lb[k]+l'[i+k]))/W=q at *;generalize vl l'=V' at *;generalize vl l=V0 at *;generalize l'[i+k]=z at *;generalize la[i]=xx at *;generalize lb[k]=yy at *;generalize vl (lb.take k)=T at *;have p1:W ^ (i+(k+1))=W ^ (i+k)*W:=by rw[<-Nat.add_assoc,Uc]
       have p2:W ^ (i+k)=W ^ i*W ^ k:=Gm ..;rw[p1];generalize W ^ (i+k)=P at *;subst p2;generalize W ^ i=Pi at *;generalize W ^ k=Pk at *
       grind
     . intro j hj TR;rw[List.length_set]at hj;rw[Lu zO];exact qB j hj TR
   . simp only at h4;have bP:k=lb.length:=zO;subst bP;have vb:i+lb.length<l'.length:=zO;have w1:i64.wrap ((i:Int)+(b.len:Int))=((i+lb.length:Nat):Int):=by rw[wx,aM zO];omega
     simp only;rw[w1];refine Vn (i+lb.length) c eX rfl vb (by rw[pZ,Ui hc]) λh5 b5 _ _ _ cV=>?_
     refine⟨⟨i+1,_,by rw[aM zO];rfl,zO,cV,kX rD hc,by simp[wA],?_,?_⟩,by rw[aM zO];omega⟩
     . have e1:=zE (l:=l') (k:=i+lb.length) (v:=c) vb;rw[qB _ vb (Jd _)]at e1;rw[Je (Jd _)]at nZ;rw[yu aA,J9];rw[J6];omega
     . intro j hj TR;rw[List.length_set]at hj;rw[Lu zO];exact qB j hj zO
 . simp only at h2;have:i=la.length:=zO;subst this;rw[Je (Jd _)]at hv;exact H h1 l ib TO mF hv
end
end Den
end

section
namespace Den
open Go Iv
def LD{α:Type}{G:(α->Hp->Prop)->Hp->Prop}{K:α->Hp->Prop}{h:Hp}(R:α->Prop)(H:∀K':α->Hp->Prop,(∀v,R v->K' v h)->G K' h)(k:∀v,R v->K v h):za G K h:=
 zb (λv h'=>h'=h/\R v) (λK' hk=>H K' λv hv=>hk v h (Jf _) ⟨rfl,hv⟩) λv h' _ ⟨e,hv⟩=>by subst e;exact k v hv
def mi(m n:Nat):Int:=if m<n then -1 else if n<m then 1 else 0
def sg(neg:Bool)(n:Nat):Int:=if neg=true then -(n:Int)else n
def NI(h:Hp)(x:aE)(n:Int):Prop:=aL h x.ah (dg n.natAbs)/\x.neg=decide (n<0)
def NI.le{h h':Hp}{x:aE}{n:Int}(hx:NI h x n)(hl:h.le h'):NI h' x n:=⟨hx.1.le hl,hx.2⟩
def NI.zero{h:Hp}:NI h ⟨false,zd⟩ 0:=⟨by rw[show(0:Int).natAbs=0 from rfl,qe];exact aL.nil,zS⟩
def TT:∀{a b:List Nat} (i:Nat),aX a->aX b->a.length=b.length->(hi:i<a.length)->(aA:i<b.length)->a.drop (i+1)=b.drop (i+1)->a[i]<b[i]->vl a<vl b
 | [],_,i,_,_,_,hi,_,_,_=>by simp at hi
 | x :: r,[],i,_,_,hl,_,_,_,_=>by simp at hl
 | x :: r,y :: t,0,ha,hb,hl,hi,aA,hd,hlt=>by
   simp only[Nat.zero_add,List.drop_succ_cons,Tf]at hd;subst hd;simp only[List.getElem_cons_zero]at hlt;simp only[vl];omega
 | x :: r,y :: t,i+1,ha,hb,hl,hi,aA,hd,hlt=>by
   obtain⟨hx,hr⟩:=zop ha;obtain⟨hy,ht⟩:=zop hb;have:=TT (a:=r) (b:=t) i hr ht (by simpa using hl) (by simpa using hi) (by simpa using aA) (by simpa using hd) (by simpa using hlt);simp only[vl];have h2:W*(vl r+1)<=W*vl t:=Jr _ this;rw[U5]at h2;omega
def zhn{m n:Nat}(h:(dg m).length<(dg n).length):m<n:=by
 rcases Jx m n with h1 | h1
 exact h1
 . exfalso;have h2:=yj.1 (Jd (dg m).length);have h3:(dg n).length<=(dg m).length:=yj.2 (U7 h1 h2);omega
section
variable {l:List Nat}
def Bn(neg:Bool)(n:Nat):(sg neg n).natAbs=n:=by unfold sg;split<;>simp
def Zc5{neg:Bool}(hr:aL h x l)(ok:aX l)(hl:l.length<4611686018427387904)(H:∀y,NI h y (sg neg (vl l))->KI y h):F.Zy neg x KI h:=by
 unfold F.Zy;refine Vu hr hl λy hy=>?_
 rw[Yj ok]at hy;have va:=hy.len;refine Zs (λh1=>?_) (λh1=>?_)
 . have h0:vl l=0:=sH.1 (Ju.1 zO);refine H _ ?_;rw[h0];have:sg neg 0=0:=by unfold sg;split<;>rfl
   rw[this];exact NI.zero
 . refine H _ ⟨by rw[Bn];exact hy,?_⟩;have cI:vl l≠0:=λh0=>by rw[h0,qe]at va;exact h1 (by rw[va];rfl)
   unfold sg;cases neg;simp;simp;omega
def Z6o{neg:Bool}(hr:aL h x l)(ok:aX l)(hl:l.length<4611686018427387904)(H:∀y,NI h y (sg neg (vl l))->KI y h):F.Yd neg x KI h:=by
 unfold F.Yd;refine Xe hr hl λy hy=>?_
 rw[Yj ok]at hy;have va:=hy.len;have hz:(vl l=0)↔(dg (vl l)).length=0:=by rw[Ju,sH]
 refine Zw (λh1=>?_) (λh1=>?_)
 . refine H _ ⟨by rw[Bn];exact hy,?_⟩;rw[h1];unfold sg;simp only[if_true];congr 1;apply propext;omega
 . refine H _ ⟨by rw[Bn];exact hy,?_⟩;rw[h1];unfold sg;simp
def zc5{neg:Bool}(hr:aL h x l)(ok:aX l)(hl:l.length<4611686018427387904)(H:∀y,NI h y (sg neg (vl l))->KI y h):za (F.Zy neg x) KI h:=
 LD _ (λK'=>Zc5 hr ok hl) H
def zlb{neg:Bool}(hr:aL h x l)(ok:aX l)(hl:l.length<4611686018427387904)(H:∀y,NI h y (sg neg (vl l))->KI y h):za (F.Yd neg x) KI h:=
 LD _ (λK'=>Z6o hr ok hl) H
def ze0(hr:aL h x l)(hl:l.length<=35184372088800)(H:∀y h',h.le h'->aL h' y l->Ks y h'):za (F.Zd x) Ks h:=by
 refine zb _ (λK' hk=>?_) H;unfold F.Zd;have hlen:=hr.len;refine Zw (λh1=>?_) (λh1=>?_)
 . have hn:x.a=none:=by cases hx:x.a with | none=>rfl | some a=>rw[hx]at h1;cases h1
   have:l=[]:=by
    have h2:=hr.1.2;rw[hn]at h2;simp only[Zi]at h2;split at h2;rename_i h3;rw[Bl]at h3;exact Ju.1 h3;cases h2
   subst this;exact hk _ _ (Jf _) aL.nil
 . refine Qv (n:=0) (size:=1) rfl λb h1 hb ho=>?_
   have eF:=hr.le ho.1;refine⟨wc l,?_,?_⟩
   . have:=eF.1.2;rw[Bl]at this;rw[hlen,U6];exact this
   . refine pW ho (n:=x.len) (by rw[Bl];omega) rfl ?_ (by simp only;omega) (by simp only;omega) λy h2 hy _=>hk _ _ hy.1 ⟨hy.rd,hy.2.2.1⟩
     simp[wc,Value.leaf]
def zze{n:Nat}(hn:n<18446744073709551616)(H:∀y h',h.le h'->aL h' y (dg n)->Ks y h'):F.Yo n Ks h:=by
 unfold F.Yo;refine⟨zD,?_⟩;rw[pZ,Dx,pZ];have hq:n/W<W:=by unfold W;omega
 rw[Ui hq];refine Qv (n:=2) (size:=1) rfl λb h1 hb ho=>?_
 have mh:Yz h h1 ⟨some ⟨b,0,none⟩,2,2⟩ [n % W,n/W]:=ho;have ok:aX [n % W,n/W]:=λd hd=>by
  simp only[Gk,List.not_mem_nil,or_false]at hd;rcases hd with rfl | rfl
  exact Ga _ Xi;exact hq
 refine Vu mh.ep zS λy hy=>?_
 rw[Yj ok]at hy;have:vl [n % W,n/W]=n:=by simp only[vl,Tv,G0];exact Pv n W
 rw[this]at hy;exact H _ _ ho.1 hy
def TU{n:Nat}{i:Int}(hi:i=n)(hn:n<18446744073709551616)(H:∀y h',h.le h'->aL h' y (dg n)->Ks y h'):za (F.Yo i) Ks h:=by
 subst hi;exact zb _ (λK'=>zze hn) H
def Znq{n:Nat}(hn:n<18446744073709551616)(H:∀y h',h.le h'->aL h' y (dg n)->Ks y h'):F.A1 n Ks h:=by
 unfold F.A1;refine⟨zD,?_⟩;rw[pZ,Dx,pZ];have hq:n/W<W:=by unfold W;omega
 rw[Ui hq];refine Qv (n:=2) (size:=1) rfl λb h1 hb ho=>?_
 have mh:Yz h h1 ⟨some ⟨b,0,none⟩,2,2⟩ [n % W,n/W]:=ho;have ok:aX [n % W,n/W]:=λd hd=>by
  simp only[Gk,List.not_mem_nil,or_false]at hd;rcases hd with rfl | rfl
  exact Ga _ Xi;exact hq
 refine Xe mh.ep zS λy hy=>?_
 rw[Yj ok]at hy;have:vl [n % W,n/W]=n:=by simp only[vl,Tv,G0];exact Pv n W
 rw[this]at hy;exact H _ _ ho.1 hy
def TV{n:Nat}{i:Int}(hi:i=n)(hn:n<18446744073709551616)(H:∀y h',h.le h'->aL h' y (dg n)->Ks y h'):za (F.A1 i) Ks h:=by
 subst hi;exact zb _ (λK'=>Znq hn) H
def GN{a b:Nat}(ha:a<W)(hb:b<W):Yw .or .u64 (u64.wrap ((a:Int)*2 ^ (min (32:Int).toNat u64.bits))) (u64.wrap (b:Int))=((a*W+b:Nat):Int):=by
 have e1:((a:Int)*2 ^ (min (32:Int).toNat u64.bits))=((a*W:Nat):Int):=by
  have:(2:Int) ^ (min (32:Int).toNat u64.bits)=((W:Nat):Int):=zD;rw[this];simp
 unfold W at *;rw[e1,iy (n:=a*4294967296) zO,iy (n:=b) zO];unfold Yw;simp only[Tt];have h1:(Ld 64 ((a*4294967296:Nat):Int) ||| Ld 64 (b:Int)).toNat=a*4294967296+b:=by
  rw[Pe,Pe,BitVec.toNat_or,Pf,Pf,Ui zO,Ui zO];have:=Nat.two_pow_add_eq_or_of_lt (i:=32) (b:=b) zO a;rw[J4 (2 ^ 32) a]at this;exact this.symm
 exact(congrArg (λz:Nat=>u64.wrap (z:Int)) h1).trans (iy zO)
def Zcb(hr:aL h x l)(ok:aX l)(hl:l.length<=2)(H:∀h',h.le h'->Ki (vl l:Int) h'):F.Xu x Ki h:=by
 unfold F.Xu;refine zb (λ(a:Addr) h'=>h'.cell a=some (.slice x.a x.len x.cap)) (λK' hk=>?_) λa h1 l1 ha=>?_
 . unfold F.yn;intro b e hb;refine hk _ _ (Hp.cH hb) ?_;unfold Hp.cell;simp[Hp.cD]
 . have hlen:=hr.len;refine⟨x,λk s h'=>h1.le h'/\k<=l.length/\s=((((vl (l.drop k):Nat):Int),()),()),zO,⟨Jf _,zO,?_⟩,λi s h' hI=>?_,λi s h' hi hI=>?_,λs h' hI=>?_⟩;rw[hlen,G7 (Jd _)];rfl;exact Hp.ia hI.1 ha
   . obtain⟨rb,hk,rfl⟩:=hI;have aA:i<l.length:=zO;have vd:=(hr.le l1).le rb;have h2:=vd.1.2;cases kI:x.a with
     | none=>
       rw[kI]at h2;simp only[Zi]at h2;split at h2;rename_i h3;rw[Bl]at h3;omega;cases h2
     | some ad=>
       rw[kI]at h2;simp only[Zi]at h2;have Bm:=Qb ok aA;refine⟨ad,(l[i]:Int),rfl,λj u hj=>?_,zD,rb,zO,?_⟩
       . have hj0:j=0:=by
          rcases Gs j with h3 | h3
          exact h3
          . exfalso;have:((dp.leaf (.int .u32)).cells (l[i]:Int))[j]?=none:=by
             apply G3;simp only[dp.cells,List.length_singleton];omega
            rw[this]at hj;cases hj
         subst hj0;simp only[dp.cells,List.getElem?_cons_zero,Js]at hj;subst hj;refine C2 h2 _ _ ?_;simp[wc,dp.size,aA,Lf.up]
       . have hd:l.drop i=l[i] :: l.drop (i+1):=Uf aA;rw[hd];simp only[vl];have hsm:vl (l.drop (i+1))<W:=by
          have:=sI (GK ok (i+1));rw[Uv]at this;refine Tc this ?_;have h3:l.length-(i+1)<=1:=zO;exact Jo (Jz Xi h3) zS
         rw[GN hsm Bm];congr 2;congr 1;rw[J4];omega
   . obtain⟨rb,hk,rfl⟩:=hI;exact H _ (Hp.le_trans l1 rb)
def zc9(hr:aL h x l)(ok:aX l)(hl:l.length<=2)(H:∀h',h.le h'->Ki (vl l:Int) h'):za (F.Xu x) Ki h:=
 zb (λv _=>v=(vl l:Int)) (λK' hk=>Zcb hr ok hl λh' rb=>hk _ _ rb rfl) λv h' rb hv=>by subst hv;exact H h' rb
def Zkw(hr:aL h x l)(ok:aX l)(hl:l.length<=2)(H:Ki (vl l:Int) h):F.Kj x Ki h:=by
 unfold F.Kj;have hlen:=hr.len;refine Za (λst h'=>h'=h/\∃k:Nat,k<=l.length/\st=(((vl (l.drop k):Nat):Int),(k:Int)-1,())) (λst=>(st.2.1+1).toNat)
  ⟨rfl,l.length,Jd _,by rw[G7 (Jd _),hlen,aM zO];rfl⟩ ?_
 rintro st h' ⟨rfl,k,hk,rfl⟩;refine zg (λh1=>?_) (λh1=>?_)
 . simp only at h1;obtain⟨i,rfl⟩:∃i,k=i+1:=⟨k-1,zO⟩;have aA:i<l.length:=zO;have Bm:=Qb ok aA;refine⟨zD,Zq i hr (by simp only;omega) aA λa ha=>⟨_,ha,?_⟩⟩;have hsm:vl (l.drop (i+1))<W:=by
    have:=sI (GK ok (i+1));rw[Uv]at this;refine Tc this ?_;have h3:l.length-(i+1)<=1:=zO;exact Jo (Jz Xi h3) zS
   simp only;rw[GN hsm Bm];refine⟨⟨by trivial,i,zO,?_⟩,by rw[aM zO];omega⟩;rw[Uf aA,aM zO];simp only[vl];congr 1;congr 1;rw[J4];omega;congr 1;omega
 . simp only at h1;obtain rfl:k=0:=zO;exact H
def zrr(hr:aL h x l)(ok:aX l)(hl:l.length<=2)(H:Ki (vl l:Int) h):za (F.Kj x) Ki h:=zw _ (λK'=>Zkw hr ok hl) H
def znb{a b:Int}(H:Ki (if a<b then -1 else if b<a then 1 else 0) h):za (F.Oo a b) Ki h:=by
 refine zw _ (λK' hk=>?_) H;unfold F.Oo;have e:∀z:Int,(z != z)=false:=λz=>by simp
 refine zw false (λK' hk=>by unfold F.On;rw[e];exact hk) (zw false (λK' hk=>by unfold F.On;rw[e];exact hk) ?_);refine zc rfl (zc rfl (zg (λh1=>?_) (λh1=>zg (λh2=>?_) (λh2=>?_))));rw[if_pos h1]at hk;exact hk;rw[if_neg h1,if_pos h2]at hk;exact hk;rw[if_neg h1,if_neg h2]at hk;exact hk
def zys{a b:Int}(H:Ki (if a<b then -1 else if b<a then 1 else 0) h):za (F.z1j a b) Ki h:=by
 refine zw _ (λK' hk=>?_) H;unfold F.z1j;have e:∀z:Int,(z != z)=false:=λz=>by simp
 refine zw false (λK' hk=>by unfold F.Oq;rw[e];exact hk) (zw false (λK' hk=>by unfold F.Oq;rw[e];exact hk) ?_);refine zc rfl (zc rfl (zg (λh1=>?_) (λh1=>zg (λh2=>?_) (λh2=>?_))));rw[if_pos h1]at hk;exact hk;rw[if_neg h1,if_pos h2]at hk;exact hk;rw[if_neg h1,if_neg h2]at hk;exact hk
def Z3f{m n:Nat}(hx:aL h x (dg m))(hy:aL h y (dg n))(hl:(dg m).length<4611686018427387904)(bH:(dg n).length<4611686018427387904)(H:Ki (mi m n) h):F.Q5 x y Ki h:=by
 unfold F.Q5;have lx:=hx.len;have ly:=hy.len;refine oB (λh1=>?_) (λh1=>?_)
 . refine znb ?_;unfold mi at H;by_cases h2:(dg m).length<(dg n).length
   . rw[if_pos (zhn h2)]at H;rw[if_pos zO];exact H
   . have h3:(dg n).length<(dg m).length:=zO;have h4:=zhn h3;rw[if_neg zO,if_pos h4]at H;rw[if_neg zO,if_pos zO];exact H
 . have mF:(dg m).length=(dg n).length:=zO;refine Za (λst h'=>h'=h/\∃k:Nat,st=((k:Int)-1,())/\k<=(dg m).length/\(dg m).drop k=(dg n).drop k) (λst=>(st.1+1).toNat)
    ⟨rfl,(dg m).length,by rw[lx,aM zO],Jd _,by rw[G7 (Jd _),G7 zO]⟩ ?_
   rintro st h' ⟨rfl,k,rfl,hk,hd⟩;refine zg (λh2=>?_) (λh2=>?_)
   . simp only at h2;obtain⟨i,rfl⟩:∃i,k=i+1:=⟨k-1,zO⟩;have hi:i<(dg m).length:=zO;have aA:i<(dg n).length:=zO;refine Zq i hx (by simp only;omega) hi λa ha=>⟨_,ha,?_⟩
     refine Zq i hy (by simp only;omega) aA λa ha=>⟨_,ha,?_⟩
     refine oB (λh3=>?_) (λh3=>?_)
     . refine Zq i hx (by simp only;omega) hi λa ha=>⟨_,ha,?_⟩
       refine Zq i hy (by simp only;omega) aA λa ha=>⟨_,ha,?_⟩
       refine zys ?_;unfold mi at H;by_cases h4:(dg m)[i]<(dg n)[i]
       . have:=TT i (Zu m) (Zu n) mF hi aA hd h4;rw[Zk,Zk]at this;rw[if_pos this]at H;rw[if_pos zO];exact H
       . have h5:(dg n)[i]<(dg m)[i]:=zO;have:=TT i (Zu n) (Zu m) mF.symm aA hi hd.symm h5;rw[Zk,Zk]at this;rw[if_neg zO,if_pos this]at H;rw[if_neg zO,if_pos zO];exact H
     . refine⟨⟨rfl,i,by simp only;rw[aM zO];congr 1;omega,zO,?_⟩,by simp only;rw[aM zO];omega⟩;rw[Uf hi,Uf aA,hd];congr 1;omega
   . simp only at h2;obtain rfl:k=0:=zO;simp only[Tf]at hd;have:m=n:=by rw[<-Zk m,<-Zk n,hd]
     subst this;unfold mi at H;rw[if_neg (Nat.lt_irrefl _),if_neg (Nat.lt_irrefl _)]at H;exact H
def TX{m n:Nat}(hx:aL h x (dg m))(hy:aL h y (dg n))(hl:(dg m).length<4611686018427387904)(bH:(dg n).length<4611686018427387904)(H:Ki (mi m n) h):za (F.Q5 x y) Ki h:=
 zw _ (λK'=>Z3f hx hy hl bH) H
def Z0d{m n:Nat}(hx:aL h x (dg m))(hy:aL h y (dg n))(hl:(dg m).length<4611686018427387904)(bH:(dg n).length<4611686018427387904)(H:Ki (mi m n) h):F.Wy x y Ki h:=by
 unfold F.Wy;have lx:=hx.len;have ly:=hy.len;refine oB (λh1=>?_) (λh1=>?_)
 . unfold mi at H;refine zg (λh2=>?_) (λh2=>?_)
   . have mC:=Int.ofNat_lt.1 h2;rw[if_pos (zhn zO)]at H;exact H
   . have mC:¬x.len<y.len:=λhh=>h2 (Int.ofNat_lt.2 hh)
     have h3:(dg n).length<(dg m).length:=zO;have h4:=zhn h3;rw[if_neg zO,if_pos h4]at H;exact H
 . have mF:(dg m).length=(dg n).length:=zO;refine Za (λst h'=>h'=h/\∃k:Nat,st=((k:Int)-1,())/\k<=(dg m).length/\(dg m).drop k=(dg n).drop k) (λst=>(st.1+1).toNat)
    ⟨rfl,(dg m).length,by rw[lx,aM zO],Jd _,by rw[G7 (Jd _),G7 zO]⟩ ?_
   rintro st h' ⟨rfl,k,rfl,hk,hd⟩;refine zg (λh2=>?_) (λh2=>?_)
   . simp only at h2;obtain⟨i,rfl⟩:∃i,k=i+1:=⟨k-1,zO⟩;have hi:i<(dg m).length:=zO;have aA:i<(dg n).length:=zO;refine Zq i hx (by simp only;omega) hi λa ha=>⟨_,ha,?_⟩
     refine Zq i hy (by simp only;omega) aA λa ha=>⟨_,ha,?_⟩
     unfold mi at H;refine zg (λh3=>?_) (λh3=>?_)
     . have:=TT i (Zu m) (Zu n) mF hi aA hd (Int.ofNat_lt.1 h3);rw[Zk,Zk]at this;rw[if_pos this]at H;exact H
     . refine Zq i hx (by simp only;omega) hi λa ha=>⟨_,ha,?_⟩
       refine Zq i hy (by simp only;omega) aA λa ha=>⟨_,ha,?_⟩
       refine zg (λh4=>?_) (λh4=>?_)
       . have:=TT i (Zu n) (Zu m) mF.symm aA hi hd.symm (Int.ofNat_lt.1 h4);rw[Zk,Zk]at this;rw[if_neg zO,if_pos this]at H;exact H
       . have h3':¬(dg m)[i]<(dg n)[i]:=λhh=>h3 (Int.ofNat_lt.2 hh)
         have h4':¬(dg n)[i]<(dg m)[i]:=λhh=>h4 (Int.ofNat_lt.2 hh)
         refine⟨⟨rfl,i,by simp only;rw[aM zO];congr 1;omega,zO,?_⟩,by simp only;rw[aM zO];omega⟩;rw[Uf hi,Uf aA,hd];congr 1;omega
   . simp only at h2;obtain rfl:k=0:=zO;simp only[Tf]at hd;have:m=n:=by rw[<-Zk m,<-Zk n,hd]
     subst this;unfold mi at H;rw[if_neg (Nat.lt_irrefl _),if_neg (Nat.lt_irrefl _)]at H;exact H
def z8d{m n:Nat}(hx:aL h x (dg m))(hy:aL h y (dg n))(hl:(dg m).length<4611686018427387904)(bH:(dg n).length<4611686018427387904)(H:Ki (mi m n) h):za (F.Wy x y) Ki h:=
 zw _ (λK'=>Z0d hx hy hl bH) H
end
end Den
end

section
namespace Den
open Go Iv
def ve(n:Int):u64.wrap n=n % 18446744073709551616:=by simp[IntKind.wrap,T7,Tt]
def LF(n:Int):u32.wrap n=n % 4294967296:=by simp[IntKind.wrap,T7,Tt]
def Zoh(n:Int):n.fdiv (2 ^ (min (63:Int).toNat u64.bits))=n/9223372036854775808:=by
 have e:(2:Int) ^ (min (63:Int).toNat u64.bits)=9223372036854775808:=zD;rw[e,Int.fdiv_eq_ediv_of_nonneg _ zD]
def Zyj(n:Int):n.fdiv (2 ^ (min (32:Int).toNat u64.bits))=n/4294967296:=by
 have e:(2:Int) ^ (min (32:Int).toNat u64.bits)=4294967296:=zD;rw[e,Int.fdiv_eq_ediv_of_nonneg _ zD]
def Zzb{x c y:Nat}(hx:x<W)(hc:c<=1)(hy:y<W):∃r b:Nat,r<W/\b<=1/\x+W*b=r+c+y /\
 u32.wrap (u64.wrap (u64.wrap (u64.wrap (x:Int)-(c:Int))-u64.wrap (y:Int)))=(r:Int) /\
 (u64.wrap (u64.wrap (u64.wrap (x:Int)-(c:Int))-u64.wrap (y:Int))).fdiv (2 ^ (min (63:Int).toNat u64.bits))=(b:Int):=by
 unfold W at *;rw[Zoh];simp only[ve,LF];by_cases h:c+y<=x;exact⟨x-c-y,0,zO,zO,zO,zO,zO⟩;exact⟨x+4294967296-c-y,1,zO,zO,zO,zO,zO⟩
def GO{x c:Nat}(hx:x<W)(hc:c<=1):∃r b:Nat,r<W/\b<=1/\x+W*b=r+c+0 /\
 u32.wrap (u64.wrap (u64.wrap (x:Int)-(c:Int)))=(r:Int) /\
 (u64.wrap (u64.wrap (x:Int)-(c:Int))).fdiv (2 ^ (min (63:Int).toNat u64.bits))=(b:Int):=by
 unfold W at *;rw[Zoh];simp only[ve,LF];by_cases h:c<=x;exact⟨x-c,0,zO,zO,zO,zO,zO⟩;exact⟨x+4294967296-c,1,zO,zO,zO,zO,zO⟩
def Zza{x c y:Nat}(hx:x<W)(hc:c<=1)(hy:y<W):∃r b:Nat,r<W/\b<=1/\x+W*b=r+c+y /\
 u32.wrap (u64.wrap (u64.wrap (u64.wrap (u64.wrap (x:Int)+4294967296)-(y:Int))-(c:Int)))=(r:Int) /\
 u64.wrap (1-(u64.wrap (u64.wrap (u64.wrap (u64.wrap (x:Int)+4294967296)-(y:Int))-(c:Int))).fdiv (2 ^ (min (32:Int).toNat u64.bits)))=(b:Int):=by
 unfold W at *;rw[Zyj];simp only[ve,LF];by_cases h:c+y<=x;exact⟨x-c-y,0,zO,zO,zO,zO,zO⟩;exact⟨x+4294967296-c-y,1,zO,zO,zO,zO,zO⟩
def nK(h:Hp)(z:Sl):Prop:=∀a,z.a=some a->h a.block=none
def nK.of{h h':Hp}{w z:Sl}{cs:List Value}(ho:Own h h' 1 w cs)(hs:qA z w):nK h z:=λa ha=>by
 obtain⟨a',h1,h2⟩:=hs a ha;have h4:=ho.2.2.2;rw[h1]at h4;rw[h2];exact h4.2.2.1
def Hp.df{h h':Hp}{b:Nat}(hl:h.le h')(hb:h' b=none):h b=none:=by
 cases hk:h b with
 | none=>rfl
 | some B=>rw[hl _ _ hk]at hb;cases hb
def nK.le{h h':Hp}{z:Sl}(hf:nK h' z)(hl:h.le h'):nK h z:=λa ha=>Hp.df hl (hf a ha)
def nK.ne{h:Hp}{z:Sl}{b:Nat}(hf:nK h z)(hb:h b≠none):∀a,z.a=some a->a.block≠b:=λa ha hh=>hb (by rw[<-hh];exact hf a ha)
def Vx{l:List Nat}(hl:aX l)(i:Nat):l.getD i 0<W:=by
 rw[Uj];rcases Jx i l.length with h | h
 rw[Jp h];exact Qb hl h;rw[G3 h];exact Xi
def Bo{l:List Nat}{i:Nat}(hi:i<l.length):l.getD i 0=l[i]:=by
 rw[Uj,Jp hi];rfl
def Bp{l:List Nat}{i:Nat}(hi:l.length<=i):l.getD i 0=0:=by
 rw[Uj,G3 hi];rfl
def Dy(l:List Nat)(i:Nat):vl (l.take (i+1))=vl (l.take i)+W ^ i*l.getD i 0:=by
 rcases Jx i l.length with h | h
 rw[yu h,Bo h];rw[Bp h,Je zO,Je h];simp
def Dz{r:List Nat}{k v:Nat}(hk:k<r.length):vl ((r.set k v).take (k+1))=vl (r.take k)+W ^ k*v:=by
 rw[yu (by simpa using hk),Lk];congr 2;apply List.ext_getElem;simp
 . intro i h1 h2;simp only[Jk]at h1 h2;simp only[List.getElem_take];rw[Lu zO]
section
variable {l:List Nat}
def Zp4(hx:aL h x l)(hy:aL h y m)(ol:aX l)(om:aX m)(hl:l.length<=17592186044400)(hm:m.length<=17592186044400)
 (H:∀z h' r,h.le h'->aL h' z r->aX r->vl r=vl l+vl m->r.length<=l.length+m.length+1->Ks z h'):F.FD x y Ks h:=by
 unfold F.FD;have lx:=hx.len;have ly:=hy.len;refine zj (λst h'=>h'=h/\∃p q,aL h st.1 p/\aL h st.2.1 q/\aX p/\aX q/\q.length<=p.length/\p.length+q.length=l.length+m.length/\vl p+vl q=vl l+vl m) ?_ ?_
 . rintro⟨sx,sy,_⟩ h0 ⟨rfl,p,q,hp,hq,op,oq,hqp,hlen,hv⟩;simp only at hp hq |-
   have lp:=hp.len;have lq:=hq.len;refine rC 0 (p.length+1) rfl (by rw[lp,aM zO];omega) zO zO λw h1 hw dE=>?_
   refine Za (λst h'=>∃(w:Sl) (c i:Nat) (r:List Nat),st=(w,(c:Int),(i:Int),())/\i<=p.length/\c<=1/\Yz h0 h' w r/\aX r/\r.length=i/\vl r+W ^ i*c=vl (p.take i)+vl (q.take i))
    (λst=>((p.length:Int)-st.2.2.1).toNat) ⟨w,0,0,[],rfl,Jt _,zO,dE,Zsy,rfl,by simp[vl]⟩ ?_
   rintro st h2 ⟨w,c,i,r,rfl,hi,hc,ho,dJ,dG,jh⟩;refine zg (λh3=>?_) (λh3=>?_)
   . have aA:i<p.length:=by have:(i:Int)<(sx.len:Int):=h3;omega
     have hpx:=Qb op aA;have hqx:=Vx oq i;refine Zq i (hp.le ho.1) rfl aA λa ha=>⟨_,ha,?_⟩
     refine zj (λs h4=>h4=h2/\s=(((c+p[i]+q.getD i 0:Nat):Int),())) ?_ ?_
     . rintro _ h4 ⟨rfl,rfl⟩;simp only;refine zyh _ ho (pZ _) zO λw5 h5 cV=>⟨zD,?_⟩
       rw[Dx];refine⟨⟨w5,_,i+1,_,by rw[aM zO];rfl,zO,?_,cV,zmk dJ (λd hd=>?_),by simp[dG],?_⟩,by rw[aM zO];omega⟩;unfold W at *;omega;rw[Uz.1 hd];exact Ga _ Xi
       . rw[LC,yu aA,Dy,dG];have e2:=Pv (c+p[i]+q.getD i 0) W;simp only[vl,Tv,G0,Uc];generalize (c+p[i]+q.getD i 0) % W=rr at *;generalize (c+p[i]+q.getD i 0)/W=qq at *;generalize W ^ i=P at *;generalize p[i]=pp at *;generalize q.getD i 0=q0 at *;generalize vl (p.take i)=A at *;generalize vl (q.take i)=B at *;generalize vl r=R at *;clear H
         grind
     . refine zg (λh4=>?_) (λh4=>?_)
       . have da:i<q.length:=by have:(i:Int)<(sy.len:Int):=h4;omega
         refine Zq i (hq.le ho.1) rfl da λa2 gP=>⟨_,gP,?_⟩
         refine⟨rfl,?_⟩;rw[Bo da]at hqx |-
         simp only;unfold W at *;congr 1;simp only[ve];omega
       . have da:q.length<=i:=by have:¬(i:Int)<(sy.len:Int):=h4;omega
         refine⟨rfl,?_⟩;rw[Bp da];simp only;unfold W at *;congr 1;simp only[ve];omega
   . have aA:i=p.length:=by have:¬(i:Int)<(sx.len:Int):=h3;omega
     rw[Je zO,Je zO]at jh;refine zg (λh4=>?_) (λh4=>?_)
     . have AS:c=1:=by have:(c:Int)>0:=h4;omega
       subst AS;refine zyh 1 ho (by simp only;decide) zO λw5 h5 cV=>?_
       refine H _ _ _ cV.1 cV.ep (zmk dJ (λd hd=>by rw[Uz.1 hd];decide)) ?_ (by simp;omega);rw[LC,dG];simp only[vl,Tv,G0];omega
     . have mD:c=0:=by have:¬(c:Int)>0:=h4;omega
       subst mD;exact H _ _ _ ho.1 ho.ep dJ zO zO
 . refine zg (λh1=>?_) (λh1=>?_);exact⟨rfl,m,l,hy,hx,om,ol,zO,zO,zO⟩;exact⟨rfl,l,m,hx,hy,ol,om,zO,zO,zO⟩
def zmn(hx:aL h x l)(hy:aL h y m)(ol:aX l)(om:aX m)(hl:l.length<=17592186044400)(hm:m.length<=17592186044400)
 (H:∀z h' r,h.le h'->aL h' z r->aX r->vl r=vl l+vl m->r.length<=l.length+m.length+1->Ks z h'):za (F.FD x y) Ks h:=
 zb (λz h'=>∃r,aL h' z r/\aX r/\vl r=vl l+vl m/\r.length<=l.length+m.length+1)
  (λK' hk=>Zp4 hx hy ol om hl hm λz h' r h1 h2 h3 h4 h5=>hk _ _ h1 ⟨r,h2,h3,h4,h5⟩) λz h' h1 ⟨r,h2,h3,h4,h5⟩=>H z h' r h1 h2 h3 h4 h5
def Zkl(hx:aL h x l)(hy:aL h y m)(ol:aX l)(om:aX m)(hl:l.length<=17592186044400)(hm:m.length<=17592186044400)
 (H:∀z h',h.le h'->aL h' z (dg (vl l+vl m))->Ks z h'):F.OA x y Ks h:=by
 unfold F.OA;have lx:=hx.len;have ly:=hy.len;refine zj (λst h'=>h'=h/\∃p q,aL h st.1 p/\aL h st.2.1 q/\aX p/\aX q/\q.length<=p.length/\p.length+q.length=l.length+m.length/\vl p+vl q=vl l+vl m) ?_ ?_
 . rintro⟨sx,sy,_⟩ h0 ⟨rfl,p,q,hp,hq,op,oq,hqp,hlen,hv⟩;simp only at hp hq |-
   have lp:=hp.len;have lq:=hq.len;refine rC (p.length+1) (p.length+1) (by rw[lp,aM zO];omega) (by rw[lp,aM zO];omega) zO zO λw h1 hw dE=>?_
   refine Za (λst h'=>∃(c i:Nat) (r:List Nat),st=((c:Int),(i:Int),())/\i<=p.length/\c<=1/\Yz h0 h' w r/\aX r/\r.length=p.length+1/\vl (r.take i)+W ^ i*c=vl (p.take i)+vl (q.take i))
    (λst=>((p.length:Int)-st.2.1).toNat) ⟨0,0,_,rfl,Jt _,zO,dE,tU _,zS,by simp[vl]⟩ ?_
   rintro st h2 ⟨c,i,r,rfl,hi,hc,ho,dJ,dG,jh⟩;refine zg (λh3=>?_) (λh3=>?_)
   . have aA:i<p.length:=by have:(i:Int)<(sx.len:Int):=h3;omega
     have hpx:=Qb op aA;have hqx:=Vx oq i;refine Zq i (hp.le ho.1) rfl aA λa ha=>⟨_,ha,?_⟩
     refine zj (λs h4=>h4=h2/\s=(((c+p[i]+q.getD i 0:Nat):Int),())) ?_ ?_
     . rintro _ h4 ⟨rfl,rfl⟩;simp only;refine Vn i _ ho rfl zO (pZ _) λh5 b5 _ _ _ cV=>⟨zD,?_⟩
       rw[Dx];refine⟨⟨_,i+1,_,by rw[aM zO];rfl,zO,?_,cV,kX dJ (Ga _ Xi),by simp[dG],?_⟩,by rw[aM zO];omega⟩;unfold W at *;omega
       . rw[Dz zO,yu aA,Dy];have e2:=Pv (c+p[i]+q.getD i 0) W;simp only[Uc];generalize (c+p[i]+q.getD i 0) % W=rr at *;generalize (c+p[i]+q.getD i 0)/W=qq at *;generalize W ^ i=P at *;generalize p[i]=pp at *;generalize q.getD i 0=q0 at *;generalize vl (p.take i)=A at *;generalize vl (q.take i)=B at *;generalize vl (r.take i)=R at *;clear H
         grind
     . refine zg (λh4=>?_) (λh4=>?_)
       . have da:i<q.length:=by have:(i:Int)<(sy.len:Int):=h4;omega
         refine Zq i (hq.le ho.1) rfl da λa2 gP=>⟨_,gP,?_⟩
         refine⟨rfl,?_⟩;rw[Bo da]at hqx |-
         simp only;unfold W at *;congr 1;simp only[ve];omega
       . have da:q.length<=i:=by have:¬(i:Int)<(sy.len:Int):=h4;omega
         refine⟨rfl,?_⟩;rw[Bp da];simp only;unfold W at *;congr 1;simp only[ve];omega
   . have aA:i=p.length:=by have:¬(i:Int)<(sx.len:Int):=h3;omega
     subst aA;rw[Je (l:=p) zO,Je (l:=q) zO]at jh;refine Vn p.length c ho (by rw[lp]) zO (by rw[pZ,Ui (by unfold W;omega)]) λh5 b5 _ _ _ cV=>?_
     have aaO:aX (r.set p.length c):=kX dJ (by unfold W;omega);refine Xe cV.ep (by simp;omega) λz hz=>?_
     rw[Yj aaO]at hz;have e1:=Dz (r:=r) (k:=p.length) (v:=c) zO;rw[Je (by simp;omega)]at e1;rw[e1,jh,hv]at hz;exact H _ _ cV.1 hz
 . refine zg (λh1=>?_) (λh1=>?_);exact⟨rfl,m,l,hy,hx,om,ol,zO,zO,zO⟩;exact⟨rfl,l,m,hx,hy,ol,om,zO,zO,zO⟩
def Z6g(hx:aL h x l)(hy:aL h y m)(ol:aX l)(om:aX m)(hl:l.length<=17592186044400)(hm:m.length<=17592186044400)
 (H:∀z h',h.le h'->aL h' z (dg (vl l+vl m))->Ks z h'):za (F.OA x y) Ks h:=
 zb _ (λK'=>Zkl hx hy ol om hl hm) H
def zty{r:List Nat}{b:Nat}(dG:r.length=l.length)(dJ:aX r)(kQ:m.length<=l.length)(hle:vl m<=vl l)(hb:b<=1)
 (hv:vl (r.take l.length)+vl (m.take l.length)=vl (l.take l.length)+W ^ l.length*b):vl r=vl l-vl m:=by
 rw[Je (l:=r) zO,Je kQ,Je (Jd _)]at hv;have h1:=sI dJ;rw[dG]at h1;have:b=0:=by
  rcases Gs b with h2 | h2
  exact h2
  . obtain rfl:b=1:=zO;omega
 subst this;omega
def Zjk(hx:aL h x l)(hy:aL h y m)(ol:aX l)(om:aX m)(hl:l.length<=35184372088800)(kQ:m.length<=l.length)(hle:vl m<=vl l)
 (H:∀z h',h.le h'->aL h' z (dg (vl l-vl m))->Ks z h'):F.FF x y Ks h:=by
 unfold F.FF;have lx:=hx.len;have ly:=hy.len;refine rC l.length l.length zO zO zO zO λw h1 hw dE=>?_
 refine Za (λst h'=>∃(c i:Nat) (r:List Nat),st=((c:Int),(i:Int),())/\i<=l.length/\c<=1/\Yz h h' w r/\aX r/\r.length=l.length/\vl (r.take i)+vl (m.take i)=vl (l.take i)+W ^ i*c)
  (λst=>((l.length:Int)-st.2.1).toNat) ⟨0,0,_,rfl,Jt _,zO,dE,tU _,zS,by simp[vl]⟩ ?_
 rintro st h2 ⟨c,i,r,rfl,hi,hc,ho,dJ,dG,jh⟩;refine zg (λh3=>?_) (λh3=>?_)
 . have aA:i<l.length:=by have:(i:Int)<(x.len:Int):=h3;omega
   have hlx:=Qb ol aA;have yQ:=Vx om i;refine Zq i (hx.le ho.1) rfl aA λa ha=>⟨_,ha,?_⟩
   refine zj (λs h4=>h4=h2/\∃rr b:Nat,rr<W/\b<=1/\l[i]+W*b=rr+c+m.getD i 0/\u32.wrap s.1=(rr:Int)/\s.1.fdiv (2 ^ (min (63:Int).toNat u64.bits))=(b:Int)) ?_ ?_
   . rintro s h4 ⟨rfl,rr,b,hrr,hb,he,h5,h6⟩;refine Vn i rr ho rfl zO h5 λh5 b5 _ _ _ cV=>⟨zD,?_⟩
     rw[h6];refine⟨⟨b,i+1,_,by rw[aM (by simp only;omega)];rfl,zO,hb,cV,kX dJ hrr,by simp[dG],?_⟩,by simp only;rw[aM zO];omega⟩;rw[Dz zO,yu aA,Dy,Uc];generalize W ^ i=P at *;generalize l[i]=pp at *;generalize m.getD i 0=q0 at *;generalize vl (l.take i)=A at *;generalize vl (m.take i)=B at *;generalize vl (r.take i)=R at *;have e:=congrArg (P*·) he;simp only[U5]at e;rw[J6];omega
   . refine zg (λh4=>?_) (λh4=>?_)
     . have da:i<m.length:=by have:(i:Int)<(y.len:Int):=h4;omega
       refine Zq i (hy.le ho.1) rfl da λa2 gP=>⟨_,gP,?_⟩
       rw[Bo da]at yQ |-
       exact⟨rfl,Zzb hlx hc yQ⟩
     . have da:m.length<=i:=by have:¬(i:Int)<(y.len:Int):=h4;omega
       rw[Bp da];exact⟨rfl,GO hlx hc⟩
 . have aA:i=l.length:=by have:¬(i:Int)<(x.len:Int):=h3;omega
   subst aA;refine Vu ho.ep zO λz hz=>?_
   rw[Yj dJ,zty dG dJ kQ hle hc jh]at hz;exact H _ _ ho.1 hz
def zjl(hx:aL h x l)(hy:aL h y m)(ol:aX l)(om:aX m)(hl:l.length<=35184372088800)(kQ:m.length<=l.length)(hle:vl m<=vl l)
 (H:∀z h',h.le h'->aL h' z (dg (vl l-vl m))->Ks z h'):za (F.FF x y) Ks h:=
 zb _ (λK'=>Zjk hx hy ol om hl kQ hle) H
def Z6c(hx:aL h x l)(hy:aL h y m)(ol:aX l)(om:aX m)(hl:l.length<=35184372088800)(kQ:m.length<=l.length)(hle:vl m<=vl l)
 (H:∀z h',h.le h'->aL h' z (dg (vl l-vl m))->nK h z->Ks z h'):F.A0 x y Ks h:=by
 unfold F.A0;have lx:=hx.len;have ly:=hy.len;refine rC l.length l.length zO zO zO zO λw h1 hw dE=>?_
 refine Za (λst h'=>∃(c i:Nat) (r:List Nat),st=((c:Int),(i:Int),())/\i<=l.length/\c<=1/\Yz h h' w r/\aX r/\r.length=l.length/\vl (r.take i)+vl (m.take i)=vl (l.take i)+W ^ i*c)
  (λst=>((l.length:Int)-st.2.1).toNat) ⟨0,0,_,rfl,Jt _,zO,dE,tU _,zS,by simp[vl]⟩ ?_
 rintro st h2 ⟨c,i,r,rfl,hi,hc,ho,dJ,dG,jh⟩;refine zg (λh3=>?_) (λh3=>?_)
 . have aA:i<l.length:=by have:(i:Int)<(x.len:Int):=h3;omega
   have hlx:=Qb ol aA;have yQ:=Vx om i;refine zj (λs h4=>h4=h2/\s=(((m.getD i 0:Nat):Int),())) ?_ ?_
   . rintro _ h4 ⟨rfl,rfl⟩;refine Zq i (hx.le ho.1) rfl aA λa ha=>⟨_,ha,?_⟩
     simp only;obtain⟨rr,b,hrr,hb,he,h5,h6⟩:=Zza hlx hc yQ;refine Vn i rr ho rfl zO h5 λh5 b5 _ _ _ cV=>⟨zD,?_⟩
     rw[h6];refine⟨⟨b,i+1,_,by rw[aM zO];rfl,zO,hb,cV,kX dJ hrr,by simp[dG],?_⟩,by rw[aM zO];omega⟩;rw[Dz zO,yu aA,Dy,Uc];generalize W ^ i=P at *;generalize l[i]=pp at *;generalize m.getD i 0=q0 at *;generalize vl (l.take i)=A at *;generalize vl (m.take i)=B at *;generalize vl (r.take i)=R at *;have e:=congrArg (P*·) he;simp only[U5]at e;rw[J6];omega
   . refine zg (λh4=>?_) (λh4=>?_)
     . have da:i<m.length:=by have:(i:Int)<(y.len:Int):=h4;omega
       refine Zq i (hy.le ho.1) rfl da λa2 gP=>⟨_,gP,?_⟩
       rw[Bo da]at yQ |-
       exact⟨rfl,by rw[iy (by unfold W at *;omega)]⟩
     . have da:m.length<=i:=by have:¬(i:Int)<(y.len:Int):=h4;omega
       rw[Bp da];exact⟨rfl,rfl⟩
 . have aA:i=l.length:=by have:¬(i:Int)<(x.len:Int):=h3;omega
   subst aA;refine zh1 ho.ep zO λz hz hs=>?_
   rw[Yj dJ,zty dG dJ kQ hle hc jh]at hz;exact H _ _ ho.1 hz (nK.of ho hs)
def zf4(hx:aL h x l)(hy:aL h y m)(ol:aX l)(om:aX m)(hl:l.length<=35184372088800)(kQ:m.length<=l.length)(hle:vl m<=vl l)
 (H:∀z h',h.le h'->aL h' z (dg (vl l-vl m))->nK h z->Ks z h'):za (F.A0 x y) Ks h:=
 zb (λz h'=>aL h' z (dg (vl l-vl m))/\nK h z) (λK' hk=>Z6c hx hy ol om hl kQ hle λz h' h1 h2 h3=>hk z h' h1 ⟨h2,h3⟩) λz h' h1 ⟨h2,h3⟩=>H z h' h1 h2 h3
def znz(hx:aL h x l)(hy:aL h y m)(ol:aX l)(om:aX m)(hl:l.length<=35184372088800)(kQ:m.length<=l.length)(hle:vl m<=vl l)
 (H:∀z h',h.le h'->aL h' z (dg (vl l-vl m))->Ks z h'):za (F.A0 x y) Ks h:=
 zf4 hx hy ol om hl kQ hle λz h' h1 h2 _=>H z h' h1 h2
def Zmx(hx:aL h x l)(hy:aL h y m)(ol:aX l)(om:aX m)(hl:l.length+m.length<=35184372088800)
 (H:∀z h',h.le h'->aL h' z (dg (vl l*vl m))->Ks z h'):F.Om x y Ks h:=by
 unfold F.Om;have lx:=hx.len;have ly:=hy.len;refine zj (λ_ h'=>h'=h) ?_ ?_
 . rintro _ h' rfl;refine rC (l.length+m.length) (l.length+m.length) (by rw[aM zO];omega) (by rw[aM zO];omega) zO zO λw h1 hw dE=>?_
   refine Z82 (Kf:=λw h3=>za (F.Zb w) (λr h7=>Ks r h7) h3) (hx) (hy) ol om hl dE λh3 r ho dJ dG hv=>?_
   refine Vu ho.ep zO λz hz=>?_
   rw[Yj dJ,hv]at hz;exact H _ _ ho.1 hz
 . refine Zs (λh1=>?_) (λh1=>Zs (λh2=>?_) (λh2=>rfl))
   . have:l=[]:=Ju.1 zO;subst this;refine H _ _ (Jf _) ?_;simp only[vl,Nat.zero_mul,qe];exact aL.nil
   . have:m=[]:=Ju.1 zO;subst this;refine H _ _ (Jf _) ?_;simp only[vl,Tv,qe];exact aL.nil
def Z81(hx:aL h x l)(hy:aL h y m)(ol:aX l)(om:aX m)(hl:l.length+m.length<=35184372088800)
 (H:∀z h',h.le h'->aL h' z (dg (vl l*vl m))->Ks z h'):za (F.Om x y) Ks h:=
 zb _ (λK'=>Zmx hx hy ol om hl) H
def Y0w{c x y z:Nat}(hc:c<W)(hx:x<W)(hy:y<W)(hz:z<W) :
 u64.wrap (u64.wrap ((c:Int)+u64.wrap (z:Int))+u64.wrap (u64.wrap (x:Int)*u64.wrap (y:Int)))=((c+(x*y+z):Nat):Int):=by
 unfold W at *;have jC:x*y<=4294967295*4294967295:=Gt zO zO;rw[iy (n:=x) zO,iy (n:=y) zO,iy (n:=z) zO];rw[show((x:Int)*(y:Int))=((x*y:Nat):Int)by simp,iy (n:=x*y) zO];rw[show((c:Int)+(z:Int))=((c+z:Nat):Int)by simp,iy (n:=c+z) zO];rw[show(((c+z:Nat):Int)+((x*y:Nat):Int))=((c+(x*y+z):Nat):Int)by omega,iy zO]
def Z6p{a b:Sl}{la lb:List Nat}(ha:aL h a la)(hb:aL h b lb)(oa:aX la)(ob:aX lb)(hl:la.length+lb.length<=35184372088800)
 (H:∀z h',h.le h'->aL h' z (dg (vl la*vl lb))->nK h z->Ks z h'):F.C9 a b Ks h:=by
 unfold F.C9;have hal:=ha.len;have wx:=hb.len;refine rC (la.length+lb.length) (la.length+lb.length) (by rw[aM zO];omega) (by rw[aM zO];omega) zO zO λx h1 hw ho=>?_
 refine Za (λst h'=>∃(i:Nat) (l:List Nat),st=((i:Int),())/\i<=la.length/\Yz h h' x l/\aX l/\l.length=la.length+lb.length/\vl l=vl (la.take i)*vl lb/\∀j (hj:j<l.length),i+lb.length<=j->l[j]=0)
  (λst=>((la.length:Int)-st.1).toNat) ⟨0,_,rfl,Jt _,ho,tU _,zS,by rw[GL];simp[vl],λj hj _=>by simp⟩ ?_
 rintro st h1 ⟨i,l,rfl,hi,ib,TO,mF,hv,hz⟩;refine zg (λh2=>?_) (λh2=>?_)
 . simp only at h2;have aA:i<la.length:=zO;have Bm:=Qb oa aA;refine Za (λst h'=>∃(k c:Nat) (l':List Nat),st=((c:Int),(k:Int),())/\k<=lb.length/\c<W/\Yz h h' x l'/\aX l'/\l'.length=la.length+lb.length /\
    vl l'+W ^ (i+k)*c=vl l+W ^ i*(la[i]*vl (lb.take k))/\∀j (hj:j<l'.length),i+lb.length<=j->l'[j]=0)
    (λst=>((lb.length:Int)-st.2.1).toNat) ⟨0,0,l,rfl,Jt _,zD,ib,TO,mF,by simp[vl],hz⟩ ?_
   rintro st h3 ⟨k,c,l',rfl,hk,hc,eX,rD,wA,nZ,qB⟩;refine zg (λh4=>?_) (λh4=>?_)
   . simp only at h4;have bP:k<lb.length:=zO;have TP:=Qb ob bP;have mJ:i+k<l'.length:=zO;have TQ:=Qb rD mJ;have wik:i64.wrap ((i:Int)+(k:Int))=((i+k:Nat):Int):=by rw[aM zO];omega
     simp only;rw[wik];refine Zq (i+k) eX.ep rfl mJ λa2 gP=>⟨_,gP,?_⟩
     refine Zq i (ha.le eX.1) rfl aA λaa haa=>⟨_,haa,?_⟩
     refine Zq k (hb.le eX.1) rfl bP λa1 rE=>⟨_,rE,?_⟩
     simp only;rw[Y0w hc Bm TP TQ];refine Vn (i+k) _ eX rfl mJ (pZ _) λh5 b5 _ _ _ cV=>⟨zD,?_⟩
     rw[Dx];refine⟨⟨k+1,_,_,by rw[aM zO];rfl,zO,Zjh hc Bm TP TQ,cV,kX rD (Ga _ Xi),by simp[wA],?_,?_⟩,by rw[aM zO];omega⟩
     . have e1:=zE (l:=l') (k:=i+k) (v:=(c+(la[i]*lb[k]+l'[i+k])) % W) mJ;have e2:=Pv (c+(la[i]*lb[k]+l'[i+k])) W;have e3:=yu bP;rw[e3];generalize vl (l'.set (i+k) ((c+(la[i]*lb[k]+l'[i+k])) % W))=V at e1 |-
       generalize hr:(c+(la[i]*lb[k]+l'[i+k])) % W=r at *;generalize hq:(c+(la[i]*lb[k]+l'[i+k]))/W=q at *;generalize vl l'=V' at *;generalize vl l=V0 at *;generalize l'[i+k]=z at *;generalize la[i]=xx at *;generalize lb[k]=yy at *;generalize vl (lb.take k)=T at *;have p1:W ^ (i+(k+1))=W ^ (i+k)*W:=by rw[<-Nat.add_assoc,Uc]
       have p2:W ^ (i+k)=W ^ i*W ^ k:=Gm ..;rw[p1];generalize W ^ (i+k)=P at *;subst p2;generalize W ^ i=Pi at *;generalize W ^ k=Pk at *;clear H
       grind
     . intro j hj TR;rw[List.length_set]at hj;rw[Lu zO];exact qB j hj TR
   . simp only at h4;have bP:k=lb.length:=zO;subst bP;have vb:i+lb.length<l'.length:=zO;have w1:i64.wrap ((i:Int)+(b.len:Int))=((i+lb.length:Nat):Int):=by rw[wx,aM zO];omega
     simp only;rw[w1];refine Vn (i+lb.length) c eX rfl vb (by rw[pZ,Ui hc]) λh5 b5 _ _ _ cV=>?_
     refine⟨⟨i+1,_,by rw[aM zO];rfl,zO,cV,kX rD hc,by simp[wA],?_,?_⟩,by rw[aM zO];omega⟩
     . have e1:=zE (l:=l') (k:=i+lb.length) (v:=c) vb;rw[qB _ vb (Jd _)]at e1;rw[Je (Jd _)]at nZ;rw[yu aA,J9];rw[J6];omega
     . intro j hj TR;rw[List.length_set]at hj;rw[Lu zO];exact qB j hj zO
 . simp only at h2;have:i=la.length:=zO;subst this;rw[Je (Jd _)]at hv;refine zh1 ib.ep zO λz fB hs=>?_
   rw[Yj TO,hv]at fB;exact H _ _ ib.1 fB (nK.of ib hs)
def zle(hx:aL h x l)(hy:aL h y m)(ol:aX l)(om:aX m)(hl:l.length+m.length<=35184372088800)
 (H:∀z h',h.le h'->aL h' z (dg (vl l*vl m))->nK h z->Ks z h'):za (F.C9 x y) Ks h:=
 zb (λz h'=>aL h' z (dg (vl l*vl m))/\nK h z) (λK' hk=>Z6p hx hy ol om hl λz h' h1 h2 h3=>hk z h' h1 ⟨h2,h3⟩) λz h' h1 ⟨h2,h3⟩=>H z h' h1 h2 h3
def zo4(hx:aL h x l)(hy:aL h y m)(ol:aX l)(om:aX m)(hl:l.length+m.length<=35184372088800)
 (H:∀z h',h.le h'->aL h' z (dg (vl l*vl m))->Ks z h'):za (F.C9 x y) Ks h:=
 zle hx hy ol om hl λz h' h1 h2 _=>H z h' h1 h2
end
end Den
end

section
namespace Den
open Go Iv
def Ok(n:Int):Prop:=(dg n.natAbs).length<=8796093022208
def Lt(k:Nat)(n:Int):Prop:=n.natAbs<W ^ k
def Lt.ok{k:Nat}{n:Int}(h:Lt k n)(hk:k<=8796093022208):Ok n:=Jo (yj.2 h) hk
def Lt.mono{k j:Nat}{n:Int}(h:Lt k n)(hk:k<=j):Lt j n:=Tc h (Jz Xi hk)
def Lt.mul{k j:Nat}{m n:Int}(h:Lt k m)(h2:Lt j n):Lt (k+j) (m*n):=by
 unfold Lt at *;rw[Int.natAbs_mul,Gm];exact Nat.mul_lt_mul'' h h2
def Lt.neg{k:Nat}{n:Int}(h:Lt k n):Lt k (-n):=by unfold Lt at *;rw[Int.natAbs_neg];exact h
def Lt.le{k:Nat}{m n:Int}(h:Lt k m)(h2:n.natAbs<=m.natAbs):Lt k n:=U7 h2 h
def Lt.Bq{n:Int}(h1:-18446744073709551616<n)(h2:n<18446744073709551616):Lt 2 n:=by
 unfold Lt;have:W ^ 2=18446744073709551616:=zD;rw[this];omega
def NI.len{h:Hp}{x:aE}{n:Int}(hx:NI h x n):x.ah.len=(dg n.natAbs).length:=hx.1.len
def NI.rF{h:Hp}{x:aE}{n:Int}(hx:NI h x n):((x.ah.len:Int)==0)=decide (n=0):=by
 rw[hx.len];by_cases h0:n=0;subst h0;simp[qe]
 . have:(dg n.natAbs).length≠0:=λhh=>h0 (by have:=sH.1 (Ju.1 hh);omega)
   rw[decide_eq_false h0];have h2:((dg n.natAbs).length:Int)≠0:=zO;simpa using λhh=>h0 (by have:=sH.1 hh;omega)
def TY{n:Int}:(dg n.natAbs).length=0↔n=0:=by
 rw[Ju,sH];omega
section
variable {m n:Int}{a b:aE}
def zxv(n:Nat):Q1 (dg n)=dg n:=by rw[Yj (Zu n),Zk]
def zsb{n:Nat}(hr:aL h x (dg n))(hl:(dg n).length<=35184372088800)(H:∀y,aL h y (dg n)->Ks y h):za (F.Zb x) Ks h:=
 Vu hr zO λy hy=>H y (by rw[zxv]at hy;exact hy)
def zo5{n:Nat}(hr:aL h x (dg n))(hl:(dg n).length<=35184372088800)(H:∀y,aL h y (dg n)->Ks y h):za (F.Zz x) Ks h:=
 Xe hr zO λy hy=>H y (by rw[zxv]at hy;exact hy)
def zhb(ha:NI h a m)(om:(dg m.natAbs).length<=35184372087808)(H:∀y,aL h y (dg m.natAbs)->Ks y h):za (F.Zb a.ah) Ks h:=
 zsb ha.1 (Jo om zD) H
def zlf(ha:NI h a m)(om:(dg m.natAbs).length<=35184372087808)(H:∀y,aL h y (dg m.natAbs)->Ks y h):za (F.Zz a.ah) Ks h:=
 zo5 ha.1 (Jo om zD) H
def We(ha:NI h a m)(om:Ok m)(H:∀y,aL h y (dg m.natAbs)->Ks y h):za (F.Zb a.ah) Ks h:=
 zsb ha.1 (Jo om zD) H
def Z0w(ha:NI h a m)(om:Ok m)(H:∀y,aL h y (dg m.natAbs)->Ks y h):za (F.Zz a.ah) Ks h:=
 zo5 ha.1 (Jo om zD) H
def Wt{neg:Bool}{k:Nat}(hr:aL h x (dg k))(hl:(dg k).length<=35184372088800)(H:∀y,NI h y (sg neg k)->KI y h):za (F.Zy neg x) KI h:=
 zc5 hr (Zu k) zO λy hy=>H y (by rw[Zk]at hy;exact hy)
def Qo{neg:Bool}{k:Nat}(hr:aL h x (dg k))(hl:(dg k).length<=35184372088800)(H:∀y,NI h y (sg neg k)->KI y h):za (F.Yd neg x) KI h:=
 zlb hr (Zu k) zO λy hy=>H y (by rw[Zk]at hy;exact hy)
def Zks(n:Int):sg (decide (n<0)) n.natAbs=n:=by
 unfold sg;by_cases h:n<0;rw[if_pos (by simpa using h)];omega;rw[if_neg (by simpa using h)];omega
def Zkr(n:Int):sg (!decide (n<0)) n.natAbs=-n:=by
 unfold sg;by_cases h:n<0;rw[if_neg (by simpa using h)];omega;rw[if_pos (by simpa using h)];omega
def Zn3{n:Int}(h:n<0)(h2:-9223372036854775808<=n):u64.wrap (0-u64.wrap n)=((n.natAbs:Nat):Int):=by
 simp only[ve];omega
def Zn4{n:Int}(h:¬n<0)(h2:n<=9223372036854775807):u64.wrap n=((n.natAbs:Nat):Int):=by
 simp only[ve];omega
def dg2{n:Nat}(h:n<18446744073709551616):(dg n).length<=2:=by
 have h2:W ^ 2=18446744073709551616:=zD;exact yj.2 (by rw[h2];exact h)
def Qq(h1:-9223372036854775808<=n)(h2:n<=9223372036854775807)(H:∀y h',h.le h'->NI h' y n->KI y h'):za (F.yd n) KI h:=by
 refine zb _ (λK' hk=>?_) H;unfold F.yd;refine zj (λs h'=>h'=h/\s=(((n.natAbs:Nat):Int),())) ?_ ?_
 . rintro _ h' ⟨rfl,rfl⟩;refine TU rfl zO λy h1 hl hy=>?_
   have:=dg2 (n:=n.natAbs) zO;refine Wt hy zO λz hz=>hk _ _ hl ?_
   rw[Zks]at hz;exact hz
 . refine zg (λh3=>⟨rfl,?_⟩) (λh3=>⟨rfl,?_⟩);rw[Zn3 h3 h1];rw[Zn4 h3 h2]
def TZ(h1:-9223372036854775808<=n)(h2:n<=9223372036854775807)(H:∀y h',h.le h'->NI h' y n->KI y h'):za (F.Wx n) KI h:=by
 refine zb _ (λK' hk=>?_) H;unfold F.Wx;have h5:=dg2 (n:=n.natAbs) zO;refine zg (λh3=>?_) (λh3=>?_)
 . rw[Zn3 h3 h1];refine TV rfl zO λy h1 hl hy=>?_
   refine Qo hy zO λz hz=>hk _ _ hl ?_
   have:sg true n.natAbs=n:=by unfold sg;simp;omega
   rw[this]at hz;exact hz
 . rw[Zn4 h3 h2];refine TV rfl zO λy h1 hl hy=>?_
   refine Qo hy zO λz hz=>hk _ _ hl ?_
   have:sg false n.natAbs=n:=by unfold sg;simp;omega
   rw[this]at hz;exact hz
def zp1(ha:NI h a m)(om:(dg m.natAbs).length<=35184372087808)(H:Ki m.sign h):za (F.Wj a) Ki h:=by
 refine zw _ (λK' hk=>?_) H;unfold F.Wj;refine zhb ha om λy hy=>?_
 have hl:=hy.len;refine Zs (λh1=>?_) (λh1=>?_)
 . have:m=0:=TY.1 zO;subst this;exact hk
 . have:m≠0:=λh0=>h1 (by subst h0;rw[hl];simp[qe])
   rw[ha.2];refine zg (λh2=>?_) (λh2=>?_);rw[Us h2]at hk;exact hk;rw[Gi zO]at hk;exact hk
def zns(ha:NI h a m)(om:(dg m.natAbs).length<=35184372087808)(H:∀y,NI h y m->KI y h):za (F.Wc a) KI h:=by
 refine LD _ (λK' hk=>?_) H;unfold F.Wc;refine Qo ha.1 (Jo om zD) λy hy=>hk y ?_
 rw[ha.2,Zks]at hy;exact hy
def znt(ha:NI h a m)(om:(dg m.natAbs).length<=35184372087808)(H:Ki m.sign h):za (F.yT a) Ki h:=by
 refine zw _ (λK' hk=>?_) H;unfold F.yT;refine zns ha om λy hy=>?_
 have hl:=hy.len;refine Zs (λh1=>?_) (λh1=>?_)
 . have:m=0:=TY.1 zO;subst this;exact hk
 . have:m≠0:=λh0=>h1 (by subst h0;rw[hl];simp[qe])
   rw[hy.2];refine zg (λh2=>?_) (λh2=>?_);rw[Us h2]at hk;exact hk;rw[Gi zO]at hk;exact hk
def UA(ha:NI h a m)(om:Ok m)(H:Ki m.sign h):za (F.Wj a) Ki h:=zp1 ha (Jo om zD) H
def GP(ha:NI h a m)(om:Ok m)(H:∀y,NI h y m->KI y h):za (F.Wc a) KI h:=zns ha (Jo om zD) H
def UB(ha:NI h a m)(om:Ok m)(H:Ki m.sign h):za (F.yT a) Ki h:=znt ha (Jo om zD) H
def zya(ha:NI h a m)(om:Ok m)(H:∀y h',h.le h'->NI h' y (-m)->KI y h'):za (F.Oy a) KI h:=by
 refine zb _ (λK' hk=>?_) H;unfold F.Oy;refine We ha om λy hy=>ze0 hy (Jo om zD) λz h1 hl hz=>Wt hz (Jo om zD) λw hw=>hk _ _ hl ?_
 rw[ha.2,Zkr]at hw;exact hw
def zlx(ha:NI h a m)(om:Ok m)(H:∀y h',h.le h'->NI h' y m->KI y h'):za (F.Km a) KI h:=by
 refine zb _ (λK' hk=>?_) H;unfold F.Km;refine We ha om λy hy=>ze0 hy (Jo om zD) λz h1 hl hz=>Wt hz (Jo om zD) λw hw=>hk _ _ hl ?_
 rw[ha.2,Zks]at hw;exact hw
def UC(ha:NI h a m)(om:Ok m)(H:∀y,NI h y (-m)->KI y h):za (F.C8 a) KI h:=by
 refine LD _ (λK' hk=>?_) H;unfold F.C8;refine Qo ha.1 (Jo om zD) λy hy=>hk y ?_
 rw[ha.2,Zkr]at hy;exact hy
def Zkq(m n:Int):sg (!(decide (m<0)==decide (n<0))) (m.natAbs*n.natAbs)=m*n:=by
 unfold sg;rw[<-Int.natAbs_mul];by_cases h1:m<0<;>by_cases h2:n<0<;>simp[h1,h2]
 . have:=Int.mul_pos_of_neg_of_neg h1 h2;omega
 . have:=Int.mul_nonpos_of_nonpos_of_nonneg (a:=m) (b:=n) zO zO;omega
 . have:=Int.mul_nonpos_of_nonneg_of_nonpos (a:=m) (b:=n) zO zO;omega
 . have:=Int.mul_nonneg (a:=m) (b:=n) zO zO;omega
def Z9b{m n k:Nat}(om:(dg m).length<=k)(on:(dg n).length<=k):(dg (m*n)).length<=k+k:=by
 refine yj.2 ?_;rw[Gm];exact Nat.mul_lt_mul'' (yj.1 om) (yj.1 on)
def Zjo{m n:Int}(om:Ok m)(on:Ok n):(dg (m.natAbs*n.natAbs)).length<=35184372088800:=
 Jo (Z9b om on) zD
def Xq(ha:NI h a m)(hb:NI h b n)(om:Ok m)(on:Ok n)(H:∀y h',h.le h'->NI h' y (m*n)->KI y h'):za (F.ym a b) KI h:=by
 refine zb _ (λK' hk=>?_) H;unfold F.ym;have gE:(dg m.natAbs).length<=8796093022208:=om;have kf:(dg n.natAbs).length<=8796093022208:=on;refine We ha om λy hy=>We hb on λz hz=>Z81 hy hz (Zu _) (Zu _) zO λw h1 hl hw=>?_
 rw[Zk,Zk]at hw;refine Wt hw (Zjo om on) λw2 dE=>hk _ _ hl ?_
 rw[ha.2,hb.2,Zkq]at dE;exact dE
def X0(ha:NI h a m)(hb:NI h b n)(om:Ok m)(on:Ok n)(H:∀y h',h.le h'->NI h' y (m*n)->KI y h'):za (F.Qi a b) KI h:=by
 refine zb _ (λK' hk=>?_) H;unfold F.Qi;have gE:(dg m.natAbs).length<=8796093022208:=om;have kf:(dg n.natAbs).length<=8796093022208:=on;refine GP ha om λy hy=>GP hb on λz hz=>zo4 hy.1 hz.1 (Zu _) (Zu _) zO λw h1 hl hw=>?_
 rw[Zk,Zk]at hw;refine Qo hw (Zjo om on) λw2 dE=>hk _ _ hl ?_
 rw[hy.2,hz.2,Zkq]at dE;exact dE
def qz{m n:Nat}(h:m<=n):(dg m).length<=(dg n).length:=yj.2 (U7 h (yj.1 (Jd _)))
def Z89{m n k:Nat}(om:(dg m).length<=k)(on:(dg n).length<=k):(dg (m+n)).length<=k+1:=by
 refine yj.2 ?_;have h1:=yj.1 om;have h2:=yj.1 on;rw[Uc];have:W ^ k*2<=W ^ k*W:=Jr _ zD;omega
def Zs5{m n:Nat}(om:(dg m).length<=8796093022208)(on:(dg n).length<=8796093022208):(dg (m+n)).length<=35184372088800:=
 Jo (Z89 om on) zD
def Z9o{m n:Int}(h:decide (m<0)=decide (n<0)):sg (decide (m<0)) (m.natAbs+n.natAbs)=m+n:=by
 unfold sg;by_cases h1:m<0<;>by_cases h2:n<0<;>simp[h1,h2]at h |-<;>omega
def zor{m n:Int}(h:decide (m<0)≠decide (n<0))(hle:n.natAbs<=m.natAbs):sg (decide (m<0)) (m.natAbs-n.natAbs)=m+n:=by
 unfold sg;by_cases h1:m<0<;>by_cases h2:n<0<;>simp[h1,h2]at h |-<;>omega
def UD{m n:Nat}(om:(dg m).length<=8796093022208):(dg (m-n)).length<=35184372088800:=by
 have:=qz (Nat.sub_le m n);omega
def zy6(ha:NI h a m)(hb:NI h b n)(om:Ok m)(on:Ok n)(H:∀y h',h.le h'->NI h' y (m+n)->KI y h'):za (F.Kg a b) KI h:=by
 refine zb _ (λK' hk=>?_) H;unfold F.Kg;have gE:(dg m.natAbs).length<=8796093022208:=om;have kf:(dg n.natAbs).length<=8796093022208:=on;refine We ha om λy hy=>We hb on λz hz=>?_
 rw[ha.2,hb.2];refine Zw (λh1=>?_) (λh1=>?_)
 . have jQ:decide (m<0)=decide (n<0):=by simpa using h1
   refine zmn hy hz (Zu _) (Zu _) zO zO λw h1 r hl hw ok hv hlen=>?_
   rw[Zk,Zk]at hv;refine zc5 hw ok zO λw2 dE=>hk _ _ hl ?_
   rw[hv,Z9o jQ]at dE;exact dE
 . have jQ:decide (m<0)≠decide (n<0):=by simpa using h1
   refine TX hy hz zO zO ?_;unfold mi;by_cases h2:m.natAbs<n.natAbs
   . rw[if_pos h2];refine zk rfl ?_;refine zjl hz hy (Zu _) (Zu _) zO (qz zO) (by rw[Zk,Zk];omega) λw h1 hl hw=>?_
     rw[Zk,Zk]at hw;refine Wt hw (UD kf) λw2 dE=>hk _ _ hl ?_
     rw[zor (λe=>jQ e.symm) zO,Int.add_comm]at dE;exact dE
   . rw[if_neg h2];refine zc (by split<;>rfl) ?_;refine zjl hy hz (Zu _) (Zu _) zO (qz zO) (by rw[Zk,Zk];omega) λw h1 hl hw=>?_
     rw[Zk,Zk]at hw;refine Wt hw (UD gE) λw2 dE=>hk _ _ hl ?_
     rw[zor jQ zO]at dE;exact dE
def UE(ha:NI h a m)(hb:NI h b n)(om:Ok m)(on:Ok n)(H:∀y h',h.le h'->NI h' y (m+n)->KI y h'):za (F.Da a b) KI h:=by
 refine zb _ (λK' hk=>?_) H;unfold F.Da;have gE:(dg m.natAbs).length<=8796093022208:=om;have kf:(dg n.natAbs).length<=8796093022208:=on;refine GP ha om λy hy=>GP hb on λz hz=>?_
 rw[hy.2,hz.2];refine Zw (λh1=>?_) (λh1=>?_)
 . have jQ:decide (m<0)=decide (n<0):=by simpa using h1
   refine Z6g hy.1 hz.1 (Zu _) (Zu _) zO zO λw h1 hl hw=>?_
   rw[Zk,Zk]at hw;refine Qo hw (Zs5 gE kf) λw2 dE=>hk _ _ hl ?_
   rw[Z9o jQ]at dE;exact dE
 . have jQ:decide (m<0)≠decide (n<0):=by simpa using h1
   refine z8d hy.1 hz.1 zO zO ?_;unfold mi;by_cases h2:m.natAbs<n.natAbs
   . rw[if_pos h2];refine zc rfl ?_;refine znz hz.1 hy.1 (Zu _) (Zu _) zO (qz zO) (by rw[Zk,Zk];omega) λw h1 hl hw=>?_
     rw[Zk,Zk]at hw;refine Qo hw (UD kf) λw2 dE=>hk _ _ hl ?_
     rw[zor (λe=>jQ e.symm) zO,Int.add_comm]at dE;exact dE
   . rw[if_neg h2];refine zk (by split<;>rfl) ?_;refine znz hy.1 hz.1 (Zu _) (Zu _) zO (qz zO) (by rw[Zk,Zk];omega) λw h1 hl hw=>?_
     rw[Zk,Zk]at hw;refine Qo hw (UD gE) λw2 dE=>hk _ _ hl ?_
     rw[zor jQ zO]at dE;exact dE
def Ok.neg{n:Int}(h:Ok n):Ok (-n):=by unfold Ok at *;rw[Int.natAbs_neg];exact h
def zmp(ha:NI h a m)(hb:NI h b n)(om:Ok m)(on:Ok n)(H:∀y h',h.le h'->NI h' y (m-n)->KI y h'):za (F.Kh a b) KI h:=by
 refine zb _ (λK' hk=>?_) H;unfold F.Kh;refine UC hb on λy hy=>UE ha hy om on.neg λz h1 hl hz=>hk _ _ hl ?_
 rw[<-Int.sub_eq_add_neg]at hz;exact hz
def Zc0(ha:NI h a m)(hb:NI h b n)(om:Ok m)(on:Ok n)(os:Ok (m-n))(H:∀h',h.le h'->Ki (m-n).sign h'):za (F.zhx a b) Ki h:=by
 refine zb (λv _=>v=(m-n).sign) (λK' hk=>?_) λv h' hl hv=>by subst hv;exact H h' hl
 unfold F.zhx;exact zmp ha hb om on λz h1 hl hz=>UB hz os (hk _ _ hl rfl)
def Zkx{m n:Int}(h:m.sign=n.sign):m.sign*mi m.natAbs n.natAbs=(m-n).sign:=by
 unfold mi;rcases Int.lt_trichotomy m 0 with h1 | h1 | h1
 . have h2:n<0:=Int.sign_eq_neg_one_iff_neg.1 (by rw[<-h];exact Us h1);rw[Us h1];split;rw[Gi zO];rfl
   . split;rw[Us zO];rfl
     . have:m=n:=zO;subst this;simp
 . subst h1;have h2:n=0:=by rw[Int.sign_zero]at h;exact Int.sign_eq_zero_iff_zero.1 h.symm
   subst h2;rfl
 . have h2:0<n:=Int.sign_eq_one_iff_pos.1 (by rw[<-h];exact Gi h1);rw[Gi h1];split;rw[Us zO];rfl
   . split;rw[Gi zO];rfl
     . have:m=n:=zO;subst this;simp
def Yg(n:Int):n.sign=-1/\n<0\/n.sign=0/\n=0\/n.sign=1/\0<n:=by
 rcases Int.lt_trichotomy n 0 with h1 | h1 | h1
 exact .inl ⟨Us h1,h1⟩;subst h1;exact .inr (.inl ⟨rfl,rfl⟩);exact .inr (.inr ⟨Gi h1,h1⟩)
def Zp8{m n:Int}(h:m.sign≠n.sign):(if m.sign<n.sign then (-1:Int)else if n.sign<m.sign then 1 else 0)=(m-n).sign:=by
 have hm:=Yg m;have hn:=Yg n;have hd:=Yg (m-n);split;omega;split<;>omega
def zy8(ha:NI h a m)(hb:NI h b n)(om:Ok m)(on:Ok n)(H:Ki (m-n).sign h):za (F.Ot a b) Ki h:=by
 refine zw _ (λK' hk=>?_) H;unfold F.Ot;have gE:(dg m.natAbs).length<=8796093022208:=om;have kf:(dg n.natAbs).length<=8796093022208:=on;refine UA ha om (UA hb on ?_);refine oB (λh1=>?_) (λh1=>?_)
 . refine znb ?_;rw[Zp8 h1];exact hk
 . refine We ha om λy hy=>We hb on λz hz=>TX hy hz zO zO ?_
   rw[Zkx h1];have:=Yg (m-n);rw[aM zO];exact hk
end
end Den
end

section
namespace Den
open Go Iv
def wB(a b:Nat):((a:Int)).tdiv (b:Int)=((a/b:Nat):Int):=(Int.ofNat_tdiv a b).symm
def GQ(a b:Nat):((a:Int)).tmod (b:Int)=((a % b:Nat):Int):=(Int.ofNat_tmod a b).symm
def wC{n:Nat}(h:n<W):u32.wrap (n:Int)=(n:Int):=by rw[pZ,Ui h]
def nL{n:Nat}(h:n<W):u64.wrap (n:Int)=(n:Int):=iy (by unfold W at h;omega)
def Zjz{x y:Nat}(hx:x<W)(hy:y<W):Yw .or .u32 (x:Int) (y:Int)=((x ||| y:Nat):Int):=by
 unfold Yw;simp only[Tt];have h1:(Ld 32 (x:Int) ||| Ld 32 (y:Int)).toNat=x ||| y:=by
  unfold W at *;rw[Pe,Pe,BitVec.toNat_or,Pf,Pf,Ui zO,Ui zO]
 have h2:x ||| y<W:=Nat.or_lt_two_pow (n:=32) hx hy
 exact(congrArg (λz:Nat=>u32.wrap (z:Int)) h1).trans (wC h2)
def Zyz{x y:Nat}(hx:x<18446744073709551616)(hy:y<18446744073709551616):Yw .or .u64 (x:Int) (y:Int)=((x ||| y:Nat):Int):=by
 unfold Yw;simp only[Tt];have h1:(Ld 64 (x:Int) ||| Ld 64 (y:Int)).toNat=x ||| y:=by
  rw[Pe,Pe,BitVec.toNat_or,Pf,Pf,Ui zO,Ui zO]
 have h2:x ||| y<18446744073709551616:=Nat.or_lt_two_pow (n:=64) hx hy
 exact(congrArg (λz:Nat=>u64.wrap (z:Int)) h1).trans (iy h2)
def bl(n:Nat):Nat:=if n=0 then 0 else n.log2+1
def UF(n:Nat):n<2 ^ bl n:=by
 unfold bl;split;rename_i h;subst h;decide;exact Nat.lt_log2_self
def Zdb{n:Nat}(h:n≠0):2 ^ (bl n-1)<=n:=by
 unfold bl;rw[if_neg h];exact Nat.log2_self_le h
def Z3c{n:Nat}(h:n≠0):0<bl n:=by unfold bl;rw[if_neg h];omega
def Z8d{n b:Nat}(h1:2 ^ b<=n)(h2:n<2 ^ (b+1)):bl n=b+1:=by
 have h0:n≠0:=by have:=J7 b;omega
 unfold bl;rw[if_neg h0];have h3:=(Nat.le_log2 h0 (k:=b)).2 h1;have h4:=(Nat.log2_lt h0 (k:=b+1)).2 h2;omega
def Zo4:bl 0=0:=rfl
def LG{n k:Nat}(h:n<2 ^ k):bl n<=k:=by
 unfold bl;split;omega
 . rename_i h0;have:=(Nat.log2_lt h0 (k:=k)).2 h;omega
def zp6{n k:Nat}(h:2 ^ k<=n):bl n=bl (n/2 ^ k)+k:=by
 have h0:n/2 ^ k≠0:=by
  have:=Nat.div_pos h (J7 k);omega
 have h1:=Zdb h0;have h2:=UF (n/2 ^ k);have h3:=Z3c h0;obtain⟨b,hb⟩:∃b,bl (n/2 ^ k)=b+1:=⟨bl (n/2 ^ k)-1,zO⟩;rw[hb]at h1 h2 |-
 simp only[Nat.add_sub_cancel]at h1;rw[Nat.le_div_iff_mul_le (J7 k),<-Gm]at h1;rw[Ta (J7 k),<-Gm]at h2;rw[Z8d (b:=b+k) h1 (by rw[show b+k+1=b+1+k by omega];exact h2)];omega
def Zo3{n:Nat}(h:n≠0):bl n=bl (n/2)+1:=by
 by_cases h1:n=1;subst h1;decide
 . have:=zp6 (n:=n) (k:=1) (by simp;omega);simpa using this
section
variable {l:List Nat}{b:Nat}{Kp:zY (Sl × Sl)}{Kq:zY (Sl × Int)}
def Zch{r l:List Nat}{b rem j:Nat}(hj:j<l.length)(dG:r.length=l.length)(hv:vl (l.drop (j+1))=b*vl (r.drop (j+1))+rem) :
 vl (l.drop j)=b*vl ((r.set j ((rem*W+l[j])/b)).drop j)+(rem*W+l[j]) % b:=by
 rw[Uf (l:=l) hj,Uf (l:=r.set j ((rem*W+l[j])/b)) (by simpa [dG] using hj),Lk];simp only[vl];rw[List.drop_set_of_lt zO,hv];have e:=Nat.div_add_mod (rem*W+l[j]) b;rw[U5,U5,J4 rem W]at *;have:W*(b*vl (r.drop (j+1)))=b*(W*vl (r.drop (j+1))):=by rw[<-J6,J4 W b,J6]
 omega
def Zaa{b rem w:Nat}(hr:rem<b)(hw:w<W):(rem*W+w)/b<W:=by
 rw[Ta zO];have:(rem+1)*W<=b*W:=Nat.mul_le_mul_right _ hr;rw[J9]at this;rw[J4 W b];omega
def Zcg{b rem w:Nat}(hr:rem<b)(hb:b<W)(hw:w<W) :
 u32.wrap (u64.wrap ((Yw .or .u64 (u64.wrap ((rem:Int)*2 ^ (min (32:Int).toNat u64.bits))) (u64.wrap (w:Int))).tdiv (u64.wrap (b:Int))))=(((rem*W+w)/b:Nat):Int):=by
 have h1:=Zaa hr hw;rw[GN zO hw,nL hb,wB,nL h1,wC h1]
def Z8g{x:Sl}{l:List Nat}{b:Nat}{m1:Sl}{h h1:Hp}{Kf:Int->Hp->Prop}(hx:aL h x l)(ol:aX l)(hb:0<b)(zF:b<W)(hl:l.length<=35184372088800)
 (ho:Yz h h1 m1 (Jl l.length 0)) (H:∀h' r,Yz h h' m1 r->aX r->r.length=l.length->vl r=vl l/b->Kf ((vl l % b:Nat):Int) h') :
 (zx (S:=Int×Int×Unit) (λs2 k3 h2=>
   (ak (decide (s2.2.1>=0))
   (0<=(32:Int) /\
   (zi x s2.2.1 1 λa4=>
   (aB (.int .u32) a4 (λx5=>
   (((u64.wrap ((b:Nat):Int)):Int)≠0 /\
   (zi m1 s2.2.1 1 λa6=>
   (bD a6 [.int .u32 (u32.wrap ((u64.wrap (((Yw .or .u64 (u64.wrap (s2.1*2 ^ (min (32:Int).toNat u64.bits))) (u64.wrap (x5))):Int).tdiv (u64.wrap ((b:Nat):Int))))))] (λh3=>
   (((u64.wrap ((b:Nat):Int)):Int)≠0 /\
   (k3 (((Yw .or .u64 (u64.wrap (s2.1*2 ^ (min (32:Int).toNat u64.bits))) (u64.wrap (x5))):Int).tmod (u64.wrap ((b:Nat):Int)),(i64.wrap (s2.2.1-1)),()) h3))) h2)))) h2)))
   (Kf s2.1 h2)))
   (0,(i64.wrap ((x.len:Int)-1)),()) h1):=by
 have lx:=hx.len;refine Za (λst h'=>∃(k rem:Nat) (r:List Nat),st=((rem:Int),(k:Int)-1,())/\k<=l.length/\rem<b/\Yz h h' m1 r/\aX r/\r.length=l.length/\vl (l.drop k)=b*vl (r.drop k)+rem)
  (λst=>(st.2.1+1).toNat) ⟨l.length,0,_,by rw[lx,aM zO];rfl,Jd _,hb,ho,tU _,zS,by rw[G7 (Jd _),G7 zS];rfl⟩ ?_
 rintro st h2 ⟨k,rem,r,rfl,hk,Br,dA,dJ,dG,hv⟩;refine zg (λh3=>?_) (λh3=>?_)
 . obtain⟨j,rfl⟩:∃j,k=j+1:=⟨k-1,by have:(k:Int)-1>=0:=h3;omega⟩;have hj:j<l.length:=zO;have hw:=Qb ol hj;have cd:u64.wrap (b:Int)≠0:=by rw[nL zF];omega
   have fy:((j+1:Nat):Int)-1=(j:Int):=zO;simp only[fy];refine⟨zD,Zq j (hx.le dA.1) rfl hj λa ha=>⟨_,ha,cd,?_⟩⟩;refine Vn j _ dA rfl zO (Zcg Br zF hw) λh5 b5 _ _ _ cV=>⟨cd,?_⟩
   rw[GN zO hw,nL zF,GQ];refine⟨⟨j,_,_,by rw[aM zO],zO,Ga _ hb,cV,kX dJ (Zaa Br hw),by simp[dG],Zch hj dG hv⟩,by rw[aM zO];omega⟩
 . obtain rfl:k=0:=by have:¬(k:Int)-1>=0:=h3;omega
   simp only[Tf]at hv;have e1:vl l/b=vl r:=by rw[hv,Nat.mul_add_div hb,Pl Br];omega
   have e2:vl l % b=rem:=by rw[hv,Nat.mul_add_mod,Ui Br]
   have:=H h2 r dA dJ dG e1.symm;rw[e2]at this;exact this
def zog(hx:aL h x l)(ol:aX l)(hb:0<b)(zF:b<W)(hl:l.length<=35184372088800)
 (H:∀z w h',h.le h'->aL h' z (dg (vl l/b))->aL h' w (dg (vl l % b))->Kp (z,w) h'):za (F.z1m x b) Kp h:=by
 refine zb (λv h'=>aL h' v.1 (dg (vl l/b))/\aL h' v.2 (dg (vl l % b))) (λK' hk=>?_) λ⟨z,w⟩ h' hl hz=>H z w h' hl hz.1 hz.2
 unfold F.z1m;have lx:=hx.len;refine rC l.length l.length zO zO zO zO λm1 h1 hw dE=>?_
 refine Z8g (Kf:=λ(s:Int) h2=>za (F.Zb m1) (λr7 h4=>za (F.Yo s) (λr8 h5=>K' (r7,r8) h5) h4) h2) hx ol hb zF hl dE λh3 r ho dJ dG hv=>?_
 refine Vu ho.ep zO λz hz=>?_
 rw[Yj dJ,hv]at hz;have:=Ga (vl l) hb;refine TU rfl (by unfold W at zF;omega) λw h4 cf hw4=>hk _ _ (Hp.le_trans ho.1 cf) ⟨hz.le cf,hw4⟩
def Zo8(hx:aL h x l)(ol:aX l)(hb:0<b)(zF:b<W)(hl:l.length<=35184372088800)
 (H:∀z h',h.le h'->aL h' z (dg (vl l/b))->Kq (z,((vl l % b:Nat):Int)) h'):za (F.zl6 x b) Kq h:=by
 refine zb (λv h'=>aL h' v.1 (dg (vl l/b))/\v.2=((vl l % b:Nat):Int)) (λK' hk=>?_) λ⟨z,w⟩ h' hl hz=>by
  obtain⟨h1,h2⟩:=hz;simp only at h1 h2;subst h2;exact H z h' hl h1
 unfold F.zl6;have lx:=hx.len;refine rC l.length l.length zO zO zO zO λm1 h1 hw dE=>?_
 refine Z8g (Kf:=λ(s:Int) h2=>za (F.Zz m1) (λr7 h4=>K' (r7,u32.wrap s) h4) h2) hx ol hb zF hl dE λh3 r ho dJ dG hv=>?_
 refine Xe ho.ep zO λz hz=>?_
 rw[Yj dJ,hv]at hz;have:=Ga (vl l) hb;exact hk _ _ ho.1 ⟨hz,wC zO⟩
def Zjj{s:Nat}(hs:s<=32):(2:Int) ^ (min ((s:Int)).toNat u64.bits)=((2 ^ s:Nat):Int):=by
 have:min ((s:Int)).toNat u64.bits=s:=by show min s 64=s;omega
 rw[this];simp
def zqr{s:Nat}(hs:s<=32):(2:Int) ^ (min ((s:Int)).toNat u32.bits)=((2 ^ s:Nat):Int):=by
 have:min ((s:Int)).toNat u32.bits=s:=by show min s 32=s;omega
 rw[this];simp
def zr5{s:Nat}(hs:s<=32):2 ^ s<=W:=by
 show 2 ^ s<=2 ^ 32;exact Jz zD hs
def zhu{s:Nat}(hs:s<=32):2 ^ s*2 ^ (32-s)=W:=by
 rw[<-Gm,show s+(32-s)=32 by omega];rfl
def zx4{s w:Nat}(hs:s<=32)(hw:w<W):u64.wrap (u64.wrap (w:Int)*2 ^ (min ((s:Int)).toNat u64.bits))=((w*2 ^ s:Nat):Int):=by
 rw[Zjj hs,nL hw,show((w:Int)*((2 ^ s:Nat):Int))=((w*2 ^ s:Nat):Int)by simp];refine iy ?_;have h1:=zr5 hs;have:w*2 ^ s<W*W:=Nat.mul_lt_mul_of_lt_of_le hw h1 Xi;unfold W at this;omega
def zx3{s w:Nat}(hs:s<=32):w*2 ^ s % W=2 ^ s*(w % 2 ^ (32-s)):=by
 rw[<-zhu hs,J4 w,Nat.mul_mod_mul_left]
def Zku{s w:Nat}(hs:s<=32)(hw:w<W):w*2 ^ s/W<2 ^ s:=by
 rw[Ta Xi,J4];exact Nat.mul_lt_mul_of_pos_left hw (J7 s)
def Z5v{s c w:Nat}(hs:s<=32)(hc:c<2 ^ s):c ||| (w*2 ^ s % W)=c+w*2 ^ s % W:=by
 rw[zx3 hs,Nat.or_comm,<-Nat.two_pow_add_eq_or_of_lt hc,Nat.add_comm]
def Zz0{s c w:Nat}(hs:s<=32)(hc:c<2 ^ s):c+w*2 ^ s % W<W:=by
 rw[<-Z5v hs hc];exact Nat.or_lt_two_pow (n:=32) (Tc hc (zr5 hs)) (Ga _ Xi)
def Zt4{s:Nat}(hx:aL h x l)(ol:aX l)(hs:s<=31)(hl:l.length<=35184372088800)
 (H:∀z h' r,Yz h h' z r->aX r->r.length=l.length+1->vl r=vl l*2 ^ s->Ks z h'):F.Xy x (s:Int) Ks h:=by
 unfold F.Xy;have lx:=hx.len;refine rC (l.length+1) (l.length+1) (by rw[aM zO];omega) (by rw[aM zO];omega) zO zO λm1 h1 hw dE=>?_
 refine Za (λst h'=>∃(i:Nat) (r:List Nat),st=((i:Int),())/\i<=l.length/\Yz h h' m1 r/\aX r/\r.length=l.length+1/\(∃hi:i<r.length,r[i]<2 ^ s)/\vl (r.take (i+1))=vl (l.take i)*2 ^ s)
  (λst=>((l.length:Int)-st.1).toNat) ⟨0,_,rfl,Jt _,dE,tU _,zS,⟨zS,by simpa using J7 s⟩,by rw[yu zS];simp[vl]⟩ ?_
 rintro st h2 ⟨i,r,rfl,hi,ho,dJ,dG,⟨nB,hc⟩,hv⟩;refine zg (λh3=>?_) (λh3=>?_)
 . have aA:i<l.length:=by have:(i:Int)<(x.len:Int):=h3;omega
   have hw:=Qb ol aA;refine Zq i (hx.le ho.1) rfl aA λa ha=>⟨_,ha,zO,?_⟩
   refine Zq i ho.ep rfl nB λa2 gP=>⟨_,gP,?_⟩
   rw[zx4 zO hw,pZ];have e1:=Z5v (w:=l[i]) zO hc;have e2:=Zz0 (w:=l[i]) zO hc;refine Vn i (r[i]+l[i]*2 ^ s % W) ho rfl nB ?_ λh5 b5 _ _ _ cV=>⟨zD,?_⟩
   rw[Zjz (Qb dJ nB) (Ga _ Xi),e1]
   . rw[Dx];have e3:=Zku (s:=s) zO hw;have e4:l[i]*2 ^ s/W<W:=Tc e3 (zr5 zO);refine Vn (i+1) (l[i]*2 ^ s/W) cV (by rw[aM zO];rfl) (by simp;omega) (wC e4) λh6 b6 _ _ _ wD=>?_
     have hlen:i+1<((r.set i (r[i]+l[i]*2 ^ s % W)).set (i+1) (l[i]*2 ^ s/W)).length:=by simp;omega
     refine⟨⟨i+1,_,by rw[aM zO];rfl,zO,wD,kX (kX dJ e2) e4,by simp[dG],⟨hlen,by rw[Lk];exact e3⟩,?_⟩,by rw[aM zO];omega⟩;rw[Dz (by simp;omega),Dz nB,yu aA,J9,<-hv,yu nB,Uc,U5];have e:=Pv (l[i]*2 ^ s) W;have e5:=congrArg (W ^ i*·) e;simp only[U5]at e5;rw[J6,J6];omega
 . have aA:i=l.length:=by have:¬(i:Int)<(x.len:Int):=h3;omega
   subst aA;rw[Je (l:=l) (Jd _),Je zO]at hv;exact H _ _ r ho dJ dG hv
def zrq{s:Nat}(hx:aL h x l)(ol:aX l)(hs:s<=31)(hl:l.length<=35184372088800)
 (H:∀z h' r,Yz h h' z r->aX r->r.length=l.length+1->vl r=vl l*2 ^ s->Ks z h'):za (F.Xy x (s:Int)) Ks h:=
 zb (λz h'=>∃r,Yz h h' z r/\aX r/\r.length=l.length+1/\vl r=vl l*2 ^ s) (λK' hk=>Zt4 hx ol hs hl λz h' r h1 h2 h3 h4=>hk z h' h1.1 ⟨r,h1,h2,h3,h4⟩) λz h' _ ⟨r,h1,h2,h3,h4⟩=>H z h' r h1 h2 h3 h4
def zu9{s:Nat}(hx:aL h x l)(ol:aX l)(hs:s<=31)(hl:l.length<=35184372088800)
 (H:∀z h' r,Yz h h' z r->aX r->r.length=l.length+1->vl r=vl l*2 ^ s->Ks z h'):za (F.z8e x (s:Int)) Ks h:=
 zrq hx ol hs hl H
def Z1e{s u v:Nat}(hs:s<=32)(hu:u<W):(u/2 ^ s) ||| (v*2 ^ (32-s) % W)=u/2 ^ s+2 ^ (32-s)*(v % 2 ^ s):=by
 have h1:u/2 ^ s<2 ^ (32-s):=by
  rw[Ta (J7 s),J4,zhu hs];exact hu
 rw[Z5v zO h1,zx3 zO,show 32-(32-s)=s by omega]
def Z6x{s u v:Nat}(hs:s<=32)(hu:u<W):u/2 ^ s+2 ^ (32-s)*(v % 2 ^ s)<W:=by
 rw[<-Z1e hs hu];exact Nat.or_lt_two_pow (n:=32) (U7 (G6 _ _) hu) (Ga _ Xi)
def Z1d{r l:List Nat}{s i z0:Nat}(hs:s<=32)(hi:i<l.length)(dG:r.length=l.length)
 (hv:2 ^ s*vl (r.take i)+z0=vl (l.take i)+W ^ i*(l.getD i 0 % 2 ^ s)) :
 2 ^ s*vl ((r.set i (l[i]/2 ^ s+2 ^ (32-s)*(l.getD (i+1) 0 % 2 ^ s))).take (i+1))+z0=vl (l.take (i+1))+W ^ (i+1)*(l.getD (i+1) 0 % 2 ^ s):=by
 rw[Dz zO,yu hi];rw[Bo hi]at hv;have e:=Nat.div_add_mod l[i] (2 ^ s);have p:=zhu hs;rw[Uc];generalize l.getD (i+1) 0 % 2 ^ s=A at *;generalize 2 ^ (32-s)=Q at *;generalize 2 ^ s=S at *;generalize W ^ i=P at *;generalize l[i] % S=B at *;generalize l[i]/S=C at *;generalize l[i]=D at *;generalize vl (r.take i)=R at *;generalize vl (l.take i)=L at *;rw[<-p,<-e];clear dG hi hs e p
 grind
def Z9p{r l:List Nat}{s:Nat}(dG:r.length=l.length)(hv:2 ^ s*vl (r.take l.length)+l.getD 0 0 % 2 ^ s=vl (l.take l.length)+W ^ l.length*(l.getD l.length 0 % 2 ^ s)):vl r=vl l/2 ^ s:=by
 rw[Je (l:=r) zO,Je (Jd _),Bp (Jd _),Nat.zero_mod,Tv,G0]at hv;rw[<-hv,Nat.mul_add_div (J7 s),Pl (Ga _ (J7 s)),G0]
def zx5{s w:Nat}(hs:s<=32):((w:Int)).fdiv (2 ^ (min ((s:Int)).toNat u32.bits))=((w/2 ^ s:Nat):Int):=by
 rw[zqr hs];exact(Int.ofNat_fdiv w (2 ^ s)).symm
def Zc4{s w:Nat}(hs:s<=32):((w:Int)).fdiv (2 ^ (min ((s:Int)).toNat u64.bits))=((w/2 ^ s:Nat):Int):=by
 rw[Zjj hs];exact(Int.ofNat_fdiv w (2 ^ s)).symm
def Z1c{s:Nat}(hx:aL h x l)(ol:aX l)(hs:s<=31)(hl:l.length<=35184372088800)
 (H:∀z h' r,h.le h'->aL h' z r->aX r->r.length=l.length->vl r=vl l/2 ^ s->Ks z h'):za (F.W8 x (s:Int)) Ks h:=by
 refine zb (λz h'=>∃r,aL h' z r/\aX r/\r.length=l.length/\vl r=vl l/2 ^ s) (λK' hk=>?_) λz h' hl ⟨r,h1,h2,h3,h4⟩=>H z h' r hl h1 h2 h3 h4
 unfold F.W8;have lx:=hx.len;refine rC l.length l.length zO zO zO zO λm1 h1 hw dE=>?_
 refine Za (λst h'=>∃(i:Nat) (r:List Nat),st=((i:Int),())/\i<=l.length/\Yz h h' m1 r/\aX r/\r.length=l.length/\2 ^ s*vl (r.take i)+l.getD 0 0 % 2 ^ s=vl (l.take i)+W ^ i*(l.getD i 0 % 2 ^ s))
  (λst=>((l.length:Int)-st.1).toNat) ⟨0,_,rfl,Jt _,dE,tU _,zS,by simp[vl]⟩ ?_
 rintro st h2 ⟨i,r,rfl,hi,ho,dJ,dG,hv⟩;refine zg (λh3=>?_) (λh3=>?_)
 . have aA:i<l.length:=by have:(i:Int)<(x.len:Int):=h3;omega
   have hw:=Qb ol aA;have e2:=Z6x (s:=s) (v:=l.getD (i+1) 0) zO hw;have e3:=Z1d zO aA dG hv;refine zj (λ_ h'=>∃r',Yz h h' m1 r'/\r'=r.set i (l[i]/2 ^ s+2 ^ (32-s)*(l.getD (i+1) 0 % 2 ^ s))) ?_ ?_
   . rintro _ h4 ⟨r',gQ,rfl⟩;exact⟨⟨i+1,_,by rw[aM (by simp only;omega)];rfl,zO,gQ,kX dJ e2,by simp[dG],e3⟩,by simp only;rw[aM zO];omega⟩
   . refine Zq i (hx.le ho.1) rfl aA λa ha=>⟨_,ha,zO,?_⟩
     refine Vn i (l[i]/2 ^ s) ho rfl zO (zx5 zO) λh5 b5 _ _ _ cV=>?_
     have wi:i64.wrap ((i:Int)+1)=((i+1:Nat):Int):=by rw[aM zO];rfl
     have ws:i64.wrap (32-(s:Int))=((32-s:Nat):Int):=by rw[aM zO];omega
     simp only[wi,ws];refine zg (λh6=>?_) (λh6=>?_)
     . have da:i+1<l.length:=zO;have dE:=Qb ol da;refine Zq i cV.ep rfl (by simp;omega) λa2 gP=>⟨_,gP,?_⟩
       refine Zq (i+1) (hx.le cV.1) rfl da λa3 GR=>⟨_,GR,zO,?_⟩
       rw[zx4 zO dE,pZ,Lk,Zjz (U7 (G6 _ _) hw) (Ga _ Xi),Z1e zO hw];refine Vn i _ cV rfl (by simp;omega) rfl λh7 b7 _ _ _ ho7=>⟨_,ho7,?_⟩
       rw[List.set_set,Bo da]
     . have da:l.length<=i+1:=zO;refine⟨_,cV,?_⟩;rw[Bp da];simp
 . have aA:i=l.length:=by have:¬(i:Int)<(x.len:Int):=h3;omega
   subst aA;exact hk _ _ ho.1 ⟨r,ho.ep,dJ,dG,Z9p dG hv⟩
def Zd5{s u v:Nat}(hs:s<=31)(hu:u<W)(hv:v<W):u32.wrap ((((v*W+u:Nat):Int)).fdiv (2 ^ (min ((s:Int)).toNat u64.bits)))=((u/2 ^ s+2 ^ (32-s)*(v % 2 ^ s):Nat):Int):=by
 rw[Zc4 zO,pZ];have e:(v*W+u)/2 ^ s=u/2 ^ s+v*2 ^ (32-s):=by
  rw[<-zhu (s:=s) zO];rw[show v*(2 ^ s*2 ^ (32-s))=2 ^ s*(v*2 ^ (32-s))by rw[<-J6,J4 v,J6]];rw[Nat.mul_add_div (J7 s),Nat.add_comm]
 rw[e,Nat.add_mod,zx3 zO,show 32-(32-s)=s by omega];have h1:=Z6x (s:=s) (v:=v) zO hu;rw[Ui (a:=u/2 ^ s) (U7 (G6 _ _) hu),Ui h1]
def Zaj{s:Nat}(hx:aL h x l)(ol:aX l)(hs:s<=31)(hl:l.length<=35184372088800)
 (H:∀z h',h.le h'->aL h' z (dg (vl l/2 ^ s))->Ks z h'):za (F.zel x (s:Int)) Ks h:=by
 refine zb _ (λK' hk=>?_) H;unfold F.zel;have lx:=hx.len;refine rC l.length l.length zO zO zO zO λm1 h1 hw dE=>?_
 refine Za (λst h'=>∃(i:Nat) (r:List Nat),st=((i:Int),())/\i<=l.length/\Yz h h' m1 r/\aX r/\r.length=l.length/\2 ^ s*vl (r.take i)+l.getD 0 0 % 2 ^ s=vl (l.take i)+W ^ i*(l.getD i 0 % 2 ^ s))
  (λst=>((l.length:Int)-st.1).toNat) ⟨0,_,rfl,Jt _,dE,tU _,zS,by simp[vl]⟩ ?_
 rintro st h2 ⟨i,r,rfl,hi,ho,dJ,dG,hv⟩;refine zg (λh3=>?_) (λh3=>?_)
 . have aA:i<l.length:=by have:(i:Int)<(x.len:Int):=h3;omega
   have hw:=Qb ol aA;have oY:=Vx ol (i+1);have e2:=Z6x (s:=s) (v:=l.getD (i+1) 0) zO hw;have e3:=Z1d zO aA dG hv;have wi:i64.wrap ((i:Int)+1)=((i+1:Nat):Int):=by rw[aM zO];rfl
   refine Zq i (hx.le ho.1) rfl aA λa ha=>⟨_,ha,?_⟩
   refine zj (λs h'=>h'=h2/\s=(((l.getD (i+1) 0*W+l[i]:Nat):Int),())) ?_ ?_
   . rintro _ h4 ⟨rfl,rfl⟩;refine⟨zO,?_⟩;simp only;rw[Zd5 hs hw oY];refine Vn i _ ho rfl zO rfl λh5 b5 _ _ _ cV=>?_
     exact⟨⟨i+1,_,by rw[wi],zO,cV,kX dJ e2,by simp[dG],e3⟩,by rw[wi];omega⟩
   . simp only[wi];refine zg (λh6=>?_) (λh6=>?_)
     . have da:i+1<l.length:=zO;refine Zq (i+1) (hx.le ho.1) rfl da λa3 GR=>⟨_,GR,zO,by trivial,?_⟩
       rw[Bo da]at oY |-
       congr 1;rw[nL hw,show(u64.wrap (l[i+1]:Int))=(l[i+1]:Int) from nL oY];have e5:u64.wrap ((l[i+1]:Int)*2 ^ (min (32:Int).toNat u64.bits))=((l[i+1]*2 ^ 32:Nat):Int):=by
        have:=zx4 (s:=32) zO oY;rw[nL oY]at this;exact this
       rw[e5,Zyz (by unfold W at *;omega) (by unfold W at *;omega),Nat.or_comm,J4,<-Nat.two_pow_add_eq_or_of_lt hw];unfold W;congr 1;omega
     . have da:l.length<=i+1:=zO;refine⟨by trivial,?_⟩;rw[Bp da,nL hw];simp
 . have aA:i=l.length:=by have:¬(i:Int)<(x.len:Int):=h3;omega
   subst aA;refine Xe ho.ep zO λz hz=>?_
   rw[Yj dJ,Z9p dG hv]at hz;exact hk _ _ ho.1 hz
end
end Den
end
