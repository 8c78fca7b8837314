/-
  Part 5 of the tools and contracts from which the statement is proved.
-/
import Derived.Test.YtlddjhibbccljaaGreatPartk4
import Derived.Test.YtlddjhibbccljaaGreatProg
import Derived.Laws.Externs
set_option linter.unusedVariables false
open Go.IntKind
section
set_option maxRecDepth 100000
namespace Den
open Go
noncomputable def za5g:ArgT (TRat×Unit):=(ArgT.cons tyTRat ArgT.nil)
noncomputable def za62:Ty Bool:=(Ty.leaf .bool)
noncomputable def zl3:FSem:=mkE za5g za62 (λa=>F.zfp a.1)
noncomputable def za7w:Cfg:={ P:=Go.Proofs.Tryz.prog,n:=19,tab:=[(35,zql)],mutL:=[],rtL:=[(6,1),(7,1),(13,1),(14,1)],locL:=[1] }
noncomputable def za7a:Code:=match Go.Proofs.Tryz.f51.body with | some c=>c | none=>.skip
noncomputable def za6o:An:=(.seq .leaf (.seq .leaf .leaf))
theorem zqu:Entry Go.Proofs.Tryz.prog 51 zl3 false:=
 za0 (C:=za7w) (fn:=Go.Proofs.Tryz.f51) (c:=za7a) (an:=za6o) ⟨za8h,trivial⟩ trivial Go.Proofs.Tryz.func51 rfl rfl (by decide) (λ_=>rfl) (by intro a K D;kernel_rfl)
noncomputable def za5h:ArgT (Sl×Unit):=(ArgT.cons (Ty.leaf .sl) ArgT.nil)
noncomputable def za63:Ty Bool:=(Ty.leaf .bool)
noncomputable def zqo:FSem:=mkE za5h za63 (λa=>F.zkq a.1)
noncomputable def za7x:Cfg:={ P:=Go.Proofs.Tryz.prog,n:=19,tab:=[(51,zl3)],mutL:=[],rtL:=[],locL:=[] }
noncomputable def za7b:Code:=match Go.Proofs.Tryz.f110.body with | some c=>c | none=>.skip
noncomputable def za6p:An:=(.seq .leaf (.seq (.seq .leaf (.block (.loop [(3,.leaf (.int .i64))] (.seq (.seq .leaf (.cond .leaf .leaf)) (.seq (.block (.seq .leaf (.cond (.seq .leaf .leaf) .leaf))) .leaf))))) (.seq .leaf .leaf)))
theorem za8k:Entry Go.Proofs.Tryz.prog 110 zqo false:=
 za0 (C:=za7x) (fn:=Go.Proofs.Tryz.f110) (c:=za7b) (an:=za6p) ⟨zqu,trivial⟩ trivial Go.Proofs.Tryz.func110 rfl rfl (by decide) (λ_=>rfl) (by intro a K D;kernel_rfl)
noncomputable def za55:ArgT (Sl×Unit):=(ArgT.cons (Ty.leaf .sl) ArgT.nil)
noncomputable def za5r:Ty Bool:=(Ty.leaf .bool)
noncomputable def zqh:FSem:=mkE za55 za5r (λa=>F.zkk a.1)
noncomputable def za7l:Cfg:={ P:=Go.Proofs.Tryz.prog,n:=15,tab:=[(110,zqo)],mutL:=[],rtL:=[],locL:=[] }
noncomputable def za6z:Code:=match Go.Proofs.Tryz.f50.body with | some c=>c | none=>.skip
noncomputable def za6d:An:=(.seq .leaf (.seq (.seq .leaf (.block (.loop [(7,.leaf (.int .i64))] (.seq .leaf (.seq (.cond .leaf .leaf) (.seq (.block (.seq .leaf (.seq .leaf (.cond (.seq .leaf .leaf) .leaf)))) .leaf)))))) (.seq .leaf .leaf)))
theorem za8d:Entry Go.Proofs.Tryz.prog 50 zqh false:=
 za0 (C:=za7l) (fn:=Go.Proofs.Tryz.f50) (c:=za6z) (an:=za6d) ⟨za8k,trivial⟩ trivial Go.Proofs.Tryz.func50 rfl rfl (by decide) (λ_=>rfl) (by intro a K D;kernel_rfl)
noncomputable def zxs:ArgT (Sl×Sl×Unit):=(ArgT.cons (Ty.leaf .sl) (ArgT.cons (Ty.leaf .sl) ArgT.nil))
noncomputable def zy8:Ty Sl:=(Ty.leaf .sl)
noncomputable def znf:FSem:=mkE zxs zy8 (λa=>F.zhm a.1 a.2.1)
noncomputable def zzm:Cfg:={ P:=Go.Proofs.Tryz.prog,n:=22,tab:=[(117,zwt),(81,zc7),(21,zwu)],mutL:=[],rtL:=[],locL:=[] }
noncomputable def zz5:Code:=match Go.Proofs.Tryz.f64.body with | some c=>c | none=>.skip
noncomputable def zyo:An:=(.seq .leaf (.seq (.seq .leaf (.block (.loop [(1,.leaf (.sl)),(5,.leaf (.int .i64))] (.seq (.seq .leaf (.cond .leaf .leaf)) (.seq (.block .leaf) .leaf))))) (.seq .leaf .leaf)))
theorem za00:Entry Go.Proofs.Tryz.prog 64 znf false:=
 za0 (C:=zzm) (fn:=Go.Proofs.Tryz.f64) (c:=zz5) (an:=zyo) ⟨zagm,zcr,zagn,trivial⟩ trivial Go.Proofs.Tryz.func64 rfl rfl (by decide) (λ_=>rfl) (by intro a K D;kernel_rfl)
noncomputable def za0m:ArgT (TInt×Unit):=(ArgT.cons tyTInt ArgT.nil)
noncomputable def za15:Ty TInt:=tyTInt
noncomputable def zo6:FSem:=mkE za0m za15 (λa=>F.zg7 a.1)
noncomputable def za2q:Cfg:={ P:=Go.Proofs.Tryz.prog,n:=10,tab:=[(139,zah),(143,zau),(137,zbe)],mutL:=[],rtL:=[(3,1),(5,1)],locL:=[1,2] }
noncomputable def za26:Code:=match Go.Proofs.Tryz.f191.body with | some c=>c | none=>.skip
noncomputable def za1n:An:=(.seq .leaf (.seq (.draw [0,1,2,3,4,5,6,7]) .leaf))
theorem za4o:Entry Go.Proofs.Tryz.prog 191 zo6 false:=
 za0 (C:=za2q) (fn:=Go.Proofs.Tryz.f191) (c:=za26) (an:=za1n) ⟨zam,zbc,zbx,trivial⟩ trivial Go.Proofs.Tryz.func191 rfl rfl (by decide) (λ_=>rfl) (by intro a K D;kernel_rfl)
noncomputable def zxm:ArgT (TInt×TInt×Unit):=(ArgT.cons tyTInt (ArgT.cons tyTInt ArgT.nil))
noncomputable def zy2:Ty (TRat×Int):=(Ty.tup (.cons tyTRat (.cons (Ty.leaf (.int .i64)) .nil)) (λx=>(x.1,x.2,())) (λy=>(y.1,y.2.1)) (λ_=>rfl) (λ_=>rfl))
noncomputable def znd:FSem:=mkE zxm zy2 (λa=>F.zhk a.1 a.2.1)
noncomputable def zzg:Cfg:={ P:=Go.Proofs.Tryz.prog,n:=16,tab:=[(191,zo6),(165,zg1),(130,zct)],mutL:=[],rtL:=[],locL:=[2,3,4] }
noncomputable def zyz:Code:=match Go.Proofs.Tryz.f184.body with | some c=>c | none=>.skip
noncomputable def zyi:An:=(.seq .leaf (.seq (.draw [0,2,1,3,4,5]) (.seq (.seq .leaf (.cond (.seq .leaf .leaf) .leaf)) (.seq .leaf .leaf))))
theorem zzy:Entry Go.Proofs.Tryz.prog 184 znd false:=
 za0 (C:=zzg) (fn:=Go.Proofs.Tryz.f184) (c:=zyz) (an:=zyi) ⟨za4o,zkv,zeb,trivial⟩ trivial Go.Proofs.Tryz.func184 rfl rfl (by decide) (λ_=>rfl) (by intro a K D;kernel_rfl)
noncomputable def zxl:ArgT (Int×Int×Unit):=(ArgT.cons (Ty.leaf (.int .i64)) (ArgT.cons (Ty.leaf (.int .i64)) ArgT.nil))
noncomputable def zy1:Ty TRat:=tyTRat
noncomputable def znc:FSem:=mkE zxl zy1 (λa=>F.zhj a.1 a.2.1)
noncomputable def zzf:Cfg:={ P:=Go.Proofs.Tryz.prog,n:=19,tab:=[(84,ze9),(184,znd),(79,zb0)],mutL:=[],rtL:=[],locL:=[4,5] }
noncomputable def zyy:Code:=match Go.Proofs.Tryz.f160.body with | some c=>c | none=>.skip
noncomputable def zyh:An:=(.seq .leaf (.seq .leaf (.seq (.seq .leaf (.cond (.seq .leaf .leaf) .leaf)) (.seq .leaf .leaf))))
theorem zzx:Entry Go.Proofs.Tryz.prog 160 znc false:=
 za0 (C:=zzf) (fn:=Go.Proofs.Tryz.f160) (c:=zyy) (an:=zyh) ⟨zgf,zzy,zbd,trivial⟩ trivial Go.Proofs.Tryz.func160 rfl rfl (by decide) (λ_=>rfl) (by intro a K D;kernel_rfl)
noncomputable def za13:ArgT (TInterval×Unit):=(ArgT.cons tyTInterval ArgT.nil)
noncomputable def za1m:Ty TRat:=tyTRat
noncomputable def zof:FSem:=mkE za13 za1m (λa=>F.ziw a.1)
noncomputable def za37:Cfg:={ P:=Go.Proofs.Tryz.prog,n:=10,tab:=[(74,zed),(160,znc),(75,zdf)],mutL:=[],rtL:=[(3,1),(5,1)],locL:=[1,2] }
noncomputable def za2n:Code:=match Go.Proofs.Tryz.f120.body with | some c=>c | none=>.skip
noncomputable def za24:An:=(.seq .leaf (.seq .leaf .leaf))
theorem za4t:Entry Go.Proofs.Tryz.prog 120 zof false:=
 za0 (C:=za37) (fn:=Go.Proofs.Tryz.f120) (c:=za2n) (an:=za24) ⟨zgh,zzx,zej,trivial⟩ trivial Go.Proofs.Tryz.func120 rfl rfl (by decide) (λ_=>rfl) (by intro a K D;kernel_rfl)
noncomputable def zi9:ArgT (Sl×TInterval×Int×Int×Unit):=(ArgT.cons (Ty.leaf .sl) (ArgT.cons tyTInterval (ArgT.cons (Ty.leaf (.int .i64)) (ArgT.cons (Ty.leaf (.int .i64)) ArgT.nil))))
noncomputable def zib:Ty Sl:=(Ty.leaf .sl)
noncomputable def zni:FSem:=mkE zi9 zib (λa=>F.zl9 a.1 a.2.1 a.2.2.1 a.2.2.2.1)
noncomputable def zzq(n:Nat):Cfg:={ P:=Go.Proofs.Tryz.prog,n:=46,tab:=[(120,zof),(52,ze3),(118,mkE zi9 zib (λa=>F.zc4 n a.1 a.2.1 a.2.2.1 a.2.2.2.1))],mutL:=[],rtL:=[(28,5),(37,5)],locL:=[5,9] }
noncomputable def zz9:Code:=match Go.Proofs.Tryz.f118.body with | some c=>c | none=>.skip
noncomputable def zys:An:=(.seq .leaf (.seq (.seq .leaf (.block (.seq .leaf (.cond (.seq .leaf .leaf) (.seq .leaf (.cond (.seq .leaf .leaf) .leaf)))))) (.seq .leaf (.seq .leaf (.seq .leaf (.seq .leaf (.seq .leaf .leaf)))))))
theorem znl:∃fn,Go.Proofs.Tryz.prog.funcs[118]?=some fn/\fn.body.isNone=false/\(fn.name == "runtime.NumGoroutine")=false:=⟨_,Go.Proofs.Tryz.func118,rfl,by decide⟩
theorem znm:∀n a K D w,Sub D w->F.zc4 n a.1 a.2.1 a.2.2.1 a.2.2.2.1 K D->Calls Go.Proofs.Tryz.prog 118 (zi9.up a).toArray w (Post (λv h=>zib.dn v λr=>K r h) D w)
 | 0,_,_,_,_,_,h=>h.elim
 | n+1,a,K,D,w,hs,h=>zaao (C:=zzq n) (F:=λa=>F.zc4 (n+1) a.1 a.2.1 a.2.2.1 a.2.2.2.1) (fn:=Go.Proofs.Tryz.f118) (c:=zz9) (an:=zys) ⟨za4t,zfg,(zw3 znl (znm n)),trivial⟩ trivial Go.Proofs.Tryz.func118 rfl rfl (λ_=>rfl) (by intro a K D;kernel_rfl) a K D w hs h
theorem za03:Entry Go.Proofs.Tryz.prog 118 zni false:=zw3 znl (λa K D w hs h=>h.elim λm h=>znm m a K D w hs h)
noncomputable def zxu:ArgT (Sl×Unit):=(ArgT.cons (Ty.leaf .sl) ArgT.nil)
noncomputable def zya:Ty Sl:=(Ty.leaf .sl)
noncomputable def zng:FSem:=mkE zxu zya (λa=>F.zhn a.1)
noncomputable def zzo:Cfg:={ P:=Go.Proofs.Tryz.prog,n:=23,tab:=[(107,zhe),(113,zjq),(52,ze3),(118,zni)],mutL:=[],rtL:=[(15,4),(19,4)],locL:=[4] }
noncomputable def zz7:Code:=match Go.Proofs.Tryz.f65.body with | some c=>c | none=>.skip
noncomputable def zyq:An:=(.seq .leaf (.seq .leaf (.seq (.seq .leaf (.cond (.seq .leaf .leaf) .leaf)) (.seq .leaf (.seq (.draw [0,1,2,3,4,6,7,8,5,9,10,11]) .leaf)))))
theorem za01:Entry Go.Proofs.Tryz.prog 65 zng false:=
 za0 (C:=zzo) (fn:=Go.Proofs.Tryz.f65) (c:=zz7) (an:=zyq) ⟨zlb,zp7,zfg,za03,trivial⟩ trivial Go.Proofs.Tryz.func65 rfl rfl (by decide) (λ_=>rfl) (by intro a K D;kernel_rfl)
noncomputable def zr0:ArgT (Sl×Bool×A2_TRat×Unit):=(ArgT.cons (Ty.leaf .sl) (ArgT.cons (Ty.leaf .bool) (ArgT.cons zale ArgT.nil)))
noncomputable def zr9:Ty Bool:=(Ty.leaf .bool)
noncomputable def zsa:FSem:=mkE zr0 zr9 (λa=>F.zh2 a.1 a.2.1 a.2.2.1)
noncomputable def zs2:Cfg:={ P:=Go.Proofs.Tryz.prog,n:=111,tab:=[(63,zmj),(64,znf),(36,zwr),(57,zl5),(54,zl4),(65,zng),(49,zqg),(50,zqh),(51,zl3)],mutL:=[],rtL:=[(29,5),(35,5),(75,5),(82,5),(96,5),(98,5)],locL:=[5,11,14] }
noncomputable def zrr:Code:=match Go.Proofs.Tryz.f13.body with | some c=>c | none=>.skip
noncomputable def zri:An:=(.seq .leaf (.join [] (.seq .leaf (.cond (.seq .leaf .leaf) .leaf)) (.seq .leaf (.join [(7,.leaf (.sl))] (.seq .leaf (.cond .leaf .leaf)) (.seq .leaf (.seq .leaf (.seq (.seq .leaf (.block (.loop [(8,.leaf (.int .i64)),(9,.leaf (.int .i64)),(51,.leaf (.int .i64))] (.seq .leaf (.seq (.cond .leaf .leaf) (.join [(8,.leaf (.int .i64)),(9,.leaf (.int .i64))] (.block (.seq .leaf (.seq .leaf (.seq (.seq .leaf (.block (.loop [(12,.leaf (.bool)),(60,.leaf (.int .i64))] (.seq .leaf (.seq (.cond .leaf .leaf) (.join [(12,.leaf (.bool))] (.block (.seq .leaf .leaf)) .leaf)))))) (.seq (.seq .leaf (.cond .leaf .leaf)) (.seq .leaf (.seq .leaf (.cond .leaf .leaf)))))))) .leaf)))))) (.seq .leaf .leaf))))))))
theorem zair:Entry Go.Proofs.Tryz.prog 13 zsa false:=
 za0 (C:=zs2) (fn:=Go.Proofs.Tryz.f13) (c:=zrr) (an:=zri) ⟨zuw,za00,zagk,zqw,zqv,za01,za8c,za8d,zqu,trivial⟩ trivial Go.Proofs.Tryz.func13 rfl rfl (by decide) (λ_=>rfl) (by intro a K D;kernel_rfl)
end Den
end

section
namespace Den
open Go Iv Pq
def CD(a:Nat)(f:Nat->Rat):Prop:=∃(D:Int) (n:Nat->Int),D≠0/\Lt a D/\(∀j,Lt a (n j))/\∀j,f j*(D:Rat)=(n j:Rat)
theorem zms{D:Int}(h:D≠0):(D:Rat)≠0:=λh0=>h (Rat.intCast_inj.1 (by rw[h0];rfl))
theorem zcz(x:Rat):x*((x.den:Nat):Rat)=(x.num:Rat):=by
 have h:=Rat.num_divInt_den x
 rw[Rat.divInt_eq_div,Rat.intCast_natCast]at h
 have h0:((x.den:Nat):Rat)≠0:=by
  have:=zms (zcb x)
  rwa [Rat.intCast_natCast]at this
 have h2:=Rat.mul_inv_cancel _ h0
 rw[Rat.div_def]at h
 generalize ((x.den:Nat):Rat)=d at *
 generalize ((x.num:Int):Rat)=m at *
 rw[<-h,Rat.mul_assoc,Rat.mul_comm d⁻¹ d,h2,Rat.mul_one]
theorem Lt.zero{k:Nat}:Lt k 0:=by unfold Lt;exact Nat.pow_pos W_pos
theorem CD.mono{a b:Nat}{f:Nat->Rat}(h:CD a f)(hb:a<=b):CD b f:=by
 obtain⟨D,n,h1,h2,h3,h4⟩:=h
 exact⟨D,n,h1,h2.mono hb,λj=>(h3 j).mono hb,h4⟩
theorem CD.congr{a:Nat}{f g:Nat->Rat}(h:CD a f)(hg:∀j,g j=f j):CD a g:=by
 obtain⟨D,n,h1,h2,h3,h4⟩:=h
 exact⟨D,n,h1,h2,h3,λj=>by rw[hg];exact h4 j⟩
theorem BR_of{a:Nat}{x:Rat}{D n:Int}(h0:D≠0)(hD:Lt a D)(hn:Lt a n)(he:x*(D:Rat)=(n:Rat)):BR a x:=by
 have e:x=Rat.divInt n D:=by
  rw[Rat.divInt_eq_div,<-he,Rat.div_def,Rat.mul_assoc,Rat.mul_inv_cancel _ (zms h0),Rat.mul_one]
 rw[e];exact BR.divInt hn hD h0
theorem CD.br{a:Nat}{f:Nat->Rat}(h:CD a f)(j:Nat):BR a (f j):=by
 obtain⟨D,n,h1,h2,h3,h4⟩:=h
 exact BR_of h1 h2 (h3 j) (h4 j)
theorem CD.step{A B d s:Nat}{f b:Nat->Rat}(hf:CD A f)(hb:CD B b)(h0:b d≠0):CD (A+B+1) (stepF b d s f):=by
 obtain⟨D,n,h1,h2,h3,h4⟩:=hf
 obtain⟨E,m,g1,g2,g3,g4⟩:=hb
 have hE:=zms g1
 have hm:m d≠0:=λhm=>h0 (by
  have:=g4 d
  rw[hm]at this
  rcases Rat.mul_eq_zero.1 (show b d*(E:Rat)=0 from this)with h | h
  . exact h
  . exact absurd h hE)
 refine⟨D*m d,λj=>if s<=j then n j*m d+-(n (s+d)*m (j-s))else n j*m d,Int.mul_ne_zero h1 hm,(h2.mul (g3 d)).mono (by omega),λj=>?_,λj=>?_⟩
 . simp only
   split
   . exact((h3 j).mul (g3 d)).addm ((h3 (s+d)).mul (g3 (j-s))).neg
   . exact((h3 j).mul (g3 d)).mono (by omega)
 . simp only
   unfold stepF
   rw[Rat.intCast_mul]
   split
   . have e1:b (j-s)/b d*(m d:Rat)=(m (j-s):Rat):=by
      rw[<-g4 d,<-g4 (j-s),Rat.div_def]
      have:=Rat.mul_inv_cancel _ h0
      grind
     have e2:f (s+d)/b d*b (j-s)=f (s+d)*(b (j-s)/b d):=by rw[Rat.div_def,Rat.div_def];grind
     rw[Rat.intCast_add,Rat.intCast_neg,Rat.intCast_mul,Rat.intCast_mul,<-h4 j,<-h4 (s+d),<-e1,e2]
     grind
   . rw[Rat.intCast_mul,<-h4 j];grind
theorem CD.restK{A B d N:Nat}{f b:Nat->Rat}(hf:CD A f)(hb:CD B b)(h0:b d≠0):∀{k:Nat},CD (A+k*(B+1)) (restK b d N f k)
 | 0=>hf.mono (by omega)
 | k+1=>by
   have ih:=CD.restK (N:=N) hf hb h0 (k:=k)
   have:=ih.step hb h0 (s:=N-1-k)
   refine CD.mono this ?_
   rw[Nat.succ_mul];omega
theorem CD.mon{A d:Nat}{f:Nat->Rat}(hf:CD A f)(h0:f d≠0):CD A (λj=>(((1:Int):Rat))/f d*f j):=by
 obtain⟨D,n,h1,h2,h3,h4⟩:=hf
 have hD:=zms h1
 have hn:n d≠0:=λhn=>h0 (by
  have:=h4 d
  rw[hn]at this
  rcases Rat.mul_eq_zero.1 (show f d*(D:Rat)=0 from this)with h | h
  . exact h
  . exact absurd h hD)
 refine⟨n d,n,hn,h3 d,h3,λj=>?_⟩
 rw[<-h4 d,<-h4 j,Rat.div_def]
 have:=Rat.mul_inv_cancel _ h0
 have e:(((1:Int):Rat))=1:=rfl
 grind
theorem CD.der{A N:Nat}{f:Nat->Rat}(hf:CD A f)(hz:∀i,N<=i->f i=0)(hN:N<=4294967296):CD (A+1) (der f):=by
 obtain⟨D,n,h1,h2,h3,h4⟩:=hf
 refine⟨D,λi=>if i+1<N then n (i+1)*((i+1:Nat):Int)else 0,h1,h2.mono (by omega),λj=>?_,λj=>?_⟩
 . simp only
   split
   . refine(h3 _).mul ?_
     unfold Lt
     rw[Nat.pow_one,W_eq,Int.natAbs_natCast];omega
   . exact Lt.zero
 . simp only
   unfold Pq.der
   split
   . rw[Rat.intCast_mul,<-h4 (j+1),Rat.intCast_natCast];grind
   . rw[hz (j+1) (by omega)]
     show _=(0:Rat)
     grind
theorem CD.neg{A:Nat}{f:Nat->Rat}(hf:CD A f):CD A (λj=>(((-1:Int):Rat))*f j):=by
 obtain⟨D,n,h1,h2,h3,h4⟩:=hf
 refine⟨D,λj=>-(n j),h1,h2,λj=>(h3 j).neg,λj=>?_⟩
 have e2:((-(n j):Int):Rat)=-((n j:Int):Rat):=Rat.intCast_neg _
 simp only
 rw[e2,<-h4 j]
 have e:(((-1:Int):Rat))=-1:=rfl
 grind
theorem CD.of_BR{k N:Nat}{f:Nat->Rat}(hf:∀j,BR k (f j))(hz:∀i,N<=i->f i=0):CD ((N+1)*k+1) f:=by
 have key:∀M,∃D:Int,D≠0/\Lt (M*k+1) D/\∀j,j<M->∃t:Int,f j*(D:Rat)=(t:Rat):=by
  intro M
  induction M with
  | zero=>exact⟨1,by decide,by unfold Lt;rw[Nat.zero_mul,W_eq];decide,λj hj=>absurd hj (Nat.not_lt_zero j)⟩
  | succ M ih=>
    obtain⟨D,h1,h2,h3⟩:=ih
    refine⟨D*((f M).den:Int),Int.mul_ne_zero h1 (zcb (f M)),(h2.mul (hf M).2).mono (by rw[Nat.succ_mul];omega),λj hj=>?_⟩
    rw[Rat.intCast_mul]
    by_cases hjM:j=M
    . subst hjM
      refine⟨(f j).num*D,?_⟩
      rw[Rat.intCast_mul,Rat.intCast_natCast]
      have:=zcz (f j)
      grind
    . obtain⟨t,ht⟩:=h3 j (by omega)
      refine⟨t*((f M).den:Int),?_⟩
      rw[Rat.intCast_mul,<-ht];grind
 obtain⟨D,h1,h2,h3⟩:=key N
 have h4:∀j,∃t:Int,f j*(D:Rat)=(t:Rat):=λj=>by
  rcases Nat.lt_or_ge j N with h | h
  . exact h3 j h
  . exact⟨0,by rw[hz j h];show _=(0:Rat);grind⟩
 have h5:∀j,∃t:Int,f j*(D:Rat)=(t:Rat)/\Lt ((N+1)*k+1) t:=λj=>by
  obtain⟨t,ht⟩:=h4 j
  refine⟨t,ht,?_⟩
  have e:t*((f j).den:Int)=(f j).num*D:=Rat.intCast_inj.1 (by
   rw[Rat.intCast_mul,Rat.intCast_mul,<-ht,Rat.intCast_natCast]
   have:=zcz (f j)
   grind)
  have h5:Lt ((N+1)*k+1) (t*((f j).den:Int)):=by
   rw[e];exact((hf j).1.mul h2).mono (by rw[Nat.succ_mul];omega)
  refine h5.le ?_
  rw[Int.natAbs_mul]
  exact Nat.le_mul_of_pos_right _ (by have:=(f j).den_pos;omega)
 exact⟨D,λj=>(h5 j).choose,h1,h2.mono (by rw[Nat.succ_mul];omega),λj=>(h5 j).choose_spec.2,λj=>(h5 j).choose_spec.1⟩
theorem CD.shift{A i:Nat}{f:Nat->Rat}(hf:CD A f):CD A (λj=>f (i+j)):=by
 obtain⟨D,n,h1,h2,h3,h4⟩:=hf
 exact⟨D,λj=>n (i+j),h1,h2,λj=>h3 _,λj=>h4 _⟩
theorem Lt.pow{B k:Nat}{v:Int}(hv:Lt B v):Lt (k*B+1) (v ^ k):=by
 induction k with
 | zero=>unfold Lt;rw[Int.pow_zero,Nat.zero_mul,W_eq];decide
 | succ k ih=>rw[Int.pow_succ];exact(ih.mul hv).mono (by rw[Nat.succ_mul];omega)
theorem CD.evb{B:Nat}{c:Rat}(hc:BR B c):∀{p:List Rat} {A:Nat},CD A (co p)->BR (A+(p.length+1)*(B+1)+1) (ev p c):=by
 have key:∀(p:List Rat) (A:Nat) (D:Int) (n:Nat->Int),D≠0->(∀j,Lt A (n j))->(∀j,co p j*(D:Rat)=(n j:Rat))->∃t:Int,ev p c*((D*((c.den:Int) ^ p.length):Int):Rat)=(t:Rat)/\Lt (A+(p.length+1)*(B+1)) t:=by
  intro p
  induction p with
  | nil=>intro A D n h1 h3 h4;exact⟨0,by show(0:Rat)*_=0;grind,Lt.zero⟩
  | cons x r ih=>
    intro A D n h1 h3 h4
    obtain⟨t,ht,lt⟩:=ih A D (λj=>n (j+1)) h1 (λj=>h3 _) (λj=>h4 (j+1))
    refine⟨n 0*(c.den:Int) ^ (r.length+1)+c.num*t,?_,?_⟩
    . have e0:=h4 0
      have e1:co (x :: r) 0=x:=rfl
      rw[e1]at e0
      have e2:=zcz c
      have e3:ev (x :: r) c=x+ev r c*c:=rfl
      simp only[Rat.intCast_add,Rat.intCast_mul,Int.pow_succ,List.length_cons,Rat.intCast_natCast]at ht |-
      rw[<-ht,<-e0,<-e2,e3]
      generalize (((c.den:Int) ^ r.length:Int):Rat)=z
      generalize ((c.den:Nat):Rat)=d
      generalize ev r c=y
      generalize (D:Rat)=D'
      grind
    . rw[List.length_cons]
      have e5:(r.length+1+1)*(B+1)=(r.length+1)*(B+1)+(B+1):=Nat.succ_mul _ _
      refine Lt.mono (Lt.addm (k:=A+(r.length+1)*(B+1)+B) ((h3 0).mul (Lt.pow (k:=r.length+1) hc.2) |>.mono ?_) ((hc.1.mul lt).mono (by omega))) (by omega)
      have:(r.length+1)*B+1<=(r.length+1)*(B+1):=by rw[Nat.mul_succ];omega
      omega
 intro p A hA
 obtain⟨D,n,h1,h2,h3,h4⟩:=hA
 obtain⟨t,ht,lt⟩:=key p A D n h1 h3 h4
 have hd:((c.den:Int) ^ p.length)≠0:=Int.pow_ne_zero (zcb c)
 refine BR_of (Int.mul_ne_zero h1 hd) ((h2.mul (Lt.pow hc.2)).mono ?_) (lt.mono (by omega)) ht
 have:p.length*B+1<=(p.length+1)*(B+1):=by rw[Nat.succ_mul,Nat.mul_succ];omega
 omega
end Den
end

section
namespace Den
open Go Iv Pq
def divN(p q:List Rat):Nat:=(trim p).length+1-(trim q).length
def remL(p q:List Rat):List Rat:=trim ((List.range ((trim q).length-1)).map λj=>restK (co q) ((trim q).length-1) (divN p q) (co p) (divN p q) j)
theorem zus{p q:List Rat}:(remL p q).length<=(trim q).length-1:=Nat.le_trans trim_len (by simp)
theorem zkm{p q:List Rat}:nf (remL p q):=nf_trim
theorem zajl{p q rs:List Rat}(hz:∀j,(trim q).length-1<=j->co rs j=0)(hR:∀j,co rs j=restK (co q) ((trim q).length-1) ((trim p).length+1-(trim q).length) (co p) ((trim p).length+1-(trim q).length) j):trim rs=remL p q:=by
 refine zar λi=>?_
 rw[zlr]
 split
 . exact hR i
 . exact hz i (by omega)
theorem zanv{A B:Nat}{p q:List Rat}(hp:CD A (co p))(hq:CD B (co q))(hq0:trim q≠[]):CD (A+divN p q*(B+1)) (co (remL p q)):=by
 have h0:co q ((trim q).length-1)≠0:=by
  have:=nf_top nf_trim hq0
  rw[co_trim]at this
  exact this
 obtain⟨D,n,h1,h2,h3,h4⟩:=CD.restK (N:=divN p q) hp hq h0 (k:=divN p q)
 refine⟨D,λj=>if j<(trim q).length-1 then n j else 0,h1,h2,λj=>?_,λj=>?_⟩
 . simp only
   split
   . exact h3 j
   . exact Lt.zero
 . simp only
   unfold remL
   rw[co_trim,zlr]
   split
   . exact h4 j
   . show(0:Rat)*_=(0:Rat)
     rw[Rat.zero_mul]
def divR(p q qs rs:List Rat):Prop:=(∀j,conv (co qs) (co q) j+co rs j=co p j)/\∀j,(trim q).length-1<=j->co rs j=0
open Classical in
noncomputable def quoL(p q:List Rat):List Rat:=if h:∃Q:List Rat×List Rat,divR p q Q.1 Q.2 then trim h.choose.1 else []
theorem zabt{p q qs rs:List Rat}(hq0:trim q≠[])(h:divR p q qs rs):trim qs=quoL p q:=by
 have hex:∃Q:List Rat×List Rat,divR p q Q.1 Q.2:=⟨(qs,rs),h⟩
 unfold quoL
 rw[dif_pos hex]
 have h2:=hex.choose_spec
 have h0:co q ((trim q).length-1)≠0:=by
  have:=nf_top nf_trim hq0
  rw[co_trim]at this
  exact this
 have hl:0<(trim q).length:=List.length_pos_iff.2 hq0
 exact zar λi=>(div_unique (q:=co qs) (q':=co hex.choose.1) (b:=co q) (r:=co rs) (r':=co hex.choose.2) (n:=qs.length+hex.choose.1.length) h0 (λi hi=>by rw[<-co_trim,co_ge (by omega)]) (λi hi=>co_ge (by omega)) (λi hi=>co_ge (by omega)) h.2 h2.2 λi=>by rw[h.1,h2.1]).1 i
def gcdS:Nat->List Rat->List Rat->List Rat
 | 0,a,_=>a
 | n+1,a,b=>if b=[]then a else gcdS n b (monQ (remL a b))
end Den
end

section
namespace Den
open Go Iv Pq
def cz(c k:Nat):Nat:=(c+1)*3 ^ k-1
theorem za09{c:Nat}:cz c 0=c:=by unfold cz;rw[Nat.pow_zero,Nat.mul_one];rfl
theorem zabc{c k:Nat}:cz c (k+1)=3*cz c k+2:=by
 unfold cz
 have h:0<(c+1)*3 ^ k:=Nat.mul_pos (Nat.succ_pos c) (Nat.pow_pos (by decide))
 rw[Nat.pow_succ,<-Nat.mul_assoc]
 omega
theorem zka{c k j:Nat}(h:k<=j):cz c k<=cz c j:=by
 induction h with
 | refl=>exact Nat.le_refl _
 | step _ ih=>rw[zabc];omega
theorem zam7{c k:Nat}:∀s,cz c k+(s+2)*(cz c k+1)<=cz c (k+s+1)
 | 0=>by rw[zabc];show cz c k+2*(cz c k+1)<=3*cz c k+2;omega
 | s+1=>by
   have ih:=zam7 (c:=c) (k:=k) s
   rw[show k+(s+1)+1=k+s+1+1 from rfl,zabc,Nat.succ_mul]
   omega
theorem CD.pos{a:Nat}{f:Nat->Rat}(h:CD a f):1<=a:=by
 obtain⟨D,n,h1,h2,h3,h4⟩:=h
 rcases a with _ | a
 . unfold Lt at h2;rw[Nat.pow_zero]at h2;omega
 . omega
theorem zalm{a:Nat}(h:1<=a):CD a (co []):=⟨1,λ_=>0,by decide,Lt.mono (k:=1) (by unfold Lt;decide) h,λ_=>Lt.zero,λj=>by rw[co_nil,Rat.zero_mul];rfl⟩
theorem zpa{a:Nat}{p:List Rat}(h:CD a (co p)):CD a (co (monQ p)):=by
 by_cases h0:trim p=[]
 . have:monQ p=[]:=by unfold monQ;rw[h0];rfl
   rw[this];exact zalm h.pos
 . exact(CD.mon (d:=(trim p).length-1) h (zit h0)).congr λj=>za07
theorem zagv{a:Nat}{p:List Rat}(h:CD a (co p))(h8:p.length<=8):CD (a+1) (co (trim (derL p))):=
 CD.congr (h.der (N:=8) (λi hi=>co_ge (by omega)) (by decide)) λj=>by rw[co_trim,zab5]
theorem PL.cd{h:Hp}{B C:Nat}{l:Sl}{p:List Rat}(hp:PL h B l p)(hc:CD C (co p)):PL h C l p:=hp.re λv hv=>by
 obtain⟨i,hi,rfl⟩:=List.mem_iff_getElem.1 hv
 have:=hc.br i
 rwa [co_lt hi]at this
theorem zant{B k:Nat}{p:List Rat}(hp:∀v∈p,BR B v)(hB:1<=B)(h8:p.length<=k):CD ((k+1)*B+1) (co p):=CD.of_BR (λj=>by
 rcases Nat.lt_or_ge j p.length with h | h
 . rw[co_lt h];exact hp _ (List.getElem_mem h)
 . rw[co_ge h];exact zme.mono hB) λi hi=>co_ge (by omega)
def negT(r:List Rat):List Rat:=trim (r.map ((((-1:Int):Rat))*·))
theorem m1_ne:(((-1:Int):Rat))≠0:=by decide
theorem za40{r:List Rat}(hr:nf r):(negT r).length=r.length:=by
 unfold negT
 rw[trim_nf (zabo m1_ne hr),List.length_map]
theorem zabn{r:List Rat}(hr:nf r)(h:r≠[]):negT r≠[]:=λhh=>h (List.eq_nil_of_length_eq_zero (by rw[<-za40 hr,hh];rfl))
theorem zafm:negT []=[]:=rfl
theorem zajf{r:List Rat}:nf (negT r):=nf_trim
theorem zanu{a:Nat}{r:List Rat}(h:CD a (co r)):CD a (co (negT r)):=h.neg.congr λj=>by unfold negT;rw[co_trim,zmh]
structure SzI(c:Nat)(x y:List Rat):Prop where
 lt:y.length<x.length
 le:x.length<=8
 nx:nf x
 ny:nf y
 cx:CD (cz c (8-x.length)) (co x)
 cy:CD (cz c (8-x.length)) (co y)
section
variable {c : Nat} {x y r : List Rat}
theorem SzI.bx(hs:SzI c x y):CD (cz c 7) (co x):=hs.cx.mono (zka (by have:=hs.lt;omega))
theorem SzI.by'(hs:SzI c x y):CD (cz c 7) (co y):=hs.cy.mono (zka (by have:=hs.lt;omega))
theorem SzI.ty(hs:SzI c x y):trim y=y:=trim_nf hs.ny
theorem SzI.tx(hs:SzI c x y):trim x=x:=trim_nf hs.nx
theorem SzI.top(hs:SzI c x y)(h0:y≠[]):co y ((trim y).length-1)≠0:=by rw[hs.ty];exact nf_top hs.ny h0
theorem SzI.room(hs:SzI c x y)(h0:y≠[]):cz c (8-x.length)+((trim x).length+1-(trim y).length)*(cz c (8-x.length)+1)<=cz c (8-y.length):=by
 rw[hs.tx,hs.ty]
 have h1:=hs.lt
 have h2:=hs.le
 have h3:=zam7 (c:=c) (k:=8-x.length) (x.length-y.length-1)
 have e1:x.length-y.length-1+2=x.length+1-y.length:=by omega
 have e2:8-x.length+(x.length-y.length-1)+1=8-y.length:=by omega
 rwa [e1,e2]at h3
theorem SzI.rest(hs:SzI c x y)(h0:y≠[]){k j:Nat}(hk:k<=(trim x).length+1-(trim y).length):BR (cz c 7) (restK (co y) ((trim y).length-1) ((trim x).length+1-(trim y).length) (co x) k j):=by
 refine(((hs.cx.restK hs.cy (hs.top h0)).br j).mono ?_:BR _ _)
 refine Nat.le_trans ?_ (Nat.le_trans (hs.room h0) (zka (by have:=List.length_pos_iff.2 h0;omega)))
 exact Nat.add_le_add_left (Nat.mul_le_mul_right _ hk) _
theorem SzI.step(hs:SzI c x y)(h0:y≠[])(hr:nf r)(hl:r.length<=y.length-1)(hc:∀A,CD A (co (remL x y))->CD A (co r)):SzI c y r:=by
 have hp:=List.length_pos_iff.2 h0
 have h1:=hs.lt
 have h2:=hs.le
 refine⟨by omega,by omega,hs.ny,hr,hs.cy.mono (zka (by omega)),hc _ ?_⟩
 exact(zanv hs.cx hs.cy (by rw[hs.ty];exact h0)).mono (hs.room h0)
theorem zur(hs:SzI c x y):(remL x y).length<=y.length-1:=by have:=zus (p:=x) (q:=y);rwa [hs.ty]at this
theorem SzI.mon(hs:SzI c x y)(h0:y≠[]):SzI c y (monQ (remL x y)):=hs.step h0 zg9 (by rw[zbn,trim_nf zkm];exact zur hs) λA=>zpa
theorem SzI.neg(hs:SzI c x y)(h0:y≠[]):SzI c y (negT (remL x y)):=hs.step h0 zajf (by rw[za40 zkm];exact zur hs) λA=>zanu
def gcdQ(a b:List Rat):List Rat:=gcdS ((monQ b).length+1) (monQ a) (monQ b)
theorem SzI.start{a b:List Rat}(h1:CD c (co a))(h2:CD c (co b))(hlt:(trim b).length<(trim a).length)(h8:(trim a).length<=8):SzI c (monQ a) (monQ b):=by
 refine⟨by rw[zbn,zbn];exact hlt,by rw[zbn];exact h8,zg9,zg9,(zpa h1).mono ?_,(zpa h2).mono ?_⟩
 . have:=zka (c:=c) (Nat.zero_le (8-(monQ a).length));rwa [za09]at this
 . have:=zka (c:=c) (Nat.zero_le (8-(monQ a).length));rwa [za09]at this
theorem zame{n:Nat}(x:List Rat):gcdS n x []=x:=by
 cases n with
 | zero=>rfl
 | succ n=>unfold gcdS;rw[if_pos rfl]
theorem za3q:∀{n:Nat} {x y:List Rat},SzI c x y->y.length<n->nf (gcdS n x y)/\gcdS n x y≠[]/\(gcdS n x y).length<=x.length/\CD (cz c 7) (co (gcdS n x y))
 | n+1,x,y,hs,hn=>by
   have hlt:=hs.lt
   unfold gcdS
   by_cases h0:y=[]
   . rw[if_pos h0]
     exact⟨hs.nx,List.length_pos_iff.1 (by omega),Nat.le_refl _,hs.bx⟩
   . rw[if_neg h0]
     have hs2:=hs.mon h0
     have hlt2:=hs2.lt
     obtain⟨a,b,c1,d⟩:=za3q (n:=n) hs2 (by omega)
     exact⟨a,b,by omega,d⟩
theorem zahs{a b:List Rat}(h1:CD c (co a))(h2:CD c (co b))(hlt:(trim b).length<(trim a).length)(h8:(trim a).length<=8):nf (gcdQ a b)/\gcdQ a b≠[]/\(gcdQ a b).length<=(trim a).length/\CD (cz c 7) (co (gcdQ a b)):=by
 have:=za3q (n:=(monQ b).length+1) (SzI.start h1 h2 hlt h8) (Nat.lt_succ_self _)
 rwa [zbn (p:=a)]at this
theorem zaop{p q qs rs:List Rat}(hq0:trim q≠[])(hd:divR p q qs rs):(trim qs).length<=p.length:=by
 by_cases h0:trim qs=[]
 . rw[h0];exact Nat.zero_le _
 . have l1:=List.length_pos_iff.2 h0
   have l2:=List.length_pos_iff.2 hq0
   have t1:=nf_top nf_trim h0
   have t2:=nf_top nf_trim hq0
   rw[co_trim]at t1 t2
   have z1:∀i,(trim qs).length-1<i->co qs i=0:=λi hi=>by rw[<-co_trim,co_ge (by omega)]
   have z2:∀i,(trim q).length-1<i->co q i=0:=λi hi=>by rw[<-co_trim,co_ge (by omega)]
   have h3:=hd.1 ((trim qs).length-1+((trim q).length-1))
   rw[conv_top z1 z2,hd.2 _ (by omega)]at h3
   rcases Nat.lt_or_ge ((trim qs).length-1+((trim q).length-1)) p.length with h4 | h4
   . omega
   . exfalso
     rw[co_ge h4,Rat.add_zero]at h3
     rcases Rat.mul_eq_zero.1 h3 with h5 | h5
     . exact t1 h5
     . exact t2 h5
noncomputable def sqfL(p:List Rat):List Rat:=if trim p=[]then []else monQ (quoL (monQ p) (gcdQ (monQ p) (trim (derL (monQ p)))))
def chn:Nat->List Rat->List Rat->List (List Rat)
 | 0,_,_=>[]
 | n+1,p,q=>if q=[]then []else q :: chn n q (negT (remL p q))
theorem za04{n:Nat}(p:List Rat):chn n p []=[]:=by
 cases n with
 | zero=>rfl
 | succ n=>unfold chn;rw[if_pos rfl]
noncomputable def chainL(p:List Rat):List (List Rat):=if (trim p).length<2 then []else sqfL p :: chn 9 (sqfL p) (trim (derL (sqfL p)))
theorem zao6{ps:List (List Rat)}{u:Rat}:chN (ps++[[]]) u=chN ps u:=by
 unfold chN
 rw[zaf0]
 rfl
end
end Den
end

section
namespace Den
open Go Iv Pq
section
variable {h : Hp} {A B C c : Nat} {l m : Sl} {p q : List Rat} {K : Sl → Hp → Prop}
theorem zape{c k:Nat}(hc:1<=c):1<=cz c k:=by have:=zka (c:=c) (Nat.zero_le k);rw[za09]at this;omega
theorem zaky(hp:PL h A l p)(hq:PL h B m q)(h1:CD c (co p))(h2:CD c (co q))(hlt:(trim q).length<(trim p).length)(h8:(trim p).length<=8)(hlen:p.length<=800)(hlen2:q.length<=800)(hA:A<=100000000000)(hB:B<=100000000000)(hc:cz c 7<=20000000000)
 (H:∀y h',h.le h'->PL h' (cz c 7) y (gcdQ p q)->K y h'):callP (F.zdi l m) K h:=by
 refine za3 (λy h'=>PL h' (cz c 7) y (gcdQ p q)) (λK' hk=>?_) λy h' hl hy=>H y h' hl hy
 unfold F.zdi
 have hs0:=SzI.start h1 h2 hlt h8
 have c1:1<=cz c 7:=zape h1.pos
 refine zbr hp (by omega) hA λa h3 hl3 ha=>?_
 refine zbr (hq.le hl3) (by omega) hB λb h4 hl4 hb=>?_
 refine zaa (λst h'=>h.le h'/\∃x y n,PL h' (cz c 7) st.1 x/\PL h' (cz c 7) st.2.1 y/\SzI c x y/\y.length<n/\gcdS n x y=gcdQ p q) (λst=>st.2.1.len)
  ⟨Hp.le_trans hl3 hl4,_,_,_,(ha.le hl4).cd hs0.bx,hb.cd hs0.by',hs0,Nat.lt_succ_self _,rfl⟩ ?_
 rintro⟨s,t,_⟩ h5 ⟨hl5,x,y,n,hx,hy,hs,hn,he⟩
 simp only at hx hy
 have ly:=hy.len
 have hlt5:=hs.lt
 have hle5:=hs.le
 refine za5 (λh6=>?_) (λh6=>?_)
 . have h0:y≠[]:=λhh=>by rw[hh]at ly;simp only[ly]at h6;exact absurd h6 (by decide)
   have h0':trim y≠[]:=by rw[hs.ty];exact h0
   obtain⟨n,rfl⟩:∃n',n=n'+1:=⟨n-1,by omega⟩
   unfold gcdS at he
   rw[if_neg h0]at he
   have hs2:=hs.mon h0
   have hlt2:=hs2.lt
   refine zhi hx hy (by omega) (by omega) ⟨c1,by omega⟩ h0' (C:=cz c 7) (λk j hk=>hs.rest h0 hk) ⟨Nat.le_refl _,by omega⟩ λu v h7 qs rs hl7 hu hv a1 a2 a3 a4 a5=>?_
   have hz:PL h7 (cz c 7) v (remL x y):=by rw[<-zajl a4 a5];exact hv
   refine zbr hz (by have:=zur hs;omega) (by omega) λw h8 hl8 hw=>?_
   refine⟨⟨Hp.le_trans hl5 (Hp.le_trans hl7 hl8),y,_,n,(hy.le hl7).le hl8,hw.cd hs2.by',hs2,by omega,he⟩,?_⟩
   have lw:=hw.len
   rw[zbn,trim_nf zkm]at lw
   have:=zur hs
   have:=List.length_pos_iff.2 h0
   simp only
   omega
 . have h0:y=[]:=List.eq_nil_of_length_eq_zero (by simp only at h6;omega)
   subst h0
   rw[zame]at he
   rw[<-he]at hk
   exact hk _ _ hl5 hx
theorem zakx(hp:PL h A l p)(h8:p.length<=8)(h1:CD 28 (co p))(hA:A<=100000000000)
 (H:∀y h',h.le h'->PL h' 5400000 y (sqfL p)->(sqfL p).length<=8->nf (sqfL p)->CD 5400000 (co (sqfL p))->K y h'):callP (F.zb8 l) K h:=by
 refine za3 (λy h'=>PL h' 5400000 y (sqfL p)/\(sqfL p).length<=8/\nf (sqfL p)/\CD 5400000 (co (sqfL p))) (λK' hk=>?_) λy h' hl ⟨a,b,c,d⟩=>H y h' hl a b c d
 unfold F.zb8
 have tl:(trim p).length<=8:=Nat.le_trans trim_len h8
 have lM:(monQ p).length<=8:=by rw[zbn];exact tl
 refine zbr hp (by omega) hA λr1 h3 hl3 hr1=>?_
 have cM:=zpa h1
 have hr1:=hr1.cd cM
 have e1:=hr1.len
 refine zbl (λh4=>?_) (λh4=>?_)
 . have h0:trim p=[]:=List.eq_nil_of_length_eq_zero (by rw[<-zbn];omega)
   have es:sqfL p=[]:=by unfold sqfL;rw[if_pos h0]
   rw[es]at hk
   refine hk _ _ hl3 ⟨PL.nil,Nat.zero_le _,nf_nil,zalm (by decide)⟩
 . have h0:trim p≠[]:=λhh=>by
    have:(monQ p).length=0:=by rw[zbn,hh];rfl
    omega
   have es:sqfL p=monQ (quoL (monQ p) (gcdQ (monQ p) (trim (derL (monQ p))))):=by unfold sqfL;rw[if_neg h0]
   obtain⟨M,hM⟩:∃M,M=monQ p:=⟨_,rfl⟩
   have nM:nf M:=by rw[hM];exact zg9
   rw[<-hM]at es hr1 cM lM e1
   have l0:0<M.length:=by omega
   have cD:=zagv cM lM
   have ldM:(derL M).length=M.length-1:=by unfold derL derP;simp
   have lD:(trim (derL M)).length<=M.length-1:=by rw[<-ldM];exact trim_len
   obtain⟨Dd,hD⟩:∃D,D=trim (derL M):=⟨_,rfl⟩
   have nD:nf Dd:=by rw[hD];exact nf_trim
   refine zer hr1 (by omega) (by decide) λr2 h5 hr2=>?_
   have hl5:=hr2.hle
   have hr2:=hr2.pl.cd cD
   rw[<-hD]at es hr2 cD lD
   have hlt:(trim Dd).length<(trim M).length:=by rw[trim_nf nM,trim_nf nD];omega
   have tM:(trim M).length<=8:=by rw[trim_nf nM];exact lM
   have z7:cz 29 7=65609:=by decide
   refine zaky (c:=29) (hr1.le hl5) hr2 (cM.mono (by decide)) cD hlt tM (by omega) (by omega) (by decide) (by decide) (by decide) λr3 h6 hl6 hr3=>?_
   obtain⟨g1,g2,g3,g4⟩:=zahs (c:=29) (cM.mono (by decide)) cD hlt tM
   obtain⟨G,hG⟩:∃G,G=gcdQ M Dd:=⟨_,rfl⟩
   rw[<-hG]at es hr3 g1 g2 g3 g4
   have tG:=trim_nf g1
   have hG0:trim G≠[]:=by rw[tG];exact g2
   have htop:co G ((trim G).length-1)≠0:=by rw[tG];exact nf_top g1 g2
   have lG:=List.length_pos_iff.2 g2
   rw[z7]at hr3 g4
   have crest:∀k j,k<=(trim M).length+1-(trim G).length->BR 524908 (restK (co G) ((trim G).length-1) ((trim M).length+1-(trim G).length) (co M) k j):=λk j hk=>by
    have h9:k<=8:=by rw[tG]at hk;omega
    have:=Nat.mul_le_mul_right (65609+1) h9
    exact((cM.restK g4 htop).br j).mono (by omega)
   refine zhi ((hr1.le hl5).le hl6) hr3 (by omega) (by omega) (by decide) hG0 (C:=524908) crest (by decide) λu v h7 qs rs hl7 hu hv a1 a2 a3 a4 a5=>?_
   have hu2:PL h7 590517 u (quoL M G):=by rw[<-zabt hG0 ⟨a3,a4⟩];exact hu
   have lq:(quoL M G).length<=8:=by rw[<-zabt hG0 ⟨a3,a4⟩];exact Nat.le_trans (zaop hG0 ⟨a3,a4⟩) lM
   have cq:CD 5400000 (co (quoL M G)):=(zant hu2.bound (by decide) lq).mono (by decide)
   refine zbr hu2 (by omega) (by decide) λw h8 hl8 hw=>?_
   have cw:=zpa cq
   have hw:=hw.cd cw
   rw[<-es]at hw cw
   refine hk _ _ (Hp.le_trans hl3 (Hp.le_trans hl5 (Hp.le_trans hl6 (Hp.le_trans hl7 hl8)))) ⟨hw,?_,?_,cw⟩
   . rw[es,zbn];exact Nat.le_trans trim_len lq
   . rw[es];exact zg9
end
end Den
end

section
namespace Den
open Go Iv Pq
def QD(D h:Hp)(B:Nat)(l:Sl)(ps:List (List Rat)):Prop:=∃ss:List Sl,Own D h 1 l (ss.map slc)/\ss.length=ps.length/\∀k (h1:k<ss.length) (h2:k<ps.length),PL D B ss[k] ps[k]
section
variable {D h : Hp} {A B C c : Nat} {l m : Sl} {p q : List Rat} {ps : List (List Rat)} {K : Sl → Hp → Prop}
theorem QD.qql(hq:QD D h B l ps):QQL h B l ps:=by
 obtain⟨ss,h1,h2,h3⟩:=hq
 exact⟨ss,h1.rd,h2,λk g1 g2=>(h3 k g1 g2).le h1.1⟩
theorem QD.dle(hq:QD D h B l ps):D.le h:=by
 obtain⟨ss,h1,h2,h3⟩:=hq
 exact h1.1
theorem QD.call{α:Type}{G:(α->Hp->Prop)->Hp->Prop}{K1 K:α->Hp->Prop}(hq:QD D h B l ps)(H:callP G K1 D)
 (k:∀v D' h',D.le D'->QD D' h' B l ps->K1 v D'->K v h'):callP G K h:=by
 obtain⟨ss,h1,h2,h3⟩:=hq
 exact h1.call H λv D' h' g1 g2 g3=>k v D' h' g1 ⟨ss,g2,h2,λj j1 j2=>(h3 j j1 j2).le g1⟩ g3
theorem QD.app{s:Sl}(hq:QD D h B l ps)(hx:PL D B s p)(hlen:ps.length<=1000)(H:∀y h',QD D h' B y (ps++[p])->K y h'):appP 1 24 [.slice nilS.a nilS.len nilS.cap] l 1 [.slice s.a s.len s.cap] K h:=by
 obtain⟨ss,h1,h2,h3⟩:=hq
 have hl:=h1.2.1
 simp at hl
 refine zk6 h1 (n:=1) (new:=[slc s]) rfl rfl rfl (by omega) (by omega) λy h' hy _=>H y h' ⟨ss++[s],?_,by simp[h2],λk g1 g2=>?_⟩
 . rw[List.map_append];exact hy
 . rcases Nat.lt_or_ge k ss.length with g | g
   . rw[List.getElem_append_left g,List.getElem_append_left (by omega)];exact h3 k g (by omega)
   . have e1:k=ss.length:=by simp at g1;omega
     subst e1
     have a1:(ss++[s])[ss.length]'g1=s:=by simp
     have a2:(ps++[p])[ss.length]'g2=p:=by simp[h2]
     rw[a1,a2];exact hx
theorem z57:cz 5400001 7=11809804373:=by decide
theorem SzI.sqf{W:List Rat}(lW:W.length<=8)(nW:nf W)(cW:CD 5400000 (co W))(h0:trim (derL W)≠[]):SzI 5400001 W (trim (derL W)):=by
 have ldW:(derL W).length=W.length-1:=by unfold derL derP;simp
 have lD:(trim (derL W)).length<=W.length-1:=by rw[<-ldW];exact trim_len
 have:=List.length_pos_iff.2 h0
 have hz:5400001<=cz 5400001 (8-W.length):=by have:=zka (c:=5400001) (Nat.zero_le (8-W.length));rwa [za09]at this
 exact⟨by omega,lW,nW,nf_trim,cW.mono (by omega),(zagv cW lW).mono hz⟩
theorem zx1(hp:PL h A l p)(h8:p.length<=8)(h1:CD 28 (co p))(hA:A<=100000000000)
 (H:∀y h' ps,h.le h'->QQL h' 11809804373 y ps->ps.length<=10->(∀p∈ps,p.length<=8/\CD 11809804373 (co p))->(∀u,chN ps u=chN (chainL p) u)->K y h'):callP (F.zdm l) K h:=by
 refine za3 (λy h'=>∃ps,QQL h' 11809804373 y ps/\ps.length<=10/\(∀p∈ps,p.length<=8/\CD 11809804373 (co p))/\(∀u,chN ps u=chN (chainL p) u)) (λK' hk=>?_) λy h' hl ⟨ps,a,b,c,d⟩=>H y h' ps hl a b c d
 unfold F.zdm
 refine zmn hp (by omega) (by omega) λh2 hl2=>?_
 refine za5 (λh3=>?_) (λh3=>?_)
 . have e:chainL p=[]:=by unfold chainL;rw[if_pos (by omega)]
   rw[e]at hk
   exact hk _ _ hl2 ⟨[],⟨[],Rd.nil,rfl,λk g1=>by simp at g1⟩,by decide,λp hp=>by simp at hp,λu=>rfl⟩
 . have e:chainL p=sqfL p :: chn 9 (sqfL p) (trim (derL (sqfL p))):=by unfold chainL;rw[if_neg (by omega)]
   refine zakx (hp.le hl2) h8 h1 hA λr2 h4 hl4 hr2 lW nW cW=>?_
   obtain⟨W,hW⟩:∃W,W=sqfL p:=⟨_,rfl⟩
   rw[<-hW]at e hr2 lW nW cW
   have ldW:(derL W).length=W.length-1:=by unfold derL derP;simp
   have lD:(trim (derL W)).length<=W.length-1:=by rw[<-ldW];exact trim_len
   have cD:=zagv cW lW
   have hs0:=SzI.sqf lW nW cW
   refine zer hr2 (by omega) (by decide) λr3 h5 hr3=>?_
   have hl5:=hr3.hle
   have hr3:=hr3.pl.cd cD
   obtain⟨E,hE⟩:∃E,E=trim (derL W):=⟨_,rfl⟩
   rw[<-hE]at e hr3 cD lD hs0
   have hr2:=(hr2.le hl5).mono (show 5400000<=11809804373 by decide)
   have hr3:=hr3.mono (show 5400000+1<=11809804373 by decide)
   refine zeq (n:=2) (size:=1) rfl λb4 h6 hb4 ho=>?_
   have hq0:QD h5 h6 11809804373 ⟨some ⟨b4,0,none⟩,2,2⟩ [W,E]:=⟨[r2,r3],ho,rfl,λk g1 g2=>by
    match k,g1 with
    | 0,_=>exact hr2
    | 1,_=>exact hr3⟩
   have facts0:∀p∈[W,E],p.length<=8/\CD 11809804373 (co p):=λp hp=>by
    rcases List.mem_cons.1 hp with rfl | hp
    . exact⟨lW,cW.mono (by decide)⟩
    . rw[List.mem_singleton.1 hp];exact⟨by omega,cD.mono (by decide)⟩
   refine zaa (λst h'=>∃Dh,h5.le Dh/\∃x y ps,PL Dh 11809804373 st.1 x/\PL Dh 11809804373 st.2.1 y/\QD Dh h' 11809804373 st.2.2.1 ps/\(∀p∈ps,p.length<=8/\CD 11809804373 (co p))/\ps.length+y.length<=10/\x.length<=8/\y.length<=8
    /\ ((y=[]/\∀u,chN ps u=chN (chainL p) u)\/(y≠[]/\SzI 5400001 x y/\∃n,y.length<=n/\ps++chn n y (negT (remL x y))=chainL p))) (λst=>st.2.1.len)
    ⟨h5,Hp.le_refl _,W,E,[W,E],hr2,hr3,hq0,facts0,by simp;omega,lW,by omega,?_⟩ ?_
   . by_cases h0:E=[]
     . refine .inl ⟨h0,λu=>?_⟩
       rw[e,h0,za04]
       exact zao6 (ps:=[W])
     . refine .inr ⟨h0,hs0 h0,8,by omega,?_⟩
       rw[e]
       show _=W :: (if E=[]then []else E :: chn 8 E (negT (remL W E)))
       rw[if_neg h0];rfl
   . rintro⟨s,t,out,_⟩ h7 ⟨Dh,hD,x,y,ps,hx,hy,hq,facts,hlen,l8x,l8,hcase⟩
     simp only at hx hy hq
     have lp:ps.length<=10:=by omega
     have hhh:h.le h7:=Hp.le_trans hl2 (Hp.le_trans hl4 (Hp.le_trans hl5 (Hp.le_trans hD hq.dle)))
     refine hq.call (K1:=λr D'=>(y=[]/\r.2.2≠0)\/(y≠[]/\r.2.2=0/\PL D' 11809804373 r.2.1 (remL x y))) (zoo hx hy (by omega) (by omega) (by decide) (C:=11809804373) (λk j hq0 hk=>?_) (by decide) (λhh D' _=>?_) (λhq0 u v D' qs rs hl7 hu hv a1 a2 a3 a4 a5=>?_)) λr D1 h8 hl8 hq8 hr=>?_
     . rcases hcase with ⟨g0,_⟩ | ⟨g0,g1,_⟩
       . exact absurd (by rw[g0];rfl) hq0
       . have:=g1.rest g0 (j:=j) hk;rwa [z57]at this
     . rcases hcase with ⟨g0,_⟩ | ⟨g0,g1,_⟩
       . exact .inl ⟨g0,by simp⟩
       . exact absurd (by rw[<-g1.ty];exact hh) g0
     . rcases hcase with ⟨g0,_⟩ | ⟨g0,g1,_⟩
       . exact absurd (by rw[g0];rfl) hq0
       . refine .inr ⟨g0,rfl,?_⟩
         rw[<-zajl a4 a5];exact hv
     . have hhh8:h.le h8:=Hp.le_trans hl2 (Hp.le_trans hl4 (Hp.le_trans hl5 (Hp.le_trans hD (Hp.le_trans hl8 hq8.dle))))
       refine za9 (λ_ h'=>h'=h8/\y≠[]/\remL x y≠[]/\PL D1 11809804373 r.2.1 (remL x y)) ?_ ?_
       . rintro _ h9 ⟨rfl,g0,gr,hz⟩
         rcases hcase with ⟨g0',_⟩ | ⟨_,g1,n,hn,he⟩
         . exact absurd g0' g0
         . have hs2:=g1.neg g0
           have hlt2:=hs2.lt
           obtain⟨n,rfl⟩:∃n',n=n'+1:=⟨n-1,by have:=List.length_pos_iff.2 g0;omega⟩
           refine hq8.call (K1:=λv D'=>NR D' v (((-1:Int):Rat))) (zbz (by decide) (by decide) λv D' _ hv=>hv) λv D2 h10 hl10 hq10 hv=>?_
           refine hq10.call (K1:=λu D'=>PL D' 11809804373 u (negT (remL x y))) (zon (hz.le hl10) hv BR_m1 (by have:=zur g1;omega) (by decide) (by decide) λu D' hu=>(hu.pl:PL D' _ u (negT (remL x y))).cd (by have:=hs2.by';rwa [z57]at this)) λu D3 h11 hl11 hq11 hu=>?_
           refine hq11.app hu (by omega) λw h12 hq12=>⟨⟨D3,Hp.le_trans hD (Hp.le_trans hl8 (Hp.le_trans hl10 hl11)),y,negT (remL x y),ps++[negT (remL x y)],((hy.le hl8).le hl10).le hl11,hu,hq12,?_,?_,l8,by omega,.inr ⟨zabn zkm gr,hs2,n,by omega,?_⟩⟩,?_⟩
           . intro p hp
             rcases List.mem_append.1 hp with hp | hp
             . exact facts p hp
             . rw[List.mem_singleton.1 hp];exact⟨by omega,by have:=hs2.by';rwa [z57]at this⟩
           . rw[List.length_append,List.length_singleton];omega
           . rw[<-he]
             show _=ps++(if negT (remL x y)=[]then []else negT (remL x y) :: chn n (negT (remL x y)) (negT (remL y (negT (remL x y)))))
             rw[if_neg (zabn zkm gr),List.append_assoc];rfl
           . simp only
             rw[hu.len,hy.len];omega
       . rcases hr with ⟨g0,gr⟩ | ⟨g0,gr,hz⟩
         . rcases hcase with ⟨_,g1⟩ | ⟨g1,_⟩
           . exact zb1 (by simpa using gr) (hk _ _ hhh8 ⟨ps,hq8.qql,lp,facts,g1⟩)
           . exact absurd g0 g1
         . rw[gr]
           refine zab rfl (zbl (λh9=>?_) (λh9=>⟨rfl,g0,?_,hz⟩))
           . have lz:=hz.len
             have e0:remL x y=[]:=List.eq_nil_of_length_eq_zero (by omega)
             rcases hcase with ⟨g0',_⟩ | ⟨_,g1,n,hn,he⟩
             . exact absurd g0' g0
             . rw[e0,zafm,za04,List.append_nil]at he
               rw[<-he]at hk
               exact hk _ _ hhh8 ⟨ps,hq8.qql,lp,facts,λu=>rfl⟩
           . intro e0
             have lz:=hz.len
             rw[e0]at lz
             exact h9 (by rw[lz];rfl)
end
end Den
end

section
namespace Den
open Go Iv Pq
noncomputable def cntQ(p:List Rat)(u v:Rat):Int:=if cmpQ u v>=0 then 0 else (chN (chainL p) u:Int)-(chN (chainL p) v:Int)
noncomputable def totQ(p:List Rat):Int:=cntQ p (-(bndQ p)) (bndQ p)
theorem zab4{a b:Rat}:cmpQ a b>=0↔¬a<b:=by rw[<-za06];omega
theorem zahe{p:List Rat}{u v:Rat}(h:u<=v):cntQ p u v=(chN (chainL p) u:Int)-(chN (chainL p) v:Int):=by
 unfold cntQ
 split
 . rename_i h1
   have:u=v:=Rat.le_antisymm h (Rat.not_lt.1 (zab4.1 h1))
   rw[this];omega
 . rfl
theorem zapb{A:Nat}{p:List Rat}(hA:1<=A)(hp:∀v∈monQ p,BR A v):BR (A+2) (bndQ p):=by
 unfold bndQ
 have b0:BR A (((0:Int):Rat)):=zme.mono hA
 split
 . exact b0.mono (by omega)
 . have key:∀(L:List Rat) (m:Rat),BR A m->(∀v∈L,BR A v)->BR A (L.foldl mxS m):=by
    intro L
    induction L with
    | nil=>intro m hm _;exact hm
    | cons a L ih=>intro m hm hL;exact ih _ (mx_BR hm (hL a (by simp))) λv hv=>hL v (by simp[hv])
   exact((key _ _ b0 λv hv=>hp v (List.mem_of_mem_take hv)).add za14).mono (by omega)
theorem bnd28{p:List Rat}(h1:CD 28 (co p)):BR 30 (bndQ p):=zapb (A:=28) (by decide) λv hv=>by
 obtain⟨i,hi,rfl⟩:=List.mem_iff_getElem.1 hv
 have:=(zpa h1).br i
 rwa [co_lt hi]at this
theorem zjr{B i:Nat}{p:List Rat}{u:Rat}(bu:BR B u)(hp:p.length<=8/\CD 11809804373 (co p))(hB:B<=1000):BR 11809820000 (ev (p.drop i) u):=by
 have hc:CD 11809804373 (co (p.drop i)):=hp.2.shift.congr λj=>by
  show co (p.drop i) j=co p (i+j)
  unfold co
  rw[List.getD_eq_getElem?_getD,List.getElem?_drop,<-List.getD_eq_getElem?_getD]
 have hl:(p.drop i).length<=8:=by rw[List.length_drop];omega
 refine(hc.evb bu).mono ?_
 have:=Nat.mul_le_mul (show(p.drop i).length+1<=9 by omega) (show B+1<=1001 by omega)
 omega
section
variable {h : Hp} {A B C : Nat} {l m : Sl} {p q : List Rat} {K : Sl → Hp → Prop} {Ki : Int → Hp → Prop} {Kb : Bool → Hp → Prop} {x y : TRat} {u v : Rat}
theorem zx2(hp:PL h A l p)(h8:p.length<=8)(h1:CD 28 (co p))(hA:A<=100000000000)(hx:NR h x u)(hy:NR h y v)(bu:BR B u)(bv:BR B v)(hB:B<=1000)(H:∀h',h.le h'->Ki (cntQ p u v) h'):callP (F.zfr l x y) Ki h:=by
 refine za3 (λr h'=>r=cntQ p u v) (λK' hk=>?_) λr h' hl hr=>by subst hr;exact H h' hl
 unfold F.zfr
 refine zw7 hx hy bu bv (by omega) (by omega) λh2 hl2=>?_
 refine za5 (λh3=>hk _ _ hl2 (by unfold cntQ;rw[if_pos h3])) (λh3=>?_)
 refine zx1 (hp.le hl2) h8 h1 hA λc h4 ps hl4 hc hn hf he=>?_
 have hl24:=Hp.le_trans hl2 hl4
 refine za3 (λr h'=>r=cntQ p u v) (λK1 hk1=>?_) λr h' hl hr=>hk _ _ (Hp.le_trans hl24 hl) hr
 unfold F.zho
 have e1:=zlq (ps:=ps) (c:=u)
 have e2:=zlq (ps:=ps) (c:=v)
 refine ze7 hc (hx.le hl24) bu (by omega) (by decide) (by omega) (λp hp=>by have:=(hf p hp).1;omega) (λp hp i=>zjr bu (hf p hp) hB) (by decide) λh5 hl5=>?_
 refine ze7 (hc.le hl5) ((hy.le hl24).le hl5) bv (by omega) (by decide) (by omega) (λp hp=>by have:=(hf p hp).1;omega) (λp hp i=>zjr bv (hf p hp) hB) (by decide) λh6 hl6=>hk1 _ _ (Hp.le_trans hl5 hl6) ?_
 unfold cntQ
 rw[if_neg h3,<-he,<-he]
 unfold chN
 exact w64 (by omega)
theorem zafq(hp:PL h A l p)(h8:p.length<=8)(h1:CD 28 (co p))(hA:A<=50000000000)(H:∀h',h.le h'->Ki (totQ p) h'):callP (F.zei l) Ki h:=by
 refine za3 (λr h'=>r=totQ p) (λK' hk=>?_) λr h' hl hr=>by subst hr;exact H h' hl
 unfold F.zei
 have bb:=bnd28 h1
 refine za3 (λv h'=>NR h' v.low (-(bndQ p))/\NR h' v.high (bndQ p)) (λK1 hk1=>?_) λv h1' hl1 ⟨hv1,hv2⟩=>?_
 . unfold F.zf0
   refine zom hp (by omega) hA λr1 h2 hl1 hr1=>?_
   refine zly hr1 bb (by decide) λr2 h3 hl2 hr2=>hk1 _ _ (Hp.le_trans hl1 hl2) ⟨hr2,hr1.le hl2⟩
 . refine zx2 (hp.le hl1) h8 h1 (by omega) hv1 hv2 bb.neg bb (by decide) λh2 hl2=>hk _ _ (Hp.le_trans hl1 hl2) rfl
end
end Den
end

section
namespace Den
open Go Iv Pq
section
variable {c K : Nat} {x y r : List Rat}
end
end Den
end

section
namespace Den
open Go Iv Pq
section
variable {h : Hp} {A B C c K g q w : Nat} {l m : Sl} {p : List Rat} {Ks : Sl → Hp → Prop}
section
variable {q : List Rat}
end
end
end Den
end

section
namespace Den
open Go Iv Pq
section
variable {h : Hp} {A B C c K g q w z : Nat} {l m : Sl} {p : List Rat} {Ks : Sl → Hp → Prop} {Ki : Int → Hp → Prop} {x y : TRat} {u v : Rat}
end
end Den
end

section
namespace Rng
structure RL(α:Type)[Add α][Mul α][Neg α][Sub α](z o:α):Prop where
 addc:∀a b:α,a+b=b+a
 adda:∀a b c:α,a+b+c=a+(b+c)
 addz:∀a:α,a+z=a
 addn:∀a:α,a+-a=z
 mulc:∀a b:α,a*b=b*a
 mula:∀a b c:α,a*b*c=a*(b*c)
 mulo:∀a:α,a*o=a
 dist:∀a b c:α,a*(b+c)=a*b+a*c
 subd:∀a b:α,a-b=a+-b
inductive Ex where
 | v (n:Nat)
 | o
 | i
 | a (x y:Ex)
 | m (x y:Ex)
 | n (x:Ex)
 | s (x y:Ex)
def mIns(n:Nat):List Nat->List Nat
 | []=>[n]
 | k :: r=>if n<=k then n :: k :: r else k :: mIns n r
def mMul:List Nat->List Nat->List Nat
 | [],q=>q
 | n :: p,q=>mIns n (mMul p q)
def mLt:List Nat->List Nat->Bool
 | [],[]=>false
 | [],_ :: _=>true
 | _ :: _,[]=>false
 | a :: p,b :: q=>if a<b then true else if a=b then mLt p q else false
abbrev Pn:=List (List Nat×Int)
def pIns(p:List Nat)(c:Int):Pn->Pn
 | []=>if c=0 then []else [(p,c)]
 | (q,d) :: r=>if p=q then (if c+d=0 then r else (q,c+d) :: r)else if mLt p q then (if c=0 then (q,d) :: r else (p,c) :: (q,d) :: r)else (q,d) :: pIns p c r
def pAdd:Pn->Pn->Pn
 | [],b=>b
 | (p,c) :: a,b=>pIns p c (pAdd a b)
def pNeg(a:Pn):Pn:=a.map λt=>(t.1,-t.2)
def pMulM(p:List Nat)(c:Int):Pn->Pn
 | []=>[]
 | (q,d) :: r=>pIns (mMul p q) (c*d) (pMulM p c r)
def pMul:Pn->Pn->Pn
 | [],_=>[]
 | (p,c) :: a,b=>pAdd (pMulM p c b) (pMul a b)
def Ex.nf:Ex->Pn
 | .v k=>[([k],1)]
 | .o=>[]
 | .i=>[([],1)]
 | .a x y=>pAdd x.nf y.nf
 | .m x y=>pMul x.nf y.nf
 | .n x=>pNeg x.nf
 | .s x y=>pAdd x.nf (pNeg y.nf)
section
variable {α : Type} [Add α] [Mul α] [Neg α] [Sub α] {z o : α}
def Ex.ev(z o:α)(ρ:List α):Ex->α
 | .v k=>ρ.getD k z
 | .o=>z
 | .i=>o
 | .a x y=>x.ev z o ρ+y.ev z o ρ
 | .m x y=>x.ev z o ρ*y.ev z o ρ
 | .n x=>- x.ev z o ρ
 | .s x y=>x.ev z o ρ-y.ev z o ρ
def nsm(z:α)(a:α):Nat->α
 | 0=>z
 | k+1=>nsm z a k+a
def zsm(z:α)(a:α):Int->α
 | .ofNat k=>nsm z a k
 | .negSucc k=>- nsm z a (k+1)
def mEv(z o:α)(ρ:List α):List Nat->α
 | []=>o
 | n :: p=>ρ.getD n z*mEv z o ρ p
def pEv(z o:α)(ρ:List α):Pn->α
 | []=>z
 | (p,c) :: r=>zsm z (mEv z o ρ p) c+pEv z o ρ r
theorem zsm0{β:Type}[Add β][Neg β](z a:β):zsm z a 0=z:=rfl
namespace RL
variable (L : RL α z o) {a b c d : α} {ρ : List α}
include L
theorem zadd(a:α):z+a=a:=by rw[L.addc,L.addz]
theorem adda'(a b c:α):a+(b+c)=b+(a+c):=by rw[<-L.adda,L.addc a,L.adda]
theorem mula'(a b c:α):a*(b*c)=b*(a*c):=by rw[<-L.mula,L.mulc a,L.mula]
theorem cancel(h:a+c=b+c):a=b:=by
 have:a+c+-c=b+c+-c:=by rw[h]
 rwa [L.adda,L.addn,L.addz,L.adda,L.addn,L.addz]at this
theorem mulz(a:α):a*z=z:=by
 refine L.cancel (c:=a*z) ?_
 rw[<-L.dist,L.addz,L.zadd]
theorem zmul(a:α):z*a=z:=by rw[L.mulc,L.mulz]
theorem distr(a b c:α):(a+b)*c=a*c+b*c:=by rw[L.mulc,L.dist,L.mulc c,L.mulc c]
theorem negOf(h:a+b=z):b=-a:=by
 refine L.cancel (c:=a) ?_
 rw[L.addc b,h,L.addc,L.addn]
theorem negz:-z=z:=(L.negOf (L.addz z)).symm
theorem negneg(a:α):- -a=a:=(L.negOf (by rw[L.addc,L.addn])).symm
theorem negadd(a b:α):-(a+b)=-a+-b:=by
 refine(L.negOf ?_).symm
 rw[L.adda,L.adda' b,L.addn,L.addz,L.addn]
theorem mulneg(a b:α):a*-b=-(a*b):=by
 refine L.negOf ?_
 rw[<-L.dist,L.addn,L.mulz]
theorem negmul(a b:α):-a*b=-(a*b):=by rw[L.mulc,L.mulneg,L.mulc]
theorem nsm_add(a:α)(m:Nat):∀n:Nat,nsm z a (m+n)=nsm z a m+nsm z a n
 | 0=>(L.addz _).symm
 | n+1=>by
   show nsm z a (m+n)+a=nsm z a m+(nsm z a n+a)
   rw[nsm_add a m n,L.adda]
theorem nsm_mul(a b:α):∀n:Nat,nsm z a n*b=nsm z (a*b) n
 | 0=>L.zmul b
 | n+1=>by
   show(nsm z a n+a)*b=nsm z (a*b) n+a*b
   rw[L.distr,nsm_mul a b n]
theorem nsm_nsm(a:α)(m:Nat):∀n:Nat,nsm z (nsm z a m) n=nsm z a (m*n)
 | 0=>rfl
 | n+1=>by
   show nsm z (nsm z a m) n+nsm z a m=nsm z a (m*(n+1))
   rw[nsm_nsm a m n,Nat.mul_succ,L.nsm_add]
theorem nsm_neg(a:α):∀n:Nat,nsm z (-a) n=- nsm z a n
 | 0=>L.negz.symm
 | n+1=>by
   show nsm z (-a) n+-a=-(nsm z a n+a)
   rw[nsm_neg a n,L.negadd]
theorem zsm_sub(a:α)(m n:Nat):zsm z a (Int.subNatNat m n)=nsm z a m+- nsm z a n:=by
 rcases Nat.lt_or_ge m n with h | h
 . obtain⟨k,rfl⟩:∃k,n=m+(k+1):=⟨n-m-1,by omega⟩
   have e:Int.subNatNat m (m+(k+1))=Int.negSucc k:=by rw[Int.subNatNat_eq_coe];omega
   rw[e,L.nsm_add,L.negadd,<-L.adda,L.addn,L.zadd]
   rfl
 . obtain⟨k,rfl⟩:∃k,m=n+k:=⟨m-n,by omega⟩
   have e:Int.subNatNat (n+k) n=Int.ofNat k:=by rw[Int.subNatNat_eq_coe,Int.ofNat_eq_natCast];omega
   rw[e,L.nsm_add,L.addc (nsm z a n),L.adda,L.addn,L.addz]
   rfl
theorem zsm_add(a:α):∀m n:Int,zsm z a (m+n)=zsm z a m+zsm z a n
 | .ofNat m,.ofNat n=>L.nsm_add a m n
 | .ofNat m,.negSucc n=>L.zsm_sub a m (n+1)
 | .negSucc m,.ofNat n=>by
   rw[L.addc];exact L.zsm_sub a n (m+1)
 | .negSucc m,.negSucc n=>by
   show-nsm z a (m+n+1+1)=- nsm z a (m+1)+- nsm z a (n+1)
   rw[<-L.negadd,<-L.nsm_add]
   congr 2;omega
theorem zsm_neg(a:α)(m:Int):zsm z a (-m)=- zsm z a m:=by
 refine L.negOf ?_
 rw[<-L.zsm_add]
 have:m+-m=0:=by omega
 rw[this];rfl
theorem zsm_one(a:α):zsm z a 1=a:=L.zadd a
theorem zsm_mulr(a b:α):∀m:Int,zsm z a m*b=zsm z (a*b) m
 | .ofNat m=>L.nsm_mul a b m
 | .negSucc m=>by
   show-nsm z a (m+1)*b=- nsm z (a*b) (m+1)
   rw[L.negmul,L.nsm_mul]
theorem zsm_zsm(a:α):∀m n:Int,zsm z (zsm z a m) n=zsm z a (m*n)
 | .ofNat m,.ofNat n=>L.nsm_nsm a m n
 | .ofNat m,.negSucc n=>by
   show-nsm z (nsm z a m) (n+1)=_
   have e:Int.ofNat m*Int.negSucc n=-((m*(n+1):Nat):Int):=by
    rw[Int.negSucc_eq,Int.ofNat_eq_natCast,Int.mul_neg,Int.natCast_mul];rfl
   rw[e,L.zsm_neg,L.nsm_nsm]
   rfl
 | .negSucc m,.ofNat n=>by
   show nsm z (- nsm z a (m+1)) n=_
   have e:Int.negSucc m*Int.ofNat n=-(((m+1)*n:Nat):Int):=by
    rw[Int.negSucc_eq,Int.ofNat_eq_natCast,Int.neg_mul,Int.natCast_mul];rfl
   rw[e,L.zsm_neg,L.nsm_neg,L.nsm_nsm]
   rfl
 | .negSucc m,.negSucc n=>by
   show-nsm z (- nsm z a (m+1)) (n+1)=_
   have e:Int.negSucc m*Int.negSucc n=(((m+1)*(n+1):Nat):Int):=by
    rw[Int.negSucc_eq,Int.negSucc_eq,Int.neg_mul_neg,Int.natCast_mul];rfl
   rw[e,L.nsm_neg,L.negneg,L.nsm_nsm]
   rfl
theorem mIns_ev(n:Nat):∀p:List Nat,mEv z o ρ (mIns n p)=ρ.getD n z*mEv z o ρ p
 | []=>rfl
 | k :: p=>by
   unfold mIns
   split
   . rfl
   . show ρ.getD k z*mEv z o ρ (mIns n p)=ρ.getD n z*(ρ.getD k z*mEv z o ρ p)
     rw[mIns_ev n p,L.mula']
theorem mMul_ev(q:List Nat):∀p:List Nat,mEv z o ρ (mMul p q)=mEv z o ρ p*mEv z o ρ q
 | []=>by
   show mEv z o ρ q=o*mEv z o ρ q
   rw[L.mulc,L.mulo]
 | n :: p=>by
   show mEv z o ρ (mIns n (mMul p q))=ρ.getD n z*mEv z o ρ p*mEv z o ρ q
   rw[L.mIns_ev,mMul_ev q p,L.mula]
theorem pIns_ev(p:List Nat)(c:Int):∀a:Pn,pEv z o ρ (pIns p c a)=zsm z (mEv z o ρ p) c+pEv z o ρ a
 | []=>by
   unfold pIns
   split
   . rename_i h;subst h;show z=z+z;rw[L.addz]
   . rfl
 | (q,d) :: r=>by
   unfold pIns
   split
   . rename_i h
     subst h
     show _=zsm z (mEv z o ρ p) c+(zsm z (mEv z o ρ p) d+pEv z o ρ r)
     rw[<-L.adda,<-L.zsm_add]
     split
     . rename_i h;rw[h,zsm0,L.zadd]
     . rfl
   . split
     . split
       . rename_i h;subst h;rw[zsm0,L.zadd]
       . rfl
     . show zsm z (mEv z o ρ q) d+pEv z o ρ (pIns p c r)=zsm z (mEv z o ρ p) c+(zsm z (mEv z o ρ q) d+pEv z o ρ r)
       rw[pIns_ev p c r,L.adda']
theorem pAdd_ev(b:Pn):∀a:Pn,pEv z o ρ (pAdd a b)=pEv z o ρ a+pEv z o ρ b
 | []=>(L.zadd _).symm
 | (p,c) :: a=>by
   show pEv z o ρ (pIns p c (pAdd a b))=zsm z (mEv z o ρ p) c+pEv z o ρ a+pEv z o ρ b
   rw[L.pIns_ev,pAdd_ev b a,L.adda]
theorem pNeg_ev:∀a:Pn,pEv z o ρ (pNeg a)=- pEv z o ρ a
 | []=>L.negz.symm
 | (p,c) :: a=>by
   show zsm z (mEv z o ρ p) (-c)+pEv z o ρ (pNeg a)=-(zsm z (mEv z o ρ p) c+pEv z o ρ a)
   rw[L.zsm_neg,pNeg_ev a,L.negadd]
theorem pMulM_ev(p:List Nat)(c:Int):∀a:Pn,pEv z o ρ (pMulM p c a)=zsm z (mEv z o ρ p) c*pEv z o ρ a
 | []=>(L.mulz _).symm
 | (q,d) :: r=>by
   show pEv z o ρ (pIns (mMul p q) (c*d) (pMulM p c r))=zsm z (mEv z o ρ p) c*(zsm z (mEv z o ρ q) d+pEv z o ρ r)
   rw[L.pIns_ev,pMulM_ev p c r,L.dist,L.mMul_ev]
   congr 1
   rw[L.zsm_mulr,L.mulc (mEv z o ρ p) (zsm z (mEv z o ρ q) d),L.zsm_mulr,L.zsm_zsm,L.mulc (mEv z o ρ q),Int.mul_comm]
theorem pMul_ev(b:Pn):∀a:Pn,pEv z o ρ (pMul a b)=pEv z o ρ a*pEv z o ρ b
 | []=>(L.zmul _).symm
 | (p,c) :: a=>by
   show pEv z o ρ (pAdd (pMulM p c b) (pMul a b))=(zsm z (mEv z o ρ p) c+pEv z o ρ a)*pEv z o ρ b
   rw[L.pAdd_ev,L.pMulM_ev,pMul_ev b a,L.distr]
theorem nf_ev:∀e:Ex,pEv z o ρ e.nf=e.ev z o ρ
 | .v k=>by
   show zsm z (ρ.getD k z*o) 1+z=ρ.getD k z
   rw[L.addz,L.zsm_one,L.mulo]
 | .o=>rfl
 | .i=>by
   show zsm z o 1+z=o
   rw[L.addz,L.zsm_one]
 | .a x y=>by
   show pEv z o ρ (pAdd x.nf y.nf)=x.ev z o ρ+y.ev z o ρ
   rw[L.pAdd_ev,nf_ev x,nf_ev y]
 | .m x y=>by
   show pEv z o ρ (pMul x.nf y.nf)=x.ev z o ρ*y.ev z o ρ
   rw[L.pMul_ev,nf_ev x,nf_ev y]
 | .n x=>by
   show pEv z o ρ (pNeg x.nf)=- x.ev z o ρ
   rw[L.pNeg_ev,nf_ev x]
 | .s x y=>by
   show pEv z o ρ (pAdd x.nf (pNeg y.nf))=x.ev z o ρ-y.ev z o ρ
   rw[L.pAdd_ev,L.pNeg_ev,nf_ev x,nf_ev y,L.subd]
end RL
def cmb:List (Ex×Ex×Ex)->Ex
 | []=>.o
 | (q,l,r) :: t=>.a (.m q (.s l r)) (cmb t)
def Hyp(z o:α)(ρ:List α):List (Ex×Ex×Ex)->Prop
 | []=>True
 | (_,l,r) :: t=>l.ev z o ρ=r.ev z o ρ/\Hyp z o ρ t
def pEq:Pn->Pn->Bool
 | [],[]=>true
 | (p,c) :: a,(q,d) :: b=>p==q&&c==d&&pEq a b
 | _,_=>false
theorem pEq_of:∀{a b:Pn},pEq a b=true->a=b
 | [],[],_=>rfl
 | (p,c) :: a,(q,d) :: b,h=>by
   unfold pEq at h
   simp only[Bool.and_eq_true,beq_iff_eq]at h
   rw[h.1.1,h.1.2,pEq_of h.2]
 | [],_ :: _,h=>by simp[pEq]at h
 | _ :: _,[],h=>by simp[pEq]at h
theorem RL.cmb_ev(L:RL α z o){ρ:List α}:∀{t:List (Ex×Ex×Ex)},Hyp z o ρ t->(cmb t).ev z o ρ=z
 | [],_=>rfl
 | (q,l,r) :: t,h=>by
   show q.ev z o ρ*(l.ev z o ρ-r.ev z o ρ)+(cmb t).ev z o ρ=z
   rw[h.1,L.subd,L.addn,L.mulz,L.cmb_ev h.2,L.addz]
theorem RL.lin(L:RL α z o)(ρ:List α)(x y:Ex)(t:List (Ex×Ex×Ex))(hc:pEq (Ex.s x y).nf (cmb t).nf=true)(h:Hyp z o ρ t):x.ev z o ρ=y.ev z o ρ:=by
 have h1:(Ex.s x y).ev z o ρ=z:=by
  rw[<-L.nf_ev,pEq_of hc,L.nf_ev,L.cmb_ev h]
 have h2:x.ev z o ρ+- y.ev z o ρ=z:=by rw[<-L.subd];exact h1
 refine L.cancel (c:=- y.ev z o ρ) ?_
 rw[h2,L.addn]
end
end Rng
end

section
namespace Den
open Go Iv Pq
theorem za3d{f g:Nat->Rat}:conv f g 0=f 0*g 0:=by
 unfold conv
 rw[sm_succ,sm_zero,Rat.zero_add]
theorem zab8{f g:Nat->Rat}{n:Nat}:conv f g (n+1)=f 0*g (n+1)+conv (λi=>f (i+1)) g n:=by
 unfold conv
 rw[sm_head]
 congr 1
 exact sm_congr λi _=>by rw[Nat.add_sub_add_right]
theorem zam1{a:Rat}{f g h:Nat->Rat}:∀{n:Nat},conv (λi=>a*f i+g i) h n=a*conv f h n+conv g h n:=by
 intro n
 rw[conv_comm,conv_comm (f:=f),conv_comm (f:=g)]
 unfold conv
 rw[<-sm_mul,<-sm_add]
 exact sm_congr λi _=>by grind
theorem za3c:∀{n:Nat} {f g h:Nat->Rat},conv (conv f g) h n=conv f (conv g h) n
 | 0,f,g,h=>by rw[za3d,za3d,za3d,za3d,Rat.mul_assoc]
 | n+1,f,g,h=>by
   rw[zab8,zab8 (f:=f),zab8 (f:=g),za3d]
   have e:(λi=>conv f g (i+1))=λi=>f 0*g (i+1)+conv (λi=>f (i+1)) g i:=by
    funext i;exact zab8
   rw[e,zam1 (f:=λi=>g (i+1)),za3c (n:=n)]
   grind
structure PS where
 c:Nat->Rat
namespace PS
theorem ext{a b:PS}(h:∀n,a.c n=b.c n):a=b:=by
 obtain⟨f⟩:=a
 obtain⟨g⟩:=b
 congr 1
 funext n
 exact h n
def cst(r:Rat):PS:=⟨λn=>if n=0 then r else 0⟩
instance:Add PS:=⟨λa b=>⟨λn=>a.c n+b.c n⟩⟩
instance:Mul PS:=⟨λa b=>⟨conv a.c b.c⟩⟩
instance:Neg PS:=⟨λa=>⟨λn=>-(a.c n)⟩⟩
instance:_root_.Sub PS:=⟨λa b=>⟨λn=>a.c n-b.c n⟩⟩
instance:NatCast PS:=⟨λn=>cst n⟩
instance:IntCast PS:=⟨λn=>cst n⟩
instance (n:Nat):OfNat PS n:=⟨cst (n:Rat)⟩
def pw(a:PS):Nat->PS
 | 0=>cst 1
 | n+1=>pw a n*a
instance:HPow PS Nat PS:=⟨pw⟩
instance:SMul Nat PS:=⟨λn a=>cst n*a⟩
instance:SMul Int PS:=⟨λn a=>cst n*a⟩
theorem c_add(a b:PS)(n:Nat):(a+b).c n=a.c n+b.c n:=rfl
theorem c_mul(a b:PS)(n:Nat):(a*b).c n=conv a.c b.c n:=rfl
theorem c_neg(a:PS)(n:Nat):(-a).c n=-(a.c n):=rfl
theorem c_sub(a b:PS)(n:Nat):(a-b).c n=a.c n-b.c n:=rfl
theorem c_cst(r:Rat)(n:Nat):(cst r).c n=if n=0 then r else 0:=rfl
theorem c_cstm(r:Rat)(a:PS)(n:Nat):(cst r*a).c n=r*a.c n:=by
 rw[c_mul]
 have e:r*a.c n=(cst r).c 0*a.c (n-0):=by rw[c_cst,if_pos rfl,Nat.sub_zero]
 rw[e]
 unfold conv
 exact sm_one (k:=0) (by omega) λi _ hi=>by rw[c_cst,if_neg hi,Rat.zero_mul]
theorem mul_comm'(a b:PS):a*b=b*a:=ext λn=>conv_comm
theorem psL:Rng.RL PS 0 1 where
 addz a:=ext λn=>by
  show a.c n+(cst ((0:Nat):Rat)).c n=a.c n
  rw[c_cst];split<;>exact Rat.add_zero _
 addc a b:=ext λn=>Rat.add_comm _ _
 adda a b c:=ext λn=>Rat.add_assoc _ _ _
 mula a b c:=ext λn=>za3c
 mulo a:=by rw[mul_comm'];exact ext λn=>by
                   show(cst ((1:Nat):Rat)*a).c n=a.c n
                   rw[c_cstm];exact Rat.one_mul _
 dist a b c:=ext λn=>conv_add
 addn a:=ext λn=>by
  show a.c n+-(a.c n)=(cst ((0:Nat):Rat)).c n
  rw[c_cst]
  have:((0:Nat):Rat)=0:=rfl
  rw[this];split<;>exact Rat.add_neg_cancel _
 subd a b:=ext λn=>Rat.sub_eq_add_neg _ _
 mulc:=mul_comm'
theorem c_zero(n:Nat):(0:PS).c n=0:=by
 show(cst ((0:Nat):Rat)).c n=0
 rw[c_cst];split<;>rfl
theorem c_one(n:Nat):(1:PS).c n=if n=0 then 1 else 0:=rfl
def d(a:PS):PS:=⟨der a.c⟩
theorem d_mul(a b:PS):d (a*b)=d a*b+a*d b:=ext λn=>der_conv
theorem low_of{f:Nat->Rat}(h:∃n,f n≠0):∃k,f k≠0/\∀i,i<k->f i=0:=by
 obtain⟨n,hn⟩:=h
 induction n using Nat.strongRecOn with
 | _ n ih=>
   by_cases hh:∃m,m<n/\f m≠0
   . obtain⟨m,h1,h2⟩:=hh;exact ih m h1 h2
   . exact⟨n,hn,λi hi=>Classical.byContradiction λh=>hh ⟨i,hi,h⟩⟩
theorem mul_eq_zero{a b:PS}(h:a*b=0):a=0\/b=0:=by
 by_cases ha:∃n,a.c n≠0
 . by_cases hb:∃n,b.c n≠0
   . exfalso
     obtain⟨i,h1,h2⟩:=low_of ha
     obtain⟨j,h3,h4⟩:=low_of hb
     have e:(a*b).c (i+j)=a.c i*b.c j:=by
      rw[c_mul]
      have e2:a.c i*b.c j=a.c i*b.c (i+j-i):=by rw[Nat.add_sub_cancel_left]
      rw[e2]
      unfold conv
      refine sm_one (k:=i) (f:=λk=>a.c k*b.c (i+j-k)) (by omega) λk hk hne=>?_
      rcases Nat.lt_or_ge k i with hlt | hge
      . rw[h2 k hlt,Rat.zero_mul]
      . rw[h4 (i+j-k) (by omega),Rat.mul_zero]
     rw[h,c_zero]at e
     rcases Rat.mul_eq_zero.1 e.symm with h5 | h5
     . exact h1 h5
     . exact h3 h5
   . right;exact ext λn=>by rw[c_zero];exact Classical.byContradiction λhh=>hb ⟨n,hh⟩
 . left;exact ext λn=>by rw[c_zero];exact Classical.byContradiction λhh=>ha ⟨n,hh⟩
theorem cancel{a b c:PS}(ha:a≠0)(h:a*b=a*c):b=c:=by
 have:a*(b-c)=0:=by exact psL.lin ([a,b,c]:List PS) (.m (.v 0) (.s (.v 1) (.v 2))) .o [(.i,(.m (.v 0) (.v 1)),(.m (.v 0) (.v 2)))] (by decide +kernel) ⟨h,trivial⟩
 rcases mul_eq_zero this with h1 | h1
 . exact absurd h1 ha
 . exact psL.lin ([b,c]:List PS) (.v 0) (.v 1) [(.i,(.s (.v 0) (.v 1)),.o)] (by decide +kernel) ⟨h1,trivial⟩
def Dg(n:Nat)(a:PS):Prop:=∀i,n<=i->a.c i=0
def Fs(a:PS):Prop:=∃n,Dg n a
theorem Fs.add{a b:PS}(ha:Fs a)(hb:Fs b):Fs (a+b):=by
 obtain⟨n,hn⟩:=ha
 obtain⟨m,hm⟩:=hb
 exact⟨n+m,λi hi=>by rw[c_add,hn i (by omega),hm i (by omega),Rat.add_zero]⟩
theorem Fs.neg{a:PS}(ha:Fs a):Fs (-a):=by
 obtain⟨n,hn⟩:=ha
 exact⟨n,λi hi=>by rw[c_neg,hn i hi,Rat.neg_zero]⟩
theorem Fs.sub{a b:PS}(ha:Fs a)(hb:Fs b):Fs (a-b):=by
 have:a-b=a+-b:=by exact psL.lin ([a,b]:List PS) (.s (.v 0) (.v 1)) (.a (.v 0) (.n (.v 1))) [] (by decide +kernel) trivial
 rw[this];exact ha.add hb.neg
theorem Fs.mul{a b:PS}(ha:Fs a)(hb:Fs b):Fs (a*b):=by
 obtain⟨n,hn⟩:=ha
 obtain⟨m,hm⟩:=hb
 exact⟨n+m,λi hi=>conv_zero_of hn hm (by omega)⟩
theorem Fs.cst(r:Rat):Fs (cst r):=⟨1,λi hi=>by rw[c_cst,if_neg (by omega)]⟩
theorem Fs.d{a:PS}(ha:Fs a):Fs (d a):=by
 obtain⟨n,hn⟩:=ha
 exact⟨n,λi hi=>by show der _ i=0;unfold der;rw[hn (i+1) (by omega),Rat.mul_zero]⟩
theorem Fs.co(p:List Rat):Fs ⟨co p⟩:=⟨p.length,λi hi=>co_ge hi⟩
end PS
end Den
end

section
namespace Den
open Go Iv Pq
namespace PS
def ps(p:List Rat):PS:=⟨co p⟩
theorem ps_c(p:List Rat)(n:Nat):(ps p).c n=co p n:=rfl
theorem ps_fs(p:List Rat):Fs (ps p):=Fs.co p
def mono(s:Nat)(r:Rat):PS:=⟨λi=>if i=s then r else 0⟩
theorem mono_fs(s:Nat)(r:Rat):Fs (mono s r):=⟨s+1,λi hi=>by show(if i=s then r else 0)=0;rw[if_neg (by omega)]⟩
theorem mono_mul(s:Nat)(r:Rat)(b:PS)(j:Nat):(mono s r*b).c j=if s<=j then r*b.c (j-s)else 0:=by
 rw[c_mul]
 by_cases h:s<=j
 . rw[if_pos h]
   have e:r*b.c (j-s)=(mono s r).c s*b.c (j-s):=by show _=(if s=s then r else 0)*_;rw[if_pos rfl]
   rw[e]
   unfold conv
   refine sm_one (k:=s) (f:=λi=>(mono s r).c i*b.c (j-i)) (by omega) λi _ hi=>?_
   show(if i=s then r else 0)*_=0
   rw[if_neg hi,Rat.zero_mul]
 . rw[if_neg h]
   unfold conv
   refine sm_zeros λi hi=>?_
   show(if i=s then r else 0)*_=0
   rw[if_neg (by omega),Rat.zero_mul]
theorem restK_zero{b f:Nat->Rat}{dd N:Nat}(hb:b dd≠0)(hb2:∀i,dd<i->b i=0)(hf:∀j,N+dd<=j->f j=0):∀{k:Nat},k<=N->∀j,N-k+dd<=j->restK b dd N f k j=0
 | 0,_,j,hj=>hf j (by omega)
 | k+1,hk,j,hj=>by
   have ih:=restK_zero hb hb2 hf (k:=k) (by omega)
   show stepF b dd (N-1-k) (restK b dd N f k) j=0
   unfold stepF
   rw[if_pos (by omega)]
   by_cases he:j=N-1-k+dd
   . rw[he,Nat.add_sub_cancel_left,Rat.div_mul_cancel hb]
     grind
   . rw[ih j (by omega),hb2 (j-(N-1-k)) (by omega)]
     grind
theorem restK_quo{b f:Nat->Rat}{dd N:Nat}:∀{k:Nat},∃q:PS,Fs q/\(⟨f⟩:PS)=q*⟨b⟩+⟨restK b dd N f k⟩
 | 0=>⟨0,⟨0,λi _=>c_zero i⟩,by
    show(⟨f⟩:PS)=0*⟨b⟩+⟨f⟩
    exact psL.lin ([{ c:=f },{ c:=b }]:List PS) (.v 0) (.a (.m .o (.v 1)) (.v 0)) [] (by decide +kernel) trivial⟩
 | k+1=>by
   obtain⟨q,h1,h2⟩:=restK_quo (b:=b) (f:=f) (dd:=dd) (N:=N) (k:=k)
   refine⟨q+mono (N-1-k) (restK b dd N f k (N-1-k+dd)/b dd),h1.add (mono_fs _ _),?_⟩
   have e:(⟨restK b dd N f k⟩:PS)=mono (N-1-k) (restK b dd N f k (N-1-k+dd)/b dd)*⟨b⟩+⟨restK b dd N f (k+1)⟩:=ext λj=>by
    rw[c_add,mono_mul]
    show restK b dd N f k j=_+stepF b dd (N-1-k) (restK b dd N f k) j
    unfold stepF
    split<;>grind
   rw[h2]
   exact psL.lin ([q,{ c:=b },{ c:=restK b dd N f k },mono (N-1-k) (restK b dd N f k (N-1-k+dd)/b dd),{ c:=restK b dd N f (k+1) }]:List PS) (.a (.m (.v 0) (.v 1)) (.v 2)) (.a (.m (.a (.v 0) (.v 3)) (.v 1)) (.v 4)) [(.i,(.v 2),(.a (.m (.v 3) (.v 1)) (.v 4)))] (by decide +kernel) ⟨e,trivial⟩
theorem rem_eq{p q:List Rat}(hq:trim q≠[]):∃u:PS,Fs u/\ps p=u*ps q+ps (remL p q):=by
 have h0:co q ((trim q).length-1)≠0:=by
  have:=nf_top nf_trim hq
  rwa [co_trim]at this
 have hl:=List.length_pos_iff.2 hq
 obtain⟨u,h1,h2⟩:=restK_quo (b:=co q) (f:=co p) (dd:=(trim q).length-1) (N:=divN p q) (k:=divN p q)
 refine⟨u,h1,?_⟩
 have e:ps (remL p q)=⟨restK (co q) ((trim q).length-1) (divN p q) (co p) (divN p q)⟩:=ext λj=>by
  rw[ps_c]
  unfold remL
  rw[co_trim,zlr]
  split
  . rfl
  . refine(restK_zero h0 (λi hi=>by rw[<-co_trim,co_ge (by omega)]) (λj hj=>?_) (Nat.le_refl _) j (by omega)).symm
    rw[<-co_trim,co_ge]
    unfold divN at hj
    omega
 rw[e]
 exact h2
theorem ps_trim(p:List Rat):ps (trim p)=ps p:=ext λj=>co_trim
theorem ps_nil:ps []=0:=ext λj=>by rw[c_zero];rfl
theorem ps_eq_nil{p:List Rat}(h:ps p=0):trim p=[]:=nf_eq_nil nf_trim λi=>by rw[co_trim,<-ps_c,h,c_zero]
theorem ps_mon{p:List Rat}(h:trim p≠[]):∃k:Rat,k≠0/\ps (monQ p)=cst k*ps p/\ps p=cst (1/k)*ps (monQ p):=by
 have hl:=zit h
 have hk:=zaht hl
 refine⟨(((1:Int):Rat))/lead p,hk,ext λj=>?_,ext λj=>?_⟩
 . rw[c_cstm,ps_c,ps_c,za07]
 . rw[c_cstm,ps_c,ps_c,za07,<-Rat.mul_assoc,Rat.div_mul_cancel hk,Rat.one_mul]
theorem ps_mon_nil{p:List Rat}(h:trim p=[]):monQ p=[]:=by unfold monQ;rw[h];rfl
theorem ps_der(p:List Rat):ps (trim (derL p))=d (ps p):=ext λj=>by
 rw[ps_c,co_trim,zab5];rfl
theorem ps_neg(r:List Rat):ps (negT r)=-ps r:=ext λj=>by
 rw[c_neg,ps_c,ps_c]
 unfold negT
 rw[co_trim,zmh]
 have:(((-1:Int):Rat))=-1:=rfl
 rw[this];grind
theorem gcd_comb:∀{n:Nat} {x y:List Rat},nf y->y.length<n->∃a b x' y':PS,Fs a/\Fs b/\Fs x'/\Fs y'/\ps (gcdS n x y)=a*ps x+b*ps y/\ps x=ps (gcdS n x y)*x'/\ps y=ps (gcdS n x y)*y'
 | n+1,x,y,hy,hn=>by
   unfold gcdS
   by_cases h0:y=[]
   . rw[if_pos h0,h0,ps_nil]
     exact⟨1,0,1,0,Fs.cst 1,Fs.cst 0,Fs.cst 1,Fs.cst 0,by exact psL.lin ([ps x]:List PS) (.v 0) (.a (.m .i (.v 0)) (.m .o .o)) [] (by decide +kernel) trivial,by exact psL.lin ([ps x]:List PS) (.v 0) (.m (.v 0) .i) [] (by decide +kernel) trivial,by exact psL.lin ([ps x]:List PS) .o (.m (.v 0) .o) [] (by decide +kernel) trivial⟩
   . rw[if_neg h0]
     have ht:trim y≠[]:=by rw[trim_nf hy];exact h0
     obtain⟨u,hu,hr⟩:=rem_eq (p:=x) ht
     have hl:(monQ (remL x y)).length<n:=by
      rw[zbn,trim_nf zkm]
      have:=zus (p:=x) (q:=y)
      rw[trim_nf hy]at this
      have:=List.length_pos_iff.2 h0
      omega
     obtain⟨a,b,x',y',ha,hb,hx',hy',e1,e2,e3⟩:=gcd_comb (n:=n) (x:=y) (y:=monQ (remL x y)) zg9 hl
     obtain⟨G,hG⟩:∃G,G=ps (gcdS n y (monQ (remL x y))):=⟨_,rfl⟩
     rw[<-hG]at e1 e2 e3 |-
     by_cases hz:trim (remL x y)=[]
     . have hr0:ps (remL x y)=0:=by rw[<-ps_trim,hz,ps_nil]
       have hm0:ps (monQ (remL x y))=0:=by rw[ps_mon_nil hz,ps_nil]
       rw[hr0]at hr
       rw[hm0]at e1
       exact⟨0,a,u*x',x',Fs.cst 0,ha,hu.mul hx',hx',by exact psL.lin ([G,ps x,a,ps y,b]:List PS) (.v 0) (.a (.m .o (.v 1)) (.m (.v 2) (.v 3))) [(.i,(.v 0),(.a (.m (.v 2) (.v 3)) (.m (.v 4) .o)))] (by decide +kernel) ⟨e1,trivial⟩,by exact psL.lin ([ps x,G,u,x',ps y]:List PS) (.v 0) (.m (.v 1) (.m (.v 2) (.v 3))) [(.i,(.v 0),(.a (.m (.v 2) (.v 4)) .o)),((.v 2),(.v 4),(.m (.v 1) (.v 3)))] (by decide +kernel) ⟨hr,e2,trivial⟩,by grind⟩
     . obtain⟨k,hk,m1,m2⟩:=ps_mon hz
       rw[m1]at e1
       rw[m2]at hr
       exact⟨b*cst k,a-b*cst k*u,u*x'+cst (1/k)*y',x',hb.mul (Fs.cst k),ha.sub ((hb.mul (Fs.cst k)).mul hu),(hu.mul hx').add ((Fs.cst _).mul hy'),hx',by rw[m2]at e1;rw[m1]at e1;exact psL.lin ([G,b,cst k,ps x,a,u,ps y,cst (1/k),ps (monQ (remL x y)),ps (remL x y)]:List PS) (.v 0) (.a (.m (.m (.v 1) (.v 2)) (.v 3)) (.m (.s (.v 4) (.m (.m (.v 1) (.v 2)) (.v 5))) (.v 6))) [((.n (.m (.v 1) (.v 2))),(.v 3),(.a (.m (.v 5) (.v 6)) (.m (.v 7) (.v 8)))),(.i,(.v 0),(.a (.m (.v 4) (.v 6)) (.m (.v 1) (.m (.v 2) (.m (.v 7) (.m (.v 2) (.v 9))))))),((.n (.m (.m (.v 1) (.v 2)) (.v 7))),(.v 8),(.m (.v 2) (.v 9)))] (by decide +kernel) ⟨hr,e1,m1,trivial⟩,by exact psL.lin ([ps x,G,u,x',cst (1/k),y',ps (monQ (remL x y)),ps y]:List PS) (.v 0) (.m (.v 1) (.a (.m (.v 2) (.v 3)) (.m (.v 4) (.v 5)))) [((.v 4),(.v 6),(.m (.v 1) (.v 5))),((.v 2),(.v 7),(.m (.v 1) (.v 3))),(.i,(.v 0),(.a (.m (.v 2) (.v 7)) (.m (.v 4) (.v 6))))] (by decide +kernel) ⟨e3,e2,hr,trivial⟩,by grind⟩
theorem d_pow(a:PS):∀n:Nat,a*d (a ^ n)=cst n*(a ^ n)*d a
 | 0=>by
   have:d (a ^ 0)=0:=ext λj=>by
    show der (cst 1).c j=_
    unfold der
    rw[c_cst,if_neg (by omega),c_zero,Rat.mul_zero]
   rw[this]
   have:cst ((0:Nat):Rat)=0:=rfl
   rw[this]
   exact psL.lin ([a,a ^ 0,a.d]:List PS) (.m (.v 0) .o) (.m (.m .o (.v 1)) (.v 2)) [] (by decide +kernel) trivial
 | n+1=>by
   have e:a ^ (n+1)=a ^ n*a:=rfl
   rw[e,d_mul]
   have ih:=d_pow a n
   have hc:cst ((n+1:Nat):Rat)=cst (n:Rat)+1:=ext λj=>by
    rw[c_add,c_cst,c_cst,c_one]
    split
    . exact Rat.natCast_add n 1
    . exact(Rat.add_zero 0).symm
   rw[hc]
   exact psL.lin ([a,(a ^ n).d,a ^ n,a.d,cst ↑n]:List PS) (.m (.v 0) (.a (.m (.v 1) (.v 0)) (.m (.v 2) (.v 3)))) (.m (.m (.a (.v 4) .i) (.m (.v 2) (.v 0))) (.v 3)) [((.v 0),(.m (.v 0) (.v 1)),(.m (.m (.v 4) (.v 2)) (.v 3)))] (by decide +kernel) ⟨ih,trivial⟩
theorem pow_ne{a:PS}(h:a≠0):∀n:Nat,a ^ n≠0
 | 0,hh=>by
   have:=congrArg (λx:PS=>x.c 0) hh
   have e:(a ^ 0).c 0=1:=rfl
   simp only[e,c_zero]at this
   exact absurd this (by decide)
 | n+1,hh=>by
   have e:a ^ (n+1)=a ^ n*a:=rfl
   rw[e]at hh
   rcases mul_eq_zero hh with h1 | h1
   . exact pow_ne h n h1
   . exact h h1
theorem pow_dvd{g A B s t q P Q:PS}(hq0:q≠0)(hs:Fs s)(ht:Fs t)(hA':Fs A)(hB:Fs B)(hg:Fs g)(hP:Fs P)(hQ:Fs Q)(h1:d (g*A)=g*B)(h2:s*A+t*B=1)(hA:A=q*P)(hd:d A=q*Q):∀j:Nat,∃h,Fs h/\g=q ^ j*h
 | 0=>⟨g,hg,by
                   have e:q ^ 0=(1:PS):=rfl
                   rw[e];exact psL.lin ([g]:List PS) (.v 0) (.m .i (.v 0)) [] (by decide +kernel) trivial⟩
 | j+1=>by
   obtain⟨h,hh,e⟩:=pow_dvd hq0 hs ht hA' hB hg hP hQ h1 h2 hA hd j
   have hj:=pow_ne hq0 j
   obtain⟨X,hX⟩:∃X,X=q ^ j:=⟨_,rfl⟩
   have dX:=d_pow q j
   rw[<-hX]at e hj dX
   have dq:=d_mul q P
   rw[<-hA,hd]at dq
   have dg:=d_mul X h
   rw[<-e]at dg
   rw[d_mul]at h1
   have k1:(cst (j:Rat)*d q*h+q*d h)*P=h*(B-q*Q):=by
    refine cancel hj ?_
    have:q*d g=X*(cst (j:Rat)*d q*h+q*d h):=by rw[dg];exact psL.lin ([q,X.d,h,X,h.d,cst ↑j,q.d]:List PS) (.m (.v 0) (.a (.m (.v 1) (.v 2)) (.m (.v 3) (.v 4)))) (.m (.v 3) (.a (.m (.m (.v 5) (.v 6)) (.v 2)) (.m (.v 0) (.v 4)))) [((.v 2),(.m (.v 0) (.v 1)),(.m (.m (.v 5) (.v 3)) (.v 6)))] (by decide +kernel) ⟨dX,trivial⟩
    have h3:q*d g*P=g*(B-q*Q):=by rw[hd]at h1;exact psL.lin ([q,g.d,P,g,B,Q,A]:List PS) (.m (.m (.v 0) (.v 1)) (.v 2)) (.m (.v 3) (.s (.v 4) (.m (.v 0) (.v 5)))) [(.i,(.a (.m (.v 1) (.v 6)) (.m (.v 3) (.m (.v 0) (.v 5)))),(.m (.v 3) (.v 4))),((.n (.v 1)),(.v 6),(.m (.v 0) (.v 2)))] (by decide +kernel) ⟨h1,hA,trivial⟩
    exact psL.lin ([X,cst ↑j,q.d,h,q,h.d,P,B,Q,g,g.d]:List PS) (.m (.v 0) (.m (.a (.m (.m (.v 1) (.v 2)) (.v 3)) (.m (.v 4) (.v 5))) (.v 6))) (.m (.v 0) (.m (.v 3) (.s (.v 7) (.m (.v 4) (.v 8))))) [((.a (.n (.m (.v 4) (.v 8))) (.v 7)),(.v 9),(.m (.v 0) (.v 3))),((.n (.v 6)),(.m (.v 4) (.v 10)),(.m (.v 0) (.a (.m (.m (.v 1) (.v 2)) (.v 3)) (.m (.v 4) (.v 5))))),(.i,(.m (.m (.v 4) (.v 10)) (.v 6)),(.m (.v 9) (.s (.v 7) (.m (.v 4) (.v 8)))))] (by decide +kernel) ⟨e,this,h3,trivial⟩
   have k2:h*B=q*(cst (j:Rat)*h*(Q-d P)+d h*P+h*Q):=by exact psL.lin ([h,B,q,cst ↑j,Q,P.d,h.d,P,q.d]:List PS) (.m (.v 0) (.v 1)) (.m (.v 2) (.a (.a (.m (.m (.v 3) (.v 0)) (.s (.v 4) (.v 5))) (.m (.v 6) (.v 7))) (.m (.v 0) (.v 4)))) [((.n (.m (.v 0) (.v 3))),(.m (.v 2) (.v 4)),(.a (.m (.v 8) (.v 7)) (.m (.v 2) (.v 5)))),((.n .i),(.m (.a (.m (.m (.v 3) (.v 8)) (.v 0)) (.m (.v 2) (.v 6))) (.v 7)),(.m (.v 0) (.s (.v 1) (.m (.v 2) (.v 4)))))] (by decide +kernel) ⟨dq,k1,trivial⟩
   refine⟨h*s*P+t*(cst (j:Rat)*h*(Q-d P)+d h*P+h*Q),?_,?_⟩
   . exact((hh.mul hs).mul hP).add (ht.mul ((((((Fs.cst _).mul hh).mul (hQ.sub hP.d)).add (hh.d.mul hP))).add (hh.mul hQ)))
   . have e2:q ^ (j+1)=X*q:=by rw[hX];rfl
     rw[e2]
     have h4:h=h*s*A+t*(h*B):=by exact psL.lin ([h,s,A,t,B]:List PS) (.v 0) (.a (.m (.m (.v 0) (.v 1)) (.v 2)) (.m (.v 3) (.m (.v 0) (.v 4)))) [((.n (.v 0)),(.a (.m (.v 1) (.v 2)) (.m (.v 3) (.v 4))),.i)] (by decide +kernel) ⟨h2,trivial⟩
     rw[e]
     exact psL.lin ([X,h,q,s,P,t,cst ↑j,Q,P.d,h.d,A,B]:List PS) (.m (.v 0) (.v 1)) (.m (.m (.v 0) (.v 2)) (.a (.m (.m (.v 1) (.v 3)) (.v 4)) (.m (.v 5) (.a (.a (.m (.m (.v 6) (.v 1)) (.s (.v 7) (.v 8))) (.m (.v 9) (.v 4))) (.m (.v 1) (.v 7)))))) [((.n (.m (.v 0) (.v 1))),(.a (.m (.v 3) (.v 10)) (.m (.v 5) (.v 11))),.i),((.m (.m (.v 0) (.v 1)) (.v 3)),(.v 10),(.m (.v 2) (.v 4))),((.m (.v 0) (.v 5)),(.m (.v 1) (.v 11)),(.m (.v 2) (.a (.a (.m (.m (.v 6) (.v 1)) (.s (.v 7) (.v 8))) (.m (.v 9) (.v 4))) (.m (.v 1) (.v 7)))))] (by decide +kernel) ⟨h2,hA,k2,trivial⟩
theorem top_ps{a:PS}(ha:Fs a)(h0:a≠0):∃k,a.c k≠0/\∀i,k<i->a.c i=0:=by
 obtain⟨n,hn⟩:=ha
 rcases top_of hn with h | ⟨k,_,h1,h2⟩
 . exact absurd (ext λi=>by rw[h,c_zero]) h0
 . exact⟨k,h1,h2⟩
theorem top_mul{a b:PS}{k j:Nat}(h1:a.c k≠0)(h2:∀i,k<i->a.c i=0)(h3:b.c j≠0)(h4:∀i,j<i->b.c i=0):(a*b).c (k+j)≠0/\∀i,k+j<i->(a*b).c i=0:=by
 refine⟨?_,λi hi=>?_⟩
 . rw[c_mul,conv_top h2 h4]
   intro hh
   rcases Rat.mul_eq_zero.1 hh with h | h
   . exact h1 h
   . exact h3 h
 . exact conv_zero_of (a:=k+1) (b:=j+1) (λi hi=>h2 i (by omega)) (λi hi=>h4 i (by omega)) (by omega)
theorem top_pow{a:PS}{k:Nat}(h1:a.c k≠0)(h2:∀i,k<i->a.c i=0):∀n:Nat,(a ^ n).c (n*k)≠0/\∀i,n*k<i->(a ^ n).c i=0
 | 0=>by
   refine⟨?_,λi hi=>?_⟩
   . rw[Nat.zero_mul];show(cst 1).c 0≠0;decide
   . show(cst 1).c i=0;rw[c_cst,if_neg (by omega)]
 | n+1=>by
   obtain⟨h3,h4⟩:=top_pow h1 h2 n
   have:=top_mul h3 h4 h1 h2
   rw[Nat.succ_mul]
   exact this
theorem coprime{g A B s t q P Q:PS}(hg0:g≠0)(hs:Fs s)(ht:Fs t)(hA':Fs A)(hB:Fs B)(hg:Fs g)(hqf:Fs q)(hP:Fs P)(hQ:Fs Q)(h1:d (g*A)=g*B)(h2:s*A+t*B=1)(hA:A=q*P)(hd:d A=q*Q)(hA0:A≠0):∀i,0<i->q.c i=0:=by
 have hq0:q≠0:=λhh=>hA0 (by rw[hA,hh];exact psL.lin ([P]:List PS) (.m .o (.v 0)) .o [] (by decide +kernel) trivial)
 obtain⟨k,k1,k2⟩:=top_ps hqf hq0
 rcases Nat.eq_zero_or_pos k with hk | hk
 . intro i hi;exact k2 i (by omega)
 . exfalso
   obtain⟨n,hn⟩:=hg
   obtain⟨h,hh,e⟩:=pow_dvd hq0 hs ht hA' hB ⟨n,hn⟩ hP hQ h1 h2 hA hd n
   have h0:h≠0:=λh3=>hg0 (by rw[e,h3];exact psL.lin ([q ^ n]:List PS) (.m (.v 0) .o) .o [] (by decide +kernel) trivial)
   obtain⟨m,m1,m2⟩:=top_ps hh h0
   obtain⟨p1,p2⟩:=top_pow k1 k2 n
   have:=(top_mul p1 p2 m1 m2).1
   rw[<-e]at this
   refine this (hn _ ?_)
   have:=Nat.mul_le_mul_left n hk
   omega
end PS
end Den
end

section
namespace Den
open Go Iv Pq
def vr:Int->List Rat->Nat
 | _,[]=>0
 | s,v :: r=>if v.num.sign=0 then vr s r else (if s=-v.num.sign then 1 else 0)+vr v.num.sign r
theorem zdz(s:Int)(v:Rat)(r:List Rat):vr s (v :: r)=if v.num.sign=0 then vr s r else (if s=-v.num.sign then 1 else 0)+vr v.num.sign r:=rfl
theorem zab1(c:Rat):∀(ps:List (List Rat)) (n:Nat) (s:Int),(ps.foldl (λst p=>chS st (ev p c)) (n,s)).1=n+vr s (ps.map λp=>ev p c)
 | [],n,s=>rfl
 | p :: r,n,s=>by
   simp only[List.foldl_cons,List.map_cons]
   rw[zdz]
   by_cases h0:(ev p c).num.sign=0
   . have e:chS (n,s) (ev p c)=(n,s):=by unfold chS;rw[if_pos h0]
     rw[e,if_pos h0]
     exact zab1 c r n s
   . rw[if_neg h0]
     by_cases h1:s=-(ev p c).num.sign
     . have e:chS (n,s) (ev p c)=(n+1,(ev p c).num.sign):=by unfold chS;rw[if_neg h0,if_pos h1]
       rw[e,if_pos h1,zab1 c r];omega
     . have e:chS (n,s) (ev p c)=(n,(ev p c).num.sign):=by unfold chS;rw[if_neg h0,if_neg h1]
       rw[e,if_neg h1,zab1 c r];omega
theorem zab2{ps:List (List Rat)}{c:Rat}:chN ps c=vr 0 (ps.map λp=>ev p c):=by
 unfold chN chF
 rw[zab1];omega
theorem rle{a b:Rat}(h:a<=b):a<b\/a=b:=by
 by_cases h1:a<b
 . exact .inl h1
 . exact .inr (Rat.le_antisymm h (Rat.not_lt.1 h1))
theorem tri(a b:Rat):a<b\/a=b\/b<a:=by
 by_cases h:a<b
 . exact .inl h
 . rcases rle (Rat.not_lt.1 h)with h1 | h1
   . exact .inr (.inr h1)
   . exact .inr (.inl h1.symm)
theorem zwb{v:Rat}:v.num.sign=1↔0<v:=by
 rw[Int.sign_eq_one_iff_pos]
 have:=zai0 (q:=-v)
 rw[Rat.neg_num]at this
 constructor
 . intro h;have:=this.1 (by omega);grind
 . intro h;have:=this.2 (by grind);omega
theorem zwa{v:Rat}:v.num.sign=-1↔v<0:=by
 rw[Int.sign_eq_neg_one_iff_neg]
 exact zai0
theorem zac4{v:Rat}:v.num.sign=0↔v=0:=by
 rw[Int.sign_eq_zero_iff_zero]
 exact Rat.num_eq_zero
theorem zm6(v:Rat):(v.num.sign=1/\0<v)\/(v.num.sign=0/\v=0)\/(v.num.sign=-1/\v<0):=by
 rcases tri v 0 with h | h | h
 . exact .inr (.inr ⟨zwa.2 h,h⟩)
 . exact .inr (.inl ⟨zac4.2 h,h⟩)
 . exact .inl ⟨zwb.2 h,h⟩
theorem zbh{a b:Rat}:0<a*b->(0<a/\0<b)\/(a<0/\b<0):=λh=>by
 rcases tri a 0 with h1 | h1 | h1
 . right
   refine⟨h1,Rat.not_le.1 λh2=>?_⟩
   have:=Rat.mul_nonneg (a:=-a) (b:=b) (by grind) h2
   grind
 . rw[h1,Rat.zero_mul]at h;exact absurd h (Rat.lt_irrefl)
 . left
   refine⟨h1,Rat.not_le.1 λh2=>?_⟩
   have:=Rat.mul_nonneg (a:=a) (b:=-b) (by grind) (by grind)
   grind
theorem zl6{a b:Rat}(h:a*b<0):(0<a/\b<0)\/(a<0/\0<b):=by
 have h2:0<a*(-b):=by grind
 rcases zbh h2 with ⟨h3,h4⟩ | ⟨h3,h4⟩
 . exact .inl ⟨h3,by grind⟩
 . exact .inr ⟨h3,by grind⟩
def Cl:List (Rat×Rat)->Prop
 | []=>True
 | [_]=>True
 | [_,b]=>0<b.1*b.2
 | a :: b :: c :: r=>(0<b.1*b.2\/(a.1*c.1<0/\a.2*c.2<0))/\Cl (b :: c :: r)
theorem zm7{a:Rat×Rat}(h:0<a.1*a.2):a.1.num.sign=a.2.num.sign/\a.1.num.sign≠0:=by
 rcases zbh h with ⟨h1,h2⟩ | ⟨h1,h2⟩
 . rw[zwb.2 h1,zwb.2 h2];decide
 . rw[zwa.2 h1,zwa.2 h2];decide
theorem zann{a b c:Rat}{r:List Rat}(h:a*c<0):vr a.num.sign (b :: c :: r)=1+vr c.num.sign r:=by
 rcases zl6 h with ⟨h1,h2⟩ | ⟨h1,h2⟩
 . rw[zwb.2 h1,zdz,zdz,zdz,zwa.2 h2]
   rcases zm6 b with ⟨hb,_⟩ | ⟨hb,_⟩ | ⟨hb,_⟩<;>rw[hb]<;>simp
 . rw[zwa.2 h1,zdz,zdz,zdz,zwb.2 h2]
   rcases zm6 b with ⟨hb,_⟩ | ⟨hb,_⟩ | ⟨hb,_⟩<;>rw[hb]<;>simp
theorem za0k:∀(n:Nat) (a:Rat×Rat) (L:List (Rat×Rat)),L.length<n->0<a.1*a.2->Cl (a :: L)->vr a.1.num.sign (L.map (·.1))=vr a.2.num.sign (L.map (·.2))
 | n+1,a,[],hn,ha,hc=>rfl
 | n+1,a,[b],hn,ha,hc=>by
   have hb:0<b.1*b.2:=hc
   have s1:=zm7 ha
   have s2:=zm7 hb
   simp only[List.map_cons,List.map_nil]
   rw[zdz,zdz,<-s1.1,<-s2.1]
 | n+1,a,b :: c :: r,hn,ha,hc=>by
   obtain⟨h1,h2⟩:=hc
   have s1:=zm7 ha
   simp only[List.length_cons]at hn
   rcases h1 with hb | ⟨hx,hy⟩
   . have s2:=zm7 hb
     have ih:=za0k n b (c :: r) (by simp only[List.length_cons];omega) hb h2
     simp only[List.map_cons]
     simp only[List.map_cons]at ih
     rw[zdz (r:=c.1 :: r.map (·.1)),zdz (r:=c.2 :: r.map (·.2)),<-s1.1,ih,<-s2.1,if_neg s2.2,if_neg s2.2]
   . simp only[List.map_cons]
     rw[zann hx,zann hy]
     have hcc:0<c.1*c.2:=by
      rcases zbh ha with ⟨h3,h4⟩ | ⟨h3,h4⟩<;>rcases zl6 hx with ⟨h5,h6⟩ | ⟨h5,h6⟩<;>rcases zl6 hy with ⟨h7,h8⟩ | ⟨h7,h8⟩<;>first | (exfalso;grind) | skip
      . have:=Rat.mul_pos (a:=-c.1) (b:=-c.2) (by grind) (by grind);grind
      . exact Rat.mul_pos h6 h8
     have hc2:Cl (c :: r):=by
      cases r with
      | nil=>trivial
      | cons e r=>exact h2.2
     rw[za0k n c r (by omega) hcc hc2]
theorem zap1{p0 p1:Rat×Rat}{L:List (Rat×Rat)}(hc:Cl (p0 :: p1 :: L))(hf:0<p0.1*p0.2\/(0<p1.1/\0<p1.2/\p0.1<p0.2)\/(p1.1<0/\p1.2<0/\p0.2<p0.1)) :
 vr 0 ((p0 :: p1 :: L).map (·.1))=vr 0 ((p0 :: p1 :: L).map (·.2))+(if p0.1≠0/\p0.1*p0.2<=0 then 1 else 0):=by
 by_cases hp:0<p0.1*p0.2
 . rw[if_neg (by rintro⟨_,h⟩;exact absurd hp (Rat.not_lt.2 h))]
   have s0:=zm7 hp
   have:=za0k _ p0 (p1 :: L) (Nat.lt_succ_self _) hp hc
   simp only[List.map_cons]at this |-
   rw[zdz 0 p0.1,zdz 0 p0.2,<-s0.1,if_neg s0.2,if_neg s0.2,this,<-s0.1]
   rfl
 . have hp1:0<p1.1*p1.2:=by
    rcases hf with h | ⟨h1,h2,_⟩ | ⟨h1,h2,_⟩
    . exact absurd h hp
    . exact Rat.mul_pos h1 h2
    . have:=Rat.mul_pos (a:=-p1.1) (b:=-p1.2) (by grind) (by grind);grind
   have hc2:Cl (p1 :: L):=by
    cases L with
    | nil=>trivial
    | cons e r=>exact hc.2
   have ht:=za0k _ p1 L (Nat.lt_succ_self _) hp1 hc2
   have s1:=zm7 hp1
   have hle:p0.1*p0.2<=0:=Rat.not_lt.1 hp
   simp only[List.map_cons]
   have key:∀(v w:Rat) (l:List Rat),vr 0 (v :: w :: l)=(if v.num.sign=0 then vr 0 (w :: l)else vr v.num.sign (w :: l)):=λv w l=>by
    rw[zdz]
    split
    . rfl
    . rename_i hh
      rw[if_neg (by omega),Nat.zero_add]
   have k2:∀(s:Int) (w:Rat) (l:List Rat),w.num.sign≠0->vr s (w :: l)=(if s=-w.num.sign then 1 else 0)+vr w.num.sign l:=λs w l hw=>by
    rw[zdz,if_neg hw]
   have s2:p1.2.num.sign≠0:=by rw[<-s1.1];exact s1.2
   rw[key,key,k2 _ _ _ s1.2,k2 _ _ _ s2,k2 _ _ _ s1.2,k2 _ _ _ s2,ht,<-s1.1]
   have hJ:(if p0.1≠0/\p0.1*p0.2<=0 then 1 else 0)=(if p0.1.num.sign=0 then 0 else 1):=by
    by_cases h0:p0.1=0
    . rw[if_neg (λhh=>hh.1 h0),if_pos (zac4.2 h0)]
    . rw[if_pos ⟨h0,hle⟩,if_neg (λhh=>h0 (zac4.1 hh))]
   rw[hJ]
   rcases hf with h | ⟨h1,h2,h3⟩ | ⟨h1,h2,h3⟩
   . exact absurd h hp
   . rw[zwb.2 h1]
     rcases zm6 p0.1 with ⟨ha,ha'⟩ | ⟨ha,ha'⟩ | ⟨ha,ha'⟩<;>rcases zm6 p0.2 with ⟨hb,hb'⟩ | ⟨hb,hb'⟩ | ⟨hb,hb'⟩<;>rw[ha,hb]<;>first | (exfalso;grind;done) | (exfalso;have:=Rat.mul_pos ha' hb';grind;done) | (exfalso;have:=Rat.mul_pos (a:=-p0.1) (b:=-p0.2) (by grind) (by grind);grind;done) | (simp;done) | (simp;omega)
   . rw[zwa.2 h1]
     rcases zm6 p0.1 with ⟨ha,ha'⟩ | ⟨ha,ha'⟩ | ⟨ha,ha'⟩<;>rcases zm6 p0.2 with ⟨hb,hb'⟩ | ⟨hb,hb'⟩ | ⟨hb,hb'⟩<;>rw[ha,hb]<;>first | (exfalso;grind;done) | (exfalso;have:=Rat.mul_pos ha' hb';grind;done) | (exfalso;have:=Rat.mul_pos (a:=-p0.1) (b:=-p0.2) (by grind) (by grind);grind;done) | (simp;done) | (simp;omega)
def Bd(B x:Rat):Prop:=-B<=x/\x<=B
theorem Bd.mono{A B x:Rat}(h:Bd A x)(hb:A<=B):Bd B x:=⟨by have:=h.1;grind,by have:=h.2;grind⟩
theorem Bd.nn{B x:Rat}(h:Bd B x):0<=B:=by have h1:=h.1;have h2:=h.2;grind
theorem Bd.add{A B x y:Rat}(h1:Bd A x)(h2:Bd B y):Bd (A+B) (x+y):=by
 obtain⟨a,b⟩:=h1;obtain⟨c,d⟩:=h2
 constructor<;>grind
theorem Bd.mul{A B x y:Rat}(h1:Bd A x)(h2:Bd B y):Bd (A*B) (x*y):=by
 obtain⟨a,b⟩:=h1;obtain⟨c,e⟩:=h2
 have k1:=Rat.mul_nonneg (a:=A-x) (b:=B+y) (by grind) (by grind)
 have k2:=Rat.mul_nonneg (a:=A+x) (b:=B-y) (by grind) (by grind)
 have k3:=Rat.mul_nonneg (a:=A-x) (b:=B-y) (by grind) (by grind)
 have k4:=Rat.mul_nonneg (a:=A+x) (b:=B+y) (by grind) (by grind)
 constructor<;>grind
theorem Bd.self(x:Rat):∃B,0<=B/\Bd B x:=by
 rcases Rat.le_total (a:=0) (b:=x)with h | h
 . exact⟨x,h,by constructor<;>grind⟩
 . exact⟨-x,by grind,by constructor<;>grind⟩
theorem ev_bd(R:Rat):∀p:List Rat,∃B,0<=B/\∀x,Bd R x->Bd B (ev p x)
 | []=>⟨0,Rat.le_refl,λx _=>by show Bd 0 0;constructor<;>grind⟩
 | c :: r=>by
   obtain⟨B,hB,h⟩:=ev_bd R r
   obtain⟨C,hC,hc⟩:=Bd.self c
   by_cases hR:0<=R
   . refine⟨C+B*R,?_,λx hx=>hc.add ((h x hx).mul hx)⟩
     have:=Rat.mul_nonneg hB hR
     grind
   . exact⟨0,Rat.le_refl,λx hx=>absurd hx.nn hR⟩
def dq:List Rat->Rat->Rat->Rat
 | [],_,_=>0
 | c :: r,x,y=>ev r y+x*dq r x y
theorem dq_eq:∀(p:List Rat) (x y:Rat),ev p y-ev p x=(y-x)*dq p x y
 | [],x,y=>by show(0:Rat)-0=(y-x)*0;grind
 | c :: r,x,y=>by
   have ih:=dq_eq r x y
   show(c+ev r y*y)-(c+ev r x*x)=(y-x)*(ev r y+x*dq r x y)
   grind
theorem dq_bd(R:Rat):∀p:List Rat,∃B,0<=B/\∀x y,Bd R x->Bd R y->Bd B (dq p x y)
 | []=>⟨0,Rat.le_refl,λx y _ _=>by show Bd 0 0;constructor<;>grind⟩
 | c :: r=>by
   obtain⟨B,hB,h⟩:=dq_bd R r
   obtain⟨C,hC,hc⟩:=ev_bd R r
   by_cases hR:0<=R
   . refine⟨C+R*B,?_,λx y hx hy=>(hc y hy).add (hx.mul (h x y hx hy))⟩
     have:=Rat.mul_nonneg hR hB
     grind
   . exact⟨0,Rat.le_refl,λx y hx=>absurd hx.nn hR⟩
def ddq:List Rat->Rat->Rat->Rat
 | [],_,_=>0
 | c :: r,x,y=>dq r x y+x*ddq r x y
theorem zama:∀(p:List Rat) (x y:Rat),dq p x y-dq p x x=(y-x)*ddq p x y
 | [],x,y=>by show(0:Rat)-0=(y-x)*0;grind
 | c :: r,x,y=>by
   have ih:=zama r x y
   have h2:=dq_eq r x y
   show(ev r y+x*dq r x y)-(ev r x+x*dq r x x)=(y-x)*(dq r x y+x*ddq r x y)
   grind
theorem zam9(R:Rat):∀p:List Rat,∃B,0<=B/\∀x y,Bd R x->Bd R y->Bd B (ddq p x y)
 | []=>⟨0,Rat.le_refl,λx y _ _=>by show Bd 0 0;constructor<;>grind⟩
 | c :: r=>by
   obtain⟨B,hB,h⟩:=zam9 R r
   obtain⟨C,hC,hc⟩:=dq_bd R r
   by_cases hR:0<=R
   . refine⟨C+R*B,?_,λx y hx hy=>(hc x y hx hy).add (hx.mul (h x y hx hy))⟩
     have:=Rat.mul_nonneg hR hB
     grind
   . exact⟨0,Rat.le_refl,λx y hx=>absurd hx.nn hR⟩
def drv:List Rat->List Rat
 | []=>[]
 | _ :: r=>addL r (0 :: drv r)
theorem zamb:∀(p:List Rat) (x:Rat),dq p x x=ev (drv p) x
 | [],x=>rfl
 | c :: r,x=>by
   have ih:=zamb r x
   show ev r x+x*dq r x x=ev (addL r (0 :: drv r)) x
   rw[ev_addL,ih]
   show _=ev r x+(0+ev (drv r) x*x)
   grind
theorem zalz:∀(p:List Rat) (i:Nat),co (drv p) i=der (co p) i
 | [],i=>by
   show(0:Rat)=_*0
   rw[Rat.mul_zero]
 | c :: r,i=>by
   show co (addL r (0 :: drv r)) i=((i+1:Nat):Rat)*co r i
   rw[co_addL]
   cases i with
   | zero=>
     show co r 0+0=_
     have:((0+1:Nat):Rat)=1:=rfl
     rw[this];grind
   | succ i=>
     show co r (i+1)+co (drv r) i=_
     rw[zalz r i]
     unfold der
     have:((i+1+1:Nat):Rat)=((i+1:Nat):Rat)+1:=Rat.natCast_add (i+1) 1
     rw[this];grind
theorem zao9(p:List Rat)(x:Rat):dq p x x=ev (trim (derL p)) x:=by
 rw[zamb,ev_trim]
 exact ev_congr λi=>by rw[zalz,zab5]
end Den
end

section
namespace Den
open Go Iv Pq
theorem sq_nn(u:Rat):0<=u*u:=by
 rcases Rat.le_total (a:=0) (b:=u)with h | h
 . exact Rat.mul_nonneg h h
 . have:=Rat.mul_nonneg (a:=-u) (b:=-u) (by grind) (by grind)
   grind
theorem zamu{a b c q u v ε U V Q:Rat}(h1:q*b=a+c)(h2:u*a+v*b=1)(hb:Bd ε b)(hu:Bd U u)(hv:Bd V v)(hq:Bd Q q)(e1:V*ε<=1/4)(e2:U*Q*ε<=1/4):a*c<0:=by
 have k1:=(hv.mul hb).2
 have k2:=((hu.mul hq).mul hb).2
 have w:3/4<=u*a:=by grind
 have w2:1/2<=u*a-u*q*b:=by grind
 have p:=Rat.mul_pos (a:=u*a) (b:=u*a-u*q*b) (by grind) (by grind)
 refine Rat.not_le.1 λhh=>?_
 have n1:=Rat.mul_nonneg (sq_nn u) hh
 have e:u*u*(a*c)=-((u*a)*(u*a-u*q*b)):=by grind
 grind
theorem sm_of{x y δ l L bx b2:Rat}(hxy:¬0<bx*b2)(h:b2-bx=(y-x)*l)(hl:Bd L l)(h0:x<=y)(hd:y-x<=δ):Bd (δ*L) bx/\Bd (δ*L) b2:=by
 have hb:Bd δ (y-x):=⟨by grind,hd⟩
 have k:=hb.mul hl
 rw[<-h]at k
 obtain⟨k1,k2⟩:=k
 rcases Rat.le_total (a:=0) (b:=bx)with s1 | s1<;>rcases Rat.le_total (a:=0) (b:=b2)with s2 | s2
 . rcases rle s1 with t1 | t1
   . rcases rle s2 with t2 | t2
     . exact absurd (Rat.mul_pos t1 t2) hxy
     . constructor<;>constructor<;>grind
   . constructor<;>constructor<;>grind
 . constructor<;>constructor<;>grind
 . constructor<;>constructor<;>grind
 . rcases rle s1 with t1 | t1
   . rcases rle s2 with t2 | t2
     . exact absurd (by have:=Rat.mul_pos (a:=-bx) (b:=-b2) (by grind) (by grind);grind) hxy
     . constructor<;>constructor<;>grind
   . constructor<;>constructor<;>grind
theorem zsb{E L:Rat}(hE:0<=E)(hL:0<=L):∃δ:Rat,0<δ/\∀e,0<=e->e<=E->e*(δ*L)<=1/4:=by
 have hp:0<4*((1+E)*(1+L)):=by
  have:=Rat.mul_pos (a:=1+E) (b:=1+L) (by grind) (by grind)
  grind
 refine⟨(4*((1+E)*(1+L)))⁻¹,Rat.inv_pos.2 hp,λe h0 he=>?_⟩
 have hi:=Rat.mul_inv_cancel _ (show 4*((1+E)*(1+L))≠0 by grind)
 have hd:=Rat.inv_pos.2 hp
 generalize (4*((1+E)*(1+L)))⁻¹=δ at *
 have k1:0<=(1+E)*(1+L)-e*L:=by
  have h1:=Rat.mul_nonneg (a:=E-e) (b:=L) (by grind) hL
  grind
 have k2:=Rat.mul_nonneg k1 (Rat.le_of_lt hd)
 grind
theorem zij{a b:Rat}(ha:0<a)(hb:0<b):∃c,0<c/\c<=a/\c<=b:=by
 rcases Rat.le_total (a:=a) (b:=b)with h | h
 . exact⟨a,ha,Rat.le_refl,h⟩
 . exact⟨b,hb,h,Rat.le_refl⟩
theorem triple{a b c q u v:List Rat}(R:Rat)(h1:∀x,ev q x*ev b x=ev a x+ev c x)(h2:∀x,ev u x*ev a x+ev v x*ev b x=1) :
 ∃δ:Rat,0<δ/\∀x y,Bd R x->Bd R y->x<=y->y-x<=δ->0<ev b x*ev b y\/(ev a x*ev c x<0/\ev a y*ev c y<0):=by
 obtain⟨Q,hQ,bq⟩:=ev_bd R q
 obtain⟨U,hU,bu⟩:=ev_bd R u
 obtain⟨V,hV,bv⟩:=ev_bd R v
 obtain⟨L,hL,bl⟩:=dq_bd R b
 have hUQ:=Rat.mul_nonneg hU hQ
 obtain⟨δ,hd,he⟩:=zsb (E:=V+U*Q) (L:=L) (by grind) hL
 refine⟨δ,hd,λx y hx hy hxy hs=>?_⟩
 by_cases hb:0<ev b x*ev b y
 . exact .inl hb
 . right
   obtain⟨k1,k2⟩:=sm_of hb (dq_eq b x y) (bl x y hx hy) hxy hs
   have e1:=he V hV (by grind)
   have e2:=he (U*Q) hUQ (by grind)
   exact⟨zamu (h1 x) (h2 x) k1 (bu x hx) (bv x hx) (bq x hx) e1 e2,zamu (h1 y) (h2 y) k2 (bu y hy) (bv y hy) (bq y hy) e1 e2⟩
theorem first{p d u v:List Rat}(R:Rat)(h1:∀x,dq p x x=ev d x)(h2:∀x,ev u x*ev p x+ev v x*ev d x=1) :
 ∃δ:Rat,0<δ/\∀x y,Bd R x->Bd R y->x<y->y-x<=δ->0<ev p x*ev p y\/(0<ev d x/\0<ev d y/\ev p x<ev p y)\/(ev d x<0/\ev d y<0/\ev p y<ev p x):=by
 obtain⟨U,hU,bu⟩:=ev_bd R u
 obtain⟨V,hV,bv⟩:=ev_bd R v
 obtain⟨L,hL,bl⟩:=dq_bd R p
 obtain⟨M,hM,bm⟩:=zam9 R p
 obtain⟨N,hN,bn⟩:=dq_bd R d
 obtain⟨δ1,hd1,he1⟩:=zsb hU hL
 obtain⟨δ2,hd2,he2⟩:=zsb hV hM
 obtain⟨δ3,hd3,he3⟩:=zsb hV hN
 obtain⟨δ4,hd4,l1,l2⟩:=zij hd1 hd2
 obtain⟨δ,hd,l3,l4⟩:=zij hd4 hd3
 refine⟨δ,hd,λx y hx hy hxy hs=>?_⟩
 by_cases hp:0<ev p x*ev p y
 . exact .inl hp
 . right
   have hxy':x<=y:=Rat.le_of_lt hxy
   obtain⟨k1,_⟩:=sm_of hp (dq_eq p x y) (bl x y hx hy) hxy' (δ:=δ1) (by grind)
   have e1:=he1 U hU Rat.le_refl
   have e2:=he2 V hV Rat.le_refl
   have e3:=he3 V hV Rat.le_refl
   have w:3/4<=ev v x*ev d x:=by
    have:=((bu x hx).mul k1).2
    have:=h2 x
    grind
   have b2:Bd δ2 (y-x):=⟨by grind,by grind⟩
   have b3:Bd δ3 (y-x):=⟨by grind,by grind⟩
   have w2:1/2<=ev v x*dq p x y:=by
    have g1:=((bv x hx).mul (b2.mul (bm x y hx hy))).1
    have g2:=zama p x y
    rw[h1]at g2
    have g3:ev v x*dq p x y=ev v x*ev d x+ev v x*((y-x)*ddq p x y):=by rw[<-g2];grind
    grind
   have w3:1/2<=ev v x*ev d y:=by
    have g1:=((bv x hx).mul (b3.mul (bn x y hx hy))).1
    have g2:=dq_eq d x y
    have g3:ev v x*ev d y=ev v x*ev d x+ev v x*((y-x)*dq d x y):=by rw[<-g2];grind
    grind
   have g:=dq_eq p x y
   rcases zbh (a:=ev v x) (b:=ev d x) (by grind)with ⟨s1,s2⟩ | ⟨s1,s2⟩
   . left
     rcases zbh (a:=ev v x) (b:=dq p x y) (by grind)with ⟨_,s3⟩ | ⟨s3,_⟩
     . rcases zbh (a:=ev v x) (b:=ev d y) (by grind)with ⟨_,s4⟩ | ⟨s4,_⟩
       . have:=Rat.mul_pos (a:=y-x) (b:=dq p x y) (by grind) s3
         exact⟨s2,s4,by grind⟩
       . grind
     . grind
   . right
     rcases zbh (a:=ev v x) (b:=dq p x y) (by grind)with ⟨s3,_⟩ | ⟨_,s3⟩
     . grind
     . rcases zbh (a:=ev v x) (b:=ev d y) (by grind)with ⟨s4,_⟩ | ⟨_,s4⟩
       . grind
       . have:=Rat.mul_pos (a:=y-x) (b:=-(dq p x y)) (by grind) (by grind)
         exact⟨s2,s4,by grind⟩
def StE:List (List Rat)->Prop
 | []=>True
 | [_]=>True
 | [_,b]=>∃k:Rat,k≠0/\∀x,ev b x=k
 | a :: b :: c :: r=>(∃q,∀x,ev q x*ev b x=ev a x+ev c x)/\(∃u v,∀x,ev u x*ev a x+ev v x*ev b x=1)/\StE (b :: c :: r)
theorem StE.cell(R:Rat):∀{ps:List (List Rat)},StE ps->∃δ:Rat,0<δ/\∀x y,Bd R x->Bd R y->x<=y->y-x<=δ->Cl (ps.map λp=>(ev p x,ev p y))
 | [],_=>⟨1,by decide,λ_ _ _ _ _ _=>trivial⟩
 | [_],_=>⟨1,by decide,λ_ _ _ _ _ _=>trivial⟩
 | [_,b],⟨k,hk,h⟩=>⟨1,by decide,λx y _ _ _ _=>by
    show 0<ev b x*ev b y
    rw[h,h]
    rcases tri k 0 with h1 | h1 | h1
    . have:=Rat.mul_pos (a:=-k) (b:=-k) (by grind) (by grind);grind
    . exact absurd h1 hk
    . exact Rat.mul_pos h1 h1⟩
 | a :: b :: c :: r,⟨⟨q,hq⟩,⟨u,v,huv⟩,hr⟩=>by
   obtain⟨δ1,d1,h1⟩:=triple R hq huv
   obtain⟨δ2,d2,h2⟩:=StE.cell R hr
   obtain⟨δ,d3,l1,l2⟩:=zij d1 d2
   exact⟨δ,d3,λx y hx hy hxy hs=>⟨h1 x y hx hy hxy (Rat.le_trans hs l1),h2 x y hx hy hxy (Rat.le_trans hs l2)⟩⟩
theorem StE.first(R:Rat){p d:List Rat}{r:List (List Rat)}(h:StE (p :: d :: r))(hd:∀x,dq p x x=ev d x):∃δ:Rat,0<δ/\∀x y,Bd R x->Bd R y->x<y->y-x<=δ ->
 chN (p :: d :: r) x=chN (p :: d :: r) y+(if ev p x≠0/\ev p x*ev p y<=0 then 1 else 0):=by
 have hb:∃u v,∀x,ev u x*ev p x+ev v x*ev d x=1:=by
  cases r with
  | nil=>
    obtain⟨k,hk,h1⟩:=h
    refine⟨[],[1/k],λx=>?_⟩
    rw[h1]
    show 0*_+(1/k+0*x)*k=1
    have:=Rat.div_mul_cancel (a:=(1:Rat)) hk
    grind
  | cons c r=>exact h.2.1
 obtain⟨u,v,huv⟩:=hb
 obtain⟨δ1,d1,h1⟩:=Den.first R hd huv
 obtain⟨δ2,d2,h2⟩:=StE.cell R h
 obtain⟨δ,d3,l1,l2⟩:=zij d1 d2
 refine⟨δ,d3,λx y hx hy hxy hs=>?_⟩
 have:=zap1 (p0:=(ev p x,ev p y)) (p1:=(ev d x,ev d y)) (L:=r.map λp=>(ev p x,ev p y)) (h2 x y hx hy (Rat.le_of_lt hxy) (Rat.le_trans hs l2)) (h1 x y hx hy hxy (Rat.le_trans hs l1))
 rw[zab2,zab2]
 simp only[List.map_cons,List.map_map]at this |-
 exact this
theorem arch{t δ:Rat}(hd:0<δ):∃n:Nat,t<=(n:Rat)*δ:=by
 refine⟨(t/δ).num.natAbs,?_⟩
 have h1:t/δ<=(((t/δ).num.natAbs:Nat):Rat):=by
  have h2:=zcz (t/δ)
  have h3:(1:Rat)<=(((t/δ).den:Nat):Rat):=by
   have:=(t/δ).den_pos
   have h4:((1:Nat):Rat)<=(((t/δ).den:Nat):Rat):=Rat.natCast_le_natCast.2 (by omega)
   exact h4
  have h5:((t/δ).num:Rat)<=(((t/δ).num.natAbs:Nat):Rat):=by
   rw[<-Rat.intCast_natCast]
   exact Rat.intCast_le_intCast.2 (by omega)
  have h6:(0:Rat)<=(((t/δ).num.natAbs:Nat):Rat):=by
   rw[<-Rat.intCast_natCast]
   exact Rat.intCast_nonneg.2 (by omega)
  generalize ((t/δ).num:Rat)=m at *
  generalize (((t/δ).num.natAbs:Nat):Rat)=M at *
  generalize (((t/δ).den:Nat):Rat)=D at *
  generalize t/δ=z at *
  refine Rat.not_lt.1 λhh=>?_
  have:=Rat.mul_nonneg (a:=z) (b:=D-1) (by grind) (by grind)
  grind
 have h2:=Rat.mul_nonneg (a:=(((t/δ).num.natAbs:Nat):Rat)-t/δ) (b:=δ) (by grind) (Rat.le_of_lt hd)
 have h3:t/δ*δ=t:=Rat.div_mul_cancel (by grind)
 grind
theorem mesh{P:Rat->Rat->Prop}{δ u v:Rat}(hd:0<δ)(h1:∀x y,u<=x->x<y->y<=v->y-x<=δ->P x y)(h2:∀x y z,u<=x->x<y->y<z->z<=v->P x y->P y z->P x z)(huv:u<v):P u v:=by
 have key:∀(n:Nat) (x:Rat),u<=x->x<v->v-x<=(n:Rat)*δ->P x v:=by
  intro n
  induction n with
  | zero=>
    intro x hx hxv hn
    exfalso
    have:((0:Nat):Rat)=0:=rfl
    rw[this,Rat.zero_mul]at hn
    grind
  | succ n ih=>
    intro x hx hxv hn
    by_cases hs:v-x<=δ
    . exact h1 x v hx hxv Rat.le_refl hs
    . have e:((n+1:Nat):Rat)=(n:Rat)+1:=Rat.natCast_add n 1
      rw[e]at hn
      refine h2 x (x+δ) v hx (by grind) (by grind) Rat.le_refl (h1 x (x+δ) hx (by grind) (by grind) (by grind)) (ih (x+δ) (by grind) (by grind) (by grind))
 obtain⟨n,hn⟩:=arch (t:=v-u) hd
 exact key n u Rat.le_refl huv hn
end Den
end

section
namespace Den
open Go Iv Pq PS
theorem toL{u:PS}(hu:Fs u):∃l:List Rat,ps l=u:=by
 obtain⟨n,hn⟩:=hu
 refine⟨(List.range n).map u.c,PS.ext λj=>?_⟩
 rw[ps_c,zlr]
 split
 . rfl
 . exact(hn j (by omega)).symm
theorem zapi{a b c q:List Rat}(h:ps a=ps q*ps b-ps c)(x:Rat):ev q x*ev b x=ev a x+ev c x:=by
 rw[<-ev_mulL,<-ev_addL]
 refine ev_congr λi=>?_
 have:=congrArg (λs:PS=>s.c i) h
 simp only[c_sub,c_mul,ps_c]at this
 rw[co_mulL,co_addL,this]
 have e:conv (ps q).c (ps b).c i=conv (co q) (co b) i:=rfl
 grind
theorem zaj9{a b u v:List Rat}{k:Rat}(h:ps u*ps a+ps v*ps b=cst k)(x:Rat):ev u x*ev a x+ev v x*ev b x=k:=by
 have e:ev (addL (mulL u a) (mulL v b)) x=ev [k] x:=ev_congr λi=>by
  have:=congrArg (λs:PS=>s.c i) h
  simp only[c_add,c_mul,c_cst]at this
  rw[co_addL,co_mulL,co_mulL]
  have e2:co [k] i=if i=0 then k else 0:=by
   cases i with
   | zero=>rfl
   | succ i=>rfl
  rw[e2]
  exact this
 rw[ev_addL,ev_mulL,ev_mulL]at e
 rw[e]
 show k+0*x=k
 grind
theorem zabe{b:List Rat}{k:Rat}(h:ps b=cst k)(x:Rat):ev b x=k:=by
 have e:ev b x=ev [k] x:=ev_congr λi=>by
  have:=congrArg (λs:PS=>s.c i) h
  simp only[c_cst,ps_c]at this
  have e2:co [k] i=if i=0 then k else 0:=by
   cases i with
   | zero=>rfl
   | succ i=>rfl
  rw[e2];exact this
 rw[e]
 show k+0*x=k
 grind
def StP:List (List Rat)->Prop
 | []=>True
 | [_]=>True
 | [a,b]=>∃u:PS,Fs u/\ps a=u*ps b
 | a :: b :: c :: r=>(∃u:PS,Fs u/\ps a=u*ps b-ps c)/\StP (b :: c :: r)
theorem zaj7:∀{n:Nat} {p q:List Rat},nf q->q≠[]->q.length<=n->StP (p :: chn n p q)
 | 0,p,q,_,h0,hl=>absurd (List.length_pos_iff.2 h0) (by omega)
 | n+1,p,q,hq,h0,hl=>by
   have ht:trim q≠[]:=by rw[trim_nf hq];exact h0
   obtain⟨u,hu,hr⟩:=rem_eq (p:=p) ht
   have e:chn (n+1) p q=q :: chn n q (negT (remL p q)):=by
    show(if q=[]then []else q :: chn n q (negT (remL p q)))=_
    rw[if_neg h0]
   rw[e]
   by_cases hz:remL p q=[]
   . rw[hz,zafm,za04]
     rw[hz,ps_nil]at hr
     exact⟨u,hu,by rw[hr];exact psL.lin ([u,ps q]:List PS) (.a (.m (.v 0) (.v 1)) .o) (.m (.v 0) (.v 1)) [] (by decide +kernel) trivial⟩
   . have hz2:=zabn zkm hz
     have hlen:(negT (remL p q)).length<=n:=by
      rw[za40 zkm]
      have:=zus (p:=p) (q:=q)
      rw[trim_nf hq]at this
      omega
     have ih:=zaj7 (n:=n) (p:=q) (q:=negT (remL p q)) zajf hz2 hlen
     obtain⟨m,rfl⟩:∃m,n=m+1:=⟨n-1,by have:=List.length_pos_iff.2 hz2;omega⟩
     have e2:chn (m+1) q (negT (remL p q))=negT (remL p q) :: chn m (negT (remL p q)) (negT (remL q (negT (remL p q)))):=by
      show(if negT (remL p q)=[]then []else negT (remL p q) :: chn m (negT (remL p q)) (negT (remL q (negT (remL p q)))))=_
      rw[if_neg hz2]
     rw[e2]at ih |-
     exact⟨⟨u,hu,by rw[hr,ps_neg];exact psL.lin ([u,ps q,ps (remL p q)]:List PS) (.a (.m (.v 0) (.v 1)) (.v 2)) (.s (.m (.v 0) (.v 1)) (.n (.v 2))) [] (by decide +kernel) trivial⟩,ih⟩
theorem StP.last:∀{L:List (List Rat)} {a b:List Rat},StP (a :: b :: L)->∃s t A B:PS,Fs s/\Fs t/\Fs A/\Fs B/\ps ((b :: L).getLast (by simp))=s*ps a+t*ps b/\ps a=ps ((b :: L).getLast (by simp))*A/\ps b=ps ((b :: L).getLast (by simp))*B
 | [],a,b,⟨u,hu,h⟩=>⟨0,1,u,1,Fs.cst 0,Fs.cst 1,hu,Fs.cst 1,by simp only[List.getLast_singleton];exact psL.lin ([ps b,ps a]:List PS) (.v 0) (.a (.m .o (.v 1)) (.m .i (.v 0))) [] (by decide +kernel) trivial,by simp only[List.getLast_singleton];exact psL.lin ([ps a,ps b,u]:List PS) (.v 0) (.m (.v 1) (.v 2)) [(.i,(.v 0),(.m (.v 2) (.v 1)))] (by decide +kernel) ⟨h,trivial⟩,by simp only[List.getLast_singleton];exact psL.lin ([ps b]:List PS) (.v 0) (.m (.v 0) .i) [] (by decide +kernel) trivial⟩
 | c :: r,a,b,⟨⟨u,hu,h⟩,hr⟩=>by
   obtain⟨s,t,B,C,f1,f2,f3,f4,e1,e2,e3⟩:=StP.last hr
   have el:(b :: c :: r).getLast (by simp)=(c :: r).getLast (by simp):=List.getLast_cons (by simp)
   rw[el]
   generalize ps ((c :: r).getLast (by simp))=e at *
   exact⟨-t,s+t*u,u*B-C,B,f2.neg,f1.add (f2.mul hu),(hu.mul f3).sub f4,f3,by rw[e1];exact psL.lin ([s,ps b,t,ps c,ps a,u]:List PS) (.a (.m (.v 0) (.v 1)) (.m (.v 2) (.v 3))) (.a (.m (.n (.v 2)) (.v 4)) (.m (.a (.v 0) (.m (.v 2) (.v 5))) (.v 1))) [((.v 2),(.v 4),(.s (.m (.v 5) (.v 1)) (.v 3)))] (by decide +kernel) ⟨h,trivial⟩,by exact psL.lin ([ps a,e,u,B,C,ps b,ps c]:List PS) (.v 0) (.m (.v 1) (.s (.m (.v 2) (.v 3)) (.v 4))) [(.i,(.v 0),(.s (.m (.v 2) (.v 5)) (.v 6))),((.v 2),(.v 5),(.m (.v 1) (.v 3))),((.n .i),(.v 6),(.m (.v 1) (.v 4)))] (by decide +kernel) ⟨h,e2,e3,trivial⟩,e2⟩
theorem zhc(a b:Rat):cst a*cst b=cst (a*b):=PS.ext λi=>by
 rw[c_cstm,c_cst,c_cst]
 split
 . rfl
 . exact Rat.mul_zero _
theorem StP.toE{k:Rat}(hk:k≠0):∀{L:List (List Rat)} {a b:List Rat},StP (a :: b :: L)->ps ((b :: L).getLast (by simp))=cst k->StE (a :: b :: L)
 | [],a,b,h,hl=>⟨k,hk,λx=>zabe hl x⟩
 | c :: r,a,b,h,hl=>by
   obtain⟨s,t,A,B,f1,f2,f3,f4,e1,e2,e3⟩:=StP.last h
   rw[hl]at e1
   obtain⟨⟨u,hu,h1⟩,hr⟩:=h
   obtain⟨q,rfl⟩:=toL hu
   obtain⟨s',hs'⟩:=toL ((Fs.cst (1/k)).mul f1)
   obtain⟨t',ht'⟩:=toL ((Fs.cst (1/k)).mul f2)
   refine⟨⟨q,λx=>zapi h1 x⟩,⟨s',t',λx=>zaj9 ?_ x⟩,StP.toE hk hr (by
    have el:(b :: c :: r).getLast (by simp)=(c :: r).getLast (by simp):=List.getLast_cons (by simp)
    rw[<-el];exact hl)⟩
   rw[hs',ht']
   have e5:cst (1/k)*cst k=cst 1:=by rw[zhc,Rat.div_mul_cancel hk]
   have e6:cst (1/k)*s*ps a+cst (1/k)*t*ps b=cst (1/k)*cst k:=by rw[e1];exact psL.lin ([cst (1/k),s,ps a,t,ps b]:List PS) (.a (.m (.m (.v 0) (.v 1)) (.v 2)) (.m (.m (.v 0) (.v 3)) (.v 4))) (.m (.v 0) (.a (.m (.v 1) (.v 2)) (.m (.v 3) (.v 4)))) [] (by decide +kernel) trivial
   rw[e6,e5]
theorem za4m{p:List Rat}(h0:trim p≠[]):∃g A B s t:PS,Fs g/\Fs A/\Fs B/\Fs s/\Fs t/\g≠0/\A≠0/\ps (monQ p)=g*A/\d (g*A)=g*B/\s*A+t*B=1/\∃k:Rat,k≠0/\ps (sqfL p)=cst k*A:=by
 obtain⟨M,hM⟩:∃M,M=monQ p:=⟨_,rfl⟩
 have nM:nf M:=by rw[hM];exact zg9
 have hM0:M≠[]:=λhh=>h0 (List.eq_nil_of_length_eq_zero (by rw[<-zbn,<-hM,hh];rfl))
 have tM:trim M≠[]:=by rw[trim_nf nM];exact hM0
 have pM:ps M≠0:=λhh=>tM (ps_eq_nil hh)
 obtain⟨D,hD⟩:∃D,D=trim (derL M):=⟨_,rfl⟩
 have dD:ps D=d (ps M):=by rw[hD];exact ps_der M
 obtain⟨a,b,x',y',fa,fb,fx,fy,e1,e2,e3⟩:=gcd_comb (n:=(monQ D).length+1) (x:=monQ M) (y:=monQ D) zg9 (Nat.lt_succ_self _)
 obtain⟨G,hG⟩:∃G,G=gcdQ M D:=⟨_,rfl⟩
 have eG:gcdS ((monQ D).length+1) (monQ M) (monQ D)=G:=by rw[hG];rfl
 rw[eG]at e1 e2 e3
 obtain⟨k1,hk1,m1,m2⟩:=ps_mon tM
 have hB:∃b1 B:PS,Fs b1/\Fs B/\ps G=a*cst k1*ps M+b1*d (ps M)/\d (ps M)=ps G*B:=by
  by_cases hz:trim D=[]
  . have z1:ps D=0:=by rw[<-ps_trim,hz,ps_nil]
    rw[ps_mon_nil hz,ps_nil]at e1
    rw[z1]at dD
    exact⟨0,0,Fs.cst 0,Fs.cst 0,by rw[e1,m1];exact psL.lin ([a,cst k1,ps M,b,(ps M).d]:List PS) (.a (.m (.v 0) (.m (.v 1) (.v 2))) (.m (.v 3) .o)) (.a (.m (.m (.v 0) (.v 1)) (.v 2)) (.m .o (.v 4))) [] (by decide +kernel) trivial,by rw[<-dD];exact psL.lin ([ps G]:List PS) .o (.m (.v 0) .o) [] (by decide +kernel) trivial⟩
  . obtain⟨k2,hk2,n1,n2⟩:=ps_mon hz
    rw[n1]at e1
    exact⟨b*cst k2,cst (1/k2)*y',fb.mul (Fs.cst _),(Fs.cst _).mul fy,by rw[<-dD,e1,m1];exact psL.lin ([a,cst k1,ps M,b,cst k2,ps D]:List PS) (.a (.m (.v 0) (.m (.v 1) (.v 2))) (.m (.v 3) (.m (.v 4) (.v 5)))) (.a (.m (.m (.v 0) (.v 1)) (.v 2)) (.m (.m (.v 3) (.v 4)) (.v 5))) [] (by decide +kernel) trivial,by rw[<-dD,n2,e3];exact psL.lin ([cst (1/k2),ps G,y']:List PS) (.m (.v 0) (.m (.v 1) (.v 2))) (.m (.v 1) (.m (.v 0) (.v 2))) [] (by decide +kernel) trivial⟩
 obtain⟨b1,B,fb1,fB,g1,g2⟩:=hB
 have hA:ps M=ps G*(cst (1/k1)*x'):=by rw[m2,e2];exact psL.lin ([cst (1/k1),ps G,x']:List PS) (.m (.v 0) (.m (.v 1) (.v 2))) (.m (.v 1) (.m (.v 0) (.v 2))) [] (by decide +kernel) trivial
 obtain⟨A,eA⟩:∃A,A=cst (1/k1)*x':=⟨_,rfl⟩
 have fA:Fs A:=by rw[eA];exact(Fs.cst _).mul fx
 rw[<-eA]at hA
 have hG0:ps G≠0:=λhh=>pM (by rw[hA,hh];exact psL.lin ([A]:List PS) (.m .o (.v 0)) .o [] (by decide +kernel) trivial)
 have hA0:A≠0:=λhh=>pM (by rw[hA,hh];exact psL.lin ([ps G]:List PS) (.m (.v 0) .o) .o [] (by decide +kernel) trivial)
 have one:a*cst k1*A+b1*B=1:=by
  refine cancel hG0 ?_
  have:ps G=a*cst k1*(ps G*A)+b1*(ps G*B):=by rw[<-hA,<-g2];exact g1
  exact psL.lin ([ps G,a,cst k1,A,b1,B]:List PS) (.m (.v 0) (.a (.m (.m (.v 1) (.v 2)) (.v 3)) (.m (.v 4) (.v 5)))) (.m (.v 0) .i) [((.n .i),(.v 0),(.a (.m (.m (.v 1) (.v 2)) (.m (.v 0) (.v 3))) (.m (.v 4) (.m (.v 0) (.v 5)))))] (by decide +kernel) ⟨this,trivial⟩
 have tG:trim G≠[]:=λhh=>hG0 (by rw[<-ps_trim,hh,ps_nil])
 obtain⟨lA,hlA⟩:=toL fA
 have hq:trim lA=quoL M G:=zabt (rs:=[]) tG ⟨λj=>by
  have:=congrArg (λs:PS=>s.c j) hA
  simp only[c_mul,ps_c]at this
  rw[co_nil,Rat.add_zero,this,<-hlA]
  exact conv_comm,λj _=>co_nil⟩
 have es:sqfL p=monQ (quoL M G):=by unfold sqfL;rw[if_neg h0,<-hM,<-hD,<-hG]
 have tq:trim (quoL M G)≠[]:=λhh=>hA0 (by rw[<-hlA,<-ps_trim,hq,<-ps_trim,hh,ps_nil])
 obtain⟨k,hk,w1,w2⟩:=ps_mon tq
 refine⟨ps G,A,B,a*cst k1,b1,ps_fs G,fA,fB,fa.mul (Fs.cst _),fb1,hG0,hA0,by rw[<-hM];exact hA,by rw[<-hA];exact g2,one,k,hk,?_⟩
 rw[es,w1,<-hq,ps_trim,hlA]
theorem zalw{n:Nat}{p q:List Rat}(hq:nf q)(h0:q≠[])(hl:q.length<=n):∃r,chn n p q=q :: r:=by
 obtain⟨m,rfl⟩:∃m,n=m+1:=⟨n-1,by have:=List.length_pos_iff.2 h0;omega⟩
 exact⟨_,by show(if q=[]then []else _)=_;rw[if_neg h0]⟩
theorem zsl{p:List Rat}(h2:2<=(trim p).length)(hl:(sqfL p).length<=9)(R:Rat):∃δ:Rat,0<δ/\∀x y,Bd R x->Bd R y->x<y->y-x<=δ ->
 chN (chainL p) x=chN (chainL p) y+(if ev (sqfL p) x≠0/\ev (sqfL p) x*ev (sqfL p) y<=0 then 1 else 0):=by
 have h0:trim p≠[]:=λhh=>by rw[hh]at h2;simp at h2
 obtain⟨g,A,B,s,t,fg,fA,fB,fs,ft,hg0,hA0,eM,eD,one,k,hk,eW⟩:=za4m h0
 obtain⟨W,hW⟩:∃W,W=sqfL p:=⟨_,rfl⟩
 have ec:chainL p=W :: chn 9 W (trim (derL W)):=by unfold chainL;rw[if_neg (by omega),<-hW]
 rw[ec,<-hW]
 rw[<-hW]at eW hl
 have hW0:ps W≠0:=λhh=>by
  rw[hh]at eW
  rcases PS.mul_eq_zero eW.symm with h3 | h3
  . have:=congrArg (λs:PS=>s.c 0) h3
    simp only[c_cst,c_zero,if_true]at this
    exact hk this
  . exact hA0 h3
 by_cases hD:trim (derL W)=[]
 . 
  rw[hD,za04]
  have z:d (ps W)=0:=by rw[<-ps_der,hD,ps_nil]
  have hc:ps W=cst (co W 0):=PS.ext λi=>by
   rw[c_cst]
   cases i with
   | zero=>rfl
   | succ i=>
     rw[if_neg (by omega)]
     have:=congrArg (λs:PS=>s.c i) z
     simp only[c_zero]at this
     have h3:((i+1:Nat):Rat)*co W (i+1)=0:=this
     rcases Rat.mul_eq_zero.1 h3 with h4 | h4
     . exact absurd h4 (by
        intro h5
        have:=Rat.natCast_inj.1 (show((i+1:Nat):Rat)=((0:Nat):Rat) from h5)
        omega)
     . exact h4
  refine⟨1,by decide,λx y _ _ _ _=>?_⟩
  have hv:=zabe hc
  have hne:co W 0≠0:=λhh=>hW0 (by rw[hc,hh];rfl)
  rw[hv x,hv y,if_neg]
  . rw[zab2,zab2]
    simp only[List.map_cons,List.map_nil]
    rw[hv x,hv y]
    rfl
  . rintro⟨_,hh⟩
    rcases tri (co W 0) 0 with h1 | h1 | h1
    . have:=Rat.mul_pos (a:=-(co W 0)) (b:=-(co W 0)) (by grind) (by grind);grind
    . exact hne h1
    . have:=Rat.mul_pos h1 h1;grind
 . have ldW:(derL W).length=W.length-1:=by unfold derL derP;simp
   have lD:(trim (derL W)).length<=W.length-1:=by rw[<-ldW];exact trim_len
   have hst:=zaj7 (n:=9) (p:=W) (q:=trim (derL W)) nf_trim hD (by omega)
   obtain⟨r,hr⟩:=zalw (n:=9) (p:=W) (q:=trim (derL W)) nf_trim hD (by omega)
   rw[hr]at hst |-
   obtain⟨s1,t1,A1,B1,f1,f2,f3,f4,e1,e2,e3⟩:=StP.last hst
   obtain⟨e,he⟩:∃e,e=ps ((trim (derL W) :: r).getLast (by simp)):=⟨_,rfl⟩
   rw[<-he]at e1 e2 e3
   have fe:Fs e:=by rw[he];exact ps_fs _
   rw[ps_der]at e3
   have kk:cst (1/k)*cst k=1:=by rw[zhc,Rat.div_mul_cancel hk];rfl
   have hA2:A=e*(cst (1/k)*A1):=by
    have:A=cst (1/k)*ps W:=by rw[eW];exact psL.lin ([A,cst (1/k),cst k]:List PS) (.v 0) (.m (.v 1) (.m (.v 2) (.v 0))) [((.n (.v 0)),(.m (.v 1) (.v 2)),.i)] (by decide +kernel) ⟨kk,trivial⟩
    rw[this,e2];exact psL.lin ([cst (1/k),e,A1]:List PS) (.m (.v 0) (.m (.v 1) (.v 2))) (.m (.v 1) (.m (.v 0) (.v 2))) [] (by decide +kernel) trivial
   have dk:d (cst k*A)=cst k*d A:=by
    rw[d_mul]
    have:d (cst k)=0:=PS.ext λi=>by
     show der (cst k).c i=_
     unfold der
     rw[c_cst,if_neg (by omega),Rat.mul_zero,c_zero]
    rw[this];exact psL.lin ([A,cst k,A.d]:List PS) (.a (.m .o (.v 0)) (.m (.v 1) (.v 2))) (.m (.v 1) (.v 2)) [] (by decide +kernel) trivial
   have hdA:d A=e*(cst (1/k)*B1):=by
    have:d A=cst (1/k)*d (ps W):=by rw[eW,dk];exact psL.lin ([A.d,cst (1/k),cst k]:List PS) (.v 0) (.m (.v 1) (.m (.v 2) (.v 0))) [((.n (.v 0)),(.m (.v 1) (.v 2)),.i)] (by decide +kernel) ⟨kk,trivial⟩
    rw[this,e3];exact psL.lin ([cst (1/k),e,B1]:List PS) (.m (.v 0) (.m (.v 1) (.v 2))) (.m (.v 1) (.m (.v 0) (.v 2))) [] (by decide +kernel) trivial
   have hcst:=coprime hg0 fs ft fA fB fg fe ((Fs.cst (1/k)).mul f3) ((Fs.cst (1/k)).mul f4) eD one hA2 hdA hA0
   have ece:e=cst (e.c 0):=PS.ext λi=>by
    rw[c_cst]
    split
    . rename_i hi;rw[hi]
    . exact hcst i (by omega)
   have hne:e.c 0≠0:=λhh=>by
    rw[hh]at ece
    exact hW0 (by
                  rw[e2,ece];have:cst 0=(0:PS):=rfl
                  rw[this];exact psL.lin ([A1]:List PS) (.m .o (.v 0)) .o [] (by decide +kernel) trivial)
   have hE:=StP.toE hne hst (by rw[<-he];exact ece)
   exact StE.first R hE λx=>zao9 W x
end Den
end

section
namespace Den
open Go Iv Pq
namespace PS
def Cop(a b:PS):Prop:=∃s t:PS,Fs s/\Fs t/\s*a+t*b=1
def Dv(a b:PS):Prop:=∃c:PS,Fs c/\b=a*c
def Con(a:PS):Prop:=∀i,0<i->a.c i=0
def Sqf(a:PS):Prop:=Cop a (d a)
theorem Cop.symm{a b:PS}(h:Cop a b):Cop b a:=by
 obtain⟨s,t,hs,ht,e⟩:=h
 exact⟨t,s,ht,hs,by exact psL.lin ([t,b,s,a]:List PS) (.a (.m (.v 0) (.v 1)) (.m (.v 2) (.v 3))) .i [(.i,(.a (.m (.v 2) (.v 3)) (.m (.v 0) (.v 1))),.i)] (by decide +kernel) ⟨e,trivial⟩⟩
theorem Cop.mul{a b c:PS}(h1:Cop a c)(h2:Cop b c)(ha:Fs a)(hb:Fs b)(hc:Fs c):Cop (a*b) c:=by
 obtain⟨s,t,hs,ht,e⟩:=h1
 obtain⟨u,v,hu,hv,e2⟩:=h2
 refine⟨s*u,s*a*v+t*(u*b+v*c),hs.mul hu,((hs.mul ha).mul hv).add (ht.mul ((hu.mul hb).add (hv.mul hc))),?_⟩
 have:(s*a+t*c)*(u*b+v*c)=1:=by rw[e,e2];exact psL.lin ([]:List PS) (.m .i .i) .i [] (by decide +kernel) trivial
 exact psL.lin ([s,u,a,b,v,t,c]:List PS) (.a (.m (.m (.v 0) (.v 1)) (.m (.v 2) (.v 3))) (.m (.a (.m (.m (.v 0) (.v 2)) (.v 4)) (.m (.v 5) (.a (.m (.v 1) (.v 3)) (.m (.v 4) (.v 6))))) (.v 6))) .i [(.i,(.m (.a (.m (.v 0) (.v 2)) (.m (.v 5) (.v 6))) (.a (.m (.v 1) (.v 3)) (.m (.v 4) (.v 6)))),.i)] (by decide +kernel) ⟨this,trivial⟩
theorem Cop.dvd{a c q:PS}(h:Cop a c)(hd:Dv q a):Cop q c:=by
 obtain⟨s,t,hs,ht,e⟩:=h
 obtain⟨x,hx,ex⟩:=hd
 exact⟨s*x,t,hs.mul hx,ht,by exact psL.lin ([s,x,q,t,c,a]:List PS) (.a (.m (.m (.v 0) (.v 1)) (.v 2)) (.m (.v 3) (.v 4))) .i [(.i,(.a (.m (.v 0) (.v 5)) (.m (.v 3) (.v 4))),.i),((.n (.v 0)),(.v 5),(.m (.v 2) (.v 1)))] (by decide +kernel) ⟨e,ex,trivial⟩⟩
theorem Cop.addm{a b m:PS}(h:Cop a b)(hm:Fs m):Cop a (b+a*m):=by
 obtain⟨s,t,hs,ht,e⟩:=h
 exact⟨s-t*m,t,hs.sub (ht.mul hm),ht,by exact psL.lin ([s,t,m,a,b]:List PS) (.a (.m (.s (.v 0) (.m (.v 1) (.v 2))) (.v 3)) (.m (.v 1) (.a (.v 4) (.m (.v 3) (.v 2))))) .i [(.i,(.a (.m (.v 0) (.v 3)) (.m (.v 1) (.v 4))),.i)] (by decide +kernel) ⟨e,trivial⟩⟩
theorem Dv.trans{a b c:PS}(h1:Dv a b)(h2:Dv b c):Dv a c:=by
 obtain⟨x,hx,ex⟩:=h1
 obtain⟨y,hy,ey⟩:=h2
 exact⟨x*y,hx.mul hy,by exact psL.lin ([c,a,x,y,b]:List PS) (.v 0) (.m (.v 1) (.m (.v 2) (.v 3))) [((.v 3),(.v 4),(.m (.v 1) (.v 2))),(.i,(.v 0),(.m (.v 4) (.v 3)))] (by decide +kernel) ⟨ex,ey,trivial⟩⟩
theorem Dv.comb{q a b s t:PS}(h1:Dv q a)(h2:Dv q b)(hs:Fs s)(ht:Fs t):Dv q (s*a+t*b):=by
 obtain⟨x,hx,ex⟩:=h1
 obtain⟨y,hy,ey⟩:=h2
 exact⟨s*x+t*y,(hs.mul hx).add (ht.mul hy),by exact psL.lin ([s,a,t,b,q,x,y]:List PS) (.a (.m (.v 0) (.v 1)) (.m (.v 2) (.v 3))) (.m (.v 4) (.a (.m (.v 0) (.v 5)) (.m (.v 2) (.v 6)))) [((.v 0),(.v 1),(.m (.v 4) (.v 5))),((.v 2),(.v 3),(.m (.v 4) (.v 6)))] (by decide +kernel) ⟨ex,ey,trivial⟩⟩
theorem gauss{q a b:PS}(h:Cop q a)(hb:Fs b)(hd:Dv q (a*b)):Dv q b:=by
 obtain⟨s,t,hs,ht,e⟩:=h
 obtain⟨c,hc,ec⟩:=hd
 refine⟨b*s+t*c,(hb.mul hs).add (ht.mul hc),?_⟩
 have:b=b*(s*q+t*a):=by rw[e];exact psL.lin ([b]:List PS) (.v 0) (.m (.v 0) .i) [] (by decide +kernel) trivial
 exact psL.lin ([b,q,s,t,c,a]:List PS) (.v 0) (.m (.v 1) (.a (.m (.v 0) (.v 2)) (.m (.v 3) (.v 4)))) [((.n (.v 0)),(.a (.m (.v 2) (.v 1)) (.m (.v 3) (.v 5))),.i),((.v 3),(.m (.v 5) (.v 0)),(.m (.v 1) (.v 4)))] (by decide +kernel) ⟨e,ec,trivial⟩
theorem ne_one:(1:PS)≠0:=λh=>by
 have:=congrArg (λs:PS=>s.c 0) h
 simp only[c_one,c_zero,if_true]at this
 exact absurd this (by decide)
theorem con_of{q c:PS}(hq:Fs q)(hc:Fs c)(h:q*c=1):Con q:=by
 have hq0:q≠0:=λhh=>ne_one (by rw[<-h,hh];exact psL.lin ([c]:List PS) (.m .o (.v 0)) .o [] (by decide +kernel) trivial)
 have hc0:c≠0:=λhh=>ne_one (by rw[<-h,hh];exact psL.lin ([q]:List PS) (.m (.v 0) .o) .o [] (by decide +kernel) trivial)
 obtain⟨k,k1,k2⟩:=top_ps hq hq0
 obtain⟨m,m1,m2⟩:=top_ps hc hc0
 have:=(top_mul k1 k2 m1 m2).1
 rw[h,c_one]at this
 have hz:k+m=0:=Classical.byContradiction λhh=>this (by rw[if_neg hh])
 intro i hi
 exact k2 i (by omega)
theorem Cop.con{a b q:PS}(h:Cop a b)(hq:Fs q)(h1:Dv q a)(h2:Dv q b):Con q:=by
 obtain⟨s,t,hs,ht,e⟩:=h
 obtain⟨c,hc,ec⟩:=h1.comb h2 hs ht
 exact con_of hq hc (by rw[<-ec,e])
theorem Con.eq{a:PS}(h:Con a):a=cst (a.c 0):=ext λi=>by
 rw[c_cst]
 split
 . rename_i hi;rw[hi]
 . exact h i (by omega)
theorem Con.inv{a:PS}(h:Con a)(h0:a≠0):∃k:Rat,k≠0/\a=cst k/\cst (1/k)*a=1:=by
 have e:=h.eq
 have hk:a.c 0≠0:=λhh=>h0 (by rw[e,hh];rfl)
 refine⟨a.c 0,hk,e,?_⟩
 have:cst (1/a.c 0)*a=cst (1/a.c 0)*cst (a.c 0):=by rw[<-e]
 rw[this,zhc,Rat.div_mul_cancel hk]
 rfl
theorem gcd_ex{a b:PS}(ha:Fs a)(hb:Fs b):∃e x y s t:PS,Fs e/\Fs x/\Fs y/\Fs s/\Fs t/\a=e*x/\b=e*y/\e=s*a+t*b:=by
 obtain⟨la,rfl⟩:=toL ha
 obtain⟨lb,rfl⟩:=toL hb
 obtain⟨s,t,x,y,hs,ht,hx,hy,e1,e2,e3⟩:=gcd_comb (n:=(trim lb).length+1) (x:=la) (y:=trim lb) nf_trim (Nat.lt_succ_self _)
 rw[ps_trim]at e1 e3
 exact⟨_,x,y,s,t,ps_fs _,hx,hy,hs,ht,e2,e3,e1⟩
theorem cop_of{a b:PS}(ha:Fs a)(hb:Fs b)(ha0:a≠0)(h:∀q,Fs q->Dv q a->Dv q b->Con q):Cop a b:=by
 obtain⟨e,x,y,s,t,he,hx,hy,hs,ht,e1,e2,e3⟩:=gcd_ex ha hb
 have e0:e≠0:=λhh=>ha0 (by rw[e1,hh];exact psL.lin ([x]:List PS) (.m .o (.v 0)) .o [] (by decide +kernel) trivial)
 obtain⟨k,hk,_,ki⟩:=(h e he ⟨x,hx,e1⟩ ⟨y,hy,e2⟩).inv e0
 exact⟨cst (1/k)*s,cst (1/k)*t,(Fs.cst _).mul hs,(Fs.cst _).mul ht,by rw[<-ki];exact psL.lin ([cst (1/k),s,a,t,b,e]:List PS) (.a (.m (.m (.v 0) (.v 1)) (.v 2)) (.m (.m (.v 0) (.v 3)) (.v 4))) (.m (.v 0) (.v 5)) [((.n (.v 0)),(.v 5),(.a (.m (.v 1) (.v 2)) (.m (.v 3) (.v 4))))] (by decide +kernel) ⟨e3,trivial⟩⟩
theorem Sqf.split{x y:PS}(h:Sqf (x*y))(hx:Fs x)(hy:Fs y)(h0:x≠0):Cop x y:=cop_of hx hy h0 λq hq h1 h2=>by
 refine Cop.con h hq ?_ ?_
 . obtain⟨c,hc,e⟩:=h1
   exact⟨c*y,hc.mul hy,by rw[e];exact psL.lin ([q,c,y]:List PS) (.m (.m (.v 0) (.v 1)) (.v 2)) (.m (.v 0) (.m (.v 1) (.v 2))) [] (by decide +kernel) trivial⟩
 . rw[d_mul]
   have e:d x*y+x*d y=d x*y+d y*x:=by exact psL.lin ([x.d,y,x,y.d]:List PS) (.a (.m (.v 0) (.v 1)) (.m (.v 2) (.v 3))) (.a (.m (.v 0) (.v 1)) (.m (.v 3) (.v 2))) [] (by decide +kernel) trivial
   rw[e]
   exact h2.comb h1 hx.d hy.d
theorem Sqf.dvd{x y:PS}(h:Sqf (x*y))(hx:Fs x)(hy:Fs y)(h0:x≠0):Sqf x:=cop_of hx hx.d h0 λq hq h1 h2=>by
 refine Cop.con h hq ?_ ?_
 . obtain⟨c,hc,e⟩:=h1
   exact⟨c*y,hc.mul hy,by rw[e];exact psL.lin ([q,c,y]:List PS) (.m (.m (.v 0) (.v 1)) (.v 2)) (.m (.v 0) (.m (.v 1) (.v 2))) [] (by decide +kernel) trivial⟩
 . rw[d_mul]
   have e:d x*y+x*d y=y*d x+d y*x:=by exact psL.lin ([x.d,y,x,y.d]:List PS) (.a (.m (.v 0) (.v 1)) (.m (.v 2) (.v 3))) (.a (.m (.v 1) (.v 0)) (.m (.v 3) (.v 2))) [] (by decide +kernel) trivial
   rw[e]
   exact h2.comb h1 hy hy.d
theorem Sqf.mul{x y:PS}(h1:Sqf x)(h2:Sqf y)(h:Cop x y)(hx:Fs x)(hy:Fs y):Sqf (x*y):=by
 unfold Sqf
 rw[d_mul]
 have c1:Cop x (d x*y+x*d y):=by
  have:=((h1.symm.mul h.symm hx.d hy hx).symm).addm hy.d
  exact this
 have c2:Cop y (d x*y+x*d y):=by
  have:=((h2.symm.mul h hy.d hx hy).symm).addm hx.d
  have e:d y*x+y*d x=d x*y+x*d y:=by exact psL.lin ([y.d,x,y,x.d]:List PS) (.a (.m (.v 0) (.v 1)) (.m (.v 2) (.v 3))) (.a (.m (.v 3) (.v 2)) (.m (.v 1) (.v 0))) [] (by decide +kernel) trivial
  rw[e]at this;exact this
 exact c1.mul c2 hx hy ((hx.d.mul hy).add (hx.mul hy.d))
structure Rad(M g A B:PS):Prop where
 fg:Fs g
 fA:Fs A
 fB:Fs B
 g0:g≠0
 A0:A≠0
 eM:M=g*A
 eD:d (g*A)=g*B
 one:∃s t:PS,Fs s/\Fs t/\s*A+t*B=1
theorem Rad.sqf{M g A B:PS}(h:Rad M g A B):Sqf A:=cop_of h.fA h.fA.d h.A0 λq hq h1 h2=>by
 obtain⟨P,hP,e1⟩:=h1
 obtain⟨Q,hQ,e2⟩:=h2
 obtain⟨s,t,hs,ht,e3⟩:=h.one
 exact coprime h.g0 hs ht h.fA h.fB h.fg hq hP hQ h.eD e3 e1 e2 h.A0
theorem no_new{M g A B q:PS}(hr:Rad M g A B)(hq:Fs q)(hs:Sqf q)(hc:Cop q A)(hd:Dv q M):Con q:=by
 have hq0:q≠0:=λhh=>by
  obtain⟨c,hc,e⟩:=hd
  rw[hh]at e
  rcases mul_eq_zero (show g*A=0 by rw[<-hr.eM,e];exact psL.lin ([c]:List PS) (.m .o (.v 0)) .o [] (by decide +kernel) trivial)with h | h
  . exact hr.g0 h
  . exact hr.A0 h
 obtain⟨k,k1,k2⟩:=top_ps hq hq0
 rcases Nat.eq_zero_or_pos k with hk | hk
 . intro i hi;exact k2 i (by omega)
 . exfalso
   have key:∀j:Nat,∃h,Fs h/\g=q ^ (j+1)*h:=by
    intro j
    induction j with
    | zero=>
      rw[hr.eM]at hd
      have e:g*A=A*g:=by exact psL.lin ([g,A]:List PS) (.m (.v 0) (.v 1)) (.m (.v 1) (.v 0)) [] (by decide +kernel) trivial
      rw[e]at hd
      obtain⟨h,hh,e2⟩:=gauss hc hr.fg hd
      refine⟨h,hh,?_⟩
      have e3:q ^ (0+1)=q:=by
       have:q ^ (0+1)=q ^ 0*q:=rfl
       have e4:q ^ 0=(1:PS):=rfl
       rw[this,e4];exact psL.lin ([q]:List PS) (.m .i (.v 0)) (.v 0) [] (by decide +kernel) trivial
      rw[e3];exact e2
    | succ j ih=>
      obtain⟨h,hh,e⟩:=ih
      have hj:=pow_ne hq0 (j+1)
      obtain⟨X,hX⟩:∃X,X=q ^ (j+1):=⟨_,rfl⟩
      have dX:=d_pow q (j+1)
      rw[<-hX]at e hj dX
      have dg:=d_mul X h
      rw[<-e]at dg
      have h1:=hr.eD
      rw[d_mul]at h1
      have k1:(cst ((j+1:Nat):Rat)*d q*h+q*d h)*A=q*h*(B-d A):=by
       refine cancel hj ?_
       have:q*d g=X*(cst ((j+1:Nat):Rat)*d q*h+q*d h):=by rw[dg];exact psL.lin ([q,X.d,h,X,h.d,cst ↑(j+1),q.d]:List PS) (.m (.v 0) (.a (.m (.v 1) (.v 2)) (.m (.v 3) (.v 4)))) (.m (.v 3) (.a (.m (.m (.v 5) (.v 6)) (.v 2)) (.m (.v 0) (.v 4)))) [((.v 2),(.m (.v 0) (.v 1)),(.m (.m (.v 5) (.v 3)) (.v 6)))] (by decide +kernel) ⟨dX,trivial⟩
       have h3:q*d g*A=q*g*(B-d A):=by exact psL.lin ([q,g.d,A,g,B,A.d]:List PS) (.m (.m (.v 0) (.v 1)) (.v 2)) (.m (.m (.v 0) (.v 3)) (.s (.v 4) (.v 5))) [((.v 0),(.a (.m (.v 1) (.v 2)) (.m (.v 3) (.v 5))),(.m (.v 3) (.v 4)))] (by decide +kernel) ⟨h1,trivial⟩
       exact psL.lin ([X,cst ↑(j+1),q.d,h,q,h.d,A,B,A.d,g,g.d]:List PS) (.m (.v 0) (.m (.a (.m (.m (.v 1) (.v 2)) (.v 3)) (.m (.v 4) (.v 5))) (.v 6))) (.m (.v 0) (.m (.m (.v 4) (.v 3)) (.s (.v 7) (.v 8)))) [((.a (.n (.m (.v 4) (.v 8))) (.m (.v 4) (.v 7))),(.v 9),(.m (.v 0) (.v 3))),((.v 4),(.a (.m (.v 10) (.v 6)) (.m (.v 9) (.v 8))),(.m (.v 9) (.v 7))),((.n (.v 6)),(.m (.v 4) (.v 10)),(.m (.v 0) (.a (.m (.m (.v 1) (.v 2)) (.v 3)) (.m (.v 4) (.v 5)))))] (by decide +kernel) ⟨e,h1,this,trivial⟩
      have k2:Dv q (d q*(A*(cst ((j+1:Nat):Rat)*h))):=⟨h*(B-d A)-d h*A,(hh.mul (hr.fB.sub hr.fA.d)).sub (hh.d.mul hr.fA),by exact psL.lin ([q.d,A,cst ↑(j+1),h,q,B,A.d,h.d]:List PS) (.m (.v 0) (.m (.v 1) (.m (.v 2) (.v 3)))) (.m (.v 4) (.s (.m (.v 3) (.s (.v 5) (.v 6))) (.m (.v 7) (.v 1)))) [(.i,(.m (.a (.m (.m (.v 2) (.v 0)) (.v 3)) (.m (.v 4) (.v 7))) (.v 1)),(.m (.m (.v 4) (.v 3)) (.s (.v 5) (.v 6))))] (by decide +kernel) ⟨k1,trivial⟩⟩
      have k3:=gauss hs (hr.fA.mul ((Fs.cst _).mul hh)) k2
      have k4:=gauss hc ((Fs.cst _).mul hh) k3
      obtain⟨m,hm,em⟩:=k4
      have hne:((j+1:Nat):Rat)≠0:=by
       intro h5
       have:=Rat.natCast_inj.1 (show((j+1:Nat):Rat)=((0:Nat):Rat) from h5)
       omega
      refine⟨cst (1/((j+1:Nat):Rat))*m,(Fs.cst _).mul hm,?_⟩
      have e2:q ^ (j+1+1)=X*q:=by rw[hX];rfl
      have e5:cst (1/((j+1:Nat):Rat))*cst ((j+1:Nat):Rat)=1:=by rw[zhc,Rat.div_mul_cancel hne];rfl
      have e6:h=q*(cst (1/((j+1:Nat):Rat))*m):=by
       have:h=cst (1/((j+1:Nat):Rat))*cst ((j+1:Nat):Rat)*h:=by rw[e5];exact psL.lin ([h]:List PS) (.v 0) (.m .i (.v 0)) [] (by decide +kernel) trivial
       rw[this]
       generalize cst (1/((j+1:Nat):Rat))=z at *
       generalize cst ((j+1:Nat):Rat)=z2 at *
       exact psL.lin ([z,z2,h,q,m]:List PS) (.m (.m (.v 0) (.v 1)) (.v 2)) (.m (.v 3) (.m (.v 0) (.v 4))) [((.v 0),(.m (.v 1) (.v 2)),(.m (.v 3) (.v 4)))] (by decide +kernel) ⟨em,trivial⟩
      rw[e2,e]
      generalize cst (1/((j+1:Nat):Rat))*m=y at *
      exact psL.lin ([X,h,q,y]:List PS) (.m (.v 0) (.v 1)) (.m (.m (.v 0) (.v 2)) (.v 3)) [((.v 0),(.v 1),(.m (.v 2) (.v 3)))] (by decide +kernel) ⟨e6,trivial⟩
   obtain⟨n,hn⟩:=hr.fg
   obtain⟨h,hh,e⟩:=key n
   have h0:h≠0:=λh3=>hr.g0 (by rw[e,h3];exact psL.lin ([q ^ (n+1)]:List PS) (.m (.v 0) .o) .o [] (by decide +kernel) trivial)
   obtain⟨m,m1,m2⟩:=top_ps hh h0
   obtain⟨p1,p2⟩:=top_pow k1 k2 (n+1)
   have:=(top_mul p1 p2 m1 m2).1
   rw[<-e]at this
   refine this (hn _ ?_)
   have:=Nat.mul_le_mul_left (n+1) hk
   omega
theorem rad_dvd{M g A B D:PS}(hr:Rad M g A B)(hD:Fs D)(hs:Sqf D)(hd:Dv D M):Dv D A:=by
 have hD0:D≠0:=λhh=>by
  obtain⟨c,hc,e⟩:=hd
  rw[hh]at e
  rcases mul_eq_zero (show g*A=0 by rw[<-hr.eM,e];exact psL.lin ([c]:List PS) (.m .o (.v 0)) .o [] (by decide +kernel) trivial)with h | h
  . exact hr.g0 h
  . exact hr.A0 h
 obtain⟨E,D2,A2,s,t,fE,fD2,fA2,hs',ht,e1,e2,e3⟩:=gcd_ex hD hr.fA
 have hE0:E≠0:=λhh=>hD0 (by rw[e1,hh];exact psL.lin ([D2]:List PS) (.m .o (.v 0)) .o [] (by decide +kernel) trivial)
 have hD20:D2≠0:=λhh=>hD0 (by rw[e1,hh];exact psL.lin ([E]:List PS) (.m (.v 0) .o) .o [] (by decide +kernel) trivial)
 rw[e1]at hs
 have c1:=hs.split fE fD2 hE0
 have hs2:Sqf (D2*E):=by
                               have e:D2*E=E*D2:=by exact psL.lin ([D2,E]:List PS) (.m (.v 0) (.v 1)) (.m (.v 1) (.v 0)) [] (by decide +kernel) trivial
                               rw[e];exact hs
 have sD2:Sqf D2:=hs2.dvd fD2 fE hD20
 have c2:Cop D2 A:=cop_of fD2 hr.fA hD20 λq hq h1 h2=>by
  refine c1.con hq ?_ h1
  rw[e3]
  refine Dv.comb ?_ h2 hs' ht
  rw[e1]
  obtain⟨c,hc,ec⟩:=h1
  exact⟨c*E,hc.mul fE,by rw[ec];exact psL.lin ([E,q,c]:List PS) (.m (.v 0) (.m (.v 1) (.v 2))) (.m (.v 1) (.m (.v 2) (.v 0))) [] (by decide +kernel) trivial⟩
 have hd2:Dv D2 M:=Dv.trans ⟨E,fE,by rw[e1];exact psL.lin ([E,D2]:List PS) (.m (.v 0) (.v 1)) (.m (.v 1) (.v 0)) [] (by decide +kernel) trivial⟩ hd
 obtain⟨k,hk,ek,ki⟩:=(no_new hr fD2 sD2 c2 hd2).inv hD20
 refine⟨cst (1/k)*A2,(Fs.cst _).mul fA2,?_⟩
 have:A2=cst (1/k)*D2*A2:=by rw[ki];exact psL.lin ([A2]:List PS) (.v 0) (.m .i (.v 0)) [] (by decide +kernel) trivial
 rw[e2,e1]
 exact psL.lin ([E,A2,D2,cst (1/k)]:List PS) (.m (.v 0) (.v 1)) (.m (.m (.v 0) (.v 2)) (.m (.v 3) (.v 1))) [((.n (.m (.v 0) (.v 1))),(.m (.v 3) (.v 2)),.i)] (by decide +kernel) ⟨ki,trivial⟩
theorem rad_mul{M1 g1 A1 B1 M2 g2 A2 B2 M3 g3 A3 B3 M4 g4 A4 B4:PS}(r1:Rad M1 g1 A1 B1)(r2:Rad M2 g2 A2 B2)(r3:Rad M3 g3 A3 B3)(r4:Rad M4 g4 A4 B4)
 (h3:Dv M3 (M1*M2)) (h3':Dv (M1*M2) M3) (h41:Dv M4 M1) (h42:Dv M4 M2) (h4:∀q,Fs q->Dv q M1->Dv q M2->Dv q M4) :
 ∃X Y:PS,∃k:Rat,k≠0/\Fs X/\Fs Y/\A1=A4*X/\A2=A4*Y/\A3=cst k*(A4*(X*Y))/\Cop A4 X/\Cop A4 Y/\Cop X Y:=by
 have a1M:Dv A1 M1:=⟨g1,r1.fg,by rw[r1.eM];exact psL.lin ([g1,A1]:List PS) (.m (.v 0) (.v 1)) (.m (.v 1) (.v 0)) [] (by decide +kernel) trivial⟩
 have a2M:Dv A2 M2:=⟨g2,r2.fg,by rw[r2.eM];exact psL.lin ([g2,A2]:List PS) (.m (.v 0) (.v 1)) (.m (.v 1) (.v 0)) [] (by decide +kernel) trivial⟩
 have a3M:Dv A3 M3:=⟨g3,r3.fg,by rw[r3.eM];exact psL.lin ([g3,A3]:List PS) (.m (.v 0) (.v 1)) (.m (.v 1) (.v 0)) [] (by decide +kernel) trivial⟩
 have a4M:Dv A4 M4:=⟨g4,r4.fg,by rw[r4.eM];exact psL.lin ([g4,A4]:List PS) (.m (.v 0) (.v 1)) (.m (.v 1) (.v 0)) [] (by decide +kernel) trivial⟩
 obtain⟨X,fX,eX⟩:=rad_dvd r1 r4.fA r4.sqf (a4M.trans h41)
 obtain⟨Y,fY,eY⟩:=rad_dvd r2 r4.fA r4.sqf (a4M.trans h42)
 have X0:X≠0:=λhh=>r1.A0 (by rw[eX,hh];exact psL.lin ([A4]:List PS) (.m (.v 0) .o) .o [] (by decide +kernel) trivial)
 have Y0:Y≠0:=λhh=>r2.A0 (by rw[eY,hh];exact psL.lin ([A4]:List PS) (.m (.v 0) .o) .o [] (by decide +kernel) trivial)
 have s1:=r1.sqf
 rw[eX]at s1
 have s2:=r2.sqf
 rw[eY]at s2
 have c1:=s1.split r4.fA fX r4.A0
 have c2:=s2.split r4.fA fY r4.A0
 have sX:Sqf X:=by
  have e:X*A4=A4*X:=by exact psL.lin ([X,A4]:List PS) (.m (.v 0) (.v 1)) (.m (.v 1) (.v 0)) [] (by decide +kernel) trivial
  exact Sqf.dvd (y:=A4) (by rw[e];exact s1) fX r4.fA X0
 have sY:Sqf Y:=by
  have e:Y*A4=A4*Y:=by exact psL.lin ([Y,A4]:List PS) (.m (.v 0) (.v 1)) (.m (.v 1) (.v 0)) [] (by decide +kernel) trivial
  exact Sqf.dvd (y:=A4) (by rw[e];exact s2) fY r4.fA Y0
 have c3:Cop X Y:=cop_of fX fY X0 λq hq d1 d2=>by
  have q0:q≠0:=λhh=>by
   obtain⟨c,hc,ec⟩:=d1
   exact X0 (by rw[ec,hh];exact psL.lin ([c]:List PS) (.m .o (.v 0)) .o [] (by decide +kernel) trivial)
  have sq:Sqf q:=by
   obtain⟨c,hc,ec⟩:=d1
   exact Sqf.dvd (y:=c) (by rw[<-ec];exact sX) hq hc q0
  have h1:Dv q M1:=Dv.trans d1 (Dv.trans ⟨A4,r4.fA,by rw[eX];exact psL.lin ([A4,X]:List PS) (.m (.v 0) (.v 1)) (.m (.v 1) (.v 0)) [] (by decide +kernel) trivial⟩ a1M)
  have h2:Dv q M2:=Dv.trans d2 (Dv.trans ⟨A4,r4.fA,by rw[eY];exact psL.lin ([A4,Y]:List PS) (.m (.v 0) (.v 1)) (.m (.v 1) (.v 0)) [] (by decide +kernel) trivial⟩ a2M)
  exact c1.con hq (rad_dvd r4 hq sq (h4 q hq h1 h2)) d1
 have c4:Cop A4 (X*Y):=(c1.symm.mul c2.symm fX fY r4.fA).symm
 have sF:Sqf (A4*(X*Y)):=r4.sqf.mul (sX.mul sY c3 fX fY) c4 r4.fA (fX.mul fY)
 have fF:Fs (A4*(X*Y)):=r4.fA.mul (fX.mul fY)
 have dF:Dv (A4*(X*Y)) M3:=by
  refine Dv.trans ?_ h3'
  obtain⟨u,hu,eu⟩:=a1M
  obtain⟨v,hv,ev⟩:=a2M
  exact⟨u*A4*v,(hu.mul r4.fA).mul hv,by rw[eu,ev,eX,eY];exact psL.lin ([A4,X,u,Y,v]:List PS) (.m (.m (.m (.v 0) (.v 1)) (.v 2)) (.m (.m (.v 0) (.v 3)) (.v 4))) (.m (.m (.v 0) (.m (.v 1) (.v 3))) (.m (.m (.v 2) (.v 0)) (.v 4))) [] (by decide +kernel) trivial⟩
 obtain⟨Z,fZ,eZ⟩:=rad_dvd r3 fF sF dF
 have Z0:Z≠0:=λhh=>r3.A0 (by rw[eZ,hh];exact psL.lin ([A4,X,Y]:List PS) (.m (.m (.v 0) (.m (.v 1) (.v 2))) .o) .o [] (by decide +kernel) trivial)
 have s3:=r3.sqf
 rw[eZ]at s3
 have F0:A4*(X*Y)≠0:=λhh=>r3.A0 (by rw[eZ,hh];exact psL.lin ([Z]:List PS) (.m .o (.v 0)) .o [] (by decide +kernel) trivial)
 have cZ:Cop Z (A4*(X*Y)):=(s3.split fF fZ F0).symm
 have sZ:Sqf Z:=by
  have e:Z*(A4*(X*Y))=A4*(X*Y)*Z:=by exact psL.lin ([Z,A4,X,Y]:List PS) (.m (.v 0) (.m (.v 1) (.m (.v 2) (.v 3)))) (.m (.m (.v 1) (.m (.v 2) (.v 3))) (.v 0)) [] (by decide +kernel) trivial
  exact Sqf.dvd (y:=A4*(X*Y)) (by rw[e];exact s3) fZ fF Z0
 have cZ1:Cop Z A1:=(cZ.symm.dvd ⟨Y,fY,by rw[eX];exact psL.lin ([A4,X,Y]:List PS) (.m (.v 0) (.m (.v 1) (.v 2))) (.m (.m (.v 0) (.v 1)) (.v 2)) [] (by decide +kernel) trivial⟩).symm
 have cZ2:Cop Z A2:=(cZ.symm.dvd ⟨X,fX,by rw[eY];exact psL.lin ([A4,X,Y]:List PS) (.m (.v 0) (.m (.v 1) (.v 2))) (.m (.m (.v 0) (.v 2)) (.v 1)) [] (by decide +kernel) trivial⟩).symm
 have fM1:Fs M1:=by rw[r1.eM];exact r1.fg.mul r1.fA
 have fM2:Fs M2:=by rw[r2.eM];exact r2.fg.mul r2.fA
 have cZM:Cop Z M1:=cop_of fZ fM1 Z0 λq hq d1 d2=>by
  have q0:q≠0:=λhh=>by
   obtain⟨c,hc,ec⟩:=d1
   exact Z0 (by rw[ec,hh];exact psL.lin ([c]:List PS) (.m .o (.v 0)) .o [] (by decide +kernel) trivial)
  have sq:Sqf q:=by
   obtain⟨c,hc,ec⟩:=d1
   exact Sqf.dvd (y:=c) (by rw[<-ec];exact sZ) hq hc q0
  exact no_new r1 hq sq (cZ1.dvd d1) d2
 have dZ:Dv Z (M1*M2):=Dv.trans (Dv.trans ⟨A4*(X*Y),fF,by rw[eZ];exact psL.lin ([A4,X,Y,Z]:List PS) (.m (.m (.v 0) (.m (.v 1) (.v 2))) (.v 3)) (.m (.v 3) (.m (.v 0) (.m (.v 1) (.v 2)))) [] (by decide +kernel) trivial⟩ a3M) h3
 have hcon:=no_new r2 fZ sZ cZ2 (gauss cZM fM2 dZ)
 obtain⟨k,hk,ek,_⟩:=hcon.inv Z0
 exact⟨X,Y,k,hk,fX,fY,eX,eY,by rw[eZ,ek];exact psL.lin ([A4,X,Y,cst k]:List PS) (.m (.m (.v 0) (.m (.v 1) (.v 2))) (.v 3)) (.m (.v 3) (.m (.v 0) (.m (.v 1) (.v 2)))) [] (by decide +kernel) trivial,c1,c2,c3⟩
end PS
end Den
end

section
namespace Den
open Go Iv Pq
section
variable {h : Hp} {A B : Nat} {l : Sl} {p : List Rat} {ps : List (List Rat)} {Kb : Bool → Hp → Prop} {Ki : Int → Hp → Prop} {i : TInterval} {x y : TRat} {u v : Rat}
end
end Den
end

section
namespace Den
open Go Iv Pq PS
theorem mx_ge:∀(L:List Rat) (m:Rat),m<=L.foldl mxS m/\∀v∈L,absQ v<=L.foldl mxS m
 | [],m=>⟨Rat.le_refl,λv hv=>by simp at hv⟩
 | a :: L,m=>by
   obtain⟨h1,h2⟩:=mx_ge L (mxS m a)
   have h3:m<=mxS m a/\absQ a<=mxS m a:=by
    unfold mxS
    split
    . rename_i h;exact⟨Rat.le_of_lt h,Rat.le_refl⟩
    . rename_i h;exact⟨Rat.le_refl,Rat.not_lt.1 h⟩
   refine⟨Rat.le_trans h3.1 h1,λv hv=>?_⟩
   rcases List.mem_cons.1 hv with rfl | hv
   . exact Rat.le_trans h3.2 h1
   . exact h2 v hv
theorem zap8{v B:Rat}(h:absQ v<=B):Bd B v:=by
 unfold absQ at h
 split at h
 . constructor<;>grind
 . constructor<;>grind
theorem zaj1{b x:Rat}(hb:1<=b)(hx:x<=-b):∀(l:List Rat),(∀v∈l,Bd (b-1) v)->1<=ev (l++[1]) x\/ev (l++[1]) x<=-1
 | [],_=>by
   left
   show 1<=1+0*x
   grind
 | c :: l,h=>by
   have ih:=zaj1 hb hx l λv hv=>h v (List.mem_cons_of_mem _ hv)
   have hc:=h c (by simp)
   obtain⟨c1,c2⟩:=hc
   show 1<=c+ev (l++[1]) x*x\/c+ev (l++[1]) x*x<=-1
   generalize ev (l++[1]) x=r at *
   rcases ih with h1 | h1
   . right
     have:=Rat.mul_nonneg (a:=r-1) (b:=-x) (by grind) (by grind)
     grind
   . left
     have:=Rat.mul_nonneg (a:=-1-r) (b:=-x) (by grind) (by grind)
     grind
theorem zaj2{b x:Rat}(hb:1<=b)(hx:b<=x):∀(l:List Rat),(∀v∈l,Bd (b-1) v)->1<=ev (l++[1]) x\/ev (l++[1]) x<=-1
 | [],_=>by
   left
   show 1<=1+0*x
   grind
 | c :: l,h=>by
   have ih:=zaj2 hb hx l λv hv=>h v (List.mem_cons_of_mem _ hv)
   have hc:=h c (by simp)
   obtain⟨c1,c2⟩:=hc
   show 1<=c+ev (l++[1]) x*x\/c+ev (l++[1]) x*x<=-1
   generalize ev (l++[1]) x=r at *
   rcases ih with h1 | h1
   . left
     have:=Rat.mul_nonneg (a:=r-1) (b:=x) (by grind) (by grind)
     grind
   . right
     have:=Rat.mul_nonneg (a:=-1-r) (b:=x) (by grind) (by grind)
     grind
theorem beyond{p:List Rat}(h2:2<=(trim p).length){x:Rat}(hx:x<=-(bndQ p)\/bndQ p<=x):1<=ev (monQ p) x\/ev (monQ p) x<=-1:=by
 have h0:trim p≠[]:=λhh=>by rw[hh]at h2;simp at h2
 have lM:(monQ p).length=(trim p).length:=zbn
 obtain⟨hn,e⟩:=zafh h0
 have eM:monQ p=(monQ p).take ((monQ p).length-1)++[1]:=by
  have h3:=List.take_append_drop ((monQ p).length-1) (monQ p)
  rw[List.drop_eq_getElem_cons hn,e]at h3
  have h4:(monQ p).drop ((monQ p).length-1+1)=[]:=List.drop_eq_nil_of_le (by omega)
  rw[h4]at h3
  exact h3.symm
 have hb:bndQ p=((monQ p).take ((monQ p).length-1)).foldl mxS (((0:Int):Rat))+(((1:Int):Rat)):=by
  unfold bndQ
  rw[if_neg (by omega)]
 obtain⟨g1,g2⟩:=mx_ge ((monQ p).take ((monQ p).length-1)) (((0:Int):Rat))
 have z0:(((0:Int):Rat))=0:=rfl
 have z1:(((1:Int):Rat))=1:=rfl
 rw[z1]at hb
 have hb1:1<=bndQ p:=by rw[hb];grind
 have hall:∀v∈(monQ p).take ((monQ p).length-1),Bd (bndQ p-1) v:=λv hv=>(zap8 (g2 v hv)).mono (by rw[hb];grind)
 rw[eM]
 rcases hx with hx | hx
 . exact zaj1 hb1 hx _ hall
 . exact zaj2 hb1 hx _ hall
theorem za9b{M G W:List Rat}(R:Rat)(h:∀x,ev M x=ev G x*ev W x):∃δ:Rat,0<δ/\∀x y,Bd R x->Bd R y->x<y->y-x<=δ->(1<=ev M x\/ev M x<=-1)->0<ev W x*ev W y:=by
 obtain⟨E,hE,be⟩:=ev_bd R G
 obtain⟨L,hL,bl⟩:=dq_bd R W
 obtain⟨δ,hd,he⟩:=zsb hE hL
 refine⟨δ,hd,λx y hx hy hxy hs hm=>Classical.byContradiction λhp=>?_⟩
 obtain⟨k1,_⟩:=sm_of hp (dq_eq W x y) (bl x y hx hy) (Rat.le_of_lt hxy) hs
 have e1:=he E hE Rat.le_refl
 obtain⟨k2,k3⟩:=(be x hx).mul k1
 rw[<-h]at k2 k3
 grind
theorem zrx{x y:Rat}:∃R,∀z,x<=z->z<=y->Bd R z:=by
 obtain⟨A,hA,a⟩:=Bd.self x
 obtain⟨B,hB,b⟩:=Bd.self y
 obtain⟨a1,a2⟩:=a
 obtain⟨b1,b2⟩:=b
 exact⟨A+B,λz h1 h2=>by constructor<;>grind⟩
theorem zsj{p:List Rat}(h0:trim p≠[]):∃G:List Rat,ps (monQ p)=ps G*ps (sqfL p):=by
 obtain⟨g,A,B,s,t,fg,fA,fB,fs,ft,hg0,hA0,eM,eD,one,k,hk,eW⟩:=za4m h0
 obtain⟨G,hG⟩:=toL ((Fs.cst (1/k)).mul fg)
 refine⟨G,?_⟩
 have kk:cst (1/k)*cst k=1:=by rw[zhc,Rat.div_mul_cancel hk];rfl
 rw[hG,eW,eM]
 exact PS.psL.lin ([g,A,cst (1/k),cst k]:List PS) (.m (.v 0) (.v 1)) (.m (.m (.v 2) (.v 0)) (.m (.v 3) (.v 1))) [((.n (.m (.v 0) (.v 1))),(.m (.v 2) (.v 3)),.i)] (by decide +kernel) ⟨kk,trivial⟩
theorem zabg{a b c:List Rat}(h:ps a=ps b*ps c)(x:Rat):ev a x=ev b x*ev c x:=by
 rw[<-ev_mulL]
 refine ev_congr λi=>?_
 have:=congrArg (λs:PS=>s.c i) h
 simp only[c_mul,ps_c]at this
 rw[co_mulL]
 exact this
theorem za8q{p:List Rat}(hl:(sqfL p).length<=9){x y:Rat}(hxy:x<y)(hM:2<=(trim p).length->∀z,x<=z->z<=y->1<=ev (monQ p) z\/ev (monQ p) z<=-1):chN (chainL p) x=chN (chainL p) y:=by
 by_cases h2:2<=(trim p).length
 . have h0:trim p≠[]:=λhh=>by rw[hh]at h2;simp at h2
   obtain⟨R,hR⟩:=zrx (x:=x) (y:=y)
   obtain⟨G,hG⟩:=zsj h0
   obtain⟨δ1,d1,s1⟩:=zsl h2 hl R
   obtain⟨δ2,d2,s2⟩:=za9b R (λz=>zabg hG z)
   obtain⟨δ,d3,l1,l2⟩:=zij d1 d2
   refine mesh (P:=λx y=>chN (chainL p) x=chN (chainL p) y) d3 (λa b ha hab hb hs=>?_) (λa b c _ _ _ _ h3 h4=>h3.trans h4) hxy
   have ba:=hR a ha (by grind)
   have bb:=hR b (by grind) hb
   have h5:=s1 a b ba bb hab (Rat.le_trans hs l1)
   have h6:=s2 a b ba bb hab (Rat.le_trans hs l2) (hM h2 a ha (by grind))
   rw[if_neg (by rintro⟨_,h7⟩;grind)]at h5
   exact h5
 . have:chainL p=[]:=by unfold chainL;rw[if_pos (by omega)]
   rw[this];rfl
theorem zalx{p:List Rat}(hl:(sqfL p).length<=9){x y:Rat}(hxy:x<=y)(hy:y<=-(bndQ p)):chN (chainL p) x=chN (chainL p) y:=by
 rcases rle hxy with h | h
 . exact za8q hl h λh2 z _ hz=>beyond h2 (.inl (Rat.le_trans hz hy))
 . rw[h]
theorem zajz{p:List Rat}(hl:(sqfL p).length<=9){x y:Rat}(hxy:x<=y)(hx:bndQ p<=x):chN (chainL p) x=chN (chainL p) y:=by
 rcases rle hxy with h | h
 . exact za8q hl h λh2 z hz _=>beyond h2 (.inr (Rat.le_trans hx hz))
 . rw[h]
end Den
end

section
namespace Den
open Go Iv Pq
section
variable {h : Hp} {A B : Nat} {l : Sl} {p : List Rat} {Kb : Bool → Hp → Prop} {i : TInterval}
end
end Den
end

section
namespace Den
open Go Iv Pq PS
def jmp(p:List Rat)(x y:Rat):Nat:=if ev p x≠0/\ev p x*ev p y<=0 then 1 else 0
theorem za4a{s t:Rat}(hs:0<s):s*t<=0↔t<=0:=by
 constructor
 . intro h
   refine Rat.not_lt.1 λht=>?_
   have:=Rat.mul_pos hs ht
   grind
 . intro h
   have:=Rat.mul_nonneg (a:=s) (b:=-t) (Rat.le_of_lt hs) (by grind)
   grind
theorem zand{k:Rat}(hk:k≠0):0<k*k:=by
 rcases tri k 0 with h | h | h
 . have:=Rat.mul_pos (a:=-k) (b:=-k) (by grind) (by grind);grind
 . exact absurd h hk
 . exact Rat.mul_pos h h
theorem zlu{p q:List Rat}{k:Rat}(hk:k≠0)(h:∀x,ev p x=k*ev q x)(x y:Rat):jmp p x y=jmp q x y:=by
 unfold jmp
 have e1:ev p x≠0↔ev q x≠0:=by
  rw[h]
  constructor
  . intro h1 h2;exact h1 (by rw[h2,Rat.mul_zero])
  . intro h1 h2
    rcases Rat.mul_eq_zero.1 h2 with h3 | h3
    . exact hk h3
    . exact h1 h3
 have e2:ev p x*ev p y<=0↔ev q x*ev q y<=0:=by
  have:ev p x*ev p y=(k*k)*(ev q x*ev q y):=by rw[h,h];grind
  rw[this]
  exact za4a (zand hk)
 by_cases hh:ev q x≠0/\ev q x*ev q y<=0
 . rw[if_pos hh,if_pos ⟨e1.2 hh.1,e2.2 hh.2⟩]
 . rw[if_neg hh,if_neg (λh=>hh ⟨e1.1 h.1,e2.1 h.2⟩)]
theorem zabj{p:List Rat}{x y:Rat}(h:0<ev p x*ev p y):jmp p x y=0:=by
 unfold jmp
 rw[if_neg (λhh=>by have:=hh.2;grind)]
theorem zaku{a b:Rat}(h:0<a*b):a≠0:=λhh=>by rw[hh,Rat.zero_mul]at h;exact absurd h Rat.lt_irrefl
theorem zafb{P F G:List Rat}(h:∀x,ev P x=ev F x*ev G x){x y:Rat}(hf:0<ev F x*ev F y):jmp P x y=jmp F x y+jmp G x y:=by
 rw[zabj hf,Nat.zero_add]
 unfold jmp
 have h0:=zaku hf
 have e1:ev P x≠0↔ev G x≠0:=by
  rw[h]
  constructor
  . intro h1 h2;exact h1 (by rw[h2,Rat.mul_zero])
  . intro h1 h2
    rcases Rat.mul_eq_zero.1 h2 with h3 | h3
    . exact h0 h3
    . exact h1 h3
 have e2:ev P x*ev P y<=0↔ev G x*ev G y<=0:=by
  have:ev P x*ev P y=(ev F x*ev F y)*(ev G x*ev G y):=by rw[h,h];grind
  rw[this]
  exact za4a hf
 by_cases hh:ev G x≠0/\ev G x*ev G y<=0
 . rw[if_pos hh,if_pos ⟨e1.2 hh.1,e2.2 hh.2⟩]
 . rw[if_neg hh,if_neg (λh=>hh ⟨e1.1 h.1,e2.1 h.2⟩)]
theorem zaod{P F G u v:List Rat}(R:Rat)(h:∀x,ev P x=ev F x*ev G x)(hc:∀x,ev u x*ev F x+ev v x*ev G x=1) :
 ∃δ:Rat,0<δ/\∀x y,Bd R x->Bd R y->x<y->y-x<=δ->jmp P x y=jmp F x y+jmp G x y:=by
 obtain⟨U,hU,bu⟩:=ev_bd R u
 obtain⟨V,hV,bv⟩:=ev_bd R v
 obtain⟨L,hL,bl⟩:=dq_bd R F
 obtain⟨N,hN,bn⟩:=dq_bd R G
 obtain⟨δ1,hd1,he1⟩:=zsb hU hL
 obtain⟨δ2,hd2,he2⟩:=zsb hV hN
 obtain⟨δ,hd,l1,l2⟩:=zij hd1 hd2
 refine⟨δ,hd,λx y hx hy hxy hs=>?_⟩
 by_cases hf:0<ev F x*ev F y
 . exact zafb h hf
 . obtain⟨k1,_⟩:=sm_of hf (dq_eq F x y) (bl x y hx hy) (Rat.le_of_lt hxy) (Rat.le_trans hs l1)
   have e1:=he1 U hU Rat.le_refl
   have e2:=he2 V hV Rat.le_refl
   have w:3/4<=ev v x*ev G x:=by
    have:=((bu x hx).mul k1).2
    have:=hc x
    grind
   have b2:Bd δ2 (y-x):=⟨by grind,by grind⟩
   have w3:1/2<=ev v x*ev G y:=by
    have g1:=((bv x hx).mul (b2.mul (bn x y hx hy))).1
    have g2:=dq_eq G x y
    have g3:ev v x*ev G y=ev v x*ev G x+ev v x*((y-x)*dq G x y):=by rw[<-g2];grind
    grind
   have hg:0<ev G x*ev G y:=by
    rcases zbh (a:=ev v x) (b:=ev G x) (by grind)with ⟨s1,s2⟩ | ⟨s1,s2⟩<;>rcases zbh (a:=ev v x) (b:=ev G y) (by grind)with ⟨s3,s4⟩ | ⟨s3,s4⟩
    . exact Rat.mul_pos s2 s4
    . grind
    . grind
    . have:=Rat.mul_pos (a:=-(ev G x)) (b:=-(ev G y)) (by grind) (by grind);grind
   have:=zafb (P:=P) (F:=G) (G:=F) (λz=>by rw[h z];grind) hg
   omega
theorem za0c{P F G:List Rat}(R:Rat)(h:ps P=ps F*ps G)(hc:Cop (ps F) (ps G)):∃δ:Rat,0<δ/\∀x y,Bd R x->Bd R y->x<y->y-x<=δ->jmp P x y=jmp F x y+jmp G x y:=by
 obtain⟨s,t,hs,ht,e⟩:=hc
 obtain⟨u,rfl⟩:=toL hs
 obtain⟨v,rfl⟩:=toL ht
 exact zaod R (λx=>zabg h x) (λx=>zaj9 (k:=1) e x)
theorem zue{p q:List Rat}{k:Rat}(h:ps p=cst k*ps q)(x:Rat):ev p x=k*ev q x:=by
 rw[<-ev_map]
 refine ev_congr λi=>?_
 have:=congrArg (λs:PS=>s.c i) h
 simp only[c_cstm,ps_c]at this
 rw[zmh];exact this
theorem zw9{p:List Rat}(h0:trim p≠[]):∃g A B:PS,∃k:Rat,Rad (ps (monQ p)) g A B/\k≠0/\ps (sqfL p)=cst k*A:=by
 obtain⟨g,A,B,s,t,fg,fA,fB,fs,ft,hg0,hA0,eM,eD,one,k,hk,eW⟩:=za4m h0
 exact⟨g,A,B,k,⟨fg,fA,fB,hg0,hA0,eM,eD,s,t,fs,ft,one⟩,hk,eW⟩
theorem zanh{p:List Rat}(h0:trim p≠[])(hl:(sqfL p).length<=9)(R:Rat):∃δ:Rat,0<δ/\∀x y,Bd R x->Bd R y->x<y->y-x<=δ->chN (chainL p) x=chN (chainL p) y+jmp (sqfL p) x y:=by
 by_cases h2:2<=(trim p).length
 . exact zsl h2 hl R
 . have hc:chainL p=[]:=by unfold chainL;rw[if_pos (by omega)]
   obtain⟨g,A,B,k,hr,hk,eW⟩:=zw9 h0
   obtain⟨i,i1,i2⟩:=top_ps hr.fg hr.g0
   obtain⟨j,j1,j2⟩:=top_ps hr.fA hr.A0
   have ht:=(top_mul i1 i2 j1 j2).1
   rw[<-hr.eM,ps_c]at ht
   have hij:i+j<(monQ p).length:=Classical.byContradiction λhh=>ht (co_ge (by omega))
   have lM:(monQ p).length=(trim p).length:=zbn
   have hA:A=cst (A.c 0):=Con.eq λn hn=>j2 n (by omega)
   have hA0:A.c 0≠0:=λhh=>hr.A0 (by rw[hA,hh];rfl)
   have eW2:ps (sqfL p)=cst (k*A.c 0):=by rw[eW,hA,zhc];rfl
   refine⟨1,by decide,λx y _ _ _ _=>?_⟩
   rw[hc,zabj]
   . rfl
   . rw[zabe eW2,zabe eW2]
     exact zand λhh=>by
      rcases Rat.mul_eq_zero.1 hh with h3 | h3
      . exact hk h3
      . exact hA0 h3
theorem zah9(p:List Rat):0<=bndQ p:=by
 unfold bndQ
 split
 . exact Rat.le_refl
 . have:=(mx_ge ((monQ p).take ((monQ p).length-1)) (((0:Int):Rat))).1
   have z0:(((0:Int):Rat))=0:=rfl
   have z1:(((1:Int):Rat))=1:=rfl
   grind
theorem zaoy{p:List Rat}(hl:(sqfL p).length<=9){R:Rat}(hR:bndQ p<=R):totQ p=(chN (chainL p) (-R):Int)-(chN (chainL p) R:Int):=by
 have hb:=zah9 p
 unfold totQ
 rw[zahe (by grind),zalx hl (x:=-R) (y:=-(bndQ p)) (by grind) Rat.le_refl,zajz hl (x:=bndQ p) (y:=R) hR Rat.le_refl]
theorem zsd{p:List Rat}(h0:trim p≠[]):Dv (ps p) (ps (monQ p))/\Dv (ps (monQ p)) (ps p):=by
 obtain⟨k,hk,e1,e2⟩:=ps_mon h0
 exact⟨⟨cst k,Fs.cst k,by rw[e1];exact psL.lin ([cst k,ps p]:List PS) (.m (.v 0) (.v 1)) (.m (.v 1) (.v 0)) [] (by decide +kernel) trivial⟩,⟨cst (1/k),Fs.cst _,by rw[e2];exact psL.lin ([cst (1/k),ps (monQ p)]:List PS) (.m (.v 0) (.v 1)) (.m (.v 1) (.v 0)) [] (by decide +kernel) trivial⟩⟩
theorem Dv.mul{a b c d:PS}(h1:Dv a b)(h2:Dv c d):Dv (a*c) (b*d):=by
 obtain⟨x,hx,ex⟩:=h1
 obtain⟨y,hy,ey⟩:=h2
 exact⟨x*y,hx.mul hy,by rw[ex,ey];exact psL.lin ([a,x,c,y]:List PS) (.m (.m (.v 0) (.v 1)) (.m (.v 2) (.v 3))) (.m (.m (.v 0) (.v 2)) (.m (.v 1) (.v 3))) [] (by decide +kernel) trivial⟩
section
variable {a b m G : List Rat}
end
end Den
end

section
namespace Den
open Go Iv Pq PS
theorem zaos{p:List Rat}(h8:p.length<=8):(sqfL p).length<=9:=by
 by_cases h0:trim p=[]
 . have:sqfL p=[]:=by unfold sqfL;rw[if_pos h0]
   rw[this];exact Nat.zero_le _
 . obtain⟨G,hG⟩:=zsj h0
   obtain⟨W,hW⟩:∃W,W=sqfL p:=⟨_,rfl⟩
   have nW:nf W:=by rw[hW];unfold sqfL;rw[if_neg h0];exact zg9
   rw[<-hW]at hG |-
   have nM:nf (monQ p):=zg9
   have lM:(monQ p).length<=8:=by rw[zbn];exact Nat.le_trans trim_len h8
   have hM0:monQ p≠[]:=λhh=>h0 (List.eq_nil_of_length_eq_zero (by rw[<-zbn,hh];rfl))
   have pM:PS.ps (monQ p)≠0:=λhh=>hM0 (by have:=PS.ps_eq_nil hh;rwa [trim_nf nM]at this)
   have hW0:W≠[]:=λhh=>pM (by rw[hG,hh,PS.ps_nil];exact PS.psL.lin ([ps G]:List PS) (.m (.v 0) .o) .o [] (by decide +kernel) trivial)
   have tG:trim G≠[]:=λhh=>pM (by rw[hG,<-PS.ps_trim G,hh,PS.ps_nil];exact PS.psL.lin ([ps W]:List PS) (.m .o (.v 0)) .o [] (by decide +kernel) trivial)
   have t1:=nf_top nf_trim tG
   have t2:=nf_top nW hW0
   rw[co_trim]at t1
   have k:=(PS.top_mul (a:=PS.ps G) (b:=PS.ps W) (k:=(trim G).length-1) (j:=W.length-1) t1 (λi hi=>by rw[PS.ps_c,<-co_trim,co_ge (by omega)]) t2 (λi hi=>by rw[PS.ps_c,co_ge (by omega)])).1
   rw[<-hG,PS.ps_c]at k
   have:(trim G).length-1+(W.length-1)<(monQ p).length:=Classical.byContradiction λhh=>k (co_ge (by omega))
   omega
theorem za0h(p q:List Rat):ps (trim (mulL p q))=ps p*ps q:=ext λn=>by
 rw[ps_c,co_trim,co_mulL,c_mul];rfl
section
variable {h : Hp} {A B : Nat} {l m : Sl} {p q : List Rat} {Kb : Bool → Hp → Prop} {Ki : Int → Hp → Prop} {Ks : Sl → Hp → Prop}
end
end Den
end

section
namespace Den
open Go Iv Pq PS
theorem zaez{a b m G:List Rat}(ha:trim a≠[])(hb:trim b≠[])(hm:trim m≠[])(hG:trim G≠[])(e:ps m=ps a*ps b)(hga:Dv (ps G) (ps (monQ a)))(hgb:Dv (ps G) (ps (monQ b)))(hg:∀q,Fs q->Dv q (ps (monQ a))->Dv q (ps (monQ b))->Dv q (ps G))
 (R:Rat):∃δ:Rat,0<δ/\∀x y,Bd R x->Bd R y->x<y->y-x<=δ->jmp (sqfL m) x y+jmp (sqfL G) x y=jmp (sqfL a) x y+jmp (sqfL b) x y:=by
 obtain⟨g1,A1,B1,k1,r1,hk1,w1⟩:=zw9 ha
 obtain⟨g2,A2,B2,k2,r2,hk2,w2⟩:=zw9 hb
 obtain⟨g3,A3,B3,k3,r3,hk3,w3⟩:=zw9 hm
 obtain⟨g4,A4,B4,k4,r4,hk4,w4⟩:=zw9 hG
 obtain⟨a1,a2⟩:=zsd ha
 obtain⟨b1,b2⟩:=zsd hb
 obtain⟨m3,m4⟩:=zsd hm
 obtain⟨q1,q2⟩:=zsd hG
 obtain⟨X,Y,k,hk,fX,fY,eX,eY,eA3,c1,c2,c3⟩:=rad_mul r1 r2 r3 r4 (Dv.trans m4 (by rw[e];exact Dv.mul a1 b1)) (Dv.trans (by have:=Dv.mul a2 b2;rw[<-e]at this;exact this) m3) (Dv.trans q2 hga) (Dv.trans q2 hgb) (λq fq h1 h2=>Dv.trans (hg q fq h1 h2) q1)
 obtain⟨lA4,h4⟩:=toL r4.fA
 obtain⟨lX,hX⟩:=toL fX
 obtain⟨lY,hY⟩:=toL fY
 obtain⟨l1,hl1⟩:=toL r1.fA
 obtain⟨l2,hl2⟩:=toL r2.fA
 obtain⟨l3,hl3⟩:=toL (r4.fA.mul (fX.mul fY))
 obtain⟨l5,hl5⟩:=toL (fX.mul fY)
 obtain⟨δ5,d5,s5⟩:=za0c (P:=l1) (F:=lA4) (G:=lX) R (by rw[hl1,h4,hX];exact eX) (by rw[h4,hX];exact c1)
 obtain⟨δ6,d6,s6⟩:=za0c (P:=l2) (F:=lA4) (G:=lY) R (by rw[hl2,h4,hY];exact eY) (by rw[h4,hY];exact c2)
 obtain⟨δ7,d7,s7⟩:=za0c (P:=l3) (F:=lA4) (G:=l5) R (by rw[hl3,h4,hl5]) (by rw[h4,hl5];exact(c1.symm.mul c2.symm fX fY r4.fA).symm)
 obtain⟨δ8,d8,s8⟩:=za0c (P:=l5) (F:=lX) (G:=lY) R (by rw[hl5,hX,hY]) (by rw[hX,hY];exact c3)
 obtain⟨e3,f3,i5,i6⟩:=zij d5 d6
 obtain⟨e4,f4,i7,i8⟩:=zij d7 d8
 obtain⟨δ,f7,i13,i14⟩:=zij f3 f4
 refine⟨δ,f7,λx y bx by' hxy hs=>?_⟩
 have j5:=s5 x y bx by' hxy (by grind)
 have j6:=s6 x y bx by' hxy (by grind)
 have j7:=s7 x y bx by' hxy (by grind)
 have j8:=s8 x y bx by' hxy (by grind)
 have hk3k:k3*k≠0:=λhh=>by
  rcases Rat.mul_eq_zero.1 hh with h2 | h2
  . exact hk3 h2
  . exact hk h2
 rw[zlu (p:=sqfL a) (q:=l1) hk1 (λz=>zue (by rw[hl1];exact w1) z),zlu (p:=sqfL b) (q:=l2) hk2 (λz=>zue (by rw[hl2];exact w2) z),zlu (p:=sqfL G) (q:=lA4) hk4 (λz=>zue (by rw[h4];exact w4) z),
  zlu (p:=sqfL m) (q:=l3) hk3k (λz=>zue (by rw[hl3,w3,eA3,<-zhc];exact psL.lin ([cst k3,cst k,A4,X,Y]:List PS) (.m (.v 0) (.m (.v 1) (.m (.v 2) (.m (.v 3) (.v 4))))) (.m (.m (.v 0) (.v 1)) (.m (.v 2) (.m (.v 3) (.v 4)))) [] (by decide +kernel) trivial) z)]
 omega
theorem za8o{p:List Rat}(h0:trim p≠[])(hM:∀x,1<=ev (monQ p) x\/ev (monQ p) x<=-1)(R:Rat):∃δ:Rat,0<δ/\∀x y,Bd R x->Bd R y->x<y->y-x<=δ->jmp (sqfL p) x y=0:=by
 obtain⟨G,hG⟩:=zsj h0
 obtain⟨δ,hd,hs⟩:=za9b (M:=monQ p) (G:=G) (W:=sqfL p) R (λx=>zabg hG x)
 exact⟨δ,hd,λx y hx hy hxy he=>zabj (hs x y hx hy hxy he (hM x))⟩
def lin(r:Rat):List Rat:=[-r,1]
def inn(x y r:Rat):Nat:=if x<r/\r<=y then 1 else 0
theorem zabf{r x:Rat}:ev (lin r) x=x-r:=by unfold lin;simp only[ev];grind
theorem zab6(r:Rat):co (lin r) 0=-r/\co (lin r) 1=1/\∀n,2<=n->co (lin r) n=0:=⟨rfl,rfl,λn hn=>co_ge hn⟩
theorem zabm(r:Rat):ps (lin r)≠0:=λhh=>by
 have:=congrArg (λs:PS=>s.c 1) hh
 simp only[ps_c,c_zero]at this
 rw[(zab6 r).2.1]at this
 exact absurd this (by decide)
theorem zi0(r:Rat):trim (lin r)≠[]:=λhh=>zabm r (by rw[<-ps_trim,hh,ps_nil])
theorem lin_d(r:Rat):d (ps (lin r))=1:=ext λn=>by
 show der (co (lin r)) n=_
 rw[c_one]
 unfold der
 match n with
 | 0=>rw[(zab6 r).2.1];decide +kernel
 | n+1=>rw[(zab6 r).2.2 (n+1+1) (by omega),if_neg (by omega)];grind
theorem zaog(r:Rat):Sqf (ps (lin r)):=⟨0,1,Fs.cst 0,Fs.cst 1,by rw[lin_d];exact psL.lin ([ps (lin r)]:List PS) (.a (.m .o (.v 0)) (.m .i .i)) .i [] (by decide +kernel) trivial⟩
theorem zaof{r x y:Rat}(hxy:x<y):jmp (sqfL (lin r)) x y=inn x y r:=by
 obtain⟨g,A,B,k,hr,hk,eW⟩:=zw9 (zi0 r)
 obtain⟨m1,m2⟩:=zsd (zi0 r)
 obtain⟨v,fv,ev'⟩:=rad_dvd hr (ps_fs _) (zaog r) m1
 obtain⟨k2,hk2,e1,e2⟩:=ps_mon (zi0 r)
 have hgv:cst k2=g*v:=by
  refine cancel (zabm r) ?_
  have:ps (monQ (lin r))=g*A:=hr.eM
  rw[e1,ev']at this
  exact psL.lin ([ps (lin r),cst k2,g,v]:List PS) (.m (.v 0) (.v 1)) (.m (.v 0) (.m (.v 2) (.v 3))) [(.i,(.m (.v 1) (.v 0)),(.m (.v 2) (.m (.v 0) (.v 3))))] (by decide +kernel) ⟨this,trivial⟩
 have kk:cst (1/k2)*cst k2=1:=by rw[zhc,Rat.div_mul_cancel hk2];rfl
 have hv1:v*(cst (1/k2)*g)=1:=by rw[hgv]at kk;exact psL.lin ([v,cst (1/k2),g]:List PS) (.m (.v 0) (.m (.v 1) (.v 2))) .i [(.i,(.m (.v 1) (.m (.v 2) (.v 0))),.i)] (by decide +kernel) ⟨kk,trivial⟩
 have cv:=con_of fv ((Fs.cst (1/k2)).mul hr.fg) hv1
 have hv:=cv.eq
 have hv0:v.c 0≠0:=λhh=>hr.A0 (by rw[ev',hv,hh];have:cst 0=(0:PS):=rfl;rw[this];exact psL.lin ([ps (lin r)]:List PS) (.m (.v 0) .o) .o [] (by decide +kernel) trivial)
 have eW2:ps (sqfL (lin r))=cst (k*v.c 0)*ps (lin r):=by rw[eW,ev',<-zhc,hv];simp only[c_cst,if_true];exact psL.lin ([cst k,ps (lin r),cst (v.c 0)]:List PS) (.m (.v 0) (.m (.v 1) (.v 2))) (.m (.m (.v 0) (.v 2)) (.v 1)) [] (by decide +kernel) trivial
 have hkv:k*v.c 0≠0:=λhh=>by
  rcases Rat.mul_eq_zero.1 hh with h2 | h2
  . exact hk h2
  . exact hv0 h2
 rw[zlu (p:=sqfL (lin r)) (q:=lin r) hkv λz=>zue eW2 z]
 unfold jmp inn
 rw[zabf,zabf]
 by_cases h1:x<r/\r<=y
 . rw[if_pos h1,if_pos]
   refine⟨λhh=>by grind,?_⟩
   have:=Rat.mul_nonneg (a:=r-x) (b:=y-r) (by grind) (by grind)
   grind
 . rw[if_neg h1,if_neg]
   rintro⟨h2,h3⟩
   refine h1 ?_
   rcases Rat.le_total (a:=r) (b:=x)with h4 | h4
   . have:=Rat.mul_pos (a:=x-r) (b:=y-r) (by grind) (by grind)
     grind
   . refine⟨by grind,Rat.not_lt.1 λh5=>?_⟩
     have:=Rat.mul_pos (a:=r-x) (b:=r-y) (by grind) (by grind)
     grind
theorem zabs:ps [1]=1:=ext λn=>by
 rw[ps_c,c_one]
 match n with
 | 0=>rfl
 | n+1=>rfl
theorem za43:trim ([1]:List Rat)≠[]:=λhh=>ne_one (by rw[<-zabs,<-ps_trim,hh,ps_nil])
theorem zakm(p:List Rat)(r:Rat):(ev p r=0->Dv (ps (lin r)) (ps p))/\(ev p r≠0->Cop (ps p) (ps (lin r))):=by
 obtain⟨u,fu,e⟩:=rem_eq (p:=p) (zi0 r)
 obtain⟨l,rfl⟩:=toL fu
 have hl:(remL p (lin r)).length<=1:=by
  have h1:=zus (p:=p) (q:=lin r)
  have h2:=trim_len (p:=lin r)
  have h3:(lin r).length=2:=rfl
  omega
 have he:ev p r=ev (remL p (lin r)) r:=by
  have:ev p r=ev (addL (mulL l (lin r)) (remL p (lin r))) r:=ev_congr λi=>by
   have:=congrArg (λs:PS=>s.c i) e
   simp only[c_add,c_mul,ps_c]at this
   rw[co_addL,co_mulL,this];rfl
  rw[this,ev_addL,ev_mulL,zabf];grind
 have hc:ps (remL p (lin r))=cst (ev p r):=by
  rw[he]
  match hm:remL p (lin r),hl with
  | [],_=>rw[ps_nil];rfl
  | [k],_=>
    refine ext λn=>?_
    rw[ps_c,c_cst]
    simp only[ev]
    match n with
    | 0=>show k=_;rw[if_pos rfl];grind
    | n+1=>rw[if_neg (by omega)];rfl
 rw[hc]at e
 constructor
 . intro h0
   rw[h0]at e
   refine⟨ps l,ps_fs l,?_⟩
   have:cst 0=(0:PS):=rfl
   rw[this]at e
   rw[e];exact psL.lin ([ps l,ps (lin r)]:List PS) (.a (.m (.v 0) (.v 1)) .o) (.m (.v 1) (.v 0)) [] (by decide +kernel) trivial
 . intro h0
   refine⟨cst (1/ev p r),-(cst (1/ev p r)*ps l),Fs.cst _,((Fs.cst _).mul (ps_fs l)).neg,?_⟩
   have kk:cst (1/ev p r)*cst (ev p r)=1:=by rw[zhc,Rat.div_mul_cancel h0];rfl
   generalize hz:cst (1/ev p r)=z at *
   generalize hk:cst (ev p r)=c at *
   rw[e];exact psL.lin ([z,ps l,ps (lin r),c]:List PS) (.a (.m (.v 0) (.a (.m (.v 1) (.v 2)) (.v 3))) (.m (.n (.m (.v 0) (.v 1))) (.v 2))) .i [(.i,(.m (.v 0) (.v 3)),.i)] (by decide +kernel) ⟨kk,trivial⟩
theorem zajy{p:List Rat}(h0:trim p≠[])(r R:Rat):∃δ:Rat,0<δ/\∀x y,Bd R x->Bd R y->x<y->y-x<=δ->jmp (sqfL (trim (mulL p (lin r)))) x y=jmp (sqfL p) x y+if ev p r=0 then 0 else inn x y r:=by
 have hp:ps p≠0:=λhh=>h0 (ps_eq_nil hh)
 have hm:trim (trim (mulL p (lin r)))≠[]:=λhh=>by
  have e:=za0h p (lin r)
  rw[<-ps_trim,hh,ps_nil]at e
  rcases mul_eq_zero e.symm with h9 | h9
  . exact hp h9
  . exact zabm r h9
 obtain⟨a1,a2⟩:=zsd h0
 obtain⟨b1,b2⟩:=zsd (zi0 r)
 obtain⟨c1,c2⟩:=zakm p r
 by_cases hz:ev p r=0
 . obtain⟨δ,hd,hs⟩:=zaez (a:=p) (b:=lin r) (m:=trim (mulL p (lin r))) (G:=lin r) h0 (zi0 r) hm (zi0 r) (za0h _ _) (Dv.trans (c1 hz) a1) b1 (λq _ _ h=>Dv.trans h b2) R
   refine⟨δ,hd,λx y hx hy hxy he=>?_⟩
   have:=hs x y hx hy hxy he
   rw[if_pos hz];omega
 . obtain⟨s,t,fs,ft,eo⟩:=c2 hz
   obtain⟨δ,hd,hs⟩:=zaez (a:=p) (b:=lin r) (m:=trim (mulL p (lin r))) (G:=[1]) h0 (zi0 r) hm za43 (za0h _ _) (by rw[zabs];exact⟨ps (monQ p),ps_fs _,by exact psL.lin ([ps (monQ p)]:List PS) (.v 0) (.m .i (.v 0)) [] (by decide +kernel) trivial⟩) (by rw[zabs];exact⟨ps (monQ (lin r)),ps_fs _,by exact psL.lin ([ps (monQ (lin r))]:List PS) (.v 0) (.m .i (.v 0)) [] (by decide +kernel) trivial⟩) (λq _ h1 h2=>by
    have:=Dv.comb (Dv.trans h1 a2) (Dv.trans h2 b2) fs ft
    rw[eo]at this
    rw[zabs];exact this) R
   obtain⟨δ2,hd2,hs2⟩:=za8o (p:=[1]) za43 (λx=>.inl (by
    have:monQ ([1]:List Rat)=[1]:=by decide +kernel
    rw[this];simp only[ev];grind)) R
   obtain⟨δ3,f3,i1,i2⟩:=zij hd hd2
   refine⟨δ3,f3,λx y hx hy hxy he=>?_⟩
   have e1:=hs x y hx hy hxy (Rat.le_trans he i1)
   have e2:=hs2 x y hx hy hxy (Rat.le_trans he i2)
   rw[zaof hxy]at e1
   rw[if_neg hz];omega
def dc(rs:List Rat)(f:Rat->Nat):Nat->Nat
 | 0=>0
 | i+1=>dc rs f i+if rs.getD i 0∈rs.take i then 0 else f (rs.getD i 0)
def pk(rs:List Rat)(c:List Rat):Nat->List Rat
 | 0=>c
 | i+1=>trim (mulL (pk rs c i) (lin (rs.getD i 0)))
section
variable {rs c : List Rat}
theorem zaiv{i:Nat}(h:i<rs.length):rs.take (i+1)=rs.take i++[rs.getD i 0]:=by
 rw[List.getD_eq_getElem?_getD,List.getElem?_eq_getElem h]
 exact(List.take_append_getElem h).symm
theorem ev_pk(hc:∀x,ev c x≠0)(x:Rat):∀{i:Nat},i<=rs.length->(ev (pk rs c i) x=0↔x∈rs.take i)
 | 0,_=>by simp[pk,hc]
 | i+1,h=>by
   rw[pk,ev_trim,ev_mulL,zabf,zaiv (by omega),List.mem_append,List.mem_singleton,<-ev_pk hc x (i:=i) (by omega)]
   constructor
   . intro h1
     rcases Rat.mul_eq_zero.1 h1 with h2 | h2
     . exact .inl h2
     . exact .inr (by grind)
   . rintro(h1 | h1)
     . rw[h1];grind
     . rw[h1];grind
theorem pk_ne(hc:trim c≠[]):∀{i:Nat},ps (pk rs c i)≠0
 | 0=>λhh=>hc (ps_eq_nil hh)
 | i+1=>λhh=>by
   rw[pk,za0h]at hh
   rcases mul_eq_zero hh with h | h
   . exact pk_ne hc h
   . exact zabm _ h
theorem zajh(hc:trim c≠[]){i:Nat}:trim (pk rs c i)≠[]:=λhh=>pk_ne hc (by rw[<-ps_trim,hh,ps_nil])
theorem cells(h0:trim c≠[])(hc:∀x,ev c x≠0)(hM:∀x,1<=ev (monQ c) x\/ev (monQ c) x<=-1)(R:Rat):∀{i:Nat},i<=rs.length->∃δ:Rat,0<δ/\∀x y,Bd R x->Bd R y->x<y->y-x<=δ->jmp (sqfL (pk rs c i)) x y=dc rs (inn x y) i
 | 0,_=>za8o h0 hM R
 | i+1,h=>by
   obtain⟨δ,hd,hs⟩:=cells h0 hc hM R (i:=i) (by omega)
   obtain⟨δ2,hd2,hs2⟩:=zajy (zajh h0 (rs:=rs) (i:=i)) (rs.getD i 0) R
   obtain⟨δ3,f3,i1,i2⟩:=zij hd hd2
   refine⟨δ3,f3,λx y hx hy hxy he=>?_⟩
   have e1:=hs x y hx hy hxy (Rat.le_trans he i1)
   have e2:=hs2 x y hx hy hxy (Rat.le_trans he i2)
   rw[pk,e2,e1,dc]
   by_cases hz:ev (pk rs c i) (rs.getD i 0)=0
   . rw[if_pos hz,if_pos ((ev_pk hc _ (by omega)).1 hz)]
   . rw[if_neg hz,if_neg λh=>hz ((ev_pk hc _ (by omega)).2 h)]
theorem zaob{x y z r:Rat}(h1:x<y)(h2:y<z):inn x y r+inn y z r=inn x z r:=by
 unfold inn
 by_cases a:x<r/\r<=y
 . rw[if_pos a,if_neg (by grind),if_pos (by grind)]
 . by_cases b:y<r/\r<=z
   . rw[if_neg a,if_pos b,if_pos (by grind)]
   . rw[if_neg a,if_neg b,if_neg (by grind)]
theorem zahp{f g k:Rat->Nat}(h:∀r,f r+g r=k r):∀{i:Nat},dc rs f i+dc rs g i=dc rs k i
 | 0=>rfl
 | i+1=>by
   have:=zahp h (i:=i)
   have:=h (rs.getD i 0)
   simp only[dc]
   split<;>omega
theorem za3i{f g:Rat->Nat}:∀{i:Nat},i<=rs.length->(∀r∈rs,f r=g r)->dc rs f i=dc rs g i
 | 0,_,_=>rfl
 | i+1,hi,h=>by
   have:=za3i (i:=i) (by omega) h
   have h2:rs.getD i 0∈rs:=by
    rw[List.getD_eq_getElem?_getD,List.getElem?_eq_getElem (by omega)]
    exact List.getElem_mem _
   have:=h _ h2
   simp only[dc]
   split<;>omega
theorem known(h0:trim c≠[])(hc:∀x,ev c x≠0)(hM:∀x,1<=ev (monQ c) x\/ev (monQ c) x<=-1)(hl:(sqfL (pk rs c rs.length)).length<=9){u v:Rat}(huv:u<v):chN (chainL (pk rs c rs.length)) u=chN (chainL (pk rs c rs.length)) v+dc rs (inn u v) rs.length:=by
 obtain⟨R,hR⟩:=zrx (x:=u) (y:=v)
 obtain⟨δ1,hd1,hs1⟩:=cells h0 hc hM R (rs:=rs) (Nat.le_refl _)
 obtain⟨δ2,hd2,hs2⟩:=zanh (zajh h0 (rs:=rs) (i:=rs.length)) hl R
 obtain⟨δ,f3,i1,i2⟩:=zij hd1 hd2
 refine mesh (P:=λx y=>chN (chainL (pk rs c rs.length)) x=chN (chainL (pk rs c rs.length)) y+dc rs (inn x y) rs.length) f3 (λa b ha hab hb hs=>?_) (λa b c' _ h1 h2 _ h3 h4=>?_) huv
 . have b1:=hR a ha (by grind)
   have b2:=hR b (by grind) hb
   rw[hs2 a b b1 b2 hab (Rat.le_trans hs i2),hs1 a b b1 b2 hab (Rat.le_trans hs i1)]
 . have:=zahp (rs:=rs) (i:=rs.length) (f:=inn a b) (g:=inn b c') (k:=inn a c') λr=>zaob (r:=r) h1 h2
   omega
theorem far:∀(rs:List Rat),∃R:Rat,∀r∈rs,-R<r/\r<=R
 | []=>⟨0,λr hr=>by simp at hr⟩
 | a :: l=>by
   obtain⟨R,hR⟩:=far l
   obtain⟨A,hA,a1,a2⟩:=Bd.self a
   obtain⟨S,hS⟩:∃S:Rat,S=(if R<=A then A else R)+1:=⟨_,rfl⟩
   refine⟨S,λr hr=>?_⟩
   rcases List.mem_cons.1 hr with rfl | hr
   . split at hS<;>constructor<;>grind
   . obtain⟨b1,b2⟩:=hR r hr
     split at hS<;>constructor<;>grind
theorem zakk(h0:trim c≠[])(hc:∀x,ev c x≠0)(hM:∀x,1<=ev (monQ c) x\/ev (monQ c) x<=-1)(hl:(sqfL (pk rs c rs.length)).length<=9):totQ (pk rs c rs.length)=dc rs (λ_=>1) rs.length:=by
 obtain⟨R0,hR0⟩:=far rs
 have hb:=zah9 (pk rs c rs.length)
 obtain⟨A,hA,a1,a2⟩:=Bd.self R0
 obtain⟨R,hR⟩:∃R,R=A+bndQ (pk rs c rs.length)+1:=⟨_,rfl⟩
 rw[zaoy hl (R:=R) (by grind),known h0 hc hM hl (u:=-R) (v:=R) (by grind),za3i (Nat.le_refl _) (g:=λ_=>1) λr hr=>?_]
 . omega
 . obtain⟨b1,b2⟩:=hR0 r hr
   unfold inn
   rw[if_pos (by constructor<;>grind)]
theorem zakj(h0:trim c≠[])(hc:∀x,ev c x≠0)(hM:∀x,1<=ev (monQ c) x\/ev (monQ c) x<=-1)(hl:(sqfL (pk rs c rs.length)).length<=9){u v:Rat}:cntQ (pk rs c rs.length) u v=dc rs (inn u v) rs.length:=by
 by_cases huv:u<v
 . rw[zahe (Rat.le_of_lt huv),known h0 hc hM hl huv];omega
 . have e:dc rs (inn u v) rs.length=0:=by
    have:dc rs (inn u v) rs.length=dc rs (λ_=>0) rs.length:=za3i (Nat.le_refl _) λr _=>by unfold inn;rw[if_neg (by grind)]
    rw[this]
    have k:=zahp (rs:=rs) (i:=rs.length) (f:=λ_=>0) (g:=λ_=>0) (k:=λ_=>0) λ_=>rfl
    omega
   rw[e]
   unfold cntQ
   split
   . rfl
   . rename_i hh
     exact absurd (zab4.2 huv) hh
def sepσ:Rat:=1/(((W ^ 6:Nat):Int):Rat)
theorem zam8{f:Rat->Nat}(hf:∀r,f r<=1)(h:∀r∈rs,∀s∈rs,f r=1->f s=1->r=s):∀{i:Nat},i<=rs.length->dc rs f i<=1/\(dc rs f i=1->∃r∈rs.take i,f r=1)
 | 0,_=>⟨by simp[dc],λhh=>by simp[dc]at hh⟩
 | i+1,hi=>by
   obtain⟨h1,h2⟩:=zam8 hf h (i:=i) (by omega)
   rw[zaiv (by omega)]
   have hm:rs.getD i 0∈rs:=by
    rw[List.getD_eq_getElem?_getD,List.getElem?_eq_getElem (by omega)]
    exact List.getElem_mem _
   have h3:=hf (rs.getD i 0)
   simp only[dc]
   split
   . exact⟨by omega,λhh=>by
      obtain⟨r,hr,e⟩:=h2 (by omega)
      exact⟨r,List.mem_append.2 (.inl hr),e⟩⟩
   . rename_i hn
     by_cases h4:f (rs.getD i 0)=1
     . have h5:dc rs f i≠1:=λhh=>by
        obtain⟨r,hr,e⟩:=h2 hh
        exact hn (by rw[<-h r (List.mem_of_mem_take hr) _ hm e h4];exact hr)
       exact⟨by omega,λ_=>⟨_,List.mem_append.2 (.inr (List.mem_singleton.2 rfl)),h4⟩⟩
     . exact⟨by omega,λhh=>by
        obtain⟨r,hr,e⟩:=h2 (by omega)
        exact⟨r,List.mem_append.2 (.inl hr),e⟩⟩
theorem gap{r s:Rat}(hr:BR 3 r)(hs:BR 3 s)(h:r<s):sepσ<=s-r:=by
 have e1:=zcz r
 have e2:=zcz s
 have d1:(0:Rat)<((r.den:Nat):Rat):=by have:=r.den_pos;exact_mod_cast this
 have d2:(0:Rat)<((s.den:Nat):Rat):=by have:=s.den_pos;exact_mod_cast this
 have l1:r.den<W ^ 3:=by have:=hr.2;unfold Lt at this;rw[Int.natAbs_natCast]at this;exact this
 have l2:s.den<W ^ 3:=by have:=hs.2;unfold Lt at this;rw[Int.natAbs_natCast]at this;exact this
 have l3:r.den*s.den<=W ^ 6:=by
  have:=Nat.mul_le_mul (Nat.le_of_lt l1) (Nat.le_of_lt l2)
  rwa [<-Nat.pow_add]at this
 have l4:((r.den:Nat):Rat)*((s.den:Nat):Rat)<=(((W ^ 6:Nat):Int):Rat):=by
  have h5:((r.den*s.den:Nat):Rat)<=((W ^ 6:Nat):Rat):=Rat.natCast_le_natCast.2 l3
  rw[Rat.natCast_mul]at h5
  exact h5
 have e3:(s-r)*(((r.den:Nat):Rat)*((s.den:Nat):Rat))=((s.num*(r.den:Int)-r.num*(s.den:Int):Int):Rat):=by
  rw[Rat.intCast_sub,Rat.intCast_mul,Rat.intCast_mul,<-e1,<-e2,Rat.intCast_natCast,Rat.intCast_natCast]
  grind
 have p1:=Rat.mul_pos d1 d2
 have p2:=Rat.mul_pos (a:=s-r) (by grind) p1
 rw[e3]at p2
 have p3:(0:Int)<s.num*(r.den:Int)-r.num*(s.den:Int):=Rat.intCast_lt_intCast.1 p2
 have p4:((1:Int):Rat)<=((s.num*(r.den:Int)-r.num*(s.den:Int):Int):Rat):=Rat.intCast_le_intCast.2 (by omega)
 rw[<-e3]at p4
 have q1:((1:Int):Rat)=1:=rfl
 rw[q1]at p4
 unfold sepσ
 have w0:(0:Rat)<(((W ^ 6:Nat):Int):Rat):=by grind
 generalize (((W ^ 6:Nat):Int):Rat)=V at *
 have iv:1/V*V=1:=Rat.div_mul_cancel (λhh=>by rw[hh]at w0;exact absurd w0 Rat.lt_irrefl)
 generalize 1/V=z at *
 refine Rat.not_lt.1 λhh=>?_
 have k1:=Rat.mul_pos (a:=z-(s-r)) (b:=V) (by grind) w0
 have k2:=Rat.mul_nonneg (a:=s-r) (b:=V-((r.den:Nat):Rat)*((s.den:Nat):Rat)) (by grind) (by grind)
 grind
theorem zapf(hb:∀r∈rs,BR 3 r){u v:Rat}(h:v-u<=sepσ):dc rs (inn u v) rs.length<=1:=by
 refine(zam8 (λr=>by unfold inn;split<;>omega) (λr hr s hs h1 h2=>?_) (Nat.le_refl _)).1
 unfold inn at h1 h2
 have a1:u<r/\r<=v:=Classical.byContradiction λhh=>by rw[if_neg hh]at h1;omega
 have a2:u<s/\s<=v:=Classical.byContradiction λhh=>by rw[if_neg hh]at h2;omega
 rcases Rat.le_total (a:=r) (b:=s)with h3 | h3
 . rcases rle h3 with h4 | h4
   . have:=gap (hb r hr) (hb s hs) h4
     grind
   . exact h4
 . rcases rle h3 with h4 | h4
   . have:=gap (hb s hs) (hb r hr) h4
     grind
   . exact h4.symm
end
end Den
end

section
namespace Den
open Go Iv Pq PS
theorem zaly{p:List Rat}(hl:(sqfL p).length<=9){x y:Rat}(hxy:x<=y):chN (chainL p) y<=chN (chainL p) x:=by
 rcases rle hxy with hlt | he
 . by_cases h2:2<=(trim p).length
   . obtain⟨R,hR⟩:=zrx (x:=x) (y:=y)
     obtain⟨δ,d,s⟩:=zsl h2 hl R
     refine mesh (P:=λx y=>chN (chainL p) y<=chN (chainL p) x) d (λa b ha hab hb hs=>?_) (λa b c _ _ _ _ h3 h4=>Nat.le_trans h4 h3) hlt
     have h5:=s a b (hR a ha (by grind)) (hR b (by grind) hb) hab hs
     omega
   . have:chainL p=[]:=by unfold chainL;rw[if_pos (by omega)]
     rw[this];exact Nat.le_refl _
 . rw[he];exact Nat.le_refl _
def Dy(D:Int)(k:Nat)(x:Rat):Prop:=∃n:Int,x*((D:Rat)*((2:Rat) ^ k))=(n:Rat)
theorem Dy.up{D:Int}{k:Nat}{x:Rat}(h:Dy D k x):Dy D (k+1) x:=by
 obtain⟨n,hn⟩:=h
 refine⟨n*2,?_⟩
 rw[Rat.pow_succ,Rat.intCast_mul,<-hn]
 have:((2:Int):Rat)=2:=rfl
 rw[this];grind
theorem Dy.mid{D:Int}{k:Nat}{x y:Rat}(h1:Dy D k x)(h2:Dy D k y):Dy D (k+1) ((x+y)*Rat.divInt 1 2):=by
 obtain⟨n,hn⟩:=h1
 obtain⟨m,hm⟩:=h2
 refine⟨n+m,?_⟩
 have e:Rat.divInt 1 2*2=1:=by decide +kernel
 rw[Rat.pow_succ,Rat.intCast_add,<-hn,<-hm]
 generalize Rat.divInt 1 2=z at *
 grind
theorem zajs(k:Nat):((2:Rat) ^ k)=(((2 ^ k:Nat):Int):Rat):=by
 induction k with
 | zero=>rfl
 | succ k ih=>
   rw[Rat.pow_succ,ih,Nat.pow_succ]
   have:(((2 ^ k*2:Nat):Int):Rat)=(((2 ^ k:Nat):Int):Rat)*(((2:Nat):Int):Rat):=by
    rw[<-Rat.intCast_mul]
    congr 1
   rw[this];rfl
end Den
end

section
namespace Den
open Go Iv Pq PS
abbrev i8(s:Bool×Sl×Bool×Sl×Bool×Sl×Bool×Sl×Unit):TInterval:=⟨⟨⟨s.1,s.2.1⟩,⟨s.2.2.1,s.2.2.2.1⟩⟩,⟨⟨s.2.2.2.2.1,s.2.2.2.2.2.1⟩,⟨s.2.2.2.2.2.2.1,s.2.2.2.2.2.2.2.1⟩⟩⟩
theorem zans:BR 1 (Rat.divInt 1 2):=by
 refine BR.divInt (k:=1) ?_ ?_ (by decide)<;>(unfold Lt;rw[Nat.pow_one,W_eq];decide)
section
variable {h : Hp} {A B j : Nat} {l : Sl} {p : List Rat} {Kb : Bool → Hp → Prop} {KR : TRat → Hp → Prop} {i : TInterval} {u v w : Rat} {x : TRat}
theorem zai5{m n:Int}(h1:-9223372036854775808<=m)(h2:m<=9223372036854775807)(h3:-9223372036854775808<=n)(h4:n<=9223372036854775807)(h0:n≠0)(H:∀z h',h.le h'->NR h' z (Rat.divInt m n)->KR z h'):callP (F.zhj m n) KR h:=by
 refine za3 _ (λK' hk=>?_) H
 unfold F.zhj
 refine ziq h1 h2 λa g1 l1 ha=>ziq h3 h4 λb g2 l2 hb=>?_
 refine zai6 (k:=2) (ha.le l2) hb (Lt.of64 (by omega) (by omega)) (Lt.of64 (by omega) (by omega)) (by decide) h0 λz g3 l3 hz=>?_
 exact zoj (λhh=>absurd rfl hh) (λ_=>hk _ _ (Hp.le_trans l1 (Hp.le_trans l2 l3)) hz)
theorem zabp(ha:NV h i u v)(b1:BR j u)(b2:BR j v)(hj:j<=10000000000)(H:∀z h',h.le h'->NR h' z ((u+v)*Rat.divInt 1 2)->KR z h'):callP (F.ziw i) KR h:=by
 refine za3 _ (λK' hk=>?_) H
 unfold F.ziw
 refine zpg ha.1 ha.2 b1 b2 (by omega) (by omega) λa g1 l1 h1=>?_
 refine zai5 (by decide) (by decide) (by decide) (by decide) (by decide) λb g2 l2 h2=>?_
 exact zlx (h1.le l2) h2 (b1.add b2) zans (by omega) (by decide) λc g3 l3 h3=>hk _ _ (Hp.le_trans l1 (Hp.le_trans l2 l3)) h3
end
end Den
end

section
namespace Den
open Go Iv Pq PS
theorem W_two(e:Nat):W ^ e=2 ^ (32*e):=by rw[W_eq,Nat.pow_mul]
theorem pow2W{k e:Nat}(h:k<=32*e):2 ^ k<=W ^ e:=by
 rw[W_two]
 exact Nat.pow_le_pow_right (by decide) h
theorem zaha{m:Nat}{x:Rat}(h:BR m x):Bd (((W ^ m:Nat):Int):Rat) x:=by
 have h1:=h.1
 unfold Lt at h1
 have e:=zcz x
 have d1:(1:Rat)<=(((x.den):Nat):Rat):=by
  have:=x.den_pos
  have h4:((1:Nat):Rat)<=(((x.den):Nat):Rat):=Rat.natCast_le_natCast.2 (by omega)
  exact h4
 have n1:(x.num:Rat)<=(((W ^ m:Nat):Int):Rat):=Rat.intCast_le_intCast.2 (by omega)
 have n2:(-((((W ^ m:Nat):Int)):Rat))<=(x.num:Rat):=by
  rw[<-Rat.intCast_neg]
  exact Rat.intCast_le_intCast.2 (by omega)
 have w0:(0:Rat)<=(((W ^ m:Nat):Int):Rat):=Rat.intCast_nonneg.2 (by omega)
 generalize (((W ^ m:Nat):Int):Rat)=V at *
 generalize (x.num:Rat)=m at *
 generalize (((x.den):Nat):Rat)=D at *
 constructor
 . refine Rat.not_lt.1 λhh=>?_
   have:=Rat.mul_nonneg (a:=-V-x) (b:=D-1) (by grind) (by grind)
   have:=Rat.mul_nonneg (a:=V) (b:=D-1) w0 (by grind)
   grind
 . refine Rat.not_lt.1 λhh=>?_
   have:=Rat.mul_nonneg (a:=x-V) (b:=D-1) (by grind) (by grind)
   have:=Rat.mul_nonneg (a:=V) (b:=D-1) w0 (by grind)
   grind
theorem Dy.brG{D:Int}{k a e m:Nat}{x:Rat}(h:Dy D k x)(hD0:0<D)(hD:Lt a D)(hk:k<=32*e)(hx:Bd (((W ^ m:Nat):Int):Rat) x):BR (m+1+(a+(e+1))) x:=by
 obtain⟨n,hn⟩:=h
 obtain⟨M,hM⟩:∃M:Int,M=D*((2 ^ k:Nat):Int):=⟨_,rfl⟩
 have hM2:(M:Rat)=(D:Rat)*((2:Rat) ^ k):=by rw[zajs,hM,Rat.intCast_mul]
 have p2:0<((2 ^ k:Nat):Int):=by have:=Nat.pow_pos (n:=k) (show 0<2 by decide);omega
 have M0:0<M:=by rw[hM];exact Int.mul_pos hD0 p2
 have l2:Lt (e+1) ((2 ^ k:Nat):Int):=by
  unfold Lt;rw[Int.natAbs_natCast]
  exact Nat.lt_of_le_of_lt (pow2W hk) (Nat.pow_lt_pow_right (by rw[W_eq];decide) (by omega))
 have lM:Lt (a+(e+1)) M:=by rw[hM];exact hD.mul l2
 rw[<-hM2]at hn
 refine BR_of (Int.ne_of_gt M0) (lM.mono (by omega)) ?_ hn
 obtain⟨x1,x2⟩:=hx
 have M0':(0:Rat)<=(M:Rat):=Rat.intCast_nonneg.2 (Int.le_of_lt M0)
 have a1:=Rat.mul_nonneg (a:=(((W ^ m:Nat):Int):Rat)-x) (b:=(M:Rat)) (by grind) M0'
 have a2:=Rat.mul_nonneg (a:=(((W ^ m:Nat):Int):Rat)+x) (b:=(M:Rat)) (by grind) M0'
 have b1:(n:Rat)<=((((W ^ m:Nat):Int)*M:Int):Rat):=by rw[Rat.intCast_mul];grind
 have b2:((-(((W ^ m:Nat):Int)*M):Int):Rat)<=(n:Rat):=by rw[Rat.intCast_neg,Rat.intCast_mul];grind
 have c1:=Rat.intCast_le_intCast.1 b1
 have c2:=Rat.intCast_le_intCast.1 b2
 have l4:Lt (m+1) ((W ^ m:Nat):Int):=by unfold Lt;rw[Int.natAbs_natCast];exact Nat.pow_lt_pow_right (by rw[W_eq];decide) (by omega)
 exact(l4.mul lM).le (by omega)
theorem Dy.zero(x:Rat):Dy (x.den:Int) 0 x/\Dy (x.den:Int) 0 (-x):=by
 have e:=zcz x
 have e2:(((x.den:Nat):Int):Rat)=((x.den:Nat):Rat):=Rat.intCast_natCast _
 have p0:(2:Rat) ^ 0=1:=rfl
 refine⟨⟨x.num,?_⟩,⟨-x.num,?_⟩⟩
 . rw[e2,p0,<-e];grind
 . rw[e2,p0,Rat.intCast_neg,<-e];grind
theorem zaoa:Rat.divInt 1 2*2=1:=by decide +kernel
theorem zapk{u v:Rat}(h:u<=v):u<=(u+v)*Rat.divInt 1 2/\(u+v)*Rat.divInt 1 2<=v/\2*((u+v)*Rat.divInt 1 2-u)=v-u/\2*(v-(u+v)*Rat.divInt 1 2)=v-u:=by
 have e:=zaoa
 generalize Rat.divInt 1 2=z at *
 have e1:2*((u+v)*z)=u+v:=by grind
 refine⟨by grind,by grind,by grind,by grind⟩
section
variable {chain : Sl} {ps : List (List Rat)} {p : List Rat} {D : Int}
theorem zaoc(hl9:(sqfL p).length<=9)(hsep:∀u v,u<v->v-u<=sepσ->chN (chainL p) u<=chN (chainL p) v+1)(he:∀u,chN ps u=chN (chainL p) u)(hn:ps.length<=10)(hf:∀p∈ps,p.length<=8/\CD 11809804373 (co p))(hD0:0<D)(hD:Lt 30 D) :
 ∀(n:Nat) {h:Hp} {i:TInterval} {u v:Rat} {k:Nat} {Ks:Sl->Hp->Prop},QQL h 11809804373 chain ps->NV h i u v->Dy D k u->Dy D k v->k+n<=1154->Bd (((W ^ 30:Nat):Int):Rat) u->Bd (((W ^ 30:Nat):Int):Rat) v->u<=v->v-u<=sepσ*(2:Rat) ^ n ->
  (∀y h' cs,Own h h' 8 y cs->cs.all Value.leaf=true->y.len+chN ps v=chN ps u->Ks y h')->F.zc4 (n+1) chain i (chN ps u:Int) (chN ps v:Int) Ks h:=by
 intro n
 induction n using Nat.strongRecOn with
 | _ n ih=>
   intro h i u v k Ks hc hi du dv hk bu bv huv hw H
   have hk':∀y h',h.le h'->(∃cs,Own h h' 8 y cs/\cs.all Value.leaf=true/\y.len+chN ps v=chN ps u)->Ks y h':=λy h' _ ⟨cs,a,b,c⟩=>H y h' cs a b c
   have r1:=zlq (ps:=ps) (c:=u)
   have r2:=zlq (ps:=ps) (c:=v)
   have m1:chN ps v<=chN ps u:=by rw[he,he];exact zaly hl9 huv
   have cu:chN ps u<=10:=by unfold chN;omega
   rw[F.zc4,show i64.wrap ((chN ps u:Int)-(chN ps v:Int))=(chN ps u:Int)-(chN ps v:Int) from w64 (by omega)]
   refine zbl (λh1=>hk' _ _ (Hp.le_refl _) ⟨[],Own.nil (Hp.le_refl _),rfl,by show 0+_=_;omega⟩) (λh1=>?_)
   refine zbl (λh2=>?_) (λh2=>?_)
   . refine zeq (n:=1) (size:=8) rfl λb h3 hb ho=>hk' _ _ ho.1 ⟨_,ho,rfl,by show 1+_=_;omega⟩
   . obtain⟨n,rfl⟩:∃m,n=m+1:=⟨n-1,by
      have:n≠0:=λh0=>by
       subst h0
       rcases rle huv with h3 | h3
       . have:=hsep u v h3 (by
                                 have e:sepσ*(2:Rat) ^ 0=sepσ:=by rw[Rat.pow_zero,Rat.mul_one]
                                 rwa [e]at hw)
         rw[<-he,<-he]at this
         omega
       . rw[h3]at h1;omega
      omega⟩
     have b1:BR 100 u:=(du.brG hD0 hD (e:=37) (by omega) bu).mono (by decide)
     have b2:BR 100 v:=(dv.brG hD0 hD (e:=37) (by omega) bv).mono (by decide)
     obtain⟨g1,g2,g3,g4⟩:=zapk huv
     refine zabp hi b1 b2 (by decide) λz h3 hl3 hz=>?_
     have dm:=du.mid dv
     obtain⟨m,hm⟩:∃m,m=(u+v)*Rat.divInt 1 2:=⟨_,rfl⟩
     rw[<-hm]at hz dm g1 g2 g3 g4
     have bm:Bd (((W ^ 30:Nat):Int):Rat) m:=⟨Rat.le_trans bu.1 g1,Rat.le_trans g2 bv.2⟩
     have b3:BR 100 m:=(dm.brG hD0 hD (e:=37) (by omega) bm).mono (by decide)
     have wm:∀t,2*t=v-u->t<=sepσ*(2:Rat) ^ n:=λt ht=>by
      rw[Rat.pow_succ]at hw
      generalize (2:Rat) ^ n=P at *
      generalize sepσ=S at *
      grind
     refine ze7 (hc.le hl3) hz b3 (by omega) (by decide) (by decide) (λp hp=>by have:=(hf p hp).1;omega) (λp hp i=>zjr b3 (hf p hp) (by decide)) (by decide) λh4 hl4=>?_
     have l4:=Hp.le_trans hl3 hl4
     refine za3 (λy h'=>∃cs,Own h4 h' 8 y cs/\cs.all Value.leaf=true/\y.len+chN ps m=chN ps u) (λK1 hk1=>ih n (by omega) (hc.le l4) (k:=k+1) ⟨hi.1.le l4,hz.le hl4⟩ du.up dm (by omega) bu bm g1 (wm _ g3) λy h' cs a b c=>hk1 y h' a.1 ⟨cs,a,b,c⟩) λy1 h5 _ ⟨cs1,ho1,lf1,ly1⟩=>?_
     refine ho1.call (K1:=λy D'=>∃cs,Own h4 D' 8 y cs/\cs.all Value.leaf=true/\y.len+chN ps v=chN ps m) (za3 (λy h'=>∃cs,Own h4 h' 8 y cs/\cs.all Value.leaf=true/\y.len+chN ps v=chN ps m) (λK1 hk1=>ih n (by omega) (hc.le l4) (k:=k+1) ⟨hz.le hl4,hi.2.le l4⟩ dm dv.up (by omega) bm bv g2 (wm _ g4) λy h' cs a b c=>hk1 y h' a.1 ⟨cs,a,b,c⟩) λy2 h6 _ ho=>ho) λy2 D6 h6 hl6 ho1' ⟨cs2,ho2,lf2,ly2⟩=>?_
     have r6:=ho2.rd.le ho1'.1
     refine⟨cs2,by rw[r6.1];exact r6.2,?_⟩
     refine zk6 ho1' (n:=y2.len) (new:=cs2) r6.1.symm rfl lf2 (by omega) (by omega) λw h7 hw7 lw=>?_
     refine hk' _ _ (Hp.le_trans l4 (Hp.le_trans hl6 hw7.1)) ⟨_,hw7.base (Hp.le_trans l4 hl6),by rw[List.all_append,lf1,lf2];rfl,by omega⟩
theorem width0{b:Rat}{N:Nat}(hN:N=32*36+1)(h0:0<=b)(h:BR 30 b):b - -b<=sepσ*(2:Rat) ^ N:=by
 have hb:=(zaha h).2
 have e1:(2:Rat) ^ N=2*((((W ^ 30:Nat):Int):Rat)*(((W ^ 6:Nat):Int):Rat)):=by
  obtain⟨M,hM⟩:∃M,M=32*36:=⟨_,rfl⟩
  have hNM:N=M+1:=by omega
  have e2:(2:Nat) ^ N=2 ^ M*2:=by rw[hNM,Nat.pow_succ]
  have e3:W ^ 36=2 ^ M:=by rw[hM];exact W_two 36
  have e4:W ^ 36=W ^ 30*W ^ 6:=Nat.pow_add W 30 6
  rw[zajs,e2,<-e3,e4]
  have:(((W ^ 30*W ^ 6*2:Nat)):Int)=((W ^ 30:Nat):Int)*((W ^ 6:Nat):Int)*2:=by
   rw[Int.natCast_mul,Int.natCast_mul];rfl
  rw[this,Rat.intCast_mul,Rat.intCast_mul]
  have e5:((2:Int):Rat)=2:=rfl
  rw[e5];grind
 rw[e1]
 have w0:(0:Rat)<(((W ^ 6:Nat):Int):Rat):=by
  have h1:((0:Int):Rat)<(((W ^ 6:Nat):Int):Rat):=Rat.intCast_lt_intCast.2 (by have:=Nat.pow_pos (n:=6) W_pos;omega)
  exact h1
 unfold sepσ
 generalize (((W ^ 6:Nat):Int):Rat)=V at *
 generalize (((W ^ 30:Nat):Int):Rat)=U at *
 have iv:1/V*V=1:=Rat.div_mul_cancel (λhh=>by rw[hh]at w0;exact absurd w0 Rat.lt_irrefl)
 generalize 1/V=z at *
 have:z*(2*(U*V))=2*U:=by grind
 rw[this];grind
theorem za85{h:Hp}{A:Nat}{l:Sl}{Ks:Sl->Hp->Prop}(hp:PL h A l p)(h8:p.length<=8)(h1:CD 28 (co p))(hA:A<=50000000000)(hl9:(sqfL p).length<=9)(hsep:∀u v,u<v->v-u<=sepσ->chN (chainL p) u<=chN (chainL p) v+1)
 (H:∀y h',h.le h'->(y.len:Int)=totQ p->Ks y h'):callP (F.zhn l) Ks h:=by
 refine za3 (λy h'=>(y.len:Int)=totQ p) (λK' hk=>?_) λy h' hl hy=>H y h' hl hy
 unfold F.zhn
 have bb:=bnd28 h1
 have nn:=zah9 p
 have tq:totQ p=(chN (chainL p) (-(bndQ p)):Int)-(chN (chainL p) (bndQ p):Int):=zahe (by grind)
 refine zx1 hp h8 h1 (by omega) λc h2 ps hl2 hc hn hf he=>?_
 have lc:=hc.len
 refine zbl (λh3=>?_) (λh3=>?_)
 . have e0:ps=[]:=List.eq_nil_of_length_eq_zero (by omega)
   refine hk _ _ hl2 ?_
   rw[tq,<-he,<-he,e0];rfl
 . refine za3 (λv h'=>NV h' v (-(bndQ p)) (bndQ p)) (λK1 hk1=>?_) λv h4 hl4 hv=>?_
   . unfold F.zf0
     refine zom (hp.le hl2) (by omega) (by omega) λr1 h4 hl4 hr1=>?_
     refine zly hr1 bb (by decide) λr2 h5 hl5 hr2=>hk1 _ _ (Hp.le_trans hl4 hl5) ⟨hr2,hr1.le hl5⟩
   . refine ze7 (hc.le hl4) hv.1 bb.neg (by omega) (by decide) (by decide) (λp hp=>by have:=(hf p hp).1;omega) (λp hp i=>zjr bb.neg (hf p hp) (by decide)) (by decide) λh5 hl5=>?_
     refine ze7 ((hc.le hl4).le hl5) (hv.2.le hl5) bb (by omega) (by decide) (by decide) (λp hp=>by have:=(hf p hp).1;omega) (λp hp i=>zjr bb (hf p hp) (by decide)) (by decide) λh6 hl6=>?_
     have l6:=Hp.le_trans hl5 hl6
     obtain⟨d1,d2⟩:=Dy.zero (bndQ p)
     have hden:Lt 30 ((bndQ p).den:Int):=bb.2
     obtain⟨N,hN⟩:∃N,N=32*36+1:=⟨_,rfl⟩
     refine za3 (λy h'=>(y.len:Int)=totQ p) (λK2 hk2=>?_) λy h' hl hy=>hk _ _ (Hp.le_trans hl2 (Hp.le_trans hl4 (Hp.le_trans l6 hl))) hy
     unfold F.zl9
     exact⟨N+1,zaoc hl9 hsep he hn hf (D:=((bndQ p).den:Int)) (by have:=(bndQ p).den_pos;omega) hden N ((hc.le hl4).le l6) ⟨hv.1.le l6,hv.2.le l6⟩ d2 d1 (by omega) (zaha bb.neg) (zaha bb) (by grind) (width0 hN nn bb) λy h' cs ho _ hlen=>hk2 y h' ho.1 (by rw[tq,<-he,<-he];omega)⟩
end
end Den
end

section
namespace Den
open Go Iv Pq PS
theorem za92{f g:Nat->Rat}{n m:Nat->Int}{D E:Int}{a b:Nat}(hn:∀j,Lt a (n j))(hm:∀j,Lt b (m j))(hf:∀j,f j*(D:Rat)=(n j:Rat))(hg:∀j,g j*(E:Rat)=(m j:Rat))(j:Nat):∀k:Nat,∃z:Int,Pq.part f g k j*((D*E:Int):Rat)=(z:Rat)/\z.natAbs<=k*(W ^ a*W ^ b)
 | 0=>⟨0,by show(0:Rat)*_=_;rw[Rat.zero_mul];rfl,by simp⟩
 | k+1=>by
   obtain⟨z,hz,hb⟩:=za92 hn hm hf hg j k
   rw[za93,Rat.add_mul,hz]
   by_cases h:k<=j
   . refine⟨z+n k*m (j-k),?_,?_⟩
     . rw[if_pos h,Rat.intCast_add,Rat.intCast_mul (n k),<-hf,<-hg,Rat.intCast_mul];grind
     . have h1:=hn k
       have h2:=hm (j-k)
       unfold Lt at h1 h2
       have h3:=Nat.mul_le_mul (Nat.le_of_lt h1) (Nat.le_of_lt h2)
       rw[<-Int.natAbs_mul]at h3
       have h4:=Int.natAbs_add_le z (n k*m (j-k))
       rw[Nat.add_mul];omega
   . refine⟨z,by rw[if_neg h,Rat.zero_mul,Rat.add_zero],?_⟩
     rw[Nat.add_mul];omega
theorem CD.conv{a b:Nat}{f g:Nat->Rat}{N M:Nat}(h1:CD a f)(h2:CD b g)(zf:∀i,N<=i->f i=0)(zg:∀i,M<=i->g i=0)(hNM:N+M<=1000):CD (a+b+1) (conv f g):=by
 obtain⟨D,n,hD,lD,ln,hn⟩:=h1
 obtain⟨E,m,hE,lE,lm,hm⟩:=h2
 have key:∀j,∃z:Int,Pq.conv f g j*((D*E:Int):Rat)=(z:Rat)/\Lt (a+b+1) z:=λj=>by
  by_cases hj:N+M<=j+1
  . exact⟨0,by rw[conv_zero_of zf zg hj,Rat.zero_mul];rfl,Lt.zero⟩
  . obtain⟨z,hz,hb⟩:=za92 ln lm hn hm j (j+1)
    refine⟨z,by rw[zak0];exact hz,?_⟩
    unfold Lt
    have w:0<W ^ a*W ^ b:=Nat.mul_pos (Nat.pow_pos W_pos) (Nat.pow_pos W_pos)
    have h3:j+1<W:=by rw[W_eq];omega
    have h4:=Nat.mul_lt_mul_of_pos_right h3 w
    rw[Nat.pow_succ,Nat.pow_add,Nat.mul_comm _ W]
    omega
 refine⟨D*E,λj=>(key j).choose,λh0=>?_,(lD.mul lE).mono (by omega),λj=>(key j).choose_spec.2,λj=>(key j).choose_spec.1⟩
 rcases Int.mul_eq_zero.1 h0 with h | h
 . exact hD h
 . exact hE h
theorem zap4{r:Rat}(h:BR 3 r):CD 3 (co (lin r)):=by
 have e:=zcz r
 refine⟨(r.den:Int),λj=>match j with | 0=>-r.num | 1=>(r.den:Int) | _=>0,by have:=r.den_pos;omega,h.2,λj=>?_,λj=>?_⟩
 . match j with
   | 0=>show Lt 3 (-r.num);have:=h.1;unfold Lt at this |-;rw[Int.natAbs_neg];exact this
   | 1=>exact h.2
   | j+2=>exact Lt.zero
 . obtain⟨c0,c1,c2⟩:=zab6 r
   match j with
   | 0=>show _=((-r.num:Int):Rat);rw[c0,Rat.intCast_neg,<-e,Rat.intCast_natCast];grind
   | 1=>show _=(((r.den:Int)):Rat);rw[c1];grind
   | j+2=>rw[c2 _ (by omega),Rat.zero_mul];rfl
def szA:Nat->Nat
 | 0=>1
 | i+1=>2*szA i+9
section
variable {rs c : List Rat}
theorem za47(hb:∀r∈rs,BR 3 r)(hc:c.length<=3)(hC:CD 1 (co c)):∀{i:Nat},i<=rs.length->i<=5->(pk rs c i).length<=3+i/\CD (1+4*i) (co (pk rs c i))
 | 0,_,_=>⟨hc,hC⟩
 | i+1,h,h5=>by
   obtain⟨h1,h2⟩:=za47 hb hc hC (i:=i) (by omega) (by omega)
   have hm:rs.getD i 0∈rs:=by
    rw[List.getD_eq_getElem?_getD,List.getElem?_eq_getElem (by omega)]
    exact List.getElem_mem _
   rw[pk]
   refine⟨nf_len nf_trim λk hk=>?_,?_⟩
   . rw[co_trim,co_mulL]
     exact conv_zero_of (a:=3+i) (b:=2) (λi hi=>co_ge (by omega)) (λi hi=>co_ge hi) (by omega)
   . refine((h2.conv (zap4 (hb _ hm)) (N:=3+i) (M:=2) (λi hi=>co_ge (by omega)) (λi hi=>co_ge hi) (by omega)).mono (by omega)).congr λj=>?_
     rw[co_trim,co_mulL]
theorem zapv:∀{i:Nat},i<=5->szA i<=311
 | 0,_=>by decide
 | 1,_=>by decide
 | 2,_=>by decide
 | 3,_=>by decide
 | 4,_=>by decide
 | 5,_=>by decide
theorem zaox:∀{i:Nat},1<=szA i
 | 0=>by decide
 | i+1=>by rw[szA];omega
end
section
variable {h : Hp} {B : Nat} {l m : Sl} {rs c : List Rat} {Ks : Sl → Hp → Prop} {Kb : Bool → Hp → Prop}
theorem zabh{i:Nat}(h:i<rs.length):rs.getD i 0=rs[i]:=by rw[List.getD_eq_getElem?_getD,List.getElem?_eq_getElem h];rfl
theorem za86(hr:PL h 3 l rs)(hc:PL h 1 m c)(h5:rs.length<=5)(h3:c.length<=3)(hC:CD 1 (co c))(H:∀y h',h.le h'->PL h' 311 y (pk rs c rs.length)->Ks y h'):callP (F.zhm l m) Ks h:=by
 refine za3 (λy h'=>PL h' 311 y (pk rs c rs.length)) (λK' hk=>?_) λy h' hl hy=>H y h' hl hy
 unfold F.zhm
 have hl:=hr.len
 refine zaa (λst h'=>h.le h'/\∃i:Nat,st.2.1=(i:Int)/\i<=rs.length/\PL h' (szA i) st.1 (pk rs c i)) (λst=>(rs.length-st.2.1).toNat) ⟨Hp.le_refl _,0,rfl,Nat.zero_le _,hc⟩ ?_
 rintro⟨s,_,_⟩ h1 ⟨hl1,i,hi,hi2,hs⟩
 simp only at hi hs
 subst hi
 have hszi:=zapv (i:=i) (by omega)
 have hszp:=zaox (i:=i)
 obtain⟨f1,f2⟩:=za47 (c:=c) (rs:=rs) hr.bound h3 hC hi2 (by omega)
 refine za5 (λh2=>?_) (λh2=>?_)
 . simp only at h2
   have hi':i<rs.length:=by omega
   refine PL.get i (hr.le hl1) rfl hi' λx hx bx=>?_
   refine zaih hx bx (by decide) λz hz=>?_
   refine zcj (by decide) (by decide) λo h4 hl4 ho=>?_
   refine zafn (xs:=[z,o]) 2 rfl λa h6 hl6 ha=>?_
   have hlin:PL h6 3 ⟨some a,2,2⟩ (lin (rs.getD i 0)):=by
    refine⟨[z,o],ha,⟨rfl,λk k1 k2=>?_⟩,Nat.le_refl _⟩
    rw[zabh hi']
    match k,k1,k2 with
    | 0,_,_=>exact⟨(hz.le hl4).le hl6,bx.neg⟩
    | 1,_,_=>exact⟨ho.le hl6,za14.mono (by decide)⟩
   have l6:=Hp.le_trans hl4 hl6
   have bp:=λj=>BR.co hs.bound hszp j
   have bq:=λj=>BR.co hlin.bound (by decide) j
   refine zag3 (hs.le l6) hlin (by omega) (by show 2<=_;decide) (by omega) (by decide) (C:=szA (i+1)) (λk n _=>(part_BR' (N:=2) bq bp (λj hj=>co_ge hj) k n).mono (by rw[szA];omega)) (by rw[szA];omega) λy h7 hl7 hy=>?_
   refine⟨⟨Hp.le_trans hl1 (Hp.le_trans l6 hl7),i+1,by show i64.wrap ((i:Int)+1)=_;rw[w64 (by omega)];rfl,hi',by rw[pk];exact hy⟩,?_⟩
   simp only
   rw[w64 (by omega)];omega
 . simp only at h2
   have:i=rs.length:=by omega
   subst this
   exact hk _ _ hl1 (hs.mono hszi)
theorem cmp0{a b:Rat}:(cmpQ a b==0)=true↔a=b:=by
 rw[beq_iff_eq]
 constructor
 . intro h
   exact Rat.le_antisymm (za05.1 (by omega)) (Rat.not_lt.1 λhh=>by have:=za06.2 hh;omega)
 . rintro rfl
   have h1:=za05.2 (Rat.le_refl (a:=a))
   have h2:=zab4.2 (Rat.lt_irrefl (a:=a))
   omega
theorem dc_le{f:Rat->Nat}(hf:∀r,f r<=1):∀{i:Nat},dc rs f i<=i
 | 0=>Nat.le_refl _
 | i+1=>by
   have:=dc_le hf (i:=i)
   have:=hf (rs.getD i 0)
   rw[dc]
   split<;>omega
theorem zapj{u v r:Rat}:inn u v r<=1:=by unfold inn;split<;>omega
theorem zamh{roots:Sl}{cx:Bool}{x:A2_TRat}(ha:AQX h roots)(hx:ARX h x.c0/\ARX h x.c1)(H:∀h',h.le h'->Kb true h'):F.zh2 roots cx x Kb h:=by
 unfold F.zh2
 refine za9 (λ_ h'=>h.le h'/\∃rs u v,PL h' 3 roots rs/\rs.length<=5/\(NR h' x.c0 u/\BR 3 u)/\(NR h' x.c1 v/\BR 3 v)) ?_ ?_
 . rintro _ h1 ⟨hl1,rs,u,v,hr,h5,⟨hu,bu⟩,hv,bv⟩
   refine zh4 [1] [1] rfl rfl (by decide) (by decide +kernel) (by decide) λr4 h3 hl3 hr4=>?_
   refine za9 (λs h'=>h3.le h'/\∃c:List Rat,PL h' 1 s.1 c/\c.length<=3/\CD 1 (co c)/\trim c≠[]/\(∀x,ev c x≠0)/\∀x,1<=ev (monQ c) x\/ev (monQ c) x<=-1) ?_ ?_
   . rintro⟨s,_⟩ h4 ⟨hl4,c,hc,lc,cC,c0,c1,c2⟩
     simp only at hc
     have l4:=Hp.le_trans hl3 hl4
     have hl:=hr.len
     refine za86 (hr.le l4) hc h5 lc cC λr7 h6 hl6 hr7=>?_
     have l6:=Hp.le_trans l4 hl6
     obtain⟨f1,f2⟩:=za47 (c:=c) (rs:=rs) hr.bound lc cC (Nat.le_refl _) h5
     have cd28:CD 28 (co (pk rs c rs.length)):=f2.mono (by omega)
     have len8:(pk rs c rs.length).length<=8:=by omega
     have hl9:=zaos len8
     refine zaa (λst h'=>h6.le h'/\∃i:Nat,st.2.2.1=(i:Int)/\i<=rs.length/\st.1=(dc rs (λ_=>1) i:Int)/\st.2.1=(dc rs (inn u v) i:Int)) (λst=>(rs.length-st.2.2.1).toNat) ⟨Hp.le_refl _,0,rfl,Nat.zero_le _,rfl,rfl⟩ ?_
     rintro⟨t,w,_,_⟩ h7 ⟨hl7,i,hi,hi2,ht,hw⟩
     simp only at hi ht hw
     subst hi ht hw
     have l7:=Hp.le_trans l6 hl7
     have q1:=dc_le (rs:=rs) (f:=λ_=>1) (i:=i) λ_=>Nat.le_refl _
     have q2:=dc_le (rs:=rs) (f:=inn u v) (i:=i) λ_=>zapj
     refine za5 (λh8=>?_) (λh8=>?_)
     . simp only at h8
       have hi':i<rs.length:=by omega
       refine za9 (λs h'=>h7.le h'/\s.1=(dc rs (λ_=>1) (i+1):Int)/\s.2.1=(dc rs (inn u v) (i+1):Int)) ?_ ?_
       . rintro⟨t,w,_⟩ h9 ⟨hl9',ht,hw⟩
         simp only at ht hw |-
         refine⟨⟨Hp.le_trans hl7 hl9',i+1,by rw[w64 (by omega)];rfl,hi',ht,hw⟩,?_⟩
         rw[w64 (by omega)];omega
       . have hr7':=hr.le l7
         refine PL.get i hr7' rfl hi' λy hy by'=>?_
         have hcap:=hr.cap
         refine zwc 0 i rfl rfl (Nat.zero_le _) (by omega) ?_
         have hcut:=hr7'.cut (n:=i) hi2
         obtain⟨k1,k2,k3⟩:=cut0 roots i 4 (by omega)
         have ltk:(rs.take i).length=i:=by rw[List.length_take];omega
         refine zaa (λst h'=>h7.le h'/\∃j:Nat,st.2.1=(j:Int)/\j<=i/\(st.1=true↔rs[i]∈rs.take j)) (λst=>(i-st.2.1).toNat) ⟨Hp.le_refl _,0,rfl,Nat.zero_le _,by simp⟩ ?_
         rintro⟨ag,_,_⟩ h9 ⟨hl9',j,hj,hj2,hag⟩
         simp only at hj hag
         subst hj
         refine za5 (λh10=>?_) (λh10=>?_)
         . simp only[k1]at h10
           have hj':j<i:=by omega
           refine za9 (λs h'=>h9.le h'/\(s.1=true↔rs[i]∈rs.take (j+1))) ?_ ?_
           . rintro⟨ag2,_⟩ h11 ⟨hl11,hag2⟩
             simp only at hag2 |-
             refine⟨⟨Hp.le_trans hl9' hl11,j+1,by rw[w64 (by omega)];rfl,hj',hag2⟩,?_⟩
             rw[w64 (by omega)];omega
           . refine PL.get j (hcut.le hl9') rfl (by omega) λz hz bz=>?_
             have ez:(rs.take i)[j]'(by omega)=rs.getD j 0:=by rw[List.getElem_take,zabh (by omega)]
             rw[ez]at hz bz
             have et:=zaiv (rs:=rs) (i:=j) (by omega)
             simp only
             cases ag with
             | true=>
               refine zb1 rfl ⟨Hp.le_refl _,?_⟩
               simp only[true_iff]
               rw[et]
               exact List.mem_append.2 (.inl (hag.1 rfl))
             | false=>
               refine zab rfl ?_
               refine zsi (hy.le hl9') hz by' bz (by decide) (by decide) λh11 hl11=>⟨hl11,?_⟩
               show(cmpQ _ _==0)=true↔_
               rw[cmp0,et,List.mem_append,List.mem_singleton]
               constructor
               . exact .inr
               . rintro(g | g)
                 . exact absurd (hag.2 g) (by decide)
                 . exact g
         . simp only[k1]at h10
           have hj':j=i:=by omega
           subst hj'
           have gd:=zabh hi'
           simp only
           cases ag with
           | true=>
             refine zb1 rfl ⟨hl9',?_,?_⟩
             . simp only[dc];rw[if_pos (by rw[gd];exact hag.1 rfl)];rfl
             . simp only[dc];rw[if_pos (by rw[gd];exact hag.1 rfl)];rfl
           | false=>
             have hno:rs.getD j 0∉rs.take j:=λhh=>by rw[gd]at hh;exact absurd (hag.2 hh) (by decide)
             refine zab rfl ?_
             have l9:=Hp.le_trans l7 hl9'
             refine zsi (hu.le l9) (hy.le hl9') bu by' (by decide) (by decide) λh11 hl11=>?_
             have e1:i64.wrap ((dc rs (λ_=>1) j:Int)+1)=(dc rs (λ_=>1) (j+1):Int):=by
              rw[w64 (by omega),dc,if_neg hno];rfl
             have e2:∀{b:Nat},inn u v rs[j]=b->(dc rs (inn u v) (j+1):Int)=(dc rs (inn u v) j:Int)+b:=λ{b} hb=>by
              rw[dc,if_neg hno,gd,hb];rfl
             refine za5 (λh12=>?_) (λh12=>?_)
             . refine zsi ((hy.le hl9').le hl11) ((hv.le l9).le hl11) by' bv (by decide) (by decide) λh13 hl13=>?_
               have l13:=Hp.le_trans hl9' (Hp.le_trans hl11 hl13)
               refine za5 (λh14=>⟨l13,e1,?_⟩) (λh14=>⟨l13,e1,?_⟩)
               . rw[e2 (b:=1) (by unfold inn;rw[if_pos ⟨za06.1 h12,za05.1 h14⟩])]
                 exact w64 (by omega)
               . rw[e2 (b:=0) (by unfold inn;rw[if_neg λhh=>h14 (za05.2 hh.2)])]
                 simp
             . refine⟨Hp.le_trans hl9' hl11,e1,?_⟩
               rw[e2 (b:=0) (by unfold inn;rw[if_neg λhh=>h12 (za06.2 hh.1)])]
               simp
     . simp only at h8
       have hi':i=rs.length:=by omega
       subst hi'
       refine zafq (hr7.le hl7) len8 cd28 (by decide) λh9 hl9'=>?_
       have e1:=zakk (rs:=rs) c0 c1 c2 hl9
       have e2:=zakj (rs:=rs) c0 c1 c2 hl9 (u:=u) (v:=v)
       refine zb1 (by rw[beq_iff_eq];exact e1) ?_
       have l9:=Hp.le_trans l7 hl9'
       refine zx2 ((hr7.le hl7).le hl9') len8 cd28 (by decide) (hu.le l9) (hv.le l9) bu bv (by decide) λh10 hl10=>?_
       refine zb1 (by rw[beq_iff_eq];exact e2) ?_
       refine za85 (((hr7.le hl7).le hl9').le hl10) len8 cd28 (by decide) hl9 (λa b hab hw=>?_) λy h11 hl11 hy=>?_
       . have k1:=known (rs:=rs) c0 c1 c2 hl9 hab
         have k2:=zapf (rs:=rs) hr.bound hw
         omega
       . have:=H h11 (Hp.le_trans hl1 (Hp.le_trans l9 (Hp.le_trans hl10 hl11)))
         have hb:((y.len:Int)==(dc rs (λ_=>1) rs.length:Int))=true:=by rw[beq_iff_eq,hy];exact e1
         rw[hb];exact this
   . have one:∀(c:List Rat),((∀j,co c j=0\/co c j=1))->CD 1 (co c):=λc hc=>by
      have l1:Lt 1 1:=by unfold Lt;decide
      refine⟨1,λj=>if co c j=0 then 0 else 1,by decide,l1,λj=>?_,λj=>?_⟩
      . show Lt 1 (if co c j=0 then 0 else 1)
        split
        . exact Lt.zero
        . exact l1
      . show co c j*_=((if co c j=0 then 0 else 1:Int):Rat)
        rcases hc j with h0 | h0
        . rw[if_pos h0,h0];decide +kernel
        . rw[if_neg (by rw[h0];decide),h0];decide +kernel
     cases cx with
     | true=>
       refine zb1 rfl ?_
       refine zh4 [1,0,1] [1,0,1] rfl rfl (by decide) (by decide +kernel) (by decide) λr28 h4 hl4 hr28=>?_
       have e:∀x:Rat,ev [1,0,1] x=1+x*x:=λx=>by simp only[ev];grind
       refine⟨hl4,[1,0,1],hr28,by decide,one _ λj=>?_,?_,λx hh=>?_,λx=>.inl ?_⟩
       . match j with
         | 0=>exact .inr rfl
         | 1=>exact .inl rfl
         | 2=>exact .inr rfl
         | j+3=>exact .inl (co_ge (by simp))
       . decide +kernel
       . rw[e]at hh
         have:=sq_nn x
         grind
       . have:monQ ([1,0,1]:List Rat)=[1,0,1]:=by decide +kernel
         rw[this,e]
         have:=sq_nn x
         grind
     | false=>
       refine zab rfl ⟨Hp.le_refl _,[1],hr4,by decide,one _ λj=>?_,za43,λx hh=>?_,λx=>.inl ?_⟩
       . match j with
         | 0=>exact .inr rfl
         | j+1=>exact .inl (co_ge (by simp))
       . simp only[ev]at hh;grind
       . have:monQ ([1]:List Rat)=[1]:=by decide +kernel
         rw[this];simp only[ev];grind
 . refine zhq λh1 hl1=>zab rfl ?_
   refine za5 (λ_=>zhq λh2 hl2=>H _ (Hp.le_trans hl1 hl2)) (λg1=>?_)
   refine zeq (n:=1) (size:=1) rfl λb h2 hb ho=>?_
   have l2:=Hp.le_trans hl1 ho.1
   refine zage (ss:=[roots]) ho.rd (λs hs=>by rw[List.mem_singleton.1 hs];exact ha.le l2) (by simp) (λh3 hl3 hsm=>zab rfl ?_) (λh3 hl3=>zb1 rfl (zhq λh4 hl4=>H _ (Hp.le_trans l2 (Hp.le_trans hl3 hl4))))
   obtain⟨rs,hp,h8⟩:=hsm roots (by simp)
   have l3:=Hp.le_trans l2 hl3
   have lr:=hp.len
   refine zmq (hx.1.le l3) (λu h4 hl4 hu bu=>zab rfl ?_) (λh4 hl4=>zb1 rfl (zhq λh5 hl5=>H _ (Hp.le_trans l3 (Hp.le_trans hl4 hl5))))
   have l4:=Hp.le_trans l3 hl4
   refine zmq (hx.2.le l4) (λv h5 hl5 hv bv=>zab rfl ?_) (λh5 hl5=>zb1 rfl (zhq λh6 hl6=>H _ (Hp.le_trans l4 (Hp.le_trans hl5 hl6))))
   exact⟨Hp.le_trans l4 hl5,rs,u,v,hp.le (Hp.le_trans hl3 (Hp.le_trans hl4 hl5)),by omega,⟨hu.le (Hp.le_trans hl4 hl5),bu⟩,⟨hv.le hl5,bv⟩⟩
end
end Den
end
